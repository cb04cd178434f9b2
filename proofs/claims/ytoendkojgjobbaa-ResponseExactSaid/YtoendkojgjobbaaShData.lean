/- The data of the Go types. -/
import Derived.Test.YtoendkojgjobbaaLibS
namespace Go.Proofs.Ytoendkojgjobbaa.Sh
open Go

structure Arr2 (α : Type) where
  e0 : α
  e1 : α

structure Arr3 (α : Type) where
  e0 : α
  e1 : α
  e2 : α

structure Stage where
  Kind : Int
  Num : (Arr3 Int)
  Den : (Arr3 Int)
  Taps : (List Int)
  Factor : Int
  Shift : Int

structure Response where
  Stages : (List Stage)

structure Rate where
  Num : Int
  Den : Int

structure Fraction where
  Num : (List Int)
  Den : (List Int)

structure Ratio where
  Num : Int
  Den : Int

structure Dice where
  L : (List Int)
  At : Int

end Go.Proofs.Ytoendkojgjobbaa.Sh

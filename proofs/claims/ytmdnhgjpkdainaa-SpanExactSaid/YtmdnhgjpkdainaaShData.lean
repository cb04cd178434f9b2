/- The data of the Go types. -/
import Derived.Test.YtmdnhgjpkdainaaLibS
namespace Go.Proofs.Ytmdnhgjpkdainaa.Sh
open Go

structure Arr2 (α : Type) where
  e0 : α
  e1 : α

structure Span where
  From : Int
  To : Int

structure Dice where
  L : (List Int)
  At : Int

end Go.Proofs.Ytmdnhgjpkdainaa.Sh

/- The data of the Go types. -/
import Derived.Test.YtmihimhknllmcaaLibS
namespace Go.Proofs.Ytmihimhknllmcaa.Sh
open Go

structure Arr3 (α : Type) where
  e0 : α
  e1 : α
  e2 : α

structure Filter where
  Taps : (List Int)
  Factor : Int
  Shift : Int

structure Dice where
  L : (List Int)
  At : Int

structure Feed where
  Filter : Filter
  Past : (List Int)
  Number : Int

structure Rate where
  Num : Int
  Den : Int

structure Segment where
  Start : Int
  First : Int
  Rate : Rate
  Error : Int
  Samples : (List Int)

structure SourceID where
  Network : ByteArray
  Station : ByteArray
  Location : ByteArray
  Channel : ByteArray

structure Record where
  Source : SourceID
  Start : Int
  First : Int
  Rate : Rate
  Error : Int
  Run : Int
  Seq : Int
  Samples : (List Int)

structure Stage where
  Kind : Int
  Num : (Arr3 Int)
  Den : (Arr3 Int)
  Taps : (List Int)
  Factor : Int
  Shift : Int

end Go.Proofs.Ytmihimhknllmcaa.Sh

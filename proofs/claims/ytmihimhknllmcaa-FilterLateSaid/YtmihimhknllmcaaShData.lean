/- The data of the Go types. -/
import Derived.Test.YtmihimhknllmcaaLibS
namespace Go.Proofs.Ytmihimhknllmcaa.Sh
open Go

structure Filter where
  Taps : (List Int)
  Factor : Int
  Shift : Int

structure Dice where
  L : (List Int)
  At : Int

structure Feed where
  Filter : Filter
  Past : (List Int)
  Number : Int

structure Rate where
  Num : Int
  Den : Int

structure Segment where
  Start : Int
  First : Int
  Rate : Rate
  Error : Int
  Samples : (List Int)

structure SourceID where
  Network : ByteArray
  Station : ByteArray
  Location : ByteArray
  Channel : ByteArray

structure Record where
  Source : SourceID
  Start : Int
  First : Int
  Rate : Rate
  Error : Int
  Run : Int
  Seq : Int
  Samples : (List Int)

end Go.Proofs.Ytmihimhknllmcaa.Sh

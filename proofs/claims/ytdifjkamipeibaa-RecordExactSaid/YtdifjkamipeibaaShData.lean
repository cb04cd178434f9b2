/- The data of the Go types. -/
import Derived.Test.YtdifjkamipeibaaLibS
namespace Go.Proofs.Ytdifjkamipeibaa.Sh
open Go

structure Arr2 (α : Type) where
  e0 : α
  e1 : α

structure Span where
  From : Int
  To : Int

structure SourceID where
  Network : ByteArray
  Station : ByteArray
  Location : ByteArray
  Channel : ByteArray

structure Rate where
  Num : Int
  Den : Int

structure Record where
  Source : SourceID
  Start : Int
  First : Int
  Rate : Rate
  Error : Int
  Run : Int
  Seq : Int
  Samples : (List Int)

structure Dice where
  L : (List Int)
  At : Int

end Go.Proofs.Ytdifjkamipeibaa.Sh

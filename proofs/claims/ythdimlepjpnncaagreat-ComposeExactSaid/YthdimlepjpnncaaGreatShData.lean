/- The data of the Go types. -/
import Derived.Test.YthdimlepjpnncaaGreatLa1
namespace Go.Proofs.YthdimlepjpnncaaGreat.Sh
open Go
structure SourceID where
  Network : ByteArray
  Station : ByteArray
  Location : ByteArray
  Channel : ByteArray
structure Rate where
  Num : Int
  Den : Int
structure Record where
  Source : SourceID
  Start : Int
  First : Int
  Rate : Rate
  Error : Int
  Run : Int
  Seq : Int
  Samples : (List Int)
structure Span where
  From : Int
  To : Int
structure Dice where
  L : (List Int)
  At : Int
structure Compose_sample where
  from_ : Int
  to_ : Int
  value_ : Int
end Go.Proofs.YthdimlepjpnncaaGreat.Sh

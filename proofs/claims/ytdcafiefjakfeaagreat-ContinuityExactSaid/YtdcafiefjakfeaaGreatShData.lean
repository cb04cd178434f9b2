/- The data of the Go types. -/
import Derived.Test.YtdcafiefjakfeaaGreatLa1
namespace Go.Proofs.YtdcafiefjakfeaaGreat.Sh
open Go
structure Arr2 (α:Type) where
  e0:α
  e1:α
structure SourceID where
  Network:ByteArray
  Station:ByteArray
  Location:ByteArray
  Channel:ByteArray
structure Rate where
  Num:Int
  Den:Int
structure Record where
  Source:SourceID
  Start:Int
  First:Int
  Rate:Rate
  Error:Int
  Run:Int
  Seq:Int
  Samples:(List Int)
structure Segment where
  Start:Int
  First:Int
  Rate:Rate
  Error:Int
  Samples:(List Int)
structure Span where
  From:Int
  To:Int
structure Overlap where
  From:Int
  To:Int
  Same:Bool
structure Continuity_state where
  depth_:Int
  same_:Bool
structure Dice where
  L:(List Int)
  At:Int
structure Continuity_builder where
  Segment:Segment
  worst_:Int
  off_:Int
end Go.Proofs.YtdcafiefjakfeaaGreat.Sh

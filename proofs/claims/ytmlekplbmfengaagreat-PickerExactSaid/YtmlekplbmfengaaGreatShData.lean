/- The data of the Go types. -/
import Derived.Test.YtmlekplbmfengaaGreatLibS
namespace Go.Proofs.YtmlekplbmfengaaGreat.Sh
open Go
structure Arr2 (α : Type) where
  e0 : α
  e1 : α
structure Detector where
  Short : Int
  Long : Int
  On : Int
  Off : Int
structure Picking where
  Detector : Detector
  Back : Int
  Level : Int
  Floor : Int
structure Trigger where
  On : Int
  Off : Int
  Peak : Int
structure SourceID where
  Network : ByteArray
  Station : ByteArray
  Location : ByteArray
  Channel : ByteArray
structure Pick where
  Source : SourceID
  Time : Int
  Early : Int
  Late : Int
  Amplitude : Int
  Polarity : Int
structure Rate where
  Num : Int
  Den : Int
structure Segment where
  Start : Int
  First : Int
  Rate : Rate
  Error : Int
  Samples : (List Int)
structure Record where
  Source : SourceID
  Start : Int
  First : Int
  Rate : Rate
  Error : Int
  Run : Int
  Seq : Int
  Samples : (List Int)
structure Watch where
  Detector : Detector
  Past : (List Int)
  Count : Int
  Open : Trigger
structure Detector_window where
  Watch : Watch
  short_ : Int
  long_ : Int
  ended_ : (List Trigger)
structure Dice where
  L : (List Int)
  At : Int
end Go.Proofs.YtmlekplbmfengaaGreat.Sh

/- The data of the Go types. -/
import Derived.Test.YteanekphncdhiaaGreatLa1
namespace Go.Proofs.YteanekphncdhiaaGreat.Sh
open Go
structure Arr2 (α:Type) where
  e0:α
  e1:α
structure Arr3 (α:Type) where
  e0:α
  e1:α
  e2:α
structure Stage where
  Kind:Int
  Num:(Arr3 Int)
  Den:(Arr3 Int)
  Taps:(List Int)
  Factor:Int
  Shift:Int
structure SourceID where
  Network:ByteArray
  Station:ByteArray
  Location:ByteArray
  Channel:ByteArray
structure Rate where
  Num:Int
  Den:Int
structure Position where
  X:Int
  Y:Int
  Z:Int
structure Response where
  Stages:(List Stage)
structure Epoch where
  From:Int
  To:Int
  Rate:Rate
  Position:Position
  Response:Response
structure Channel where
  Source:SourceID
  Epochs:(List Epoch)
structure Inventory where
  Channels:(List Channel)
structure Change where
  Kind:Int
  Source:SourceID
  From:Int
  Epoch:Epoch
structure Span where
  From:Int
  To:Int
structure Affected where
  Source:SourceID
  Spans:(List Span)
structure Dice where
  L:(List Int)
  At:Int
structure History where
  Base:Inventory
  Changes:(List Change)
instance:MkKey SourceID:=⟨fun x=>x.Network.size≤maxLen∧x.Station.size≤maxLen∧x.Location.size≤maxLen∧x.Channel.size≤maxLen⟩
end Go.Proofs.YteanekphncdhiaaGreat.Sh

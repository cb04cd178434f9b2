/- The data of the Go types. -/
import Derived.Test.YtljdiobhmenjgaaLibS
namespace Go.Proofs.Ytljdiobhmenjgaa.Sh
open Go

structure Transit where
  At : Int
  Order : Int
  Data : ByteArray

structure Wire where
  Now : Int
  Order : Int
  Items : (List Transit)

structure Fault where
  Drop : Bool
  Delay : Int
  Copies : Int

structure Dice where
  L : (List Int)
  At : Int

end Go.Proofs.Ytljdiobhmenjgaa.Sh

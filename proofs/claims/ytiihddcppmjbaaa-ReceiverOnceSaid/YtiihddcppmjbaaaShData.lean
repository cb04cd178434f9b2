/- The data of the Go types. -/
import Derived.Test.YtiihddcppmjbaaaLibS
namespace Go.Proofs.Ytiihddcppmjbaaa.Sh
open Go

structure Span where
  From : Int
  To : Int

structure Receiver where
  Got : (List Span)
  Lost : (List Span)

structure Dice where
  L : (List Int)
  At : Int

end Go.Proofs.Ytiihddcppmjbaaa.Sh

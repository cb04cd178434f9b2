/- The data of the Go types. -/
import Derived.Test.YtmihimhknllmcaaLibS
namespace Go.Proofs.Ytmihimhknllmcaa.Sh
open Go

structure Filter where
  Taps : (List Int)
  Factor : Int
  Shift : Int

structure Dice where
  L : (List Int)
  At : Int

end Go.Proofs.Ytmihimhknllmcaa.Sh

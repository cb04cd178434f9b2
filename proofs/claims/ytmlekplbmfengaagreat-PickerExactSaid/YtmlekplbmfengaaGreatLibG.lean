/- From a given statement's arguments to the readings that the walks ask for, and back. No Go program is named here. -/
import Derived.Test.YtmlekplbmfengaaGreatLibF
import Derived.WalkKit
import Derived.ProofKit
import Derived.OpenShut
import Derived.ShutString
import Derived.ChangeOld
import Derived.Below
namespace Go.Proofs.YtmlekplbmfengaaGreat.Wk
open Go Go.RowKit Go.Proofs.YtmlekplbmfengaaGreat.Sh
open Go.ChangeShapes Go.WideShapes Go.ChangeAt
theorem PostW.below {w w' : World} {S S' : Nat → Prop} (h : PostW [] w S w' S') : Below w.heap.size w w' :=
  ⟨h.os, h.tape, h.output, h.size, fun k hk => h.keep k hk (by simp)⟩
theorem addr_off {a : Addr} (h : a.spot = none) (i : Nat) : a.add i = ⟨a.block, a.off + i, none⟩ := by
  obtain ⟨b, o, s⟩ := a
  simp only at h
  subst h
  unfold Addr.add
  split
  · next h0 => subst h0; rfl
  · rfl
end Go.Proofs.YtmlekplbmfengaaGreat.Wk

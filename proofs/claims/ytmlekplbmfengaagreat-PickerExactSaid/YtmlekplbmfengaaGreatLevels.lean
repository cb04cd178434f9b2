/- Louder samples, other pickings: what turns of the picks (chapter 23). -/
import Derived.Test.YtmlekplbmfengaaGreatDiceSeg
namespace Go.Proofs.YtmlekplbmfengaaGreat.Sh
open Go
set_option linter.unusedVariables false
set_option linter.unusedSimpArgs false
/-- equal lists of picks -/
theorem ba_beq (a b : ByteArray) : (a == b) = decide (a = b) := by
  cases a with | mk x => cases b with | mk y =>
  show (x == y) = _
  rw [Bool.eq_iff_iff]; simp
theorem ba_refl (a : ByteArray) : (a == a) = true := by rw [ba_beq, decide_eq_true rfl]
theorem psame (a : List Pick) (ha : a.length ≤ 100000) : ref23_Same a a = some true := by
  unfold ref23_Same
  rw [if_neg (by simp)]
  refine whileM_for' (fun i => (i : Int)) a.length _ rfl (fun i hi => ?_) ?_
  · unfold ref23_Same_l2
    rw [if_pos (decide_eq_true (by omega)), ix_nat _ _ hi]
    simp only [Option.bind_some]
    rw [if_neg (by simp [ba_refl]), w64_id (by omega) (by omega)]; rfl
  · unfold ref23_Same_l2
    rw [if_neg (by simp)]; rfl
end Go.Proofs.YtmlekplbmfengaaGreat.Sh

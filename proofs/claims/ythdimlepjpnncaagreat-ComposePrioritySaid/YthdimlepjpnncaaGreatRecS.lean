/- Records as plain programs: Sub, Span, At, Follows, Same (chapter 14). -/
import Derived.Test.YthdimlepjpnncaaGreatRecF
namespace Go.Proofs.YthdimlepjpnncaaGreat.Sh
open Go
set_option linter.unusedVariables false
set_option linter.unusedSimpArgs false

theorem clone_int (s : List Int) (h : s.length ≤ 1000000) : slices_Clone_Lint_int s = some s := by
  unfold slices_Clone_Lint_int
  rw [appM_one _ _ _ (by simpa using h) (by decide)]
  rfl
theorem sub_eq {r : Record} (h : RF r) {a b : Nat} (hab : a ≤ b) (hb : b ≤ r.Samples.length) : record_sub r a b = some (subR r a b) := by
  have f0 := h.f0
  have f1 := h.f1
  have l1 := h.l1
  unfold record_sub
  rw [sub_at _ _ _ hab hb]
  simp only [Option.bind]
  rw [clone_int _ (by simp; omega), w64_id (x := r.First + (a : Int)) (by omega) (by omega)]
  rfl
theorem Sub_eq {r : Record} (h : RF r) {a b : Nat} (hab : a < b) (hb : b ≤ r.Samples.length) : record_Sub r a b = some (subR r a b, 0) := by
  unfold record_Sub
  rw [h.valid]
  simp only [Option.bind, Bool.not_true, Bool.false_eq_true, if_false]
  rw [if_neg (by simp; omega), sub_eq h (by omega) hb]
theorem equal_int (a b : List Int) (h : a.length ≤ 1000000000) : slices_Equal_Lint_int a b = some (decide (a = b)) := by
  unfold slices_Equal_Lint_int
  by_cases hl : a.length = b.length
  · rw [if_neg (by simp [hl])]
    refine loop_same a b (fun x y => x == y) (fun x y => by simp) hl (fun i hi he => ?_) (fun i hi he => ?_) ?_
    · simp only [slices_Equal_Lint_int_l2]
      rw [if_pos (decide_eq_true (by omega)), ix_nat _ _ hi, ix_nat _ _ (show i < b.length by omega)]
      simp only [Option.bind, bne, he, Bool.not_true, Bool.false_eq_true, if_false]
      rw [w64_id (by omega) (by omega)]
      rfl
    · simp only [slices_Equal_Lint_int_l2]
      rw [if_pos (decide_eq_true (by omega)), ix_nat _ _ hi, ix_nat _ _ (show i < b.length by omega)]
      simp only [Option.bind, bne, he, Bool.not_false, if_true]
    · simp only [slices_Equal_Lint_int_l2]
      rw [if_neg (by simp)]
      rfl
  · rw [if_pos (by simp; omega), decide_eq_false (fun h => hl (by rw [h]))]
theorem ba_beq (a b : ByteArray) : (a == b) = decide (a = b) := by
  cases a with | mk x => cases b with | mk y =>
  show (x == y) = _
  rw [Bool.eq_iff_iff]; simp
theorem ba_refl (a : ByteArray) : (a == a) = true := by rw [ba_beq, decide_eq_true rfl]
theorem Same_refl {r : Record} (h : r.Samples.length ≤ 1000000000) : record_Same r r = some true := by
  unfold record_Same
  simp only [ba_refl, beq_self_eq_true, Bool.and_self, if_true]
  rw [equal_int _ _ h, decide_eq_true rfl]
  rfl

end Go.Proofs.YthdimlepjpnncaaGreat.Sh

/- A search in a list of numbers, as a plain program. -/
import Derived.Test.YthdimlepjpnncaaGreatLoops
import Derived.Test.YthdimlepjpnncaaGreatSh
namespace Go.Proofs.YthdimlepjpnncaaGreat.Sh
open Go
set_option linter.unusedVariables false
set_option linter.unusedSimpArgs false

theorem contains_spec (p : Int → Bool) (f : Int → Option Bool) (hf : ∀ x, f x = some (p x)) (s : List Int) (hl : s.length ≤ 1000000000) : slices_ContainsFunc_Lint_int s f = some (s.any p) := by
  have hw : slices_IndexFunc_Lint_int s f = some (if s.findIdx p < s.length then (s.findIdx p : Int) else -1) := by
    unfold slices_IndexFunc_Lint_int
    have hle := List.findIdx_le_length (xs := s) (p := p)
    refine whileM_for' (fun i => (i : Int)) (s.findIdx p) _ rfl (fun i hi => ?_) ?_
    · have hn := List.not_of_lt_findIdx hi
      simp only [slices_IndexFunc_Lint_int_l2]
      rw [if_pos (decide_eq_true (by omega)), ix_nat _ _ (by omega)]
      simp only [Option.bind, hf]
      rw [if_neg (by simpa using hn), w64_id (by omega) (by omega)]
      rfl
    · simp only [slices_IndexFunc_Lint_int_l2]
      by_cases h : s.findIdx p < s.length
      · rw [if_pos (decide_eq_true (by omega)), ix_nat _ _ h]
        simp only [Option.bind, hf]
        rw [if_pos (List.findIdx_getElem (w := h)), if_pos h]
      · rw [if_neg (fun hh => h (by have := of_decide_eq_true hh; omega)), if_neg h]; rfl
  unfold slices_ContainsFunc_Lint_int
  rw [hw]
  simp only [Option.bind]
  by_cases h : s.findIdx p < s.length
  · rw [if_pos h]
    have h2 := List.findIdx_getElem (xs := s) (p := p) (w := h)
    have : s.any p = true := List.any_eq_true.2 ⟨_, List.getElem_mem h, h2⟩
    rw [this, decide_eq_true (Int.natCast_nonneg _)]
  · rw [if_neg h]
    have : s.any p = false := by
      rw [List.any_eq_false]
      intro x hx hp
      exact h (List.findIdx_lt_length_of_exists ⟨x, hx, hp⟩)
    rw [this]
    rfl


end Go.Proofs.YthdimlepjpnncaaGreat.Sh

/- The dice of the statements, as plain programs: what they give lies in its range, and the dice stay well. -/
import Derived.Test.YtmlekplbmfengaaGreatLibP
import Derived.Test.YtmlekplbmfengaaGreatSh
namespace Go.Proofs.YtmlekplbmfengaaGreat.Sh
open Go
set_option linter.unusedVariables false
set_option linter.unusedSimpArgs false
structure DOK (d : Dice) : Prop where
  a0 : 0 ≤ d.At
  a1 : d.At ≤ d.L.length
  len : d.L.length ≤ 500
theorem DOK.roll {l : List Int} (h : l.length ≤ 500) : DOK ⟨l, 0⟩ := ⟨Int.le_refl _, by simp, h⟩
theorem light_spec (l : List Int) : made_Light l = some (decide (l.length ≤ 500)) := by
  simp only [made_Light, Option.some.injEq, decide_eq_decide]; omega
theorem next_spec {d : Dice} (hd : DOK d) {n : Int} (h1 : 1 ≤ n) (h2 : n ≤ 9223372036854775807) : ∃ x d', made_Dice_Next d n = some (x, d') ∧ 0 ≤ x ∧ x < n ∧ DOK d' := by
  obtain ⟨a0, a1, len⟩ := hd
  unfold made_Dice_Next
  by_cases h : (d.L.length : Int) ≤ d.At
  · refine ⟨0, d, ?_, Int.le_refl _, by omega, a0, a1, len⟩
    simp [h]
  · have hn : ¬ n < 1 := by omega
    have hnext : DOK ⟨d.L, w64 (d.At + 1)⟩ := by
      rw [w64_id (by omega) (by omega)]; exact ⟨by simp only; omega, by simp only; omega, len⟩
    rw [if_neg (by simp [h, hn]), ix_at d.L d.At a0 (by omega)]
    simp only [Option.bind]
    rw [remM_at _ _ (by omega)]
    simp only [made_Dice_Next_j1]
    generalize hx : (d.L[d.At.toNat]'(by omega)) = x
    have hb : -n < x.tmod n ∧ x.tmod n < n := ⟨Int.lt_tmod_of_pos x (by omega), Int.tmod_lt_of_pos x (by omega)⟩
    by_cases hneg : x.tmod n < 0
    · simp only [hneg, decide_true, if_true, Option.bind]
      refine ⟨_, _, rfl, ?_, ?_, hnext⟩ <;> rw [w64_id (by omega) (by omega)] <;> omega
    · simp only [hneg, decide_false, Bool.false_eq_true, if_false]
      exact ⟨_, _, rfl, by omega, by omega, hnext⟩
theorem pick_spec {d : Dice} (hd : DOK d) {l : List Int} (h1 : 1 ≤ l.length) (h2 : l.length ≤ 1000) : ∃ x d', made_Dice_Pick d l = some (x, d') ∧ x ∈ l ∧ DOK d' := by
  obtain ⟨x, d', e, x0, x1, hd'⟩ := next_spec hd (n := (l.length : Int)) (by omega) (by omega)
  unfold made_Dice_Pick
  rw [e]
  simp only [Option.bind]
  rw [ix_at l x x0 x1]
  exact ⟨_, _, rfl, List.getElem_mem _, hd'⟩
end Go.Proofs.YtmlekplbmfengaaGreat.Sh

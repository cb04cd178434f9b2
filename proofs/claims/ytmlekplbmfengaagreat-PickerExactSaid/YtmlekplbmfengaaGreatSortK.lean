/- What sorting gives: a permutation in order. -/
import Derived.Test.YtmlekplbmfengaaGreatSim
import Derived.Test.YtmlekplbmfengaaGreatLibT
namespace Go.Proofs.YtmlekplbmfengaaGreat.Sh
open Go
set_option linter.unusedVariables false
set_option linter.unusedSimpArgs false
section
variable {α : Type}
/-- a comparison that runs, and orders, where P holds -/
structure CmpOK (P : α → Prop) (cmp : α → α → Option Int) (lt : α → α → Bool) : Prop where
  run : ∀ x y, P x → P y → ∃ c, cmp x y = some c ∧ decide (c < 0) = lt x y
  irr : ∀ x, P x → lt x x = false
  tr : ∀ x y z, P x → P y → P z → lt x y = true → lt y z = true → lt x z = true
  ntr : ∀ x y z, P x → P y → P z → lt x y = false → lt y z = false → lt x z = false
variable {P : α → Prop} {cmp : α → α → Option Int} {lt : α → α → Bool}
theorem CmpOK.ltX_eq (hc : CmpOK P cmp lt) {x : List α} (hP : ∀ y ∈ x, P y) (a b : {y // y ∈ x}) : cmp a.1 b.1 = some (cfX x cmp a b) ∧ ltX x cmp a b = lt a.1 b.1 := by
  obtain ⟨c, h1, h2⟩ := hc.run a.1 b.1 (hP _ a.2) (hP _ b.2)
  have e : cfX x cmp a b = c := by unfold cfX; rw [h1]; rfl
  exact ⟨by rw [e]; exact h1, by unfold ltX; rw [e]; exact h2⟩
theorem CmpOK.ok (hc : CmpOK P cmp lt) {x : List α} (hP : ∀ y ∈ x, P y) (hl : x.length < 1000000000000) : SortOK x cmp := by
  refine ⟨fun a b => (hc.ltX_eq hP a b).1, ⟨fun a => ?_, fun a b d h1 h2 => ?_, fun a b d h1 h2 => ?_⟩, hl⟩
  · rw [(hc.ltX_eq hP a a).2]; exact hc.irr _ (hP _ a.2)
  · rw [(hc.ltX_eq hP _ _).2] at *; exact hc.tr _ _ _ (hP _ a.2) (hP _ b.2) (hP _ d.2) h1 h2
  · rw [(hc.ltX_eq hP _ _).2] at *; exact hc.ntr _ _ _ (hP _ a.2) (hP _ b.2) (hP _ d.2) h1 h2
/-- slices.SortFunc: in order, and the same elements -/
theorem sort_spec (hc : CmpOK P cmp lt) {l : List α} (hP : ∀ x ∈ l, P x) (hl : l.length < 1000000000000) :
    ∃ m, sortP l cmp = some m ∧ m.Perm l ∧ m.length = l.length ∧ SR lt 0 l.length m := by
  unfold sortP
  by_cases h : l = []
  · subst h
    exact ⟨[], by simp, List.Perm.refl _, rfl, fun i j x y _ _ h => by simp at h⟩
  · rw [dif_neg h, if_pos (hc.ok hP hl)]
    obtain ⟨h1, h2⟩ := pdqX_spec h (hc.ok hP hl) lt (fun a b => (hc.ltX_eq hP a b).2)
    exact ⟨_, rfl, h1, h1.length_eq, h2⟩
end
end Go.Proofs.YtmlekplbmfengaaGreat.Sh

/- Two loops that go alike. -/
import Derived.Test.YtmlekplbmfengaaGreatLibP
namespace Go.Proofs.YtmlekplbmfengaaGreat.Sh
open Go
set_option linter.unusedVariables false
set_option linter.unusedSimpArgs false
/-- one loop: it ends, and what it hands back fits -/
theorem loop_ex {σ β : Type} {b1 : σ → Option (σ ⊕ β)} (R : Nat → σ → Prop) (Q : β → Prop)
    (h : ∀ n s, R n s → (∃ s' n', b1 s = some (.inl s') ∧ R n' s' ∧ n' < n) ∨ ∃ r, b1 s = some (.inr r) ∧ Q r) :
    ∀ n s, R n s → ∃ r, whileM b1 s = some r ∧ Q r := by
  intro n
  induction n using Nat.strongRecOn with
  | _ n ih =>
    intro s hR
    rcases h n s hR with ⟨s', n', e1, hR', hlt⟩ | ⟨r, e1, hq⟩
    · obtain ⟨r, h1, h3⟩ := ih n' hlt s' hR'
      exact ⟨r, by rw [whileM_eq, e1]; exact h1, h3⟩
    · exact ⟨r, by rw [whileM_eq, e1]; rfl, hq⟩
end Go.Proofs.YtmlekplbmfengaaGreat.Sh

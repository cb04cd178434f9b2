/- Two loops that go alike. -/
import Derived.Test.YthdimlepjpnncaaGreatLibP
namespace Go.Proofs.YthdimlepjpnncaaGreat.Sh
open Go
set_option linter.unusedVariables false
set_option linter.unusedSimpArgs false

/-- two loops side by side: both end, and what they hand back fits -/
theorem sim {σ τ β γ : Type} {b1 : σ → Option (σ ⊕ β)} {b2 : τ → Option (τ ⊕ γ)} (R : Nat → σ → τ → Prop) (Q : β → γ → Prop)
    (h : ∀ n s t, R n s t → (∃ s' t' n', b1 s = some (.inl s') ∧ b2 t = some (.inl t') ∧ R n' s' t' ∧ n' < n) ∨ ∃ r q, b1 s = some (.inr r) ∧ b2 t = some (.inr q) ∧ Q r q) :
    ∀ n s t, R n s t → ∃ r q, whileM b1 s = some r ∧ whileM b2 t = some q ∧ Q r q := by
  intro n
  induction n using Nat.strongRecOn with
  | _ n ih =>
    intro s t hR
    rcases h n s t hR with ⟨s', t', n', e1, e2, hR', hlt⟩ | ⟨r, q, e1, e2, hq⟩
    · obtain ⟨r, q, h1, h2, h3⟩ := ih n' hlt s' t' hR'
      refine ⟨r, q, ?_, ?_, h3⟩
      · rw [whileM_eq, e1]; exact h1
      · rw [whileM_eq, e2]; exact h2
    · refine ⟨r, q, ?_, ?_, hq⟩
      · rw [whileM_eq, e1]; rfl
      · rw [whileM_eq, e2]; rfl

/-- one loop: it ends, and what it hands back fits -/
theorem loop_ex {σ β : Type} {b1 : σ → Option (σ ⊕ β)} (R : Nat → σ → Prop) (Q : β → Prop)
    (h : ∀ n s, R n s → (∃ s' n', b1 s = some (.inl s') ∧ R n' s' ∧ n' < n) ∨ ∃ r, b1 s = some (.inr r) ∧ Q r) :
    ∀ n s, R n s → ∃ r, whileM b1 s = some r ∧ Q r := by
  intro n
  induction n using Nat.strongRecOn with
  | _ n ih =>
    intro s hR
    rcases h n s hR with ⟨s', n', e1, hR', hlt⟩ | ⟨r, e1, hq⟩
    · obtain ⟨r, h1, h3⟩ := ih n' hlt s' hR'
      exact ⟨r, by rw [whileM_eq, e1]; exact h1, h3⟩
    · exact ⟨r, by rw [whileM_eq, e1]; rfl, hq⟩

theorem ix_mem {α : Type} (xs : List α) (i : Nat) (h : i < xs.length) : ∃ x ∈ xs, ix xs (i : Int) = some x :=
  ⟨xs[i], List.getElem_mem _, ix_nat xs i h⟩

end Go.Proofs.YthdimlepjpnncaaGreat.Sh

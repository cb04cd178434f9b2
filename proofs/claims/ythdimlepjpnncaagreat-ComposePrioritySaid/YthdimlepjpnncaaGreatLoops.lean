/- More plain words for plain programs: loops that look for something, binary search. No Go program is named here. -/
import Derived.Test.YthdimlepjpnncaaGreatLibP
namespace Go.Proofs.YthdimlepjpnncaaGreat.Sh
open Go
set_option linter.unusedVariables false
set_option linter.unusedSimpArgs false

/-- a loop that counts and leaves at the first number that is not well -/
theorem loop_all {β : Type} {body : Int → Option (Int ⊕ β)} (n : Nat) (p : Nat → Bool) (r0 r1 : β)
    (h1 : ∀ i : Nat, i < n → p i = true → body (i : Int) = some (.inl ((i + 1 : Nat) : Int))) (h2 : ∀ i : Nat, i < n → p i = false → body (i : Int) = some (.inr r0)) (h3 : body (n : Int) = some (.inr r1)) :
    whileM body 0 = some (if (List.range n).all p = true then r1 else r0) := by
  have key : ∀ m, m ≤ n → whileM body ((n - m : Nat) : Int) = some (if (List.range' (n - m) m).all p = true then r1 else r0) := by
    intro m
    induction m with
    | zero => intro _; rw [whileM_eq, Nat.sub_zero, h3]; rfl
    | succ m ih =>
      intro hm
      have ih := ih (by omega)
      rw [show n - m = n - (m + 1) + 1 by omega] at ih
      rw [whileM_eq, List.range'_succ, List.all_cons]
      cases hp : p (n - (m + 1)) with
      | true =>
        rw [h1 _ (by omega) hp]
        simp only [Option.bind, Bool.true_and]
        exact ih
      | false =>
        rw [h2 _ (by omega) hp]
        simp
  have := key n (Nat.le_refl _)
  rw [Nat.sub_self] at this
  rw [List.range_eq_range']
  exact this
theorem range_all {α : Type} (l : List α) (q : α → Bool) (p : Nat → Bool) (h : ∀ i (hi : i < l.length), p i = q l[i]) : (List.range l.length).all p = l.all q := by
  rw [Bool.eq_iff_iff, List.all_eq_true, List.all_eq_true]
  constructor
  · intro H x hx
    obtain ⟨i, hi, rfl⟩ := List.getElem_of_mem hx
    rw [← h i hi]
    exact H i (List.mem_range.2 hi)
  · intro H i hi
    have hi := List.mem_range.1 hi
    rw [h i hi]
    exact H _ (List.getElem_mem _)


theorem sub_at {α : Type} (xs : List α) (a b : Nat) (h1 : a ≤ b) (h2 : b ≤ xs.length) : subM xs (a : Int) (b : Int) = some ((xs.take b).drop a) := by
  unfold subM
  rw [if_pos (by omega)]
  simp only [Int.toNat_natCast]
theorem sub_int {α : Type} (xs : List α) (a b : Int) (h0 : 0 ≤ a) (h1 : a ≤ b) (h2 : b ≤ xs.length) : subM xs a b = some ((xs.take b.toNat).drop a.toNat) := by
  unfold subM
  rw [if_pos (by omega)]

/-- two lists, element by element -/
theorem loop_same {α : Type} [DecidableEq α] {body : Int → Option (Int ⊕ Bool)} (a b : List α) (e : α → α → Bool) (he : ∀ x y, e x y = true ↔ x = y) (hl : a.length = b.length)
    (h1 : ∀ i : Nat, (hi : i < a.length) → e a[i] (b[i]'(by omega)) = true → body (i : Int) = some (.inl ((i + 1 : Nat) : Int))) (h2 : ∀ i : Nat, (hi : i < a.length) → e a[i] (b[i]'(by omega)) = false → body (i : Int) = some (.inr false))
    (h3 : body (a.length : Int) = some (.inr true)) : whileM body 0 = some (decide (a = b)) := by
  rw [loop_all a.length (fun i => if h : i < a.length then e a[i] (b[i]'(by omega)) else true) false true (fun i hi hp => h1 i hi (by simpa [hi] using hp)) (fun i hi hp => h2 i hi (by simpa [hi] using hp)) h3]
  have : (List.range a.length).all (fun i => if h : i < a.length then e a[i] (b[i]'(by omega)) else true) = decide (a = b) := by
    rw [Bool.eq_iff_iff, List.all_eq_true, decide_eq_true_iff]
    constructor
    · intro H
      refine List.ext_getElem hl fun i hi hi' => ?_
      have := H i (List.mem_range.2 hi)
      simp only [hi, dif_pos] at this
      exact (he _ _).1 this
    · intro H i hi
      subst H
      have hi := List.mem_range.1 hi
      simp only [hi, dif_pos]
      exact (he _ _).2 rfl
  rw [this]
  cases decide (a = b) <;> rfl

end Go.Proofs.YthdimlepjpnncaaGreat.Sh

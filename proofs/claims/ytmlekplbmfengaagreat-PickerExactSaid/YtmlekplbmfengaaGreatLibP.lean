/- Plain words for plain programs: loops that count, numbers that fit, lists. No Go program is named here. -/
import Derived.Test.YtmlekplbmfengaaGreatLibS
namespace Go.Proofs.YtmlekplbmfengaaGreat.Sh
open Go
theorem w64_id {x : Int} (h1 : -9223372036854775808 ≤ x) (h2 : x ≤ 9223372036854775807) : w64 x = x := by
  simp only [w64, IntKind.wrap, IntKind.bits, IntKind.signed]
  simp only [Int.reducePow, Nat.reduceSub, Bool.true_and]
  split
  · next h => have h := of_decide_eq_true h; omega
  · next h => have h := mt decide_eq_true h; omega
/-- a loop whose states are known -/
theorem whileM_for {σ β : Type} {body : σ → Option (σ ⊕ β)} (f : Nat → σ) (n : Nat) (r : β) (h : ∀ i, i < n → body (f i) = some (.inl (f (i + 1)))) (he : body (f n) = some (.inr r)) : whileM body (f 0) = some r := by
  have key : ∀ m, m ≤ n → whileM body (f (n - m)) = some r := by
    intro m
    induction m with
    | zero => intro _; rw [whileM_eq, Nat.sub_zero, he]; rfl
    | succ m ih =>
      intro hm
      rw [whileM_eq, h (n - (m + 1)) (by omega)]
      have : n - (m + 1) + 1 = n - m := by omega
      simp only [Option.bind]
      rw [this]
      exact ih (by omega)
  have := key n (Nat.le_refl _)
  rwa [Nat.sub_self] at this
/-- the same, begun at a state that is spelt in its own way -/
theorem whileM_for' {σ β : Type} {body : σ → Option (σ ⊕ β)} {s : σ} (f : Nat → σ) (n : Nat) (r : β) (h0 : f 0 = s) (h : ∀ i, i < n → body (f i) = some (.inl (f (i + 1)))) (he : body (f n) = some (.inr r)) : whileM body s = some r := by
  rw [← h0]; exact whileM_for f n r h he
theorem ix_nat {α : Type} (xs : List α) (i : Nat) (h : i < xs.length) : ix xs (i : Int) = some xs[i] := by
  simp only [ix, Int.natCast_nonneg, if_true, Int.toNat_natCast]
  exact List.getElem?_eq_getElem h
theorem ix_at {α : Type} (xs : List α) (i : Int) (h0 : 0 ≤ i) (h : i < xs.length) : ix xs i = some (xs[i.toNat]'(by omega)) := by
  simp only [ix, h0, if_true]
  exact List.getElem?_eq_getElem (by omega)
theorem setM_at {α : Type} (xs : List α) (i : Int) (v : α) (h0 : 0 ≤ i) (h : i < xs.length) : setM xs i v = some (xs.set i.toNat v) := by
  simp only [setM, h0, h, and_self, if_true]
theorem appM_one {α : Type} (bytes : Nat) (xs ys : List α) (h : xs.length + ys.length ≤ 1000000) (hb : bytes ≤ 1000) : appM bytes xs ys = some (xs ++ ys) := by
  unfold appM
  rw [if_pos]
  refine ⟨?_, ?_⟩
  · have : (1000000 : Nat) ≤ maxLen := by decide
    omega
  · calc (xs.length + ys.length) * bytes ≤ 1000000 * 1000 := Nat.mul_le_mul h hb
      _ ≤ 140737488355328 := by decide
theorem remM_at (m n : Int) (h : n ≠ 0) : remM m n = some (m.tmod n) := by simp [remM, h]
theorem quoM_at (k : IntKind) (m n : Int) (h : n ≠ 0) : quoM k m n = some (k.wrap (m.tdiv n)) := by simp [quoM, h]
theorem take_one {α : Type} {xs : List α} {i : Nat} (h : i < xs.length) : xs.take (i + 1) = xs.take i ++ [xs[i]] := by
  rw [List.take_succ_eq_append_getElem h]
end Go.Proofs.YtmlekplbmfengaaGreat.Sh

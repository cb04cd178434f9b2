/- The reference's orders of records as plain programs (chapters 3 and 14). -/
import Derived.Test.YtmlekplbmfengaaGreatRefRec0
import Derived.Test.YtmlekplbmfengaaGreatPickSort
import Derived.Test.YtmlekplbmfengaaGreatSim
namespace Go.Proofs.YtmlekplbmfengaaGreat.Sh
open Go
set_option linter.unusedVariables false
set_option linter.unusedSimpArgs false
theorem rcmpS_eq (a b : ByteArray) : ref03_compare a b = some (cmpS a b) := by
  unfold ref03_compare
  rw [cmpS_spell]
  cases Op.bytesLess a.toList b.toList
  · cases (a.toList == b.toList) <;> simp
  · simp
/-- the first number of a list that is not 0, and what comes behind it -/
def fstV {β : Type} (f : Int → β) (z : β) (v : Int) : β := if v ≠ 0 then f v else z
theorem orL_0 {x : Int} {r : List Int} (h : x = 0) : orL (x :: r) = orL r := by simp only [orL]; rw [if_neg (by omega)]
theorem orL_1 {x : Int} {r : List Int} (h : x ≠ 0) : orL (x :: r) = x := by simp only [orL]; rw [if_pos h]
theorem fstV_cons {β : Type} (f : Int → β) (z : β) (x : Int) (r : List Int) : fstV f z (orL (x :: r)) = if x ≠ 0 then f x else fstV f z (orL r) := by
  by_cases h : x = 0
  · rw [orL_0 h, if_neg (by omega)]
  · rw [orL_1 h, if_pos h]; unfold fstV; rw [if_pos h]
theorem fstV_nil {β : Type} (f : Int → β) (z : β) : fstV f z (orL []) = z := by unfold fstV orL; rfl
theorem or_cong {α : Type} {x : Int} {a r s : α} (h : r = s) : (if x ≠ 0 then a else r) = (if x ≠ 0 then a else s) := by rw [h]
theorem first_loop {β : Type} {body : Int → Option (Int ⊕ β)} (l : List Int) (f : Int → β) (z : β) (hl : l.length ≤ 1000000)
    (h1 : ∀ i : Nat, (hi : i < l.length) → l[i] = 0 → body (i : Int) = some (.inl ((i + 1 : Nat) : Int))) (h2 : ∀ i : Nat, (hi : i < l.length) → l[i] ≠ 0 → body (i : Int) = some (.inr (f l[i])))
    (h3 : orL l = 0 → body (l.length : Int) = some (.inr z)) : whileM body 0 = some (fstV f z (orL l)) := by
  by_cases h0 : orL l = 0
  · have h3 := h3 h0
    have key : ∀ m, m ≤ l.length → whileM body ((l.length - m : Nat) : Int) = some (fstV f z (orL (l.drop (l.length - m)))) := by
      intro m
      induction m with
      | zero =>
        intro _
        rw [whileM_eq, Nat.sub_zero, h3, List.drop_length, fstV_nil]; rfl
      | succ m ih =>
        intro hm
        have ih := ih (by omega)
        rw [show l.length - m = l.length - (m + 1) + 1 by omega] at ih
        have hi : l.length - (m + 1) < l.length := by omega
        rw [whileM_eq, List.drop_eq_getElem_cons hi, fstV_cons]
        by_cases hx : l[l.length - (m + 1)] = 0
        · rw [h1 _ hi hx, if_neg (show ¬ l[l.length - (m + 1)] ≠ 0 by omega)]
          exact ih
        · rw [h2 _ hi hx, if_pos hx]; rfl
    have := key l.length (Nat.le_refl _)
    rw [Nat.sub_self] at this
    exact this
  · have key : ∀ m, m ≤ l.length → orL (l.drop (l.length - m)) ≠ 0 → whileM body ((l.length - m : Nat) : Int) = some (fstV f z (orL (l.drop (l.length - m)))) := by
      intro m
      induction m with
      | zero =>
        intro _ hn
        rw [Nat.sub_zero, List.drop_length] at hn
        exact absurd rfl hn
      | succ m ih =>
        intro hm hn
        have ih := ih (by omega)
        rw [show l.length - m = l.length - (m + 1) + 1 by omega] at ih
        have hi : l.length - (m + 1) < l.length := by omega
        rw [List.drop_eq_getElem_cons hi] at hn
        rw [whileM_eq, List.drop_eq_getElem_cons hi, fstV_cons]
        by_cases hx : l[l.length - (m + 1)] = 0
        · rw [orL_0 hx] at hn
          rw [h1 _ hi hx, if_neg (show ¬ l[l.length - (m + 1)] ≠ 0 by omega)]
          exact ih hn
        · rw [h2 _ hi hx, if_pos hx]; rfl
    have := key l.length (Nat.le_refl _) (by rw [Nat.sub_self]; exact h0)
    rw [Nat.sub_self] at this
    exact this
theorem rcmpSrc_eq (a b : SourceID) : ref03_Compare a b = some (cmpSrc a b) := by
  unfold ref03_Compare
  simp only [rcmpS_eq, Option.bind]
  rw [first_loop (l := [cmpS a.Network b.Network, cmpS a.Station b.Station, cmpS a.Location b.Location, cmpS a.Channel b.Channel]) (f := id) (z := 0) (by simp)]
  · simp only [fstV_cons, fstV_nil, cmpSrc, andThen, Option.some.injEq, id]
    refine or_cong (or_cong (or_cong ?_))
    split <;> omega
  · intro i hi hx
    unfold ref03_Compare_l2
    rw [if_pos (decide_eq_true (by simp at hi; omega)), ix_nat _ _ hi]
    simp only [Option.bind, hx]
    rw [w64_id (by omega) (by simp at hi; omega)]; rfl
  · intro i hi hx
    unfold ref03_Compare_l2
    rw [if_pos (decide_eq_true (by simp at hi; omega)), ix_nat _ _ hi]
    simp only [Option.bind]
    rw [if_pos (by simpa using hx)]; rfl
  · intro _
    unfold ref03_Compare_l2
    rw [if_neg (by simp)]; rfl
end Go.Proofs.YtmlekplbmfengaaGreat.Sh

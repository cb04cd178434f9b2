/- The reference's orders of records as plain programs (chapters 3 and 14). -/
import Derived.Test.YthdimlepjpnncaaGreatRefRec
import Derived.Test.YthdimlepjpnncaaGreatRecCmp
import Derived.Test.YthdimlepjpnncaaGreatSim
namespace Go.Proofs.YthdimlepjpnncaaGreat.Sh
open Go
set_option linter.unusedVariables false
set_option linter.unusedSimpArgs false

theorem rnum_eq (a b : Int) : ref14_number a b = some (cmpI a b) := by
  unfold ref14_number cmpI
  by_cases h1 : a < b
  · simp [h1]
  · by_cases h2 : b < a
    · simp [h1, h2]
    · simp [h1, h2]
theorem rcmpS_eq (a b : ByteArray) : ref03_compare a b = some (cmpS a b) := by
  unfold ref03_compare
  rw [cmpS_spell]
  cases Op.bytesLess a.toList b.toList
  · cases (a.toList == b.toList) <;> simp
  · simp
/-- the first number of a list that is not 0, and what comes behind it -/
def fst0 {β : Type} (f : Int → β) (z : β) (v : Int) : β := if v ≠ 0 then f v else z
theorem orL_0 {x : Int} {r : List Int} (h : x = 0) : orL (x :: r) = orL r := by simp only [orL]; rw [if_neg (by omega)]
theorem orL_1 {x : Int} {r : List Int} (h : x ≠ 0) : orL (x :: r) = x := by simp only [orL]; rw [if_pos h]
theorem fst0_cons {β : Type} (f : Int → β) (z : β) (x : Int) (r : List Int) : fst0 f z (orL (x :: r)) = if x ≠ 0 then f x else fst0 f z (orL r) := by
  by_cases h : x = 0
  · rw [orL_0 h, if_neg (by omega)]
  · rw [orL_1 h, if_pos h]; unfold fst0; rw [if_pos h]
theorem fst0_nil {β : Type} (f : Int → β) (z : β) : fst0 f z (orL []) = z := by unfold fst0 orL; rfl
theorem or_cong {α : Type} {x : Int} {a r s : α} (h : r = s) : (if x ≠ 0 then a else r) = (if x ≠ 0 then a else s) := by rw [h]
theorem first_loop {β : Type} {body : Int → Option (Int ⊕ β)} (l : List Int) (f : Int → β) (z : β) (hl : l.length ≤ 1000000)
    (h1 : ∀ i : Nat, (hi : i < l.length) → l[i] = 0 → body (i : Int) = some (.inl ((i + 1 : Nat) : Int))) (h2 : ∀ i : Nat, (hi : i < l.length) → l[i] ≠ 0 → body (i : Int) = some (.inr (f l[i])))
    (h3 : orL l = 0 → body (l.length : Int) = some (.inr z)) : whileM body 0 = some (fst0 f z (orL l)) := by
  by_cases h0 : orL l = 0
  · have h3 := h3 h0
    have key : ∀ m, m ≤ l.length → whileM body ((l.length - m : Nat) : Int) = some (fst0 f z (orL (l.drop (l.length - m)))) := by
      intro m
      induction m with
      | zero =>
        intro _
        rw [whileM_eq, Nat.sub_zero, h3, List.drop_length, fst0_nil]; rfl
      | succ m ih =>
        intro hm
        have ih := ih (by omega)
        rw [show l.length - m = l.length - (m + 1) + 1 by omega] at ih
        have hi : l.length - (m + 1) < l.length := by omega
        rw [whileM_eq, List.drop_eq_getElem_cons hi, fst0_cons]
        by_cases hx : l[l.length - (m + 1)] = 0
        · rw [h1 _ hi hx, if_neg (show ¬ l[l.length - (m + 1)] ≠ 0 by omega)]
          exact ih
        · rw [h2 _ hi hx, if_pos hx]; rfl
    have := key l.length (Nat.le_refl _)
    rw [Nat.sub_self] at this
    exact this
  · have key : ∀ m, m ≤ l.length → orL (l.drop (l.length - m)) ≠ 0 → whileM body ((l.length - m : Nat) : Int) = some (fst0 f z (orL (l.drop (l.length - m)))) := by
      intro m
      induction m with
      | zero =>
        intro _ hn
        rw [Nat.sub_zero, List.drop_length] at hn
        exact absurd rfl hn
      | succ m ih =>
        intro hm hn
        have ih := ih (by omega)
        rw [show l.length - m = l.length - (m + 1) + 1 by omega] at ih
        have hi : l.length - (m + 1) < l.length := by omega
        rw [List.drop_eq_getElem_cons hi] at hn
        rw [whileM_eq, List.drop_eq_getElem_cons hi, fst0_cons]
        by_cases hx : l[l.length - (m + 1)] = 0
        · rw [orL_0 hx] at hn
          rw [h1 _ hi hx, if_neg (show ¬ l[l.length - (m + 1)] ≠ 0 by omega)]
          exact ih hn
        · rw [h2 _ hi hx, if_pos hx]; rfl
    have := key l.length (Nat.le_refl _) (by rw [Nat.sub_self]; exact h0)
    rw [Nat.sub_self] at this
    exact this
theorem rcmpSrc_eq (a b : SourceID) : ref03_Compare a b = some (cmpSrc a b) := by
  unfold ref03_Compare
  simp only [rcmpS_eq, Option.bind]
  rw [first_loop (l := [cmpS a.Network b.Network, cmpS a.Station b.Station, cmpS a.Location b.Location, cmpS a.Channel b.Channel]) (f := id) (z := 0) (by simp)]
  · simp only [fst0_cons, fst0_nil, cmpSrc, andThen, Option.some.injEq, id]
    refine or_cong (or_cong (or_cong ?_))
    split <;> omega
  · intro i hi hx
    unfold ref03_Compare_l2
    rw [if_pos (decide_eq_true (by simp at hi; omega)), ix_nat _ _ hi]
    simp only [Option.bind, hx]
    rw [w64_id (by omega) (by simp at hi; omega)]; rfl
  · intro i hi hx
    unfold ref03_Compare_l2
    rw [if_pos (decide_eq_true (by simp at hi; omega)), ix_nat _ _ hi]
    simp only [Option.bind]
    rw [if_pos (by simpa using hx)]; rfl
  · intro _
    unfold ref03_Compare_l2
    rw [if_neg (by simp)]; rfl
theorem lex_zip : ∀ (a b : List Int), a.length = b.length → lexL cmpI a b = orL (List.zipWith cmpI a b)
  | [], [], _ => rfl
  | x :: a, y :: b, h => by
    simp only [lexL, List.zipWith_cons_cons, orL]
    rw [lex_zip a b (by simpa using h)]
theorem rlex_eq (a b : Record) (hl : a.Samples.length = b.Samples.length) (ha : a.Samples.length ≤ 1000000) : whileM (ref14_Compare_l4 a b) 0 = some (lexL cmpI a.Samples b.Samples) := by
  have hz : (List.zipWith cmpI a.Samples b.Samples).length = a.Samples.length := by simp [hl]
  rw [first_loop (l := List.zipWith cmpI a.Samples b.Samples) (f := id) (z := 0) (by omega)]
  · rw [lex_zip _ _ hl]
    simp only [fst0, id, Option.some.injEq]
    split <;> omega
  · intro i hi hx
    rw [List.getElem_zipWith] at hx
    unfold ref14_Compare_l4
    rw [if_pos (decide_eq_true (by omega)), ix_nat _ _ (show i < a.Samples.length by omega), ix_nat _ _ (show i < b.Samples.length by omega)]
    simp only [Option.bind, rnum_eq, hx]
    rw [w64_id (by omega) (by omega)]; rfl
  · intro i hi hx
    rw [List.getElem_zipWith] at hx ⊢
    unfold ref14_Compare_l4
    rw [if_pos (decide_eq_true (by omega)), ix_nat _ _ (show i < a.Samples.length by omega), ix_nat _ _ (show i < b.Samples.length by omega)]
    simp only [Option.bind, rnum_eq]
    rw [if_pos (by simpa using hx)]; rfl
  · intro _
    rw [hz]
    unfold ref14_Compare_l4
    rw [if_neg (by simp)]; rfl
theorem rcompare_j2 {a b : Record} (ha : RSm a) (h6 : a.Samples.length ≤ 1000000) : ref14_Compare_j2 a b (begR a) (begR b) = some (cmpR a b) := by
  unfold ref14_Compare_j2
  simp only [rcmpSrc_eq, rnum_eq, Option.bind]
  rw [first_loop (l := [cmpSrc a.Source b.Source, cmpI (begR a) (begR b), cmpI a.Start b.Start, cmpI a.First b.First, cmpI a.Rate.Num b.Rate.Num, cmpI a.Rate.Den b.Rate.Den, cmpI a.Error b.Error, cmpI a.Run b.Run, cmpI a.Seq b.Seq, cmpI a.Samples.length b.Samples.length])
      (f := id) (z := lexL cmpI a.Samples b.Samples) (by simp)]
  · simp only [fst0_cons, fst0_nil, cmpR, andThen, id]
  · intro i hi hx
    unfold ref14_Compare_l2
    rw [if_pos (decide_eq_true (by simp at hi; omega)), ix_nat _ _ hi]
    simp only [Option.bind, hx]
    rw [w64_id (by omega) (by simp at hi; omega)]; rfl
  · intro i hi hx
    unfold ref14_Compare_l2
    rw [if_pos (decide_eq_true (by simp at hi; omega)), ix_nat _ _ hi]
    simp only [Option.bind]
    rw [if_pos (by simpa using hx)]; rfl
  · intro h0
    have hl : a.Samples.length = b.Samples.length := by
      refine Classical.byContradiction fun hn => ?_
      have hne : cmpI a.Samples.length b.Samples.length ≠ 0 := fun h => hn (by have := cmpI_eq h; omega)
      have last : ∀ l : List Int, ∀ x, x ≠ 0 → orL (l ++ [x]) ≠ 0 := by
        intro l x hx
        induction l with
        | nil => rw [List.nil_append, orL_1 hx]; exact hx
        | cons y l ih =>
          rw [List.cons_append]
          by_cases hy : y = 0
          · rw [orL_0 hy]; exact ih
          · rw [orL_1 hy]; exact hy
      exact last [cmpSrc a.Source b.Source, cmpI (begR a) (begR b), cmpI a.Start b.Start, cmpI a.First b.First, cmpI a.Rate.Num b.Rate.Num, cmpI a.Rate.Den b.Rate.Den, cmpI a.Error b.Error, cmpI a.Run b.Run, cmpI a.Seq b.Seq] _ hne h0
    unfold ref14_Compare_l2
    rw [if_neg (by simp), rlex_eq a b hl h6]; rfl
theorem rcompare_eq {a b : Record} (ha : RSm a) (hb : RSm b) (h6 : a.Samples.length ≤ 1000000) : ref14_Compare a b = some (cmpR a b) := by
  have hj : ref14_Compare_j1 a b (begR a) = some (cmpR a b) := by
    unfold ref14_Compare_j1
    rw [ref14_Valid_eq hb.src hb.len]
    simp only [Option.bind]
    have e := rcompare_j2 (b := b) ha h6
    by_cases hv : recB b = true
    · have hr := recB_iff.1 hv
      have eb : begR b = timeR b 0 := by unfold begR; rw [if_pos hv]
      rw [hv, hr.reftime (Int.le_refl 0) (by omega), ← eb]
      exact e
    · have eb : begR b = 0 := by unfold begR; rw [if_neg hv]
      rw [if_neg hv, ← eb]
      exact e
  unfold ref14_Compare
  rw [ref14_Valid_eq ha.src ha.len]
  simp only [Option.bind]
  by_cases hv : recB a = true
  · have hr := recB_iff.1 hv
    have ea : begR a = timeR a 0 := by unfold begR; rw [if_pos hv]
    rw [hv, hr.reftime (Int.le_refl 0) (by omega), ← ea]
    exact hj
  · have ea : begR a = 0 := by unfold begR; rw [if_neg hv]
    rw [if_neg hv, ← ea]
    exact hj
theorem rbetter_eq {a b : Record} (ha : RSm a) (hb : RSm b) (h6 : a.Samples.length ≤ 1000000) : ref14_Better a b = some (decide (betR a b < 0)) := by
  unfold ref14_Better
  simp only [rnum_eq, Option.bind]
  rw [first_loop (l := [cmpI a.Error b.Error, cmpI b.Run a.Run, cmpI b.Seq a.Seq]) (f := fun x => decide (x < 0)) (z := decide (cmpR a b < 0)) (by simp)]
  · simp only [fst0_cons, fst0_nil, betR, andThen, Option.some.injEq]
    split
    · rfl
    · split
      · rfl
      · split <;> rfl
  · intro i hi hx
    unfold ref14_Better_l2
    rw [if_pos (decide_eq_true (by simp at hi; omega)), ix_nat _ _ hi]
    simp only [Option.bind, hx]
    rw [w64_id (by omega) (by simp at hi; omega)]; rfl
  · intro i hi hx
    unfold ref14_Better_l2
    rw [if_pos (decide_eq_true (by simp at hi; omega)), ix_nat _ _ hi]
    simp only [Option.bind]
    rw [if_pos (by simpa using hx)]
  · intro _
    unfold ref14_Better_l2
    rw [if_neg (by simp), rcompare_eq ha hb h6]; rfl
theorem rsame_eq {a b : Record} (ha : RSm a) : ref14_Same a b = record_Same a b := by
  unfold ref14_Same record_Same
  rw [equal_int _ _ ha.len, ref05_Same_eq _ _ ha.len]

theorem rSub_eq {r : Record} (h : RF r) {a b : Nat} (hab : a < b) (hb : b ≤ r.Samples.length) : ref14_Sub r a b = some (subR r a b, 0) := by
  have l1 := h.l1
  have f0 := h.f0
  have f1 := h.f1
  unfold ref14_Sub
  rw [h.refvalid]
  simp only [Option.bind, Bool.not_true, Bool.false_eq_true, if_false]
  have hc : (((decide ((a : Int) < 0)) || (decide ((b : Int) ≤ (a : Int)))) || (decide ((r.Samples.length : Int) < (b : Int)))) = false := by simp; omega
  rw [hc, sub_at _ _ _ (by omega) hb]
  simp only [Bool.false_eq_true, if_false]
  rw [appM_one _ _ _ (by simp; omega) (by decide), w64_id (by omega) (by omega)]
  rfl
end Go.Proofs.YthdimlepjpnncaaGreat.Sh

/- The law RecordExact as a plain program: it is true at every input. -/
import Derived.Test.YtdifjkamipeibaaSearch
import Derived.Test.YtdifjkamipeibaaRefRec
import Derived.Test.YtdifjkamipeibaaRecCmp
import Derived.Test.YtdifjkamipeibaaSim
import Derived.Test.YtdifjkamipeibaaRecordPartsLaw
namespace Go.Proofs.Ytdifjkamipeibaa.Sh
open Go
set_option linter.unusedVariables false
set_option linter.unusedSimpArgs false

/-! ### both orders -/
theorem rnum_eq (a b : Int) : ref14_number a b = some (cmpI a b) := by
  unfold ref14_number cmpI
  by_cases h1 : a < b
  · simp [h1]
  · by_cases h2 : b < a
    · simp [h1, h2]
    · simp [h1, h2]
theorem rcmpS_eq (a b : ByteArray) : ref03_compare a b = some (cmpS a b) := by
  unfold ref03_compare
  rw [cmpS_spell]
  cases Op.bytesLess a.toList b.toList
  · cases (a.toList == b.toList) <;> simp
  · simp
/-- the first number of a list that is not 0, and what comes behind it -/
def fst0 {β : Type} (f : Int → β) (z : β) (v : Int) : β := if v ≠ 0 then f v else z
theorem orL_0 {x : Int} {r : List Int} (h : x = 0) : orL (x :: r) = orL r := by simp only [orL]; rw [if_neg (by omega)]
theorem orL_1 {x : Int} {r : List Int} (h : x ≠ 0) : orL (x :: r) = x := by simp only [orL]; rw [if_pos h]
theorem fst0_cons {β : Type} (f : Int → β) (z : β) (x : Int) (r : List Int) : fst0 f z (orL (x :: r)) = if x ≠ 0 then f x else fst0 f z (orL r) := by
  by_cases h : x = 0
  · rw [orL_0 h, if_neg (by omega)]
  · rw [orL_1 h, if_pos h]; unfold fst0; rw [if_pos h]
theorem fst0_nil {β : Type} (f : Int → β) (z : β) : fst0 f z (orL []) = z := by unfold fst0 orL; rfl
theorem or_cong {α : Type} {x : Int} {a r s : α} (h : r = s) : (if x ≠ 0 then a else r) = (if x ≠ 0 then a else s) := by rw [h]
theorem first_loop {β : Type} {body : Int → Option (Int ⊕ β)} (l : List Int) (f : Int → β) (z : β) (hl : l.length ≤ 1000000)
    (h1 : ∀ i : Nat, (hi : i < l.length) → l[i] = 0 → body (i : Int) = some (.inl ((i + 1 : Nat) : Int))) (h2 : ∀ i : Nat, (hi : i < l.length) → l[i] ≠ 0 → body (i : Int) = some (.inr (f l[i])))
    (h3 : orL l = 0 → body (l.length : Int) = some (.inr z)) : whileM body 0 = some (fst0 f z (orL l)) := by
  by_cases h0 : orL l = 0
  · have h3 := h3 h0
    have key : ∀ m, m ≤ l.length → whileM body ((l.length - m : Nat) : Int) = some (fst0 f z (orL (l.drop (l.length - m)))) := by
      intro m
      induction m with
      | zero =>
        intro _
        rw [whileM_eq, Nat.sub_zero, h3, List.drop_length, fst0_nil]; rfl
      | succ m ih =>
        intro hm
        have ih := ih (by omega)
        rw [show l.length - m = l.length - (m + 1) + 1 by omega] at ih
        have hi : l.length - (m + 1) < l.length := by omega
        rw [whileM_eq, List.drop_eq_getElem_cons hi, fst0_cons]
        by_cases hx : l[l.length - (m + 1)] = 0
        · rw [h1 _ hi hx, if_neg (show ¬ l[l.length - (m + 1)] ≠ 0 by omega)]
          exact ih
        · rw [h2 _ hi hx, if_pos hx]; rfl
    have := key l.length (Nat.le_refl _)
    rw [Nat.sub_self] at this
    exact this
  · have key : ∀ m, m ≤ l.length → orL (l.drop (l.length - m)) ≠ 0 → whileM body ((l.length - m : Nat) : Int) = some (fst0 f z (orL (l.drop (l.length - m)))) := by
      intro m
      induction m with
      | zero =>
        intro _ hn
        rw [Nat.sub_zero, List.drop_length] at hn
        exact absurd rfl hn
      | succ m ih =>
        intro hm hn
        have ih := ih (by omega)
        rw [show l.length - m = l.length - (m + 1) + 1 by omega] at ih
        have hi : l.length - (m + 1) < l.length := by omega
        rw [List.drop_eq_getElem_cons hi] at hn
        rw [whileM_eq, List.drop_eq_getElem_cons hi, fst0_cons]
        by_cases hx : l[l.length - (m + 1)] = 0
        · rw [orL_0 hx] at hn
          rw [h1 _ hi hx, if_neg (show ¬ l[l.length - (m + 1)] ≠ 0 by omega)]
          exact ih hn
        · rw [h2 _ hi hx, if_pos hx]; rfl
    have := key l.length (Nat.le_refl _) (by rw [Nat.sub_self]; exact h0)
    rw [Nat.sub_self] at this
    exact this
theorem rcmpSrc_eq (a b : SourceID) : ref03_Compare a b = some (cmpSrc a b) := by
  unfold ref03_Compare
  simp only [rcmpS_eq, Option.bind]
  rw [first_loop (l := [cmpS a.Network b.Network, cmpS a.Station b.Station, cmpS a.Location b.Location, cmpS a.Channel b.Channel]) (f := id) (z := 0) (by simp)]
  · simp only [fst0_cons, fst0_nil, cmpSrc, andThen, Option.some.injEq, id]
    refine or_cong (or_cong (or_cong ?_))
    split <;> omega
  · intro i hi hx
    unfold ref03_Compare_l2
    rw [if_pos (decide_eq_true (by simp at hi; omega)), ix_nat _ _ hi]
    simp only [Option.bind, hx]
    rw [w64_id (by omega) (by simp at hi; omega)]; rfl
  · intro i hi hx
    unfold ref03_Compare_l2
    rw [if_pos (decide_eq_true (by simp at hi; omega)), ix_nat _ _ hi]
    simp only [Option.bind]
    rw [if_pos (by simpa using hx)]; rfl
  · intro _
    unfold ref03_Compare_l2
    rw [if_neg (by simp)]; rfl
theorem lex_zip : ∀ (a b : List Int), a.length = b.length → lexL cmpI a b = orL (List.zipWith cmpI a b)
  | [], [], _ => rfl
  | x :: a, y :: b, h => by
    simp only [lexL, List.zipWith_cons_cons, orL]
    rw [lex_zip a b (by simpa using h)]
theorem rlex_eq (a b : Record) (hl : a.Samples.length = b.Samples.length) (ha : a.Samples.length ≤ 1000000) : whileM (ref14_Compare_l4 a b) 0 = some (lexL cmpI a.Samples b.Samples) := by
  have hz : (List.zipWith cmpI a.Samples b.Samples).length = a.Samples.length := by simp [hl]
  rw [first_loop (l := List.zipWith cmpI a.Samples b.Samples) (f := id) (z := 0) (by omega)]
  · rw [lex_zip _ _ hl]
    simp only [fst0, id, Option.some.injEq]
    split <;> omega
  · intro i hi hx
    rw [List.getElem_zipWith] at hx
    unfold ref14_Compare_l4
    rw [if_pos (decide_eq_true (by omega)), ix_nat _ _ (show i < a.Samples.length by omega), ix_nat _ _ (show i < b.Samples.length by omega)]
    simp only [Option.bind, rnum_eq, hx]
    rw [w64_id (by omega) (by omega)]; rfl
  · intro i hi hx
    rw [List.getElem_zipWith] at hx ⊢
    unfold ref14_Compare_l4
    rw [if_pos (decide_eq_true (by omega)), ix_nat _ _ (show i < a.Samples.length by omega), ix_nat _ _ (show i < b.Samples.length by omega)]
    simp only [Option.bind, rnum_eq]
    rw [if_pos (by simpa using hx)]; rfl
  · intro _
    rw [hz]
    unfold ref14_Compare_l4
    rw [if_neg (by simp)]; rfl
theorem rcompare_j2 {a b : Record} (ha : RSm a) (h6 : a.Samples.length ≤ 1000000) : ref14_Compare_j2 a b (begR a) (begR b) = some (cmpR a b) := by
  unfold ref14_Compare_j2
  simp only [rcmpSrc_eq, rnum_eq, Option.bind]
  rw [first_loop (l := [cmpSrc a.Source b.Source, cmpI (begR a) (begR b), cmpI a.Start b.Start, cmpI a.First b.First, cmpI a.Rate.Num b.Rate.Num, cmpI a.Rate.Den b.Rate.Den, cmpI a.Error b.Error, cmpI a.Run b.Run, cmpI a.Seq b.Seq, cmpI a.Samples.length b.Samples.length])
      (f := id) (z := lexL cmpI a.Samples b.Samples) (by simp)]
  · simp only [fst0_cons, fst0_nil, cmpR, andThen, id]
  · intro i hi hx
    unfold ref14_Compare_l2
    rw [if_pos (decide_eq_true (by simp at hi; omega)), ix_nat _ _ hi]
    simp only [Option.bind, hx]
    rw [w64_id (by omega) (by simp at hi; omega)]; rfl
  · intro i hi hx
    unfold ref14_Compare_l2
    rw [if_pos (decide_eq_true (by simp at hi; omega)), ix_nat _ _ hi]
    simp only [Option.bind]
    rw [if_pos (by simpa using hx)]; rfl
  · intro h0
    have hl : a.Samples.length = b.Samples.length := by
      refine Classical.byContradiction fun hn => ?_
      have hne : cmpI a.Samples.length b.Samples.length ≠ 0 := fun h => hn (by have := cmpI_eq h; omega)
      have last : ∀ l : List Int, ∀ x, x ≠ 0 → orL (l ++ [x]) ≠ 0 := by
        intro l x hx
        induction l with
        | nil => rw [List.nil_append, orL_1 hx]; exact hx
        | cons y l ih =>
          rw [List.cons_append]
          by_cases hy : y = 0
          · rw [orL_0 hy]; exact ih
          · rw [orL_1 hy]; exact hy
      exact last [cmpSrc a.Source b.Source, cmpI (begR a) (begR b), cmpI a.Start b.Start, cmpI a.First b.First, cmpI a.Rate.Num b.Rate.Num, cmpI a.Rate.Den b.Rate.Den, cmpI a.Error b.Error, cmpI a.Run b.Run, cmpI a.Seq b.Seq] _ hne h0
    unfold ref14_Compare_l2
    rw [if_neg (by simp), rlex_eq a b hl h6]; rfl
theorem rcompare_eq {a b : Record} (ha : RSm a) (hb : RSm b) (h6 : a.Samples.length ≤ 1000000) : ref14_Compare a b = some (cmpR a b) := by
  have hj : ref14_Compare_j1 a b (begR a) = some (cmpR a b) := by
    unfold ref14_Compare_j1
    rw [ref14_Valid_eq hb.src hb.len]
    simp only [Option.bind]
    have e := rcompare_j2 (b := b) ha h6
    by_cases hv : recB b = true
    · have hr := recB_iff.1 hv
      have eb : begR b = timeR b 0 := by unfold begR; rw [if_pos hv]
      rw [hv, hr.reftime (Int.le_refl 0) (by omega), ← eb]
      exact e
    · have eb : begR b = 0 := by unfold begR; rw [if_neg hv]
      rw [if_neg hv, ← eb]
      exact e
  unfold ref14_Compare
  rw [ref14_Valid_eq ha.src ha.len]
  simp only [Option.bind]
  by_cases hv : recB a = true
  · have hr := recB_iff.1 hv
    have ea : begR a = timeR a 0 := by unfold begR; rw [if_pos hv]
    rw [hv, hr.reftime (Int.le_refl 0) (by omega), ← ea]
    exact hj
  · have ea : begR a = 0 := by unfold begR; rw [if_neg hv]
    rw [if_neg hv, ← ea]
    exact hj
theorem rbetter_eq {a b : Record} (ha : RSm a) (hb : RSm b) (h6 : a.Samples.length ≤ 1000000) : ref14_Better a b = some (decide (betR a b < 0)) := by
  unfold ref14_Better
  simp only [rnum_eq, Option.bind]
  rw [first_loop (l := [cmpI a.Error b.Error, cmpI b.Run a.Run, cmpI b.Seq a.Seq]) (f := fun x => decide (x < 0)) (z := decide (cmpR a b < 0)) (by simp)]
  · simp only [fst0_cons, fst0_nil, betR, andThen, Option.some.injEq]
    split
    · rfl
    · split
      · rfl
      · split <;> rfl
  · intro i hi hx
    unfold ref14_Better_l2
    rw [if_pos (decide_eq_true (by simp at hi; omega)), ix_nat _ _ hi]
    simp only [Option.bind, hx]
    rw [w64_id (by omega) (by simp at hi; omega)]; rfl
  · intro i hi hx
    unfold ref14_Better_l2
    rw [if_pos (decide_eq_true (by simp at hi; omega)), ix_nat _ _ hi]
    simp only [Option.bind]
    rw [if_pos (by simpa using hx)]
  · intro _
    unfold ref14_Better_l2
    rw [if_neg (by simp), rcompare_eq ha hb h6]; rfl
theorem rsame_eq {a b : Record} (ha : RSm a) : ref14_Same a b = record_Same a b := by
  unfold ref14_Same record_Same
  rw [equal_int _ _ ha.len, ref05_Same_eq _ _ ha.len]

/-! ### parts -/
theorem span2 {r : Record} (h : RSm r) : ∃ p e, record_Span r = some (p, e) ∧ ref14_Span r = some (p, e) := by
  by_cases hv : recB r = true
  · have hr := recB_iff.1 hv
    exact ⟨_, _, Span_eq hr, hr.refSpan⟩
  · simp only [Bool.not_eq_true] at hv
    refine ⟨⟨0, 0⟩, 1, ?_, ?_⟩
    · unfold record_Span; rw [record_Valid_eq h.src h.len, hv]; rfl
    · unfold ref14_Span; rw [ref14_Valid_eq h.src h.len, hv]; rfl
theorem at2 {r : Record} (h : RSm r) (i : Int) : ∃ p e, record_At r i = some (p, e) ∧ ref14_At r i = some (p, e) := by
  unfold record_At ref14_At
  rw [record_Valid_eq h.src h.len, ref14_Valid_eq h.src h.len]
  by_cases hv : recB r = true
  · have hr := recB_iff.1 hv
    rw [hv, record_in_eq, ref01_In_eq]
    cases hi : inB i 0 r.Samples.length with
    | false => exact ⟨_, _, rfl, rfl⟩
    | true =>
      rw [inB_iff] at hi
      rw [record_time_eq hr hi.1 hi.2, hr.reftime hi.1 hi.2]
      exact ⟨_, _, rfl, rfl⟩
  · simp only [Bool.not_eq_true] at hv
    rw [hv]
    exact ⟨_, _, rfl, rfl⟩
theorem rSub_eq {r : Record} (h : RF r) {a b : Nat} (hab : a < b) (hb : b ≤ r.Samples.length) : ref14_Sub r a b = some (subR r a b, 0) := by
  have l1 := h.l1
  have f0 := h.f0
  have f1 := h.f1
  unfold ref14_Sub
  rw [h.refvalid]
  simp only [Option.bind, Bool.not_true, Bool.false_eq_true, if_false]
  have hc : (((decide ((a : Int) < 0)) || (decide ((b : Int) ≤ (a : Int)))) || (decide ((r.Samples.length : Int) < (b : Int)))) = false := by simp; omega
  rw [hc, sub_at _ _ _ (by omega) hb]
  simp only [Bool.false_eq_true, if_false]
  rw [appM_one _ _ _ (by simp; omega) (by decide), w64_id (by omega) (by omega)]
  rfl
theorem sub2 {r : Record} (h : RSm r) (a b : Int) : ∃ p e, record_Sub r a b = some (p, e) ∧ ref14_Sub r a b = some (p, e) ∧ p.Samples.length ≤ 1000000 := by
  by_cases hv : recB r = true
  · have hr := recB_iff.1 hv
    have l1 := hr.l1
    by_cases hc : 0 ≤ a ∧ a < b ∧ b ≤ r.Samples.length
    · obtain ⟨a', rfl⟩ := Int.eq_ofNat_of_zero_le hc.1
      obtain ⟨b', rfl⟩ := Int.eq_ofNat_of_zero_le (show 0 ≤ b by omega)
      refine ⟨_, _, Sub_eq hr (by omega) (by omega), rSub_eq hr (by omega) (by omega), ?_⟩
      rw [subR_len _ _ _ (by omega)]; omega
    · have hf : (((decide (a < 0)) || (decide (b ≤ a))) || (decide ((r.Samples.length : Int) < b))) = true := by
        simp only [Bool.or_eq_true, decide_eq_true_eq]; omega
      refine ⟨noRec, 2, ?_, ?_, by simp⟩
      · unfold record_Sub; rw [record_Valid_eq h.src h.len, hv, hf]; rfl
      · unfold ref14_Sub; rw [ref14_Valid_eq h.src h.len, hv, hf]; rfl
  · simp only [Bool.not_eq_true] at hv
    refine ⟨noRec, 1, ?_, ?_, by simp⟩
    · unfold record_Sub; rw [record_Valid_eq h.src h.len, hv]; rfl
    · unfold ref14_Sub; rw [ref14_Valid_eq h.src h.len, hv]; rfl

/-- what the reference has seen after i samples -/
def seenR (a b i : Nat) : Int × Int × Int := (if a < i ∧ a < b then (a : Int) else -1, if a < i ∧ a < b then ((min i b : Nat) : Int) - 1 else -1, (i : Int))
theorem seen_j1 {a b i : Nat} (hi : i ≤ 100000) (inv : Bool) (h : inv = true ↔ a ≤ i ∧ i < b) : ref14_part_j1 (seenR a b i) inv = some (.inl (seenR a b (i + 1))) := by
  have hw : w64 ((i : Int) + 1) = ((i + 1 : Nat) : Int) := by rw [w64_id (by omega) (by omega)]; rfl
  unfold ref14_part_j1
  cases inv with
  | true =>
    obtain ⟨h1, h2⟩ := h.1 rfl
    simp only [if_true]
    by_cases ha : a < i
    · have e1 : (seenR a b i).1 = a := by unfold seenR; rw [if_pos ⟨ha, by omega⟩]
      rw [e1, if_neg (by simp)]
      unfold ref14_part_j3 ref14_part_j2
      simp only [seenR, Option.bind, hw]
      rw [if_pos (show a < i + 1 ∧ a < b by omega), if_pos (show a < i + 1 ∧ a < b by omega), show min (i + 1) b = i + 1 by omega]
      congr 3
      simp only [Prod.mk.injEq, true_and, and_true]; omega
    · have e1 : (seenR a b i).1 = -1 := by unfold seenR; rw [if_neg (by omega)]
      rw [e1, if_pos (by decide)]
      unfold ref14_part_j3 ref14_part_j2
      simp only [seenR, Option.bind, hw]
      rw [if_pos (show a < i + 1 ∧ a < b by omega), if_pos (show a < i + 1 ∧ a < b by omega), show min (i + 1) b = i + 1 by omega, show a = i by omega]
      congr 3
      simp only [Prod.mk.injEq, true_and, and_true]; omega
  | false =>
    have hn : ¬ (a ≤ i ∧ i < b) := fun hh => by have := h.2 hh; cases this
    simp only [Bool.false_eq_true, if_false]
    unfold ref14_part_j2
    simp only [seenR, Option.bind, hw]
    by_cases hab : a < i ∧ a < b
    · rw [if_pos hab, if_pos hab, if_pos (show a < i + 1 ∧ a < b by omega), if_pos (show a < i + 1 ∧ a < b by omega), show min (i + 1) b = min i b by omega]
    · rw [if_neg hab, if_neg hab, if_neg (show ¬ (a < i + 1 ∧ a < b) by omega), if_neg (show ¬ (a < i + 1 ∧ a < b) by omega)]
theorem rpart_spec {r : Record} (h : RF r) (f t : Int) (w : Bool) {a b : Nat} (hb : b ≤ r.Samples.length)
    (hp : ∀ i : Nat, i < r.Samples.length → ((f ≤ timeR r i ∧ (if w = true then timeR r (i + 1) ≤ t else timeR r i < t)) ↔ a ≤ i ∧ i < b)) : ref14_part r f t w = some (partR r a b) := by
  have l1 := h.l1
  unfold ref14_part
  rw [h.refvalid]
  simp only [Option.bind, Bool.not_true, Bool.false_eq_true, if_false]
  have hw : whileM (ref14_part_l1 r f t w) (-1, -1, 0) = some ((seenR a b r.Samples.length).1, (seenR a b r.Samples.length).2.1) := by
    refine whileM_for' (fun i => seenR a b i) r.Samples.length _ (by simp [seenR]) (fun i hi => ?_) ?_
    · have hb' : ref14_part_l1 r f t w (seenR a b i) = ref14_part_j1 (seenR a b i) (decide (f ≤ timeR r i) && (if w = true then decide (timeR r (i + 1) ≤ t) else decide (timeR r i < t))) := by
        unfold ref14_part_l1
        rw [show (seenR a b i).2.2 = (i : Int) from rfl, if_pos (decide_eq_true (by omega)), h.reftime (by omega) (by omega), w64_id (x := (i : Int) + 1) (by omega) (by omega), h.reftime (i := (i : Int) + 1) (by omega) (by omega)]
        simp only [Option.bind]
        cases w <;> cases decide (f ≤ timeR r i) <;> rfl
      rw [hb']
      refine seen_j1 (by omega) _ ?_
      rw [← hp i hi]
      cases w <;> simp
    · unfold ref14_part_l1
      rw [show (seenR a b r.Samples.length).2.2 = (r.Samples.length : Int) from rfl, if_neg (by simp)]
  rw [hw]
  simp only
  by_cases hab : a < b
  · have e1 : (seenR a b r.Samples.length).1 = a := by unfold seenR; rw [if_pos (by omega)]
    have e2 : w64 ((seenR a b r.Samples.length).2.1 + 1) = (b : Int) := by
      unfold seenR
      simp only
      rw [if_pos (by omega), show min r.Samples.length b = b by omega, w64_id (by omega) (by omega)]; omega
    rw [e1, e2, if_neg (by simp), rSub_eq h hab hb]
    unfold partR
    rw [if_pos hab]
  · have e1 : (seenR a b r.Samples.length).1 = -1 := by unfold seenR; rw [if_neg (by omega)]
    rw [e1, if_pos (by decide)]
    unfold partR
    rw [if_neg hab]
theorem partR_small {r : Record} (h : RF r) {a b : Nat} (hb : b ≤ r.Samples.length) : (partR r a b).1.Samples.length ≤ 1000000 := by
  have := h.l1
  unfold partR
  split
  · simp only; rw [subR_len _ _ _ hb]; omega
  · simp
theorem cut2 {r : Record} (h : RSm r) (f t : Int) : ∃ p, record_Cut r f t = some p ∧ ref14_Cut r f t = some p ∧ p.1.Samples.length ≤ 1000000 := by
  by_cases hv : recB r = true
  · have hr := recB_iff.1 hv
    obtain ⟨a, b, e, al, bl, a1, a2, b1, b2⟩ := Cut_spec hr f t
    refine ⟨_, e, ?_, partR_small hr bl⟩
    unfold ref14_Cut
    rw [rpart_spec hr f t false bl (fun i hi => ?_)]
    · rfl
    · simp only [Bool.false_eq_true, if_false]
      constructor
      · rintro ⟨h1, h2⟩
        refine ⟨Classical.byContradiction fun hn => ?_, Classical.byContradiction fun hn => ?_⟩
        · have := a1 i (by omega); omega
        · have := b2 i (by omega) hi; omega
      · rintro ⟨h1, h2⟩
        exact ⟨a2 i h1 hi, b1 i h2⟩
  · simp only [Bool.not_eq_true] at hv
    refine ⟨(noRec, false, 1), ?_, ?_, by simp⟩
    · unfold record_Cut; rw [record_Valid_eq h.src h.len, hv]; rfl
    · unfold ref14_Cut ref14_part; rw [ref14_Valid_eq h.src h.len, hv]; rfl
theorem inside2 {r : Record} (h : RSm r) (f t : Int) : ∃ p, record_Inside r f t = some p ∧ ref14_Inside r f t = some p ∧ p.1.Samples.length ≤ 1000000 := by
  by_cases hv : recB r = true
  · have hr := recB_iff.1 hv
    obtain ⟨a, b, e, al, bl, a1, a2, b1, b2⟩ := Inside_spec hr f t
    refine ⟨_, e, ?_, partR_small hr bl⟩
    unfold ref14_Inside
    rw [rpart_spec hr f t true bl (fun i hi => ?_)]
    · rfl
    · simp only [if_true]
      constructor
      · rintro ⟨h1, h2⟩
        refine ⟨Classical.byContradiction fun hn => ?_, Classical.byContradiction fun hn => ?_⟩
        · have := a1 i (by omega); omega
        · have := b2 i (by omega) hi; omega
      · rintro ⟨h1, h2⟩
        exact ⟨a2 i h1 hi, b1 i h2⟩
  · simp only [Bool.not_eq_true] at hv
    refine ⟨(noRec, false, 1), ?_, ?_, by simp⟩
    · unfold record_Inside; rw [record_Valid_eq h.src h.len, hv]; rfl
    · unfold ref14_Inside ref14_part; rw [ref14_Valid_eq h.src h.len, hv]; rfl
theorem follows2 {a b : Record} (ha : RSm a) (hb : RSm b) (k : Int) : ∃ v, record_Follows a b k = some v ∧ ref14_Follows a b k = some v := by
  unfold record_Follows ref14_Follows
  rw [record_Valid_eq ha.src ha.len, record_Valid_eq hb.src hb.len, ref14_Valid_eq ha.src ha.len, ref14_Valid_eq hb.src hb.len, record_in_eq, ref01_In_eq]
  generalize ((a.Source.Network == b.Source.Network) && ((a.Source.Station == b.Source.Station) && ((a.Source.Location == b.Source.Location) && ((a.Source.Channel == b.Source.Channel) && true)))) = S
  generalize ((a.Rate.Num == b.Rate.Num) && ((a.Rate.Den == b.Rate.Den) && true)) = R
  generalize inB k 0 9007199254740992 = K
  cases va : recB a with
  | false => exact ⟨false, rfl, rfl⟩
  | true =>
    cases vb : recB b with
    | false => exact ⟨false, rfl, rfl⟩
    | true =>
      have ra := recB_iff.1 va
      have rb := recB_iff.1 vb
      cases S with
      | false => exact ⟨false, rfl, rfl⟩
      | true =>
        cases R with
        | false => exact ⟨false, rfl, rfl⟩
        | true =>
          cases K with
          | false => exact ⟨false, rfl, rfl⟩
          | true =>
            rw [record_time_eq rb (Int.le_refl 0) (by omega), record_time_eq ra (by omega) (Int.le_refl _), rb.reftime (Int.le_refl 0) (by omega), ra.reftime (by omega) (Int.le_refl _)]
            exact ⟨_, rfl, rfl⟩

/-- a record with one thing changed -/
theorem oddrec_spec {d : Dice} (hd : DOK d) {r : Record} (h : RSm r) (hl : r.Samples.length ≤ 1000) : ∃ x d', made_Dice_OddRecord d r = some (x, d') ∧ RSm x ∧ x.Samples.length ≤ 10000 ∧ DOK d' := by
  obtain ⟨n, d1, e1, _, _, hd1⟩ := next_spec hd (n := 10) (by decide) (by decide)
  have sm : ∀ (st : ByteArray) (a b c d e f g : Int) (l : List Int), st.size ≤ 9223372036854775807 → l.length ≤ 10000 → RSm ⟨⟨r.Source.Network, st, r.Source.Location, r.Source.Channel⟩, a, b, ⟨c, d⟩, e, f, g, l⟩ :=
    fun st _ _ _ _ _ _ _ l hst hl => ⟨⟨h.src.n, hst, h.src.l, h.src.c⟩, by simp only; omega⟩
  unfold made_Dice_OddRecord
  rw [appM_one _ _ _ (by simp; omega) (by decide), e1]
  simp only [Option.bind, List.nil_append]
  cases c0 : (n == 0) with
  | true => exact ⟨_, _, rfl, sm _ _ _ _ _ _ _ _ _ (by decide) (by omega), by simp only; omega, hd1⟩
  | false =>
    simp only [Bool.false_eq_true, if_false]
    cases c1 : (n == 1) with
    | true =>
      obtain ⟨x, d2, e2, _, hd2⟩ := pick_spec hd1 (l := [(-1), 0, 9007199254740992, 9007199254740993]) (by decide) (by decide)
      simp only [if_true]; rw [e2]
      exact ⟨_, _, rfl, sm _ _ _ _ _ _ _ _ _ h.src.s (by omega), by simp only; omega, hd2⟩
    | false =>
      simp only [Bool.false_eq_true, if_false]
      cases c2 : (n == 2) with
      | true =>
        obtain ⟨x, d2, e2, _, hd2⟩ := pick_spec hd1 (l := [(-1), 16777213, 16777216]) (by decide) (by decide)
        simp only [if_true]; rw [e2]
        exact ⟨_, _, rfl, sm _ _ _ _ _ _ _ _ _ h.src.s (by omega), by simp only; omega, hd2⟩
      | false =>
        simp only [Bool.false_eq_true, if_false]
        cases c3 : (n == 3) with
        | true =>
          obtain ⟨x, d2, e2, _, hd2⟩ := pick_spec hd1 (l := [0, 2, 4097]) (by decide) (by decide)
          simp only [if_true]; rw [e2]
          exact ⟨_, _, rfl, sm _ _ _ _ _ _ _ _ _ h.src.s (by omega), by simp only; omega, hd2⟩
        | false =>
          simp only [Bool.false_eq_true, if_false]
          cases c4 : (n == 4) with
          | true =>
            obtain ⟨x, d2, e2, _, hd2⟩ := pick_spec hd1 (l := [(-1), 1099511627776, 1099511627777]) (by decide) (by decide)
            simp only [if_true]; rw [e2]
            exact ⟨_, _, rfl, sm _ _ _ _ _ _ _ _ _ h.src.s (by omega), by simp only; omega, hd2⟩
          | false =>
            simp only [Bool.false_eq_true, if_false]
            cases c5 : (n == 5) with
            | true =>
              obtain ⟨x, d2, e2, _, hd2⟩ := pick_spec hd1 (l := [(-1), 65535, 65536]) (by decide) (by decide)
              simp only [if_true]; rw [e2]
              exact ⟨_, _, rfl, sm _ _ _ _ _ _ _ _ _ h.src.s (by omega), by simp only; omega, hd2⟩
            | false =>
              simp only [Bool.false_eq_true, if_false]
              cases c6 : (n == 6) with
              | true =>
                obtain ⟨x, d2, e2, _, hd2⟩ := pick_spec hd1 (l := [(-1), 1073741824, 1073741825]) (by decide) (by decide)
                simp only [if_true]; rw [e2]
                exact ⟨_, _, rfl, sm _ _ _ _ _ _ _ _ _ h.src.s (by omega), by simp only; omega, hd2⟩
              | false =>
                simp only [Bool.false_eq_true, if_false]
                cases c7 : (n == 7) with
                | true =>
                  obtain ⟨x, d2, e2, _, hd2⟩ := pick_spec hd1 (l := [1073741823, 1073741824, (-1073741824)]) (by decide) (by decide)
                  simp only [if_true]; rw [e2]
                  simp only
                  rw [appM_one _ _ _ (by simp; omega) (by decide)]
                  exact ⟨_, _, rfl, sm _ _ _ _ _ _ _ _ _ h.src.s (by simp; omega), by simp; omega, hd2⟩
                | false =>
                  simp only [Bool.false_eq_true, if_false]
                  cases c8 : (n == 8) with
                  | true => exact ⟨_, _, rfl, sm _ _ _ _ _ _ _ _ _ h.src.s (by simp), by simp, hd1⟩
                  | false => exact ⟨_, _, rfl, sm _ _ _ _ _ _ _ _ _ h.src.s (by omega), by simp only; omega, hd1⟩

theorem rsame_refl {r : Record} (h : r.Samples.length ≤ 1000000000) : ref14_Same r r = some true := by
  unfold ref14_Same
  rw [ref05_Same_eq _ _ h]
  simp [ba_refl]

theorem law14_RecordExact_true (t : List Int) (raw : Record) (i j k : Int) (z1 : (raw.Source.Network.size : Int) ≤ IntKind.i64.max) (z2 : (raw.Source.Station.size : Int) ≤ IntKind.i64.max)
    (z3 : (raw.Source.Location.size : Int) ≤ IntKind.i64.max) (z4 : (raw.Source.Channel.size : Int) ≤ IntKind.i64.max) : law14_RecordExact t raw i j k = some true := by
  have em : IntKind.i64.max = 9223372036854775807 := by decide
  rw [em] at z1 z2 z3 z4
  unfold law14_RecordExact
  rw [light_spec]
  simp only [Option.bind]
  cases hc : ((!(decide (t.length ≤ 500))) || (decide (100 < (raw.Samples.length : Int)))) with
  | true => simp only [if_true]; rw [sane_true]
  | false =>
  simp only [Bool.or_eq_false_iff, Bool.not_eq_false', decide_eq_true_iff, decide_eq_false_iff_not] at hc
  obtain ⟨hl, hr⟩ := hc
  have hraw : RSm raw := ⟨⟨by omega, by omega, by omega, by omega⟩, by omega⟩
  simp only [Bool.false_eq_true, if_false, made_Roll]
  obtain ⟨s, d1, es, hs, hd1⟩ := dsource_spec (DOK.roll hl)
  obtain ⟨a, d2, ea, ha, hd2⟩ := drecord_spec hd1 s (n := 8) (by decide) (by decide)
  obtain ⟨b, d3, eb, hb, hd3⟩ := drecord_spec hd2 s (n := 8) (by decide) (by decide)
  obtain ⟨q, d4, eq, q0, q1, hd4⟩ := next_spec hd3 (n := 4) (by decide) (by decide)
  have ra := ha.rf hs (by decide)
  have rb := hb.rf hs (by decide)
  have la := ha.l1
  have lb := hb.l1
  have la0 := ha.l0
  rw [es]; simp only
  rw [ea]; simp only
  rw [eb]; simp only
  rw [eq]; simp only
  -- what is shown of each record
  have orders : ∀ (sv : List Int × Int × Int) (x : Record) (n : Int × Dice) (l : List Record), RSm x → x.Samples.length ≤ 10000 → (∀ y ∈ l, RSm y ∧ y.Samples.length ≤ 10000) → l.length ≤ 10 →
      whileM (law14_RecordExact_l29 k sv x n l) 0 = some (.inl (n.2.L, n.2.At, w64 (sv.2.2 + 1))) := by
    intro sv x n l hx hx2 hy hll
    refine whileM_for' (fun i => (i : Int)) l.length _ rfl (fun i hi => ?_) ?_
    · obtain ⟨y, hm, ey⟩ := ix_mem l i hi
      obtain ⟨y1, y2⟩ := hy y hm
      obtain ⟨v, v1⟩ : ∃ v, record_Same x y = some v := ⟨_, record_Same_eq hx⟩
      have v2 : ref14_Same x y = some v := by rw [rsame_eq hx]; exact v1
      obtain ⟨w, w1, w2⟩ := follows2 hx y1 k
      unfold law14_RecordExact_l29
      rw [if_pos (decide_eq_true (by omega)), ey]
      simp only [Option.bind]
      rw [record_Compare_eq hx y1, rcompare_eq hx y1 (by omega)]
      simp only [bne_self_eq_false, Bool.false_eq_true, if_false]
      rw [record_Better_eq hx y1, rbetter_eq hx y1 (by omega)]
      simp only [beq_self_eq_true, Bool.not_true, Bool.false_eq_true, if_false]
      rw [v1, v2]
      simp only [beq_self_eq_true, Bool.not_true, Bool.false_eq_true, if_false]
      rw [w1, w2]
      simp only [beq_self_eq_true, Bool.not_true, Bool.false_eq_true, if_false]
      rw [w64_id (by omega) (by omega)]; rfl
    · unfold law14_RecordExact_l29
      rw [if_neg (by simp)]; rfl
  have fin : ∀ (L : List Int) (At : Int) (y : Record), DOK ⟨L, At⟩ → RSm y → y.Samples.length ≤ 10000 →
      law14_RecordExact_j1 raw i j k (a, d2) L At y.Source.Network y.Source.Station y.Source.Location y.Source.Channel y.Start y.First y.Rate.Num y.Rate.Den y.Error y.Run y.Seq y.Samples = some true := by
    intro L At y hd hy hyl
    obtain ⟨o, d5, e5, ho, hol, hd5⟩ := oddrec_spec hd ra.sm (by omega)
    unfold law14_RecordExact_j1
    rw [e5]
    simp only [Option.bind]
    have hall : ∀ x ∈ [a, y, o, raw], RSm x ∧ x.Samples.length ≤ 10000 := by
      intro x hx
      rcases (by simpa using hx : x = a ∨ x = y ∨ x = o ∨ x = raw) with rfl | rfl | rfl | rfl
      · exact ⟨ra.sm, by omega⟩
      · exact ⟨hy, hyl⟩
      · exact ⟨ho, hol⟩
      · exact ⟨hraw, by omega⟩
    have h3 : ∀ x ∈ [a, y, raw], RSm x ∧ x.Samples.length ≤ 10000 := by
      intro x hx
      rcases (by simpa using hx : x = a ∨ x = y ∨ x = raw) with rfl | rfl | rfl
      · exact ⟨ra.sm, by omega⟩
      · exact ⟨hy, hyl⟩
      · exact ⟨hraw, by omega⟩
    have windows : ∀ (sv : List Int × Int × Int) (x : Record) (p : Span × Int) (m n : Int × Dice), RSm x → x.Samples.length ≤ 10000 →
        whileM (law14_RecordExact_l27 raw i j k (a, d2) y.Source.Network y.Source.Station y.Source.Location y.Source.Channel y.Start y.First y.Rate.Num y.Rate.Den y.Error y.Run y.Seq y.Samples sv x p m n) 0 = some (.inl (n.2.L, n.2.At, w64 (sv.2.2 + 1))) := by
      intro sv x p m n hx hx2
      refine whileM_for' (fun i => (i : Int)) 3 _ rfl (fun c hc => ?_) ?_
      · obtain ⟨u, _, eu⟩ := ix_mem [(⟨i, j⟩ : (Arr2 Int)), (⟨(w64 (1000000000000 + (w64 (500000 * m.1)))), (w64 (1000000000000 + (w64 (500000 * n.1))))⟩ : (Arr2 Int)), (⟨p.1.From, p.1.To⟩ : (Arr2 Int))] c hc
        obtain ⟨u1, c1, c2, c3⟩ := cut2 hx u.e0 u.e1
        obtain ⟨u2, c4, c5, c6⟩ := inside2 hx u.e0 u.e1
        unfold law14_RecordExact_l27
        rw [if_pos (by simp; omega), eu]
        simp only [Option.bind]
        rw [c1, c2, c4, c5]
        simp only [beq_self_eq_true, bne_self_eq_false, Bool.not_true, Bool.or_self, Bool.or_false, Bool.false_eq_true, if_false]
        rw [rsame_refl (r := u1.1) (by omega)]
        simp only [Bool.not_true, Bool.or_self, Bool.or_false, Bool.false_eq_true, if_false]
        rw [rsame_refl (r := u2.1) (by omega), w64_id (by omega) (by omega)]; rfl
      · unfold law14_RecordExact_l27
        rw [if_neg (by simp)]
        simp only [Option.bind]
        rw [orders sv x n _ hx hx2 h3 (by simp)]; rfl
    have parts : ∀ (sv : List Int × Int × Int) (x : Record) (p : Span × Int) (m n : Int × Dice), RSm x → x.Samples.length ≤ 10000 → DOK n.2 →
        ∃ d', DOK d' ∧ whileM (law14_RecordExact_l25 raw i j k (a, d2) y.Source.Network y.Source.Station y.Source.Location y.Source.Channel y.Start y.First y.Rate.Num y.Rate.Den y.Error y.Run y.Seq y.Samples sv x p m n) 0 = some (.inl (d'.L, d'.At, w64 (sv.2.2 + 1))) := by
      intro sv x p m n hx hx2 hn
      obtain ⟨v6, d6, e6, _, _, hd6⟩ := next_spec hn (n := 30) (by decide) (by decide)
      obtain ⟨v7, d7, e7, _, _, hd7⟩ := next_spec hd6 (n := 40) (by decide) (by decide)
      refine ⟨d7, hd7, ?_⟩
      refine whileM_for' (fun i => (i : Int)) 3 _ rfl (fun c hc => ?_) ?_
      · obtain ⟨u, _, eu⟩ := ix_mem [(⟨i, j⟩ : (Arr2 Int)), (⟨(w64 (m.1 - 1)), n.1⟩ : (Arr2 Int)), (⟨0, (x.Samples.length : Int)⟩ : (Arr2 Int))] c hc
        obtain ⟨u1, f1, c1, c2⟩ := at2 hx u.e0
        obtain ⟨u2, f2, c4, c5, c6⟩ := sub2 hx u.e0 u.e1
        unfold law14_RecordExact_l25
        rw [if_pos (by simp; omega), eu]
        simp only [Option.bind]
        rw [c1, c2, c4, c5]
        simp only [bne_self_eq_false, Bool.or_self, Bool.false_eq_true, if_false]
        rw [rsame_refl (r := u2) (by omega), w64_id (by omega) (by omega)]; rfl
      · unfold law14_RecordExact_l25
        rw [if_neg (by simp), e6]
        simp only [Option.bind]
        rw [e7]
        simp only
        rw [windows sv x p _ _ hx hx2]; rfl
    obtain ⟨r, er, hr⟩ := loop_ex (b1 := law14_RecordExact_l17 raw i j k (a, d2) y.Source.Network y.Source.Station y.Source.Location y.Source.Channel y.Start y.First y.Rate.Num y.Rate.Den y.Error y.Run y.Seq y.Samples [a, y, o, raw])
      (fun n s => ∃ (i : Nat), s.2.2 = (i : Int) ∧ n + i = 4 ∧ DOK ⟨s.1, s.2.1⟩) (fun r => r = true)
      (fun n s ⟨c, hc, hn, hd⟩ => by
        obtain ⟨L', A', c'⟩ := s
        simp only at hc hd
        subst hc
        by_cases h4 : c < 4
        · left
          obtain ⟨x, hx, ex⟩ := ix_mem [a, y, o, raw] c h4
          obtain ⟨x1, x2⟩ := hall x hx
          obtain ⟨p, e, p1, p2⟩ := span2 x1
          obtain ⟨v6, d6, e6, _, _, hd6⟩ := next_spec hd (n := 10) (by decide) (by decide)
          obtain ⟨v7, d7, e7, _, _, hd7⟩ := next_spec hd6 (n := 10) (by decide) (by decide)
          obtain ⟨d', hd', ew⟩ := parts (L', A', (c : Int)) x (p, e) (v6, d6) (v7, d7) x1 x2 hd7
          refine ⟨(d'.L, d'.At, ((c + 1 : Nat) : Int)), n - 1, ?_, ⟨c + 1, rfl, by omega, hd'⟩, by omega⟩
          unfold law14_RecordExact_l17
          rw [if_pos (by simp; omega), ex]
          simp only [Option.bind]
          rw [p1, p2]
          simp only [beq_self_eq_true, bne_self_eq_false, Bool.and_self, Bool.not_true, Bool.or_self, Bool.false_eq_true, if_false]
          rw [record_Valid_eq x1.src x1.len, ref14_Valid_eq x1.src x1.len]
          simp only [beq_self_eq_true, Bool.not_true, Bool.false_eq_true, if_false]
          rw [e6]
          simp only
          rw [e7]
          simp only
          rw [ew, w64_id (by simp only; omega) (by simp only; omega)]; rfl
        · right
          refine ⟨true, ?_, rfl⟩
          unfold law14_RecordExact_l17
          rw [if_neg (by simp; omega)]
          have last : whileM (law14_RecordExact_l31 (a, d2) y.Source.Network y.Source.Station y.Source.Location y.Source.Channel y.Start y.First y.Rate.Num y.Rate.Den y.Error y.Run y.Seq y.Samples) 0 = some true := by
            refine whileM_for' (fun i => (i : Int)) 4 _ rfl (fun c hc => ?_) ?_
            · obtain ⟨u, _, eu⟩ := ix_mem ([0, 250000, 3000000, 9007199254740992] : List Int) c hc
              obtain ⟨v, v1, v2⟩ := follows2 ra.sm hy u
              obtain ⟨w, w1, w2⟩ := follows2 hy ra.sm u
              unfold law14_RecordExact_l31
              rw [if_pos (by simp; omega), eu]
              simp only [Option.bind]
              rw [v1, v2]
              simp only [beq_self_eq_true, Bool.not_true, Bool.false_eq_true, if_false]
              rw [w1, w2]
              simp only [beq_self_eq_true, Bool.not_true, Bool.false_eq_true, if_false]
              rw [w64_id (by omega) (by omega)]; rfl
            · unfold law14_RecordExact_l31
              rw [if_neg (by simp), sane_true]; rfl
          rw [last]; rfl) 4 (d5.L, d5.At, 0) ⟨0, rfl, rfl, hd5⟩
    rw [er, hr]
  cases hq : (q == 0) with
  | true =>
    simp only [if_true]
    rw [appM_one _ _ _ (by simp; omega) (by decide)]
    simp only [List.nil_append]
    obtain ⟨v, d5, e5, v0, v1, hd5⟩ := next_spec hd4 (n := (a.Samples.length : Int)) (by omega) (by omega)
    rw [e5]
    simp only
    rw [ix_at _ _ v0 (by omega)]
    simp only
    rw [setM_at _ _ _ v0 (by omega)]
    simp only
    have hset : ∀ w, (a.Samples.set v.toNat w).length ≤ 10000 := fun w => by rw [List.length_set]; omega
    exact fin _ _ ⟨a.Source, a.Start, a.First, a.Rate, a.Error, a.Run, a.Seq, _⟩ hd5 ⟨ra.sm.src, by simp only; have := hset (w64 (a.Samples[v.toNat]'(by omega) + 1)); omega⟩ (hset _)
  | false =>
    simp only [Bool.false_eq_true, if_false]
    exact fin _ _ b hd4 rb.sm (by omega)

end Go.Proofs.Ytdifjkamipeibaa.Sh

/- Compare, Better and Same of records as plain programs: strict total orders (chapters 3 and 14). -/
import Derived.Test.YthdimlepjpnncaaGreatOrder
import Derived.Test.YthdimlepjpnncaaGreatRecS
namespace Go.Proofs.YthdimlepjpnncaaGreat.Sh
open Go
set_option linter.unusedVariables false
set_option linter.unusedSimpArgs false

theorem cmp_int_eq (x y : Int) : cmp_Compare_int x y = some (cmpI x y) := by
  unfold cmp_Compare_int cmp_isNaN_int cmpI
  simp only [bne_self_eq_false, Option.bind, Bool.false_eq_true, if_false]
  by_cases h1 : x < y
  · simp [h1]
  · by_cases h2 : y < x
    · simp [h1, h2]
    · simp [h1, h2]
theorem cmp_string_eq (x y : ByteArray) : cmp_Compare_string x y = some (cmpS x y) := by
  unfold cmp_Compare_string cmp_isNaN_string
  rw [cmpS_spell]
  simp only [beq_self_eq_true, Bool.not_true, Option.bind, Bool.false_eq_true, if_false]
  cases Op.bytesLess x.toList y.toList
  · cases (x.toList == y.toList) <;> simp
  · simp
theorem or_int_eq (l : List Int) (hl : l.length ≤ 1000000) : cmp_Or_int l = some (orL l) := by
  unfold cmp_Or_int
  have key : ∀ m, m ≤ l.length → whileM (cmp_Or_int_l2 l) ((l.length - m : Nat) : Int) = some (orL (l.drop (l.length - m))) := by
    intro m
    induction m with
    | zero =>
      intro _
      rw [whileM_eq, Nat.sub_zero]
      unfold cmp_Or_int_l2
      rw [if_neg (by simp)]
      simp [orL]
    | succ m ih =>
      intro hm
      have ih := ih (by omega)
      rw [show l.length - m = l.length - (m + 1) + 1 by omega] at ih
      have hi : l.length - (m + 1) < l.length := by omega
      rw [whileM_eq]
      unfold cmp_Or_int_l2
      rw [if_pos (decide_eq_true (by omega)), ix_nat _ _ hi, List.drop_eq_getElem_cons hi]
      simp only [Option.bind, orL]
      by_cases hx : l[l.length - (m + 1)] = 0
      · rw [if_neg (by simp [hx]), if_neg (by omega), w64_id (by omega) (by omega)]
        exact ih
      · rw [if_pos (by simpa using hx), if_pos hx]
  have := key l.length (Nat.le_refl _)
  rw [Nat.sub_self] at this
  exact this
theorem lex_int_eq (a b : List Int) (ha : a.length ≤ 1000000000) : slices_Compare_Lint_int a b = some (lexL cmpI a b) := by
  unfold slices_Compare_Lint_int
  have key : ∀ m, m ≤ a.length → a.length - m ≤ b.length → whileM (slices_Compare_Lint_int_l2 a b) ((a.length - m : Nat) : Int) = some (lexL cmpI (a.drop (a.length - m)) (b.drop (a.length - m))) := by
    intro m
    induction m with
    | zero =>
      intro _ hb
      rw [whileM_eq, Nat.sub_zero]
      unfold slices_Compare_Lint_int_l2
      rw [if_neg (by simp)]
      simp only [Option.map, Option.bind, List.drop_length]
      by_cases hl : a.length < b.length
      · rw [if_pos (decide_eq_true (by omega)), List.drop_eq_getElem_cons hl]
        rfl
      · rw [if_neg (by simpa using hl), List.drop_eq_nil_of_le (by omega)]
        rfl
    | succ m ih =>
      intro hm hb
      have hi : a.length - (m + 1) < a.length := by omega
      obtain ⟨i, hie⟩ : ∃ i, a.length - (m + 1) = i := ⟨_, rfl⟩
      have hm2 : a.length - m = i + 1 := by omega
      rw [hie] at hi hb ⊢
      by_cases hl : i < b.length
      · have ih := ih (by omega) (by omega)
        rw [hm2] at ih
        have step : slices_Compare_Lint_int_l2 a b (i : Int) = if cmpI a[i] b[i] = 0 then some (.inl ((i + 1 : Nat) : Int)) else some (.inr (cmpI a[i] b[i])) := by
          unfold slices_Compare_Lint_int_l2
          rw [if_pos (decide_eq_true (by omega)), ix_nat _ _ hi]
          simp only [Option.bind]
          rw [if_neg (by simp; omega), ix_nat _ _ hl]
          simp only [cmp_int_eq]
          by_cases hx : cmpI a[i] b[i] = 0
          · rw [if_neg (by simp [hx]), if_pos hx, w64_id (by omega) (by omega)]
            rfl
          · rw [if_pos (by simpa using hx), if_neg hx]
        rw [whileM_eq, step, List.drop_eq_getElem_cons hi, List.drop_eq_getElem_cons hl]
        simp only [lexL]
        by_cases hx : cmpI a[i] b[i] = 0
        · rw [if_pos hx, if_neg (by omega)]
          exact ih
        · rw [if_neg hx, if_pos hx]
          rfl
      · have step : slices_Compare_Lint_int_l2 a b (i : Int) = some (.inr 1) := by
          unfold slices_Compare_Lint_int_l2
          rw [if_pos (decide_eq_true (by omega)), ix_nat _ _ hi]
          simp only [Option.bind]
          rw [if_pos (decide_eq_true (by omega))]
        rw [whileM_eq, step, List.drop_eq_getElem_cons hi, List.drop_eq_nil_of_le (by omega : b.length ≤ i)]
        rfl
  have := key a.length (Nat.le_refl _) (by omega)
  rw [Nat.sub_self] at this
  exact this

def cmpSrc (a b : SourceID) : Int := andThen (fun a b => cmpS a.Network b.Network) (andThen (fun a b => cmpS a.Station b.Station) (andThen (fun a b => cmpS a.Location b.Location) (fun a b => cmpS a.Channel b.Channel))) a b
theorem cmpSrc_cmp : Cmp cmpSrc := (cmpS_cmp.by (fun s : SourceID => s.Network)).andThen ((cmpS_cmp.by (fun s : SourceID => s.Station)).andThen ((cmpS_cmp.by (fun s : SourceID => s.Location)).andThen (cmpS_cmp.by (fun s : SourceID => s.Channel))))
theorem or_last (x : Int) : orL [x] = x := by
  simp only [orL]; split <;> omega
theorem cmpSrc_eq {a b : SourceID} (h : cmpSrc a b = 0) : a = b := by
  unfold cmpSrc andThen at h
  have h1 : cmpS a.Network b.Network = 0 := Classical.byContradiction fun hn => by rw [if_pos hn] at h; exact hn h
  rw [if_neg (by omega)] at h
  have h2 : cmpS a.Station b.Station = 0 := Classical.byContradiction fun hn => by rw [if_pos hn] at h; exact hn h
  rw [if_neg (by omega)] at h
  have h3 : cmpS a.Location b.Location = 0 := Classical.byContradiction fun hn => by rw [if_pos hn] at h; exact hn h
  rw [if_neg (by omega)] at h
  cases a; cases b
  simp only [SourceID.mk.injEq]
  exact ⟨cmpS_eq h1, cmpS_eq h2, cmpS_eq h3, cmpS_eq h⟩
theorem source_Compare_eq (a b : SourceID) : source_Compare a b = some (cmpSrc a b) := by
  unfold source_Compare
  simp only [cmp_string_eq, Option.bind]
  rw [or_int_eq _ (by simp)]
  simp only [orL, cmpSrc, andThen, Option.some.injEq]
  split
  · rfl
  · split
    · rfl
    · split
      · rfl
      · split <;> omega

/-- when the first sample is, 0 for records that are not valid -/
def begR (r : Record) : Int := if recB r = true then timeR r 0 else 0
structure RSm (r : Record) : Prop where
  src : SrcSm r.Source
  len : r.Samples.length ≤ 1000000000
theorem RF.sm {r : Record} (h : RF r) : RSm r := ⟨srcB_sm h.src, by have := h.l1; omega⟩
theorem begin_eq {r : Record} (h : RSm r) : record_begin r = some (begR r) := by
  unfold record_begin begR
  rw [record_Valid_eq h.src h.len]
  simp only [Option.bind]
  by_cases hb : recB r = true
  · have hr := recB_iff.1 hb
    rw [hb, record_time_eq hr (Int.le_refl 0) (by omega)]
    rfl
  · simp only [Bool.not_eq_true] at hb
    rw [hb]; rfl
def cmpR (a b : Record) : Int :=
  andThen (fun a b => cmpSrc a.Source b.Source) (andThen (fun a b => cmpI (begR a) (begR b)) (andThen (fun a b => cmpI a.Start b.Start) (andThen (fun a b => cmpI a.First b.First) (andThen (fun a b => cmpI a.Rate.Num b.Rate.Num)
    (andThen (fun a b => cmpI a.Rate.Den b.Rate.Den) (andThen (fun a b => cmpI a.Error b.Error) (andThen (fun a b => cmpI a.Run b.Run) (andThen (fun a b => cmpI a.Seq b.Seq) (andThen (fun a b => cmpI a.Samples.length b.Samples.length) (fun a b => lexL cmpI a.Samples b.Samples)))))))))) a b
theorem cmpR_cmp : Cmp cmpR :=
  (cmpSrc_cmp.by (fun r : Record => r.Source)).andThen ((cmpI_cmp.by begR).andThen ((cmpI_cmp.by (fun r : Record => r.Start)).andThen ((cmpI_cmp.by (fun r : Record => r.First)).andThen ((cmpI_cmp.by (fun r : Record => r.Rate.Num)).andThen
    ((cmpI_cmp.by (fun r : Record => r.Rate.Den)).andThen ((cmpI_cmp.by (fun r : Record => r.Error)).andThen ((cmpI_cmp.by (fun r : Record => r.Run)).andThen ((cmpI_cmp.by (fun r : Record => r.Seq)).andThen ((cmpI_cmp.by (fun r : Record => (r.Samples.length : Int))).andThen ((lexL_cmp cmpI_cmp).by (fun r : Record => r.Samples)))))))))))
theorem andThen_zero {α : Type} {c d : α → α → Int} {a b : α} (h : andThen c d a b = 0) : c a b = 0 ∧ d a b = 0 := by
  unfold andThen at h
  split at h
  · next hn => exact absurd h hn
  · next hn => exact ⟨by omega, h⟩
theorem cmpR_eq {a b : Record} (h : cmpR a b = 0) : a = b := by
  obtain ⟨h1, h⟩ := andThen_zero h
  obtain ⟨h2, h⟩ := andThen_zero h
  obtain ⟨h3, h⟩ := andThen_zero h
  obtain ⟨h4, h⟩ := andThen_zero h
  obtain ⟨h5, h⟩ := andThen_zero h
  obtain ⟨h6, h⟩ := andThen_zero h
  obtain ⟨h7, h⟩ := andThen_zero h
  obtain ⟨h8, h⟩ := andThen_zero h
  obtain ⟨h9, h⟩ := andThen_zero h
  obtain ⟨h10, h⟩ := andThen_zero h
  have e1 := cmpSrc_eq h1
  have e3 := cmpI_eq h3
  have e4 := cmpI_eq h4
  have e5 := cmpI_eq h5
  have e6 := cmpI_eq h6
  have e7 := cmpI_eq h7
  have e8 := cmpI_eq h8
  have e9 := cmpI_eq h9
  have e11 := lexL_eq (fun _ _ => cmpI_eq) _ _ h
  obtain ⟨a1, a2, a3, ⟨a4, a5⟩, a6, a7, a8, a9⟩ := a
  obtain ⟨b1, b2, b3, ⟨b4, b5⟩, b6, b7, b8, b9⟩ := b
  simp only at e1 e3 e4 e5 e6 e7 e8 e9 e11
  subst e1 e3 e4 e5 e6 e7 e8 e9 e11
  rfl
theorem record_Compare_eq {a b : Record} (ha : RSm a) (hb : RSm b) : record_Compare a b = some (cmpR a b) := by
  unfold record_Compare
  rw [source_Compare_eq, begin_eq ha, begin_eq hb, lex_int_eq _ _ ha.len]
  simp only [cmp_int_eq, Option.bind]
  rw [or_int_eq _ (by simp)]
  simp only [orL, cmpR, andThen, Option.some.injEq]
  repeat' (first | rfl | (split <;> (try rfl)))
  all_goals omega
def betR (a b : Record) : Int := andThen (fun a b => cmpI a.Error b.Error) (andThen (fun a b => cmpI b.Run a.Run) (andThen (fun a b => cmpI b.Seq a.Seq) cmpR)) a b
theorem betR_cmp : Cmp betR := (cmpI_cmp.by (fun r : Record => r.Error)).andThen ((cmpI_cmp.by (fun r : Record => r.Run)).rev.andThen ((cmpI_cmp.by (fun r : Record => r.Seq)).rev.andThen cmpR_cmp))
theorem betR_zero {a b : Record} (h : betR a b = 0) : a = b := by
  obtain ⟨_, h⟩ := andThen_zero h
  obtain ⟨_, h⟩ := andThen_zero h
  obtain ⟨_, h⟩ := andThen_zero h
  exact cmpR_eq h
theorem record_Better_eq {a b : Record} (ha : RSm a) (hb : RSm b) : record_Better a b = some (decide (betR a b < 0)) := by
  unfold record_Better
  rw [record_Compare_eq ha hb]
  simp only [cmp_int_eq, Option.bind]
  rw [or_int_eq _ (by simp)]
  have e : orL [cmpI a.Error b.Error, cmpI b.Run a.Run, cmpI b.Seq a.Seq, cmpR a b] = betR a b := by
    simp only [orL, betR, andThen]
    repeat' (first | rfl | (split <;> (try rfl)))
    all_goals omega
  rw [e]
open Classical in
theorem record_Same_eq {a b : Record} (ha : RSm a) : record_Same a b = some (decide (a = b)) := by
  unfold record_Same
  rw [equal_int _ _ ha.len]
  simp only [ba_beq, Bool.and_true]
  obtain ⟨⟨s1, s2, s3, s4⟩, a2, a3, ⟨a4, a5⟩, a6, a7, a8, a9⟩ := a
  obtain ⟨⟨t1, t2, t3, t4⟩, b2, b3, ⟨b4, b5⟩, b6, b7, b8, b9⟩ := b
  simp only [Record.mk.injEq, SourceID.mk.injEq, Rate.mk.injEq, Option.bind]
  by_cases c1 : s1 = t1 <;> by_cases c2 : s2 = t2 <;> by_cases c3 : s3 = t3 <;> by_cases c4 : s4 = t4 <;> try (simp [c1, c2, c3, c4]; done)
  by_cases c5 : a2 = b2 <;> by_cases c6 : a3 = b3 <;> by_cases c7 : a4 = b4 <;> by_cases c8 : a5 = b5 <;> try (simp [c5, c6, c7, c8]; done)
  by_cases c9 : a6 = b6 <;> by_cases c10 : a7 = b7 <;> by_cases c11 : a8 = b8 <;> simp [c1, c2, c3, c4, c5, c6, c7, c8, c9, c10, c11]

end Go.Proofs.YthdimlepjpnncaaGreat.Sh

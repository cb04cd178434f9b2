/- The filter's functions and the reference's: they answer alike. -/
import Derived.Test.YtmihimhknllmcaaSim
import Derived.Test.YtmihimhknllmcaaFilterStagesLaw
namespace Go.Proofs.Ytmihimhknllmcaa.Sh
open Go
set_option linter.unusedVariables false
set_option linter.unusedSimpArgs false

theorem grow2 {n : Int} (h0 : 0 ≤ n) (h : n ≤ 1000000) : slices_Grow_Lint_int_n n = some [] := by
  unfold slices_Grow_Lint_int_n
  have e : w64 (n - w64 (((0 : Nat) : Int) - (([] : List Int).length : Int))) = n := by
    have e0 : w64 (((0 : Nat) : Int) - (([] : List Int).length : Int)) = 0 := by decide
    rw [e0, w64_id (by omega) (by omega)]; omega
  have hn : ¬ n < 0 := by omega
  simp only [e, hn, decide_false, Bool.false_eq_true, if_false, Option.bind]
  by_cases h1 : 0 < n
  · have e : subM ([] : List Int) 0 ((0 : Nat) : Int) = some [] := by simp [subM]
    simp only [h1, decide_true, if_true, e, makeM_at 8 (0 : Int) n h0 (by omega) (by decide)]
    simp [subM, slices_Grow_Lint_int_n_j1, (show 0 ≤ max n 0 by omega)]
  · simp only [h1, decide_false, Bool.false_eq_true, if_false]
    rfl

theorem concat2 (a b : List Int) (ha : a.length ≤ 100000) (hb : b.length ≤ 100000) : slices_Concat_Lint_int [a, b] = some (a ++ b) := by
  unfold slices_Concat_Lint_int
  have w1 : w64 1 = 1 := by decide
  have w2 : w64 2 = 2 := by decide
  have wa : w64 (a.length : Int) = a.length := w64_id (by omega) (by omega)
  have wab : w64 ((a.length : Int) + b.length) = a.length + b.length := w64_id (by omega) (by omega)
  have na : ¬ ((a.length : Int) < 0) := by omega
  have nab : ¬ ((a.length : Int) + b.length < 0) := by omega
  have e1 : whileM (slices_Concat_Lint_int_l1 [a, b]) (0, 0) = some ((a.length : Int) + b.length) := by
    rw [whileM_eq]
    simp only [slices_Concat_Lint_int_l1, ix, Option.bind]
    simp [w1, wa, na]
    rw [whileM_eq]
    simp only [slices_Concat_Lint_int_l1, ix, Option.bind]
    simp [w2, wab, nab]
    rw [whileM_eq]
    simp [slices_Concat_Lint_int_l1]
  rw [e1]
  simp only [Option.bind]
  rw [grow2 (by omega) (by omega)]
  simp only
  have e2 : whileM (slices_Concat_Lint_int_l2 [a, b]) ([], 0) = some (a ++ b) := by
    rw [whileM_eq]
    simp only [slices_Concat_Lint_int_l2, ix, Option.bind]
    simp [w1, appM_one 8 [] a (by simp; omega) (by decide)]
    rw [whileM_eq]
    simp only [slices_Concat_Lint_int_l2, ix, Option.bind]
    simp [w2, appM_one 8 a b (by omega) (by decide)]
    rw [whileM_eq]
    simp [slices_Concat_Lint_int_l2]
  rw [e2]

structure WF (f : Filter) : Prop where
  l1 : 1 ≤ f.Taps.length
  l2 : f.Taps.length ≤ 128
  s0 : 0 ≤ f.Shift
  s1 : f.Shift ≤ 30
  f0 : 1 ≤ f.Factor
  f1 : f.Factor ≤ 64

theorem valid2 (f : Filter) (hl : f.Taps.length ≤ 1000) : ∃ b, filter_Valid f = some b ∧ ref21_Valid f = some b ∧ (b = true → WF f) := by
  by_cases c : 1 ≤ f.Taps.length ∧ f.Taps.length ≤ 128 ∧ 0 ≤ f.Shift ∧ f.Shift ≤ 30 ∧ 1 ≤ f.Factor ∧ f.Factor ≤ 64
  · obtain ⟨l1, l2, s0, s1, f0, f1⟩ := c
    have c1 : decide ((1 : Int) ≤ f.Taps.length) = true := decide_eq_true (by omega)
    have c2 : decide ((f.Taps.length : Int) ≤ 128) = true := decide_eq_true (by omega)
    have e1 : shlM .i64 1 f.Shift = some (2 ^ f.Shift.toNat) := by
      have := pow_le30 s1
      have := pow_pos' f.Shift.toNat
      rw [shlM_at _ _ s0 (by omega), Int.one_mul, w64_id (by omega) (by omega)]
    obtain ⟨r, q, h1, h2, rfl⟩ := sim (b1 := filter_Valid_l2 f) (b2 := ref21_Valid_l2 f) (fun n s t => ∃ (a : Int) (i : Nat), s = (a, (i : Int)) ∧ t = (a, (i : Int)) ∧ n + i = f.Taps.length) (fun r q => r = q)
      (fun n s t ⟨a, i, es, et, hn⟩ => by
        subst es; subst et
        by_cases hi : i < f.Taps.length
        · cases hin : ((decide (-1073741824 ≤ f.Taps[i])) && (decide (f.Taps[i] ≤ 1073741824))) with
          | false =>
            right
            refine ⟨false, false, ?_, ?_, rfl⟩
            · simp only [filter_Valid_l2]
              rw [if_pos (decide_eq_true (by omega)), ix_nat _ _ hi]
              simp only [Option.bind, filter_in, hin]; rfl
            · simp only [ref21_Valid_l2]
              rw [if_pos (decide_eq_true (by omega)), ix_nat _ _ hi]
              simp only [Option.bind, ref01_In, hin]; rfl
          | true =>
            left
            refine ⟨_, _, n - 1, ?_, ?_, ⟨w64 (a + (max f.Taps[i] (w64 (0 - f.Taps[i])))), i + 1, rfl, rfl, by omega⟩, by omega⟩
            · simp only [filter_Valid_l2]
              rw [if_pos (decide_eq_true (by omega)), ix_nat _ _ hi]
              simp only [Option.bind, filter_in, hin, Bool.not_true, Bool.false_eq_true, if_false]
              rw [w64_id (x := (i : Int) + 1) (by omega) (by omega)]; rfl
            · simp only [ref21_Valid_l2]
              rw [if_pos (decide_eq_true (by omega)), ix_nat _ _ hi]
              simp only [Option.bind, ref01_In, hin, Bool.not_true, Bool.false_eq_true, if_false]
              rw [w64_id (x := (i : Int) + 1) (by omega) (by omega)]; rfl
        · right
          refine ⟨decide (a ≤ 2 ^ f.Shift.toNat), decide (a ≤ 2 ^ f.Shift.toNat), ?_, ?_, rfl⟩
          · simp only [filter_Valid_l2]
            rw [if_neg (by simp; omega), e1]; rfl
          · simp only [ref21_Valid_l2]
            rw [if_neg (by simp; omega), u64_id s0 (by omega), e1]; rfl) f.Taps.length (0, 0) (0, 0) ⟨0, 0, rfl, rfl, rfl⟩
    refine ⟨r, ?_, ?_, fun _ => ⟨l1, l2, s0, s1, f0, f1⟩⟩
    · unfold filter_Valid
      simp only [filter_in, c1, c2, s0, s1, f0, f1, decide_true, Bool.and_true, Bool.not_true, Option.bind, Bool.false_eq_true, if_false]
      exact h1
    · unfold ref21_Valid
      simp only [ref01_In, c1, c2, s0, s1, f0, f1, decide_true, Bool.and_true, Bool.not_true, Option.bind, Bool.false_eq_true, if_false]
      exact h2
  · refine ⟨false, ?_, ?_, by simp⟩
    · unfold filter_Valid
      simp only [filter_in]
      cases hA : ((decide ((1 : Int) ≤ f.Taps.length)) && (decide ((f.Taps.length : Int) ≤ 128))) with
      | false => rfl
      | true =>
        cases hB : ((decide (0 ≤ f.Shift)) && (decide (f.Shift ≤ 30))) with
        | false => rfl
        | true =>
          cases hC : ((decide (1 ≤ f.Factor)) && (decide (f.Factor ≤ 64))) with
          | false => rfl
          | true =>
            simp only [Bool.and_eq_true, decide_eq_true_iff] at hA hB hC
            omega
    · unfold ref21_Valid
      simp only [ref01_In]
      cases hA : ((decide ((1 : Int) ≤ f.Taps.length)) && (decide ((f.Taps.length : Int) ≤ 128))) with
      | false => rfl
      | true =>
        cases hB : ((decide (0 ≤ f.Shift)) && (decide (f.Shift ≤ 30))) with
        | false => rfl
        | true =>
          cases hC : ((decide (1 ≤ f.Factor)) && (decide (f.Factor ≤ 64))) with
          | false => rfl
          | true =>
            simp only [Bool.and_eq_true, decide_eq_true_iff] at hA hB hC
            omega

theorem out2 {f : Filter} (h : WF f) {xs : List Int} (hx : xs.length ≤ 10000) (i : Nat) (h1 : f.Taps.length ≤ i + 1) (h2 : i < xs.length) : ∃ z, filter_output f xs i = some z ∧ ref21_output f xs i = some z := by
  have hl := h.l2
  obtain ⟨r, q, e1, e2, rfl⟩ := sim (b1 := filter_output_l1 f xs i) (b2 := ref21_output_l1 f xs i) (fun n s t => ∃ (a : Int) (m : Nat), s = (a, (m : Int)) ∧ t = (a, (m : Int)) ∧ n + m = f.Taps.length) (fun r q => r = q)
    (fun n s t ⟨a, m, es, et, hn⟩ => by
      subst es; subst et
      by_cases hm : m < f.Taps.length
      · left
        have e3 : w64 ((i : Int) - (m : Int)) = ((i - m : Nat) : Int) := by rw [w64_id (by omega) (by omega)]; omega
        refine ⟨_, _, n - 1, ?_, ?_, ⟨w64 (a + w64 (f.Taps[m] * (xs[i - m]'(by omega)))), m + 1, rfl, rfl, by omega⟩, by omega⟩
        · simp only [filter_output_l1]
          rw [if_pos (decide_eq_true (by omega)), ix_nat _ _ hm, e3, ix_nat _ _ (show i - m < xs.length by omega)]
          simp only [Option.bind]
          rw [w64_id (x := (m : Int) + 1) (by omega) (by omega)]; rfl
        · simp only [ref21_output_l1]
          rw [if_pos (decide_eq_true (by omega)), ix_nat _ _ hm, e3, ix_nat _ _ (show i - m < xs.length by omega)]
          simp only [Option.bind]
          rw [w64_id (x := (m : Int) + 1) (by omega) (by omega)]; rfl
      · right
        refine ⟨a, a, ?_, ?_, rfl⟩
        · simp only [filter_output_l1]
          rw [if_neg (by simp; omega)]
        · simp only [ref21_output_l1]
          rw [if_neg (by simp; omega)]) f.Taps.length (0, 0) (0, 0) ⟨0, 0, rfl, rfl, rfl⟩
  refine ⟨r.fdiv (2 ^ f.Shift.toNat), ?_, ?_⟩
  · unfold filter_output
    rw [e1]
    simp only [Option.bind]
    rw [shrM_at _ _ h.s0 (by have := h.s1; omega)]
  · unfold ref21_output
    rw [e2]
    simp only [Option.bind]
    rw [u64_id h.s0 (by have := h.s1; omega), shrM_at _ _ h.s0 (by have := h.s1; omega)]

theorem kept2 {f : Filter} (h : WF f) {xs : List Int} (hx : xs.length ≤ 10000) (number : Int) (fr : Nat) (hfr : fr ≤ 10000) :
    ∃ r q, filter_outputs f xs number fr = some r ∧ ref21_kept f xs number fr = some (r, q) ∧ r.length ≤ 10000 := by
  have hl := h.l2
  have hl1 := h.l1
  have e0 : max (fr : Int) (w64 ((f.Taps.length : Int) - 1)) = ((max fr (f.Taps.length - 1) : Nat) : Int) := by rw [w64_id (by omega) (by omega)]; omega
  obtain ⟨r, q, e1, e2, hq, hlen⟩ := sim (b1 := filter_outputs_l1 f xs number) (b2 := ref21_kept_l1 f xs number)
    (fun n s t => ∃ (o p : List Int) (i : Nat), s = (o, (i : Int)) ∧ t = (o, p, (i : Int)) ∧ f.Taps.length ≤ i + 1 ∧ i ≤ 20000 ∧ n = xs.length - i ∧ o.length + n ≤ xs.length ∧ p.length = o.length) (fun r q => r = q.1 ∧ r.length ≤ xs.length)
    (fun n s t ⟨o, p, i, es, et, ht, hi2, hn, ho, hp⟩ => by
      subst es; subst et
      by_cases hi : i < xs.length
      · left
        have hne : f.Factor ≠ 0 := by have := h.f0; omega
        by_cases hc : (w64 (number + (i : Int))).tmod f.Factor = 0
        · obtain ⟨z, z1, z2⟩ := out2 h hx i ht hi
          refine ⟨_, _, n - 1, ?_, ?_, ⟨o ++ [z], p ++ [(i : Int)], i + 1, rfl, rfl, by omega, by omega, by omega, by simp; omega, by simp; omega⟩, by omega⟩
          · simp only [filter_outputs_l1]
            rw [if_pos (decide_eq_true (by omega)), remM_at _ _ hne, hc]
            simp only [Option.bind, beq_self_eq_true, if_true]
            rw [z1]
            simp only
            rw [appM_one _ _ _ (by simp; omega) (by decide)]
            simp only [filter_outputs_j1, Option.bind]
            rw [w64_id (by omega) (by omega)]; rfl
          · simp only [ref21_kept_l1]
            rw [if_pos (decide_eq_true (by omega)), remM_at _ _ hne, hc]
            simp only [Option.bind, beq_self_eq_true, if_true]
            rw [z2]
            simp only
            rw [appM_one _ _ _ (by simp; omega) (by decide)]
            simp only
            rw [appM_one _ _ _ (by simp; omega) (by decide)]
            simp only [ref21_kept_j1, Option.bind]
            rw [w64_id (by omega) (by omega)]; rfl
        · refine ⟨_, _, n - 1, ?_, ?_, ⟨o, p, i + 1, rfl, rfl, by omega, by omega, by omega, by omega, hp⟩, by omega⟩
          · simp only [filter_outputs_l1]
            rw [if_pos (decide_eq_true (by omega)), remM_at _ _ hne]
            simp only [Option.bind]
            rw [if_neg (by simpa using hc)]
            simp only [filter_outputs_j1, Option.bind]
            rw [w64_id (by omega) (by omega)]; rfl
          · simp only [ref21_kept_l1]
            rw [if_pos (decide_eq_true (by omega)), remM_at _ _ hne]
            simp only [Option.bind]
            rw [if_neg (by simpa using hc)]
            simp only [ref21_kept_j1, Option.bind]
            rw [w64_id (by omega) (by omega)]; rfl
      · right
        refine ⟨o, (o, p), ?_, ?_, rfl, by omega⟩
        · simp only [filter_outputs_l1]
          rw [if_neg (by simp; omega)]
        · simp only [ref21_kept_l1]
          rw [if_neg (by simp; omega)]) (xs.length - max fr (f.Taps.length - 1)) ([], ((max fr (f.Taps.length - 1) : Nat) : Int)) ([], [], ((max fr (f.Taps.length - 1) : Nat) : Int))
    ⟨[], [], _, rfl, rfl, by omega, by omega, rfl, by simp, rfl⟩
  refine ⟨r, q.2, ?_, ?_, by omega⟩
  · unfold filter_outputs
    rw [e0]
    simp only [Option.bind]
    rw [e1]
  · unfold ref21_kept
    rw [e0]
    simp only [Option.bind]
    rw [e2, hq]

theorem inrange_spec (xs : List Int) (hl : xs.length ≤ 10000) : ref05_InRange xs = some (!(xs.any fun x => !((decide (-1073741823 ≤ x)) && (decide (x ≤ 1073741823))))) := by
  have : (xs.all fun x => ((decide (-1073741823 ≤ x)) && (decide (x ≤ 1073741823)))) = !(xs.any fun x => !((decide (-1073741823 ≤ x)) && (decide (x ≤ 1073741823)))) := by
    rw [List.not_any_eq_all_not]; simp
  rw [← this, ← range_all xs _ (fun i => ((decide (-1073741823 ≤ xs.getD i 0)) && (decide (xs.getD i 0 ≤ 1073741823)))) (fun i hi => by simp [List.getD_eq_getElem?_getD, hi])]
  unfold ref05_InRange
  rw [loop_all xs.length (fun i => ((decide (-1073741823 ≤ xs.getD i 0)) && (decide (xs.getD i 0 ≤ 1073741823)))) false true]
  · cases (List.range xs.length).all (fun i => ((decide (-1073741823 ≤ xs.getD i 0)) && (decide (xs.getD i 0 ≤ 1073741823)))) <;> rfl
  · intro i hi hp
    simp only [List.getD_eq_getElem?_getD, List.getElem?_eq_getElem hi, Option.getD_some] at hp
    simp only [ref05_InRange_l2]
    rw [if_pos (decide_eq_true (by omega)), ix_nat _ _ hi]
    simp only [Option.bind, ref05_Sample, ref01_In, hp, Bool.not_true, Bool.false_eq_true, if_false]
    rw [w64_id (by omega) (by omega)]; rfl
  · intro i hi hp
    simp only [List.getD_eq_getElem?_getD, List.getElem?_eq_getElem hi, Option.getD_some] at hp
    simp only [ref05_InRange_l2]
    rw [if_pos (decide_eq_true (by omega)), ix_nat _ _ hi]
    simp only [Option.bind, ref05_Sample, ref01_In, hp]; rfl
  · simp only [ref05_InRange_l2]
    rw [if_neg (by simp)]; rfl

theorem wrong_at : ∀ x, filter_wrong x = some (!((decide (-1073741823 ≤ x)) && (decide (x ≤ 1073741823)))) := fun x => by simp [filter_wrong, filter_in]

theorem check2 (xs : List Int) (hl : xs.length ≤ 10000) (n m : Int) : ∃ e, filter_check xs n m = some e ∧ ref21_check xs n m = some e := by
  have hL : decide (65536 < (xs.length : Int)) = false := decide_eq_false (by omega)
  unfold filter_check ref21_check
  rw [contains_spec _ _ wrong_at xs (by omega), inrange_spec xs hl]
  simp only [filter_in, ref01_In, Option.bind, hL]
  generalize ((decide (0 ≤ n)) && (decide (n ≤ m))) = A
  generalize (xs.any fun x => !((decide (-1073741823 ≤ x)) && (decide (x ≤ 1073741823)))) = B
  cases A <;> cases B <;> exact ⟨_, rfl, rfl⟩

theorem apply2 (f : Filter) (hf : f.Taps.length ≤ 1000) (xs : List Int) (hx : xs.length ≤ 10000) (n : Int) : ∃ a e, filter_Apply f xs n = some (a, e) ∧ ref21_Apply f xs n = some (a, e) ∧ a.length ≤ 10000 := by
  obtain ⟨b, h1, h2, hb⟩ := valid2 f hf
  unfold filter_Apply ref21_Apply
  rw [h1, h2]
  cases b with
  | false => exact ⟨[], 1, rfl, rfl, by simp⟩
  | true =>
    obtain ⟨e, h3, h4⟩ := check2 xs hx n 9007199254740992
    simp only [Option.bind, Bool.not_true, Bool.false_eq_true, if_false]
    rw [h3, h4]
    simp only
    cases he : (e != 0) with
    | true => exact ⟨[], e, rfl, rfl, by simp⟩
    | false =>
      obtain ⟨r, q, h5, h6, h7⟩ := kept2 (hb rfl) hx n 0 (by omega)
      have h5 : filter_outputs f xs n 0 = some r := h5
      have h6 : ref21_kept f xs n 0 = some (r, q) := h6
      rw [h5, h6]
      exact ⟨r, 0, rfl, rfl, h7⟩

theorem start2 (f : Filter) (hf : f.Taps.length ≤ 1000) (n : Int) : ∃ w e, filter_Start f n = some (w, e) ∧ ref21_Start f n = some (w, e) ∧ w.Filter.Taps.length ≤ 1000 ∧ w.Past.length ≤ 1000 := by
  obtain ⟨b, h1, h2, hb⟩ := valid2 f hf
  unfold filter_Start ref21_Start
  rw [h1, h2, clone_spec _ (by omega), appM_one _ _ _ (by simp; omega) (by decide)]
  simp only [filter_in, ref01_In, Option.bind]
  generalize ((decide (0 ≤ n)) && (decide (n ≤ 9007199254740992))) = A
  cases b <;> cases A
  · exact ⟨_, _, rfl, rfl, by simp, by simp⟩
  · exact ⟨_, _, rfl, rfl, by simp, by simp⟩
  · exact ⟨_, _, rfl, rfl, by simp, by simp⟩
  · exact ⟨_, _, rfl, rfl, hf, by simp⟩

theorem vfeed2 (d : Feed) (hf : d.Filter.Taps.length ≤ 1000) (hp : d.Past.length ≤ 1000) : ∃ b, filter_ValidFeed d = some b ∧ ref21_ValidFeed d = some b ∧ (b = true → WF d.Filter ∧ d.Past.length < d.Filter.Taps.length) := by
  obtain ⟨b, h1, h2, hb⟩ := valid2 d.Filter hf
  unfold filter_ValidFeed ref21_ValidFeed
  rw [h1, h2, contains_spec _ _ wrong_at d.Past (by omega), inrange_spec d.Past (by omega)]
  simp only [filter_in, ref01_In, Option.bind]
  generalize (d.Past.any fun x => !((decide (-1073741823 ≤ x)) && (decide (x ≤ 1073741823)))) = B
  generalize ((decide ((d.Past.length : Int) ≤ d.Number)) && (decide (d.Number ≤ 18014398509481984))) = C
  cases b with
  | false => exact ⟨false, rfl, rfl, by simp⟩
  | true =>
    cases hA : decide ((d.Past.length : Int) < (d.Filter.Taps.length : Int)) with
    | false => exact ⟨false, rfl, rfl, by simp⟩
    | true =>
      have hA := of_decide_eq_true hA
      cases B <;> cases C <;> exact ⟨_, rfl, rfl, fun _ => ⟨hb rfl, by omega⟩⟩

theorem push2 (d : Feed) (hf : d.Filter.Taps.length ≤ 1000) (hp : d.Past.length ≤ 1000) (xs : List Int) (hx : xs.length ≤ 1000) :
    ∃ w l e, filter_Push d xs = some (w, l, e) ∧ ref21_Push d xs = some (w, l, e) ∧ w.Filter.Taps.length ≤ 1000 ∧ w.Past.length ≤ 1000 ∧ l.length ≤ 10000 := by
  obtain ⟨b, h1, h2, hb⟩ := vfeed2 d hf hp
  unfold filter_Push ref21_Push
  rw [h1, h2]
  cases b with
  | false => exact ⟨_, _, _, rfl, rfl, by simp, by simp, by simp⟩
  | true =>
    obtain ⟨hv, hlt⟩ := hb rfl
    have := hv.l1
    have := hv.l2
    obtain ⟨e, h3, h4⟩ := check2 xs (by omega) d.Number 18014398509481984
    simp only [Option.bind, Bool.not_true, Bool.false_eq_true, if_false]
    rw [h3, h4]
    simp only
    cases he : (e != 0) with
    | true => exact ⟨_, _, _, rfl, rfl, by simp, by simp, by simp⟩
    | false =>
      obtain ⟨r, q, h5, h6, h7⟩ := kept2 hv (xs := d.Past ++ xs) (by simp; omega) (w64 (d.Number - (d.Past.length : Int))) d.Past.length (by omega)
      simp only [Bool.false_eq_true, if_false]
      have hall : (d.Past ++ xs).length = d.Past.length + xs.length := by simp
      rw [concat2 _ _ (by omega) (by omega), appM_one _ _ _ (by simp; omega) (by decide)]
      simp only [List.nil_append]
      rw [h5, clone_spec _ (by omega), appM_one _ _ _ (by omega) (by decide)]
      simp only
      rw [h6]
      simp only
      have eb : w64 ((d.Filter.Taps.length : Int) - 1) = ((d.Filter.Taps.length - 1 : Nat) : Int) := by rw [w64_id (by omega) (by omega)]; omega
      have ea : max 0 (w64 ((w64 (((d.Past ++ xs).length : Int) - (d.Filter.Taps.length : Int))) + 1)) = (((d.Past ++ xs).length + 1 - d.Filter.Taps.length : Nat) : Int) := by
        rw [w64_id (x := ((d.Past ++ xs).length : Int) - _) (by omega) (by omega), w64_id (by omega) (by omega)]; omega
      have ec : w64 (((d.Past ++ xs).length : Int) - min ((d.Past ++ xs).length : Int) ((d.Filter.Taps.length - 1 : Nat) : Int)) = (((d.Past ++ xs).length + 1 - d.Filter.Taps.length : Nat) : Int) := by
        rw [w64_id (by omega) (by omega)]; omega
      rw [ea, eb, ec, sub_at _ _ _ (by omega) (by omega)]
      simp only
      have hk : ((d.Past ++ xs).take (d.Past ++ xs).length |>.drop ((d.Past ++ xs).length + 1 - d.Filter.Taps.length)).length ≤ 1000 := by
        simp only [List.length_drop, List.length_take]; omega
      rw [appM_one _ _ _ (by rw [List.length_nil]; omega) (by decide), appM_one _ _ _ (by rw [List.length_nil]; omega) (by decide)]
      exact ⟨_, _, _, rfl, rfl, hf, hk, h7⟩

end Go.Proofs.Ytmihimhknllmcaa.Sh

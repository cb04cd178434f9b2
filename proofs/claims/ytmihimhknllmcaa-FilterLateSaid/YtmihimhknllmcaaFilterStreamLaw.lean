/- The law FilterStream as a plain program: it is true at every input. -/
import Derived.Test.YtmihimhknllmcaaConv
namespace Go.Proofs.Ytmihimhknllmcaa.Sh
open Go
set_option linter.unusedVariables false
set_option linter.unusedSimpArgs false

theorem clone_spec (s : List Int) (h : s.length ≤ 1000000) : slices_Clone_Lint_int s = some s := by
  unfold slices_Clone_Lint_int
  rw [appM_one _ _ _ (by simpa using h) (by decide)]
  rfl

theorem grow_spec {n : Int} (h0 : 0 ≤ n) (h : n ≤ 1000000) : slices_Grow_Lint_int_n n = some [] := by
  unfold slices_Grow_Lint_int_n
  have e : w64 (n - w64 (((0 : Nat) : Int) - (([] : List Int).length : Int))) = n := by
    have e0 : w64 (((0 : Nat) : Int) - (([] : List Int).length : Int)) = 0 := by decide
    rw [e0, w64_id (by omega) (by omega)]; omega
  have hn : ¬ n < 0 := by omega
  simp only [e, hn, decide_false, Bool.false_eq_true, if_false, Option.bind]
  by_cases h1 : 0 < n
  · have e : subM ([] : List Int) 0 ((0 : Nat) : Int) = some [] := by simp [subM]
    simp only [h1, decide_true, if_true, e, makeM_at 8 (0 : Int) n h0 (by omega) (by decide)]
    simp [subM, slices_Grow_Lint_int_n_j1, (show 0 ≤ max n 0 by omega)]
  · simp only [h1, decide_false, Bool.false_eq_true, if_false]
    rfl

theorem concat_spec (a b : List Int) (ha : a.length ≤ 100000) (hb : b.length ≤ 100000) : slices_Concat_Lint_int [a, b] = some (a ++ b) := by
  unfold slices_Concat_Lint_int
  have w1 : w64 1 = 1 := by decide
  have w2 : w64 2 = 2 := by decide
  have wa : w64 (a.length : Int) = a.length := w64_id (by omega) (by omega)
  have wab : w64 ((a.length : Int) + b.length) = a.length + b.length := w64_id (by omega) (by omega)
  have na : ¬ ((a.length : Int) < 0) := by omega
  have nab : ¬ ((a.length : Int) + b.length < 0) := by omega
  have e1 : whileM (slices_Concat_Lint_int_l1 [a, b]) (0, 0) = some ((a.length : Int) + b.length) := by
    rw [whileM_eq]
    simp only [slices_Concat_Lint_int_l1, ix, Option.bind]
    simp [w1, wa, na]
    rw [whileM_eq]
    simp only [slices_Concat_Lint_int_l1, ix, Option.bind]
    simp [w2, wab, nab]
    rw [whileM_eq]
    simp [slices_Concat_Lint_int_l1]
  rw [e1]
  simp only [Option.bind]
  rw [grow_spec (by omega) (by omega)]
  simp only
  have e2 : whileM (slices_Concat_Lint_int_l2 [a, b]) ([], 0) = some (a ++ b) := by
    rw [whileM_eq]
    simp only [slices_Concat_Lint_int_l2, ix, Option.bind]
    simp [w1, appM_one 8 [] a (by simp; omega) (by decide)]
    rw [whileM_eq]
    simp only [slices_Concat_Lint_int_l2, ix, Option.bind]
    simp [w2, appM_one 8 a b (by omega) (by decide)]
    rw [whileM_eq]
    simp [slices_Concat_Lint_int_l2]
  rw [e2]

theorem push_spec {f : Filter} (h : VF f) {past s : List Int} {number : Int} (hp : past.length < f.Taps.length) (rp : ∀ x ∈ past, -1073741823 ≤ x ∧ x ≤ 1073741823) (rs : ∀ x ∈ s, -1073741823 ≤ x ∧ x ≤ 1073741823)
    (hs : s.length ≤ 1000) (hn0 : (past.length : Int) ≤ number) (hn1 : number ≤ 9007199254740992) :
    filter_Push ⟨f, past, number⟩ s = some (⟨f, (past ++ s).drop ((past ++ s).length + 1 - f.Taps.length), number + s.length⟩, outs f (past ++ s) (number - past.length) (max past.length (f.Taps.length - 1)) ((past ++ s).length - max past.length (f.Taps.length - 1)), 0) := by
  have hl := h.l2
  have sall : SOK (past ++ s) := ⟨fun x hx => by rcases List.mem_append.1 hx with h | h; exact rp x h; exact rs x h, by simp; omega⟩
  have hw : ∀ x, filter_wrong x = some (!((decide (-1073741823 ≤ x)) && (decide (x ≤ 1073741823)))) := fun x => by simp [filter_wrong, filter_in]
  have hv : filter_ValidFeed ⟨f, past, number⟩ = some true := by
    unfold filter_ValidFeed
    rw [valid_true h]
    simp only [Option.bind]
    rw [if_pos (by simp; omega), contains_spec _ _ hw past (by omega)]
    have : (past.any fun x => !((decide (-1073741823 ≤ x)) && (decide (x ≤ 1073741823)))) = false := by
      rw [List.any_eq_false]
      intro x hx'
      have := rp x hx'
      simp [this.1, this.2]
    rw [this]
    simp only [Bool.not_false, if_true, filter_in, decide_eq_true hn0, decide_eq_true (show number ≤ 18014398509481984 by omega), Bool.and_self]
  unfold filter_Push
  rw [hv]
  simp only [Option.bind, Bool.not_true, Bool.false_eq_true, if_false]
  rw [check_true ⟨rs, by omega⟩ (by omega) (by omega)]
  simp only [bne_self_eq_false, Bool.false_eq_true, if_false]
  rw [concat_spec _ _ (by omega) (by omega)]
  simp only
  rw [w64_id (x := number - past.length) (by omega) (by omega), outputs_spec h sall (by omega) (by omega) (by omega), clone_spec _ (by omega)]
  simp only
  have hlen : (past ++ s).length = past.length + s.length := by simp
  rw [w64_id (x := ((past ++ s).length : Int) - f.Taps.length) (by omega) (by omega), w64_id (x := ((past ++ s).length : Int) - f.Taps.length + 1) (by omega) (by omega), w64_id (x := number + s.length) (by omega) (by omega)]
  have esub : subM (past ++ s) (max 0 (((past ++ s).length : Int) - f.Taps.length + 1)) ((past ++ s).length : Int) = some ((past ++ s).drop ((past ++ s).length + 1 - f.Taps.length)) := by
    have := h.l1
    unfold subM
    rw [if_pos (by omega)]
    simp only [Int.toNat_natCast]
    rw [List.take_of_length_le (by omega)]
    congr 2
    omega
  rw [esub]

theorem dot_take (t b : List Int) (k i m : Nat) (h : i < k) : dot t (b.take k) i m = dot t b i m := by
  induction m with
  | zero => rfl
  | succ m ih =>
    have hg : (b.take k).getD (i - m) 0 = b.getD (i - m) 0 := by
      simp only [List.getD_eq_getElem?_getD]
      rw [List.getElem?_take_of_lt (by omega)]
    rw [dot, ih, hg, dot]

/-- outputs of a part that goes on -/
theorem outs_part (f : Filter) (xs : List Int) (number : Int) (a c t m : Nat) (ha : f.Taps.length ≤ a + 1) (hm : c + a + m ≤ t) :
    outs f xs number a (c + m) = outs f xs number a c ++ outs f ((xs.take t).drop c) (number + c) a m := by
  induction m with
  | zero => simp [outs]
  | succ m ih =>
    rw [← Nat.add_assoc, outs, ih (by omega), outs, List.append_assoc]
    have e1 : dot f.Taps ((xs.take t).drop c) (a + m) f.Taps.length = dot f.Taps xs (a + (c + m)) f.Taps.length := by
      rw [dot_drop _ _ _ _ _ (by omega), dot_take _ _ _ _ _ (by omega)]
      congr 1
      omega
    have e2 : number + (c : Int) + ((a + m : Nat) : Int) = number + ((a + (c + m) : Nat) : Int) := by omega
    rw [e1, e2]

structure SS (f : Filter) (xs : List Int) (n : Int) (s : List Int × Int × List Int × Int × Int × List Int × Int × List Int × Int) : Prop where
  dok : DOK ⟨s.1, s.2.1⟩
  ex : ∃ k : Nat, k ≤ xs.length ∧ s.2.2 = (f.Taps, f.Factor, f.Shift, (xs.take k).drop (k + 1 - f.Taps.length), n + k, outs f xs n (f.Taps.length - 1) (k - (f.Taps.length - 1)), (k : Int))

theorem law21_FilterStream_true (t : List Int) (n : Int) (ht : ∀ x ∈ t, -9223372036854775808 ≤ x ∧ x ≤ 9223372036854775807) (hn : 0 ≤ n ∧ n ≤ 65535) : law21_FilterStream t n = some true := by
  unfold law21_FilterStream
  rw [light_spec]
  simp only [Option.bind]
  by_cases hl : t.length ≤ 500
  case neg =>
    rw [decide_eq_false hl, sane_true]
    rfl
  rw [decide_eq_true hl]
  simp only [Bool.not_true, Bool.false_eq_true, if_false, made_Roll]
  obtain ⟨f, d1, ef, hff, hd1⟩ := dfilter_spec (DOK.roll hl)
  obtain ⟨xs, d2, ex, rx, xl1, xl2, hd2⟩ := samples_spec hd1 (n := 40) (by decide) (by decide)
  rw [ef]; simp only
  rw [ex]; simp only
  have hv : VF f := hff.toVF
  have l1 := hv.l1
  have l5 := hff.l5
  have sx : SOK xs := ⟨rx, by omega⟩
  have est : filter_Start f n = some (⟨f, [], n⟩, 0) := by
    unfold filter_Start
    rw [valid_true hv, clone_spec _ (by omega)]
    simp only [Option.bind, Bool.not_true, Bool.false_eq_true, if_false, filter_in, decide_eq_true hn.1, decide_eq_true (show n ≤ 9007199254740992 by omega), Bool.and_self]
  rw [w64_id (x := n) (by omega) (by omega), est]
  simp only
  rw [push_spec hv (by simp; omega) (by simp) rx (by omega) (by simp; omega) (by omega), apply_ok hv sx hn.1 (by omega)]
  simp only [List.nil_append, List.length_nil, Nat.zero_max]
  have e0 : n - ((0 : Nat) : Int) = n := by omega
  rw [e0]
  have hw := whileM_inv (body := law21_FilterStream_l2 (xs, d2) (⟨f, [], n⟩, 0) (⟨f, xs.drop (xs.length + 1 - f.Taps.length), n + xs.length⟩, outs f xs n (f.Taps.length - 1) (xs.length - (f.Taps.length - 1)), 0) (outs f xs n (f.Taps.length - 1) (xs.length - (f.Taps.length - 1)), 0))
    (SS f xs n) (fun s => (xs.length - s.2.2.2.2.2.2.2.2).toNat) (fun b => b = true) (by
      rintro ⟨L, At, rest⟩ ⟨dok, k, hk, hrest⟩
      simp only at dok hrest
      subst hrest
      by_cases hlt : k < xs.length
      · left
        unfold law21_FilterStream_l2
        simp only
        rw [if_pos (by simp; omega)]
        obtain ⟨q, d', eq, q0, q1, hd'⟩ := next_spec dok (n := 7) (by decide) (by decide)
        rw [eq]
        simp only [Option.bind]
        rw [w64_id (x := (k : Int) + 1) (by omega) (by omega), w64_id (x := (k : Int) + 1 + q) (by omega) (by omega)]
        obtain ⟨m, hm⟩ : ∃ m : Nat, min ((k : Int) + 1 + q) (xs.length : Int) = m := ⟨_, (Int.toNat_of_nonneg (by omega)).symm⟩
        rw [hm]
        have hkm : k < m ∧ m ≤ xs.length := by omega
        have esub : subM xs k m = some ((xs.take m).drop k) := by
          unfold subM
          rw [if_pos (by omega)]
          simp only [Int.toNat_natCast]
        rw [esub]
        simp only
        obtain ⟨c, hc⟩ : ∃ c, k + 1 - f.Taps.length = c := ⟨_, rfl⟩
        rw [hc]
        have hpl : ((xs.take k).drop c).length = k - c := by simp; omega
        have hsl : ((xs.take m).drop k).length = m - k := by simp; omega
        have hall : (xs.take k).drop c ++ (xs.take m).drop k = (xs.take m).drop c := by
          have e1 : xs.take k = (xs.take m).take k := by rw [List.take_take, Nat.min_eq_left (by omega)]
          rw [e1]
          have e2 : (xs.take m).drop c = ((xs.take m).take k ++ (xs.take m).drop k).drop c := by rw [List.take_append_drop]
          rw [e2, List.drop_append_of_le_length (by simp; omega)]
        rw [push_spec hv (by omega) (fun x hx => rx x (List.mem_of_mem_take (List.mem_of_mem_drop hx))) (fun x hx => rx x (List.mem_of_mem_take (List.mem_of_mem_drop hx))) (by omega) (by omega) (by omega)]
        simp only [bne_self_eq_false, Bool.false_eq_true, if_false]
        rw [hall, hpl, hsl]
        have hal : ((xs.take m).drop c).length = m - c := by simp; omega
        rw [hal]
        have hmx : max (k - c) (f.Taps.length - 1) = f.Taps.length - 1 := by omega
        rw [hmx]
        have hkc : k - (f.Taps.length - 1) = c := by omega
        rw [hkc]
        have hol := outs_len f xs n (f.Taps.length - 1) c
        have hol2 := outs_len f ((xs.take m).drop c) (n + k - ((k - c : Nat) : Int)) (f.Taps.length - 1) (m - c - (f.Taps.length - 1))
        rw [appM_one _ _ _ (by omega) (by decide)]
        refine ⟨_, rfl, ⟨hd', m, hkm.2, ?_⟩, by simp only; omega⟩
        simp only
        have en : n + (k : Int) - ((k - c : Nat) : Int) = n + c := by omega
        have en2 : n + (k : Int) + ((m - k : Nat) : Int) = n + m := by omega
        rw [en, en2, List.drop_drop]
        have eo : outs f xs n (f.Taps.length - 1) c ++ outs f ((xs.take m).drop c) (n + c) (f.Taps.length - 1) (m - c - (f.Taps.length - 1)) = outs f xs n (f.Taps.length - 1) (m - (f.Taps.length - 1)) := by
          have e3 : m - (f.Taps.length - 1) = c + (m - c - (f.Taps.length - 1)) := by omega
          rw [e3]
          by_cases hz : m - c - (f.Taps.length - 1) = 0
          · rw [hz]; simp [outs]
          · rw [outs_part f xs n (f.Taps.length - 1) c m _ (by omega) (by omega)]
        have ed : c + (m - c + 1 - f.Taps.length) = m + 1 - f.Taps.length := by omega
        rw [eo, ed]
      · right
        have hkl : k = xs.length := by omega
        subst hkl
        unfold law21_FilterStream_l2
        simp only
        rw [if_neg (by simp)]
        have hol := outs_len f xs n (f.Taps.length - 1) (xs.length - (f.Taps.length - 1))
        refine ⟨true, ?_, rfl⟩
        rw [same_spec _ _ (by omega)]
        simp only [beq_self_eq_true, Bool.and_self, if_true, Option.bind, decide_true, List.take_length]
        unfold ref21_SameFeed
        simp only
        rw [rsame_refl _ (by show f.Taps.length ≤ 1000000000; omega), same_spec _ _ (by simp; omega)]
        simp only [beq_self_eq_true, Bool.and_self, if_true, Option.bind, decide_true, sane_true]
        rfl)
    (d2.L, d2.At, f.Taps, f.Factor, f.Shift, [], n, [], 0) ⟨hd2, 0, by omega, by simp [outs]⟩
  obtain ⟨b, hb, rfl⟩ := hw
  exact hb

end Go.Proofs.Ytmihimhknllmcaa.Sh

/- The filters of chapter 21 as plain programs: what they compute of filters and samples that are well. -/
import Derived.Test.YtmihimhknllmcaaDice
import Derived.Test.YtmihimhknllmcaaCont
namespace Go.Proofs.Ytmihimhknllmcaa.Sh
open Go
set_option linter.unusedVariables false
set_option linter.unusedSimpArgs false

/-- the sum of the sizes -/
def asum : List Int → Int
  | [] => 0
  | x :: l => max x (-x) + asum l
theorem asum_append (a b : List Int) : asum (a ++ b) = asum a + asum b := by
  induction a with
  | nil => simp [asum]
  | cons x a ih => simp only [List.cons_append, asum, ih]; omega
theorem asum_nn (a : List Int) : 0 ≤ asum a := by
  induction a with
  | nil => simp [asum]
  | cons x a ih => simp only [asum]; omega
theorem asum_take_le (a : List Int) (i : Nat) : asum (a.take i) ≤ asum a := by
  have := asum_append (a.take i) (a.drop i)
  rw [List.take_append_drop] at this
  have := asum_nn (a.drop i)
  omega
theorem asum_le (a : List Int) (B : Int) (hB : 0 ≤ B) (h : ∀ x ∈ a, -B ≤ x ∧ x ≤ B) : asum a ≤ B * a.length := by
  induction a with
  | nil => simp [asum]
  | cons x a ih =>
    have h1 := h x (by simp)
    have h2 := ih (fun y hy => h y (by simp [hy]))
    simp only [asum, List.length_cons]
    have : B * ((a.length : Nat) + 1 : Nat) = B * a.length + B := by push_cast; rw [Int.mul_add, Int.mul_one]
    rw [this]; omega

/-- a filter that is well -/
structure VF (f : Filter) : Prop where
  l1 : 1 ≤ f.Taps.length
  l2 : f.Taps.length ≤ 128
  s0 : 0 ≤ f.Shift
  s1 : f.Shift ≤ 30
  f0 : 1 ≤ f.Factor
  f1 : f.Factor ≤ 64
  tap : ∀ x ∈ f.Taps, -1073741824 ≤ x ∧ x ≤ 1073741824
  sum : asum f.Taps ≤ 2 ^ f.Shift.toNat

theorem pow_le30 {s : Int} (h1 : s ≤ 30) : (2 : Int) ^ s.toNat ≤ 1073741824 := by
  have h : s.toNat ≤ 30 := by omega
  have h2 : (2 : Nat) ^ s.toNat ≤ 1073741824 := Nat.pow_le_pow_right (by decide) h
  have h3 : ((2 ^ s.toNat : Nat) : Int) ≤ ((1073741824 : Nat) : Int) := Int.ofNat_le.2 h2
  rw [Int.natCast_pow] at h3
  exact h3
theorem pow_pos' (n : Nat) : (1 : Int) ≤ 2 ^ n := by
  have : 1 ≤ (2 : Nat) ^ n := Nat.one_le_two_pow
  have h3 : ((1 : Nat) : Int) ≤ ((2 ^ n : Nat) : Int) := Int.ofNat_le.2 this
  rw [Int.natCast_pow] at h3
  exact h3

theorem valid_true {f : Filter} (h : VF f) : filter_Valid f = some true := by
  obtain ⟨l1, l2, s0, s1, f0, f1, tap, sum⟩ := h
  have hB := asum_le f.Taps 1073741824 (by decide) tap
  unfold filter_Valid
  have c1 : decide ((1 : Int) ≤ f.Taps.length) = true := decide_eq_true (by omega)
  have c2 : decide ((f.Taps.length : Int) ≤ 128) = true := decide_eq_true (by omega)
  simp only [filter_in, c1, c2, s0, s1, f0, f1, decide_true, Bool.and_true, Bool.not_true, Option.bind, Bool.false_eq_true, if_false]
  refine whileM_for' (fun i => (asum (f.Taps.take i), (i : Int))) f.Taps.length _ (by simp [asum]) (fun i hi => ?_) ?_
  · have hx := tap f.Taps[i] (List.getElem_mem _)
    have hs := asum_take_le f.Taps (i + 1)
    rw [take_one hi, asum_append] at hs
    simp only [asum] at hs
    have hnn := asum_nn (f.Taps.take i)
    simp only [filter_Valid_l2]
    rw [if_pos (decide_eq_true (by omega)), ix_nat _ _ hi]
    simp only [Option.bind, filter_in, hx.1, hx.2, decide_true, Bool.and_true, Bool.not_true, Bool.false_eq_true, if_false]
    rw [take_one hi, asum_append]
    simp only [asum]
    rw [w64_id (x := 0 - f.Taps[i]) (by omega) (by omega), w64_id (by omega) (by omega), w64_id (by omega) (by omega)]
    congr 3 <;> omega
  · simp only [filter_Valid_l2]
    have e1 : shlM .i64 1 f.Shift = some (2 ^ f.Shift.toNat) := by
      have := pow_le30 s1
      have := pow_pos' f.Shift.toNat
      rw [shlM_at _ _ s0 (by omega), Int.one_mul, w64_id (by omega) (by omega)]
    rw [if_neg (by simp), e1]
    simp only [Option.bind, Option.map, List.take_length]
    rw [decide_eq_true sum]

/-- a part of a filter's sum -/
def dot (a b : List Int) (i : Nat) : Nat → Int
  | 0 => 0
  | m + 1 => dot a b i m + a.getD m 0 * b.getD (i - m) 0

theorem mul_le_abs (a b B : Int) (h1 : -B ≤ b) (h2 : b ≤ B) : -(max a (-a) * B) ≤ a * b ∧ a * b ≤ max a (-a) * B := by
  rcases Int.le_total 0 a with h | h
  · have e : max a (-a) = a := by omega
    rw [e]
    refine ⟨?_, Int.mul_le_mul_of_nonneg_left h2 h⟩
    have := Int.mul_le_mul_of_nonneg_left h1 h
    rw [Int.mul_neg] at this
    exact this
  · have e : max a (-a) = -a := by omega
    rw [e]
    have hn : 0 ≤ -a := by omega
    have h3 := Int.mul_le_mul_of_nonneg_left h1 hn
    have h4 := Int.mul_le_mul_of_nonneg_left h2 hn
    rw [Int.mul_neg, Int.neg_mul, Int.neg_mul] at h3
    rw [Int.neg_mul, Int.neg_mul] at h4
    rw [Int.neg_mul]
    omega

theorem dot_le (a b : List Int) (B : Int) (hB : 0 ≤ B) (hb : ∀ x ∈ b, -B ≤ x ∧ x ≤ B) (i m : Nat) (hm : m ≤ a.length) : -(asum (a.take m) * B) ≤ dot a b i m ∧ dot a b i m ≤ asum (a.take m) * B := by
  induction m with
  | zero => simp [dot, asum]
  | succ m ih =>
    obtain ⟨h1, h2⟩ := ih (by omega)
    have hlt : m < a.length := by omega
    have hv : -B ≤ b.getD (i - m) 0 ∧ b.getD (i - m) 0 ≤ B := by
      rw [List.getD_eq_getElem?_getD]
      cases hg : b[i - m]? with
      | none => simp; omega
      | some v => exact hb v (List.mem_of_getElem? hg)
    obtain ⟨h3, h4⟩ := mul_le_abs (a.getD m 0) _ B hv.1 hv.2
    have e : a.getD m 0 = a[m] := by simp [List.getD_eq_getElem?_getD, hlt]
    rw [take_one hlt, asum_append]
    simp only [asum, dot, Int.add_zero]
    rw [Int.add_mul, ← e]
    omega

structure SOK (xs : List Int) : Prop where
  rng : ∀ x ∈ xs, -1073741823 ≤ x ∧ x ≤ 1073741823
  len : xs.length ≤ 65536

theorem dot_fits {f : Filter} (h : VF f) {xs : List Int} (hx : SOK xs) (i m : Nat) (hm : m ≤ f.Taps.length) : -1152921504606846976 ≤ dot f.Taps xs i m ∧ dot f.Taps xs i m ≤ 1152921504606846976 := by
  obtain ⟨h1, h2⟩ := dot_le f.Taps xs 1073741824 (by decide) (fun x hx' => by have := hx.rng x hx'; omega) i m hm
  have h3 := asum_take_le f.Taps m
  have h4 := h.sum
  have h5 := pow_le30 h.s1
  omega

theorem output_spec {f : Filter} (h : VF f) {xs : List Int} (hx : SOK xs) (i : Nat) (h1 : f.Taps.length ≤ i + 1) (h2 : i < xs.length) :
    filter_output f xs i = some ((dot f.Taps xs i f.Taps.length).fdiv (2 ^ f.Shift.toNat)) := by
  have hl := h.l2
  have hxl := hx.len
  have hw : whileM (filter_output_l1 f xs i) (0, 0) = some (dot f.Taps xs i f.Taps.length) := by
    refine whileM_for' (fun m => (dot f.Taps xs i m, (m : Int))) f.Taps.length _ (by simp [dot]) (fun m hm => ?_) ?_
    · have hx1 := dot_fits h hx i m (by omega)
      have hx2 := dot_fits h hx i (m + 1) (by omega)
      have e : f.Taps.getD m 0 = f.Taps[m] := by simp [List.getD_eq_getElem?_getD, hm]
      have e2 : xs.getD (i - m) 0 = xs[i - m]'(by omega) := by simp [List.getD_eq_getElem?_getD, show i - m < xs.length by omega]
      have hp : -1152921504606846976 - 1152921504606846976 ≤ f.Taps[m] * (xs[i - m]'(by omega)) ∧ f.Taps[m] * (xs[i - m]'(by omega)) ≤ 1152921504606846976 + 1152921504606846976 := by
        simp only [dot] at hx2
        rw [e, e2] at hx2
        omega
      simp only [filter_output_l1]
      rw [if_pos (decide_eq_true (by omega)), ix_nat _ _ hm]
      have e3 : w64 ((i : Int) - (m : Int)) = ((i - m : Nat) : Int) := by rw [w64_id (by omega) (by omega)]; omega
      simp only [Option.bind]
      rw [e3, ix_nat _ _ (show i - m < xs.length by omega)]
      simp only [dot] at hx2 ⊢
      rw [e, e2] at hx2 ⊢
      rw [w64_id (x := f.Taps[m] * _) (by omega) (by omega), w64_id (by omega) (by omega), w64_id (by omega) (by omega)]
      rfl
    · simp only [filter_output_l1]
      rw [if_neg (by simp)]
  unfold filter_output
  rw [hw]
  simp only [Option.bind]
  rw [shrM_at _ _ h.s0 (by have := h.s1; omega)]

/-- the outputs of the samples from number a on, m of them -/
def outs (f : Filter) (xs : List Int) (number : Int) (a : Nat) : Nat → List Int
  | 0 => []
  | m + 1 => outs f xs number a m ++ (if (number + ((a + m : Nat) : Int)) % f.Factor = 0 then [(dot f.Taps xs (a + m) f.Taps.length).fdiv (2 ^ f.Shift.toNat)] else [])

theorem outs_len (f : Filter) (xs : List Int) (number : Int) (a m : Nat) : (outs f xs number a m).length ≤ m := by
  induction m with
  | zero => simp [outs]
  | succ m ih => simp only [outs, List.length_append]; split <;> simp <;> omega

theorem outputs_spec {f : Filter} (h : VF f) {xs : List Int} (hx : SOK xs) {number : Int} (h0 : 0 ≤ number) (h1 : number ≤ 18014398509481984) {fr : Nat} (hfr : fr ≤ 1000000) :
    filter_outputs f xs number fr = some (outs f xs number (max fr (f.Taps.length - 1)) (xs.length - max fr (f.Taps.length - 1))) := by
  have hl := h.l2
  have hl1 := h.l1
  have hxl := hx.len
  unfold filter_outputs
  have e0 : max (fr : Int) (w64 ((f.Taps.length : Int) - 1)) = ((max fr (f.Taps.length - 1) : Nat) : Int) := by rw [w64_id (by omega) (by omega)]; omega
  rw [e0]
  generalize ha : max fr (f.Taps.length - 1) = a
  simp only [Option.bind]
  suffices hw : whileM (filter_outputs_l1 f xs number) ([], (a : Int)) = some (outs f xs number a (xs.length - a)) by rw [hw]
  refine whileM_for' (fun m => (outs f xs number a m, ((a + m : Nat) : Int))) (xs.length - a) _ (by simp [outs]) (fun m hm => ?_) ?_
  · have hol := outs_len f xs number a m
    simp only [filter_outputs_l1]
    rw [if_pos (decide_eq_true (by omega)), w64_id (by omega) (by omega), remM_at _ _ (by have := h.f0; omega)]
    simp only [Option.bind]
    have et : (number + ((a + m : Nat) : Int)).tmod f.Factor = (number + ((a + m : Nat) : Int)) % f.Factor := Int.tmod_eq_emod_of_nonneg (by omega)
    rw [et]
    by_cases hc : (number + ((a + m : Nat) : Int)) % f.Factor = 0
    · rw [hc]
      simp only [beq_self_eq_true, if_true]
      rw [output_spec h hx (a + m) (by omega) (by omega)]
      simp only [filter_outputs_j1]
      rw [appM_one _ _ _ (by simp; omega) (by decide)]
      simp only [outs, hc, if_true, Option.bind]
      rw [w64_id (by omega) (by omega)]
      congr 3
    · rw [if_neg (by simpa using hc)]
      simp only [filter_outputs_j1, outs, hc, if_false, List.append_nil, Option.bind]
      rw [w64_id (by omega) (by omega)]
      congr 3
  · simp only [filter_outputs_l1]
    rw [if_neg (by simp; omega)]

theorem check_true {xs : List Int} (hx : SOK xs) {number most : Int} (h0 : 0 ≤ number) (h1 : number ≤ most) : filter_check xs number most = some 0 := by
  have hl := hx.len
  unfold filter_check
  have hw : ∀ x, filter_wrong x = some (!((decide (-1073741823 ≤ x)) && (decide (x ≤ 1073741823)))) := fun x => by simp [filter_wrong, filter_in]
  rw [contains_spec _ _ hw xs (by omega)]
  have : (xs.any fun x => !((decide (-1073741823 ≤ x)) && (decide (x ≤ 1073741823)))) = false := by
    rw [List.any_eq_false]
    intro x hx'
    have := hx.rng x hx'
    simp [this.1, this.2]
  rw [this]
  simp only [filter_in, h0, h1, decide_true, Bool.and_true, Bool.not_true, Option.bind, Bool.false_eq_true, if_false]
  rw [if_neg (by simp; omega)]

theorem apply_ok {f : Filter} (h : VF f) {xs : List Int} (hx : SOK xs) {number : Int} (h0 : 0 ≤ number) (h1 : number ≤ 9007199254740992) :
    filter_Apply f xs number = some (outs f xs number (f.Taps.length - 1) (xs.length - (f.Taps.length - 1)), 0) := by
  unfold filter_Apply
  rw [valid_true h, check_true hx h0 h1, show (0 : Int) = ((0 : Nat) : Int) from rfl, outputs_spec h hx h0 (by omega) (by omega)]
  simp

theorem same_spec (a b : List Int) (h : a.length ≤ 1000000000) : ref05_Same a b = some (decide (a = b)) := by
  unfold ref05_Same
  by_cases hl : a.length = b.length
  · rw [if_neg (by simp [hl])]
    -- the first place where they differ
    by_cases he : a = b
    · subst he
      rw [decide_eq_true rfl]
      refine whileM_for' (fun i => (i : Int)) a.length _ rfl (fun i hi => ?_) ?_
      · simp only [ref05_Same_l2]
        rw [if_pos (decide_eq_true (by omega)), ix_nat _ _ hi]
        simp only [Option.bind, bne_self_eq_false, Bool.false_eq_true, if_false]
        rw [w64_id (by omega) (by omega)]
        rfl
      · simp only [ref05_Same_l2]
        rw [if_neg (by simp)]
        rfl
    · rw [decide_eq_false he]
      have hex : ∃ k, ∃ h : k < a.length, a[k] ≠ b[k]'(by omega) := by
        refine Classical.byContradiction fun hc => he (List.ext_getElem hl fun k h1 h2 => ?_)
        exact Classical.byContradiction fun hh => hc ⟨k, h1, hh⟩
      obtain ⟨k, hk, hne, hmin⟩ : ∃ k, ∃ hk : k < a.length, a[k] ≠ b[k]'(by omega) ∧ ∀ j, (hj : j < k) → a[j]'(by omega) = b[j]'(by omega) := by
        obtain ⟨k0, h0, h1⟩ := hex
        induction k0 using Nat.strongRecOn with
        | _ k0 ih =>
          by_cases hs : ∃ j, ∃ hj : j < k0, a[j]'(by omega) ≠ b[j]'(by omega)
          · obtain ⟨j, hj, hd⟩ := hs
            exact ih j hj (by omega) hd
          · exact ⟨k0, h0, h1, fun j hj => Classical.byContradiction fun hh => hs ⟨j, hj, hh⟩⟩
      refine whileM_for' (fun i => (i : Int)) k _ rfl (fun i hi => ?_) ?_
      · simp only [ref05_Same_l2]
        rw [if_pos (decide_eq_true (by omega)), ix_nat _ _ (show i < a.length by omega), ix_nat _ _ (show i < b.length by omega)]
        have := hmin i hi
        simp only [Option.bind, this, bne_self_eq_false, Bool.false_eq_true, if_false]
        rw [w64_id (by omega) (by omega)]
        rfl
      · simp only [ref05_Same_l2]
        rw [if_pos (decide_eq_true (by omega)), ix_nat _ _ hk, ix_nat _ _ (show k < b.length by omega)]
        simp only [Option.bind]
        rw [if_pos (by simpa using hne)]
  · rw [if_pos (by simp; omega)]
    rw [decide_eq_false (fun h => hl (by rw [h]))]

theorem sane_true : law21_sane = some true := by
  have v1 : VF ⟨[1, 1], 1, 1⟩ := ⟨by decide, by decide, by decide, by decide, by decide, by decide, by decide, by decide⟩
  have v2 : VF ⟨[1, 1], 2, 1⟩ := ⟨by decide, by decide, by decide, by decide, by decide, by decide, by decide, by decide⟩
  have s1 : SOK [4, 6, 9] := ⟨by decide, by decide⟩
  unfold law21_sane
  rw [apply_ok v1 s1 (by decide) (by decide), apply_ok v2 s1 (by decide) (by decide)]
  have e1 : outs ⟨[1, 1], 1, 1⟩ [4, 6, 9] 0 1 2 = [5, 7] := by decide
  have e2 : outs ⟨[1, 1], 2, 1⟩ [4, 6, 9] 10 1 2 = [7] := by decide
  simp only [List.length_cons, List.length_nil, Nat.reduceAdd, Nat.reduceSub, e1, e2, Option.bind]
  rw [same_spec _ _ (by decide), same_spec _ _ (by decide), valid_true v2]
  decide

end Go.Proofs.Ytmihimhknllmcaa.Sh

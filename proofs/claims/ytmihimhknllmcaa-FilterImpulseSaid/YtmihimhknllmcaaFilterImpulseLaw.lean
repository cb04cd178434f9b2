/- The law FilterImpulse as a plain program: it is true at every input. -/
import Derived.Test.YtmihimhknllmcaaDiceFlt
namespace Go.Proofs.Ytmihimhknllmcaa.Sh
open Go
set_option linter.unusedVariables false
set_option linter.unusedSimpArgs false

theorem outs_one {f : Filter} (h : f.Factor = 1) (xs : List Int) (number : Int) (a m : Nat) : outs f xs number a m = (List.range m).map (fun i => (dot f.Taps xs (a + i) f.Taps.length).fdiv (2 ^ f.Shift.toNat)) := by
  induction m with
  | zero => rfl
  | succ m ih => simp only [outs, ih, h, Int.emod_one, if_true, List.range_succ, List.map_append, List.map_cons, List.map_nil]

theorem dot_impulse (taps : List Int) (n p : Nat) (V : Int) (hp : p < n) (i m : Nat) (hm : m ≤ i + 1) (hi : i < n) : dot taps ((List.replicate n 0).set p V) i m = if p ≤ i ∧ i - p < m then taps.getD (i - p) 0 * V else 0 := by
  induction m with
  | zero => simp [dot]
  | succ m ih =>
    have hv : ((List.replicate n (0 : Int)).set p V).getD (i - m) 0 = if i - m = p then V else 0 := by
      rw [List.getD_eq_getElem?_getD, List.getElem?_set]
      by_cases h : p = i - m
      · subst h; simp [hp]
      · have h' : ¬ i - m = p := fun hh => h hh.symm
        rw [if_neg h, if_neg h', List.getElem?_replicate]
        split <;> rfl
    rw [dot, ih (by omega), hv]
    by_cases h : i - m = p
    · have hpi : i - p = m := by omega
      rw [if_neg (by omega), if_pos h, if_pos (by omega), hpi, Int.zero_add]
    · rw [if_neg h, Int.mul_zero, Int.add_zero]
      by_cases h2 : p ≤ i ∧ i - p < m
      · rw [if_pos h2, if_pos (by omega)]
      · rw [if_neg h2, if_neg (by omega)]

def tsum : List Int → Nat → Int
  | _, 0 => 0
  | l, m + 1 => tsum l m + l.getD m 0

theorem dot_flat (taps : List Int) (n : Nat) (c : Int) (i m : Nat) (hi : i < n) : dot taps (List.replicate n c) i m = tsum taps m * c := by
  induction m with
  | zero => simp [dot, tsum]
  | succ m ih =>
    have hv : (List.replicate n c).getD (i - m) 0 = c := by
      rw [List.getD_eq_getElem?_getD, List.getElem?_replicate, if_pos (by omega)]; rfl
    rw [dot, ih, hv, tsum, Int.add_mul]

theorem tsum_le (l : List Int) (m : Nat) (hm : m ≤ l.length) : -(asum (l.take m)) ≤ tsum l m ∧ tsum l m ≤ asum (l.take m) := by
  induction m with
  | zero => simp [tsum, asum]
  | succ m ih =>
    have := ih (by omega)
    have hlt : m < l.length := by omega
    have e : l.getD m 0 = l[m] := by simp [List.getD_eq_getElem?_getD, hlt]
    rw [take_one hlt, asum_append]
    simp only [asum, tsum, e]
    omega

theorem law21_FilterImpulse_true (t : List Int) (n : Int) (ht : ∀ x ∈ t, -9223372036854775808 ≤ x ∧ x ≤ 9223372036854775807) (hn : 0 ≤ n ∧ n ≤ 255) : law21_FilterImpulse t n = some true := by
  unfold law21_FilterImpulse
  rw [light_spec]
  simp only [Option.bind]
  by_cases hl : t.length ≤ 500
  case neg =>
    rw [decide_eq_false hl, sane_true]
    rfl
  rw [decide_eq_true hl]
  simp only [Bool.not_true, Bool.false_eq_true, if_false, made_Roll]
  obtain ⟨f, d', ef, hff, hd'⟩ := dfilter_spec (DOK.roll hl)
  rw [ef]
  simp only
  obtain ⟨taps, fa, sh⟩ := f
  have hv1 : VF ⟨taps, 1, sh⟩ := ⟨hff.l1, hff.l2, hff.s0, hff.s1, Int.le_refl _, (by decide : (1 : Int) ≤ 64), hff.tap, hff.sum⟩
  have l1 : 1 ≤ taps.length := hff.l1
  have l5 : taps.length ≤ 5 := hff.l5
  have s0 : 0 ≤ sh := hff.s0
  have s6 : sh ≤ 6 := hff.s6
  have hsum : asum taps ≤ 2 ^ sh.toNat := hff.sum
  have hp : (2 : Int) ^ sh.toNat ≤ 64 := by
    have h2 : (2 : Nat) ^ sh.toNat ≤ 64 := Nat.pow_le_pow_right (n := 2) (by decide) (show sh.toNat ≤ 6 by omega)
    have h3 : ((2 ^ sh.toNat : Nat) : Int) ≤ ((64 : Nat) : Int) := Int.ofNat_le.2 h2
    rw [Int.natCast_pow] at h3
    exact h3
  have hp1 := pow_pos' sh.toNat
  generalize hP : (2 : Int) ^ sh.toNat = V at *
  have hV0 : V ≠ 0 := by omega
  simp only
  rw [w64_id (x := 3 * (taps.length : Int)) (by omega) (by omega), makeM_at _ _ _ (by omega) (by omega) (by decide)]
  have hrl : (3 * (taps.length : Int)).toNat = 3 * taps.length := by omega
  simp only [hrl]
  rw [w64_id (x := n) (by omega) (by omega), remM_at _ _ (by omega)]
  simp only
  have et : n.tmod taps.length = n % taps.length := Int.tmod_eq_emod_of_nonneg hn.1
  rw [et]
  have hm0 := Int.emod_nonneg n (show (taps.length : Int) ≠ 0 by omega)
  have hm1 := Int.emod_lt_of_pos n (show (0 : Int) < taps.length by omega)
  obtain ⟨q, hq⟩ : ∃ q : Nat, n % taps.length = q := ⟨_, (Int.toNat_of_nonneg hm0).symm⟩
  rw [hq]
  rw [u64_id s0 (by omega), shlM_at _ _ s0 (by omega), hP, Int.one_mul, w64_id (x := V) (by omega) (by omega)]
  simp only
  rw [w64_id (x := 2 * (taps.length : Int)) (by omega) (by omega), w64_id (x := 2 * (taps.length : Int) - 1) (by omega) (by omega), w64_id (x := 2 * (taps.length : Int) - 1 - q) (by omega) (by omega)]
  obtain ⟨p, hpe⟩ : ∃ p : Nat, (2 * (taps.length : Int) - 1 - q) = p := ⟨_, (Int.toNat_of_nonneg (by omega)).symm⟩
  have hp3 : p < 3 * taps.length := by omega
  rw [hpe, ix_at _ _ (by omega) (by simp; omega), setM_at _ _ _ (by omega) (by simp; omega)]
  simp only [Int.toNat_natCast]
  generalize hk : taps.length = k at *
  have hx : SOK ((List.replicate (3 * k) (0 : Int)).set p V) := by
    refine ⟨fun x hx => ?_, by simp; omega⟩
    rcases List.mem_or_eq_of_mem_set hx with h | h
    · have := List.eq_of_mem_replicate h; omega
    · omega
  rw [apply_ok hv1 hx (by decide) (by decide)]
  simp only
  rw [outs_one rfl]
  have hlen : ((List.replicate (3 * k) (0 : Int)).set p V).length - (taps.length - 1) = 2 * k + 1 := by simp; omega
  rw [hlen]
  simp only [List.length_map, List.length_range]
  rw [w64_id (x := 2 * (k : Int) + 1) (by omega) (by omega)]
  rw [if_neg (by simp), hP]
  -- the outputs are the taps
  have hget : ∀ i, i < 2 * k + 1 → (dot taps ((List.replicate (3 * k) (0 : Int)).set p V) (taps.length - 1 + i) taps.length).fdiv V = if p ≤ k - 1 + i ∧ k - 1 + i - p < k then taps.getD (k - 1 + i - p) 0 else 0 := by
    intro i hi
    rw [hk, dot_impulse taps (3 * k) p V hp3 _ _ (by omega) (by omega)]
    split
    · exact Int.mul_fdiv_cancel _ hV0
    · exact Int.zero_fdiv _
  refine whileM_for' (fun i => (i : Int)) (2 * k + 1) _ rfl (fun i hi => ?_) ?_
  · unfold law21_FilterImpulse_l2
    simp only [List.length_map, List.length_range]
    rw [if_pos (decide_eq_true (by omega)), ix_nat _ _ (by simp; omega)]
    simp only [Option.bind, List.getElem_map, List.getElem_range]
    rw [hget i hi, w64_id (x := (k : Int) - 1) (by omega) (by omega), w64_id (x := (k : Int) - 1 + i) (by omega) (by omega), w64_id (x := (k : Int) - 1 + i - p) (by omega) (by omega)]
    by_cases hc : p ≤ k - 1 + i ∧ k - 1 + i - p < k
    · rw [if_pos hc]
      have c1 : decide (0 ≤ (k : Int) - 1 + i - p) = true := decide_eq_true (by omega)
      have c2 : decide ((k : Int) - 1 + i - p < k) = true := decide_eq_true (by omega)
      rw [c1, c2]
      have ej : ((k : Int) - 1 + i - p) = ((k - 1 + i - p : Nat) : Int) := by omega
      rw [ej, ix_nat _ _ (by omega)]
      have e : taps.getD (k - 1 + i - p) 0 = taps[k - 1 + i - p]'(by omega) := by simp [List.getD_eq_getElem?_getD, show k - 1 + i - p < taps.length by omega]
      rw [e]
      simp only [Bool.and_self, if_true, law21_FilterImpulse_j1, bne_self_eq_false, Bool.false_eq_true, if_false]
      rw [w64_id (by omega) (by omega)]
      rfl
    · rw [if_neg hc]
      have c : (decide (0 ≤ (k : Int) - 1 + i - p) && decide ((k : Int) - 1 + i - p < k)) = false := by
        rw [Bool.and_eq_false_iff]
        by_cases h1 : 0 ≤ (k : Int) - 1 + i - p
        · right; exact decide_eq_false (by omega)
        · left; exact decide_eq_false h1
      rw [c]
      simp only [Bool.false_eq_true, if_false, law21_FilterImpulse_j1, bne_self_eq_false]
      rw [w64_id (by omega) (by omega)]
      rfl
  · unfold law21_FilterImpulse_l2
    simp only [List.length_map, List.length_range]
    rw [if_neg (by simp)]
    have hb := tsum_le taps
    have hat : ∀ m, m ≤ k → -V ≤ tsum taps m ∧ tsum taps m ≤ V := by
      intro m hm
      have h1 := hb m (by omega)
      have h2 := asum_take_le taps m
      omega
    have e3 : whileM (law21_FilterImpulse_l3 (⟨taps, fa, sh⟩, d')) (0, 0) = some (tsum taps k) := by
      refine whileM_for' (fun m => (tsum taps m, (m : Int))) k _ rfl (fun m hm => ?_) ?_
      · have h1 := hat m (by omega)
        have h2 := hat (m + 1) (by omega)
        have e : taps.getD m 0 = taps[m]'(by omega) := by simp [List.getD_eq_getElem?_getD, show m < taps.length by omega]
        simp only [tsum] at h2 ⊢
        rw [e] at h2 ⊢
        unfold law21_FilterImpulse_l3
        simp only
        rw [if_pos (decide_eq_true (by omega)), ix_nat _ _ (by omega)]
        simp only [Option.bind]
        rw [w64_id (by omega) (by omega), w64_id (by omega) (by omega)]
        rfl
      · unfold law21_FilterImpulse_l3
        simp only
        rw [if_neg (by simp; omega)]
    rw [e3]
    simp only [Option.bind]
    rw [w64_id (x := (k : Int) + 3) (by omega) (by omega), makeM_at _ _ _ (by omega) (by omega) (by decide)]
    have hk3 : ((k : Int) + 3).toNat = k + 3 := by omega
    simp only [hk3]
    have hnV : 0 ≤ n * V ∧ n * V ≤ 16320 := by
      have h1 := Int.mul_nonneg hn.1 (show 0 ≤ V by omega)
      have h2 : n * V ≤ 255 * 64 := Int.mul_le_mul hn.2 hp (by omega) (by decide)
      omega
    -- the flat samples
    have e4 : whileM (law21_FilterImpulse_l4 n (⟨taps, fa, sh⟩, d') (List.replicate (k + 3) 0)) (List.replicate (k + 3) 0, 0) = some (List.replicate (k + 3) (n * V)) := by
      refine whileM_for' (fun m => (List.replicate m (n * V) ++ List.replicate (k + 3 - m) 0, (m : Int))) (k + 3) _ (by simp) (fun m hm => ?_) ?_
      · unfold law21_FilterImpulse_l4
        simp only [List.length_replicate]
        rw [if_pos (decide_eq_true (by omega)), w64_id (x := n) (by omega) (by omega), u64_id s0 (by omega), shlM_at _ _ s0 (by omega), hP, w64_id (x := n * V) (by omega) (by omega)]
        simp only [Option.bind]
        rw [ix_nat _ _ (by simp; omega)]
        simp only
        rw [setM_at _ _ _ (by omega) (by simp; omega), w64_id (by omega) (by omega)]
        simp only [Int.toNat_natCast]
        have es : (List.replicate m (n * V) ++ List.replicate (k + 3 - m) (0 : Int)).set m (n * V) = List.replicate (m + 1) (n * V) ++ List.replicate (k + 3 - (m + 1)) 0 := by
          rw [List.set_append_right _ _ (by simp)]
          obtain ⟨z, hz⟩ : ∃ z, k + 3 - m = z + 1 := ⟨k + 3 - m - 1, by omega⟩
          have hz2 : k + 3 - (m + 1) = z := by omega
          rw [hz, hz2, List.replicate_succ, List.length_replicate, Nat.sub_self, List.set_cons_zero, List.replicate_succ', List.append_assoc]
          rfl
        rw [es]
        rfl
      · unfold law21_FilterImpulse_l4
        simp only [List.length_replicate]
        rw [if_neg (by simp)]
        simp
    rw [e4]
    simp only
    have hx2 : SOK (List.replicate (k + 3) (n * V)) := by
      refine ⟨fun x hx => ?_, by simp; omega⟩
      have := List.eq_of_mem_replicate hx
      omega
    rw [apply_ok hv1 hx2 (by decide) (by decide)]
    simp only
    rw [outs_one rfl]
    have hlen2 : (List.replicate (k + 3) (n * V)).length - (taps.length - 1) = 4 := by simp; omega
    rw [hlen2, hP]
    have hget2 : ∀ i, i < 4 → (dot taps (List.replicate (k + 3) (n * V)) (taps.length - 1 + i) taps.length).fdiv V = tsum taps k * n := by
      intro i hi
      rw [dot_flat _ _ _ _ _ (by omega), hk, ← Int.mul_assoc]
      exact Int.mul_fdiv_cancel _ hV0
    have hts := hat k (Nat.le_refl _)
    have hprod : -16320 ≤ tsum taps k * n ∧ tsum taps k * n ≤ 16320 := by
      have h1 : tsum taps k * n ≤ V * n := Int.mul_le_mul_of_nonneg_right hts.2 hn.1
      have h2 : -V * n ≤ tsum taps k * n := Int.mul_le_mul_of_nonneg_right hts.1 hn.1
      rw [Int.neg_mul] at h2
      rw [Int.mul_comm V n] at h1 h2
      omega
    have e6 : whileM (law21_FilterImpulse_l6 n (tsum taps k) ((List.range 4).map (fun i => (dot taps (List.replicate (k + 3) (n * V)) (taps.length - 1 + i) taps.length).fdiv V), 0)) 0 = some true := by
      refine whileM_for' (fun i => (i : Int)) 4 _ rfl (fun i hi => ?_) ?_
      · unfold law21_FilterImpulse_l6
        simp only [List.length_map, List.length_range]
        rw [if_pos (decide_eq_true (by omega)), ix_nat _ _ (by simp; omega)]
        simp only [Option.bind, List.getElem_map, List.getElem_range]
        rw [hget2 i hi, w64_id (x := n) (by omega) (by omega), w64_id (by omega) (by omega), w64_id (by omega) (by omega)]
        simp
      · unfold law21_FilterImpulse_l6
        simp only [List.length_map, List.length_range]
        rw [if_neg (by simp), sane_true]
        rfl
    rw [e6]
    rfl

end Go.Proofs.Ytmihimhknllmcaa.Sh

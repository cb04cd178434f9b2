/- The law FilterConvolves as a plain program: it is true at every input. -/
import Derived.Test.YtmihimhknllmcaaConv
namespace Go.Proofs.Ytmihimhknllmcaa.Sh
open Go
set_option linter.unusedVariables false
set_option linter.unusedSimpArgs false

theorem law21_FilterConvolves_true (t : List Int) (ht : ∀ x ∈ t, -9223372036854775808 ≤ x ∧ x ≤ 9223372036854775807) : law21_FilterConvolves t = some true := by
  unfold law21_FilterConvolves
  rw [light_spec]
  simp only [Option.bind]
  by_cases hl : t.length ≤ 500
  case neg =>
    rw [decide_eq_false hl, sane_true]
    rfl
  rw [decide_eq_true hl]
  simp only [Bool.not_true, Bool.false_eq_true, if_false, made_Roll]
  obtain ⟨a, d1, ea, haf, hd1⟩ := dfilter_spec (DOK.roll hl)
  obtain ⟨b, d2, eb, hbf, hd2⟩ := dfilter_spec hd1
  obtain ⟨x, d3, ex, rx, xl1, xl2, hd3⟩ := samples_spec hd2 (n := 24) (by decide) (by decide)
  rw [ea]; simp only
  rw [eb]; simp only
  have ha : FS ⟨a.Taps, 1, a.Shift⟩ := ⟨⟨haf.l1, haf.l2, haf.s0, haf.s1, Int.le_refl _, (by decide : (1 : Int) ≤ 64), haf.tap, haf.sum⟩, haf.l5, haf.s6, rfl⟩
  have hb : FS ⟨b.Taps, 1, b.Shift⟩ := ⟨⟨hbf.l1, hbf.l2, hbf.s0, hbf.s1, Int.le_refl _, (by decide : (1 : Int) ≤ 64), hbf.tap, hbf.sum⟩, hbf.l5, hbf.s6, rfl⟩
  have hvc := conv_vf ha hb
  have sx : SOK x := ⟨rx, by omega⟩
  rw [convolve_spec ha hb, convolve_spec hb ha]
  simp only
  rw [ex]; simp only
  rw [apply_ok ha.v sx (by decide) (by decide)]
  simp only
  have hpl := outs_len ⟨a.Taps, 1, a.Shift⟩ x 0 (a.Taps.length - 1) (x.length - (a.Taps.length - 1))
  have sp : SOK (outs ⟨a.Taps, 1, a.Shift⟩ x 0 (a.Taps.length - 1) (x.length - (a.Taps.length - 1))) := ⟨outs_rng ha.v rx _ _ _, by omega⟩
  rw [apply_ok hb.v sp (by decide) (by decide), apply_ok hvc sx (by decide) (by decide)]
  simp only
  rw [cvs_comm b.Taps a.Taps, Int.add_comm b.Shift a.Shift, rsame_refl _ (by simp [cvs]; have := haf.l5; have := hbf.l5; omega), rvalid_true hvc]
  simp only [bne_self_eq_false, Bool.or_self, Bool.false_eq_true, if_false, Bool.not_true, Bool.false_or]
  have la1 : 1 ≤ a.Taps.length := haf.l1
  have lb1 : 1 ≤ b.Taps.length := hbf.l1
  have la5 := haf.l5
  have lb5 := hbf.l5
  have sa0 : 0 ≤ a.Shift := haf.s0
  have sb0 : 0 ≤ b.Shift := hbf.s0
  have sa6 : a.Shift ≤ 6 := haf.s6
  have sb6 : b.Shift ≤ 6 := hbf.s6
  have hcl : (cvs a.Taps b.Taps).length = a.Taps.length + b.Taps.length - 1 := by simp [cvs]
  rw [outs_one rfl, outs_one rfl]
  simp only [List.length_map, List.length_range, hcl]
  rw [outs_one rfl]
  simp only [List.length_map, List.length_range]
  have hlen : x.length - (a.Taps.length + b.Taps.length - 1 - 1) = x.length - (a.Taps.length - 1) - (b.Taps.length - 1) := by omega
  rw [hlen]
  obtain ⟨M, hM⟩ : ∃ M, x.length - (a.Taps.length - 1) - (b.Taps.length - 1) = M := ⟨_, rfl⟩
  rw [hM]
  rw [if_neg (by simp)]
  have hV1 := pow_pos' a.Shift.toNat
  have hV2 := pow_pos' b.Shift.toNat
  have hsb : asum b.Taps ≤ 2 ^ b.Shift.toNat := hbf.sum
  rw [pow_sum sa0 sb0]
  have hone : w64 (a.Shift + b.Shift) = 0 → (2 : Int) ^ a.Shift.toNat = 1 ∧ (2 : Int) ^ b.Shift.toNat = 1 := by
    intro h
    rw [w64_id (by omega) (by omega)] at h
    have h1 : a.Shift = 0 := by omega
    have h2 : b.Shift = 0 := by omega
    rw [h1, h2]
    decide
  generalize hP1 : (2 : Int) ^ a.Shift.toNat = V1 at *
  generalize hP2 : (2 : Int) ^ b.Shift.toNat = V2 at *
  -- the differences
  have hdiff : ∀ k, k < M → ∃ r q : Int, (dot (cvs a.Taps b.Taps) x (a.Taps.length + b.Taps.length - 1 - 1 + k) (a.Taps.length + b.Taps.length - 1)).fdiv (V1 * V2) = r ∧
      (dot b.Taps ((List.range (x.length - (a.Taps.length - 1))).map (fun i => (dot a.Taps x (a.Taps.length - 1 + i) a.Taps.length).fdiv V1)) (b.Taps.length - 1 + k) b.Taps.length).fdiv V2 = q ∧
      -1 ≤ r - q ∧ r - q ≤ 1 ∧ (V1 = 1 → V2 = 1 → r - q = 0) := by
    intro k hk
    refine ⟨_, _, rfl, rfl, ?_⟩
    have eC := dot_conv a.Taps b.Taps x (a.Taps.length + b.Taps.length - 1 - 1 + k) la1 lb1
    obtain ⟨A, hA⟩ : ∃ A : Nat → Int, A = fun j => dot a.Taps x (a.Taps.length + b.Taps.length - 1 - 1 + k - j) a.Taps.length := ⟨_, rfl⟩
    have eQ : dot b.Taps ((List.range (x.length - (a.Taps.length - 1))).map (fun i => (dot a.Taps x (a.Taps.length - 1 + i) a.Taps.length).fdiv V1)) (b.Taps.length - 1 + k) b.Taps.length = sm (fun j => b.Taps.getD j 0 * (A j / V1)) b.Taps.length := by
      rw [dot_sm]
      refine sm_congr fun j hj => ?_
      rw [map_range_getD, if_pos (by omega), hA, Int.fdiv_eq_ediv_of_nonneg _ (by omega)]
      simp only
      congr 3
      omega
    have eC2 : dot (cvs a.Taps b.Taps) x (a.Taps.length + b.Taps.length - 1 - 1 + k) (a.Taps.length + b.Taps.length - 1) = V1 * sm (fun j => b.Taps.getD j 0 * (A j / V1)) b.Taps.length + sm (fun j => b.Taps.getD j 0 * (A j % V1)) b.Taps.length := by
      rw [eC, ← sm_mulL, ← sm_add]
      refine sm_congr fun j hj => ?_
      rw [← Int.mul_assoc, Int.mul_comm V1, Int.mul_assoc, ← Int.mul_add, Int.mul_ediv_add_emod, hA]
    have hR : iabs (sm (fun j => b.Taps.getD j 0 * (A j % V1)) b.Taps.length) ≤ V2 * (V1 - 1) := by
      have h1 := iabs_sm (fun j => b.Taps.getD j 0 * (A j % V1)) b.Taps.length
      have h2 : sm (fun j => iabs (b.Taps.getD j 0 * (A j % V1))) b.Taps.length ≤ sm (fun j => iabs (b.Taps.getD j 0) * (V1 - 1)) b.Taps.length := by
        refine sm_le fun j hj => ?_
        rw [iabs_mul]
        refine Int.mul_le_mul_of_nonneg_left ?_ (iabs_nn _)
        have h3 := Int.emod_nonneg (A j) (show V1 ≠ 0 by omega)
        have h4 := Int.emod_lt_of_pos (A j) (show 0 < V1 by omega)
        unfold iabs
        omega
      rw [sm_mulR, ← asum_sm] at h2
      have h5 : asum b.Taps * (V1 - 1) ≤ V2 * (V1 - 1) := Int.mul_le_mul_of_nonneg_right hsb (by omega)
      omega
    rw [eQ]
    exact near_floor V1 V2 hV1 hV2 _ _ _ eC2 (by unfold iabs at hR; omega) (by unfold iabs at hR; omega)
  refine whileM_for' (fun i => (i : Int)) M _ rfl (fun k hk => ?_) ?_
  · obtain ⟨r, q, er, eq, h1, h2, h3⟩ := hdiff k hk
    unfold law21_FilterConvolves_l2
    simp only [List.length_map, List.length_range]
    rw [if_pos (decide_eq_true (by omega)), ix_nat _ _ (by simp; omega), ix_nat _ _ (by simp; omega)]
    simp only [Option.bind, List.getElem_map, List.getElem_range]
    rw [er, eq]
    have hrq : -2305843009213693952 ≤ r - q ∧ r - q ≤ 2305843009213693952 := by omega
    have hw : w64 (r - q) = r - q := w64_id (by omega) (by omega)
    rw [hw]
    rw [if_neg ?_, w64_id (by omega) (by omega)]
    · rfl
    · simp only [Bool.or_eq_true, Bool.and_eq_true, decide_eq_true_eq, bne_iff_ne, beq_iff_eq]
      rintro ((h | h) | ⟨h4, h5⟩)
      · omega
      · omega
      · obtain ⟨e1, e2⟩ := hone h5
        exact h4 (h3 e1 e2)
  · unfold law21_FilterConvolves_l2
    simp only [List.length_map, List.length_range]
    rw [if_neg (by simp), sane_true]
    rfl

end Go.Proofs.Ytmihimhknllmcaa.Sh

/- The law FilterLinear as a plain program: it is true at every input. -/
import Derived.Test.YtmihimhknllmcaaFlt2
namespace Go.Proofs.Ytmihimhknllmcaa.Sh
open Go
set_option linter.unusedVariables false
set_option linter.unusedSimpArgs false

structure LI (by' V : Int) (s : List Int × Int × List Int × List Int × List Int × Int) : Prop where
  dok : DOK ⟨s.1, s.2.1⟩
  i0 : 0 ≤ s.2.2.2.2.2
  i1 : s.2.2.2.2.2 ≤ 14
  ex : ∃ as bs : List Int, as.length = s.2.2.2.2.2 ∧ bs.length = s.2.2.2.2.2 ∧ (∀ x ∈ as, -4 ≤ x ∧ x ≤ 4) ∧ (∀ x ∈ bs, -4 ≤ x ∧ x ≤ 4) ∧
    s.2.2.1 = as.map (· * V) ∧ s.2.2.2.1 = bs.map (· * V) ∧ s.2.2.2.2.1 = (List.zipWith (fun x y => x + by' * y) as bs).map (· * V)

theorem zipWith_snoc (f : Int → Int → Int) (as bs : List Int) (a b : Int) (h : as.length = bs.length) : List.zipWith f (as ++ [a]) (bs ++ [b]) = List.zipWith f as bs ++ [f a b] := by
  rw [List.zipWith_append h]; rfl

theorem lin_l1 {f : Filter} {d0 : Dice} {by' V : Int} (hb : -128 ≤ by' ∧ by' ≤ 127) (hs0 : 0 ≤ f.Shift) (hs1 : f.Shift ≤ 6) (hV : (2 : Int) ^ f.Shift.toNat = V) (hV1 : 1 ≤ V) (hV2 : V ≤ 64) (hd : DOK d0) :
    ∃ L At as bs, whileM (law21_FilterLinear_l1 by' (f, d0)) (d0.L, d0.At, [], [], [], 0) = some (L, At, as.map (· * V), bs.map (· * V), (List.zipWith (fun x y => x + by' * y) as bs).map (· * V)) ∧ DOK ⟨L, At⟩ ∧
      as.length = 14 ∧ bs.length = 14 ∧ (∀ x ∈ as, -4 ≤ x ∧ x ≤ 4) ∧ (∀ x ∈ bs, -4 ≤ x ∧ x ≤ 4) := by
  have hw := whileM_inv (body := law21_FilterLinear_l1 by' (f, d0)) (LI by' V) (fun s => (14 - s.2.2.2.2.2).toNat)
    (fun e => DOK ⟨e.1, e.2.1⟩ ∧ ∃ as bs : List Int, as.length = 14 ∧ bs.length = 14 ∧ (∀ x ∈ as, -4 ≤ x ∧ x ≤ 4) ∧ (∀ x ∈ bs, -4 ≤ x ∧ x ≤ 4) ∧
      e.2.2.1 = as.map (· * V) ∧ e.2.2.2.1 = bs.map (· * V) ∧ e.2.2.2.2 = (List.zipWith (fun x y => x + by' * y) as bs).map (· * V)) (by
      rintro ⟨L, At, x, y, z, i⟩ ⟨dok, i0, i1, as, bs, ha, hbl, ra, rb, ex, ey, ez⟩
      simp only at dok i0 i1 ha hbl ex ey ez
      subst ex ey ez
      by_cases hi : i < 14
      · left
        unfold law21_FilterLinear_l1
        simp only
        rw [if_pos (decide_eq_true hi)]
        obtain ⟨a, d1, e1, a0, a1, hd1⟩ := next_spec dok (n := 9) (by decide) (by decide)
        obtain ⟨b, d2, e2, b0, b1, hd2⟩ := next_spec hd1 (n := 9) (by decide) (by decide)
        rw [e1]; simp only [Option.bind]
        rw [u64_id hs0 (by omega), w64_id (x := a - 4) (by omega) (by omega), shlM_at _ _ hs0 (by omega), hV]
        simp only
        rw [e2]; simp only
        rw [w64_id (x := b - 4) (by omega) (by omega), shlM_at _ _ hs0 (by omega), hV]
        simp only
        have m1 : -256 ≤ (a - 4) * V ∧ (a - 4) * V ≤ 256 := by
          have h1 : (a - 4) * V ≤ 4 * V := Int.mul_le_mul_of_nonneg_right (by omega) (by omega)
          have h2 : (-4) * V ≤ (a - 4) * V := Int.mul_le_mul_of_nonneg_right (by omega) (by omega)
          omega
        have m2 : -256 ≤ (b - 4) * V ∧ (b - 4) * V ≤ 256 := by
          have h1 : (b - 4) * V ≤ 4 * V := Int.mul_le_mul_of_nonneg_right (by omega) (by omega)
          have h2 : (-4) * V ≤ (b - 4) * V := Int.mul_le_mul_of_nonneg_right (by omega) (by omega)
          omega
        rw [w64_id (x := (a - 4) * V) (by omega) (by omega), w64_id (x := (b - 4) * V) (by omega) (by omega), w64_id (x := by') (by omega) (by omega)]
        have m3 : -32768 ≤ by' * ((b - 4) * V) ∧ by' * ((b - 4) * V) ≤ 32768 := by
          obtain ⟨h1, h2⟩ := mul_le_abs by' ((b - 4) * V) 256 m2.1 m2.2
          omega
        rw [w64_id (x := by' * ((b - 4) * V)) (by omega) (by omega), w64_id (x := (a - 4) * V + by' * ((b - 4) * V)) (by omega) (by omega), w64_id (x := i + 1) (by omega) (by omega)]
        rw [appM_one _ _ _ (by simp; omega) (by decide), appM_one _ _ _ (by simp; omega) (by decide), appM_one _ _ _ (by simp; omega) (by decide)]
        refine ⟨_, rfl, ⟨hd2, by simp only; omega, by simp only; omega, as ++ [a - 4], bs ++ [b - 4], by simp; omega, by simp; omega, ?_, ?_, by simp, by simp, ?_⟩, by simp only; omega⟩
        · intro q hq
          rcases List.mem_append.1 hq with h | h
          · exact ra q h
          · simp only [List.mem_singleton] at h; omega
        · intro q hq
          rcases List.mem_append.1 hq with h | h
          · exact rb q h
          · simp only [List.mem_singleton] at h; omega
        · simp only
          rw [zipWith_snoc _ _ _ _ _ (by omega), List.map_append]
          congr 1
          simp only [List.map_cons, List.map_nil]
          rw [Int.add_mul, Int.mul_assoc]
      · right
        unfold law21_FilterLinear_l1
        simp only
        rw [if_neg (by simpa using hi)]
        exact ⟨_, rfl, dok, as, bs, by omega, by omega, ra, rb, rfl, rfl, rfl⟩)
    (d0.L, d0.At, [], [], [], 0) ⟨hd, by simp only; omega, by simp only; omega, [], [], by simp, by simp, by simp, by simp, rfl, rfl, rfl⟩
  obtain ⟨⟨L, At, x, y, z⟩, he, hde, as, bs, h1, h2, h3, h4, e1, e2, e3⟩ := hw
  simp only at e1 e2 e3
  subst e1 e2 e3
  exact ⟨L, At, as, bs, he, hde, h1, h2, h3, h4⟩

theorem map_sok {as : List Int} {V B : Int} (hV : 1 ≤ V) (hV2 : V ≤ 64) (hB : 0 ≤ B) (hB2 : B ≤ 1000000) (h : ∀ x ∈ as, -B ≤ x ∧ x ≤ B) (hl : as.length ≤ 65536) : SOK (as.map (· * V)) := by
  refine ⟨fun x hx => ?_, by simpa using hl⟩
  obtain ⟨a, ha, rfl⟩ := List.mem_map.1 hx
  obtain ⟨h1, h2⟩ := h a ha
  obtain ⟨h3, h4⟩ := mul_le_abs V a B h1 h2
  have h5 : max V (-V) = V := by omega
  rw [h5] at h3 h4
  have h6 : V * B ≤ 64 * 1000000 := Int.mul_le_mul hV2 hB2 hB (by decide)
  rw [Int.mul_comm a V]
  omega

theorem law21_FilterLinear_true (t : List Int) (n by' : Int) (ht : ∀ x ∈ t, -9223372036854775808 ≤ x ∧ x ≤ 9223372036854775807) (hn : 0 ≤ n ∧ n ≤ 255) (hb : -128 ≤ by' ∧ by' ≤ 127) : law21_FilterLinear t n by' = some true := by
  unfold law21_FilterLinear
  rw [light_spec]
  simp only [Option.bind]
  by_cases hl : t.length ≤ 500
  case neg =>
    rw [decide_eq_false hl, sane_true]
    rfl
  rw [decide_eq_true hl]
  simp only [Bool.not_true, Bool.false_eq_true, if_false, made_Roll]
  obtain ⟨f, d', ef, hff, hd'⟩ := dfilter_spec (DOK.roll hl)
  rw [ef]
  simp only
  obtain ⟨taps, fa, sh⟩ := f
  have hv1 : VF ⟨taps, 1, sh⟩ := ⟨hff.l1, hff.l2, hff.s0, hff.s1, Int.le_refl _, (by decide : (1 : Int) ≤ 64), hff.tap, hff.sum⟩
  have l1 : 1 ≤ taps.length := hff.l1
  have l5 : taps.length ≤ 5 := hff.l5
  have s0 : 0 ≤ sh := hff.s0
  have s6 : sh ≤ 6 := hff.s6
  have hsum : asum taps ≤ 2 ^ sh.toNat := hff.sum
  have hp : (2 : Int) ^ sh.toNat ≤ 64 := by
    have h2 : (2 : Nat) ^ sh.toNat ≤ 64 := Nat.pow_le_pow_right (n := 2) (by decide) (show sh.toNat ≤ 6 by omega)
    have h3 : ((2 ^ sh.toNat : Nat) : Int) ≤ ((64 : Nat) : Int) := Int.ofNat_le.2 h2
    rw [Int.natCast_pow] at h3
    exact h3
  have hp1 := pow_pos' sh.toNat
  obtain ⟨V, hP⟩ : ∃ V : Int, (2 : Int) ^ sh.toNat = V := ⟨_, rfl⟩
  rw [hP] at hp hp1 hsum
  have hV0 : V ≠ 0 := by omega
  obtain ⟨L, At, as, bs, hw, hdl, hal, hbl, ra, rb⟩ := lin_l1 (f := ⟨taps, fa, sh⟩) hb s0 s6 hP hp1 hp hd'
  simp only at hw
  rw [hw]
  simp only
  have hzl : (List.zipWith (fun x y => x + by' * y) as bs).length = 14 := by rw [List.length_zipWith]; omega
  have hbb : ∀ b, -4 ≤ b → b ≤ 4 → -512 ≤ by' * b ∧ by' * b ≤ 512 := by
    intro b h1 h2
    obtain ⟨h3, h4⟩ := mul_le_abs by' b 4 h1 h2
    omega
  have rz : ∀ x ∈ List.zipWith (fun x y => x + by' * y) as bs, -516 ≤ x ∧ x ≤ 516 := by
    intro x hx
    obtain ⟨i, hi, rfl⟩ := List.mem_iff_getElem.1 hx
    rw [List.getElem_zipWith]
    have h1 := ra (as[i]'(by omega)) (List.getElem_mem _)
    have h2 := rb (bs[i]'(by omega)) (List.getElem_mem _)
    have h3 := hbb _ h2.1 h2.2
    omega
  have sa : SOK (as.map (· * V)) := map_sok hp1 hp (by decide) (by decide) ra (by omega)
  have sb : SOK (bs.map (· * V)) := map_sok hp1 hp (by decide) (by decide) rb (by omega)
  have sz : SOK ((List.zipWith (fun x y => x + by' * y) as bs).map (· * V)) := map_sok hp1 hp (by decide) (by decide) rz (by omega)
  have sd : SOK ((as.drop 3).map (· * V)) := map_sok hp1 hp (by decide) (by decide) (fun x hx => ra x (List.mem_of_mem_drop hx)) (by simp; omega)
  have esub : subM (as.map (· * V)) 3 ((as.map (· * V)).length : Int) = some ((as.drop 3).map (· * V)) := by
    unfold subM
    rw [if_pos (by simp; omega)]
    simp only [List.length_map, Int.toNat_natCast]
    rw [List.take_of_length_le (by simp), List.map_drop]
    rfl
  rw [w64_id (x := n) (by omega) (by omega)]
  rw [apply_ok hv1 sa (by decide) (by decide), apply_ok hv1 sb (by decide) (by decide), apply_ok hv1 sz hn.1 (by omega)]
  simp only
  rw [esub]
  simp only
  rw [apply_ok hv1 sd (by decide) (by decide)]
  simp only
  have len1 : (as.map (· * V)).length - (taps.length - 1) = 15 - taps.length := by simp; omega
  have len2 : (bs.map (· * V)).length - (taps.length - 1) = 15 - taps.length := by simp; omega
  have len3 : ((List.zipWith (fun x y => x + by' * y) as bs).map (· * V)).length - (taps.length - 1) = 15 - taps.length := by rw [List.length_map, hzl]; omega
  have len4 : ((as.drop 3).map (· * V)).length - (taps.length - 1) = 12 - taps.length := by simp; omega
  rw [len1, len2, len3, len4, outs_one rfl, outs_one rfl, outs_one rfl, outs_one rfl]
  simp only [List.length_map, List.length_range]
  rw [w64_id (x := 15 - (taps.length : Int)) (by omega) (by omega), w64_id (x := ((15 - taps.length : Nat) : Int) - 3) (by omega) (by omega)]
  have c1 : (((15 - taps.length : Nat) : Int) != 15 - (taps.length : Int)) = false := by simp; omega
  have c2 : (((12 - taps.length : Nat) : Int) != max (((15 - taps.length : Nat) : Int) - 3) 0) = false := by simp; omega
  rw [c1, c2]
  simp only [bne_self_eq_false, Bool.or_self, Bool.false_eq_true, if_false, hP]
  -- what the outputs are
  have ga : ∀ i, (dot taps (as.map (· * V)) (taps.length - 1 + i) taps.length).fdiv V = dot taps as (taps.length - 1 + i) taps.length := fun i => by
    rw [dot_scale]; exact Int.mul_fdiv_cancel _ hV0
  have gb : ∀ i, (dot taps (bs.map (· * V)) (taps.length - 1 + i) taps.length).fdiv V = dot taps bs (taps.length - 1 + i) taps.length := fun i => by
    rw [dot_scale]; exact Int.mul_fdiv_cancel _ hV0
  have gz : ∀ i, (dot taps ((List.zipWith (fun x y => x + by' * y) as bs).map (· * V)) (taps.length - 1 + i) taps.length).fdiv V = dot taps as (taps.length - 1 + i) taps.length + by' * dot taps bs (taps.length - 1 + i) taps.length := fun i => by
    rw [dot_scale, Int.mul_fdiv_cancel _ hV0, dot_lin _ _ _ _ (by omega)]
  have gd : ∀ i, 3 ≤ i → (dot taps ((as.drop 3).map (· * V)) (taps.length - 1 + (i - 3)) taps.length).fdiv V = dot taps as (taps.length - 1 + i) taps.length := fun i hi => by
    rw [dot_scale, Int.mul_fdiv_cancel _ hV0, dot_drop _ _ _ _ _ (by omega)]
    congr 1
    omega
  have bb : ∀ i, -256 ≤ dot taps bs i taps.length ∧ dot taps bs i taps.length ≤ 256 := fun i => by
    obtain ⟨h1, h2⟩ := dot_le taps bs 4 (by decide) rb i taps.length (Nat.le_refl _)
    rw [List.take_length] at h1 h2
    omega
  have ba : ∀ i, -256 ≤ dot taps as i taps.length ∧ dot taps as i taps.length ≤ 256 := fun i => by
    obtain ⟨h1, h2⟩ := dot_le taps as 4 (by decide) ra i taps.length (Nat.le_refl _)
    rw [List.take_length] at h1 h2
    omega
  refine whileM_for' (fun i => (i : Int)) (15 - taps.length) _ rfl (fun i hi => ?_) ?_
  · unfold law21_FilterLinear_l3
    simp only [List.length_map, List.length_range]
    rw [if_pos (decide_eq_true (by omega)), ix_nat _ _ (by simp; omega), ix_nat _ _ (by simp; omega), ix_nat _ _ (by simp; omega)]
    simp only [Option.bind, List.getElem_map, List.getElem_range]
    rw [gz, ga, gb]
    have hA := ba (taps.length - 1 + i)
    have hB := bb (taps.length - 1 + i)
    have hC : -32768 ≤ by' * dot taps bs (taps.length - 1 + i) taps.length ∧ by' * dot taps bs (taps.length - 1 + i) taps.length ≤ 32768 := by
      obtain ⟨h1, h2⟩ := mul_le_abs by' _ 256 hB.1 hB.2
      omega
    rw [w64_id (x := by') (by omega) (by omega), w64_id (x := by' * _) (by omega) (by omega), w64_id (x := _ + by' * _) (by omega) (by omega)]
    rw [if_neg (by simp)]
    by_cases h3 : 3 ≤ i
    · rw [if_pos (decide_eq_true (by omega)), w64_id (x := (i : Int) - 3) (by omega) (by omega)]
      have e3 : (i : Int) - 3 = ((i - 3 : Nat) : Int) := by omega
      rw [e3, ix_nat _ _ (by simp; omega)]
      simp only [List.getElem_map, List.getElem_range]
      rw [gd i h3, if_neg (by simp), w64_id (by omega) (by omega)]
      rfl
    · rw [if_neg (by simp; omega)]
      simp only [Bool.false_eq_true, if_false]
      rw [w64_id (by omega) (by omega)]
      rfl
  · unfold law21_FilterLinear_l3
    simp only [List.length_map, List.length_range]
    rw [if_neg (by simp)]
    obtain ⟨xs, d3, ex, rx, xl1, xl2, hd3⟩ := samples_spec hdl (n := 20) (by decide) (by decide)
    rw [ex]
    simp only [Option.bind]
    have sx : SOK xs := ⟨rx, by omega⟩
    rw [w64_id (x := n) (by omega) (by omega), apply_ok hv1 sx hn.1 (by omega)]
    simp only
    obtain ⟨q, d4, eq, q0, q1, hd4⟩ := next_spec hd3 (n := 5) (by decide) (by decide)
    rw [eq]
    simp only
    rw [w64_id (x := 1 + q) (by omega) (by omega)]
    have hv2 : VF ⟨taps, 1 + q, sh⟩ := ⟨hff.l1, hff.l2, hff.s0, hff.s1, (by show (1 : Int) ≤ 1 + q; omega), (by show 1 + q ≤ 64; omega), hff.tap, hff.sum⟩
    rw [apply_ok hv2 sx hn.1 (by omega)]
    simp only
    rw [inrange_true (outs_rng hv1 rx _ _ _) (by have := outs_len ⟨taps, 1, sh⟩ xs n (taps.length - 1) (xs.length - (taps.length - 1)); omega)]
    simp only [bne_self_eq_false, Bool.or_self, Bool.false_eq_true, if_false, Bool.not_true]
    -- the factor
    obtain ⟨M, hM⟩ : ∃ M, xs.length - (taps.length - 1) = M := ⟨_, rfl⟩
    simp only [hM]
    rw [outs_one rfl]
    simp only [hP]
    have hol : ∀ i, (outs ⟨taps, 1 + q, sh⟩ xs n (taps.length - 1) i).length ≤ i := fun i => outs_len _ _ _ _ _
    have hw5 : whileM (law21_FilterLinear_l5 n (⟨taps, fa, sh⟩, d') ((List.range M).map (fun i => (dot taps xs (taps.length - 1 + i) taps.length).fdiv V), 0) (q, d4) (outs ⟨taps, 1 + q, sh⟩ xs n (taps.length - 1) M, 0)) (0, 0) = some true := by
      refine whileM_for' (fun i => (((outs ⟨taps, 1 + q, sh⟩ xs n (taps.length - 1) i).length : Int), (i : Int))) M _ rfl (fun i hi => ?_) ?_
      · have hli := hol i
        unfold law21_FilterLinear_l5
        simp only [List.length_map, List.length_range]
        rw [if_pos (decide_eq_true (by omega)), w64_id (x := n) (by omega) (by omega), w64_id (x := n + (taps.length : Int)) (by omega) (by omega), w64_id (x := n + (taps.length : Int) - 1) (by omega) (by omega), w64_id (x := n + (taps.length : Int) - 1 + i) (by omega) (by omega), w64_id (x := 1 + q) (by omega) (by omega), remM_at _ _ (by omega)]
        have et : (n + (taps.length : Int) - 1 + i).tmod (1 + q) = (n + ((taps.length - 1 + i : Nat) : Int)) % (1 + q) := by
          rw [Int.tmod_eq_emod_of_nonneg (by omega)]
          congr 1
          omega
        rw [et]
        simp only [Option.bind]
        by_cases hc : (n + ((taps.length - 1 + i : Nat) : Int)) % (1 + q) = 0
        · rw [hc]
          simp only [beq_self_eq_true, if_true]
          obtain ⟨r, hr⟩ := outs_prefix ⟨taps, 1 + q, sh⟩ xs n (taps.length - 1) (i + 1) M (by omega)
          have hsn : outs ⟨taps, 1 + q, sh⟩ xs n (taps.length - 1) (i + 1) = outs ⟨taps, 1 + q, sh⟩ xs n (taps.length - 1) i ++ [(dot taps xs (taps.length - 1 + i) taps.length).fdiv V] := by
            rw [outs]
            simp only [hP]
            rw [if_pos hc]
          have hlt : (outs ⟨taps, 1 + q, sh⟩ xs n (taps.length - 1) i).length < (outs ⟨taps, 1 + q, sh⟩ xs n (taps.length - 1) M).length := by
            rw [hr, hsn]; simp
          rw [if_neg (by simp; omega), ix_nat _ _ hlt]
          simp only
          rw [ix_nat _ _ (by simp; omega)]
          simp only [List.getElem_map, List.getElem_range]
          have hget : (outs ⟨taps, 1 + q, sh⟩ xs n (taps.length - 1) M)[(outs ⟨taps, 1 + q, sh⟩ xs n (taps.length - 1) i).length] = (dot taps xs (taps.length - 1 + i) taps.length).fdiv V := by
            simp only [hr, hsn]
            rw [List.getElem_append_left (by simp)]
            simp
          rw [hget, if_neg (by simp)]
          unfold law21_FilterLinear_j2
          simp only
          rw [w64_id (by omega) (by omega), w64_id (by omega) (by omega), hsn]
          simp
        · rw [if_neg (by simpa using hc)]
          unfold law21_FilterLinear_j2
          simp only
          rw [w64_id (by omega) (by omega), outs]
          simp only
          rw [if_neg hc]
          simp
      · unfold law21_FilterLinear_l5
        simp only [List.length_map, List.length_range]
        rw [if_neg (by simp), sane_true]
        simp
    rw [hw5]
    rfl

end Go.Proofs.Ytmihimhknllmcaa.Sh

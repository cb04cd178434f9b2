/- The reference's picks as plain programs, on any inputs: they are the program's (chapter 23). -/
import Derived.Test.YtmlekplbmfengaaGreatRefSrc
import Derived.Test.YtmlekplbmfengaaGreatIset
namespace Go.Proofs.YtmlekplbmfengaaGreat.Sh
open Go
set_option linter.unusedVariables false
set_option linter.unusedSimpArgs false
theorem rpvalid_eq (p : Picking) : ref23_Valid p = some (PVB p) := by
  unfold ref23_Valid PVB
  rw [r22valid_eq]
  simp only [rin_eq, Option.bind_some]
  cases DVB p.Detector <;> cases inB p.Back 0 512 <;> cases inB p.Level 0 10000 <;> cases inB p.Floor 0 1073741823 <;> rfl
/-! ### onsets -/
def onR (p : Picking) (l : List Int) (t : Trigger) : Int × Int := if PVB p = false then (0, 1) else if (ratV p.Detector l t.On).2.2 ≠ 0 then (0, (ratV p.Detector l t.On).2.2) else (((onsV p l t.On : Nat) : Int), 0)
theorem ratV_inv {d : Detector} {l : List Int} {on : Int} (h : (ratV d l on).2.2 = 0) : l.length ≤ 65536 ∧ (∀ v ∈ l, -1073741823 ≤ v ∧ v ≤ 1073741823) ∧ d.Long - 1 ≤ on ∧ on < l.length := by
  unfold ratV at h
  split at h
  · simp at h
  · split at h
    · simp at h
    · split at h
      · simp at h
      · next h1 h2 h3 =>
        simp only [Bool.not_eq_false, Bool.and_eq_true, inB_iff] at h3
        exact ⟨by omega, all_smp h3.1, h3.2.1, by omega⟩
theorem Onset_gen (p : Picking) (l : List Int) (t : Trigger) : picker_Onset p l t = some (onR p l t) := by
  unfold onR
  by_cases hp : PVB p = true
  · rw [if_neg (by rw [hp]; decide)]
    by_cases hr : (ratV p.Detector l t.On).2.2 = 0
    · obtain ⟨h1, h2, h3, h4⟩ := ratV_inv hr
      rw [if_neg (by omega), Onset_ok (PVB_iff.1 hp) h1 h2 h3 h4]
    · rw [if_pos hr]
      unfold picker_Onset
      rw [pvalid_eq, hp, Ratio_spec]
      simp only [Option.bind_some, Bool.not_true, Bool.false_eq_true, if_false]
      rw [if_pos (by simpa using hr)]
  · rw [Bool.not_eq_true] at hp
    rw [if_pos hp]
    unfold picker_Onset
    rw [pvalid_eq, hp]
    rfl
theorem rOnset_gen (p : Picking) (l : List Int) (t : Trigger) : ref23_Onset p l t = some (onR p l t) := by
  unfold onR ref23_Onset
  rw [rpvalid_eq]
  simp only [Option.bind_some]
  by_cases hp : PVB p = true
  · rw [if_neg (show ¬ PVB p = false by rw [hp]; decide), hp]
    simp only [Bool.not_true, Bool.false_eq_true, if_false]
    rw [rRatio_spec]
    simp only [Option.bind_some]
    by_cases hr : (ratV p.Detector l t.On).2.2 = 0
    · obtain ⟨h1, h2, h3, h4⟩ := ratV_inv hr
      have hP := PVB_iff.1 hp
      have d1 := hP.d.s1; have d2 := hP.d.sl
      have b0 := hP.b0; have b1 := hP.b1
      rw [if_neg (by simp [hr]), if_neg (show ¬ (ratV p.Detector l t.On).2.2 ≠ 0 by omega)]
      rw [ratV_ok hP.d h1 h2 h3 h4]
      rw [w64_id (x := t.On - 1) (by omega) (by omega)]
      obtain ⟨on, hon⟩ := Int.eq_ofNat_of_zero_le (show 0 ≤ t.On by omega)
      have lb := lgS_bd hP.d h2 t.On
      have key : ∀ m : Nat, fst0 p t.On ≤ m → (m : Int) ≤ t.On → whileM (ref23_Onset_l1 p l t (win (absL l) (t.On.toNat + 1) p.Detector.Short.toNat, lgS p.Detector l t.On, 0)) ((m : Int), (m : Int) - 1) = some ((ons (qB p l (lgS p.Detector l t.On)) (fst0 p t.On) m : Nat) : Int) := by
        have hf : (fst0 p t.On : Int) = max (t.On - p.Back) 0 := by unfold fst0; omega
        intro m
        induction m with
        | zero =>
          intro g1 g2
          rw [whileM_eq]
          unfold ref23_Onset_l1
          simp only
          rw [if_neg (by simp)]
          simp [ons]
        | succ m ih =>
          intro g1 g2
          have st : ref23_Onset_l1 p l t (win (absL l) (t.On.toNat + 1) p.Detector.Short.toNat, lgS p.Detector l t.On, 0) (((m + 1 : Nat) : Int), (m : Int)) = some (if m + 1 ≤ fst0 p t.On ∨ qB p l (lgS p.Detector l t.On) m = true then .inr ((m + 1 : Nat) : Int) else .inl ((m : Int), (m : Int) - 1)) := by
            unfold ref23_Onset_l1
            simp only
            rw [w64_id (x := t.On - p.Back) (by omega) (by omega)]
            by_cases hm : m + 1 ≤ fst0 p t.On
            · rw [if_neg (by simp only [Bool.and_eq_true, decide_eq_true_eq]; omega), if_pos (.inl hm)]
            · have hv := h2 _ (List.getElem_mem (show m < l.length by omega))
              have hb := ab_bd hv
              obtain ⟨e1, e2⟩ := q_bd hP hb.1 hb.2 lb.1 lb.2
              have hg : l.getD m 0 = l[m]'(by omega) := getD_at' (by omega)
              have hq : qB p l (lgS p.Detector l t.On) m = decide (100 * p.Detector.Long * ab (l[m]'(by omega)) ≤ p.Level * lgS p.Detector l t.On) := by unfold qB; rw [hg]
              rw [if_pos (by simp only [Bool.and_eq_true, decide_eq_true_eq]; omega), ix_nat _ _ (show m < l.length by omega)]
              simp only [Option.bind_some]
              rw [rabs_eq hv]
              simp only [Option.bind_some]
              rw [e1, e2, hq]
              by_cases hc : decide (100 * p.Detector.Long * ab (l[m]'(by omega)) ≤ p.Level * lgS p.Detector l t.On) = true
              · rw [if_pos hc, if_pos (.inr hc)]
              · rw [if_neg hc, if_neg (fun h => h.elim hm hc), w64_id (x := (m : Int) - 1) (by omega) (by omega)]
          rw [whileM_eq, show ((m + 1 : Nat) : Int) - 1 = (m : Int) by omega, st]
          unfold ons
          by_cases hm : m + 1 ≤ fst0 p t.On
          · rw [if_pos (.inl hm), if_pos hm]; rfl
          · by_cases hc : qB p l (lgS p.Detector l t.On) m = true
            · rw [if_pos (.inr hc), if_neg hm, if_pos hc]; rfl
            · rw [if_neg (fun h => h.elim hm hc), if_neg hm, if_neg hc]
              simp only [Option.bind_some]
              exact ih (by omega) (by omega)
      have hk := key on (by unfold fst0; omega) (by omega)
      rw [← hon] at hk
      rw [hk]
      simp only [Option.bind_some, Option.some.injEq, Prod.mk.injEq, and_true]
      unfold onsV
      rw [hon]
      rfl
    · rw [if_pos (by simpa using hr), if_pos hr]
  · rw [Bool.not_eq_true] at hp
    rw [if_pos hp, hp]
    rfl
/-! ### segments -/
theorem rvseg_eq {g : Segment} (hl : g.Samples.length ≤ 1000000000) : ref16_ValidSegment g = some (recB (bodyR g)) := by
  unfold ref16_ValidSegment ref16_asRecord
  simp only [Option.bind_some]
  have h1 : SrcSm (⟨(⟨#[65]⟩ : ByteArray), (⟨#[65]⟩ : ByteArray), ByteArray.empty, (⟨#[65, 65, 65]⟩ : ByteArray)⟩ : SourceID) := ⟨by decide, by decide, by decide, by decide⟩
  rw [ref14_Valid_eq (r := ⟨(⟨(⟨#[65]⟩ : ByteArray), (⟨#[65]⟩ : ByteArray), ByteArray.empty, (⟨#[65, 65, 65]⟩ : ByteArray)⟩ : SourceID), g.Start, g.First, g.Rate, g.Error, 0, 0, g.Samples⟩) h1 hl]
  simp only [Option.bind_some, Option.some.injEq]
  rw [Bool.eq_iff_iff, recB_iff, recB_iff]
  have s1 : srcB (⟨(⟨#[65]⟩ : ByteArray), (⟨#[65]⟩ : ByteArray), ByteArray.empty, (⟨#[65, 65, 65]⟩ : ByteArray)⟩ : SourceID) = true := by decide
  have s2 : srcB (bodyR g).Source = true := by show srcB (bodyR sg0).Source = true; decide
  exact ⟨fun h => ⟨s2, h.l0, h.l1, h.f0, h.f1, h.e0, h.e1, h.r0, h.r1, h.q0, h.q1, h.rv, h.s0, h.s1, h.te, h.smp⟩, fun h => ⟨s1, h.l0, h.l1, h.f0, h.f1, h.e0, h.e1, h.r0, h.r1, h.q0, h.q1, h.rv, h.s0, h.s1, h.te, h.smp⟩⟩
def segR (p : Picking) (s : SourceID) (g : Segment) : List Pick × Int := if (PVB p && srcB s && recB (bodyR g)) = true then (segV p s g, 0) else ([], 1)
theorem Segment_gen {p : Picking} {s : SourceID} (hs : SrcSm s) {g : Segment} (hl : g.Samples.length ≤ 1000) : picker_Segment p s g = some (segR p s g) := by
  unfold segR
  by_cases h : (PVB p && srcB s && recB (bodyR g)) = true
  · rw [if_pos h]
    simp only [Bool.and_eq_true] at h
    exact Segment_ok (PVB_iff.1 h.1.1) h.1.2 (recB_iff.1 h.2) hl
  · rw [if_neg h]
    unfold picker_Segment
    rw [pvalid1_eq hs (by omega)]
    rw [Bool.not_eq_true] at h
    rw [h]
    rfl
theorem rtime_eq {g : Segment} (hg : RF (bodyR g)) {i : Int} (i0 : 0 ≤ i) (i1 : i ≤ g.Samples.length) : ref23_time g i = some (tmG g i) := by
  have f0 : 0 ≤ g.First := hg.f0
  have f1 : g.First + g.Samples.length ≤ 16777216 := hg.f1
  unfold ref23_time
  rw [w64_id (by omega) (by omega), ref02_Time_eq]
  have := hg.timeV (i := i) i0 i1
  simp only [Option.bind_some]
  rw [show timeV g.Start g.Rate (g.First + i) = (timeR (bodyR g) i, 0) from this]; rfl
theorem rsign_eq (n : Int) : ref23_sign n = some (cmpI n 0) := by
  unfold ref23_sign cmpI
  by_cases h1 : n < 0
  · simp [h1]
  · by_cases h2 : 0 < n
    · simp [h1, h2]
    · simp [h1, h2]
theorem rSegment_gen {p : Picking} {s : SourceID} (hs : SrcSm s) {g : Segment} (hl : g.Samples.length ≤ 1000) : ref23_Segment p s g = some (segR p s g) := by
  unfold ref23_Segment segR
  rw [rpvalid_eq, ref03_Valid_eq hs, rvseg_eq (by omega)]
  simp only [Option.bind_some]
  by_cases h : (PVB p && srcB s && recB (bodyR g)) = true
  case neg =>
    rw [if_neg h]
    rw [Bool.not_eq_true] at h
    revert h
    cases PVB p <;> cases srcB s <;> cases recB (bodyR g) <;> intro h <;> first | rfl | cases h
  rw [if_pos h]
  simp only [Bool.and_eq_true] at h
  obtain ⟨⟨h1, h2⟩, h3⟩ := h
  rw [h1, h2, h3]
  have hp := PVB_iff.1 h1
  have hg := recB_iff.1 h3
  have hsm : ∀ v ∈ g.Samples, -1073741823 ≤ v ∧ v ≤ 1073741823 := smpB_iff.1 hg.smp
  have hX := absL_XV hsm
  have hlen : (trAll p.Detector (absL g.Samples) g.Samples.length).length ≤ g.Samples.length + 1 := by
    have := trAll_len hp.d hX
    rw [absL_len] at this
    exact this
  simp only [Option.bind_some, Bool.not_true, Bool.false_eq_true, if_false]
  rw [rRun_spec]
  simp only [Option.bind_some]
  have hrun : runV p.Detector g.Samples = (trAll p.Detector (absL g.Samples) g.Samples.length, 0) := by
    unfold runV runR
    rw [if_neg (by rw [DVB_iff.2 hp.d]; decide), if_neg (by omega), if_neg, if_neg (by omega)]
    have : g.Samples.all SmpB = true := List.all_eq_true.2 fun v hv => SmpB_iff.2 (hsm v hv)
    rw [this]; decide
  rw [hrun]
  simp only [bne_self_eq_false, Bool.false_eq_true, if_false]
  generalize hT : trAll p.Detector (absL g.Samples) g.Samples.length = T at *
  have hw : whileM (ref23_Segment_l1 p s g (T, 0)) (([] : List Pick), 0) = some ((T.filter (loudB p)).map (pickV p s g)) := by
    refine whileM_for' (fun i => (((T.take i).filter (loudB p)).map (pickV p s g), (i : Int))) T.length _ (by simp) (fun i hi => ?_) ?_
    · have hm : T[i] ∈ trAll p.Detector (absL g.Samples) (absL g.Samples).length := by rw [absL_len, hT]; exact List.getElem_mem _
      have ht := trAll_mem hp.d hX hm
      rw [absL_len] at ht
      have hfl : ((T.take i).filter (loudB p)).length ≤ i := Nat.le_trans (List.length_filter_le _ _) (List.length_take_le _ _)
      have hone : (T.take (i + 1)).filter (loudB p) = (T.take i).filter (loudB p) ++ [T[i]].filter (loudB p) := by rw [take_one hi, List.filter_append]
      obtain ⟨x, hx⟩ : ∃ x, T[i] = x := ⟨_, rfl⟩
      rw [hx] at ht hone
      have d1 := hp.d.s1; have d2 := hp.d.sl
      have hb : (if decide (x.Off < 0) = true then some true else (some x).bind fun x467 => some (decide (x467.Peak < p.Floor))) = some (!(loudB p x)) := by
        have : (decide (x.Off < 0) || decide (x.Peak < p.Floor)) = !(loudB p x) := by
          unfold loudB
          rw [Bool.eq_iff_iff]
          simp only [Bool.or_eq_true, decide_eq_true_eq, Bool.not_eq_true', Bool.and_eq_false_iff, bne_eq_false_iff_eq, decide_eq_false_iff_not]
          omega
        rw [← this]
        by_cases hc : x.Off < 0
        · simp [hc]
        · simp [hc]
      unfold ref23_Segment_l1
      simp only
      rw [if_pos (decide_eq_true (by omega)), ix_nat _ _ hi, hx]
      simp only [Option.bind_some] at hb ⊢
      rw [hb, hone]
      simp only [Option.bind_some]
      unfold ref23_Segment_j1
      simp only
      rw [w64_id (x := (i : Int) + 1) (by omega) (by omega)]
      by_cases hc : loudB p x = true
      · rw [hc, List.filter_cons_of_pos hc]
        simp only [Bool.not_true, Bool.false_eq_true, if_false]
        rw [rOnset_gen]
        have hon : onR p g.Samples x = (((onsV p g.Samples x.On : Nat) : Int), 0) := by
          unfold onR
          rw [if_neg (by rw [h1]; decide), if_neg (by rw [ratV_ok hp.d (by omega) hsm ht.1 ht.2.1]; simp)]
        rw [hon]
        simp only [Option.bind_some]
        have hob := onsV_bd hp (l := g.Samples) (on := x.On) (by omega)
        have e0 : 0 ≤ g.Error := hg.e0
        have e1 : g.Error ≤ 1099511627776 := hg.e1
        have t1 := tm_bd hg (i := max ((onsV p g.Samples x.On : Int) - 1) 0) (by omega) (by omega)
        have t2 := tm_bd hg (i := x.On) (by omega) (by omega)
        rw [w64_id (x := (onsV p g.Samples x.On : Int) - 1) (by omega) (by omega), rtime_eq hg (by omega) (by omega), rtime_eq hg (by omega) (by omega), rtime_eq hg (by omega) (by omega), ix_nat _ _ (show onsV p g.Samples x.On < g.Samples.length by omega)]
        simp only [Option.bind_some]
        rw [rsign_eq]
        simp only [Option.bind_some]
        rw [w64_id (x := tmG g _ - g.Error) (by omega) (by omega), w64_id (x := tmG g _ + g.Error) (by omega) (by omega), appM_one _ _ _ (by simp; omega) (by decide)]
        simp only [Option.bind_some]
        have hgd := getD_at' (show onsV p g.Samples x.On < g.Samples.length by omega)
        rw [List.map_append, List.filter_nil, List.map_cons, List.map_nil]
        unfold pickV
        rw [hgd, Int.max_comm 0]
        rfl
      · rw [List.filter_cons_of_neg hc]
        rw [Bool.not_eq_true] at hc
        rw [hc]
        simp
    · unfold ref23_Segment_l1
      simp only
      rw [if_neg (by simp), List.take_length]
  rw [hw]
  simp only [Option.bind_some]
  unfold segV
  rw [hT]
/-! ### orders -/
theorem rCompare_eq (a b : Pick) : ref23_Compare a b = some (cmpP a b) := by
  unfold ref23_Compare
  rw [rcmpSrc_eq]
  simp only [Option.bind_some]
  unfold cmpP andThen
  by_cases h0 : cmpSrc a.Source b.Source = 0
  · rw [if_neg (by simp [h0]), if_neg (show ¬ ((fun a b : Pick => cmpSrc a.Source b.Source) a b ≠ 0) from fun h => h h0)]
    rw [first_loop (l := [cmpI a.Time b.Time, cmpI a.Early b.Early, cmpI a.Late b.Late, cmpI a.Amplitude b.Amplitude, cmpI a.Polarity b.Polarity]) (f := id) (z := 0) (by simp)]
    · simp only [fstV_cons, fstV_nil, id, Option.some.injEq]
      refine or_cong (or_cong (or_cong (or_cong ?_)))
      split <;> omega
    · intro i hi hx
      unfold ref23_Compare_l2
      rw [if_pos (decide_eq_true (by simp at hi; omega)), ix_nat _ _ (by simpa using hi)]
      simp only [Option.bind_some]
      simp only [List.length_cons, List.length_nil] at hi
      have : i = 0 ∨ i = 1 ∨ i = 2 ∨ i = 3 ∨ i = 4 := by omega
      rcases this with rfl | rfl | rfl | rfl | rfl <;> (have := cmpI_eq hx; simp only [List.getElem_cons_zero, List.getElem_cons_succ] at this ⊢; rw [if_neg (by simp; omega), if_neg (by simp; omega), w64_id (by omega) (by omega)]; rfl)
    · intro i hi hx
      unfold ref23_Compare_l2
      rw [if_pos (decide_eq_true (by simp at hi; omega)), ix_nat _ _ (by simpa using hi)]
      simp only [Option.bind_some, id]
      simp only [List.length_cons, List.length_nil] at hi
      have : i = 0 ∨ i = 1 ∨ i = 2 ∨ i = 3 ∨ i = 4 := by omega
      have hc : ∀ u v : Int, cmpI u v ≠ 0 → (if decide (u < v) = true then some (Sum.inr (-1)) else if decide (v < u) = true then some (Sum.inr 1) else some (Sum.inl (w64 ((i : Int) + 1)))) = (some (Sum.inr (cmpI u v)) : Option (Int ⊕ Int)) := fun u v h => by
        unfold cmpI at h ⊢
        by_cases h1 : u < v
        · simp [h1]
        · by_cases h2 : v < u
          · simp [h1, h2]
          · simp [h1, h2] at h
      rcases this with rfl | rfl | rfl | rfl | rfl <;> exact hc _ _ hx
    · intro _
      unfold ref23_Compare_l2
      rw [if_neg (by simp)]
      rfl
  · rw [if_pos (by simpa using h0), if_pos h0]
theorem natpred {k : Nat} (h : 0 < k) : (k : Int) - 1 = ((k - 1 : Nat) : Int) := by omega
open Classical in
theorem rSort_eq {l : List Pick} (hl : l.length ≤ 100000) : ref23_Sort l = some (sset cmpP l) := by
  unfold ref23_Sort
  have hw : whileM (ref23_Sort_l3 l) (([] : List Pick), 0) = some (sset cmpP l) := by
    refine whileM_for' (fun i => (sset cmpP (l.take i), (i : Int))) l.length _ (by simp [sset]) (fun i hi => ?_) ?_
    · have hsl := sset_len cmpP (l.take i)
      rw [List.length_take] at hsl
      obtain ⟨o, ho⟩ : ∃ o, sset cmpP (l.take i) = o := ⟨_, rfl⟩
      obtain ⟨x, hx⟩ : ∃ x, l[i] = x := ⟨_, rfl⟩
      have hpw := sset_pw cmpP_cmp cmpP_eq (l.take i)
      rw [take_one hi, sset_snoc cmpP_cmp cmpP_eq, hx]
      rw [ho] at hsl hpw ⊢
      unfold ref23_Sort_l3
      simp only
      rw [if_pos (decide_eq_true (by omega))]
      simp only [Option.bind_some]
      obtain ⟨k, ek, k1, k2, k3⟩ := down_find (c := cmpP) (body := ref23_Sort_l6 l (o, (i : Int))) o x (by omega) (fun k hk => by
        unfold ref23_Sort_l6
        simp only
        rw [if_pos (decide_eq_true (by omega)), w64_id (by omega) (by omega), show ((k + 1 : Nat) : Int) - 1 = (k : Int) by omega, ix_nat _ _ hk, ix_nat _ _ hi, hx]
        simp only [Option.bind_some]
        rw [rCompare_eq]
        simp only [Option.bind_some]
        by_cases hc : 0 < cmpP o[k] x
        · rw [if_pos (decide_eq_true hc), if_pos hc]
        · rw [if_neg (by simpa using hc), if_neg hc]) (by
        unfold ref23_Sort_l6
        simp)
      rw [ek]
      simp only [Option.bind_some]
      obtain ⟨q1, q2⟩ := insC_at cmpP_cmp cmpP_eq (x := x) hpw k1 k2 k3
      clear k2 k3
      have hcond : (if decide ((0 : Int) < (k : Int)) = true then (ix o (w64 ((k : Int) - 1))).bind fun x1031 => (ix l (i : Int)).bind fun x1044 => some (eqP x1031 x1044) else some false) = some (decide (0 < k ∧ o[k - 1]? = some x)) := by
        by_cases hk0 : 0 < k
        · have hkl : k - 1 < o.length := by omega
          rw [if_pos (decide_eq_true (by omega)), w64_id (by omega) (by omega), natpred hk0, ix_nat _ _ hkl, ix_nat _ _ hi, hx]
          simp only [Option.bind_some, Option.some.injEq]
          rw [Bool.eq_iff_iff, eqP_iff, decide_eq_true_iff, some_at hkl, Option.some.injEq]
          exact ⟨fun h => ⟨hk0, h⟩, fun h => h.2⟩
        · rw [if_neg (by simp; omega)]
          have : ¬ (0 < k ∧ o[k - 1]? = some x) := fun h => hk0 h.1
          rw [decide_eq_false this]
      have hbody : ∀ c : Bool, (c = true → insC cmpP x o = o) → (c = false → insC cmpP x o = o.take k ++ x :: o.drop k) → (if c = true then ref23_Sort_j1 (o, (i : Int)) o else (ix l (i : Int)).bind fun x1090 => (appM 104 o ([x1090] : List Pick)).bind fun l1104 => (subM l1104 (w64 ((k : Int) + 1)) (l1104.length : Int)).bind fun l1112 => (subM l1104 (k : Int) (l1104.length : Int)).bind fun l1117 => (some (copyM l1104 (w64 ((k : Int) + 1)) (l1104.length : Int) l1117)).bind fun l1118 => (ix l (i : Int)).bind fun x1128 => (ix l1118 (k : Int)).bind fun x1136 => (setM l1118 (k : Int) x1128).bind fun l1148 => ref23_Sort_j1 (o, (i : Int)) l1148) = some (Sum.inl (insC cmpP x o, ((i + 1 : Nat) : Int))) := by
        intro c c1 c2
        unfold ref23_Sort_j1
        simp only
        rw [w64_id (x := (i : Int) + 1) (by omega) (by omega)]
        cases c with
        | true =>
          rw [if_pos rfl, c1 rfl]
          rfl
        | false =>
          rw [if_neg (by decide), ix_nat _ _ hi, hx]
          simp only [Option.bind_some]
          rw [appM_one _ _ _ (by simp; omega) (by decide), w64_id (x := (k : Int) + 1) (by omega) (by omega)]
          simp only [Option.bind_some]
          obtain ⟨g1, g2, q, eq, hq, hset⟩ := insert_mem (s := o) (x := x) k1 (by omega)
          have ek1 : (k : Int) + 1 = ((k + 1 : Nat) : Int) := by omega
          rw [ek1, g1]
          simp only [Option.bind_some]
          rw [g2]
          simp only [Option.bind_some]
          rw [← eq, ix_nat _ _ hq]
          simp only [Option.bind_some]
          rw [setM_at _ _ _ (by omega) (by omega), Int.toNat_natCast, hset, c2 rfl]
          rfl
      refine Eq.trans ?_ (hbody (decide (0 < k ∧ o[k - 1]? = some x)) (fun h => ?_) (fun h => ?_))
      · exact congrArg (fun z : Option Bool => z.bind fun c1055 => (if c1055 = true then ref23_Sort_j1 (o, (i : Int)) o else (ix l (i : Int)).bind fun x1090 => (appM 104 o ([x1090] : List Pick)).bind fun l1104 => (subM l1104 (w64 ((k : Int) + 1)) (l1104.length : Int)).bind fun l1112 => (subM l1104 (k : Int) (l1104.length : Int)).bind fun l1117 => (some (copyM l1104 (w64 ((k : Int) + 1)) (l1104.length : Int) l1117)).bind fun l1118 => (ix l (i : Int)).bind fun x1128 => (ix l1118 (k : Int)).bind fun x1136 => (setM l1118 (k : Int) x1128).bind fun l1148 => ref23_Sort_j1 (o, (i : Int)) l1148)) hcond
      · have h := of_decide_eq_true h
        obtain ⟨hkl, e⟩ := at_some h.2
        exact q1 ⟨hkl, h.1, e⟩
      · have h := of_decide_eq_false h
        refine q2 ?_
        by_cases hk0 : k = 0
        · exact .inl hk0
        · have hkl : k - 1 < o.length := by omega
          exact .inr ⟨hkl, by omega, fun e => h ⟨by omega, by rw [some_at hkl, e]⟩⟩
    · unfold ref23_Sort_l3
      simp only
      rw [if_neg (by simp), List.take_length]
  rw [hw]
  rfl
/-! ### several segments -/
def runRR (p : Picking) (s : SourceID) (l : List Segment) : List Pick × Int := if (PVB p && srcB s && l.all fun g => recB (bodyR g)) = true then (sset cmpP (segsV p s l), 0) else ([], 1)
theorem Run_gen {p : Picking} {s : SourceID} (hs : SrcSm s) {l : List Segment} (hl : l.length ≤ 8) (hg : ∀ g ∈ l, g.Samples.length ≤ 61) : picker_Run p s l = some (runRR p s l) := by
  unfold runRR
  by_cases h : (PVB p && srcB s && l.all fun g => recB (bodyR g)) = true
  · rw [if_pos h]
    simp only [Bool.and_eq_true] at h
    exact Run_ok (PVB_iff.1 h.1.1) h.1.2 hl fun g hm => ⟨recB_iff.1 (List.all_eq_true.1 h.2 g hm), hg g hm⟩
  · rw [if_neg h]
    unfold picker_Run
    rw [pvalid_all hs (by omega) (fun g hm => by have := hg g hm; omega)]
    rw [Bool.not_eq_true] at h
    rw [h]
    rfl
theorem rRun_gen {p : Picking} {s : SourceID} (hs : SrcSm s) {l : List Segment} (hl : l.length ≤ 8) (hg : ∀ g ∈ l, g.Samples.length ≤ 61) : ref23_Run p s l = some (runRR p s l) := by
  unfold ref23_Run runRR
  rw [rpvalid_eq, ref03_Valid_eq hs]
  simp only [Option.bind_some]
  by_cases h1 : PVB p = true
  case neg => rw [Bool.not_eq_true] at h1; rw [h1]; rfl
  by_cases h2 : srcB s = true
  case neg => rw [Bool.not_eq_true] at h2; rw [h1, h2]; rfl
  rw [h1, h2]
  simp only [Bool.not_true, Option.bind_some, Bool.false_eq_true, if_false, Bool.true_and]
  have hp := PVB_iff.1 h1
  -- all segments are valid, or one is not
  have hinner : (l.all fun g => recB (bodyR g)) = true → whileM (ref23_Run_l4 p s l) (([] : List Pick), 0) = some (sset cmpP (segsV p s l), 0) := by
    intro hall
    have hrf : ∀ g ∈ l, RF (bodyR g) ∧ g.Samples.length ≤ 61 := fun g hm => ⟨recB_iff.1 (List.all_eq_true.1 hall g hm), hg g hm⟩
    have hlen := segsV_len hp (s := s) hrf
    have hss := sset_len cmpP (segsV p s l)
    refine whileM_for' (fun i => (segsV p s (l.take i), (i : Int))) l.length _ (by simp [segsV]) (fun i hi => ?_) ?_
    · have g1 := hrf _ (List.getElem_mem hi)
      have g2 := segsV_len hp (s := s) (l := l.take i) fun g h => hrf g (List.mem_of_mem_take h)
      have g3 := segV_len hp (s := s) g1.1
      rw [List.length_take] at g2
      unfold ref23_Run_l4
      simp only
      rw [if_pos (decide_eq_true (by omega)), ix_nat _ _ hi]
      simp only [Option.bind_some]
      rw [rSegment_gen hs (by omega)]
      have e : segR p s l[i] = (segV p s l[i], 0) := by unfold segR; rw [h1, h2, recB_iff.2 g1.1]; rfl
      rw [e]
      simp only [Option.bind_some, bne_self_eq_false, Bool.false_eq_true, if_false]
      rw [appM_one _ _ _ (by omega) (by decide)]
      simp only [Option.bind_some]
      rw [w64_id (by omega) (by omega), take_one hi, segsV_app]
      simp only [segsV, List.append_nil]
      rfl
    · unfold ref23_Run_l4
      simp only
      rw [if_neg (by simp), List.take_length, rSort_eq (by omega)]
      simp only [Option.bind_some]
      rw [if_neg (by simp; omega)]
      rfl
  have key : ∀ m, m ≤ l.length → (∀ j (hj : j < l.length), j < l.length - m → recB (bodyR l[j]) = true) → whileM (ref23_Run_l2 p s l) ((l.length - m : Nat) : Int) = some (if (l.all fun g => recB (bodyR g)) = true then (sset cmpP (segsV p s l), 0) else ([], 1)) := by
    intro m
    induction m with
    | zero =>
      intro _ hj
      have hall : (l.all fun g => recB (bodyR g)) = true := List.all_eq_true.2 fun g hm => by
        obtain ⟨j, hjl, e⟩ := List.mem_iff_getElem.1 hm
        have := hj j hjl (by omega)
        rw [e] at this; exact this
      rw [whileM_eq, Nat.sub_zero]
      unfold ref23_Run_l2
      rw [if_neg (by simp), hinner hall, if_pos hall]
      rfl
    | succ m ih =>
      intro hm hj
      obtain ⟨i, hi⟩ : ∃ i, l.length - (m + 1) = i := ⟨_, rfl⟩
      have hi' : l.length - m = i + 1 := by omega
      rw [hi'] at ih
      rw [hi] at hj ⊢
      have hil : i < l.length := by omega
      rw [whileM_eq]
      unfold ref23_Run_l2
      rw [if_pos (decide_eq_true (by omega)), ix_nat _ _ hil]
      simp only [Option.bind_some]
      rw [rvseg_eq (by have := hg _ (List.getElem_mem hil); omega)]
      simp only [Option.bind_some]
      cases hr : recB (bodyR l[i]) with
      | true =>
        simp only [Bool.not_true, Bool.false_eq_true, if_false, Option.bind_some]
        rw [w64_id (by omega) (by omega)]
        refine ih (by omega) fun j hjl hji => ?_
        by_cases e : j = i
        · subst e; exact hr
        · exact hj j hjl (by omega)
      | false =>
        have : (l.all fun g => recB (bodyR g)) = false := by
          rw [List.all_eq_false]
          exact ⟨l[i], List.getElem_mem hil, by rw [hr]; decide⟩
        rw [this]
        rfl
  have := key l.length (Nat.le_refl _) (fun j _ hj => by omega)
  rw [Nat.sub_self] at this
  exact this
theorem rValidPick_eq {x : Pick} (hs : SrcSm x.Source) : ref23_ValidPick x = picker_ValidPick x := by
  unfold ref23_ValidPick picker_ValidPick
  rw [ref03_Valid_eq hs, source_Valid_eq hs]
  rfl
end Go.Proofs.YtmlekplbmfengaaGreat.Sh

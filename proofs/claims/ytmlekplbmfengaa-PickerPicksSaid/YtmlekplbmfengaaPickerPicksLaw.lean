/- The law PickerPicks as a plain program: it is true at every input. -/
import Derived.Test.YtmlekplbmfengaaLevels
import Derived.Test.YtmlekplbmfengaaPickSort
import Derived.Test.YtmlekplbmfengaaRateRef
namespace Go.Proofs.Ytmlekplbmfengaa.Sh
open Go
set_option linter.unusedVariables false
set_option linter.unusedSimpArgs false

theorem cmpI_range (a b : Int) : -1 ≤ cmpI a b ∧ cmpI a b ≤ 1 := by unfold cmpI; split <;> (try split) <;> omega
theorem pick_vp {p : Picking} (hp : PV p) {s : SourceID} (hs : srcB s = true) {g : Segment} (hg : RF (bodyR g)) {t : Trigger} (h0 : p.Detector.Long - 1 ≤ t.On) (h1 : t.On < g.Samples.length) (k0 : 0 ≤ t.Peak) (k1 : t.Peak ≤ 1073741823) : picker_ValidPick (pickV p s g t) = some true := by
  have d1 := hp.d.s1; have d2 := hp.d.sl
  have hb := onsV_bd hp (l := g.Samples) (on := t.On) (by omega)
  have e0 : 0 ≤ g.Error := hg.e0
  have e1 : g.Error ≤ 1099511627776 := hg.e1
  obtain ⟨n, hn⟩ : ∃ n, onsV p g.Samples t.On = n := ⟨_, rfl⟩
  rw [hn] at hb
  have t1 := tm_bd hg (i := max ((n : Int) - 1) 0) (by omega) (by omega)
  have t2 := tm_bd hg (i := (n : Int)) (by omega) (by omega)
  have t3 := tm_bd hg (i := t.On) (by omega) (by omega)
  have m1 := tm_mono hg (i := max ((n : Int) - 1) 0) (j := (n : Int)) (by omega)
  have m2 := tm_mono hg (i := (n : Int)) (j := t.On) (by omega)
  have hc := cmpI_range (g.Samples.getD n 0) 0
  unfold picker_ValidPick pickV
  simp only
  rw [hn, source_Valid_eq (srcB_sm hs), hs]
  simp only [Option.bind_some, pin_eq]
  rw [decide_eq_true (show (0 : Int) ≤ max 0 (tmG g (max ((n : Int) - 1) 0) - g.Error) by omega), decide_eq_true (show max 0 (tmG g (max ((n : Int) - 1) 0) - g.Error) ≤ tmG g (n : Int) by omega), decide_eq_true (show tmG g (n : Int) ≤ min (tmG g t.On + g.Error) 18014398509481984 by omega), decide_eq_true (show min (tmG g t.On + g.Error) (18014398509481984 : Int) ≤ 18014398509481984 by omega), inB_true k0 k1, inB_true hc.1 hc.2]
  rfl
theorem law23_PickerPicks_true (t : List Int) : law23_PickerPicks t = some true := by
  unfold law23_PickerPicks
  rw [light_spec]
  simp only [Option.bind_some]
  by_cases hl : t.length ≤ 500
  case neg => rw [decide_eq_false hl, sane_true]; rfl
  rw [decide_eq_true hl]
  simp only [Bool.not_true, Bool.false_eq_true, if_false, made_Roll, Option.bind_some]
  obtain ⟨p, d1, e1, hp, hd1⟩ := dpicking_spec (DOK.roll hl)
  obtain ⟨s, d2, e2, hs, hd2⟩ := dsource_spec hd1
  obtain ⟨g, d3, e3, hg, hd3⟩ := dsegment_spec hd2 (n := 60) (by decide) (by decide)
  have hP := hp.pv
  have hG := hg.rf
  obtain ⟨w1, w2, w3⟩ := hg.wv
  rw [e1]; simp only [Option.bind_some]
  rw [e2]; simp only [Option.bind_some]
  rw [e3]; simp only [Option.bind_some]
  have hsm : ∀ v ∈ g.Samples, -1073741823 ≤ v ∧ v ≤ 1073741823 := fun v hv => by have := w3 v hv; omega
  have hX := absL_XV hsm
  have q1 := hP.d.s1; have q2 := hP.d.sl
  have b0 := hP.b0; have b1 := hP.b1
  have hlen := trAll_len hP.d hX
  rw [absL_len] at hlen
  have hrun : runV p.Detector g.Samples = (trAll p.Detector (absL g.Samples) g.Samples.length, 0) := by
    unfold runV runR
    rw [if_neg (by rw [DVB_iff.2 hP.d]; decide), if_neg (by omega), if_neg, if_neg (by omega)]
    have : g.Samples.all SmpB = true := List.all_eq_true.2 fun v hv => SmpB_iff.2 (hsm v hv)
    rw [this]; decide
  have hsg : segsV p s [g] = segV p s g := by simp [segsV]
  rw [Run_ok hP hs (l := [g]) (by simp) (fun x hx => by rcases List.mem_singleton.1 hx with rfl; exact ⟨hG, by omega⟩), Segment_ok hP hs hG (by omega), rRun_spec, hrun, hsg]
  simp only [Option.bind_some, bne_self_eq_false, Bool.or_self, Bool.false_eq_true, if_false]
  have hmem : ∀ x ∈ trAll p.Detector (absL g.Samples) g.Samples.length, p.Detector.Long - 1 ≤ x.On ∧ x.On < g.Samples.length ∧ (x.Off = -1 ∨ x.On < x.Off ∧ x.Off < g.Samples.length) ∧ 0 ≤ x.Peak ∧ x.Peak ≤ 1073741823 := fun x hx => by
    have := trAll_mem hP.d hX (t := x) (by rw [absL_len]; exact hx)
    rw [absL_len] at this
    exact this
  have hsl := segV_len hP (s := s) hG
  have hss := sset_len cmpP (segV p s g)
  have hm : segV p s g = ((trAll p.Detector (absL g.Samples) g.Samples.length).filter (loudB p)).map (pickV p s g) := rfl
  obtain ⟨m, hmm⟩ : ∃ m, segV p s g = m := ⟨_, rfl⟩
  rw [hmm] at hm hsl hss ⊢
  obtain ⟨T, hT⟩ : ∃ T, trAll p.Detector (absL g.Samples) g.Samples.length = T := ⟨_, rfl⟩
  rw [hT] at hmem hlen hm ⊢
  refine whileM_for' (fun i => ((((T.take i).filter (loudB p)).length : Int), (i : Int))) T.length _ (by simp) (fun i hi => ?_) ?_
  · have hx := hmem _ (List.getElem_mem hi)
    have hfl : ((T.take i).filter (loudB p)).length ≤ i := Nat.le_trans (List.length_filter_le _ _) (List.length_take_le _ _)
    have hone : (T.take (i + 1)).filter (loudB p) = (T.take i).filter (loudB p) ++ [T[i]].filter (loudB p) := by rw [take_one hi, List.filter_append]
    unfold law23_PickerPicks_l2
    simp only
    rw [if_pos (decide_eq_true (by omega)), ix_nat _ _ hi]
    simp only [Option.bind_some]
    have hdr : T = T.take i ++ (T[i] :: T.drop (i + 1)) := by
      rw [← List.drop_eq_getElem_cons hi, List.take_append_drop]
    obtain ⟨x, hxe⟩ : ∃ x, T[i] = x := ⟨_, rfl⟩
    rw [hxe] at hx hone hdr ⊢
    have hlb : (decide (x.Off < 0) || decide (x.Peak < p.Floor)) = !(loudB p x) := by
      unfold loudB
      rw [Bool.eq_iff_iff]
      simp only [Bool.or_eq_true, decide_eq_true_eq, Bool.not_eq_true', Bool.and_eq_false_iff, bne_eq_false_iff_eq, decide_eq_false_iff_not]
      omega
    rw [hlb]
    by_cases hc : loudB p x = true
    · rw [hc]
      simp only [Bool.not_true, Bool.false_eq_true, if_false]
      obtain ⟨k, hk⟩ : ∃ k, ((T.take i).filter (loudB p)).length = k := ⟨_, rfl⟩
      have hsp : m = ((T.take i).filter (loudB p)).map (pickV p s g) ++ (pickV p s g x :: ((T.drop (i + 1)).filter (loudB p)).map (pickV p s g)) := by
        rw [hm]
        conv => lhs; rw [hdr]
        rw [List.filter_append, List.filter_cons_of_pos hc, List.map_append, List.map_cons]
      have hkm : k < m.length := by
        rw [hsp, List.length_append, List.length_map, hk, List.length_cons]; omega
      have hix : ix m (k : Int) = some (pickV p s g x) := by
        rw [ix_nat _ _ hkm]
        have : m[k]? = some (pickV p s g x) := by
          rw [hsp, List.getElem?_append_right (by rw [List.length_map, hk]; exact Nat.le_refl _), List.length_map, hk, Nat.sub_self]; rfl
        rw [some_at hkm] at this
        exact this
      rw [hk, if_neg (by simp; omega)]
      rw [w64_id (x := x.On - p.Back) (by omega) (by omega)]
      have f0 : 0 ≤ g.First := hG.f0
      have f1 := hg.f1
      rw [w64_id (x := g.First + x.On) (by omega) (by omega), w64_id (x := g.First + max (x.On - p.Back) 0) (by omega) (by omega), ref02_Time_eq, ref02_Time_eq]
      have tv : ∀ i : Int, 0 ≤ i → i ≤ g.Samples.length → timeV g.Start g.Rate (g.First + i) = (tmG g i, 0) := fun i i0 i1 => hG.timeV (i := i) i0 i1
      rw [tv _ (by omega) (by omega), tv _ (by omega) (by omega), hix]
      simp only [Option.bind_some]
      rw [pick_vp hP hs hG hx.1 hx.2.1 hx.2.2.2.1 hx.2.2.2.2]
      simp only [Option.bind_some]
      have hb := onsV_bd hP (l := g.Samples) (on := x.On) (by omega)
      have er0 : 0 ≤ g.Error := hG.e0
      have er1 := hg.er
      obtain ⟨n, hn⟩ : ∃ n, onsV p g.Samples x.On = n := ⟨_, rfl⟩
      rw [hn] at hb
      have t1 := tm_bd hG (i := max ((n : Int) - 1) 0) (by omega) (by omega)
      have t2 := tm_bd hG (i := (n : Int)) (by omega) (by omega)
      have t3 := tm_bd hG (i := x.On) (by omega) (by omega)
      have m1 := tm_mono hG (i := max ((n : Int) - 1) 0) (j := (n : Int)) (by omega)
      have m2 := tm_mono hG (i := (n : Int)) (j := x.On) (by omega)
      have m3 := tm_mono hG (i := max (x.On - p.Back) 0) (j := (n : Int)) (by omega)
      have m4 : g.Start ≤ tmG g (n : Int) := by
        have h0 := hG.rv.n0
        have h1 := hG.rv.d0
        unfold tmG timeR
        have : 0 ≤ ((bodyR g).First + (n : Int)) * ((bodyR g).Rate.Den * 1000000) / (bodyR g).Rate.Num := Int.ediv_nonneg (Int.mul_nonneg (by show 0 ≤ g.First + (n : Int); omega) (by omega)) (by omega)
        show g.Start ≤ g.Start + _
        omega
      have s0 := hg.s0
      have g1 : (pickV p s g x).Source = s := rfl
      have g2 : (pickV p s g x).Amplitude = x.Peak := rfl
      have g3 : (pickV p s g x).Late = tmG g x.On + g.Error := by
        show min (tmG g x.On + g.Error) 18014398509481984 = _
        omega
      have g4 : (pickV p s g x).Time = tmG g (n : Int) := by show tmG g (onsV p g.Samples x.On) = _; rw [hn]
      have g5 : (pickV p s g x).Early ≤ tmG g (n : Int) - g.Error := by
        show max 0 (tmG g (max ((onsV p g.Samples x.On : Int) - 1) 0) - g.Error) ≤ _
        rw [hn]; omega
      rw [g1, g2, g3, g4, w64_id (x := tmG g x.On + g.Error) (by omega) (by omega), w64_id (x := tmG g (n : Int) - g.Error) (by omega) (by omega)]
      simp only [ba_refl, bne_self_eq_false, Bool.and_self, Bool.not_true, Bool.or_self, Bool.false_or]
      rw [if_neg (by simp only [Bool.or_eq_true, decide_eq_true_eq]; omega)]
      unfold law23_PickerPicks_j1
      simp only
      rw [w64_id (x := (k : Int) + 1) (by omega) (by omega), w64_id (x := (i : Int) + 1) (by omega) (by omega), hone, List.filter_cons_of_pos hc, List.length_append, hk]
      rfl
    · rw [hone, List.filter_cons_of_neg hc]
      simp only [Bool.not_eq_true] at hc
      rw [hc]
      simp only [Bool.not_false, if_true, List.filter_nil, List.append_nil]
      unfold law23_PickerPicks_j1
      simp only
      rw [w64_id (x := (i : Int) + 1) (by omega) (by omega)]
      rfl
  · unfold law23_PickerPicks_l2
    simp only
    rw [if_neg (by simp), List.take_length]
    have hpw := sset_pw cmpP_cmp cmpP_eq m
    obtain ⟨L, hL⟩ : ∃ L, sset cmpP m = L := ⟨_, rfl⟩
    have hfin : whileM (law23_PickerPicks_l4 (L, 0) (m, 0) (((T.filter (loudB p)).length : Int), (T.length : Int))) 1 = some true := by
      rw [hL] at hpw hss
      refine whileM_for' (fun i => ((i + 1 : Nat) : Int)) (L.length - 1) _ rfl (fun i hi => ?_) ?_
      · unfold law23_PickerPicks_l4
        simp only
        rw [if_pos (decide_eq_true (by omega)), w64_id (x := ((i + 1 : Nat) : Int) - 1) (by omega) (by omega), show ((i + 1 : Nat) : Int) - 1 = (i : Int) by omega, ix_nat _ _ (show i < L.length by omega), ix_nat _ _ (show i + 1 < L.length by omega)]
        simp only [Option.bind_some]
        rw [picker_Compare_eq]
        simp only [Option.bind_some]
        have := List.pairwise_iff_getElem.1 hpw i (i + 1) (by omega) (by omega) (by omega)
        rw [if_neg (by simpa using this), w64_id (x := ((i + 1 : Nat) : Int) + 1) (by omega) (by omega)]
        rfl
      · unfold law23_PickerPicks_l4
        simp only
        rw [if_neg (by simp; omega)]
        have e1 : (((T.filter (loudB p)).length : Int) == (m.length : Int)) = true := by rw [hm, List.length_map]; simp
        rw [if_pos e1, picker_Sort_eq (by omega), hL]
        simp only [Option.bind_some]
        rw [psame _ (by omega), sane_true]
        rfl
    rw [hL, hfin]
    rfl

end Go.Proofs.Ytmlekplbmfengaa.Sh

/- The law PickerLevels as a plain program: it is true at every input. -/
import Derived.Test.YtmlekplbmfengaaLevels
namespace Go.Proofs.Ytmlekplbmfengaa.Sh
open Go
set_option linter.unusedVariables false
set_option linter.unusedSimpArgs false

theorem law23_PickerLevels_true (t : List Int) (by' n : Int) (_ : (t.length : Int) ≤ 140737488355328 ∧ ∀ x ∈ t, -9223372036854775808 ≤ x ∧ x ≤ 9223372036854775807) (hb : 0 ≤ by' ∧ by' ≤ 255) (hn : 0 ≤ n ∧ n ≤ 255) : law23_PickerLevels t by' n = some true := by
  unfold law23_PickerLevels
  rw [light_spec]
  simp only [Option.bind_some]
  by_cases hl : t.length ≤ 500
  case neg => rw [decide_eq_false hl, sane_true]; rfl
  rw [decide_eq_true hl]
  simp only [Bool.not_true, Bool.false_eq_true, if_false, made_Roll, Option.bind_some]
  obtain ⟨p, d1, e1, hp, hd1⟩ := dpicking_spec (DOK.roll hl)
  obtain ⟨s, d2, e2, hs, hd2⟩ := dsource_spec hd1
  obtain ⟨g, d3, e3, hg, hd3⟩ := dsegment_spec hd2 (n := 60) (by decide) (by decide)
  have hP := hp.pv
  obtain ⟨u, d4, e4, u0, u1, hd4⟩ := next_spec hd3 (n := 5) (by decide) (by decide)
  have lv := hp.lv
  obtain ⟨v, d5, e5, v0, v1, hd5⟩ := next_spec hd4 (n := p.Level + 1) (by omega) (by omega)
  rw [e1]; simp only [Option.bind_some]
  rw [e2]; simp only [Option.bind_some]
  rw [e3]; simp only [Option.bind_some]
  rw [e4]; simp only [Option.bind_some]
  rw [w64_id (x := p.Level + 1) (by omega) (by omega), e5]
  simp only [Option.bind_some]
  rw [w64_id (x := by') (by omega) (by omega), w64_id (x := n) (by omega) (by omega), w64_id (x := 1 + by') (by omega) (by omega), w64_id (x := 1 + u) (by omega) (by omega)]
  have b0 := hP.b0; have bk := hp.bk
  rw [w64_id (x := p.Back + (1 + u)) (by omega) (by omega)]
  obtain ⟨k, hk⟩ : ∃ k, 1 + by' = k := ⟨_, rfl⟩
  rw [hk]
  have k1 : 1 ≤ k := by omega
  obtain ⟨wl, wn, wv⟩ := hg.wv
  have hG := hg.rf
  have hsm : ∀ v ∈ g.Samples, -1073741823 ≤ v ∧ v ≤ 1073741823 := fun v hv => by have := wv v hv; omega
  -- the louder samples
  have hloud : whileM (law23_PickerLevels_l1 (g, d3) k) (([] : List Int), 0) = some (scL k g.Samples) := by
    refine whileM_for' (fun i => (scL k (g.Samples.take i), (i : Int))) g.Samples.length _ (by simp [scL]) (fun i hi => ?_) ?_
    · have hv := wv _ (List.getElem_mem hi)
      have hm : -(79 * 256) ≤ g.Samples[i] * k ∧ g.Samples[i] * k ≤ 79 * 256 := by
        have h1 : g.Samples[i] * k ≤ 79 * k := Int.mul_le_mul_of_nonneg_right hv.2 (by omega)
        have h2 : -79 * k ≤ g.Samples[i] * k := Int.mul_le_mul_of_nonneg_right hv.1 (by omega)
        omega
      unfold law23_PickerLevels_l1
      simp only
      rw [if_pos (decide_eq_true (by omega)), ix_nat _ _ hi]
      simp only [Option.bind_some]
      rw [w64_id (x := g.Samples[i] * k) (by omega) (by omega), appM_one _ _ _ (by simp [scL]; omega) (by decide)]
      simp only [Option.bind_some]
      rw [w64_id (by omega) (by omega), take_one hi]
      have : scL k (g.Samples.take i ++ [g.Samples[i]]) = scL k (g.Samples.take i) ++ [g.Samples[i] * k] := by unfold scL; rw [List.map_append]; rfl
      rw [this]; rfl
    · unfold law23_PickerLevels_l1
      simp only
      rw [if_neg (by simp), List.take_length]
  rw [hloud]
  simp only [Option.bind_some]
  have hscl : (scL k g.Samples).length = g.Samples.length := by simp [scL]
  have hsc : ∀ v ∈ scL k g.Samples, -1073741823 ≤ v ∧ v ≤ 1073741823 := fun v hv => by
    obtain ⟨y, hy, rfl⟩ := List.mem_map.1 hv
    have hv := wv y hy
    have h1 : y * k ≤ 79 * k := Int.mul_le_mul_of_nonneg_right hv.2 (by omega)
    have h2 : -79 * k ≤ y * k := Int.mul_le_mul_of_nonneg_right hv.1 (by omega)
    omega
  have hGs : RF (bodyR (scG k g)) := seg_rf (g := scG k g) (n := 60) (by decide) hG.s0 (by have := hg.s1; simp only [scG]; omega) hG.f0 hg.f1 hG.rv hg.dn hG.e0 hg.er (by simp only [scG]; omega) (by simp only [scG]; omega) hsc
  -- the five calls
  obtain ⟨P0, hP0⟩ : ∃ P0 : Picking, (⟨p.Detector, p.Back, p.Level, 0⟩ : Picking) = P0 := ⟨_, rfl⟩
  have pv0 : PV P0 := by rw [← hP0]; exact ⟨hP.d, hP.b0, hP.b1, hP.v0, hP.v1, by simp only; omega, by simp only; omega⟩
  have pvh : PV ⟨p.Detector, p.Back, p.Level, n⟩ := ⟨hP.d, hP.b0, hP.b1, hP.v0, hP.v1, hn.1, by simp only; omega⟩
  have pvw : PV ⟨p.Detector, p.Back + (1 + u), p.Level, 0⟩ := ⟨hP.d, by simp only; omega, by simp only; omega, hP.v0, hP.v1, by simp only; omega, by simp only; omega⟩
  have pvl : PV ⟨p.Detector, p.Back, v, 0⟩ := ⟨hP.d, hP.b0, hP.b1, v0, by simp only; omega, by simp only; omega, by simp only; omega⟩
  rw [hP0, Segment_ok pv0 hs hG (by omega), Segment_ok pvh hs hG (by omega), Segment_ok pvw hs hG (by omega), Segment_ok pvl hs hG (by omega)]
  rw [show (⟨g.Start, g.First, g.Rate, g.Error, scL k g.Samples⟩ : Segment) = scG k g from rfl, Segment_ok pv0 hs hGs (by simp only [scG]; omega)]
  simp only [Option.bind_some, bne_self_eq_false, Bool.false_or]
  -- what they tell
  have hX := absL_XV hsm
  have hmem : ∀ t ∈ trAll p.Detector (absL g.Samples) g.Samples.length, p.Detector.Long - 1 ≤ t.On ∧ t.On < g.Samples.length ∧ 0 ≤ t.Peak ∧ t.Peak ≤ 1073741823 := fun t ht => by
    have := trAll_mem hP.d hX (t := t) (by rw [absL_len]; exact ht)
    rw [absL_len] at this
    omega
  have hlen : (trAll p.Detector (absL g.Samples) g.Samples.length).length ≤ 61 := by
    have := trAll_len hP.d hX
    rw [absL_len] at this
    omega
  obtain ⟨T, hT⟩ : ∃ T, trAll p.Detector (absL g.Samples) g.Samples.length = T := ⟨_, rfl⟩
  rw [hT] at hmem hlen
  obtain ⟨F, hF⟩ : ∃ F, T.filter (loudB P0) = F := ⟨_, rfl⟩
  have hd0 : P0.Detector = p.Detector := by rw [← hP0]
  have hf0 : P0.Floor = 0 := by rw [← hP0]
  have eF : ∀ P : Picking, P.Floor = 0 → T.filter (loudB P) = F := fun P hh => by
    rw [← hF]
    refine List.filter_congr fun t _ => ?_
    unfold loudB
    rw [hh, hf0]
  have hFm : ∀ t ∈ F, t ∈ T := fun t ht => by rw [← hF] at ht; exact (List.mem_filter.1 ht).1
  have hFl : F.length ≤ 61 := by rw [← hF]; exact Nat.le_trans (List.length_filter_le _ _) hlen
  have ea : segV P0 s g = F.map (pickV P0 s g) := by unfold segV; rw [hd0, hT, hF]
  have eb : segV ⟨p.Detector, p.Back, p.Level, n⟩ s g = (F.filter (fun t => decide (n ≤ t.Peak))).map (pickV P0 s g) := by
    unfold segV
    simp only
    rw [hT, ← hF, List.filter_filter]
    have : T.filter (loudB ⟨p.Detector, p.Back, p.Level, n⟩) = T.filter (fun t => decide (n ≤ t.Peak) && loudB P0 t) := by
      refine List.filter_congr fun t ht => ?_
      have := (hmem t ht).2.2.1
      unfold loudB
      rw [hf0, decide_eq_true this, Bool.and_true, Bool.and_comm]
    rw [this]
    refine List.map_congr_left fun t _ => ?_
    rw [← hP0]; rfl
  have ec : segV ⟨p.Detector, p.Back + (1 + u), p.Level, 0⟩ s g = F.map (pickV ⟨p.Detector, p.Back + (1 + u), p.Level, 0⟩ s g) := by unfold segV; simp only; rw [hT, eF _ rfl]
  have eq : segV ⟨p.Detector, p.Back, v, 0⟩ s g = F.map (pickV ⟨p.Detector, p.Back, v, 0⟩ s g) := by unfold segV; simp only; rw [hT, eF _ rfl]
  have er : segV P0 s (scG k g) = F.map (fun t => { pickV P0 s g t with Amplitude := t.Peak * k }) := by
    unfold segV
    rw [hd0]
    have : trAll p.Detector (absL (scG k g).Samples) (scG k g).Samples.length = T.map (scT k) := by
      have e1 : (scG k g).Samples = scL k g.Samples := rfl
      rw [e1, absL_sc k1, hscl, trAll_sc k1, hT]
    rw [this, filter_sc k1 P0 hf0 T (fun t ht => (hmem t ht).2.2.1), hF, List.map_map]
    exact List.map_congr_left fun t _ => pickV_sc k1 P0 s g t
  rw [ea, eb, ec, eq, er]
  simp only [List.length_map, bne_self_eq_false, Bool.or_self, Bool.false_eq_true, if_false]
  refine whileM_for' (fun i => (((F.take i).filter (fun t => decide (n ≤ t.Peak))).map (pickV P0 s g), (i : Int))) F.length _ (by simp) (fun i hi => ?_) ?_
  · have hm := hmem _ (hFm _ (List.getElem_mem hi))
    have hfl : ((F.take i).filter (fun t => decide (n ≤ t.Peak))).length ≤ i := Nat.le_trans (List.length_filter_le _ _) (List.length_take_le _ _)
    obtain ⟨x, hx⟩ : ∃ x, F[i] = x := ⟨_, rfl⟩
    rw [hx] at hm
    have d1 := hP.d.s1; have d2 := hP.d.sl
    have ix1 : ∀ (f : Trigger → Pick), ix (F.map f) (i : Int) = some (f x) := fun f => by rw [ix_nat _ _ (by simpa using hi)]; simp [hx]
    have hle1 : tmG g (onsV ⟨p.Detector, p.Back + (1 + u), p.Level, 0⟩ g.Samples x.On) ≤ tmG g (onsV P0 g.Samples x.On) := by
      refine tm_mono hG ?_
      have : onsV ⟨p.Detector, p.Back + (1 + u), p.Level, 0⟩ g.Samples x.On ≤ onsV P0 g.Samples x.On := by
        unfold onsV
        rw [← hP0]
        exact ons_le (by unfold fst0; simp only; omega) (by unfold fst0; simp only; omega) (fun j _ h => h)
      omega
    have hle2 : tmG g (onsV ⟨p.Detector, p.Back, v, 0⟩ g.Samples x.On) ≤ tmG g (onsV P0 g.Samples x.On) := by
      refine tm_mono hG ?_
      have : onsV ⟨p.Detector, p.Back, v, 0⟩ g.Samples x.On ≤ onsV P0 g.Samples x.On := by
        unfold onsV
        rw [← hP0]
        refine ons_le (Nat.le_refl _) (by unfold fst0; simp only; omega) (fun j _ h => ?_)
        have hlg := lgS_bd hP.d hsm x.On
        unfold qB at h ⊢
        simp only [decide_eq_true_eq] at h ⊢
        have : v * lgS p.Detector g.Samples x.On ≤ p.Level * lgS p.Detector g.Samples x.On := Int.mul_le_mul_of_nonneg_right (by omega) hlg.1
        omega
      omega
    have hpk : 0 ≤ x.Peak * k ∧ x.Peak * k ≤ 1073741823 * 256 := mul_le2 hm.2.2.1 hm.2.2.2 (by omega) (by omega)
    have hquo : quoM .i64 (x.Peak * k) k = some x.Peak := by
      rw [quo_nn (by omega) hpk.1 (by omega), Int.mul_ediv_cancel _ (by omega)]
    have j2 : ∀ kept, law23_PickerLevels_j2 k (F.map (pickV ⟨p.Detector, p.Back + (1 + u), p.Level, 0⟩ s g), 0) (F.map (pickV ⟨p.Detector, p.Back, v, 0⟩ s g), 0) (F.map (fun t => { pickV P0 s g t with Amplitude := t.Peak * k }), 0) (((F.take i).filter (fun t => decide (n ≤ t.Peak))).map (pickV P0 s g), (i : Int)) (pickV P0 s g x) kept = some (.inl (kept, ((i + 1 : Nat) : Int))) := by
      intro kept
      unfold law23_PickerLevels_j2
      simp only
      rw [ix1, ix1, ix1]
      simp only [Option.bind_some]
      rw [hquo]
      simp only [Option.bind_some]
      rw [if_neg (show ¬ decide ((pickV P0 s g x).Time < (pickV ⟨p.Detector, p.Back + (1 + u), p.Level, 0⟩ s g x).Time) = true from fun h => Int.not_lt.2 hle1 (of_decide_eq_true h))]
      simp only [Option.bind_some]
      rw [show decide ((pickV P0 s g x).Time < (pickV ⟨p.Detector, p.Back, v, 0⟩ s g x).Time) = false from decide_eq_false (Int.not_lt.2 hle2)]
      simp only [Bool.false_eq_true, if_false, Option.bind_some]
      have ha : (pickV P0 s g x).Amplitude = x.Peak := rfl
      rw [ha, w64_id (x := x.Peak * k) (by omega) (by omega), w64_id (x := (i : Int) + 1) (by omega) (by omega)]
      simp only [bne_self_eq_false, beq_self_eq_true, ba_refl, Bool.and_self, Bool.not_true, Bool.or_self, Bool.false_eq_true, if_false]
      rfl
    unfold law23_PickerLevels_l3
    simp only
    rw [if_pos (decide_eq_true (by simp; omega)), ix1]
    simp only [Option.bind_some]
    rw [w64_id (x := n) (by omega) (by omega)]
    have ha : (pickV P0 s g x).Amplitude = x.Peak := rfl
    rw [ha, take_one hi, List.filter_append, hx]
    by_cases hc : n ≤ x.Peak
    · rw [if_pos (decide_eq_true hc), appM_one _ _ _ (by simp; omega) (by decide)]
      simp only [Option.bind_some]
      rw [j2]
      simp [hc]
    · rw [if_neg (by simpa using hc), j2]
      simp [hc]
  · unfold law23_PickerLevels_l3
    simp only
    have hfl : (F.filter (fun t => decide (n ≤ t.Peak))).length ≤ F.length := List.length_filter_le _ _
    rw [if_neg (by simp), List.take_length, psame _ (by simp; omega), sane_true]
    rfl

end Go.Proofs.Ytmlekplbmfengaa.Sh

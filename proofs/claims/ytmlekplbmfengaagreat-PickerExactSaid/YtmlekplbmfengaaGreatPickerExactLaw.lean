/- The law PickerExact as a plain program: it is true at every input. -/
import Derived.Test.YtmlekplbmfengaaGreatPickRef
import Derived.Test.YtmlekplbmfengaaGreatLevels
import Derived.Test.YtmlekplbmfengaaGreatDiceSeg
namespace Go.Proofs.YtmlekplbmfengaaGreat.Sh
open Go
set_option linter.unusedVariables false
set_option linter.unusedSimpArgs false
theorem runV_len (d : Detector) (l : List Int) : (runV d l).1.length ≤ 1024 := by
  unfold runV
  split
  · simp
  · split
    · simp
    · split
      · simp
      · unfold runR
        split
        · simp
        · simp only; omega
theorem runRR_len {p : Picking} {s : SourceID} {l : List Segment} (hl : l.length ≤ 8) (hg : ∀ g ∈ l, g.Samples.length ≤ 61) : (runRR p s l).1.length ≤ 496 := by
  unfold runRR
  split
  · next h =>
    simp only [Bool.and_eq_true] at h
    have h1 := segsV_len (PVB_iff.1 h.1.1) (s := s) (l := l) fun g hm => ⟨recB_iff.1 (List.all_eq_true.1 h.2 g hm), hg g hm⟩
    have h2 := sset_len cmpP (segsV p s l)
    simp only
    omega
  · simp
theorem segR_len {p : Picking} {s : SourceID} {g : Segment} (hg : g.Samples.length ≤ 61) : (segR p s g).1.length ≤ 62 := by
  unfold segR
  split
  · next h =>
    simp only [Bool.and_eq_true] at h
    have h1 := segV_len (PVB_iff.1 h.1.1) (s := s) (recB_iff.1 h.2)
    simp only
    omega
  · simp
theorem ex_onsets (w samples : List Int) (d : Dice) (y : Picking) (i : Nat) (z : Trigger) : whileM (law23_PickerExact_l134 samples (w, d) y (i : Int) z) 0 = some (.inl (w64 ((i : Int) + 1))) := by
  refine whileM_for' (fun j => (j : Int)) 2 _ rfl (fun j hj => ?_) ?_
  · unfold law23_PickerExact_l134
    simp only [List.length_cons, List.length_nil]
    rw [if_pos (decide_eq_true (by omega)), ix_nat _ _ (show j < [w, samples].length by simpa using hj)]
    simp only [Option.bind_some]
    rw [Onset_gen, rOnset_gen]
    simp only [Option.bind_some, bne_self_eq_false, Bool.or_self, Bool.false_eq_true, if_false]
    rw [w64_id (by omega) (by omega)]
    rfl
  · unfold law23_PickerExact_l134
    simp only [List.length_cons, List.length_nil]
    rw [if_neg (by simp)]
    rfl
theorem ex_segs {y : Picking} {w : List Segment} (hw : ∀ g ∈ w, g.Samples.length ≤ 60) (hl : w.length ≤ 8) {id : SourceID} (hid : SrcSm id) (j : Nat) : whileM (law23_PickerExact_l175 y w (j : Int) id) 0 = some (.inl (w64 ((j : Int) + 1))) := by
  refine whileM_for' (fun k => (k : Int)) w.length _ rfl (fun k hk => ?_) ?_
  · have hg := hw _ (List.getElem_mem hk)
    unfold law23_PickerExact_l175
    rw [if_pos (decide_eq_true (by omega)), ix_nat _ _ hk]
    simp only [Option.bind_some]
    rw [Segment_gen hid (by omega), rSegment_gen hid (by omega)]
    simp only [Option.bind_some, bne_self_eq_false, Bool.false_eq_true, if_false]
    have hsl := segR_len (p := y) (s := id) (g := w[k]) (by omega)
    rw [psame _ (by omega)]
    simp only [Option.bind_some, Bool.not_true, Bool.false_eq_true, if_false]
    rw [w64_id (by omega) (by omega)]
    rfl
  · unfold law23_PickerExact_l175
    rw [if_neg (by simp)]
    rfl
theorem ex_runs {y : Picking} {w : List Segment} (hw : ∀ g ∈ w, g.Samples.length ≤ 60) (hl : w.length ≤ 8) {s : SourceID} (hs : SrcSm s) (d : Dice) (i : Nat) : whileM (law23_PickerExact_l171 (s, d) y (i : Int) w) 0 = some (.inl (w64 ((i : Int) + 1))) := by
  refine whileM_for' (fun j => (j : Int)) 2 _ rfl (fun j hj => ?_) ?_
  · obtain ⟨id, hid, e⟩ : ∃ id, SrcSm id ∧ ix ([s, (⟨ByteArray.empty, ByteArray.empty, ByteArray.empty, ByteArray.empty⟩ : SourceID)] : List SourceID) (j : Int) = some id := by
      have : j = 0 ∨ j = 1 := by omega
      rcases this with rfl | rfl
      · exact ⟨s, hs, rfl⟩
      · exact ⟨_, ⟨by decide, by decide, by decide, by decide⟩, rfl⟩
    unfold law23_PickerExact_l171
    simp only [List.length_cons, List.length_nil]
    rw [if_pos (decide_eq_true (by omega)), e]
    simp only [Option.bind_some]
    have hg : ∀ g ∈ w, g.Samples.length ≤ 61 := fun g hm => by have := hw g hm; omega
    rw [Run_gen hid hl hg, rRun_gen hid hl hg]
    simp only [Option.bind_some, bne_self_eq_false, Bool.false_eq_true, if_false]
    have hrl := runRR_len (p := y) (s := id) hl hg
    rw [psame _ (by omega)]
    simp only [Option.bind_some, Bool.not_true, Bool.false_eq_true, if_false]
    rw [ex_segs hw hl hid, w64_id (by omega) (by omega)]
    rfl
  · unfold law23_PickerExact_l171
    simp only [List.length_cons, List.length_nil]
    rw [if_neg (by simp)]
    rfl
theorem ex_lists {y : Picking} {a b : Segment} {w : List Segment} (ha : a.Samples.length ≤ 60) (hb : b.Samples.length ≤ 60) (hw : ∀ g ∈ w, g.Samples.length ≤ 60) (hl : w.length ≤ 4) {s : SourceID} (hs : SrcSm s) (d d1 d2 : Dice) (i : Nat) : whileM (law23_PickerExact_l156 w (s, d) (a, d1) (b, d2) (i : Int) y) 0 = some (.inl (w64 ((i : Int) + 1))) := by
  refine whileM_for' (fun j => (j : Int)) 2 _ rfl (fun j hj => ?_) ?_
  · obtain ⟨v, hv, hvl, e⟩ : ∃ v : List Segment, (∀ g ∈ v, g.Samples.length ≤ 60) ∧ v.length ≤ 8 ∧ ix ([([a, b] : List Segment), w] : List (List Segment)) (j : Int) = some v := by
      have : j = 0 ∨ j = 1 := by omega
      rcases this with rfl | rfl
      · refine ⟨[a, b], fun g hg => ?_, by simp, rfl⟩
        simp only [List.mem_cons, List.not_mem_nil, or_false] at hg
        rcases hg with rfl | rfl
        · exact ha
        · exact hb
      · exact ⟨w, hw, by omega, rfl⟩
    unfold law23_PickerExact_l156
    simp only [List.length_cons, List.length_nil]
    rw [if_pos (decide_eq_true (by omega)), e]
    simp only [Option.bind_some]
    rw [ex_runs hv hvl hs, w64_id (by omega) (by omega)]
    rfl
  · unfold law23_PickerExact_l156
    simp only [List.length_cons, List.length_nil]
    rw [if_neg (by simp)]
    rfl
theorem ex_picks {x : List Pick} (hx : ∀ q ∈ x, SrcSm q.Source) (hl : x.length ≤ 1000) (i : Nat) : whileM (law23_PickerExact_l186 (i : Int) x) 0 = some (.inl (w64 ((i : Int) + 1))) := by
  refine whileM_for' (fun j => (j : Int)) x.length _ rfl (fun j hj => ?_) ?_
  · have hq := hx _ (List.getElem_mem hj)
    unfold law23_PickerExact_l186
    rw [if_pos (decide_eq_true (by omega)), ix_nat _ _ hj, show ix x 0 = some (x[0]'(by omega)) from ix_nat x 0 (by omega)]
    simp only [Option.bind_some]
    rw [rValidPick_eq hq, picker_Compare_eq, rCompare_eq]
    obtain ⟨b, eb⟩ : ∃ b, picker_ValidPick x[j] = some b := by
      unfold picker_ValidPick
      rw [source_Valid_eq hq]
      simp only [Option.bind_some, pin_eq]
      split <;> simp only [Option.bind_some]
      · split <;> simp only [Option.bind_some] <;> exact ⟨_, rfl⟩
      · exact ⟨_, rfl⟩
    rw [eb]
    simp only [Option.bind_some, beq_self_eq_true, Bool.not_true, Bool.false_eq_true, if_false, bne_self_eq_false]
    rw [w64_id (by omega) (by omega)]
    rfl
  · unfold law23_PickerExact_l186
    rw [if_neg (by simp)]
    rfl
theorem law23_PickerExact_true {A B C D F : Prop} {R : Pick → Prop} (t : List Int) (raw : Picking) (samples : List Int) (g : Trigger) (list : List Pick) (segments : List Segment) (_ : A) (_ : B) (_ : C) (_ : D)
    (hlist : (list.length : Int) ≤ 140737488355328 ∧ ∀ y ∈ list, (((y.Source.Network.size : Int) ≤ 9223372036854775807) ∧ ((y.Source.Station.size : Int) ≤ 9223372036854775807) ∧ ((y.Source.Location.size : Int) ≤ 9223372036854775807) ∧ ((y.Source.Channel.size : Int) ≤ 9223372036854775807)) ∧ R y) (_ : F) :
    law23_PickerExact t raw samples g list segments = some true := by
  unfold law23_PickerExact
  rw [light_spec]
  simp only [Option.bind_some]
  by_cases hc : t.length ≤ 500 ∧ samples.length ≤ 80 ∧ list.length ≤ 20 ∧ segments.length ≤ 4
  case neg =>
    rw [if_pos (by simp only [Bool.or_eq_true, Bool.not_eq_true', decide_eq_false_iff_not, decide_eq_true_eq]; omega), sane_true]
    rfl
  obtain ⟨hl, hsm, hli, hse⟩ := hc
  rw [if_neg (by simp only [Bool.or_eq_true, Bool.not_eq_true', decide_eq_false_iff_not, decide_eq_true_eq]; omega)]
  have hls : ∀ q ∈ list, SrcSm q.Source := fun q hq => by
    obtain ⟨⟨a, b, c, d⟩, _⟩ := hlist.2 q hq
    exact ⟨by omega, by omega, by omega, by omega⟩
  -- a segment that is too long ends it
  have key : ∀ k, k ≤ segments.length → (∀ j (hj : j < segments.length), j < segments.length - k → (segments[j]).Samples.length ≤ 60) → whileM (law23_PickerExact_l2 t raw samples g list segments) ((segments.length - k : Nat) : Int) = some true := by
    intro k
    induction k with
    | succ k ih =>
      intro hk hj
      obtain ⟨i, hi⟩ : ∃ i, segments.length - (k + 1) = i := ⟨_, rfl⟩
      have hi' : segments.length - k = i + 1 := by omega
      rw [hi'] at ih
      rw [hi] at hj ⊢
      have hil : i < segments.length := by omega
      have st : law23_PickerExact_l2 t raw samples g list segments (i : Int) = if 60 < (segments[i]).Samples.length then some (.inr true) else some (.inl ((i + 1 : Nat) : Int)) := by
        unfold law23_PickerExact_l2
        rw [if_pos (decide_eq_true (by omega)), ix_nat _ _ hil]
        simp only [Option.bind_some]
        by_cases h60 : 60 < (segments[i]).Samples.length
        · rw [if_pos (decide_eq_true (by omega)), sane_true, if_pos h60]
          rfl
        · rw [if_neg (by simp; omega), if_neg h60, w64_id (by omega) (by omega)]
          rfl
      rw [whileM_eq, st]
      by_cases h60 : 60 < (segments[i]).Samples.length
      · rw [if_pos h60]; rfl
      · rw [if_neg h60]
        refine ih (by omega) fun j hjl hji => ?_
        by_cases e : j = i
        · subst e; omega
        · exact hj j hjl (by omega)
    | zero =>
      intro _ hj
      have hseg : ∀ q ∈ segments, q.Samples.length ≤ 60 := fun q hq => by
        obtain ⟨j, hjl, e⟩ := List.mem_iff_getElem.1 hq
        have := hj j hjl (by omega)
        rw [e] at this; exact this
      rw [whileM_eq, Nat.sub_zero]
      unfold law23_PickerExact_l2
      rw [if_neg (by simp)]
      simp only [made_Roll, Option.bind_some]
      obtain ⟨p, d1, e1, hp, hd1⟩ := dpicking_spec (DOK.roll hl)
      obtain ⟨s, d2, e2, hs, hd2⟩ := dsource_spec hd1
      obtain ⟨c, d3, e3, c0, c1, hd3⟩ := next_spec hd2 (n := 4) (by decide) (by decide)
      rw [e1]; simp only [Option.bind_some]
      rw [e2]; simp only [Option.bind_some]
      rw [e3]; simp only [Option.bind_some]
      have hss := srcB_sm hs
      have j1 : ∀ (L : List Int) (At : Int) (x1 x2 x3 x4 : Int), DOK ⟨L, At⟩ → law23_PickerExact_j1 raw samples g list segments (p, d1) (s, d2) L At x1 x2 x3 x4 = some true := by
        intro L At x1 x2 x3 x4 hd
        unfold law23_PickerExact_j1
        obtain ⟨w, d4, e4, hw, hd4⟩ := dwave_spec hd (n := 40) (by decide) (by decide)
        obtain ⟨a, d5, e5, ha, hd5⟩ := dsegment_spec hd4 (n := 40) (by decide) (by decide)
        obtain ⟨b, d6, e6, hb, hd6⟩ := dsegment_spec hd5 (n := 30) (by decide) (by decide)
        obtain ⟨z, d7, e7, z0, z1, hd7⟩ := next_spec hd6 (n := 45) (by decide) (by decide)
        have ha1 := ha.wv.2.1
        have hb1 := hb.wv.2.1
        rw [e4]; simp only [Option.bind_some]
        rw [e5]; simp only [Option.bind_some]
        rw [e6]; simp only [Option.bind_some]
        rw [rRun_spec]; simp only [Option.bind_some]
        rw [e7]; simp only [Option.bind_some]
        have hrl := runV_len p.Detector w
        rw [appM_one _ _ _ (by simp; omega) (by decide)]
        simp only [Option.bind_some]
        obtain ⟨T, hT⟩ : ∃ T, (runV p.Detector w).1 ++ [g, (⟨w64 (z - 1), 0, 0⟩ : Trigger)] = T := ⟨_, rfl⟩
        obtain ⟨Y, hY⟩ : ∃ Y, ([p, (⟨(⟨p.Detector.Short, x1, p.Detector.On, p.Detector.Off⟩ : Detector), x2, x3, x4⟩ : Picking), raw] : List Picking) = Y := ⟨_, rfl⟩
        have hYl : Y.length = 3 := by rw [← hY]; rfl
        have hTl : T.length ≤ 1026 := by rw [← hT]; simp; omega
        rw [hT, hY]
        refine whileM_for' (fun i => (i : Int)) Y.length _ rfl (fun i hi => ?_) ?_
        · unfold law23_PickerExact_l89
          rw [if_pos (decide_eq_true (by omega)), ix_nat _ _ hi]
          simp only [Option.bind_some]
          rw [pvalid_eq, rpvalid_eq]
          simp only [Option.bind_some, beq_self_eq_true, Bool.not_true, Bool.false_eq_true, if_false]
          have hw : whileM (law23_PickerExact_l130 samples segments (s, d2) (w, d4) (a, d5) (b, d6) T (i : Int) Y[i]) 0 = some (.inl (w64 ((i : Int) + 1))) := by
            refine whileM_for' (fun j => (j : Int)) T.length _ rfl (fun j hj => ?_) ?_
            · unfold law23_PickerExact_l130
              rw [if_pos (decide_eq_true (by omega)), ix_nat _ _ hj]
              simp only [Option.bind_some]
              rw [ex_onsets, w64_id (by omega) (by omega)]
              rfl
            · unfold law23_PickerExact_l130
              rw [if_neg (by simp), ex_lists (by omega) (by omega) hseg hse hss]
              rfl
          rw [hw, w64_id (by omega) (by omega)]
          rfl
        · unfold law23_PickerExact_l89
          rw [if_neg (by simp)]
          have h61 : ∀ q ∈ [a, b], q.Samples.length ≤ 61 := fun q hq => by
            simp only [List.mem_cons, List.not_mem_nil, or_false] at hq
            rcases hq with rfl | rfl <;> omega
          rw [rRun_gen hss (by simp) h61]
          simp only [Option.bind_some]
          have hpl := runRR_len (p := p) (s := s) (l := [a, b]) (by simp) h61
          have hpick : ∀ q ∈ (runRR p s [a, b]).1, SrcSm q.Source := fun q hq => by
            unfold runRR at hq
            split at hq
            · have hq := (mem_sset cmpP_eq).1 hq
              have hin : ∀ (l : List Segment), q ∈ segsV p s l → q.Source = s := fun l => by
                induction l with
                | nil => intro h; cases h
                | cons x l ih =>
                  intro h
                  rcases List.mem_append.1 h with h | h
                  · obtain ⟨u, _, rfl⟩ := List.mem_map.1 h; rfl
                  · exact ih h
              rw [hin _ hq]; exact hss
            · cases hq
          obtain ⟨K, hK⟩ : ∃ K, (runRR p s [a, b]).1 = K := ⟨_, rfl⟩
          rw [hK] at hpl hpick ⊢
          rw [appM_one _ _ _ (by simp; omega) (by decide)]
          simp only [Option.bind_some, List.nil_append]
          rw [appM_one _ _ _ (by omega) (by decide)]
          simp only [Option.bind_some]
          suffices hw : whileM (law23_PickerExact_l182 list (K ++ K)) 0 = some true by rw [hw]; rfl
          refine whileM_for' (fun j => (j : Int)) 2 _ rfl (fun j hj => ?_) ?_
          · obtain ⟨v, hv, hvl, e⟩ : ∃ v : List Pick, (∀ q ∈ v, SrcSm q.Source) ∧ v.length ≤ 1000 ∧ ix ([K ++ K, list] : List (List Pick)) (j : Int) = some v := by
              have : j = 0 ∨ j = 1 := by omega
              rcases this with rfl | rfl
              · refine ⟨K ++ K, fun q hq => ?_, by simp; omega, rfl⟩
                rcases List.mem_append.1 hq with hq | hq <;> exact hpick q hq
              · exact ⟨list, hls, by omega, rfl⟩
            unfold law23_PickerExact_l182
            simp only [List.length_cons, List.length_nil]
            rw [if_pos (decide_eq_true (by omega)), e]
            simp only [Option.bind_some]
            rw [picker_Sort_eq (by omega), rSort_eq (by omega)]
            simp only [Option.bind_some]
            have hsl := sset_len cmpP v
            rw [psame _ (by omega)]
            simp only [Option.bind_some, Bool.not_true, Bool.false_eq_true, if_false]
            rw [ex_picks hv hvl, w64_id (by omega) (by omega)]
            rfl
          · unfold law23_PickerExact_l182
            simp only [List.length_cons, List.length_nil]
            rw [if_neg (by simp), sane_true]
            rfl
      by_cases h0 : (c == 0) = true
      · rw [if_pos h0]
        obtain ⟨x, d4, e4, _, hd4⟩ := pick_spec hd3 (l := [-1, 512, 513]) (by decide) (by decide)
        rw [e4]; simp only [Option.bind_some]
        rw [j1 _ _ _ _ _ _ hd4]
        rfl
      · rw [if_neg h0]
        by_cases h1 : (c == 1) = true
        · rw [if_pos h1]
          obtain ⟨x, d4, e4, _, hd4⟩ := pick_spec hd3 (l := [-1, 0, 10001]) (by decide) (by decide)
          rw [e4]; simp only [Option.bind_some]
          unfold law23_PickerExact_j10
          rw [j1 _ _ _ _ _ _ hd4]
          rfl
        · rw [if_neg h1]
          by_cases h2 : (c == 2) = true
          · rw [if_pos h2]
            obtain ⟨x, d4, e4, _, hd4⟩ := pick_spec hd3 (l := [-1, 1073741823, 1073741824]) (by decide) (by decide)
            rw [e4]; simp only [Option.bind_some]
            unfold law23_PickerExact_j11 law23_PickerExact_j10
            rw [j1 _ _ _ _ _ _ hd4]
            rfl
          · rw [if_neg h2]
            unfold law23_PickerExact_j12 law23_PickerExact_j11 law23_PickerExact_j10
            have := hd3
            by_cases h3 : (c == 3) = true
            · rw [if_pos h3, j1 _ _ _ _ _ _ hd3]
              rfl
            · rw [if_neg h3, j1 _ _ _ _ _ _ hd3]
              rfl
  have := key segments.length (Nat.le_refl _) (fun j _ hj => by omega)
  rw [Nat.sub_self] at this
  exact this
end Go.Proofs.YtmlekplbmfengaaGreat.Sh

/- The law PickerOnsets as a plain program: it is true at every input. -/
import Derived.Test.YtmlekplbmfengaaDiceSeg
namespace Go.Proofs.Ytmlekplbmfengaa.Sh
open Go
set_option linter.unusedVariables false
set_option linter.unusedSimpArgs false

theorem quiet_eq {p : Picking} (hp : PV p) {l : List Int} (hs : ∀ v ∈ l, -1073741823 ≤ v ∧ v ≤ 1073741823) {k : Nat} (hk : k < l.length) {lg : Int} (l0 : 0 ≤ lg) (l1 : lg ≤ 549755813376) : law23_PickerOnsets_fn1 (k : Int) p l lg = some (qB p l lg k) := by
  have hv := hs _ (List.getElem_mem hk)
  have hb := ab_bd hv
  obtain ⟨e1, e2⟩ := q_bd hp hb.1 hb.2 l0 l1
  unfold law23_PickerOnsets_fn1 qB
  rw [ix_nat _ _ hk]
  simp only [Option.bind_some]
  rw [ab_w hv, e1, e2, getD_at' hk]
theorem law23_PickerOnsets_true (t : List Int) : law23_PickerOnsets t = some true := by
  unfold law23_PickerOnsets
  rw [light_spec]
  simp only [Option.bind_some]
  by_cases hl : t.length ≤ 500
  case neg => rw [decide_eq_false hl, sane_true]; rfl
  rw [decide_eq_true hl]
  simp only [Bool.not_true, Bool.false_eq_true, if_false, made_Roll, Option.bind_some]
  obtain ⟨p, d1, e1, hp, hd1⟩ := dpicking_spec (DOK.roll hl)
  obtain ⟨l, d2, e2, hw, hd2⟩ := dwave_spec hd1 (n := 60) (by decide) (by decide)
  rw [e1]; simp only [Option.bind_some]
  rw [e2]; simp only [Option.bind_some]
  have hP := hp.pv
  obtain ⟨w1, w2, w3⟩ := hw
  have hs : ∀ v ∈ l, -1073741823 ≤ v ∧ v ≤ 1073741823 := fun v hv => by have := w3 v hv; omega
  have hX := absL_XV hs
  have h1 := hP.d.s1; have h2 := hP.d.sl
  have b0 := hP.b0; have b1 := hP.b1
  have hlen := trAll_len hP.d hX
  rw [absL_len] at hlen
  have hrun : runV p.Detector l = (trAll p.Detector (absL l) l.length, 0) := by
    unfold runV runR
    rw [if_neg (by rw [DVB_iff.2 hP.d]; decide), if_neg (by omega), if_neg, if_neg (by omega)]
    have : l.all SmpB = true := List.all_eq_true.2 fun v hv => SmpB_iff.2 (hs v hv)
    rw [this]; decide
  rw [rRun_spec, hrun]
  simp only [Option.bind_some, bne_self_eq_false, Bool.false_eq_true, if_false]
  generalize hT : trAll p.Detector (absL l) l.length = T at *
  refine whileM_for' (fun i => (i : Int)) T.length _ rfl (fun i hi => ?_) ?_
  · have hm : T[i] ∈ trAll p.Detector (absL l) (absL l).length := by rw [absL_len, hT]; exact List.getElem_mem _
    have ht := trAll_mem hP.d hX hm
    rw [absL_len] at ht
    obtain ⟨on, hon⟩ := Int.eq_ofNat_of_zero_le (show 0 ≤ T[i].On by omega)
    have hlg := lgS_bd hP.d hs T[i].On
    have hn := onsV_bd hP (l := l) (on := T[i].On) (by omega)
    have hsp := ons_spec (qB p l (lgS p.Detector l T[i].On)) (fst0 p T[i].On) T[i].On.toNat (by unfold fst0; omega)
    unfold law23_PickerOnsets_l7
    simp only
    rw [if_pos (decide_eq_true (by omega)), ix_nat _ _ hi]
    simp only [Option.bind_some]
    rw [Onset_ok hP (by omega) hs ht.1 ht.2.1, rRatio_spec, ratV_ok hP.d (by omega) hs ht.1 ht.2.1]
    simp only [Option.bind_some, bne_self_eq_false, Bool.or_self, Bool.false_or]
    rw [w64_id (x := T[i].On - p.Back) (by omega) (by omega)]
    rw [if_neg (by simp only [Bool.or_eq_true, decide_eq_true_eq]; omega)]
    -- the samples between the onset and the trigger
    have hov : onsV p l T[i].On = ons (qB p l (lgS p.Detector l T[i].On)) (fst0 p T[i].On) T[i].On.toNat := rfl
    rw [← hov] at hsp
    obtain ⟨s1, s2, s3, s4⟩ := hsp
    refine whileM_for' (fun k => ((onsV p l T[i].On + k : Nat) : Int)) (on - onsV p l T[i].On) _ (by simp) (fun k hk => ?_) ?_
    · unfold law23_PickerOnsets_l11
      simp only
      rw [if_pos (decide_eq_true (by omega)), quiet_eq hP hs (by omega) hlg.1 hlg.2, s3 _ (by omega) (by omega)]
      simp only [Option.bind_some, Bool.false_eq_true, if_false]
      rw [w64_id (by omega) (by omega)]; rfl
    · unfold law23_PickerOnsets_l11
      simp only
      rw [if_neg (by simp only [decide_eq_true_eq]; omega)]
      rw [w64_id (x := T[i].On - p.Back) (by omega) (by omega), w64_id (x := (i : Int) + 1) (by omega) (by omega)]
      by_cases hc : ((decide (0 < ((onsV p l T[i].On : Nat) : Int))) && (decide (T[i].On - p.Back < ((onsV p l T[i].On : Nat) : Int)))) = true
      · rw [if_pos hc]
        simp only [Bool.and_eq_true, decide_eq_true_eq] at hc
        have hq : qB p l (lgS p.Detector l T[i].On) (onsV p l T[i].On - 1) = true := by
          rcases s4 with h | h
          · unfold fst0 at h; omega
          · exact h.2
        rw [w64_id (x := ((onsV p l T[i].On : Nat) : Int) - 1) (by omega) (by omega), show ((onsV p l T[i].On : Nat) : Int) - 1 = ((onsV p l T[i].On - 1 : Nat) : Int) by omega, quiet_eq hP hs (by omega) hlg.1 hlg.2, hq]
        rfl
      · rw [if_neg hc]; rfl
  · unfold law23_PickerOnsets_l7
    simp only
    rw [if_neg (by simp), sane_true]; rfl

end Go.Proofs.Ytmlekplbmfengaa.Sh

/- The reference's detector as a plain program (chapter 22), and ratios of sums. -/
import Derived.Test.YtmlekplbmfengaaGreatTrig
namespace Go.Proofs.YtmlekplbmfengaaGreat.Sh
open Go
set_option linter.unusedVariables false
set_option linter.unusedSimpArgs false
theorem r22valid_eq (d : Detector) : ref22_Valid d = some (DVB d) := rfl
theorem rin_eq (n lo hi : Int) : ref01_In n lo hi = some (inB n lo hi) := rfl
theorem din_eq (n lo hi : Int) : detector_in n lo hi = some (inB n lo hi) := rfl
theorem rInRange_eq {l : List Int} (hl : l.length ≤ 65536) : ref05_InRange l = some (l.all SmpB) := by
  unfold ref05_InRange
  have step : ∀ i : Nat, (hi : i < l.length) → ref05_InRange_l2 l (i : Int) = some (if SmpB l[i] = true then .inl ((i + 1 : Nat) : Int) else .inr false) := fun i hi => by
    unfold ref05_InRange_l2
    rw [if_pos (decide_eq_true (by omega)), ix_nat _ _ hi]
    simp only [Option.bind, ref05_Sample, rin_eq]
    have e : inB l[i] (-1073741823) 1073741823 = SmpB l[i] := rfl
    rw [e]
    cases SmpB l[i] with
    | true => simp only [Bool.not_true, Bool.false_eq_true, if_false, if_true]; rw [w64_id (by omega) (by omega)]; rfl
    | false => rfl
  have h := loop_all (body := ref05_InRange_l2 l) l.length (fun i => if h : i < l.length then SmpB l[i] else true) false true
    (fun i hi hp => by rw [step i hi]; simp only [hi, dif_pos] at hp; rw [hp]; rfl)
    (fun i hi hp => by rw [step i hi]; simp only [hi, dif_pos] at hp; rw [hp]; rfl)
    (by unfold ref05_InRange_l2; rw [if_neg (by simp)]; rfl)
  rw [h, range_all l SmpB _ (fun i hi => by simp [hi])]
  cases l.all SmpB <;> rfl
theorem rabs_eq {x : Int} (h : -1073741823 ≤ x ∧ x ≤ 1073741823) : ref22_Abs x = some (ab x) := by
  unfold ref22_Abs ab
  rw [w64_id (by omega) (by omega)]; rfl
theorem absL_app (a : List Int) (v : Int) : absL (a ++ [v]) = absL a ++ [ab v] := by unfold absL; rw [List.map_append]; rfl
theorem rabsolute_eq {l : List Int} (hl : l.length ≤ 65536) (h : ∀ v ∈ l, -1073741823 ≤ v ∧ v ≤ 1073741823) : ref22_absolute l = some (absL l) := by
  unfold ref22_absolute
  have hw : whileM (ref22_absolute_l1 l) (([] : List Int), 0) = some (absL l) := by
    refine whileM_for' (fun i => (absL (l.take i), (i : Int))) l.length _ (by simp [absL]) (fun i hi => ?_) ?_
    · unfold ref22_absolute_l1
      simp only
      rw [if_pos (decide_eq_true (by omega)), ix_nat _ _ hi]
      simp only [Option.bind_some]
      rw [rabs_eq (h _ (List.getElem_mem hi))]
      simp only [Option.bind_some]
      rw [appM_one _ _ _ (by simp [absL]; omega) (by decide)]
      simp only [Option.bind_some]
      rw [w64_id (by omega) (by omega), take_one hi, absL_app]; rfl
    · unfold ref22_absolute_l1
      simp only
      rw [if_neg (by simp), List.take_length]
  rw [hw]; rfl
theorem rreaches_eq {d : Detector} (hd : DV d) {s l p : Int} (s0 : 0 ≤ s) (s1 : s ≤ 549755813376) (l0 : 0 ≤ l) (l1 : l ≤ 549755813376) (p0 : 0 ≤ p) (p1 : p ≤ 10000) : ref22_reaches d s l p = some (reach d s l p) := by
  unfold ref22_reaches; rw [reaches_w hd s0 s1 l0 l1 p0 p1]
theorem rsums_eq {d : Detector} (hd : DV d) {x : List Int} (hx : XV x) (hb : x.length ≤ 65536) {n : Nat} (hn : n < x.length) (hL : d.Long ≤ n + 1) : ref22_sums d x (n : Int) = some (win x (n + 1) d.Short.toNat, win x (n + 1) d.Long.toNat) := by
  have h1 := hd.s1; have h2 := hd.sl; have h3 := hd.l1
  unfold ref22_sums
  have hw : whileM (ref22_sums_l1 d x (n : Int)) (0, 0, 0) = some (win x (n + 1) d.Short.toNat, win x (n + 1) d.Long.toNat) := by
    refine whileM_for' (fun k => (win x (n + 1) (min k d.Short.toNat), win x (n + 1) k, (k : Int))) d.Long.toNat _ (by simp [win_zero]) (fun k hk => ?_) ?_
    · have hi : w64 ((n : Int) - (k : Int)) = ((n - k : Nat) : Int) := by rw [w64_id (by omega) (by omega)]; omega
      have hp := win_pop (x := x) (n := n + 1) (k := k) (by omega) (by omega)
      have hix : x[n + 1 - (k + 1)]'(by omega) = x[n - k]'(by omega) := by congr 1; omega
      rw [hix] at hp
      have b := win_bd hx (n + 1) (k + 1)
      unfold ref22_sums_l1
      simp only
      rw [if_pos (decide_eq_true (by omega)), hi, ix_nat _ _ (show n - k < x.length by omega)]
      simp only [Option.bind_some]
      rw [Int.add_comm, ← hp, w64_id (x := win x (n + 1) (k + 1)) (by omega) (by omega)]
      by_cases hs : (k : Int) < d.Short
      · rw [if_pos (decide_eq_true hs), Nat.min_eq_left (by omega), Nat.min_eq_left (by omega), Int.add_comm, ← hp, w64_id (x := win x (n + 1) (k + 1)) (by omega) (by omega)]
        unfold ref22_sums_j1
        simp only [Option.bind_some]
        rw [w64_id (by omega) (by omega)]; rfl
      · rw [if_neg (by simpa using hs), Nat.min_eq_right (by omega), Nat.min_eq_right (by omega)]
        unfold ref22_sums_j1
        simp only [Option.bind_some]
        rw [w64_id (by omega) (by omega)]; rfl
    · unfold ref22_sums_l1
      simp only
      rw [if_neg (by simp; omega), Nat.min_eq_right (by omega)]
  rw [hw]; rfl
theorem rstep_eq {d : Detector} (hd : DV d) {x : List Int} (hx : XV x) (hb : x.length ≤ 65536) {n : Nat} (hn : n < x.length) (hL : d.Long ≤ n + 1) :
    ∃ t b, ref22_step d x (n : Int) (n : Int) (trF d x n).1 = some ((trF d x (n + 1)).1, t, b) ∧ (trF d x (n + 1)).2 = (if b = true then (trF d x n).2 ++ [t] else (trF d x n).2) := by
  have h1 := hd.s1; have h2 := hd.sl; have h3 := hd.l1
  have bs := win_bd hx (n + 1) d.Short.toNat
  have bl := win_bd hx (n + 1) d.Long.toNat
  have r1 := rreaches_eq hd (s := win x (n + 1) d.Short.toNat) (l := win x (n + 1) d.Long.toNat) (p := d.On) bs.1 (by omega) bl.1 (by omega) (by have := hd.o1; have := hd.oo; omega) hd.o2
  have r2 := rreaches_eq hd (s := win x (n + 1) d.Short.toNat) (l := win x (n + 1) d.Long.toNat) (p := d.Off) bs.1 (by omega) bl.1 (by omega) (by have := hd.o1; omega) (by have := hd.oo; have := hd.o2; omega)
  have hg := getD_at' hn
  unfold ref22_step
  rw [rsums_eq hd hx hb hn hL]
  simp only [Option.bind_some]
  rw [r1, r2]
  simp only [Option.bind_some]
  have e0 : trF d x (n + 1) = trS d x n (trF d x n) := by
    show (if n + 1 < d.Long.toNat then trF d x n else trS d x n (trF d x n)) = _
    rw [if_neg (by omega)]
  rw [e0]
  unfold trS
  by_cases ho : (trF d x n).1.On < 0
  · rw [if_pos (decide_eq_true ho), if_pos ho]
    by_cases hr : reach d (win x (n + 1) d.Short.toNat) (win x (n + 1) d.Long.toNat) d.On = true
    · rw [if_pos hr, if_pos hr, ix_nat _ _ hn, hg]
      exact ⟨_, _, rfl, rfl⟩
    · rw [if_neg hr, if_neg hr]
      exact ⟨_, _, rfl, rfl⟩
  · rw [if_neg (by simpa using ho), if_neg ho]
    by_cases hr : reach d (win x (n + 1) d.Short.toNat) (win x (n + 1) d.Long.toNat) d.Off = true
    · rw [if_pos hr, hr, ix_nat _ _ hn, hg]
      exact ⟨_, _, rfl, rfl⟩
    · rw [if_neg hr]
      have hr' : reach d (win x (n + 1) d.Short.toNat) (win x (n + 1) d.Long.toNat) d.Off = false := by simpa using hr
      rw [hr']
      exact ⟨_, _, rfl, rfl⟩
theorem trF_early {d : Detector} {x : List Int} : ∀ n, n < d.Long.toNat → trF d x n = (⟨-1, 0, 0⟩, [])
  | 0, _ => rfl
  | n + 1, h => by
    show (if n + 1 < d.Long.toNat then trF d x n else _) = _
    rw [if_pos h]; exact trF_early n (by omega)
theorem rRun_spec (d : Detector) (l : List Int) : ref22_Run d l = some (runV d l) := by
  unfold ref22_Run runV
  rw [r22valid_eq]
  simp only [Option.bind_some]
  cases hd : DVB d with
  | false => rfl
  | true =>
    have hD := DVB_iff.1 hd
    have h1 := hD.s1; have h2 := hD.sl; have h3 := hD.l1
    simp only [Bool.not_true, Bool.false_eq_true, if_false, Bool.true_eq_false]
    by_cases hb : 65536 < l.length
    · rw [if_pos (decide_eq_true (by omega)), if_pos hb]
    · rw [if_neg (by simp; omega), if_neg hb, rInRange_eq (by omega)]
      simp only [Option.bind_some]
      cases ha : l.all SmpB with
      | false => rfl
      | true =>
        have hs := all_smp ha
        have hX := absL_XV hs
        have hL := absL_len l
        simp only [Bool.not_true, Bool.false_eq_true, if_false, Bool.true_eq_false]
        rw [rabsolute_eq (by omega) hs]
        unfold ref22_none
        simp only [Option.bind_some]
        rw [w64_id (x := d.Long - 1) (by omega) (by omega)]
        have hti := TI.all hD hX l.length (by omega)
        have hlen := hti.len
        obtain ⟨r, e, hr⟩ := loop_ex (b1 := ref22_Run_l1 d (absL l)) (fun k s => ∃ n : Nat, s = ((trF d (absL l) n).1.On, (trF d (absL l) n).1.Off, (trF d (absL l) n).1.Peak, (trF d (absL l) n).2, (n : Int)) ∧ d.Long ≤ n + 1 ∧ ((n ≤ l.length ∧ k + n = l.length) ∨ (l.length < n ∧ k = 0 ∧ n < d.Long)))
          (fun r => r = ((trF d (absL l) l.length).1.On, (trF d (absL l) l.length).1.Off, (trF d (absL l) l.length).1.Peak, (trF d (absL l) l.length).2)) (fun k s ⟨n, es, hn, hk⟩ => by
            subst es
            unfold ref22_Run_l1
            simp only
            by_cases hlt : n < l.length
            · rw [if_pos (decide_eq_true (by omega))]
              obtain ⟨t, b, e1, e2⟩ := rstep_eq hD hX (by omega) (n := n) (by omega) hn
              rw [show (⟨(trF d (absL l) n).1.On, (trF d (absL l) n).1.Off, (trF d (absL l) n).1.Peak⟩ : Trigger) = (trF d (absL l) n).1 from rfl, e1]
              simp only [Option.bind_some]
              have hle := (TI.all hD hX n (by omega)).len
              have w1 : w64 ((n : Int) + 1) = ((n + 1 : Nat) : Int) := by rw [w64_id (by omega) (by omega)]; rfl
              refine .inl ⟨_, k - 1, ?_, ⟨n + 1, rfl, by omega, .inl ⟨by omega, by omega⟩⟩, by omega⟩
              cases b with
              | true =>
                rw [if_pos rfl, appM_one _ _ _ (by simp; omega) (by decide)]
                unfold ref22_Run_j1
                simp only [Option.bind_some]
                rw [w1, e2]; rfl
              | false =>
                rw [if_neg (by decide)]
                unfold ref22_Run_j1
                simp only [Option.bind_some]
                rw [w1, e2]; rfl
            · rw [if_neg (by simp; omega)]
              refine .inr ⟨_, rfl, ?_⟩
              rcases hk with ⟨hk1, hk2⟩ | ⟨hk1, hk2, hk3⟩
              · rw [show n = l.length by omega]
              · rw [trF_early n (by omega), trF_early l.length (by omega)])
          (l.length - (d.Long.toNat - 1)) (-1, 0, 0, [], d.Long - 1) ⟨d.Long.toNat - 1, by rw [trF_early _ (by omega)]; simp; omega, by omega, by omega⟩
        rw [e, hr]
        simp only [Option.bind_some]
        unfold runR trAll
        have j2 : ∀ z : List Trigger, ref22_Run_j3 z = some (if 1024 < z.length then ([], 8) else (z, 0)) := fun z => by
          unfold ref22_Run_j3
          by_cases hz : 1024 < z.length
          · rw [if_pos (decide_eq_true (by omega)), if_pos hz]
          · rw [if_neg (by simp; omega), if_neg hz]
        by_cases ho : 0 ≤ (trF d (absL l) l.length).1.On
        · rw [if_pos (decide_eq_true ho), if_pos ho, appM_one _ _ _ (by simp; omega) (by decide)]
          simp only [Option.bind_some]
          exact j2 _
        · rw [if_neg (by simpa using ho), if_neg ho]
          exact j2 _
/-! ### ratios -/
theorem dsum_eq {l : List Int} (hl : l.length ≤ 600) (h : ∀ v ∈ l, -1073741823 ≤ v ∧ v ≤ 1073741823) : detector_sum l = some (isum (absL l)) := by
  unfold detector_sum
  have hX := absL_XV h
  have hw : whileM (detector_sum_l1 l) (0, 0) = some (isum (absL l)) := by
    refine whileM_for' (fun i => (isum (absL (l.take i)), (i : Int))) l.length _ (by simp [absL, isum]) (fun i hi => ?_) ?_
    · have hv := ab_bd (h _ (List.getElem_mem hi))
      have b := isum_bd (x := absL (l.take i)) (absL_XV (fun v hv => h v (List.mem_of_mem_take hv)))
      have bl : (absL (l.take i)).length ≤ 600 := by simp [absL]; omega
      unfold detector_sum_l1
      simp only
      rw [if_pos (decide_eq_true (by omega)), ix_nat _ _ hi]
      simp only [Option.bind_some]
      rw [abs_eq (h _ (List.getElem_mem hi))]
      simp only [Option.bind_some]
      rw [w64_id (x := (i : Int) + 1) (by omega) (by omega), w64_id (x := isum _ + _) (by omega) (by omega), take_one hi]
      rw [absL_app, isum_append]
      simp [isum]
    · unfold detector_sum_l1
      simp only
      rw [if_neg (by simp), List.take_length]
  rw [hw]; rfl
/-- what Ratio hands back -/
def ratV (d : Detector) (l : List Int) (i : Int) : Int × Int × Int :=
  if DVB d = false then (0, 0, 1) else if 65536 < l.length then (0, 0, 8) else if (l.all SmpB && inB i (d.Long - 1) ((l.length : Int) - 1)) = false then (0, 0, 2) else (win (absL l) (i.toNat + 1) d.Short.toNat, win (absL l) (i.toNat + 1) d.Long.toNat, 0)
theorem Ratio_spec (d : Detector) (l : List Int) (i : Int) : detector_Ratio d l i = some (ratV d l i) := by
  unfold detector_Ratio ratV
  rw [dvalid_eq]
  simp only [Option.bind_some]
  cases hd : DVB d with
  | false => rfl
  | true =>
    have hD := DVB_iff.1 hd
    have h1 := hD.s1; have h2 := hD.sl; have h3 := hD.l1
    simp only [Bool.not_true, Bool.false_eq_true, if_false, Bool.true_eq_false]
    by_cases hb : 65536 < l.length
    · rw [if_pos (decide_eq_true (by omega)), if_pos hb]
    · rw [if_neg (by simp; omega), if_neg hb, wrong_any _ (by omega)]
      simp only [Option.bind_some, din_eq]
      rw [w64_id (x := d.Long - 1) (by omega) (by omega), w64_id (x := (l.length : Int) - 1) (by omega) (by omega)]
      cases ha : l.all SmpB with
      | false => rfl
      | true =>
        have hs := all_smp ha
        simp only [Bool.not_true, Bool.false_eq_true, if_false, Bool.true_and]
        cases hi : inB i (d.Long - 1) ((l.length : Int) - 1) with
        | false => rfl
        | true =>
          have hi' := inB_iff.1 hi
          simp only [Option.bind_some, Bool.not_true, Bool.false_eq_true, if_false, Bool.true_eq_false]
          have hsub : ∀ k : Int, 1 ≤ k → k ≤ d.Long → subM l (w64 (w64 (i - k) + 1)) (w64 (i + 1)) = some ((l.take (i.toNat + 1)).drop (i.toNat + 1 - k.toNat)) := fun k k1 k2 => by
            rw [w64_id (x := i - k) (by omega) (by omega), w64_id (x := i - k + 1) (by omega) (by omega), w64_id (x := i + 1) (by omega) (by omega), sub_int _ _ _ (by omega) (by omega) (by omega)]
            congr 2
            · omega
            · congr 1; omega
          have hwin : ∀ k : Int, 1 ≤ k → k ≤ d.Long → detector_sum ((l.take (i.toNat + 1)).drop (i.toNat + 1 - k.toNat)) = some (win (absL l) (i.toNat + 1) k.toNat) := fun k k1 k2 => by
            rw [dsum_eq (by simp; omega) (fun v hv => hs v (List.mem_of_mem_take (List.mem_of_mem_drop hv)))]
            unfold win absL
            rw [List.map_drop, List.map_take]
          rw [hsub d.Short (by omega) (by omega), hsub d.Long (by omega) (by omega)]
          simp only [Option.bind_some]
          rw [hwin d.Short (by omega) (by omega), hwin d.Long (by omega) (by omega)]
          rfl
theorem rRatio_spec (d : Detector) (l : List Int) (i : Int) : ref22_Ratio d l i = some (ratV d l i) := by
  unfold ref22_Ratio ratV
  rw [r22valid_eq]
  simp only [Option.bind_some]
  cases hd : DVB d with
  | false => rfl
  | true =>
    have hD := DVB_iff.1 hd
    have h1 := hD.s1; have h2 := hD.sl; have h3 := hD.l1
    simp only [Bool.not_true, Bool.false_eq_true, if_false, Bool.true_eq_false]
    by_cases hb : 65536 < l.length
    · rw [if_pos (decide_eq_true (by omega)), if_pos hb]
    · rw [if_neg (by simp; omega), if_neg hb, rInRange_eq (by omega)]
      simp only [Option.bind_some, rin_eq]
      rw [w64_id (x := d.Long - 1) (by omega) (by omega), w64_id (x := (l.length : Int) - 1) (by omega) (by omega)]
      cases ha : l.all SmpB with
      | false => rfl
      | true =>
        have hs := all_smp ha
        simp only [Bool.not_true, Bool.false_eq_true, if_false, Bool.true_and]
        cases hi : inB i (d.Long - 1) ((l.length : Int) - 1) with
        | false => rfl
        | true =>
          have hi' := inB_iff.1 hi
          simp only [Option.bind_some, Bool.not_true, Bool.false_eq_true, if_false, Bool.true_eq_false]
          rw [rabsolute_eq (by omega) hs]
          simp only [Option.bind_some]
          have := rsums_eq hD (absL_XV hs) (by rw [absL_len]; omega) (n := i.toNat) (by rw [absL_len]; omega) (by omega)
          rw [Int.toNat_of_nonneg (by omega)] at this
          rw [this]; rfl
end Go.Proofs.YtmlekplbmfengaaGreat.Sh

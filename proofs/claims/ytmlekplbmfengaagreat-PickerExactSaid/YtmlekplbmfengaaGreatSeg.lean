/- Picks of segments as plain programs (chapter 23). -/
import Derived.Test.YtmlekplbmfengaaGreatTrig2
import Derived.Test.YtmlekplbmfengaaGreatRecF0
import Derived.Test.YtmlekplbmfengaaGreatOrder
namespace Go.Proofs.YtmlekplbmfengaaGreat.Sh
open Go
set_option linter.unusedVariables false
set_option linter.unusedSimpArgs false
theorem pin_eq (n lo hi : Int) : picker_in n lo hi = some (inB n lo hi) := rfl
structure PV (p : Picking) : Prop where
  d : DV p.Detector
  b0 : 0 ≤ p.Back
  b1 : p.Back ≤ 512
  v0 : 0 ≤ p.Level
  v1 : p.Level ≤ 10000
  f0 : 0 ≤ p.Floor
  f1 : p.Floor ≤ 1073741823
def PVB (p : Picking) : Bool := DVB p.Detector && inB p.Back 0 512 && inB p.Level 0 10000 && inB p.Floor 0 1073741823
theorem PVB_iff {p : Picking} : PVB p = true ↔ PV p := by
  unfold PVB
  simp only [Bool.and_eq_true, inB_iff, DVB_iff]
  exact ⟨fun ⟨⟨⟨a, b, c⟩, e, f⟩, g, h⟩ => ⟨a, b, c, e, f, g, h⟩, fun ⟨a, b, c, e, f, g, h⟩ => ⟨⟨⟨a, b, c⟩, e, f⟩, g, h⟩⟩
theorem pvalid_eq (p : Picking) : picker_Valid p = some (PVB p) := by
  unfold picker_Valid PVB
  rw [dvalid_eq]
  simp only [pin_eq, Option.bind_some]
  cases DVB p.Detector <;> cases inB p.Back 0 512 <;> cases inB p.Level 0 10000 <;> cases inB p.Floor 0 1073741823 <;> rfl
/-! ### onsets -/
/-- a sample is quiet -/
def qB (p : Picking) (l : List Int) (lg : Int) (k : Nat) : Bool := decide (100 * p.Detector.Long * ab (l.getD k 0) ≤ p.Level * lg)
def ons (q : Nat → Bool) (first : Nat) : Nat → Nat
  | 0 => 0
  | k + 1 => if k + 1 ≤ first then k + 1 else if q k = true then k + 1 else ons q first k
theorem ons_spec (q : Nat → Bool) (first : Nat) : ∀ on, first ≤ on → first ≤ ons q first on ∧ ons q first on ≤ on ∧ (∀ k, ons q first on ≤ k → k < on → q k = false) ∧ (ons q first on = first ∨ (first < ons q first on ∧ q (ons q first on - 1) = true))
  | 0, h => by
    have : first = 0 := by omega
    subst this
    exact ⟨Nat.le_refl _, Nat.le_refl _, fun k _ hk => by omega, .inl rfl⟩
  | m + 1, h => by
    unfold ons
    by_cases h1 : m + 1 ≤ first
    · rw [if_pos h1]
      exact ⟨by omega, by omega, fun k _ hk => by omega, .inl (by omega)⟩
    · rw [if_neg h1]
      by_cases h2 : q m = true
      · rw [if_pos h2]
        exact ⟨by omega, by omega, fun k _ hk => by omega, .inr ⟨by omega, by simpa using h2⟩⟩
      · rw [if_neg h2]
        obtain ⟨a, b, c, d⟩ := ons_spec q first m (by omega)
        refine ⟨a, by omega, fun k hk hk2 => ?_, d⟩
        by_cases e : k = m
        · subst e; simpa using h2
        · exact c k hk (by omega)
theorem q_bd {p : Picking} (hp : PV p) {v lg : Int} (h0 : 0 ≤ v) (h1 : v ≤ 1073741823) (l0 : 0 ≤ lg) (l1 : lg ≤ 549755813376) :
    w64 (w64 (100 * p.Detector.Long) * v) = 100 * p.Detector.Long * v ∧ w64 (p.Level * lg) = p.Level * lg := by
  have d1 := hp.d.s1; have d2 := hp.d.sl; have d3 := hp.d.l1
  have a1 := mul_le2 (a := 100 * p.Detector.Long) (b := v) (A := 51200) (B := 1073741823) (by omega) (by omega) h0 h1
  have a2 := mul_le2 (a := p.Level) (b := lg) (A := 10000) (B := 549755813376) hp.v0 hp.v1 l0 l1
  rw [w64_id (x := 100 * p.Detector.Long) (by omega) (by omega), w64_id (x := 100 * p.Detector.Long * v) (by omega) (by omega), w64_id (x := p.Level * lg) (by omega) (by omega)]
  exact ⟨rfl, rfl⟩
theorem ab_w {x : Int} (h : -1073741823 ≤ x ∧ x ≤ 1073741823) : max x (w64 (0 - x)) = ab x := by unfold ab; rw [w64_id (by omega) (by omega)]
/-- the first sample that is looked at -/
def fst0 (p : Picking) (on : Int) : Nat := (max (on - p.Back) 0).toNat
theorem onset_eq {p : Picking} (hp : PV p) {l : List Int} (hl : l.length ≤ 65536) (hs : ∀ v ∈ l, -1073741823 ≤ v ∧ v ≤ 1073741823) {on : Nat} (ho : on < l.length) {lg : Int} (l0 : 0 ≤ lg) (l1 : lg ≤ 549755813376) :
    picker_onset p l (on : Int) lg = some ((ons (qB p l lg) (fst0 p on) on : Nat) : Int) := by
  have b0 := hp.b0; have b1 := hp.b1
  unfold picker_onset
  rw [w64_id (x := (on : Int) - p.Back) (by omega) (by omega), w64_id (x := (on : Int) - 1) (by omega) (by omega)]
  simp only [Option.bind_some]
  obtain ⟨f, hf⟩ : ∃ f, fst0 p on = f := ⟨_, rfl⟩
  have hfi : max ((on : Int) - p.Back) 0 = (f : Int) := by rw [← hf]; unfold fst0; omega
  have hfo : f ≤ on := by omega
  rw [hfi, hf]
  have key : ∀ m, f ≤ m → m ≤ on → whileM (picker_onset_l2 p l (on : Int) lg (f : Int)) ((m : Int) - 1) = some ((ons (qB p l lg) f m : Nat) : Int) := by
    intro m
    induction m with
    | zero =>
      intro h1 _
      rw [whileM_eq]
      unfold picker_onset_l2
      rw [if_neg (by simp; omega)]
      simp only [Option.bind_some, Option.map_some, ons, Option.some.injEq]
      omega
    | succ m ih =>
      intro h1 h2
      rw [show ((m + 1 : Nat) : Int) - 1 = (m : Int) by omega]
      unfold ons
      by_cases hm : m + 1 ≤ f
      · rw [if_pos hm, whileM_eq]
        unfold picker_onset_l2
        rw [if_neg (by simp; omega)]
        simp only [Option.bind_some, Option.map_some, Option.some.injEq]
        omega
      · have hv := hs _ (List.getElem_mem (show m < l.length by omega))
        have hb := ab_bd hv
        obtain ⟨e1, e2⟩ := q_bd hp hb.1 hb.2 l0 l1
        have hg : l.getD m 0 = l[m]'(by omega) := getD_at' (by omega)
        have hq : qB p l lg m = decide (100 * p.Detector.Long * ab (l[m]'(by omega)) ≤ p.Level * lg) := by unfold qB; rw [hg]
        have st : picker_onset_l2 p l (on : Int) lg (f : Int) (m : Int) = some (if qB p l lg m = true then .inr ((m + 1 : Nat) : Int) else .inl ((m : Int) - 1)) := by
          unfold picker_onset_l2
          rw [if_pos (decide_eq_true (by omega)), ix_nat _ _ (show m < l.length by omega)]
          simp only [Option.bind_some]
          rw [ab_w hv, e1, e2, hq]
          by_cases hc : decide (100 * p.Detector.Long * ab (l[m]'(by omega)) ≤ p.Level * lg) = true
          · rw [if_pos hc, if_pos hc, w64_id (by omega) (by omega)]; rfl
          · rw [if_neg hc, if_neg hc, w64_id (by omega) (by omega)]
        rw [whileM_eq, st, if_neg hm]
        by_cases hc : qB p l lg m = true
        · rw [if_pos hc, if_pos hc]; rfl
        · rw [if_neg hc, if_neg hc]
          simp only [Option.bind_some]
          exact ih (by omega) (by omega)
  exact key on hfo (Nat.le_refl _)
/-- the long sum at a sample -/
def lgS (d : Detector) (l : List Int) (on : Int) : Int := win (absL l) (on.toNat + 1) d.Long.toNat
def onsV (p : Picking) (l : List Int) (on : Int) : Nat := ons (qB p l (lgS p.Detector l on)) (fst0 p on) on.toNat
theorem lgS_bd {d : Detector} (hd : DV d) {l : List Int} (hs : ∀ v ∈ l, -1073741823 ≤ v ∧ v ≤ 1073741823) (on : Int) : 0 ≤ lgS d l on ∧ lgS d l on ≤ 549755813376 := by
  have := win_bd (absL_XV hs) (on.toNat + 1) d.Long.toNat
  have := hd.l1
  unfold lgS
  omega
theorem ratV_ok {d : Detector} (hd : DV d) {l : List Int} (hl : l.length ≤ 65536) (hs : ∀ v ∈ l, -1073741823 ≤ v ∧ v ≤ 1073741823) {on : Int} (h0 : d.Long - 1 ≤ on) (h1 : on < l.length) :
    ratV d l on = (win (absL l) (on.toNat + 1) d.Short.toNat, lgS d l on, 0) := by
  unfold ratV
  rw [if_neg (by rw [DVB_iff.2 hd]; decide), if_neg (by omega), if_neg]
  · rfl
  · have : l.all SmpB = true := List.all_eq_true.2 fun v hv => SmpB_iff.2 (hs v hv)
    rw [this, inB_true h0 (by omega)]; decide
theorem Onset_ok {p : Picking} (hp : PV p) {l : List Int} (hl : l.length ≤ 65536) (hs : ∀ v ∈ l, -1073741823 ≤ v ∧ v ≤ 1073741823) {t : Trigger} (h0 : p.Detector.Long - 1 ≤ t.On) (h1 : t.On < l.length) :
    picker_Onset p l t = some (((onsV p l t.On : Nat) : Int), (0 : Int)) := by
  have d1 := hp.d.s1; have d2 := hp.d.sl
  have b := lgS_bd hp.d hs t.On
  unfold picker_Onset
  rw [pvalid_eq, PVB_iff.2 hp, Ratio_spec, ratV_ok hp.d hl hs h0 h1]
  simp only [Option.bind_some, Bool.not_true, Bool.false_eq_true, if_false, bne_self_eq_false]
  obtain ⟨on, hon⟩ := Int.eq_ofNat_of_zero_le (show 0 ≤ t.On by omega)
  have := onset_eq hp hl hs (on := on) (by omega) b.1 b.2
  rw [← hon] at this
  rw [this]
  unfold onsV
  rw [hon]; rfl
theorem onsV_bd {p : Picking} (hp : PV p) {l : List Int} {on : Int} (h0 : 0 ≤ on) : (fst0 p on : Int) ≤ onsV p l on ∧ (onsV p l on : Int) ≤ on ∧ max (on - p.Back) 0 ≤ (onsV p l on : Int) := by
  have b0 := hp.b0
  have hf : fst0 p on ≤ on.toNat := by unfold fst0; omega
  have := ons_spec (qB p l (lgS p.Detector l on)) (fst0 p on) on.toNat hf
  unfold onsV
  have e : (fst0 p on : Int) = max (on - p.Back) 0 := by unfold fst0; omega
  omega
/-! ### segments -/
def bodyR (g : Segment) : Record := ⟨⟨(⟨#[78]⟩ : ByteArray), (⟨#[83]⟩ : ByteArray), ByteArray.empty, (⟨#[67, 72, 65]⟩ : ByteArray)⟩, g.Start, g.First, g.Rate, g.Error, 0, 0, g.Samples⟩
theorem body_sm (g : Segment) : SrcSm (bodyR g).Source := ⟨by simp only [bodyR]; decide, by simp only [bodyR]; decide, by simp only [bodyR]; decide, by simp only [bodyR]; decide⟩
theorem vseg_eq {g : Segment} (hl : g.Samples.length ≤ 1000000000) : continuity_ValidSegment g = some (recB (bodyR g)) := by
  unfold continuity_ValidSegment continuity_body
  simp only [Option.bind_some]
  show ((record_Valid (bodyR g)).bind fun rv => some rv) = _
  rw [record_Valid_eq (body_sm g) hl]; rfl
def tmG (g : Segment) (i : Int) : Int := timeR (bodyR g) i
def pickV (p : Picking) (s : SourceID) (g : Segment) (t : Trigger) : Pick :=
  ⟨s, tmG g (onsV p g.Samples t.On), max 0 (tmG g (max ((onsV p g.Samples t.On : Int) - 1) 0) - g.Error), min (tmG g t.On + g.Error) 18014398509481984, t.Peak, cmpI (g.Samples.getD (onsV p g.Samples t.On) 0) 0⟩
theorem cmp_int_eq (x y : Int) : cmp_Compare_int x y = some (cmpI x y) := by
  unfold cmp_Compare_int cmp_isNaN_int cmpI
  simp only [bne_self_eq_false, Option.bind, Bool.false_eq_true, if_false]
  by_cases h1 : x < y
  · simp [h1]
  · by_cases h2 : y < x
    · simp [h1, h2]
    · simp [h1, h2]
theorem at_eq {g : Segment} (hg : RF (bodyR g)) {i : Int} (i0 : 0 ≤ i) (i1 : i ≤ g.Samples.length) : picker_pick_fn1 i g = some (tmG g i) := by
  have f0 : 0 ≤ g.First := hg.f0
  have f1 : g.First + g.Samples.length ≤ 16777216 := hg.f1
  unfold picker_pick_fn1
  rw [w64_id (by omega) (by omega), rate_Time_eq]
  have := hg.timeV (i := i) i0 i1
  simp only [Option.bind_some]
  rw [show timeV g.Start g.Rate (g.First + i) = (timeR (bodyR g) i, 0) from this]; rfl
theorem tm_bd {g : Segment} (hg : RF (bodyR g)) {i : Int} (i0 : 0 ≤ i) (i1 : i ≤ g.Samples.length) : 0 ≤ tmG g i ∧ tmG g i ≤ 9007199254740992 := hg.tb i0 i1
theorem pick_ok {p : Picking} (hp : PV p) {g : Segment} (hg : RF (bodyR g)) (s : SourceID) {t : Trigger} (h0 : p.Detector.Long - 1 ≤ t.On) (h1 : t.On < g.Samples.length) : picker_pick p s g t = some (pickV p s g t) := by
  have d1 := hp.d.s1; have d2 := hp.d.sl
  have hl : g.Samples.length ≤ 65536 := hg.l1
  have hsm : ∀ v ∈ g.Samples, -1073741823 ≤ v ∧ v ≤ 1073741823 := smpB_iff.1 hg.smp
  have e0 : 0 ≤ g.Error := hg.e0
  have e1 : g.Error ≤ 1099511627776 := hg.e1
  have hb := onsV_bd hp (l := g.Samples) (on := t.On) (by omega)
  have t1 := tm_bd hg (i := max ((onsV p g.Samples t.On : Int) - 1) 0) (by omega) (by omega)
  have t2 := tm_bd hg (i := t.On) (by omega) (by omega)
  unfold picker_pick
  rw [Onset_ok hp hl hsm h0 h1]
  simp only [Option.bind_some]
  rw [w64_id (x := (onsV p g.Samples t.On : Int) - 1) (by omega) (by omega), at_eq hg (by omega) (by omega), at_eq hg (by omega) (by omega), at_eq hg (by omega) (by omega), ix_nat _ _ (by omega)]
  simp only [Option.bind_some]
  rw [cmp_int_eq]
  simp only [Option.bind_some]
  rw [w64_id (x := tmG g _ - g.Error) (by omega) (by omega), w64_id (x := tmG g _ + g.Error) (by omega) (by omega)]
  unfold pickV
  rw [getD_at' (show onsV p g.Samples t.On < g.Samples.length by omega)]
/-- the triggers that are told -/
def loudB (p : Picking) (t : Trigger) : Bool := (t.Off != -1) && decide (p.Floor ≤ t.Peak)
def segV (p : Picking) (s : SourceID) (g : Segment) : List Pick := ((trAll p.Detector (absL g.Samples) g.Samples.length).filter (loudB p)).map (pickV p s g)
theorem pvalid1_eq {p : Picking} {s : SourceID} (hs : SrcSm s) {g : Segment} (hl : g.Samples.length ≤ 1000000000) : picker_valid p s [g] = some (PVB p && srcB s && recB (bodyR g)) := by
  unfold picker_valid
  rw [pvalid_eq, source_Valid_eq hs]
  have hc : slices_ContainsFunc_Lapi_Segment_api_Segment [g] picker_valid_fn1 = some (!(recB (bodyR g))) := by
    unfold slices_ContainsFunc_Lapi_Segment_api_Segment slices_IndexFunc_Lapi_Segment_api_Segment
    have h1 : slices_IndexFunc_Lapi_Segment_api_Segment_l2 [g] picker_valid_fn1 0 = some (if recB (bodyR g) = true then .inl 1 else .inr 0) := by
      unfold slices_IndexFunc_Lapi_Segment_api_Segment_l2 picker_valid_fn1
      rw [if_pos (by simp), show ix [g] 0 = some g from rfl]
      simp only [Option.bind_some]
      rw [vseg_eq hl]
      simp only [Option.bind_some]
      cases recB (bodyR g) <;> rfl
    rw [whileM_eq, h1]
    cases recB (bodyR g) with
    | false => rfl
    | true =>
      simp only [if_true, Option.bind_some]
      rw [whileM_eq]
      rfl
  rw [hc]
  simp only [Option.bind_some]
  cases PVB p <;> cases srcB s <;> cases recB (bodyR g) <;> rfl
theorem Segment_ok {p : Picking} (hp : PV p) {s : SourceID} (hs : srcB s = true) {g : Segment} (hg : RF (bodyR g)) (h60 : g.Samples.length ≤ 1000) : picker_Segment p s g = some (segV p s g, 0) := by
  have hsm : ∀ v ∈ g.Samples, -1073741823 ≤ v ∧ v ≤ 1073741823 := smpB_iff.1 hg.smp
  have hX := absL_XV hsm
  have hlen : (trAll p.Detector (absL g.Samples) g.Samples.length).length ≤ g.Samples.length + 1 := by
    have := trAll_len hp.d hX
    rw [absL_len] at this
    exact this
  unfold picker_Segment
  rw [pvalid1_eq (srcB_sm hs) (by omega), PVB_iff.2 hp, hs, recB_iff.2 hg, Run_spec]
  simp only [Option.bind_some, Bool.and_self, Bool.not_true, Bool.false_eq_true, if_false]
  have hrun : runV p.Detector g.Samples = (trAll p.Detector (absL g.Samples) g.Samples.length, 0) := by
    unfold runV runR
    rw [if_neg (by rw [DVB_iff.2 hp.d]; decide), if_neg (by omega), if_neg, if_neg (by omega)]
    have : g.Samples.all SmpB = true := List.all_eq_true.2 fun v hv => SmpB_iff.2 (hsm v hv)
    rw [this]; decide
  rw [hrun]
  simp only [bne_self_eq_false, Bool.false_eq_true, if_false]
  generalize hT : trAll p.Detector (absL g.Samples) g.Samples.length = T at *
  have hw : whileM (picker_Segment_l1 p s g (T, 0)) (([] : List Pick), 0) = some ((T.filter (loudB p)).map (pickV p s g)) := by
    refine whileM_for' (fun i => (((T.take i).filter (loudB p)).map (pickV p s g), (i : Int))) T.length _ (by simp) (fun i hi => ?_) ?_
    · have hm : T[i] ∈ trAll p.Detector (absL g.Samples) (absL g.Samples).length := by rw [absL_len, hT]; exact List.getElem_mem _
      have ht := trAll_mem hp.d hX hm
      rw [absL_len] at ht
      have hfl : ((T.take i).filter (loudB p)).length ≤ i := Nat.le_trans (List.length_filter_le _ _) (List.length_take_le _ _)
      unfold picker_Segment_l1
      simp only
      rw [if_pos (decide_eq_true (by omega)), ix_nat _ _ hi]
      simp only [Option.bind_some]
      have hb : ((T[i].Off != (-1)) && (decide (p.Floor ≤ T[i].Peak))) = loudB p T[i] := rfl
      rw [hb]
      by_cases hc : loudB p T[i] = true
      · rw [if_pos hc, pick_ok hp hg s ht.1 ht.2.1]
        simp only [Option.bind_some]
        rw [appM_one _ _ _ (by simp; omega) (by decide)]
        unfold picker_Segment_j1
        simp only [Option.bind_some]
        rw [w64_id (by omega) (by omega), take_one hi, List.filter_append]
        simp [hc]
      · rw [if_neg hc]
        unfold picker_Segment_j1
        simp only
        rw [w64_id (by omega) (by omega), take_one hi, List.filter_append]
        simp [hc]
    · unfold picker_Segment_l1
      simp only
      rw [if_neg (by simp), List.take_length]
  rw [hw]
  simp only [Option.bind_some]
  unfold segV
  rw [hT]
/-! ### the chapter's example -/
def sp0 : Picking := ⟨⟨1, 4, 200, 100⟩, 2, 100, 0⟩
def sl0 : List Int := [1, 1, 1, 1, 9, 9, 1, 1]
def sg0 : Segment := ⟨0, 0, ⟨1, 1⟩, 10, sl0⟩
def ss0 : SourceID := ⟨(⟨#[65]⟩ : ByteArray), (⟨#[66]⟩ : ByteArray), ByteArray.empty, (⟨#[72, 72, 90]⟩ : ByteArray)⟩
theorem sp0_pv : PV sp0 := PVB_iff.1 (by decide)
theorem sg0_rf : RF (bodyR sg0) := recB_iff.1 (by decide)
set_option maxRecDepth 100000 in
theorem sane_true : law23_sane = some true := by
  have h1 : picker_Onset sp0 sl0 ⟨4, 6, 0⟩ = some (4, 0) := by
    have h := Onset_ok sp0_pv (l := sl0) (t := ⟨4, 6, 0⟩) (by decide) (by decide) (by decide) (by decide)
    have e : onsV sp0 sl0 4 = 4 := by decide
    simp only at h
    rw [h, e]; rfl
  have h2 : picker_Segment sp0 ss0 sg0 = some ([⟨ss0, 4000000, 2999990, 4000010, 9, 1⟩], 0) := by
    have h := Segment_ok sp0_pv (s := ss0) (by decide) sg0_rf (by decide)
    have e : segV sp0 ss0 sg0 = [⟨ss0, 4000000, 2999990, 4000010, 9, 1⟩] := by
      have ht : (trAll sp0.Detector (absL sg0.Samples) sg0.Samples.length).filter (loudB sp0) = [⟨4, 6, 9⟩] := by rfl
      have e1 : onsV sp0 sg0.Samples 4 = 4 := by decide
      have e2 : tmG sg0 4 = 4000000 := by decide
      have e3 : tmG sg0 3 = 3000000 := by decide
      have e4 : pickV sp0 ss0 sg0 ⟨4, 6, 9⟩ = ⟨ss0, 4000000, 2999990, 4000010, 9, 1⟩ := by
        unfold pickV
        simp only [e1]
        rw [show max (((4 : Nat) : Int) - 1) 0 = 3 by decide, e3, show ((4 : Nat) : Int) = 4 from rfl, e2, show sg0.Error = 10 from rfl, show sg0.Samples.getD 4 0 = 9 from rfl]
        rw [show cmpI 9 0 = 1 by decide, show max (0 : Int) (3000000 - 10) = 2999990 by decide, show min (4000000 + 10) (18014398509481984 : Int) = 4000010 by decide]
      unfold segV
      rw [ht, List.map_cons, List.map_nil, e4]
    rw [h, e]
  have h1' : picker_Onset (⟨(⟨1, 4, 200, 100⟩ : Detector), 2, 100, 0⟩ : Picking) ([1, 1, 1, 1, 9, 9, 1, 1] : List Int) (⟨4, 6, 0⟩ : Trigger) = some (4, 0) := h1
  have h2' : picker_Segment (⟨(⟨1, 4, 200, 100⟩ : Detector), 2, 100, 0⟩ : Picking) (⟨(⟨#[65]⟩ : ByteArray), (⟨#[66]⟩ : ByteArray), ByteArray.empty, (⟨#[72, 72, 90]⟩ : ByteArray)⟩ : SourceID) (⟨0, 0, (⟨1, 1⟩ : Rate), 10, ([1, 1, 1, 1, 9, 9, 1, 1] : List Int)⟩ : Segment) = some ([⟨ss0, 4000000, 2999990, 4000010, 9, 1⟩], 0) := h2
  unfold law23_sane
  rw [h1', h2']
  rfl
end Go.Proofs.YtmlekplbmfengaaGreat.Sh

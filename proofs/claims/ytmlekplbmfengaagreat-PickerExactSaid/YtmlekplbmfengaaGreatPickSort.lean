/- Picks in order, and picks of several segments, as plain programs (chapter 23). -/
import Derived.Test.YtmlekplbmfengaaGreatSeg
import Derived.Test.YtmlekplbmfengaaGreatCset
namespace Go.Proofs.YtmlekplbmfengaaGreat.Sh
open Go
set_option linter.unusedVariables false
set_option linter.unusedSimpArgs false
theorem cmp_string_eq (x y : ByteArray) : cmp_Compare_string x y = some (cmpS x y) := by
  unfold cmp_Compare_string cmp_isNaN_string
  rw [cmpS_spell]
  simp only [beq_self_eq_true, Bool.not_true, Option.bind, Bool.false_eq_true, if_false]
  cases Op.bytesLess x.toList y.toList
  · cases (x.toList == y.toList) <;> simp
  · simp
theorem or_int_eq (l : List Int) (hl : l.length ≤ 1000000) : cmp_Or_int l = some (orL l) := by
  unfold cmp_Or_int
  have key : ∀ m, m ≤ l.length → whileM (cmp_Or_int_l2 l) ((l.length - m : Nat) : Int) = some (orL (l.drop (l.length - m))) := by
    intro m
    induction m with
    | zero =>
      intro _
      rw [whileM_eq, Nat.sub_zero]
      unfold cmp_Or_int_l2
      rw [if_neg (by simp)]
      simp [orL]
    | succ m ih =>
      intro hm
      have ih := ih (by omega)
      rw [show l.length - m = l.length - (m + 1) + 1 by omega] at ih
      have hi : l.length - (m + 1) < l.length := by omega
      rw [whileM_eq]
      unfold cmp_Or_int_l2
      rw [if_pos (decide_eq_true (by omega)), ix_nat _ _ hi, List.drop_eq_getElem_cons hi]
      simp only [Option.bind, orL]
      by_cases hx : l[l.length - (m + 1)] = 0
      · rw [if_neg (by simp [hx]), if_neg (by omega), w64_id (by omega) (by omega)]
        exact ih
      · rw [if_pos (by simpa using hx), if_pos hx]
  have := key l.length (Nat.le_refl _)
  rw [Nat.sub_self] at this
  exact this
def cmpSrc (a b : SourceID) : Int := andThen (fun a b => cmpS a.Network b.Network) (andThen (fun a b => cmpS a.Station b.Station) (andThen (fun a b => cmpS a.Location b.Location) (fun a b => cmpS a.Channel b.Channel))) a b
theorem cmpSrc_cmp : Cmp cmpSrc := (cmpS_cmp.by (fun s : SourceID => s.Network)).andThen ((cmpS_cmp.by (fun s : SourceID => s.Station)).andThen ((cmpS_cmp.by (fun s : SourceID => s.Location)).andThen (cmpS_cmp.by (fun s : SourceID => s.Channel))))
theorem andThen_zero {α : Type} {c d : α → α → Int} {a b : α} (h : andThen c d a b = 0) : c a b = 0 ∧ d a b = 0 := by
  unfold andThen at h
  split at h
  · next hn => exact absurd h hn
  · next hn => exact ⟨by omega, h⟩
theorem cmpSrc_eq {a b : SourceID} (h : cmpSrc a b = 0) : a = b := by
  obtain ⟨h1, h⟩ := andThen_zero h
  obtain ⟨h2, h⟩ := andThen_zero h
  obtain ⟨h3, h⟩ := andThen_zero h
  cases a; cases b
  simp only [SourceID.mk.injEq]
  exact ⟨cmpS_eq h1, cmpS_eq h2, cmpS_eq h3, cmpS_eq h⟩
theorem source_Compare_eq (a b : SourceID) : source_Compare a b = some (cmpSrc a b) := by
  unfold source_Compare
  simp only [cmp_string_eq, Option.bind]
  rw [or_int_eq _ (by simp)]
  simp only [orL, cmpSrc, andThen, Option.some.injEq]
  split
  · rfl
  · split
    · rfl
    · split
      · rfl
      · split <;> omega
/-! ### the order of picks -/
def cmpP (a b : Pick) : Int :=
  andThen (fun a b => cmpSrc a.Source b.Source) (andThen (fun a b => cmpI a.Time b.Time) (andThen (fun a b => cmpI a.Early b.Early) (andThen (fun a b => cmpI a.Late b.Late) (andThen (fun a b => cmpI a.Amplitude b.Amplitude) (fun a b => cmpI a.Polarity b.Polarity))))) a b
theorem cmpP_cmp : Cmp cmpP :=
  (cmpSrc_cmp.by (fun r : Pick => r.Source)).andThen ((cmpI_cmp.by (fun r : Pick => r.Time)).andThen ((cmpI_cmp.by (fun r : Pick => r.Early)).andThen ((cmpI_cmp.by (fun r : Pick => r.Late)).andThen ((cmpI_cmp.by (fun r : Pick => r.Amplitude)).andThen (cmpI_cmp.by (fun r : Pick => r.Polarity))))))
theorem cmpP_eq (a b : Pick) (h : cmpP a b = 0) : a = b := by
  obtain ⟨h1, h⟩ := andThen_zero h
  obtain ⟨h2, h⟩ := andThen_zero h
  obtain ⟨h3, h⟩ := andThen_zero h
  obtain ⟨h4, h⟩ := andThen_zero h
  obtain ⟨h5, h⟩ := andThen_zero h
  have e1 := cmpSrc_eq h1
  have e2 := cmpI_eq h2
  have e3 := cmpI_eq h3
  have e4 := cmpI_eq h4
  have e5 := cmpI_eq h5
  have e6 := cmpI_eq h
  cases a; cases b
  simp only at e1 e2 e3 e4 e5 e6
  subst e1 e2 e3 e4 e5 e6
  rfl
theorem picker_Compare_eq (a b : Pick) : picker_Compare a b = some (cmpP a b) := by
  unfold picker_Compare
  rw [source_Compare_eq]
  simp only [cmp_int_eq, Option.bind_some]
  rw [or_int_eq _ (by simp)]
  simp only [orL, cmpP, andThen, Option.bind_some, Option.some.injEq]
  repeat' (first | rfl | (split <;> (try rfl)))
  all_goals omega
def eqP (x y : Pick) : Bool := ((x.Source.Network == y.Source.Network) && ((x.Source.Station == y.Source.Station) && ((x.Source.Location == y.Source.Location) && ((x.Source.Channel == y.Source.Channel) && true)))) && ((x.Time == y.Time) && ((x.Early == y.Early) && ((x.Late == y.Late) && ((x.Amplitude == y.Amplitude) && ((x.Polarity == y.Polarity) && true)))))
theorem ba_beq' (a b : ByteArray) : (a == b) = decide (a = b) := by
  cases a with | mk x => cases b with | mk y =>
  show (x == y) = _
  rw [Bool.eq_iff_iff]; simp
theorem eqP_iff (x y : Pick) : eqP x y = true ↔ x = y := by
  unfold eqP
  simp only [ba_beq', Bool.and_true, Bool.and_eq_true, decide_eq_true_eq, beq_iff_eq]
  obtain ⟨⟨a1, a2, a3, a4⟩, a5, a6, a7, a8, a9⟩ := x
  obtain ⟨⟨b1, b2, b3, b4⟩, b5, b6, b7, b8, b9⟩ := y
  simp only [Pick.mk.injEq, SourceID.mk.injEq]
theorem sort_pick (l : List Pick) (f : Pick → Pick → Option Int) : slices_SortFunc_Lapi_Pick_api_Pick l f = sortP l f := rfl
def pick0 : Pick := ⟨(⟨ByteArray.empty, ByteArray.empty, ByteArray.empty, ByteArray.empty⟩ : SourceID), 0, 0, 0, 0, 0⟩
theorem compact_pick (l : List Pick) : slices_Compact_Lapi_Pick_api_Pick l = compact_G pick0 (fun x y => some (eqP x y)) l := rfl
theorem clone_pick (l : List Pick) (h : l.length ≤ 1000000) : slices_Clone_Lapi_Pick_api_Pick l = some l := by
  unfold slices_Clone_Lapi_Pick_api_Pick
  rw [appM_one _ _ _ (by simpa using h) (by decide)]
  rfl
theorem picker_Sort_eq {l : List Pick} (hl : l.length < 1000000) : picker_Sort l = some (sset cmpP l) := by
  unfold picker_Sort
  rw [clone_pick _ (by omega)]
  simp only [Option.bind_some]
  obtain ⟨m, e1, e2⟩ := setsort_spec cmpP_cmp cmpP_eq (f := picker_Compare) (g := fun x y => some (eqP x y)) (eq := eqP) pick0 (l := l) (P := fun _ => True) (fun _ _ => trivial) (fun x y _ _ => picker_Compare_eq x y) (fun _ _ _ _ => rfl) (fun x y _ _ => eqP_iff x y) hl
  rw [sort_pick, e1]
  simp only [Option.bind_some]
  rw [compact_pick, e2]
  rfl
/-! ### several segments -/
theorem segs_any {l : List Segment} (hl : l.length ≤ 1000000) (hs : ∀ g ∈ l, g.Samples.length ≤ 1000000000) : slices_ContainsFunc_Lapi_Segment_api_Segment l picker_valid_fn1 = some (!(l.all fun g => recB (bodyR g))) := by
  unfold slices_ContainsFunc_Lapi_Segment_api_Segment slices_IndexFunc_Lapi_Segment_api_Segment
  have key : ∀ m, m ≤ l.length → ∃ r : Int, whileM (slices_IndexFunc_Lapi_Segment_api_Segment_l2 l picker_valid_fn1) ((l.length - m : Nat) : Int) = some r ∧ (decide (0 ≤ r) = !((l.drop (l.length - m)).all fun g => recB (bodyR g))) := by
    intro m
    induction m with
    | zero =>
      intro _
      rw [whileM_eq, Nat.sub_zero]
      unfold slices_IndexFunc_Lapi_Segment_api_Segment_l2
      rw [if_neg (by simp)]
      simp
    | succ m ih =>
      intro hm
      have ih := ih (by omega)
      rw [show l.length - m = l.length - (m + 1) + 1 by omega] at ih
      have hi : l.length - (m + 1) < l.length := by omega
      have st : slices_IndexFunc_Lapi_Segment_api_Segment_l2 l picker_valid_fn1 ((l.length - (m + 1) : Nat) : Int) = some (if recB (bodyR l[l.length - (m + 1)]) = true then .inl ((l.length - (m + 1) + 1 : Nat) : Int) else .inr ((l.length - (m + 1) : Nat) : Int)) := by
        unfold slices_IndexFunc_Lapi_Segment_api_Segment_l2 picker_valid_fn1
        rw [if_pos (decide_eq_true (by omega)), ix_nat _ _ hi]
        simp only [Option.bind_some]
        rw [vseg_eq (hs _ (List.getElem_mem hi)), w64_id (by omega) (by omega)]
        simp only [Option.bind_some]
        cases recB (bodyR l[l.length - (m + 1)]) <;> rfl
      rw [whileM_eq, st, List.drop_eq_getElem_cons hi, List.all_cons]
      cases hr : recB (bodyR l[l.length - (m + 1)]) with
      | true =>
        obtain ⟨r, h1, h2⟩ := ih
        exact ⟨r, h1, by simpa using h2⟩
      | false => exact ⟨_, rfl, by simp⟩
  obtain ⟨r, h1, h2⟩ := key l.length (Nat.le_refl _)
  rw [Nat.sub_self] at h1 h2
  rw [show ((0 : Nat) : Int) = 0 from rfl] at h1
  rw [h1]
  simp only [Option.bind_some]
  rw [h2]; rfl
theorem pvalid_all {p : Picking} {s : SourceID} (hs : SrcSm s) {l : List Segment} (hl : l.length ≤ 1000000) (hg : ∀ g ∈ l, g.Samples.length ≤ 1000000000) : picker_valid p s l = some (PVB p && srcB s && l.all fun g => recB (bodyR g)) := by
  unfold picker_valid
  rw [pvalid_eq, source_Valid_eq hs, segs_any hl hg]
  simp only [Option.bind_some]
  cases PVB p <;> cases srcB s <;> cases l.all fun g => recB (bodyR g) <;> rfl
theorem segV_len {p : Picking} (hp : PV p) {s : SourceID} {g : Segment} (hg : RF (bodyR g)) : (segV p s g).length ≤ g.Samples.length + 1 := by
  have hsm : ∀ v ∈ g.Samples, -1073741823 ≤ v ∧ v ≤ 1073741823 := smpB_iff.1 hg.smp
  have := trAll_len hp.d (absL_XV hsm)
  rw [absL_len] at this
  unfold segV
  rw [List.length_map]
  exact Nat.le_trans (List.length_filter_le _ _) this
/-- the picks of segments, as they come -/
def segsV (p : Picking) (s : SourceID) : List Segment → List Pick
  | [] => []
  | g :: l => segV p s g ++ segsV p s l
theorem segsV_app (p : Picking) (s : SourceID) (a b : List Segment) : segsV p s (a ++ b) = segsV p s a ++ segsV p s b := by
  induction a with
  | nil => rfl
  | cons g a ih => simp only [List.cons_append, segsV, ih, List.append_assoc]
theorem segsV_len {p : Picking} (hp : PV p) {s : SourceID} : ∀ {l : List Segment}, (∀ g ∈ l, RF (bodyR g) ∧ g.Samples.length ≤ 61) → (segsV p s l).length ≤ 62 * l.length
  | [], _ => Nat.le_refl _
  | g :: l, h => by
    have h1 := h g List.mem_cons_self
    have h2 := segsV_len hp (s := s) (l := l) fun x hx => h x (List.mem_cons_of_mem _ hx)
    have h3 := segV_len hp (s := s) h1.1
    simp only [segsV, List.length_append, List.length_cons]
    omega
theorem Run_ok {p : Picking} (hp : PV p) {s : SourceID} (hs : srcB s = true) {l : List Segment} (hl : l.length ≤ 8) (hg : ∀ g ∈ l, RF (bodyR g) ∧ g.Samples.length ≤ 61) : picker_Run p s l = some (sset cmpP (segsV p s l), 0) := by
  unfold picker_Run
  rw [pvalid_all (srcB_sm hs) (by omega) (fun g h => by have := (hg g h).2; omega), PVB_iff.2 hp, hs]
  have : (l.all fun g => recB (bodyR g)) = true := List.all_eq_true.2 fun g h => recB_iff.2 (hg g h).1
  rw [this]
  simp only [Option.bind_some, Bool.and_self, Bool.not_true, Bool.false_eq_true, if_false]
  have hlen := segsV_len hp (s := s) hg
  have hss := sset_len cmpP (segsV p s l)
  refine whileM_for' (fun i => (segsV p s (l.take i), (i : Int))) l.length _ (by simp [segsV]) (fun i hi => ?_) ?_
  · have h1 := hg _ (List.getElem_mem hi)
    have h2 := segsV_len hp (s := s) (l := l.take i) fun g h => hg g (List.mem_of_mem_take h)
    have h3 := segV_len hp (s := s) h1.1
    rw [List.length_take] at h2
    unfold picker_Run_l2
    simp only
    rw [if_pos (decide_eq_true (by omega)), ix_nat _ _ hi]
    simp only [Option.bind_some]
    rw [Segment_ok hp hs h1.1 (by omega)]
    simp only [Option.bind_some, bne_self_eq_false, Bool.false_eq_true, if_false]
    rw [appM_one _ _ _ (by omega) (by decide), w64_id (by omega) (by omega), take_one hi, segsV_app]
    simp only [segsV, List.append_nil, Option.bind_some]
    rfl
  · unfold picker_Run_l2
    simp only
    rw [if_neg (by simp), List.take_length, picker_Sort_eq (by omega)]
    simp only [Option.bind_some]
    rw [if_neg (by simp; omega)]
    rfl
end Go.Proofs.YtmlekplbmfengaaGreat.Sh

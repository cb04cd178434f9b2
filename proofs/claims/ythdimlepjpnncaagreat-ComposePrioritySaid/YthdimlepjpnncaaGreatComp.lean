/- Composition of records as plain programs (chapter 15): order, what is kept, runs. -/
import Derived.Test.YthdimlepjpnncaaGreatSpanN
import Derived.Test.YthdimlepjpnncaaGreatRecCmp
import Derived.Test.YthdimlepjpnncaaGreatCset
namespace Go.Proofs.YthdimlepjpnncaaGreat.Sh
open Go
set_option linter.unusedVariables false
set_option linter.unusedSimpArgs false

/-- a valid list -/
structure VL (l : List Record) : Prop where
  rf : ∀ r ∈ l, RF r
  src : ∀ r ∈ l, ∀ q ∈ l, r.Source = q.Source
theorem VL.sub {l m : List Record} (h : VL l) (hm : ∀ r ∈ m, r ∈ l) : VL m := ⟨fun r hr => h.rf r (hm r hr), fun r hr q hq => h.src r (hm r hr) q (hm q hq)⟩
theorem alike1_ok {l : List Record} (h : VL l) {r : Record} (hr : r ∈ l) : compose_alike_fn1 r l = some false := by
  unfold compose_alike_fn1
  rw [(h.rf r hr).valid]
  simp only [Option.bind_some, Bool.not_true, Bool.false_eq_true, if_false]
  cases l with
  | nil => cases hr
  | cons a l =>
    rw [show ix (a :: l) 0 = some a from rfl]
    have := h.src r hr a List.mem_cons_self
    simp only [Option.bind_some]
    rw [this]
    simp only [ba_refl, Bool.and_self, Bool.not_true]
theorem alike_ok {l : List Record} (h : VL l) (hl : l.length ≤ 1000000) : compose_alike l = some true := by
  unfold compose_alike slices_ContainsFunc_Lapi_Record_api_Record slices_IndexFunc_Lapi_Record_api_Record
  have : whileM (slices_IndexFunc_Lapi_Record_api_Record_l2 l (fun y0 => compose_alike_fn1 y0 l)) 0 = some (-1) := by
    refine whileM_for' (fun i => (i : Int)) l.length _ rfl (fun i hi => ?_) ?_
    · unfold slices_IndexFunc_Lapi_Record_api_Record_l2
      rw [if_pos (decide_eq_true (by omega)), ix_nat _ _ hi]
      simp only [Option.bind_some]
      rw [alike1_ok h (List.getElem_mem hi)]
      simp only [Option.bind_some, Bool.false_eq_true, if_false]
      rw [w64_n (by omega)]
    · unfold slices_IndexFunc_Lapi_Record_api_Record_l2
      rw [if_neg (by simp)]
      rfl
  rw [this]
  rfl
theorem valid_ok {l : List Record} (h : VL l) (hl : l.length ≤ 256) : compose_Valid l = some true := by
  unfold compose_Valid
  rw [if_pos (decide_eq_true (by omega)), alike_ok h (by omega)]
  rfl

/-! ### the list in order, each once -/
def rec0 : Record := ⟨(⟨ByteArray.empty, ByteArray.empty, ByteArray.empty, ByteArray.empty⟩ : SourceID), 0, 0, (⟨0, 0⟩ : Rate), 0, 0, 0, ([] : List Int)⟩
theorem compact_rec (l : List Record) : slices_CompactFunc_Lapi_Record_api_Record l record_Same = compact_G rec0 record_Same l := rfl
theorem cmpR_tot {x y : Record} (h1 : decide (cmpR x y < 0) = false) (h2 : decide (cmpR y x < 0) = false) : x = y := by
  simp only [decide_eq_false_iff_not] at h1 h2
  have := cmpR_cmp.anti x y
  exact cmpR_eq (by omega)
theorem sortR_spec {l : List Record} (hs : ∀ r ∈ l, RSm r) (hl : l.length ≤ 1000000) : ∃ m, slices_SortFunc_Lapi_Record_api_Record l record_Compare = some m ∧ m.Perm l ∧ m.Pairwise (fun s t => cmpR s t ≤ 0) := by
  have hok : CmpOK RSm record_Compare (fun x y => decide (cmpR x y < 0)) := cmpR_cmp.ok fun x y hx hy => record_Compare_eq hx hy
  obtain ⟨m, em, hp, hn, hsr⟩ := sort_spec hok hs (by omega)
  refine ⟨m, ?_, hp, ?_⟩
  · show sortM l record_Compare = some m
    rw [sortM_eq hok hs (fun x y _ _ h1 h2 => cmpR_tot h1 h2), em]
  · rw [← hn] at hsr
    exact hsr.cpw cmpR_cmp
theorem order_ok {l : List Record} (h : VL l) (hl : l.length ≤ 1000) : compose_order l = some (sset cmpR l) := by
  unfold compose_order slices_Clone_Lapi_Record_api_Record
  rw [appM_one _ _ _ (by simp; omega) (by decide)]
  simp only [Option.bind_some, List.nil_append]
  have hw : whileM (compose_order_l1 l) (l, 0) = some l := by
    refine whileM_for' (fun i => (l, (i : Int))) l.length _ rfl (fun i hi => ?_) ?_
    · have hr := h.rf _ (List.getElem_mem hi)
      have l1 := hr.l1
      unfold compose_order_l1
      simp only
      rw [if_pos (decide_eq_true (by omega)), ix_nat _ _ hi]
      simp only [Option.bind_some]
      rw [clone_int _ (by omega)]
      simp only [Option.bind_some]
      rw [setM_at _ _ _ (by omega) (by omega), w64_n (by omega)]
      simp only [Option.bind_some, Int.toNat_natCast]
      have e : (⟨l[i].Source, l[i].Start, l[i].First, l[i].Rate, l[i].Error, l[i].Run, l[i].Seq, l[i].Samples⟩ : Record) = l[i] := rfl
      rw [e, List.set_getElem_self]
    · unfold compose_order_l1
      simp only
      rw [if_neg (by simp)]
  rw [hw]
  simp only [Option.bind_some]
  have hs : ∀ r ∈ l, RSm r := fun r hr => (h.rf r hr).sm
  have hok : CmpOK RSm record_Compare (fun x y => decide (cmpR x y < 0)) := cmpR_cmp.ok fun x y hx hy => record_Compare_eq hx hy
  open Classical in
  obtain ⟨m, e1, e2⟩ := setsort_spec cmpR_cmp (fun _ _ => cmpR_eq) (f := record_Compare) (g := record_Same) (eq := fun a b => decide (a = b)) rec0 (l := l) (P := RSm) hs (fun x y hx hy => record_Compare_eq hx hy) (fun x y hx _ => record_Same_eq hx) (fun x y _ _ => by simp) (by omega)
  have e1' : slices_SortFunc_Lapi_Record_api_Record l record_Compare = some m := by
    show sortM l record_Compare = some m
    rw [sortM_eq hok hs (fun x y _ _ h1 h2 => cmpR_tot h1 h2), e1]
  rw [e1']
  simp only [Option.bind_some]
  rw [compact_rec, e2]
  rfl

/-! ### times -/
theorem at_ok {r : Record} (h : RF r) {i : Int} (i0 : 0 ≤ i) (i1 : i ≤ r.Samples.length) : compose_at r i = some (timeR r i) := by
  have f0 := h.f0; have f1 := h.f1
  unfold compose_at
  rw [w64_id (by omega) (by omega), rate_Time_eq, h.timeV i0 i1]
  rfl
def extR (r : Record) : Span := ⟨timeR r 0, timeR r r.Samples.length⟩
theorem extent_ok {r : Record} (h : RF r) : compose_extent r = some (extR r) := by
  unfold compose_extent
  rw [at_ok h (Int.le_refl 0) (by omega), at_ok h (by omega) (Int.le_refl _)]
  rfl
theorem RF.lt {r : Record} (h : RF r) {i j : Int} (hij : i < j) : timeR r i < timeR r j := by
  have n0 := h.rv.n0; have n1 := h.rv.n1; have d0 := h.rv.d0
  have h1 : timeR r i < timeR r (i + 1) := by
    unfold timeR
    have e : (r.First + (i + 1)) * (r.Rate.Den * 1000000) = (r.First + i) * (r.Rate.Den * 1000000) + r.Rate.Den * 1000000 := by
      rw [← Int.add_assoc, Int.add_mul, Int.one_mul]
    have h2 : (r.First + i) * (r.Rate.Den * 1000000) + r.Rate.Num * 1 ≤ (r.First + (i + 1)) * (r.Rate.Den * 1000000) := by rw [e]; omega
    have h3 := Int.ediv_le_ediv (show 0 < r.Rate.Num by omega) h2
    rw [Int.add_mul_ediv_left _ _ (show r.Rate.Num ≠ 0 by omega)] at h3
    omega
  exact Int.lt_of_lt_of_le h1 (h.mono (by omega))
def timesR (r : Record) (n : Nat) : List Int := (List.range n).map fun (i : Nat) => timeR r (i : Int)
theorem timesR_succ (r : Record) (n : Nat) : timesR r (n + 1) = timesR r n ++ [timeR r (n : Int)] := by simp [timesR, List.range_succ]
theorem times_ok {r : Record} (h : RF r) : compose_times r = some (timesR r (r.Samples.length + 1)) := by
  have l1 := h.l1
  unfold compose_times
  have : whileM (compose_times_l1 r) (([] : List Int), 0) = some (timesR r (r.Samples.length + 1)) := by
    refine whileM_for' (fun i => (timesR r i, (i : Int))) (r.Samples.length + 1) _ rfl (fun i hi => ?_) ?_
    · unfold compose_times_l1
      simp only
      rw [w64_n (by omega), if_pos (decide_eq_true (by omega)), at_ok h (by omega) (by omega)]
      simp only [Option.bind_some]
      rw [appM_one _ _ _ (by simp [timesR]; omega) (by decide), w64_n (by omega), timesR_succ]
      rfl
    · unfold compose_times_l1
      simp only
      rw [w64_n (by omega), if_neg (by simp)]
  rw [this]
  rfl

/-! ### what is kept -/
/-- a span meets a sample -/
def meets (r : Record) (i : Nat) (s : Span) : Bool := decide (s.From < timeR r ((i : Int) + 1)) && decide (timeR r (i : Int) < s.To)
def keepB (r : Record) (better : List Span) (i : Nat) : Bool := better.all fun s => !(meets r i s)
def keepL (r : Record) (better : List Span) (n : Nat) : List Bool := (List.range n).map (keepB r better)
theorem keepL_succ (r : Record) (better : List Span) (n : Nat) : keepL r better (n + 1) = keepL r better n ++ [keepB r better n] := by simp [keepL, List.range_succ]
theorem timesR_at (r : Record) {i n : Nat} (h : i < n) : ix (timesR r n) (i : Int) = some (timeR r (i : Int)) := by
  rw [ix_nat _ _ (by simpa [timesR] using h)]
  simp [timesR]
theorem kept_ok {r : Record} (h : RF r) {better : List Span} (hv : VS better) (hb : better.length ≤ 100000) : compose_kept r better = some (keepL r better r.Samples.length) := by
  have l1 := h.l1
  unfold compose_kept
  rw [times_ok h]
  simp only [Option.bind_some]
  rw [makeM_at _ _ _ (by omega) (by omega) (by decide)]
  simp only [Option.bind_some, Int.toNat_natCast]
  obtain ⟨n, hn⟩ : ∃ n, r.Samples.length = n := ⟨_, rfl⟩
  rw [hn]
  suffices key : ∃ o, whileM (compose_kept_l3 better (timesR r (n + 1)) (List.replicate n false)) (List.replicate n false, 0, 0) = some o ∧ o = keepL r better n by
    obtain ⟨o, eo, ho⟩ := key
    rw [eo, ho]
    rfl
  refine loop_fold (body := compose_kept_l3 better (timesR r (n + 1)) (List.replicate n false)) (fun (a : List Bool × Nat) i => (a.1, (a.2 : Int), i)) n
    (fun i a => a.1 = keepL r better i ++ List.replicate (n - i) false ∧ a.2 ≤ better.length ∧ ∀ j (hj : j < better.length), j < a.2 → better[j].To ≤ timeR r (i : Int))
    (fun o => o = keepL r better n) (fun i hi a ⟨g1, g2, g3⟩ => ?_) (fun a ⟨g1, g2, g3⟩ => ?_) (List.replicate n false, 0) ⟨by simp [keepL], Nat.zero_le _, fun j _ hj => by omega⟩
  · obtain ⟨out, k⟩ := a
    simp only at g1 g2 g3
    obtain ⟨k', ek, q, hq, k1, k2, k3⟩ := loop_ex (b1 := compose_kept_l6 better (timesR r (n + 1)) (out, (k : Int), (i : Int)))
      (fun m s => ∃ q : Nat, s = (q : Int) ∧ m + q = better.length ∧ q ≤ better.length ∧ ∀ j (hj : j < better.length), j < q → better[j].To ≤ timeR r (i : Int))
      (fun s => ∃ q : Nat, s = (q : Int) ∧ q ≤ better.length ∧ (∀ j (hj : j < better.length), j < q → better[j].To ≤ timeR r (i : Int)) ∧ (q = better.length ∨ ∃ hj : q < better.length, timeR r (i : Int) < better[q].To)) (by
        rintro m s ⟨q, rfl, hm, q1, q2⟩
        unfold compose_kept_l6
        simp only
        by_cases hlt : q < better.length
        · rw [if_pos (decide_eq_true (by omega)), ix_nat _ _ hlt, timesR_at r (by omega)]
          simp only [Option.bind_some]
          by_cases hc : better[q].To ≤ timeR r (i : Int)
          · left
            rw [if_pos (decide_eq_true hc), w64_n (by omega)]
            refine ⟨_, m - 1, rfl, ⟨q + 1, rfl, by omega, by omega, fun j hj hjq => ?_⟩, by omega⟩
            by_cases e : j = q
            · subst e; exact hc
            · exact q2 j hj (by omega)
          · right
            rw [if_neg (by simpa using hc)]
            exact ⟨_, rfl, q, rfl, q1, q2, .inr ⟨hlt, by omega⟩⟩
        · right
          rw [if_neg (by simp; omega)]
          simp only [Option.bind_some, Bool.false_eq_true, if_false]
          exact ⟨_, rfl, q, rfl, q1, q2, .inl (by omega)⟩) (better.length - k) (k : Int) ⟨k, rfl, by omega, g2, g3⟩
    subst hq
    have hol : out.length = n := by rw [g1]; simp [keepL]; omega
    have hkb : (if ((q : Int) == (better.length : Int)) = true then some true else (ix better (q : Int)).bind fun x798 => (ix (timesR r (n + 1)) (w64 ((i : Int) + 1))).bind fun x811 => some (decide (x811 ≤ x798.From))) = some (keepB r better i) := by
      rcases k3 with k3 | ⟨hj, k3⟩
      · rw [if_pos (by simp [k3])]
        have : keepB r better i = true := by
          unfold keepB
          rw [List.all_eq_true]
          intro s hs
          obtain ⟨j, hj, e⟩ := List.mem_iff_getElem.1 hs
          have := k2 j hj (by omega)
          rw [e] at this
          unfold meets
          rw [decide_eq_false (show ¬ timeR r (i : Int) < s.To by omega)]
          simp
        rw [this]
      · rw [if_neg (by simp; omega), ix_nat _ _ hj, w64_n (by omega), timesR_at r (by omega)]
        simp only [Option.bind_some, Option.some.injEq]
        have e1 : ((i + 1 : Nat) : Int) = (i : Int) + 1 := by omega
        rw [e1]
        by_cases hc : timeR r ((i : Int) + 1) ≤ better[q].From
        · rw [decide_eq_true hc]
          symm
          unfold keepB
          rw [List.all_eq_true]
          intro s hs
          obtain ⟨j, hjl, e⟩ := List.mem_iff_getElem.1 hs
          unfold meets
          rcases Nat.lt_trichotomy j q with hlt | heq | hgt
          · have := k2 j hjl hlt
            rw [e] at this
            rw [decide_eq_false (show ¬ timeR r (i : Int) < s.To by omega)]
            simp
          · subst heq
            rw [e] at hc
            rw [decide_eq_false (show ¬ s.From < timeR r ((i : Int) + 1) by omega)]
            simp
          · have h1 := List.pairwise_iff_getElem.1 hv.ap q j hj hjl hgt
            have h2 := hv.ne _ (List.getElem_mem hj)
            rw [e] at h1
            rw [decide_eq_false (show ¬ s.From < timeR r ((i : Int) + 1) by omega)]
            simp
        · rw [decide_eq_false hc]
          symm
          unfold keepB
          rw [List.all_eq_false]
          refine ⟨better[q], List.getElem_mem hj, ?_⟩
          unfold meets
          rw [decide_eq_true (show better[q].From < timeR r ((i : Int) + 1) by omega), decide_eq_true k3]
          simp
    unfold compose_kept_l3
    simp only
    rw [if_pos (decide_eq_true (by simp; omega)), ek]
    simp only [Option.bind_some]
    rw [hkb]
    simp only [Option.bind_some]
    rw [ix_nat out i (by omega)]
    simp only [Option.bind_some]
    rw [setM_at _ _ _ (by omega) (by omega), w64_n (by omega)]
    simp only [Option.bind_some, Int.toNat_natCast]
    refine ⟨(out.set i (keepB r better i), q), rfl, ?_, k1, fun j hj hjq => ?_⟩
    · simp only
      have hkl : (keepL r better i).length = i := by simp [keepL]
      rw [g1, keepL_succ, List.set_append, if_neg (by omega), hkl, Nat.sub_self]
      have : List.replicate (n - i) false = false :: List.replicate (n - (i + 1)) false := by
        rw [show n - i = n - (i + 1) + 1 by omega, List.replicate_succ]
      rw [this, List.set_cons_zero, List.append_assoc]
      rfl
    · have := k2 j hj hjq
      have := h.mono (i := (i : Int)) (j := ((i + 1 : Nat) : Int)) (by omega)
      omega
  · obtain ⟨out, k⟩ := a
    simp only at g1
    unfold compose_kept_l3
    simp only
    rw [if_neg (by simp)]
    refine ⟨_, rfl, ?_⟩
    rw [g1]
    simp

end Go.Proofs.YthdimlepjpnncaaGreat.Sh

/- Ticks of a wire, the next message, the dice's faults, the chapter's example (chapter 9). -/
import Derived.Test.YtljdiobhmenjgaaWire2
namespace Go.Proofs.Ytljdiobhmenjgaa.Sh
open Go
set_option linter.unusedVariables false
set_option linter.unusedSimpArgs false

/-- what arrives at a tick, what stays -/
def dueL (t : Int) (l : List Transit) : List Transit := l.filter (fun x => x.At == t)
def restL (t : Int) (l : List Transit) : List Transit := l.filter (fun x => !(x.At == t))
theorem rest_wv {w : Wire} (h : WV w) (hn : w.Now < 1099511627776) : WV ⟨w.Now + 1, w.Order, restL (w.Now + 1) w.Items⟩ := by
  have h1 := h.n
  refine ⟨by simp only; omega, h.o, Nat.le_trans (List.length_filter_le _ _) h.l, fun x hx => ?_, h.s.filter _⟩
  obtain ⟨hx, hq⟩ := List.mem_filter.1 hx
  have hw := h.i x hx
  have ha := hw.a
  have : x.At ≠ w.Now + 1 := by simpa using hq
  exact ⟨hw.d, by simp only; omega, hw.o⟩
theorem tick_loop {w : Wire} (h : WV w) : ∃ n : Nat, whileM (link_Tick_l1 w) ([], 0) = some ((dueL (w.Now + 1) w.Items).map (·.Data), (n : Int)) ∧ n ≤ w.Items.length ∧ w.Items.drop n = restL (w.Now + 1) w.Items := by
  have hn := h.n
  have hl := h.l
  obtain ⟨r, er, n, rfl, hnl, hd⟩ := loop_ex (b1 := link_Tick_l1 w) (fun k s => ∃ i : Nat, s = ((w.Items.take i).map (·.Data), (i : Int)) ∧ k + i = w.Items.length ∧ ∀ j (hj : j < w.Items.length), j < i → w.Items[j].At = w.Now + 1)
    (fun r => ∃ n : Nat, r = ((dueL (w.Now + 1) w.Items).map (·.Data), (n : Int)) ∧ n ≤ w.Items.length ∧ w.Items.drop n = restL (w.Now + 1) w.Items) (by
      rintro k s ⟨i, rfl, hk, hA⟩
      have hend : (∀ j (hj : j < w.Items.length), i ≤ j → w.Items[j].At ≠ w.Now + 1) → dueL (w.Now + 1) w.Items = w.Items.take i ∧ w.Items.drop i = restL (w.Now + 1) w.Items := fun hB => by
        constructor
        · unfold dueL
          conv => lhs; rw [← List.take_append_drop i w.Items]
          rw [List.filter_append]
          have q1 : (w.Items.take i).filter (fun x => x.At == w.Now + 1) = w.Items.take i := List.filter_eq_self.2 (fun x hx => by
            obtain ⟨j, hj, rfl⟩ := List.getElem_of_mem hx
            simp at hj
            rw [List.getElem_take]
            simpa using hA j (by omega) (by omega))
          have q2 : (w.Items.drop i).filter (fun x => x.At == w.Now + 1) = [] := List.filter_eq_nil_iff.2 (fun x hx => by
            obtain ⟨j, hj, rfl⟩ := List.getElem_of_mem hx
            simp at hj
            rw [List.getElem_drop]
            simpa using hB (i + j) (by omega) (by omega))
          rw [q1, q2, List.append_nil]
        · unfold restL
          conv => rhs; rw [← List.take_append_drop i w.Items]
          rw [List.filter_append]
          have q1 : (w.Items.take i).filter (fun x => !(x.At == w.Now + 1)) = [] := List.filter_eq_nil_iff.2 (fun x hx => by
            obtain ⟨j, hj, rfl⟩ := List.getElem_of_mem hx
            simp at hj
            rw [List.getElem_take]
            simpa using hA j (by omega) (by omega))
          have q2 : (w.Items.drop i).filter (fun x => !(x.At == w.Now + 1)) = w.Items.drop i := List.filter_eq_self.2 (fun x hx => by
            obtain ⟨j, hj, rfl⟩ := List.getElem_of_mem hx
            simp at hj
            rw [List.getElem_drop]
            simpa using hB (i + j) (by omega) (by omega))
          rw [q1, q2, List.nil_append]
      unfold link_Tick_l1
      simp only
      by_cases hi : i < w.Items.length
      · rw [if_pos (decide_eq_true (by omega)), ix_nat _ _ hi, w64_id (x := w.Now + 1) (by omega) (by omega)]
        simp only [Option.bind_some]
        by_cases he : w.Items[i].At = w.Now + 1
        · left
          rw [if_pos (by simpa using he), appM_one _ _ _ (by simp; omega) (by decide), w64_n (by omega)]
          refine ⟨_, k - 1, rfl, ⟨i + 1, ?_, by omega, fun j hj hji => ?_⟩, by omega⟩
          · rw [take_one hi, List.map_append]; rfl
          · by_cases hq : j = i
            · subst hq; exact he
            · exact hA j hj (by omega)
        · right
          rw [if_neg (by simpa using he)]
          obtain ⟨q1, q2⟩ := hend (fun j hj hij => by
            have h1 := (h.i _ (List.getElem_mem hi)).a
            by_cases hq : i = j
            · subst hq; exact he
            · have h3 := List.pairwise_iff_getElem.1 h.s i j hi hj (by omega)
              unfold tlt at h3
              omega)
          exact ⟨_, rfl, i, by rw [q1], by omega, q2⟩
      · right
        rw [if_neg (by simp; omega)]
        simp only [Option.bind_some, Bool.false_eq_true, if_false]
        obtain ⟨q1, q2⟩ := hend (fun j hj hij => by omega)
        exact ⟨_, rfl, i, by rw [q1], by omega, q2⟩) w.Items.length ([], 0) ⟨0, rfl, rfl, fun j hj h => by omega⟩
  exact ⟨n, er, hnl, hd⟩
theorem rtick_loop {w : Wire} (h : WV w) : whileM (ref09_Tick_l1 w) ([], [], 0) = some (restL (w.Now + 1) w.Items, (dueL (w.Now + 1) w.Items).map (·.Data)) := by
  have hn := h.n
  have hl := h.l
  obtain ⟨r, er, rfl⟩ := loop_fold (body := ref09_Tick_l1 w) (fun (a : List Transit × List ByteArray) i => (a.1, a.2, i)) w.Items.length (fun i a => a = (restL (w.Now + 1) (w.Items.take i), (dueL (w.Now + 1) (w.Items.take i)).map (·.Data)))
    (fun r => r = (restL (w.Now + 1) w.Items, (dueL (w.Now + 1) w.Items).map (·.Data))) (fun i hi a ha => by
      subst ha
      have l1 : (restL (w.Now + 1) (w.Items.take i)).length ≤ i := Nat.le_trans (List.length_filter_le _ _) (by rw [List.length_take]; omega)
      have l2 : (dueL (w.Now + 1) (w.Items.take i)).length ≤ i := Nat.le_trans (List.length_filter_le _ _) (by rw [List.length_take]; omega)
      unfold ref09_Tick_l1 ref09_Tick_j1
      simp only
      rw [if_pos (decide_eq_true (by omega)), ix_nat _ _ hi, w64_id (x := w.Now + 1) (by omega) (by omega), w64_n (by omega)]
      simp only [Option.bind_some]
      by_cases he : w.Items[i].At = w.Now + 1
      · rw [if_pos (by simpa using he), appM_one _ _ _ (by simp; omega) (by decide)]
        refine ⟨(_, _), rfl, ?_⟩
        unfold restL dueL
        rw [take_one hi, List.filter_append, List.filter_append]
        simp [he]
      · rw [if_neg (by simpa using he), appM_one _ _ _ (by simp; omega) (by decide)]
        refine ⟨(_, _), rfl, ?_⟩
        unfold restL dueL
        rw [take_one hi, List.filter_append, List.filter_append]
        simp [he]) (fun a ha => by
      unfold ref09_Tick_l1
      simp only
      rw [if_neg (by simp), ha, List.take_of_length_le (Nat.le_refl _)]
      exact ⟨_, rfl, rfl⟩) ([], []) rfl
  exact er
theorem clone_wire {l : List Transit} (h : l.length ≤ 1000000) : slices_Clone_Lapi_Transit_api_Transit l = some l := by
  unfold slices_Clone_Lapi_Transit_api_Transit
  rw [appM_one _ _ _ (by simp; omega) (by decide)]
  rfl
theorem tick_spec {w : Wire} (h : WV w) (hn : w.Now < 1099511627776) : link_Tick w = some (⟨w.Now + 1, w.Order, restL (w.Now + 1) w.Items⟩, (dueL (w.Now + 1) w.Items).map (·.Data), 0) ∧
    ref09_Tick w = some (⟨w.Now + 1, w.Order, restL (w.Now + 1) w.Items⟩, (dueL (w.Now + 1) w.Items).map (·.Data), 0) := by
  have h1 := h.n
  have hl := h.l
  obtain ⟨c, e1, e2, hc⟩ := valid_spec w
  have := hc.2 h
  subst this
  have hq : (w.Now == 1099511627776) = false := beq_eq_false_iff_ne.2 (by omega)
  constructor
  · obtain ⟨n, en, hnl, hd⟩ := tick_loop h
    unfold link_Tick
    rw [e1]
    simp only [Option.bind_some, Bool.not_true, Bool.false_eq_true, if_false, hq]
    rw [en]
    simp only [Option.bind_some]
    rw [sub_at _ n _ hnl (Nat.le_refl _), List.take_of_length_le (Nat.le_refl _), hd]
    simp only [Option.bind_some]
    rw [clone_wire (l := restL (w.Now + 1) w.Items) (Nat.le_trans (List.length_filter_le _ _) (by omega)), w64_id (x := w.Now + 1) (by omega) (by omega)]
    rfl
  · unfold ref09_Tick
    rw [e2]
    simp only [Option.bind_some, Bool.not_true, Bool.false_eq_true, if_false, hq]
    rw [rtick_loop h, w64_id (x := w.Now + 1) (by omega) (by omega)]
    rfl

/-! ### the next message -/
def nstep (s : Int × Bool) (x : Transit) : Int × Bool := if (!s.2 || decide (x.At < s.1)) = true then (x.At, true) else s
theorem next_spec' (w : Wire) (hl : w.Items.length ≤ 1000000) : link_Next w = some (w.Items.foldl nstep (0, false)) := by
  unfold link_Next
  obtain ⟨r, er, rfl⟩ := loop_fold (body := link_Next_l1 w) (fun (a : Int × Bool) i => (a.1, a.2, i)) w.Items.length (fun i a => a = (w.Items.take i).foldl nstep (0, false)) (fun r => r = w.Items.foldl nstep (0, false)) (fun i hi a ha => by
    unfold link_Next_l1 link_Next_j1
    simp only
    rw [if_pos (decide_eq_true (by omega)), ix_nat _ _ hi, w64_n (by omega)]
    simp only [Option.bind_some]
    have ht : (w.Items.take (i + 1)).foldl nstep (0, false) = nstep a w.Items[i] := by
      rw [take_one hi, List.foldl_append, ← ha]; rfl
    rw [ht]
    unfold nstep
    by_cases hc : (!a.2 || decide (w.Items[i].At < a.1)) = true
    · rw [if_pos hc, if_pos hc]
      exact ⟨(_, _), rfl, rfl⟩
    · rw [if_neg hc, if_neg hc]
      exact ⟨(_, _), rfl, rfl⟩) (fun a ha => by
    unfold link_Next_l1
    simp only
    rw [if_neg (by simp), ha, List.take_of_length_le (Nat.le_refl _)]
    exact ⟨_, rfl, rfl⟩) (0, false) rfl
  rw [er]
  rfl
theorem rnext_spec (w : Wire) (hl : w.Items.length ≤ 1000000) : ref09_Next w = some (w.Items.foldl nstep (0, false)) := by
  unfold ref09_Next
  by_cases h0 : w.Items.length = 0
  · rw [if_pos (by simp [h0])]
    have : w.Items = [] := List.eq_nil_of_length_eq_zero h0
    rw [this]
    rfl
  · have e0 : ix w.Items 0 = some (w.Items[0]'(by omega)) := ix_nat _ 0 (by omega)
    rw [if_neg (by simp; intro h; exact h0 (by rw [h]; rfl)), e0]
    simp only [Option.bind_some]
    obtain ⟨r, er, hr⟩ := loop_ex (b1 := ref09_Next_l1 w) (fun k s => ∃ i : Nat, s.2 = (i : Int) ∧ k + i = w.Items.length ∧ (s.1, true) = (w.Items.take i).foldl nstep (0, false)) (fun r => (r, true) = w.Items.foldl nstep (0, false)) (by
      rintro k ⟨a, i'⟩ ⟨i, rfl, hk, ha⟩
      unfold ref09_Next_l1
      simp only at ha ⊢
      by_cases hi : i < w.Items.length
      · left
        rw [if_pos (decide_eq_true (by omega)), ix_nat _ _ hi, w64_n (by omega)]
        refine ⟨_, k - 1, rfl, ⟨i + 1, rfl, by omega, ?_⟩, by omega⟩
        rw [take_one hi, List.foldl_append, ← ha]
        simp only [List.foldl_cons, List.foldl_nil, nstep, Bool.not_true, Bool.false_or, decide_eq_true_eq]
        split
        · rw [Int.min_eq_right (by omega)]
        · rw [Int.min_eq_left (by omega)]
      · right
        rw [if_neg (by simp; omega)]
        rw [List.take_of_length_le (by omega)] at ha
        exact ⟨_, rfl, ha⟩) (w.Items.length - 1) ((w.Items[0]'(by omega)).At, 1) ⟨1, rfl, by omega, by
        have : w.Items.take 1 = [w.Items[0]'(by omega)] := by
          have := take_one (xs := w.Items) (i := 0) (by omega)
          simpa using this
        rw [this]; rfl⟩
    rw [er]
    simp only [Option.bind_some]
    rw [hr]

/-! ### equal wires, equal lists -/
theorem ba_beq (a b : ByteArray) : (a == b) = decide (a = b) := by
  cases a with | mk x => cases b with | mk y =>
  show (x == y) = _
  rw [Bool.eq_iff_iff]; simp
theorem ba_refl (a : ByteArray) : (a == a) = true := by rw [ba_beq, decide_eq_true rfl]
theorem wsame_refl (w : Wire) (hl : w.Items.length ≤ 1000000) : ref09_Same w w = some true := by
  unfold ref09_Same
  rw [if_neg (by simp)]
  obtain ⟨r, er, rfl⟩ := loop_fold (body := ref09_Same_l2 w w) (fun (_ : Unit) i => i) w.Items.length (fun (i : Nat) (_ : Unit) => True) (fun r => r = true) (fun i hi a _ => by
    unfold ref09_Same_l2
    refine ⟨(), ?_, trivial⟩
    rw [if_pos (decide_eq_true (by omega)), ix_nat _ _ hi, w64_n (by omega)]
    simp [ba_refl]) (fun a _ => by
    unfold ref09_Same_l2
    rw [if_neg (by simp)]
    exact ⟨true, rfl, rfl⟩) () trivial
  exact er
theorem ssame_refl (l : List ByteArray) (hl : l.length ≤ 1000000) : law09_same l l = some true := by
  unfold law09_same
  rw [if_neg (by simp)]
  obtain ⟨r, er, rfl⟩ := loop_fold (body := law09_same_l2 l l) (fun (_ : Unit) i => i) l.length (fun (i : Nat) (_ : Unit) => True) (fun r => r = true) (fun i hi a _ => by
    unfold law09_same_l2
    refine ⟨(), ?_, trivial⟩
    rw [if_pos (decide_eq_true (by omega)), ix_nat _ _ hi, w64_n (by omega)]
    simp) (fun a _ => by
    unfold law09_same_l2
    rw [if_neg (by simp)]
    exact ⟨true, rfl, rfl⟩) () trivial
  exact er

/-! ### the dice -/
theorem pick_spec {d : Dice} (hd : DOK d) (l : List Int) (h1 : 1 ≤ l.length) (h2 : l.length ≤ 100) : ∃ x d', made_Dice_Pick d l = some (x, d') ∧ x ∈ l ∧ DOK d' := by
  unfold made_Dice_Pick
  obtain ⟨x, d', e, x0, x1, hd'⟩ := next_spec hd (n := (l.length : Int)) (by omega) (by omega)
  rw [e]
  simp only [Option.bind_some]
  rw [ix_at _ _ x0 (by omega)]
  exact ⟨_, d', rfl, List.getElem_mem _, hd'⟩
theorem dfault {d : Dice} (hd : DOK d) : ∃ f d', made_Dice_Fault d = some (f, d') ∧ (0 ≤ f.Delay ∧ f.Delay ≤ 5) ∧ (0 ≤ f.Copies ∧ f.Copies ≤ 2) ∧ DOK d' := by
  unfold made_Dice_Fault
  obtain ⟨x, d1, e1, _, _, h1⟩ := next_spec hd (n := 4) (by decide) (by decide)
  obtain ⟨y, d2, e2, hy, h2⟩ := pick_spec h1 [0, 0, 1, 2, 5] (by decide) (by decide)
  obtain ⟨z, d3, e3, hz, h3⟩ := pick_spec h2 [0, 0, 0, 1, 2] (by decide) (by decide)
  rw [e1]
  simp only [Option.bind_some]
  rw [e2]
  simp only [Option.bind_some]
  rw [e3]
  refine ⟨_, d3, rfl, ?_, ?_, h3⟩
  · simp only
    simp only [List.mem_cons, List.not_mem_nil, or_false] at hy
    omega
  · simp only
    simp only [List.mem_cons, List.not_mem_nil, or_false] at hz
    omega
theorem WV.zero : WV ⟨0, 0, []⟩ := ⟨by decide, by decide, by decide, fun x h => (by cases h), List.Pairwise.nil⟩

/-! ### the chapter's example -/
theorem sane_step {w : Wire} (h : WV w) (hn : w.Now < 1099511627776) (w0 : Wire) (got i : Int) (hi : i ≤ 5) (hc : (((dueL (w.Now + 1) w.Items).length : Int) == 1) = ((i == 3) || (i == 4))) :
    law09_sane_l2 (w0, 0) (w.Now, w.Order, w.Items, got, i) = some (.inl (w.Now + 1, w.Order, restL (w.Now + 1) w.Items, w64 (got + ((dueL (w.Now + 1) w.Items).length : Int)), w64 (i + 1))) := by
  unfold law09_sane_l2
  have ew : (⟨w.Now, w.Order, w.Items⟩ : Wire) = w := rfl
  simp only
  rw [if_pos (by simp [hi]), ew, (tick_spec h hn).1]
  simp only [Option.bind_some, List.length_map, hc, beq_self_eq_true, bne_self_eq_false, Bool.not_true, Bool.or_self, Bool.false_eq_true, if_false]
theorem wsane_true : law09_sane = some true := by
  unfold law09_sane
  have e0 : link_New = some ⟨0, 0, []⟩ := rfl
  rw [e0]
  simp only [Option.bind_some]
  obtain ⟨e1, _, v0⟩ := send_spec (f := ⟨false, 2, 1⟩) (data := ⟨#[109]⟩) WV.zero ⟨by decide, by decide⟩ (by decide) (by decide) (by decide)
  rw [e1]
  simp only [Option.bind_some]
  generalize ha : (⟨3, 0, ⟨#[109]⟩⟩ : Transit) = a
  generalize hb : (⟨4, 0, ⟨#[109]⟩⟩ : Transit) = b
  have haA : a.At = 3 := by rw [← ha]
  have hbA : b.At = 4 := by rw [← hb]
  have ei : sendL ((⟨0, 0, []⟩ : Wire).Now + 1 + (⟨false, 2, 1⟩ : Fault).Delay) (⟨0, 0, []⟩ : Wire).Order ⟨#[109]⟩ (cop ⟨false, 2, 1⟩) (⟨0, 0, []⟩ : Wire).Items = [a, b] := by
    rw [← ha, ← hb]; rfl
  rw [ei] at v0 ⊢
  have r1 : restL 1 [a, b] = [a, b] := by simp [restL, haA, hbA]
  have r2 : restL 2 [a, b] = [a, b] := by simp [restL, haA, hbA]
  have r3 : restL 3 [a, b] = [b] := by simp [restL, haA, hbA]
  have r4 : restL 4 [b] = [] := by simp [restL, hbA]
  have d1 : dueL 1 [a, b] = [] := by simp [dueL, haA, hbA]
  have d2 : dueL 2 [a, b] = [] := by simp [dueL, haA, hbA]
  have d3 : dueL 3 [a, b] = [a] := by simp [dueL, haA, hbA]
  have d4 : dueL 4 [b] = [b] := by simp [dueL, hbA]
  have v1 : WV ⟨1, 1, [a, b]⟩ := by have := rest_wv v0 (by simp); simp only [Int.zero_add] at this; rw [r1] at this; exact this
  have v2 : WV ⟨2, 1, [a, b]⟩ := by have := rest_wv v1 (by simp); rw [show (1 : Int) + 1 = 2 by decide, r2] at this; exact this
  have v3 : WV ⟨3, 1, [b]⟩ := by have := rest_wv v2 (by simp); rw [show (2 : Int) + 1 = 3 by decide, r3] at this; exact this
  have v4 : WV ⟨4, 1, []⟩ := by have := rest_wv v3 (by simp); rw [show (3 : Int) + 1 = 4 by decide, r4] at this; exact this
  have s1 := sane_step v0 (by simp) ⟨0, 0 + 1, [a, b]⟩ 0 1 (by decide) (by simp only [Int.zero_add]; rw [d1]; rfl)
  have s2 := sane_step v1 (by simp) ⟨0, 0 + 1, [a, b]⟩ 0 2 (by decide) (by simp only; rw [show (1 : Int) + 1 = 2 by decide, d2]; rfl)
  have s3 := sane_step v2 (by simp) ⟨0, 0 + 1, [a, b]⟩ 0 3 (by decide) (by simp only; rw [show (2 : Int) + 1 = 3 by decide, d3]; rfl)
  have s4 := sane_step v3 (by simp) ⟨0, 0 + 1, [a, b]⟩ 1 4 (by decide) (by simp only; rw [show (3 : Int) + 1 = 4 by decide, d4]; rfl)
  have s5 := sane_step v4 (by simp) ⟨0, 0 + 1, [a, b]⟩ 2 5 (by decide) (by simp only; rfl)
  simp only [Int.zero_add] at s1
  simp only [show (1 : Int) + 1 = 2 by decide] at s2
  simp only [show (2 : Int) + 1 = 3 by decide] at s3
  simp only [show (3 : Int) + 1 = 4 by decide] at s4
  rw [r1, d1] at s1
  rw [r2, d2] at s2
  rw [r3, d3] at s3
  rw [r4, d4] at s4
  have t1 := whl s1
  have t2 := whl s2
  have t3 := whl s3
  have t4 := whl s4
  have t5 := whl s5
  have n1 : w64 ((([] : List Transit).length : Int)) = 0 := by decide
  have n1' : w64 (0 + (([] : List Transit).length : Int)) = 0 := by decide
  have n3 : w64 (0 + (([a] : List Transit).length : Int)) = 1 := by simp; decide
  have n4 : w64 (1 + (([b] : List Transit).length : Int)) = 2 := by simp; decide
  have i1 : w64 (1 + 1) = 2 := by decide
  have i2 : w64 (2 + 1) = 3 := by decide
  have i3 : w64 (3 + 1) = 4 := by decide
  have i4 : w64 (4 + 1) = 5 := by decide
  have i5 : w64 (5 + 1) = 6 := by decide
  rw [i1, n1] at t1
  rw [n1', i2] at t2
  rw [n3, i3] at t3
  rw [n4, i4] at t4
  rw [i5] at t5
  have e6 : law09_sane_l2 (⟨0, 0 + 1, [a, b]⟩, 0) (4 + 1, 1, restL (4 + 1) [], w64 (2 + ((dueL (4 + 1) []).length : Int)), 6) = some (.inr true) := by
    unfold law09_sane_l2
    simp only
    rw [if_neg (by decide)]
    rfl
  simp only [Int.zero_add] at *
  rw [t1, t2, t3, t4, t5]
  exact whe e6

end Go.Proofs.Ytljdiobhmenjgaa.Sh

/- LinkExact: the law returns true at every input (chapter 9). -/
import Derived.Test.YtljdiobhmenjgaaWire3
namespace Go.Proofs.Ytljdiobhmenjgaa.Sh
open Go
set_option linter.unusedVariables false
set_option linter.unusedSimpArgs false

theorem loop_const {β : Type} {body : Int → Option (Int ⊕ β)} (n : Nat) (r : β) (h : ∀ i : Nat, i < n → body (i : Int) = some (.inl ((i + 1 : Nat) : Int))) (he : body (n : Int) = some (.inr r)) : whileM body 0 = some r :=
  whileM_for' (fun i => (i : Int)) n r rfl h he

theorem both_send {w : Wire} (hl : w.Items.length ≤ 60) (data : ByteArray) (f : Fault) : ∃ x e, link_Send w data f = some (x, e) ∧ ref09_Send w data f = some (x, e) ∧ x.Items.length ≤ 2000 := by
  obtain ⟨c, e1, e2, hc⟩ := valid_spec w
  cases c with
  | false =>
    unfold link_Send ref09_Send
    rw [e1, e2]
    exact ⟨_, _, rfl, rfl, by simp⟩
  | true =>
    have hv := hc.1 rfl
    obtain ⟨g, e3, e4, hg⟩ := fault_spec f
    cases g with
    | false =>
      unfold link_Send ref09_Send
      rw [e1, e2]
      simp only [Option.bind_some, Bool.not_true, Bool.false_eq_true, if_false]
      rw [e3, e4]
      exact ⟨_, _, rfl, rfl, by simp⟩
    | true =>
      have hf := hg.1 rfl
      have hcop : cop f ≤ 9 := by have := hf.2; unfold cop; split <;> omega
      have ho := hv.o
      by_cases hq : (data.size : Int) ≤ 4096 ∧ w.Order < 1099511627776
      · obtain ⟨a, b, _⟩ := send_spec (data := data) hv hf hq.1 hq.2 (by omega)
        have hS := (SI.send (data := data) hv hf.1.1 hf.1.2 hq.1 (cop f) (by omega)).l
        exact ⟨_, _, a, b, by simp only; omega⟩
      · have hb : ∀ n : Int, ((decide ((4096 : Int) < (data.size : Int)) || (w.Order == 1099511627776)) || (decide ((1024 : Int) < (w64 ((w.Items.length : Int) + n))))) = true := fun n => by
          have : (decide ((4096 : Int) < (data.size : Int)) || (w.Order == 1099511627776)) = true := by
            rw [Bool.or_eq_true, decide_eq_true_eq, beq_iff_eq]; omega
          rw [this]; rfl
        have j1 : ∀ n, link_Send_j1 w data f n = some (⟨0, 0, []⟩, 8) := fun n => by unfold link_Send_j1; rw [if_pos (hb n)]
        have j2 : ∀ n, ref09_Send_j1 w data f n = some (⟨0, 0, []⟩, 8) := fun n => by unfold ref09_Send_j1; rw [if_pos (hb n)]
        unfold link_Send ref09_Send
        rw [e1, e2]
        simp only [Option.bind_some, Bool.not_true, Bool.false_eq_true, if_false]
        rw [e3, e4]
        simp only [Option.bind_some, Bool.not_true, Bool.false_eq_true, if_false, j1, j2]
        exact ⟨⟨0, 0, []⟩, 8, by split <;> rfl, by split <;> rfl, by simp⟩
theorem both_tick {w : Wire} (hl : w.Items.length ≤ 60) : ∃ x l e, link_Tick w = some (x, l, e) ∧ ref09_Tick w = some (x, l, e) ∧ x.Items.length ≤ 2000 ∧ l.length ≤ 2000 := by
  obtain ⟨c, e1, e2, hc⟩ := valid_spec w
  cases c with
  | false =>
    unfold link_Tick ref09_Tick
    rw [e1, e2]
    exact ⟨_, _, _, rfl, rfl, by simp, by simp⟩
  | true =>
    have hv := hc.1 rfl
    have hn := hv.n
    by_cases hq : w.Now = 1099511627776
    · unfold link_Tick ref09_Tick
      rw [e1, e2, hq]
      exact ⟨_, _, _, rfl, rfl, by simp, by simp⟩
    · obtain ⟨a, b⟩ := tick_spec hv (by omega)
      refine ⟨_, _, _, a, b, Nat.le_trans (List.length_filter_le _ _) (by omega), ?_⟩
      rw [List.length_map]
      exact Nat.le_trans (List.length_filter_le _ _) (by omega)
theorem both_drain {w : Wire} (hl : w.Items.length ≤ 60) : ∃ l e, link_Drain w = some (l, e) ∧ ref09_Drain w = some (l, e) ∧ l.length ≤ 60 := by
  obtain ⟨c, e1, e2, hc⟩ := valid_spec w
  unfold link_Drain ref09_Drain
  rw [e1, e2]
  cases c with
  | false => exact ⟨_, _, rfl, rfl, by simp⟩
  | true =>
    simp only [Option.bind_some, Bool.not_true, Bool.false_eq_true, if_false]
    rw [clone_wire (by omega), appM_one _ _ _ (by simp; omega) (by decide)]
    exact ⟨_, _, rfl, rfl, hl⟩

theorem x20 (l : List Transit) (hl : l.length ≤ 60) (e : Int) (sv : Int) : whileM (law09_LinkExact_l20 sv (l, e) (l, e)) 0 = some (.inl (w64 (sv + 1))) := by
  refine loop_const l.length _ (fun i hi => ?_) ?_
  · unfold law09_LinkExact_l20
    simp only
    rw [if_pos (decide_eq_true (by omega)), ix_nat _ _ hi, w64_n (by omega)]
    simp [ba_refl]
  · unfold law09_LinkExact_l20
    simp only
    rw [if_neg (by simp)]
    rfl
theorem x18 {w : Wire} (hl : w.Items.length ≤ 60) (data : ByteArray) (f : Fault) (a : Fault × Dice) (b c : Int × Dice) (sv : Int) : whileM (law09_LinkExact_l18 data f a b c sv w) 0 = some (.inl (w64 (sv + 1))) := by
  refine loop_const 3 _ (fun i hi => ?_) ?_
  · unfold law09_LinkExact_l18
    rw [if_pos (by simp; omega), ix_nat _ _ (by simpa using hi)]
    simp only [Option.bind_some]
    obtain ⟨x, e, h1, h2, h3⟩ := both_send hl data ([f, (⟨a.1.Drop, b.1, c.1⟩ : Fault), (⟨true, 0, 0⟩ : Fault)] : List Fault)[i]
    obtain ⟨g, h4, h5, _⟩ := fault_spec ([f, (⟨a.1.Drop, b.1, c.1⟩ : Fault), (⟨true, 0, 0⟩ : Fault)] : List Fault)[i]
    rw [h1, h2, h4, h5]
    simp only [Option.bind_some, bne_self_eq_false, Bool.false_eq_true, if_false]
    rw [wsame_refl x (by omega), w64_n (by omega)]
    simp
  · unfold law09_LinkExact_l18
    rw [if_neg (by simp)]
    obtain ⟨x, l, e, h1, h2, h3, h4⟩ := both_tick hl
    obtain ⟨p, q, h5, h6, h7⟩ := both_drain hl
    obtain ⟨v, h8, h9, _⟩ := valid_spec w
    rw [h1, h2, next_spec' w (by omega), rnext_spec w (by omega), h5, h6, h8, h9]
    simp only [Option.bind_some, bne_self_eq_false, Bool.false_eq_true, if_false]
    rw [wsame_refl x (by omega), ssame_refl l (by omega)]
    simp only [Option.bind_some, Bool.not_true, Bool.false_eq_true, if_false, beq_self_eq_true, Bool.or_self]
    rw [x20 p h7]
    rfl
theorem x12 {w o raw : Wire} {d0 : Dice} (h1 : w.Items.length ≤ 60) (h2 : o.Items.length ≤ 60) (h3 : raw.Items.length ≤ 60) (data : ByteArray) (f : Fault) (a : Fault × Dice) (b c : Int × Dice) :
    whileM (law09_LinkExact_l12 raw data f (w, d0) o.Now o.Order o.Items a b c) 0 = some true := by
  refine loop_const 3 _ (fun i hi => ?_) ?_
  · unfold law09_LinkExact_l12
    have eo : (⟨o.Now, o.Order, o.Items⟩ : Wire) = o := rfl
    have hq : ∃ q : Wire, ix ([w, o, raw] : List Wire) (i : Int) = some q ∧ q.Items.length ≤ 60 := by
      match i, hi with
      | 0, _ => exact ⟨w, rfl, h1⟩
      | 1, _ => exact ⟨o, rfl, h2⟩
      | 2, _ => exact ⟨raw, rfl, h3⟩
    obtain ⟨q, eq, hq⟩ := hq
    rw [if_pos (by simp; omega), eo, eq]
    simp only [Option.bind_some]
    rw [x18 hq, w64_n (by omega)]
  · unfold law09_LinkExact_l12
    rw [if_neg (by simp)]
    have e0 : link_New = some ⟨0, 0, []⟩ := rfl
    have e1 : ref09_New = some ⟨0, 0, []⟩ := rfl
    rw [e0, e1]
    simp only [Option.bind_some]
    rw [wsame_refl _ (by simp), wsane_true]
    rfl
theorem xj1 {w o raw : Wire} {d0 d : Dice} (hd : DOK d) (h1 : w.Items.length ≤ 60) (h2 : o.Items.length ≤ 60) (h3 : raw.Items.length ≤ 60) (data : ByteArray) (f : Fault) :
    law09_LinkExact_j1 raw data f (w, d0) d.L d.At o.Now o.Order o.Items = some true := by
  unfold law09_LinkExact_j1
  have ed : (⟨d.L, d.At⟩ : Dice) = d := rfl
  obtain ⟨g, d1, e1, _, _, hd1⟩ := dfault hd
  obtain ⟨b, d2, e2, _, hd2⟩ := pick_spec hd1 [g.Delay, 1048576, 1048577, -1] (by simp) (by simp)
  obtain ⟨c, d3, e3, _, hd3⟩ := pick_spec hd2 [g.Copies, 8, 9, -1] (by simp) (by simp)
  rw [ed, e1]
  simp only [Option.bind_some]
  rw [e2]
  simp only [Option.bind_some]
  rw [e3]
  simp only [Option.bind_some]
  exact x12 h1 h2 h3 data f _ _ _

/-- the wires that the dice make -/
theorem dwire {d : Dice} (hd : DOK d) : ∃ w d', law09_wire d = some (w, d') ∧ w.Items.length ≤ 24 ∧ DOK d' := by
  unfold law09_wire
  have e0 : ref09_New = some ⟨0, 0, []⟩ := rfl
  obtain ⟨m, d1, e1, m0, m1, hd1⟩ := next_spec hd (n := 9) (by decide) (by decide)
  rw [e0, e1]
  simp only [Option.bind_some]
  obtain ⟨r, er, d', w, rfl, h1, h2⟩ := loop_ex (b1 := law09_wire_l1)
    (fun n s => ∃ (d : Dice) (w : Wire), s = (d.L, d.At, w.Now, w.Order, w.Items, (n : Int)) ∧ DOK d ∧ n ≤ 8 ∧ WV w ∧ w.Items.length + 3 * n ≤ 24 ∧ w.Order + n ≤ 8 ∧ w.Now + n ≤ 8)
    (fun r => ∃ (d : Dice) (w : Wire), r = (d.L, d.At, w.Now, w.Order, w.Items) ∧ DOK d ∧ w.Items.length ≤ 24) (by
      rintro n s ⟨d, w, rfl, hd, hn, hv, hl, ho, hw⟩
      have ew : (⟨w.Now, w.Order, w.Items⟩ : Wire) = w := rfl
      have ed : (⟨d.L, d.At⟩ : Dice) = d := rfl
      unfold law09_wire_l1 law09_wire_j1
      simp only
      by_cases h0 : 0 < n
      · left
        rw [if_pos (decide_eq_true (by omega)), ed, ew]
        obtain ⟨x, d1, e1, x0, x1, hd1⟩ := next_spec hd (n := 4) (by decide) (by decide)
        rw [e1]
        simp only [Option.bind_some]
        have hix : ∃ m : ByteArray, ix ([(⟨#[97]⟩ : ByteArray), (⟨#[98]⟩ : ByteArray), (⟨#[]⟩ : ByteArray), (⟨#[99, 99]⟩ : ByteArray)] : List ByteArray) x = some m ∧ (m.size : Int) ≤ 4096 := by
          have : x = 0 ∨ x = 1 ∨ x = 2 ∨ x = 3 := by omega
          rcases this with rfl | rfl | rfl | rfl
          · exact ⟨_, rfl, by decide⟩
          · exact ⟨_, rfl, by decide⟩
          · exact ⟨_, rfl, by decide⟩
          · exact ⟨_, rfl, by decide⟩
        obtain ⟨m, em, hm⟩ := hix
        obtain ⟨f, d2, e2, fd, fc, hd2⟩ := dfault hd1
        obtain ⟨y, d3, e3, y0, y1, hd3⟩ := next_spec hd2 (n := 2) (by decide) (by decide)
        have hcop : cop f ≤ 3 := by unfold cop; split <;> omega
        have hfv : FV f := ⟨by omega, by omega⟩
        obtain ⟨_, es, hv2⟩ := send_spec (data := m) hv hfv hm (by omega) (by omega)
        have hS := (SI.send (data := m) hv hfv.1.1 hfv.1.2 hm (cop f) (by omega)).l
        rw [em]
        simp only [Option.bind_some]
        rw [e2]
        simp only [Option.bind_some]
        rw [es]
        simp only [Option.bind_some]
        rw [e3, w64_id (x := (n : Int) - 1) (by omega) (by omega)]
        simp only [Option.bind_some]
        cases hy : (y == 0) with
        | true =>
          simp only [if_true]
          have hnow : w.Now < 1099511627776 := by omega
          rw [(tick_spec hv2 (by simp only; omega)).2]
          refine ⟨_, n - 1, rfl, ⟨d3, ⟨w.Now + 1, w.Order + 1, _⟩, by rw [show ((n : Int) - 1) = ((n - 1 : Nat) : Int) by omega], hd3, by omega, rest_wv hv2 (by simp only; omega), ?_, by simp only; omega, by simp only; omega⟩, by omega⟩
          have : (restL (w.Now + 1) (sendL (w.Now + 1 + f.Delay) w.Order m (cop f) w.Items)).length ≤ _ := List.length_filter_le _ _
          simp only
          omega
        | false =>
          simp only [Bool.false_eq_true, if_false]
          exact ⟨_, n - 1, rfl, ⟨d3, ⟨w.Now, w.Order + 1, _⟩, by rw [show ((n : Int) - 1) = ((n - 1 : Nat) : Int) by omega], hd3, by omega, hv2, by simp only; omega, by simp only; omega, by simp only; omega⟩, by omega⟩
      · right
        have hn0 : n = 0 := by omega
        subst hn0
        rw [if_neg (by simp)]
        exact ⟨_, rfl, d, w, rfl, hd, by omega⟩) m.toNat (d1.L, d1.At, 0, 0, [], m) ⟨d1, ⟨0, 0, []⟩, by rw [Int.toNat_of_nonneg m0], hd1, by omega, WV.zero, by simp; omega, by simp only; omega, by simp only; omega⟩
  rw [er]
  exact ⟨w, d', rfl, h2, h1⟩

theorem law09_LinkExact_true (t : List Int) (raw : Wire) (data : ByteArray) (f : Fault) (_ : (t.length : Int) ≤ 140737488355328 ∧ ∀ x ∈ t, -9223372036854775808 ≤ x ∧ x ≤ 9223372036854775807)
    (_ : (-9223372036854775808 ≤ raw.Now ∧ raw.Now ≤ 9223372036854775807) ∧ (-9223372036854775808 ≤ raw.Order ∧ raw.Order ≤ 9223372036854775807) ∧ ((raw.Items.length : Int) ≤ 140737488355328 ∧ ∀ y ∈ raw.Items, ((-9223372036854775808 ≤ y.At ∧ y.At ≤ 9223372036854775807) ∧ (-9223372036854775808 ≤ y.Order ∧ y.Order ≤ 9223372036854775807) ∧ ((y.Data.size : Int) ≤ 9223372036854775807))))
    (_ : (data.size : Int) ≤ 9223372036854775807) (_ : True ∧ (-9223372036854775808 ≤ f.Delay ∧ f.Delay ≤ 9223372036854775807) ∧ (-9223372036854775808 ≤ f.Copies ∧ f.Copies ≤ 9223372036854775807)) : law09_LinkExact t raw data f = some true := by
  unfold law09_LinkExact
  rw [light_spec]
  simp only [Option.bind_some]
  by_cases hl : t.length ≤ 500
  case neg => rw [decide_eq_false hl]; simp only [Bool.not_false, Bool.true_or, if_true]; rw [wsane_true]; rfl
  by_cases hr : raw.Items.length ≤ 30
  case neg => rw [decide_eq_true hl, decide_eq_true (show (30 : Int) < (raw.Items.length : Int) by omega)]; simp only [Bool.not_true, Bool.false_or, Bool.true_or, if_true]; rw [wsane_true]; rfl
  by_cases hq : (data.size : Int) ≤ 300
  case neg => rw [decide_eq_true hl, decide_eq_true (show (300 : Int) < (data.size : Int) by omega)]; simp only [Bool.or_true, if_true]; rw [wsane_true]; rfl
  rw [decide_eq_true hl, decide_eq_false (show ¬ (30 : Int) < (raw.Items.length : Int) by omega), decide_eq_false (show ¬ (300 : Int) < (data.size : Int) by omega)]
  simp only [Bool.not_true, Bool.or_self, Bool.false_eq_true, if_false, made_Roll, Option.bind_some]
  obtain ⟨w, d1, ew, hw, hd1⟩ := dwire (DOK.roll hl)
  have hcopy : ref09_Copy w = some w := by
    unfold ref09_Copy
    rw [appM_one _ _ _ (by simp; omega) (by decide)]
    rfl
  obtain ⟨y, d2, ey, y0, y1, hd2⟩ := next_spec hd1 (n := 4) (by decide) (by decide)
  rw [ew]
  simp only [Option.bind_some]
  rw [hcopy]
  simp only [Option.bind_some]
  rw [ey]
  simp only [Option.bind_some]
  have fin : ∀ (d : Dice) (n o : Int) (l : List Transit), DOK d → l.length ≤ 60 → law09_LinkExact_j1 raw data f (w, d1) d.L d.At n o l = some true := fun d n o l hd hl => xj1 (o := ⟨n, o, l⟩) hd (by omega) hl (by omega) data f
  unfold law09_LinkExact_j9 law09_LinkExact_j8 law09_LinkExact_j7 law09_LinkExact_j6 law09_LinkExact_j5
  by_cases h0 : y = 0
  · rw [if_pos (by simp [h0])]
    obtain ⟨z, d3, ez, _, hd3⟩ := pick_spec hd2 [-1, w64 (w.Now + 2), 1099511627776, 1099511627777] (by simp) (by simp)
    rw [ez]
    exact fin _ _ _ _ hd3 (by omega)
  rw [if_neg (by simpa using h0)]
  by_cases h1 : y = 1
  · rw [if_pos (by simp [h1])]
    obtain ⟨z, d3, ez, _, hd3⟩ := pick_spec hd2 [0, 1099511627776, -1] (by simp) (by simp)
    rw [ez]
    exact fin _ _ _ _ hd3 (by omega)
  rw [if_neg (by simpa using h1)]
  by_cases h2 : y = 2
  · rw [if_pos (by simp [h2])]
    by_cases hn : 1 < w.Items.length
    · have e1 : w64 ((w.Items.length : Int) - 1) = ((w.Items.length - 1 : Nat) : Int) := w64_nat (by omega) (by omega)
      have e2 : ix w.Items 0 = some (w.Items[0]'(by omega)) := ix_nat _ 0 (by omega)
      rw [if_pos (decide_eq_true (by omega)), e1, ix_nat _ (w.Items.length - 1) (by omega), e2]
      simp only [Option.bind_some]
      rw [setM_at _ _ _ (by decide) (by omega)]
      simp only [Option.bind_some]
      rw [ix_nat _ (w.Items.length - 1) (by simp; omega)]
      simp only [Option.bind_some]
      rw [setM_at _ _ _ (by omega) (by simp; omega)]
      simp only [Option.bind_some]
      exact fin _ _ _ _ hd2 (by simp; omega)
    · rw [if_neg (by simp; omega)]
      exact fin _ _ _ _ hd2 (by omega)
  rw [if_neg (by simpa using h2)]
  by_cases h3 : y = 3
  · rw [if_pos (by simp [h3])]
    by_cases hn : 0 < w.Items.length
    · have e1 : w64 ((w.Items.length : Int) - 1) = ((w.Items.length - 1 : Nat) : Int) := w64_nat (by omega) (by omega)
      rw [if_pos (decide_eq_true (by omega)), e1, ix_nat _ (w.Items.length - 1) (by omega)]
      simp only [Option.bind_some]
      rw [appM_one _ _ _ (by simp; omega) (by decide)]
      exact fin _ _ _ _ hd2 (by simp; omega)
    · rw [if_neg (fun q => by have := of_decide_eq_true q; omega)]
      exact fin _ _ _ _ hd2 (by omega)
  rw [if_neg (by simpa using h3)]
  exact fin _ _ _ _ hd2 (by omega)

end Go.Proofs.Ytljdiobhmenjgaa.Sh

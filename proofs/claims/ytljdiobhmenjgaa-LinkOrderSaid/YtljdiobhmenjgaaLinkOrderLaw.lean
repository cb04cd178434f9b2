/- LinkOrder: the law returns true at every input (chapter 9). -/
import Derived.Test.YtljdiobhmenjgaaWire3
namespace Go.Proofs.Ytljdiobhmenjgaa.Sh
open Go
set_option linter.unusedVariables false
set_option linter.unusedSimpArgs false

/-- a tick at which n messages are sent at once -/
structure OI (now : Int) (w : Wire) (sent : List ByteArray) (mx : Nat) : Prop where
  v : WV w
  n : w.Now = now
  o : w.Order ≤ 100
  a : ∀ x ∈ w.Items, x.At = now + 1
  d : w.Items.map (·.Data) = sent
  l : sent.length ≤ mx
theorem OI.send {now : Int} {w : Wire} {sent : List ByteArray} {n : Nat} (h : OI now w sent n) (hn : n ≤ 50) (ho : w.Order < 100) (dr : Bool) {m : ByteArray} (hm : (m.size : Int) ≤ 4096) :
    ∃ w2, link_Send w m ⟨dr, 0, 0⟩ = some (w2, 0) ∧ OI now w2 (if dr then sent else sent ++ [m]) (n + 1) ∧ w2.Order = w.Order + 1 := by
  have hl : w.Items.length = sent.length := by rw [← h.d]; simp
  have hll := h.l
  obtain ⟨e, _, hv⟩ := send_spec (f := ⟨dr, 0, 0⟩) (data := m) h.v ⟨⟨by simp, by simp⟩, by simp, by simp⟩ hm (by omega) (by unfold cop; cases dr <;> simp <;> omega)
  refine ⟨_, e, ?_, rfl⟩
  have hnow := h.n
  cases dr with
  | true => exact ⟨hv, h.n, by simp only; omega, h.a, h.d, by simp only [if_true]; omega⟩
  | false =>
    have es : sendL (w.Now + 1 + (⟨false, 0, 0⟩ : Fault).Delay) w.Order m (cop ⟨false, 0, 0⟩) w.Items = w.Items ++ [⟨now + 1, w.Order, m⟩] := by
      have hc : cop ⟨false, 0, 0⟩ = 1 := by unfold cop; simp
      rw [hc]
      simp only [sendL]
      have hb : w.Now + 1 + 0 + ((0 : Nat) : Int) = now + 1 := by omega
      rw [hb]
      unfold putL
      have f1 : w.Items.filter (fun x => decide (x.At ≤ now + 1)) = w.Items := List.filter_eq_self.2 (fun x hx => decide_eq_true (by have := h.a x hx; omega))
      have f2 : w.Items.filter (fun x => decide (now + 1 < x.At)) = [] := List.filter_eq_nil_iff.2 (fun x hx => by have := h.a x hx; simp; omega)
      simp only
      rw [f1, f2]
    rw [es] at hv ⊢
    refine ⟨hv, h.n, by simp only; omega, fun x hx => ?_, ?_, by simp; omega⟩
    · simp only at hx
      rcases List.mem_append.1 hx with hx | hx
      · exact h.a x hx
      · rcases List.mem_singleton.1 hx with rfl; rfl
    · simp only [List.map_append, h.d, Bool.false_eq_true, if_false]
      rfl

theorem order_in {i : Nat} (hi : i < 6) (sv : List Int × Int × Int × Int × List Transit × Int) (hsv : sv.2.2.2.2.2 = (i : Int)) {d : Dice} (hd : DOK d) {w : Wire} (h : OI (i : Int) w [] 0) (ho : w.Order ≤ 3 * i) {k : Int} (k0 : 0 ≤ k) (k1 : k < 4) :
    ∃ d' o, DOK d' ∧ o ≤ 3 * ((i + 1 : Nat) : Int) ∧ WV ⟨(i + 1 : Nat), o, []⟩ ∧ whileM (law09_LinkOrder_l11 sv) (d.L, d.At, w.Now, w.Order, w.Items, [], k) = some (.inl (d'.L, d'.At, ((i + 1 : Nat) : Int), o, [], ((i + 1 : Nat) : Int))) := by
  obtain ⟨r, er, d', o, h1, h2, h3, rfl⟩ := loop_ex (b1 := law09_LinkOrder_l11 sv)
    (fun n s => ∃ (d : Dice) (w : Wire) (sent : List ByteArray), s = (d.L, d.At, w.Now, w.Order, w.Items, sent, (n : Int)) ∧ DOK d ∧ n ≤ 3 ∧ OI (i : Int) w sent (3 - n) ∧ w.Order + n ≤ 3 * (i : Int) + 3)
    (fun r => ∃ (d' : Dice) (o : Int), DOK d' ∧ o ≤ 3 * ((i + 1 : Nat) : Int) ∧ WV ⟨(i + 1 : Nat), o, []⟩ ∧ r = .inl (d'.L, d'.At, ((i + 1 : Nat) : Int), o, [], ((i + 1 : Nat) : Int))) (by
      rintro n s ⟨d, w, sent, rfl, hd, hn, hO, hor⟩
      have ew : (⟨w.Now, w.Order, w.Items⟩ : Wire) = w := rfl
      have ed : (⟨d.L, d.At⟩ : Dice) = d := rfl
      unfold law09_LinkOrder_l11 law09_LinkOrder_j1
      simp only
      by_cases h0 : 0 < n
      · left
        rw [if_pos (decide_eq_true (by omega)), ed, ew]
        obtain ⟨x, d1, e1, x0, x1, hd1⟩ := next_spec hd (n := 3) (by decide) (by decide)
        obtain ⟨y, d2, e2, y0, y1, hd2⟩ := next_spec hd1 (n := 3) (by decide) (by decide)
        rw [e1]
        simp only [Option.bind_some]
        have hix : ∃ m : ByteArray, ix ([(⟨#[97]⟩ : ByteArray), (⟨#[98]⟩ : ByteArray), (⟨#[99]⟩ : ByteArray)] : List ByteArray) x = some m ∧ (m.size : Int) ≤ 4096 := by
          have : x = 0 ∨ x = 1 ∨ x = 2 := by omega
          rcases this with rfl | rfl | rfl
          · exact ⟨_, rfl, by decide⟩
          · exact ⟨_, rfl, by decide⟩
          · exact ⟨_, rfl, by decide⟩
        obtain ⟨m, em, hm⟩ := hix
        rw [em]
        simp only [Option.bind_some]
        rw [e2]
        simp only [Option.bind_some]
        obtain ⟨w2, ew2, hO2, ho2⟩ := hO.send (by omega) (by omega) (y == 0) hm
        rw [ew2, w64_id (x := (n : Int) - 1) (by omega) (by omega)]
        simp only [Option.bind_some, bne_self_eq_false, Bool.false_eq_true, if_false]
        have hsl := hO.l
        cases hy : (y == 0) with
        | true =>
          rw [hy] at hO2
          simp only [if_true] at hO2
          simp only [Bool.not_true, Bool.false_eq_true, if_false]
          exact ⟨_, n - 1, rfl, ⟨d2, w2, sent, by rw [show ((n : Int) - 1) = ((n - 1 : Nat) : Int) by omega], hd2, by omega, by rw [show 3 - (n - 1) = 3 - n + 1 by omega]; exact hO2, by omega⟩, by omega⟩
        | false =>
          rw [hy] at hO2
          simp only [Bool.false_eq_true, if_false] at hO2
          simp only [Bool.not_false, if_true]
          rw [appM_one _ _ _ (by simp; omega) (by decide)]
          exact ⟨_, n - 1, rfl, ⟨d2, w2, sent ++ [m], by rw [show ((n : Int) - 1) = ((n - 1 : Nat) : Int) by omega], hd2, by omega, by rw [show 3 - (n - 1) = 3 - n + 1 by omega]; exact hO2, by omega⟩, by omega⟩
      · right
        have hn0 : n = 0 := by omega
        subst hn0
        have hnow := hO.n
        have hsl := hO.l
        rw [if_neg (by simp), ew, (tick_spec hO.v (by omega)).1]
        simp only [Option.bind_some, bne_self_eq_false, Bool.false_eq_true, if_false]
        have d1 : dueL (w.Now + 1) w.Items = w.Items := List.filter_eq_self.2 (fun x hx => by have := hO.a x hx; simp; omega)
        have r1 : restL (w.Now + 1) w.Items = [] := List.filter_eq_nil_iff.2 (fun x hx => by have := hO.a x hx; simp; omega)
        have hv := rest_wv hO.v (by omega)
        rw [r1] at hv
        rw [d1, r1, hO.d, ssame_refl _ (by omega)]
        simp only [Option.bind_some, Bool.not_true, Bool.false_eq_true, if_false]
        rw [hsv, w64_n (by omega)]
        refine ⟨_, rfl, d, w.Order, hd, by omega, ?_, ?_⟩
        · rw [hnow] at hv
          exact hv
        · rw [hnow]
          rfl) k.toNat (d.L, d.At, w.Now, w.Order, w.Items, [], k) ⟨d, w, [], by rw [Int.toNat_of_nonneg k0], hd, by omega, ⟨h.v, h.n, h.o, h.a, h.d, by simp⟩, by omega⟩
  exact ⟨d', o, h1, h2, h3, er⟩

theorem law09_LinkOrder_true (t : List Int) (_ : (t.length : Int) ≤ 140737488355328 ∧ ∀ x ∈ t, -9223372036854775808 ≤ x ∧ x ≤ 9223372036854775807) : law09_LinkOrder t = some true := by
  unfold law09_LinkOrder
  rw [light_spec]
  simp only [Option.bind_some]
  by_cases hl : t.length ≤ 500
  case neg => rw [decide_eq_false hl, wsane_true]; rfl
  rw [decide_eq_true hl]
  have e0 : link_New = some ⟨0, 0, []⟩ := rfl
  simp only [Bool.not_true, Bool.false_eq_true, if_false, made_Roll, e0, Option.bind_some]
  obtain ⟨_, e, rfl⟩ := loop_fold (body := law09_LinkOrder_l7) (fun (a : Dice × Wire) i => (a.1.L, a.1.At, a.2.Now, a.2.Order, a.2.Items, i)) 6
    (fun i a => DOK a.1 ∧ a.2.Items = [] ∧ a.2.Now = (i : Int) ∧ a.2.Order ≤ 3 * (i : Int) ∧ WV a.2) (fun x => x = true) (fun i hi a ⟨h1, h2, h3, h4, h5⟩ => by
      obtain ⟨d, w⟩ := a
      simp only at h1 h2 h3 h4 h5
      unfold law09_LinkOrder_l7
      simp only
      obtain ⟨x, d1, e1, x0, x1, hd1⟩ := next_spec h1 (n := 4) (by decide) (by decide)
      have ed : (⟨d.L, d.At⟩ : Dice) = d := rfl
      rw [if_pos (by simp; omega), ed, e1]
      simp only [Option.bind_some]
      obtain ⟨d', o, g1, g2, g3, g4⟩ := order_in hi (d.L, d.At, w.Now, w.Order, w.Items, (i : Int)) rfl hd1 (w := w) ⟨h5, h3, by omega, fun x hx => (by rw [h2] at hx; cases hx), by rw [h2]; rfl, by simp⟩ h4 x0 x1
      rw [g4]
      exact ⟨(d', ⟨(i + 1 : Nat), o, []⟩), rfl, g1, rfl, rfl, g2, g3⟩) (fun a h => by
      unfold law09_LinkOrder_l7
      simp only
      rw [if_neg (by simp), wsane_true]
      exact ⟨true, rfl, rfl⟩) (⟨t, 0⟩, ⟨0, 0, []⟩) ⟨DOK.roll hl, rfl, rfl, by simp, WV.zero⟩
  exact e

end Go.Proofs.Ytljdiobhmenjgaa.Sh

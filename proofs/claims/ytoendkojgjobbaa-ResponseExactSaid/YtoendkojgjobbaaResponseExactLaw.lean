/- The law ResponseExact as a plain program: it is true at every input. -/
import Derived.Test.YtoendkojgjobbaaRespZ
namespace Go.Proofs.Ytoendkojgjobbaa.Sh
open Go
set_option linter.unusedVariables false
set_option linter.unusedSimpArgs false

/-- a response of a size that is spoken of -/
def XB (x : Response) : Prop := x.Stages.length ≤ 100 ∧ ∀ s ∈ x.Stages, s.Taps.length ≤ 1000

theorem odd_spec {d : Dice} (hd : DOK d) {s : Stage} (hs : s.Taps.length ≤ 200) : ∃ s' d', law18_odd d s = some (s', d') ∧ s'.Taps.length ≤ 1000 ∧ DOK d' := by
  unfold law18_odd
  rw [appM_one _ _ _ (by simp; omega) (by decide)]
  obtain ⟨k, d1, e1, k0, k1, hd1⟩ := next_spec hd (n := 8) (by decide) (by decide)
  simp only [Option.bind_some, List.nil_append]
  rw [e1]
  simp only [Option.bind_some]
  by_cases c0 : (k == 0) = true
  · rw [if_pos c0]
    obtain ⟨x, d2, e2, x0, x1, hd2⟩ := next_spec hd1 (n := 5) (by decide) (by decide)
    rw [e2]
    exact ⟨_, _, rfl, by simp only; omega, hd2⟩
  rw [if_neg c0]
  by_cases c1 : (k == 1) = true
  · rw [if_pos c1]
    obtain ⟨x, d2, e2, x0, x1, hd2⟩ := next_spec hd1 (n := 3) (by decide) (by decide)
    obtain ⟨y, d3, e3, _, hd3⟩ := pick_spec hd2 (l := [(-1), 0, 1048576, 1048577]) (by decide) (by decide)
    rw [e2]
    simp only [Option.bind_some]
    rw [e3, show ixB 3 x = some x.toNat by unfold ixB; rw [if_pos (by omega)]]
    exact ⟨_, _, rfl, by simp only; omega, hd3⟩
  rw [if_neg c1]
  by_cases c2 : (k == 2) = true
  · rw [if_pos c2]
    obtain ⟨x, d2, e2, x0, x1, hd2⟩ := next_spec hd1 (n := 3) (by decide) (by decide)
    obtain ⟨y, d3, e3, _, hd3⟩ := pick_spec hd2 (l := [0, 1, (-1048576), (-1048577)]) (by decide) (by decide)
    rw [e2]
    simp only [Option.bind_some]
    rw [e3, show ixB 3 x = some x.toNat by unfold ixB; rw [if_pos (by omega)]]
    exact ⟨_, _, rfl, by simp only; omega, hd3⟩
  rw [if_neg c2]
  by_cases c3 : (k == 3) = true
  · rw [if_pos c3]
    obtain ⟨y, d3, e3, _, hd3⟩ := pick_spec hd1 (l := [0, 1, 64, 65]) (by decide) (by decide)
    rw [e3]
    exact ⟨_, _, rfl, by simp only; omega, hd3⟩
  rw [if_neg c3]
  by_cases c4 : (k == 4) = true
  · rw [if_pos c4]
    obtain ⟨y, d3, e3, _, hd3⟩ := pick_spec hd1 (l := [(-1), 40, 41]) (by decide) (by decide)
    rw [e3]
    exact ⟨_, _, rfl, by simp only; omega, hd3⟩
  rw [if_neg c4]
  by_cases c5 : (k == 5) = true
  · rw [if_pos c5, makeM_at _ _ _ (by decide) (by decide) (by decide)]
    obtain ⟨x, d2, e2, x0, x1, hd2⟩ := next_spec hd1 (n := 5) (by decide) (by decide)
    simp only [Option.bind_some]
    rw [e2]
    simp only [Option.bind_some]
    rw [ix_at _ _ x0 (by simp; omega)]
    refine ⟨_, _, rfl, ?_, hd2⟩
    simp only
    have hm := List.getElem_mem (l := [([] : List Int), [0], [1, (-1)], [1048577], List.replicate (129 : Int).toNat 0]) (n := x.toNat) (by simp; omega)
    generalize ([([] : List Int), [0], [1, (-1)], [1048577], List.replicate (129 : Int).toNat 0])[x.toNat]'(by simp; omega) = z at hm
    have : (129 : Int).toNat = 129 := by decide
    simp only [List.mem_cons, List.not_mem_nil, or_false] at hm
    rcases hm with rfl | rfl | rfl | rfl | rfl
    · decide
    · decide
    · decide
    · decide
    · rw [List.length_replicate]; omega
  rw [if_neg c5]
  by_cases c6 : (k == 6) = true
  · rw [if_pos c6, appM_one _ _ _ (by simp; omega) (by decide)]
    exact ⟨_, _, rfl, by simp; omega, hd1⟩
  · rw [if_neg c6]
    exact ⟨_, _, rfl, by simp only; omega, hd1⟩

theorem l31_spec {x : Response} (hx : XB x) (sv : List Int × Int × Int) (rv : Rate × Dice) : whileM (law18_ResponseExact_l31 sv x rv) 0 = some (.inl (rv.2.L, rv.2.At, w64 (sv.2.2 + 1))) := by
  obtain ⟨h1, h2⟩ := hx
  refine whileM_for' (fun i => (i : Int)) x.Stages.length _ rfl (fun i hi => ?_) ?_
  · have ht := h2 _ (List.getElem_mem hi)
    obtain ⟨n, e, e1, e2⟩ := both_sum ht
    obtain ⟨b, b1, b2, _⟩ := vst ht
    unfold law18_ResponseExact_l31
    rw [if_pos (decide_eq_true (by omega)), ix_nat _ _ hi]
    simp only [Option.bind_some]
    rw [e1, e2, b1, b2]
    simp only [Option.bind_some, bne_self_eq_false, Bool.or_self, Bool.false_eq_true, if_false, beq_self_eq_true, Bool.not_true]
    rw [w64_id (by omega) (by omega)]; rfl
  · unfold law18_ResponseExact_l31
    rw [if_neg (by simp)]; rfl
theorem l29_spec {x : Response} (hx : XB x) (sv : List Int × Int × Int) (rv : Rate × Dice) (rate : Rate) (r o : Response × Dice) (ho : RP o.1.Stages) : whileM (law18_ResponseExact_l29 rate r o sv x rv) 0 = some (.inl (rv.2.L, rv.2.At, w64 (sv.2.2 + 1))) := by
  obtain ⟨l⟩ := x
  obtain ⟨⟨ol⟩, od⟩ := o
  obtain ⟨⟨rl⟩, rd⟩ := r
  have h1 := hx.1; have h2 := hx.2
  simp only at h1 h2 ho
  refine whileM_for' (fun i => (i : Int)) 3 _ rfl (fun i hi => ?_) ?_
  · obtain ⟨y, hy, ey⟩ := ix_mem [rate, rv.1, (⟨2, 2⟩ : Rate)] i (by simpa using hi)
    obtain ⟨a, e, a1, a2⟩ := both_input (by omega) h2 y
    obtain ⟨b, f, b1, b2⟩ := both_delay (by omega) h2 y
    unfold law18_ResponseExact_l29
    rw [if_pos (decide_eq_true (by simp; omega)), ey]
    simp only [Option.bind_some]
    rw [a1, a2, b1, b2]
    simp only [Option.bind_some, bne_self_eq_false, Bool.or_self, Bool.false_eq_true, if_false, beq_self_eq_true, Bool.and_self, Bool.not_true]
    rw [w64_id (by omega) (by omega)]; rfl
  · obtain ⟨z, e, z1, z2, z3⟩ := both_join (by omega) h2 ho
    obtain ⟨n, f, n1, n2⟩ := both_factor (by omega) h2
    obtain ⟨b, b1, b2, _⟩ := vresp (by omega) h2
    obtain ⟨q, q1, q2, _⟩ := both_same (b := rl) (by omega) h2
    unfold law18_ResponseExact_l29
    rw [if_neg (by simp), z1, z2, n1, n2, b1, b2, q1, q2]
    simp only [Option.bind_some, z3, bne_self_eq_false, Bool.or_self, Bool.or_false, Bool.false_eq_true, if_false, beq_self_eq_true, Bool.not_true]
    rw [l31_spec hx]; rfl
theorem l27_spec {x : Response} (hx : XB x) (sv : List Int × Int × Int) (rate : Rate) (num den : Int) (r o : Response × Dice) (ho : RP o.1.Stages) (a b c e : Int × Dice) (he : DOK e.2) :
    ∃ d, DOK d ∧ whileM (law18_ResponseExact_l27 rate num den r o sv x a b c e) 0 = some (.inl (d.L, d.At, w64 (sv.2.2 + 1))) := by
  obtain ⟨y, d', ey, hy, hd'⟩ := drate_spec he
  refine ⟨d', hd', ?_⟩
  refine whileM_for' (fun i => (i : Int)) 3 _ rfl (fun i hi => ?_) ?_
  · obtain ⟨p, hp, ep⟩ := ix_mem [(⟨num, den⟩ : (Arr2 Int)), (⟨a.1, (w64 (1 + b.1))⟩ : (Arr2 Int)), (⟨c.1, e.1⟩ : (Arr2 Int))] i (by simpa using hi)
    obtain ⟨l⟩ := x
    obtain ⟨f, g, g1, g2, g3⟩ := both_gain (l := l) (by have := hx.1; simp only at this; omega) hx.2 p.e0 p.e1
    unfold law18_ResponseExact_l27
    rw [if_pos (decide_eq_true (by simp; omega)), ep]
    simp only [Option.bind_some]
    rw [g1, g2]
    simp only [Option.bind_some, bne_self_eq_false, Bool.false_eq_true, if_false, g3, Bool.not_true]
    rw [w64_id (by omega) (by omega)]; rfl
  · unfold law18_ResponseExact_l27
    rw [if_neg (by simp), ey]
    simp only [Option.bind_some]
    rw [l29_spec hx _ _ _ _ _ ho]; rfl

theorem law18_ResponseExact_true (t : List Int) (raw : Response) (rate : Rate) (num den : Int) : law18_ResponseExact t raw rate num den = some true := by
  unfold law18_ResponseExact
  rw [light_spec]
  simp only [Option.bind_some]
  by_cases hc : ((!(decide (t.length ≤ 500))) || (decide ((12 : Int) < (raw.Stages.length : Int)))) = true
  · rw [if_pos hc, sane_true]; rfl
  rw [if_neg hc]
  simp only [Bool.or_eq_true, Bool.not_eq_true', decide_eq_false_iff_not, decide_eq_true_eq, not_or, Classical.not_not] at hc
  obtain ⟨hl, h12⟩ := hc
  obtain ⟨r, e, hr⟩ := loop_ex (b1 := law18_ResponseExact_l2 t raw rate num den) (fun k s => ∃ i : Nat, s = (i : Int) ∧ k + i = raw.Stages.length ∧ ∀ x ∈ raw.Stages.take i, x.Taps.length ≤ 200) (fun r => r = true) (fun k s ⟨i, hi, hk, hall⟩ => by
    subst hi
    unfold law18_ResponseExact_l2
    by_cases hil : i < raw.Stages.length
    · rw [if_pos (decide_eq_true (by omega)), ix_nat _ _ hil]
      simp only [Option.bind_some]
      by_cases h2 : (decide ((200 : Int) < (raw.Stages[i].Taps.length : Int))) = true
      · rw [if_pos h2, sane_true]
        exact .inr ⟨_, rfl, rfl⟩
      · rw [if_neg h2]
        simp only [decide_eq_true_eq] at h2
        refine .inl ⟨((i + 1 : Nat) : Int), k - 1, ?_, ⟨i + 1, rfl, by omega, fun x hx => ?_⟩, by omega⟩
        · rw [w64_id (by omega) (by omega)]; rfl
        · rw [take_one hil] at hx
          rcases List.mem_append.1 hx with hx | hx
          · exact hall x hx
          · rcases List.mem_singleton.1 hx with rfl; omega
    · right
      rw [List.take_of_length_le (by omega)] at hall
      refine ⟨true, ?_, rfl⟩
      rw [if_neg (by simp; omega)]
      simp only [made_Roll, Option.bind_some]
      obtain ⟨a, d1, ea, ha, hd1⟩ := dresp (DOK.roll hl)
      obtain ⟨o, d2, eo, ho, hd2⟩ := dresp hd1
      obtain ⟨s, d3, es, hs, hd3⟩ := dstg hd2
      have hst := hs.taps
      obtain ⟨s', d4, es', hs', hd4⟩ := odd_spec hd3 (s := s) (by omega)
      obtain ⟨al⟩ := a
      have a1 := ha.sg; have a2 := ha.l8
      simp only at a1 a2
      have hta : ∀ x ∈ al, x.Taps.length ≤ 1000 := fun x hx => by have := (a1 x hx).taps; omega
      rw [ea]
      simp only [Option.bind_some]
      rw [eo]
      simp only [Option.bind_some]
      rw [rcopy (by omega) hta, es]
      simp only [Option.bind_some]
      rw [es']
      simp only [Option.bind_some]
      rw [appM_one _ _ _ (by simp; omega) (by decide)]
      simp only [Option.bind_some]
      have hX : ∀ x ∈ [(⟨al⟩ : Response), (⟨al ++ [s']⟩ : Response), raw], XB x := fun x hx => by
        simp only [List.mem_cons, List.not_mem_nil, or_false] at hx
        rcases hx with rfl | rfl | rfl
        · exact ⟨by simp only; omega, hta⟩
        · refine ⟨by simp; omega, fun y hy => ?_⟩
          rcases List.mem_append.1 hy with hy | hy
          · exact hta y hy
          · rcases List.mem_singleton.1 hy with rfl; exact hs'
        · exact ⟨by omega, fun y hy => by have := hall y hy; omega⟩
      obtain ⟨r, e, hr⟩ := loop_ex (b1 := law18_ResponseExact_l19 raw rate num den ((⟨al⟩ : Response), d1) (o, d2) (al ++ [s'])) (fun k s => ∃ i : Nat, i ≤ 3 ∧ s.2.2 = (i : Int) ∧ k + i = 3 ∧ DOK ⟨s.1, s.2.1⟩) (fun r => r = true) (fun k s ⟨i, hi3, hi, hk, hd⟩ => by
        unfold law18_ResponseExact_l19
        by_cases hil : i < 3
        · rw [if_pos (decide_eq_true (by simp; omega)), hi]
          obtain ⟨x, hx, ex⟩ := ix_mem [(⟨al⟩ : Response), (⟨al ++ [s']⟩ : Response), raw] i (by simpa using hil)
          rw [ex]
          simp only [Option.bind_some]
          obtain ⟨x1, d1', e1, _, _, hd1⟩ := next_spec hd (n := 5) (by decide) (by decide)
          obtain ⟨x2, d2', e2, _, _, hd2⟩ := next_spec hd1 (n := 3) (by decide) (by decide)
          obtain ⟨x3, d3', e3, _, hd3⟩ := pick_spec hd2 (l := [0, 65536, 65537, (-1)]) (by decide) (by decide)
          obtain ⟨x4, d4', e4, _, hd4⟩ := pick_spec hd3 (l := [1, 65536, 0, 65537]) (by decide) (by decide)
          rw [e1]; simp only [Option.bind_some]
          rw [e2]; simp only [Option.bind_some]
          rw [e3]; simp only [Option.bind_some]
          rw [e4]; simp only [Option.bind_some]
          obtain ⟨d5, hd5, e5⟩ := l27_spec (hX x hx) s rate num den ((⟨al⟩ : Response), d1) (o, d2) ⟨ho.sg, ho.l8, ho.f6⟩ (x1, d1') (x2, d2') (x3, d3') (x4, d4') hd4
          rw [e5, hi]
          refine .inl ⟨_, k - 1, rfl, ⟨i + 1, by omega, ?_, by omega, hd5⟩, by omega⟩
          simp only
          rw [w64_id (by omega) (by omega)]; rfl
        · rw [if_neg (by simp; omega), sane_true]
          exact .inr ⟨_, rfl, rfl⟩) 3 (d4.L, d4.At, 0) ⟨0, by omega, rfl, rfl, hd4⟩
      rw [e, hr]; rfl) raw.Stages.length 0 ⟨0, rfl, rfl, by simp⟩
  rw [e, hr]

end Go.Proofs.Ytoendkojgjobbaa.Sh

/- The law ResponseJoins as a plain program: it is true at every input. -/
import Derived.Test.YtoendkojgjobbaaSane18
namespace Go.Proofs.Ytoendkojgjobbaa.Sh
open Go
set_option linter.unusedVariables false
set_option linter.unusedSimpArgs false

theorem rMul_ok {a b r : List Int} {va vb : Int} (ha : NW a va) (hb : NW b vb) (hr : NW r (va * vb)) : ref17_Mul a b = some (r, 0) := by
  have la := ha.len
  have lb := hb.len
  have lr := hr.len
  obtain ⟨x, ex, hx, _⟩ := rmul_spec ha.toNV hb.toNV (by omega) (by omega)
  have : x = r := hx.inj hr.toNV
  subst this
  unfold ref17_Mul
  rw [rvalid17_true ha, rvalid17_true hb, ex]
  simp only [Option.bind, if_true, Bool.not_true, Bool.false_eq_true, if_false]
  unfold ref17_limited
  rw [if_neg (by simp; omega)]
theorem rTimes_ok {f g : Fraction} {x y : List Int} {p q r s : Int} (hp : NW f.Num p) (hq : NW f.Den q) (hr : NW g.Num r) (hs : NW g.Den s) (q0 : 0 < q) (s0 : 0 < s) (hx : NW x (p * r)) (hy : NW y (q * s)) : ref17_Times f g = some (⟨x, y⟩, 0) := by
  unfold ref17_Times
  rw [rvf_true hp hq q0, rvf_true hr hs s0, rMul_ok hp hr hx, rMul_ok hq hs hy]
  rfl

theorem law18_ResponseJoins_true (t : List Int) (num den : Int) (ht : ∀ x ∈ t, -9223372036854775808 ≤ x ∧ x ≤ 9223372036854775807) (hn : 0 ≤ num ∧ num ≤ 255) (hd : 0 ≤ den ∧ den ≤ 255) : law18_ResponseJoins t num den = some true := by
  unfold law18_ResponseJoins
  rw [light_spec]
  simp only [Option.bind]
  by_cases hl : t.length ≤ 500
  case neg => rw [decide_eq_false hl, sane_true]; rfl
  rw [decide_eq_true hl]
  simp only [Bool.not_true, Bool.false_eq_true, if_false, made_Roll]
  obtain ⟨a, d1, ea, ha, hd1⟩ := dresp (DOK.roll hl)
  obtain ⟨b, d2, eb, hb, hd2⟩ := dresp hd1
  rw [ea]; simp only
  rw [eb]; simp only
  rw [w64_id (x := num) (by omega) (by omega), w64_id (x := den) (by omega) (by omega), w64_id (x := 1 + den) (by omega) (by omega)]
  obtain ⟨la⟩ := a
  obtain ⟨lb⟩ := b
  have a1 := ha.sg; have a2 := ha.l8; have a3 := ha.f6
  have b1 := hb.sg; have b2 := hb.l8; have b3 := hb.f6
  simp only at a1 a2 a3 b1 b2 b3
  have hab : ∀ s ∈ la ++ lb, SG s := fun s hs => by
    rcases List.mem_append.1 hs with h | h
    · exact a1 s h
    · exact b1 s h
  have hba : ∀ s ∈ lb ++ la, SG s := fun s hs => by
    rcases List.mem_append.1 hs with h | h
    · exact b1 s h
    · exact a1 s h
  have elen : (lb ++ la).length = (la ++ lb).length := by simp; omega
  have efac : fac (lb ++ la) = fac (la ++ lb) := by rw [fac_append, fac_append, Int.mul_comm]
  rw [Join_spec a1 b1 a2 a3 b2 b3]
  simp only
  rw [Join_spec b1 a1 b2 b3 a2 a3, elen, efac]
  by_cases hc : (la ++ lb).length ≤ 8 ∧ fac (la ++ lb) ≤ 64
  case neg => rw [if_neg hc, if_neg hc]; simp only; rw [sane_true]; rfl
  rw [if_pos hc, if_pos hc]
  simp only [bne_self_eq_false, Bool.or_self, Bool.false_eq_true, if_false]
  have ga := Gain_spec a1 a2 a3 hn.1 (by omega : num ≤ 65536) (by omega : 1 ≤ 1 + den) (by omega)
  have gb := Gain_spec b1 b2 b3 hn.1 (by omega : num ≤ 65536) (by omega : 1 ≤ 1 + den) (by omega)
  have gab := Gain_spec hab hc.1 hc.2 hn.1 (by omega : num ≤ 65536) (by omega : 1 ≤ 1 + den) (by omega)
  have gba := Gain_spec hba (by omega) (by omega) hn.1 (by omega : num ≤ 65536) (by omega : 1 ≤ 1 + den) (by omega)
  have bad : (∃ s, (s ∈ la ∨ s ∈ lb) ∧ ¬ 0 < gden s num (1 + den)) → response_Gain ⟨la ++ lb⟩ num (1 + den) = some (⟨[], []⟩, 11) ∧ response_Gain ⟨lb ++ la⟩ num (1 + den) = some (⟨[], []⟩, 11) := by
    rintro ⟨s, hs, hneg⟩
    constructor
    · rcases gab with ⟨h, _⟩ | ⟨_, h⟩
      · exact absurd (h s (List.mem_append.2 hs)) hneg
      · exact h
    · rcases gba with ⟨h, _⟩ | ⟨_, h⟩
      · exact absurd (h s (List.mem_append.2 hs.symm)) hneg
      · exact h
  rcases ga with ⟨pa, p, q, e1, hp, hq, q0⟩ | ⟨⟨s, hs, hneg⟩, e1⟩
  · rcases gb with ⟨pb, r, s, e2, hr, hs, s0⟩ | ⟨⟨s, hs, hneg⟩, e2⟩
    · rcases gab with ⟨_, x, y, e3, hx, hy, y0⟩ | ⟨⟨s, hs, hneg⟩, _⟩
      · rcases gba with ⟨_, u, v, e4, hu, hv, v0⟩ | ⟨⟨s, hs, hneg⟩, _⟩
        · rw [gN_append] at hx hu
          rw [gD_append] at hy hv y0 v0
          rw [e1]; simp only
          rw [e2]; simp only
          rw [e3]; simp only
          rw [e4]; simp only [bne_self_eq_false, Bool.or_self, Bool.false_eq_true, if_false]
          rw [rTimes_ok (f := ⟨p, q⟩) (g := ⟨r, s⟩) hp hq hr hs q0 s0 hx hy]
          simp only
          rw [requal_spec (f := ⟨x, y⟩) (g := ⟨x, y⟩) hx hy hx hy y0 y0]
          simp only
          rw [requal_spec (f := ⟨u, v⟩) (g := ⟨x, y⟩) hu hv hx hy v0 y0, sane_true]
          have h1 : gN num (1 + den) lb * gN num (1 + den) la * (gD num (1 + den) la * gD num (1 + den) lb) = gN num (1 + den) la * gN num (1 + den) lb * (gD num (1 + den) lb * gD num (1 + den) la) := by grind
          simp [h1]
        · rcases List.mem_append.1 hs with h | h
          · exact absurd (pb s h) hneg
          · exact absurd (pa s h) hneg
      · rcases List.mem_append.1 hs with h | h
        · exact absurd (pa s h) hneg
        · exact absurd (pb s h) hneg
    · obtain ⟨e3, e4⟩ := bad ⟨s, .inr hs, hneg⟩
      rw [e1]; simp only
      rw [e2]; simp only
      rw [e3]; simp only
      rw [e4]; simp only
      rw [sane_true]; rfl
  · obtain ⟨e3, e4⟩ := bad ⟨s, .inl hs, hneg⟩
    rw [e1]; simp only
    rcases gb with ⟨pb, r, s, e2, hr, hs, s0⟩ | ⟨⟨s, hs, hneg⟩, e2⟩
    · rw [e2]; simp only
      rw [e3]; simp only
      rw [e4]; simp only
      rw [sane_true]; rfl
    · rw [e2]; simp only
      rw [e3]; simp only
      rw [e4]; simp only
      rw [sane_true]; rfl

end Go.Proofs.Ytoendkojgjobbaa.Sh

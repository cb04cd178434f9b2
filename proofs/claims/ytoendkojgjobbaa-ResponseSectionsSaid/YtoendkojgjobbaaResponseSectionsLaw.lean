/- The law ResponseSections as a plain program: it is true at every input. -/
import Derived.Test.YtoendkojgjobbaaResponseJoinsLaw
namespace Go.Proofs.Ytoendkojgjobbaa.Sh
open Go
set_option linter.unusedVariables false
set_option linter.unusedSimpArgs false

theorem sec_gain {x y : Arr3 Int} (hx : (-1048576 ≤ x.e0 ∧ x.e0 ≤ 1048576) ∧ (-1048576 ≤ x.e1 ∧ x.e1 ≤ 1048576) ∧ (-1048576 ≤ x.e2 ∧ x.e2 ≤ 1048576)) (hy : (-1048576 ≤ y.e0 ∧ y.e0 ≤ 1048576) ∧ (-1048576 ≤ y.e1 ∧ y.e1 ≤ 1048576) ∧ (-1048576 ≤ y.e2 ∧ y.e2 ≤ 1048576)) (y0 : y.e0 ≠ 0) {n d : Int} (n0 : 0 ≤ n) (n1 : n ≤ 65536) (d0 : 1 ≤ d) (d1 : d ≤ 65536) :
    (0 < sqv y n d ∧ 0 ≤ sqv x n d ∧ ∃ p q, law18_ResponseSections_fn1 ⟨1, x, y, [], 0, 0⟩ n d = some (⟨p, q⟩, 0) ∧ NW p (sqv x n d) ∧ NW q (sqv y n d) ∧ p.length ≤ 7 ∧ q.length ≤ 7) ∨
    (sqv y n d = 0 ∧ law18_ResponseSections_fn1 ⟨1, x, y, [], 0, 0⟩ n d = some (⟨[], []⟩, 11)) := by
  have hs : SG ⟨1, x, y, [], 0, 0⟩ := .inr (.inl ⟨rfl, rfl, rfl, rfl, hx.1, hx.2.1, hx.2.2, hy.1, hy.2.1, hy.2.2, y0⟩)
  have hl : ∀ s ∈ [(⟨1, x, y, [], 0, 0⟩ : Stage)], SG s := fun s h => by rcases List.mem_singleton.1 h with rfl; exact hs
  obtain ⟨p, q, _, hp, hq, lp, lq⟩ := gain_spec hs n0 n1 (by omega : 0 ≤ d) d1
  have eN : gnum ⟨1, x, y, [], 0, 0⟩ n d = sqv x n d := rfl
  have eD : gden ⟨1, x, y, [], 0, 0⟩ n d = sqv y n d := rfl
  rw [eN] at hp
  rw [eD] at hq
  have xn := hp.nn
  have yn := hq.nn
  unfold law18_ResponseSections_fn1
  rcases Gain_spec hl (by simp) (by simp [fac, fac1]) n0 n1 d0 d1 with ⟨h1, u, v, e, hu, hv, hpos⟩ | ⟨⟨s, hm, hn⟩, e⟩
  · left
    have gn : gN n d [(⟨1, x, y, [], 0, 0⟩ : Stage)] = sqv x n d := by simp [gN, eN]
    have gd : gD n d [(⟨1, x, y, [], 0, 0⟩ : Stage)] = sqv y n d := by simp [gD, eD]
    rw [gn] at hu
    rw [gd] at hv hpos
    obtain rfl := hu.toNV.inj hp.toNV
    obtain rfl := hv.toNV.inj hq.toNV
    exact ⟨hpos, xn, u, v, by rw [e]; rfl, hp, hq, lp, lq⟩
  · right
    rcases List.mem_singleton.1 hm with rfl
    rw [eD] at hn
    exact ⟨by omega, by rw [e]; rfl⟩
theorem sqv_scale (a : Arr3 Int) (n d k : Int) : sqv a (n * k) (d * k) = k * k * (k * k) * sqv a n d := by unfold sqv; grind
theorem valid_zero (x : Arr3 Int) (hx : (-1048576 ≤ x.e0 ∧ x.e0 ≤ 1048576) ∧ (-1048576 ≤ x.e1 ∧ x.e1 ≤ 1048576) ∧ (-1048576 ≤ x.e2 ∧ x.e2 ≤ 1048576)) : response_ValidStage ⟨1, x, ⟨0, 0, 0⟩, [], 0, 0⟩ = some false := by
  unfold response_ValidStage
  rw [if_neg (by decide : ¬ (((1 : Int) == 0) = true)), if_pos (by decide : ((1 : Int) == 1) = true)]
  simp only
  rw [terms_true (by simp) (three hx.1 hx.2.1 hx.2.2), terms_true (by simp) (three (by decide) (by decide) (by decide))]
  rfl

theorem law18_ResponseSections_true (a0 a1 a2 b0 b1 b2 num den b : Int) (h0 : -128 ≤ a0 ∧ a0 ≤ 127) (h1 : -128 ≤ a1 ∧ a1 ≤ 127) (h2 : -128 ≤ a2 ∧ a2 ≤ 127) (h3 : -128 ≤ b0 ∧ b0 ≤ 127) (h4 : -128 ≤ b1 ∧ b1 ≤ 127) (h5 : -128 ≤ b2 ∧ b2 ≤ 127)
    (hn : 0 ≤ num ∧ num ≤ 255) (hd : 0 ≤ den ∧ den ≤ 255) (hb : 0 ≤ b ∧ b ≤ 255) : law18_ResponseSections a0 a1 a2 b0 b1 b2 num den b = some true := by
  unfold law18_ResponseSections
  have hm : 0 ≤ Int.tmod b 50 ∧ Int.tmod b 50 < 50 := by rw [Int.tmod_eq_emod_of_nonneg hb.1]; omega
  rw [w64_id (x := a0) (by omega) (by omega), w64_id (x := a1) (by omega) (by omega), w64_id (x := a2) (by omega) (by omega), w64_id (x := b0) (by omega) (by omega), w64_id (x := b1) (by omega) (by omega), w64_id (x := b2) (by omega) (by omega),
    w64_id (x := num) (by omega) (by omega), w64_id (x := den) (by omega) (by omega), w64_id (x := 1 + den) (by omega) (by omega), w64_id (x := b) (by omega) (by omega), w64_id (x := 1 + Int.tmod b 50) (by omega) (by omega)]
  generalize Int.tmod b 50 = t at hm ⊢
  simp only [Option.bind]
  have nk : 0 ≤ num * (1 + t) ∧ num * (1 + t) ≤ 255 * 50 := ⟨Int.mul_nonneg hn.1 (by omega), Int.mul_le_mul hn.2 (by omega) (by omega) (by omega)⟩
  have dk : 1 * 1 ≤ (1 + den) * (1 + t) ∧ (1 + den) * (1 + t) ≤ 256 * 50 := ⟨Int.mul_le_mul (by omega) (by omega) (by omega) (by omega), Int.mul_le_mul (by omega) (by omega) (by omega) (by omega)⟩
  rw [w64_id (x := num * (1 + t)) (by omega) (by omega), w64_id (x := (1 + den) * (1 + t)) (by omega) (by omega)]
  have xb : (-1048576 ≤ a0 ∧ a0 ≤ 1048576) ∧ (-1048576 ≤ a1 ∧ a1 ≤ 1048576) ∧ (-1048576 ≤ a2 ∧ a2 ≤ 1048576) := by omega
  have yb : (-1048576 ≤ b0 ∧ b0 ≤ 1048576) ∧ (-1048576 ≤ b1 ∧ b1 ≤ 1048576) ∧ (-1048576 ≤ b2 ∧ b2 ≤ 1048576) := by omega
  by_cases hz : a0 = 0 ∨ b0 = 0
  · rw [if_pos (by simpa using hz), valid_zero ⟨a0, a1, a2⟩ xb]
    simp only [Bool.not_false, if_true]
    rw [sane_true]
  · have za : a0 ≠ 0 := fun h => hz (.inl h)
    have zb : b0 ≠ 0 := fun h => hz (.inr h)
    rw [if_neg (by simp [za, zb])]
    have k1 : 0 < (1 + t) * (1 + t) * ((1 + t) * (1 + t)) := Int.mul_pos (Int.mul_pos (by omega) (by omega)) (Int.mul_pos (by omega) (by omega))
    have sA := sqv_scale ⟨a0, a1, a2⟩ num (1 + den) (1 + t)
    have sB := sqv_scale ⟨b0, b1, b2⟩ num (1 + den) (1 + t)
    have G := sec_gain (x := ⟨a0, a1, a2⟩) (y := ⟨b0, b1, b2⟩) xb yb zb hn.1 (by omega : num ≤ 65536) (by omega : 1 ≤ 1 + den) (by omega)
    have W := sec_gain (x := ⟨a0, a1, a2⟩) (y := ⟨b0, b1, b2⟩) xb yb zb nk.1 (by omega : num * (1 + t) ≤ 65536) (by omega : 1 ≤ (1 + den) * (1 + t)) (by omega)
    have O := sec_gain (x := ⟨a0, a1, a2⟩) (y := ⟨a0, a1, a2⟩) xb xb za hn.1 (by omega : num ≤ 65536) (by omega : 1 ≤ 1 + den) (by omega)
    have V := sec_gain (x := ⟨b0, b1, b2⟩) (y := ⟨a0, a1, a2⟩) yb xb za hn.1 (by omega : num ≤ 65536) (by omega : 1 ≤ 1 + den) (by omega)
    rw [sA, sB] at W
    generalize sqv ⟨a0, a1, a2⟩ num (1 + den) = U at G W O V
    generalize sqv ⟨b0, b1, b2⟩ num (1 + den) = Z at G W O V
    generalize (1 + t) * (1 + t) * ((1 + t) * (1 + t)) = K at k1 W
    rcases G with ⟨z0, u0, p, q, eg, hp, hq, lp, lq⟩ | ⟨z0, eg⟩
    · rcases W with ⟨_, _, p', q', ew, hp', hq', _, _⟩ | ⟨hw, ew⟩
      · rw [eg, ew]
        simp only [bne_self_eq_false, Bool.false_eq_true, if_false]
        have e1 := requal_spec (f := ⟨p, q⟩) (g := ⟨p', q'⟩) hp hq hp' hq' z0 (Int.mul_pos k1 z0)
        rw [e1]
        simp only
        have e2 : decide (U * (K * Z) = K * U * Z) = true := decide_eq_true (by grind)
        rw [e2]
        rcases O with ⟨u1, _, po, qo, eo, hpo, hqo, _, _⟩ | ⟨u1, eo⟩
        · rcases V with ⟨_, _, pv, qv, ev, hpv, hqv, lpv, lqv⟩ | ⟨u2, ev⟩
          · rw [eo, ev]
            have hpl := hp.toNV.pos
            simp only
            rw [if_neg (by simp only [beq_iff_eq]; omega)]
            rw [requal_spec (f := ⟨po, qo⟩) (g := ⟨[1], [1]⟩) hpo hqo one_nw one_nw u1 (by decide)]
            simp only
            obtain ⟨x, _, hx, lx⟩ := multiply_spec hp.toNV hpv.toNV (by omega) (by omega)
            obtain ⟨y, _, hy, ly⟩ := multiply_spec hq.toNV hqv.toNV (by omega) (by omega)
            have hx' : NW x (U * Z) := ⟨hx, by omega⟩
            have hy' : NW y (Z * U) := ⟨hy, by omega⟩
            rw [rTimes_ok (f := ⟨p, q⟩) (g := ⟨pv, qv⟩) hp hq hpv hqv z0 u1 hx' hy']
            simp only
            rw [requal_spec (f := ⟨x, y⟩) (g := ⟨[1], [1]⟩) hx' hy' one_nw one_nw (Int.mul_pos z0 u1) (by decide), sane_true]
            have e3 : decide (U * 1 = 1 * U) = true := decide_eq_true (by omega)
            have e4 : decide (U * Z * 1 = 1 * (Z * U)) = true := decide_eq_true (by grind)
            rw [e3, e4]
            rfl
          · omega
        · rcases V with ⟨_, _, pv, qv, ev, hpv, hqv, lpv, lqv⟩ | ⟨u2, ev⟩
          · omega
          · rw [eo, ev]
            have hpl := hp.toNV.pos
            simp only
            rw [if_pos (by simp only [beq_iff_eq]; omega), sane_true]
            rfl
      · have := Int.mul_pos k1 z0
        omega
    · rcases W with ⟨hw, _⟩ | ⟨hw, ew⟩
      · rw [z0] at hw
        omega
      · rw [eg, ew, sane_true]
        rfl

end Go.Proofs.Ytoendkojgjobbaa.Sh

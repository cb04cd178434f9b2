/- Rates, delays, joined and equal responses: the code and the reference answer alike (chapter 18). -/
import Derived.Test.YtoendkojgjobbaaRespY
namespace Go.Proofs.Ytoendkojgjobbaa.Sh
open Go
set_option linter.unusedVariables false
set_option linter.unusedSimpArgs false

theorem ref02_Valid_eq (r : Rate) : ref02_Valid r = some (rateVB r) := by
  unfold ref02_Valid rateVB
  simp only [ref_in_eq, Option.bind]
  by_cases h1 : inB r.Num 1 4096 = true
  · by_cases h2 : inB r.Den 1 4096 = true
    · have a1 := inB_iff.1 h1
      have a2 := inB_iff.1 h2
      rw [if_pos h1, h1, h2, ref02_gcd_eq _ _ (by omega) (by omega)]
      simp only [if_true, Bool.true_and, Option.some.injEq]
      rw [Bool.eq_iff_iff]; simp; omega
    · simp only [Bool.not_eq_true] at h2
      simp [h1, h2]
  · simp only [Bool.not_eq_true] at h1
    simp [h1]
theorem rfactor_spec {l : List Stage} (hl : l.length ≤ 1000) (h : ∀ s ∈ l, SG s) (h6 : fac l ≤ 64) (i : Nat) (hi : i ≤ l.length) : ref18_factor ⟨l⟩ (i : Int) = some (fac (l.drop i)) := by
  unfold ref18_factor
  obtain ⟨r, e, hr⟩ := loop_ex (b1 := ref18_factor_l1 ⟨l⟩) (fun k s => ∃ m : Nat, s = (fac ((l.drop i).take m), ((i + m : Nat) : Int)) ∧ k + m + i = l.length) (fun r => r = fac (l.drop i)) (fun k s ⟨m, es, hk⟩ => by
    subst es
    unfold ref18_factor_l1
    simp only
    have hd : ∀ s ∈ l.drop i, SG s := fun s hs => h s (List.mem_of_mem_drop hs)
    by_cases hil : i + m < l.length
    · have hs := h _ (List.getElem_mem hil)
      have hb := fac1_bd hs
      have hp := fac_pos (l := (l.drop i).take m) (fun x hx => hd x (List.mem_of_mem_take hx))
      have hft : fac ((l.drop i).take (m + 1)) = fac ((l.drop i).take m) * fac1 l[i + m] := by rw [take_one (by simp; omega), fac_append]; simp [fac]
      have hle : fac ((l.drop i).take (m + 1)) ≤ 64 := by
        have hsp : fac (l.drop i) = fac ((l.drop i).take (m + 1)) * fac ((l.drop i).drop (m + 1)) := by rw [← fac_append, List.take_append_drop]
        have h1 := fac_pos (l := (l.drop i).drop (m + 1)) (fun x hx => hd x (List.mem_of_mem_drop hx))
        have h2 := fac_pos (l := (l.drop i).take (m + 1)) (fun x hx => hd x (List.mem_of_mem_take hx))
        have h3 := (fac_drop h i).2
        have := Int.mul_le_mul_of_nonneg_left h1 (show 0 ≤ fac ((l.drop i).take (m + 1)) by omega)
        omega
      have hm0 : 1 * 1 ≤ fac ((l.drop i).take m) * fac1 l[i + m] := Int.mul_le_mul hp hb.1 (by decide) (by omega)
      rw [if_pos (decide_eq_true (by omega)), ix_nat _ _ hil]
      simp only [Option.bind]
      by_cases k2 : l[i + m].Kind = 2
      · have hf1 : fac1 l[i + m] = l[i + m].Factor := by unfold fac1; rw [if_pos k2]
        rw [hf1] at hft hm0
        rw [if_pos (by simpa using k2), w64_id (by omega) (by omega)]
        refine .inl ⟨_, k - 1, ?_, ⟨m + 1, rfl, by omega⟩, by omega⟩
        unfold ref18_factor_j1
        simp only [Option.bind]
        rw [w64_id (by omega) (by omega), hft]; rfl
      · have hf1 : fac1 l[i + m] = 1 := by unfold fac1; rw [if_neg k2]
        rw [hf1, Int.mul_one] at hft
        rw [if_neg (by simpa using k2)]
        refine .inl ⟨_, k - 1, ?_, ⟨m + 1, rfl, by omega⟩, by omega⟩
        unfold ref18_factor_j1
        simp only [Option.bind]
        rw [w64_id (by omega) (by omega), hft]; rfl
    · rw [if_neg (by simp; omega)]
      refine .inr ⟨_, rfl, ?_⟩
      rw [List.take_of_length_le (by simp; omega)]) (l.length - i) (1, (i : Int)) ⟨0, by simp [fac], by omega⟩
  rw [e, hr]; rfl
theorem gcdN {N D n : Nat} (h : Nat.gcd N D = 1) : Nat.gcd (N * n) D = Nat.gcd D n := by
  have hc : Nat.Coprime N D := h
  rw [hc.gcd_mul_left_cancel, Nat.gcd_comm]
theorem rfaster_spec {r : Rate} (h : RV r) {n : Int} (h1 : 1 ≤ n) (h2 : n ≤ 64) : ref18_faster r n = some (if rateVB (fst r n) = true then (fst r n, 0) else (⟨0, 0⟩, 8)) := by
  have n0 := h.n0; have n1 := h.n1; have d0 := h.d0; have d1 := h.d1; have hg := h.g
  have m1 := Int.mul_le_mul n1 h2 (by omega) (by decide)
  have m0 : 0 < r.Num * n := Int.mul_pos (by omega) (by omega)
  obtain ⟨N, eN⟩ := Int.eq_ofNat_of_zero_le (show 0 ≤ r.Num by omega)
  obtain ⟨D, eD⟩ := Int.eq_ofNat_of_zero_le (show 0 ≤ r.Den by omega)
  obtain ⟨k, ek⟩ := Int.eq_ofNat_of_zero_le (show 0 ≤ n by omega)
  have hg' : Nat.gcd N D = 1 := by rw [eN, eD, Int.gcd_natCast_natCast] at hg; exact hg
  have e1 : r.Num * n = ((N * k : Nat) : Int) := by rw [eN, ek, Int.natCast_mul]
  have g0 : 0 < Nat.gcd D k := Nat.gcd_pos_of_pos_left _ (by omega)
  unfold ref18_faster
  rw [w64_id (by omega) (by omega)]
  simp only [Option.bind]
  have hw : whileM ref18_faster_l1 (r.Num * n, r.Den) = some ((Nat.gcd D k : Nat) : Int) := by
    rw [e1, eD, gcdloop (body := ref18_faster_l1) (fun _ => rfl), gcdN hg']
  have hgk : (Int.gcd r.Den n : Int) = ((Nat.gcd D k : Nat) : Int) := by rw [eD, ek, Int.gcd_natCast_natCast]
  rw [hw]
  simp only
  rw [quo_nn (by omega) (by omega) (by omega), quo_nn (by omega) (by omega) (by omega)]
  simp only
  have hdv : (Int.gcd r.Den n : Int) ∣ n := Int.gcd_dvd_right ..
  have ef : (⟨r.Num * n / ((Nat.gcd D k : Nat) : Int), r.Den / ((Nat.gcd D k : Nat) : Int)⟩ : Rate) = fst r n := by
    unfold fst
    rw [hgk] at hdv ⊢
    rw [Int.mul_ediv_assoc _ hdv]
  rw [ef, ref02_Valid_eq]
  simp only
  by_cases hv : rateVB (fst r n) = true
  · rw [hv]; rfl
  · have hv' : rateVB (fst r n) = false := by simpa using hv
    rw [hv']; rfl
theorem both_input {l : List Stage} (hl : l.length ≤ 1000) (ht : ∀ s ∈ l, s.Taps.length ≤ 1000) (out : Rate) : ∃ x e, response_Input ⟨l⟩ out = some (x, e) ∧ ref18_Input ⟨l⟩ out = some (x, e) := by
  obtain ⟨b, h1, h2, h3⟩ := vresp hl ht
  cases b with
  | false =>
    refine ⟨⟨0, 0⟩, 1, ?_, ?_⟩
    · unfold response_Input; rw [h1]; rfl
    · unfold ref18_Input; rw [h2]; rfl
  | true =>
    obtain ⟨hs, h8, h6⟩ := h3.1 rfl
    by_cases hr : rateVB out = true
    · have ho := rateVB_iff.1 hr
      have hp := fac_pos hs
      have e2 : ref18_Input ⟨l⟩ out = some (if rateVB (fst out (fac l)) = true then (fst out (fac l), 0) else (⟨0, 0⟩, 8)) := by
        unfold ref18_Input
        rw [h2, ref02_Valid_eq, hr]
        simp only [Option.bind, Bool.not_true, Bool.false_eq_true, if_false]
        have := rfactor_spec (by omega) hs h6 0 (by omega)
        rw [List.drop_zero] at this
        rw [show ref18_factor ⟨l⟩ 0 = some (fac l) from this]
        simp only
        rw [rfaster_spec ho hp h6]
      rw [Input_spec hs h8 h6 ho, e2]
      exact ⟨_, _, rfl, rfl⟩
    · simp only [Bool.not_eq_true] at hr
      refine ⟨⟨0, 0⟩, 1, ?_, ?_⟩
      · unfold response_Input; rw [h1, rate_Valid_eq, hr]; rfl
      · unfold ref18_Input; rw [h2, ref02_Valid_eq, hr]; rfl

/-! ### delays -/
theorem reduce_eq {a b : Int} (ha : 0 ≤ a) (ha' : a ≤ 9223372036854775807) (hb : 1 ≤ b) (hb' : b ≤ 9223372036854775807) : ref18_reduce a b = some ⟨a / (Int.gcd a b : Int), b / (Int.gcd a b : Int)⟩ := by
  obtain ⟨m, rfl⟩ := Int.eq_ofNat_of_zero_le ha
  obtain ⟨n, rfl⟩ := Int.eq_ofNat_of_zero_le (show 0 ≤ b by omega)
  have g : 0 < Nat.gcd m n := Nat.gcd_pos_of_pos_right _ (by omega)
  unfold ref18_reduce
  rw [gcdloop (body := ref18_reduce_l1) (fun _ => rfl)]
  simp only [Option.bind]
  rw [quo_nn (by omega) (by omega) (by omega), quo_nn (by omega) (by omega) (by omega)]
  rfl
theorem red_scale {g x y : Int} (hg : 0 < g) : (g * x) / (Int.gcd (g * x) (g * y) : Int) = x / (Int.gcd x y : Int) ∧ (g * y) / (Int.gcd (g * x) (g * y) : Int) = y / (Int.gcd x y : Int) := by
  have e : (Int.gcd (g * x) (g * y) : Int) = g * (Int.gcd x y : Int) := by
    rw [Int.gcd_mul_left, Int.natCast_mul, Int.natAbs_of_nonneg (by omega)]
  rw [e, Int.mul_ediv_mul_of_pos _ _ hg, Int.mul_ediv_mul_of_pos _ _ hg]
  exact ⟨rfl, rfl⟩
theorem plus_eq {a b : Ratio} (a0 : 0 ≤ a.Num) (a1 : a.Num ≤ 1099511627776) (a2 : 1 ≤ a.Den) (a3 : a.Den ≤ 1099511627776) (b0 : 0 ≤ b.Num) (b1 : b.Num ≤ 1048576) (b2 : 1 ≤ b.Den) (b3 : b.Den ≤ 8192) :
    ∃ c, response_plus a b = some c ∧ 0 ≤ c.Num ∧ 1 ≤ c.Den ∧ ((ref18_reduce b.Num b.Den).bind fun x => ref18_reduce (w64 ((w64 (a.Num * x.Den)) + (w64 (x.Num * a.Den)))) (w64 (a.Den * x.Den))) = some c := by
  have e1 := mul_bd (a := a.Num) (b := b.Den) (A := 1099511627776) (B := 8192) (by omega) a1 (by omega) b3
  have e2 := mul_bd (a := b.Num) (b := a.Den) (A := 1048576) (B := 1099511627776) (by omega) b1 (by omega) a3
  have e3 := mul_bd (a := a.Den) (b := b.Den) (A := 1099511627776) (B := 8192) (by omega) a3 (by omega) b3
  have p1 : 0 ≤ a.Num * b.Den := Int.mul_nonneg a0 (by omega)
  have p2 : 0 ≤ b.Num * a.Den := Int.mul_nonneg b0 (by omega)
  have p3 : 0 < a.Den * b.Den := Int.mul_pos (by omega) (by omega)
  have g1 : 1 ≤ (Int.gcd b.Num b.Den : Int) := by rw [Int.gcd_comm]; exact gcd_pos' (by omega)
  have d1 : (Int.gcd b.Num b.Den : Int) ∣ b.Num := Int.gcd_dvd_left ..
  have d2 : (Int.gcd b.Num b.Den : Int) ∣ b.Den := Int.gcd_dvd_right ..
  have m1 : (Int.gcd b.Num b.Den : Int) * (b.Num / (Int.gcd b.Num b.Den : Int)) = b.Num := Int.mul_ediv_cancel' d1
  have m2 : (Int.gcd b.Num b.Den : Int) * (b.Den / (Int.gcd b.Num b.Den : Int)) = b.Den := Int.mul_ediv_cancel' d2
  have q0 : 0 ≤ b.Num / (Int.gcd b.Num b.Den : Int) := Int.ediv_nonneg b0 (by omega)
  have q1 : 0 < b.Den / (Int.gcd b.Num b.Den : Int) := Int.ediv_pos_of_pos_of_dvd (by omega) (by omega) d2
  have q2 : b.Num / (Int.gcd b.Num b.Den : Int) ≤ b.Num := Int.ediv_le_self _ b0
  have q3 : b.Den / (Int.gcd b.Num b.Den : Int) ≤ b.Den := Int.ediv_le_self _ (by omega)
  obtain ⟨x, hx⟩ : ∃ x, a.Num * b.Den + b.Num * a.Den = x := ⟨_, rfl⟩
  obtain ⟨y, hy⟩ : ∃ y, a.Den * b.Den = y := ⟨_, rfl⟩
  have g : 1 ≤ (Int.gcd x y : Int) := by rw [Int.gcd_comm]; exact gcd_pos' (by omega)
  have dd2 : (Int.gcd x y : Int) ∣ y := Int.gcd_dvd_right ..
  have r0 : 0 ≤ x / (Int.gcd x y : Int) := Int.ediv_nonneg (by omega) (by omega)
  have r1 : 0 < y / (Int.gcd x y : Int) := Int.ediv_pos_of_pos_of_dvd (by omega) (by omega) dd2
  refine ⟨⟨x / (Int.gcd x y : Int), y / (Int.gcd x y : Int)⟩, ?_, r0, r1, ?_⟩
  · unfold response_plus
    rw [w64_id (x := a.Num * b.Den) (by omega) (by omega), w64_id (x := b.Num * a.Den) (by omega) (by omega), w64_id (x := a.Num * b.Den + b.Num * a.Den) (by omega) (by omega), w64_id (x := a.Den * b.Den) (by omega) (by omega)]
    simp only [Option.bind]
    rw [hx, hy, response_gcd_eq _ _ (by omega) (by omega)]
    simp only
    rw [quo_nn (by omega) (by omega) (by omega), quo_nn (by omega) (by omega) (by omega)]
  · rw [reduce_eq b0 (by omega) b2 (by omega)]
    simp only [Option.bind]
    obtain ⟨G, hG⟩ : ∃ G, (Int.gcd b.Num b.Den : Int) = G := ⟨_, rfl⟩
    rw [hG] at g1 m1 m2 q0 q1 q2 q3 ⊢
    generalize b.Num / G = u at *
    generalize b.Den / G = v at *
    have f1 := mul_bd (a := a.Num) (b := v) (A := 1099511627776) (B := 8192) (by omega) a1 (by omega) (by omega)
    have f2 := mul_bd (a := u) (b := a.Den) (A := 1048576) (B := 1099511627776) (by omega) (by omega) (by omega) a3
    have f3 := mul_bd (a := a.Den) (b := v) (A := 1099511627776) (B := 8192) (by omega) a3 (by omega) (by omega)
    have s1 : 0 ≤ a.Num * v := Int.mul_nonneg a0 (by omega)
    have s2 : 0 ≤ u * a.Den := Int.mul_nonneg q0 (by omega)
    have s3 : 0 < a.Den * v := Int.mul_pos (by omega) (by omega)
    rw [w64_id (x := a.Num * v) (by omega) (by omega), w64_id (x := u * a.Den) (by omega) (by omega), w64_id (x := a.Num * v + u * a.Den) (by omega) (by omega), w64_id (x := a.Den * v) (by omega) (by omega), reduce_eq (by omega) (by omega) (by omega) (by omega)]
    have ex : x = G * (a.Num * v + u * a.Den) := by rw [← hx, ← m1, ← m2]; grind
    have ey : y = G * (a.Den * v) := by rw [← hy, ← m2]; grind
    have rs := red_scale (g := G) (x := a.Num * v + u * a.Den) (y := a.Den * v) (by omega)
    rw [← ex, ← ey] at rs
    rw [rs.1, rs.2]
theorem both_d4 {l : List Stage} (h : ∀ s ∈ l, SG s) (h8 : l.length ≤ 8) (h6 : fac l ≤ 64) {out : Rate} (hr : RV out) :
    ∃ X, whileM (response_Delay_l4 ⟨l⟩ out) (0, 1, 0) = some X ∧ whileM (ref18_Delay_l13 ⟨l⟩ out) (0, 1, 0) = some X := by
  obtain ⟨r, q, e1, e2, rfl⟩ := sim (b1 := response_Delay_l4 ⟨l⟩ out) (b2 := ref18_Delay_l13 ⟨l⟩ out)
    (fun k s t => s = t ∧ ∃ i : Nat, s.2.2 = (i : Int) ∧ k + i = l.length ∧ 0 ≤ s.1 ∧ s.1 ≤ 1099511627776 ∧ 1 ≤ s.2.1 ∧ s.2.1 ≤ 1099511627776) (fun r q => r = q)
    (fun k s t ⟨est, i, hi, hk, a0, a1, b0, b1⟩ => by
      subst est
      obtain ⟨N, M, i'⟩ := s
      simp only at hi a0 a1 b0 b1
      subst hi
      unfold response_Delay_l4 ref18_Delay_l13
      simp only
      by_cases hil : i < l.length
      · rw [if_pos (decide_eq_true (by omega)), if_pos (decide_eq_true (by omega)), ix_nat _ _ hil]
        simp only [Option.bind_some]
        have hs := h _ (List.getElem_mem hil)
        have w1 : w64 ((i : Int) + 1) = ((i + 1 : Nat) : Int) := by rw [w64_id (by omega) (by omega)]; rfl
        unfold response_Delay_j1 ref18_Delay_j2
        simp only [Option.bind_some]
        rw [w1]
        by_cases hk2 : l[i].Kind = 2
        · have hsub : subM l (i : Int) (l.length : Int) = some (l.drop i) := by
            rw [sub_at _ _ _ (by omega) (by omega)]; simp
          have hfd := fac_drop h i
          rw [if_neg (by simp [hk2]), if_neg (by simp [hk2]), hsub, rfactor_spec (by omega) h h6 i (by omega)]
          simp only [Option.bind_some]
          rw [factor_spec (by simp; omega) (fun s hs => h s (List.mem_of_mem_drop hs)), if_pos (by omega)]
          simp only [Option.bind_some]
          rw [faster_spec hr hfd.1 (by omega), rfaster_spec hr hfd.1 (by omega)]
          simp only [Option.bind_some]
          generalize fst out (fac (l.drop i)) = f at *
          by_cases hv : rateVB f = true
          · have hf := rateVB_iff.1 hv
            rw [hv]
            simp only [Bool.not_true, Bool.false_eq_true, if_false, if_true, bne_self_eq_false]
            have fn := hf.n0; have fn1 := hf.n1; have fd := hf.d0; have fd1 := hf.d1
            have ht : 1 ≤ l[i].Taps.length ∧ l[i].Taps.length ≤ 128 := by
              rcases hs with q | q | q
              · have := q.k; omega
              · have := q.k; omega
              · exact ⟨q.l0, q.l1⟩
            generalize hT : (l[i].Taps.length : Int) = T at *
            have tb := mul_bd (a := T - 1) (b := f.Den) (A := 127) (B := 4096) (by omega) (by omega) (by omega) fd1
            have tn : 0 ≤ (T - 1) * f.Den := Int.mul_nonneg (by omega) (by omega)
            rw [w64_id (x := T - 1) (by omega) (by omega), w64_id (x := (T - 1) * f.Den) (by omega) (by omega), w64_id (x := 2 * f.Num) (by omega) (by omega)]
            obtain ⟨c, ec, c0, c1, er⟩ := plus_eq (a := ⟨N, M⟩) (b := ⟨(T - 1) * f.Den, 2 * f.Num⟩) a0 a1 b0 b1 tn (by simp only; omega) (by simp only; omega) (by simp only; omega)
            simp only at er
            rw [ec]
            obtain ⟨x, ex, er⟩ := bind_t er
            rw [ex]
            simp only [Option.bind_some]
            rw [er]
            simp only [Option.bind_some]
            by_cases hm : (decide (1099511627776 < c.Num) || decide (1099511627776 < c.Den)) = true
            · rw [if_pos hm]
              exact .inr ⟨_, _, rfl, rfl, rfl⟩
            · rw [if_neg hm]
              simp only [Bool.or_eq_true, decide_eq_true_eq, not_or] at hm
              exact .inl ⟨_, _, k - 1, rfl, rfl, ⟨rfl, i + 1, rfl, by omega, c0, by simp only; omega, c1, by simp only; omega⟩, by omega⟩
          · have hv' : rateVB f = false := by simpa using hv
            rw [hv']
            exact .inr ⟨_, _, rfl, rfl, rfl⟩
        · rw [if_pos (by simpa using hk2), if_pos (by simpa using hk2)]
          exact .inl ⟨_, _, k - 1, rfl, rfl, ⟨rfl, i + 1, rfl, by omega, a0, a1, b0, b1⟩, by omega⟩
      · rw [if_neg (by simp; omega), if_neg (by simp; omega)]
        exact .inr ⟨_, _, rfl, rfl, rfl⟩) l.length (0, 1, 0) (0, 1, 0) ⟨rfl, 0, rfl, rfl, by decide, by decide, by decide, by decide⟩
  exact ⟨_, e1, e2⟩
theorem sym_in {l : List Int} (hl : l.length ≤ 1000) (s : Stage) (hs : s.Taps = l) (i : Int) : ∃ b, response_symmetric l = some b ∧ whileM (ref18_Delay_l11 i s) 0 = some (if b = true then .inl (w64 (i + 1)) else .inr (⟨0, 0⟩, 11)) := by
  obtain ⟨r, q, e1, e2, hq⟩ := sim (b1 := response_symmetric_l2 l) (b2 := ref18_Delay_l11 i s)
    (fun k x y => x = y ∧ 0 ≤ x ∧ x ≤ l.length ∧ k = l.length - x.toNat) (fun r q => q = if r = true then .inl (w64 (i + 1)) else .inr (⟨0, 0⟩, 11))
    (fun k x y ⟨exy, h0, h1, hk⟩ => by
      subst exy
      unfold response_symmetric_l2 ref18_Delay_l11
      rw [hs]
      by_cases hx : x < l.length
      · rw [if_pos (decide_eq_true hx), if_pos (decide_eq_true hx), ix_at _ _ h0 hx]
        simp only [Option.bind]
        rw [w64_id (x := (l.length : Int) - 1) (by omega) (by omega), w64_id (x := (l.length : Int) - 1 - x) (by omega) (by omega), ix_at _ _ (by omega) (by omega), w64_id (x := x + 1) (by omega) (by omega)]
        simp only
        split
        · exact .inr ⟨_, _, rfl, rfl, rfl⟩
        · exact .inl ⟨_, _, k - 1, rfl, rfl, ⟨rfl, by omega, by omega, by omega⟩, by omega⟩
      · rw [if_neg (by simpa using hx), if_neg (by simpa using hx)]
        exact .inr ⟨_, _, rfl, rfl, rfl⟩) l.length 0 0 ⟨rfl, by omega, by omega, by omega⟩
  exact ⟨r, e1, by rw [e2, hq]⟩
theorem both_delay {l : List Stage} (hl : l.length ≤ 1000) (ht : ∀ s ∈ l, s.Taps.length ≤ 1000) (out : Rate) : ∃ x e, response_Delay ⟨l⟩ out = some (x, e) ∧ ref18_Delay ⟨l⟩ out = some (x, e) := by
  obtain ⟨b, h1, h2, h3⟩ := vresp hl ht
  cases b with
  | false =>
    refine ⟨⟨0, 0⟩, 1, ?_, ?_⟩
    · unfold response_Delay; rw [h1]; rfl
    · unfold ref18_Delay; rw [h2]; rfl
  | true =>
    obtain ⟨hs, h8, h6⟩ := h3.1 rfl
    by_cases hr : rateVB out = true
    · have ho := rateVB_iff.1 hr
      obtain ⟨X, x1, x2⟩ := both_d4 hs h8 h6 ho
      obtain ⟨r, q, e1, e2, rfl⟩ := sim (b1 := response_Delay_l2 ⟨l⟩ out) (b2 := ref18_Delay_l7 ⟨l⟩ out) (fun k s t => s = t ∧ ∃ i : Nat, s = (i : Int) ∧ k + i = l.length) (fun r q => r = q) (fun k s t ⟨est, i, hi, hk⟩ => by
        subst est
        subst hi
        unfold response_Delay_l2 ref18_Delay_l7
        simp only
        by_cases hil : i < l.length
        · rw [if_pos (decide_eq_true (by omega)), if_pos (decide_eq_true (by omega)), ix_nat _ _ hil]
          simp only [Option.bind_some]
          have hsi := hs _ (List.getElem_mem hil)
          have w1 : w64 ((i : Int) + 1) = ((i + 1 : Nat) : Int) := by rw [w64_id (by omega) (by omega)]; rfl
          by_cases hk2 : l[i].Kind = 2
          · obtain ⟨b, y1, y2⟩ := sym_in (by have := hsi.taps; omega) l[i] rfl (i : Int)
            rw [if_pos (by simpa using hk2), y1, y2]
            simp only [Option.bind_some]
            cases b with
            | true =>
              simp only [Bool.not_true, Bool.false_eq_true, if_false, if_true]
              rw [w1]
              exact .inl ⟨_, _, k - 1, rfl, rfl, ⟨rfl, i + 1, rfl, by omega⟩, by omega⟩
            | false => exact .inr ⟨_, _, rfl, rfl, rfl⟩
          · have htn : l[i].Taps = [] := by
              rcases hsi with q | q | q
              · exact q.t
              · exact q.t
              · exact absurd q.k hk2
            rw [if_neg (by simpa using hk2)]
            have y2 : whileM (ref18_Delay_l11 (i : Int) l[i]) 0 = some (.inl (w64 ((i : Int) + 1))) := by
              rw [whileM_eq]
              unfold ref18_Delay_l11
              rw [htn]; rfl
            rw [y2]
            simp only [Option.bind_some, Bool.false_eq_true, if_false]
            rw [w1]
            exact .inl ⟨_, _, k - 1, rfl, rfl, ⟨rfl, i + 1, rfl, by omega⟩, by omega⟩
        · rw [if_neg (by simp; omega), if_neg (by simp; omega), x1, x2]
          exact .inr ⟨_, _, rfl, rfl, rfl⟩) l.length 0 0 ⟨rfl, 0, rfl, rfl⟩
      obtain ⟨x, e⟩ := r
      refine ⟨x, e, ?_, ?_⟩
      · unfold response_Delay; rw [h1, rate_Valid_eq, hr]; exact e1
      · unfold ref18_Delay; rw [h2, ref02_Valid_eq, hr]; exact e2
    · simp only [Bool.not_eq_true] at hr
      refine ⟨⟨0, 0⟩, 1, ?_, ?_⟩
      · unfold response_Delay; rw [h1, rate_Valid_eq, hr]; rfl
      · unfold ref18_Delay; rw [h2, ref02_Valid_eq, hr]; rfl

/-! ### copies, joins, equality -/
theorem rcopy {l : List Stage} (hl : l.length ≤ 1000) (ht : ∀ s ∈ l, s.Taps.length ≤ 1000) : ref18_Copy ⟨l⟩ = some ⟨l⟩ := by
  unfold ref18_Copy
  have hw : whileM (ref18_Copy_l1 ⟨l⟩) (([] : List Stage), 0) = some l := by
    refine whileM_for' (fun i => (l.take i, (i : Int))) l.length _ (by simp) (fun i hi => ?_) ?_
    · unfold ref18_Copy_l1
      simp only
      have := ht _ (List.getElem_mem hi)
      rw [if_pos (decide_eq_true (by omega)), ix_nat _ _ hi]
      simp only [Option.bind]
      rw [appM_one _ _ _ (by simp; omega) (by decide)]
      simp only
      rw [appM_one _ _ _ (by simp; omega) (by decide), w64_id (by omega) (by omega)]
      simp only [List.nil_append]
      rw [take_one hi]; rfl
    · unfold ref18_Copy_l1
      simp only
      rw [if_neg (by simp), List.take_length]
  rw [hw]; rfl
/-- two lists of numbers -/
theorem ieq_ex {a b : List Int} (hl : a.length ≤ 1000000) {body : Int → Option (Int ⊕ Bool)} (hb : ∀ i, body i = (if (decide (i < (a.length : Int))) = true then (ix a i).bind fun x => (ix b i).bind fun y => (if (x != y) = true then some (Sum.inr false) else some (Sum.inl (w64 (i + 1)))) else some (.inr true))) (hab : a.length = b.length) :
    ∃ r, whileM body 0 = some r ∧ (r = true ↔ a = b) := by
  have h := loop_same (body := body) a b (fun x y => x == y) (fun x y => by simp) hab (fun i hi he => by
      rw [hb, if_pos (decide_eq_true (by omega)), ix_nat _ _ hi, ix_nat b i (by omega)]
      simp only [Option.bind]
      rw [if_neg (by simpa using he), w64_id (by omega) (by omega)]; rfl) (fun i hi he => by
      rw [hb, if_pos (decide_eq_true (by omega)), ix_nat _ _ hi, ix_nat b i (by omega)]
      simp only [Option.bind]
      rw [if_pos (by simpa using he)]) (by rw [hb, if_neg (by simp)])
  exact ⟨_, h, by simp⟩
theorem stage_eta {a b : Stage} : a = b ↔ a.Kind = b.Kind ∧ (a.Num.e0 = b.Num.e0 ∧ a.Num.e1 = b.Num.e1 ∧ a.Num.e2 = b.Num.e2) ∧ (a.Den.e0 = b.Den.e0 ∧ a.Den.e1 = b.Den.e1 ∧ a.Den.e2 = b.Den.e2) ∧ a.Taps = b.Taps ∧ a.Factor = b.Factor ∧ a.Shift = b.Shift := by
  obtain ⟨K, ⟨n0, n1, n2⟩, ⟨d0, d1, d2⟩, T, F, H⟩ := a
  obtain ⟨K', ⟨n0', n1', n2'⟩, ⟨d0', d1', d2'⟩, T', F', H'⟩ := b
  simp
theorem stage_same {a b : Stage} (ha : a.Taps.length ≤ 1000) : ∃ r, response_Same_fn1 a b = some r ∧ ref18_SameStage a b = some r ∧ (r = true ↔ a = b) := by
  have hE : ∃ e, slices_Equal_Lint_int a.Taps b.Taps = some e ∧ (e = true ↔ a.Taps = b.Taps) := by
    unfold slices_Equal_Lint_int
    by_cases hl : a.Taps.length = b.Taps.length
    · rw [if_neg (by simp; omega)]
      exact ieq_ex (by omega) (fun i => rfl) hl
    · rw [if_pos (by simp; omega)]
      exact ⟨false, rfl, ⟨fun h => (by cases h), fun h => absurd (by rw [h]) hl⟩⟩
  have hF : a.Taps.length = b.Taps.length → ∃ e, whileM (ref18_SameStage_l2 a b) 0 = some e ∧ (e = true ↔ a.Taps = b.Taps) := fun hl => ieq_ex (by omega) (fun i => rfl) hl
  have hc : ∃ r, response_Same_fn1 a b = some r ∧ (r = true ↔ a = b) := by
    obtain ⟨e, e1, e2⟩ := hE
    unfold response_Same_fn1
    rw [e1]
    simp only [Option.bind_some, iteB]
    refine ⟨_, rfl, ?_⟩
    simp only [Bool.and_eq_true, beq_iff_eq, and_true, e2]
    rw [stage_eta]
    constructor
    · rintro ⟨⟨⟨⟨⟨h1, h2⟩, h3⟩, h4⟩, h5⟩, h6⟩; exact ⟨h1, h2, h3, h4, h5, h6⟩
    · rintro ⟨h1, h2, h3, h4, h5, h6⟩; exact ⟨⟨⟨⟨⟨h1, h2⟩, h3⟩, h4⟩, h5⟩, h6⟩
  have hr : ∃ r, ref18_SameStage a b = some r ∧ (r = true ↔ a = b) := by
    unfold ref18_SameStage
    by_cases hq : ((((((a.Kind != b.Kind) || (!((a.Num.e0 == b.Num.e0) && ((a.Num.e1 == b.Num.e1) && ((a.Num.e2 == b.Num.e2) && true))))) || (!((a.Den.e0 == b.Den.e0) && ((a.Den.e1 == b.Den.e1) && ((a.Den.e2 == b.Den.e2) && true))))) || (a.Factor != b.Factor)) || (a.Shift != b.Shift)) || ((a.Taps.length : Int) != (b.Taps.length : Int))) = true
    · rw [if_pos hq]
      refine ⟨false, rfl, ⟨fun h => (by cases h), fun h => ?_⟩⟩
      subst h
      simp at hq
    · rw [if_neg hq]
      simp only [Bool.or_eq_true, not_or, Bool.not_eq_true', Bool.not_eq_false, Bool.and_eq_true, beq_iff_eq, bne_iff_ne, ne_eq, Classical.not_not, and_true] at hq
      obtain ⟨⟨⟨⟨⟨h1, h2⟩, h3⟩, h4⟩, h5⟩, h6⟩ := hq
      obtain ⟨e, e1, e2⟩ := hF (by omega)
      refine ⟨e, e1, ?_⟩
      rw [e2, stage_eta]
      exact ⟨fun h => ⟨h1, h2, h3, h, h4, h5⟩, fun h => h.2.2.2.1⟩
  obtain ⟨r, r1, r2⟩ := hc
  obtain ⟨q, q1, q2⟩ := hr
  have : r = q := by rw [Bool.eq_iff_iff, r2, q2]
  subst this
  exact ⟨r, r1, q1, r2⟩
theorem both_same {a b : List Stage} (ha : a.length ≤ 1000) (ht : ∀ s ∈ a, s.Taps.length ≤ 1000) : ∃ r, response_Same ⟨a⟩ ⟨b⟩ = some r ∧ ref18_Same ⟨a⟩ ⟨b⟩ = some r ∧ (a = b → r = true) := by
  unfold response_Same ref18_Same slices_EqualFunc_Lapi_Stage_Lapi_Stage_api_Stage_api_Stage
  simp only
  by_cases hl : a.length = b.length
  · rw [if_neg (by simp; omega), if_neg (by simp; omega)]
    obtain ⟨r, q, e1, e2, rfl, hq⟩ := sim (b1 := slices_EqualFunc_Lapi_Stage_Lapi_Stage_api_Stage_api_Stage_l2 a b response_Same_fn1) (b2 := ref18_Same_l2 ⟨a⟩ ⟨b⟩)
      (fun k s t => s = t ∧ ∃ i : Nat, s = (i : Int) ∧ k + i = a.length) (fun r q => r = q ∧ (a = b → r = true)) (fun k s t ⟨est, i, hi, hk⟩ => by
        subst est
        subst hi
        unfold slices_EqualFunc_Lapi_Stage_Lapi_Stage_api_Stage_api_Stage_l2 ref18_Same_l2
        simp only
        by_cases hil : i < a.length
        · rw [if_pos (decide_eq_true (by omega)), if_pos (decide_eq_true (by omega)), ix_nat _ _ hil, ix_nat b i (by omega)]
          simp only [Option.bind_some]
          obtain ⟨r, r1, r2, r3⟩ := stage_same (a := a[i]) (b := b[i]) (ht _ (List.getElem_mem hil))
          rw [r1, r2]
          simp only [Option.bind_some]
          have w1 : w64 ((i : Int) + 1) = ((i + 1 : Nat) : Int) := by rw [w64_id (by omega) (by omega)]; rfl
          rw [w1]
          cases r with
          | true => exact .inl ⟨_, _, k - 1, rfl, rfl, ⟨rfl, i + 1, rfl, by omega⟩, by omega⟩
          | false =>
            refine .inr ⟨_, _, rfl, rfl, rfl, fun h => ?_⟩
            subst h
            exact absurd (r3.2 rfl) (by simp)
        · rw [if_neg (by simp; omega), if_neg (by simp; omega)]
          exact .inr ⟨_, _, rfl, rfl, rfl, fun _ => rfl⟩) a.length 0 0 ⟨rfl, 0, rfl, by omega⟩
    rw [e1, e2]
    exact ⟨r, rfl, rfl, hq⟩
  · rw [if_pos (by simp; omega), if_pos (by simp; omega)]
    exact ⟨false, rfl, rfl, fun h => absurd (by rw [h]) hl⟩
theorem both_join {a o : List Stage} (ha : a.length ≤ 1000) (ht : ∀ s ∈ a, s.Taps.length ≤ 1000) (ho : RP o) : ∃ x e, response_Join ⟨a⟩ ⟨o⟩ = some (⟨x⟩, e) ∧ ref18_Join ⟨a⟩ ⟨o⟩ = some (⟨x⟩, e) ∧ ref18_Same ⟨x⟩ ⟨x⟩ = some true := by
  have hnil : ref18_Same ⟨[]⟩ ⟨[]⟩ = some true := by
    obtain ⟨r, _, r2, r3⟩ := both_same (a := []) (b := []) (by simp) (by simp)
    rw [r2, r3 rfl]
  obtain ⟨b, h1, h2, h3⟩ := vresp ha ht
  cases b with
  | false =>
    refine ⟨[], 1, ?_, ?_, hnil⟩
    · unfold response_Join; rw [h1]; rfl
    · unfold ref18_Join; rw [h2]; rfl
  | true =>
    obtain ⟨hs, h8, h6⟩ := h3.1 rfl
    obtain ⟨os, o8, o6⟩ := ho
    have hto : ∀ s ∈ o, s.Taps.length ≤ 1000 := fun s hm => by have := (os s hm).taps; omega
    obtain ⟨c, c1, c2, c3⟩ := vresp (l := o) (by omega) hto
    have hct := c3.2 ⟨os, o8, o6⟩
    subst hct
    have hab : ∀ s ∈ a ++ o, SG s := fun s hm => by
      rcases List.mem_append.1 hm with h | h
      · exact hs s h
      · exact os s h
    have htab : ∀ s ∈ a ++ o, s.Taps.length ≤ 1000 := fun s hm => by have := (hab s hm).taps; omega
    have hlen : (a ++ o).length ≤ 16 := by simp; omega
    obtain ⟨d, d1, d2, d3⟩ := vresp (l := a ++ o) (by omega) htab
    have e2 : ref18_Join ⟨a⟩ ⟨o⟩ = some (if (a ++ o).length ≤ 8 ∧ fac (a ++ o) ≤ 64 then (⟨a ++ o⟩, 0) else (⟨[]⟩, 8)) := by
      unfold ref18_Join
      rw [h2, c2, rcopy ha ht, rcopy (by omega) hto]
      simp only [Option.bind, Bool.not_true, Bool.false_eq_true, if_false]
      rw [appM_one _ _ _ (by omega) (by decide)]
      simp only
      rw [d2]
      simp only
      cases d with
      | true => rw [if_pos (d3.1 rfl).2]; rfl
      | false =>
        have hn : ¬ ((a ++ o).length ≤ 8 ∧ fac (a ++ o) ≤ 64) := fun h => (by have := d3.2 ⟨hab, h⟩; cases this)
        simp only [hn, if_false]; rfl
    rw [Join_spec hs os h8 h6 o8 o6, e2]
    by_cases hc : (a ++ o).length ≤ 8 ∧ fac (a ++ o) ≤ 64
    · rw [if_pos hc]
      obtain ⟨r, _, r2, r3⟩ := both_same (a := a ++ o) (b := a ++ o) (by omega) htab
      exact ⟨_, _, rfl, rfl, by rw [r2, r3 rfl]⟩
    · rw [if_neg hc]
      exact ⟨_, _, rfl, rfl, hnil⟩
theorem both_factor {l : List Stage} (hl : l.length ≤ 1000) (ht : ∀ s ∈ l, s.Taps.length ≤ 1000) : ∃ n e, response_Factor ⟨l⟩ = some (n, e) ∧ ref18_Factor ⟨l⟩ = some (n, e) := by
  obtain ⟨b, h1, h2, h3⟩ := vresp hl ht
  cases b with
  | false =>
    refine ⟨0, 1, ?_, ?_⟩
    · unfold response_Factor; rw [h1]; rfl
    · unfold ref18_Factor; rw [h2]; rfl
  | true =>
    obtain ⟨hs, h8, h6⟩ := h3.1 rfl
    refine ⟨fac l, 0, Factor_spec hs h8 h6, ?_⟩
    unfold ref18_Factor
    rw [h2]
    simp only [Option.bind, Bool.not_true, Bool.false_eq_true, if_false]
    have := rfactor_spec hl hs h6 0 (by omega)
    rw [List.drop_zero] at this
    rw [show ref18_factor ⟨l⟩ 0 = some (fac l) from this]
theorem both_sum {s : Stage} (hl : s.Taps.length ≤ 1000) : ∃ n e, response_Sum s = some (n, e) ∧ ref18_Sum s = some (n, e) := by
  obtain ⟨b, h1, h2, _⟩ := vst hl
  obtain ⟨v, hv⟩ := sum_ex (l := s.Taps) (by omega)
  unfold response_Sum ref18_Sum
  rw [h1, h2, total_eq, hv]
  simp only [Option.bind]
  by_cases hc : ((!b) || (s.Kind != 2)) = true
  · rw [if_pos hc]; exact ⟨_, _, rfl, rfl⟩
  · rw [if_neg hc]; exact ⟨_, _, rfl, rfl⟩

end Go.Proofs.Ytoendkojgjobbaa.Sh

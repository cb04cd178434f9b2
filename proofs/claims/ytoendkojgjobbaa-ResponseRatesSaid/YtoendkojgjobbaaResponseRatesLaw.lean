/- The law ResponseRates as a plain program: it is true at every input. -/
import Derived.Test.YtoendkojgjobbaaSane18
import Derived.Test.YtoendkojgjobbaaRateV
namespace Go.Proofs.Ytoendkojgjobbaa.Sh
open Go
set_option linter.unusedVariables false
set_option linter.unusedSimpArgs false

theorem w64_mod (x : Int) : w64 x % 18446744073709551616 = x % 18446744073709551616 := by
  simp only [w64, IntKind.wrap, IntKind.bits, IntKind.signed]
  simp only [Int.reducePow, Nat.reduceSub, Bool.true_and]
  split <;> omega
theorem w64_range (x : Int) : -9223372036854775808 ≤ w64 x ∧ w64 x < 9223372036854775808 := by
  simp only [w64, IntKind.wrap, IntKind.bits, IntKind.signed]
  simp only [Int.reducePow, Nat.reduceSub, Bool.true_and]
  split
  · next h => have h := of_decide_eq_true h; omega
  · next h => have h := mt decide_eq_true h; omega
theorem w64_cong {x y : Int} (h : x % 18446744073709551616 = y % 18446744073709551616) : w64 x = w64 y := by
  have h1 := w64_mod x; have h2 := w64_mod y; have h3 := w64_range x; have h4 := w64_range y
  omega
theorem w64_ml (a b : Int) : w64 (w64 a * b) = w64 (a * b) := w64_cong (by rw [Int.mul_emod, w64_mod, ← Int.mul_emod])
theorem w64_mr (a b : Int) : w64 (a * w64 b) = w64 (a * b) := w64_cong (by rw [Int.mul_emod, w64_mod, ← Int.mul_emod])
theorem w64_al (a b : Int) : w64 (w64 a + b) = w64 (a + b) := w64_cong (by rw [Int.add_emod, w64_mod, ← Int.add_emod])
theorem w64_ar (a b : Int) : w64 (a + w64 b) = w64 (a + b) := w64_cong (by rw [Int.add_emod, w64_mod, ← Int.add_emod])

theorem response_gcd_eq (a b : Int) (ha : 0 ≤ a) (hb : 0 ≤ b) : response_gcd a b = some (Int.gcd a b : Int) := by
  obtain ⟨m, rfl⟩ := Int.eq_ofNat_of_zero_le ha
  obtain ⟨n, rfl⟩ := Int.eq_ofNat_of_zero_le hb
  unfold response_gcd
  rw [gcdloop (body := response_gcd_l1) (fun _ => rfl)]
  rfl
theorem ref02_gcd_eq (a b : Int) (ha : 0 ≤ a) (hb : 0 ≤ b) : ref02_gcd a b = some (Int.gcd a b : Int) := by
  obtain ⟨m, rfl⟩ := Int.eq_ofNat_of_zero_le ha
  obtain ⟨n, rfl⟩ := Int.eq_ofNat_of_zero_le hb
  unfold ref02_gcd
  rw [gcdloop (body := ref02_gcd_l1) (fun _ => rfl)]
  rfl

/-- a rate times a factor -/
def fst (r : Rate) (n : Int) : Rate := ⟨r.Num * (n / (Int.gcd r.Den n : Int)), r.Den / (Int.gcd r.Den n : Int)⟩
theorem gcd_pos' {a b : Int} (ha : 1 ≤ a) : 1 ≤ (Int.gcd a b : Int) := by
  have : Int.gcd a b ≠ 0 := fun h => by
    have := (Int.gcd_eq_zero_iff.1 h).1
    omega
  omega
theorem fst_pos {r : Rate} (hn : 1 ≤ r.Num) (hd : 1 ≤ r.Den) {n : Int} (h : 1 ≤ n) : 1 ≤ (fst r n).Num ∧ 1 ≤ (fst r n).Den := by
  have g := gcd_pos' (a := r.Den) (b := n) hd
  have d1 : (Int.gcd r.Den n : Int) ∣ n := Int.gcd_dvd_right ..
  have d2 : (Int.gcd r.Den n : Int) ∣ r.Den := Int.gcd_dvd_left ..
  have h1 : 0 < n / (Int.gcd r.Den n : Int) := Int.ediv_pos_of_pos_of_dvd (by omega) (by omega) d1
  have h2 : 0 < r.Den / (Int.gcd r.Den n : Int) := Int.ediv_pos_of_pos_of_dvd (by omega) (by omega) d2
  exact ⟨Int.mul_pos (by omega) h1, h2⟩
theorem faster_spec {r : Rate} (h : RV r) {n : Int} (h1 : 1 ≤ n) (h2 : n ≤ 64) : response_faster r n = some (fst r n, rateVB (fst r n)) := by
  have g := gcd_pos' (a := r.Den) (b := n) h.d0
  have n0 := h.n0; have n1 := h.n1; have d0 := h.d0; have d1 := h.d1
  unfold response_faster
  rw [response_gcd_eq _ _ (by omega) (by omega)]
  simp only [Option.bind]
  have b1 : n / (Int.gcd r.Den n : Int) ≤ n := Int.ediv_le_self _ (by omega)
  have b2 : 0 ≤ n / (Int.gcd r.Den n : Int) := Int.ediv_nonneg (by omega) (by omega)
  have b3 : 0 ≤ r.Num * (n / (Int.gcd r.Den n : Int)) := Int.mul_nonneg (by omega) b2
  have b4 : r.Num * (n / (Int.gcd r.Den n : Int)) ≤ 4096 * 64 := Int.mul_le_mul n1 (by omega) b2 (by omega)
  rw [quo_nn (by omega) (by omega) (by omega), quo_nn (by omega) (by omega) (by omega)]
  simp only
  rw [w64_id (by omega) (by omega), rate_Valid_eq]
  rfl
theorem natg (D n m : Nat) (hD : 0 < D) : Nat.gcd D (n * m) = Nat.gcd D n * Nat.gcd (D / Nat.gcd D n) m := by
  have hg : 0 < Nat.gcd D n := Nat.gcd_pos_of_pos_left _ hD
  have hc := Nat.coprime_div_gcd_div_gcd hg
  have e1 : Nat.gcd D n * (D / Nat.gcd D n) = D := Nat.mul_div_cancel' (Nat.gcd_dvd_left ..)
  have e2 : Nat.gcd D n * (n / Nat.gcd D n) = n := Nat.mul_div_cancel' (Nat.gcd_dvd_right ..)
  generalize hgg : Nat.gcd D n = g at *
  generalize D / g = d at *
  generalize n / g = k at *
  subst e1
  subst e2
  rw [Nat.mul_assoc g k m, Nat.gcd_mul_left, hc.symm.gcd_mul_left_cancel_right]
theorem fst_fst {r : Rate} (hd : 1 ≤ r.Den) {n m : Int} (h1 : 1 ≤ n) (h2 : 1 ≤ m) : fst (fst r n) m = fst r (n * m) := by
  obtain ⟨num, den⟩ := r
  simp only at hd
  obtain ⟨D, rfl⟩ := Int.eq_ofNat_of_zero_le (show 0 ≤ den by omega)
  obtain ⟨a, rfl⟩ := Int.eq_ofNat_of_zero_le (show 0 ≤ n by omega)
  obtain ⟨b, rfl⟩ := Int.eq_ofNat_of_zero_le (show 0 ≤ m by omega)
  have e := natg D a b (by omega)
  have d1 : Nat.gcd D a ∣ a := Nat.gcd_dvd_right ..
  have d2 : Nat.gcd (D / Nat.gcd D a) b ∣ b := Nat.gcd_dvd_right ..
  have e1 := Nat.mul_div_mul_comm d1 d2
  have e2 : D / Nat.gcd D a / Nat.gcd (D / Nat.gcd D a) b = D / (Nat.gcd D a * Nat.gcd (D / Nat.gcd D a) b) := Nat.div_div_eq_div_mul ..
  unfold fst
  simp only
  simp only [← Int.natCast_mul, Int.gcd_natCast_natCast, ← Int.natCast_ediv]
  rw [e, e1, e2, Int.natCast_mul, Int.mul_assoc]

/-- the sum of the delays, as a fraction -/
def ps (out : Rate) : List Stage → Int × Int
  | [] => (0, 1)
  | s :: l => if s.Kind = 2 then (((s.Taps.length : Int) - 1) * (fst out (fac (s :: l))).Den * (ps out l).2 + (ps out l).1 * (2 * (fst out (fac (s :: l))).Num), 2 * (fst out (fac (s :: l))).Num * (ps out l).2) else ps out l
theorem ps_cons (out : Rate) (s : Stage) (l : List Stage) : ps out (s :: l) = if s.Kind = 2 then (((s.Taps.length : Int) - 1) * (fst out (fac (s :: l))).Den * (ps out l).2 + (ps out l).1 * (2 * (fst out (fac (s :: l))).Num), 2 * (fst out (fac (s :: l))).Num * (ps out l).2) else ps out l := rfl
theorem ps_pos {out : Rate} (hn : 1 ≤ out.Num) (hd : 1 ≤ out.Den) : ∀ {l : List Stage}, (∀ s ∈ l, SG s) → 1 ≤ (ps out l).2
  | [], _ => by simp [ps]
  | s :: l, h => by
    have ih := ps_pos hn hd (l := l) (fun x hx => h x (List.mem_cons_of_mem _ hx))
    have hf := fac_pos h
    have := (fst_pos hn hd hf).1
    unfold ps
    split
    · exact Int.mul_pos (by omega) ih
    · exact ih
theorem ps_append {out : Rate} (hn : 1 ≤ out.Num) (hd : 1 ≤ out.Den) {b : List Stage} (hb : ∀ s ∈ b, SG s) : ∀ {a : List Stage}, (∀ s ∈ a, SG s) →
    ps out (a ++ b) = ((ps (fst out (fac b)) a).1 * (ps out b).2 + (ps out b).1 * (ps (fst out (fac b)) a).2, (ps (fst out (fac b)) a).2 * (ps out b).2)
  | [], _ => by simp [ps]
  | s :: a, h => by
    have ha : ∀ x ∈ a, SG x := fun x hx => h x (List.mem_cons_of_mem _ hx)
    have ih := ps_append hn hd hb ha
    have hf : fst out (fac (s :: (a ++ b))) = fst (fst out (fac b)) (fac (s :: a)) := by
      rw [fst_fst hd (fac_pos hb) (fac_pos h), ← List.cons_append, fac_append, Int.mul_comm]
    rw [List.cons_append, ps_cons, ps_cons, hf, ih]
    by_cases hk : s.Kind = 2
    · rw [if_pos hk, if_pos hk]
      generalize ps (fst out (fac b)) a = q
      generalize fst (fst out (fac b)) (fac (s :: a)) = f
      generalize (s.Taps.length : Int) - 1 = t
      generalize ps out b = u
      refine Prod.ext ?_ ?_
      · simp only; grind
      · simp only; grind
    · rw [if_neg hk, if_neg hk]

theorem plus_spec {a b : Ratio} (a0 : 0 ≤ a.Num) (a1 : a.Num ≤ 1099511627776) (a2 : 1 ≤ a.Den) (a3 : a.Den ≤ 1099511627776) (b0 : 0 ≤ b.Num) (b1 : b.Num ≤ 1048576) (b2 : 1 ≤ b.Den) (b3 : b.Den ≤ 8192) :
    ∃ c, response_plus a b = some c ∧ 0 ≤ c.Num ∧ 1 ≤ c.Den ∧ c.Num * (a.Den * b.Den) = c.Den * (a.Num * b.Den + b.Num * a.Den) := by
  have e1 := mul_bd (a := a.Num) (b := b.Den) (A := 1099511627776) (B := 8192) (by omega) a1 (by omega) b3
  have e2 := mul_bd (a := b.Num) (b := a.Den) (A := 1048576) (B := 1099511627776) (by omega) b1 (by omega) a3
  have e3 := mul_bd (a := a.Den) (b := b.Den) (A := 1099511627776) (B := 8192) (by omega) a3 (by omega) b3
  have p1 : 0 ≤ a.Num * b.Den := Int.mul_nonneg a0 (by omega)
  have p2 : 0 ≤ b.Num * a.Den := Int.mul_nonneg b0 (by omega)
  have p3 : 0 < a.Den * b.Den := Int.mul_pos (by omega) (by omega)
  unfold response_plus
  rw [w64_id (x := a.Num * b.Den) (by omega) (by omega), w64_id (x := b.Num * a.Den) (by omega) (by omega), w64_id (x := a.Num * b.Den + b.Num * a.Den) (by omega) (by omega), w64_id (x := a.Den * b.Den) (by omega) (by omega)]
  simp only [Option.bind]
  generalize hx : a.Num * b.Den + b.Num * a.Den = x at *
  generalize hy : a.Den * b.Den = y at *
  have g : 1 ≤ (Int.gcd x y : Int) := by rw [Int.gcd_comm]; exact gcd_pos' (by omega)
  rw [response_gcd_eq _ _ (by omega) (by omega)]
  simp only
  rw [quo_nn (by omega) (by omega) (by omega), quo_nn (by omega) (by omega) (by omega)]
  have d1 : (Int.gcd x y : Int) ∣ x := Int.gcd_dvd_left ..
  have d2 : (Int.gcd x y : Int) ∣ y := Int.gcd_dvd_right ..
  have h2 : 0 < y / (Int.gcd x y : Int) := Int.ediv_pos_of_pos_of_dvd (by omega) (by omega) d2
  refine ⟨_, rfl, Int.ediv_nonneg (by omega) (by omega), h2, ?_⟩
  simp only
  have m1 : (Int.gcd x y : Int) * (x / (Int.gcd x y : Int)) = x := Int.mul_ediv_cancel' d1
  have m2 : (Int.gcd x y : Int) * (y / (Int.gcd x y : Int)) = y := Int.mul_ediv_cancel' d2
  generalize x / (Int.gcd x y : Int) = u at *
  generalize y / (Int.gcd x y : Int) = v at *
  rw [← m1, ← m2]
  grind

noncomputable def symB (l : List Int) : Bool := (response_symmetric l).getD false
theorem sym_spec {l : List Int} (hl : l.length ≤ 1000) : response_symmetric l = some (symB l) := by
  obtain ⟨r, e, _⟩ := loop_ex (b1 := response_symmetric_l2 l) (fun k s => 0 ≤ s ∧ s ≤ l.length ∧ k = l.length - s.toNat) (fun _ => True)
    (fun k s ⟨h0, h1, hk⟩ => by
      unfold response_symmetric_l2
      by_cases hs : s < l.length
      · rw [if_pos (decide_eq_true hs), ix_at _ _ h0 hs]
        simp only [Option.bind]
        rw [w64_id (x := (l.length : Int) - 1) (by omega) (by omega), w64_id (x := (l.length : Int) - 1 - s) (by omega) (by omega), ix_at _ _ (by omega) (by omega), w64_id (x := s + 1) (by omega) (by omega)]
        simp only
        split
        · exact .inr ⟨_, rfl, trivial⟩
        · exact .inl ⟨_, k - 1, rfl, ⟨by omega, by omega, by omega⟩, by omega⟩
      · rw [if_neg (by simpa using hs)]
        exact .inr ⟨_, rfl, trivial⟩) l.length 0 ⟨by omega, by omega, by omega⟩
  have e' : response_symmetric l = some r := e
  unfold symB
  rw [e']
  rfl
noncomputable def asym (s : Stage) : Bool := decide (s.Kind = 2) && !(symB s.Taps)

theorem fac_drop {l : List Stage} (h : ∀ s ∈ l, SG s) (i : Nat) : 1 ≤ fac (l.drop i) ∧ fac (l.drop i) ≤ fac l := by
  have h1 : 1 ≤ fac (l.drop i) := fac_pos (fun s hs => h s (List.mem_of_mem_drop hs))
  have h2 : 1 ≤ fac (l.take i) := fac_pos (fun s hs => h s (List.mem_of_mem_take hs))
  have e : fac l = fac (l.take i) * fac (l.drop i) := by rw [← fac_append, List.take_append_drop]
  refine ⟨h1, ?_⟩
  have := Int.mul_le_mul (a := 1) (b := fac (l.drop i)) (c := fac (l.take i)) (d := fac (l.drop i)) h2 (Int.le_refl _) (by omega) (by omega)
  omega

theorem dl4 {l : List Stage} (h : ∀ s ∈ l, SG s) (h8 : l.length ≤ 8) (h6 : fac l ≤ 64) {out : Rate} (hr : RV out) :
    ∃ N M e, whileM (response_Delay_l4 ⟨l⟩ out) (0, 1, 0) = some (⟨N, M⟩, e) ∧ (e = 8 ∨ e = 0 ∧ 1 ≤ M ∧ N * (ps out l).2 = M * (ps out l).1) := by
  have hn := hr.n0; have hd := hr.d0
  obtain ⟨r, e, hq⟩ := loop_ex (b1 := response_Delay_l4 ⟨l⟩ out)
    (fun k s => ∃ i : Nat, s.2.2 = (i : Int) ∧ k + i = l.length ∧ 0 ≤ s.1 ∧ s.1 ≤ 1099511627776 ∧ 1 ≤ s.2.1 ∧ s.2.1 ≤ 1099511627776 ∧ (s.1 * (ps out (l.drop i)).2 + (ps out (l.drop i)).1 * s.2.1) * (ps out l).2 = s.2.1 * (ps out (l.drop i)).2 * (ps out l).1)
    (fun r => r.2 = 8 ∨ r.2 = 0 ∧ 1 ≤ r.1.Den ∧ r.1.Num * (ps out l).2 = r.1.Den * (ps out l).1)
    (fun k s ⟨i, hi, hk, a0, a1, b0, b1, hinv⟩ => by
      obtain ⟨N, M, i'⟩ := s
      simp only at hi a0 a1 b0 b1 hinv
      subst hi
      unfold response_Delay_l4
      simp only
      by_cases hil : i < l.length
      · rw [if_pos (decide_eq_true (by omega)), ix_nat _ _ hil]
        simp only [Option.bind]
        have hs := h _ (List.getElem_mem hil)
        have hdrop : l.drop i = l[i] :: l.drop (i + 1) := List.drop_eq_getElem_cons hil
        have w1 : w64 ((i : Int) + 1) = ((i + 1 : Nat) : Int) := by rw [w64_id (by omega) (by omega)]; rfl
        unfold response_Delay_j1
        rw [w1]
        by_cases hk2 : l[i].Kind = 2
        · rw [if_neg (by simp [hk2])]
          have hsub : subM l (i : Int) (l.length : Int) = some (l.drop i) := by
            rw [sub_at _ _ _ (by omega) (Nat.le_refl _), List.take_of_length_le (Nat.le_refl _)]
          rw [hsub]
          simp only
          have hfd := fac_drop h i
          rw [factor_spec (by simp; omega) (fun s hs => h s (List.mem_of_mem_drop hs)), if_pos (by omega)]
          simp only
          rw [faster_spec hr hfd.1 (by omega)]
          simp only
          have hps : ps out (l.drop i) = (((l[i].Taps.length : Int) - 1) * (fst out (fac (l.drop i))).Den * (ps out (l.drop (i + 1))).2 + (ps out (l.drop (i + 1))).1 * (2 * (fst out (fac (l.drop i))).Num), 2 * (fst out (fac (l.drop i))).Num * (ps out (l.drop (i + 1))).2) := by
            rw [hdrop]
            rw [ps_cons, if_pos hk2]
          rw [hps] at hinv
          generalize fst out (fac (l.drop i)) = f at *
          by_cases hv : rateVB f = true
          · have hf := rateVB_iff.1 hv
            rw [hv]
            simp only [Bool.not_true, Bool.false_eq_true, if_false]
            have fn := hf.n0; have fn1 := hf.n1; have fd := hf.d0; have fd1 := hf.d1
            have ht : 1 ≤ l[i].Taps.length ∧ l[i].Taps.length ≤ 128 := by
              rcases hs with q | q | q
              · have := q.k; omega
              · have := q.k; omega
              · exact ⟨q.l0, q.l1⟩
            generalize hT : (l[i].Taps.length : Int) = T at *
            have tb := mul_bd (a := T - 1) (b := f.Den) (A := 127) (B := 4096) (by omega) (by omega) (by omega) fd1
            have tn : 0 ≤ (T - 1) * f.Den := Int.mul_nonneg (by omega) (by omega)
            rw [w64_id (x := T - 1) (by omega) (by omega), w64_id (x := (T - 1) * f.Den) (by omega) (by omega), w64_id (x := 2 * f.Num) (by omega) (by omega)]
            obtain ⟨c, ec, c0, c1, hc⟩ := plus_spec (a := ⟨N, M⟩) (b := ⟨(T - 1) * f.Den, 2 * f.Num⟩) a0 a1 b0 b1 tn (by simp only; omega) (by simp only; omega) (by simp only; omega)
            rw [ec]
            simp only
            by_cases hm : (decide (1099511627776 < c.Num) || decide (1099511627776 < c.Den)) = true
            · rw [if_pos hm]
              exact .inr ⟨_, rfl, .inl rfl⟩
            · rw [if_neg hm]
              simp only [Bool.or_eq_true, decide_eq_true_eq, not_or] at hm
              refine .inl ⟨_, k - 1, rfl, ⟨i + 1, rfl, by omega, c0, by simp only; omega, c1, by simp only; omega, ?_⟩, by omega⟩
              simp only at hc ⊢
              generalize ps out l = L at *
              generalize ps out (l.drop (i + 1)) = D at *
              obtain ⟨L1, L2⟩ := L
              obtain ⟨D1, D2⟩ := D
              simp only at hinv ⊢
              obtain ⟨cn, cd⟩ := c
              simp only at hc ⊢
              have hp : 0 < M * (2 * f.Num) := Int.mul_pos (by omega) (by omega)
              refine Int.eq_of_mul_eq_mul_right (Int.ne_of_gt hp) ?_
              have e1 : (cn * D2 + D1 * cd) * L2 * (M * (2 * f.Num)) = (cn * (M * (2 * f.Num)) * D2 + D1 * cd * (M * (2 * f.Num))) * L2 := by grind
              rw [e1, hc]
              have e2 : (cd * (N * (2 * f.Num) + (T - 1) * f.Den * M) * D2 + D1 * cd * (M * (2 * f.Num))) * L2 = cd * ((N * (2 * f.Num * D2) + ((T - 1) * f.Den * D2 + D1 * (2 * f.Num)) * M) * L2) := by grind
              rw [e2, hinv]
              grind
          · have hv' : rateVB f = false := by simpa using hv
            rw [hv']
            exact .inr ⟨_, rfl, .inl rfl⟩
        · rw [if_pos (by simpa using hk2)]
          refine .inl ⟨_, k - 1, rfl, ⟨i + 1, rfl, by omega, a0, a1, b0, b1, ?_⟩, by omega⟩
          have hps : ps out (l.drop i) = ps out (l.drop (i + 1)) := by
            rw [hdrop, ps_cons, if_neg hk2]
          rw [← hps]
          exact hinv
      · rw [if_neg (by simp; omega)]
        refine .inr ⟨_, rfl, .inr ⟨rfl, b0, ?_⟩⟩
        rw [List.drop_eq_nil_of_le (by omega)] at hinv
        simp only [ps] at hinv ⊢
        simpa using hinv) l.length (0, 1, 0) ⟨0, rfl, rfl, by decide, by decide, by decide, by decide, by simp [Int.mul_comm]⟩
  obtain ⟨⟨N, M⟩, x⟩ := r
  exact ⟨N, M, x, e, hq⟩
theorem dl2 {l : List Stage} (h : ∀ s ∈ l, SG s) (h8 : l.length ≤ 8) {out : Rate} {X : Ratio × Int} (hX : whileM (response_Delay_l4 ⟨l⟩ out) (0, 1, 0) = some X) :
    whileM (response_Delay_l2 ⟨l⟩ out) 0 = some (if l.any asym = true then (⟨0, 0⟩, 11) else X) := by
  obtain ⟨r, e, hq⟩ := loop_ex (b1 := response_Delay_l2 ⟨l⟩ out)
    (fun k s => ∃ i : Nat, s = (i : Int) ∧ k + i = l.length ∧ ∀ x ∈ l.take i, asym x = false)
    (fun r => r = if l.any asym = true then (⟨0, 0⟩, 11) else X)
    (fun k s ⟨i, hi, hk, hall⟩ => by
      subst hi
      unfold response_Delay_l2
      simp only
      by_cases hil : i < l.length
      · rw [if_pos (decide_eq_true (by omega)), ix_nat _ _ hil]
        have ht := (h _ (List.getElem_mem hil)).taps
        have ha : (if (l[i].Kind == 2) = true then (response_symmetric l[i].Taps).bind fun a => some (!a) else some false) = some (asym l[i]) := by
          by_cases hk2 : l[i].Kind = 2
          · rw [if_pos (by simpa using hk2), sym_spec (by omega)]
            simp [asym, hk2]
          · rw [if_neg (by simpa using hk2)]
            simp [asym, hk2]
        simp only [Option.bind_some]
        rw [ha]
        simp only [Option.bind_some]
        by_cases hc : asym l[i] = true
        · rw [if_pos hc]
          refine .inr ⟨_, rfl, ?_⟩
          rw [if_pos (List.any_eq_true.2 ⟨_, List.getElem_mem hil, hc⟩)]
        · rw [if_neg hc]
          refine .inl ⟨_, k - 1, rfl, ⟨i + 1, by rw [w64_id (by omega) (by omega)]; rfl, by omega, ?_⟩, by omega⟩
          intro x hx
          rw [take_one hil] at hx
          rcases List.mem_append.1 hx with hx | hx
          · exact hall x hx
          · rcases List.mem_singleton.1 hx with rfl
            simpa using hc
      · rw [if_neg (by simp; omega), hX]
        refine .inr ⟨_, rfl, ?_⟩
        rw [List.take_of_length_le (by omega)] at hall
        rw [if_neg (by
          intro hc
          obtain ⟨x, hx, hc⟩ := List.any_eq_true.1 hc
          rw [hall x hx] at hc
          cases hc)]) l.length 0 ⟨0, rfl, rfl, by simp⟩
  rw [e, hq]
theorem Delay_spec {l : List Stage} (h : ∀ s ∈ l, SG s) (h8 : l.length ≤ 8) (h6 : fac l ≤ 64) {out : Rate} (hr : RV out) :
    ∃ N M e, response_Delay ⟨l⟩ out = some (⟨N, M⟩, e) ∧ ((e = 11 ∧ l.any asym = true) ∨ (l.any asym = false ∧ (e = 8 ∨ e = 0 ∧ 1 ≤ M ∧ N * (ps out l).2 = M * (ps out l).1))) := by
  obtain ⟨N, M, e, hw, hq⟩ := dl4 h h8 h6 hr
  have e2 := dl2 h h8 hw
  unfold response_Delay
  rw [rvalid_spec (by omega) h, decide_eq_true ⟨h8, h6⟩, rate_Valid_eq, rateVB_iff.2 hr]
  simp only [Option.bind, Bool.not_true, Bool.false_eq_true, if_false]
  rw [e2]
  by_cases ha : l.any asym = true
  · rw [if_pos ha]
    exact ⟨_, _, _, rfl, .inl ⟨rfl, ha⟩⟩
  · rw [if_neg ha]
    exact ⟨_, _, _, rfl, .inr ⟨by simpa using ha, hq⟩⟩
theorem Input_spec {l : List Stage} (h : ∀ s ∈ l, SG s) (h8 : l.length ≤ 8) (h6 : fac l ≤ 64) {out : Rate} (hr : RV out) :
    response_Input ⟨l⟩ out = some (if rateVB (fst out (fac l)) = true then (fst out (fac l), 0) else (⟨0, 0⟩, 8)) := by
  have hp := fac_pos h
  unfold response_Input
  rw [rvalid_spec (by omega) h, decide_eq_true ⟨h8, h6⟩, rate_Valid_eq, rateVB_iff.2 hr]
  simp only [Option.bind, Bool.not_true, Bool.false_eq_true, if_false]
  rw [factor_spec (by omega) h, if_pos h6]
  simp only
  rw [faster_spec hr hp h6]
  simp only
  by_cases hv : rateVB (fst out (fac l)) = true
  · rw [hv]; rfl
  · have hv' : rateVB (fst out (fac l)) = false := by simpa using hv
    rw [hv']; rfl
theorem Factor_spec {l : List Stage} (h : ∀ s ∈ l, SG s) (h8 : l.length ≤ 8) (h6 : fac l ≤ 64) : response_Factor ⟨l⟩ = some (fac l, 0) := by
  unfold response_Factor
  rw [rvalid_spec (by omega) h, decide_eq_true ⟨h8, h6⟩]
  simp only [Option.bind, Bool.not_true, Bool.false_eq_true, if_false]
  rw [factor_spec (by omega) h, if_pos h6]
theorem New_eq {a b : Int} (a0 : 1 ≤ a) (a1 : a ≤ 4096) (b0 : 1 ≤ b) (b1 : b ≤ 4096) : ∃ r, ref02_New a b = some (r, 0) ∧ RV r := by
  have g := gcd_pos' (a := a) (b := b) a0
  have d1 : (Int.gcd a b : Int) ∣ a := Int.gcd_dvd_left ..
  have d2 : (Int.gcd a b : Int) ∣ b := Int.gcd_dvd_right ..
  have p1 : 0 < a / (Int.gcd a b : Int) := Int.ediv_pos_of_pos_of_dvd (by omega) (by omega) d1
  have p2 : 0 < b / (Int.gcd a b : Int) := Int.ediv_pos_of_pos_of_dvd (by omega) (by omega) d2
  have l1 : a / (Int.gcd a b : Int) ≤ a := Int.ediv_le_self _ (by omega)
  have l2 : b / (Int.gcd a b : Int) ≤ b := Int.ediv_le_self _ (by omega)
  unfold ref02_New ref01_In
  rw [show (decide (1 ≤ a)) = true from decide_eq_true a0, show (decide (a ≤ 4096)) = true from decide_eq_true a1, show (decide (1 ≤ b)) = true from decide_eq_true b0, show (decide (b ≤ 4096)) = true from decide_eq_true b1]
  simp only [Option.bind, Bool.and_self, Bool.not_true, Bool.false_eq_true, if_false]
  rw [ref02_gcd_eq _ _ (by omega) (by omega)]
  simp only
  rw [quo_nn (by omega) (by omega) (by omega), quo_nn (by omega) (by omega) (by omega)]
  refine ⟨_, rfl, ⟨p1, by simp only; omega, p2, by simp only; omega, ?_⟩⟩
  simp only
  obtain ⟨x, rfl⟩ := Int.eq_ofNat_of_zero_le (show 0 ≤ a by omega)
  obtain ⟨y, rfl⟩ := Int.eq_ofNat_of_zero_le (show 0 ≤ b by omega)
  rw [Int.gcd_natCast_natCast, ← Int.natCast_ediv, ← Int.natCast_ediv, Int.gcd_natCast_natCast]
  exact Nat.coprime_div_gcd_div_gcd (Nat.gcd_pos_of_pos_left _ (by omega))
theorem drate_spec {d : Dice} (hd : DOK d) : ∃ r d', made_Dice_Rate d = some (r, d') ∧ RV r ∧ DOK d' := by
  obtain ⟨x, d1, e1, m1, hd1⟩ := pick_spec hd (l := [1, 3, 20, 100, 40, 4096, 7]) (by decide) (by decide)
  obtain ⟨y, d2, e2, m2, hd2⟩ := pick_spec hd1 (l := [1, 1, 1, 3, 7, 4096]) (by decide) (by decide)
  unfold made_Dice_Rate
  rw [e1]; simp only [Option.bind]
  rw [e2]; simp only
  have hx : 1 ≤ x ∧ x ≤ 4096 := by
    simp only [List.mem_cons, List.not_mem_nil, or_false] at m1
    omega
  have hy : 1 ≤ y ∧ y ≤ 4096 := by
    simp only [List.mem_cons, List.not_mem_nil, or_false] at m2
    omega
  obtain ⟨r, er, hr⟩ := New_eq hx.1 hx.2 hy.1 hy.2
  rw [er]
  exact ⟨r, d2, rfl, hr, hd2⟩

theorem law18_ResponseRates_true (t : List Int) (ht : ∀ x ∈ t, -9223372036854775808 ≤ x ∧ x ≤ 9223372036854775807) : law18_ResponseRates t = some true := by
  unfold law18_ResponseRates
  rw [light_spec]
  simp only [Option.bind]
  by_cases hl : t.length ≤ 500
  case neg => rw [decide_eq_false hl, sane_true]; rfl
  rw [decide_eq_true hl]
  simp only [Bool.not_true, Bool.false_eq_true, if_false, made_Roll]
  obtain ⟨a, d1, ea, ha, hd1⟩ := dresp (DOK.roll hl)
  obtain ⟨b, d2, eb, hb, hd2⟩ := dresp hd1
  obtain ⟨out, d3, eo, ho, hd3⟩ := drate_spec hd2
  rw [ea]; simp only
  rw [eb]; simp only
  rw [eo]; simp only
  obtain ⟨la⟩ := a
  obtain ⟨lb⟩ := b
  have a1 := ha.sg; have a2 := ha.l8; have a3 := ha.f6
  have b1 := hb.sg; have b2 := hb.l8; have b3 := hb.f6
  simp only at a1 a2 a3 b1 b2 b3
  have hab : ∀ s ∈ la ++ lb, SG s := fun s hs => by
    rcases List.mem_append.1 hs with h | h
    · exact a1 s h
    · exact b1 s h
  rw [Join_spec a1 b1 a2 a3 b2 b3]
  simp only
  by_cases hc : (la ++ lb).length ≤ 8 ∧ fac (la ++ lb) ≤ 64
  case neg => rw [if_neg hc]; simp only; rw [sane_true]; rfl
  rw [if_pos hc]
  simp only [bne_self_eq_false, Bool.false_eq_true, if_false]
  have fa := fac_pos a1
  have fb := fac_pos b1
  rw [Factor_spec a1 a2 a3]; simp only
  rw [Factor_spec b1 b2 b3]; simp only
  rw [Factor_spec hab hc.1 hc.2]; simp only
  rw [Input_spec b1 b2 b3 ho]; simp only
  rw [Input_spec hab hc.1 hc.2 ho]; simp only
  have efac := fac_append la lb
  have hfab := hc.2
  rw [efac] at hfab
  rw [efac, w64_id (x := fac la * fac lb) (by have := Int.mul_pos (show 0 < fac la by omega) (show 0 < fac lb by omega); omega) (by omega)]
  simp only [bne_self_eq_false, Bool.or_self, Bool.false_eq_true, if_false]
  have hff : fst out (fac la * fac lb) = fst (fst out (fac lb)) (fac la) := by rw [fst_fst ho.d0 fb fa, Int.mul_comm]
  rw [hff]
  by_cases hv : rateVB (fst out (fac lb)) = true
  case neg =>
    rw [if_neg hv]
    simp only
    rw [sane_true]; rfl
  rw [if_pos hv]
  simp only [bne_self_eq_false, Bool.or_self, Bool.false_eq_true, if_false]
  have hmid := rateVB_iff.1 hv
  rw [Input_spec a1 a2 a3 hmid]
  simp only [bne_self_eq_false, beq_self_eq_true, Bool.and_self, Bool.not_true, Bool.or_self, Bool.false_eq_true, if_false]
  obtain ⟨uN, uM, ue, e1, h1⟩ := Delay_spec a1 a2 a3 hmid
  obtain ⟨vN, vM, ve, e2, h2⟩ := Delay_spec b1 b2 b3 ho
  obtain ⟨wN, wM, we, e3, h3⟩ := Delay_spec hab hc.1 hc.2 ho
  rw [e1]; simp only
  rw [e2]; simp only
  rw [e3]; simp only
  have hany : (la ++ lb).any asym = (la.any asym || lb.any asym) := List.any_append
  rw [hany] at h3
  rw [sane_true]
  have hpsa := ps_append ho.n0 ho.d0 b1 a1
  have pa := ps_pos hmid.n0 hmid.d0 a1
  have pb := ps_pos ho.n0 ho.d0 b1
  by_cases hz : ue = 0 ∧ ve = 0 ∧ we = 0
  · obtain ⟨rfl, rfl, rfl⟩ := hz
    simp only [bne_self_eq_false, Bool.or_self, Bool.false_eq_true, if_false]
    have h1' : 1 ≤ uM ∧ uN * (ps (fst out (fac lb)) la).2 = uM * (ps (fst out (fac lb)) la).1 := by
      rcases h1 with ⟨h, _⟩ | ⟨_, h | ⟨_, h⟩⟩
      · exact absurd h (by decide)
      · exact absurd h (by decide)
      · exact h
    have h2' : 1 ≤ vM ∧ vN * (ps out lb).2 = vM * (ps out lb).1 := by
      rcases h2 with ⟨h, _⟩ | ⟨_, h | ⟨_, h⟩⟩
      · exact absurd h (by decide)
      · exact absurd h (by decide)
      · exact h
    have h3' : 1 ≤ wM ∧ wN * (ps out (la ++ lb)).2 = wM * (ps out (la ++ lb)).1 := by
      rcases h3 with ⟨h, _⟩ | ⟨_, h | ⟨_, h⟩⟩
      · exact absurd h (by decide)
      · exact absurd h (by decide)
      · exact h
    have key : wN * uM * vM = wM * (uN * vM + vN * uM) := by
      rw [hpsa] at h3'
      generalize ps (fst out (fac lb)) la = A at *
      generalize ps out lb = B at *
      obtain ⟨A1, A2⟩ := A
      obtain ⟨B1, B2⟩ := B
      simp only at h1' h2' h3' pa pb
      have hp : 0 < A2 * B2 := Int.mul_pos (by omega) (by omega)
      refine Int.eq_of_mul_eq_mul_right (Int.ne_of_gt hp) ?_
      have e1 : wN * uM * vM * (A2 * B2) = wN * (A2 * B2) * (uM * vM) := by grind
      have e2 : wM * (uN * vM + vN * uM) * (A2 * B2) = wM * (uN * A2 * (vM * B2) + vN * B2 * (uM * A2)) := by grind
      rw [e1, h3'.2, e2, h1'.2, h2'.2]
      grind
    have el : w64 (w64 (wN * uM) * vM) = w64 (wM * w64 (w64 (uN * vM) + w64 (vN * uM))) := by
      rw [w64_ml, w64_mr, w64_cong (x := wM * (w64 (uN * vM) + w64 (vN * uM))) (y := wM * (uN * vM + vN * uM)) (by rw [Int.mul_emod, Int.add_emod, w64_mod, w64_mod, ← Int.add_emod, ← Int.mul_emod]), key]
    rw [el]
    simp
  · have hne : ((ue != 0 || ve != 0) || we != 0) = true := by
      simp only [Bool.or_eq_true, bne_iff_ne, ne_eq]
      omega
    rw [hne]
    simp only [if_true]
    have c1 : (ue == 11) = la.any asym := by
      rcases h1 with ⟨h, h'⟩ | ⟨h', h | ⟨h, _⟩⟩ <;> rw [h, h'] <;> rfl
    have c2 : (ve == 11) = lb.any asym := by
      rcases h2 with ⟨h, h'⟩ | ⟨h', h | ⟨h, _⟩⟩ <;> rw [h, h'] <;> rfl
    have c3 : (we == 11) = (la.any asym || lb.any asym) := by
      rcases h3 with ⟨h, h'⟩ | ⟨h', h | ⟨h, _⟩⟩ <;> rw [h, h'] <;> rfl
    rw [c1, c2, c3]
    simp

end Go.Proofs.Ytoendkojgjobbaa.Sh

/- Rates and delays of responses as plain programs (chapter 18). -/
import Derived.Test.YtoendkojgjobbaaSane18
import Derived.Test.YtoendkojgjobbaaRateV
namespace Go.Proofs.Ytoendkojgjobbaa.Sh
open Go
set_option linter.unusedVariables false
set_option linter.unusedSimpArgs false

theorem w64_mod (x : Int) : w64 x % 18446744073709551616 = x % 18446744073709551616 := by
  simp only [w64, IntKind.wrap, IntKind.bits, IntKind.signed]
  simp only [Int.reducePow, Nat.reduceSub, Bool.true_and]
  split <;> omega
theorem w64_range (x : Int) : -9223372036854775808 ≤ w64 x ∧ w64 x < 9223372036854775808 := by
  simp only [w64, IntKind.wrap, IntKind.bits, IntKind.signed]
  simp only [Int.reducePow, Nat.reduceSub, Bool.true_and]
  split
  · next h => have h := of_decide_eq_true h; omega
  · next h => have h := mt decide_eq_true h; omega
theorem w64_cong {x y : Int} (h : x % 18446744073709551616 = y % 18446744073709551616) : w64 x = w64 y := by
  have h1 := w64_mod x; have h2 := w64_mod y; have h3 := w64_range x; have h4 := w64_range y
  omega
theorem w64_ml (a b : Int) : w64 (w64 a * b) = w64 (a * b) := w64_cong (by rw [Int.mul_emod, w64_mod, ← Int.mul_emod])
theorem w64_mr (a b : Int) : w64 (a * w64 b) = w64 (a * b) := w64_cong (by rw [Int.mul_emod, w64_mod, ← Int.mul_emod])
theorem w64_al (a b : Int) : w64 (w64 a + b) = w64 (a + b) := w64_cong (by rw [Int.add_emod, w64_mod, ← Int.add_emod])
theorem w64_ar (a b : Int) : w64 (a + w64 b) = w64 (a + b) := w64_cong (by rw [Int.add_emod, w64_mod, ← Int.add_emod])

theorem response_gcd_eq (a b : Int) (ha : 0 ≤ a) (hb : 0 ≤ b) : response_gcd a b = some (Int.gcd a b : Int) := by
  obtain ⟨m, rfl⟩ := Int.eq_ofNat_of_zero_le ha
  obtain ⟨n, rfl⟩ := Int.eq_ofNat_of_zero_le hb
  unfold response_gcd
  rw [gcdloop (body := response_gcd_l1) (fun _ => rfl)]
  rfl
theorem ref02_gcd_eq (a b : Int) (ha : 0 ≤ a) (hb : 0 ≤ b) : ref02_gcd a b = some (Int.gcd a b : Int) := by
  obtain ⟨m, rfl⟩ := Int.eq_ofNat_of_zero_le ha
  obtain ⟨n, rfl⟩ := Int.eq_ofNat_of_zero_le hb
  unfold ref02_gcd
  rw [gcdloop (body := ref02_gcd_l1) (fun _ => rfl)]
  rfl

/-- a rate times a factor -/
def fst (r : Rate) (n : Int) : Rate := ⟨r.Num * (n / (Int.gcd r.Den n : Int)), r.Den / (Int.gcd r.Den n : Int)⟩
theorem gcd_pos' {a b : Int} (ha : 1 ≤ a) : 1 ≤ (Int.gcd a b : Int) := by
  have : Int.gcd a b ≠ 0 := fun h => by
    have := (Int.gcd_eq_zero_iff.1 h).1
    omega
  omega
theorem fst_pos {r : Rate} (hn : 1 ≤ r.Num) (hd : 1 ≤ r.Den) {n : Int} (h : 1 ≤ n) : 1 ≤ (fst r n).Num ∧ 1 ≤ (fst r n).Den := by
  have g := gcd_pos' (a := r.Den) (b := n) hd
  have d1 : (Int.gcd r.Den n : Int) ∣ n := Int.gcd_dvd_right ..
  have d2 : (Int.gcd r.Den n : Int) ∣ r.Den := Int.gcd_dvd_left ..
  have h1 : 0 < n / (Int.gcd r.Den n : Int) := Int.ediv_pos_of_pos_of_dvd (by omega) (by omega) d1
  have h2 : 0 < r.Den / (Int.gcd r.Den n : Int) := Int.ediv_pos_of_pos_of_dvd (by omega) (by omega) d2
  exact ⟨Int.mul_pos (by omega) h1, h2⟩
theorem faster_spec {r : Rate} (h : RV r) {n : Int} (h1 : 1 ≤ n) (h2 : n ≤ 64) : response_faster r n = some (fst r n, rateVB (fst r n)) := by
  have g := gcd_pos' (a := r.Den) (b := n) h.d0
  have n0 := h.n0; have n1 := h.n1; have d0 := h.d0; have d1 := h.d1
  unfold response_faster
  rw [response_gcd_eq _ _ (by omega) (by omega)]
  simp only [Option.bind]
  have b1 : n / (Int.gcd r.Den n : Int) ≤ n := Int.ediv_le_self _ (by omega)
  have b2 : 0 ≤ n / (Int.gcd r.Den n : Int) := Int.ediv_nonneg (by omega) (by omega)
  have b3 : 0 ≤ r.Num * (n / (Int.gcd r.Den n : Int)) := Int.mul_nonneg (by omega) b2
  have b4 : r.Num * (n / (Int.gcd r.Den n : Int)) ≤ 4096 * 64 := Int.mul_le_mul n1 (by omega) b2 (by omega)
  rw [quo_nn (by omega) (by omega) (by omega), quo_nn (by omega) (by omega) (by omega)]
  simp only
  rw [w64_id (by omega) (by omega), rate_Valid_eq]
  rfl
theorem fac_drop {l : List Stage} (h : ∀ s ∈ l, SG s) (i : Nat) : 1 ≤ fac (l.drop i) ∧ fac (l.drop i) ≤ fac l := by
  have h1 : 1 ≤ fac (l.drop i) := fac_pos (fun s hs => h s (List.mem_of_mem_drop hs))
  have h2 : 1 ≤ fac (l.take i) := fac_pos (fun s hs => h s (List.mem_of_mem_take hs))
  have e : fac l = fac (l.take i) * fac (l.drop i) := by rw [← fac_append, List.take_append_drop]
  refine ⟨h1, ?_⟩
  have := Int.mul_le_mul (a := 1) (b := fac (l.drop i)) (c := fac (l.take i)) (d := fac (l.drop i)) h2 (Int.le_refl _) (by omega) (by omega)
  omega

theorem Input_spec {l : List Stage} (h : ∀ s ∈ l, SG s) (h8 : l.length ≤ 8) (h6 : fac l ≤ 64) {out : Rate} (hr : RV out) :
    response_Input ⟨l⟩ out = some (if rateVB (fst out (fac l)) = true then (fst out (fac l), 0) else (⟨0, 0⟩, 8)) := by
  have hp := fac_pos h
  unfold response_Input
  rw [rvalid_spec (by omega) h, decide_eq_true ⟨h8, h6⟩, rate_Valid_eq, rateVB_iff.2 hr]
  simp only [Option.bind, Bool.not_true, Bool.false_eq_true, if_false]
  rw [factor_spec (by omega) h, if_pos h6]
  simp only
  rw [faster_spec hr hp h6]
  simp only
  by_cases hv : rateVB (fst out (fac l)) = true
  · rw [hv]; rfl
  · have hv' : rateVB (fst out (fac l)) = false := by simpa using hv
    rw [hv']; rfl
theorem Factor_spec {l : List Stage} (h : ∀ s ∈ l, SG s) (h8 : l.length ≤ 8) (h6 : fac l ≤ 64) : response_Factor ⟨l⟩ = some (fac l, 0) := by
  unfold response_Factor
  rw [rvalid_spec (by omega) h, decide_eq_true ⟨h8, h6⟩]
  simp only [Option.bind, Bool.not_true, Bool.false_eq_true, if_false]
  rw [factor_spec (by omega) h, if_pos h6]
theorem New_eq {a b : Int} (a0 : 1 ≤ a) (a1 : a ≤ 4096) (b0 : 1 ≤ b) (b1 : b ≤ 4096) : ∃ r, ref02_New a b = some (r, 0) ∧ RV r := by
  have g := gcd_pos' (a := a) (b := b) a0
  have d1 : (Int.gcd a b : Int) ∣ a := Int.gcd_dvd_left ..
  have d2 : (Int.gcd a b : Int) ∣ b := Int.gcd_dvd_right ..
  have p1 : 0 < a / (Int.gcd a b : Int) := Int.ediv_pos_of_pos_of_dvd (by omega) (by omega) d1
  have p2 : 0 < b / (Int.gcd a b : Int) := Int.ediv_pos_of_pos_of_dvd (by omega) (by omega) d2
  have l1 : a / (Int.gcd a b : Int) ≤ a := Int.ediv_le_self _ (by omega)
  have l2 : b / (Int.gcd a b : Int) ≤ b := Int.ediv_le_self _ (by omega)
  unfold ref02_New ref01_In
  rw [show (decide (1 ≤ a)) = true from decide_eq_true a0, show (decide (a ≤ 4096)) = true from decide_eq_true a1, show (decide (1 ≤ b)) = true from decide_eq_true b0, show (decide (b ≤ 4096)) = true from decide_eq_true b1]
  simp only [Option.bind, Bool.and_self, Bool.not_true, Bool.false_eq_true, if_false]
  rw [ref02_gcd_eq _ _ (by omega) (by omega)]
  simp only
  rw [quo_nn (by omega) (by omega) (by omega), quo_nn (by omega) (by omega) (by omega)]
  refine ⟨_, rfl, ⟨p1, by simp only; omega, p2, by simp only; omega, ?_⟩⟩
  simp only
  obtain ⟨x, rfl⟩ := Int.eq_ofNat_of_zero_le (show 0 ≤ a by omega)
  obtain ⟨y, rfl⟩ := Int.eq_ofNat_of_zero_le (show 0 ≤ b by omega)
  rw [Int.gcd_natCast_natCast, ← Int.natCast_ediv, ← Int.natCast_ediv, Int.gcd_natCast_natCast]
  exact Nat.coprime_div_gcd_div_gcd (Nat.gcd_pos_of_pos_left _ (by omega))
theorem drate_spec {d : Dice} (hd : DOK d) : ∃ r d', made_Dice_Rate d = some (r, d') ∧ RV r ∧ DOK d' := by
  obtain ⟨x, d1, e1, m1, hd1⟩ := pick_spec hd (l := [1, 3, 20, 100, 40, 4096, 7]) (by decide) (by decide)
  obtain ⟨y, d2, e2, m2, hd2⟩ := pick_spec hd1 (l := [1, 1, 1, 3, 7, 4096]) (by decide) (by decide)
  unfold made_Dice_Rate
  rw [e1]; simp only [Option.bind]
  rw [e2]; simp only
  have hx : 1 ≤ x ∧ x ≤ 4096 := by
    simp only [List.mem_cons, List.not_mem_nil, or_false] at m1
    omega
  have hy : 1 ≤ y ∧ y ≤ 4096 := by
    simp only [List.mem_cons, List.not_mem_nil, or_false] at m2
    omega
  obtain ⟨r, er, hr⟩ := New_eq hx.1 hx.2 hy.1 hy.2
  rw [er]
  exact ⟨r, d2, rfl, hr, hd2⟩

end Go.Proofs.Ytoendkojgjobbaa.Sh

/- Rates and times of samples as plain programs (chapter 2): what they compute, for any arguments in range. -/
import Derived.Test.YtmlekplbmfengaaGreatLibP
import Derived.Test.YtmlekplbmfengaaGreatSh
namespace Go.Proofs.YtmlekplbmfengaaGreat.Sh
open Go
set_option linter.unusedVariables false
set_option linter.unusedSimpArgs false
/-- a number lies from low to high -/
def inB (n lo hi : Int) : Bool := decide (lo ≤ n) && decide (n ≤ hi)
theorem inB_iff {n lo hi : Int} : inB n lo hi = true ↔ lo ≤ n ∧ n ≤ hi := by simp [inB]
theorem inB_true {n lo hi : Int} (h1 : lo ≤ n) (h2 : n ≤ hi) : inB n lo hi = true := inB_iff.2 ⟨h1, h2⟩
theorem rate_in_eq (n lo hi : Int) : rate_in n lo hi = some (inB n lo hi) := rfl
theorem tmod_cast (m n : Nat) : ((m : Int).tmod (n : Int)) = ((m % n : Nat) : Int) := by
  rw [Int.tmod_eq_emod_of_nonneg (Int.natCast_nonneg m)]; rfl
theorem gcdloop {body : Int × Int → Option ((Int × Int) ⊕ Int)} (hb : ∀ s, body s = if (s.2 != 0) = true then (remM s.1 s.2).bind fun r => some (Sum.inl (s.2, r)) else some (Sum.inr s.1)) (a b : Nat) :
    whileM body ((a : Int), (b : Int)) = some (Nat.gcd a b : Int) := by
  have h := whileM_inv (body := body) (fun s => ∃ x y : Nat, s = ((x : Int), (y : Int)) ∧ Nat.gcd x y = Nat.gcd a b) (fun s => s.2.toNat) (fun r => r = (Nat.gcd a b : Int)) (by
    rintro s ⟨x, y, rfl, hg⟩
    by_cases hy : y = 0
    · right
      subst hy
      refine ⟨(x : Int), ?_, ?_⟩
      · rw [hb]; simp
      · rw [← hg]; simp
    · left
      have hy' : (y : Int) ≠ 0 := by omega
      refine ⟨((y : Int), ((x % y : Nat) : Int)), ?_, ⟨y, x % y, rfl, ?_⟩, ?_⟩
      · rw [hb, if_pos (by simpa using hy)]
        simp only
        rw [remM_at _ _ hy', tmod_cast]
        rfl
      · rw [← hg, Nat.gcd_comm y, ← Nat.gcd_rec, Nat.gcd_comm]
      · simp only [Int.toNat_natCast]
        exact Nat.mod_lt _ (by omega)) ((a : Int), (b : Int)) ⟨a, b, rfl, rfl⟩
  obtain ⟨r, hr, rfl⟩ := h
  exact hr
theorem rate_gcd_eq (a b : Int) (ha : 0 ≤ a) (hb : 0 ≤ b) : rate_gcd a b = some (Int.gcd a b : Int) := by
  obtain ⟨m, rfl⟩ := Int.eq_ofNat_of_zero_le ha
  obtain ⟨n, rfl⟩ := Int.eq_ofNat_of_zero_le hb
  unfold rate_gcd
  rw [gcdloop (body := rate_gcd_l1) (fun _ => rfl)]
  rfl
/-- a rate that is well -/
structure RV (r : Rate) : Prop where
  n0 : 1 ≤ r.Num
  n1 : r.Num ≤ 4096
  d0 : 1 ≤ r.Den
  d1 : r.Den ≤ 4096
  g : Int.gcd r.Num r.Den = 1
def rateVB (r : Rate) : Bool := inB r.Num 1 4096 && (inB r.Den 1 4096 && decide (Int.gcd r.Num r.Den = 1))
theorem rateVB_iff {r : Rate} : rateVB r = true ↔ RV r := by
  simp only [rateVB, inB, Bool.and_eq_true, decide_eq_true_eq]
  exact ⟨fun ⟨⟨a, b⟩, ⟨c, d⟩, e⟩ => ⟨a, b, c, d, e⟩, fun ⟨a, b, c, d, e⟩ => ⟨⟨a, b⟩, ⟨c, d⟩, e⟩⟩
theorem rate_Valid_eq (r : Rate) : rate_Valid r = some (rateVB r) := by
  unfold rate_Valid rateVB
  simp only [rate_in_eq, Option.bind]
  by_cases h1 : inB r.Num 1 4096 = true
  · by_cases h2 : inB r.Den 1 4096 = true
    · have a1 := inB_iff.1 h1
      have a2 := inB_iff.1 h2
      rw [if_pos h1, h1, h2, rate_gcd_eq _ _ (by omega) (by omega)]
      simp only [if_true, Bool.true_and, Option.some.injEq]
      rw [Bool.eq_iff_iff]; simp; omega
    · simp only [Bool.not_eq_true] at h2
      simp [h1, h2]
  · simp only [Bool.not_eq_true] at h1
    simp [h1]
/-- the time of a sample -/
def timeV (start : Int) (r : Rate) (k : Int) : Int × Int :=
  if rateVB r = true then (if (inB start 0 9007199254740992 && inB k 0 16777216) = true then (start + k * (r.Den * 1000000) / r.Num, 0) else (0, 2)) else (0, 1)
theorem timeV_ok {start k : Int} {r : Rate} (h : RV r) (s0 : 0 ≤ start) (s1 : start ≤ 9007199254740992) (k0 : 0 ≤ k) (k1 : k ≤ 16777216) : timeV start r k = (start + k * (r.Den * 1000000) / r.Num, 0) := by
  unfold timeV
  rw [if_pos (rateVB_iff.2 h), if_pos (by rw [inB_true s0 s1, inB_true k0 k1]; rfl)]
theorem after_fits {k : Int} {r : Rate} (h : RV r) (k0 : 0 ≤ k) (k1 : k ≤ 16777216) : 0 ≤ k * (r.Den * 1000000) ∧ k * (r.Den * 1000000) ≤ 68719476736000000 ∧ 0 ≤ k * (r.Den * 1000000) / r.Num ∧ k * (r.Den * 1000000) / r.Num ≤ 68719476736000000 := by
  have hd0 := h.d0
  have hd1 := h.d1
  have hn0 := h.n0
  have e1 : k * (r.Den * 1000000) ≤ 16777216 * 4096000000 := Int.mul_le_mul k1 (by omega) (by omega) (by omega)
  have e0 : 0 ≤ k * (r.Den * 1000000) := Int.mul_nonneg k0 (by omega)
  have e2 : k * (r.Den * 1000000) / r.Num ≤ k * (r.Den * 1000000) := Int.ediv_le_self _ e0
  have e3 : 0 ≤ k * (r.Den * 1000000) / r.Num := Int.ediv_nonneg e0 (by omega)
  omega
theorem quo_nn {a b : Int} (hb : 0 < b) (ha : 0 ≤ a) (h : a ≤ 9223372036854775807) : quoM .i64 a b = some (a / b) := by
  rw [quoM_at _ _ _ (by omega), Int.tdiv_eq_ediv_of_nonneg ha]
  have h1 := Int.ediv_le_self b ha
  have h2 := Int.ediv_nonneg ha (by omega : 0 ≤ b)
  have := w64_id (x := a / b) (by omega) (by omega)
  simp only [w64] at this
  rw [this]
theorem rate_micros_eq {r : Rate} (h : RV r) : rate_micros r = some (r.Den * 1000000) := by
  have hd0 := h.d0
  have hd1 := h.d1
  unfold rate_micros
  rw [w64_id (by omega) (by omega)]; rfl
theorem rate_after_eq {r : Rate} (h : RV r) {k : Int} (k0 : 0 ≤ k) (k1 : k ≤ 16777216) : rate_after r k = some (k * (r.Den * 1000000) / r.Num) := by
  obtain ⟨e0, e1, e2, e3⟩ := after_fits h k0 k1
  have hn0 := h.n0
  unfold rate_after
  rw [rate_micros_eq h]
  simp only [Option.bind]
  rw [w64_id (by omega) (by omega), quo_nn (by omega) e0 (by omega)]
theorem rate_Time_eq (start : Int) (r : Rate) (k : Int) : rate_Time start r k = some (timeV start r k) := by
  unfold rate_Time timeV
  rw [rate_Valid_eq]
  simp only [rate_in_eq, Option.bind]
  by_cases h : rateVB r = true
  · have hr := rateVB_iff.1 h
    rw [h]
    simp only [Bool.not_true, Bool.false_eq_true, if_false, if_true]
    by_cases h1 : inB start 0 9007199254740992 = true
    · rw [h1]
      simp only [Bool.not_true, Bool.false_eq_true, if_false, Bool.true_and]
      by_cases h2 : inB k 0 16777216 = true
      · have a1 := inB_iff.1 h1
        have a2 := inB_iff.1 h2
        obtain ⟨e0, e1, e2, e3⟩ := after_fits hr a2.1 a2.2
        rw [h2, rate_after_eq hr a2.1 a2.2]
        simp only [Bool.not_true, Bool.false_eq_true, if_false, if_true]
        rw [w64_id (by omega) (by omega)]
      · simp only [Bool.not_eq_true] at h2
        rw [h2]; simp
    · simp only [Bool.not_eq_true] at h1
      rw [h1]; simp
  · simp only [Bool.not_eq_true] at h
    rw [h]; simp
end Go.Proofs.YtmlekplbmfengaaGreat.Sh

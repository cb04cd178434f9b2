/- Rates and times of samples of the reference as plain programs: they compute what the program's do. -/
import Derived.Test.YthdimlepjpnncaaGreatRate
namespace Go.Proofs.YthdimlepjpnncaaGreat.Sh
open Go
set_option linter.unusedVariables false
set_option linter.unusedSimpArgs false

theorem ref01_In_eq (n lo hi : Int) : ref01_In n lo hi = some (inB n lo hi) := rfl
theorem ref02_gcd_eq (a b : Int) (ha : 0 ≤ a) (hb : 0 ≤ b) : ref02_gcd a b = some (Int.gcd a b : Int) := by
  obtain ⟨m, rfl⟩ := Int.eq_ofNat_of_zero_le ha
  obtain ⟨n, rfl⟩ := Int.eq_ofNat_of_zero_le hb
  unfold ref02_gcd
  rw [gcdloop (body := ref02_gcd_l1) (fun _ => rfl)]
  rfl

theorem ref02_Valid_eq (r : Rate) : ref02_Valid r = some (rateVB r) := by
  unfold ref02_Valid rateVB
  simp only [ref01_In_eq, Option.bind]
  by_cases h1 : inB r.Num 1 4096 = true
  · by_cases h2 : inB r.Den 1 4096 = true
    · have a1 := inB_iff.1 h1
      have a2 := inB_iff.1 h2
      rw [if_pos h1, h1, h2, ref02_gcd_eq _ _ (by omega) (by omega)]
      simp only [if_true, Bool.true_and, Option.some.injEq]
      rw [Bool.eq_iff_iff]; simp; omega
    · simp only [Bool.not_eq_true] at h2
      simp [h1, h2]
  · simp only [Bool.not_eq_true] at h1
    simp [h1]

theorem ref02_Time_eq (start : Int) (r : Rate) (k : Int) : ref02_Time start r k = some (timeV start r k) := by
  unfold ref02_Time timeV
  rw [ref02_Valid_eq]
  simp only [ref01_In_eq, Option.bind]
  by_cases h : rateVB r = true
  · have hr := rateVB_iff.1 h
    rw [h]
    simp only [Bool.not_true, Bool.false_eq_true, if_false, if_true]
    by_cases h1 : inB start 0 9007199254740992 = true
    · rw [h1]
      simp only [Bool.not_true, Bool.false_eq_true, if_false, Bool.true_and]
      by_cases h2 : inB k 0 16777216 = true
      · have a1 := inB_iff.1 h1
        have a2 := inB_iff.1 h2
        obtain ⟨e0, e1, e2, e3⟩ := after_fits hr a2.1 a2.2
        have hd0 := hr.d0
        have hd1 := hr.d1
        have hn0 := hr.n0
        have q1 : k * r.Den ≤ 16777216 * 4096 := Int.mul_le_mul a2.2 hd1 (by omega) (by omega)
        have q0 : 0 ≤ k * r.Den := Int.mul_nonneg a2.1 (by omega)
        have qe : k * r.Den * 1000000 = k * (r.Den * 1000000) := Int.mul_assoc _ _ _
        rw [h2]
        simp only [Bool.not_true, Bool.false_eq_true, if_false, if_true]
        rw [w64_id (x := k * r.Den) (by omega) (by omega), qe, w64_id (by omega) (by omega), quo_nn (by omega) e0 (by omega)]
        simp only
        rw [w64_id (by omega) (by omega)]
      · simp only [Bool.not_eq_true] at h2
        rw [h2]; simp
    · simp only [Bool.not_eq_true] at h1
      rw [h1]; simp
  · simp only [Bool.not_eq_true] at h
    rw [h]; simp

end Go.Proofs.YthdimlepjpnncaaGreat.Sh

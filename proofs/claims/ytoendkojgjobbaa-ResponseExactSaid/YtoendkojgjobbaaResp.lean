/- Gains of stages as plain programs (chapter 18). -/
import Derived.Test.YtoendkojgjobbaaNatR
namespace Go.Proofs.Ytoendkojgjobbaa.Sh
open Go
set_option linter.unusedVariables false
set_option linter.unusedSimpArgs false

theorem square_spec {n : Int} (h0 : -4611686018427387904 ≤ n) (h1 : n ≤ 4611686018427387904) : ∃ l, response_square n = some l ∧ NW l (n * n) ∧ l.length ≤ 6 := by
  unfold response_square
  rw [w64_id (x := 0 - n) (by omega) (by omega)]
  obtain ⟨l, e, hl, ll⟩ := from_spec (n := max n (0 - n)) (by omega) (by omega)
  rw [e]
  simp only [Option.bind]
  obtain ⟨r, hr, lr, er⟩ := nmul_spec (⟨hl, by omega⟩ : NW l _) (⟨hl, by omega⟩ : NW l _)
  rw [er, if_pos (by omega)]
  have hv : max n (0 - n) * max n (0 - n) = n * n := by
    rcases Int.le_total 0 n with h | h
    · rw [show max n (0 - n) = n by omega]
    · rw [show max n (0 - n) = -n by omega, Int.neg_mul_neg]
  rw [hv] at hr
  exact ⟨r, rfl, ⟨hr, by omega⟩, by omega⟩

def sqv (a : Arr3 Int) (n d : Int) : Int := (a.e0 * d * d - a.e2 * n * n) * (a.e0 * d * d - a.e2 * n * n) + (a.e1 * n * d) * (a.e1 * n * d)
theorem mul_bd {a b A B : Int} (a1 : -A ≤ a) (a2 : a ≤ A) (b0 : 0 ≤ b) (b1 : b ≤ B) : -(A * B) ≤ a * b ∧ a * b ≤ A * B := by
  have hA : 0 ≤ A := by omega
  have h1 : a * b ≤ A * b := Int.mul_le_mul_of_nonneg_right a2 b0
  have h2 : A * b ≤ A * B := Int.mul_le_mul_of_nonneg_left b1 hA
  have h3 : -A * b ≤ a * b := Int.mul_le_mul_of_nonneg_right a1 b0
  rw [Int.neg_mul] at h3
  omega
theorem squared_spec {a : Arr3 Int} {n d : Int} (e0 : -1048576 ≤ a.e0 ∧ a.e0 ≤ 1048576) (e1 : -1048576 ≤ a.e1 ∧ a.e1 ≤ 1048576) (e2 : -1048576 ≤ a.e2 ∧ a.e2 ≤ 1048576) (n0 : 0 ≤ n) (n1 : n ≤ 65536) (d0 : 0 ≤ d) (d1 : d ≤ 65536) :
    ∃ l, response_squared a n d = some l ∧ NW l (sqv a n d) ∧ l.length ≤ 7 := by
  have m1 := mul_bd e0.1 e0.2 d0 d1
  have m2 := mul_bd m1.1 m1.2 d0 d1
  have m3 := mul_bd e2.1 e2.2 n0 n1
  have m4 := mul_bd m3.1 m3.2 n0 n1
  have m5 := mul_bd e1.1 e1.2 n0 n1
  have m6 := mul_bd m5.1 m5.2 d0 d1
  unfold response_squared
  rw [w64_id (x := a.e0 * d) (by omega) (by omega), w64_id (x := a.e0 * d * d) (by omega) (by omega), w64_id (x := a.e2 * n) (by omega) (by omega), w64_id (x := a.e2 * n * n) (by omega) (by omega),
    w64_id (x := a.e1 * n) (by omega) (by omega), w64_id (x := a.e1 * n * d) (by omega) (by omega), w64_id (x := a.e0 * d * d - a.e2 * n * n) (by omega) (by omega)]
  obtain ⟨x, ex, hx, lx⟩ := square_spec (n := a.e0 * d * d - a.e2 * n * n) (by omega) (by omega)
  obtain ⟨y, ey, hy, ly⟩ := square_spec (n := a.e1 * n * d) (by omega) (by omega)
  rw [ex]
  simp only [Option.bind]
  rw [ey]
  simp only
  obtain ⟨r, hr, lr, er⟩ := nadd_spec hx hy
  rw [er, if_pos (by omega)]
  exact ⟨r, rfl, ⟨hr, by omega⟩, by omega⟩

def isum : List Int → Int
  | [] => 0
  | x :: l => x + isum l
theorem isum_append (a b : List Int) : isum (a ++ b) = isum a + isum b := by
  induction a with
  | nil => simp [isum]
  | cons x a ih => simp only [List.cons_append, isum, ih]; omega
theorem isum_bd {l : List Int} (h : ∀ x ∈ l, -1048576 ≤ x ∧ x ≤ 1048576) : -(1048576 * (l.length : Int)) ≤ isum l ∧ isum l ≤ 1048576 * (l.length : Int) := by
  induction l with
  | nil => simp [isum]
  | cons x l ih =>
    have h1 := h x (by simp)
    have h2 := ih (fun y hy => h y (by simp [hy]))
    simp only [isum, List.length_cons]
    push_cast
    omega
theorem rsum_spec {l : List Int} (hl : l.length ≤ 1000) (h : ∀ x ∈ l, -1048576 ≤ x ∧ x ≤ 1048576) : response_sum l = some (isum l) := by
  unfold response_sum
  have hw : whileM (response_sum_l1 l) (0, 0) = some (isum l) := by
    refine whileM_for' (fun i => (isum (l.take i), (i : Int))) l.length _ (by simp [isum]) (fun i hi => ?_) ?_
    · have h1 := isum_bd (l := l.take i) (fun x hx => h x (List.mem_of_mem_take hx))
      have h2 := h _ (List.getElem_mem hi)
      rw [List.length_take] at h1
      unfold response_sum_l1
      simp only
      rw [if_pos (decide_eq_true (by omega)), ix_nat _ _ hi, take_one hi, isum_append]
      simp only [Option.bind, isum]
      rw [w64_id (x := isum _ + _) (by omega) (by omega), w64_id (x := (i : Int) + 1) (by omega) (by omega)]
      congr 3 <;> omega
    · unfold response_sum_l1
      simp only
      rw [if_neg (by simp), List.take_length]
  rw [hw]; rfl

/-- a stage that is valid -/
structure SG0 (s : Stage) : Prop where
  k : s.Kind = 0
  t : s.Taps = []
  f : s.Factor = 0
  h : s.Shift = 0
  n0 : 1 ≤ s.Num.e0
  n1 : s.Num.e0 ≤ 1048576
  d0 : 1 ≤ s.Den.e0
  d1 : s.Den.e0 ≤ 1048576
  z : s.Num.e1 = 0 ∧ s.Num.e2 = 0 ∧ s.Den.e1 = 0 ∧ s.Den.e2 = 0
structure SG1 (s : Stage) : Prop where
  k : s.Kind = 1
  t : s.Taps = []
  f : s.Factor = 0
  h : s.Shift = 0
  a0 : -1048576 ≤ s.Num.e0 ∧ s.Num.e0 ≤ 1048576
  a1 : -1048576 ≤ s.Num.e1 ∧ s.Num.e1 ≤ 1048576
  a2 : -1048576 ≤ s.Num.e2 ∧ s.Num.e2 ≤ 1048576
  b0 : -1048576 ≤ s.Den.e0 ∧ s.Den.e0 ≤ 1048576
  b1 : -1048576 ≤ s.Den.e1 ∧ s.Den.e1 ≤ 1048576
  b2 : -1048576 ≤ s.Den.e2 ∧ s.Den.e2 ≤ 1048576
  ne : s.Den.e0 ≠ 0
structure SG2 (s : Stage) : Prop where
  k : s.Kind = 2
  num : s.Num = ⟨0, 0, 0⟩
  den : s.Den = ⟨0, 0, 0⟩
  l0 : 1 ≤ s.Taps.length
  l1 : s.Taps.length ≤ 128
  tap : ∀ x ∈ s.Taps, -1048576 ≤ x ∧ x ≤ 1048576
  ne : isum s.Taps ≠ 0
  f0 : 1 ≤ s.Factor
  f1 : s.Factor ≤ 64
  s0 : 0 ≤ s.Shift
  s1 : s.Shift ≤ 40
def SG (s : Stage) : Prop := SG0 s ∨ SG1 s ∨ SG2 s

def gnum (s : Stage) (n d : Int) : Int := if s.Kind = 0 then s.Num.e0 * s.Num.e0 else if s.Kind = 1 then sqv s.Num n d else isum s.Taps * isum s.Taps
def gden (s : Stage) (n d : Int) : Int := if s.Kind = 0 then s.Den.e0 * s.Den.e0 else if s.Kind = 1 then sqv s.Den n d else 2 ^ s.Shift.toNat * 2 ^ s.Shift.toNat

theorem pow40 {s : Int} (h1 : s ≤ 40) : 1 ≤ (2 : Int) ^ s.toNat ∧ (2 : Int) ^ s.toNat ≤ 1099511627776 := by
  have h : s.toNat ≤ 40 := by omega
  have h2 : (2 : Nat) ^ s.toNat ≤ 1099511627776 := Nat.pow_le_pow_right (by decide) h
  have h0 : 1 ≤ (2 : Nat) ^ s.toNat := Nat.one_le_two_pow
  have h3 : ((2 ^ s.toNat : Nat) : Int) ≤ ((1099511627776 : Nat) : Int) := Int.ofNat_le.2 h2
  have h4 : ((1 : Nat) : Int) ≤ ((2 ^ s.toNat : Nat) : Int) := Int.ofNat_le.2 h0
  rw [Int.natCast_pow] at h3 h4
  exact ⟨h4, h3⟩
theorem gain_spec {s : Stage} (h : SG s) {n d : Int} (n0 : 0 ≤ n) (n1 : n ≤ 65536) (d0 : 0 ≤ d) (d1 : d ≤ 65536) :
    ∃ p q, response_gain s n d = some (⟨p, q⟩, decide (0 < gden s n d)) ∧ NW p (gnum s n d) ∧ NW q (gden s n d) ∧ p.length ≤ 7 ∧ q.length ≤ 7 := by
  unfold response_gain
  rcases h with h | h | h
  · rw [if_pos (by rw [h.k]; rfl)]
    obtain ⟨x, ex, hx, lx⟩ := square_spec (n := s.Num.e0) (by have := h.n0; omega) (by have := h.n1; omega)
    obtain ⟨y, ey, hy, ly⟩ := square_spec (n := s.Den.e0) (by have := h.d0; omega) (by have := h.d1; omega)
    rw [ex, ey]
    have hp : 0 < s.Den.e0 * s.Den.e0 := Int.mul_pos (by have := h.d0; omega) (by have := h.d0; omega)
    refine ⟨x, y, ?_, ?_, ?_, by omega, by omega⟩
    · unfold gden; rw [if_pos h.k, decide_eq_true hp]; rfl
    · unfold gnum; rw [if_pos h.k]; exact hx
    · unfold gden; rw [if_pos h.k]; exact hy
  · have hk : ¬ s.Kind = 0 := by rw [h.k]; decide
    rw [if_neg (by rw [h.k]; decide), if_pos (by rw [h.k]; rfl)]
    obtain ⟨x, ex, hx, lx⟩ := squared_spec h.a0 h.a1 h.a2 n0 n1 d0 d1
    obtain ⟨y, ey, hy, ly⟩ := squared_spec h.b0 h.b1 h.b2 n0 n1 d0 d1
    rw [ex, ey]
    have hl := hy.toNV.pos
    refine ⟨x, y, ?_, ?_, ?_, lx, ly⟩
    · unfold gden
      rw [if_neg hk, if_pos h.k]
      simp only [Option.bind, Option.some.injEq, Prod.mk.injEq, true_and]
      rw [decide_eq_decide]
      omega
    · unfold gnum; rw [if_neg hk, if_pos h.k]; exact hx
    · unfold gden; rw [if_neg hk, if_pos h.k]; exact hy
  · have hk : ¬ s.Kind = 0 := by rw [h.k]; decide
    have hk1 : ¬ s.Kind = 1 := by rw [h.k]; decide
    have hb := isum_bd h.tap
    have hl := h.l1
    have hp := pow40 h.s1
    rw [if_neg (by rw [h.k]; decide), if_neg (by rw [h.k]; decide), rsum_spec (by omega) h.tap]
    obtain ⟨x, ex, hx, lx⟩ := square_spec (n := isum s.Taps) (by omega) (by omega)
    obtain ⟨y, ey, hy, ly⟩ := square_spec (n := 2 ^ s.Shift.toNat) (by omega) (by omega)
    simp only [Option.bind]
    rw [ex, shlM_at _ _ h.s0 (by have := h.s1; omega), Int.one_mul, w64_id (by omega) (by omega)]
    simp only
    rw [ey]
    have hpos : 0 < (2 : Int) ^ s.Shift.toNat * 2 ^ s.Shift.toNat := Int.mul_pos (by omega) (by omega)
    refine ⟨x, y, ?_, ?_, ?_, by omega, by omega⟩
    · unfold gden; rw [if_neg hk, if_neg hk1, decide_eq_true hpos]
    · unfold gnum; rw [if_neg hk, if_neg hk1]; exact hx
    · unfold gden; rw [if_neg hk, if_neg hk1]; exact hy

end Go.Proofs.Ytoendkojgjobbaa.Sh

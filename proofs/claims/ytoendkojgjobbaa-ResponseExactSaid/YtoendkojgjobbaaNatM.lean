/- Products and sums of numbers in digits, as plain programs (chapter 17). -/
import Derived.Test.YtoendkojgjobbaaNatV
namespace Go.Proofs.Ytoendkojgjobbaa.Sh
open Go
set_option linter.unusedVariables false
set_option linter.unusedSimpArgs false

theorem val_set : ∀ (l : List Int) (k : Nat) (y : Int), k < l.length → val (l.set k y) = val l + (y - l.getD k 0) * 1073741824 ^ k
  | [], k, y, h => by simp at h
  | x :: l, 0, y, h => by simp [val]; omega
  | x :: l, k + 1, y, h => by
    have ih := val_set l k y (by simpa using h)
    simp only [List.set_cons_succ, val, ih, List.getD_cons_succ, Int.pow_succ]
    grind
theorem val_take : ∀ (l : List Int) (j : Nat), j < l.length → val (l.take (j + 1)) = val (l.take j) + 1073741824 ^ j * l.getD j 0
  | [], j, h => by simp at h
  | x :: l, 0, h => by simp [val]
  | x :: l, j + 1, h => by
    have ih := val_take l j (by simpa using h)
    rw [List.take_succ_cons, List.take_succ_cons]
    simp only [val, ih, List.getD_cons_succ, Int.pow_succ]
    grind
theorem Dg.getD {l : List Int} (h : Dg l) (k : Nat) : 0 ≤ l.getD k 0 ∧ l.getD k 0 ≤ 1073741823 := by
  by_cases hk : k < l.length
  · simp only [List.getD_eq_getElem?_getD, List.getElem?_eq_getElem hk, Option.getD_some]
    exact h _ (List.getElem_mem _)
  · simp [List.getD_eq_getElem?_getD, List.getElem?_eq_none (Nat.le_of_not_lt hk)]
theorem Dg.set {l : List Int} (h : Dg l) (k : Nat) {y : Int} (h0 : 0 ≤ y) (h1 : y ≤ 1073741823) : Dg (l.set k y) := fun x hx => by
  rcases List.mem_or_eq_of_mem_set hx with h' | rfl
  · exact h x h'
  · exact ⟨h0, h1⟩
theorem getD_at {l : List Int} {k : Nat} (h : k < l.length) : l.getD k 0 = l[k] := by simp [List.getD_eq_getElem?_getD, h]
theorem getD_set {l : List Int} {k m : Nat} {y : Int} (h : k ≠ m) : (l.set k y).getD m 0 = l.getD m 0 := by
  simp [List.getD_eq_getElem?_getD, List.getElem?_set, h]

/-- a row of the product under way -/
structure MI (out0 b : List Int) (x : Int) (i j : Nat) (out : List Int) (c : Int) : Prop where
  dg : Dg out
  len : out.length = out0.length
  c0 : 0 ≤ c
  c1 : c ≤ 1073741823
  v : val out + c * 1073741824 ^ (i + j) = val out0 + x * val (b.take j) * 1073741824 ^ i
  rest : ∀ k, i + j ≤ k → out.getD k 0 = out0.getD k 0
theorem MI.bound {out0 b : List Int} {x : Int} {i j : Nat} {out : List Int} {c : Int} (h : MI out0 b x i j out c) (x0 : 0 ≤ x) (x1 : x ≤ 1073741823) (d : Int) (d0 : 0 ≤ d) (d1 : d ≤ 1073741823) :
    0 ≤ x * d ∧ x * d ≤ 1152921502459363329 ∧ 0 ≤ c + (out.getD (i + j) 0 + x * d) ∧ c + (out.getD (i + j) 0 + x * d) ≤ 1152921504606846975 := by
  have h1 : 0 ≤ x * d := Int.mul_nonneg x0 d0
  have h2 : x * d ≤ 1073741823 * 1073741823 := Int.mul_le_mul x1 d1 d0 (by decide)
  have h3 := h.dg.getD (i + j)
  have := h.c0
  have := h.c1
  omega
theorem MI.step {out0 b : List Int} {x : Int} {i j : Nat} {out : List Int} {c : Int} (h : MI out0 b x i j out c) (hb : Dg b) (hj : j < b.length) (hij : i + j < out.length) (x0 : 0 ≤ x) (x1 : x ≤ 1073741823) :
    MI out0 b x i (j + 1) (out.set (i + j) ((c + (out.getD (i + j) 0 + x * b.getD j 0)) % 1073741824)) ((c + (out.getD (i + j) 0 + x * b.getD j 0)) / 1073741824) := by
  have hd := hb.getD j
  obtain ⟨m0, m1, s0, s1⟩ := h.bound x0 x1 _ hd.1 hd.2
  obtain ⟨s, hs⟩ : ∃ s, c + (out.getD (i + j) 0 + x * b.getD j 0) = s := ⟨_, rfl⟩
  rw [hs] at s0 s1 ⊢
  refine ⟨h.dg.set _ (by omega) (by omega), by simp [h.len], by omega, by omega, ?_, fun k hk => by rw [getD_set (by omega)]; exact h.rest k (by omega)⟩
  rw [val_set _ _ _ hij, val_take _ _ hj]
  have hv := h.v
  have hp : (1073741824 : Int) ^ (i + (j + 1)) = 1073741824 ^ (i + j) * 1073741824 := by rw [← Nat.add_assoc, Int.pow_succ]
  have hq : (1073741824 : Int) ^ (i + j) = 1073741824 ^ i * 1073741824 ^ j := Int.pow_add ..
  have hm : s % 1073741824 + (s / 1073741824) * 1073741824 = s := by omega
  rw [hp]
  generalize out.getD (i + j) 0 = o at *
  generalize b.getD j 0 = y at *
  generalize val out = vo at *
  generalize val out0 = v0 at *
  generalize val (b.take j) = vb at *
  rw [hq] at hv ⊢
  generalize (1073741824 : Int) ^ i = Q at *
  generalize (1073741824 : Int) ^ j = R at *
  generalize s % 1073741824 = sm at *
  generalize s / 1073741824 = sd at *
  grind
theorem MI.done {out0 b : List Int} {x : Int} {i : Nat} {out : List Int} {c : Int} (h : MI out0 b x i b.length out c) (hij : i + b.length < out.length) (hz : out0.getD (i + b.length) 0 = 0) :
    val (out.set (i + b.length) c) = val out0 + x * val b * 1073741824 ^ i := by
  have hv := h.v
  rw [List.take_length] at hv
  rw [val_set _ _ _ hij, h.rest _ (Nat.le_refl _), hz, ← hv]
  grind

theorem tmod_nn {a : Int} (h : 0 ≤ a) : Int.tmod a 1073741824 = a % 1073741824 := Int.tmod_eq_emod_of_nonneg h
theorem shr30 {a : Int} (h : 0 ≤ a) : shrM .i64 a 30 = some (a / 1073741824) := by
  rw [shrM_at _ _ (by decide) (by decide)]
  have : (2 : Int) ^ (30 : Int).toNat = 1073741824 := by decide
  rw [this, Int.fdiv_eq_ediv_of_nonneg _ (by decide)]

theorem mul_row {b out0 : List Int} {x : Int} {i n : Nat} (hb : Dg b) (hbl : b.length ≤ 1000) (hn : out0.length = n) (hn2 : n ≤ 100000) (hi : i + b.length < n) (hd : Dg out0) (hz : ∀ k, i + b.length ≤ k → out0.getD k 0 = 0) (x0 : 0 ≤ x) (x1 : x ≤ 1073741823) :
    ∃ out, whileM (nat_multiply_l6 b (out0, (i : Int)) x) (out0, 0, 0) = some out ∧ Dg out ∧ out.length = n ∧ val out = val out0 + x * val b * 1073741824 ^ i ∧ (∀ k, i + b.length + 1 ≤ k → out.getD k 0 = 0) := by
  obtain ⟨r, e, h1, h2, h3, h4⟩ := loop_ex (b1 := nat_multiply_l6 b (out0, (i : Int)) x)
    (fun q s => ∃ j : Nat, s.2.2 = (j : Int) ∧ q + j = b.length + 1 ∧ ((j ≤ b.length ∧ MI out0 b x i j s.1 s.2.1) ∨ (j = b.length + 1 ∧ Dg s.1 ∧ s.1.length = n ∧ val s.1 = val out0 + x * val b * 1073741824 ^ i ∧ (∀ k, i + b.length + 1 ≤ k → s.1.getD k 0 = 0))))
    (fun out => Dg out ∧ out.length = n ∧ val out = val out0 + x * val b * 1073741824 ^ i ∧ (∀ k, i + b.length + 1 ≤ k → out.getD k 0 = 0))
    (fun q s ⟨j, hj, hq, hh⟩ => by
      obtain ⟨out, c, j'⟩ := s
      simp only at hj hh
      subst hj
      have hw : w64 ((b.length : Int) + 1) = ((b.length + 1 : Nat) : Int) := by rw [w64_id (by omega) (by omega)]; rfl
      rcases hh with ⟨hjb, hm⟩ | ⟨rfl, hd1, hl1, hv1, hr1⟩
      · left
        have hl := hm.len
        have hij : w64 ((i : Int) + (j : Int)) = ((i + j : Nat) : Int) := by rw [w64_id (by omega) (by omega)]; rfl
        have hlt : i + j < out.length := by omega
        by_cases hjl : j < b.length
        · have hdj := hb.getD j
          obtain ⟨m0, m1, s0, s1⟩ := hm.bound x0 x1 _ hdj.1 hdj.2
          have ho := hm.dg.getD (i + j)
          have hc0 := hm.c0
          have hc1 := hm.c1
          refine ⟨(_, _, ((j + 1 : Nat) : Int)), q - 1, ?_, ⟨j + 1, rfl, by omega, .inl ⟨by omega, hm.step hb hjl hlt x0 x1⟩⟩, by omega⟩
          unfold nat_multiply_l6
          simp only
          rw [hw, if_pos (decide_eq_true (by omega)), hij, if_pos (decide_eq_true (by omega)), ix_nat _ _ hlt]
          have hdig : nat_digit b (j : Int) = some (b.getD j 0) := by
            unfold nat_digit
            rw [if_neg (by simp; omega), ix_nat _ _ hjl, getD_at hjl]; rfl
          rw [hdig]
          simp only [Option.bind]
          rw [← getD_at hlt]
          rw [w64_id (x := x * _) (by omega) (by omega), w64_id (x := out.getD (i + j) 0 + _) (by omega) (by omega), w64_id (x := c + _) (by omega) (by omega), tmod_nn s0, setM_at _ _ _ (by omega) (by omega), shr30 s0]
          simp only [nat_multiply_j1, Int.toNat_natCast]
          rw [w64_id (by omega) (by omega)]; rfl
        · have hje : j = b.length := by omega
          subst hje
          have hz0 : out.getD (i + b.length) 0 = 0 := by rw [hm.rest _ (Nat.le_refl _)]; exact hz _ (Nat.le_refl _)
          have hc0 := hm.c0
          have hc1 := hm.c1
          refine ⟨(out.set (i + b.length) c, 0, ((b.length + 1 : Nat) : Int)), q - 1, ?_, ⟨b.length + 1, rfl, by omega, .inr ⟨rfl, hm.dg.set _ hc0 hc1, by simp; omega, hm.done hlt (hz _ (Nat.le_refl _)), fun k hk => ?_⟩⟩, by omega⟩
          · unfold nat_multiply_l6
            simp only
            rw [hw, if_pos (decide_eq_true (by omega)), hij, if_pos (decide_eq_true (by omega)), ix_nat _ _ hlt]
            have hdig : nat_digit b (b.length : Int) = some 0 := by
              unfold nat_digit
              rw [if_pos (decide_eq_true (by omega))]
            rw [hdig]
            simp only [Option.bind]
            rw [← getD_at hlt, hz0, Int.mul_zero]
            rw [w64_id (x := 0) (by omega) (by omega), w64_id (x := 0 + 0) (by omega) (by omega), w64_id (x := c + _) (by omega) (by omega), Int.zero_add, Int.add_zero, tmod_nn hc0, setM_at _ _ _ (by omega) (by omega), shr30 hc0]
            simp only [nat_multiply_j1, Int.toNat_natCast]
            rw [w64_id (by omega) (by omega), show c % 1073741824 = c by omega, show c / 1073741824 = 0 by omega]; rfl
          · simp only
            rw [getD_set (by omega), hm.rest _ (by omega)]
            exact hz _ (by omega)
      · right
        refine ⟨out, ?_, hd1, hl1, hv1, hr1⟩
        unfold nat_multiply_l6
        simp only
        rw [hw, if_neg (by simp)]) (b.length + 1) (out0, 0, 0) ⟨0, rfl, rfl, .inl ⟨Nat.zero_le _, ⟨hd, rfl, Int.le_refl _, by simp, by simp [val], fun _ _ => rfl⟩⟩⟩
  exact ⟨r, e, h1, h2, h3, h4⟩

theorem multiply_spec {a b : List Int} {va vb : Int} (ha : NV a va) (hb : NV b vb) (la : a.length ≤ 1000) (lb : b.length ≤ 1000) : ∃ r, nat_multiply a b = some r ∧ NV r (va * vb) ∧ r.length ≤ a.length + b.length := by
  obtain ⟨r, e, h1, h2, h3⟩ := loop_ex (b1 := nat_multiply_l3 a b)
    (fun q s => ∃ i : Nat, s.2 = (i : Int) ∧ q + i = a.length ∧ Dg s.1 ∧ s.1.length = a.length + b.length ∧ val s.1 = val (a.take i) * val b ∧ (∀ k, i + b.length ≤ k → s.1.getD k 0 = 0))
    (fun out => Dg out ∧ out.length = a.length + b.length ∧ val out = val a * val b)
    (fun q s ⟨i, hi, hq, hd, hl, hv, hz⟩ => by
      obtain ⟨out, i'⟩ := s
      simp only at hi hd hl hv hz
      subst hi
      by_cases hia : i < a.length
      · left
        have hx := ha.dg.getD i
        obtain ⟨o, e1, o1, o2, o3, o4⟩ := mul_row (i := i) hb.dg lb hl (by omega) (by omega) hd hz hx.1 hx.2
        refine ⟨(o, ((i + 1 : Nat) : Int)), q - 1, ?_, ⟨i + 1, rfl, by omega, o1, o2, ?_, fun k hk => o4 k (by omega)⟩, by omega⟩
        · unfold nat_multiply_l3
          simp only
          rw [if_pos (decide_eq_true (by omega)), ix_nat _ _ hia, ← getD_at hia]
          simp only [Option.bind]
          rw [e1]
          simp only
          rw [w64_id (by omega) (by omega)]; rfl
        · simp only
          rw [o3, hv, val_take _ _ hia]
          grind
      · right
        refine ⟨out, ?_, hd, hl, ?_⟩
        · unfold nat_multiply_l3
          simp only
          rw [if_neg (by simp; omega)]
        · rw [hv, List.take_of_length_le (by omega)]) a.length (List.replicate (a.length + b.length) 0, 0)
    ⟨0, rfl, rfl, fun x hx => by rw [List.eq_of_mem_replicate hx]; decide, by simp, by
      have : ∀ n, val (List.replicate n 0) = 0 := fun n => by induction n with | zero => rfl | succ n ih => rw [List.replicate_succ]; simp [val, ih]
      simp [this, val], fun k _ => by simp [List.getD_eq_getElem?_getD, List.getElem?_replicate]; split <;> rfl⟩
  unfold nat_multiply
  have hw : w64 ((a.length : Int) + (b.length : Int)) = ((a.length + b.length : Nat) : Int) := by rw [w64_id (by omega) (by omega)]; rfl
  rw [hw, makeM_at _ _ _ (by omega) (by omega) (by decide)]
  simp only [Option.bind, Int.toNat_natCast]
  rw [e]
  simp only
  obtain ⟨t, e2, t1, t2⟩ := trim_spec h1 (by omega)
  rw [e2]
  refine ⟨t, rfl, ?_, by omega⟩
  rw [h3, ha.vl, hb.vl] at t1
  exact t1

end Go.Proofs.Ytoendkojgjobbaa.Sh

/- The sort as a plain program over any type, part 4: equal parts, patterns, the whole. -/
import Derived.Test.YtiihddcppmjbaaaSortR
namespace Go.Proofs.Ytiihddcppmjbaaa.Sh
open Go
set_option linter.unusedVariables false
set_option linter.unusedSimpArgs false

section
variable {α : Type} {P : α → Prop} {cmp : α → α → Option Int} {lt : α → α → Bool}

/-- up while the pivot is not less -/
theorem upE_spec (hc : CmpOK P cmp lt) {m : List α} (hP : ∀ x ∈ m, P x) {a i j b : Nat} (i0 : Int) (ha : a < i) (hij : i ≤ j + 1) (hjb : j < b) (hb : b ≤ m.length) (hlen : m.length ≤ 100000) (h0 : ∀ p x y, a < p → p < i → m[a]? = some y → m[p]? = some x → lt y x = false) :
    ∃ e : Nat, whileM (slices_partitionEqualCmpFunc_G_l10 (a : Int) cmp (m, i0, (j : Int))) (i : Int) = some (e : Int) ∧ i ≤ e ∧ e ≤ j + 1 ∧ (∀ p x y, a < p → p < e → m[a]? = some y → m[p]? = some x → lt y x = false) ∧ (e ≤ j → ∀ x y, m[a]? = some y → m[e]? = some x → lt y x = true) := by
  obtain ⟨r, er, e, he, hh⟩ := loop_ex (b1 := slices_partitionEqualCmpFunc_G_l10 (a : Int) cmp (m, i0, (j : Int)))
    (fun k s => ∃ e : Nat, s = (e : Int) ∧ k = j + 1 - e ∧ i ≤ e ∧ e ≤ j + 1 ∧ (∀ p x y, a < p → p < e → m[a]? = some y → m[p]? = some x → lt y x = false))
    (fun r => ∃ e : Nat, r = (e : Int) ∧ i ≤ e ∧ e ≤ j + 1 ∧ (∀ p x y, a < p → p < e → m[a]? = some y → m[p]? = some x → lt y x = false) ∧ (e ≤ j → ∀ x y, m[a]? = some y → m[e]? = some x → lt y x = true)) (by
      rintro n s ⟨e, rfl, hn, h1, h2, h3⟩
      unfold slices_partitionEqualCmpFunc_G_l10
      simp only
      by_cases hej : e ≤ j
      · rw [if_pos (decide_eq_true (by omega)), ix_nat m a (by omega), ix_nat m e (by omega)]
        simp only [Option.bind_some]
        obtain ⟨q, eq, hq⟩ := cmp_at hc hP (i := a) (j := e) (by omega) (by omega)
        rw [eq]
        simp only [Option.bind_some, hq]
        cases hlt : lt m[a] m[e] with
        | false =>
          left
          have e2 : w64 ((e : Int) + 1) = ((e + 1 : Nat) : Int) := w64_nat (by omega) (by omega)
          refine ⟨((e + 1 : Nat) : Int), n - 1, by simp [e2], ⟨e + 1, rfl, by omega, by omega, by omega, ?_⟩, by omega⟩
          intro p x y g1 g2 hy hx
          by_cases hp : p = e
          · subst hp
            rw [some_at (show p < m.length by omega)] at hx
            rw [some_at (show a < m.length by omega)] at hy
            obtain rfl := Option.some.inj hx
            obtain rfl := Option.some.inj hy
            exact hlt
          · exact h3 p x y g1 (by omega) hy hx
        | true =>
          right
          refine ⟨_, by simp, e, rfl, h1, h2, h3, fun _ x y hy hx => ?_⟩
          rw [some_at (show e < m.length by omega)] at hx
          rw [some_at (show a < m.length by omega)] at hy
          obtain rfl := Option.some.inj hx
          obtain rfl := Option.some.inj hy
          exact hlt
      · right
        rw [if_neg (by simp; omega)]
        exact ⟨_, by simp, e, rfl, h1, h2, h3, fun h => by omega⟩) (j + 1 - i) (i : Int) ⟨i, rfl, rfl, Nat.le_refl _, hij, h0⟩
  subst he
  exact ⟨e, er, hh⟩
/-- down while the pivot is less -/
theorem downE_spec (hc : CmpOK P cmp lt) {m : List α} (hP : ∀ x ∈ m, P x) {a i j b : Nat} (i0 j0 : Int) (ha : a < i) (hij : i ≤ j + 1) (hjb : j < b) (hb : b ≤ m.length) (hlen : m.length ≤ 100000) (h0 : ∀ p x y, j < p → p < b → m[a]? = some y → m[p]? = some x → lt y x = true) :
    ∃ e : Nat, whileM (slices_partitionEqualCmpFunc_G_l11 (a : Int) cmp (m, i0, j0) (i : Int)) (j : Int) = some (e : Int) ∧ e ≤ j ∧ i ≤ e + 1 ∧ (∀ p x y, e < p → p < b → m[a]? = some y → m[p]? = some x → lt y x = true) ∧ (i ≤ e → ∀ x y, m[a]? = some y → m[e]? = some x → lt y x = false) := by
  obtain ⟨r, er, e, he, hh⟩ := loop_ex (b1 := slices_partitionEqualCmpFunc_G_l11 (a : Int) cmp (m, i0, j0) (i : Int))
    (fun k s => ∃ e : Nat, s = (e : Int) ∧ k = e ∧ e ≤ j ∧ i ≤ e + 1 ∧ (∀ p x y, e < p → p < b → m[a]? = some y → m[p]? = some x → lt y x = true))
    (fun r => ∃ e : Nat, r = (e : Int) ∧ e ≤ j ∧ i ≤ e + 1 ∧ (∀ p x y, e < p → p < b → m[a]? = some y → m[p]? = some x → lt y x = true) ∧ (i ≤ e → ∀ x y, m[a]? = some y → m[e]? = some x → lt y x = false)) (by
      rintro n s ⟨e, rfl, hn, h1, h2, h3⟩
      unfold slices_partitionEqualCmpFunc_G_l11
      simp only
      by_cases hej : i ≤ e
      · rw [if_pos (decide_eq_true (by omega)), ix_nat m a (by omega), ix_nat m e (by omega)]
        simp only [Option.bind_some]
        obtain ⟨q, eq, hq⟩ := cmp_at hc hP (i := a) (j := e) (by omega) (by omega)
        rw [eq]
        simp only [Option.bind_some, hq]
        cases hlt : lt m[a] m[e] with
        | true =>
          left
          have e2 : w64 ((e : Int) - 1) = ((e - 1 : Nat) : Int) := w64_nat (by omega) (by omega)
          refine ⟨((e - 1 : Nat) : Int), n - 1, by simp [e2], ⟨e - 1, rfl, by omega, by omega, by omega, ?_⟩, by omega⟩
          intro p x y g1 g2 hy hx
          by_cases hp : p = e
          · subst hp
            rw [some_at (show p < m.length by omega)] at hx
            rw [some_at (show a < m.length by omega)] at hy
            obtain rfl := Option.some.inj hx
            obtain rfl := Option.some.inj hy
            exact hlt
          · exact h3 p x y (by omega) g2 hy hx
        | false =>
          right
          refine ⟨_, by simp, e, rfl, h1, h2, h3, fun _ x y hy hx => ?_⟩
          rw [some_at (show e < m.length by omega)] at hx
          rw [some_at (show a < m.length by omega)] at hy
          obtain rfl := Option.some.inj hx
          obtain rfl := Option.some.inj hy
          exact hlt
      · right
        rw [if_neg (by simp; omega)]
        exact ⟨_, by simp, e, rfl, h1, h2, h3, fun h => by omega⟩) j (j : Int) ⟨j, rfl, rfl, Nat.le_refl _, hij, h0⟩
  subst he
  exact ⟨e, er, hh⟩

/-- all from a to b that are not greater than a pivot, then those that are -/
theorem partE_spec (hc : CmpOK P cmp lt) {l : List α} (hP : ∀ x ∈ l, P x) {a b pv : Nat} (hab : a + 1 < b) (hb : b ≤ l.length) (hlen : l.length ≤ 10000) (hp1 : a ≤ pv) (hp2 : pv < b)
    (hlow : ∀ p x y, a ≤ p → p < b → l[pv]? = some y → l[p]? = some x → lt x y = false) :
    ∃ (e : Nat) (r : List α) (v : α), slices_partitionEqualCmpFunc_G l (a : Int) (b : Int) (pv : Int) cmp = some ((e : Int), r) ∧ a < e ∧ e ≤ b ∧ PI a b l r ∧ P v ∧
      (∀ p x, a ≤ p → p < b → r[p]? = some x → lt x v = false) ∧ (∀ p x, a ≤ p → p < e → r[p]? = some x → lt v x = false) := by
  unfold slices_partitionEqualCmpFunc_G
  rw [ix_nat l pv (by omega), ix_nat l a (by omega)]
  simp only [Option.bind_some]
  rw [swap3 (l := l) (i := pv) (j := a) (by omega) (by omega)]
  have hpi0 : PI a b l (sw l pv a) := sw_PI (by omega) (by omega)
  have hv : (sw l pv a)[a]? = l[pv]? := by
    rw [sw_get (by omega) (by omega)]
    by_cases h : a = pv
    · rw [if_pos h, h]
    · rw [if_neg h, if_pos rfl]
  rw [some_at (show pv < l.length by omega)] at hv
  have hPv : P l[pv] := hP _ (List.getElem_mem _)
  have hlow' : ∀ (m : List α), PI a b l m → ∀ p x, a ≤ p → p < b → m[p]? = some x → lt x l[pv] = false := fun m hm p x h1 h2 hx => by
    obtain ⟨j, j1, j2, hj⟩ := hm.find h1 h2 hx
    exact hlow j x _ j1 j2 (some_at (by omega)) hj
  generalize sw l pv a = m at hpi0 hv
  generalize l[pv] = v at hv hPv hlow'
  have hml := hpi0.len
  have e1 : w64 ((a : Int) + 1) = ((a + 1 : Nat) : Int) := w64_nat (by omega) (by omega)
  have e2 : w64 ((b : Int) - 1) = ((b - 1 : Nat) : Int) := w64_nat (by omega) (by omega)
  rw [e1, e2]
  obtain ⟨⟨e', r⟩, er, e, he, d1, d2, d3, d4, d5⟩ := loop_ex (b1 := slices_partitionEqualCmpFunc_G_l5 (a : Int) cmp)
    (fun k s => ∃ i j : Nat, s.2.1 = (i : Int) ∧ s.2.2 = (j : Int) ∧ a < i ∧ i ≤ j + 1 ∧ j < b ∧ k = j ∧ PI a b l s.1 ∧ s.1[a]? = some v ∧ (∀ p x y, a < p → p < i → s.1[a]? = some y → s.1[p]? = some x → lt y x = false) ∧ (∀ p x y, j < p → p < b → s.1[a]? = some y → s.1[p]? = some x → lt y x = true))
    (fun r => ∃ e : Nat, r.1 = (e : Int) ∧ a < e ∧ e ≤ b ∧ PI a b l r.2 ∧ r.2[a]? = some v ∧ (∀ p x y, a < p → p < e → r.2[a]? = some y → r.2[p]? = some x → lt y x = false)) (by
      rintro n ⟨m, i', j'⟩ ⟨i, j, hi, hj, f1, f2, f3, hn, hpi, hva, f4, f5⟩
      simp only at hi hj hpi hva f4 f5
      subst hi
      subst hj
      have hml := hpi.len
      have hPm := hpi.pp hP
      unfold slices_partitionEqualCmpFunc_G_l5
      simp only
      obtain ⟨i1, ei1, a1, a2, a3, a4⟩ := upE_spec hc hPm (a := a) (i := i) (j := j) (b := b) (i : Int) f1 f2 f3 (by omega) (by omega) f4
      rw [ei1]
      simp only [Option.bind_some]
      obtain ⟨j1, ej1, b1, b2, b3, b4⟩ := downE_spec hc hPm (a := a) (i := i1) (j := j) (b := b) (i : Int) (j : Int) (by omega) (by omega) (by omega) (by omega) (by omega) f5
      rw [ej1]
      simp only [Option.bind_some]
      by_cases hij : j1 < i1
      · right
        rw [if_pos (decide_eq_true (by omega))]
        exact ⟨_, rfl, i1, rfl, by omega, by omega, hpi, hva, a3⟩
      · left
        rw [if_neg (by simp; omega), ix_nat m j1 (by omega), ix_nat m i1 (by omega)]
        simp only [Option.bind_some]
        rw [swap3 (l := m) (i := j1) (j := i1) (by omega) (by omega)]
        have q1 := a4 (by omega)
        have q2 := b4 (by omega)
        have hne : i1 ≠ j1 := fun h => by
          subst h
          have s2 := some_at (show i1 < m.length by omega)
          have h1 := q1 _ _ hva s2
          have h2 := q2 _ _ hva s2
          rw [h1] at h2
          cases h2
        have e3 : w64 ((i1 : Int) + 1) = ((i1 + 1 : Nat) : Int) := w64_nat (by omega) (by omega)
        have e4 : w64 ((j1 : Int) - 1) = ((j1 - 1 : Nat) : Int) := w64_nat (by omega) (by omega)
        have ea : (sw m j1 i1)[a]? = m[a]? := by rw [sw_get (by omega) (by omega), if_neg (by omega), if_neg (by omega)]
        rw [e3, e4]
        refine ⟨_, j1 - 1, rfl, ⟨i1 + 1, j1 - 1, rfl, rfl, by omega, by omega, by omega, rfl, hpi.trans (sw_PI (by omega) (by omega)), by simp only; rw [ea]; exact hva, ?_, ?_⟩, by omega⟩
        · intro p x y g1 g2 hy hx
          simp only at hy hx
          rw [ea] at hy
          rw [sw_get (by omega) (by omega), if_neg (by omega)] at hx
          by_cases hp : p = i1
          · rw [if_pos hp] at hx
            exact q2 x y hy hx
          · rw [if_neg hp] at hx
            exact a3 p x y g1 (by omega) hy hx
        · intro p x y g1 g2 hy hx
          simp only at hy hx
          rw [ea] at hy
          rw [sw_get (by omega) (by omega)] at hx
          by_cases hp : p = j1
          · rw [if_pos hp] at hx
            exact q1 x y hy hx
          · rw [if_neg hp, if_neg (by omega)] at hx
            exact b3 p x y (by omega) g2 hy hx) (b - 1) (m, ((a + 1 : Nat) : Int), ((b - 1 : Nat) : Int)) ⟨a + 1, b - 1, rfl, rfl, by omega, by omega, by omega, rfl, hpi0, hv, fun p x y h1 h2 => by omega, fun p x y h1 h2 => by omega⟩
  rw [er]
  simp only at he d3 d4 d5
  subst he
  refine ⟨e, r, v, rfl, d1, d2, d3, hPv, hlow' r d3, fun p x h1 h2 hx => ?_⟩
  by_cases hp : p = a
  · subst hp
    rw [d4] at hx
    obtain rfl := Option.some.inj hx
    exact hc.irr _ hPv
  · exact d5 p x v (by omega) h2 d4 hx

/-- the next power of two -/
theorem pow_spec : ∀ n : Fin 64, 0 < n.val → ∃ m : Nat, slices_nextPowerOfTwo (n.val : Int) = some (m : Int) ∧ 1 ≤ m ∧ m ≤ 2 * n.val := by
  have h : ∀ n : Fin 64, 0 < n.val → (match slices_nextPowerOfTwo (n.val : Int) with | some m => decide (1 ≤ m) && decide (m ≤ 2 * (n.val : Int)) | none => false) = true := by decide +kernel
  intro n hn
  have := h n hn
  cases e : slices_nextPowerOfTwo (n.val : Int) with
  | none => rw [e] at this; cases this
  | some m =>
    rw [e] at this
    simp only [Bool.and_eq_true, decide_eq_true_eq] at this
    exact ⟨m.toNat, by rw [Int.toNat_of_nonneg (by omega)], by omega, by omega⟩
theorem len_spec : ∀ n : Fin 64, ∃ m : Int, math_bits_Len (n.val : Int) = some m := by
  have h : ∀ n : Fin 64, (math_bits_Len (n.val : Int)).isSome = true := by decide +kernel
  intro n
  exact Option.isSome_iff_exists.1 (h n)
theorem next_some (r : Int) : ∃ x y, slices_xorshift_Next r = some (x, y) := by
  unfold slices_xorshift_Next shlM shrM
  simp only [show ¬ ((13 : Int) < 0) by decide, show ¬ ((7 : Int) < 0) by decide, show ¬ ((17 : Int) < 0) by decide, if_false, Option.bind_some]
  exact ⟨_, _, rfl⟩
theorem and_spec (x : Int) (m : Nat) (hm : m ≤ 1000) : ∃ k : Nat, w64 (Go.bits .and .u64 x (IntKind.u64.wrap (m : Int))) = (k : Int) ∧ k ≤ m := by
  rw [u64_id (by omega) (by omega)]
  have e : Go.bits .and .u64 x (m : Int) = IntKind.u64.wrap (((BitVec.ofInt 64 x &&& BitVec.ofInt 64 (m : Int)).toNat : Nat) : Int) := rfl
  have hb : (BitVec.ofInt 64 (m : Int)).toNat = m := by
    rw [BitVec.toNat_ofInt]
    omega
  have hle : (BitVec.ofInt 64 x &&& BitVec.ofInt 64 (m : Int)).toNat ≤ m := by
    rw [BitVec.toNat_and, hb]
    exact Nat.and_le_right
  rw [e]
  generalize (BitVec.ofInt 64 x &&& BitVec.ofInt 64 (m : Int)).toNat = k at hle
  rw [u64_id (by omega) (by omega)]
  exact ⟨k, by rw [w64_id (by omega) (by omega)], hle⟩

theorem break_spec {l : List α} {a b : Nat} (hab : a + 12 < b) (hb : b ≤ l.length) (h50 : l.length < 50) : ∃ m, slices_breakPatternsCmpFunc_G l (a : Int) (b : Int) cmp = some m ∧ PI a b l m := by
  obtain ⟨n, hn⟩ : ∃ n, n = b - a := ⟨_, rfl⟩
  have e0 : w64 ((b : Int) - (a : Int)) = (n : Int) := w64_nat (by omega) (by omega)
  unfold slices_breakPatternsCmpFunc_G
  rw [e0]
  simp only [Option.bind_some]
  rw [if_pos (decide_eq_true (by omega))]
  obtain ⟨md, emd, md1, md2⟩ := pow_spec ⟨n, by omega⟩ (by simp only; omega)
  simp only at emd md2
  rw [emd]
  simp only [Option.bind_some]
  have eq : w64 (Int.tdiv (n : Int) 4) = ((n / 4 : Nat) : Int) := w64_nat (by rw [Int.tdiv_eq_ediv_of_nonneg (by omega)]; omega) (by omega)
  have e2 : w64 (((n / 4 : Nat) : Int) * 2) = ((n / 4 * 2 : Nat) : Int) := w64_nat (by omega) (by omega)
  have e3 : w64 ((a : Int) + ((n / 4 * 2 : Nat) : Int)) = ((a + n / 4 * 2 : Nat) : Int) := w64_nat (by omega) (by omega)
  have e4 : w64 (((a + n / 4 * 2 : Nat) : Int) - 1) = ((a + n / 4 * 2 - 1 : Nat) : Int) := w64_nat (by omega) (by omega)
  have e5 : w64 (((a + n / 4 * 2 : Nat) : Int) + 1) = ((a + n / 4 * 2 + 1 : Nat) : Int) := w64_nat (by omega) (by omega)
  rw [eq, e2, e3, e4]
  obtain ⟨m, em, hm⟩ := loop_ex (b1 := slices_breakPatternsCmpFunc_G_l2 (α := α) (a : Int) (n : Int) (md : Int))
    (fun k s => ∃ i : Nat, s.2.2 = (i : Int) ∧ a + n / 4 * 2 - 1 ≤ i ∧ i ≤ a + n / 4 * 2 + 2 ∧ k + i = a + n / 4 * 2 + 2 ∧ PI a b l s.2.1) (fun m => PI a b l m) (by
      rintro k ⟨rn, m, i'⟩ ⟨i, hi, h1, h2, hk, hpi⟩
      simp only at hi hpi
      subst hi
      have hml := hpi.len
      unfold slices_breakPatternsCmpFunc_G_l2
      simp only
      rw [eq, e2, e3, e5]
      by_cases hle : i ≤ a + n / 4 * 2 + 1
      · left
        rw [if_pos (decide_eq_true (by omega))]
        obtain ⟨x, y, ex⟩ := next_some rn
        rw [ex]
        simp only [Option.bind_some]
        obtain ⟨o, eo, ho⟩ := and_spec x (md - 1) (by omega)
        rw [show (md : Int) - 1 = ((md - 1 : Nat) : Int) by omega, eo]
        have key : ∀ (o : Nat), o < n → ∃ s', slices_breakPatternsCmpFunc_G_j2 (a : Int) (rn, m, (i : Int)) (x, y) (o : Int) = some (.inl (y, s', ((i + 1 : Nat) : Int))) ∧ PI a b m s' := by
          intro o ho
          unfold slices_breakPatternsCmpFunc_G_j2
          simp only
          have e6 : w64 ((a : Int) + (o : Int)) = ((a + o : Nat) : Int) := w64_nat (by omega) (by omega)
          have e7 : w64 ((i : Int) + 1) = ((i + 1 : Nat) : Int) := w64_nat (by omega) (by omega)
          rw [e6, e7, ix_nat m (a + o) (by omega), ix_nat m i (by omega)]
          simp only [Option.bind_some]
          rw [swap3 (l := m) (i := a + o) (j := i) (by omega) (by omega)]
          exact ⟨_, rfl, sw_PI (by omega) (by omega)⟩
        by_cases hbig : n ≤ o
        · rw [if_pos (decide_eq_true (by omega))]
          have e8 : w64 ((o : Int) - (n : Int)) = ((o - n : Nat) : Int) := w64_nat (by omega) (by omega)
          rw [e8]
          obtain ⟨s', es, hs⟩ := key (o - n) (by omega)
          exact ⟨_, k - 1, es, ⟨i + 1, rfl, by omega, by omega, by omega, hpi.trans hs⟩, by omega⟩
        · rw [if_neg (by simp; omega)]
          obtain ⟨s', es, hs⟩ := key o (by omega)
          exact ⟨_, k - 1, es, ⟨i + 1, rfl, by omega, by omega, by omega, hpi.trans hs⟩, by omega⟩
      · right
        rw [if_neg (by simp; omega)]
        exact ⟨_, rfl, hpi⟩) 3 (IntKind.u64.wrap (n : Int), l, ((a + n / 4 * 2 - 1 : Nat) : Int)) ⟨a + n / 4 * 2 - 1, rfl, Nat.le_refl _, by omega, by omega, PI.refl⟩
  rw [em]
  exact ⟨m, rfl, hm⟩

/-- what lies at a or behind is not less than what is just ahead -/
def BL (lt : α → α → Bool) (a b : Nat) (l : List α) : Prop := ∀ i x y, a ≤ i → i < b → 0 < a → l[a - 1]? = some x → l[i]? = some y → lt y x = false
/-- what has been set apart is in order with all else -/
def CO (lt : α → α → Bool) (a a' b' b : Nat) (l : List α) : Prop := ∀ p q x y, a ≤ p → p < q → q < b → (p < a' ∨ b' ≤ q) → l[p]? = some x → l[q]? = some y → lt y x = false
theorem BL.pi {a b : Nat} {l m : List α} (h : BL lt a b l) (hp : PI a b l m) : BL lt a b m := fun i x y h1 h2 h3 hx hy => by
  rw [hp.out _ (.inl (by omega))] at hx
  obtain ⟨j, j1, j2, hj⟩ := hp.find h1 h2 hy
  exact h j x y j1 j2 h3 hx hj
theorem CO.pi {a a' b' b : Nat} {l m : List α} (ha : a ≤ a') (hb : b' ≤ b) (h : CO lt a a' b' b l) (hp : PI a' b' l m) : CO lt a a' b' b m := fun p q x y h1 h2 h3 h4 hx hy => by
  rcases h4 with h4 | h4
  · rw [hp.out p (.inl h4)] at hx
    by_cases hq : a' ≤ q ∧ q < b'
    · obtain ⟨j, j1, j2, hj⟩ := hp.find hq.1 hq.2 hy
      exact h p j x y h1 (by omega) (by omega) (.inl h4) hx hj
    · rw [hp.out q (by omega)] at hy
      exact h p q x y h1 h2 h3 (.inl h4) hx hy
  · rw [hp.out q (.inr h4)] at hy
    by_cases hq : a' ≤ p ∧ p < b'
    · obtain ⟨j, j1, j2, hj⟩ := hp.find hq.1 hq.2 hx
      exact h j q x y (by omega) (by omega) h3 (.inr h4) hj hy
    · rw [hp.out p (by omega)] at hx
      exact h p q x y h1 h2 h3 (.inr h4) hx hy
theorem CO.sorted {a a' b' b : Nat} {m : List α} (h : CO lt a a' b' b m) (hs : SR lt a' b' m) : SR lt a b m := fun p q x y h1 h2 h3 hx hy => by
  by_cases hc : p < a' ∨ b' ≤ q
  · exact h p q x y h1 h2 h3 hc hx hy
  · exact hs p q x y (by omega) h2 (by omega) hx hy

structure ST (lt : α → α → Bool) (a b : Nat) (l : List α) (a' b' : Nat) (m : List α) : Prop where
  h1 : a ≤ a'
  h2 : a' ≤ b'
  h3 : b' ≤ b
  pi : PI a b l m
  co : CO lt a a' b' b m
  bl : BL lt a' b' m
theorem ST.go {a b a' b' : Nat} {l m r : List α} (h : ST lt a b l a' b' m) (hp : PI a' b' m r) : ST lt a b l a' b' r :=
  ⟨h.h1, h.h2, h.h3, h.pi.trans (hp.mono h.h1 h.h3), h.co.pi h.h1 h.h3 hp, h.bl.pi hp⟩
theorem ST.fin {a b a' b' : Nat} {l m r : List α} (h : ST lt a b l a' b' m) (hp : PI a' b' m r) (hs : SR lt a' b' r) : PI a b l r ∧ SR lt a b r :=
  ⟨(h.go hp).pi, (h.go hp).co.sorted hs⟩

def RRel (lt : α → α → Bool) (a b : Nat) (l : List α) (k : Nat) (s : List α × Int × Int × Int × Bool × Bool) : Prop :=
  ∃ a' b' : Nat, s.2.1 = (a' : Int) ∧ s.2.2.1 = (b' : Int) ∧ k + a' = b' ∧ ST lt a b l a' b' s.1
def OUTP (lt : α → α → Bool) (a b : Nat) (l : List α) (k : Nat) (x : Option ((List α × Int × Int × Int × Bool × Bool) ⊕ List α)) : Prop :=
  (∃ s' k', x = some (.inl s') ∧ RRel lt a b l k' s' ∧ k' < k) ∨ ∃ r, x = some (.inr r) ∧ PI a b l r ∧ SR lt a b r

variable {frec : List α → Int → Int → Int → (α → α → Option Int) → Option (List α)}

theorem j4_spec (hc : CmpOK P cmp lt) {l m : List α} (hP : ∀ x ∈ l, P x) {a b a' b' pv : Nat} {n : Nat} (hst : ST lt a b l a' b' m) (h13 : a' + 12 < b') (hbl : b ≤ l.length) (h50 : l.length < 50) (hp1 : a' ≤ pv) (hp2 : pv < b')
    (hrec : ∀ (l : List α) (a b : Nat) (lim : Int), (∀ x ∈ l, P x) → a ≤ b → b ≤ l.length → l.length < 50 → b - a < n → BL lt a b l → ∃ m, frec l (a : Int) (b : Int) lim cmp = some m ∧ PI a b l m ∧ SR lt a b m) (hn : b' - a' < 2 * n)
    (limit length limit' : Int) (bal part : Bool) (data : List α) : OUTP lt a b l (b' - a') (slices_pdqsortCmpFunc_G_j4 cmp frec (data, (a' : Int), (b' : Int), limit, bal, part) length limit' (pv : Int) m) := by
  have hml := hst.pi.len
  have hPm := hst.pi.pp hP
  have g1 := hst.h1; have g2 := hst.h2; have g3 := hst.h3
  unfold slices_pdqsortCmpFunc_G_j4
  simp only
  -- the test: is the pivot equal to what is just ahead?
  have htest : ∃ c : Bool, ((if decide (0 < (a' : Int)) = true then (ix m (w64 ((a' : Int) - 1))).bind fun x => (ix m (pv : Int)).bind fun y => (cmp x y).bind fun rv => some (!(decide (rv < 0))) else some false) = some c) ∧
      (c = true → ∀ p x y, a' ≤ p → p < b' → m[pv]? = some y → m[p]? = some x → lt x y = false) := by
    by_cases h0 : 0 < a'
    · have e1 : w64 ((a' : Int) - 1) = ((a' - 1 : Nat) : Int) := w64_nat (by omega) (by omega)
      rw [if_pos (decide_eq_true (by omega)), e1, ix_nat m (a' - 1) (by omega), ix_nat m pv (by omega)]
      simp only [Option.bind_some]
      obtain ⟨q, eq, hq⟩ := cmp_at hc hPm (i := a' - 1) (j := pv) (by omega) (by omega)
      rw [eq]
      simp only [Option.bind_some, hq]
      refine ⟨_, rfl, fun h p x y k1 k2 hy hx => ?_⟩
      have hlt : lt m[a' - 1] m[pv] = false := by simpa using h
      rw [some_at (show pv < m.length by omega)] at hy
      obtain rfl := Option.some.inj hy
      have h3 := hst.bl p _ x k1 k2 h0 (some_at (show a' - 1 < m.length by omega)) hx
      exact hc.ntr _ _ _ (hPm _ (List.mem_of_getElem? hx)) (hPm _ (List.getElem_mem (show a' - 1 < m.length by omega))) (hPm _ (List.getElem_mem _)) h3 hlt
    · rw [if_neg (by simp; omega)]
      exact ⟨false, rfl, fun h => by cases h⟩
  obtain ⟨c, ec, hcc⟩ := htest
  rw [ec]
  simp only [Option.bind_some]
  cases c with
  | true =>
    rw [if_pos rfl]
    obtain ⟨e, r, v, er, k1, k2, k3, hv, k4, k5⟩ := partE_spec hc hPm (a := a') (b := b') (pv := pv) (by omega) (by omega) (by omega) hp1 hp2 (hcc rfl)
    rw [er]
    have hPr := k3.pp hPm
    have hr := hst.go k3
    left
    refine ⟨_, b' - e, rfl, ⟨e, b', rfl, rfl, by omega, ⟨by omega, by omega, g3, hr.pi, ?_, ?_⟩⟩, by omega⟩
    · intro p q x y q1 q2 q3 q4 hx hy
      by_cases hold : p < a' ∨ b' ≤ q
      · exact hr.co p q x y q1 q2 q3 hold hx hy
      · have h5 := k5 p x (by omega) (by omega) hx
        have h6 := k4 q y (by omega) (by omega) hy
        exact hc.ntr _ _ _ (hPr _ (List.mem_of_getElem? hy)) hv (hPr _ (List.mem_of_getElem? hx)) h6 h5
    · intro i x y q1 q2 q3 hx hy
      have h5 := k5 (e - 1) x (by omega) (by omega) hx
      have h6 := k4 i y (by omega) (by omega) hy
      exact hc.ntr _ _ _ (hPr _ (List.mem_of_getElem? hy)) hv (hPr _ (List.mem_of_getElem? hx)) h6 h5
  | false =>
    rw [if_neg (by decide)]
    obtain ⟨j, t, r, er, k1, k2, k3, k4, k5⟩ := part_spec hc hPm (a := a') (b := b') (pv := pv) (by omega) (by omega) (by omega) hp1 hp2
    rw [er]
    have hPr := k3.pp hPm
    have hr := hst.go k3
    have hrl := k3.len
    have e1 : w64 ((j : Int) - (a' : Int)) = ((j - a' : Nat) : Int) := w64_nat (by omega) (by omega)
    have e2 : w64 ((b' : Int) - (j : Int)) = ((b' - j : Nat) : Int) := w64_nat (by omega) (by omega)
    have e3 : w64 ((j : Int) + 1) = ((j + 1 : Nat) : Int) := w64_nat (by omega) (by omega)
    simp only [Option.bind_some]
    rw [e1, e2, e3]
    have sj := some_at (show j < r.length by omega)
    have pj : P r[j] := hPr _ (List.getElem_mem _)
    by_cases hlr : j - a' < b' - j
    · rw [if_pos (decide_eq_true (by omega))]
      obtain ⟨r2, e4, u1, u2⟩ := hrec r a' j limit' hPr k1 (by omega) (by omega) (by omega) (fun i x y q1 q2 q3 hx hy => hr.bl i x y q1 (by omega) q3 hx hy)
      rw [e4]
      simp only [Option.bind_some]
      have hr2 := hr.go (u1.mono (Nat.le_refl _) (by omega))
      have hPr2 := u1.pp hPr
      have sj2 : r2[j]? = some r[j] := by rw [u1.out j (.inr (Nat.le_refl _))]; exact sj
      have left' : ∀ p x, a' ≤ p → p < j → r2[p]? = some x → lt x r[j] = true := fun p x q1 q2 hx => by
        obtain ⟨i, i1, i2, hi⟩ := u1.find q1 q2 hx
        exact k4 i x _ i1 i2 sj hi
      have right' : ∀ p x, j < p → p < b' → r2[p]? = some x → lt x r[j] = false := fun p x q1 q2 hx => by
        rw [u1.out p (.inr (by omega))] at hx
        exact k5 p x _ q1 q2 sj hx
      left
      refine ⟨_, b' - (j + 1), rfl, ⟨j + 1, b', rfl, rfl, by omega, ⟨by omega, by omega, g3, hr2.pi, ?_, ?_⟩⟩, by omega⟩
      · intro p q x y q1 q2 q3 q4 hx hy
        have px := hPr2 _ (List.mem_of_getElem? hx)
        have py := hPr2 _ (List.mem_of_getElem? hy)
        by_cases hold : p < a' ∨ b' ≤ q
        · exact hr2.co p q x y q1 q2 q3 hold hx hy
        · by_cases hqj : q < j
          · exact u2 p q x y (by omega) q2 hqj hx hy
          · by_cases hqe : q = j
            · subst hqe
              rw [sj2] at hy
              obtain rfl := Option.some.inj hy
              exact hc.asym px pj (left' p x (by omega) q2 hx)
            · have h6 := right' q y (by omega) (by omega) hy
              by_cases hpj : p = j
              · subst hpj
                rw [sj2] at hx
                obtain rfl := Option.some.inj hx
                exact h6
              · exact hc.ntr _ _ _ py pj px h6 (hc.asym px pj (left' p x (by omega) (by omega) hx))
      · intro i x y q1 q2 q3 hx hy
        rw [show j + 1 - 1 = j by omega, sj2] at hx
        obtain rfl := Option.some.inj hx
        exact right' i y (by omega) q2 hy
    · rw [if_neg (by simp; omega)]
      obtain ⟨r2, e4, u1, u2⟩ := hrec r (j + 1) b' limit' hPr (by omega) (by omega) (by omega) (by omega) (fun i x y q1 q2 q3 hx hy => by
        rw [show j + 1 - 1 = j by omega, sj] at hx
        obtain rfl := Option.some.inj hx
        exact k5 i y _ (by omega) q2 sj hy)
      rw [e4]
      simp only [Option.bind_some]
      have hr2 := hr.go (u1.mono (by omega) (Nat.le_refl _))
      have hPr2 := u1.pp hPr
      have sj2 : r2[j]? = some r[j] := by rw [u1.out j (.inl (by omega))]; exact sj
      have left' : ∀ p x, a' ≤ p → p < j → r2[p]? = some x → lt x r[j] = true := fun p x q1 q2 hx => by
        rw [u1.out p (.inl (by omega))] at hx
        exact k4 p x _ q1 q2 sj hx
      have right' : ∀ p x, j < p → p < b' → r2[p]? = some x → lt x r[j] = false := fun p x q1 q2 hx => by
        obtain ⟨i, i1, i2, hi⟩ := u1.find (by omega) q2 hx
        exact k5 i x _ (by omega) i2 sj hi
      left
      refine ⟨_, j - a', rfl, ⟨a', j, rfl, rfl, by omega, ⟨by omega, by omega, by omega, hr2.pi, ?_, fun i x y q1 q2 q3 hx hy => hr2.bl i x y q1 (by omega) q3 hx hy⟩⟩, by omega⟩
      intro p q x y q1 q2 q3 q4 hx hy
      have px := hPr2 _ (List.mem_of_getElem? hx)
      have py := hPr2 _ (List.mem_of_getElem? hy)
      by_cases hold : p < a' ∨ b' ≤ q
      · exact hr2.co p q x y q1 q2 q3 hold hx hy
      · by_cases hqe : q = j
        · subst hqe
          rw [sj2] at hy
          obtain rfl := Option.some.inj hy
          exact hc.asym px pj (left' p x (by omega) q2 hx)
        · have h6 := right' q y (by omega) (by omega) hy
          by_cases hpj : p = j
          · subst hpj
            rw [sj2] at hx
            obtain rfl := Option.some.inj hx
            exact h6
          · by_cases hpl : p < j
            · exact hc.ntr _ _ _ py pj px h6 (hc.asym px pj (left' p x (by omega) hpl hx))
            · exact u2 p q x y (by omega) q2 (by omega) hx hy

theorem j3_spec (hc : CmpOK P cmp lt) {l m : List α} (hP : ∀ x ∈ l, P x) {a b a' b' pv : Nat} {n : Nat} (hst : ST lt a b l a' b' m) (h13 : a' + 12 < b') (hbl : b ≤ l.length) (h50 : l.length < 50) (hp1 : a' ≤ pv) (hp2 : pv < b')
    (hrec : ∀ (l : List α) (a b : Nat) (lim : Int), (∀ x ∈ l, P x) → a ≤ b → b ≤ l.length → l.length < 50 → b - a < n → BL lt a b l → ∃ m, frec l (a : Int) (b : Int) lim cmp = some m ∧ PI a b l m ∧ SR lt a b m) (hn : b' - a' < 2 * n)
    (limit length limit' hint : Int) (bal part : Bool) (data : List α) : OUTP lt a b l (b' - a') (slices_pdqsortCmpFunc_G_j3 cmp frec (data, (a' : Int), (b' : Int), limit, bal, part) length limit' m (pv : Int) hint) := by
  have hml := hst.pi.len
  have g3 := hst.h3
  unfold slices_pdqsortCmpFunc_G_j3
  split
  · simp only
    obtain ⟨r, er, hr⟩ := partial_spec hc (hst.pi.pp hP) (a := a') (b := b') (by omega) (by omega) (by omega)
    rw [er]
    simp only [Option.bind_some]
    cases r with
    | true =>
      rw [if_pos rfl]
      exact .inr ⟨m, rfl, hst.fin PI.refl (hr rfl)⟩
    | false =>
      rw [if_neg (by decide)]
      exact j4_spec hc hP hst h13 hbl h50 hp1 hp2 hrec hn limit length limit' bal part data
  · exact j4_spec hc hP hst h13 hbl h50 hp1 hp2 hrec hn limit length limit' bal part data
theorem j2_spec (hc : CmpOK P cmp lt) {l m : List α} (hP : ∀ x ∈ l, P x) {a b a' b' : Nat} {n : Nat} (hst : ST lt a b l a' b' m) (h13 : a' + 12 < b') (hbl : b ≤ l.length) (h50 : l.length < 50)
    (hrec : ∀ (l : List α) (a b : Nat) (lim : Int), (∀ x ∈ l, P x) → a ≤ b → b ≤ l.length → l.length < 50 → b - a < n → BL lt a b l → ∃ m, frec l (a : Int) (b : Int) lim cmp = some m ∧ PI a b l m ∧ SR lt a b m) (hn : b' - a' < 2 * n)
    (limit length limit' : Int) (bal part : Bool) (data : List α) : OUTP lt a b l (b' - a') (slices_pdqsortCmpFunc_G_j2 cmp frec (data, (a' : Int), (b' : Int), limit, bal, part) length m limit') := by
  have hml := hst.pi.len
  have g3 := hst.h3
  unfold slices_pdqsortCmpFunc_G_j2
  simp only
  obtain ⟨p, h, ep, p1, p2⟩ := choose_spec hc (hst.pi.pp hP) h13 (by omega) (by omega)
  rw [ep]
  simp only [Option.bind_some]
  split
  · obtain ⟨r, er, hr⟩ := reverse_spec (cmp := cmp) (l := m) (a := a') (b := b') (by omega) (by omega) (by omega)
    rw [er]
    have e1 : w64 ((b' : Int) - 1) = ((b' - 1 : Nat) : Int) := w64_nat (by omega) (by omega)
    have e2 : w64 ((p : Int) - (a' : Int)) = ((p - a' : Nat) : Int) := w64_nat (by omega) (by omega)
    have e3 : w64 (((b' - 1 : Nat) : Int) - ((p - a' : Nat) : Int)) = ((b' - 1 - (p - a') : Nat) : Int) := w64_nat (by omega) (by omega)
    simp only [Option.bind_some]
    rw [e1, e2, e3]
    exact j3_spec hc hP (hst.go hr) h13 hbl h50 (by omega) (by omega) hrec hn limit length limit' 1 bal part data
  · exact j3_spec hc hP hst h13 hbl h50 p1 p2 hrec hn limit length limit' h bal part data

theorem pdq_spec (hc : CmpOK P cmp lt) : ∀ (n : Nat) (l : List α) (a b : Nat) (lim : Int), (∀ x ∈ l, P x) → a ≤ b → b ≤ l.length → l.length < 50 → b - a < 2 ^ n → 1 ≤ n → BL lt a b l →
    ∃ m, slices_pdqsortCmpFunc_G_n n l (a : Int) (b : Int) lim cmp = some m ∧ PI a b l m ∧ SR lt a b m := by
  intro n
  induction n with
  | zero => intro l a b lim hP hab hbl h50 hn h1; omega
  | succ n ih =>
    intro l a b lim hP hab hbl h50 hn h1 hbelow
    show ∃ m, whileM (slices_pdqsortCmpFunc_G_l2 cmp (slices_pdqsortCmpFunc_G_n n)) (l, (a : Int), (b : Int), lim, true, true) = some m ∧ _
    refine loop_ex (RRel lt a b l) (fun m => PI a b l m ∧ SR lt a b m) ?_ (b - a) _ ⟨a, b, rfl, rfl, by omega, Nat.le_refl _, hab, Nat.le_refl _, PI.refl, fun p q x y k1 k2 k3 k4 => by omega, hbelow⟩
    rintro k ⟨m, a0, b0, limit, bal, part⟩ ⟨a', b', ha', hb', hk, hst⟩
    simp only at ha' hb' hst
    subst ha'
    subst hb'
    have hml := hst.pi.len
    have hPm := hst.pi.pp hP
    have g1 := hst.h1; have g2 := hst.h2; have g3 := hst.h3
    have e1 : w64 ((b' : Int) - (a' : Int)) = ((b' - a' : Nat) : Int) := w64_nat (by omega) (by omega)
    have hpow : 2 ^ (n + 1) = 2 * 2 ^ n := by rw [Nat.pow_succ, Nat.mul_comm]
    have hout : OUTP lt a b l (b' - a') (slices_pdqsortCmpFunc_G_l2 cmp (slices_pdqsortCmpFunc_G_n n) (m, (a' : Int), (b' : Int), limit, bal, part)) := by
      unfold slices_pdqsortCmpFunc_G_l2
      simp only
      rw [e1]
      simp only [Option.bind_some]
      by_cases h12 : b' - a' ≤ 12
      · rw [if_pos (decide_eq_true (by omega))]
        obtain ⟨r, er, u1, u2⟩ := ins_spec hc hPm (a := a') (b := b') g2 (by omega) (by omega)
        rw [er]
        exact .inr ⟨r, rfl, hst.fin u1 u2⟩
      · rw [if_neg (by simp; omega)]
        have hn1 : 1 ≤ n := by
          rcases Nat.eq_zero_or_pos n with h0 | h0
          · subst h0; simp at hn; omega
          · exact h0
        split
        · obtain ⟨r, er, u1, u2⟩ := heap_spec hc hPm (a := a') (b := b') (by omega) (by omega) (by omega)
          rw [er]
          exact .inr ⟨r, rfl, hst.fin u1 u2⟩
        · split
          · obtain ⟨r, er, hr⟩ := break_spec (cmp := cmp) (l := m) (a := a') (b := b') (by omega) (by omega) (by omega)
            rw [er]
            simp only [Option.bind_some]
            exact j2_spec hc hP (hst.go hr) (by omega) hbl h50 (n := 2 ^ n) (fun l a b lim q1 q2 q3 q4 q5 q6 => ih l a b lim q1 q2 q3 q4 q5 hn1 q6) (by omega) limit _ _ bal part m
          · exact j2_spec hc hP hst (by omega) hbl h50 (n := 2 ^ n) (fun l a b lim q1 q2 q3 q4 q5 q6 => ih l a b lim q1 q2 q3 q4 q5 hn1 q6) (by omega) limit _ _ bal part m
    rcases hout with ⟨s', k', es, hs, hlt⟩ | ⟨r, er, h⟩
    · exact .inl ⟨s', k', es, hs, by omega⟩
    · exact .inr ⟨r, er, h⟩

/-- slices.SortFunc, for fewer than 50 elements: in order, and the same elements -/
theorem sort_spec (hc : CmpOK P cmp lt) {l : List α} (hP : ∀ x ∈ l, P x) (h50 : l.length < 50) :
    ∃ m, slices_SortFunc_G l cmp = some m ∧ m.Perm l ∧ m.length = l.length ∧ SR lt 0 l.length m := by
  unfold slices_SortFunc_G
  obtain ⟨lim, el⟩ := len_spec ⟨l.length, by omega⟩
  simp only at el
  simp only [Option.bind_some]
  rw [u64_id (by omega) (by omega), el]
  simp only [Option.bind_some]
  obtain ⟨m, em, h1, h2⟩ := pdq_spec hc 200 l 0 l.length lim hP (Nat.zero_le _) (Nat.le_refl _) h50 (by
    have : (2 : Nat) ^ 6 ≤ 2 ^ 200 := Nat.pow_le_pow_right (by decide) (by decide)
    omega) (by decide) (fun i x y k1 k2 k3 => by omega)
  have em' : slices_pdqsortCmpFunc_G l 0 (l.length : Int) lim cmp = some m := em
  rw [em']
  exact ⟨m, rfl, h1.perm, h1.len, h2⟩
end
end Go.Proofs.Ytiihddcppmjbaaa.Sh

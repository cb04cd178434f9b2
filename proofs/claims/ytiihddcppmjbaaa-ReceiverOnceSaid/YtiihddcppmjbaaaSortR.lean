/- The sort as a plain program over any type, part 3: pivots, partitions, patterns. -/
import Derived.Test.YtiihddcppmjbaaaSortQ
namespace Go.Proofs.Ytiihddcppmjbaaa.Sh
open Go
set_option linter.unusedVariables false
set_option linter.unusedSimpArgs false

section
variable {α : Type} {P : α → Prop} {cmp : α → α → Option Int} {lt : α → α → Bool}

theorem order2_spec (hc : CmpOK P cmp lt) {l : List α} (hP : ∀ x ∈ l, P x) {a b : Nat} (ha : a < l.length) (hb : b < l.length) (s : Int) :
    ∃ s', slices_order2CmpFunc_G l (a : Int) (b : Int) s cmp = some ((a : Int), (b : Int), s') ∨ slices_order2CmpFunc_G l (a : Int) (b : Int) s cmp = some ((b : Int), (a : Int), s') := by
  unfold slices_order2CmpFunc_G
  rw [ix_nat _ _ hb, ix_nat _ _ ha]
  simp only [Option.bind_some]
  obtain ⟨q, eq, hq⟩ := cmp_at hc hP hb ha
  rw [eq]
  simp only [Option.bind_some, hq]
  cases lt l[b] l[a] with
  | true => exact ⟨_, .inr (by simp only [if_true]; rfl)⟩
  | false => exact ⟨s, .inl (by simp)⟩
theorem median_spec (hc : CmpOK P cmp lt) {l : List α} (hP : ∀ x ∈ l, P x) {lo hi a b c : Nat} (hh : hi ≤ l.length) (ha : lo ≤ a ∧ a < hi) (hb : lo ≤ b ∧ b < hi) (hcc : lo ≤ c ∧ c < hi) (s : Int) :
    ∃ (p : Nat) (s' : Int), slices_medianCmpFunc_G l (a : Int) (b : Int) (c : Int) s cmp = some ((p : Int), s') ∧ lo ≤ p ∧ p < hi := by
  unfold slices_medianCmpFunc_G
  have key : ∀ (x y : Nat), (lo ≤ x ∧ x < hi) → (lo ≤ y ∧ y < hi) → ∀ (s : Int), ∃ (u v : Nat) (s' : Int), slices_order2CmpFunc_G l (x : Int) (y : Int) s cmp = some ((u : Int), (v : Int), s') ∧ (lo ≤ u ∧ u < hi) ∧ (lo ≤ v ∧ v < hi) := by
    intro x y hx hy s
    obtain ⟨s', h | h⟩ := order2_spec hc hP (show x < l.length by omega) (show y < l.length by omega) s
    · exact ⟨x, y, s', h, hx, hy⟩
    · exact ⟨y, x, s', h, hy, hx⟩
  obtain ⟨u1, v1, s1, e1, hu1, hv1⟩ := key a b ha hb s
  rw [e1]; simp only [Option.bind_some]
  obtain ⟨u2, v2, s2, e2, hu2, hv2⟩ := key v1 c hv1 hcc s1
  rw [e2]; simp only [Option.bind_some]
  obtain ⟨u3, v3, s3, e3, hu3, hv3⟩ := key u1 u2 hu1 hu2 s2
  rw [e3]
  exact ⟨v3, s3, rfl, hv3⟩
theorem choose_j1 (x : Int) (j : Int) : ∃ h, slices_choosePivotCmpFunc_G_j1 x j = some (j, h) := by
  unfold slices_choosePivotCmpFunc_G_j1
  split
  · exact ⟨_, rfl⟩
  · split
    · exact ⟨_, rfl⟩
    · exact ⟨_, rfl⟩
theorem choose_spec (hc : CmpOK P cmp lt) {l : List α} (hP : ∀ x ∈ l, P x) {a b : Nat} (hab : a + 12 < b) (hb : b ≤ l.length) (h50 : l.length < 50) :
    ∃ (p : Nat) (h : Int), slices_choosePivotCmpFunc_G l (a : Int) (b : Int) cmp = some ((p : Int), h) ∧ a ≤ p ∧ p < b := by
  unfold slices_choosePivotCmpFunc_G
  have e0 : w64 ((b : Int) - (a : Int)) = ((b - a : Nat) : Int) := w64_nat (by omega) (by omega)
  have eq : w64 (Int.tdiv ((b - a : Nat) : Int) 4) = (((b - a) / 4 : Nat) : Int) := w64_nat (by rw [Int.tdiv_eq_ediv_of_nonneg (by omega)]; omega) (by omega)
  rw [e0]
  simp only [Option.bind_some]
  rw [eq]
  have e1 : w64 ((((b - a) / 4 : Nat) : Int) * 1) = (((b - a) / 4 : Nat) : Int) := w64_nat (by omega) (by omega)
  have e2 : w64 ((((b - a) / 4 : Nat) : Int) * 2) = (((b - a) / 4 * 2 : Nat) : Int) := w64_nat (by omega) (by omega)
  have e3 : w64 ((((b - a) / 4 : Nat) : Int) * 3) = (((b - a) / 4 * 3 : Nat) : Int) := w64_nat (by omega) (by omega)
  rw [e1, e2, e3]
  have e4 : w64 ((a : Int) + (((b - a) / 4 : Nat) : Int)) = ((a + (b - a) / 4 : Nat) : Int) := w64_nat (by omega) (by omega)
  have e5 : w64 ((a : Int) + (((b - a) / 4 * 2 : Nat) : Int)) = ((a + (b - a) / 4 * 2 : Nat) : Int) := w64_nat (by omega) (by omega)
  have e6 : w64 ((a : Int) + (((b - a) / 4 * 3 : Nat) : Int)) = ((a + (b - a) / 4 * 3 : Nat) : Int) := w64_nat (by omega) (by omega)
  rw [e4, e5, e6, if_pos (decide_eq_true (by omega)), if_neg (by simp; omega)]
  unfold slices_choosePivotCmpFunc_G_j2
  obtain ⟨p, s, em, h1, h2⟩ := median_spec hc hP (lo := a) (hi := b) (a := a + (b - a) / 4) (b := a + (b - a) / 4 * 2) (c := a + (b - a) / 4 * 3) hb (by omega) (by omega) (by omega) 0
  rw [em]
  simp only [Option.bind_some]
  obtain ⟨h, eh⟩ := choose_j1 s (p : Int)
  exact ⟨p, h, eh, h1, h2⟩

theorem reverse_spec {l : List α} {a b : Nat} (hab : a < b) (hb : b ≤ l.length) (hlen : l.length ≤ 100000) :
    ∃ m, slices_reverseRangeCmpFunc_G l (a : Int) (b : Int) cmp = some m ∧ PI a b l m := by
  have e0 : w64 ((b : Int) - 1) = ((b - 1 : Nat) : Int) := w64_nat (by omega) (by omega)
  obtain ⟨m, em, hm⟩ := loop_ex (b1 := slices_reverseRangeCmpFunc_G_l1 (α := α))
    (fun k s => ∃ i j : Nat, s.2.1 = (i : Int) ∧ s.2.2 = (j : Int) ∧ a ≤ i ∧ i ≤ b ∧ j < b ∧ k = j + b - i ∧ PI a b l s.1) (fun m => PI a b l m) (by
      rintro n ⟨m, i', j'⟩ ⟨i, j, hi, hj, h1, h2, h3, hn, hpi⟩
      simp only at hi hj hpi
      subst hi
      subst hj
      have hml := hpi.len
      unfold slices_reverseRangeCmpFunc_G_l1
      simp only
      by_cases hij : i < j
      · left
        rw [if_pos (decide_eq_true (by omega)), ix_nat m j (by omega), ix_nat m i (by omega)]
        simp only [Option.bind_some]
        rw [swap3 (l := m) (i := j) (j := i) (by omega) (by omega)]
        refine ⟨_, n - 2, rfl, ⟨i + 1, j - 1, ?_, ?_, by omega, by omega, by omega, by omega, hpi.trans (sw_PI (by omega) (by omega))⟩, by omega⟩
        · exact w64_nat (by omega) (by omega)
        · exact w64_nat (by omega) (by omega)
      · right
        rw [if_neg (by simp; omega)]
        exact ⟨_, rfl, hpi⟩) (b - 1 + b - a) (l, (a : Int), ((b - 1 : Nat) : Int)) ⟨a, b - 1, rfl, rfl, Nat.le_refl _, by omega, by omega, rfl, PI.refl⟩
  refine ⟨m, ?_, hm⟩
  unfold slices_reverseRangeCmpFunc_G
  rw [e0]
  simp only [Option.bind_some]
  rw [em]
  rfl

theorem partial_spec (hc : CmpOK P cmp lt) {l : List α} (hP : ∀ x ∈ l, P x) {a b : Nat} (hab : a < b) (hb : b ≤ l.length) (h50 : l.length < 50) :
    ∃ r, slices_partialInsertionSortCmpFunc_G l (a : Int) (b : Int) cmp = some (r, l) ∧ (r = true → SR lt a b l) := by
  have e0 : w64 ((a : Int) + 1) = ((a + 1 : Nat) : Int) := w64_nat (by omega) (by omega)
  obtain ⟨e, ee, e', he', h1, h2, hs⟩ := loop_ex (b1 := slices_partialInsertionSortCmpFunc_G_l24 (b : Int) cmp (l, ((a + 1 : Nat) : Int), 0))
    (fun k s => ∃ i : Nat, s = (i : Int) ∧ k = b - i ∧ a + 1 ≤ i ∧ i ≤ b ∧ SR lt a i l) (fun e => ∃ i : Nat, e = (i : Int) ∧ a + 1 ≤ i ∧ i ≤ b ∧ SR lt a i l) (by
      rintro n s ⟨i, rfl, hn, h1, h2, hs⟩
      unfold slices_partialInsertionSortCmpFunc_G_l24
      simp only
      by_cases hib : i < b
      · have e1 : w64 ((i : Int) - 1) = ((i - 1 : Nat) : Int) := w64_nat (by omega) (by omega)
        rw [if_pos (decide_eq_true (by omega)), e1, ix_nat l i (by omega), ix_nat l (i - 1) (by omega)]
        simp only [Option.bind_some]
        obtain ⟨q, eq, hq⟩ := cmp_at hc hP (i := i) (j := i - 1) (by omega) (by omega)
        rw [eq]
        simp only [Option.bind_some, hq]
        cases hlt : lt l[i] l[i - 1] with
        | true => right; exact ⟨_, by simp, i, rfl, h1, h2, hs⟩
        | false =>
          left
          refine ⟨((i + 1 : Nat) : Int), n - 1, ?_, ⟨i + 1, rfl, by omega, by omega, by omega, ?_⟩, by omega⟩
          · have e2 : w64 ((i : Int) + 1) = ((i + 1 : Nat) : Int) := w64_nat (by omega) (by omega)
            simp [e2]
          · intro p q x y g1 g2 g3 hx hy
            by_cases hqi : q = i
            · subst hqi
              rw [some_at (show q < l.length by omega)] at hy
              obtain rfl := Option.some.inj hy
              by_cases hp : p = q - 1
              · subst hp
                rw [some_at (show q - 1 < l.length by omega)] at hx
                obtain rfl := Option.some.inj hx
                exact hlt
              · have h3 := hs p (q - 1) x _ g1 (by omega) (by omega) hx (some_at (by omega))
                exact hc.ntr _ _ _ (hP _ (List.getElem_mem _)) (hP _ (List.getElem_mem (show q - 1 < l.length by omega))) (hP _ (List.mem_of_getElem? hx)) hlt h3
            · exact hs p q x y g1 g2 (by omega) hx hy
      · right
        rw [if_neg (by simp; omega)]
        exact ⟨_, by simp, i, rfl, h1, h2, hs⟩) (b - (a + 1)) ((a + 1 : Nat) : Int) ⟨a + 1, rfl, rfl, Nat.le_refl _, by omega, fun p q x y g1 g2 g3 => by omega⟩
  subst he'
  have hr : slices_partialInsertionSortCmpFunc_G l (a : Int) (b : Int) cmp = some (decide (e' = b), l) := by
    unfold slices_partialInsertionSortCmpFunc_G
    rw [e0]
    simp only [Option.bind_some]
    rw [whileM_eq]
    have hbody : slices_partialInsertionSortCmpFunc_G_l17 (a : Int) (b : Int) cmp (l, ((a + 1 : Nat) : Int), 0) = some (.inr (decide (e' = b), l)) := by
      unfold slices_partialInsertionSortCmpFunc_G_l17
      simp only
      rw [if_pos (by simp : decide ((0 : Int) < 5) = true), ee]
      simp only [Option.bind_some]
      by_cases hb' : e' = b
      · rw [if_pos (by simp; omega), decide_eq_true hb']
      · have e3 : w64 ((b : Int) - (a : Int)) = ((b - a : Nat) : Int) := w64_nat (by omega) (by omega)
        rw [if_neg (by simp; omega), e3, if_pos (decide_eq_true (by omega)), decide_eq_false hb']
    rw [hbody]
    rfl
  refine ⟨_, hr, fun h => ?_⟩
  have : e' = b := of_decide_eq_true h
  rw [← this]
  exact hs

/-- up while it is less than the pivot -/
theorem up_spec (hc : CmpOK P cmp lt) {m : List α} (hP : ∀ x ∈ m, P x) {a i j b : Nat} (ha : a < i) (hij : i ≤ j + 1) (hjb : j < b) (hb : b ≤ m.length) (hlen : m.length ≤ 100000) (h0 : ∀ p x y, a < p → p < i → m[a]? = some y → m[p]? = some x → lt x y = true) :
    ∃ e : Nat, whileM (slices_partitionCmpFunc_G_l1 (a : Int) cmp m (j : Int)) (i : Int) = some (e : Int) ∧ i ≤ e ∧ e ≤ j + 1 ∧ (∀ p x y, a < p → p < e → m[a]? = some y → m[p]? = some x → lt x y = true) ∧ (e ≤ j → ∀ x y, m[a]? = some y → m[e]? = some x → lt x y = false) := by
  obtain ⟨r, er, e, he, hh⟩ := loop_ex (b1 := slices_partitionCmpFunc_G_l1 (a : Int) cmp m (j : Int))
    (fun k s => ∃ e : Nat, s = (e : Int) ∧ k = j + 1 - e ∧ i ≤ e ∧ e ≤ j + 1 ∧ (∀ p x y, a < p → p < e → m[a]? = some y → m[p]? = some x → lt x y = true))
    (fun r => ∃ e : Nat, r = (e : Int) ∧ i ≤ e ∧ e ≤ j + 1 ∧ (∀ p x y, a < p → p < e → m[a]? = some y → m[p]? = some x → lt x y = true) ∧ (e ≤ j → ∀ x y, m[a]? = some y → m[e]? = some x → lt x y = false)) (by
      rintro n s ⟨e, rfl, hn, h1, h2, h3⟩
      unfold slices_partitionCmpFunc_G_l1
      by_cases hej : e ≤ j
      · rw [if_pos (decide_eq_true (by omega)), ix_nat m e (by omega), ix_nat m a (by omega)]
        simp only [Option.bind_some]
        obtain ⟨q, eq, hq⟩ := cmp_at hc hP (i := e) (j := a) (by omega) (by omega)
        rw [eq]
        simp only [Option.bind_some, hq]
        cases hlt : lt m[e] m[a] with
        | true =>
          left
          have e2 : w64 ((e : Int) + 1) = ((e + 1 : Nat) : Int) := w64_nat (by omega) (by omega)
          refine ⟨((e + 1 : Nat) : Int), n - 1, by simp [e2], ⟨e + 1, rfl, by omega, by omega, by omega, ?_⟩, by omega⟩
          intro p x y g1 g2 hy hx
          by_cases hp : p = e
          · subst hp
            rw [some_at (show p < m.length by omega)] at hx
            rw [some_at (show a < m.length by omega)] at hy
            obtain rfl := Option.some.inj hx
            obtain rfl := Option.some.inj hy
            exact hlt
          · exact h3 p x y g1 (by omega) hy hx
        | false =>
          right
          refine ⟨_, by simp, e, rfl, h1, h2, h3, fun _ x y hy hx => ?_⟩
          rw [some_at (show e < m.length by omega)] at hx
          rw [some_at (show a < m.length by omega)] at hy
          obtain rfl := Option.some.inj hx
          obtain rfl := Option.some.inj hy
          exact hlt
      · right
        rw [if_neg (by simp; omega)]
        exact ⟨_, by simp, e, rfl, h1, h2, h3, fun h => by omega⟩) (j + 1 - i) (i : Int) ⟨i, rfl, rfl, Nat.le_refl _, hij, h0⟩
  subst he
  exact ⟨e, er, hh⟩
/-- down while it is not less than the pivot -/
theorem down_spec (hc : CmpOK P cmp lt) {m : List α} (hP : ∀ x ∈ m, P x) {a i j b : Nat} (ha : a < i) (hij : i ≤ j + 1) (hjb : j < b) (hb : b ≤ m.length) (hlen : m.length ≤ 100000) (h0 : ∀ p x y, j < p → p < b → m[a]? = some y → m[p]? = some x → lt x y = false) :
    ∃ e : Nat, whileM (slices_partitionCmpFunc_G_l2 (a : Int) cmp m (i : Int)) (j : Int) = some (e : Int) ∧ e ≤ j ∧ i ≤ e + 1 ∧ (∀ p x y, e < p → p < b → m[a]? = some y → m[p]? = some x → lt x y = false) ∧ (i ≤ e → ∀ x y, m[a]? = some y → m[e]? = some x → lt x y = true) := by
  obtain ⟨r, er, e, he, hh⟩ := loop_ex (b1 := slices_partitionCmpFunc_G_l2 (a : Int) cmp m (i : Int))
    (fun k s => ∃ e : Nat, s = (e : Int) ∧ k = e ∧ e ≤ j ∧ i ≤ e + 1 ∧ (∀ p x y, e < p → p < b → m[a]? = some y → m[p]? = some x → lt x y = false))
    (fun r => ∃ e : Nat, r = (e : Int) ∧ e ≤ j ∧ i ≤ e + 1 ∧ (∀ p x y, e < p → p < b → m[a]? = some y → m[p]? = some x → lt x y = false) ∧ (i ≤ e → ∀ x y, m[a]? = some y → m[e]? = some x → lt x y = true)) (by
      rintro n s ⟨e, rfl, hn, h1, h2, h3⟩
      unfold slices_partitionCmpFunc_G_l2
      by_cases hej : i ≤ e
      · rw [if_pos (decide_eq_true (by omega)), ix_nat m e (by omega), ix_nat m a (by omega)]
        simp only [Option.bind_some]
        obtain ⟨q, eq, hq⟩ := cmp_at hc hP (i := e) (j := a) (by omega) (by omega)
        rw [eq]
        simp only [Option.bind_some, hq]
        cases hlt : lt m[e] m[a] with
        | false =>
          left
          have e2 : w64 ((e : Int) - 1) = ((e - 1 : Nat) : Int) := w64_nat (by omega) (by omega)
          refine ⟨((e - 1 : Nat) : Int), n - 1, by simp [e2], ⟨e - 1, rfl, by omega, by omega, by omega, ?_⟩, by omega⟩
          intro p x y g1 g2 hy hx
          by_cases hp : p = e
          · subst hp
            rw [some_at (show p < m.length by omega)] at hx
            rw [some_at (show a < m.length by omega)] at hy
            obtain rfl := Option.some.inj hx
            obtain rfl := Option.some.inj hy
            exact hlt
          · exact h3 p x y (by omega) g2 hy hx
        | true =>
          right
          refine ⟨_, by simp, e, rfl, h1, h2, h3, fun _ x y hy hx => ?_⟩
          rw [some_at (show e < m.length by omega)] at hx
          rw [some_at (show a < m.length by omega)] at hy
          obtain rfl := Option.some.inj hx
          obtain rfl := Option.some.inj hy
          exact hlt
      · right
        rw [if_neg (by simp; omega)]
        exact ⟨_, by simp, e, rfl, h1, h2, h3, fun h => by omega⟩) j (j : Int) ⟨j, rfl, rfl, Nat.le_refl _, hij, h0⟩
  subst he
  exact ⟨e, er, hh⟩

theorem part_end (hc : CmpOK P cmp lt) {l m : List α} {a b j : Nat} (hpi : PI a b l m) (hP : ∀ x ∈ m, P x) (haj : a ≤ j) (hjb : j < b) (hb : b ≤ m.length)
    (h1 : ∀ p x y, a < p → p < j + 1 → m[a]? = some y → m[p]? = some x → lt x y = true) (h2 : ∀ p x y, j < p → p < b → m[a]? = some y → m[p]? = some x → lt x y = false) :
    PI a b l (sw m j a) ∧ PI a b l (sw m a j) ∧ (∀ r, r = sw m j a ∨ r = sw m a j → (∀ p x y, a ≤ p → p < j → r[j]? = some y → r[p]? = some x → lt x y = true) ∧ (∀ p x y, j < p → p < b → r[j]? = some y → r[p]? = some x → lt x y = false)) := by
  refine ⟨hpi.trans (sw_PI (by omega) (by omega)), hpi.trans (sw_PI (by omega) (by omega)), ?_⟩
  have gj : ∀ r, r = sw m j a ∨ r = sw m a j → r[j]? = m[a]? ∧ r[a]? = m[j]? ∧ ∀ p, p ≠ a → p ≠ j → r[p]? = m[p]? := by
    rintro r (rfl | rfl)
    · refine ⟨by rw [sw_get (by omega) (by omega), if_pos rfl], ?_, fun p h1 h2 => by rw [sw_get (by omega) (by omega), if_neg h2, if_neg h1]⟩
      rw [sw_get (by omega) (by omega)]
      by_cases h : a = j
      · rw [if_pos h, h]
      · rw [if_neg h, if_pos rfl]
    · refine ⟨?_, by rw [sw_get (by omega) (by omega), if_pos rfl], fun p h1 h2 => by rw [sw_get (by omega) (by omega), if_neg h1, if_neg h2]⟩
      rw [sw_get (by omega) (by omega)]
      by_cases h : j = a
      · rw [if_pos h, h]
      · rw [if_neg h, if_pos rfl]
  intro r hr
  obtain ⟨g1, g2, g3⟩ := gj r hr
  constructor
  · intro p x y q1 q2 hy hx
    rw [g1] at hy
    by_cases hp : p = a
    · subst hp
      rw [g2] at hx
      exact h1 j x y (by omega) (by omega) hy hx
    · rw [g3 p hp (by omega)] at hx
      exact h1 p x y (by omega) (by omega) hy hx
  · intro p x y q1 q2 hy hx
    rw [g1] at hy
    rw [g3 p (by omega) (by omega)] at hx
    exact h2 p x y q1 q2 hy hx

theorem part_spec (hc : CmpOK P cmp lt) {l : List α} (hP : ∀ x ∈ l, P x) {a b pv : Nat} (hab : a + 1 < b) (hb : b ≤ l.length) (hlen : l.length ≤ 10000) (hp1 : a ≤ pv) (hp2 : pv < b) :
    ∃ (j : Nat) (t : Bool) (r : List α), slices_partitionCmpFunc_G l (a : Int) (b : Int) (pv : Int) cmp = some ((j : Int), t, r) ∧ a ≤ j ∧ j < b ∧ PI a b l r ∧
      (∀ p x y, a ≤ p → p < j → r[j]? = some y → r[p]? = some x → lt x y = true) ∧ (∀ p x y, j < p → p < b → r[j]? = some y → r[p]? = some x → lt x y = false) := by
  unfold slices_partitionCmpFunc_G
  rw [ix_nat l pv (by omega), ix_nat l a (by omega)]
  simp only [Option.bind_some]
  rw [swap3 (l := l) (i := pv) (j := a) (by omega) (by omega)]
  have hpi0 : PI a b l (sw l pv a) := sw_PI (by omega) (by omega)
  generalize sw l pv a = m at hpi0
  have hml := hpi0.len
  have hPm := hpi0.pp hP
  have e1 : w64 ((a : Int) + 1) = ((a + 1 : Nat) : Int) := w64_nat (by omega) (by omega)
  have e2 : w64 ((b : Int) - 1) = ((b - 1 : Nat) : Int) := w64_nat (by omega) (by omega)
  rw [e1, e2]
  obtain ⟨i1, ei1, a1, a2, a3, a4⟩ := up_spec hc hPm (a := a) (i := a + 1) (j := b - 1) (b := b) (by omega) (by omega) (by omega) (by omega) (by omega) (fun p x y h1 h2 => by omega)
  rw [ei1]
  simp only [Option.bind_some]
  obtain ⟨j1, ej1, b1, b2, b3, b4⟩ := down_spec hc hPm (a := a) (i := i1) (j := b - 1) (b := b) (by omega) (by omega) (by omega) (by omega) (by omega) (fun p x y h1 h2 => by omega)
  rw [ej1]
  simp only [Option.bind_some]
  by_cases hij : j1 < i1
  · rw [if_pos (decide_eq_true (by omega)), ix_nat m a (by omega), ix_nat m j1 (by omega)]
    simp only [Option.bind_some]
    rw [swap3 (l := m) (i := a) (j := j1) (by omega) (by omega)]
    have he : i1 = j1 + 1 := by omega
    subst he
    obtain ⟨_, g1, g2⟩ := part_end hc hpi0 hPm (by omega : a ≤ j1) (by omega) (by omega) a3 b3
    obtain ⟨g3, g4⟩ := g2 _ (.inr rfl)
    exact ⟨j1, true, _, rfl, by omega, by omega, g1, g3, g4⟩
  · rw [if_neg (by simp; omega), ix_nat m j1 (by omega), ix_nat m i1 (by omega)]
    simp only [Option.bind_some]
    rw [swap3 (l := m) (i := j1) (j := i1) (by omega) (by omega)]
    have q1 := a4 (by omega)
    have q2 := b4 (by omega)
    have hne : i1 ≠ j1 := fun h => by
      subst h
      have s1 := some_at (show a < m.length by omega)
      have s2 := some_at (show i1 < m.length by omega)
      have h1 := q1 _ _ s1 s2
      have h2 := q2 _ _ s1 s2
      rw [h1] at h2
      cases h2
    have e3 : w64 ((i1 : Int) + 1) = ((i1 + 1 : Nat) : Int) := w64_nat (by omega) (by omega)
    have e4 : w64 ((j1 : Int) - 1) = ((j1 - 1 : Nat) : Int) := w64_nat (by omega) (by omega)
    rw [e3, e4]
    have hsw : ∀ (m : List α) (i j : Nat), a < i → i < j → j < b → b ≤ m.length → (∀ p x y, a < p → p < i → m[a]? = some y → m[p]? = some x → lt x y = true) → (∀ p x y, j < p → p < b → m[a]? = some y → m[p]? = some x → lt x y = false) →
        (∀ x y, m[a]? = some y → m[i]? = some x → lt x y = false) → (∀ x y, m[a]? = some y → m[j]? = some x → lt x y = true) →
        (∀ p x y, a < p → p < i + 1 → (sw m j i)[a]? = some y → (sw m j i)[p]? = some x → lt x y = true) ∧ (∀ p x y, j - 1 < p → p < b → (sw m j i)[a]? = some y → (sw m j i)[p]? = some x → lt x y = false) := by
      intro m i j h1 h2 h3 h4 hl hr hi hj
      have ea : (sw m j i)[a]? = m[a]? := by rw [sw_get (by omega) (by omega), if_neg (by omega), if_neg (by omega)]
      constructor
      · intro p x y g1 g2 hy hx
        rw [ea] at hy
        rw [sw_get (by omega) (by omega), if_neg (by omega)] at hx
        by_cases hp : p = i
        · rw [if_pos hp] at hx
          exact hj x y hy hx
        · rw [if_neg hp] at hx
          exact hl p x y g1 (by omega) hy hx
      · intro p x y g1 g2 hy hx
        rw [ea] at hy
        rw [sw_get (by omega) (by omega)] at hx
        by_cases hp : p = j
        · rw [if_pos hp] at hx
          exact hi x y hy hx
        · rw [if_neg hp, if_neg (by omega)] at hx
          exact hr p x y (by omega) g2 hy hx
    obtain ⟨c1, c2⟩ := hsw m i1 j1 (by omega) (by omega) (by omega) (by omega) a3 b3 q1 q2
    obtain ⟨⟨m2, j2'⟩, em2, j2, hj2, d1, d2, d3, d4, d5⟩ := loop_ex (b1 := slices_partitionCmpFunc_G_l7 (a : Int) cmp)
      (fun k s => ∃ i j : Nat, s.2.1 = (i : Int) ∧ s.2.2 = (j : Int) ∧ a < i ∧ i ≤ j + 1 ∧ j < b ∧ k = j ∧ PI a b l s.1 ∧ (∀ p x y, a < p → p < i → s.1[a]? = some y → s.1[p]? = some x → lt x y = true) ∧ (∀ p x y, j < p → p < b → s.1[a]? = some y → s.1[p]? = some x → lt x y = false))
      (fun r => ∃ j : Nat, r.2 = (j : Int) ∧ a ≤ j ∧ j < b ∧ PI a b l r.1 ∧ (∀ p x y, a < p → p < j + 1 → r.1[a]? = some y → r.1[p]? = some x → lt x y = true) ∧ (∀ p x y, j < p → p < b → r.1[a]? = some y → r.1[p]? = some x → lt x y = false)) (by
        rintro n ⟨m, i', j'⟩ ⟨i, j, hi, hj, f1, f2, f3, hn, hpi, f4, f5⟩
        simp only at hi hj hpi f4 f5
        subst hi
        subst hj
        have hml := hpi.len
        have hPm := hpi.pp hP
        unfold slices_partitionCmpFunc_G_l7
        simp only
        obtain ⟨i1, ei1, a1, a2, a3, a4⟩ := up_spec hc hPm (a := a) (i := i) (j := j) (b := b) f1 f2 f3 (by omega) (by omega) f4
        have ei1' : whileM (slices_partitionCmpFunc_G_l12 (a : Int) cmp (m, (i : Int), (j : Int))) (i : Int) = some (i1 : Int) := ei1
        rw [ei1']
        simp only [Option.bind_some]
        obtain ⟨j1, ej1, b1, b2, b3, b4⟩ := down_spec hc hPm (a := a) (i := i1) (j := j) (b := b) (by omega) (by omega) (by omega) (by omega) (by omega) f5
        have ej1' : whileM (slices_partitionCmpFunc_G_l13 (a : Int) cmp (m, (i : Int), (j : Int)) (i1 : Int)) (j : Int) = some (j1 : Int) := ej1
        rw [ej1']
        simp only [Option.bind_some]
        by_cases hij : j1 < i1
        · right
          rw [if_pos (decide_eq_true (by omega))]
          have he : i1 = j1 + 1 := by omega
          subst he
          exact ⟨_, rfl, j1, rfl, by omega, by omega, hpi, a3, b3⟩
        · left
          rw [if_neg (by simp; omega), ix_nat m j1 (by omega), ix_nat m i1 (by omega)]
          simp only [Option.bind_some]
          rw [swap3 (l := m) (i := j1) (j := i1) (by omega) (by omega)]
          have q1 := a4 (by omega)
          have q2 := b4 (by omega)
          have hne : i1 ≠ j1 := fun h => by
            subst h
            have s1 := some_at (show a < m.length by omega)
            have s2 := some_at (show i1 < m.length by omega)
            have h1 := q1 _ _ s1 s2
            have h2 := q2 _ _ s1 s2
            rw [h1] at h2
            cases h2
          have e3 : w64 ((i1 : Int) + 1) = ((i1 + 1 : Nat) : Int) := w64_nat (by omega) (by omega)
          have e4 : w64 ((j1 : Int) - 1) = ((j1 - 1 : Nat) : Int) := w64_nat (by omega) (by omega)
          obtain ⟨c1, c2⟩ := hsw m i1 j1 (by omega) (by omega) (by omega) (by omega) a3 b3 q1 q2
          rw [e3, e4]
          exact ⟨_, j1 - 1, rfl, ⟨i1 + 1, j1 - 1, rfl, rfl, by omega, by omega, by omega, rfl, hpi.trans (sw_PI (by omega) (by omega)), c1, c2⟩, by omega⟩) (j1 - 1) (sw m j1 i1, ((i1 + 1 : Nat) : Int), ((j1 - 1 : Nat) : Int)) ⟨i1 + 1, j1 - 1, rfl, rfl, by omega, by omega, by omega, rfl, hpi0.trans (sw_PI (by omega) (by omega)), c1, c2⟩
    rw [em2]
    simp only at hj2 d3 d4 d5
    subst hj2
    have hm2 := d3.len
    simp only [Option.bind_some]
    rw [ix_nat m2 a (by omega), ix_nat m2 j2 (by omega)]
    simp only [Option.bind_some]
    rw [swap3 (l := m2) (i := a) (j := j2) (by omega) (by omega)]
    obtain ⟨_, g1, g2⟩ := part_end hc d3 (d3.pp hP) d1 d2 (by omega) d4 d5
    obtain ⟨g3, g4⟩ := g2 _ (.inr rfl)
    exact ⟨j2, false, _, rfl, d1, d2, g1, g3, g4⟩
end
end Go.Proofs.Ytiihddcppmjbaaa.Sh

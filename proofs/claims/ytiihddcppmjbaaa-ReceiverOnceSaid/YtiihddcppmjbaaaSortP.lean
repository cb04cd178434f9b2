/- The sort as a plain program over any type, part 1: what is kept, swaps, the insertion sort. -/
import Derived.Test.YtiihddcppmjbaaaSortG
namespace Go.Proofs.Ytiihddcppmjbaaa.Sh
open Go
set_option linter.unusedVariables false
set_option linter.unusedSimpArgs false

section
variable {α : Type}

/-- a comparison that runs, and orders, where P holds -/
structure CmpOK (P : α → Prop) (cmp : α → α → Option Int) (lt : α → α → Bool) : Prop where
  run : ∀ x y, P x → P y → ∃ c, cmp x y = some c ∧ decide (c < 0) = lt x y
  irr : ∀ x, P x → lt x x = false
  tr : ∀ x y z, P x → P y → P z → lt x y = true → lt y z = true → lt x z = true
  ntr : ∀ x y z, P x → P y → P z → lt x y = false → lt y z = false → lt x z = false
theorem CmpOK.asym {P : α → Prop} {cmp : α → α → Option Int} {lt : α → α → Bool} (h : CmpOK P cmp lt) {x y : α} (hx : P x) (hy : P y) (hl : lt x y = true) : lt y x = false := by
  cases hq : lt y x with
  | false => rfl
  | true =>
    have := h.tr x y x hx hy hx hl hq
    rw [h.irr x hx] at this
    cases this

/-- the same but for the places from a to b, and there in another order -/
structure PI (a b : Nat) (l m : List α) : Prop where
  len : m.length = l.length
  out : ∀ i, i < a ∨ b ≤ i → m[i]? = l[i]?
  perm : m.Perm l
theorem PI.refl {a b : Nat} {l : List α} : PI a b l l := ⟨rfl, fun _ _ => rfl, List.Perm.refl _⟩
theorem PI.trans {a b : Nat} {l m r : List α} (h1 : PI a b l m) (h2 : PI a b m r) : PI a b l r :=
  ⟨h2.len.trans h1.len, fun i hi => (h2.out i hi).trans (h1.out i hi), h2.perm.trans h1.perm⟩
theorem PI.mono {a b a' b' : Nat} {l m : List α} (h : PI a b l m) (ha : a' ≤ a) (hb : b ≤ b') : PI a' b' l m :=
  ⟨h.len, fun i hi => h.out i (by omega), h.perm⟩
theorem PI.pp {P : α → Prop} {a b : Nat} {l m : List α} (h : PI a b l m) (hP : ∀ x ∈ l, P x) : ∀ x ∈ m, P x := fun x hx => hP x (h.perm.mem_iff.1 hx)
theorem split3 {a b : Nat} (l : List α) (h1 : a ≤ b) (h2 : b ≤ l.length) : l = l.take a ++ ((l.take b).drop a ++ l.drop b) := by
  have e1 : l.take b = l.take a ++ (l.take b).drop a := by
    have := (List.take_append_drop a (l.take b)).symm
    rw [List.take_take, Nat.min_eq_left h1] at this
    exact this
  have e2 := (List.take_append_drop b l).symm
  rw [e1, List.append_assoc] at e2
  exact e2
theorem PI.mid {a b : Nat} {l m : List α} (h : PI a b l m) (h1 : a ≤ b) (h2 : b ≤ l.length) : ((m.take b).drop a).Perm ((l.take b).drop a) := by
  have e1 : m.take a = l.take a := by
    apply List.ext_getElem?
    intro i
    rw [List.getElem?_take, List.getElem?_take]
    split
    · exact h.out i (.inl ‹_›)
    · rfl
  have e2 : m.drop b = l.drop b := by
    apply List.ext_getElem?
    intro i
    rw [List.getElem?_drop, List.getElem?_drop]
    exact h.out _ (.inr (by omega))
  have hp := h.perm
  rw [split3 m h1 (by rw [h.len]; exact h2), split3 l h1 h2, e1, e2] at hp
  exact (List.perm_append_right_iff _).1 ((List.perm_append_left_iff _).1 hp)
/-- what is found from a to b was there before -/
theorem PI.find {a b : Nat} {l m : List α} (h : PI a b l m) {i : Nat} {x : α} (hi : a ≤ i) (hb : i < b) (hx : m[i]? = some x) : ∃ j, a ≤ j ∧ j < b ∧ l[j]? = some x := by
  have hil : i < m.length := (List.getElem?_eq_some_iff.1 hx).1
  rw [h.len] at hil
  by_cases hbl : b ≤ l.length
  · have hm : x ∈ (m.take b).drop a := by
      apply List.mem_of_getElem? (i := i - a)
      rw [List.getElem?_drop, List.getElem?_take, if_pos (by omega), show a + (i - a) = i by omega]
      exact hx
    have hl := (h.mid (by omega) hbl).mem_iff.1 hm
    obtain ⟨j, hj⟩ := List.mem_iff_getElem?.1 hl
    rw [List.getElem?_drop, List.getElem?_take] at hj
    split at hj
    · exact ⟨a + j, by omega, by omega, hj⟩
    · cases hj
  · -- all places behind a
    have h' : PI a l.length l m := ⟨h.len, fun i hi => by
      rcases hi with hi | hi
      · exact h.out i (.inl hi)
      · rw [List.getElem?_eq_none (by rw [h.len]; exact hi), List.getElem?_eq_none hi], h.perm⟩
    have hm : x ∈ (m.take l.length).drop a := by
      apply List.mem_of_getElem? (i := i - a)
      rw [List.getElem?_drop, List.getElem?_take, if_pos (by omega), show a + (i - a) = i by omega]
      exact hx
    have hl := (h'.mid (by omega) (Nat.le_refl _)).mem_iff.1 hm
    obtain ⟨j, hj⟩ := List.mem_iff_getElem?.1 hl
    rw [List.getElem?_drop, List.getElem?_take] at hj
    split at hj
    · exact ⟨a + j, by omega, by omega, hj⟩
    · cases hj

/-- two places change -/
def sw (l : List α) (i j : Nat) : List α := if h : i < l.length ∧ j < l.length then (l.set j l[i]).set i l[j] else l
theorem sw_len (l : List α) (i j : Nat) : (sw l i j).length = l.length := by unfold sw; split <;> simp
theorem sw_get {l : List α} {i j : Nat} (hi : i < l.length) (hj : j < l.length) (k : Nat) : (sw l i j)[k]? = if k = i then l[j]? else if k = j then l[i]? else l[k]? := by
  unfold sw
  rw [dif_pos ⟨hi, hj⟩, List.getElem?_set, List.getElem?_set]
  by_cases h1 : k = i
  · subst h1
    rw [if_pos rfl, if_pos rfl, if_pos (by simpa using hi), List.getElem?_eq_getElem hj]
  · rw [if_neg (by omega), if_neg h1]
    by_cases h2 : k = j
    · subst h2
      rw [if_pos rfl, if_pos rfl, if_pos hj, List.getElem?_eq_getElem hi]
    · rw [if_neg (by omega), if_neg h2]
theorem sw_PI {l : List α} {a b i j : Nat} (hi : a ≤ i ∧ i < b) (hj : a ≤ j ∧ j < b) : PI a b l (sw l i j) := by
  by_cases h : i < l.length ∧ j < l.length
  · refine ⟨sw_len _ _ _, fun k hk => ?_, ?_⟩
    · rw [sw_get h.1 h.2, if_neg (by omega), if_neg (by omega)]
    · have := List.set_set_perm (as := l) (i := j) (j := i) h.2 h.1
      unfold sw
      rw [dif_pos h]
      exact this
  · have : sw l i j = l := by unfold sw; rw [dif_neg h]
    rw [this]
    exact PI.refl
theorem ix_at' {l : List α} {i : Nat} (h : i < l.length) : ix l (i : Int) = some l[i] := ix_nat l i h
/-- the six steps of a swap -/
theorem swap6 {β : Type} {l : List α} {i j : Nat} (hi : i < l.length) (hj : j < l.length) (k : List α → Option β) :
    ((ix l (i : Int)).bind fun x => (ix l (j : Int)).bind fun y => (ix l (j : Int)).bind fun _ => (setM l (j : Int) x).bind fun l1 => (ix l1 (i : Int)).bind fun _ => (setM l1 (i : Int) y).bind k) = k (sw l i j) := by
  rw [ix_nat _ _ hi, ix_nat _ _ hj]
  simp only [Option.bind_some]
  rw [setM_at _ _ _ (by omega) (by omega)]
  simp only [Option.bind_some, Int.toNat_natCast]
  rw [ix_nat _ _ (by simpa using hi)]
  simp only [Option.bind_some]
  rw [setM_at _ _ _ (by omega) (by simp; omega)]
  simp only [Option.bind_some, Int.toNat_natCast]
  unfold sw
  rw [dif_pos ⟨hi, hj⟩]

theorem swap3 {β : Type} {l : List α} {i j : Nat} (hi : i < l.length) (hj : j < l.length) (k : List α → Option β) :
    ((setM l (j : Int) l[i]).bind fun l1 => (ix l1 (i : Int)).bind fun _ => (setM l1 (i : Int) l[j]).bind k) = k (sw l i j) := by
  have h := swap6 hi hj k
  rw [ix_nat _ _ hi, ix_nat _ _ hj] at h
  simpa only [Option.bind_some] using h

/-- sorted from a to b -/
def SR (lt : α → α → Bool) (a b : Nat) (l : List α) : Prop := ∀ i j x y, a ≤ i → i < j → j < b → l[i]? = some x → l[j]? = some y → lt y x = false

variable {P : α → Prop} {cmp : α → α → Option Int} {lt : α → α → Bool}

theorem ins_inner (hc : CmpOK P cmp lt) {l : List α} (hP : ∀ x ∈ l, P x) {a i : Nat} (hai : a ≤ i) (hil : i < l.length) (hlen : l.length ≤ 1000000000000) (hs : SR lt a i l) :
    ∃ m, whileM (slices_insertionSortCmpFunc_G_l6 (a : Int) cmp) (l, (i : Int)) = some m ∧ PI a (i + 1) l m ∧ SR lt a (i + 1) m := by
  refine loop_ex (fun k s => ∃ j : Nat, s.2 = (j : Int) ∧ k = j ∧ a ≤ j ∧ j ≤ i ∧ PI a (i + 1) l s.1 ∧ (∀ p q x y, a ≤ p → p < q → q ≤ i → q ≠ j → s.1[p]? = some x → s.1[q]? = some y → lt y x = false))
    (fun m => PI a (i + 1) l m ∧ SR lt a (i + 1) m) ?_ i (l, (i : Int)) ⟨i, rfl, rfl, hai, Nat.le_refl _, PI.refl, fun p q x y h1 h2 h3 h4 => hs p q x y h1 h2 (by omega)⟩
  rintro n ⟨m, j'⟩ ⟨j, hj', hkj, h1, h2, hpi, hinv⟩
  simp only at hj' hpi hinv
  subst hj'
  have hml := hpi.len
  have hPm := hpi.pp hP
  unfold slices_insertionSortCmpFunc_G_l6
  simp only
  by_cases hj : a = j
  · right
    refine ⟨m, ?_, hpi, fun p q x y g1 g2 g3 => hinv p q x y g1 g2 (by omega) (by omega)⟩
    rw [if_neg (by simp; omega)]
    simp only [Option.bind_some, Bool.false_eq_true, if_false]
  · have e1 : w64 ((j : Int) - 1) = ((j - 1 : Nat) : Int) := by rw [w64_id (by omega) (by omega)]; omega
    rw [if_pos (decide_eq_true (by omega)), e1, ix_nat m j (by omega)]
    simp only [Option.bind_some]
    rw [ix_nat m (j - 1) (by omega)]
    simp only [Option.bind_some]
    have px := hPm _ (List.getElem_mem (show j < m.length by omega))
    have py := hPm _ (List.getElem_mem (show j - 1 < m.length by omega))
    obtain ⟨c, ec, hcl⟩ := hc.run _ _ px py
    rw [ec]
    simp only [Option.bind_some, hcl]
    have gj : m[j]? = some m[j] := List.getElem?_eq_getElem (by omega)
    have gj1 : m[j - 1]? = some m[j - 1] := List.getElem?_eq_getElem (by omega)
    cases hlt : lt m[j] m[j - 1] with
    | false =>
      right
      refine ⟨m, by simp, hpi, fun p q x y g1 g2 g3 hx hy => ?_⟩
      by_cases hq : q = j
      · subst hq
        rw [gj] at hy
        obtain rfl := Option.some.inj hy
        by_cases hp : p = q - 1
        · subst hp
          rw [gj1] at hx
          obtain rfl := Option.some.inj hx
          exact hlt
        · have h3 := hinv p (q - 1) x _ g1 (by omega) (by omega) (by omega) hx gj1
          exact hc.ntr _ _ _ px py (hPm _ (List.mem_of_getElem? hx)) hlt h3
      · exact hinv p q x y g1 g2 (by omega) hq hx hy
    | true =>
      left
      simp only [if_true]
      refine ⟨(sw m (j - 1) j, ((j - 1 : Nat) : Int)), j - 1, ?_, ⟨j - 1, rfl, rfl, by omega, by omega, hpi.trans (sw_PI (by omega) (by omega)), ?_⟩, by omega⟩
      · rw [swap3 (l := m) (i := j - 1) (j := j) (by omega) (by omega)]
      · intro p q x y g1 g2 g3 g4 hx hy
        simp only at hx hy
        rw [sw_get (by omega) (by omega)] at hx hy
        rw [if_neg g4] at hy
        by_cases hq : q = j
        · subst hq
          rw [if_pos rfl, gj1] at hy
          obtain rfl := Option.some.inj hy
          by_cases hp : p = q - 1
          · rw [if_pos hp, gj] at hx
            obtain rfl := Option.some.inj hx
            exact hc.asym px py hlt
          · rw [if_neg hp, if_neg (by omega)] at hx
            exact hinv p (q - 1) x _ g1 (by omega) (by omega) (by omega) hx gj1
        · rw [if_neg hq] at hy
          by_cases hp : p = j - 1
          · rw [if_pos hp, gj] at hx
            obtain rfl := Option.some.inj hx
            exact hinv j q _ y (by omega) (by omega) g3 hq gj hy
          · rw [if_neg hp] at hx
            by_cases hp2 : p = j
            · rw [if_pos hp2, gj1] at hx
              obtain rfl := Option.some.inj hx
              exact hinv (j - 1) q _ y (by omega) (by omega) g3 hq gj1 hy
            · rw [if_neg hp2] at hx
              exact hinv p q x y g1 g2 g3 hq hx hy

theorem ins_spec (hc : CmpOK P cmp lt) {l : List α} (hP : ∀ x ∈ l, P x) {a b : Nat} (hab : a ≤ b) (hbl : b ≤ l.length) (hlen : l.length ≤ 1000000000000) :
    ∃ m, slices_insertionSortCmpFunc_G l (a : Int) (b : Int) cmp = some m ∧ PI a b l m ∧ SR lt a b m := by
  have e1 : w64 ((a : Int) + 1) = ((a + 1 : Nat) : Int) := by rw [w64_id (by omega) (by omega)]; rfl
  obtain ⟨m, em, h1, h2⟩ := loop_ex (b1 := slices_insertionSortCmpFunc_G_l3 (a : Int) (b : Int) cmp)
    (fun k s => ∃ i : Nat, s.2 = (i : Int) ∧ k + i = b + 1 + a ∧ a + 1 ≤ i ∧ (i ≤ b ∨ i = a + 1) ∧ PI a b l s.1 ∧ SR lt a i s.1)
    (fun m => PI a b l m ∧ SR lt a b m) (by
      rintro n ⟨m, i'⟩ ⟨i, hi', hk, h1, h2, hpi, hsr⟩
      simp only at hi' hpi hsr
      subst hi'
      unfold slices_insertionSortCmpFunc_G_l3
      simp only
      have hml := hpi.len
      by_cases hib : i < b
      · left
        rw [if_pos (decide_eq_true (by omega))]
        obtain ⟨r, er, g1, g2⟩ := ins_inner hc (hpi.pp hP) (a := a) (i := i) (by omega) (by omega) (by omega) hsr
        rw [er]
        simp only [Option.bind_some]
        refine ⟨_, n - 1, rfl, ⟨i + 1, by rw [w64_id (by omega) (by omega)]; rfl, by omega, by omega, by omega, hpi.trans (g1.mono (Nat.le_refl _) (by omega)), g2⟩, by omega⟩
      · right
        rw [if_neg (by simp; omega)]
        exact ⟨_, rfl, hpi, fun p q x y g1 g2 g3 => hsr p q x y g1 g2 (by omega)⟩) b (l, ((a + 1 : Nat) : Int)) ⟨a + 1, rfl, by omega, Nat.le_refl _, .inr rfl, PI.refl, fun p q x y g1 g2 g3 => by omega⟩
  refine ⟨m, ?_, h1, h2⟩
  unfold slices_insertionSortCmpFunc_G
  rw [e1]
  simp only [Option.bind_some]
  rw [em]
  rfl
end
end Go.Proofs.Ytiihddcppmjbaaa.Sh

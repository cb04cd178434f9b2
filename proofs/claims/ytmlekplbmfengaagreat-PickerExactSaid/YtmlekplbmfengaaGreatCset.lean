/- slices.Compact of a sorted list as a plain program over any type, and the strictly ascending list of a set. -/
import Derived.Test.YtmlekplbmfengaaGreatOrder
import Derived.Test.YtmlekplbmfengaaGreatSortK
import Derived.Test.YtmlekplbmfengaaGreatLoops
namespace Go.Proofs.YtmlekplbmfengaaGreat.Sh
open Go
set_option linter.unusedVariables false
set_option linter.unusedSimpArgs false
noncomputable def compact_G_j1 {α : Type} (sv1662 : ((List α) × Int × Int)) (sv1912 : (List α)) (k1913 : Int) : Option (((List α) × Int × Int) ⊕ ((List α) × Int)) :=
  (some (w64 (sv1662.2.2 + 1))).bind fun k2_1915 =>
  some (Sum.inl (sv1912, k1913, k2_1915))
noncomputable def compact_G_l11 {α : Type} (eq : α → α → Option Bool) (sv628 : Int) (l1661 : (List α)) (sv1662 : ((List α) × Int × Int)) : Option (((List α) × Int × Int) ⊕ ((List α) × Int)) :=
  (if (decide (sv1662.2.2 < (l1661.length : Int))) = true then
    (ixV sv1662.1 sv628 l1661.length sv1662.2.2).bind fun x1875 =>
    (ixV sv1662.1 sv628 l1661.length (w64 (sv1662.2.2 - 1))).bind fun x1883 =>
    (eq x1875 x1883).bind fun c =>
    (if (!c) = true then
      (ixV sv1662.1 sv628 l1661.length sv1662.2.2).bind fun x1924 =>
      (ix sv1662.1 sv1662.2.1).bind fun x1927 =>
      (setM sv1662.1 sv1662.2.1 x1924).bind fun l1935 =>
      (some (w64 (sv1662.2.1 + 1))).bind fun k1940 =>
      compact_G_j1 sv1662 l1935 k1940
    else
      compact_G_j1 sv1662 sv1662.1 sv1662.2.1)
  else
    some (Sum.inr (sv1662.1, sv1662.2.1)))
noncomputable def compact_G_l7 {α : Type} (z : α) (eq : α → α → Option Bool) (s1 : (List α)) (sv628 : Int) : Option (Int ⊕ (List α)) :=
  (if (decide (sv628 < (s1.length : Int))) = true then
    (ix s1 sv628).bind fun x1456 =>
    (ix s1 (w64 (sv628 - 1))).bind fun x1469 =>
    (eq x1456 x1469).bind fun c =>
    (if c = true then
      (subM s1 sv628 (s1.length : Int)).bind fun l1661 =>
      (whileM (compact_G_l11 eq sv628 l1661) (s1, sv628, 1)).bind fun e1817 =>
      (subM e1817.1 e1817.2 (e1817.1.length : Int)).bind fun l1946 =>
      (some (copyM e1817.1 e1817.2 (e1817.1.length : Int) (List.replicate l1946.length z))).bind fun l1947 =>
      (subM l1947 0 e1817.2).bind fun l1956 =>
      some (Sum.inr l1956)
    else
      (some (w64 (sv628 + 1))).bind fun k1960 =>
      some (Sum.inl k1960))
  else
    Option.map Sum.inr (some s1))
noncomputable def compact_G {α : Type} (z : α) (eq : α → α → Option Bool) (s1 : (List α)) : Option (List α) :=
  (if (decide ((s1.length : Int) < 2)) = true then
    some s1
  else
    whileM (compact_G_l7 z eq s1) (1))
section
variable {α : Type}
/-- what is kept of the first n -/
def cpN (eq : α → α → Bool) (s : List α) : Nat → List α
  | 0 => []
  | n + 1 => cpN eq s n ++ (match s[n]? with
    | none => []
    | some x => if n = 0 then [x] else match s[n - 1]? with
      | none => []
      | some y => if eq x y = true then [] else [x])
theorem cpN_one (eq : α → α → Bool) {s : List α} {n : Nat} (h : n < s.length) (h0 : 0 < n) : cpN eq s (n + 1) = cpN eq s n ++ if eq s[n] (s[n - 1]'(by omega)) = true then [] else [s[n]] := by
  show cpN eq s n ++ _ = _
  rw [some_at h, some_at (show n - 1 < s.length by omega)]
  simp only
  rw [if_neg (by omega)]
theorem cpN_zero (eq : α → α → Bool) {s : List α} (h : 0 < s.length) : cpN eq s 1 = [s[0]] := by
  show cpN eq s 0 ++ _ = _
  rw [some_at h]; rfl
theorem w64_nat' {x : Int} {n : Nat} (h : x = (n : Int)) (hn : n ≤ 9000000000000000000) : w64 x = (n : Int) := by rw [h, w64_id (by omega) (by omega)]
theorem copy_take {z : α} {l : List α} {k n : Nat} (h : k ≤ l.length) : subM (copyM l (k : Int) (l.length : Int) (List.replicate n z)) 0 (k : Int) = some (l.take k) := by
  have h1 : (copyM l (k : Int) (l.length : Int) (List.replicate n z)).take k = l.take k := by
    unfold copyM
    simp only [Int.toNat_natCast]
    rw [List.append_assoc, List.take_append_of_le_length (by rw [List.length_take]; omega), List.take_take, Nat.min_self]
  have h2 : k ≤ (copyM l (k : Int) (l.length : Int) (List.replicate n z)).length := by
    unfold copyM
    simp only [Int.toNat_natCast, List.length_append, List.length_take]
    omega
  have h0 := sub_at (copyM l (k : Int) (l.length : Int) (List.replicate n z)) 0 k (Nat.zero_le _) h2
  rw [h1] at h0
  simpa using h0
theorem compact_spec (z : α) {f : α → α → Option Bool} {eq : α → α → Bool} {s : List α} (hf : ∀ x ∈ s, ∀ y ∈ s, f x y = some (eq x y)) (hl : s.length ≤ 1000000) : compact_G z f s = some (cpN eq s s.length) := by
  unfold compact_G
  by_cases h2 : s.length < 2
  · rw [if_pos (decide_eq_true (by omega))]
    match s, h2 with
    | [], _ => rfl
    | [x], _ => rfl
  · rw [if_neg (by simp; omega)]
    obtain ⟨r, er, hr⟩ := loop_ex (b1 := compact_G_l7 z f s) (fun k q => ∃ n : Nat, q = (n : Int) ∧ 0 < n ∧ n ≤ s.length ∧ k + n = s.length ∧ cpN eq s n = s.take n) (fun r => r = cpN eq s s.length) (by
      rintro k q ⟨n, rfl, n0, n1, hk, ht⟩
      unfold compact_G_l7
      by_cases hn : n < s.length
      · have e1 : w64 ((n : Int) - 1) = ((n - 1 : Nat) : Int) := w64_nat' (by omega) (by omega)
        rw [if_pos (decide_eq_true (by omega)), ix_nat _ _ hn, e1, ix_nat s (n - 1) (by omega)]
        simp only [Option.bind_some]
        rw [hf _ (List.getElem_mem hn) _ (List.getElem_mem _)]
        simp only [Option.bind_some]
        have hone := cpN_one eq hn n0
        by_cases hc : eq s[n] (s[n - 1]'(by omega)) = true
        · right
          rw [if_pos hc, List.append_nil] at hone
          rw [if_pos hc, sub_at _ _ _ (by omega) (Nat.le_refl _), List.take_of_length_le (Nat.le_refl _)]
          simp only [Option.bind_some]
          have hdl : (s.drop n).length = s.length - n := List.length_drop
          obtain ⟨w, ew, hw1, hw2, hw3⟩ := loop_ex (b1 := compact_G_l11 f (n : Int) (s.drop n))
            (fun k q => ∃ w j : Nat, q.2.1 = (w : Int) ∧ q.2.2 = (j : Int) ∧ 1 ≤ j ∧ k + j = s.length - n ∧ j ≤ s.length - n ∧ w + 1 ≤ n + j ∧ q.1.length = s.length ∧ q.1.take w = cpN eq s (n + j) ∧ w = (cpN eq s (n + j)).length ∧ ∀ i, n + j ≤ i + 1 → q.1[i]? = s[i]?)
            (fun r => r.1.length = s.length ∧ (∃ w : Nat, r.2 = (w : Int) ∧ w ≤ s.length ∧ r.1.take w = cpN eq s s.length) ∧ True) (by
              rintro k ⟨m, w', j'⟩ ⟨w, j, hw, hj, j1, hk, jl, wj, ml, mt, wl, mo⟩
              simp only at hw hj ml mt mo
              subst hw
              subst hj
              unfold compact_G_l11
              simp only
              by_cases hjl : j < s.length - n
              · left
                have hnj : n + j < s.length := by omega
                have m1 : m[n + j]'(by omega) = s[n + j] := by
                  have := mo (n + j) (by omega)
                  rw [some_at (by omega), some_at hnj] at this
                  exact Option.some.inj this
                have m2 : m[n + j - 1]'(by omega) = s[n + j - 1] := by
                  have := mo (n + j - 1) (by omega)
                  rw [some_at (by omega), some_at (by omega)] at this
                  exact Option.some.inj this
                have v1 : ixV m (n : Int) (s.drop n).length (j : Int) = some s[n + j] := by
                  unfold ixV
                  rw [if_pos (by omega), show (n : Int) + (j : Int) = ((n + j : Nat) : Int) by omega, ix_nat _ _ (by omega), m1]
                have v2 : ixV m (n : Int) (s.drop n).length (w64 ((j : Int) - 1)) = some s[n + j - 1] := by
                  rw [w64_nat' (n := j - 1) (by omega) (by omega)]
                  unfold ixV
                  rw [if_pos (by omega), show (n : Int) + ((j - 1 : Nat) : Int) = ((n + j - 1 : Nat) : Int) by omega, ix_nat _ _ (by omega), m2]
                rw [if_pos (decide_eq_true (by omega)), v1, v2]
                simp only [Option.bind_some]
                rw [hf _ (List.getElem_mem _) _ (List.getElem_mem _)]
                simp only [Option.bind_some]
                have hone := cpN_one eq hnj (by omega)
                by_cases hc2 : eq s[n + j] (s[n + j - 1]'(by omega)) = true
                · rw [if_pos hc2, List.append_nil] at hone
                  rw [if_neg (by rw [hc2]; decide)]
                  unfold compact_G_j1
                  simp only [Option.bind_some]
                  rw [w64_nat' (n := j + 1) (by omega) (by omega)]
                  refine ⟨_, k - 1, rfl, ⟨w, j + 1, rfl, rfl, by omega, by omega, by omega, by omega, ml, ?_, ?_, fun i hi => mo i (by omega)⟩, by omega⟩
                  · simp only; rw [mt, ← hone]; rfl
                  · rw [wl, ← hone]; rfl
                · rw [if_neg hc2] at hone
                  rw [if_pos (by simpa using hc2), ix_nat _ _ (show w < m.length by omega)]
                  simp only [Option.bind_some]
                  rw [setM_at _ _ _ (by omega) (by omega)]
                  unfold compact_G_j1
                  simp only [Option.bind_some, Int.toNat_natCast]
                  rw [w64_nat' (x := (j : Int) + 1) (n := j + 1) (by omega) (by omega), w64_nat' (x := (w : Int) + 1) (n := w + 1) (by omega) (by omega)]
                  refine ⟨_, k - 1, rfl, ⟨w + 1, j + 1, rfl, rfl, by omega, by omega, by omega, by omega, by simpa using ml, ?_, ?_, fun i hi => ?_⟩, by omega⟩
                  · show (m.set w s[n + j]).take (w + 1) = cpN eq s (n + (j + 1))
                    rw [show n + (j + 1) = n + j + 1 by omega, hone, ← mt, take_one (by simp; omega), List.take_set_of_le (Nat.le_refl _)]
                    simp
                  · rw [show n + (j + 1) = n + j + 1 by omega, hone, List.length_append, ← wl]; rfl
                  · simp only
                    rw [List.getElem?_set, if_neg (by omega)]
                    exact mo i (by omega)
              · right
                rw [if_neg (by simp; omega)]
                have : n + j = s.length := by omega
                refine ⟨_, rfl, ml, ⟨w, rfl, by omega, ?_⟩, trivial⟩
                simp only
                rw [mt, this]) (s.length - n - 1) (s, (n : Int), (1 : Int)) ⟨n, 1, rfl, rfl, by omega, by omega, by omega, by omega, rfl, by
              simp only
              rw [hone, ht], by rw [hone, ht, List.length_take]; omega, fun i _ => rfl⟩
          obtain ⟨w0, hw0, hw4, hw5⟩ := hw2
          obtain ⟨mm, ww⟩ := w
          simp only at hw0 hw1 hw5
          subst hw0
          rw [ew]
          simp only [Option.bind_some]
          rw [sub_at _ _ _ (by omega) (Nat.le_refl _), List.take_of_length_le (Nat.le_refl _)]
          simp only [Option.bind_some]
          rw [copy_take (by omega), hw5]
          exact ⟨_, rfl, rfl⟩
        · left
          rw [if_neg hc] at hone
          rw [if_neg hc, w64_nat' (n := n + 1) (by omega) (by omega)]
          refine ⟨_, k - 1, rfl, ⟨n + 1, rfl, by omega, by omega, by omega, ?_⟩, by omega⟩
          rw [hone, ht, take_one hn]
      · right
        rw [if_neg (by simp; omega)]
        refine ⟨s, rfl, ?_⟩
        rw [show n = s.length by omega, List.take_of_length_le (Nat.le_refl _)] at ht
        exact ht.symm) (s.length - 1) 1 ⟨1, rfl, by omega, by omega, by omega, by
          rw [cpN_zero eq (by omega)]
          cases s with
          | nil => simp at h2
          | cons a s => rfl⟩
    rw [er, hr]
/-! ### strictly ascending lists -/
theorem asc_uniq {c : α → α → Int} (hc : Cmp c) : ∀ {l m : List α}, l.Pairwise (fun a b => c a b < 0) → m.Pairwise (fun a b => c a b < 0) → (∀ x, x ∈ l ↔ x ∈ m) → l = m
  | [], [], _, _, _ => rfl
  | [], b :: m, _, _, h => by have := (h b).2 List.mem_cons_self; cases this
  | a :: l, [], _, _, h => by have := (h a).1 List.mem_cons_self; cases this
  | a :: l, b :: m, h1, h2, h => by
    obtain ⟨a1, l1⟩ := List.pairwise_cons.1 h1
    obtain ⟨b1, m1⟩ := List.pairwise_cons.1 h2
    have hab : a = b := by
      rcases List.mem_cons.1 ((h a).1 List.mem_cons_self) with e | e
      · exact e
      · rcases List.mem_cons.1 ((h b).2 List.mem_cons_self) with f | f
        · exact f.symm
        · have := b1 a e
          have := a1 b f
          have := hc.anti a b
          omega
    subst hab
    have hr := hc.refl a
    congr 1
    refine asc_uniq hc l1 m1 fun x => ⟨fun hx => ?_, fun hx => ?_⟩
    · rcases List.mem_cons.1 ((h x).1 (List.mem_cons_of_mem _ hx)) with e | e
      · subst e; have := a1 x hx; omega
      · exact e
    · rcases List.mem_cons.1 ((h x).2 (List.mem_cons_of_mem _ hx)) with e | e
      · subst e; have := b1 x hx; omega
      · exact e
/-- one more, once -/
def insC (c : α → α → Int) (x : α) : List α → List α
  | [] => [x]
  | y :: r => if c x y < 0 then x :: y :: r else if c x y = 0 then y :: r else y :: insC c x r
def sset (c : α → α → Int) (l : List α) : List α := l.foldr (insC c) []
theorem mem_insC {c : α → α → Int} (he : ∀ x y, c x y = 0 → x = y) {x z : α} : ∀ {l : List α}, z ∈ insC c x l ↔ z = x ∨ z ∈ l
  | [] => by simp [insC]
  | y :: r => by
    unfold insC
    split
    · rw [List.mem_cons]
    · split
      · next h => rw [he _ _ h, List.mem_cons]; constructor
                  · exact fun h => .inr h
                  · rintro (h | h)
                    · exact .inl h
                    · exact h
      · rw [List.mem_cons, mem_insC he, List.mem_cons]
        constructor
        · rintro (h | h | h)
          · exact .inr (.inl h)
          · exact .inl h
          · exact .inr (.inr h)
        · rintro (h | h | h)
          · exact .inr (.inl h)
          · exact .inl h
          · exact .inr (.inr h)
theorem insC_pw {c : α → α → Int} (hc : Cmp c) (he : ∀ x y, c x y = 0 → x = y) {x : α} : ∀ {l : List α}, l.Pairwise (fun a b => c a b < 0) → (insC c x l).Pairwise (fun a b => c a b < 0)
  | [], _ => List.pairwise_singleton _ _
  | y :: r, h => by
    obtain ⟨h1, h2⟩ := List.pairwise_cons.1 h
    unfold insC
    split
    · next hx =>
      refine List.pairwise_cons.2 ⟨fun z hz => ?_, h⟩
      rcases List.mem_cons.1 hz with e | e
      · subst e; exact hx
      · exact hc.trans _ _ _ hx (h1 z e)
    · split
      · exact h
      · next g1 g2 =>
        refine List.pairwise_cons.2 ⟨fun z hz => ?_, insC_pw hc he h2⟩
        rcases (mem_insC he).1 hz with e | e
        · subst e; have := hc.anti y z; omega
        · exact h1 z e
theorem mem_sset {c : α → α → Int} (he : ∀ x y, c x y = 0 → x = y) {z : α} : ∀ {l : List α}, z ∈ sset c l ↔ z ∈ l
  | [] => Iff.rfl
  | y :: r => by
    show z ∈ insC c y (sset c r) ↔ _
    rw [mem_insC he, mem_sset he, List.mem_cons]
theorem sset_pw {c : α → α → Int} (hc : Cmp c) (he : ∀ x y, c x y = 0 → x = y) : ∀ (l : List α), (sset c l).Pairwise (fun a b => c a b < 0)
  | [] => List.Pairwise.nil
  | y :: r => insC_pw hc he (sset_pw hc he r)
theorem insC_len (c : α → α → Int) (x : α) : ∀ (l : List α), (insC c x l).length ≤ l.length + 1
  | [] => Nat.le_refl _
  | y :: r => by
    unfold insC
    split
    · exact Nat.le_refl _
    · split
      · exact Nat.le_succ _
      · have := insC_len c x r
        simp only [List.length_cons]; omega
theorem sset_len (c : α → α → Int) : ∀ (l : List α), (sset c l).length ≤ l.length
  | [] => Nat.le_refl _
  | y :: r => by
    have h1 := insC_len c y (sset c r)
    have h2 := sset_len c r
    show (insC c y (sset c r)).length ≤ _
    simp only [List.length_cons]; omega
/-- sorted, and each once -/
theorem Cmp.ok {c : α → α → Int} (hc : Cmp c) {f : α → α → Option Int} {P : α → Prop} (hf : ∀ x y, P x → P y → f x y = some (c x y)) : CmpOK P f (fun x y => decide (c x y < 0)) := by
  refine ⟨fun x y h1 h2 => ⟨_, hf x y h1 h2, rfl⟩, fun x _ => by have := hc.refl x; simp; omega, fun x y z _ _ _ h1 h2 => ?_, fun x y z _ _ _ h1 h2 => ?_⟩
  · simp only [decide_eq_true_eq] at *
    exact hc.trans x y z h1 h2
  · simp only [decide_eq_false_iff_not] at *
    intro h
    have a1 := hc.anti x y
    have a2 := hc.anti y z
    have a3 := hc.anti x z
    by_cases e : c y x = 0
    · have := hc.eq0 y x e z
      omega
    · exact h2 (hc.trans y x z (by omega) h)
theorem SR.cpw {c : α → α → Int} (hc : Cmp c) {l : List α} (h : SR (fun x y => decide (c x y < 0)) 0 l.length l) : l.Pairwise (fun s t => c s t ≤ 0) := by
  rw [List.pairwise_iff_getElem]
  intro i j hi hj hij
  have := h i j _ _ (Nat.zero_le _) hij hj (some_at hi) (some_at hj)
  simp only [decide_eq_false_iff_not] at this
  have := hc.anti l[i] l[j]
  omega
theorem cpN_set {c : α → α → Int} (hc : Cmp c) (he : ∀ x y, c x y = 0 → x = y) {eq : α → α → Bool} {s : List α} (hq : ∀ x ∈ s, ∀ y ∈ s, (eq x y = true ↔ x = y)) (hs : s.Pairwise (fun s t => c s t ≤ 0)) :
    ∀ n, n ≤ s.length → (cpN eq s n).Pairwise (fun a b => c a b < 0) ∧ ∀ x, x ∈ cpN eq s n ↔ x ∈ s.take n
  | 0, _ => ⟨List.Pairwise.nil, fun x => by simp [cpN]⟩
  | n + 1, h => by
    obtain ⟨h1, h2⟩ := cpN_set hc he hq hs n (by omega)
    have hn : n < s.length := by omega
    rcases Nat.eq_zero_or_pos n with h0 | h0
    · subst h0
      rw [cpN_zero eq (by omega)]
      refine ⟨List.pairwise_singleton _ _, fun x => ?_⟩
      rw [take_one hn]; simp
    · rw [cpN_one eq hn h0, take_one hn]
      have hp := List.pairwise_iff_getElem.1 hs
      have hne := hp (n - 1) n (by omega) hn (by omega)
      by_cases hc' : eq s[n] (s[n - 1]'(by omega)) = true
      · have hx := (hq _ (List.getElem_mem _) _ (List.getElem_mem _)).1 hc'
        rw [if_pos hc', List.append_nil]
        refine ⟨h1, fun x => ?_⟩
        rw [List.mem_append, h2]
        refine ⟨fun h => .inl h, fun h => ?_⟩
        rcases h with h | h
        · exact h
        · rcases List.mem_singleton.1 h with rfl
          rw [hx]
          obtain ⟨q, hq'⟩ : ∃ q, n = q + 1 := ⟨n - 1, by omega⟩
          subst hq'
          simp only [Nat.add_sub_cancel]
          rw [take_one (xs := s) (i := q) (by omega)]
          exact List.mem_append_right _ List.mem_cons_self
      · rw [if_neg hc']
        refine ⟨List.pairwise_append.2 ⟨h1, List.pairwise_singleton _ _, fun a ha b hb => ?_⟩, fun x => by rw [List.mem_append, h2, List.mem_append]⟩
        rcases List.mem_singleton.1 hb with rfl
        have hlt : c (s[n - 1]'(by omega)) s[n] < 0 := by
          rcases Int.lt_or_eq_of_le hne with h | h
          · exact h
          · exact absurd ((hq _ (List.getElem_mem _) _ (List.getElem_mem _)).2 (he _ _ h).symm) hc'
        obtain ⟨i, hi⟩ := List.mem_iff_getElem?.1 ((h2 a).1 ha)
        rw [List.getElem?_take] at hi
        split at hi
        · next hin =>
          obtain ⟨hil, hi'⟩ := at_some hi
          by_cases e : i = n - 1
          · subst e; rw [← hi']; exact hlt
          · have h3 := hp i (n - 1) hil (by omega) (by omega)
            rw [hi'] at h3
            rcases Int.lt_or_eq_of_le h3 with h | h
            · exact hc.trans _ _ _ h hlt
            · rw [he _ _ h]; exact hlt
        · cases hi
theorem setsort_spec {c : α → α → Int} (hc : Cmp c) (he : ∀ x y, c x y = 0 → x = y) {f : α → α → Option Int} {g : α → α → Option Bool} {eq : α → α → Bool} (z : α) {l : List α}
    {P : α → Prop} (hP : ∀ x ∈ l, P x) (hf : ∀ x y, P x → P y → f x y = some (c x y)) (hg : ∀ x y, P x → P y → g x y = some (eq x y)) (hq : ∀ x y, P x → P y → (eq x y = true ↔ x = y)) (hl : l.length < 1000000) :
    ∃ m, sortP l f = some m ∧ compact_G z g m = some (sset c l) := by
  obtain ⟨m, em, hp, hn, hs⟩ := sort_spec (hc.ok hf) hP (by omega)
  have hPm : ∀ x ∈ m, P x := fun x hx => hP x (hp.mem_iff.1 hx)
  refine ⟨m, em, ?_⟩
  rw [compact_spec z (fun x hx y hy => hg x y (hPm x hx) (hPm y hy)) (by omega)]
  rw [← hn] at hs
  obtain ⟨h1, h2⟩ := cpN_set hc he (fun x hx y hy => hq x y (hPm x hx) (hPm y hy)) (hs.cpw hc) m.length (Nat.le_refl _)
  rw [asc_uniq hc h1 (sset_pw hc he l) fun x => ?_]
  rw [h2, List.take_of_length_le (Nat.le_refl _), mem_sset he, hp.mem_iff]
end
end Go.Proofs.YtmlekplbmfengaaGreat.Sh

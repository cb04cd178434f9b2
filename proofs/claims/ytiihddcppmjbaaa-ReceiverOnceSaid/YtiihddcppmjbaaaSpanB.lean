/- Code and reference of the sets of spans give the same (chapter 8). -/
import Derived.Test.YtiihddcppmjbaaaSpanC
namespace Go.Proofs.Ytiihddcppmjbaaa.Sh
open Go
set_option linter.unusedVariables false
set_option linter.unusedSimpArgs false

theorem both_normal {l : List Span} (h : l.length < 50) : ∃ r, span_Normal l = some r ∧ ref08_Normal l = some r ∧ NS l r := by
  obtain ⟨r, e, hr⟩ := normal_spec h
  obtain ⟨s, e', hs⟩ := rnormal_spec (l := l) (by omega)
  obtain rfl := hr.uniq hs
  exact ⟨r, e, e', hr⟩
theorem both_union {a b : List Span} (h : a.length + b.length < 50) : ∃ r, span_Union a b = some r ∧ ref08_Union a b = some r ∧ r.length ≤ 1000 := by
  obtain ⟨r, e, hr⟩ := union_spec h
  obtain ⟨s, e', hs⟩ := runion_spec (a := a) (b := b) (by omega)
  obtain rfl := hr.uniq hs
  have := hr.len
  rw [List.length_append] at this
  exact ⟨r, e, e', by omega⟩
theorem both_meet {a b : List Span} (ha : a.length < 50) (hb : b.length < 50) : ∃ r, span_Meet a b = some r ∧ ref08_Meet a b = some r ∧ r.length ≤ 1000 := by
  obtain ⟨r, e, hr⟩ := meet_spec ha hb
  obtain ⟨s, e', hv, hs⟩ := rmeet_spec (a := a) (b := b) (by omega) (by omega)
  obtain rfl := hr.vs.uniq hv fun z => (hr.mem z).trans (hs z).symm
  have := hr.len
  exact ⟨r, e, e', by omega⟩
theorem minus6 {p q o : List Span} {i : Int} {x : Span} (hx : ix p i = some x) : ref08_Minus_l6 p q (o, i) = span_Minus_l6 q x := by
  funext s
  unfold ref08_Minus_l6 span_Minus_l6 ref08_Minus_j2 span_Minus_j2 ref08_Minus_j1 span_Minus_j1
  simp only [hx, Option.bind_some]
  cases hk : ix q s.2.2 with
  | none => rfl
  | some y =>
    simp only [Option.bind_some]
    by_cases h1 : y.To ≤ s.2.1
    · simp [h1]
    · by_cases h2 : x.To ≤ y.From
      · simp [h1, h2]
      · simp [h1, h2]
theorem minus3 (p q : List Span) : ref08_Minus_l3 p q = span_Minus_l3 q p := by
  funext s
  unfold ref08_Minus_l3 span_Minus_l3 ref08_Minus_j4 span_Minus_j4
  cases hk : ix p s.2 with
  | none => rfl
  | some x =>
    simp only [Option.bind_some]
    have e : s = (s.1, s.2) := rfl
    rw [e, minus6 hk]
theorem both_minus {a b : List Span} (ha : a.length < 50) (hb : b.length < 50) : ∃ r, span_Minus a b = some r ∧ ref08_Minus a b = some r ∧ r.length ≤ 100000 := by
  obtain ⟨r, e, hr⟩ := minus_spec ha hb
  obtain ⟨p, e1, e2, hp⟩ := both_normal ha
  obtain ⟨q, e3, e4, hq⟩ := both_normal hb
  have hl : a.length * (b.length + 1) ≤ 50 * 51 := Nat.mul_le_mul (by omega) (by omega)
  refine ⟨r, e, ?_, by have := hr.len; omega⟩
  unfold span_Minus at e
  rw [e1, e3] at e
  unfold ref08_Minus
  rw [e2, e4]
  simp only [Option.bind_some] at e ⊢
  rw [minus3]
  exact e
theorem valid2 (l : List Span) : ref08_Valid_l2 l = span_Valid_l2 l := by
  funext k
  unfold ref08_Valid_l2 span_Valid_l2 span_some
  cases hk : ix l k with
  | none => rfl
  | some x =>
    simp only [Option.bind_some]
    have e : (decide (x.To ≤ x.From)) = (!decide (x.From < x.To)) := by
      rw [Bool.eq_iff_iff]; simp
    rw [e]
theorem both_valid {l : List Span} (h : l.length < 50) : ∃ c, span_Valid l = some c ∧ ref08_Valid l = some c := by
  have hv : ref08_Valid l = span_Valid l := by unfold ref08_Valid span_Valid; rw [valid2]
  rw [hv]
  obtain ⟨r, er, _⟩ := loop_foldE (body := span_Valid_l2 l) (fun (_ : Unit) i => i) l.length (fun i _ => True) (fun r => True) (fun i hi a hI => by
    unfold span_Valid_l2
    rw [if_pos (decide_eq_true (by omega)), ix_nat _ _ hi]
    simp only [Option.bind_some]
    have hs : span_some l[i] = some (decide (l[i].From < l[i].To)) := rfl
    rw [hs, w64_n (by omega)]
    simp only [Option.bind_some]
    by_cases h1 : l[i].From < l[i].To
    · rw [decide_eq_true h1, if_neg (by decide)]
      by_cases h0 : 0 < i
      · have e1 : w64 ((i : Int) - 1) = ((i - 1 : Nat) : Int) := w64_nat (by omega) (by omega)
        rw [if_pos (decide_eq_true (by omega)), e1, ix_nat l (i - 1) (by omega)]
        simp only [Option.bind_some]
        by_cases h2 : l[i].From ≤ l[i - 1].To
        · rw [if_pos (decide_eq_true h2)]
          exact .inr ⟨_, rfl, trivial⟩
        · rw [if_neg (by simpa using h2)]
          exact .inl ⟨(), rfl, trivial⟩
      · rw [if_neg (by simp; omega)]
        exact .inl ⟨(), rfl, trivial⟩
    · rw [decide_eq_false h1, if_pos (by decide)]
      exact .inr ⟨_, rfl, trivial⟩) (fun a hI => by
    unfold span_Valid_l2
    rw [if_neg (by simp)]
    exact ⟨_, rfl, trivial⟩) () trivial
  exact ⟨r, er, er⟩
theorem both_has {l : List Span} (h : l.length < 50) (x : Int) : ∃ c, span_Has l x = some c ∧ ref08_Has l x = some c := by
  obtain ⟨c, e, hc⟩ := has_spec l x (by omega)
  obtain ⟨d, e', hd⟩ := rhas_spec l x (by omega)
  have : c = d := by rw [Bool.eq_iff_iff, hc, hd]
  subst this
  exact ⟨c, e, e'⟩
theorem both_first {l : List Span} (h : l.length < 50) (n : Int) : ∃ r, span_First l n = some r ∧ ref08_First l n = some r ∧ r.length ≤ 1000 := by
  obtain ⟨p, e1, e2, hp⟩ := both_normal h
  have hl := hp.len
  obtain ⟨r, q, er, eq, hrq⟩ := sim (b1 := span_First_l1 p) (b2 := ref08_First_l1 p) (fun k s t => s = t ∧ ∃ i : Nat, s.2.2 = (i : Int) ∧ i ≤ p.length ∧ k + i = p.length ∧ s.2.1.length ≤ i) (fun r q => r = q ∧ r.length ≤ 1000) (by
    rintro k ⟨m, out, i'⟩ t ⟨rfl, i, hi', h1, h2, h3⟩
    simp only at hi' h3
    subst hi'
    unfold span_First_l1 ref08_First_l1 span_First_j1 ref08_First_j1
    simp only
    by_cases hi : i < p.length
    · rw [if_pos (decide_eq_true (show (i : Int) < (p.length : Int) by omega)), ix_nat _ _ hi, w64_n (n := i) (by omega)]
      simp only [Option.bind_some]
      by_cases hm : m < 1
      · rw [if_pos (decide_eq_true hm), if_neg (show ¬ ((decide ((i : Int) < (p.length : Int)) && decide (0 < m)) = true) by simp; omega)]
        exact .inr ⟨_, _, rfl, rfl, rfl, by omega⟩
      · rw [if_neg (show ¬ (decide (m < 1) = true) by simpa using hm), if_pos (show (decide ((i : Int) < (p.length : Int)) && decide (0 < m)) = true by simp; omega)]
        left
        split
        · rw [appM_one _ _ _ (by simp; omega) (by decide)]
          exact ⟨_, _, k - 1, rfl, rfl, ⟨rfl, i + 1, rfl, by omega, by omega, by simp; omega⟩, by omega⟩
        · rw [appM_one _ _ _ (by simp; omega) (by decide)]
          exact ⟨_, _, k - 1, rfl, rfl, ⟨rfl, i + 1, rfl, by omega, by omega, by simp; omega⟩, by omega⟩
    · rw [if_neg (show ¬ (decide ((i : Int) < (p.length : Int)) = true) by simp; omega), if_neg (show ¬ ((decide ((i : Int) < (p.length : Int)) && decide (0 < m)) = true) by simp; omega)]
      exact .inr ⟨_, _, rfl, rfl, rfl, by omega⟩) p.length (n, [], 0) (n, [], 0) ⟨rfl, 0, rfl, Nat.zero_le _, by omega, Nat.le_refl _⟩
  obtain ⟨rfl, hr⟩ := hrq
  refine ⟨r, ?_, ?_, hr⟩
  · unfold span_First
    rw [e1]
    simp only [Option.bind_some]
    rw [er]
    rfl
  · unfold ref08_First
    rw [e2]
    simp only [Option.bind_some]
    rw [eq]
    rfl
theorem loop_const {β : Type} {body : Int → Option (Int ⊕ β)} (n : Nat) (r : β) (h : ∀ i : Nat, i < n → body (i : Int) = some (.inl ((i + 1 : Nat) : Int))) (he : body (n : Int) = some (.inr r)) : whileM body 0 = some r :=
  whileM_for' (fun i => (i : Int)) n r rfl h he


end Go.Proofs.Ytiihddcppmjbaaa.Sh

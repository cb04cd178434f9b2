/- The law SpanExact as a plain program: it is true at every input. -/
import Derived.Test.YtmdnhgjpkdainaaSpanL
namespace Go.Proofs.Ytmdnhgjpkdainaa.Sh
open Go
set_option linter.unusedVariables false
set_option linter.unusedSimpArgs false

/-! ### code and reference, function by function -/
theorem both_normal {l : List Span} (h : l.length < 50) : ∃ r, span_Normal l = some r ∧ ref08_Normal l = some r ∧ NS l r := by
  obtain ⟨r, e, hr⟩ := normal_spec h
  obtain ⟨s, e', hs⟩ := rnormal_spec (l := l) (by omega)
  obtain rfl := hr.uniq hs
  exact ⟨r, e, e', hr⟩
theorem both_union {a b : List Span} (h : a.length + b.length < 50) : ∃ r, span_Union a b = some r ∧ ref08_Union a b = some r ∧ r.length ≤ 1000 := by
  obtain ⟨r, e, hr⟩ := union_spec h
  obtain ⟨s, e', hs⟩ := runion_spec (a := a) (b := b) (by omega)
  obtain rfl := hr.uniq hs
  have := hr.len
  rw [List.length_append] at this
  exact ⟨r, e, e', by omega⟩
theorem both_meet {a b : List Span} (ha : a.length < 50) (hb : b.length < 50) : ∃ r, span_Meet a b = some r ∧ ref08_Meet a b = some r ∧ r.length ≤ 1000 := by
  obtain ⟨r, e, hr⟩ := meet_spec ha hb
  obtain ⟨s, e', hv, hs⟩ := rmeet_spec (a := a) (b := b) (by omega) (by omega)
  obtain rfl := hr.vs.uniq hv fun z => (hr.mem z).trans (hs z).symm
  have := hr.len
  exact ⟨r, e, e', by omega⟩
theorem both_cut {a : List Span} (ha : a.length < 50) (x y : Int) : ∃ r, span_Cut a x y = some r ∧ ref08_Cut a x y = some r ∧ r.length ≤ 1000 := by
  obtain ⟨r, e, e', h⟩ := both_meet (a := a) (b := [⟨x, y⟩]) ha (by simp)
  exact ⟨r, by unfold span_Cut; rw [e]; rfl, by unfold ref08_Cut; rw [e']; rfl, h⟩
theorem minus6 {p q o : List Span} {i : Int} {x : Span} (hx : ix p i = some x) : ref08_Minus_l6 p q (o, i) = span_Minus_l6 q x := by
  funext s
  unfold ref08_Minus_l6 span_Minus_l6 ref08_Minus_j2 span_Minus_j2 ref08_Minus_j1 span_Minus_j1
  simp only [hx, Option.bind_some]
  cases hk : ix q s.2.2 with
  | none => rfl
  | some y =>
    simp only [Option.bind_some]
    by_cases h1 : y.To ≤ s.2.1
    · simp [h1]
    · by_cases h2 : x.To ≤ y.From
      · simp [h1, h2]
      · simp [h1, h2]
theorem minus3 (p q : List Span) : ref08_Minus_l3 p q = span_Minus_l3 q p := by
  funext s
  unfold ref08_Minus_l3 span_Minus_l3 ref08_Minus_j4 span_Minus_j4
  cases hk : ix p s.2 with
  | none => rfl
  | some x =>
    simp only [Option.bind_some]
    have e : s = (s.1, s.2) := rfl
    rw [e, minus6 hk]
theorem both_minus {a b : List Span} (ha : a.length < 50) (hb : b.length < 50) : ∃ r, span_Minus a b = some r ∧ ref08_Minus a b = some r ∧ r.length ≤ 100000 := by
  obtain ⟨r, e, hr⟩ := minus_spec ha hb
  obtain ⟨p, e1, e2, hp⟩ := both_normal ha
  obtain ⟨q, e3, e4, hq⟩ := both_normal hb
  have hl : a.length * (b.length + 1) ≤ 50 * 51 := Nat.mul_le_mul (by omega) (by omega)
  refine ⟨r, e, ?_, by have := hr.len; omega⟩
  unfold span_Minus at e
  rw [e1, e3] at e
  unfold ref08_Minus
  rw [e2, e4]
  simp only [Option.bind_some] at e ⊢
  rw [minus3]
  exact e
theorem valid2 (l : List Span) : ref08_Valid_l2 l = span_Valid_l2 l := by
  funext k
  unfold ref08_Valid_l2 span_Valid_l2 span_some
  cases hk : ix l k with
  | none => rfl
  | some x =>
    simp only [Option.bind_some]
    have e : (decide (x.To ≤ x.From)) = (!decide (x.From < x.To)) := by
      rw [Bool.eq_iff_iff]; simp
    rw [e]
theorem both_valid {l : List Span} (h : l.length < 50) : ∃ c, span_Valid l = some c ∧ ref08_Valid l = some c := by
  have hv : ref08_Valid l = span_Valid l := by unfold ref08_Valid span_Valid; rw [valid2]
  rw [hv]
  obtain ⟨r, er, _⟩ := loop_foldE (body := span_Valid_l2 l) (fun (_ : Unit) i => i) l.length (fun i _ => True) (fun r => True) (fun i hi a hI => by
    unfold span_Valid_l2
    rw [if_pos (decide_eq_true (by omega)), ix_nat _ _ hi]
    simp only [Option.bind_some]
    have hs : span_some l[i] = some (decide (l[i].From < l[i].To)) := rfl
    rw [hs, w64_n (by omega)]
    simp only [Option.bind_some]
    by_cases h1 : l[i].From < l[i].To
    · rw [decide_eq_true h1, if_neg (by decide)]
      by_cases h0 : 0 < i
      · have e1 : w64 ((i : Int) - 1) = ((i - 1 : Nat) : Int) := w64_nat (by omega) (by omega)
        rw [if_pos (decide_eq_true (by omega)), e1, ix_nat l (i - 1) (by omega)]
        simp only [Option.bind_some]
        by_cases h2 : l[i].From ≤ l[i - 1].To
        · rw [if_pos (decide_eq_true h2)]
          exact .inr ⟨_, rfl, trivial⟩
        · rw [if_neg (by simpa using h2)]
          exact .inl ⟨(), rfl, trivial⟩
      · rw [if_neg (by simp; omega)]
        exact .inl ⟨(), rfl, trivial⟩
    · rw [decide_eq_false h1, if_pos (by decide)]
      exact .inr ⟨_, rfl, trivial⟩) (fun a hI => by
    unfold span_Valid_l2
    rw [if_neg (by simp)]
    exact ⟨_, rfl, trivial⟩) () trivial
  exact ⟨r, er, er⟩
theorem both_has {l : List Span} (h : l.length < 50) (x : Int) : ∃ c, span_Has l x = some c ∧ ref08_Has l x = some c := by
  obtain ⟨c, e, hc⟩ := has_spec l x (by omega)
  obtain ⟨d, e', hd⟩ := rhas_spec l x (by omega)
  have : c = d := by rw [Bool.eq_iff_iff, hc, hd]
  subst this
  exact ⟨c, e, e'⟩
theorem both_first {l : List Span} (h : l.length < 50) (n : Int) : ∃ r, span_First l n = some r ∧ ref08_First l n = some r ∧ r.length ≤ 1000 := by
  obtain ⟨p, e1, e2, hp⟩ := both_normal h
  have hl := hp.len
  obtain ⟨r, q, er, eq, hrq⟩ := sim (b1 := span_First_l1 p) (b2 := ref08_First_l1 p) (fun k s t => s = t ∧ ∃ i : Nat, s.2.2 = (i : Int) ∧ i ≤ p.length ∧ k + i = p.length ∧ s.2.1.length ≤ i) (fun r q => r = q ∧ r.length ≤ 1000) (by
    rintro k ⟨m, out, i'⟩ t ⟨rfl, i, hi', h1, h2, h3⟩
    simp only at hi' h3
    subst hi'
    unfold span_First_l1 ref08_First_l1 span_First_j1 ref08_First_j1
    simp only
    by_cases hi : i < p.length
    · rw [if_pos (decide_eq_true (show (i : Int) < (p.length : Int) by omega)), ix_nat _ _ hi, w64_n (n := i) (by omega)]
      simp only [Option.bind_some]
      by_cases hm : m < 1
      · rw [if_pos (decide_eq_true hm), if_neg (show ¬ ((decide ((i : Int) < (p.length : Int)) && decide (0 < m)) = true) by simp; omega)]
        exact .inr ⟨_, _, rfl, rfl, rfl, by omega⟩
      · rw [if_neg (show ¬ (decide (m < 1) = true) by simpa using hm), if_pos (show (decide ((i : Int) < (p.length : Int)) && decide (0 < m)) = true by simp; omega)]
        left
        split
        · rw [appM_one _ _ _ (by simp; omega) (by decide)]
          exact ⟨_, _, k - 1, rfl, rfl, ⟨rfl, i + 1, rfl, by omega, by omega, by simp; omega⟩, by omega⟩
        · rw [appM_one _ _ _ (by simp; omega) (by decide)]
          exact ⟨_, _, k - 1, rfl, rfl, ⟨rfl, i + 1, rfl, by omega, by omega, by simp; omega⟩, by omega⟩
    · rw [if_neg (show ¬ (decide ((i : Int) < (p.length : Int)) = true) by simp; omega), if_neg (show ¬ ((decide ((i : Int) < (p.length : Int)) && decide (0 < m)) = true) by simp; omega)]
      exact .inr ⟨_, _, rfl, rfl, rfl, by omega⟩) p.length (n, [], 0) (n, [], 0) ⟨rfl, 0, rfl, Nat.zero_le _, by omega, Nat.le_refl _⟩
  obtain ⟨rfl, hr⟩ := hrq
  refine ⟨r, ?_, ?_, hr⟩
  · unfold span_First
    rw [e1]
    simp only [Option.bind_some]
    rw [er]
    rfl
  · unfold ref08_First
    rw [e2]
    simp only [Option.bind_some]
    rw [eq]
    rfl
theorem near_iff {r : List Span} (hv : VS r) (hl : r.length < 50) : ∃ c, span_near r = some c ∧ (c = true ↔ EB (-1152921504606846976) 1152921504606846976 r) := by
  by_cases he : EB (-1152921504606846976) 1152921504606846976 r
  · exact ⟨true, near_true he (by omega), fun _ => he, fun _ => rfl⟩
  · refine ⟨false, ?_, fun h => (by cases h), fun h => absurd h he⟩
    unfold span_near
    cases r with
    | nil => exact absurd (fun s hs => (by cases hs)) he
    | cons s l =>
      rw [if_neg (by simp <;> omega)]
      have e0 : ix (s :: l) 0 = some s := rfl
      rw [e0]
      simp only [Option.bind_some]
      by_cases h1 : -1152921504606846976 ≤ s.From
      · rw [if_pos (decide_eq_true h1)]
        have e1 : w64 (((s :: l).length : Int) - 1) = (((s :: l).length - 1 : Nat) : Int) := w64_nat (by simp) (by simp at hl ⊢; omega)
        rw [e1, ix_nat _ _ (by simp)]
        simp only [Option.bind_some]
        by_cases h2 : (s :: l)[(s :: l).length - 1].To ≤ 1152921504606846976
        · refine absurd (fun t ht => ?_) he
          have g0 := hv.ne t ht
          have g1 : s.From ≤ t.From := hv.low ⟨t, ht, Int.le_refl _, g0⟩
          have g2 : t.To ≤ (s :: l)[(s :: l).length - 1].To := by
            obtain ⟨i, hi, rfl⟩ := List.getElem_of_mem ht
            by_cases hlast : i = (s :: l).length - 1
            · subst hlast; exact Int.le_refl _
            · have k1 := List.pairwise_iff_getElem.1 hv.ap i ((s :: l).length - 1) hi (by simp) (by omega)
              have k2 := hv.ne _ (List.getElem_mem (show (s :: l).length - 1 < (s :: l).length by simp))
              omega
          omega
        · rw [decide_eq_false h2]
      · rw [if_neg (by simpa using h1)]
        rfl
theorem rnear_iff {r : List Span} (hl : r.length < 50) : ∃ c, ref08_near r = some c ∧ (c = true ↔ EB (-1152921504606846976) 1152921504606846976 r) := by
  unfold ref08_near
  refine loop_foldE (fun (_ : Unit) i => i) r.length (fun i _ => EB (-1152921504606846976) 1152921504606846976 (r.take i)) _ (fun i hi a hI => ?_) (fun a hI => ?_) () (fun s hs => by simp at hs)
  · unfold ref08_near_l2 ref01_In
    rw [if_pos (decide_eq_true (by omega)), ix_nat _ _ hi, w64_n (by omega)]
    simp only [Option.bind_some]
    by_cases h1 : -1152921504606846976 ≤ r[i].From ∧ r[i].From ≤ 1152921504606846976
    · by_cases h2 : -1152921504606846976 ≤ r[i].To ∧ r[i].To ≤ 1152921504606846976
      · left
        refine ⟨(), ?_, ?_⟩
        · simp only [decide_eq_true h1.1, decide_eq_true h1.2, decide_eq_true h2.1, decide_eq_true h2.2, Bool.and_self, Bool.not_true, Bool.false_eq_true, if_false, Option.bind_some]
        · rw [take_one hi]
          exact hI.app (EB.one ⟨h1, h2⟩)
      · right
        have e2 : (decide (-1152921504606846976 ≤ r[i].To) && decide (r[i].To ≤ 1152921504606846976)) = false := by
          rw [Bool.and_eq_false_iff]; simp; omega
        refine ⟨false, ?_, fun h => (by cases h), fun h => absurd (h _ (List.getElem_mem hi)).2 h2⟩
        simp only [decide_eq_true h1.1, decide_eq_true h1.2, e2, Bool.and_self, Bool.not_true, Bool.not_false, Bool.false_eq_true, if_false, if_true, Option.bind_some]
    · right
      have e1 : (decide (-1152921504606846976 ≤ r[i].From) && decide (r[i].From ≤ 1152921504606846976)) = false := by
        rw [Bool.and_eq_false_iff]; simp; omega
      refine ⟨false, ?_, fun h => (by cases h), fun h => absurd (h _ (List.getElem_mem hi)).1 h1⟩
      simp only [e1, Bool.not_false, if_true, Option.bind_some]
  · unfold ref08_near_l2
    rw [if_neg (by simp)]
    rw [List.take_of_length_le (Nat.le_refl _)] at hI
    exact ⟨true, rfl, fun _ => hI, fun _ => rfl⟩
theorem both_near {r : List Span} (hv : VS r) (hl : r.length < 50) : ∃ c, span_near r = some c ∧ ref08_near r = some c := by
  obtain ⟨c, e, hc⟩ := near_iff hv hl
  obtain ⟨d, e', hd⟩ := rnear_iff hl
  have : c = d := by rw [Bool.eq_iff_iff, hc, hd]
  subst this
  exact ⟨c, e, e'⟩
theorem both_shift {l : List Span} (h : l.length < 50) (k : Int) : ∃ r e, span_Shift l k = some (r, e) ∧ ref08_Shift l k = some (r, e) ∧ r.length ≤ 1000 := by
  obtain ⟨p, e1, e2, hp⟩ := both_normal h
  have hl := hp.len
  obtain ⟨c, e3, e4⟩ := both_near hp.vs (by omega)
  obtain ⟨r, q, er, eq, hrq⟩ := sim (b1 := span_Shift_l1 k p) (b2 := ref08_Shift_l1 k) (fun n s t => s = t ∧ ∃ i : Nat, s.2 = (i : Int) ∧ n + i = p.length ∧ s.1.length = p.length) (fun r q => r = q ∧ r.length = p.length) (by
    rintro n ⟨out, i'⟩ t ⟨rfl, i, hi', h2, h3⟩
    simp only at hi' h3
    subst hi'
    unfold span_Shift_l1 ref08_Shift_l1
    simp only
    rw [h3]
    by_cases hi : i < p.length
    · left
      have hc : decide ((i : Int) < (p.length : Int)) = true := decide_eq_true (by omega)
      rw [if_pos hc, if_pos hc, ix_nat out i (by omega), w64_n (n := i) (by omega)]
      simp only [Option.bind_some]
      rw [setM_at _ _ _ (by omega) (by omega)]
      simp only [Option.bind_some, Int.toNat_natCast]
      rw [ix_nat _ i (by simp; omega)]
      simp only [Option.bind_some, List.getElem_set_self]
      rw [setM_at _ _ _ (by omega) (by simp; omega)]
      simp only [Option.bind_some, Int.toNat_natCast]
      exact ⟨_, _, n - 1, rfl, rfl, ⟨rfl, i + 1, rfl, by omega, by simp; omega⟩, by omega⟩
    · right
      have hc : ¬ (decide ((i : Int) < (p.length : Int)) = true) := by simp; omega
      rw [if_neg hc, if_neg hc]
      exact ⟨_, _, rfl, rfl, rfl, h3⟩) p.length (p, 0) (p, 0) ⟨rfl, 0, rfl, by omega, rfl⟩
  obtain ⟨rfl, hr⟩ := hrq
  unfold span_Shift ref08_Shift ref01_In
  rw [e1, e2]
  simp only [Option.bind_some]
  rw [e3, e4]
  have ht : (decide (k < -1152921504606846976) || decide (1152921504606846976 < k)) = !(decide (-1152921504606846976 ≤ k) && decide (k ≤ 1152921504606846976)) := by
    rw [Bool.eq_iff_iff]; simp <;> omega
  rw [ht]
  simp only [Option.bind_some]
  cases hb : !(decide (-1152921504606846976 ≤ k) && decide (k ≤ 1152921504606846976)) with
  | true => exact ⟨[], 2, rfl, rfl, by simp⟩
  | false =>
    simp only [Bool.false_eq_true, if_false, Option.bind_some]
    cases c with
    | true =>
      simp only [Bool.not_true, Bool.false_eq_true, if_false]
      rw [er, eq]
      exact ⟨r, 0, rfl, rfl, by omega⟩
    | false => exact ⟨[], 2, rfl, rfl, by simp⟩
theorem both_length {l : List Span} (h : l.length < 50) : ∃ n c, span_Length l = some (n, c) ∧ ref08_Length l = some (n, c) := by
  obtain ⟨p, e1, e2, hp⟩ := both_normal h
  have hl := hp.len
  obtain ⟨c, e3, e4⟩ := both_near hp.vs (by omega)
  obtain ⟨r, q, er, eq, rfl⟩ := sim (b1 := span_Length_l1 p) (b2 := ref08_Length_l1 p) (fun n s t => s = t ∧ ∃ i : Nat, s.2 = (i : Int) ∧ n + i = p.length) (fun r q => r = q) (by
    rintro n ⟨m, i'⟩ t ⟨rfl, i, hi', h2⟩
    simp only at hi'
    subst hi'
    unfold span_Length_l1 ref08_Length_l1
    simp only
    by_cases hi : i < p.length
    · left
      have hc : decide ((i : Int) < (p.length : Int)) = true := decide_eq_true (by omega)
      rw [if_pos hc, if_pos hc, ix_nat _ _ hi, w64_n (n := i) (by omega)]
      exact ⟨_, _, n - 1, rfl, rfl, ⟨rfl, i + 1, rfl, by omega⟩, by omega⟩
    · right
      have hc : ¬ (decide ((i : Int) < (p.length : Int)) = true) := by simp; omega
      rw [if_neg hc, if_neg hc]
      exact ⟨_, _, rfl, rfl, rfl⟩) p.length (0, 0) (0, 0) ⟨rfl, 0, rfl, by omega⟩
  unfold span_Length ref08_Length
  rw [e1, e2]
  simp only [Option.bind_some]
  rw [e3, e4]
  cases c with
  | false => exact ⟨0, false, rfl, rfl⟩
  | true =>
    simp only [Option.bind_some, Bool.not_true, Bool.false_eq_true, if_false]
    rw [er, eq]
    exact ⟨r, true, rfl, rfl⟩

/-! ### the law -/
theorem loop_const {β : Type} {body : Int → Option (Int ⊕ β)} (n : Nat) (r : β) (h : ∀ i : Nat, i < n → body (i : Int) = some (.inl ((i + 1 : Nat) : Int))) (he : body (n : Int) = some (.inr r)) : whileM body 0 = some r :=
  whileM_for' (fun i => (i : Int)) n r rfl h he

theorem e29 {p : List Span} (hp : p.length < 50) (k : Int) (sv : List Int × Int × Int) (q : List Span) (rv : Int × Dice) : whileM (law08_SpanExact_l29 k sv ⟨p, q⟩ rv) 0 = some (Sum.inl (rv.2.L, rv.2.At, w64 (sv.2.2 + 1))) := by
  refine loop_const 4 _ (fun i hi => ?_) ?_
  · unfold law08_SpanExact_l29
    rw [if_pos (by simp; omega), ix_nat _ _ (by simpa using hi)]
    simp only [Option.bind_some]
    obtain ⟨r, e, h1, h2, h3⟩ := both_shift hp ([k, w64 (rv.1 - 4), 1152921504606846976, 1152921504606846977] : List Int)[i]
    rw [h1, h2]
    simp only [Option.bind_some, bne_self_eq_false, Bool.false_eq_true, if_false]
    rw [same_refl r (by omega), w64_n (by omega)]
    rfl
  · unfold law08_SpanExact_l29
    rw [if_neg (by simp)]
    obtain ⟨n, c, h1, h2⟩ := both_length hp
    simp only
    rw [h1, h2]
    simp
theorem e27 {p : List Span} (hp : p.length < 50) (n k : Int) {sv : List Int × Int × Int} (q : List Span) {rv : Int × Dice} (hd : DOK rv.2) :
    ∃ d, DOK d ∧ whileM (law08_SpanExact_l27 n k sv ⟨p, q⟩ rv) 0 = some (Sum.inl (d.L, d.At, w64 (sv.2.2 + 1))) := by
  obtain ⟨x, d', ex, _, _, hd'⟩ := next_spec hd (n := 9) (by decide) (by decide)
  refine ⟨d', hd', loop_const 2 _ (fun i hi => ?_) ?_⟩
  · unfold law08_SpanExact_l27
    rw [if_pos (by simp; omega), ix_nat _ _ (by simpa using hi)]
    simp only [Option.bind_some]
    obtain ⟨r, h1, h2, h3⟩ := both_first hp ([n, w64 (rv.1 - 2)] : List Int)[i]
    rw [h1, h2]
    simp only [Option.bind_some]
    rw [same_refl r (by omega), w64_n (by omega)]
    rfl
  · unfold law08_SpanExact_l27
    rw [if_neg (by simp), ex]
    simp only [Option.bind_some]
    rw [e29 hp]
    rfl
theorem e25 {p : List Span} (hp : p.length < 50) (x n k : Int) {sv : List Int × Int × Int} (q : List Span) {rv : Int × Dice} (hd : DOK rv.2) :
    ∃ d, DOK d ∧ whileM (law08_SpanExact_l25 x n k sv ⟨p, q⟩ rv) 0 = some (Sum.inl (d.L, d.At, w64 (sv.2.2 + 1))) := by
  obtain ⟨y, d1, ey, _, _, hd1⟩ := next_spec hd (n := 20) (by decide) (by decide)
  obtain ⟨d2, hd2, e2⟩ := e27 (rv := (y, d1)) (sv := sv) hp n k q hd1
  refine ⟨d2, hd2, loop_const 2 _ (fun i hi => ?_) ?_⟩
  · unfold law08_SpanExact_l25
    rw [if_pos (by simp; omega), ix_nat _ _ (by simpa using hi)]
    simp only [Option.bind_some]
    obtain ⟨c, h1, h2⟩ := both_has hp ([x, w64 (rv.1 - 3)] : List Int)[i]
    obtain ⟨r, h3, h4, h5⟩ := both_cut hp ([x, w64 (rv.1 - 3)] : List Int)[i] n
    obtain ⟨s, h6, h7, h8⟩ := both_cut hp 5 ([x, w64 (rv.1 - 3)] : List Int)[i]
    simp only [h1, h2, h3, h4, h6, h7, Option.bind_some, beq_self_eq_true, Bool.not_true, Bool.false_eq_true, if_false, same_refl r (by omega), same_refl s (by omega)]
    rw [w64_n (by omega)]
  · unfold law08_SpanExact_l25
    rw [if_neg (by simp), ey]
    simp only [Option.bind_some]
    rw [e2]
    rfl
theorem e17 {p q : List Span} (hp : p.length + q.length < 50) (x n k : Int) {L : List Int} {A i : Int} (hd : DOK ⟨L, A⟩) (f : List Int × Int × Int → Option ((List Int × Int × Int) ⊕ Bool))
    (hf : f (L, A, i) = (span_Union p q).bind fun rv7421 =>
    (ref08_Union p q).bind fun rv7432 =>
    (ref08_Same rv7421 rv7432).bind fun rv7443 =>
    ((if (!rv7443) = true then
      some true
    else
      (span_Meet p q).bind fun rv7482 =>
      (ref08_Meet p q).bind fun rv7493 =>
      (ref08_Same rv7482 rv7493).bind fun rv7504 =>
      some (!rv7504))).bind fun c7479 =>
    ((if c7479 = true then
      some true
    else
      (span_Minus p q).bind fun rv7543 =>
      (ref08_Minus p q).bind fun rv7554 =>
      (ref08_Same rv7543 rv7554).bind fun rv7565 =>
      some (!rv7565))).bind fun c7540 =>
    ((if c7540 = true then
      some true
    else
      (span_Normal p).bind fun rv7604 =>
      (ref08_Normal p).bind fun rv7615 =>
      (ref08_Same rv7604 rv7615).bind fun rv7626 =>
      some (!rv7626))).bind fun c7601 =>
    ((if c7601 = true then
      some true
    else
      (span_Valid p).bind fun rv7650 =>
      (ref08_Valid p).bind fun rv7657 =>
      some (!(rv7650 == rv7657)))).bind fun c7647 =>
    (if c7647 = true then
      some (Sum.inr false)
    else
      (made_Dice_Next (⟨L, A⟩ : Dice) 40).bind fun rv7667 =>
      whileM (law08_SpanExact_l25 x n k (L, A, i) ⟨p, q⟩ rv7667) (0))) :
    ∃ d, DOK d ∧ f (L, A, i) = some (.inl (d.L, d.At, w64 (i + 1))) := by
  obtain ⟨u, a1, a2, a3⟩ := both_union hp
  obtain ⟨m, b1, b2, b3⟩ := both_meet (a := p) (b := q) (by omega) (by omega)
  obtain ⟨s, c1, c2, c3⟩ := both_minus (a := p) (b := q) (by omega) (by omega)
  obtain ⟨r, d1, d2, d3⟩ := both_normal (l := p) (by omega)
  obtain ⟨v, f1, f2⟩ := both_valid (l := p) (by omega)
  have hrl := d3.len
  obtain ⟨y, dd, ey, _, _, hdd⟩ := next_spec hd (n := 40) (by decide) (by decide)
  obtain ⟨d', hd', e⟩ := e25 (p := p) (rv := (y, dd)) (sv := (L, A, i)) (by omega) x n k q hdd
  refine ⟨d', hd', ?_⟩
  rw [hf]
  simp only [a1, a2, b1, b2, c1, c2, d1, d2, f1, f2, ey, e, Option.bind_some, same_refl u (by omega), same_refl m (by omega), same_refl s (by omega), same_refl r (by omega), Bool.not_true, Bool.false_eq_true, if_false, beq_self_eq_true]

theorem law08_SpanExact_true (t : List Int) (raw : List Span) (x n k : Int) (ht : ∀ x ∈ t, -9223372036854775808 ≤ x ∧ x ≤ 9223372036854775807) (_ : ∀ y ∈ raw, (-9223372036854775808 ≤ y.From ∧ y.From ≤ 9223372036854775807) ∧ (-9223372036854775808 ≤ y.To ∧ y.To ≤ 9223372036854775807)) (_ : -9223372036854775808 ≤ x ∧ x ≤ 9223372036854775807) (_ : -9223372036854775808 ≤ n ∧ n ≤ 9223372036854775807) (_ : -9223372036854775808 ≤ k ∧ k ≤ 9223372036854775807) : law08_SpanExact t raw x n k = some true := by
  unfold law08_SpanExact
  rw [light_spec]
  simp only [Option.bind_some]
  by_cases hl : t.length ≤ 500
  case neg => rw [decide_eq_false hl, sane_true]; rfl
  by_cases hr : raw.length ≤ 30
  case neg => rw [decide_eq_true hl, decide_eq_true (show (30 : Int) < (raw.length : Int) by omega), sane_true]; rfl
  rw [decide_eq_true hl, decide_eq_false (show ¬ (30 : Int) < (raw.length : Int) by omega)]
  simp only [Bool.not_true, Bool.or_self, Bool.false_eq_true, if_false, made_Roll, Option.bind_some]
  obtain ⟨a, d1, ea, la, ba, hd1⟩ := dspans (DOK.roll hl)
  obtain ⟨b, d2, eb, lb, bb, hd2⟩ := dspans hd1
  rw [ea]; simp only [Option.bind_some]
  rw [eb]; simp only [Option.bind_some]
  obtain ⟨d3, hd3, e1⟩ := e17 (p := a) (q := b) (by omega) x n k (L := d2.L) (A := d2.At) (i := 0) hd2 (law08_SpanExact_l17 raw x n k (a, d1) (b, d2)) rfl
  obtain ⟨d4, hd4, e2⟩ := e17 (p := raw) (q := a) (by omega) x n k (L := d3.L) (A := d3.At) (i := 1) hd3 (law08_SpanExact_l17 raw x n k (a, d1) (b, d2)) rfl
  obtain ⟨d5, hd5, e3⟩ := e17 (p := b) (q := raw) (by omega) x n k (L := d4.L) (A := d4.At) (i := 2) hd4 (law08_SpanExact_l17 raw x n k (a, d1) (b, d2)) rfl
  rw [whileM_eq, e1]
  simp only [Option.bind_some]
  rw [show w64 (0 + 1) = 1 by decide, whileM_eq, e2]
  simp only [Option.bind_some]
  rw [show w64 (1 + 1) = 2 by decide, whileM_eq, e3]
  simp only [Option.bind_some]
  rw [show w64 (2 + 1) = 3 by decide, whileM_eq]
  have e4 : law08_SpanExact_l17 raw x n k (a, d1) (b, d2) (d5.L, d5.At, 3) = some (.inr true) := by
    unfold law08_SpanExact_l17
    simp only
    rw [if_neg (by simp), sane_true]
    rfl
  rw [e4]
  rfl

end Go.Proofs.Ytmdnhgjpkdainaa.Sh

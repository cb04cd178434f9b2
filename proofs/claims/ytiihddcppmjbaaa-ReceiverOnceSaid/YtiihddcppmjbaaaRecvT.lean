/- Receivers: what is valid, and that code and reference give the same (chapter 11). -/
import Derived.Test.YtiihddcppmjbaaaSpanB
import Derived.Test.YtiihddcppmjbaaaDiceN
namespace Go.Proofs.Ytiihddcppmjbaaa.Sh
open Go
set_option linter.unusedVariables false
set_option linter.unusedSimpArgs false

theorem valid_vs {l : List Span} (hl : l.length ≤ 1000000) : ∃ c, span_Valid l = some c ∧ (c = true ↔ VS l) := by
  unfold span_Valid
  refine loop_foldE (body := span_Valid_l2 l) (fun (_ : Unit) i => i) l.length (fun i _ => VS (l.take i)) (fun c => c = true ↔ VS l) (fun i hi a hI => ?_) (fun a hI => ?_) () VS.nil
  · unfold span_Valid_l2
    rw [if_pos (decide_eq_true (by omega)), ix_nat _ _ hi]
    simp only [Option.bind_some]
    have hs : span_some l[i] = some (decide (l[i].From < l[i].To)) := rfl
    rw [hs, w64_n (by omega)]
    simp only [Option.bind_some]
    by_cases h1 : l[i].From < l[i].To
    · rw [decide_eq_true h1, if_neg (by decide)]
      by_cases h0 : 0 < i
      · have e1 : w64 ((i : Int) - 1) = ((i - 1 : Nat) : Int) := w64_nat (by omega) (by omega)
        rw [if_pos (decide_eq_true (by omega)), e1, ix_nat l (i - 1) (by omega)]
        simp only [Option.bind_some]
        by_cases h2 : l[i].From ≤ l[i - 1].To
        · rw [if_pos (decide_eq_true h2)]
          refine .inr ⟨_, rfl, fun h => (by cases h), fun h => ?_⟩
          have := List.pairwise_iff_getElem.1 h.ap (i - 1) i (by omega) hi (by omega)
          omega
        · rw [if_neg (by simpa using h2)]
          refine .inl ⟨(), rfl, ?_⟩
          rw [take_one hi]
          refine hI.snoc h1 (fun s hs => ?_)
          obtain ⟨j, hj, rfl⟩ := List.getElem_of_mem hs
          have hj' : j < i := by simp at hj; omega
          rw [List.getElem_take]
          by_cases hji : j = i - 1
          · subst hji; omega
          · have g1 := List.pairwise_iff_getElem.1 hI.ap j (i - 1) (by simp; omega) (by simp; omega) (by omega)
            have g2 := hI.ne _ (List.getElem_mem (l := l.take i) (n := i - 1) (by simp; omega))
            rw [List.getElem_take, List.getElem_take] at g1
            rw [List.getElem_take] at g2
            omega
      · rw [if_neg (by simp; omega)]
        refine .inl ⟨(), rfl, ?_⟩
        rw [take_one hi]
        have : i = 0 := by omega
        subst this
        exact VS.nil.snoc h1 (fun s hs => (by cases hs))
    · rw [decide_eq_false h1, if_pos (by decide)]
      exact .inr ⟨_, rfl, fun h => (by cases h), fun h => absurd (h.ne _ (List.getElem_mem hi)) h1⟩
  · unfold span_Valid_l2
    rw [if_neg (by simp)]
    rw [List.take_of_length_le (Nat.le_refl _)] at hI
    exact ⟨_, rfl, fun _ => hI, fun _ => rfl⟩

/-- a set of sequence numbers -/
def SQ (l : List Span) : Prop := VS l ∧ EB 0 1073741825 l
theorem vs_first {l : List Span} (h : VS l) (hn : 0 < l.length) : ∀ s ∈ l, l[0].From ≤ s.From ∧ s.To ≤ (l[l.length - 1]'(by omega)).To := fun s hs => by
  obtain ⟨j, hj, rfl⟩ := List.getElem_of_mem hs
  constructor
  · by_cases h0 : j = 0
    · subst h0; exact Int.le_refl _
    · have g1 := List.pairwise_iff_getElem.1 h.ap 0 j hn hj (by omega)
      have g2 := h.ne _ (List.getElem_mem hn)
      omega
  · by_cases h0 : j = l.length - 1
    · subst h0; exact Int.le_refl _
    · have g1 := List.pairwise_iff_getElem.1 h.ap j (l.length - 1) hj (by omega) (by omega)
      have g2 := h.ne _ (List.getElem_mem (show l.length - 1 < l.length by omega))
      omega
theorem set_sq {l : List Span} (hl : l.length ≤ 1000000) : ∃ c, receiver_set l = some c ∧ (c = true ↔ SQ l) := by
  obtain ⟨c, e, hc⟩ := valid_vs hl
  unfold receiver_set
  rw [e]
  simp only [Option.bind_some]
  cases c with
  | false => exact ⟨false, rfl, fun h => (by cases h), fun h => absurd (hc.2 h.1) (by decide)⟩
  | true =>
    have hv := hc.1 rfl
    simp only [if_true]
    by_cases h0 : l.length = 0
    · have : l = [] := List.eq_nil_of_length_eq_zero h0
      subst this
      exact ⟨true, rfl, fun _ => ⟨hv, fun s h => (by cases h)⟩, fun _ => rfl⟩
    · have hn : 0 < l.length := by omega
      have e1 : w64 ((l.length : Int) - 1) = ((l.length - 1 : Nat) : Int) := w64_nat (by omega) (by omega)
      have hz : ((l.length : Int) == 0) = false := beq_eq_false_iff_ne.2 (by omega)
      have ei : ix l 0 = some l[0] := ix_nat l 0 hn
      rw [hz, ei, e1, ix_nat l (l.length - 1) (by omega)]
      simp only [Option.bind_some, Bool.false_eq_true, if_false]
      have hf := vs_first hv hn
      by_cases h1 : (0 : Int) ≤ l[0].From
      · rw [if_pos (decide_eq_true h1)]
        refine ⟨_, rfl, fun h => ⟨hv, fun s hs => ?_⟩, fun h => decide_eq_true ?_⟩
        · have h2 : l[l.length - 1].To ≤ 1073741825 := of_decide_eq_true h
          have h3 := hf s hs
          have h4 := hv.ne s hs
          omega
        · exact (h.2 _ (List.getElem_mem (show l.length - 1 < l.length by omega))).2.2
      · rw [if_neg (by simpa using h1)]
        refine ⟨false, rfl, fun h => (by cases h), fun h => absurd (h.2 _ (List.getElem_mem hn)).1.1 h1⟩
theorem numbers_sq {l : List Span} (hl : l.length < 50) : ∃ c, ref11_numbers l = some c ∧ (c = true ↔ SQ l) := by
  unfold ref11_numbers
  refine loop_foldE (body := ref11_numbers_l2 l) (fun (_ : Unit) i => i) l.length (fun i _ => ∀ s ∈ l.take i, 0 ≤ s.From ∧ s.To ≤ 1073741825) (fun c => c = true ↔ SQ l) (fun i hi a hI => ?_) (fun a hI => ?_) () (fun s h => by simp at h)
  · unfold ref11_numbers_l2
    rw [if_pos (decide_eq_true (by omega)), ix_nat _ _ hi, w64_n (by omega)]
    simp only [Option.bind_some]
    by_cases h1 : l[i].From < 0
    · rw [if_pos (decide_eq_true h1)]
      refine .inr ⟨false, rfl, fun h => (by cases h), fun h => ?_⟩
      have := (h.2 _ (List.getElem_mem hi)).1.1
      omega
    · rw [if_neg (by simpa using h1)]
      by_cases h2 : 1073741825 < l[i].To
      · rw [decide_eq_true h2]
        refine .inr ⟨false, rfl, fun h => (by cases h), fun h => ?_⟩
        have := (h.2 _ (List.getElem_mem hi)).2.2
        omega
      · rw [decide_eq_false h2]
        refine .inl ⟨(), rfl, ?_⟩
        rw [take_one hi]
        intro s hs
        rcases List.mem_append.1 hs with hs | hs
        · exact hI s hs
        · rcases List.mem_singleton.1 hs with rfl
          omega
  · unfold ref11_numbers_l2
    rw [if_neg (by simp)]
    rw [List.take_of_length_le (Nat.le_refl _)] at hI
    obtain ⟨c, e, hc⟩ := valid_vs (l := l) (by omega)
    obtain ⟨d, e2, e3⟩ := both_valid hl
    have : c = d := Option.some.inj (e.symm.trans e2)
    subst this
    rw [e3]
    refine ⟨c, rfl, fun h => ⟨hc.1 h, fun s hs => ?_⟩, fun h => hc.2 h.1⟩
    have g1 := (hc.1 h).ne s hs
    have g2 := hI s hs
    omega

/-- a valid receiver -/
structure VR (r : Receiver) : Prop where
  g : SQ r.Got
  l : SQ r.Lost
  ap : ∀ z, ¬ (Mem r.Got z ∧ Mem r.Lost z)
theorem no_mem {l : List Span} (h : VS l) : l.length = 0 ↔ ∀ z, ¬ Mem l z := by
  constructor
  · intro h0 z hz
    have : l = [] := List.eq_nil_of_length_eq_zero h0
    subst this
    exact Mem.nil hz
  · intro h0
    cases l with
    | nil => rfl
    | cons s l => exact absurd ⟨s, by simp, Int.le_refl _, h.tail.2.1⟩ (h0 s.From)
theorem valid_vr {r : Receiver} (hg : r.Got.length < 50) (hl : r.Lost.length < 50) : ∃ c, receiver_Valid r = some c ∧ ref11_Valid r = some c ∧ (c = true ↔ VR r) := by
  obtain ⟨a, ea, ha⟩ := set_sq (l := r.Got) (by omega)
  obtain ⟨a2, ea2, ha2⟩ := numbers_sq hg
  obtain ⟨b, eb, hb⟩ := set_sq (l := r.Lost) (by omega)
  obtain ⟨b2, eb2, hb2⟩ := numbers_sq hl
  obtain ⟨m, em, hm⟩ := meet_spec hg hl
  obtain ⟨m2, em1, em2, _⟩ := both_meet hg hl
  have t1 : a2 = a := by rw [Bool.eq_iff_iff, ha, ha2]
  have t2 : b2 = b := by rw [Bool.eq_iff_iff, hb, hb2]
  have t3 : m2 = m := Option.some.inj (em1.symm.trans em)
  subst t1 t2 t3
  have hmm : ((m2.length : Int) == 0) = true ↔ ∀ z, ¬ (Mem r.Got z ∧ Mem r.Lost z) := by
    have := no_mem hm.vs
    simp only [hm.mem] at this
    rw [← this]
    simp
  unfold receiver_Valid ref11_Valid
  rw [ea, ea2]
  simp only [Option.bind_some]
  cases a2 with
  | false => exact ⟨false, rfl, rfl, fun h => (by cases h), fun h => absurd (ha.2 h.g) (by decide)⟩
  | true =>
    simp only [if_true]
    rw [eb, eb2]
    simp only [Option.bind_some]
    cases b2 with
    | false => exact ⟨false, rfl, rfl, fun h => (by cases h), fun h => absurd (hb.2 h.l) (by decide)⟩
    | true =>
      simp only [if_true]
      rw [em, em2]
      simp only [Option.bind_some]
      exact ⟨_, rfl, rfl, fun h => ⟨ha.1 rfl, hb.1 rfl, hmm.1 h⟩, fun h => hmm.2 h.ap⟩

/-! ### code and reference -/
theorem both_limited (g l : List Span) : ∃ x e, receiver_limited g l = some (x, e) ∧ ref11_limited ⟨g, l⟩ = some (x, e) ∧ x.Got.length ≤ g.length ∧ x.Lost.length ≤ l.length ∧ (g.length ≤ 4096 → l.length ≤ 4096 → x = ⟨g, l⟩ ∧ e = 0) ∧ (e ≠ 0 → x = ⟨[], []⟩) := by
  unfold receiver_limited ref11_limited
  cases h : (decide ((4096 : Int) < (g.length : Int)) || decide ((4096 : Int) < (l.length : Int))) with
  | true =>
    refine ⟨_, _, rfl, rfl, by simp, by simp, fun h1 h2 => ?_, fun _ => rfl⟩
    exfalso
    have : ¬ (decide ((4096 : Int) < (g.length : Int)) || decide ((4096 : Int) < (l.length : Int))) = true := by simp; omega
    exact this h
  | false => exact ⟨_, _, rfl, rfl, Nat.le_refl _, Nat.le_refl _, fun _ _ => ⟨rfl, rfl⟩, fun h => absurd rfl h⟩
theorem both_accept {r : Receiver} (hg : r.Got.length < 49) (hl : r.Lost.length < 49) (k : Int) : ∃ x ok e, receiver_Accept r k = some (x, ok, e) ∧ ref11_Accept r k = some (x, ok, e) ∧ x.Got.length ≤ 100000 ∧ x.Lost.length ≤ 100000 := by
  obtain ⟨c, e1, e2, _⟩ := valid_vr (r := r) (by omega) (by omega)
  unfold receiver_Accept ref11_Accept
  rw [e1, e2]
  simp only [Option.bind_some]
  cases c with
  | false => exact ⟨_, _, _, rfl, rfl, by simp, by simp⟩
  | true =>
    simp only [Bool.not_true, Bool.false_eq_true, if_false]
    have hin : ∀ a b c, receiver_in a b c = ref01_In a b c := fun _ _ _ => rfl
    rw [hin]
    unfold ref01_In
    simp only [Option.bind_some]
    cases hb : !(decide (0 ≤ k) && decide (k ≤ 1073741824)) with
    | true => exact ⟨_, _, _, rfl, rfl, by simp, by simp⟩
    | false =>
      simp only [Bool.false_eq_true, if_false]
      obtain ⟨h, e3, e4⟩ := both_has (l := r.Got) (by omega) k
      obtain ⟨u, e5, e6, hu⟩ := both_union (a := r.Got) (b := [(⟨k, w64 (k + 1)⟩ : Span)]) (by simp; omega)
      obtain ⟨m, e7, e8, hm⟩ := both_minus (a := r.Lost) (b := [(⟨k, w64 (k + 1)⟩ : Span)]) (by omega) (by simp)
      obtain ⟨x, e, e9, e10, hx1, hx2, _, hx3⟩ := both_limited u m
      rw [e3, e4, e5, e6, e7, e8]
      simp only [Option.bind_some]
      rw [e9, e10]
      simp only [Option.bind_some]
      by_cases h0 : e = 0
      · subst h0
        refine ⟨x, !h, 0, ?_, ?_, by omega, by omega⟩
        · simp
        · simp
      · have hx := hx3 h0
        refine ⟨x, false, e, ?_, ?_, by omega, by omega⟩
        · simp [h0]
        · simp [h0, hx]
theorem both_lose {r : Receiver} (hg : r.Got.length < 49) (hl : r.Lost.length < 49) (hs : r.Got.length + r.Lost.length < 48) (k : Int) : ∃ x e, receiver_Lose r k = some (x, e) ∧ ref11_Lose r k = some (x, e) ∧ x.Got.length ≤ 100000 ∧ x.Lost.length ≤ 100000 := by
  obtain ⟨c, e1, e2, _⟩ := valid_vr (r := r) (by omega) (by omega)
  unfold receiver_Lose ref11_Lose
  rw [e1, e2]
  simp only [Option.bind_some]
  cases c with
  | false => exact ⟨_, _, rfl, rfl, by simp, by simp⟩
  | true =>
    simp only [Bool.not_true, Bool.false_eq_true, if_false]
    have hin : ∀ a b c, receiver_in a b c = ref01_In a b c := fun _ _ _ => rfl
    rw [hin]
    unfold ref01_In
    simp only [Option.bind_some]
    cases hb : !(decide (0 ≤ k) && decide (k ≤ 1073741825)) with
    | true => exact ⟨_, _, rfl, rfl, by simp, by simp⟩
    | false =>
      simp only [Bool.false_eq_true, if_false]
      obtain ⟨m, e7, hm⟩ := minus_spec (a := [(⟨0, k⟩ : Span)]) (b := r.Got) (by simp) (by omega)
      obtain ⟨m', e7', e8, _⟩ := both_minus (a := [(⟨0, k⟩ : Span)]) (b := r.Got) (by simp) (by omega)
      have : m' = m := Option.some.inj (e7'.symm.trans e7)
      subst this
      have hml := hm.len
      simp only [List.length_singleton, Nat.one_mul] at hml
      obtain ⟨u, e5, e6, hu⟩ := both_union (a := r.Lost) (b := m') (by omega)
      obtain ⟨x, e, e9, e10, hx1, hx2, _, hx3⟩ := both_limited r.Got u
      rw [e7, e8]
      simp only [Option.bind_some]
      have ec : slices_Clone_Lapi_Span_api_Span r.Got = some r.Got := by
        unfold slices_Clone_Lapi_Span_api_Span
        rw [appM_one _ _ _ (by simp; omega) (by decide)]
        rfl
      rw [ec, e5, e6, appM_one _ _ _ (by simp; omega) (by decide)]
      simp only [Option.bind_some, List.nil_append]
      rw [e9, e10]
      exact ⟨x, e, rfl, rfl, by omega, by omega⟩

end Go.Proofs.Ytiihddcppmjbaaa.Sh

/- The meet of two lists of spans as the reference makes it (chapter 8). -/
import Derived.Test.YthdimlepjpnncaaGreatSpanN
namespace Go.Proofs.YthdimlepjpnncaaGreat.Sh
open Go
set_option linter.unusedVariables false
set_option linter.unusedSimpArgs false

/-- the reference: all pairs -/
theorem rmeet_inner {p q : List Span} {i : Nat} (hi : i < p.length) (hl : p.length ≤ 1000 ∧ q.length ≤ 100) (out0 : List Span) (h0 : out0.length ≤ 200000) (o : List Span) :
    ∃ r, whileM (ref08_Meet_l6 p q (o, (i : Int))) (out0, 0) = some r ∧ (∀ z, Mem r z ↔ Mem out0 z ∨ ((p[i].From ≤ z ∧ z < p[i].To) ∧ Mem q z)) ∧ r.length ≤ out0.length + q.length :=
  loop_fold (fun a i => (a, i)) q.length (fun k a => (∀ z, Mem a z ↔ Mem out0 z ∨ ((p[i].From ≤ z ∧ z < p[i].To) ∧ Mem (q.take k) z)) ∧ a.length ≤ out0.length + k) _ (fun k hk a ⟨h1, h2⟩ => by
    unfold ref08_Meet_l6
    simp only
    unfold ref08_Meet_j1
    simp only
    rw [if_pos (decide_eq_true (by omega)), ix_nat _ _ hi, ix_nat _ _ hk, w64_n (n := k) (by omega)]
    simp only [Option.bind_some]
    by_cases hlt : max p[i].From q[k].From < min p[i].To q[k].To
    · rw [if_pos (decide_eq_true hlt), appM_one _ _ _ (by simp; omega) (by decide)]
      refine ⟨_, rfl, fun z => ?_, by simp; omega⟩
      rw [mem_append, mem_one, h1, take_one hk, mem_append, mem_one]
      simp only
      constructor
      · rintro ((h | h) | h)
        · exact .inl h
        · exact .inr ⟨h.1, .inl h.2⟩
        · exact .inr ⟨by omega, .inr (by omega)⟩
      · rintro (h | ⟨h, h' | h'⟩)
        · exact .inl (.inl h)
        · exact .inl (.inr ⟨h, h'⟩)
        · exact .inr (by omega)
    · rw [if_neg (by simpa using hlt)]
      refine ⟨_, rfl, fun z => ?_, by omega⟩
      rw [h1, take_one hk, mem_append, mem_one]
      constructor
      · rintro (h | h)
        · exact .inl h
        · exact .inr ⟨h.1, .inl h.2⟩
      · rintro (h | ⟨h, h' | h'⟩)
        · exact .inl h
        · exact .inr ⟨h, h'⟩
        · omega) (fun a ⟨h1, h2⟩ => by
    unfold ref08_Meet_l6
    simp only
    rw [if_neg (by simp)]
    rw [List.take_of_length_le (Nat.le_refl _)] at h1
    exact ⟨a, rfl, h1, h2⟩) out0 ⟨fun z => by simp [Mem], by omega⟩
theorem rmeet_spec {a b : List Span} (ha : a.length < 100) (hb : b.length < 100) : ∃ r, ref08_Meet a b = some r ∧ VS r ∧ ∀ z, Mem r z ↔ Mem a z ∧ Mem b z := by
  unfold ref08_Meet
  obtain ⟨p, ep, hp⟩ := rnormal_spec (l := a) (by omega)
  obtain ⟨q, eq, hq⟩ := rnormal_spec (l := b) (by omega)
  rw [ep, eq]
  simp only [Option.bind_some]
  have l1 := hp.len
  have l2 := hq.len
  obtain ⟨o, eo, ho, hol⟩ := loop_fold (body := ref08_Meet_l3 p q) (fun a i => (a, i)) p.length (fun i a => (∀ z, Mem a z ↔ Mem (p.take i) z ∧ Mem q z) ∧ a.length ≤ i * 100) (fun r => (∀ z, Mem r z ↔ Mem p z ∧ Mem q z) ∧ r.length ≤ 10000) (fun i hi a ⟨h1, h2⟩ => by
    unfold ref08_Meet_l3
    simp only
    rw [if_pos (decide_eq_true (by omega))]
    obtain ⟨r, er, hr, hrl⟩ := rmeet_inner hi (q := q) (by omega) a (by omega) a
    rw [er, w64_n (n := i) (by omega)]
    refine ⟨r, rfl, fun z => ?_, by omega⟩
    rw [hr, h1, take_one hi, mem_append, mem_one]
    constructor
    · rintro (h | h)
      · exact ⟨.inl h.1, h.2⟩
      · exact ⟨.inr h.1, h.2⟩
    · rintro ⟨h | h, h'⟩
      · exact .inl ⟨h, h'⟩
      · exact .inr ⟨h, h'⟩) (fun a ⟨h1, h2⟩ => by
    unfold ref08_Meet_l3
    simp only
    rw [if_neg (by simp)]
    rw [List.take_of_length_le (Nat.le_refl _)] at h1
    exact ⟨a, rfl, h1, by omega⟩) [] ⟨fun z => by simp [Mem], by simp⟩
  rw [eo]
  simp only [Option.bind_some]
  obtain ⟨r, er, hr⟩ := rnormal_spec (l := o) (by omega)
  rw [er]
  exact ⟨r, rfl, hr.vs, fun z => by rw [hr.mem, ho, hp.mem, hq.mem]⟩

end Go.Proofs.YthdimlepjpnncaaGreat.Sh

/- The law SpanMembers as a plain program: it is true at every input. -/
import Derived.Test.YtmdnhgjpkdainaaSpanL
namespace Go.Proofs.Ytmdnhgjpkdainaa.Sh
open Go
set_option linter.unusedVariables false
set_option linter.unusedSimpArgs false

theorem law08_SpanMembers_true (t : List Int) (n : Int) (ht : ∀ x ∈ t, -9223372036854775808 ≤ x ∧ x ≤ 9223372036854775807) (hn : 0 ≤ n ∧ n ≤ 255) : law08_SpanMembers t n = some true := by
  unfold law08_SpanMembers
  rw [light_spec]
  simp only [Option.bind_some]
  by_cases hl : t.length ≤ 500
  case neg => rw [decide_eq_false hl, sane_true]; rfl
  rw [decide_eq_true hl]
  simp only [Bool.not_true, Bool.false_eq_true, if_false, made_Roll, Option.bind_some]
  obtain ⟨a, d1, ea, la, ba, hd1⟩ := dspans (DOK.roll hl)
  obtain ⟨b, d2, eb, lb, bb, hd2⟩ := dspans hd1
  have hx : 0 ≤ Int.tmod n 45 ∧ Int.tmod n 45 < 45 := by rw [Int.tmod_eq_emod_of_nonneg hn.1]; omega
  rw [ea]; simp only [Option.bind_some]
  rw [eb]; simp only [Option.bind_some]
  rw [w64_id (x := n) (by omega) (by omega)]
  generalize Int.tmod n 45 = x at hx ⊢
  have ex : w64 (x + 1) = x + 1 := w64_id (by omega) (by omega)
  obtain ⟨p, ep, hp⟩ := rhas_spec a x (by omega)
  obtain ⟨q, eq, hq⟩ := rhas_spec b x (by omega)
  obtain ⟨u, eu, hu⟩ := union_spec (a := a) (b := b) (by omega)
  obtain ⟨m, em, hm⟩ := meet_spec (a := a) (b := b) (by omega) (by omega)
  obtain ⟨k, ek, hk⟩ := minus_spec (a := a) (b := b) (by omega) (by omega)
  obtain ⟨l, el, hnl⟩ := normal_spec (l := a) (by omega)
  obtain ⟨c, ec, hc⟩ := meet_spec (a := a) (b := [⟨3, x + 1⟩]) (by omega) (by simp)
  have ec' : span_Cut a 3 (x + 1) = some c := by unfold span_Cut; rw [ec]; rfl
  have lu := hu.len; have lm := hm.len; have lk := hk.len; have ll := hnl.len; have lc := hc.len
  have lab : (a ++ b).length ≤ 10 := by simp; omega
  have lk2 : a.length * (b.length + 1) ≤ 5 * 6 := Nat.mul_le_mul la (by omega)
  simp only [List.length_cons, List.length_nil] at lc
  obtain ⟨h1, e1, c1⟩ := has_spec u x (by omega)
  obtain ⟨h2, e2, c2⟩ := has_spec m x (by omega)
  obtain ⟨h3, e3, c3⟩ := has_spec k x (by omega)
  obtain ⟨h4, e4, c4⟩ := has_spec l x (by omega)
  obtain ⟨h5, e5, c5⟩ := has_spec c x (by omega)
  obtain ⟨h6, e6, c6⟩ := has_spec c (x + 1) (by omega)
  rw [hu.mem, mem_append, ← hp, ← hq] at c1
  rw [hm.mem, ← hp, ← hq] at c2
  rw [hk.mem, ← hp, ← hq] at c3
  rw [hnl.mem, ← hp] at c4
  rw [hc.mem, mem_one, ← hp] at c5
  rw [hc.mem, mem_one] at c6
  simp only at c5 c6
  have r1 : h1 = (p || q) := by rw [Bool.eq_iff_iff, c1, Bool.or_eq_true]
  have r2 : h2 = (p && q) := by rw [Bool.eq_iff_iff, c2, Bool.and_eq_true]
  have r3 : h3 = (p && !q) := by rw [Bool.eq_iff_iff, c3]; simp
  have r4 : h4 = p := by rw [Bool.eq_iff_iff, c4]
  have r5 : h5 = (p && decide (3 ≤ x)) := by
    rw [Bool.eq_iff_iff, c5]
    simp
    omega
  have r6 : h6 = false := by
    cases h6 with
    | false => rfl
    | true => exact absurd (c6.1 rfl).2 (by omega)
  simp only [ep, eq, eu, em, ek, el, ex, ec', valid_true hu.vs (by omega), valid_true hm.vs (by omega), valid_true hk.vs (by omega), valid_true hnl.vs (by omega), valid_true hc.vs (by omega), e1, e2, e3, e4, e5, e6, sane_true, Option.bind_some, if_true, r1, r2, r3, r4, r5, r6, beq_self_eq_true, Bool.not_false]

end Go.Proofs.Ytmdnhgjpkdainaa.Sh

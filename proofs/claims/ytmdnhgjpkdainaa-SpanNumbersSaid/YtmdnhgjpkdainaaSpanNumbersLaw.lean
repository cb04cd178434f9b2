/- The law SpanNumbers as a plain program: it is true at every input. -/
import Derived.Test.YtmdnhgjpkdainaaSpanL
namespace Go.Proofs.Ytmdnhgjpkdainaa.Sh
open Go
set_option linter.unusedVariables false
set_option linter.unusedSimpArgs false

theorem law08_SpanNumbers_true (t : List Int) (n k : Int) (ht : ∀ x ∈ t, -9223372036854775808 ≤ x ∧ x ≤ 9223372036854775807) (hn : 0 ≤ n ∧ n ≤ 255) (hk : -2147483648 ≤ k ∧ k ≤ 2147483647) : law08_SpanNumbers t n k = some true := by
  unfold law08_SpanNumbers
  rw [light_spec]
  simp only [Option.bind_some]
  by_cases hl : t.length ≤ 500
  case neg => rw [decide_eq_false hl, sane_true]; rfl
  rw [decide_eq_true hl]
  simp only [Bool.not_true, Bool.false_eq_true, if_false, made_Roll, Option.bind_some]
  obtain ⟨a, d1, ea, la, ba, hd1⟩ := dspans (DOK.roll hl)
  have hx : 0 ≤ Int.tmod n 20 ∧ Int.tmod n 20 < 20 := by rw [Int.tmod_eq_emod_of_nonneg hn.1]; omega
  rw [ea]; simp only [Option.bind_some]
  rw [w64_id (x := n) (by omega) (by omega), w64_id (x := k) (by omega) (by omega)]
  generalize Int.tmod n 20 = x at hx ⊢
  have wa := ba.wide (lo' := -1152921504606846976) (hi' := 1152921504606846976) (by decide) (by decide)
  obtain ⟨r, hr, el⟩ := length_spec (l := a) (by omega) wa
  obtain ⟨r', hr', ef⟩ := first_spec (l := a) (n := x) (by omega) wa hx.1 (by omega)
  obtain rfl := hr.uniq hr'
  obtain ⟨r', hr2, es⟩ := shift_spec (l := a) (k := k) (by omega) (by omega) (by omega) wa
  obtain rfl := hr.uniq hr2
  obtain ⟨r', en, hr3⟩ := normal_spec (l := a) (by omega)
  obtain rfl := hr.uniq hr3
  have hf := first_fs (r := r) (n := x) hr.vs hx.1
  have lr := hr.len
  have lf := hf.len
  have br := hr.eb ba
  have wr := hr.eb wa
  have elf := length_valid hf.vs (by omega) (hf.eb _ _ wr)
  obtain ⟨rest, em, hm⟩ := minus_spec (a := a) (b := firstL x r) (by omega) (by omega)
  have vsx := shift_vs hr.vs k
  have lsx : (shiftL k r).length = r.length := by simp [shiftL]
  have bsx : EB (-1152921504606846976) 1152921504606846976 (shiftL k r) := fun s hs => by
    obtain ⟨u, hu, rfl⟩ := List.mem_map.1 hs
    have := br u hu
    simp only; omega
  obtain ⟨r4, hr4, es2⟩ := shift_spec (l := shiftL k r) (k := -k) (by omega) (by omega) (by omega) bsx
  rw [hr4.self vsx, shift_back] at es2
  have elx := length_valid vsx (by omega) bsx
  rw [shift_card] at elx
  have ek : w64 (0 - k) = -k := by rw [w64_id (by omega) (by omega)]; omega
  simp only [el, ef, elf, em, Option.bind_some, hf.card, bne_self_eq_false, Bool.or_self, Bool.not_true, Bool.false_eq_true, if_false]
  -- the numbers that are left lie behind the first ones
  have htest : (if (decide (0 < ((firstL x r).length : Int)) && decide (0 < (rest.length : Int))) = true then
        (ix (firstL x r) (w64 (((firstL x r).length : Int) - 1))).bind fun x95 => (ix rest 0).bind fun x108 => some (decide (x108.From < x95.To)) else some false) = some false := by
    by_cases hc : 0 < (firstL x r).length ∧ 0 < rest.length
    · have e1 : w64 (((firstL x r).length : Int) - 1) = (((firstL x r).length - 1 : Nat) : Int) := w64_nat (by omega) (by omega)
      rw [if_pos (by simp; omega), e1, ix_nat _ _ (by omega), show (0 : Int) = ((0 : Nat) : Int) from rfl, ix_nat _ _ hc.2]
      simp only [Option.bind_some]
      have g1 := hf.vs.ne _ (List.getElem_mem (show (firstL x r).length - 1 < (firstL x r).length by omega))
      have g2 := hm.vs.ne _ (List.getElem_mem hc.2)
      have m1 : Mem rest rest[0].From := ⟨_, List.getElem_mem hc.2, Int.le_refl _, g2⟩
      have m2 : Mem (firstL x r) ((firstL x r)[(firstL x r).length - 1].To - 1) := ⟨_, List.getElem_mem (show (firstL x r).length - 1 < (firstL x r).length by omega), by omega, by omega⟩
      obtain ⟨q1, q2⟩ := (hm.mem _).1 m1
      have := hf.ends _ _ ((hr.mem _).2 q1) q2 m2
      rw [decide_eq_false (by omega)]
    · rw [if_neg (by simp only [Bool.and_eq_true, decide_eq_true_eq]; omega)]
  rw [htest]
  simp only [Option.bind_some, Bool.false_eq_true, if_false]
  simp only [es, ek, es2, elx, en, same_refl r (by omega), Option.bind_some, beq_self_eq_true, Bool.and_self, if_true]
  cases r with
  | nil => simp [shiftL, sane_true]
  | cons s r =>
    have e0 : ix (shiftL k (s :: r)) 0 = some ⟨s.From + k, s.To + k⟩ := rfl
    have e1 : ix (s :: r) 0 = some s := rfl
    have bs := br s (by simp)
    rw [if_neg (by simp [shiftL] <;> omega), e0, e1]
    simp only [Option.bind_some]
    rw [w64_id (x := s.From + k) (by omega) (by omega)]
    simp only [beq_self_eq_true, if_true, sane_true, Option.bind_some]

end Go.Proofs.Ytmdnhgjpkdainaa.Sh

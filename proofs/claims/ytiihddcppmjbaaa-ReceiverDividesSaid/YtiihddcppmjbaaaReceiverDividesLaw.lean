/- ReceiverDivides: the law returns true at every input (chapter 11). -/
import Derived.Test.YtiihddcppmjbaaaRecvS
namespace Go.Proofs.Ytiihddcppmjbaaa.Sh
open Go
set_option linter.unusedVariables false
set_option linter.unusedSimpArgs false

theorem div_in {r : Receiver} {d : Dice} {l : List Span} {e : Int} {k : Nat} (hg : r.Got.length ≤ 15) (hl : r.Lost.length ≤ 15) (hm : l.length ≤ 31) (a : Int) (g o m : Bool)
    (eg : ref08_Has r.Got (k : Int) = some g) (eo : ref08_Has r.Lost (k : Int) = some o) (em : ref08_Has l (k : Int) = some m) :
    whileM (law11_ReceiverDivides_l10 (r, d) (l, e) (a, (k : Int))) (0, 0) = some ((if g then 1 else 0) + (if o then 1 else 0) + (if m then 1 else 0)) := by
  have s1 : law11_ReceiverDivides_l10 (r, d) (l, e) (a, (k : Int)) (0, 0) = some (.inl ((if g then 1 else 0), 1)) := by
    unfold law11_ReceiverDivides_l10 law11_ReceiverDivides_j1
    have e0 : ix ([r.Got, r.Lost, l] : List (List Span)) 0 = some r.Got := rfl
    simp only
    rw [if_pos (by simp), e0]
    simp only [Option.bind_some]
    rw [eg]
    cases g <;> rfl
  have s2 : law11_ReceiverDivides_l10 (r, d) (l, e) (a, (k : Int)) ((if g then 1 else 0), 1) = some (.inl ((if g then 1 else 0) + (if o then 1 else 0), 2)) := by
    unfold law11_ReceiverDivides_l10 law11_ReceiverDivides_j1
    have e0 : ix ([r.Got, r.Lost, l] : List (List Span)) 1 = some r.Lost := rfl
    simp only
    rw [if_pos (by simp), e0]
    simp only [Option.bind_some]
    rw [eo]
    cases g <;> cases o <;> rfl
  have s3 : law11_ReceiverDivides_l10 (r, d) (l, e) (a, (k : Int)) ((if g then 1 else 0) + (if o then 1 else 0), 2) = some (.inl ((if g then 1 else 0) + (if o then 1 else 0) + (if m then 1 else 0), 3)) := by
    unfold law11_ReceiverDivides_l10 law11_ReceiverDivides_j1
    have e0 : ix ([r.Got, r.Lost, l] : List (List Span)) 2 = some l := rfl
    simp only
    rw [if_pos (by simp), e0]
    simp only [Option.bind_some]
    rw [em]
    cases g <;> cases o <;> cases m <;> rfl
  have s4 : ∀ x : Int, law11_ReceiverDivides_l10 (r, d) (l, e) (a, (k : Int)) (x, 3) = some (.inr x) := fun x => by
    unfold law11_ReceiverDivides_l10
    simp only
    rw [if_neg (by simp)]
  rw [whl s1, whl s2, whl s3, whe (s4 _)]

theorem law11_ReceiverDivides_true (t : List Int) (n : Int) (_ : (t.length : Int) ≤ 140737488355328 ∧ ∀ x ∈ t, -9223372036854775808 ≤ x ∧ x ≤ 9223372036854775807) (hn : 0 ≤ n ∧ n ≤ 255) : law11_ReceiverDivides t n = some true := by
  unfold law11_ReceiverDivides
  rw [light_spec]
  simp only [Option.bind_some]
  by_cases hl : t.length ≤ 500
  case neg => rw [decide_eq_false hl, rsane_true]; rfl
  rw [decide_eq_true hl]
  simp only [Bool.not_true, Bool.false_eq_true, if_false, made_Roll, Option.bind_some]
  obtain ⟨r, d, er, br, hd⟩ := dreceiver (DOK.roll hl)
  obtain ⟨la, lb⟩ := br.lens (by decide) (by decide)
  rw [er, w64_id (x := n) (by omega) (by omega)]
  simp only [Option.bind_some]
  have q0 : 0 ≤ n.tmod 20 := Int.tmod_nonneg 20 hn.1
  have q1 : n.tmod 20 < 20 := Int.tmod_lt_of_pos n (by decide)
  generalize n.tmod 20 = k at *
  obtain ⟨l, el, hv, hll, hm⟩ := missing_spec br (by decide) (by decide) (k := k) q0 (by omega)
  have hh0 := high_nn r
  have hh1 := high_le br (by decide)
  rw [el, high_spec br.v (by omega) (by omega)]
  simp only [Option.bind_some]
  obtain ⟨s, es, s0, s1, s2⟩ := settled_spec br (by decide) (by decide)
  generalize he : max k (highL r) = e at *
  have he0 : 0 ≤ e := by omega
  have he1 : e < 20 := by omega
  have hkn : ∀ z, Mem r.Got z ∨ Mem r.Lost z → z < e := fun z hz => by
    have := high_lt br.v hz
    omega
  have hsh : s ≤ highL r := by
    by_cases h : s = 0
    · omega
    · have := high_lt br.v (s1 (s - 1) (by omega) (by omega))
      omega
  have w2 : w64 (e + 2) = ((e + 2).toNat : Int) := by rw [w64_id (by omega) (by omega)]; omega
  obtain ⟨_, eq, rfl⟩ := loop_fold (body := law11_ReceiverDivides_l7 (r, d) (l, 0) e) (fun a i => (a, i)) (e + 2).toNat
    (fun i a => a = if s < (i : Int) ∧ s < e then s else e) (fun x => x = true) (fun i hi a ha => by
      have hi2 : (i : Int) < e + 2 := by omega
      obtain ⟨g, eg, hg⟩ := rhas_spec r.Got (i : Int) (by omega)
      obtain ⟨o, eo, ho⟩ := rhas_spec r.Lost (i : Int) (by omega)
      obtain ⟨m, em, hmm⟩ := rhas_spec l (i : Int) (by omega)
      rw [hm] at hmm
      have hap := br.v.ap (i : Int)
      have hk := hkn (i : Int)
      unfold law11_ReceiverDivides_l7 law11_ReceiverDivides_j3
      simp only
      rw [w2, if_pos (decide_eq_true (by omega)), div_in la lb hll a g o m eg eo em, em]
      simp only [Option.bind_some]
      have hc : (((decide ((i : Int) < e)) && (((if g then (1 : Int) else 0) + (if o then 1 else 0) + (if m then 1 else 0)) != 1)) || ((decide (e ≤ (i : Int))) && (((if g then (1 : Int) else 0) + (if o then 1 else 0) + (if m then 1 else 0)) != 0))) = false := by
        rw [← hg, ← ho] at hmm hap hk
        by_cases hie : (i : Int) < e
        · rw [decide_eq_true hie, decide_eq_false (by omega)]
          cases g <;> cases o <;> cases m <;> simp at hmm hap ⊢ <;> omega
        · rw [decide_eq_false hie, decide_eq_true (by omega)]
          cases g <;> cases o <;> cases m <;> simp at hmm hap hk ⊢ <;> omega
      rw [hc]
      simp only [Bool.false_eq_true, if_false, Option.bind_some]
      rw [w64_n (n := i) (by omega)]
      have hsm : Mem l s ↔ s < e := by
        rw [hm]
        have a1 : ¬ Mem r.Got s := fun q => s2 (.inl q)
        have a2 : ¬ Mem r.Lost s := fun q => s2 (.inr q)
        simp [a1, a2, s0]
      cases m with
      | true =>
        have hq := hmm.1 rfl
        have hsi : ¬ (i : Int) < s := fun hlt => by
          rcases s1 i (by omega) hlt with q | q
          · exact hq.2.1 q
          · exact hq.2.2 q
        refine ⟨_, rfl, ?_⟩
        subst ha
        by_cases h1 : s < (i : Int)
        · rw [if_pos ⟨h1, by omega⟩, if_pos ⟨by omega, by omega⟩]; omega
        · have : s = (i : Int) := by omega
          rw [if_neg (fun q => h1 q.1), if_pos ⟨by omega, by omega⟩]; omega
      | false =>
        refine ⟨_, rfl, ?_⟩
        subst ha
        have hne : ¬ (s = (i : Int) ∧ s < e) := fun ⟨q, q2⟩ => by
          have hs := (hm s).1 (hsm.2 q2)
          rw [q] at hs
          exact absurd (hmm.2 hs) (by decide)
        by_cases h1 : s < (i : Int) ∧ s < e
        · rw [if_pos h1, if_pos ⟨by omega, h1.2⟩]
        · rw [if_neg h1, if_neg (by omega)]) (fun a ha => by
      subst ha
      unfold law11_ReceiverDivides_l7
      simp only
      rw [w2, if_neg (by simp), es, high_spec br.v (by omega) (by omega), rsane_true]
      have : (s == min (if s < ((e + 2).toNat : Int) ∧ s < e then s else e) (highL r)) = true := by
        rw [beq_iff_eq]
        split <;> omega
      refine ⟨true, ?_, rfl⟩
      simp only [beq_self_eq_true, if_true, Option.bind_some, this]
      rfl) e (by rw [if_neg (by omega)])
  exact eq

end Go.Proofs.Ytiihddcppmjbaaa.Sh

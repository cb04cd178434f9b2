/- The law ComposePriority as a plain program: it is true at every input. -/
import Derived.Test.YthdimlepjpnncaaGreatComp4
import Derived.Test.YthdimlepjpnncaaGreatRefCmp
import Derived.Test.YthdimlepjpnncaaGreatDiceRecs
namespace Go.Proofs.YthdimlepjpnncaaGreat.Sh
open Go
set_option linter.unusedVariables false
set_option linter.unusedSimpArgs false

theorem pri_ok {l : List Record} {best other : Record} (hv : VS15 l) (hb : best ∈ l) (ho : other ∈ l) (hm : ∀ r ∈ l, r = best ∨ r = other) (hlt : betR best other < 0) (l' : List Record) (hl' : l' = l) :
    law15_ComposePriority_j2 best.Source.Network best.Source.Station best.Source.Location best.Source.Channel best.Start best.First best.Rate.Num best.Rate.Den best.Error best.Run best.Seq best.Samples other.Source.Network other.Source.Station other.Source.Location other.Source.Channel other.Start other.First other.Rate.Num other.Rate.Den other.Error other.Run other.Seq other.Samples l' = some true := by
  subst hl'
  have hB := hv.rf best hb
  have hO := hv.rf other ho
  have b1 := hB.l1
  have o1 := hO.l1
  obtain ⟨m, em, hc⟩ := comp_ok hv
  have hval : ∀ t, compose_Value l' t = some (findV m t) := fun t => value_ok hv em (fun q hq => hc.rf hv.toVL hq) (by have := hc.len hv; omega) t
  have hkb : ∀ i, keepR (sset cmpR l') best i = true := fun i => keep_best (fun q hq h => by
    rcases hm q hq with rfl | rfl
    · have := betR_cmp.refl q; omega
    · have := betR_cmp.anti best q; omega) i
  have eB : (⟨(⟨best.Source.Network, best.Source.Station, best.Source.Location, best.Source.Channel⟩ : SourceID), best.Start, best.First, (⟨best.Rate.Num, best.Rate.Den⟩ : Rate), best.Error, best.Run, best.Seq, best.Samples⟩ : Record) = best := rfl
  have eO : (⟨(⟨other.Source.Network, other.Source.Station, other.Source.Location, other.Source.Channel⟩ : SourceID), other.Start, other.First, (⟨other.Rate.Num, other.Rate.Den⟩ : Rate), other.Error, other.Run, other.Seq, other.Samples⟩ : Record) = other := rfl
  unfold law15_ComposePriority_j2
  rw [eB, hB.refSpan]
  simp only [Option.bind_some]
  refine whileM_for' (fun i => (i : Int)) best.Samples.length _ rfl (fun i hi => ?_) ?_
  · unfold law15_ComposePriority_l2
    rw [if_pos (decide_eq_true (by omega)), ix_nat _ _ hi, eB, hB.refAt (by omega) (by omega)]
    simp only [Option.bind_some]
    rw [hval, findV_keep hv.toVL hc hb hi (hkb i) (Int.le_refl _) (hB.lt (by omega))]
    have hg : best.Samples.getD i 0 = best.Samples[i] := by simp [List.getD_eq_getElem?_getD, hi]
    rw [hg]
    simp only [Option.bind_some, Bool.not_true, bne_self_eq_false, Bool.or_self, Bool.false_eq_true, if_false]
    rw [w64_n (by omega)]
  · unfold law15_ComposePriority_l2
    rw [if_neg (by simp)]
    suffices hw : whileM (law15_ComposePriority_l4 other.Source.Network other.Source.Station other.Source.Location other.Source.Channel other.Start other.First other.Rate.Num other.Rate.Den other.Error other.Run other.Seq other.Samples l' (⟨timeR best 0, timeR best best.Samples.length⟩, 0)) 0 = some true by rw [hw]; rfl
    refine whileM_for' (fun i => (i : Int)) other.Samples.length _ rfl (fun i hi => ?_) ?_
    · unfold law15_ComposePriority_l4
      rw [if_pos (decide_eq_true (by omega)), ix_nat _ _ hi, eO, hO.refAt (by omega) (by omega), w64_n (by omega), hO.refAt (by omega) (by omega)]
      simp only [Option.bind_some]
      rw [hval]
      obtain ⟨r, er, hr⟩ := cut_one (w := ⟨timeR best 0, timeR best best.Samples.length⟩) (p := timeR other (i : Int)) (q := timeR other ((i + 1 : Nat) : Int))
      simp only [Option.bind_some]
      rw [er]
      simp only [Option.bind_some]
      have e1 : ((i + 1 : Nat) : Int) = (i : Int) + 1 := by omega
      rw [e1] at hr ⊢
      have hfree : r = [] → keepR (sset cmpR l') other i = true := fun h => by
        rw [keep_iff hv.toVL ho]
        intro q hq hbq y h1 h2 h3
        rcases hm q hq with rfl | rfl
        · exact hr.1 h y ⟨h3, h1, h2⟩
        · have := betR_cmp.refl q; omega
      have hg : other.Samples.getD i 0 = other.Samples[i] := by simp [List.getD_eq_getElem?_getD, hi]
      by_cases hre : r = []
      · have hv1 := findV_keep hv.toVL hc ho hi (hfree hre) (Int.le_refl _) (hO.lt (i := (i : Int)) (j := (i : Int) + 1) (by omega))
        rw [hg] at hv1
        rw [hv1, hre]
        simp
      · have hlen : ((r.length : Int) == 0) = false := by
          rw [beq_eq_false_iff_ne]
          intro h
          exact hre (List.eq_nil_of_length_eq_zero (by omega))
        rw [hlen]
        simp only [Bool.false_and, Bool.false_eq_true, if_false, Bool.not_false, Bool.true_and]
        rcases findV_or m (timeR other (i : Int)) with ⟨v, hv1⟩ | hv1
        · rw [hv1]
          simp only [if_true]
          obtain ⟨c, ec, hcm⟩ := has_spec (l := [⟨timeR best 0, timeR best best.Samples.length⟩]) (by simp) (timeR other (i : Int))
          rw [ec]
          simp only [Option.bind_some]
          have hct : c = true := by
            rw [hcm, mem_one]
            obtain ⟨q, hq, j, hj, kq, t1, t2, _⟩ := findV_some hv.toVL hc hv1
            rcases hm q hq with rfl | rfl
            · have h1 := hB.mono (i := 0) (j := (j : Int)) (by omega)
              have h2 := hB.mono (i := (j : Int) + 1) (j := (q.Samples.length : Int)) (by omega)
              simp only
              omega
            · exfalso
              have a := hO.at_lt t1 (hO.lt (i := (i : Int)) (j := (i : Int) + 1) (by omega))
              have b := hO.at_lt (Int.le_refl _) t2
              have hij : j = i := by omega
              subst hij
              have hz := (keep_iff hv.toVL ho).1 kq best hb hlt
              refine hre (hr.2 fun z hz' => hz z hz'.2.1 hz'.2.2 hz'.1)
          rw [hct]
          rfl
        · rw [hv1]
          rfl
    · unfold law15_ComposePriority_l4
      rw [if_neg (by simp), sane_true]
      rfl
theorem law15_ComposePriority_true (t : List Int) (sw : Bool) (_ : (t.length : Int) ≤ 140737488355328 ∧ ∀ x ∈ t, -9223372036854775808 ≤ x ∧ x ≤ 9223372036854775807) : law15_ComposePriority t sw = some true := by
  unfold law15_ComposePriority
  rw [light_spec]
  simp only [Option.bind_some]
  by_cases hl : t.length ≤ 500
  case neg => rw [decide_eq_false hl, sane_true]; rfl
  rw [decide_eq_true hl]
  simp only [Bool.not_true, Bool.false_eq_true, if_false, made_Roll, Option.bind_some]
  obtain ⟨s, d1, e1, hs, hd1⟩ := dsource_spec (DOK.roll hl)
  obtain ⟨a, d2, e2, ha, hd2⟩ := drecord_spec hd1 s (n := 8) (by decide) (by decide)
  obtain ⟨b, d3, e3, hb, hd3⟩ := drecord_spec hd2 s (n := 8) (by decide) (by decide)
  rw [e1]; simp only [Option.bind_some]
  rw [e2]; simp only [Option.bind_some]
  rw [e3]; simp only [Option.bind_some]
  have hA := ha.rf hs (by decide)
  have hB := hb.rf hs (by decide)
  have la := ha.l1
  have lb := hb.l1
  rw [rsame_eq hA.sm, record_Same_eq hA.sm]
  simp only [Option.bind_some]
  by_cases hab : a = b
  · rw [if_pos (by simp [hab]), sane_true]
    rfl
  rw [if_neg (by simp [hab])]
  have hne : betR b a ≠ 0 := fun h => hab (betR_zero h).symm
  -- which one is better
  have hbet : (if decide (b.Error < a.Error) = true then some true else ((if (b.Error == a.Error) = true then ((if decide (a.Run < b.Run) = true then some true else ((if (b.Run == a.Run) = true then ((if decide (a.Seq < b.Seq) = true then some true else ((if (b.Seq == a.Seq) = true then (ref14_Compare b a).bind fun rv759 => some (decide (rv759 < 0)) else some false)).bind fun c756 => some c756)).bind fun c746 => some c746 else some false)).bind fun c726 => some c726)).bind fun c686 => some c686 else some false)).bind fun c606 => some c606) = some (decide (betR b a < 0)) := by
    rw [rcompare_eq hB.sm hA.sm (by omega)]
    unfold betR andThen
    by_cases h1 : b.Error < a.Error
    · simp [h1, cmpI]
    · by_cases h2 : b.Error = a.Error
      · by_cases h3 : a.Run < b.Run
        · simp [h2, h3, cmpI]
        · by_cases h4 : b.Run = a.Run
          · by_cases h5 : a.Seq < b.Seq
            · simp [h2, h4, h5, cmpI]
            · by_cases h6 : b.Seq = a.Seq
              · simp [h2, h4, h6, cmpI]
              · have h7 : b.Seq < a.Seq := by omega
                simp [h2, h4, h5, h6, h7, cmpI]
          · have h7 : b.Run < a.Run := by omega
            simp [h2, h3, h4, h7, cmpI]
      · have h7 : a.Error < b.Error := by omega
        simp [h1, h2, h7, cmpI]
  have hv : ∀ l : List Record, (l = [a, b] ∨ l = [b, a]) → VS15 l := fun l hl => by
    have hmem : ∀ r ∈ l, r = a ∨ r = b := fun r hr => by
      rcases hl with rfl | rfl <;> simp only [List.mem_cons, List.not_mem_nil, or_false] at hr
      · exact hr
      · exact hr.symm
    refine ⟨⟨fun r hr => ?_, fun r hr q hq => ?_⟩, by rcases hl with rfl | rfl <;> simp, fun r hr => ?_⟩
    · rcases hmem r hr with rfl | rfl
      · exact hA
      · exact hB
    · have e : ∀ r ∈ l, r.Source = s := fun r hr => by
        rcases hmem r hr with rfl | rfl
        · exact ha.src
        · exact hb.src
      exact (e r hr).trans (e q hq).symm
    · rcases hmem r hr with rfl | rfl <;> omega
  have hlist : ∀ best other : Record, (best = a ∧ other = b ∨ best = b ∧ other = a) → betR best other < 0 → law15_ComposePriority_j1 sw (a, d2) (b, d3) best.Source.Network best.Source.Station best.Source.Location best.Source.Channel best.Start best.First best.Rate.Num best.Rate.Den best.Error best.Run best.Seq best.Samples other.Source.Network other.Source.Station other.Source.Location other.Source.Channel other.Start other.First other.Rate.Num other.Rate.Den other.Error other.Run other.Seq other.Samples = some true := by
    intro best other hbo hlt
    unfold law15_ComposePriority_j1
    cases sw with
    | true =>
      rw [if_pos rfl]
      refine pri_ok (l := [b, a]) (hv _ (.inr rfl)) ?_ ?_ ?_ hlt _ rfl
      · rcases hbo with ⟨rfl, rfl⟩ | ⟨rfl, rfl⟩ <;> simp
      · rcases hbo with ⟨rfl, rfl⟩ | ⟨rfl, rfl⟩ <;> simp
      · intro r hr
        simp only [List.mem_cons, List.not_mem_nil, or_false] at hr
        rcases hbo with ⟨rfl, rfl⟩ | ⟨rfl, rfl⟩
        · exact hr.symm
        · exact hr
    | false =>
      rw [if_neg (by decide)]
      refine pri_ok (l := [a, b]) (hv _ (.inl rfl)) ?_ ?_ ?_ hlt _ rfl
      · rcases hbo with ⟨rfl, rfl⟩ | ⟨rfl, rfl⟩ <;> simp
      · rcases hbo with ⟨rfl, rfl⟩ | ⟨rfl, rfl⟩ <;> simp
      · intro r hr
        simp only [List.mem_cons, List.not_mem_nil, or_false] at hr
        rcases hbo with ⟨rfl, rfl⟩ | ⟨rfl, rfl⟩
        · exact hr
        · exact hr.symm
  rw [hbet]
  simp only [Option.bind_some]
  by_cases hc : betR b a < 0
  · rw [if_pos (decide_eq_true hc)]
    exact hlist b a (.inr ⟨rfl, rfl⟩) hc
  · rw [if_neg (by simpa using hc)]
    exact hlist a b (.inl ⟨rfl, rfl⟩) (by have := betR_cmp.anti a b; omega)

end Go.Proofs.YthdimlepjpnncaaGreat.Sh

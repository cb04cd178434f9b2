/- The law ComposeBest as a plain program: it is true at every input. -/
import Derived.Test.YthdimlepjpnncaaGreatComposeApartLaw
import Derived.Test.YthdimlepjpnncaaGreatDiceGrid
namespace Go.Proofs.YthdimlepjpnncaaGreat.Sh
open Go
set_option linter.unusedVariables false
set_option linter.unusedSimpArgs false

theorem covered_ok {l : List Record} (h : VS15 l) : ∃ r, compose_Covered l = some (r, 0) ∧ NS (l.map extR) r := by
  have hl := h.len
  unfold compose_Covered
  rw [valid_ok h.toVL (by omega)]
  simp only [Option.bind_some, Bool.not_true, Bool.false_eq_true, if_false]
  have hw : whileM (compose_Covered_l1 l) (([] : List Span), 0) = some (l.map extR) := by
    refine whileM_for' (fun i => ((l.take i).map extR, (i : Int))) l.length _ (by simp) (fun i hi => ?_) ?_
    · unfold compose_Covered_l1
      simp only
      rw [if_pos (decide_eq_true (by omega)), ix_nat _ _ hi]
      simp only [Option.bind_some]
      rw [extent_ok (h.rf _ (List.getElem_mem hi))]
      simp only [Option.bind_some]
      rw [appM_one _ _ _ (by simp; omega) (by decide)]
      simp only [Option.bind_some]
      rw [w64_n (by omega), take_one hi, List.map_append]
      rfl
    · unfold compose_Covered_l1
      simp only
      rw [if_neg (by simp), List.take_length]
  rw [hw]
  simp only [Option.bind_some]
  obtain ⟨r, er, hr⟩ := normal_spec (l := l.map extR) (by simp; omega)
  rw [er]
  exact ⟨r, rfl, hr⟩
theorem rspan_refl (a : List Span) (ha : a.length ≤ 1000000) : ref08_Same a a = some true := by
  unfold ref08_Same
  rw [if_neg (by simp)]
  refine whileM_for' (fun i => (i : Int)) a.length _ rfl (fun i hi => ?_) ?_
  · unfold ref08_Same_l2
    rw [if_pos (decide_eq_true (by omega)), ix_nat _ _ hi]
    simp only [Option.bind_some, beq_self_eq_true, Bool.and_self, Bool.not_true, Bool.false_eq_true, if_false]
    rw [w64_id (by omega) (by omega)]
    rfl
  · unfold ref08_Same_l2
    rw [if_neg (by simp)]
    rfl
/-- one is best -/
theorem best_ex {l : List Record} (h : l ≠ []) : ∃ b ∈ l, ∀ q ∈ l, ¬ betR q b < 0 := by
  have hm : ∀ x, x ∈ sset betR l ↔ x ∈ l := fun x => mem_sset fun _ _ => betR_zero
  have hp := sset_pw betR_cmp (fun _ _ => betR_zero) l
  cases hs : sset betR l with
  | nil =>
    obtain ⟨a, ha⟩ := List.exists_mem_of_ne_nil l h
    have := (hm a).2 ha
    rw [hs] at this
    cases this
  | cons b r =>
    rw [hs] at hp hm
    refine ⟨b, (hm b).1 List.mem_cons_self, fun q hq hb => ?_⟩
    have h1 := List.pairwise_cons.1 hp
    rcases List.mem_cons.1 ((hm q).2 hq) with e | e
    · subst e; have := betR_cmp.refl q; omega
    · have := h1.1 q e
      have := betR_cmp.anti b q
      omega
theorem sub_all (r : Record) : subR r 0 r.Samples.length = r := by
  obtain ⟨a, b, c, d, e, f, g, h⟩ := r
  simp [subR]
/-- records that lie one behind the other are kept whole -/
theorem whole_ok {l m : List Record} (hv : VS15 l) (hc : CompOf l m) (hd : l.Pairwise (fun a b => timeR a a.Samples.length ≤ timeR b 0)) : m = l := by
  have hlt : ∀ {r : Record}, RF r → timeR r 0 < timeR r r.Samples.length := fun h => h.lt (by have := h.l0; omega)
  have hasc : l.Pairwise (fun a b => cmpR a b < 0) := by
    rw [List.pairwise_iff_getElem] at hd ⊢
    intro i j hi hj hij
    have h1 := hd i j hi hj hij
    have hi' := hv.rf _ (List.getElem_mem hi)
    have hj' := hv.rf _ (List.getElem_mem hj)
    have h2 := hlt hi'
    exact cmpR_beg hi' hj' (hv.src _ (List.getElem_mem hi) _ (List.getElem_mem hj)) (by omega)
  have hss := sset_self cmpR_cmp (fun _ _ => cmpR_eq) hasc
  refine hc.eq (fun r => [(0, r.Samples.length)]) hv.toVL (fun r hr => ?_) ?_ (hasc.imp fun h => Int.le_of_lt h)
  · have hr := mem_ss.1 hr
    have hR := hv.rf r hr
    have hk : ∀ i, i < r.Samples.length → keepR (sset cmpR l) r i = true := fun i hi => by
      rw [keep_iff hv.toVL hr]
      intro q hq hb y h1 h2 h3
      have g1 := hR.mono (i := 0) (j := (i : Int)) (by omega)
      have g2 := hR.mono (i := (i : Int) + 1) (j := (r.Samples.length : Int)) (by omega)
      obtain ⟨a, ha, ea⟩ := List.mem_iff_getElem.1 hr
      obtain ⟨b, hb', eb⟩ := List.mem_iff_getElem.1 hq
      rw [List.pairwise_iff_getElem] at hd
      rcases Nat.lt_trichotomy a b with hab | hab | hab
      · have := hd a b ha hb' hab
        rw [ea, eb] at this
        omega
      · subst hab
        rw [ea] at eb
        subst eb
        have := betR_cmp.refl r
        omega
      · have := hd b a hb' ha hab
        rw [ea, eb] at this
        omega
    refine ⟨fun p hp => ?_, List.pairwise_singleton _ _, fun i hi _ => ⟨(0, r.Samples.length), List.mem_cons_self, Nat.zero_le _, hi⟩⟩
    rcases List.mem_singleton.1 hp with rfl
    exact ⟨by have := hR.l0; simp only; omega, Nat.le_refl _, fun i _ hi => hk i hi, .inl rfl⟩
  · rw [hss]
    have : l.flatMap (fun r => subsR r [(0, r.Samples.length)]) = l := by
      have e : ∀ k : List Record, k.flatMap (fun r => subsR r [(0, r.Samples.length)]) = k := fun k => by
        induction k with
        | nil => rfl
        | cons a k ih => rw [List.flatMap_cons, ih]; simp [subsR, sub_all]
      exact e l
    rw [this]
theorem cut_ok {w : Record} {c : Nat → Nat} {P : List Record} {s : SourceID} (hw : GW s w) (h : Cut w c w.Samples.length P) : VS15 P ∧ P.Pairwise (fun a b => timeR a a.Samples.length ≤ timeR b 0) ∧ (∀ x, Mem (P.map extR) x ↔ Mem [extR w] x) := by
  have hlen := h.len P.length (Nat.le_refl _)
  rw [h.e] at hlen
  have hl := hw.len
  have hR := hw.rf
  have hat : ∀ k (hk : k < P.length), RF P[k] ∧ P[k].Source = s ∧ P[k].Samples.length ≤ 20 ∧ timeR P[k] 0 = timeR w (c k) ∧ timeR P[k] P[k].Samples.length = timeR w (c (k + 1)) := fun k hk => by
    have hb := h.bd (k := k + 1) (by omega)
    have hs := h.st k hk
    rw [h.at_ k hk]
    have e1 := partS_len w (c k) (c (k + 1)) k hb
    refine ⟨hR.part hs hb (by omega) (by omega), hw.src, by omega, ?_, ?_⟩
    · rw [partS_time, Int.add_zero]
    · rw [e1, partS_time, show (c k : Int) + ((c (k + 1) - c k : Nat) : Int) = (c (k + 1) : Int) by omega]
  have hmem : ∀ r ∈ P, RF r ∧ r.Source = s ∧ r.Samples.length ≤ 20 := fun r hr => by
    obtain ⟨k, hk, e⟩ := List.mem_iff_getElem.1 hr
    have := hat k hk
    rw [e] at this
    exact ⟨this.1, this.2.1, this.2.2.1⟩
  refine ⟨⟨⟨fun r hr => (hmem r hr).1, fun r hr q hq => (hmem r hr).2.1.trans (hmem q hq).2.1.symm⟩, by omega, fun r hr => by have := (hmem r hr).2.2; omega⟩, ?_, fun x => ?_⟩
  · rw [List.pairwise_iff_getElem]
    intro i j hi hj hij
    rw [(hat i hi).2.2.2.2, (hat j hj).2.2.2.1]
    exact hR.mono (by have := h.mono (j := i + 1) (k := j) (by omega) (by omega); omega)
  · rw [mem_one]
    constructor
    · rintro ⟨q, hq, h1, h2⟩
      obtain ⟨r, hr, rfl⟩ := List.mem_map.1 hq
      obtain ⟨k, hk, e⟩ := List.mem_iff_getElem.1 hr
      have ha := hat k hk
      rw [e] at ha
      have hb := h.bd (k := k + 1) (by omega)
      have g1 := hR.mono (i := 0) (j := (c k : Int)) (by omega)
      have g2 := hR.mono (i := (c (k + 1) : Int)) (j := (w.Samples.length : Int)) (by omega)
      have h1' : timeR r 0 ≤ x := h1
      have h2' : x < timeR r r.Samples.length := h2
      show timeR w 0 ≤ x ∧ x < timeR w w.Samples.length
      rw [ha.2.2.2.1] at h1'
      rw [ha.2.2.2.2] at h2'
      omega
    · rintro ⟨h1, h2⟩
      have h1 : timeR w 0 ≤ x := h1
      have h2 : x < timeR w w.Samples.length := h2
      have key : ∀ k, k ≤ P.length → x < timeR w (c k) → ∃ j, j < k ∧ timeR w (c j) ≤ x ∧ x < timeR w (c (j + 1)) := by
        intro k
        induction k with
        | zero =>
          intro _ hx
          rw [h.z] at hx
          exact absurd hx (by show ¬ x < timeR w ((0 : Nat) : Int); rw [show ((0 : Nat) : Int) = 0 from rfl]; omega)
        | succ k ih =>
          intro hk hx
          by_cases hc : x < timeR w (c k)
          · obtain ⟨j, hj, hh⟩ := ih (by omega) hc
            exact ⟨j, by omega, hh⟩
          · exact ⟨k, by omega, by omega, hx⟩
      obtain ⟨j, hj, h3, h4⟩ := key P.length (Nat.le_refl _) (by rw [h.e]; exact h2)
      have ha := hat j hj
      refine ⟨extR P[j], List.mem_map.2 ⟨_, List.getElem_mem hj, rfl⟩, ?_, ?_⟩
      · show timeR P[j] 0 ≤ x
        rw [ha.2.2.2.1]; exact h3
      · show x < timeR P[j] P[j].Samples.length
        rw [ha.2.2.2.2]; exact h4
theorem vs_of {l : List Record} {s : SourceID} (hs : srcB s = true) (h : ∀ r ∈ l, RQ s 6 r) (hl : l.length ≤ 100) : VS15 l :=
  ⟨⟨fun r hr => (h r hr).rf hs (by decide), fun r hr q hq => (h r hr).src.trans (h q hq).src.symm⟩, hl, fun r hr => by have := (h r hr).l1; omega⟩
theorem law15_ComposeBest_true (t : List Int) : law15_ComposeBest t = some true := by
  unfold law15_ComposeBest
  rw [light_spec]
  simp only [Option.bind_some]
  by_cases hl : t.length ≤ 500
  case neg => rw [decide_eq_false hl, sane_true]; rfl
  rw [decide_eq_true hl]
  simp only [Bool.not_true, Bool.false_eq_true, if_false, made_Roll, Option.bind_some]
  obtain ⟨l, d1, s, e1, hs, hq, hn, hd1⟩ := drecords_spec (DOK.roll hl) (n := 6) (by decide) (by decide)
  rw [e1]; simp only [Option.bind_some]
  have hv : VS15 l := vs_of hs hq (by omega)
  obtain ⟨m, cm, em, hc⟩ := Comp_ok hv
  rw [cm]
  simp only [Option.bind_some, bne_self_eq_false, Bool.false_eq_true, if_false]
  have hval : ∀ t, compose_Value l t = some (findV m t) := fun t => value_ok hv em (fun q hq => hc.rf hv.toVL hq) (by have := hc.len hv; omega) t
  refine whileM_for' (fun i => (i : Int)) l.length _ rfl (fun i hi => ?_) ?_
  · have hR := hv.rf _ (List.getElem_mem hi)
    have hR1 := hR.l1
    obtain ⟨b, hb⟩ : ∃ b, l[i] = b := ⟨_, rfl⟩
    have hbl : b ∈ l := hb ▸ List.getElem_mem hi
    rw [hb] at hR hR1
    unfold law15_ComposeBest_l12
    simp only
    rw [if_pos (decide_eq_true (by omega)), ix_nat _ _ hi, hb]
    simp only [Option.bind_some]
    have hw : whileM (law15_ComposeBest_l17 (l, d1) b) (true, 0) = some (l.all fun r => !(decide (betR r b < 0))) := by
      refine whileM_for' (fun j => ((l.take j).all fun r => !(decide (betR r b < 0)), (j : Int))) l.length _ (by simp) (fun j hj => ?_) ?_
      · have hQ := hv.rf _ (List.getElem_mem hj)
        have hQ1 := hQ.l1
        unfold law15_ComposeBest_l17
        simp only
        rw [if_pos (decide_eq_true (by omega)), ix_nat _ _ hj]
        simp only [Option.bind_some]
        rw [rbetter_eq hQ.sm hR.sm (by omega), w64_n (by omega), take_one hj, List.all_append]
        cases (l.take j).all fun r => !(decide (betR r b < 0)) <;> simp
      · unfold law15_ComposeBest_l17
        simp only
        rw [if_neg (by simp), List.take_length]
    rw [hw]
    simp only [Option.bind_some]
    unfold law15_ComposeBest_j1
    rw [w64_n (by omega)]
    by_cases hbest : (l.all fun r => !(decide (betR r b < 0))) = true
    · rw [hbest]
      simp only [Bool.not_true, Bool.false_eq_true, if_false]
      have hno : ∀ q ∈ l, ¬ betR q b < 0 := fun q hq => by simpa using List.all_eq_true.1 hbest q hq
      refine whileM_for' (fun j => (j : Int)) b.Samples.length _ rfl (fun j hj => ?_) ?_
      · unfold law15_ComposeBest_l19
        rw [if_pos (decide_eq_true (by omega)), ix_nat _ _ hj, hR.refAt (by omega) (by omega)]
        simp only [Option.bind_some]
        rw [hval, findV_keep hv.toVL hc hbl hj (keep_best hno j) (Int.le_refl _) (hR.lt (by omega))]
        have hg : b.Samples.getD j 0 = b.Samples[j] := by simp [List.getD_eq_getElem?_getD, hj]
        rw [hg]
        simp only [Option.bind_some, Bool.not_true, bne_self_eq_false, Bool.or_self, Bool.false_eq_true, if_false]
        rw [w64_n (by omega)]
      · unfold law15_ComposeBest_l19 law15_ComposeBest_j1
        rw [if_neg (by simp), w64_n (by omega)]
        rfl
    · rw [Bool.not_eq_true] at hbest
      rw [hbest]
      rfl
  · unfold law15_ComposeBest_l12
    rw [if_neg (by simp)]
    obtain ⟨w, P, d2, s', c, e2, hs', hw, hcut, hd2⟩ := dgrid_spec hd1
    rw [e2]
    simp only [Option.bind_some]
    obtain ⟨hvP, hap, hmem⟩ := cut_ok hw hcut
    obtain ⟨y, cy, _, oy⟩ := Comp_ok hvP
    obtain ⟨k, ck, hk⟩ := covered_ok hvP
    rw [cy, ck, hw.rf.refSpan]
    have hyP := whole_ok hvP oy hap
    have hkw : k = [extR w] := by
      have h2 : NS (P.map extR) [extR w] := by
        have hne := extR_ne hw.rf
        have hPl : 1 ≤ P.length := by
          rcases Nat.eq_zero_or_pos P.length with h0 | h0
          · have := hcut.e
            rw [h0, hcut.z] at this
            have := hw.len
            omega
          · exact h0
        refine ⟨⟨fun x hx => ?_, List.pairwise_singleton _ _⟩, fun y => (hmem y).symm, by simp; omega, fun x hx => ?_⟩
        · rcases List.mem_singleton.1 hx with rfl; exact hne
        · rcases List.mem_singleton.1 hx with rfl
          have hR := hw.rf
          refine ⟨⟨extR P[0], List.mem_map.2 ⟨_, List.getElem_mem (by omega), rfl⟩, ?_⟩, ⟨extR (P[P.length - 1]'(by omega)), List.mem_map.2 ⟨_, List.getElem_mem (by omega), rfl⟩, ?_⟩⟩
          · show timeR w 0 = timeR P[0] 0
            rw [hcut.at_ 0 (by omega), partS_time, hcut.z]
            rfl
          · show timeR w w.Samples.length = timeR (P[P.length - 1]'(by omega)) (P[P.length - 1]'(by omega)).Samples.length
            have hb := hcut.bd (k := P.length) (Nat.le_refl _)
            have hst := hcut.st (P.length - 1) (by omega)
            have e1 : P.length - 1 + 1 = P.length := by omega
            have he := hcut.e
            rw [e1] at hst
            rw [hcut.at_ (P.length - 1) (by omega), e1, partS_len _ _ _ _ hb, partS_time, he, show (c (P.length - 1) : Int) + ((w.Samples.length - c (P.length - 1) : Nat) : Int) = (w.Samples.length : Int) by omega]
      exact hk.uniq h2
    subst hyP
    rw [hkw]
    have hPl := hvP.len
    simp only [Option.bind_some, beq_self_eq_true, Bool.and_self, if_true]
    rw [rSameList_refl (l := y) (by omega) (fun r hr => by have := hvP.smp r hr; omega)]
    simp only [Option.bind_some, if_true]
    rw [show (⟨timeR w 0, timeR w w.Samples.length⟩ : Span) = extR w from rfl, rspan_refl _ (by simp)]
    simp only [Option.bind_some, if_true, Bool.true_and]
    have hmin : min (l.length : Int) 1 ≤ (m.length : Int) := by
      by_cases hl0 : l = []
      · have : l.length = 0 := by rw [hl0]; rfl
        omega
      · obtain ⟨b, hb, hno⟩ := best_ex hl0
        have hR := hv.rf b hb
        have hf := findV_keep hv.toVL hc hb (i := 0) (by have := hR.l0; omega) (keep_best hno 0) (Int.le_refl _) (hR.lt (by omega))
        have : m ≠ [] := fun h => by rw [h] at hf; simp [findV] at hf
        have := List.length_pos_iff.2 this
        omega
    rw [if_pos (decide_eq_true hmin), sane_true]
    rfl

end Go.Proofs.YthdimlepjpnncaaGreat.Sh

/- The law ComposeOnce as a plain program: it is true at every input. -/
import Derived.Test.YthdimlepjpnncaaGreatComp4
import Derived.Test.YthdimlepjpnncaaGreatRefCmp
import Derived.Test.YthdimlepjpnncaaGreatDiceRecs
namespace Go.Proofs.YthdimlepjpnncaaGreat.Sh
open Go
set_option linter.unusedVariables false
set_option linter.unusedSimpArgs false

theorem vs_of {l : List Record} {s : SourceID} (hs : srcB s = true) (h : ∀ r ∈ l, RQ s 6 r) (hl : l.length ≤ 100) : VS15 l :=
  ⟨⟨fun r hr => (h r hr).rf hs (by decide), fun r hr q hq => (h r hr).src.trans (h q hq).src.symm⟩, hl, fun r hr => by have := (h r hr).l1; omega⟩
theorem RF.cover {r : Record} (h : RF r) {t : Int} (h1 : timeR r 0 ≤ t) (h2 : t < timeR r r.Samples.length) : ∃ i : Nat, i < r.Samples.length ∧ timeR r (i : Int) ≤ t ∧ t < timeR r ((i : Int) + 1) := by
  have key : ∀ k : Nat, k ≤ r.Samples.length → t < timeR r (k : Int) → ∃ j : Nat, j < k ∧ timeR r (j : Int) ≤ t ∧ t < timeR r ((j : Int) + 1) := by
    intro k
    induction k with
    | zero => intro _ hx; exact absurd hx (by rw [show ((0 : Nat) : Int) = 0 from rfl]; omega)
    | succ k ih =>
      intro hk hx
      by_cases hc : t < timeR r (k : Int)
      · obtain ⟨j, hj, hh⟩ := ih (by omega) hc
        exact ⟨j, by omega, hh⟩
      · exact ⟨k, by omega, by omega, by rw [show (k : Int) + 1 = ((k + 1 : Nat) : Int) by omega]; exact hx⟩
  exact key r.Samples.length (Nat.le_refl _) h2
/-- no time of both -/
def Apart (x y : Record) : Prop := ∀ t, ¬ ((timeR x 0 ≤ t ∧ t < timeR x x.Samples.length) ∧ timeR y 0 ≤ t ∧ t < timeR y y.Samples.length)
/-- a time of a part is one of a sample that is kept -/
theorem part_time {l : List Record} (h : VL l) {r : Record} (hr : r ∈ l) {a b : Nat} (hp : (a, b) ∈ runsR (sset cmpR l) r) {t : Int} (h1 : timeR (subR r a b) 0 ≤ t) (h2 : t < timeR (subR r a b) (subR r a b).Samples.length) : ∃ i, a ≤ i ∧ i < b ∧ i < r.Samples.length ∧ keepR (sset cmpR l) r i = true ∧ timeR r (i : Int) ≤ t ∧ t < timeR r ((i : Int) + 1) := by
  have hR := h.rf r hr
  obtain ⟨p1, p2, p3, _⟩ := (runsR_spec (sset cmpR l) hR).2.1.ok _ hp
  simp only at p1 p2 p3
  obtain ⟨j, hj, t1, t2⟩ := (hR.sub p1 p2).cover h1 h2
  rw [subR_len r a b p2] at hj
  rw [subR_time] at t1 t2
  refine ⟨a + j, by omega, by omega, by omega, p3 _ (by omega) (by omega), ?_, ?_⟩
  · rw [show ((a + j : Nat) : Int) = (a : Int) + (j : Int) by omega]; exact t1
  · rw [show ((a + j : Nat) : Int) + 1 = (a : Int) + ((j : Int) + 1) by omega]; exact t2
theorem CompOf.apart {l m : List Record} (hc : CompOf l m) (h : VL l) : m.Pairwise Apart := by
  refine (hc.perm.pairwise_iff (fun {x y} hxy t ht => hxy t ⟨ht.2, ht.1⟩)).2 ?_
  rw [List.pairwise_flatMap]
  refine ⟨fun r hr => ?_, ?_⟩
  · have hr := mem_ss.1 hr
    have hR := h.rf r hr
    have hs := (runsR_spec (sset cmpR l) hR).2.1
    unfold partsR subsR
    rw [List.pairwise_map]
    refine List.Pairwise.imp_of_mem (fun {p q} hp hq hpq t ht => ?_) hs.asc
    obtain ⟨a1, a2, _⟩ := hs.ok p hp
    obtain ⟨b1, b2, _⟩ := hs.ok q hq
    have e1 := subR_len r p.1 p.2 a2
    have h1 := ht.1.2
    have h2 := ht.2.1
    rw [e1, subR_time] at h1
    rw [subR_time] at h2
    have := hR.mono (i := (p.1 : Int) + ((p.2 - p.1 : Nat) : Int)) (j := (q.1 : Int) + 0) (by omega)
    omega
  · refine List.Pairwise.imp_of_mem (fun {r q} hr hq hrq x hx y hy t ht => ?_) (sset_pw cmpR_cmp (fun _ _ => cmpR_eq) l)
    have hr := mem_ss.1 hr
    have hq := mem_ss.1 hq
    obtain ⟨p, hp, rfl⟩ := List.mem_map.1 hx
    obtain ⟨p', hp', rfl⟩ := List.mem_map.1 hy
    obtain ⟨i, _, _, i1, ki, t1, t2⟩ := part_time h hr (a := p.1) (b := p.2) hp ht.1.1 ht.1.2
    obtain ⟨j, _, _, j1, kj, t3, t4⟩ := part_time h hq (a := p'.1) (b := p'.2) hp' ht.2.1 ht.2.2
    have e := (keep_uniq h hr hq i1 j1 ki kj t1 t2 t3 t4).1
    subst e
    have := cmpR_cmp.refl r
    omega
theorem CompOf.strict {l m : List Record} (hc : CompOf l m) (h : VL l) : m.Pairwise (fun a b => cmpR a b < 0) := by
  refine List.Pairwise.imp_of_mem (fun {x y} hx hy hxy => ?_) (hc.asc.and (hc.apart h))
  rcases Int.lt_or_eq_of_le hxy.1 with h1 | h1
  · exact h1
  · have e := cmpR_eq h1
    subst e
    have hR := hc.rf h hx
    exact absurd ⟨⟨Int.le_refl _, hR.lt (by have := hR.l0; omega)⟩, Int.le_refl _, hR.lt (by have := hR.l0; omega)⟩ (hxy.2 (timeR x 0))
theorem CompOf.len6 {l m : List Record} (hc : CompOf l m) (h : VS15 l) (hl : l.length ≤ 6) (h6 : ∀ r ∈ l, r.Samples.length ≤ 6) : m.length ≤ 42 := by
  rw [hc.perm.length_eq]
  have h1 := sset_len cmpR l
  have h3 := flat_len (partsR (sset cmpR l)) 7 (sset cmpR l) fun x hx => by
    have hx := mem_ss.1 hx
    have h1 := (runsR_spec (sset cmpR l) (h.rf x hx)).2.2
    have h2 := h6 x hx
    unfold partsR subsR
    rw [List.length_map]; omega
  omega
theorem runion_ok {a b : List Span} (h : a.length + b.length ≤ 1000) : ∃ r, ref08_Union a b = some r ∧ NS (a ++ b) r := by
  unfold ref08_Union
  rw [appM_one _ _ _ (by simp; omega) (by decide)]
  simp only [Option.bind_some, List.nil_append]
  rw [appM_one _ _ _ (by omega) (by decide)]
  simp only [Option.bind_some]
  obtain ⟨r, er, hr⟩ := rnormal_spec (l := a ++ b) (by simp; omega)
  rw [er]
  exact ⟨r, rfl, hr⟩
/-- is it a part of one of the list that none better than it meets? -/
theorem found_ok {l : List Record} (hv : VS15 l) (h6 : ∀ r ∈ l, r.Samples.length ≤ 6) {d : Dice} {m : List Record} (hc : CompOf l m) {x : Record} (hx : x ∈ m) : whileM (law15_ComposeOnce_l33 (l, d) x (extR x, 0)) (false, 0) = some true := by
  obtain ⟨r, hr, a, b, hab, hb, hxe, hrun⟩ := hc.mem hv.toVL hx
  have hX := hc.rf hv.toVL hx
  have hxl : x.Samples.length = b - a := by rw [hxe]; exact subR_len r a b hb
  have hr6 := h6 r hr
  have hlen := hv.len
  have x0 := hX.l0
  have xf0 := hX.f0
  have xf1 := hX.f1
  obtain ⟨k, hk, ek⟩ := List.mem_iff_getElem.1 hr
  have clear : ∀ o ∈ l, ∃ c, whileM (law15_ComposeOnce_l37 (l, d) (extR x, 0) o) (true, 0) = some c ∧ ((∀ p ∈ l, betR p o < 0 → Apart p x) → c = true) := by
    intro o ho
    have hO := hv.rf o ho
    have o6 := h6 o ho
    let ok (p : Record) : Bool := !((decide (betR p o < 0) && decide ((extR p).From < (extR x).To)) && decide ((extR x).From < (extR p).To))
    refine ⟨l.all ok, ?_, fun h => ?_⟩
    · refine whileM_for' (fun j => ((l.take j).all ok, (j : Int))) l.length _ (by simp) (fun j hj => ?_) ?_
      · have hP := hv.rf _ (List.getElem_mem hj)
        have p6 := h6 _ (List.getElem_mem hj)
        unfold law15_ComposeOnce_l37
        simp only
        rw [if_pos (decide_eq_true (by omega)), ix_nat _ _ hj]
        simp only [Option.bind_some]
        rw [hP.refSpan, rbetter_eq hP.sm hO.sm (by omega)]
        simp only [Option.bind_some]
        unfold law15_ComposeOnce_j3
        simp only
        rw [w64_n (by omega), take_one hj, List.all_append]
        have e : ((decide (betR l[j] o < 0) && decide (timeR l[j] 0 < (extR x).To)) && decide ((extR x).From < timeR l[j] l[j].Samples.length)) = !(ok l[j]) := by
          show _ = !(!_)
          rw [Bool.not_not]
          rfl
        rw [e]
        rw [show [l[j]].all ok = ok l[j] by rw [List.all_cons, List.all_nil, Bool.and_true]]
        cases ok l[j] <;> cases (l.take j).all ok <;> rfl
      · unfold law15_ComposeOnce_l37
        simp only
        rw [if_neg (by simp), List.take_length]
    · rw [List.all_eq_true]
      intro p hp
      show (!_) = true
      rw [Bool.not_eq_true', Bool.and_eq_false_iff, Bool.and_eq_false_iff, decide_eq_false_iff_not, decide_eq_false_iff_not, decide_eq_false_iff_not]
      refine Classical.byContradiction fun hn => ?_
      have h1 : betR p o < 0 := Classical.byContradiction fun h => hn (.inl (.inl h))
      have h2 : (extR p).From < (extR x).To := Classical.byContradiction fun h => hn (.inl (.inr h))
      have h3 : (extR x).From < (extR p).To := Classical.byContradiction fun h => hn (.inr h)
      have hP := hv.rf p hp
      have g1 := extR_ne hP
      have g2 := extR_ne hX
      have h2 : timeR p 0 < timeR x x.Samples.length := h2
      have h3 : timeR x 0 < timeR p p.Samples.length := h3
      have g1 : timeR p 0 < timeR p p.Samples.length := g1
      have g2 : timeR x 0 < timeR x x.Samples.length := g2
      exact h p hp h1 (max (timeR p 0) (timeR x 0)) ⟨⟨by omega, by omega⟩, by omega, by omega⟩
  have hcl : ∀ p ∈ l, betR p r < 0 → Apart p x := by
    intro p hp hpb t ht
    rw [hxe] at ht
    obtain ⟨i, _, _, i1, ki, t1, t2⟩ := part_time hv.toVL hr hrun ht.2.1 ht.2.2
    exact (keep_iff hv.toVL hr).1 ki p hp hpb t t1 t2 ht.1
  suffices hs : ∃ o, whileM (law15_ComposeOnce_l33 (l, d) x (extR x, 0)) (false, 0) = some o ∧ o = true by
    obtain ⟨o, e1, e2⟩ := hs
    rw [e1, e2]
  refine loop_ex (fun n s => ∃ j : Nat, s.2 = (j : Int) ∧ j ≤ l.length ∧ n + j = l.length ∧ (k < j → s.1 = true)) (fun o => o = true) ?_ l.length (false, 0) ⟨0, rfl, Nat.zero_le _, rfl, fun h => by omega⟩
  rintro n ⟨f, j'⟩ ⟨j, hj, hjl, hn, hf⟩
  simp only at hj hf
  subst hj
  unfold law15_ComposeOnce_l33
  simp only
  by_cases hjlt : j < l.length
  · left
    have hO := hv.rf _ (List.getElem_mem hjlt)
    have o6 := h6 _ (List.getElem_mem hjlt)
    have of0 := hO.f0
    have of1 := hO.f1
    rw [if_pos (decide_eq_true (by omega)), ix_nat _ _ hjlt]
    simp only [Option.bind_some]
    obtain ⟨o, ho⟩ : ∃ o, l[j] = o := ⟨_, rfl⟩
    have hol : o ∈ l := ho ▸ List.getElem_mem hjlt
    rw [ho] at hO o6 of0 of1 ⊢
    rw [w64_id (x := x.First - o.First) (by omega) (by omega), w64_id (x := x.First - o.First + (x.Samples.length : Int)) (by omega) (by omega)]
    have j1 : ∀ g : Bool, (f = true → g = true) → (k = j → g = true) → ∃ s' n', law15_ComposeOnce_j1 (f, (j : Int)) g = some (.inl s') ∧ (∃ j : Nat, s'.2 = (j : Int) ∧ j ≤ l.length ∧ n' + j = l.length ∧ (k < j → s'.1 = true)) ∧ n' < n := by
      intro g g1 g2
      unfold law15_ComposeOnce_j1
      simp only
      rw [w64_n (by omega)]
      refine ⟨_, n - 1, rfl, ⟨j + 1, rfl, by omega, by omega, fun h => ?_⟩, by omega⟩
      by_cases e : k = j
      · exact g2 e
      · exact g1 (hf (by omega))
    have hko : k = j → o = r := fun e => by subst e; rw [← ho, ek]
    by_cases hcond : x.First - o.First < 0 ∨ (o.Samples.length : Int) < x.First - o.First + (x.Samples.length : Int)
    · rw [if_pos (by simpa using hcond)]
      refine j1 f id fun e => ?_
      exfalso
      have e1 := hko e
      subst e1
      have : x.First = o.First + a := by rw [hxe]; rfl
      omega
    · rw [if_neg (by simpa using hcond)]
      obtain ⟨q, hq⟩ : ∃ q : Nat, x.First - o.First = (q : Int) := ⟨(x.First - o.First).toNat, by omega⟩
      have hq2 : x.First - o.First + (x.Samples.length : Int) = ((q + x.Samples.length : Nat) : Int) := by omega
      rw [hq2, hq, rSub_eq hO (a := q) (b := q + x.Samples.length) (by omega) (by omega)]
      simp only [Option.bind_some, beq_self_eq_true, if_true]
      have hS := hO.sub (a := q) (b := q + x.Samples.length) (by omega) (by omega)
      rw [rsame_eq hS.sm, record_Same_eq hS.sm]
      simp only [Option.bind_some]
      unfold law15_ComposeOnce_j2
      by_cases he : subR o q (q + x.Samples.length) = x
      · rw [if_pos (by simp [he])]
        obtain ⟨c, ec, hct⟩ := clear o hol
        rw [ec]
        simp only [Option.bind_some]
        refine j1 (f || c) (fun h => by rw [h]; rfl) fun e => ?_
        have e1 := hko e
        subst e1
        rw [hct hcl]
        simp
      · rw [if_neg (by simp [he])]
        refine j1 f id fun e => ?_
        exfalso
        have e1 := hko e
        subst e1
        have h1 : x.First = o.First + a := by rw [hxe]; rfl
        have h2 : q = a := by omega
        rw [h2, hxl, show a + (b - a) = b by omega] at he
        exact he hxe.symm
  · right
    rw [if_neg (by simp; omega)]
    exact ⟨_, rfl, hf (by omega)⟩
theorem law15_ComposeOnce_true (t : List Int) (n : Int) (_ : (t.length : Int) ≤ 140737488355328 ∧ ∀ x ∈ t, -9223372036854775808 ≤ x ∧ x ≤ 9223372036854775807) (hn : 0 ≤ n ∧ n ≤ 65535) : law15_ComposeOnce t n = some true := by
  unfold law15_ComposeOnce
  rw [light_spec]
  simp only [Option.bind_some]
  by_cases hl : t.length ≤ 500
  case neg => rw [decide_eq_false hl, sane_true]; rfl
  rw [decide_eq_true hl]
  simp only [Bool.not_true, Bool.false_eq_true, if_false, made_Roll, Option.bind_some]
  obtain ⟨l, d1, s, e1, hs, hq, hln, hd1⟩ := drecords_spec (DOK.roll hl) (n := 6) (by decide) (by decide)
  rw [e1]; simp only [Option.bind_some]
  have hv : VS15 l := vs_of hs hq (by omega)
  have h6 : ∀ r ∈ l, r.Samples.length ≤ 6 := fun r hr => by have := (hq r hr).l1; omega
  obtain ⟨m, cm, em, hc⟩ := Comp_ok hv
  have hml := hc.len6 hv (by omega) h6
  rw [cm]
  simp only [Option.bind_some, bne_self_eq_false, Bool.false_eq_true, if_false]
  have hrf : ∀ q ∈ m, RF q := fun q hq => hc.rf hv.toVL hq
  suffices hsf : ∃ o, whileM (law15_ComposeOnce_l22 n (l, d1) (m, 0)) (([] : List Span), 0, 0) = some o ∧ o = true by
    obtain ⟨o, e1, e2⟩ := hsf
    rw [e1, e2]
  refine loop_ex (fun k s => ∃ i : Nat, s.2.2 = (i : Int) ∧ i ≤ m.length ∧ k + i = m.length ∧ (∀ x, Mem s.1 x ↔ Mem ((m.take i).map extR) x) ∧ s.1.length ≤ i) (fun o => o = true) ?_ m.length _ ⟨0, rfl, Nat.zero_le _, rfl, fun x => by simp, by simp⟩
  rintro k ⟨A, len, i'⟩ ⟨i, hi, him, hk, hA, hAl⟩
  simp only at hi hA hAl
  subst hi
  unfold law15_ComposeOnce_l22
  simp only
  by_cases hilt : i < m.length
  · left
    obtain ⟨x, hx⟩ : ∃ x, m[i] = x := ⟨_, rfl⟩
    have hxm : x ∈ m := hx ▸ List.getElem_mem hilt
    have hX := hrf x hxm
    have xl := hX.l1
    rw [if_pos (decide_eq_true (by omega)), ix_nat _ _ hilt, hx]
    simp only [Option.bind_some]
    rw [hX.refSpan]
    simp only [Option.bind_some, bne_self_eq_false, Bool.false_eq_true, if_false]
    obtain ⟨c, ec, hcv, hcm⟩ := rmeet_spec (a := A) (b := [⟨timeR x 0, timeR x x.Samples.length⟩]) (by omega) (by simp)
    have ecut : ref08_Cut A (timeR x 0) (timeR x x.Samples.length) = some c := by unfold ref08_Cut; rw [ec]; rfl
    rw [ecut]
    simp only [Option.bind_some]
    have hap := List.pairwise_iff_getElem.1 (hc.apart hv.toVL)
    have hce : c = [] := by
      cases hce : c with
      | nil => rfl
      | cons z c' =>
        exfalso
        rw [hce] at hcv hcm
        have hz := hcv.ne z List.mem_cons_self
        have h1 := (hcm z.From).1 ⟨z, List.mem_cons_self, Int.le_refl _, hz⟩
        obtain ⟨w, hw, h2⟩ := (hA z.From).1 h1.1
        obtain ⟨y, hy, rfl⟩ := List.mem_map.1 hw
        obtain ⟨j, hj⟩ := List.mem_iff_getElem?.1 hy
        rw [List.getElem?_take] at hj
        split at hj
        · next hji =>
          obtain ⟨hjl, hj'⟩ := at_some hj
          have := hap j i hjl hilt hji
          rw [hj', hx] at this
          exact this z.From ⟨h2, mem_one.1 h1.2⟩
        · cases hj
    rw [hce]
    simp only [List.length_nil]
    rw [if_neg (by decide)]
    have hcmp : (if decide ((0 : Int) < (i : Int)) = true then (ix m (w64 ((i : Int) - 1))).bind fun x4327 => (ref14_Compare x4327 x).bind fun rv4339 => some (decide (0 ≤ rv4339)) else some false) = some false := by
      by_cases hi0 : 0 < i
      · rw [if_pos (decide_eq_true (by omega)), w64_id (by omega) (by omega), show (i : Int) - 1 = ((i - 1 : Nat) : Int) by omega, ix_nat _ _ (show i - 1 < m.length by omega)]
        simp only [Option.bind_some]
        have hY := hrf _ (List.getElem_mem (show i - 1 < m.length by omega))
        have yl := hY.l1
        rw [rcompare_eq hY.sm hX.sm (by omega)]
        simp only [Option.bind_some]
        have := List.pairwise_iff_getElem.1 (hc.strict hv.toVL) (i - 1) i (by omega) hilt (by omega)
        rw [hx] at this
        rw [decide_eq_false (by omega)]
      · rw [if_neg (by simp; omega)]
    rw [hcmp]
    simp only [Option.bind_some, Bool.false_eq_true, if_false]
    obtain ⟨u, eu, hu⟩ := runion_ok (a := A) (b := [⟨timeR x 0, timeR x x.Samples.length⟩]) (by simp; omega)
    rw [eu]
    simp only [Option.bind_some]
    rw [show ((⟨timeR x 0, timeR x x.Samples.length⟩ : Span), (0 : Int)) = (extR x, 0) from rfl, found_ok hv h6 hc hxm]
    simp only [Option.bind_some, Bool.not_true, Bool.false_eq_true, if_false]
    rw [w64_n (by omega)]
    refine ⟨_, k - 1, rfl, ⟨i + 1, rfl, by omega, by omega, fun z => ?_, ?_⟩, by omega⟩
    · simp only
      rw [hu.mem, take_one hilt, List.map_append, mem_append, mem_append, hA, hx]
      rfl
    · have := hu.len
      simp only [List.length_append, List.length_cons, List.length_nil] at this
      simp only
      omega
  · right
    rw [if_neg (by simp; omega)]
    have hie : i = m.length := by omega
    subst hie
    rw [List.take_length] at hA
    have htm : 0 ≤ Int.tmod n 150 ∧ Int.tmod n 150 < 150 := by
      rw [Int.tmod_eq_emod_of_nonneg hn.1]
      exact ⟨Int.emod_nonneg _ (by decide), Int.emod_lt_of_pos _ (by decide)⟩
    rw [w64_id (x := n) (by omega) (by omega), w64_id (x := 100000 * Int.tmod n 150) (by omega) (by omega), w64_id (by omega) (by omega)]
    simp only [Option.bind_some]
    obtain ⟨at', hat⟩ : ∃ a, 1000000000000 + 100000 * Int.tmod n 150 = a := ⟨_, rfl⟩
    rw [hat, value_ok hv em hrf (by omega)]
    obtain ⟨c, ec, hcm⟩ := has_spec (l := A) (by omega) at'
    rw [ec]
    simp only [Option.bind_some]
    have heq : (findV m at').2 = c := by
      rw [Bool.eq_iff_iff, hcm, hA]
      constructor
      · intro h2
        rcases findV_or m at' with ⟨v, hf⟩ | hf
        · have : ∃ q ∈ m, findR q at' ≠ none := by
            unfold findV at hf
            cases hs : m.findSome? (findR · at') with
            | none => rw [hs] at hf; simp at hf
            | some u =>
              obtain ⟨q, hq, e⟩ := List.exists_of_findSome?_eq_some hs
              exact ⟨q, hq, by rw [e]; simp⟩
          obtain ⟨q, hqm, hne⟩ := this
          cases hf2 : findR q at' with
          | none => exact absurd hf2 hne
          | some u =>
            have hQ := hrf q hqm
            obtain ⟨j, hj, t1, t2, _⟩ := findR_some hQ hf2
            have g1 := hQ.mono (i := 0) (j := (j : Int)) (by omega)
            have g2 := hQ.mono (i := (j : Int) + 1) (j := (q.Samples.length : Int)) (by omega)
            exact ⟨extR q, List.mem_map.2 ⟨q, hqm, rfl⟩, by show timeR q 0 ≤ at'; omega, by show at' < timeR q q.Samples.length; omega⟩
        · rw [hf] at h2; cases h2
      · rintro ⟨w, hw, h1, h2⟩
        obtain ⟨q, hqm, rfl⟩ := List.mem_map.1 hw
        have hQ := hrf q hqm
        obtain ⟨j, hj, t1, t2⟩ := hQ.cover h1 h2
        unfold findV
        cases hs : m.findSome? (findR · at') with
        | none =>
          rw [List.findSome?_eq_none_iff] at hs
          exact absurd t2 (findR_none (hs q hqm) hj t1)
        | some u => rfl
    rw [heq, if_pos (by simp), sane_true]
    exact ⟨_, rfl, rfl⟩

end Go.Proofs.YthdimlepjpnncaaGreat.Sh

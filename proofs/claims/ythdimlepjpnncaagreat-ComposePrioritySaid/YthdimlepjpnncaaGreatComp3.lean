/- Composition of records as plain programs (chapter 15): values, lists that are equal, the chapter's example. -/
import Derived.Test.YthdimlepjpnncaaGreatComp2
namespace Go.Proofs.YthdimlepjpnncaaGreat.Sh
open Go
set_option linter.unusedVariables false
set_option linter.unusedSimpArgs false

theorem RunsOf.mem {k : Nat → Bool} {n : Nat} {P Q : List (Nat × Nat)} (hP : RunsOf k n P) (hQ : RunsOf k n Q) {p : Nat × Nat} (hp : p ∈ P) : p ∈ Q := by
  obtain ⟨a1, a2, a3, a4⟩ := hP.ok p hp
  obtain ⟨q, hq, h1, h2⟩ := hQ.all p.1 (by omega) (a3 p.1 (Nat.le_refl _) a1)
  obtain ⟨b1, b2, b3, b4⟩ := hQ.ok q hq
  have e2 : q.2 = p.2 := by
    rcases Nat.lt_trichotomy q.2 p.2 with h | h | h
    · have := a3 q.2 (by omega) h
      rcases b4 with b4 | b4
      · omega
      · rw [b4] at this; cases this
    · exact h
    · have := b3 p.2 (by omega) h
      rcases a4 with a4 | a4
      · omega
      · rw [a4] at this; cases this
  have e1 : q.1 = p.1 := by
    rcases Nat.lt_or_eq_of_le h1 with h | h
    · exfalso
      obtain ⟨p', hp', h3, h4⟩ := hP.all q.1 (by omega) (b3 q.1 (Nat.le_refl _) b1)
      obtain ⟨c1, c2, c3, c4⟩ := hP.ok p' hp'
      obtain ⟨i, hi, ei⟩ := List.mem_iff_getElem.1 hp
      obtain ⟨j, hj, ej⟩ := List.mem_iff_getElem.1 hp'
      have hpw := List.pairwise_iff_getElem.1 hP.asc
      rcases Nat.lt_trichotomy i j with hij | hij | hij
      · have := hpw i j hi hj hij
        rw [ei, ej] at this
        omega
      · subst hij
        rw [ei] at ej
        subst ej
        omega
      · have := hpw j i hj hi hij
        rw [ei, ej] at this
        have := b3 p'.2 (by omega) (by omega)
        rcases c4 with c4 | c4
        · omega
        · rw [c4] at this; cases this
    · exact h
  have : q = p := Prod.ext e1 e2
  rw [← this]; exact hq
theorem RunsOf.uniq {k : Nat → Bool} {n : Nat} {P Q : List (Nat × Nat)} (hP : RunsOf k n P) (hQ : RunsOf k n Q) : P = Q := by
  have pw : ∀ {R : List (Nat × Nat)}, RunsOf k n R → R.Pairwise (fun a b => cmpI (a.1 : Int) (b.1 : Int) < 0) := fun {R} h => by
    rw [List.pairwise_iff_getElem]
    intro i j hi hj hij
    have h1 := List.pairwise_iff_getElem.1 h.asc i j hi hj hij
    have h2 := (h.ok _ (List.getElem_mem hi)).1
    unfold cmpI
    rw [if_pos (by omega)]
    omega
  exact asc_uniq (c := fun a b : Nat × Nat => cmpI (a.1 : Int) (b.1 : Int)) (cmpI_cmp.by fun a : Nat × Nat => (a.1 : Int)) (pw hP) (pw hQ) fun x => ⟨hP.mem hQ, hQ.mem hP⟩

/-! ### values -/
def findR (r : Record) (t : Int) : Option Int := ((List.range r.Samples.length).find? fun (i : Nat) => decide (timeR r (i : Int) ≤ t) && decide (t < timeR r ((i : Int) + 1))).map fun i => r.Samples.getD i 0
def findV (m : List Record) (t : Int) : Int × Bool := match m.findSome? (findR · t) with
  | some v => (v, true)
  | none => (0, false)
theorem find_range_succ (p : Nat → Bool) (n i : Nat) (hi : i < n) (h : ∀ j, j < i → p j = false) : (List.range n).find? p = if p i = true then some i else (List.range n).find? p := by
  by_cases hc : p i = true
  · rw [if_pos hc]
    rw [List.find?_eq_some_iff_getElem]
    exact ⟨hc, i, by simpa using hi, by simp, fun j hj => by simp [h j hj]⟩
  · rw [if_neg hc]
theorem value1_ok {r : Record} (h : RF r) (t s : Int) : whileM (compose_Value_l11 t s r) 0 = some (match findR r t with | some v => .inr (v, true) | none => .inl (w64 (s + 1))) := by
  have l1 := h.l1
  have f0 := h.f0
  have hb : ∀ i : Nat, i < r.Samples.length → compose_Value_l11 t s r (i : Int) = some (if (decide (timeR r (i : Int) ≤ t) && decide (t < timeR r ((i : Int) + 1))) = true then .inr (.inr (r.Samples.getD i 0, true)) else .inl ((i + 1 : Nat) : Int)) := fun i hi => by
    unfold compose_Value_l11
    rw [if_pos (decide_eq_true (by omega)), ix_nat _ _ hi, at_ok h (by omega) (by omega)]
    simp only [Option.bind_some]
    have hg : r.Samples.getD i 0 = r.Samples[i] := by simp [List.getD_eq_getElem?_getD, hi]
    rw [w64_n (by omega), hg]
    by_cases h1 : timeR r (i : Int) ≤ t
    · rw [if_pos (decide_eq_true h1), at_ok h (by omega) (by omega), decide_eq_true h1]
      simp only [Option.bind_some]
      have e1 : ((i + 1 : Nat) : Int) = (i : Int) + 1 := by omega
      rw [e1]
      by_cases h2 : t < timeR r ((i : Int) + 1)
      · rw [decide_eq_true h2]; rfl
      · rw [decide_eq_false h2]; rfl
    · rw [if_neg (by simpa using h1), decide_eq_false h1]
      rfl
  have key : ∀ m, m ≤ r.Samples.length → (∀ j, j < r.Samples.length - m → (decide (timeR r (j : Int) ≤ t) && decide (t < timeR r ((j : Int) + 1))) = false) → whileM (compose_Value_l11 t s r) ((r.Samples.length - m : Nat) : Int) = some (match findR r t with | some v => .inr (v, true) | none => .inl (w64 (s + 1))) := by
    intro m
    induction m with
    | zero =>
      intro _ hj
      rw [whileM_eq, Nat.sub_zero]
      have : findR r t = none := by
        unfold findR
        rw [Option.map_eq_none_iff, List.find?_eq_none]
        intro j hm
        have := hj j (by simpa using hm)
        rw [this]; decide
      rw [this]
      unfold compose_Value_l11
      rw [if_neg (by simp)]
      rfl
    | succ m ih =>
      intro hm hj
      obtain ⟨i, hi⟩ : ∃ i, r.Samples.length - (m + 1) = i := ⟨_, rfl⟩
      have hi' : r.Samples.length - m = i + 1 := by omega
      rw [hi] at hj ⊢
      rw [hi'] at ih
      rw [whileM_eq, hb i (by omega)]
      by_cases hc : (decide (timeR r (i : Int) ≤ t) && decide (t < timeR r ((i : Int) + 1))) = true
      · rw [if_pos hc]
        have : findR r t = some (r.Samples.getD i 0) := by
          unfold findR
          rw [find_range_succ _ r.Samples.length i (by omega) hj, if_pos hc]
          rfl
        rw [this]
        rfl
      · rw [if_neg hc]
        refine ih (by omega) fun j hjl => ?_
        by_cases e : j = i
        · subst e; simpa using hc
        · exact hj j (by omega)
  have := key r.Samples.length (Nat.le_refl _) (fun j hj => by omega)
  rw [Nat.sub_self] at this
  exact this
theorem value_ok {l m : List Record} (h : VS15 l) (em : compose_compose l = some m) (hm : ∀ q ∈ m, RF q) (hml : m.length ≤ 1000000) (t : Int) : compose_Value l t = some (findV m t) := by
  have hl := h.len
  unfold compose_Value
  rw [valid_ok h.toVL (by omega)]
  simp only [Option.bind_some, Bool.not_true, Bool.false_eq_true, if_false]
  rw [em]
  simp only [Option.bind_some]
  have key : ∀ k, k ≤ m.length → whileM (compose_Value_l7 t m) ((m.length - k : Nat) : Int) = some (findV (m.drop (m.length - k)) t) := by
    intro k
    induction k with
    | zero =>
      intro _
      rw [whileM_eq, Nat.sub_zero]
      unfold compose_Value_l7
      rw [if_neg (by simp)]
      simp [findV]
    | succ k ih =>
      intro hk
      obtain ⟨i, hi⟩ : ∃ i, m.length - (k + 1) = i := ⟨_, rfl⟩
      have hi' : m.length - k = i + 1 := by omega
      rw [hi'] at ih
      rw [hi, whileM_eq, List.drop_eq_getElem_cons (show i < m.length by omega)]
      unfold compose_Value_l7
      rw [if_pos (decide_eq_true (by omega)), ix_nat _ _ (show i < m.length by omega)]
      simp only [Option.bind_some]
      rw [value1_ok (hm _ (List.getElem_mem _)) t (i : Int)]
      unfold findV
      rw [List.findSome?_cons]
      cases hf : findR m[i] t with
      | some v => rfl
      | none =>
        simp only [Option.bind_some]
        rw [w64_n (by omega)]
        exact ih (by omega)
  have := key m.length (Nat.le_refl _)
  rw [Nat.sub_self] at this
  exact this

/-! ### equal lists -/
theorem rSame_refl {r : Record} (h : r.Samples.length ≤ 1000000000) : ref14_Same r r = some true := by
  unfold ref14_Same
  simp only [ba_refl, beq_self_eq_true, Bool.and_self, if_true]
  have : ref05_Same r.Samples r.Samples = some true := by
    unfold ref05_Same
    rw [if_neg (by simp)]
    refine whileM_for' (fun i => (i : Int)) r.Samples.length _ rfl (fun i hi => ?_) ?_
    · unfold ref05_Same_l2
      rw [if_pos (decide_eq_true (by omega)), ix_nat _ _ hi]
      simp only [Option.bind_some, bne_self_eq_false, Bool.false_eq_true, if_false]
      rw [w64_id (by omega) (by omega)]
      rfl
    · unfold ref05_Same_l2
      rw [if_neg (by simp)]
      rfl
  rw [this]
  rfl
theorem rSameList_refl {l : List Record} (hl : l.length ≤ 1000000) (h : ∀ r ∈ l, r.Samples.length ≤ 1000000000) : ref14_SameList l l = some true := by
  unfold ref14_SameList
  rw [if_neg (by simp)]
  refine whileM_for' (fun i => (i : Int)) l.length _ rfl (fun i hi => ?_) ?_
  · unfold ref14_SameList_l2
    rw [if_pos (decide_eq_true (by omega)), ix_nat _ _ hi]
    simp only [Option.bind_some]
    rw [rSame_refl (h _ (List.getElem_mem hi))]
    simp only [Option.bind_some, Bool.not_true, Bool.false_eq_true, if_false]
    rw [w64_id (by omega) (by omega)]
    rfl
  · unfold ref14_SameList_l2
    rw [if_neg (by simp)]
    rfl

/-! ### what is in the composed list -/
theorem CompOf.mem {l m : List Record} (hc : CompOf l m) (h : VL l) {q : Record} (hq : q ∈ m) : ∃ r ∈ l, ∃ a b : Nat, a < b ∧ b ≤ r.Samples.length ∧ q = subR r a b ∧ (a, b) ∈ runsR (sset cmpR l) r := by
  obtain ⟨r, hr, hq⟩ := List.mem_flatMap.1 (hc.perm.mem_iff.1 hq)
  have hr := mem_ss.1 hr
  obtain ⟨a, b, h1, h2, h3, h4⟩ := parts_sm (h.rf r hr) q hq
  exact ⟨r, hr, a, b, h1, h2, h3, h4⟩
theorem CompOf.rf {l m : List Record} (hc : CompOf l m) (h : VL l) {q : Record} (hq : q ∈ m) : RF q := by
  obtain ⟨r, hr, a, b, h1, h2, rfl, _⟩ := hc.mem h hq
  exact (h.rf r hr).sub h1 h2
theorem CompOf.len {l m : List Record} (hc : CompOf l m) (h : VS15 l) : m.length ≤ 100100 := by
  rw [hc.perm.length_eq]
  have h1 := sset_len cmpR l
  have h2 := h.len
  have h3 := flat_len (partsR (sset cmpR l)) 1001 (sset cmpR l) fun x hx => by
    have hx := mem_ss.1 hx
    have h1 := (runsR_spec (sset cmpR l) (h.rf x hx)).2.2
    have h2 := h.smp x hx
    unfold partsR subsR
    rw [List.length_map]; omega
  have := Nat.mul_le_mul_left 1001 (show (sset cmpR l).length ≤ 100 by omega)
  omega
theorem flatMap_congr' {α β : Type} {f g : α → List β} : ∀ {l : List α}, (∀ x ∈ l, f x = g x) → l.flatMap f = l.flatMap g
  | [], _ => rfl
  | a :: l, h => by rw [List.flatMap_cons, List.flatMap_cons, h a List.mem_cons_self, flatMap_congr' fun x hx => h x (List.mem_cons_of_mem _ hx)]
/-- the composed list, where all that is kept is known -/
theorem CompOf.eq {l m : List Record} (hc : CompOf l m) (f : Record → List (Nat × Nat)) (h : VL l) (hf : ∀ r ∈ sset cmpR l, RunsOf (keepR (sset cmpR l) r) r.Samples.length (f r)) {m' : List Record} (hp : m'.Perm ((sset cmpR l).flatMap fun r => subsR r (f r))) (ha : m'.Pairwise (fun s t => cmpR s t ≤ 0)) : m = m' := by
  have e : (sset cmpR l).flatMap (partsR (sset cmpR l)) = (sset cmpR l).flatMap fun r => subsR r (f r) := by
    refine flatMap_congr' fun r hr => ?_
    unfold partsR
    rw [(runsR_spec (sset cmpR l) (h.rf r (mem_ss.1 hr))).2.1.uniq (hf r hr)]
  have anti : ∀ {L : List Record}, L.Pairwise (fun s t => cmpR s t ≤ 0) → L.Pairwise (fun a b => decide (cmpR b a < 0) = false) := fun h => h.imp fun {a b} hab => by
    have := cmpR_cmp.anti a b
    simp; omega
  exact sorted_uniq (lt := fun a b => decide (cmpR a b < 0)) ((hc.perm.trans (e ▸ List.Perm.refl _)).trans hp.symm) (fun a _ b _ => cmpR_tot) (anti hc.asc) (anti ha)

/-! ### the chapter's example -/
def two0 : Record := ⟨(⟨(⟨#[65]⟩ : ByteArray), (⟨#[66]⟩ : ByteArray), ByteArray.empty, (⟨#[72, 72, 90]⟩ : ByteArray)⟩ : SourceID), 0, 0, (⟨4, 1⟩ : Rate), 0, 0, 0, ([1, 2, 3, 4] : List Int)⟩
def two1 : Record := ⟨(⟨(⟨#[65]⟩ : ByteArray), (⟨#[66]⟩ : ByteArray), ByteArray.empty, (⟨#[72, 72, 90]⟩ : ByteArray)⟩ : SourceID), 500000, 0, (⟨4, 1⟩ : Rate), 0, 0, 1, ([5, 6, 7, 8] : List Int)⟩
theorem two_vs : VS15 [two0, two1] := by
  have h0 : RF two0 := recB_iff.1 (by decide)
  have h1 : RF two1 := recB_iff.1 (by decide)
  refine ⟨⟨fun r hr => ?_, fun r hr q hq => ?_⟩, by simp, fun r hr => ?_⟩
  · simp only [List.mem_cons, List.not_mem_nil, or_false] at hr
    rcases hr with rfl | rfl
    · exact h0
    · exact h1
  · simp only [List.mem_cons, List.not_mem_nil, or_false] at hr hq
    rcases hr with rfl | rfl <;> rcases hq with rfl | rfl <;> rfl
  · simp only [List.mem_cons, List.not_mem_nil, or_false] at hr
    rcases hr with rfl | rfl <;> simp [two0, two1]
set_option maxRecDepth 100000 in
theorem two_ss : sset cmpR [two0, two1] = [two0, two1] := sset_self cmpR_cmp (fun _ _ => cmpR_eq) (by
  refine List.pairwise_cons.2 ⟨fun b hb => ?_, List.pairwise_singleton _ _⟩
  rcases List.mem_singleton.1 hb with rfl
  decide)
set_option maxRecDepth 100000 in
theorem two_comp : compose_compose [two0, two1] = some [subR two0 0 2, subR two1 0 4] := by
  obtain ⟨m, em, hm⟩ := comp_ok two_vs
  rw [em]
  congr 1
  refine hm.eq (fun r => if r.Start = 0 then [(0, 2)] else [(0, 4)]) two_vs.toVL (fun r hr => ?_) ?_ ?_
  · rw [two_ss] at hr ⊢
    have k0 : ∀ i, i < 4 → keepR [two0, two1] two0 i = decide (i < 2) := by decide
    have k1 : ∀ i, i < 4 → keepR [two0, two1] two1 i = true := by decide
    simp only [List.mem_cons, List.not_mem_nil, or_false] at hr
    rcases hr with rfl | rfl
    · rw [if_pos (by decide)]
      refine ⟨fun p hp => ?_, List.pairwise_singleton _ _, fun i hi hk => ⟨(0, 2), List.mem_cons_self, Nat.zero_le _, ?_⟩⟩
      · rcases List.mem_singleton.1 hp with rfl
        exact ⟨by decide, by decide, fun i _ hi => by rw [k0 i (by simp only at hi; omega)]; exact decide_eq_true hi, .inr (by rw [k0 2 (by decide)]; rfl)⟩
      · rw [k0 i hi] at hk
        exact of_decide_eq_true hk
    · rw [if_neg (by decide)]
      refine ⟨fun p hp => ?_, List.pairwise_singleton _ _, fun i hi hk => ⟨(0, 4), List.mem_cons_self, Nat.zero_le _, hi⟩⟩
      rcases List.mem_singleton.1 hp with rfl
      exact ⟨by decide, by decide, fun i _ hi => k1 i hi, .inl rfl⟩
  · rw [two_ss]
    exact List.Perm.refl _
  · refine List.pairwise_cons.2 ⟨fun b hb => ?_, List.pairwise_singleton _ _⟩
    rcases List.mem_singleton.1 hb with rfl
    decide
set_option maxRecDepth 100000 in
theorem sane_true : law15_sane = some true := by
  have hl := two_vs.len
  have e0 : law15_two = some [two0, two1] := rfl
  have e1 : compose_Compose [two0, two1] = some ([subR two0 0 2, subR two1 0 4], 0) := by
    unfold compose_Compose
    rw [valid_ok two_vs.toVL (by omega)]
    simp only [Option.bind_some, Bool.not_true, Bool.false_eq_true, if_false]
    rw [two_comp]
    rfl
  have e2 : compose_Value [two0, two1] 600000 = some (5, true) := by
    obtain ⟨m, em, hm⟩ := comp_ok two_vs
    have hme : m = [subR two0 0 2, subR two1 0 4] := Option.some.inj (em.symm.trans two_comp)
    rw [value_ok two_vs em (fun q hq => hm.rf two_vs.toVL hq) (by have := hm.len two_vs; omega), hme]
    have : findV [subR two0 0 2, subR two1 0 4] 600000 = (5, true) := by decide
    rw [this]
  unfold law15_sane
  rw [e0]
  simp only [Option.bind_some]
  rw [e1, e2]
  rfl

end Go.Proofs.YthdimlepjpnncaaGreat.Sh

/- Composition of records as plain programs (chapter 15): runs, and the whole. -/
import Derived.Test.YthdimlepjpnncaaGreatComp
namespace Go.Proofs.YthdimlepjpnncaaGreat.Sh
open Go
set_option linter.unusedVariables false
set_option linter.unusedSimpArgs false

/-- the longest runs of what is kept -/
structure RunsOf (k : Nat → Bool) (n : Nat) (P : List (Nat × Nat)) : Prop where
  ok : ∀ p ∈ P, p.1 < p.2 ∧ p.2 ≤ n ∧ (∀ i, p.1 ≤ i → i < p.2 → k i = true) ∧ (p.2 = n ∨ k p.2 = false)
  asc : P.Pairwise (fun p q => p.2 < q.1)
  all : ∀ i, i < n → k i = true → ∃ p ∈ P, p.1 ≤ i ∧ i < p.2
def subsR (r : Record) (P : List (Nat × Nat)) : List Record := P.map fun p => subR r p.1 p.2
theorem runs_ok {r : Record} (h : RF r) (k : Nat → Bool) : ∃ P, compose_runs r ((List.range r.Samples.length).map k) = some (subsR r P) ∧ RunsOf k r.Samples.length P ∧ P.length ≤ r.Samples.length + 1 := by
  have l1 := h.l1
  obtain ⟨n, hn⟩ : ∃ n, r.Samples.length = n := ⟨_, rfl⟩
  rw [hn]
  have hkl : ((List.range n).map k).length = n := by simp
  have hka : ∀ i (hi : i < n), ix ((List.range n).map k) (i : Int) = some (k i) := fun i hi => by
    rw [ix_nat _ _ (by simpa using hi)]; simp
  unfold compose_runs
  suffices hs : ∃ o, whileM (compose_runs_l3 r ((List.range n).map k)) (([] : List Record), 0) = some o ∧ ∃ P, o = subsR r P ∧ RunsOf k n P ∧ P.length ≤ n + 1 by
    obtain ⟨o, eo, P, hP, h1, h2⟩ := hs
    rw [eo]
    exact ⟨P, by rw [hP]; rfl, h1, h2⟩
  refine loop_ex (fun m s => ∃ (q : Nat) (P : List (Nat × Nat)), s = (subsR r P, (q : Int)) ∧ m + q = n + 1 ∧ q ≤ n + 1 ∧ P.length ≤ q ∧ (∀ p ∈ P, p.1 < p.2 ∧ p.2 ≤ n ∧ (∀ i, p.1 ≤ i → i < p.2 → k i = true) ∧ (p.2 = n ∨ k p.2 = false) ∧ p.2 < q) ∧ P.Pairwise (fun p q => p.2 < q.1) ∧ ∀ i, i < n → i < q → k i = true → ∃ p ∈ P, p.1 ≤ i ∧ i < p.2) _ ?_ (n + 1) _ ⟨0, [], rfl, rfl, Nat.zero_le _, Nat.le_refl _, by simp, List.Pairwise.nil, fun i _ hi => by omega⟩
  rintro m s ⟨q, P, rfl, hm, hq, hPl, h1, h2, h3⟩
  unfold compose_runs_l3
  simp only [hkl]
  by_cases hqn : q < n
  · left
    rw [if_pos (decide_eq_true (by omega))]
    obtain ⟨o, eo, t, ht, t1, t2, t3, t4⟩ := loop_ex (b1 := compose_runs_l6 ((List.range n).map k))
      (fun m s => ∃ t : Nat, s = (t : Int) ∧ m + t = n ∧ q ≤ t ∧ t ≤ n ∧ ∀ i, q ≤ i → i < t → k i = true)
      (fun o => ∃ t : Nat, o = (t : Int) ∧ q ≤ t ∧ t ≤ n ∧ (∀ i, q ≤ i → i < t → k i = true) ∧ (t = n ∨ k t = false)) (by
        rintro m s ⟨t, rfl, hm, t1, t2, t3⟩
        unfold compose_runs_l6
        simp only [hkl]
        by_cases htn : t < n
        · rw [if_pos (decide_eq_true (by omega)), hka t htn]
          simp only [Option.bind_some]
          by_cases hc : k t = true
          · left
            rw [if_pos hc, w64_n (by omega)]
            refine ⟨_, m - 1, rfl, ⟨t + 1, rfl, by omega, by omega, by omega, fun i hi hit => ?_⟩, by omega⟩
            by_cases e : i = t
            · subst e; exact hc
            · exact t3 i hi (by omega)
          · right
            rw [if_neg hc]
            exact ⟨_, rfl, t, rfl, t1, t2, t3, .inr (by simpa using hc)⟩
        · right
          rw [if_neg (by simp; omega)]
          simp only [Option.bind_some, Bool.false_eq_true, if_false]
          exact ⟨_, rfl, t, rfl, t1, t2, t3, .inl (by omega)⟩) (n - q) (q : Int) ⟨q, rfl, by omega, Nat.le_refl _, by omega, fun i h1 h2 => by omega⟩
    subst ht
    rw [eo]
    simp only [Option.bind_some]
    unfold compose_runs_j2
    by_cases hc : q < t
    · rw [if_pos (decide_eq_true (by omega)), Sub_eq h hc (by omega)]
      simp only [Option.bind_some]
      rw [appM_one _ _ _ (by simp [subsR]; omega) (by decide)]
      simp only [Option.bind_some]
      rw [w64_n (by omega)]
      refine ⟨_, m - (t + 1 - q), rfl, ⟨t + 1, P ++ [(q, t)], by simp [subsR], by omega, by omega, by simp; omega, fun p hp => ?_, ?_, fun i hi hit hk => ?_⟩, by omega⟩
      · rcases List.mem_append.1 hp with hp | hp
        · obtain ⟨a, b, c, d, e⟩ := h1 p hp
          exact ⟨a, b, c, d, by omega⟩
        · rcases List.mem_singleton.1 hp with rfl
          exact ⟨hc, t2, t3, t4, by simp⟩
      · rw [List.pairwise_append]
        refine ⟨h2, List.pairwise_singleton _ _, fun a ha b hb => ?_⟩
        rcases List.mem_singleton.1 hb with rfl
        exact (h1 a ha).2.2.2.2
      · by_cases hiq : i < q
        · obtain ⟨p, hp, e⟩ := h3 i hi hiq hk
          exact ⟨p, List.mem_append_left _ hp, e⟩
        · by_cases e : i = t
          · subst e
            rcases t4 with t4 | t4
            · omega
            · rw [t4] at hk; cases hk
          · exact ⟨(q, t), List.mem_append_right _ List.mem_cons_self, by simp only; omega, by simp only; omega⟩
    · rw [if_neg (by simp; omega), w64_n (by omega)]
      have e : t = q := by omega
      subst e
      refine ⟨_, m - 1, rfl, ⟨t + 1, P, rfl, by omega, by omega, by omega, fun p hp => ?_, h2, fun i hi hit hk => ?_⟩, by omega⟩
      · obtain ⟨a, b, c, d, e⟩ := h1 p hp
        exact ⟨a, b, c, d, by omega⟩
      · by_cases e : i = t
        · subst e
          rcases t4 with t4 | t4
          · omega
          · rw [t4] at hk; cases hk
        · exact h3 i hi (by omega) hk
  · right
    rw [if_neg (by simp; omega)]
    exact ⟨_, rfl, P, rfl, ⟨fun p hp => by obtain ⟨a, b, c, d, e⟩ := h1 p hp; exact ⟨a, b, c, d⟩, h2, fun i hi hk => h3 i hi (by omega) hk⟩, by omega⟩

/-! ### better records -/
def betterL (all : List Record) (r : Record) : List Span := (all.filter fun b => decide (betR b r < 0)).map extR
/-- a sample is kept -/
def keepR (all : List Record) (r : Record) (i : Nat) : Bool := keepB r (betterL all r) i
theorem meets_iff {r : Record} (h : RF r) {i : Nat} {s : Span} (hs : s.From < s.To) : meets r i s = true ↔ ∃ y, timeR r (i : Int) ≤ y ∧ y < timeR r ((i : Int) + 1) ∧ s.From ≤ y ∧ y < s.To := by
  have hlt := h.lt (i := (i : Int)) (j := (i : Int) + 1) (by omega)
  unfold meets
  simp only [Bool.and_eq_true, decide_eq_true_eq]
  exact ⟨fun ⟨h1, h2⟩ => ⟨max (timeR r (i : Int)) s.From, by omega, by omega, by omega, by omega⟩, fun ⟨y, a, b, c, d⟩ => ⟨by omega, by omega⟩⟩
theorem keepB_iff {r : Record} (h : RF r) {i : Nat} {l : List Span} (hs : ∀ s ∈ l, s.From < s.To) : keepB r l i = true ↔ ∀ y, timeR r (i : Int) ≤ y → y < timeR r ((i : Int) + 1) → ¬ Mem l y := by
  unfold keepB
  rw [List.all_eq_true]
  constructor
  · rintro hk y h1 h2 ⟨s, hm, h3, h4⟩
    have := hk s hm
    rw [(meets_iff h (hs s hm)).2 ⟨y, h1, h2, h3, h4⟩] at this
    cases this
  · intro hk s hm
    cases hc : meets r i s with
    | false => rfl
    | true =>
      obtain ⟨y, a, b, c, d⟩ := (meets_iff h (hs s hm)).1 hc
      exact absurd ⟨s, hm, c, d⟩ (hk y a b)
theorem keepB_ns {r : Record} (h : RF r) {l m : List Span} (hl : ∀ s ∈ l, s.From < s.To) (hn : NS l m) (i : Nat) : keepB r m i = keepB r l i := by
  rw [Bool.eq_iff_iff, keepB_iff h hl, keepB_iff h hn.vs.ne]
  exact ⟨fun hk y a b hm => hk y a b ((hn.mem y).2 hm), fun hk y a b hm => hk y a b ((hn.mem y).1 hm)⟩
theorem extR_ne {r : Record} (h : RF r) : (extR r).From < (extR r).To := h.lt (by have := h.l0; omega)
theorem betterL_ne {all : List Record} (h : ∀ r ∈ all, RF r) (r : Record) : ∀ s ∈ betterL all r, s.From < s.To := fun s hs => by
  obtain ⟨b, hb, rfl⟩ := List.mem_map.1 hs
  exact extR_ne (h b (List.mem_filter.1 hb).1)

/-! ### the whole -/
open Classical in
noncomputable def runsR (all : List Record) (r : Record) : List (Nat × Nat) :=
  if h : ∃ P, compose_runs r ((List.range r.Samples.length).map (keepR all r)) = some (subsR r P) ∧ RunsOf (keepR all r) r.Samples.length P ∧ P.length ≤ r.Samples.length + 1 then Classical.choose h else []
theorem runsR_spec (all : List Record) {r : Record} (h : RF r) : compose_runs r ((List.range r.Samples.length).map (keepR all r)) = some (subsR r (runsR all r)) ∧ RunsOf (keepR all r) r.Samples.length (runsR all r) ∧ (runsR all r).length ≤ r.Samples.length + 1 := by
  have h0 := runs_ok h (keepR all r)
  unfold runsR
  rw [dif_pos h0]
  exact Classical.choose_spec h0
/-- the parts of a record that are kept -/
noncomputable def partsR (all : List Record) (r : Record) : List Record := subsR r (runsR all r)
/-- a valid list of few records -/
structure VS15 (l : List Record) : Prop extends VL l where
  len : l.length ≤ 100
  smp : ∀ r ∈ l, r.Samples.length ≤ 1000
theorem better_ok {all : List Record} (h : ∀ r ∈ all, RF r) (hl : all.length ≤ 1000) {r : Record} (hr : RF r) : whileM (compose_compose_l6 all r) (([] : List Span), 0) = some (betterL all r) := by
  refine whileM_for' (fun i => (betterL (all.take i) r, (i : Int))) all.length _ (by simp [betterL]) (fun i hi => ?_) ?_
  · have hb := h _ (List.getElem_mem hi)
    have hlen : (betterL (all.take i) r).length ≤ i := by
      unfold betterL
      rw [List.length_map]
      exact Nat.le_trans (List.length_filter_le _ _) (List.length_take_le _ _)
    unfold compose_compose_l6
    simp only
    rw [if_pos (decide_eq_true (by omega)), ix_nat _ _ hi]
    simp only [Option.bind_some]
    rw [record_Better_eq hb.sm hr.sm]
    simp only [Option.bind_some]
    unfold compose_compose_j1
    have hone : betterL (all.take (i + 1)) r = betterL (all.take i) r ++ if betR all[i] r < 0 then [extR all[i]] else [] := by
      unfold betterL
      rw [take_one hi, List.filter_append, List.map_append]
      by_cases hc : betR all[i] r < 0 <;> simp [hc]
    rw [hone]
    by_cases hc : betR all[i] r < 0
    · rw [if_pos (decide_eq_true hc), extent_ok hb, if_pos hc]
      simp only [Option.bind_some]
      rw [appM_one _ _ _ (by simp; omega) (by decide)]
      simp only [Option.bind_some]
      rw [w64_n (by omega)]
    · rw [if_neg (by simpa using hc), if_neg hc]
      simp only
      rw [w64_n (by omega), List.append_nil]
  · unfold compose_compose_l6
    simp only
    rw [if_neg (by simp), List.take_length]
theorem parts_sm {all : List Record} {r : Record} (h : RF r) : ∀ q ∈ partsR all r, ∃ a b : Nat, a < b ∧ b ≤ r.Samples.length ∧ q = subR r a b ∧ (a, b) ∈ runsR all r := fun q hq => by
  obtain ⟨p, hp, rfl⟩ := List.mem_map.1 hq
  obtain ⟨a, b, _⟩ := (runsR_spec all h).2.1.ok p hp
  exact ⟨p.1, p.2, a, b, rfl, hp⟩
theorem flat_len {α β : Type} (f : α → List β) (k : Nat) : ∀ (l : List α), (∀ x ∈ l, (f x).length ≤ k) → (l.flatMap f).length ≤ k * l.length
  | [], _ => by simp
  | a :: l, h => by
    have h1 := h a List.mem_cons_self
    have h2 := flat_len f k l fun x hx => h x (List.mem_cons_of_mem _ hx)
    rw [List.flatMap_cons, List.length_append, List.length_cons, Nat.mul_succ]
    omega
/-- what Compose gives: the kept parts of all records, in order -/
structure CompOf (l m : List Record) : Prop where
  perm : m.Perm ((sset cmpR l).flatMap (partsR (sset cmpR l)))
  asc : m.Pairwise (fun s t => cmpR s t ≤ 0)
theorem mem_ss {l : List Record} {r : Record} : r ∈ sset cmpR l ↔ r ∈ l := mem_sset fun _ _ => cmpR_eq
theorem comp_ok {l : List Record} (h : VS15 l) : ∃ m, compose_compose l = some m ∧ CompOf l m := by
  have hl := h.len
  unfold compose_compose
  rw [order_ok h.toVL (by omega)]
  simp only [Option.bind_some]
  obtain ⟨A, hA⟩ : ∃ A, sset cmpR l = A := ⟨_, rfl⟩
  have hAl : A.length ≤ l.length := by rw [← hA]; exact sset_len _ _
  have hAm : ∀ r ∈ A, r ∈ l := fun r hr => mem_ss.1 (hA ▸ hr)
  have hAr : ∀ r ∈ A, RF r := fun r hr => h.rf r (hAm r hr)
  rw [hA]
  have hw : whileM (compose_compose_l3 A) (([] : List Record), 0) = some (A.flatMap (partsR A)) := by
    refine whileM_for' (fun i => ((A.take i).flatMap (partsR A), (i : Int))) A.length _ (by simp) (fun i hi => ?_) ?_
    · have hr := hAr _ (List.getElem_mem hi)
      have hpl : ∀ x ∈ A, (partsR A x).length ≤ 1001 := fun x hx => by
        have h1 := (runsR_spec A (hAr x hx)).2.2
        have h2 := h.smp x (hAm x hx)
        unfold partsR subsR
        rw [List.length_map]; omega
      have h1 := flat_len (partsR A) 1001 (A.take i) fun x hx => hpl x (List.mem_of_mem_take hx)
      have h2 := hpl _ (List.getElem_mem hi)
      rw [List.length_take] at h1
      unfold compose_compose_l3
      simp only
      rw [if_pos (decide_eq_true (by omega)), ix_nat _ _ hi]
      simp only [Option.bind_some]
      rw [better_ok hAr (by omega) hr]
      simp only [Option.bind_some]
      have hbl : (betterL A A[i]).length ≤ A.length := by
        unfold betterL
        rw [List.length_map]
        exact List.length_filter_le _ _
      obtain ⟨b, eb, hb⟩ := normal_spec (l := betterL A A[i]) (by omega)
      rw [eb]
      simp only [Option.bind_some]
      rw [kept_ok hr hb.vs (by have := hb.len; omega)]
      simp only [Option.bind_some]
      have hk : keepL A[i] b A[i].Samples.length = (List.range A[i].Samples.length).map (keepR A A[i]) := by
        unfold keepL
        exact List.map_congr_left fun j _ => keepB_ns hr (betterL_ne hAr _) hb j
      rw [hk, (runsR_spec A hr).1]
      simp only [Option.bind_some]
      rw [appM_one _ _ _ (by
        have : (subsR A[i] (runsR A A[i])).length ≤ 1001 := h2
        have := Nat.mul_le_mul_left 1001 (show min i A.length ≤ 100 by omega)
        omega) (by decide)]
      simp only [Option.bind_some]
      rw [w64_n (by omega), take_one hi, List.flatMap_append, List.flatMap_singleton]
      rfl
    · unfold compose_compose_l3
      simp only
      rw [if_neg (by simp), List.take_length]
  rw [hw]
  simp only [Option.bind_some]
  have hsm : ∀ q ∈ A.flatMap (partsR A), RSm q := fun q hq => by
    obtain ⟨r, hr, hq⟩ := List.mem_flatMap.1 hq
    obtain ⟨a, b, h1, h2, rfl, _⟩ := parts_sm (hAr r hr) q hq
    exact ((hAr r hr).sub h1 h2).sm
  have hfl := flat_len (partsR A) 1001 A fun x hx => by
    have h1 := (runsR_spec A (hAr x hx)).2.2
    have h2 := h.smp x (hAm x hx)
    unfold partsR subsR
    rw [List.length_map]; omega
  obtain ⟨m, em, h1, h2⟩ := sortR_spec hsm (by have := Nat.mul_le_mul_left 1001 (show A.length ≤ 100 by omega); omega)
  rw [em]
  exact ⟨m, rfl, by rw [hA]; exact h1, h2⟩
theorem Comp_ok {l : List Record} (h : VS15 l) : ∃ m, compose_Compose l = some (m, 0) ∧ compose_compose l = some m ∧ CompOf l m := by
  have hl := h.len
  obtain ⟨m, em, hm⟩ := comp_ok h
  refine ⟨m, ?_, em, hm⟩
  unfold compose_Compose
  rw [valid_ok h.toVL (by omega)]
  simp only [Option.bind_some, Bool.not_true, Bool.false_eq_true, if_false]
  rw [em]
  rfl
theorem Order_ok {l : List Record} (h : VS15 l) : compose_Order l = some (sset cmpR l, 0) := by
  have hl := h.len
  unfold compose_Order
  rw [valid_ok h.toVL (by omega)]
  simp only [Option.bind_some, Bool.not_true, Bool.false_eq_true, if_false]
  rw [order_ok h.toVL (by omega)]
  rfl
theorem CompOf.uniq {l l' m m' : List Record} (h : CompOf l m) (h' : CompOf l' m') (he : sset cmpR l = sset cmpR l') : m = m' := by
  refine sorted_uniq (lt := fun a b => decide (cmpR a b < 0)) (h.perm.trans (he ▸ h'.perm.symm)) (fun a _ b _ => cmpR_tot) ?_ ?_
  · refine h.asc.imp fun {a b} hab => ?_
    have := cmpR_cmp.anti a b
    simp; omega
  · refine h'.asc.imp fun {a b} hab => ?_
    have := cmpR_cmp.anti a b
    simp; omega

end Go.Proofs.YthdimlepjpnncaaGreat.Sh

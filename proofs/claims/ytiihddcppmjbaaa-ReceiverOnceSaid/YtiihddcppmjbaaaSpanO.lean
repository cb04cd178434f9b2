/- Union, meet, minus and membership of lists of spans, as the code and as the reference work them out (chapter 8). -/
import Derived.Test.YtiihddcppmjbaaaSpanN
namespace Go.Proofs.Ytiihddcppmjbaaa.Sh
open Go
set_option linter.unusedVariables false
set_option linter.unusedSimpArgs false

instance decSpan : DecidableEq Span := fun a b => decidable_of_iff (a.From = b.From ∧ a.To = b.To) ⟨fun ⟨h1, h2⟩ => by cases a; cases b; simp_all, fun h => by rw [h]; exact ⟨rfl, rfl⟩⟩
theorem same_spec (a b : List Span) (ha : a.length ≤ 1000000) : ref08_Same a b = some (decide (a = b)) := by
  unfold ref08_Same
  by_cases hl : a.length = b.length
  · rw [if_neg (by simp; omega)]
    refine loop_same a b (fun x y => (x.From == y.From) && ((x.To == y.To) && true)) (fun x y => ?_) hl (fun i hi he => ?_) (fun i hi he => ?_) ?_
    · cases x; cases y; simp
    · unfold ref08_Same_l2
      rw [if_pos (decide_eq_true (by omega)), ix_nat _ _ hi, ix_nat b i (by omega)]
      simp only [Option.bind_some]
      rw [he, w64_n (by omega)]
      rfl
    · unfold ref08_Same_l2
      rw [if_pos (decide_eq_true (by omega)), ix_nat _ _ hi, ix_nat b i (by omega)]
      simp only [Option.bind_some]
      rw [he]
      rfl
    · unfold ref08_Same_l2
      rw [if_neg (by simp)]
      rfl
  · rw [if_pos (by simp; omega), decide_eq_false (fun h => hl (by rw [h]))]
theorem same_refl (a : List Span) (ha : a.length ≤ 1000000) : ref08_Same a a = some true := by rw [same_spec a a ha, decide_eq_true rfl]

/-- ends from lo to hi -/
def EB (lo hi : Int) (l : List Span) : Prop := ∀ s ∈ l, (lo ≤ s.From ∧ s.From ≤ hi) ∧ (lo ≤ s.To ∧ s.To ≤ hi)
theorem EB.app {lo hi : Int} {a b : List Span} (ha : EB lo hi a) (hb : EB lo hi b) : EB lo hi (a ++ b) := fun s hs => (List.mem_append.1 hs).elim (ha s) (hb s)
theorem EB.one {lo hi : Int} {s : Span} (h : (lo ≤ s.From ∧ s.From ≤ hi) ∧ (lo ≤ s.To ∧ s.To ≤ hi)) : EB lo hi [s] := fun t ht => by
  rcases List.mem_singleton.1 ht with rfl; exact h
theorem NS.eb {l r : List Span} (h : NS l r) {lo hi : Int} (hl : EB lo hi l) : EB lo hi r := fun s hs => by
  obtain ⟨⟨t, ht, e⟩, u, hu, e'⟩ := h.ends s hs
  rw [e, e']
  exact ⟨(hl t ht).1, (hl u hu).2⟩

theorem sgrow {n : Int} (h0 : 0 ≤ n) (h : n ≤ 1000000) : slices_Grow_Lapi_Span_api_Span_n n = some [] := by
  unfold slices_Grow_Lapi_Span_api_Span_n
  have e : w64 (n - w64 (((0 : Nat) : Int) - (([] : List Span).length : Int))) = n := by
    have e0 : w64 (((0 : Nat) : Int) - (([] : List Span).length : Int)) = 0 := by decide
    rw [e0, w64_id (by omega) (by omega)]; omega
  have hn : ¬ n < 0 := by omega
  simp only [e, hn, decide_false, Bool.false_eq_true, if_false, Option.bind]
  by_cases h1 : 0 < n
  · have e : subM ([] : List Span) 0 ((0 : Nat) : Int) = some [] := by simp [subM]
    simp only [h1, decide_true, if_true, e, makeM_at 16 (⟨0, 0⟩ : Span) n h0 (by omega) (by decide)]
    simp [subM, slices_Grow_Lapi_Span_api_Span_n_j1, (show 0 ≤ max n 0 by omega)]
  · simp only [h1, decide_false, Bool.false_eq_true, if_false]
    rfl
theorem sconcat (a b : List Span) (ha : a.length ≤ 100000) (hb : b.length ≤ 100000) : slices_Concat_Lapi_Span_api_Span [a, b] = some (a ++ b) := by
  unfold slices_Concat_Lapi_Span_api_Span
  have w1 : w64 1 = 1 := by decide
  have w2 : w64 2 = 2 := by decide
  have wa : w64 (a.length : Int) = a.length := w64_id (by omega) (by omega)
  have wab : w64 ((a.length : Int) + b.length) = a.length + b.length := w64_id (by omega) (by omega)
  have na : ¬ ((a.length : Int) < 0) := by omega
  have nab : ¬ ((a.length : Int) + b.length < 0) := by omega
  have e1 : whileM (slices_Concat_Lapi_Span_api_Span_l1 [a, b]) (0, 0) = some ((a.length : Int) + b.length) := by
    rw [whileM_eq]
    simp only [slices_Concat_Lapi_Span_api_Span_l1, ix, Option.bind]
    simp [w1, wa, na]
    rw [whileM_eq]
    simp only [slices_Concat_Lapi_Span_api_Span_l1, ix, Option.bind]
    simp [w2, wab, nab]
    rw [whileM_eq]
    simp [slices_Concat_Lapi_Span_api_Span_l1]
  rw [e1]
  simp only [Option.bind]
  rw [sgrow (by omega) (by omega)]
  simp only
  have e2 : whileM (slices_Concat_Lapi_Span_api_Span_l2 [a, b]) ([], 0) = some (a ++ b) := by
    rw [whileM_eq]
    simp only [slices_Concat_Lapi_Span_api_Span_l2, ix, Option.bind]
    simp [w1, appM_one 16 [] a (by simp; omega) (by decide)]
    rw [whileM_eq]
    simp only [slices_Concat_Lapi_Span_api_Span_l2, ix, Option.bind]
    simp [w2, appM_one 16 a b (by omega) (by decide)]
    rw [whileM_eq]
    simp [slices_Concat_Lapi_Span_api_Span_l2]
  rw [e2]
theorem union_spec {a b : List Span} (h : a.length + b.length < 50) : ∃ r, span_Union a b = some r ∧ NS (a ++ b) r := by
  unfold span_Union
  rw [sconcat a b (by omega) (by omega)]
  simp only [Option.bind_some]
  obtain ⟨r, er, hr⟩ := normal_spec (l := a ++ b) (by simp; omega)
  rw [er]
  exact ⟨r, rfl, hr⟩
theorem runion_spec {a b : List Span} (h : a.length + b.length ≤ 10000) : ∃ r, ref08_Union a b = some r ∧ NS (a ++ b) r := by
  unfold ref08_Union
  rw [appM_one _ _ _ (by simp; omega) (by decide)]
  simp only [Option.bind_some, List.nil_append]
  rw [appM_one _ _ _ (by omega) (by decide)]
  simp only [Option.bind_some]
  obtain ⟨r, er, hr⟩ := rnormal_spec (l := a ++ b) (by simp; omega)
  rw [er]
  exact ⟨r, rfl, hr⟩

/-! ### meet -/
theorem mem_drop {l : List Span} {i : Nat} (hi : i < l.length) {z : Int} : Mem (l.drop i) z ↔ (l[i].From ≤ z ∧ z < l[i].To) ∨ Mem (l.drop (i + 1)) z := by
  rw [List.drop_eq_getElem_cons hi, mem_cons]
theorem mem_of_drop {l : List Span} {i : Nat} {z : Int} (h : Mem (l.drop i) z) : Mem l z := by
  obtain ⟨s, hs, q⟩ := h
  exact ⟨s, List.mem_of_mem_drop hs, q⟩
theorem VS.later {l : List Span} (h : VS l) {i : Nat} (hi : i < l.length) : ∀ u ∈ l.drop (i + 1), l[i].To < u.From := by
  have hp := h.ap.sublist (List.drop_sublist i l)
  rw [List.drop_eq_getElem_cons hi] at hp
  exact (List.pairwise_cons.1 hp).1
theorem VS.laterM {l : List Span} (h : VS l) {i : Nat} (hi : i < l.length) {z : Int} (hz : Mem (l.drop (i + 1)) z) : l[i].To < z := by
  obtain ⟨u, hu, q⟩ := hz
  have := h.later hi u hu
  omega

structure MT (p q : List Span) (i k : Nat) (out : List Span) : Prop where
  vs : VS out
  mem : ∀ z, Mem out z ↔ Mem p z ∧ Mem q z ∧ ¬ (Mem (p.drop i) z ∧ Mem (q.drop k) z)
  ord : ∀ s ∈ out, (∀ u ∈ p.drop i, s.To < u.From) ∨ (∀ u ∈ q.drop k, s.To < u.From)
  len : out.length ≤ i + k
  eb : ∀ lo hi, EB lo hi p → EB lo hi q → EB lo hi out
theorem MT.zero {p q : List Span} : MT p q 0 0 [] := ⟨VS.nil, fun z => by
  simp only [List.drop_zero]
  exact ⟨fun h => absurd h Mem.nil, fun ⟨h1, h2, h3⟩ => absurd ⟨h1, h2⟩ h3⟩, fun s h => (by cases h), Nat.le_refl _, fun _ _ _ _ s h => (by cases h)⟩
/-- one step, whichever list goes on -/
theorem MT.step {p q out out' : List Span} {i k : Nat} (hp : VS p) (hq : VS q) (h : MT p q i k out) (hi : i < p.length) (hk : k < q.length)
    (ho : out' = if max p[i].From q[k].From < min p[i].To q[k].To then out ++ [⟨max p[i].From q[k].From, min p[i].To q[k].To⟩] else out) :
    (p[i].To < q[k].To → MT p q (i + 1) k out') ∧ (q[k].To ≤ p[i].To → MT p q i (k + 1) out') := by
  have nx := hp.ne _ (List.getElem_mem hi)
  have ny := hq.ne _ (List.getElem_mem hk)
  have hvs : VS out' := by
    rw [ho]
    split
    · next hlt =>
      refine h.vs.snoc hlt (fun s hs => ?_)
      simp only
      rcases h.ord s hs with h1 | h1
      · have := h1 p[i] (by rw [List.drop_eq_getElem_cons hi]; exact List.mem_cons_self)
        omega
      · have := h1 q[k] (by rw [List.drop_eq_getElem_cons hk]; exact List.mem_cons_self)
        omega
    · exact h.vs
  have hmem : ∀ z, Mem out' z ↔ Mem out z ∨ ((p[i].From ≤ z ∧ z < p[i].To) ∧ (q[k].From ≤ z ∧ z < q[k].To)) := by
    intro z
    rw [ho]
    split
    · rw [mem_append, mem_one]
      simp only
      constructor
      · rintro (h | h)
        · exact .inl h
        · exact .inr (by omega)
      · rintro (h | h)
        · exact .inl h
        · exact .inr (by omega)
    · constructor
      · exact .inl
      · rintro (h | h)
        · exact h
        · omega
  have hsub : ∀ s ∈ out', s ∈ out ∨ (s.To = min p[i].To q[k].To) := by
    intro s hs
    rw [ho] at hs
    split at hs
    · rcases List.mem_append.1 hs with hs | hs
      · exact .inl hs
      · rcases List.mem_singleton.1 hs with rfl; exact .inr rfl
    · exact .inl hs
  have hlen : out'.length ≤ out.length + 1 := by rw [ho]; split <;> simp
  have heb : ∀ lo hi, EB lo hi p → EB lo hi q → EB lo hi out' := by
    intro lo hi' hp' hq'
    rw [ho]
    have b1 := hp' _ (List.getElem_mem hi)
    have b2 := hq' _ (List.getElem_mem hk)
    split
    · exact (h.eb lo hi' hp' hq').app (EB.one (by simp only; omega))
    · exact h.eb lo hi' hp' hq'
  have xA : ∀ z, (p[i].From ≤ z ∧ z < p[i].To) → Mem p z := fun z hz => ⟨_, List.getElem_mem hi, hz⟩
  have yB : ∀ z, (q[k].From ≤ z ∧ z < q[k].To) → Mem q z := fun z hz => ⟨_, List.getElem_mem hk, hz⟩
  have p1 : ∀ z, Mem (p.drop (i + 1)) z → p[i].To < z := fun z hz => hp.laterM hi hz
  have q1 : ∀ z, Mem (q.drop (k + 1)) z → q[k].To < z := fun z hz => hq.laterM hk hz
  have hl := h.len
  constructor
  · intro hc
    refine ⟨hvs, fun z => ?_, fun s hs => ?_, by omega, heb⟩
    · rw [hmem, h.mem, mem_drop hi, mem_drop hk]
      have a1 := xA z; have a2 := yB z; have a3 := p1 z; have a4 := q1 z
      constructor
      · rintro (⟨h1, h2, h3⟩ | ⟨h1, h2⟩)
        · exact ⟨h1, h2, fun h => h3 ⟨.inr h.1, h.2⟩⟩
        · exact ⟨a1 h1, a2 h2, fun h => by have := a3 h.1; omega⟩
      · rintro ⟨h1, h2, h3⟩
        by_cases hx : p[i].From ≤ z ∧ z < p[i].To
        · by_cases hy : q[k].From ≤ z ∧ z < q[k].To
          · exact .inr ⟨hx, hy⟩
          · refine .inl ⟨h1, h2, fun h => ?_⟩
            rcases h.2 with h | h
            · exact hy h
            · have := a4 h; omega
        · refine .inl ⟨h1, h2, fun h => ?_⟩
          rcases h.1 with h' | h'
          · exact hx h'
          · exact h3 ⟨h', h.2⟩
    · rcases hsub s hs with hs | hs
      · rcases h.ord s hs with h1 | h1
        · exact .inl fun u hu => h1 u (by rw [List.drop_eq_getElem_cons hi]; exact List.mem_cons_of_mem _ hu)
        · exact .inr h1
      · refine .inl fun u hu => ?_
        have := hp.later hi u hu
        omega
  · intro hc
    refine ⟨hvs, fun z => ?_, fun s hs => ?_, by omega, heb⟩
    · rw [hmem, h.mem, mem_drop hi, mem_drop hk]
      have a1 := xA z; have a2 := yB z; have a3 := p1 z; have a4 := q1 z
      constructor
      · rintro (⟨h1, h2, h3⟩ | ⟨h1, h2⟩)
        · exact ⟨h1, h2, fun h => h3 ⟨h.1, .inr h.2⟩⟩
        · exact ⟨a1 h1, a2 h2, fun h => by have := a4 h.2; omega⟩
      · rintro ⟨h1, h2, h3⟩
        by_cases hy : q[k].From ≤ z ∧ z < q[k].To
        · by_cases hx : p[i].From ≤ z ∧ z < p[i].To
          · exact .inr ⟨hx, hy⟩
          · refine .inl ⟨h1, h2, fun h => ?_⟩
            rcases h.1 with h | h
            · exact hx h
            · have := a3 h; omega
        · refine .inl ⟨h1, h2, fun h => ?_⟩
          rcases h.2 with h' | h'
          · exact hy h'
          · exact h3 ⟨h.1, h'⟩
    · rcases hsub s hs with hs | hs
      · rcases h.ord s hs with h1 | h1
        · exact .inl h1
        · exact .inr fun u hu => h1 u (by rw [List.drop_eq_getElem_cons hk]; exact List.mem_cons_of_mem _ hu)
      · refine .inr fun u hu => ?_
        have := hq.later hk u hu
        omega
/-- what meets -/
structure MS (p q r : List Span) : Prop where
  vs : VS r
  mem : ∀ z, Mem r z ↔ Mem p z ∧ Mem q z
  len : r.length ≤ p.length + q.length
  eb : ∀ lo hi, EB lo hi p → EB lo hi q → EB lo hi r
theorem meet_loop {p q : List Span} (hp : VS p) (hq : VS q) (hl : p.length + q.length ≤ 100000) : ∃ r, whileM (span_Meet_l1 p q) ([], 0, 0) = some r ∧ MS p q r := by
  refine loop_ex (fun n s => ∃ i k : Nat, s.2.1 = (i : Int) ∧ s.2.2 = (k : Int) ∧ i ≤ p.length ∧ k ≤ q.length ∧ n + i + k = p.length + q.length ∧ MT p q i k s.1) (MS p q) ?_ (p.length + q.length) _ ⟨0, 0, rfl, rfl, Nat.zero_le _, Nat.zero_le _, rfl, MT.zero⟩
  rintro n ⟨out, i', k'⟩ ⟨i, k, hi', hk', h1, h2, hn, h⟩
  simp only at hi' hk' h
  subst hi'
  subst hk'
  have hol := h.len
  unfold span_Meet_l1
  simp only
  by_cases hc : i < p.length ∧ k < q.length
  · left
    obtain ⟨hi, hk⟩ := hc
    rw [if_pos (by simp; omega), ix_nat _ _ hi, ix_nat _ _ hk]
    simp only [Option.bind_some]
    have hs : span_some (⟨max p[i].From q[k].From, min p[i].To q[k].To⟩ : Span) = some (decide (max p[i].From q[k].From < min p[i].To q[k].To)) := rfl
    rw [hs]
    simp only [Option.bind_some]
    have key : ∀ o : List Span, span_Meet_j1 p q (out, (i : Int), (k : Int)) o = if p[i].To < q[k].To then some (.inl (o, ((i + 1 : Nat) : Int), (k : Int))) else some (.inl (o, (i : Int), ((k + 1 : Nat) : Int))) := by
      intro o
      unfold span_Meet_j1 span_Meet_j2
      simp only
      rw [ix_nat _ _ hi, ix_nat _ _ hk, w64_n (n := i) (by omega), w64_n (n := k) (by omega)]
      simp only [Option.bind_some]
      by_cases ht : p[i].To < q[k].To
      · rw [if_pos (decide_eq_true ht), if_pos ht]
      · rw [if_neg (by simpa using ht), if_neg ht]
    have hstep := MT.step hp hq h hi hk (out' := if max p[i].From q[k].From < min p[i].To q[k].To then out ++ [⟨max p[i].From q[k].From, min p[i].To q[k].To⟩] else out) rfl
    have hbody : (if decide (max p[i].From q[k].From < min p[i].To q[k].To) = true then (appM 16 out [(⟨max p[i].From q[k].From, min p[i].To q[k].To⟩ : Span)]).bind fun l => span_Meet_j1 p q (out, (i : Int), (k : Int)) l else span_Meet_j1 p q (out, (i : Int), (k : Int)) out)
        = span_Meet_j1 p q (out, (i : Int), (k : Int)) (if max p[i].From q[k].From < min p[i].To q[k].To then out ++ [⟨max p[i].From q[k].From, min p[i].To q[k].To⟩] else out) := by
      by_cases hlt : max p[i].From q[k].From < min p[i].To q[k].To
      · rw [if_pos (decide_eq_true hlt), if_pos hlt, appM_one _ _ _ (by simp; omega) (by decide)]
        rfl
      · rw [if_neg (by simpa using hlt), if_neg hlt]
    rw [hbody, key]
    by_cases ht : p[i].To < q[k].To
    · rw [if_pos ht]
      exact ⟨_, n - 1, rfl, ⟨i + 1, k, rfl, rfl, by omega, h2, by omega, hstep.1 ht⟩, by omega⟩
    · rw [if_neg ht]
      exact ⟨_, n - 1, rfl, ⟨i, k + 1, rfl, rfl, h1, by omega, by omega, hstep.2 (by omega)⟩, by omega⟩
  · right
    rw [if_neg (by simp; omega)]
    refine ⟨out, rfl, h.vs, fun z => ?_, by omega, h.eb⟩
    rw [h.mem]
    have hnil : ¬ (Mem (p.drop i) z ∧ Mem (q.drop k) z) := by
      rintro ⟨g1, g2⟩
      rcases Nat.lt_or_ge i p.length with hi | hi
      · rw [List.drop_eq_nil_of_le (show q.length ≤ k by omega)] at g2
        exact Mem.nil g2
      · rw [List.drop_eq_nil_of_le hi] at g1
        exact Mem.nil g1
    exact ⟨fun ⟨a, b, _⟩ => ⟨a, b⟩, fun ⟨a, b⟩ => ⟨a, b, hnil⟩⟩
theorem meet_spec {a b : List Span} (ha : a.length < 50) (hb : b.length < 50) : ∃ r, span_Meet a b = some r ∧ MS a b r := by
  unfold span_Meet
  obtain ⟨p, ep, hp⟩ := normal_spec ha
  obtain ⟨q, eq, hq⟩ := normal_spec hb
  rw [ep, eq]
  simp only [Option.bind_some]
  have l1 := hp.len
  have l2 := hq.len
  obtain ⟨r, er, hr⟩ := meet_loop hp.vs hq.vs (by omega)
  rw [er]
  exact ⟨r, rfl, hr.vs, fun z => by rw [hr.mem, hp.mem, hq.mem], by have := hr.len; omega, fun lo hi h1 h2 => hr.eb lo hi (hp.eb h1) (hq.eb h2)⟩
/-- the reference: all pairs -/
theorem rmeet_inner {p q : List Span} {i : Nat} (hi : i < p.length) (hl : p.length ≤ 1000 ∧ q.length ≤ 100) (out0 : List Span) (h0 : out0.length ≤ 200000) (o : List Span) :
    ∃ r, whileM (ref08_Meet_l6 p q (o, (i : Int))) (out0, 0) = some r ∧ (∀ z, Mem r z ↔ Mem out0 z ∨ ((p[i].From ≤ z ∧ z < p[i].To) ∧ Mem q z)) ∧ r.length ≤ out0.length + q.length :=
  loop_fold (fun a i => (a, i)) q.length (fun k a => (∀ z, Mem a z ↔ Mem out0 z ∨ ((p[i].From ≤ z ∧ z < p[i].To) ∧ Mem (q.take k) z)) ∧ a.length ≤ out0.length + k) _ (fun k hk a ⟨h1, h2⟩ => by
    unfold ref08_Meet_l6
    simp only
    unfold ref08_Meet_j1
    simp only
    rw [if_pos (decide_eq_true (by omega)), ix_nat _ _ hi, ix_nat _ _ hk, w64_n (n := k) (by omega)]
    simp only [Option.bind_some]
    by_cases hlt : max p[i].From q[k].From < min p[i].To q[k].To
    · rw [if_pos (decide_eq_true hlt), appM_one _ _ _ (by simp; omega) (by decide)]
      refine ⟨_, rfl, fun z => ?_, by simp; omega⟩
      rw [mem_append, mem_one, h1, take_one hk, mem_append, mem_one]
      simp only
      constructor
      · rintro ((h | h) | h)
        · exact .inl h
        · exact .inr ⟨h.1, .inl h.2⟩
        · exact .inr ⟨by omega, .inr (by omega)⟩
      · rintro (h | ⟨h, h' | h'⟩)
        · exact .inl (.inl h)
        · exact .inl (.inr ⟨h, h'⟩)
        · exact .inr (by omega)
    · rw [if_neg (by simpa using hlt)]
      refine ⟨_, rfl, fun z => ?_, by omega⟩
      rw [h1, take_one hk, mem_append, mem_one]
      constructor
      · rintro (h | h)
        · exact .inl h
        · exact .inr ⟨h.1, .inl h.2⟩
      · rintro (h | ⟨h, h' | h'⟩)
        · exact .inl h
        · exact .inr ⟨h, h'⟩
        · omega) (fun a ⟨h1, h2⟩ => by
    unfold ref08_Meet_l6
    simp only
    rw [if_neg (by simp)]
    rw [List.take_of_length_le (Nat.le_refl _)] at h1
    exact ⟨a, rfl, h1, h2⟩) out0 ⟨fun z => by simp [Mem], by omega⟩
theorem rmeet_spec {a b : List Span} (ha : a.length < 100) (hb : b.length < 100) : ∃ r, ref08_Meet a b = some r ∧ VS r ∧ ∀ z, Mem r z ↔ Mem a z ∧ Mem b z := by
  unfold ref08_Meet
  obtain ⟨p, ep, hp⟩ := rnormal_spec (l := a) (by omega)
  obtain ⟨q, eq, hq⟩ := rnormal_spec (l := b) (by omega)
  rw [ep, eq]
  simp only [Option.bind_some]
  have l1 := hp.len
  have l2 := hq.len
  obtain ⟨o, eo, ho, hol⟩ := loop_fold (body := ref08_Meet_l3 p q) (fun a i => (a, i)) p.length (fun i a => (∀ z, Mem a z ↔ Mem (p.take i) z ∧ Mem q z) ∧ a.length ≤ i * 100) (fun r => (∀ z, Mem r z ↔ Mem p z ∧ Mem q z) ∧ r.length ≤ 10000) (fun i hi a ⟨h1, h2⟩ => by
    unfold ref08_Meet_l3
    simp only
    rw [if_pos (decide_eq_true (by omega))]
    obtain ⟨r, er, hr, hrl⟩ := rmeet_inner hi (q := q) (by omega) a (by omega) a
    rw [er, w64_n (n := i) (by omega)]
    refine ⟨r, rfl, fun z => ?_, by omega⟩
    rw [hr, h1, take_one hi, mem_append, mem_one]
    constructor
    · rintro (h | h)
      · exact ⟨.inl h.1, h.2⟩
      · exact ⟨.inr h.1, h.2⟩
    · rintro ⟨h | h, h'⟩
      · exact .inl ⟨h, h'⟩
      · exact .inr ⟨h, h'⟩) (fun a ⟨h1, h2⟩ => by
    unfold ref08_Meet_l3
    simp only
    rw [if_neg (by simp)]
    rw [List.take_of_length_le (Nat.le_refl _)] at h1
    exact ⟨a, rfl, h1, by omega⟩) [] ⟨fun z => by simp [Mem], by simp⟩
  rw [eo]
  simp only [Option.bind_some]
  obtain ⟨r, er, hr⟩ := rnormal_spec (l := o) (by omega)
  rw [er]
  exact ⟨r, rfl, hr.vs, fun z => by rw [hr.mem, ho, hp.mem, hq.mem]⟩

/-! ### minus -/
structure MN (q : List Span) (x : Span) (out0 : List Span) (k : Nat) (out : List Span) (at_ : Int) : Prop where
  vs : VS out
  low : x.From ≤ at_
  mem : ∀ z, Mem out z ↔ Mem out0 z ∨ ((x.From ≤ z ∧ z < x.To) ∧ z < at_ ∧ ¬ Mem q z)
  ord : ∀ s ∈ out, s.To < at_ ∧ s.To ≤ x.To
  done : ∀ u ∈ q.take k, u.To ≤ at_ ∨ x.To ≤ u.From
  len : out.length ≤ out0.length + k
  eb : ∀ lo hi, EB lo hi q → EB lo hi out0 → (lo ≤ x.From ∧ x.From ≤ hi) ∧ (lo ≤ x.To ∧ x.To ≤ hi) → EB lo hi out ∧ lo ≤ at_ ∧ at_ ≤ hi
theorem MN.zero {q : List Span} {x : Span} {out0 : List Span} (h0 : VS out0) (hx : x.From < x.To) (ho : ∀ s ∈ out0, s.To < x.From) : MN q x out0 0 out0 x.From :=
  ⟨h0, Int.le_refl _, fun z => ⟨.inl, fun h => h.elim id (fun h => by omega)⟩, fun s hs => ⟨ho s hs, by have := ho s hs; omega⟩, fun u hu => (by simp at hu), Nat.le_refl _, fun lo hi h1 h2 h3 => ⟨h2, by omega, by omega⟩⟩
theorem minus_inner {q : List Span} (hq : VS q) (hql : q.length ≤ 1000) {x : Span} (hx : x.From < x.To) {out0 : List Span} (h0 : VS out0) (hol : out0.length ≤ 100000) (ho : ∀ s ∈ out0, s.To < x.From) :
    ∃ r, whileM (span_Minus_l6 q x) (out0, x.From, 0) = some r ∧ MN q x out0 q.length r.1 r.2 := by
  refine loop_fold (fun (a : List Span × Int) i => (a.1, a.2, i)) q.length (fun k a => MN q x out0 k a.1 a.2) _ (fun k hk a h => ?_) (fun a h => ?_) (out0, x.From) (MN.zero h0 hx ho)
  · obtain ⟨out, at_⟩ := a
    simp only at h
    have hlen := h.len
    have hlow := h.low
    have hny := hq.ne _ (List.getElem_mem hk)
    unfold span_Minus_l6
    simp only
    rw [if_pos (decide_eq_true (by omega)), ix_nat _ _ hk]
    simp only [Option.bind_some]
    unfold span_Minus_j2 span_Minus_j1
    simp only
    rw [w64_n (n := k) (by omega)]
    have htk : ∀ P : Span → Prop, (∀ u ∈ q.take k, P u) → P q[k] → ∀ u ∈ q.take (k + 1), P u := fun P h1 h2 u hu => by
      rw [take_one hk] at hu
      rcases List.mem_append.1 hu with hu | hu
      · exact h1 u hu
      · rcases List.mem_singleton.1 hu with rfl; exact h2
    by_cases hsk : q[k].To ≤ at_ ∨ x.To ≤ q[k].From
    · rw [if_pos (by simpa using hsk)]
      exact ⟨(out, at_), rfl, h.vs, h.low, h.mem, h.ord, htk _ h.done hsk, by simp only; omega, h.eb⟩
    · have hsk1 : at_ < q[k].To := by omega
      have hsk2 : q[k].From < x.To := by omega
      rw [if_neg (by simp; omega)]
      have hmax : max at_ q[k].To = q[k].To := by omega
      -- what lies from at_ on and is in the list
      have hin : ∀ z, at_ ≤ z → z < x.To → z < q[k].To → (Mem q z ↔ q[k].From ≤ z) := by
        intro z z1 z2 z3
        constructor
        · rintro ⟨u, hu, g⟩
          have hsplit : u ∈ q.take k ++ q[k] :: q.drop (k + 1) := by
            rw [← List.drop_eq_getElem_cons hk, List.take_append_drop]; exact hu
          rcases List.mem_append.1 hsplit with hu' | hu'
          · rcases h.done u hu' with g1 | g1 <;> omega
          · rcases List.mem_cons.1 hu' with rfl | hu'
            · exact g.1
            · have := hq.later hk u hu'; omega
        · exact fun g => ⟨_, List.getElem_mem hk, g, z3⟩
      have hdone : ∀ u ∈ q.take (k + 1), u.To ≤ q[k].To ∨ x.To ≤ u.From := htk _ (fun u hu => (h.done u hu).elim (fun g => .inl (by omega)) .inr) (.inl (Int.le_refl _))
      by_cases hgap : at_ < q[k].From
      · rw [if_pos (decide_eq_true hgap), appM_one _ _ _ (by simp; omega) (by decide)]
        simp only [Option.bind_some]
        rw [hmax]
        refine ⟨(out ++ [⟨at_, q[k].From⟩], q[k].To), rfl, h.vs.snoc hgap (fun s hs => (h.ord s hs).1), by simp only; omega, fun z => ?_, fun s hs => ?_, hdone, by simp; omega, fun lo hi e1 e2 e3 => ?_⟩
        · rw [mem_append, mem_one, h.mem]
          simp only
          constructor
          · rintro ((g | g) | g)
            · exact .inl g
            · exact .inr ⟨g.1, by omega, g.2.2⟩
            · refine .inr ⟨by omega, by omega, fun g' => ?_⟩
              have := (hin z (by omega) (by omega) (by omega)).1 g'
              omega
          · rintro (g | ⟨g1, g2, g3⟩)
            · exact .inl (.inl g)
            · by_cases hz : z < at_
              · exact .inl (.inr ⟨g1, hz, g3⟩)
              · by_cases hz2 : z < q[k].From
                · exact .inr ⟨by omega, hz2⟩
                · exact absurd ((hin z (by omega) (by omega) g2).2 (by omega)) g3
        · rcases List.mem_append.1 hs with hs | hs
          · have := h.ord s hs
            simp only
            omega
          · rcases List.mem_singleton.1 hs with rfl
            simp only
            omega
        · obtain ⟨b1, b2, b3⟩ := h.eb lo hi e1 e2 e3
          have b4 := e1 _ (List.getElem_mem hk)
          exact ⟨b1.app (EB.one (by simp only; omega)), by simp only; omega, by simp only; omega⟩
      · rw [if_neg (by simpa using hgap)]
        rw [hmax]
        refine ⟨(out, q[k].To), rfl, h.vs, by simp only; omega, fun z => ?_, fun s hs => ?_, hdone, by simp only; omega, fun lo hi e1 e2 e3 => ?_⟩
        · rw [h.mem]
          constructor
          · rintro (g | g)
            · exact .inl g
            · exact .inr ⟨g.1, by simp only; omega, g.2.2⟩
          · rintro (g | ⟨g1, g2, g3⟩)
            · exact .inl g
            · by_cases hz : z < at_
              · exact .inr ⟨g1, hz, g3⟩
              · exact absurd ((hin z (by omega) (by omega) g2).2 (by omega)) g3
        · have := h.ord s hs
          simp only
          omega
        · obtain ⟨b1, b2, b3⟩ := h.eb lo hi e1 e2 e3
          have b4 := e1 _ (List.getElem_mem hk)
          exact ⟨b1, by simp only; omega, by simp only; omega⟩
  · unfold span_Minus_l6
    simp only
    rw [if_neg (by simp)]
    exact ⟨_, rfl, h⟩
/-- what is left -/
structure LS (p q r : List Span) : Prop where
  vs : VS r
  mem : ∀ z, Mem r z ↔ Mem p z ∧ ¬ Mem q z
  len : r.length ≤ p.length * (q.length + 1)
  eb : ∀ lo hi, EB lo hi p → EB lo hi q → EB lo hi r
structure MO (p q : List Span) (i : Nat) (out : List Span) : Prop where
  vs : VS out
  mem : ∀ z, Mem out z ↔ Mem (p.take i) z ∧ ¬ Mem q z
  ord : ∀ s ∈ out, ∀ u ∈ p.drop i, s.To < u.From
  len : out.length ≤ i * (q.length + 1)
  eb : ∀ lo hi, EB lo hi p → EB lo hi q → EB lo hi out
theorem MO.step {p q out o2 : List Span} {at_ : Int} {i : Nat} (hp : VS p) (hi : i < p.length) (h : MO p q i out) (hn : MN q p[i] out q.length o2 at_) :
    MO p q (i + 1) (if at_ < p[i].To then o2 ++ [⟨at_, p[i].To⟩] else o2) := by
  have hx := hp.ne _ (List.getElem_mem hi)
  have hdn : ∀ u ∈ q, u.To ≤ at_ ∨ p[i].To ≤ u.From := fun u hu => hn.done u (by rw [List.take_of_length_le (Nat.le_refl _)]; exact hu)
  have hlow := hn.low
  have hl1 := hn.len
  have hl2 := h.len
  refine ⟨?_, fun z => ?_, fun s hs u hu => ?_, ?_, fun lo hi' e1 e2 => ?_⟩
  · split
    · next hc => exact hn.vs.snoc hc (fun s hs => (hn.ord s hs).1)
    · exact hn.vs
  · have hbase : (Mem o2 z ∨ (at_ ≤ z ∧ z < p[i].To)) ↔ Mem (p.take (i + 1)) z ∧ ¬ Mem q z := by
      rw [hn.mem, h.mem, take_one hi, mem_append, mem_one]
      constructor
      · rintro ((g | g) | g)
        · exact ⟨.inl g.1, g.2⟩
        · exact ⟨.inr g.1, g.2.2⟩
        · refine ⟨.inr ⟨by omega, g.2⟩, fun ⟨u, hu, g'⟩ => ?_⟩
          rcases hdn u hu with k | k <;> omega
      · rintro ⟨g | g, g'⟩
        · exact .inl (.inl ⟨g, g'⟩)
        · by_cases hz : z < at_
          · exact .inl (.inr ⟨g, hz, g'⟩)
          · exact .inr ⟨by omega, g.2⟩
    split
    · rw [mem_append, mem_one]
      exact hbase
    · rw [← hbase]
      exact ⟨.inl, fun g => g.elim id (fun g => by omega)⟩
  · have hlt := hp.later hi u hu
    split at hs
    · rcases List.mem_append.1 hs with hs | hs
      · have := (hn.ord s hs).2; omega
      · rcases List.mem_singleton.1 hs with rfl
        simp only
        omega
    · have := (hn.ord s hs).2; omega
  · have : (i + 1) * (q.length + 1) = i * (q.length + 1) + (q.length + 1) := Nat.succ_mul _ _
    split
    · simp; omega
    · omega
  · have bx := e1 _ (List.getElem_mem hi)
    obtain ⟨b1, b2, b3⟩ := hn.eb lo hi' e2 (h.eb lo hi' e1 e2) bx
    split
    · exact b1.app (EB.one (by simp only; omega))
    · exact b1
theorem minus_loop {p q : List Span} (hp : VS p) (hq : VS q) (h1 : p.length ≤ 100) (h2 : q.length ≤ 100) : ∃ r, whileM (span_Minus_l3 q p) ([], 0) = some r ∧ LS p q r := by
  have hb : ∀ i, i ≤ p.length → i * (q.length + 1) ≤ 100 * 101 := fun i hi => Nat.mul_le_mul (by omega) (by omega)
  refine loop_fold (fun a i => (a, i)) p.length (MO p q) _ (fun i hi a h => ?_) (fun a h => ?_) [] ⟨VS.nil, fun z => by simp [Mem], fun s h => (by cases h), Nat.zero_le _, fun _ _ _ _ s h => (by cases h)⟩
  · have hl := h.len
    have hb1 := hb i (by omega)
    unfold span_Minus_l3
    simp only
    rw [if_pos (decide_eq_true (by omega)), ix_nat _ _ hi]
    simp only [Option.bind_some]
    obtain ⟨⟨o2, at_⟩, er, hn⟩ := minus_inner hq (by omega) (hp.ne _ (List.getElem_mem hi)) h.vs (by omega) (fun s hs => h.ord s hs _ (by rw [List.drop_eq_getElem_cons hi]; exact List.mem_cons_self))
    rw [er]
    simp only at hn
    have hl2 := hn.len
    have hst := MO.step hp hi h hn
    unfold span_Minus_j4
    simp only [Option.bind_some]
    rw [w64_n (n := i) (by omega)]
    refine ⟨_, ?_, hst⟩
    by_cases hc : at_ < p[i].To
    · rw [if_pos (decide_eq_true hc), if_pos hc, appM_one _ _ _ (by simp; omega) (by decide)]
      rfl
    · rw [if_neg (by simpa using hc), if_neg hc]
  · unfold span_Minus_l3
    simp only
    rw [if_neg (by simp)]
    have hm := h.mem
    rw [List.take_of_length_le (Nat.le_refl _)] at hm
    exact ⟨a, rfl, h.vs, hm, h.len, h.eb⟩
theorem minus_spec {a b : List Span} (ha : a.length < 50) (hb : b.length < 50) : ∃ r, span_Minus a b = some r ∧ LS a b r := by
  unfold span_Minus
  obtain ⟨p, ep, hp⟩ := normal_spec ha
  obtain ⟨q, eq, hq⟩ := normal_spec hb
  rw [ep, eq]
  simp only [Option.bind_some]
  have l1 := hp.len
  have l2 := hq.len
  obtain ⟨r, er, hr⟩ := minus_loop hp.vs hq.vs (by omega) (by omega)
  rw [er]
  exact ⟨r, rfl, hr.vs, fun z => by rw [hr.mem, hp.mem, hq.mem], Nat.le_trans hr.len (Nat.mul_le_mul l1 (by omega)), fun lo hi h1 h2 => hr.eb lo hi (hp.eb h1) (hq.eb h2)⟩

/-! ### what is in a list -/
theorem has_spec (l : List Span) (x : Int) (hl : l.length ≤ 1000000) : ∃ c, span_Has l x = some c ∧ (c = true ↔ Mem l x) := by
  unfold span_Has slices_ContainsFunc_Lapi_Span_api_Span
  obtain ⟨r, er, hr⟩ := sindex_spec (fun s => decide (s.From ≤ x) && decide (x < s.To)) (fun y0 => span_Has_fn1 y0 x) (fun s => rfl) l hl
  rw [er]
  refine ⟨_, rfl, ?_⟩
  rcases hr with ⟨rfl, hall⟩ | ⟨i, hi, rfl, hp, _⟩
  · refine ⟨fun h => by simp at h, fun ⟨s, hs, g⟩ => ?_⟩
    have := hall s hs
    simp at this
    omega
  · refine ⟨fun _ => ⟨_, List.getElem_mem hi, by simpa using hp⟩, fun _ => by simp⟩
theorem rhas_spec (l : List Span) (x : Int) (hl : l.length ≤ 1000000) : ∃ c, ref08_Has l x = some c ∧ (c = true ↔ Mem l x) := by
  unfold ref08_Has
  refine loop_foldE (fun (_ : Unit) i => i) l.length (fun i _ => ¬ Mem (l.take i) x) _ (fun i hi a hI => ?_) (fun a hI => ?_) () (by simp [Mem])
  · unfold ref08_Has_l2
    rw [if_pos (decide_eq_true (by omega)), ix_nat _ _ hi]
    simp only [Option.bind_some]
    by_cases h1 : l[i].From ≤ x
    · rw [if_pos (decide_eq_true h1)]
      simp only [Option.bind_some]
      by_cases h2 : x < l[i].To
      · rw [if_pos (decide_eq_true h2)]
        exact .inr ⟨_, rfl, fun _ => ⟨_, List.getElem_mem hi, h1, h2⟩, fun _ => rfl⟩
      · rw [if_neg (by simpa using h2), w64_n (by omega)]
        refine .inl ⟨(), rfl, ?_⟩
        rw [take_one hi, mem_append, mem_one]
        rintro (h | h)
        · exact hI h
        · omega
    · rw [if_neg (by simpa using h1)]
      simp only [Option.bind_some, Bool.false_eq_true, if_false]
      rw [w64_n (by omega)]
      refine .inl ⟨(), rfl, ?_⟩
      rw [take_one hi, mem_append, mem_one]
      rintro (h | h)
      · exact hI h
      · omega
  · unfold ref08_Has_l2
    rw [if_neg (by simp)]
    rw [List.take_of_length_le (Nat.le_refl _)] at hI
    exact ⟨false, rfl, ⟨fun h => (by cases h), fun h => absurd h hI⟩⟩
theorem valid_true {l : List Span} (h : VS l) (hl : l.length ≤ 1000000) : span_Valid l = some true := by
  unfold span_Valid
  obtain ⟨r, er, rfl⟩ := loop_fold (body := span_Valid_l2 l) (fun (_ : Unit) i => i) l.length (fun i _ => True) (fun r => r = true) (fun i hi a hI => by
    unfold span_Valid_l2
    rw [if_pos (decide_eq_true (by omega)), ix_nat _ _ hi]
    simp only [Option.bind_some]
    have hs : span_some l[i] = some (decide (l[i].From < l[i].To)) := rfl
    rw [hs, decide_eq_true (h.ne _ (List.getElem_mem hi))]
    simp only [Option.bind_some, Bool.not_true, Bool.false_eq_true, if_false]
    rw [w64_n (by omega)]
    by_cases h0 : 0 < i
    · have e1 : w64 ((i : Int) - 1) = ((i - 1 : Nat) : Int) := w64_nat (by omega) (by omega)
      rw [if_pos (decide_eq_true (by omega)), e1, ix_nat l (i - 1) (by omega)]
      simp only [Option.bind_some]
      have := List.pairwise_iff_getElem.1 h.ap (i - 1) i (by omega) hi (by omega)
      rw [if_neg (by simp; omega)]
      exact ⟨(), rfl, trivial⟩
    · rw [if_neg (by simp; omega)]
      exact ⟨(), rfl, trivial⟩) (fun a hI => by
    unfold span_Valid_l2
    rw [if_neg (by simp)]
    exact ⟨_, rfl, rfl⟩) () trivial
  exact er

end Go.Proofs.Ytiihddcppmjbaaa.Sh

/- Sets of spans: what belongs to a list, valid lists, and that a valid list is known by what belongs to it (chapter 8). No program's steps here, but for loops in general. -/
import Derived.Test.YthdimlepjpnncaaGreatSh
import Derived.Test.YthdimlepjpnncaaGreatLoops
import Derived.Test.YthdimlepjpnncaaGreatSim
namespace Go.Proofs.YthdimlepjpnncaaGreat.Sh
open Go
set_option linter.unusedVariables false
set_option linter.unusedSimpArgs false

/-- a loop over places 0, 1, .. : what holds at each place -/
theorem loop_fold {σ S β : Type} (st : σ → Int → S) {body : S → Option (S ⊕ β)} (n : Nat) (I : Nat → σ → Prop) (Q : β → Prop)
    (hstep : ∀ i, i < n → ∀ a, I i a → ∃ a', body (st a (i : Int)) = some (.inl (st a' ((i + 1 : Nat) : Int))) ∧ I (i + 1) a')
    (hend : ∀ a, I n a → ∃ r, body (st a (n : Int)) = some (.inr r) ∧ Q r) (a0 : σ) (h0 : I 0 a0) : ∃ r, whileM body (st a0 0) = some r ∧ Q r :=
  loop_ex (fun k s => ∃ (i : Nat) (a : σ), s = st a (i : Int) ∧ k + i = n ∧ I i a) Q (fun k s ⟨i, a, hs, hk, hI⟩ => by
    subst hs
    by_cases hi : i < n
    · obtain ⟨a', e, h'⟩ := hstep i hi a hI
      exact .inl ⟨_, k - 1, e, ⟨i + 1, a', rfl, by omega, h'⟩, by omega⟩
    · have hin : i = n := by omega
      subst hin
      exact .inr (hend a hI)) n (st a0 0) ⟨0, a0, rfl, by omega, h0⟩
/-- .. that may end ahead of its end -/
theorem loop_foldE {σ S β : Type} (st : σ → Int → S) {body : S → Option (S ⊕ β)} (n : Nat) (I : Nat → σ → Prop) (Q : β → Prop)
    (hstep : ∀ i, i < n → ∀ a, I i a → (∃ a', body (st a (i : Int)) = some (.inl (st a' ((i + 1 : Nat) : Int))) ∧ I (i + 1) a') ∨ ∃ r, body (st a (i : Int)) = some (.inr r) ∧ Q r)
    (hend : ∀ a, I n a → ∃ r, body (st a (n : Int)) = some (.inr r) ∧ Q r) (a0 : σ) (h0 : I 0 a0) : ∃ r, whileM body (st a0 0) = some r ∧ Q r :=
  loop_ex (fun k s => ∃ (i : Nat) (a : σ), s = st a (i : Int) ∧ k + i = n ∧ I i a) Q (fun k s ⟨i, a, hs, hk, hI⟩ => by
    subst hs
    by_cases hi : i < n
    · rcases hstep i hi a hI with ⟨a', e, h'⟩ | h
      · exact .inl ⟨_, k - 1, e, ⟨i + 1, a', rfl, by omega, h'⟩, by omega⟩
      · exact .inr h
    · have hin : i = n := by omega
      subst hin
      exact .inr (hend a hI)) n (st a0 0) ⟨0, a0, rfl, by omega, h0⟩
theorem w64_n {n : Nat} (h : n ≤ 1000000000000) : w64 ((n : Int) + 1) = ((n + 1 : Nat) : Int) := by rw [w64_id (by omega) (by omega)]; rfl

/-- a number belongs to a list -/
def Mem (l : List Span) (x : Int) : Prop := ∃ s ∈ l, s.From ≤ x ∧ x < s.To
theorem Mem.nil {x : Int} : ¬ Mem [] x := fun ⟨s, h, _⟩ => by cases h
theorem mem_append {a b : List Span} {x : Int} : Mem (a ++ b) x ↔ Mem a x ∨ Mem b x := by
  constructor
  · rintro ⟨s, hs, h⟩
    rcases List.mem_append.1 hs with hs | hs
    · exact .inl ⟨s, hs, h⟩
    · exact .inr ⟨s, hs, h⟩
  · rintro (⟨s, hs, h⟩ | ⟨s, hs, h⟩)
    · exact ⟨s, List.mem_append.2 (.inl hs), h⟩
    · exact ⟨s, List.mem_append.2 (.inr hs), h⟩
theorem mem_one {s : Span} {x : Int} : Mem [s] x ↔ s.From ≤ x ∧ x < s.To := by
  constructor
  · rintro ⟨t, ht, h⟩
    rcases List.mem_singleton.1 ht with rfl
    exact h
  · exact fun h => ⟨s, by simp, h⟩
theorem mem_cons {s : Span} {l : List Span} {x : Int} : Mem (s :: l) x ↔ (s.From ≤ x ∧ x < s.To) ∨ Mem l x := by
  have := mem_append (a := [s]) (b := l) (x := x)
  rw [mem_one] at this
  exact this
theorem mem_perm {a b : List Span} (h : a.Perm b) {x : Int} : Mem a x ↔ Mem b x :=
  ⟨fun ⟨s, hs, q⟩ => ⟨s, h.mem_iff.1 hs, q⟩, fun ⟨s, hs, q⟩ => ⟨s, h.mem_iff.2 hs, q⟩⟩
theorem mem_filter {l : List Span} {x : Int} : Mem (l.filter (fun s => decide (s.From < s.To))) x ↔ Mem l x := by
  constructor
  · rintro ⟨s, hs, q⟩
    exact ⟨s, (List.mem_filter.1 hs).1, q⟩
  · rintro ⟨s, hs, q⟩
    exact ⟨s, List.mem_filter.2 ⟨hs, decide_eq_true (by omega)⟩, q⟩

/-- a valid list -/
structure VS (l : List Span) : Prop where
  ne : ∀ s ∈ l, s.From < s.To
  ap : l.Pairwise (fun s t => s.To < t.From)
theorem VS.nil : VS [] := ⟨fun s h => (by cases h), List.Pairwise.nil⟩
theorem VS.snoc {l : List Span} {t : Span} (h : VS l) (ht : t.From < t.To) (hl : ∀ s ∈ l, s.To < t.From) : VS (l ++ [t]) := by
  refine ⟨fun s hs => ?_, List.pairwise_append.2 ⟨h.ap, List.pairwise_singleton _ _, fun s hs u hu => ?_⟩⟩
  · rcases List.mem_append.1 hs with hs | hs
    · exact h.ne s hs
    · rcases List.mem_singleton.1 hs with rfl; exact ht
  · rcases List.mem_singleton.1 hu with rfl; exact hl s hs
theorem VS.init {l : List Span} {t : Span} (h : VS (l ++ [t])) : VS l ∧ t.From < t.To ∧ ∀ s ∈ l, s.To < t.From := by
  have h2 := List.pairwise_append.1 h.ap
  exact ⟨⟨fun s hs => h.ne s (List.mem_append.2 (.inl hs)), h2.1⟩, h.ne t (by simp), fun s hs => h2.2.2 s hs t (by simp)⟩
theorem VS.tail {l : List Span} {t : Span} (h : VS (t :: l)) : VS l ∧ t.From < t.To ∧ ∀ s ∈ l, t.To < s.From :=
  ⟨⟨fun s hs => h.ne s (List.mem_cons_of_mem _ hs), (List.pairwise_cons.1 h.ap).2⟩, h.ne t (by simp), (List.pairwise_cons.1 h.ap).1⟩
theorem VS.low {l : List Span} {t : Span} (h : VS (t :: l)) {x : Int} (hx : Mem (t :: l) x) : t.From ≤ x := by
  obtain ⟨h1, h2, h3⟩ := h.tail
  obtain ⟨u, hu, q⟩ := hx
  rcases List.mem_cons.1 hu with rfl | hu
  · exact q.1
  · have := h3 u hu; omega
/-- a valid list is known by what belongs to it -/
theorem VS.uniq : ∀ {a b : List Span}, VS a → VS b → (∀ x, Mem a x ↔ Mem b x) → a = b
  | [], [], _, _, _ => rfl
  | [], t :: b, _, hb, h => absurd ((h t.From).2 ⟨t, by simp, Int.le_refl _, hb.tail.2.1⟩) Mem.nil
  | s :: a, [], ha, _, h => absurd ((h s.From).1 ⟨s, by simp, Int.le_refl _, ha.tail.2.1⟩) Mem.nil
  | s :: a, t :: b, ha, hb, h => by
    obtain ⟨a1, a2, a3⟩ := ha.tail
    obtain ⟨b1, b2, b3⟩ := hb.tail
    have f1 : t.From ≤ s.From := hb.low ((h s.From).1 ⟨s, by simp, Int.le_refl _, a2⟩)
    have f2 : s.From ≤ t.From := ha.low ((h t.From).2 ⟨t, by simp, Int.le_refl _, b2⟩)
    have hto : s.To = t.To := by
      rcases Int.lt_trichotomy s.To t.To with hlt | heq | hlt
      · obtain ⟨u, hu, q⟩ := (h s.To).2 ⟨t, by simp, by omega, hlt⟩
        rcases List.mem_cons.1 hu with rfl | hu
        · omega
        · have := a3 u hu; omega
      · exact heq
      · obtain ⟨u, hu, q⟩ := (h t.To).1 ⟨s, by simp, by omega, hlt⟩
        rcases List.mem_cons.1 hu with rfl | hu
        · omega
        · have := b3 u hu; omega
    have hst : s = t := by
      obtain ⟨x, y⟩ := s
      obtain ⟨z, w⟩ := t
      simp only at f1 f2 hto
      rw [hto, show x = z by omega]
    subst hst
    have ih := VS.uniq a1 b1 (fun x => by
      constructor
      · intro hx
        obtain ⟨u, hu, q⟩ := hx
        have hu2 := a3 u hu
        rcases mem_cons.1 ((h x).1 (mem_cons.2 (.inr ⟨u, hu, q⟩))) with q2 | q2
        · omega
        · exact q2
      · intro hx
        obtain ⟨u, hu, q⟩ := hx
        have hu2 := b3 u hu
        rcases mem_cons.1 ((h x).2 (mem_cons.2 (.inr ⟨u, hu, q⟩))) with q2 | q2
        · omega
        · exact q2)
    rw [ih]

/-- one more span behind those that begin no later -/
def mstep (out : List Span) (x : Span) : List Span :=
  match out.getLast? with
  | none => out ++ [x]
  | some t => if x.From ≤ t.To then out.dropLast ++ [⟨t.From, max t.To x.To⟩] else out ++ [x]
theorem mstep_nil (x : Span) : mstep [] x = [x] := rfl
theorem mstep_snoc (o : List Span) (t x : Span) : mstep (o ++ [t]) x = if x.From ≤ t.To then o ++ [⟨t.From, max t.To x.To⟩] else o ++ [t] ++ [x] := by
  unfold mstep
  simp
theorem mstep_ok {out : List Span} {x : Span} (hv : VS out) (hx : x.From < x.To) (ho : ∀ t ∈ out, t.From ≤ x.From) : VS (mstep out x) ∧ (∀ y, Mem (mstep out x) y ↔ Mem out y ∨ (x.From ≤ y ∧ y < x.To)) ∧ (mstep out x).length ≤ out.length + 1 ∧
    (∀ s ∈ mstep out x, s.From ≤ x.From) ∧ (∀ s ∈ mstep out x, (s.From = x.From ∨ ∃ t ∈ out, s.From = t.From) ∧ (s.To = x.To ∨ ∃ t ∈ out, s.To = t.To)) := by
  rcases List.eq_nil_or_concat out with rfl | ⟨o, t, rfl⟩
  · rw [mstep_nil]
    refine ⟨VS.nil.snoc (t := x) hx (fun s h => (by cases h)), fun y => ?_, by simp, fun s hs => ?_, fun s hs => ?_⟩
    · rw [mem_one]
      exact ⟨fun h => .inr h, fun h => h.elim (fun h => absurd h Mem.nil) id⟩
    · rcases List.mem_singleton.1 hs with rfl; exact Int.le_refl _
    · rcases List.mem_singleton.1 hs with rfl; exact ⟨.inl rfl, .inl rfl⟩
  · rw [List.concat_eq_append] at *
    obtain ⟨v1, v2, v3⟩ := hv.init
    have ht := ho t (by simp)
    rw [mstep_snoc]
    by_cases hc : x.From ≤ t.To
    · rw [if_pos hc]
      refine ⟨v1.snoc (t := ⟨t.From, max t.To x.To⟩) (by simp only; omega) v3, fun y => ?_, by simp, fun s hs => ?_, fun s hs => ?_⟩
      · rw [mem_append, mem_append, mem_one, mem_one]
        simp only
        constructor
        · rintro (h | h)
          · exact .inl (.inl h)
          · by_cases hy : y < t.To
            · exact .inl (.inr ⟨h.1, hy⟩)
            · exact .inr ⟨by omega, by omega⟩
        · rintro ((h | h) | h)
          · exact .inl h
          · exact .inr ⟨h.1, by omega⟩
          · exact .inr ⟨by omega, by omega⟩
      · rcases List.mem_append.1 hs with hs | hs
        · exact ho s (List.mem_append.2 (.inl hs))
        · rcases List.mem_singleton.1 hs with rfl; exact ht
      · rcases List.mem_append.1 hs with hs | hs
        · exact ⟨.inr ⟨s, List.mem_append.2 (.inl hs), rfl⟩, .inr ⟨s, List.mem_append.2 (.inl hs), rfl⟩⟩
        · rcases List.mem_singleton.1 hs with rfl
          refine ⟨.inr ⟨t, by simp, rfl⟩, ?_⟩
          simp only
          by_cases hm : t.To ≤ x.To
          · exact .inl (by omega)
          · exact .inr ⟨t, by simp, by omega⟩
    · rw [if_neg hc]
      refine ⟨hv.snoc hx (fun s hs => ?_), fun y => ?_, by simp, fun s hs => ?_, fun s hs => ?_⟩
      · rcases List.mem_append.1 hs with hs | hs
        · have := v3 s hs; omega
        · rcases List.mem_singleton.1 hs with rfl; omega
      · rw [mem_append, mem_one]
      · rcases List.mem_append.1 hs with hs | hs
        · exact ho s hs
        · rcases List.mem_singleton.1 hs with rfl; exact Int.le_refl _
      · rcases List.mem_append.1 hs with hs | hs
        · exact ⟨.inr ⟨s, hs, rfl⟩, .inr ⟨s, hs, rfl⟩⟩
        · rcases List.mem_singleton.1 hs with rfl; exact ⟨.inl rfl, .inl rfl⟩

theorem ix_last {α : Type} (o : List α) (t : α) : ix (o ++ [t]) (o.length : Int) = some t := by
  rw [ix_nat _ _ (by simp)]
  simp
theorem setM_last {α : Type} (o : List α) (t t' : α) : setM (o ++ [t]) (o.length : Int) t' = some (o ++ [t']) := by
  rw [setM_at _ _ _ (by omega) (by simp; omega)]
  simp

/-- what is kept of a sorted list of spans, merged -/
structure MI (srt : List Span) (i : Nat) (out : List Span) : Prop where
  vs : VS out
  mem : ∀ y, Mem out y ↔ Mem (srt.take i) y
  ord : ∀ t ∈ out, ∀ u ∈ srt.drop i, t.From ≤ u.From
  len : out.length ≤ i
  ends : ∀ s ∈ out, (∃ t ∈ srt, s.From = t.From) ∧ (∃ t ∈ srt, s.To = t.To)
theorem MI.zero {srt : List Span} : MI srt 0 [] := ⟨VS.nil, fun y => by simp, fun t h => (by cases h), Nat.le_refl _, fun s h => (by cases h)⟩
theorem MI.step {srt out : List Span} {i : Nat} (hi : i < srt.length) (h : MI srt i out) (hne : ∀ s ∈ srt, s.From < s.To) (hs : srt.Pairwise (fun s t => s.From ≤ t.From)) : MI srt (i + 1) (mstep out srt[i]) := by
  have hx := hne _ (List.getElem_mem hi)
  have hd : srt.drop i = srt[i] :: srt.drop (i + 1) := List.drop_eq_getElem_cons hi
  obtain ⟨h1, h2, h3, h4, h5⟩ := mstep_ok (x := srt[i]) h.vs hx (fun t ht => h.ord t ht _ (by rw [hd]; exact List.mem_cons_self))
  have hp := hs.sublist (List.drop_sublist i srt)
  rw [hd] at hp
  have hp1 := (List.pairwise_cons.1 hp).1
  refine ⟨h1, fun y => ?_, fun t ht u hu => ?_, by have := h.len; omega, fun s hs' => ?_⟩
  · rw [h2, h.mem, take_one hi, mem_append, mem_one]
  · have := h4 t ht
    have := hp1 u hu
    omega
  · obtain ⟨q1, q2⟩ := h5 s hs'
    refine ⟨?_, ?_⟩
    · rcases q1 with q | ⟨t, ht, q⟩
      · exact ⟨_, List.getElem_mem hi, q⟩
      · obtain ⟨u, hu, e⟩ := (h.ends t ht).1
        exact ⟨u, hu, q.trans e⟩
    · rcases q2 with q | ⟨t, ht, q⟩
      · exact ⟨_, List.getElem_mem hi, q⟩
      · obtain ⟨u, hu, e⟩ := (h.ends t ht).2
        exact ⟨u, hu, q.trans e⟩

end Go.Proofs.YthdimlepjpnncaaGreat.Sh

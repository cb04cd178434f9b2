/- The plain law: what the plain programs compute, put together in one text. -/
import Derived.Test.YtdcafiefjakfeaaGreatSh
import Derived.Test.YtdcafiefjakfeaaGreatLc1
import Derived.Laws.Strings
/- Sets of spans: what belongs to a list, valid lists, and that a valid list is known by what belongs to it (chapter 8). No program's steps here, but for loops in general. -/
namespace Go.Proofs.YtdcafiefjakfeaaGreat.Sh
open Go
set_option linter.unusedVariables false
set_option linter.unusedSimpArgs false
/-- a loop over places 0, 1, .. : what holds at each place -/
theorem loop_fold {σ S β : Type} (st : σ → Int → S) {body : S → Option (S ⊕ β)} (n : Nat) (I : Nat → σ → Prop) (Q : β → Prop)
  (hstep : ∀ i, i < n → ∀ a, I i a → ∃ a', body (st a (i : Int)) = some (.inl (st a' ((i + 1 : Nat) : Int))) ∧ I (i + 1) a')
  (hend : ∀ a, I n a → ∃ r, body (st a (n : Int)) = some (.inr r) ∧ Q r) (a0 : σ) (h0 : I 0 a0) : ∃ r, whileM body (st a0 0) = some r ∧ Q r :=
 loop_ex (fun k s => ∃ (i : Nat) (a : σ), s = st a (i : Int) ∧ k + i = n ∧ I i a) Q (fun k s ⟨i, a, hs, hk, hI⟩ => by
  subst hs
  by_cases hi : i < n
  ·obtain ⟨a', e, h'⟩ := hstep i hi a hI
   exact .inl ⟨_, k - 1, e, ⟨i + 1, a', rfl, by omega, h'⟩, by omega⟩
  ·have hin : i = n := by omega
   subst hin
   exact .inr (hend a hI)) n (st a0 0) ⟨0, a0, rfl, by omega, h0⟩
/-- .. that may end ahead of its end -/
theorem loop_foldE {σ S β : Type} (st : σ → Int → S) {body : S → Option (S ⊕ β)} (n : Nat) (I : Nat → σ → Prop) (Q : β → Prop)
  (hstep : ∀ i, i < n → ∀ a, I i a → (∃ a', body (st a (i : Int)) = some (.inl (st a' ((i + 1 : Nat) : Int))) ∧ I (i + 1) a') ∨ ∃ r, body (st a (i : Int)) = some (.inr r) ∧ Q r)
  (hend : ∀ a, I n a → ∃ r, body (st a (n : Int)) = some (.inr r) ∧ Q r) (a0 : σ) (h0 : I 0 a0) : ∃ r, whileM body (st a0 0) = some r ∧ Q r :=
 loop_ex (fun k s => ∃ (i : Nat) (a : σ), s = st a (i : Int) ∧ k + i = n ∧ I i a) Q (fun k s ⟨i, a, hs, hk, hI⟩ => by
  subst hs
  by_cases hi : i < n
  ·rcases hstep i hi a hI with ⟨a', e, h'⟩ | h
   ·exact .inl ⟨_, k - 1, e, ⟨i + 1, a', rfl, by omega, h'⟩, by omega⟩
   ·exact .inr h
  ·have hin : i = n := by omega
   subst hin
   exact .inr (hend a hI)) n (st a0 0) ⟨0, a0, rfl, by omega, h0⟩
theorem w64_n {n : Nat} (h : n ≤ 1000000000000) : w64 ((n : Int) + 1) = ((n + 1 : Nat) : Int) := by rw [w64_id (by omega) (by omega)]; rfl
/-- a number belongs to a list -/
def Mem (l : List Span) (x : Int) : Prop := ∃ s ∈ l, s.From ≤ x ∧ x < s.To
theorem Mem.nil {x : Int} : ¬ Mem [] x := fun ⟨s, h, _⟩ => by cases h
theorem mem_append {a b : List Span} {x : Int} : Mem (a ++ b) x ↔ Mem a x ∨ Mem b x := by
 constructor
 ·rintro ⟨s, hs, h⟩
  rcases List.mem_append.1 hs with hs | hs
  ·exact .inl ⟨s, hs, h⟩
  ·exact .inr ⟨s, hs, h⟩
 ·rintro (⟨s, hs, h⟩ | ⟨s, hs, h⟩)
  ·exact ⟨s, List.mem_append.2 (.inl hs), h⟩
  ·exact ⟨s, List.mem_append.2 (.inr hs), h⟩
theorem mem_one {s : Span} {x : Int} : Mem [s] x ↔ s.From ≤ x ∧ x < s.To := by
 constructor
 ·rintro ⟨t, ht, h⟩
  rcases List.mem_singleton.1 ht with rfl
  exact h
 ·exact fun h => ⟨s, by simp, h⟩
theorem mem_cons {s : Span} {l : List Span} {x : Int} : Mem (s :: l) x ↔ (s.From ≤ x ∧ x < s.To) ∨ Mem l x := by
 have := mem_append (a := [s]) (b := l) (x := x)
 rw [mem_one] at this
 exact this
theorem mem_perm {a b : List Span} (h : a.Perm b) {x : Int} : Mem a x ↔ Mem b x :=
 ⟨fun ⟨s, hs, q⟩ => ⟨s, h.mem_iff.1 hs, q⟩, fun ⟨s, hs, q⟩ => ⟨s, h.mem_iff.2 hs, q⟩⟩
theorem mem_filter {l : List Span} {x : Int} : Mem (l.filter (fun s => decide (s.From < s.To))) x ↔ Mem l x := by
 constructor
 ·rintro ⟨s, hs, q⟩
  exact ⟨s, (List.mem_filter.1 hs).1, q⟩
 ·rintro ⟨s, hs, q⟩
  exact ⟨s, List.mem_filter.2 ⟨hs, decide_eq_true (by omega)⟩, q⟩
/-- a valid list -/
structure VS (l : List Span) : Prop where
 ne : ∀ s ∈ l, s.From < s.To
 ap : l.Pairwise (fun s t => s.To < t.From)
theorem VS.nil : VS [] := ⟨fun s h => (by cases h), List.Pairwise.nil⟩
theorem VS.snoc {l : List Span} {t : Span} (h : VS l) (ht : t.From < t.To) (hl : ∀ s ∈ l, s.To < t.From) : VS (l ++ [t]) := by
 refine ⟨fun s hs => ?_, List.pairwise_append.2 ⟨h.ap, List.pairwise_singleton _ _, fun s hs u hu => ?_⟩⟩
 ·rcases List.mem_append.1 hs with hs | hs
  ·exact h.ne s hs
  ·rcases List.mem_singleton.1 hs with rfl; exact ht
 ·rcases List.mem_singleton.1 hu with rfl; exact hl s hs
theorem VS.init {l : List Span} {t : Span} (h : VS (l ++ [t])) : VS l ∧ t.From < t.To ∧ ∀ s ∈ l, s.To < t.From := by
 have h2 := List.pairwise_append.1 h.ap
 exact ⟨⟨fun s hs => h.ne s (List.mem_append.2 (.inl hs)), h2.1⟩, h.ne t (by simp), fun s hs => h2.2.2 s hs t (by simp)⟩
theorem VS.tail {l : List Span} {t : Span} (h : VS (t :: l)) : VS l ∧ t.From < t.To ∧ ∀ s ∈ l, t.To < s.From :=
 ⟨⟨fun s hs => h.ne s (List.mem_cons_of_mem _ hs), (List.pairwise_cons.1 h.ap).2⟩, h.ne t (by simp), (List.pairwise_cons.1 h.ap).1⟩
theorem VS.low {l : List Span} {t : Span} (h : VS (t :: l)) {x : Int} (hx : Mem (t :: l) x) : t.From ≤ x := by
 obtain ⟨h1, h2, h3⟩ := h.tail
 obtain ⟨u, hu, q⟩ := hx
 rcases List.mem_cons.1 hu with rfl | hu
 ·exact q.1
 ·have := h3 u hu; omega
/-- a valid list is known by what belongs to it -/
theorem VS.uniq : ∀ {a b : List Span}, VS a → VS b → (∀ x, Mem a x ↔ Mem b x) → a = b
 | [], [], _, _, _ => rfl
 | [], t :: b, _, hb, h => absurd ((h t.From).2 ⟨t, by simp, Int.le_refl _, hb.tail.2.1⟩) Mem.nil
 | s :: a, [], ha, _, h => absurd ((h s.From).1 ⟨s, by simp, Int.le_refl _, ha.tail.2.1⟩) Mem.nil
 | s :: a, t :: b, ha, hb, h => by
  obtain ⟨a1, a2, a3⟩ := ha.tail
  obtain ⟨b1, b2, b3⟩ := hb.tail
  have f1 : t.From ≤ s.From := hb.low ((h s.From).1 ⟨s, by simp, Int.le_refl _, a2⟩)
  have f2 : s.From ≤ t.From := ha.low ((h t.From).2 ⟨t, by simp, Int.le_refl _, b2⟩)
  have hto : s.To = t.To := by
   rcases Int.lt_trichotomy s.To t.To with hlt | heq | hlt
   ·obtain ⟨u, hu, q⟩ := (h s.To).2 ⟨t, by simp, by omega, hlt⟩
    rcases List.mem_cons.1 hu with rfl | hu
    ·omega
    ·have := a3 u hu; omega
   ·exact heq
   ·obtain ⟨u, hu, q⟩ := (h t.To).1 ⟨s, by simp, by omega, hlt⟩
    rcases List.mem_cons.1 hu with rfl | hu
    ·omega
    ·have := b3 u hu; omega
  have hst : s = t := by
   obtain ⟨x, y⟩ := s
   obtain ⟨z, w⟩ := t
   simp only at f1 f2 hto
   rw [hto, show x = z by omega]
  subst hst
  have ih := VS.uniq a1 b1 (fun x => by
   constructor
   ·intro hx
    obtain ⟨u, hu, q⟩ := hx
    have hu2 := a3 u hu
    rcases mem_cons.1 ((h x).1 (mem_cons.2 (.inr ⟨u, hu, q⟩))) with q2 | q2
    ·omega
    ·exact q2
   ·intro hx
    obtain ⟨u, hu, q⟩ := hx
    have hu2 := b3 u hu
    rcases mem_cons.1 ((h x).2 (mem_cons.2 (.inr ⟨u, hu, q⟩))) with q2 | q2
    ·omega
    ·exact q2)
  rw [ih]
/-- one more span behind those that begin no later -/
def mstep (out : List Span) (x : Span) : List Span :=
 match out.getLast? with
 | none => out ++ [x]
 | some t => if x.From ≤ t.To then out.dropLast ++ [⟨t.From, max t.To x.To⟩] else out ++ [x]
theorem mstep_nil (x : Span) : mstep [] x = [x] := rfl
theorem mstep_snoc (o : List Span) (t x : Span) : mstep (o ++ [t]) x = if x.From ≤ t.To then o ++ [⟨t.From, max t.To x.To⟩] else o ++ [t] ++ [x] := by
 unfold mstep
 simp
theorem mstep_ok {out : List Span} {x : Span} (hv : VS out) (hx : x.From < x.To) (ho : ∀ t ∈ out, t.From ≤ x.From) : VS (mstep out x) ∧ (∀ y, Mem (mstep out x) y ↔ Mem out y ∨ (x.From ≤ y ∧ y < x.To)) ∧ (mstep out x).length ≤ out.length + 1 ∧
  (∀ s ∈ mstep out x, s.From ≤ x.From) ∧ (∀ s ∈ mstep out x, (s.From = x.From ∨ ∃ t ∈ out, s.From = t.From) ∧ (s.To = x.To ∨ ∃ t ∈ out, s.To = t.To)) := by
 rcases List.eq_nil_or_concat out with rfl | ⟨o, t, rfl⟩
 ·rw [mstep_nil]
  refine ⟨VS.nil.snoc (t := x) hx (fun s h => (by cases h)), fun y => ?_, by simp, fun s hs => ?_, fun s hs => ?_⟩
  ·rw [mem_one]
   exact ⟨fun h => .inr h, fun h => h.elim (fun h => absurd h Mem.nil) id⟩
  ·rcases List.mem_singleton.1 hs with rfl; exact Int.le_refl _
  ·rcases List.mem_singleton.1 hs with rfl; exact ⟨.inl rfl, .inl rfl⟩
 ·rw [List.concat_eq_append] at *
  obtain ⟨v1, v2, v3⟩ := hv.init
  have ht := ho t (by simp)
  rw [mstep_snoc]
  by_cases hc : x.From ≤ t.To
  ·rw [if_pos hc]
   refine ⟨v1.snoc (t := ⟨t.From, max t.To x.To⟩) (by simp only; omega) v3, fun y => ?_, by simp, fun s hs => ?_, fun s hs => ?_⟩
   ·rw [mem_append, mem_append, mem_one, mem_one]
    simp only
    constructor
    ·rintro (h | h)
     ·exact .inl (.inl h)
     ·by_cases hy : y < t.To
      ·exact .inl (.inr ⟨h.1, hy⟩)
      ·exact .inr ⟨by omega, by omega⟩
    ·rintro ((h | h) | h)
     ·exact .inl h
     ·exact .inr ⟨h.1, by omega⟩
     ·exact .inr ⟨by omega, by omega⟩
   ·rcases List.mem_append.1 hs with hs | hs
    ·exact ho s (List.mem_append.2 (.inl hs))
    ·rcases List.mem_singleton.1 hs with rfl; exact ht
   ·rcases List.mem_append.1 hs with hs | hs
    ·exact ⟨.inr ⟨s, List.mem_append.2 (.inl hs), rfl⟩, .inr ⟨s, List.mem_append.2 (.inl hs), rfl⟩⟩
    ·rcases List.mem_singleton.1 hs with rfl
     refine ⟨.inr ⟨t, by simp, rfl⟩, ?_⟩
     simp only
     by_cases hm : t.To ≤ x.To
     ·exact .inl (by omega)
     ·exact .inr ⟨t, by simp, by omega⟩
  ·rw [if_neg hc]
   refine ⟨hv.snoc hx (fun s hs => ?_), fun y => ?_, by simp, fun s hs => ?_, fun s hs => ?_⟩
   ·rcases List.mem_append.1 hs with hs | hs
    ·have := v3 s hs; omega
    ·rcases List.mem_singleton.1 hs with rfl; omega
   ·rw [mem_append, mem_one]
   ·rcases List.mem_append.1 hs with hs | hs
    ·exact ho s hs
    ·rcases List.mem_singleton.1 hs with rfl; exact Int.le_refl _
   ·rcases List.mem_append.1 hs with hs | hs
    ·exact ⟨.inr ⟨s, hs, rfl⟩, .inr ⟨s, hs, rfl⟩⟩
    ·rcases List.mem_singleton.1 hs with rfl; exact ⟨.inl rfl, .inl rfl⟩
theorem ix_last {α : Type} (o : List α) (t : α) : ix (o ++ [t]) (o.length : Int) = some t := by
 rw [ix_nat _ _ (by simp)]
 simp
theorem setM_last {α : Type} (o : List α) (t t' : α) : setM (o ++ [t]) (o.length : Int) t' = some (o ++ [t']) := by
 rw [setM_at _ _ _ (by omega) (by simp; omega)]
 simp
/-- what is kept of a sorted list of spans, merged -/
structure MI (srt : List Span) (i : Nat) (out : List Span) : Prop where
 vs : VS out
 mem : ∀ y, Mem out y ↔ Mem (srt.take i) y
 ord : ∀ t ∈ out, ∀ u ∈ srt.drop i, t.From ≤ u.From
 len : out.length ≤ i
 ends : ∀ s ∈ out, (∃ t ∈ srt, s.From = t.From) ∧ (∃ t ∈ srt, s.To = t.To)
theorem MI.zero {srt : List Span} : MI srt 0 [] := ⟨VS.nil, fun y => by simp, fun t h => (by cases h), Nat.le_refl _, fun s h => (by cases h)⟩
theorem MI.step {srt out : List Span} {i : Nat} (hi : i < srt.length) (h : MI srt i out) (hne : ∀ s ∈ srt, s.From < s.To) (hs : srt.Pairwise (fun s t => s.From ≤ t.From)) : MI srt (i + 1) (mstep out srt[i]) := by
 have hx := hne _ (List.getElem_mem hi)
 have hd : srt.drop i = srt[i] :: srt.drop (i + 1) := List.drop_eq_getElem_cons hi
 obtain ⟨h1, h2, h3, h4, h5⟩ := mstep_ok (x := srt[i]) h.vs hx (fun t ht => h.ord t ht _ (by rw [hd]; exact List.mem_cons_self))
 have hp := hs.sublist (List.drop_sublist i srt)
 rw [hd] at hp
 have hp1 := (List.pairwise_cons.1 hp).1
 refine ⟨h1, fun y => ?_, fun t ht u hu => ?_, by have := h.len; omega, fun s hs' => ?_⟩
 ·rw [h2, h.mem, take_one hi, mem_append, mem_one]
 ·have := h4 t ht
  have := hp1 u hu
  omega
 ·obtain ⟨q1, q2⟩ := h5 s hs'
  refine ⟨?_, ?_⟩
  ·rcases q1 with q | ⟨t, ht, q⟩
   ·exact ⟨_, List.getElem_mem hi, q⟩
   ·obtain ⟨u, hu, e⟩ := (h.ends t ht).1
    exact ⟨u, hu, q.trans e⟩
  ·rcases q2 with q | ⟨t, ht, q⟩
   ·exact ⟨_, List.getElem_mem hi, q⟩
   ·obtain ⟨u, hu, e⟩ := (h.ends t ht).2
    exact ⟨u, hu, q.trans e⟩
end Go.Proofs.YtdcafiefjakfeaaGreat.Sh

/- The valid list of a list of spans, as the code makes it and as the reference makes it (chapter 8). -/
namespace Go.Proofs.YtdcafiefjakfeaaGreat.Sh
open Go
set_option linter.unusedVariables false
set_option linter.unusedSimpArgs false
theorem sclone (s : List Span) (h : s.length ≤ 1000000) : slices_Clone_Lapi_Span_api_Span s = some s := by
 unfold slices_Clone_Lapi_Span_api_Span
 rw [appM_one _ _ _ (by simpa using h) (by decide)]
 rfl
theorem sindex_spec (p : Span → Bool) (f : Span → Option Bool) (hf : ∀ x, f x = some (p x)) (l : List Span) (hl : l.length ≤ 1000000) :
  ∃ r, slices_IndexFunc_Lapi_Span_api_Span l f = some r ∧ ((r = -1 ∧ ∀ s ∈ l, p s = false) ∨ ∃ i : Nat, ∃ h : i < l.length, r = (i : Int) ∧ p l[i] = true ∧ ∀ s ∈ l.take i, p s = false) := by
 unfold slices_IndexFunc_Lapi_Span_api_Span
 refine loop_foldE (fun (_ : Unit) i => i) l.length (fun i _ => ∀ s ∈ l.take i, p s = false) _ (fun i hi a hI => ?_) (fun a hI => ?_) () (by simp)
 ·unfold slices_IndexFunc_Lapi_Span_api_Span_l2
  rw [if_pos (decide_eq_true (by omega)), ix_nat _ _ hi]
  simp only [Option.bind_some]
  rw [hf]
  simp only [Option.bind_some]
  cases hp : p l[i] with
  | true => exact .inr ⟨_, rfl, .inr ⟨i, hi, rfl, hp, hI⟩⟩
  | false =>
   left
   refine ⟨(), by rw [w64_n (by omega)]; rfl, fun s hs => ?_⟩
   rw [take_one hi] at hs
   rcases List.mem_append.1 hs with hs | hs
   ·exact hI s hs
   ·rcases List.mem_singleton.1 hs with rfl; exact hp
 ·unfold slices_IndexFunc_Lapi_Span_api_Span_l2
  rw [if_neg (by simp)]
  rw [List.take_of_length_le (Nat.le_refl _)] at hI
  exact ⟨_, rfl, .inl ⟨rfl, hI⟩⟩
theorem sdelete_spec (p : Span → Bool) (f : Span → Option Bool) (hf : ∀ x, f x = some (p x)) (l : List Span) (hl : l.length ≤ 1000000) : slices_DeleteFunc_Lapi_Span_api_Span l f = some (l.filter (fun x => !p x)) := by
 unfold slices_DeleteFunc_Lapi_Span_api_Span
 obtain ⟨r, er, hr⟩ := sindex_spec p f hf l hl
 rw [er]
 simp only [Option.bind_some]
 rcases hr with ⟨rfl, hall⟩ | ⟨i0, hi0, rfl, hp0, hall⟩
 ·rw [if_pos (by decide), List.filter_eq_self.2 (fun a ha => by rw [hall a ha]; rfl)]
 ·rw [if_neg (by simp <;> omega), w64_n (by omega)]
  obtain ⟨⟨m, e2⟩, em, i, he, h1, h2, h3⟩ := loop_ex (b1 := slices_DeleteFunc_Lapi_Span_api_Span_l1 f)
   (fun k s => ∃ i j : Nat, s.2.1 = (i : Int) ∧ s.2.2 = (j : Int) ∧ k + j = l.length ∧ i < j ∧ s.1.length = l.length ∧ s.1.take i = (l.take j).filter (fun x => !p x) ∧ s.1.drop j = l.drop j)
   (fun r => ∃ i : Nat, r.2 = (i : Int) ∧ i ≤ l.length ∧ r.1.length = l.length ∧ r.1.take i = l.filter (fun x => !p x)) (by
    rintro k ⟨m, i', j'⟩ ⟨i, j, hi, hj, hk, hij, hml, ht, hd⟩
    simp only at hi hj hml ht hd
    subst hi
    subst hj
    unfold slices_DeleteFunc_Lapi_Span_api_Span_l1
    simp only
    by_cases hjl : j < l.length
    ·left
     have hmj : m[j]'(by omega) = l[j] := by
      have h1 : m[j]? = l[j]? := by
       have := congrArg (fun q => q[0]?) hd
       simpa [List.getElem?_drop] using this
      rw [some_at (by omega), some_at hjl] at h1
      exact Option.some.inj h1
     rw [if_pos (decide_eq_true (by omega)), ix_nat m j (by omega), hmj]
     simp only [Option.bind_some]
     rw [hf]
     simp only [Option.bind_some]
     unfold slices_DeleteFunc_Lapi_Span_api_Span_j1
     simp only
     rw [w64_n (n := j) (by omega)]
     have htk : (l.take (j + 1)).filter (fun x => !p x) = (l.take j).filter (fun x => !p x) ++ [l[j]].filter (fun x => !p x) := by rw [take_one hjl, List.filter_append]
     have hdj : l.drop (j + 1) = (l.drop j).drop 1 := by rw [List.drop_drop]
     have hmd : m.drop (j + 1) = (m.drop j).drop 1 := by rw [List.drop_drop]
     cases hp : p l[j] with
     | true =>
      rw [if_neg (by simp)]
      refine ⟨_, k - 1, rfl, ⟨i, j + 1, rfl, rfl, by omega, by omega, hml, ?_, ?_⟩, by omega⟩
      ·rw [htk, ht]; simp [hp]
      ·simp only; rw [hdj, hmd, hd]
     | false =>
      rw [if_pos (by simp), ix_nat m i (by omega)]
      simp only [Option.bind_some]
      rw [setM_at _ _ _ (by omega) (by omega), w64_n (n := i) (by omega)]
      simp only [Option.bind_some, Int.toNat_natCast]
      refine ⟨_, k - 1, rfl, ⟨i + 1, j + 1, rfl, rfl, by omega, by omega, by simpa using hml, ?_, ?_⟩, by omega⟩
      ·simp only
       rw [htk, ← ht, take_one (by simp; omega), List.take_set_of_le (Nat.le_refl _)]
       simp [hp]
      ·simp only
       rw [List.drop_set_of_lt (by omega), hdj, hmd, hd]
    ·right
     rw [if_neg (by simp; omega)]
     refine ⟨_, rfl, i, rfl, by omega, hml, ?_⟩
     rw [List.take_of_length_le (show l.length ≤ j by omega)] at ht
     exact ht) (l.length - (i0 + 1)) (l, (i0 : Int), ((i0 + 1 : Nat) : Int)) ⟨i0, i0 + 1, rfl, rfl, by omega, by omega, rfl, by
     simp only
     rw [take_one hi0, List.filter_append, List.filter_eq_self.2 (fun a ha => by rw [hall a ha]; rfl)]
     simp [hp0], rfl⟩
  rw [em]
  simp only at he h2 h3
  subst he
  simp only [Option.bind_some]
  have hsub : subM m (i : Int) (m.length : Int) = some (m.drop i) := by
   rw [sub_at _ _ _ (by omega) (Nat.le_refl _), List.take_of_length_le (Nat.le_refl _)]
  rw [hsub]
  simp only [Option.bind_some]
  have hcl : (copyM m (i : Int) (m.length : Int) (List.replicate (m.drop i).length (⟨0, 0⟩ : Span))).take i = m.take i := by
   unfold copyM
   simp only [Int.toNat_natCast]
   rw [List.append_assoc, List.take_append_of_le_length (by rw [List.length_take]; omega), List.take_take, Nat.min_self]
  have hlen : i ≤ (copyM m (i : Int) (m.length : Int) (List.replicate (m.drop i).length (⟨0, 0⟩ : Span))).length := by
   unfold copyM
   simp only [Int.toNat_natCast, List.length_append, List.length_take]
   omega
  have h0 := sub_at (copyM m (i : Int) (m.length : Int) (List.replicate (m.drop i).length (⟨0, 0⟩ : Span))) 0 i (Nat.zero_le _) hlen
  rw [hcl] at h0
  have h0' : subM (copyM m (i : Int) (m.length : Int) (List.replicate (m.drop i).length (⟨0, 0⟩ : Span))) 0 (i : Int) = some (m.take i) := by
   simpa using h0
  rw [h0', h3]
  rfl
theorem compare_int (x y : Int) : cmp_Compare_int x y = some (if x < y then -1 else if y < x then 1 else 0) := by
 unfold cmp_Compare_int cmp_isNaN_int
 simp only [bne_self_eq_false, Option.bind_some, Bool.false_eq_true, if_false]
 by_cases h1 : x < y
 ·simp [h1]
 ·by_cases h2 : y < x <;> simp [h1, h2]
theorem from_ok : CmpOK (fun _ => True) span_Normal_fn2 (fun x y => decide (x.From < y.From)) := by
 refine ⟨fun x y _ _ => ?_, fun x _ => by simp, fun x y z _ _ _ h1 h2 => ?_, fun x y z _ _ _ h1 h2 => ?_⟩
 ·unfold span_Normal_fn2
  rw [compare_int]
  refine ⟨_, rfl, ?_⟩
  by_cases h1 : x.From < y.From
  ·simp [h1]
  ·by_cases h2 : y.From < x.From <;> simp [h1, h2]
 ·simp only [decide_eq_true_eq] at *; omega
 ·simp only [decide_eq_false_iff_not] at *; omega
theorem sort_span (l : List Span) (f : Span → Span → Option Int) : slices_SortFunc_Lapi_Span_api_Span l f = sortP l f := rfl
theorem SR.pw {l : List Span} (h : SR (fun x y => decide (x.From < y.From)) 0 l.length l) : l.Pairwise (fun s t => s.From ≤ t.From) := by
 rw [List.pairwise_iff_getElem]
 intro i j hi hj hij
 have := h i j _ _ (Nat.zero_le _) hij hj (some_at hi) (some_at hj)
 simp only [decide_eq_false_iff_not] at this
 omega
theorem merge_body {srt out : List Span} {i : Nat} (hi : i < srt.length) (ho : out.length ≤ 100000) (hl : srt.length ≤ 100000) :
  span_Normal_l1 srt (out, (i : Int)) = some (.inl (mstep out srt[i], ((i + 1 : Nat) : Int))) := by
 unfold span_Normal_l1
 simp only
 rw [if_pos (decide_eq_true (by omega)), ix_nat _ _ hi]
 simp only [Option.bind_some]
 unfold span_Normal_j1
 simp only
 rw [w64_n (n := i) (by omega)]
 rcases List.eq_nil_or_concat out with rfl | ⟨o, t, rfl⟩
 ·rw [mstep_nil]
  simp only [List.length_nil]
  rw [if_neg (by decide)]
  simp only [Option.bind_some, Bool.false_eq_true, if_false]
  rw [appM_one _ _ _ (by simp) (by decide)]
  rfl
 ·rw [List.concat_eq_append] at *
  have hlen : (((o ++ [t]).length : Nat) : Int) = (o.length : Int) + 1 := by simp
  have e1 : w64 (((o ++ [t]).length : Int) - 1) = (o.length : Int) := by rw [hlen, w64_id (by omega) (by omega)]; omega
  rw [if_pos (decide_eq_true (by rw [hlen]; omega)), e1, ix_last]
  simp only [Option.bind_some]
  rw [mstep_snoc]
  by_cases hc : srt[i].From ≤ t.To
  ·rw [if_pos (decide_eq_true hc), if_pos hc, setM_last]
   rfl
  ·rw [if_neg (by simpa using hc), if_neg hc, appM_one _ _ _ (by simp at ho ⊢; omega) (by decide)]
   rfl
theorem merge_loop {srt : List Span} (hl : srt.length ≤ 100000) (hne : ∀ s ∈ srt, s.From < s.To) (hs : srt.Pairwise (fun s t => s.From ≤ t.From)) :
  ∃ r, whileM (span_Normal_l1 srt) ([], 0) = some r ∧ MI srt srt.length r :=
 loop_fold (fun a i => (a, i)) srt.length (fun i out => MI srt i out) (fun r => MI srt srt.length r) (fun i hi a h => by
  have := h.len
  exact ⟨_, merge_body hi (by omega) hl, h.step hi hne hs⟩) (fun a h => by
  unfold span_Normal_l1
  simp only
  rw [if_neg (by simp)]
  exact ⟨_, rfl, h⟩) [] MI.zero
/-- a valid list of the numbers of l -/
structure NS (l r : List Span) : Prop where
 vs : VS r
 mem : ∀ y, Mem r y ↔ Mem l y
 len : r.length ≤ l.length
 ends : ∀ s ∈ r, (∃ t ∈ l, s.From = t.From) ∧ (∃ t ∈ l, s.To = t.To)
theorem NS.of {l f srt r : List Span} (hf : f = l.filter (fun s => decide (s.From < s.To))) (hp : srt.Perm f) (h : MI srt srt.length r) : NS l r := by
 have hsub : ∀ s ∈ srt, s ∈ l := fun s hs => (List.mem_filter.1 (hf ▸ hp.mem_iff.1 hs)).1
 refine ⟨h.vs, fun y => ?_, ?_, fun s hs => ?_⟩
 ·rw [h.mem, List.take_of_length_le (Nat.le_refl _), mem_perm hp, hf, mem_filter]
 ·have h1 := h.len
  rw [hp.length_eq, hf] at h1
  exact Nat.le_trans h1 (List.length_filter_le _ _)
 ·obtain ⟨⟨t, ht, e⟩, ⟨u, hu, e'⟩⟩ := h.ends s hs
  exact ⟨⟨t, hsub t ht, e⟩, ⟨u, hsub u hu, e'⟩⟩
theorem normal_spec {l : List Span} (hl : l.length < 100000) : ∃ r, span_Normal l = some r ∧ NS l r := by
 unfold span_Normal
 rw [sclone _ (by omega)]
 simp only [Option.bind_some]
 rw [sdelete_spec (fun s => !(decide (s.From < s.To))) span_Normal_fn1 (fun x => rfl) l (by omega)]
 simp only [Option.bind_some, Bool.not_not]
 have hfl : (l.filter (fun s => decide (s.From < s.To))).length ≤ l.length := List.length_filter_le _ _
 obtain ⟨srt, es, hp, hln, hsr⟩ := sort_spec from_ok (l := l.filter (fun s => decide (s.From < s.To))) (fun _ _ => trivial) (by omega)
 rw [sort_span, es]
 simp only [Option.bind_some]
 rw [← hln] at hsr
 obtain ⟨r, er, hr⟩ := merge_loop (srt := srt) (by omega) (fun s hs => by simpa using (List.mem_filter.1 (hp.mem_iff.1 hs)).2) hsr.pw
 rw [er]
 exact ⟨r, rfl, NS.of rfl hp hr⟩
/-! ### the reference -/
theorem NS.uniq {l r s : List Span} (h1 : NS l r) (h2 : NS l s) : r = s := h1.vs.uniq h2.vs (fun x => (h1.mem x).trans (h2.mem x).symm)
end Go.Proofs.YtdcafiefjakfeaaGreat.Sh

/- Rates and times of samples as plain programs (chapter 2): what they compute, for any arguments in range. -/
namespace Go.Proofs.YtdcafiefjakfeaaGreat.Sh
open Go
set_option linter.unusedVariables false
set_option linter.unusedSimpArgs false
/-- a number lies from low to high -/
def inB (n lo hi : Int) : Bool := decide (lo ≤ n) && decide (n ≤ hi)
theorem inB_iff {n lo hi : Int} : inB n lo hi = true ↔ lo ≤ n ∧ n ≤ hi := by simp [inB]
theorem inB_true {n lo hi : Int} (h1 : lo ≤ n) (h2 : n ≤ hi) : inB n lo hi = true := inB_iff.2 ⟨h1, h2⟩
theorem rate_in_eq (n lo hi : Int) : rate_in n lo hi = some (inB n lo hi) := rfl
theorem tmod_cast (m n : Nat) : ((m : Int).tmod (n : Int)) = ((m % n : Nat) : Int) := by
 rw [Int.tmod_eq_emod_of_nonneg (Int.natCast_nonneg m)]; rfl
theorem gcdloop {body : Int × Int → Option ((Int × Int) ⊕ Int)} (hb : ∀ s, body s = if (s.2 != 0) = true then (remM s.1 s.2).bind fun r => some (Sum.inl (s.2, r)) else some (Sum.inr s.1)) (a b : Nat) :
  whileM body ((a : Int), (b : Int)) = some (Nat.gcd a b : Int) := by
 have h := whileM_inv (body := body) (fun s => ∃ x y : Nat, s = ((x : Int), (y : Int)) ∧ Nat.gcd x y = Nat.gcd a b) (fun s => s.2.toNat) (fun r => r = (Nat.gcd a b : Int)) (by
  rintro s ⟨x, y, rfl, hg⟩
  by_cases hy : y = 0
  ·right
   subst hy
   refine ⟨(x : Int), ?_, ?_⟩
   ·rw [hb]; simp
   ·rw [← hg]; simp
  ·left
   have hy' : (y : Int) ≠ 0 := by omega
   refine ⟨((y : Int), ((x % y : Nat) : Int)), ?_, ⟨y, x % y, rfl, ?_⟩, ?_⟩
   ·rw [hb, if_pos (by simpa using hy)]
    simp only
    rw [remM_at _ _ hy', tmod_cast]
    rfl
   ·rw [← hg, Nat.gcd_comm y, ← Nat.gcd_rec, Nat.gcd_comm]
   ·simp only [Int.toNat_natCast]
    exact Nat.mod_lt _ (by omega)) ((a : Int), (b : Int)) ⟨a, b, rfl, rfl⟩
 obtain ⟨r, hr, rfl⟩ := h
 exact hr
theorem rate_gcd_eq (a b : Int) (ha : 0 ≤ a) (hb : 0 ≤ b) : rate_gcd a b = some (Int.gcd a b : Int) := by
 obtain ⟨m, rfl⟩ := Int.eq_ofNat_of_zero_le ha
 obtain ⟨n, rfl⟩ := Int.eq_ofNat_of_zero_le hb
 unfold rate_gcd
 rw [gcdloop (body := rate_gcd_l1) (fun _ => rfl)]
 rfl
/-- a rate that is well -/
structure RV (r : Rate) : Prop where
 n0 : 1 ≤ r.Num
 n1 : r.Num ≤ 4096
 d0 : 1 ≤ r.Den
 d1 : r.Den ≤ 4096
 g : Int.gcd r.Num r.Den = 1
def rateVB (r : Rate) : Bool := inB r.Num 1 4096 && (inB r.Den 1 4096 && decide (Int.gcd r.Num r.Den = 1))
theorem rateVB_iff {r : Rate} : rateVB r = true ↔ RV r := by
 simp only [rateVB, inB, Bool.and_eq_true, decide_eq_true_eq]
 exact ⟨fun ⟨⟨a, b⟩, ⟨c, d⟩, e⟩ => ⟨a, b, c, d, e⟩, fun ⟨a, b, c, d, e⟩ => ⟨⟨a, b⟩, ⟨c, d⟩, e⟩⟩
theorem rate_Valid_eq (r : Rate) : rate_Valid r = some (rateVB r) := by
 unfold rate_Valid rateVB
 simp only [rate_in_eq, Option.bind]
 by_cases h1 : inB r.Num 1 4096 = true
 ·by_cases h2 : inB r.Den 1 4096 = true
  ·have a1 := inB_iff.1 h1
   have a2 := inB_iff.1 h2
   rw [if_pos h1, h1, h2, rate_gcd_eq _ _ (by omega) (by omega)]
   simp only [if_true, Bool.true_and, Option.some.injEq]
   rw [Bool.eq_iff_iff]; simp; omega
  ·simp only [Bool.not_eq_true] at h2
   simp [h1, h2]
 ·simp only [Bool.not_eq_true] at h1
  simp [h1]
/-- the time of a sample -/
def timeV (start : Int) (r : Rate) (k : Int) : Int × Int :=
 if rateVB r = true then (if (inB start 0 9007199254740992 && inB k 0 16777216) = true then (start + k * (r.Den * 1000000) / r.Num, 0) else (0, 2)) else (0, 1)
theorem timeV_ok {start k : Int} {r : Rate} (h : RV r) (s0 : 0 ≤ start) (s1 : start ≤ 9007199254740992) (k0 : 0 ≤ k) (k1 : k ≤ 16777216) : timeV start r k = (start + k * (r.Den * 1000000) / r.Num, 0) := by
 unfold timeV
 rw [if_pos (rateVB_iff.2 h), if_pos (by rw [inB_true s0 s1, inB_true k0 k1]; rfl)]
theorem after_fits {k : Int} {r : Rate} (h : RV r) (k0 : 0 ≤ k) (k1 : k ≤ 16777216) : 0 ≤ k * (r.Den * 1000000) ∧ k * (r.Den * 1000000) ≤ 68719476736000000 ∧ 0 ≤ k * (r.Den * 1000000) / r.Num ∧ k * (r.Den * 1000000) / r.Num ≤ 68719476736000000 := by
 have hd0 := h.d0
 have hd1 := h.d1
 have hn0 := h.n0
 have e1 : k * (r.Den * 1000000) ≤ 16777216 * 4096000000 := Int.mul_le_mul k1 (by omega) (by omega) (by omega)
 have e0 : 0 ≤ k * (r.Den * 1000000) := Int.mul_nonneg k0 (by omega)
 have e2 : k * (r.Den * 1000000) / r.Num ≤ k * (r.Den * 1000000) := Int.ediv_le_self _ e0
 have e3 : 0 ≤ k * (r.Den * 1000000) / r.Num := Int.ediv_nonneg e0 (by omega)
 omega
theorem quo_nn {a b : Int} (hb : 0 < b) (ha : 0 ≤ a) (h : a ≤ 9223372036854775807) : quoM .i64 a b = some (a / b) := by
 rw [quoM_at _ _ _ (by omega), Int.tdiv_eq_ediv_of_nonneg ha]
 have h1 := Int.ediv_le_self b ha
 have h2 := Int.ediv_nonneg ha (by omega : 0 ≤ b)
 have := w64_id (x := a / b) (by omega) (by omega)
 simp only [w64] at this
 rw [this]
theorem rem_nn {a b : Int} (hb : 0 < b) (ha : 0 ≤ a) : remM a b = some (a % b) := by
 rw [remM_at _ _ (by omega), Int.tmod_eq_emod_of_nonneg ha]
theorem rate_micros_eq {r : Rate} (h : RV r) : rate_micros r = some (r.Den * 1000000) := by
 have hd0 := h.d0
 have hd1 := h.d1
 unfold rate_micros
 rw [w64_id (by omega) (by omega)]; rfl
theorem rate_after_eq {r : Rate} (h : RV r) {k : Int} (k0 : 0 ≤ k) (k1 : k ≤ 16777216) : rate_after r k = some (k * (r.Den * 1000000) / r.Num) := by
 obtain ⟨e0, e1, e2, e3⟩ := after_fits h k0 k1
 have hn0 := h.n0
 unfold rate_after
 rw [rate_micros_eq h]
 simp only [Option.bind]
 rw [w64_id (by omega) (by omega), quo_nn (by omega) e0 (by omega)]
theorem rate_Time_eq (start : Int) (r : Rate) (k : Int) : rate_Time start r k = some (timeV start r k) := by
 unfold rate_Time timeV
 rw [rate_Valid_eq]
 simp only [rate_in_eq, Option.bind]
 by_cases h : rateVB r = true
 ·have hr := rateVB_iff.1 h
  rw [h]
  simp only [Bool.not_true, Bool.false_eq_true, if_false, if_true]
  by_cases h1 : inB start 0 9007199254740992 = true
  ·rw [h1]
   simp only [Bool.not_true, Bool.false_eq_true, if_false, Bool.true_and]
   by_cases h2 : inB k 0 16777216 = true
   ·have a1 := inB_iff.1 h1
    have a2 := inB_iff.1 h2
    obtain ⟨e0, e1, e2, e3⟩ := after_fits hr a2.1 a2.2
    rw [h2, rate_after_eq hr a2.1 a2.2]
    simp only [Bool.not_true, Bool.false_eq_true, if_false, if_true]
    rw [w64_id (by omega) (by omega)]
   ·simp only [Bool.not_eq_true] at h2
    rw [h2]; simp
  ·simp only [Bool.not_eq_true] at h1
   rw [h1]; simp
 ·simp only [Bool.not_eq_true] at h
  rw [h]; simp
end Go.Proofs.YtdcafiefjakfeaaGreat.Sh

/- A search in a list of numbers, as a plain program. -/
namespace Go.Proofs.YtdcafiefjakfeaaGreat.Sh
open Go
set_option linter.unusedVariables false
set_option linter.unusedSimpArgs false
theorem contains_spec (p : Int → Bool) (f : Int → Option Bool) (hf : ∀ x, f x = some (p x)) (s : List Int) (hl : s.length ≤ 1000000000) : slices_ContainsFunc_Lint_int s f = some (s.any p) := by
 have hw : slices_IndexFunc_Lint_int s f = some (if s.findIdx p < s.length then (s.findIdx p : Int) else -1) := by
  unfold slices_IndexFunc_Lint_int
  have hle := List.findIdx_le_length (xs := s) (p := p)
  refine whileM_for' (fun i => (i : Int)) (s.findIdx p) _ rfl (fun i hi => ?_) ?_
  ·have hn := List.not_of_lt_findIdx hi
   simp only [slices_IndexFunc_Lint_int_l2]
   rw [if_pos (decide_eq_true (by omega)), ix_nat _ _ (by omega)]
   simp only [Option.bind, hf]
   rw [if_neg (by simpa using hn), w64_id (by omega) (by omega)]
   rfl
  ·simp only [slices_IndexFunc_Lint_int_l2]
   by_cases h : s.findIdx p < s.length
   ·rw [if_pos (decide_eq_true (by omega)), ix_nat _ _ h]
    simp only [Option.bind, hf]
    rw [if_pos (List.findIdx_getElem (w := h)), if_pos h]
   ·rw [if_neg (fun hh => h (by have := of_decide_eq_true hh; omega)), if_neg h]; rfl
 unfold slices_ContainsFunc_Lint_int
 rw [hw]
 simp only [Option.bind]
 by_cases h : s.findIdx p < s.length
 ·rw [if_pos h]
  have h2 := List.findIdx_getElem (xs := s) (p := p) (w := h)
  have : s.any p = true := List.any_eq_true.2 ⟨_, List.getElem_mem h, h2⟩
  rw [this, decide_eq_true (Int.natCast_nonneg _)]
 ·rw [if_neg h]
  have : s.any p = false := by
   rw [List.any_eq_false]
   intro x hx hp
   exact h (List.findIdx_lt_length_of_exists ⟨x, hx, hp⟩)
  rw [this]
  rfl
end Go.Proofs.YtdcafiefjakfeaaGreat.Sh

/- Identifiers and records as plain programs: when they are valid (chapters 3 and 14). -/
namespace Go.Proofs.YtdcafiefjakfeaaGreat.Sh
open Go
set_option linter.unusedVariables false
set_option linter.unusedSimpArgs false
def plainB (c : Int) : Bool := (decide (65 ≤ c) && decide (c ≤ 90)) || (decide (48 ≤ c) && decide (c ≤ 57))
def bts (s : ByteArray) : List UInt8 := s.data.toList
theorem byteAt_nat (s : ByteArray) (i : Nat) (h : i < (bts s).length) : byteAt s (i : Int) = some (((bts s)[i]).toNat : Int) := by
 have hs : i < s.size := by simpa [bts] using h
 unfold byteAt
 rw [if_pos (Int.natCast_nonneg i), Int.toNat_natCast]
 have : s[i]? = some s[i] := getElem?_pos s i hs
 rw [this]
 rfl
def codeB (s : ByteArray) (lo hi : Int) : Bool := ((bts s).all fun c => plainB c.toNat) && inB s.size lo hi
theorem source_code_eq (s : ByteArray) (lo hi : Int) (hs : s.size ≤ 9223372036854775807) : source_code s lo hi = some (codeB s lo hi) := by
 unfold source_code codeB
 have hl : s.size = (bts s).length := by simp [bts]
 rw [loop_all (bts s).length (fun i => plainB (((bts s).getD i 0).toNat : Int)) false (inB s.size lo hi)]
 ·rw [range_all (bts s) (fun c => plainB c.toNat) _ (fun i hi => by simp [List.getD_eq_getElem?_getD, hi])]
  cases (bts s).all (fun c => plainB c.toNat) <;> simp
 ·intro i hi hp
  have e : (bts s).getD i 0 = (bts s)[i] := by simp [List.getD_eq_getElem?_getD, hi]
  rw [e] at hp
  unfold source_code_l2
  rw [if_pos (decide_eq_true (by omega)), byteAt_nat s i hi]
  simp only [Option.bind, source_plain]
  have : ((decide (65 ≤ (((bts s)[i]).toNat : Int)) && decide ((((bts s)[i]).toNat : Int) ≤ 90)) || (decide (48 ≤ (((bts s)[i]).toNat : Int)) && decide ((((bts s)[i]).toNat : Int) ≤ 57))) = true := hp
  rw [this]
  simp only [Bool.not_true, Bool.false_eq_true, if_false]
  rw [w64_id (by omega) (by omega)]
  rfl
 ·intro i hi hp
  have e : (bts s).getD i 0 = (bts s)[i] := by simp [List.getD_eq_getElem?_getD, hi]
  rw [e] at hp
  unfold source_code_l2
  rw [if_pos (decide_eq_true (by omega)), byteAt_nat s i hi]
  simp only [Option.bind, source_plain]
  have : ((decide (65 ≤ (((bts s)[i]).toNat : Int)) && decide ((((bts s)[i]).toNat : Int) ≤ 90)) || (decide (48 ≤ (((bts s)[i]).toNat : Int)) && decide ((((bts s)[i]).toNat : Int) ≤ 57))) = false := hp
  rw [this]
  simp
 ·unfold source_code_l2
  rw [if_neg (by simp; omega)]
  rfl
def srcB (s : SourceID) : Bool := codeB s.Network 1 2 && codeB s.Station 1 5 && codeB s.Location 0 2 && !((s.Location.size : Int) == 1) && codeB s.Channel 3 3
structure SrcSm (x : SourceID) : Prop where
 n : x.Network.size ≤ 9223372036854775807
 s : x.Station.size ≤ 9223372036854775807
 l : x.Location.size ≤ 9223372036854775807
 c : x.Channel.size ≤ 9223372036854775807
theorem source_Valid_eq {s : SourceID} (h : SrcSm s) : source_Valid s = some (srcB s) := by
 unfold source_Valid srcB
 rw [source_code_eq _ _ _ h.n, source_code_eq _ _ _ h.s, source_code_eq _ _ _ h.l, source_code_eq _ _ _ h.c]
 have hb : ((s.Location.size : Int) != 1) = !((s.Location.size : Int) == 1) := rfl
 rw [hb]
 cases codeB s.Network 1 2 <;> cases codeB s.Station 1 5 <;> cases codeB s.Location 0 2 <;> cases ((s.Location.size : Int) == 1) <;> cases codeB s.Channel 3 3 <;> rfl
/-- samples in their range -/
def smpB (l : List Int) : Bool := l.all fun x => inB x (-1073741823) 1073741823
theorem smpB_iff {l : List Int} : smpB l = true ↔ ∀ x ∈ l, -1073741823 ≤ x ∧ x ≤ 1073741823 := by
 simp only [smpB, List.all_eq_true, inB_iff]
def recB (r : Record) : Bool :=
 srcB r.Source && inB r.Samples.length 1 65536 && inB r.First 0 (16777216 - r.Samples.length) && inB r.Error 0 1099511627776 && inB r.Run 0 65535 && inB r.Seq 0 1073741824 &&
  ((timeV r.Start r.Rate (r.First + r.Samples.length)).2 == 0) && decide ((timeV r.Start r.Rate (r.First + r.Samples.length)).1 ≤ 9007199254740992) && smpB r.Samples
theorem record_in_eq (n lo hi : Int) : record_in n lo hi = some (inB n lo hi) := rfl
theorem record_Valid_eq {r : Record} (hs : SrcSm r.Source) (hl : r.Samples.length ≤ 1000000000) : record_Valid r = some (recB r) := by
 unfold record_Valid recB
 rw [source_Valid_eq hs]
 simp only [record_in_eq, Option.bind]
 rw [w64_id (x := 16777216 - (r.Samples.length : Int)) (by omega) (by omega)]
 have hw : ∀ x, record_Valid_fn1 x = some (!(inB x (-1073741823) 1073741823)) := fun x => rfl
 rw [contains_spec _ _ hw r.Samples (by omega)]
 have hany : (!(r.Samples.any fun x => !(inB x (-1073741823) 1073741823))) = smpB r.Samples := by
  unfold smpB
  rw [List.any_eq_not_all_not]; simp
 simp only [hany]
 cases srcB r.Source
 ·simp
 cases h1 : inB (r.Samples.length : Int) 1 65536
 ·simp
 cases h2 : inB r.First 0 (16777216 - (r.Samples.length : Int))
 ·simp
 have a2 := inB_iff.1 h2
 rw [w64_id (x := r.First + (r.Samples.length : Int)) (by omega) (by omega), rate_Time_eq]
 cases inB r.Error 0 1099511627776
 ·simp
 cases inB r.Run 0 65535
 ·simp
 cases inB r.Seq 0 1073741824
 ·simp
 simp only [Bool.not_true, Bool.false_eq_true, if_false, Bool.true_and]
 cases ((timeV r.Start r.Rate (r.First + r.Samples.length)).2 == 0)
 ·simp
 cases decide ((timeV r.Start r.Rate (r.First + r.Samples.length)).1 ≤ 9007199254740992)
 ·simp
 simp
end Go.Proofs.YtdcafiefjakfeaaGreat.Sh

/- Records as plain programs: what a valid record has, its times, its parts (chapter 14). -/
namespace Go.Proofs.YtdcafiefjakfeaaGreat.Sh
open Go
set_option linter.unusedVariables false
set_option linter.unusedSimpArgs false
/-- a record that is valid -/
structure RF (r : Record) : Prop where
 src : srcB r.Source = true
 l0 : 1 ≤ r.Samples.length
 l1 : r.Samples.length ≤ 65536
 f0 : 0 ≤ r.First
 f1 : r.First + r.Samples.length ≤ 16777216
 e0 : 0 ≤ r.Error
 e1 : r.Error ≤ 1099511627776
 r0 : 0 ≤ r.Run
 r1 : r.Run ≤ 65535
 q0 : 0 ≤ r.Seq
 q1 : r.Seq ≤ 1073741824
 rv : RV r.Rate
 s0 : 0 ≤ r.Start
 s1 : r.Start ≤ 9007199254740992
 te : r.Start + (r.First + r.Samples.length) * (r.Rate.Den * 1000000) / r.Rate.Num ≤ 9007199254740992
 smp : smpB r.Samples = true
theorem timeV_zero {start k : Int} {r : Rate} (h : ((timeV start r k).2 == 0) = true) : RV r ∧ 0 ≤ start ∧ start ≤ 9007199254740992 ∧ 0 ≤ k ∧ k ≤ 16777216 := by
 unfold timeV at h
 by_cases h1 : rateVB r = true
 ·rw [if_pos h1] at h
  by_cases h2 : (inB start 0 9007199254740992 && inB k 0 16777216) = true
  ·simp only [Bool.and_eq_true, inB_iff] at h2
   exact ⟨rateVB_iff.1 h1, h2.1.1, h2.1.2, h2.2.1, h2.2.2⟩
  ·rw [if_neg h2] at h; simp at h
 ·rw [if_neg h1] at h; simp at h
theorem recB_iff {r : Record} : recB r = true ↔ RF r := by
 unfold recB
 constructor
 ·intro h
  simp only [Bool.and_eq_true, inB_iff, decide_eq_true_eq] at h
  obtain ⟨⟨⟨⟨⟨⟨⟨⟨h1, h2, h3⟩, h4, h5⟩, h6, h7⟩, h8, h9⟩, h10, h11⟩, h12⟩, h13⟩, h14⟩ := h
  obtain ⟨g1, g2, g3, g4, g5⟩ := timeV_zero h12
  rw [timeV_ok g1 g2 g3 g4 g5] at h13
  exact ⟨h1, by omega, by omega, h4, by omega, h6, h7, h8, h9, h10, h11, g1, g2, g3, h13, h14⟩
 ·intro h
  have a1 := h.l0
  have a2 := h.l1
  have a3 := h.f0
  have a4 := h.f1
  rw [timeV_ok h.rv h.s0 h.s1 (by omega) (by omega)]
  simp only [Bool.and_eq_true, inB_iff, decide_eq_true_eq]
  exact ⟨⟨⟨⟨⟨⟨⟨⟨h.src, by omega, by omega⟩, a3, by omega⟩, h.e0, h.e1⟩, h.r0, h.r1⟩, h.q0, h.q1⟩, rfl⟩, h.te⟩, h.smp⟩
theorem codeB_size {s : ByteArray} {lo hi : Int} (h : codeB s lo hi = true) : (s.size : Int) ≤ hi := by
 simp only [codeB, Bool.and_eq_true, inB_iff] at h
 exact h.2.2
theorem srcB_sm {s : SourceID} (h : srcB s = true) : SrcSm s := by
 simp only [srcB, Bool.and_eq_true] at h
 have a1 := codeB_size h.1.1.1.1
 have a2 := codeB_size h.1.1.1.2
 have a3 := codeB_size h.1.1.2
 have a4 := codeB_size h.2
 exact ⟨by omega, by omega, by omega, by omega⟩
theorem RF.valid {r : Record} (h : RF r) : record_Valid r = some true := by
 rw [record_Valid_eq (srcB_sm h.src) (by have := h.l1; omega), recB_iff.2 h]
/-- the time of a sample -/
def timeR (r : Record) (i : Int) : Int := r.Start + (r.First + i) * (r.Rate.Den * 1000000) / r.Rate.Num
theorem RF.timeV {r : Record} (h : RF r) {i : Int} (i0 : 0 ≤ i) (i1 : i ≤ r.Samples.length) : timeV r.Start r.Rate (r.First + i) = (timeR r i, 0) := by
 have a3 := h.f0
 have a4 := h.f1
 rw [timeV_ok h.rv h.s0 h.s1 (by omega) (by omega)]
 rfl
theorem RF.mono {r : Record} (h : RF r) {i j : Int} (hij : i ≤ j) : timeR r i ≤ timeR r j := by
 have hn := h.rv.n0
 have hd := h.rv.d0
 unfold timeR
 have : (r.First + i) * (r.Rate.Den * 1000000) ≤ (r.First + j) * (r.Rate.Den * 1000000) := Int.mul_le_mul_of_nonneg_right (by omega) (by omega)
 have := Int.ediv_le_ediv (show 0 < r.Rate.Num by omega) this
 omega
theorem RF.tb {r : Record} (h : RF r) {i : Int} (i0 : 0 ≤ i) (i1 : i ≤ r.Samples.length) : 0 ≤ timeR r i ∧ timeR r i ≤ 9007199254740992 := by
 have hn := h.rv.n0
 have hd := h.rv.d0
 have h1 := h.mono i1
 have h2 := h.te
 have h3 : 0 ≤ (r.First + i) * (r.Rate.Den * 1000000) / r.Rate.Num := Int.ediv_nonneg (Int.mul_nonneg (by have := h.f0; omega) (by omega)) (by omega)
 have h4 := h.s0
 unfold timeR at *
 omega
theorem record_time_eq {r : Record} (h : RF r) {i : Int} (i0 : 0 ≤ i) (i1 : i ≤ r.Samples.length) : record_time r i = some (timeR r i) := by
 have a3 := h.f0
 have a4 := h.f1
 unfold record_time
 rw [w64_id (by omega) (by omega), rate_Time_eq, h.timeV i0 i1]
 rfl
/-- a part of a record -/
def subR (r : Record) (a b : Nat) : Record := ⟨r.Source, r.Start, r.First + a, r.Rate, r.Error, r.Run, r.Seq, (r.Samples.take b).drop a⟩
theorem subR_time (r : Record) (a b : Nat) (i : Int) : timeR (subR r a b) i = timeR r (a + i) := by
 simp only [timeR, subR]
 rw [show r.First + (a : Int) + i = r.First + (a + i) by omega]
theorem subR_len (r : Record) (a b : Nat) (hb : b ≤ r.Samples.length) : (subR r a b).Samples.length = b - a := by
 simp [subR]; omega
theorem RF.sub {r : Record} (h : RF r) {a b : Nat} (hab : a < b) (hb : b ≤ r.Samples.length) : RF (subR r a b) := by
 have hl := subR_len r a b hb
 have l1 := h.l1
 have f0 := h.f0
 have f1 := h.f1
 have ht := h.mono (i := b) (j := r.Samples.length) (by omega)
 have te := h.te
 refine ⟨h.src, by omega, by omega, by simp only [subR]; omega, by rw [hl]; simp only [subR]; omega, h.e0, h.e1, h.r0, h.r1, h.q0, h.q1, h.rv, h.s0, h.s1, ?_, ?_⟩
 ·have e := subR_time r a b ((subR r a b).Samples.length)
  rw [hl] at e
  have e2 : (a : Int) + ((b - a : Nat) : Int) = b := by omega
  rw [e2] at e
  rw [hl]
  unfold timeR at e ht
  rw [e]
  omega
 ·rw [smpB_iff]
  intro x hx
  exact smpB_iff.1 h.smp x (List.mem_of_mem_take (List.mem_of_mem_drop hx))
end Go.Proofs.YtdcafiefjakfeaaGreat.Sh

/- Records as plain programs: Sub, Span, At, Follows, Same (chapter 14). -/
namespace Go.Proofs.YtdcafiefjakfeaaGreat.Sh
open Go
set_option linter.unusedVariables false
set_option linter.unusedSimpArgs false
theorem clone_int (s : List Int) (h : s.length ≤ 1000000) : slices_Clone_Lint_int s = some s := by
 unfold slices_Clone_Lint_int
 rw [appM_one _ _ _ (by simpa using h) (by decide)]
 rfl
theorem sub_eq {r : Record} (h : RF r) {a b : Nat} (hab : a ≤ b) (hb : b ≤ r.Samples.length) : record_sub r a b = some (subR r a b) := by
 have f0 := h.f0
 have f1 := h.f1
 have l1 := h.l1
 unfold record_sub
 rw [sub_at _ _ _ hab hb]
 simp only [Option.bind]
 rw [clone_int _ (by simp; omega), w64_id (x := r.First + (a : Int)) (by omega) (by omega)]
 rfl
theorem Sub_eq {r : Record} (h : RF r) {a b : Nat} (hab : a < b) (hb : b ≤ r.Samples.length) : record_Sub r a b = some (subR r a b, 0) := by
 unfold record_Sub
 rw [h.valid]
 simp only [Option.bind, Bool.not_true, Bool.false_eq_true, if_false]
 rw [if_neg (by simp; omega), sub_eq h (by omega) hb]
theorem equal_int (a b : List Int) (h : a.length ≤ 1000000000) : slices_Equal_Lint_int a b = some (decide (a = b)) := by
 unfold slices_Equal_Lint_int
 by_cases hl : a.length = b.length
 ·rw [if_neg (by simp [hl])]
  refine loop_same a b (fun x y => x == y) (fun x y => by simp) hl (fun i hi he => ?_) (fun i hi he => ?_) ?_
  ·simp only [slices_Equal_Lint_int_l2]
   rw [if_pos (decide_eq_true (by omega)), ix_nat _ _ hi, ix_nat _ _ (show i < b.length by omega)]
   simp only [Option.bind, bne, he, Bool.not_true, Bool.false_eq_true, if_false]
   rw [w64_id (by omega) (by omega)]
   rfl
  ·simp only [slices_Equal_Lint_int_l2]
   rw [if_pos (decide_eq_true (by omega)), ix_nat _ _ hi, ix_nat _ _ (show i < b.length by omega)]
   simp only [Option.bind, bne, he, Bool.not_false, if_true]
  ·simp only [slices_Equal_Lint_int_l2]
   rw [if_neg (by simp)]
   rfl
 ·rw [if_pos (by simp; omega), decide_eq_false (fun h => hl (by rw [h]))]
theorem ba_beq (a b : ByteArray) : (a == b) = decide (a = b) := by
 cases a with | mk x => cases b with | mk y =>
 show (x == y) = _
 rw [Bool.eq_iff_iff]; simp
theorem ba_refl (a : ByteArray) : (a == a) = true := by rw [ba_beq, decide_eq_true rfl]
end Go.Proofs.YtdcafiefjakfeaaGreat.Sh

/- Compare, Better and Same of records as plain programs: strict total orders (chapters 3 and 14). -/
namespace Go.Proofs.YtdcafiefjakfeaaGreat.Sh
open Go
set_option linter.unusedVariables false
set_option linter.unusedSimpArgs false
theorem cmp_int_eq (x y : Int) : cmp_Compare_int x y = some (cmpI x y) := by
 unfold cmp_Compare_int cmp_isNaN_int cmpI
 simp only [bne_self_eq_false, Option.bind, Bool.false_eq_true, if_false]
 by_cases h1 : x < y
 ·simp [h1]
 ·by_cases h2 : y < x
  ·simp [h1, h2]
  ·simp [h1, h2]
theorem cmp_string_eq (x y : ByteArray) : cmp_Compare_string x y = some (cmpS x y) := by
 unfold cmp_Compare_string cmp_isNaN_string
 rw [cmpS_spell]
 simp only [beq_self_eq_true, Bool.not_true, Option.bind, Bool.false_eq_true, if_false]
 cases Op.bytesLess x.toList y.toList
 ·cases (x.toList == y.toList) <;> simp
 ·simp
theorem or_int_eq (l : List Int) (hl : l.length ≤ 1000000) : cmp_Or_int l = some (orL l) := by
 unfold cmp_Or_int
 have key : ∀ m, m ≤ l.length → whileM (cmp_Or_int_l2 l) ((l.length - m : Nat) : Int) = some (orL (l.drop (l.length - m))) := by
  intro m
  induction m with
  | zero =>
   intro _
   rw [whileM_eq, Nat.sub_zero]
   unfold cmp_Or_int_l2
   rw [if_neg (by simp)]
   simp [orL]
  | succ m ih =>
   intro hm
   have ih := ih (by omega)
   rw [show l.length - m = l.length - (m + 1) + 1 by omega] at ih
   have hi : l.length - (m + 1) < l.length := by omega
   rw [whileM_eq]
   unfold cmp_Or_int_l2
   rw [if_pos (decide_eq_true (by omega)), ix_nat _ _ hi, List.drop_eq_getElem_cons hi]
   simp only [Option.bind, orL]
   by_cases hx : l[l.length - (m + 1)] = 0
   ·rw [if_neg (by simp [hx]), if_neg (by omega), w64_id (by omega) (by omega)]
    exact ih
   ·rw [if_pos (by simpa using hx), if_pos hx]
 have := key l.length (Nat.le_refl _)
 rw [Nat.sub_self] at this
 exact this
theorem lex_int_eq (a b : List Int) (ha : a.length ≤ 1000000000) : slices_Compare_Lint_int a b = some (lexL cmpI a b) := by
 unfold slices_Compare_Lint_int
 have key : ∀ m, m ≤ a.length → a.length - m ≤ b.length → whileM (slices_Compare_Lint_int_l2 a b) ((a.length - m : Nat) : Int) = some (lexL cmpI (a.drop (a.length - m)) (b.drop (a.length - m))) := by
  intro m
  induction m with
  | zero =>
   intro _ hb
   rw [whileM_eq, Nat.sub_zero]
   unfold slices_Compare_Lint_int_l2
   rw [if_neg (by simp)]
   simp only [Option.map, Option.bind, List.drop_length]
   by_cases hl : a.length < b.length
   ·rw [if_pos (decide_eq_true (by omega)), List.drop_eq_getElem_cons hl]
    rfl
   ·rw [if_neg (by simpa using hl), List.drop_eq_nil_of_le (by omega)]
    rfl
  | succ m ih =>
   intro hm hb
   have hi : a.length - (m + 1) < a.length := by omega
   obtain ⟨i, hie⟩ : ∃ i, a.length - (m + 1) = i := ⟨_, rfl⟩
   have hm2 : a.length - m = i + 1 := by omega
   rw [hie] at hi hb ⊢
   by_cases hl : i < b.length
   ·have ih := ih (by omega) (by omega)
    rw [hm2] at ih
    have step : slices_Compare_Lint_int_l2 a b (i : Int) = if cmpI a[i] b[i] = 0 then some (.inl ((i + 1 : Nat) : Int)) else some (.inr (cmpI a[i] b[i])) := by
     unfold slices_Compare_Lint_int_l2
     rw [if_pos (decide_eq_true (by omega)), ix_nat _ _ hi]
     simp only [Option.bind]
     rw [if_neg (by simp; omega), ix_nat _ _ hl]
     simp only [cmp_int_eq]
     by_cases hx : cmpI a[i] b[i] = 0
     ·rw [if_neg (by simp [hx]), if_pos hx, w64_id (by omega) (by omega)]
      rfl
     ·rw [if_pos (by simpa using hx), if_neg hx]
    rw [whileM_eq, step, List.drop_eq_getElem_cons hi, List.drop_eq_getElem_cons hl]
    simp only [lexL]
    by_cases hx : cmpI a[i] b[i] = 0
    ·rw [if_pos hx, if_neg (by omega)]
     exact ih
    ·rw [if_neg hx, if_pos hx]
     rfl
   ·have step : slices_Compare_Lint_int_l2 a b (i : Int) = some (.inr 1) := by
     unfold slices_Compare_Lint_int_l2
     rw [if_pos (decide_eq_true (by omega)), ix_nat _ _ hi]
     simp only [Option.bind]
     rw [if_pos (decide_eq_true (by omega))]
    rw [whileM_eq, step, List.drop_eq_getElem_cons hi, List.drop_eq_nil_of_le (by omega : b.length ≤ i)]
    rfl
 have := key a.length (Nat.le_refl _) (by omega)
 rw [Nat.sub_self] at this
 exact this
def cmpSrc (a b : SourceID) : Int := andThen (fun a b => cmpS a.Network b.Network) (andThen (fun a b => cmpS a.Station b.Station) (andThen (fun a b => cmpS a.Location b.Location) (fun a b => cmpS a.Channel b.Channel))) a b
theorem cmpSrc_cmp : Cmp cmpSrc := (cmpS_cmp.by (fun s : SourceID => s.Network)).andThen ((cmpS_cmp.by (fun s : SourceID => s.Station)).andThen ((cmpS_cmp.by (fun s : SourceID => s.Location)).andThen (cmpS_cmp.by (fun s : SourceID => s.Channel))))
theorem cmpSrc_eq {a b : SourceID} (h : cmpSrc a b = 0) : a = b := by
 unfold cmpSrc andThen at h
 have h1 : cmpS a.Network b.Network = 0 := Classical.byContradiction fun hn => by rw [if_pos hn] at h; exact hn h
 rw [if_neg (by omega)] at h
 have h2 : cmpS a.Station b.Station = 0 := Classical.byContradiction fun hn => by rw [if_pos hn] at h; exact hn h
 rw [if_neg (by omega)] at h
 have h3 : cmpS a.Location b.Location = 0 := Classical.byContradiction fun hn => by rw [if_pos hn] at h; exact hn h
 rw [if_neg (by omega)] at h
 cases a; cases b
 simp only [SourceID.mk.injEq]
 exact ⟨cmpS_eq h1, cmpS_eq h2, cmpS_eq h3, cmpS_eq h⟩
theorem source_Compare_eq (a b : SourceID) : source_Compare a b = some (cmpSrc a b) := by
 unfold source_Compare
 simp only [cmp_string_eq, Option.bind]
 rw [or_int_eq _ (by simp)]
 simp only [orL, cmpSrc, andThen, Option.some.injEq]
 split
 ·rfl
 ·split
  ·rfl
  ·split
   ·rfl
   ·split <;> omega
/-- when the first sample is, 0 for records that are not valid -/
def begR (r : Record) : Int := if recB r = true then timeR r 0 else 0
structure RSm (r : Record) : Prop where
 src : SrcSm r.Source
 len : r.Samples.length ≤ 1000000000
theorem RF.sm {r : Record} (h : RF r) : RSm r := ⟨srcB_sm h.src, by have := h.l1; omega⟩
theorem begin_eq {r : Record} (h : RSm r) : record_begin r = some (begR r) := by
 unfold record_begin begR
 rw [record_Valid_eq h.src h.len]
 simp only [Option.bind]
 by_cases hb : recB r = true
 ·have hr := recB_iff.1 hb
  rw [hb, record_time_eq hr (Int.le_refl 0) (by omega)]
  rfl
 ·simp only [Bool.not_eq_true] at hb
  rw [hb]; rfl
def cmpR (a b : Record) : Int :=
 andThen (fun a b => cmpSrc a.Source b.Source) (andThen (fun a b => cmpI (begR a) (begR b)) (andThen (fun a b => cmpI a.Start b.Start) (andThen (fun a b => cmpI a.First b.First) (andThen (fun a b => cmpI a.Rate.Num b.Rate.Num)
  (andThen (fun a b => cmpI a.Rate.Den b.Rate.Den) (andThen (fun a b => cmpI a.Error b.Error) (andThen (fun a b => cmpI a.Run b.Run) (andThen (fun a b => cmpI a.Seq b.Seq) (andThen (fun a b => cmpI a.Samples.length b.Samples.length) (fun a b => lexL cmpI a.Samples b.Samples)))))))))) a b
theorem cmpR_cmp : Cmp cmpR :=
 (cmpSrc_cmp.by (fun r : Record => r.Source)).andThen ((cmpI_cmp.by begR).andThen ((cmpI_cmp.by (fun r : Record => r.Start)).andThen ((cmpI_cmp.by (fun r : Record => r.First)).andThen ((cmpI_cmp.by (fun r : Record => r.Rate.Num)).andThen
  ((cmpI_cmp.by (fun r : Record => r.Rate.Den)).andThen ((cmpI_cmp.by (fun r : Record => r.Error)).andThen ((cmpI_cmp.by (fun r : Record => r.Run)).andThen ((cmpI_cmp.by (fun r : Record => r.Seq)).andThen ((cmpI_cmp.by (fun r : Record => (r.Samples.length : Int))).andThen ((lexL_cmp cmpI_cmp).by (fun r : Record => r.Samples)))))))))))
theorem andThen_zero {α : Type} {c d : α → α → Int} {a b : α} (h : andThen c d a b = 0) : c a b = 0 ∧ d a b = 0 := by
 unfold andThen at h
 split at h
 ·next hn => exact absurd h hn
 ·next hn => exact ⟨by omega, h⟩
theorem cmpR_eq {a b : Record} (h : cmpR a b = 0) : a = b := by
 obtain ⟨h1, h⟩ := andThen_zero h
 obtain ⟨h2, h⟩ := andThen_zero h
 obtain ⟨h3, h⟩ := andThen_zero h
 obtain ⟨h4, h⟩ := andThen_zero h
 obtain ⟨h5, h⟩ := andThen_zero h
 obtain ⟨h6, h⟩ := andThen_zero h
 obtain ⟨h7, h⟩ := andThen_zero h
 obtain ⟨h8, h⟩ := andThen_zero h
 obtain ⟨h9, h⟩ := andThen_zero h
 obtain ⟨h10, h⟩ := andThen_zero h
 have e1 := cmpSrc_eq h1
 have e3 := cmpI_eq h3
 have e4 := cmpI_eq h4
 have e5 := cmpI_eq h5
 have e6 := cmpI_eq h6
 have e7 := cmpI_eq h7
 have e8 := cmpI_eq h8
 have e9 := cmpI_eq h9
 have e11 := lexL_eq (fun _ _ => cmpI_eq) _ _ h
 obtain ⟨a1, a2, a3, ⟨a4, a5⟩, a6, a7, a8, a9⟩ := a
 obtain ⟨b1, b2, b3, ⟨b4, b5⟩, b6, b7, b8, b9⟩ := b
 simp only at e1 e3 e4 e5 e6 e7 e8 e9 e11
 subst e1 e3 e4 e5 e6 e7 e8 e9 e11
 rfl
theorem record_Compare_eq {a b : Record} (ha : RSm a) (hb : RSm b) : record_Compare a b = some (cmpR a b) := by
 unfold record_Compare
 rw [source_Compare_eq, begin_eq ha, begin_eq hb, lex_int_eq _ _ ha.len]
 simp only [cmp_int_eq, Option.bind]
 rw [or_int_eq _ (by simp)]
 simp only [orL, cmpR, andThen, Option.some.injEq]
 repeat' (first | rfl | (split <;> (try rfl)))
 all_goals omega
def betR (a b : Record) : Int := andThen (fun a b => cmpI a.Error b.Error) (andThen (fun a b => cmpI b.Run a.Run) (andThen (fun a b => cmpI b.Seq a.Seq) cmpR)) a b
open Classical in
theorem record_Same_eq {a b : Record} (ha : RSm a) : record_Same a b = some (decide (a = b)) := by
 unfold record_Same
 rw [equal_int _ _ ha.len]
 simp only [ba_beq, Bool.and_true]
 obtain ⟨⟨s1, s2, s3, s4⟩, a2, a3, ⟨a4, a5⟩, a6, a7, a8, a9⟩ := a
 obtain ⟨⟨t1, t2, t3, t4⟩, b2, b3, ⟨b4, b5⟩, b6, b7, b8, b9⟩ := b
 simp only [Record.mk.injEq, SourceID.mk.injEq, Rate.mk.injEq, Option.bind]
 by_cases c1 : s1 = t1 <;> by_cases c2 : s2 = t2 <;> by_cases c3 : s3 = t3 <;> by_cases c4 : s4 = t4 <;> try (simp [c1, c2, c3, c4]; done)
 by_cases c5 : a2 = b2 <;> by_cases c6 : a3 = b3 <;> by_cases c7 : a4 = b4 <;> by_cases c8 : a5 = b5 <;> try (simp [c5, c6, c7, c8]; done)
 by_cases c9 : a6 = b6 <;> by_cases c10 : a7 = b7 <;> by_cases c11 : a8 = b8 <;> simp [c1, c2, c3, c4, c5, c6, c7, c8, c9, c10, c11]
end Go.Proofs.YtdcafiefjakfeaaGreat.Sh

/- Composition of records as plain programs (chapter 15): order, what is kept, runs. -/
namespace Go.Proofs.YtdcafiefjakfeaaGreat.Sh
open Go
set_option linter.unusedVariables false
set_option linter.unusedSimpArgs false
/-- a valid list -/
structure VL (l : List Record) : Prop where
 rf : ∀ r ∈ l, RF r
 src : ∀ r ∈ l, ∀ q ∈ l, r.Source = q.Source
theorem VL.sub {l m : List Record} (h : VL l) (hm : ∀ r ∈ m, r ∈ l) : VL m := ⟨fun r hr => h.rf r (hm r hr), fun r hr q hq => h.src r (hm r hr) q (hm q hq)⟩
theorem alike1_ok {l : List Record} (h : VL l) {r : Record} (hr : r ∈ l) : compose_alike_fn1 r l = some false := by
 unfold compose_alike_fn1
 rw [(h.rf r hr).valid]
 simp only [Option.bind_some, Bool.not_true, Bool.false_eq_true, if_false]
 cases l with
 | nil => cases hr
 | cons a l =>
  rw [show ix (a :: l) 0 = some a from rfl]
  have := h.src r hr a List.mem_cons_self
  simp only [Option.bind_some]
  rw [this]
  simp only [ba_refl, Bool.and_self, Bool.not_true]
theorem alike_ok {l : List Record} (h : VL l) (hl : l.length ≤ 1000000) : compose_alike l = some true := by
 unfold compose_alike slices_ContainsFunc_Lapi_Record_api_Record slices_IndexFunc_Lapi_Record_api_Record
 have : whileM (slices_IndexFunc_Lapi_Record_api_Record_l2 l (fun y0 => compose_alike_fn1 y0 l)) 0 = some (-1) := by
  refine whileM_for' (fun i => (i : Int)) l.length _ rfl (fun i hi => ?_) ?_
  ·unfold slices_IndexFunc_Lapi_Record_api_Record_l2
   rw [if_pos (decide_eq_true (by omega)), ix_nat _ _ hi]
   simp only [Option.bind_some]
   rw [alike1_ok h (List.getElem_mem hi)]
   simp only [Option.bind_some, Bool.false_eq_true, if_false]
   rw [w64_n (by omega)]
  ·unfold slices_IndexFunc_Lapi_Record_api_Record_l2
   rw [if_neg (by simp)]
   rfl
 rw [this]
 rfl
theorem valid_ok {l : List Record} (h : VL l) (hl : l.length ≤ 256) : compose_Valid l = some true := by
 unfold compose_Valid
 rw [if_pos (decide_eq_true (by omega)), alike_ok h (by omega)]
 rfl
/-! ### the list in order, each once -/
def rec0 : Record := ⟨(⟨ByteArray.empty, ByteArray.empty, ByteArray.empty, ByteArray.empty⟩ : SourceID), 0, 0, (⟨0, 0⟩ : Rate), 0, 0, 0, ([] : List Int)⟩
theorem compact_rec (l : List Record) : slices_CompactFunc_Lapi_Record_api_Record l record_Same = compact_G rec0 record_Same l := rfl
theorem cmpR_tot {x y : Record} (h1 : decide (cmpR x y < 0) = false) (h2 : decide (cmpR y x < 0) = false) : x = y := by
 simp only [decide_eq_false_iff_not] at h1 h2
 have := cmpR_cmp.anti x y
 exact cmpR_eq (by omega)
theorem order_ok {l : List Record} (h : VL l) (hl : l.length ≤ 1000) : compose_order l = some (sset cmpR l) := by
 unfold compose_order slices_Clone_Lapi_Record_api_Record
 rw [appM_one _ _ _ (by simp; omega) (by decide)]
 simp only [Option.bind_some, List.nil_append]
 have hw : whileM (compose_order_l1 l) (l, 0) = some l := by
  refine whileM_for' (fun i => (l, (i : Int))) l.length _ rfl (fun i hi => ?_) ?_
  ·have hr := h.rf _ (List.getElem_mem hi)
   have l1 := hr.l1
   unfold compose_order_l1
   simp only
   rw [if_pos (decide_eq_true (by omega)), ix_nat _ _ hi]
   simp only [Option.bind_some]
   rw [clone_int _ (by omega)]
   simp only [Option.bind_some]
   rw [setM_at _ _ _ (by omega) (by omega), w64_n (by omega)]
   simp only [Option.bind_some, Int.toNat_natCast]
   have e : (⟨l[i].Source, l[i].Start, l[i].First, l[i].Rate, l[i].Error, l[i].Run, l[i].Seq, l[i].Samples⟩ : Record) = l[i] := rfl
   rw [e, List.set_getElem_self]
  ·unfold compose_order_l1
   simp only
   rw [if_neg (by simp)]
 rw [hw]
 simp only [Option.bind_some]
 have hs : ∀ r ∈ l, RSm r := fun r hr => (h.rf r hr).sm
 have hok : CmpOK RSm record_Compare (fun x y => decide (cmpR x y < 0)) := cmpR_cmp.ok fun x y hx hy => record_Compare_eq hx hy
 open Classical in
 obtain ⟨m, e1, e2⟩ := setsort_spec cmpR_cmp (fun _ _ => cmpR_eq) (f := record_Compare) (g := record_Same) (eq := fun a b => decide (a = b)) rec0 (l := l) (P := RSm) hs (fun x y hx hy => record_Compare_eq hx hy) (fun x y hx _ => record_Same_eq hx) (fun x y _ _ => by simp) (by omega)
 have e1' : slices_SortFunc_Lapi_Record_api_Record l record_Compare = some m := by
  show sortM l record_Compare = some m
  rw [sortM_eq hok hs (fun x y _ _ h1 h2 => cmpR_tot h1 h2), e1]
 rw [e1']
 simp only [Option.bind_some]
 rw [compact_rec, e2]
 rfl
/-! ### times -/
theorem at_ok {r : Record} (h : RF r) {i : Int} (i0 : 0 ≤ i) (i1 : i ≤ r.Samples.length) : compose_at r i = some (timeR r i) := by
 have f0 := h.f0; have f1 := h.f1
 unfold compose_at
 rw [w64_id (by omega) (by omega), rate_Time_eq, h.timeV i0 i1]
 rfl
def extR (r : Record) : Span := ⟨timeR r 0, timeR r r.Samples.length⟩
theorem extent_ok {r : Record} (h : RF r) : compose_extent r = some (extR r) := by
 unfold compose_extent
 rw [at_ok h (Int.le_refl 0) (by omega), at_ok h (by omega) (Int.le_refl _)]
 rfl
theorem RF.lt {r : Record} (h : RF r) {i j : Int} (hij : i < j) : timeR r i < timeR r j := by
 have n0 := h.rv.n0; have n1 := h.rv.n1; have d0 := h.rv.d0
 have h1 : timeR r i < timeR r (i + 1) := by
  unfold timeR
  have e : (r.First + (i + 1)) * (r.Rate.Den * 1000000) = (r.First + i) * (r.Rate.Den * 1000000) + r.Rate.Den * 1000000 := by
   rw [← Int.add_assoc, Int.add_mul, Int.one_mul]
  have h2 : (r.First + i) * (r.Rate.Den * 1000000) + r.Rate.Num * 1 ≤ (r.First + (i + 1)) * (r.Rate.Den * 1000000) := by rw [e]; omega
  have h3 := Int.ediv_le_ediv (show 0 < r.Rate.Num by omega) h2
  rw [Int.add_mul_ediv_left _ _ (show r.Rate.Num ≠ 0 by omega)] at h3
  omega
 exact Int.lt_of_lt_of_le h1 (h.mono (by omega))
def timesR (r : Record) (n : Nat) : List Int := (List.range n).map fun (i : Nat) => timeR r (i : Int)
theorem timesR_succ (r : Record) (n : Nat) : timesR r (n + 1) = timesR r n ++ [timeR r (n : Int)] := by simp [timesR, List.range_succ]
/-! ### what is kept -/
/-- a span meets a sample -/
def meets (r : Record) (i : Nat) (s : Span) : Bool := decide (s.From < timeR r ((i : Int) + 1)) && decide (timeR r (i : Int) < s.To)
def keepB (r : Record) (better : List Span) (i : Nat) : Bool := better.all fun s => !(meets r i s)
end Go.Proofs.YtdcafiefjakfeaaGreat.Sh

/- Composition of records as plain programs (chapter 15): runs, and the whole. -/
namespace Go.Proofs.YtdcafiefjakfeaaGreat.Sh
open Go
set_option linter.unusedVariables false
set_option linter.unusedSimpArgs false
/-- the longest runs of what is kept -/
structure RunsOf (k : Nat → Bool) (n : Nat) (P : List (Nat × Nat)) : Prop where
 ok : ∀ p ∈ P, p.1 < p.2 ∧ p.2 ≤ n ∧ (∀ i, p.1 ≤ i → i < p.2 → k i = true) ∧ (p.2 = n ∨ k p.2 = false)
 asc : P.Pairwise (fun p q => p.2 < q.1)
 all : ∀ i, i < n → k i = true → ∃ p ∈ P, p.1 ≤ i ∧ i < p.2
def subsR (r : Record) (P : List (Nat × Nat)) : List Record := P.map fun p => subR r p.1 p.2
theorem runs_ok {r : Record} (h : RF r) (k : Nat → Bool) : ∃ P, compose_runs r ((List.range r.Samples.length).map k) = some (subsR r P) ∧ RunsOf k r.Samples.length P ∧ P.length ≤ r.Samples.length + 1 := by
 have l1 := h.l1
 obtain ⟨n, hn⟩ : ∃ n, r.Samples.length = n := ⟨_, rfl⟩
 rw [hn]
 have hkl : ((List.range n).map k).length = n := by simp
 have hka : ∀ i (hi : i < n), ix ((List.range n).map k) (i : Int) = some (k i) := fun i hi => by
  rw [ix_nat _ _ (by simpa using hi)]; simp
 unfold compose_runs
 suffices hs : ∃ o, whileM (compose_runs_l3 r ((List.range n).map k)) (([] : List Record), 0) = some o ∧ ∃ P, o = subsR r P ∧ RunsOf k n P ∧ P.length ≤ n + 1 by
  obtain ⟨o, eo, P, hP, h1, h2⟩ := hs
  rw [eo]
  exact ⟨P, by rw [hP]; rfl, h1, h2⟩
 refine loop_ex (fun m s => ∃ (q : Nat) (P : List (Nat × Nat)), s = (subsR r P, (q : Int)) ∧ m + q = n + 1 ∧ q ≤ n + 1 ∧ P.length ≤ q ∧ (∀ p ∈ P, p.1 < p.2 ∧ p.2 ≤ n ∧ (∀ i, p.1 ≤ i → i < p.2 → k i = true) ∧ (p.2 = n ∨ k p.2 = false) ∧ p.2 < q) ∧ P.Pairwise (fun p q => p.2 < q.1) ∧ ∀ i, i < n → i < q → k i = true → ∃ p ∈ P, p.1 ≤ i ∧ i < p.2) _ ?_ (n + 1) _ ⟨0, [], rfl, rfl, Nat.zero_le _, Nat.le_refl _, by simp, List.Pairwise.nil, fun i _ hi => by omega⟩
 rintro m s ⟨q, P, rfl, hm, hq, hPl, h1, h2, h3⟩
 unfold compose_runs_l3
 simp only [hkl]
 by_cases hqn : q < n
 ·left
  rw [if_pos (decide_eq_true (by omega))]
  obtain ⟨o, eo, t, ht, t1, t2, t3, t4⟩ := loop_ex (b1 := compose_runs_l6 ((List.range n).map k))
   (fun m s => ∃ t : Nat, s = (t : Int) ∧ m + t = n ∧ q ≤ t ∧ t ≤ n ∧ ∀ i, q ≤ i → i < t → k i = true)
   (fun o => ∃ t : Nat, o = (t : Int) ∧ q ≤ t ∧ t ≤ n ∧ (∀ i, q ≤ i → i < t → k i = true) ∧ (t = n ∨ k t = false)) (by
    rintro m s ⟨t, rfl, hm, t1, t2, t3⟩
    unfold compose_runs_l6
    simp only [hkl]
    by_cases htn : t < n
    ·rw [if_pos (decide_eq_true (by omega)), hka t htn]
     simp only [Option.bind_some]
     by_cases hc : k t = true
     ·left
      rw [if_pos hc, w64_n (by omega)]
      refine ⟨_, m - 1, rfl, ⟨t + 1, rfl, by omega, by omega, by omega, fun i hi hit => ?_⟩, by omega⟩
      by_cases e : i = t
      ·subst e; exact hc
      ·exact t3 i hi (by omega)
     ·right
      rw [if_neg hc]
      exact ⟨_, rfl, t, rfl, t1, t2, t3, .inr (by simpa using hc)⟩
    ·right
     rw [if_neg (by simp; omega)]
     simp only [Option.bind_some, Bool.false_eq_true, if_false]
     exact ⟨_, rfl, t, rfl, t1, t2, t3, .inl (by omega)⟩) (n - q) (q : Int) ⟨q, rfl, by omega, Nat.le_refl _, by omega, fun i h1 h2 => by omega⟩
  subst ht
  rw [eo]
  simp only [Option.bind_some]
  unfold compose_runs_j2
  by_cases hc : q < t
  ·rw [if_pos (decide_eq_true (by omega)), Sub_eq h hc (by omega)]
   simp only [Option.bind_some]
   rw [appM_one _ _ _ (by simp [subsR]; omega) (by decide)]
   simp only [Option.bind_some]
   rw [w64_n (by omega)]
   refine ⟨_, m - (t + 1 - q), rfl, ⟨t + 1, P ++ [(q, t)], by simp [subsR], by omega, by omega, by simp; omega, fun p hp => ?_, ?_, fun i hi hit hk => ?_⟩, by omega⟩
   ·rcases List.mem_append.1 hp with hp | hp
    ·obtain ⟨a, b, c, d, e⟩ := h1 p hp
     exact ⟨a, b, c, d, by omega⟩
    ·rcases List.mem_singleton.1 hp with rfl
     exact ⟨hc, t2, t3, t4, by simp⟩
   ·rw [List.pairwise_append]
    refine ⟨h2, List.pairwise_singleton _ _, fun a ha b hb => ?_⟩
    rcases List.mem_singleton.1 hb with rfl
    exact (h1 a ha).2.2.2.2
   ·by_cases hiq : i < q
    ·obtain ⟨p, hp, e⟩ := h3 i hi hiq hk
     exact ⟨p, List.mem_append_left _ hp, e⟩
    ·by_cases e : i = t
     ·subst e
      rcases t4 with t4 | t4
      ·omega
      ·rw [t4] at hk; cases hk
     ·exact ⟨(q, t), List.mem_append_right _ List.mem_cons_self, by simp only; omega, by simp only; omega⟩
  ·rw [if_neg (by simp; omega), w64_n (by omega)]
   have e : t = q := by omega
   subst e
   refine ⟨_, m - 1, rfl, ⟨t + 1, P, rfl, by omega, by omega, by omega, fun p hp => ?_, h2, fun i hi hit hk => ?_⟩, by omega⟩
   ·obtain ⟨a, b, c, d, e⟩ := h1 p hp
    exact ⟨a, b, c, d, by omega⟩
   ·by_cases e : i = t
    ·subst e
     rcases t4 with t4 | t4
     ·omega
     ·rw [t4] at hk; cases hk
    ·exact h3 i hi (by omega) hk
 ·right
  rw [if_neg (by simp; omega)]
  exact ⟨_, rfl, P, rfl, ⟨fun p hp => by obtain ⟨a, b, c, d, e⟩ := h1 p hp; exact ⟨a, b, c, d⟩, h2, fun i hi hk => h3 i hi (by omega) hk⟩, by omega⟩
/-! ### better records -/
def betterL (all : List Record) (r : Record) : List Span := (all.filter fun b => decide (betR b r < 0)).map extR
/-- a sample is kept -/
def keepR (all : List Record) (r : Record) (i : Nat) : Bool := keepB r (betterL all r) i
/-! ### the whole -/
open Classical in
noncomputable def runsR (all : List Record) (r : Record) : List (Nat × Nat) :=
 if h : ∃ P, compose_runs r ((List.range r.Samples.length).map (keepR all r)) = some (subsR r P) ∧ RunsOf (keepR all r) r.Samples.length P ∧ P.length ≤ r.Samples.length + 1 then Classical.choose h else []
theorem runsR_spec (all : List Record) {r : Record} (h : RF r) : compose_runs r ((List.range r.Samples.length).map (keepR all r)) = some (subsR r (runsR all r)) ∧ RunsOf (keepR all r) r.Samples.length (runsR all r) ∧ (runsR all r).length ≤ r.Samples.length + 1 := by
 have h0 := runs_ok h (keepR all r)
 unfold runsR
 rw [dif_pos h0]
 exact Classical.choose_spec h0
/-- the parts of a record that are kept -/
noncomputable def partsR (all : List Record) (r : Record) : List Record := subsR r (runsR all r)
/-- a valid list of few records -/
structure VS15 (l : List Record) : Prop extends VL l where
 len : l.length ≤ 100
 smp : ∀ r ∈ l, r.Samples.length ≤ 1000
theorem parts_sm {all : List Record} {r : Record} (h : RF r) : ∀ q ∈ partsR all r, ∃ a b : Nat, a < b ∧ b ≤ r.Samples.length ∧ q = subR r a b ∧ (a, b) ∈ runsR all r := fun q hq => by
 obtain ⟨p, hp, rfl⟩ := List.mem_map.1 hq
 obtain ⟨a, b, _⟩ := (runsR_spec all h).2.1.ok p hp
 exact ⟨p.1, p.2, a, b, rfl, hp⟩
theorem flat_len {α β : Type} (f : α → List β) (k : Nat) : ∀ (l : List α), (∀ x ∈ l, (f x).length ≤ k) → (l.flatMap f).length ≤ k * l.length
 | [], _ => by simp
 | a :: l, h => by
  have h1 := h a List.mem_cons_self
  have h2 := flat_len f k l fun x hx => h x (List.mem_cons_of_mem _ hx)
  rw [List.flatMap_cons, List.length_append, List.length_cons, Nat.mul_succ]
  omega
/-- what Compose gives: the kept parts of all records, in order -/
structure CompOf (l m : List Record) : Prop where
 perm : m.Perm ((sset cmpR l).flatMap (partsR (sset cmpR l)))
 asc : m.Pairwise (fun s t => cmpR s t ≤ 0)
theorem mem_ss {l : List Record} {r : Record} : r ∈ sset cmpR l ↔ r ∈ l := mem_sset fun _ _ => cmpR_eq
theorem Order_ok {l : List Record} (h : VS15 l) : compose_Order l = some (sset cmpR l, 0) := by
 have hl := h.len
 unfold compose_Order
 rw [valid_ok h.toVL (by omega)]
 simp only [Option.bind_some, Bool.not_true, Bool.false_eq_true, if_false]
 rw [order_ok h.toVL (by omega)]
 rfl
theorem CompOf.uniq {l l' m m' : List Record} (h : CompOf l m) (h' : CompOf l' m') (he : sset cmpR l = sset cmpR l') : m = m' := by
 refine sorted_uniq (lt := fun a b => decide (cmpR a b < 0)) (h.perm.trans (he ▸ h'.perm.symm)) (fun a _ b _ => cmpR_tot) ?_ ?_
 ·refine h.asc.imp fun {a b} hab => ?_
  have := cmpR_cmp.anti a b
  simp; omega
 ·refine h'.asc.imp fun {a b} hab => ?_
  have := cmpR_cmp.anti a b
  simp; omega
end Go.Proofs.YtdcafiefjakfeaaGreat.Sh

/- Composition of records as plain programs (chapter 15): values, lists that are equal, the chapter's example. -/
namespace Go.Proofs.YtdcafiefjakfeaaGreat.Sh
open Go
set_option linter.unusedVariables false
set_option linter.unusedSimpArgs false
theorem RunsOf.mem {k : Nat → Bool} {n : Nat} {P Q : List (Nat × Nat)} (hP : RunsOf k n P) (hQ : RunsOf k n Q) {p : Nat × Nat} (hp : p ∈ P) : p ∈ Q := by
 obtain ⟨a1, a2, a3, a4⟩ := hP.ok p hp
 obtain ⟨q, hq, h1, h2⟩ := hQ.all p.1 (by omega) (a3 p.1 (Nat.le_refl _) a1)
 obtain ⟨b1, b2, b3, b4⟩ := hQ.ok q hq
 have e2 : q.2 = p.2 := by
  rcases Nat.lt_trichotomy q.2 p.2 with h | h | h
  ·have := a3 q.2 (by omega) h
   rcases b4 with b4 | b4
   ·omega
   ·rw [b4] at this; cases this
  ·exact h
  ·have := b3 p.2 (by omega) h
   rcases a4 with a4 | a4
   ·omega
   ·rw [a4] at this; cases this
 have e1 : q.1 = p.1 := by
  rcases Nat.lt_or_eq_of_le h1 with h | h
  ·exfalso
   obtain ⟨p', hp', h3, h4⟩ := hP.all q.1 (by omega) (b3 q.1 (Nat.le_refl _) b1)
   obtain ⟨c1, c2, c3, c4⟩ := hP.ok p' hp'
   obtain ⟨i, hi, ei⟩ := List.mem_iff_getElem.1 hp
   obtain ⟨j, hj, ej⟩ := List.mem_iff_getElem.1 hp'
   have hpw := List.pairwise_iff_getElem.1 hP.asc
   rcases Nat.lt_trichotomy i j with hij | hij | hij
   ·have := hpw i j hi hj hij
    rw [ei, ej] at this
    omega
   ·subst hij
    rw [ei] at ej
    subst ej
    omega
   ·have := hpw j i hj hi hij
    rw [ei, ej] at this
    have := b3 p'.2 (by omega) (by omega)
    rcases c4 with c4 | c4
    ·omega
    ·rw [c4] at this; cases this
  ·exact h
 have : q = p := Prod.ext e1 e2
 rw [← this]; exact hq
theorem RunsOf.uniq {k : Nat → Bool} {n : Nat} {P Q : List (Nat × Nat)} (hP : RunsOf k n P) (hQ : RunsOf k n Q) : P = Q := by
 have pw : ∀ {R : List (Nat × Nat)}, RunsOf k n R → R.Pairwise (fun a b => cmpI (a.1 : Int) (b.1 : Int) < 0) := fun {R} h => by
  rw [List.pairwise_iff_getElem]
  intro i j hi hj hij
  have h1 := List.pairwise_iff_getElem.1 h.asc i j hi hj hij
  have h2 := (h.ok _ (List.getElem_mem hi)).1
  unfold cmpI
  rw [if_pos (by omega)]
  omega
 exact asc_uniq (c := fun a b : Nat × Nat => cmpI (a.1 : Int) (b.1 : Int)) (cmpI_cmp.by fun a : Nat × Nat => (a.1 : Int)) (pw hP) (pw hQ) fun x => ⟨hP.mem hQ, hQ.mem hP⟩
/-! ### values -/
/-! ### what is in the composed list -/
theorem CompOf.mem {l m : List Record} (hc : CompOf l m) (h : VL l) {q : Record} (hq : q ∈ m) : ∃ r ∈ l, ∃ a b : Nat, a < b ∧ b ≤ r.Samples.length ∧ q = subR r a b ∧ (a, b) ∈ runsR (sset cmpR l) r := by
 obtain ⟨r, hr, hq⟩ := List.mem_flatMap.1 (hc.perm.mem_iff.1 hq)
 have hr := mem_ss.1 hr
 obtain ⟨a, b, h1, h2, h3, h4⟩ := parts_sm (h.rf r hr) q hq
 exact ⟨r, hr, a, b, h1, h2, h3, h4⟩
theorem CompOf.rf {l m : List Record} (hc : CompOf l m) (h : VL l) {q : Record} (hq : q ∈ m) : RF q := by
 obtain ⟨r, hr, a, b, h1, h2, rfl, _⟩ := hc.mem h hq
 exact (h.rf r hr).sub h1 h2
theorem CompOf.len {l m : List Record} (hc : CompOf l m) (h : VS15 l) : m.length ≤ 100100 := by
 rw [hc.perm.length_eq]
 have h1 := sset_len cmpR l
 have h2 := h.len
 have h3 := flat_len (partsR (sset cmpR l)) 1001 (sset cmpR l) fun x hx => by
  have hx := mem_ss.1 hx
  have h1 := (runsR_spec (sset cmpR l) (h.rf x hx)).2.2
  have h2 := h.smp x hx
  unfold partsR subsR
  rw [List.length_map]; omega
 have := Nat.mul_le_mul_left 1001 (show (sset cmpR l).length ≤ 100 by omega)
 omega
theorem flatMap_congr' {α β : Type} {f g : α → List β} : ∀ {l : List α}, (∀ x ∈ l, f x = g x) → l.flatMap f = l.flatMap g
 | [], _ => rfl
 | a :: l, h => by rw [List.flatMap_cons, List.flatMap_cons, h a List.mem_cons_self, flatMap_congr' fun x hx => h x (List.mem_cons_of_mem _ hx)]
/-- the composed list, where all that is kept is known -/
theorem CompOf.eq {l m : List Record} (hc : CompOf l m) (f : Record → List (Nat × Nat)) (h : VL l) (hf : ∀ r ∈ sset cmpR l, RunsOf (keepR (sset cmpR l) r) r.Samples.length (f r)) {m' : List Record} (hp : m'.Perm ((sset cmpR l).flatMap fun r => subsR r (f r))) (ha : m'.Pairwise (fun s t => cmpR s t ≤ 0)) : m = m' := by
 have e : (sset cmpR l).flatMap (partsR (sset cmpR l)) = (sset cmpR l).flatMap fun r => subsR r (f r) := by
  refine flatMap_congr' fun r hr => ?_
  unfold partsR
  rw [(runsR_spec (sset cmpR l) (h.rf r (mem_ss.1 hr))).2.1.uniq (hf r hr)]
 have anti : ∀ {L : List Record}, L.Pairwise (fun s t => cmpR s t ≤ 0) → L.Pairwise (fun a b => decide (cmpR b a < 0) = false) := fun h => h.imp fun {a b} hab => by
  have := cmpR_cmp.anti a b
  simp; omega
 exact sorted_uniq (lt := fun a b => decide (cmpR a b < 0)) ((hc.perm.trans (e ▸ List.Perm.refl _)).trans hp.symm) (fun a _ b _ => cmpR_tot) (anti hc.asc) (anti ha)
end Go.Proofs.YtdcafiefjakfeaaGreat.Sh

/- The meet of two lists of spans as the reference makes it (chapter 8). -/
namespace Go.Proofs.YtdcafiefjakfeaaGreat.Sh
open Go
set_option linter.unusedVariables false
set_option linter.unusedSimpArgs false
end Go.Proofs.YtdcafiefjakfeaaGreat.Sh

/- Composition of records as plain programs (chapter 15): which sample a time has. -/
namespace Go.Proofs.YtdcafiefjakfeaaGreat.Sh
open Go
set_option linter.unusedVariables false
set_option linter.unusedSimpArgs false
/-! ### spans of the reference -/
end Go.Proofs.YtdcafiefjakfeaaGreat.Sh

/- Which sample of a record covers a time, depths, borders (chapter 16). -/
namespace Go.Proofs.YtdcafiefjakfeaaGreat.Sh
open Go
set_option linter.unusedVariables false
set_option linter.unusedSimpArgs false
/-! ### the sample at a time -/
theorem ceil_ok {r : Rate} (h : RV r) {x : Int} (x0 : 0 ≤ x) (x1 : x ≤ 18014398509481985) : ∃ c, rate_ceil r x = some c ∧ 0 ≤ c ∧ c ≤ 100000000000000 ∧ (c - 1) * (r.Den * 1000000) < x * r.Num ∧ x * r.Num ≤ c * (r.Den * 1000000) := by
 have n0 := h.n0; have n1 := h.n1; have d0 := h.d0; have d1 := h.d1
 obtain ⟨p, hp⟩ : ∃ p, r.Den * 1000000 = p := ⟨_, rfl⟩
 obtain ⟨n, hn⟩ : ∃ n, r.Num = n := ⟨_, rfl⟩
 have p0 : 1000000 ≤ p := by omega
 have p1 : p ≤ 4096000000 := by omega
 rw [hn] at n0 n1
 obtain ⟨q, hq⟩ : ∃ q, x / p = q := ⟨_, rfl⟩
 obtain ⟨m, hm⟩ : ∃ m, x % p = m := ⟨_, rfl⟩
 have q0 : 0 ≤ q := by rw [← hq]; exact Int.ediv_nonneg x0 (by omega)
 have q1 : q ≤ 18014398510 := by
  rw [← hq]
  have h1 : x / p < 18014398510 + 1 := Int.ediv_lt_of_lt_mul (by omega) (by
   have := Int.mul_le_mul_of_nonneg_left p0 (show (0 : Int) ≤ 18014398510 + 1 by decide)
   omega)
  omega
 have m0 : 0 ≤ m := by rw [← hm]; exact Int.emod_nonneg _ (by omega)
 have m1 : m < p := by rw [← hm]; exact Int.emod_lt_of_pos _ (by omega)
 have hx : x = p * q + m := by rw [← hq, ← hm]; exact (Int.mul_ediv_add_emod x p).symm
 have qn0 : 0 ≤ q * n := Int.mul_nonneg q0 (by omega)
 have qn1 : q * n ≤ 18014398510 * 4096 := Int.mul_le_mul q1 n1 (by omega) (by omega)
 have mn0 : 0 ≤ m * n := Int.mul_nonneg m0 (by omega)
 have mn1 : m * n ≤ 4096000000 * 4096 := Int.mul_le_mul (by omega) n1 (by omega) (by omega)
 obtain ⟨z, hz⟩ : ∃ z, (m * n + p - 1) / p = z := ⟨_, rfl⟩
 have z1 : z * p ≤ m * n + p - 1 := by rw [← hz]; exact Int.ediv_mul_le _ (by omega)
 have z2 : m * n + p - 1 < (z + 1) * p := by rw [← hz]; exact Int.lt_ediv_add_one_mul_self _ (by omega)
 have z0 : 0 ≤ z := by rw [← hz]; exact Int.ediv_nonneg (by omega) (by omega)
 have z3 : z ≤ 16777216000000 + 4096000000 := by
  have := Int.ediv_le_self p (show 0 ≤ m * n + p - 1 by omega)
  rw [hz] at this
  omega
 refine ⟨q * n + z, ?_, by omega, by omega, ?_, ?_⟩
 ·unfold rate_ceil
  rw [rate_micros_eq h]
  simp only [Option.bind_some]
  rw [hp, hn, quo_nn (by omega) x0 (by omega), rem_nn (by omega) x0, hq, hm]
  simp only [Option.bind_some]
  rw [w64_id (x := m * n) (by omega) (by omega), w64_id (x := m * n + p) (by omega) (by omega), w64_id (x := m * n + p - 1) (by omega) (by omega), quo_nn (by omega) (by omega) (by omega), hz]
  simp only [Option.bind_some]
  rw [w64_id (x := q * n) (by omega) (by omega), w64_id (by omega) (by omega)]
 ·rw [hn, hp]
  have e1 : (q * n + z - 1) * p = q * n * p + z * p - p := by grind
  have e2 : x * n = q * n * p + m * n := by rw [hx]; grind
  omega
 ·rw [hn, hp]
  have e1 : (q * n + z) * p = q * n * p + z * p := by grind
  have e2 : x * n = q * n * p + m * n := by rw [hx]; grind
  have e3 : (z + 1) * p = z * p + p := by grind
  omega
theorem cat_ok {r : Record} (h : RF r) {i : Int} (i0 : 0 ≤ i) (i1 : i ≤ r.Samples.length) : continuity_at r i = some (timeR r i) := by
 have f0 := h.f0; have f1 := h.f1
 unfold continuity_at
 rw [w64_id (by omega) (by omega), rate_Time_eq, h.timeV i0 i1]
 rfl
theorem index_ok {r : Record} (h : RF r) {t : Int} (h0 : timeR r 0 ≤ t) (h1 : t < timeR r r.Samples.length) : ∃ i : Nat, i < r.Samples.length ∧ timeR r (i : Int) ≤ t ∧ t < timeR r ((i : Int) + 1) ∧ rate_Index r.Start r.Rate t = some (r.First + i, 0) := by
 have f0 := h.f0; have f1 := h.f1; have l0 := h.l0; have l1 := h.l1; have s0 := h.s0; have s1 := h.s1
 have n0 := h.rv.n0; have n1 := h.rv.n1; have d0 := h.rv.d0; have d1 := h.rv.d1
 have te : timeR r r.Samples.length ≤ 9007199254740992 := h.te
 have hst : r.Start ≤ t := by
  have : 0 ≤ (r.First + 0) * (r.Rate.Den * 1000000) / r.Rate.Num := Int.ediv_nonneg (Int.mul_nonneg (by omega) (by omega)) (by omega)
  unfold timeR at h0
  omega
 obtain ⟨c, ec, c0, c1, c2, c3⟩ := ceil_ok h.rv (x := t - r.Start + 1) (by omega) (by omega)
 have T1 : ∀ j : Int, timeR r (j - r.First) = r.Start + j * (r.Rate.Den * 1000000) / r.Rate.Num := fun j => by
  unfold timeR
  rw [show r.First + (j - r.First) = j by omega]
 have a1 : timeR r (c - 1 - r.First) ≤ t := by
  rw [T1]
  have := Int.ediv_lt_of_lt_mul (show 0 < r.Rate.Num by omega) c2
  omega
 have a2 : t < timeR r (c - r.First) := by
  rw [T1]
  have := Int.le_ediv_of_mul_le (show 0 < r.Rate.Num by omega) c3
  omega
 have b1 : 0 < c - r.First := by
  refine Classical.byContradiction fun hn => ?_
  have := h.mono (i := c - r.First) (j := 0) (by omega)
  omega
 have b2 : c - 1 - r.First < r.Samples.length := by
  refine Classical.byContradiction fun hn => ?_
  have := h.mono (i := (r.Samples.length : Int)) (j := c - 1 - r.First) (by omega)
  omega
 obtain ⟨i, hi⟩ : ∃ i : Nat, c - 1 - r.First = (i : Int) := ⟨(c - 1 - r.First).toNat, by omega⟩
 refine ⟨i, by omega, by rw [← hi]; exact a1, by rw [← hi, show c - 1 - r.First + 1 = c - r.First by omega]; exact a2, ?_⟩
 unfold rate_Index
 have ech : rate_check r.Start r.Rate t = some 0 := by
  unfold rate_check
  rw [rate_Valid_eq, rateVB_iff.2 h.rv]
  simp only [Option.bind_some, Bool.not_true, Bool.false_eq_true, if_false, rate_in_eq]
  rw [inB_true s0 s1, inB_true (n := t) (by omega) (by omega)]
  rfl
 rw [ech]
 simp only [Option.bind_some, bne_self_eq_false, Bool.false_eq_true, if_false]
 rw [if_neg (by simp; omega)]
 unfold rate_upto
 rw [w64_id (x := t - r.Start) (by omega) (by omega), w64_id (x := t - r.Start + 1) (by omega) (by omega), ec]
 simp only [Option.bind_some]
 rw [w64_id (x := c - 1) (by omega) (by omega), show min (c - 1) 16777216 = r.First + (i : Int) by omega]
def idxR (r : Record) (t : Int) : Option Nat := (List.range r.Samples.length).find? fun (i : Nat) => decide (timeR r (i : Int) ≤ t) && decide (t < timeR r ((i : Int) + 1))
theorem idxR_of {r : Record} (h : RF r) {t : Int} {i : Nat} (hi : i < r.Samples.length) (h1 : timeR r (i : Int) ≤ t) (h2 : t < timeR r ((i : Int) + 1)) : idxR r t = some i := by
 unfold idxR
 rw [List.find?_eq_some_iff_getElem]
 refine ⟨by simp [h1, h2], i, by simpa using hi, by simp, fun j hj => ?_⟩
 have := h.mono (i := (j : Int) + 1) (j := (i : Int)) (by omega)
 simp only [List.getElem_range, Bool.not_eq_true', Bool.and_eq_false_iff, decide_eq_false_iff_not]
 omega
theorem idxR_some {r : Record} {t : Int} {i : Nat} (h : idxR r t = some i) : i < r.Samples.length ∧ timeR r (i : Int) ≤ t ∧ t < timeR r ((i : Int) + 1) := by
 unfold idxR at h
 have h3 := List.find?_some h
 have h4 := List.mem_of_find?_eq_some h
 simp only [Bool.and_eq_true, decide_eq_true_eq] at h3
 exact ⟨by simpa using h4, h3.1, h3.2⟩
theorem idxR_in {r : Record} (h : RF r) {t : Int} {i : Nat} (hi : idxR r t = some i) : timeR r 0 ≤ t ∧ t < timeR r r.Samples.length := by
 obtain ⟨h1, h2, h3⟩ := idxR_some hi
 have := h.mono (i := 0) (j := (i : Int)) (by omega)
 have := h.mono (i := (i : Int) + 1) (j := (r.Samples.length : Int)) (by omega)
 omega
theorem idxR_none {r : Record} (h : RF r) {t : Int} (hn : ¬ (timeR r 0 ≤ t ∧ t < timeR r r.Samples.length)) : idxR r t = none := by
 cases hi : idxR r t with
 | none => rfl
 | some i => exact absurd (idxR_in h hi) hn
theorem idxR_ex {r : Record} (h : RF r) {t : Int} (h0 : timeR r 0 ≤ t) (h1 : t < timeR r r.Samples.length) : ∃ i, idxR r t = some i := by
 obtain ⟨i, hi, a, b, _⟩ := index_ok h h0 h1
 exact ⟨i, idxR_of h hi a b⟩
/-- the time and the value of the sample that covers a time -/
def hitR (r : Record) (t : Int) : Option (Int × Int) := (idxR r t).map fun (i : Nat) => (timeR r (i : Int), r.Samples.getD i 0)
theorem cover_ok {r : Record} (h : RF r) (t : Int) : continuity_cover r t = some (match hitR r t with | some p => (p.1, p.2, true) | none => (0, 0, false)) := by
 have f0 := h.f0; have f1 := h.f1; have l0 := h.l0; have l1 := h.l1
 unfold continuity_cover
 rw [cat_ok h (Int.le_refl 0) (by omega), cat_ok h (by omega) (Int.le_refl _)]
 simp only [Option.bind_some]
 by_cases h0 : t < timeR r 0
 ·rw [if_pos (decide_eq_true h0)]
  have : hitR r t = none := by unfold hitR; rw [idxR_none h (by omega)]; rfl
  rw [this]
  rfl
 ·rw [if_neg (by simpa using h0)]
  simp only [Option.bind_some]
  by_cases h1 : timeR r r.Samples.length ≤ t
  ·rw [if_pos (decide_eq_true h1)]
   have : hitR r t = none := by unfold hitR; rw [idxR_none h (by omega)]; rfl
   rw [this]
  ·rw [if_neg (by simpa using h1)]
   obtain ⟨i, hi, a, b, e⟩ := index_ok h (t := t) (by omega) (by omega)
   have : hitR r t = some (timeR r (i : Int), r.Samples.getD i 0) := by unfold hitR; rw [idxR_of h hi a b]; rfl
   rw [this, e]
   simp only [Option.bind_some]
   rw [rate_Time_eq, h.timeV (by omega) (by omega), w64_id (by omega) (by omega), show r.First + (i : Int) - r.First = (i : Int) by omega, ix_nat _ _ hi]
   simp [List.getD_eq_getElem?_getD, hi]
/-! ### depth -/
def hits (l : List Record) (t : Int) : List (Int × Int) := l.filterMap (hitR · t)
theorem hits_len (l : List Record) (t : Int) : (hits l t).length ≤ l.length := List.length_filterMap_le _ _
theorem hits_take {l : List Record} {i : Nat} (h : i < l.length) (t : Int) : hits (l.take (i + 1)) t = hits (l.take i) t ++ (match hitR l[i] t with | some p => [p] | none => []) := by
 unfold hits
 rw [take_one h, List.filterMap_append]
 congr 1
 cases hh : hitR l[i] t <;> simp [hh]
theorem depth_ok {l : List Record} (h : VS15 l) (t : Int) : continuity_Depth l t = some ((hits (sset cmpR l) t).length : Int) := by
 have hl := h.len
 unfold continuity_Depth
 rw [Order_ok h]
 simp only [Option.bind_some]
 obtain ⟨A, hA⟩ : ∃ A, sset cmpR l = A := ⟨_, rfl⟩
 have hAl : A.length ≤ l.length := by rw [← hA]; exact sset_len _ _
 have hAr : ∀ r ∈ A, RF r := fun r hr => h.rf r (mem_ss.1 (hA ▸ hr))
 rw [hA]
 have : whileM (continuity_Depth_l1 t (A, 0)) (0, 0) = some ((hits A t).length : Int) := by
  refine whileM_for' (fun i => (((hits (A.take i) t).length : Int), (i : Int))) A.length _ (by simp [hits]) (fun i hi => ?_) ?_
  ·have h1 := hits_len (A.take i) t
   rw [List.length_take] at h1
   unfold continuity_Depth_l1
   simp only
   rw [if_pos (decide_eq_true (by omega)), ix_nat _ _ hi]
   simp only [Option.bind_some]
   rw [cover_ok (hAr _ (List.getElem_mem hi)), hits_take hi]
   unfold continuity_Depth_j1
   simp only [Option.bind_some]
   rw [w64_n (n := i) (by omega), w64_n (n := (hits (A.take i) t).length) (by omega)]
   cases hitR A[i] t with
   | none => simp
   | some p => simp
  ·unfold continuity_Depth_l1
   simp only
   rw [if_neg (by simp), List.take_length]
 rw [this]
 rfl
def allEq : List (Int × Int) → Bool
 | [] => true
 | p :: l => l.all fun q => decide (q = p)
theorem allEq_snoc {H : List (Int × Int)} {p : Int × Int} : allEq (H ++ [p]) = (allEq H && decide (p = H.headD p)) := by
 cases H with
 | nil => simp [allEq]
 | cons q H => simp [allEq, List.all_append]
theorem look_ok {A : List Record} (hr : ∀ r ∈ A, RF r) (hl : A.length ≤ 1000) (t : Int) : continuity_look A t = some ⟨(hits A t).length, allEq (hits A t)⟩ := by
 unfold continuity_look
 suffices hs : ∃ o, whileM (continuity_look_l1 A t) (0, true, 0, 0, 0) = some o ∧ o = (((hits A t).length : Int), allEq (hits A t)) by
  obtain ⟨o, e1, e2⟩ := hs
  rw [e1, e2]
  rfl
 refine loop_fold (body := continuity_look_l1 A t) (fun (a : Int × Bool × Int × Int) i => (a.1, a.2.1, a.2.2.1, a.2.2.2, i)) A.length (fun i a => a.1 = ((hits (A.take i) t).length : Int) ∧ a.2.1 = allEq (hits (A.take i) t) ∧ ∀ p H, hits (A.take i) t = p :: H → a.2.2 = p) _ (fun i hi a ⟨h1, h2, h3⟩ => ?_) (fun a ⟨h1, h2, h3⟩ => ?_) (0, true, 0, 0) ⟨by simp [hits], by simp [hits, allEq], by simp [hits]⟩
 ·obtain ⟨d, sm, ti, va⟩ := a
  simp only at h1 h2 h3
  have hlen := hits_len (A.take i) t
  rw [List.length_take] at hlen
  unfold continuity_look_l1
  simp only
  rw [if_pos (decide_eq_true (by omega)), ix_nat _ _ hi]
  simp only [Option.bind_some]
  rw [cover_ok (hr _ (List.getElem_mem hi)), hits_take hi]
  simp only [Option.bind_some]
  cases hh : hitR A[i] t with
  | none =>
   simp only [Bool.not_false, if_true]
   unfold continuity_look_j1
   simp only
   rw [w64_n (n := i) (by omega)]
   exact ⟨(d, sm, ti, va), rfl, by simpa using h1, by simpa using h2, by simpa using h3⟩
  | some p =>
   simp only [Bool.not_true, Bool.false_eq_true, if_false]
   rw [h1, w64_n (n := (hits (A.take i) t).length) (by omega)]
   unfold continuity_look_j2 continuity_look_j1
   simp only
   rw [w64_n (n := i) (by omega), w64_n (n := (hits (A.take i) t).length) (by omega)]
   cases hH : hits (A.take i) t with
   | nil =>
    rw [if_pos (by simp)]
    refine ⟨(1, sm && (p.1 == p.1) && (p.2 == p.2), p.1, p.2), by simp, by simp, ?_, ?_⟩
    ·rw [h2, hH]; simp [allEq]
    ·intro q Q hq
     simp only [List.nil_append, List.cons.injEq] at hq
     rw [← hq.1]
   | cons q Q =>
    rw [if_neg (by simp; omega)]
    have h4 := h3 q Q hH
    refine ⟨(((q :: Q).length + 1 : Nat), sm && (p.1 == ti) && (p.2 == va), ti, va), by simp, by simp, ?_, ?_⟩
    ·simp only
     rw [h2, hH, allEq_snoc, Bool.and_assoc]
     congr 1
     have e1 : ti = q.1 := congrArg Prod.fst h4
     have e2 : va = q.2 := congrArg Prod.snd h4
     rw [e1, e2, Bool.eq_iff_iff]
     obtain ⟨p1, p2⟩ := p
     obtain ⟨q1, q2⟩ := q
     simp
    ·intro u U hu
     simp only [List.cons_append, List.cons.injEq] at hu
     simp only
     rw [← hu.1]; exact h4
 ·obtain ⟨d, sm, ti, va⟩ := a
  simp only at h1 h2
  unfold continuity_look_l1
  simp only
  rw [if_neg (by simp)]
  rw [List.take_length] at h1 h2
  exact ⟨_, rfl, by rw [h1, h2]⟩
/-! ### borders -/
theorem compact_int (l : List Int) : slices_Compact_Lint_int l = compact_G 0 (fun x y => some (x == y)) l := rfl
theorem sortset_int {l : List Int} (hl : l.length < 1000000) : ∃ m, slices_Sort_Lint_int l = some m ∧ slices_Compact_Lint_int m = some (sset cmpI l) := by
 unfold slices_Sort_Lint_int sortI
 rw [if_pos (by omega)]
 refine ⟨_, rfl, ?_⟩
 obtain ⟨m, hm⟩ : ∃ m, (l.mergeSort fun a b => decide (a ≤ b)) = m := ⟨_, rfl⟩
 have hp : m.Perm l := hm ▸ List.mergeSort_perm _ _
 have hs : m.Pairwise (fun a b => cmpI a b ≤ 0) := by
  have := List.pairwise_mergeSort (le := fun a b : Int => decide (a ≤ b)) (fun a b c h1 h2 => by simp at h1 h2 ⊢; omega) (fun a b => by simp; omega) l
  rw [hm] at this
  refine this.imp fun {a b} hab => ?_
  have := of_decide_eq_true hab
  unfold cmpI
  split <;> (try split) <;> omega
 have hml : m.length = l.length := hp.length_eq
 rw [hm, compact_int, compact_spec 0 (eq := fun x y => x == y) (fun x _ y _ => rfl) (by omega)]
 obtain ⟨h1, h2⟩ := cpN_set cmpI_cmp (fun _ _ => cmpI_eq) (eq := fun x y => x == y) (fun x _ y _ => by simp) hs m.length (Nat.le_refl _)
 rw [asc_uniq cmpI_cmp h1 (sset_pw cmpI_cmp (fun _ _ => cmpI_eq) l) fun x => ?_]
 rw [h2, List.take_of_length_le (Nat.le_refl _), mem_sset fun _ _ => cmpI_eq, hp.mem_iff]
def insT (r : Record) (f t : Int) (n : Nat) : List Int := (timesR r n).filter fun x => decide (f < x) && decide (x < t)
def bordL (A : List Record) (f t : Int) : List Int := [f, t] ++ A.flatMap fun r => insT r f t (r.Samples.length + 1)
theorem insT_len (r : Record) (f t : Int) (n : Nat) : (insT r f t n).length ≤ n := by
 have := List.length_filter_le (fun x => decide (f < x) && decide (x < t)) (timesR r n)
 simp only [timesR, List.length_map, List.length_range] at this
 exact this
theorem bord_len {A : List Record} {f t : Int} {k : Nat} (h : ∀ r ∈ A, r.Samples.length ≤ k) : (bordL A f t).length ≤ 2 + (k + 1) * A.length := by
 unfold bordL
 have := flat_len (fun r : Record => insT r f t (r.Samples.length + 1)) (k + 1) A fun r hr => Nat.le_trans (insT_len _ _ _ _) (by have := h r hr; omega)
 rw [List.length_append]
 simp only [List.length_cons, List.length_nil]
 omega
theorem borders_ok {A : List Record} (hr : ∀ r ∈ A, RF r) (hk : ∀ r ∈ A, r.Samples.length ≤ 1000) (hl : A.length ≤ 100) (f t : Int) : continuity_borders A f t = some (sset cmpI (bordL A f t)) := by
 unfold continuity_borders
 have hw : whileM (continuity_borders_l3 A f t) (([f, t] : List Int), 0) = some (bordL A f t) := by
  refine whileM_for' (fun i => (bordL (A.take i) f t, (i : Int))) A.length _ (by simp [bordL]) (fun i hi => ?_) ?_
  ·have hR := hr _ (List.getElem_mem hi)
   have hK := hk _ (List.getElem_mem hi)
   have hB := bord_len (A := A.take i) (f := f) (t := t) (k := 1000) fun r h => hk r (List.mem_of_mem_take h)
   rw [List.length_take] at hB
   unfold continuity_borders_l3
   simp only
   rw [if_pos (decide_eq_true (by omega)), ix_nat _ _ hi]
   simp only [Option.bind_some]
   have e : whileM (continuity_borders_l6 f t A[i]) (bordL (A.take i) f t, 0) = some (bordL (A.take i) f t ++ insT A[i] f t (A[i].Samples.length + 1)) := by
    refine whileM_for' (fun j => (bordL (A.take i) f t ++ insT A[i] f t j, (j : Int))) (A[i].Samples.length + 1) _ (by simp [insT, timesR]) (fun j hj => ?_) ?_
    ·have hJ := insT_len A[i] f t j
     unfold continuity_borders_l6 continuity_borders_j1
     simp only
     rw [w64_n (n := A[i].Samples.length) (by omega), if_pos (decide_eq_true (by omega)), cat_ok hR (by omega) (by omega), w64_n (n := j) (by omega)]
     simp only [Option.bind_some]
     have e1 : insT A[i] f t (j + 1) = insT A[i] f t j ++ if (decide (f < timeR A[i] (j : Int)) && decide (timeR A[i] (j : Int) < t)) = true then [timeR A[i] (j : Int)] else [] := by
      unfold insT
      rw [timesR_succ, List.filter_append, List.filter_cons, List.filter_nil]
     rw [e1]
     by_cases hc : (decide (f < timeR A[i] (j : Int)) && decide (timeR A[i] (j : Int) < t)) = true
     ·rw [if_pos hc, if_pos hc, appM_one _ _ _ (by
       simp only [List.length_append, List.length_cons, List.length_nil]
       omega) (by decide)]
      simp only [Option.bind_some]
      rw [List.append_assoc]
     ·rw [if_neg hc, if_neg hc, List.append_nil]
    ·unfold continuity_borders_l6
     simp only
     rw [w64_n (n := A[i].Samples.length) (by omega), if_neg (by simp)]
   rw [e]
   simp only [Option.bind_some]
   rw [w64_n (n := i) (by omega)]
   unfold bordL
   rw [take_one hi, List.flatMap_append, List.flatMap_singleton, List.append_assoc]
  ·unfold continuity_borders_l3
   simp only
   rw [if_neg (by simp), List.take_length]
 rw [hw]
 simp only [Option.bind_some]
 have hB := bord_len (A := A) (f := f) (t := t) (k := 1000) hk
 obtain ⟨m, e1, e2⟩ := sortset_int (l := bordL A f t) (by have := Nat.mul_le_mul_left 1001 hl; omega)
 rw [e1]
 simp only [Option.bind_some]
 rw [e2]
 rfl
theorem mem_bord {A : List Record} {f t x : Int} : x ∈ bordL A f t ↔ x = f ∨ x = t ∨ (f < x ∧ x < t ∧ ∃ r ∈ A, ∃ i : Nat, i ≤ r.Samples.length ∧ x = timeR r (i : Int)) := by
 unfold bordL insT timesR
 simp only [List.mem_append, List.mem_cons, List.not_mem_nil, or_false, List.mem_flatMap, List.mem_filter, List.mem_map, List.mem_range, Bool.and_eq_true, decide_eq_true_eq]
 constructor
 ·rintro ((h | h) | ⟨r, hr, ⟨i, hi, rfl⟩, h⟩)
  ·exact .inl h
  ·exact .inr (.inl h)
  ·exact .inr (.inr ⟨h.1, h.2, r, hr, i, by omega, rfl⟩)
 ·rintro (h | h | ⟨h1, h2, r, hr, i, hi, rfl⟩)
  ·exact .inl (.inl h)
  ·exact .inl (.inr h)
  ·exact .inr ⟨r, hr, ⟨i, by omega, rfl⟩, h1, h2⟩
end Go.Proofs.YtdcafiefjakfeaaGreat.Sh

/- Lists of spans: equal ones, the union of the reference, what is in one alone (chapter 8). -/
namespace Go.Proofs.YtdcafiefjakfeaaGreat.Sh
open Go
set_option linter.unusedVariables false
set_option linter.unusedSimpArgs false
instance decSpan : DecidableEq Span := fun a b => decidable_of_iff (a.From = b.From ∧ a.To = b.To) ⟨fun ⟨h1, h2⟩ => by cases a; cases b; simp_all, fun h => by rw [h]; exact ⟨rfl, rfl⟩⟩
theorem same_spec (a b : List Span) (ha : a.length ≤ 1000000) : ref08_Same a b = some (decide (a = b)) := by
 unfold ref08_Same
 by_cases hl : a.length = b.length
 ·rw [if_neg (by simp; omega)]
  refine loop_same a b (fun x y => (x.From == y.From) && ((x.To == y.To) && true)) (fun x y => ?_) hl (fun i hi he => ?_) (fun i hi he => ?_) ?_
  ·cases x; cases y; simp
  ·unfold ref08_Same_l2
   rw [if_pos (decide_eq_true (by omega)), ix_nat _ _ hi, ix_nat b i (by omega)]
   simp only [Option.bind_some]
   rw [he, w64_n (by omega)]
   rfl
  ·unfold ref08_Same_l2
   rw [if_pos (decide_eq_true (by omega)), ix_nat _ _ hi, ix_nat b i (by omega)]
   simp only [Option.bind_some]
   rw [he]
   rfl
  ·unfold ref08_Same_l2
   rw [if_neg (by simp)]
   rfl
 ·rw [if_pos (by simp; omega), decide_eq_false (fun h => hl (by rw [h]))]
theorem same_refl (a : List Span) (ha : a.length ≤ 1000000) : ref08_Same a a = some true := by rw [same_spec a a ha, decide_eq_true rfl]
/-- ends from lo to hi -/
def EB (lo hi : Int) (l : List Span) : Prop := ∀ s ∈ l, (lo ≤ s.From ∧ s.From ≤ hi) ∧ (lo ≤ s.To ∧ s.To ≤ hi)
theorem EB.app {lo hi : Int} {a b : List Span} (ha : EB lo hi a) (hb : EB lo hi b) : EB lo hi (a ++ b) := fun s hs => (List.mem_append.1 hs).elim (ha s) (hb s)
theorem EB.one {lo hi : Int} {s : Span} (h : (lo ≤ s.From ∧ s.From ≤ hi) ∧ (lo ≤ s.To ∧ s.To ≤ hi)) : EB lo hi [s] := fun t ht => by
 rcases List.mem_singleton.1 ht with rfl; exact h
theorem NS.eb {l r : List Span} (h : NS l r) {lo hi : Int} (hl : EB lo hi l) : EB lo hi r := fun s hs => by
 obtain ⟨⟨t, ht, e⟩, u, hu, e'⟩ := h.ends s hs
 rw [e, e']
 exact ⟨(hl t ht).1, (hl u hu).2⟩
theorem VS.later {l : List Span} (h : VS l) {i : Nat} (hi : i < l.length) : ∀ u ∈ l.drop (i + 1), l[i].To < u.From := by
 have hp := h.ap.sublist (List.drop_sublist i l)
 rw [List.drop_eq_getElem_cons hi] at hp
 exact (List.pairwise_cons.1 hp).1
/-! ### minus -/
structure MN (q : List Span) (x : Span) (out0 : List Span) (k : Nat) (out : List Span) (at_ : Int) : Prop where
 vs : VS out
 low : x.From ≤ at_
 mem : ∀ z, Mem out z ↔ Mem out0 z ∨ ((x.From ≤ z ∧ z < x.To) ∧ z < at_ ∧ ¬ Mem q z)
 ord : ∀ s ∈ out, s.To < at_ ∧ s.To ≤ x.To
 done : ∀ u ∈ q.take k, u.To ≤ at_ ∨ x.To ≤ u.From
 len : out.length ≤ out0.length + k
 eb : ∀ lo hi, EB lo hi q → EB lo hi out0 → (lo ≤ x.From ∧ x.From ≤ hi) ∧ (lo ≤ x.To ∧ x.To ≤ hi) → EB lo hi out ∧ lo ≤ at_ ∧ at_ ≤ hi
theorem MN.zero {q : List Span} {x : Span} {out0 : List Span} (h0 : VS out0) (hx : x.From < x.To) (ho : ∀ s ∈ out0, s.To < x.From) : MN q x out0 0 out0 x.From :=
 ⟨h0, Int.le_refl _, fun z => ⟨.inl, fun h => h.elim id (fun h => by omega)⟩, fun s hs => ⟨ho s hs, by have := ho s hs; omega⟩, fun u hu => (by simp at hu), Nat.le_refl _, fun lo hi h1 h2 h3 => ⟨h2, by omega, by omega⟩⟩
theorem minus_inner {q : List Span} (hq : VS q) (hql : q.length ≤ 1000) {x : Span} (hx : x.From < x.To) {out0 : List Span} (h0 : VS out0) (hol : out0.length ≤ 100000) (ho : ∀ s ∈ out0, s.To < x.From) :
  ∃ r, whileM (span_Minus_l6 q x) (out0, x.From, 0) = some r ∧ MN q x out0 q.length r.1 r.2 := by
 refine loop_fold (fun (a : List Span × Int) i => (a.1, a.2, i)) q.length (fun k a => MN q x out0 k a.1 a.2) _ (fun k hk a h => ?_) (fun a h => ?_) (out0, x.From) (MN.zero h0 hx ho)
 ·obtain ⟨out, at_⟩ := a
  simp only at h
  have hlen := h.len
  have hlow := h.low
  have hny := hq.ne _ (List.getElem_mem hk)
  unfold span_Minus_l6
  simp only
  rw [if_pos (decide_eq_true (by omega)), ix_nat _ _ hk]
  simp only [Option.bind_some]
  unfold span_Minus_j2 span_Minus_j1
  simp only
  rw [w64_n (n := k) (by omega)]
  have htk : ∀ P : Span → Prop, (∀ u ∈ q.take k, P u) → P q[k] → ∀ u ∈ q.take (k + 1), P u := fun P h1 h2 u hu => by
   rw [take_one hk] at hu
   rcases List.mem_append.1 hu with hu | hu
   ·exact h1 u hu
   ·rcases List.mem_singleton.1 hu with rfl; exact h2
  by_cases hsk : q[k].To ≤ at_ ∨ x.To ≤ q[k].From
  ·rw [if_pos (by simpa using hsk)]
   exact ⟨(out, at_), rfl, h.vs, h.low, h.mem, h.ord, htk _ h.done hsk, by simp only; omega, h.eb⟩
  ·have hsk1 : at_ < q[k].To := by omega
   have hsk2 : q[k].From < x.To := by omega
   rw [if_neg (by simp; omega)]
   have hmax : max at_ q[k].To = q[k].To := by omega
   -- what lies from at_ on and is in the list
   have hin : ∀ z, at_ ≤ z → z < x.To → z < q[k].To → (Mem q z ↔ q[k].From ≤ z) := by
    intro z z1 z2 z3
    constructor
    ·rintro ⟨u, hu, g⟩
     have hsplit : u ∈ q.take k ++ q[k] :: q.drop (k + 1) := by
      rw [← List.drop_eq_getElem_cons hk, List.take_append_drop]; exact hu
     rcases List.mem_append.1 hsplit with hu' | hu'
     ·rcases h.done u hu' with g1 | g1 <;> omega
     ·rcases List.mem_cons.1 hu' with rfl | hu'
      ·exact g.1
      ·have := hq.later hk u hu'; omega
    ·exact fun g => ⟨_, List.getElem_mem hk, g, z3⟩
   have hdone : ∀ u ∈ q.take (k + 1), u.To ≤ q[k].To ∨ x.To ≤ u.From := htk _ (fun u hu => (h.done u hu).elim (fun g => .inl (by omega)) .inr) (.inl (Int.le_refl _))
   by_cases hgap : at_ < q[k].From
   ·rw [if_pos (decide_eq_true hgap), appM_one _ _ _ (by simp; omega) (by decide)]
    simp only [Option.bind_some]
    rw [hmax]
    refine ⟨(out ++ [⟨at_, q[k].From⟩], q[k].To), rfl, h.vs.snoc hgap (fun s hs => (h.ord s hs).1), by simp only; omega, fun z => ?_, fun s hs => ?_, hdone, by simp; omega, fun lo hi e1 e2 e3 => ?_⟩
    ·rw [mem_append, mem_one, h.mem]
     simp only
     constructor
     ·rintro ((g | g) | g)
      ·exact .inl g
      ·exact .inr ⟨g.1, by omega, g.2.2⟩
      ·refine .inr ⟨by omega, by omega, fun g' => ?_⟩
       have := (hin z (by omega) (by omega) (by omega)).1 g'
       omega
     ·rintro (g | ⟨g1, g2, g3⟩)
      ·exact .inl (.inl g)
      ·by_cases hz : z < at_
       ·exact .inl (.inr ⟨g1, hz, g3⟩)
       ·by_cases hz2 : z < q[k].From
        ·exact .inr ⟨by omega, hz2⟩
        ·exact absurd ((hin z (by omega) (by omega) g2).2 (by omega)) g3
    ·rcases List.mem_append.1 hs with hs | hs
     ·have := h.ord s hs
      simp only
      omega
     ·rcases List.mem_singleton.1 hs with rfl
      simp only
      omega
    ·obtain ⟨b1, b2, b3⟩ := h.eb lo hi e1 e2 e3
     have b4 := e1 _ (List.getElem_mem hk)
     exact ⟨b1.app (EB.one (by simp only; omega)), by simp only; omega, by simp only; omega⟩
   ·rw [if_neg (by simpa using hgap)]
    rw [hmax]
    refine ⟨(out, q[k].To), rfl, h.vs, by simp only; omega, fun z => ?_, fun s hs => ?_, hdone, by simp only; omega, fun lo hi e1 e2 e3 => ?_⟩
    ·rw [h.mem]
     constructor
     ·rintro (g | g)
      ·exact .inl g
      ·exact .inr ⟨g.1, by simp only; omega, g.2.2⟩
     ·rintro (g | ⟨g1, g2, g3⟩)
      ·exact .inl g
      ·by_cases hz : z < at_
       ·exact .inr ⟨g1, hz, g3⟩
       ·exact absurd ((hin z (by omega) (by omega) g2).2 (by omega)) g3
    ·have := h.ord s hs
     simp only
     omega
    ·obtain ⟨b1, b2, b3⟩ := h.eb lo hi e1 e2 e3
     have b4 := e1 _ (List.getElem_mem hk)
     exact ⟨b1, by simp only; omega, by simp only; omega⟩
 ·unfold span_Minus_l6
  simp only
  rw [if_neg (by simp)]
  exact ⟨_, rfl, h⟩
/-- what is left -/
structure LS (p q r : List Span) : Prop where
 vs : VS r
 mem : ∀ z, Mem r z ↔ Mem p z ∧ ¬ Mem q z
 len : r.length ≤ p.length * (q.length + 1)
 eb : ∀ lo hi, EB lo hi p → EB lo hi q → EB lo hi r
structure MO (p q : List Span) (i : Nat) (out : List Span) : Prop where
 vs : VS out
 mem : ∀ z, Mem out z ↔ Mem (p.take i) z ∧ ¬ Mem q z
 ord : ∀ s ∈ out, ∀ u ∈ p.drop i, s.To < u.From
 len : out.length ≤ i * (q.length + 1)
 eb : ∀ lo hi, EB lo hi p → EB lo hi q → EB lo hi out
theorem MO.step {p q out o2 : List Span} {at_ : Int} {i : Nat} (hp : VS p) (hi : i < p.length) (h : MO p q i out) (hn : MN q p[i] out q.length o2 at_) :
  MO p q (i + 1) (if at_ < p[i].To then o2 ++ [⟨at_, p[i].To⟩] else o2) := by
 have hx := hp.ne _ (List.getElem_mem hi)
 have hdn : ∀ u ∈ q, u.To ≤ at_ ∨ p[i].To ≤ u.From := fun u hu => hn.done u (by rw [List.take_of_length_le (Nat.le_refl _)]; exact hu)
 have hlow := hn.low
 have hl1 := hn.len
 have hl2 := h.len
 refine ⟨?_, fun z => ?_, fun s hs u hu => ?_, ?_, fun lo hi' e1 e2 => ?_⟩
 ·split
  ·next hc => exact hn.vs.snoc hc (fun s hs => (hn.ord s hs).1)
  ·exact hn.vs
 ·have hbase : (Mem o2 z ∨ (at_ ≤ z ∧ z < p[i].To)) ↔ Mem (p.take (i + 1)) z ∧ ¬ Mem q z := by
   rw [hn.mem, h.mem, take_one hi, mem_append, mem_one]
   constructor
   ·rintro ((g | g) | g)
    ·exact ⟨.inl g.1, g.2⟩
    ·exact ⟨.inr g.1, g.2.2⟩
    ·refine ⟨.inr ⟨by omega, g.2⟩, fun ⟨u, hu, g'⟩ => ?_⟩
     rcases hdn u hu with k | k <;> omega
   ·rintro ⟨g | g, g'⟩
    ·exact .inl (.inl ⟨g, g'⟩)
    ·by_cases hz : z < at_
     ·exact .inl (.inr ⟨g, hz, g'⟩)
     ·exact .inr ⟨by omega, g.2⟩
  split
  ·rw [mem_append, mem_one]
   exact hbase
  ·rw [← hbase]
   exact ⟨.inl, fun g => g.elim id (fun g => by omega)⟩
 ·have hlt := hp.later hi u hu
  split at hs
  ·rcases List.mem_append.1 hs with hs | hs
   ·have := (hn.ord s hs).2; omega
   ·rcases List.mem_singleton.1 hs with rfl
    simp only
    omega
  ·have := (hn.ord s hs).2; omega
 ·have : (i + 1) * (q.length + 1) = i * (q.length + 1) + (q.length + 1) := Nat.succ_mul _ _
  split
  ·simp; omega
  ·omega
 ·have bx := e1 _ (List.getElem_mem hi)
  obtain ⟨b1, b2, b3⟩ := hn.eb lo hi' e2 (h.eb lo hi' e1 e2) bx
  split
  ·exact b1.app (EB.one (by simp only; omega))
  ·exact b1
theorem minus_loop {p q : List Span} (hp : VS p) (hq : VS q) (h1 : p.length ≤ 100) (h2 : q.length ≤ 100) : ∃ r, whileM (span_Minus_l3 q p) ([], 0) = some r ∧ LS p q r := by
 have hb : ∀ i, i ≤ p.length → i * (q.length + 1) ≤ 100 * 101 := fun i hi => Nat.mul_le_mul (by omega) (by omega)
 refine loop_fold (fun a i => (a, i)) p.length (MO p q) _ (fun i hi a h => ?_) (fun a h => ?_) [] ⟨VS.nil, fun z => by simp [Mem], fun s h => (by cases h), Nat.zero_le _, fun _ _ _ _ s h => (by cases h)⟩
 ·have hl := h.len
  have hb1 := hb i (by omega)
  unfold span_Minus_l3
  simp only
  rw [if_pos (decide_eq_true (by omega)), ix_nat _ _ hi]
  simp only [Option.bind_some]
  obtain ⟨⟨o2, at_⟩, er, hn⟩ := minus_inner hq (by omega) (hp.ne _ (List.getElem_mem hi)) h.vs (by omega) (fun s hs => h.ord s hs _ (by rw [List.drop_eq_getElem_cons hi]; exact List.mem_cons_self))
  rw [er]
  simp only at hn
  have hl2 := hn.len
  have hst := MO.step hp hi h hn
  unfold span_Minus_j4
  simp only [Option.bind_some]
  rw [w64_n (n := i) (by omega)]
  refine ⟨_, ?_, hst⟩
  by_cases hc : at_ < p[i].To
  ·rw [if_pos (decide_eq_true hc), if_pos hc, appM_one _ _ _ (by simp; omega) (by decide)]
   rfl
  ·rw [if_neg (by simpa using hc), if_neg hc]
 ·unfold span_Minus_l3
  simp only
  rw [if_neg (by simp)]
  have hm := h.mem
  rw [List.take_of_length_le (Nat.le_refl _)] at hm
  exact ⟨a, rfl, h.vs, hm, h.len, h.eb⟩
theorem minus_spec {a b : List Span} (ha : a.length < 50) (hb : b.length < 50) : ∃ r, span_Minus a b = some r ∧ LS a b r := by
 unfold span_Minus
 obtain ⟨p, ep, hp⟩ := normal_spec (l := a) (by omega)
 obtain ⟨q, eq, hq⟩ := normal_spec (l := b) (by omega)
 rw [ep, eq]
 simp only [Option.bind_some]
 have l1 := hp.len
 have l2 := hq.len
 obtain ⟨r, er, hr⟩ := minus_loop hp.vs hq.vs (by omega) (by omega)
 rw [er]
 exact ⟨r, rfl, hr.vs, fun z => by rw [hr.mem, hp.mem, hq.mem], Nat.le_trans hr.len (Nat.mul_le_mul l1 (by omega)), fun lo hi h1 h2 => hr.eb lo hi (hp.eb h1) (hq.eb h2)⟩
end Go.Proofs.YtdcafiefjakfeaaGreat.Sh

/- Gaps and overlaps as plain programs (chapter 16). -/
namespace Go.Proofs.YtdcafiefjakfeaaGreat.Sh
open Go
set_option linter.unusedVariables false
set_option linter.unusedSimpArgs false
theorem covered_ok {l : List Record} (h : VS15 l) : ∃ r, compose_Covered l = some (r, 0) ∧ NS (l.map extR) r := by
 have hl := h.len
 unfold compose_Covered
 rw [valid_ok h.toVL (by omega)]
 simp only [Option.bind_some, Bool.not_true, Bool.false_eq_true, if_false]
 have hw : whileM (compose_Covered_l1 l) (([] : List Span), 0) = some (l.map extR) := by
  refine whileM_for' (fun i => ((l.take i).map extR, (i : Int))) l.length _ (by simp) (fun i hi => ?_) ?_
  ·unfold compose_Covered_l1
   simp only
   rw [if_pos (decide_eq_true (by omega)), ix_nat _ _ hi]
   simp only [Option.bind_some]
   rw [extent_ok (h.rf _ (List.getElem_mem hi))]
   simp only [Option.bind_some]
   rw [appM_one _ _ _ (by simp; omega) (by decide)]
   simp only [Option.bind_some]
   rw [w64_n (by omega), take_one hi]
   simp only [List.map_append, List.map_cons, List.map_nil]
  ·unfold compose_Covered_l1
   simp only
   rw [if_neg (by simp), List.take_length]
 rw [hw]
 simp only [Option.bind_some]
 obtain ⟨r, er, hr⟩ := normal_spec (l := l.map extR) (by simp; omega)
 rw [er]
 exact ⟨r, rfl, hr⟩
theorem check_ok {l : List Record} (h : VS15 l) {f t : Int} (h0 : 0 ≤ f) (h1 : f ≤ t) (h2 : t ≤ 9007199254740992) : continuity_check l f t = some 0 := by
 have hl := h.len
 unfold continuity_check
 rw [valid_ok h.toVL (by omega)]
 simp only [Option.bind_some, Bool.not_true, Bool.false_eq_true, if_false]
 unfold continuity_window
 rw [decide_eq_true h0, decide_eq_true h1, decide_eq_true h2]
 rfl
/-- the times of the window that no record covers -/
structure GapsOf (l : List Record) (f t : Int) (g : List Span) : Prop where
 vs : VS g
 mem : ∀ z, Mem g z ↔ f ≤ z ∧ z < t ∧ ¬ Mem (l.map extR) z
 len : g.length ≤ l.length + 1
 eb : ∀ s ∈ g, f ≤ s.From ∧ s.To ≤ t
theorem gaps_ok {l : List Record} (h : VS15 l) (h40 : l.length ≤ 49) {f t : Int} (h0 : 0 ≤ f) (h1 : f ≤ t) (h2 : t ≤ 9007199254740992) : ∃ g, continuity_Gaps l f t = some (g, 0) ∧ GapsOf l f t g := by
 have hl := h.len
 unfold continuity_Gaps
 rw [check_ok h h0 h1 h2]
 simp only [Option.bind_some, bne_self_eq_false, Bool.false_eq_true, if_false]
 obtain ⟨c, ec, hc⟩ := covered_ok h
 rw [ec]
 simp only [Option.bind_some]
 have hcl := hc.len
 rw [List.length_map] at hcl
 obtain ⟨g, eg, hg⟩ := minus_spec (a := [(⟨f, t⟩ : Span)]) (b := c) (by simp) (by omega)
 rw [eg]
 refine ⟨g, rfl, hg.vs, fun z => ?_, ?_, fun s hs => ?_⟩
 ·rw [hg.mem, mem_one, hc.mem]
  exact ⟨fun ⟨⟨a, b⟩, d⟩ => ⟨a, b, d⟩, fun ⟨a, b, d⟩ => ⟨⟨a, b⟩, d⟩⟩
 ·have := hg.len
  simp only [List.length_cons, List.length_nil] at this
  omega
 ·have hn := hg.vs.ne s hs
  have h3 := ((hg.mem s.From).1 ⟨s, hs, Int.le_refl _, hn⟩).1
  have h4 := ((hg.mem (s.To - 1)).1 ⟨s, hs, by omega, by omega⟩).1
  have h3 := mem_one.1 h3
  have h4 := mem_one.1 h4
  simp only at h3 h4
  omega
/-! ### overlaps -/
theorem cmpI_lt {a b : Int} : cmpI a b < 0 ↔ a < b := by
 unfold cmpI
 split
 ·simp; omega
 ·split <;> simp <;> omega
structure Bord (A : List Record) (f t : Int) (B : List Int) : Prop where
 asc : B.Pairwise (fun a b => a < b)
 mem : ∀ x, x ∈ B ↔ x = f ∨ x = t ∨ (f < x ∧ x < t ∧ ∃ r ∈ A, ∃ i : Nat, i ≤ r.Samples.length ∧ x = timeR r (i : Int))
theorem bord_of (A : List Record) (f t : Int) : Bord A f t (sset cmpI (bordL A f t)) :=
 ⟨(sset_pw cmpI_cmp (fun _ _ => cmpI_eq) _).imp fun h => cmpI_lt.1 h, fun x => by rw [mem_sset fun _ _ => cmpI_eq, mem_bord]⟩
section
variable {A : List Record} {f t : Int} {B : List Int}
theorem Bord.le (h : Bord A f t B) (ft : f ≤ t) {x : Int} (hx : x ∈ B) : f ≤ x ∧ x ≤ t := by
 rcases (h.mem x).1 hx with h | h | h <;> omega
theorem Bord.pos (h : Bord A f t B) : 0 < B.length := List.length_pos_of_mem ((h.mem f).2 (.inl rfl))
theorem Bord.mono (h : Bord A f t B) {i j : Nat} (hi : i < B.length) (hj : j < B.length) (hij : i < j) : B[i] < B[j] := List.pairwise_iff_getElem.1 h.asc i j hi hj hij
theorem Bord.first (h : Bord A f t B) (ft : f ≤ t) : B[0]'h.pos = f := by
 obtain ⟨k, hk, e⟩ := List.mem_iff_getElem.1 ((h.mem f).2 (.inl rfl))
 have h1 := h.le ft (List.getElem_mem h.pos)
 by_cases h0 : k = 0
 ·subst h0; exact e
 ·have := h.mono h.pos hk (by omega)
  omega
theorem Bord.last (h : Bord A f t B) (ft : f ≤ t) : B[B.length - 1]'(by have := h.pos; omega) = t := by
 have hp := h.pos
 obtain ⟨k, hk, e⟩ := List.mem_iff_getElem.1 ((h.mem t).2 (.inr (.inl rfl)))
 have h1 := h.le ft (List.getElem_mem (show B.length - 1 < B.length by omega))
 by_cases h0 : k = B.length - 1
 ·subst h0; exact e
 ·have := h.mono hk (show B.length - 1 < B.length by omega) (by omega)
  omega
theorem Bord.hits (h : Bord A f t B) (hr : ∀ r ∈ A, RF r) (ft : f ≤ t) {i : Nat} (hi : i + 1 < B.length) {z : Int} (z0 : B[i] ≤ z) (z1 : z < B[i + 1]) : hits A z = hits A B[i] := by
 unfold Sh.hits
 have key : ∀ r ∈ A, hitR r z = hitR r B[i] := by
  intro r hrA
  have hR := hr r hrA
  have b0 := h.le ft (List.getElem_mem (show i < B.length by omega))
  have b1 := h.le ft (List.getElem_mem hi)
  have hj : ∀ j : Nat, j ≤ r.Samples.length → (timeR r (j : Int) ≤ z ↔ timeR r (j : Int) ≤ B[i]) := by
   intro j hj
   refine ⟨fun hz => ?_, fun hz => by omega⟩
   refine Classical.byContradiction fun hn => ?_
   have hx : timeR r (j : Int) ∈ B := (h.mem _).2 (.inr (.inr ⟨by omega, by omega, r, hrA, j, hj, rfl⟩))
   obtain ⟨k, hk, e⟩ := List.mem_iff_getElem.1 hx
   rcases Nat.lt_trichotomy k i with hlt | heq | hgt
   ·have := h.mono hk (show i < B.length by omega) hlt
    omega
   ·subst heq; omega
   ·by_cases e2 : k = i + 1
    ·subst e2; omega
    ·have := h.mono hi hk (by omega)
     omega
  unfold hitR
  congr 1
  cases he : idxR r z with
  | some j =>
   obtain ⟨a, b, c⟩ := idxR_some he
   have h1 := (hj j (by omega)).1 b
   have h2 : ¬ timeR r ((j + 1 : Nat) : Int) ≤ B[i] := fun hc => by
    have := (hj (j + 1) (by omega)).2 hc
    rw [show ((j + 1 : Nat) : Int) = (j : Int) + 1 by omega] at this
    omega
   rw [show ((j + 1 : Nat) : Int) = (j : Int) + 1 by omega] at h2
   exact (idxR_of hR a h1 (by omega)).symm
  | none =>
   symm
   refine idxR_none hR fun ⟨a, b⟩ => ?_
   have h1 := (hj 0 (Nat.zero_le _)).2 a
   have h2 : ¬ timeR r ((r.Samples.length : Nat) : Int) ≤ z := fun hc => by
    have := (hj _ (Nat.le_refl _)).1 hc
    omega
   obtain ⟨j, e⟩ := idxR_ex hR h1 (by omega)
   rw [he] at e
   cases e
 have go : ∀ L : List Record, (∀ r ∈ L, hitR r z = hitR r B[i]) → L.filterMap (hitR · z) = L.filterMap (hitR · B[i]) := by
  intro L
  induction L with
  | nil => intro _; rfl
  | cons r L ih =>
   intro hL
   rw [List.filterMap_cons, List.filterMap_cons, hL r List.mem_cons_self, ih fun q hq => hL q (List.mem_cons_of_mem _ hq)]
 exact go A key
end
def Adj (x y : Overlap) : Prop := x.To ≤ y.From ∧ (x.To = y.From → x.Same ≠ y.Same)
/-- overlaps up to a time -/
structure OvTo (A : List Record) (f m : Int) (out : List Overlap) : Prop where
 ne : ∀ x ∈ out, x.From < x.To
 pw : out.Pairwise Adj
 top : ∀ x ∈ out, x.To ≤ m
 mem : ∀ z b, (∃ x ∈ out, x.From ≤ z ∧ z < x.To ∧ x.Same = b) ↔ (f ≤ z ∧ z < m ∧ 2 ≤ (hits A z).length ∧ allEq (hits A z) = b)
theorem OvTo.skip {A : List Record} {f m m' : Int} {out : List Overlap} (h : OvTo A f m out) (hm : m ≤ m') (hn : ∀ z, m ≤ z → z < m' → (hits A z).length < 2) : OvTo A f m' out :=
 ⟨h.ne, h.pw, fun x hx => by have := h.top x hx; omega, fun z b => (h.mem z b).trans ⟨fun ⟨a, b, c, d⟩ => ⟨a, by omega, c, d⟩, fun ⟨a, b, c, d⟩ => ⟨a, by
  refine Classical.byContradiction fun h1 => ?_
  have := hn z (by omega) b
  omega, c, d⟩⟩⟩
theorem OvTo.grow {A : List Record} {f m m' : Int} {o : List Overlap} {x : Overlap} (h : OvTo A f m (o ++ [x])) (fm : f ≤ m) (hm : m < m') (hx : x.To = m) (hn : ∀ z, m ≤ z → z < m' → 2 ≤ (hits A z).length ∧ allEq (hits A z) = x.Same) : OvTo A f m' (o ++ [⟨x.From, m', x.Same⟩]) := by
 have hpw := List.pairwise_append.1 h.pw
 have hxn := h.ne x (by simp)
 refine ⟨fun y hy => ?_, List.pairwise_append.2 ⟨hpw.1, List.pairwise_singleton _ _, fun u hu v hv => ?_⟩, fun y hy => ?_, fun z b => ?_⟩
 ·rcases List.mem_append.1 hy with hy | hy
  ·exact h.ne y (List.mem_append_left _ hy)
  ·rcases List.mem_singleton.1 hy with rfl
   simp only; omega
 ·rcases List.mem_singleton.1 hv with rfl
  exact hpw.2.2 u hu x List.mem_cons_self
 ·rcases List.mem_append.1 hy with hy | hy
  ·have := h.top y (List.mem_append_left _ hy); omega
  ·rcases List.mem_singleton.1 hy with rfl
   exact Int.le_refl _
 ·have hmem := h.mem z b
  constructor
  ·rintro ⟨y, hy, y1, y2, y3⟩
   rcases List.mem_append.1 hy with hy | hy
   ·obtain ⟨a1, a2, a3⟩ := hmem.1 ⟨y, List.mem_append_left _ hy, y1, y2, y3⟩
    exact ⟨a1, by omega, a3⟩
   ·rcases List.mem_singleton.1 hy with rfl
    simp only at y1 y2 y3
    by_cases hz : z < m
    ·obtain ⟨a1, a2, a3⟩ := hmem.1 ⟨x, by simp, y1, by omega, y3⟩
     exact ⟨a1, by omega, a3⟩
    ·obtain ⟨a1, a2⟩ := hn z (by omega) y2
     exact ⟨by omega, y2, a1, a2.trans y3⟩
  ·rintro ⟨a1, a2, a3, a4⟩
   by_cases hz : z < m
   ·obtain ⟨y, hy, y1, y2, y3⟩ := hmem.2 ⟨a1, hz, a3, a4⟩
    rcases List.mem_append.1 hy with hy | hy
    ·exact ⟨y, List.mem_append_left _ hy, y1, y2, y3⟩
    ·rcases List.mem_singleton.1 hy with rfl
     exact ⟨_, List.mem_append_right _ List.mem_cons_self, y1, by simp only; omega, y3⟩
   ·obtain ⟨b1, b2⟩ := hn z (by omega) a2
    exact ⟨_, List.mem_append_right _ List.mem_cons_self, by simp only; omega, a2, by simp only; rw [← b2]; exact a4⟩
theorem OvTo.snoc {A : List Record} {f m m' : Int} {out : List Overlap} {e : Bool} (h : OvTo A f m out) (fm : f ≤ m) (hm : m < m') (hl : ∀ o x, out = o ++ [x] → x.To = m → x.Same ≠ e) (hn : ∀ z, m ≤ z → z < m' → 2 ≤ (hits A z).length ∧ allEq (hits A z) = e) : OvTo A f m' (out ++ [⟨m, m', e⟩]) := by
 refine ⟨fun y hy => ?_, List.pairwise_append.2 ⟨h.pw, List.pairwise_singleton _ _, fun u hu v hv => ?_⟩, fun y hy => ?_, fun z b => ?_⟩
 ·rcases List.mem_append.1 hy with hy | hy
  ·exact h.ne y hy
  ·rcases List.mem_singleton.1 hy with rfl
   exact hm
 ·rcases List.mem_singleton.1 hv with rfl
  refine ⟨h.top u hu, fun hu2 => ?_⟩
  rcases List.eq_nil_or_concat out with rfl | ⟨o, x, rfl⟩
  ·cases hu
  ·rw [List.concat_eq_append] at hu h hl
   rcases List.mem_append.1 hu with hu | hu
   ·exfalso
    have h1 := (List.pairwise_append.1 h.pw).2.2 u hu x List.mem_cons_self
    have h2 := h.ne x (by simp)
    have h3 := h.top x (by simp)
    have h4 := h1.1
    simp only at hu2
    omega
   ·rcases List.mem_singleton.1 hu with rfl
    exact hl o u rfl hu2
 ·rcases List.mem_append.1 hy with hy | hy
  ·have := h.top y hy; omega
  ·rcases List.mem_singleton.1 hy with rfl
   exact Int.le_refl _
 ·have hmem := h.mem z b
  constructor
  ·rintro ⟨y, hy, y1, y2, y3⟩
   rcases List.mem_append.1 hy with hy | hy
   ·obtain ⟨a1, a2, a3⟩ := hmem.1 ⟨y, hy, y1, y2, y3⟩
    exact ⟨a1, by omega, a3⟩
   ·rcases List.mem_singleton.1 hy with rfl
    simp only at y1 y2 y3
    obtain ⟨a1, a2⟩ := hn z y1 y2
    exact ⟨by omega, y2, a1, a2.trans y3⟩
  ·rintro ⟨a1, a2, a3, a4⟩
   by_cases hz : z < m
   ·obtain ⟨y, hy, y1⟩ := hmem.2 ⟨a1, hz, a3, a4⟩
    exact ⟨y, List.mem_append_left _ hy, y1⟩
   ·obtain ⟨b1, b2⟩ := hn z (by omega) a2
    exact ⟨_, List.mem_append_right _ List.mem_cons_self, by simp only; omega, a2, by simp only; rw [← b2]; exact a4⟩
theorem overlaps_ok {l : List Record} (h : VS15 l) (h6 : ∀ r ∈ l, r.Samples.length ≤ 30) (hl6 : l.length ≤ 30) {f t : Int} (h0 : 0 ≤ f) (h1 : f ≤ t) (h2 : t ≤ 9007199254740992) : ∃ o, continuity_Overlaps l f t = some (o, 0) ∧ OvTo (sset cmpR l) f t o ∧ o.length ≤ 1000 := by
 unfold continuity_Overlaps
 rw [check_ok h h0 h1 h2]
 simp only [Option.bind_some, bne_self_eq_false, Bool.false_eq_true, if_false]
 rw [Order_ok h]
 simp only [Option.bind_some]
 obtain ⟨A, hA⟩ : ∃ A, sset cmpR l = A := ⟨_, rfl⟩
 have hAl : A.length ≤ l.length := by rw [← hA]; exact sset_len _ _
 have hAm : ∀ r ∈ A, r ∈ l := fun r hr => mem_ss.1 (hA ▸ hr)
 have hAr : ∀ r ∈ A, RF r := fun r hr => h.rf r (hAm r hr)
 rw [hA, borders_ok hAr (fun r hr => by have := h6 r (hAm r hr); omega) (by omega)]
 simp only [Option.bind_some]
 have hBd := bord_of A f t
 have hBl : (sset cmpI (bordL A f t)).length ≤ 2 + (30 + 1) * 30 := by
  have e1 := sset_len cmpI (bordL A f t)
  have e2 := bord_len (A := A) (f := f) (t := t) (k := 30) fun r hr => h6 r (hAm r hr)
  have := Nat.mul_le_mul_left 31 (show A.length ≤ 30 by omega)
  omega
 obtain ⟨B, hB⟩ : ∃ B, sset cmpI (bordL A f t) = B := ⟨_, rfl⟩
 rw [hB] at hBd hBl ⊢
 have hp := hBd.pos
 have hle : ∀ (x : Int) y, ([] : List Overlap) = y ++ [⟨x, x, true⟩] → False := fun x y hxy => by simp at hxy
 obtain ⟨o, eo, ho, hol⟩ := loop_fold (body := continuity_Overlaps_l1 (A, 0) B) (fun (a : List Overlap) i => (a, i)) (B.length - 1) (fun i a => (∃ hi : i < B.length, OvTo A f B[i] a) ∧ a.length ≤ i) (fun r => OvTo A f t r ∧ r.length ≤ 1000) (fun i hi a ⟨⟨hiB, hI⟩, hlen⟩ => by
  have hi1 : i + 1 < B.length := by omega
  have hfB := hBd.le h1 (List.getElem_mem hiB)
  have hlt := hBd.mono hiB hi1 (by omega)
  have hconst : ∀ z, B[i] ≤ z → z < B[i + 1] → hits A z = hits A B[i] := fun z z0 z1 => hBd.hits hAr h1 hi1 z0 z1
  unfold continuity_Overlaps_l1
  simp only
  rw [w64_n (n := i) (by omega), if_pos (decide_eq_true (by omega)), ix_nat _ _ hiB]
  simp only [Option.bind_some]
  rw [look_ok hAr (by omega)]
  simp only [Option.bind_some]
  unfold continuity_Overlaps_j2 continuity_Overlaps_j1
  simp only [Option.bind_some]
  rw [w64_n (n := i) (by omega)]
  obtain ⟨e, he⟩ : ∃ e, allEq (hits A B[i]) = e := ⟨_, rfl⟩
  rw [he]
  by_cases hd : (hits A B[i]).length < 2
  ·rw [if_pos (decide_eq_true (by omega))]
   exact ⟨a, rfl, ⟨hi1, hI.skip (by omega) fun z z0 z1 => by rw [hconst z z0 z1]; exact hd⟩, by omega⟩
  ·rw [if_neg (by simp; omega)]
   have hn : ∀ z, B[i] ≤ z → z < B[i + 1] → 2 ≤ (hits A z).length ∧ allEq (hits A z) = e := fun z z0 z1 => by rw [hconst z z0 z1]; exact ⟨by omega, he⟩
   rw [ix_nat B (i + 1) hi1]
   rcases List.eq_nil_or_concat a with rfl | ⟨o, x, rfl⟩
   ·simp only [List.length_nil]
    rw [if_neg (by decide)]
    simp only [Option.bind_some, Bool.false_eq_true, if_false]
    rw [appM_one _ _ _ (by simp) (by decide)]
    simp only [Option.bind_some]
    exact ⟨_, rfl, ⟨hi1, hI.snoc hfB.1 hlt (fun o x hox => by simp at hox) hn⟩, by simp⟩
   ·rw [List.concat_eq_append] at hI hlen ⊢
    have hol : (o ++ [x]).length = o.length + 1 := by simp
    rw [hol] at hlen
    simp only [hol]
    rw [if_pos (decide_eq_true (by omega)), show w64 (((o.length + 1 : Nat) : Int) - 1) = (o.length : Int) by rw [w64_id (by omega) (by omega)]; omega, ix_last]
    simp only [Option.bind_some]
    have hsnoc : (∀ hx : x.To = B[i], x.Same ≠ e) → ∃ a', ((appM 24 (o ++ [x]) ([(⟨B[i], B[i + 1], e⟩ : Overlap)] : List Overlap)).bind fun l768 => some (Sum.inl (l768, ((i + 1 : Nat) : Int)) : List Overlap × Int ⊕ List Overlap)) = some (.inl (a', ((i + 1 : Nat) : Int))) ∧ (∃ hi : i + 1 < B.length, OvTo A f B[i + 1] a') ∧ a'.length ≤ i + 1 := fun hx => by
     rw [appM_one _ _ _ (by simp; omega) (by decide)]
     refine ⟨_, rfl, ⟨hi1, hI.snoc hfB.1 hlt (fun o' x' hox hto => ?_) hn⟩, by simp; omega⟩
     obtain ⟨_, e2⟩ := List.append_inj' hox rfl
     simp only [List.cons.injEq, and_true] at e2
     rw [← e2] at hto ⊢
     exact hx hto
    by_cases hc1 : x.To = B[i]
    ·rw [if_pos (by simp [hc1])]
     simp only [Option.bind_some]
     by_cases hc2 : x.Same = e
     ·rw [if_pos (by simp [hc2])]
      rw [setM_last]
      simp only [Option.bind_some]
      refine ⟨_, rfl, ⟨hi1, ?_⟩, by simp; omega⟩
      exact hI.grow hfB.1 hlt hc1 fun z z0 z1 => by rw [hc2]; exact hn z z0 z1
     ·rw [if_neg (by simpa using hc2)]
      exact hsnoc fun _ => hc2
    ·rw [if_neg (by simpa using hc1)]
     simp only [Option.bind_some, Bool.false_eq_true, if_false]
     exact hsnoc fun hx => absurd hx hc1) (fun a ⟨⟨hiB, hI⟩, hlen⟩ => by
  unfold continuity_Overlaps_l1
  simp only
  rw [w64_n (n := B.length - 1) (by omega), if_neg (by simp; omega)]
  refine ⟨a, rfl, ?_, by omega⟩
  have := hBd.last h1
  rw [this] at hI
  exact hI) [] ⟨⟨hp, ⟨by simp, List.Pairwise.nil, by simp, fun z b => ⟨fun ⟨x, hx, _⟩ => (by cases hx), fun ⟨a1, a2, _⟩ => (by have := hBd.first h1; omega)⟩⟩⟩, Nat.le_refl _⟩
 rw [eo]
 simp only [Option.bind_some]
 rw [if_neg (by simp; omega)]
 exact ⟨o, rfl, hA ▸ ho, hol⟩
end Go.Proofs.YtdcafiefjakfeaaGreat.Sh

/- The chapter's example (chapter 16). -/
namespace Go.Proofs.YtdcafiefjakfeaaGreat.Sh
open Go
set_option linter.unusedVariables false
set_option linter.unusedSimpArgs false
theorem ov_one {A : List Record} {f m p q : Int} {e : Bool} {o : List Overlap} (h : OvTo A f m o) (pq : p < q) (hm : ∀ z b, (f ≤ z ∧ z < m ∧ 2 ≤ (hits A z).length ∧ allEq (hits A z) = b) ↔ (p ≤ z ∧ z < q ∧ e = b)) : o = [⟨p, q, e⟩] := by
 have hmem : ∀ z b, (∃ x ∈ o, x.From ≤ z ∧ z < x.To ∧ x.Same = b) ↔ (p ≤ z ∧ z < q ∧ e = b) := fun z b => (h.mem z b).trans (hm z b)
 have hin : ∀ x ∈ o, p ≤ x.From ∧ x.To ≤ q ∧ e = x.Same := fun x hx => by
  have hn := h.ne x hx
  have h1 := (hmem x.From x.Same).1 ⟨x, hx, Int.le_refl _, hn, rfl⟩
  have h2 := (hmem (x.To - 1) x.Same).1 ⟨x, hx, by omega, by omega, rfl⟩
  exact ⟨h1.1, by omega, h1.2.2⟩
 cases o with
 | nil =>
  obtain ⟨x, hx, _⟩ := (hmem p e).2 ⟨Int.le_refl _, pq, rfl⟩
  cases hx
 | cons a o =>
  have ha := hin a List.mem_cons_self
  have han := h.ne a List.mem_cons_self
  have hpw := List.pairwise_cons.1 h.pw
  have ho : o = [] := by
   cases o with
   | nil => rfl
   | cons b o =>
    exfalso
    have hb := hin b (by simp)
    have hbn := h.ne b (by simp)
    have hab := hpw.1 b List.mem_cons_self
    have hbo := (List.pairwise_cons.1 hpw.2).1
    have hlt : a.To < b.From := by
     rcases Int.lt_or_eq_of_le hab.1 with h1 | h1
     ·exact h1
     ·exact absurd (ha.2.2.symm.trans hb.2.2) (hab.2 h1)
    obtain ⟨y, hy, y1, y2, _⟩ := (hmem a.To e).2 ⟨by omega, by omega, rfl⟩
    rcases List.mem_cons.1 hy with rfl | hy
    ·omega
    ·rcases List.mem_cons.1 hy with rfl | hy
     ·omega
     ·have := (hbo y hy).1
      omega
  subst ho
  obtain ⟨x, hx, x1, x2, _⟩ := (hmem p e).2 ⟨Int.le_refl _, pq, rfl⟩
  obtain ⟨y, hy, y1, y2, _⟩ := (hmem (q - 1) e).2 ⟨by omega, by omega, rfl⟩
  rcases List.mem_singleton.1 hx with rfl
  rcases List.mem_singleton.1 hy with rfl
  have e1 : y.From = p := by omega
  have e2 : y.To = q := by omega
  cases y
  simp only at e1 e2 ha
  rw [e1, e2, ha.2.2]
theorem hit_one {r : Record} (h : RF r) (h1 : r.Samples.length = 1) (z : Int) : hitR r z = if timeR r 0 ≤ z ∧ z < timeR r 1 then some (timeR r 0, r.Samples.getD 0 0) else none := by
 unfold hitR
 by_cases hz : timeR r 0 ≤ z ∧ z < timeR r 1
 ·rw [if_pos hz, idxR_of h (i := 0) (by omega) hz.1 hz.2]
  rfl
 ·rw [if_neg hz, idxR_none h (by rw [h1]; exact hz)]
  rfl
def san0 : Record := ⟨(⟨(⟨#[65]⟩ : ByteArray), (⟨#[66]⟩ : ByteArray), ByteArray.empty, (⟨#[72, 72, 90]⟩ : ByteArray)⟩ : SourceID), 0, 0, (⟨1, 10⟩ : Rate), 0, 0, 0, ([1] : List Int)⟩
def san1 : Record := ⟨(⟨(⟨#[65]⟩ : ByteArray), (⟨#[66]⟩ : ByteArray), ByteArray.empty, (⟨#[72, 72, 90]⟩ : ByteArray)⟩ : SourceID), 20000000, 0, (⟨1, 10⟩ : Rate), 0, 0, 0, ([1] : List Int)⟩
def san2 : Record := ⟨(⟨(⟨#[65]⟩ : ByteArray), (⟨#[66]⟩ : ByteArray), ByteArray.empty, (⟨#[72, 72, 90]⟩ : ByteArray)⟩ : SourceID), 0, 0, (⟨1, 10⟩ : Rate), 0, 0, 1, ([1] : List Int)⟩
theorem san_rf : RF san0 ∧ RF san1 ∧ RF san2 := ⟨recB_iff.1 (by decide), recB_iff.1 (by decide), recB_iff.1 (by decide)⟩
theorem san_vs : VS15 [san0, san1, san2] := by
 obtain ⟨h0, h1, h2⟩ := san_rf
 refine ⟨⟨fun r hr => ?_, fun r hr q hq => ?_⟩, by simp, fun r hr => ?_⟩
 ·simp only [List.mem_cons, List.not_mem_nil, or_false] at hr
  rcases hr with rfl | rfl | rfl
  ·exact h0
  ·exact h1
  ·exact h2
 ·simp only [List.mem_cons, List.not_mem_nil, or_false] at hr hq
  rcases hr with rfl | rfl | rfl <;> rcases hq with rfl | rfl | rfl <;> rfl
 ·simp only [List.mem_cons, List.not_mem_nil, or_false] at hr
  rcases hr with rfl | rfl | rfl <;> simp [san0, san1, san2]
set_option maxRecDepth 100000 in
theorem san_ss : sset cmpR [san0, san1, san2] = [san0, san2, san1] := by
 have e : sset cmpR [san0, san1, san2] = sset cmpR [san0, san2, san1] := sset_ext cmpR_cmp (fun _ _ => cmpR_eq) fun x => by
  simp only [List.mem_cons, List.not_mem_nil, or_false]
  constructor
  ·rintro (h | h | h) <;> simp [h]
  ·rintro (h | h | h) <;> simp [h]
 rw [e]
 refine sset_self cmpR_cmp (fun _ _ => cmpR_eq) (List.pairwise_cons.2 ⟨fun b hb => ?_, List.pairwise_cons.2 ⟨fun b hb => ?_, List.pairwise_singleton _ _⟩⟩)
 ·simp only [List.mem_cons, List.not_mem_nil, or_false] at hb
  rcases hb with rfl | rfl <;> decide
 ·rcases List.mem_singleton.1 hb with rfl
  decide
theorem san_hits (z : Int) : (2 ≤ (hits [san0, san2, san1] z).length ↔ 0 ≤ z ∧ z < 10000000) ∧ (0 ≤ z → z < 10000000 → allEq (hits [san0, san2, san1] z) = true) := by
 obtain ⟨h0, h1, h2⟩ := san_rf
 have t0 : timeR san0 0 = 0 ∧ timeR san0 1 = 10000000 := by decide
 have t1 : timeR san1 0 = 20000000 ∧ timeR san1 1 = 30000000 := by decide
 have t2 : timeR san2 0 = 0 ∧ timeR san2 1 = 10000000 := by decide
 have e0 := hit_one h0 rfl z
 have e1 := hit_one h1 rfl z
 have e2 := hit_one h2 rfl z
 rw [t0.1, t0.2] at e0
 rw [t1.1, t1.2] at e1
 rw [t2.1, t2.2] at e2
 have g0 : san0.Samples.getD 0 0 = 1 := rfl
 have g2 : san2.Samples.getD 0 0 = 1 := rfl
 rw [g0] at e0
 rw [g2] at e2
 unfold hits
 by_cases hz : 0 ≤ z ∧ z < 10000000
 ·rw [if_pos hz] at e0 e2
  rw [if_neg (by omega)] at e1
  simp [e0, e1, e2, hz, allEq]
 ·rw [if_neg hz] at e0 e2
  have hz' : 0 ≤ z → ¬ z < 10000000 := fun a b => hz ⟨a, b⟩
  by_cases h3 : 20000000 ≤ z ∧ z < 30000000
  ·rw [if_pos h3] at e1
   simp [e0, e1, e2]
   omega
  ·rw [if_neg h3] at e1
   simp [e0, e1, e2]
   omega
theorem sane16 : law16_sane = some true := by
 obtain ⟨g, eg, hg⟩ := gaps_ok san_vs (by decide) (f := 0) (t := 30000000) (by decide) (by decide) (by decide)
 obtain ⟨o, eo, ho, _⟩ := overlaps_ok san_vs (fun r hr => by have := san_vs.smp r hr; simp only [List.mem_cons, List.not_mem_nil, or_false] at hr; rcases hr with rfl | rfl | rfl <;> decide) (by decide) (f := 0) (t := 30000000) (by decide) (by decide) (by decide)
 have hge : g = [⟨10000000, 20000000⟩] := by
  refine hg.vs.uniq ⟨fun s hs => ?_, List.pairwise_singleton _ _⟩ fun z => ?_
  ·rcases List.mem_singleton.1 hs with rfl; decide
  ·rw [hg.mem, mem_one]
   have x0 : extR san0 = ⟨0, 10000000⟩ := by
    have : timeR san0 0 = 0 ∧ timeR san0 1 = 10000000 := by decide
    show (⟨timeR san0 0, timeR san0 1⟩ : Span) = _
    rw [this.1, this.2]
   have x1 : extR san1 = ⟨20000000, 30000000⟩ := by
    have : timeR san1 0 = 20000000 ∧ timeR san1 1 = 30000000 := by decide
    show (⟨timeR san1 0, timeR san1 1⟩ : Span) = _
    rw [this.1, this.2]
   have x2 : extR san2 = ⟨0, 10000000⟩ := by
    have : timeR san2 0 = 0 ∧ timeR san2 1 = 10000000 := by decide
    show (⟨timeR san2 0, timeR san2 1⟩ : Span) = _
    rw [this.1, this.2]
   simp only [List.map_cons, List.map_nil, x0, x1, x2]
   rw [mem_cons, mem_cons, mem_one]
   simp only
   omega
 have hoe : o = [⟨0, 10000000, true⟩] := by
  rw [san_ss] at ho
  refine ov_one ho (by decide) fun z b => ?_
  obtain ⟨a1, a2⟩ := san_hits z
  constructor
  ·rintro ⟨b1, b2, b3, b4⟩
   have := a1.1 b3
   rw [a2 this.1 this.2] at b4
   exact ⟨this.1, this.2, b4⟩
  ·rintro ⟨b1, b2, b3⟩
   exact ⟨b1, by omega, a1.2 ⟨b1, b2⟩, by rw [a2 b1 b2]; exact b3⟩
 unfold law16_sane
 simp only [Option.bind_some]
 have e1 : ([(⟨(⟨(⟨#[65]⟩ : ByteArray), (⟨#[66]⟩ : ByteArray), ByteArray.empty, (⟨#[72, 72, 90]⟩ : ByteArray)⟩ : SourceID), 0, 0, (⟨1, 10⟩ : Rate), 0, 0, 0, ([1] : List Int)⟩ : Record), (⟨(⟨(⟨#[65]⟩ : ByteArray), (⟨#[66]⟩ : ByteArray), ByteArray.empty, (⟨#[72, 72, 90]⟩ : ByteArray)⟩ : SourceID), 20000000, 0, (⟨1, 10⟩ : Rate), 0, 0, 0, ([1] : List Int)⟩ : Record), (⟨(⟨(⟨#[65]⟩ : ByteArray), (⟨#[66]⟩ : ByteArray), ByteArray.empty, (⟨#[72, 72, 90]⟩ : ByteArray)⟩ : SourceID), 0, 0, (⟨1, 10⟩ : Rate), 0, 0, 1, ([1] : List Int)⟩ : Record)] : List Record) = [san0, san1, san2] := rfl
 rw [e1, eg, eo, hge, hoe]
 simp only [Option.bind_some]
 rw [same_refl _ (by decide)]
 rfl
end Go.Proofs.YtdcafiefjakfeaaGreat.Sh

/- Rates and times of samples of the reference as plain programs: they compute what the program's do. -/
namespace Go.Proofs.YtdcafiefjakfeaaGreat.Sh
open Go
set_option linter.unusedVariables false
set_option linter.unusedSimpArgs false
theorem ref01_In_eq (n lo hi : Int) : ref01_In n lo hi = some (inB n lo hi) := rfl
theorem ref02_gcd_eq (a b : Int) (ha : 0 ≤ a) (hb : 0 ≤ b) : ref02_gcd a b = some (Int.gcd a b : Int) := by
 obtain ⟨m, rfl⟩ := Int.eq_ofNat_of_zero_le ha
 obtain ⟨n, rfl⟩ := Int.eq_ofNat_of_zero_le hb
 unfold ref02_gcd
 rw [gcdloop (body := ref02_gcd_l1) (fun _ => rfl)]
 rfl
theorem ref02_Valid_eq (r : Rate) : ref02_Valid r = some (rateVB r) := by
 unfold ref02_Valid rateVB
 simp only [ref01_In_eq, Option.bind]
 by_cases h1 : inB r.Num 1 4096 = true
 ·by_cases h2 : inB r.Den 1 4096 = true
  ·have a1 := inB_iff.1 h1
   have a2 := inB_iff.1 h2
   rw [if_pos h1, h1, h2, ref02_gcd_eq _ _ (by omega) (by omega)]
   simp only [if_true, Bool.true_and, Option.some.injEq]
   rw [Bool.eq_iff_iff]; simp; omega
  ·simp only [Bool.not_eq_true] at h2
   simp [h1, h2]
 ·simp only [Bool.not_eq_true] at h1
  simp [h1]
theorem ref02_Time_eq (start : Int) (r : Rate) (k : Int) : ref02_Time start r k = some (timeV start r k) := by
 unfold ref02_Time timeV
 rw [ref02_Valid_eq]
 simp only [ref01_In_eq, Option.bind]
 by_cases h : rateVB r = true
 ·have hr := rateVB_iff.1 h
  rw [h]
  simp only [Bool.not_true, Bool.false_eq_true, if_false, if_true]
  by_cases h1 : inB start 0 9007199254740992 = true
  ·rw [h1]
   simp only [Bool.not_true, Bool.false_eq_true, if_false, Bool.true_and]
   by_cases h2 : inB k 0 16777216 = true
   ·have a1 := inB_iff.1 h1
    have a2 := inB_iff.1 h2
    obtain ⟨e0, e1, e2, e3⟩ := after_fits hr a2.1 a2.2
    have hd0 := hr.d0
    have hd1 := hr.d1
    have hn0 := hr.n0
    have q1 : k * r.Den ≤ 16777216 * 4096 := Int.mul_le_mul a2.2 hd1 (by omega) (by omega)
    have q0 : 0 ≤ k * r.Den := Int.mul_nonneg a2.1 (by omega)
    have qe : k * r.Den * 1000000 = k * (r.Den * 1000000) := Int.mul_assoc _ _ _
    rw [h2]
    simp only [Bool.not_true, Bool.false_eq_true, if_false, if_true]
    rw [w64_id (x := k * r.Den) (by omega) (by omega), qe, w64_id (by omega) (by omega), quo_nn (by omega) e0 (by omega)]
    simp only
    rw [w64_id (by omega) (by omega)]
   ·simp only [Bool.not_eq_true] at h2
    rw [h2]; simp
  ·simp only [Bool.not_eq_true] at h1
   rw [h1]; simp
 ·simp only [Bool.not_eq_true] at h
  rw [h]; simp
end Go.Proofs.YtdcafiefjakfeaaGreat.Sh

/- The reference's identifiers and records as plain programs: they are valid where the program's are, and have the same times (chapters 3, 5 and 14). -/
namespace Go.Proofs.YtdcafiefjakfeaaGreat.Sh
open Go
set_option linter.unusedVariables false
set_option linter.unusedSimpArgs false
theorem ref03_code_eq (s : ByteArray) (lo hi : Int) (hs : s.size ≤ 9223372036854775807) : ref03_code s lo hi = some (codeB s lo hi) := by
 unfold ref03_code codeB
 have hl : s.size = (bts s).length := by simp [bts]
 have step : ∀ (i : Nat) (hi' : i < (bts s).length), ref03_code_l2 s lo hi (i : Int) = if plainB (((bts s)[i]).toNat : Int) = true then some (.inl ((i + 1 : Nat) : Int)) else some (.inr false) := by
  intro i hi'
  unfold ref03_code_l2
  rw [if_pos (decide_eq_true (by omega)), byteAt_nat s i hi']
  generalize (((bts s)[i]).toNat : Int) = c
  simp only [Option.bind]
  rw [w64_id (by omega) (by omega)]
  unfold plainB
  by_cases h1 : 65 ≤ c <;> by_cases h2 : c ≤ 90 <;> by_cases h3 : 48 ≤ c <;> by_cases h4 : c ≤ 57 <;> simp [h1, h2, h3, h4]
 rw [loop_all (bts s).length (fun i => plainB (((bts s).getD i 0).toNat : Int)) false (inB s.size lo hi)]
 ·rw [range_all (bts s) (fun c => plainB c.toNat) _ (fun i hi => by simp [List.getD_eq_getElem?_getD, hi])]
  cases (bts s).all (fun c => plainB c.toNat) <;> simp
 ·intro i hi hp
  have e : (bts s).getD i 0 = (bts s)[i] := by simp [List.getD_eq_getElem?_getD, hi]
  rw [e] at hp
  rw [step i hi, if_pos hp]
 ·intro i hi hp
  have e : (bts s).getD i 0 = (bts s)[i] := by simp [List.getD_eq_getElem?_getD, hi]
  rw [e] at hp
  rw [step i hi, hp]
  rfl
 ·unfold ref03_code_l2
  rw [if_neg (by simp; omega)]
  rfl
theorem toList_bts (s : ByteArray) : s.toList = bts s := ByteArray.toList_eq s
theorem nil_iff (s : ByteArray) : (s.toList == (⟨#[]⟩ : ByteArray).toList) = decide (s.size = 0) := by
 rw [toList_bts, toList_bts]
 have : bts (⟨#[]⟩ : ByteArray) = [] := rfl
 rw [this, Bool.eq_iff_iff]
 simp [bts, ← Array.size_eq_zero_iff]
theorem ref03_Valid_eq {s : SourceID} (h : SrcSm s) : ref03_Valid s = some (srcB s) := by
 unfold ref03_Valid srcB
 rw [ref03_code_eq _ _ _ h.n, ref03_code_eq _ _ _ h.s, ref03_code_eq _ _ _ h.l, ref03_code_eq _ _ _ h.c, nil_iff]
 have e : (decide (s.Location.size = 0) || codeB s.Location 2 2) = (codeB s.Location 0 2 && !((s.Location.size : Int) == 1)) := by
  unfold codeB
  by_cases h0 : s.Location.size = 0
  ·have hb : bts s.Location = [] := by
    have : (bts s.Location).length = 0 := by simpa [bts] using h0
    exact List.eq_nil_of_length_eq_zero this
   rw [hb]
   simp [h0, inB]
  ·rw [decide_eq_false h0, Bool.false_or]
   cases (bts s.Location).all (fun c => plainB c.toNat)
   ·rfl
   ·simp only [Bool.true_and, inB]
    rw [Bool.eq_iff_iff]
    simp
    omega
 simp only [Option.bind]
 generalize codeB s.Network 1 2 = a at *
 generalize codeB s.Station 1 5 = b at *
 generalize codeB s.Channel 3 3 = c at *
 generalize codeB s.Location 2 2 = d at *
 generalize codeB s.Location 0 2 = f at *
 generalize decide (s.Location.size = 0) = g at *
 generalize ((s.Location.size : Int) == 1) = k at *
 revert e
 cases a <;> cases b <;> cases c <;> cases d <;> cases f <;> cases g <;> cases k <;> decide
theorem ref05_InRange_eq (l : List Int) (h : l.length ≤ 1000000000) : ref05_InRange l = some (smpB l) := by
 unfold ref05_InRange smpB
 rw [loop_all l.length (fun i => inB (l.getD i 0) (-1073741823) 1073741823) false true]
 ·rw [range_all l (fun x => inB x (-1073741823) 1073741823) _ (fun i hi => by simp [List.getD_eq_getElem?_getD, hi])]
  cases l.all (fun x => inB x (-1073741823) 1073741823) <;> rfl
 ·intro i hi hp
  have e : l.getD i 0 = l[i] := by simp [List.getD_eq_getElem?_getD, hi]
  rw [e] at hp
  unfold ref05_InRange_l2
  rw [if_pos (decide_eq_true (by omega)), ix_nat _ _ hi]
  simp only [Option.bind, ref05_Sample, ref01_In_eq, hp, Bool.not_true, Bool.false_eq_true, if_false]
  rw [w64_id (by omega) (by omega)]
  rfl
 ·intro i hi hp
  have e : l.getD i 0 = l[i] := by simp [List.getD_eq_getElem?_getD, hi]
  rw [e] at hp
  unfold ref05_InRange_l2
  rw [if_pos (decide_eq_true (by omega)), ix_nat _ _ hi]
  simp only [Option.bind, ref05_Sample, ref01_In_eq, hp, Bool.not_false, if_true]
 ·unfold ref05_InRange_l2
  rw [if_neg (by simp)]
  rfl
theorem ref14_Time_eq (r : Record) (i : Int) : ref14_Time r i = some (timeV r.Start r.Rate (w64 (r.First + i))).1 := by
 unfold ref14_Time
 rw [ref02_Time_eq]
 rfl
theorem ref14_Valid_eq {r : Record} (hs : SrcSm r.Source) (hl : r.Samples.length ≤ 1000000000) : ref14_Valid r = some (recB r) := by
 unfold ref14_Valid
 rw [ref03_Valid_eq hs, ref02_Valid_eq, ref05_InRange_eq _ hl]
 simp only [ref01_In_eq, ref14_Time_eq, Option.bind]
 have key : recB r = (srcB r.Source && rateVB r.Rate && inB r.Start 0 9007199254740992 && inB r.First 0 16777216 && inB r.Samples.length 1 65536 && !(decide (16777216 < w64 (r.First + r.Samples.length))) && smpB r.Samples &&
   (inB r.Error 0 1099511627776 && inB r.Run 0 65535 && inB r.Seq 0 1073741824 && decide ((timeV r.Start r.Rate (w64 (r.First + r.Samples.length))).1 ≤ 9007199254740992))) := by
  rw [Bool.eq_iff_iff, recB_iff]
  simp only [Bool.and_eq_true, inB_iff, decide_eq_true_eq, Bool.not_eq_true', decide_eq_false_iff_not]
  constructor
  ·intro h
   have a1 := h.l1
   have a2 := h.f0
   have a3 := h.f1
   rw [w64_id (by omega) (by omega), timeV_ok h.rv h.s0 h.s1 (by omega) (by omega)]
   exact ⟨⟨⟨⟨⟨⟨⟨h.src, rateVB_iff.2 h.rv⟩, h.s0, h.s1⟩, a2, by omega⟩, by have := h.l0; omega, by omega⟩, by omega⟩, h.smp⟩, ⟨⟨⟨h.e0, h.e1⟩, h.r0, h.r1⟩, h.q0, h.q1⟩, h.te⟩
  ·rintro ⟨⟨⟨⟨⟨⟨⟨b1, b2⟩, b3, b4⟩, b5, b6⟩, b7, b8⟩, b9⟩, b10⟩, ⟨⟨⟨b11, b12⟩, b13, b14⟩, b15, b16⟩, b17⟩
   rw [w64_id (by omega) (by omega)] at b9 b17
   have hrv := rateVB_iff.1 b2
   rw [timeV_ok hrv b3 b4 (by omega) (by omega)] at b17
   exact ⟨b1, by omega, by omega, b5, by omega, b11, b12, b13, b14, b15, b16, hrv, b3, b4, b17, b10⟩
 rw [key]
 cases srcB r.Source <;> cases rateVB r.Rate <;> cases inB r.Start 0 9007199254740992 <;> cases inB r.First 0 16777216 <;> cases inB (r.Samples.length : Int) 1 65536 <;> try rfl
 cases decide (16777216 < w64 (r.First + (r.Samples.length : Int))) <;> cases smpB r.Samples <;> cases inB r.Error 0 1099511627776 <;> cases inB r.Run 0 65535 <;> cases inB r.Seq 0 1073741824 <;> rfl
theorem RF.refvalid {r : Record} (h : RF r) : ref14_Valid r = some true := by
 rw [ref14_Valid_eq (srcB_sm h.src) (by have := h.l1; omega), recB_iff.2 h]
theorem RF.reftime {r : Record} (h : RF r) {i : Int} (i0 : 0 ≤ i) (i1 : i ≤ r.Samples.length) : ref14_Time r i = some (timeR r i) := by
 have a3 := h.f0
 have a4 := h.f1
 rw [ref14_Time_eq, w64_id (by omega) (by omega), h.timeV i0 i1]
theorem RF.refAt {r : Record} (h : RF r) {i : Int} (i0 : 0 ≤ i) (i1 : i ≤ r.Samples.length) : ref14_At r i = some (timeR r i, 0) := by
 unfold ref14_At
 rw [h.refvalid, ref01_In_eq, inB_true i0 i1, h.reftime i0 i1]
 rfl
end Go.Proofs.YtdcafiefjakfeaaGreat.Sh

/- The reference's orders of records as plain programs (chapters 3 and 14). -/
namespace Go.Proofs.YtdcafiefjakfeaaGreat.Sh
open Go
set_option linter.unusedVariables false
set_option linter.unusedSimpArgs false
theorem rnum_eq (a b : Int) : ref14_number a b = some (cmpI a b) := by
 unfold ref14_number cmpI
 by_cases h1 : a < b
 ·simp [h1]
 ·by_cases h2 : b < a
  ·simp [h1, h2]
  ·simp [h1, h2]
theorem rcmpS_eq (a b : ByteArray) : ref03_compare a b = some (cmpS a b) := by
 unfold ref03_compare
 rw [cmpS_spell]
 cases Op.bytesLess a.toList b.toList
 ·cases (a.toList == b.toList) <;> simp
 ·simp
/-- the first number of a list that is not 0, and what comes behind it -/
def fst0 {β : Type} (f : Int → β) (z : β) (v : Int) : β := if v ≠ 0 then f v else z
theorem orL_0 {x : Int} {r : List Int} (h : x = 0) : orL (x :: r) = orL r := by simp only [orL]; rw [if_neg (by omega)]
theorem orL_1 {x : Int} {r : List Int} (h : x ≠ 0) : orL (x :: r) = x := by simp only [orL]; rw [if_pos h]
theorem fst0_cons {β : Type} (f : Int → β) (z : β) (x : Int) (r : List Int) : fst0 f z (orL (x :: r)) = if x ≠ 0 then f x else fst0 f z (orL r) := by
 by_cases h : x = 0
 ·rw [orL_0 h, if_neg (by omega)]
 ·rw [orL_1 h, if_pos h]; unfold fst0; rw [if_pos h]
theorem fst0_nil {β : Type} (f : Int → β) (z : β) : fst0 f z (orL []) = z := by unfold fst0 orL; rfl
theorem or_cong {α : Type} {x : Int} {a r s : α} (h : r = s) : (if x ≠ 0 then a else r) = (if x ≠ 0 then a else s) := by rw [h]
theorem first_loop {β : Type} {body : Int → Option (Int ⊕ β)} (l : List Int) (f : Int → β) (z : β) (hl : l.length ≤ 1000000)
  (h1 : ∀ i : Nat, (hi : i < l.length) → l[i] = 0 → body (i : Int) = some (.inl ((i + 1 : Nat) : Int))) (h2 : ∀ i : Nat, (hi : i < l.length) → l[i] ≠ 0 → body (i : Int) = some (.inr (f l[i])))
  (h3 : orL l = 0 → body (l.length : Int) = some (.inr z)) : whileM body 0 = some (fst0 f z (orL l)) := by
 by_cases h0 : orL l = 0
 ·have h3 := h3 h0
  have key : ∀ m, m ≤ l.length → whileM body ((l.length - m : Nat) : Int) = some (fst0 f z (orL (l.drop (l.length - m)))) := by
   intro m
   induction m with
   | zero =>
    intro _
    rw [whileM_eq, Nat.sub_zero, h3, List.drop_length, fst0_nil]; rfl
   | succ m ih =>
    intro hm
    have ih := ih (by omega)
    rw [show l.length - m = l.length - (m + 1) + 1 by omega] at ih
    have hi : l.length - (m + 1) < l.length := by omega
    rw [whileM_eq, List.drop_eq_getElem_cons hi, fst0_cons]
    by_cases hx : l[l.length - (m + 1)] = 0
    ·rw [h1 _ hi hx, if_neg (show ¬ l[l.length - (m + 1)] ≠ 0 by omega)]
     exact ih
    ·rw [h2 _ hi hx, if_pos hx]; rfl
  have := key l.length (Nat.le_refl _)
  rw [Nat.sub_self] at this
  exact this
 ·have key : ∀ m, m ≤ l.length → orL (l.drop (l.length - m)) ≠ 0 → whileM body ((l.length - m : Nat) : Int) = some (fst0 f z (orL (l.drop (l.length - m)))) := by
   intro m
   induction m with
   | zero =>
    intro _ hn
    rw [Nat.sub_zero, List.drop_length] at hn
    exact absurd rfl hn
   | succ m ih =>
    intro hm hn
    have ih := ih (by omega)
    rw [show l.length - m = l.length - (m + 1) + 1 by omega] at ih
    have hi : l.length - (m + 1) < l.length := by omega
    rw [List.drop_eq_getElem_cons hi] at hn
    rw [whileM_eq, List.drop_eq_getElem_cons hi, fst0_cons]
    by_cases hx : l[l.length - (m + 1)] = 0
    ·rw [orL_0 hx] at hn
     rw [h1 _ hi hx, if_neg (show ¬ l[l.length - (m + 1)] ≠ 0 by omega)]
     exact ih hn
    ·rw [h2 _ hi hx, if_pos hx]; rfl
  have := key l.length (Nat.le_refl _) (by rw [Nat.sub_self]; exact h0)
  rw [Nat.sub_self] at this
  exact this
theorem rcmpSrc_eq (a b : SourceID) : ref03_Compare a b = some (cmpSrc a b) := by
 unfold ref03_Compare
 simp only [rcmpS_eq, Option.bind]
 rw [first_loop (l := [cmpS a.Network b.Network, cmpS a.Station b.Station, cmpS a.Location b.Location, cmpS a.Channel b.Channel]) (f := id) (z := 0) (by simp)]
 ·simp only [fst0_cons, fst0_nil, cmpSrc, andThen, Option.some.injEq, id]
  refine or_cong (or_cong (or_cong ?_))
  split <;> omega
 ·intro i hi hx
  unfold ref03_Compare_l2
  rw [if_pos (decide_eq_true (by simp at hi; omega)), ix_nat _ _ hi]
  simp only [Option.bind, hx]
  rw [w64_id (by omega) (by simp at hi; omega)]; rfl
 ·intro i hi hx
  unfold ref03_Compare_l2
  rw [if_pos (decide_eq_true (by simp at hi; omega)), ix_nat _ _ hi]
  simp only [Option.bind]
  rw [if_pos (by simpa using hx)]; rfl
 ·intro _
  unfold ref03_Compare_l2
  rw [if_neg (by simp)]; rfl
theorem lex_zip : ∀ (a b : List Int), a.length = b.length → lexL cmpI a b = orL (List.zipWith cmpI a b)
 | [], [], _ => rfl
 | x :: a, y :: b, h => by
  simp only [lexL, List.zipWith_cons_cons, orL]
  rw [lex_zip a b (by simpa using h)]
theorem rlex_eq (a b : Record) (hl : a.Samples.length = b.Samples.length) (ha : a.Samples.length ≤ 1000000) : whileM (ref14_Compare_l4 a b) 0 = some (lexL cmpI a.Samples b.Samples) := by
 have hz : (List.zipWith cmpI a.Samples b.Samples).length = a.Samples.length := by simp [hl]
 rw [first_loop (l := List.zipWith cmpI a.Samples b.Samples) (f := id) (z := 0) (by omega)]
 ·rw [lex_zip _ _ hl]
  simp only [fst0, id, Option.some.injEq]
  split <;> omega
 ·intro i hi hx
  rw [List.getElem_zipWith] at hx
  unfold ref14_Compare_l4
  rw [if_pos (decide_eq_true (by omega)), ix_nat _ _ (show i < a.Samples.length by omega), ix_nat _ _ (show i < b.Samples.length by omega)]
  simp only [Option.bind, rnum_eq, hx]
  rw [w64_id (by omega) (by omega)]; rfl
 ·intro i hi hx
  rw [List.getElem_zipWith] at hx ⊢
  unfold ref14_Compare_l4
  rw [if_pos (decide_eq_true (by omega)), ix_nat _ _ (show i < a.Samples.length by omega), ix_nat _ _ (show i < b.Samples.length by omega)]
  simp only [Option.bind, rnum_eq]
  rw [if_pos (by simpa using hx)]; rfl
 ·intro _
  rw [hz]
  unfold ref14_Compare_l4
  rw [if_neg (by simp)]; rfl
theorem rcompare_j2 {a b : Record} (ha : RSm a) (h6 : a.Samples.length ≤ 1000000) : ref14_Compare_j2 a b (begR a) (begR b) = some (cmpR a b) := by
 unfold ref14_Compare_j2
 simp only [rcmpSrc_eq, rnum_eq, Option.bind]
 rw [first_loop (l := [cmpSrc a.Source b.Source, cmpI (begR a) (begR b), cmpI a.Start b.Start, cmpI a.First b.First, cmpI a.Rate.Num b.Rate.Num, cmpI a.Rate.Den b.Rate.Den, cmpI a.Error b.Error, cmpI a.Run b.Run, cmpI a.Seq b.Seq, cmpI a.Samples.length b.Samples.length])
   (f := id) (z := lexL cmpI a.Samples b.Samples) (by simp)]
 ·simp only [fst0_cons, fst0_nil, cmpR, andThen, id]
 ·intro i hi hx
  unfold ref14_Compare_l2
  rw [if_pos (decide_eq_true (by simp at hi; omega)), ix_nat _ _ hi]
  simp only [Option.bind, hx]
  rw [w64_id (by omega) (by simp at hi; omega)]; rfl
 ·intro i hi hx
  unfold ref14_Compare_l2
  rw [if_pos (decide_eq_true (by simp at hi; omega)), ix_nat _ _ hi]
  simp only [Option.bind]
  rw [if_pos (by simpa using hx)]; rfl
 ·intro h0
  have hl : a.Samples.length = b.Samples.length := by
   refine Classical.byContradiction fun hn => ?_
   have hne : cmpI a.Samples.length b.Samples.length ≠ 0 := fun h => hn (by have := cmpI_eq h; omega)
   have last : ∀ l : List Int, ∀ x, x ≠ 0 → orL (l ++ [x]) ≠ 0 := by
    intro l x hx
    induction l with
    | nil => rw [List.nil_append, orL_1 hx]; exact hx
    | cons y l ih =>
     rw [List.cons_append]
     by_cases hy : y = 0
     ·rw [orL_0 hy]; exact ih
     ·rw [orL_1 hy]; exact hy
   exact last [cmpSrc a.Source b.Source, cmpI (begR a) (begR b), cmpI a.Start b.Start, cmpI a.First b.First, cmpI a.Rate.Num b.Rate.Num, cmpI a.Rate.Den b.Rate.Den, cmpI a.Error b.Error, cmpI a.Run b.Run, cmpI a.Seq b.Seq] _ hne h0
  unfold ref14_Compare_l2
  rw [if_neg (by simp), rlex_eq a b hl h6]; rfl
theorem rcompare_eq {a b : Record} (ha : RSm a) (hb : RSm b) (h6 : a.Samples.length ≤ 1000000) : ref14_Compare a b = some (cmpR a b) := by
 have hj : ref14_Compare_j1 a b (begR a) = some (cmpR a b) := by
  unfold ref14_Compare_j1
  rw [ref14_Valid_eq hb.src hb.len]
  simp only [Option.bind]
  have e := rcompare_j2 (b := b) ha h6
  by_cases hv : recB b = true
  ·have hr := recB_iff.1 hv
   have eb : begR b = timeR b 0 := by unfold begR; rw [if_pos hv]
   rw [hv, hr.reftime (Int.le_refl 0) (by omega), ← eb]
   exact e
  ·have eb : begR b = 0 := by unfold begR; rw [if_neg hv]
   rw [if_neg hv, ← eb]
   exact e
 unfold ref14_Compare
 rw [ref14_Valid_eq ha.src ha.len]
 simp only [Option.bind]
 by_cases hv : recB a = true
 ·have hr := recB_iff.1 hv
  have ea : begR a = timeR a 0 := by unfold begR; rw [if_pos hv]
  rw [hv, hr.reftime (Int.le_refl 0) (by omega), ← ea]
  exact hj
 ·have ea : begR a = 0 := by unfold begR; rw [if_neg hv]
  rw [if_neg hv, ← ea]
  exact hj
end Go.Proofs.YtdcafiefjakfeaaGreat.Sh

/- The order of records as the reference makes it (chapter 15). -/
namespace Go.Proofs.YtdcafiefjakfeaaGreat.Sh
open Go
set_option linter.unusedVariables false
set_option linter.unusedSimpArgs false
theorem rfine_ok {l : List Record} (h : VL l) (hl : l.length ≤ 1000) : ref15_fine l = some true := by
 unfold ref15_fine
 refine whileM_for' (fun i => (i : Int)) l.length _ rfl (fun i hi => ?_) ?_
 ·have hm := List.getElem_mem hi
  have h0 : 0 < l.length := by omega
  unfold ref15_fine_l2
  rw [if_pos (decide_eq_true (by omega)), ix_nat _ _ hi]
  simp only [Option.bind_some]
  rw [(h.rf _ hm).refvalid]
  simp only [Option.bind_some, Bool.not_true, Bool.false_eq_true, if_false]
  rw [show ix l 0 = some l[0] from ix_nat l 0 h0]
  simp only [Option.bind_some]
  rw [h.src _ hm _ (List.getElem_mem h0)]
  simp only [ba_refl, Bool.and_self, Bool.not_true, Bool.false_eq_true, if_false]
  rw [w64_n (by omega)]
 ·unfold ref15_fine_l2
  rw [if_neg (by simp)]
  rfl
theorem rvalid_ok {l : List Record} (h : VL l) (hl : l.length ≤ 256) : ref15_Valid l = some true := by
 unfold ref15_Valid
 rw [if_pos (decide_eq_true (by omega)), rfine_ok h (by omega)]
 rfl
theorem natpred {k : Nat} (h : 0 < k) : (k : Int) - 1 = ((k - 1 : Nat) : Int) := by omega
open Classical in
theorem rorder_rsm {l : List Record} (h : ∀ r ∈ l, RSm r ∧ r.Samples.length ≤ 1000000) (hl : l.length ≤ 1000) : ref15_order l = some (sset cmpR l) := by
 unfold ref15_order
 have hw : whileM (ref15_order_l3 l) (([] : List Record), 0) = some (sset cmpR l) := by
  refine whileM_for' (fun i => (sset cmpR (l.take i), (i : Int))) l.length _ (by simp [sset]) (fun i hi => ?_) ?_
  ·have hsl := sset_len cmpR (l.take i)
   rw [List.length_take] at hsl
   have hom : ∀ r ∈ sset cmpR (l.take i), RSm r ∧ r.Samples.length ≤ 1000000 := fun r hr => h r (List.mem_of_mem_take (mem_ss.1 hr))
   have hxm := h _ (List.getElem_mem hi)
   obtain ⟨o, ho⟩ : ∃ o, sset cmpR (l.take i) = o := ⟨_, rfl⟩
   obtain ⟨x, hx⟩ : ∃ x, l[i] = x := ⟨_, rfl⟩
   have hpw := sset_pw cmpR_cmp (fun _ _ => cmpR_eq) (l.take i)
   rw [take_one hi, sset_snoc cmpR_cmp (fun _ _ => cmpR_eq), hx]
   rw [ho] at hsl hpw hom ⊢
   rw [hx] at hxm
   unfold ref15_order_l3
   simp only
   rw [if_pos (decide_eq_true (by omega))]
   simp only [Option.bind_some]
   obtain ⟨k, ek, k1, k2, k3⟩ := down_find (c := cmpR) (body := ref15_order_l6 l (o, (i : Int))) o x (by omega) (fun k hk => by
    unfold ref15_order_l6
    simp only
    rw [if_pos (decide_eq_true (by omega)), w64_id (by omega) (by omega), show ((k + 1 : Nat) : Int) - 1 = (k : Int) by omega, ix_nat _ _ hk, ix_nat _ _ hi, hx]
    simp only [Option.bind_some]
    have hk' := hom _ (List.getElem_mem hk)
    rw [rcompare_eq hk'.1 hxm.1 hk'.2]
    simp only [Option.bind_some]
    by_cases hc : 0 < cmpR o[k] x
    ·rw [if_pos (decide_eq_true hc), if_pos hc]
    ·rw [if_neg (by simpa using hc), if_neg hc]) (by
    unfold ref15_order_l6
    simp)
   rw [ek]
   simp only [Option.bind_some]
   obtain ⟨q1, q2⟩ := insC_at cmpR_cmp (fun _ _ => cmpR_eq) (x := x) hpw k1 k2 k3
   clear k2 k3
   have hcond : (if decide ((0 : Int) < (k : Int)) = true then (ix o (w64 ((k : Int) - 1))).bind fun x1255 => (ix l (i : Int)).bind fun x1272 => (ref14_Compare x1255 x1272).bind fun rv1288 => some (rv1288 == 0) else some false) = some (decide (0 < k ∧ o[k - 1]? = some x)) := by
    by_cases hk0 : 0 < k
    ·have hkl : k - 1 < o.length := by omega
     have hk' := hom _ (List.getElem_mem hkl)
     rw [if_pos (decide_eq_true (by omega)), w64_id (by omega) (by omega), natpred hk0, ix_nat _ _ hkl, ix_nat _ _ hi, hx]
     simp only [Option.bind_some]
     rw [rcompare_eq hk'.1 hxm.1 hk'.2]
     simp only [Option.bind_some, Option.some.injEq]
     rw [Bool.eq_iff_iff, beq_iff_eq, decide_eq_true_iff, some_at hkl, Option.some.injEq]
     exact ⟨fun h => ⟨hk0, cmpR_eq h⟩, fun h => by rw [h.2]; exact cmpR_cmp.refl x⟩
    ·rw [if_neg (by simp; omega)]
     have : ¬ (0 < k ∧ o[k - 1]? = some x) := fun h => hk0 h.1
     rw [decide_eq_false this]
   have hbody : ∀ c : Bool, (c = true → insC cmpR x o = o) → (c = false → insC cmpR x o = o.take k ++ x :: o.drop k) → (if c = true then ref15_order_j1 (o, (i : Int)) o else (ix l (i : Int)).bind fun x1339 => (appM 144 o ([x1339] : List Record)).bind fun l1357 => (subM l1357 (w64 ((k : Int) + 1)) (l1357.length : Int)).bind fun l1365 => (subM l1357 (k : Int) (l1357.length : Int)).bind fun l1370 => (some (copyM l1357 (w64 ((k : Int) + 1)) (l1357.length : Int) l1370)).bind fun l1371 => (ix l (i : Int)).bind fun x1381 => (ix l1371 (k : Int)).bind fun x1393 => (setM l1371 (k : Int) x1381).bind fun l1409 => ref15_order_j1 (o, (i : Int)) l1409) = some (Sum.inl (insC cmpR x o, ((i + 1 : Nat) : Int))) := by
    intro c c1 c2
    unfold ref15_order_j1
    simp only
    rw [w64_id (x := (i : Int) + 1) (by omega) (by omega)]
    cases c with
    | true =>
     rw [if_pos rfl, c1 rfl]
     rfl
    | false =>
     rw [if_neg (by decide), ix_nat _ _ hi, hx]
     simp only [Option.bind_some]
     rw [appM_one _ _ _ (by simp; omega) (by decide), w64_id (x := (k : Int) + 1) (by omega) (by omega)]
     simp only [Option.bind_some]
     obtain ⟨g1, g2, q, eq, hq, hset⟩ := insert_mem (s := o) (x := x) k1 (by omega)
     have ek1 : (k : Int) + 1 = ((k + 1 : Nat) : Int) := by omega
     rw [ek1, g1]
     simp only [Option.bind_some]
     rw [g2]
     simp only [Option.bind_some]
     rw [← eq, ix_nat _ _ hq]
     simp only [Option.bind_some]
     rw [setM_at _ _ _ (by omega) (by omega), Int.toNat_natCast, hset, c2 rfl]
     rfl
   refine Eq.trans ?_ (hbody (decide (0 < k ∧ o[k - 1]? = some x)) (fun h => ?_) (fun h => ?_))
   ·exact congrArg (fun z : Option Bool => z.bind fun c1289 => (if c1289 = true then ref15_order_j1 (o, (i : Int)) o else (ix l (i : Int)).bind fun x1339 => (appM 144 o ([x1339] : List Record)).bind fun l1357 => (subM l1357 (w64 ((k : Int) + 1)) (l1357.length : Int)).bind fun l1365 => (subM l1357 (k : Int) (l1357.length : Int)).bind fun l1370 => (some (copyM l1357 (w64 ((k : Int) + 1)) (l1357.length : Int) l1370)).bind fun l1371 => (ix l (i : Int)).bind fun x1381 => (ix l1371 (k : Int)).bind fun x1393 => (setM l1371 (k : Int) x1381).bind fun l1409 => ref15_order_j1 (o, (i : Int)) l1409)) hcond
   ·have h := of_decide_eq_true h
    obtain ⟨hkl, e⟩ := at_some h.2
    exact q1 ⟨hkl, h.1, e⟩
   ·have h := of_decide_eq_false h
    refine q2 ?_
    by_cases hk0 : k = 0
    ·exact .inl hk0
    ·have hkl : k - 1 < o.length := by omega
     exact .inr ⟨hkl, by omega, fun e => h ⟨by omega, by rw [some_at hkl, e]⟩⟩
  ·unfold ref15_order_l3
   simp only
   rw [if_neg (by simp), List.take_length]
 rw [hw]
 rfl
theorem rorder_ok {l : List Record} (h : VL l) (hl : l.length ≤ 1000) : ref15_order l = some (sset cmpR l) := rorder_rsm (fun r hr => ⟨(h.rf r hr).sm, by have := (h.rf r hr).l1; omega⟩) hl
theorem rOrder_ok {l : List Record} (h : VS15 l) : ref15_Order l = some (sset cmpR l, 0) := by
 have hl := h.len
 unfold ref15_Order
 rw [rvalid_ok h.toVL (by omega)]
 simp only [Option.bind_some, Bool.not_true, Bool.false_eq_true, if_false]
 rw [rorder_ok h.toVL (by omega)]
 rfl
end Go.Proofs.YtdcafiefjakfeaaGreat.Sh

/- The dice of the statements, as plain programs: what they give lies in its range, and the dice stay well. -/
namespace Go.Proofs.YtdcafiefjakfeaaGreat.Sh
open Go
set_option linter.unusedVariables false
set_option linter.unusedSimpArgs false
structure DOK (d : Dice) : Prop where
 a0 : 0 ≤ d.At
 a1 : d.At ≤ d.L.length
 len : d.L.length ≤ 500
theorem DOK.roll {l : List Int} (h : l.length ≤ 500) : DOK ⟨l, 0⟩ := ⟨Int.le_refl _, by simp, h⟩
theorem light_spec (l : List Int) : made_Light l = some (decide (l.length ≤ 500)) := by
 simp only [made_Light, Option.some.injEq, decide_eq_decide]; omega
theorem next_spec {d : Dice} (hd : DOK d) {n : Int} (h1 : 1 ≤ n) (h2 : n ≤ 9223372036854775807) : ∃ x d', made_Dice_Next d n = some (x, d') ∧ 0 ≤ x ∧ x < n ∧ DOK d' := by
 obtain ⟨a0, a1, len⟩ := hd
 unfold made_Dice_Next
 by_cases h : (d.L.length : Int) ≤ d.At
 ·refine ⟨0, d, ?_, Int.le_refl _, by omega, a0, a1, len⟩
  simp [h]
 ·have hn : ¬ n < 1 := by omega
  have hnext : DOK ⟨d.L, w64 (d.At + 1)⟩ := by
   rw [w64_id (by omega) (by omega)]; exact ⟨by simp only; omega, by simp only; omega, len⟩
  rw [if_neg (by simp [h, hn]), ix_at d.L d.At a0 (by omega)]
  simp only [Option.bind]
  rw [remM_at _ _ (by omega)]
  simp only [made_Dice_Next_j1]
  generalize hx : (d.L[d.At.toNat]'(by omega)) = x
  have hb : -n < x.tmod n ∧ x.tmod n < n := ⟨Int.lt_tmod_of_pos x (by omega), Int.tmod_lt_of_pos x (by omega)⟩
  by_cases hneg : x.tmod n < 0
  ·simp only [hneg, decide_true, if_true, Option.bind]
   refine ⟨_, _, rfl, ?_, ?_, hnext⟩ <;> rw [w64_id (by omega) (by omega)] <;> omega
  ·simp only [hneg, decide_false, Bool.false_eq_true, if_false]
   exact ⟨_, _, rfl, by omega, by omega, hnext⟩
theorem pick_spec {d : Dice} (hd : DOK d) {l : List Int} (h1 : 1 ≤ l.length) (h2 : l.length ≤ 1000) : ∃ x d', made_Dice_Pick d l = some (x, d') ∧ x ∈ l ∧ DOK d' := by
 obtain ⟨x, d', e, x0, x1, hd'⟩ := next_spec hd (n := (l.length : Int)) (by omega) (by omega)
 unfold made_Dice_Pick
 rw [e]
 simp only [Option.bind]
 rw [ix_at l x x0 x1]
 exact ⟨_, _, rfl, List.getElem_mem _, hd'⟩
end Go.Proofs.YtdcafiefjakfeaaGreat.Sh

/- The identifiers and the records that the dice make are well. -/
namespace Go.Proofs.YtdcafiefjakfeaaGreat.Sh
open Go
set_option linter.unusedVariables false
set_option linter.unusedSimpArgs false
theorem pickl_spec {α : Type} {d : Dice} (hd : DOK d) (l : List α) (n : Int) (hn : n = l.length) (h1 : 1 ≤ l.length) (h2 : l.length ≤ 1000) :
  ∃ x d' y, made_Dice_Next d n = some (x, d') ∧ ix l x = some y ∧ y ∈ l ∧ DOK d' := by
 obtain ⟨x, d', e, x0, x1, hd'⟩ := next_spec hd (n := n) (by omega) (by omega)
 exact ⟨x, d', _, e, ix_at l x x0 (by omega), List.getElem_mem _, hd'⟩
theorem dsource_spec {d : Dice} (hd : DOK d) : ∃ s d', made_Dice_Source d = some (s, d') ∧ srcB s = true ∧ DOK d' := by
 unfold made_Dice_Source
 obtain ⟨x1, d1, y1, e1, g1, m1, hd1⟩ := pickl_spec hd [(⟨#[71, 82]⟩ : ByteArray), (⟨#[88]⟩ : ByteArray), (⟨#[55, 65]⟩ : ByteArray)] 3 (by decide) (by decide) (by decide)
 obtain ⟨x2, d2, y2, e2, g2, m2, hd2⟩ := pickl_spec hd1 [(⟨#[70, 85, 82]⟩ : ByteArray), (⟨#[65]⟩ : ByteArray), (⟨#[65, 66, 67, 68, 69]⟩ : ByteArray), (⟨#[70, 85]⟩ : ByteArray)] 4 (by decide) (by decide) (by decide)
 obtain ⟨x3, d3, y3, e3, g3, m3, hd3⟩ := pickl_spec hd2 [(⟨#[]⟩ : ByteArray), (⟨#[48, 48]⟩ : ByteArray), (⟨#[49, 48]⟩ : ByteArray)] 3 (by decide) (by decide) (by decide)
 obtain ⟨x4, d4, y4, e4, g4, m4, hd4⟩ := pickl_spec hd3 [(⟨#[72, 72, 90]⟩ : ByteArray), (⟨#[72, 72, 78]⟩ : ByteArray), (⟨#[66, 72, 90]⟩ : ByteArray)] 3 (by decide) (by decide) (by decide)
 rw [e1]; simp only [Option.bind]
 rw [g1]; simp only
 rw [e2]; simp only
 rw [g2]; simp only
 rw [e3]; simp only
 rw [g3]; simp only
 rw [e4]; simp only
 rw [g4]
 refine ⟨_, _, rfl, ?_, hd4⟩
 have h1 : codeB y1 1 2 = true := by
  simp only [List.mem_cons, List.not_mem_nil, or_false] at m1
  rcases m1 with rfl | rfl | rfl <;> decide
 have h2 : codeB y2 1 5 = true := by
  simp only [List.mem_cons, List.not_mem_nil, or_false] at m2
  rcases m2 with rfl | rfl | rfl | rfl <;> decide
 have h3 : (codeB y3 0 2 && !((y3.size : Int) == 1)) = true := by
  simp only [List.mem_cons, List.not_mem_nil, or_false] at m3
  rcases m3 with rfl | rfl | rfl <;> decide
 have h4 : codeB y4 3 3 = true := by
  simp only [List.mem_cons, List.not_mem_nil, or_false] at m4
  rcases m4 with rfl | rfl | rfl <;> decide
 simp only [Bool.and_eq_true] at h3
 simp only [srcB, h1, h2, h3.1, h3.2, h4, Bool.and_self]
/-- what is known of the records that the dice make -/
structure RG (s : SourceID) (n : Int) (r : Record) : Prop where
 src : r.Source = s
 s0 : 1000000000000 ≤ r.Start
 s1 : r.Start ≤ 1000009750000
 f0 : 0 ≤ r.First
 f1 : r.First ≤ 3
 rv : RV r.Rate
 n3 : r.Rate.Num ≤ 3
 d3 : r.Rate.Den ≤ 3
 e0 : 0 ≤ r.Error
 e1 : r.Error ≤ 500
 r0 : 0 ≤ r.Run
 r1 : r.Run ≤ 1
 q0 : 0 ≤ r.Seq
 q1 : r.Seq ≤ 5
 l0 : 1 ≤ r.Samples.length
 l1 : (r.Samples.length : Int) ≤ n
 smp : ∀ x ∈ r.Samples, 0 ≤ x ∧ x ≤ 3
theorem RG.rf {s : SourceID} {n : Int} {r : Record} (h : RG s n r) (hs : srcB s = true) (hn : n ≤ 1000) : RF r := by
 have l1 := h.l1
 have l0 := h.l0
 have f0 := h.f0
 have f1 := h.f1
 have s1 := h.s1
 have s0 := h.s0
 have d0 := h.rv.d0
 have d3 := h.d3
 have n0 := h.rv.n0
 have e1 := h.e1
 have r1 := h.r1
 have q1 := h.q1
 have k1 : (r.First + r.Samples.length) * (r.Rate.Den * 1000000) ≤ 1003 * 3000000 := Int.mul_le_mul (by omega) (by omega) (by omega) (by omega)
 have k0 : 0 ≤ (r.First + r.Samples.length) * (r.Rate.Den * 1000000) := Int.mul_nonneg (by omega) (by omega)
 have k2 := Int.ediv_le_self r.Rate.Num k0
 exact ⟨by rw [h.src]; exact hs, l0, by omega, f0, by omega, h.e0, by omega, h.r0, by omega, h.q0, by omega, h.rv, by omega, by omega, by omega, smpB_iff.2 fun x hx => by have := h.smp x hx; omega⟩
structure RI (n : Int) (s : List Int × Int × List Int × Int) : Prop where
 dok : DOK ⟨s.1, s.2.1⟩
 rng : ∀ x ∈ s.2.2.1, 0 ≤ x ∧ x ≤ 3
 i0 : 0 ≤ s.2.2.2
 i1 : s.2.2.2 + s.2.2.1.length ≤ n
 ne : s.2.2.2 = 0 → 1 ≤ s.2.2.1.length
theorem New_eq {a b : Int} (a0 : 1 ≤ a) (a1 : a ≤ 4096) (b0 : 1 ≤ b) (b1 : b ≤ 4096) : ref02_New a b = some (⟨a / (Int.gcd a b : Int), b / (Int.gcd a b : Int)⟩, 0) := by
 unfold ref02_New
 rw [ref01_In_eq, ref01_In_eq, inB_true a0 a1, inB_true b0 b1]
 simp only [Option.bind, Bool.not_true, Bool.false_eq_true, if_false]
 rw [ref02_gcd_eq _ _ (by omega) (by omega)]
 have g0 : 0 < Int.gcd a b := Int.gcd_pos_of_ne_zero_left _ (by omega)
 simp only
 rw [quo_nn (by omega) (by omega) (by omega), quo_nn (by omega) (by omega) (by omega)]
theorem drecord_spec {d : Dice} (hd : DOK d) (s : SourceID) {n : Int} (n0 : 1 ≤ n) (n1 : n ≤ 1000) : ∃ r d', made_Dice_Record d s n = some (r, d') ∧ RG s n r ∧ DOK d' := by
 unfold made_Dice_Record
 obtain ⟨a, d1, e1, ha, hd1⟩ := pick_spec hd (l := [1, 2, 2, 3]) (by decide) (by decide)
 obtain ⟨b, d2, e2, hb, hd2⟩ := pick_spec hd1 (l := [1, 1, 1, 3]) (by decide) (by decide)
 obtain ⟨c, d3, e3, c0, c1, hd3⟩ := next_spec hd2 (n := 40) (by decide) (by decide)
 obtain ⟨fi, d4, e4, hfi, hd4⟩ := pick_spec hd3 (l := [0, 0, 3]) (by decide) (by decide)
 obtain ⟨er, d5, e5, her, hd5⟩ := pick_spec hd4 (l := [0, 0, 10, 500]) (by decide) (by decide)
 obtain ⟨ru, d6, e6, ru0, ru1, hd6⟩ := next_spec hd5 (n := 2) (by decide) (by decide)
 obtain ⟨sq, d7, e7, sq0, sq1, hd7⟩ := next_spec hd6 (n := 6) (by decide) (by decide)
 obtain ⟨m, d8, e8, m0, m1, hd8⟩ := next_spec hd7 (n := n) n0 (by omega)
 have ha' : a = 1 ∨ a = 2 ∨ a = 3 := by simp at ha; omega
 have hb' : b = 1 ∨ b = 3 := by simp at hb; omega
 have hfi' : fi = 0 ∨ fi = 3 := by simp at hfi; omega
 have her' : er = 0 ∨ er = 10 ∨ er = 500 := by simp at her; omega
 rw [e1]; simp only [Option.bind]
 rw [e2]; simp only
 rw [New_eq (by omega) (by omega) (by omega) (by omega)]; simp only
 rw [e3]; simp only
 rw [e4]; simp only
 rw [e5]; simp only
 rw [e6]; simp only
 rw [e7]; simp only
 rw [e8]; simp only
 rw [w64_id (x := 1 + m) (by omega) (by omega), w64_id (x := 250000 * c) (by omega) (by omega), w64_id (x := 1000000000000 + 250000 * c) (by omega) (by omega)]
 have hw := whileM_inv (body := made_Dice_Record_l1) (RI n) (fun s => s.2.2.2.toNat)
  (fun e => DOK ⟨e.1, e.2.1⟩ ∧ (∀ x ∈ e.2.2, 0 ≤ x ∧ x ≤ 3) ∧ 1 ≤ e.2.2.length ∧ (e.2.2.length : Int) ≤ n) (by
   intro s hs
   obtain ⟨dok, rng, i0, i1, ne⟩ := hs
   by_cases hi : 0 < s.2.2.2
   ·left
    obtain ⟨x, d', e, x0, x1, hd'⟩ := next_spec dok (n := 4) (by decide) (by decide)
    unfold made_Dice_Record_l1
    rw [if_pos (decide_eq_true hi), e]
    simp only [Option.bind]
    rw [appM_one _ _ _ (by simp; omega) (by decide), w64_id (by omega) (by omega)]
    refine ⟨_, rfl, ⟨hd', ?_, by simp only; omega, by simp; omega, fun _ => by simp⟩, by simp only; omega⟩
    intro y hy
    simp only [List.mem_append, List.mem_singleton] at hy
    rcases hy with hy | hy
    ·exact rng y hy
    ·omega
   ·right
    unfold made_Dice_Record_l1
    rw [if_neg (by simpa using hi)]
    exact ⟨_, rfl, dok, rng, ne (by omega), by simp only; omega⟩)
  (d8.L, d8.At, [], 1 + m) ⟨hd8, by simp, by simp only; omega, by simp; omega, fun h => by simp only at h; omega⟩
 obtain ⟨e, he, hde, hr, hl1, hl2⟩ := hw
 rw [he]
 have hrate : RV ⟨a / (Int.gcd a b : Int), b / (Int.gcd a b : Int)⟩ ∧ a / (Int.gcd a b : Int) ≤ 3 ∧ b / (Int.gcd a b : Int) ≤ 3 := by
  rcases ha' with rfl | rfl | rfl <;> rcases hb' with rfl | rfl <;> exact ⟨rateVB_iff.1 (by decide), by decide, by decide⟩
 exact ⟨_, _, rfl, ⟨rfl, by simp only; omega, by simp only; omega, by simp only; omega, by simp only; omega, hrate.1, hrate.2.1, hrate.2.2, by simp only; omega, by simp only; omega, ru0, by simp only; omega, sq0, by simp only; omega, hl1, hl2, hr⟩, hde⟩
end Go.Proofs.YtdcafiefjakfeaaGreat.Sh

/- The lists of records that the dice make (chapter 15). -/
namespace Go.Proofs.YtdcafiefjakfeaaGreat.Sh
open Go
set_option linter.unusedVariables false
set_option linter.unusedSimpArgs false
/-- what is known of the records of the dice's lists -/
structure RQ (s : SourceID) (n : Int) (r : Record) : Prop where
 src : r.Source = s
 s0 : 1000000000000 ≤ r.Start
 s1 : r.Start ≤ 1000009750000
 f0 : 0 ≤ r.First
 f1 : r.First ≤ 3
 rv : RV r.Rate
 n3 : r.Rate.Num ≤ 3
 d3 : r.Rate.Den ≤ 3
 e0 : 0 ≤ r.Error
 e1 : r.Error ≤ 500
 r0 : 0 ≤ r.Run
 r1 : r.Run ≤ 1
 q0 : 0 ≤ r.Seq
 q1 : r.Seq ≤ 9
 l0 : 1 ≤ r.Samples.length
 l1 : (r.Samples.length : Int) ≤ n
 smp : ∀ x ∈ r.Samples, 0 ≤ x ∧ x ≤ 3
theorem RG.rq {s : SourceID} {n : Int} {r : Record} (h : RG s n r) : RQ s n r := ⟨h.src, h.s0, h.s1, h.f0, h.f1, h.rv, h.n3, h.d3, h.e0, h.e1, h.r0, h.r1, h.q0, by have := h.q1; omega, h.l0, h.l1, h.smp⟩
theorem RQ.end_ {s : SourceID} {n : Int} {r : Record} (h : RQ s n r) (hn : n ≤ 1000) : 0 ≤ (r.First + r.Samples.length) * (r.Rate.Den * 1000000) / r.Rate.Num ∧ (r.First + r.Samples.length) * (r.Rate.Den * 1000000) / r.Rate.Num ≤ (3 + n) * 3000000 := by
 have l1 := h.l1; have l0 := h.l0; have f0 := h.f0; have f1 := h.f1; have d0 := h.rv.d0; have d3 := h.d3; have n0 := h.rv.n0
 have k1 : (r.First + r.Samples.length) * (r.Rate.Den * 1000000) ≤ (3 + n) * 3000000 := Int.mul_le_mul (by omega) (by omega) (by omega) (by omega)
 have k0 : 0 ≤ (r.First + r.Samples.length) * (r.Rate.Den * 1000000) := Int.mul_nonneg (by omega) (by omega)
 have k2 := Int.ediv_le_self r.Rate.Num k0
 exact ⟨Int.ediv_nonneg k0 (by omega), by omega⟩
theorem RQ.rf {s : SourceID} {n : Int} {r : Record} (h : RQ s n r) (hs : srcB s = true) (hn : n ≤ 1000) : RF r := by
 have l1 := h.l1; have l0 := h.l0; have f0 := h.f0; have f1 := h.f1; have s1 := h.s1; have s0 := h.s0
 have e1 := h.e1; have r1 := h.r1; have q1 := h.q1
 have k := h.end_ hn
 exact ⟨by rw [h.src]; exact hs, l0, by omega, f0, by omega, h.e0, by omega, h.r0, by omega, h.q0, by omega, h.rv, by omega, by omega, by omega, smpB_iff.2 fun x hx => by have := h.smp x hx; omega⟩
theorem drecords_spec {d : Dice} (hd : DOK d) {n : Int} (n0 : 0 ≤ n) (n1 : n ≤ 50) : ∃ l d' s, made_Dice_Records d n = some (l, d') ∧ srcB s = true ∧ (∀ r ∈ l, RQ s 6 r) ∧ (l.length : Int) ≤ n ∧ DOK d' := by
 unfold made_Dice_Records
 obtain ⟨s, d1, e1, hs, hd1⟩ := dsource_spec hd
 obtain ⟨k, d2, e2, k0, k1, hd2⟩ := next_spec hd1 (n := n + 1) (by omega) (by omega)
 rw [e1]; simp only [Option.bind_some]
 rw [w64_id (by omega) (by omega), e2]
 simp only [Option.bind_some]
 obtain ⟨e, he, hde, hl, hn⟩ := loop_ex (b1 := made_Dice_Records_l1 (s, d1))
  (fun m st => DOK ⟨st.1, st.2.1⟩ ∧ (∀ r ∈ st.2.2.1, RQ s 6 r) ∧ 0 ≤ st.2.2.2 ∧ st.2.2.2 + st.2.2.1.length ≤ n ∧ m = st.2.2.2.toNat)
  (fun e => DOK ⟨e.1, e.2.1⟩ ∧ (∀ r ∈ e.2.2, RQ s 6 r) ∧ (e.2.2.length : Int) ≤ n) (by
   rintro m ⟨L, At, out, i⟩ ⟨dok, hr, i0, i1, hm⟩
   simp only at dok hr i0 i1 hm
   by_cases hi : 0 < i
   ·left
    have j1 : ∀ (L' : List Int) (At' : Int) (r : Record), DOK ⟨L', At'⟩ → RQ s 6 r → ∃ st' n', made_Dice_Records_j1 (L, At, out, i) L' At' r.Source.Network r.Source.Station r.Source.Location r.Source.Channel r.Start r.First r.Rate.Num r.Rate.Den r.Error r.Run r.Seq r.Samples = some (.inl st') ∧ (DOK ⟨st'.1, st'.2.1⟩ ∧ (∀ r ∈ st'.2.2.1, RQ s 6 r) ∧ 0 ≤ st'.2.2.2 ∧ st'.2.2.2 + st'.2.2.1.length ≤ n ∧ n' = st'.2.2.2.toNat) ∧ n' < m := by
     intro L' At' r hd' hq
     unfold made_Dice_Records_j1
     simp only
     rw [appM_one _ _ _ (by simp; omega) (by decide), w64_id (x := i - 1) (by omega) (by omega)]
     refine ⟨_, (i - 1).toNat, rfl, ⟨hd', fun q hq' => ?_, by simp only; omega, by simp; omega, rfl⟩, by omega⟩
     rcases List.mem_append.1 hq' with hq' | hq'
     ·exact hr q hq'
     ·rcases List.mem_singleton.1 hq' with rfl; exact hq
    obtain ⟨r, d3, e3, hrg, hd3⟩ := drecord_spec dok s (n := 6) (by decide) (by decide)
    unfold made_Dice_Records_l1
    simp only
    rw [if_pos (decide_eq_true hi), e3]
    simp only [Option.bind_some]
    by_cases hol : 0 < out.length
    ·obtain ⟨z, d4, e4, z0, z1, hd4⟩ := next_spec hd3 (n := 5) (by decide) (by decide)
     rw [if_pos (decide_eq_true (by omega)), e4]
     simp only [Option.bind_some]
     by_cases hz : (z == 0) = true
     ·rw [if_pos hz]
      obtain ⟨x, d5, y, e5, g5, m5, hd5⟩ := pickl_spec (d := ⟨d4.L, d4.At⟩) hd4 out (out.length : Int) rfl (by omega) (by omega)
      have hy := hr y m5
      rw [e5]
      simp only [Option.bind_some]
      rw [g5]
      simp only [Option.bind_some]
      obtain ⟨q, d6, e6, mq, hd6⟩ := pick_spec hd5 (l := [y.Seq, 9]) (by simp) (by simp)
      rw [e6]
      simp only [Option.bind_some]
      have hq : 0 ≤ q ∧ q ≤ 9 := by
       have a1 := hy.q0; have a2 := hy.q1
       simp only [List.mem_cons, List.not_mem_nil, or_false] at mq
       omega
      exact j1 d6.L d6.At ⟨y.Source, y.Start, y.First, y.Rate, y.Error, y.Run, q, y.Samples⟩ hd6 ⟨hy.src, hy.s0, hy.s1, hy.f0, hy.f1, hy.rv, hy.n3, hy.d3, hy.e0, hy.e1, hy.r0, hy.r1, hq.1, hq.2, hy.l0, hy.l1, hy.smp⟩
     ·rw [if_neg hz]
      exact j1 d4.L d4.At r hd4 hrg.rq
    ·rw [if_neg (by simpa using hol)]
     simp only [Option.bind_some, Bool.false_eq_true, if_false]
     exact j1 d3.L d3.At r hd3 hrg.rq
   ·right
    unfold made_Dice_Records_l1
    simp only
    rw [if_neg (by simpa using hi)]
    exact ⟨_, rfl, dok, hr, by simp only; omega⟩) k.toNat (d2.L, d2.At, [], k) ⟨hd2, by simp, k0, by simp; omega, rfl⟩
 rw [he]
 exact ⟨_, _, s, rfl, hs, hl, hn, hde⟩
end Go.Proofs.YtdcafiefjakfeaaGreat.Sh

/- The law ContinuitySame as a plain program: it is true at every input. -/
namespace Go.Proofs.YtdcafiefjakfeaaGreat.Sh
open Go
set_option linter.unusedVariables false
set_option linter.unusedSimpArgs false
theorem vs_of {l : List Record} {s : SourceID} (hs : srcB s = true) (hq : ∀ r ∈ l, RQ s 6 r) (hl : l.length ≤ 50) : VS15 l :=
 ⟨⟨fun r hr => (hq r hr).rf hs (by decide), fun r hr q hq' => (hq r hr).src.trans (hq q hq').src.symm⟩, by omega, fun r hr => by have := (hq r hr).l1; omega⟩
/-- one more sample that covers the time -/
def oneHit (a : Int × Int × Int × Bool) (p : Int × Int) : Int × Int × Int × Bool :=
 if a.2.2.1 = 0 then (p.1, p.2, a.2.2.1 + 1, a.2.2.2 && decide (p = p)) else (a.1, a.2.1, a.2.2.1 + 1, a.2.2.2 && decide (p = (a.1, a.2.1)))
theorem same_inner {r : Record} (h : RF r) (at_ : Int) (a : Int × Int × Int × Bool) (a0 : 0 ≤ a.2.2.1) (a1 : a.2.2.1 ≤ 1000) :
  whileM (law16_ContinuitySame_l129 at_ r) (a.1, a.2.1, a.2.2.1, a.2.2.2, 0) = some (match hitR r at_ with | some p => oneHit a p | none => a) := by
 have l1 := h.l1
 suffices hs : ∃ o, whileM (law16_ContinuitySame_l129 at_ r) (a.1, a.2.1, a.2.2.1, a.2.2.2, 0) = some o ∧ o = (match hitR r at_ with | some p => oneHit a p | none => a) by
  obtain ⟨o, e1, e2⟩ := hs
  rw [e1, e2]
 refine loop_fold (body := law16_ContinuitySame_l129 at_ r) (fun (a : Int × Int × Int × Bool) i => (a.1, a.2.1, a.2.2.1, a.2.2.2, i)) r.Samples.length
  (fun j b => b = (match idxR r at_ with | some i => if i < j then oneHit a (timeR r (i : Int), r.Samples.getD i 0) else a | none => a)) _ (fun j hj b hb => ?_) (fun b hb => ?_) a ?_
 ·have hg : r.Samples.getD j 0 = r.Samples[j] := by simp [List.getD_eq_getElem?_getD, hj]
  unfold law16_ContinuitySame_l129 law16_ContinuitySame_j2 law16_ContinuitySame_j1
  simp only
  rw [if_pos (decide_eq_true (by omega)), w64_n (n := j) (by omega), h.refAt (by omega) (by omega), h.refAt (i := ((j + 1 : Nat) : Int)) (by omega) (by omega), show ((j + 1 : Nat) : Int) = (j : Int) + 1 by omega, ix_nat _ _ hj]
  simp only [Option.bind_some]
  by_cases hc : timeR r (j : Int) ≤ at_ ∧ at_ < timeR r ((j : Int) + 1)
  ·have hidx := idxR_of h hj hc.1 hc.2
   rw [hidx] at hb ⊢
   simp only [Nat.lt_irrefl, if_false] at hb
   subst hb
   rw [if_neg (by simp; omega), w64_id (x := b.2.2.1 + 1) (by omega) (by omega)]
   refine ⟨oneHit b (timeR r (j : Int), r.Samples[j]), ?_, ?_⟩
   ·unfold oneHit
    by_cases hz : b.2.2.1 = 0
    ·rw [if_pos (by simp [hz]), if_pos hz]
     simp
    ·rw [if_neg (by simpa using hz), if_neg hz]
     simp only [Option.bind_some, Prod.mk.injEq, Bool.and_true]
     congr 6
     rw [Bool.eq_iff_iff]
     simp
   ·simp only
    rw [if_pos (by omega), hg]
  ·rw [if_pos (by simp; omega)]
   refine ⟨b, rfl, ?_⟩
   rw [hb]
   cases hi : idxR r at_ with
   | none => rfl
   | some i =>
    obtain ⟨i0, i1, i2⟩ := idxR_some hi
    have hne : i ≠ j := fun e => by subst e; exact hc ⟨i1, i2⟩
    simp only
    by_cases h1 : i < j
    ·rw [if_pos h1, if_pos (by omega)]
    ·rw [if_neg h1, if_neg (by omega)]
 ·unfold law16_ContinuitySame_l129
  simp only
  rw [if_neg (by simp)]
  refine ⟨_, rfl, ?_⟩
  rw [show (b.1, b.2.1, b.2.2.1, b.2.2.2) = b from rfl, hb]
  unfold hitR
  cases hi : idxR r at_ with
  | none => rfl
  | some i =>
   have := (idxR_some hi).1
   simp only [Option.map_some]
   rw [if_pos this]
 ·cases hi : idxR r at_ with
  | none => rfl
  | some i =>
   simp only
   rw [if_neg (by omega)]
theorem same_outer {A : List Record} (hr : ∀ r ∈ A, RF r) (hl : A.length ≤ 100) (at_ : Int) : whileM (law16_ContinuitySame_l126 (A, 0) at_) (0, 0, 0, true, 0) = some (((hits A at_).length : Int), allEq (hits A at_)) := by
 suffices hs : ∃ o, whileM (law16_ContinuitySame_l126 (A, 0) at_) (0, 0, 0, true, 0) = some o ∧ o = (((hits A at_).length : Int), allEq (hits A at_)) by
  obtain ⟨o, e1, e2⟩ := hs
  rw [e1, e2]
 refine loop_fold (body := law16_ContinuitySame_l126 (A, 0) at_) (fun (a : Int × Int × Int × Bool) i => (a.1, a.2.1, a.2.2.1, a.2.2.2, i)) A.length
  (fun i a => a.2.2.1 = ((hits (A.take i) at_).length : Int) ∧ a.2.2.2 = allEq (hits (A.take i) at_) ∧ ∀ p H, hits (A.take i) at_ = p :: H → (a.1, a.2.1) = p) _ (fun i hi a ⟨h1, h2, h3⟩ => ?_) (fun a ⟨h1, h2, h3⟩ => ?_) (0, 0, 0, true) ⟨by simp [hits], by simp [hits, allEq], by simp [hits]⟩
 ·have hlen := hits_len (A.take i) at_
  rw [List.length_take] at hlen
  unfold law16_ContinuitySame_l126
  simp only
  rw [if_pos (decide_eq_true (by omega)), ix_nat _ _ hi]
  simp only [Option.bind_some]
  rw [same_inner (hr _ (List.getElem_mem hi)) at_ a (by omega) (by omega), hits_take hi]
  simp only [Option.bind_some]
  rw [w64_n (n := i) (by omega)]
  refine ⟨_, rfl, ?_⟩
  cases hh : hitR A[i] at_ with
  | none => simp only [List.append_nil]; exact ⟨h1, h2, h3⟩
  | some p =>
   simp only
   unfold oneHit
   cases hH : hits (A.take i) at_ with
   | nil =>
    rw [hH] at h1 h2
    rw [if_pos (by rw [h1]; rfl)]
    refine ⟨by simp [h1], by simp [h2, allEq], fun q Q hq => ?_⟩
    simp only [List.nil_append, List.cons.injEq] at hq
    exact hq.1
   | cons q Q =>
    rw [hH] at h1 h2
    have h4 := h3 q Q hH
    rw [if_neg (by rw [h1]; simp; omega)]
    refine ⟨by simp [h1], ?_, fun u U hu => ?_⟩
    ·simp only
     rw [h2, h4, allEq_snoc]
     rfl
    ·simp only [List.cons_append, List.cons.injEq] at hu
     rw [← hu.1]; exact h4
 ·unfold law16_ContinuitySame_l126
  simp only
  rw [if_neg (by simp)]
  rw [List.take_length] at h1 h2
  exact ⟨_, rfl, by rw [h1, h2]⟩
theorem law16_ContinuitySame_true (t : List Int) (n : Int) (_ : (t.length : Int) ≤ 140737488355328 ∧ ∀ x ∈ t, -9223372036854775808 ≤ x ∧ x ≤ 9223372036854775807) (hn : 0 ≤ n ∧ n ≤ 65535) : law16_ContinuitySame t n = some true := by
 unfold law16_ContinuitySame
 rw [light_spec]
 simp only [Option.bind_some]
 by_cases hl : t.length ≤ 500
 case neg => rw [decide_eq_false hl, sane16]; rfl
 rw [decide_eq_true hl]
 simp only [Bool.not_true, Bool.false_eq_true, if_false, made_Roll, Option.bind_some]
 obtain ⟨l, d1, s, e1, hs, hq, hln, hd1⟩ := drecords_spec (DOK.roll hl) (n := 6) (by decide) (by decide)
 rw [e1]; simp only [Option.bind_some]
 have hv : VS15 l := vs_of hs hq (by omega)
 have h6 : ∀ r ∈ l, r.Samples.length ≤ 6 := fun r hr => by have := (hq r hr).l1; omega
 obtain ⟨o, eo, ho, hol⟩ := overlaps_ok hv (fun r hr => by have := h6 r hr; omega) (by omega) (f := 0) (t := 9007199254740992) (by decide) (by decide) (by decide)
 rw [eo]
 simp only [Option.bind_some, bne_self_eq_false, Bool.false_eq_true, if_false]
 rw [rOrder_ok hv]
 simp only [Option.bind_some]
 obtain ⟨A, hA⟩ : ∃ A, sset cmpR l = A := ⟨_, rfl⟩
 have hAl : A.length ≤ l.length := by rw [← hA]; exact sset_len _ _
 have hAr : ∀ r ∈ A, RF r := fun r hr => hv.rf r (mem_ss.1 (hA ▸ hr))
 rw [hA] at ho ⊢
 refine whileM_for' (fun i => (i : Int)) o.length _ rfl (fun i hi => ?_) ?_
 ·have hom := List.getElem_mem hi
  obtain ⟨x, hx⟩ : ∃ x, o[i] = x := ⟨_, rfl⟩
  rw [hx] at hom
  have hne := ho.ne x hom
  have b0 := (ho.mem x.From x.Same).1 ⟨x, hom, Int.le_refl _, hne, rfl⟩
  have b1 := ho.top x hom
  unfold law16_ContinuitySame_l67
  simp only
  rw [if_pos (decide_eq_true (by omega)), ix_nat _ _ hi, hx]
  simp only [Option.bind_some]
  rw [w64_id (x := n) (by omega) (by omega), w64_id (x := n * 100) (by omega) (by omega), w64_id (x := x.To - x.From) (by omega) (by omega), rem_nn (by omega) (by omega)]
  simp only [Option.bind_some]
  obtain ⟨m, hm⟩ : ∃ m, n * 100 % (x.To - x.From) = m := ⟨_, rfl⟩
  have m0 : 0 ≤ m := by rw [← hm]; exact Int.emod_nonneg _ (by omega)
  have m1 : m < x.To - x.From := by rw [← hm]; exact Int.emod_lt_of_pos _ (by omega)
  rw [hm]
  have hstep : ∀ at_ : Int, x.From ≤ at_ → at_ < x.To → ∀ (k : Nat) (L : List Int), (hk : k < L.length) → L[k] = at_ → L = [x.From, w64 (x.To - 1), w64 (x.From + m)] → law16_ContinuitySame_l115 (l, d1) (A, 0) (i : Int) x m (k : Int) = some (.inl ((k + 1 : Nat) : Int)) := by
   intro at_ a0 a1 k L hk hat hL
   obtain ⟨_, _, g3, g4⟩ := (ho.mem at_ x.Same).1 ⟨x, hom, a0, a1, rfl⟩
   unfold law16_ContinuitySame_l115
   rw [← hL, if_pos (decide_eq_true (by omega)), ix_nat _ _ hk, hat]
   simp only [Option.bind_some]
   rw [same_outer hAr (by omega)]
   simp only [Option.bind_some]
   rw [g4, depth_ok hv, hA]
   rw [if_neg (by simp; omega)]
   simp only [Option.bind_some, bne_self_eq_false, Bool.false_eq_true, if_false]
   have : L.length = 3 := by rw [hL]; rfl
   rw [w64_n (by omega)]
  have e1 : w64 (x.To - 1) = x.To - 1 := w64_id (by omega) (by omega)
  have e2 : w64 (x.From + m) = x.From + m := w64_id (by omega) (by omega)
  have s0 := hstep x.From (by omega) (by omega) 0 [x.From, w64 (x.To - 1), w64 (x.From + m)] (by simp) rfl rfl
  have s1 := hstep (x.To - 1) (by omega) (by omega) 1 [x.From, w64 (x.To - 1), w64 (x.From + m)] (by simp) (by simp [e1]) rfl
  have s2 := hstep (x.From + m) (by omega) (by omega) 2 [x.From, w64 (x.To - 1), w64 (x.From + m)] (by simp) (by simp [e2]) rfl
  refine whileM_for' (fun k => (k : Int)) 3 _ rfl (fun k hk => ?_) ?_
  ·rcases k with _ | _ | _ | k
   ·exact s0
   ·exact s1
   ·exact s2
   ·omega
  ·unfold law16_ContinuitySame_l115
   rw [if_neg (by simp)]
   simp only [Option.map_some]
   rw [w64_n (n := i) (by omega)]
 ·unfold law16_ContinuitySame_l67
  simp only
  rw [if_neg (by simp), sane16]
  rfl
end Go.Proofs.YtdcafiefjakfeaaGreat.Sh

/- The plain law: what the plain programs compute, put together in one text. -/
import Derived.Test.YthdimlepjpnncaaGreatSh
import Derived.Test.YthdimlepjpnncaaGreatLc1
import Derived.Laws.Strings
/- Sets of spans: what belongs to a list, valid lists, and that a valid list is known by what belongs to it (chapter 8). No program's steps here, but for loops in general. -/
namespace Go.Proofs.YthdimlepjpnncaaGreat.Sh
open Go
set_option linter.unusedVariables false
set_option linter.unusedSimpArgs false
/-- a loop over places 0, 1, .. : what holds at each place -/
theorem loop_fold {σ S β : Type} (st : σ → Int → S) {body : S → Option (S ⊕ β)} (n : Nat) (I : Nat → σ → Prop) (Q : β → Prop)
  (hstep : ∀ i, i < n → ∀ a, I i a → ∃ a', body (st a (i : Int)) = some (.inl (st a' ((i + 1 : Nat) : Int))) ∧ I (i + 1) a')
  (hend : ∀ a, I n a → ∃ r, body (st a (n : Int)) = some (.inr r) ∧ Q r) (a0 : σ) (h0 : I 0 a0) : ∃ r, whileM body (st a0 0) = some r ∧ Q r :=
 loop_ex (fun k s => ∃ (i : Nat) (a : σ), s = st a (i : Int) ∧ k + i = n ∧ I i a) Q (fun k s ⟨i, a, hs, hk, hI⟩ => by
  subst hs
  by_cases hi : i < n
  ·obtain ⟨a', e, h'⟩ := hstep i hi a hI
   exact .inl ⟨_, k - 1, e, ⟨i + 1, a', rfl, by omega, h'⟩, by omega⟩
  ·have hin : i = n := by omega
   subst hin
   exact .inr (hend a hI)) n (st a0 0) ⟨0, a0, rfl, by omega, h0⟩
/-- .. that may end ahead of its end -/
theorem loop_foldE {σ S β : Type} (st : σ → Int → S) {body : S → Option (S ⊕ β)} (n : Nat) (I : Nat → σ → Prop) (Q : β → Prop)
  (hstep : ∀ i, i < n → ∀ a, I i a → (∃ a', body (st a (i : Int)) = some (.inl (st a' ((i + 1 : Nat) : Int))) ∧ I (i + 1) a') ∨ ∃ r, body (st a (i : Int)) = some (.inr r) ∧ Q r)
  (hend : ∀ a, I n a → ∃ r, body (st a (n : Int)) = some (.inr r) ∧ Q r) (a0 : σ) (h0 : I 0 a0) : ∃ r, whileM body (st a0 0) = some r ∧ Q r :=
 loop_ex (fun k s => ∃ (i : Nat) (a : σ), s = st a (i : Int) ∧ k + i = n ∧ I i a) Q (fun k s ⟨i, a, hs, hk, hI⟩ => by
  subst hs
  by_cases hi : i < n
  ·rcases hstep i hi a hI with ⟨a', e, h'⟩ | h
   ·exact .inl ⟨_, k - 1, e, ⟨i + 1, a', rfl, by omega, h'⟩, by omega⟩
   ·exact .inr h
  ·have hin : i = n := by omega
   subst hin
   exact .inr (hend a hI)) n (st a0 0) ⟨0, a0, rfl, by omega, h0⟩
theorem w64_n {n : Nat} (h : n ≤ 1000000000000) : w64 ((n : Int) + 1) = ((n + 1 : Nat) : Int) := by rw [w64_id (by omega) (by omega)]; rfl
/-- a number belongs to a list -/
def Mem (l : List Span) (x : Int) : Prop := ∃ s ∈ l, s.From ≤ x ∧ x < s.To
theorem Mem.nil {x : Int} : ¬ Mem [] x := fun ⟨s, h, _⟩ => by cases h
theorem mem_append {a b : List Span} {x : Int} : Mem (a ++ b) x ↔ Mem a x ∨ Mem b x := by
 constructor
 ·rintro ⟨s, hs, h⟩
  rcases List.mem_append.1 hs with hs | hs
  ·exact .inl ⟨s, hs, h⟩
  ·exact .inr ⟨s, hs, h⟩
 ·rintro (⟨s, hs, h⟩ | ⟨s, hs, h⟩)
  ·exact ⟨s, List.mem_append.2 (.inl hs), h⟩
  ·exact ⟨s, List.mem_append.2 (.inr hs), h⟩
theorem mem_one {s : Span} {x : Int} : Mem [s] x ↔ s.From ≤ x ∧ x < s.To := by
 constructor
 ·rintro ⟨t, ht, h⟩
  rcases List.mem_singleton.1 ht with rfl
  exact h
 ·exact fun h => ⟨s, by simp, h⟩
theorem mem_cons {s : Span} {l : List Span} {x : Int} : Mem (s :: l) x ↔ (s.From ≤ x ∧ x < s.To) ∨ Mem l x := by
 have := mem_append (a := [s]) (b := l) (x := x)
 rw [mem_one] at this
 exact this
theorem mem_perm {a b : List Span} (h : a.Perm b) {x : Int} : Mem a x ↔ Mem b x :=
 ⟨fun ⟨s, hs, q⟩ => ⟨s, h.mem_iff.1 hs, q⟩, fun ⟨s, hs, q⟩ => ⟨s, h.mem_iff.2 hs, q⟩⟩
theorem mem_filter {l : List Span} {x : Int} : Mem (l.filter (fun s => decide (s.From < s.To))) x ↔ Mem l x := by
 constructor
 ·rintro ⟨s, hs, q⟩
  exact ⟨s, (List.mem_filter.1 hs).1, q⟩
 ·rintro ⟨s, hs, q⟩
  exact ⟨s, List.mem_filter.2 ⟨hs, decide_eq_true (by omega)⟩, q⟩
/-- a valid list -/
structure VS (l : List Span) : Prop where
 ne : ∀ s ∈ l, s.From < s.To
 ap : l.Pairwise (fun s t => s.To < t.From)
theorem VS.nil : VS [] := ⟨fun s h => (by cases h), List.Pairwise.nil⟩
theorem VS.snoc {l : List Span} {t : Span} (h : VS l) (ht : t.From < t.To) (hl : ∀ s ∈ l, s.To < t.From) : VS (l ++ [t]) := by
 refine ⟨fun s hs => ?_, List.pairwise_append.2 ⟨h.ap, List.pairwise_singleton _ _, fun s hs u hu => ?_⟩⟩
 ·rcases List.mem_append.1 hs with hs | hs
  ·exact h.ne s hs
  ·rcases List.mem_singleton.1 hs with rfl; exact ht
 ·rcases List.mem_singleton.1 hu with rfl; exact hl s hs
theorem VS.init {l : List Span} {t : Span} (h : VS (l ++ [t])) : VS l ∧ t.From < t.To ∧ ∀ s ∈ l, s.To < t.From := by
 have h2 := List.pairwise_append.1 h.ap
 exact ⟨⟨fun s hs => h.ne s (List.mem_append.2 (.inl hs)), h2.1⟩, h.ne t (by simp), fun s hs => h2.2.2 s hs t (by simp)⟩
theorem VS.tail {l : List Span} {t : Span} (h : VS (t :: l)) : VS l ∧ t.From < t.To ∧ ∀ s ∈ l, t.To < s.From :=
 ⟨⟨fun s hs => h.ne s (List.mem_cons_of_mem _ hs), (List.pairwise_cons.1 h.ap).2⟩, h.ne t (by simp), (List.pairwise_cons.1 h.ap).1⟩
theorem VS.low {l : List Span} {t : Span} (h : VS (t :: l)) {x : Int} (hx : Mem (t :: l) x) : t.From ≤ x := by
 obtain ⟨h1, h2, h3⟩ := h.tail
 obtain ⟨u, hu, q⟩ := hx
 rcases List.mem_cons.1 hu with rfl | hu
 ·exact q.1
 ·have := h3 u hu; omega
/-- a valid list is known by what belongs to it -/
theorem VS.uniq : ∀ {a b : List Span}, VS a → VS b → (∀ x, Mem a x ↔ Mem b x) → a = b
 | [], [], _, _, _ => rfl
 | [], t :: b, _, hb, h => absurd ((h t.From).2 ⟨t, by simp, Int.le_refl _, hb.tail.2.1⟩) Mem.nil
 | s :: a, [], ha, _, h => absurd ((h s.From).1 ⟨s, by simp, Int.le_refl _, ha.tail.2.1⟩) Mem.nil
 | s :: a, t :: b, ha, hb, h => by
  obtain ⟨a1, a2, a3⟩ := ha.tail
  obtain ⟨b1, b2, b3⟩ := hb.tail
  have f1 : t.From ≤ s.From := hb.low ((h s.From).1 ⟨s, by simp, Int.le_refl _, a2⟩)
  have f2 : s.From ≤ t.From := ha.low ((h t.From).2 ⟨t, by simp, Int.le_refl _, b2⟩)
  have hto : s.To = t.To := by
   rcases Int.lt_trichotomy s.To t.To with hlt | heq | hlt
   ·obtain ⟨u, hu, q⟩ := (h s.To).2 ⟨t, by simp, by omega, hlt⟩
    rcases List.mem_cons.1 hu with rfl | hu
    ·omega
    ·have := a3 u hu; omega
   ·exact heq
   ·obtain ⟨u, hu, q⟩ := (h t.To).1 ⟨s, by simp, by omega, hlt⟩
    rcases List.mem_cons.1 hu with rfl | hu
    ·omega
    ·have := b3 u hu; omega
  have hst : s = t := by
   obtain ⟨x, y⟩ := s
   obtain ⟨z, w⟩ := t
   simp only at f1 f2 hto
   rw [hto, show x = z by omega]
  subst hst
  have ih := VS.uniq a1 b1 (fun x => by
   constructor
   ·intro hx
    obtain ⟨u, hu, q⟩ := hx
    have hu2 := a3 u hu
    rcases mem_cons.1 ((h x).1 (mem_cons.2 (.inr ⟨u, hu, q⟩))) with q2 | q2
    ·omega
    ·exact q2
   ·intro hx
    obtain ⟨u, hu, q⟩ := hx
    have hu2 := b3 u hu
    rcases mem_cons.1 ((h x).2 (mem_cons.2 (.inr ⟨u, hu, q⟩))) with q2 | q2
    ·omega
    ·exact q2)
  rw [ih]
/-- one more span behind those that begin no later -/
def mstep (out : List Span) (x : Span) : List Span :=
 match out.getLast? with
 | none => out ++ [x]
 | some t => if x.From ≤ t.To then out.dropLast ++ [⟨t.From, max t.To x.To⟩] else out ++ [x]
theorem mstep_nil (x : Span) : mstep [] x = [x] := rfl
theorem mstep_snoc (o : List Span) (t x : Span) : mstep (o ++ [t]) x = if x.From ≤ t.To then o ++ [⟨t.From, max t.To x.To⟩] else o ++ [t] ++ [x] := by
 unfold mstep
 simp
theorem mstep_ok {out : List Span} {x : Span} (hv : VS out) (hx : x.From < x.To) (ho : ∀ t ∈ out, t.From ≤ x.From) : VS (mstep out x) ∧ (∀ y, Mem (mstep out x) y ↔ Mem out y ∨ (x.From ≤ y ∧ y < x.To)) ∧ (mstep out x).length ≤ out.length + 1 ∧
  (∀ s ∈ mstep out x, s.From ≤ x.From) ∧ (∀ s ∈ mstep out x, (s.From = x.From ∨ ∃ t ∈ out, s.From = t.From) ∧ (s.To = x.To ∨ ∃ t ∈ out, s.To = t.To)) := by
 rcases List.eq_nil_or_concat out with rfl | ⟨o, t, rfl⟩
 ·rw [mstep_nil]
  refine ⟨VS.nil.snoc (t := x) hx (fun s h => (by cases h)), fun y => ?_, by simp, fun s hs => ?_, fun s hs => ?_⟩
  ·rw [mem_one]
   exact ⟨fun h => .inr h, fun h => h.elim (fun h => absurd h Mem.nil) id⟩
  ·rcases List.mem_singleton.1 hs with rfl; exact Int.le_refl _
  ·rcases List.mem_singleton.1 hs with rfl; exact ⟨.inl rfl, .inl rfl⟩
 ·rw [List.concat_eq_append] at *
  obtain ⟨v1, v2, v3⟩ := hv.init
  have ht := ho t (by simp)
  rw [mstep_snoc]
  by_cases hc : x.From ≤ t.To
  ·rw [if_pos hc]
   refine ⟨v1.snoc (t := ⟨t.From, max t.To x.To⟩) (by simp only; omega) v3, fun y => ?_, by simp, fun s hs => ?_, fun s hs => ?_⟩
   ·rw [mem_append, mem_append, mem_one, mem_one]
    simp only
    constructor
    ·rintro (h | h)
     ·exact .inl (.inl h)
     ·by_cases hy : y < t.To
      ·exact .inl (.inr ⟨h.1, hy⟩)
      ·exact .inr ⟨by omega, by omega⟩
    ·rintro ((h | h) | h)
     ·exact .inl h
     ·exact .inr ⟨h.1, by omega⟩
     ·exact .inr ⟨by omega, by omega⟩
   ·rcases List.mem_append.1 hs with hs | hs
    ·exact ho s (List.mem_append.2 (.inl hs))
    ·rcases List.mem_singleton.1 hs with rfl; exact ht
   ·rcases List.mem_append.1 hs with hs | hs
    ·exact ⟨.inr ⟨s, List.mem_append.2 (.inl hs), rfl⟩, .inr ⟨s, List.mem_append.2 (.inl hs), rfl⟩⟩
    ·rcases List.mem_singleton.1 hs with rfl
     refine ⟨.inr ⟨t, by simp, rfl⟩, ?_⟩
     simp only
     by_cases hm : t.To ≤ x.To
     ·exact .inl (by omega)
     ·exact .inr ⟨t, by simp, by omega⟩
  ·rw [if_neg hc]
   refine ⟨hv.snoc hx (fun s hs => ?_), fun y => ?_, by simp, fun s hs => ?_, fun s hs => ?_⟩
   ·rcases List.mem_append.1 hs with hs | hs
    ·have := v3 s hs; omega
    ·rcases List.mem_singleton.1 hs with rfl; omega
   ·rw [mem_append, mem_one]
   ·rcases List.mem_append.1 hs with hs | hs
    ·exact ho s hs
    ·rcases List.mem_singleton.1 hs with rfl; exact Int.le_refl _
   ·rcases List.mem_append.1 hs with hs | hs
    ·exact ⟨.inr ⟨s, hs, rfl⟩, .inr ⟨s, hs, rfl⟩⟩
    ·rcases List.mem_singleton.1 hs with rfl; exact ⟨.inl rfl, .inl rfl⟩
theorem ix_last {α : Type} (o : List α) (t : α) : ix (o ++ [t]) (o.length : Int) = some t := by
 rw [ix_nat _ _ (by simp)]
 simp
theorem setM_last {α : Type} (o : List α) (t t' : α) : setM (o ++ [t]) (o.length : Int) t' = some (o ++ [t']) := by
 rw [setM_at _ _ _ (by omega) (by simp; omega)]
 simp
/-- what is kept of a sorted list of spans, merged -/
structure MI (srt : List Span) (i : Nat) (out : List Span) : Prop where
 vs : VS out
 mem : ∀ y, Mem out y ↔ Mem (srt.take i) y
 ord : ∀ t ∈ out, ∀ u ∈ srt.drop i, t.From ≤ u.From
 len : out.length ≤ i
 ends : ∀ s ∈ out, (∃ t ∈ srt, s.From = t.From) ∧ (∃ t ∈ srt, s.To = t.To)
theorem MI.zero {srt : List Span} : MI srt 0 [] := ⟨VS.nil, fun y => by simp, fun t h => (by cases h), Nat.le_refl _, fun s h => (by cases h)⟩
theorem MI.step {srt out : List Span} {i : Nat} (hi : i < srt.length) (h : MI srt i out) (hne : ∀ s ∈ srt, s.From < s.To) (hs : srt.Pairwise (fun s t => s.From ≤ t.From)) : MI srt (i + 1) (mstep out srt[i]) := by
 have hx := hne _ (List.getElem_mem hi)
 have hd : srt.drop i = srt[i] :: srt.drop (i + 1) := List.drop_eq_getElem_cons hi
 obtain ⟨h1, h2, h3, h4, h5⟩ := mstep_ok (x := srt[i]) h.vs hx (fun t ht => h.ord t ht _ (by rw [hd]; exact List.mem_cons_self))
 have hp := hs.sublist (List.drop_sublist i srt)
 rw [hd] at hp
 have hp1 := (List.pairwise_cons.1 hp).1
 refine ⟨h1, fun y => ?_, fun t ht u hu => ?_, by have := h.len; omega, fun s hs' => ?_⟩
 ·rw [h2, h.mem, take_one hi, mem_append, mem_one]
 ·have := h4 t ht
  have := hp1 u hu
  omega
 ·obtain ⟨q1, q2⟩ := h5 s hs'
  refine ⟨?_, ?_⟩
  ·rcases q1 with q | ⟨t, ht, q⟩
   ·exact ⟨_, List.getElem_mem hi, q⟩
   ·obtain ⟨u, hu, e⟩ := (h.ends t ht).1
    exact ⟨u, hu, q.trans e⟩
  ·rcases q2 with q | ⟨t, ht, q⟩
   ·exact ⟨_, List.getElem_mem hi, q⟩
   ·obtain ⟨u, hu, e⟩ := (h.ends t ht).2
    exact ⟨u, hu, q.trans e⟩
end Go.Proofs.YthdimlepjpnncaaGreat.Sh

/- The valid list of a list of spans, as the code makes it and as the reference makes it (chapter 8). -/
namespace Go.Proofs.YthdimlepjpnncaaGreat.Sh
open Go
set_option linter.unusedVariables false
set_option linter.unusedSimpArgs false
theorem sclone (s : List Span) (h : s.length ≤ 1000000) : slices_Clone_Lapi_Span_api_Span s = some s := by
 unfold slices_Clone_Lapi_Span_api_Span
 rw [appM_one _ _ _ (by simpa using h) (by decide)]
 rfl
theorem sindex_spec (p : Span → Bool) (f : Span → Option Bool) (hf : ∀ x, f x = some (p x)) (l : List Span) (hl : l.length ≤ 1000000) :
  ∃ r, slices_IndexFunc_Lapi_Span_api_Span l f = some r ∧ ((r = -1 ∧ ∀ s ∈ l, p s = false) ∨ ∃ i : Nat, ∃ h : i < l.length, r = (i : Int) ∧ p l[i] = true ∧ ∀ s ∈ l.take i, p s = false) := by
 unfold slices_IndexFunc_Lapi_Span_api_Span
 refine loop_foldE (fun (_ : Unit) i => i) l.length (fun i _ => ∀ s ∈ l.take i, p s = false) _ (fun i hi a hI => ?_) (fun a hI => ?_) () (by simp)
 ·unfold slices_IndexFunc_Lapi_Span_api_Span_l2
  rw [if_pos (decide_eq_true (by omega)), ix_nat _ _ hi]
  simp only [Option.bind_some]
  rw [hf]
  simp only [Option.bind_some]
  cases hp : p l[i] with
  | true => exact .inr ⟨_, rfl, .inr ⟨i, hi, rfl, hp, hI⟩⟩
  | false =>
   left
   refine ⟨(), by rw [w64_n (by omega)]; rfl, fun s hs => ?_⟩
   rw [take_one hi] at hs
   rcases List.mem_append.1 hs with hs | hs
   ·exact hI s hs
   ·rcases List.mem_singleton.1 hs with rfl; exact hp
 ·unfold slices_IndexFunc_Lapi_Span_api_Span_l2
  rw [if_neg (by simp)]
  rw [List.take_of_length_le (Nat.le_refl _)] at hI
  exact ⟨_, rfl, .inl ⟨rfl, hI⟩⟩
theorem sdelete_spec (p : Span → Bool) (f : Span → Option Bool) (hf : ∀ x, f x = some (p x)) (l : List Span) (hl : l.length ≤ 1000000) : slices_DeleteFunc_Lapi_Span_api_Span l f = some (l.filter (fun x => !p x)) := by
 unfold slices_DeleteFunc_Lapi_Span_api_Span
 obtain ⟨r, er, hr⟩ := sindex_spec p f hf l hl
 rw [er]
 simp only [Option.bind_some]
 rcases hr with ⟨rfl, hall⟩ | ⟨i0, hi0, rfl, hp0, hall⟩
 ·rw [if_pos (by decide), List.filter_eq_self.2 (fun a ha => by rw [hall a ha]; rfl)]
 ·rw [if_neg (by simp <;> omega), w64_n (by omega)]
  obtain ⟨⟨m, e2⟩, em, i, he, h1, h2, h3⟩ := loop_ex (b1 := slices_DeleteFunc_Lapi_Span_api_Span_l1 f)
   (fun k s => ∃ i j : Nat, s.2.1 = (i : Int) ∧ s.2.2 = (j : Int) ∧ k + j = l.length ∧ i < j ∧ s.1.length = l.length ∧ s.1.take i = (l.take j).filter (fun x => !p x) ∧ s.1.drop j = l.drop j)
   (fun r => ∃ i : Nat, r.2 = (i : Int) ∧ i ≤ l.length ∧ r.1.length = l.length ∧ r.1.take i = l.filter (fun x => !p x)) (by
    rintro k ⟨m, i', j'⟩ ⟨i, j, hi, hj, hk, hij, hml, ht, hd⟩
    simp only at hi hj hml ht hd
    subst hi
    subst hj
    unfold slices_DeleteFunc_Lapi_Span_api_Span_l1
    simp only
    by_cases hjl : j < l.length
    ·left
     have hmj : m[j]'(by omega) = l[j] := by
      have h1 : m[j]? = l[j]? := by
       have := congrArg (fun q => q[0]?) hd
       simpa [List.getElem?_drop] using this
      rw [some_at (by omega), some_at hjl] at h1
      exact Option.some.inj h1
     rw [if_pos (decide_eq_true (by omega)), ix_nat m j (by omega), hmj]
     simp only [Option.bind_some]
     rw [hf]
     simp only [Option.bind_some]
     unfold slices_DeleteFunc_Lapi_Span_api_Span_j1
     simp only
     rw [w64_n (n := j) (by omega)]
     have htk : (l.take (j + 1)).filter (fun x => !p x) = (l.take j).filter (fun x => !p x) ++ [l[j]].filter (fun x => !p x) := by rw [take_one hjl, List.filter_append]
     have hdj : l.drop (j + 1) = (l.drop j).drop 1 := by rw [List.drop_drop]
     have hmd : m.drop (j + 1) = (m.drop j).drop 1 := by rw [List.drop_drop]
     cases hp : p l[j] with
     | true =>
      rw [if_neg (by simp)]
      refine ⟨_, k - 1, rfl, ⟨i, j + 1, rfl, rfl, by omega, by omega, hml, ?_, ?_⟩, by omega⟩
      ·rw [htk, ht]; simp [hp]
      ·simp only; rw [hdj, hmd, hd]
     | false =>
      rw [if_pos (by simp), ix_nat m i (by omega)]
      simp only [Option.bind_some]
      rw [setM_at _ _ _ (by omega) (by omega), w64_n (n := i) (by omega)]
      simp only [Option.bind_some, Int.toNat_natCast]
      refine ⟨_, k - 1, rfl, ⟨i + 1, j + 1, rfl, rfl, by omega, by omega, by simpa using hml, ?_, ?_⟩, by omega⟩
      ·simp only
       rw [htk, ← ht, take_one (by simp; omega), List.take_set_of_le (Nat.le_refl _)]
       simp [hp]
      ·simp only
       rw [List.drop_set_of_lt (by omega), hdj, hmd, hd]
    ·right
     rw [if_neg (by simp; omega)]
     refine ⟨_, rfl, i, rfl, by omega, hml, ?_⟩
     rw [List.take_of_length_le (show l.length ≤ j by omega)] at ht
     exact ht) (l.length - (i0 + 1)) (l, (i0 : Int), ((i0 + 1 : Nat) : Int)) ⟨i0, i0 + 1, rfl, rfl, by omega, by omega, rfl, by
     simp only
     rw [take_one hi0, List.filter_append, List.filter_eq_self.2 (fun a ha => by rw [hall a ha]; rfl)]
     simp [hp0], rfl⟩
  rw [em]
  simp only at he h2 h3
  subst he
  simp only [Option.bind_some]
  have hsub : subM m (i : Int) (m.length : Int) = some (m.drop i) := by
   rw [sub_at _ _ _ (by omega) (Nat.le_refl _), List.take_of_length_le (Nat.le_refl _)]
  rw [hsub]
  simp only [Option.bind_some]
  have hcl : (copyM m (i : Int) (m.length : Int) (List.replicate (m.drop i).length (⟨0, 0⟩ : Span))).take i = m.take i := by
   unfold copyM
   simp only [Int.toNat_natCast]
   rw [List.append_assoc, List.take_append_of_le_length (by rw [List.length_take]; omega), List.take_take, Nat.min_self]
  have hlen : i ≤ (copyM m (i : Int) (m.length : Int) (List.replicate (m.drop i).length (⟨0, 0⟩ : Span))).length := by
   unfold copyM
   simp only [Int.toNat_natCast, List.length_append, List.length_take]
   omega
  have h0 := sub_at (copyM m (i : Int) (m.length : Int) (List.replicate (m.drop i).length (⟨0, 0⟩ : Span))) 0 i (Nat.zero_le _) hlen
  rw [hcl] at h0
  have h0' : subM (copyM m (i : Int) (m.length : Int) (List.replicate (m.drop i).length (⟨0, 0⟩ : Span))) 0 (i : Int) = some (m.take i) := by
   simpa using h0
  rw [h0', h3]
  rfl
theorem compare_int (x y : Int) : cmp_Compare_int x y = some (if x < y then -1 else if y < x then 1 else 0) := by
 unfold cmp_Compare_int cmp_isNaN_int
 simp only [bne_self_eq_false, Option.bind_some, Bool.false_eq_true, if_false]
 by_cases h1 : x < y
 ·simp [h1]
 ·by_cases h2 : y < x <;> simp [h1, h2]
theorem from_ok : CmpOK (fun _ => True) span_Normal_fn2 (fun x y => decide (x.From < y.From)) := by
 refine ⟨fun x y _ _ => ?_, fun x _ => by simp, fun x y z _ _ _ h1 h2 => ?_, fun x y z _ _ _ h1 h2 => ?_⟩
 ·unfold span_Normal_fn2
  rw [compare_int]
  refine ⟨_, rfl, ?_⟩
  by_cases h1 : x.From < y.From
  ·simp [h1]
  ·by_cases h2 : y.From < x.From <;> simp [h1, h2]
 ·simp only [decide_eq_true_eq] at *; omega
 ·simp only [decide_eq_false_iff_not] at *; omega
theorem sort_span (l : List Span) (f : Span → Span → Option Int) : slices_SortFunc_Lapi_Span_api_Span l f = sortP l f := rfl
theorem SR.pw {l : List Span} (h : SR (fun x y => decide (x.From < y.From)) 0 l.length l) : l.Pairwise (fun s t => s.From ≤ t.From) := by
 rw [List.pairwise_iff_getElem]
 intro i j hi hj hij
 have := h i j _ _ (Nat.zero_le _) hij hj (some_at hi) (some_at hj)
 simp only [decide_eq_false_iff_not] at this
 omega
theorem merge_body {srt out : List Span} {i : Nat} (hi : i < srt.length) (ho : out.length ≤ 100000) (hl : srt.length ≤ 100000) :
  span_Normal_l1 srt (out, (i : Int)) = some (.inl (mstep out srt[i], ((i + 1 : Nat) : Int))) := by
 unfold span_Normal_l1
 simp only
 rw [if_pos (decide_eq_true (by omega)), ix_nat _ _ hi]
 simp only [Option.bind_some]
 unfold span_Normal_j1
 simp only
 rw [w64_n (n := i) (by omega)]
 rcases List.eq_nil_or_concat out with rfl | ⟨o, t, rfl⟩
 ·rw [mstep_nil]
  simp only [List.length_nil]
  rw [if_neg (by decide)]
  simp only [Option.bind_some, Bool.false_eq_true, if_false]
  rw [appM_one _ _ _ (by simp) (by decide)]
  rfl
 ·rw [List.concat_eq_append] at *
  have hlen : (((o ++ [t]).length : Nat) : Int) = (o.length : Int) + 1 := by simp
  have e1 : w64 (((o ++ [t]).length : Int) - 1) = (o.length : Int) := by rw [hlen, w64_id (by omega) (by omega)]; omega
  rw [if_pos (decide_eq_true (by rw [hlen]; omega)), e1, ix_last]
  simp only [Option.bind_some]
  rw [mstep_snoc]
  by_cases hc : srt[i].From ≤ t.To
  ·rw [if_pos (decide_eq_true hc), if_pos hc, setM_last]
   rfl
  ·rw [if_neg (by simpa using hc), if_neg hc, appM_one _ _ _ (by simp at ho ⊢; omega) (by decide)]
   rfl
theorem merge_loop {srt : List Span} (hl : srt.length ≤ 100000) (hne : ∀ s ∈ srt, s.From < s.To) (hs : srt.Pairwise (fun s t => s.From ≤ t.From)) :
  ∃ r, whileM (span_Normal_l1 srt) ([], 0) = some r ∧ MI srt srt.length r :=
 loop_fold (fun a i => (a, i)) srt.length (fun i out => MI srt i out) (fun r => MI srt srt.length r) (fun i hi a h => by
  have := h.len
  exact ⟨_, merge_body hi (by omega) hl, h.step hi hne hs⟩) (fun a h => by
  unfold span_Normal_l1
  simp only
  rw [if_neg (by simp)]
  exact ⟨_, rfl, h⟩) [] MI.zero
/-- a valid list of the numbers of l -/
structure NS (l r : List Span) : Prop where
 vs : VS r
 mem : ∀ y, Mem r y ↔ Mem l y
 len : r.length ≤ l.length
 ends : ∀ s ∈ r, (∃ t ∈ l, s.From = t.From) ∧ (∃ t ∈ l, s.To = t.To)
theorem NS.of {l f srt r : List Span} (hf : f = l.filter (fun s => decide (s.From < s.To))) (hp : srt.Perm f) (h : MI srt srt.length r) : NS l r := by
 have hsub : ∀ s ∈ srt, s ∈ l := fun s hs => (List.mem_filter.1 (hf ▸ hp.mem_iff.1 hs)).1
 refine ⟨h.vs, fun y => ?_, ?_, fun s hs => ?_⟩
 ·rw [h.mem, List.take_of_length_le (Nat.le_refl _), mem_perm hp, hf, mem_filter]
 ·have h1 := h.len
  rw [hp.length_eq, hf] at h1
  exact Nat.le_trans h1 (List.length_filter_le _ _)
 ·obtain ⟨⟨t, ht, e⟩, ⟨u, hu, e'⟩⟩ := h.ends s hs
  exact ⟨⟨t, hsub t ht, e⟩, ⟨u, hsub u hu, e'⟩⟩
theorem normal_spec {l : List Span} (hl : l.length < 100000) : ∃ r, span_Normal l = some r ∧ NS l r := by
 unfold span_Normal
 rw [sclone _ (by omega)]
 simp only [Option.bind_some]
 rw [sdelete_spec (fun s => !(decide (s.From < s.To))) span_Normal_fn1 (fun x => rfl) l (by omega)]
 simp only [Option.bind_some, Bool.not_not]
 have hfl : (l.filter (fun s => decide (s.From < s.To))).length ≤ l.length := List.length_filter_le _ _
 obtain ⟨srt, es, hp, hln, hsr⟩ := sort_spec from_ok (l := l.filter (fun s => decide (s.From < s.To))) (fun _ _ => trivial) (by omega)
 rw [sort_span, es]
 simp only [Option.bind_some]
 rw [← hln] at hsr
 obtain ⟨r, er, hr⟩ := merge_loop (srt := srt) (by omega) (fun s hs => by simpa using (List.mem_filter.1 (hp.mem_iff.1 hs)).2) hsr.pw
 rw [er]
 exact ⟨r, rfl, NS.of rfl hp hr⟩
/-! ### the reference -/
theorem rmerge_body {srt out : List Span} {i : Nat} (hi : i < srt.length) (ho : out.length ≤ 100000) (hl : srt.length ≤ 100000) :
  ref08_Normal_l7 srt (out, (i : Int)) = some (.inl (mstep out srt[i], ((i + 1 : Nat) : Int))) := by
 unfold ref08_Normal_l7
 simp only
 rw [if_pos (decide_eq_true (by omega))]
 simp only [Option.bind_some]
 unfold ref08_Normal_j4
 simp only
 rw [w64_n (n := i) (by omega)]
 rcases List.eq_nil_or_concat out with rfl | ⟨o, t, rfl⟩
 ·rw [mstep_nil]
  simp only [List.length_nil]
  rw [if_neg (by decide)]
  simp only [Option.bind_some, Bool.false_eq_true, if_false]
  rw [ix_nat _ _ hi]
  simp only [Option.bind_some]
  rw [appM_one _ _ _ (by simp) (by decide)]
  rfl
 ·rw [List.concat_eq_append] at *
  have hlen : (((o ++ [t]).length : Nat) : Int) = (o.length : Int) + 1 := by simp
  have e1 : w64 (((o ++ [t]).length : Int) - 1) = (o.length : Int) := by rw [hlen, w64_id (by omega) (by omega)]; omega
  rw [if_pos (decide_eq_true (by rw [hlen]; omega)), e1, ix_last, ix_nat _ _ hi]
  simp only [Option.bind_some]
  rw [mstep_snoc]
  by_cases hc : srt[i].From ≤ t.To
  ·rw [if_pos (decide_eq_true hc), if_pos hc, setM_last]
   rfl
  ·rw [if_neg (by simpa using hc), if_neg hc, appM_one _ _ _ (by simp at ho ⊢; omega) (by decide)]
   rfl
theorem rmerge_loop {srt : List Span} (hl : srt.length ≤ 100000) (hne : ∀ s ∈ srt, s.From < s.To) (hs : srt.Pairwise (fun s t => s.From ≤ t.From)) :
  ∃ r, whileM (ref08_Normal_l7 srt) ([], 0) = some r ∧ MI srt srt.length r :=
 loop_fold (fun a i => (a, i)) srt.length (fun i out => MI srt i out) (fun r => MI srt srt.length r) (fun i hi a h => by
  have := h.len
  exact ⟨_, rmerge_body hi (by omega) hl, h.step hi hne hs⟩) (fun a h => by
  unfold ref08_Normal_l7
  simp only
  rw [if_neg (by simp)]
  exact ⟨_, rfl, h⟩) [] MI.zero
/-- where one more goes -/
theorem rplace {l s : List Span} {i : Nat} (hi : i < l.length) (hs : s.Pairwise (fun s t => s.From ≤ t.From)) (hl : s.length ≤ 100000) :
  ∃ e : Nat, whileM (ref08_Normal_l6 l (s, (i : Int))) (s.length : Int) = some (e : Int) ∧ e ≤ s.length ∧ (∀ t ∈ s.take e, t.From ≤ l[i].From) ∧ (∀ t ∈ s.drop e, l[i].From ≤ t.From) := by
 obtain ⟨r, er, e, he, h⟩ := loop_ex (b1 := ref08_Normal_l6 l (s, (i : Int)))
  (fun k q => ∃ e : Nat, q = (e : Int) ∧ k = e ∧ e ≤ s.length ∧ (∀ t ∈ s.drop e, l[i].From ≤ t.From))
  (fun r => ∃ e : Nat, r = (e : Int) ∧ e ≤ s.length ∧ (∀ t ∈ s.take e, t.From ≤ l[i].From) ∧ (∀ t ∈ s.drop e, l[i].From ≤ t.From)) (by
   rintro k q ⟨e, rfl, hk, h1, h2⟩
   unfold ref08_Normal_l6
   simp only
   by_cases h0 : 0 < e
   ·have e1 : w64 ((e : Int) - 1) = ((e - 1 : Nat) : Int) := w64_nat (by omega) (by omega)
    rw [if_pos (decide_eq_true (by omega)), e1, ix_nat s (e - 1) (by omega), ix_nat _ _ hi]
    simp only [Option.bind_some]
    by_cases hc : l[i].From < s[e - 1].From
    ·left
     rw [if_pos (decide_eq_true hc)]
     refine ⟨_, k - 1, rfl, ⟨e - 1, rfl, by omega, by omega, fun t ht => ?_⟩, by omega⟩
     rw [List.drop_eq_getElem_cons (by omega), show e - 1 + 1 = e by omega] at ht
     rcases List.mem_cons.1 ht with rfl | ht
     ·omega
     ·exact h2 t ht
    ·right
     rw [if_neg (by simpa using hc)]
     refine ⟨_, rfl, e, rfl, h1, fun t ht => ?_, h2⟩
     rw [show e = e - 1 + 1 by omega, take_one (by omega)] at ht
     rcases List.mem_append.1 ht with ht | ht
     ·obtain ⟨j, hj⟩ := List.mem_iff_getElem?.1 ht
      rw [List.getElem?_take] at hj
      split at hj
      ·next hlt =>
       obtain ⟨hjl, hj'⟩ := at_some hj
       have := List.pairwise_iff_getElem.1 hs j (e - 1) hjl (by omega) hlt
       rw [hj'] at this
       omega
      ·cases hj
     ·rcases List.mem_singleton.1 ht with rfl; omega
   ·right
    rw [if_neg (by simp; omega)]
    simp only [Option.bind_some, Bool.false_eq_true, if_false]
    have : e = 0 := by omega
    subst this
    exact ⟨_, rfl, 0, rfl, h1, by simp, h2⟩) s.length (s.length : Int) ⟨s.length, rfl, rfl, Nat.le_refl _, by simp⟩
 subst he
 exact ⟨e, er, h⟩
theorem rinsert {s : List Span} {x : Span} {e : Nat} (he : e ≤ s.length) (hl : s.length ≤ 100000) :
  subM (s ++ [x]) ((e + 1 : Nat) : Int) ((s ++ [x]).length : Int) = some (s.drop (e + 1) ++ [x].drop (e + 1 - s.length)) ∧ subM (s ++ [x]) (e : Int) ((s ++ [x]).length : Int) = some (s.drop e ++ [x]) ∧
  ∃ q, q = copyM (s ++ [x]) ((e + 1 : Nat) : Int) ((s ++ [x]).length : Int) (s.drop e ++ [x]) ∧ e < q.length ∧ q.set e x = s.take e ++ ([x] ++ s.drop e) := by
 have hlen : (s ++ [x]).length = s.length + 1 := by simp
 refine ⟨?_, ?_, _, rfl, ?_, ?_⟩
 ·rw [sub_at _ _ _ (by omega) (Nat.le_refl _), List.take_of_length_le (Nat.le_refl _), List.drop_append]
 ·rw [sub_at _ _ _ (by omega) (Nat.le_refl _), List.take_of_length_le (Nat.le_refl _), List.drop_append_of_le_length he]
 ·unfold copyM
  simp only [Int.toNat_natCast, List.length_append, List.length_take, List.length_drop, List.length_cons, List.length_nil]
  omega
 ·unfold copyM
  simp only [Int.toNat_natCast]
  have e1 : (s.drop e ++ [x]).take ((s ++ [x]).length - (e + 1)) = s.drop e := by
   rw [hlen, List.take_append_of_le_length (by rw [List.length_drop]; omega), List.take_of_length_le (by rw [List.length_drop]; omega)]
  have e2 : (s ++ [x]).drop (e + 1 + min (s.drop e ++ [x]).length ((s ++ [x]).length - (e + 1))) = [] := by
   apply List.drop_eq_nil_of_le
   simp only [List.length_append, List.length_drop, List.length_cons, List.length_nil]
   omega
  rw [e1, e2, List.append_nil]
  have e3 : (s ++ [x]).take (e + 1) = s.take e ++ [(s ++ [x])[e]'(by omega)] := by
   rw [take_one (by omega), List.take_append_of_le_length he]
  rw [e3, List.append_assoc, List.set_append, if_neg (by rw [List.length_take]; omega)]
  have : e - (s.take e).length = 0 := by rw [List.length_take]; omega
  rw [this]
  rfl
theorem rnormal_spec {l : List Span} (hl : l.length ≤ 100000) : ∃ r, ref08_Normal l = some r ∧ NS l r := by
 obtain ⟨srt, es, hpw, hp⟩ := loop_fold (body := ref08_Normal_l3 l) (fun a i => (a, i)) l.length
  (fun i s => s.Pairwise (fun s t => s.From ≤ t.From) ∧ s.Perm ((l.take i).filter (fun s => decide (s.From < s.To))))
  (fun s => s.Pairwise (fun s t => s.From ≤ t.From) ∧ s.Perm (l.filter (fun s => decide (s.From < s.To)))) (fun i hi s ⟨h1, h2⟩ => by
   have hsl : s.length ≤ i := by
    rw [h2.length_eq]
    exact Nat.le_trans (List.length_filter_le _ _) (by rw [List.length_take]; omega)
   unfold ref08_Normal_l3
   simp only
   unfold ref08_Normal_j1
   simp only
   rw [if_pos (decide_eq_true (by omega)), ix_nat _ _ hi, w64_n (n := i) (by omega)]
   simp only [Option.bind_some]
   by_cases hc : l[i].To ≤ l[i].From
   ·rw [if_pos (decide_eq_true hc)]
    refine ⟨s, rfl, h1, ?_⟩
    rw [take_one hi, List.filter_append]
    have : ¬ l[i].From < l[i].To := by omega
    simpa [this] using h2
   ·rw [if_neg (by simpa using hc)]
    obtain ⟨e, ee, he, ha, hb⟩ := rplace hi h1 (by omega)
    rw [ee]
    simp only [Option.bind_some]
    rw [appM_one _ _ _ (by simp; omega) (by decide), w64_n (n := e) (by omega)]
    simp only [Option.bind_some]
    obtain ⟨q1, q2, q, eq, hq, hset⟩ := rinsert (s := s) (x := l[i]) he (by omega)
    rw [q1, q2]
    simp only [Option.bind_some]
    rw [← eq, ix_nat _ _ hq]
    simp only [Option.bind_some]
    rw [setM_at _ _ _ (by omega) (by omega), Int.toNat_natCast, hset]
    refine ⟨_, rfl, ?_, ?_⟩
    ·rw [List.pairwise_append, List.pairwise_append]
     refine ⟨h1.sublist (List.take_sublist _ _), ⟨List.pairwise_singleton _ _, h1.sublist (List.drop_sublist _ _), fun a ha' b hb' => ?_⟩, fun a ha' b hb' => ?_⟩
     ·rcases List.mem_singleton.1 ha' with rfl
      exact hb b hb'
     ·rcases List.mem_append.1 hb' with hb' | hb'
      ·rcases List.mem_singleton.1 hb' with rfl
       exact ha a ha'
      ·obtain ⟨j, hj⟩ := List.mem_iff_getElem?.1 ha'
       obtain ⟨k, hk⟩ := List.mem_iff_getElem?.1 hb'
       have h3 := ha a ha'
       have h4 := hb b hb'
       omega
    ·have h3 : (s.take e ++ ([l[i]] ++ s.drop e)).Perm (s ++ [l[i]]) := by
      have h4 : (s.take e ++ ([l[i]] ++ s.drop e)).Perm (s.take e ++ (s.drop e ++ [l[i]])) := List.Perm.append_left _ List.perm_append_comm
      rw [← List.append_assoc (s.take e) (s.drop e), List.take_append_drop] at h4
      exact h4
     refine h3.trans ?_
     rw [take_one hi, List.filter_append]
     have : l[i].From < l[i].To := by omega
     have e1 : [l[i]].filter (fun s => decide (s.From < s.To)) = [l[i]] := by simp [this]
     rw [e1]
     exact List.Perm.append_right _ h2) (fun s ⟨h1, h2⟩ => by
   unfold ref08_Normal_l3
   simp only
   rw [if_neg (by simp)]
   rw [List.take_of_length_le (Nat.le_refl _)] at h2
   exact ⟨s, rfl, h1, h2⟩) [] ⟨List.Pairwise.nil, by simp⟩
 have hsl : srt.length ≤ l.length := by
  rw [hp.length_eq]; exact List.length_filter_le _ _
 unfold ref08_Normal
 rw [es]
 simp only [Option.bind_some]
 obtain ⟨r, er, hr⟩ := rmerge_loop (srt := srt) (by omega) (fun s hs => by simpa using (List.mem_filter.1 (hp.mem_iff.1 hs)).2) hpw
 rw [er]
 exact ⟨r, rfl, NS.of rfl hp hr⟩
theorem NS.uniq {l r s : List Span} (h1 : NS l r) (h2 : NS l s) : r = s := h1.vs.uniq h2.vs (fun x => (h1.mem x).trans (h2.mem x).symm)
end Go.Proofs.YthdimlepjpnncaaGreat.Sh

/- Rates and times of samples as plain programs (chapter 2): what they compute, for any arguments in range. -/
namespace Go.Proofs.YthdimlepjpnncaaGreat.Sh
open Go
set_option linter.unusedVariables false
set_option linter.unusedSimpArgs false
/-- a number lies from low to high -/
def inB (n lo hi : Int) : Bool := decide (lo ≤ n) && decide (n ≤ hi)
theorem inB_iff {n lo hi : Int} : inB n lo hi = true ↔ lo ≤ n ∧ n ≤ hi := by simp [inB]
theorem inB_true {n lo hi : Int} (h1 : lo ≤ n) (h2 : n ≤ hi) : inB n lo hi = true := inB_iff.2 ⟨h1, h2⟩
theorem rate_in_eq (n lo hi : Int) : rate_in n lo hi = some (inB n lo hi) := rfl
theorem tmod_cast (m n : Nat) : ((m : Int).tmod (n : Int)) = ((m % n : Nat) : Int) := by
 rw [Int.tmod_eq_emod_of_nonneg (Int.natCast_nonneg m)]; rfl
theorem gcdloop {body : Int × Int → Option ((Int × Int) ⊕ Int)} (hb : ∀ s, body s = if (s.2 != 0) = true then (remM s.1 s.2).bind fun r => some (Sum.inl (s.2, r)) else some (Sum.inr s.1)) (a b : Nat) :
  whileM body ((a : Int), (b : Int)) = some (Nat.gcd a b : Int) := by
 have h := whileM_inv (body := body) (fun s => ∃ x y : Nat, s = ((x : Int), (y : Int)) ∧ Nat.gcd x y = Nat.gcd a b) (fun s => s.2.toNat) (fun r => r = (Nat.gcd a b : Int)) (by
  rintro s ⟨x, y, rfl, hg⟩
  by_cases hy : y = 0
  ·right
   subst hy
   refine ⟨(x : Int), ?_, ?_⟩
   ·rw [hb]; simp
   ·rw [← hg]; simp
  ·left
   have hy' : (y : Int) ≠ 0 := by omega
   refine ⟨((y : Int), ((x % y : Nat) : Int)), ?_, ⟨y, x % y, rfl, ?_⟩, ?_⟩
   ·rw [hb, if_pos (by simpa using hy)]
    simp only
    rw [remM_at _ _ hy', tmod_cast]
    rfl
   ·rw [← hg, Nat.gcd_comm y, ← Nat.gcd_rec, Nat.gcd_comm]
   ·simp only [Int.toNat_natCast]
    exact Nat.mod_lt _ (by omega)) ((a : Int), (b : Int)) ⟨a, b, rfl, rfl⟩
 obtain ⟨r, hr, rfl⟩ := h
 exact hr
theorem rate_gcd_eq (a b : Int) (ha : 0 ≤ a) (hb : 0 ≤ b) : rate_gcd a b = some (Int.gcd a b : Int) := by
 obtain ⟨m, rfl⟩ := Int.eq_ofNat_of_zero_le ha
 obtain ⟨n, rfl⟩ := Int.eq_ofNat_of_zero_le hb
 unfold rate_gcd
 rw [gcdloop (body := rate_gcd_l1) (fun _ => rfl)]
 rfl
/-- a rate that is well -/
structure RV (r : Rate) : Prop where
 n0 : 1 ≤ r.Num
 n1 : r.Num ≤ 4096
 d0 : 1 ≤ r.Den
 d1 : r.Den ≤ 4096
 g : Int.gcd r.Num r.Den = 1
def rateVB (r : Rate) : Bool := inB r.Num 1 4096 && (inB r.Den 1 4096 && decide (Int.gcd r.Num r.Den = 1))
theorem rateVB_iff {r : Rate} : rateVB r = true ↔ RV r := by
 simp only [rateVB, inB, Bool.and_eq_true, decide_eq_true_eq]
 exact ⟨fun ⟨⟨a, b⟩, ⟨c, d⟩, e⟩ => ⟨a, b, c, d, e⟩, fun ⟨a, b, c, d, e⟩ => ⟨⟨a, b⟩, ⟨c, d⟩, e⟩⟩
theorem rate_Valid_eq (r : Rate) : rate_Valid r = some (rateVB r) := by
 unfold rate_Valid rateVB
 simp only [rate_in_eq, Option.bind]
 by_cases h1 : inB r.Num 1 4096 = true
 ·by_cases h2 : inB r.Den 1 4096 = true
  ·have a1 := inB_iff.1 h1
   have a2 := inB_iff.1 h2
   rw [if_pos h1, h1, h2, rate_gcd_eq _ _ (by omega) (by omega)]
   simp only [if_true, Bool.true_and, Option.some.injEq]
   rw [Bool.eq_iff_iff]; simp; omega
  ·simp only [Bool.not_eq_true] at h2
   simp [h1, h2]
 ·simp only [Bool.not_eq_true] at h1
  simp [h1]
/-- the time of a sample -/
def timeV (start : Int) (r : Rate) (k : Int) : Int × Int :=
 if rateVB r = true then (if (inB start 0 9007199254740992 && inB k 0 16777216) = true then (start + k * (r.Den * 1000000) / r.Num, 0) else (0, 2)) else (0, 1)
theorem timeV_ok {start k : Int} {r : Rate} (h : RV r) (s0 : 0 ≤ start) (s1 : start ≤ 9007199254740992) (k0 : 0 ≤ k) (k1 : k ≤ 16777216) : timeV start r k = (start + k * (r.Den * 1000000) / r.Num, 0) := by
 unfold timeV
 rw [if_pos (rateVB_iff.2 h), if_pos (by rw [inB_true s0 s1, inB_true k0 k1]; rfl)]
theorem after_fits {k : Int} {r : Rate} (h : RV r) (k0 : 0 ≤ k) (k1 : k ≤ 16777216) : 0 ≤ k * (r.Den * 1000000) ∧ k * (r.Den * 1000000) ≤ 68719476736000000 ∧ 0 ≤ k * (r.Den * 1000000) / r.Num ∧ k * (r.Den * 1000000) / r.Num ≤ 68719476736000000 := by
 have hd0 := h.d0
 have hd1 := h.d1
 have hn0 := h.n0
 have e1 : k * (r.Den * 1000000) ≤ 16777216 * 4096000000 := Int.mul_le_mul k1 (by omega) (by omega) (by omega)
 have e0 : 0 ≤ k * (r.Den * 1000000) := Int.mul_nonneg k0 (by omega)
 have e2 : k * (r.Den * 1000000) / r.Num ≤ k * (r.Den * 1000000) := Int.ediv_le_self _ e0
 have e3 : 0 ≤ k * (r.Den * 1000000) / r.Num := Int.ediv_nonneg e0 (by omega)
 omega
theorem quo_nn {a b : Int} (hb : 0 < b) (ha : 0 ≤ a) (h : a ≤ 9223372036854775807) : quoM .i64 a b = some (a / b) := by
 rw [quoM_at _ _ _ (by omega), Int.tdiv_eq_ediv_of_nonneg ha]
 have h1 := Int.ediv_le_self b ha
 have h2 := Int.ediv_nonneg ha (by omega : 0 ≤ b)
 have := w64_id (x := a / b) (by omega) (by omega)
 simp only [w64] at this
 rw [this]
theorem rate_micros_eq {r : Rate} (h : RV r) : rate_micros r = some (r.Den * 1000000) := by
 have hd0 := h.d0
 have hd1 := h.d1
 unfold rate_micros
 rw [w64_id (by omega) (by omega)]; rfl
theorem rate_after_eq {r : Rate} (h : RV r) {k : Int} (k0 : 0 ≤ k) (k1 : k ≤ 16777216) : rate_after r k = some (k * (r.Den * 1000000) / r.Num) := by
 obtain ⟨e0, e1, e2, e3⟩ := after_fits h k0 k1
 have hn0 := h.n0
 unfold rate_after
 rw [rate_micros_eq h]
 simp only [Option.bind]
 rw [w64_id (by omega) (by omega), quo_nn (by omega) e0 (by omega)]
theorem rate_Time_eq (start : Int) (r : Rate) (k : Int) : rate_Time start r k = some (timeV start r k) := by
 unfold rate_Time timeV
 rw [rate_Valid_eq]
 simp only [rate_in_eq, Option.bind]
 by_cases h : rateVB r = true
 ·have hr := rateVB_iff.1 h
  rw [h]
  simp only [Bool.not_true, Bool.false_eq_true, if_false, if_true]
  by_cases h1 : inB start 0 9007199254740992 = true
  ·rw [h1]
   simp only [Bool.not_true, Bool.false_eq_true, if_false, Bool.true_and]
   by_cases h2 : inB k 0 16777216 = true
   ·have a1 := inB_iff.1 h1
    have a2 := inB_iff.1 h2
    obtain ⟨e0, e1, e2, e3⟩ := after_fits hr a2.1 a2.2
    rw [h2, rate_after_eq hr a2.1 a2.2]
    simp only [Bool.not_true, Bool.false_eq_true, if_false, if_true]
    rw [w64_id (by omega) (by omega)]
   ·simp only [Bool.not_eq_true] at h2
    rw [h2]; simp
  ·simp only [Bool.not_eq_true] at h1
   rw [h1]; simp
 ·simp only [Bool.not_eq_true] at h
  rw [h]; simp
end Go.Proofs.YthdimlepjpnncaaGreat.Sh

/- A search in a list of numbers, as a plain program. -/
namespace Go.Proofs.YthdimlepjpnncaaGreat.Sh
open Go
set_option linter.unusedVariables false
set_option linter.unusedSimpArgs false
theorem contains_spec (p : Int → Bool) (f : Int → Option Bool) (hf : ∀ x, f x = some (p x)) (s : List Int) (hl : s.length ≤ 1000000000) : slices_ContainsFunc_Lint_int s f = some (s.any p) := by
 have hw : slices_IndexFunc_Lint_int s f = some (if s.findIdx p < s.length then (s.findIdx p : Int) else -1) := by
  unfold slices_IndexFunc_Lint_int
  have hle := List.findIdx_le_length (xs := s) (p := p)
  refine whileM_for' (fun i => (i : Int)) (s.findIdx p) _ rfl (fun i hi => ?_) ?_
  ·have hn := List.not_of_lt_findIdx hi
   simp only [slices_IndexFunc_Lint_int_l2]
   rw [if_pos (decide_eq_true (by omega)), ix_nat _ _ (by omega)]
   simp only [Option.bind, hf]
   rw [if_neg (by simpa using hn), w64_id (by omega) (by omega)]
   rfl
  ·simp only [slices_IndexFunc_Lint_int_l2]
   by_cases h : s.findIdx p < s.length
   ·rw [if_pos (decide_eq_true (by omega)), ix_nat _ _ h]
    simp only [Option.bind, hf]
    rw [if_pos (List.findIdx_getElem (w := h)), if_pos h]
   ·rw [if_neg (fun hh => h (by have := of_decide_eq_true hh; omega)), if_neg h]; rfl
 unfold slices_ContainsFunc_Lint_int
 rw [hw]
 simp only [Option.bind]
 by_cases h : s.findIdx p < s.length
 ·rw [if_pos h]
  have h2 := List.findIdx_getElem (xs := s) (p := p) (w := h)
  have : s.any p = true := List.any_eq_true.2 ⟨_, List.getElem_mem h, h2⟩
  rw [this, decide_eq_true (Int.natCast_nonneg _)]
 ·rw [if_neg h]
  have : s.any p = false := by
   rw [List.any_eq_false]
   intro x hx hp
   exact h (List.findIdx_lt_length_of_exists ⟨x, hx, hp⟩)
  rw [this]
  rfl
end Go.Proofs.YthdimlepjpnncaaGreat.Sh

/- Identifiers and records as plain programs: when they are valid (chapters 3 and 14). -/
namespace Go.Proofs.YthdimlepjpnncaaGreat.Sh
open Go
set_option linter.unusedVariables false
set_option linter.unusedSimpArgs false
def plainB (c : Int) : Bool := (decide (65 ≤ c) && decide (c ≤ 90)) || (decide (48 ≤ c) && decide (c ≤ 57))
def bts (s : ByteArray) : List UInt8 := s.data.toList
theorem byteAt_nat (s : ByteArray) (i : Nat) (h : i < (bts s).length) : byteAt s (i : Int) = some (((bts s)[i]).toNat : Int) := by
 have hs : i < s.size := by simpa [bts] using h
 unfold byteAt
 rw [if_pos (Int.natCast_nonneg i), Int.toNat_natCast]
 have : s[i]? = some s[i] := getElem?_pos s i hs
 rw [this]
 rfl
def codeB (s : ByteArray) (lo hi : Int) : Bool := ((bts s).all fun c => plainB c.toNat) && inB s.size lo hi
theorem source_code_eq (s : ByteArray) (lo hi : Int) (hs : s.size ≤ 9223372036854775807) : source_code s lo hi = some (codeB s lo hi) := by
 unfold source_code codeB
 have hl : s.size = (bts s).length := by simp [bts]
 rw [loop_all (bts s).length (fun i => plainB (((bts s).getD i 0).toNat : Int)) false (inB s.size lo hi)]
 ·rw [range_all (bts s) (fun c => plainB c.toNat) _ (fun i hi => by simp [List.getD_eq_getElem?_getD, hi])]
  cases (bts s).all (fun c => plainB c.toNat) <;> simp
 ·intro i hi hp
  have e : (bts s).getD i 0 = (bts s)[i] := by simp [List.getD_eq_getElem?_getD, hi]
  rw [e] at hp
  unfold source_code_l2
  rw [if_pos (decide_eq_true (by omega)), byteAt_nat s i hi]
  simp only [Option.bind, source_plain]
  have : ((decide (65 ≤ (((bts s)[i]).toNat : Int)) && decide ((((bts s)[i]).toNat : Int) ≤ 90)) || (decide (48 ≤ (((bts s)[i]).toNat : Int)) && decide ((((bts s)[i]).toNat : Int) ≤ 57))) = true := hp
  rw [this]
  simp only [Bool.not_true, Bool.false_eq_true, if_false]
  rw [w64_id (by omega) (by omega)]
  rfl
 ·intro i hi hp
  have e : (bts s).getD i 0 = (bts s)[i] := by simp [List.getD_eq_getElem?_getD, hi]
  rw [e] at hp
  unfold source_code_l2
  rw [if_pos (decide_eq_true (by omega)), byteAt_nat s i hi]
  simp only [Option.bind, source_plain]
  have : ((decide (65 ≤ (((bts s)[i]).toNat : Int)) && decide ((((bts s)[i]).toNat : Int) ≤ 90)) || (decide (48 ≤ (((bts s)[i]).toNat : Int)) && decide ((((bts s)[i]).toNat : Int) ≤ 57))) = false := hp
  rw [this]
  simp
 ·unfold source_code_l2
  rw [if_neg (by simp; omega)]
  rfl
def srcB (s : SourceID) : Bool := codeB s.Network 1 2 && codeB s.Station 1 5 && codeB s.Location 0 2 && !((s.Location.size : Int) == 1) && codeB s.Channel 3 3
structure SrcSm (x : SourceID) : Prop where
 n : x.Network.size ≤ 9223372036854775807
 s : x.Station.size ≤ 9223372036854775807
 l : x.Location.size ≤ 9223372036854775807
 c : x.Channel.size ≤ 9223372036854775807
theorem source_Valid_eq {s : SourceID} (h : SrcSm s) : source_Valid s = some (srcB s) := by
 unfold source_Valid srcB
 rw [source_code_eq _ _ _ h.n, source_code_eq _ _ _ h.s, source_code_eq _ _ _ h.l, source_code_eq _ _ _ h.c]
 have hb : ((s.Location.size : Int) != 1) = !((s.Location.size : Int) == 1) := rfl
 rw [hb]
 cases codeB s.Network 1 2 <;> cases codeB s.Station 1 5 <;> cases codeB s.Location 0 2 <;> cases ((s.Location.size : Int) == 1) <;> cases codeB s.Channel 3 3 <;> rfl
/-- samples in their range -/
def smpB (l : List Int) : Bool := l.all fun x => inB x (-1073741823) 1073741823
theorem smpB_iff {l : List Int} : smpB l = true ↔ ∀ x ∈ l, -1073741823 ≤ x ∧ x ≤ 1073741823 := by
 simp only [smpB, List.all_eq_true, inB_iff]
def recB (r : Record) : Bool :=
 srcB r.Source && inB r.Samples.length 1 65536 && inB r.First 0 (16777216 - r.Samples.length) && inB r.Error 0 1099511627776 && inB r.Run 0 65535 && inB r.Seq 0 1073741824 &&
  ((timeV r.Start r.Rate (r.First + r.Samples.length)).2 == 0) && decide ((timeV r.Start r.Rate (r.First + r.Samples.length)).1 ≤ 9007199254740992) && smpB r.Samples
theorem record_in_eq (n lo hi : Int) : record_in n lo hi = some (inB n lo hi) := rfl
theorem record_Valid_eq {r : Record} (hs : SrcSm r.Source) (hl : r.Samples.length ≤ 1000000000) : record_Valid r = some (recB r) := by
 unfold record_Valid recB
 rw [source_Valid_eq hs]
 simp only [record_in_eq, Option.bind]
 rw [w64_id (x := 16777216 - (r.Samples.length : Int)) (by omega) (by omega)]
 have hw : ∀ x, record_Valid_fn1 x = some (!(inB x (-1073741823) 1073741823)) := fun x => rfl
 rw [contains_spec _ _ hw r.Samples (by omega)]
 have hany : (!(r.Samples.any fun x => !(inB x (-1073741823) 1073741823))) = smpB r.Samples := by
  unfold smpB
  rw [List.any_eq_not_all_not]; simp
 simp only [hany]
 cases srcB r.Source
 ·simp
 cases h1 : inB (r.Samples.length : Int) 1 65536
 ·simp
 cases h2 : inB r.First 0 (16777216 - (r.Samples.length : Int))
 ·simp
 have a2 := inB_iff.1 h2
 rw [w64_id (x := r.First + (r.Samples.length : Int)) (by omega) (by omega), rate_Time_eq]
 cases inB r.Error 0 1099511627776
 ·simp
 cases inB r.Run 0 65535
 ·simp
 cases inB r.Seq 0 1073741824
 ·simp
 simp only [Bool.not_true, Bool.false_eq_true, if_false, Bool.true_and]
 cases ((timeV r.Start r.Rate (r.First + r.Samples.length)).2 == 0)
 ·simp
 cases decide ((timeV r.Start r.Rate (r.First + r.Samples.length)).1 ≤ 9007199254740992)
 ·simp
 simp
end Go.Proofs.YthdimlepjpnncaaGreat.Sh

/- Records as plain programs: what a valid record has, its times, its parts (chapter 14). -/
namespace Go.Proofs.YthdimlepjpnncaaGreat.Sh
open Go
set_option linter.unusedVariables false
set_option linter.unusedSimpArgs false
/-- a record that is valid -/
structure RF (r : Record) : Prop where
 src : srcB r.Source = true
 l0 : 1 ≤ r.Samples.length
 l1 : r.Samples.length ≤ 65536
 f0 : 0 ≤ r.First
 f1 : r.First + r.Samples.length ≤ 16777216
 e0 : 0 ≤ r.Error
 e1 : r.Error ≤ 1099511627776
 r0 : 0 ≤ r.Run
 r1 : r.Run ≤ 65535
 q0 : 0 ≤ r.Seq
 q1 : r.Seq ≤ 1073741824
 rv : RV r.Rate
 s0 : 0 ≤ r.Start
 s1 : r.Start ≤ 9007199254740992
 te : r.Start + (r.First + r.Samples.length) * (r.Rate.Den * 1000000) / r.Rate.Num ≤ 9007199254740992
 smp : smpB r.Samples = true
theorem timeV_zero {start k : Int} {r : Rate} (h : ((timeV start r k).2 == 0) = true) : RV r ∧ 0 ≤ start ∧ start ≤ 9007199254740992 ∧ 0 ≤ k ∧ k ≤ 16777216 := by
 unfold timeV at h
 by_cases h1 : rateVB r = true
 ·rw [if_pos h1] at h
  by_cases h2 : (inB start 0 9007199254740992 && inB k 0 16777216) = true
  ·simp only [Bool.and_eq_true, inB_iff] at h2
   exact ⟨rateVB_iff.1 h1, h2.1.1, h2.1.2, h2.2.1, h2.2.2⟩
  ·rw [if_neg h2] at h; simp at h
 ·rw [if_neg h1] at h; simp at h
theorem recB_iff {r : Record} : recB r = true ↔ RF r := by
 unfold recB
 constructor
 ·intro h
  simp only [Bool.and_eq_true, inB_iff, decide_eq_true_eq] at h
  obtain ⟨⟨⟨⟨⟨⟨⟨⟨h1, h2, h3⟩, h4, h5⟩, h6, h7⟩, h8, h9⟩, h10, h11⟩, h12⟩, h13⟩, h14⟩ := h
  obtain ⟨g1, g2, g3, g4, g5⟩ := timeV_zero h12
  rw [timeV_ok g1 g2 g3 g4 g5] at h13
  exact ⟨h1, by omega, by omega, h4, by omega, h6, h7, h8, h9, h10, h11, g1, g2, g3, h13, h14⟩
 ·intro h
  have a1 := h.l0
  have a2 := h.l1
  have a3 := h.f0
  have a4 := h.f1
  rw [timeV_ok h.rv h.s0 h.s1 (by omega) (by omega)]
  simp only [Bool.and_eq_true, inB_iff, decide_eq_true_eq]
  exact ⟨⟨⟨⟨⟨⟨⟨⟨h.src, by omega, by omega⟩, a3, by omega⟩, h.e0, h.e1⟩, h.r0, h.r1⟩, h.q0, h.q1⟩, rfl⟩, h.te⟩, h.smp⟩
theorem codeB_size {s : ByteArray} {lo hi : Int} (h : codeB s lo hi = true) : (s.size : Int) ≤ hi := by
 simp only [codeB, Bool.and_eq_true, inB_iff] at h
 exact h.2.2
theorem srcB_sm {s : SourceID} (h : srcB s = true) : SrcSm s := by
 simp only [srcB, Bool.and_eq_true] at h
 have a1 := codeB_size h.1.1.1.1
 have a2 := codeB_size h.1.1.1.2
 have a3 := codeB_size h.1.1.2
 have a4 := codeB_size h.2
 exact ⟨by omega, by omega, by omega, by omega⟩
theorem RF.valid {r : Record} (h : RF r) : record_Valid r = some true := by
 rw [record_Valid_eq (srcB_sm h.src) (by have := h.l1; omega), recB_iff.2 h]
/-- the time of a sample -/
def timeR (r : Record) (i : Int) : Int := r.Start + (r.First + i) * (r.Rate.Den * 1000000) / r.Rate.Num
theorem RF.timeV {r : Record} (h : RF r) {i : Int} (i0 : 0 ≤ i) (i1 : i ≤ r.Samples.length) : timeV r.Start r.Rate (r.First + i) = (timeR r i, 0) := by
 have a3 := h.f0
 have a4 := h.f1
 rw [timeV_ok h.rv h.s0 h.s1 (by omega) (by omega)]
 rfl
theorem RF.mono {r : Record} (h : RF r) {i j : Int} (hij : i ≤ j) : timeR r i ≤ timeR r j := by
 have hn := h.rv.n0
 have hd := h.rv.d0
 unfold timeR
 have : (r.First + i) * (r.Rate.Den * 1000000) ≤ (r.First + j) * (r.Rate.Den * 1000000) := Int.mul_le_mul_of_nonneg_right (by omega) (by omega)
 have := Int.ediv_le_ediv (show 0 < r.Rate.Num by omega) this
 omega
theorem RF.tb {r : Record} (h : RF r) {i : Int} (i0 : 0 ≤ i) (i1 : i ≤ r.Samples.length) : 0 ≤ timeR r i ∧ timeR r i ≤ 9007199254740992 := by
 have hn := h.rv.n0
 have hd := h.rv.d0
 have h1 := h.mono i1
 have h2 := h.te
 have h3 : 0 ≤ (r.First + i) * (r.Rate.Den * 1000000) / r.Rate.Num := Int.ediv_nonneg (Int.mul_nonneg (by have := h.f0; omega) (by omega)) (by omega)
 have h4 := h.s0
 unfold timeR at *
 omega
theorem record_time_eq {r : Record} (h : RF r) {i : Int} (i0 : 0 ≤ i) (i1 : i ≤ r.Samples.length) : record_time r i = some (timeR r i) := by
 have a3 := h.f0
 have a4 := h.f1
 unfold record_time
 rw [w64_id (by omega) (by omega), rate_Time_eq, h.timeV i0 i1]
 rfl
/-- a part of a record -/
def subR (r : Record) (a b : Nat) : Record := ⟨r.Source, r.Start, r.First + a, r.Rate, r.Error, r.Run, r.Seq, (r.Samples.take b).drop a⟩
theorem subR_time (r : Record) (a b : Nat) (i : Int) : timeR (subR r a b) i = timeR r (a + i) := by
 simp only [timeR, subR]
 rw [show r.First + (a : Int) + i = r.First + (a + i) by omega]
theorem subR_len (r : Record) (a b : Nat) (hb : b ≤ r.Samples.length) : (subR r a b).Samples.length = b - a := by
 simp [subR]; omega
theorem RF.sub {r : Record} (h : RF r) {a b : Nat} (hab : a < b) (hb : b ≤ r.Samples.length) : RF (subR r a b) := by
 have hl := subR_len r a b hb
 have l1 := h.l1
 have f0 := h.f0
 have f1 := h.f1
 have ht := h.mono (i := b) (j := r.Samples.length) (by omega)
 have te := h.te
 refine ⟨h.src, by omega, by omega, by simp only [subR]; omega, by rw [hl]; simp only [subR]; omega, h.e0, h.e1, h.r0, h.r1, h.q0, h.q1, h.rv, h.s0, h.s1, ?_, ?_⟩
 ·have e := subR_time r a b ((subR r a b).Samples.length)
  rw [hl] at e
  have e2 : (a : Int) + ((b - a : Nat) : Int) = b := by omega
  rw [e2] at e
  rw [hl]
  unfold timeR at e ht
  rw [e]
  omega
 ·rw [smpB_iff]
  intro x hx
  exact smpB_iff.1 h.smp x (List.mem_of_mem_take (List.mem_of_mem_drop hx))
end Go.Proofs.YthdimlepjpnncaaGreat.Sh

/- Records as plain programs: Sub, Span, At, Follows, Same (chapter 14). -/
namespace Go.Proofs.YthdimlepjpnncaaGreat.Sh
open Go
set_option linter.unusedVariables false
set_option linter.unusedSimpArgs false
theorem clone_int (s : List Int) (h : s.length ≤ 1000000) : slices_Clone_Lint_int s = some s := by
 unfold slices_Clone_Lint_int
 rw [appM_one _ _ _ (by simpa using h) (by decide)]
 rfl
theorem sub_eq {r : Record} (h : RF r) {a b : Nat} (hab : a ≤ b) (hb : b ≤ r.Samples.length) : record_sub r a b = some (subR r a b) := by
 have f0 := h.f0
 have f1 := h.f1
 have l1 := h.l1
 unfold record_sub
 rw [sub_at _ _ _ hab hb]
 simp only [Option.bind]
 rw [clone_int _ (by simp; omega), w64_id (x := r.First + (a : Int)) (by omega) (by omega)]
 rfl
theorem Sub_eq {r : Record} (h : RF r) {a b : Nat} (hab : a < b) (hb : b ≤ r.Samples.length) : record_Sub r a b = some (subR r a b, 0) := by
 unfold record_Sub
 rw [h.valid]
 simp only [Option.bind, Bool.not_true, Bool.false_eq_true, if_false]
 rw [if_neg (by simp; omega), sub_eq h (by omega) hb]
theorem equal_int (a b : List Int) (h : a.length ≤ 1000000000) : slices_Equal_Lint_int a b = some (decide (a = b)) := by
 unfold slices_Equal_Lint_int
 by_cases hl : a.length = b.length
 ·rw [if_neg (by simp [hl])]
  refine loop_same a b (fun x y => x == y) (fun x y => by simp) hl (fun i hi he => ?_) (fun i hi he => ?_) ?_
  ·simp only [slices_Equal_Lint_int_l2]
   rw [if_pos (decide_eq_true (by omega)), ix_nat _ _ hi, ix_nat _ _ (show i < b.length by omega)]
   simp only [Option.bind, bne, he, Bool.not_true, Bool.false_eq_true, if_false]
   rw [w64_id (by omega) (by omega)]
   rfl
  ·simp only [slices_Equal_Lint_int_l2]
   rw [if_pos (decide_eq_true (by omega)), ix_nat _ _ hi, ix_nat _ _ (show i < b.length by omega)]
   simp only [Option.bind, bne, he, Bool.not_false, if_true]
  ·simp only [slices_Equal_Lint_int_l2]
   rw [if_neg (by simp)]
   rfl
 ·rw [if_pos (by simp; omega), decide_eq_false (fun h => hl (by rw [h]))]
theorem ba_beq (a b : ByteArray) : (a == b) = decide (a = b) := by
 cases a with | mk x => cases b with | mk y =>
 show (x == y) = _
 rw [Bool.eq_iff_iff]; simp
theorem ba_refl (a : ByteArray) : (a == a) = true := by rw [ba_beq, decide_eq_true rfl]
end Go.Proofs.YthdimlepjpnncaaGreat.Sh

/- Compare, Better and Same of records as plain programs: strict total orders (chapters 3 and 14). -/
namespace Go.Proofs.YthdimlepjpnncaaGreat.Sh
open Go
set_option linter.unusedVariables false
set_option linter.unusedSimpArgs false
theorem cmp_int_eq (x y : Int) : cmp_Compare_int x y = some (cmpI x y) := by
 unfold cmp_Compare_int cmp_isNaN_int cmpI
 simp only [bne_self_eq_false, Option.bind, Bool.false_eq_true, if_false]
 by_cases h1 : x < y
 ·simp [h1]
 ·by_cases h2 : y < x
  ·simp [h1, h2]
  ·simp [h1, h2]
theorem cmp_string_eq (x y : ByteArray) : cmp_Compare_string x y = some (cmpS x y) := by
 unfold cmp_Compare_string cmp_isNaN_string
 rw [cmpS_spell]
 simp only [beq_self_eq_true, Bool.not_true, Option.bind, Bool.false_eq_true, if_false]
 cases Op.bytesLess x.toList y.toList
 ·cases (x.toList == y.toList) <;> simp
 ·simp
theorem or_int_eq (l : List Int) (hl : l.length ≤ 1000000) : cmp_Or_int l = some (orL l) := by
 unfold cmp_Or_int
 have key : ∀ m, m ≤ l.length → whileM (cmp_Or_int_l2 l) ((l.length - m : Nat) : Int) = some (orL (l.drop (l.length - m))) := by
  intro m
  induction m with
  | zero =>
   intro _
   rw [whileM_eq, Nat.sub_zero]
   unfold cmp_Or_int_l2
   rw [if_neg (by simp)]
   simp [orL]
  | succ m ih =>
   intro hm
   have ih := ih (by omega)
   rw [show l.length - m = l.length - (m + 1) + 1 by omega] at ih
   have hi : l.length - (m + 1) < l.length := by omega
   rw [whileM_eq]
   unfold cmp_Or_int_l2
   rw [if_pos (decide_eq_true (by omega)), ix_nat _ _ hi, List.drop_eq_getElem_cons hi]
   simp only [Option.bind, orL]
   by_cases hx : l[l.length - (m + 1)] = 0
   ·rw [if_neg (by simp [hx]), if_neg (by omega), w64_id (by omega) (by omega)]
    exact ih
   ·rw [if_pos (by simpa using hx), if_pos hx]
 have := key l.length (Nat.le_refl _)
 rw [Nat.sub_self] at this
 exact this
theorem lex_int_eq (a b : List Int) (ha : a.length ≤ 1000000000) : slices_Compare_Lint_int a b = some (lexL cmpI a b) := by
 unfold slices_Compare_Lint_int
 have key : ∀ m, m ≤ a.length → a.length - m ≤ b.length → whileM (slices_Compare_Lint_int_l2 a b) ((a.length - m : Nat) : Int) = some (lexL cmpI (a.drop (a.length - m)) (b.drop (a.length - m))) := by
  intro m
  induction m with
  | zero =>
   intro _ hb
   rw [whileM_eq, Nat.sub_zero]
   unfold slices_Compare_Lint_int_l2
   rw [if_neg (by simp)]
   simp only [Option.map, Option.bind, List.drop_length]
   by_cases hl : a.length < b.length
   ·rw [if_pos (decide_eq_true (by omega)), List.drop_eq_getElem_cons hl]
    rfl
   ·rw [if_neg (by simpa using hl), List.drop_eq_nil_of_le (by omega)]
    rfl
  | succ m ih =>
   intro hm hb
   have hi : a.length - (m + 1) < a.length := by omega
   obtain ⟨i, hie⟩ : ∃ i, a.length - (m + 1) = i := ⟨_, rfl⟩
   have hm2 : a.length - m = i + 1 := by omega
   rw [hie] at hi hb ⊢
   by_cases hl : i < b.length
   ·have ih := ih (by omega) (by omega)
    rw [hm2] at ih
    have step : slices_Compare_Lint_int_l2 a b (i : Int) = if cmpI a[i] b[i] = 0 then some (.inl ((i + 1 : Nat) : Int)) else some (.inr (cmpI a[i] b[i])) := by
     unfold slices_Compare_Lint_int_l2
     rw [if_pos (decide_eq_true (by omega)), ix_nat _ _ hi]
     simp only [Option.bind]
     rw [if_neg (by simp; omega), ix_nat _ _ hl]
     simp only [cmp_int_eq]
     by_cases hx : cmpI a[i] b[i] = 0
     ·rw [if_neg (by simp [hx]), if_pos hx, w64_id (by omega) (by omega)]
      rfl
     ·rw [if_pos (by simpa using hx), if_neg hx]
    rw [whileM_eq, step, List.drop_eq_getElem_cons hi, List.drop_eq_getElem_cons hl]
    simp only [lexL]
    by_cases hx : cmpI a[i] b[i] = 0
    ·rw [if_pos hx, if_neg (by omega)]
     exact ih
    ·rw [if_neg hx, if_pos hx]
     rfl
   ·have step : slices_Compare_Lint_int_l2 a b (i : Int) = some (.inr 1) := by
     unfold slices_Compare_Lint_int_l2
     rw [if_pos (decide_eq_true (by omega)), ix_nat _ _ hi]
     simp only [Option.bind]
     rw [if_pos (decide_eq_true (by omega))]
    rw [whileM_eq, step, List.drop_eq_getElem_cons hi, List.drop_eq_nil_of_le (by omega : b.length ≤ i)]
    rfl
 have := key a.length (Nat.le_refl _) (by omega)
 rw [Nat.sub_self] at this
 exact this
def cmpSrc (a b : SourceID) : Int := andThen (fun a b => cmpS a.Network b.Network) (andThen (fun a b => cmpS a.Station b.Station) (andThen (fun a b => cmpS a.Location b.Location) (fun a b => cmpS a.Channel b.Channel))) a b
theorem cmpSrc_cmp : Cmp cmpSrc := (cmpS_cmp.by (fun s : SourceID => s.Network)).andThen ((cmpS_cmp.by (fun s : SourceID => s.Station)).andThen ((cmpS_cmp.by (fun s : SourceID => s.Location)).andThen (cmpS_cmp.by (fun s : SourceID => s.Channel))))
theorem cmpSrc_eq {a b : SourceID} (h : cmpSrc a b = 0) : a = b := by
 unfold cmpSrc andThen at h
 have h1 : cmpS a.Network b.Network = 0 := Classical.byContradiction fun hn => by rw [if_pos hn] at h; exact hn h
 rw [if_neg (by omega)] at h
 have h2 : cmpS a.Station b.Station = 0 := Classical.byContradiction fun hn => by rw [if_pos hn] at h; exact hn h
 rw [if_neg (by omega)] at h
 have h3 : cmpS a.Location b.Location = 0 := Classical.byContradiction fun hn => by rw [if_pos hn] at h; exact hn h
 rw [if_neg (by omega)] at h
 cases a; cases b
 simp only [SourceID.mk.injEq]
 exact ⟨cmpS_eq h1, cmpS_eq h2, cmpS_eq h3, cmpS_eq h⟩
theorem source_Compare_eq (a b : SourceID) : source_Compare a b = some (cmpSrc a b) := by
 unfold source_Compare
 simp only [cmp_string_eq, Option.bind]
 rw [or_int_eq _ (by simp)]
 simp only [orL, cmpSrc, andThen, Option.some.injEq]
 split
 ·rfl
 ·split
  ·rfl
  ·split
   ·rfl
   ·split <;> omega
/-- when the first sample is, 0 for records that are not valid -/
def begR (r : Record) : Int := if recB r = true then timeR r 0 else 0
structure RSm (r : Record) : Prop where
 src : SrcSm r.Source
 len : r.Samples.length ≤ 1000000000
theorem RF.sm {r : Record} (h : RF r) : RSm r := ⟨srcB_sm h.src, by have := h.l1; omega⟩
theorem begin_eq {r : Record} (h : RSm r) : record_begin r = some (begR r) := by
 unfold record_begin begR
 rw [record_Valid_eq h.src h.len]
 simp only [Option.bind]
 by_cases hb : recB r = true
 ·have hr := recB_iff.1 hb
  rw [hb, record_time_eq hr (Int.le_refl 0) (by omega)]
  rfl
 ·simp only [Bool.not_eq_true] at hb
  rw [hb]; rfl
def cmpR (a b : Record) : Int :=
 andThen (fun a b => cmpSrc a.Source b.Source) (andThen (fun a b => cmpI (begR a) (begR b)) (andThen (fun a b => cmpI a.Start b.Start) (andThen (fun a b => cmpI a.First b.First) (andThen (fun a b => cmpI a.Rate.Num b.Rate.Num)
  (andThen (fun a b => cmpI a.Rate.Den b.Rate.Den) (andThen (fun a b => cmpI a.Error b.Error) (andThen (fun a b => cmpI a.Run b.Run) (andThen (fun a b => cmpI a.Seq b.Seq) (andThen (fun a b => cmpI a.Samples.length b.Samples.length) (fun a b => lexL cmpI a.Samples b.Samples)))))))))) a b
theorem cmpR_cmp : Cmp cmpR :=
 (cmpSrc_cmp.by (fun r : Record => r.Source)).andThen ((cmpI_cmp.by begR).andThen ((cmpI_cmp.by (fun r : Record => r.Start)).andThen ((cmpI_cmp.by (fun r : Record => r.First)).andThen ((cmpI_cmp.by (fun r : Record => r.Rate.Num)).andThen
  ((cmpI_cmp.by (fun r : Record => r.Rate.Den)).andThen ((cmpI_cmp.by (fun r : Record => r.Error)).andThen ((cmpI_cmp.by (fun r : Record => r.Run)).andThen ((cmpI_cmp.by (fun r : Record => r.Seq)).andThen ((cmpI_cmp.by (fun r : Record => (r.Samples.length : Int))).andThen ((lexL_cmp cmpI_cmp).by (fun r : Record => r.Samples)))))))))))
theorem andThen_zero {α : Type} {c d : α → α → Int} {a b : α} (h : andThen c d a b = 0) : c a b = 0 ∧ d a b = 0 := by
 unfold andThen at h
 split at h
 ·next hn => exact absurd h hn
 ·next hn => exact ⟨by omega, h⟩
theorem cmpR_eq {a b : Record} (h : cmpR a b = 0) : a = b := by
 obtain ⟨h1, h⟩ := andThen_zero h
 obtain ⟨h2, h⟩ := andThen_zero h
 obtain ⟨h3, h⟩ := andThen_zero h
 obtain ⟨h4, h⟩ := andThen_zero h
 obtain ⟨h5, h⟩ := andThen_zero h
 obtain ⟨h6, h⟩ := andThen_zero h
 obtain ⟨h7, h⟩ := andThen_zero h
 obtain ⟨h8, h⟩ := andThen_zero h
 obtain ⟨h9, h⟩ := andThen_zero h
 obtain ⟨h10, h⟩ := andThen_zero h
 have e1 := cmpSrc_eq h1
 have e3 := cmpI_eq h3
 have e4 := cmpI_eq h4
 have e5 := cmpI_eq h5
 have e6 := cmpI_eq h6
 have e7 := cmpI_eq h7
 have e8 := cmpI_eq h8
 have e9 := cmpI_eq h9
 have e11 := lexL_eq (fun _ _ => cmpI_eq) _ _ h
 obtain ⟨a1, a2, a3, ⟨a4, a5⟩, a6, a7, a8, a9⟩ := a
 obtain ⟨b1, b2, b3, ⟨b4, b5⟩, b6, b7, b8, b9⟩ := b
 simp only at e1 e3 e4 e5 e6 e7 e8 e9 e11
 subst e1 e3 e4 e5 e6 e7 e8 e9 e11
 rfl
theorem record_Compare_eq {a b : Record} (ha : RSm a) (hb : RSm b) : record_Compare a b = some (cmpR a b) := by
 unfold record_Compare
 rw [source_Compare_eq, begin_eq ha, begin_eq hb, lex_int_eq _ _ ha.len]
 simp only [cmp_int_eq, Option.bind]
 rw [or_int_eq _ (by simp)]
 simp only [orL, cmpR, andThen, Option.some.injEq]
 repeat' (first | rfl | (split <;> (try rfl)))
 all_goals omega
def betR (a b : Record) : Int := andThen (fun a b => cmpI a.Error b.Error) (andThen (fun a b => cmpI b.Run a.Run) (andThen (fun a b => cmpI b.Seq a.Seq) cmpR)) a b
theorem betR_cmp : Cmp betR := (cmpI_cmp.by (fun r : Record => r.Error)).andThen ((cmpI_cmp.by (fun r : Record => r.Run)).rev.andThen ((cmpI_cmp.by (fun r : Record => r.Seq)).rev.andThen cmpR_cmp))
theorem betR_zero {a b : Record} (h : betR a b = 0) : a = b := by
 obtain ⟨_, h⟩ := andThen_zero h
 obtain ⟨_, h⟩ := andThen_zero h
 obtain ⟨_, h⟩ := andThen_zero h
 exact cmpR_eq h
theorem record_Better_eq {a b : Record} (ha : RSm a) (hb : RSm b) : record_Better a b = some (decide (betR a b < 0)) := by
 unfold record_Better
 rw [record_Compare_eq ha hb]
 simp only [cmp_int_eq, Option.bind]
 rw [or_int_eq _ (by simp)]
 have e : orL [cmpI a.Error b.Error, cmpI b.Run a.Run, cmpI b.Seq a.Seq, cmpR a b] = betR a b := by
  simp only [orL, betR, andThen]
  repeat' (first | rfl | (split <;> (try rfl)))
  all_goals omega
 rw [e]
open Classical in
theorem record_Same_eq {a b : Record} (ha : RSm a) : record_Same a b = some (decide (a = b)) := by
 unfold record_Same
 rw [equal_int _ _ ha.len]
 simp only [ba_beq, Bool.and_true]
 obtain ⟨⟨s1, s2, s3, s4⟩, a2, a3, ⟨a4, a5⟩, a6, a7, a8, a9⟩ := a
 obtain ⟨⟨t1, t2, t3, t4⟩, b2, b3, ⟨b4, b5⟩, b6, b7, b8, b9⟩ := b
 simp only [Record.mk.injEq, SourceID.mk.injEq, Rate.mk.injEq, Option.bind]
 by_cases c1 : s1 = t1 <;> by_cases c2 : s2 = t2 <;> by_cases c3 : s3 = t3 <;> by_cases c4 : s4 = t4 <;> try (simp [c1, c2, c3, c4]; done)
 by_cases c5 : a2 = b2 <;> by_cases c6 : a3 = b3 <;> by_cases c7 : a4 = b4 <;> by_cases c8 : a5 = b5 <;> try (simp [c5, c6, c7, c8]; done)
 by_cases c9 : a6 = b6 <;> by_cases c10 : a7 = b7 <;> by_cases c11 : a8 = b8 <;> simp [c1, c2, c3, c4, c5, c6, c7, c8, c9, c10, c11]
end Go.Proofs.YthdimlepjpnncaaGreat.Sh

/- Composition of records as plain programs (chapter 15): order, what is kept, runs. -/
namespace Go.Proofs.YthdimlepjpnncaaGreat.Sh
open Go
set_option linter.unusedVariables false
set_option linter.unusedSimpArgs false
/-- a valid list -/
structure VL (l : List Record) : Prop where
 rf : ∀ r ∈ l, RF r
 src : ∀ r ∈ l, ∀ q ∈ l, r.Source = q.Source
theorem VL.sub {l m : List Record} (h : VL l) (hm : ∀ r ∈ m, r ∈ l) : VL m := ⟨fun r hr => h.rf r (hm r hr), fun r hr q hq => h.src r (hm r hr) q (hm q hq)⟩
theorem alike1_ok {l : List Record} (h : VL l) {r : Record} (hr : r ∈ l) : compose_alike_fn1 r l = some false := by
 unfold compose_alike_fn1
 rw [(h.rf r hr).valid]
 simp only [Option.bind_some, Bool.not_true, Bool.false_eq_true, if_false]
 cases l with
 | nil => cases hr
 | cons a l =>
  rw [show ix (a :: l) 0 = some a from rfl]
  have := h.src r hr a List.mem_cons_self
  simp only [Option.bind_some]
  rw [this]
  simp only [ba_refl, Bool.and_self, Bool.not_true]
theorem alike_ok {l : List Record} (h : VL l) (hl : l.length ≤ 1000000) : compose_alike l = some true := by
 unfold compose_alike slices_ContainsFunc_Lapi_Record_api_Record slices_IndexFunc_Lapi_Record_api_Record
 have : whileM (slices_IndexFunc_Lapi_Record_api_Record_l2 l (fun y0 => compose_alike_fn1 y0 l)) 0 = some (-1) := by
  refine whileM_for' (fun i => (i : Int)) l.length _ rfl (fun i hi => ?_) ?_
  ·unfold slices_IndexFunc_Lapi_Record_api_Record_l2
   rw [if_pos (decide_eq_true (by omega)), ix_nat _ _ hi]
   simp only [Option.bind_some]
   rw [alike1_ok h (List.getElem_mem hi)]
   simp only [Option.bind_some, Bool.false_eq_true, if_false]
   rw [w64_n (by omega)]
  ·unfold slices_IndexFunc_Lapi_Record_api_Record_l2
   rw [if_neg (by simp)]
   rfl
 rw [this]
 rfl
theorem valid_ok {l : List Record} (h : VL l) (hl : l.length ≤ 256) : compose_Valid l = some true := by
 unfold compose_Valid
 rw [if_pos (decide_eq_true (by omega)), alike_ok h (by omega)]
 rfl
/-! ### the list in order, each once -/
def rec0 : Record := ⟨(⟨ByteArray.empty, ByteArray.empty, ByteArray.empty, ByteArray.empty⟩ : SourceID), 0, 0, (⟨0, 0⟩ : Rate), 0, 0, 0, ([] : List Int)⟩
theorem compact_rec (l : List Record) : slices_CompactFunc_Lapi_Record_api_Record l record_Same = compact_G rec0 record_Same l := rfl
theorem cmpR_tot {x y : Record} (h1 : decide (cmpR x y < 0) = false) (h2 : decide (cmpR y x < 0) = false) : x = y := by
 simp only [decide_eq_false_iff_not] at h1 h2
 have := cmpR_cmp.anti x y
 exact cmpR_eq (by omega)
theorem sortR_spec {l : List Record} (hs : ∀ r ∈ l, RSm r) (hl : l.length ≤ 1000000) : ∃ m, slices_SortFunc_Lapi_Record_api_Record l record_Compare = some m ∧ m.Perm l ∧ m.Pairwise (fun s t => cmpR s t ≤ 0) := by
 have hok : CmpOK RSm record_Compare (fun x y => decide (cmpR x y < 0)) := cmpR_cmp.ok fun x y hx hy => record_Compare_eq hx hy
 obtain ⟨m, em, hp, hn, hsr⟩ := sort_spec hok hs (by omega)
 refine ⟨m, ?_, hp, ?_⟩
 ·show sortM l record_Compare = some m
  rw [sortM_eq hok hs (fun x y _ _ h1 h2 => cmpR_tot h1 h2), em]
 ·rw [← hn] at hsr
  exact hsr.cpw cmpR_cmp
theorem order_ok {l : List Record} (h : VL l) (hl : l.length ≤ 1000) : compose_order l = some (sset cmpR l) := by
 unfold compose_order slices_Clone_Lapi_Record_api_Record
 rw [appM_one _ _ _ (by simp; omega) (by decide)]
 simp only [Option.bind_some, List.nil_append]
 have hw : whileM (compose_order_l1 l) (l, 0) = some l := by
  refine whileM_for' (fun i => (l, (i : Int))) l.length _ rfl (fun i hi => ?_) ?_
  ·have hr := h.rf _ (List.getElem_mem hi)
   have l1 := hr.l1
   unfold compose_order_l1
   simp only
   rw [if_pos (decide_eq_true (by omega)), ix_nat _ _ hi]
   simp only [Option.bind_some]
   rw [clone_int _ (by omega)]
   simp only [Option.bind_some]
   rw [setM_at _ _ _ (by omega) (by omega), w64_n (by omega)]
   simp only [Option.bind_some, Int.toNat_natCast]
   have e : (⟨l[i].Source, l[i].Start, l[i].First, l[i].Rate, l[i].Error, l[i].Run, l[i].Seq, l[i].Samples⟩ : Record) = l[i] := rfl
   rw [e, List.set_getElem_self]
  ·unfold compose_order_l1
   simp only
   rw [if_neg (by simp)]
 rw [hw]
 simp only [Option.bind_some]
 have hs : ∀ r ∈ l, RSm r := fun r hr => (h.rf r hr).sm
 have hok : CmpOK RSm record_Compare (fun x y => decide (cmpR x y < 0)) := cmpR_cmp.ok fun x y hx hy => record_Compare_eq hx hy
 open Classical in
 obtain ⟨m, e1, e2⟩ := setsort_spec cmpR_cmp (fun _ _ => cmpR_eq) (f := record_Compare) (g := record_Same) (eq := fun a b => decide (a = b)) rec0 (l := l) (P := RSm) hs (fun x y hx hy => record_Compare_eq hx hy) (fun x y hx _ => record_Same_eq hx) (fun x y _ _ => by simp) (by omega)
 have e1' : slices_SortFunc_Lapi_Record_api_Record l record_Compare = some m := by
  show sortM l record_Compare = some m
  rw [sortM_eq hok hs (fun x y _ _ h1 h2 => cmpR_tot h1 h2), e1]
 rw [e1']
 simp only [Option.bind_some]
 rw [compact_rec, e2]
 rfl
/-! ### times -/
theorem at_ok {r : Record} (h : RF r) {i : Int} (i0 : 0 ≤ i) (i1 : i ≤ r.Samples.length) : compose_at r i = some (timeR r i) := by
 have f0 := h.f0; have f1 := h.f1
 unfold compose_at
 rw [w64_id (by omega) (by omega), rate_Time_eq, h.timeV i0 i1]
 rfl
def extR (r : Record) : Span := ⟨timeR r 0, timeR r r.Samples.length⟩
theorem extent_ok {r : Record} (h : RF r) : compose_extent r = some (extR r) := by
 unfold compose_extent
 rw [at_ok h (Int.le_refl 0) (by omega), at_ok h (by omega) (Int.le_refl _)]
 rfl
theorem RF.lt {r : Record} (h : RF r) {i j : Int} (hij : i < j) : timeR r i < timeR r j := by
 have n0 := h.rv.n0; have n1 := h.rv.n1; have d0 := h.rv.d0
 have h1 : timeR r i < timeR r (i + 1) := by
  unfold timeR
  have e : (r.First + (i + 1)) * (r.Rate.Den * 1000000) = (r.First + i) * (r.Rate.Den * 1000000) + r.Rate.Den * 1000000 := by
   rw [← Int.add_assoc, Int.add_mul, Int.one_mul]
  have h2 : (r.First + i) * (r.Rate.Den * 1000000) + r.Rate.Num * 1 ≤ (r.First + (i + 1)) * (r.Rate.Den * 1000000) := by rw [e]; omega
  have h3 := Int.ediv_le_ediv (show 0 < r.Rate.Num by omega) h2
  rw [Int.add_mul_ediv_left _ _ (show r.Rate.Num ≠ 0 by omega)] at h3
  omega
 exact Int.lt_of_lt_of_le h1 (h.mono (by omega))
def timesR (r : Record) (n : Nat) : List Int := (List.range n).map fun (i : Nat) => timeR r (i : Int)
theorem timesR_succ (r : Record) (n : Nat) : timesR r (n + 1) = timesR r n ++ [timeR r (n : Int)] := by simp [timesR, List.range_succ]
theorem times_ok {r : Record} (h : RF r) : compose_times r = some (timesR r (r.Samples.length + 1)) := by
 have l1 := h.l1
 unfold compose_times
 have : whileM (compose_times_l1 r) (([] : List Int), 0) = some (timesR r (r.Samples.length + 1)) := by
  refine whileM_for' (fun i => (timesR r i, (i : Int))) (r.Samples.length + 1) _ rfl (fun i hi => ?_) ?_
  ·unfold compose_times_l1
   simp only
   rw [w64_n (by omega), if_pos (decide_eq_true (by omega)), at_ok h (by omega) (by omega)]
   simp only [Option.bind_some]
   rw [appM_one _ _ _ (by simp [timesR]; omega) (by decide), w64_n (by omega), timesR_succ]
   rfl
  ·unfold compose_times_l1
   simp only
   rw [w64_n (by omega), if_neg (by simp)]
 rw [this]
 rfl
/-! ### what is kept -/
/-- a span meets a sample -/
def meets (r : Record) (i : Nat) (s : Span) : Bool := decide (s.From < timeR r ((i : Int) + 1)) && decide (timeR r (i : Int) < s.To)
def keepB (r : Record) (better : List Span) (i : Nat) : Bool := better.all fun s => !(meets r i s)
def keepL (r : Record) (better : List Span) (n : Nat) : List Bool := (List.range n).map (keepB r better)
theorem keepL_succ (r : Record) (better : List Span) (n : Nat) : keepL r better (n + 1) = keepL r better n ++ [keepB r better n] := by simp [keepL, List.range_succ]
theorem timesR_at (r : Record) {i n : Nat} (h : i < n) : ix (timesR r n) (i : Int) = some (timeR r (i : Int)) := by
 rw [ix_nat _ _ (by simpa [timesR] using h)]
 simp [timesR]
theorem kept_ok {r : Record} (h : RF r) {better : List Span} (hv : VS better) (hb : better.length ≤ 100000) : compose_kept r better = some (keepL r better r.Samples.length) := by
 have l1 := h.l1
 unfold compose_kept
 rw [times_ok h]
 simp only [Option.bind_some]
 rw [makeM_at _ _ _ (by omega) (by omega) (by decide)]
 simp only [Option.bind_some, Int.toNat_natCast]
 obtain ⟨n, hn⟩ : ∃ n, r.Samples.length = n := ⟨_, rfl⟩
 rw [hn]
 suffices key : ∃ o, whileM (compose_kept_l3 better (timesR r (n + 1)) (List.replicate n false)) (List.replicate n false, 0, 0) = some o ∧ o = keepL r better n by
  obtain ⟨o, eo, ho⟩ := key
  rw [eo, ho]
  rfl
 refine loop_fold (body := compose_kept_l3 better (timesR r (n + 1)) (List.replicate n false)) (fun (a : List Bool × Nat) i => (a.1, (a.2 : Int), i)) n
  (fun i a => a.1 = keepL r better i ++ List.replicate (n - i) false ∧ a.2 ≤ better.length ∧ ∀ j (hj : j < better.length), j < a.2 → better[j].To ≤ timeR r (i : Int))
  (fun o => o = keepL r better n) (fun i hi a ⟨g1, g2, g3⟩ => ?_) (fun a ⟨g1, g2, g3⟩ => ?_) (List.replicate n false, 0) ⟨by simp [keepL], Nat.zero_le _, fun j _ hj => by omega⟩
 ·obtain ⟨out, k⟩ := a
  simp only at g1 g2 g3
  obtain ⟨k', ek, q, hq, k1, k2, k3⟩ := loop_ex (b1 := compose_kept_l6 better (timesR r (n + 1)) (out, (k : Int), (i : Int)))
   (fun m s => ∃ q : Nat, s = (q : Int) ∧ m + q = better.length ∧ q ≤ better.length ∧ ∀ j (hj : j < better.length), j < q → better[j].To ≤ timeR r (i : Int))
   (fun s => ∃ q : Nat, s = (q : Int) ∧ q ≤ better.length ∧ (∀ j (hj : j < better.length), j < q → better[j].To ≤ timeR r (i : Int)) ∧ (q = better.length ∨ ∃ hj : q < better.length, timeR r (i : Int) < better[q].To)) (by
    rintro m s ⟨q, rfl, hm, q1, q2⟩
    unfold compose_kept_l6
    simp only
    by_cases hlt : q < better.length
    ·rw [if_pos (decide_eq_true (by omega)), ix_nat _ _ hlt, timesR_at r (by omega)]
     simp only [Option.bind_some]
     by_cases hc : better[q].To ≤ timeR r (i : Int)
     ·left
      rw [if_pos (decide_eq_true hc), w64_n (by omega)]
      refine ⟨_, m - 1, rfl, ⟨q + 1, rfl, by omega, by omega, fun j hj hjq => ?_⟩, by omega⟩
      by_cases e : j = q
      ·subst e; exact hc
      ·exact q2 j hj (by omega)
     ·right
      rw [if_neg (by simpa using hc)]
      exact ⟨_, rfl, q, rfl, q1, q2, .inr ⟨hlt, by omega⟩⟩
    ·right
     rw [if_neg (by simp; omega)]
     simp only [Option.bind_some, Bool.false_eq_true, if_false]
     exact ⟨_, rfl, q, rfl, q1, q2, .inl (by omega)⟩) (better.length - k) (k : Int) ⟨k, rfl, by omega, g2, g3⟩
  subst hq
  have hol : out.length = n := by rw [g1]; simp [keepL]; omega
  have hkb : (if ((q : Int) == (better.length : Int)) = true then some true else (ix better (q : Int)).bind fun x798 => (ix (timesR r (n + 1)) (w64 ((i : Int) + 1))).bind fun x811 => some (decide (x811 ≤ x798.From))) = some (keepB r better i) := by
   rcases k3 with k3 | ⟨hj, k3⟩
   ·rw [if_pos (by simp [k3])]
    have : keepB r better i = true := by
     unfold keepB
     rw [List.all_eq_true]
     intro s hs
     obtain ⟨j, hj, e⟩ := List.mem_iff_getElem.1 hs
     have := k2 j hj (by omega)
     rw [e] at this
     unfold meets
     rw [decide_eq_false (show ¬ timeR r (i : Int) < s.To by omega)]
     simp
    rw [this]
   ·rw [if_neg (by simp; omega), ix_nat _ _ hj, w64_n (by omega), timesR_at r (by omega)]
    simp only [Option.bind_some, Option.some.injEq]
    have e1 : ((i + 1 : Nat) : Int) = (i : Int) + 1 := by omega
    rw [e1]
    by_cases hc : timeR r ((i : Int) + 1) ≤ better[q].From
    ·rw [decide_eq_true hc]
     symm
     unfold keepB
     rw [List.all_eq_true]
     intro s hs
     obtain ⟨j, hjl, e⟩ := List.mem_iff_getElem.1 hs
     unfold meets
     rcases Nat.lt_trichotomy j q with hlt | heq | hgt
     ·have := k2 j hjl hlt
      rw [e] at this
      rw [decide_eq_false (show ¬ timeR r (i : Int) < s.To by omega)]
      simp
     ·subst heq
      rw [e] at hc
      rw [decide_eq_false (show ¬ s.From < timeR r ((i : Int) + 1) by omega)]
      simp
     ·have h1 := List.pairwise_iff_getElem.1 hv.ap q j hj hjl hgt
      have h2 := hv.ne _ (List.getElem_mem hj)
      rw [e] at h1
      rw [decide_eq_false (show ¬ s.From < timeR r ((i : Int) + 1) by omega)]
      simp
    ·rw [decide_eq_false hc]
     symm
     unfold keepB
     rw [List.all_eq_false]
     refine ⟨better[q], List.getElem_mem hj, ?_⟩
     unfold meets
     rw [decide_eq_true (show better[q].From < timeR r ((i : Int) + 1) by omega), decide_eq_true k3]
     simp
  unfold compose_kept_l3
  simp only
  rw [if_pos (decide_eq_true (by simp; omega)), ek]
  simp only [Option.bind_some]
  rw [hkb]
  simp only [Option.bind_some]
  rw [ix_nat out i (by omega)]
  simp only [Option.bind_some]
  rw [setM_at _ _ _ (by omega) (by omega), w64_n (by omega)]
  simp only [Option.bind_some, Int.toNat_natCast]
  refine ⟨(out.set i (keepB r better i), q), rfl, ?_, k1, fun j hj hjq => ?_⟩
  ·simp only
   have hkl : (keepL r better i).length = i := by simp [keepL]
   rw [g1, keepL_succ, List.set_append, if_neg (by omega), hkl, Nat.sub_self]
   have : List.replicate (n - i) false = false :: List.replicate (n - (i + 1)) false := by
    rw [show n - i = n - (i + 1) + 1 by omega, List.replicate_succ]
   rw [this, List.set_cons_zero, List.append_assoc]
   rfl
  ·have := k2 j hj hjq
   have := h.mono (i := (i : Int)) (j := ((i + 1 : Nat) : Int)) (by omega)
   omega
 ·obtain ⟨out, k⟩ := a
  simp only at g1
  unfold compose_kept_l3
  simp only
  rw [if_neg (by simp)]
  refine ⟨_, rfl, ?_⟩
  rw [g1]
  simp
end Go.Proofs.YthdimlepjpnncaaGreat.Sh

/- Composition of records as plain programs (chapter 15): runs, and the whole. -/
namespace Go.Proofs.YthdimlepjpnncaaGreat.Sh
open Go
set_option linter.unusedVariables false
set_option linter.unusedSimpArgs false
/-- the longest runs of what is kept -/
structure RunsOf (k : Nat → Bool) (n : Nat) (P : List (Nat × Nat)) : Prop where
 ok : ∀ p ∈ P, p.1 < p.2 ∧ p.2 ≤ n ∧ (∀ i, p.1 ≤ i → i < p.2 → k i = true) ∧ (p.2 = n ∨ k p.2 = false)
 asc : P.Pairwise (fun p q => p.2 < q.1)
 all : ∀ i, i < n → k i = true → ∃ p ∈ P, p.1 ≤ i ∧ i < p.2
def subsR (r : Record) (P : List (Nat × Nat)) : List Record := P.map fun p => subR r p.1 p.2
theorem runs_ok {r : Record} (h : RF r) (k : Nat → Bool) : ∃ P, compose_runs r ((List.range r.Samples.length).map k) = some (subsR r P) ∧ RunsOf k r.Samples.length P ∧ P.length ≤ r.Samples.length + 1 := by
 have l1 := h.l1
 obtain ⟨n, hn⟩ : ∃ n, r.Samples.length = n := ⟨_, rfl⟩
 rw [hn]
 have hkl : ((List.range n).map k).length = n := by simp
 have hka : ∀ i (hi : i < n), ix ((List.range n).map k) (i : Int) = some (k i) := fun i hi => by
  rw [ix_nat _ _ (by simpa using hi)]; simp
 unfold compose_runs
 suffices hs : ∃ o, whileM (compose_runs_l3 r ((List.range n).map k)) (([] : List Record), 0) = some o ∧ ∃ P, o = subsR r P ∧ RunsOf k n P ∧ P.length ≤ n + 1 by
  obtain ⟨o, eo, P, hP, h1, h2⟩ := hs
  rw [eo]
  exact ⟨P, by rw [hP]; rfl, h1, h2⟩
 refine loop_ex (fun m s => ∃ (q : Nat) (P : List (Nat × Nat)), s = (subsR r P, (q : Int)) ∧ m + q = n + 1 ∧ q ≤ n + 1 ∧ P.length ≤ q ∧ (∀ p ∈ P, p.1 < p.2 ∧ p.2 ≤ n ∧ (∀ i, p.1 ≤ i → i < p.2 → k i = true) ∧ (p.2 = n ∨ k p.2 = false) ∧ p.2 < q) ∧ P.Pairwise (fun p q => p.2 < q.1) ∧ ∀ i, i < n → i < q → k i = true → ∃ p ∈ P, p.1 ≤ i ∧ i < p.2) _ ?_ (n + 1) _ ⟨0, [], rfl, rfl, Nat.zero_le _, Nat.le_refl _, by simp, List.Pairwise.nil, fun i _ hi => by omega⟩
 rintro m s ⟨q, P, rfl, hm, hq, hPl, h1, h2, h3⟩
 unfold compose_runs_l3
 simp only [hkl]
 by_cases hqn : q < n
 ·left
  rw [if_pos (decide_eq_true (by omega))]
  obtain ⟨o, eo, t, ht, t1, t2, t3, t4⟩ := loop_ex (b1 := compose_runs_l6 ((List.range n).map k))
   (fun m s => ∃ t : Nat, s = (t : Int) ∧ m + t = n ∧ q ≤ t ∧ t ≤ n ∧ ∀ i, q ≤ i → i < t → k i = true)
   (fun o => ∃ t : Nat, o = (t : Int) ∧ q ≤ t ∧ t ≤ n ∧ (∀ i, q ≤ i → i < t → k i = true) ∧ (t = n ∨ k t = false)) (by
    rintro m s ⟨t, rfl, hm, t1, t2, t3⟩
    unfold compose_runs_l6
    simp only [hkl]
    by_cases htn : t < n
    ·rw [if_pos (decide_eq_true (by omega)), hka t htn]
     simp only [Option.bind_some]
     by_cases hc : k t = true
     ·left
      rw [if_pos hc, w64_n (by omega)]
      refine ⟨_, m - 1, rfl, ⟨t + 1, rfl, by omega, by omega, by omega, fun i hi hit => ?_⟩, by omega⟩
      by_cases e : i = t
      ·subst e; exact hc
      ·exact t3 i hi (by omega)
     ·right
      rw [if_neg hc]
      exact ⟨_, rfl, t, rfl, t1, t2, t3, .inr (by simpa using hc)⟩
    ·right
     rw [if_neg (by simp; omega)]
     simp only [Option.bind_some, Bool.false_eq_true, if_false]
     exact ⟨_, rfl, t, rfl, t1, t2, t3, .inl (by omega)⟩) (n - q) (q : Int) ⟨q, rfl, by omega, Nat.le_refl _, by omega, fun i h1 h2 => by omega⟩
  subst ht
  rw [eo]
  simp only [Option.bind_some]
  unfold compose_runs_j2
  by_cases hc : q < t
  ·rw [if_pos (decide_eq_true (by omega)), Sub_eq h hc (by omega)]
   simp only [Option.bind_some]
   rw [appM_one _ _ _ (by simp [subsR]; omega) (by decide)]
   simp only [Option.bind_some]
   rw [w64_n (by omega)]
   refine ⟨_, m - (t + 1 - q), rfl, ⟨t + 1, P ++ [(q, t)], by simp [subsR], by omega, by omega, by simp; omega, fun p hp => ?_, ?_, fun i hi hit hk => ?_⟩, by omega⟩
   ·rcases List.mem_append.1 hp with hp | hp
    ·obtain ⟨a, b, c, d, e⟩ := h1 p hp
     exact ⟨a, b, c, d, by omega⟩
    ·rcases List.mem_singleton.1 hp with rfl
     exact ⟨hc, t2, t3, t4, by simp⟩
   ·rw [List.pairwise_append]
    refine ⟨h2, List.pairwise_singleton _ _, fun a ha b hb => ?_⟩
    rcases List.mem_singleton.1 hb with rfl
    exact (h1 a ha).2.2.2.2
   ·by_cases hiq : i < q
    ·obtain ⟨p, hp, e⟩ := h3 i hi hiq hk
     exact ⟨p, List.mem_append_left _ hp, e⟩
    ·by_cases e : i = t
     ·subst e
      rcases t4 with t4 | t4
      ·omega
      ·rw [t4] at hk; cases hk
     ·exact ⟨(q, t), List.mem_append_right _ List.mem_cons_self, by simp only; omega, by simp only; omega⟩
  ·rw [if_neg (by simp; omega), w64_n (by omega)]
   have e : t = q := by omega
   subst e
   refine ⟨_, m - 1, rfl, ⟨t + 1, P, rfl, by omega, by omega, by omega, fun p hp => ?_, h2, fun i hi hit hk => ?_⟩, by omega⟩
   ·obtain ⟨a, b, c, d, e⟩ := h1 p hp
    exact ⟨a, b, c, d, by omega⟩
   ·by_cases e : i = t
    ·subst e
     rcases t4 with t4 | t4
     ·omega
     ·rw [t4] at hk; cases hk
    ·exact h3 i hi (by omega) hk
 ·right
  rw [if_neg (by simp; omega)]
  exact ⟨_, rfl, P, rfl, ⟨fun p hp => by obtain ⟨a, b, c, d, e⟩ := h1 p hp; exact ⟨a, b, c, d⟩, h2, fun i hi hk => h3 i hi (by omega) hk⟩, by omega⟩
/-! ### better records -/
def betterL (all : List Record) (r : Record) : List Span := (all.filter fun b => decide (betR b r < 0)).map extR
/-- a sample is kept -/
def keepR (all : List Record) (r : Record) (i : Nat) : Bool := keepB r (betterL all r) i
theorem meets_iff {r : Record} (h : RF r) {i : Nat} {s : Span} (hs : s.From < s.To) : meets r i s = true ↔ ∃ y, timeR r (i : Int) ≤ y ∧ y < timeR r ((i : Int) + 1) ∧ s.From ≤ y ∧ y < s.To := by
 have hlt := h.lt (i := (i : Int)) (j := (i : Int) + 1) (by omega)
 unfold meets
 simp only [Bool.and_eq_true, decide_eq_true_eq]
 exact ⟨fun ⟨h1, h2⟩ => ⟨max (timeR r (i : Int)) s.From, by omega, by omega, by omega, by omega⟩, fun ⟨y, a, b, c, d⟩ => ⟨by omega, by omega⟩⟩
theorem keepB_iff {r : Record} (h : RF r) {i : Nat} {l : List Span} (hs : ∀ s ∈ l, s.From < s.To) : keepB r l i = true ↔ ∀ y, timeR r (i : Int) ≤ y → y < timeR r ((i : Int) + 1) → ¬ Mem l y := by
 unfold keepB
 rw [List.all_eq_true]
 constructor
 ·rintro hk y h1 h2 ⟨s, hm, h3, h4⟩
  have := hk s hm
  rw [(meets_iff h (hs s hm)).2 ⟨y, h1, h2, h3, h4⟩] at this
  cases this
 ·intro hk s hm
  cases hc : meets r i s with
  | false => rfl
  | true =>
   obtain ⟨y, a, b, c, d⟩ := (meets_iff h (hs s hm)).1 hc
   exact absurd ⟨s, hm, c, d⟩ (hk y a b)
theorem keepB_ns {r : Record} (h : RF r) {l m : List Span} (hl : ∀ s ∈ l, s.From < s.To) (hn : NS l m) (i : Nat) : keepB r m i = keepB r l i := by
 rw [Bool.eq_iff_iff, keepB_iff h hl, keepB_iff h hn.vs.ne]
 exact ⟨fun hk y a b hm => hk y a b ((hn.mem y).2 hm), fun hk y a b hm => hk y a b ((hn.mem y).1 hm)⟩
theorem extR_ne {r : Record} (h : RF r) : (extR r).From < (extR r).To := h.lt (by have := h.l0; omega)
theorem betterL_ne {all : List Record} (h : ∀ r ∈ all, RF r) (r : Record) : ∀ s ∈ betterL all r, s.From < s.To := fun s hs => by
 obtain ⟨b, hb, rfl⟩ := List.mem_map.1 hs
 exact extR_ne (h b (List.mem_filter.1 hb).1)
/-! ### the whole -/
open Classical in
noncomputable def runsR (all : List Record) (r : Record) : List (Nat × Nat) :=
 if h : ∃ P, compose_runs r ((List.range r.Samples.length).map (keepR all r)) = some (subsR r P) ∧ RunsOf (keepR all r) r.Samples.length P ∧ P.length ≤ r.Samples.length + 1 then Classical.choose h else []
theorem runsR_spec (all : List Record) {r : Record} (h : RF r) : compose_runs r ((List.range r.Samples.length).map (keepR all r)) = some (subsR r (runsR all r)) ∧ RunsOf (keepR all r) r.Samples.length (runsR all r) ∧ (runsR all r).length ≤ r.Samples.length + 1 := by
 have h0 := runs_ok h (keepR all r)
 unfold runsR
 rw [dif_pos h0]
 exact Classical.choose_spec h0
/-- the parts of a record that are kept -/
noncomputable def partsR (all : List Record) (r : Record) : List Record := subsR r (runsR all r)
/-- a valid list of few records -/
structure VS15 (l : List Record) : Prop extends VL l where
 len : l.length ≤ 100
 smp : ∀ r ∈ l, r.Samples.length ≤ 1000
theorem better_ok {all : List Record} (h : ∀ r ∈ all, RF r) (hl : all.length ≤ 1000) {r : Record} (hr : RF r) : whileM (compose_compose_l6 all r) (([] : List Span), 0) = some (betterL all r) := by
 refine whileM_for' (fun i => (betterL (all.take i) r, (i : Int))) all.length _ (by simp [betterL]) (fun i hi => ?_) ?_
 ·have hb := h _ (List.getElem_mem hi)
  have hlen : (betterL (all.take i) r).length ≤ i := by
   unfold betterL
   rw [List.length_map]
   exact Nat.le_trans (List.length_filter_le _ _) (List.length_take_le _ _)
  unfold compose_compose_l6
  simp only
  rw [if_pos (decide_eq_true (by omega)), ix_nat _ _ hi]
  simp only [Option.bind_some]
  rw [record_Better_eq hb.sm hr.sm]
  simp only [Option.bind_some]
  unfold compose_compose_j1
  have hone : betterL (all.take (i + 1)) r = betterL (all.take i) r ++ if betR all[i] r < 0 then [extR all[i]] else [] := by
   unfold betterL
   rw [take_one hi, List.filter_append, List.map_append]
   by_cases hc : betR all[i] r < 0 <;> simp [hc]
  rw [hone]
  by_cases hc : betR all[i] r < 0
  ·rw [if_pos (decide_eq_true hc), extent_ok hb, if_pos hc]
   simp only [Option.bind_some]
   rw [appM_one _ _ _ (by simp; omega) (by decide)]
   simp only [Option.bind_some]
   rw [w64_n (by omega)]
  ·rw [if_neg (by simpa using hc), if_neg hc]
   simp only
   rw [w64_n (by omega), List.append_nil]
 ·unfold compose_compose_l6
  simp only
  rw [if_neg (by simp), List.take_length]
theorem parts_sm {all : List Record} {r : Record} (h : RF r) : ∀ q ∈ partsR all r, ∃ a b : Nat, a < b ∧ b ≤ r.Samples.length ∧ q = subR r a b ∧ (a, b) ∈ runsR all r := fun q hq => by
 obtain ⟨p, hp, rfl⟩ := List.mem_map.1 hq
 obtain ⟨a, b, _⟩ := (runsR_spec all h).2.1.ok p hp
 exact ⟨p.1, p.2, a, b, rfl, hp⟩
theorem flat_len {α β : Type} (f : α → List β) (k : Nat) : ∀ (l : List α), (∀ x ∈ l, (f x).length ≤ k) → (l.flatMap f).length ≤ k * l.length
 | [], _ => by simp
 | a :: l, h => by
  have h1 := h a List.mem_cons_self
  have h2 := flat_len f k l fun x hx => h x (List.mem_cons_of_mem _ hx)
  rw [List.flatMap_cons, List.length_append, List.length_cons, Nat.mul_succ]
  omega
/-- what Compose gives: the kept parts of all records, in order -/
structure CompOf (l m : List Record) : Prop where
 perm : m.Perm ((sset cmpR l).flatMap (partsR (sset cmpR l)))
 asc : m.Pairwise (fun s t => cmpR s t ≤ 0)
theorem mem_ss {l : List Record} {r : Record} : r ∈ sset cmpR l ↔ r ∈ l := mem_sset fun _ _ => cmpR_eq
theorem comp_ok {l : List Record} (h : VS15 l) : ∃ m, compose_compose l = some m ∧ CompOf l m := by
 have hl := h.len
 unfold compose_compose
 rw [order_ok h.toVL (by omega)]
 simp only [Option.bind_some]
 obtain ⟨A, hA⟩ : ∃ A, sset cmpR l = A := ⟨_, rfl⟩
 have hAl : A.length ≤ l.length := by rw [← hA]; exact sset_len _ _
 have hAm : ∀ r ∈ A, r ∈ l := fun r hr => mem_ss.1 (hA ▸ hr)
 have hAr : ∀ r ∈ A, RF r := fun r hr => h.rf r (hAm r hr)
 rw [hA]
 have hw : whileM (compose_compose_l3 A) (([] : List Record), 0) = some (A.flatMap (partsR A)) := by
  refine whileM_for' (fun i => ((A.take i).flatMap (partsR A), (i : Int))) A.length _ (by simp) (fun i hi => ?_) ?_
  ·have hr := hAr _ (List.getElem_mem hi)
   have hpl : ∀ x ∈ A, (partsR A x).length ≤ 1001 := fun x hx => by
    have h1 := (runsR_spec A (hAr x hx)).2.2
    have h2 := h.smp x (hAm x hx)
    unfold partsR subsR
    rw [List.length_map]; omega
   have h1 := flat_len (partsR A) 1001 (A.take i) fun x hx => hpl x (List.mem_of_mem_take hx)
   have h2 := hpl _ (List.getElem_mem hi)
   rw [List.length_take] at h1
   unfold compose_compose_l3
   simp only
   rw [if_pos (decide_eq_true (by omega)), ix_nat _ _ hi]
   simp only [Option.bind_some]
   rw [better_ok hAr (by omega) hr]
   simp only [Option.bind_some]
   have hbl : (betterL A A[i]).length ≤ A.length := by
    unfold betterL
    rw [List.length_map]
    exact List.length_filter_le _ _
   obtain ⟨b, eb, hb⟩ := normal_spec (l := betterL A A[i]) (by omega)
   rw [eb]
   simp only [Option.bind_some]
   rw [kept_ok hr hb.vs (by have := hb.len; omega)]
   simp only [Option.bind_some]
   have hk : keepL A[i] b A[i].Samples.length = (List.range A[i].Samples.length).map (keepR A A[i]) := by
    unfold keepL
    exact List.map_congr_left fun j _ => keepB_ns hr (betterL_ne hAr _) hb j
   rw [hk, (runsR_spec A hr).1]
   simp only [Option.bind_some]
   rw [appM_one _ _ _ (by
    have : (subsR A[i] (runsR A A[i])).length ≤ 1001 := h2
    have := Nat.mul_le_mul_left 1001 (show min i A.length ≤ 100 by omega)
    omega) (by decide)]
   simp only [Option.bind_some]
   rw [w64_n (by omega), take_one hi, List.flatMap_append, List.flatMap_singleton]
   rfl
  ·unfold compose_compose_l3
   simp only
   rw [if_neg (by simp), List.take_length]
 rw [hw]
 simp only [Option.bind_some]
 have hsm : ∀ q ∈ A.flatMap (partsR A), RSm q := fun q hq => by
  obtain ⟨r, hr, hq⟩ := List.mem_flatMap.1 hq
  obtain ⟨a, b, h1, h2, rfl, _⟩ := parts_sm (hAr r hr) q hq
  exact ((hAr r hr).sub h1 h2).sm
 have hfl := flat_len (partsR A) 1001 A fun x hx => by
  have h1 := (runsR_spec A (hAr x hx)).2.2
  have h2 := h.smp x (hAm x hx)
  unfold partsR subsR
  rw [List.length_map]; omega
 obtain ⟨m, em, h1, h2⟩ := sortR_spec hsm (by have := Nat.mul_le_mul_left 1001 (show A.length ≤ 100 by omega); omega)
 rw [em]
 exact ⟨m, rfl, by rw [hA]; exact h1, h2⟩
theorem Comp_ok {l : List Record} (h : VS15 l) : ∃ m, compose_Compose l = some (m, 0) ∧ compose_compose l = some m ∧ CompOf l m := by
 have hl := h.len
 obtain ⟨m, em, hm⟩ := comp_ok h
 refine ⟨m, ?_, em, hm⟩
 unfold compose_Compose
 rw [valid_ok h.toVL (by omega)]
 simp only [Option.bind_some, Bool.not_true, Bool.false_eq_true, if_false]
 rw [em]
 rfl
theorem Order_ok {l : List Record} (h : VS15 l) : compose_Order l = some (sset cmpR l, 0) := by
 have hl := h.len
 unfold compose_Order
 rw [valid_ok h.toVL (by omega)]
 simp only [Option.bind_some, Bool.not_true, Bool.false_eq_true, if_false]
 rw [order_ok h.toVL (by omega)]
 rfl
theorem CompOf.uniq {l l' m m' : List Record} (h : CompOf l m) (h' : CompOf l' m') (he : sset cmpR l = sset cmpR l') : m = m' := by
 refine sorted_uniq (lt := fun a b => decide (cmpR a b < 0)) (h.perm.trans (he ▸ h'.perm.symm)) (fun a _ b _ => cmpR_tot) ?_ ?_
 ·refine h.asc.imp fun {a b} hab => ?_
  have := cmpR_cmp.anti a b
  simp; omega
 ·refine h'.asc.imp fun {a b} hab => ?_
  have := cmpR_cmp.anti a b
  simp; omega
end Go.Proofs.YthdimlepjpnncaaGreat.Sh

/- Composition of records as plain programs (chapter 15): values, lists that are equal, the chapter's example. -/
namespace Go.Proofs.YthdimlepjpnncaaGreat.Sh
open Go
set_option linter.unusedVariables false
set_option linter.unusedSimpArgs false
theorem RunsOf.mem {k : Nat → Bool} {n : Nat} {P Q : List (Nat × Nat)} (hP : RunsOf k n P) (hQ : RunsOf k n Q) {p : Nat × Nat} (hp : p ∈ P) : p ∈ Q := by
 obtain ⟨a1, a2, a3, a4⟩ := hP.ok p hp
 obtain ⟨q, hq, h1, h2⟩ := hQ.all p.1 (by omega) (a3 p.1 (Nat.le_refl _) a1)
 obtain ⟨b1, b2, b3, b4⟩ := hQ.ok q hq
 have e2 : q.2 = p.2 := by
  rcases Nat.lt_trichotomy q.2 p.2 with h | h | h
  ·have := a3 q.2 (by omega) h
   rcases b4 with b4 | b4
   ·omega
   ·rw [b4] at this; cases this
  ·exact h
  ·have := b3 p.2 (by omega) h
   rcases a4 with a4 | a4
   ·omega
   ·rw [a4] at this; cases this
 have e1 : q.1 = p.1 := by
  rcases Nat.lt_or_eq_of_le h1 with h | h
  ·exfalso
   obtain ⟨p', hp', h3, h4⟩ := hP.all q.1 (by omega) (b3 q.1 (Nat.le_refl _) b1)
   obtain ⟨c1, c2, c3, c4⟩ := hP.ok p' hp'
   obtain ⟨i, hi, ei⟩ := List.mem_iff_getElem.1 hp
   obtain ⟨j, hj, ej⟩ := List.mem_iff_getElem.1 hp'
   have hpw := List.pairwise_iff_getElem.1 hP.asc
   rcases Nat.lt_trichotomy i j with hij | hij | hij
   ·have := hpw i j hi hj hij
    rw [ei, ej] at this
    omega
   ·subst hij
    rw [ei] at ej
    subst ej
    omega
   ·have := hpw j i hj hi hij
    rw [ei, ej] at this
    have := b3 p'.2 (by omega) (by omega)
    rcases c4 with c4 | c4
    ·omega
    ·rw [c4] at this; cases this
  ·exact h
 have : q = p := Prod.ext e1 e2
 rw [← this]; exact hq
theorem RunsOf.uniq {k : Nat → Bool} {n : Nat} {P Q : List (Nat × Nat)} (hP : RunsOf k n P) (hQ : RunsOf k n Q) : P = Q := by
 have pw : ∀ {R : List (Nat × Nat)}, RunsOf k n R → R.Pairwise (fun a b => cmpI (a.1 : Int) (b.1 : Int) < 0) := fun {R} h => by
  rw [List.pairwise_iff_getElem]
  intro i j hi hj hij
  have h1 := List.pairwise_iff_getElem.1 h.asc i j hi hj hij
  have h2 := (h.ok _ (List.getElem_mem hi)).1
  unfold cmpI
  rw [if_pos (by omega)]
  omega
 exact asc_uniq (c := fun a b : Nat × Nat => cmpI (a.1 : Int) (b.1 : Int)) (cmpI_cmp.by fun a : Nat × Nat => (a.1 : Int)) (pw hP) (pw hQ) fun x => ⟨hP.mem hQ, hQ.mem hP⟩
/-! ### values -/
def findR (r : Record) (t : Int) : Option Int := ((List.range r.Samples.length).find? fun (i : Nat) => decide (timeR r (i : Int) ≤ t) && decide (t < timeR r ((i : Int) + 1))).map fun i => r.Samples.getD i 0
def findV (m : List Record) (t : Int) : Int × Bool := match m.findSome? (findR · t) with
 | some v => (v, true)
 | none => (0, false)
/-! ### what is in the composed list -/
theorem CompOf.mem {l m : List Record} (hc : CompOf l m) (h : VL l) {q : Record} (hq : q ∈ m) : ∃ r ∈ l, ∃ a b : Nat, a < b ∧ b ≤ r.Samples.length ∧ q = subR r a b ∧ (a, b) ∈ runsR (sset cmpR l) r := by
 obtain ⟨r, hr, hq⟩ := List.mem_flatMap.1 (hc.perm.mem_iff.1 hq)
 have hr := mem_ss.1 hr
 obtain ⟨a, b, h1, h2, h3, h4⟩ := parts_sm (h.rf r hr) q hq
 exact ⟨r, hr, a, b, h1, h2, h3, h4⟩
theorem CompOf.rf {l m : List Record} (hc : CompOf l m) (h : VL l) {q : Record} (hq : q ∈ m) : RF q := by
 obtain ⟨r, hr, a, b, h1, h2, rfl, _⟩ := hc.mem h hq
 exact (h.rf r hr).sub h1 h2
theorem CompOf.len {l m : List Record} (hc : CompOf l m) (h : VS15 l) : m.length ≤ 100100 := by
 rw [hc.perm.length_eq]
 have h1 := sset_len cmpR l
 have h2 := h.len
 have h3 := flat_len (partsR (sset cmpR l)) 1001 (sset cmpR l) fun x hx => by
  have hx := mem_ss.1 hx
  have h1 := (runsR_spec (sset cmpR l) (h.rf x hx)).2.2
  have h2 := h.smp x hx
  unfold partsR subsR
  rw [List.length_map]; omega
 have := Nat.mul_le_mul_left 1001 (show (sset cmpR l).length ≤ 100 by omega)
 omega
theorem flatMap_congr' {α β : Type} {f g : α → List β} : ∀ {l : List α}, (∀ x ∈ l, f x = g x) → l.flatMap f = l.flatMap g
 | [], _ => rfl
 | a :: l, h => by rw [List.flatMap_cons, List.flatMap_cons, h a List.mem_cons_self, flatMap_congr' fun x hx => h x (List.mem_cons_of_mem _ hx)]
/-- the composed list, where all that is kept is known -/
theorem CompOf.eq {l m : List Record} (hc : CompOf l m) (f : Record → List (Nat × Nat)) (h : VL l) (hf : ∀ r ∈ sset cmpR l, RunsOf (keepR (sset cmpR l) r) r.Samples.length (f r)) {m' : List Record} (hp : m'.Perm ((sset cmpR l).flatMap fun r => subsR r (f r))) (ha : m'.Pairwise (fun s t => cmpR s t ≤ 0)) : m = m' := by
 have e : (sset cmpR l).flatMap (partsR (sset cmpR l)) = (sset cmpR l).flatMap fun r => subsR r (f r) := by
  refine flatMap_congr' fun r hr => ?_
  unfold partsR
  rw [(runsR_spec (sset cmpR l) (h.rf r (mem_ss.1 hr))).2.1.uniq (hf r hr)]
 have anti : ∀ {L : List Record}, L.Pairwise (fun s t => cmpR s t ≤ 0) → L.Pairwise (fun a b => decide (cmpR b a < 0) = false) := fun h => h.imp fun {a b} hab => by
  have := cmpR_cmp.anti a b
  simp; omega
 exact sorted_uniq (lt := fun a b => decide (cmpR a b < 0)) ((hc.perm.trans (e ▸ List.Perm.refl _)).trans hp.symm) (fun a _ b _ => cmpR_tot) (anti hc.asc) (anti ha)
end Go.Proofs.YthdimlepjpnncaaGreat.Sh

/- The meet of two lists of spans as the reference makes it (chapter 8). -/
namespace Go.Proofs.YthdimlepjpnncaaGreat.Sh
open Go
set_option linter.unusedVariables false
set_option linter.unusedSimpArgs false
/-- the reference: all pairs -/
theorem rmeet_inner {p q : List Span} {i : Nat} (hi : i < p.length) (hl : p.length ≤ 1000 ∧ q.length ≤ 100) (out0 : List Span) (h0 : out0.length ≤ 200000) (o : List Span) :
  ∃ r, whileM (ref08_Meet_l6 p q (o, (i : Int))) (out0, 0) = some r ∧ (∀ z, Mem r z ↔ Mem out0 z ∨ ((p[i].From ≤ z ∧ z < p[i].To) ∧ Mem q z)) ∧ r.length ≤ out0.length + q.length :=
 loop_fold (fun a i => (a, i)) q.length (fun k a => (∀ z, Mem a z ↔ Mem out0 z ∨ ((p[i].From ≤ z ∧ z < p[i].To) ∧ Mem (q.take k) z)) ∧ a.length ≤ out0.length + k) _ (fun k hk a ⟨h1, h2⟩ => by
  unfold ref08_Meet_l6
  simp only
  unfold ref08_Meet_j1
  simp only
  rw [if_pos (decide_eq_true (by omega)), ix_nat _ _ hi, ix_nat _ _ hk, w64_n (n := k) (by omega)]
  simp only [Option.bind_some]
  by_cases hlt : max p[i].From q[k].From < min p[i].To q[k].To
  ·rw [if_pos (decide_eq_true hlt), appM_one _ _ _ (by simp; omega) (by decide)]
   refine ⟨_, rfl, fun z => ?_, by simp; omega⟩
   rw [mem_append, mem_one, h1, take_one hk, mem_append, mem_one]
   simp only
   constructor
   ·rintro ((h | h) | h)
    ·exact .inl h
    ·exact .inr ⟨h.1, .inl h.2⟩
    ·exact .inr ⟨by omega, .inr (by omega)⟩
   ·rintro (h | ⟨h, h' | h'⟩)
    ·exact .inl (.inl h)
    ·exact .inl (.inr ⟨h, h'⟩)
    ·exact .inr (by omega)
  ·rw [if_neg (by simpa using hlt)]
   refine ⟨_, rfl, fun z => ?_, by omega⟩
   rw [h1, take_one hk, mem_append, mem_one]
   constructor
   ·rintro (h | h)
    ·exact .inl h
    ·exact .inr ⟨h.1, .inl h.2⟩
   ·rintro (h | ⟨h, h' | h'⟩)
    ·exact .inl h
    ·exact .inr ⟨h, h'⟩
    ·omega) (fun a ⟨h1, h2⟩ => by
  unfold ref08_Meet_l6
  simp only
  rw [if_neg (by simp)]
  rw [List.take_of_length_le (Nat.le_refl _)] at h1
  exact ⟨a, rfl, h1, h2⟩) out0 ⟨fun z => by simp [Mem], by omega⟩
theorem rmeet_specL {a b : List Span} (ha : a.length < 100) (hb : b.length < 100) : ∃ r, ref08_Meet a b = some r ∧ VS r ∧ (∀ z, Mem r z ↔ Mem a z ∧ Mem b z) ∧ r.length ≤ 10000 := by
 unfold ref08_Meet
 obtain ⟨p, ep, hp⟩ := rnormal_spec (l := a) (by omega)
 obtain ⟨q, eq, hq⟩ := rnormal_spec (l := b) (by omega)
 rw [ep, eq]
 simp only [Option.bind_some]
 have l1 := hp.len
 have l2 := hq.len
 obtain ⟨o, eo, ho, hol⟩ := loop_fold (body := ref08_Meet_l3 p q) (fun a i => (a, i)) p.length (fun i a => (∀ z, Mem a z ↔ Mem (p.take i) z ∧ Mem q z) ∧ a.length ≤ i * 100) (fun r => (∀ z, Mem r z ↔ Mem p z ∧ Mem q z) ∧ r.length ≤ 10000) (fun i hi a ⟨h1, h2⟩ => by
  unfold ref08_Meet_l3
  simp only
  rw [if_pos (decide_eq_true (by omega))]
  obtain ⟨r, er, hr, hrl⟩ := rmeet_inner hi (q := q) (by omega) a (by omega) a
  rw [er, w64_n (n := i) (by omega)]
  refine ⟨r, rfl, fun z => ?_, by omega⟩
  rw [hr, h1, take_one hi, mem_append, mem_one]
  constructor
  ·rintro (h | h)
   ·exact ⟨.inl h.1, h.2⟩
   ·exact ⟨.inr h.1, h.2⟩
  ·rintro ⟨h | h, h'⟩
   ·exact .inl ⟨h, h'⟩
   ·exact .inr ⟨h, h'⟩) (fun a ⟨h1, h2⟩ => by
  unfold ref08_Meet_l3
  simp only
  rw [if_neg (by simp)]
  rw [List.take_of_length_le (Nat.le_refl _)] at h1
  exact ⟨a, rfl, h1, by omega⟩) [] ⟨fun z => by simp [Mem], by simp⟩
 rw [eo]
 simp only [Option.bind_some]
 obtain ⟨r, er, hr⟩ := rnormal_spec (l := o) (by omega)
 rw [er]
 exact ⟨r, rfl, hr.vs, fun z => by rw [hr.mem, ho, hp.mem, hq.mem], Nat.le_trans hr.len hol⟩
theorem rmeet_spec {a b : List Span} (ha : a.length < 100) (hb : b.length < 100) : ∃ r, ref08_Meet a b = some r ∧ VS r ∧ ∀ z, Mem r z ↔ Mem a z ∧ Mem b z := by
 obtain ⟨r, e, h1, h2, _⟩ := rmeet_specL ha hb
 exact ⟨r, e, h1, h2⟩
end Go.Proofs.YthdimlepjpnncaaGreat.Sh

/- Composition of records as plain programs (chapter 15): which sample a time has. -/
namespace Go.Proofs.YthdimlepjpnncaaGreat.Sh
open Go
set_option linter.unusedVariables false
set_option linter.unusedSimpArgs false
theorem RF.at_lt {r : Record} (h : RF r) {i j : Nat} {t : Int} (h1 : timeR r (i : Int) ≤ t) (h2 : t < timeR r ((j : Int) + 1)) : i ≤ j := by
 rcases Nat.lt_or_ge j i with h3 | h3
 ·have := h.mono (i := (j : Int) + 1) (j := (i : Int)) (by omega)
  omega
 ·exact h3
/-- a sample that is kept has its times alone -/
theorem keep_uniq {l : List Record} (h : VL l) {r q : Record} (hr : r ∈ l) (hq : q ∈ l) {i j : Nat} (hi : i < r.Samples.length) (hj : j < q.Samples.length) (kr : keepR (sset cmpR l) r i = true) (kq : keepR (sset cmpR l) q j = true) {t : Int}
  (t1 : timeR r (i : Int) ≤ t) (t2 : t < timeR r ((i : Int) + 1)) (t3 : timeR q (j : Int) ≤ t) (t4 : t < timeR q ((j : Int) + 1)) : r = q ∧ i = j := by
 have hss : ∀ x ∈ sset cmpR l, RF x := fun x hx => h.rf x (mem_ss.1 hx)
 have key : ∀ {r q : Record}, r ∈ l → q ∈ l → ∀ {i j : Nat}, i < r.Samples.length → j < q.Samples.length → keepR (sset cmpR l) q j = true → timeR r (i : Int) ≤ t → t < timeR r ((i : Int) + 1) → timeR q (j : Int) ≤ t → t < timeR q ((j : Int) + 1) → ¬ betR r q < 0 := by
  intro r q hr hq i j hi hj kq t1 t2 t3 t4 hb
  refine (keepB_iff (h.rf q hq) (betterL_ne hss q)).1 kq t t3 t4 ⟨extR r, List.mem_map.2 ⟨r, List.mem_filter.2 ⟨mem_ss.2 hr, decide_eq_true hb⟩, rfl⟩, ?_, ?_⟩
  ·have := (h.rf r hr).mono (i := 0) (j := (i : Int)) (by omega)
   show timeR r 0 ≤ t
   omega
  ·have := (h.rf r hr).mono (i := (i : Int) + 1) (j := (r.Samples.length : Int)) (by omega)
   show t < timeR r r.Samples.length
   omega
 have e : r = q := by
  have h1 := key hr hq hi hj kq t1 t2 t3 t4
  have h2 := key hq hr hj hi kr t3 t4 t1 t2
  have := betR_cmp.anti r q
  exact betR_zero (by omega)
 subst e
 have a := (h.rf r hr).at_lt t1 t4
 have b := (h.rf r hr).at_lt t3 t2
 exact ⟨rfl, by omega⟩
theorem keep_iff {l : List Record} (h : VL l) {r : Record} (hr : r ∈ l) {i : Nat} : keepR (sset cmpR l) r i = true ↔ ∀ q ∈ l, betR q r < 0 → ∀ y, timeR r (i : Int) ≤ y → y < timeR r ((i : Int) + 1) → ¬ (timeR q 0 ≤ y ∧ y < timeR q q.Samples.length) := by
 have hss : ∀ x ∈ sset cmpR l, RF x := fun x hx => h.rf x (mem_ss.1 hx)
 unfold keepR
 rw [keepB_iff (h.rf r hr) (betterL_ne hss r)]
 constructor
 ·intro hk q hq hb y h1 h2 h3
  exact hk y h1 h2 ⟨extR q, List.mem_map.2 ⟨q, List.mem_filter.2 ⟨mem_ss.2 hq, decide_eq_true hb⟩, rfl⟩, h3⟩
 ·rintro hk y h1 h2 ⟨s, hs, h3⟩
  obtain ⟨q, hq, rfl⟩ := List.mem_map.1 hs
  obtain ⟨h4, h5⟩ := List.mem_filter.1 hq
  exact hk q (mem_ss.1 h4) (of_decide_eq_true h5) y h1 h2 h3
/-! ### spans of the reference -/
end Go.Proofs.YthdimlepjpnncaaGreat.Sh

/- Composition of records (chapter 15): the kept parts lie apart from each other. -/
namespace Go.Proofs.YthdimlepjpnncaaGreat.Sh
open Go
set_option linter.unusedVariables false
set_option linter.unusedSimpArgs false
theorem RF.cover {r : Record} (h : RF r) {t : Int} (h1 : timeR r 0 ≤ t) (h2 : t < timeR r r.Samples.length) : ∃ i : Nat, i < r.Samples.length ∧ timeR r (i : Int) ≤ t ∧ t < timeR r ((i : Int) + 1) := by
 have key : ∀ k : Nat, k ≤ r.Samples.length → t < timeR r (k : Int) → ∃ j : Nat, j < k ∧ timeR r (j : Int) ≤ t ∧ t < timeR r ((j : Int) + 1) := by
  intro k
  induction k with
  | zero => intro _ hx; exact absurd hx (by rw [show ((0 : Nat) : Int) = 0 from rfl]; omega)
  | succ k ih =>
   intro hk hx
   by_cases hc : t < timeR r (k : Int)
   ·obtain ⟨j, hj, hh⟩ := ih (by omega) hc
    exact ⟨j, by omega, hh⟩
   ·exact ⟨k, by omega, by omega, by rw [show (k : Int) + 1 = ((k + 1 : Nat) : Int) by omega]; exact hx⟩
 exact key r.Samples.length (Nat.le_refl _) h2
/-- no time of both -/
def Apart (x y : Record) : Prop := ∀ t, ¬ ((timeR x 0 ≤ t ∧ t < timeR x x.Samples.length) ∧ timeR y 0 ≤ t ∧ t < timeR y y.Samples.length)
/-- a time of a part is one of a sample that is kept -/
theorem part_time {l : List Record} (h : VL l) {r : Record} (hr : r ∈ l) {a b : Nat} (hp : (a, b) ∈ runsR (sset cmpR l) r) {t : Int} (h1 : timeR (subR r a b) 0 ≤ t) (h2 : t < timeR (subR r a b) (subR r a b).Samples.length) : ∃ i, a ≤ i ∧ i < b ∧ i < r.Samples.length ∧ keepR (sset cmpR l) r i = true ∧ timeR r (i : Int) ≤ t ∧ t < timeR r ((i : Int) + 1) := by
 have hR := h.rf r hr
 obtain ⟨p1, p2, p3, _⟩ := (runsR_spec (sset cmpR l) hR).2.1.ok _ hp
 simp only at p1 p2 p3
 obtain ⟨j, hj, t1, t2⟩ := (hR.sub p1 p2).cover h1 h2
 rw [subR_len r a b p2] at hj
 rw [subR_time] at t1 t2
 refine ⟨a + j, by omega, by omega, by omega, p3 _ (by omega) (by omega), ?_, ?_⟩
 ·rw [show ((a + j : Nat) : Int) = (a : Int) + (j : Int) by omega]; exact t1
 ·rw [show ((a + j : Nat) : Int) + 1 = (a : Int) + ((j : Int) + 1) by omega]; exact t2
theorem CompOf.apart {l m : List Record} (hc : CompOf l m) (h : VL l) : m.Pairwise Apart := by
 refine (hc.perm.pairwise_iff (fun {x y} hxy t ht => hxy t ⟨ht.2, ht.1⟩)).2 ?_
 rw [List.pairwise_flatMap]
 refine ⟨fun r hr => ?_, ?_⟩
 ·have hr := mem_ss.1 hr
  have hR := h.rf r hr
  have hs := (runsR_spec (sset cmpR l) hR).2.1
  unfold partsR subsR
  rw [List.pairwise_map]
  refine List.Pairwise.imp_of_mem (fun {p q} hp hq hpq t ht => ?_) hs.asc
  obtain ⟨a1, a2, _⟩ := hs.ok p hp
  obtain ⟨b1, b2, _⟩ := hs.ok q hq
  have e1 := subR_len r p.1 p.2 a2
  have h1 := ht.1.2
  have h2 := ht.2.1
  rw [e1, subR_time] at h1
  rw [subR_time] at h2
  have := hR.mono (i := (p.1 : Int) + ((p.2 - p.1 : Nat) : Int)) (j := (q.1 : Int) + 0) (by omega)
  omega
 ·refine List.Pairwise.imp_of_mem (fun {r q} hr hq hrq x hx y hy t ht => ?_) (sset_pw cmpR_cmp (fun _ _ => cmpR_eq) l)
  have hr := mem_ss.1 hr
  have hq := mem_ss.1 hq
  obtain ⟨p, hp, rfl⟩ := List.mem_map.1 hx
  obtain ⟨p', hp', rfl⟩ := List.mem_map.1 hy
  obtain ⟨i, _, _, i1, ki, t1, t2⟩ := part_time h hr (a := p.1) (b := p.2) hp ht.1.1 ht.1.2
  obtain ⟨j, _, _, j1, kj, t3, t4⟩ := part_time h hq (a := p'.1) (b := p'.2) hp' ht.2.1 ht.2.2
  have e := (keep_uniq h hr hq i1 j1 ki kj t1 t2 t3 t4).1
  subst e
  have := cmpR_cmp.refl r
  omega
theorem CompOf.strict {l m : List Record} (hc : CompOf l m) (h : VL l) : m.Pairwise (fun a b => cmpR a b < 0) := by
 refine List.Pairwise.imp_of_mem (fun {x y} hx hy hxy => ?_) (hc.asc.and (hc.apart h))
 rcases Int.lt_or_eq_of_le hxy.1 with h1 | h1
 ·exact h1
 ·have e := cmpR_eq h1
  subst e
  have hR := hc.rf h hx
  exact absurd ⟨⟨Int.le_refl _, hR.lt (by have := hR.l0; omega)⟩, Int.le_refl _, hR.lt (by have := hR.l0; omega)⟩ (hxy.2 (timeR x 0))
end Go.Proofs.YthdimlepjpnncaaGreat.Sh

/- The samples of records with the times that they cover (chapter 15). -/
namespace Go.Proofs.YthdimlepjpnncaaGreat.Sh
open Go
set_option linter.unusedVariables false
set_option linter.unusedSimpArgs false
/-- the samples of a record: from, to, value -/
def smpR (r : Record) : List (Int × Int × Int) := (List.range r.Samples.length).map fun (i : Nat) => (timeR r (i : Int), timeR r ((i : Int) + 1), r.Samples.getD i 0)
def smpsR (m : List Record) : List (Int × Int × Int) := m.flatMap smpR
theorem mem_smpR {r : Record} {s : Int × Int × Int} : s ∈ smpR r ↔ ∃ i, i < r.Samples.length ∧ s = (timeR r (i : Int), timeR r ((i : Int) + 1), r.Samples.getD i 0) := by
 unfold smpR
 simp only [List.mem_map, List.mem_range]
 exact ⟨fun ⟨i, h, e⟩ => ⟨i, h, e.symm⟩, fun ⟨i, h, e⟩ => ⟨i, h, e.symm⟩⟩
theorem mem_smpsR {m : List Record} {s : Int × Int × Int} : s ∈ smpsR m ↔ ∃ q ∈ m, s ∈ smpR q := List.mem_flatMap
/-- the samples of composed data: those that are kept -/
theorem CompOf.smp {l m : List Record} (hc : CompOf l m) (h : VL l) {s : Int × Int × Int} : s ∈ smpsR m ↔ ∃ r ∈ l, ∃ i, i < r.Samples.length ∧ keepR (sset cmpR l) r i = true ∧ s = (timeR r (i : Int), timeR r ((i : Int) + 1), r.Samples.getD i 0) := by
 rw [mem_smpsR]
 constructor
 ·rintro ⟨q, hq, hs⟩
  obtain ⟨j, hj, rfl⟩ := mem_smpR.1 hs
  obtain ⟨r, hr, a, b, hab, hb, rfl, hrun⟩ := hc.mem h hq
  have hR := h.rf r hr
  have hl := subR_len r a b hb
  have hk := ((runsR_spec (sset cmpR l) hR).2.1.ok _ hrun).2.2.1 (a + j) (by simp only; omega) (by simp only; omega)
  refine ⟨r, hr, a + j, by omega, hk, ?_⟩
  rw [subR_time, subR_time, show ((a + j : Nat) : Int) = (a : Int) + (j : Int) by omega, show (a : Int) + (j : Int) + 1 = (a : Int) + ((j : Int) + 1) by omega]
  simp only [subR, List.getD_eq_getElem?_getD, List.getElem?_drop, List.getElem?_take]
  rw [if_pos (by omega)]
 ·rintro ⟨r, hr, i, hi, hk, rfl⟩
  have hR := h.rf r hr
  obtain ⟨⟨a, b⟩, hp, ha, hb⟩ := (runsR_spec (sset cmpR l) hR).2.1.all i hi hk
  obtain ⟨p1, p2, _⟩ := (runsR_spec (sset cmpR l) hR).2.1.ok _ hp
  simp only at ha hb p1 p2
  have hm : subR r a b ∈ m := hc.perm.mem_iff.2 (List.mem_flatMap.2 ⟨r, mem_ss.2 hr, List.mem_map.2 ⟨(a, b), hp, rfl⟩⟩)
  have hl := subR_len r a b p2
  refine ⟨_, hm, mem_smpR.2 ⟨i - a, by omega, ?_⟩⟩
  rw [subR_time, subR_time, show (a : Int) + ((i - a : Nat) : Int) = (i : Int) by omega, show (a : Int) + (((i - a : Nat) : Int) + 1) = (i : Int) + 1 by omega]
  simp only [subR, List.getD_eq_getElem?_getD, List.getElem?_drop, List.getElem?_take]
  rw [if_pos (by omega), show a + (i - a) = i by omega]
/-- a list of records that have no time in common -/
structure AL (m : List Record) : Prop where
 rf : ∀ r ∈ m, RF r
 ap : m.Pairwise Apart
theorem CompOf.al {l m : List Record} (hc : CompOf l m) (h : VL l) : AL m := ⟨fun r hr => hc.rf h hr, hc.apart h⟩
theorem smp_lt {m : List Record} (h : AL m) {s : Int × Int × Int} (hs : s ∈ smpsR m) : s.1 < s.2.1 := by
 obtain ⟨q, hq, hs⟩ := mem_smpsR.1 hs
 obtain ⟨j, hj, rfl⟩ := mem_smpR.1 hs
 exact (h.rf q hq).lt (by omega)
theorem smp_in {r : Record} (h : RF r) {i : Nat} (hi : i < r.Samples.length) {p : Int} (h1 : timeR r (i : Int) ≤ p) (h2 : p < timeR r ((i : Int) + 1)) : timeR r 0 ≤ p ∧ p < timeR r r.Samples.length := by
 have a := h.mono (i := 0) (j := (i : Int)) (by omega)
 have b := h.mono (i := (i : Int) + 1) (j := (r.Samples.length : Int)) (by omega)
 omega
/-- one sample at most has a time -/
theorem smp_uniq {m : List Record} (h : AL m) {s t : Int × Int × Int} (hs : s ∈ smpsR m) (ht : t ∈ smpsR m) {p : Int} (s1 : s.1 ≤ p) (s2 : p < s.2.1) (t1 : t.1 ≤ p) (t2 : p < t.2.1) : s = t := by
 obtain ⟨q, hq, hs⟩ := mem_smpsR.1 hs
 obtain ⟨r, hr, ht⟩ := mem_smpsR.1 ht
 obtain ⟨i, hi, rfl⟩ := mem_smpR.1 hs
 obtain ⟨j, hj, rfl⟩ := mem_smpR.1 ht
 simp only at s1 s2 t1 t2
 have e : q = r := by
  refine Classical.byContradiction fun hne => ?_
  obtain ⟨a, ha, rfl⟩ := List.mem_iff_getElem.1 hq
  obtain ⟨b, hb, rfl⟩ := List.mem_iff_getElem.1 hr
  have hab : a ≠ b := fun e => hne (by subst e; rfl)
  have i1 := smp_in (h.rf _ hq) hi s1 s2
  have i2 := smp_in (h.rf _ hr) hj t1 t2
  rcases Nat.lt_or_ge a b with hlt | hge
  ·exact List.pairwise_iff_getElem.1 h.ap a b ha hb hlt p ⟨i1, i2⟩
  ·exact List.pairwise_iff_getElem.1 h.ap b a hb ha (by omega) p ⟨i2, i1⟩
 subst e
 have h1 := (h.rf q hq).at_lt s1 t2
 have h2 := (h.rf q hq).at_lt t1 s2
 have : i = j := by omega
 subst this
 rfl
/-- the times of all samples are those of the records -/
theorem smp_times {m : List Record} (h : AL m) {p : Int} : Mem (m.map extR) p ↔ ∃ s ∈ smpsR m, s.1 ≤ p ∧ p < s.2.1 := by
 constructor
 ·rintro ⟨x, hx, h1, h2⟩
  obtain ⟨q, hq, rfl⟩ := List.mem_map.1 hx
  obtain ⟨j, hj, t1, t2⟩ := (h.rf q hq).cover h1 h2
  exact ⟨_, mem_smpsR.2 ⟨q, hq, mem_smpR.2 ⟨j, hj, rfl⟩⟩, t1, t2⟩
 ·rintro ⟨s, hs, h1, h2⟩
  obtain ⟨q, hq, hs⟩ := mem_smpsR.1 hs
  obtain ⟨j, hj, rfl⟩ := mem_smpR.1 hs
  exact ⟨extR q, List.mem_map.2 ⟨q, hq, rfl⟩, (smp_in (h.rf q hq) hj h1 h2).1, (smp_in (h.rf q hq) hj h1 h2).2⟩
/-- no two samples begin at one time -/
theorem smp_keys {m : List Record} (h : AL m) : ((smpsR m).map (·.1)).Nodup := by
 unfold smpsR
 rw [List.Nodup, List.pairwise_map, List.pairwise_flatMap]
 refine ⟨fun q hq => ?_, ?_⟩
 ·unfold smpR
  rw [List.pairwise_map]
  have hlt : (List.range q.Samples.length).Pairwise (fun a b => a < b) := List.pairwise_lt_range
  refine hlt.imp ?_
  intro i j hij e
  have := (h.rf q hq).lt (i := (i : Int)) (j := (j : Int)) (by omega)
  simp only at e
  omega
 ·refine List.Pairwise.imp_of_mem (fun {q r} hq hr hqr s hs t ht e => ?_) h.ap
  obtain ⟨i, hi, rfl⟩ := mem_smpR.1 hs
  obtain ⟨j, hj, rfl⟩ := mem_smpR.1 ht
  simp only at e
  have l1 := (h.rf q hq).lt (i := (i : Int)) (j := (i : Int) + 1) (by omega)
  have l2 := (h.rf r hr).lt (i := (j : Int)) (j := (j : Int) + 1) (by omega)
  exact hqr (timeR q (i : Int)) ⟨smp_in (h.rf q hq) hi (Int.le_refl _) l1, smp_in (h.rf r hr) hj (by omega) (by omega)⟩
/-- what Latest answers: the times of samples of both, but for those that samples with one time and one value have in common -/
def Later (x y : List Record) (p : Int) : Prop := (Mem (x.map extR) p ∨ Mem (y.map extR) p) ∧ ¬ ∃ s ∈ smpsR x, ∃ o ∈ smpsR y, s.1 = o.1 ∧ s.2.2 = o.2.2 ∧ s.1 ≤ p ∧ p < s.2.1 ∧ p < o.2.1
end Go.Proofs.YthdimlepjpnncaaGreat.Sh

/- Lists of spans: equal ones, the union of the reference, what is in one alone (chapter 8). -/
namespace Go.Proofs.YthdimlepjpnncaaGreat.Sh
open Go
set_option linter.unusedVariables false
set_option linter.unusedSimpArgs false
instance decSpan : DecidableEq Span := fun a b => decidable_of_iff (a.From = b.From ∧ a.To = b.To) ⟨fun ⟨h1, h2⟩ => by cases a; cases b; simp_all, fun h => by rw [h]; exact ⟨rfl, rfl⟩⟩
theorem same_spec (a b : List Span) (ha : a.length ≤ 1000000) : ref08_Same a b = some (decide (a = b)) := by
 unfold ref08_Same
 by_cases hl : a.length = b.length
 ·rw [if_neg (by simp; omega)]
  refine loop_same a b (fun x y => (x.From == y.From) && ((x.To == y.To) && true)) (fun x y => ?_) hl (fun i hi he => ?_) (fun i hi he => ?_) ?_
  ·cases x; cases y; simp
  ·unfold ref08_Same_l2
   rw [if_pos (decide_eq_true (by omega)), ix_nat _ _ hi, ix_nat b i (by omega)]
   simp only [Option.bind_some]
   rw [he, w64_n (by omega)]
   rfl
  ·unfold ref08_Same_l2
   rw [if_pos (decide_eq_true (by omega)), ix_nat _ _ hi, ix_nat b i (by omega)]
   simp only [Option.bind_some]
   rw [he]
   rfl
  ·unfold ref08_Same_l2
   rw [if_neg (by simp)]
   rfl
 ·rw [if_pos (by simp; omega), decide_eq_false (fun h => hl (by rw [h]))]
/-- ends from lo to hi -/
def EB (lo hi : Int) (l : List Span) : Prop := ∀ s ∈ l, (lo ≤ s.From ∧ s.From ≤ hi) ∧ (lo ≤ s.To ∧ s.To ≤ hi)
theorem EB.app {lo hi : Int} {a b : List Span} (ha : EB lo hi a) (hb : EB lo hi b) : EB lo hi (a ++ b) := fun s hs => (List.mem_append.1 hs).elim (ha s) (hb s)
theorem EB.one {lo hi : Int} {s : Span} (h : (lo ≤ s.From ∧ s.From ≤ hi) ∧ (lo ≤ s.To ∧ s.To ≤ hi)) : EB lo hi [s] := fun t ht => by
 rcases List.mem_singleton.1 ht with rfl; exact h
theorem NS.eb {l r : List Span} (h : NS l r) {lo hi : Int} (hl : EB lo hi l) : EB lo hi r := fun s hs => by
 obtain ⟨⟨t, ht, e⟩, u, hu, e'⟩ := h.ends s hs
 rw [e, e']
 exact ⟨(hl t ht).1, (hl u hu).2⟩
theorem runion_spec {a b : List Span} (h : a.length + b.length ≤ 10000) : ∃ r, ref08_Union a b = some r ∧ NS (a ++ b) r := by
 unfold ref08_Union
 rw [appM_one _ _ _ (by simp; omega) (by decide)]
 simp only [Option.bind_some, List.nil_append]
 rw [appM_one _ _ _ (by omega) (by decide)]
 simp only [Option.bind_some]
 obtain ⟨r, er, hr⟩ := rnormal_spec (l := a ++ b) (by simp; omega)
 rw [er]
 exact ⟨r, rfl, hr⟩
theorem VS.later {l : List Span} (h : VS l) {i : Nat} (hi : i < l.length) : ∀ u ∈ l.drop (i + 1), l[i].To < u.From := by
 have hp := h.ap.sublist (List.drop_sublist i l)
 rw [List.drop_eq_getElem_cons hi] at hp
 exact (List.pairwise_cons.1 hp).1
/-! ### minus -/
structure MN (q : List Span) (x : Span) (out0 : List Span) (k : Nat) (out : List Span) (at_ : Int) : Prop where
 vs : VS out
 low : x.From ≤ at_
 mem : ∀ z, Mem out z ↔ Mem out0 z ∨ ((x.From ≤ z ∧ z < x.To) ∧ z < at_ ∧ ¬ Mem q z)
 ord : ∀ s ∈ out, s.To < at_ ∧ s.To ≤ x.To
 done : ∀ u ∈ q.take k, u.To ≤ at_ ∨ x.To ≤ u.From
 len : out.length ≤ out0.length + k
 eb : ∀ lo hi, EB lo hi q → EB lo hi out0 → (lo ≤ x.From ∧ x.From ≤ hi) ∧ (lo ≤ x.To ∧ x.To ≤ hi) → EB lo hi out ∧ lo ≤ at_ ∧ at_ ≤ hi
theorem MN.zero {q : List Span} {x : Span} {out0 : List Span} (h0 : VS out0) (hx : x.From < x.To) (ho : ∀ s ∈ out0, s.To < x.From) : MN q x out0 0 out0 x.From :=
 ⟨h0, Int.le_refl _, fun z => ⟨.inl, fun h => h.elim id (fun h => by omega)⟩, fun s hs => ⟨ho s hs, by have := ho s hs; omega⟩, fun u hu => (by simp at hu), Nat.le_refl _, fun lo hi h1 h2 h3 => ⟨h2, by omega, by omega⟩⟩
theorem minus_inner {q : List Span} (hq : VS q) (hql : q.length ≤ 1000) {x : Span} (hx : x.From < x.To) {out0 : List Span} (h0 : VS out0) (hol : out0.length ≤ 900000) (ho : ∀ s ∈ out0, s.To < x.From) :
  ∃ r, whileM (span_Minus_l6 q x) (out0, x.From, 0) = some r ∧ MN q x out0 q.length r.1 r.2 := by
 refine loop_fold (fun (a : List Span × Int) i => (a.1, a.2, i)) q.length (fun k a => MN q x out0 k a.1 a.2) _ (fun k hk a h => ?_) (fun a h => ?_) (out0, x.From) (MN.zero h0 hx ho)
 ·obtain ⟨out, at_⟩ := a
  simp only at h
  have hlen := h.len
  have hlow := h.low
  have hny := hq.ne _ (List.getElem_mem hk)
  unfold span_Minus_l6
  simp only
  rw [if_pos (decide_eq_true (by omega)), ix_nat _ _ hk]
  simp only [Option.bind_some]
  unfold span_Minus_j2 span_Minus_j1
  simp only
  rw [w64_n (n := k) (by omega)]
  have htk : ∀ P : Span → Prop, (∀ u ∈ q.take k, P u) → P q[k] → ∀ u ∈ q.take (k + 1), P u := fun P h1 h2 u hu => by
   rw [take_one hk] at hu
   rcases List.mem_append.1 hu with hu | hu
   ·exact h1 u hu
   ·rcases List.mem_singleton.1 hu with rfl; exact h2
  by_cases hsk : q[k].To ≤ at_ ∨ x.To ≤ q[k].From
  ·rw [if_pos (by simpa using hsk)]
   exact ⟨(out, at_), rfl, h.vs, h.low, h.mem, h.ord, htk _ h.done hsk, by simp only; omega, h.eb⟩
  ·have hsk1 : at_ < q[k].To := by omega
   have hsk2 : q[k].From < x.To := by omega
   rw [if_neg (by simp; omega)]
   have hmax : max at_ q[k].To = q[k].To := by omega
   -- what lies from at_ on and is in the list
   have hin : ∀ z, at_ ≤ z → z < x.To → z < q[k].To → (Mem q z ↔ q[k].From ≤ z) := by
    intro z z1 z2 z3
    constructor
    ·rintro ⟨u, hu, g⟩
     have hsplit : u ∈ q.take k ++ q[k] :: q.drop (k + 1) := by
      rw [← List.drop_eq_getElem_cons hk, List.take_append_drop]; exact hu
     rcases List.mem_append.1 hsplit with hu' | hu'
     ·rcases h.done u hu' with g1 | g1 <;> omega
     ·rcases List.mem_cons.1 hu' with rfl | hu'
      ·exact g.1
      ·have := hq.later hk u hu'; omega
    ·exact fun g => ⟨_, List.getElem_mem hk, g, z3⟩
   have hdone : ∀ u ∈ q.take (k + 1), u.To ≤ q[k].To ∨ x.To ≤ u.From := htk _ (fun u hu => (h.done u hu).elim (fun g => .inl (by omega)) .inr) (.inl (Int.le_refl _))
   by_cases hgap : at_ < q[k].From
   ·rw [if_pos (decide_eq_true hgap), appM_one _ _ _ (by simp; omega) (by decide)]
    simp only [Option.bind_some]
    rw [hmax]
    refine ⟨(out ++ [⟨at_, q[k].From⟩], q[k].To), rfl, h.vs.snoc hgap (fun s hs => (h.ord s hs).1), by simp only; omega, fun z => ?_, fun s hs => ?_, hdone, by simp; omega, fun lo hi e1 e2 e3 => ?_⟩
    ·rw [mem_append, mem_one, h.mem]
     simp only
     constructor
     ·rintro ((g | g) | g)
      ·exact .inl g
      ·exact .inr ⟨g.1, by omega, g.2.2⟩
      ·refine .inr ⟨by omega, by omega, fun g' => ?_⟩
       have := (hin z (by omega) (by omega) (by omega)).1 g'
       omega
     ·rintro (g | ⟨g1, g2, g3⟩)
      ·exact .inl (.inl g)
      ·by_cases hz : z < at_
       ·exact .inl (.inr ⟨g1, hz, g3⟩)
       ·by_cases hz2 : z < q[k].From
        ·exact .inr ⟨by omega, hz2⟩
        ·exact absurd ((hin z (by omega) (by omega) g2).2 (by omega)) g3
    ·rcases List.mem_append.1 hs with hs | hs
     ·have := h.ord s hs
      simp only
      omega
     ·rcases List.mem_singleton.1 hs with rfl
      simp only
      omega
    ·obtain ⟨b1, b2, b3⟩ := h.eb lo hi e1 e2 e3
     have b4 := e1 _ (List.getElem_mem hk)
     exact ⟨b1.app (EB.one (by simp only; omega)), by simp only; omega, by simp only; omega⟩
   ·rw [if_neg (by simpa using hgap)]
    rw [hmax]
    refine ⟨(out, q[k].To), rfl, h.vs, by simp only; omega, fun z => ?_, fun s hs => ?_, hdone, by simp only; omega, fun lo hi e1 e2 e3 => ?_⟩
    ·rw [h.mem]
     constructor
     ·rintro (g | g)
      ·exact .inl g
      ·exact .inr ⟨g.1, by simp only; omega, g.2.2⟩
     ·rintro (g | ⟨g1, g2, g3⟩)
      ·exact .inl g
      ·by_cases hz : z < at_
       ·exact .inr ⟨g1, hz, g3⟩
       ·exact absurd ((hin z (by omega) (by omega) g2).2 (by omega)) g3
    ·have := h.ord s hs
     simp only
     omega
    ·obtain ⟨b1, b2, b3⟩ := h.eb lo hi e1 e2 e3
     have b4 := e1 _ (List.getElem_mem hk)
     exact ⟨b1, by simp only; omega, by simp only; omega⟩
 ·unfold span_Minus_l6
  simp only
  rw [if_neg (by simp)]
  exact ⟨_, rfl, h⟩
/-- what is left -/
structure LS (p q r : List Span) : Prop where
 vs : VS r
 mem : ∀ z, Mem r z ↔ Mem p z ∧ ¬ Mem q z
 len : r.length ≤ p.length * (q.length + 1)
 eb : ∀ lo hi, EB lo hi p → EB lo hi q → EB lo hi r
structure MO (p q : List Span) (i : Nat) (out : List Span) : Prop where
 vs : VS out
 mem : ∀ z, Mem out z ↔ Mem (p.take i) z ∧ ¬ Mem q z
 ord : ∀ s ∈ out, ∀ u ∈ p.drop i, s.To < u.From
 len : out.length ≤ i * (q.length + 1)
 eb : ∀ lo hi, EB lo hi p → EB lo hi q → EB lo hi out
theorem MO.step {p q out o2 : List Span} {at_ : Int} {i : Nat} (hp : VS p) (hi : i < p.length) (h : MO p q i out) (hn : MN q p[i] out q.length o2 at_) :
  MO p q (i + 1) (if at_ < p[i].To then o2 ++ [⟨at_, p[i].To⟩] else o2) := by
 have hx := hp.ne _ (List.getElem_mem hi)
 have hdn : ∀ u ∈ q, u.To ≤ at_ ∨ p[i].To ≤ u.From := fun u hu => hn.done u (by rw [List.take_of_length_le (Nat.le_refl _)]; exact hu)
 have hlow := hn.low
 have hl1 := hn.len
 have hl2 := h.len
 refine ⟨?_, fun z => ?_, fun s hs u hu => ?_, ?_, fun lo hi' e1 e2 => ?_⟩
 ·split
  ·next hc => exact hn.vs.snoc hc (fun s hs => (hn.ord s hs).1)
  ·exact hn.vs
 ·have hbase : (Mem o2 z ∨ (at_ ≤ z ∧ z < p[i].To)) ↔ Mem (p.take (i + 1)) z ∧ ¬ Mem q z := by
   rw [hn.mem, h.mem, take_one hi, mem_append, mem_one]
   constructor
   ·rintro ((g | g) | g)
    ·exact ⟨.inl g.1, g.2⟩
    ·exact ⟨.inr g.1, g.2.2⟩
    ·refine ⟨.inr ⟨by omega, g.2⟩, fun ⟨u, hu, g'⟩ => ?_⟩
     rcases hdn u hu with k | k <;> omega
   ·rintro ⟨g | g, g'⟩
    ·exact .inl (.inl ⟨g, g'⟩)
    ·by_cases hz : z < at_
     ·exact .inl (.inr ⟨g, hz, g'⟩)
     ·exact .inr ⟨by omega, g.2⟩
  split
  ·rw [mem_append, mem_one]
   exact hbase
  ·rw [← hbase]
   exact ⟨.inl, fun g => g.elim id (fun g => by omega)⟩
 ·have hlt := hp.later hi u hu
  split at hs
  ·rcases List.mem_append.1 hs with hs | hs
   ·have := (hn.ord s hs).2; omega
   ·rcases List.mem_singleton.1 hs with rfl
    simp only
    omega
  ·have := (hn.ord s hs).2; omega
 ·have : (i + 1) * (q.length + 1) = i * (q.length + 1) + (q.length + 1) := Nat.succ_mul _ _
  split
  ·simp; omega
  ·omega
 ·have bx := e1 _ (List.getElem_mem hi)
  obtain ⟨b1, b2, b3⟩ := hn.eb lo hi' e2 (h.eb lo hi' e1 e2) bx
  split
  ·exact b1.app (EB.one (by simp only; omega))
  ·exact b1
theorem minus_loop {p q : List Span} (hp : VS p) (hq : VS q) (h1 : p.length * (q.length + 1) ≤ 900000) (h2 : q.length ≤ 1000) (h3 : p.length ≤ 100000) : ∃ r, whileM (span_Minus_l3 q p) ([], 0) = some r ∧ LS p q r := by
 have hb : ∀ i, i ≤ p.length → i * (q.length + 1) ≤ 900000 := fun i hi => Nat.le_trans (Nat.mul_le_mul hi (Nat.le_refl _)) h1
 refine loop_fold (fun a i => (a, i)) p.length (MO p q) _ (fun i hi a h => ?_) (fun a h => ?_) [] ⟨VS.nil, fun z => by simp [Mem], fun s h => (by cases h), Nat.zero_le _, fun _ _ _ _ s h => (by cases h)⟩
 ·have hl := h.len
  have hb1 := hb i (by omega)
  unfold span_Minus_l3
  simp only
  rw [if_pos (decide_eq_true (by omega)), ix_nat _ _ hi]
  simp only [Option.bind_some]
  obtain ⟨⟨o2, at_⟩, er, hn⟩ := minus_inner hq (by omega) (hp.ne _ (List.getElem_mem hi)) h.vs (by omega) (fun s hs => h.ord s hs _ (by rw [List.drop_eq_getElem_cons hi]; exact List.mem_cons_self))
  rw [er]
  simp only at hn
  have hl2 := hn.len
  have hst := MO.step hp hi h hn
  unfold span_Minus_j4
  simp only [Option.bind_some]
  rw [w64_n (n := i) (by omega)]
  refine ⟨_, ?_, hst⟩
  by_cases hc : at_ < p[i].To
  ·rw [if_pos (decide_eq_true hc), if_pos hc, appM_one _ _ _ (by simp; omega) (by decide)]
   rfl
  ·rw [if_neg (by simpa using hc), if_neg hc]
 ·unfold span_Minus_l3
  simp only
  rw [if_neg (by simp)]
  have hm := h.mem
  rw [List.take_of_length_le (Nat.le_refl _)] at hm
  exact ⟨a, rfl, h.vs, hm, h.len, h.eb⟩
theorem minus_specL {a b : List Span} (ha : a.length * (b.length + 1) ≤ 900000) (hb : b.length ≤ 1000) (hl : a.length < 100000) : ∃ r, span_Minus a b = some r ∧ LS a b r := by
 unfold span_Minus
 obtain ⟨p, ep, hp⟩ := normal_spec (l := a) (by omega)
 obtain ⟨q, eq, hq⟩ := normal_spec (l := b) (by omega)
 rw [ep, eq]
 simp only [Option.bind_some]
 have l1 := hp.len
 have l2 := hq.len
 obtain ⟨r, er, hr⟩ := minus_loop hp.vs hq.vs (Nat.le_trans (Nat.mul_le_mul l1 (Nat.add_le_add_right l2 1)) ha) (by omega) (by omega)
 rw [er]
 exact ⟨r, rfl, hr.vs, fun z => by rw [hr.mem, hp.mem, hq.mem], Nat.le_trans hr.len (Nat.mul_le_mul l1 (by omega)), fun lo hi h1 h2 => hr.eb lo hi (hp.eb h1) (hq.eb h2)⟩
end Go.Proofs.YthdimlepjpnncaaGreat.Sh

/- Latest: the times at which the composed data of two lists differ (chapter 15). -/
namespace Go.Proofs.YthdimlepjpnncaaGreat.Sh
open Go
set_option linter.unusedVariables false
set_option linter.unusedSimpArgs false
theorem rgrow {n : Int} (h0 : 0 ≤ n) (h : n ≤ 1000000) : slices_Grow_Lapi_Record_api_Record_n n = some [] := by
 unfold slices_Grow_Lapi_Record_api_Record_n
 have e : w64 (n - w64 (((0 : Nat) : Int) - (([] : List Record).length : Int))) = n := by
  have e0 : w64 (((0 : Nat) : Int) - (([] : List Record).length : Int)) = 0 := by decide
  rw [e0, w64_id (by omega) (by omega)]; omega
 have hn : ¬ n < 0 := by omega
 simp only [e, hn, decide_false, Bool.false_eq_true, if_false, Option.bind]
 by_cases h1 : 0 < n
 ·have e : subM ([] : List Record) 0 ((0 : Nat) : Int) = some [] := by simp [subM]
  simp only [h1, decide_true, if_true, e, makeM_at 144 _ n h0 (by omega) (by decide)]
  simp [subM, slices_Grow_Lapi_Record_api_Record_n_j1, (show 0 ≤ max n 0 by omega)]
 ·simp only [h1, decide_false, Bool.false_eq_true, if_false]
  rfl
theorem rconcat (a b : List Record) (ha : a.length ≤ 400000) (hb : b.length ≤ 400000) : slices_Concat_Lapi_Record_api_Record [a, b] = some (a ++ b) := by
 unfold slices_Concat_Lapi_Record_api_Record
 have w1 : w64 1 = 1 := by decide
 have w2 : w64 2 = 2 := by decide
 have wa : w64 (a.length : Int) = a.length := w64_id (by omega) (by omega)
 have wab : w64 ((a.length : Int) + b.length) = a.length + b.length := w64_id (by omega) (by omega)
 have na : ¬ ((a.length : Int) < 0) := by omega
 have nab : ¬ ((a.length : Int) + b.length < 0) := by omega
 have e1 : whileM (slices_Concat_Lapi_Record_api_Record_l1 [a, b]) (0, 0) = some ((a.length : Int) + b.length) := by
  rw [whileM_eq]
  simp only [slices_Concat_Lapi_Record_api_Record_l1, ix, Option.bind]
  simp [w1, wa, na]
  rw [whileM_eq]
  simp only [slices_Concat_Lapi_Record_api_Record_l1, ix, Option.bind]
  simp [w2, wab, nab]
  rw [whileM_eq]
  simp [slices_Concat_Lapi_Record_api_Record_l1]
 rw [e1]
 simp only [Option.bind]
 rw [rgrow (by omega) (by omega)]
 have e2 : whileM (slices_Concat_Lapi_Record_api_Record_l2 [a, b]) ([], 0) = some (a ++ b) := by
  rw [whileM_eq]
  simp only [slices_Concat_Lapi_Record_api_Record_l2, ix, Option.bind]
  simp [w1, appM_one 144 ([] : List Record) a (by simp; omega) (by decide)]
  rw [whileM_eq]
  simp only [slices_Concat_Lapi_Record_api_Record_l2, ix, Option.bind]
  simp [w2, appM_one 144 a b (by omega) (by decide)]
  rw [whileM_eq]
  simp [slices_Concat_Lapi_Record_api_Record_l2]
 simp only [e2]
/-- an entry of the map of samples -/
def entS (s : Int × Int × Int) : Int × Compose_sample := (s.1, ⟨s.1, s.2.1, s.2.2⟩)
/-- entries put where none of their keys is -/
theorem filter_new {l : List (Int × Compose_sample)} {t : Int} (h : ∀ p ∈ l, p.1 ≠ t) : l.filter (fun p => !decide (p.1 = t)) = l := by
 rw [List.filter_eq_self]
 intro p hp
 simpa using h p hp
theorem put_new {m : Mo Compose_sample} {s : Int × Int × Int} (hs : -9223372036854775808 ≤ s.1 ∧ s.1 ≤ 9223372036854775807) (hn : m.n < 1000000000000) (h : ∀ p ∈ m.l, p.1 ≠ s.1) : m.put s.1 ⟨s.1, s.2.1, s.2.2⟩ = some ⟨m.n + 1, entS s :: m.l⟩ := by
 unfold Mo.put
 rw [if_pos ⟨hs, hn⟩, filter_new h]
 rfl
/-- the samples of one record, put behind what stands there -/
theorem samples_inner {r : Record} (h : RF r) (hl : r.Samples.length ≤ 100000) {m : Mo Compose_sample} (hm : m.n ≤ 100000000) (hk : ∀ p ∈ m.l, ∀ s ∈ smpR r, p.1 ≠ s.1) :
  whileM (compose_samples_l6 r (timesR r (r.Samples.length + 1))) (m, 0) = some ⟨m.n + r.Samples.length, ((smpR r).map entS).reverse ++ m.l⟩ := by
 have hS : ∀ i, i ≤ r.Samples.length → (smpR r).take i = (List.range i).map fun (j : Nat) => (timeR r (j : Int), timeR r ((j : Int) + 1), r.Samples.getD j 0) := fun i hi => by
  unfold smpR
  rw [← List.map_take, List.take_range, Nat.min_eq_left hi]
 refine whileM_for' (fun i => ((⟨m.n + i, (((smpR r).take i).map entS).reverse ++ m.l⟩ : Mo Compose_sample), (i : Int))) r.Samples.length _ (by simp) (fun i hi => ?_) ?_
 ·unfold compose_samples_l6
  simp only
  rw [if_pos (decide_eq_true (by omega)), ix_nat _ _ hi]
  simp only [Option.bind_some]
  rw [timesR_at r (show i < r.Samples.length + 1 by omega)]
  simp only [Option.bind_some]
  rw [w64_n (by omega), timesR_at r (show i + 1 < r.Samples.length + 1 by omega)]
  simp only [Option.bind_some]
  obtain ⟨s, hs⟩ : ∃ s : Int × Int × Int, s = (timeR r (i : Int), timeR r ((i : Int) + 1), r.Samples.getD i 0) := ⟨_, rfl⟩
  have hsm : s ∈ smpR r := mem_smpR.2 ⟨i, hi, hs⟩
  have hin := h.tb (i := (i : Int)) (by omega) (by omega)
  have hp := put_new (m := ⟨m.n + i, (((smpR r).take i).map entS).reverse ++ m.l⟩) (s := s) (by rw [hs]; simp only; omega) (by simp only; omega) (fun p hp => by
   simp only at hp
   rcases List.mem_append.1 hp with hp | hp
   ·rw [List.mem_reverse, hS i (by omega)] at hp
    obtain ⟨u, hu, rfl⟩ := List.mem_map.1 hp
    obtain ⟨j, hj, rfl⟩ := List.mem_map.1 hu
    have := h.lt (i := (j : Int)) (j := (i : Int)) (by have := List.mem_range.1 hj; omega)
    rw [hs]
    simp only [entS]
    omega
   ·exact hk p hp s hsm)
  rw [hs] at hp
  simp only at hp
  rw [show ((i + 1 : Nat) : Int) = (i : Int) + 1 by omega, show r.Samples[i] = r.Samples.getD i 0 by simp [hi], hp]
  simp only [Option.bind_some]
  rw [hS (i + 1) (by omega), List.range_succ, List.map_append, ← hS i (by omega), List.map_append, List.reverse_append]
  rfl
 ·unfold compose_samples_l6
  simp only
  rw [if_neg (by simp)]
  have : (smpR r).length = r.Samples.length := by simp [smpR]
  rw [List.take_of_length_le (by omega)]
/-- the map of the samples of composed data -/
theorem samples_ok {m : List Record} (h : AL m) (hl : m.length ≤ 1000) (hs : ∀ r ∈ m, r.Samples.length ≤ 1000) : ∃ M, compose_samples m = some M ∧ M.l.Perm ((smpsR m).map entS) := by
 unfold compose_samples
 have hk := smp_keys h
 have hb : ∀ k, k ≤ m.length → (smpsR (m.take k)).length ≤ k * 1000 := by
  intro k
  induction k with
  | zero => intro _; simp [smpsR]
  | succ k ih =>
   intro hk
   have hk' : k < m.length := hk
   rw [take_one hk', smpsR, List.flatMap_append, List.length_append]
   have h1 := ih (by omega)
   have h2 := hs _ (List.getElem_mem hk')
   have h3 : ([m[k]].flatMap smpR).length ≤ 1000 := by simp [smpR, h2]
   unfold smpsR at h1
   omega
 have hw : whileM (compose_samples_l3 m) ((⟨0, []⟩ : Mo Compose_sample), 0) = some ⟨(smpsR m).length, ((smpsR m).map entS).reverse⟩ := by
  refine whileM_for' (fun i => ((⟨(smpsR (m.take i)).length, ((smpsR (m.take i)).map entS).reverse⟩ : Mo Compose_sample), (i : Int))) m.length _ (by simp [smpsR]) (fun i hi => ?_) ?_
  ·have hR := h.rf _ (List.getElem_mem hi)
   have hbi := hb i (by omega)
   unfold compose_samples_l3
   simp only
   rw [if_pos (decide_eq_true (by omega)), ix_nat _ _ hi]
   simp only [Option.bind_some]
   rw [times_ok hR]
   simp only [Option.bind_some]
   have e : smpsR (m.take (i + 1)) = smpsR (m.take i) ++ smpR m[i] := by rw [take_one hi, smpsR, List.flatMap_append]; simp [smpsR]
   rw [samples_inner hR (by have := hs _ (List.getElem_mem hi); omega) (by simp only; omega) (fun p hp s hs e1 => ?_)]
   ·simp only [Option.bind_some]
    rw [w64_n (by omega), e, List.length_append, List.map_append, List.reverse_append]
    simp [smpR]
   ·simp only [List.mem_reverse] at hp
    obtain ⟨u, hu, rfl⟩ := List.mem_map.1 hp
    have e2 : smpsR m = smpsR (m.take i) ++ (smpR m[i] ++ smpsR (m.drop (i + 1))) := by
     rw [← List.append_assoc, ← e]
     unfold smpsR
     rw [← List.flatMap_append, List.take_append_drop]
    rw [e2, List.map_append, List.map_append, List.nodup_append] at hk
    exact hk.2.2 u.1 (List.mem_map.2 ⟨u, hu, rfl⟩) s.1 (List.mem_append.2 (.inl (List.mem_map.2 ⟨s, hs, rfl⟩))) e1
  ·unfold compose_samples_l3
   simp only
   rw [if_neg (by simp), List.take_length]
 rw [hw]
 exact ⟨_, rfl, List.reverse_perm _⟩
/-- what an entry gives, where o is what the other map has -/
def bothS (y : List Record) (e : Int × Compose_sample) : Option Span :=
 (smpsR y).findSome? fun o => if o.1 = e.1 ∧ o.2.2 = e.2.value_ then some ⟨e.1, min e.2.to_ o.2.1⟩ else none
theorem look_ent {y : List Record} (h : AL y) {M : Mo Compose_sample} (hM : M.l.Perm ((smpsR y).map entS)) {t : Int} (ht : -9223372036854775808 ≤ t ∧ t ≤ 9223372036854775807) {z : Compose_sample} :
  ∃ r, M.look t z = some r ∧ ((r = (z, false) ∧ ∀ o ∈ smpsR y, o.1 ≠ t) ∨ ∃ o ∈ smpsR y, o.1 = t ∧ r = (⟨o.1, o.2.1, o.2.2⟩, true)) := by
 have he : ∃ r, M.look t z = some r := by unfold Mo.look; rw [if_pos ht]; exact ⟨_, rfl⟩
 obtain ⟨r, hr⟩ := he
 refine ⟨r, hr, ?_⟩
 rcases (Mo.look_t hr).2 with ⟨v, hv, rfl⟩ | ⟨hno, rfl⟩
 ·obtain ⟨o, ho, e⟩ := List.mem_map.1 (hM.mem_iff.1 hv)
  simp only [entS, Prod.mk.injEq] at e
  exact .inr ⟨o, ho, e.1, by rw [← e.2]⟩
 ·refine .inl ⟨rfl, fun o ho e => hno (entS o) (hM.mem_iff.2 (List.mem_map.2 ⟨o, ho, rfl⟩)) e⟩
theorem smp_in64 {m : List Record} (h : AL m) {s : Int × Int × Int} (hs : s ∈ smpsR m) : -9223372036854775808 ≤ s.1 ∧ s.1 ≤ 9223372036854775807 := by
 obtain ⟨q, hq, hs⟩ := mem_smpsR.1 hs
 obtain ⟨j, hj, rfl⟩ := mem_smpR.1 hs
 have := (h.rf q hq).tb (i := (j : Int)) (by omega) (by omega)
 simp only
 omega
theorem smp_key {m : List Record} (h : AL m) {s o : Int × Int × Int} (hs : s ∈ smpsR m) (ho : o ∈ smpsR m) (e : s.1 = o.1) : s = o := by
 have h1 := smp_lt h hs
 have h2 := smp_lt h ho
 exact smp_uniq h hs ho (p := s.1) (Int.le_refl _) h1 (by omega) (by omega)
/-- what the loop over the entries makes -/
theorem both_step {y : List Record} (hy : AL y) {M : Mo Compose_sample} (hM : M.l.Perm ((smpsR y).map entS)) {s : Int × Int × Int} (hs : -9223372036854775808 ≤ s.1 ∧ s.1 ≤ 9223372036854775807) {a : List Span} (ha : a.length ≤ 900000) :
  compose_Latest_l3 M (entS s) a = some (a ++ (bothS y (entS s)).toList) := by
 unfold compose_Latest_l3
 obtain ⟨r, hr, hc⟩ := look_ent hy hM hs (z := ⟨0, 0, 0⟩)
 rw [show (entS s).1 = s.1 from rfl, hr]
 simp only [Option.bind_some]
 rcases hc with ⟨rfl, hno⟩ | ⟨o, ho, e1, rfl⟩
 ·have : bothS y (entS s) = none := by
   unfold bothS
   rw [List.findSome?_eq_none_iff]
   intro o ho
   rw [if_neg (fun h => hno o ho h.1)]
  rw [this]
  simp [compose_Latest_j2]
 ·by_cases hv : o.2.2 = s.2.2
  ·have : bothS y (entS s) = some ⟨s.1, min s.2.1 o.2.1⟩ := by
    cases hb : bothS y (entS s) with
    | none =>
     exfalso
     unfold bothS at hb
     have := List.findSome?_eq_none_iff.1 hb o ho
     rw [if_pos ⟨e1, hv⟩] at this
     cases this
    | some x =>
     unfold bothS at hb
     obtain ⟨u, hu, hux⟩ := List.exists_of_findSome?_eq_some hb
     split at hux
     ·rename_i hc
      obtain rfl := smp_key hy hu ho (hc.1.trans e1.symm)
      exact hux.symm ▸ rfl
     ·cases hux
   rw [this, if_pos (by simp [entS, hv]), appM_one _ _ _ (by simp; omega) (by decide)]
   simp [compose_Latest_j2, entS]
  ·have : bothS y (entS s) = none := by
    unfold bothS
    rw [List.findSome?_eq_none_iff]
    intro u hu
    rw [if_neg]
    rintro ⟨c1, c2⟩
    obtain rfl := smp_key hy hu ho (c1.trans e1.symm)
    exact hv c2
   rw [this, if_neg (by simp [entS, hv])]
   simp [compose_Latest_j2]
theorem both_mem {x y : List Record} (hy : AL y) {o : List (Int × Compose_sample)} (ho : o.Perm ((smpsR x).map entS)) (p : Int) :
  Mem (o.filterMap (bothS y)) p ↔ ∃ s ∈ smpsR x, ∃ u ∈ smpsR y, s.1 = u.1 ∧ s.2.2 = u.2.2 ∧ s.1 ≤ p ∧ p < s.2.1 ∧ p < u.2.1 := by
 constructor
 ·rintro ⟨b, hb, h1, h2⟩
  obtain ⟨e, he, hbe⟩ := List.mem_filterMap.1 hb
  obtain ⟨s, hs, rfl⟩ := List.mem_map.1 (ho.mem_iff.1 he)
  unfold bothS at hbe
  obtain ⟨u, hu, hux⟩ := List.exists_of_findSome?_eq_some hbe
  split at hux
  ·rename_i hc
   simp only [Option.some.injEq, entS] at hux hc
   subst hux
   simp only at h1 h2
   exact ⟨s, hs, u, hu, hc.1.symm, hc.2.symm, h1, by omega, by omega⟩
  ·cases hux
 ·rintro ⟨s, hs, u, hu, e1, e2, h1, h2, h3⟩
  have he : entS s ∈ o := ho.mem_iff.2 (List.mem_map.2 ⟨s, hs, rfl⟩)
  cases hb : bothS y (entS s) with
  | none =>
   exfalso
   unfold bothS at hb
   have := List.findSome?_eq_none_iff.1 hb u hu
   rw [if_pos ⟨e1.symm, e2.symm⟩] at this
   cases this
  | some b =>
   refine ⟨b, List.mem_filterMap.2 ⟨entS s, he, hb⟩, ?_⟩
   unfold bothS at hb
   obtain ⟨u', hu', hux⟩ := List.exists_of_findSome?_eq_some hb
   split at hux
   ·rename_i hc
    simp only [Option.some.injEq, entS] at hux hc
    obtain rfl := smp_key hy hu' hu (hc.1.trans e1)
    subst hux
    simp only
    omega
   ·cases hux
theorem all_loop {m : List Record} (h : ∀ r ∈ m, RF r) (hl : m.length ≤ 900000) : whileM (compose_Latest_l1 m) (([] : List Span), 0) = some (m.map extR) := by
 refine whileM_for' (fun i => ((m.take i).map extR, (i : Int))) m.length _ (by simp) (fun i hi => ?_) ?_
 ·unfold compose_Latest_l1
  simp only
  rw [if_pos (decide_eq_true (by omega)), ix_nat _ _ hi]
  simp only [Option.bind_some]
  rw [extent_ok (h _ (List.getElem_mem hi))]
  simp only [Option.bind_some]
  rw [appM_one _ _ _ (by simp; omega) (by decide)]
  simp only [Option.bind_some]
  rw [w64_n (by omega), take_one hi, List.map_append]
  rfl
 ·unfold compose_Latest_l1
  simp only
  rw [if_neg (by simp), List.take_length]
theorem latest_ok {a b x y : List Record} (ha : VS15 a) (hb : VS15 b) (ea : compose_compose a = some x) (hx : CompOf a x) (eb : compose_compose b = some y) (hy : CompOf b y) (lx : x.length ≤ 1000) (ly : y.length ≤ 1000)
  (hs1 : (smpsR x).length ≤ 1000) (hsz : (x.length + y.length) * ((smpsR x).length + 1) ≤ 900000) : ∃ r, compose_Latest a b = some (r, 0) ∧ VS r ∧ r.length ≤ (x.length + y.length) * ((smpsR x).length + 1) ∧ ∀ p, Mem r p ↔ Later x y p := by
 have ax := hx.al ha.toVL
 have ay := hy.al hb.toVL
 have sml : ∀ {l m : List Record}, VS15 l → CompOf l m → ∀ r ∈ m, r.Samples.length ≤ 1000 := fun {l m} hv hc q hq => by
  obtain ⟨r, hr, i, j, h1, h2, rfl, _⟩ := hc.mem hv.toVL hq
  have := hv.smp r hr
  rw [subR_len r i j h2]
  omega
 obtain ⟨X, eX, hX⟩ := samples_ok ax lx (sml ha hx)
 obtain ⟨Y, eY, hY⟩ := samples_ok ay ly (sml hb hy)
 have hla := ha.len
 have hlb := hb.len
 have step : ∀ o : List (Int × Compose_sample), o.Perm X.l → foldO (compose_Latest_l3 Y) o [] = some (o.filterMap (bothS y)) := fun o ho => by
  have hP := ho.trans hX
  have := foldO_fm (f := compose_Latest_l3 Y) (bothS y) 900000 (fun e => e ∈ (smpsR x).map entS) (fun e s he hs => by
   obtain ⟨u, hu, rfl⟩ := List.mem_map.1 he
   exact both_step ay hY (smp_in64 ax hu) hs) o [] (fun e he => hP.mem_iff.1 he) (by have := hP.length_eq; rw [List.length_map] at this; simp only [List.length_nil]; omega)
  simpa using this
 have flen : ∀ o : List (Int × Compose_sample), o.Perm X.l → (o.filterMap (bothS y)).length ≤ (smpsR x).length := fun o ho => by
  have h1 := List.length_filterMap_le (bothS y) o
  have h2 := (ho.trans hX).length_eq
  rw [List.length_map] at h2
  omega
 have mns : ∀ o : List (Int × Compose_sample), o.Perm X.l → ∃ r, span_Minus ((x ++ y).map extR) (o.filterMap (bothS y)) = some r ∧ LS ((x ++ y).map extR) (o.filterMap (bothS y)) r := fun o ho => by
  have hl := flen o ho
  refine minus_specL ?_ (by omega) (by simp; omega)
  rw [List.length_map, List.length_append]
  exact Nat.le_trans (Nat.mul_le_mul (Nat.le_refl _) (Nat.add_le_add_right hl 1)) hsz
 obtain ⟨r, er, hr⟩ := mns X.l (List.Perm.refl _)
 have hmem : ∀ o : List (Int × Compose_sample), o.Perm X.l → ∀ {r : List Span}, LS ((x ++ y).map extR) (o.filterMap (bothS y)) r → ∀ p, Mem r p ↔ Later x y p := fun o ho {r} hr p => by
  rw [hr.mem, both_mem ay (ho.trans hX) p, List.map_append, mem_append]
  rfl
 refine ⟨r, ?_, hr.vs, ?_, hmem _ (List.Perm.refl _) hr⟩
 case refine_2 =>
  have h1 := hr.len
  rw [List.length_map, List.length_append] at h1
  exact Nat.le_trans h1 (Nat.mul_le_mul (Nat.le_refl _) (Nat.add_le_add_right (flen _ (List.Perm.refl _)) 1))
 unfold compose_Latest
 rw [valid_ok ha.toVL (by omega), valid_ok hb.toVL (by omega)]
 simp only [Option.bind_some, Bool.not_true, Bool.false_eq_true, if_false]
 rw [ea, eb]
 simp only [Option.bind_some]
 rw [rconcat _ _ (by omega) (by omega)]
 simp only [Option.bind_some]
 rw [all_loop (fun q hq => by rcases List.mem_append.1 hq with h | h; exact ax.rf q h; exact ay.rf q h) (by rw [List.length_append]; omega), eX, eY]
 simp only [Option.bind_some]
 refine Mo.each_of fun o ho => ?_
 rw [step o ho]
 simp only [Option.bind_some]
 obtain ⟨r', er', hr'⟩ := mns o ho
 rw [er']
 have : r' = r := hr'.vs.uniq hr.vs fun p => by rw [hmem o ho hr' p, hmem _ (List.Perm.refl _) hr p]
 rw [this]
 rfl
end Go.Proofs.YthdimlepjpnncaaGreat.Sh

/- The difference of two lists of spans as the reference makes it (chapter 8). -/
namespace Go.Proofs.YthdimlepjpnncaaGreat.Sh
open Go
set_option linter.unusedVariables false
set_option linter.unusedSimpArgs false
theorem minus6 {p q o : List Span} {i : Int} {x : Span} (hx : ix p i = some x) : ref08_Minus_l6 p q (o, i) = span_Minus_l6 q x := by
 funext s
 unfold ref08_Minus_l6 span_Minus_l6 ref08_Minus_j2 span_Minus_j2 ref08_Minus_j1 span_Minus_j1
 simp only [hx, Option.bind_some]
 cases hk : ix q s.2.2 with
 | none => rfl
 | some y =>
  simp only [Option.bind_some]
  by_cases h1 : y.To ≤ s.2.1
  ·simp [h1]
  ·by_cases h2 : x.To ≤ y.From
   ·simp [h1, h2]
   ·simp [h1, h2]
theorem minus3 (p q : List Span) : ref08_Minus_l3 p q = span_Minus_l3 q p := by
 funext s
 unfold ref08_Minus_l3 span_Minus_l3 ref08_Minus_j4 span_Minus_j4
 cases hk : ix p s.2 with
 | none => rfl
 | some x =>
  simp only [Option.bind_some]
  have e : s = (s.1, s.2) := rfl
  rw [e, minus6 hk]
theorem rminus_specL {a b : List Span} (ha : a.length * (b.length + 1) ≤ 900000) (hb : b.length ≤ 1000) (hl : a.length ≤ 100000) : ∃ r, ref08_Minus a b = some r ∧ LS a b r := by
 unfold ref08_Minus
 obtain ⟨p, ep, hp⟩ := rnormal_spec (l := a) (by omega)
 obtain ⟨q, eq, hq⟩ := rnormal_spec (l := b) (by omega)
 have l1 := hp.len
 have l2 := hq.len
 rw [ep, eq]
 simp only [Option.bind_some]
 obtain ⟨r, er, hr⟩ := minus_loop hp.vs hq.vs (Nat.le_trans (Nat.mul_le_mul l1 (Nat.add_le_add_right l2 1)) ha) (by omega) (by omega)
 rw [minus3, er]
 refine ⟨r, rfl, hr.vs, fun z => by rw [hr.mem, hp.mem, hq.mem], ?_, fun lo hi ea eb => hr.eb lo hi (hp.eb ea) (hq.eb eb)⟩
 have h1 := hr.len
 have h2 := Nat.mul_le_mul l1 (Nat.add_le_add_right l2 1)
 omega
theorem rminus_spec {a b : List Span} (ha : a.length ≤ 100) (hb : b.length ≤ 100) : ∃ r, ref08_Minus a b = some r ∧ LS a b r :=
 rminus_specL (Nat.le_trans (Nat.mul_le_mul ha (show b.length + 1 ≤ 101 by omega)) (by decide)) (by omega) (by omega)
end Go.Proofs.YthdimlepjpnncaaGreat.Sh

/- Rates and times of samples of the reference as plain programs: they compute what the program's do. -/
namespace Go.Proofs.YthdimlepjpnncaaGreat.Sh
open Go
set_option linter.unusedVariables false
set_option linter.unusedSimpArgs false
theorem ref01_In_eq (n lo hi : Int) : ref01_In n lo hi = some (inB n lo hi) := rfl
theorem ref02_gcd_eq (a b : Int) (ha : 0 ≤ a) (hb : 0 ≤ b) : ref02_gcd a b = some (Int.gcd a b : Int) := by
 obtain ⟨m, rfl⟩ := Int.eq_ofNat_of_zero_le ha
 obtain ⟨n, rfl⟩ := Int.eq_ofNat_of_zero_le hb
 unfold ref02_gcd
 rw [gcdloop (body := ref02_gcd_l1) (fun _ => rfl)]
 rfl
theorem ref02_Valid_eq (r : Rate) : ref02_Valid r = some (rateVB r) := by
 unfold ref02_Valid rateVB
 simp only [ref01_In_eq, Option.bind]
 by_cases h1 : inB r.Num 1 4096 = true
 ·by_cases h2 : inB r.Den 1 4096 = true
  ·have a1 := inB_iff.1 h1
   have a2 := inB_iff.1 h2
   rw [if_pos h1, h1, h2, ref02_gcd_eq _ _ (by omega) (by omega)]
   simp only [if_true, Bool.true_and, Option.some.injEq]
   rw [Bool.eq_iff_iff]; simp; omega
  ·simp only [Bool.not_eq_true] at h2
   simp [h1, h2]
 ·simp only [Bool.not_eq_true] at h1
  simp [h1]
theorem ref02_Time_eq (start : Int) (r : Rate) (k : Int) : ref02_Time start r k = some (timeV start r k) := by
 unfold ref02_Time timeV
 rw [ref02_Valid_eq]
 simp only [ref01_In_eq, Option.bind]
 by_cases h : rateVB r = true
 ·have hr := rateVB_iff.1 h
  rw [h]
  simp only [Bool.not_true, Bool.false_eq_true, if_false, if_true]
  by_cases h1 : inB start 0 9007199254740992 = true
  ·rw [h1]
   simp only [Bool.not_true, Bool.false_eq_true, if_false, Bool.true_and]
   by_cases h2 : inB k 0 16777216 = true
   ·have a1 := inB_iff.1 h1
    have a2 := inB_iff.1 h2
    obtain ⟨e0, e1, e2, e3⟩ := after_fits hr a2.1 a2.2
    have hd0 := hr.d0
    have hd1 := hr.d1
    have hn0 := hr.n0
    have q1 : k * r.Den ≤ 16777216 * 4096 := Int.mul_le_mul a2.2 hd1 (by omega) (by omega)
    have q0 : 0 ≤ k * r.Den := Int.mul_nonneg a2.1 (by omega)
    have qe : k * r.Den * 1000000 = k * (r.Den * 1000000) := Int.mul_assoc _ _ _
    rw [h2]
    simp only [Bool.not_true, Bool.false_eq_true, if_false, if_true]
    rw [w64_id (x := k * r.Den) (by omega) (by omega), qe, w64_id (by omega) (by omega), quo_nn (by omega) e0 (by omega)]
    simp only
    rw [w64_id (by omega) (by omega)]
   ·simp only [Bool.not_eq_true] at h2
    rw [h2]; simp
  ·simp only [Bool.not_eq_true] at h1
   rw [h1]; simp
 ·simp only [Bool.not_eq_true] at h
  rw [h]; simp
end Go.Proofs.YthdimlepjpnncaaGreat.Sh

/- The reference's identifiers and records as plain programs: they are valid where the program's are, and have the same times (chapters 3, 5 and 14). -/
namespace Go.Proofs.YthdimlepjpnncaaGreat.Sh
open Go
set_option linter.unusedVariables false
set_option linter.unusedSimpArgs false
theorem ref03_code_eq (s : ByteArray) (lo hi : Int) (hs : s.size ≤ 9223372036854775807) : ref03_code s lo hi = some (codeB s lo hi) := by
 unfold ref03_code codeB
 have hl : s.size = (bts s).length := by simp [bts]
 have step : ∀ (i : Nat) (hi' : i < (bts s).length), ref03_code_l2 s lo hi (i : Int) = if plainB (((bts s)[i]).toNat : Int) = true then some (.inl ((i + 1 : Nat) : Int)) else some (.inr false) := by
  intro i hi'
  unfold ref03_code_l2
  rw [if_pos (decide_eq_true (by omega)), byteAt_nat s i hi']
  generalize (((bts s)[i]).toNat : Int) = c
  simp only [Option.bind]
  rw [w64_id (by omega) (by omega)]
  unfold plainB
  by_cases h1 : 65 ≤ c <;> by_cases h2 : c ≤ 90 <;> by_cases h3 : 48 ≤ c <;> by_cases h4 : c ≤ 57 <;> simp [h1, h2, h3, h4]
 rw [loop_all (bts s).length (fun i => plainB (((bts s).getD i 0).toNat : Int)) false (inB s.size lo hi)]
 ·rw [range_all (bts s) (fun c => plainB c.toNat) _ (fun i hi => by simp [List.getD_eq_getElem?_getD, hi])]
  cases (bts s).all (fun c => plainB c.toNat) <;> simp
 ·intro i hi hp
  have e : (bts s).getD i 0 = (bts s)[i] := by simp [List.getD_eq_getElem?_getD, hi]
  rw [e] at hp
  rw [step i hi, if_pos hp]
 ·intro i hi hp
  have e : (bts s).getD i 0 = (bts s)[i] := by simp [List.getD_eq_getElem?_getD, hi]
  rw [e] at hp
  rw [step i hi, hp]
  rfl
 ·unfold ref03_code_l2
  rw [if_neg (by simp; omega)]
  rfl
theorem toList_bts (s : ByteArray) : s.toList = bts s := ByteArray.toList_eq s
theorem nil_iff (s : ByteArray) : (s.toList == (⟨#[]⟩ : ByteArray).toList) = decide (s.size = 0) := by
 rw [toList_bts, toList_bts]
 have : bts (⟨#[]⟩ : ByteArray) = [] := rfl
 rw [this, Bool.eq_iff_iff]
 simp [bts, ← Array.size_eq_zero_iff]
theorem ref03_Valid_eq {s : SourceID} (h : SrcSm s) : ref03_Valid s = some (srcB s) := by
 unfold ref03_Valid srcB
 rw [ref03_code_eq _ _ _ h.n, ref03_code_eq _ _ _ h.s, ref03_code_eq _ _ _ h.l, ref03_code_eq _ _ _ h.c, nil_iff]
 have e : (decide (s.Location.size = 0) || codeB s.Location 2 2) = (codeB s.Location 0 2 && !((s.Location.size : Int) == 1)) := by
  unfold codeB
  by_cases h0 : s.Location.size = 0
  ·have hb : bts s.Location = [] := by
    have : (bts s.Location).length = 0 := by simpa [bts] using h0
    exact List.eq_nil_of_length_eq_zero this
   rw [hb]
   simp [h0, inB]
  ·rw [decide_eq_false h0, Bool.false_or]
   cases (bts s.Location).all (fun c => plainB c.toNat)
   ·rfl
   ·simp only [Bool.true_and, inB]
    rw [Bool.eq_iff_iff]
    simp
    omega
 simp only [Option.bind]
 generalize codeB s.Network 1 2 = a at *
 generalize codeB s.Station 1 5 = b at *
 generalize codeB s.Channel 3 3 = c at *
 generalize codeB s.Location 2 2 = d at *
 generalize codeB s.Location 0 2 = f at *
 generalize decide (s.Location.size = 0) = g at *
 generalize ((s.Location.size : Int) == 1) = k at *
 revert e
 cases a <;> cases b <;> cases c <;> cases d <;> cases f <;> cases g <;> cases k <;> decide
theorem ref05_InRange_eq (l : List Int) (h : l.length ≤ 1000000000) : ref05_InRange l = some (smpB l) := by
 unfold ref05_InRange smpB
 rw [loop_all l.length (fun i => inB (l.getD i 0) (-1073741823) 1073741823) false true]
 ·rw [range_all l (fun x => inB x (-1073741823) 1073741823) _ (fun i hi => by simp [List.getD_eq_getElem?_getD, hi])]
  cases l.all (fun x => inB x (-1073741823) 1073741823) <;> rfl
 ·intro i hi hp
  have e : l.getD i 0 = l[i] := by simp [List.getD_eq_getElem?_getD, hi]
  rw [e] at hp
  unfold ref05_InRange_l2
  rw [if_pos (decide_eq_true (by omega)), ix_nat _ _ hi]
  simp only [Option.bind, ref05_Sample, ref01_In_eq, hp, Bool.not_true, Bool.false_eq_true, if_false]
  rw [w64_id (by omega) (by omega)]
  rfl
 ·intro i hi hp
  have e : l.getD i 0 = l[i] := by simp [List.getD_eq_getElem?_getD, hi]
  rw [e] at hp
  unfold ref05_InRange_l2
  rw [if_pos (decide_eq_true (by omega)), ix_nat _ _ hi]
  simp only [Option.bind, ref05_Sample, ref01_In_eq, hp, Bool.not_false, if_true]
 ·unfold ref05_InRange_l2
  rw [if_neg (by simp)]
  rfl
theorem ref14_Time_eq (r : Record) (i : Int) : ref14_Time r i = some (timeV r.Start r.Rate (w64 (r.First + i))).1 := by
 unfold ref14_Time
 rw [ref02_Time_eq]
 rfl
theorem ref14_Valid_eq {r : Record} (hs : SrcSm r.Source) (hl : r.Samples.length ≤ 1000000000) : ref14_Valid r = some (recB r) := by
 unfold ref14_Valid
 rw [ref03_Valid_eq hs, ref02_Valid_eq, ref05_InRange_eq _ hl]
 simp only [ref01_In_eq, ref14_Time_eq, Option.bind]
 have key : recB r = (srcB r.Source && rateVB r.Rate && inB r.Start 0 9007199254740992 && inB r.First 0 16777216 && inB r.Samples.length 1 65536 && !(decide (16777216 < w64 (r.First + r.Samples.length))) && smpB r.Samples &&
   (inB r.Error 0 1099511627776 && inB r.Run 0 65535 && inB r.Seq 0 1073741824 && decide ((timeV r.Start r.Rate (w64 (r.First + r.Samples.length))).1 ≤ 9007199254740992))) := by
  rw [Bool.eq_iff_iff, recB_iff]
  simp only [Bool.and_eq_true, inB_iff, decide_eq_true_eq, Bool.not_eq_true', decide_eq_false_iff_not]
  constructor
  ·intro h
   have a1 := h.l1
   have a2 := h.f0
   have a3 := h.f1
   rw [w64_id (by omega) (by omega), timeV_ok h.rv h.s0 h.s1 (by omega) (by omega)]
   exact ⟨⟨⟨⟨⟨⟨⟨h.src, rateVB_iff.2 h.rv⟩, h.s0, h.s1⟩, a2, by omega⟩, by have := h.l0; omega, by omega⟩, by omega⟩, h.smp⟩, ⟨⟨⟨h.e0, h.e1⟩, h.r0, h.r1⟩, h.q0, h.q1⟩, h.te⟩
  ·rintro ⟨⟨⟨⟨⟨⟨⟨b1, b2⟩, b3, b4⟩, b5, b6⟩, b7, b8⟩, b9⟩, b10⟩, ⟨⟨⟨b11, b12⟩, b13, b14⟩, b15, b16⟩, b17⟩
   rw [w64_id (by omega) (by omega)] at b9 b17
   have hrv := rateVB_iff.1 b2
   rw [timeV_ok hrv b3 b4 (by omega) (by omega)] at b17
   exact ⟨b1, by omega, by omega, b5, by omega, b11, b12, b13, b14, b15, b16, hrv, b3, b4, b17, b10⟩
 rw [key]
 cases srcB r.Source <;> cases rateVB r.Rate <;> cases inB r.Start 0 9007199254740992 <;> cases inB r.First 0 16777216 <;> cases inB (r.Samples.length : Int) 1 65536 <;> try rfl
 cases decide (16777216 < w64 (r.First + (r.Samples.length : Int))) <;> cases smpB r.Samples <;> cases inB r.Error 0 1099511627776 <;> cases inB r.Run 0 65535 <;> cases inB r.Seq 0 1073741824 <;> rfl
theorem RF.refvalid {r : Record} (h : RF r) : ref14_Valid r = some true := by
 rw [ref14_Valid_eq (srcB_sm h.src) (by have := h.l1; omega), recB_iff.2 h]
theorem RF.reftime {r : Record} (h : RF r) {i : Int} (i0 : 0 ≤ i) (i1 : i ≤ r.Samples.length) : ref14_Time r i = some (timeR r i) := by
 have a3 := h.f0
 have a4 := h.f1
 rw [ref14_Time_eq, w64_id (by omega) (by omega), h.timeV i0 i1]
theorem RF.refSpan {r : Record} (h : RF r) : ref14_Span r = some (⟨timeR r 0, timeR r r.Samples.length⟩, 0) := by
 unfold ref14_Span
 rw [h.refvalid, h.reftime (Int.le_refl 0) (by omega), h.reftime (by omega) (Int.le_refl _)]
 rfl
end Go.Proofs.YthdimlepjpnncaaGreat.Sh

/- Latest by the reference (chapter 15). -/
namespace Go.Proofs.YthdimlepjpnncaaGreat.Sh
open Go
set_option linter.unusedVariables false
set_option linter.unusedSimpArgs false
/-- what is left of a sample behind those of U with its time and its value -/
def cmF (s : Int × Int × Int) (U : List (Int × Int × Int)) (c : Int) : Int := U.foldl (fun c u => if u.1 = s.1 ∧ u.2.2 = s.2.2 then max c u.2.1 else c) c
def ownL (s : Int × Int × Int) (c : Int) : List Span := if c < s.2.1 then [⟨c, s.2.1⟩] else []
theorem cmF_append (s : Int × Int × Int) (U V : List (Int × Int × Int)) (c : Int) : cmF s (U ++ V) c = cmF s V (cmF s U c) := by unfold cmF; rw [List.foldl_append]
theorem cmF_le (s : Int × Int × Int) : ∀ (U : List (Int × Int × Int)) (c : Int), c ≤ cmF s U c
 | [], c => Int.le_refl _
 | u :: U, c => by
  show c ≤ cmF s U (if u.1 = s.1 ∧ u.2.2 = s.2.2 then max c u.2.1 else c)
  refine Int.le_trans ?_ (cmF_le s U _)
  split <;> omega
theorem cmF_iff (s : Int × Int × Int) (p : Int) : ∀ (U : List (Int × Int × Int)) (c : Int), cmF s U c ≤ p ↔ c ≤ p ∧ ∀ u ∈ U, u.1 = s.1 → u.2.2 = s.2.2 → u.2.1 ≤ p
 | [], c => by simp [cmF]
 | u :: U, c => by
  show cmF s U (if u.1 = s.1 ∧ u.2.2 = s.2.2 then max c u.2.1 else c) ≤ p ↔ _
  rw [cmF_iff s p U]
  simp only [List.mem_cons, forall_eq_or_imp]
  split
  ·rename_i h
   constructor
   ·rintro ⟨h1, h2⟩
    exact ⟨by omega, fun _ _ => by omega, h2⟩
   ·rintro ⟨h1, h2, h3⟩
    have := h2 h.1 h.2
    exact ⟨by omega, h3⟩
  ·rename_i h
   constructor
   ·rintro ⟨h1, h2⟩
    exact ⟨h1, fun a b => absurd ⟨a, b⟩ h, h2⟩
   ·rintro ⟨h1, h2, h3⟩
    exact ⟨h1, h3⟩
theorem cmF_same (s : Int × Int × Int) (U : List (Int × Int × Int)) (c : Int) (h : ∀ u ∈ U, u.2.1 ≤ c) : cmF s U c = c :=
 Int.le_antisymm ((cmF_iff s c U c).2 ⟨Int.le_refl _, fun u hu _ _ => h u hu⟩) (cmF_le s U c)
theorem ownL_mem (s : Int × Int × Int) (c p : Int) : Mem (ownL s c) p ↔ c ≤ p ∧ p < s.2.1 := by
 unfold ownL
 split
 ·rw [mem_one]
 ·constructor
  ·intro h; exact absurd h Mem.nil
  ·intro h; omega
theorem ownL_len (s : Int × Int × Int) (c : Int) : (ownL s c).length ≤ 1 := by unfold ownL; split <;> simp
theorem ownL_vs (s : Int × Int × Int) (c : Int) : VS (ownL s c) := by
 unfold ownL
 split
 ·rename_i h
  exact ⟨fun t ht => by rcases List.mem_singleton.1 ht with rfl; exact h, List.pairwise_singleton _ _⟩
 ·exact VS.nil
theorem minus_own {s : Int × Int × Int} {c e : Int} (h1 : s.1 ≤ c) : ref08_Minus (ownL s c) [⟨s.1, e⟩] = some (ownL s (max c e)) := by
 have := ownL_len s c
 obtain ⟨r, er, hr⟩ := rminus_spec (a := ownL s c) (b := [⟨s.1, e⟩]) (by omega) (by simp)
 rw [er]
 congr 1
 refine hr.vs.uniq (ownL_vs s _) fun p => ?_
 rw [hr.mem, ownL_mem, ownL_mem, mem_one]
 simp only
 constructor
 ·rintro ⟨⟨a, b⟩, d⟩
  exact ⟨by omega, b⟩
 ·rintro ⟨a, b⟩
  exact ⟨⟨by omega, b⟩, fun d => by omega⟩
theorem smpR_take {r : Record} {i : Nat} (hi : i < r.Samples.length) : (smpR r).take (i + 1) = (smpR r).take i ++ [(timeR r (i : Int), timeR r ((i : Int) + 1), r.Samples.getD i 0)] := by
 have hl : (smpR r).length = r.Samples.length := by simp [smpR]
 rw [take_one (by omega)]
 congr 1
 simp [smpR]
theorem l76_ok {a b : List Record} {i j k : Nat} (hi : i < a.length) (hk : k < b.length) (ha : RF a[i]) (hb : RF b[k]) (hj : j < a[i].Samples.length) {o1 o2 o3 : List Span} {s : Int × Int × Int}
  (hs : s = (timeR a[i] (j : Int), timeR a[i] ((j : Int) + 1), a[i].Samples.getD j 0)) {c : Int} (hc : s.1 ≤ c) :
  whileM (ref15_differ_l76 a b (o1, (i : Int)) (o2, (j : Int)) (o3, (k : Int))) (ownL s c, 0) = some (ownL s (cmF s (smpR b[k]) c)) := by
 have hbl := hb.l1
 refine whileM_for' (fun m => (ownL s (cmF s ((smpR b[k]).take m) c), (m : Int))) b[k].Samples.length _ (by simp [cmF]) (fun m hm => ?_) ?_
 ·have hcm := Int.le_trans hc (cmF_le s ((smpR b[k]).take m) c)
  unfold ref15_differ_l76
  simp only
  rw [ix_nat _ _ hk]
  simp only [Option.bind_some]
  rw [if_pos (decide_eq_true (by omega)), hb.reftime (i := (m : Int)) (by omega) (by omega)]
  simp only [Option.bind_some]
  rw [w64_n (n := m) (by omega), hb.reftime (i := ((m + 1 : Nat) : Int)) (by omega) (by omega), ix_nat _ _ hi]
  simp only [Option.bind_some]
  rw [ha.reftime (i := (j : Int)) (by omega) (by omega)]
  simp only [Option.bind_some]
  rw [ix_nat _ _ hm, ix_nat _ _ hj]
  simp only [Option.bind_some]
  unfold ref15_differ_j2
  simp only
  rw [w64_n (n := m) (by omega), smpR_take hm, cmF_append]
  simp only [Option.bind_some]
  rw [show ((m + 1 : Nat) : Int) = (m : Int) + 1 by omega]
  have e1 : s.1 = timeR a[i] (j : Int) := by rw [hs]
  have e2 : s.2.2 = a[i].Samples[j] := by rw [hs]; simp [hj]
  by_cases ht : timeR b[k] (m : Int) = timeR a[i] (j : Int)
  ·rw [if_pos (by simpa using ht)]
   simp only [Option.bind_some]
   by_cases hv : b[k].Samples[m] = a[i].Samples[j]
   ·rw [if_pos (by simpa using hv), ht, ← e1, minus_own hcm]
    simp only [Option.bind_some]
    unfold cmF
    simp only [List.foldl_cons, List.foldl_nil]
    rw [if_pos ⟨by first | trivial | (rw [e1]; exact ht), by rw [e2]; simp [hm, hv]⟩]
   ·rw [if_neg (by simpa using hv)]
    unfold cmF
    simp only [List.foldl_cons, List.foldl_nil]
    rw [if_neg (fun h => hv (by have := h.2; rw [e2] at this; simpa [hm] using this))]
  ·rw [if_neg (by simpa using ht)]
   simp only [Option.bind_some, Bool.false_eq_true, if_false]
   unfold cmF
   simp only [List.foldl_cons, List.foldl_nil]
   rw [if_neg (fun h => ht (by have := h.1; rw [e1] at this; exact this))]
 ·unfold ref15_differ_l76
  simp only
  rw [ix_nat _ _ hk]
  simp only [Option.bind_some]
  rw [if_neg (by simp)]
  have hl : (smpR b[k]).length = b[k].Samples.length := by simp [smpR]
  rw [List.take_of_length_le (by omega)]
theorem own0_ok (s : Int × Int × Int) (c : Int) : ref15_own0 (ownL s c) = some (if c < s.2.1 then c else 0) := by
 unfold ref15_own0 ownL
 split
 ·rw [if_neg (by simp), show ix [(⟨c, s.2.1⟩ : Span)] 0 = some ⟨c, s.2.1⟩ by simp [ix]]
  rfl
 ·rw [if_pos (by simp)]
theorem cmF_sml (s : Int × Int × Int) (U : List (Int × Int × Int)) (c : Int) (h : s.2.1 ≤ c) : ownL s (cmF s U c) = ownL s c := by
 have := cmF_le s U c
 unfold ownL
 rw [if_neg (by omega), if_neg (by omega)]
theorem smps_take {m : List Record} {i : Nat} (hi : i < m.length) : smpsR (m.take (i + 1)) = smpsR (m.take i) ++ smpR m[i] := by
 rw [take_one hi, smpsR, List.flatMap_append]
 simp [smpsR]
theorem l73_ok {a b : List Record} {i j : Nat} (hi : i < a.length) (hb : ∀ r ∈ b, RF r) (hbl : b.length ≤ 100000) (ha : RF a[i]) (hj : j < a[i].Samples.length) {o1 o2 : List Span} {s : Int × Int × Int}
  (hs : s = (timeR a[i] (j : Int), timeR a[i] ((j : Int) + 1), a[i].Samples.getD j 0)) :
  whileM (ref15_differ_l73 a b (o1, (i : Int)) (o2, (j : Int))) (ownL s s.1, 0) = some (ownL s (cmF s (smpsR b) s.1)) := by
 refine whileM_for' (fun k => (ownL s (cmF s (smpsR (b.take k)) s.1), (k : Int))) b.length _ (by simp [cmF, smpsR]) (fun k hk => ?_) ?_
 ·have hB := hb _ (List.getElem_mem hk)
  have hcm := cmF_le s (smpsR (b.take k)) s.1
  obtain ⟨c, hc⟩ : ∃ c, cmF s (smpsR (b.take k)) s.1 = c := ⟨_, rfl⟩
  unfold ref15_differ_l73
  simp only
  rw [if_pos (decide_eq_true (by omega)), ix_nat _ _ hk]
  simp only [Option.bind_some]
  rw [hB.refSpan]
  simp only [Option.bind_some]
  rw [hc] at hcm ⊢
  rw [own0_ok]
  simp only [Option.bind_some]
  rw [smps_take hk, cmF_append, hc]
  unfold ref15_differ_j1
  simp only
  rw [w64_n (n := k) (by omega)]
  simp only [Option.bind_some]
  by_cases hsk : c < s.2.1 ∧ ¬ timeR b[k] b[k].Samples.length ≤ c
  ·rw [if_neg (by unfold ownL; rw [if_pos hsk.1, if_pos hsk.1]; simp; omega), l76_ok hi hk ha hB hj hs hcm]
   rfl
  ·have he : ownL s (cmF s (smpR b[k]) c) = ownL s c := by
    by_cases h1 : c < s.2.1
    ·rw [cmF_same]
     intro u hu
     obtain ⟨x, hx, rfl⟩ := mem_smpR.1 hu
     have := hB.mono (i := (x : Int) + 1) (j := (b[k].Samples.length : Int)) (by omega)
     simp only
     omega
    ·exact cmF_sml s _ c (by omega)
   rw [he, if_pos]
   by_cases h1 : c < s.2.1
   ·rw [if_pos h1]
    simp
    left
    omega
   ·unfold ownL
    rw [if_neg h1]
    simp
    omega
 ·unfold ref15_differ_l73
  simp only
  rw [if_neg (by simp), List.take_length]
/-- what differ lays together -/
def difL (b : List Record) (U : List (Int × Int × Int)) : List Span := U.flatMap fun s => ownL s (cmF s (smpsR b) s.1)
theorem difL_len (b : List Record) : ∀ U : List (Int × Int × Int), (difL b U).length ≤ U.length
 | [] => by simp [difL]
 | s :: U => by
  have h1 := difL_len b U
  have h2 := ownL_len s (cmF s (smpsR b) s.1)
  unfold difL at h1 ⊢
  rw [List.flatMap_cons, List.length_append, List.length_cons]
  omega
theorem l62_ok {a b : List Record} {i : Nat} (hi : i < a.length) (hb : ∀ r ∈ b, RF r) (hbl : b.length ≤ 100000) (ha : RF a[i]) {o1 out : List Span} (ho : out.length ≤ 100000) (hal : a[i].Samples.length ≤ 100000) :
  whileM (ref15_differ_l62 a b (o1, (i : Int))) (out, 0) = some (out ++ difL b (smpR a[i])) := by
 have hsl : (smpR a[i]).length = a[i].Samples.length := by simp [smpR]
 refine whileM_for' (fun j => (out ++ difL b ((smpR a[i]).take j), (j : Int))) a[i].Samples.length _ (by simp [difL]) (fun j hj => ?_) ?_
 ·have hlen := difL_len b ((smpR a[i]).take j)
  rw [List.length_take] at hlen
  unfold ref15_differ_l62
  simp only
  rw [ix_nat _ _ hi]
  simp only [Option.bind_some]
  rw [if_pos (decide_eq_true (by omega)), ha.reftime (i := (j : Int)) (by omega) (by omega)]
  simp only [Option.bind_some]
  rw [w64_n (n := j) (by omega), ha.reftime (i := ((j + 1 : Nat) : Int)) (by omega) (by omega)]
  simp only [Option.bind_some]
  obtain ⟨s, hs⟩ : ∃ s : Int × Int × Int, s = (timeR a[i] (j : Int), timeR a[i] ((j : Int) + 1), a[i].Samples.getD j 0) := ⟨_, rfl⟩
  have hlt := ha.lt (i := (j : Int)) (j := (j : Int) + 1) (by omega)
  have hown : ([⟨timeR a[i] (j : Int), timeR a[i] ((j + 1 : Nat) : Int)⟩] : List Span) = ownL s s.1 := by
   unfold ownL
   rw [hs]
   simp only
   rw [if_pos hlt, show ((j + 1 : Nat) : Int) = (j : Int) + 1 by omega]
  rw [hown, l73_ok hi hb hbl ha hj hs]
  simp only [Option.bind_some]
  have hl1 := ownL_len s (cmF s (smpsR b) s.1)
  rw [appM_one _ _ _ (by rw [List.length_append]; omega) (by decide), smpR_take hj, ← hs]
  simp only [Option.bind_some]
  unfold difL
  rw [List.flatMap_append, List.append_assoc]
  simp
 ·unfold ref15_differ_l62
  simp only
  rw [ix_nat _ _ hi]
  simp only [Option.bind_some]
  rw [if_neg (by simp), List.take_of_length_le (by omega)]
theorem difL_append (b : List Record) (U V : List (Int × Int × Int)) : difL b (U ++ V) = difL b U ++ difL b V := by unfold difL; rw [List.flatMap_append]
theorem differ_ok {a b : List Record} (ha : ∀ r ∈ a, RF r) (hb : ∀ r ∈ b, RF r) (hal : a.length ≤ 100000) (hbl : b.length ≤ 100000) (hs : (smpsR a).length ≤ 50000) : ∃ r, ref15_differ a b = some r ∧ NS (difL b (smpsR a)) r := by
 unfold ref15_differ
 have hsub : ∀ i, i ≤ a.length → (smpsR (a.take i)).length ≤ (smpsR a).length := fun i hi => by
  have : smpsR a = smpsR (a.take i) ++ smpsR (a.drop i) := by unfold smpsR; rw [← List.flatMap_append, List.take_append_drop]
  rw [this, List.length_append]; omega
 have hw : whileM (ref15_differ_l27 a b) (([] : List Span), 0) = some (difL b (smpsR a)) := by
  refine whileM_for' (fun i => (difL b (smpsR (a.take i)), (i : Int))) a.length _ (by simp [difL, smpsR]) (fun i hi => ?_) ?_
  ·have h1 := difL_len b (smpsR (a.take i))
   have h2 := hsub i (by omega)
   have hA := ha _ (List.getElem_mem hi)
   have h3 := hA.l1
   unfold ref15_differ_l27
   simp only
   rw [if_pos (decide_eq_true (by omega)), l62_ok hi hb hbl hA (by omega) (by omega)]
   simp only [Option.bind_some]
   rw [w64_n (n := i) (by omega), smps_take hi, difL_append]
  ·unfold ref15_differ_l27
   simp only
   rw [if_neg (by simp), List.take_length]
 rw [hw]
 simp only [Option.bind_some]
 have := difL_len b (smpsR a)
 obtain ⟨r, er, hr⟩ := rnormal_spec (l := difL b (smpsR a)) (by omega)
 rw [er]
 exact ⟨r, rfl, hr⟩
theorem difL_mem {b : List Record} {U : List (Int × Int × Int)} {p : Int} : Mem (difL b U) p ↔ ∃ s ∈ U, s.1 ≤ p ∧ p < s.2.1 ∧ ∀ u ∈ smpsR b, u.1 = s.1 → u.2.2 = s.2.2 → u.2.1 ≤ p := by
 unfold difL
 constructor
 ·rintro ⟨x, hx, h1, h2⟩
  obtain ⟨s, hs, hx⟩ := List.mem_flatMap.1 hx
  obtain ⟨h3, h4⟩ := (ownL_mem s _ p).1 ⟨x, hx, h1, h2⟩
  obtain ⟨h5, h6⟩ := (cmF_iff s p _ _).1 h3
  exact ⟨s, hs, h5, h4, h6⟩
 ·rintro ⟨s, hs, h5, h4, h6⟩
  obtain ⟨x, hx, h1, h2⟩ := (ownL_mem s _ p).2 ⟨(cmF_iff s p _ _).2 ⟨h5, h6⟩, h4⟩
  exact ⟨x, List.mem_flatMap.2 ⟨s, hs, hx⟩, h1, h2⟩
/-- both ways say the same -/
theorem later_iff {x y : List Record} (hx : AL x) (hy : AL y) (p : Int) : (Mem (difL y (smpsR x)) p ∨ Mem (difL x (smpsR y)) p) ↔ Later x y p := by
 rw [difL_mem, difL_mem]
 constructor
 ·rintro (⟨s, hs, h1, h2, h3⟩ | ⟨s, hs, h1, h2, h3⟩)
  ·refine ⟨.inl ((smp_times hx).2 ⟨s, hs, h1, h2⟩), ?_⟩
   rintro ⟨s', hs', o, ho, e1, e2, g1, g2, g3⟩
   obtain rfl := smp_uniq hx hs hs' h1 h2 g1 g2
   have := h3 o ho e1.symm e2.symm
   omega
  ·refine ⟨.inr ((smp_times hy).2 ⟨s, hs, h1, h2⟩), ?_⟩
   rintro ⟨s', hs', o, ho, e1, e2, g1, g2, g3⟩
   obtain rfl := smp_uniq hy hs ho h1 h2 (by omega) g3
   have := h3 s' hs' e1 e2
   omega
 ·rintro ⟨h1 | h1, h2⟩
  ·obtain ⟨s, hs, a, b⟩ := (smp_times hx).1 h1
   refine .inl ⟨s, hs, a, b, fun u hu e1 e2 => ?_⟩
   refine Classical.byContradiction fun hn => h2 ⟨s, hs, u, hu, e1.symm, e2.symm, a, b, by omega⟩
  ·obtain ⟨s, hs, a, b⟩ := (smp_times hy).1 h1
   refine .inr ⟨s, hs, a, b, fun u hu e1 e2 => ?_⟩
   refine Classical.byContradiction fun hn => h2 ⟨u, hu, s, hs, e1, e2, by omega, by omega, b⟩
end Go.Proofs.YthdimlepjpnncaaGreat.Sh

/- The dice of the statements, as plain programs: what they give lies in its range, and the dice stay well. -/
namespace Go.Proofs.YthdimlepjpnncaaGreat.Sh
open Go
set_option linter.unusedVariables false
set_option linter.unusedSimpArgs false
structure DOK (d : Dice) : Prop where
 a0 : 0 ≤ d.At
 a1 : d.At ≤ d.L.length
 len : d.L.length ≤ 500
theorem DOK.roll {l : List Int} (h : l.length ≤ 500) : DOK ⟨l, 0⟩ := ⟨Int.le_refl _, by simp, h⟩
theorem light_spec (l : List Int) : made_Light l = some (decide (l.length ≤ 500)) := by
 simp only [made_Light, Option.some.injEq, decide_eq_decide]; omega
theorem next_spec {d : Dice} (hd : DOK d) {n : Int} (h1 : 1 ≤ n) (h2 : n ≤ 9223372036854775807) : ∃ x d', made_Dice_Next d n = some (x, d') ∧ 0 ≤ x ∧ x < n ∧ DOK d' := by
 obtain ⟨a0, a1, len⟩ := hd
 unfold made_Dice_Next
 by_cases h : (d.L.length : Int) ≤ d.At
 ·refine ⟨0, d, ?_, Int.le_refl _, by omega, a0, a1, len⟩
  simp [h]
 ·have hn : ¬ n < 1 := by omega
  have hnext : DOK ⟨d.L, w64 (d.At + 1)⟩ := by
   rw [w64_id (by omega) (by omega)]; exact ⟨by simp only; omega, by simp only; omega, len⟩
  rw [if_neg (by simp [h, hn]), ix_at d.L d.At a0 (by omega)]
  simp only [Option.bind]
  rw [remM_at _ _ (by omega)]
  simp only [made_Dice_Next_j1]
  generalize hx : (d.L[d.At.toNat]'(by omega)) = x
  have hb : -n < x.tmod n ∧ x.tmod n < n := ⟨Int.lt_tmod_of_pos x (by omega), Int.tmod_lt_of_pos x (by omega)⟩
  by_cases hneg : x.tmod n < 0
  ·simp only [hneg, decide_true, if_true, Option.bind]
   refine ⟨_, _, rfl, ?_, ?_, hnext⟩ <;> rw [w64_id (by omega) (by omega)] <;> omega
  ·simp only [hneg, decide_false, Bool.false_eq_true, if_false]
   exact ⟨_, _, rfl, by omega, by omega, hnext⟩
theorem pick_spec {d : Dice} (hd : DOK d) {l : List Int} (h1 : 1 ≤ l.length) (h2 : l.length ≤ 1000) : ∃ x d', made_Dice_Pick d l = some (x, d') ∧ x ∈ l ∧ DOK d' := by
 obtain ⟨x, d', e, x0, x1, hd'⟩ := next_spec hd (n := (l.length : Int)) (by omega) (by omega)
 unfold made_Dice_Pick
 rw [e]
 simp only [Option.bind]
 rw [ix_at l x x0 x1]
 exact ⟨_, _, rfl, List.getElem_mem _, hd'⟩
end Go.Proofs.YthdimlepjpnncaaGreat.Sh

/- The identifiers and the records that the dice make are well. -/
namespace Go.Proofs.YthdimlepjpnncaaGreat.Sh
open Go
set_option linter.unusedVariables false
set_option linter.unusedSimpArgs false
theorem pickl_spec {α : Type} {d : Dice} (hd : DOK d) (l : List α) (n : Int) (hn : n = l.length) (h1 : 1 ≤ l.length) (h2 : l.length ≤ 1000) :
  ∃ x d' y, made_Dice_Next d n = some (x, d') ∧ ix l x = some y ∧ y ∈ l ∧ DOK d' := by
 obtain ⟨x, d', e, x0, x1, hd'⟩ := next_spec hd (n := n) (by omega) (by omega)
 exact ⟨x, d', _, e, ix_at l x x0 (by omega), List.getElem_mem _, hd'⟩
theorem dsource_spec {d : Dice} (hd : DOK d) : ∃ s d', made_Dice_Source d = some (s, d') ∧ srcB s = true ∧ DOK d' := by
 unfold made_Dice_Source
 obtain ⟨x1, d1, y1, e1, g1, m1, hd1⟩ := pickl_spec hd [(⟨#[71, 82]⟩ : ByteArray), (⟨#[88]⟩ : ByteArray), (⟨#[55, 65]⟩ : ByteArray)] 3 (by decide) (by decide) (by decide)
 obtain ⟨x2, d2, y2, e2, g2, m2, hd2⟩ := pickl_spec hd1 [(⟨#[70, 85, 82]⟩ : ByteArray), (⟨#[65]⟩ : ByteArray), (⟨#[65, 66, 67, 68, 69]⟩ : ByteArray), (⟨#[70, 85]⟩ : ByteArray)] 4 (by decide) (by decide) (by decide)
 obtain ⟨x3, d3, y3, e3, g3, m3, hd3⟩ := pickl_spec hd2 [(⟨#[]⟩ : ByteArray), (⟨#[48, 48]⟩ : ByteArray), (⟨#[49, 48]⟩ : ByteArray)] 3 (by decide) (by decide) (by decide)
 obtain ⟨x4, d4, y4, e4, g4, m4, hd4⟩ := pickl_spec hd3 [(⟨#[72, 72, 90]⟩ : ByteArray), (⟨#[72, 72, 78]⟩ : ByteArray), (⟨#[66, 72, 90]⟩ : ByteArray)] 3 (by decide) (by decide) (by decide)
 rw [e1]; simp only [Option.bind]
 rw [g1]; simp only
 rw [e2]; simp only
 rw [g2]; simp only
 rw [e3]; simp only
 rw [g3]; simp only
 rw [e4]; simp only
 rw [g4]
 refine ⟨_, _, rfl, ?_, hd4⟩
 have h1 : codeB y1 1 2 = true := by
  simp only [List.mem_cons, List.not_mem_nil, or_false] at m1
  rcases m1 with rfl | rfl | rfl <;> decide
 have h2 : codeB y2 1 5 = true := by
  simp only [List.mem_cons, List.not_mem_nil, or_false] at m2
  rcases m2 with rfl | rfl | rfl | rfl <;> decide
 have h3 : (codeB y3 0 2 && !((y3.size : Int) == 1)) = true := by
  simp only [List.mem_cons, List.not_mem_nil, or_false] at m3
  rcases m3 with rfl | rfl | rfl <;> decide
 have h4 : codeB y4 3 3 = true := by
  simp only [List.mem_cons, List.not_mem_nil, or_false] at m4
  rcases m4 with rfl | rfl | rfl <;> decide
 simp only [Bool.and_eq_true] at h3
 simp only [srcB, h1, h2, h3.1, h3.2, h4, Bool.and_self]
/-- what is known of the records that the dice make -/
structure RG (s : SourceID) (n : Int) (r : Record) : Prop where
 src : r.Source = s
 s0 : 1000000000000 ≤ r.Start
 s1 : r.Start ≤ 1000009750000
 f0 : 0 ≤ r.First
 f1 : r.First ≤ 3
 rv : RV r.Rate
 n3 : r.Rate.Num ≤ 3
 d3 : r.Rate.Den ≤ 3
 e0 : 0 ≤ r.Error
 e1 : r.Error ≤ 500
 r0 : 0 ≤ r.Run
 r1 : r.Run ≤ 1
 q0 : 0 ≤ r.Seq
 q1 : r.Seq ≤ 5
 l0 : 1 ≤ r.Samples.length
 l1 : (r.Samples.length : Int) ≤ n
 smp : ∀ x ∈ r.Samples, 0 ≤ x ∧ x ≤ 3
theorem RG.rf {s : SourceID} {n : Int} {r : Record} (h : RG s n r) (hs : srcB s = true) (hn : n ≤ 1000) : RF r := by
 have l1 := h.l1
 have l0 := h.l0
 have f0 := h.f0
 have f1 := h.f1
 have s1 := h.s1
 have s0 := h.s0
 have d0 := h.rv.d0
 have d3 := h.d3
 have n0 := h.rv.n0
 have e1 := h.e1
 have r1 := h.r1
 have q1 := h.q1
 have k1 : (r.First + r.Samples.length) * (r.Rate.Den * 1000000) ≤ 1003 * 3000000 := Int.mul_le_mul (by omega) (by omega) (by omega) (by omega)
 have k0 : 0 ≤ (r.First + r.Samples.length) * (r.Rate.Den * 1000000) := Int.mul_nonneg (by omega) (by omega)
 have k2 := Int.ediv_le_self r.Rate.Num k0
 exact ⟨by rw [h.src]; exact hs, l0, by omega, f0, by omega, h.e0, by omega, h.r0, by omega, h.q0, by omega, h.rv, by omega, by omega, by omega, smpB_iff.2 fun x hx => by have := h.smp x hx; omega⟩
structure RI (n : Int) (s : List Int × Int × List Int × Int) : Prop where
 dok : DOK ⟨s.1, s.2.1⟩
 rng : ∀ x ∈ s.2.2.1, 0 ≤ x ∧ x ≤ 3
 i0 : 0 ≤ s.2.2.2
 i1 : s.2.2.2 + s.2.2.1.length ≤ n
 ne : s.2.2.2 = 0 → 1 ≤ s.2.2.1.length
theorem New_eq {a b : Int} (a0 : 1 ≤ a) (a1 : a ≤ 4096) (b0 : 1 ≤ b) (b1 : b ≤ 4096) : ref02_New a b = some (⟨a / (Int.gcd a b : Int), b / (Int.gcd a b : Int)⟩, 0) := by
 unfold ref02_New
 rw [ref01_In_eq, ref01_In_eq, inB_true a0 a1, inB_true b0 b1]
 simp only [Option.bind, Bool.not_true, Bool.false_eq_true, if_false]
 rw [ref02_gcd_eq _ _ (by omega) (by omega)]
 have g0 : 0 < Int.gcd a b := Int.gcd_pos_of_ne_zero_left _ (by omega)
 simp only
 rw [quo_nn (by omega) (by omega) (by omega), quo_nn (by omega) (by omega) (by omega)]
theorem drecord_spec {d : Dice} (hd : DOK d) (s : SourceID) {n : Int} (n0 : 1 ≤ n) (n1 : n ≤ 1000) : ∃ r d', made_Dice_Record d s n = some (r, d') ∧ RG s n r ∧ DOK d' := by
 unfold made_Dice_Record
 obtain ⟨a, d1, e1, ha, hd1⟩ := pick_spec hd (l := [1, 2, 2, 3]) (by decide) (by decide)
 obtain ⟨b, d2, e2, hb, hd2⟩ := pick_spec hd1 (l := [1, 1, 1, 3]) (by decide) (by decide)
 obtain ⟨c, d3, e3, c0, c1, hd3⟩ := next_spec hd2 (n := 40) (by decide) (by decide)
 obtain ⟨fi, d4, e4, hfi, hd4⟩ := pick_spec hd3 (l := [0, 0, 3]) (by decide) (by decide)
 obtain ⟨er, d5, e5, her, hd5⟩ := pick_spec hd4 (l := [0, 0, 10, 500]) (by decide) (by decide)
 obtain ⟨ru, d6, e6, ru0, ru1, hd6⟩ := next_spec hd5 (n := 2) (by decide) (by decide)
 obtain ⟨sq, d7, e7, sq0, sq1, hd7⟩ := next_spec hd6 (n := 6) (by decide) (by decide)
 obtain ⟨m, d8, e8, m0, m1, hd8⟩ := next_spec hd7 (n := n) n0 (by omega)
 have ha' : a = 1 ∨ a = 2 ∨ a = 3 := by simp at ha; omega
 have hb' : b = 1 ∨ b = 3 := by simp at hb; omega
 have hfi' : fi = 0 ∨ fi = 3 := by simp at hfi; omega
 have her' : er = 0 ∨ er = 10 ∨ er = 500 := by simp at her; omega
 rw [e1]; simp only [Option.bind]
 rw [e2]; simp only
 rw [New_eq (by omega) (by omega) (by omega) (by omega)]; simp only
 rw [e3]; simp only
 rw [e4]; simp only
 rw [e5]; simp only
 rw [e6]; simp only
 rw [e7]; simp only
 rw [e8]; simp only
 rw [w64_id (x := 1 + m) (by omega) (by omega), w64_id (x := 250000 * c) (by omega) (by omega), w64_id (x := 1000000000000 + 250000 * c) (by omega) (by omega)]
 have hw := whileM_inv (body := made_Dice_Record_l1) (RI n) (fun s => s.2.2.2.toNat)
  (fun e => DOK ⟨e.1, e.2.1⟩ ∧ (∀ x ∈ e.2.2, 0 ≤ x ∧ x ≤ 3) ∧ 1 ≤ e.2.2.length ∧ (e.2.2.length : Int) ≤ n) (by
   intro s hs
   obtain ⟨dok, rng, i0, i1, ne⟩ := hs
   by_cases hi : 0 < s.2.2.2
   ·left
    obtain ⟨x, d', e, x0, x1, hd'⟩ := next_spec dok (n := 4) (by decide) (by decide)
    unfold made_Dice_Record_l1
    rw [if_pos (decide_eq_true hi), e]
    simp only [Option.bind]
    rw [appM_one _ _ _ (by simp; omega) (by decide), w64_id (by omega) (by omega)]
    refine ⟨_, rfl, ⟨hd', ?_, by simp only; omega, by simp; omega, fun _ => by simp⟩, by simp only; omega⟩
    intro y hy
    simp only [List.mem_append, List.mem_singleton] at hy
    rcases hy with hy | hy
    ·exact rng y hy
    ·omega
   ·right
    unfold made_Dice_Record_l1
    rw [if_neg (by simpa using hi)]
    exact ⟨_, rfl, dok, rng, ne (by omega), by simp only; omega⟩)
  (d8.L, d8.At, [], 1 + m) ⟨hd8, by simp, by simp only; omega, by simp; omega, fun h => by simp only at h; omega⟩
 obtain ⟨e, he, hde, hr, hl1, hl2⟩ := hw
 rw [he]
 have hrate : RV ⟨a / (Int.gcd a b : Int), b / (Int.gcd a b : Int)⟩ ∧ a / (Int.gcd a b : Int) ≤ 3 ∧ b / (Int.gcd a b : Int) ≤ 3 := by
  rcases ha' with rfl | rfl | rfl <;> rcases hb' with rfl | rfl <;> exact ⟨rateVB_iff.1 (by decide), by decide, by decide⟩
 exact ⟨_, _, rfl, ⟨rfl, by simp only; omega, by simp only; omega, by simp only; omega, by simp only; omega, hrate.1, hrate.2.1, hrate.2.2, by simp only; omega, by simp only; omega, ru0, by simp only; omega, sq0, by simp only; omega, hl1, hl2, hr⟩, hde⟩
end Go.Proofs.YthdimlepjpnncaaGreat.Sh

/- The lists of records that the dice make (chapter 15). -/
namespace Go.Proofs.YthdimlepjpnncaaGreat.Sh
open Go
set_option linter.unusedVariables false
set_option linter.unusedSimpArgs false
/-- what is known of the records of the dice's lists -/
structure RQ (s : SourceID) (n : Int) (r : Record) : Prop where
 src : r.Source = s
 s0 : 1000000000000 ≤ r.Start
 s1 : r.Start ≤ 1000009750000
 f0 : 0 ≤ r.First
 f1 : r.First ≤ 3
 rv : RV r.Rate
 n3 : r.Rate.Num ≤ 3
 d3 : r.Rate.Den ≤ 3
 e0 : 0 ≤ r.Error
 e1 : r.Error ≤ 500
 r0 : 0 ≤ r.Run
 r1 : r.Run ≤ 1
 q0 : 0 ≤ r.Seq
 q1 : r.Seq ≤ 9
 l0 : 1 ≤ r.Samples.length
 l1 : (r.Samples.length : Int) ≤ n
 smp : ∀ x ∈ r.Samples, 0 ≤ x ∧ x ≤ 3
theorem RG.rq {s : SourceID} {n : Int} {r : Record} (h : RG s n r) : RQ s n r := ⟨h.src, h.s0, h.s1, h.f0, h.f1, h.rv, h.n3, h.d3, h.e0, h.e1, h.r0, h.r1, h.q0, by have := h.q1; omega, h.l0, h.l1, h.smp⟩
theorem RQ.end_ {s : SourceID} {n : Int} {r : Record} (h : RQ s n r) (hn : n ≤ 1000) : 0 ≤ (r.First + r.Samples.length) * (r.Rate.Den * 1000000) / r.Rate.Num ∧ (r.First + r.Samples.length) * (r.Rate.Den * 1000000) / r.Rate.Num ≤ (3 + n) * 3000000 := by
 have l1 := h.l1; have l0 := h.l0; have f0 := h.f0; have f1 := h.f1; have d0 := h.rv.d0; have d3 := h.d3; have n0 := h.rv.n0
 have k1 : (r.First + r.Samples.length) * (r.Rate.Den * 1000000) ≤ (3 + n) * 3000000 := Int.mul_le_mul (by omega) (by omega) (by omega) (by omega)
 have k0 : 0 ≤ (r.First + r.Samples.length) * (r.Rate.Den * 1000000) := Int.mul_nonneg (by omega) (by omega)
 have k2 := Int.ediv_le_self r.Rate.Num k0
 exact ⟨Int.ediv_nonneg k0 (by omega), by omega⟩
theorem RQ.rf {s : SourceID} {n : Int} {r : Record} (h : RQ s n r) (hs : srcB s = true) (hn : n ≤ 1000) : RF r := by
 have l1 := h.l1; have l0 := h.l0; have f0 := h.f0; have f1 := h.f1; have s1 := h.s1; have s0 := h.s0
 have e1 := h.e1; have r1 := h.r1; have q1 := h.q1
 have k := h.end_ hn
 exact ⟨by rw [h.src]; exact hs, l0, by omega, f0, by omega, h.e0, by omega, h.r0, by omega, h.q0, by omega, h.rv, by omega, by omega, by omega, smpB_iff.2 fun x hx => by have := h.smp x hx; omega⟩
theorem drecords_spec {d : Dice} (hd : DOK d) {n : Int} (n0 : 0 ≤ n) (n1 : n ≤ 50) : ∃ l d' s, made_Dice_Records d n = some (l, d') ∧ srcB s = true ∧ (∀ r ∈ l, RQ s 6 r) ∧ (l.length : Int) ≤ n ∧ DOK d' := by
 unfold made_Dice_Records
 obtain ⟨s, d1, e1, hs, hd1⟩ := dsource_spec hd
 obtain ⟨k, d2, e2, k0, k1, hd2⟩ := next_spec hd1 (n := n + 1) (by omega) (by omega)
 rw [e1]; simp only [Option.bind_some]
 rw [w64_id (by omega) (by omega), e2]
 simp only [Option.bind_some]
 obtain ⟨e, he, hde, hl, hn⟩ := loop_ex (b1 := made_Dice_Records_l1 (s, d1))
  (fun m st => DOK ⟨st.1, st.2.1⟩ ∧ (∀ r ∈ st.2.2.1, RQ s 6 r) ∧ 0 ≤ st.2.2.2 ∧ st.2.2.2 + st.2.2.1.length ≤ n ∧ m = st.2.2.2.toNat)
  (fun e => DOK ⟨e.1, e.2.1⟩ ∧ (∀ r ∈ e.2.2, RQ s 6 r) ∧ (e.2.2.length : Int) ≤ n) (by
   rintro m ⟨L, At, out, i⟩ ⟨dok, hr, i0, i1, hm⟩
   simp only at dok hr i0 i1 hm
   by_cases hi : 0 < i
   ·left
    have j1 : ∀ (L' : List Int) (At' : Int) (r : Record), DOK ⟨L', At'⟩ → RQ s 6 r → ∃ st' n', made_Dice_Records_j1 (L, At, out, i) L' At' r.Source.Network r.Source.Station r.Source.Location r.Source.Channel r.Start r.First r.Rate.Num r.Rate.Den r.Error r.Run r.Seq r.Samples = some (.inl st') ∧ (DOK ⟨st'.1, st'.2.1⟩ ∧ (∀ r ∈ st'.2.2.1, RQ s 6 r) ∧ 0 ≤ st'.2.2.2 ∧ st'.2.2.2 + st'.2.2.1.length ≤ n ∧ n' = st'.2.2.2.toNat) ∧ n' < m := by
     intro L' At' r hd' hq
     unfold made_Dice_Records_j1
     simp only
     rw [appM_one _ _ _ (by simp; omega) (by decide), w64_id (x := i - 1) (by omega) (by omega)]
     refine ⟨_, (i - 1).toNat, rfl, ⟨hd', fun q hq' => ?_, by simp only; omega, by simp; omega, rfl⟩, by omega⟩
     rcases List.mem_append.1 hq' with hq' | hq'
     ·exact hr q hq'
     ·rcases List.mem_singleton.1 hq' with rfl; exact hq
    obtain ⟨r, d3, e3, hrg, hd3⟩ := drecord_spec dok s (n := 6) (by decide) (by decide)
    unfold made_Dice_Records_l1
    simp only
    rw [if_pos (decide_eq_true hi), e3]
    simp only [Option.bind_some]
    by_cases hol : 0 < out.length
    ·obtain ⟨z, d4, e4, z0, z1, hd4⟩ := next_spec hd3 (n := 5) (by decide) (by decide)
     rw [if_pos (decide_eq_true (by omega)), e4]
     simp only [Option.bind_some]
     by_cases hz : (z == 0) = true
     ·rw [if_pos hz]
      obtain ⟨x, d5, y, e5, g5, m5, hd5⟩ := pickl_spec (d := ⟨d4.L, d4.At⟩) hd4 out (out.length : Int) rfl (by omega) (by omega)
      have hy := hr y m5
      rw [e5]
      simp only [Option.bind_some]
      rw [g5]
      simp only [Option.bind_some]
      obtain ⟨q, d6, e6, mq, hd6⟩ := pick_spec hd5 (l := [y.Seq, 9]) (by simp) (by simp)
      rw [e6]
      simp only [Option.bind_some]
      have hq : 0 ≤ q ∧ q ≤ 9 := by
       have a1 := hy.q0; have a2 := hy.q1
       simp only [List.mem_cons, List.not_mem_nil, or_false] at mq
       omega
      exact j1 d6.L d6.At ⟨y.Source, y.Start, y.First, y.Rate, y.Error, y.Run, q, y.Samples⟩ hd6 ⟨hy.src, hy.s0, hy.s1, hy.f0, hy.f1, hy.rv, hy.n3, hy.d3, hy.e0, hy.e1, hy.r0, hy.r1, hq.1, hq.2, hy.l0, hy.l1, hy.smp⟩
     ·rw [if_neg hz]
      exact j1 d4.L d4.At r hd4 hrg.rq
    ·rw [if_neg (by simpa using hol)]
     simp only [Option.bind_some, Bool.false_eq_true, if_false]
     exact j1 d3.L d3.At r hd3 hrg.rq
   ·right
    unfold made_Dice_Records_l1
    simp only
    rw [if_neg (by simpa using hi)]
    exact ⟨_, rfl, dok, hr, by simp only; omega⟩) k.toNat (d2.L, d2.At, [], k) ⟨hd2, by simp, k0, by simp; omega, rfl⟩
 rw [he]
 exact ⟨_, _, s, rfl, hs, hl, hn, hde⟩
end Go.Proofs.YthdimlepjpnncaaGreat.Sh

/- Composing composed data changes nothing (chapter 15). -/
namespace Go.Proofs.YthdimlepjpnncaaGreat.Sh
open Go
set_option linter.unusedVariables false
set_option linter.unusedSimpArgs false
theorem vs_rq {l : List Record} {s : SourceID} (hs : srcB s = true) (h : ∀ r ∈ l, RQ s 6 r) (hl : l.length ≤ 100) : VS15 l :=
 ⟨⟨fun r hr => (h r hr).rf hs (by decide), fun r hr q hq => (h r hr).src.trans (h q hq).src.symm⟩, hl, fun r hr => by have := (h r hr).l1; omega⟩
theorem CompOf.smp6 {l m : List Record} (hc : CompOf l m) (h : VL l) (h6 : ∀ r ∈ l, r.Samples.length ≤ 6) : ∀ q ∈ m, q.Samples.length ≤ 6 := fun q hq => by
 obtain ⟨r, hr, a, b, hab, hb, rfl, _⟩ := hc.mem h hq
 rw [subR_len r a b hb]
 have := h6 r hr
 omega
theorem CompOf.vs {l m : List Record} (hc : CompOf l m) (h : VS15 l) (hl : m.length ≤ 100) (h6 : ∀ r ∈ l, r.Samples.length ≤ 6) : VS15 m :=
 ⟨⟨fun r hr => hc.rf h.toVL hr, fun r hr q hq => by
  obtain ⟨r', hr', a, b, _, _, rfl, _⟩ := hc.mem h.toVL hr
  obtain ⟨q', hq', c, d, _, _, rfl, _⟩ := hc.mem h.toVL hq
  exact h.src r' hr' q' hq'⟩, hl, fun r hr => by have := hc.smp6 h.toVL h6 r hr; omega⟩
theorem sub_whole (r : Record) : subR r 0 r.Samples.length = r := by
 cases r
 simp [subR]
/-- composed data, composed again -/
theorem CompOf.again {l x y : List Record} (hc : CompOf l x) (h : VL l) (hv : VL x) (hy : CompOf x y) : y = x := by
 have hasc := hc.strict h
 have hap := hc.apart h
 have hss := sset_self cmpR_cmp (fun _ _ => cmpR_eq) hasc
 refine hy.eq (fun r => [(0, r.Samples.length)]) hv (fun r hr => ?_) ?_ (hasc.imp fun h => Int.le_of_lt h)
 ·have hr := mem_ss.1 hr
  have hR := hv.rf r hr
  have hk : ∀ i, i < r.Samples.length → keepR (sset cmpR x) r i = true := fun i hi => by
   rw [keep_iff hv hr]
   intro q hq hb z h1 h2 h3
   have g := smp_in hR hi h1 h2
   obtain ⟨a, ha, ea⟩ := List.mem_iff_getElem.1 hr
   obtain ⟨b, hb', eb⟩ := List.mem_iff_getElem.1 hq
   rw [List.pairwise_iff_getElem] at hap
   rcases Nat.lt_trichotomy a b with hab | hab | hab
   ·have := hap a b ha hb' hab
    rw [ea, eb] at this
    exact this z ⟨g, h3⟩
   ·subst hab
    rw [ea] at eb
    subst eb
    have := betR_cmp.refl r
    omega
   ·have := hap b a hb' ha hab
    rw [ea, eb] at this
    exact this z ⟨h3, g⟩
  refine ⟨fun p hp => ?_, List.pairwise_singleton _ _, fun i hi _ => ⟨(0, r.Samples.length), List.mem_cons_self, Nat.zero_le _, hi⟩⟩
  rcases List.mem_singleton.1 hp with rfl
  exact ⟨by have := hR.l0; simp only; omega, Nat.le_refl _, fun i _ hi => hk i hi, .inl rfl⟩
 ·rw [hss]
  have e : ∀ k : List Record, k.flatMap (fun r => subsR r [(0, r.Samples.length)]) = k := fun k => by
   induction k with
   | nil => rfl
   | cons a k ih => rw [List.flatMap_cons, ih]; simp [subsR, sub_whole]
  rw [e x]
theorem ccovered_ok {l : List Record} (h : VS15 l) : ∃ r, compose_Covered l = some (r, 0) ∧ NS (l.map extR) r := by
 have hl := h.len
 unfold compose_Covered
 rw [valid_ok h.toVL (by omega)]
 simp only [Option.bind_some, Bool.not_true, Bool.false_eq_true, if_false]
 have hw : whileM (compose_Covered_l1 l) (([] : List Span), 0) = some (l.map extR) := by
  refine whileM_for' (fun i => ((l.take i).map extR, (i : Int))) l.length _ (by simp) (fun i hi => ?_) ?_
  ·unfold compose_Covered_l1
   simp only
   rw [if_pos (decide_eq_true (by omega)), ix_nat _ _ hi]
   simp only [Option.bind_some]
   rw [extent_ok (h.rf _ (List.getElem_mem hi))]
   simp only [Option.bind_some]
   rw [appM_one _ _ _ (by simp; omega) (by decide)]
   simp only [Option.bind_some]
   rw [w64_n (by omega), take_one hi, List.map_append]
   rfl
  ·unfold compose_Covered_l1
   simp only
   rw [if_neg (by simp), List.take_length]
 rw [hw]
 simp only [Option.bind_some]
 obtain ⟨r, er, hr⟩ := normal_spec (l := l.map extR) (by simp; omega)
 rw [er]
 exact ⟨r, rfl, hr⟩
theorem CompOf.cover {l m : List Record} (hc : CompOf l m) (h : VL l) {p : Int} (hp : Mem (m.map extR) p) : Mem (l.map extR) p := by
 obtain ⟨s, hs, a, b⟩ := (smp_times (hc.al h)).1 hp
 obtain ⟨r, hr, i, hi, _, rfl⟩ := (hc.smp h).1 hs
 have g := smp_in (h.rf r hr) hi a b
 exact ⟨extR r, List.mem_map.2 ⟨r, hr, rfl⟩, g.1, g.2⟩
theorem nodup_len {β : Type} : ∀ {a b : List β}, a.Nodup → (∀ x ∈ a, x ∈ b) → a.length ≤ b.length
 | [], b, _, _ => Nat.zero_le _
 | x :: a, b, hn, hm => by
  obtain ⟨h1, h2⟩ := List.nodup_cons.1 hn
  obtain ⟨p, q, rfl⟩ := List.append_of_mem (hm x List.mem_cons_self)
  have := nodup_len (a := a) (b := p ++ q) h2 (fun y hy => by
   have h3 := hm y (List.mem_cons_of_mem _ hy)
   rcases List.mem_append.1 h3 with h | h
   ·exact List.mem_append.2 (.inl h)
   ·rcases List.mem_cons.1 h with rfl | h
    ·exact absurd hy h1
    ·exact List.mem_append.2 (.inr h))
  simp only [List.length_cons, List.length_append] at this ⊢
  omega
theorem nodup_of_map {α β : Type} {f : α → β} : ∀ {l : List α}, (l.map f).Nodup → l.Nodup
 | [], _ => List.nodup_nil
 | a :: l, h => by
  simp only [List.map_cons, List.nodup_cons] at h
  exact List.nodup_cons.2 ⟨fun hm => h.1 (List.mem_map.2 ⟨a, hm, rfl⟩), nodup_of_map h.2⟩
/-- no more samples than there were -/
theorem CompOf.smps_le {l m : List Record} (hc : CompOf l m) (h : VL l) : (smpsR m).length ≤ (smpsR l).length :=
 nodup_len (nodup_of_map (smp_keys (hc.al h))) fun s hs => by
  obtain ⟨r, hr, i, hi, _, rfl⟩ := (hc.smp h).1 hs
  exact mem_smpsR.2 ⟨r, hr, mem_smpR.2 ⟨i, hi, rfl⟩⟩
theorem len_smps {m : List Record} (h : ∀ r ∈ m, RF r) : m.length ≤ (smpsR m).length := by
 induction m with
 | nil => simp
 | cons r m ih =>
  have h1 := (h r List.mem_cons_self).l0
  have h2 := ih fun q hq => h q (List.mem_cons_of_mem _ hq)
  unfold smpsR at h2 ⊢
  rw [List.flatMap_cons, List.length_append]
  have : (smpR r).length = r.Samples.length := by simp [smpR]
  simp only [List.length_cons]
  omega
end Go.Proofs.YthdimlepjpnncaaGreat.Sh

/- The reference's orders of records as plain programs (chapters 3 and 14). -/
namespace Go.Proofs.YthdimlepjpnncaaGreat.Sh
open Go
set_option linter.unusedVariables false
set_option linter.unusedSimpArgs false
theorem rnum_eq (a b : Int) : ref14_number a b = some (cmpI a b) := by
 unfold ref14_number cmpI
 by_cases h1 : a < b
 ·simp [h1]
 ·by_cases h2 : b < a
  ·simp [h1, h2]
  ·simp [h1, h2]
theorem rcmpS_eq (a b : ByteArray) : ref03_compare a b = some (cmpS a b) := by
 unfold ref03_compare
 rw [cmpS_spell]
 cases Op.bytesLess a.toList b.toList
 ·cases (a.toList == b.toList) <;> simp
 ·simp
/-- the first number of a list that is not 0, and what comes behind it -/
def fst0 {β : Type} (f : Int → β) (z : β) (v : Int) : β := if v ≠ 0 then f v else z
theorem orL_0 {x : Int} {r : List Int} (h : x = 0) : orL (x :: r) = orL r := by simp only [orL]; rw [if_neg (by omega)]
theorem orL_1 {x : Int} {r : List Int} (h : x ≠ 0) : orL (x :: r) = x := by simp only [orL]; rw [if_pos h]
theorem fst0_cons {β : Type} (f : Int → β) (z : β) (x : Int) (r : List Int) : fst0 f z (orL (x :: r)) = if x ≠ 0 then f x else fst0 f z (orL r) := by
 by_cases h : x = 0
 ·rw [orL_0 h, if_neg (by omega)]
 ·rw [orL_1 h, if_pos h]; unfold fst0; rw [if_pos h]
theorem fst0_nil {β : Type} (f : Int → β) (z : β) : fst0 f z (orL []) = z := by unfold fst0 orL; rfl
theorem or_cong {α : Type} {x : Int} {a r s : α} (h : r = s) : (if x ≠ 0 then a else r) = (if x ≠ 0 then a else s) := by rw [h]
theorem first_loop {β : Type} {body : Int → Option (Int ⊕ β)} (l : List Int) (f : Int → β) (z : β) (hl : l.length ≤ 1000000)
  (h1 : ∀ i : Nat, (hi : i < l.length) → l[i] = 0 → body (i : Int) = some (.inl ((i + 1 : Nat) : Int))) (h2 : ∀ i : Nat, (hi : i < l.length) → l[i] ≠ 0 → body (i : Int) = some (.inr (f l[i])))
  (h3 : orL l = 0 → body (l.length : Int) = some (.inr z)) : whileM body 0 = some (fst0 f z (orL l)) := by
 by_cases h0 : orL l = 0
 ·have h3 := h3 h0
  have key : ∀ m, m ≤ l.length → whileM body ((l.length - m : Nat) : Int) = some (fst0 f z (orL (l.drop (l.length - m)))) := by
   intro m
   induction m with
   | zero =>
    intro _
    rw [whileM_eq, Nat.sub_zero, h3, List.drop_length, fst0_nil]; rfl
   | succ m ih =>
    intro hm
    have ih := ih (by omega)
    rw [show l.length - m = l.length - (m + 1) + 1 by omega] at ih
    have hi : l.length - (m + 1) < l.length := by omega
    rw [whileM_eq, List.drop_eq_getElem_cons hi, fst0_cons]
    by_cases hx : l[l.length - (m + 1)] = 0
    ·rw [h1 _ hi hx, if_neg (show ¬ l[l.length - (m + 1)] ≠ 0 by omega)]
     exact ih
    ·rw [h2 _ hi hx, if_pos hx]; rfl
  have := key l.length (Nat.le_refl _)
  rw [Nat.sub_self] at this
  exact this
 ·have key : ∀ m, m ≤ l.length → orL (l.drop (l.length - m)) ≠ 0 → whileM body ((l.length - m : Nat) : Int) = some (fst0 f z (orL (l.drop (l.length - m)))) := by
   intro m
   induction m with
   | zero =>
    intro _ hn
    rw [Nat.sub_zero, List.drop_length] at hn
    exact absurd rfl hn
   | succ m ih =>
    intro hm hn
    have ih := ih (by omega)
    rw [show l.length - m = l.length - (m + 1) + 1 by omega] at ih
    have hi : l.length - (m + 1) < l.length := by omega
    rw [List.drop_eq_getElem_cons hi] at hn
    rw [whileM_eq, List.drop_eq_getElem_cons hi, fst0_cons]
    by_cases hx : l[l.length - (m + 1)] = 0
    ·rw [orL_0 hx] at hn
     rw [h1 _ hi hx, if_neg (show ¬ l[l.length - (m + 1)] ≠ 0 by omega)]
     exact ih hn
    ·rw [h2 _ hi hx, if_pos hx]; rfl
  have := key l.length (Nat.le_refl _) (by rw [Nat.sub_self]; exact h0)
  rw [Nat.sub_self] at this
  exact this
theorem rcmpSrc_eq (a b : SourceID) : ref03_Compare a b = some (cmpSrc a b) := by
 unfold ref03_Compare
 simp only [rcmpS_eq, Option.bind]
 rw [first_loop (l := [cmpS a.Network b.Network, cmpS a.Station b.Station, cmpS a.Location b.Location, cmpS a.Channel b.Channel]) (f := id) (z := 0) (by simp)]
 ·simp only [fst0_cons, fst0_nil, cmpSrc, andThen, Option.some.injEq, id]
  refine or_cong (or_cong (or_cong ?_))
  split <;> omega
 ·intro i hi hx
  unfold ref03_Compare_l2
  rw [if_pos (decide_eq_true (by simp at hi; omega)), ix_nat _ _ hi]
  simp only [Option.bind, hx]
  rw [w64_id (by omega) (by simp at hi; omega)]; rfl
 ·intro i hi hx
  unfold ref03_Compare_l2
  rw [if_pos (decide_eq_true (by simp at hi; omega)), ix_nat _ _ hi]
  simp only [Option.bind]
  rw [if_pos (by simpa using hx)]; rfl
 ·intro _
  unfold ref03_Compare_l2
  rw [if_neg (by simp)]; rfl
theorem lex_zip : ∀ (a b : List Int), a.length = b.length → lexL cmpI a b = orL (List.zipWith cmpI a b)
 | [], [], _ => rfl
 | x :: a, y :: b, h => by
  simp only [lexL, List.zipWith_cons_cons, orL]
  rw [lex_zip a b (by simpa using h)]
theorem rlex_eq (a b : Record) (hl : a.Samples.length = b.Samples.length) (ha : a.Samples.length ≤ 1000000) : whileM (ref14_Compare_l4 a b) 0 = some (lexL cmpI a.Samples b.Samples) := by
 have hz : (List.zipWith cmpI a.Samples b.Samples).length = a.Samples.length := by simp [hl]
 rw [first_loop (l := List.zipWith cmpI a.Samples b.Samples) (f := id) (z := 0) (by omega)]
 ·rw [lex_zip _ _ hl]
  simp only [fst0, id, Option.some.injEq]
  split <;> omega
 ·intro i hi hx
  rw [List.getElem_zipWith] at hx
  unfold ref14_Compare_l4
  rw [if_pos (decide_eq_true (by omega)), ix_nat _ _ (show i < a.Samples.length by omega), ix_nat _ _ (show i < b.Samples.length by omega)]
  simp only [Option.bind, rnum_eq, hx]
  rw [w64_id (by omega) (by omega)]; rfl
 ·intro i hi hx
  rw [List.getElem_zipWith] at hx ⊢
  unfold ref14_Compare_l4
  rw [if_pos (decide_eq_true (by omega)), ix_nat _ _ (show i < a.Samples.length by omega), ix_nat _ _ (show i < b.Samples.length by omega)]
  simp only [Option.bind, rnum_eq]
  rw [if_pos (by simpa using hx)]; rfl
 ·intro _
  rw [hz]
  unfold ref14_Compare_l4
  rw [if_neg (by simp)]; rfl
theorem rcompare_j2 {a b : Record} (ha : RSm a) (h6 : a.Samples.length ≤ 1000000) : ref14_Compare_j2 a b (begR a) (begR b) = some (cmpR a b) := by
 unfold ref14_Compare_j2
 simp only [rcmpSrc_eq, rnum_eq, Option.bind]
 rw [first_loop (l := [cmpSrc a.Source b.Source, cmpI (begR a) (begR b), cmpI a.Start b.Start, cmpI a.First b.First, cmpI a.Rate.Num b.Rate.Num, cmpI a.Rate.Den b.Rate.Den, cmpI a.Error b.Error, cmpI a.Run b.Run, cmpI a.Seq b.Seq, cmpI a.Samples.length b.Samples.length])
   (f := id) (z := lexL cmpI a.Samples b.Samples) (by simp)]
 ·simp only [fst0_cons, fst0_nil, cmpR, andThen, id]
 ·intro i hi hx
  unfold ref14_Compare_l2
  rw [if_pos (decide_eq_true (by simp at hi; omega)), ix_nat _ _ hi]
  simp only [Option.bind, hx]
  rw [w64_id (by omega) (by simp at hi; omega)]; rfl
 ·intro i hi hx
  unfold ref14_Compare_l2
  rw [if_pos (decide_eq_true (by simp at hi; omega)), ix_nat _ _ hi]
  simp only [Option.bind]
  rw [if_pos (by simpa using hx)]; rfl
 ·intro h0
  have hl : a.Samples.length = b.Samples.length := by
   refine Classical.byContradiction fun hn => ?_
   have hne : cmpI a.Samples.length b.Samples.length ≠ 0 := fun h => hn (by have := cmpI_eq h; omega)
   have last : ∀ l : List Int, ∀ x, x ≠ 0 → orL (l ++ [x]) ≠ 0 := by
    intro l x hx
    induction l with
    | nil => rw [List.nil_append, orL_1 hx]; exact hx
    | cons y l ih =>
     rw [List.cons_append]
     by_cases hy : y = 0
     ·rw [orL_0 hy]; exact ih
     ·rw [orL_1 hy]; exact hy
   exact last [cmpSrc a.Source b.Source, cmpI (begR a) (begR b), cmpI a.Start b.Start, cmpI a.First b.First, cmpI a.Rate.Num b.Rate.Num, cmpI a.Rate.Den b.Rate.Den, cmpI a.Error b.Error, cmpI a.Run b.Run, cmpI a.Seq b.Seq] _ hne h0
  unfold ref14_Compare_l2
  rw [if_neg (by simp), rlex_eq a b hl h6]; rfl
theorem rcompare_eq {a b : Record} (ha : RSm a) (hb : RSm b) (h6 : a.Samples.length ≤ 1000000) : ref14_Compare a b = some (cmpR a b) := by
 have hj : ref14_Compare_j1 a b (begR a) = some (cmpR a b) := by
  unfold ref14_Compare_j1
  rw [ref14_Valid_eq hb.src hb.len]
  simp only [Option.bind]
  have e := rcompare_j2 (b := b) ha h6
  by_cases hv : recB b = true
  ·have hr := recB_iff.1 hv
   have eb : begR b = timeR b 0 := by unfold begR; rw [if_pos hv]
   rw [hv, hr.reftime (Int.le_refl 0) (by omega), ← eb]
   exact e
  ·have eb : begR b = 0 := by unfold begR; rw [if_neg hv]
   rw [if_neg hv, ← eb]
   exact e
 unfold ref14_Compare
 rw [ref14_Valid_eq ha.src ha.len]
 simp only [Option.bind]
 by_cases hv : recB a = true
 ·have hr := recB_iff.1 hv
  have ea : begR a = timeR a 0 := by unfold begR; rw [if_pos hv]
  rw [hv, hr.reftime (Int.le_refl 0) (by omega), ← ea]
  exact hj
 ·have ea : begR a = 0 := by unfold begR; rw [if_neg hv]
  rw [if_neg hv, ← ea]
  exact hj
theorem rSub_eq {r : Record} (h : RF r) {a b : Nat} (hab : a < b) (hb : b ≤ r.Samples.length) : ref14_Sub r a b = some (subR r a b, 0) := by
 have l1 := h.l1
 have f0 := h.f0
 have f1 := h.f1
 unfold ref14_Sub
 rw [h.refvalid]
 simp only [Option.bind, Bool.not_true, Bool.false_eq_true, if_false]
 have hc : (((decide ((a : Int) < 0)) || (decide ((b : Int) ≤ (a : Int)))) || (decide ((r.Samples.length : Int) < (b : Int)))) = false := by simp; omega
 rw [hc, sub_at _ _ _ (by omega) hb]
 simp only [Bool.false_eq_true, if_false]
 rw [appM_one _ _ _ (by simp; omega) (by decide), w64_id (by omega) (by omega)]
 rfl
end Go.Proofs.YthdimlepjpnncaaGreat.Sh

/- The order of records as the reference makes it (chapter 15). -/
namespace Go.Proofs.YthdimlepjpnncaaGreat.Sh
open Go
set_option linter.unusedVariables false
set_option linter.unusedSimpArgs false
theorem rfine_ok {l : List Record} (h : VL l) (hl : l.length ≤ 1000) : ref15_fine l = some true := by
 unfold ref15_fine
 refine whileM_for' (fun i => (i : Int)) l.length _ rfl (fun i hi => ?_) ?_
 ·have hm := List.getElem_mem hi
  have h0 : 0 < l.length := by omega
  unfold ref15_fine_l2
  rw [if_pos (decide_eq_true (by omega)), ix_nat _ _ hi]
  simp only [Option.bind_some]
  rw [(h.rf _ hm).refvalid]
  simp only [Option.bind_some, Bool.not_true, Bool.false_eq_true, if_false]
  rw [show ix l 0 = some l[0] from ix_nat l 0 h0]
  simp only [Option.bind_some]
  rw [h.src _ hm _ (List.getElem_mem h0)]
  simp only [ba_refl, Bool.and_self, Bool.not_true, Bool.false_eq_true, if_false]
  rw [w64_n (by omega)]
 ·unfold ref15_fine_l2
  rw [if_neg (by simp)]
  rfl
theorem rvalid_ok {l : List Record} (h : VL l) (hl : l.length ≤ 256) : ref15_Valid l = some true := by
 unfold ref15_Valid
 rw [if_pos (decide_eq_true (by omega)), rfine_ok h (by omega)]
 rfl
theorem natpred {k : Nat} (h : 0 < k) : (k : Int) - 1 = ((k - 1 : Nat) : Int) := by omega
open Classical in
theorem rorder_rsm {l : List Record} (h : ∀ r ∈ l, RSm r ∧ r.Samples.length ≤ 1000000) (hl : l.length ≤ 1000) : ref15_order l = some (sset cmpR l) := by
 unfold ref15_order
 have hw : whileM (ref15_order_l3 l) (([] : List Record), 0) = some (sset cmpR l) := by
  refine whileM_for' (fun i => (sset cmpR (l.take i), (i : Int))) l.length _ (by simp [sset]) (fun i hi => ?_) ?_
  ·have hsl := sset_len cmpR (l.take i)
   rw [List.length_take] at hsl
   have hom : ∀ r ∈ sset cmpR (l.take i), RSm r ∧ r.Samples.length ≤ 1000000 := fun r hr => h r (List.mem_of_mem_take (mem_ss.1 hr))
   have hxm := h _ (List.getElem_mem hi)
   obtain ⟨o, ho⟩ : ∃ o, sset cmpR (l.take i) = o := ⟨_, rfl⟩
   obtain ⟨x, hx⟩ : ∃ x, l[i] = x := ⟨_, rfl⟩
   have hpw := sset_pw cmpR_cmp (fun _ _ => cmpR_eq) (l.take i)
   rw [take_one hi, sset_snoc cmpR_cmp (fun _ _ => cmpR_eq), hx]
   rw [ho] at hsl hpw hom ⊢
   rw [hx] at hxm
   unfold ref15_order_l3
   simp only
   rw [if_pos (decide_eq_true (by omega))]
   simp only [Option.bind_some]
   obtain ⟨k, ek, k1, k2, k3⟩ := down_find (c := cmpR) (body := ref15_order_l6 l (o, (i : Int))) o x (by omega) (fun k hk => by
    unfold ref15_order_l6
    simp only
    rw [if_pos (decide_eq_true (by omega)), w64_id (by omega) (by omega), show ((k + 1 : Nat) : Int) - 1 = (k : Int) by omega, ix_nat _ _ hk, ix_nat _ _ hi, hx]
    simp only [Option.bind_some]
    have hk' := hom _ (List.getElem_mem hk)
    rw [rcompare_eq hk'.1 hxm.1 hk'.2]
    simp only [Option.bind_some]
    by_cases hc : 0 < cmpR o[k] x
    ·rw [if_pos (decide_eq_true hc), if_pos hc]
    ·rw [if_neg (by simpa using hc), if_neg hc]) (by
    unfold ref15_order_l6
    simp)
   rw [ek]
   simp only [Option.bind_some]
   obtain ⟨q1, q2⟩ := insC_at cmpR_cmp (fun _ _ => cmpR_eq) (x := x) hpw k1 k2 k3
   clear k2 k3
   have hcond : (if decide ((0 : Int) < (k : Int)) = true then (ix o (w64 ((k : Int) - 1))).bind fun x1255 => (ix l (i : Int)).bind fun x1272 => (ref14_Compare x1255 x1272).bind fun rv1288 => some (rv1288 == 0) else some false) = some (decide (0 < k ∧ o[k - 1]? = some x)) := by
    by_cases hk0 : 0 < k
    ·have hkl : k - 1 < o.length := by omega
     have hk' := hom _ (List.getElem_mem hkl)
     rw [if_pos (decide_eq_true (by omega)), w64_id (by omega) (by omega), natpred hk0, ix_nat _ _ hkl, ix_nat _ _ hi, hx]
     simp only [Option.bind_some]
     rw [rcompare_eq hk'.1 hxm.1 hk'.2]
     simp only [Option.bind_some, Option.some.injEq]
     rw [Bool.eq_iff_iff, beq_iff_eq, decide_eq_true_iff, some_at hkl, Option.some.injEq]
     exact ⟨fun h => ⟨hk0, cmpR_eq h⟩, fun h => by rw [h.2]; exact cmpR_cmp.refl x⟩
    ·rw [if_neg (by simp; omega)]
     have : ¬ (0 < k ∧ o[k - 1]? = some x) := fun h => hk0 h.1
     rw [decide_eq_false this]
   have hbody : ∀ c : Bool, (c = true → insC cmpR x o = o) → (c = false → insC cmpR x o = o.take k ++ x :: o.drop k) → (if c = true then ref15_order_j1 (o, (i : Int)) o else (ix l (i : Int)).bind fun x1339 => (appM 144 o ([x1339] : List Record)).bind fun l1357 => (subM l1357 (w64 ((k : Int) + 1)) (l1357.length : Int)).bind fun l1365 => (subM l1357 (k : Int) (l1357.length : Int)).bind fun l1370 => (some (copyM l1357 (w64 ((k : Int) + 1)) (l1357.length : Int) l1370)).bind fun l1371 => (ix l (i : Int)).bind fun x1381 => (ix l1371 (k : Int)).bind fun x1393 => (setM l1371 (k : Int) x1381).bind fun l1409 => ref15_order_j1 (o, (i : Int)) l1409) = some (Sum.inl (insC cmpR x o, ((i + 1 : Nat) : Int))) := by
    intro c c1 c2
    unfold ref15_order_j1
    simp only
    rw [w64_id (x := (i : Int) + 1) (by omega) (by omega)]
    cases c with
    | true =>
     rw [if_pos rfl, c1 rfl]
     rfl
    | false =>
     rw [if_neg (by decide), ix_nat _ _ hi, hx]
     simp only [Option.bind_some]
     rw [appM_one _ _ _ (by simp; omega) (by decide), w64_id (x := (k : Int) + 1) (by omega) (by omega)]
     simp only [Option.bind_some]
     obtain ⟨g1, g2, q, eq, hq, hset⟩ := insert_mem (s := o) (x := x) k1 (by omega)
     have ek1 : (k : Int) + 1 = ((k + 1 : Nat) : Int) := by omega
     rw [ek1, g1]
     simp only [Option.bind_some]
     rw [g2]
     simp only [Option.bind_some]
     rw [← eq, ix_nat _ _ hq]
     simp only [Option.bind_some]
     rw [setM_at _ _ _ (by omega) (by omega), Int.toNat_natCast, hset, c2 rfl]
     rfl
   refine Eq.trans ?_ (hbody (decide (0 < k ∧ o[k - 1]? = some x)) (fun h => ?_) (fun h => ?_))
   ·exact congrArg (fun z : Option Bool => z.bind fun c1289 => (if c1289 = true then ref15_order_j1 (o, (i : Int)) o else (ix l (i : Int)).bind fun x1339 => (appM 144 o ([x1339] : List Record)).bind fun l1357 => (subM l1357 (w64 ((k : Int) + 1)) (l1357.length : Int)).bind fun l1365 => (subM l1357 (k : Int) (l1357.length : Int)).bind fun l1370 => (some (copyM l1357 (w64 ((k : Int) + 1)) (l1357.length : Int) l1370)).bind fun l1371 => (ix l (i : Int)).bind fun x1381 => (ix l1371 (k : Int)).bind fun x1393 => (setM l1371 (k : Int) x1381).bind fun l1409 => ref15_order_j1 (o, (i : Int)) l1409)) hcond
   ·have h := of_decide_eq_true h
    obtain ⟨hkl, e⟩ := at_some h.2
    exact q1 ⟨hkl, h.1, e⟩
   ·have h := of_decide_eq_false h
    refine q2 ?_
    by_cases hk0 : k = 0
    ·exact .inl hk0
    ·have hkl : k - 1 < o.length := by omega
     exact .inr ⟨hkl, by omega, fun e => h ⟨by omega, by rw [some_at hkl, e]⟩⟩
  ·unfold ref15_order_l3
   simp only
   rw [if_neg (by simp), List.take_length]
 rw [hw]
 rfl
theorem rorder_ok {l : List Record} (h : VL l) (hl : l.length ≤ 1000) : ref15_order l = some (sset cmpR l) := rorder_rsm (fun r hr => ⟨(h.rf r hr).sm, by have := (h.rf r hr).l1; omega⟩) hl
theorem rOrder_ok {l : List Record} (h : VS15 l) : ref15_Order l = some (sset cmpR l, 0) := by
 have hl := h.len
 unfold ref15_Order
 rw [rvalid_ok h.toVL (by omega)]
 simp only [Option.bind_some, Bool.not_true, Bool.false_eq_true, if_false]
 rw [rorder_ok h.toVL (by omega)]
 rfl
end Go.Proofs.YthdimlepjpnncaaGreat.Sh

/- Which of two records the reference takes for the better one. -/
namespace Go.Proofs.YthdimlepjpnncaaGreat.Sh
open Go
set_option linter.unusedVariables false
set_option linter.unusedSimpArgs false
theorem rbetter_eq {a b : Record} (ha : RSm a) (hb : RSm b) (h6 : a.Samples.length ≤ 1000000) : ref14_Better a b = some (decide (betR a b < 0)) := by
 unfold ref14_Better
 simp only [rnum_eq, Option.bind]
 rw [first_loop (l := [cmpI a.Error b.Error, cmpI b.Run a.Run, cmpI b.Seq a.Seq]) (f := fun x => decide (x < 0)) (z := decide (cmpR a b < 0)) (by simp)]
 ·simp only [fst0_cons, fst0_nil, betR, andThen, Option.some.injEq]
  split
  ·rfl
  ·split
   ·rfl
   ·split <;> rfl
 ·intro i hi hx
  unfold ref14_Better_l2
  rw [if_pos (decide_eq_true (by simp at hi; omega)), ix_nat _ _ hi]
  simp only [Option.bind, hx]
  rw [w64_id (by omega) (by simp at hi; omega)]; rfl
 ·intro i hi hx
  unfold ref14_Better_l2
  rw [if_pos (decide_eq_true (by simp at hi; omega)), ix_nat _ _ hi]
  simp only [Option.bind]
  rw [if_pos (by simpa using hx)]
 ·intro _
  unfold ref14_Better_l2
  rw [if_neg (by simp), rcompare_eq ha hb h6]; rfl
end Go.Proofs.YthdimlepjpnncaaGreat.Sh

/- Composition of records as the reference makes it (chapter 15). -/
namespace Go.Proofs.YthdimlepjpnncaaGreat.Sh
open Go
set_option linter.unusedVariables false
set_option linter.unusedSimpArgs false
theorem betterL_one {A : List Record} {x : Record} {k : Nat} (hk : k < A.length) : betterL (A.take (k + 1)) x = betterL (A.take k) x ++ (if decide (betR A[k] x < 0) = true then [extR A[k]] else []) := by
 unfold betterL
 rw [take_one hk, List.filter_append, List.map_append]
 congr 1
 by_cases h : betR A[k] x < 0
 ·simp [h]
 ·simp [h]
/-- the spans of the better records -/
theorem rbetter_loop {A : List Record} (hA : ∀ r ∈ A, RF r) (hl : A.length ≤ 1000) {i : Nat} (hi : i < A.length) (o : List Record) :
  ∃ b, whileM (ref15_Compose_l10 A (o, (i : Int))) (([] : List Span), 0) = some b ∧ VS b ∧ (∀ z, Mem b z ↔ Mem (betterL A A[i]) z) ∧ b.length ≤ A.length := by
 have hx := hA _ (List.getElem_mem hi)
 obtain ⟨b, eb, h1, h2, h3⟩ := loop_fold (body := ref15_Compose_l10 A (o, (i : Int))) (fun (a : List Span) j => (a, j)) A.length
  (fun k a => VS a ∧ (∀ z, Mem a z ↔ Mem (betterL (A.take k) A[i]) z) ∧ a.length ≤ k) (fun b => VS b ∧ (∀ z, Mem b z ↔ Mem (betterL A A[i]) z) ∧ b.length ≤ A.length) (fun k hk a ⟨g1, g2, g3⟩ => by
   have hr := hA _ (List.getElem_mem hk)
   have l1 := hr.l1
   unfold ref15_Compose_l10
   simp only
   rw [if_pos (decide_eq_true (by omega)), ix_nat _ _ hk, ix_nat _ _ hi]
   simp only [Option.bind_some]
   rw [rbetter_eq hr.sm hx.sm (by omega)]
   simp only [Option.bind_some]
   unfold ref15_Compose_j1
   simp only [Option.bind_some]
   rw [w64_n (n := k) (by omega)]
   by_cases hb : betR A[k] A[i] < 0
   ·rw [if_pos (decide_eq_true hb), hr.refSpan]
    simp only [Option.bind_some]
    obtain ⟨u, eu, hu⟩ := runion_spec (a := a) (b := [⟨timeR A[k] 0, timeR A[k] A[k].Samples.length⟩]) (by simp; omega)
    rw [eu]
    refine ⟨u, rfl, hu.vs, fun z => ?_, ?_⟩
    ·rw [hu.mem, betterL_one hk, mem_append, mem_append, g2, if_pos (decide_eq_true hb)]
     rfl
    ·have := hu.len
     simp at this
     omega
   ·rw [if_neg (by simpa using hb)]
    refine ⟨a, rfl, g1, fun z => ?_, by omega⟩
    rw [g2, betterL_one hk, if_neg (by simpa using hb), List.append_nil]) (fun a ⟨g1, g2, g3⟩ => by
   unfold ref15_Compose_l10
   simp only
   rw [if_neg (by simp)]
   rw [List.take_length] at g2
   exact ⟨a, rfl, g1, g2, g3⟩) [] ⟨VS.nil, fun z => by simp [betterL], Nat.le_refl _⟩
 exact ⟨b, eb, h1, h2, h3⟩
/-- a sample meets none of the spans -/
theorem rcut_keep {r : Record} (h : RF r) {b L : List Span} (hb : b.length < 100) (hL : ∀ s ∈ L, s.From < s.To) (hm : ∀ z, Mem b z ↔ Mem L z) (j : Nat) :
  ∃ c, ref08_Cut b (timeR r (j : Int)) (timeR r ((j : Int) + 1)) = some c ∧ ((c.length : Int) == 0) = keepB r L j := by
 obtain ⟨c, ec, hv, hc⟩ := rmeet_spec (a := b) (b := [⟨timeR r (j : Int), timeR r ((j : Int) + 1)⟩]) hb (by simp)
 refine ⟨c, by unfold ref08_Cut; rw [ec]; rfl, ?_⟩
 rw [Bool.eq_iff_iff, keepB_iff h hL, beq_iff_eq]
 constructor
 ·intro h0 y y0 y1 hy
  have := (hc y).2 ⟨(hm y).2 hy, mem_one.2 ⟨y0, y1⟩⟩
  have e : c = [] := List.eq_nil_of_length_eq_zero (by omega)
  rw [e] at this
  exact Mem.nil this
 ·intro hk
  cases c with
  | nil => rfl
  | cons s c =>
   exfalso
   have hs := hv.ne s List.mem_cons_self
   have := (hc s.From).1 ⟨s, List.mem_cons_self, Int.le_refl _, hs⟩
   have h2 := mem_one.1 this.2
   exact hk s.From h2.1 h2.2 ((hm _).1 this.1)
/-- runs that are found while one goes along -/
structure RunG (k : Nat → Bool) (j : Nat) (P : List (Nat × Nat)) (first : Int) : Prop where
 ok : ∀ p ∈ P, p.1 < p.2 ∧ p.2 < j ∧ (∀ i, p.1 ≤ i → i < p.2 → k i = true) ∧ k p.2 = false
 asc : P.Pairwise (fun p q => p.2 < q.1)
 st : (first = -1 ∧ ∀ i, i < j → k i = true → ∃ p ∈ P, p.1 ≤ i ∧ i < p.2) ∨ ∃ f : Nat, first = f ∧ f < j ∧ (∀ i, f ≤ i → i < j → k i = true) ∧ (∀ p ∈ P, p.2 < f) ∧ ∀ i, i < f → k i = true → ∃ p ∈ P, p.1 ≤ i ∧ i < p.2
 len : P.length ≤ j
theorem RunG.zero (k : Nat → Bool) : RunG k 0 [] (-1) := ⟨fun p h => (by cases h), List.Pairwise.nil, .inl ⟨rfl, fun i h => by omega⟩, Nat.le_refl _⟩
theorem RunG.grow {k : Nat → Bool} {j : Nat} {P : List (Nat × Nat)} {first : Int} (h : RunG k j P first) (hk : k j = true) : RunG k (j + 1) P (if first < 0 then (j : Int) else first) := by
 refine ⟨fun p hp => by obtain ⟨a, b, c⟩ := h.ok p hp; exact ⟨a, by omega, c⟩, h.asc, .inr ?_, by have := h.len; omega⟩
 rcases h.st with ⟨e, h1⟩ | ⟨f, e, h1, h2, h3, h4⟩
 ·rw [e, if_pos (by decide)]
  exact ⟨j, rfl, by omega, fun i h5 h6 => by rw [show i = j by omega]; exact hk, fun p hp => (h.ok p hp).2.1, h1⟩
 ·rw [e, if_neg (by omega)]
  refine ⟨f, rfl, by omega, fun i h5 h6 => ?_, h3, h4⟩
  by_cases hi : i = j
  ·rw [hi]; exact hk
  ·exact h2 i h5 (by omega)
theorem RunG.skip {k : Nat → Bool} {j : Nat} {P : List (Nat × Nat)} (h : RunG k j P (-1)) (hk : k j = false) : RunG k (j + 1) P (-1) := by
 refine ⟨fun p hp => by obtain ⟨a, b, c⟩ := h.ok p hp; exact ⟨a, by omega, c⟩, h.asc, .inl ⟨rfl, fun i hi hki => ?_⟩, by have := h.len; omega⟩
 rcases h.st with ⟨e, h1⟩ | ⟨f, e, _⟩
 ·by_cases hij : i = j
  ·rw [hij, hk] at hki; cases hki
  ·exact h1 i (by omega) hki
 ·exact absurd e (by omega)
theorem RunG.close {k : Nat → Bool} {j : Nat} {P : List (Nat × Nat)} {f : Nat} (h : RunG k j P (f : Int)) (hk : k j = false) : f < j ∧ RunG k (j + 1) (P ++ [(f, j)]) (-1) := by
 rcases h.st with ⟨e, h1⟩ | ⟨f', e, h1, h2, h3, h4⟩
 ·exact absurd e (by omega)
 ·have : f' = f := by omega
  subst this
  refine ⟨h1, fun p hp => ?_, ?_, .inl ⟨rfl, fun i hi hki => ?_⟩, by have := h.len; simp; omega⟩
  ·rcases List.mem_append.1 hp with hp | hp
   ·obtain ⟨a, b, c⟩ := h.ok p hp
    exact ⟨a, by omega, c⟩
   ·rcases List.mem_singleton.1 hp with rfl
    exact ⟨h1, by simp only; omega, h2, hk⟩
  ·rw [List.pairwise_append]
   refine ⟨h.asc, List.pairwise_singleton _ _, fun p hp q hq => ?_⟩
   rcases List.mem_singleton.1 hq with rfl
   exact h3 p hp
  ·by_cases h5 : i < f'
   ·obtain ⟨p, hp, q⟩ := h4 i h5 hki
    exact ⟨p, List.mem_append_left _ hp, q⟩
   ·by_cases hij : i = j
    ·rw [hij, hk] at hki; cases hki
    ·exact ⟨(f', j), List.mem_append_right _ List.mem_cons_self, by simp only; omega, by simp only; omega⟩
theorem RunG.done {k : Nat → Bool} {n : Nat} {P : List (Nat × Nat)} {first : Int} (h : RunG (fun i => decide (i < n) && k i) (n + 1) P first) : RunsOf k n P := by
 have hst : ∀ i, i < n + 1 → (decide (i < n) && k i) = true → ∃ p ∈ P, p.1 ≤ i ∧ i < p.2 := by
  rcases h.st with ⟨_, h1⟩ | ⟨f, _, h1, h2, _⟩
  ·exact h1
  ·have := h2 n (by omega) (by omega)
   simp at this
 refine ⟨fun p hp => ?_, h.asc, fun i hi hki => hst i (by omega) (by simp [hi, hki])⟩
 obtain ⟨a, b, c, d⟩ := h.ok p hp
 refine ⟨a, by omega, fun i h1 h2 => ?_, ?_⟩
 ·have := c i h1 h2
  simp only [Bool.and_eq_true] at this
  exact this.2
 ·simp only [Bool.and_eq_false_iff, decide_eq_false_iff_not] at d
  rcases d with d | d
  ·exact .inl (by omega)
  ·exact .inr d
theorem rruns_loop {A : List Record} (hA : ∀ r ∈ A, RF r) {i : Nat} (hi : i < A.length) (hsm : A[i].Samples.length ≤ 1000) {b : List Span} (hb : b.length < 100) (hm : ∀ z, Mem b z ↔ Mem (betterL A A[i]) z) (o : List Record) (ol : o.length ≤ 100000) :
  whileM (ref15_Compose_l11 A (o, (i : Int)) b) (o, (-1), 0) = some (o ++ partsR A A[i]) := by
 obtain ⟨x, hx⟩ : ∃ x, A[i] = x := ⟨_, rfl⟩
 have hR := hA _ (List.getElem_mem hi)
 rw [hx] at hsm hm hR ⊢
 obtain ⟨n, hn⟩ : ∃ n, x.Samples.length = n := ⟨_, rfl⟩
 rw [hn] at hsm
 obtain ⟨k, hk⟩ : ∃ k : Nat → Bool, (fun i => decide (i < n) && keepR A x i) = k := ⟨_, rfl⟩
 obtain ⟨q, eq, hq⟩ := loop_fold (body := ref15_Compose_l11 A (o, (i : Int)) b) (fun (a : List (Nat × Nat) × Int) j => (o ++ subsR x a.1, a.2, j)) (n + 1)
  (fun j a => RunG k j a.1 a.2) (fun q => ∃ P, q = o ++ subsR x P ∧ RunsOf (keepR A x) n P) (fun j hj a g => by
   obtain ⟨P, first⟩ := a
   simp only at g
   unfold ref15_Compose_l11
   simp only
   rw [ix_nat _ _ hi, hx]
   simp only [Option.bind_some]
   rw [hn, if_pos (decide_eq_true (by omega))]
   have hc : (if decide ((j : Int) < (n : Int)) = true then (ref14_Time x (j : Int)).bind fun rv3477 => (ref14_Time x (w64 ((j : Int) + 1))).bind fun rv3492 => (ref08_Cut b rv3477 rv3492).bind fun rv3494 => some ((rv3494.length : Int) == 0) else some false) = some (k j) := by
    rw [← hk]
    by_cases hjn : j < n
    ·rw [if_pos (decide_eq_true (by omega)), w64_id (by omega) (by omega), hR.reftime (by omega) (by omega), hR.reftime (by omega) (by omega)]
     simp only [Option.bind_some]
     obtain ⟨c, ec, hce⟩ := rcut_keep hR hb (betterL_ne hA x) hm j
     rw [ec]
     simp only [Option.bind_some, hce, hjn, decide_true, Bool.true_and]
     rfl
    ·rw [if_neg (by simp; omega)]
     simp [hjn]
   rw [hc]
   simp only [Option.bind_some]
   clear hc
   unfold ref15_Compose_j3 ref15_Compose_j4
   simp only [Option.bind_some]
   rw [w64_n (n := j) (by omega)]
   cases hkj : k j with
   | true =>
    have g' := g.grow hkj
    simp only [Bool.true_and, Bool.not_true, Bool.false_and, Bool.false_eq_true, if_false]
    by_cases hf : first < 0
    ·rw [if_pos (decide_eq_true hf)]
     rw [if_pos hf] at g'
     exact ⟨(P, (j : Int)), rfl, g'⟩
    ·rw [if_neg (by simpa using hf)]
     rw [if_neg hf] at g'
     exact ⟨(P, first), rfl, g'⟩
   | false =>
    simp only [Bool.false_and, Bool.false_eq_true, if_false, Bool.not_false, Bool.true_and]
    by_cases hf : 0 ≤ first
    ·obtain ⟨f, rfl⟩ : ∃ f : Nat, first = f := ⟨first.toNat, by omega⟩
     obtain ⟨h1, h2⟩ := g.close hkj
     have hlen := g.len
     rw [if_pos (decide_eq_true hf), ix_nat _ _ hi, hx]
     simp only [Option.bind_some]
     rw [rSub_eq hR h1 (by omega)]
     simp only [Option.bind_some]
     rw [appM_one _ _ _ (by simp [subsR]; omega) (by decide)]
     refine ⟨(P ++ [(f, j)], -1), ?_, h2⟩
     simp [subsR]
    ·have hf1 : first = -1 := by
      rcases g.st with ⟨e, _⟩ | ⟨f, e, _⟩
      ·exact e
      ·omega
     subst hf1
     rw [if_neg (by decide)]
     exact ⟨(P, -1), rfl, g.skip hkj⟩) (fun a g => by
   obtain ⟨P, first⟩ := a
   simp only at g
   unfold ref15_Compose_l11
   simp only
   rw [ix_nat _ _ hi, hx]
   simp only [Option.bind_some]
   rw [hn, if_neg (by simp; omega)]
   rw [← hk] at g
   exact ⟨_, rfl, P, rfl, g.done⟩) ([], -1) (RunG.zero k)
 obtain ⟨P, rfl, hP⟩ := hq
 have e0 : o ++ subsR x [] = o := by simp [subsR]
 simp only [e0] at eq
 have hs := (runsR_spec A hR).2.1
 rw [hn] at hs
 unfold partsR
 rw [hs.uniq hP]
 exact eq
theorem rcomp_ok {l m : List Record} (h : VS15 l) (hc : CompOf l m) {K : Nat} (hK : ∀ r ∈ l, r.Samples.length ≤ K) (hb : (K + 1) * l.length ≤ 1000) (h99 : l.length < 100) : ref15_Compose l = some (m, 0) := by
 have hA : ∀ r ∈ sset cmpR l, RF r := fun r hr => h.rf r (mem_ss.1 hr)
 have hsl := sset_len cmpR l
 unfold ref15_Compose
 rw [rvalid_ok h.toVL (by omega)]
 simp only [Option.bind_some, Bool.not_true, Bool.false_eq_true, if_false]
 rw [rorder_ok h.toVL (by omega)]
 simp only [Option.bind_some]
 obtain ⟨A, hAe⟩ : ∃ A, sset cmpR l = A := ⟨_, rfl⟩
 have hmA : ∀ r ∈ A, r ∈ l := fun r hr => mem_ss.1 (hAe ▸ hr)
 rw [hAe] at hA hsl ⊢
 have hp : ∀ r ∈ A, (partsR A r).length ≤ K + 1 := fun r hr => by
  have h1 := (runsR_spec A (hA r hr)).2.2
  have h2 := hK r (hmA r hr)
  unfold partsR subsR
  rw [List.length_map]; omega
 have hfl : ∀ i, ((A.take i).flatMap (partsR A)).length ≤ 1000 := fun i => by
  have h1 := flat_len (partsR A) (K + 1) (A.take i) fun x hx => hp x (List.mem_of_mem_take hx)
  have h2 := Nat.mul_le_mul_left (K + 1) (show (A.take i).length ≤ l.length by rw [List.length_take]; omega)
  omega
 have hw : whileM (ref15_Compose_l5 A) (([] : List Record), 0) = some (A.flatMap (partsR A)) := by
  refine whileM_for' (fun i => ((A.take i).flatMap (partsR A), (i : Int))) A.length _ (by simp) (fun i hi => ?_) ?_
  ·unfold ref15_Compose_l5
   simp only
   rw [if_pos (decide_eq_true (by omega))]
   obtain ⟨b, eb, hv, hm, hbl⟩ := rbetter_loop hA (by omega) hi ((A.take i).flatMap (partsR A))
   rw [eb]
   simp only [Option.bind_some]
   have := hfl i
   rw [rruns_loop hA hi (by have := h.smp _ (hmA _ (List.getElem_mem hi)); omega) (by omega) hm _ (by omega)]
   simp only [Option.bind_some]
   rw [w64_n (by omega), take_one hi, List.flatMap_append, List.flatMap_singleton]
  ·unfold ref15_Compose_l5
   simp only
   rw [if_neg (by simp), List.take_length]
 rw [hw]
 simp only [Option.bind_some]
 have hr : ∀ q ∈ A.flatMap (partsR A), RF q := fun q hq => by
  obtain ⟨r, hr, hq⟩ := List.mem_flatMap.1 hq
  obtain ⟨a, b, h1, h2, rfl, _⟩ := parts_sm (hA r hr) q hq
  exact (hA r hr).sub h1 h2
 have hf := hfl A.length
 rw [List.take_length] at hf
 rw [rorder_rsm (fun r h => ⟨(hr r h).sm, by have := (hr r h).l1; omega⟩) (by omega)]
 simp only [Option.bind_some]
 have hpm := hc.perm
 rw [hAe] at hpm
 have : sset cmpR (A.flatMap (partsR A)) = m := asc_uniq cmpR_cmp (sset_pw cmpR_cmp (fun _ _ => cmpR_eq) _) (hc.strict h.toVL) fun x => by rw [mem_ss, hpm.mem_iff]
 rw [this]
end Go.Proofs.YthdimlepjpnncaaGreat.Sh

/- Lists of records that need not be valid: code and reference agree on which are (chapter 15). -/
namespace Go.Proofs.YthdimlepjpnncaaGreat.Sh
open Go
set_option linter.unusedVariables false
set_option linter.unusedSimpArgs false
open Classical
theorem src_and (a b : SourceID) : ((a.Network == b.Network) && ((a.Station == b.Station) && ((a.Location == b.Location) && ((a.Channel == b.Channel) && true)))) = decide (a = b) := by
 cases a; cases b
 simp only [ba_beq, SourceID.mk.injEq, Bool.and_true]
 rw [Bool.eq_iff_iff]
 simp only [Bool.and_eq_true, decide_eq_true_eq]
noncomputable def okR (s : SourceID) (r : Record) : Bool := recB r && decide (r.Source = s)
noncomputable def allv (l : List Record) : Bool := l.all (okR (l.headD rec0).Source)
theorem ix0 {l : List Record} (h : 0 < l.length) : ix l 0 = some (l.headD rec0) := by
 cases l with
 | nil => simp at h
 | cons a l => rfl
theorem alike1_eq {l : List Record} (h : ∀ r ∈ l, RSm r) {r : Record} (hr : r ∈ l) : compose_alike_fn1 r l = some (!(okR (l.headD rec0).Source r)) := by
 unfold compose_alike_fn1 okR
 rw [record_Valid_eq (h r hr).src (h r hr).len, ix0 (List.length_pos_of_mem hr)]
 simp only [Option.bind_some]
 rw [src_and]
 cases recB r <;> simp
theorem indexR_eq {l : List Record} {f : Record → Option Bool} {p : Record → Bool} (hf : ∀ r ∈ l, f r = some (p r)) (hl : l.length ≤ 1000000) : slices_ContainsFunc_Lapi_Record_api_Record l f = some (l.any p) := by
 unfold slices_ContainsFunc_Lapi_Record_api_Record slices_IndexFunc_Lapi_Record_api_Record
 obtain ⟨k, ek, hk⟩ := loop_foldE (body := slices_IndexFunc_Lapi_Record_api_Record_l2 l f) (fun (_ : Unit) i => i) l.length (fun i _ => ∀ j (h : j < l.length), j < i → p l[j] = false) (fun k => decide (0 ≤ k) = l.any p) (fun i hi a hI => by
  unfold slices_IndexFunc_Lapi_Record_api_Record_l2
  rw [if_pos (decide_eq_true (by omega)), ix_nat _ _ hi]
  simp only [Option.bind_some]
  rw [hf _ (List.getElem_mem hi)]
  simp only [Option.bind_some]
  cases hp : p l[i] with
  | true =>
   right
   refine ⟨_, rfl, ?_⟩
   rw [decide_eq_true (by omega)]
   exact (List.any_eq_true.2 ⟨_, List.getElem_mem hi, hp⟩).symm
  | false =>
   left
   simp only [Bool.false_eq_true, if_false]
   rw [w64_n (by omega)]
   refine ⟨(), rfl, fun j hj hji => ?_⟩
   by_cases e : j = i
   ·subst e; exact hp
   ·exact hI j hj (by omega)) (fun a hI => by
  unfold slices_IndexFunc_Lapi_Record_api_Record_l2
  rw [if_neg (by simp)]
  refine ⟨_, rfl, ?_⟩
  rw [decide_eq_false (by omega)]
  symm
  rw [List.any_eq_false]
  intro r hr
  obtain ⟨j, hj, rfl⟩ := List.mem_iff_getElem.1 hr
  rw [hI j hj hj]; decide) () (fun j _ h => by omega)
 rw [ek]
 simp only [Option.bind_some]
 rw [hk]
theorem alike_eq {l : List Record} (h : ∀ r ∈ l, RSm r) (hl : l.length ≤ 1000000) : compose_alike l = some (allv l) := by
 unfold compose_alike
 rw [indexR_eq (fun r hr => alike1_eq h hr) hl]
 simp only [Option.bind_some]
 unfold allv
 rw [List.any_eq_not_all_not]
 simp
theorem rfine_eq {l : List Record} (h : ∀ r ∈ l, RSm r) (hl : l.length ≤ 1000000) : ref15_fine l = some (allv l) := by
 unfold ref15_fine
 obtain ⟨k, ek, hk⟩ := loop_foldE (body := ref15_fine_l2 l) (fun (_ : Unit) i => i) l.length (fun i _ => ∀ j (h : j < l.length), j < i → okR (l.headD rec0).Source l[j] = true) (fun k => k = allv l) (fun i hi a hI => by
  unfold ref15_fine_l2
  have hr := h _ (List.getElem_mem hi)
  rw [if_pos (decide_eq_true (by omega)), ix_nat _ _ hi, ix0 (by omega)]
  simp only [Option.bind_some]
  rw [ref14_Valid_eq hr.src hr.len]
  simp only [Option.bind_some]
  rw [src_and]
  have e : (if (!(recB l[i])) = true then some true else some (!(decide (l[i].Source = (l.headD rec0).Source)))) = some (!(okR (l.headD rec0).Source l[i])) := by
   unfold okR
   cases recB l[i] <;> simp
  rw [e]
  simp only [Option.bind_some]
  cases hp : okR (l.headD rec0).Source l[i] with
  | true =>
   left
   simp only [Bool.not_true, Bool.false_eq_true, if_false]
   rw [w64_n (by omega)]
   refine ⟨(), rfl, fun j hj hji => ?_⟩
   by_cases e : j = i
   ·subst e; exact hp
   ·exact hI j hj (by omega)
  | false =>
   right
   simp only [Bool.not_false, if_true]
   refine ⟨_, rfl, ?_⟩
   symm
   unfold allv
   rw [List.all_eq_false]
   exact ⟨_, List.getElem_mem hi, by rw [hp]; decide⟩) (fun a hI => by
  unfold ref15_fine_l2
  rw [if_neg (by simp)]
  refine ⟨_, rfl, ?_⟩
  symm
  unfold allv
  rw [List.all_eq_true]
  intro r hr
  obtain ⟨j, hj, rfl⟩ := List.mem_iff_getElem.1 hr
  exact hI j hj hj) () (fun j _ h => by omega)
 rw [ek, hk]
theorem allv_vl {l : List Record} : allv l = true ↔ VL l := by
 unfold allv
 rw [List.all_eq_true]
 constructor
 ·intro h
  have h2 : ∀ r ∈ l, RF r ∧ r.Source = (l.headD rec0).Source := fun r hr => by
   have := h r hr
   unfold okR at this
   simp only [Bool.and_eq_true, decide_eq_true_eq] at this
   exact ⟨recB_iff.1 this.1, this.2⟩
  exact ⟨fun r hr => (h2 r hr).1, fun r hr q hq => (h2 r hr).2.trans (h2 q hq).2.symm⟩
 ·intro h r hr
  unfold okR
  rw [recB_iff.2 (h.rf r hr)]
  simp only [Bool.true_and, decide_eq_true_eq]
  cases l with
  | nil => cases hr
  | cons a l => exact h.src r hr a List.mem_cons_self
noncomputable def validB (l : List Record) : Bool := decide (l.length ≤ 256) && allv l
theorem cvalid_eq {l : List Record} (h : ∀ r ∈ l, RSm r) (hl : l.length ≤ 1000000) : compose_Valid l = some (validB l) := by
 unfold compose_Valid validB
 rw [alike_eq h hl]
 by_cases h : l.length ≤ 256
 ·rw [if_pos (decide_eq_true (by omega)), decide_eq_true h]; rfl
 ·rw [if_neg (by simp; omega), decide_eq_false h]; rfl
theorem rvalid_eq {l : List Record} (h : ∀ r ∈ l, RSm r) (hl : l.length ≤ 1000000) : ref15_Valid l = some (validB l) := by
 unfold ref15_Valid validB
 rw [rfine_eq h hl]
 by_cases h : l.length ≤ 256
 ·rw [if_pos (decide_eq_true (by omega)), decide_eq_true h]; rfl
 ·rw [if_neg (by simp; omega), decide_eq_false h]; rfl
theorem validB_vs {l : List Record} (h : validB l = true) (hl : l.length ≤ 100) (hs : ∀ r ∈ l, r.Samples.length ≤ 1000) : VS15 l := by
 unfold validB at h
 simp only [Bool.and_eq_true] at h
 exact ⟨allv_vl.1 h.2, hl, hs⟩
end Go.Proofs.YthdimlepjpnncaaGreat.Sh

/- What the records of a list cover, as the reference makes it (chapter 15). -/
namespace Go.Proofs.YthdimlepjpnncaaGreat.Sh
open Go
set_option linter.unusedVariables false
set_option linter.unusedSimpArgs false
theorem rcovered_ok {l : List Record} (h : VS15 l) : ∃ r, ref15_Covered l = some (r, 0) ∧ NS (l.map extR) r := by
 have hl := h.len
 unfold ref15_Covered
 rw [rvalid_ok h.toVL (by omega)]
 simp only [Option.bind_some, Bool.not_true, Bool.false_eq_true, if_false]
 have hw : whileM (ref15_Covered_l1 l) (([] : List Span), 0) = some (l.map extR) := by
  refine whileM_for' (fun i => ((l.take i).map extR, (i : Int))) l.length _ (by simp) (fun i hi => ?_) ?_
  ·unfold ref15_Covered_l1
   simp only
   rw [if_pos (decide_eq_true (by omega)), ix_nat _ _ hi]
   simp only [Option.bind_some]
   rw [(h.rf _ (List.getElem_mem hi)).refSpan]
   simp only [Option.bind_some]
   rw [appM_one _ _ _ (by simp; omega) (by decide)]
   simp only [Option.bind_some]
   rw [w64_n (by omega), take_one hi]
   simp only [List.map_append, List.map_cons, List.map_nil]
   rfl
  ·unfold ref15_Covered_l1
   simp only
   rw [if_neg (by simp), List.take_length]
 rw [hw]
 simp only [Option.bind_some]
 obtain ⟨r, er, hr⟩ := rnormal_spec (l := l.map extR) (by simp; omega)
 rw [er]
 exact ⟨r, rfl, hr⟩
end Go.Proofs.YthdimlepjpnncaaGreat.Sh

/- Composition of records as plain programs (chapter 15): Value. -/
namespace Go.Proofs.YthdimlepjpnncaaGreat.Sh
open Go
set_option linter.unusedVariables false
set_option linter.unusedSimpArgs false
theorem find_range_succ (p : Nat → Bool) (n i : Nat) (hi : i < n) (h : ∀ j, j < i → p j = false) : (List.range n).find? p = if p i = true then some i else (List.range n).find? p := by
 by_cases hc : p i = true
 ·rw [if_pos hc]
  rw [List.find?_eq_some_iff_getElem]
  exact ⟨hc, i, by simpa using hi, by simp, fun j hj => by simp [h j hj]⟩
 ·rw [if_neg hc]
theorem value1_ok {r : Record} (h : RF r) (t s : Int) : whileM (compose_Value_l11 t s r) 0 = some (match findR r t with | some v => .inr (v, true) | none => .inl (w64 (s + 1))) := by
 have l1 := h.l1
 have f0 := h.f0
 have hb : ∀ i : Nat, i < r.Samples.length → compose_Value_l11 t s r (i : Int) = some (if (decide (timeR r (i : Int) ≤ t) && decide (t < timeR r ((i : Int) + 1))) = true then .inr (.inr (r.Samples.getD i 0, true)) else .inl ((i + 1 : Nat) : Int)) := fun i hi => by
  unfold compose_Value_l11
  rw [if_pos (decide_eq_true (by omega)), ix_nat _ _ hi, at_ok h (by omega) (by omega)]
  simp only [Option.bind_some]
  have hg : r.Samples.getD i 0 = r.Samples[i] := by simp [List.getD_eq_getElem?_getD, hi]
  rw [w64_n (by omega), hg]
  by_cases h1 : timeR r (i : Int) ≤ t
  ·rw [if_pos (decide_eq_true h1), at_ok h (by omega) (by omega), decide_eq_true h1]
   simp only [Option.bind_some]
   have e1 : ((i + 1 : Nat) : Int) = (i : Int) + 1 := by omega
   rw [e1]
   by_cases h2 : t < timeR r ((i : Int) + 1)
   ·rw [decide_eq_true h2]; rfl
   ·rw [decide_eq_false h2]; rfl
  ·rw [if_neg (by simpa using h1), decide_eq_false h1]
   rfl
 have key : ∀ m, m ≤ r.Samples.length → (∀ j, j < r.Samples.length - m → (decide (timeR r (j : Int) ≤ t) && decide (t < timeR r ((j : Int) + 1))) = false) → whileM (compose_Value_l11 t s r) ((r.Samples.length - m : Nat) : Int) = some (match findR r t with | some v => .inr (v, true) | none => .inl (w64 (s + 1))) := by
  intro m
  induction m with
  | zero =>
   intro _ hj
   rw [whileM_eq, Nat.sub_zero]
   have : findR r t = none := by
    unfold findR
    rw [Option.map_eq_none_iff, List.find?_eq_none]
    intro j hm
    have := hj j (by simpa using hm)
    rw [this]; decide
   rw [this]
   unfold compose_Value_l11
   rw [if_neg (by simp)]
   rfl
  | succ m ih =>
   intro hm hj
   obtain ⟨i, hi⟩ : ∃ i, r.Samples.length - (m + 1) = i := ⟨_, rfl⟩
   have hi' : r.Samples.length - m = i + 1 := by omega
   rw [hi] at hj ⊢
   rw [hi'] at ih
   rw [whileM_eq, hb i (by omega)]
   by_cases hc : (decide (timeR r (i : Int) ≤ t) && decide (t < timeR r ((i : Int) + 1))) = true
   ·rw [if_pos hc]
    have : findR r t = some (r.Samples.getD i 0) := by
     unfold findR
     rw [find_range_succ _ r.Samples.length i (by omega) hj, if_pos hc]
     rfl
    rw [this]
    rfl
   ·rw [if_neg hc]
    refine ih (by omega) fun j hjl => ?_
    by_cases e : j = i
    ·subst e; simpa using hc
    ·exact hj j (by omega)
 have := key r.Samples.length (Nat.le_refl _) (fun j hj => by omega)
 rw [Nat.sub_self] at this
 exact this
theorem value_ok {l m : List Record} (h : VS15 l) (em : compose_compose l = some m) (hm : ∀ q ∈ m, RF q) (hml : m.length ≤ 1000000) (t : Int) : compose_Value l t = some (findV m t) := by
 have hl := h.len
 unfold compose_Value
 rw [valid_ok h.toVL (by omega)]
 simp only [Option.bind_some, Bool.not_true, Bool.false_eq_true, if_false]
 rw [em]
 simp only [Option.bind_some]
 have key : ∀ k, k ≤ m.length → whileM (compose_Value_l7 t m) ((m.length - k : Nat) : Int) = some (findV (m.drop (m.length - k)) t) := by
  intro k
  induction k with
  | zero =>
   intro _
   rw [whileM_eq, Nat.sub_zero]
   unfold compose_Value_l7
   rw [if_neg (by simp)]
   simp [findV]
  | succ k ih =>
   intro hk
   obtain ⟨i, hi⟩ : ∃ i, m.length - (k + 1) = i := ⟨_, rfl⟩
   have hi' : m.length - k = i + 1 := by omega
   rw [hi'] at ih
   rw [hi, whileM_eq, List.drop_eq_getElem_cons (show i < m.length by omega)]
   unfold compose_Value_l7
   rw [if_pos (decide_eq_true (by omega)), ix_nat _ _ (show i < m.length by omega)]
   simp only [Option.bind_some]
   rw [value1_ok (hm _ (List.getElem_mem _)) t (i : Int)]
   unfold findV
   rw [List.findSome?_cons]
   cases hf : findR m[i] t with
   | some v => rfl
   | none =>
    simp only [Option.bind_some]
    rw [w64_n (by omega)]
    exact ih (by omega)
 have := key m.length (Nat.le_refl _)
 rw [Nat.sub_self] at this
 exact this
end Go.Proofs.YthdimlepjpnncaaGreat.Sh

/- Each function of chapter 15 answers as the reference does, for any lists that are not long. -/
namespace Go.Proofs.YthdimlepjpnncaaGreat.Sh
open Go
set_option linter.unusedVariables false
set_option linter.unusedSimpArgs false
structure Sm15 (l : List Record) : Prop where
 rs : ∀ r ∈ l, RSm r
 len : l.length ≤ 10
 sm : ∀ r ∈ l, r.Samples.length ≤ 31
theorem Sm15.vs {l : List Record} (h : Sm15 l) (hv : validB l = true) : VS15 l := validB_vs hv (by have := h.len; omega) fun r hr => by have := h.sm r hr; omega
theorem smps_lenK {m : List Record} {K : Nat} (h6 : ∀ r ∈ m, r.Samples.length ≤ K) : (smpsR m).length ≤ m.length * K := by
 induction m with
 | nil => simp [smpsR]
 | cons r m ih =>
  have h1 := h6 r List.mem_cons_self
  have h2 := ih fun q hq => h6 q (List.mem_cons_of_mem _ hq)
  unfold smpsR at h2 ⊢
  rw [List.flatMap_cons, List.length_append]
  have : (smpR r).length = r.Samples.length := by simp [smpR]
  simp only [List.length_cons]
  rw [Nat.add_mul]
  omega
/-- what is known of the composed data of a valid list -/
structure Cm (l m : List Record) : Prop where
 vs : VS15 l
 co : CompOf l m
 al : AL m
 ce : compose_compose l = some m
 cE : compose_Compose l = some (m, 0)
 re : ref15_Compose l = some (m, 0)
 sl : (smpsR m).length ≤ l.length * 31
 ml : m.length ≤ l.length * 31
 sm : ∀ r ∈ m, r.Samples.length ≤ 31
theorem Sm15.cm {l : List Record} (h : Sm15 l) (hv : validB l = true) : ∃ m, Cm l m := by
 have hV := h.vs hv
 have hl := h.len
 obtain ⟨m, e1, e2, hc⟩ := Comp_ok hV
 have s1 := hc.smps_le hV.toVL
 have s2 := smps_lenK h.sm
 have s3 := len_smps (m := m) fun q hq => hc.rf hV.toVL hq
 exact ⟨m, hV, hc, hc.al hV.toVL, e2, e1, rcomp_ok hV hc (K := 31) h.sm (by omega) (by omega), by omega, by omega, fun q hq => by
  obtain ⟨r, hr, i, j, h1, h2, rfl, _⟩ := hc.mem hV.toVL hq
  rw [subR_len r i j h2]
  have := h.sm r hr
  omega⟩
theorem order2 {l : List Record} (h : Sm15 l) : ∃ o e, compose_Order l = some (o, e) ∧ ref15_Order l = some (o, e) ∧ o.length ≤ 10 ∧ ∀ r ∈ o, r.Samples.length ≤ 31 := by
 have hl := h.len
 have hsl := sset_len cmpR l
 cases hv : validB l with
 | true => exact ⟨_, _, Order_ok (h.vs hv), rOrder_ok (h.vs hv), by omega, fun r hr => h.sm r (mem_ss.1 hr)⟩
 | false =>
  refine ⟨[], 1, ?_, ?_, Nat.zero_le _, fun r hr => by cases hr⟩
  ·unfold compose_Order
   rw [cvalid_eq h.rs (by omega), hv]
   rfl
  ·unfold ref15_Order
   rw [rvalid_eq h.rs (by omega), hv]
   rfl
theorem ccompose_bad {l : List Record} (h : Sm15 l) (hv : validB l = false) : compose_Compose l = some ([], 1) := by
 have hl := h.len
 unfold compose_Compose
 rw [cvalid_eq h.rs (by omega), hv]
 rfl
theorem rcompose_bad {l : List Record} (h : Sm15 l) (hv : validB l = false) : ref15_Compose l = some ([], 1) := by
 have hl := h.len
 unfold ref15_Compose
 rw [rvalid_eq h.rs (by omega), hv]
 rfl
theorem compose2 {l : List Record} (h : Sm15 l) : ∃ m e, compose_Compose l = some (m, e) ∧ ref15_Compose l = some (m, e) ∧ m.length ≤ 310 ∧ ∀ r ∈ m, r.Samples.length ≤ 31 := by
 have hl := h.len
 cases hv : validB l with
 | true =>
  obtain ⟨m, hm⟩ := h.cm hv
  have := hm.ml
  exact ⟨m, 0, hm.cE, hm.re, by omega, hm.sm⟩
 | false => exact ⟨[], 1, ccompose_bad h hv, rcompose_bad h hv, Nat.zero_le _, fun r hr => by cases hr⟩
theorem covered2 {l : List Record} (h : Sm15 l) : ∃ c e, compose_Covered l = some (c, e) ∧ ref15_Covered l = some (c, e) ∧ c.length ≤ 10 := by
 have hl := h.len
 cases hv : validB l with
 | true =>
  obtain ⟨a, ea, ha⟩ := ccovered_ok (h.vs hv)
  obtain ⟨b, eb, hb⟩ := rcovered_ok (h.vs hv)
  obtain rfl := ha.uniq hb
  have := ha.len
  rw [List.length_map] at this
  exact ⟨a, 0, ea, eb, by omega⟩
 | false =>
  refine ⟨[], 1, ?_, ?_, Nat.zero_le _⟩
  ·unfold compose_Covered
   rw [cvalid_eq h.rs (by omega), hv]
   rfl
  ·unfold ref15_Covered
   rw [rvalid_eq h.rs (by omega), hv]
   rfl
theorem valid2 {l : List Record} (h : Sm15 l) : compose_Valid l = some (validB l) ∧ ref15_Valid l = some (validB l) := by
 have hl := h.len
 exact ⟨cvalid_eq h.rs (by omega), rvalid_eq h.rs (by omega)⟩
theorem latest2 {a b : List Record} (ha : Sm15 a) (hb : Sm15 b) (la : a.length ≤ 6) (a6 : ∀ r ∈ a, r.Samples.length ≤ 6) : ∃ z e, compose_Latest a b = some (z, e) ∧ ref15_Latest a b = some (z, e) ∧ z.length ≤ 1000000 := by
 have hal := ha.len
 have hbl := hb.len
 cases va : validB a with
 | false =>
  refine ⟨[], 1, ?_, ?_, Nat.zero_le _⟩
  ·unfold compose_Latest
   rw [cvalid_eq ha.rs (by omega), va]
   rfl
  ·unfold ref15_Latest
   rw [rcompose_bad ha va]
   obtain ⟨m, e, _, e2, _⟩ := compose2 hb
   simp only [Option.bind_some]
   rw [e2]
   simp
 | true =>
  cases vb : validB b with
  | false =>
   refine ⟨[], 1, ?_, ?_, Nat.zero_le _⟩
   ·unfold compose_Latest
    rw [cvalid_eq ha.rs (by omega), va]
    simp only [Option.bind_some, Bool.not_true, Bool.false_eq_true, if_false]
    rw [cvalid_eq hb.rs (by omega), vb]
    rfl
   ·unfold ref15_Latest
    obtain ⟨m, e, _, e2, _⟩ := compose2 ha
    rw [e2]
    simp only [Option.bind_some]
    rw [rcompose_bad hb vb]
    simp
  | true =>
   obtain ⟨x, hx⟩ := ha.cm va
   obtain ⟨y, hy⟩ := hb.cm vb
   have x1 := hx.co.smps_le hx.vs.toVL
   have x2 := smps_lenK a6
   have x3 := len_smps (m := x) hx.al.rf
   have x4 := hx.sl
   have y1 := hy.sl
   have y2 := hy.ml
   have hsz : (x.length + y.length) * ((smpsR x).length + 1) ≤ 346 * 37 := Nat.mul_le_mul (by omega) (by omega)
   obtain ⟨z, ez, hz, hzl, hzm⟩ := latest_ok hx.vs hy.vs hx.ce hx.co hy.ce hy.co (by omega) (by omega) (by omega) (by omega)
   refine ⟨z, 0, ez, ?_, by omega⟩
   unfold ref15_Latest
   rw [hx.re, hy.re]
   simp only [Option.bind_some]
   rw [if_neg (by decide)]
   obtain ⟨p, ep, hp⟩ := differ_ok hx.al.rf hy.al.rf (by omega) (by omega) (by omega)
   obtain ⟨q, eq, hq⟩ := differ_ok hy.al.rf hx.al.rf (by omega) (by omega) (by omega)
   have p1 := hp.len
   have p2 := difL_len y (smpsR x)
   have q1 := hq.len
   have q2 := difL_len x (smpsR y)
   rw [ep, eq]
   simp only [Option.bind_some]
   have hu : ∃ r, ref08_Union p q = some r ∧ NS (p ++ q) r := by
    unfold ref08_Union
    rw [appM_one _ _ _ (by simp; omega) (by decide)]
    simp only [Option.bind_some, List.nil_append]
    rw [appM_one _ _ _ (by omega) (by decide)]
    simp only [Option.bind_some]
    obtain ⟨r, er, hr⟩ := rnormal_spec (l := p ++ q) (by simp; omega)
    rw [er]
    exact ⟨r, rfl, hr⟩
   obtain ⟨r, er, hr⟩ := hu
   rw [er]
   have : r = z := hr.vs.uniq hz fun t => by rw [hr.mem, mem_append, hp.mem, hq.mem, hzm, ← later_iff hx.al hy.al]
   rw [this]
   rfl
end Go.Proofs.YthdimlepjpnncaaGreat.Sh

/- Value and Insert answer as the reference does (chapter 15). -/
namespace Go.Proofs.YthdimlepjpnncaaGreat.Sh
open Go
set_option linter.unusedVariables false
set_option linter.unusedSimpArgs false
/-- the place and the sample that a record has at a time -/
def findI (r : Record) (t : Int) : Option Nat := (List.range r.Samples.length).find? fun (i : Nat) => decide (timeR r (i : Int) ≤ t) && decide (t < timeR r ((i : Int) + 1))
theorem findR_I (r : Record) (t : Int) : findR r t = (findI r t).map fun i => r.Samples.getD i 0 := rfl
theorem rvalue1_ok {m : List Record} {k : Nat} (hk : k < m.length) (h : RF m[k]) (t : Int) (hkl : m.length ≤ 1000000) :
  whileM (ref15_find_l11 m t (k : Int)) 0 = some (match findI m[k] t with | some i => .inr (timeR m[k] (i : Int), m[k].Samples.getD i 0, true) | none => .inl ((k + 1 : Nat) : Int)) := by
 have l1 := h.l1
 have hb : ∀ i : Nat, i < m[k].Samples.length → ref15_find_l11 m t (k : Int) (i : Int) = some (if (decide (timeR m[k] (i : Int) ≤ t) && decide (t < timeR m[k] ((i : Int) + 1))) = true then .inr (.inr (timeR m[k] (i : Int), m[k].Samples.getD i 0, true)) else .inl ((i + 1 : Nat) : Int)) := fun i hi => by
  unfold ref15_find_l11
  rw [ix_nat _ _ hk]
  simp only [Option.bind_some]
  rw [if_pos (decide_eq_true (by omega)), h.reftime (i := (i : Int)) (by omega) (by omega)]
  simp only [Option.bind_some]
  have hg : m[k].Samples.getD i 0 = m[k].Samples[i] := by simp [List.getD_eq_getElem?_getD, hi]
  rw [w64_n (by omega), hg, ix_nat _ _ hi]
  have e1 : ((i + 1 : Nat) : Int) = (i : Int) + 1 := by omega
  by_cases h1 : timeR m[k] (i : Int) ≤ t
  ·rw [if_pos (decide_eq_true h1), h.reftime (i := ((i + 1 : Nat) : Int)) (by omega) (by omega), decide_eq_true h1]
   simp only [Option.bind_some]
   rw [e1]
   by_cases h2 : t < timeR m[k] ((i : Int) + 1)
   ·rw [decide_eq_true h2]; rfl
   ·rw [decide_eq_false h2]; rfl
  ·rw [if_neg (by simpa using h1), decide_eq_false h1]
   rfl
 have key : ∀ n, n ≤ m[k].Samples.length → (∀ j, j < m[k].Samples.length - n → (decide (timeR m[k] (j : Int) ≤ t) && decide (t < timeR m[k] ((j : Int) + 1))) = false) → whileM (ref15_find_l11 m t (k : Int)) ((m[k].Samples.length - n : Nat) : Int) = some (match findI m[k] t with | some i => .inr (timeR m[k] (i : Int), m[k].Samples.getD i 0, true) | none => .inl ((k + 1 : Nat) : Int)) := by
  intro n
  induction n with
  | zero =>
   intro _ hj
   rw [whileM_eq, Nat.sub_zero]
   have : findI m[k] t = none := by
    unfold findI
    rw [List.find?_eq_none]
    intro j hm
    have := hj j (by simpa using hm)
    rw [this]; decide
   rw [this]
   unfold ref15_find_l11
   rw [ix_nat _ _ hk]
   simp only [Option.bind_some]
   rw [if_neg (by simp), w64_n (by omega)]
   rfl
  | succ n ih =>
   intro hm hj
   obtain ⟨i, hi⟩ : ∃ i, m[k].Samples.length - (n + 1) = i := ⟨_, rfl⟩
   have hi' : m[k].Samples.length - n = i + 1 := by omega
   rw [hi] at hj ⊢
   rw [hi'] at ih
   rw [whileM_eq, hb i (by omega)]
   by_cases hc : (decide (timeR m[k] (i : Int) ≤ t) && decide (t < timeR m[k] ((i : Int) + 1))) = true
   ·rw [if_pos hc]
    have : findI m[k] t = some i := by
     unfold findI
     rw [find_range_succ _ m[k].Samples.length i (by omega) hj, if_pos hc]
    rw [this]
    rfl
   ·rw [if_neg hc]
    refine ih (by omega) fun j hjl => ?_
    by_cases e : j = i
    ·subst e; simpa using hc
    ·exact hj j (by omega)
 have := key m[k].Samples.length (Nat.le_refl _) (fun j hj => by omega)
 rw [Nat.sub_self] at this
 exact this
theorem rfind_ok {m : List Record} (hm : ∀ q ∈ m, RF q) (hml : m.length ≤ 1000000) (t : Int) : ∃ w, ref15_find m t = some (w, findV m t) := by
 unfold ref15_find
 have key : ∀ k, k ≤ m.length → ∃ w, whileM (ref15_find_l7 m t) ((m.length - k : Nat) : Int) = some (w, findV (m.drop (m.length - k)) t) := by
  intro k
  induction k with
  | zero =>
   intro _
   rw [whileM_eq, Nat.sub_zero]
   unfold ref15_find_l7
   rw [if_neg (by simp)]
   exact ⟨0, by simp [findV]⟩
  | succ k ih =>
   intro hk
   obtain ⟨i, hi⟩ : ∃ i, m.length - (k + 1) = i := ⟨_, rfl⟩
   have hi' : m.length - k = i + 1 := by omega
   rw [hi'] at ih
   rw [hi, whileM_eq, List.drop_eq_getElem_cons (show i < m.length by omega)]
   unfold ref15_find_l7
   rw [if_pos (decide_eq_true (by omega)), rvalue1_ok (show i < m.length by omega) (hm _ (List.getElem_mem _)) t hml]
   unfold findV
   rw [List.findSome?_cons, findR_I]
   cases hf : findI m[i] t with
   | some v => exact ⟨_, rfl⟩
   | none => exact ih (by omega)
 have := key m.length (Nat.le_refl _)
 rw [Nat.sub_self] at this
 exact this
theorem value2 {l : List Record} (h : Sm15 l) (t : Int) : ∃ v, compose_Value l t = some v ∧ ref15_Value l t = some v := by
 have hl := h.len
 cases hv : validB l with
 | false =>
  refine ⟨(0, false), ?_, ?_⟩
  ·unfold compose_Value
   rw [cvalid_eq h.rs (by omega), hv]
   rfl
  ·unfold ref15_Value
   rw [rcompose_bad h hv]
   rfl
 | true =>
  obtain ⟨m, hm⟩ := h.cm hv
  have ml := hm.ml
  refine ⟨findV m t, value_ok hm.vs hm.ce hm.al.rf (by omega) t, ?_⟩
  unfold ref15_Value
  rw [hm.re]
  simp only [Option.bind_some]
  obtain ⟨w, ew⟩ := rfind_ok hm.al.rf (by omega) t
  rw [if_neg (by decide), ew]
  rfl
theorem allv_perm {a b : List Record} (h : ∀ r, r ∈ a ↔ r ∈ b) : allv a = allv b := by
 rw [Bool.eq_iff_iff, allv_vl, allv_vl]
 exact ⟨fun v => v.sub fun r hr => (h r).2 hr, fun v => v.sub fun r hr => (h r).1 hr⟩
theorem insert2 {l : List Record} {r : Record} (h : Sm15 l) (hr : RSm r) (r31 : r.Samples.length ≤ 31) : ∃ o ok e, compose_Insert l r = some (o, ok, e) ∧ ref15_Insert l r = some (o, ok, e) ∧ o.length ≤ 11 ∧ ∀ q ∈ o, q.Samples.length ≤ 31 := by
 have hl := h.len
 have hrs : ∀ q ∈ r :: l, RSm q := fun q hq => by
  rcases List.mem_cons.1 hq with rfl | hq
  ·exact hr
  ·exact h.rs q hq
 have hrs2 : ∀ q ∈ l ++ [r], RSm q := fun q hq => by
  rcases List.mem_append.1 hq with hq | hq
  ·exact h.rs q hq
  ·rcases List.mem_singleton.1 hq with rfl; exact hr
 have hmm : ∀ q, q ∈ r :: l ↔ q ∈ l ++ [r] := fun q => by simp [or_comm]
 have hav := allv_perm hmm
 have ec : (appM 144 ([r] : List Record) l).bind (fun l13 => compose_alike l13) = some (allv (r :: l)) := by
  rw [appM_one _ _ _ (by simp; omega) (by decide)]
  simp only [Option.bind_some, List.singleton_append]
  exact alike_eq hrs (by simp; omega)
 unfold compose_Insert ref15_Insert
 rw [appM_one _ _ _ (by simp; omega) (by decide)]
 simp only [Option.bind_some, List.singleton_append]
 rw [alike_eq hrs (by simp; omega)]
 rw [rvalid_eq h.rs (by omega)]
 rw [appM_one _ ([] : List Record) l (by simp; omega) (by decide)]
 simp only [Option.bind_some, List.nil_append]
 rw [appM_one _ l [r] (by simp; omega) (by decide)]
 simp only [Option.bind_some]
 rw [rfine_eq hrs2 (by simp; omega), ← hav]
 simp only [Option.bind_some]
 cases hv : allv (r :: l) with
 | false =>
  refine ⟨[], false, 1, rfl, ?_, Nat.zero_le _, fun q hq => by cases hq⟩
  cases validB l <;> rfl
 | true =>
  have vl := allv_vl.1 hv
  have vl1 : VL l := vl.sub fun q hq => List.mem_cons_of_mem _ hq
  have hvb : validB l = true := by
   unfold validB
   rw [allv_vl.2 vl1]
   simp; omega
  have vl2 : VL (l ++ [r]) := vl.sub fun q hq => (hmm q).2 hq
  have s1 := sset_len cmpR l
  have vl3 : VL (sset cmpR l ++ [r]) := vl.sub fun q hq => by
   rcases List.mem_append.1 hq with hq | hq
   ·exact List.mem_cons_of_mem _ (mem_ss.1 hq)
   ·rcases List.mem_singleton.1 hq with rfl; exact List.mem_cons_self
  have e3 : sset cmpR (sset cmpR l ++ [r]) = sset cmpR (l ++ [r]) := sset_ext cmpR_cmp (fun _ _ => cmpR_eq) fun q => by
   rw [List.mem_append, List.mem_append, mem_ss]
  have s2 := sset_len cmpR (l ++ [r])
  simp only [List.length_append, List.length_cons, List.length_nil] at s2
  rw [hvb]
  simp only [Bool.not_true, Bool.false_eq_true, if_false]
  rw [order_ok vl1 (by omega)]
  simp only [Option.bind_some]
  rw [appM_one _ (sset cmpR l) [r] (by simp; omega) (by decide)]
  simp only [Option.bind_some]
  rw [order_ok vl3 (by simp; omega), e3, rorder_ok vl1 (by omega), rorder_ok vl2 (by simp; omega)]
  simp only [Option.bind_some]
  refine ⟨sset cmpR (l ++ [r]), decide (((sset cmpR l).length : Int) < ((sset cmpR (l ++ [r])).length : Int)), 0, ?_, ?_, by omega, fun q hq => ?_⟩
  ·rw [if_neg (by simp; omega)]
  ·rw [if_neg (by decide), if_neg (by simp; omega)]
  ·rcases List.mem_append.1 (mem_ss.1 hq) with hq | hq
   ·exact h.sm q hq
   ·rcases List.mem_singleton.1 hq with rfl; exact r31
end Go.Proofs.YthdimlepjpnncaaGreat.Sh

/- Equal records, equal lists of records (the reference). -/
namespace Go.Proofs.YthdimlepjpnncaaGreat.Sh
open Go
set_option linter.unusedVariables false
set_option linter.unusedSimpArgs false
/-! ### equal lists -/
theorem rSame_refl {r : Record} (h : r.Samples.length ≤ 1000000000) : ref14_Same r r = some true := by
 unfold ref14_Same
 simp only [ba_refl, beq_self_eq_true, Bool.and_self, if_true]
 have : ref05_Same r.Samples r.Samples = some true := by
  unfold ref05_Same
  rw [if_neg (by simp)]
  refine whileM_for' (fun i => (i : Int)) r.Samples.length _ rfl (fun i hi => ?_) ?_
  ·unfold ref05_Same_l2
   rw [if_pos (decide_eq_true (by omega)), ix_nat _ _ hi]
   simp only [Option.bind_some, bne_self_eq_false, Bool.false_eq_true, if_false]
   rw [w64_id (by omega) (by omega)]
   rfl
  ·unfold ref05_Same_l2
   rw [if_neg (by simp)]
   rfl
 rw [this]
 rfl
theorem rSameList_refl {l : List Record} (hl : l.length ≤ 1000000) (h : ∀ r ∈ l, r.Samples.length ≤ 1000000000) : ref14_SameList l l = some true := by
 unfold ref14_SameList
 rw [if_neg (by simp)]
 refine whileM_for' (fun i => (i : Int)) l.length _ rfl (fun i hi => ?_) ?_
 ·unfold ref14_SameList_l2
  rw [if_pos (decide_eq_true (by omega)), ix_nat _ _ hi]
  simp only [Option.bind_some]
  rw [rSame_refl (h _ (List.getElem_mem hi))]
  simp only [Option.bind_some, Bool.not_true, Bool.false_eq_true, if_false]
  rw [w64_id (by omega) (by omega)]
  rfl
 ·unfold ref14_SameList_l2
  rw [if_neg (by simp)]
  rfl
end Go.Proofs.YthdimlepjpnncaaGreat.Sh

/- The chapter's example (chapter 15). -/
namespace Go.Proofs.YthdimlepjpnncaaGreat.Sh
open Go
set_option linter.unusedVariables false
set_option linter.unusedSimpArgs false
/-! ### the chapter's example -/
def two0 : Record := ⟨(⟨(⟨#[65]⟩ : ByteArray), (⟨#[66]⟩ : ByteArray), ByteArray.empty, (⟨#[72, 72, 90]⟩ : ByteArray)⟩ : SourceID), 0, 0, (⟨4, 1⟩ : Rate), 0, 0, 0, ([1, 2, 3, 4] : List Int)⟩
def two1 : Record := ⟨(⟨(⟨#[65]⟩ : ByteArray), (⟨#[66]⟩ : ByteArray), ByteArray.empty, (⟨#[72, 72, 90]⟩ : ByteArray)⟩ : SourceID), 500000, 0, (⟨4, 1⟩ : Rate), 0, 0, 1, ([5, 6, 7, 8] : List Int)⟩
theorem two_vs : VS15 [two0, two1] := by
 have h0 : RF two0 := recB_iff.1 (by decide)
 have h1 : RF two1 := recB_iff.1 (by decide)
 refine ⟨⟨fun r hr => ?_, fun r hr q hq => ?_⟩, by simp, fun r hr => ?_⟩
 ·simp only [List.mem_cons, List.not_mem_nil, or_false] at hr
  rcases hr with rfl | rfl
  ·exact h0
  ·exact h1
 ·simp only [List.mem_cons, List.not_mem_nil, or_false] at hr hq
  rcases hr with rfl | rfl <;> rcases hq with rfl | rfl <;> rfl
 ·simp only [List.mem_cons, List.not_mem_nil, or_false] at hr
  rcases hr with rfl | rfl <;> simp [two0, two1]
set_option maxRecDepth 100000 in
theorem two_ss : sset cmpR [two0, two1] = [two0, two1] := sset_self cmpR_cmp (fun _ _ => cmpR_eq) (by
 refine List.pairwise_cons.2 ⟨fun b hb => ?_, List.pairwise_singleton _ _⟩
 rcases List.mem_singleton.1 hb with rfl
 decide)
set_option maxRecDepth 100000 in
theorem two_comp : compose_compose [two0, two1] = some [subR two0 0 2, subR two1 0 4] := by
 obtain ⟨m, em, hm⟩ := comp_ok two_vs
 rw [em]
 congr 1
 refine hm.eq (fun r => if r.Start = 0 then [(0, 2)] else [(0, 4)]) two_vs.toVL (fun r hr => ?_) ?_ ?_
 ·rw [two_ss] at hr ⊢
  have k0 : ∀ i, i < 4 → keepR [two0, two1] two0 i = decide (i < 2) := by decide
  have k1 : ∀ i, i < 4 → keepR [two0, two1] two1 i = true := by decide
  simp only [List.mem_cons, List.not_mem_nil, or_false] at hr
  rcases hr with rfl | rfl
  ·rw [if_pos (by decide)]
   refine ⟨fun p hp => ?_, List.pairwise_singleton _ _, fun i hi hk => ⟨(0, 2), List.mem_cons_self, Nat.zero_le _, ?_⟩⟩
   ·rcases List.mem_singleton.1 hp with rfl
    exact ⟨by decide, by decide, fun i _ hi => by rw [k0 i (by simp only at hi; omega)]; exact decide_eq_true hi, .inr (by rw [k0 2 (by decide)]; rfl)⟩
   ·rw [k0 i hi] at hk
    exact of_decide_eq_true hk
  ·rw [if_neg (by decide)]
   refine ⟨fun p hp => ?_, List.pairwise_singleton _ _, fun i hi hk => ⟨(0, 4), List.mem_cons_self, Nat.zero_le _, hi⟩⟩
   rcases List.mem_singleton.1 hp with rfl
   exact ⟨by decide, by decide, fun i _ hi => k1 i hi, .inl rfl⟩
 ·rw [two_ss]
  exact List.Perm.refl _
 ·refine List.pairwise_cons.2 ⟨fun b hb => ?_, List.pairwise_singleton _ _⟩
  rcases List.mem_singleton.1 hb with rfl
  decide
set_option maxRecDepth 100000 in
theorem sane_true : law15_sane = some true := by
 have hl := two_vs.len
 have e0 : law15_two = some [two0, two1] := rfl
 have e1 : compose_Compose [two0, two1] = some ([subR two0 0 2, subR two1 0 4], 0) := by
  unfold compose_Compose
  rw [valid_ok two_vs.toVL (by omega)]
  simp only [Option.bind_some, Bool.not_true, Bool.false_eq_true, if_false]
  rw [two_comp]
  rfl
 have e2 : compose_Value [two0, two1] 600000 = some (5, true) := by
  obtain ⟨m, em, hm⟩ := comp_ok two_vs
  have hme : m = [subR two0 0 2, subR two1 0 4] := Option.some.inj (em.symm.trans two_comp)
  rw [value_ok two_vs em (fun q hq => hm.rf two_vs.toVL hq) (by have := hm.len two_vs; omega), hme]
  have : findV [subR two0 0 2, subR two1 0 4] 600000 = (5, true) := by decide
  rw [this]
 unfold law15_sane
 rw [e0]
 simp only [Option.bind_some]
 rw [e1, e2]
 rfl
end Go.Proofs.YthdimlepjpnncaaGreat.Sh

/- An odd record is drawn. -/
namespace Go.Proofs.YthdimlepjpnncaaGreat.Sh
open Go
set_option linter.unusedVariables false
set_option linter.unusedSimpArgs false
theorem oddrec_spec {d : Dice} (hd : DOK d) {r : Record} (h : RSm r) (hl : r.Samples.length ≤ 1000) : ∃ x d', made_Dice_OddRecord d r = some (x, d') ∧ RSm x ∧ x.Samples.length ≤ r.Samples.length + 1 ∧ DOK d' := by
 obtain ⟨n, d1, e1, _, _, hd1⟩ := next_spec hd (n := 10) (by decide) (by decide)
 have sm : ∀ (st : ByteArray) (a b c d e f g : Int) (l : List Int), st.size ≤ 9223372036854775807 → l.length ≤ 10000 → RSm ⟨⟨r.Source.Network, st, r.Source.Location, r.Source.Channel⟩, a, b, ⟨c, d⟩, e, f, g, l⟩ :=
  fun st _ _ _ _ _ _ _ l hst hl => ⟨⟨h.src.n, hst, h.src.l, h.src.c⟩, by simp only; omega⟩
 unfold made_Dice_OddRecord
 rw [appM_one _ _ _ (by simp; omega) (by decide), e1]
 simp only [Option.bind, List.nil_append]
 cases c0 : (n == 0) with
 | true => exact ⟨_, _, rfl, sm _ _ _ _ _ _ _ _ _ (by decide) (by omega), by simp only; omega, hd1⟩
 | false =>
  simp only [Bool.false_eq_true, if_false]
  cases c1 : (n == 1) with
  | true =>
   obtain ⟨x, d2, e2, _, hd2⟩ := pick_spec hd1 (l := [(-1), 0, 9007199254740992, 9007199254740993]) (by decide) (by decide)
   simp only [if_true]; rw [e2]
   exact ⟨_, _, rfl, sm _ _ _ _ _ _ _ _ _ h.src.s (by omega), by simp only; omega, hd2⟩
  | false =>
   simp only [Bool.false_eq_true, if_false]
   cases c2 : (n == 2) with
   | true =>
    obtain ⟨x, d2, e2, _, hd2⟩ := pick_spec hd1 (l := [(-1), 16777213, 16777216]) (by decide) (by decide)
    simp only [if_true]; rw [e2]
    exact ⟨_, _, rfl, sm _ _ _ _ _ _ _ _ _ h.src.s (by omega), by simp only; omega, hd2⟩
   | false =>
    simp only [Bool.false_eq_true, if_false]
    cases c3 : (n == 3) with
    | true =>
     obtain ⟨x, d2, e2, _, hd2⟩ := pick_spec hd1 (l := [0, 2, 4097]) (by decide) (by decide)
     simp only [if_true]; rw [e2]
     exact ⟨_, _, rfl, sm _ _ _ _ _ _ _ _ _ h.src.s (by omega), by simp only; omega, hd2⟩
    | false =>
     simp only [Bool.false_eq_true, if_false]
     cases c4 : (n == 4) with
     | true =>
      obtain ⟨x, d2, e2, _, hd2⟩ := pick_spec hd1 (l := [(-1), 1099511627776, 1099511627777]) (by decide) (by decide)
      simp only [if_true]; rw [e2]
      exact ⟨_, _, rfl, sm _ _ _ _ _ _ _ _ _ h.src.s (by omega), by simp only; omega, hd2⟩
     | false =>
      simp only [Bool.false_eq_true, if_false]
      cases c5 : (n == 5) with
      | true =>
       obtain ⟨x, d2, e2, _, hd2⟩ := pick_spec hd1 (l := [(-1), 65535, 65536]) (by decide) (by decide)
       simp only [if_true]; rw [e2]
       exact ⟨_, _, rfl, sm _ _ _ _ _ _ _ _ _ h.src.s (by omega), by simp only; omega, hd2⟩
      | false =>
       simp only [Bool.false_eq_true, if_false]
       cases c6 : (n == 6) with
       | true =>
        obtain ⟨x, d2, e2, _, hd2⟩ := pick_spec hd1 (l := [(-1), 1073741824, 1073741825]) (by decide) (by decide)
        simp only [if_true]; rw [e2]
        exact ⟨_, _, rfl, sm _ _ _ _ _ _ _ _ _ h.src.s (by omega), by simp only; omega, hd2⟩
       | false =>
        simp only [Bool.false_eq_true, if_false]
        cases c7 : (n == 7) with
        | true =>
         obtain ⟨x, d2, e2, _, hd2⟩ := pick_spec hd1 (l := [1073741823, 1073741824, (-1073741824)]) (by decide) (by decide)
         simp only [if_true]; rw [e2]
         simp only
         rw [appM_one _ _ _ (by simp; omega) (by decide)]
         exact ⟨_, _, rfl, sm _ _ _ _ _ _ _ _ _ h.src.s (by simp; omega), by simp, hd2⟩
        | false =>
         simp only [Bool.false_eq_true, if_false]
         cases c8 : (n == 8) with
         | true => exact ⟨_, _, rfl, sm _ _ _ _ _ _ _ _ _ h.src.s (by simp), by simp, hd1⟩
         | false => exact ⟨_, _, rfl, sm _ _ _ _ _ _ _ _ _ h.src.s (by omega), by simp only; omega, hd1⟩
end Go.Proofs.YthdimlepjpnncaaGreat.Sh

/- Composition of records as plain programs (chapter 15): which sample a time has. -/
import Derived.Test.YthdimlepjpnncaaGreatComp3
import Derived.Test.YthdimlepjpnncaaGreatRMeet
namespace Go.Proofs.YthdimlepjpnncaaGreat.Sh
open Go
set_option linter.unusedVariables false
set_option linter.unusedSimpArgs false

theorem RF.at_lt {r : Record} (h : RF r) {i j : Nat} {t : Int} (h1 : timeR r (i : Int) ≤ t) (h2 : t < timeR r ((j : Int) + 1)) : i ≤ j := by
  rcases Nat.lt_or_ge j i with h3 | h3
  · have := h.mono (i := (j : Int) + 1) (j := (i : Int)) (by omega)
    omega
  · exact h3
/-- a sample that is kept has its times alone -/
theorem keep_uniq {l : List Record} (h : VL l) {r q : Record} (hr : r ∈ l) (hq : q ∈ l) {i j : Nat} (hi : i < r.Samples.length) (hj : j < q.Samples.length) (kr : keepR (sset cmpR l) r i = true) (kq : keepR (sset cmpR l) q j = true) {t : Int}
    (t1 : timeR r (i : Int) ≤ t) (t2 : t < timeR r ((i : Int) + 1)) (t3 : timeR q (j : Int) ≤ t) (t4 : t < timeR q ((j : Int) + 1)) : r = q ∧ i = j := by
  have hss : ∀ x ∈ sset cmpR l, RF x := fun x hx => h.rf x (mem_ss.1 hx)
  have key : ∀ {r q : Record}, r ∈ l → q ∈ l → ∀ {i j : Nat}, i < r.Samples.length → j < q.Samples.length → keepR (sset cmpR l) q j = true → timeR r (i : Int) ≤ t → t < timeR r ((i : Int) + 1) → timeR q (j : Int) ≤ t → t < timeR q ((j : Int) + 1) → ¬ betR r q < 0 := by
    intro r q hr hq i j hi hj kq t1 t2 t3 t4 hb
    refine (keepB_iff (h.rf q hq) (betterL_ne hss q)).1 kq t t3 t4 ⟨extR r, List.mem_map.2 ⟨r, List.mem_filter.2 ⟨mem_ss.2 hr, decide_eq_true hb⟩, rfl⟩, ?_, ?_⟩
    · have := (h.rf r hr).mono (i := 0) (j := (i : Int)) (by omega)
      show timeR r 0 ≤ t
      omega
    · have := (h.rf r hr).mono (i := (i : Int) + 1) (j := (r.Samples.length : Int)) (by omega)
      show t < timeR r r.Samples.length
      omega
  have e : r = q := by
    have h1 := key hr hq hi hj kq t1 t2 t3 t4
    have h2 := key hq hr hj hi kr t3 t4 t1 t2
    have := betR_cmp.anti r q
    exact betR_zero (by omega)
  subst e
  have a := (h.rf r hr).at_lt t1 t4
  have b := (h.rf r hr).at_lt t3 t2
  exact ⟨rfl, by omega⟩
theorem findR_some {r : Record} (h : RF r) {t v : Int} (hf : findR r t = some v) : ∃ i, i < r.Samples.length ∧ timeR r (i : Int) ≤ t ∧ t < timeR r ((i : Int) + 1) ∧ v = r.Samples.getD i 0 := by
  unfold findR at hf
  rw [Option.map_eq_some_iff] at hf
  obtain ⟨i, h1, h2⟩ := hf
  have h3 := List.find?_some h1
  have h4 := List.mem_of_find?_eq_some h1
  simp only [Bool.and_eq_true, decide_eq_true_eq] at h3
  exact ⟨i, by simpa using h4, h3.1, h3.2, h2.symm⟩
theorem findR_none {r : Record} {t : Int} (hf : findR r t = none) {i : Nat} (hi : i < r.Samples.length) (h1 : timeR r (i : Int) ≤ t) : ¬ t < timeR r ((i : Int) + 1) := by
  unfold findR at hf
  rw [Option.map_eq_none_iff, List.find?_eq_none] at hf
  have := hf i (by simpa using hi)
  simp only [Bool.and_eq_true, decide_eq_true_eq] at this
  exact fun h => this ⟨h1, h⟩
/-- what a time has: a sample that is kept -/
theorem findV_some {l m : List Record} (h : VL l) (hc : CompOf l m) {t v : Int} (hf : findV m t = (v, true)) : ∃ r ∈ l, ∃ i, i < r.Samples.length ∧ keepR (sset cmpR l) r i = true ∧ timeR r (i : Int) ≤ t ∧ t < timeR r ((i : Int) + 1) ∧ v = r.Samples.getD i 0 := by
  unfold findV at hf
  cases hs : m.findSome? (findR · t) with
  | none => rw [hs] at hf; simp at hf
  | some u =>
    rw [hs] at hf
    simp only [Prod.mk.injEq, and_true] at hf
    subst hf
    obtain ⟨q, hq, hqf⟩ := List.exists_of_findSome?_eq_some hs
    obtain ⟨r, hr, a, b, hab, hb, rfl, hrun⟩ := hc.mem h hq
    have hR := h.rf r hr
    obtain ⟨j, hj, t1, t2, hv⟩ := findR_some (hR.sub hab hb) hqf
    have hl := subR_len r a b hb
    rw [subR_time] at t1 t2
    have hk := ((runsR_spec (sset cmpR l) hR).2.1.ok _ hrun).2.2.1 (a + j) (by simp only; omega) (by simp only; omega)
    refine ⟨r, hr, a + j, by omega, hk, ?_, ?_, ?_⟩
    · rw [show ((a + j : Nat) : Int) = (a : Int) + (j : Int) by omega]; exact t1
    · rw [show ((a + j : Nat) : Int) + 1 = (a : Int) + ((j : Int) + 1) by omega]; exact t2
    · rw [hv]
      simp only [subR, List.getD_eq_getElem?_getD, List.getElem?_drop, List.getElem?_take]
      rw [if_pos (by omega)]
theorem findV_keep {l m : List Record} (h : VL l) (hc : CompOf l m) {r : Record} (hr : r ∈ l) {i : Nat} (hi : i < r.Samples.length) (hk : keepR (sset cmpR l) r i = true) {t : Int} (t1 : timeR r (i : Int) ≤ t) (t2 : t < timeR r ((i : Int) + 1)) : findV m t = (r.Samples.getD i 0, true) := by
  have hR := h.rf r hr
  obtain ⟨⟨a, b⟩, hp, ha, hb⟩ := (runsR_spec (sset cmpR l) hR).2.1.all i hi hk
  obtain ⟨p1, p2, _⟩ := (runsR_spec (sset cmpR l) hR).2.1.ok _ hp
  simp only at ha hb p1 p2
  have hm : subR r a b ∈ m := hc.perm.mem_iff.2 (List.mem_flatMap.2 ⟨r, mem_ss.2 hr, List.mem_map.2 ⟨(a, b), hp, rfl⟩⟩)
  have hl := subR_len r a b p2
  cases hs : m.findSome? (findR · t) with
  | none =>
    exfalso
    rw [List.findSome?_eq_none_iff] at hs
    refine findR_none (hs _ hm) (i := i - a) (by omega) ?_ ?_
    · rw [subR_time, show (a : Int) + ((i - a : Nat) : Int) = (i : Int) by omega]; exact t1
    · rw [subR_time, show (a : Int) + (((i - a : Nat) : Int) + 1) = (i : Int) + 1 by omega]; exact t2
  | some v =>
    have hf : findV m t = (v, true) := by unfold findV; rw [hs]
    obtain ⟨q, hq, j, hj, kq, t3, t4, hv⟩ := findV_some h hc hf
    obtain ⟨rfl, rfl⟩ := keep_uniq h hr hq hi hj hk kq t1 t2 t3 t4
    rw [hf, hv]
theorem findV_or (m : List Record) (t : Int) : (∃ v, findV m t = (v, true)) ∨ findV m t = (0, false) := by
  unfold findV
  cases m.findSome? (findR · t) with
  | none => exact .inr rfl
  | some v => exact .inl ⟨v, rfl⟩
/-- all of a record is kept that none is better than -/
theorem keep_best {l : List Record} {r : Record} (h : ∀ q ∈ l, ¬ betR q r < 0) (i : Nat) : keepR (sset cmpR l) r i = true := by
  have : betterL (sset cmpR l) r = [] := by
    unfold betterL
    rw [List.map_eq_nil_iff, List.filter_eq_nil_iff]
    intro q hq
    simpa using h q (mem_ss.1 hq)
  unfold keepR keepB
  rw [this]
  rfl
theorem keep_iff {l : List Record} (h : VL l) {r : Record} (hr : r ∈ l) {i : Nat} : keepR (sset cmpR l) r i = true ↔ ∀ q ∈ l, betR q r < 0 → ∀ y, timeR r (i : Int) ≤ y → y < timeR r ((i : Int) + 1) → ¬ (timeR q 0 ≤ y ∧ y < timeR q q.Samples.length) := by
  have hss : ∀ x ∈ sset cmpR l, RF x := fun x hx => h.rf x (mem_ss.1 hx)
  unfold keepR
  rw [keepB_iff (h.rf r hr) (betterL_ne hss r)]
  constructor
  · intro hk q hq hb y h1 h2 h3
    exact hk y h1 h2 ⟨extR q, List.mem_map.2 ⟨q, List.mem_filter.2 ⟨mem_ss.2 hq, decide_eq_true hb⟩, rfl⟩, h3⟩
  · rintro hk y h1 h2 ⟨s, hs, h3⟩
    obtain ⟨q, hq, rfl⟩ := List.mem_map.1 hs
    obtain ⟨h4, h5⟩ := List.mem_filter.1 hq
    exact hk q (mem_ss.1 h4) (of_decide_eq_true h5) y h1 h2 h3

/-! ### spans of the reference -/
theorem cut_one {w : Span} {p q : Int} : ∃ r, ref08_Cut [w] p q = some r ∧ (r = [] ↔ ∀ z, ¬ ((w.From ≤ z ∧ z < w.To) ∧ p ≤ z ∧ z < q)) := by
  obtain ⟨r, er, hv, hm⟩ := rmeet_spec (a := [w]) (b := [⟨p, q⟩]) (by simp) (by simp)
  refine ⟨r, ?_, ?_⟩
  · unfold ref08_Cut
    rw [er]
    rfl
  · constructor
    · intro hr z hz
      have := (hm z).2 ⟨mem_one.2 hz.1, mem_one.2 hz.2⟩
      rw [hr] at this
      exact Mem.nil this
    · intro hz
      cases r with
      | nil => rfl
      | cons s r =>
        exfalso
        have hs := hv.ne s List.mem_cons_self
        have := (hm s.From).1 ⟨s, List.mem_cons_self, Int.le_refl _, hs⟩
        exact hz s.From ⟨mem_one.1 this.1, mem_one.1 this.2⟩
theorem has_spec {l : List Span} (hl : l.length ≤ 1000000) (x : Int) : ∃ c, ref08_Has l x = some c ∧ (c = true ↔ Mem l x) := by
  unfold ref08_Has
  have key : ∀ k, k ≤ l.length → ∃ c, whileM (ref08_Has_l2 l x) ((l.length - k : Nat) : Int) = some c ∧ (c = true ↔ Mem (l.drop (l.length - k)) x) := by
    intro k
    induction k with
    | zero =>
      intro _
      rw [whileM_eq, Nat.sub_zero]
      unfold ref08_Has_l2
      rw [if_neg (by simp)]
      refine ⟨false, rfl, ?_⟩
      rw [List.drop_length]
      simp [Mem.nil]
    | succ k ih =>
      intro hk
      obtain ⟨i, hi⟩ : ∃ i, l.length - (k + 1) = i := ⟨_, rfl⟩
      have hi' : l.length - k = i + 1 := by omega
      rw [hi'] at ih
      have hil : i < l.length := by omega
      rw [hi, whileM_eq, List.drop_eq_getElem_cons hil, mem_cons]
      unfold ref08_Has_l2
      rw [if_pos (decide_eq_true (by omega)), ix_nat _ _ hil]
      simp only [Option.bind_some]
      rw [w64_n (by omega)]
      obtain ⟨c, e1, e2⟩ := ih (by omega)
      by_cases h1 : l[i].From ≤ x
      · rw [if_pos (decide_eq_true h1)]
        simp only [Option.bind_some]
        by_cases h2 : x < l[i].To
        · rw [if_pos (decide_eq_true h2)]
          exact ⟨true, rfl, by simp [h1, h2]⟩
        · rw [if_neg (by simpa using h2)]
          refine ⟨c, e1, e2.trans ⟨.inr, ?_⟩⟩
          rintro (h | h)
          · exact absurd h.2 h2
          · exact h
      · rw [if_neg (by simpa using h1)]
        simp only [Option.bind_some, Bool.false_eq_true, if_false]
        refine ⟨c, e1, e2.trans ⟨.inr, ?_⟩⟩
        rintro (h | h)
        · exact absurd h.1 h1
        · exact h
  have := key l.length (Nat.le_refl _)
  rw [Nat.sub_self] at this
  exact this

end Go.Proofs.YthdimlepjpnncaaGreat.Sh

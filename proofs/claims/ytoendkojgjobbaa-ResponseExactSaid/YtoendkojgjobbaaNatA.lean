/- What is well, sums, fractions: numbers in digits as plain programs (chapter 17). -/
import Derived.Test.YtoendkojgjobbaaNatM
namespace Go.Proofs.Ytoendkojgjobbaa.Sh
open Go
set_option linter.unusedVariables false
set_option linter.unusedSimpArgs false

/-- a number that is well and short -/
structure NW (l : List Int) (v : Int) : Prop extends NV l v where
  len : l.length ≤ 64

theorem ncontains_spec (p : Int → Bool) (f : Int → Option Bool) (hf : ∀ x, f x = some (p x)) (s : List Int) (hl : s.length ≤ 1000000000) : slices_ContainsFunc_api_Nat_int s f = some (s.any p) := by
  have hw : slices_IndexFunc_api_Nat_int s f = some (if s.findIdx p < s.length then (s.findIdx p : Int) else -1) := by
    unfold slices_IndexFunc_api_Nat_int
    have hle := List.findIdx_le_length (xs := s) (p := p)
    refine whileM_for' (fun i => (i : Int)) (s.findIdx p) _ rfl (fun i hi => ?_) ?_
    · have hn := List.not_of_lt_findIdx hi
      simp only [slices_IndexFunc_api_Nat_int_l2]
      rw [if_pos (decide_eq_true (by omega)), ix_nat _ _ (by omega)]
      simp only [Option.bind, hf]
      rw [if_neg (by simpa using hn), w64_id (by omega) (by omega)]
      rfl
    · simp only [slices_IndexFunc_api_Nat_int_l2]
      by_cases h : s.findIdx p < s.length
      · rw [if_pos (decide_eq_true (by omega)), ix_nat _ _ h]
        simp only [Option.bind, hf]
        rw [if_pos (List.findIdx_getElem (w := h)), if_pos h]
      · rw [if_neg (fun hh => h (by have := of_decide_eq_true hh; omega)), if_neg h]; rfl
  unfold slices_ContainsFunc_api_Nat_int
  rw [hw]
  simp only [Option.bind]
  by_cases h : s.findIdx p < s.length
  · rw [if_pos h]
    have h2 := List.findIdx_getElem (xs := s) (p := p) (w := h)
    have : s.any p = true := List.any_eq_true.2 ⟨_, List.getElem_mem h, h2⟩
    rw [this, decide_eq_true (Int.natCast_nonneg _)]
  · rw [if_neg h]
    have : s.any p = false := by
      rw [List.any_eq_false]
      intro x hx hp
      exact h (List.findIdx_lt_length_of_exists ⟨x, hx, hp⟩)
    rw [this]
    rfl


theorem nvalid_true {l : List Int} {v : Int} (h : NW l v) : nat_Valid l = some true := by
  have hl := h.len
  unfold nat_Valid
  rw [decide_eq_false (show ¬ (64 : Int) < (l.length : Int) by omega), ncontains_spec (fun x => (decide (x < 0)) || (decide (1073741824 ≤ x))) nat_Valid_fn1 (fun x => rfl) l (by omega)]
  have hany : (l.any fun x => (decide (x < 0)) || (decide (1073741824 ≤ x))) = false := by
    rw [List.any_eq_false]
    intro x hx
    have := h.dg x hx
    simp; omega
  rw [hany]
  simp only [Bool.false_eq_true, if_false]
  by_cases h0 : 0 < l.length
  · rw [decide_eq_true (show (0 : Int) < (l.length : Int) by omega), w64_id (by omega) (by omega), show ((l.length : Int) - 1) = ((l.length - 1 : Nat) : Int) by omega, ix_nat _ _ (show l.length - 1 < l.length by omega)]
    simp only [if_true, Option.bind]
    have := h.tr h0
    rw [show (l[l.length - 1] == 0) = false by simpa using this]; rfl
  · rw [decide_eq_false (show ¬ (0 : Int) < (l.length : Int) by omega)]; rfl
theorem nboth_true {a b : List Int} {va vb : Int} (ha : NW a va) (hb : NW b vb) : nat_both a b = some true := by
  unfold nat_both
  rw [nvalid_true ha, nvalid_true hb]; rfl
theorem NV.pos {l : List Int} {v : Int} (h : NV l v) : 0 < l.length ↔ 0 < v := by
  constructor
  · intro hl
    have h1 := h.nn
    rcases Int.lt_or_lt_of_ne (show v ≠ 0 from fun hv => by
      have := val_zero h.dg h.tr (by rw [h.vl, hv])
      rw [this] at hl; simp at hl) with hh | hh
    · omega
    · exact hh
  · intro hv
    rcases Nat.eq_zero_or_pos l.length with h0 | h0
    · have : l = [] := List.eq_nil_of_length_eq_zero h0
      have hvl := h.vl
      rw [this] at hvl
      simp only [val] at hvl
      omega
    · exact h0
theorem nvf_true {f : Fraction} {p q : Int} (hp : NW f.Num p) (hq : NW f.Den q) (hq0 : 0 < q) : nat_ValidFraction f = some true := by
  unfold nat_ValidFraction
  rw [nvalid_true hp, nvalid_true hq]
  have := hq.toNV.pos.2 hq0
  simp only [Option.bind, if_true, Bool.true_and]
  rw [decide_eq_true (by omega)]
theorem trim_id {l : List Int} {v : Int} (h : NV l v) (hl : l.length ≤ 1000000) : nat_trim l = some l := by
  obtain ⟨r, e, hr, _⟩ := trim_spec h.dg hl
  rw [h.vl] at hr
  rw [e, hr.inj h]
theorem limited_spec {l : List Int} {v : Int} (h : NV l v) (hl : l.length ≤ 1000000) : nat_limited l = some (if l.length ≤ 64 then (l, 0) else ([], 8)) := by
  unfold nat_limited
  rw [trim_id h hl]
  simp only [Option.bind]
  by_cases h6 : l.length ≤ 64
  · rw [if_neg (by simp; omega), if_pos h6]
  · rw [if_pos (decide_eq_true (by omega)), if_neg h6]
theorem nmul_spec {a b : List Int} {va vb : Int} (ha : NW a va) (hb : NW b vb) : ∃ r, NV r (va * vb) ∧ r.length ≤ a.length + b.length ∧ nat_Mul a b = some (if r.length ≤ 64 then (r, 0) else ([], 8)) := by
  have la := ha.len
  have lb := hb.len
  obtain ⟨r, e, hr, hl⟩ := multiply_spec ha.toNV hb.toNV (by omega) (by omega)
  refine ⟨r, hr, hl, ?_⟩
  unfold nat_Mul
  rw [nboth_true ha hb, e]
  simp only [Option.bind, Bool.not_true, Bool.false_eq_true, if_false]
  rw [limited_spec hr (by omega)]
theorem times_spec {f g : Fraction} {p q r s : Int} (hp : NW f.Num p) (hq : NW f.Den q) (hr : NW g.Num r) (hs : NW g.Den s) (q0 : 0 < q) (s0 : 0 < s) :
    ∃ x y, NV x (p * r) ∧ NV y (q * s) ∧ x.length ≤ f.Num.length + g.Num.length ∧ y.length ≤ f.Den.length + g.Den.length ∧ nat_Times f g = some (if x.length ≤ 64 ∧ y.length ≤ 64 then (⟨x, y⟩, 0) else (⟨[], []⟩, 8)) := by
  have lp := hp.len; have lq := hq.len; have lr := hr.len; have ls := hs.len
  obtain ⟨x, ex, hx, lx⟩ := multiply_spec hp.toNV hr.toNV (by omega) (by omega)
  obtain ⟨y, ey, hy, ly⟩ := multiply_spec hq.toNV hs.toNV (by omega) (by omega)
  refine ⟨x, y, hx, hy, lx, ly, ?_⟩
  unfold nat_Times
  rw [nvf_true hp hq q0, nvf_true hr hs s0, ex, ey]
  simp only [Option.bind, Bool.not_true, Bool.false_eq_true, if_false]
  rw [limited_spec hx (by omega)]
  simp only
  rw [limited_spec hy (by omega)]
  simp only
  by_cases h1 : x.length ≤ 64
  · by_cases h2 : y.length ≤ 64
    · simp [h1, h2]
    · simp [h1, h2]
  · simp [h1]

theorem digit_eq (l : List Int) (i : Nat) : nat_digit l (i : Int) = some (l.getD i 0) := by
  unfold nat_digit
  by_cases h : i < l.length
  · rw [if_neg (by simp; omega), ix_nat _ _ h, getD_at h]; rfl
  · rw [if_pos (decide_eq_true (by omega))]
    simp [List.getD_eq_getElem?_getD, List.getElem?_eq_none (Nat.le_of_not_lt h)]
theorem val_take' (l : List Int) (j : Nat) : val (l.take (j + 1)) = val (l.take j) + 1073741824 ^ j * l.getD j 0 := by
  by_cases h : j < l.length
  · exact val_take l j h
  · rw [List.take_of_length_le (by omega), List.take_of_length_le (by omega)]
    simp [List.getD_eq_getElem?_getD, List.getElem?_eq_none (Nat.le_of_not_lt h)]
theorem nadd_spec {a b : List Int} {va vb : Int} (ha : NW a va) (hb : NW b vb) : ∃ r, NV r (va + vb) ∧ r.length ≤ max a.length b.length + 1 ∧ nat_Add a b = some (if r.length ≤ 64 then (r, 0) else ([], 8)) := by
  have la := ha.len
  have lb := hb.len
  obtain ⟨m, hm⟩ : ∃ m, max a.length b.length + 1 = m := ⟨_, rfl⟩
  obtain ⟨t, e, hd, hv, hl⟩ := loop_ex (b1 := nat_Add_l1 a b)
    (fun q s => ∃ i : Nat, s.2.2 = (i : Int) ∧ q + i = m ∧ s.1.length = i ∧ Dg s.1 ∧ 0 ≤ s.2.1 ∧ s.2.1 ≤ 1 ∧ val s.1 + s.2.1 * 1073741824 ^ i = val (a.take i) + val (b.take i) ∧ (max a.length b.length < i → s.2.1 = 0))
    (fun r => Dg r ∧ val r = va + vb ∧ r.length = m)
    (fun q s ⟨i, hi, hq, hl, hd, c0, c1, hv, hz⟩ => by
      obtain ⟨out, c, i'⟩ := s
      simp only at hi hl hd c0 c1 hv hz
      subst hi
      have hw : w64 ((max (a.length : Int) (b.length : Int)) + 1) = (m : Int) := by rw [w64_id (by omega) (by omega)]; omega
      by_cases him : i < m
      · left
        have xa := ha.dg.getD i
        have xb := hb.dg.getD i
        obtain ⟨x, hx⟩ : ∃ x, a.getD i 0 = x := ⟨_, rfl⟩
        obtain ⟨y, hy⟩ : ∃ y, b.getD i 0 = y := ⟨_, rfl⟩
        rw [hx] at xa
        rw [hy] at xb
        have s0 : 0 ≤ c + (x + y) := by omega
        refine ⟨(out ++ [(c + (x + y)) % 1073741824], (c + (x + y)) / 1073741824, ((i + 1 : Nat) : Int)), q - 1, ?_, ⟨i + 1, rfl, by omega, by simp; omega, hd.app (Dg.one (by omega) (by omega)), by simp only; omega, by simp only; omega, ?_, ?_⟩, by omega⟩
        · unfold nat_Add_l1
          simp only
          rw [hw, if_pos (decide_eq_true (by omega)), digit_eq, digit_eq, hx, hy]
          simp only [Option.bind]
          rw [w64_id (x := x + y) (by omega) (by omega), w64_id (x := c + _) (by omega) (by omega), tmod_nn s0, appM_one _ _ _ (by simp; omega) (by decide), shr30 s0]
          simp only
          rw [w64_id (by omega) (by omega)]; rfl
        · simp only
          rw [val_append, val_take', val_take', hx, hy, hl, Int.pow_succ]
          simp only [val]
          have hmm : (c + (x + y)) % 1073741824 + ((c + (x + y)) / 1073741824) * 1073741824 = c + (x + y) := by omega
          generalize (c + (x + y)) % 1073741824 = sm at *
          generalize (c + (x + y)) / 1073741824 = sd at *
          generalize (1073741824 : Int) ^ i = Q at *
          generalize val out = vo at *
          generalize val (a.take i) = u at *
          generalize val (b.take i) = v at *
          grind
        · intro hgt
          simp only at hgt ⊢
          have : x = 0 := by rw [← hx]; simp [List.getD_eq_getElem?_getD, List.getElem?_eq_none (show a.length ≤ i by omega)]
          have : y = 0 := by rw [← hy]; simp [List.getD_eq_getElem?_getD, List.getElem?_eq_none (show b.length ≤ i by omega)]
          omega
      · right
        have : i = m := by omega
        subst this
        have hc := hz (by omega)
        subst hc
        refine ⟨out, ?_, hd, ?_, hl⟩
        · unfold nat_Add_l1
          simp only
          rw [hw, if_neg (by simp)]
        · rw [List.take_of_length_le (by omega), List.take_of_length_le (by omega), ha.vl, hb.vl] at hv
          simpa using hv) m ([], 0, 0) ⟨0, rfl, rfl, rfl, by simp [Dg], by simp, by simp, by simp [val], fun _ => rfl⟩
  obtain ⟨r, e2, r1, r2⟩ := trim_spec hd (by omega)
  rw [hv] at r1
  refine ⟨r, r1, by omega, ?_⟩
  unfold nat_Add
  rw [nboth_true ha hb]
  simp only [Option.bind, Bool.not_true, Bool.false_eq_true, if_false]
  rw [e]
  simp only
  unfold nat_limited
  rw [e2]
  simp only [Option.bind]
  by_cases h6 : r.length ≤ 64
  · rw [if_neg (by simp; omega), if_pos h6]
  · rw [if_pos (decide_eq_true (by omega)), if_neg h6]

end Go.Proofs.Ytoendkojgjobbaa.Sh

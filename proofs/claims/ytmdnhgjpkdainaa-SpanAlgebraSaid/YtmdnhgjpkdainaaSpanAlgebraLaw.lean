/- The law SpanAlgebra as a plain program: it is true at every input. -/
import Derived.Test.YtmdnhgjpkdainaaSpanL
namespace Go.Proofs.Ytmdnhgjpkdainaa.Sh
open Go
set_option linter.unusedVariables false
set_option linter.unusedSimpArgs false

/-- how many of the numbers from lo on are well -/
def cnt (f : Int → Bool) (lo : Int) : Nat → Int
  | 0 => 0
  | n + 1 => cnt f lo n + (if f (lo + n) = true then 1 else 0)
theorem cnt_add (f g h : Int → Bool) (lo : Int) (hf : ∀ z, f z = (g z || h z)) (hd : ∀ z, g z = true → h z = false) (n : Nat) : cnt f lo n = cnt g lo n + cnt h lo n := by
  induction n with
  | zero => rfl
  | succ n ih =>
    simp only [cnt, ih, hf]
    cases hg : g (lo + n) with
    | true => rw [hd _ hg]; simp; omega
    | false => cases hh : h (lo + n) <;> simp; omega
theorem cnt_iv {a b lo : Int} (h1 : lo ≤ a) (h2 : a ≤ b) (n : Nat) : cnt (fun z => decide (a ≤ z) && decide (z < b)) lo n = max 0 (min b (lo + n) - a) := by
  induction n with
  | zero => simp only [cnt]; omega
  | succ n ih =>
    simp only [cnt, ih, Bool.and_eq_true, decide_eq_true_eq]
    split <;> omega
theorem cnt_false (f : Int → Bool) (lo : Int) (hf : ∀ z, f z = false) (n : Nat) : cnt f lo n = 0 := by
  induction n with
  | zero => rfl
  | succ n ih => simp [cnt, ih, hf]
def mB (l : List Span) (z : Int) : Bool := l.any fun s => decide (s.From ≤ z) && decide (z < s.To)
theorem mB_iff {l : List Span} {z : Int} : mB l z = true ↔ Mem l z := by
  unfold mB Mem
  rw [List.any_eq_true]
  simp
theorem card_cnt {lo : Int} {n : Nat} : ∀ {l : List Span}, VS l → EB lo (lo + n) l → card l = cnt (mB l) lo n
  | [], _, _ => by rw [cnt_false (mB []) lo (fun z => rfl) n]; rfl
  | s :: l, hv, he => by
    obtain ⟨h1, h2, h3⟩ := hv.tail
    have hs := he s (by simp)
    rw [cnt_add (mB (s :: l)) (fun z => decide (s.From ≤ z) && decide (z < s.To)) (mB l) lo (fun z => rfl) (fun z hz => ?_) n, ← card_cnt h1 (he.sub fun t ht => List.mem_cons_of_mem _ ht), cnt_iv (by omega) (by omega)]
    · simp only [card]; omega
    · cases hb : mB l z with
      | false => rfl
      | true =>
        obtain ⟨t, ht, q⟩ := mB_iff.1 hb
        have := h3 t ht
        simp at hz
        omega
theorem card_split {lo : Int} {n : Nat} {r x y : List Span} (hr : VS r) (hx : VS x) (hy : VS y) (br : EB lo (lo + n) r) (bx : EB lo (lo + n) x) (by_ : EB lo (lo + n) y) (h1 : ∀ z, Mem r z ↔ Mem x z ∨ Mem y z) (h2 : ∀ z, Mem x z → ¬ Mem y z) : card r = card x + card y := by
  rw [card_cnt hr br, card_cnt hx bx, card_cnt hy by_]
  refine cnt_add _ _ _ _ (fun z => ?_) (fun z hz => ?_) n
  · rw [Bool.eq_iff_iff, Bool.or_eq_true, mB_iff, mB_iff, mB_iff, h1]
  · cases hb : mB y z with
    | false => rfl
    | true => exact absurd (mB_iff.1 hb) (h2 z (mB_iff.1 hz))

theorem law08_SpanAlgebra_true (t : List Int) (ht : ∀ x ∈ t, -9223372036854775808 ≤ x ∧ x ≤ 9223372036854775807) : law08_SpanAlgebra t = some true := by
  unfold law08_SpanAlgebra
  rw [light_spec]
  simp only [Option.bind_some]
  by_cases hl : t.length ≤ 500
  case neg => rw [decide_eq_false hl, sane_true]; rfl
  rw [decide_eq_true hl]
  simp only [Bool.not_true, Bool.false_eq_true, if_false, made_Roll, Option.bind_some]
  obtain ⟨a, d1, ea, la, ba, hd1⟩ := dspans (DOK.roll hl)
  obtain ⟨b, d2, eb, lb, bb, hd2⟩ := dspans hd1
  obtain ⟨c, d3, ec, lc, bc, hd3⟩ := dspans hd2
  rw [ea]; simp only [Option.bind_some]
  rw [eb]; simp only [Option.bind_some]
  rw [ec]; simp only [Option.bind_some]
  have lap : ∀ x y : List Span, (x ++ y).length = x.length + y.length := fun x y => List.length_append
  -- all that is worked out
  obtain ⟨uab, euab, huab⟩ := union_spec (a := a) (b := b) (by omega)
  obtain ⟨uba, euba, huba⟩ := union_spec (a := b) (b := a) (by omega)
  obtain ⟨mab, emab, hmab⟩ := meet_spec (a := a) (b := b) (by omega) (by omega)
  obtain ⟨mba, emba, hmba⟩ := meet_spec (a := b) (b := a) (by omega) (by omega)
  obtain ⟨ubc, eubc, hubc⟩ := union_spec (a := b) (b := c) (by omega)
  obtain ⟨uac, euac, huac⟩ := union_spec (a := a) (b := c) (by omega)
  obtain ⟨mbc, embc, hmbc⟩ := meet_spec (a := b) (b := c) (by omega) (by omega)
  obtain ⟨mac, emac, hmac⟩ := meet_spec (a := a) (b := c) (by omega) (by omega)
  have l1 := huab.len; have l2 := huba.len; have l3 := hmab.len; have l4 := hmba.len; have l5 := hubc.len; have l6 := huac.len; have l7 := hmbc.len; have l8 := hmac.len
  rw [lap] at l1 l2 l5 l6
  obtain ⟨x1, ex1, hx1⟩ := union_spec (a := a) (b := ubc) (by omega)
  obtain ⟨x2, ex2, hx2⟩ := union_spec (a := uab) (b := c) (by omega)
  obtain ⟨x3, ex3, hx3⟩ := meet_spec (a := a) (b := mbc) (by omega) (by omega)
  obtain ⟨x4, ex4, hx4⟩ := meet_spec (a := mab) (b := c) (by omega) (by omega)
  obtain ⟨x5, ex5, hx5⟩ := meet_spec (a := a) (b := ubc) (by omega) (by omega)
  obtain ⟨x6, ex6, hx6⟩ := union_spec (a := mab) (b := mac) (by omega)
  obtain ⟨x7, ex7, hx7⟩ := union_spec (a := a) (b := mbc) (by omega)
  obtain ⟨x8, ex8, hx8⟩ := meet_spec (a := uab) (b := uac) (by omega) (by omega)
  obtain ⟨k, ek, hk⟩ := minus_spec (a := a) (b := b) (by omega) (by omega)
  obtain ⟨r, er, hr⟩ := normal_spec (l := a) (by omega)
  have l9 := hk.len
  have l10 : a.length * (b.length + 1) ≤ 5 * 6 := Nat.mul_le_mul la (by omega)
  have l11 := hr.len; have l12 := hx1.len; have l13 := hx3.len; have l14 := hx5.len; have l15 := hx7.len
  rw [lap] at l12 l15
  obtain ⟨x9, ex9, hx9⟩ := union_spec (a := k) (b := mab) (by omega)
  obtain ⟨x0, ex0, hx0⟩ := meet_spec (a := k) (b := b) (by omega) (by omega)
  -- what is equal
  obtain rfl : uab = uba := huab.vs.uniq huba.vs fun z => by rw [huab.mem, huba.mem, mem_append, mem_append, Or.comm]
  obtain rfl : mab = mba := hmab.vs.uniq hmba.vs fun z => by rw [hmab.mem, hmba.mem, And.comm]
  obtain rfl : x1 = x2 := hx1.vs.uniq hx2.vs fun z => by rw [hx1.mem, hx2.mem, mem_append, mem_append, hubc.mem, huab.mem, mem_append, mem_append, or_assoc]
  obtain rfl : x3 = x4 := hx3.vs.uniq hx4.vs fun z => by rw [hx3.mem, hx4.mem, hmbc.mem, hmab.mem, and_assoc]
  obtain rfl : x5 = x6 := hx5.vs.uniq hx6.vs fun z => by rw [hx5.mem, hx6.mem, mem_append, hubc.mem, mem_append, hmab.mem, hmac.mem, and_or_left]
  obtain rfl : x7 = x8 := hx7.vs.uniq hx8.vs fun z => by rw [hx7.mem, hx8.mem, mem_append, hmbc.mem, huab.mem, huac.mem, mem_append, mem_append, or_and_left]
  have h9 : x9 = r := hx9.vs.uniq hr.vs fun z => by
    rw [hx9.mem, hr.mem, mem_append, hk.mem, hmab.mem]
    constructor
    · rintro (h | h)
      · exact h.1
      · exact h.1
    · intro h
      by_cases hb : Mem b z
      · exact .inr ⟨h, hb⟩
      · exact .inl ⟨h, hb⟩
  subst h9
  have h0 : x0 = [] := hx0.vs.uniq VS.nil fun z => by
    rw [hx0.mem, hk.mem]
    exact ⟨fun h => absurd h.2 h.1.2, fun h => absurd h Mem.nil⟩
  subst h0
  have wa := ba.wide (lo' := -1152921504606846976) (hi' := 1152921504606846976) (by decide) (by decide)
  have wb := bb.wide (lo' := -1152921504606846976) (hi' := 1152921504606846976) (by decide) (by decide)
  have e1 := length_valid hr.vs (by omega) (hr.eb wa)
  have e2 := length_valid hk.vs (by omega) (hk.eb _ _ wa wb)
  have e3 := length_valid hmab.vs (by omega) (hmab.eb _ _ wa wb)
  have hcard : card x9 = card k + card mab := card_split (lo := -1) (n := 37) hr.vs hk.vs hmab.vs (hr.eb ba) (hk.eb _ _ ba bb) (hmab.eb _ _ ba bb) (fun z => by
    rw [hr.mem, hk.mem, hmab.mem]
    constructor
    · intro h
      by_cases hb : Mem b z
      · exact .inr ⟨h, hb⟩
      · exact .inl ⟨h, hb⟩
    · rintro (h | h)
      · exact h.1
      · exact h.1) (fun z h1 h2 => ((hk.mem z).1 h1).2 ((hmab.mem z).1 h2).2)
  have b1 := card_le (lo := -1) (hi := 36) hk.vs (hk.eb _ _ ba bb) (by decide)
  have b2 := card_le (lo := -1) (hi := 36) hmab.vs (hmab.eb _ _ ba bb) (by decide)
  have b3 := card_nn hk.vs
  have b4 := card_nn hmab.vs
  have ew : w64 (card k + card mab) = card k + card mab := w64_id (by omega) (by omega)
  simp only [euab, euba, emab, emba, eubc, euac, embc, emac, ex1, ex2, ex3, ex4, ex5, ex6, ex7, ex8, ek, er, ex9, ex0, e1, e2, e3, hcard, ew, same_refl uab (by omega), same_refl mab (by omega), same_refl x1 (by omega), same_refl x3 (by omega), same_refl x5 (by omega), same_refl x7 (by omega), same_refl x9 (by omega),
    sane_true, Option.bind_some, if_true, beq_self_eq_true, Bool.and_self, List.length_nil, Int.natCast_zero, Int.ofNat_zero]

end Go.Proofs.Ytmdnhgjpkdainaa.Sh

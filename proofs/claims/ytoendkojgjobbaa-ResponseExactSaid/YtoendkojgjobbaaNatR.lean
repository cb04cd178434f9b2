/- The reference's numbers in digits as plain programs (chapter 17): the same values. -/
import Derived.Test.YtoendkojgjobbaaNatA
namespace Go.Proofs.Ytoendkojgjobbaa.Sh
open Go
set_option linter.unusedVariables false
set_option linter.unusedSimpArgs false

theorem rtrim_eq (l : List Int) : ref17_trim l = nat_trim l := rfl
theorem rmul_row {a b out0 : List Int} {i n : Nat} (ha : Dg a) (hia : i < a.length) (hb : Dg b) (hbl : b.length ≤ 1000) (hn : out0.length = n) (hn2 : n ≤ 100000) (hi : i + b.length < n) (hd : Dg out0) (hz : ∀ k, i + b.length ≤ k → out0.getD k 0 = 0) :
    ∃ out, whileM (ref17_mul_l6 a b (out0, (i : Int))) (out0, 0, 0) = some out ∧ Dg out ∧ out.length = n ∧ val out = val out0 + a.getD i 0 * val b * 1073741824 ^ i ∧ (∀ k, i + b.length + 1 ≤ k → out.getD k 0 = 0) := by
  have hx := ha.getD i
  obtain ⟨x, hxe⟩ : ∃ x, a.getD i 0 = x := ⟨_, rfl⟩
  rw [hxe] at hx
  have hix : ix a (i : Int) = some x := by rw [ix_nat _ _ hia, ← getD_at hia, hxe]
  rw [hxe]
  obtain ⟨r, e, h1, h2, h3, h4⟩ := loop_ex (b1 := ref17_mul_l6 a b (out0, (i : Int)))
    (fun q s => ∃ j : Nat, s.2.2 = (j : Int) ∧ q + j = b.length + 1 ∧ ((j ≤ b.length ∧ MI out0 b x i j s.1 s.2.1) ∨ (j = b.length + 1 ∧ s.2.1 = 0 ∧ Dg s.1 ∧ s.1.length = n ∧ val s.1 = val out0 + x * val b * 1073741824 ^ i ∧ (∀ k, i + b.length + 1 ≤ k → s.1.getD k 0 = 0))))
    (fun out => Dg out ∧ out.length = n ∧ val out = val out0 + x * val b * 1073741824 ^ i ∧ (∀ k, i + b.length + 1 ≤ k → out.getD k 0 = 0))
    (fun q s ⟨j, hj, hq, hh⟩ => by
      obtain ⟨out, c, j'⟩ := s
      simp only at hj hh
      subst hj
      rcases hh with ⟨hjb, hm⟩ | ⟨rfl, hc, hd1, hl1, hv1, hr1⟩
      · have hl := hm.len
        have hij : w64 ((i : Int) + (j : Int)) = ((i + j : Nat) : Int) := by rw [w64_id (by omega) (by omega)]; rfl
        have hlt : i + j < out.length := by omega
        have ho := hm.dg.getD (i + j)
        have hc0 := hm.c0
        have hc1 := hm.c1
        by_cases hjl : j < b.length
        · left
          have hdj := hb.getD j
          obtain ⟨m0, m1, s0, s1⟩ := hm.bound hx.1 hx.2 _ hdj.1 hdj.2
          refine ⟨(_, _, ((j + 1 : Nat) : Int)), q - 1, ?_, ⟨j + 1, rfl, by omega, .inl ⟨by omega, hm.step hb hjl hlt hx.1 hx.2⟩⟩, by omega⟩
          have hsum : c + out.getD (i + j) 0 + x * b.getD j 0 = c + (out.getD (i + j) 0 + x * b.getD j 0) := by omega
          unfold ref17_mul_l6
          simp only
          rw [decide_eq_true (show (j : Int) < (b.length : Int) by omega), hij, ix_nat _ _ hlt, hix, ix_nat _ _ hjl]
          simp only [Bool.true_or, if_true, Option.bind]
          rw [← getD_at hlt, ← getD_at hjl]
          rw [w64_id (x := x * _) (by omega) (by omega), w64_id (x := c + out.getD (i + j) 0) (by omega) (by omega), w64_id (x := c + out.getD (i + j) 0 + _) (by omega) (by omega), hsum]
          unfold ref17_mul_j1
          simp only
          rw [hij, ix_nat _ _ hlt, tmod_nn s0, setM_at _ _ _ (by omega) (by omega), Int.tdiv_eq_ediv_of_nonneg s0]
          simp only [Option.bind, Int.toNat_natCast]
          rw [w64_id (x := _ / _) (by omega) (by omega), w64_id (by omega) (by omega)]; rfl
        · have hje : j = b.length := by omega
          subst hje
          have hz0 : out.getD (i + b.length) 0 = 0 := by rw [hm.rest _ (Nat.le_refl _)]; exact hz _ (Nat.le_refl _)
          have hdone := hm.done hlt (hz _ (Nat.le_refl _))
          by_cases hcz : c = 0
          · right
            subst hcz
            refine ⟨out, ?_, hm.dg, by omega, ?_, fun k hk => by rw [hm.rest k (by omega)]; exact hz k (by omega)⟩
            · unfold ref17_mul_l6
              simp only
              rw [if_neg (by simp)]
            · have := hm.v
              rw [List.take_length] at this
              simpa using this
          · left
            refine ⟨(out.set (i + b.length) c, 0, ((b.length + 1 : Nat) : Int)), q - 1, ?_, ⟨b.length + 1, rfl, by omega, .inr ⟨rfl, rfl, hm.dg.set _ hc0 hc1, by simp; omega, hdone, fun k hk => ?_⟩⟩, by omega⟩
            · unfold ref17_mul_l6
              simp only
              rw [decide_eq_false (show ¬ (b.length : Int) < (b.length : Int) by omega), decide_eq_true (show 0 < c by omega), hij, ix_nat _ _ hlt]
              simp only [Bool.or_true, if_true, Option.bind, Bool.false_eq_true, if_false]
              rw [← getD_at hlt, hz0, Int.add_zero, w64_id (x := c) (by omega) (by omega)]
              unfold ref17_mul_j1
              simp only
              rw [hij, ix_nat _ _ hlt, tmod_nn hc0, setM_at _ _ _ (by omega) (by omega), Int.tdiv_eq_ediv_of_nonneg hc0]
              simp only [Option.bind, Int.toNat_natCast]
              rw [show c % 1073741824 = c by omega, show c / 1073741824 = 0 by omega, w64_id (x := 0) (by omega) (by omega), w64_id (by omega) (by omega)]; rfl
            · simp only
              rw [getD_set (by omega), hm.rest _ (by omega)]
              exact hz _ (by omega)
      · right
        subst hc
        refine ⟨out, ?_, hd1, hl1, hv1, hr1⟩
        unfold ref17_mul_l6
        simp only
        rw [if_neg (by simp; omega)]) (b.length + 1) (out0, 0, 0) ⟨0, rfl, rfl, .inl ⟨Nat.zero_le _, ⟨hd, rfl, Int.le_refl _, by simp, by simp [val], fun _ _ => rfl⟩⟩⟩
  exact ⟨r, e, h1, h2, h3, h4⟩

theorem rmul_spec {a b : List Int} {va vb : Int} (ha : NV a va) (hb : NV b vb) (la : a.length ≤ 1000) (lb : b.length ≤ 1000) : ∃ r, ref17_mul a b = some r ∧ NV r (va * vb) ∧ r.length ≤ a.length + b.length := by
  obtain ⟨r, e, h1, h2, h3⟩ := loop_ex (b1 := ref17_mul_l3 a b)
    (fun q s => ∃ i : Nat, s.2 = (i : Int) ∧ q + i = a.length ∧ Dg s.1 ∧ s.1.length = a.length + b.length ∧ val s.1 = val (a.take i) * val b ∧ (∀ k, i + b.length ≤ k → s.1.getD k 0 = 0))
    (fun out => Dg out ∧ out.length = a.length + b.length ∧ val out = val a * val b)
    (fun q s ⟨i, hi, hq, hd, hl, hv, hz⟩ => by
      obtain ⟨out, i'⟩ := s
      simp only at hi hd hl hv hz
      subst hi
      by_cases hia : i < a.length
      · left
        obtain ⟨o, e1, o1, o2, o3, o4⟩ := rmul_row ha.dg hia hb.dg lb hl (by omega) (by omega) hd hz
        refine ⟨(o, ((i + 1 : Nat) : Int)), q - 1, ?_, ⟨i + 1, rfl, by omega, o1, o2, ?_, fun k hk => o4 k (by omega)⟩, by omega⟩
        · unfold ref17_mul_l3
          simp only
          rw [if_pos (decide_eq_true (by omega)), e1]
          simp only [Option.bind]
          rw [w64_id (by omega) (by omega)]; rfl
        · simp only
          rw [o3, hv, val_take _ _ hia]
          grind
      · right
        refine ⟨out, ?_, hd, hl, ?_⟩
        · unfold ref17_mul_l3
          simp only
          rw [if_neg (by simp; omega)]
        · rw [hv, List.take_of_length_le (by omega)]) a.length (List.replicate (a.length + b.length) 0, 0)
    ⟨0, rfl, rfl, fun x hx => by rw [List.eq_of_mem_replicate hx]; decide, by simp, by
      have : ∀ n, val (List.replicate n 0) = 0 := fun n => by induction n with | zero => rfl | succ n ih => rw [List.replicate_succ]; simp [val, ih]
      simp [this, val], fun k _ => by simp [List.getD_eq_getElem?_getD, List.getElem?_replicate]; split <;> rfl⟩
  unfold ref17_mul
  have hw : w64 ((a.length : Int) + (b.length : Int)) = ((a.length + b.length : Nat) : Int) := by rw [w64_id (by omega) (by omega)]; rfl
  rw [hw, makeM_at _ _ _ (by omega) (by omega) (by decide)]
  simp only [Option.bind, Int.toNat_natCast]
  rw [e]
  simp only
  obtain ⟨t, e2, t1, t2⟩ := trim_spec h1 (by omega)
  rw [rtrim_eq, e2]
  refine ⟨t, rfl, ?_, by omega⟩
  rw [h3, ha.vl, hb.vl] at t1
  exact t1

theorem rvalid17_true {l : List Int} {v : Int} (h : NW l v) : ref17_Valid l = some true := by
  have hl := h.len
  unfold ref17_Valid
  refine whileM_for' (fun i => (i : Int)) l.length _ rfl (fun i hi => ?_) ?_
  · have := h.dg _ (List.getElem_mem hi)
    unfold ref17_Valid_l2
    rw [if_pos (decide_eq_true (by omega)), ix_nat _ _ hi]
    simp only [Option.bind, ref01_In]
    rw [decide_eq_true this.1, decide_eq_true this.2]
    simp only [Bool.and_self, Bool.not_true, Bool.false_eq_true, if_false]
    rw [w64_id (by omega) (by omega)]; rfl
  · unfold ref17_Valid_l2
    rw [if_neg (by simp), decide_eq_true (show (l.length : Int) ≤ 64 by omega)]
    simp only [if_true]
    by_cases h0 : 0 < l.length
    · rw [show ((l.length : Int) == 0) = false from beq_eq_false_iff_ne.2 (by omega), w64_id (by omega) (by omega), show ((l.length : Int) - 1) = ((l.length - 1 : Nat) : Int) by omega, ix_nat _ _ (show l.length - 1 < l.length by omega)]
      simp only [Bool.false_eq_true, if_false, Option.bind]
      have := h.tr h0
      rw [show (l[l.length - 1] != 0) = true by simpa using this]; rfl
    · have : l = [] := List.eq_nil_of_length_eq_zero (by omega)
      subst this; rfl
theorem rvf_true {f : Fraction} {p q : Int} (hp : NW f.Num p) (hq : NW f.Den q) (hq0 : 0 < q) : ref17_ValidFraction f = some true := by
  unfold ref17_ValidFraction
  rw [rvalid17_true hp, rvalid17_true hq]
  have := hq.toNV.pos.2 hq0
  simp only [Option.bind, if_true, Bool.true_and]
  rw [decide_eq_true (by omega)]
theorem rcompare17 (a b : List Int) (ha : a.length ≤ 100000) (hb : b.length ≤ 100000) : ∃ c, ref17_compare a b = some c ∧ (c == 0) = decide (a = b) := by
  unfold ref17_compare
  by_cases hl : a.length = b.length
  · rw [if_neg (by simp [hl])]
    obtain ⟨r, e, hr⟩ := loop_ex (b1 := ref17_compare_l2 a b) (fun k s => s + 1 = (k : Int) ∧ k ≤ a.length ∧ ∀ i : Nat, k ≤ i → a[i]? = b[i]?) (fun c => (c == 0) = decide (a = b))
      (fun k s ⟨hk, hka, hs⟩ => by
        by_cases h0 : 0 ≤ s
        · obtain ⟨i, rfl⟩ := Int.eq_ofNat_of_zero_le h0
          have hia : i < a.length := by omega
          have hib : i < b.length := by omega
          by_cases hne : a[i] = b[i]
          · left
            refine ⟨(i : Int) - 1, k - 1, ?_, ⟨by omega, by omega, fun m hm => ?_⟩, by omega⟩
            · unfold ref17_compare_l2
              rw [if_pos (decide_eq_true (by omega)), ix_nat _ _ hia, ix_nat _ _ hib]
              simp only [Option.bind]
              rw [if_neg (by simpa using hne), w64_id (by omega) (by omega)]
            · rcases Nat.eq_or_lt_of_le hm with h | h
              · have : m = i := by omega
                subst this
                rw [List.getElem?_eq_getElem hia, List.getElem?_eq_getElem hib, hne]
              · exact hs m (by omega)
          · right
            have hab : a ≠ b := fun h => hne (by subst h; rfl)
            by_cases hlt : a[i] < b[i]
            · refine ⟨-1, ?_, by rw [decide_eq_false hab]; rfl⟩
              unfold ref17_compare_l2
              rw [if_pos (decide_eq_true (by omega)), ix_nat _ _ hia, ix_nat _ _ hib]
              simp only [Option.bind]
              rw [if_pos (by simpa using hne), if_pos (decide_eq_true hlt)]
            · refine ⟨1, ?_, by rw [decide_eq_false hab]; rfl⟩
              unfold ref17_compare_l2
              rw [if_pos (decide_eq_true (by omega)), ix_nat _ _ hia, ix_nat _ _ hib]
              simp only [Option.bind]
              rw [if_pos (by simpa using hne), if_neg (by simpa using hlt)]
        · right
          have hk0 : k = 0 := by omega
          have hab : a = b := List.ext_getElem? fun i => hs i (by omega)
          refine ⟨0, ?_, by rw [decide_eq_true hab]; rfl⟩
          unfold ref17_compare_l2
          rw [if_neg (by simp; omega)]; rfl) a.length ((a.length : Int) - 1)
      ⟨by omega, Nat.le_refl _, fun i hi => by rw [List.getElem?_eq_none hi, List.getElem?_eq_none (by omega)]⟩
    rw [w64_id (by omega) (by omega)]
    exact ⟨r, e, hr⟩
  · rw [if_pos (by simp; omega)]
    have hab : a ≠ b := fun h => hl (by rw [h])
    by_cases hlt : (a.length : Int) < (b.length : Int)
    · rw [if_pos (decide_eq_true hlt)]
      exact ⟨-1, rfl, by rw [decide_eq_false hab]; rfl⟩
    · rw [if_neg (by simpa using hlt)]
      exact ⟨1, rfl, by rw [decide_eq_false hab]; rfl⟩
theorem requal_spec {f g : Fraction} {p q r s : Int} (hp : NW f.Num p) (hq : NW f.Den q) (hr : NW g.Num r) (hs : NW g.Den s) (q0 : 0 < q) (s0 : 0 < s) : ref17_Equal f g = some (decide (p * s = r * q), 0) := by
  have lp := hp.len; have lq := hq.len; have lr := hr.len; have ls := hs.len
  obtain ⟨x, ex, hx, lx⟩ := rmul_spec hp.toNV hs.toNV (by omega) (by omega)
  obtain ⟨y, ey, hy, ly⟩ := rmul_spec hr.toNV hq.toNV (by omega) (by omega)
  obtain ⟨c, ec, hc⟩ := rcompare17 x y (by omega) (by omega)
  unfold ref17_Equal
  rw [rvf_true hp hq q0, rvf_true hr hs s0, ex, ey]
  simp only [Option.bind, Bool.not_true, Bool.false_eq_true, if_false]
  rw [ec]
  simp only
  rw [hc]
  congr 2
  rw [decide_eq_decide]
  constructor
  · intro h
    rw [← hx.vl, ← hy.vl, h]
  · intro h
    rw [h] at hx
    exact hx.inj hy

end Go.Proofs.Ytoendkojgjobbaa.Sh

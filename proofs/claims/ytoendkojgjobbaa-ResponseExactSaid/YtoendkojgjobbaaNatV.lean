/- Numbers in digits of 30 bits, as plain programs (chapter 17). -/
import Derived.Test.YtoendkojgjobbaaLoops
import Derived.Test.YtoendkojgjobbaaSh
import Derived.Test.YtoendkojgjobbaaSim
namespace Go.Proofs.Ytoendkojgjobbaa.Sh
open Go
set_option linter.unusedVariables false
set_option linter.unusedSimpArgs false

def val : List Int → Int
  | [] => 0
  | x :: l => x + 1073741824 * val l
def Dg (l : List Int) : Prop := ∀ x ∈ l, 0 ≤ x ∧ x ≤ 1073741823
/-- no zero stands last -/
def Tr (l : List Int) : Prop := ∀ h : 0 < l.length, l[l.length - 1]'(by omega) ≠ 0
theorem val_nn : ∀ {l : List Int}, Dg l → 0 ≤ val l
  | [], _ => Int.le_refl _
  | x :: l, h => by
    have := val_nn (l := l) (fun y hy => h y (by simp [hy]))
    have := h x (by simp)
    simp only [val]; omega
theorem val_append (a b : List Int) : val (a ++ b) = val a + 1073741824 ^ a.length * val b := by
  induction a with
  | nil => simp [val]
  | cons x a ih =>
    simp only [List.cons_append, val, ih, List.length_cons, Int.mul_add, Int.pow_succ]
    rw [Int.mul_comm (1073741824 ^ a.length) 1073741824, Int.mul_assoc]; omega
theorem Dg.app {a b : List Int} (ha : Dg a) (hb : Dg b) : Dg (a ++ b) := fun x hx => by
  rcases List.mem_append.1 hx with h | h
  · exact ha x h
  · exact hb x h
theorem Dg.one {x : Int} (h0 : 0 ≤ x) (h1 : x ≤ 1073741823) : Dg [x] := fun y hy => by
  rcases List.mem_singleton.1 hy with rfl; exact ⟨h0, h1⟩
theorem Tr.tail {x : Int} {l : List Int} (h : Tr (x :: l)) (hl : l ≠ []) : Tr l := fun h0 => by
  have := h (by simp)
  simp only [List.length_cons, Nat.add_sub_cancel] at this
  rw [List.getElem_cons] at this
  rw [dif_neg (by omega)] at this
  exact this
theorem val_zero : ∀ {l : List Int}, Dg l → Tr l → val l = 0 → l = []
  | [], _, _, _ => rfl
  | x :: l, hd, ht, hv => by
    have h1 := hd x (by simp)
    have hdl : Dg l := fun y hy => hd y (by simp [hy])
    have h2 := val_nn hdl
    simp only [val] at hv
    have hx : x = 0 := by omega
    have hl : val l = 0 := by omega
    by_cases hn : l = []
    · subst hn
      have := ht (by simp)
      simp at this
      exact absurd hx this
    · exact absurd (val_zero hdl (ht.tail hn) hl) hn
theorem val_inj : ∀ {a b : List Int}, Dg a → Dg b → Tr a → Tr b → val a = val b → a = b
  | [], b, _, hb, _, tb, h => (val_zero hb tb (by simpa [val] using h.symm)).symm
  | a, [], ha, _, ta, _, h => val_zero ha ta (by simpa [val] using h)
  | x :: a, y :: b, ha, hb, ta, tb, h => by
    have x1 := ha x (by simp)
    have y1 := hb y (by simp)
    have da : Dg a := fun z hz => ha z (by simp [hz])
    have db : Dg b := fun z hz => hb z (by simp [hz])
    simp only [val] at h
    have hxy : x = y := by omega
    have hv : val a = val b := by omega
    subst hxy
    by_cases na : a = []
    · subst na
      by_cases nb : b = []
      · rw [nb]
      · have := val_zero db (tb.tail nb) (by simpa [val] using hv.symm)
        exact absurd this nb
    · by_cases nb : b = []
      · subst nb
        exact absurd (val_zero da (ta.tail na) (by simpa [val] using hv)) na
      · rw [val_inj da db (ta.tail na) (tb.tail nb) hv]

/-- a number that is well -/
structure NV (l : List Int) (v : Int) : Prop where
  dg : Dg l
  tr : Tr l
  vl : val l = v
theorem NV.nn {l : List Int} {v : Int} (h : NV l v) : 0 ≤ v := by rw [← h.vl]; exact val_nn h.dg
theorem NV.inj {a b : List Int} {v : Int} (ha : NV a v) (hb : NV b v) : a = b := val_inj ha.dg hb.dg ha.tr hb.tr (by rw [ha.vl, hb.vl])
theorem NV.zero : NV [] 0 := ⟨by simp [Dg], fun h => by simp at h, rfl⟩

theorem from_spec {n : Int} (h0 : 0 ≤ n) (h1 : n ≤ 9223372036854775807) : ∃ l, nat_From n = some (l, 0) ∧ NV l n ∧ l.length ≤ 3 := by
  unfold nat_From
  rw [if_neg (by simp; omega)]
  obtain ⟨r, e, hr⟩ := loop_ex (b1 := nat_From_l1) (fun k s => ∃ m : Nat, m ≤ 3 ∧ s.2.length = m ∧ Dg s.2 ∧ 0 ≤ s.1 ∧ s.1 ≤ 9223372036854775807 / 1073741824 ^ m ∧ val s.2 + 1073741824 ^ m * s.1 = n ∧ (s.1 = 0 → Tr s.2) ∧ k + m = 3)
    (fun r => NV r n ∧ r.length ≤ 3)
    (fun k s ⟨m, hm, hl, hd, s0, s1, hv, ht, hk⟩ => by
      obtain ⟨c, l⟩ := s
      simp only at hl hd s0 s1 hv ht
      by_cases hc : 0 < c
      · left
        have hm3 : m < 3 := by
          rcases Nat.lt_or_ge m 3 with h | h
          · exact h
          · have : m = 3 := by omega
            subst this
            have : (9223372036854775807 : Int) / 1073741824 ^ 3 = 0 := by decide
            omega
        have et : Int.tmod c 1073741824 = c % 1073741824 := Int.tmod_eq_emod_of_nonneg s0
        have es : shrM .i64 c 30 = some (c / 1073741824) := by
          rw [shrM_at _ _ (by decide) (by decide)]
          have : (2 : Int) ^ (30 : Int).toNat = 1073741824 := by decide
          rw [this, Int.fdiv_eq_ediv_of_nonneg _ (by decide)]
        refine ⟨(c / 1073741824, l ++ [c % 1073741824]), k - 1, ?_, ⟨m + 1, by omega, by simp; omega, hd.app (Dg.one (by omega) (by omega)), by simp only; omega, ?_, ?_, ?_, by omega⟩, by omega⟩
        · unfold nat_From_l1
          simp only
          rw [if_pos (decide_eq_true hc), et, appM_one _ _ _ (by simp; omega) (by decide)]
          simp only [Option.bind]
          rw [es]
        · simp only
          have : m = 0 ∨ m = 1 ∨ m = 2 := by omega
          rcases this with rfl | rfl | rfl <;> simp at s1 ⊢ <;> omega
        · simp only [val_append, val, hl, Int.pow_succ]
          rw [← hv, Int.mul_assoc, Int.add_assoc, ← Int.mul_add]
          congr 2
          omega
        · intro hz
          simp only at hz ⊢
          intro _
          simp
          omega
      · right
        refine ⟨l, ?_, ⟨⟨hd, ht (by omega), ?_⟩, by omega⟩⟩
        · unfold nat_From_l1
          simp only
          rw [if_neg (by simp; omega)]
        · have : c = 0 := by omega
          subst this
          simpa using hv) 3 (n, []) ⟨0, by omega, rfl, by simp [Dg], h0, by simpa using h1, by simp [val], fun _ => fun h => by simp at h, rfl⟩
  rw [e]
  exact ⟨r, rfl, hr.1, hr.2⟩

theorem trim_spec {l : List Int} (hd : Dg l) (hl : l.length ≤ 1000000) : ∃ r, nat_trim l = some r ∧ NV r (val l) ∧ r.length ≤ l.length := by
  unfold nat_trim
  obtain ⟨r, e, hr⟩ := loop_ex (b1 := nat_trim_l1) (fun k s => Dg s ∧ val s = val l ∧ s.length ≤ l.length ∧ k = s.length) (fun r => NV r (val l) ∧ r.length ≤ l.length)
    (fun k s ⟨d, hv, hl', hk⟩ => by
      by_cases h0 : 0 < s.length
      · have hw : w64 ((s.length : Int) - 1) = ((s.length - 1 : Nat) : Int) := by rw [w64_id (by omega) (by omega)]; omega
        by_cases hz : s[s.length - 1] = 0
        · left
          have hsplit : s = s.take (s.length - 1) ++ [0] := by
            have := List.take_append_drop (s.length - 1) s
            rw [List.drop_eq_getElem_cons (show s.length - 1 < s.length by omega), hz] at this
            rw [show s.length - 1 + 1 = s.length by omega, List.drop_length] at this
            exact this.symm
          refine ⟨s.take (s.length - 1), k - 1, ?_, ⟨fun x hx => d x (List.mem_of_mem_take hx), ?_, by simp; omega, by simp; omega⟩, by omega⟩
          · unfold nat_trim_l1
            rw [decide_eq_true (show (0 : Int) < (s.length : Int) by omega)]
            simp only [if_true]
            rw [hw, ix_nat _ _ (show s.length - 1 < s.length by omega), hz]
            simp only [Option.bind, beq_self_eq_true, if_true]
            have := sub_at s 0 (s.length - 1) (by omega) (by omega)
            rw [show ((0 : Nat) : Int) = 0 from rfl] at this
            rw [this]; rfl
          · rw [← hv]
            conv => rhs; rw [hsplit]
            rw [val_append]
            simp [val]
        · right
          refine ⟨s, ?_, ⟨d, fun _ => hz, hv⟩, hl'⟩
          unfold nat_trim_l1
          rw [decide_eq_true (show (0 : Int) < (s.length : Int) by omega)]
          simp only [if_true]
          rw [hw, ix_nat _ _ (show s.length - 1 < s.length by omega)]
          simp only [Option.bind]
          rw [if_neg (by simpa using hz)]
      · right
        have : s = [] := List.eq_nil_of_length_eq_zero (by omega)
        subst this
        refine ⟨[], ?_, ⟨d, fun h => by simp at h, hv⟩, hl'⟩
        unfold nat_trim_l1
        rfl) l.length l ⟨hd, rfl, Nat.le_refl _, rfl⟩
  rw [e]
  exact ⟨r, rfl, hr.1, hr.2⟩

end Go.Proofs.Ytoendkojgjobbaa.Sh

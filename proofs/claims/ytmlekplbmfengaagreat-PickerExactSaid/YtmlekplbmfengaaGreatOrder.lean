/- Comparisons: numbers, texts, lists, one after another. No Go program is named here. -/
import Derived.Test.YtmlekplbmfengaaGreatLoops
import Derived.Laws.Strings
namespace Go.Proofs.YtmlekplbmfengaaGreat.Sh
open Go
set_option linter.unusedVariables false
set_option linter.unusedSimpArgs false
/-- a comparison: less than 0, 0, greater than 0 -/
structure Cmp {α : Type} (c : α → α → Int) : Prop where
  anti : ∀ a b, c b a = -c a b
  trans : ∀ a b d, c a b < 0 → c b d < 0 → c a d < 0
  eq0 : ∀ a b, c a b = 0 → ∀ d, c a d = c b d
theorem Cmp.refl {α : Type} {c : α → α → Int} (h : Cmp c) (a : α) : c a a = 0 := by have := h.anti a a; omega
/-- one comparison, and another one where it says nothing -/
def andThen {α : Type} (c d : α → α → Int) (a b : α) : Int := if c a b ≠ 0 then c a b else d a b
theorem Cmp.andThen {α : Type} {c d : α → α → Int} (hc : Cmp c) (hd : Cmp d) : Cmp (andThen c d) := by
  refine ⟨fun a b => ?_, fun a b e h1 h2 => ?_, fun a b h e => ?_⟩
  · unfold Sh.andThen
    have h1 := hc.anti a b
    have h2 := hd.anti a b
    by_cases h : c a b = 0
    · rw [if_neg (by omega), if_neg (by omega)]; exact h2
    · rw [if_pos (by omega), if_pos h]; exact h1
  · unfold Sh.andThen at *
    by_cases ha : c a b = 0
    · rw [if_neg (by omega)] at h1
      have e1 := hc.eq0 a b ha e
      rw [e1]
      by_cases hb : c b e = 0
      · rw [if_neg (by omega)] at h2 ⊢
        exact hd.trans a b e h1 h2
      · rw [if_pos hb] at h2 ⊢
        exact h2
    · rw [if_pos ha] at h1
      by_cases hb : c b e = 0
      · have hb' : c e b = 0 := by have := hc.anti b e; omega
        have e1 := hc.eq0 e b hb' a
        have e2 := hc.anti a e
        have e3 := hc.anti a b
        rw [if_pos (by omega)]
        omega
      · rw [if_pos hb] at h2
        have := hc.trans a b e h1 h2
        rw [if_pos (by omega)]
        exact this
  · unfold Sh.andThen at *
    by_cases ha : c a b = 0
    · rw [if_neg (by omega)] at h
      have e1 := hc.eq0 a b ha e
      have e2 := hd.eq0 a b h e
      rw [e1, e2]
    · rw [if_pos ha] at h
      exact absurd h ha
theorem Cmp.by {α β : Type} {c : β → β → Int} (h : Cmp c) (f : α → β) : Cmp (fun a b => c (f a) (f b)) := ⟨fun _ _ => h.anti _ _, fun _ _ _ => h.trans _ _ _, fun _ _ e _ => h.eq0 _ _ e _⟩
def cmpI (a b : Int) : Int := if a < b then -1 else if b < a then 1 else 0
theorem cmpI_cmp : Cmp cmpI := by
  refine ⟨fun a b => ?_, fun a b d h1 h2 => ?_, fun a b h d => ?_⟩ <;> unfold cmpI at * <;> (repeat' split) <;> (repeat' split at *) <;> omega
theorem cmpI_eq {a b : Int} (h : cmpI a b = 0) : a = b := by unfold cmpI at h; split at h <;> (try split at h) <;> omega
/-- lists, element by element -/
def lexL {α : Type} (c : α → α → Int) : List α → List α → Int
  | [], [] => 0
  | [], _ :: _ => -1
  | _ :: _, [] => 1
  | a :: x, b :: y => if c a b ≠ 0 then c a b else lexL c x y
theorem lexL_cmp {α : Type} {c : α → α → Int} (h : Cmp c) : Cmp (lexL c) := by
  have anti : ∀ a b, lexL c b a = -lexL c a b := by
    intro a
    induction a with
    | nil => intro b; cases b <;> simp [lexL]
    | cons x a ih =>
      intro b
      cases b with
      | nil => simp [lexL]
      | cons y b =>
        simp only [lexL]
        have h1 := h.anti x y
        have h2 := ih b
        by_cases hx : c x y = 0
        · rw [if_neg (by omega), if_neg (by omega)]; exact h2
        · rw [if_pos (by omega), if_pos hx]; exact h1
  have eq0 : ∀ a b, lexL c a b = 0 → ∀ d, lexL c a d = lexL c b d := by
    intro a
    induction a with
    | nil => intro b hb d; cases b with
      | nil => rfl
      | cons y b => simp [lexL] at hb
    | cons x a ih =>
      intro b hb d
      cases b with
      | nil => simp [lexL] at hb
      | cons y b =>
        simp only [lexL] at hb
        by_cases hx : c x y = 0
        · rw [if_neg (by omega)] at hb
          cases d with
          | nil => rfl
          | cons z d =>
            simp only [lexL]
            rw [h.eq0 x y hx z, ih b hb d]
        · rw [if_pos hx] at hb; exact absurd hb hx
  refine ⟨anti, ?_, eq0⟩
  intro a
  induction a with
  | nil =>
    intro b d h1 h2
    cases b with
    | nil => simp [lexL] at h1
    | cons y b =>
      cases d with
      | nil => simp [lexL] at h2
      | cons z d => simp [lexL]
  | cons x a ih =>
    intro b d h1 h2
    cases b with
    | nil => simp [lexL] at h1
    | cons y b =>
      cases d with
      | nil => simp [lexL] at h2
      | cons z d =>
        simp only [lexL] at *
        by_cases hx : c x y = 0
        · rw [if_neg (by omega)] at h1
          rw [h.eq0 x y hx z]
          by_cases hy : c y z = 0
          · rw [if_neg (by omega)] at h2 ⊢
            exact ih b d h1 h2
          · rw [if_pos hy] at h2 ⊢
            exact h2
        · rw [if_pos hx] at h1
          by_cases hy : c y z = 0
          · have hy' : c z y = 0 := by have := h.anti y z; omega
            have e1 := h.eq0 z y hy' x
            have e2 := h.anti x z
            have e3 := h.anti x y
            rw [if_pos (by omega)]
            omega
          · rw [if_pos hy] at h2
            have := h.trans x y z h1 h2
            rw [if_pos (by omega)]
            exact this
theorem lexL_eq {α : Type} {c : α → α → Int} (hc : ∀ a b, c a b = 0 → a = b) : ∀ (a b : List α), lexL c a b = 0 → a = b
  | [], [], _ => rfl
  | [], _ :: _, h => by simp [lexL] at h
  | _ :: _, [], h => by simp [lexL] at h
  | x :: a, y :: b, h => by
    simp only [lexL] at h
    by_cases hx : c x y = 0
    · rw [if_neg (by omega)] at h
      rw [hc x y hx, lexL_eq hc a b h]
    · rw [if_pos hx] at h; exact absurd h hx
/-- texts -/
def cmpU (a b : UInt8) : Int := cmpI a.toNat b.toNat
def cmpS (a b : ByteArray) : Int := lexL cmpU a.data.toList b.data.toList
theorem cmpU_eq {a b : UInt8} (h : cmpU a b = 0) : a = b := by
  have := cmpI_eq h
  exact UInt8.toNat_inj.1 (by omega)
theorem cmpS_cmp : Cmp cmpS := (lexL_cmp (cmpI_cmp.by fun a : UInt8 => (a.toNat : Int))).by fun a : ByteArray => a.data.toList
theorem cmpS_eq {a b : ByteArray} (h : cmpS a b = 0) : a = b := by
  have := lexL_eq (fun _ _ => cmpU_eq) _ _ h
  cases a; cases b
  simp only at this
  congr 1
  exact Array.ext' this
theorem less_lex : ∀ (x y : List UInt8), Op.bytesLess x y = decide (lexL cmpU x y < 0)
  | _, [] => by cases ‹List UInt8› <;> simp [Op.bytesLess, lexL]
  | [], _ :: _ => by simp [Op.bytesLess, lexL]
  | a :: x, b :: y => by
    simp only [Op.bytesLess, lexL, less_lex x y]
    unfold cmpU cmpI
    by_cases h1 : a < b
    · have h1' : (a.toNat : Int) < b.toNat := by have := UInt8.lt_iff_toNat_lt.1 h1; omega
      simp [h1, h1']
    · have h1' : ¬ (a.toNat : Int) < b.toNat := fun h => h1 (UInt8.lt_iff_toNat_lt.2 (by omega))
      by_cases h2 : b < a
      · have h2' : (b.toNat : Int) < a.toNat := by have := UInt8.lt_iff_toNat_lt.1 h2; omega
        have hne : (a == b) = false := by simp; intro h; subst h; omega
        simp [h1, h1', h2', hne]
      · have h2' : ¬ (b.toNat : Int) < a.toNat := fun h => h2 (UInt8.lt_iff_toNat_lt.2 (by omega))
        have he : a = b := UInt8.toNat_inj.1 (by omega)
        subst he
        simp
theorem eq_lex (x y : List UInt8) : (x == y) = decide (lexL cmpU x y = 0) := by
  rw [Bool.eq_iff_iff, decide_eq_true_iff, beq_iff_eq]
  constructor
  · intro h; subst h; exact (lexL_cmp (cmpI_cmp.by fun a : UInt8 => (a.toNat : Int))).refl x
  · exact lexL_eq (fun _ _ => cmpU_eq) x y
theorem lexU_range : ∀ (x y : List UInt8), lexL cmpU x y = -1 ∨ lexL cmpU x y = 0 ∨ lexL cmpU x y = 1
  | [], [] => by simp [lexL]
  | [], _ :: _ => by simp [lexL]
  | _ :: _, [] => by simp [lexL]
  | a :: x, b :: y => by
    simp only [lexL]
    split
    · unfold cmpU cmpI; split <;> (try split) <;> simp
    · exact lexU_range x y
/-- the comparison as Go spells it -/
theorem cmpS_spell (a b : ByteArray) : cmpS a b = if (Op.bytesLess a.toList b.toList) = true then -1 else if (!((Op.bytesLess a.toList b.toList) || (a.toList == b.toList))) = true then 1 else 0 := by
  rw [ByteArray.toList_eq, ByteArray.toList_eq, less_lex, eq_lex]
  unfold cmpS
  rcases lexU_range a.data.toList b.data.toList with h | h | h <;> rw [h] <;> decide
/-- the first number that is not 0 -/
def orL : List Int → Int
  | [] => 0
  | x :: r => if x ≠ 0 then x else orL r
end Go.Proofs.YtmlekplbmfengaaGreat.Sh

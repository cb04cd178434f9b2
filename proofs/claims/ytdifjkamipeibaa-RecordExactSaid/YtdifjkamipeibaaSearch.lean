/- Binary search as a plain program; the windows of records (chapter 14). -/
import Derived.Test.YtdifjkamipeibaaRecS
namespace Go.Proofs.Ytdifjkamipeibaa.Sh
open Go
set_option linter.unusedVariables false
set_option linter.unusedSimpArgs false

theorem half_eq {s : Int} (h0 : 0 ≤ s) (h1 : s ≤ 9223372036854775807) : shrM .u64 (IntKind.u64.wrap (w64 s)) 1 = some (s / 2) := by
  rw [w64_id (by omega) (by omega), u64_id h0 h1]
  unfold shrM
  rw [if_neg (by decide)]
  have : (2 : Int) ^ min (1 : Int).toNat IntKind.u64.bits = 2 := by decide
  rw [this, Int.fdiv_eq_ediv_of_nonneg _ (by decide)]

/-- the first index at which a predicate that stays true is true -/
theorem search_spec (p : Nat → Bool) (f : Int → Option Bool) (n : Nat) (hn : n ≤ 1000000000) (hf : ∀ i : Nat, i < n → f (i : Int) = some (p i)) (hm : ∀ i j, i ≤ j → j < n → p i = true → p j = true) :
    ∃ k : Nat, sort_Search (n : Int) f = some (k : Int) ∧ k ≤ n ∧ (∀ i, i < k → p i = false) ∧ (∀ i, k ≤ i → i < n → p i = true) := by
  unfold sort_Search
  have hw := whileM_inv (body := sort_Search_l1 f) (fun s => ∃ a b : Nat, s = ((a : Int), (b : Int)) ∧ a ≤ b ∧ b ≤ n ∧ (∀ i, i < a → p i = false) ∧ (∀ i, b ≤ i → i < n → p i = true)) (fun s => (s.2 - s.1).toNat)
    (fun e => ∃ k : Nat, e = (k : Int) ∧ k ≤ n ∧ (∀ i, i < k → p i = false) ∧ (∀ i, k ≤ i → i < n → p i = true)) (by
      rintro s ⟨a, b, rfl, hab, hb, h1, h2⟩
      unfold sort_Search_l1
      simp only
      by_cases h : a < b
      · left
        rw [if_pos (decide_eq_true (by omega)), half_eq (by omega) (by omega)]
        simp only [Option.bind]
        obtain ⟨m, hmd⟩ : ∃ m : Nat, ((a : Int) + b) / 2 = m := ⟨_, (Int.toNat_of_nonneg (by omega)).symm⟩
        rw [hmd, w64_id (by omega) (by omega), hf m (by omega)]
        simp only [sort_Search_j1]
        cases hp : p m with
        | true =>
          refine ⟨((a : Int), (m : Int)), by simp, ⟨a, m, rfl, by omega, by omega, h1, fun i hi hin => hm m i hi hin hp⟩, by simp only; omega⟩
        | false =>
          refine ⟨(((m + 1 : Nat) : Int), (b : Int)), ?_, ⟨m + 1, b, rfl, by omega, hb, fun i hi => ?_, h2⟩, by simp only; omega⟩
          · simp only [Bool.not_false, if_true]
            rw [w64_id (by omega) (by omega)]
            rfl
          · cases hq : p i with
            | false => rfl
            | true => rw [hm i m (by omega) (by omega) hq] at hp; cases hp
      · right
        rw [if_neg (by simpa using h)]
        have : a = b := by omega
        subst this
        exact ⟨_, rfl, a, rfl, hb, h1, h2⟩) ((0 : Nat), (n : Int)) ⟨0, n, rfl, by omega, Nat.le_refl _, fun i hi => by omega, fun i h1 h2 => by omega⟩
  obtain ⟨e, he, k, rfl, hk⟩ := hw
  rw [show (0 : Int) = ((0 : Nat) : Int) from rfl, he]
  exact ⟨k, rfl, hk⟩

/-- the first sample at a time or behind it -/
theorem first_spec {r : Record} (h : RF r) (t : Int) : ∃ k : Nat, record_first r 0 t = some (k : Int) ∧ k ≤ r.Samples.length ∧ (∀ i : Nat, i < k → timeR r i < t) ∧ (∀ i : Nat, k ≤ i → i < r.Samples.length → t ≤ timeR r i) := by
  have hl := h.l1
  obtain ⟨k, h1, h2, h3, h4⟩ := search_spec (fun i => decide (t ≤ timeR r i)) (fun y0 => record_first_fn1 y0 r 0 t) r.Samples.length (by omega) (fun i hi => by
    unfold record_first_fn1
    rw [show (i : Int) + 0 = (i : Int) by omega, w64_id (by omega) (by omega), record_time_eq h (by omega) (by omega)]
    rfl) (fun i j hij hj hp => by
      have := h.mono (i := i) (j := j) (by omega)
      simp only [decide_eq_true_eq] at *
      omega)
  refine ⟨k, ?_, h2, fun i hi => by have := h3 i hi; simp at this; omega, fun i hi hin => by have := h4 i hi hin; simpa using this⟩
  unfold record_first
  rw [h1]
  rfl
/-- the samples that end at a time at most -/
theorem last_spec {r : Record} (h : RF r) (t : Int) : ∃ k : Nat, sort_Search (r.Samples.length : Int) (fun y0 => record_Inside_fn1 y0 r t) = some (k : Int) ∧ k ≤ r.Samples.length ∧ (∀ i : Nat, i < k → timeR r (i + 1) ≤ t) ∧ (∀ i : Nat, k ≤ i → i < r.Samples.length → t < timeR r (i + 1)) := by
  have hl := h.l1
  obtain ⟨k, h1, h2, h3, h4⟩ := search_spec (fun i => decide (t < timeR r (i + 1))) (fun y0 => record_Inside_fn1 y0 r t) r.Samples.length (by omega) (fun i hi => by
    unfold record_Inside_fn1
    rw [w64_id (by omega) (by omega), record_time_eq h (by omega) (by omega)]
    rfl) (fun i j hij hj hp => by
      have := h.mono (i := (i : Int) + 1) (j := (j : Int) + 1) (by omega)
      simp only [decide_eq_true_eq] at *
      omega)
  exact ⟨k, h1, h2, fun i hi => by have := h3 i hi; simp at this; omega, fun i hi hin => by have := h4 i hi hin; simpa using this⟩

/-- what is not there -/
abbrev noRec : Record := ⟨⟨ByteArray.empty, ByteArray.empty, ByteArray.empty, ByteArray.empty⟩, 0, 0, ⟨0, 0⟩, 0, 0, 0, []⟩
def partR (r : Record) (a b : Nat) : Record × Bool × Int := if a < b then (subR r a b, true, 0) else (noRec, false, 0)
theorem part_eq {r : Record} (h : RF r) {a b : Nat} (hb : b ≤ r.Samples.length) : record_part r a b = some (partR r a b) := by
  unfold record_part partR
  by_cases hab : a < b
  · rw [if_neg (by simp; omega), sub_eq h (by omega) hb, if_pos hab]
    rfl
  · rw [if_pos (decide_eq_true (by omega)), if_neg hab]
theorem Cut_spec {r : Record} (h : RF r) (f t : Int) : ∃ a b : Nat, record_Cut r f t = some (partR r a b) ∧ a ≤ r.Samples.length ∧ b ≤ r.Samples.length ∧ (∀ i : Nat, i < a → timeR r i < f) ∧ (∀ i : Nat, a ≤ i → i < r.Samples.length → f ≤ timeR r i) ∧
    (∀ i : Nat, i < b → timeR r i < t) ∧ (∀ i : Nat, b ≤ i → i < r.Samples.length → t ≤ timeR r i) := by
  obtain ⟨a, a1, a2, a3, a4⟩ := first_spec h f
  obtain ⟨b, b1, b2, b3, b4⟩ := first_spec h t
  refine ⟨a, b, ?_, a2, b2, a3, a4, b3, b4⟩
  unfold record_Cut
  rw [h.valid, a1, b1]
  simp only [Option.bind, Bool.not_true, Bool.false_eq_true, if_false]
  rw [part_eq h b2]
theorem Inside_spec {r : Record} (h : RF r) (f t : Int) : ∃ a b : Nat, record_Inside r f t = some (partR r a b) ∧ a ≤ r.Samples.length ∧ b ≤ r.Samples.length ∧ (∀ i : Nat, i < a → timeR r i < f) ∧ (∀ i : Nat, a ≤ i → i < r.Samples.length → f ≤ timeR r i) ∧
    (∀ i : Nat, i < b → timeR r (i + 1) ≤ t) ∧ (∀ i : Nat, b ≤ i → i < r.Samples.length → t < timeR r (i + 1)) := by
  obtain ⟨a, a1, a2, a3, a4⟩ := first_spec h f
  obtain ⟨b, b1, b2, b3, b4⟩ := last_spec h t
  refine ⟨a, b, ?_, a2, b2, a3, a4, b3, b4⟩
  unfold record_Inside
  rw [h.valid, a1, b1]
  simp only [Option.bind, Bool.not_true, Bool.false_eq_true, if_false]
  rw [part_eq h b2]

end Go.Proofs.Ytdifjkamipeibaa.Sh

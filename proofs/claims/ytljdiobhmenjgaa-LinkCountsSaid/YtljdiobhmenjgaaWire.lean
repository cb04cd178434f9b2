/- Wires: what is valid, and what a message does to a wire (chapter 9). -/
import Derived.Test.YtljdiobhmenjgaaSh
import Derived.Test.YtljdiobhmenjgaaLoops
import Derived.Test.YtljdiobhmenjgaaSim
import Derived.Test.YtljdiobhmenjgaaDiceN
namespace Go.Proofs.Ytljdiobhmenjgaa.Sh
open Go
set_option linter.unusedVariables false
set_option linter.unusedSimpArgs false

theorem loop_fold {σ S β : Type} (st : σ → Int → S) {body : S → Option (S ⊕ β)} (n : Nat) (I : Nat → σ → Prop) (Q : β → Prop)
    (hstep : ∀ i, i < n → ∀ a, I i a → ∃ a', body (st a (i : Int)) = some (.inl (st a' ((i + 1 : Nat) : Int))) ∧ I (i + 1) a')
    (hend : ∀ a, I n a → ∃ r, body (st a (n : Int)) = some (.inr r) ∧ Q r) (a0 : σ) (h0 : I 0 a0) : ∃ r, whileM body (st a0 0) = some r ∧ Q r :=
  loop_ex (fun k s => ∃ (i : Nat) (a : σ), s = st a (i : Int) ∧ k + i = n ∧ I i a) Q (fun k s ⟨i, a, hs, hk, hI⟩ => by
    subst hs
    by_cases hi : i < n
    · obtain ⟨a', e, h'⟩ := hstep i hi a hI
      exact .inl ⟨_, k - 1, e, ⟨i + 1, a', rfl, by omega, h'⟩, by omega⟩
    · have hin : i = n := by omega
      subst hin
      exact .inr (hend a hI)) n (st a0 0) ⟨0, a0, rfl, by omega, h0⟩
theorem loop_foldE {σ S β : Type} (st : σ → Int → S) {body : S → Option (S ⊕ β)} (n : Nat) (I : Nat → σ → Prop) (Q : β → Prop)
    (hstep : ∀ i, i < n → ∀ a, I i a → (∃ a', body (st a (i : Int)) = some (.inl (st a' ((i + 1 : Nat) : Int))) ∧ I (i + 1) a') ∨ ∃ r, body (st a (i : Int)) = some (.inr r) ∧ Q r)
    (hend : ∀ a, I n a → ∃ r, body (st a (n : Int)) = some (.inr r) ∧ Q r) (a0 : σ) (h0 : I 0 a0) : ∃ r, whileM body (st a0 0) = some r ∧ Q r :=
  loop_ex (fun k s => ∃ (i : Nat) (a : σ), s = st a (i : Int) ∧ k + i = n ∧ I i a) Q (fun k s ⟨i, a, hs, hk, hI⟩ => by
    subst hs
    by_cases hi : i < n
    · rcases hstep i hi a hI with ⟨a', e, h'⟩ | h
      · exact .inl ⟨_, k - 1, e, ⟨i + 1, a', rfl, by omega, h'⟩, by omega⟩
      · exact .inr h
    · have hin : i = n := by omega
      subst hin
      exact .inr (hend a hI)) n (st a0 0) ⟨0, a0, rfl, by omega, h0⟩
theorem w64_n {n : Nat} (h : n ≤ 1000000000000) : w64 ((n : Int) + 1) = ((n + 1 : Nat) : Int) := by rw [w64_id (by omega) (by omega)]; rfl
theorem w64_nat {x : Int} {n : Nat} (h : x = (n : Int)) (hn : n ≤ 9000000000000000000) : w64 x = (n : Int) := by rw [h, w64_id (by omega) (by omega)]
theorem whl {σ β : Type} {b : σ → Option (σ ⊕ β)} {s t : σ} (h : b s = some (.inl t)) : whileM b s = whileM b t := by rw [whileM_eq, h]; rfl
theorem whe {σ β : Type} {b : σ → Option (σ ⊕ β)} {s : σ} {r : β} (h : b s = some (.inr r)) : whileM b s = some r := by rw [whileM_eq, h]; rfl

/-! ### the order of messages -/
theorem or2 (x y : Int) : cmp_Or_int [x, y] = some (if x = 0 then y else x) := by
  unfold cmp_Or_int
  have e0 : ix ([x, y] : List Int) 0 = some x := rfl
  have e1 : ix ([x, y] : List Int) 1 = some y := rfl
  by_cases hx : x = 0
  · have s0 : cmp_Or_int_l2 [x, y] 0 = some (.inl 1) := by
      unfold cmp_Or_int_l2
      rw [if_pos (by simp), e0]
      simp only [Option.bind_some]
      rw [if_neg (by simp [hx])]
      rfl
    by_cases hy : y = 0
    · have s1 : cmp_Or_int_l2 [x, y] 1 = some (.inl 2) := by
        unfold cmp_Or_int_l2
        rw [if_pos (by simp), e1]
        simp only [Option.bind_some]
        rw [if_neg (by simp [hy])]
        rfl
      have s2 : cmp_Or_int_l2 [x, y] 2 = some (.inr 0) := by
        unfold cmp_Or_int_l2
        rw [if_neg (by simp)]
        rfl
      rw [whl s0, whl s1, whe s2, if_pos hx, hy]
    · have s1 : cmp_Or_int_l2 [x, y] 1 = some (.inr y) := by
        unfold cmp_Or_int_l2
        rw [if_pos (by simp), e1]
        simp only [Option.bind_some]
        rw [if_pos (by simp [hy])]
      rw [whl s0, whe s1, if_pos hx]
  · have s0 : cmp_Or_int_l2 [x, y] 0 = some (.inr x) := by
      unfold cmp_Or_int_l2
      rw [if_pos (by simp), e0]
      simp only [Option.bind_some]
      rw [if_pos (by simp [hx])]
    rw [whe s0, if_neg hx]
def tlt (a b : Transit) : Prop := a.At < b.At ∨ (a.At = b.At ∧ a.Order < b.Order)
theorem tlt.trans {a b c : Transit} (h : tlt a b) (h2 : tlt b c) : tlt a c := by unfold tlt at *; omega
/-- numbers that may be taken from each other -/
def Sm (a : Transit) : Prop := (0 ≤ a.At ∧ a.At ≤ 1000000000000000) ∧ (0 ≤ a.Order ∧ a.Order ≤ 1000000000000000)
theorem order_spec {a b : Transit} (ha : Sm a) (hb : Sm b) : ∃ v, link_order a b = some v ∧ (v < 0 ↔ tlt a b) := by
  obtain ⟨⟨a1, a2⟩, a3, a4⟩ := ha
  obtain ⟨⟨b1, b2⟩, b3, b4⟩ := hb
  unfold link_order
  rw [or2, w64_id (x := a.At - b.At) (by omega) (by omega), w64_id (x := a.Order - b.Order) (by omega) (by omega)]
  refine ⟨_, rfl, ?_⟩
  unfold tlt
  split <;> omega

/-! ### what is valid -/
structure WI (now order : Int) (x : Transit) : Prop where
  d : (x.Data.size : Int) ≤ 4096
  a : now + 1 ≤ x.At ∧ x.At ≤ 2199023255552
  o : 0 ≤ x.Order ∧ x.Order ≤ order - 1
structure WV (w : Wire) : Prop where
  n : 0 ≤ w.Now ∧ w.Now ≤ 1099511627776
  o : 0 ≤ w.Order ∧ w.Order ≤ 1099511627776
  l : w.Items.length ≤ 1024
  i : ∀ x ∈ w.Items, WI w.Now w.Order x
  s : w.Items.Pairwise tlt
theorem WI.sm {now order : Int} {x : Transit} (h : WI now order x) (hn : 0 ≤ now) (ho : order ≤ 1099511627776) : Sm x := by
  have := h.a
  have := h.o
  unfold Sm
  omega

theorem adj {l : List Transit} {i : Nat} (hi : i < l.length) (hs : (l.take i).Pairwise tlt) (h : 0 < i → tlt (l[i - 1]'(by omega)) l[i]) : (l.take (i + 1)).Pairwise tlt := by
  rw [take_one hi]
  refine List.pairwise_append.2 ⟨hs, List.pairwise_singleton _ _, fun x hx y hy => ?_⟩
  rcases List.mem_singleton.1 hy with rfl
  obtain ⟨j, hj, rfl⟩ := List.getElem_of_mem hx
  have hj' : j < i := by simp at hj; omega
  rw [List.getElem_take]
  by_cases hji : j = i - 1
  · subst hji; exact h (by omega)
  · have g1 := List.pairwise_iff_getElem.1 hs j (i - 1) (by simp; omega) (by simp; omega) (by omega)
    rw [List.getElem_take, List.getElem_take] at g1
    exact g1.trans (h (by omega))
theorem mem_take_one {α : Type} {l : List α} {i : Nat} (hi : i < l.length) {P : α → Prop} (h : ∀ x ∈ l.take i, P x) (h2 : P l[i]) : ∀ x ∈ l.take (i + 1), P x := fun x hx => by
  rw [take_one hi] at hx
  rcases List.mem_append.1 hx with hx | hx
  · exact h x hx
  · rcases List.mem_singleton.1 hx with rfl; exact h2

theorem head_valid {w : Wire} : (∃ c, link_in w.Now 0 1099511627776 = some c ∧ (c = true ↔ 0 ≤ w.Now ∧ w.Now ≤ 1099511627776)) := ⟨_, rfl, by simp⟩
theorem valid_loop {w : Wire} (hn : 0 ≤ w.Now ∧ w.Now ≤ 1099511627776) (ho : 0 ≤ w.Order ∧ w.Order ≤ 1099511627776) (hl : w.Items.length ≤ 1024) : ∃ c, whileM (link_Valid_l2 w) 0 = some c ∧ (c = true ↔ WV w) := by
  refine loop_foldE (body := link_Valid_l2 w) (fun (_ : Unit) i => i) w.Items.length (fun i _ => (∀ x ∈ w.Items.take i, WI w.Now w.Order x) ∧ (w.Items.take i).Pairwise tlt) (fun c => c = true ↔ WV w) (fun i hi a ⟨hI, hS⟩ => ?_) (fun a ⟨hI, hS⟩ => ?_) () ⟨fun x h => by simp at h, by simp⟩
  · have hm := List.getElem_mem hi
    unfold link_Valid_l2
    rw [if_pos (decide_eq_true (by omega)), ix_nat _ _ hi, w64_n (n := i) (by omega)]
    simp only [Option.bind_some]
    by_cases h1 : (4096 : Int) < (w.Items[i].Data.size : Int)
    · rw [if_pos (decide_eq_true h1)]
      refine .inr ⟨false, rfl, fun h => (by cases h), fun h => ?_⟩
      have := (h.i _ hm).d
      omega
    · rw [if_neg (by simpa using h1)]
      have e1 : link_in w.Items[i].At (w64 (w.Now + 1)) 2199023255552 = some (decide (w.Now + 1 ≤ w.Items[i].At) && decide (w.Items[i].At ≤ 2199023255552)) := by
        unfold link_in; rw [w64_id (by omega) (by omega)]
      have e2 : link_in w.Items[i].Order 0 (w64 (w.Order - 1)) = some (decide (0 ≤ w.Items[i].Order) && decide (w.Items[i].Order ≤ w.Order - 1)) := by
        unfold link_in; rw [w64_id (by omega) (by omega)]
      rw [e1, e2]
      simp only [Option.bind_some]
      by_cases h2 : w.Now + 1 ≤ w.Items[i].At ∧ w.Items[i].At ≤ 2199023255552
      · rw [decide_eq_true h2.1, decide_eq_true h2.2]
        simp only [Bool.and_self, Bool.not_true, Bool.false_eq_true, if_false, Option.bind_some]
        by_cases h3 : 0 ≤ w.Items[i].Order ∧ w.Items[i].Order ≤ w.Order - 1
        · rw [decide_eq_true h3.1, decide_eq_true h3.2]
          simp only [Bool.and_self, Bool.not_true, Bool.false_eq_true, if_false, Option.bind_some]
          have hw : WI w.Now w.Order w.Items[i] := ⟨by omega, h2, h3⟩
          by_cases h0 : 0 < i
          · have e3 : w64 ((i : Int) - 1) = ((i - 1 : Nat) : Int) := w64_nat (by omega) (by omega)
            have hp : WI w.Now w.Order (w.Items[i - 1]'(by omega)) := hI _ (by
              have : i - 1 < (w.Items.take i).length := by simp; omega
              have := List.getElem_mem this
              rw [List.getElem_take] at this
              exact this)
            obtain ⟨v, ev, hv⟩ := order_spec (hp.sm hn.1 ho.2) (hw.sm hn.1 ho.2)
            rw [if_pos (decide_eq_true (by omega)), e3, ix_nat _ (i - 1) (by omega)]
            simp only [Option.bind_some]
            rw [ev]
            simp only [Option.bind_some]
            by_cases h4 : v < 0
            · rw [if_neg (by simp; omega)]
              exact .inl ⟨(), rfl, mem_take_one hi hI hw, adj hi hS (fun _ => hv.1 h4)⟩
            · rw [if_pos (by simp; omega)]
              refine .inr ⟨false, rfl, fun h => (by cases h), fun h => ?_⟩
              exact absurd (hv.2 (List.pairwise_iff_getElem.1 h.s (i - 1) i (by omega) hi (by omega))) h4
          · rw [if_neg (by simp; omega)]
            exact .inl ⟨(), rfl, mem_take_one hi hI hw, adj hi hS (fun h => absurd h h0)⟩
        · have : (decide (0 ≤ w.Items[i].Order) && decide (w.Items[i].Order ≤ w.Order - 1)) = false := by rw [Bool.and_eq_false_iff]; simp; omega
          rw [this]
          simp only [Bool.not_false, if_true, Option.bind_some]
          exact .inr ⟨false, rfl, fun h => (by cases h), fun h => absurd (h.i _ hm).o h3⟩
      · have : (decide (w.Now + 1 ≤ w.Items[i].At) && decide (w.Items[i].At ≤ 2199023255552)) = false := by rw [Bool.and_eq_false_iff]; simp; omega
        rw [this]
        simp only [Bool.not_false, if_true, Option.bind_some]
        exact .inr ⟨false, rfl, fun h => (by cases h), fun h => absurd (h.i _ hm).a h2⟩
  · unfold link_Valid_l2
    rw [if_neg (by simp)]
    rw [List.take_of_length_le (Nat.le_refl _)] at hI hS
    exact ⟨true, rfl, fun _ => ⟨hn, ho, hl, hI, hS⟩, fun _ => rfl⟩
theorem rvalid_loop {w : Wire} (hn : 0 ≤ w.Now ∧ w.Now ≤ 1099511627776) (ho : 0 ≤ w.Order ∧ w.Order ≤ 1099511627776) (hl : w.Items.length ≤ 1024) : ∃ c, whileM (ref09_Valid_l2 w) 0 = some c ∧ (c = true ↔ WV w) := by
  refine loop_foldE (body := ref09_Valid_l2 w) (fun (_ : Unit) i => i) w.Items.length (fun i _ => (∀ x ∈ w.Items.take i, WI w.Now w.Order x) ∧ (w.Items.take i).Pairwise tlt) (fun c => c = true ↔ WV w) (fun i hi a ⟨hI, hS⟩ => ?_) (fun a ⟨hI, hS⟩ => ?_) () ⟨fun x h => by simp at h, by simp⟩
  · have hm := List.getElem_mem hi
    unfold ref09_Valid_l2
    rw [if_pos (decide_eq_true (by omega)), ix_nat _ _ hi, w64_n (n := i) (by omega)]
    simp only [Option.bind_some]
    by_cases h1 : (4096 : Int) < (w.Items[i].Data.size : Int)
    · rw [if_pos (decide_eq_true h1)]
      refine .inr ⟨false, rfl, fun h => (by cases h), fun h => ?_⟩
      have := (h.i _ hm).d
      omega
    · rw [if_neg (by simpa using h1)]
      have e1 : ref01_In w.Items[i].At (w64 (w.Now + 1)) 2199023255552 = some (decide (w.Now + 1 ≤ w.Items[i].At) && decide (w.Items[i].At ≤ 2199023255552)) := by
        unfold ref01_In; rw [w64_id (by omega) (by omega)]
      have e2 : ref01_In w.Items[i].Order 0 (w64 (w.Order - 1)) = some (decide (0 ≤ w.Items[i].Order) && decide (w.Items[i].Order ≤ w.Order - 1)) := by
        unfold ref01_In; rw [w64_id (by omega) (by omega)]
      rw [e1, e2]
      simp only [Option.bind_some]
      by_cases h2 : w.Now + 1 ≤ w.Items[i].At ∧ w.Items[i].At ≤ 2199023255552
      · rw [decide_eq_true h2.1, decide_eq_true h2.2]
        simp only [Bool.and_self, Bool.not_true, Bool.false_eq_true, if_false, Option.bind_some]
        by_cases h3 : 0 ≤ w.Items[i].Order ∧ w.Items[i].Order ≤ w.Order - 1
        · rw [decide_eq_true h3.1, decide_eq_true h3.2]
          simp only [Bool.and_self, Bool.not_true, Bool.false_eq_true, if_false, Option.bind_some]
          have hw : WI w.Now w.Order w.Items[i] := ⟨by omega, h2, h3⟩
          by_cases h0 : 0 < i
          · have e3 : w64 ((i : Int) - 1) = ((i - 1 : Nat) : Int) := w64_nat (by omega) (by omega)
            rw [if_pos (decide_eq_true (by omega)), e3, ix_nat _ (i - 1) (by omega)]
            simp only [Option.bind_some]
            have hbad : ¬ tlt (w.Items[i - 1]'(by omega)) w.Items[i] → ¬ WV w := fun hx h => hx (List.pairwise_iff_getElem.1 h.s (i - 1) i (by omega) hi (by omega))
            by_cases h4 : w.Items[i].At < (w.Items[i - 1]'(by omega)).At
            · rw [if_pos (decide_eq_true h4)]
              exact .inr ⟨false, rfl, fun h => (by cases h), fun h => absurd h (hbad (by unfold tlt; omega))⟩
            · rw [if_neg (by simpa using h4)]
              by_cases h5 : (w.Items[i - 1]'(by omega)).At = w.Items[i].At
              · rw [if_pos (by simpa using h5)]
                by_cases h6 : w.Items[i].Order ≤ (w.Items[i - 1]'(by omega)).Order
                · rw [decide_eq_true h6]
                  exact .inr ⟨false, rfl, fun h => (by cases h), fun h => absurd h (hbad (by unfold tlt; omega))⟩
                · rw [decide_eq_false h6]
                  exact .inl ⟨(), rfl, mem_take_one hi hI hw, adj hi hS (fun _ => by unfold tlt; omega)⟩
              · rw [if_neg (by simpa using h5)]
                exact .inl ⟨(), rfl, mem_take_one hi hI hw, adj hi hS (fun _ => by unfold tlt; omega)⟩
          · rw [if_neg (by simp; omega)]
            exact .inl ⟨(), rfl, mem_take_one hi hI hw, adj hi hS (fun h => absurd h h0)⟩
        · have : (decide (0 ≤ w.Items[i].Order) && decide (w.Items[i].Order ≤ w.Order - 1)) = false := by rw [Bool.and_eq_false_iff]; simp; omega
          rw [this]
          simp only [Bool.not_false, if_true, Option.bind_some]
          exact .inr ⟨false, rfl, fun h => (by cases h), fun h => absurd (h.i _ hm).o h3⟩
      · have : (decide (w.Now + 1 ≤ w.Items[i].At) && decide (w.Items[i].At ≤ 2199023255552)) = false := by rw [Bool.and_eq_false_iff]; simp; omega
        rw [this]
        simp only [Bool.not_false, if_true, Option.bind_some]
        exact .inr ⟨false, rfl, fun h => (by cases h), fun h => absurd (h.i _ hm).a h2⟩
  · unfold ref09_Valid_l2
    rw [if_neg (by simp)]
    rw [List.take_of_length_le (Nat.le_refl _)] at hI hS
    exact ⟨true, rfl, fun _ => ⟨hn, ho, hl, hI, hS⟩, fun _ => rfl⟩
theorem valid_spec (w : Wire) : ∃ c, link_Valid w = some c ∧ ref09_Valid w = some c ∧ (c = true ↔ WV w) := by
  unfold link_Valid ref09_Valid
  have hin : ∀ a b c, ref01_In a b c = link_in a b c := fun _ _ _ => rfl
  rw [hin, hin]
  have e1 : link_in w.Now 0 1099511627776 = some (decide (0 ≤ w.Now) && decide (w.Now ≤ 1099511627776)) := rfl
  have e2 : link_in w.Order 0 1099511627776 = some (decide (0 ≤ w.Order) && decide (w.Order ≤ 1099511627776)) := rfl
  rw [e1, e2]
  simp only [Option.bind_some]
  by_cases h1 : 0 ≤ w.Now ∧ w.Now ≤ 1099511627776
  · rw [decide_eq_true h1.1, decide_eq_true h1.2]
    simp only [Bool.and_self, Bool.not_true, Bool.false_eq_true, if_false, Option.bind_some]
    by_cases h2 : 0 ≤ w.Order ∧ w.Order ≤ 1099511627776
    · rw [decide_eq_true h2.1, decide_eq_true h2.2]
      simp only [Bool.and_self, Bool.not_true, Bool.false_or]
      by_cases h3 : w.Items.length ≤ 1024
      · rw [if_neg (by simp; omega), if_neg (by simp; omega)]
        obtain ⟨c, ec, hc⟩ := valid_loop h1 h2 h3
        obtain ⟨d, ed, hd⟩ := rvalid_loop h1 h2 h3
        have : d = c := by rw [Bool.eq_iff_iff, hc, hd]
        subst this
        exact ⟨d, ec, ed, hc⟩
      · rw [if_pos (by simp; omega), if_pos (by simp; omega)]
        exact ⟨false, rfl, rfl, fun h => (by cases h), fun h => absurd h.l h3⟩
    · have : (decide (0 ≤ w.Order) && decide (w.Order ≤ 1099511627776)) = false := by rw [Bool.and_eq_false_iff]; simp; omega
      rw [this]
      exact ⟨false, rfl, rfl, fun h => (by cases h), fun h => absurd h.o h2⟩
  · have : (decide (0 ≤ w.Now) && decide (w.Now ≤ 1099511627776)) = false := by rw [Bool.and_eq_false_iff]; simp; omega
    rw [this]
    exact ⟨false, rfl, rfl, fun h => (by cases h), fun h => absurd h.n h1⟩

end Go.Proofs.Ytljdiobhmenjgaa.Sh

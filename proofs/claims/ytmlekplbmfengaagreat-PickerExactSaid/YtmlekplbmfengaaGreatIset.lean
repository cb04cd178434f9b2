/- The strictly ascending list of a set, made by insertion: what references do. -/
import Derived.Test.YtmlekplbmfengaaGreatCset
namespace Go.Proofs.YtmlekplbmfengaaGreat.Sh
open Go
set_option linter.unusedVariables false
set_option linter.unusedSimpArgs false
section
variable {α : Type}
/-- where one more goes, from behind -/
theorem down_find {c : α → α → Int} {body : Int → Option (Int ⊕ Int)} (out : List α) (x : α) (hl : out.length ≤ 1000000)
    (hpos : ∀ k : Nat, (h : k < out.length) → body ((k + 1 : Nat) : Int) = if 0 < c out[k] x then some (.inl (k : Int)) else some (.inr ((k + 1 : Nat) : Int))) (h0 : body 0 = some (.inr 0)) :
    ∃ k : Nat, whileM body (out.length : Int) = some (k : Int) ∧ k ≤ out.length ∧ (∀ j (h : j < out.length), k ≤ j → 0 < c out[j] x) ∧ (k = 0 ∨ ∃ h : k - 1 < out.length, 0 < k ∧ c out[k - 1] x ≤ 0) := by
  have key : ∀ m, m ≤ out.length → (∀ j (h : j < out.length), m ≤ j → 0 < c out[j] x) → ∃ k : Nat, whileM body (m : Int) = some (k : Int) ∧ k ≤ out.length ∧ (∀ j (h : j < out.length), k ≤ j → 0 < c out[j] x) ∧ (k = 0 ∨ ∃ h : k - 1 < out.length, 0 < k ∧ c out[k - 1] x ≤ 0) := by
    intro m
    induction m with
    | zero =>
      intro _ h
      rw [whileM_eq, show ((0 : Nat) : Int) = 0 from rfl, h0]
      exact ⟨0, rfl, Nat.zero_le _, h, .inl rfl⟩
    | succ m ih =>
      intro hm h
      rw [whileM_eq, hpos m (by omega)]
      by_cases hc : 0 < c (out[m]'(by omega)) x
      · rw [if_pos hc]
        refine ih (by omega) fun j hj hmj => ?_
        by_cases e : j = m
        · subst e; exact hc
        · exact h j hj (by omega)
      · rw [if_neg hc]
        exact ⟨m + 1, rfl, hm, h, .inr ⟨by simp; omega, by omega, by simp only [Nat.add_sub_cancel]; omega⟩⟩
  exact key out.length (Nat.le_refl _) fun j h1 h2 => by omega
theorem insC_at {c : α → α → Int} (hc : Cmp c) (he : ∀ x y, c x y = 0 → x = y) {out : List α} {x : α} {k : Nat} (hp : out.Pairwise (fun a b => c a b < 0)) (hk : k ≤ out.length)
    (h1 : ∀ j (h : j < out.length), k ≤ j → 0 < c out[j] x) (h2 : k = 0 ∨ ∃ h : k - 1 < out.length, 0 < k ∧ c out[k - 1] x ≤ 0) :
    ((∃ h : k - 1 < out.length, 0 < k ∧ out[k - 1] = x) → insC c x out = out) ∧ ((k = 0 ∨ ∃ h : k - 1 < out.length, 0 < k ∧ out[k - 1] ≠ x) → insC c x out = out.take k ++ x :: out.drop k) := by
  refine ⟨fun ⟨h, _, e⟩ => ?_, fun hne => ?_⟩
  · refine asc_uniq hc (insC_pw hc he hp) hp fun z => ?_
    rw [mem_insC he]
    refine ⟨fun h => ?_, fun h => .inr h⟩
    rcases h with h | h
    · rw [h, ← e]; exact List.getElem_mem _
    · exact h
  · have hpp := List.pairwise_iff_getElem.1 hp
    refine asc_uniq hc (insC_pw hc he hp) ?_ fun z => ?_
    · rw [List.pairwise_append]
      refine ⟨hp.sublist (List.take_sublist _ _), List.pairwise_cons.2 ⟨fun b hb => ?_, hp.sublist (List.drop_sublist _ _)⟩, fun a ha b hb => ?_⟩
      · obtain ⟨j, hj⟩ := List.mem_iff_getElem?.1 hb
        rw [List.getElem?_drop] at hj
        obtain ⟨hjl, hj'⟩ := at_some hj
        have := h1 (k + j) hjl (by omega)
        rw [hj'] at this
        have := hc.anti b x
        omega
      · have hax : c a x < 0 := by
          obtain ⟨j, hj⟩ := List.mem_iff_getElem?.1 ha
          rw [List.getElem?_take] at hj
          split at hj
          · next hjk =>
            obtain ⟨hjl, hj'⟩ := at_some hj
            rcases h2 with h2 | ⟨g1, g2, g3⟩
            · omega
            · have hlt : c (out[k - 1]) x < 0 := by
                rcases Int.lt_or_eq_of_le g3 with h | h
                · exact h
                · rcases hne with hne | ⟨_, _, hne⟩
                  · omega
                  · exact absurd (he _ _ h) hne
              by_cases e : j = k - 1
              · subst e; rw [← hj']; exact hlt
              · have := hpp j (k - 1) hjl g1 (by omega)
                rw [hj'] at this
                exact hc.trans _ _ _ this hlt
          · cases hj
        rcases List.mem_cons.1 hb with e | hb
        · rw [e]; exact hax
        · obtain ⟨i, hi⟩ := List.mem_iff_getElem?.1 ha
          obtain ⟨j, hj⟩ := List.mem_iff_getElem?.1 hb
          rw [List.getElem?_take] at hi
          rw [List.getElem?_drop] at hj
          split at hi
          · obtain ⟨hil, hi'⟩ := at_some hi
            obtain ⟨hjl, hj'⟩ := at_some hj
            have := hpp i (k + j) hil hjl (by omega)
            rw [hi', hj'] at this
            exact this
          · cases hi
    · rw [mem_insC he, List.mem_append, List.mem_cons]
      have : z ∈ out ↔ z ∈ out.take k ∨ z ∈ out.drop k := by rw [← List.mem_append, List.take_append_drop]
      rw [this]
      constructor
      · rintro (h | h | h)
        · exact .inr (.inl h)
        · exact .inl h
        · exact .inr (.inr h)
      · rintro (h | h | h)
        · exact .inr (.inl h)
        · exact .inl h
        · exact .inr (.inr h)
/-- one more at the end, all behind it moved by one, and it written -/
theorem insert_mem {s : List α} {x : α} {e : Nat} (he : e ≤ s.length) (hl : s.length ≤ 100000) :
    subM (s ++ [x]) ((e + 1 : Nat) : Int) ((s ++ [x]).length : Int) = some (s.drop (e + 1) ++ [x].drop (e + 1 - s.length)) ∧ subM (s ++ [x]) (e : Int) ((s ++ [x]).length : Int) = some (s.drop e ++ [x]) ∧
    ∃ q, q = copyM (s ++ [x]) ((e + 1 : Nat) : Int) ((s ++ [x]).length : Int) (s.drop e ++ [x]) ∧ e < q.length ∧ q.set e x = s.take e ++ x :: s.drop e := by
  have hlen : (s ++ [x]).length = s.length + 1 := by simp
  refine ⟨?_, ?_, _, rfl, ?_, ?_⟩
  · rw [sub_at _ _ _ (by omega) (Nat.le_refl _), List.take_of_length_le (Nat.le_refl _), List.drop_append]
  · rw [sub_at _ _ _ (by omega) (Nat.le_refl _), List.take_of_length_le (Nat.le_refl _), List.drop_append_of_le_length he]
  · unfold copyM
    simp only [Int.toNat_natCast, List.length_append, List.length_take, List.length_drop, List.length_cons, List.length_nil]
    omega
  · unfold copyM
    simp only [Int.toNat_natCast]
    have e1 : (s.drop e ++ [x]).take ((s ++ [x]).length - (e + 1)) = s.drop e := by
      rw [hlen, List.take_append_of_le_length (by rw [List.length_drop]; omega), List.take_of_length_le (by rw [List.length_drop]; omega)]
    have e2 : (s ++ [x]).drop (e + 1 + min (s.drop e ++ [x]).length ((s ++ [x]).length - (e + 1))) = [] := by
      apply List.drop_eq_nil_of_le
      simp only [List.length_append, List.length_drop, List.length_cons, List.length_nil]
      omega
    rw [e1, e2, List.append_nil]
    have e3 : (s ++ [x]).take (e + 1) = s.take e ++ [(s ++ [x])[e]'(by omega)] := by
      rw [take_one (by omega), List.take_append_of_le_length he]
    rw [e3, List.append_assoc, List.set_append, if_neg (by rw [List.length_take]; omega)]
    have : e - (s.take e).length = 0 := by rw [List.length_take]; omega
    rw [this]
    rfl
theorem sset_snoc {c : α → α → Int} (hc : Cmp c) (he : ∀ x y, c x y = 0 → x = y) (l : List α) (x : α) : sset c (l ++ [x]) = insC c x (sset c l) := by
  refine asc_uniq hc (sset_pw hc he _) (insC_pw hc he (sset_pw hc he l)) fun z => ?_
  rw [mem_sset he, mem_insC he, mem_sset he, List.mem_append, List.mem_singleton]
  exact Or.comm
end
end Go.Proofs.YtmlekplbmfengaaGreat.Sh

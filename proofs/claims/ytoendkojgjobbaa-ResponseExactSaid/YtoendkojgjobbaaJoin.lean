/- Joined responses as plain programs (chapter 18). -/
import Derived.Test.YtoendkojgjobbaaResp2
namespace Go.Proofs.Ytoendkojgjobbaa.Sh
open Go
set_option linter.unusedVariables false
set_option linter.unusedSimpArgs false

theorem sgrow {n : Int} (h0 : 0 ≤ n) (h : n ≤ 1000000) : slices_Grow_Lapi_Stage_api_Stage_n n = some [] := by
  unfold slices_Grow_Lapi_Stage_api_Stage_n
  have e : w64 (n - w64 (((0 : Nat) : Int) - (([] : List Stage).length : Int))) = n := by
    have e0 : w64 (((0 : Nat) : Int) - (([] : List Stage).length : Int)) = 0 := by decide
    rw [e0, w64_id (by omega) (by omega)]; omega
  have hn : ¬ n < 0 := by omega
  simp only [e, hn, decide_false, Bool.false_eq_true, if_false, Option.bind]
  by_cases h1 : 0 < n
  · have e : subM ([] : List Stage) 0 ((0 : Nat) : Int) = some [] := by simp [subM]
    simp only [h1, decide_true, if_true, e, makeM_at 96 (⟨0, ⟨0, 0, 0⟩, ⟨0, 0, 0⟩, [], 0, 0⟩ : Stage) n h0 (by omega) (by decide)]
    simp [subM, slices_Grow_Lapi_Stage_api_Stage_n_j1, (show 0 ≤ max n 0 by omega)]
  · simp only [h1, decide_false, Bool.false_eq_true, if_false]
    rfl

theorem sconcat (a b : List Stage) (ha : a.length ≤ 100000) (hb : b.length ≤ 100000) : slices_Concat_Lapi_Stage_api_Stage [a, b] = some (a ++ b) := by
  unfold slices_Concat_Lapi_Stage_api_Stage
  have w1 : w64 1 = 1 := by decide
  have w2 : w64 2 = 2 := by decide
  have wa : w64 (a.length : Int) = a.length := w64_id (by omega) (by omega)
  have wab : w64 ((a.length : Int) + b.length) = a.length + b.length := w64_id (by omega) (by omega)
  have na : ¬ ((a.length : Int) < 0) := by omega
  have nab : ¬ ((a.length : Int) + b.length < 0) := by omega
  have e1 : whileM (slices_Concat_Lapi_Stage_api_Stage_l1 [a, b]) (0, 0) = some ((a.length : Int) + b.length) := by
    rw [whileM_eq]
    simp only [slices_Concat_Lapi_Stage_api_Stage_l1, ix, Option.bind]
    simp [w1, wa, na]
    rw [whileM_eq]
    simp only [slices_Concat_Lapi_Stage_api_Stage_l1, ix, Option.bind]
    simp [w2, wab, nab]
    rw [whileM_eq]
    simp [slices_Concat_Lapi_Stage_api_Stage_l1]
  rw [e1]
  simp only [Option.bind]
  rw [sgrow (by omega) (by omega)]
  simp only
  have e2 : whileM (slices_Concat_Lapi_Stage_api_Stage_l2 [a, b]) ([], 0) = some (a ++ b) := by
    rw [whileM_eq]
    simp only [slices_Concat_Lapi_Stage_api_Stage_l2, ix, Option.bind]
    simp [w1, appM_one 96 [] a (by simp; omega) (by decide)]
    rw [whileM_eq]
    simp only [slices_Concat_Lapi_Stage_api_Stage_l2, ix, Option.bind]
    simp [w2, appM_one 96 a b (by omega) (by decide)]
    rw [whileM_eq]
    simp [slices_Concat_Lapi_Stage_api_Stage_l2]
  rw [e2]


theorem iclone (s : List Int) (h : s.length ≤ 1000000) : slices_Clone_Lint_int s = some s := by
  unfold slices_Clone_Lint_int
  rw [appM_one _ _ _ (by simpa using h) (by decide)]
  rfl
theorem sclone (s : List Stage) (h : s.length ≤ 1000000) : slices_Clone_Lapi_Stage_api_Stage s = some s := by
  unfold slices_Clone_Lapi_Stage_api_Stage
  rw [appM_one _ _ _ (by simpa using h) (by decide)]
  rfl
theorem SG.taps {s : Stage} (h : SG s) : s.Taps.length ≤ 128 := by
  rcases h with h | h | h
  · rw [h.t]; decide
  · rw [h.t]; decide
  · exact h.l1
theorem copied_spec {l : List Stage} (hl : l.length ≤ 1000) (h : ∀ s ∈ l, SG s) : response_copied l = some l := by
  unfold response_copied
  rw [sclone _ (by omega)]
  simp only [Option.bind]
  have hw : whileM (response_copied_l1 l) (l, 0) = some l := by
    refine whileM_for' (fun i => (l, (i : Int))) l.length _ rfl (fun i hi => ?_) ?_
    · have ht := (h _ (List.getElem_mem hi)).taps
      unfold response_copied_l1
      simp only
      rw [if_pos (decide_eq_true (by omega)), ix_nat _ _ hi]
      simp only [Option.bind]
      rw [iclone _ (by omega)]
      simp only
      rw [setM_at _ _ _ (by omega) (by omega), w64_id (by omega) (by omega)]
      simp only [Int.toNat_natCast]
      have : l.set i (⟨l[i].Kind, l[i].Num, l[i].Den, l[i].Taps, l[i].Factor, l[i].Shift⟩ : Stage) = l := List.set_getElem_self hi
      rw [this]; rfl
    · unfold response_copied_l1
      simp only
      rw [if_neg (by simp)]
  rw [hw]
theorem Join_spec {a b : List Stage} (ha : ∀ s ∈ a, SG s) (hb : ∀ s ∈ b, SG s) (a8 : a.length ≤ 8) (a6 : fac a ≤ 64) (b8 : b.length ≤ 8) (b6 : fac b ≤ 64) :
    response_Join ⟨a⟩ ⟨b⟩ = some (if (a ++ b).length ≤ 8 ∧ fac (a ++ b) ≤ 64 then (⟨a ++ b⟩, 0) else (⟨[]⟩, 8)) := by
  have hab : ∀ s ∈ a ++ b, SG s := fun s hs => by
    rcases List.mem_append.1 hs with h | h
    · exact ha s h
    · exact hb s h
  have hl : (a ++ b).length ≤ 16 := by simp; omega
  unfold response_Join
  rw [rvalid_spec (by omega) ha, rvalid_spec (by omega) hb, decide_eq_true ⟨a8, a6⟩, decide_eq_true ⟨b8, b6⟩]
  simp only [Option.bind, Bool.not_true, Bool.false_eq_true, if_false]
  rw [sconcat _ _ (by omega) (by omega)]
  simp only
  rw [copied_spec (by omega) hab]
  simp only
  rw [rvalid_spec (by omega) hab]
  simp only
  by_cases hc : (a ++ b).length ≤ 8 ∧ fac (a ++ b) ≤ 64
  · rw [decide_eq_true hc, if_pos hc]; rfl
  · rw [decide_eq_false hc, if_neg hc]; rfl

end Go.Proofs.Ytoendkojgjobbaa.Sh

/- Opening structs that came in. No Go program is named here. -/
import Derived.Test.YtmlekplbmfengaaGreatLibG
namespace Go.Proofs.YtmlekplbmfengaaGreat.Wk
open Go Go.RowKit Go.Proofs.YtmlekplbmfengaaGreat.Sh
open Go.ChangeShapes Go.WideShapes Go.ChangeAt
set_option linter.unusedVariables false
theorem okWide_cells {P : Program} {W : World} {base : Nat} {t : TypeId} {v : Value} {fs : Array Field} (ht : P.underlying t = some (.struct fs)) (h : Value.okWide P W .any base t v) {n : Nat} (hn : P.cellsOf t = n)
    {ts : List TypeId} (hts : P.cellTypes P.depth t = some ts) (hl : ts.length = n) :
    ∃ l : List Value, v = .agg ⟨l⟩ ∧ l.length = n ∧ ∀ (i : Nat) (c : Value) (u : TypeId), l[i]? = some c → ts[i]? = some u → Cell.okWide P W .any base u c := by
  simp only [Value.okWide, ht] at h
  obtain ⟨⟨l⟩, rfl, hs, ts', hts', _, hc⟩ := h
  rw [hts] at hts'
  cases hts'
  have hsz : l.length = n := by rw [← hn]; exact hs
  refine ⟨l, rfl, hsz, fun i c u hi hu => ?_⟩
  obtain ⟨u', hu', h'⟩ := hc i c (by simpa using hi)
  have hlt : i < ts.length := (List.getElem?_eq_some_iff.1 hu).1
  rw [Nat.mod_eq_of_lt hlt, hu] at hu'
  cases hu'
  exact h'
theorem peel {l : List Value} {n : Nat} (h : l.length = n + 1) : ∃ a l', l = a :: l' ∧ l'.length = n := by
  cases l with
  | nil => cases h
  | cons a l' => exact ⟨a, l', rfl, by simpa using h⟩
theorem peel0 {l : List Value} (h : l.length = 0) : l = [] := List.eq_nil_of_length_eq_zero h
end Go.Proofs.YtmlekplbmfengaaGreat.Wk

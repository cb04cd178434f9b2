/- Opening structs that came in. No Go program is named here. -/
import Derived.Test.YthdimlepjpnncaaGreatLibG
namespace Go.Proofs.YthdimlepjpnncaaGreat.Wk
open Go Go.RowKit Go.Proofs.YthdimlepjpnncaaGreat.Sh
open Go.ChangeShapes Go.WideShapes Go.ChangeAt
set_option linter.unusedVariables false

theorem okWide_cells {P : Program} {W : World} {base : Nat} {t : TypeId} {v : Value} {fs : Array Field} (ht : P.underlying t = some (.struct fs)) (h : Value.okWide P W .any base t v) {n : Nat} (hn : P.cellsOf t = n)
    {ts : List TypeId} (hts : P.cellTypes P.depth t = some ts) (hl : ts.length = n) :
    ∃ l : List Value, v = .agg ⟨l⟩ ∧ l.length = n ∧ ∀ (i : Nat) (c : Value) (u : TypeId), l[i]? = some c → ts[i]? = some u → Cell.okWide P W .any base u c := by
  simp only [Value.okWide, ht] at h
  obtain ⟨⟨l⟩, rfl, hs, ts', hts', _, hc⟩ := h
  rw [hts] at hts'
  cases hts'
  have hsz : l.length = n := by rw [← hn]; exact hs
  refine ⟨l, rfl, hsz, fun i c u hi hu => ?_⟩
  obtain ⟨u', hu', h'⟩ := hc i c (by simpa using hi)
  have hlt : i < ts.length := (List.getElem?_eq_some_iff.1 hu).1
  rw [Nat.mod_eq_of_lt hlt, hu] at hu'
  cases hu'
  exact h'

theorem cell_int {P : Program} {W : World} {base : Nat} {u : TypeId} {c : Value} {k : IntKind} (hu : P.underlying u = some (.int k)) (h : Cell.okWide P W .any base u c) : ∃ n, c = .int k n ∧ k.min ≤ n ∧ n ≤ k.max := by
  cases c <;> simp_all [Cell.okWide, Cell.ok]
  exact h.2
theorem cell_bool {P : Program} {W : World} {base : Nat} {u : TypeId} {c : Value} (hu : P.underlying u = some .bool) (h : Cell.okWide P W .any base u c) : ∃ b, c = .bool b := by
  cases c <;> simp_all [Cell.okWide, Cell.ok]
theorem cell_string {P : Program} {W : World} {base : Nat} {u : TypeId} {c : Value} (hu : P.underlying u = some .string) (h : Cell.okWide P W .any base u c) : ∃ s, c = .string s ∧ (s.size : Int) ≤ IntKind.i64.max := by
  cases c <;> simp_all [Cell.okWide, Cell.ok]
theorem cell_slice {P : Program} {W : World} {base : Nat} {u e : TypeId} {c : Value} (hu : P.underlying u = some (.slice e)) (h : Cell.okWide P W .any base u c) :
    ∃ a len cap, c = .slice a len cap ∧ Value.okWide P W .any base u (.slice a len cap) := by
  have hv : Value.okWide P W .any base u c := by simp only [Value.okWide, hu]; exact h
  obtain ⟨a, len, cap, rfl⟩ := okWide_slice hu hv
  exact ⟨a, len, cap, rfl, hv⟩

theorem peel {l : List Value} {n : Nat} (h : l.length = n + 1) : ∃ a l', l = a :: l' ∧ l'.length = n := by
  cases l with
  | nil => cases h
  | cons a l' => exact ⟨a, l', rfl, by simpa using h⟩
theorem peel0 {l : List Value} (h : l.length = 0) : l = [] := List.eq_nil_of_length_eq_zero h

theorem trod_field {P : Program} {H : Type} {enc : TypeId × Value → H} {w : World} {base : Nat} {spare : Nat → Bool} {held : Bool} {fuel : Nat} {t : TypeId} {cs : List Value} {x : DataW H × List MemPlace} {fs : Array Field}
    (ht : P.underlying t = some (.struct fs)) (h : DataW.trod enc P w base spare held fuel t cs = some x) {i : Nat} {f : Field} (hi : fs[i]? = some f) {ft o n : Nat} (e1 : f.type = ft) (e2 : f.offset = o) (e3 : P.cellsOf ft = n) :
    ∃ m y, DataW.trod enc P w base spare held m ft ((cs.drop o).take n) = some y := by
  obtain ⟨xs, m, _, _, _, hl, hf⟩ := DataW.trod_struct ht h
  subst e1; subst e2; subst e3
  have hlt : i < xs.length := by rw [hl]; exact (Array.getElem?_eq_some_iff.1 hi).1
  exact ⟨m, xs[i], by rw [hf i f hi]; simp [hlt]⟩

end Go.Proofs.YthdimlepjpnncaaGreat.Wk

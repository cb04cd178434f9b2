/- Sorted lists as partial values: what slices.SortFunc makes of a list, by the library's own plain sort. No Go program is named here. -/
import Derived.Test.YtmlekplbmfengaaGreatLibS
import Derived.Sort.AssemblyPlain
import Derived.Lib.BitFns
namespace Go.Proofs.YtmlekplbmfengaaGreat.Sh
open Go
section
variable {α : Type}
/-- the comparison at two of the list -/
def cfX (x : List α) (cmp : α → α → Option Int) (a b : {y // y ∈ x}) : Int := (cmp a.1 b.1).getD 0
def ltX (x : List α) (cmp : α → α → Option Int) (a b : {y // y ∈ x}) : Bool := decide (cfX x cmp a b < 0)
structure SortOK (x : List α) (cmp : α → α → Option Int) : Prop where
  run : ∀ a b : {y // y ∈ x}, cmp a.1 b.1 = some (cfX x cmp a b)
  ord : Go.Sort.SWO (ltX x cmp)
  len : x.length < 1000000000000
/-- sorted; which of two equals comes first is as in Go -/
def pdqI (x : List α) (cmp : α → α → Option Int) [Inhabited {y // y ∈ x}] : Array {y // y ∈ x} :=
  Go.Sort.pdq (ltX x cmp) x.attach.toArray 0 x.attach.toArray.size (Lib.bitLen x.attach.toArray.size) true true
def pdqX (x : List α) (cmp : α → α → Option Int) (h : x ≠ []) : List α := (@pdqI α x cmp ⟨⟨x.head h, List.head_mem h⟩⟩).toList.map (·.1)
open Classical in
noncomputable def sortP (x : List α) (cmp : α → α → Option Int) : Option (List α) :=
  if h : x = [] then some [] else if SortOK x cmp then some (pdqX x cmp h) else none
/-- sorted from a to b -/
def SR (lt : α → α → Bool) (a b : Nat) (l : List α) : Prop := ∀ i j x y, a ≤ i → i < j → j < b → l[i]? = some x → l[j]? = some y → lt y x = false
theorem some_at {l : List α} {i : Nat} (h : i < l.length) : l[i]? = some l[i] := List.getElem?_eq_getElem h
theorem at_some {l : List α} {i : Nat} {x : α} (h : l[i]? = some x) : ∃ hi : i < l.length, l[i] = x := List.getElem?_eq_some_iff.1 h
theorem pdqI_spec {cmp : α → α → Option Int} {x : List α} [Inhabited {y // y ∈ x}] (ho : SortOK x cmp) (lt : α → α → Bool) (hlt : ∀ a b : {y // y ∈ x}, ltX x cmp a b = lt a.1 b.1) : ((pdqI x cmp).toList.map (·.1)).Perm x ∧ SR lt 0 x.length ((pdqI x cmp).toList.map (·.1)) := by
  have hs := Go.Sort.pdq_sorts (ltX x cmp) ho.ord x.attach.toArray 0 x.attach.toArray.size (Lib.bitLen x.attach.toArray.size) true true (Nat.zero_le _) (Nat.le_refl _) (Or.inl rfl)
  have hs : Go.Sort.PermIn 0 x.attach.toArray.size x.attach.toArray (pdqI x cmp) ∧ Go.Sort.SortedIn (ltX x cmp) 0 x.attach.toArray.size (pdqI x cmp) := hs
  obtain ⟨D, hD⟩ : ∃ D, pdqI x cmp = D := ⟨_, rfl⟩
  rw [hD] at hs ⊢
  have hsz : x.attach.toArray.size = x.length := by simp
  obtain ⟨⟨h1, h2, h3⟩, h4⟩ := hs
  have hsz2 : D.size = x.length := h1.trans hsz
  refine ⟨?_, fun i j u v _ hij hj hu hv => ?_⟩
  · have e1 : ∀ d : Array {y // y ∈ x}, d.size = x.attach.toArray.size → d.extract 0 x.attach.toArray.size = d := fun d hd => by rw [← hd]; simp
    rw [e1 _ h1, e1 _ rfl] at h3
    have := h3.map (·.1)
    have e2 : x.attach.toArray.toList.map (·.1) = x := by simp
    rw [e2] at this
    exact this
  · rw [List.getElem?_map] at hu hv
    simp only [Array.getElem?_toList] at hu hv
    have e1 := h4 i j (Nat.zero_le _) hij (by rw [hsz]; exact hj)
    rw [getElem!_pos D j (by omega), getElem!_pos D i (by omega), hlt] at e1
    rw [Array.getElem?_eq_getElem (show i < D.size by omega)] at hu
    rw [Array.getElem?_eq_getElem (show j < D.size by omega)] at hv
    simp only [Option.map_some, Option.some.injEq] at hu hv
    rw [← hu, ← hv]
    exact e1
theorem pdqX_spec {cmp : α → α → Option Int} {x : List α} (h : x ≠ []) (ho : SortOK x cmp) (lt : α → α → Bool) (hlt : ∀ a b : {y // y ∈ x}, ltX x cmp a b = lt a.1 b.1) : (pdqX x cmp h).Perm x ∧ SR lt 0 x.length (pdqX x cmp h) :=
  @pdqI_spec α cmp x ⟨⟨x.head h, List.head_mem h⟩⟩ ho lt hlt
end
end Go.Proofs.YtmlekplbmfengaaGreat.Sh

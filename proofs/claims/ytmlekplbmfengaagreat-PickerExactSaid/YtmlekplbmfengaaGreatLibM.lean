/- A library for walks over any program: maps of the call's own, by integer keys, with plain elements. No statement of the seat is used here. -/
import Derived.Test.YtmlekplbmfengaaGreatLibC
namespace Go.Proofs.YtmlekplbmfengaaGreat.Wk
open Go Go.RowKit Go.Proofs.YtmlekplbmfengaaGreat.Sh
open Go.ChangeMaps Go.MapKept
open Go.WideElems (Fit rd rg pl rd_val elemAt)
open Go.Maps (Keyed)
set_option linter.unusedSimpArgs false
set_option linter.unusedVariables false
/-- how the elements of a map read -/
class MpRd (α : Type) extends MpEl α where
  und : TypeDesc
  rdm : ∀ {P : Program} {e : TypeId} {v : α}, P.underlying e = some und → MpEl.ok v = true → plainElem (H := Unit) P e (MpEl.val v) = some (.lit (MpEl.lit v), [])
  inv : ∀ {P : Program} {e : TypeId} {u : Value} {v : α} {ps : List MemPlace}, P.underlying e = some und → plainElem (H := Unit) P e u = some (.lit (MpEl.lit v), ps) → u = MpEl.val v
instance : MpRd Int where
  und := .int .i64
  rdm := fun he ho => plainElem_int he (by simpa [MpEl.ok, Lit.wf, IntKind.min, IntKind.max, IntKind.signed, IntKind.bits] using ho)
  inv := fun he h => by
    obtain ⟨a, rfl, hz, _⟩ := plainElem_int_inv he h
    simp only [Prod.mk.injEq, DataW.lit.injEq, MpEl.lit, Lit.int.injEq, true_and] at hz
    rw [hz.1]; rfl
instance : MpRd Bool where
  und := .bool
  rdm := fun he _ => plainElem_bool he _
  inv := fun {P e u v ps} he h => by
    unfold plainElem at h
    rw [he] at h
    cases u <;> simp [MpEl.lit] at h
    rw [h.1]; rfl
section steps
variable {P : Program} {ops : Array Oper} {Q : Exit → Act → World → Prop} {rest : List Oper} {N : Nat} {L : Slots} {a : Act} {w : World} {fx : Fx} {S : Nat → Prop} {R : List Res} {E : List Asrt}
variable {ty : TypeId} {pos : String} {af : Array Edge} {g : Option (Nat × Bool)} {d : Nat}
end steps
end Go.Proofs.YtmlekplbmfengaaGreat.Wk

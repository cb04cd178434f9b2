/-
  No cell of these rows narrows 'for every input' (looked for: loops, veiled, ifaces, maps, wideKeys, modest, calm, conditions, laid).
  DERIVED. THE GIVEN ROWS OF THIS SEAT. 6 by the template 'for every input the law returns true; each argument reads behind the call as it read before'; 0 by the template 'total and deterministic' (their statements: YteanekphncdhiaaGreatTotals.lean).
  GIVEN WITH THE SEED: the statements are not yours to turn. If you find one false, say at which input.
  Laid BY PROGRAM, IN A SANDBOX (cutbox-rows.mjs): the forced cells as the released guide's own fill.sh prints them over the translation cf34174cb66faf78… (all of the seat's roots in one cut). By AI agents, Wed Nov 11 2026. No macro, syntax, notation, axiom, sorry.
-/
import Derived.Test.YteanekphncdhiaaGreatChecked
import GoSem.Claim
import GoSem.ClaimJoined
import GoSem.ClaimMapViews
import Derived.JoinedTies
import Derived.KernelRfl
namespace Go.Proofs.YteanekphncdhiaaGreat
/- THE CELL 'sum', in the pinned program and in every row, IS THE sha256 OF THE DUMP (.gsa) THAT YteanekphncdhiaaGreatProg.lean LOADS. Nothing in Lean hashes anything: it is a label: what it is worth is what the hold of that sum in a sandbox is worth. -/
noncomputable def Tryz.pinned : Pinned := { name := "yteanekphncdhiaagreat", sum := "cf34174cb66faf78967c10e36ec9cb039cbd2e04c1473093cee58841784c4dab", checked := Tryz.checked }
namespace Rows
def none {H : Type} : Left H := { results := [], args := [] }

/-- 'seismonetlaw20.RevisionBounds': WHATEVER THE INPUT: true; the input reads as it did. -/
def revisionBoundsSpec : ChangeSpec := { name := "revisionBounds", fn := fun _ => fun
  | [d] => { results := [.lit (.bool true)], args := [d] }
  | _ => none }
def revisionBoundsRow : OpenClaim := { program := "yteanekphncdhiaagreat", sum := "cf34174cb66faf78967c10e36ec9cb039cbd2e04c1473093cee58841784c4dab", func := "seismonet/seismonetlaw20.RevisionBounds", spec := "revisionBounds", inPlace := ["slices.overlaps[seismonet/api.Channel]"], unfollowed := true, recurses := true, plainKeys := false, apart := false }
def RevisionBoundsSaid : Prop := revisionBoundsRow.holds Tryz.pinned (OpenSpec.ofChange revisionBoundsSpec)

/-- ITS FALSE NEIGHBOUR: 'it returns false'. Refute it at one input. -/
def revisionBoundsWrong : ChangeSpec := { name := "revisionBounds", fn := fun _ => fun
  | [d] => { results := [.lit (.bool false)], args := [d] }
  | _ => none }
def RevisionBoundsWrongFalsely : Prop := revisionBoundsRow.holds Tryz.pinned (OpenSpec.ofChange revisionBoundsWrong)

/-- 'seismonetlaw20.RevisionApart': WHATEVER THE INPUT: true; the input reads as it did. -/
def revisionApartSpec : ChangeSpec := { name := "revisionApart", fn := fun _ => fun
  | [d] => { results := [.lit (.bool true)], args := [d] }
  | _ => none }
def revisionApartRow : OpenClaim := { program := "yteanekphncdhiaagreat", sum := "cf34174cb66faf78967c10e36ec9cb039cbd2e04c1473093cee58841784c4dab", func := "seismonet/seismonetlaw20.RevisionApart", spec := "revisionApart", inPlace := ["slices.overlaps[seismonet/api.Channel]"], unfollowed := true, recurses := true, plainKeys := false, apart := false }
def RevisionApartSaid : Prop := revisionApartRow.holds Tryz.pinned (OpenSpec.ofChange revisionApartSpec)

/-- ITS FALSE NEIGHBOUR: 'it returns false'. Refute it at one input. -/
def revisionApartWrong : ChangeSpec := { name := "revisionApart", fn := fun _ => fun
  | [d] => { results := [.lit (.bool false)], args := [d] }
  | _ => none }
def RevisionApartWrongFalsely : Prop := revisionApartRow.holds Tryz.pinned (OpenSpec.ofChange revisionApartWrong)

/-- 'seismonetlaw20.RevisionAffected': WHATEVER THE INPUT: true; the input reads as it did. -/
def revisionAffectedSpec : ChangeSpec := { name := "revisionAffected", fn := fun _ => fun
  | [d1, d2] => { results := [.lit (.bool true)], args := [d1, d2] }
  | _ => none }
def revisionAffectedRow : OpenClaim := { program := "yteanekphncdhiaagreat", sum := "cf34174cb66faf78967c10e36ec9cb039cbd2e04c1473093cee58841784c4dab", func := "seismonet/seismonetlaw20.RevisionAffected", spec := "revisionAffected", inPlace := ["slices.overlaps[seismonet/api.Channel]"], unfollowed := true, recurses := true, plainKeys := false, apart := false }
def RevisionAffectedSaid : Prop := revisionAffectedRow.holds Tryz.pinned (OpenSpec.ofChange revisionAffectedSpec)

/-- ITS FALSE NEIGHBOUR: 'it returns false'. Refute it at one input. -/
def revisionAffectedWrong : ChangeSpec := { name := "revisionAffected", fn := fun _ => fun
  | [d1, d2] => { results := [.lit (.bool false)], args := [d1, d2] }
  | _ => none }
def RevisionAffectedWrongFalsely : Prop := revisionAffectedRow.holds Tryz.pinned (OpenSpec.ofChange revisionAffectedWrong)

/-- 'seismonetlaw20.RevisionLaws': WHATEVER THE INPUT: true; the input reads as it did. -/
def revisionLawsSpec : ChangeSpec := { name := "revisionLaws", fn := fun _ => fun
  | [d] => { results := [.lit (.bool true)], args := [d] }
  | _ => none }
def revisionLawsRow : OpenClaim := { program := "yteanekphncdhiaagreat", sum := "cf34174cb66faf78967c10e36ec9cb039cbd2e04c1473093cee58841784c4dab", func := "seismonet/seismonetlaw20.RevisionLaws", spec := "revisionLaws", inPlace := ["slices.overlaps[seismonet/api.Channel]"], unfollowed := true, recurses := true, plainKeys := false, apart := false }
def RevisionLawsSaid : Prop := revisionLawsRow.holds Tryz.pinned (OpenSpec.ofChange revisionLawsSpec)

/-- ITS FALSE NEIGHBOUR: 'it returns false'. Refute it at one input. -/
def revisionLawsWrong : ChangeSpec := { name := "revisionLaws", fn := fun _ => fun
  | [d] => { results := [.lit (.bool false)], args := [d] }
  | _ => none }
def RevisionLawsWrongFalsely : Prop := revisionLawsRow.holds Tryz.pinned (OpenSpec.ofChange revisionLawsWrong)

/-- 'seismonetlaw20.RevisionUndone': WHATEVER THE INPUT: true; the input reads as it did. -/
def revisionUndoneSpec : ChangeSpec := { name := "revisionUndone", fn := fun _ => fun
  | [d] => { results := [.lit (.bool true)], args := [d] }
  | _ => none }
def revisionUndoneRow : OpenClaim := { program := "yteanekphncdhiaagreat", sum := "cf34174cb66faf78967c10e36ec9cb039cbd2e04c1473093cee58841784c4dab", func := "seismonet/seismonetlaw20.RevisionUndone", spec := "revisionUndone", inPlace := ["slices.overlaps[seismonet/api.Channel]"], unfollowed := true, recurses := true, plainKeys := false, apart := false }
def RevisionUndoneSaid : Prop := revisionUndoneRow.holds Tryz.pinned (OpenSpec.ofChange revisionUndoneSpec)

/-- ITS FALSE NEIGHBOUR: 'it returns false'. Refute it at one input. -/
def revisionUndoneWrong : ChangeSpec := { name := "revisionUndone", fn := fun _ => fun
  | [d] => { results := [.lit (.bool false)], args := [d] }
  | _ => none }
def RevisionUndoneWrongFalsely : Prop := revisionUndoneRow.holds Tryz.pinned (OpenSpec.ofChange revisionUndoneWrong)

/-- 'seismonetlaw20.RevisionExact': WHATEVER THE INPUT: true; the input reads as it did. -/
def revisionExactSpec : ChangeSpec := { name := "revisionExact", fn := fun _ => fun
  | [d1, d2, d3, d4, d5, d6] => { results := [.lit (.bool true)], args := [d1, d2, d3, d4, d5, d6] }
  | _ => none }
def revisionExactRow : OpenClaim := { program := "yteanekphncdhiaagreat", sum := "cf34174cb66faf78967c10e36ec9cb039cbd2e04c1473093cee58841784c4dab", func := "seismonet/seismonetlaw20.RevisionExact", spec := "revisionExact", inPlace := ["slices.overlaps[seismonet/api.Channel]"], unfollowed := true, recurses := true, plainKeys := false, apart := false }
def RevisionExactSaid : Prop := revisionExactRow.holds Tryz.pinned (OpenSpec.ofChange revisionExactSpec)

/-- ITS FALSE NEIGHBOUR: 'it returns false'. Refute it at one input. -/
def revisionExactWrong : ChangeSpec := { name := "revisionExact", fn := fun _ => fun
  | [d1, d2, d3, d4, d5, d6] => { results := [.lit (.bool false)], args := [d1, d2, d3, d4, d5, d6] }
  | _ => none }
def RevisionExactWrongFalsely : Prop := revisionExactRow.holds Tryz.pinned (OpenSpec.ofChange revisionExactWrong)

/- THE SECOND FORM. 'bulk': how many values and letters a reading holds, each counted each time it is reached (what is shared counts as often as it is met; a slice's spare places count too). A statement '..UptoSaid' is the law's where the arguments, and the package variables that the reading takes, are together of bulk at most 1048576: NARROWER than '..Said'. Prove '..Said' where nothing that the law and all that it calls make is longer than what came in: it says more and counts as full. Else prove '..UptoSaid'. A law counts once. -/
mutual
def uptoBulk {H : Type} : DataW H → Nat
  | .lit (.string bytes) => bytes.length + 1
  | .lit _ => 1
  | .nil => 1
  | .ptr d => uptoBulk d + 1
  | .slice elems spare => uptoBulkAll elems + uptoBulkAll spare + 1
  | .agg parts => uptoBulkAll parts + 1
  | .iface _ d => uptoBulk d + 1
  | .map entries => uptoBulkEntries entries + 1
  | .held _ => 1
def uptoBulkAll {H : Type} : List (DataW H) → Nat
  | [] => 0
  | d :: r => uptoBulk d + uptoBulkAll r
def uptoBulkEntries {H : Type} : List (Lit × DataW H) → Nat
  | [] => 0
  | x :: r => uptoBulkEntry x + uptoBulkEntries r
def uptoBulkEntry {H : Type} : Lit × DataW H → Nat
  | (.string bytes, d) => bytes.length + uptoBulk d + 1
  | (_, d) => uptoBulk d + 1
 end
def uptoSmall : (H : Type) → List (DataW H) → Bool := fun _ ds => decide (uptoBulkAll ds ≤ 1048576)
def OpenSpec.upto (s : _root_.Go.ChangeSpec) : _root_.Go.OpenSpec := { _root_.Go.OpenSpec.ofChange s with cond := some uptoSmall }

/-- 'seismonetlaw20.RevisionBounds', WHERE WHAT IT READS IS OF BULK AT MOST 1048576: true; the input reads as it did. -/
def revisionBoundsUptoRow : OpenClaim := { program := "yteanekphncdhiaagreat", sum := "cf34174cb66faf78967c10e36ec9cb039cbd2e04c1473093cee58841784c4dab", func := "seismonet/seismonetlaw20.RevisionBounds", spec := "revisionBounds", inPlace := ["slices.overlaps[seismonet/api.Channel]"], unfollowed := true, recurses := true, plainKeys := false, apart := false, narrowed := true }
def RevisionBoundsUptoSaid : Prop := revisionBoundsUptoRow.holds Tryz.pinned (OpenSpec.upto revisionBoundsSpec)

/-- 'seismonetlaw20.RevisionApart', WHERE WHAT IT READS IS OF BULK AT MOST 1048576: true; the input reads as it did. -/
def revisionApartUptoRow : OpenClaim := { program := "yteanekphncdhiaagreat", sum := "cf34174cb66faf78967c10e36ec9cb039cbd2e04c1473093cee58841784c4dab", func := "seismonet/seismonetlaw20.RevisionApart", spec := "revisionApart", inPlace := ["slices.overlaps[seismonet/api.Channel]"], unfollowed := true, recurses := true, plainKeys := false, apart := false, narrowed := true }
def RevisionApartUptoSaid : Prop := revisionApartUptoRow.holds Tryz.pinned (OpenSpec.upto revisionApartSpec)

/-- 'seismonetlaw20.RevisionAffected', WHERE WHAT IT READS IS OF BULK AT MOST 1048576: true; the input reads as it did. -/
def revisionAffectedUptoRow : OpenClaim := { program := "yteanekphncdhiaagreat", sum := "cf34174cb66faf78967c10e36ec9cb039cbd2e04c1473093cee58841784c4dab", func := "seismonet/seismonetlaw20.RevisionAffected", spec := "revisionAffected", inPlace := ["slices.overlaps[seismonet/api.Channel]"], unfollowed := true, recurses := true, plainKeys := false, apart := false, narrowed := true }
def RevisionAffectedUptoSaid : Prop := revisionAffectedUptoRow.holds Tryz.pinned (OpenSpec.upto revisionAffectedSpec)

/-- 'seismonetlaw20.RevisionLaws', WHERE WHAT IT READS IS OF BULK AT MOST 1048576: true; the input reads as it did. -/
def revisionLawsUptoRow : OpenClaim := { program := "yteanekphncdhiaagreat", sum := "cf34174cb66faf78967c10e36ec9cb039cbd2e04c1473093cee58841784c4dab", func := "seismonet/seismonetlaw20.RevisionLaws", spec := "revisionLaws", inPlace := ["slices.overlaps[seismonet/api.Channel]"], unfollowed := true, recurses := true, plainKeys := false, apart := false, narrowed := true }
def RevisionLawsUptoSaid : Prop := revisionLawsUptoRow.holds Tryz.pinned (OpenSpec.upto revisionLawsSpec)

/-- 'seismonetlaw20.RevisionUndone', WHERE WHAT IT READS IS OF BULK AT MOST 1048576: true; the input reads as it did. -/
def revisionUndoneUptoRow : OpenClaim := { program := "yteanekphncdhiaagreat", sum := "cf34174cb66faf78967c10e36ec9cb039cbd2e04c1473093cee58841784c4dab", func := "seismonet/seismonetlaw20.RevisionUndone", spec := "revisionUndone", inPlace := ["slices.overlaps[seismonet/api.Channel]"], unfollowed := true, recurses := true, plainKeys := false, apart := false, narrowed := true }
def RevisionUndoneUptoSaid : Prop := revisionUndoneUptoRow.holds Tryz.pinned (OpenSpec.upto revisionUndoneSpec)

/-- 'seismonetlaw20.RevisionExact', WHERE WHAT IT READS IS OF BULK AT MOST 1048576: true; the input reads as it did. -/
def revisionExactUptoRow : OpenClaim := { program := "yteanekphncdhiaagreat", sum := "cf34174cb66faf78967c10e36ec9cb039cbd2e04c1473093cee58841784c4dab", func := "seismonet/seismonetlaw20.RevisionExact", spec := "revisionExact", inPlace := ["slices.overlaps[seismonet/api.Channel]"], unfollowed := true, recurses := true, plainKeys := false, apart := false, narrowed := true }
def RevisionExactUptoSaid : Prop := revisionExactUptoRow.holds Tryz.pinned (OpenSpec.upto revisionExactSpec)

end Rows
end Go.Proofs.YteanekphncdhiaaGreat

/-
  No cell of these rows narrows 'for every input' (looked for: loops, veiled, ifaces, maps, wideKeys, modest, calm, conditions, laid).
  DERIVED. THE GIVEN ROWS OF THIS SEAT. 4 by the template 'for every input the law returns true; each argument reads behind the call as it read before'; 0 by the template 'total and deterministic' (their statements: YtmlekplbmfengaaTotals.lean).
  GIVEN WITH THE SEED: the statements are not yours to turn. If you find one false, say at which input.
  Laid BY PROGRAM, IN A SANDBOX (cutbox-rows.mjs): the forced cells as the released guide's own fill.sh prints them over the translation 8162e17c07927cdc… (all of the seat's roots in one cut). By AI agents, Wed Nov 11 2026. No macro, syntax, notation, axiom, sorry.
-/
import Derived.Test.YtmlekplbmfengaaChecked
import GoSem.Claim
import GoSem.ClaimJoined
import GoSem.ClaimMapViews
import Derived.JoinedTies
import Derived.KernelRfl
namespace Go.Proofs.Ytmlekplbmfengaa
/- THE CELL 'sum', in the pinned program and in every row, IS THE sha256 OF THE DUMP (.gsa) THAT YtmlekplbmfengaaProg.lean LOADS. Nothing in Lean hashes anything: it is a label: what it is worth is what the hold of that sum in a sandbox is worth. -/
noncomputable def Try.pinned : Pinned := { name := "ytmlekplbmfengaa", sum := "8162e17c07927cdc8bb9d6687f5a246c90929ebe3d3aa0c57bb9f5dc89cd689f", checked := Try.checked }
namespace Rows
def none {H : Type} : Left H := { results := [], args := [] }

/-- 'seismonetlaw23.PickerLevels': WHATEVER THE INPUT: true; the input reads as it did. -/
def pickerLevelsSpec : ChangeSpec := { name := "pickerLevels", fn := fun _ => fun
  | [d1, d2, d3] => { results := [.lit (.bool true)], args := [d1, d2, d3] }
  | _ => none }
def pickerLevelsRow : OpenClaim := { program := "ytmlekplbmfengaa", sum := "8162e17c07927cdc8bb9d6687f5a246c90929ebe3d3aa0c57bb9f5dc89cd689f", func := "seismonet/seismonetlaw23.PickerLevels", spec := "pickerLevels", unfollowed := true, recurses := true, apart := false }
def PickerLevelsSaid : Prop := pickerLevelsRow.holds Try.pinned (OpenSpec.ofChange pickerLevelsSpec)

/-- ITS FALSE NEIGHBOUR: 'it returns false'. Refute it at one input. -/
def pickerLevelsWrong : ChangeSpec := { name := "pickerLevels", fn := fun _ => fun
  | [d1, d2, d3] => { results := [.lit (.bool false)], args := [d1, d2, d3] }
  | _ => none }
def PickerLevelsWrongFalsely : Prop := pickerLevelsRow.holds Try.pinned (OpenSpec.ofChange pickerLevelsWrong)

/-- 'seismonetlaw23.PickerOnsets': WHATEVER THE INPUT: true; the input reads as it did. -/
def pickerOnsetsSpec : ChangeSpec := { name := "pickerOnsets", fn := fun _ => fun
  | [d] => { results := [.lit (.bool true)], args := [d] }
  | _ => none }
def pickerOnsetsRow : OpenClaim := { program := "ytmlekplbmfengaa", sum := "8162e17c07927cdc8bb9d6687f5a246c90929ebe3d3aa0c57bb9f5dc89cd689f", func := "seismonet/seismonetlaw23.PickerOnsets", spec := "pickerOnsets", unfollowed := true, recurses := true, apart := false }
def PickerOnsetsSaid : Prop := pickerOnsetsRow.holds Try.pinned (OpenSpec.ofChange pickerOnsetsSpec)

/-- ITS FALSE NEIGHBOUR: 'it returns false'. Refute it at one input. -/
def pickerOnsetsWrong : ChangeSpec := { name := "pickerOnsets", fn := fun _ => fun
  | [d] => { results := [.lit (.bool false)], args := [d] }
  | _ => none }
def PickerOnsetsWrongFalsely : Prop := pickerOnsetsRow.holds Try.pinned (OpenSpec.ofChange pickerOnsetsWrong)

/-- 'seismonetlaw23.PickerExtends': WHATEVER THE INPUT: true; the input reads as it did. -/
def pickerExtendsSpec : ChangeSpec := { name := "pickerExtends", fn := fun _ => fun
  | [d1, d2, d3] => { results := [.lit (.bool true)], args := [d1, d2, d3] }
  | _ => none }
def pickerExtendsRow : OpenClaim := { program := "ytmlekplbmfengaa", sum := "8162e17c07927cdc8bb9d6687f5a246c90929ebe3d3aa0c57bb9f5dc89cd689f", func := "seismonet/seismonetlaw23.PickerExtends", spec := "pickerExtends", unfollowed := true, recurses := true, apart := false }
def PickerExtendsSaid : Prop := pickerExtendsRow.holds Try.pinned (OpenSpec.ofChange pickerExtendsSpec)

/-- ITS FALSE NEIGHBOUR: 'it returns false'. Refute it at one input. -/
def pickerExtendsWrong : ChangeSpec := { name := "pickerExtends", fn := fun _ => fun
  | [d1, d2, d3] => { results := [.lit (.bool false)], args := [d1, d2, d3] }
  | _ => none }
def PickerExtendsWrongFalsely : Prop := pickerExtendsRow.holds Try.pinned (OpenSpec.ofChange pickerExtendsWrong)

/-- 'seismonetlaw23.PickerPicks': WHATEVER THE INPUT: true; the input reads as it did. -/
def pickerPicksSpec : ChangeSpec := { name := "pickerPicks", fn := fun _ => fun
  | [d] => { results := [.lit (.bool true)], args := [d] }
  | _ => none }
def pickerPicksRow : OpenClaim := { program := "ytmlekplbmfengaa", sum := "8162e17c07927cdc8bb9d6687f5a246c90929ebe3d3aa0c57bb9f5dc89cd689f", func := "seismonet/seismonetlaw23.PickerPicks", spec := "pickerPicks", unfollowed := true, recurses := true, apart := false }
def PickerPicksSaid : Prop := pickerPicksRow.holds Try.pinned (OpenSpec.ofChange pickerPicksSpec)

/-- ITS FALSE NEIGHBOUR: 'it returns false'. Refute it at one input. -/
def pickerPicksWrong : ChangeSpec := { name := "pickerPicks", fn := fun _ => fun
  | [d] => { results := [.lit (.bool false)], args := [d] }
  | _ => none }
def PickerPicksWrongFalsely : Prop := pickerPicksRow.holds Try.pinned (OpenSpec.ofChange pickerPicksWrong)

/- THE SECOND FORM. 'bulk': how many values and letters a reading holds, each counted each time it is reached (what is shared counts as often as it is met; a slice's spare places count too). A statement '..UptoSaid' is the law's where the arguments, and the package variables that the reading takes, are together of bulk at most 1048576: NARROWER than '..Said'. Prove '..Said' where nothing that the law and all that it calls make is longer than what came in: it says more and counts as full. Else prove '..UptoSaid'. A law counts once. -/
mutual
def uptoBulk {H : Type} : DataW H → Nat
  | .lit (.string bytes) => bytes.length + 1
  | .lit _ => 1
  | .nil => 1
  | .ptr d => uptoBulk d + 1
  | .slice elems spare => uptoBulkAll elems + uptoBulkAll spare + 1
  | .agg parts => uptoBulkAll parts + 1
  | .iface _ d => uptoBulk d + 1
  | .map entries => uptoBulkEntries entries + 1
  | .held _ => 1
def uptoBulkAll {H : Type} : List (DataW H) → Nat
  | [] => 0
  | d :: r => uptoBulk d + uptoBulkAll r
def uptoBulkEntries {H : Type} : List (Lit × DataW H) → Nat
  | [] => 0
  | x :: r => uptoBulkEntry x + uptoBulkEntries r
def uptoBulkEntry {H : Type} : Lit × DataW H → Nat
  | (.string bytes, d) => bytes.length + uptoBulk d + 1
  | (_, d) => uptoBulk d + 1
 end
def uptoSmall : (H : Type) → List (DataW H) → Bool := fun _ ds => decide (uptoBulkAll ds ≤ 1048576)
def OpenSpec.upto (s : _root_.Go.ChangeSpec) : _root_.Go.OpenSpec := { _root_.Go.OpenSpec.ofChange s with cond := some uptoSmall }

/-- 'seismonetlaw23.PickerLevels', WHERE WHAT IT READS IS OF BULK AT MOST 1048576: true; the input reads as it did. -/
def pickerLevelsUptoRow : OpenClaim := { program := "ytmlekplbmfengaa", sum := "8162e17c07927cdc8bb9d6687f5a246c90929ebe3d3aa0c57bb9f5dc89cd689f", func := "seismonet/seismonetlaw23.PickerLevels", spec := "pickerLevels", unfollowed := true, recurses := true, apart := false, narrowed := true }
def PickerLevelsUptoSaid : Prop := pickerLevelsUptoRow.holds Try.pinned (OpenSpec.upto pickerLevelsSpec)

/-- 'seismonetlaw23.PickerOnsets', WHERE WHAT IT READS IS OF BULK AT MOST 1048576: true; the input reads as it did. -/
def pickerOnsetsUptoRow : OpenClaim := { program := "ytmlekplbmfengaa", sum := "8162e17c07927cdc8bb9d6687f5a246c90929ebe3d3aa0c57bb9f5dc89cd689f", func := "seismonet/seismonetlaw23.PickerOnsets", spec := "pickerOnsets", unfollowed := true, recurses := true, apart := false, narrowed := true }
def PickerOnsetsUptoSaid : Prop := pickerOnsetsUptoRow.holds Try.pinned (OpenSpec.upto pickerOnsetsSpec)

/-- 'seismonetlaw23.PickerExtends', WHERE WHAT IT READS IS OF BULK AT MOST 1048576: true; the input reads as it did. -/
def pickerExtendsUptoRow : OpenClaim := { program := "ytmlekplbmfengaa", sum := "8162e17c07927cdc8bb9d6687f5a246c90929ebe3d3aa0c57bb9f5dc89cd689f", func := "seismonet/seismonetlaw23.PickerExtends", spec := "pickerExtends", unfollowed := true, recurses := true, apart := false, narrowed := true }
def PickerExtendsUptoSaid : Prop := pickerExtendsUptoRow.holds Try.pinned (OpenSpec.upto pickerExtendsSpec)

/-- 'seismonetlaw23.PickerPicks', WHERE WHAT IT READS IS OF BULK AT MOST 1048576: true; the input reads as it did. -/
def pickerPicksUptoRow : OpenClaim := { program := "ytmlekplbmfengaa", sum := "8162e17c07927cdc8bb9d6687f5a246c90929ebe3d3aa0c57bb9f5dc89cd689f", func := "seismonet/seismonetlaw23.PickerPicks", spec := "pickerPicks", unfollowed := true, recurses := true, apart := false, narrowed := true }
def PickerPicksUptoSaid : Prop := pickerPicksUptoRow.holds Try.pinned (OpenSpec.upto pickerPicksSpec)

end Rows
end Go.Proofs.Ytmlekplbmfengaa

/-
  No cell of these rows narrows 'for every input' (looked for: loops, veiled, ifaces, maps, wideKeys, modest, calm, conditions, laid).
  DERIVED. THE GIVEN ROWS OF THIS SEAT. 6 by the template 'for every input the law returns true; each argument reads behind the call as it read before'; 0 by the template 'total and deterministic' (their statements: YtdcafiefjakfeaaGreatTotals.lean).
  GIVEN WITH THE SEED: the statements are not yours to turn. If you find one false, say at which input.
  Laid BY PROGRAM, IN A SANDBOX (cutbox-rows.mjs): the forced cells as the released guide's own fill.sh prints them over the translation 8a1825a687d978e4… (all of the seat's roots in one cut). By AI agents, Wed Nov 11 2026. No macro, syntax, notation, axiom, sorry.
-/
import Derived.Test.YtdcafiefjakfeaaGreatChecked
import GoSem.Claim
import GoSem.ClaimJoined
import GoSem.ClaimMapViews
import Derived.JoinedTies
import Derived.KernelRfl
namespace Go.Proofs.YtdcafiefjakfeaaGreat
/- THE CELL 'sum', in the pinned program and in every row, IS THE sha256 OF THE DUMP (.gsa) THAT YtdcafiefjakfeaaGreatProg.lean LOADS. Nothing in Lean hashes anything: it is a label: what it is worth is what the hold of that sum in a sandbox is worth. -/
noncomputable def Tryz.pinned : Pinned := { name := "ytdcafiefjakfeaagreat", sum := "8a1825a687d978e4fb51846cf15b6f6dd2414935fce949907fb4e72ac3760e0d", checked := Tryz.checked }
namespace Rows
def none {H : Type} : Left H := { results := [], args := [] }

/-- 'seismonetlaw16.ContinuityDivides': WHATEVER THE INPUT: true; the input reads as it did. -/
def continuityDividesSpec : ChangeSpec := { name := "continuityDivides", fn := fun _ => fun
  | [d1, d2] => { results := [.lit (.bool true)], args := [d1, d2] }
  | _ => none }
def continuityDividesRow : OpenClaim := { program := "ytdcafiefjakfeaagreat", sum := "8a1825a687d978e4fb51846cf15b6f6dd2414935fce949907fb4e72ac3760e0d", func := "seismonet/seismonetlaw16.ContinuityDivides", spec := "continuityDivides", unfollowed := true, recurses := true, apart := false }
def ContinuityDividesSaid : Prop := continuityDividesRow.holds Tryz.pinned (OpenSpec.ofChange continuityDividesSpec)

/-- ITS FALSE NEIGHBOUR: 'it returns false'. Refute it at one input. -/
def continuityDividesWrong : ChangeSpec := { name := "continuityDivides", fn := fun _ => fun
  | [d1, d2] => { results := [.lit (.bool false)], args := [d1, d2] }
  | _ => none }
def ContinuityDividesWrongFalsely : Prop := continuityDividesRow.holds Tryz.pinned (OpenSpec.ofChange continuityDividesWrong)

/-- 'seismonetlaw16.ContinuitySame': WHATEVER THE INPUT: true; the input reads as it did. -/
def continuitySameSpec : ChangeSpec := { name := "continuitySame", fn := fun _ => fun
  | [d1, d2] => { results := [.lit (.bool true)], args := [d1, d2] }
  | _ => none }
def continuitySameRow : OpenClaim := { program := "ytdcafiefjakfeaagreat", sum := "8a1825a687d978e4fb51846cf15b6f6dd2414935fce949907fb4e72ac3760e0d", func := "seismonet/seismonetlaw16.ContinuitySame", spec := "continuitySame", unfollowed := true, recurses := true, apart := false }
def ContinuitySameSaid : Prop := continuitySameRow.holds Tryz.pinned (OpenSpec.ofChange continuitySameSpec)

/-- ITS FALSE NEIGHBOUR: 'it returns false'. Refute it at one input. -/
def continuitySameWrong : ChangeSpec := { name := "continuitySame", fn := fun _ => fun
  | [d1, d2] => { results := [.lit (.bool false)], args := [d1, d2] }
  | _ => none }
def ContinuitySameWrongFalsely : Prop := continuitySameRow.holds Tryz.pinned (OpenSpec.ofChange continuitySameWrong)

/-- 'seismonetlaw16.ContinuitySegments': WHATEVER THE INPUT: true; the input reads as it did. -/
def continuitySegmentsSpec : ChangeSpec := { name := "continuitySegments", fn := fun _ => fun
  | [d1, d2] => { results := [.lit (.bool true)], args := [d1, d2] }
  | _ => none }
def continuitySegmentsRow : OpenClaim := { program := "ytdcafiefjakfeaagreat", sum := "8a1825a687d978e4fb51846cf15b6f6dd2414935fce949907fb4e72ac3760e0d", func := "seismonet/seismonetlaw16.ContinuitySegments", spec := "continuitySegments", unfollowed := true, recurses := true, apart := false }
def ContinuitySegmentsSaid : Prop := continuitySegmentsRow.holds Tryz.pinned (OpenSpec.ofChange continuitySegmentsSpec)

/-- ITS FALSE NEIGHBOUR: 'it returns false'. Refute it at one input. -/
def continuitySegmentsWrong : ChangeSpec := { name := "continuitySegments", fn := fun _ => fun
  | [d1, d2] => { results := [.lit (.bool false)], args := [d1, d2] }
  | _ => none }
def ContinuitySegmentsWrongFalsely : Prop := continuitySegmentsRow.holds Tryz.pinned (OpenSpec.ofChange continuitySegmentsWrong)

/-- 'seismonetlaw16.ContinuityGrid': WHATEVER THE INPUT: true; the input reads as it did. -/
def continuityGridSpec : ChangeSpec := { name := "continuityGrid", fn := fun _ => fun
  | [d] => { results := [.lit (.bool true)], args := [d] }
  | _ => none }
def continuityGridRow : OpenClaim := { program := "ytdcafiefjakfeaagreat", sum := "8a1825a687d978e4fb51846cf15b6f6dd2414935fce949907fb4e72ac3760e0d", func := "seismonet/seismonetlaw16.ContinuityGrid", spec := "continuityGrid", unfollowed := true, recurses := true, apart := false }
def ContinuityGridSaid : Prop := continuityGridRow.holds Tryz.pinned (OpenSpec.ofChange continuityGridSpec)

/-- ITS FALSE NEIGHBOUR: 'it returns false'. Refute it at one input. -/
def continuityGridWrong : ChangeSpec := { name := "continuityGrid", fn := fun _ => fun
  | [d] => { results := [.lit (.bool false)], args := [d] }
  | _ => none }
def ContinuityGridWrongFalsely : Prop := continuityGridRow.holds Tryz.pinned (OpenSpec.ofChange continuityGridWrong)

/-- 'seismonetlaw16.ContinuityWindows': WHATEVER THE INPUT: true; the input reads as it did. -/
def continuityWindowsSpec : ChangeSpec := { name := "continuityWindows", fn := fun _ => fun
  | [d1, d2] => { results := [.lit (.bool true)], args := [d1, d2] }
  | _ => none }
def continuityWindowsRow : OpenClaim := { program := "ytdcafiefjakfeaagreat", sum := "8a1825a687d978e4fb51846cf15b6f6dd2414935fce949907fb4e72ac3760e0d", func := "seismonet/seismonetlaw16.ContinuityWindows", spec := "continuityWindows", unfollowed := true, recurses := true, apart := false }
def ContinuityWindowsSaid : Prop := continuityWindowsRow.holds Tryz.pinned (OpenSpec.ofChange continuityWindowsSpec)

/-- ITS FALSE NEIGHBOUR: 'it returns false'. Refute it at one input. -/
def continuityWindowsWrong : ChangeSpec := { name := "continuityWindows", fn := fun _ => fun
  | [d1, d2] => { results := [.lit (.bool false)], args := [d1, d2] }
  | _ => none }
def ContinuityWindowsWrongFalsely : Prop := continuityWindowsRow.holds Tryz.pinned (OpenSpec.ofChange continuityWindowsWrong)

/-- 'seismonetlaw16.ContinuityExact': WHATEVER THE INPUT: true; the input reads as it did. -/
def continuityExactSpec : ChangeSpec := { name := "continuityExact", fn := fun _ => fun
  | [d1, d2, d3, d4, d5, d6] => { results := [.lit (.bool true)], args := [d1, d2, d3, d4, d5, d6] }
  | _ => none }
def continuityExactRow : OpenClaim := { program := "ytdcafiefjakfeaagreat", sum := "8a1825a687d978e4fb51846cf15b6f6dd2414935fce949907fb4e72ac3760e0d", func := "seismonet/seismonetlaw16.ContinuityExact", spec := "continuityExact", unfollowed := true, recurses := true, apart := false }
def ContinuityExactSaid : Prop := continuityExactRow.holds Tryz.pinned (OpenSpec.ofChange continuityExactSpec)

/-- ITS FALSE NEIGHBOUR: 'it returns false'. Refute it at one input. -/
def continuityExactWrong : ChangeSpec := { name := "continuityExact", fn := fun _ => fun
  | [d1, d2, d3, d4, d5, d6] => { results := [.lit (.bool false)], args := [d1, d2, d3, d4, d5, d6] }
  | _ => none }
def ContinuityExactWrongFalsely : Prop := continuityExactRow.holds Tryz.pinned (OpenSpec.ofChange continuityExactWrong)

/- THE SECOND FORM. 'bulk': how many values and letters a reading holds, each counted each time it is reached (what is shared counts as often as it is met; a slice's spare places count too). A statement '..UptoSaid' is the law's where the arguments, and the package variables that the reading takes, are together of bulk at most 1048576: NARROWER than '..Said'. Prove '..Said' where nothing that the law and all that it calls make is longer than what came in: it says more and counts as full. Else prove '..UptoSaid'. A law counts once. -/
mutual
def uptoBulk {H : Type} : DataW H → Nat
  | .lit (.string bytes) => bytes.length + 1
  | .lit _ => 1
  | .nil => 1
  | .ptr d => uptoBulk d + 1
  | .slice elems spare => uptoBulkAll elems + uptoBulkAll spare + 1
  | .agg parts => uptoBulkAll parts + 1
  | .iface _ d => uptoBulk d + 1
  | .map entries => uptoBulkEntries entries + 1
  | .held _ => 1
def uptoBulkAll {H : Type} : List (DataW H) → Nat
  | [] => 0
  | d :: r => uptoBulk d + uptoBulkAll r
def uptoBulkEntries {H : Type} : List (Lit × DataW H) → Nat
  | [] => 0
  | x :: r => uptoBulkEntry x + uptoBulkEntries r
def uptoBulkEntry {H : Type} : Lit × DataW H → Nat
  | (.string bytes, d) => bytes.length + uptoBulk d + 1
  | (_, d) => uptoBulk d + 1
 end
def uptoSmall : (H : Type) → List (DataW H) → Bool := fun _ ds => decide (uptoBulkAll ds ≤ 1048576)
def OpenSpec.upto (s : _root_.Go.ChangeSpec) : _root_.Go.OpenSpec := { _root_.Go.OpenSpec.ofChange s with cond := some uptoSmall }

/-- 'seismonetlaw16.ContinuityDivides', WHERE WHAT IT READS IS OF BULK AT MOST 1048576: true; the input reads as it did. -/
def continuityDividesUptoRow : OpenClaim := { program := "ytdcafiefjakfeaagreat", sum := "8a1825a687d978e4fb51846cf15b6f6dd2414935fce949907fb4e72ac3760e0d", func := "seismonet/seismonetlaw16.ContinuityDivides", spec := "continuityDivides", unfollowed := true, recurses := true, apart := false, narrowed := true }
def ContinuityDividesUptoSaid : Prop := continuityDividesUptoRow.holds Tryz.pinned (OpenSpec.upto continuityDividesSpec)

/-- 'seismonetlaw16.ContinuitySame', WHERE WHAT IT READS IS OF BULK AT MOST 1048576: true; the input reads as it did. -/
def continuitySameUptoRow : OpenClaim := { program := "ytdcafiefjakfeaagreat", sum := "8a1825a687d978e4fb51846cf15b6f6dd2414935fce949907fb4e72ac3760e0d", func := "seismonet/seismonetlaw16.ContinuitySame", spec := "continuitySame", unfollowed := true, recurses := true, apart := false, narrowed := true }
def ContinuitySameUptoSaid : Prop := continuitySameUptoRow.holds Tryz.pinned (OpenSpec.upto continuitySameSpec)

/-- 'seismonetlaw16.ContinuitySegments', WHERE WHAT IT READS IS OF BULK AT MOST 1048576: true; the input reads as it did. -/
def continuitySegmentsUptoRow : OpenClaim := { program := "ytdcafiefjakfeaagreat", sum := "8a1825a687d978e4fb51846cf15b6f6dd2414935fce949907fb4e72ac3760e0d", func := "seismonet/seismonetlaw16.ContinuitySegments", spec := "continuitySegments", unfollowed := true, recurses := true, apart := false, narrowed := true }
def ContinuitySegmentsUptoSaid : Prop := continuitySegmentsUptoRow.holds Tryz.pinned (OpenSpec.upto continuitySegmentsSpec)

/-- 'seismonetlaw16.ContinuityGrid', WHERE WHAT IT READS IS OF BULK AT MOST 1048576: true; the input reads as it did. -/
def continuityGridUptoRow : OpenClaim := { program := "ytdcafiefjakfeaagreat", sum := "8a1825a687d978e4fb51846cf15b6f6dd2414935fce949907fb4e72ac3760e0d", func := "seismonet/seismonetlaw16.ContinuityGrid", spec := "continuityGrid", unfollowed := true, recurses := true, apart := false, narrowed := true }
def ContinuityGridUptoSaid : Prop := continuityGridUptoRow.holds Tryz.pinned (OpenSpec.upto continuityGridSpec)

/-- 'seismonetlaw16.ContinuityWindows', WHERE WHAT IT READS IS OF BULK AT MOST 1048576: true; the input reads as it did. -/
def continuityWindowsUptoRow : OpenClaim := { program := "ytdcafiefjakfeaagreat", sum := "8a1825a687d978e4fb51846cf15b6f6dd2414935fce949907fb4e72ac3760e0d", func := "seismonet/seismonetlaw16.ContinuityWindows", spec := "continuityWindows", unfollowed := true, recurses := true, apart := false, narrowed := true }
def ContinuityWindowsUptoSaid : Prop := continuityWindowsUptoRow.holds Tryz.pinned (OpenSpec.upto continuityWindowsSpec)

/-- 'seismonetlaw16.ContinuityExact', WHERE WHAT IT READS IS OF BULK AT MOST 1048576: true; the input reads as it did. -/
def continuityExactUptoRow : OpenClaim := { program := "ytdcafiefjakfeaagreat", sum := "8a1825a687d978e4fb51846cf15b6f6dd2414935fce949907fb4e72ac3760e0d", func := "seismonet/seismonetlaw16.ContinuityExact", spec := "continuityExact", unfollowed := true, recurses := true, apart := false, narrowed := true }
def ContinuityExactUptoSaid : Prop := continuityExactUptoRow.holds Tryz.pinned (OpenSpec.upto continuityExactSpec)

end Rows
end Go.Proofs.YtdcafiefjakfeaaGreat

/-
  No cell of these rows narrows 'for every input' (looked for: loops, veiled, ifaces, maps, wideKeys, modest, calm, conditions, laid).
  DERIVED. THE GIVEN ROWS OF THIS SEAT. 8 by the template 'for every input the law returns true; each argument reads behind the call as it read before'; 0 by the template 'total and deterministic' (their statements: YthdimlepjpnncaaGreatTotals.lean).
  GIVEN WITH THE SEED: the statements are not yours to turn. If you find one false, say at which input.
  Laid BY PROGRAM, IN A SANDBOX (cutbox-rows.mjs): the forced cells as the released guide's own fill.sh prints them over the translation a1ddf32faf3c5f48… (all of the seat's roots in one cut). By AI agents, Wed Nov 11 2026. No macro, syntax, notation, axiom, sorry.
-/
import Derived.Test.YthdimlepjpnncaaGreatChecked
import GoSem.Claim
import GoSem.ClaimJoined
import GoSem.ClaimMapViews
import Derived.JoinedTies
import Derived.KernelRfl
namespace Go.Proofs.YthdimlepjpnncaaGreat
/- THE CELL 'sum', in the pinned program and in every row, IS THE sha256 OF THE DUMP (.gsa) THAT YthdimlepjpnncaaGreatProg.lean LOADS. Nothing in Lean hashes anything: it is a label: what it is worth is what the hold of that sum in a sandbox is worth. -/
noncomputable def Tryz.pinned : Pinned := { name := "ythdimlepjpnncaagreat", sum := "a1ddf32faf3c5f483d7a378db0dd37c31359795c89cc570ed1320da2a45b5bd3", checked := Tryz.checked }
namespace Rows
def none {H : Type} : Left H := { results := [], args := [] }

/-- 'seismonetlaw15.ComposeApart': WHATEVER THE INPUT: true; the input reads as it did. -/
def composeApartSpec : ChangeSpec := { name := "composeApart", fn := fun _ => fun
  | [d] => { results := [.lit (.bool true)], args := [d] }
  | _ => none }
def composeApartRow : OpenClaim := { program := "ythdimlepjpnncaagreat", sum := "a1ddf32faf3c5f483d7a378db0dd37c31359795c89cc570ed1320da2a45b5bd3", func := "seismonet/seismonetlaw15.ComposeApart", spec := "composeApart", unfollowed := true, recurses := true, apart := false }
def ComposeApartSaid : Prop := composeApartRow.holds Tryz.pinned (OpenSpec.ofChange composeApartSpec)

/-- ITS FALSE NEIGHBOUR: 'it returns false'. Refute it at one input. -/
def composeApartWrong : ChangeSpec := { name := "composeApart", fn := fun _ => fun
  | [d] => { results := [.lit (.bool false)], args := [d] }
  | _ => none }
def ComposeApartWrongFalsely : Prop := composeApartRow.holds Tryz.pinned (OpenSpec.ofChange composeApartWrong)

/-- 'seismonetlaw15.ComposePriority': WHATEVER THE INPUT: true; the input reads as it did. -/
def composePrioritySpec : ChangeSpec := { name := "composePriority", fn := fun _ => fun
  | [d1, d2] => { results := [.lit (.bool true)], args := [d1, d2] }
  | _ => none }
def composePriorityRow : OpenClaim := { program := "ythdimlepjpnncaagreat", sum := "a1ddf32faf3c5f483d7a378db0dd37c31359795c89cc570ed1320da2a45b5bd3", func := "seismonet/seismonetlaw15.ComposePriority", spec := "composePriority", unfollowed := true, recurses := true, apart := false }
def ComposePrioritySaid : Prop := composePriorityRow.holds Tryz.pinned (OpenSpec.ofChange composePrioritySpec)

/-- ITS FALSE NEIGHBOUR: 'it returns false'. Refute it at one input. -/
def composePriorityWrong : ChangeSpec := { name := "composePriority", fn := fun _ => fun
  | [d1, d2] => { results := [.lit (.bool false)], args := [d1, d2] }
  | _ => none }
def ComposePriorityWrongFalsely : Prop := composePriorityRow.holds Tryz.pinned (OpenSpec.ofChange composePriorityWrong)

/-- 'seismonetlaw15.ComposeOnce': WHATEVER THE INPUT: true; the input reads as it did. -/
def composeOnceSpec : ChangeSpec := { name := "composeOnce", fn := fun _ => fun
  | [d1, d2] => { results := [.lit (.bool true)], args := [d1, d2] }
  | _ => none }
def composeOnceRow : OpenClaim := { program := "ythdimlepjpnncaagreat", sum := "a1ddf32faf3c5f483d7a378db0dd37c31359795c89cc570ed1320da2a45b5bd3", func := "seismonet/seismonetlaw15.ComposeOnce", spec := "composeOnce", unfollowed := true, recurses := true, apart := false }
def ComposeOnceSaid : Prop := composeOnceRow.holds Tryz.pinned (OpenSpec.ofChange composeOnceSpec)

/-- ITS FALSE NEIGHBOUR: 'it returns false'. Refute it at one input. -/
def composeOnceWrong : ChangeSpec := { name := "composeOnce", fn := fun _ => fun
  | [d1, d2] => { results := [.lit (.bool false)], args := [d1, d2] }
  | _ => none }
def ComposeOnceWrongFalsely : Prop := composeOnceRow.holds Tryz.pinned (OpenSpec.ofChange composeOnceWrong)

/-- 'seismonetlaw15.ComposeBest': WHATEVER THE INPUT: true; the input reads as it did. -/
def composeBestSpec : ChangeSpec := { name := "composeBest", fn := fun _ => fun
  | [d] => { results := [.lit (.bool true)], args := [d] }
  | _ => none }
def composeBestRow : OpenClaim := { program := "ythdimlepjpnncaagreat", sum := "a1ddf32faf3c5f483d7a378db0dd37c31359795c89cc570ed1320da2a45b5bd3", func := "seismonet/seismonetlaw15.ComposeBest", spec := "composeBest", unfollowed := true, recurses := true, apart := false }
def ComposeBestSaid : Prop := composeBestRow.holds Tryz.pinned (OpenSpec.ofChange composeBestSpec)

/-- ITS FALSE NEIGHBOUR: 'it returns false'. Refute it at one input. -/
def composeBestWrong : ChangeSpec := { name := "composeBest", fn := fun _ => fun
  | [d] => { results := [.lit (.bool false)], args := [d] }
  | _ => none }
def ComposeBestWrongFalsely : Prop := composeBestRow.holds Tryz.pinned (OpenSpec.ofChange composeBestWrong)

/-- 'seismonetlaw15.ComposeOrder': WHATEVER THE INPUT: true; the input reads as it did. -/
def composeOrderSpec : ChangeSpec := { name := "composeOrder", fn := fun _ => fun
  | [d] => { results := [.lit (.bool true)], args := [d] }
  | _ => none }
def composeOrderRow : OpenClaim := { program := "ythdimlepjpnncaagreat", sum := "a1ddf32faf3c5f483d7a378db0dd37c31359795c89cc570ed1320da2a45b5bd3", func := "seismonet/seismonetlaw15.ComposeOrder", spec := "composeOrder", unfollowed := true, recurses := true, apart := false }
def ComposeOrderSaid : Prop := composeOrderRow.holds Tryz.pinned (OpenSpec.ofChange composeOrderSpec)

/-- ITS FALSE NEIGHBOUR: 'it returns false'. Refute it at one input. -/
def composeOrderWrong : ChangeSpec := { name := "composeOrder", fn := fun _ => fun
  | [d] => { results := [.lit (.bool false)], args := [d] }
  | _ => none }
def ComposeOrderWrongFalsely : Prop := composeOrderRow.holds Tryz.pinned (OpenSpec.ofChange composeOrderWrong)

/-- 'seismonetlaw15.ComposeLocal': WHATEVER THE INPUT: true; the input reads as it did. -/
def composeLocalSpec : ChangeSpec := { name := "composeLocal", fn := fun _ => fun
  | [d] => { results := [.lit (.bool true)], args := [d] }
  | _ => none }
def composeLocalRow : OpenClaim := { program := "ythdimlepjpnncaagreat", sum := "a1ddf32faf3c5f483d7a378db0dd37c31359795c89cc570ed1320da2a45b5bd3", func := "seismonet/seismonetlaw15.ComposeLocal", spec := "composeLocal", unfollowed := true, recurses := true, apart := false }
def ComposeLocalSaid : Prop := composeLocalRow.holds Tryz.pinned (OpenSpec.ofChange composeLocalSpec)

/-- ITS FALSE NEIGHBOUR: 'it returns false'. Refute it at one input. -/
def composeLocalWrong : ChangeSpec := { name := "composeLocal", fn := fun _ => fun
  | [d] => { results := [.lit (.bool false)], args := [d] }
  | _ => none }
def ComposeLocalWrongFalsely : Prop := composeLocalRow.holds Tryz.pinned (OpenSpec.ofChange composeLocalWrong)

/-- 'seismonetlaw15.ComposeAgain': WHATEVER THE INPUT: true; the input reads as it did. -/
def composeAgainSpec : ChangeSpec := { name := "composeAgain", fn := fun _ => fun
  | [d] => { results := [.lit (.bool true)], args := [d] }
  | _ => none }
def composeAgainRow : OpenClaim := { program := "ythdimlepjpnncaagreat", sum := "a1ddf32faf3c5f483d7a378db0dd37c31359795c89cc570ed1320da2a45b5bd3", func := "seismonet/seismonetlaw15.ComposeAgain", spec := "composeAgain", unfollowed := true, recurses := true, apart := false }
def ComposeAgainSaid : Prop := composeAgainRow.holds Tryz.pinned (OpenSpec.ofChange composeAgainSpec)

/-- ITS FALSE NEIGHBOUR: 'it returns false'. Refute it at one input. -/
def composeAgainWrong : ChangeSpec := { name := "composeAgain", fn := fun _ => fun
  | [d] => { results := [.lit (.bool false)], args := [d] }
  | _ => none }
def ComposeAgainWrongFalsely : Prop := composeAgainRow.holds Tryz.pinned (OpenSpec.ofChange composeAgainWrong)

/-- 'seismonetlaw15.ComposeExact': WHATEVER THE INPUT: true; the input reads as it did. -/
def composeExactSpec : ChangeSpec := { name := "composeExact", fn := fun _ => fun
  | [d1, d2, d3] => { results := [.lit (.bool true)], args := [d1, d2, d3] }
  | _ => none }
def composeExactRow : OpenClaim := { program := "ythdimlepjpnncaagreat", sum := "a1ddf32faf3c5f483d7a378db0dd37c31359795c89cc570ed1320da2a45b5bd3", func := "seismonet/seismonetlaw15.ComposeExact", spec := "composeExact", unfollowed := true, recurses := true, apart := false }
def ComposeExactSaid : Prop := composeExactRow.holds Tryz.pinned (OpenSpec.ofChange composeExactSpec)

/-- ITS FALSE NEIGHBOUR: 'it returns false'. Refute it at one input. -/
def composeExactWrong : ChangeSpec := { name := "composeExact", fn := fun _ => fun
  | [d1, d2, d3] => { results := [.lit (.bool false)], args := [d1, d2, d3] }
  | _ => none }
def ComposeExactWrongFalsely : Prop := composeExactRow.holds Tryz.pinned (OpenSpec.ofChange composeExactWrong)

/- THE SECOND FORM. 'bulk': how many values and letters a reading holds, each counted each time it is reached (what is shared counts as often as it is met; a slice's spare places count too). A statement '..UptoSaid' is the law's where the arguments, and the package variables that the reading takes, are together of bulk at most 1048576: NARROWER than '..Said'. Prove '..Said' where nothing that the law and all that it calls make is longer than what came in: it says more and counts as full. Else prove '..UptoSaid'. A law counts once. -/
mutual
def uptoBulk {H : Type} : DataW H → Nat
  | .lit (.string bytes) => bytes.length + 1
  | .lit _ => 1
  | .nil => 1
  | .ptr d => uptoBulk d + 1
  | .slice elems spare => uptoBulkAll elems + uptoBulkAll spare + 1
  | .agg parts => uptoBulkAll parts + 1
  | .iface _ d => uptoBulk d + 1
  | .map entries => uptoBulkEntries entries + 1
  | .held _ => 1
def uptoBulkAll {H : Type} : List (DataW H) → Nat
  | [] => 0
  | d :: r => uptoBulk d + uptoBulkAll r
def uptoBulkEntries {H : Type} : List (Lit × DataW H) → Nat
  | [] => 0
  | x :: r => uptoBulkEntry x + uptoBulkEntries r
def uptoBulkEntry {H : Type} : Lit × DataW H → Nat
  | (.string bytes, d) => bytes.length + uptoBulk d + 1
  | (_, d) => uptoBulk d + 1
 end
def uptoSmall : (H : Type) → List (DataW H) → Bool := fun _ ds => decide (uptoBulkAll ds ≤ 1048576)
def OpenSpec.upto (s : _root_.Go.ChangeSpec) : _root_.Go.OpenSpec := { _root_.Go.OpenSpec.ofChange s with cond := some uptoSmall }

/-- 'seismonetlaw15.ComposeApart', WHERE WHAT IT READS IS OF BULK AT MOST 1048576: true; the input reads as it did. -/
def composeApartUptoRow : OpenClaim := { program := "ythdimlepjpnncaagreat", sum := "a1ddf32faf3c5f483d7a378db0dd37c31359795c89cc570ed1320da2a45b5bd3", func := "seismonet/seismonetlaw15.ComposeApart", spec := "composeApart", unfollowed := true, recurses := true, apart := false, narrowed := true }
def ComposeApartUptoSaid : Prop := composeApartUptoRow.holds Tryz.pinned (OpenSpec.upto composeApartSpec)

/-- 'seismonetlaw15.ComposePriority', WHERE WHAT IT READS IS OF BULK AT MOST 1048576: true; the input reads as it did. -/
def composePriorityUptoRow : OpenClaim := { program := "ythdimlepjpnncaagreat", sum := "a1ddf32faf3c5f483d7a378db0dd37c31359795c89cc570ed1320da2a45b5bd3", func := "seismonet/seismonetlaw15.ComposePriority", spec := "composePriority", unfollowed := true, recurses := true, apart := false, narrowed := true }
def ComposePriorityUptoSaid : Prop := composePriorityUptoRow.holds Tryz.pinned (OpenSpec.upto composePrioritySpec)

/-- 'seismonetlaw15.ComposeOnce', WHERE WHAT IT READS IS OF BULK AT MOST 1048576: true; the input reads as it did. -/
def composeOnceUptoRow : OpenClaim := { program := "ythdimlepjpnncaagreat", sum := "a1ddf32faf3c5f483d7a378db0dd37c31359795c89cc570ed1320da2a45b5bd3", func := "seismonet/seismonetlaw15.ComposeOnce", spec := "composeOnce", unfollowed := true, recurses := true, apart := false, narrowed := true }
def ComposeOnceUptoSaid : Prop := composeOnceUptoRow.holds Tryz.pinned (OpenSpec.upto composeOnceSpec)

/-- 'seismonetlaw15.ComposeBest', WHERE WHAT IT READS IS OF BULK AT MOST 1048576: true; the input reads as it did. -/
def composeBestUptoRow : OpenClaim := { program := "ythdimlepjpnncaagreat", sum := "a1ddf32faf3c5f483d7a378db0dd37c31359795c89cc570ed1320da2a45b5bd3", func := "seismonet/seismonetlaw15.ComposeBest", spec := "composeBest", unfollowed := true, recurses := true, apart := false, narrowed := true }
def ComposeBestUptoSaid : Prop := composeBestUptoRow.holds Tryz.pinned (OpenSpec.upto composeBestSpec)

/-- 'seismonetlaw15.ComposeOrder', WHERE WHAT IT READS IS OF BULK AT MOST 1048576: true; the input reads as it did. -/
def composeOrderUptoRow : OpenClaim := { program := "ythdimlepjpnncaagreat", sum := "a1ddf32faf3c5f483d7a378db0dd37c31359795c89cc570ed1320da2a45b5bd3", func := "seismonet/seismonetlaw15.ComposeOrder", spec := "composeOrder", unfollowed := true, recurses := true, apart := false, narrowed := true }
def ComposeOrderUptoSaid : Prop := composeOrderUptoRow.holds Tryz.pinned (OpenSpec.upto composeOrderSpec)

/-- 'seismonetlaw15.ComposeLocal', WHERE WHAT IT READS IS OF BULK AT MOST 1048576: true; the input reads as it did. -/
def composeLocalUptoRow : OpenClaim := { program := "ythdimlepjpnncaagreat", sum := "a1ddf32faf3c5f483d7a378db0dd37c31359795c89cc570ed1320da2a45b5bd3", func := "seismonet/seismonetlaw15.ComposeLocal", spec := "composeLocal", unfollowed := true, recurses := true, apart := false, narrowed := true }
def ComposeLocalUptoSaid : Prop := composeLocalUptoRow.holds Tryz.pinned (OpenSpec.upto composeLocalSpec)

/-- 'seismonetlaw15.ComposeAgain', WHERE WHAT IT READS IS OF BULK AT MOST 1048576: true; the input reads as it did. -/
def composeAgainUptoRow : OpenClaim := { program := "ythdimlepjpnncaagreat", sum := "a1ddf32faf3c5f483d7a378db0dd37c31359795c89cc570ed1320da2a45b5bd3", func := "seismonet/seismonetlaw15.ComposeAgain", spec := "composeAgain", unfollowed := true, recurses := true, apart := false, narrowed := true }
def ComposeAgainUptoSaid : Prop := composeAgainUptoRow.holds Tryz.pinned (OpenSpec.upto composeAgainSpec)

/-- 'seismonetlaw15.ComposeExact', WHERE WHAT IT READS IS OF BULK AT MOST 1048576: true; the input reads as it did. -/
def composeExactUptoRow : OpenClaim := { program := "ythdimlepjpnncaagreat", sum := "a1ddf32faf3c5f483d7a378db0dd37c31359795c89cc570ed1320da2a45b5bd3", func := "seismonet/seismonetlaw15.ComposeExact", spec := "composeExact", unfollowed := true, recurses := true, apart := false, narrowed := true }
def ComposeExactUptoSaid : Prop := composeExactUptoRow.holds Tryz.pinned (OpenSpec.upto composeExactSpec)

end Rows
end Go.Proofs.YthdimlepjpnncaaGreat

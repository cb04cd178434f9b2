/-
  No cell of these rows narrows 'for every input' (looked for: loops, veiled, ifaces, maps, wideKeys, modest, calm, conditions, laid).
  DERIVED. THE GIVEN ROWS OF THIS SEAT. 4 by the template 'for every input the law returns true; each argument reads behind the call as it read before'; 0 by the template 'total and deterministic' (their statements: YtoendkojgjobbaaTotals.lean).
  GIVEN WITH THE SEED: the statements are not yours to turn. If you find one false, say at which input.
  Laid BY PROGRAM, IN A SANDBOX (cutbox-rows.mjs): the forced cells as the released guide's own fill.sh prints them over the translation 8bd0567f6994b223… (all of the seat's roots in one cut). By AI agents, Wed Nov 11 2026. No macro, syntax, notation, axiom, sorry.
-/
import Derived.Test.YtoendkojgjobbaaChecked
import GoSem.Claim
import GoSem.ClaimJoined
import GoSem.ClaimMapViews
import Derived.JoinedTies
import Derived.KernelRfl
namespace Go.Proofs.Ytoendkojgjobbaa
/- THE CELL 'sum', in the pinned program and in every row, IS THE sha256 OF THE DUMP (.gsa) THAT YtoendkojgjobbaaProg.lean LOADS. Nothing in Lean hashes anything: it is a label: what it is worth is what the hold of that sum in a sandbox is worth. -/
noncomputable def Try.pinned : Pinned := { name := "ytoendkojgjobbaa", sum := "8bd0567f6994b2232494f169d3b8dc6c3cdddf96d9baa29dfb56a15b81c7ea9f", checked := Try.checked }
namespace Rows
def none {H : Type} : Left H := { results := [], args := [] }

/-- 'seismonetlaw18.ResponseSections': WHATEVER THE INPUT: true; the input reads as it did. -/
def responseSectionsSpec : ChangeSpec := { name := "responseSections", fn := fun _ => fun
  | [d1, d2, d3, d4, d5, d6, d7, d8, d9] => { results := [.lit (.bool true)], args := [d1, d2, d3, d4, d5, d6, d7, d8, d9] }
  | _ => none }
def responseSectionsRow : OpenClaim := { program := "ytoendkojgjobbaa", sum := "8bd0567f6994b2232494f169d3b8dc6c3cdddf96d9baa29dfb56a15b81c7ea9f", func := "seismonet/seismonetlaw18.ResponseSections", spec := "responseSections", unfollowed := true, recurses := true, apart := false }
def ResponseSectionsSaid : Prop := responseSectionsRow.holds Try.pinned (OpenSpec.ofChange responseSectionsSpec)

/-- ITS FALSE NEIGHBOUR: 'it returns false'. Refute it at one input. -/
def responseSectionsWrong : ChangeSpec := { name := "responseSections", fn := fun _ => fun
  | [d1, d2, d3, d4, d5, d6, d7, d8, d9] => { results := [.lit (.bool false)], args := [d1, d2, d3, d4, d5, d6, d7, d8, d9] }
  | _ => none }
def ResponseSectionsWrongFalsely : Prop := responseSectionsRow.holds Try.pinned (OpenSpec.ofChange responseSectionsWrong)

/-- 'seismonetlaw18.ResponseJoins': WHATEVER THE INPUT: true; the input reads as it did. -/
def responseJoinsSpec : ChangeSpec := { name := "responseJoins", fn := fun _ => fun
  | [d1, d2, d3] => { results := [.lit (.bool true)], args := [d1, d2, d3] }
  | _ => none }
def responseJoinsRow : OpenClaim := { program := "ytoendkojgjobbaa", sum := "8bd0567f6994b2232494f169d3b8dc6c3cdddf96d9baa29dfb56a15b81c7ea9f", func := "seismonet/seismonetlaw18.ResponseJoins", spec := "responseJoins", unfollowed := true, recurses := true, apart := false }
def ResponseJoinsSaid : Prop := responseJoinsRow.holds Try.pinned (OpenSpec.ofChange responseJoinsSpec)

/-- ITS FALSE NEIGHBOUR: 'it returns false'. Refute it at one input. -/
def responseJoinsWrong : ChangeSpec := { name := "responseJoins", fn := fun _ => fun
  | [d1, d2, d3] => { results := [.lit (.bool false)], args := [d1, d2, d3] }
  | _ => none }
def ResponseJoinsWrongFalsely : Prop := responseJoinsRow.holds Try.pinned (OpenSpec.ofChange responseJoinsWrong)

/-- 'seismonetlaw18.ResponseRates': WHATEVER THE INPUT: true; the input reads as it did. -/
def responseRatesSpec : ChangeSpec := { name := "responseRates", fn := fun _ => fun
  | [d] => { results := [.lit (.bool true)], args := [d] }
  | _ => none }
def responseRatesRow : OpenClaim := { program := "ytoendkojgjobbaa", sum := "8bd0567f6994b2232494f169d3b8dc6c3cdddf96d9baa29dfb56a15b81c7ea9f", func := "seismonet/seismonetlaw18.ResponseRates", spec := "responseRates", unfollowed := true, recurses := true, apart := false }
def ResponseRatesSaid : Prop := responseRatesRow.holds Try.pinned (OpenSpec.ofChange responseRatesSpec)

/-- ITS FALSE NEIGHBOUR: 'it returns false'. Refute it at one input. -/
def responseRatesWrong : ChangeSpec := { name := "responseRates", fn := fun _ => fun
  | [d] => { results := [.lit (.bool false)], args := [d] }
  | _ => none }
def ResponseRatesWrongFalsely : Prop := responseRatesRow.holds Try.pinned (OpenSpec.ofChange responseRatesWrong)

/-- 'seismonetlaw18.ResponseExact': WHATEVER THE INPUT: true; the input reads as it did. -/
def responseExactSpec : ChangeSpec := { name := "responseExact", fn := fun _ => fun
  | [d1, d2, d3, d4, d5] => { results := [.lit (.bool true)], args := [d1, d2, d3, d4, d5] }
  | _ => none }
def responseExactRow : OpenClaim := { program := "ytoendkojgjobbaa", sum := "8bd0567f6994b2232494f169d3b8dc6c3cdddf96d9baa29dfb56a15b81c7ea9f", func := "seismonet/seismonetlaw18.ResponseExact", spec := "responseExact", unfollowed := true, recurses := true, apart := false }
def ResponseExactSaid : Prop := responseExactRow.holds Try.pinned (OpenSpec.ofChange responseExactSpec)

/-- ITS FALSE NEIGHBOUR: 'it returns false'. Refute it at one input. -/
def responseExactWrong : ChangeSpec := { name := "responseExact", fn := fun _ => fun
  | [d1, d2, d3, d4, d5] => { results := [.lit (.bool false)], args := [d1, d2, d3, d4, d5] }
  | _ => none }
def ResponseExactWrongFalsely : Prop := responseExactRow.holds Try.pinned (OpenSpec.ofChange responseExactWrong)

/- THE SECOND FORM. 'bulk': how many values and letters a reading holds, each counted each time it is reached (what is shared counts as often as it is met; a slice's spare places count too). A statement '..UptoSaid' is the law's where the arguments, and the package variables that the reading takes, are together of bulk at most 1048576: NARROWER than '..Said'. Prove '..Said' where nothing that the law and all that it calls make is longer than what came in: it says more and counts as full. Else prove '..UptoSaid'. A law counts once. -/
mutual
def uptoBulk {H : Type} : DataW H → Nat
  | .lit (.string bytes) => bytes.length + 1
  | .lit _ => 1
  | .nil => 1
  | .ptr d => uptoBulk d + 1
  | .slice elems spare => uptoBulkAll elems + uptoBulkAll spare + 1
  | .agg parts => uptoBulkAll parts + 1
  | .iface _ d => uptoBulk d + 1
  | .map entries => uptoBulkEntries entries + 1
  | .held _ => 1
def uptoBulkAll {H : Type} : List (DataW H) → Nat
  | [] => 0
  | d :: r => uptoBulk d + uptoBulkAll r
def uptoBulkEntries {H : Type} : List (Lit × DataW H) → Nat
  | [] => 0
  | x :: r => uptoBulkEntry x + uptoBulkEntries r
def uptoBulkEntry {H : Type} : Lit × DataW H → Nat
  | (.string bytes, d) => bytes.length + uptoBulk d + 1
  | (_, d) => uptoBulk d + 1
 end
def uptoSmall : (H : Type) → List (DataW H) → Bool := fun _ ds => decide (uptoBulkAll ds ≤ 1048576)
def OpenSpec.upto (s : _root_.Go.ChangeSpec) : _root_.Go.OpenSpec := { _root_.Go.OpenSpec.ofChange s with cond := some uptoSmall }

/-- 'seismonetlaw18.ResponseSections', WHERE WHAT IT READS IS OF BULK AT MOST 1048576: true; the input reads as it did. -/
def responseSectionsUptoRow : OpenClaim := { program := "ytoendkojgjobbaa", sum := "8bd0567f6994b2232494f169d3b8dc6c3cdddf96d9baa29dfb56a15b81c7ea9f", func := "seismonet/seismonetlaw18.ResponseSections", spec := "responseSections", unfollowed := true, recurses := true, apart := false, narrowed := true }
def ResponseSectionsUptoSaid : Prop := responseSectionsUptoRow.holds Try.pinned (OpenSpec.upto responseSectionsSpec)

/-- 'seismonetlaw18.ResponseJoins', WHERE WHAT IT READS IS OF BULK AT MOST 1048576: true; the input reads as it did. -/
def responseJoinsUptoRow : OpenClaim := { program := "ytoendkojgjobbaa", sum := "8bd0567f6994b2232494f169d3b8dc6c3cdddf96d9baa29dfb56a15b81c7ea9f", func := "seismonet/seismonetlaw18.ResponseJoins", spec := "responseJoins", unfollowed := true, recurses := true, apart := false, narrowed := true }
def ResponseJoinsUptoSaid : Prop := responseJoinsUptoRow.holds Try.pinned (OpenSpec.upto responseJoinsSpec)

/-- 'seismonetlaw18.ResponseRates', WHERE WHAT IT READS IS OF BULK AT MOST 1048576: true; the input reads as it did. -/
def responseRatesUptoRow : OpenClaim := { program := "ytoendkojgjobbaa", sum := "8bd0567f6994b2232494f169d3b8dc6c3cdddf96d9baa29dfb56a15b81c7ea9f", func := "seismonet/seismonetlaw18.ResponseRates", spec := "responseRates", unfollowed := true, recurses := true, apart := false, narrowed := true }
def ResponseRatesUptoSaid : Prop := responseRatesUptoRow.holds Try.pinned (OpenSpec.upto responseRatesSpec)

/-- 'seismonetlaw18.ResponseExact', WHERE WHAT IT READS IS OF BULK AT MOST 1048576: true; the input reads as it did. -/
def responseExactUptoRow : OpenClaim := { program := "ytoendkojgjobbaa", sum := "8bd0567f6994b2232494f169d3b8dc6c3cdddf96d9baa29dfb56a15b81c7ea9f", func := "seismonet/seismonetlaw18.ResponseExact", spec := "responseExact", unfollowed := true, recurses := true, apart := false, narrowed := true }
def ResponseExactUptoSaid : Prop := responseExactUptoRow.holds Try.pinned (OpenSpec.upto responseExactSpec)

end Rows
end Go.Proofs.Ytoendkojgjobbaa

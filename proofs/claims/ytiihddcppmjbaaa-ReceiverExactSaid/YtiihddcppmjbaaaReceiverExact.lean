/- The statement ReceiverExact holds: the law returns true at every input, and its arguments read as before. -/
import Derived.Test.YtiihddcppmjbaaaRows
import Derived.Test.YtiihddcppmjbaaaWReceiverExact4
import Derived.Test.YtiihddcppmjbaaaReceiverExactLaw
import Derived.Test.YtiihddcppmjbaaaLibO
import Derived.KernelRfl
namespace Go.Proofs.Ytiihddcppmjbaaa.receiverExact
open Go Go.RowKit Go.Proofs Go.Proofs.Ytiihddcppmjbaaa.Sh Go.Proofs.Ytiihddcppmjbaaa.Wk
open Go.ChangeShapes Go.WideShapes Go.ChangeAt
set_option linter.unusedVariables false

theorem own : ownKnob Try.prog.godebug = none := by kernel_rfl
theorem laidOut : laidOutB Try.prog = true := by kernel_rfl

set_option maxRecDepth 100000 in
theorem opn_46 {W : World} : OpnT Try.prog W 46 Span (fun x => ((-9223372036854775808 ≤ x.From ∧ x.From ≤ 9223372036854775807) ∧ (-9223372036854775808 ≤ x.To ∧ x.To ≤ 9223372036854775807))) := fun {H enc fuel cs x} h hz => by
  have z0 := trod_len Try.underlying46 h (n := 2) (by kernel_rfl)
  obtain ⟨c0, cs1, rfl, z1⟩ := peel z0
  obtain ⟨c1, cs2, rfl, z2⟩ := peel z1
  obtain rfl := peel0 z2
  obtain ⟨fm0_0, ym0_0, m0_0, wm0_0⟩ := trod_fieldW Try.underlying46 h (i := 0) rfl (ft := 3) (o := 0) (n := 1) rfl rfl (by kernel_rfl)
  obtain ⟨d0, r0, g0⟩ := OpnT.leaf (c := c0) (W := W) (opn_int Try.underlying3) m0_0 (wm0_0 hz)
  obtain ⟨fm1_0, ym1_0, m1_0, wm1_0⟩ := trod_fieldW Try.underlying46 h (i := 1) rfl (ft := 3) (o := 1) (n := 1) rfl rfl (by kernel_rfl)
  obtain ⟨d1, r1, g1⟩ := OpnT.leaf (c := c1) (W := W) (opn_int Try.underlying3) m1_0 (wm1_0 hz)
  exact ⟨(⟨d0, d1⟩ : Span), ⟨_, _, rfl, r0, r1⟩, ⟨g0, g1⟩⟩

set_option maxRecDepth 100000 in
theorem opn_29 {W : World} : OpnT Try.prog W 29 Receiver (fun x => (((x.Got.length : Int) ≤ 140737488355328 ∧ ∀ y ∈ x.Got, ((-9223372036854775808 ≤ y.From ∧ y.From ≤ 9223372036854775807) ∧ (-9223372036854775808 ≤ y.To ∧ y.To ≤ 9223372036854775807))) ∧ ((x.Lost.length : Int) ≤ 140737488355328 ∧ ∀ y ∈ x.Lost, ((-9223372036854775808 ≤ y.From ∧ y.From ≤ 9223372036854775807) ∧ (-9223372036854775808 ≤ y.To ∧ y.To ≤ 9223372036854775807))))) := fun {H enc fuel cs x} h hz => by
  have z0 := trod_len Try.underlying29 h (n := 2) (by kernel_rfl)
  obtain ⟨c0, cs1, rfl, z1⟩ := peel z0
  obtain ⟨c1, cs2, rfl, z2⟩ := peel z1
  obtain rfl := peel0 z2
  obtain ⟨fm0_0, ym0_0, m0_0, wm0_0⟩ := trod_fieldW Try.underlying29 h (i := 0) rfl (ft := 27) (o := 0) (n := 1) rfl rfl (by kernel_rfl)
  obtain ⟨d0, r0, g0⟩ := OpnT.leaf (c := c0) (W := W) (opn_slice Try.underlying27 (by kernel_rfl) (by decide) (by kernel_rfl) opn_46) m0_0 (wm0_0 hz)
  obtain ⟨fm1_0, ym1_0, m1_0, wm1_0⟩ := trod_fieldW Try.underlying29 h (i := 1) rfl (ft := 27) (o := 1) (n := 1) rfl rfl (by kernel_rfl)
  obtain ⟨d1, r1, g1⟩ := OpnT.leaf (c := c1) (W := W) (opn_slice Try.underlying27 (by kernel_rfl) (by decide) (by kernel_rfl) opn_46) m1_0 (wm1_0 hz)
  exact ⟨(⟨d0, d1⟩ : Receiver), ⟨_, _, rfl, r0, r1⟩, ⟨g0, g1⟩⟩

set_option maxRecDepth 100000 in
theorem lifted (os : Os) (started : os.Started) (H : Type) (enc : TypeId × Value → H) :
    ReturnsInHanded {} Try.checked os 5 .any (Rows.receiverExactSpec.pre6 enc Try.prog Try.f5 Rows.receiverExactRow.domain false) (Rows.receiverExactSpec.post enc Try.prog Try.f5 false true false false) := by
  refine returnsInHanded_of_change_sized (C := Try.checked) own started (by kernel_rfl) Try.func5
    (ChangeSpec.witness6 (enc := enc) (C := Try.checked) false ⟨#[], #[.slice none 0 0, .agg #[.slice none 0 0, .slice none 0 0], .int .i64 0, .int .i64 0, .int .i64 0, .int .i64 0], []⟩ 8 (by kernel_rfl) (by kernel_rfl) (by kernel_rfl) (by kernel_rfl)) ?_
  intro W base args ds gs before hval0 hW hcnd hsz0 _
  have hval : ∀ (j : Nat) t v, Try.f5.params[j]? = some t → args[j]? = some v → Value.okWide Try.prog W .any base t v := hval0
  have hW' := hW
  obtain ⟨p, q, hA0, hV, rfl, hfz, hnd⟩ := hW
  have hA : DataW.TrodAll enc Try.prog W 0 (fun _ => true) true Try.f5.params.toList args.toList ds p := hA0
  rw [Try.params5] at hA hval
  obtain ⟨v0, vs0, d0, ds0, p0, q0, hargs, rfl, rfl, h0, r0⟩ := trodAll_cons hA
  obtain ⟨v1, vs1, d1, ds1, p1, q1, rfl, rfl, rfl, h1, r1⟩ := trodAll_cons r0
  obtain ⟨v2, vs2, d2, ds2, p2, q2, rfl, rfl, rfl, h2, r2⟩ := trodAll_cons r1
  obtain ⟨v3, vs3, d3, ds3, p3, q3, rfl, rfl, rfl, h3, r3⟩ := trodAll_cons r2
  obtain ⟨v4, vs4, d4, ds4, p4, q4, rfl, rfl, rfl, h4, r4⟩ := trodAll_cons r3
  obtain ⟨v5, vs5, d5, ds5, p5, q5, rfl, rfl, rfl, h5, r5⟩ := trodAll_cons r4
  obtain ⟨rfl, rfl, rfl⟩ := trodAll_nil r5
  obtain rfl : args = #[v0, v1, v2, v3, v4, v5] := by cases args; simp_all
  obtain ⟨rfl, rfl⟩ := trodVars_none hV
  obtain ⟨a0, len0, cap0, rfl⟩ := okWide_slice Try.underlying22 (hval 0 22 v0 rfl rfl)
  have k0 := h0
  have lt0 : ∀ x ∈ p0, x.block < W.heap.size := by obtain ⟨m, hm⟩ := k0; exact DataW.trod_lt m _ _ _ hm
  obtain ⟨l0, rfl, s0, b0⟩ : ∃ l : (List Int), len0 = l.length ∧ (SlA a0 l.length cap0 l).p (fun b => b < W.heap.size) W ∧ ((l.length : Int) ≤ 140737488355328 ∧ ∀ y ∈ l, (-9223372036854775808 ≤ y ∧ y ≤ 9223372036854775807)) := by
    obtain ⟨fuel, hf⟩ := k0
    obtain ⟨l, ⟨p, n, k, hv, hs⟩, hg⟩ := OpnT.leaf (c := .slice a0 len0 cap0) (W := W) (opn_slice Try.underlying22 (by kernel_rfl) (by decide) (by kernel_rfl) (opn_int Try.underlying3)) hf (fun n hn => by have := List.all_eq_true.1 hsz0 n (DataW.weights_mem_each (j := 0) (t := 22) (by rfl) (by rfl) n hn); simpa using this)
    cases hv
    obtain rfl := hs.1
    exact ⟨l, rfl, hs, hg⟩
  obtain ⟨z1_0, rfl, y1_0, g1⟩ := okWide_cells Try.underlying29 (hval 1 29 v1 rfl rfl) (n := 2) (by kernel_rfl) (ts := [27, 27]) (by kernel_rfl) rfl
  clear g1
  obtain ⟨c1_0, z1_1, rfl, y1_1⟩ := peel y1_0
  obtain ⟨c1_1, z1_2, rfl, y1_2⟩ := peel y1_1
  obtain rfl := peel0 y1_2
  have k1 := h1
  have lt1 : ∀ x ∈ p1, x.block < W.heap.size := by obtain ⟨m, hm⟩ := k1; exact DataW.trod_lt m _ _ _ hm
  obtain ⟨e1, r1, b1⟩ : ∃ d : Receiver, Enc.rd (fun b => b < W.heap.size) W [c1_0, c1_1] d ∧ (((d.Got.length : Int) ≤ 140737488355328 ∧ ∀ y ∈ d.Got, ((-9223372036854775808 ≤ y.From ∧ y.From ≤ 9223372036854775807) ∧ (-9223372036854775808 ≤ y.To ∧ y.To ≤ 9223372036854775807))) ∧ ((d.Lost.length : Int) ≤ 140737488355328 ∧ ∀ y ∈ d.Lost, ((-9223372036854775808 ≤ y.From ∧ y.From ≤ 9223372036854775807) ∧ (-9223372036854775808 ≤ y.To ∧ y.To ≤ 9223372036854775807)))) := by
    obtain ⟨fuel, hf⟩ := k1
    exact opn_29 (W := W) hf (fun n hn => by have := List.all_eq_true.1 hsz0 n (DataW.weights_mem_each (j := 1) (t := 29) (by rfl) (by rfl) n hn); simpa using this)
  obtain ⟨_, _, hc1, q1_0, q1_1⟩ := r1
  simp only [List.cons.injEq, and_true] at hc1
  obtain ⟨rfl, rfl⟩ := hc1
  obtain ⟨a1_0, n1_0, k1_0, rfl, s1_0⟩ := q1_0
  obtain rfl := s1_0.1
  obtain ⟨a1_1, n1_1, k1_1, rfl, s1_1⟩ := q1_1
  obtain rfl := s1_1.1
  obtain ⟨a2, rfl, rfl, rfl, w2⟩ := open_int Try.underlying3 (hval 2 3 v2 rfl rfl) h2
  have b2 : -9223372036854775808 ≤ a2 ∧ a2 ≤ 9223372036854775807 := by simpa [Lit.wf, IntKind.min, IntKind.max, IntKind.signed, IntKind.bits] using w2
  obtain ⟨a3, rfl, rfl, rfl, w3⟩ := open_int Try.underlying3 (hval 3 3 v3 rfl rfl) h3
  have b3 : -9223372036854775808 ≤ a3 ∧ a3 ≤ 9223372036854775807 := by simpa [Lit.wf, IntKind.min, IntKind.max, IntKind.signed, IntKind.bits] using w3
  obtain ⟨a4, rfl, rfl, rfl, w4⟩ := open_int Try.underlying3 (hval 4 3 v4 rfl rfl) h4
  have b4 : -9223372036854775808 ≤ a4 ∧ a4 ≤ 9223372036854775807 := by simpa [Lit.wf, IntKind.min, IntKind.max, IntKind.signed, IntKind.bits] using w4
  obtain ⟨a5, rfl, rfl, rfl, w5⟩ := open_int Try.underlying3 (hval 5 3 v5 rfl rfl) h5
  have b5 : -9223372036854775808 ≤ a5 ∧ a5 ≤ 9223372036854775807 := by simpa [Lit.wf, IntKind.min, IntKind.max, IntKind.signed, IntKind.bits] using w5
  clear hA0 hval0
  refine (law11_ReceiverExact_ok (w0 := W) (S0 := fun b => b < W.heap.size) (law11_ReceiverExact_true l0 e1 a2 a3 a4 a5 b0 b1 b2 b3 b4 b5) (fun _ h => h) s0 s1_0 s1_1).mono fun e W' ⟨v, S', he, hp, hv⟩ => ?_
  subst he
  have hv : v = .bool true := hv
  subst hv
  have bel := hp.below
  exact ⟨_, rfl, _, _, _, [], _, [], hW', trodAll_mk1 (shut_bool Try.underlying4 _), (trodAll_cons_mk (Below.trod laidOut (by kernel_rfl) (of_decide_eq_true (by kernel_rfl)) k0 bel lt0) (trodAll_cons_mk (Below.trod laidOut (by kernel_rfl) (of_decide_eq_true (by kernel_rfl)) k1 bel lt1) (trodAll_cons_mk (shut_int Try.underlying3 w2) (trodAll_cons_mk (shut_int Try.underlying3 w3) (trodAll_cons_mk (shut_int Try.underlying3 w4) (trodAll_cons_mk (shut_int Try.underlying3 w5) trodAll_mk0)))))), rfl, bel.frame _, fun h => by cases h⟩

theorem over : Rows.receiverExactRow.holds Try.pinned (OpenSpec.ofChange Rows.receiverExactSpec) :=
  OpenClaim.holds_of_wide 5 Try.f5 rfl rfl rfl rfl rfl rfl rfl ⟨rfl, rfl, rfl, rfl, rfl⟩ rfl rfl rfl rfl rfl (by kernel_rfl) Try.func5 (by kernel_rfl)
    (of_decide_eq_true (by kernel_rfl)) (by unfold Func.isWrapper; first | (rw [if_pos (by decide +kernel)]; kernel_rfl) | (rw [if_neg (by decide +kernel)]; exact ⟨rfl, rfl⟩))
    (fun os started H enc _ => lifted os started H enc)

theorem proved : Rows.ReceiverExactSaid := over
end Go.Proofs.Ytiihddcppmjbaaa.receiverExact

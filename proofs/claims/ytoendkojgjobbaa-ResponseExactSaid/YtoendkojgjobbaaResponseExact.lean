/- The statement ResponseExact holds: the law returns true at every input, and its arguments read as before. -/
import Derived.Test.YtoendkojgjobbaaRows
import Derived.Test.YtoendkojgjobbaaWResponseExact5
import Derived.Test.YtoendkojgjobbaaResponseExactLaw
import Derived.Test.YtoendkojgjobbaaLibO
import Derived.KernelRfl
namespace Go.Proofs.Ytoendkojgjobbaa.responseExact
open Go Go.RowKit Go.Proofs Go.Proofs.Ytoendkojgjobbaa.Sh Go.Proofs.Ytoendkojgjobbaa.Wk
open Go.ChangeShapes Go.WideShapes Go.ChangeAt
set_option linter.unusedVariables false

theorem own : ownKnob Try.prog.godebug = none := by kernel_rfl
theorem laidOut : laidOutB Try.prog = true := by kernel_rfl

set_option maxRecDepth 100000 in
theorem opn_26 {W : World} : OpnT Try.prog W 26 Stage (fun x => ((-9223372036854775808 ≤ x.Kind ∧ x.Kind ≤ 9223372036854775807) ∧ ((-9223372036854775808 ≤ x.Num.e0 ∧ x.Num.e0 ≤ 9223372036854775807) ∧ (-9223372036854775808 ≤ x.Num.e1 ∧ x.Num.e1 ≤ 9223372036854775807) ∧ (-9223372036854775808 ≤ x.Num.e2 ∧ x.Num.e2 ≤ 9223372036854775807)) ∧ ((-9223372036854775808 ≤ x.Den.e0 ∧ x.Den.e0 ≤ 9223372036854775807) ∧ (-9223372036854775808 ≤ x.Den.e1 ∧ x.Den.e1 ≤ 9223372036854775807) ∧ (-9223372036854775808 ≤ x.Den.e2 ∧ x.Den.e2 ≤ 9223372036854775807)) ∧ ((x.Taps.length : Int) ≤ 140737488355328 ∧ ∀ y ∈ x.Taps, (-9223372036854775808 ≤ y ∧ y ≤ 9223372036854775807)) ∧ (-9223372036854775808 ≤ x.Factor ∧ x.Factor ≤ 9223372036854775807) ∧ (-9223372036854775808 ≤ x.Shift ∧ x.Shift ≤ 9223372036854775807))) := fun {H enc fuel cs x} h hz => by
  have z0 := trod_len Try.underlying26 h (n := 10) (by kernel_rfl)
  obtain ⟨c0, cs1, rfl, z1⟩ := peel z0
  obtain ⟨c1, cs2, rfl, z2⟩ := peel z1
  obtain ⟨c2, cs3, rfl, z3⟩ := peel z2
  obtain ⟨c3, cs4, rfl, z4⟩ := peel z3
  obtain ⟨c4, cs5, rfl, z5⟩ := peel z4
  obtain ⟨c5, cs6, rfl, z6⟩ := peel z5
  obtain ⟨c6, cs7, rfl, z7⟩ := peel z6
  obtain ⟨c7, cs8, rfl, z8⟩ := peel z7
  obtain ⟨c8, cs9, rfl, z9⟩ := peel z8
  obtain ⟨c9, cs10, rfl, z10⟩ := peel z9
  obtain rfl := peel0 z10
  obtain ⟨fm0_0, ym0_0, m0_0, wm0_0⟩ := trod_fieldW Try.underlying26 h (i := 0) rfl (ft := 3) (o := 0) (n := 1) rfl rfl (by kernel_rfl)
  obtain ⟨d0, r0, g0⟩ := OpnT.leaf (c := c0) (W := W) (opn_int Try.underlying3) m0_0 (wm0_0 hz)
  obtain ⟨fm1_0, ym1_0, m1_0, wm1_0⟩ := trod_fieldW Try.underlying26 h (i := 1) rfl (ft := 23) (o := 1) (n := 3) rfl rfl (by kernel_rfl)
  obtain ⟨fm1_1, ym1_1, m1_1, wm1_1⟩ := trod_elem Try.underlying23 m1_0 (i := 0) (by decide) (sz := 1) (by kernel_rfl)
  obtain ⟨d1, r1, g1⟩ := OpnT.leaf (c := c1) (W := W) (opn_int Try.underlying3) m1_1 (wm1_1 (wm1_0 hz))
  obtain ⟨fm2_0, ym2_0, m2_0, wm2_0⟩ := trod_fieldW Try.underlying26 h (i := 1) rfl (ft := 23) (o := 1) (n := 3) rfl rfl (by kernel_rfl)
  obtain ⟨fm2_1, ym2_1, m2_1, wm2_1⟩ := trod_elem Try.underlying23 m2_0 (i := 1) (by decide) (sz := 1) (by kernel_rfl)
  obtain ⟨d2, r2, g2⟩ := OpnT.leaf (c := c2) (W := W) (opn_int Try.underlying3) m2_1 (wm2_1 (wm2_0 hz))
  obtain ⟨fm3_0, ym3_0, m3_0, wm3_0⟩ := trod_fieldW Try.underlying26 h (i := 1) rfl (ft := 23) (o := 1) (n := 3) rfl rfl (by kernel_rfl)
  obtain ⟨fm3_1, ym3_1, m3_1, wm3_1⟩ := trod_elem Try.underlying23 m3_0 (i := 2) (by decide) (sz := 1) (by kernel_rfl)
  obtain ⟨d3, r3, g3⟩ := OpnT.leaf (c := c3) (W := W) (opn_int Try.underlying3) m3_1 (wm3_1 (wm3_0 hz))
  obtain ⟨fm4_0, ym4_0, m4_0, wm4_0⟩ := trod_fieldW Try.underlying26 h (i := 2) rfl (ft := 23) (o := 4) (n := 3) rfl rfl (by kernel_rfl)
  obtain ⟨fm4_1, ym4_1, m4_1, wm4_1⟩ := trod_elem Try.underlying23 m4_0 (i := 0) (by decide) (sz := 1) (by kernel_rfl)
  obtain ⟨d4, r4, g4⟩ := OpnT.leaf (c := c4) (W := W) (opn_int Try.underlying3) m4_1 (wm4_1 (wm4_0 hz))
  obtain ⟨fm5_0, ym5_0, m5_0, wm5_0⟩ := trod_fieldW Try.underlying26 h (i := 2) rfl (ft := 23) (o := 4) (n := 3) rfl rfl (by kernel_rfl)
  obtain ⟨fm5_1, ym5_1, m5_1, wm5_1⟩ := trod_elem Try.underlying23 m5_0 (i := 1) (by decide) (sz := 1) (by kernel_rfl)
  obtain ⟨d5, r5, g5⟩ := OpnT.leaf (c := c5) (W := W) (opn_int Try.underlying3) m5_1 (wm5_1 (wm5_0 hz))
  obtain ⟨fm6_0, ym6_0, m6_0, wm6_0⟩ := trod_fieldW Try.underlying26 h (i := 2) rfl (ft := 23) (o := 4) (n := 3) rfl rfl (by kernel_rfl)
  obtain ⟨fm6_1, ym6_1, m6_1, wm6_1⟩ := trod_elem Try.underlying23 m6_0 (i := 2) (by decide) (sz := 1) (by kernel_rfl)
  obtain ⟨d6, r6, g6⟩ := OpnT.leaf (c := c6) (W := W) (opn_int Try.underlying3) m6_1 (wm6_1 (wm6_0 hz))
  obtain ⟨fm7_0, ym7_0, m7_0, wm7_0⟩ := trod_fieldW Try.underlying26 h (i := 3) rfl (ft := 24) (o := 7) (n := 1) rfl rfl (by kernel_rfl)
  obtain ⟨d7, r7, g7⟩ := OpnT.leaf (c := c7) (W := W) (opn_slice Try.underlying24 (by kernel_rfl) (by decide) (by kernel_rfl) (opn_int Try.underlying3)) m7_0 (wm7_0 hz)
  obtain ⟨fm8_0, ym8_0, m8_0, wm8_0⟩ := trod_fieldW Try.underlying26 h (i := 4) rfl (ft := 3) (o := 8) (n := 1) rfl rfl (by kernel_rfl)
  obtain ⟨d8, r8, g8⟩ := OpnT.leaf (c := c8) (W := W) (opn_int Try.underlying3) m8_0 (wm8_0 hz)
  obtain ⟨fm9_0, ym9_0, m9_0, wm9_0⟩ := trod_fieldW Try.underlying26 h (i := 5) rfl (ft := 3) (o := 9) (n := 1) rfl rfl (by kernel_rfl)
  obtain ⟨d9, r9, g9⟩ := OpnT.leaf (c := c9) (W := W) (opn_int Try.underlying3) m9_0 (wm9_0 hz)
  exact ⟨(⟨d0, (⟨d1, d2, d3⟩ : (Arr3 Int)), (⟨d4, d5, d6⟩ : (Arr3 Int)), d7, d8, d9⟩ : Stage), ⟨_, _, _, _, _, _, _, _, _, _, rfl, r0, r1, r2, r3, r4, r5, r6, r7, r8, r9⟩, ⟨g0, ⟨g1, g2, g3⟩, ⟨g4, g5, g6⟩, g7, g8, g9⟩⟩

set_option maxRecDepth 100000 in
theorem opn_37 {W : World} : OpnT Try.prog W 37 Response (fun x => (((x.Stages.length : Int) ≤ 140737488355328 ∧ ∀ y ∈ x.Stages, ((-9223372036854775808 ≤ y.Kind ∧ y.Kind ≤ 9223372036854775807) ∧ ((-9223372036854775808 ≤ y.Num.e0 ∧ y.Num.e0 ≤ 9223372036854775807) ∧ (-9223372036854775808 ≤ y.Num.e1 ∧ y.Num.e1 ≤ 9223372036854775807) ∧ (-9223372036854775808 ≤ y.Num.e2 ∧ y.Num.e2 ≤ 9223372036854775807)) ∧ ((-9223372036854775808 ≤ y.Den.e0 ∧ y.Den.e0 ≤ 9223372036854775807) ∧ (-9223372036854775808 ≤ y.Den.e1 ∧ y.Den.e1 ≤ 9223372036854775807) ∧ (-9223372036854775808 ≤ y.Den.e2 ∧ y.Den.e2 ≤ 9223372036854775807)) ∧ ((y.Taps.length : Int) ≤ 140737488355328 ∧ ∀ yy ∈ y.Taps, (-9223372036854775808 ≤ yy ∧ yy ≤ 9223372036854775807)) ∧ (-9223372036854775808 ≤ y.Factor ∧ y.Factor ≤ 9223372036854775807) ∧ (-9223372036854775808 ≤ y.Shift ∧ y.Shift ≤ 9223372036854775807))))) := fun {H enc fuel cs x} h hz => by
  have z0 := trod_len Try.underlying37 h (n := 1) (by kernel_rfl)
  obtain ⟨c0, cs1, rfl, z1⟩ := peel z0
  obtain rfl := peel0 z1
  obtain ⟨fm0_0, ym0_0, m0_0, wm0_0⟩ := trod_fieldW Try.underlying37 h (i := 0) rfl (ft := 35) (o := 0) (n := 1) rfl rfl (by kernel_rfl)
  obtain ⟨d0, r0, g0⟩ := OpnT.leaf (c := c0) (W := W) (opn_slice Try.underlying35 (by kernel_rfl) (by decide) (by kernel_rfl) opn_26) m0_0 (wm0_0 hz)
  exact ⟨(⟨d0⟩ : Response), ⟨_, rfl, r0⟩, g0⟩

set_option maxRecDepth 100000 in
theorem opn_51 {W : World} : OpnT Try.prog W 51 Rate (fun x => ((-9223372036854775808 ≤ x.Num ∧ x.Num ≤ 9223372036854775807) ∧ (-9223372036854775808 ≤ x.Den ∧ x.Den ≤ 9223372036854775807))) := fun {H enc fuel cs x} h hz => by
  have z0 := trod_len Try.underlying51 h (n := 2) (by kernel_rfl)
  obtain ⟨c0, cs1, rfl, z1⟩ := peel z0
  obtain ⟨c1, cs2, rfl, z2⟩ := peel z1
  obtain rfl := peel0 z2
  obtain ⟨fm0_0, ym0_0, m0_0, wm0_0⟩ := trod_fieldW Try.underlying51 h (i := 0) rfl (ft := 3) (o := 0) (n := 1) rfl rfl (by kernel_rfl)
  obtain ⟨d0, r0, g0⟩ := OpnT.leaf (c := c0) (W := W) (opn_int Try.underlying3) m0_0 (wm0_0 hz)
  obtain ⟨fm1_0, ym1_0, m1_0, wm1_0⟩ := trod_fieldW Try.underlying51 h (i := 1) rfl (ft := 3) (o := 1) (n := 1) rfl rfl (by kernel_rfl)
  obtain ⟨d1, r1, g1⟩ := OpnT.leaf (c := c1) (W := W) (opn_int Try.underlying3) m1_0 (wm1_0 hz)
  exact ⟨(⟨d0, d1⟩ : Rate), ⟨_, _, rfl, r0, r1⟩, ⟨g0, g1⟩⟩

set_option maxRecDepth 100000 in
theorem lifted (os : Os) (started : os.Started) (H : Type) (enc : TypeId × Value → H) :
    ReturnsInHanded {} Try.checked os 6 .any (Rows.responseExactSpec.pre6 enc Try.prog Try.f6 Rows.responseExactRow.domain false) (Rows.responseExactSpec.post enc Try.prog Try.f6 false true false false) := by
  refine returnsInHanded_of_change_sized (C := Try.checked) own started (by kernel_rfl) Try.func6
    (ChangeSpec.witness6 (enc := enc) (C := Try.checked) false ⟨#[], #[.slice none 0 0, .agg #[.slice none 0 0], .agg #[.int .i64 0, .int .i64 0], .int .i64 0, .int .i64 0], []⟩ 8 (by kernel_rfl) (by kernel_rfl) (by kernel_rfl) (by kernel_rfl)) ?_
  intro W base args ds gs before hval0 hW hcnd hsz0 _
  have hval : ∀ (j : Nat) t v, Try.f6.params[j]? = some t → args[j]? = some v → Value.okWide Try.prog W .any base t v := hval0
  have hW' := hW
  obtain ⟨p, q, hA0, hV, rfl, hfz, hnd⟩ := hW
  have hA : DataW.TrodAll enc Try.prog W 0 (fun _ => true) true Try.f6.params.toList args.toList ds p := hA0
  rw [Try.params6] at hA hval
  obtain ⟨v0, vs0, d0, ds0, p0, q0, hargs, rfl, rfl, h0, r0⟩ := trodAll_cons hA
  obtain ⟨v1, vs1, d1, ds1, p1, q1, rfl, rfl, rfl, h1, r1⟩ := trodAll_cons r0
  obtain ⟨v2, vs2, d2, ds2, p2, q2, rfl, rfl, rfl, h2, r2⟩ := trodAll_cons r1
  obtain ⟨v3, vs3, d3, ds3, p3, q3, rfl, rfl, rfl, h3, r3⟩ := trodAll_cons r2
  obtain ⟨v4, vs4, d4, ds4, p4, q4, rfl, rfl, rfl, h4, r4⟩ := trodAll_cons r3
  obtain ⟨rfl, rfl, rfl⟩ := trodAll_nil r4
  obtain rfl : args = #[v0, v1, v2, v3, v4] := by cases args; simp_all
  obtain ⟨rfl, rfl⟩ := trodVars_none hV
  obtain ⟨a0, len0, cap0, rfl⟩ := okWide_slice Try.underlying24 (hval 0 24 v0 rfl rfl)
  have k0 := h0
  have lt0 : ∀ x ∈ p0, x.block < W.heap.size := by obtain ⟨m, hm⟩ := k0; exact DataW.trod_lt m _ _ _ hm
  obtain ⟨l0, rfl, s0, b0⟩ : ∃ l : (List Int), len0 = l.length ∧ (SlA a0 l.length cap0 l).p (fun b => b < W.heap.size) W ∧ ((l.length : Int) ≤ 140737488355328 ∧ ∀ y ∈ l, (-9223372036854775808 ≤ y ∧ y ≤ 9223372036854775807)) := by
    obtain ⟨fuel, hf⟩ := k0
    obtain ⟨l, ⟨p, n, k, hv, hs⟩, hg⟩ := OpnT.leaf (c := .slice a0 len0 cap0) (W := W) (opn_slice Try.underlying24 (by kernel_rfl) (by decide) (by kernel_rfl) (opn_int Try.underlying3)) hf (fun n hn => by have := List.all_eq_true.1 hsz0 n (DataW.weights_mem_each (j := 0) (t := 24) (by rfl) (by rfl) n hn); simpa using this)
    cases hv
    obtain rfl := hs.1
    exact ⟨l, rfl, hs, hg⟩
  obtain ⟨z1_0, rfl, y1_0, g1⟩ := okWide_cells Try.underlying37 (hval 1 37 v1 rfl rfl) (n := 1) (by kernel_rfl) (ts := [35]) (by kernel_rfl) rfl
  clear g1
  obtain ⟨c1_0, z1_1, rfl, y1_1⟩ := peel y1_0
  obtain rfl := peel0 y1_1
  have k1 := h1
  have lt1 : ∀ x ∈ p1, x.block < W.heap.size := by obtain ⟨m, hm⟩ := k1; exact DataW.trod_lt m _ _ _ hm
  obtain ⟨e1, r1, b1⟩ : ∃ d : Response, Enc.rd (fun b => b < W.heap.size) W [c1_0] d ∧ (((d.Stages.length : Int) ≤ 140737488355328 ∧ ∀ y ∈ d.Stages, ((-9223372036854775808 ≤ y.Kind ∧ y.Kind ≤ 9223372036854775807) ∧ ((-9223372036854775808 ≤ y.Num.e0 ∧ y.Num.e0 ≤ 9223372036854775807) ∧ (-9223372036854775808 ≤ y.Num.e1 ∧ y.Num.e1 ≤ 9223372036854775807) ∧ (-9223372036854775808 ≤ y.Num.e2 ∧ y.Num.e2 ≤ 9223372036854775807)) ∧ ((-9223372036854775808 ≤ y.Den.e0 ∧ y.Den.e0 ≤ 9223372036854775807) ∧ (-9223372036854775808 ≤ y.Den.e1 ∧ y.Den.e1 ≤ 9223372036854775807) ∧ (-9223372036854775808 ≤ y.Den.e2 ∧ y.Den.e2 ≤ 9223372036854775807)) ∧ ((y.Taps.length : Int) ≤ 140737488355328 ∧ ∀ yy ∈ y.Taps, (-9223372036854775808 ≤ yy ∧ yy ≤ 9223372036854775807)) ∧ (-9223372036854775808 ≤ y.Factor ∧ y.Factor ≤ 9223372036854775807) ∧ (-9223372036854775808 ≤ y.Shift ∧ y.Shift ≤ 9223372036854775807)))) := by
    obtain ⟨fuel, hf⟩ := k1
    exact opn_37 (W := W) hf (fun n hn => by have := List.all_eq_true.1 hsz0 n (DataW.weights_mem_each (j := 1) (t := 37) (by rfl) (by rfl) n hn); simpa using this)
  obtain ⟨_, hc1, q1_0⟩ := r1
  simp only [List.cons.injEq, and_true] at hc1
  obtain rfl := hc1
  obtain ⟨a1_0, n1_0, k1_0, rfl, s1_0⟩ := q1_0
  obtain rfl := s1_0.1
  obtain ⟨z2_0, rfl, y2_0, g2⟩ := okWide_cells Try.underlying51 (hval 2 51 v2 rfl rfl) (n := 2) (by kernel_rfl) (ts := [3, 3]) (by kernel_rfl) rfl
  clear g2
  obtain ⟨c2_0, z2_1, rfl, y2_1⟩ := peel y2_0
  obtain ⟨c2_1, z2_2, rfl, y2_2⟩ := peel y2_1
  obtain rfl := peel0 y2_2
  have k2 := h2
  have lt2 : ∀ x ∈ p2, x.block < W.heap.size := by obtain ⟨m, hm⟩ := k2; exact DataW.trod_lt m _ _ _ hm
  obtain ⟨e2, r2, b2⟩ : ∃ d : Rate, Enc.rd (fun b => b < W.heap.size) W [c2_0, c2_1] d ∧ ((-9223372036854775808 ≤ d.Num ∧ d.Num ≤ 9223372036854775807) ∧ (-9223372036854775808 ≤ d.Den ∧ d.Den ≤ 9223372036854775807)) := by
    obtain ⟨fuel, hf⟩ := k2
    exact opn_51 (W := W) hf (fun n hn => by have := List.all_eq_true.1 hsz0 n (DataW.weights_mem_each (j := 2) (t := 51) (by rfl) (by rfl) n hn); simpa using this)
  obtain ⟨_, _, hc2, q2_0, q2_1⟩ := r2
  simp only [List.cons.injEq, and_true] at hc2
  obtain ⟨rfl, rfl⟩ := hc2
  subst q2_0
  subst q2_1
  obtain ⟨a3, rfl, rfl, rfl, w3⟩ := open_int Try.underlying3 (hval 3 3 v3 rfl rfl) h3
  have b3 : -9223372036854775808 ≤ a3 ∧ a3 ≤ 9223372036854775807 := by simpa [Lit.wf, IntKind.min, IntKind.max, IntKind.signed, IntKind.bits] using w3
  obtain ⟨a4, rfl, rfl, rfl, w4⟩ := open_int Try.underlying3 (hval 4 3 v4 rfl rfl) h4
  have b4 : -9223372036854775808 ≤ a4 ∧ a4 ≤ 9223372036854775807 := by simpa [Lit.wf, IntKind.min, IntKind.max, IntKind.signed, IntKind.bits] using w4
  clear hA0 hval0
  refine (law18_ResponseExact_ok (w0 := W) (S0 := fun b => b < W.heap.size) (law18_ResponseExact_true l0 e1 e2 a3 a4 ) (fun _ h => h) s0 s1_0).mono fun e W' ⟨v, S', he, hp, hv⟩ => ?_
  subst he
  have hv : v = .bool true := hv
  subst hv
  have bel := hp.below
  exact ⟨_, rfl, _, _, _, [], _, [], hW', trodAll_mk1 (shut_bool Try.underlying4 _), (trodAll_cons_mk (Below.trod laidOut (by kernel_rfl) (of_decide_eq_true (by kernel_rfl)) k0 bel lt0) (trodAll_cons_mk (Below.trod laidOut (by kernel_rfl) (of_decide_eq_true (by kernel_rfl)) k1 bel lt1) (trodAll_cons_mk (Below.trod laidOut (by kernel_rfl) (of_decide_eq_true (by kernel_rfl)) k2 bel lt2) (trodAll_cons_mk (shut_int Try.underlying3 w3) (trodAll_cons_mk (shut_int Try.underlying3 w4) trodAll_mk0))))), rfl, bel.frame _, fun h => by cases h⟩

theorem over : Rows.responseExactRow.holds Try.pinned (OpenSpec.ofChange Rows.responseExactSpec) :=
  OpenClaim.holds_of_wide 6 Try.f6 rfl rfl rfl rfl rfl rfl rfl ⟨rfl, rfl, rfl, rfl, rfl⟩ rfl rfl rfl rfl rfl (by kernel_rfl) Try.func6 (by kernel_rfl)
    (of_decide_eq_true (by kernel_rfl)) (by unfold Func.isWrapper; first | (rw [if_pos (by decide +kernel)]; kernel_rfl) | (rw [if_neg (by decide +kernel)]; exact ⟨rfl, rfl⟩))
    (fun os started H enc _ => lifted os started H enc)

theorem proved : Rows.ResponseExactSaid := over
end Go.Proofs.Ytoendkojgjobbaa.responseExact

/- The statement LinkExact holds: the law returns true at every input, and its arguments read as before. -/
import Derived.Test.YtljdiobhmenjgaaRows
import Derived.Test.YtljdiobhmenjgaaWLinkExact3
import Derived.Test.YtljdiobhmenjgaaLinkExactLaw
import Derived.Test.YtljdiobhmenjgaaLibO
import Derived.ChangeMaps5
import Derived.KernelRfl
namespace Go.Proofs.Ytljdiobhmenjgaa.linkExact
open Go Go.RowKit Go.Proofs Go.Proofs.Ytljdiobhmenjgaa.Sh Go.Proofs.Ytljdiobhmenjgaa.Wk
open Go.ChangeShapes Go.WideShapes Go.ChangeAt
set_option linter.unusedVariables false

theorem own : ownKnob Try.prog.godebug = none := by kernel_rfl
theorem laidOut : laidOutB Try.prog = true := by kernel_rfl

set_option maxRecDepth 100000 in
theorem opn_47 {W : World} : OpnT Try.prog W 47 Transit (fun x => ((-9223372036854775808 ≤ x.At ∧ x.At ≤ 9223372036854775807) ∧ (-9223372036854775808 ≤ x.Order ∧ x.Order ≤ 9223372036854775807) ∧ ((x.Data.size : Int) ≤ 9223372036854775807))) := fun {H enc fuel cs x} h hz => by
  have z0 := trod_len Try.underlying47 h (n := 3) (by kernel_rfl)
  obtain ⟨c0, cs1, rfl, z1⟩ := peel z0
  obtain ⟨c1, cs2, rfl, z2⟩ := peel z1
  obtain ⟨c2, cs3, rfl, z3⟩ := peel z2
  obtain rfl := peel0 z3
  obtain ⟨fm0_0, ym0_0, m0_0, wm0_0⟩ := trod_fieldW Try.underlying47 h (i := 0) rfl (ft := 3) (o := 0) (n := 1) rfl rfl (by kernel_rfl)
  obtain ⟨d0, r0, g0⟩ := OpnT.leaf (c := c0) (W := W) (opn_int Try.underlying3) m0_0 (wm0_0 hz)
  obtain ⟨fm1_0, ym1_0, m1_0, wm1_0⟩ := trod_fieldW Try.underlying47 h (i := 1) rfl (ft := 3) (o := 1) (n := 1) rfl rfl (by kernel_rfl)
  obtain ⟨d1, r1, g1⟩ := OpnT.leaf (c := c1) (W := W) (opn_int Try.underlying3) m1_0 (wm1_0 hz)
  obtain ⟨fm2_0, ym2_0, m2_0, wm2_0⟩ := trod_fieldW Try.underlying47 h (i := 2) rfl (ft := 9) (o := 2) (n := 1) rfl rfl (by kernel_rfl)
  obtain ⟨d2, r2, g2⟩ := OpnT.leaf (c := c2) (W := W) (opn_string Try.underlying9) m2_0 (wm2_0 hz)
  exact ⟨(⟨d0, d1, d2⟩ : Transit), ⟨_, _, _, rfl, r0, r1, r2⟩, ⟨g0, g1, g2⟩⟩

set_option maxRecDepth 100000 in
theorem opn_29 {W : World} : OpnT Try.prog W 29 Wire (fun x => ((-9223372036854775808 ≤ x.Now ∧ x.Now ≤ 9223372036854775807) ∧ (-9223372036854775808 ≤ x.Order ∧ x.Order ≤ 9223372036854775807) ∧ ((x.Items.length : Int) ≤ 140737488355328 ∧ ∀ y ∈ x.Items, ((-9223372036854775808 ≤ y.At ∧ y.At ≤ 9223372036854775807) ∧ (-9223372036854775808 ≤ y.Order ∧ y.Order ≤ 9223372036854775807) ∧ ((y.Data.size : Int) ≤ 9223372036854775807))))) := fun {H enc fuel cs x} h hz => by
  have z0 := trod_len Try.underlying29 h (n := 3) (by kernel_rfl)
  obtain ⟨c0, cs1, rfl, z1⟩ := peel z0
  obtain ⟨c1, cs2, rfl, z2⟩ := peel z1
  obtain ⟨c2, cs3, rfl, z3⟩ := peel z2
  obtain rfl := peel0 z3
  obtain ⟨fm0_0, ym0_0, m0_0, wm0_0⟩ := trod_fieldW Try.underlying29 h (i := 0) rfl (ft := 3) (o := 0) (n := 1) rfl rfl (by kernel_rfl)
  obtain ⟨d0, r0, g0⟩ := OpnT.leaf (c := c0) (W := W) (opn_int Try.underlying3) m0_0 (wm0_0 hz)
  obtain ⟨fm1_0, ym1_0, m1_0, wm1_0⟩ := trod_fieldW Try.underlying29 h (i := 1) rfl (ft := 3) (o := 1) (n := 1) rfl rfl (by kernel_rfl)
  obtain ⟨d1, r1, g1⟩ := OpnT.leaf (c := c1) (W := W) (opn_int Try.underlying3) m1_0 (wm1_0 hz)
  obtain ⟨fm2_0, ym2_0, m2_0, wm2_0⟩ := trod_fieldW Try.underlying29 h (i := 2) rfl (ft := 27) (o := 2) (n := 1) rfl rfl (by kernel_rfl)
  obtain ⟨d2, r2, g2⟩ := OpnT.leaf (c := c2) (W := W) (opn_slice Try.underlying27 (by kernel_rfl) (by decide) (by kernel_rfl) opn_47) m2_0 (wm2_0 hz)
  exact ⟨(⟨d0, d1, d2⟩ : Wire), ⟨_, _, _, rfl, r0, r1, r2⟩, ⟨g0, g1, g2⟩⟩

set_option maxRecDepth 100000 in
theorem opn_32 {W : World} : OpnT Try.prog W 32 Fault (fun x => (True ∧ (-9223372036854775808 ≤ x.Delay ∧ x.Delay ≤ 9223372036854775807) ∧ (-9223372036854775808 ≤ x.Copies ∧ x.Copies ≤ 9223372036854775807))) := fun {H enc fuel cs x} h hz => by
  have z0 := trod_len Try.underlying32 h (n := 3) (by kernel_rfl)
  obtain ⟨c0, cs1, rfl, z1⟩ := peel z0
  obtain ⟨c1, cs2, rfl, z2⟩ := peel z1
  obtain ⟨c2, cs3, rfl, z3⟩ := peel z2
  obtain rfl := peel0 z3
  obtain ⟨fm0_0, ym0_0, m0_0, wm0_0⟩ := trod_fieldW Try.underlying32 h (i := 0) rfl (ft := 4) (o := 0) (n := 1) rfl rfl (by kernel_rfl)
  obtain ⟨d0, r0, g0⟩ := OpnT.leaf (c := c0) (W := W) (opn_bool Try.underlying4) m0_0 (wm0_0 hz)
  obtain ⟨fm1_0, ym1_0, m1_0, wm1_0⟩ := trod_fieldW Try.underlying32 h (i := 1) rfl (ft := 3) (o := 1) (n := 1) rfl rfl (by kernel_rfl)
  obtain ⟨d1, r1, g1⟩ := OpnT.leaf (c := c1) (W := W) (opn_int Try.underlying3) m1_0 (wm1_0 hz)
  obtain ⟨fm2_0, ym2_0, m2_0, wm2_0⟩ := trod_fieldW Try.underlying32 h (i := 2) rfl (ft := 3) (o := 2) (n := 1) rfl rfl (by kernel_rfl)
  obtain ⟨d2, r2, g2⟩ := OpnT.leaf (c := c2) (W := W) (opn_int Try.underlying3) m2_0 (wm2_0 hz)
  exact ⟨(⟨d0, d1, d2⟩ : Fault), ⟨_, _, _, rfl, r0, r1, r2⟩, ⟨g0, g1, g2⟩⟩

set_option maxRecDepth 100000 in
theorem lifted (os : Os) (started : os.Started) (H : Type) (enc : TypeId × Value → H) :
    ReturnsInHanded {} Try.checked os 5 .any (Rows.linkExactSpec.pre6 enc Try.prog Try.f5 Rows.linkExactRow.domain false) (Rows.linkExactSpec.post enc Try.prog Try.f5 false true false false) := by
  refine returnsInHanded_of_change_sized (C := Try.checked) own started (by kernel_rfl) Try.func5
    (ChangeSpec.witness6 (enc := enc) (C := Try.checked) false ⟨#[], #[.slice none 0 0, .agg #[.int .i64 0, .int .i64 0, .slice none 0 0], .string ⟨#[]⟩, .agg #[.bool false, .int .i64 0, .int .i64 0]], []⟩ 8 (by kernel_rfl) (by kernel_rfl) (by kernel_rfl) (by kernel_rfl)) ?_
  intro W base args ds gs before hval0 hW hcnd hsz0 _
  have hval : ∀ (j : Nat) t v, Try.f5.params[j]? = some t → args[j]? = some v → Value.okWide Try.prog W .any base t v := hval0
  have hW' := hW
  obtain ⟨p, q, hA0, hV, rfl, hfz, hnd⟩ := hW
  have hA : DataW.TrodAll enc Try.prog W 0 (fun _ => true) true Try.f5.params.toList args.toList ds p := hA0
  rw [Try.params5] at hA hval
  obtain ⟨v0, vs0, d0, ds0, p0, q0, hargs, rfl, rfl, h0, r0⟩ := trodAll_cons hA
  obtain ⟨v1, vs1, d1, ds1, p1, q1, rfl, rfl, rfl, h1, r1⟩ := trodAll_cons r0
  obtain ⟨v2, vs2, d2, ds2, p2, q2, rfl, rfl, rfl, h2, r2⟩ := trodAll_cons r1
  obtain ⟨v3, vs3, d3, ds3, p3, q3, rfl, rfl, rfl, h3, r3⟩ := trodAll_cons r2
  obtain ⟨rfl, rfl, rfl⟩ := trodAll_nil r3
  obtain rfl : args = #[v0, v1, v2, v3] := by cases args; simp_all
  obtain ⟨rfl, rfl⟩ := trodVars_none hV
  obtain ⟨a0, len0, cap0, rfl⟩ := okWide_slice Try.underlying22 (hval 0 22 v0 rfl rfl)
  have k0 := h0
  have lt0 : ∀ x ∈ p0, x.block < W.heap.size := by obtain ⟨m, hm⟩ := k0; exact DataW.trod_lt m _ _ _ hm
  obtain ⟨l0, rfl, s0, b0⟩ : ∃ l : (List Int), len0 = l.length ∧ (SlA a0 l.length cap0 l).p (fun b => b < W.heap.size) W ∧ ((l.length : Int) ≤ 140737488355328 ∧ ∀ y ∈ l, (-9223372036854775808 ≤ y ∧ y ≤ 9223372036854775807)) := by
    obtain ⟨fuel, hf⟩ := k0
    obtain ⟨l, ⟨p, n, k, hv, hs⟩, hg⟩ := OpnT.leaf (c := .slice a0 len0 cap0) (W := W) (opn_slice Try.underlying22 (by kernel_rfl) (by decide) (by kernel_rfl) (opn_int Try.underlying3)) hf (fun n hn => by have := List.all_eq_true.1 hsz0 n (DataW.weights_mem_each (j := 0) (t := 22) (by rfl) (by rfl) n hn); simpa using this)
    cases hv
    obtain rfl := hs.1
    exact ⟨l, rfl, hs, hg⟩
  obtain ⟨z1_0, rfl, y1_0, g1⟩ := okWide_cells Try.underlying29 (hval 1 29 v1 rfl rfl) (n := 3) (by kernel_rfl) (ts := [3, 3, 27]) (by kernel_rfl) rfl
  clear g1
  obtain ⟨c1_0, z1_1, rfl, y1_1⟩ := peel y1_0
  obtain ⟨c1_1, z1_2, rfl, y1_2⟩ := peel y1_1
  obtain ⟨c1_2, z1_3, rfl, y1_3⟩ := peel y1_2
  obtain rfl := peel0 y1_3
  have k1 := h1
  have lt1 : ∀ x ∈ p1, x.block < W.heap.size := by obtain ⟨m, hm⟩ := k1; exact DataW.trod_lt m _ _ _ hm
  obtain ⟨e1, r1, b1⟩ : ∃ d : Wire, Enc.rd (fun b => b < W.heap.size) W [c1_0, c1_1, c1_2] d ∧ ((-9223372036854775808 ≤ d.Now ∧ d.Now ≤ 9223372036854775807) ∧ (-9223372036854775808 ≤ d.Order ∧ d.Order ≤ 9223372036854775807) ∧ ((d.Items.length : Int) ≤ 140737488355328 ∧ ∀ y ∈ d.Items, ((-9223372036854775808 ≤ y.At ∧ y.At ≤ 9223372036854775807) ∧ (-9223372036854775808 ≤ y.Order ∧ y.Order ≤ 9223372036854775807) ∧ ((y.Data.size : Int) ≤ 9223372036854775807)))) := by
    obtain ⟨fuel, hf⟩ := k1
    exact opn_29 (W := W) hf (fun n hn => by have := List.all_eq_true.1 hsz0 n (DataW.weights_mem_each (j := 1) (t := 29) (by rfl) (by rfl) n hn); simpa using this)
  obtain ⟨_, _, _, hc1, q1_0, q1_1, q1_2⟩ := r1
  simp only [List.cons.injEq, and_true] at hc1
  obtain ⟨rfl, rfl, rfl⟩ := hc1
  subst q1_0
  subst q1_1
  obtain ⟨a1_2, n1_2, k1_2, rfl, s1_2⟩ := q1_2
  obtain rfl := s1_2.1
  obtain ⟨a2, rfl, rfl, rfl, w2⟩ := Go.ChangeMaps.open_string Try.underlying9 (hval 2 9 v2 rfl rfl) h2
  have b2 : (a2.size : Int) ≤ 9223372036854775807 := by have := w2; simp only [maxLen] at this; omega
  obtain ⟨z3_0, rfl, y3_0, g3⟩ := okWide_cells Try.underlying32 (hval 3 32 v3 rfl rfl) (n := 3) (by kernel_rfl) (ts := [4, 3, 3]) (by kernel_rfl) rfl
  clear g3
  obtain ⟨c3_0, z3_1, rfl, y3_1⟩ := peel y3_0
  obtain ⟨c3_1, z3_2, rfl, y3_2⟩ := peel y3_1
  obtain ⟨c3_2, z3_3, rfl, y3_3⟩ := peel y3_2
  obtain rfl := peel0 y3_3
  have k3 := h3
  have lt3 : ∀ x ∈ p3, x.block < W.heap.size := by obtain ⟨m, hm⟩ := k3; exact DataW.trod_lt m _ _ _ hm
  obtain ⟨e3, r3, b3⟩ : ∃ d : Fault, Enc.rd (fun b => b < W.heap.size) W [c3_0, c3_1, c3_2] d ∧ (True ∧ (-9223372036854775808 ≤ d.Delay ∧ d.Delay ≤ 9223372036854775807) ∧ (-9223372036854775808 ≤ d.Copies ∧ d.Copies ≤ 9223372036854775807)) := by
    obtain ⟨fuel, hf⟩ := k3
    exact opn_32 (W := W) hf (fun n hn => by have := List.all_eq_true.1 hsz0 n (DataW.weights_mem_each (j := 3) (t := 32) (by rfl) (by rfl) n hn); simpa using this)
  obtain ⟨_, _, _, hc3, q3_0, q3_1, q3_2⟩ := r3
  simp only [List.cons.injEq, and_true] at hc3
  obtain ⟨rfl, rfl, rfl⟩ := hc3
  subst q3_0
  subst q3_1
  subst q3_2
  clear hA0 hval0
  refine (law09_LinkExact_ok (w0 := W) (S0 := fun b => b < W.heap.size) (law09_LinkExact_true l0 e1 a2 e3 b0 b1 b2 b3) (fun _ h => h) s0 s1_2).mono fun e W' ⟨v, S', he, hp, hv⟩ => ?_
  subst he
  have hv : v = .bool true := hv
  subst hv
  have bel := hp.below
  exact ⟨_, rfl, _, _, _, [], _, [], hW', trodAll_mk1 (shut_bool Try.underlying4 _), (trodAll_cons_mk (Below.trod laidOut (by kernel_rfl) (of_decide_eq_true (by kernel_rfl)) k0 bel lt0) (trodAll_cons_mk (Below.trod laidOut (by kernel_rfl) (of_decide_eq_true (by kernel_rfl)) k1 bel lt1) (trodAll_cons_mk (Go.ChangeMaps.shut_string Try.underlying9 w2) (trodAll_cons_mk (Below.trod laidOut (by kernel_rfl) (of_decide_eq_true (by kernel_rfl)) k3 bel lt3) trodAll_mk0)))), rfl, bel.frame _, fun h => by cases h⟩

theorem over : Rows.linkExactRow.holds Try.pinned (OpenSpec.ofChange Rows.linkExactSpec) :=
  OpenClaim.holds_of_wide 5 Try.f5 rfl rfl rfl rfl rfl rfl rfl ⟨rfl, rfl, rfl, rfl, rfl⟩ rfl rfl rfl rfl rfl (by kernel_rfl) Try.func5 (by kernel_rfl)
    (of_decide_eq_true (by kernel_rfl)) (by unfold Func.isWrapper; first | (rw [if_pos (by decide +kernel)]; kernel_rfl) | (rw [if_neg (by decide +kernel)]; exact ⟨rfl, rfl⟩))
    (fun os started H enc _ => lifted os started H enc)

theorem proved : Rows.LinkExactSaid := over
end Go.Proofs.Ytljdiobhmenjgaa.linkExact

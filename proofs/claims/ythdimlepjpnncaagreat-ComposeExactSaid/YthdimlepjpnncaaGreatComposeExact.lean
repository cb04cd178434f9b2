/- The statement ComposeExact holds: the law returns true at every input, and its arguments read as before. -/
import Derived.Test.YthdimlepjpnncaaGreatRows
import Derived.Test.YthdimlepjpnncaaGreatWComposeExact3
import Derived.Test.YthdimlepjpnncaaGreatLw2
import Derived.Test.YthdimlepjpnncaaGreatLc1
import Derived.KernelRfl
namespace Go.Proofs.YthdimlepjpnncaaGreat.composeExact
open Go Go.RowKit Go.Proofs Go.Proofs.YthdimlepjpnncaaGreat.Sh Go.Proofs.YthdimlepjpnncaaGreat.Wk
open Go.ChangeShapes Go.WideShapes Go.ChangeAt
set_option linter.unusedVariables false
theorem own : ownKnob Tryz.prog.godebug = none := by kernel_rfl
theorem laidOut : laidOutB Tryz.prog = true := by kernel_rfl
set_option maxRecDepth 100000 in
theorem opn_35 {W : World} : OpnT Tryz.prog W 35 Record (fun x => ((((x.Source.Network.size : Int) ≤ 9223372036854775807) ∧ ((x.Source.Station.size : Int) ≤ 9223372036854775807) ∧ ((x.Source.Location.size : Int) ≤ 9223372036854775807) ∧ ((x.Source.Channel.size : Int) ≤ 9223372036854775807)) ∧ (-9223372036854775808 ≤ x.Start ∧ x.Start ≤ 9223372036854775807) ∧ (-9223372036854775808 ≤ x.First ∧ x.First ≤ 9223372036854775807) ∧ ((-9223372036854775808 ≤ x.Rate.Num ∧ x.Rate.Num ≤ 9223372036854775807) ∧ (-9223372036854775808 ≤ x.Rate.Den ∧ x.Rate.Den ≤ 9223372036854775807)) ∧ (-9223372036854775808 ≤ x.Error ∧ x.Error ≤ 9223372036854775807) ∧ (-9223372036854775808 ≤ x.Run ∧ x.Run ≤ 9223372036854775807) ∧ (-9223372036854775808 ≤ x.Seq ∧ x.Seq ≤ 9223372036854775807) ∧ ((x.Samples.length : Int) ≤ 140737488355328 ∧ ∀ y ∈ x.Samples, (-9223372036854775808 ≤ y ∧ y ≤ 9223372036854775807)))) := fun {H enc fuel cs x} h hz => by
  have z0 := trod_len Tryz.underlying35 h (n := 12) (by kernel_rfl)
  obtain ⟨c0, cs1, rfl, z1⟩ := peel z0
  obtain ⟨c1, cs2, rfl, z2⟩ := peel z1
  obtain ⟨c2, cs3, rfl, z3⟩ := peel z2
  obtain ⟨c3, cs4, rfl, z4⟩ := peel z3
  obtain ⟨c4, cs5, rfl, z5⟩ := peel z4
  obtain ⟨c5, cs6, rfl, z6⟩ := peel z5
  obtain ⟨c6, cs7, rfl, z7⟩ := peel z6
  obtain ⟨c7, cs8, rfl, z8⟩ := peel z7
  obtain ⟨c8, cs9, rfl, z9⟩ := peel z8
  obtain ⟨c9, cs10, rfl, z10⟩ := peel z9
  obtain ⟨c10, cs11, rfl, z11⟩ := peel z10
  obtain ⟨c11, cs12, rfl, z12⟩ := peel z11
  obtain rfl := peel0 z12
  obtain ⟨fm0_0, ym0_0, m0_0, wm0_0⟩ := trod_fieldW Tryz.underlying35 h (i := 0) rfl (ft := 31) (o := 0) (n := 4) rfl rfl (by kernel_rfl)
  obtain ⟨fm0_1, ym0_1, m0_1, wm0_1⟩ := trod_fieldW Tryz.underlying31 m0_0 (i := 0) rfl (ft := 9) (o := 0) (n := 1) rfl rfl (by kernel_rfl)
  obtain ⟨d0, r0, g0⟩ := OpnT.leaf (c := c0) (W := W) (opn_string Tryz.underlying9) m0_1 (wm0_1 (wm0_0 hz))
  obtain ⟨fm1_0, ym1_0, m1_0, wm1_0⟩ := trod_fieldW Tryz.underlying35 h (i := 0) rfl (ft := 31) (o := 0) (n := 4) rfl rfl (by kernel_rfl)
  obtain ⟨fm1_1, ym1_1, m1_1, wm1_1⟩ := trod_fieldW Tryz.underlying31 m1_0 (i := 1) rfl (ft := 9) (o := 1) (n := 1) rfl rfl (by kernel_rfl)
  obtain ⟨d1, r1, g1⟩ := OpnT.leaf (c := c1) (W := W) (opn_string Tryz.underlying9) m1_1 (wm1_1 (wm1_0 hz))
  obtain ⟨fm2_0, ym2_0, m2_0, wm2_0⟩ := trod_fieldW Tryz.underlying35 h (i := 0) rfl (ft := 31) (o := 0) (n := 4) rfl rfl (by kernel_rfl)
  obtain ⟨fm2_1, ym2_1, m2_1, wm2_1⟩ := trod_fieldW Tryz.underlying31 m2_0 (i := 2) rfl (ft := 9) (o := 2) (n := 1) rfl rfl (by kernel_rfl)
  obtain ⟨d2, r2, g2⟩ := OpnT.leaf (c := c2) (W := W) (opn_string Tryz.underlying9) m2_1 (wm2_1 (wm2_0 hz))
  obtain ⟨fm3_0, ym3_0, m3_0, wm3_0⟩ := trod_fieldW Tryz.underlying35 h (i := 0) rfl (ft := 31) (o := 0) (n := 4) rfl rfl (by kernel_rfl)
  obtain ⟨fm3_1, ym3_1, m3_1, wm3_1⟩ := trod_fieldW Tryz.underlying31 m3_0 (i := 3) rfl (ft := 9) (o := 3) (n := 1) rfl rfl (by kernel_rfl)
  obtain ⟨d3, r3, g3⟩ := OpnT.leaf (c := c3) (W := W) (opn_string Tryz.underlying9) m3_1 (wm3_1 (wm3_0 hz))
  obtain ⟨fm4_0, ym4_0, m4_0, wm4_0⟩ := trod_fieldW Tryz.underlying35 h (i := 1) rfl (ft := 3) (o := 4) (n := 1) rfl rfl (by kernel_rfl)
  obtain ⟨d4, r4, g4⟩ := OpnT.leaf (c := c4) (W := W) (opn_int Tryz.underlying3) m4_0 (wm4_0 hz)
  obtain ⟨fm5_0, ym5_0, m5_0, wm5_0⟩ := trod_fieldW Tryz.underlying35 h (i := 2) rfl (ft := 3) (o := 5) (n := 1) rfl rfl (by kernel_rfl)
  obtain ⟨d5, r5, g5⟩ := OpnT.leaf (c := c5) (W := W) (opn_int Tryz.underlying3) m5_0 (wm5_0 hz)
  obtain ⟨fm6_0, ym6_0, m6_0, wm6_0⟩ := trod_fieldW Tryz.underlying35 h (i := 3) rfl (ft := 33) (o := 6) (n := 2) rfl rfl (by kernel_rfl)
  obtain ⟨fm6_1, ym6_1, m6_1, wm6_1⟩ := trod_fieldW Tryz.underlying33 m6_0 (i := 0) rfl (ft := 3) (o := 0) (n := 1) rfl rfl (by kernel_rfl)
  obtain ⟨d6, r6, g6⟩ := OpnT.leaf (c := c6) (W := W) (opn_int Tryz.underlying3) m6_1 (wm6_1 (wm6_0 hz))
  obtain ⟨fm7_0, ym7_0, m7_0, wm7_0⟩ := trod_fieldW Tryz.underlying35 h (i := 3) rfl (ft := 33) (o := 6) (n := 2) rfl rfl (by kernel_rfl)
  obtain ⟨fm7_1, ym7_1, m7_1, wm7_1⟩ := trod_fieldW Tryz.underlying33 m7_0 (i := 1) rfl (ft := 3) (o := 1) (n := 1) rfl rfl (by kernel_rfl)
  obtain ⟨d7, r7, g7⟩ := OpnT.leaf (c := c7) (W := W) (opn_int Tryz.underlying3) m7_1 (wm7_1 (wm7_0 hz))
  obtain ⟨fm8_0, ym8_0, m8_0, wm8_0⟩ := trod_fieldW Tryz.underlying35 h (i := 4) rfl (ft := 3) (o := 8) (n := 1) rfl rfl (by kernel_rfl)
  obtain ⟨d8, r8, g8⟩ := OpnT.leaf (c := c8) (W := W) (opn_int Tryz.underlying3) m8_0 (wm8_0 hz)
  obtain ⟨fm9_0, ym9_0, m9_0, wm9_0⟩ := trod_fieldW Tryz.underlying35 h (i := 5) rfl (ft := 3) (o := 9) (n := 1) rfl rfl (by kernel_rfl)
  obtain ⟨d9, r9, g9⟩ := OpnT.leaf (c := c9) (W := W) (opn_int Tryz.underlying3) m9_0 (wm9_0 hz)
  obtain ⟨fm10_0, ym10_0, m10_0, wm10_0⟩ := trod_fieldW Tryz.underlying35 h (i := 6) rfl (ft := 3) (o := 10) (n := 1) rfl rfl (by kernel_rfl)
  obtain ⟨d10, r10, g10⟩ := OpnT.leaf (c := c10) (W := W) (opn_int Tryz.underlying3) m10_0 (wm10_0 hz)
  obtain ⟨fm11_0, ym11_0, m11_0, wm11_0⟩ := trod_fieldW Tryz.underlying35 h (i := 7) rfl (ft := 22) (o := 11) (n := 1) rfl rfl (by kernel_rfl)
  obtain ⟨d11, r11, g11⟩ := OpnT.leaf (c := c11) (W := W) (opn_slice Tryz.underlying22 (by kernel_rfl) (by decide) (by kernel_rfl) (opn_int Tryz.underlying3)) m11_0 (wm11_0 hz)
  exact ⟨(⟨(⟨d0, d1, d2, d3⟩ : SourceID), d4, d5, (⟨d6, d7⟩ : Rate), d8, d9, d10, d11⟩ : Record), ⟨_, _, _, _, _, _, _, _, _, _, _, _, rfl, r0, r1, r2, r3, r4, r5, r6, r7, r8, r9, r10, r11⟩, ⟨⟨g0, g1, g2, g3⟩, g4, g5, ⟨g6, g7⟩, g8, g9, g10, g11⟩⟩
set_option maxRecDepth 100000 in
theorem lifted (os : Os) (started : os.Started) (H : Type) (enc : TypeId × Value → H) :
    ReturnsInHanded {} Tryz.checked os 10 .any (Rows.composeExactSpec.pre6 enc Tryz.prog Tryz.f10 Rows.composeExactRow.domain false) (Rows.composeExactSpec.post enc Tryz.prog Tryz.f10 false true false false) := by
  refine returnsInHanded_of_change_sized (C := Tryz.checked) own started (by kernel_rfl) Tryz.func10
    (ChangeSpec.witness6 (enc := enc) (C := Tryz.checked) false ⟨#[], #[.slice none 0 0, .slice none 0 0, .int .i64 0], []⟩ 8 (by kernel_rfl) (by kernel_rfl) (by kernel_rfl) (by kernel_rfl)) ?_
  intro W base args ds gs before hval0 hW hcnd hsz0 _
  have hval : ∀ (j : Nat) t v, Tryz.f10.params[j]? = some t → args[j]? = some v → Value.okWide Tryz.prog W .any base t v := hval0
  have hW' := hW
  obtain ⟨p, q, hA0, hV, rfl, hfz, hnd⟩ := hW
  have hA : DataW.TrodAll enc Tryz.prog W 0 (fun _ => true) true Tryz.f10.params.toList args.toList ds p := hA0
  rw [Tryz.params10] at hA hval
  obtain ⟨v0, vs0, d0, ds0, p0, q0, hargs, rfl, rfl, h0, r0⟩ := trodAll_cons hA
  obtain ⟨v1, vs1, d1, ds1, p1, q1, rfl, rfl, rfl, h1, r1⟩ := trodAll_cons r0
  obtain ⟨v2, vs2, d2, ds2, p2, q2, rfl, rfl, rfl, h2, r2⟩ := trodAll_cons r1
  obtain ⟨rfl, rfl, rfl⟩ := trodAll_nil r2
  obtain rfl : args = #[v0, v1, v2] := by cases args; simp_all
  obtain ⟨rfl, rfl⟩ := trodVars_none hV
  obtain ⟨a0, len0, cap0, rfl⟩ := okWide_slice Tryz.underlying22 (hval 0 22 v0 rfl rfl)
  have k0 := h0
  have lt0 : ∀ x ∈ p0, x.block < W.heap.size := by obtain ⟨m, hm⟩ := k0; exact DataW.trod_lt m _ _ _ hm
  obtain ⟨l0, rfl, s0, b0⟩ : ∃ l : (List Int), len0 = l.length ∧ (SlA a0 l.length cap0 l).p (fun b => b < W.heap.size) W ∧ ((l.length : Int) ≤ 140737488355328 ∧ ∀ y ∈ l, (-9223372036854775808 ≤ y ∧ y ≤ 9223372036854775807)) := by
    obtain ⟨fuel, hf⟩ := k0
    obtain ⟨l, ⟨p, n, k, hv, hs⟩, hg⟩ := OpnT.leaf (c := .slice a0 len0 cap0) (W := W) (opn_slice Tryz.underlying22 (by kernel_rfl) (by decide) (by kernel_rfl) (opn_int Tryz.underlying3)) hf (fun n hn => by have := List.all_eq_true.1 hsz0 n (DataW.weights_mem_each (j := 0) (t := 22) (by rfl) (by rfl) n hn); simpa using this)
    cases hv
    obtain rfl := hs.1
    exact ⟨l, rfl, hs, hg⟩
  obtain ⟨a1, len1, cap1, rfl⟩ := okWide_slice Tryz.underlying27 (hval 1 27 v1 rfl rfl)
  have k1 := h1
  have lt1 : ∀ x ∈ p1, x.block < W.heap.size := by obtain ⟨m, hm⟩ := k1; exact DataW.trod_lt m _ _ _ hm
  obtain ⟨l1, rfl, s1, b1⟩ : ∃ l : (List Record), len1 = l.length ∧ (SlA a1 l.length cap1 l).p (fun b => b < W.heap.size) W ∧ ((l.length : Int) ≤ 140737488355328 ∧ ∀ y ∈ l, ((((y.Source.Network.size : Int) ≤ 9223372036854775807) ∧ ((y.Source.Station.size : Int) ≤ 9223372036854775807) ∧ ((y.Source.Location.size : Int) ≤ 9223372036854775807) ∧ ((y.Source.Channel.size : Int) ≤ 9223372036854775807)) ∧ (-9223372036854775808 ≤ y.Start ∧ y.Start ≤ 9223372036854775807) ∧ (-9223372036854775808 ≤ y.First ∧ y.First ≤ 9223372036854775807) ∧ ((-9223372036854775808 ≤ y.Rate.Num ∧ y.Rate.Num ≤ 9223372036854775807) ∧ (-9223372036854775808 ≤ y.Rate.Den ∧ y.Rate.Den ≤ 9223372036854775807)) ∧ (-9223372036854775808 ≤ y.Error ∧ y.Error ≤ 9223372036854775807) ∧ (-9223372036854775808 ≤ y.Run ∧ y.Run ≤ 9223372036854775807) ∧ (-9223372036854775808 ≤ y.Seq ∧ y.Seq ≤ 9223372036854775807) ∧ ((y.Samples.length : Int) ≤ 140737488355328 ∧ ∀ yy ∈ y.Samples, (-9223372036854775808 ≤ yy ∧ yy ≤ 9223372036854775807)))) := by
    obtain ⟨fuel, hf⟩ := k1
    obtain ⟨l, ⟨p, n, k, hv, hs⟩, hg⟩ := OpnT.leaf (c := .slice a1 len1 cap1) (W := W) (opn_slice Tryz.underlying27 (by kernel_rfl) (by decide) (by kernel_rfl) opn_35) hf (fun n hn => by have := List.all_eq_true.1 hsz0 n (DataW.weights_mem_each (j := 1) (t := 27) (by rfl) (by rfl) n hn); simpa using this)
    cases hv
    obtain rfl := hs.1
    exact ⟨l, rfl, hs, hg⟩
  obtain ⟨a2, rfl, rfl, rfl, w2⟩ := open_int Tryz.underlying3 (hval 2 3 v2 rfl rfl) h2
  have b2 : -9223372036854775808 ≤ a2 ∧ a2 ≤ 9223372036854775807 := by simpa [Lit.wf, IntKind.min, IntKind.max, IntKind.signed, IntKind.bits] using w2
  clear hA0 hval0
  refine (law15_ComposeExact_ok (w0 := W) (S0 := fun b => b < W.heap.size) (law15_ComposeExact_true l0 l1 a2 b0 b1 b2) (fun _ h => h) s0 s1).mono fun e W' ⟨v, S', he, hp, hv⟩ => ?_
  subst he
  have hv : v = .bool true := hv
  subst hv
  have bel := hp.below
  exact ⟨_, rfl, _, _, _, [], _, [], hW', trodAll_mk1 (shut_bool Tryz.underlying4 _), (trodAll_cons_mk (Below.trod laidOut (by kernel_rfl) (of_decide_eq_true (by kernel_rfl)) k0 bel lt0) (trodAll_cons_mk (Below.trod laidOut (by kernel_rfl) (of_decide_eq_true (by kernel_rfl)) k1 bel lt1) (trodAll_cons_mk (shut_int Tryz.underlying3 w2) trodAll_mk0))), rfl, bel.frame _, fun h => by cases h⟩
theorem over : Rows.composeExactRow.holds Tryz.pinned (OpenSpec.ofChange Rows.composeExactSpec) :=
  OpenClaim.holds_of_wide 10 Tryz.f10 rfl rfl rfl rfl rfl rfl rfl ⟨rfl, rfl, rfl, rfl, rfl⟩ rfl rfl rfl rfl rfl (by kernel_rfl) Tryz.func10 (by kernel_rfl)
    (of_decide_eq_true (by kernel_rfl)) (by unfold Func.isWrapper; first | (rw [if_pos (by decide +kernel)]; kernel_rfl) | (rw [if_neg (by decide +kernel)]; exact ⟨rfl, rfl⟩))
    (fun os started H enc _ => lifted os started H enc)
theorem proved : Rows.ComposeExactSaid := over
end Go.Proofs.YthdimlepjpnncaaGreat.composeExact

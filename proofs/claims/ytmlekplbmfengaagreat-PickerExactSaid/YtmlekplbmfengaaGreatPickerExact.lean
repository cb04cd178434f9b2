/- The statement PickerExact holds: the law returns true at every input, and its arguments read as before. -/
import Derived.Test.YtmlekplbmfengaaGreatRows
import Derived.Test.YtmlekplbmfengaaGreatWPickerExact5
import Derived.Test.YtmlekplbmfengaaGreatPickerExactLaw
import Derived.Test.YtmlekplbmfengaaGreatLibO
import Derived.KernelRfl
namespace Go.Proofs.YtmlekplbmfengaaGreat.pickerExact
open Go Go.RowKit Go.Proofs Go.Proofs.YtmlekplbmfengaaGreat.Sh Go.Proofs.YtmlekplbmfengaaGreat.Wk
open Go.ChangeShapes Go.WideShapes Go.ChangeAt
set_option linter.unusedVariables false
theorem own : ownKnob Tryz.prog.godebug = none := by kernel_rfl
theorem laidOut : laidOutB Tryz.prog = true := by kernel_rfl
set_option maxRecDepth 100000 in
theorem opn_26 {W : World} : OpnT Tryz.prog W 26 Picking (fun x => (((-9223372036854775808 ≤ x.Detector.Short ∧ x.Detector.Short ≤ 9223372036854775807) ∧ (-9223372036854775808 ≤ x.Detector.Long ∧ x.Detector.Long ≤ 9223372036854775807) ∧ (-9223372036854775808 ≤ x.Detector.On ∧ x.Detector.On ≤ 9223372036854775807) ∧ (-9223372036854775808 ≤ x.Detector.Off ∧ x.Detector.Off ≤ 9223372036854775807)) ∧ (-9223372036854775808 ≤ x.Back ∧ x.Back ≤ 9223372036854775807) ∧ (-9223372036854775808 ≤ x.Level ∧ x.Level ≤ 9223372036854775807) ∧ (-9223372036854775808 ≤ x.Floor ∧ x.Floor ≤ 9223372036854775807))) := fun {H enc fuel cs x} h hz => by
  have z0 := trod_len Tryz.underlying26 h (n := 7) (by kernel_rfl)
  obtain ⟨c0, cs1, rfl, z1⟩ := peel z0
  obtain ⟨c1, cs2, rfl, z2⟩ := peel z1
  obtain ⟨c2, cs3, rfl, z3⟩ := peel z2
  obtain ⟨c3, cs4, rfl, z4⟩ := peel z3
  obtain ⟨c4, cs5, rfl, z5⟩ := peel z4
  obtain ⟨c5, cs6, rfl, z6⟩ := peel z5
  obtain ⟨c6, cs7, rfl, z7⟩ := peel z6
  obtain rfl := peel0 z7
  obtain ⟨fm0_0, ym0_0, m0_0, wm0_0⟩ := trod_fieldW Tryz.underlying26 h (i := 0) rfl (ft := 24) (o := 0) (n := 4) rfl rfl (by kernel_rfl)
  obtain ⟨fm0_1, ym0_1, m0_1, wm0_1⟩ := trod_fieldW Tryz.underlying24 m0_0 (i := 0) rfl (ft := 3) (o := 0) (n := 1) rfl rfl (by kernel_rfl)
  obtain ⟨d0, r0, g0⟩ := OpnT.leaf (c := c0) (W := W) (opn_int Tryz.underlying3) m0_1 (wm0_1 (wm0_0 hz))
  obtain ⟨fm1_0, ym1_0, m1_0, wm1_0⟩ := trod_fieldW Tryz.underlying26 h (i := 0) rfl (ft := 24) (o := 0) (n := 4) rfl rfl (by kernel_rfl)
  obtain ⟨fm1_1, ym1_1, m1_1, wm1_1⟩ := trod_fieldW Tryz.underlying24 m1_0 (i := 1) rfl (ft := 3) (o := 1) (n := 1) rfl rfl (by kernel_rfl)
  obtain ⟨d1, r1, g1⟩ := OpnT.leaf (c := c1) (W := W) (opn_int Tryz.underlying3) m1_1 (wm1_1 (wm1_0 hz))
  obtain ⟨fm2_0, ym2_0, m2_0, wm2_0⟩ := trod_fieldW Tryz.underlying26 h (i := 0) rfl (ft := 24) (o := 0) (n := 4) rfl rfl (by kernel_rfl)
  obtain ⟨fm2_1, ym2_1, m2_1, wm2_1⟩ := trod_fieldW Tryz.underlying24 m2_0 (i := 2) rfl (ft := 3) (o := 2) (n := 1) rfl rfl (by kernel_rfl)
  obtain ⟨d2, r2, g2⟩ := OpnT.leaf (c := c2) (W := W) (opn_int Tryz.underlying3) m2_1 (wm2_1 (wm2_0 hz))
  obtain ⟨fm3_0, ym3_0, m3_0, wm3_0⟩ := trod_fieldW Tryz.underlying26 h (i := 0) rfl (ft := 24) (o := 0) (n := 4) rfl rfl (by kernel_rfl)
  obtain ⟨fm3_1, ym3_1, m3_1, wm3_1⟩ := trod_fieldW Tryz.underlying24 m3_0 (i := 3) rfl (ft := 3) (o := 3) (n := 1) rfl rfl (by kernel_rfl)
  obtain ⟨d3, r3, g3⟩ := OpnT.leaf (c := c3) (W := W) (opn_int Tryz.underlying3) m3_1 (wm3_1 (wm3_0 hz))
  obtain ⟨fm4_0, ym4_0, m4_0, wm4_0⟩ := trod_fieldW Tryz.underlying26 h (i := 1) rfl (ft := 3) (o := 4) (n := 1) rfl rfl (by kernel_rfl)
  obtain ⟨d4, r4, g4⟩ := OpnT.leaf (c := c4) (W := W) (opn_int Tryz.underlying3) m4_0 (wm4_0 hz)
  obtain ⟨fm5_0, ym5_0, m5_0, wm5_0⟩ := trod_fieldW Tryz.underlying26 h (i := 2) rfl (ft := 3) (o := 5) (n := 1) rfl rfl (by kernel_rfl)
  obtain ⟨d5, r5, g5⟩ := OpnT.leaf (c := c5) (W := W) (opn_int Tryz.underlying3) m5_0 (wm5_0 hz)
  obtain ⟨fm6_0, ym6_0, m6_0, wm6_0⟩ := trod_fieldW Tryz.underlying26 h (i := 3) rfl (ft := 3) (o := 6) (n := 1) rfl rfl (by kernel_rfl)
  obtain ⟨d6, r6, g6⟩ := OpnT.leaf (c := c6) (W := W) (opn_int Tryz.underlying3) m6_0 (wm6_0 hz)
  exact ⟨(⟨(⟨d0, d1, d2, d3⟩ : Detector), d4, d5, d6⟩ : Picking), ⟨_, _, _, _, _, _, _, rfl, r0, r1, r2, r3, r4, r5, r6⟩, ⟨⟨g0, g1, g2, g3⟩, g4, g5, g6⟩⟩
set_option maxRecDepth 100000 in
theorem opn_28 {W : World} : OpnT Tryz.prog W 28 Trigger (fun x => ((-9223372036854775808 ≤ x.On ∧ x.On ≤ 9223372036854775807) ∧ (-9223372036854775808 ≤ x.Off ∧ x.Off ≤ 9223372036854775807) ∧ (-9223372036854775808 ≤ x.Peak ∧ x.Peak ≤ 9223372036854775807))) := fun {H enc fuel cs x} h hz => by
  have z0 := trod_len Tryz.underlying28 h (n := 3) (by kernel_rfl)
  obtain ⟨c0, cs1, rfl, z1⟩ := peel z0
  obtain ⟨c1, cs2, rfl, z2⟩ := peel z1
  obtain ⟨c2, cs3, rfl, z3⟩ := peel z2
  obtain rfl := peel0 z3
  obtain ⟨fm0_0, ym0_0, m0_0, wm0_0⟩ := trod_fieldW Tryz.underlying28 h (i := 0) rfl (ft := 3) (o := 0) (n := 1) rfl rfl (by kernel_rfl)
  obtain ⟨d0, r0, g0⟩ := OpnT.leaf (c := c0) (W := W) (opn_int Tryz.underlying3) m0_0 (wm0_0 hz)
  obtain ⟨fm1_0, ym1_0, m1_0, wm1_0⟩ := trod_fieldW Tryz.underlying28 h (i := 1) rfl (ft := 3) (o := 1) (n := 1) rfl rfl (by kernel_rfl)
  obtain ⟨d1, r1, g1⟩ := OpnT.leaf (c := c1) (W := W) (opn_int Tryz.underlying3) m1_0 (wm1_0 hz)
  obtain ⟨fm2_0, ym2_0, m2_0, wm2_0⟩ := trod_fieldW Tryz.underlying28 h (i := 2) rfl (ft := 3) (o := 2) (n := 1) rfl rfl (by kernel_rfl)
  obtain ⟨d2, r2, g2⟩ := OpnT.leaf (c := c2) (W := W) (opn_int Tryz.underlying3) m2_0 (wm2_0 hz)
  exact ⟨(⟨d0, d1, d2⟩ : Trigger), ⟨_, _, _, rfl, r0, r1, r2⟩, ⟨g0, g1, g2⟩⟩
set_option maxRecDepth 100000 in
theorem opn_66 {W : World} : OpnT Tryz.prog W 66 Pick (fun x => ((((x.Source.Network.size : Int) ≤ 9223372036854775807) ∧ ((x.Source.Station.size : Int) ≤ 9223372036854775807) ∧ ((x.Source.Location.size : Int) ≤ 9223372036854775807) ∧ ((x.Source.Channel.size : Int) ≤ 9223372036854775807)) ∧ (-9223372036854775808 ≤ x.Time ∧ x.Time ≤ 9223372036854775807) ∧ (-9223372036854775808 ≤ x.Early ∧ x.Early ≤ 9223372036854775807) ∧ (-9223372036854775808 ≤ x.Late ∧ x.Late ≤ 9223372036854775807) ∧ (-9223372036854775808 ≤ x.Amplitude ∧ x.Amplitude ≤ 9223372036854775807) ∧ (-9223372036854775808 ≤ x.Polarity ∧ x.Polarity ≤ 9223372036854775807))) := fun {H enc fuel cs x} h hz => by
  have z0 := trod_len Tryz.underlying66 h (n := 9) (by kernel_rfl)
  obtain ⟨c0, cs1, rfl, z1⟩ := peel z0
  obtain ⟨c1, cs2, rfl, z2⟩ := peel z1
  obtain ⟨c2, cs3, rfl, z3⟩ := peel z2
  obtain ⟨c3, cs4, rfl, z4⟩ := peel z3
  obtain ⟨c4, cs5, rfl, z5⟩ := peel z4
  obtain ⟨c5, cs6, rfl, z6⟩ := peel z5
  obtain ⟨c6, cs7, rfl, z7⟩ := peel z6
  obtain ⟨c7, cs8, rfl, z8⟩ := peel z7
  obtain ⟨c8, cs9, rfl, z9⟩ := peel z8
  obtain rfl := peel0 z9
  obtain ⟨fm0_0, ym0_0, m0_0, wm0_0⟩ := trod_fieldW Tryz.underlying66 h (i := 0) rfl (ft := 41) (o := 0) (n := 4) rfl rfl (by kernel_rfl)
  obtain ⟨fm0_1, ym0_1, m0_1, wm0_1⟩ := trod_fieldW Tryz.underlying41 m0_0 (i := 0) rfl (ft := 9) (o := 0) (n := 1) rfl rfl (by kernel_rfl)
  obtain ⟨d0, r0, g0⟩ := OpnT.leaf (c := c0) (W := W) (opn_string Tryz.underlying9) m0_1 (wm0_1 (wm0_0 hz))
  obtain ⟨fm1_0, ym1_0, m1_0, wm1_0⟩ := trod_fieldW Tryz.underlying66 h (i := 0) rfl (ft := 41) (o := 0) (n := 4) rfl rfl (by kernel_rfl)
  obtain ⟨fm1_1, ym1_1, m1_1, wm1_1⟩ := trod_fieldW Tryz.underlying41 m1_0 (i := 1) rfl (ft := 9) (o := 1) (n := 1) rfl rfl (by kernel_rfl)
  obtain ⟨d1, r1, g1⟩ := OpnT.leaf (c := c1) (W := W) (opn_string Tryz.underlying9) m1_1 (wm1_1 (wm1_0 hz))
  obtain ⟨fm2_0, ym2_0, m2_0, wm2_0⟩ := trod_fieldW Tryz.underlying66 h (i := 0) rfl (ft := 41) (o := 0) (n := 4) rfl rfl (by kernel_rfl)
  obtain ⟨fm2_1, ym2_1, m2_1, wm2_1⟩ := trod_fieldW Tryz.underlying41 m2_0 (i := 2) rfl (ft := 9) (o := 2) (n := 1) rfl rfl (by kernel_rfl)
  obtain ⟨d2, r2, g2⟩ := OpnT.leaf (c := c2) (W := W) (opn_string Tryz.underlying9) m2_1 (wm2_1 (wm2_0 hz))
  obtain ⟨fm3_0, ym3_0, m3_0, wm3_0⟩ := trod_fieldW Tryz.underlying66 h (i := 0) rfl (ft := 41) (o := 0) (n := 4) rfl rfl (by kernel_rfl)
  obtain ⟨fm3_1, ym3_1, m3_1, wm3_1⟩ := trod_fieldW Tryz.underlying41 m3_0 (i := 3) rfl (ft := 9) (o := 3) (n := 1) rfl rfl (by kernel_rfl)
  obtain ⟨d3, r3, g3⟩ := OpnT.leaf (c := c3) (W := W) (opn_string Tryz.underlying9) m3_1 (wm3_1 (wm3_0 hz))
  obtain ⟨fm4_0, ym4_0, m4_0, wm4_0⟩ := trod_fieldW Tryz.underlying66 h (i := 1) rfl (ft := 3) (o := 4) (n := 1) rfl rfl (by kernel_rfl)
  obtain ⟨d4, r4, g4⟩ := OpnT.leaf (c := c4) (W := W) (opn_int Tryz.underlying3) m4_0 (wm4_0 hz)
  obtain ⟨fm5_0, ym5_0, m5_0, wm5_0⟩ := trod_fieldW Tryz.underlying66 h (i := 2) rfl (ft := 3) (o := 5) (n := 1) rfl rfl (by kernel_rfl)
  obtain ⟨d5, r5, g5⟩ := OpnT.leaf (c := c5) (W := W) (opn_int Tryz.underlying3) m5_0 (wm5_0 hz)
  obtain ⟨fm6_0, ym6_0, m6_0, wm6_0⟩ := trod_fieldW Tryz.underlying66 h (i := 3) rfl (ft := 3) (o := 6) (n := 1) rfl rfl (by kernel_rfl)
  obtain ⟨d6, r6, g6⟩ := OpnT.leaf (c := c6) (W := W) (opn_int Tryz.underlying3) m6_0 (wm6_0 hz)
  obtain ⟨fm7_0, ym7_0, m7_0, wm7_0⟩ := trod_fieldW Tryz.underlying66 h (i := 4) rfl (ft := 3) (o := 7) (n := 1) rfl rfl (by kernel_rfl)
  obtain ⟨d7, r7, g7⟩ := OpnT.leaf (c := c7) (W := W) (opn_int Tryz.underlying3) m7_0 (wm7_0 hz)
  obtain ⟨fm8_0, ym8_0, m8_0, wm8_0⟩ := trod_fieldW Tryz.underlying66 h (i := 5) rfl (ft := 3) (o := 8) (n := 1) rfl rfl (by kernel_rfl)
  obtain ⟨d8, r8, g8⟩ := OpnT.leaf (c := c8) (W := W) (opn_int Tryz.underlying3) m8_0 (wm8_0 hz)
  exact ⟨(⟨(⟨d0, d1, d2, d3⟩ : SourceID), d4, d5, d6, d7, d8⟩ : Pick), ⟨_, _, _, _, _, _, _, _, _, rfl, r0, r1, r2, r3, r4, r5, r6, r7, r8⟩, ⟨⟨g0, g1, g2, g3⟩, g4, g5, g6, g7, g8⟩⟩
set_option maxRecDepth 100000 in
theorem opn_36 {W : World} : OpnT Tryz.prog W 36 Segment (fun x => ((-9223372036854775808 ≤ x.Start ∧ x.Start ≤ 9223372036854775807) ∧ (-9223372036854775808 ≤ x.First ∧ x.First ≤ 9223372036854775807) ∧ ((-9223372036854775808 ≤ x.Rate.Num ∧ x.Rate.Num ≤ 9223372036854775807) ∧ (-9223372036854775808 ≤ x.Rate.Den ∧ x.Rate.Den ≤ 9223372036854775807)) ∧ (-9223372036854775808 ≤ x.Error ∧ x.Error ≤ 9223372036854775807) ∧ ((x.Samples.length : Int) ≤ 140737488355328 ∧ ∀ y ∈ x.Samples, (-9223372036854775808 ≤ y ∧ y ≤ 9223372036854775807)))) := fun {H enc fuel cs x} h hz => by
  have z0 := trod_len Tryz.underlying36 h (n := 6) (by kernel_rfl)
  obtain ⟨c0, cs1, rfl, z1⟩ := peel z0
  obtain ⟨c1, cs2, rfl, z2⟩ := peel z1
  obtain ⟨c2, cs3, rfl, z3⟩ := peel z2
  obtain ⟨c3, cs4, rfl, z4⟩ := peel z3
  obtain ⟨c4, cs5, rfl, z5⟩ := peel z4
  obtain ⟨c5, cs6, rfl, z6⟩ := peel z5
  obtain rfl := peel0 z6
  obtain ⟨fm0_0, ym0_0, m0_0, wm0_0⟩ := trod_fieldW Tryz.underlying36 h (i := 0) rfl (ft := 3) (o := 0) (n := 1) rfl rfl (by kernel_rfl)
  obtain ⟨d0, r0, g0⟩ := OpnT.leaf (c := c0) (W := W) (opn_int Tryz.underlying3) m0_0 (wm0_0 hz)
  obtain ⟨fm1_0, ym1_0, m1_0, wm1_0⟩ := trod_fieldW Tryz.underlying36 h (i := 1) rfl (ft := 3) (o := 1) (n := 1) rfl rfl (by kernel_rfl)
  obtain ⟨d1, r1, g1⟩ := OpnT.leaf (c := c1) (W := W) (opn_int Tryz.underlying3) m1_0 (wm1_0 hz)
  obtain ⟨fm2_0, ym2_0, m2_0, wm2_0⟩ := trod_fieldW Tryz.underlying36 h (i := 2) rfl (ft := 34) (o := 2) (n := 2) rfl rfl (by kernel_rfl)
  obtain ⟨fm2_1, ym2_1, m2_1, wm2_1⟩ := trod_fieldW Tryz.underlying34 m2_0 (i := 0) rfl (ft := 3) (o := 0) (n := 1) rfl rfl (by kernel_rfl)
  obtain ⟨d2, r2, g2⟩ := OpnT.leaf (c := c2) (W := W) (opn_int Tryz.underlying3) m2_1 (wm2_1 (wm2_0 hz))
  obtain ⟨fm3_0, ym3_0, m3_0, wm3_0⟩ := trod_fieldW Tryz.underlying36 h (i := 2) rfl (ft := 34) (o := 2) (n := 2) rfl rfl (by kernel_rfl)
  obtain ⟨fm3_1, ym3_1, m3_1, wm3_1⟩ := trod_fieldW Tryz.underlying34 m3_0 (i := 1) rfl (ft := 3) (o := 1) (n := 1) rfl rfl (by kernel_rfl)
  obtain ⟨d3, r3, g3⟩ := OpnT.leaf (c := c3) (W := W) (opn_int Tryz.underlying3) m3_1 (wm3_1 (wm3_0 hz))
  obtain ⟨fm4_0, ym4_0, m4_0, wm4_0⟩ := trod_fieldW Tryz.underlying36 h (i := 3) rfl (ft := 3) (o := 4) (n := 1) rfl rfl (by kernel_rfl)
  obtain ⟨d4, r4, g4⟩ := OpnT.leaf (c := c4) (W := W) (opn_int Tryz.underlying3) m4_0 (wm4_0 hz)
  obtain ⟨fm5_0, ym5_0, m5_0, wm5_0⟩ := trod_fieldW Tryz.underlying36 h (i := 4) rfl (ft := 22) (o := 5) (n := 1) rfl rfl (by kernel_rfl)
  obtain ⟨d5, r5, g5⟩ := OpnT.leaf (c := c5) (W := W) (opn_slice Tryz.underlying22 (by kernel_rfl) (by decide) (by kernel_rfl) (opn_int Tryz.underlying3)) m5_0 (wm5_0 hz)
  exact ⟨(⟨d0, d1, (⟨d2, d3⟩ : Rate), d4, d5⟩ : Segment), ⟨_, _, _, _, _, _, rfl, r0, r1, r2, r3, r4, r5⟩, ⟨g0, g1, ⟨g2, g3⟩, g4, g5⟩⟩
set_option maxRecDepth 100000 in
theorem lifted (os : Os) (started : os.Started) (H : Type) (enc : TypeId × Value → H) :
    ReturnsInHanded {} Tryz.checked os 3 .any (Rows.pickerExactSpec.pre6 enc Tryz.prog Tryz.f3 Rows.pickerExactRow.domain false) (Rows.pickerExactSpec.post enc Tryz.prog Tryz.f3 false true false false) := by
  refine returnsInHanded_of_change_sized (C := Tryz.checked) own started (by kernel_rfl) Tryz.func3
    (ChangeSpec.witness6 (enc := enc) (C := Tryz.checked) false ⟨#[], #[.slice none 0 0, .agg #[.int .i64 0, .int .i64 0, .int .i64 0, .int .i64 0, .int .i64 0, .int .i64 0, .int .i64 0], .slice none 0 0, .agg #[.int .i64 0, .int .i64 0, .int .i64 0], .slice none 0 0, .slice none 0 0], []⟩ 8 (by kernel_rfl) (by kernel_rfl) (by kernel_rfl) (by kernel_rfl)) ?_
  intro W base args ds gs before hval0 hW hcnd hsz0 _
  have hval : ∀ (j : Nat) t v, Tryz.f3.params[j]? = some t → args[j]? = some v → Value.okWide Tryz.prog W .any base t v := hval0
  have hW' := hW
  obtain ⟨p, q, hA0, hV, rfl, hfz, hnd⟩ := hW
  have hA : DataW.TrodAll enc Tryz.prog W 0 (fun _ => true) true Tryz.f3.params.toList args.toList ds p := hA0
  rw [Tryz.params3] at hA hval
  obtain ⟨v0, vs0, d0, ds0, p0, q0, hargs, rfl, rfl, h0, r0⟩ := trodAll_cons hA
  obtain ⟨v1, vs1, d1, ds1, p1, q1, rfl, rfl, rfl, h1, r1⟩ := trodAll_cons r0
  obtain ⟨v2, vs2, d2, ds2, p2, q2, rfl, rfl, rfl, h2, r2⟩ := trodAll_cons r1
  obtain ⟨v3, vs3, d3, ds3, p3, q3, rfl, rfl, rfl, h3, r3⟩ := trodAll_cons r2
  obtain ⟨v4, vs4, d4, ds4, p4, q4, rfl, rfl, rfl, h4, r4⟩ := trodAll_cons r3
  obtain ⟨v5, vs5, d5, ds5, p5, q5, rfl, rfl, rfl, h5, r5⟩ := trodAll_cons r4
  obtain ⟨rfl, rfl, rfl⟩ := trodAll_nil r5
  obtain rfl : args = #[v0, v1, v2, v3, v4, v5] := by cases args; simp_all
  obtain ⟨rfl, rfl⟩ := trodVars_none hV
  obtain ⟨a0, len0, cap0, rfl⟩ := okWide_slice Tryz.underlying22 (hval 0 22 v0 rfl rfl)
  have k0 := h0
  have lt0 : ∀ x ∈ p0, x.block < W.heap.size := by obtain ⟨m, hm⟩ := k0; exact DataW.trod_lt m _ _ _ hm
  obtain ⟨l0, rfl, s0, b0⟩ : ∃ l : (List Int), len0 = l.length ∧ (SlA a0 l.length cap0 l).p (fun b => b < W.heap.size) W ∧ ((l.length : Int) ≤ 140737488355328 ∧ ∀ y ∈ l, (-9223372036854775808 ≤ y ∧ y ≤ 9223372036854775807)) := by
    obtain ⟨fuel, hf⟩ := k0
    obtain ⟨l, ⟨p, n, k, hv, hs⟩, hg⟩ := OpnT.leaf (c := .slice a0 len0 cap0) (W := W) (opn_slice Tryz.underlying22 (by kernel_rfl) (by decide) (by kernel_rfl) (opn_int Tryz.underlying3)) hf (fun n hn => by have := List.all_eq_true.1 hsz0 n (DataW.weights_mem_each (j := 0) (t := 22) (by rfl) (by rfl) n hn); simpa using this)
    cases hv
    obtain rfl := hs.1
    exact ⟨l, rfl, hs, hg⟩
  obtain ⟨z1_0, rfl, y1_0, g1⟩ := okWide_cells Tryz.underlying26 (hval 1 26 v1 rfl rfl) (n := 7) (by kernel_rfl) (ts := [3, 3, 3, 3, 3, 3, 3]) (by kernel_rfl) rfl
  clear g1
  obtain ⟨c1_0, z1_1, rfl, y1_1⟩ := peel y1_0
  obtain ⟨c1_1, z1_2, rfl, y1_2⟩ := peel y1_1
  obtain ⟨c1_2, z1_3, rfl, y1_3⟩ := peel y1_2
  obtain ⟨c1_3, z1_4, rfl, y1_4⟩ := peel y1_3
  obtain ⟨c1_4, z1_5, rfl, y1_5⟩ := peel y1_4
  obtain ⟨c1_5, z1_6, rfl, y1_6⟩ := peel y1_5
  obtain ⟨c1_6, z1_7, rfl, y1_7⟩ := peel y1_6
  obtain rfl := peel0 y1_7
  have k1 := h1
  have lt1 : ∀ x ∈ p1, x.block < W.heap.size := by obtain ⟨m, hm⟩ := k1; exact DataW.trod_lt m _ _ _ hm
  obtain ⟨e1, r1, b1⟩ : ∃ d : Picking, Enc.rd (fun b => b < W.heap.size) W [c1_0, c1_1, c1_2, c1_3, c1_4, c1_5, c1_6] d ∧ (((-9223372036854775808 ≤ d.Detector.Short ∧ d.Detector.Short ≤ 9223372036854775807) ∧ (-9223372036854775808 ≤ d.Detector.Long ∧ d.Detector.Long ≤ 9223372036854775807) ∧ (-9223372036854775808 ≤ d.Detector.On ∧ d.Detector.On ≤ 9223372036854775807) ∧ (-9223372036854775808 ≤ d.Detector.Off ∧ d.Detector.Off ≤ 9223372036854775807)) ∧ (-9223372036854775808 ≤ d.Back ∧ d.Back ≤ 9223372036854775807) ∧ (-9223372036854775808 ≤ d.Level ∧ d.Level ≤ 9223372036854775807) ∧ (-9223372036854775808 ≤ d.Floor ∧ d.Floor ≤ 9223372036854775807)) := by
    obtain ⟨fuel, hf⟩ := k1
    exact opn_26 (W := W) hf (fun n hn => by have := List.all_eq_true.1 hsz0 n (DataW.weights_mem_each (j := 1) (t := 26) (by rfl) (by rfl) n hn); simpa using this)
  obtain ⟨_, _, _, _, _, _, _, hc1, q1_0, q1_1, q1_2, q1_3, q1_4, q1_5, q1_6⟩ := r1
  simp only [List.cons.injEq, and_true] at hc1
  obtain ⟨rfl, rfl, rfl, rfl, rfl, rfl, rfl⟩ := hc1
  subst q1_0
  subst q1_1
  subst q1_2
  subst q1_3
  subst q1_4
  subst q1_5
  subst q1_6
  obtain ⟨a2, len2, cap2, rfl⟩ := okWide_slice Tryz.underlying22 (hval 2 22 v2 rfl rfl)
  have k2 := h2
  have lt2 : ∀ x ∈ p2, x.block < W.heap.size := by obtain ⟨m, hm⟩ := k2; exact DataW.trod_lt m _ _ _ hm
  obtain ⟨l2, rfl, s2, b2⟩ : ∃ l : (List Int), len2 = l.length ∧ (SlA a2 l.length cap2 l).p (fun b => b < W.heap.size) W ∧ ((l.length : Int) ≤ 140737488355328 ∧ ∀ y ∈ l, (-9223372036854775808 ≤ y ∧ y ≤ 9223372036854775807)) := by
    obtain ⟨fuel, hf⟩ := k2
    obtain ⟨l, ⟨p, n, k, hv, hs⟩, hg⟩ := OpnT.leaf (c := .slice a2 len2 cap2) (W := W) (opn_slice Tryz.underlying22 (by kernel_rfl) (by decide) (by kernel_rfl) (opn_int Tryz.underlying3)) hf (fun n hn => by have := List.all_eq_true.1 hsz0 n (DataW.weights_mem_each (j := 2) (t := 22) (by rfl) (by rfl) n hn); simpa using this)
    cases hv
    obtain rfl := hs.1
    exact ⟨l, rfl, hs, hg⟩
  obtain ⟨z3_0, rfl, y3_0, g3⟩ := okWide_cells Tryz.underlying28 (hval 3 28 v3 rfl rfl) (n := 3) (by kernel_rfl) (ts := [3, 3, 3]) (by kernel_rfl) rfl
  clear g3
  obtain ⟨c3_0, z3_1, rfl, y3_1⟩ := peel y3_0
  obtain ⟨c3_1, z3_2, rfl, y3_2⟩ := peel y3_1
  obtain ⟨c3_2, z3_3, rfl, y3_3⟩ := peel y3_2
  obtain rfl := peel0 y3_3
  have k3 := h3
  have lt3 : ∀ x ∈ p3, x.block < W.heap.size := by obtain ⟨m, hm⟩ := k3; exact DataW.trod_lt m _ _ _ hm
  obtain ⟨e3, r3, b3⟩ : ∃ d : Trigger, Enc.rd (fun b => b < W.heap.size) W [c3_0, c3_1, c3_2] d ∧ ((-9223372036854775808 ≤ d.On ∧ d.On ≤ 9223372036854775807) ∧ (-9223372036854775808 ≤ d.Off ∧ d.Off ≤ 9223372036854775807) ∧ (-9223372036854775808 ≤ d.Peak ∧ d.Peak ≤ 9223372036854775807)) := by
    obtain ⟨fuel, hf⟩ := k3
    exact opn_28 (W := W) hf (fun n hn => by have := List.all_eq_true.1 hsz0 n (DataW.weights_mem_each (j := 3) (t := 28) (by rfl) (by rfl) n hn); simpa using this)
  obtain ⟨_, _, _, hc3, q3_0, q3_1, q3_2⟩ := r3
  simp only [List.cons.injEq, and_true] at hc3
  obtain ⟨rfl, rfl, rfl⟩ := hc3
  subst q3_0
  subst q3_1
  subst q3_2
  obtain ⟨a4, len4, cap4, rfl⟩ := okWide_slice Tryz.underlying29 (hval 4 29 v4 rfl rfl)
  have k4 := h4
  have lt4 : ∀ x ∈ p4, x.block < W.heap.size := by obtain ⟨m, hm⟩ := k4; exact DataW.trod_lt m _ _ _ hm
  obtain ⟨l4, rfl, s4, b4⟩ : ∃ l : (List Pick), len4 = l.length ∧ (SlA a4 l.length cap4 l).p (fun b => b < W.heap.size) W ∧ ((l.length : Int) ≤ 140737488355328 ∧ ∀ y ∈ l, ((((y.Source.Network.size : Int) ≤ 9223372036854775807) ∧ ((y.Source.Station.size : Int) ≤ 9223372036854775807) ∧ ((y.Source.Location.size : Int) ≤ 9223372036854775807) ∧ ((y.Source.Channel.size : Int) ≤ 9223372036854775807)) ∧ (-9223372036854775808 ≤ y.Time ∧ y.Time ≤ 9223372036854775807) ∧ (-9223372036854775808 ≤ y.Early ∧ y.Early ≤ 9223372036854775807) ∧ (-9223372036854775808 ≤ y.Late ∧ y.Late ≤ 9223372036854775807) ∧ (-9223372036854775808 ≤ y.Amplitude ∧ y.Amplitude ≤ 9223372036854775807) ∧ (-9223372036854775808 ≤ y.Polarity ∧ y.Polarity ≤ 9223372036854775807))) := by
    obtain ⟨fuel, hf⟩ := k4
    obtain ⟨l, ⟨p, n, k, hv, hs⟩, hg⟩ := OpnT.leaf (c := .slice a4 len4 cap4) (W := W) (opn_slice Tryz.underlying29 (by kernel_rfl) (by decide) (by kernel_rfl) opn_66) hf (fun n hn => by have := List.all_eq_true.1 hsz0 n (DataW.weights_mem_each (j := 4) (t := 29) (by rfl) (by rfl) n hn); simpa using this)
    cases hv
    obtain rfl := hs.1
    exact ⟨l, rfl, hs, hg⟩
  obtain ⟨a5, len5, cap5, rfl⟩ := okWide_slice Tryz.underlying30 (hval 5 30 v5 rfl rfl)
  have k5 := h5
  have lt5 : ∀ x ∈ p5, x.block < W.heap.size := by obtain ⟨m, hm⟩ := k5; exact DataW.trod_lt m _ _ _ hm
  obtain ⟨l5, rfl, s5, b5⟩ : ∃ l : (List Segment), len5 = l.length ∧ (SlA a5 l.length cap5 l).p (fun b => b < W.heap.size) W ∧ ((l.length : Int) ≤ 140737488355328 ∧ ∀ y ∈ l, ((-9223372036854775808 ≤ y.Start ∧ y.Start ≤ 9223372036854775807) ∧ (-9223372036854775808 ≤ y.First ∧ y.First ≤ 9223372036854775807) ∧ ((-9223372036854775808 ≤ y.Rate.Num ∧ y.Rate.Num ≤ 9223372036854775807) ∧ (-9223372036854775808 ≤ y.Rate.Den ∧ y.Rate.Den ≤ 9223372036854775807)) ∧ (-9223372036854775808 ≤ y.Error ∧ y.Error ≤ 9223372036854775807) ∧ ((y.Samples.length : Int) ≤ 140737488355328 ∧ ∀ yy ∈ y.Samples, (-9223372036854775808 ≤ yy ∧ yy ≤ 9223372036854775807)))) := by
    obtain ⟨fuel, hf⟩ := k5
    obtain ⟨l, ⟨p, n, k, hv, hs⟩, hg⟩ := OpnT.leaf (c := .slice a5 len5 cap5) (W := W) (opn_slice Tryz.underlying30 (by kernel_rfl) (by decide) (by kernel_rfl) opn_36) hf (fun n hn => by have := List.all_eq_true.1 hsz0 n (DataW.weights_mem_each (j := 5) (t := 30) (by rfl) (by rfl) n hn); simpa using this)
    cases hv
    obtain rfl := hs.1
    exact ⟨l, rfl, hs, hg⟩
  clear hA0 hval0
  refine (law23_PickerExact_ok (w0 := W) (S0 := fun b => b < W.heap.size) (law23_PickerExact_true l0 e1 l2 e3 l4 l5 b0 b1 b2 b3 b4 b5) (fun _ h => h) s0 s2 s4 s5).mono fun e W' ⟨v, S', he, hp, hv⟩ => ?_
  subst he
  have hv : v = .bool true := hv
  subst hv
  have bel := hp.below
  exact ⟨_, rfl, _, _, _, [], _, [], hW', trodAll_mk1 (shut_bool Tryz.underlying4 _), (trodAll_cons_mk (Below.trod laidOut (by kernel_rfl) (of_decide_eq_true (by kernel_rfl)) k0 bel lt0) (trodAll_cons_mk (Below.trod laidOut (by kernel_rfl) (of_decide_eq_true (by kernel_rfl)) k1 bel lt1) (trodAll_cons_mk (Below.trod laidOut (by kernel_rfl) (of_decide_eq_true (by kernel_rfl)) k2 bel lt2) (trodAll_cons_mk (Below.trod laidOut (by kernel_rfl) (of_decide_eq_true (by kernel_rfl)) k3 bel lt3) (trodAll_cons_mk (Below.trod laidOut (by kernel_rfl) (of_decide_eq_true (by kernel_rfl)) k4 bel lt4) (trodAll_cons_mk (Below.trod laidOut (by kernel_rfl) (of_decide_eq_true (by kernel_rfl)) k5 bel lt5) trodAll_mk0)))))), rfl, bel.frame _, fun h => by cases h⟩
theorem over : Rows.pickerExactRow.holds Tryz.pinned (OpenSpec.ofChange Rows.pickerExactSpec) :=
  OpenClaim.holds_of_wide 3 Tryz.f3 rfl rfl rfl rfl rfl rfl rfl ⟨rfl, rfl, rfl, rfl, rfl⟩ rfl rfl rfl rfl rfl (by kernel_rfl) Tryz.func3 (by kernel_rfl)
    (of_decide_eq_true (by kernel_rfl)) (by unfold Func.isWrapper; first | (rw [if_pos (by decide +kernel)]; kernel_rfl) | (rw [if_neg (by decide +kernel)]; exact ⟨rfl, rfl⟩))
    (fun os started H enc _ => lifted os started H enc)
theorem proved : Rows.PickerExactSaid := over
end Go.Proofs.YtmlekplbmfengaaGreat.pickerExact

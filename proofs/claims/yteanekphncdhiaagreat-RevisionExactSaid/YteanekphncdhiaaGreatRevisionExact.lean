/- The statement RevisionExact holds: the law returns true at every input, and its arguments read as before. -/
import Derived.Test.YteanekphncdhiaaGreatRows
import Derived.Test.YteanekphncdhiaaGreatWRevisionExact5
import Derived.Test.YteanekphncdhiaaGreatLw2
import Derived.Test.YteanekphncdhiaaGreatLc1
import Derived.KernelRfl
namespace Go.Proofs.YteanekphncdhiaaGreat.revisionExact
open Go Go.RowKit Go.Proofs Go.Proofs.YteanekphncdhiaaGreat.Sh Go.Proofs.YteanekphncdhiaaGreat.Wk
open Go.ChangeShapes Go.WideShapes Go.ChangeAt
set_option linter.unusedVariables false
theorem own:ownKnob Tryz.prog.godebug=none:=by kernel_rfl
theorem laidOut:laidOutB Tryz.prog=true:=by kernel_rfl
set_option maxRecDepth 100000 in
theorem opn_138 {W:World}:a3A Tryz.prog W 138 Stage (fun x=>((-9223372036854775808≤x.Kind∧x.Kind≤9223372036854775807)∧((-9223372036854775808≤x.Num.e0∧x.Num.e0≤9223372036854775807)∧(-9223372036854775808≤x.Num.e1∧x.Num.e1≤9223372036854775807)∧(-9223372036854775808≤x.Num.e2∧x.Num.e2≤9223372036854775807))∧((-9223372036854775808≤x.Den.e0∧x.Den.e0≤9223372036854775807)∧(-9223372036854775808≤x.Den.e1∧x.Den.e1≤9223372036854775807)∧(-9223372036854775808≤x.Den.e2∧x.Den.e2≤9223372036854775807))∧((x.Taps.length:Int)≤140737488355328∧∀ y∈x.Taps,(-9223372036854775808≤y∧y≤9223372036854775807))∧(-9223372036854775808≤x.Factor∧x.Factor≤9223372036854775807)∧(-9223372036854775808≤x.Shift∧x.Shift≤9223372036854775807))):=fun {H enc fuel cs x} h hz=>by
  have z0:=b5c Tryz.underlying138 h (n:=10) (by kernel_rfl)
  obtain ⟨c0,cs1,rfl,z1⟩:=a2m z0
  obtain ⟨c1,cs2,rfl,z2⟩:=a2m z1
  obtain ⟨c2,cs3,rfl,z3⟩:=a2m z2
  obtain ⟨c3,cs4,rfl,z4⟩:=a2m z3
  obtain ⟨c4,cs5,rfl,z5⟩:=a2m z4
  obtain ⟨c5,cs6,rfl,z6⟩:=a2m z5
  obtain ⟨c6,cs7,rfl,z7⟩:=a2m z6
  obtain ⟨c7,cs8,rfl,z8⟩:=a2m z7
  obtain ⟨c8,cs9,rfl,z9⟩:=a2m z8
  obtain ⟨c9,cs10,rfl,z10⟩:=a2m z9
  obtain rfl:=peel0 z10
  obtain ⟨fm0_0,ym0_0,m0_0,wm0_0⟩:=C9 Tryz.underlying138 h (i:=0) rfl (ft:=3) (o:=0) (n:=1) rfl rfl (by kernel_rfl)
  obtain ⟨d0,r0,g0⟩:=a3A.leaf (c:=c0) (W:=W) (a0n Tryz.underlying3) m0_0 (wm0_0 hz)
  obtain ⟨fm1_0,ym1_0,m1_0,wm1_0⟩:=C9 Tryz.underlying138 h (i:=1) rfl (ft:=136) (o:=1) (n:=3) rfl rfl (by kernel_rfl)
  obtain ⟨fm1_1,ym1_1,m1_1,wm1_1⟩:=a6m Tryz.underlying136 m1_0 (i:=0) (by decide) (sz:=1) (by kernel_rfl)
  obtain ⟨d1,r1,g1⟩:=a3A.leaf (c:=c1) (W:=W) (a0n Tryz.underlying3) m1_1 (wm1_1 (wm1_0 hz))
  obtain ⟨fm2_0,ym2_0,m2_0,wm2_0⟩:=C9 Tryz.underlying138 h (i:=1) rfl (ft:=136) (o:=1) (n:=3) rfl rfl (by kernel_rfl)
  obtain ⟨fm2_1,ym2_1,m2_1,wm2_1⟩:=a6m Tryz.underlying136 m2_0 (i:=1) (by decide) (sz:=1) (by kernel_rfl)
  obtain ⟨d2,r2,g2⟩:=a3A.leaf (c:=c2) (W:=W) (a0n Tryz.underlying3) m2_1 (wm2_1 (wm2_0 hz))
  obtain ⟨fm3_0,ym3_0,m3_0,wm3_0⟩:=C9 Tryz.underlying138 h (i:=1) rfl (ft:=136) (o:=1) (n:=3) rfl rfl (by kernel_rfl)
  obtain ⟨fm3_1,ym3_1,m3_1,wm3_1⟩:=a6m Tryz.underlying136 m3_0 (i:=2) (by decide) (sz:=1) (by kernel_rfl)
  obtain ⟨d3,r3,g3⟩:=a3A.leaf (c:=c3) (W:=W) (a0n Tryz.underlying3) m3_1 (wm3_1 (wm3_0 hz))
  obtain ⟨fm4_0,ym4_0,m4_0,wm4_0⟩:=C9 Tryz.underlying138 h (i:=2) rfl (ft:=136) (o:=4) (n:=3) rfl rfl (by kernel_rfl)
  obtain ⟨fm4_1,ym4_1,m4_1,wm4_1⟩:=a6m Tryz.underlying136 m4_0 (i:=0) (by decide) (sz:=1) (by kernel_rfl)
  obtain ⟨d4,r4,g4⟩:=a3A.leaf (c:=c4) (W:=W) (a0n Tryz.underlying3) m4_1 (wm4_1 (wm4_0 hz))
  obtain ⟨fm5_0,ym5_0,m5_0,wm5_0⟩:=C9 Tryz.underlying138 h (i:=2) rfl (ft:=136) (o:=4) (n:=3) rfl rfl (by kernel_rfl)
  obtain ⟨fm5_1,ym5_1,m5_1,wm5_1⟩:=a6m Tryz.underlying136 m5_0 (i:=1) (by decide) (sz:=1) (by kernel_rfl)
  obtain ⟨d5,r5,g5⟩:=a3A.leaf (c:=c5) (W:=W) (a0n Tryz.underlying3) m5_1 (wm5_1 (wm5_0 hz))
  obtain ⟨fm6_0,ym6_0,m6_0,wm6_0⟩:=C9 Tryz.underlying138 h (i:=2) rfl (ft:=136) (o:=4) (n:=3) rfl rfl (by kernel_rfl)
  obtain ⟨fm6_1,ym6_1,m6_1,wm6_1⟩:=a6m Tryz.underlying136 m6_0 (i:=2) (by decide) (sz:=1) (by kernel_rfl)
  obtain ⟨d6,r6,g6⟩:=a3A.leaf (c:=c6) (W:=W) (a0n Tryz.underlying3) m6_1 (wm6_1 (wm6_0 hz))
  obtain ⟨fm7_0,ym7_0,m7_0,wm7_0⟩:=C9 Tryz.underlying138 h (i:=3) rfl (ft:=22) (o:=7) (n:=1) rfl rfl (by kernel_rfl)
  obtain ⟨d7,r7,g7⟩:=a3A.leaf (c:=c7) (W:=W) (b1f Tryz.underlying22 (by kernel_rfl) (by decide) (by kernel_rfl) (a0n Tryz.underlying3)) m7_0 (wm7_0 hz)
  obtain ⟨fm8_0,ym8_0,m8_0,wm8_0⟩:=C9 Tryz.underlying138 h (i:=4) rfl (ft:=3) (o:=8) (n:=1) rfl rfl (by kernel_rfl)
  obtain ⟨d8,r8,g8⟩:=a3A.leaf (c:=c8) (W:=W) (a0n Tryz.underlying3) m8_0 (wm8_0 hz)
  obtain ⟨fm9_0,ym9_0,m9_0,wm9_0⟩:=C9 Tryz.underlying138 h (i:=5) rfl (ft:=3) (o:=9) (n:=1) rfl rfl (by kernel_rfl)
  obtain ⟨d9,r9,g9⟩:=a3A.leaf (c:=c9) (W:=W) (a0n Tryz.underlying3) m9_0 (wm9_0 hz)
  exact ⟨(⟨d0,(⟨d1,d2,d3⟩:(Arr3 Int)),(⟨d4,d5,d6⟩:(Arr3 Int)),d7,d8,d9⟩:Stage),⟨_,_,_,_,_,_,_,_,_,_,rfl,r0,r1,r2,r3,r4,r5,r6,r7,r8,r9⟩,⟨g0,⟨g1,g2,g3⟩,⟨g4,g5,g6⟩,g7,g8,g9⟩⟩
set_option maxRecDepth 100000 in
theorem opn_43 {W:World}:a3A Tryz.prog W 43 Change (fun x=>((-9223372036854775808≤x.Kind∧x.Kind≤9223372036854775807)∧(((x.Source.Network.size:Int)≤9223372036854775807)∧((x.Source.Station.size:Int)≤9223372036854775807)∧((x.Source.Location.size:Int)≤9223372036854775807)∧((x.Source.Channel.size:Int)≤9223372036854775807))∧(-9223372036854775808≤x.From∧x.From≤9223372036854775807)∧((-9223372036854775808≤x.Epoch.From∧x.Epoch.From≤9223372036854775807)∧(-9223372036854775808≤x.Epoch.To∧x.Epoch.To≤9223372036854775807)∧((-9223372036854775808≤x.Epoch.Rate.Num∧x.Epoch.Rate.Num≤9223372036854775807)∧(-9223372036854775808≤x.Epoch.Rate.Den∧x.Epoch.Rate.Den≤9223372036854775807))∧((-9223372036854775808≤x.Epoch.Position.X∧x.Epoch.Position.X≤9223372036854775807)∧(-9223372036854775808≤x.Epoch.Position.Y∧x.Epoch.Position.Y≤9223372036854775807)∧(-9223372036854775808≤x.Epoch.Position.Z∧x.Epoch.Position.Z≤9223372036854775807))∧(((x.Epoch.Response.Stages.length:Int)≤140737488355328∧∀ y∈x.Epoch.Response.Stages,((-9223372036854775808≤y.Kind∧y.Kind≤9223372036854775807)∧((-9223372036854775808≤y.Num.e0∧y.Num.e0≤9223372036854775807)∧(-9223372036854775808≤y.Num.e1∧y.Num.e1≤9223372036854775807)∧(-9223372036854775808≤y.Num.e2∧y.Num.e2≤9223372036854775807))∧((-9223372036854775808≤y.Den.e0∧y.Den.e0≤9223372036854775807)∧(-9223372036854775808≤y.Den.e1∧y.Den.e1≤9223372036854775807)∧(-9223372036854775808≤y.Den.e2∧y.Den.e2≤9223372036854775807))∧((y.Taps.length:Int)≤140737488355328∧∀ yy∈y.Taps,(-9223372036854775808≤yy∧yy≤9223372036854775807))∧(-9223372036854775808≤y.Factor∧y.Factor≤9223372036854775807)∧(-9223372036854775808≤y.Shift∧y.Shift≤9223372036854775807))))))):=fun {H enc fuel cs x} h hz=>by
  have z0:=b5c Tryz.underlying43 h (n:=14) (by kernel_rfl)
  obtain ⟨c0,cs1,rfl,z1⟩:=a2m z0
  obtain ⟨c1,cs2,rfl,z2⟩:=a2m z1
  obtain ⟨c2,cs3,rfl,z3⟩:=a2m z2
  obtain ⟨c3,cs4,rfl,z4⟩:=a2m z3
  obtain ⟨c4,cs5,rfl,z5⟩:=a2m z4
  obtain ⟨c5,cs6,rfl,z6⟩:=a2m z5
  obtain ⟨c6,cs7,rfl,z7⟩:=a2m z6
  obtain ⟨c7,cs8,rfl,z8⟩:=a2m z7
  obtain ⟨c8,cs9,rfl,z9⟩:=a2m z8
  obtain ⟨c9,cs10,rfl,z10⟩:=a2m z9
  obtain ⟨c10,cs11,rfl,z11⟩:=a2m z10
  obtain ⟨c11,cs12,rfl,z12⟩:=a2m z11
  obtain ⟨c12,cs13,rfl,z13⟩:=a2m z12
  obtain ⟨c13,cs14,rfl,z14⟩:=a2m z13
  obtain rfl:=peel0 z14
  obtain ⟨fm0_0,ym0_0,m0_0,wm0_0⟩:=C9 Tryz.underlying43 h (i:=0) rfl (ft:=3) (o:=0) (n:=1) rfl rfl (by kernel_rfl)
  obtain ⟨d0,r0,g0⟩:=a3A.leaf (c:=c0) (W:=W) (a0n Tryz.underlying3) m0_0 (wm0_0 hz)
  obtain ⟨fm1_0,ym1_0,m1_0,wm1_0⟩:=C9 Tryz.underlying43 h (i:=1) rfl (ft:=32) (o:=1) (n:=4) rfl rfl (by kernel_rfl)
  obtain ⟨fm1_1,ym1_1,m1_1,wm1_1⟩:=C9 Tryz.underlying32 m1_0 (i:=0) rfl (ft:=9) (o:=0) (n:=1) rfl rfl (by kernel_rfl)
  obtain ⟨d1,r1,g1⟩:=a3A.leaf (c:=c1) (W:=W) (a7M Tryz.underlying9) m1_1 (wm1_1 (wm1_0 hz))
  obtain ⟨fm2_0,ym2_0,m2_0,wm2_0⟩:=C9 Tryz.underlying43 h (i:=1) rfl (ft:=32) (o:=1) (n:=4) rfl rfl (by kernel_rfl)
  obtain ⟨fm2_1,ym2_1,m2_1,wm2_1⟩:=C9 Tryz.underlying32 m2_0 (i:=1) rfl (ft:=9) (o:=1) (n:=1) rfl rfl (by kernel_rfl)
  obtain ⟨d2,r2,g2⟩:=a3A.leaf (c:=c2) (W:=W) (a7M Tryz.underlying9) m2_1 (wm2_1 (wm2_0 hz))
  obtain ⟨fm3_0,ym3_0,m3_0,wm3_0⟩:=C9 Tryz.underlying43 h (i:=1) rfl (ft:=32) (o:=1) (n:=4) rfl rfl (by kernel_rfl)
  obtain ⟨fm3_1,ym3_1,m3_1,wm3_1⟩:=C9 Tryz.underlying32 m3_0 (i:=2) rfl (ft:=9) (o:=2) (n:=1) rfl rfl (by kernel_rfl)
  obtain ⟨d3,r3,g3⟩:=a3A.leaf (c:=c3) (W:=W) (a7M Tryz.underlying9) m3_1 (wm3_1 (wm3_0 hz))
  obtain ⟨fm4_0,ym4_0,m4_0,wm4_0⟩:=C9 Tryz.underlying43 h (i:=1) rfl (ft:=32) (o:=1) (n:=4) rfl rfl (by kernel_rfl)
  obtain ⟨fm4_1,ym4_1,m4_1,wm4_1⟩:=C9 Tryz.underlying32 m4_0 (i:=3) rfl (ft:=9) (o:=3) (n:=1) rfl rfl (by kernel_rfl)
  obtain ⟨d4,r4,g4⟩:=a3A.leaf (c:=c4) (W:=W) (a7M Tryz.underlying9) m4_1 (wm4_1 (wm4_0 hz))
  obtain ⟨fm5_0,ym5_0,m5_0,wm5_0⟩:=C9 Tryz.underlying43 h (i:=2) rfl (ft:=3) (o:=5) (n:=1) rfl rfl (by kernel_rfl)
  obtain ⟨d5,r5,g5⟩:=a3A.leaf (c:=c5) (W:=W) (a0n Tryz.underlying3) m5_0 (wm5_0 hz)
  obtain ⟨fm6_0,ym6_0,m6_0,wm6_0⟩:=C9 Tryz.underlying43 h (i:=3) rfl (ft:=41) (o:=6) (n:=8) rfl rfl (by kernel_rfl)
  obtain ⟨fm6_1,ym6_1,m6_1,wm6_1⟩:=C9 Tryz.underlying41 m6_0 (i:=0) rfl (ft:=3) (o:=0) (n:=1) rfl rfl (by kernel_rfl)
  obtain ⟨d6,r6,g6⟩:=a3A.leaf (c:=c6) (W:=W) (a0n Tryz.underlying3) m6_1 (wm6_1 (wm6_0 hz))
  obtain ⟨fm7_0,ym7_0,m7_0,wm7_0⟩:=C9 Tryz.underlying43 h (i:=3) rfl (ft:=41) (o:=6) (n:=8) rfl rfl (by kernel_rfl)
  obtain ⟨fm7_1,ym7_1,m7_1,wm7_1⟩:=C9 Tryz.underlying41 m7_0 (i:=1) rfl (ft:=3) (o:=1) (n:=1) rfl rfl (by kernel_rfl)
  obtain ⟨d7,r7,g7⟩:=a3A.leaf (c:=c7) (W:=W) (a0n Tryz.underlying3) m7_1 (wm7_1 (wm7_0 hz))
  obtain ⟨fm8_0,ym8_0,m8_0,wm8_0⟩:=C9 Tryz.underlying43 h (i:=3) rfl (ft:=41) (o:=6) (n:=8) rfl rfl (by kernel_rfl)
  obtain ⟨fm8_1,ym8_1,m8_1,wm8_1⟩:=C9 Tryz.underlying41 m8_0 (i:=2) rfl (ft:=34) (o:=2) (n:=2) rfl rfl (by kernel_rfl)
  obtain ⟨fm8_2,ym8_2,m8_2,wm8_2⟩:=C9 Tryz.underlying34 m8_1 (i:=0) rfl (ft:=3) (o:=0) (n:=1) rfl rfl (by kernel_rfl)
  obtain ⟨d8,r8,g8⟩:=a3A.leaf (c:=c8) (W:=W) (a0n Tryz.underlying3) m8_2 (wm8_2 (wm8_1 (wm8_0 hz)))
  obtain ⟨fm9_0,ym9_0,m9_0,wm9_0⟩:=C9 Tryz.underlying43 h (i:=3) rfl (ft:=41) (o:=6) (n:=8) rfl rfl (by kernel_rfl)
  obtain ⟨fm9_1,ym9_1,m9_1,wm9_1⟩:=C9 Tryz.underlying41 m9_0 (i:=2) rfl (ft:=34) (o:=2) (n:=2) rfl rfl (by kernel_rfl)
  obtain ⟨fm9_2,ym9_2,m9_2,wm9_2⟩:=C9 Tryz.underlying34 m9_1 (i:=1) rfl (ft:=3) (o:=1) (n:=1) rfl rfl (by kernel_rfl)
  obtain ⟨d9,r9,g9⟩:=a3A.leaf (c:=c9) (W:=W) (a0n Tryz.underlying3) m9_2 (wm9_2 (wm9_1 (wm9_0 hz)))
  obtain ⟨fm10_0,ym10_0,m10_0,wm10_0⟩:=C9 Tryz.underlying43 h (i:=3) rfl (ft:=41) (o:=6) (n:=8) rfl rfl (by kernel_rfl)
  obtain ⟨fm10_1,ym10_1,m10_1,wm10_1⟩:=C9 Tryz.underlying41 m10_0 (i:=3) rfl (ft:=36) (o:=4) (n:=3) rfl rfl (by kernel_rfl)
  obtain ⟨fm10_2,ym10_2,m10_2,wm10_2⟩:=C9 Tryz.underlying36 m10_1 (i:=0) rfl (ft:=3) (o:=0) (n:=1) rfl rfl (by kernel_rfl)
  obtain ⟨d10,r10,g10⟩:=a3A.leaf (c:=c10) (W:=W) (a0n Tryz.underlying3) m10_2 (wm10_2 (wm10_1 (wm10_0 hz)))
  obtain ⟨fm11_0,ym11_0,m11_0,wm11_0⟩:=C9 Tryz.underlying43 h (i:=3) rfl (ft:=41) (o:=6) (n:=8) rfl rfl (by kernel_rfl)
  obtain ⟨fm11_1,ym11_1,m11_1,wm11_1⟩:=C9 Tryz.underlying41 m11_0 (i:=3) rfl (ft:=36) (o:=4) (n:=3) rfl rfl (by kernel_rfl)
  obtain ⟨fm11_2,ym11_2,m11_2,wm11_2⟩:=C9 Tryz.underlying36 m11_1 (i:=1) rfl (ft:=3) (o:=1) (n:=1) rfl rfl (by kernel_rfl)
  obtain ⟨d11,r11,g11⟩:=a3A.leaf (c:=c11) (W:=W) (a0n Tryz.underlying3) m11_2 (wm11_2 (wm11_1 (wm11_0 hz)))
  obtain ⟨fm12_0,ym12_0,m12_0,wm12_0⟩:=C9 Tryz.underlying43 h (i:=3) rfl (ft:=41) (o:=6) (n:=8) rfl rfl (by kernel_rfl)
  obtain ⟨fm12_1,ym12_1,m12_1,wm12_1⟩:=C9 Tryz.underlying41 m12_0 (i:=3) rfl (ft:=36) (o:=4) (n:=3) rfl rfl (by kernel_rfl)
  obtain ⟨fm12_2,ym12_2,m12_2,wm12_2⟩:=C9 Tryz.underlying36 m12_1 (i:=2) rfl (ft:=3) (o:=2) (n:=1) rfl rfl (by kernel_rfl)
  obtain ⟨d12,r12,g12⟩:=a3A.leaf (c:=c12) (W:=W) (a0n Tryz.underlying3) m12_2 (wm12_2 (wm12_1 (wm12_0 hz)))
  obtain ⟨fm13_0,ym13_0,m13_0,wm13_0⟩:=C9 Tryz.underlying43 h (i:=3) rfl (ft:=41) (o:=6) (n:=8) rfl rfl (by kernel_rfl)
  obtain ⟨fm13_1,ym13_1,m13_1,wm13_1⟩:=C9 Tryz.underlying41 m13_0 (i:=4) rfl (ft:=39) (o:=7) (n:=1) rfl rfl (by kernel_rfl)
  obtain ⟨fm13_2,ym13_2,m13_2,wm13_2⟩:=C9 Tryz.underlying39 m13_1 (i:=0) rfl (ft:=37) (o:=0) (n:=1) rfl rfl (by kernel_rfl)
  obtain ⟨d13,r13,g13⟩:=a3A.leaf (c:=c13) (W:=W) (b1f Tryz.underlying37 (by kernel_rfl) (by decide) (by kernel_rfl) opn_138) m13_2 (wm13_2 (wm13_1 (wm13_0 hz)))
  exact ⟨(⟨d0,(⟨d1,d2,d3,d4⟩:SourceID),d5,(⟨d6,d7,(⟨d8,d9⟩:Rate),(⟨d10,d11,d12⟩:Position),(⟨d13⟩:Response)⟩:Epoch)⟩:Change),⟨_,_,_,_,_,_,_,_,_,_,_,_,_,_,rfl,r0,r1,r2,r3,r4,r5,r6,r7,r8,r9,r10,r11,r12,r13⟩,⟨g0,⟨g1,g2,g3,g4⟩,g5,⟨g6,g7,⟨g8,g9⟩,⟨g10,g11,g12⟩,g13⟩⟩⟩
set_option maxRecDepth 100000 in
theorem lifted (os:Os) (started:os.Started) (H:Type) (enc:TypeId × Value→H) :
    ReturnsInHanded {} Tryz.checked os 8 .any (Rows.revisionExactSpec.pre6 enc Tryz.prog Tryz.f8 Rows.revisionExactRow.domain false) (Rows.revisionExactSpec.post enc Tryz.prog Tryz.f8 false true false false):=by
  refine returnsInHanded_of_change_sized (C:=Tryz.checked) own started (by kernel_rfl) Tryz.func8
    (ChangeSpec.witness6 (enc:=enc) (C:=Tryz.checked) false ⟨#[],#[.slice none 0 0,.agg #[.int .i64 0,.string ⟨#[]⟩,.string ⟨#[]⟩,.string ⟨#[]⟩,.string ⟨#[]⟩,.int .i64 0,.int .i64 0,.int .i64 0,.int .i64 0,.int .i64 0,.int .i64 0,.int .i64 0,.int .i64 0,.slice none 0 0],.int .i64 0,.int .i64 0,.int .i64 0,.int .i64 0],[]⟩ 8 (by kernel_rfl) (by kernel_rfl) (by kernel_rfl) (by kernel_rfl)) ?_
  intro W base args ds gs before hval0 hW hcnd hsz0 _
  have hval:∀ (j:Nat) t v,Tryz.f8.params[j]? = some t→args[j]? = some v→Value.okWide Tryz.prog W .any base t v:=hval0
  have hW':=hW
  obtain ⟨p,q,hA0,hV,rfl,hfz,hnd⟩:=hW
  have hA:DataW.TrodAll enc Tryz.prog W 0 (fun _=>true) true Tryz.f8.params.toList args.toList ds p:=hA0
  rw [Tryz.params8] at hA hval
  obtain ⟨v0,vs0,d0,ds0,p0,q0,hargs,rfl,rfl,h0,r0⟩:=trodAll_cons hA
  obtain ⟨v1,vs1,d1,ds1,p1,q1,rfl,rfl,rfl,h1,r1⟩:=trodAll_cons r0
  obtain ⟨v2,vs2,d2,ds2,p2,q2,rfl,rfl,rfl,h2,r2⟩:=trodAll_cons r1
  obtain ⟨v3,vs3,d3,ds3,p3,q3,rfl,rfl,rfl,h3,r3⟩:=trodAll_cons r2
  obtain ⟨v4,vs4,d4,ds4,p4,q4,rfl,rfl,rfl,h4,r4⟩:=trodAll_cons r3
  obtain ⟨v5,vs5,d5,ds5,p5,q5,rfl,rfl,rfl,h5,r5⟩:=trodAll_cons r4
  obtain ⟨rfl,rfl,rfl⟩:=trodAll_nil r5
  obtain rfl:args=#[v0,v1,v2,v3,v4,v5]:=by cases args;simp_all
  obtain ⟨rfl,rfl⟩:=trodVars_none hV
  obtain ⟨a0,len0,cap0,rfl⟩:=okWide_slice Tryz.underlying22 (hval 0 22 v0 rfl rfl)
  have k0:=h0
  have lt0:∀ x∈p0,x.block<W.heap.size:=by obtain ⟨m,hm⟩:=k0;exact DataW.trod_lt m _ _ _ hm
  obtain ⟨l0,rfl,s0,b0⟩:∃ l:(List Int),len0=l.length∧(SlA a0 l.length cap0 l).p (fun b=>b<W.heap.size) W∧((l.length:Int)≤140737488355328∧∀ y∈l,(-9223372036854775808≤y∧y≤9223372036854775807)):=by
    obtain ⟨fuel,hf⟩:=k0
    obtain ⟨l,⟨p,n,k,hv,hs⟩,hg⟩:=a3A.leaf (c:=.slice a0 len0 cap0) (W:=W) (b1f Tryz.underlying22 (by kernel_rfl) (by decide) (by kernel_rfl) (a0n Tryz.underlying3)) hf (fun n hn=>by have:=List.all_eq_true.1 hsz0 n (DataW.weights_mem_each (j:=0) (t:=22) (by rfl) (by rfl) n hn);simpa using this)
    cases hv
    obtain rfl:=hs.1
    exact ⟨l,rfl,hs,hg⟩
  obtain ⟨z1_0,rfl,y1_0,g1⟩:=b3Q Tryz.underlying43 (hval 1 43 v1 rfl rfl) (n:=14) (by kernel_rfl) (ts:=[3,9,9,9,9,3,3,3,3,3,3,3,3,37]) (by kernel_rfl) rfl
  clear g1
  obtain ⟨c1_0,z1_1,rfl,y1_1⟩:=a2m y1_0
  obtain ⟨c1_1,z1_2,rfl,y1_2⟩:=a2m y1_1
  obtain ⟨c1_2,z1_3,rfl,y1_3⟩:=a2m y1_2
  obtain ⟨c1_3,z1_4,rfl,y1_4⟩:=a2m y1_3
  obtain ⟨c1_4,z1_5,rfl,y1_5⟩:=a2m y1_4
  obtain ⟨c1_5,z1_6,rfl,y1_6⟩:=a2m y1_5
  obtain ⟨c1_6,z1_7,rfl,y1_7⟩:=a2m y1_6
  obtain ⟨c1_7,z1_8,rfl,y1_8⟩:=a2m y1_7
  obtain ⟨c1_8,z1_9,rfl,y1_9⟩:=a2m y1_8
  obtain ⟨c1_9,z1_10,rfl,y1_10⟩:=a2m y1_9
  obtain ⟨c1_10,z1_11,rfl,y1_11⟩:=a2m y1_10
  obtain ⟨c1_11,z1_12,rfl,y1_12⟩:=a2m y1_11
  obtain ⟨c1_12,z1_13,rfl,y1_13⟩:=a2m y1_12
  obtain ⟨c1_13,z1_14,rfl,y1_14⟩:=a2m y1_13
  obtain rfl:=peel0 y1_14
  have k1:=h1
  have lt1:∀ x∈p1,x.block<W.heap.size:=by obtain ⟨m,hm⟩:=k1;exact DataW.trod_lt m _ _ _ hm
  obtain ⟨e1,r1,b1⟩:∃ d:Change,Enc.rd (fun b=>b<W.heap.size) W [c1_0,c1_1,c1_2,c1_3,c1_4,c1_5,c1_6,c1_7,c1_8,c1_9,c1_10,c1_11,c1_12,c1_13] d∧((-9223372036854775808≤d.Kind∧d.Kind≤9223372036854775807)∧(((d.Source.Network.size:Int)≤9223372036854775807)∧((d.Source.Station.size:Int)≤9223372036854775807)∧((d.Source.Location.size:Int)≤9223372036854775807)∧((d.Source.Channel.size:Int)≤9223372036854775807))∧(-9223372036854775808≤d.From∧d.From≤9223372036854775807)∧((-9223372036854775808≤d.Epoch.From∧d.Epoch.From≤9223372036854775807)∧(-9223372036854775808≤d.Epoch.To∧d.Epoch.To≤9223372036854775807)∧((-9223372036854775808≤d.Epoch.Rate.Num∧d.Epoch.Rate.Num≤9223372036854775807)∧(-9223372036854775808≤d.Epoch.Rate.Den∧d.Epoch.Rate.Den≤9223372036854775807))∧((-9223372036854775808≤d.Epoch.Position.X∧d.Epoch.Position.X≤9223372036854775807)∧(-9223372036854775808≤d.Epoch.Position.Y∧d.Epoch.Position.Y≤9223372036854775807)∧(-9223372036854775808≤d.Epoch.Position.Z∧d.Epoch.Position.Z≤9223372036854775807))∧(((d.Epoch.Response.Stages.length:Int)≤140737488355328∧∀ y∈d.Epoch.Response.Stages,((-9223372036854775808≤y.Kind∧y.Kind≤9223372036854775807)∧((-9223372036854775808≤y.Num.e0∧y.Num.e0≤9223372036854775807)∧(-9223372036854775808≤y.Num.e1∧y.Num.e1≤9223372036854775807)∧(-9223372036854775808≤y.Num.e2∧y.Num.e2≤9223372036854775807))∧((-9223372036854775808≤y.Den.e0∧y.Den.e0≤9223372036854775807)∧(-9223372036854775808≤y.Den.e1∧y.Den.e1≤9223372036854775807)∧(-9223372036854775808≤y.Den.e2∧y.Den.e2≤9223372036854775807))∧((y.Taps.length:Int)≤140737488355328∧∀ yy∈y.Taps,(-9223372036854775808≤yy∧yy≤9223372036854775807))∧(-9223372036854775808≤y.Factor∧y.Factor≤9223372036854775807)∧(-9223372036854775808≤y.Shift∧y.Shift≤9223372036854775807)))))):=by
    obtain ⟨fuel,hf⟩:=k1
    exact opn_43 (W:=W) hf (fun n hn=>by have:=List.all_eq_true.1 hsz0 n (DataW.weights_mem_each (j:=1) (t:=43) (by rfl) (by rfl) n hn);simpa using this)
  obtain ⟨_,_,_,_,_,_,_,_,_,_,_,_,_,_,hc1,q1_0,q1_1,q1_2,q1_3,q1_4,q1_5,q1_6,q1_7,q1_8,q1_9,q1_10,q1_11,q1_12,q1_13⟩:=r1
  simp only [List.cons.injEq,and_true] at hc1
  obtain ⟨rfl,rfl,rfl,rfl,rfl,rfl,rfl,rfl,rfl,rfl,rfl,rfl,rfl,rfl⟩:=hc1
  subst q1_0
  subst q1_1
  subst q1_2
  subst q1_3
  subst q1_4
  subst q1_5
  subst q1_6
  subst q1_7
  subst q1_8
  subst q1_9
  subst q1_10
  subst q1_11
  subst q1_12
  obtain ⟨a1_13,n1_13,k1_13,rfl,s1_13⟩:=q1_13
  obtain rfl:=s1_13.1
  obtain ⟨a2,rfl,rfl,rfl,w2⟩:=open_int Tryz.underlying3 (hval 2 3 v2 rfl rfl) h2
  have b2:-9223372036854775808≤a2∧a2≤9223372036854775807:=by simpa [Lit.wf,IntKind.min,IntKind.max,IntKind.signed,IntKind.bits] using w2
  obtain ⟨a3,rfl,rfl,rfl,w3⟩:=open_int Tryz.underlying3 (hval 3 3 v3 rfl rfl) h3
  have b3:-9223372036854775808≤a3∧a3≤9223372036854775807:=by simpa [Lit.wf,IntKind.min,IntKind.max,IntKind.signed,IntKind.bits] using w3
  obtain ⟨a4,rfl,rfl,rfl,w4⟩:=open_int Tryz.underlying3 (hval 4 3 v4 rfl rfl) h4
  have b4:-9223372036854775808≤a4∧a4≤9223372036854775807:=by simpa [Lit.wf,IntKind.min,IntKind.max,IntKind.signed,IntKind.bits] using w4
  obtain ⟨a5,rfl,rfl,rfl,w5⟩:=open_int Tryz.underlying3 (hval 5 3 v5 rfl rfl) h5
  have b5:-9223372036854775808≤a5∧a5≤9223372036854775807:=by simpa [Lit.wf,IntKind.min,IntKind.max,IntKind.signed,IntKind.bits] using w5
  clear hA0 hval0
  refine (a7H (w0:=W) (S0:=fun b=>b<W.heap.size) (a6Y l0 e1 a2 a3 a4 a5 b0 b1 b2 b3 b4 b5) (fun _ h=>h) s0 s1_13).mono fun e W' ⟨v,S',he,hp,hv⟩=>?_
  subst he
  have hv:v=.bool true:=hv
  subst hv
  have bel:=hp.below
  exact ⟨_,rfl,_,_,_,[],_,[],hW',trodAll_mk1 (shut_bool Tryz.underlying4 _),(trodAll_cons_mk (Below.trod laidOut (by kernel_rfl) (of_decide_eq_true (by kernel_rfl)) k0 bel lt0) (trodAll_cons_mk (Below.trod laidOut (by kernel_rfl) (of_decide_eq_true (by kernel_rfl)) k1 bel lt1) (trodAll_cons_mk (shut_int Tryz.underlying3 w2) (trodAll_cons_mk (shut_int Tryz.underlying3 w3) (trodAll_cons_mk (shut_int Tryz.underlying3 w4) (trodAll_cons_mk (shut_int Tryz.underlying3 w5) trodAll_mk0)))))),rfl,bel.frame _,fun h=>by cases h⟩
theorem over:Rows.revisionExactRow.holds Tryz.pinned (OpenSpec.ofChange Rows.revisionExactSpec):=
  OpenClaim.holds_of_wide 8 Tryz.f8 rfl rfl rfl rfl rfl rfl rfl ⟨rfl,rfl,rfl,rfl,rfl⟩ rfl rfl rfl rfl rfl (by kernel_rfl) Tryz.func8 (by kernel_rfl)
    (of_decide_eq_true (by kernel_rfl)) (by unfold Func.isWrapper;first | (rw [if_pos (by decide +kernel)];kernel_rfl) | (rw [if_neg (by decide +kernel)];exact ⟨rfl,rfl⟩))
    (fun os started H enc _=>lifted os started H enc)
theorem proved:Rows.RevisionExactSaid:=over
end Go.Proofs.YteanekphncdhiaaGreat.revisionExact

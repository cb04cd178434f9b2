/- The walks of PickerExact, part 4: each Go function computes what its plain program computes. Printed by a program of ours. -/
import Derived.Test.YtmlekplbmfengaaGreatProg
import Derived.Test.YtmlekplbmfengaaGreatDat
import Derived.Test.YtmlekplbmfengaaGreatSh
import Derived.Test.YtmlekplbmfengaaGreatLibL
import Derived.Test.YtmlekplbmfengaaGreatLibZ
import Derived.Test.YtmlekplbmfengaaGreatLibQ
import Derived.KernelRfl
import Derived.Test.YtmlekplbmfengaaGreatLibU
import Derived.Shelf.SlLaysF0
import Derived.Test.YtmlekplbmfengaaGreatWPickerExact3
namespace Go.Proofs.YtmlekplbmfengaaGreat.Wk
open Go Go.RowKit Go.Proofs Go.Proofs.YtmlekplbmfengaaGreat.Sh
set_option linter.unusedVariables false
set_option linter.unusedSimpArgs false
abbrev ref23_Segment_rd (w0 : World) (X : List Nat) (r : ((List Pick) × Int)) : (Nat → Prop) → World → Value → Prop := fun S w v => ∃ (p0_0 : Option Addr) (k0_0 : Nat) (c0_0 : List Value), v = .tuple #[.slice p0_0 r.1.length k0_0, .int .i64 r.2] ∧ Outs X w0 S w [.row p0_0 r.1.length k0_0 c0_0 66 9] ∧ (RowA c0_0 r.1).p S w
set_option maxHeartbeats 4000000 in
set_option maxRecDepth 100000 in
theorem ref23_Segment_ok {w0 : World} {S0 : Nat → Prop} {p4 : Option Addr} {k5 : Nat} {p1 : Picking} {s2 : SourceID} {g3 : Segment} {r : ((List Pick) × Int)} (hsh : ref23_Segment p1 s2 g3 = some r) (hS : ∀ b, S0 b → b < w0.heap.size) (h6 : (SlA p4 g3.Samples.length k5 g3.Samples).p S0 w0) : Calls Tryz.prog 22 #[.agg #[.int .i64 p1.Detector.Short, .int .i64 p1.Detector.Long, .int .i64 p1.Detector.On, .int .i64 p1.Detector.Off, .int .i64 p1.Back, .int .i64 p1.Level, .int .i64 p1.Floor], .agg #[.string s2.Network, .string s2.Station, .string s2.Location, .string s2.Channel], .agg #[.int .i64 g3.Start, .int .i64 g3.First, .int .i64 g3.Rate.Num, .int .i64 g3.Rate.Den, .int .i64 g3.Error, .slice p4 g3.Samples.length k5]] w0 (Ret ([]) w0 S0 (ref23_Segment_rd w0 ([]) r)) := by
 refine calls_of_wp Tryz.func22 rfl ?_
 have hs := Sl.enter #[.agg #[.int .i64 p1.Detector.Short, .int .i64 p1.Detector.Long, .int .i64 p1.Detector.On, .int .i64 p1.Detector.Off, .int .i64 p1.Back, .int .i64 p1.Level, .int .i64 p1.Floor], .agg #[.string s2.Network, .string s2.Station, .string s2.Location, .string s2.Channel], .agg #[.int .i64 g3.Start, .int .i64 g3.First, .int .i64 g3.Rate.Num, .int .i64 g3.Rate.Den, .int .i64 g3.Error, .slice p4 g3.Samples.length k5]] 111 [(0, .agg #[.int .i64 p1.Detector.Short, .int .i64 p1.Detector.Long, .int .i64 p1.Detector.On, .int .i64 p1.Detector.Off, .int .i64 p1.Back, .int .i64 p1.Level, .int .i64 p1.Floor]), (1, .agg #[.string s2.Network, .string s2.Station, .string s2.Location, .string s2.Channel]), (2, .agg #[.int .i64 g3.Start, .int .i64 g3.First, .int .i64 g3.Rate.Num, .int .i64 g3.Rate.Den, .int .i64 g3.Error, .slice p4 g3.Samples.length k5])] rfl ⟨rfl, rfl, rfl, trivial⟩
 have hw := Wd.enter (E := []) hS (fun _ h => (by cases h))
 have hw := hw.addE h6
 delta ref23_Segment at hsh
 refine sr ?_
 refine w_box (cs := [.int .i64 p1.Detector.Short, .int .i64 p1.Detector.Long, .int .i64 p1.Detector.On, .int .i64 p1.Detector.Off, .int .i64 p1.Back, .int .i64 p1.Level, .int .i64 p1.Floor]) hs hw rfl rfl rfl trivial ?_
 intro b7 a w hs hw
 refine w_box (cs := [.string s2.Network, .string s2.Station, .string s2.Location, .string s2.Channel]) hs hw rfl rfl rfl trivial ?_
 intro b8 a w hs hw
 refine w_box (cs := [.int .i64 g3.Start, .int .i64 g3.First, .int .i64 g3.Rate.Num, .int .i64 g3.Rate.Den, .int .i64 g3.Error, .slice p4 g3.Samples.length k5]) hs hw rfl rfl rfl trivial ?_
 intro b9 a w hs hw
 refine av hs rfl rfl fun a hs => ?_
 refine av hs rfl rfl fun a hs => ?_
 refine nl ?_
 refine wp_seq ?_
 refine sr ?_
 refine sv hs (y_loadBA (hw.ownAt 2 rfl) rfl Tryz.isAgg26 Tryz.sizeOf26 rfl rfl) rfl fun a hs => ?_
 obtain ⟨rv11, h10, hsh⟩ := bind_t hsh
 refine st_callR hs (ref23_Valid_ok h10 hw.bdom) (do_call Tryz.call15 rfl) trivial rfl rfl ?_
 intro v15 Sv12 w a h13 h14 hs
 subst h14
 have hw := hw.callB h13
 refine sv hs (y_not rfl) rfl fun a hs => ?_
 refine mv hs rfl rfl fun a hs => ?_
 obtain ⟨c25, hc25, hsh⟩ := bind_t hsh
 refine wpl_join 4 (fun a w => ∃ (Sv26 : Nat → Prop), Sl 111 [(3, .pointer (some ⟨b7, 0, none⟩)), (4, .pointer (some ⟨b8, 0, none⟩)), (5, .pointer (some ⟨b9, 0, none⟩)), (21, .bool c25)] a ∧ Wd ⟨w0, S0, []⟩ Sv26 [.box b7 [.int .i64 p1.Detector.Short, .int .i64 p1.Detector.Long, .int .i64 p1.Detector.On, .int .i64 p1.Detector.Off, .int .i64 p1.Back, .int .i64 p1.Level, .int .i64 p1.Floor] 26, .box b8 [.string s2.Network, .string s2.Station, .string s2.Location, .string s2.Channel] 41, .box b9 [.int .i64 g3.Start, .int .i64 g3.First, .int .i64 g3.Rate.Num, .int .i64 g3.Rate.Den, .int .i64 g3.Error, .slice p4 g3.Samples.length k5] 36] [SlA p4 g3.Samples.length k5 g3.Samples] w) ?_ ?_
 ·rcases Bool.eq_false_or_eq_true (!rv11) with h24 | h24
  ·have hs := hs.fix 17 (.bool true) rfl (vb h24)
   have hsh := ite_t hc25 h24
   refine st_skip hs rfl rfl rfl rfl rfl fun a hs => ?_
   refine st_skip hs rfl rfl rfl rfl rfl fun a hs => ?_
   refine st_skip hs rfl rfl rfl rfl rfl fun a hs => ?_
   refine sv hs (y_pickT rfl rfl) rfl fun a hs => ?_
   refine wpList_nil ?_
   have hsh := oi hsh
   subst hsh
   refine then_normal ?_
   exact ⟨S0, (hs.wk rfl), (hw.ft [2, 1, 0] [0] (by decide) rfl rfl)⟩
  have hs := hs.fix 17 (.bool false) rfl (vb h24)
  have hsh := ite_f hc25 h24
  refine st_val hs (y_loadBA (hw.ownAt 1 rfl) rfl Tryz.isAgg41 Tryz.sizeOf41 rfl rfl) ⟨_, rfl, rfl⟩ rfl rfl fun a hs => ?_
  obtain ⟨rv28, h27, hsh⟩ := bind_t hsh
  refine st_callR hs (ref03_Valid_ok h27 hw.bdom) (do_call Tryz.call43 rfl) ⟨_, rfl, rfl⟩ rfl rfl ?_
  intro v32 Sv29 w a h30 h31 hs
  subst h31
  have hw := hw.callB h30
  refine st_val hs (y_not rfl) ⟨_, rfl, rfl⟩ rfl rfl fun a hs => ?_
  refine sv hs (y_pickF rfl rfl) rfl fun a hs => ?_
  refine wpList_nil ?_
  have hsh := oi hsh
  subst hsh
  refine then_normal ?_
  exact ⟨S0, (hs.wk rfl), (hw.ft [2, 1, 0] [0] (by decide) rfl rfl)⟩
 rintro a w ⟨Sv26, hs, hw⟩
 refine mv hs rfl rfl fun a hs => ?_
 obtain ⟨c42, hc42, hsh⟩ := bind_t hsh
 refine wpl_join 4 (fun a w => ∃ (Sv43 : Nat → Prop), Sl 111 [(3, .pointer (some ⟨b7, 0, none⟩)), (4, .pointer (some ⟨b8, 0, none⟩)), (5, .pointer (some ⟨b9, 0, none⟩)), (26, .bool c42)] a ∧ Wd ⟨w0, S0, []⟩ Sv43 [.box b7 [.int .i64 p1.Detector.Short, .int .i64 p1.Detector.Long, .int .i64 p1.Detector.On, .int .i64 p1.Detector.Off, .int .i64 p1.Back, .int .i64 p1.Level, .int .i64 p1.Floor] 26, .box b8 [.string s2.Network, .string s2.Station, .string s2.Location, .string s2.Channel] 41, .box b9 [.int .i64 g3.Start, .int .i64 g3.First, .int .i64 g3.Rate.Num, .int .i64 g3.Rate.Den, .int .i64 g3.Error, .slice p4 g3.Samples.length k5] 36] [SlA p4 g3.Samples.length k5 g3.Samples] w) ?_ ?_
 ·rcases Bool.eq_false_or_eq_true c25 with h41 | h41
  ·have hs := hs.fix 22 (.bool true) rfl (vb h41)
   have hsh := ite_t hc42 h41
   refine st_skip hs rfl rfl rfl rfl rfl fun a hs => ?_
   refine st_skip hs rfl rfl rfl rfl rfl fun a hs => ?_
   refine st_skip hs rfl rfl rfl rfl rfl fun a hs => ?_
   refine sv hs (y_pickT rfl rfl) rfl fun a hs => ?_
   refine wpList_nil ?_
   have hsh := oi hsh
   subst hsh
   refine then_normal ?_
   exact ⟨Sv26, (hs.wk rfl), (hw.ft [0, 1, 2] [0] (by decide) rfl rfl)⟩
  have hs := hs.fix 22 (.bool false) rfl (vb h41)
  have hsh := ite_f hc42 h41
  refine st_val hs (y_loadBA (hw.ownAt 2 rfl) rfl Tryz.isAgg36 Tryz.sizeOf36 rfl rfl) ⟨_, rfl, rfl⟩ rfl rfl fun a hs => ?_
  obtain ⟨rv45, h44, hsh⟩ := bind_t hsh
  refine st_callR hs (ref16_ValidSegment_ok h44 hw.bdom (hw.bE 0 rfl)) (do_call Tryz.call44 rfl) ⟨_, rfl, rfl⟩ rfl rfl ?_
  intro v49 Sv46 w a h47 h48 hs
  subst h48
  have hw := hw.callB h47
  refine st_val hs (y_not rfl) ⟨_, rfl, rfl⟩ rfl rfl fun a hs => ?_
  refine sv hs (y_pickF rfl rfl) rfl fun a hs => ?_
  refine wpList_nil ?_
  have hsh := oi hsh
  subst hsh
  refine then_normal ?_
  exact ⟨Sv26, (hs.wk rfl), (hw.ft [0, 1, 2] [0] (by decide) rfl rfl)⟩
 rintro a w ⟨Sv43, hs, hw⟩
 refine nl ?_
 refine wp_cond_split (hs.ev rfl) (fun h52 => ?_) (fun h52 => ?_)
 ·have hsh := ite_t hsh h52
  refine sr ?_
  refine av hs rfl rfl fun a hs => ?_
  refine av hs rfl rfl fun a hs => ?_
  refine nl ?_
  have hsh := oi hsh
  subst hsh
  have hw := hw.nilRow Pick 66
  refine wp_ret ?_
  refine then_ret ?_
  exact ret2 hs rfl (rv_tmp rfl) (rv_tmp rfl) (hw.ret ⟨none, 0, [], rfl, (hw.outs [0] (by decide) rfl), (hw.envAt 0 rfl)⟩)
 have hsh := ite_f hsh h52
 refine wp_skip ?_
 refine then_normal ?_
 refine sr ?_
 refine sv hs (y_fieldAddr (o' := 0) Tryz.runUnderlying26 rfl Tryz.sizeOf24 rfl rfl rfl) rfl fun a hs => ?_
 refine sv hs (y_loadBA (hw.ownAt 0 rfl) rfl Tryz.isAgg24 Tryz.sizeOf24 rfl rfl) rfl fun a hs => ?_
 refine sv hs (y_fieldAddr (o' := 5) Tryz.runUnderlying36 rfl Tryz.sizeOf22 rfl rfl rfl) rfl fun a hs => ?_
 refine sv hs (y_loadB1 (hw.ownAt 2 rfl) rfl Tryz.isAgg22 rfl) rfl fun a hs => ?_
 obtain ⟨rv54, h53, hsh⟩ := bind_t hsh
 refine st_callR hs (ref22_Run_ok h53 hw.dom (hw.envAt 0 rfl)) (do_call Tryz.call13 rfl) trivial rfl rfl ?_
 intro v62 Sv59 w a h60 h61 hs
 obtain ⟨p55, k56, c58, rfl, h63, h57⟩ := h61
 have hw := hw.callN h60 h63
 have hw := hw.addE (e := RowA c58 rv54.1) h57
 refine mv hs rfl rfl fun a hs => ?_
 refine sv hs (y_extract rfl rfl) rfl fun a hs => ?_
 refine sv hs (y_extract rfl rfl) rfl fun a hs => ?_
 refine av hs rfl rfl fun a hs => ?_
 refine av hs rfl rfl fun a hs => ?_
 refine nl ?_
 refine wp_seq ?_
 refine sr ?_
 refine mv hs rfl rfl fun a hs => ?_
 refine sv hs (y_neq rfl rfl) rfl fun a hs => ?_
 refine nl ?_
 refine wp_cond_split (hs.ev rfl) (fun h65 => ?_) (fun h65 => ?_)
 ·have hsh := ite_t hsh h65
  refine sr ?_
  refine mv hs rfl rfl fun a hs => ?_
  refine av hs rfl rfl fun a hs => ?_
  refine av hs rfl rfl fun a hs => ?_
  refine nl ?_
  have hsh := oi hsh
  subst hsh
  have hw := hw.nilRow Pick 66
  refine wp_ret ?_
  refine then_ret ?_
  exact ret2 hs rfl (rv_tmp rfl) (rv_tmp rfl) (hw.ret ⟨none, 0, [], rfl, (hw.outs [0] (by decide) rfl), (hw.envAt 0 rfl)⟩)
 have hsh := ite_f hsh h65
 refine wp_skip ?_
 refine then_normal ?_
 refine sr ?_
 refine av hs rfl rfl fun a hs => ?_
 refine nl ?_
 refine wp_seq ?_
 refine sr ?_
 refine av hs rfl rfl fun a hs => ?_
 refine nl ?_
 obtain ⟨e354, h575, hsh⟩ := bind_t hsh
 refine wp_join (fun a w => ∃ (c355 : List Value) (p356 : Option Addr) (k357 : Nat) (Sv358 : Nat → Prop), Sl 111 [(10, .slice p356 e354.length k357)] a ∧ Wd ⟨w0, S0, []⟩ Sv358 [.row p356 e354.length k357 c355 66 9] [RowA c355 e354] w) ?_ ?_
 ·refine wp_block ?_
  have hw := hw.nilRow Pick 66
  refine wp_while (fun sv66 a w => ∃ (c255 : List Value) (p256 : Option Addr) (k257 : Nat) (Sv258 : Nat → Prop), Sl 111 [(3, .pointer (some ⟨b7, 0, none⟩)), (4, .pointer (some ⟨b8, 0, none⟩)), (5, .pointer (some ⟨b9, 0, none⟩)), (8, .slice p55 rv54.1.length k56), (10, .slice p256 sv66.1.length k257), (11, .int .i64 sv66.2)] a ∧ Wd ⟨w0, S0, []⟩ Sv258 [.box b7 [.int .i64 p1.Detector.Short, .int .i64 p1.Detector.Long, .int .i64 p1.Detector.On, .int .i64 p1.Detector.Off, .int .i64 p1.Back, .int .i64 p1.Level, .int .i64 p1.Floor] 26, .box b8 [.string s2.Network, .string s2.Station, .string s2.Location, .string s2.Channel] 41, .box b9 [.int .i64 g3.Start, .int .i64 g3.First, .int .i64 g3.Rate.Num, .int .i64 g3.Rate.Den, .int .i64 g3.Error, .slice p4 g3.Samples.length k5] 36, .row p55 rv54.1.length k56 c58 28 3, .row p256 sv66.1.length k257 c255 66 9] [SlA p4 g3.Samples.length k5 g3.Samples, RowA c58 rv54.1, RowA c255 sv66.1] w) (([] : List Pick), 0) h575 ⟨[], none, 0, Sv59, (hs.wk rfl), (hw.ft [2, 3, 4, 1, 0] [2, 1, 0] (by decide) rfl rfl)⟩ ?_
  clear h575
  repeat clear hsh
  rintro sv66 a w tv352 ⟨c255, p256, k257, Sv258, hs, hw⟩ hsh hd351
  delta ref23_Segment_l1 at hsh
  refine wp_seq ?_
  refine sr ?_
  refine mv hs rfl rfl fun a hs => ?_
  refine mv hs rfl rfl fun a hs => ?_
  refine sv hs (y_len Tryz.runUnderlying47 rfl) rfl fun a hs => ?_
  refine sv hs (y_lss rfl rfl) rfl fun a hs => ?_
  refine nl ?_
  refine wp_cond_split (hs.ev rfl) (fun h360 => ?_) (fun h360 => ?_)
  ·have hsh := ite_t hsh h360
   refine wp_skip ?_
   refine then_normal ?_
   refine wp_seq ?_
   refine wp_join (fun a w => ∃ (out449 : (List Pick)) (c445 : List Value) (p446 : Option Addr) (k447 : Nat) (Sv448 : Nat → Prop), ref23_Segment_j1 sv66 out449 = some tv352 ∧ Sl 111 [(3, .pointer (some ⟨b7, 0, none⟩)), (4, .pointer (some ⟨b8, 0, none⟩)), (5, .pointer (some ⟨b9, 0, none⟩)), (8, .slice p55 rv54.1.length k56), (10, .slice p446 out449.length k447), (11, .int .i64 sv66.2)] a ∧ Wd ⟨w0, S0, []⟩ Sv448 [.box b7 [.int .i64 p1.Detector.Short, .int .i64 p1.Detector.Long, .int .i64 p1.Detector.On, .int .i64 p1.Detector.Off, .int .i64 p1.Back, .int .i64 p1.Level, .int .i64 p1.Floor] 26, .box b8 [.string s2.Network, .string s2.Station, .string s2.Location, .string s2.Channel] 41, .box b9 [.int .i64 g3.Start, .int .i64 g3.First, .int .i64 g3.Rate.Num, .int .i64 g3.Rate.Den, .int .i64 g3.Error, .slice p4 g3.Samples.length k5] 36, .row p55 rv54.1.length k56 c58 28 3, .row p446 out449.length k447 c445 66 9] [SlA p4 g3.Samples.length k5 g3.Samples, RowA c58 rv54.1, RowA c445 out449] w) ?_ ?_
   ·refine wp_block ?_
    refine wp_seq ?_
    refine wp_seq ?_
    obtain ⟨x454, h452, hsh⟩ := bind_t hsh
    obtain ⟨b461, q458, c459, h462, h455, h456, h460, h453⟩ := hw.elemRV (α := Trigger) 3 rfl 1 rfl h452
    have hsv463 := hs
    have hwv464 := hw
    subst h462
    have hs := hsv463
    have hw := hwv464
    obtain ⟨_, _, _, rfl, rfl, rfl, rfl⟩ := h453
    obtain ⟨c474, hc474, hsh⟩ := bind_t hsh
    refine wp_only (fun a w => ∃ (Sv475 : Nat → Prop), Sl 111 [(3, .pointer (some ⟨b7, 0, none⟩)), (4, .pointer (some ⟨b8, 0, none⟩)), (5, .pointer (some ⟨b9, 0, none⟩)), (8, .slice (some ⟨b461, 0, none⟩) rv54.1.length k56), (10, .slice p256 sv66.1.length k257), (11, .int .i64 sv66.2), (59, .bool c474)] a ∧ Wd ⟨w0, S0, []⟩ Sv475 [.box b7 [.int .i64 p1.Detector.Short, .int .i64 p1.Detector.Long, .int .i64 p1.Detector.On, .int .i64 p1.Detector.Off, .int .i64 p1.Back, .int .i64 p1.Level, .int .i64 p1.Floor] 26, .box b8 [.string s2.Network, .string s2.Station, .string s2.Location, .string s2.Channel] 41, .box b9 [.int .i64 g3.Start, .int .i64 g3.First, .int .i64 g3.Rate.Num, .int .i64 g3.Rate.Den, .int .i64 g3.Error, .slice p4 g3.Samples.length k5] 36, .row (some ⟨b461, 0, none⟩) rv54.1.length k56 c58 28 3, .row p256 sv66.1.length k257 c255 66 9] [SlA p4 g3.Samples.length k5 g3.Samples, RowA c58 rv54.1, RowA c255 sv66.1] w) ?_ ?_
    ·rcases Bool.eq_false_or_eq_true (decide (x454.Off < 0)) with h476 | h476
     ·have h477 := ite_t hc474 h476
      refine h_b (C := Cls [.box b7 [.int .i64 p1.Detector.Short, .int .i64 p1.Detector.Long, .int .i64 p1.Detector.On, .int .i64 p1.Detector.Off, .int .i64 p1.Back, .int .i64 p1.Level, .int .i64 p1.Floor] 26, .box b8 [.string s2.Network, .string s2.Station, .string s2.Location, .string s2.Channel] 41, .box b9 [.int .i64 g3.Start, .int .i64 g3.First, .int .i64 g3.Rate.Num, .int .i64 g3.Rate.Den, .int .i64 g3.Error, .slice p4 g3.Samples.length k5] 36, .row (some ⟨b461, 0, none⟩) rv54.1.length k56 c58 28 3, .row p256 sv66.1.length k257 c255 66 9] []) (by kernel_rfl) rfl (hw.drew.cs [0, 1, 2, 3, 4] [] rfl rfl) fun hC => ?_
      have hw := hw.drew
      refine gm hs 0 rfl rfl rfl hC fun a hs => ?_
      refine gm hs 1 rfl rfl rfl hC fun a hs => ?_
      refine gv hs 2 rfl rfl hC (fun w hC => y_indexAt Tryz.runUnderlying47 Tryz.sizeOf28 rfl rfl h455.1 h455.2 h456) fun a hs => ?_
      refine gv hs 3 rfl rfl hC (fun w hC => y_fieldAddr (o' := q458 + 1) Tryz.runUnderlying28 rfl Tryz.sizeOf3 rfl rfl rfl) fun a hs => ?_
      refine gv hs 4 rfl rfl hC (fun w hC => y_loadQ1 (j := 1) (hC.ownAt 3 rfl) rfl Tryz.isAgg3 h460 rfl) fun a hs => ?_
      refine gv hs 5 rfl rfl hC (fun w hC => y_lss rfl rfl) fun a hs => ?_
      refine gm hs 6 rfl rfl rfl hC fun a hs => ?_
      have hs := hs.fix 50 (.bool true) rfl (vb h476)
      refine gs hs 7 rfl rfl rfl rfl hC fun a hs => ?_
      refine gs hs 8 rfl rfl rfl rfl hC fun a hs => ?_
      refine gs hs 9 rfl rfl rfl rfl hC fun a hs => ?_
      refine gs hs 10 rfl rfl rfl rfl hC fun a hs => ?_
      refine gs hs 11 rfl rfl rfl rfl hC fun a hs => ?_
      refine gs hs 12 rfl rfl rfl rfl hC fun a hs => ?_
      refine gs hs 13 rfl rfl rfl rfl hC fun a hs => ?_
      refine gs hs 14 rfl rfl rfl rfl hC fun a hs => ?_
      refine gv hs 15 rfl rfl hC (fun w hC => y_pickTE (v := .bool c474) rfl rfl (vbs h477)) fun a hs => ?_
      refine h_done (by kernel_rfl) ?_
      exact ⟨Sv258, (hs.wk rfl), (hw.ft [0, 1, 2, 3, 4] [0, 1, 2] (by decide) rfl rfl)⟩
     have h478 := ite_f hc474 h476
     obtain ⟨x481, h479, h478⟩ := bind_t h478
     obtain ⟨q485, c486, h482, h483, h487, h480⟩ := hw.elemRK (α := Trigger) 3 rfl 1 rfl h479
     obtain ⟨_, _, _, rfl, rfl, rfl, rfl⟩ := h480
     refine h_b (C := Cls [.box b7 [.int .i64 p1.Detector.Short, .int .i64 p1.Detector.Long, .int .i64 p1.Detector.On, .int .i64 p1.Detector.Off, .int .i64 p1.Back, .int .i64 p1.Level, .int .i64 p1.Floor] 26, .box b8 [.string s2.Network, .string s2.Station, .string s2.Location, .string s2.Channel] 41, .box b9 [.int .i64 g3.Start, .int .i64 g3.First, .int .i64 g3.Rate.Num, .int .i64 g3.Rate.Den, .int .i64 g3.Error, .slice p4 g3.Samples.length k5] 36, .row (some ⟨b461, 0, none⟩) rv54.1.length k56 c58 28 3, .row p256 sv66.1.length k257 c255 66 9] []) (by kernel_rfl) rfl (hw.drew.cs [0, 1, 2, 3, 4] [] rfl rfl) fun hC => ?_
     have hw := hw.drew
     refine gm hs 0 rfl rfl rfl hC fun a hs => ?_
     refine gm hs 1 rfl rfl rfl hC fun a hs => ?_
     refine gv hs 2 rfl rfl hC (fun w hC => y_indexAt Tryz.runUnderlying47 Tryz.sizeOf28 rfl rfl h455.1 h455.2 h456) fun a hs => ?_
     refine gv hs 3 rfl rfl hC (fun w hC => y_fieldAddr (o' := q458 + 1) Tryz.runUnderlying28 rfl Tryz.sizeOf3 rfl rfl rfl) fun a hs => ?_
     refine gv hs 4 rfl rfl hC (fun w hC => y_loadQ1 (j := 1) (hC.ownAt 3 rfl) rfl Tryz.isAgg3 h460 rfl) fun a hs => ?_
     refine gv hs 5 rfl rfl hC (fun w hC => y_lss rfl rfl) fun a hs => ?_
     refine gm hs 6 rfl rfl rfl hC fun a hs => ?_
     have hs := hs.fix 50 (.bool false) rfl (vb h476)
     refine gt hs 7 rfl ⟨_, rfl, rfl⟩ rfl hC (fun w hC => y_move rfl) fun a hs => ?_
     refine gt hs 8 rfl ⟨_, rfl, rfl⟩ rfl hC (fun w hC => y_move rfl) fun a hs => ?_
     refine gt hs 9 rfl ⟨_, rfl, rfl⟩ rfl hC (fun w hC => y_indexAt Tryz.runUnderlying47 Tryz.sizeOf28 rfl rfl h482.1 h482.2 h483) fun a hs => ?_
     refine gt hs 10 rfl ⟨_, rfl, rfl⟩ rfl hC (fun w hC => y_fieldAddr (o' := q485 + 2) Tryz.runUnderlying28 rfl Tryz.sizeOf3 rfl rfl rfl) fun a hs => ?_
     refine gt hs 11 rfl ⟨_, rfl, rfl⟩ rfl hC (fun w hC => y_loadQ1 (j := 2) (hC.ownAt 3 rfl) rfl Tryz.isAgg3 h487 rfl) fun a hs => ?_
     refine gt hs 12 rfl ⟨_, rfl, rfl⟩ rfl hC (fun w hC => y_fieldAddr (o' := 6) Tryz.runUnderlying26 rfl Tryz.sizeOf3 rfl rfl rfl) fun a hs => ?_
     refine gt hs 13 rfl ⟨_, rfl, rfl⟩ rfl hC (fun w hC => y_loadB1 (hC.ownAt 0 rfl) rfl Tryz.isAgg3 rfl) fun a hs => ?_
     refine gt hs 14 rfl ⟨_, rfl, rfl⟩ rfl hC (fun w hC => y_lss rfl rfl) fun a hs => ?_
     refine gv hs 15 rfl rfl hC (fun w hC => y_pickFE (v := .bool c474) rfl rfl (vbs h478)) fun a hs => ?_
     refine h_done (by kernel_rfl) ?_
     exact ⟨Sv258, (hs.wk rfl), (hw.ft [0, 1, 2, 3, 4] [0, 1, 2] (by decide) rfl rfl)⟩
    rintro a w ⟨Sv475, hs, hw⟩
    refine then_normal ?_
    refine wp_cond_split (hs.ev rfl) (fun h489 => ?_) (fun h489 => ?_)
    ·have hsh := ite_t hsh h489
     refine wp_exit ?_
     refine then_exit ?_
     refine blk_exit ?_
     refine then_normal ?_
     exact ⟨sv66.1, c255, p256, k257, Sv475, hsh, (hs.wk rfl), (hw.ft [0, 1, 2, 3, 4] [0, 1, 2] (by decide) rfl rfl)⟩
    have hsh := ite_f hsh h489
    refine wp_skip ?_
    refine then_normal ?_
    refine wp_seq ?_
    obtain ⟨x492, h490, hsh⟩ := bind_t hsh
    obtain ⟨q496, c497, h493, h494, h498, h491⟩ := hw.elemRK (α := Trigger) 3 rfl 1 rfl h490
    obtain ⟨_, _, _, rfl, rfl, rfl, rfl⟩ := h491
    obtain ⟨rv500, h499, hsh⟩ := bind_t hsh
    refine wp_only (fun a w => ∃ (Sv501 : Nat → Prop), Sl 111 [(3, .pointer (some ⟨b7, 0, none⟩)), (4, .pointer (some ⟨b8, 0, none⟩)), (5, .pointer (some ⟨b9, 0, none⟩)), (8, .slice (some ⟨b461, 0, none⟩) rv54.1.length k56), (10, .slice p256 sv66.1.length k257), (11, .int .i64 sv66.2), (12, .int .i64 rv500.1)] a ∧ Wd ⟨w0, S0, []⟩ Sv501 [.box b7 [.int .i64 p1.Detector.Short, .int .i64 p1.Detector.Long, .int .i64 p1.Detector.On, .int .i64 p1.Detector.Off, .int .i64 p1.Back, .int .i64 p1.Level, .int .i64 p1.Floor] 26, .box b8 [.string s2.Network, .string s2.Station, .string s2.Location, .string s2.Channel] 41, .box b9 [.int .i64 g3.Start, .int .i64 g3.First, .int .i64 g3.Rate.Num, .int .i64 g3.Rate.Den, .int .i64 g3.Error, .slice p4 g3.Samples.length k5] 36, .row (some ⟨b461, 0, none⟩) rv54.1.length k56 c58 28 3, .row p256 sv66.1.length k257 c255 66 9] [SlA p4 g3.Samples.length k5 g3.Samples, RowA c58 rv54.1, RowA c255 sv66.1] w) ?_ ?_
    ·refine h_b (C := Cls [.box b7 [.int .i64 p1.Detector.Short, .int .i64 p1.Detector.Long, .int .i64 p1.Detector.On, .int .i64 p1.Detector.Off, .int .i64 p1.Back, .int .i64 p1.Level, .int .i64 p1.Floor] 26, .box b8 [.string s2.Network, .string s2.Station, .string s2.Location, .string s2.Channel] 41, .box b9 [.int .i64 g3.Start, .int .i64 g3.First, .int .i64 g3.Rate.Num, .int .i64 g3.Rate.Den, .int .i64 g3.Error, .slice p4 g3.Samples.length k5] 36, .row (some ⟨b461, 0, none⟩) rv54.1.length k56 c58 28 3, .row p256 sv66.1.length k257 c255 66 9] []) (by kernel_rfl) rfl (hw.drew.cs [0, 1, 2, 3, 4] [] rfl rfl) fun hC => ?_
     have hw := hw.drew
     refine gv hs 0 rfl rfl hC (fun w hC => y_loadBA (hC.ownAt 0 rfl) rfl Tryz.isAgg26 Tryz.sizeOf26 rfl rfl) fun a hs => ?_
     refine gv hs 1 rfl rfl hC (fun w hC => y_fieldAddr (o' := 5) Tryz.runUnderlying36 rfl Tryz.sizeOf22 rfl rfl rfl) fun a hs => ?_
     refine gv hs 2 rfl rfl hC (fun w hC => y_loadB1 (hC.ownAt 2 rfl) rfl Tryz.isAgg22 rfl) fun a hs => ?_
     refine gm hs 3 rfl rfl rfl hC fun a hs => ?_
     refine gm hs 4 rfl rfl rfl hC fun a hs => ?_
     refine gv hs 5 rfl rfl hC (fun w hC => y_indexAt Tryz.runUnderlying47 Tryz.sizeOf28 rfl rfl h493.1 h493.2 h494) fun a hs => ?_
     refine gv hs 6 rfl rfl hC (fun w hC => y_loadQA (j := 0) (hC.ownAt 3 rfl) rfl Tryz.isAgg28 Tryz.sizeOf28 h498 rfl rfl) fun a hs => ?_
     refine ho 7 rfl ?_
     refine st_callR hs (ref23_Onset_ok h499 hw.bdom (hw.bE 0 rfl)) (do_call Tryz.call17 rfl) trivial rfl rfl ?_
     intro v505 Sv502 w a h503 h504 hs
     subst h504
     have hw := hw.callB h503
     refine h_nx (hw.cs [0, 1, 2, 3, 4] [] rfl rfl) fun hC => ?_
     refine gm hs 8 rfl rfl rfl hC fun a hs => ?_
     refine gv hs 9 rfl rfl hC (fun w hC => y_extract rfl rfl) fun a hs => ?_
     refine gv hs 10 rfl rfl hC (fun w hC => y_extract rfl rfl) fun a hs => ?_
     refine gv hs 11 rfl rfl hC (fun w hC => y_assign rfl) fun a hs => ?_
     refine gv hs 12 rfl rfl hC (fun w hC => y_assign rfl) fun a hs => ?_
     refine h_done (by kernel_rfl) ?_
     exact ⟨Sv475, (hs.wk rfl), (hw.ft [0, 1, 2, 3, 4] [0, 1, 2] (by decide) rfl rfl)⟩
    rintro a w ⟨Sv501, hs, hw⟩
    refine then_normal ?_
    obtain ⟨rv508, h507, hsh⟩ := bind_t hsh
    obtain ⟨rv510, h509, hsh⟩ := bind_t hsh
    obtain ⟨x513, h511, hsh⟩ := bind_t hsh
    obtain ⟨q517, c518, h514, h515, h519, h512⟩ := hw.elemRK (α := Trigger) 3 rfl 1 rfl h511
    obtain ⟨_, _, _, rfl, rfl, rfl, rfl⟩ := h512
    obtain ⟨rv521, h520, hsh⟩ := bind_t hsh
    obtain ⟨x524, h522, hsh⟩ := bind_t hsh
    obtain ⟨q528, c529, h525, h526, h530, h523⟩ := hw.elemRK (α := Trigger) 3 rfl 1 rfl h522
    obtain ⟨_, _, _, rfl, rfl, rfl, rfl⟩ := h523
    obtain ⟨x533, h531, hsh⟩ := bind_t hsh
    obtain ⟨b539, o540, q537, c538, h541, h534, h535, h536, h532⟩ := hw.elemV 0 rfl h531
    have hsv542 := hs
    have hwv543 := hw
    subst h541
    have hs := hsv542
    have hw := hwv543
    obtain ⟨_, rfl, rfl⟩ := h532
    have hw := hw.addE h536
    obtain ⟨rv545, h544, hsh⟩ := bind_t hsh
    obtain ⟨l549, h548, hsh⟩ := bind_t hsh
    refine wp_only (fun a w => ∃ (Sv553 : Nat → Prop) (c552 : List Value) (k551 : Nat) (p550 : Option Addr), Sl 111 [(3, .pointer (some ⟨b7, 0, none⟩)), (4, .pointer (some ⟨b8, 0, none⟩)), (5, .pointer (some ⟨b9, 0, none⟩)), (8, .slice (some ⟨b461, 0, none⟩) rv54.1.length k56), (10, .slice p550 l549.length k551), (11, .int .i64 sv66.2)] a ∧ Wd ⟨w0, S0, []⟩ Sv553 [.box b7 [.int .i64 p1.Detector.Short, .int .i64 p1.Detector.Long, .int .i64 p1.Detector.On, .int .i64 p1.Detector.Off, .int .i64 p1.Back, .int .i64 p1.Level, .int .i64 p1.Floor] 26, .box b8 [.string s2.Network, .string s2.Station, .string s2.Location, .string s2.Channel] 41, .box b9 [.int .i64 g3.Start, .int .i64 g3.First, .int .i64 g3.Rate.Num, .int .i64 g3.Rate.Den, .int .i64 g3.Error, .slice (some ⟨b539, o540, none⟩) g3.Samples.length k5] 36, .row (some ⟨b461, 0, none⟩) rv54.1.length k56 c58 28 3, .row p550 l549.length k551 c552 66 9] [SlA (some ⟨b539, o540, none⟩) g3.Samples.length k5 g3.Samples, RowA c58 rv54.1, RowA c552 l549] w) ?_ ?_
    ·refine h_b (C := Cls [.box b7 [.int .i64 p1.Detector.Short, .int .i64 p1.Detector.Long, .int .i64 p1.Detector.On, .int .i64 p1.Detector.Off, .int .i64 p1.Back, .int .i64 p1.Level, .int .i64 p1.Floor] 26, .box b8 [.string s2.Network, .string s2.Station, .string s2.Location, .string s2.Channel] 41, .box b9 [.int .i64 g3.Start, .int .i64 g3.First, .int .i64 g3.Rate.Num, .int .i64 g3.Rate.Den, .int .i64 g3.Error, .slice (some ⟨b539, o540, none⟩) g3.Samples.length k5] 36, .row (some ⟨b461, 0, none⟩) rv54.1.length k56 c58 28 3] [CeA b539 q537 [.int .i64 x533]]) (by kernel_rfl) rfl (hw.drew.cs [0, 1, 2, 3] [0] rfl rfl) fun hC => ?_
     have hw := hw.drew
     refine gm hs 0 rfl rfl rfl hC fun a hs => ?_
     refine gv hs 1 rfl rfl hC (fun w hC => y_loadBA (hC.ownAt 1 rfl) rfl Tryz.isAgg41 Tryz.sizeOf41 rfl rfl) fun a hs => ?_
     refine gv hs 2 rfl rfl hC (fun w hC => y_loadBA (hC.ownAt 2 rfl) rfl Tryz.isAgg36 Tryz.sizeOf36 rfl rfl) fun a hs => ?_
     refine gm hs 3 rfl rfl rfl hC fun a hs => ?_
     refine gv hs 5 rfl rfl hC (fun w hC => y_loadBA (hC.ownAt 2 rfl) rfl Tryz.isAgg36 Tryz.sizeOf36 rfl rfl) fun a hs => ?_
     refine gm hs 6 rfl rfl rfl hC fun a hs => ?_
     refine gv hs 7 rfl rfl hC (fun w hC => y_sub rfl rfl) fun a hs => ?_
     refine gv hs 8 rfl rfl hC (fun w hC => y_max rfl rfl) fun a hs => ?_
     refine gv hs 10 rfl rfl hC (fun w hC => y_fieldAddr (o' := 4) Tryz.runUnderlying36 rfl Tryz.sizeOf3 rfl rfl rfl) fun a hs => ?_
     refine gv hs 11 rfl rfl hC (fun w hC => y_loadB1 (hC.ownAt 2 rfl) rfl Tryz.isAgg3 rfl) fun a hs => ?_
     refine gv hs 14 rfl rfl hC (fun w hC => y_loadBA (hC.ownAt 2 rfl) rfl Tryz.isAgg36 Tryz.sizeOf36 rfl rfl) fun a hs => ?_
     refine gm hs 15 rfl rfl rfl hC fun a hs => ?_
     refine gm hs 16 rfl rfl rfl hC fun a hs => ?_
     refine gv hs 17 rfl rfl hC (fun w hC => y_indexAt Tryz.runUnderlying47 Tryz.sizeOf28 rfl rfl h514.1 h514.2 h515) fun a hs => ?_
     refine gv hs 18 rfl rfl hC (fun w hC => y_fieldAddr (o' := q517 + 0) Tryz.runUnderlying28 rfl Tryz.sizeOf3 rfl rfl rfl) fun a hs => ?_
     refine gv hs 19 rfl rfl hC (fun w hC => y_loadQ1 (j := 0) (hC.ownAt 3 rfl) rfl Tryz.isAgg3 h519 rfl) fun a hs => ?_
     refine gv hs 21 rfl rfl hC (fun w hC => y_fieldAddr (o' := 4) Tryz.runUnderlying36 rfl Tryz.sizeOf3 rfl rfl rfl) fun a hs => ?_
     refine gv hs 22 rfl rfl hC (fun w hC => y_loadB1 (hC.ownAt 2 rfl) rfl Tryz.isAgg3 rfl) fun a hs => ?_
     refine gm hs 25 rfl rfl rfl hC fun a hs => ?_
     refine gm hs 26 rfl rfl rfl hC fun a hs => ?_
     refine gv hs 27 rfl rfl hC (fun w hC => y_indexAt Tryz.runUnderlying47 Tryz.sizeOf28 rfl rfl h525.1 h525.2 h526) fun a hs => ?_
     refine gv hs 28 rfl rfl hC (fun w hC => y_fieldAddr (o' := q528 + 2) Tryz.runUnderlying28 rfl Tryz.sizeOf3 rfl rfl rfl) fun a hs => ?_
     refine gv hs 29 rfl rfl hC (fun w hC => y_loadQ1 (j := 2) (hC.ownAt 3 rfl) rfl Tryz.isAgg3 h530 rfl) fun a hs => ?_
     refine gv hs 30 rfl rfl hC (fun w hC => y_fieldAddr (o' := 5) Tryz.runUnderlying36 rfl Tryz.sizeOf22 rfl rfl rfl) fun a hs => ?_
     refine gv hs 31 rfl rfl hC (fun w hC => y_loadB1 (hC.ownAt 2 rfl) rfl Tryz.isAgg22 rfl) fun a hs => ?_
     refine gm hs 32 rfl rfl rfl hC fun a hs => ?_
     refine gv hs 33 rfl rfl hC (fun w hC => y_indexAt Tryz.runUnderlying22 Tryz.sizeOf3 rfl rfl h534.1 h534.2 h535) fun a hs => ?_
     refine gv hs 34 rfl rfl hC (fun w hC => y_loadE1 (j := 0) (hC.ceAt 0 rfl) rfl Tryz.isAgg3 rfl) fun a hs => ?_
     refine ho 4 rfl ?_
     refine st_callR hs (ref23_time_ok h507 hw.bdom (hw.bE 1 rfl)) (do_call Tryz.call47 rfl) trivial rfl rfl ?_
     intro v557 Sv554 w a h555 h556 hs
     subst h556
     have hw := hw.callB h555
     refine h_nx (hw.cs [0, 1, 2, 3] [0] rfl rfl) fun hC => ?_
     refine ho 9 rfl ?_
     refine st_callR hs (ref23_time_ok h509 hw.bdom (hw.bE 1 rfl)) (do_call Tryz.call47 rfl) trivial rfl rfl ?_
     intro v562 Sv559 w a h560 h561 hs
     subst h561
     have hw := hw.callB h560
     refine h_nx (hw.cs [0, 1, 2, 3] [0] rfl rfl) fun hC => ?_
     refine gv hs 12 rfl rfl hC (fun w hC => y_sub rfl rfl) fun a hs => ?_
     refine gv hs 13 rfl rfl hC (fun w hC => y_max rfl rfl) fun a hs => ?_
     refine ho 20 rfl ?_
     refine st_callR hs (ref23_time_ok h520 hw.bdom (hw.bE 1 rfl)) (do_call Tryz.call47 rfl) trivial rfl rfl ?_
     intro v567 Sv564 w a h565 h566 hs
     subst h566
     have hw := hw.callB h565
     refine h_nx (hw.cs [0, 1, 2, 3] [0] rfl rfl) fun hC => ?_
     refine gv hs 23 rfl rfl hC (fun w hC => y_add rfl rfl) fun a hs => ?_
     refine gv hs 24 rfl rfl hC (fun w hC => y_min rfl rfl) fun a hs => ?_
     refine ho 35 rfl ?_
     refine st_callR hs (ref23_sign_ok h544 hw.bdom) (do_call Tryz.call48 rfl) trivial rfl rfl ?_
     intro v572 Sv569 w a h570 h571 hs
     subst h571
     have hw := hw.callB h570
     refine h_nx (hw.cs [0, 1, 2, 3] [0] rfl rfl) fun hC => ?_
     refine gv hs 36 rfl rfl hC (fun w hC => y_build (vs := [(0, .agg #[.string s2.Network, .string s2.Station, .string s2.Location, .string s2.Channel]), (1, .int .i64 rv508), (2, .int .i64 (max (w64 (rv510 - g3.Error)) 0)), (3, .int .i64 (min (w64 (rv521 + g3.Error)) 18014398509481984)), (4, .int .i64 x524.Peak), (5, .int .i64 rv545)]) Bld66 rfl rfl) fun a hs => ?_
     refine ho 37 rfl ?_
     refine w_litSlice (α := Pick) (vs := [.agg #[.string s2.Network, .string s2.Station, .string s2.Location, .string s2.Channel, .int .i64 rv508, .int .i64 (max (w64 (rv510 - g3.Error)) 0), .int .i64 (min (w64 (rv521 + g3.Error)) 18014398509481984), .int .i64 x524.Peak, .int .i64 rv545]]) (cs := [.string s2.Network, .string s2.Station, .string s2.Location, .string s2.Channel, .int .i64 rv508, .int .i64 (max (w64 (rv510 - g3.Error)) 0), .int .i64 (min (w64 (rv521 + g3.Error)) 18014398509481984), .int .i64 x524.Peak, .int .i64 rv545]) (xs := ([(⟨s2, rv508, (max (w64 (rv510 - g3.Error)) 0), (min (w64 (rv521 + g3.Error)) 18014398509481984), x524.Peak, rv545⟩ : Pick)] : List Pick)) hs hw El29 rfl rfl rfl rfl rfl rfl ⟨⟨_, _, _, _, _, _, _, _, _, rfl, rfl, rfl, rfl, rfl, rfl, rfl, rfl, rfl, rfl⟩, rfl⟩ rfl trivial rfl fun b547 a w hs hw => ?_
     refine h_nx (hw.cs [1, 2, 3, 4] [1] rfl rfl) fun hC => ?_
     refine h_st (C' := Cls [.box b7 [.int .i64 p1.Detector.Short, .int .i64 p1.Detector.Long, .int .i64 p1.Detector.On, .int .i64 p1.Detector.Off, .int .i64 p1.Back, .int .i64 p1.Level, .int .i64 p1.Floor] 26, .box b8 [.string s2.Network, .string s2.Station, .string s2.Location, .string s2.Channel] 41, .box b9 [.int .i64 g3.Start, .int .i64 g3.First, .int .i64 g3.Rate.Num, .int .i64 g3.Rate.Den, .int .i64 g3.Error, .slice (some ⟨b539, o540, none⟩) g3.Samples.length k5] 36, .row (some ⟨b461, 0, none⟩) rv54.1.length k56 c58 28 3, .row (some ⟨b547, 0, none⟩) ([(⟨s2, rv508, (max (w64 (rv510 - g3.Error)) 0), (min (w64 (rv521 + g3.Error)) 18014398509481984), x524.Peak, rv545⟩ : Pick)] : List Pick).length ([(⟨s2, rv508, (max (w64 (rv510 - g3.Error)) 0), (min (w64 (rv521 + g3.Error)) 18014398509481984), x524.Peak, rv545⟩ : Pick)] : List Pick).length [.string s2.Network, .string s2.Station, .string s2.Location, .string s2.Channel, .int .i64 rv508, .int .i64 (max (w64 (rv510 - g3.Error)) 0), .int .i64 (min (w64 (rv521 + g3.Error)) 18014398509481984), .int .i64 x524.Peak, .int .i64 rv545] 66 9] [CeA b539 q537 [.int .i64 x533]]) (fun _ h => by exact h.sub [0, 1, 2, 3] (Sel.of rfl) (AllIn.of [0] rfl)) (hw.cs [1, 2, 3, 4, 0] [1] rfl rfl) fun hC => ?_
     refine ho 38 rfl ?_
     refine w_appendR (α := Pick) hs hw El29 5 rfl rfl rfl 4 rfl 0 rfl 0 rfl h548 rfl trivial ?_
     intro p550 k551 c552 a w hs hw
     refine h_nx (hw.cs [1, 2, 3, 4, 0] [2] rfl rfl) fun hC => ?_
     refine gv hs 39 rfl rfl hC (fun w hC => y_assign rfl) fun a hs => ?_
     refine h_done (by kernel_rfl) ?_
     exact ⟨Sv501, c552, k551, p550, (hs.wk rfl), (hw.ft [1, 2, 3, 4, 5] [3, 4, 0] (by decide) rfl rfl)⟩
    rintro a w ⟨Sv553, c552, k551, p550, hs, hw⟩
    refine blk_normal ?_
    refine then_normal ?_
    exact ⟨l549, c552, p550, k551, Sv553, hsh, (hs.wk rfl), (hw.ft [0, 1, 2, 3, 4] [0, 1, 2] (by decide) rfl rfl)⟩
   rintro a w ⟨out449, c445, p446, k447, Sv448, hsh, hs, hw⟩
   delta ref23_Segment_j1 at hsh
   refine then_normal ?_
   refine wp_region_lit ?_
   refine mv hs rfl rfl fun a hs => ?_
   refine sv hs (y_add rfl rfl) rfl fun a hs => ?_
   obtain ⟨i451, h450, hsh⟩ := bind_t hsh
   refine sv hs (y_assignI rfl h450) rfl fun a hs => ?_
   refine nl ?_
   exact ⟨_, (Option.some.inj hsh).symm, c445, p446, k447, Sv448, (hs.wk rfl), (hw.ft [0, 1, 2, 3, 4] [0, 1, 2] (by decide) rfl rfl)⟩
  have hsh := ite_f hsh h360
  refine wp_exit ?_
  refine then_exit ?_
  refine then_exit ?_
  refine blk_exit ?_
  have hsh := oi hsh
  subst hsh
  have h574 := hd351 _ rfl
  subst h574
  refine then_normal ?_
  exact ⟨c255, p256, k257, Sv258, (hs.wk rfl), (hw.ft [4] [2] (by decide) rfl rfl)⟩
 rintro a w ⟨c355, p356, k357, Sv358, hs, hw⟩
 refine then_normal ?_
 refine sr ?_
 refine mv hs rfl rfl fun a hs => ?_
 refine av hs rfl rfl fun a hs => ?_
 refine av hs rfl rfl fun a hs => ?_
 refine nl ?_
 have hsh := oi hsh
 subst hsh
 refine wp_ret ?_
 exact ret2 hs rfl (rv_tmp rfl) (rv_tmp rfl) (hw.ret ⟨p356, k357, c355, rfl, (hw.outs [0] (by decide) rfl), (hw.envAt 0 rfl)⟩)
abbrev ref03_compare_rd (w0 : World) (X : List Nat) (r : Int) : (Nat → Prop) → World → Value → Prop := fun S w v => v = .int .i64 r
set_option maxHeartbeats 4000000 in
set_option maxRecDepth 100000 in
theorem ref03_compare_ok {w0 : World} {S0 : Nat → Prop} {a1 : ByteArray} {b2 : ByteArray} {r : Int} (hsh : ref03_compare a1 b2 = some r) (hS : ∀ b, S0 b → b < w0.heap.size) : Calls Tryz.prog 81 #[.string a1, .string b2] w0 (Ret ([]) w0 S0 (ref03_compare_rd w0 ([]) r)) := by
 refine calls_of_wp Tryz.func81 rfl ?_
 have hs := Sl.enter #[.string a1, .string b2] 13 [(0, .string a1), (1, .string b2)] rfl ⟨rfl, rfl, trivial⟩
 have hw := Wd.enter (E := []) hS (fun _ h => (by cases h))
 delta ref03_compare at hsh
 refine sr ?_
 refine av hs rfl rfl fun a hs => ?_
 refine nl ?_
 refine wp_seq ?_
 refine wp_block ?_
 refine sr ?_
 refine mv hs rfl rfl fun a hs => ?_
 refine mv hs rfl rfl fun a hs => ?_
 refine sv hs (y_lssS rfl rfl) rfl fun a hs => ?_
 refine av hs rfl rfl fun a hs => ?_
 refine nl ?_
 refine wp_cond_split (hs.ev rfl) (fun h7 => ?_) (fun h7 => ?_)
 ·have hsh := ite_t hsh h7
  refine sr ?_
  refine av hs rfl rfl fun a hs => ?_
  refine nl ?_
  have hsh := oi hsh
  subst hsh
  refine wp_ret ?_
  refine blk_ret ?_
  refine then_ret ?_
  exact ret1 hs rfl (rv_tmp rfl) (hw.ret rfl)
 have hsh := ite_f hsh h7
 refine sr ?_
 refine mv hs rfl rfl fun a hs => ?_
 refine mv hs rfl rfl fun a hs => ?_
 refine sv hs (y_gtrS rfl rfl) rfl fun a hs => ?_
 refine av hs rfl rfl fun a hs => ?_
 refine nl ?_
 refine wp_cond_split (hs.ev rfl) (fun h9 => ?_) (fun h9 => ?_)
 ·have hsh := ite_t hsh h9
  refine sr ?_
  refine av hs rfl rfl fun a hs => ?_
  refine nl ?_
  have hsh := oi hsh
  subst hsh
  refine wp_ret ?_
  refine blk_ret ?_
  refine then_ret ?_
  exact ret1 hs rfl (rv_tmp rfl) (hw.ret rfl)
 have hsh := ite_f hsh h9
 refine wp_skip ?_
 refine blk_normal ?_
 refine then_normal ?_
 refine sr ?_
 refine av hs rfl rfl fun a hs => ?_
 refine nl ?_
 have hsh := oi hsh
 subst hsh
 refine wp_ret ?_
 exact ret1 hs rfl (rv_tmp rfl) (hw.ret rfl)
abbrev ref03_Compare_rd (w0 : World) (X : List Nat) (r : Int) : (Nat → Prop) → World → Value → Prop := fun S w v => v = .int .i64 r
set_option maxHeartbeats 4000000 in
set_option maxRecDepth 100000 in
theorem ref03_Compare_ok {w0 : World} {S0 : Nat → Prop} {a1 : SourceID} {b2 : SourceID} {r : Int} (hsh : ref03_Compare a1 b2 = some r) (hS : ∀ b, S0 b → b < w0.heap.size) : Calls Tryz.prog 56 #[.agg #[.string a1.Network, .string a1.Station, .string a1.Location, .string a1.Channel], .agg #[.string b2.Network, .string b2.Station, .string b2.Location, .string b2.Channel]] w0 (Ret ([]) w0 S0 (ref03_Compare_rd w0 ([]) r)) := by
 refine calls_of_wp Tryz.func56 rfl ?_
 have hs := Sl.enter #[.agg #[.string a1.Network, .string a1.Station, .string a1.Location, .string a1.Channel], .agg #[.string b2.Network, .string b2.Station, .string b2.Location, .string b2.Channel]] 35 [(0, .agg #[.string a1.Network, .string a1.Station, .string a1.Location, .string a1.Channel]), (1, .agg #[.string b2.Network, .string b2.Station, .string b2.Location, .string b2.Channel])] rfl ⟨rfl, rfl, trivial⟩
 have hw := Wd.enter (E := []) hS (fun _ h => (by cases h))
 delta ref03_Compare at hsh
 refine sr ?_
 refine w_box (cs := [.string a1.Network, .string a1.Station, .string a1.Location, .string a1.Channel]) hs hw rfl rfl rfl trivial ?_
 intro b3 a w hs hw
 refine w_box (cs := [.string b2.Network, .string b2.Station, .string b2.Location, .string b2.Channel]) hs hw rfl rfl rfl trivial ?_
 intro b4 a w hs hw
 refine av hs rfl rfl fun a hs => ?_
 refine nl ?_
 refine wp_seq ?_
 refine wp_seq ?_
 obtain ⟨rv6, h5, hsh⟩ := bind_t hsh
 obtain ⟨rv8, h7, hsh⟩ := bind_t hsh
 obtain ⟨rv10, h9, hsh⟩ := bind_t hsh
 obtain ⟨rv12, h11, hsh⟩ := bind_t hsh
 refine wp_only (fun a w => ∃ (Sv13 : Nat → Prop), Sl 35 [(27, .agg #[.int .i64 rv6, .int .i64 rv8, .int .i64 rv10, .int .i64 rv12]), (28, .int .i64 0)] a ∧ Wd ⟨w0, S0, []⟩ Sv13 [] [] w) ?_ ?_
 ·refine h_b (C := Cls [.box b4 [.string b2.Network, .string b2.Station, .string b2.Location, .string b2.Channel] 41, .box b3 [.string a1.Network, .string a1.Station, .string a1.Location, .string a1.Channel] 41] []) (by kernel_rfl) rfl (hw.drew.cs [0, 1] [] rfl rfl) fun hC => ?_
  have hw := hw.drew
  refine gv hs 0 rfl rfl hC (fun w hC => y_fieldAddr (o' := 0) Tryz.runUnderlying41 rfl Tryz.sizeOf9 rfl rfl rfl) fun a hs => ?_
  refine gv hs 1 rfl rfl hC (fun w hC => y_loadB1 (hC.ownAt 1 rfl) rfl Tryz.isAgg9 rfl) fun a hs => ?_
  refine gv hs 2 rfl rfl hC (fun w hC => y_fieldAddr (o' := 0) Tryz.runUnderlying41 rfl Tryz.sizeOf9 rfl rfl rfl) fun a hs => ?_
  refine gv hs 3 rfl rfl hC (fun w hC => y_loadB1 (hC.ownAt 0 rfl) rfl Tryz.isAgg9 rfl) fun a hs => ?_
  refine gv hs 5 rfl rfl hC (fun w hC => y_fieldAddr (o' := 1) Tryz.runUnderlying41 rfl Tryz.sizeOf9 rfl rfl rfl) fun a hs => ?_
  refine gv hs 6 rfl rfl hC (fun w hC => y_loadB1 (hC.ownAt 1 rfl) rfl Tryz.isAgg9 rfl) fun a hs => ?_
  refine gv hs 7 rfl rfl hC (fun w hC => y_fieldAddr (o' := 1) Tryz.runUnderlying41 rfl Tryz.sizeOf9 rfl rfl rfl) fun a hs => ?_
  refine gv hs 8 rfl rfl hC (fun w hC => y_loadB1 (hC.ownAt 0 rfl) rfl Tryz.isAgg9 rfl) fun a hs => ?_
  refine gv hs 10 rfl rfl hC (fun w hC => y_fieldAddr (o' := 2) Tryz.runUnderlying41 rfl Tryz.sizeOf9 rfl rfl rfl) fun a hs => ?_
  refine gv hs 11 rfl rfl hC (fun w hC => y_loadB1 (hC.ownAt 1 rfl) rfl Tryz.isAgg9 rfl) fun a hs => ?_
  refine gv hs 12 rfl rfl hC (fun w hC => y_fieldAddr (o' := 2) Tryz.runUnderlying41 rfl Tryz.sizeOf9 rfl rfl rfl) fun a hs => ?_
  refine gv hs 13 rfl rfl hC (fun w hC => y_loadB1 (hC.ownAt 0 rfl) rfl Tryz.isAgg9 rfl) fun a hs => ?_
  refine gv hs 15 rfl rfl hC (fun w hC => y_fieldAddr (o' := 3) Tryz.runUnderlying41 rfl Tryz.sizeOf9 rfl rfl rfl) fun a hs => ?_
  refine gv hs 16 rfl rfl hC (fun w hC => y_loadB1 (hC.ownAt 1 rfl) rfl Tryz.isAgg9 rfl) fun a hs => ?_
  refine gv hs 17 rfl rfl hC (fun w hC => y_fieldAddr (o' := 3) Tryz.runUnderlying41 rfl Tryz.sizeOf9 rfl rfl rfl) fun a hs => ?_
  refine gv hs 18 rfl rfl hC (fun w hC => y_loadB1 (hC.ownAt 0 rfl) rfl Tryz.isAgg9 rfl) fun a hs => ?_
  refine gm hs 21 rfl rfl rfl hC fun a hs => ?_
  refine ho 4 rfl ?_
  refine st_callR hs (ref03_compare_ok h5 hw.bdom) (do_call Tryz.call81 rfl) trivial rfl rfl ?_
  intro v17 Sv14 w a h15 h16 hs
  subst h16
  have hw := hw.callB h15
  refine h_nx (hw.cs [0, 1] [] rfl rfl) fun hC => ?_
  refine ho 9 rfl ?_
  refine st_callR hs (ref03_compare_ok h7 hw.bdom) (do_call Tryz.call81 rfl) trivial rfl rfl ?_
  intro v22 Sv19 w a h20 h21 hs
  subst h21
  have hw := hw.callB h20
  refine h_nx (hw.cs [0, 1] [] rfl rfl) fun hC => ?_
  refine ho 14 rfl ?_
  refine st_callR hs (ref03_compare_ok h9 hw.bdom) (do_call Tryz.call81 rfl) trivial rfl rfl ?_
  intro v27 Sv24 w a h25 h26 hs
  subst h26
  have hw := hw.callB h25
  refine h_nx (hw.cs [0, 1] [] rfl rfl) fun hC => ?_
  refine ho 19 rfl ?_
  refine st_callR hs (ref03_compare_ok h11 hw.bdom) (do_call Tryz.call81 rfl) trivial rfl rfl ?_
  intro v32 Sv29 w a h30 h31 hs
  subst h31
  have hw := hw.callB h30
  refine h_nx (hw.cs [0, 1] [] rfl rfl) fun hC => ?_
  refine gv hs 20 rfl rfl hC (fun w hC => y_build (vs := [(0, .int .i64 rv6), (1, .int .i64 rv8), (2, .int .i64 rv10), (3, .int .i64 rv12)]) Bld118 rfl rfl) fun a hs => ?_
  refine h_done (by kernel_rfl) ?_
  exact ⟨S0, (hs.wk rfl), (hw.ft [] [] (by decide) rfl rfl)⟩
 rintro a w ⟨Sv13, hs, hw⟩
 refine then_normal ?_
 refine wp_block ?_
 refine wp_while (fun sv51 a w => ∃ (Sv61 : Nat → Prop), Sl 35 [(27, .agg #[.int .i64 rv6, .int .i64 rv8, .int .i64 rv10, .int .i64 rv12]), (28, .int .i64 sv51)] a ∧ Wd ⟨w0, S0, []⟩ Sv61 [] [] w) 0 hsh ⟨Sv13, (hs.wk rfl), (hw.ft [] [] (by decide) rfl rfl)⟩ ?_
 repeat clear hsh
 rintro sv51 a w tv67 ⟨Sv61, hs, hw⟩ hsh hd66
 delta ref03_Compare_l2 at hsh
 refine sr ?_
 refine sv hs (y_lss rfl rfl) rfl fun a hs => ?_
 refine nl ?_
 refine wp_seq ?_
 refine wp_cond_split (hs.ev rfl) (fun h71 => ?_) (fun h71 => ?_)
 ·have hsh := ite_t hsh h71
  refine wp_skip ?_
  refine then_normal ?_
  refine wp_seq ?_
  refine wp_block ?_
  refine sr ?_
  obtain ⟨x76, h75, hsh⟩ := bind_t hsh
  refine sv hs (y_idxA (α := Int) (xs := [rv6, rv8, rv10, rv12]) (cs := [.int .i64 rv6, .int .i64 rv8, .int .i64 rv10, .int .i64 rv12]) (es := [.int .i64 x76]) (v := .int .i64 x76) Tryz.runUnderlying118 Tryz.sizeOf3 (.inl ⟨Tryz.isAgg3, rfl⟩) rfl rfl rfl (fun _ _ => ⟨⟨_, rfl, rfl⟩, ⟨⟨_, rfl, rfl⟩, ⟨⟨_, rfl, rfl⟩, ⟨⟨_, rfl, rfl⟩, rfl⟩⟩⟩⟩) h75 (fun _ _ _ he => by obtain ⟨_, rfl, rfl⟩ := he; rfl)) rfl fun a hs => ?_
  refine av hs rfl rfl fun a hs => ?_
  refine nl ?_
  refine sr ?_
  refine mv hs rfl rfl fun a hs => ?_
  refine sv hs (y_neq rfl rfl) rfl fun a hs => ?_
  refine nl ?_
  refine wp_cond_split (hs.ev rfl) (fun h78 => ?_) (fun h78 => ?_)
  ·have hsh := ite_t hsh h78
   refine sr ?_
   refine mv hs rfl rfl fun a hs => ?_
   refine av hs rfl rfl fun a hs => ?_
   refine nl ?_
   have hsh := oi hsh
   subst hsh
   have h79 := hd66 _ rfl
   subst h79
   refine wp_ret ?_
   refine blk_ret ?_
   refine then_ret ?_
   refine then_ret ?_
   refine blk_ret ?_
   refine then_ret ?_
   exact ret1 hs rfl (rv_tmp rfl) (hw.ret rfl)
  have hsh := ite_f hsh h78
  refine wp_skip ?_
  refine blk_normal ?_
  refine then_normal ?_
  refine wp_region_lit ?_
  refine sv hs (y_add rfl rfl) rfl fun a hs => ?_
  refine mv hs rfl rfl fun a hs => ?_
  refine nl ?_
  exact ⟨_, (Option.some.inj hsh).symm, Sv61, (hs.wk rfl), (hw.ft [] [] (by decide) rfl rfl)⟩
 have hsh := ite_f hsh h71
 obtain ⟨rv80, hsh, h81⟩ := map_t hsh
 have h81 := (hd66 _ h81.symm).symm
 subst h81
 refine wp_exit ?_
 refine then_exit ?_
 refine then_exit ?_
 refine blk_exit ?_
 refine then_normal ?_
 refine sr ?_
 refine av hs rfl rfl fun a hs => ?_
 refine nl ?_
 have hsh := oi hsh
 subst hsh
 refine wp_ret ?_
 exact ret1 hs rfl (rv_tmp rfl) (hw.ret rfl)
abbrev ref23_Compare_rd (w0 : World) (X : List Nat) (r : Int) : (Nat → Prop) → World → Value → Prop := fun S w v => v = .int .i64 r
set_option maxHeartbeats 4000000 in
set_option maxRecDepth 100000 in
theorem ref23_Compare_ok {w0 : World} {S0 : Nat → Prop} {a1 : Pick} {b2 : Pick} {r : Int} (hsh : ref23_Compare a1 b2 = some r) (hS : ∀ b, S0 b → b < w0.heap.size) : Calls Tryz.prog 28 #[.agg #[.string a1.Source.Network, .string a1.Source.Station, .string a1.Source.Location, .string a1.Source.Channel, .int .i64 a1.Time, .int .i64 a1.Early, .int .i64 a1.Late, .int .i64 a1.Amplitude, .int .i64 a1.Polarity], .agg #[.string b2.Source.Network, .string b2.Source.Station, .string b2.Source.Location, .string b2.Source.Channel, .int .i64 b2.Time, .int .i64 b2.Early, .int .i64 b2.Late, .int .i64 b2.Amplitude, .int .i64 b2.Polarity]] w0 (Ret ([]) w0 S0 (ref23_Compare_rd w0 ([]) r)) := by
 refine calls_of_wp Tryz.func28 rfl ?_
 have hs := Sl.enter #[.agg #[.string a1.Source.Network, .string a1.Source.Station, .string a1.Source.Location, .string a1.Source.Channel, .int .i64 a1.Time, .int .i64 a1.Early, .int .i64 a1.Late, .int .i64 a1.Amplitude, .int .i64 a1.Polarity], .agg #[.string b2.Source.Network, .string b2.Source.Station, .string b2.Source.Location, .string b2.Source.Channel, .int .i64 b2.Time, .int .i64 b2.Early, .int .i64 b2.Late, .int .i64 b2.Amplitude, .int .i64 b2.Polarity]] 56 [(0, .agg #[.string a1.Source.Network, .string a1.Source.Station, .string a1.Source.Location, .string a1.Source.Channel, .int .i64 a1.Time, .int .i64 a1.Early, .int .i64 a1.Late, .int .i64 a1.Amplitude, .int .i64 a1.Polarity]), (1, .agg #[.string b2.Source.Network, .string b2.Source.Station, .string b2.Source.Location, .string b2.Source.Channel, .int .i64 b2.Time, .int .i64 b2.Early, .int .i64 b2.Late, .int .i64 b2.Amplitude, .int .i64 b2.Polarity])] rfl ⟨rfl, rfl, trivial⟩
 have hw := Wd.enter (E := []) hS (fun _ h => (by cases h))
 delta ref23_Compare at hsh
 refine sr ?_
 refine w_box (cs := [.string a1.Source.Network, .string a1.Source.Station, .string a1.Source.Location, .string a1.Source.Channel, .int .i64 a1.Time, .int .i64 a1.Early, .int .i64 a1.Late, .int .i64 a1.Amplitude, .int .i64 a1.Polarity]) hs hw rfl rfl rfl trivial ?_
 intro b3 a w hs hw
 refine w_box (cs := [.string b2.Source.Network, .string b2.Source.Station, .string b2.Source.Location, .string b2.Source.Channel, .int .i64 b2.Time, .int .i64 b2.Early, .int .i64 b2.Late, .int .i64 b2.Amplitude, .int .i64 b2.Polarity]) hs hw rfl rfl rfl trivial ?_
 intro b4 a w hs hw
 refine av hs rfl rfl fun a hs => ?_
 refine nl ?_
 refine wp_seq ?_
 refine sr ?_
 refine sv hs (y_fieldAddr (o' := 0) Tryz.runUnderlying66 rfl Tryz.sizeOf41 rfl rfl rfl) rfl fun a hs => ?_
 refine sv hs (y_loadBA (hw.ownAt 1 rfl) rfl Tryz.isAgg41 Tryz.sizeOf41 rfl rfl) rfl fun a hs => ?_
 refine sv hs (y_fieldAddr (o' := 0) Tryz.runUnderlying66 rfl Tryz.sizeOf41 rfl rfl rfl) rfl fun a hs => ?_
 refine sv hs (y_loadBA (hw.ownAt 0 rfl) rfl Tryz.isAgg41 Tryz.sizeOf41 rfl rfl) rfl fun a hs => ?_
 obtain ⟨rv6, h5, hsh⟩ := bind_t hsh
 refine st_callR hs (ref03_Compare_ok h5 hw.bdom) (do_call Tryz.call56 rfl) trivial rfl rfl ?_
 intro v10 Sv7 w a h8 h9 hs
 subst h9
 have hw := hw.callB h8
 refine av hs rfl rfl fun a hs => ?_
 refine nl ?_
 refine sr ?_
 refine mv hs rfl rfl fun a hs => ?_
 refine sv hs (y_neq rfl rfl) rfl fun a hs => ?_
 refine nl ?_
 refine wp_cond_split (hs.ev rfl) (fun h13 => ?_) (fun h13 => ?_)
 ·have hsh := ite_t hsh h13
  refine sr ?_
  refine mv hs rfl rfl fun a hs => ?_
  refine av hs rfl rfl fun a hs => ?_
  refine nl ?_
  have hsh := oi hsh
  subst hsh
  refine wp_ret ?_
  refine then_ret ?_
  exact ret1 hs rfl (rv_tmp rfl) (hw.ret rfl)
 have hsh := ite_f hsh h13
 refine wp_skip ?_
 refine then_normal ?_
 refine wp_seq ?_
 refine sr ?_
 refine sv hs (y_fieldAddr (o' := 4) Tryz.runUnderlying66 rfl Tryz.sizeOf3 rfl rfl rfl) rfl fun a hs => ?_
 refine sv hs (y_loadB1 (hw.ownAt 1 rfl) rfl Tryz.isAgg3 rfl) rfl fun a hs => ?_
 refine sv hs (y_fieldAddr (o' := 4) Tryz.runUnderlying66 rfl Tryz.sizeOf3 rfl rfl rfl) rfl fun a hs => ?_
 refine sv hs (y_loadB1 (hw.ownAt 0 rfl) rfl Tryz.isAgg3 rfl) rfl fun a hs => ?_
 refine sv hs (y_build (vs := [(0, .int .i64 a1.Time), (1, .int .i64 b2.Time)]) Bld90 rfl rfl) rfl fun a hs => ?_
 refine sv hs (y_fieldAddr (o' := 5) Tryz.runUnderlying66 rfl Tryz.sizeOf3 rfl rfl rfl) rfl fun a hs => ?_
 refine sv hs (y_loadB1 (hw.ownAt 1 rfl) rfl Tryz.isAgg3 rfl) rfl fun a hs => ?_
 refine sv hs (y_fieldAddr (o' := 5) Tryz.runUnderlying66 rfl Tryz.sizeOf3 rfl rfl rfl) rfl fun a hs => ?_
 refine sv hs (y_loadB1 (hw.ownAt 0 rfl) rfl Tryz.isAgg3 rfl) rfl fun a hs => ?_
 refine sv hs (y_build (vs := [(0, .int .i64 a1.Early), (1, .int .i64 b2.Early)]) Bld90 rfl rfl) rfl fun a hs => ?_
 refine sv hs (y_fieldAddr (o' := 6) Tryz.runUnderlying66 rfl Tryz.sizeOf3 rfl rfl rfl) rfl fun a hs => ?_
 refine sv hs (y_loadB1 (hw.ownAt 1 rfl) rfl Tryz.isAgg3 rfl) rfl fun a hs => ?_
 refine sv hs (y_fieldAddr (o' := 6) Tryz.runUnderlying66 rfl Tryz.sizeOf3 rfl rfl rfl) rfl fun a hs => ?_
 refine sv hs (y_loadB1 (hw.ownAt 0 rfl) rfl Tryz.isAgg3 rfl) rfl fun a hs => ?_
 refine sv hs (y_build (vs := [(0, .int .i64 a1.Late), (1, .int .i64 b2.Late)]) Bld90 rfl rfl) rfl fun a hs => ?_
 refine sv hs (y_fieldAddr (o' := 7) Tryz.runUnderlying66 rfl Tryz.sizeOf3 rfl rfl rfl) rfl fun a hs => ?_
 refine sv hs (y_loadB1 (hw.ownAt 1 rfl) rfl Tryz.isAgg3 rfl) rfl fun a hs => ?_
 refine sv hs (y_fieldAddr (o' := 7) Tryz.runUnderlying66 rfl Tryz.sizeOf3 rfl rfl rfl) rfl fun a hs => ?_
 refine sv hs (y_loadB1 (hw.ownAt 0 rfl) rfl Tryz.isAgg3 rfl) rfl fun a hs => ?_
 refine sv hs (y_build (vs := [(0, .int .i64 a1.Amplitude), (1, .int .i64 b2.Amplitude)]) Bld90 rfl rfl) rfl fun a hs => ?_
 refine sv hs (y_fieldAddr (o' := 8) Tryz.runUnderlying66 rfl Tryz.sizeOf3 rfl rfl rfl) rfl fun a hs => ?_
 refine sv hs (y_loadB1 (hw.ownAt 1 rfl) rfl Tryz.isAgg3 rfl) rfl fun a hs => ?_
 refine sv hs (y_fieldAddr (o' := 8) Tryz.runUnderlying66 rfl Tryz.sizeOf3 rfl rfl rfl) rfl fun a hs => ?_
 refine sv hs (y_loadB1 (hw.ownAt 0 rfl) rfl Tryz.isAgg3 rfl) rfl fun a hs => ?_
 refine sv hs (y_build (vs := [(0, .int .i64 a1.Polarity), (1, .int .i64 b2.Polarity)]) Bld90 rfl rfl) rfl fun a hs => ?_
 refine sv hs (y_build (cells := [.int .i64 a1.Time, .int .i64 b2.Time, .int .i64 a1.Early, .int .i64 b2.Early, .int .i64 a1.Late, .int .i64 b2.Late, .int .i64 a1.Amplitude, .int .i64 b2.Amplitude, .int .i64 a1.Polarity, .int .i64 b2.Polarity]) (vs := [(0, .agg #[.int .i64 a1.Time, .int .i64 b2.Time]), (1, .agg #[.int .i64 a1.Early, .int .i64 b2.Early]), (2, .agg #[.int .i64 a1.Late, .int .i64 b2.Late]), (3, .agg #[.int .i64 a1.Amplitude, .int .i64 b2.Amplitude]), (4, .agg #[.int .i64 a1.Polarity, .int .i64 b2.Polarity])]) Bld91 rfl (by kernel_rfl)) rfl fun a hs => ?_
 refine mv hs rfl rfl fun a hs => ?_
 refine nl ?_
 refine wp_block ?_
 refine wp_while (fun sv37 a w => ∃ (Sv51 : Nat → Prop), Sl 56 [(41, .agg #[.int .i64 a1.Time, .int .i64 b2.Time, .int .i64 a1.Early, .int .i64 b2.Early, .int .i64 a1.Late, .int .i64 b2.Late, .int .i64 a1.Amplitude, .int .i64 b2.Amplitude, .int .i64 a1.Polarity, .int .i64 b2.Polarity]), (42, .int .i64 sv37)] a ∧ Wd ⟨w0, S0, []⟩ Sv51 [] [] w) 0 hsh ⟨S0, (hs.wk rfl), (hw.ft [] [] (by decide) rfl rfl)⟩ ?_
 repeat clear hsh
 rintro sv37 a w tv59 ⟨Sv51, hs, hw⟩ hsh hd58
 delta ref23_Compare_l2 at hsh
 refine sr ?_
 refine sv hs (y_lss rfl rfl) rfl fun a hs => ?_
 refine nl ?_
 refine wp_seq ?_
 refine wp_cond_split (hs.ev rfl) (fun h63 => ?_) (fun h63 => ?_)
 ·have hsh := ite_t hsh h63
  refine wp_skip ?_
  refine then_normal ?_
  refine wp_seq ?_
  refine wp_block ?_
  refine sr ?_
  obtain ⟨x70, h69, hsh⟩ := bind_t hsh
  refine sv hs (y_idxA (α := (Arr2 Int)) (xs := [(⟨a1.Time, b2.Time⟩ : (Arr2 Int)), (⟨a1.Early, b2.Early⟩ : (Arr2 Int)), (⟨a1.Late, b2.Late⟩ : (Arr2 Int)), (⟨a1.Amplitude, b2.Amplitude⟩ : (Arr2 Int)), (⟨a1.Polarity, b2.Polarity⟩ : (Arr2 Int))]) (cs := [.int .i64 a1.Time, .int .i64 b2.Time, .int .i64 a1.Early, .int .i64 b2.Early, .int .i64 a1.Late, .int .i64 b2.Late, .int .i64 a1.Amplitude, .int .i64 b2.Amplitude, .int .i64 a1.Polarity, .int .i64 b2.Polarity]) (es := [.int .i64 x70.e0, .int .i64 x70.e1]) (v := .agg #[.int .i64 x70.e0, .int .i64 x70.e1]) Tryz.runUnderlying91 Tryz.sizeOf90 (.inr ⟨Tryz.isAgg90, rfl⟩) rfl rfl rfl (fun _ _ => ⟨⟨_, _, rfl, rfl, rfl⟩, ⟨⟨_, _, rfl, rfl, rfl⟩, ⟨⟨_, _, rfl, rfl, rfl⟩, ⟨⟨_, _, rfl, rfl, rfl⟩, ⟨⟨_, _, rfl, rfl, rfl⟩, rfl⟩⟩⟩⟩⟩) h69 (fun _ _ _ he => by obtain ⟨_, _, rfl, rfl, rfl⟩ := he; rfl)) rfl fun a hs => ?_
  refine w_alloc (cs := [.int .i64 0, .int .i64 0]) hs hw Tryz.zeroValue90 rfl rfl trivial ?_
  intro b71 a w hs hw
  refine w_store (m := 2) (cs' := [.int .i64 x70.e0, .int .i64 x70.e1]) hs hw 0 rfl rfl rfl Tryz.sizeOf90 rfl rfl rfl rfl trivial ?_
  intro a w hs hw
  refine nl ?_
  refine wp_seq ?_
  refine sr ?_
  refine sv hs (y_indexAtA (q := 0) Tryz.runUnderlying90 Tryz.sizeOf3 rfl rfl (by decide) (by decide) rfl) rfl fun a hs => ?_
  refine sv hs (y_loadB1 (hw.ownAt 0 rfl) rfl Tryz.isAgg3 rfl) rfl fun a hs => ?_
  refine sv hs (y_indexAtA (q := 1) Tryz.runUnderlying90 Tryz.sizeOf3 rfl rfl (by decide) (by decide) rfl) rfl fun a hs => ?_
  refine sv hs (y_loadB1 (hw.ownAt 0 rfl) rfl Tryz.isAgg3 rfl) rfl fun a hs => ?_
  refine sv hs (y_lss rfl rfl) rfl fun a hs => ?_
  refine nl ?_
  refine wp_cond_split (hs.ev rfl) (fun h73 => ?_) (fun h73 => ?_)
  ·have hsh := ite_t hsh h73
   refine sr ?_
   refine av hs rfl rfl fun a hs => ?_
   refine nl ?_
   have hsh := oi hsh
   subst hsh
   have h74 := hd58 _ rfl
   subst h74
   refine wp_ret ?_
   refine then_ret ?_
   refine blk_ret ?_
   refine then_ret ?_
   refine then_ret ?_
   refine blk_ret ?_
   refine then_ret ?_
   exact ret1 hs rfl (rv_tmp rfl) (hw.ret rfl)
  have hsh := ite_f hsh h73
  refine wp_skip ?_
  refine then_normal ?_
  refine sr ?_
  refine sv hs (y_indexAtA (q := 0) Tryz.runUnderlying90 Tryz.sizeOf3 rfl rfl (by decide) (by decide) rfl) rfl fun a hs => ?_
  refine sv hs (y_loadB1 (hw.ownAt 0 rfl) rfl Tryz.isAgg3 rfl) rfl fun a hs => ?_
  refine sv hs (y_indexAtA (q := 1) Tryz.runUnderlying90 Tryz.sizeOf3 rfl rfl (by decide) (by decide) rfl) rfl fun a hs => ?_
  refine sv hs (y_loadB1 (hw.ownAt 0 rfl) rfl Tryz.isAgg3 rfl) rfl fun a hs => ?_
  refine sv hs (y_gtr rfl rfl) rfl fun a hs => ?_
  refine nl ?_
  refine wp_cond_split (hs.ev rfl) (fun h76 => ?_) (fun h76 => ?_)
  ·have hsh := ite_t hsh h76
   refine sr ?_
   refine av hs rfl rfl fun a hs => ?_
   refine nl ?_
   have hsh := oi hsh
   subst hsh
   have h77 := hd58 _ rfl
   subst h77
   refine wp_ret ?_
   refine blk_ret ?_
   refine then_ret ?_
   refine then_ret ?_
   refine blk_ret ?_
   refine then_ret ?_
   exact ret1 hs rfl (rv_tmp rfl) (hw.ret rfl)
  have hsh := ite_f hsh h76
  refine wp_skip ?_
  refine blk_normal ?_
  refine then_normal ?_
  refine wp_region_lit ?_
  refine sv hs (y_add rfl rfl) rfl fun a hs => ?_
  refine mv hs rfl rfl fun a hs => ?_
  refine nl ?_
  exact ⟨_, (Option.some.inj hsh).symm, Sv51, (hs.wk rfl), (hw.ft [] [] (by decide) rfl rfl)⟩
 have hsh := ite_f hsh h63
 obtain ⟨rv78, hsh, h79⟩ := map_t hsh
 have h79 := (hd58 _ h79.symm).symm
 subst h79
 refine wp_exit ?_
 refine then_exit ?_
 refine then_exit ?_
 refine blk_exit ?_
 refine then_normal ?_
 refine sr ?_
 refine av hs rfl rfl fun a hs => ?_
 refine nl ?_
 have hsh := oi hsh
 subst hsh
 refine wp_ret ?_
 exact ret1 hs rfl (rv_tmp rfl) (hw.ret rfl)
abbrev ref23_Sort_rd (w0 : World) (X : List Nat) (r : (List Pick)) : (Nat → Prop) → World → Value → Prop := fun S w v => ∃ (p0_0 : Option Addr) (k0_0 : Nat) (c0_0 : List Value), v = .slice p0_0 r.length k0_0 ∧ Outs X w0 S w [.row p0_0 r.length k0_0 c0_0 66 9] ∧ (RowA c0_0 r).p S w
set_option maxHeartbeats 4000000 in
set_option maxRecDepth 100000 in
theorem ref23_Sort_ok {w0 : World} {S0 : Nat → Prop} {p2 : Option Addr} {k3 : Nat} {l1 : (List Pick)} {r : (List Pick)} (hsh : ref23_Sort l1 = some r) (hS : ∀ b, S0 b → b < w0.heap.size) (h4 : (SlA p2 l1.length k3 l1).p S0 w0) : Calls Tryz.prog 24 #[.slice p2 l1.length k3] w0 (Ret ([]) w0 S0 (ref23_Sort_rd w0 ([]) r)) := by
 refine calls_of_wp Tryz.func24 rfl ?_
 have hs := Sl.enter #[.slice p2 l1.length k3] 68 [(0, .slice p2 l1.length k3)] rfl ⟨rfl, trivial⟩
 have hw := Wd.enter (E := []) hS (fun _ h => (by cases h))
 have hw := hw.addE h4
 delta ref23_Sort at hsh
 refine sr ?_
 refine av hs rfl rfl fun a hs => ?_
 refine nl ?_
 refine sr ?_
 refine av hs rfl rfl fun a hs => ?_
 refine nl ?_
 refine wp_seq ?_
 refine sr ?_
 refine av hs rfl rfl fun a hs => ?_
 refine nl ?_
 obtain ⟨e635, h1153, hsh⟩ := bind_t hsh
 refine wp_join (fun a w => ∃ (c636 : List Value) (p637 : Option Addr) (k638 : Nat) (Sv639 : Nat → Prop), Sl 68 [(3, .slice p637 e635.length k638)] a ∧ Wd ⟨w0, S0, []⟩ Sv639 [.row p637 e635.length k638 c636 66 9] [RowA c636 e635] w) ?_ ?_
 ·refine wp_block ?_
  have hw := hw.nilRow Pick 66
  refine wp_while (fun sv5 a w => ∃ (c422 : List Value) (p423 : Option Addr) (k424 : Nat) (Sv425 : Nat → Prop), Sl 68 [(0, .slice p2 l1.length k3), (3, .slice p423 sv5.1.length k424), (4, .int .i64 sv5.2)] a ∧ Wd ⟨w0, S0, []⟩ Sv425 [.row p423 sv5.1.length k424 c422 66 9] [SlA p2 l1.length k3 l1, RowA c422 sv5.1] w) (([] : List Pick), 0) h1153 ⟨[], none, 0, S0, (hs.wk rfl), (hw.ft [0] [1, 0] (by decide) rfl rfl)⟩ ?_
  clear h1153
  repeat clear hsh
  rintro sv5 a w tv633 ⟨c422, p423, k424, Sv425, hs, hw⟩ hsh hd632
  delta ref23_Sort_l3 at hsh
  refine wp_seq ?_
  refine sr ?_
  refine mv hs rfl rfl fun a hs => ?_
  refine mv hs rfl rfl fun a hs => ?_
  refine sv hs (y_len Tryz.runUnderlying29 rfl) rfl fun a hs => ?_
  refine sv hs (y_lss rfl rfl) rfl fun a hs => ?_
  refine nl ?_
  refine wp_cond_split (hs.ev rfl) (fun h641 => ?_) (fun h641 => ?_)
  ·have hsh := ite_t hsh h641
   refine wp_skip ?_
   refine then_normal ?_
   refine wp_seq ?_
   refine wp_join (fun a w => ∃ (out844 : (List Pick)) (c840 : List Value) (p841 : Option Addr) (k842 : Nat) (Sv843 : Nat → Prop), ref23_Sort_j1 sv5 out844 = some tv633 ∧ Sl 68 [(0, .slice p2 l1.length k3), (3, .slice p841 out844.length k842), (4, .int .i64 sv5.2)] a ∧ Wd ⟨w0, S0, []⟩ Sv843 [.row p841 out844.length k842 c840 66 9] [SlA p2 l1.length k3 l1, RowA c840 out844] w) ?_ ?_
   ·refine wp_block ?_
    refine sr ?_
    refine mv hs rfl rfl fun a hs => ?_
    refine sv hs (y_len Tryz.runUnderlying29 rfl) rfl fun a hs => ?_
    obtain ⟨k848, h847, hsh⟩ := bind_t hsh
    refine sv hs (y_assignI rfl h847) rfl fun a hs => ?_
    refine nl ?_
    refine wp_seq ?_
    obtain ⟨e954, h1151, hsh⟩ := bind_t hsh
    refine wp_join (fun a w => ∃ (Sv955 : Nat → Prop), Sl 68 [(0, .slice p2 l1.length k3), (3, .slice p423 sv5.1.length k424), (4, .int .i64 sv5.2), (5, .int .i64 e954)] a ∧ Wd ⟨w0, S0, []⟩ Sv955 [.row p423 sv5.1.length k424 c422 66 9] [SlA p2 l1.length k3 l1, RowA c422 sv5.1] w) ?_ ?_
    ·refine wp_block ?_
     refine wp_while (fun sv849 a w => ∃ (Sv917 : Nat → Prop), Sl 68 [(0, .slice p2 l1.length k3), (3, .slice p423 sv5.1.length k424), (4, .int .i64 sv5.2), (5, .int .i64 sv849)] a ∧ Wd ⟨w0, S0, []⟩ Sv917 [.row p423 sv5.1.length k424 c422 66 9] [SlA p2 l1.length k3 l1, RowA c422 sv5.1] w) k848 h1151 ⟨Sv425, (hs.wk rfl), (hw.ft [0] [0, 1] (by decide) rfl rfl)⟩ ?_
     clear h1151
     repeat clear hsh
     rintro sv849 a w tv952 ⟨Sv917, hs, hw⟩ hsh hd951
     delta ref23_Sort_l6 at hsh
     refine wp_seq ?_
     refine wp_seq ?_
     obtain ⟨c984, hc984, hsh⟩ := bind_t hsh
     refine wp_only (fun a w => ∃ (Sv985 : Nat → Prop), Sl 68 [(0, .slice p2 l1.length k3), (3, .slice p423 sv5.1.length k424), (4, .int .i64 sv5.2), (5, .int .i64 sv849), (28, .bool c984)] a ∧ Wd ⟨w0, S0, []⟩ Sv985 [.row p423 sv5.1.length k424 c422 66 9] [SlA p2 l1.length k3 l1, RowA c422 sv5.1] w) ?_ ?_
     ·rcases Bool.eq_false_or_eq_true (decide (0 < sv849)) with h986 | h986
      ·have h987 := ite_t hc984 h986
       obtain ⟨x990, h988, h987⟩ := bind_t h987
       obtain ⟨b997, q994, c995, h998, h991, h992, h996, h989⟩ := hw.elemRV (α := Pick) 0 rfl 1 rfl h988
       have hsv999 := hs
       have hwv1000 := hw
       subst h998
       have hs := hsv999
       have hw := hwv1000
       obtain ⟨_, _, _, _, _, _, _, _, _, rfl, rfl, rfl, rfl, rfl, rfl, rfl, rfl, rfl, rfl⟩ := h989
       obtain ⟨x1003, h1001, h987⟩ := bind_t h987
       obtain ⟨b1009, o1010, q1007, c1008, h1011, h1004, h1005, h1006, h1002⟩ := hw.elemV 0 rfl h1001
       have hsv1012 := hs
       have hwv1013 := hw
       subst h1011
       have hs := hsv1012
       have hw := hwv1013
       obtain ⟨_, _, _, _, _, _, _, _, _, rfl, rfl, rfl, rfl, rfl, rfl, rfl, rfl, rfl, rfl⟩ := h1002
       have hw := hw.addE h1006
       obtain ⟨rv1015, h1014, h987⟩ := bind_t h987
       refine h_b (C := Cls [.row (some ⟨b997, 0, none⟩) sv5.1.length k424 c422 66 9] [CeA b1009 q1007 [.string x1003.Source.Network, .string x1003.Source.Station, .string x1003.Source.Location, .string x1003.Source.Channel, .int .i64 x1003.Time, .int .i64 x1003.Early, .int .i64 x1003.Late, .int .i64 x1003.Amplitude, .int .i64 x1003.Polarity]]) (by kernel_rfl) rfl (hw.drew.cs [0] [0] rfl rfl) fun hC => ?_
       have hw := hw.drew
       refine gm hs 0 rfl rfl rfl hC fun a hs => ?_
       refine gv hs 1 rfl rfl hC (fun w hC => y_gtr rfl rfl) fun a hs => ?_
       refine gm hs 2 rfl rfl rfl hC fun a hs => ?_
       have hs := hs.fix 16 (.bool true) rfl (vb h986)
       refine gt hs 3 rfl ⟨_, rfl, rfl⟩ rfl hC (fun w hC => y_move rfl) fun a hs => ?_
       refine gt hs 4 rfl ⟨_, rfl, rfl⟩ rfl hC (fun w hC => y_move rfl) fun a hs => ?_
       refine gt hs 5 rfl ⟨_, rfl, rfl⟩ rfl hC (fun w hC => y_sub rfl rfl) fun a hs => ?_
       refine gt hs 6 rfl ⟨_, rfl, rfl⟩ rfl hC (fun w hC => y_indexAt Tryz.runUnderlying29 Tryz.sizeOf66 rfl rfl h991.1 h991.2 h992) fun a hs => ?_
       refine gt hs 7 rfl ⟨_, rfl, rfl⟩ rfl hC (fun w hC => y_loadQA (j := 0) (hC.ownAt 0 rfl) rfl Tryz.isAgg66 Tryz.sizeOf66 h996 rfl rfl) fun a hs => ?_
       refine gt hs 8 rfl ⟨_, rfl, rfl⟩ rfl hC (fun w hC => y_move rfl) fun a hs => ?_
       refine gt hs 9 rfl ⟨_, rfl, rfl⟩ rfl hC (fun w hC => y_move rfl) fun a hs => ?_
       refine gt hs 10 rfl ⟨_, rfl, rfl⟩ rfl hC (fun w hC => y_indexAt Tryz.runUnderlying29 Tryz.sizeOf66 rfl rfl h1004.1 h1004.2 h1005) fun a hs => ?_
       refine gt hs 11 rfl ⟨_, rfl, rfl⟩ rfl hC (fun w hC => y_loadEA (j := 0) (hC.ceAt 0 rfl) rfl Tryz.isAgg66 Tryz.sizeOf66 rfl rfl) fun a hs => ?_
       refine ho 12 rfl ?_
       refine st_callR hs (ref23_Compare_ok h1014 hw.bdom) (do_call Tryz.call28 rfl) ⟨_, rfl, rfl⟩ rfl rfl ?_
       intro v1019 Sv1016 w a h1017 h1018 hs
       subst h1018
       have hw := hw.callB h1017
       refine h_nx (hw.cs [0] [0] rfl rfl) fun hC => ?_
       refine gt hs 13 rfl ⟨_, rfl, rfl⟩ rfl hC (fun w hC => y_gtr rfl rfl) fun a hs => ?_
       refine gv hs 14 rfl rfl hC (fun w hC => y_pickTE (v := .bool c984) rfl rfl (vbs h987)) fun a hs => ?_
       refine h_done (by kernel_rfl) ?_
       exact ⟨Sv917, (hs.wk rfl), (hw.ft [0] [1, 2] (by decide) rfl rfl)⟩
      have h1021 := ite_f hc984 h986
      refine h_b (C := Cls [.row p423 sv5.1.length k424 c422 66 9] []) (by kernel_rfl) rfl (hw.drew.cs [0] [] rfl rfl) fun hC => ?_
      have hw := hw.drew
      refine gm hs 0 rfl rfl rfl hC fun a hs => ?_
      refine gv hs 1 rfl rfl hC (fun w hC => y_gtr rfl rfl) fun a hs => ?_
      refine gm hs 2 rfl rfl rfl hC fun a hs => ?_
      have hs := hs.fix 16 (.bool false) rfl (vb h986)
      refine gs hs 3 rfl rfl rfl rfl hC fun a hs => ?_
      refine gs hs 4 rfl rfl rfl rfl hC fun a hs => ?_
      refine gs hs 5 rfl rfl rfl rfl hC fun a hs => ?_
      refine gs hs 6 rfl rfl rfl rfl hC fun a hs => ?_
      refine gs hs 7 rfl rfl rfl rfl hC fun a hs => ?_
      refine gs hs 8 rfl rfl rfl rfl hC fun a hs => ?_
      refine gs hs 9 rfl rfl rfl rfl hC fun a hs => ?_
      refine gs hs 10 rfl rfl rfl rfl hC fun a hs => ?_
      refine gs hs 11 rfl rfl rfl rfl hC fun a hs => ?_
      refine gs hs 12 rfl rfl rfl rfl hC fun a hs => ?_
      refine gs hs 13 rfl rfl rfl rfl hC fun a hs => ?_
      refine gv hs 14 rfl rfl hC (fun w hC => y_pickFE (v := .bool c984) rfl rfl (vbs h1021)) fun a hs => ?_
      refine h_done (by kernel_rfl) ?_
      exact ⟨Sv917, (hs.wk rfl), (hw.ft [0] [0, 1] (by decide) rfl rfl)⟩
     rintro a w ⟨Sv985, hs, hw⟩
     refine then_normal ?_
     refine wp_cond_split (hs.ev rfl) (fun h1023 => ?_) (fun h1023 => ?_)
     ·have hsh := ite_t hsh h1023
      refine wp_skip ?_
      refine then_normal ?_
      refine wp_block ?_
      refine wp_region_lit ?_
      refine mv hs rfl rfl fun a hs => ?_
      refine sv hs (y_sub rfl rfl) rfl fun a hs => ?_
      obtain ⟨k1027, h1026, hsh⟩ := bind_t hsh
      refine sv hs (y_assignI rfl h1026) rfl fun a hs => ?_
      refine wpList_nil ?_
      refine blk_normal ?_
      refine then_normal ?_
      exact ⟨_, (Option.some.inj hsh).symm, Sv985, (hs.wk rfl), (hw.ft [0] [0, 1] (by decide) rfl rfl)⟩
     have hsh := ite_f hsh h1023
     refine wp_exit ?_
     refine then_exit ?_
     refine then_exit ?_
     refine blk_exit ?_
     have hsh := oi hsh
     subst hsh
     have h1028 := hd951 _ rfl
     subst h1028
     refine then_normal ?_
     exact ⟨Sv985, (hs.wk rfl), (hw.ft [0] [0, 1] (by decide) rfl rfl)⟩
    rintro a w ⟨Sv955, hs, hw⟩
    refine then_normal ?_
    refine wp_seq ?_
    refine wp_seq ?_
    obtain ⟨c1055, hc1055, hsh⟩ := bind_t hsh
    refine wp_only (fun a w => ∃ (Sv1056 : Nat → Prop), Sl 68 [(0, .slice p2 l1.length k3), (3, .slice p423 sv5.1.length k424), (4, .int .i64 sv5.2), (5, .int .i64 e954), (44, .bool c1055)] a ∧ Wd ⟨w0, S0, []⟩ Sv1056 [.row p423 sv5.1.length k424 c422 66 9] [SlA p2 l1.length k3 l1, RowA c422 sv5.1] w) ?_ ?_
    ·rcases Bool.eq_false_or_eq_true (decide (0 < e954)) with h1057 | h1057
     ·have h1058 := ite_t hc1055 h1057
      obtain ⟨x1061, h1059, h1058⟩ := bind_t h1058
      obtain ⟨b1068, q1065, c1066, h1069, h1062, h1063, h1067, h1060⟩ := hw.elemRV (α := Pick) 0 rfl 1 rfl h1059
      have hsv1070 := hs
      have hwv1071 := hw
      subst h1069
      have hs := hsv1070
      have hw := hwv1071
      obtain ⟨_, _, _, _, _, _, _, _, _, rfl, rfl, rfl, rfl, rfl, rfl, rfl, rfl, rfl, rfl⟩ := h1060
      obtain ⟨x1074, h1072, h1058⟩ := bind_t h1058
      obtain ⟨b1080, o1081, q1078, c1079, h1082, h1075, h1076, h1077, h1073⟩ := hw.elemV 0 rfl h1072
      have hsv1083 := hs
      have hwv1084 := hw
      subst h1082
      have hs := hsv1083
      have hw := hwv1084
      obtain ⟨_, _, _, _, _, _, _, _, _, rfl, rfl, rfl, rfl, rfl, rfl, rfl, rfl, rfl, rfl⟩ := h1073
      have hw := hw.addE h1077
      refine h_b (C := Cls [.row (some ⟨b1068, 0, none⟩) sv5.1.length k424 c422 66 9] [CeA b1080 q1078 [.string x1074.Source.Network, .string x1074.Source.Station, .string x1074.Source.Location, .string x1074.Source.Channel, .int .i64 x1074.Time, .int .i64 x1074.Early, .int .i64 x1074.Late, .int .i64 x1074.Amplitude, .int .i64 x1074.Polarity]]) (by kernel_rfl) rfl (hw.drew.cs [0] [0] rfl rfl) fun hC => ?_
      have hw := hw.drew
      refine gm hs 0 rfl rfl rfl hC fun a hs => ?_
      refine gv hs 1 rfl rfl hC (fun w hC => y_gtr rfl rfl) fun a hs => ?_
      refine gm hs 2 rfl rfl rfl hC fun a hs => ?_
      have hs := hs.fix 33 (.bool true) rfl (vb h1057)
      refine gt hs 3 rfl ⟨_, rfl, rfl⟩ rfl hC (fun w hC => y_move rfl) fun a hs => ?_
      refine gt hs 4 rfl ⟨_, rfl, rfl⟩ rfl hC (fun w hC => y_move rfl) fun a hs => ?_
      refine gt hs 5 rfl ⟨_, rfl, rfl⟩ rfl hC (fun w hC => y_sub rfl rfl) fun a hs => ?_
      refine gt hs 6 rfl ⟨_, rfl, rfl⟩ rfl hC (fun w hC => y_indexAt Tryz.runUnderlying29 Tryz.sizeOf66 rfl rfl h1062.1 h1062.2 h1063) fun a hs => ?_
      refine gt hs 7 rfl ⟨_, rfl, rfl⟩ rfl hC (fun w hC => y_loadQA (j := 0) (hC.ownAt 0 rfl) rfl Tryz.isAgg66 Tryz.sizeOf66 h1067 rfl rfl) fun a hs => ?_
      refine gt hs 8 rfl ⟨_, rfl, rfl⟩ rfl hC (fun w hC => y_move rfl) fun a hs => ?_
      refine gt hs 9 rfl ⟨_, rfl, rfl⟩ rfl hC (fun w hC => y_move rfl) fun a hs => ?_
      refine gt hs 10 rfl ⟨_, rfl, rfl⟩ rfl hC (fun w hC => y_indexAt Tryz.runUnderlying29 Tryz.sizeOf66 rfl rfl h1075.1 h1075.2 h1076) fun a hs => ?_
      refine gt hs 11 rfl ⟨_, rfl, rfl⟩ rfl hC (fun w hC => y_loadEA (j := 0) (hC.ceAt 0 rfl) rfl Tryz.isAgg66 Tryz.sizeOf66 rfl rfl) fun a hs => ?_
      refine gt hs 12 rfl ⟨_, rfl, rfl⟩ rfl hC (fun w hC => y_eqlA (by kernel_rfl) rfl rfl (eqv_struct Tryz.runUnderlying66 (by kernel_rfl) (EqF.consA rfl Tryz.isAgg41 Tryz.sizeOf41 rfl rfl (eqv_struct Tryz.runUnderlying41 (by kernel_rfl) (EqF.cons1 rfl Tryz.isAgg9 rfl rfl (eqv_str Tryz.runUnderlying9) (EqF.cons1 rfl Tryz.isAgg9 rfl rfl (eqv_str Tryz.runUnderlying9) (EqF.cons1 rfl Tryz.isAgg9 rfl rfl (eqv_str Tryz.runUnderlying9) (EqF.cons1 rfl Tryz.isAgg9 rfl rfl (eqv_str Tryz.runUnderlying9) EqF.nil))))) (EqF.cons1 rfl Tryz.isAgg3 rfl rfl (eqv_int Tryz.runUnderlying3) (EqF.cons1 rfl Tryz.isAgg3 rfl rfl (eqv_int Tryz.runUnderlying3) (EqF.cons1 rfl Tryz.isAgg3 rfl rfl (eqv_int Tryz.runUnderlying3) (EqF.cons1 rfl Tryz.isAgg3 rfl rfl (eqv_int Tryz.runUnderlying3) (EqF.cons1 rfl Tryz.isAgg3 rfl rfl (eqv_int Tryz.runUnderlying3) EqF.nil)))))))) fun a hs => ?_
      refine gv hs 13 rfl rfl hC (fun w hC => y_pickTE (v := .bool c1055) rfl rfl (vbs h1058)) fun a hs => ?_
      refine h_done (by kernel_rfl) ?_
      exact ⟨Sv955, (hs.wk rfl), (hw.ft [0] [1, 2] (by decide) rfl rfl)⟩
     have h1085 := ite_f hc1055 h1057
     refine h_b (C := Cls [.row p423 sv5.1.length k424 c422 66 9] []) (by kernel_rfl) rfl (hw.drew.cs [0] [] rfl rfl) fun hC => ?_
     have hw := hw.drew
     refine gm hs 0 rfl rfl rfl hC fun a hs => ?_
     refine gv hs 1 rfl rfl hC (fun w hC => y_gtr rfl rfl) fun a hs => ?_
     refine gm hs 2 rfl rfl rfl hC fun a hs => ?_
     have hs := hs.fix 33 (.bool false) rfl (vb h1057)
     refine gs hs 3 rfl rfl rfl rfl hC fun a hs => ?_
     refine gs hs 4 rfl rfl rfl rfl hC fun a hs => ?_
     refine gs hs 5 rfl rfl rfl rfl hC fun a hs => ?_
     refine gs hs 6 rfl rfl rfl rfl hC fun a hs => ?_
     refine gs hs 7 rfl rfl rfl rfl hC fun a hs => ?_
     refine gs hs 8 rfl rfl rfl rfl hC fun a hs => ?_
     refine gs hs 9 rfl rfl rfl rfl hC fun a hs => ?_
     refine gs hs 10 rfl rfl rfl rfl hC fun a hs => ?_
     refine gs hs 11 rfl rfl rfl rfl hC fun a hs => ?_
     refine gs hs 12 rfl rfl rfl rfl hC fun a hs => ?_
     refine gv hs 13 rfl rfl hC (fun w hC => y_pickFE (v := .bool c1055) rfl rfl (vbs h1085)) fun a hs => ?_
     refine h_done (by kernel_rfl) ?_
     exact ⟨Sv955, (hs.wk rfl), (hw.ft [0] [0, 1] (by decide) rfl rfl)⟩
    rintro a w ⟨Sv1056, hs, hw⟩
    refine then_normal ?_
    refine wp_cond_split (hs.ev rfl) (fun h1087 => ?_) (fun h1087 => ?_)
    ·have hsh := ite_t hsh h1087
     refine wp_exit ?_
     refine then_exit ?_
     refine blk_exit ?_
     refine then_normal ?_
     exact ⟨sv5.1, c422, p423, k424, Sv1056, hsh, (hs.wk rfl), (hw.ft [0] [0, 1] (by decide) rfl rfl)⟩
    have hsh := ite_f hsh h1087
    refine wp_skip ?_
    refine then_normal ?_
    refine sr ?_
    refine mv hs rfl rfl fun a hs => ?_
    refine mv hs rfl rfl fun a hs => ?_
    refine mv hs rfl rfl fun a hs => ?_
    obtain ⟨x1090, h1088, hsh⟩ := bind_t hsh
    obtain ⟨b1096, o1097, q1094, c1095, h1098, h1091, h1092, h1093, h1089⟩ := hw.elemV 0 rfl h1088
    have hsv1099 := hs
    have hwv1100 := hw
    subst h1098
    have hs := hsv1099
    have hw := hwv1100
    obtain ⟨_, _, _, _, _, _, _, _, _, rfl, rfl, rfl, rfl, rfl, rfl, rfl, rfl, rfl, rfl⟩ := h1089
    have hw := hw.addE h1093
    refine sv hs (y_indexAt Tryz.runUnderlying29 Tryz.sizeOf66 rfl rfl h1091.1 h1091.2 h1092) rfl fun a hs => ?_
    refine sv hs (y_loadEA (j := 0) (hw.ceAt 0 rfl) rfl Tryz.isAgg66 Tryz.sizeOf66 rfl rfl) rfl fun a hs => ?_
    refine w_litSlice (α := Pick) (vs := [.agg #[.string x1090.Source.Network, .string x1090.Source.Station, .string x1090.Source.Location, .string x1090.Source.Channel, .int .i64 x1090.Time, .int .i64 x1090.Early, .int .i64 x1090.Late, .int .i64 x1090.Amplitude, .int .i64 x1090.Polarity]]) (cs := [.string x1090.Source.Network, .string x1090.Source.Station, .string x1090.Source.Location, .string x1090.Source.Channel, .int .i64 x1090.Time, .int .i64 x1090.Early, .int .i64 x1090.Late, .int .i64 x1090.Amplitude, .int .i64 x1090.Polarity]) (xs := ([x1090] : List Pick)) hs hw El29 rfl rfl rfl rfl rfl rfl ⟨⟨_, _, _, _, _, _, _, _, _, rfl, rfl, rfl, rfl, rfl, rfl, rfl, rfl, rfl, rfl⟩, rfl⟩ rfl trivial rfl fun b1102 a w hs hw => ?_
    obtain ⟨l1104, h1103, hsh⟩ := bind_t hsh
    refine w_appendR (α := Pick) hs hw El29 1 rfl rfl rfl 3 rfl 0 rfl 0 rfl h1103 rfl trivial ?_
    intro p1105 k1106 c1107 a w hs hw
    refine av hs rfl rfl fun a hs => ?_
    refine nl ?_
    refine wp_seq ?_
    obtain ⟨l1112, h1108, hsh⟩ := bind_t hsh
    obtain ⟨p1110, k1111, h1109⟩ := row_sub (α := Pick) hw 1 rfl h1108
    obtain ⟨l1117, h1113, hsh⟩ := bind_t hsh
    obtain ⟨p1115, k1116, h1114⟩ := row_sub (α := Pick) hw 1 rfl h1113
    obtain ⟨l1118, h1119, hsh⟩ := bind_t hsh
    refine wp_only (fun a w => ∃ (Sv1122 : Nat → Prop) (c1120 : List Value), Sl 68 [(0, .slice (some ⟨b1096, o1097, none⟩) l1.length k3), (3, .slice p1105 l1118.length k1106), (4, .int .i64 sv5.2), (5, .int .i64 e954)] a ∧ Wd ⟨w0, S0, []⟩ Sv1122 [.row p1105 l1118.length k1106 c1120 66 9] [SlA (some ⟨b1096, o1097, none⟩) l1.length k3 l1, RowA c1120 l1118] w) ?_ ?_
    ·refine h_b (C := Cls [.row (some ⟨b1102, 0, none⟩) ([x1090] : List Pick).length ([x1090] : List Pick).length [.string x1090.Source.Network, .string x1090.Source.Station, .string x1090.Source.Location, .string x1090.Source.Channel, .int .i64 x1090.Time, .int .i64 x1090.Early, .int .i64 x1090.Late, .int .i64 x1090.Amplitude, .int .i64 x1090.Polarity] 66 9] [CeA b1096 q1094 [.string x1090.Source.Network, .string x1090.Source.Station, .string x1090.Source.Location, .string x1090.Source.Channel, .int .i64 x1090.Time, .int .i64 x1090.Early, .int .i64 x1090.Late, .int .i64 x1090.Amplitude, .int .i64 x1090.Polarity]]) (by kernel_rfl) rfl (hw.drew.cs [0] [2] rfl rfl) fun hC => ?_
     have hw := hw.drew
     refine gm hs 0 rfl rfl rfl hC fun a hs => ?_
     refine gm hs 1 rfl rfl rfl hC fun a hs => ?_
     refine gv hs 2 rfl rfl hC (fun w hC => y_add rfl rfl) fun a hs => ?_
     refine gv hs 3 rfl rfl hC (fun w hC => y_slc Tryz.runUnderlying29 Tryz.sizeOf66 rfl ⟨_, rfl⟩ (by exact rfl) h1109) fun a hs => ?_
     refine gm hs 4 rfl rfl rfl hC fun a hs => ?_
     refine gm hs 5 rfl rfl rfl hC fun a hs => ?_
     refine gv hs 6 rfl rfl hC (fun w hC => y_slc Tryz.runUnderlying29 Tryz.sizeOf66 rfl ⟨_, rfl⟩ (by exact rfl) h1114) fun a hs => ?_
     refine ho 7 rfl ?_
     obtain ⟨ds_, h1125⟩ := src_vw (hw.ownAt 1 rfl) (hw.envAt 0 rfl) h1113 h1114
     refine w_copyC (α := Pick) hs hw 1 rfl 0 rfl Tryz.runUnderlying29 Tryz.runUnderlying29 Tryz.sizeOf66 (by decide) h1108 h1109 rfl rfl rfl h1125.1 h1125.2.1 h1125.2.2 rfl trivial ?_
     intro c1120 a w hs hw
     rw [Option.some.inj h1119] at hw
     have h1121 := (copy_lenS h1108 h1119)
     try have hs := hs.fl 3 rfl h1121
     try have hs := hs.fl 52 rfl h1121
     try have hs := hs.fl 56 rfl h1121
     refine h_nx (hw.cs [0] [3] rfl rfl) fun hC => ?_
     refine h_done (by kernel_rfl) ?_
     exact ⟨Sv1056, c1120, (hs.wk rfl), (hw.ft [1] [4, 0] (by decide) rfl rfl)⟩
    rintro a w ⟨Sv1122, c1120, hs, hw⟩
    refine then_normal ?_
    refine wp_region_lit ?_
    refine mv hs rfl rfl fun a hs => ?_
    refine mv hs rfl rfl fun a hs => ?_
    refine mv hs rfl rfl fun a hs => ?_
    refine mv hs rfl rfl fun a hs => ?_
    obtain ⟨x1128, h1126, hsh⟩ := bind_t hsh
    obtain ⟨q1132, c1133, h1129, h1130, h1131, h1127⟩ := hw.elemK 0 rfl h1126
    obtain ⟨_, _, _, _, _, _, _, _, _, rfl, rfl, rfl, rfl, rfl, rfl, rfl, rfl, rfl, rfl⟩ := h1127
    have hw := hw.addE h1131
    refine sv hs (y_indexAt Tryz.runUnderlying29 Tryz.sizeOf66 rfl rfl h1129.1 h1129.2 h1130) rfl fun a hs => ?_
    refine sv hs (y_loadEA (j := 0) (hw.ceAt 0 rfl) rfl Tryz.isAgg66 Tryz.sizeOf66 rfl rfl) rfl fun a hs => ?_
    obtain ⟨x1136, h1134, hsh⟩ := bind_t hsh
    obtain ⟨b1143, q1140, c1141, h1144, h1137, h1138, h1142, h1135⟩ := hw.elemRV (α := Pick) 0 rfl 2 rfl h1134
    have hsv1145 := hs
    have hwv1146 := hw
    subst h1144
    have hs := hsv1145
    have hw := hwv1146
    obtain ⟨_, _, _, _, _, _, _, _, _, rfl, rfl, rfl, rfl, rfl, rfl, rfl, rfl, rfl, rfl⟩ := h1135
    refine sv hs (y_indexAt Tryz.runUnderlying29 Tryz.sizeOf66 rfl rfl h1137.1 h1137.2 h1138) rfl fun a hs => ?_
    obtain ⟨l1148, h1147, hsh⟩ := bind_t hsh
    refine w_storeF (α := Pick) hs hw 0 rfl 2 rfl h1138 rfl rfl Tryz.sizeOf66 rfl h1147 ⟨_, _, _, _, _, _, _, _, _, rfl, rfl, rfl, rfl, rfl, rfl, rfl, rfl, rfl, rfl⟩ trivial ?_
    intro c1149 a w hs hw
    have h1150 := setM_len h1147
    try have hs := hs.fl 3 rfl h1150
    try have hs := hs.fl 60 rfl h1150
    refine wpList_nil ?_
    refine blk_normal ?_
    refine then_normal ?_
    exact ⟨l1148, c1149, (some ⟨b1143, 0, none⟩), k1106, Sv1122, hsh, (hs.wk rfl), (hw.ft [0] [2, 0] (by decide) rfl rfl)⟩
   rintro a w ⟨out844, c840, p841, k842, Sv843, hsh, hs, hw⟩
   delta ref23_Sort_j1 at hsh
   refine then_normal ?_
   refine wp_region_lit ?_
   refine mv hs rfl rfl fun a hs => ?_
   refine sv hs (y_add rfl rfl) rfl fun a hs => ?_
   obtain ⟨i846, h845, hsh⟩ := bind_t hsh
   refine sv hs (y_assignI rfl h845) rfl fun a hs => ?_
   refine nl ?_
   exact ⟨_, (Option.some.inj hsh).symm, c840, p841, k842, Sv843, (hs.wk rfl), (hw.ft [0] [0, 1] (by decide) rfl rfl)⟩
  have hsh := ite_f hsh h641
  refine wp_exit ?_
  refine then_exit ?_
  refine then_exit ?_
  refine blk_exit ?_
  have hsh := oi hsh
  subst hsh
  have h1152 := hd632 _ rfl
  subst h1152
  refine then_normal ?_
  exact ⟨c422, p423, k424, Sv425, (hs.wk rfl), (hw.ft [0] [1] (by decide) rfl rfl)⟩
 rintro a w ⟨c636, p637, k638, Sv639, hs, hw⟩
 refine then_normal ?_
 refine sr ?_
 refine mv hs rfl rfl fun a hs => ?_
 refine av hs rfl rfl fun a hs => ?_
 refine nl ?_
 have hsh := oi hsh
 subst hsh
 refine wp_ret ?_
 exact ret1 hs rfl (rv_tmp rfl) (hw.ret ⟨p637, k638, c636, rfl, (hw.outs [0] (by decide) rfl), (hw.envAt 0 rfl)⟩)
abbrev ref23_Run_rd (w0 : World) (X : List Nat) (r : ((List Pick) × Int)) : (Nat → Prop) → World → Value → Prop := fun S w v => ∃ (p0_0 : Option Addr) (k0_0 : Nat) (c0_0 : List Value), v = .tuple #[.slice p0_0 r.1.length k0_0, .int .i64 r.2] ∧ Outs X w0 S w [.row p0_0 r.1.length k0_0 c0_0 66 9] ∧ (RowA c0_0 r.1).p S w
set_option maxHeartbeats 4000000 in
set_option maxRecDepth 100000 in
theorem ref23_Run_ok {w0 : World} {S0 : Nat → Prop} {p4 : Option Addr} {k5 : Nat} {p1 : Picking} {s2 : SourceID} {l3 : (List Segment)} {r : ((List Pick) × Int)} (hsh : ref23_Run p1 s2 l3 = some r) (hS : ∀ b, S0 b → b < w0.heap.size) (h6 : (SlA p4 l3.length k5 l3).p S0 w0) : Calls Tryz.prog 19 #[.agg #[.int .i64 p1.Detector.Short, .int .i64 p1.Detector.Long, .int .i64 p1.Detector.On, .int .i64 p1.Detector.Off, .int .i64 p1.Back, .int .i64 p1.Level, .int .i64 p1.Floor], .agg #[.string s2.Network, .string s2.Station, .string s2.Location, .string s2.Channel], .slice p4 l3.length k5] w0 (Ret ([]) w0 S0 (ref23_Run_rd w0 ([]) r)) := by
 refine calls_of_wp Tryz.func19 rfl ?_
 have hs := Sl.enter #[.agg #[.int .i64 p1.Detector.Short, .int .i64 p1.Detector.Long, .int .i64 p1.Detector.On, .int .i64 p1.Detector.Off, .int .i64 p1.Back, .int .i64 p1.Level, .int .i64 p1.Floor], .agg #[.string s2.Network, .string s2.Station, .string s2.Location, .string s2.Channel], .slice p4 l3.length k5] 61 [(0, .agg #[.int .i64 p1.Detector.Short, .int .i64 p1.Detector.Long, .int .i64 p1.Detector.On, .int .i64 p1.Detector.Off, .int .i64 p1.Back, .int .i64 p1.Level, .int .i64 p1.Floor]), (1, .agg #[.string s2.Network, .string s2.Station, .string s2.Location, .string s2.Channel]), (2, .slice p4 l3.length k5)] rfl ⟨rfl, rfl, rfl, trivial⟩
 have hw := Wd.enter (E := []) hS (fun _ h => (by cases h))
 have hw := hw.addE h6
 delta ref23_Run at hsh
 refine sr ?_
 refine w_box (cs := [.int .i64 p1.Detector.Short, .int .i64 p1.Detector.Long, .int .i64 p1.Detector.On, .int .i64 p1.Detector.Off, .int .i64 p1.Back, .int .i64 p1.Level, .int .i64 p1.Floor]) hs hw rfl rfl rfl trivial ?_
 intro b7 a w hs hw
 refine w_box (cs := [.string s2.Network, .string s2.Station, .string s2.Location, .string s2.Channel]) hs hw rfl rfl rfl trivial ?_
 intro b8 a w hs hw
 refine av hs rfl rfl fun a hs => ?_
 refine av hs rfl rfl fun a hs => ?_
 refine nl ?_
 refine wp_seq ?_
 refine sr ?_
 refine sv hs (y_loadBA (hw.ownAt 1 rfl) rfl Tryz.isAgg26 Tryz.sizeOf26 rfl rfl) rfl fun a hs => ?_
 obtain ⟨rv10, h9, hsh⟩ := bind_t hsh
 refine st_callR hs (ref23_Valid_ok h9 hw.bdom) (do_call Tryz.call15 rfl) trivial rfl rfl ?_
 intro v14 Sv11 w a h12 h13 hs
 subst h13
 have hw := hw.callB h12
 refine sv hs (y_not rfl) rfl fun a hs => ?_
 refine mv hs rfl rfl fun a hs => ?_
 obtain ⟨c24, hc24, hsh⟩ := bind_t hsh
 refine wpl_join 4 (fun a w => ∃ (Sv25 : Nat → Prop), Sl 61 [(2, .slice p4 l3.length k5), (3, .pointer (some ⟨b7, 0, none⟩)), (4, .pointer (some ⟨b8, 0, none⟩)), (20, .bool c24)] a ∧ Wd ⟨w0, S0, []⟩ Sv25 [.box b7 [.int .i64 p1.Detector.Short, .int .i64 p1.Detector.Long, .int .i64 p1.Detector.On, .int .i64 p1.Detector.Off, .int .i64 p1.Back, .int .i64 p1.Level, .int .i64 p1.Floor] 26, .box b8 [.string s2.Network, .string s2.Station, .string s2.Location, .string s2.Channel] 41] [SlA p4 l3.length k5 l3] w) ?_ ?_
 ·rcases Bool.eq_false_or_eq_true (!rv10) with h23 | h23
  ·have hs := hs.fix 16 (.bool true) rfl (vb h23)
   have hsh := ite_t hc24 h23
   refine st_skip hs rfl rfl rfl rfl rfl fun a hs => ?_
   refine st_skip hs rfl rfl rfl rfl rfl fun a hs => ?_
   refine st_skip hs rfl rfl rfl rfl rfl fun a hs => ?_
   refine sv hs (y_pickT rfl rfl) rfl fun a hs => ?_
   refine wpList_nil ?_
   have hsh := oi hsh
   subst hsh
   refine then_normal ?_
   exact ⟨S0, (hs.wk rfl), (hw.ft [1, 0] [0] (by decide) rfl rfl)⟩
  have hs := hs.fix 16 (.bool false) rfl (vb h23)
  have hsh := ite_f hc24 h23
  refine st_val hs (y_loadBA (hw.ownAt 0 rfl) rfl Tryz.isAgg41 Tryz.sizeOf41 rfl rfl) ⟨_, rfl, rfl⟩ rfl rfl fun a hs => ?_
  obtain ⟨rv27, h26, hsh⟩ := bind_t hsh
  refine st_callR hs (ref03_Valid_ok h26 hw.bdom) (do_call Tryz.call43 rfl) ⟨_, rfl, rfl⟩ rfl rfl ?_
  intro v31 Sv28 w a h29 h30 hs
  subst h30
  have hw := hw.callB h29
  refine st_val hs (y_not rfl) ⟨_, rfl, rfl⟩ rfl rfl fun a hs => ?_
  refine sv hs (y_pickF rfl rfl) rfl fun a hs => ?_
  refine wpList_nil ?_
  have hsh := oi hsh
  subst hsh
  refine then_normal ?_
  exact ⟨S0, (hs.wk rfl), (hw.ft [1, 0] [0] (by decide) rfl rfl)⟩
 rintro a w ⟨Sv25, hs, hw⟩
 refine nl ?_
 refine wp_cond_split (hs.ev rfl) (fun h34 => ?_) (fun h34 => ?_)
 ·have hsh := ite_t hsh h34
  refine sr ?_
  refine av hs rfl rfl fun a hs => ?_
  refine av hs rfl rfl fun a hs => ?_
  refine nl ?_
  have hsh := oi hsh
  subst hsh
  have hw := hw.nilRow Pick 66
  refine wp_ret ?_
  refine then_ret ?_
  exact ret2 hs rfl (rv_tmp rfl) (rv_tmp rfl) (hw.ret ⟨none, 0, [], rfl, (hw.outs [0] (by decide) rfl), (hw.envAt 0 rfl)⟩)
 have hsh := ite_f hsh h34
 refine wp_skip ?_
 refine then_normal ?_
 refine wp_seq ?_
 refine sr ?_
 refine av hs rfl rfl fun a hs => ?_
 refine nl ?_
 refine wp_block ?_
 refine wp_while (fun sv124 a w => ∃ (Sv182 : Nat → Prop), Sl 61 [(2, .slice p4 l3.length k5), (3, .pointer (some ⟨b7, 0, none⟩)), (4, .pointer (some ⟨b8, 0, none⟩)), (8, .int .i64 sv124)] a ∧ Wd ⟨w0, S0, []⟩ Sv182 [.box b7 [.int .i64 p1.Detector.Short, .int .i64 p1.Detector.Long, .int .i64 p1.Detector.On, .int .i64 p1.Detector.Off, .int .i64 p1.Back, .int .i64 p1.Level, .int .i64 p1.Floor] 26, .box b8 [.string s2.Network, .string s2.Station, .string s2.Location, .string s2.Channel] 41] [SlA p4 l3.length k5 l3] w) 0 hsh ⟨Sv25, (hs.wk rfl), (hw.ft [0, 1] [0] (by decide) rfl rfl)⟩ ?_
 repeat clear hsh
 rintro sv124 a w tv212 ⟨Sv182, hs, hw⟩ hsh hd211
 delta ref23_Run_l2 at hsh
 refine wp_seq ?_
 refine sr ?_
 refine mv hs rfl rfl fun a hs => ?_
 refine mv hs rfl rfl fun a hs => ?_
 refine sv hs (y_len Tryz.runUnderlying30 rfl) rfl fun a hs => ?_
 refine sv hs (y_lss rfl rfl) rfl fun a hs => ?_
 refine nl ?_
 refine wp_cond_split (hs.ev rfl) (fun h216 => ?_) (fun h216 => ?_)
 ·have hsh := ite_t hsh h216
  refine wp_skip ?_
  refine then_normal ?_
  refine wp_seq ?_
  refine wp_block ?_
  refine sr ?_
  refine mv hs rfl rfl fun a hs => ?_
  refine mv hs rfl rfl fun a hs => ?_
  obtain ⟨x244, h242, hsh⟩ := bind_t hsh
  obtain ⟨b250, o251, q248, c249, h252, h245, h246, h247, h243⟩ := hw.elemV 0 rfl h242
  have hsv253 := hs
  have hwv254 := hw
  subst h252
  have hs := hsv253
  have hw := hwv254
  obtain ⟨_, _, _, _, _, _, rfl, rfl, rfl, rfl, rfl, rfl, ⟨p255, n256, k257, rfl, h258⟩⟩ := h243
  obtain rfl := h258.1
  have hw := hw.addE (e := SlA p255 _ k257 x244.Samples) h258
  have hw := hw.addE h247
  refine sv hs (y_indexAt Tryz.runUnderlying30 Tryz.sizeOf36 rfl rfl h245.1 h245.2 h246) rfl fun a hs => ?_
  refine sv hs (y_loadEA (j := 0) (hw.ceAt 0 rfl) rfl Tryz.isAgg36 Tryz.sizeOf36 rfl rfl) rfl fun a hs => ?_
  obtain ⟨rv260, h259, hsh⟩ := bind_t hsh
  refine st_callR hs (ref16_ValidSegment_ok h259 hw.bdom (hw.bE 1 rfl)) (do_call Tryz.call44 rfl) trivial rfl rfl ?_
  intro v264 Sv261 w a h262 h263 hs
  subst h263
  have hw := hw.callB h262
  refine sv hs (y_not rfl) rfl fun a hs => ?_
  refine nl ?_
  refine wp_cond_split (hs.ev rfl) (fun h267 => ?_) (fun h267 => ?_)
  ·have hsh := ite_t hsh h267
   refine sr ?_
   refine av hs rfl rfl fun a hs => ?_
   refine av hs rfl rfl fun a hs => ?_
   refine nl ?_
   have hsh := oi hsh
   subst hsh
   have h268 := hd211 _ rfl
   subst h268
   have hw := hw.nilRow Pick 66
   refine wp_ret ?_
   refine blk_ret ?_
   refine then_ret ?_
   refine then_ret ?_
   refine blk_ret ?_
   refine then_ret ?_
   exact ret2 hs rfl (rv_tmp rfl) (rv_tmp rfl) (hw.ret ⟨none, 0, [], rfl, (hw.outs [0] (by decide) rfl), (hw.envAt 0 rfl)⟩)
  have hsh := ite_f hsh h267
  refine wp_skip ?_
  refine blk_normal ?_
  refine then_normal ?_
  refine wp_region_lit ?_
  refine mv hs rfl rfl fun a hs => ?_
  refine sv hs (y_add rfl rfl) rfl fun a hs => ?_
  obtain ⟨i270, h269, hsh⟩ := bind_t hsh
  refine sv hs (y_assignI rfl h269) rfl fun a hs => ?_
  refine nl ?_
  exact ⟨_, (Option.some.inj hsh).symm, Sv182, (hs.wk rfl), (hw.ft [0, 1] [2] (by decide) rfl rfl)⟩
 have hsh := ite_f hsh h216
 obtain ⟨rv580, hsh, h581⟩ := map_t hsh
 have h581 := (hd211 _ h581.symm).symm
 subst h581
 refine wp_exit ?_
 refine then_exit ?_
 refine then_exit ?_
 refine blk_exit ?_
 refine then_normal ?_
 refine sr ?_
 refine av hs rfl rfl fun a hs => ?_
 refine nl ?_
 refine wp_seq ?_
 refine sr ?_
 refine av hs rfl rfl fun a hs => ?_
 refine nl ?_
 refine wp_block ?_
 have hw := hw.nilRow Pick 66
 refine wp_while (fun sv381 a w => ∃ (c452 : List Value) (p453 : Option Addr) (k454 : Nat) (Sv455 : Nat → Prop), Sl 61 [(2, .slice p4 l3.length k5), (3, .pointer (some ⟨b7, 0, none⟩)), (4, .pointer (some ⟨b8, 0, none⟩)), (9, .slice p453 sv381.1.length k454), (10, .int .i64 sv381.2)] a ∧ Wd ⟨w0, S0, []⟩ Sv455 [.box b7 [.int .i64 p1.Detector.Short, .int .i64 p1.Detector.Long, .int .i64 p1.Detector.On, .int .i64 p1.Detector.Off, .int .i64 p1.Back, .int .i64 p1.Level, .int .i64 p1.Floor] 26, .box b8 [.string s2.Network, .string s2.Station, .string s2.Location, .string s2.Channel] 41, .row p453 sv381.1.length k454 c452 66 9] [SlA p4 l3.length k5 l3, RowA c452 sv381.1] w) (([] : List Pick), 0) hsh ⟨[], none, 0, Sv182, (hs.wk rfl), (hw.ft [1, 2, 0] [1, 0] (by decide) rfl rfl)⟩ ?_
 repeat clear hsh
 rintro sv381 a w tv490 ⟨c452, p453, k454, Sv455, hs, hw⟩ hsh hd489
 delta ref23_Run_l4 at hsh
 refine wp_seq ?_
 refine sr ?_
 refine mv hs rfl rfl fun a hs => ?_
 refine mv hs rfl rfl fun a hs => ?_
 refine sv hs (y_len Tryz.runUnderlying30 rfl) rfl fun a hs => ?_
 refine sv hs (y_lss rfl rfl) rfl fun a hs => ?_
 refine nl ?_
 refine wp_cond_split (hs.ev rfl) (fun h494 => ?_) (fun h494 => ?_)
 ·have hsh := ite_t hsh h494
  refine wp_skip ?_
  refine then_normal ?_
  refine wp_seq ?_
  refine wp_block ?_
  refine wp_seq ?_
  obtain ⟨x527, h525, hsh⟩ := bind_t hsh
  obtain ⟨b533, o534, q531, c532, h535, h528, h529, h530, h526⟩ := hw.elemV 0 rfl h525
  have hsv536 := hs
  have hwv537 := hw
  subst h535
  have hs := hsv536
  have hw := hwv537
  obtain ⟨_, _, _, _, _, _, rfl, rfl, rfl, rfl, rfl, rfl, ⟨p538, n539, k540, rfl, h541⟩⟩ := h526
  obtain rfl := h541.1
  have hw := hw.addE (e := SlA p538 _ k540 x527.Samples) h541
  have hw := hw.addE h530
  obtain ⟨rv543, h542, hsh⟩ := bind_t hsh
  refine wp_only (fun a w => ∃ (Sv548 : Nat → Prop) (c547 : List Value) (k545 : Nat) (p544 : Option Addr), Sl 61 [(2, .slice (some ⟨b533, o534, none⟩) l3.length k5), (3, .pointer (some ⟨b7, 0, none⟩)), (4, .pointer (some ⟨b8, 0, none⟩)), (9, .slice p453 sv381.1.length k454), (10, .int .i64 sv381.2), (11, .slice p544 rv543.1.length k545), (12, .int .i64 rv543.2)] a ∧ Wd ⟨w0, S0, []⟩ Sv548 [.box b7 [.int .i64 p1.Detector.Short, .int .i64 p1.Detector.Long, .int .i64 p1.Detector.On, .int .i64 p1.Detector.Off, .int .i64 p1.Back, .int .i64 p1.Level, .int .i64 p1.Floor] 26, .box b8 [.string s2.Network, .string s2.Station, .string s2.Location, .string s2.Channel] 41, .row p453 sv381.1.length k454 c452 66 9, .row p544 rv543.1.length k545 c547 66 9] [SlA (some ⟨b533, o534, none⟩) l3.length k5 l3, RowA c452 sv381.1, RowA c547 rv543.1] w) ?_ ?_
  ·refine h_b (C := Cls [.box b7 [.int .i64 p1.Detector.Short, .int .i64 p1.Detector.Long, .int .i64 p1.Detector.On, .int .i64 p1.Detector.Off, .int .i64 p1.Back, .int .i64 p1.Level, .int .i64 p1.Floor] 26, .box b8 [.string s2.Network, .string s2.Station, .string s2.Location, .string s2.Channel] 41, .row p453 sv381.1.length k454 c452 66 9] [CeA b533 q531 [.int .i64 x527.Start, .int .i64 x527.First, .int .i64 x527.Rate.Num, .int .i64 x527.Rate.Den, .int .i64 x527.Error, .slice p538 x527.Samples.length k540]]) (by kernel_rfl) rfl (hw.drew.cs [0, 1, 2] [0] rfl rfl) fun hC => ?_
   have hw := hw.drew
   refine gv hs 0 rfl rfl hC (fun w hC => y_loadBA (hC.ownAt 0 rfl) rfl Tryz.isAgg26 Tryz.sizeOf26 rfl rfl) fun a hs => ?_
   refine gv hs 1 rfl rfl hC (fun w hC => y_loadBA (hC.ownAt 1 rfl) rfl Tryz.isAgg41 Tryz.sizeOf41 rfl rfl) fun a hs => ?_
   refine gm hs 2 rfl rfl rfl hC fun a hs => ?_
   refine gm hs 3 rfl rfl rfl hC fun a hs => ?_
   refine gv hs 4 rfl rfl hC (fun w hC => y_indexAt Tryz.runUnderlying30 Tryz.sizeOf36 rfl rfl h528.1 h528.2 h529) fun a hs => ?_
   refine gv hs 5 rfl rfl hC (fun w hC => y_loadEA (j := 0) (hC.ceAt 0 rfl) rfl Tryz.isAgg36 Tryz.sizeOf36 rfl rfl) fun a hs => ?_
   refine ho 6 rfl ?_
   refine st_callR hs (ref23_Segment_ok h542 hw.dom (hw.envAt 1 rfl)) (do_call Tryz.call22 rfl) trivial rfl rfl ?_
   intro v552 Sv549 w a h550 h551 hs
   obtain ⟨p544, k545, c547, rfl, h553, h546⟩ := h551
   have hw := hw.callN h550 h553
   have hw := hw.addE (e := RowA c547 rv543.1) h546
   refine h_nx (hw.cs [1, 2, 3] [1] rfl rfl) fun hC => ?_
   refine h_st (C' := Cls [.box b7 [.int .i64 p1.Detector.Short, .int .i64 p1.Detector.Long, .int .i64 p1.Detector.On, .int .i64 p1.Detector.Off, .int .i64 p1.Back, .int .i64 p1.Level, .int .i64 p1.Floor] 26, .box b8 [.string s2.Network, .string s2.Station, .string s2.Location, .string s2.Channel] 41, .row p453 sv381.1.length k454 c452 66 9, .row p544 rv543.1.length k545 c547 66 9] [CeA b533 q531 [.int .i64 x527.Start, .int .i64 x527.First, .int .i64 x527.Rate.Num, .int .i64 x527.Rate.Den, .int .i64 x527.Error, .slice p538 x527.Samples.length k540]]) (fun _ h => by exact h.sub [0, 1, 2] (Sel.of rfl) (AllIn.of [0] rfl)) (hw.cs [1, 2, 3, 0] [1] rfl rfl) fun hC => ?_
   refine gm hs 7 rfl rfl rfl hC fun a hs => ?_
   refine gv hs 8 rfl rfl hC (fun w hC => y_extract rfl rfl) fun a hs => ?_
   refine gv hs 9 rfl rfl hC (fun w hC => y_extract rfl rfl) fun a hs => ?_
   refine gv hs 10 rfl rfl hC (fun w hC => y_assign rfl) fun a hs => ?_
   refine gv hs 11 rfl rfl hC (fun w hC => y_assign rfl) fun a hs => ?_
   refine h_done (by kernel_rfl) ?_
   exact ⟨Sv549, c547, k545, p544, (hs.wk rfl), (hw.ft [1, 2, 3, 0] [3, 4, 0] (by decide) rfl rfl)⟩
  rintro a w ⟨Sv548, c547, k545, p544, hs, hw⟩
  refine then_normal ?_
  refine wp_seq ?_
  refine sr ?_
  refine mv hs rfl rfl fun a hs => ?_
  refine sv hs (y_neq rfl rfl) rfl fun a hs => ?_
  refine nl ?_
  refine wp_cond_split (hs.ev rfl) (fun h555 => ?_) (fun h555 => ?_)
  ·have hsh := ite_t hsh h555
   refine sr ?_
   refine mv hs rfl rfl fun a hs => ?_
   refine av hs rfl rfl fun a hs => ?_
   refine av hs rfl rfl fun a hs => ?_
   refine nl ?_
   have hsh := oi hsh
   subst hsh
   have h556 := hd489 _ rfl
   subst h556
   have hw := hw.nilRow Pick 66
   refine wp_ret ?_
   refine then_ret ?_
   refine blk_ret ?_
   refine then_ret ?_
   refine then_ret ?_
   refine blk_ret ?_
   refine then_ret ?_
   exact ret2 hs rfl (rv_tmp rfl) (rv_tmp rfl) (hw.ret ⟨none, 0, [], rfl, (hw.outs [0] (by decide) rfl), (hw.envAt 0 rfl)⟩)
  have hsh := ite_f hsh h555
  refine wp_skip ?_
  refine then_normal ?_
  refine wp_region_lit ?_
  refine mv hs rfl rfl fun a hs => ?_
  refine mv hs rfl rfl fun a hs => ?_
  obtain ⟨l558, h557, hsh⟩ := bind_t hsh
  refine w_appendR (α := Pick) hs hw El29 2 rfl rfl rfl 1 rfl 3 rfl 2 rfl h557 rfl trivial ?_
  intro p559 k560 c561 a w hs hw
  refine av hs rfl rfl fun a hs => ?_
  refine wpList_nil ?_
  refine blk_normal ?_
  refine then_normal ?_
  refine wp_region_lit ?_
  refine mv hs rfl rfl fun a hs => ?_
  refine sv hs (y_add rfl rfl) rfl fun a hs => ?_
  obtain ⟨i563, h562, hsh⟩ := bind_t hsh
  refine sv hs (y_assignI rfl h562) rfl fun a hs => ?_
  refine nl ?_
  exact ⟨_, (Option.some.inj hsh).symm, c561, p559, k560, Sv548, (hs.wk rfl), (hw.ft [0, 1, 2] [1, 0] (by decide) rfl rfl)⟩
 have hsh := ite_f hsh h494
 obtain ⟨rv578, hsh, h579⟩ := map_t hsh
 have h579 := (hd489 _ h579.symm).symm
 subst h579
 refine wp_exit ?_
 refine then_exit ?_
 refine then_exit ?_
 refine blk_exit ?_
 refine then_normal ?_
 refine wp_seq ?_
 refine sr ?_
 refine mv hs rfl rfl fun a hs => ?_
 obtain ⟨rv565, h564, hsh⟩ := bind_t hsh
 obtain ⟨Sv570, hw⟩ := w_share (α := Pick) hw 2 rfl 1 rfl
 refine st_callR hs (ref23_Sort_ok h564 hw.dom (hw.envAt 0 rfl)) (do_call Tryz.call24 rfl) trivial rfl rfl ?_
 intro v574 Sv571 w a h572 h573 hs
 obtain ⟨p566, k567, c569, rfl, h575, h568⟩ := h573
 have hw := hw.callN h572 h575
 have hw := hw.addE (e := RowA c569 rv565) h568
 refine av hs rfl rfl fun a hs => ?_
 refine nl ?_
 refine sr ?_
 refine mv hs rfl rfl fun a hs => ?_
 refine sv hs (y_len Tryz.runUnderlying29 rfl) rfl fun a hs => ?_
 refine sv hs (y_gtr rfl rfl) rfl fun a hs => ?_
 refine nl ?_
 refine wp_cond_split (hs.ev rfl) (fun h577 => ?_) (fun h577 => ?_)
 ·have hsh := ite_t hsh h577
  refine sr ?_
  refine av hs rfl rfl fun a hs => ?_
  refine av hs rfl rfl fun a hs => ?_
  refine nl ?_
  have hsh := oi hsh
  subst hsh
  have hw := hw.nilRow Pick 66
  refine wp_ret ?_
  refine then_ret ?_
  exact ret2 hs rfl (rv_tmp rfl) (rv_tmp rfl) (hw.ret ⟨none, 0, [], rfl, (hw.outs [0] (by decide) rfl), (hw.envAt 0 rfl)⟩)
 have hsh := ite_f hsh h577
 refine wp_skip ?_
 refine then_normal ?_
 refine sr ?_
 refine mv hs rfl rfl fun a hs => ?_
 refine av hs rfl rfl fun a hs => ?_
 refine av hs rfl rfl fun a hs => ?_
 refine nl ?_
 have hsh := oi hsh
 subst hsh
 refine wp_ret ?_
 exact ret2 hs rfl (rv_tmp rfl) (rv_tmp rfl) (hw.ret ⟨p566, k567, c569, rfl, (hw.outs [0] (by decide) rfl), (hw.envAt 0 rfl)⟩)
abbrev ref23_Same_rd (w0 : World) (X : List Nat) (r : Bool) : (Nat → Prop) → World → Value → Prop := fun S w v => v = .bool r
set_option maxHeartbeats 4000000 in
set_option maxRecDepth 100000 in
theorem ref23_Same_ok {w0 : World} {S0 : Nat → Prop} {p2 : Option Addr} {k3 : Nat} {p6 : Option Addr} {k7 : Nat} {a1 : (List Pick)} {b5 : (List Pick)} {r : Bool} (hsh : ref23_Same a1 b5 = some r) (hS : ∀ b, S0 b → b < w0.heap.size) (h4 : (SlA p2 a1.length k3 a1).p S0 w0) (h8 : (SlA p6 b5.length k7 b5).p S0 w0) : Calls Tryz.prog 20 #[.slice p2 a1.length k3, .slice p6 b5.length k7] w0 (Ret ([]) w0 S0 (ref23_Same_rd w0 ([]) r)) := by
 refine calls_of_wp Tryz.func20 rfl ?_
 have hs := Sl.enter #[.slice p2 a1.length k3, .slice p6 b5.length k7] 26 [(0, .slice p2 a1.length k3), (1, .slice p6 b5.length k7)] rfl ⟨rfl, rfl, trivial⟩
 have hw := Wd.enter (E := []) hS (fun _ h => (by cases h))
 have hw := hw.addE h4
 have hw := hw.addE h8
 delta ref23_Same at hsh
 refine sr ?_
 refine av hs rfl rfl fun a hs => ?_
 refine nl ?_
 refine wp_seq ?_
 refine sr ?_
 refine mv hs rfl rfl fun a hs => ?_
 refine sv hs (y_len Tryz.runUnderlying29 rfl) rfl fun a hs => ?_
 refine mv hs rfl rfl fun a hs => ?_
 refine sv hs (y_len Tryz.runUnderlying29 rfl) rfl fun a hs => ?_
 refine sv hs (y_neq rfl rfl) rfl fun a hs => ?_
 refine nl ?_
 refine wp_cond_split (hs.ev rfl) (fun h10 => ?_) (fun h10 => ?_)
 ·have hsh := ite_t hsh h10
  refine sr ?_
  refine av hs rfl rfl fun a hs => ?_
  refine nl ?_
  have hsh := oi hsh
  subst hsh
  refine wp_ret ?_
  refine then_ret ?_
  exact ret1 hs rfl (rv_tmp rfl) (hw.ret rfl)
 have hsh := ite_f hsh h10
 refine wp_skip ?_
 refine then_normal ?_
 refine wp_seq ?_
 refine sr ?_
 refine av hs rfl rfl fun a hs => ?_
 refine nl ?_
 refine wp_block ?_
 refine wp_while (fun sv109 a w => ∃ (Sv173 : Nat → Prop), Sl 26 [(0, .slice p2 a1.length k3), (1, .slice p6 b5.length k7), (5, .int .i64 sv109)] a ∧ Wd ⟨w0, S0, []⟩ Sv173 [] [SlA p2 a1.length k3 a1, SlA p6 b5.length k7 b5] w) 0 hsh ⟨S0, (hs.wk rfl), (hw.ft [] [1, 0] (by decide) rfl rfl)⟩ ?_
 repeat clear hsh
 rintro sv109 a w tv206 ⟨Sv173, hs, hw⟩ hsh hd205
 delta ref23_Same_l2 at hsh
 refine wp_seq ?_
 refine sr ?_
 refine mv hs rfl rfl fun a hs => ?_
 refine mv hs rfl rfl fun a hs => ?_
 refine sv hs (y_len Tryz.runUnderlying29 rfl) rfl fun a hs => ?_
 refine sv hs (y_lss rfl rfl) rfl fun a hs => ?_
 refine nl ?_
 refine wp_cond_split (hs.ev rfl) (fun h210 => ?_) (fun h210 => ?_)
 ·have hsh := ite_t hsh h210
  refine wp_skip ?_
  refine then_normal ?_
  refine wp_seq ?_
  refine wp_block ?_
  refine wp_seq ?_
  obtain ⟨x241, h239, hsh⟩ := bind_t hsh
  obtain ⟨b247, o248, q245, c246, h249, h242, h243, h244, h240⟩ := hw.elemV 0 rfl h239
  have hsv250 := hs
  have hwv251 := hw
  subst h249
  have hs := hsv250
  have hw := hwv251
  obtain ⟨_, _, _, _, _, _, _, _, _, rfl, rfl, rfl, rfl, rfl, rfl, rfl, rfl, rfl, rfl⟩ := h240
  have hw := hw.addE h244
  obtain ⟨x254, h252, hsh⟩ := bind_t hsh
  obtain ⟨b260, o261, q258, c259, h262, h255, h256, h257, h253⟩ := hw.elemV 2 rfl h252
  have hsv263 := hs
  have hwv264 := hw
  subst h262
  have hs := hsv263
  have hw := hwv264
  obtain ⟨_, _, _, _, _, _, _, _, _, rfl, rfl, rfl, rfl, rfl, rfl, rfl, rfl, rfl, rfl⟩ := h253
  have hw := hw.addE h257
  refine wp_only (fun a w => ∃ (Sv265 : Nat → Prop), Sl 26 [(0, .slice (some ⟨b247, o248, none⟩) a1.length k3), (1, .slice (some ⟨b260, o261, none⟩) b5.length k7), (5, .int .i64 sv109), (25, .bool (!(((x241.Source.Network == x254.Source.Network) && ((x241.Source.Station == x254.Source.Station) && ((x241.Source.Location == x254.Source.Location) && ((x241.Source.Channel == x254.Source.Channel) && true)))) && ((x241.Time == x254.Time) && ((x241.Early == x254.Early) && ((x241.Late == x254.Late) && ((x241.Amplitude == x254.Amplitude) && ((x241.Polarity == x254.Polarity) && true))))))))] a ∧ Wd ⟨w0, S0, []⟩ Sv265 [] [SlA (some ⟨b247, o248, none⟩) a1.length k3 a1, SlA (some ⟨b260, o261, none⟩) b5.length k7 b5] w) ?_ ?_
  ·refine h_b (C := Cls [] [CeA b260 q258 [.string x254.Source.Network, .string x254.Source.Station, .string x254.Source.Location, .string x254.Source.Channel, .int .i64 x254.Time, .int .i64 x254.Early, .int .i64 x254.Late, .int .i64 x254.Amplitude, .int .i64 x254.Polarity], CeA b247 q245 [.string x241.Source.Network, .string x241.Source.Station, .string x241.Source.Location, .string x241.Source.Channel, .int .i64 x241.Time, .int .i64 x241.Early, .int .i64 x241.Late, .int .i64 x241.Amplitude, .int .i64 x241.Polarity]]) (by kernel_rfl) rfl (hw.drew.cs [] [0, 1] rfl rfl) fun hC => ?_
   have hw := hw.drew
   refine gm hs 0 rfl rfl rfl hC fun a hs => ?_
   refine gm hs 1 rfl rfl rfl hC fun a hs => ?_
   refine gv hs 2 rfl rfl hC (fun w hC => y_indexAt Tryz.runUnderlying29 Tryz.sizeOf66 rfl rfl h242.1 h242.2 h243) fun a hs => ?_
   refine gv hs 3 rfl rfl hC (fun w hC => y_loadEA (j := 0) (hC.ceAt 1 rfl) rfl Tryz.isAgg66 Tryz.sizeOf66 rfl rfl) fun a hs => ?_
   refine gm hs 4 rfl rfl rfl hC fun a hs => ?_
   refine gm hs 5 rfl rfl rfl hC fun a hs => ?_
   refine gv hs 6 rfl rfl hC (fun w hC => y_indexAt Tryz.runUnderlying29 Tryz.sizeOf66 rfl rfl h255.1 h255.2 h256) fun a hs => ?_
   refine gv hs 7 rfl rfl hC (fun w hC => y_loadEA (j := 0) (hC.ceAt 0 rfl) rfl Tryz.isAgg66 Tryz.sizeOf66 rfl rfl) fun a hs => ?_
   refine gv hs 8 rfl rfl hC (fun w hC => y_neqA (by kernel_rfl) rfl rfl (eqv_struct Tryz.runUnderlying66 (by kernel_rfl) (EqF.consA rfl Tryz.isAgg41 Tryz.sizeOf41 rfl rfl (eqv_struct Tryz.runUnderlying41 (by kernel_rfl) (EqF.cons1 rfl Tryz.isAgg9 rfl rfl (eqv_str Tryz.runUnderlying9) (EqF.cons1 rfl Tryz.isAgg9 rfl rfl (eqv_str Tryz.runUnderlying9) (EqF.cons1 rfl Tryz.isAgg9 rfl rfl (eqv_str Tryz.runUnderlying9) (EqF.cons1 rfl Tryz.isAgg9 rfl rfl (eqv_str Tryz.runUnderlying9) EqF.nil))))) (EqF.cons1 rfl Tryz.isAgg3 rfl rfl (eqv_int Tryz.runUnderlying3) (EqF.cons1 rfl Tryz.isAgg3 rfl rfl (eqv_int Tryz.runUnderlying3) (EqF.cons1 rfl Tryz.isAgg3 rfl rfl (eqv_int Tryz.runUnderlying3) (EqF.cons1 rfl Tryz.isAgg3 rfl rfl (eqv_int Tryz.runUnderlying3) (EqF.cons1 rfl Tryz.isAgg3 rfl rfl (eqv_int Tryz.runUnderlying3) EqF.nil)))))))) fun a hs => ?_
   refine h_done (by kernel_rfl) ?_
   exact ⟨Sv173, (hs.wk rfl), (hw.ft [] [2, 3] (by decide) rfl rfl)⟩
  rintro a w ⟨Sv265, hs, hw⟩
  refine then_normal ?_
  refine wp_cond_split (hs.ev rfl) (fun h267 => ?_) (fun h267 => ?_)
  ·have hsh := ite_t hsh h267
   refine sr ?_
   refine av hs rfl rfl fun a hs => ?_
   refine nl ?_
   have hsh := oi hsh
   subst hsh
   have h268 := hd205 _ rfl
   subst h268
   refine wp_ret ?_
   refine blk_ret ?_
   refine then_ret ?_
   refine then_ret ?_
   refine blk_ret ?_
   refine then_ret ?_
   exact ret1 hs rfl (rv_tmp rfl) (hw.ret rfl)
  have hsh := ite_f hsh h267
  refine wp_skip ?_
  refine blk_normal ?_
  refine then_normal ?_
  refine wp_region_lit ?_
  refine mv hs rfl rfl fun a hs => ?_
  refine sv hs (y_add rfl rfl) rfl fun a hs => ?_
  obtain ⟨i270, h269, hsh⟩ := bind_t hsh
  refine sv hs (y_assignI rfl h269) rfl fun a hs => ?_
  refine nl ?_
  exact ⟨_, (Option.some.inj hsh).symm, Sv265, (hs.wk rfl), (hw.ft [] [0, 1] (by decide) rfl rfl)⟩
 have hsh := ite_f hsh h210
 obtain ⟨rv271, hsh, h272⟩ := map_t hsh
 have h272 := (hd205 _ h272.symm).symm
 subst h272
 refine wp_exit ?_
 refine then_exit ?_
 refine then_exit ?_
 refine blk_exit ?_
 refine then_normal ?_
 refine sr ?_
 refine av hs rfl rfl fun a hs => ?_
 refine nl ?_
 have hsh := oi hsh
 subst hsh
 refine wp_ret ?_
 exact ret1 hs rfl (rv_tmp rfl) (hw.ret rfl)
abbrev picker_ValidPick_rd (w0 : World) (X : List Nat) (r : Bool) : (Nat → Prop) → World → Value → Prop := fun S w v => v = .bool r
set_option maxHeartbeats 4000000 in
set_option maxRecDepth 100000 in
theorem picker_ValidPick_ok {w0 : World} {S0 : Nat → Prop} {p1 : Pick} {r : Bool} (hsh : picker_ValidPick p1 = some r) (hS : ∀ b, S0 b → b < w0.heap.size) : Calls Tryz.prog 25 #[.agg #[.string p1.Source.Network, .string p1.Source.Station, .string p1.Source.Location, .string p1.Source.Channel, .int .i64 p1.Time, .int .i64 p1.Early, .int .i64 p1.Late, .int .i64 p1.Amplitude, .int .i64 p1.Polarity]] w0 (Ret ([]) w0 S0 (picker_ValidPick_rd w0 ([]) r)) := by
 refine calls_of_wp Tryz.func25 rfl ?_
 have hs := Sl.enter #[.agg #[.string p1.Source.Network, .string p1.Source.Station, .string p1.Source.Location, .string p1.Source.Channel, .int .i64 p1.Time, .int .i64 p1.Early, .int .i64 p1.Late, .int .i64 p1.Amplitude, .int .i64 p1.Polarity]] 40 [(0, .agg #[.string p1.Source.Network, .string p1.Source.Station, .string p1.Source.Location, .string p1.Source.Channel, .int .i64 p1.Time, .int .i64 p1.Early, .int .i64 p1.Late, .int .i64 p1.Amplitude, .int .i64 p1.Polarity])] rfl ⟨rfl, trivial⟩
 have hw := Wd.enter (E := []) hS (fun _ h => (by cases h))
 delta picker_ValidPick at hsh
 refine sr ?_
 refine w_box (cs := [.string p1.Source.Network, .string p1.Source.Station, .string p1.Source.Location, .string p1.Source.Channel, .int .i64 p1.Time, .int .i64 p1.Early, .int .i64 p1.Late, .int .i64 p1.Amplitude, .int .i64 p1.Polarity]) hs hw rfl rfl rfl trivial ?_
 intro b2 a w hs hw
 refine av hs rfl rfl fun a hs => ?_
 refine nl ?_
 refine sr ?_
 refine sv hs (y_fieldAddr (o' := 0) Tryz.runUnderlying66 rfl Tryz.sizeOf41 rfl rfl rfl) rfl fun a hs => ?_
 refine sv hs (y_loadBA (hw.ownAt 0 rfl) rfl Tryz.isAgg41 Tryz.sizeOf41 rfl rfl) rfl fun a hs => ?_
 obtain ⟨rv4, h3, hsh⟩ := bind_t hsh
 refine st_callR hs (source_Valid_ok h3 hw.bdom) (do_call Tryz.call52 rfl) trivial rfl rfl ?_
 intro v8 Sv5 w a h6 h7 hs
 subst h7
 have hw := hw.callB h6
 refine mv hs rfl rfl fun a hs => ?_
 refine wpl_join 4 (fun a w1 => w = w1 ∧ Sl 40 [(1, .pointer (some ⟨b2, 0, none⟩)), (10, .bool (rv4 && (decide (0 ≤ p1.Early))))] a) ?_ ?_
 ·rcases Bool.eq_false_or_eq_true rv4 with h10 | h10
  ·have hs := hs.fix 6 (.bool true) rfl (vb h10)
   refine st_val hs (y_fieldAddr (o' := 5) Tryz.runUnderlying66 rfl Tryz.sizeOf3 rfl rfl rfl) ⟨_, rfl, rfl⟩ rfl rfl fun a hs => ?_
   refine st_val hs (y_loadB1 (hw.ownAt 0 rfl) rfl Tryz.isAgg3 rfl) ⟨_, rfl, rfl⟩ rfl rfl fun a hs => ?_
   refine st_val hs (y_geq rfl rfl) ⟨_, rfl, rfl⟩ rfl rfl fun a hs => ?_
   refine sv hs (y_pickT rfl rfl) rfl fun a hs => ?_
   refine nl ?_
   exact ⟨rfl, (hs.fix 10 (.bool (rv4 && (decide (0 ≤ p1.Early)))) rfl (and_t h10)).weaken _ ⟨rfl, rfl, trivial⟩⟩
  have hs := hs.fix 6 (.bool false) rfl (vb h10)
  refine st_skip hs rfl rfl rfl rfl rfl fun a hs => ?_
  refine st_skip hs rfl rfl rfl rfl rfl fun a hs => ?_
  refine st_skip hs rfl rfl rfl rfl rfl fun a hs => ?_
  refine sv hs (y_pickF rfl rfl) rfl fun a hs => ?_
  refine nl ?_
  exact ⟨rfl, (hs.fix 10 (.bool (rv4 && (decide (0 ≤ p1.Early)))) rfl (and_f h10)).weaken _ ⟨rfl, rfl, trivial⟩⟩
 rintro a w1 ⟨h51, hs⟩
 subst h51
 refine mv hs rfl rfl fun a hs => ?_
 refine wpl_join 6 (fun a w1 => w = w1 ∧ Sl 40 [(1, .pointer (some ⟨b2, 0, none⟩)), (17, .bool ((rv4 && (decide (0 ≤ p1.Early))) && (decide (p1.Early ≤ p1.Time))))] a) ?_ ?_
 ·rcases Bool.eq_false_or_eq_true (rv4 && (decide (0 ≤ p1.Early))) with h11 | h11
  ·have hs := hs.fix 11 (.bool true) rfl (vb h11)
   refine st_val hs (y_fieldAddr (o' := 5) Tryz.runUnderlying66 rfl Tryz.sizeOf3 rfl rfl rfl) ⟨_, rfl, rfl⟩ rfl rfl fun a hs => ?_
   refine st_val hs (y_loadB1 (hw.ownAt 0 rfl) rfl Tryz.isAgg3 rfl) ⟨_, rfl, rfl⟩ rfl rfl fun a hs => ?_
   refine st_val hs (y_fieldAddr (o' := 4) Tryz.runUnderlying66 rfl Tryz.sizeOf3 rfl rfl rfl) ⟨_, rfl, rfl⟩ rfl rfl fun a hs => ?_
   refine st_val hs (y_loadB1 (hw.ownAt 0 rfl) rfl Tryz.isAgg3 rfl) ⟨_, rfl, rfl⟩ rfl rfl fun a hs => ?_
   refine st_val hs (y_leq rfl rfl) ⟨_, rfl, rfl⟩ rfl rfl fun a hs => ?_
   refine sv hs (y_pickT rfl rfl) rfl fun a hs => ?_
   refine nl ?_
   exact ⟨rfl, (hs.fix 17 (.bool ((rv4 && (decide (0 ≤ p1.Early))) && (decide (p1.Early ≤ p1.Time)))) rfl (and_t h11)).weaken _ ⟨rfl, rfl, trivial⟩⟩
  have hs := hs.fix 11 (.bool false) rfl (vb h11)
  refine st_skip hs rfl rfl rfl rfl rfl fun a hs => ?_
  refine st_skip hs rfl rfl rfl rfl rfl fun a hs => ?_
  refine st_skip hs rfl rfl rfl rfl rfl fun a hs => ?_
  refine st_skip hs rfl rfl rfl rfl rfl fun a hs => ?_
  refine st_skip hs rfl rfl rfl rfl rfl fun a hs => ?_
  refine sv hs (y_pickF rfl rfl) rfl fun a hs => ?_
  refine nl ?_
  exact ⟨rfl, (hs.fix 17 (.bool ((rv4 && (decide (0 ≤ p1.Early))) && (decide (p1.Early ≤ p1.Time)))) rfl (and_f h11)).weaken _ ⟨rfl, rfl, trivial⟩⟩
 rintro a w1 ⟨h50, hs⟩
 subst h50
 refine mv hs rfl rfl fun a hs => ?_
 refine wpl_join 6 (fun a w1 => w = w1 ∧ Sl 40 [(1, .pointer (some ⟨b2, 0, none⟩)), (24, .bool (((rv4 && (decide (0 ≤ p1.Early))) && (decide (p1.Early ≤ p1.Time))) && (decide (p1.Time ≤ p1.Late))))] a) ?_ ?_
 ·rcases Bool.eq_false_or_eq_true ((rv4 && (decide (0 ≤ p1.Early))) && (decide (p1.Early ≤ p1.Time))) with h12 | h12
  ·have hs := hs.fix 18 (.bool true) rfl (vb h12)
   refine st_val hs (y_fieldAddr (o' := 4) Tryz.runUnderlying66 rfl Tryz.sizeOf3 rfl rfl rfl) ⟨_, rfl, rfl⟩ rfl rfl fun a hs => ?_
   refine st_val hs (y_loadB1 (hw.ownAt 0 rfl) rfl Tryz.isAgg3 rfl) ⟨_, rfl, rfl⟩ rfl rfl fun a hs => ?_
   refine st_val hs (y_fieldAddr (o' := 6) Tryz.runUnderlying66 rfl Tryz.sizeOf3 rfl rfl rfl) ⟨_, rfl, rfl⟩ rfl rfl fun a hs => ?_
   refine st_val hs (y_loadB1 (hw.ownAt 0 rfl) rfl Tryz.isAgg3 rfl) ⟨_, rfl, rfl⟩ rfl rfl fun a hs => ?_
   refine st_val hs (y_leq rfl rfl) ⟨_, rfl, rfl⟩ rfl rfl fun a hs => ?_
   refine sv hs (y_pickT rfl rfl) rfl fun a hs => ?_
   refine nl ?_
   exact ⟨rfl, (hs.fix 24 (.bool (((rv4 && (decide (0 ≤ p1.Early))) && (decide (p1.Early ≤ p1.Time))) && (decide (p1.Time ≤ p1.Late)))) rfl (and_t h12)).weaken _ ⟨rfl, rfl, trivial⟩⟩
  have hs := hs.fix 18 (.bool false) rfl (vb h12)
  refine st_skip hs rfl rfl rfl rfl rfl fun a hs => ?_
  refine st_skip hs rfl rfl rfl rfl rfl fun a hs => ?_
  refine st_skip hs rfl rfl rfl rfl rfl fun a hs => ?_
  refine st_skip hs rfl rfl rfl rfl rfl fun a hs => ?_
  refine st_skip hs rfl rfl rfl rfl rfl fun a hs => ?_
  refine sv hs (y_pickF rfl rfl) rfl fun a hs => ?_
  refine nl ?_
  exact ⟨rfl, (hs.fix 24 (.bool (((rv4 && (decide (0 ≤ p1.Early))) && (decide (p1.Early ≤ p1.Time))) && (decide (p1.Time ≤ p1.Late)))) rfl (and_f h12)).weaken _ ⟨rfl, rfl, trivial⟩⟩
 rintro a w1 ⟨h49, hs⟩
 subst h49
 refine mv hs rfl rfl fun a hs => ?_
 refine wpl_join 4 (fun a w1 => w = w1 ∧ Sl 40 [(1, .pointer (some ⟨b2, 0, none⟩)), (29, .bool ((((rv4 && (decide (0 ≤ p1.Early))) && (decide (p1.Early ≤ p1.Time))) && (decide (p1.Time ≤ p1.Late))) && (decide (p1.Late ≤ 18014398509481984))))] a) ?_ ?_
 ·rcases Bool.eq_false_or_eq_true (((rv4 && (decide (0 ≤ p1.Early))) && (decide (p1.Early ≤ p1.Time))) && (decide (p1.Time ≤ p1.Late))) with h13 | h13
  ·have hs := hs.fix 25 (.bool true) rfl (vb h13)
   refine st_val hs (y_fieldAddr (o' := 6) Tryz.runUnderlying66 rfl Tryz.sizeOf3 rfl rfl rfl) ⟨_, rfl, rfl⟩ rfl rfl fun a hs => ?_
   refine st_val hs (y_loadB1 (hw.ownAt 0 rfl) rfl Tryz.isAgg3 rfl) ⟨_, rfl, rfl⟩ rfl rfl fun a hs => ?_
   refine st_val hs (y_leq rfl rfl) ⟨_, rfl, rfl⟩ rfl rfl fun a hs => ?_
   refine sv hs (y_pickT rfl rfl) rfl fun a hs => ?_
   refine nl ?_
   exact ⟨rfl, (hs.fix 29 (.bool ((((rv4 && (decide (0 ≤ p1.Early))) && (decide (p1.Early ≤ p1.Time))) && (decide (p1.Time ≤ p1.Late))) && (decide (p1.Late ≤ 18014398509481984)))) rfl (and_t h13)).weaken _ ⟨rfl, rfl, trivial⟩⟩
  have hs := hs.fix 25 (.bool false) rfl (vb h13)
  refine st_skip hs rfl rfl rfl rfl rfl fun a hs => ?_
  refine st_skip hs rfl rfl rfl rfl rfl fun a hs => ?_
  refine st_skip hs rfl rfl rfl rfl rfl fun a hs => ?_
  refine sv hs (y_pickF rfl rfl) rfl fun a hs => ?_
  refine nl ?_
  exact ⟨rfl, (hs.fix 29 (.bool ((((rv4 && (decide (0 ≤ p1.Early))) && (decide (p1.Early ≤ p1.Time))) && (decide (p1.Time ≤ p1.Late))) && (decide (p1.Late ≤ 18014398509481984)))) rfl (and_f h13)).weaken _ ⟨rfl, rfl, trivial⟩⟩
 rintro a w1 ⟨h48, hs⟩
 subst h48
 refine mv hs rfl rfl fun a hs => ?_
 obtain ⟨c22, hc22, hsh⟩ := bind_t hsh
 refine wpl_join 4 (fun a w => ∃ (Sv23 : Nat → Prop), Sl 40 [(1, .pointer (some ⟨b2, 0, none⟩)), (34, .bool c22)] a ∧ Wd ⟨w0, S0, []⟩ Sv23 [.box b2 [.string p1.Source.Network, .string p1.Source.Station, .string p1.Source.Location, .string p1.Source.Channel, .int .i64 p1.Time, .int .i64 p1.Early, .int .i64 p1.Late, .int .i64 p1.Amplitude, .int .i64 p1.Polarity] 66] [] w) ?_ ?_
 ·rcases Bool.eq_false_or_eq_true ((((rv4 && (decide (0 ≤ p1.Early))) && (decide (p1.Early ≤ p1.Time))) && (decide (p1.Time ≤ p1.Late))) && (decide (p1.Late ≤ 18014398509481984))) with h21 | h21
  ·have hs := hs.fix 30 (.bool true) rfl (vb h21)
   have hsh := ite_t hc22 h21
   refine st_val hs (y_fieldAddr (o' := 7) Tryz.runUnderlying66 rfl Tryz.sizeOf3 rfl rfl rfl) ⟨_, rfl, rfl⟩ rfl rfl fun a hs => ?_
   refine st_val hs (y_loadB1 (hw.ownAt 0 rfl) rfl Tryz.isAgg3 rfl) ⟨_, rfl, rfl⟩ rfl rfl fun a hs => ?_
   obtain ⟨rv25, h24, hsh⟩ := bind_t hsh
   refine st_callR hs (picker_in_ok h24 hw.bdom) (do_call Tryz.call36 rfl) ⟨_, rfl, rfl⟩ rfl rfl ?_
   intro v29 Sv26 w a h27 h28 hs
   subst h28
   have hw := hw.callB h27
   refine sv hs (y_pickT rfl rfl) rfl fun a hs => ?_
   refine wpList_nil ?_
   have hsh := oi hsh
   subst hsh
   refine then_normal ?_
   exact ⟨S0, (hs.wk rfl), (hw.ft [0] [] (by decide) rfl rfl)⟩
  have hs := hs.fix 30 (.bool false) rfl (vb h21)
  have hsh := ite_f hc22 h21
  refine st_skip hs rfl rfl rfl rfl rfl fun a hs => ?_
  refine st_skip hs rfl rfl rfl rfl rfl fun a hs => ?_
  refine st_skip hs rfl rfl rfl rfl rfl fun a hs => ?_
  refine sv hs (y_pickF rfl rfl) rfl fun a hs => ?_
  refine wpList_nil ?_
  have hsh := oi hsh
  subst hsh
  refine then_normal ?_
  exact ⟨S0, (hs.wk rfl), (hw.ft [0] [] (by decide) rfl rfl)⟩
 rintro a w ⟨Sv23, hs, hw⟩
 refine mv hs rfl rfl fun a hs => ?_
 obtain ⟨c39, hc39, hsh⟩ := bind_t hsh
 refine wpl_join 4 (fun a w => ∃ (Sv40 : Nat → Prop), Sl 40 [(39, .bool c39)] a ∧ Wd ⟨w0, S0, []⟩ Sv40 [] [] w) ?_ ?_
 ·rcases Bool.eq_false_or_eq_true c22 with h38 | h38
  ·have hs := hs.fix 35 (.bool true) rfl (vb h38)
   have hsh := ite_t hc39 h38
   refine st_val hs (y_fieldAddr (o' := 8) Tryz.runUnderlying66 rfl Tryz.sizeOf3 rfl rfl rfl) ⟨_, rfl, rfl⟩ rfl rfl fun a hs => ?_
   refine st_val hs (y_loadB1 (hw.ownAt 0 rfl) rfl Tryz.isAgg3 rfl) ⟨_, rfl, rfl⟩ rfl rfl fun a hs => ?_
   obtain ⟨rv42, h41, hsh⟩ := bind_t hsh
   refine st_callR hs (picker_in_ok h41 hw.bdom) (do_call Tryz.call36 rfl) ⟨_, rfl, rfl⟩ rfl rfl ?_
   intro v46 Sv43 w a h44 h45 hs
   subst h45
   have hw := hw.callB h44
   refine sv hs (y_pickT rfl rfl) rfl fun a hs => ?_
   refine wpList_nil ?_
   have hsh := oi hsh
   subst hsh
   refine then_normal ?_
   exact ⟨Sv23, (hs.wk rfl), (hw.ft [] [] (by decide) rfl rfl)⟩
  have hs := hs.fix 35 (.bool false) rfl (vb h38)
  have hsh := ite_f hc39 h38
  refine st_skip hs rfl rfl rfl rfl rfl fun a hs => ?_
  refine st_skip hs rfl rfl rfl rfl rfl fun a hs => ?_
  refine st_skip hs rfl rfl rfl rfl rfl fun a hs => ?_
  refine sv hs (y_pickF rfl rfl) rfl fun a hs => ?_
  refine wpList_nil ?_
  have hsh := oi hsh
  subst hsh
  refine then_normal ?_
  exact ⟨Sv23, (hs.wk rfl), (hw.ft [] [] (by decide) rfl rfl)⟩
 rintro a w ⟨Sv40, hs, hw⟩
 refine av hs rfl rfl fun a hs => ?_
 refine nl ?_
 have hsh := oi hsh
 subst hsh
 refine wp_ret ?_
 exact ret1 hs rfl (rv_tmp rfl) (hw.ret rfl)
abbrev ref23_ValidPick_rd (w0 : World) (X : List Nat) (r : Bool) : (Nat → Prop) → World → Value → Prop := fun S w v => v = .bool r
set_option maxHeartbeats 4000000 in
set_option maxRecDepth 100000 in
theorem ref23_ValidPick_ok {w0 : World} {S0 : Nat → Prop} {p1 : Pick} {r : Bool} (hsh : ref23_ValidPick p1 = some r) (hS : ∀ b, S0 b → b < w0.heap.size) : Calls Tryz.prog 26 #[.agg #[.string p1.Source.Network, .string p1.Source.Station, .string p1.Source.Location, .string p1.Source.Channel, .int .i64 p1.Time, .int .i64 p1.Early, .int .i64 p1.Late, .int .i64 p1.Amplitude, .int .i64 p1.Polarity]] w0 (Ret ([]) w0 S0 (ref23_ValidPick_rd w0 ([]) r)) := by
 refine calls_of_wp Tryz.func26 rfl ?_
 have hs := Sl.enter #[.agg #[.string p1.Source.Network, .string p1.Source.Station, .string p1.Source.Location, .string p1.Source.Channel, .int .i64 p1.Time, .int .i64 p1.Early, .int .i64 p1.Late, .int .i64 p1.Amplitude, .int .i64 p1.Polarity]] 40 [(0, .agg #[.string p1.Source.Network, .string p1.Source.Station, .string p1.Source.Location, .string p1.Source.Channel, .int .i64 p1.Time, .int .i64 p1.Early, .int .i64 p1.Late, .int .i64 p1.Amplitude, .int .i64 p1.Polarity])] rfl ⟨rfl, trivial⟩
 have hw := Wd.enter (E := []) hS (fun _ h => (by cases h))
 delta ref23_ValidPick at hsh
 refine sr ?_
 refine w_box (cs := [.string p1.Source.Network, .string p1.Source.Station, .string p1.Source.Location, .string p1.Source.Channel, .int .i64 p1.Time, .int .i64 p1.Early, .int .i64 p1.Late, .int .i64 p1.Amplitude, .int .i64 p1.Polarity]) hs hw rfl rfl rfl trivial ?_
 intro b2 a w hs hw
 refine av hs rfl rfl fun a hs => ?_
 refine nl ?_
 refine sr ?_
 refine sv hs (y_fieldAddr (o' := 0) Tryz.runUnderlying66 rfl Tryz.sizeOf41 rfl rfl rfl) rfl fun a hs => ?_
 refine sv hs (y_loadBA (hw.ownAt 0 rfl) rfl Tryz.isAgg41 Tryz.sizeOf41 rfl rfl) rfl fun a hs => ?_
 obtain ⟨rv4, h3, hsh⟩ := bind_t hsh
 refine st_callR hs (ref03_Valid_ok h3 hw.bdom) (do_call Tryz.call43 rfl) trivial rfl rfl ?_
 intro v8 Sv5 w a h6 h7 hs
 subst h7
 have hw := hw.callB h6
 refine mv hs rfl rfl fun a hs => ?_
 refine wpl_join 4 (fun a w1 => w = w1 ∧ Sl 40 [(1, .pointer (some ⟨b2, 0, none⟩)), (10, .bool (rv4 && (decide (0 ≤ p1.Early))))] a) ?_ ?_
 ·rcases Bool.eq_false_or_eq_true rv4 with h10 | h10
  ·have hs := hs.fix 6 (.bool true) rfl (vb h10)
   refine st_val hs (y_fieldAddr (o' := 5) Tryz.runUnderlying66 rfl Tryz.sizeOf3 rfl rfl rfl) ⟨_, rfl, rfl⟩ rfl rfl fun a hs => ?_
   refine st_val hs (y_loadB1 (hw.ownAt 0 rfl) rfl Tryz.isAgg3 rfl) ⟨_, rfl, rfl⟩ rfl rfl fun a hs => ?_
   refine st_val hs (y_geq rfl rfl) ⟨_, rfl, rfl⟩ rfl rfl fun a hs => ?_
   refine sv hs (y_pickT rfl rfl) rfl fun a hs => ?_
   refine nl ?_
   exact ⟨rfl, (hs.fix 10 (.bool (rv4 && (decide (0 ≤ p1.Early)))) rfl (and_t h10)).weaken _ ⟨rfl, rfl, trivial⟩⟩
  have hs := hs.fix 6 (.bool false) rfl (vb h10)
  refine st_skip hs rfl rfl rfl rfl rfl fun a hs => ?_
  refine st_skip hs rfl rfl rfl rfl rfl fun a hs => ?_
  refine st_skip hs rfl rfl rfl rfl rfl fun a hs => ?_
  refine sv hs (y_pickF rfl rfl) rfl fun a hs => ?_
  refine nl ?_
  exact ⟨rfl, (hs.fix 10 (.bool (rv4 && (decide (0 ≤ p1.Early)))) rfl (and_f h10)).weaken _ ⟨rfl, rfl, trivial⟩⟩
 rintro a w1 ⟨h51, hs⟩
 subst h51
 refine mv hs rfl rfl fun a hs => ?_
 refine wpl_join 6 (fun a w1 => w = w1 ∧ Sl 40 [(1, .pointer (some ⟨b2, 0, none⟩)), (17, .bool ((rv4 && (decide (0 ≤ p1.Early))) && (decide (p1.Early ≤ p1.Time))))] a) ?_ ?_
 ·rcases Bool.eq_false_or_eq_true (rv4 && (decide (0 ≤ p1.Early))) with h11 | h11
  ·have hs := hs.fix 11 (.bool true) rfl (vb h11)
   refine st_val hs (y_fieldAddr (o' := 5) Tryz.runUnderlying66 rfl Tryz.sizeOf3 rfl rfl rfl) ⟨_, rfl, rfl⟩ rfl rfl fun a hs => ?_
   refine st_val hs (y_loadB1 (hw.ownAt 0 rfl) rfl Tryz.isAgg3 rfl) ⟨_, rfl, rfl⟩ rfl rfl fun a hs => ?_
   refine st_val hs (y_fieldAddr (o' := 4) Tryz.runUnderlying66 rfl Tryz.sizeOf3 rfl rfl rfl) ⟨_, rfl, rfl⟩ rfl rfl fun a hs => ?_
   refine st_val hs (y_loadB1 (hw.ownAt 0 rfl) rfl Tryz.isAgg3 rfl) ⟨_, rfl, rfl⟩ rfl rfl fun a hs => ?_
   refine st_val hs (y_leq rfl rfl) ⟨_, rfl, rfl⟩ rfl rfl fun a hs => ?_
   refine sv hs (y_pickT rfl rfl) rfl fun a hs => ?_
   refine nl ?_
   exact ⟨rfl, (hs.fix 17 (.bool ((rv4 && (decide (0 ≤ p1.Early))) && (decide (p1.Early ≤ p1.Time)))) rfl (and_t h11)).weaken _ ⟨rfl, rfl, trivial⟩⟩
  have hs := hs.fix 11 (.bool false) rfl (vb h11)
  refine st_skip hs rfl rfl rfl rfl rfl fun a hs => ?_
  refine st_skip hs rfl rfl rfl rfl rfl fun a hs => ?_
  refine st_skip hs rfl rfl rfl rfl rfl fun a hs => ?_
  refine st_skip hs rfl rfl rfl rfl rfl fun a hs => ?_
  refine st_skip hs rfl rfl rfl rfl rfl fun a hs => ?_
  refine sv hs (y_pickF rfl rfl) rfl fun a hs => ?_
  refine nl ?_
  exact ⟨rfl, (hs.fix 17 (.bool ((rv4 && (decide (0 ≤ p1.Early))) && (decide (p1.Early ≤ p1.Time)))) rfl (and_f h11)).weaken _ ⟨rfl, rfl, trivial⟩⟩
 rintro a w1 ⟨h50, hs⟩
 subst h50
 refine mv hs rfl rfl fun a hs => ?_
 refine wpl_join 6 (fun a w1 => w = w1 ∧ Sl 40 [(1, .pointer (some ⟨b2, 0, none⟩)), (24, .bool (((rv4 && (decide (0 ≤ p1.Early))) && (decide (p1.Early ≤ p1.Time))) && (decide (p1.Time ≤ p1.Late))))] a) ?_ ?_
 ·rcases Bool.eq_false_or_eq_true ((rv4 && (decide (0 ≤ p1.Early))) && (decide (p1.Early ≤ p1.Time))) with h12 | h12
  ·have hs := hs.fix 18 (.bool true) rfl (vb h12)
   refine st_val hs (y_fieldAddr (o' := 4) Tryz.runUnderlying66 rfl Tryz.sizeOf3 rfl rfl rfl) ⟨_, rfl, rfl⟩ rfl rfl fun a hs => ?_
   refine st_val hs (y_loadB1 (hw.ownAt 0 rfl) rfl Tryz.isAgg3 rfl) ⟨_, rfl, rfl⟩ rfl rfl fun a hs => ?_
   refine st_val hs (y_fieldAddr (o' := 6) Tryz.runUnderlying66 rfl Tryz.sizeOf3 rfl rfl rfl) ⟨_, rfl, rfl⟩ rfl rfl fun a hs => ?_
   refine st_val hs (y_loadB1 (hw.ownAt 0 rfl) rfl Tryz.isAgg3 rfl) ⟨_, rfl, rfl⟩ rfl rfl fun a hs => ?_
   refine st_val hs (y_leq rfl rfl) ⟨_, rfl, rfl⟩ rfl rfl fun a hs => ?_
   refine sv hs (y_pickT rfl rfl) rfl fun a hs => ?_
   refine nl ?_
   exact ⟨rfl, (hs.fix 24 (.bool (((rv4 && (decide (0 ≤ p1.Early))) && (decide (p1.Early ≤ p1.Time))) && (decide (p1.Time ≤ p1.Late)))) rfl (and_t h12)).weaken _ ⟨rfl, rfl, trivial⟩⟩
  have hs := hs.fix 18 (.bool false) rfl (vb h12)
  refine st_skip hs rfl rfl rfl rfl rfl fun a hs => ?_
  refine st_skip hs rfl rfl rfl rfl rfl fun a hs => ?_
  refine st_skip hs rfl rfl rfl rfl rfl fun a hs => ?_
  refine st_skip hs rfl rfl rfl rfl rfl fun a hs => ?_
  refine st_skip hs rfl rfl rfl rfl rfl fun a hs => ?_
  refine sv hs (y_pickF rfl rfl) rfl fun a hs => ?_
  refine nl ?_
  exact ⟨rfl, (hs.fix 24 (.bool (((rv4 && (decide (0 ≤ p1.Early))) && (decide (p1.Early ≤ p1.Time))) && (decide (p1.Time ≤ p1.Late)))) rfl (and_f h12)).weaken _ ⟨rfl, rfl, trivial⟩⟩
 rintro a w1 ⟨h49, hs⟩
 subst h49
 refine mv hs rfl rfl fun a hs => ?_
 refine wpl_join 4 (fun a w1 => w = w1 ∧ Sl 40 [(1, .pointer (some ⟨b2, 0, none⟩)), (29, .bool ((((rv4 && (decide (0 ≤ p1.Early))) && (decide (p1.Early ≤ p1.Time))) && (decide (p1.Time ≤ p1.Late))) && (decide (p1.Late ≤ 18014398509481984))))] a) ?_ ?_
 ·rcases Bool.eq_false_or_eq_true (((rv4 && (decide (0 ≤ p1.Early))) && (decide (p1.Early ≤ p1.Time))) && (decide (p1.Time ≤ p1.Late))) with h13 | h13
  ·have hs := hs.fix 25 (.bool true) rfl (vb h13)
   refine st_val hs (y_fieldAddr (o' := 6) Tryz.runUnderlying66 rfl Tryz.sizeOf3 rfl rfl rfl) ⟨_, rfl, rfl⟩ rfl rfl fun a hs => ?_
   refine st_val hs (y_loadB1 (hw.ownAt 0 rfl) rfl Tryz.isAgg3 rfl) ⟨_, rfl, rfl⟩ rfl rfl fun a hs => ?_
   refine st_val hs (y_leq rfl rfl) ⟨_, rfl, rfl⟩ rfl rfl fun a hs => ?_
   refine sv hs (y_pickT rfl rfl) rfl fun a hs => ?_
   refine nl ?_
   exact ⟨rfl, (hs.fix 29 (.bool ((((rv4 && (decide (0 ≤ p1.Early))) && (decide (p1.Early ≤ p1.Time))) && (decide (p1.Time ≤ p1.Late))) && (decide (p1.Late ≤ 18014398509481984)))) rfl (and_t h13)).weaken _ ⟨rfl, rfl, trivial⟩⟩
  have hs := hs.fix 25 (.bool false) rfl (vb h13)
  refine st_skip hs rfl rfl rfl rfl rfl fun a hs => ?_
  refine st_skip hs rfl rfl rfl rfl rfl fun a hs => ?_
  refine st_skip hs rfl rfl rfl rfl rfl fun a hs => ?_
  refine sv hs (y_pickF rfl rfl) rfl fun a hs => ?_
  refine nl ?_
  exact ⟨rfl, (hs.fix 29 (.bool ((((rv4 && (decide (0 ≤ p1.Early))) && (decide (p1.Early ≤ p1.Time))) && (decide (p1.Time ≤ p1.Late))) && (decide (p1.Late ≤ 18014398509481984)))) rfl (and_f h13)).weaken _ ⟨rfl, rfl, trivial⟩⟩
 rintro a w1 ⟨h48, hs⟩
 subst h48
 refine mv hs rfl rfl fun a hs => ?_
 obtain ⟨c22, hc22, hsh⟩ := bind_t hsh
 refine wpl_join 4 (fun a w => ∃ (Sv23 : Nat → Prop), Sl 40 [(1, .pointer (some ⟨b2, 0, none⟩)), (34, .bool c22)] a ∧ Wd ⟨w0, S0, []⟩ Sv23 [.box b2 [.string p1.Source.Network, .string p1.Source.Station, .string p1.Source.Location, .string p1.Source.Channel, .int .i64 p1.Time, .int .i64 p1.Early, .int .i64 p1.Late, .int .i64 p1.Amplitude, .int .i64 p1.Polarity] 66] [] w) ?_ ?_
 ·rcases Bool.eq_false_or_eq_true ((((rv4 && (decide (0 ≤ p1.Early))) && (decide (p1.Early ≤ p1.Time))) && (decide (p1.Time ≤ p1.Late))) && (decide (p1.Late ≤ 18014398509481984))) with h21 | h21
  ·have hs := hs.fix 30 (.bool true) rfl (vb h21)
   have hsh := ite_t hc22 h21
   refine st_val hs (y_fieldAddr (o' := 7) Tryz.runUnderlying66 rfl Tryz.sizeOf3 rfl rfl rfl) ⟨_, rfl, rfl⟩ rfl rfl fun a hs => ?_
   refine st_val hs (y_loadB1 (hw.ownAt 0 rfl) rfl Tryz.isAgg3 rfl) ⟨_, rfl, rfl⟩ rfl rfl fun a hs => ?_
   obtain ⟨rv25, h24, hsh⟩ := bind_t hsh
   refine st_callR hs (ref01_In_ok h24 hw.bdom) (do_call Tryz.call37 rfl) ⟨_, rfl, rfl⟩ rfl rfl ?_
   intro v29 Sv26 w a h27 h28 hs
   subst h28
   have hw := hw.callB h27
   refine sv hs (y_pickT rfl rfl) rfl fun a hs => ?_
   refine wpList_nil ?_
   have hsh := oi hsh
   subst hsh
   refine then_normal ?_
   exact ⟨S0, (hs.wk rfl), (hw.ft [0] [] (by decide) rfl rfl)⟩
  have hs := hs.fix 30 (.bool false) rfl (vb h21)
  have hsh := ite_f hc22 h21
  refine st_skip hs rfl rfl rfl rfl rfl fun a hs => ?_
  refine st_skip hs rfl rfl rfl rfl rfl fun a hs => ?_
  refine st_skip hs rfl rfl rfl rfl rfl fun a hs => ?_
  refine sv hs (y_pickF rfl rfl) rfl fun a hs => ?_
  refine wpList_nil ?_
  have hsh := oi hsh
  subst hsh
  refine then_normal ?_
  exact ⟨S0, (hs.wk rfl), (hw.ft [0] [] (by decide) rfl rfl)⟩
 rintro a w ⟨Sv23, hs, hw⟩
 refine mv hs rfl rfl fun a hs => ?_
 obtain ⟨c39, hc39, hsh⟩ := bind_t hsh
 refine wpl_join 4 (fun a w => ∃ (Sv40 : Nat → Prop), Sl 40 [(39, .bool c39)] a ∧ Wd ⟨w0, S0, []⟩ Sv40 [] [] w) ?_ ?_
 ·rcases Bool.eq_false_or_eq_true c22 with h38 | h38
  ·have hs := hs.fix 35 (.bool true) rfl (vb h38)
   have hsh := ite_t hc39 h38
   refine st_val hs (y_fieldAddr (o' := 8) Tryz.runUnderlying66 rfl Tryz.sizeOf3 rfl rfl rfl) ⟨_, rfl, rfl⟩ rfl rfl fun a hs => ?_
   refine st_val hs (y_loadB1 (hw.ownAt 0 rfl) rfl Tryz.isAgg3 rfl) ⟨_, rfl, rfl⟩ rfl rfl fun a hs => ?_
   obtain ⟨rv42, h41, hsh⟩ := bind_t hsh
   refine st_callR hs (ref01_In_ok h41 hw.bdom) (do_call Tryz.call37 rfl) ⟨_, rfl, rfl⟩ rfl rfl ?_
   intro v46 Sv43 w a h44 h45 hs
   subst h45
   have hw := hw.callB h44
   refine sv hs (y_pickT rfl rfl) rfl fun a hs => ?_
   refine wpList_nil ?_
   have hsh := oi hsh
   subst hsh
   refine then_normal ?_
   exact ⟨Sv23, (hs.wk rfl), (hw.ft [] [] (by decide) rfl rfl)⟩
  have hs := hs.fix 35 (.bool false) rfl (vb h38)
  have hsh := ite_f hc39 h38
  refine st_skip hs rfl rfl rfl rfl rfl fun a hs => ?_
  refine st_skip hs rfl rfl rfl rfl rfl fun a hs => ?_
  refine st_skip hs rfl rfl rfl rfl rfl fun a hs => ?_
  refine sv hs (y_pickF rfl rfl) rfl fun a hs => ?_
  refine wpList_nil ?_
  have hsh := oi hsh
  subst hsh
  refine then_normal ?_
  exact ⟨Sv23, (hs.wk rfl), (hw.ft [] [] (by decide) rfl rfl)⟩
 rintro a w ⟨Sv40, hs, hw⟩
 refine av hs rfl rfl fun a hs => ?_
 refine nl ?_
 have hsh := oi hsh
 subst hsh
 refine wp_ret ?_
 exact ret1 hs rfl (rv_tmp rfl) (hw.ret rfl)
end Go.Proofs.YtmlekplbmfengaaGreat.Wk

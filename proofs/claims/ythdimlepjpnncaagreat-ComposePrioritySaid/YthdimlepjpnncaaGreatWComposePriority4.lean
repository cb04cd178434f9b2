/- The walks of ComposePriority, part 4: each Go function computes what its plain program computes. Printed by a program of ours. -/
import Derived.Test.YthdimlepjpnncaaGreatProg
import Derived.Test.YthdimlepjpnncaaGreatDat
import Derived.Test.YthdimlepjpnncaaGreatSh
import Derived.Test.YthdimlepjpnncaaGreatLibL
import Derived.Test.YthdimlepjpnncaaGreatLibZ
import Derived.Test.YthdimlepjpnncaaGreatLibQ
import Derived.KernelRfl
import Derived.Test.YthdimlepjpnncaaGreatLibU
import Derived.Shelf.SlLaysF0
import Derived.Test.YthdimlepjpnncaaGreatWComposePriority3
namespace Go.Proofs.YthdimlepjpnncaaGreat.Wk
open Go Go.RowKit Go.Proofs Go.Proofs.YthdimlepjpnncaaGreat.Sh
set_option linter.unusedVariables false
set_option linter.unusedSimpArgs false

abbrev ref08_Meet_rd (w0 : World) (X : List Nat) (r : (List Span)) : (Nat → Prop) → World → Value → Prop := fun S w v => ∃ (p0_0 : Option Addr) (k0_0 : Nat) (c0_0 : List Value), v = .slice p0_0 r.length k0_0 ∧ Outs X w0 S w [.row p0_0 r.length k0_0 c0_0 45 2] ∧ (RowA c0_0 r).p S w
set_option maxHeartbeats 4000000 in
set_option maxRecDepth 100000 in
theorem ref08_Meet_ok {w0 : World} {S0 : Nat → Prop} {p2 : Option Addr} {k3 : Nat} {p6 : Option Addr} {k7 : Nat} {a1 : (List Span)} {b5 : (List Span)} {r : (List Span)} (hsh : ref08_Meet a1 b5 = some r) (hS : ∀ b, S0 b → b < w0.heap.size) (h4 : (SlA p2 a1.length k3 a1).p S0 w0) (h8 : (SlA p6 b5.length k7 b5).p S0 w0) : Calls Tryz.prog 57 #[.slice p2 a1.length k3, .slice p6 b5.length k7] w0 (Ret ([]) w0 S0 (ref08_Meet_rd w0 ([]) r)) := by
 refine calls_of_wp Tryz.func57 rfl ?_
 have hs := Sl.enter #[.slice p2 a1.length k3, .slice p6 b5.length k7] 61 [(0, .slice p2 a1.length k3), (1, .slice p6 b5.length k7)] rfl ⟨rfl, rfl, trivial⟩
 have hw := Wd.enter (E := []) hS (fun _ h => (by cases h))
 have hw := hw.addE h4
 have hw := hw.addE h8
 delta ref08_Meet at hsh
 refine sr ?_
 refine av hs rfl rfl fun a hs => ?_
 refine nl ?_
 refine sr ?_
 refine mv hs rfl rfl fun a hs => ?_
 obtain ⟨rv10, h9, hsh⟩ := bind_t hsh
 refine st_callR hs (ref08_Normal_ok h9 hw.dom (hw.envAt 1 rfl)) (do_call Tryz.call58 rfl) trivial rfl rfl ?_
 intro v18 Sv15 w a h16 h17 hs
 obtain ⟨p11, k12, c14, rfl, h19, h13⟩ := h17
 have hw := hw.callN h16 h19
 have hw := hw.addE (e := RowA c14 rv10) h13
 refine mv hs rfl rfl fun a hs => ?_
 obtain ⟨rv21, h20, hsh⟩ := bind_t hsh
 refine st_callR hs (ref08_Normal_ok h20 hw.dom (hw.envAt 1 rfl)) (do_call Tryz.call58 rfl) trivial rfl rfl ?_
 intro v29 Sv26 w a h27 h28 hs
 obtain ⟨p22, k23, c25, rfl, h30, h24⟩ := h28
 have hw := hw.callN h27 h30
 have hw := hw.addE (e := RowA c25 rv21) h24
 refine av hs rfl rfl fun a hs => ?_
 refine av hs rfl rfl fun a hs => ?_
 refine nl ?_
 refine sr ?_
 refine av hs rfl rfl fun a hs => ?_
 refine nl ?_
 refine wp_seq ?_
 refine sr ?_
 refine av hs rfl rfl fun a hs => ?_
 refine nl ?_
 obtain ⟨e661, h1221, hsh⟩ := bind_t hsh
 refine wp_join (fun a w => ∃ (c662 : List Value) (p663 : Option Addr) (k664 : Nat) (Sv665 : Nat → Prop), Sl 61 [(7, .slice p663 e661.length k664)] a ∧ Wd ⟨w0, S0, []⟩ Sv665 [.row p663 e661.length k664 c662 45 2] [RowA c662 e661] w) ?_ ?_
 ·refine wp_block ?_
  have hw := hw.nilRow Span 45
  refine wp_while (fun sv31 a w => ∃ (c448 : List Value) (p449 : Option Addr) (k450 : Nat) (Sv451 : Nat → Prop), Sl 61 [(5, .slice p11 rv10.length k12), (6, .slice p22 rv21.length k23), (7, .slice p449 sv31.1.length k450), (8, .int .i64 sv31.2)] a ∧ Wd ⟨w0, S0, []⟩ Sv451 [.row p11 rv10.length k12 c14 45 2, .row p22 rv21.length k23 c25 45 2, .row p449 sv31.1.length k450 c448 45 2] [RowA c14 rv10, RowA c25 rv21, RowA c448 sv31.1] w) (([] : List Span), 0) h1221 ⟨[], none, 0, Sv26, (hs.wk rfl), (hw.ft [2, 1, 0] [2, 1, 0] (by decide) rfl rfl)⟩ ?_
  clear h1221
  repeat clear hsh
  rintro sv31 a w tv659 ⟨c448, p449, k450, Sv451, hs, hw⟩ hsh hd658
  delta ref08_Meet_l3 at hsh
  refine wp_seq ?_
  refine sr ?_
  refine mv hs rfl rfl fun a hs => ?_
  refine mv hs rfl rfl fun a hs => ?_
  refine sv hs (y_len Tryz.runUnderlying52 rfl) rfl fun a hs => ?_
  refine sv hs (y_lss rfl rfl) rfl fun a hs => ?_
  refine nl ?_
  refine wp_cond_split (hs.ev rfl) (fun h667 => ?_) (fun h667 => ?_)
  ·have hsh := ite_t hsh h667
   refine wp_skip ?_
   refine then_normal ?_
   refine wp_seq ?_
   refine wp_block ?_
   refine sr ?_
   refine av hs rfl rfl fun a hs => ?_
   refine nl ?_
   obtain ⟨e1069, h1207, hsh⟩ := bind_t hsh
   refine wp_join (fun a w => ∃ (c1070 : List Value) (p1071 : Option Addr) (k1072 : Nat) (Sv1073 : Nat → Prop), Sl 61 [(5, .slice p11 rv10.length k12), (6, .slice p22 rv21.length k23), (7, .slice p1071 e1069.length k1072), (8, .int .i64 sv31.2)] a ∧ Wd ⟨w0, S0, []⟩ Sv1073 [.row p11 rv10.length k12 c14 45 2, .row p22 rv21.length k23 c25 45 2, .row p1071 e1069.length k1072 c1070 45 2] [RowA c14 rv10, RowA c25 rv21, RowA c1070 e1069] w) ?_ ?_
   ·refine wp_block ?_
    refine wp_while (fun sv871 a w => ∃ (c1000 : List Value) (p1001 : Option Addr) (k1002 : Nat) (Sv1003 : Nat → Prop), Sl 61 [(5, .slice p11 rv10.length k12), (6, .slice p22 rv21.length k23), (7, .slice p1001 sv871.1.length k1002), (8, .int .i64 sv31.2), (9, .int .i64 sv871.2)] a ∧ Wd ⟨w0, S0, []⟩ Sv1003 [.row p11 rv10.length k12 c14 45 2, .row p22 rv21.length k23 c25 45 2, .row p1001 sv871.1.length k1002 c1000 45 2] [RowA c14 rv10, RowA c25 rv21, RowA c1000 sv871.1] w) (sv31.1, 0) h1207 ⟨c448, p449, k450, Sv451, (hs.wk rfl), (hw.ft [0, 1, 2] [0, 1, 2] (by decide) rfl rfl)⟩ ?_
    clear h1207
    repeat clear hsh
    rintro sv871 a w tv1067 ⟨c1000, p1001, k1002, Sv1003, hs, hw⟩ hsh hd1066
    delta ref08_Meet_l6 at hsh
    refine wp_seq ?_
    refine sr ?_
    refine mv hs rfl rfl fun a hs => ?_
    refine mv hs rfl rfl fun a hs => ?_
    refine sv hs (y_len Tryz.runUnderlying52 rfl) rfl fun a hs => ?_
    refine sv hs (y_lss rfl rfl) rfl fun a hs => ?_
    refine nl ?_
    refine wp_cond_split (hs.ev rfl) (fun h1075 => ?_) (fun h1075 => ?_)
    ·have hsh := ite_t hsh h1075
     refine wp_skip ?_
     refine then_normal ?_
     refine wp_seq ?_
     refine wp_block ?_
     refine wp_seq ?_
     obtain ⟨x1137, h1135, hsh⟩ := bind_t hsh
     obtain ⟨b1144, q1141, c1142, h1145, h1138, h1139, h1143, h1136⟩ := hw.elemRV (α := Span) 0 rfl 0 rfl h1135
     have hsv1146 := hs
     have hwv1147 := hw
     subst h1145
     have hs := hsv1146
     have hw := hwv1147
     obtain ⟨_, _, rfl, rfl, rfl⟩ := h1136
     obtain ⟨x1150, h1148, hsh⟩ := bind_t hsh
     obtain ⟨b1157, q1154, c1155, h1158, h1151, h1152, h1156, h1149⟩ := hw.elemRV (α := Span) 1 rfl 1 rfl h1148
     have hsv1159 := hs
     have hwv1160 := hw
     subst h1158
     have hs := hsv1159
     have hw := hwv1160
     obtain ⟨_, _, rfl, rfl, rfl⟩ := h1149
     obtain ⟨x1163, h1161, hsh⟩ := bind_t hsh
     obtain ⟨q1167, c1168, h1164, h1165, h1169, h1162⟩ := hw.elemRK (α := Span) 0 rfl 0 rfl h1161
     obtain ⟨_, _, rfl, rfl, rfl⟩ := h1162
     obtain ⟨x1172, h1170, hsh⟩ := bind_t hsh
     obtain ⟨q1176, c1177, h1173, h1174, h1178, h1171⟩ := hw.elemRK (α := Span) 1 rfl 1 rfl h1170
     obtain ⟨_, _, rfl, rfl, rfl⟩ := h1171
     refine wp_only (fun a w => ∃ (Sv1180 : Nat → Prop) (b1179 : Nat), Sl 61 [(5, .slice (some ⟨b1144, 0, none⟩) rv10.length k12), (6, .slice (some ⟨b1157, 0, none⟩) rv21.length k23), (7, .slice p1001 sv871.1.length k1002), (8, .int .i64 sv31.2), (9, .int .i64 sv871.2), (10, .pointer (some ⟨b1179, 0, none⟩))] a ∧ Wd ⟨w0, S0, []⟩ Sv1180 [.box b1179 [.int .i64 (max x1137.From x1150.From), .int .i64 (min x1163.To x1172.To)] 45, .row (some ⟨b1144, 0, none⟩) rv10.length k12 c14 45 2, .row (some ⟨b1157, 0, none⟩) rv21.length k23 c25 45 2, .row p1001 sv871.1.length k1002 c1000 45 2] [RowA c14 rv10, RowA c25 rv21, RowA c1000 sv871.1] w) ?_ ?_
     ·refine h_b (C := Cls [.row (some ⟨b1144, 0, none⟩) rv10.length k12 c14 45 2, .row (some ⟨b1157, 0, none⟩) rv21.length k23 c25 45 2, .row p1001 sv871.1.length k1002 c1000 45 2] []) (by kernel_rfl) rfl (hw.drew.cs [0, 1, 2] [] rfl rfl) fun hC => ?_
      have hw := hw.drew
      refine gm hs 0 rfl rfl rfl hC fun a hs => ?_
      refine gm hs 1 rfl rfl rfl hC fun a hs => ?_
      refine gv hs 2 rfl rfl hC (fun w hC => y_indexAt Tryz.runUnderlying52 Tryz.sizeOf45 rfl rfl h1138.1 h1138.2 h1139) fun a hs => ?_
      refine gv hs 3 rfl rfl hC (fun w hC => y_fieldAddr (o' := q1141 + 0) Tryz.runUnderlying45 rfl Tryz.sizeOf3 rfl rfl rfl) fun a hs => ?_
      refine gv hs 4 rfl rfl hC (fun w hC => y_loadQ1 (j := 0) (hC.ownAt 0 rfl) rfl Tryz.isAgg3 h1143 rfl) fun a hs => ?_
      refine gm hs 5 rfl rfl rfl hC fun a hs => ?_
      refine gm hs 6 rfl rfl rfl hC fun a hs => ?_
      refine gv hs 7 rfl rfl hC (fun w hC => y_indexAt Tryz.runUnderlying52 Tryz.sizeOf45 rfl rfl h1151.1 h1151.2 h1152) fun a hs => ?_
      refine gv hs 8 rfl rfl hC (fun w hC => y_fieldAddr (o' := q1154 + 0) Tryz.runUnderlying45 rfl Tryz.sizeOf3 rfl rfl rfl) fun a hs => ?_
      refine gv hs 9 rfl rfl hC (fun w hC => y_loadQ1 (j := 0) (hC.ownAt 1 rfl) rfl Tryz.isAgg3 h1156 rfl) fun a hs => ?_
      refine gv hs 10 rfl rfl hC (fun w hC => y_max rfl rfl) fun a hs => ?_
      refine gm hs 11 rfl rfl rfl hC fun a hs => ?_
      refine gm hs 12 rfl rfl rfl hC fun a hs => ?_
      refine gv hs 13 rfl rfl hC (fun w hC => y_indexAt Tryz.runUnderlying52 Tryz.sizeOf45 rfl rfl h1164.1 h1164.2 h1165) fun a hs => ?_
      refine gv hs 14 rfl rfl hC (fun w hC => y_fieldAddr (o' := q1167 + 1) Tryz.runUnderlying45 rfl Tryz.sizeOf3 rfl rfl rfl) fun a hs => ?_
      refine gv hs 15 rfl rfl hC (fun w hC => y_loadQ1 (j := 1) (hC.ownAt 0 rfl) rfl Tryz.isAgg3 h1169 rfl) fun a hs => ?_
      refine gm hs 16 rfl rfl rfl hC fun a hs => ?_
      refine gm hs 17 rfl rfl rfl hC fun a hs => ?_
      refine gv hs 18 rfl rfl hC (fun w hC => y_indexAt Tryz.runUnderlying52 Tryz.sizeOf45 rfl rfl h1173.1 h1173.2 h1174) fun a hs => ?_
      refine gv hs 19 rfl rfl hC (fun w hC => y_fieldAddr (o' := q1176 + 1) Tryz.runUnderlying45 rfl Tryz.sizeOf3 rfl rfl rfl) fun a hs => ?_
      refine gv hs 20 rfl rfl hC (fun w hC => y_loadQ1 (j := 1) (hC.ownAt 1 rfl) rfl Tryz.isAgg3 h1178 rfl) fun a hs => ?_
      refine gv hs 21 rfl rfl hC (fun w hC => y_min rfl rfl) fun a hs => ?_
      refine gv hs 22 rfl rfl hC (fun w hC => y_build (vs := [(0, .int .i64 (max x1137.From x1150.From)), (1, .int .i64 (min x1163.To x1172.To))]) Bld45 rfl rfl) fun a hs => ?_
      refine ho 23 rfl ?_
      refine w_alloc (cs := [.int .i64 0, .int .i64 0]) hs hw Tryz.zeroValue45 rfl rfl trivial ?_
      intro b1179 a w hs hw
      refine h_nx (hw.cs [1, 2, 3] [] rfl rfl) fun hC => ?_
      refine ho 24 rfl ?_
      refine w_store (m := 2) (cs' := [.int .i64 (max x1137.From x1150.From), .int .i64 (min x1163.To x1172.To)]) hs hw 0 rfl rfl rfl Tryz.sizeOf45 rfl rfl rfl rfl trivial ?_
      intro a w hs hw
      refine h_nx (hw.cs [1, 2, 3] [] rfl rfl) fun hC => ?_
      refine h_done (by kernel_rfl) ?_
      exact ⟨Sv1003, b1179, (hs.wk rfl), (hw.ft [0, 1, 2, 3] [0, 1, 2] (by decide) rfl rfl)⟩
     rintro a w ⟨Sv1180, b1179, hs, hw⟩
     refine then_normal ?_
     refine sr ?_
     refine sv hs (y_fieldAddr (o' := 0) Tryz.runUnderlying45 rfl Tryz.sizeOf3 rfl rfl rfl) rfl fun a hs => ?_
     refine sv hs (y_loadB1 (hw.ownAt 0 rfl) rfl Tryz.isAgg3 rfl) rfl fun a hs => ?_
     refine sv hs (y_fieldAddr (o' := 1) Tryz.runUnderlying45 rfl Tryz.sizeOf3 rfl rfl rfl) rfl fun a hs => ?_
     refine sv hs (y_loadB1 (hw.ownAt 0 rfl) rfl Tryz.isAgg3 rfl) rfl fun a hs => ?_
     refine sv hs (y_lss rfl rfl) rfl fun a hs => ?_
     refine nl ?_
     refine wp_join (fun a w => ∃ (out1193 : (List Span)) (c1189 : List Value) (p1190 : Option Addr) (k1191 : Nat) (Sv1192 : Nat → Prop), ref08_Meet_j1 sv871 out1193 = some tv1067 ∧ Sl 61 [(5, .slice (some ⟨b1144, 0, none⟩) rv10.length k12), (6, .slice (some ⟨b1157, 0, none⟩) rv21.length k23), (7, .slice p1190 out1193.length k1191), (8, .int .i64 sv31.2), (9, .int .i64 sv871.2)] a ∧ Wd ⟨w0, S0, []⟩ Sv1192 [.row (some ⟨b1144, 0, none⟩) rv10.length k12 c14 45 2, .row (some ⟨b1157, 0, none⟩) rv21.length k23 c25 45 2, .row p1190 out1193.length k1191 c1189 45 2] [RowA c14 rv10, RowA c25 rv21, RowA c1189 out1193] w) ?_ ?_
     ·refine wp_cond_split (hs.ev rfl) (fun h1196 => ?_) (fun h1196 => ?_)
      ·have hsh := ite_t hsh h1196
       refine wp_region_lit ?_
       refine mv hs rfl rfl fun a hs => ?_
       refine sv hs (y_loadBA (hw.ownAt 0 rfl) rfl Tryz.isAgg45 Tryz.sizeOf45 rfl rfl) rfl fun a hs => ?_
       refine w_litSlice (α := Span) (vs := [.agg #[.int .i64 (max x1137.From x1150.From), .int .i64 (min x1163.To x1172.To)]]) (cs := [.int .i64 (max x1137.From x1150.From), .int .i64 (min x1163.To x1172.To)]) (xs := ([(⟨(max x1137.From x1150.From), (min x1163.To x1172.To)⟩ : Span)] : List Span)) hs hw El52 rfl rfl rfl rfl rfl rfl ⟨⟨_, _, rfl, rfl, rfl⟩, rfl⟩ rfl trivial rfl fun b1198 a w hs hw => ?_
       obtain ⟨l1200, h1199, hsh⟩ := bind_t hsh
       refine w_appendR (α := Span) hs hw El52 4 rfl rfl rfl 3 rfl 0 rfl 0 rfl h1199 rfl trivial ?_
       intro p1201 k1202 c1203 a w hs hw
       refine av hs rfl rfl fun a hs => ?_
       refine nl ?_
       exact ⟨l1200, c1203, p1201, k1202, Sv1180, hsh, (hs.wk rfl), (hw.ft [2, 3, 4] [2, 3, 0] (by decide) rfl rfl)⟩
      have hsh := ite_f hsh h1196
      refine wp_skip ?_
      refine then_normal ?_
      exact ⟨sv871.1, c1000, p1001, k1002, Sv1180, hsh, (hs.wk rfl), (hw.ft [1, 2, 3] [0, 1, 2] (by decide) rfl rfl)⟩
     rintro a w ⟨out1193, c1189, p1190, k1191, Sv1192, hsh, hs, hw⟩
     delta ref08_Meet_j1 at hsh
     refine blk_normal ?_
     refine then_normal ?_
     refine wp_region_lit ?_
     refine mv hs rfl rfl fun a hs => ?_
     refine sv hs (y_add rfl rfl) rfl fun a hs => ?_
     obtain ⟨k1195, h1194, hsh⟩ := bind_t hsh
     refine sv hs (y_assignI rfl h1194) rfl fun a hs => ?_
     refine nl ?_
     exact ⟨_, (Option.some.inj hsh).symm, c1189, p1190, k1191, Sv1192, (hs.wk rfl), (hw.ft [0, 1, 2] [0, 1, 2] (by decide) rfl rfl)⟩
    have hsh := ite_f hsh h1075
    refine wp_exit ?_
    refine then_exit ?_
    refine then_exit ?_
    refine blk_exit ?_
    have hsh := oi hsh
    subst hsh
    have h1204 := hd1066 _ rfl
    subst h1204
    refine then_normal ?_
    exact ⟨c1000, p1001, k1002, Sv1003, (hs.wk rfl), (hw.ft [0, 1, 2] [0, 1, 2] (by decide) rfl rfl)⟩
   rintro a w ⟨c1070, p1071, k1072, Sv1073, hs, hw⟩
   refine blk_normal ?_
   refine then_normal ?_
   refine wp_region_lit ?_
   refine mv hs rfl rfl fun a hs => ?_
   refine sv hs (y_add rfl rfl) rfl fun a hs => ?_
   obtain ⟨i1206, h1205, hsh⟩ := bind_t hsh
   refine sv hs (y_assignI rfl h1205) rfl fun a hs => ?_
   refine nl ?_
   exact ⟨_, (Option.some.inj hsh).symm, c1070, p1071, k1072, Sv1073, (hs.wk rfl), (hw.ft [0, 1, 2] [0, 1, 2] (by decide) rfl rfl)⟩
  have hsh := ite_f hsh h667
  refine wp_exit ?_
  refine then_exit ?_
  refine then_exit ?_
  refine blk_exit ?_
  have hsh := oi hsh
  subst hsh
  have h1208 := hd658 _ rfl
  subst h1208
  refine then_normal ?_
  exact ⟨c448, p449, k450, Sv451, (hs.wk rfl), (hw.ft [2] [2] (by decide) rfl rfl)⟩
 rintro a w ⟨c662, p663, k664, Sv665, hs, hw⟩
 refine then_normal ?_
 refine sr ?_
 refine mv hs rfl rfl fun a hs => ?_
 obtain ⟨rv1210, h1209, hsh⟩ := bind_t hsh
 obtain ⟨Sv1215, hw⟩ := w_share (α := Span) hw 0 rfl 0 rfl
 refine st_callR hs (ref08_Normal_ok h1209 hw.dom (hw.envAt 0 rfl)) (do_call Tryz.call58 rfl) trivial rfl rfl ?_
 intro v1219 Sv1216 w a h1217 h1218 hs
 obtain ⟨p1211, k1212, c1214, rfl, h1220, h1213⟩ := h1218
 have hw := hw.callN h1217 h1220
 have hw := hw.addE (e := RowA c1214 rv1210) h1213
 refine av hs rfl rfl fun a hs => ?_
 refine nl ?_
 have hsh := oi hsh
 subst hsh
 refine wp_ret ?_
 exact ret1 hs rfl (rv_tmp rfl) (hw.ret ⟨p1211, k1212, c1214, rfl, (hw.outs [0] (by decide) rfl), (hw.envAt 0 rfl)⟩)

abbrev ref08_Cut_rd (w0 : World) (X : List Nat) (r : (List Span)) : (Nat → Prop) → World → Value → Prop := fun S w v => ∃ (p0_0 : Option Addr) (k0_0 : Nat) (c0_0 : List Value), v = .slice p0_0 r.length k0_0 ∧ Outs X w0 S w [.row p0_0 r.length k0_0 c0_0 45 2] ∧ (RowA c0_0 r).p S w
set_option maxHeartbeats 4000000 in
set_option maxRecDepth 100000 in
theorem ref08_Cut_ok {w0 : World} {S0 : Nat → Prop} {p2 : Option Addr} {k3 : Nat} {l1 : (List Span)} {from5 : Int} {to6 : Int} {r : (List Span)} (hsh : ref08_Cut l1 from5 to6 = some r) (hS : ∀ b, S0 b → b < w0.heap.size) (h4 : (SlA p2 l1.length k3 l1).p S0 w0) : Calls Tryz.prog 25 #[.slice p2 l1.length k3, .int .i64 from5, .int .i64 to6] w0 (Ret ([]) w0 S0 (ref08_Cut_rd w0 ([]) r)) := by
 refine calls_of_wp Tryz.func25 rfl ?_
 have hs := Sl.enter #[.slice p2 l1.length k3, .int .i64 from5, .int .i64 to6] 13 [(0, .slice p2 l1.length k3), (1, .int .i64 from5), (2, .int .i64 to6)] rfl ⟨rfl, rfl, rfl, trivial⟩
 have hw := Wd.enter (E := []) hS (fun _ h => (by cases h))
 have hw := hw.addE h4
 delta ref08_Cut at hsh
 refine sr ?_
 refine av hs rfl rfl fun a hs => ?_
 refine nl ?_
 refine sr ?_
 refine mv hs rfl rfl fun a hs => ?_
 refine mv hs rfl rfl fun a hs => ?_
 refine mv hs rfl rfl fun a hs => ?_
 refine sv hs (y_build (vs := [(0, .int .i64 from5), (1, .int .i64 to6)]) Bld45 rfl rfl) rfl fun a hs => ?_
 refine w_litSlice (α := Span) (vs := [.agg #[.int .i64 from5, .int .i64 to6]]) (cs := [.int .i64 from5, .int .i64 to6]) (xs := ([(⟨from5, to6⟩ : Span)] : List Span)) hs hw El52 rfl rfl rfl rfl rfl rfl ⟨⟨_, _, rfl, rfl, rfl⟩, rfl⟩ rfl trivial rfl fun b8 a w hs hw => ?_
 obtain ⟨rv10, h9, hsh⟩ := bind_t hsh
 obtain ⟨Sv15, hw⟩ := w_share (α := Span) hw 0 rfl 0 rfl
 refine st_callR hs (ref08_Meet_ok h9 hw.dom (hw.envAt 2 rfl) (hw.envAt 0 rfl)) (do_call Tryz.call57 rfl) trivial rfl rfl ?_
 intro v19 Sv16 w a h17 h18 hs
 obtain ⟨p11, k12, c14, rfl, h20, h13⟩ := h18
 have hw := hw.callN h17 h20
 have hw := hw.addE (e := RowA c14 rv10) h13
 refine av hs rfl rfl fun a hs => ?_
 refine nl ?_
 have hsh := oi hsh
 subst hsh
 refine wp_ret ?_
 exact ret1 hs rfl (rv_tmp rfl) (hw.ret ⟨p11, k12, c14, rfl, (hw.outs [0] (by decide) rfl), (hw.envAt 0 rfl)⟩)

abbrev ref08_Has_rd (w0 : World) (X : List Nat) (r : Bool) : (Nat → Prop) → World → Value → Prop := fun S w v => v = .bool r
set_option maxHeartbeats 4000000 in
set_option maxRecDepth 100000 in
theorem ref08_Has_ok {w0 : World} {S0 : Nat → Prop} {p2 : Option Addr} {k3 : Nat} {l1 : (List Span)} {x5 : Int} {r : Bool} (hsh : ref08_Has l1 x5 = some r) (hS : ∀ b, S0 b → b < w0.heap.size) (h4 : (SlA p2 l1.length k3 l1).p S0 w0) : Calls Tryz.prog 26 #[.slice p2 l1.length k3, .int .i64 x5] w0 (Ret ([]) w0 S0 (ref08_Has_rd w0 ([]) r)) := by
 refine calls_of_wp Tryz.func26 rfl ?_
 have hs := Sl.enter #[.slice p2 l1.length k3, .int .i64 x5] 28 [(0, .slice p2 l1.length k3), (1, .int .i64 x5)] rfl ⟨rfl, rfl, trivial⟩
 have hw := Wd.enter (E := []) hS (fun _ h => (by cases h))
 have hw := hw.addE h4
 delta ref08_Has at hsh
 refine sr ?_
 refine av hs rfl rfl fun a hs => ?_
 refine nl ?_
 refine wp_seq ?_
 refine sr ?_
 refine av hs rfl rfl fun a hs => ?_
 refine nl ?_
 refine wp_block ?_
 refine wp_while (fun sv119 a w => ∃ (Sv193 : Nat → Prop), Sl 28 [(0, .slice p2 l1.length k3), (1, .int .i64 x5), (5, .int .i64 sv119)] a ∧ Wd ⟨w0, S0, []⟩ Sv193 [] [SlA p2 l1.length k3 l1] w) 0 hsh ⟨S0, (hs.wk rfl), (hw.ft [] [0] (by decide) rfl rfl)⟩ ?_
 repeat clear hsh
 rintro sv119 a w tv231 ⟨Sv193, hs, hw⟩ hsh hd230
 delta ref08_Has_l2 at hsh
 refine wp_seq ?_
 refine sr ?_
 refine mv hs rfl rfl fun a hs => ?_
 refine mv hs rfl rfl fun a hs => ?_
 refine sv hs (y_len Tryz.runUnderlying52 rfl) rfl fun a hs => ?_
 refine sv hs (y_lss rfl rfl) rfl fun a hs => ?_
 refine nl ?_
 refine wp_cond_split (hs.ev rfl) (fun h235 => ?_) (fun h235 => ?_)
 ·have hsh := ite_t hsh h235
  refine wp_skip ?_
  refine then_normal ?_
  refine wp_seq ?_
  refine wp_block ?_
  refine sr ?_
  refine mv hs rfl rfl fun a hs => ?_
  refine mv hs rfl rfl fun a hs => ?_
  obtain ⟨x271, h269, hsh⟩ := bind_t hsh
  obtain ⟨b277, o278, q275, c276, h279, h272, h273, h274, h270⟩ := hw.elemV 0 rfl h269
  have hsv280 := hs
  have hwv281 := hw
  subst h279
  have hs := hsv280
  have hw := hwv281
  obtain ⟨_, _, rfl, rfl, rfl⟩ := h270
  have hw := hw.addE h274
  refine sv hs (y_indexAt Tryz.runUnderlying52 Tryz.sizeOf45 rfl rfl h272.1 h272.2 h273) rfl fun a hs => ?_
  refine sv hs (y_fieldAddr (o' := q275 + 0) Tryz.runUnderlying45 rfl Tryz.sizeOf3 rfl rfl rfl) rfl fun a hs => ?_
  refine sv hs (y_loadE1 (j := 0) (hw.ceAt 0 rfl) rfl Tryz.isAgg3 rfl) rfl fun a hs => ?_
  refine mv hs rfl rfl fun a hs => ?_
  refine sv hs (y_leq rfl rfl) rfl fun a hs => ?_
  refine mv hs rfl rfl fun a hs => ?_
  obtain ⟨c291, hc291, hsh⟩ := bind_t hsh
  refine wpl_join 8 (fun a w => ∃ (Sv292 : Nat → Prop), Sl 28 [(0, .slice (some ⟨b277, o278, none⟩) l1.length k3), (1, .int .i64 x5), (5, .int .i64 sv119), (27, .bool c291)] a ∧ Wd ⟨w0, S0, []⟩ Sv292 [] [SlA (some ⟨b277, o278, none⟩) l1.length k3 l1] w) ?_ ?_
  ·rcases Bool.eq_false_or_eq_true (decide (x271.From ≤ x5)) with h290 | h290
   ·have hs := hs.fix 19 (.bool true) rfl (vb h290)
    have hsh := ite_t hc291 h290
    refine st_val hs (y_move rfl) ⟨_, rfl, rfl⟩ rfl rfl fun a hs => ?_
    refine st_val hs (y_move rfl) ⟨_, rfl, rfl⟩ rfl rfl fun a hs => ?_
    refine st_val hs (y_move rfl) ⟨_, rfl, rfl⟩ rfl rfl fun a hs => ?_
    obtain ⟨x295, h293, hsh⟩ := bind_t hsh
    obtain ⟨q299, c300, h296, h297, h298, h294⟩ := hw.elemK 1 rfl h293
    obtain ⟨_, _, rfl, rfl, rfl⟩ := h294
    have hw := hw.addE h298
    refine st_val hs (y_indexAt Tryz.runUnderlying52 Tryz.sizeOf45 rfl rfl h296.1 h296.2 h297) ⟨_, rfl, rfl⟩ rfl rfl fun a hs => ?_
    refine st_val hs (y_fieldAddr (o' := q299 + 1) Tryz.runUnderlying45 rfl Tryz.sizeOf3 rfl rfl rfl) ⟨_, rfl, rfl⟩ rfl rfl fun a hs => ?_
    refine st_val hs (y_loadE1 (j := 1) (hw.ceAt 0 rfl) rfl Tryz.isAgg3 rfl) ⟨_, rfl, rfl⟩ rfl rfl fun a hs => ?_
    refine st_val hs (y_lss rfl rfl) ⟨_, rfl, rfl⟩ rfl rfl fun a hs => ?_
    refine sv hs (y_pickT rfl rfl) rfl fun a hs => ?_
    refine wpList_nil ?_
    have hsh := oi hsh
    subst hsh
    refine then_normal ?_
    exact ⟨Sv193, (hs.wk rfl), (hw.ft [] [2] (by decide) rfl rfl)⟩
   have hs := hs.fix 19 (.bool false) rfl (vb h290)
   have hsh := ite_f hc291 h290
   refine st_skip hs rfl rfl rfl rfl rfl fun a hs => ?_
   refine st_skip hs rfl rfl rfl rfl rfl fun a hs => ?_
   refine st_skip hs rfl rfl rfl rfl rfl fun a hs => ?_
   refine st_skip hs rfl rfl rfl rfl rfl fun a hs => ?_
   refine st_skip hs rfl rfl rfl rfl rfl fun a hs => ?_
   refine st_skip hs rfl rfl rfl rfl rfl fun a hs => ?_
   refine st_skip hs rfl rfl rfl rfl rfl fun a hs => ?_
   refine sv hs (y_pickF rfl rfl) rfl fun a hs => ?_
   refine wpList_nil ?_
   have hsh := oi hsh
   subst hsh
   refine then_normal ?_
   exact ⟨Sv193, (hs.wk rfl), (hw.ft [] [1] (by decide) rfl rfl)⟩
  rintro a w ⟨Sv292, hs, hw⟩
  refine nl ?_
  refine wp_cond_split (hs.ev rfl) (fun h302 => ?_) (fun h302 => ?_)
  ·have hsh := ite_t hsh h302
   refine sr ?_
   refine av hs rfl rfl fun a hs => ?_
   refine nl ?_
   have hsh := oi hsh
   subst hsh
   have h303 := hd230 _ rfl
   subst h303
   refine wp_ret ?_
   refine blk_ret ?_
   refine then_ret ?_
   refine then_ret ?_
   refine blk_ret ?_
   refine then_ret ?_
   exact ret1 hs rfl (rv_tmp rfl) (hw.ret rfl)
  have hsh := ite_f hsh h302
  refine wp_skip ?_
  refine blk_normal ?_
  refine then_normal ?_
  refine wp_region_lit ?_
  refine mv hs rfl rfl fun a hs => ?_
  refine sv hs (y_add rfl rfl) rfl fun a hs => ?_
  obtain ⟨i305, h304, hsh⟩ := bind_t hsh
  refine sv hs (y_assignI rfl h304) rfl fun a hs => ?_
  refine nl ?_
  exact ⟨_, (Option.some.inj hsh).symm, Sv292, (hs.wk rfl), (hw.ft [] [0] (by decide) rfl rfl)⟩
 have hsh := ite_f hsh h235
 obtain ⟨rv306, hsh, h307⟩ := map_t hsh
 have h307 := (hd230 _ h307.symm).symm
 subst h307
 refine wp_exit ?_
 refine then_exit ?_
 refine then_exit ?_
 refine blk_exit ?_
 refine then_normal ?_
 refine sr ?_
 refine av hs rfl rfl fun a hs => ?_
 refine nl ?_
 have hsh := oi hsh
 subst hsh
 refine wp_ret ?_
 exact ret1 hs rfl (rv_tmp rfl) (hw.ret rfl)

abbrev law15_ComposePriority_rd (w0 : World) (X : List Nat) (r : Bool) : (Nat → Prop) → World → Value → Prop := fun S w v => v = .bool r
abbrev D4t1 (b31 : Nat) (b50 : Nat) (swap5 : Bool) : Slots := [(1, .bool swap5), (5, .pointer (some ⟨b31, 0, none⟩)), (6, .pointer (some ⟨b50, 0, none⟩))]
abbrev D4t2 (b31 : Nat) (b69 : Nat) (b70 : Nat) (k54 : Nat) (k63 : Nat) (p53 : Option Addr) (p62 : Option Addr) (rv41 : (SourceID × Dice)) (rv52 : (Record × Dice)) (rv61 : (Record × Dice)) : Vs := [(0, 37, .pointer (some ⟨b31, 0, none⟩)), (1, 38, .agg #[.string rv41.1.Network, .string rv41.1.Station, .string rv41.1.Location, .string rv41.1.Channel]), (2, 39, .agg #[.string rv52.1.Source.Network, .string rv52.1.Source.Station, .string rv52.1.Source.Location, .string rv52.1.Source.Channel, .int .i64 rv52.1.Start, .int .i64 rv52.1.First, .int .i64 rv52.1.Rate.Num, .int .i64 rv52.1.Rate.Den, .int .i64 rv52.1.Error, .int .i64 rv52.1.Run, .int .i64 rv52.1.Seq, .slice p53 rv52.1.Samples.length k54]), (3, 40, .pointer (some ⟨b31, 0, none⟩)), (4, 41, .agg #[.string rv41.1.Network, .string rv41.1.Station, .string rv41.1.Location, .string rv41.1.Channel]), (5, 42, .agg #[.string rv61.1.Source.Network, .string rv61.1.Source.Station, .string rv61.1.Source.Location, .string rv61.1.Source.Channel, .int .i64 rv61.1.Start, .int .i64 rv61.1.First, .int .i64 rv61.1.Rate.Num, .int .i64 rv61.1.Rate.Den, .int .i64 rv61.1.Error, .int .i64 rv61.1.Run, .int .i64 rv61.1.Seq, .slice p62 rv61.1.Samples.length k63]), (6, 7, .pointer (some ⟨b69, 0, none⟩)), (7, 8, .pointer (some ⟨b70, 0, none⟩))]
set_option maxHeartbeats 4000000 in
set_option maxRecDepth 100000 in
theorem law15_ComposePriority_ok {w0 : World} {S0 : Nat → Prop} {p2 : Option Addr} {k3 : Nat} {t1 : (List Int)} {swap5 : Bool} {r : Bool} (hsh : law15_ComposePriority t1 swap5 = some r) (hS : ∀ b, S0 b → b < w0.heap.size) (h4 : (SlA p2 t1.length k3 t1).p S0 w0) : Calls Tryz.prog 4 #[.slice p2 t1.length k3, .bool swap5] w0 (Ret ([]) w0 S0 (law15_ComposePriority_rd w0 ([]) r)) := by
 refine calls_of_wp Tryz.func4 rfl ?_
 have hs := Sl.enter #[.slice p2 t1.length k3, .bool swap5] 197 [(0, .slice p2 t1.length k3), (1, .bool swap5)] rfl ⟨rfl, rfl, trivial⟩
 have hw := Wd.enter (E := []) hS (fun _ h => (by cases h))
 have hw := hw.addE h4
 delta law15_ComposePriority at hsh
 refine sr ?_
 refine av hs rfl rfl fun a hs => ?_
 refine nl ?_
 refine wp_seq ?_
 refine sr ?_
 refine mv hs rfl rfl fun a hs => ?_
 obtain ⟨rv7, h6, hsh⟩ := bind_t hsh
 refine st_callR hs (made_Light_ok h6 hw.bdom (hw.bE 0 rfl)) (do_call Tryz.call11 rfl) trivial rfl rfl ?_
 intro v11 Sv8 w a h9 h10 hs
 subst h10
 have hw := hw.callB h9
 refine sv hs (y_not rfl) rfl fun a hs => ?_
 refine nl ?_
 refine wp_cond_split (hs.ev rfl) (fun h21 => ?_) (fun h21 => ?_)
 ·have hsh := ite_t hsh h21
  refine sr ?_
  obtain ⟨rv23, h22, hsh⟩ := bind_t hsh
  refine st_callR hs (law15_sane_ok h22 hw.bdom) (do_call Tryz.call12 rfl) trivial rfl rfl ?_
  intro v27 Sv24 w a h25 h26 hs
  subst h26
  have hw := hw.callB h25
  refine av hs rfl rfl fun a hs => ?_
  refine nl ?_
  have hsh := oi hsh
  subst hsh
  refine wp_ret ?_
  refine then_ret ?_
  exact ret1 hs rfl (rv_tmp rfl) (hw.ret rfl)
 have hsh := ite_f hsh h21
 refine wp_skip ?_
 refine then_normal ?_
 refine sr ?_
 refine mv hs rfl rfl fun a hs => ?_
 obtain ⟨rv30, h29, hsh⟩ := bind_t hsh
 refine st_callR hs (made_Roll_ok h29 hw.dom (hw.envAt 0 rfl)) (do_call Tryz.call13 rfl) trivial rfl rfl ?_
 intro v38 Sv35 w a h36 h37 hs
 obtain ⟨b31, p32, k33, rfl, h39, h34⟩ := h37
 have hw := hw.callN h36 h39
 have hw := hw.addE (e := SlA p32 rv30.L.length k33 rv30.L) h34
 refine av hs rfl rfl fun a hs => ?_
 refine nl ?_
 refine sr ?_
 refine mv hs rfl rfl fun a hs => ?_
 obtain ⟨rv41, h40, hsh⟩ := bind_t hsh
 refine st_callR hs (made_Dice_Source_ok h40 hw.dom (hw.ins [0] (by decide) rfl) (hw.envAt 0 rfl)) (do_call Tryz.call19 rfl) trivial rfl rfl ?_
 intro v48 Sv45 w a h46 h47 hs
 obtain ⟨p42, k43, rfl, h49, h44⟩ := h47
 have hw := hw.callO [0] [] (by decide) rfl h46 h49
 have hw := hw.addE (e := SlA p42 rv41.2.L.length k43 rv41.2.L) h44
 refine w_alloc (cs := [.string ByteArray.empty, .string ByteArray.empty, .string ByteArray.empty, .string ByteArray.empty]) hs hw Tryz.zeroValue31 rfl rfl trivial ?_
 intro b50 a w hs hw
 refine w_store (m := 4) (cs' := [.string rv41.1.Network, .string rv41.1.Station, .string rv41.1.Location, .string rv41.1.Channel]) hs hw 0 rfl rfl rfl Tryz.sizeOf31 rfl rfl rfl rfl trivial ?_
 intro a w hs hw
 refine nl ?_
 refine wp_seq ?_
 obtain ⟨rv52, h51, hsh⟩ := bind_t hsh
 obtain ⟨rv61, h60, hsh⟩ := bind_t hsh
 refine wp_only (fun a w => ∃ (Sv71 : Nat → Prop) (b69 : Nat) (b70 : Nat) (c56 : List Value) (c65 : List Value) (k54 : Nat) (k63 : Nat) (p53 : Option Addr) (p62 : Option Addr), Sl 197 [(1, .bool swap5), (7, .pointer (some ⟨b69, 0, none⟩)), (8, .pointer (some ⟨b70, 0, none⟩))] a ∧ Wd ⟨w0, S0, []⟩ Sv71 [.box b69 [.string rv52.1.Source.Network, .string rv52.1.Source.Station, .string rv52.1.Source.Location, .string rv52.1.Source.Channel, .int .i64 rv52.1.Start, .int .i64 rv52.1.First, .int .i64 rv52.1.Rate.Num, .int .i64 rv52.1.Rate.Den, .int .i64 rv52.1.Error, .int .i64 rv52.1.Run, .int .i64 rv52.1.Seq, .slice p53 rv52.1.Samples.length k54] 35, .box b70 [.string rv61.1.Source.Network, .string rv61.1.Source.Station, .string rv61.1.Source.Location, .string rv61.1.Source.Channel, .int .i64 rv61.1.Start, .int .i64 rv61.1.First, .int .i64 rv61.1.Rate.Num, .int .i64 rv61.1.Rate.Den, .int .i64 rv61.1.Error, .int .i64 rv61.1.Run, .int .i64 rv61.1.Seq, .slice p62 rv61.1.Samples.length k63] 35, .row p53 rv52.1.Samples.length k54 c56 3 1, .row p62 rv61.1.Samples.length k63 c65 3 1] [RowA c56 rv52.1.Samples, RowA c65 rv61.1.Samples] w) ?_ ?_
 ·refine wp_region_phi (n := 10) (Φ := fun l a w => ∃ (b69 : Nat) (b70 : Nat) (c56 : List Value) (c65 : List Value) (k54 : Nat) (k58 : Nat) (k63 : Nat) (k67 : Nat) (p53 : Option Addr) (p57 : Option Addr) (p62 : Option Addr) (p66 : Option Addr) (S : Nat → Prop), SlF 197 (D4t1 b31 b50 swap5) (D4t2 b31 b69 b70 k54 k63 p53 p62 rv41 rv52 rv61) l a ∧ Wd ⟨w0, S0, []⟩ S [.box b50 [.string rv41.1.Network, .string rv41.1.Station, .string rv41.1.Location, .string rv41.1.Channel] 31, ((bif l 5 then .box b31 [.slice p66 rv61.2.L.length k67, .int .i64 rv61.2.At] 75 else (bif l 2 then .box b31 [.slice p57 rv52.2.L.length k58, .int .i64 rv52.2.At] 75 else .box b31 [.slice p42 rv41.2.L.length k43, .int .i64 rv41.2.At] 75)) : Res), ((bif l 2 then .row p53 rv52.1.Samples.length k54 c56 3 1 else emp) : Res), ((bif l 5 then .row p62 rv61.1.Samples.length k63 c65 3 1 else emp) : Res), ((bif l 8 then .box b69 [.string rv52.1.Source.Network, .string rv52.1.Source.Station, .string rv52.1.Source.Location, .string rv52.1.Source.Channel, .int .i64 rv52.1.Start, .int .i64 rv52.1.First, .int .i64 rv52.1.Rate.Num, .int .i64 rv52.1.Rate.Den, .int .i64 rv52.1.Error, .int .i64 rv52.1.Run, .int .i64 rv52.1.Seq, .slice p53 rv52.1.Samples.length k54] 35 else (bif l 6 then .box b69 [.string ByteArray.empty, .string ByteArray.empty, .string ByteArray.empty, .string ByteArray.empty, .int .i64 0, .int .i64 0, .int .i64 0, .int .i64 0, .int .i64 0, .int .i64 0, .int .i64 0, .slice none ([] : List Int).length 0] 35 else emp)) : Res), ((bif l 9 then .box b70 [.string rv61.1.Source.Network, .string rv61.1.Source.Station, .string rv61.1.Source.Location, .string rv61.1.Source.Channel, .int .i64 rv61.1.Start, .int .i64 rv61.1.First, .int .i64 rv61.1.Rate.Num, .int .i64 rv61.1.Rate.Den, .int .i64 rv61.1.Error, .int .i64 rv61.1.Run, .int .i64 rv61.1.Seq, .slice p62 rv61.1.Samples.length k63] 35 else (bif l 7 then .box b70 [.string ByteArray.empty, .string ByteArray.empty, .string ByteArray.empty, .string ByteArray.empty, .int .i64 0, .int .i64 0, .int .i64 0, .int .i64 0, .int .i64 0, .int .i64 0, .int .i64 0, .slice none ([] : List Int).length 0] 35 else emp)) : Res)] [SlA p42 rv41.2.L.length k43 rv41.2.L, SlA p32 rv30.L.length k33 rv30.L, SlA p2 t1.length k3 t1, optA (l 2) (RowA c56 rv52.1.Samples), optA (l 2) (SlA p57 rv52.2.L.length k58 rv52.2.L), optA (l 5) (RowA c65 rv61.1.Samples), optA (l 5) (SlA p66 rv61.2.L.length k67 rv61.2.L)] w) [1, 1, 2, 1, 1, 3, 1, 1, 4, 5] (by kernel_rfl) rfl (by kernel_rfl) ?_ (AllS.succ (AllS.succ (AllS.succ (AllS.succ (AllS.succ (AllS.succ (AllS.succ (AllS.succ (AllS.succ (AllS.succ AllS.zero ?_) ?_) ?_) ?_) ?_) ?_) ?_) ?_) ?_) ?_) ?_
  ·obtain ⟨b69, b70, c56, c65, k54, k58, k63, k67, p53, p57, p62, p66, _⟩ : ∃ (b69 : Nat) (b70 : Nat) (c56 : List Value) (c65 : List Value) (k54 : Nat) (k58 : Nat) (k63 : Nat) (k67 : Nat) (p53 : Option Addr) (p57 : Option Addr) (p62 : Option Addr) (p66 : Option Addr), True := ⟨0, 0, [], [], 0, 0, 0, 0, none, none, none, none, trivial⟩
   have hw := hw.drew
   have hw := hw.emp
   have hw := hw.emp
   have hw := hw.emp
   have hw := hw.emp
   have hw := hw.noE (SlA p66 rv61.2.L.length k67 rv61.2.L)
   have hw := hw.noE (RowA c65 rv61.1.Samples)
   have hw := hw.noE (SlA p57 rv52.2.L.length k58 rv52.2.L)
   have hw := hw.noE (RowA c56 rv52.1.Samples)
   exact ⟨b69, b70, c56, c65, k54, k58, k63, k67, p53, p57, p62, p66, Sv45, SlF.init (hs.wk rfl) (by kernel_rfl), hw.ft [4, 5, 0, 1, 2, 3] [4, 5, 6, 0, 1, 2, 3] (by decide) rfl rfl⟩
  ·intro l hi hp hc a w ⟨b69, b70, c56, c65, k54, k58, k63, k67, p53, p57, p62, p66, S, hS, hw⟩
   refine S_val hS (.b (t := 5) rfl .nil) rfl rfl trivial (y_move rfl) (rfl) 0 rfl fun a hS => ⟨b69, b70, c56, c65, k54, k58, k63, k67, p53, p57, p62, p66, S, hS, hw⟩
  ·intro l hi hp hc a w ⟨b69, b70, c56, c65, k54, k58, k63, k67, p53, p57, p62, p66, S, hS, hw⟩
   refine S_val hS (.b (t := 6) rfl .nil) rfl rfl trivial (y_loadBA (hw.ownAt 0 rfl) rfl Tryz.isAgg31 Tryz.sizeOf31 rfl rfl) (rfl) 1 rfl fun a hS => ⟨b69, b70, c56, c65, k54, k58, k63, k67, p53, p57, p62, p66, S, hS, hw⟩
  ·intro l hi hp hc a w ⟨b69, b70, c56, c65, k54, k58, k63, k67, p53, p57, p62, p66, S, hS, hw⟩
   have h_5 := l_neg hc 5 hi rfl
   have hw := hw.fixR 1 (r' := .box b31 [.slice p42 rv41.2.L.length k43, .int .i64 rv41.2.At] 75) rfl ((bF h_5).trans ((bF hi)))
   have h_1 := hp 1 rfl
   have h_0 := hp 0 rfl
   refine S_eff rfl ?_
   have hs := hS.open_ (.v (t := 37) 0 rfl h_0 (.v (t := 38) 1 rfl h_1 .nil))
   refine st_callR hs (made_Dice_Record_ok h51 hw.dom (hw.ins [1] (by decide) rfl) (hw.envAt 0 rfl)) (do_call Tryz.call16 rfl) trivial rfl rfl ?_
   intro v90 Sv87 w a h88 h89 hs
   obtain ⟨p53, k54, c56, p57, k58, rfl, h91, h55, h59⟩ := h89
   have hw := hw.callO [1] [0, 2, 3, 4, 5] (by decide) rfl h88 h91
   have hw := hw.addE (e := RowA c56 rv52.1.Samples) h55
   have hw := hw.addE (e := SlA p57 rv52.2.L.length k58 rv52.2.L) h59
   have hw := hw.fixR 1 (r' := (bif l 5 then .box b31 [.slice p66 rv61.2.L.length k67, .int .i64 rv61.2.At] 75 else .box b31 [.slice p57 rv52.2.L.length k58, .int .i64 rv52.2.At] 75)) rfl ((bF h_5)).symm
   have h_8 := l_neg hc 8 hi rfl
   have hw := hw.fixR 5 (r' := (bif l 6 then .box b69 [.string ByteArray.empty, .string ByteArray.empty, .string ByteArray.empty, .string ByteArray.empty, .int .i64 0, .int .i64 0, .int .i64 0, .int .i64 0, .int .i64 0, .int .i64 0, .int .i64 0, .slice none ([] : List Int).length 0] 35 else emp)) rfl ((bF h_8))
   have hw := hw.fixR 5 (r' := (bif l 8 then .box b69 [.string rv52.1.Source.Network, .string rv52.1.Source.Station, .string rv52.1.Source.Location, .string rv52.1.Source.Channel, .int .i64 rv52.1.Start, .int .i64 rv52.1.First, .int .i64 rv52.1.Rate.Num, .int .i64 rv52.1.Rate.Den, .int .i64 rv52.1.Error, .int .i64 rv52.1.Run, .int .i64 rv52.1.Seq, .slice p53 rv52.1.Samples.length k54] 35 else (bif l 6 then .box b69 [.string ByteArray.empty, .string ByteArray.empty, .string ByteArray.empty, .string ByteArray.empty, .int .i64 0, .int .i64 0, .int .i64 0, .int .i64 0, .int .i64 0, .int .i64 0, .int .i64 0, .slice none ([] : List Int).length 0] 35 else emp))) rfl ((bF h_8)).symm
   have hw := hw.opt 1 rfl true
   have hw := hw.opt 1 rfl true
   refine nl ?_
   exact ⟨b69, b70, c56, c65, k54, k58, k63, k67, p53, p57, p62, p66, Sv87, hS.close (.v (t := 37) 0 rfl h_0 (.v (t := 38) 1 rfl h_1 .nil)) hs rfl (.same (.same (.here (.same (.same (.same (.same (.same .nil)))))))) 2 rfl, hw.ft [2, 1, 0, 4, 5, 6] [4, 5, 6, 1, 0, 9, 10] (by decide) rfl rfl⟩
  ·intro l hi hp hc a w ⟨b69, b70, c56, c65, k54, k58, k63, k67, p53, p57, p62, p66, S, hS, hw⟩
   refine S_val hS (.b (t := 5) rfl .nil) rfl rfl trivial (y_move rfl) (rfl) 3 rfl fun a hS => ⟨b69, b70, c56, c65, k54, k58, k63, k67, p53, p57, p62, p66, S, hS, hw⟩
  ·intro l hi hp hc a w ⟨b69, b70, c56, c65, k54, k58, k63, k67, p53, p57, p62, p66, S, hS, hw⟩
   refine S_val hS (.b (t := 6) rfl .nil) rfl rfl trivial (y_loadBA (hw.ownAt 0 rfl) rfl Tryz.isAgg31 Tryz.sizeOf31 rfl rfl) (rfl) 4 rfl fun a hS => ⟨b69, b70, c56, c65, k54, k58, k63, k67, p53, p57, p62, p66, S, hS, hw⟩
  ·intro l hi hp hc a w ⟨b69, b70, c56, c65, k54, k58, k63, k67, p53, p57, p62, p66, S, hS, hw⟩
   have h_2 := hp 2 rfl
   have hw := hw.fixR 1 (r' := .box b31 [.slice p57 rv52.2.L.length k58, .int .i64 rv52.2.At] 75) rfl ((bF hi).trans ((bT h_2)))
   have hw := hw.yes 4 rfl h_2
   have h_4 := hp 4 rfl
   have h_3 := hp 3 rfl
   refine S_eff rfl ?_
   have hs := hS.open_ (.v (t := 40) 3 rfl h_3 (.v (t := 41) 4 rfl h_4 .nil))
   refine st_callR hs (made_Dice_Record_ok h60 hw.dom (hw.ins [1] (by decide) rfl) (hw.envAt 0 rfl)) (do_call Tryz.call16 rfl) trivial rfl rfl ?_
   intro v100 Sv97 w a h98 h99 hs
   obtain ⟨p62, k63, c65, p66, k67, rfl, h101, h64, h68⟩ := h99
   have hw := hw.callO [1] [0, 2, 3, 4, 5] (by decide) rfl h98 h101
   have hw := hw.addE (e := RowA c65 rv61.1.Samples) h64
   have hw := hw.addE (e := SlA p66 rv61.2.L.length k67 rv61.2.L) h68
   have h_9 := l_neg hc 9 hi rfl
   have hw := hw.fixR 6 (r' := (bif l 7 then .box b70 [.string ByteArray.empty, .string ByteArray.empty, .string ByteArray.empty, .string ByteArray.empty, .int .i64 0, .int .i64 0, .int .i64 0, .int .i64 0, .int .i64 0, .int .i64 0, .int .i64 0, .slice none ([] : List Int).length 0] 35 else emp)) rfl ((bF h_9))
   have hw := hw.fixR 6 (r' := (bif l 9 then .box b70 [.string rv61.1.Source.Network, .string rv61.1.Source.Station, .string rv61.1.Source.Location, .string rv61.1.Source.Channel, .int .i64 rv61.1.Start, .int .i64 rv61.1.First, .int .i64 rv61.1.Rate.Num, .int .i64 rv61.1.Rate.Den, .int .i64 rv61.1.Error, .int .i64 rv61.1.Run, .int .i64 rv61.1.Seq, .slice p62 rv61.1.Samples.length k63] 35 else (bif l 7 then .box b70 [.string ByteArray.empty, .string ByteArray.empty, .string ByteArray.empty, .string ByteArray.empty, .int .i64 0, .int .i64 0, .int .i64 0, .int .i64 0, .int .i64 0, .int .i64 0, .int .i64 0, .slice none ([] : List Int).length 0] 35 else emp))) rfl ((bF h_9)).symm
   have hw := hw.opt 1 rfl true
   have hw := hw.opt 1 rfl true
   refine nl ?_
   exact ⟨b69, b70, c56, c65, k54, k58, k63, k67, p53, p57, p62, p66, Sv97, hS.close (.v (t := 40) 3 rfl h_3 (.v (t := 41) 4 rfl h_4 .nil)) hs rfl (.same (.same (.same (.same (.same (.here (.same (.same .nil)))))))) 5 rfl, hw.ft [2, 1, 3, 0, 5, 6] [5, 6, 7, 8, 9, 1, 0] (by decide) rfl rfl⟩
  ·intro l hi hp hc a w ⟨b69, b70, c56, c65, k54, k58, k63, k67, p53, p57, p62, p66, S, hS, hw⟩
   refine S_eff rfl ?_
   have hs := hS.open_ .nil
   refine w_alloc (cs := [.string ByteArray.empty, .string ByteArray.empty, .string ByteArray.empty, .string ByteArray.empty, .int .i64 0, .int .i64 0, .int .i64 0, .int .i64 0, .int .i64 0, .int .i64 0, .int .i64 0, .slice none ([] : List Int).length 0]) hs hw Tryz.zeroValue35 rfl rfl trivial ?_
   intro b69 a w hs hw
   have h_8 := l_neg hc 8 hi rfl
   have hw := hw.fixR 0 (r' := (bif l 8 then .box b69 [.string rv52.1.Source.Network, .string rv52.1.Source.Station, .string rv52.1.Source.Location, .string rv52.1.Source.Channel, .int .i64 rv52.1.Start, .int .i64 rv52.1.First, .int .i64 rv52.1.Rate.Num, .int .i64 rv52.1.Rate.Den, .int .i64 rv52.1.Error, .int .i64 rv52.1.Run, .int .i64 rv52.1.Seq, .slice p53 rv52.1.Samples.length k54] 35 else .box b69 [.string ByteArray.empty, .string ByteArray.empty, .string ByteArray.empty, .string ByteArray.empty, .int .i64 0, .int .i64 0, .int .i64 0, .int .i64 0, .int .i64 0, .int .i64 0, .int .i64 0, .slice none ([] : List Int).length 0] 35)) rfl ((bF h_8)).symm
   refine nl ?_
   exact ⟨b69, b70, c56, c65, k54, k58, k63, k67, p53, p57, p62, p66, S, hS.close .nil hs rfl (.same (.same (.same (.same (.same (.same (.here (.same .nil)))))))) 6 rfl, hw.ft [1, 2, 3, 4, 0, 6] [0, 1, 2, 3, 4, 5, 6] (by decide) rfl rfl⟩
  ·intro l hi hp hc a w ⟨b69, b70, c56, c65, k54, k58, k63, k67, p53, p57, p62, p66, S, hS, hw⟩
   refine S_eff rfl ?_
   have hs := hS.open_ .nil
   refine w_alloc (cs := [.string ByteArray.empty, .string ByteArray.empty, .string ByteArray.empty, .string ByteArray.empty, .int .i64 0, .int .i64 0, .int .i64 0, .int .i64 0, .int .i64 0, .int .i64 0, .int .i64 0, .slice none ([] : List Int).length 0]) hs hw Tryz.zeroValue35 rfl rfl trivial ?_
   intro b70 a w hs hw
   have h_9 := l_neg hc 9 hi rfl
   have hw := hw.fixR 0 (r' := (bif l 9 then .box b70 [.string rv61.1.Source.Network, .string rv61.1.Source.Station, .string rv61.1.Source.Location, .string rv61.1.Source.Channel, .int .i64 rv61.1.Start, .int .i64 rv61.1.First, .int .i64 rv61.1.Rate.Num, .int .i64 rv61.1.Rate.Den, .int .i64 rv61.1.Error, .int .i64 rv61.1.Run, .int .i64 rv61.1.Seq, .slice p62 rv61.1.Samples.length k63] 35 else .box b70 [.string ByteArray.empty, .string ByteArray.empty, .string ByteArray.empty, .string ByteArray.empty, .int .i64 0, .int .i64 0, .int .i64 0, .int .i64 0, .int .i64 0, .int .i64 0, .int .i64 0, .slice none ([] : List Int).length 0] 35)) rfl ((bF h_9)).symm
   refine nl ?_
   exact ⟨b69, b70, c56, c65, k54, k58, k63, k67, p53, p57, p62, p66, S, hS.close .nil hs rfl (.same (.same (.same (.same (.same (.same (.same (.here .nil)))))))) 7 rfl, hw.ft [1, 2, 3, 4, 5, 0] [0, 1, 2, 3, 4, 5, 6] (by decide) rfl rfl⟩
  ·intro l hi hp hc a w ⟨b69, b70, c56, c65, k54, k58, k63, k67, p53, p57, p62, p66, S, hS, hw⟩
   have h_6 := hp 6 rfl
   have hw := hw.fixR 4 (r' := .box b69 [.string ByteArray.empty, .string ByteArray.empty, .string ByteArray.empty, .string ByteArray.empty, .int .i64 0, .int .i64 0, .int .i64 0, .int .i64 0, .int .i64 0, .int .i64 0, .int .i64 0, .slice none ([] : List Int).length 0] 35) rfl ((bF hi).trans ((bT h_6)))
   have h_2 := hp 2 rfl
   refine S_eff rfl ?_
   have hs := hS.open_ (.v (t := 7) 6 rfl h_6 (.v (t := 39) 2 rfl h_2 .nil))
   refine w_store (m := 12) (cs' := [.string rv52.1.Source.Network, .string rv52.1.Source.Station, .string rv52.1.Source.Location, .string rv52.1.Source.Channel, .int .i64 rv52.1.Start, .int .i64 rv52.1.First, .int .i64 rv52.1.Rate.Num, .int .i64 rv52.1.Rate.Den, .int .i64 rv52.1.Error, .int .i64 rv52.1.Run, .int .i64 rv52.1.Seq, .slice p53 rv52.1.Samples.length k54]) hs hw 4 rfl rfl rfl Tryz.sizeOf35 rfl rfl rfl rfl trivial ?_
   intro a w hs hw
   refine nl ?_
   exact ⟨b69, b70, c56, c65, k54, k58, k63, k67, p53, p57, p62, p66, S, hS.close0 (.v (t := 7) 6 rfl h_6 (.v (t := 39) 2 rfl h_2 .nil)) hs rfl, hw.ft [0, 1, 2, 3, 4, 5] [0, 1, 2, 3, 4, 5, 6] (by decide) rfl rfl⟩
  ·intro l hi hp hc a w ⟨b69, b70, c56, c65, k54, k58, k63, k67, p53, p57, p62, p66, S, hS, hw⟩
   have h_7 := hp 7 rfl
   have hw := hw.fixR 5 (r' := .box b70 [.string ByteArray.empty, .string ByteArray.empty, .string ByteArray.empty, .string ByteArray.empty, .int .i64 0, .int .i64 0, .int .i64 0, .int .i64 0, .int .i64 0, .int .i64 0, .int .i64 0, .slice none ([] : List Int).length 0] 35) rfl ((bF hi).trans ((bT h_7)))
   have h_5 := hp 5 rfl
   refine S_eff rfl ?_
   have hs := hS.open_ (.v (t := 8) 7 rfl h_7 (.v (t := 42) 5 rfl h_5 .nil))
   refine w_store (m := 12) (cs' := [.string rv61.1.Source.Network, .string rv61.1.Source.Station, .string rv61.1.Source.Location, .string rv61.1.Source.Channel, .int .i64 rv61.1.Start, .int .i64 rv61.1.First, .int .i64 rv61.1.Rate.Num, .int .i64 rv61.1.Rate.Den, .int .i64 rv61.1.Error, .int .i64 rv61.1.Run, .int .i64 rv61.1.Seq, .slice p62 rv61.1.Samples.length k63]) hs hw 5 rfl rfl rfl Tryz.sizeOf35 rfl rfl rfl rfl trivial ?_
   intro a w hs hw
   refine nl ?_
   exact ⟨b69, b70, c56, c65, k54, k58, k63, k67, p53, p57, p62, p66, S, hS.close0 (.v (t := 8) 7 rfl h_7 (.v (t := 42) 5 rfl h_5 .nil)) hs rfl, hw.ft [0, 1, 2, 3, 4, 5] [0, 1, 2, 3, 4, 5, 6] (by decide) rfl rfl⟩
  intro l a w hl ⟨b69, b70, c56, c65, k54, k58, k63, k67, p53, p57, p62, p66, S, hS, hw⟩
  have hw := hw.yes 3 rfl (hl 2 (by decide))
  have hw := hw.yes 6 rfl (hl 5 (by decide))
  have hw := hw.fixR 4 (r' := .box b69 [.string rv52.1.Source.Network, .string rv52.1.Source.Station, .string rv52.1.Source.Location, .string rv52.1.Source.Channel, .int .i64 rv52.1.Start, .int .i64 rv52.1.First, .int .i64 rv52.1.Rate.Num, .int .i64 rv52.1.Rate.Den, .int .i64 rv52.1.Error, .int .i64 rv52.1.Run, .int .i64 rv52.1.Seq, .slice p53 rv52.1.Samples.length k54] 35) rfl (bT (hl 8 (by decide)))
  have hw := hw.fixR 5 (r' := .box b70 [.string rv61.1.Source.Network, .string rv61.1.Source.Station, .string rv61.1.Source.Location, .string rv61.1.Source.Channel, .int .i64 rv61.1.Start, .int .i64 rv61.1.First, .int .i64 rv61.1.Rate.Num, .int .i64 rv61.1.Rate.Den, .int .i64 rv61.1.Error, .int .i64 rv61.1.Run, .int .i64 rv61.1.Seq, .slice p62 rv61.1.Samples.length k63] 35) rfl (bT (hl 9 (by decide)))
  have hw := hw.fixR 2 (r' := .row p53 rv52.1.Samples.length k54 c56 3 1) rfl (bT (hl 2 (by decide)))
  have hw := hw.fixR 3 (r' := .row p62 rv61.1.Samples.length k63 c65 3 1) rfl (bT (hl 5 (by decide)))
  have hs := hS.on (.b (t := 1) rfl (.v (t := 7) 6 rfl (hl 6 (by decide)) (.v (t := 8) 7 rfl (hl 7 (by decide)) .nil)))
  exact ⟨S, b69, b70, c56, c65, k54, k63, p53, p62, (hs.wk rfl), (hw.ft [4, 5, 2, 3] [1, 0] (by decide) rfl rfl)⟩
 rintro a w ⟨Sv71, b69, b70, c56, c65, k54, k63, p53, p62, hs, hw⟩
 refine then_normal ?_
 refine wp_seq ?_
 refine sr ?_
 refine sv hs (y_loadBA (hw.ownAt 0 rfl) rfl Tryz.isAgg35 Tryz.sizeOf35 rfl rfl) rfl fun a hs => ?_
 refine sv hs (y_loadBA (hw.ownAt 1 rfl) rfl Tryz.isAgg35 Tryz.sizeOf35 rfl rfl) rfl fun a hs => ?_
 obtain ⟨rv103, h102, hsh⟩ := bind_t hsh
 refine st_callR hs (ref14_Same_ok h102 hw.bdom (hw.bRow 2 rfl 0 rfl) (hw.bRow 3 rfl 1 rfl)) (do_call Tryz.call20 rfl) trivial rfl rfl ?_
 intro v107 Sv104 w a h105 h106 hs
 subst h106
 have hw := hw.callB h105
 refine nl ?_
 refine wp_cond_split (hs.ev rfl) (fun h117 => ?_) (fun h117 => ?_)
 ·have hsh := ite_t hsh h117
  refine sr ?_
  obtain ⟨rv119, h118, hsh⟩ := bind_t hsh
  refine st_callR hs (law15_sane_ok h118 hw.bdom) (do_call Tryz.call12 rfl) trivial rfl rfl ?_
  intro v123 Sv120 w a h121 h122 hs
  subst h122
  have hw := hw.callB h121
  refine av hs rfl rfl fun a hs => ?_
  refine nl ?_
  have hsh := oi hsh
  subst hsh
  refine wp_ret ?_
  refine then_ret ?_
  exact ret1 hs rfl (rv_tmp rfl) (hw.ret rfl)
 have hsh := ite_f hsh h117
 refine wp_skip ?_
 refine then_normal ?_
 refine wp_seq ?_
 refine wp_only (fun a w => ∃ (Sv127 : Nat → Prop) (b125 : Nat) (b126 : Nat), Sl 197 [(1, .bool swap5), (7, .pointer (some ⟨b69, 0, none⟩)), (8, .pointer (some ⟨b70, 0, none⟩)), (9, .pointer (some ⟨b125, 0, none⟩)), (10, .pointer (some ⟨b126, 0, none⟩))] a ∧ Wd ⟨w0, S0, []⟩ Sv127 [.box b69 [.string rv52.1.Source.Network, .string rv52.1.Source.Station, .string rv52.1.Source.Location, .string rv52.1.Source.Channel, .int .i64 rv52.1.Start, .int .i64 rv52.1.First, .int .i64 rv52.1.Rate.Num, .int .i64 rv52.1.Rate.Den, .int .i64 rv52.1.Error, .int .i64 rv52.1.Run, .int .i64 rv52.1.Seq, .slice p53 rv52.1.Samples.length k54] 35, .box b70 [.string rv61.1.Source.Network, .string rv61.1.Source.Station, .string rv61.1.Source.Location, .string rv61.1.Source.Channel, .int .i64 rv61.1.Start, .int .i64 rv61.1.First, .int .i64 rv61.1.Rate.Num, .int .i64 rv61.1.Rate.Den, .int .i64 rv61.1.Error, .int .i64 rv61.1.Run, .int .i64 rv61.1.Seq, .slice p62 rv61.1.Samples.length k63] 35, .box b125 [.string rv52.1.Source.Network, .string rv52.1.Source.Station, .string rv52.1.Source.Location, .string rv52.1.Source.Channel, .int .i64 rv52.1.Start, .int .i64 rv52.1.First, .int .i64 rv52.1.Rate.Num, .int .i64 rv52.1.Rate.Den, .int .i64 rv52.1.Error, .int .i64 rv52.1.Run, .int .i64 rv52.1.Seq, .slice p53 rv52.1.Samples.length k54] 35, .box b126 [.string rv61.1.Source.Network, .string rv61.1.Source.Station, .string rv61.1.Source.Location, .string rv61.1.Source.Channel, .int .i64 rv61.1.Start, .int .i64 rv61.1.First, .int .i64 rv61.1.Rate.Num, .int .i64 rv61.1.Rate.Den, .int .i64 rv61.1.Error, .int .i64 rv61.1.Run, .int .i64 rv61.1.Seq, .slice p62 rv61.1.Samples.length k63] 35, .row p53 rv52.1.Samples.length k54 c56 3 1, .row p62 rv61.1.Samples.length k63 c65 3 1] [RowA c56 rv52.1.Samples, RowA c65 rv61.1.Samples] w) ?_ ?_
 ·refine h_b (C := Cls [.box b69 [.string rv52.1.Source.Network, .string rv52.1.Source.Station, .string rv52.1.Source.Location, .string rv52.1.Source.Channel, .int .i64 rv52.1.Start, .int .i64 rv52.1.First, .int .i64 rv52.1.Rate.Num, .int .i64 rv52.1.Rate.Den, .int .i64 rv52.1.Error, .int .i64 rv52.1.Run, .int .i64 rv52.1.Seq, .slice p53 rv52.1.Samples.length k54] 35, .box b70 [.string rv61.1.Source.Network, .string rv61.1.Source.Station, .string rv61.1.Source.Location, .string rv61.1.Source.Channel, .int .i64 rv61.1.Start, .int .i64 rv61.1.First, .int .i64 rv61.1.Rate.Num, .int .i64 rv61.1.Rate.Den, .int .i64 rv61.1.Error, .int .i64 rv61.1.Run, .int .i64 rv61.1.Seq, .slice p62 rv61.1.Samples.length k63] 35, .row p53 rv52.1.Samples.length k54 c56 3 1, .row p62 rv61.1.Samples.length k63 c65 3 1] []) (by kernel_rfl) rfl (hw.drew.cs [0, 1, 2, 3] [] rfl rfl) fun hC => ?_
  have hw := hw.drew
  refine gv hs 0 rfl rfl hC (fun w hC => y_loadBA (hC.ownAt 0 rfl) rfl Tryz.isAgg35 Tryz.sizeOf35 rfl rfl) fun a hs => ?_
  refine gv hs 1 rfl rfl hC (fun w hC => y_loadBA (hC.ownAt 1 rfl) rfl Tryz.isAgg35 Tryz.sizeOf35 rfl rfl) fun a hs => ?_
  refine h_all (rs := [2, 3]) (by kernel_rfl) rfl ?_
  refine AllH.cons rfl ?_ ?_
  ·refine w_alloc (cs := [.string ByteArray.empty, .string ByteArray.empty, .string ByteArray.empty, .string ByteArray.empty, .int .i64 0, .int .i64 0, .int .i64 0, .int .i64 0, .int .i64 0, .int .i64 0, .int .i64 0, .slice none ([] : List Int).length 0]) hs hw Tryz.zeroValue35 rfl rfl trivial ?_
   intro b125 a w hs hw
   refine h_nx (hw.cs [1, 2, 3, 4] [] rfl rfl) fun hC => ?_
   refine ho 3 rfl ?_
   refine w_alloc (cs := [.string ByteArray.empty, .string ByteArray.empty, .string ByteArray.empty, .string ByteArray.empty, .int .i64 0, .int .i64 0, .int .i64 0, .int .i64 0, .int .i64 0, .int .i64 0, .int .i64 0, .slice none ([] : List Int).length 0]) hs hw Tryz.zeroValue35 rfl rfl trivial ?_
   intro b126 a w hs hw
   refine h_nx (hw.cs [2, 3, 4, 5] [] rfl rfl) fun hC => ?_
   refine ho 4 rfl ?_
   refine w_store (m := 12) (cs' := [.string rv52.1.Source.Network, .string rv52.1.Source.Station, .string rv52.1.Source.Location, .string rv52.1.Source.Channel, .int .i64 rv52.1.Start, .int .i64 rv52.1.First, .int .i64 rv52.1.Rate.Num, .int .i64 rv52.1.Rate.Den, .int .i64 rv52.1.Error, .int .i64 rv52.1.Run, .int .i64 rv52.1.Seq, .slice p53 rv52.1.Samples.length k54]) hs hw 1 rfl rfl rfl Tryz.sizeOf35 rfl rfl rfl rfl trivial ?_
   intro a w hs hw
   refine h_nx (hw.cs [2, 3, 4, 5] [] rfl rfl) fun hC => ?_
   refine ho 5 rfl ?_
   refine w_store (m := 12) (cs' := [.string rv61.1.Source.Network, .string rv61.1.Source.Station, .string rv61.1.Source.Location, .string rv61.1.Source.Channel, .int .i64 rv61.1.Start, .int .i64 rv61.1.First, .int .i64 rv61.1.Rate.Num, .int .i64 rv61.1.Rate.Den, .int .i64 rv61.1.Error, .int .i64 rv61.1.Run, .int .i64 rv61.1.Seq, .slice p62 rv61.1.Samples.length k63]) hs hw 0 rfl rfl rfl Tryz.sizeOf35 rfl rfl rfl rfl trivial ?_
   intro a w hs hw
   refine h_nx (hw.cs [2, 3, 4, 5] [] rfl rfl) fun hC => ?_
   refine h_done (by kernel_rfl) ?_
   exact ⟨Sv71, b125, b126, (hs.wk rfl), (hw.ft [2, 3, 1, 0, 4, 5] [0, 1] (by decide) rfl rfl)⟩
  refine AllH.cons rfl ?_ ?_
  ·refine w_alloc (cs := [.string ByteArray.empty, .string ByteArray.empty, .string ByteArray.empty, .string ByteArray.empty, .int .i64 0, .int .i64 0, .int .i64 0, .int .i64 0, .int .i64 0, .int .i64 0, .int .i64 0, .slice none ([] : List Int).length 0]) hs hw Tryz.zeroValue35 rfl rfl trivial ?_
   intro b126 a w hs hw
   refine h_nx (hw.cs [1, 2, 3, 4] [] rfl rfl) fun hC => ?_
   refine ho 2 rfl ?_
   refine w_alloc (cs := [.string ByteArray.empty, .string ByteArray.empty, .string ByteArray.empty, .string ByteArray.empty, .int .i64 0, .int .i64 0, .int .i64 0, .int .i64 0, .int .i64 0, .int .i64 0, .int .i64 0, .slice none ([] : List Int).length 0]) hs hw Tryz.zeroValue35 rfl rfl trivial ?_
   intro b125 a w hs hw
   refine h_nx (hw.cs [2, 3, 4, 5] [] rfl rfl) fun hC => ?_
   refine ho 4 rfl ?_
   refine w_store (m := 12) (cs' := [.string rv52.1.Source.Network, .string rv52.1.Source.Station, .string rv52.1.Source.Location, .string rv52.1.Source.Channel, .int .i64 rv52.1.Start, .int .i64 rv52.1.First, .int .i64 rv52.1.Rate.Num, .int .i64 rv52.1.Rate.Den, .int .i64 rv52.1.Error, .int .i64 rv52.1.Run, .int .i64 rv52.1.Seq, .slice p53 rv52.1.Samples.length k54]) hs hw 0 rfl rfl rfl Tryz.sizeOf35 rfl rfl rfl rfl trivial ?_
   intro a w hs hw
   refine h_nx (hw.cs [2, 3, 4, 5] [] rfl rfl) fun hC => ?_
   refine ho 5 rfl ?_
   refine w_store (m := 12) (cs' := [.string rv61.1.Source.Network, .string rv61.1.Source.Station, .string rv61.1.Source.Location, .string rv61.1.Source.Channel, .int .i64 rv61.1.Start, .int .i64 rv61.1.First, .int .i64 rv61.1.Rate.Num, .int .i64 rv61.1.Rate.Den, .int .i64 rv61.1.Error, .int .i64 rv61.1.Run, .int .i64 rv61.1.Seq, .slice p62 rv61.1.Samples.length k63]) hs hw 1 rfl rfl rfl Tryz.sizeOf35 rfl rfl rfl rfl trivial ?_
   intro a w hs hw
   refine h_nx (hw.cs [2, 3, 4, 5] [] rfl rfl) fun hC => ?_
   refine h_done (by kernel_rfl) ?_
   exact ⟨Sv71, b125, b126, (hs.wk rfl), (hw.ft [2, 3, 0, 1, 4, 5] [0, 1] (by decide) rfl rfl)⟩
  exact AllH.nil
 rintro a w ⟨Sv127, b125, b126, hs, hw⟩
 refine then_normal ?_
 refine wp_seq ?_
 refine sr ?_
 refine sv hs (y_fieldAddr (o' := 8) Tryz.runUnderlying35 rfl Tryz.sizeOf3 rfl rfl rfl) rfl fun a hs => ?_
 refine sv hs (y_loadB1 (hw.ownAt 1 rfl) rfl Tryz.isAgg3 rfl) rfl fun a hs => ?_
 refine sv hs (y_fieldAddr (o' := 8) Tryz.runUnderlying35 rfl Tryz.sizeOf3 rfl rfl rfl) rfl fun a hs => ?_
 refine sv hs (y_loadB1 (hw.ownAt 0 rfl) rfl Tryz.isAgg3 rfl) rfl fun a hs => ?_
 refine sv hs (y_lss rfl rfl) rfl fun a hs => ?_
 refine mv hs rfl rfl fun a hs => ?_
 obtain ⟨c446, hc446, hsh⟩ := bind_t hsh
 refine wpl_join 40 (fun a w => ∃ (Sv447 : Nat → Prop), Sl 197 [(1, .bool swap5), (7, .pointer (some ⟨b69, 0, none⟩)), (8, .pointer (some ⟨b70, 0, none⟩)), (9, .pointer (some ⟨b125, 0, none⟩)), (10, .pointer (some ⟨b126, 0, none⟩)), (94, .bool c446)] a ∧ Wd ⟨w0, S0, []⟩ Sv447 [.box b69 [.string rv52.1.Source.Network, .string rv52.1.Source.Station, .string rv52.1.Source.Location, .string rv52.1.Source.Channel, .int .i64 rv52.1.Start, .int .i64 rv52.1.First, .int .i64 rv52.1.Rate.Num, .int .i64 rv52.1.Rate.Den, .int .i64 rv52.1.Error, .int .i64 rv52.1.Run, .int .i64 rv52.1.Seq, .slice p53 rv52.1.Samples.length k54] 35, .box b70 [.string rv61.1.Source.Network, .string rv61.1.Source.Station, .string rv61.1.Source.Location, .string rv61.1.Source.Channel, .int .i64 rv61.1.Start, .int .i64 rv61.1.First, .int .i64 rv61.1.Rate.Num, .int .i64 rv61.1.Rate.Den, .int .i64 rv61.1.Error, .int .i64 rv61.1.Run, .int .i64 rv61.1.Seq, .slice p62 rv61.1.Samples.length k63] 35, .box b125 [.string rv52.1.Source.Network, .string rv52.1.Source.Station, .string rv52.1.Source.Location, .string rv52.1.Source.Channel, .int .i64 rv52.1.Start, .int .i64 rv52.1.First, .int .i64 rv52.1.Rate.Num, .int .i64 rv52.1.Rate.Den, .int .i64 rv52.1.Error, .int .i64 rv52.1.Run, .int .i64 rv52.1.Seq, .slice p53 rv52.1.Samples.length k54] 35, .box b126 [.string rv61.1.Source.Network, .string rv61.1.Source.Station, .string rv61.1.Source.Location, .string rv61.1.Source.Channel, .int .i64 rv61.1.Start, .int .i64 rv61.1.First, .int .i64 rv61.1.Rate.Num, .int .i64 rv61.1.Rate.Den, .int .i64 rv61.1.Error, .int .i64 rv61.1.Run, .int .i64 rv61.1.Seq, .slice p62 rv61.1.Samples.length k63] 35, .row p53 rv52.1.Samples.length k54 c56 3 1, .row p62 rv61.1.Samples.length k63 c65 3 1] [RowA c56 rv52.1.Samples, RowA c65 rv61.1.Samples] w) ?_ ?_
 ·rcases Bool.eq_false_or_eq_true (decide (rv61.1.Error < rv52.1.Error)) with h445 | h445
  ·have hs := hs.fix 54 (.bool true) rfl (vb h445)
   have hsh := ite_t hc446 h445
   refine st_skip hs rfl rfl rfl rfl rfl fun a hs => ?_
   refine st_skip hs rfl rfl rfl rfl rfl fun a hs => ?_
   refine st_skip hs rfl rfl rfl rfl rfl fun a hs => ?_
   refine st_skip hs rfl rfl rfl rfl rfl fun a hs => ?_
   refine st_skip hs rfl rfl rfl rfl rfl fun a hs => ?_
   refine st_skip hs rfl rfl rfl rfl rfl fun a hs => ?_
   refine st_skipU hs rfl rfl rfl rfl rfl fun a hs => ?_
   refine st_skipU hs rfl rfl rfl rfl rfl fun a hs => ?_
   refine st_skipU hs rfl rfl rfl rfl rfl fun a hs => ?_
   refine st_skipU hs rfl rfl rfl rfl rfl fun a hs => ?_
   refine st_skipU hs rfl rfl rfl rfl rfl fun a hs => ?_
   refine st_skipU hs rfl rfl rfl rfl rfl fun a hs => ?_
   refine st_skipU hs rfl rfl rfl rfl rfl fun a hs => ?_
   refine st_skipU hs rfl rfl rfl rfl rfl fun a hs => ?_
   refine st_skipU hs rfl rfl rfl rfl rfl fun a hs => ?_
   refine st_skipU hs rfl rfl rfl rfl rfl fun a hs => ?_
   refine st_skipU hs rfl rfl rfl rfl rfl fun a hs => ?_
   refine st_skipU hs rfl rfl rfl rfl rfl fun a hs => ?_
   refine st_skipU hs rfl rfl rfl rfl rfl fun a hs => ?_
   refine st_skipU hs rfl rfl rfl rfl rfl fun a hs => ?_
   refine st_skipU hs rfl rfl rfl rfl rfl fun a hs => ?_
   refine st_skipU hs rfl rfl rfl rfl rfl fun a hs => ?_
   refine st_skipU hs rfl rfl rfl rfl rfl fun a hs => ?_
   refine st_skipU hs rfl rfl rfl rfl rfl fun a hs => ?_
   refine st_skipU hs rfl rfl rfl rfl rfl fun a hs => ?_
   refine st_skipU hs rfl rfl rfl rfl rfl fun a hs => ?_
   refine st_skipU hs rfl rfl rfl rfl rfl fun a hs => ?_
   refine st_skipU hs rfl rfl rfl rfl rfl fun a hs => ?_
   refine st_skipU hs rfl rfl rfl rfl rfl fun a hs => ?_
   refine st_skipU hs rfl rfl rfl rfl rfl fun a hs => ?_
   refine st_skipU hs rfl rfl rfl rfl rfl fun a hs => ?_
   refine st_skipU hs rfl rfl rfl rfl rfl fun a hs => ?_
   refine st_skipU hs rfl rfl rfl rfl rfl fun a hs => ?_
   refine st_skipU hs rfl rfl rfl rfl rfl fun a hs => ?_
   refine st_skipU hs rfl rfl rfl rfl rfl fun a hs => ?_
   refine st_skipU hs rfl rfl rfl rfl rfl fun a hs => ?_
   refine st_skipU hs rfl rfl rfl rfl rfl fun a hs => ?_
   refine st_skipU hs rfl rfl rfl rfl rfl fun a hs => ?_
   refine st_skip hs rfl rfl rfl rfl rfl fun a hs => ?_
   refine sv hs (y_pickT rfl rfl) rfl fun a hs => ?_
   refine wpList_nil ?_
   have hsh := oi hsh
   subst hsh
   refine then_normal ?_
   exact ⟨Sv127, (hs.wk rfl), (hw.ft [0, 1, 2, 3, 4, 5] [0, 1] (by decide) rfl rfl)⟩
  have hs := hs.fix 54 (.bool false) rfl (vb h445)
  have hsh := ite_f hc446 h445
  refine st_val hs (y_fieldAddr (o' := 8) Tryz.runUnderlying35 rfl Tryz.sizeOf3 rfl rfl rfl) ⟨_, rfl, rfl⟩ rfl rfl fun a hs => ?_
  refine st_val hs (y_loadB1 (hw.ownAt 1 rfl) rfl Tryz.isAgg3 rfl) ⟨_, rfl, rfl⟩ rfl rfl fun a hs => ?_
  refine st_val hs (y_fieldAddr (o' := 8) Tryz.runUnderlying35 rfl Tryz.sizeOf3 rfl rfl rfl) ⟨_, rfl, rfl⟩ rfl rfl fun a hs => ?_
  refine st_val hs (y_loadB1 (hw.ownAt 0 rfl) rfl Tryz.isAgg3 rfl) ⟨_, rfl, rfl⟩ rfl rfl fun a hs => ?_
  refine st_val hs (y_eql rfl rfl) ⟨_, rfl, rfl⟩ rfl rfl fun a hs => ?_
  refine st_val hs (y_move rfl) ⟨_, rfl, rfl⟩ rfl rfl fun a hs => ?_
  obtain ⟨c606, hc606, hsh⟩ := bind_t hsh
  refine wpl_join 33 (fun a w => ∃ (Sv607 : Nat → Prop), Sl 197 [(1, .bool swap5), (7, .pointer (some ⟨b69, 0, none⟩)), (8, .pointer (some ⟨b70, 0, none⟩)), (9, .pointer (some ⟨b125, 0, none⟩)), (10, .pointer (some ⟨b126, 0, none⟩)), (54, .bool false), (93, .bool c606)] a ∧ Wd ⟨w0, S0, []⟩ Sv607 [.box b69 [.string rv52.1.Source.Network, .string rv52.1.Source.Station, .string rv52.1.Source.Location, .string rv52.1.Source.Channel, .int .i64 rv52.1.Start, .int .i64 rv52.1.First, .int .i64 rv52.1.Rate.Num, .int .i64 rv52.1.Rate.Den, .int .i64 rv52.1.Error, .int .i64 rv52.1.Run, .int .i64 rv52.1.Seq, .slice p53 rv52.1.Samples.length k54] 35, .box b70 [.string rv61.1.Source.Network, .string rv61.1.Source.Station, .string rv61.1.Source.Location, .string rv61.1.Source.Channel, .int .i64 rv61.1.Start, .int .i64 rv61.1.First, .int .i64 rv61.1.Rate.Num, .int .i64 rv61.1.Rate.Den, .int .i64 rv61.1.Error, .int .i64 rv61.1.Run, .int .i64 rv61.1.Seq, .slice p62 rv61.1.Samples.length k63] 35, .box b125 [.string rv52.1.Source.Network, .string rv52.1.Source.Station, .string rv52.1.Source.Location, .string rv52.1.Source.Channel, .int .i64 rv52.1.Start, .int .i64 rv52.1.First, .int .i64 rv52.1.Rate.Num, .int .i64 rv52.1.Rate.Den, .int .i64 rv52.1.Error, .int .i64 rv52.1.Run, .int .i64 rv52.1.Seq, .slice p53 rv52.1.Samples.length k54] 35, .box b126 [.string rv61.1.Source.Network, .string rv61.1.Source.Station, .string rv61.1.Source.Location, .string rv61.1.Source.Channel, .int .i64 rv61.1.Start, .int .i64 rv61.1.First, .int .i64 rv61.1.Rate.Num, .int .i64 rv61.1.Rate.Den, .int .i64 rv61.1.Error, .int .i64 rv61.1.Run, .int .i64 rv61.1.Seq, .slice p62 rv61.1.Samples.length k63] 35, .row p53 rv52.1.Samples.length k54 c56 3 1, .row p62 rv61.1.Samples.length k63 c65 3 1] [RowA c56 rv52.1.Samples, RowA c65 rv61.1.Samples] w) ?_ ?_
  ·rcases Bool.eq_false_or_eq_true (rv61.1.Error == rv52.1.Error) with h605 | h605
   ·have hs := hs.fix 60 (.bool true) rfl (vb h605)
    have hsh := ite_t hc606 h605
    refine st_val hs (y_fieldAddr (o' := 9) Tryz.runUnderlying35 rfl Tryz.sizeOf3 rfl rfl rfl) ⟨_, rfl, rfl⟩ rfl rfl fun a hs => ?_
    refine st_val hs (y_loadB1 (hw.ownAt 1 rfl) rfl Tryz.isAgg3 rfl) ⟨_, rfl, rfl⟩ rfl rfl fun a hs => ?_
    refine st_val hs (y_fieldAddr (o' := 9) Tryz.runUnderlying35 rfl Tryz.sizeOf3 rfl rfl rfl) ⟨_, rfl, rfl⟩ rfl rfl fun a hs => ?_
    refine st_val hs (y_loadB1 (hw.ownAt 0 rfl) rfl Tryz.isAgg3 rfl) ⟨_, rfl, rfl⟩ rfl rfl fun a hs => ?_
    refine st_val hs (y_gtr rfl rfl) ⟨_, rfl, rfl⟩ rfl rfl fun a hs => ?_
    refine st_val hs (y_move rfl) ⟨_, rfl, rfl⟩ rfl rfl fun a hs => ?_
    obtain ⟨c686, hc686, hsh⟩ := bind_t hsh
    refine wpl_join 26 (fun a w => ∃ (Sv687 : Nat → Prop), Sl 197 [(1, .bool swap5), (7, .pointer (some ⟨b69, 0, none⟩)), (8, .pointer (some ⟨b70, 0, none⟩)), (9, .pointer (some ⟨b125, 0, none⟩)), (10, .pointer (some ⟨b126, 0, none⟩)), (54, .bool false), (60, .bool true), (92, .bool c686)] a ∧ Wd ⟨w0, S0, []⟩ Sv687 [.box b69 [.string rv52.1.Source.Network, .string rv52.1.Source.Station, .string rv52.1.Source.Location, .string rv52.1.Source.Channel, .int .i64 rv52.1.Start, .int .i64 rv52.1.First, .int .i64 rv52.1.Rate.Num, .int .i64 rv52.1.Rate.Den, .int .i64 rv52.1.Error, .int .i64 rv52.1.Run, .int .i64 rv52.1.Seq, .slice p53 rv52.1.Samples.length k54] 35, .box b70 [.string rv61.1.Source.Network, .string rv61.1.Source.Station, .string rv61.1.Source.Location, .string rv61.1.Source.Channel, .int .i64 rv61.1.Start, .int .i64 rv61.1.First, .int .i64 rv61.1.Rate.Num, .int .i64 rv61.1.Rate.Den, .int .i64 rv61.1.Error, .int .i64 rv61.1.Run, .int .i64 rv61.1.Seq, .slice p62 rv61.1.Samples.length k63] 35, .box b125 [.string rv52.1.Source.Network, .string rv52.1.Source.Station, .string rv52.1.Source.Location, .string rv52.1.Source.Channel, .int .i64 rv52.1.Start, .int .i64 rv52.1.First, .int .i64 rv52.1.Rate.Num, .int .i64 rv52.1.Rate.Den, .int .i64 rv52.1.Error, .int .i64 rv52.1.Run, .int .i64 rv52.1.Seq, .slice p53 rv52.1.Samples.length k54] 35, .box b126 [.string rv61.1.Source.Network, .string rv61.1.Source.Station, .string rv61.1.Source.Location, .string rv61.1.Source.Channel, .int .i64 rv61.1.Start, .int .i64 rv61.1.First, .int .i64 rv61.1.Rate.Num, .int .i64 rv61.1.Rate.Den, .int .i64 rv61.1.Error, .int .i64 rv61.1.Run, .int .i64 rv61.1.Seq, .slice p62 rv61.1.Samples.length k63] 35, .row p53 rv52.1.Samples.length k54 c56 3 1, .row p62 rv61.1.Samples.length k63 c65 3 1] [RowA c56 rv52.1.Samples, RowA c65 rv61.1.Samples] w) ?_ ?_
    ·rcases Bool.eq_false_or_eq_true (decide (rv52.1.Run < rv61.1.Run)) with h685 | h685
     ·have hs := hs.fix 66 (.bool true) rfl (vb h685)
      have hsh := ite_t hc686 h685
      refine st_skip hs rfl rfl rfl rfl rfl fun a hs => ?_
      refine st_skip hs rfl rfl rfl rfl rfl fun a hs => ?_
      refine st_skip hs rfl rfl rfl rfl rfl fun a hs => ?_
      refine st_skip hs rfl rfl rfl rfl rfl fun a hs => ?_
      refine st_skip hs rfl rfl rfl rfl rfl fun a hs => ?_
      refine st_skip hs rfl rfl rfl rfl rfl fun a hs => ?_
      refine st_skipU hs rfl rfl rfl rfl rfl fun a hs => ?_
      refine st_skipU hs rfl rfl rfl rfl rfl fun a hs => ?_
      refine st_skipU hs rfl rfl rfl rfl rfl fun a hs => ?_
      refine st_skipU hs rfl rfl rfl rfl rfl fun a hs => ?_
      refine st_skipU hs rfl rfl rfl rfl rfl fun a hs => ?_
      refine st_skipU hs rfl rfl rfl rfl rfl fun a hs => ?_
      refine st_skipU hs rfl rfl rfl rfl rfl fun a hs => ?_
      refine st_skipU hs rfl rfl rfl rfl rfl fun a hs => ?_
      refine st_skipU hs rfl rfl rfl rfl rfl fun a hs => ?_
      refine st_skipU hs rfl rfl rfl rfl rfl fun a hs => ?_
      refine st_skipU hs rfl rfl rfl rfl rfl fun a hs => ?_
      refine st_skipU hs rfl rfl rfl rfl rfl fun a hs => ?_
      refine st_skipU hs rfl rfl rfl rfl rfl fun a hs => ?_
      refine st_skipU hs rfl rfl rfl rfl rfl fun a hs => ?_
      refine st_skipU hs rfl rfl rfl rfl rfl fun a hs => ?_
      refine st_skipU hs rfl rfl rfl rfl rfl fun a hs => ?_
      refine st_skipU hs rfl rfl rfl rfl rfl fun a hs => ?_
      refine st_skipU hs rfl rfl rfl rfl rfl fun a hs => ?_
      refine st_skip hs rfl rfl rfl rfl rfl fun a hs => ?_
      refine st_val hs (y_pickT rfl rfl) ⟨_, rfl, rfl⟩ rfl rfl fun a hs => ?_
      refine wpList_nil ?_
      have hsh := oi hsh
      subst hsh
      refine then_normal ?_
      exact ⟨Sv127, (hs.wk rfl), (hw.ft [0, 1, 2, 3, 4, 5] [0, 1] (by decide) rfl rfl)⟩
     have hs := hs.fix 66 (.bool false) rfl (vb h685)
     have hsh := ite_f hc686 h685
     refine st_val hs (y_fieldAddr (o' := 9) Tryz.runUnderlying35 rfl Tryz.sizeOf3 rfl rfl rfl) ⟨_, rfl, rfl⟩ rfl rfl fun a hs => ?_
     refine st_val hs (y_loadB1 (hw.ownAt 1 rfl) rfl Tryz.isAgg3 rfl) ⟨_, rfl, rfl⟩ rfl rfl fun a hs => ?_
     refine st_val hs (y_fieldAddr (o' := 9) Tryz.runUnderlying35 rfl Tryz.sizeOf3 rfl rfl rfl) ⟨_, rfl, rfl⟩ rfl rfl fun a hs => ?_
     refine st_val hs (y_loadB1 (hw.ownAt 0 rfl) rfl Tryz.isAgg3 rfl) ⟨_, rfl, rfl⟩ rfl rfl fun a hs => ?_
     refine st_val hs (y_eql rfl rfl) ⟨_, rfl, rfl⟩ rfl rfl fun a hs => ?_
     refine st_val hs (y_move rfl) ⟨_, rfl, rfl⟩ rfl rfl fun a hs => ?_
     obtain ⟨c726, hc726, hsh⟩ := bind_t hsh
     refine wpl_join 19 (fun a w => ∃ (Sv727 : Nat → Prop), Sl 197 [(1, .bool swap5), (7, .pointer (some ⟨b69, 0, none⟩)), (8, .pointer (some ⟨b70, 0, none⟩)), (9, .pointer (some ⟨b125, 0, none⟩)), (10, .pointer (some ⟨b126, 0, none⟩)), (54, .bool false), (60, .bool true), (66, .bool false), (91, .bool c726)] a ∧ Wd ⟨w0, S0, []⟩ Sv727 [.box b69 [.string rv52.1.Source.Network, .string rv52.1.Source.Station, .string rv52.1.Source.Location, .string rv52.1.Source.Channel, .int .i64 rv52.1.Start, .int .i64 rv52.1.First, .int .i64 rv52.1.Rate.Num, .int .i64 rv52.1.Rate.Den, .int .i64 rv52.1.Error, .int .i64 rv52.1.Run, .int .i64 rv52.1.Seq, .slice p53 rv52.1.Samples.length k54] 35, .box b70 [.string rv61.1.Source.Network, .string rv61.1.Source.Station, .string rv61.1.Source.Location, .string rv61.1.Source.Channel, .int .i64 rv61.1.Start, .int .i64 rv61.1.First, .int .i64 rv61.1.Rate.Num, .int .i64 rv61.1.Rate.Den, .int .i64 rv61.1.Error, .int .i64 rv61.1.Run, .int .i64 rv61.1.Seq, .slice p62 rv61.1.Samples.length k63] 35, .box b125 [.string rv52.1.Source.Network, .string rv52.1.Source.Station, .string rv52.1.Source.Location, .string rv52.1.Source.Channel, .int .i64 rv52.1.Start, .int .i64 rv52.1.First, .int .i64 rv52.1.Rate.Num, .int .i64 rv52.1.Rate.Den, .int .i64 rv52.1.Error, .int .i64 rv52.1.Run, .int .i64 rv52.1.Seq, .slice p53 rv52.1.Samples.length k54] 35, .box b126 [.string rv61.1.Source.Network, .string rv61.1.Source.Station, .string rv61.1.Source.Location, .string rv61.1.Source.Channel, .int .i64 rv61.1.Start, .int .i64 rv61.1.First, .int .i64 rv61.1.Rate.Num, .int .i64 rv61.1.Rate.Den, .int .i64 rv61.1.Error, .int .i64 rv61.1.Run, .int .i64 rv61.1.Seq, .slice p62 rv61.1.Samples.length k63] 35, .row p53 rv52.1.Samples.length k54 c56 3 1, .row p62 rv61.1.Samples.length k63 c65 3 1] [RowA c56 rv52.1.Samples, RowA c65 rv61.1.Samples] w) ?_ ?_
     ·rcases Bool.eq_false_or_eq_true (rv61.1.Run == rv52.1.Run) with h725 | h725
      ·have hs := hs.fix 72 (.bool true) rfl (vb h725)
       have hsh := ite_t hc726 h725
       refine st_val hs (y_fieldAddr (o' := 10) Tryz.runUnderlying35 rfl Tryz.sizeOf3 rfl rfl rfl) ⟨_, rfl, rfl⟩ rfl rfl fun a hs => ?_
       refine st_val hs (y_loadB1 (hw.ownAt 1 rfl) rfl Tryz.isAgg3 rfl) ⟨_, rfl, rfl⟩ rfl rfl fun a hs => ?_
       refine st_val hs (y_fieldAddr (o' := 10) Tryz.runUnderlying35 rfl Tryz.sizeOf3 rfl rfl rfl) ⟨_, rfl, rfl⟩ rfl rfl fun a hs => ?_
       refine st_val hs (y_loadB1 (hw.ownAt 0 rfl) rfl Tryz.isAgg3 rfl) ⟨_, rfl, rfl⟩ rfl rfl fun a hs => ?_
       refine st_val hs (y_gtr rfl rfl) ⟨_, rfl, rfl⟩ rfl rfl fun a hs => ?_
       refine st_val hs (y_move rfl) ⟨_, rfl, rfl⟩ rfl rfl fun a hs => ?_
       obtain ⟨c746, hc746, hsh⟩ := bind_t hsh
       refine wpl_join 12 (fun a w => ∃ (Sv747 : Nat → Prop), Sl 197 [(1, .bool swap5), (7, .pointer (some ⟨b69, 0, none⟩)), (8, .pointer (some ⟨b70, 0, none⟩)), (9, .pointer (some ⟨b125, 0, none⟩)), (10, .pointer (some ⟨b126, 0, none⟩)), (54, .bool false), (60, .bool true), (66, .bool false), (72, .bool true), (90, .bool c746)] a ∧ Wd ⟨w0, S0, []⟩ Sv747 [.box b69 [.string rv52.1.Source.Network, .string rv52.1.Source.Station, .string rv52.1.Source.Location, .string rv52.1.Source.Channel, .int .i64 rv52.1.Start, .int .i64 rv52.1.First, .int .i64 rv52.1.Rate.Num, .int .i64 rv52.1.Rate.Den, .int .i64 rv52.1.Error, .int .i64 rv52.1.Run, .int .i64 rv52.1.Seq, .slice p53 rv52.1.Samples.length k54] 35, .box b70 [.string rv61.1.Source.Network, .string rv61.1.Source.Station, .string rv61.1.Source.Location, .string rv61.1.Source.Channel, .int .i64 rv61.1.Start, .int .i64 rv61.1.First, .int .i64 rv61.1.Rate.Num, .int .i64 rv61.1.Rate.Den, .int .i64 rv61.1.Error, .int .i64 rv61.1.Run, .int .i64 rv61.1.Seq, .slice p62 rv61.1.Samples.length k63] 35, .box b125 [.string rv52.1.Source.Network, .string rv52.1.Source.Station, .string rv52.1.Source.Location, .string rv52.1.Source.Channel, .int .i64 rv52.1.Start, .int .i64 rv52.1.First, .int .i64 rv52.1.Rate.Num, .int .i64 rv52.1.Rate.Den, .int .i64 rv52.1.Error, .int .i64 rv52.1.Run, .int .i64 rv52.1.Seq, .slice p53 rv52.1.Samples.length k54] 35, .box b126 [.string rv61.1.Source.Network, .string rv61.1.Source.Station, .string rv61.1.Source.Location, .string rv61.1.Source.Channel, .int .i64 rv61.1.Start, .int .i64 rv61.1.First, .int .i64 rv61.1.Rate.Num, .int .i64 rv61.1.Rate.Den, .int .i64 rv61.1.Error, .int .i64 rv61.1.Run, .int .i64 rv61.1.Seq, .slice p62 rv61.1.Samples.length k63] 35, .row p53 rv52.1.Samples.length k54 c56 3 1, .row p62 rv61.1.Samples.length k63 c65 3 1] [RowA c56 rv52.1.Samples, RowA c65 rv61.1.Samples] w) ?_ ?_
       ·rcases Bool.eq_false_or_eq_true (decide (rv52.1.Seq < rv61.1.Seq)) with h745 | h745
        ·have hs := hs.fix 78 (.bool true) rfl (vb h745)
         have hsh := ite_t hc746 h745
         refine st_skip hs rfl rfl rfl rfl rfl fun a hs => ?_
         refine st_skip hs rfl rfl rfl rfl rfl fun a hs => ?_
         refine st_skip hs rfl rfl rfl rfl rfl fun a hs => ?_
         refine st_skip hs rfl rfl rfl rfl rfl fun a hs => ?_
         refine st_skip hs rfl rfl rfl rfl rfl fun a hs => ?_
         refine st_skip hs rfl rfl rfl rfl rfl fun a hs => ?_
         refine st_skipU hs rfl rfl rfl rfl rfl fun a hs => ?_
         refine st_skipU hs rfl rfl rfl rfl rfl fun a hs => ?_
         refine st_skipU hs rfl rfl rfl rfl rfl fun a hs => ?_
         refine st_skipU hs rfl rfl rfl rfl rfl fun a hs => ?_
         refine st_skip hs rfl rfl rfl rfl rfl fun a hs => ?_
         refine st_val hs (y_pickT rfl rfl) ⟨_, rfl, rfl⟩ rfl rfl fun a hs => ?_
         refine wpList_nil ?_
         have hsh := oi hsh
         subst hsh
         refine then_normal ?_
         exact ⟨Sv127, (hs.wk rfl), (hw.ft [0, 1, 2, 3, 4, 5] [0, 1] (by decide) rfl rfl)⟩
        have hs := hs.fix 78 (.bool false) rfl (vb h745)
        have hsh := ite_f hc746 h745
        refine st_val hs (y_fieldAddr (o' := 10) Tryz.runUnderlying35 rfl Tryz.sizeOf3 rfl rfl rfl) ⟨_, rfl, rfl⟩ rfl rfl fun a hs => ?_
        refine st_val hs (y_loadB1 (hw.ownAt 1 rfl) rfl Tryz.isAgg3 rfl) ⟨_, rfl, rfl⟩ rfl rfl fun a hs => ?_
        refine st_val hs (y_fieldAddr (o' := 10) Tryz.runUnderlying35 rfl Tryz.sizeOf3 rfl rfl rfl) ⟨_, rfl, rfl⟩ rfl rfl fun a hs => ?_
        refine st_val hs (y_loadB1 (hw.ownAt 0 rfl) rfl Tryz.isAgg3 rfl) ⟨_, rfl, rfl⟩ rfl rfl fun a hs => ?_
        refine st_val hs (y_eql rfl rfl) ⟨_, rfl, rfl⟩ rfl rfl fun a hs => ?_
        refine st_val hs (y_move rfl) ⟨_, rfl, rfl⟩ rfl rfl fun a hs => ?_
        obtain ⟨c756, hc756, hsh⟩ := bind_t hsh
        refine wpl_join 5 (fun a w => ∃ (Sv757 : Nat → Prop), Sl 197 [(1, .bool swap5), (7, .pointer (some ⟨b69, 0, none⟩)), (8, .pointer (some ⟨b70, 0, none⟩)), (9, .pointer (some ⟨b125, 0, none⟩)), (10, .pointer (some ⟨b126, 0, none⟩)), (54, .bool false), (60, .bool true), (66, .bool false), (72, .bool true), (78, .bool false), (89, .bool c756)] a ∧ Wd ⟨w0, S0, []⟩ Sv757 [.box b69 [.string rv52.1.Source.Network, .string rv52.1.Source.Station, .string rv52.1.Source.Location, .string rv52.1.Source.Channel, .int .i64 rv52.1.Start, .int .i64 rv52.1.First, .int .i64 rv52.1.Rate.Num, .int .i64 rv52.1.Rate.Den, .int .i64 rv52.1.Error, .int .i64 rv52.1.Run, .int .i64 rv52.1.Seq, .slice p53 rv52.1.Samples.length k54] 35, .box b70 [.string rv61.1.Source.Network, .string rv61.1.Source.Station, .string rv61.1.Source.Location, .string rv61.1.Source.Channel, .int .i64 rv61.1.Start, .int .i64 rv61.1.First, .int .i64 rv61.1.Rate.Num, .int .i64 rv61.1.Rate.Den, .int .i64 rv61.1.Error, .int .i64 rv61.1.Run, .int .i64 rv61.1.Seq, .slice p62 rv61.1.Samples.length k63] 35, .box b125 [.string rv52.1.Source.Network, .string rv52.1.Source.Station, .string rv52.1.Source.Location, .string rv52.1.Source.Channel, .int .i64 rv52.1.Start, .int .i64 rv52.1.First, .int .i64 rv52.1.Rate.Num, .int .i64 rv52.1.Rate.Den, .int .i64 rv52.1.Error, .int .i64 rv52.1.Run, .int .i64 rv52.1.Seq, .slice p53 rv52.1.Samples.length k54] 35, .box b126 [.string rv61.1.Source.Network, .string rv61.1.Source.Station, .string rv61.1.Source.Location, .string rv61.1.Source.Channel, .int .i64 rv61.1.Start, .int .i64 rv61.1.First, .int .i64 rv61.1.Rate.Num, .int .i64 rv61.1.Rate.Den, .int .i64 rv61.1.Error, .int .i64 rv61.1.Run, .int .i64 rv61.1.Seq, .slice p62 rv61.1.Samples.length k63] 35, .row p53 rv52.1.Samples.length k54 c56 3 1, .row p62 rv61.1.Samples.length k63 c65 3 1] [RowA c56 rv52.1.Samples, RowA c65 rv61.1.Samples] w) ?_ ?_
        ·rcases Bool.eq_false_or_eq_true (rv61.1.Seq == rv52.1.Seq) with h755 | h755
         ·have hs := hs.fix 84 (.bool true) rfl (vb h755)
          have hsh := ite_t hc756 h755
          refine st_val hs (y_loadBA (hw.ownAt 1 rfl) rfl Tryz.isAgg35 Tryz.sizeOf35 rfl rfl) ⟨_, rfl, rfl⟩ rfl rfl fun a hs => ?_
          refine st_val hs (y_loadBA (hw.ownAt 0 rfl) rfl Tryz.isAgg35 Tryz.sizeOf35 rfl rfl) ⟨_, rfl, rfl⟩ rfl rfl fun a hs => ?_
          obtain ⟨rv759, h758, hsh⟩ := bind_t hsh
          refine st_callR hs (ref14_Compare_ok h758 hw.bdom (hw.bRow 5 rfl 1 rfl) (hw.bRow 4 rfl 0 rfl)) (do_call Tryz.call21 rfl) ⟨_, rfl, rfl⟩ rfl rfl ?_
          intro v763 Sv760 w a h761 h762 hs
          subst h762
          have hw := hw.callB h761
          refine st_val hs (y_lss rfl rfl) ⟨_, rfl, rfl⟩ rfl rfl fun a hs => ?_
          refine st_val hs (y_pickT rfl rfl) ⟨_, rfl, rfl⟩ rfl rfl fun a hs => ?_
          refine wpList_nil ?_
          have hsh := oi hsh
          subst hsh
          refine then_normal ?_
          exact ⟨Sv127, (hs.wk rfl), (hw.ft [0, 1, 2, 3, 4, 5] [0, 1] (by decide) rfl rfl)⟩
         have hs := hs.fix 84 (.bool false) rfl (vb h755)
         have hsh := ite_f hc756 h755
         refine st_skip hs rfl rfl rfl rfl rfl fun a hs => ?_
         refine st_skip hs rfl rfl rfl rfl rfl fun a hs => ?_
         refine st_skip hs rfl rfl rfl rfl rfl fun a hs => ?_
         refine st_skip hs rfl rfl rfl rfl rfl fun a hs => ?_
         refine st_val hs (y_pickF rfl rfl) ⟨_, rfl, rfl⟩ rfl rfl fun a hs => ?_
         refine wpList_nil ?_
         have hsh := oi hsh
         subst hsh
         refine then_normal ?_
         exact ⟨Sv127, (hs.wk rfl), (hw.ft [0, 1, 2, 3, 4, 5] [0, 1] (by decide) rfl rfl)⟩
        rintro a w ⟨Sv757, hs, hw⟩
        refine st_val hs (y_pickF rfl rfl) ⟨_, rfl, rfl⟩ rfl rfl fun a hs => ?_
        refine wpList_nil ?_
        have hsh := oi hsh
        subst hsh
        refine then_normal ?_
        exact ⟨Sv757, (hs.wk rfl), (hw.ft [0, 1, 2, 3, 4, 5] [0, 1] (by decide) rfl rfl)⟩
       rintro a w ⟨Sv747, hs, hw⟩
       refine st_val hs (y_pickT rfl rfl) ⟨_, rfl, rfl⟩ rfl rfl fun a hs => ?_
       refine wpList_nil ?_
       have hsh := oi hsh
       subst hsh
       refine then_normal ?_
       exact ⟨Sv747, (hs.wk rfl), (hw.ft [0, 1, 2, 3, 4, 5] [0, 1] (by decide) rfl rfl)⟩
      have hs := hs.fix 72 (.bool false) rfl (vb h725)
      have hsh := ite_f hc726 h725
      refine st_skip hs rfl rfl rfl rfl rfl fun a hs => ?_
      refine st_skip hs rfl rfl rfl rfl rfl fun a hs => ?_
      refine st_skip hs rfl rfl rfl rfl rfl fun a hs => ?_
      refine st_skip hs rfl rfl rfl rfl rfl fun a hs => ?_
      refine st_skip hs rfl rfl rfl rfl rfl fun a hs => ?_
      refine st_skip hs rfl rfl rfl rfl rfl fun a hs => ?_
      refine st_skipU hs rfl rfl rfl rfl rfl fun a hs => ?_
      refine st_skipU hs rfl rfl rfl rfl rfl fun a hs => ?_
      refine st_skipU hs rfl rfl rfl rfl rfl fun a hs => ?_
      refine st_skipU hs rfl rfl rfl rfl rfl fun a hs => ?_
      refine st_skipU hs rfl rfl rfl rfl rfl fun a hs => ?_
      refine st_skipU hs rfl rfl rfl rfl rfl fun a hs => ?_
      refine st_skipU hs rfl rfl rfl rfl rfl fun a hs => ?_
      refine st_skipU hs rfl rfl rfl rfl rfl fun a hs => ?_
      refine st_skipU hs rfl rfl rfl rfl rfl fun a hs => ?_
      refine st_skipU hs rfl rfl rfl rfl rfl fun a hs => ?_
      refine st_skipU hs rfl rfl rfl rfl rfl fun a hs => ?_
      refine st_skip hs rfl rfl rfl rfl rfl fun a hs => ?_
      refine st_val hs (y_pickF rfl rfl) ⟨_, rfl, rfl⟩ rfl rfl fun a hs => ?_
      refine wpList_nil ?_
      have hsh := oi hsh
      subst hsh
      refine then_normal ?_
      exact ⟨Sv127, (hs.wk rfl), (hw.ft [0, 1, 2, 3, 4, 5] [0, 1] (by decide) rfl rfl)⟩
     rintro a w ⟨Sv727, hs, hw⟩
     refine st_val hs (y_pickF rfl rfl) ⟨_, rfl, rfl⟩ rfl rfl fun a hs => ?_
     refine wpList_nil ?_
     have hsh := oi hsh
     subst hsh
     refine then_normal ?_
     exact ⟨Sv727, (hs.wk rfl), (hw.ft [0, 1, 2, 3, 4, 5] [0, 1] (by decide) rfl rfl)⟩
    rintro a w ⟨Sv687, hs, hw⟩
    refine st_val hs (y_pickT rfl rfl) ⟨_, rfl, rfl⟩ rfl rfl fun a hs => ?_
    refine wpList_nil ?_
    have hsh := oi hsh
    subst hsh
    refine then_normal ?_
    exact ⟨Sv687, (hs.wk rfl), (hw.ft [0, 1, 2, 3, 4, 5] [0, 1] (by decide) rfl rfl)⟩
   have hs := hs.fix 60 (.bool false) rfl (vb h605)
   have hsh := ite_f hc606 h605
   refine st_skip hs rfl rfl rfl rfl rfl fun a hs => ?_
   refine st_skip hs rfl rfl rfl rfl rfl fun a hs => ?_
   refine st_skip hs rfl rfl rfl rfl rfl fun a hs => ?_
   refine st_skip hs rfl rfl rfl rfl rfl fun a hs => ?_
   refine st_skip hs rfl rfl rfl rfl rfl fun a hs => ?_
   refine st_skip hs rfl rfl rfl rfl rfl fun a hs => ?_
   refine st_skipU hs rfl rfl rfl rfl rfl fun a hs => ?_
   refine st_skipU hs rfl rfl rfl rfl rfl fun a hs => ?_
   refine st_skipU hs rfl rfl rfl rfl rfl fun a hs => ?_
   refine st_skipU hs rfl rfl rfl rfl rfl fun a hs => ?_
   refine st_skipU hs rfl rfl rfl rfl rfl fun a hs => ?_
   refine st_skipU hs rfl rfl rfl rfl rfl fun a hs => ?_
   refine st_skipU hs rfl rfl rfl rfl rfl fun a hs => ?_
   refine st_skipU hs rfl rfl rfl rfl rfl fun a hs => ?_
   refine st_skipU hs rfl rfl rfl rfl rfl fun a hs => ?_
   refine st_skipU hs rfl rfl rfl rfl rfl fun a hs => ?_
   refine st_skipU hs rfl rfl rfl rfl rfl fun a hs => ?_
   refine st_skipU hs rfl rfl rfl rfl rfl fun a hs => ?_
   refine st_skipU hs rfl rfl rfl rfl rfl fun a hs => ?_
   refine st_skipU hs rfl rfl rfl rfl rfl fun a hs => ?_
   refine st_skipU hs rfl rfl rfl rfl rfl fun a hs => ?_
   refine st_skipU hs rfl rfl rfl rfl rfl fun a hs => ?_
   refine st_skipU hs rfl rfl rfl rfl rfl fun a hs => ?_
   refine st_skipU hs rfl rfl rfl rfl rfl fun a hs => ?_
   refine st_skipU hs rfl rfl rfl rfl rfl fun a hs => ?_
   refine st_skipU hs rfl rfl rfl rfl rfl fun a hs => ?_
   refine st_skipU hs rfl rfl rfl rfl rfl fun a hs => ?_
   refine st_skipU hs rfl rfl rfl rfl rfl fun a hs => ?_
   refine st_skipU hs rfl rfl rfl rfl rfl fun a hs => ?_
   refine st_skipU hs rfl rfl rfl rfl rfl fun a hs => ?_
   refine st_skipU hs rfl rfl rfl rfl rfl fun a hs => ?_
   refine st_skip hs rfl rfl rfl rfl rfl fun a hs => ?_
   refine st_val hs (y_pickF rfl rfl) ⟨_, rfl, rfl⟩ rfl rfl fun a hs => ?_
   refine wpList_nil ?_
   have hsh := oi hsh
   subst hsh
   refine then_normal ?_
   exact ⟨Sv127, (hs.wk rfl), (hw.ft [0, 1, 2, 3, 4, 5] [0, 1] (by decide) rfl rfl)⟩
  rintro a w ⟨Sv607, hs, hw⟩
  refine sv hs (y_pickF rfl rfl) rfl fun a hs => ?_
  refine wpList_nil ?_
  have hsh := oi hsh
  subst hsh
  refine then_normal ?_
  exact ⟨Sv607, (hs.wk rfl), (hw.ft [0, 1, 2, 3, 4, 5] [0, 1] (by decide) rfl rfl)⟩
 rintro a w ⟨Sv447, hs, hw⟩
 refine nl ?_
 refine wp_join (fun a w => ∃ (x772 : ByteArray) (x773 : ByteArray) (x774 : ByteArray) (x775 : ByteArray) (x776 : Int) (x777 : Int) (x778 : Int) (x779 : Int) (x780 : Int) (x781 : Int) (x782 : Int) (x783 : (List Int)) (x784 : ByteArray) (x785 : ByteArray) (x786 : ByteArray) (x787 : ByteArray) (x788 : Int) (x789 : Int) (x790 : Int) (x791 : Int) (x792 : Int) (x793 : Int) (x794 : Int) (x795 : (List Int)) (p767 : Option Addr) (k768 : Nat) (p769 : Option Addr) (k770 : Nat) (Sv771 : Nat → Prop), law15_ComposePriority_j1 swap5 rv52 rv61 x772 x773 x774 x775 x776 x777 x778 x779 x780 x781 x782 x783 x784 x785 x786 x787 x788 x789 x790 x791 x792 x793 x794 x795 = some r ∧ Sl 197 [(1, .bool swap5), (7, .pointer (some ⟨b69, 0, none⟩)), (8, .pointer (some ⟨b70, 0, none⟩)), (9, .pointer (some ⟨b125, 0, none⟩)), (10, .pointer (some ⟨b126, 0, none⟩))] a ∧ Wd ⟨w0, S0, []⟩ Sv771 [.box b69 [.string rv52.1.Source.Network, .string rv52.1.Source.Station, .string rv52.1.Source.Location, .string rv52.1.Source.Channel, .int .i64 rv52.1.Start, .int .i64 rv52.1.First, .int .i64 rv52.1.Rate.Num, .int .i64 rv52.1.Rate.Den, .int .i64 rv52.1.Error, .int .i64 rv52.1.Run, .int .i64 rv52.1.Seq, .slice p53 rv52.1.Samples.length k54] 35, .box b70 [.string rv61.1.Source.Network, .string rv61.1.Source.Station, .string rv61.1.Source.Location, .string rv61.1.Source.Channel, .int .i64 rv61.1.Start, .int .i64 rv61.1.First, .int .i64 rv61.1.Rate.Num, .int .i64 rv61.1.Rate.Den, .int .i64 rv61.1.Error, .int .i64 rv61.1.Run, .int .i64 rv61.1.Seq, .slice p62 rv61.1.Samples.length k63] 35, .box b125 [.string x772, .string x773, .string x774, .string x775, .int .i64 x776, .int .i64 x777, .int .i64 x778, .int .i64 x779, .int .i64 x780, .int .i64 x781, .int .i64 x782, .slice p767 x783.length k768] 35, .box b126 [.string x784, .string x785, .string x786, .string x787, .int .i64 x788, .int .i64 x789, .int .i64 x790, .int .i64 x791, .int .i64 x792, .int .i64 x793, .int .i64 x794, .slice p769 x795.length k770] 35] [SlA p53 rv52.1.Samples.length k54 rv52.1.Samples, SlA p62 rv61.1.Samples.length k63 rv61.1.Samples, SlA p767 x783.length k768 x783, SlA p769 x795.length k770 x795] w) ?_ ?_
 ·refine wp_cond_split (hs.ev rfl) (fun h1944 => ?_) (fun h1944 => ?_)
  ·have hsh := ite_t hsh h1944
   refine wp_only (fun a w => ∃ (Sv1945 : Nat → Prop), Sl 197 [(1, .bool swap5), (7, .pointer (some ⟨b69, 0, none⟩)), (8, .pointer (some ⟨b70, 0, none⟩)), (9, .pointer (some ⟨b125, 0, none⟩)), (10, .pointer (some ⟨b126, 0, none⟩))] a ∧ Wd ⟨w0, S0, []⟩ Sv1945 [.box b69 [.string rv52.1.Source.Network, .string rv52.1.Source.Station, .string rv52.1.Source.Location, .string rv52.1.Source.Channel, .int .i64 rv52.1.Start, .int .i64 rv52.1.First, .int .i64 rv52.1.Rate.Num, .int .i64 rv52.1.Rate.Den, .int .i64 rv52.1.Error, .int .i64 rv52.1.Run, .int .i64 rv52.1.Seq, .slice p53 rv52.1.Samples.length k54] 35, .box b70 [.string rv61.1.Source.Network, .string rv61.1.Source.Station, .string rv61.1.Source.Location, .string rv61.1.Source.Channel, .int .i64 rv61.1.Start, .int .i64 rv61.1.First, .int .i64 rv61.1.Rate.Num, .int .i64 rv61.1.Rate.Den, .int .i64 rv61.1.Error, .int .i64 rv61.1.Run, .int .i64 rv61.1.Seq, .slice p62 rv61.1.Samples.length k63] 35, .box b125 [.string rv61.1.Source.Network, .string rv61.1.Source.Station, .string rv61.1.Source.Location, .string rv61.1.Source.Channel, .int .i64 rv61.1.Start, .int .i64 rv61.1.First, .int .i64 rv61.1.Rate.Num, .int .i64 rv61.1.Rate.Den, .int .i64 rv61.1.Error, .int .i64 rv61.1.Run, .int .i64 rv61.1.Seq, .slice p62 rv61.1.Samples.length k63] 35, .box b126 [.string rv52.1.Source.Network, .string rv52.1.Source.Station, .string rv52.1.Source.Location, .string rv52.1.Source.Channel, .int .i64 rv52.1.Start, .int .i64 rv52.1.First, .int .i64 rv52.1.Rate.Num, .int .i64 rv52.1.Rate.Den, .int .i64 rv52.1.Error, .int .i64 rv52.1.Run, .int .i64 rv52.1.Seq, .slice p53 rv52.1.Samples.length k54] 35, .row p53 rv52.1.Samples.length k54 c56 3 1, .row p62 rv61.1.Samples.length k63 c65 3 1] [RowA c56 rv52.1.Samples, RowA c65 rv61.1.Samples] w) ?_ ?_
   ·refine h_b (C := Cls [.box b69 [.string rv52.1.Source.Network, .string rv52.1.Source.Station, .string rv52.1.Source.Location, .string rv52.1.Source.Channel, .int .i64 rv52.1.Start, .int .i64 rv52.1.First, .int .i64 rv52.1.Rate.Num, .int .i64 rv52.1.Rate.Den, .int .i64 rv52.1.Error, .int .i64 rv52.1.Run, .int .i64 rv52.1.Seq, .slice p53 rv52.1.Samples.length k54] 35, .box b70 [.string rv61.1.Source.Network, .string rv61.1.Source.Station, .string rv61.1.Source.Location, .string rv61.1.Source.Channel, .int .i64 rv61.1.Start, .int .i64 rv61.1.First, .int .i64 rv61.1.Rate.Num, .int .i64 rv61.1.Rate.Den, .int .i64 rv61.1.Error, .int .i64 rv61.1.Run, .int .i64 rv61.1.Seq, .slice p62 rv61.1.Samples.length k63] 35, .row p53 rv52.1.Samples.length k54 c56 3 1, .row p62 rv61.1.Samples.length k63 c65 3 1] []) (by kernel_rfl) rfl (hw.drew.cs [0, 1, 4, 5] [] rfl rfl) fun hC => ?_
    have hw := hw.drew
    refine gv hs 0 rfl rfl hC (fun w hC => y_loadBA (hC.ownAt 1 rfl) rfl Tryz.isAgg35 Tryz.sizeOf35 rfl rfl) fun a hs => ?_
    refine gv hs 1 rfl rfl hC (fun w hC => y_loadBA (hC.ownAt 0 rfl) rfl Tryz.isAgg35 Tryz.sizeOf35 rfl rfl) fun a hs => ?_
    refine ho 2 rfl ?_
    refine w_store (m := 12) (cs' := [.string rv61.1.Source.Network, .string rv61.1.Source.Station, .string rv61.1.Source.Location, .string rv61.1.Source.Channel, .int .i64 rv61.1.Start, .int .i64 rv61.1.First, .int .i64 rv61.1.Rate.Num, .int .i64 rv61.1.Rate.Den, .int .i64 rv61.1.Error, .int .i64 rv61.1.Run, .int .i64 rv61.1.Seq, .slice p62 rv61.1.Samples.length k63]) hs hw 2 rfl rfl rfl Tryz.sizeOf35 rfl rfl rfl rfl trivial ?_
    intro a w hs hw
    refine h_nx (hw.cs [0, 1, 4, 5] [] rfl rfl) fun hC => ?_
    refine ho 3 rfl ?_
    refine w_store (m := 12) (cs' := [.string rv52.1.Source.Network, .string rv52.1.Source.Station, .string rv52.1.Source.Location, .string rv52.1.Source.Channel, .int .i64 rv52.1.Start, .int .i64 rv52.1.First, .int .i64 rv52.1.Rate.Num, .int .i64 rv52.1.Rate.Den, .int .i64 rv52.1.Error, .int .i64 rv52.1.Run, .int .i64 rv52.1.Seq, .slice p53 rv52.1.Samples.length k54]) hs hw 3 rfl rfl rfl Tryz.sizeOf35 rfl rfl rfl rfl trivial ?_
    intro a w hs hw
    refine h_nx (hw.cs [0, 1, 4, 5] [] rfl rfl) fun hC => ?_
    refine h_done (by kernel_rfl) ?_
    exact ⟨Sv447, (hs.wk rfl), (hw.ft [0, 1, 2, 3, 4, 5] [0, 1] (by decide) rfl rfl)⟩
   rintro a w ⟨Sv1945, hs, hw⟩
   refine then_normal ?_
   obtain ⟨Sv1946, hw⟩ := w_share (α := Int) hw 4 rfl 0 rfl
   obtain ⟨Sv1947, hw⟩ := w_share (α := Int) hw 4 rfl 2 rfl
   exact ⟨rv61.1.Source.Network, rv61.1.Source.Station, rv61.1.Source.Location, rv61.1.Source.Channel, rv61.1.Start, rv61.1.First, rv61.1.Rate.Num, rv61.1.Rate.Den, rv61.1.Error, rv61.1.Run, rv61.1.Seq, rv61.1.Samples, rv52.1.Source.Network, rv52.1.Source.Station, rv52.1.Source.Location, rv52.1.Source.Channel, rv52.1.Start, rv52.1.First, rv52.1.Rate.Num, rv52.1.Rate.Den, rv52.1.Error, rv52.1.Run, rv52.1.Seq, rv52.1.Samples, p62, k63, p53, k54, Sv1947, hsh, (hs.wk rfl), (hw.ft [0, 1, 2, 3] [1, 0, 0, 1] (by decide) rfl rfl)⟩
  have hsh := ite_f hsh h1944
  refine wp_skip ?_
  refine then_normal ?_
  obtain ⟨Sv1948, hw⟩ := w_share (α := Int) hw 4 rfl 0 rfl
  obtain ⟨Sv1949, hw⟩ := w_share (α := Int) hw 4 rfl 2 rfl
  exact ⟨rv52.1.Source.Network, rv52.1.Source.Station, rv52.1.Source.Location, rv52.1.Source.Channel, rv52.1.Start, rv52.1.First, rv52.1.Rate.Num, rv52.1.Rate.Den, rv52.1.Error, rv52.1.Run, rv52.1.Seq, rv52.1.Samples, rv61.1.Source.Network, rv61.1.Source.Station, rv61.1.Source.Location, rv61.1.Source.Channel, rv61.1.Start, rv61.1.First, rv61.1.Rate.Num, rv61.1.Rate.Den, rv61.1.Error, rv61.1.Run, rv61.1.Seq, rv61.1.Samples, p53, k54, p62, k63, Sv1949, hsh, (hs.wk rfl), (hw.ft [0, 1, 2, 3] [1, 0, 1, 0] (by decide) rfl rfl)⟩
 rintro a w ⟨x772, x773, x774, x775, x776, x777, x778, x779, x780, x781, x782, x783, x784, x785, x786, x787, x788, x789, x790, x791, x792, x793, x794, x795, p767, k768, p769, k770, Sv771, hsh, hs, hw⟩
 delta law15_ComposePriority_j1 at hsh
 refine then_normal ?_
 refine sr ?_
 refine sv hs (y_loadBA (hw.ownAt 0 rfl) rfl Tryz.isAgg35 Tryz.sizeOf35 rfl rfl) rfl fun a hs => ?_
 refine sv hs (y_loadBA (hw.ownAt 1 rfl) rfl Tryz.isAgg35 Tryz.sizeOf35 rfl rfl) rfl fun a hs => ?_
 refine w_litSlice (α := Record) (vs := [.agg #[.string rv52.1.Source.Network, .string rv52.1.Source.Station, .string rv52.1.Source.Location, .string rv52.1.Source.Channel, .int .i64 rv52.1.Start, .int .i64 rv52.1.First, .int .i64 rv52.1.Rate.Num, .int .i64 rv52.1.Rate.Den, .int .i64 rv52.1.Error, .int .i64 rv52.1.Run, .int .i64 rv52.1.Seq, .slice p53 rv52.1.Samples.length k54], .agg #[.string rv61.1.Source.Network, .string rv61.1.Source.Station, .string rv61.1.Source.Location, .string rv61.1.Source.Channel, .int .i64 rv61.1.Start, .int .i64 rv61.1.First, .int .i64 rv61.1.Rate.Num, .int .i64 rv61.1.Rate.Den, .int .i64 rv61.1.Error, .int .i64 rv61.1.Run, .int .i64 rv61.1.Seq, .slice p62 rv61.1.Samples.length k63]]) (cs := [.string rv52.1.Source.Network, .string rv52.1.Source.Station, .string rv52.1.Source.Location, .string rv52.1.Source.Channel, .int .i64 rv52.1.Start, .int .i64 rv52.1.First, .int .i64 rv52.1.Rate.Num, .int .i64 rv52.1.Rate.Den, .int .i64 rv52.1.Error, .int .i64 rv52.1.Run, .int .i64 rv52.1.Seq, .slice p53 rv52.1.Samples.length k54, .string rv61.1.Source.Network, .string rv61.1.Source.Station, .string rv61.1.Source.Location, .string rv61.1.Source.Channel, .int .i64 rv61.1.Start, .int .i64 rv61.1.First, .int .i64 rv61.1.Rate.Num, .int .i64 rv61.1.Rate.Den, .int .i64 rv61.1.Error, .int .i64 rv61.1.Run, .int .i64 rv61.1.Seq, .slice p62 rv61.1.Samples.length k63]) (xs := ([rv52.1, rv61.1] : List Record)) hs hw El27 rfl rfl rfl rfl rfl rfl ⟨⟨_, _, _, _, _, _, _, _, _, _, _, _, rfl, rfl, rfl, rfl, rfl, rfl, rfl, rfl, rfl, rfl, rfl, rfl, ⟨_, _, _, rfl, hw.envAt 0 rfl⟩⟩, ⟨⟨_, _, _, _, _, _, _, _, _, _, _, _, rfl, rfl, rfl, rfl, rfl, rfl, rfl, rfl, rfl, rfl, rfl, rfl, ⟨_, _, _, rfl, hw.envAt 1 rfl⟩⟩, rfl⟩⟩ rfl trivial rfl fun b797 a w hs hw => ?_
 refine av hs rfl rfl fun a hs => ?_
 refine nl ?_
 refine wp_seq ?_
 refine sr ?_
 refine mv hs rfl rfl fun a hs => ?_
 refine nl ?_
 refine wp_join (fun a w => ∃ (l805 : (List Record)) (c801 : List Value) (p802 : Option Addr) (k803 : Nat) (Sv804 : Nat → Prop), law15_ComposePriority_j2 x772 x773 x774 x775 x776 x777 x778 x779 x780 x781 x782 x783 x784 x785 x786 x787 x788 x789 x790 x791 x792 x793 x794 x795 l805 = some r ∧ Sl 197 [(9, .pointer (some ⟨b125, 0, none⟩)), (10, .pointer (some ⟨b126, 0, none⟩)), (11, .slice p802 l805.length k803)] a ∧ Wd ⟨w0, S0, []⟩ Sv804 [.box b125 [.string x772, .string x773, .string x774, .string x775, .int .i64 x776, .int .i64 x777, .int .i64 x778, .int .i64 x779, .int .i64 x780, .int .i64 x781, .int .i64 x782, .slice p767 x783.length k768] 35, .box b126 [.string x784, .string x785, .string x786, .string x787, .int .i64 x788, .int .i64 x789, .int .i64 x790, .int .i64 x791, .int .i64 x792, .int .i64 x793, .int .i64 x794, .slice p769 x795.length k770] 35, .row p802 l805.length k803 c801 35 12] [SlA p767 x783.length k768 x783, SlA p769 x795.length k770 x795, RowA c801 l805] w) ?_ ?_
 ·refine wp_cond_split (hs.ev rfl) (fun h1941 => ?_) (fun h1941 => ?_)
  ·have hsh := ite_t hsh h1941
   refine wp_region_lit ?_
   refine sv hs (y_loadBA (hw.ownAt 2 rfl) rfl Tryz.isAgg35 Tryz.sizeOf35 rfl rfl) rfl fun a hs => ?_
   refine sv hs (y_loadBA (hw.ownAt 1 rfl) rfl Tryz.isAgg35 Tryz.sizeOf35 rfl rfl) rfl fun a hs => ?_
   refine w_litSlice (α := Record) (vs := [.agg #[.string rv61.1.Source.Network, .string rv61.1.Source.Station, .string rv61.1.Source.Location, .string rv61.1.Source.Channel, .int .i64 rv61.1.Start, .int .i64 rv61.1.First, .int .i64 rv61.1.Rate.Num, .int .i64 rv61.1.Rate.Den, .int .i64 rv61.1.Error, .int .i64 rv61.1.Run, .int .i64 rv61.1.Seq, .slice p62 rv61.1.Samples.length k63], .agg #[.string rv52.1.Source.Network, .string rv52.1.Source.Station, .string rv52.1.Source.Location, .string rv52.1.Source.Channel, .int .i64 rv52.1.Start, .int .i64 rv52.1.First, .int .i64 rv52.1.Rate.Num, .int .i64 rv52.1.Rate.Den, .int .i64 rv52.1.Error, .int .i64 rv52.1.Run, .int .i64 rv52.1.Seq, .slice p53 rv52.1.Samples.length k54]]) (cs := [.string rv61.1.Source.Network, .string rv61.1.Source.Station, .string rv61.1.Source.Location, .string rv61.1.Source.Channel, .int .i64 rv61.1.Start, .int .i64 rv61.1.First, .int .i64 rv61.1.Rate.Num, .int .i64 rv61.1.Rate.Den, .int .i64 rv61.1.Error, .int .i64 rv61.1.Run, .int .i64 rv61.1.Seq, .slice p62 rv61.1.Samples.length k63, .string rv52.1.Source.Network, .string rv52.1.Source.Station, .string rv52.1.Source.Location, .string rv52.1.Source.Channel, .int .i64 rv52.1.Start, .int .i64 rv52.1.First, .int .i64 rv52.1.Rate.Num, .int .i64 rv52.1.Rate.Den, .int .i64 rv52.1.Error, .int .i64 rv52.1.Run, .int .i64 rv52.1.Seq, .slice p53 rv52.1.Samples.length k54]) (xs := ([rv61.1, rv52.1] : List Record)) hs hw El27 rfl rfl rfl rfl rfl rfl ⟨⟨_, _, _, _, _, _, _, _, _, _, _, _, rfl, rfl, rfl, rfl, rfl, rfl, rfl, rfl, rfl, rfl, rfl, rfl, ⟨_, _, _, rfl, hw.envAt 2 rfl⟩⟩, ⟨⟨_, _, _, _, _, _, _, _, _, _, _, _, rfl, rfl, rfl, rfl, rfl, rfl, rfl, rfl, rfl, rfl, rfl, rfl, ⟨_, _, _, rfl, hw.envAt 1 rfl⟩⟩, rfl⟩⟩ rfl trivial rfl fun b1943 a w hs hw => ?_
   refine av hs rfl rfl fun a hs => ?_
   refine nl ?_
   exact ⟨([rv61.1, rv52.1] : List Record), [.string rv61.1.Source.Network, .string rv61.1.Source.Station, .string rv61.1.Source.Location, .string rv61.1.Source.Channel, .int .i64 rv61.1.Start, .int .i64 rv61.1.First, .int .i64 rv61.1.Rate.Num, .int .i64 rv61.1.Rate.Den, .int .i64 rv61.1.Error, .int .i64 rv61.1.Run, .int .i64 rv61.1.Seq, .slice p62 rv61.1.Samples.length k63, .string rv52.1.Source.Network, .string rv52.1.Source.Station, .string rv52.1.Source.Location, .string rv52.1.Source.Channel, .int .i64 rv52.1.Start, .int .i64 rv52.1.First, .int .i64 rv52.1.Rate.Num, .int .i64 rv52.1.Rate.Den, .int .i64 rv52.1.Error, .int .i64 rv52.1.Run, .int .i64 rv52.1.Seq, .slice p53 rv52.1.Samples.length k54], (some ⟨b1943, 0, none⟩), ([rv61.1, rv52.1] : List Record).length, Sv771, hsh, (hs.wk rfl), (hw.ft [4, 5, 0] [4, 5, 0] (by decide) rfl rfl)⟩
  have hsh := ite_f hsh h1941
  refine wp_skip ?_
  refine then_normal ?_
  exact ⟨([rv52.1, rv61.1] : List Record), [.string rv52.1.Source.Network, .string rv52.1.Source.Station, .string rv52.1.Source.Location, .string rv52.1.Source.Channel, .int .i64 rv52.1.Start, .int .i64 rv52.1.First, .int .i64 rv52.1.Rate.Num, .int .i64 rv52.1.Rate.Den, .int .i64 rv52.1.Error, .int .i64 rv52.1.Run, .int .i64 rv52.1.Seq, .slice p53 rv52.1.Samples.length k54, .string rv61.1.Source.Network, .string rv61.1.Source.Station, .string rv61.1.Source.Location, .string rv61.1.Source.Channel, .int .i64 rv61.1.Start, .int .i64 rv61.1.First, .int .i64 rv61.1.Rate.Num, .int .i64 rv61.1.Rate.Den, .int .i64 rv61.1.Error, .int .i64 rv61.1.Run, .int .i64 rv61.1.Seq, .slice p62 rv61.1.Samples.length k63], (some ⟨b797, 0, none⟩), ([rv52.1, rv61.1] : List Record).length, Sv771, hsh, (hs.wk rfl), (hw.ft [3, 4, 0] [3, 4, 0] (by decide) rfl rfl)⟩
 rintro a w ⟨l805, c801, p802, k803, Sv804, hsh, hs, hw⟩
 delta law15_ComposePriority_j2 at hsh
 refine then_normal ?_
 refine sr ?_
 refine sv hs (y_loadBA (hw.ownAt 0 rfl) rfl Tryz.isAgg35 Tryz.sizeOf35 rfl rfl) rfl fun a hs => ?_
 obtain ⟨rv807, h806, hsh⟩ := bind_t hsh
 refine st_callR hs (ref14_Span_ok h806 hw.bdom (hw.bE 0 rfl)) (do_call Tryz.call22 rfl) trivial rfl rfl ?_
 intro v811 Sv808 w a h809 h810 hs
 subst h810
 have hw := hw.callB h809
 refine mv hs rfl rfl fun a hs => ?_
 refine sv hs (y_extract rfl rfl) rfl fun a hs => ?_
 refine sv hs (y_extract rfl rfl) rfl fun a hs => ?_
 refine w_alloc (cs := [.int .i64 0, .int .i64 0]) hs hw Tryz.zeroValue45 rfl rfl trivial ?_
 intro b813 a w hs hw
 refine w_store (m := 2) (cs' := [.int .i64 rv807.1.From, .int .i64 rv807.1.To]) hs hw 0 rfl rfl rfl Tryz.sizeOf45 rfl rfl rfl rfl trivial ?_
 intro a w hs hw
 refine av hs rfl rfl fun a hs => ?_
 refine nl ?_
 refine wp_seq ?_
 refine sr ?_
 refine sv hs (y_fieldAddr (o' := 11) Tryz.runUnderlying35 rfl Tryz.sizeOf22 rfl rfl rfl) rfl fun a hs => ?_
 refine sv hs (y_loadB1 (hw.ownAt 1 rfl) rfl Tryz.isAgg22 rfl) rfl fun a hs => ?_
 refine sv hs (y_len Tryz.runUnderlying22 rfl) rfl fun a hs => ?_
 refine mv hs rfl rfl fun a hs => ?_
 refine nl ?_
 refine wp_block ?_
 refine wp_while (fun sv912 a w => ∃ (Sv976 : Nat → Prop), Sl 197 [(9, .pointer (some ⟨b125, 0, none⟩)), (10, .pointer (some ⟨b126, 0, none⟩)), (11, .slice p802 l805.length k803), (12, .pointer (some ⟨b813, 0, none⟩)), (110, .slice p767 x783.length k768), (111, .int .i64 (x783.length : Int)), (112, .int .i64 sv912)] a ∧ Wd ⟨w0, S0, []⟩ Sv976 [.box b125 [.string x772, .string x773, .string x774, .string x775, .int .i64 x776, .int .i64 x777, .int .i64 x778, .int .i64 x779, .int .i64 x780, .int .i64 x781, .int .i64 x782, .slice p767 x783.length k768] 35, .box b126 [.string x784, .string x785, .string x786, .string x787, .int .i64 x788, .int .i64 x789, .int .i64 x790, .int .i64 x791, .int .i64 x792, .int .i64 x793, .int .i64 x794, .slice p769 x795.length k770] 35, .box b813 [.int .i64 rv807.1.From, .int .i64 rv807.1.To] 45, .row p802 l805.length k803 c801 35 12] [SlA p767 x783.length k768 x783, SlA p769 x795.length k770 x795, RowA c801 l805] w) 0 hsh ⟨Sv804, (hs.wk rfl), (hw.ft [1, 2, 0, 3] [0, 1, 2] (by decide) rfl rfl)⟩ ?_
 repeat clear hsh
 rintro sv912 a w tv1009 ⟨Sv976, hs, hw⟩ hsh hd1008
 delta law15_ComposePriority_l2 at hsh
 refine sr ?_
 refine sv hs (y_lss rfl rfl) rfl fun a hs => ?_
 refine nl ?_
 refine wp_seq ?_
 refine wp_cond_split (hs.ev rfl) (fun h1013 => ?_) (fun h1013 => ?_)
 ·have hsh := ite_t hsh h1013
  refine wp_skip ?_
  refine then_normal ?_
  refine wp_seq ?_
  refine wp_block ?_
  refine sr ?_
  refine mv hs rfl rfl fun a hs => ?_
  obtain ⟨x1046, h1044, hsh⟩ := bind_t hsh
  obtain ⟨b1052, o1053, q1050, c1051, h1054, h1047, h1048, h1049, h1045⟩ := hw.elemV 0 rfl h1044
  have hsv1055 := hs
  have hwv1056 := hw
  subst h1054
  have hs := hsv1055
  have hw := hwv1056
  obtain ⟨_, rfl, rfl⟩ := h1045
  have hw := hw.addE h1049
  refine sv hs (y_indexAt Tryz.runUnderlying22 Tryz.sizeOf3 rfl rfl h1047.1 h1047.2 h1048) rfl fun a hs => ?_
  refine sv hs (y_loadE1 (j := 0) (hw.ceAt 0 rfl) rfl Tryz.isAgg3 rfl) rfl fun a hs => ?_
  refine av hs rfl rfl fun a hs => ?_
  refine av hs rfl rfl fun a hs => ?_
  refine nl ?_
  refine sr ?_
  refine sv hs (y_loadBA (hw.ownAt 0 rfl) rfl Tryz.isAgg35 Tryz.sizeOf35 rfl rfl) rfl fun a hs => ?_
  refine mv hs rfl rfl fun a hs => ?_
  obtain ⟨rv1058, h1057, hsh⟩ := bind_t hsh
  refine st_callR hs (ref14_At_ok h1057 hw.bdom (hw.bE 1 rfl)) (do_call Tryz.call23 rfl) trivial rfl rfl ?_
  intro v1062 Sv1059 w a h1060 h1061 hs
  subst h1061
  have hw := hw.callB h1060
  refine mv hs rfl rfl fun a hs => ?_
  refine sv hs (y_extract rfl rfl) rfl fun a hs => ?_
  refine sv hs (y_extract rfl rfl) rfl fun a hs => ?_
  refine av hs rfl rfl fun a hs => ?_
  refine av hs rfl rfl fun a hs => ?_
  refine nl ?_
  refine sr ?_
  refine mv hs rfl rfl fun a hs => ?_
  refine mv hs rfl rfl fun a hs => ?_
  obtain ⟨rv1065, h1064, hsh⟩ := bind_t hsh
  refine st_callR hs (compose_Value_ok h1064 hw.bdom (hw.bRow 3 rfl 3 rfl)) (do_call Tryz.call24 rfl) trivial rfl rfl ?_
  intro v1069 Sv1066 w a h1067 h1068 hs
  subst h1068
  have hw := hw.callB h1067
  refine mv hs rfl rfl fun a hs => ?_
  refine sv hs (y_extract rfl rfl) rfl fun a hs => ?_
  refine sv hs (y_extract rfl rfl) rfl fun a hs => ?_
  refine av hs rfl rfl fun a hs => ?_
  refine av hs rfl rfl fun a hs => ?_
  refine nl ?_
  refine sr ?_
  refine mv hs rfl rfl fun a hs => ?_
  refine sv hs (y_not rfl) rfl fun a hs => ?_
  refine mv hs rfl rfl fun a hs => ?_
  refine wpl_join 4 (fun a w1 => w = w1 ∧ Sl 197 [(9, .pointer (some ⟨b125, 0, none⟩)), (10, .pointer (some ⟨b126, 0, none⟩)), (11, .slice p802 l805.length k803), (12, .pointer (some ⟨b813, 0, none⟩)), (110, .slice (some ⟨b1052, o1053, none⟩) x783.length k768), (111, .int .i64 (x783.length : Int)), (112, .int .i64 sv912), (135, .bool ((!rv1065.2) || (rv1065.1 != x1046)))] a) ?_ ?_
  ·rcases Bool.eq_false_or_eq_true (!rv1065.2) with h1071 | h1071
   ·have hs := hs.fix 131 (.bool true) rfl (vb h1071)
    refine st_skip hs rfl rfl rfl rfl rfl fun a hs => ?_
    refine st_skip hs rfl rfl rfl rfl rfl fun a hs => ?_
    refine st_skip hs rfl rfl rfl rfl rfl fun a hs => ?_
    refine sv hs (y_pickT rfl rfl) rfl fun a hs => ?_
    refine nl ?_
    exact ⟨rfl, (hs.fix 135 (.bool ((!rv1065.2) || (rv1065.1 != x1046))) rfl (or_t h1071)).weaken _ ⟨rfl, rfl, rfl, rfl, rfl, rfl, rfl, rfl, trivial⟩⟩
   have hs := hs.fix 131 (.bool false) rfl (vb h1071)
   refine st_val hs (y_move rfl) ⟨_, rfl, rfl⟩ rfl rfl fun a hs => ?_
   refine st_val hs (y_move rfl) ⟨_, rfl, rfl⟩ rfl rfl fun a hs => ?_
   refine st_val hs (y_neq rfl rfl) ⟨_, rfl, rfl⟩ rfl rfl fun a hs => ?_
   refine sv hs (y_pickF rfl rfl) rfl fun a hs => ?_
   refine nl ?_
   exact ⟨rfl, (hs.fix 135 (.bool ((!rv1065.2) || (rv1065.1 != x1046))) rfl (or_f h1071)).weaken _ ⟨rfl, rfl, rfl, rfl, rfl, rfl, rfl, rfl, trivial⟩⟩
  rintro a w1 ⟨h1075, hs⟩
  subst h1075
  refine nl ?_
  refine wp_cond_split (hs.ev rfl) (fun h1073 => ?_) (fun h1073 => ?_)
  ·have hsh := ite_t hsh h1073
   refine sr ?_
   refine av hs rfl rfl fun a hs => ?_
   refine nl ?_
   have hsh := oi hsh
   subst hsh
   have h1074 := hd1008 _ rfl
   subst h1074
   refine wp_ret ?_
   refine blk_ret ?_
   refine then_ret ?_
   refine then_ret ?_
   refine blk_ret ?_
   refine then_ret ?_
   exact ret1 hs rfl (rv_tmp rfl) (hw.ret rfl)
  have hsh := ite_f hsh h1073
  refine wp_skip ?_
  refine blk_normal ?_
  refine then_normal ?_
  refine wp_region_lit ?_
  refine sv hs (y_add rfl rfl) rfl fun a hs => ?_
  refine mv hs rfl rfl fun a hs => ?_
  refine nl ?_
  exact ⟨_, (Option.some.inj hsh).symm, Sv976, (hs.wk rfl), (hw.ft [0, 1, 2, 3] [1, 2, 3] (by decide) rfl rfl)⟩
 have hsh := ite_f hsh h1013
 obtain ⟨rv1939, hsh, h1940⟩ := map_t hsh
 have h1940 := (hd1008 _ h1940.symm).symm
 subst h1940
 refine wp_exit ?_
 refine then_exit ?_
 refine then_exit ?_
 refine blk_exit ?_
 refine then_normal ?_
 refine wp_seq ?_
 refine sr ?_
 refine sv hs (y_fieldAddr (o' := 11) Tryz.runUnderlying35 rfl Tryz.sizeOf22 rfl rfl rfl) rfl fun a hs => ?_
 refine sv hs (y_loadB1 (hw.ownAt 1 rfl) rfl Tryz.isAgg22 rfl) rfl fun a hs => ?_
 refine sv hs (y_len Tryz.runUnderlying22 rfl) rfl fun a hs => ?_
 refine mv hs rfl rfl fun a hs => ?_
 refine nl ?_
 refine wp_block ?_
 refine wp_while (fun sv1396 a w => ∃ (Sv1608 : Nat → Prop), Sl 197 [(10, .pointer (some ⟨b126, 0, none⟩)), (11, .slice p802 l805.length k803), (12, .pointer (some ⟨b813, 0, none⟩)), (138, .slice p769 x795.length k770), (139, .int .i64 (x795.length : Int)), (140, .int .i64 sv1396)] a ∧ Wd ⟨w0, S0, []⟩ Sv1608 [.box b126 [.string x784, .string x785, .string x786, .string x787, .int .i64 x788, .int .i64 x789, .int .i64 x790, .int .i64 x791, .int .i64 x792, .int .i64 x793, .int .i64 x794, .slice p769 x795.length k770] 35, .box b813 [.int .i64 rv807.1.From, .int .i64 rv807.1.To] 45, .row p802 l805.length k803 c801 35 12] [SlA p769 x795.length k770 x795, RowA c801 l805] w) 0 hsh ⟨Sv976, (hs.wk rfl), (hw.ft [1, 2, 3] [1, 2] (by decide) rfl rfl)⟩ ?_
 repeat clear hsh
 rintro sv1396 a w tv1715 ⟨Sv1608, hs, hw⟩ hsh hd1714
 delta law15_ComposePriority_l4 at hsh
 refine sr ?_
 refine sv hs (y_lss rfl rfl) rfl fun a hs => ?_
 refine nl ?_
 refine wp_seq ?_
 refine wp_cond_split (hs.ev rfl) (fun h1719 => ?_) (fun h1719 => ?_)
 ·have hsh := ite_t hsh h1719
  refine wp_skip ?_
  refine then_normal ?_
  refine wp_seq ?_
  refine wp_block ?_
  refine sr ?_
  refine mv hs rfl rfl fun a hs => ?_
  obtain ⟨x1826, h1824, hsh⟩ := bind_t hsh
  obtain ⟨b1832, o1833, q1830, c1831, h1834, h1827, h1828, h1829, h1825⟩ := hw.elemV 0 rfl h1824
  have hsv1835 := hs
  have hwv1836 := hw
  subst h1834
  have hs := hsv1835
  have hw := hwv1836
  obtain ⟨_, rfl, rfl⟩ := h1825
  have hw := hw.addE h1829
  refine sv hs (y_indexAt Tryz.runUnderlying22 Tryz.sizeOf3 rfl rfl h1827.1 h1827.2 h1828) rfl fun a hs => ?_
  refine sv hs (y_loadE1 (j := 0) (hw.ceAt 0 rfl) rfl Tryz.isAgg3 rfl) rfl fun a hs => ?_
  refine av hs rfl rfl fun a hs => ?_
  refine av hs rfl rfl fun a hs => ?_
  refine nl ?_
  refine sr ?_
  refine sv hs (y_loadBA (hw.ownAt 0 rfl) rfl Tryz.isAgg35 Tryz.sizeOf35 rfl rfl) rfl fun a hs => ?_
  refine mv hs rfl rfl fun a hs => ?_
  obtain ⟨rv1838, h1837, hsh⟩ := bind_t hsh
  refine st_callR hs (ref14_At_ok h1837 hw.bdom (hw.bE 1 rfl)) (do_call Tryz.call23 rfl) trivial rfl rfl ?_
  intro v1842 Sv1839 w a h1840 h1841 hs
  subst h1841
  have hw := hw.callB h1840
  refine mv hs rfl rfl fun a hs => ?_
  refine sv hs (y_extract rfl rfl) rfl fun a hs => ?_
  refine sv hs (y_extract rfl rfl) rfl fun a hs => ?_
  refine av hs rfl rfl fun a hs => ?_
  refine av hs rfl rfl fun a hs => ?_
  refine nl ?_
  refine sr ?_
  refine sv hs (y_loadBA (hw.ownAt 0 rfl) rfl Tryz.isAgg35 Tryz.sizeOf35 rfl rfl) rfl fun a hs => ?_
  refine mv hs rfl rfl fun a hs => ?_
  refine sv hs (y_add rfl rfl) rfl fun a hs => ?_
  obtain ⟨rv1845, h1844, hsh⟩ := bind_t hsh
  refine st_callR hs (ref14_At_ok h1844 hw.bdom (hw.bE 1 rfl)) (do_call Tryz.call23 rfl) trivial rfl rfl ?_
  intro v1849 Sv1846 w a h1847 h1848 hs
  subst h1848
  have hw := hw.callB h1847
  refine mv hs rfl rfl fun a hs => ?_
  refine sv hs (y_extract rfl rfl) rfl fun a hs => ?_
  refine sv hs (y_extract rfl rfl) rfl fun a hs => ?_
  refine av hs rfl rfl fun a hs => ?_
  refine av hs rfl rfl fun a hs => ?_
  refine nl ?_
  refine sr ?_
  refine mv hs rfl rfl fun a hs => ?_
  refine mv hs rfl rfl fun a hs => ?_
  obtain ⟨rv1852, h1851, hsh⟩ := bind_t hsh
  refine st_callR hs (compose_Value_ok h1851 hw.bdom (hw.bRow 2 rfl 2 rfl)) (do_call Tryz.call24 rfl) trivial rfl rfl ?_
  intro v1856 Sv1853 w a h1854 h1855 hs
  subst h1855
  have hw := hw.callB h1854
  refine mv hs rfl rfl fun a hs => ?_
  refine sv hs (y_extract rfl rfl) rfl fun a hs => ?_
  refine sv hs (y_extract rfl rfl) rfl fun a hs => ?_
  refine av hs rfl rfl fun a hs => ?_
  refine av hs rfl rfl fun a hs => ?_
  refine nl ?_
  refine sr ?_
  refine sv hs (y_loadBA (hw.ownAt 1 rfl) rfl Tryz.isAgg45 Tryz.sizeOf45 rfl rfl) rfl fun a hs => ?_
  refine w_litSlice (α := Span) (vs := [.agg #[.int .i64 rv807.1.From, .int .i64 rv807.1.To]]) (cs := [.int .i64 rv807.1.From, .int .i64 rv807.1.To]) (xs := ([rv807.1] : List Span)) hs hw El52 rfl rfl rfl rfl rfl rfl ⟨⟨_, _, rfl, rfl, rfl⟩, rfl⟩ rfl trivial rfl fun b1859 a w hs hw => ?_
  refine mv hs rfl rfl fun a hs => ?_
  refine mv hs rfl rfl fun a hs => ?_
  obtain ⟨rv1861, h1860, hsh⟩ := bind_t hsh
  obtain ⟨Sv1866, hw⟩ := w_share (α := Span) hw 0 rfl 0 rfl
  refine st_callR hs (ref08_Cut_ok h1860 hw.dom (hw.envAt 0 rfl)) (do_call Tryz.call25 rfl) trivial rfl rfl ?_
  intro v1870 Sv1867 w a h1868 h1869 hs
  obtain ⟨p1862, k1863, c1865, rfl, h1871, h1864⟩ := h1869
  have hw := hw.callN h1868 h1871
  have hw := hw.addE (e := RowA c1865 rv1861) h1864
  refine sv hs (y_len Tryz.runUnderlying52 rfl) rfl fun a hs => ?_
  refine sv hs (y_eql rfl rfl) rfl fun a hs => ?_
  refine av hs rfl rfl fun a hs => ?_
  refine nl ?_
  refine sr ?_
  refine mv hs rfl rfl fun a hs => ?_
  refine mv hs rfl rfl fun a hs => ?_
  refine wpl_join 8 (fun a w1 => w = w1 ∧ Sl 197 [(10, .pointer (some ⟨b126, 0, none⟩)), (11, .slice p802 l805.length k803), (12, .pointer (some ⟨b813, 0, none⟩)), (22, .int .i64 rv1838.1), (27, .bool rv1852.2), (28, .bool ((rv1861.length : Int) == 0)), (138, .slice (some ⟨b1832, o1833, none⟩) x795.length k770), (139, .int .i64 (x795.length : Int)), (140, .int .i64 sv1396), (180, .bool (((rv1861.length : Int) == 0) && ((!rv1852.2) || (rv1852.1 != x1826))))] a) ?_ ?_
  ·rcases Bool.eq_false_or_eq_true ((rv1861.length : Int) == 0) with h1874 | h1874
   ·have hs := hs.fix 172 (.bool true) rfl (vb h1874)
    refine st_val hs (y_move rfl) ⟨_, rfl, rfl⟩ rfl rfl fun a hs => ?_
    refine st_val hs (y_not rfl) ⟨_, rfl, rfl⟩ rfl rfl fun a hs => ?_
    refine st_val hs (y_move rfl) ⟨_, rfl, rfl⟩ rfl rfl fun a hs => ?_
    refine wpl_join 4 (fun a w1 => w = w1 ∧ Sl 197 [(10, .pointer (some ⟨b126, 0, none⟩)), (11, .slice p802 l805.length k803), (12, .pointer (some ⟨b813, 0, none⟩)), (22, .int .i64 rv1838.1), (27, .bool rv1852.2), (28, .bool ((rv1861.length : Int) == 0)), (138, .slice (some ⟨b1832, o1833, none⟩) x795.length k770), (139, .int .i64 (x795.length : Int)), (140, .int .i64 sv1396), (172, .bool true), (173, .bool rv1852.2), (174, .bool (!rv1852.2)), (175, .bool (!rv1852.2)), (179, .bool ((!rv1852.2) || (rv1852.1 != x1826)))] a) ?_ ?_
    ·rcases Bool.eq_false_or_eq_true (!rv1852.2) with h1875 | h1875
     ·have hs := hs.fix 175 (.bool true) rfl (vb h1875)
      refine st_skip hs rfl rfl rfl rfl rfl fun a hs => ?_
      refine st_skip hs rfl rfl rfl rfl rfl fun a hs => ?_
      refine st_skip hs rfl rfl rfl rfl rfl fun a hs => ?_
      refine st_val hs (y_pickT rfl rfl) ⟨_, rfl, rfl⟩ rfl rfl fun a hs => ?_
      refine nl ?_
      have hs := hs.fix 175 (.bool (!rv1852.2)) rfl (vb h1875.symm)
      exact ⟨rfl, (hs.fix 179 (.bool ((!rv1852.2) || (rv1852.1 != x1826))) rfl (or_t h1875)).weaken _ ⟨rfl, rfl, rfl, rfl, rfl, rfl, rfl, rfl, rfl, rfl, rfl, rfl, rfl, rfl, trivial⟩⟩
     have hs := hs.fix 175 (.bool false) rfl (vb h1875)
     refine st_val hs (y_move rfl) ⟨_, rfl, rfl⟩ rfl rfl fun a hs => ?_
     refine st_val hs (y_move rfl) ⟨_, rfl, rfl⟩ rfl rfl fun a hs => ?_
     refine st_val hs (y_neq rfl rfl) ⟨_, rfl, rfl⟩ rfl rfl fun a hs => ?_
     refine st_val hs (y_pickF rfl rfl) ⟨_, rfl, rfl⟩ rfl rfl fun a hs => ?_
     refine nl ?_
     have hs := hs.fix 175 (.bool (!rv1852.2)) rfl (vb h1875.symm)
     exact ⟨rfl, (hs.fix 179 (.bool ((!rv1852.2) || (rv1852.1 != x1826))) rfl (or_f h1875)).weaken _ ⟨rfl, rfl, rfl, rfl, rfl, rfl, rfl, rfl, rfl, rfl, rfl, rfl, rfl, rfl, trivial⟩⟩
    rintro a w1 ⟨h1876, hs⟩
    subst h1876
    refine sv hs (y_pickT rfl rfl) rfl fun a hs => ?_
    refine nl ?_
    exact ⟨rfl, (hs.fix 180 (.bool (((rv1861.length : Int) == 0) && ((!rv1852.2) || (rv1852.1 != x1826)))) rfl (and_t h1874)).weaken _ ⟨rfl, rfl, rfl, rfl, rfl, rfl, rfl, rfl, rfl, rfl, trivial⟩⟩
   have hs := hs.fix 172 (.bool false) rfl (vb h1874)
   refine st_skip hs rfl rfl rfl rfl rfl fun a hs => ?_
   refine st_skip hs rfl rfl rfl rfl rfl fun a hs => ?_
   refine st_skip hs rfl rfl rfl rfl rfl fun a hs => ?_
   refine st_skipU hs rfl rfl rfl rfl rfl fun a hs => ?_
   refine st_skipU hs rfl rfl rfl rfl rfl fun a hs => ?_
   refine st_skipU hs rfl rfl rfl rfl rfl fun a hs => ?_
   refine st_skip hs rfl rfl rfl rfl rfl fun a hs => ?_
   refine sv hs (y_pickF rfl rfl) rfl fun a hs => ?_
   refine nl ?_
   exact ⟨rfl, (hs.fix 180 (.bool (((rv1861.length : Int) == 0) && ((!rv1852.2) || (rv1852.1 != x1826)))) rfl (and_f h1874)).weaken _ ⟨rfl, rfl, rfl, rfl, rfl, rfl, rfl, rfl, rfl, rfl, trivial⟩⟩
  rintro a w1 ⟨h1929, hs⟩
  subst h1929
  refine mv hs rfl rfl fun a hs => ?_
  obtain ⟨c1901, hc1901, hsh⟩ := bind_t hsh
  refine wpl_join 13 (fun a w => ∃ (Sv1902 : Nat → Prop), Sl 197 [(10, .pointer (some ⟨b126, 0, none⟩)), (11, .slice p802 l805.length k803), (12, .pointer (some ⟨b813, 0, none⟩)), (138, .slice (some ⟨b1832, o1833, none⟩) x795.length k770), (139, .int .i64 (x795.length : Int)), (140, .int .i64 sv1396), (194, .bool c1901)] a ∧ Wd ⟨w0, S0, []⟩ Sv1902 [.box b126 [.string x784, .string x785, .string x786, .string x787, .int .i64 x788, .int .i64 x789, .int .i64 x790, .int .i64 x791, .int .i64 x792, .int .i64 x793, .int .i64 x794, .slice (some ⟨b1832, o1833, none⟩) x795.length k770] 35, .box b813 [.int .i64 rv807.1.From, .int .i64 rv807.1.To] 45, .row p802 l805.length k803 c801 35 12] [SlA (some ⟨b1832, o1833, none⟩) x795.length k770 x795, RowA c801 l805] w) ?_ ?_
  ·rcases Bool.eq_false_or_eq_true (((rv1861.length : Int) == 0) && ((!rv1852.2) || (rv1852.1 != x1826))) with h1900 | h1900
   ·have hs := hs.fix 181 (.bool true) rfl (vb h1900)
    have hsh := ite_t hc1901 h1900
    refine st_skip hs rfl rfl rfl rfl rfl fun a hs => ?_
    refine st_skip hs rfl rfl rfl rfl rfl fun a hs => ?_
    refine st_skip hs rfl rfl rfl rfl rfl fun a hs => ?_
    refine st_skipU hs rfl rfl rfl rfl rfl fun a hs => ?_
    refine st_skip hs rfl rfl rfl rfl rfl fun a hs => ?_
    refine st_skip hs rfl rfl rfl rfl rfl fun a hs => ?_
    refine st_skipU hs rfl rfl rfl rfl rfl fun a hs => ?_
    refine st_skipU hs rfl rfl rfl rfl rfl fun a hs => ?_
    refine st_skipU hs rfl rfl rfl rfl rfl fun a hs => ?_
    refine st_skipU hs rfl rfl rfl rfl rfl fun a hs => ?_
    refine st_skipU hs rfl rfl rfl rfl rfl fun a hs => ?_
    refine st_skip hs rfl rfl rfl rfl rfl fun a hs => ?_
    refine sv hs (y_pickT rfl rfl) rfl fun a hs => ?_
    refine wpList_nil ?_
    have hsh := oi hsh
    subst hsh
    refine then_normal ?_
    exact ⟨Sv1867, (hs.wk rfl), (hw.ft [1, 2, 3] [4, 5] (by decide) rfl rfl)⟩
   have hs := hs.fix 181 (.bool false) rfl (vb h1900)
   have hsh := ite_f hc1901 h1900
   refine st_val hs (y_move rfl) ⟨_, rfl, rfl⟩ rfl rfl fun a hs => ?_
   refine st_val hs (y_not rfl) ⟨_, rfl, rfl⟩ rfl rfl fun a hs => ?_
   refine st_val hs (y_move rfl) ⟨_, rfl, rfl⟩ rfl rfl fun a hs => ?_
   refine wpl_join 2 (fun a w1 => w = w1 ∧ Sl 197 [(10, .pointer (some ⟨b126, 0, none⟩)), (11, .slice p802 l805.length k803), (12, .pointer (some ⟨b813, 0, none⟩)), (22, .int .i64 rv1838.1), (138, .slice (some ⟨b1832, o1833, none⟩) x795.length k770), (139, .int .i64 (x795.length : Int)), (140, .int .i64 sv1396), (181, .bool false), (182, .bool ((rv1861.length : Int) == 0)), (183, .bool (!((rv1861.length : Int) == 0))), (184, .bool (!((rv1861.length : Int) == 0))), (186, .bool ((!((rv1861.length : Int) == 0)) && rv1852.2))] a) ?_ ?_
   ·rcases Bool.eq_false_or_eq_true (!((rv1861.length : Int) == 0)) with h1903 | h1903
    ·have hs := hs.fix 184 (.bool true) rfl (vb h1903)
     refine st_val hs (y_move rfl) ⟨_, rfl, rfl⟩ rfl rfl fun a hs => ?_
     refine st_val hs (y_pickT rfl rfl) ⟨_, rfl, rfl⟩ rfl rfl fun a hs => ?_
     refine nl ?_
     have hs := hs.fix 184 (.bool (!((rv1861.length : Int) == 0))) rfl (vb h1903.symm)
     exact ⟨rfl, (hs.fix 186 (.bool ((!((rv1861.length : Int) == 0)) && rv1852.2)) rfl (and_t h1903)).weaken _ ⟨rfl, rfl, rfl, rfl, rfl, rfl, rfl, rfl, rfl, rfl, rfl, rfl, trivial⟩⟩
    have hs := hs.fix 184 (.bool false) rfl (vb h1903)
    refine st_skip hs rfl rfl rfl rfl rfl fun a hs => ?_
    refine st_val hs (y_pickF rfl rfl) ⟨_, rfl, rfl⟩ rfl rfl fun a hs => ?_
    refine nl ?_
    have hs := hs.fix 184 (.bool (!((rv1861.length : Int) == 0))) rfl (vb h1903.symm)
    exact ⟨rfl, (hs.fix 186 (.bool ((!((rv1861.length : Int) == 0)) && rv1852.2)) rfl (and_f h1903)).weaken _ ⟨rfl, rfl, rfl, rfl, rfl, rfl, rfl, rfl, rfl, rfl, rfl, rfl, trivial⟩⟩
   rintro a w1 ⟨h1925, hs⟩
   subst h1925
   refine st_val hs (y_move rfl) ⟨_, rfl, rfl⟩ rfl rfl fun a hs => ?_
   obtain ⟨c1914, hc1914, hsh⟩ := bind_t hsh
   refine wpl_join 6 (fun a w => ∃ (Sv1915 : Nat → Prop), Sl 197 [(10, .pointer (some ⟨b126, 0, none⟩)), (11, .slice p802 l805.length k803), (12, .pointer (some ⟨b813, 0, none⟩)), (138, .slice (some ⟨b1832, o1833, none⟩) x795.length k770), (139, .int .i64 (x795.length : Int)), (140, .int .i64 sv1396), (181, .bool false), (182, .bool ((rv1861.length : Int) == 0)), (183, .bool (!((rv1861.length : Int) == 0))), (184, .bool (!((rv1861.length : Int) == 0))), (186, .bool ((!((rv1861.length : Int) == 0)) && rv1852.2)), (187, .bool c1914.1), (193, .bool c1914.2)] a ∧ Wd ⟨w0, S0, []⟩ Sv1915 [.box b126 [.string x784, .string x785, .string x786, .string x787, .int .i64 x788, .int .i64 x789, .int .i64 x790, .int .i64 x791, .int .i64 x792, .int .i64 x793, .int .i64 x794, .slice (some ⟨b1832, o1833, none⟩) x795.length k770] 35, .box b813 [.int .i64 rv807.1.From, .int .i64 rv807.1.To] 45, .row p802 l805.length k803 c801 35 12] [SlA (some ⟨b1832, o1833, none⟩) x795.length k770 x795, RowA c801 l805] w) ?_ ?_
   ·rcases Bool.eq_false_or_eq_true ((!((rv1861.length : Int) == 0)) && rv1852.2) with h1913 | h1913
    ·have hs := hs.fix 187 (.bool true) rfl (vb h1913)
     have hsh := ite_t hc1914 h1913
     refine st_val hs (y_loadBA (hw.ownAt 2 rfl) rfl Tryz.isAgg45 Tryz.sizeOf45 rfl rfl) ⟨_, rfl, rfl⟩ rfl rfl fun a hs => ?_
     refine w_litSlice (α := Span) (vs := [.agg #[.int .i64 rv807.1.From, .int .i64 rv807.1.To]]) (cs := [.int .i64 rv807.1.From, .int .i64 rv807.1.To]) (xs := ([rv807.1] : List Span)) hs hw El52 rfl rfl rfl rfl rfl rfl ⟨⟨_, _, rfl, rfl, rfl⟩, rfl⟩ rfl ⟨_, rfl, rfl⟩ rfl fun b1917 a w hs hw => ?_
     refine st_val hs (y_move rfl) ⟨_, rfl, rfl⟩ rfl rfl fun a hs => ?_
     obtain ⟨rv1919, h1918, hsh⟩ := bind_t hsh
     refine st_callR hs (ref08_Has_ok h1918 hw.bdom (hw.bRow 0 rfl 0 rfl)) (do_call Tryz.call26 rfl) ⟨_, rfl, rfl⟩ rfl rfl ?_
     intro v1923 Sv1920 w a h1921 h1922 hs
     subst h1922
     have hw := hw.callB h1921
     refine st_val hs (y_not rfl) ⟨_, rfl, rfl⟩ rfl rfl fun a hs => ?_
     refine st_val hs (y_pickT rfl rfl) ⟨_, rfl, rfl⟩ rfl rfl fun a hs => ?_
     refine wpList_nil ?_
     have hsh := oi hsh
     subst hsh
     refine then_normal ?_
     exact ⟨Sv1867, (hs.wk rfl), (hw.ft [2, 3, 4] [5, 6] (by decide) rfl rfl)⟩
    have hs := hs.fix 187 (.bool false) rfl (vb h1913)
    have hsh := ite_f hc1914 h1913
    refine st_skip hs rfl rfl rfl rfl rfl fun a hs => ?_
    refine st_skip hs rfl rfl rfl rfl rfl fun a hs => ?_
    refine st_skip hs rfl rfl rfl rfl rfl fun a hs => ?_
    refine st_skip hs rfl rfl rfl rfl rfl fun a hs => ?_
    refine st_skip hs rfl rfl rfl rfl rfl fun a hs => ?_
    refine st_val hs (y_pickF rfl rfl) ⟨_, rfl, rfl⟩ rfl rfl fun a hs => ?_
    refine wpList_nil ?_
    have hsh := oi hsh
    subst hsh
    refine then_normal ?_
    exact ⟨Sv1867, (hs.wk rfl), (hw.ft [1, 2, 3] [4, 5] (by decide) rfl rfl)⟩
   rintro a w ⟨Sv1915, hs, hw⟩
   refine sv hs (y_pickF rfl rfl) rfl fun a hs => ?_
   refine wpList_nil ?_
   have hsh := oi hsh
   subst hsh
   refine then_normal ?_
   exact ⟨Sv1915, (hs.wk rfl), (hw.ft [0, 1, 2] [0, 1] (by decide) rfl rfl)⟩
  rintro a w ⟨Sv1902, hs, hw⟩
  refine nl ?_
  refine wp_cond_split (hs.ev rfl) (fun h1927 => ?_) (fun h1927 => ?_)
  ·have hsh := ite_t hsh h1927
   refine sr ?_
   refine av hs rfl rfl fun a hs => ?_
   refine nl ?_
   have hsh := oi hsh
   subst hsh
   have h1928 := hd1714 _ rfl
   subst h1928
   refine wp_ret ?_
   refine blk_ret ?_
   refine then_ret ?_
   refine then_ret ?_
   refine blk_ret ?_
   refine then_ret ?_
   exact ret1 hs rfl (rv_tmp rfl) (hw.ret rfl)
  have hsh := ite_f hsh h1927
  refine wp_skip ?_
  refine blk_normal ?_
  refine then_normal ?_
  refine wp_region_lit ?_
  refine sv hs (y_add rfl rfl) rfl fun a hs => ?_
  refine mv hs rfl rfl fun a hs => ?_
  refine nl ?_
  exact ⟨_, (Option.some.inj hsh).symm, Sv1902, (hs.wk rfl), (hw.ft [0, 1, 2] [0, 1] (by decide) rfl rfl)⟩
 have hsh := ite_f hsh h1719
 obtain ⟨rv1937, hsh, h1938⟩ := map_t hsh
 have h1938 := (hd1714 _ h1938.symm).symm
 subst h1938
 refine wp_exit ?_
 refine then_exit ?_
 refine then_exit ?_
 refine blk_exit ?_
 refine then_normal ?_
 refine sr ?_
 obtain ⟨rv1931, h1930, hsh⟩ := bind_t hsh
 refine st_callR hs (law15_sane_ok h1930 hw.bdom) (do_call Tryz.call12 rfl) trivial rfl rfl ?_
 intro v1935 Sv1932 w a h1933 h1934 hs
 subst h1934
 have hw := hw.callB h1933
 refine av hs rfl rfl fun a hs => ?_
 refine nl ?_
 have hsh := oi hsh
 subst hsh
 refine wp_ret ?_
 exact ret1 hs rfl (rv_tmp rfl) (hw.ret rfl)

end Go.Proofs.YthdimlepjpnncaaGreat.Wk

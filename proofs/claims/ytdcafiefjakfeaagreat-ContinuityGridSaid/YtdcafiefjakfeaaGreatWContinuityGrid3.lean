/- The walks of ContinuityGrid, part 3: each Go function computes what its plain program computes. Printed by a program of ours. -/
import Derived.Test.YtdcafiefjakfeaaGreatProg
import Derived.Test.YtdcafiefjakfeaaGreatDat
import Derived.Test.YtdcafiefjakfeaaGreatSh
import Derived.Test.YtdcafiefjakfeaaGreatLa1
import Derived.KernelRfl
import Derived.Test.YtdcafiefjakfeaaGreatLb1
import Derived.Shelf.SlLaysF0
import Derived.Shelf.SlLaysM
import Derived.Test.YtdcafiefjakfeaaGreatWContinuityGrid2
namespace Go.Proofs.YtdcafiefjakfeaaGreat.Wk
open Go Go.RowKit Go.Proofs Go.Proofs.YtdcafiefjakfeaaGreat.Sh
set_option linter.unusedVariables false
set_option linter.unusedSimpArgs false
set_option maxHeartbeats 4000000
set_option maxRecDepth 100000
theorem ref05_Same_ok {w0 S0 p2 k3 p6 k7 a1 b5 r} (u : ref05_Same a1 b5 = some r) (hS : Dm S0 w0) (h4 : (SlA p2 a1.length k3 a1).p S0 w0) (h8 : (SlA p6 b5.length k7 b5).p S0 w0) : Calls Tryz.prog 71 #[.slice p2 a1.length k3, .slice p6 b5.length k7] w0 (Ret ([]) w0 S0 (made_Light_rd w0 ([]) r)) := by
 refine en 26 Tryz.func71 rfl hS rfl rfl rfl fun a s d => ?_
 have d := (d.addE h4).addE h8
 delta ref05_Same at u
 refine sz 1 [] s d rfl rfl fun a s => ?_
 refine wp_seq (sz 5 [] s d rfl rfl fun a s => ?_)
 refine cd s u rfl (fun u => ?_) fun u => ?_
 ·refine sz 1 [] s d rfl rfl fun a s => ?_
  have u := oi u
  subst u
  exact wp_ret (then_ret (ret1 s rfl (rv_tmp rfl) (d.ret rfl)))
 refine wp_skip (then_normal (wp_seq (sz 1 [] s d rfl rfl fun a s => ?_)))
 refine wp_block (wp_while (fun sv109 a w => ∃ Sv173, Sl 26 [(0, .slice p2 a1.length k3), (1, .slice p6 b5.length k7), (5, .int .i64 sv109)] a ∧ Wd ⟨w0, S0, []⟩ Sv173 [] [SlA p2 a1.length k3 a1, SlA p6 b5.length k7 b5] w) 0 u ⟨S0, (s.wk rfl), (d.ft [] [1, 0] (by decide) rfl rfl)⟩ ?_)
 repeat clear u
 rintro sv109 a w tv206 ⟨Sv173, s, d⟩ u hd205
 delta ref05_Same_l2 at u
 refine wp_seq (sz 4 [] s d rfl rfl fun a s => ?_)
 refine cd s u rfl (fun u => ?_) fun u => ?_
 ·refine wp_skip (then_normal (wp_seq (wp_block (wp_seq ?_))))
  obtain ⟨x241, h239, u⟩ := bind_t u
  obtain ⟨b247, o248, q245, c246, h249, h242, h243, h244, h240⟩ := d.elemV 0 rfl h239
  have hsv250 := s
  have hwv251 := d
  subst h249
  have s := hsv250
  have d := hwv251
  obtain ⟨_, rfl, rfl⟩ := h240
  have d := d.addE h244
  obtain ⟨x254, h252, u⟩ := bind_t u
  obtain ⟨b260, o261, q258, c259, h262, h255, h256, h257, h253⟩ := d.elemV 2 rfl h252
  have hsv263 := s
  have hwv264 := d
  subst h262
  have s := hsv263
  have d := hwv264
  obtain ⟨_, rfl, rfl⟩ := h253
  have d := d.addE h257
  refine wp_only (fun a w => ∃ Sv265, Sl 26 [(0, .slice (some ⟨b247, o248, none⟩) a1.length k3), (1, .slice (some ⟨b260, o261, none⟩) b5.length k7), (5, .int .i64 sv109), (25, .bool (x241 != x254))] a ∧ Wd ⟨w0, S0, []⟩ Sv265 [] [SlA (some ⟨b247, o248, none⟩) a1.length k3 a1, SlA (some ⟨b260, o261, none⟩) b5.length k7 b5] w) ?_ ?_
  ·refine h_c [] [0, 1] d rfl rfl (by kernel_rfl) rfl fun hC d => ?_
   refine gn 2 [0, 1] [] s hC rfl rfl rfl fun a s => ?_
   refine gv s 2 rfl rfl hC (fun w hC => y_indexAt Tryz.runUnderlying22 Tryz.sizeOf3 rfl rfl h242.1 h242.2 h243) fun a s => ?_
   refine gv s 3 rfl rfl hC (fun w hC => y_loadE1 (j := 0) (hC.ceAt 1 rfl) rfl Tryz.isAgg3 rfl) fun a s => ?_
   refine gn 2 [4, 5] [] s hC rfl rfl rfl fun a s => ?_
   refine gv s 6 rfl rfl hC (fun w hC => y_indexAt Tryz.runUnderlying22 Tryz.sizeOf3 rfl rfl h255.1 h255.2 h256) fun a s => ?_
   refine gv s 7 rfl rfl hC (fun w hC => y_loadE1 (j := 0) (hC.ceAt 0 rfl) rfl Tryz.isAgg3 rfl) fun a s => ?_
   refine gv s 8 rfl rfl hC (fun w hC => y_neq rfl rfl) fun a s => ?_
   refine h_done (by kernel_rfl) ?_
   exact ⟨Sv173, (s.wk rfl), (d.ft [] [2, 3] (by decide) rfl rfl)⟩
  rintro a w ⟨Sv265, s, d⟩
  refine then_normal (cd s u rfl (fun u => ?_) fun u => ?_)
  ·refine sz 1 [] s d rfl rfl fun a s => ?_
   have u := oi u
   subst u
   have h268 := hd205 _ rfl
   subst h268
   exact wp_ret (blk_ret (then_ret (then_ret (blk_ret (then_ret (ret1 s rfl (rv_tmp rfl) (d.ret rfl)))))))
  refine wp_skip (blk_normal (then_normal (wp_region_lit (rn 2 [] s d rfl rfl fun a s => ?_))))
  obtain ⟨i270, h269, u⟩ := bind_t u
  refine sv s (y_assignI rfl h269) rfl fun a s => ?_
  exact nl ⟨_, (Option.some.inj u).symm, Sv265, (s.wk rfl), (d.ft [] [0, 1] (by decide) rfl rfl)⟩
 obtain ⟨rv271, u, h272⟩ := map_t u
 have h272 := (hd205 _ h272.symm).symm
 subst h272
 refine wp_exit (then_exit (then_exit (blk_exit (then_normal (sz 1 [] s d rfl rfl fun a s => ?_)))))
 have u := oi u
 subst u
 exact wp_ret (ret1 s rfl (rv_tmp rfl) (d.ret rfl))
theorem ref16_SameSegments_ok {w0 S0 p2 k3 p6 k7 a1 b5 r} (u : ref16_SameSegments a1 b5 = some r) (hS : Dm S0 w0) (h4 : (SlA p2 a1.length k3 a1).p S0 w0) (h8 : (SlA p6 b5.length k7 b5).p S0 w0) : Calls Tryz.prog 32 #[.slice p2 a1.length k3, .slice p6 b5.length k7] w0 (Ret ([]) w0 S0 (made_Light_rd w0 ([]) r)) := by
 refine en 81 Tryz.func32 rfl hS rfl rfl rfl fun a s d => ?_
 have d := (d.addE h4).addE h8
 delta ref16_SameSegments at u
 refine sz 1 [] s d rfl rfl fun a s => ?_
 refine wp_seq (sz 5 [] s d rfl rfl fun a s => ?_)
 refine cd s u rfl (fun u => ?_) fun u => ?_
 ·refine sz 1 [] s d rfl rfl fun a s => ?_
  have u := oi u
  subst u
  exact wp_ret (then_ret (ret1 s rfl (rv_tmp rfl) (d.ret rfl)))
 refine wp_skip (then_normal (wp_seq (sz 1 [] s d rfl rfl fun a s => ?_)))
 refine wp_block (wp_while (fun sv439 a w => ∃ Sv723, Sl 81 [(0, .slice p2 a1.length k3), (1, .slice p6 b5.length k7), (5, .int .i64 sv439)] a ∧ Wd ⟨w0, S0, []⟩ Sv723 [] [SlA p2 a1.length k3 a1, SlA p6 b5.length k7 b5] w) 0 u ⟨S0, (s.wk rfl), (d.ft [] [1, 0] (by decide) rfl rfl)⟩ ?_)
 repeat clear u
 rintro sv439 a w tv866 ⟨Sv723, s, d⟩ u hd865
 delta ref16_SameSegments_l2 at u
 refine wp_seq (sz 4 [] s d rfl rfl fun a s => ?_)
 refine cd s u rfl (fun u => ?_) fun u => ?_
 ·refine wp_skip (then_normal (wp_seq (wp_block (wp_seq ?_))))
  obtain ⟨x1011, h1009, u⟩ := bind_t u
  obtain ⟨b1017, o1018, q1015, c1016, h1019, h1012, h1013, h1014, h1010⟩ := d.elemV 0 rfl h1009
  have hsv1020 := s
  have hwv1021 := d
  subst h1019
  have s := hsv1020
  have d := hwv1021
  obtain ⟨_, _, _, _, _, _, rfl, rfl, rfl, rfl, rfl, rfl, ⟨p1022, n1023, k1024, rfl, h1025⟩⟩ := h1010
  obtain rfl := h1025.1
  have d := (d.addE (e := SlA p1022 _ k1024 x1011.Samples) h1025).addE h1014
  obtain ⟨x1028, h1026, u⟩ := bind_t u
  obtain ⟨b1034, o1035, q1032, c1033, h1036, h1029, h1030, h1031, h1027⟩ := d.elemV 3 rfl h1026
  have hsv1037 := s
  have hwv1038 := d
  subst h1036
  have s := hsv1037
  have d := hwv1038
  obtain ⟨_, _, _, _, _, _, rfl, rfl, rfl, rfl, rfl, rfl, ⟨p1039, n1040, k1041, rfl, h1042⟩⟩ := h1027
  obtain rfl := h1042.1
  have d := (d.addE (e := SlA p1039 _ k1041 x1028.Samples) h1042).addE h1031
  obtain ⟨c1067, hc1067, u⟩ := bind_t u
  obtain ⟨c1092, hc1092, u⟩ := bind_t u
  obtain ⟨c1117, hc1117, u⟩ := bind_t u
  obtain ⟨c1144, hc1144, u⟩ := bind_t u
  refine wp_only (fun a w => ∃ Sv1145, Sl 81 [(0, .slice (some ⟨b1017, o1018, none⟩) a1.length k3), (1, .slice (some ⟨b1034, o1035, none⟩) b5.length k7), (5, .int .i64 sv439), (80, .bool c1144)] a ∧ Wd ⟨w0, S0, []⟩ Sv1145 [] [SlA (some ⟨b1017, o1018, none⟩) a1.length k3 a1, SlA (some ⟨b1034, o1035, none⟩) b5.length k7 b5] w) ?_ ?_
  ·rcases Bool.eq_false_or_eq_true (x1011.Start != x1028.Start) with h1146 | h1146
   ·have h1147 := ite_t hc1067 h1146
    have h1148 : c1067 = true := (Option.some.inj h1147).symm
    have h1149 := ite_t hc1092 h1148
    have h1150 : c1092 = true := (Option.some.inj h1149).symm
    have h1151 := ite_t hc1117 h1150
    have h1152 : c1117 = true := (Option.some.inj h1151).symm
    have h1153 := ite_t hc1144 h1152
    refine h_c [] [0, 2] d rfl rfl (by kernel_rfl) rfl fun hC d => ?_
    refine gn 2 [0, 1] [] s hC rfl rfl rfl fun a s => ?_
    refine gv s 2 rfl rfl hC (fun w hC => y_indexAt Tryz.runUnderlying60 Tryz.sizeOf64 rfl rfl h1012.1 h1012.2 h1013) fun a s => ?_
    refine gv s 3 rfl rfl hC (fun w hC => y_fieldAddr (o' := q1015 + 0) Tryz.runUnderlying64 rfl Tryz.sizeOf3 rfl rfl rfl) fun a s => ?_
    refine gv s 4 rfl rfl hC (fun w hC => y_loadE1 (j := 0) (hC.ceAt 1 rfl) rfl Tryz.isAgg3 rfl) fun a s => ?_
    refine gn 2 [5, 6] [] s hC rfl rfl rfl fun a s => ?_
    refine gv s 7 rfl rfl hC (fun w hC => y_indexAt Tryz.runUnderlying60 Tryz.sizeOf64 rfl rfl h1029.1 h1029.2 h1030) fun a s => ?_
    refine gv s 8 rfl rfl hC (fun w hC => y_fieldAddr (o' := q1032 + 0) Tryz.runUnderlying64 rfl Tryz.sizeOf3 rfl rfl rfl) fun a s => ?_
    refine gv s 9 rfl rfl hC (fun w hC => y_loadE1 (j := 0) (hC.ceAt 0 rfl) rfl Tryz.isAgg3 rfl) fun a s => ?_
    refine gn 2 [10, 11] [] s hC rfl rfl rfl fun a s => ?_
    have s := s.fix 28 (.bool true) rfl (vb h1146)
    refine gn 11 [12, 13, 14, 15, 16, 17, 18, 19, 20, 21, 22] [] s hC rfl rfl rfl fun a s => ?_
    refine gv s 23 rfl rfl hC (fun w hC => y_pickTE (v := .bool c1067) rfl rfl (vbs h1147)) fun a s => ?_
    refine gm s 24 rfl rfl rfl hC fun a s => ?_
    have s := s.fix 41 (.bool true) rfl (vb h1148)
    refine gn 11 [25, 26, 27, 28, 29, 30, 31, 32, 33, 34, 35] [] s hC rfl rfl rfl fun a s => ?_
    refine gv s 36 rfl rfl hC (fun w hC => y_pickTE (v := .bool c1092) rfl rfl (vbs h1149)) fun a s => ?_
    refine gm s 37 rfl rfl rfl hC fun a s => ?_
    have s := s.fix 54 (.bool true) rfl (vb h1150)
    refine gn 11 [38, 39, 40, 41, 42, 43, 44, 45, 46, 47, 48] [] s hC rfl rfl rfl fun a s => ?_
    refine gv s 49 rfl rfl hC (fun w hC => y_pickTE (v := .bool c1117) rfl rfl (vbs h1151)) fun a s => ?_
    refine gm s 50 rfl rfl rfl hC fun a s => ?_
    have s := s.fix 67 (.bool true) rfl (vb h1152)
    refine gn 12 [51, 52, 53, 54, 55, 56, 57, 58, 59, 60, 61, 62] [] s hC rfl rfl rfl fun a s => ?_
    refine gv s 63 rfl rfl hC (fun w hC => y_pickTE (v := .bool c1144) rfl rfl (vbs h1153)) fun a s => ?_
    refine h_done (by kernel_rfl) ?_
    exact ⟨Sv723, (s.wk rfl), (d.ft [] [4, 5] (by decide) rfl rfl)⟩
   have h1154 := ite_f hc1067 h1146
   obtain ⟨x1157, h1155, h1154⟩ := bind_t h1154
   obtain ⟨q1161, c1162, h1158, h1159, h1160, h1156⟩ := d.elemK 4 rfl h1155
   obtain ⟨_, _, _, _, _, _, rfl, rfl, rfl, rfl, rfl, rfl, ⟨p1163, n1164, k1165, rfl, h1166⟩⟩ := h1156
   obtain rfl := h1166.1
   have d := (d.addE (e := SlA p1163 _ k1165 x1157.Samples) h1166).addE h1160
   obtain ⟨x1169, h1167, h1154⟩ := bind_t h1154
   obtain ⟨q1173, c1174, h1170, h1171, h1172, h1168⟩ := d.elemK 7 rfl h1167
   obtain ⟨_, _, _, _, _, _, rfl, rfl, rfl, rfl, rfl, rfl, ⟨p1175, n1176, k1177, rfl, h1178⟩⟩ := h1168
   obtain rfl := h1178.1
   have d := (d.addE (e := SlA p1175 _ k1177 x1169.Samples) h1178).addE h1172
   rcases Bool.eq_false_or_eq_true c1067 with h1179 | h1179
   ·have h1180 := ite_t hc1092 h1179
    have h1181 : c1092 = true := (Option.some.inj h1180).symm
    have h1182 := ite_t hc1117 h1181
    have h1183 : c1117 = true := (Option.some.inj h1182).symm
    have h1184 := ite_t hc1144 h1183
    refine h_c [] [0, 2, 4, 6] d rfl rfl (by kernel_rfl) rfl fun hC d => ?_
    refine gn 2 [0, 1] [] s hC rfl rfl rfl fun a s => ?_
    refine gv s 2 rfl rfl hC (fun w hC => y_indexAt Tryz.runUnderlying60 Tryz.sizeOf64 rfl rfl h1012.1 h1012.2 h1013) fun a s => ?_
    refine gv s 3 rfl rfl hC (fun w hC => y_fieldAddr (o' := q1015 + 0) Tryz.runUnderlying64 rfl Tryz.sizeOf3 rfl rfl rfl) fun a s => ?_
    refine gv s 4 rfl rfl hC (fun w hC => y_loadE1 (j := 0) (hC.ceAt 3 rfl) rfl Tryz.isAgg3 rfl) fun a s => ?_
    refine gn 2 [5, 6] [] s hC rfl rfl rfl fun a s => ?_
    refine gv s 7 rfl rfl hC (fun w hC => y_indexAt Tryz.runUnderlying60 Tryz.sizeOf64 rfl rfl h1029.1 h1029.2 h1030) fun a s => ?_
    refine gv s 8 rfl rfl hC (fun w hC => y_fieldAddr (o' := q1032 + 0) Tryz.runUnderlying64 rfl Tryz.sizeOf3 rfl rfl rfl) fun a s => ?_
    refine gv s 9 rfl rfl hC (fun w hC => y_loadE1 (j := 0) (hC.ceAt 2 rfl) rfl Tryz.isAgg3 rfl) fun a s => ?_
    refine gn 2 [10, 11] [] s hC rfl rfl rfl fun a s => ?_
    have s := s.fix 28 (.bool false) rfl (vb h1146)
    refine gn 2 [12, 13] [] s hC rfl rfl rfl fun a s => ?_
    refine gt s 14 rfl ⟨_, rfl, rfl⟩ rfl hC (fun w hC => y_indexAt Tryz.runUnderlying60 Tryz.sizeOf64 rfl rfl h1158.1 h1158.2 h1159) fun a s => ?_
    refine gt s 15 rfl ⟨_, rfl, rfl⟩ rfl hC (fun w hC => y_fieldAddr (o' := q1161 + 1) Tryz.runUnderlying64 rfl Tryz.sizeOf3 rfl rfl rfl) fun a s => ?_
    refine gt s 16 rfl ⟨_, rfl, rfl⟩ rfl hC (fun w hC => y_loadE1 (j := 1) (hC.ceAt 1 rfl) rfl Tryz.isAgg3 rfl) fun a s => ?_
    refine gn 2 [17, 18] [] s hC rfl rfl rfl fun a s => ?_
    refine gt s 19 rfl ⟨_, rfl, rfl⟩ rfl hC (fun w hC => y_indexAt Tryz.runUnderlying60 Tryz.sizeOf64 rfl rfl h1170.1 h1170.2 h1171) fun a s => ?_
    refine gt s 20 rfl ⟨_, rfl, rfl⟩ rfl hC (fun w hC => y_fieldAddr (o' := q1173 + 1) Tryz.runUnderlying64 rfl Tryz.sizeOf3 rfl rfl rfl) fun a s => ?_
    refine gt s 21 rfl ⟨_, rfl, rfl⟩ rfl hC (fun w hC => y_loadE1 (j := 1) (hC.ceAt 0 rfl) rfl Tryz.isAgg3 rfl) fun a s => ?_
    refine gt s 22 rfl ⟨_, rfl, rfl⟩ rfl hC (fun w hC => y_neq rfl rfl) fun a s => ?_
    refine gv s 23 rfl rfl hC (fun w hC => y_pickFE (v := .bool c1067) rfl rfl (vbs h1154)) fun a s => ?_
    refine gm s 24 rfl rfl rfl hC fun a s => ?_
    have s := s.fix 41 (.bool true) rfl (vb h1179)
    refine gn 11 [25, 26, 27, 28, 29, 30, 31, 32, 33, 34, 35] [] s hC rfl rfl rfl fun a s => ?_
    refine gv s 36 rfl rfl hC (fun w hC => y_pickTE (v := .bool c1092) rfl rfl (vbs h1180)) fun a s => ?_
    refine gm s 37 rfl rfl rfl hC fun a s => ?_
    have s := s.fix 54 (.bool true) rfl (vb h1181)
    refine gn 11 [38, 39, 40, 41, 42, 43, 44, 45, 46, 47, 48] [] s hC rfl rfl rfl fun a s => ?_
    refine gv s 49 rfl rfl hC (fun w hC => y_pickTE (v := .bool c1117) rfl rfl (vbs h1182)) fun a s => ?_
    refine gm s 50 rfl rfl rfl hC fun a s => ?_
    have s := s.fix 67 (.bool true) rfl (vb h1183)
    refine gn 12 [51, 52, 53, 54, 55, 56, 57, 58, 59, 60, 61, 62] [] s hC rfl rfl rfl fun a s => ?_
    refine gv s 63 rfl rfl hC (fun w hC => y_pickTE (v := .bool c1144) rfl rfl (vbs h1184)) fun a s => ?_
    refine h_done (by kernel_rfl) ?_
    exact ⟨Sv723, (s.wk rfl), (d.ft [] [8, 9] (by decide) rfl rfl)⟩
   have h1185 := ite_f hc1092 h1179
   obtain ⟨x1188, h1186, h1185⟩ := bind_t h1185
   obtain ⟨q1192, c1193, h1189, h1190, h1191, h1187⟩ := d.elemK 8 rfl h1186
   obtain ⟨_, _, _, _, _, _, rfl, rfl, rfl, rfl, rfl, rfl, ⟨p1194, n1195, k1196, rfl, h1197⟩⟩ := h1187
   obtain rfl := h1197.1
   have d := (d.addE (e := SlA p1194 _ k1196 x1188.Samples) h1197).addE h1191
   obtain ⟨x1200, h1198, h1185⟩ := bind_t h1185
   obtain ⟨q1204, c1205, h1201, h1202, h1203, h1199⟩ := d.elemK 11 rfl h1198
   obtain ⟨_, _, _, _, _, _, rfl, rfl, rfl, rfl, rfl, rfl, ⟨p1206, n1207, k1208, rfl, h1209⟩⟩ := h1199
   obtain rfl := h1209.1
   have d := (d.addE (e := SlA p1206 _ k1208 x1200.Samples) h1209).addE h1203
   rcases Bool.eq_false_or_eq_true c1092 with h1210 | h1210
   ·have h1211 := ite_t hc1117 h1210
    have h1212 : c1117 = true := (Option.some.inj h1211).symm
    have h1213 := ite_t hc1144 h1212
    refine h_c [] [0, 2, 4, 6, 8, 10] d rfl rfl (by kernel_rfl) rfl fun hC d => ?_
    refine gn 2 [0, 1] [] s hC rfl rfl rfl fun a s => ?_
    refine gv s 2 rfl rfl hC (fun w hC => y_indexAt Tryz.runUnderlying60 Tryz.sizeOf64 rfl rfl h1012.1 h1012.2 h1013) fun a s => ?_
    refine gv s 3 rfl rfl hC (fun w hC => y_fieldAddr (o' := q1015 + 0) Tryz.runUnderlying64 rfl Tryz.sizeOf3 rfl rfl rfl) fun a s => ?_
    refine gv s 4 rfl rfl hC (fun w hC => y_loadE1 (j := 0) (hC.ceAt 5 rfl) rfl Tryz.isAgg3 rfl) fun a s => ?_
    refine gn 2 [5, 6] [] s hC rfl rfl rfl fun a s => ?_
    refine gv s 7 rfl rfl hC (fun w hC => y_indexAt Tryz.runUnderlying60 Tryz.sizeOf64 rfl rfl h1029.1 h1029.2 h1030) fun a s => ?_
    refine gv s 8 rfl rfl hC (fun w hC => y_fieldAddr (o' := q1032 + 0) Tryz.runUnderlying64 rfl Tryz.sizeOf3 rfl rfl rfl) fun a s => ?_
    refine gv s 9 rfl rfl hC (fun w hC => y_loadE1 (j := 0) (hC.ceAt 4 rfl) rfl Tryz.isAgg3 rfl) fun a s => ?_
    refine gn 2 [10, 11] [] s hC rfl rfl rfl fun a s => ?_
    have s := s.fix 28 (.bool false) rfl (vb h1146)
    refine gn 2 [12, 13] [] s hC rfl rfl rfl fun a s => ?_
    refine gt s 14 rfl ⟨_, rfl, rfl⟩ rfl hC (fun w hC => y_indexAt Tryz.runUnderlying60 Tryz.sizeOf64 rfl rfl h1158.1 h1158.2 h1159) fun a s => ?_
    refine gt s 15 rfl ⟨_, rfl, rfl⟩ rfl hC (fun w hC => y_fieldAddr (o' := q1161 + 1) Tryz.runUnderlying64 rfl Tryz.sizeOf3 rfl rfl rfl) fun a s => ?_
    refine gt s 16 rfl ⟨_, rfl, rfl⟩ rfl hC (fun w hC => y_loadE1 (j := 1) (hC.ceAt 3 rfl) rfl Tryz.isAgg3 rfl) fun a s => ?_
    refine gn 2 [17, 18] [] s hC rfl rfl rfl fun a s => ?_
    refine gt s 19 rfl ⟨_, rfl, rfl⟩ rfl hC (fun w hC => y_indexAt Tryz.runUnderlying60 Tryz.sizeOf64 rfl rfl h1170.1 h1170.2 h1171) fun a s => ?_
    refine gt s 20 rfl ⟨_, rfl, rfl⟩ rfl hC (fun w hC => y_fieldAddr (o' := q1173 + 1) Tryz.runUnderlying64 rfl Tryz.sizeOf3 rfl rfl rfl) fun a s => ?_
    refine gt s 21 rfl ⟨_, rfl, rfl⟩ rfl hC (fun w hC => y_loadE1 (j := 1) (hC.ceAt 2 rfl) rfl Tryz.isAgg3 rfl) fun a s => ?_
    refine gt s 22 rfl ⟨_, rfl, rfl⟩ rfl hC (fun w hC => y_neq rfl rfl) fun a s => ?_
    refine gv s 23 rfl rfl hC (fun w hC => y_pickFE (v := .bool c1067) rfl rfl (vbs h1154)) fun a s => ?_
    refine gm s 24 rfl rfl rfl hC fun a s => ?_
    have s := s.fix 41 (.bool false) rfl (vb h1179)
    refine gn 2 [25, 26] [] s hC rfl rfl rfl fun a s => ?_
    refine gt s 27 rfl ⟨_, rfl, rfl⟩ rfl hC (fun w hC => y_indexAt Tryz.runUnderlying60 Tryz.sizeOf64 rfl rfl h1189.1 h1189.2 h1190) fun a s => ?_
    refine gt s 28 rfl ⟨_, rfl, rfl⟩ rfl hC (fun w hC => y_fieldAddr (o' := q1192 + 2) Tryz.runUnderlying64 rfl Tryz.sizeOf54 rfl rfl rfl) fun a s => ?_
    refine gt s 29 rfl ⟨_, rfl, rfl⟩ rfl hC (fun w hC => y_loadEA (j := 2) (hC.ceAt 1 rfl) rfl Tryz.isAgg54 Tryz.sizeOf54 rfl rfl) fun a s => ?_
    refine gn 2 [30, 31] [] s hC rfl rfl rfl fun a s => ?_
    refine gt s 32 rfl ⟨_, rfl, rfl⟩ rfl hC (fun w hC => y_indexAt Tryz.runUnderlying60 Tryz.sizeOf64 rfl rfl h1201.1 h1201.2 h1202) fun a s => ?_
    refine gt s 33 rfl ⟨_, rfl, rfl⟩ rfl hC (fun w hC => y_fieldAddr (o' := q1204 + 2) Tryz.runUnderlying64 rfl Tryz.sizeOf54 rfl rfl rfl) fun a s => ?_
    refine gt s 34 rfl ⟨_, rfl, rfl⟩ rfl hC (fun w hC => y_loadEA (j := 2) (hC.ceAt 0 rfl) rfl Tryz.isAgg54 Tryz.sizeOf54 rfl rfl) fun a s => ?_
    refine gt s 35 rfl ⟨_, rfl, rfl⟩ rfl hC (fun w hC => y_neqA (by kernel_rfl) rfl rfl (eqv_struct Tryz.runUnderlying54 (by kernel_rfl) (EqF.cons1 rfl Tryz.isAgg3 rfl rfl (eqv_int Tryz.runUnderlying3) (EqF.cons1 rfl Tryz.isAgg3 rfl rfl (eqv_int Tryz.runUnderlying3) EqF.nil)))) fun a s => ?_
    refine gv s 36 rfl rfl hC (fun w hC => y_pickFE (v := .bool c1092) rfl rfl (vbs h1185)) fun a s => ?_
    refine gm s 37 rfl rfl rfl hC fun a s => ?_
    have s := s.fix 54 (.bool true) rfl (vb h1210)
    refine gn 11 [38, 39, 40, 41, 42, 43, 44, 45, 46, 47, 48] [] s hC rfl rfl rfl fun a s => ?_
    refine gv s 49 rfl rfl hC (fun w hC => y_pickTE (v := .bool c1117) rfl rfl (vbs h1211)) fun a s => ?_
    refine gm s 50 rfl rfl rfl hC fun a s => ?_
    have s := s.fix 67 (.bool true) rfl (vb h1212)
    refine gn 12 [51, 52, 53, 54, 55, 56, 57, 58, 59, 60, 61, 62] [] s hC rfl rfl rfl fun a s => ?_
    refine gv s 63 rfl rfl hC (fun w hC => y_pickTE (v := .bool c1144) rfl rfl (vbs h1213)) fun a s => ?_
    refine h_done (by kernel_rfl) ?_
    exact ⟨Sv723, (s.wk rfl), (d.ft [] [12, 13] (by decide) rfl rfl)⟩
   have h1214 := ite_f hc1117 h1210
   obtain ⟨x1217, h1215, h1214⟩ := bind_t h1214
   obtain ⟨q1221, c1222, h1218, h1219, h1220, h1216⟩ := d.elemK 12 rfl h1215
   obtain ⟨_, _, _, _, _, _, rfl, rfl, rfl, rfl, rfl, rfl, ⟨p1223, n1224, k1225, rfl, h1226⟩⟩ := h1216
   obtain rfl := h1226.1
   have d := (d.addE (e := SlA p1223 _ k1225 x1217.Samples) h1226).addE h1220
   obtain ⟨x1229, h1227, h1214⟩ := bind_t h1214
   obtain ⟨q1233, c1234, h1230, h1231, h1232, h1228⟩ := d.elemK 15 rfl h1227
   obtain ⟨_, _, _, _, _, _, rfl, rfl, rfl, rfl, rfl, rfl, ⟨p1235, n1236, k1237, rfl, h1238⟩⟩ := h1228
   obtain rfl := h1238.1
   have d := (d.addE (e := SlA p1235 _ k1237 x1229.Samples) h1238).addE h1232
   rcases Bool.eq_false_or_eq_true c1117 with h1239 | h1239
   ·have h1240 := ite_t hc1144 h1239
    refine h_c [] [0, 2, 4, 6, 8, 10, 12, 14] d rfl rfl (by kernel_rfl) rfl fun hC d => ?_
    refine gn 2 [0, 1] [] s hC rfl rfl rfl fun a s => ?_
    refine gv s 2 rfl rfl hC (fun w hC => y_indexAt Tryz.runUnderlying60 Tryz.sizeOf64 rfl rfl h1012.1 h1012.2 h1013) fun a s => ?_
    refine gv s 3 rfl rfl hC (fun w hC => y_fieldAddr (o' := q1015 + 0) Tryz.runUnderlying64 rfl Tryz.sizeOf3 rfl rfl rfl) fun a s => ?_
    refine gv s 4 rfl rfl hC (fun w hC => y_loadE1 (j := 0) (hC.ceAt 7 rfl) rfl Tryz.isAgg3 rfl) fun a s => ?_
    refine gn 2 [5, 6] [] s hC rfl rfl rfl fun a s => ?_
    refine gv s 7 rfl rfl hC (fun w hC => y_indexAt Tryz.runUnderlying60 Tryz.sizeOf64 rfl rfl h1029.1 h1029.2 h1030) fun a s => ?_
    refine gv s 8 rfl rfl hC (fun w hC => y_fieldAddr (o' := q1032 + 0) Tryz.runUnderlying64 rfl Tryz.sizeOf3 rfl rfl rfl) fun a s => ?_
    refine gv s 9 rfl rfl hC (fun w hC => y_loadE1 (j := 0) (hC.ceAt 6 rfl) rfl Tryz.isAgg3 rfl) fun a s => ?_
    refine gn 2 [10, 11] [] s hC rfl rfl rfl fun a s => ?_
    have s := s.fix 28 (.bool false) rfl (vb h1146)
    refine gn 2 [12, 13] [] s hC rfl rfl rfl fun a s => ?_
    refine gt s 14 rfl ⟨_, rfl, rfl⟩ rfl hC (fun w hC => y_indexAt Tryz.runUnderlying60 Tryz.sizeOf64 rfl rfl h1158.1 h1158.2 h1159) fun a s => ?_
    refine gt s 15 rfl ⟨_, rfl, rfl⟩ rfl hC (fun w hC => y_fieldAddr (o' := q1161 + 1) Tryz.runUnderlying64 rfl Tryz.sizeOf3 rfl rfl rfl) fun a s => ?_
    refine gt s 16 rfl ⟨_, rfl, rfl⟩ rfl hC (fun w hC => y_loadE1 (j := 1) (hC.ceAt 5 rfl) rfl Tryz.isAgg3 rfl) fun a s => ?_
    refine gn 2 [17, 18] [] s hC rfl rfl rfl fun a s => ?_
    refine gt s 19 rfl ⟨_, rfl, rfl⟩ rfl hC (fun w hC => y_indexAt Tryz.runUnderlying60 Tryz.sizeOf64 rfl rfl h1170.1 h1170.2 h1171) fun a s => ?_
    refine gt s 20 rfl ⟨_, rfl, rfl⟩ rfl hC (fun w hC => y_fieldAddr (o' := q1173 + 1) Tryz.runUnderlying64 rfl Tryz.sizeOf3 rfl rfl rfl) fun a s => ?_
    refine gt s 21 rfl ⟨_, rfl, rfl⟩ rfl hC (fun w hC => y_loadE1 (j := 1) (hC.ceAt 4 rfl) rfl Tryz.isAgg3 rfl) fun a s => ?_
    refine gt s 22 rfl ⟨_, rfl, rfl⟩ rfl hC (fun w hC => y_neq rfl rfl) fun a s => ?_
    refine gv s 23 rfl rfl hC (fun w hC => y_pickFE (v := .bool c1067) rfl rfl (vbs h1154)) fun a s => ?_
    refine gm s 24 rfl rfl rfl hC fun a s => ?_
    have s := s.fix 41 (.bool false) rfl (vb h1179)
    refine gn 2 [25, 26] [] s hC rfl rfl rfl fun a s => ?_
    refine gt s 27 rfl ⟨_, rfl, rfl⟩ rfl hC (fun w hC => y_indexAt Tryz.runUnderlying60 Tryz.sizeOf64 rfl rfl h1189.1 h1189.2 h1190) fun a s => ?_
    refine gt s 28 rfl ⟨_, rfl, rfl⟩ rfl hC (fun w hC => y_fieldAddr (o' := q1192 + 2) Tryz.runUnderlying64 rfl Tryz.sizeOf54 rfl rfl rfl) fun a s => ?_
    refine gt s 29 rfl ⟨_, rfl, rfl⟩ rfl hC (fun w hC => y_loadEA (j := 2) (hC.ceAt 3 rfl) rfl Tryz.isAgg54 Tryz.sizeOf54 rfl rfl) fun a s => ?_
    refine gn 2 [30, 31] [] s hC rfl rfl rfl fun a s => ?_
    refine gt s 32 rfl ⟨_, rfl, rfl⟩ rfl hC (fun w hC => y_indexAt Tryz.runUnderlying60 Tryz.sizeOf64 rfl rfl h1201.1 h1201.2 h1202) fun a s => ?_
    refine gt s 33 rfl ⟨_, rfl, rfl⟩ rfl hC (fun w hC => y_fieldAddr (o' := q1204 + 2) Tryz.runUnderlying64 rfl Tryz.sizeOf54 rfl rfl rfl) fun a s => ?_
    refine gt s 34 rfl ⟨_, rfl, rfl⟩ rfl hC (fun w hC => y_loadEA (j := 2) (hC.ceAt 2 rfl) rfl Tryz.isAgg54 Tryz.sizeOf54 rfl rfl) fun a s => ?_
    refine gt s 35 rfl ⟨_, rfl, rfl⟩ rfl hC (fun w hC => y_neqA (by kernel_rfl) rfl rfl (eqv_struct Tryz.runUnderlying54 (by kernel_rfl) (EqF.cons1 rfl Tryz.isAgg3 rfl rfl (eqv_int Tryz.runUnderlying3) (EqF.cons1 rfl Tryz.isAgg3 rfl rfl (eqv_int Tryz.runUnderlying3) EqF.nil)))) fun a s => ?_
    refine gv s 36 rfl rfl hC (fun w hC => y_pickFE (v := .bool c1092) rfl rfl (vbs h1185)) fun a s => ?_
    refine gm s 37 rfl rfl rfl hC fun a s => ?_
    have s := s.fix 54 (.bool false) rfl (vb h1210)
    refine gn 2 [38, 39] [] s hC rfl rfl rfl fun a s => ?_
    refine gt s 40 rfl ⟨_, rfl, rfl⟩ rfl hC (fun w hC => y_indexAt Tryz.runUnderlying60 Tryz.sizeOf64 rfl rfl h1218.1 h1218.2 h1219) fun a s => ?_
    refine gt s 41 rfl ⟨_, rfl, rfl⟩ rfl hC (fun w hC => y_fieldAddr (o' := q1221 + 4) Tryz.runUnderlying64 rfl Tryz.sizeOf3 rfl rfl rfl) fun a s => ?_
    refine gt s 42 rfl ⟨_, rfl, rfl⟩ rfl hC (fun w hC => y_loadE1 (j := 4) (hC.ceAt 1 rfl) rfl Tryz.isAgg3 rfl) fun a s => ?_
    refine gn 2 [43, 44] [] s hC rfl rfl rfl fun a s => ?_
    refine gt s 45 rfl ⟨_, rfl, rfl⟩ rfl hC (fun w hC => y_indexAt Tryz.runUnderlying60 Tryz.sizeOf64 rfl rfl h1230.1 h1230.2 h1231) fun a s => ?_
    refine gt s 46 rfl ⟨_, rfl, rfl⟩ rfl hC (fun w hC => y_fieldAddr (o' := q1233 + 4) Tryz.runUnderlying64 rfl Tryz.sizeOf3 rfl rfl rfl) fun a s => ?_
    refine gt s 47 rfl ⟨_, rfl, rfl⟩ rfl hC (fun w hC => y_loadE1 (j := 4) (hC.ceAt 0 rfl) rfl Tryz.isAgg3 rfl) fun a s => ?_
    refine gt s 48 rfl ⟨_, rfl, rfl⟩ rfl hC (fun w hC => y_neq rfl rfl) fun a s => ?_
    refine gv s 49 rfl rfl hC (fun w hC => y_pickFE (v := .bool c1117) rfl rfl (vbs h1214)) fun a s => ?_
    refine gm s 50 rfl rfl rfl hC fun a s => ?_
    have s := s.fix 67 (.bool true) rfl (vb h1239)
    refine gn 12 [51, 52, 53, 54, 55, 56, 57, 58, 59, 60, 61, 62] [] s hC rfl rfl rfl fun a s => ?_
    refine gv s 63 rfl rfl hC (fun w hC => y_pickTE (v := .bool c1144) rfl rfl (vbs h1240)) fun a s => ?_
    refine h_done (by kernel_rfl) ?_
    exact ⟨Sv723, (s.wk rfl), (d.ft [] [16, 17] (by decide) rfl rfl)⟩
   have h1241 := ite_f hc1144 h1239
   obtain ⟨x1244, h1242, h1241⟩ := bind_t h1241
   obtain ⟨q1248, c1249, h1245, h1246, h1247, h1243⟩ := d.elemK 16 rfl h1242
   obtain ⟨_, _, _, _, _, _, rfl, rfl, rfl, rfl, rfl, rfl, ⟨p1250, n1251, k1252, rfl, h1253⟩⟩ := h1243
   obtain rfl := h1253.1
   have d := (d.addE (e := SlA p1250 _ k1252 x1244.Samples) h1253).addE h1247
   obtain ⟨x1256, h1254, h1241⟩ := bind_t h1241
   obtain ⟨q1260, c1261, h1257, h1258, h1259, h1255⟩ := d.elemK 19 rfl h1254
   obtain ⟨_, _, _, _, _, _, rfl, rfl, rfl, rfl, rfl, rfl, ⟨p1262, n1263, k1264, rfl, h1265⟩⟩ := h1255
   obtain rfl := h1265.1
   have d := (d.addE (e := SlA p1262 _ k1264 x1256.Samples) h1265).addE h1259
   obtain ⟨rv1267, h1266, h1241⟩ := bind_t h1241
   refine h_c [] [0, 2, 4, 6, 8, 10, 12, 14, 16, 18] d rfl rfl (by kernel_rfl) rfl fun hC d => ?_
   refine gn 2 [0, 1] [] s hC rfl rfl rfl fun a s => ?_
   refine gv s 2 rfl rfl hC (fun w hC => y_indexAt Tryz.runUnderlying60 Tryz.sizeOf64 rfl rfl h1012.1 h1012.2 h1013) fun a s => ?_
   refine gv s 3 rfl rfl hC (fun w hC => y_fieldAddr (o' := q1015 + 0) Tryz.runUnderlying64 rfl Tryz.sizeOf3 rfl rfl rfl) fun a s => ?_
   refine gv s 4 rfl rfl hC (fun w hC => y_loadE1 (j := 0) (hC.ceAt 9 rfl) rfl Tryz.isAgg3 rfl) fun a s => ?_
   refine gn 2 [5, 6] [] s hC rfl rfl rfl fun a s => ?_
   refine gv s 7 rfl rfl hC (fun w hC => y_indexAt Tryz.runUnderlying60 Tryz.sizeOf64 rfl rfl h1029.1 h1029.2 h1030) fun a s => ?_
   refine gv s 8 rfl rfl hC (fun w hC => y_fieldAddr (o' := q1032 + 0) Tryz.runUnderlying64 rfl Tryz.sizeOf3 rfl rfl rfl) fun a s => ?_
   refine gv s 9 rfl rfl hC (fun w hC => y_loadE1 (j := 0) (hC.ceAt 8 rfl) rfl Tryz.isAgg3 rfl) fun a s => ?_
   refine gn 2 [10, 11] [] s hC rfl rfl rfl fun a s => ?_
   have s := s.fix 28 (.bool false) rfl (vb h1146)
   refine gn 2 [12, 13] [] s hC rfl rfl rfl fun a s => ?_
   refine gt s 14 rfl ⟨_, rfl, rfl⟩ rfl hC (fun w hC => y_indexAt Tryz.runUnderlying60 Tryz.sizeOf64 rfl rfl h1158.1 h1158.2 h1159) fun a s => ?_
   refine gt s 15 rfl ⟨_, rfl, rfl⟩ rfl hC (fun w hC => y_fieldAddr (o' := q1161 + 1) Tryz.runUnderlying64 rfl Tryz.sizeOf3 rfl rfl rfl) fun a s => ?_
   refine gt s 16 rfl ⟨_, rfl, rfl⟩ rfl hC (fun w hC => y_loadE1 (j := 1) (hC.ceAt 7 rfl) rfl Tryz.isAgg3 rfl) fun a s => ?_
   refine gn 2 [17, 18] [] s hC rfl rfl rfl fun a s => ?_
   refine gt s 19 rfl ⟨_, rfl, rfl⟩ rfl hC (fun w hC => y_indexAt Tryz.runUnderlying60 Tryz.sizeOf64 rfl rfl h1170.1 h1170.2 h1171) fun a s => ?_
   refine gt s 20 rfl ⟨_, rfl, rfl⟩ rfl hC (fun w hC => y_fieldAddr (o' := q1173 + 1) Tryz.runUnderlying64 rfl Tryz.sizeOf3 rfl rfl rfl) fun a s => ?_
   refine gt s 21 rfl ⟨_, rfl, rfl⟩ rfl hC (fun w hC => y_loadE1 (j := 1) (hC.ceAt 6 rfl) rfl Tryz.isAgg3 rfl) fun a s => ?_
   refine gt s 22 rfl ⟨_, rfl, rfl⟩ rfl hC (fun w hC => y_neq rfl rfl) fun a s => ?_
   refine gv s 23 rfl rfl hC (fun w hC => y_pickFE (v := .bool c1067) rfl rfl (vbs h1154)) fun a s => ?_
   refine gm s 24 rfl rfl rfl hC fun a s => ?_
   have s := s.fix 41 (.bool false) rfl (vb h1179)
   refine gn 2 [25, 26] [] s hC rfl rfl rfl fun a s => ?_
   refine gt s 27 rfl ⟨_, rfl, rfl⟩ rfl hC (fun w hC => y_indexAt Tryz.runUnderlying60 Tryz.sizeOf64 rfl rfl h1189.1 h1189.2 h1190) fun a s => ?_
   refine gt s 28 rfl ⟨_, rfl, rfl⟩ rfl hC (fun w hC => y_fieldAddr (o' := q1192 + 2) Tryz.runUnderlying64 rfl Tryz.sizeOf54 rfl rfl rfl) fun a s => ?_
   refine gt s 29 rfl ⟨_, rfl, rfl⟩ rfl hC (fun w hC => y_loadEA (j := 2) (hC.ceAt 5 rfl) rfl Tryz.isAgg54 Tryz.sizeOf54 rfl rfl) fun a s => ?_
   refine gn 2 [30, 31] [] s hC rfl rfl rfl fun a s => ?_
   refine gt s 32 rfl ⟨_, rfl, rfl⟩ rfl hC (fun w hC => y_indexAt Tryz.runUnderlying60 Tryz.sizeOf64 rfl rfl h1201.1 h1201.2 h1202) fun a s => ?_
   refine gt s 33 rfl ⟨_, rfl, rfl⟩ rfl hC (fun w hC => y_fieldAddr (o' := q1204 + 2) Tryz.runUnderlying64 rfl Tryz.sizeOf54 rfl rfl rfl) fun a s => ?_
   refine gt s 34 rfl ⟨_, rfl, rfl⟩ rfl hC (fun w hC => y_loadEA (j := 2) (hC.ceAt 4 rfl) rfl Tryz.isAgg54 Tryz.sizeOf54 rfl rfl) fun a s => ?_
   refine gt s 35 rfl ⟨_, rfl, rfl⟩ rfl hC (fun w hC => y_neqA (by kernel_rfl) rfl rfl (eqv_struct Tryz.runUnderlying54 (by kernel_rfl) (EqF.cons1 rfl Tryz.isAgg3 rfl rfl (eqv_int Tryz.runUnderlying3) (EqF.cons1 rfl Tryz.isAgg3 rfl rfl (eqv_int Tryz.runUnderlying3) EqF.nil)))) fun a s => ?_
   refine gv s 36 rfl rfl hC (fun w hC => y_pickFE (v := .bool c1092) rfl rfl (vbs h1185)) fun a s => ?_
   refine gm s 37 rfl rfl rfl hC fun a s => ?_
   have s := s.fix 54 (.bool false) rfl (vb h1210)
   refine gn 2 [38, 39] [] s hC rfl rfl rfl fun a s => ?_
   refine gt s 40 rfl ⟨_, rfl, rfl⟩ rfl hC (fun w hC => y_indexAt Tryz.runUnderlying60 Tryz.sizeOf64 rfl rfl h1218.1 h1218.2 h1219) fun a s => ?_
   refine gt s 41 rfl ⟨_, rfl, rfl⟩ rfl hC (fun w hC => y_fieldAddr (o' := q1221 + 4) Tryz.runUnderlying64 rfl Tryz.sizeOf3 rfl rfl rfl) fun a s => ?_
   refine gt s 42 rfl ⟨_, rfl, rfl⟩ rfl hC (fun w hC => y_loadE1 (j := 4) (hC.ceAt 3 rfl) rfl Tryz.isAgg3 rfl) fun a s => ?_
   refine gn 2 [43, 44] [] s hC rfl rfl rfl fun a s => ?_
   refine gt s 45 rfl ⟨_, rfl, rfl⟩ rfl hC (fun w hC => y_indexAt Tryz.runUnderlying60 Tryz.sizeOf64 rfl rfl h1230.1 h1230.2 h1231) fun a s => ?_
   refine gt s 46 rfl ⟨_, rfl, rfl⟩ rfl hC (fun w hC => y_fieldAddr (o' := q1233 + 4) Tryz.runUnderlying64 rfl Tryz.sizeOf3 rfl rfl rfl) fun a s => ?_
   refine gt s 47 rfl ⟨_, rfl, rfl⟩ rfl hC (fun w hC => y_loadE1 (j := 4) (hC.ceAt 2 rfl) rfl Tryz.isAgg3 rfl) fun a s => ?_
   refine gt s 48 rfl ⟨_, rfl, rfl⟩ rfl hC (fun w hC => y_neq rfl rfl) fun a s => ?_
   refine gv s 49 rfl rfl hC (fun w hC => y_pickFE (v := .bool c1117) rfl rfl (vbs h1214)) fun a s => ?_
   refine gm s 50 rfl rfl rfl hC fun a s => ?_
   have s := s.fix 67 (.bool false) rfl (vb h1239)
   refine gn 2 [51, 52] [] s hC rfl rfl rfl fun a s => ?_
   refine gt s 53 rfl ⟨_, rfl, rfl⟩ rfl hC (fun w hC => y_indexAt Tryz.runUnderlying60 Tryz.sizeOf64 rfl rfl h1245.1 h1245.2 h1246) fun a s => ?_
   refine gt s 54 rfl ⟨_, rfl, rfl⟩ rfl hC (fun w hC => y_fieldAddr (o' := q1248 + 5) Tryz.runUnderlying64 rfl Tryz.sizeOf22 rfl rfl rfl) fun a s => ?_
   refine gt s 55 rfl ⟨_, rfl, rfl⟩ rfl hC (fun w hC => y_loadE1 (j := 5) (hC.ceAt 1 rfl) rfl Tryz.isAgg22 rfl) fun a s => ?_
   refine gn 2 [56, 57] [] s hC rfl rfl rfl fun a s => ?_
   refine gt s 58 rfl ⟨_, rfl, rfl⟩ rfl hC (fun w hC => y_indexAt Tryz.runUnderlying60 Tryz.sizeOf64 rfl rfl h1257.1 h1257.2 h1258) fun a s => ?_
   refine gt s 59 rfl ⟨_, rfl, rfl⟩ rfl hC (fun w hC => y_fieldAddr (o' := q1260 + 5) Tryz.runUnderlying64 rfl Tryz.sizeOf22 rfl rfl rfl) fun a s => ?_
   refine gt s 60 rfl ⟨_, rfl, rfl⟩ rfl hC (fun w hC => y_loadE1 (j := 5) (hC.ceAt 0 rfl) rfl Tryz.isAgg22 rfl) fun a s => ?_
   refine ho 61 rfl ?_
   refine st_callR s (ref05_Same_ok h1266 d.bdom (d.bE 3 rfl) (d.bE 1 rfl)) (do_call Tryz.call71 rfl) ⟨_, rfl, rfl⟩ rfl rfl ?_
   rintro v1271 Sv1268 w a h1269 rfl s
   have d := d.callB h1269
   refine h_n [] [0, 2, 4, 6, 8, 10, 12, 14, 16, 18] d rfl rfl fun hC => ?_
   refine gt s 62 rfl ⟨_, rfl, rfl⟩ rfl hC (fun w hC => y_not rfl) fun a s => ?_
   refine gv s 63 rfl rfl hC (fun w hC => y_pickFE (v := .bool c1144) rfl rfl (vbs h1241)) fun a s => ?_
   refine h_done (by kernel_rfl) ?_
   exact ⟨Sv723, (s.wk rfl), (d.ft [] [20, 21] (by decide) rfl rfl)⟩
  rintro a w ⟨Sv1145, s, d⟩
  refine then_normal (cd s u rfl (fun u => ?_) fun u => ?_)
  ·refine sz 1 [] s d rfl rfl fun a s => ?_
   have u := oi u
   subst u
   have h1275 := hd865 _ rfl
   subst h1275
   exact wp_ret (blk_ret (then_ret (then_ret (blk_ret (then_ret (ret1 s rfl (rv_tmp rfl) (d.ret rfl)))))))
  refine wp_skip (blk_normal (then_normal (wp_region_lit (rn 2 [] s d rfl rfl fun a s => ?_))))
  obtain ⟨i1277, h1276, u⟩ := bind_t u
  refine sv s (y_assignI rfl h1276) rfl fun a s => ?_
  exact nl ⟨_, (Option.some.inj u).symm, Sv1145, (s.wk rfl), (d.ft [] [0, 1] (by decide) rfl rfl)⟩
 obtain ⟨rv1278, u, h1279⟩ := map_t u
 have h1279 := (hd865 _ h1279.symm).symm
 subst h1279
 refine wp_exit (then_exit (then_exit (blk_exit (then_normal (sz 1 [] s d rfl rfl fun a s => ?_)))))
 have u := oi u
 subst u
 exact wp_ret (ret1 s rfl (rv_tmp rfl) (d.ret rfl))
theorem law16_ContinuityGrid_ok {w0 S0 p2 k3 t1 r} (u : law16_ContinuityGrid t1 = some r) (hS : Dm S0 w0) (h4 : (SlA p2 t1.length k3 t1).p S0 w0) : Calls Tryz.prog 6 #[.slice p2 t1.length k3] w0 (Ret ([]) w0 S0 (made_Light_rd w0 ([]) r)) := by
 refine en 172 Tryz.func6 rfl hS rfl rfl rfl fun a s d => ?_
 have d := d.addE h4
 delta law16_ContinuityGrid at u
 refine sz 1 [] s d rfl rfl fun a s => ?_
 refine wp_seq (sn 1 [] s d rfl rfl fun a s => ?_)
 obtain ⟨rv6, h5, u⟩ := bind_t u
 refine st_callR s (made_Light_ok h5 d.bdom (d.bE 0 rfl)) (do_call Tryz.call9 rfl) trivial rfl rfl ?_
 rintro v10 Sv7 w a h8 rfl s
 have d := d.callB h8
 refine rz 1 [] s d rfl rfl fun a s => ?_
 refine cd s u rfl (fun u => ?_) fun u => ?_
 ·refine sr ?_
  obtain ⟨rv22, h21, u⟩ := bind_t u
  refine st_callR s (law16_sane_ok h21 d.bdom) (do_call Tryz.call10 rfl) trivial rfl rfl ?_
  rintro v26 Sv23 w a h24 rfl s
  have d := d.callB h24
  refine rz 1 [] s d rfl rfl fun a s => ?_
  have u := oi u
  subst u
  exact wp_ret (then_ret (ret1 s rfl (rv_tmp rfl) (d.ret rfl)))
 refine wp_skip (then_normal (sn 1 [] s d rfl rfl fun a s => ?_))
 obtain ⟨rv29, h28, u⟩ := bind_t u
 refine st_callR s (made_Roll_ok h28 d.dom (d.envAt 0 rfl)) (do_call Tryz.call11 rfl) trivial rfl rfl ?_
 rintro v37 Sv34 w a h35 ⟨b30, p31, k32, rfl, h38, h33⟩ s
 have d := (d.callN h35 h38).addE (e := SlA p31 rv29.L.length k32 rv29.L) h33
 refine rz 1 [] s d rfl rfl fun a s => ?_
 refine sn 1 [] s d rfl rfl fun a s => ?_
 obtain ⟨rv40, h39, u⟩ := bind_t u
 refine st_callR s (made_Dice_Grid_ok h39 d.dom (d.ins [0] (by decide) rfl) (d.envAt 0 rfl)) (do_call Tryz.call29 rfl) trivial rfl rfl ?_
 rintro v54 Sv51 w a h52 ⟨p41, k42, p44, k45, c47, p48, k49, rfl, h55, h43, h46, h50⟩ s
 have d := ((d.callO [0] [] (by decide) rfl h52 h55).addE (e := SlA p41 rv40.1.Samples.length k42 rv40.1.Samples) h43).addE (e := RowA c47 rv40.2.1) h46
 have d := d.addE (e := SlA p48 rv40.2.2.L.length k49 rv40.2.2.L) h50
 refine rn 3 [] s d rfl rfl fun a s => ?_
 refine w_alloc (cs := Z0) s d Tryz.zeroValue56 rfl rfl trivial ?_
 intro b56 a w s d
 refine w_store (m := 12) (cs' := (C56 rv40.1 p41 k42)) s d 0 rfl rfl rfl Tryz.sizeOf56 rfl rfl rfl rfl trivial ?_
 intro a w s d
 refine rz 1 [] s d rfl rfl fun a s => ?_
 refine sz 1 [] s d rfl rfl fun a s => ?_
 refine wp_seq (sn 3 [] s d rfl rfl fun a s => ?_)
 obtain ⟨i58, h57, u⟩ := bind_t u
 refine sv s (y_assignI rfl h57) rfl fun a s => ?_
 refine nl ?_
 obtain ⟨e306, h684, u⟩ := bind_t u
 refine wp_join (fun a w => ∃ p307 k308 c309 p310 k311 Sv312, Sl 172 [(3, .pointer (some ⟨b30, 0, none⟩)), (4, .pointer (some ⟨b56, 0, none⟩)), (5, .slice p44 rv40.2.1.length k45), (6, .slice p310 e306.2.2.length k311)] a ∧ Wd ⟨w0, S0, []⟩ Sv312 [.box b30 [.slice p307 e306.1.length k308, .int .i64 e306.2.1] 87, .box b56 (C56 rv40.1 p41 k42) 56, .row p44 rv40.2.1.length k45 c47 56 12, .row p310 e306.2.2.length k311 c309 56 12] [SlA p307 e306.1.length k308 e306.1, SlA p41 rv40.1.Samples.length k42 rv40.1.Samples, RowA c47 rv40.2.1, RowA c309 e306.2.2] w) ?_ ?_
 ·refine wp_block ?_
  have d := d.nilRow Record 56
  refine wp_while (fun sv59 a w => ∃ p220 k221 c222 p223 k224 Sv225, Sl 172 [(3, .pointer (some ⟨b30, 0, none⟩)), (4, .pointer (some ⟨b56, 0, none⟩)), (5, .slice p44 rv40.2.1.length k45), (6, .slice p223 sv59.2.2.1.length k224), (7, .int .i64 sv59.2.2.2)] a ∧ Wd ⟨w0, S0, []⟩ Sv225 [.box b30 [.slice p220 sv59.1.length k221, .int .i64 sv59.2.1] 87, .box b56 (C56 rv40.1 p41 k42) 56, .row p44 rv40.2.1.length k45 c47 56 12, .row p223 sv59.2.2.1.length k224 c222 56 12] [SlA p220 sv59.1.length k221 sv59.1, SlA p41 rv40.1.Samples.length k42 rv40.1.Samples, RowA c47 rv40.2.1, RowA c222 sv59.2.2.1] w) (rv40.2.2.L, rv40.2.2.At, ([] : List Record), i58) h684 ⟨p48, k49, [], none, 0, Sv51, (s.wk rfl), (d.ft [3, 1, 2, 0] [1, 3, 2, 0] (by decide) rfl rfl)⟩ ?_
  clear h684
  repeat clear u
  rintro sv59 a w tv304 ⟨p220, k221, c222, p223, k224, Sv225, s, d⟩ u hd303
  delta law16_ContinuityGrid_l1 at u
  refine wp_seq (sz 2 [] s d rfl rfl fun a s => ?_)
  refine cd s u rfl (fun u => ?_) fun u => ?_
  ·refine wp_skip (then_normal (wp_seq (wp_block (sn 3 [] s d rfl rfl fun a s => ?_))))
   obtain ⟨x391, h389, u⟩ := bind_t u
   obtain ⟨b398, q395, c396, h399, h392, h393, h397, h390⟩ := d.elemRV (α := Record) 2 rfl 2 rfl h389
   have hsv400 := s
   have hwv401 := d
   subst h399
   have s := hsv400
   have d := hwv401
   obtain ⟨_, _, _, _, _, _, _, _, _, _, _, _, rfl, rfl, rfl, rfl, rfl, rfl, rfl, rfl, rfl, rfl, rfl, rfl, ⟨p402, n403, k404, rfl, h405⟩⟩ := h390
   obtain rfl := h405.1
   have d := d.addE (e := SlA p402 _ k404 x391.Samples) h405
   refine sv s (y_indexAt Tryz.runUnderlying28 Tryz.sizeOf56 rfl rfl h392.1 h392.2 h393) rfl fun a s => ?_
   refine sv s (y_loadQA (j := 0) (d.ownAt 2 rfl) rfl Tryz.isAgg56 Tryz.sizeOf56 h397 rfl rfl) rfl fun a s => ?_
   refine w_litSlice (α := Record) (vs := [V56 x391 p402 k404]) (cs := (C56 x391 p402 k404)) (xs := ([x391] : List Record)) s d El28 rfl rfl rfl rfl rfl rfl ⟨⟨_, _, _, _, _, _, _, _, _, _, _, _, rfl, rfl, rfl, rfl, rfl, rfl, rfl, rfl, rfl, rfl, rfl, rfl, ⟨_, _, _, rfl, d.envAt 0 rfl⟩⟩, rfl⟩ rfl trivial rfl fun b407 a w s d => ?_
   obtain ⟨l409, h408, u⟩ := bind_t u
   refine w_appendR (α := Record) s d El28 4 rfl rfl rfl 5 rfl 0 rfl 0 rfl h408 rfl trivial ?_
   intro p410 k411 c412 a w s d
   refine rz 1 [] s d rfl rfl fun a s => ?_
   refine sn 1 [] s d rfl rfl fun a s => ?_
   obtain ⟨rv414, h413, u⟩ := bind_t u
   refine st_callR s (made_Dice_Next_ok h413 d.dom (d.ins [1] (by decide) rfl) (d.envAt 3 rfl)) (do_call Tryz.call30 rfl) trivial rfl rfl ?_
   rintro v421 Sv418 w a h419 ⟨p415, k416, rfl, h422, h417⟩ s
   have d := (d.callO [1] [0, 2, 3, 4] (by decide) rfl h419 h422).addE (e := SlA p415 rv414.2.L.length k416 rv414.2.L) h417
   refine rz 1 [] s d rfl rfl fun a s => ?_
   refine wp_join (fun a w => ∃ (x460 : (List Int)) (x461 : Int) (mixed462 : (List Record)) (p454 k455 c456 p457 k458 Sv459 : _), law16_ContinuityGrid_j1 sv59 x460 x461 mixed462 = some tv304 ∧ Sl 172 [(3, .pointer (some ⟨b30, 0, none⟩)), (4, .pointer (some ⟨b56, 0, none⟩)), (5, .slice (some ⟨b398, 0, none⟩) rv40.2.1.length k45), (6, .slice p457 mixed462.length k458), (7, .int .i64 sv59.2.2.2)] a ∧ Wd ⟨w0, S0, []⟩ Sv459 [.box b30 [.slice p454 x460.length k455, .int .i64 x461] 87, .box b56 (C56 rv40.1 p41 k42) 56, .row (some ⟨b398, 0, none⟩) rv40.2.1.length k45 c47 56 12, .row p457 mixed462.length k458 c456 56 12] [SlA p454 x460.length k455 x460, SlA p41 rv40.1.Samples.length k42 rv40.1.Samples, RowA c47 rv40.2.1, RowA c456 mixed462] w) ?_ ?_
   ·refine cd s u rfl (fun u => ?_) fun u => ?_
    ·refine wp_region_lit (rn 5 [] s d rfl rfl fun a s => ?_)
     obtain ⟨rv467, h466, u⟩ := bind_t u
     refine st_callR s (made_Dice_Next_ok h466 d.dom (d.ins [0] (by decide) rfl) (d.envAt 0 rfl)) (do_call Tryz.call30 rfl) trivial rfl rfl ?_
     rintro v474 Sv471 w a h472 ⟨p468, k469, rfl, h475, h470⟩ s
     have d := (d.callO [0] [1, 2, 3, 4] (by decide) rfl h472 h475).addE (e := SlA p468 rv467.2.L.length k469 rv467.2.L) h470
     obtain ⟨x478, h476, u⟩ := bind_t u
     obtain ⟨q482, c483, h479, h480, h484, h477⟩ := d.elemRK (α := Record) 3 rfl 7 rfl h476
     obtain ⟨_, _, _, _, _, _, _, _, _, _, _, _, rfl, rfl, rfl, rfl, rfl, rfl, rfl, rfl, rfl, rfl, rfl, rfl, ⟨p485, n486, k487, rfl, h488⟩⟩ := h477
     obtain rfl := h488.1
     have d := d.addE (e := SlA p485 _ k487 x478.Samples) h488
     refine sv s (y_indexAt Tryz.runUnderlying28 Tryz.sizeOf56 rfl rfl h479.1 h479.2 h480) rfl fun a s => ?_
     refine sv s (y_loadQA (j := 0) (d.ownAt 3 rfl) rfl Tryz.isAgg56 Tryz.sizeOf56 h484 rfl rfl) rfl fun a s => ?_
     refine w_litSlice (α := Record) (vs := [V56 x478 p485 k487]) (cs := (C56 x478 p485 k487)) (xs := ([x478] : List Record)) s d El28 rfl rfl rfl rfl rfl rfl ⟨⟨_, _, _, _, _, _, _, _, _, _, _, _, rfl, rfl, rfl, rfl, rfl, rfl, rfl, rfl, rfl, rfl, rfl, rfl, ⟨_, _, _, rfl, d.envAt 0 rfl⟩⟩, rfl⟩ rfl trivial rfl fun b490 a w s d => ?_
     obtain ⟨l492, h491, u⟩ := bind_t u
     refine w_appendR (α := Record) s d El28 5 rfl rfl rfl 4 rfl 0 rfl 0 rfl h491 rfl trivial ?_
     intro p493 k494 c495 a w s d
     refine rz 1 [] s d rfl rfl fun a s => ?_
     exact ⟨rv467.2.L, rv467.2.At, l492, p468, k469, c495, p493, k494, Sv471, u, (s.wk rfl), (d.ft [1, 3, 4, 5] [3, 9, 10, 0] (by decide) rfl rfl)⟩
    exact wp_skip (then_normal ⟨rv414.2.L, rv414.2.At, l409, p415, k416, c412, p410, k411, Sv418, u, (s.wk rfl), (d.ft [0, 2, 3, 4] [0, 5, 6, 1] (by decide) rfl rfl)⟩)
   rintro a w ⟨x460, x461, mixed462, p454, k455, c456, p457, k458, Sv459, u, s, d⟩
   delta law16_ContinuityGrid_j1 at u
   refine blk_normal (then_normal (wp_region_lit (rn 2 [] s d rfl rfl fun a s => ?_)))
   obtain ⟨i464, h463, u⟩ := bind_t u
   refine sv s (y_assignI rfl h463) rfl fun a s => ?_
   exact nl ⟨_, (Option.some.inj u).symm, p454, k455, c456, p457, k458, Sv459, (s.wk rfl), (d.ft [0, 1, 2, 3] [0, 1, 2, 3] (by decide) rfl rfl)⟩
  refine wp_exit (then_exit (then_exit (blk_exit ?_)))
  have u := oi u
  subst u
  have h496 := hd303 _ rfl
  subst h496
  exact then_normal ⟨p220, k221, c222, p223, k224, Sv225, (s.wk rfl), (d.ft [0, 1, 2, 3] [0, 1, 2, 3] (by decide) rfl rfl)⟩
 rintro a w ⟨p307, k308, c309, p310, k311, Sv312, s, d⟩
 refine then_normal (sn 1 [1] s d rfl rfl fun a s => ?_)
 obtain ⟨rv498, h497, u⟩ := bind_t u
 refine st_callR s (ref14_Span_ok h497 d.bdom (d.bE 1 rfl)) (do_call Tryz.call31 rfl) trivial rfl rfl ?_
 rintro v502 Sv499 w a h500 rfl s
 have d := d.callB h500
 refine rn 3 [] s d rfl rfl fun a s => ?_
 refine w_alloc (cs := [.int .i64 0, .int .i64 0]) s d Tryz.zeroValue71 rfl rfl trivial ?_
 intro b504 a w s d
 refine w_store (m := 2) (cs' := (C71 rv498.1)) s d 0 rfl rfl rfl Tryz.sizeOf71 rfl rfl rfl rfl trivial ?_
 intro a w s d
 refine rz 1 [] s d rfl rfl fun a s => ?_
 refine sn 1 [] s d rfl rfl fun a s => ?_
 obtain ⟨rv506, h505, u⟩ := bind_t u
 obtain ⟨Sv511, d⟩ := w_share (α := Record) d 4 rfl 3 rfl
 refine st_callR s (continuity_Segments_ok h505 d.dom (d.envAt 0 rfl)) (do_call Tryz.call25 rfl) trivial rfl rfl ?_
 rintro v515 Sv512 w a h513 ⟨p507, k508, c510, rfl, h516, h509⟩ s
 have d := (d.callN h513 h516).addE (e := RowA c510 rv506.1) h509
 refine rz 5 [] s d rfl rfl fun a s => ?_
 refine sn 5 [1, 1] s d rfl rfl fun a s => ?_
 obtain ⟨rv518, h517, u⟩ := bind_t u
 refine st_callR s (continuity_Gaps_ok h517 d.dom (d.envAt 1 rfl)) (do_call Tryz.call13 rfl) trivial rfl rfl ?_
 rintro v526 Sv523 w a h524 ⟨p519, k520, c522, rfl, h527, h521⟩ s
 have d := (d.callN h524 h527).addE (e := RowA c522 rv518.1) h521
 refine rz 5 [] s d rfl rfl fun a s => ?_
 refine wp_seq (sn 3 [] s d rfl rfl fun a s => ?_)
 refine rO 3 82 [] s d rfl rfl rfl rfl rfl fun a s => ?_
 refine mv s rfl rfl fun a s => ?_
 refine rO 4 86 [] s d rfl rfl rfl rfl rfl fun a s => ?_
 refine mv s rfl rfl fun a s => ?_
 obtain ⟨c540, hc540, u⟩ := bind_t u
 refine wpl_join 12 (fun a w => ∃ Sv541, Sl 172 [(3, .pointer (some ⟨b30, 0, none⟩)), (5, .slice p44 rv40.2.1.length k45), (8, .pointer (some ⟨b504, 0, none⟩)), (103, .bool c540)] a ∧ Wd ⟨w0, S0, []⟩ Sv541 [.box b30 [.slice p307 e306.1.length k308, .int .i64 e306.2.1] 87, .box b504 (C71 rv498.1) 71, .row p44 rv40.2.1.length k45 c47 56 12] [SlA p307 e306.1.length k308 e306.1, RowA c47 rv40.2.1] w) ?_ ?_
 ·rcases Bool.eq_false_or_eq_true (((rv506.2 != 0) || (rv518.2 != 0)) || ((rv518.1.length : Int) != 0)) with h539 | h539
  ·have s := s.fix 91 (.bool true) rfl (vb h539)
   have u := ite_t hc540 h539
   refine rn 12 [] s d rfl rfl fun a s => ?_
   refine wpList_nil ?_
   have u := oi u
   subst u
   exact then_normal ⟨Sv523, (s.wk rfl), (d.ft [3, 2, 5] [3, 5] (by decide) rfl rfl)⟩
  have s := s.fix 91 (.bool false) rfl (vb h539)
  have u := ite_f hc540 h539
  refine rn 7 [4, 4, 4] s d rfl rfl fun a s => ?_
  refine st_val s (y_build (vs := [(0, .int .i64 rv40.1.Start), (2, V54 rv40.1.Rate), (4, .slice p41 rv40.1.Samples.length k42)]) Bld64 rfl rfl) ⟨_, rfl, rfl⟩ rfl rfl fun a s => ?_
  refine w_litSlice (α := Segment) (vs := [V64 ⟨rv40.1.Start, 0, rv40.1.Rate, 0, rv40.1.Samples⟩ p41 k42]) (cs := (C64 ⟨rv40.1.Start, 0, rv40.1.Rate, 0, rv40.1.Samples⟩ p41 k42)) (xs := ([(⟨rv40.1.Start, 0, rv40.1.Rate, 0, rv40.1.Samples⟩ : Segment)] : List Segment)) s d El60 rfl rfl rfl rfl rfl rfl ⟨⟨_, _, _, _, _, _, rfl, rfl, rfl, rfl, rfl, rfl, ⟨_, _, _, rfl, d.envAt 4 rfl⟩⟩, rfl⟩ rfl ⟨_, rfl, rfl⟩ rfl fun b543 a w s d => ?_
  obtain ⟨rv545, h544, u⟩ := bind_t u
  refine st_callR s (ref16_SameSegments_ok h544 d.bdom (d.bRow 2 rfl 2 rfl) (d.bRow 0 rfl 0 rfl)) (do_call Tryz.call32 rfl) ⟨_, rfl, rfl⟩ rfl rfl ?_
  rintro v549 Sv546 w a h547 rfl s
  have d := d.callB h547
  refine rn 2 [] s d rfl rfl fun a s => ?_
  refine wpList_nil ?_
  have u := oi u
  subst u
  exact then_normal ⟨Sv523, (s.wk rfl), (d.ft [4, 3, 6] [4, 6] (by decide) rfl rfl)⟩
 rintro a w ⟨Sv541, s, d⟩
 refine nl (cd s u rfl (fun u => ?_) fun u => ?_)
 ·refine sz 1 [] s d rfl rfl fun a s => ?_
  have u := oi u
  subst u
  exact wp_ret (then_ret (ret1 s rfl (rv_tmp rfl) (d.ret rfl)))
 refine wp_skip (then_normal (sn 3 [] s d rfl rfl fun a s => ?_))
 obtain ⟨rv554, h553, u⟩ := bind_t u
 refine st_callR s (made_Dice_Next_ok h553 d.dom (d.ins [0] (by decide) rfl) (d.envAt 0 rfl)) (do_call Tryz.call30 rfl) trivial rfl rfl ?_
 rintro v561 Sv558 w a h559 ⟨p555, k556, rfl, h562, h557⟩ s
 have d := (d.callO [0] [1, 2] (by decide) rfl h559 h562).addE (e := SlA p555 rv554.2.L.length k556 rv554.2.L) h557
 refine rz 1 [] s d rfl rfl fun a s => ?_
 refine wp_seq ?_
 obtain ⟨Sv563, d⟩ := w_share (α := Record) d 2 rfl 2 rfl
 obtain ⟨l569, h564, u⟩ := bind_t u
 obtain ⟨p567, k568, h565, h566⟩ := sub_env (d.envAt 0 rfl) h564
 have d := d.addE h565
 obtain ⟨l571, h570, u⟩ := bind_t u
 obtain ⟨l580, h575, u⟩ := bind_t u
 obtain ⟨p578, k579, h576, h577⟩ := sub_env (d.envAt 1 rfl) h575
 have d := d.addE h576
 obtain ⟨l582, h581, u⟩ := bind_t u
 refine wp_only (fun a w => ∃ Sv586 c585 k584 p583, Sl 172 [(5, .slice p44 rv40.2.1.length k45), (8, .pointer (some ⟨b504, 0, none⟩)), (14, .int .i64 rv554.1), (15, .slice p583 l582.length k584)] a ∧ Wd ⟨w0, S0, []⟩ Sv586 [.box b504 (C71 rv498.1) 71, .row p583 l582.length k584 c585 56 12] [SlA p44 rv40.2.1.length k45 rv40.2.1, RowA c585 l582] w) ?_ ?_
 ·refine h_c [0, 1] [] d rfl rfl (by kernel_rfl) rfl fun hC d => ?_
  refine gn 2 [0, 1] [] s hC rfl rfl rfl fun a s => ?_
  refine gv s 2 rfl rfl hC (fun w hC => y_slc Tryz.runUnderlying28 Tryz.sizeOf56 rfl (by exact rfl) ⟨_, rfl⟩ h566) fun a s => ?_
  refine gn 3 [4, 5, 6] [] s hC rfl rfl rfl fun a s => ?_
  refine gv s 7 rfl rfl hC (fun w hC => y_slc Tryz.runUnderlying28 Tryz.sizeOf56 rfl ⟨_, rfl⟩ (by exact rfl) h577) fun a s => ?_
  refine ho 3 rfl ?_
  have d := d.nilRow Record 56
  refine w_appendE (α := Record) s d El28 0 rfl rfl rfl 0 rfl 2 rfl h570 rfl trivial ?_
  intro p572 k573 c574 a w s d
  refine h_n [1, 2] [] d rfl rfl fun hC => ?_
  refine ho 8 rfl ?_
  refine w_appendE (α := Record) s d El28 0 rfl rfl rfl 0 rfl 2 rfl h581 rfl trivial ?_
  intro p583 k584 c585 a w s d
  refine h_n [1, 2] [] d rfl rfl fun hC => ?_
  refine gv s 9 rfl rfl hC (fun w hC => y_assign rfl) fun a s => ?_
  refine h_done (by kernel_rfl) ?_
  exact ⟨Sv563, c585, k584, p583, (s.wk rfl), (d.ft [2, 0] [5, 0] (by decide) rfl rfl)⟩
 rintro a w ⟨Sv586, c585, k584, p583, s, d⟩
 refine then_normal (sn 5 [0, 0] s d rfl rfl fun a s => ?_)
 obtain ⟨rv588, h587, u⟩ := bind_t u
 obtain ⟨Sv593, d⟩ := w_share (α := Record) d 1 rfl 1 rfl
 refine st_callR s (continuity_Gaps_ok h587 d.dom (d.envAt 0 rfl)) (do_call Tryz.call13 rfl) trivial rfl rfl ?_
 rintro v597 Sv594 w a h595 ⟨p589, k590, c592, rfl, h598, h591⟩ s
 have d := (d.callN h595 h598).addE (e := RowA c592 rv588.1) h591
 refine rz 5 [] s d rfl rfl fun a s => ?_
 refine sn 1 [] s d rfl rfl fun a s => ?_
 obtain ⟨rv600, h599, u⟩ := bind_t u
 refine st_callR s (continuity_Segments_ok h599 d.dom (d.envAt 1 rfl)) (do_call Tryz.call25 rfl) trivial rfl rfl ?_
 rintro v608 Sv605 w a h606 ⟨p601, k602, c604, rfl, h609, h603⟩ s
 have d := (d.callN h606 h609).addE (e := RowA c604 rv600.1) h603
 refine rz 5 [] s d rfl rfl fun a s => ?_
 refine sz 1 [] s d rfl rfl fun a s => ?_
 refine wp_seq (sn 3 [] s d rfl rfl fun a s => ?_)
 refine rO 6 133 [] s d rfl rfl rfl rfl rfl fun a s => ?_
 refine nl (wp_join (fun a w => ∃ (n613 : Int) (Sv612 : _), law16_ContinuityGrid_j3 rv40 rv554 rv588 rv600 n613 = some r ∧ Sl 172 [(5, .slice p44 rv40.2.1.length k45), (14, .int .i64 rv554.1), (16, .slice p589 rv588.1.length k590), (17, .int .i64 rv588.2), (18, .slice p601 rv600.1.length k602), (19, .int .i64 rv600.2), (20, .int .i64 n613)] a ∧ Wd ⟨w0, S0, []⟩ Sv612 [.row p589 rv588.1.length k590 c592 71 2, .row p601 rv600.1.length k602 c604 64 6] [SlA p44 rv40.2.1.length k45 rv40.2.1, RowA c592 rv588.1, RowA c604 rv600.1] w) ?_ ?_)
 ·refine cd s u rfl (fun u => ?_) fun u => ?_
  ·refine wp_region_lit (rz 1 [] s d rfl rfl fun a s => ?_)
   exact ⟨1, Sv605, u, (s.wk rfl), (d.ft [1, 0] [3, 1, 0] (by decide) rfl rfl)⟩
  exact wp_skip (then_normal ⟨2, Sv605, u, (s.wk rfl), (d.ft [1, 0] [3, 1, 0] (by decide) rfl rfl)⟩)
 rintro a w ⟨n613, Sv612, u, s, d⟩
 delta law16_ContinuityGrid_j3 at u
 refine then_normal (wp_seq (sz 3 [] s d rfl rfl fun a s => ?_))
 refine wp_join (fun a w => ∃ (n616 : Int) (Sv615 : _), law16_ContinuityGrid_j4 rv40 rv554 rv588 rv600 n616 = some r ∧ Sl 172 [(5, .slice p44 rv40.2.1.length k45), (14, .int .i64 rv554.1), (16, .slice p589 rv588.1.length k590), (17, .int .i64 rv588.2), (18, .slice p601 rv600.1.length k602), (19, .int .i64 rv600.2), (20, .int .i64 n616)] a ∧ Wd ⟨w0, S0, []⟩ Sv615 [.row p589 rv588.1.length k590 c592 71 2, .row p601 rv600.1.length k602 c604 64 6] [SlA p44 rv40.2.1.length k45 rv40.2.1, RowA c592 rv588.1, RowA c604 rv600.1] w) ?_ ?_
 ·refine cd s u rfl (fun u => ?_) fun u => ?_
  ·refine wp_region_lit (rz 1 [] s d rfl rfl fun a s => ?_)
   exact ⟨0, Sv612, u, (s.wk rfl), (d.ft [0, 1] [0, 1, 2] (by decide) rfl rfl)⟩
  exact wp_skip (then_normal ⟨n613, Sv612, u, (s.wk rfl), (d.ft [0, 1] [0, 1, 2] (by decide) rfl rfl)⟩)
 rintro a w ⟨n616, Sv615, u, s, d⟩
 delta law16_ContinuityGrid_j4 at u
 refine then_normal (sn 2 [] s d rfl rfl fun a s => ?_)
 obtain ⟨x619, h617, u⟩ := bind_t u
 obtain ⟨b625, o626, q623, c624, h627, h620, h621, h622, h618⟩ := d.elemV 0 rfl h617
 have hsv628 := s
 have hwv629 := d
 subst h627
 have s := hsv628
 have d := hwv629
 obtain ⟨_, _, _, _, _, _, _, _, _, _, _, _, rfl, rfl, rfl, rfl, rfl, rfl, rfl, rfl, rfl, rfl, rfl, rfl, ⟨p630, n631, k632, rfl, h633⟩⟩ := h618
 obtain rfl := h633.1
 have d := (d.addE (e := SlA p630 _ k632 x619.Samples) h633).addE h622
 refine sv s (y_indexAt Tryz.runUnderlying28 Tryz.sizeOf56 rfl rfl h620.1 h620.2 h621) rfl fun a s => ?_
 refine sv s (y_loadEA (j := 0) (d.ceAt 0 rfl) rfl Tryz.isAgg56 Tryz.sizeOf56 rfl rfl) rfl fun a s => ?_
 obtain ⟨rv635, h634, u⟩ := bind_t u
 refine st_callR s (ref14_Span_ok h634 d.bdom (d.bE 1 rfl)) (do_call Tryz.call31 rfl) trivial rfl rfl ?_
 rintro v639 Sv636 w a h637 rfl s
 have d := d.callB h637
 refine rn 3 [] s d rfl rfl fun a s => ?_
 refine w_alloc (cs := [.int .i64 0, .int .i64 0]) s d Tryz.zeroValue71 rfl rfl trivial ?_
 intro b641 a w s d
 refine w_store (m := 2) (cs' := (C71 rv635.1)) s d 0 rfl rfl rfl Tryz.sizeOf71 rfl rfl rfl rfl trivial ?_
 intro a w s d
 refine rz 1 [] s d rfl rfl fun a s => ?_
 refine sn 3 [] s d rfl rfl fun a s => ?_
 refine rA 3 153 [] s d rfl rfl rfl rfl rfl fun a s => ?_
 refine mv s rfl rfl fun a s => ?_
 obtain ⟨c653, hc653, u⟩ := bind_t u
 refine wpl_join 5 (fun a w => ∃ Sv654, Sl 172 [(18, .slice p601 rv600.1.length k602), (20, .int .i64 n616), (162, .bool c653)] a ∧ Wd ⟨w0, S0, []⟩ Sv654 [.row p601 rv600.1.length k602 c604 64 6] [RowA c604 rv600.1] w) ?_ ?_
 ·rcases Bool.eq_false_or_eq_true ((rv588.2 == 0) && (rv600.2 == 0)) with h652 | h652
  ·have s := s.fix 157 (.bool true) rfl (vb h652)
   have u := ite_t hc653 h652
   refine rn 2 [0] s d rfl rfl fun a s => ?_
   refine w_litSlice (α := Span) (vs := [V71 rv635.1]) (cs := (C71 rv635.1)) (xs := ([rv635.1] : List Span)) s d El30 rfl rfl rfl rfl rfl rfl ⟨⟨_, _, rfl, rfl, rfl⟩, rfl⟩ rfl ⟨_, rfl, rfl⟩ rfl fun b656 a w s d => ?_
   obtain ⟨rv658, h657, u⟩ := bind_t u
   refine st_callR s (ref08_Same_ok h657 d.bdom (d.bRow 2 rfl 4 rfl) (d.bRow 0 rfl 0 rfl)) (do_call Tryz.call16 rfl) ⟨_, rfl, rfl⟩ rfl rfl ?_
   rintro v662 Sv659 w a h660 rfl s
   have d := d.callB h660
   refine sv s (y_pickT rfl rfl) rfl fun a s => ?_
   refine wpList_nil ?_
   have u := oi u
   subst u
   exact then_normal ⟨Sv615, (s.wk rfl), (d.ft [3] [5] (by decide) rfl rfl)⟩
  have s := s.fix 157 (.bool false) rfl (vb h652)
  have u := ite_f hc653 h652
  refine rn 5 [] s d rfl rfl fun a s => ?_
  refine wpList_nil ?_
  have u := oi u
  subst u
  exact then_normal ⟨Sv615, (s.wk rfl), (d.ft [2] [4] (by decide) rfl rfl)⟩
 rintro a w ⟨Sv654, s, d⟩
 refine mv s rfl rfl fun a s => ?_
 refine rA 5 163 [] s d rfl rfl rfl rfl rfl fun a s => ?_
 refine mv s rfl rfl fun a s => ?_
 obtain ⟨c673, hc673, u⟩ := bind_t u
 refine wpl_join 2 (fun a w => ∃ Sv674, Sl 172 [(171, .bool c673)] a ∧ Wd ⟨w0, S0, []⟩ Sv674 [] [] w) ?_ ?_
 ·rcases Bool.eq_false_or_eq_true (c653 && ((rv600.1.length : Int) == n616)) with h672 | h672
  ·have s := s.fix 169 (.bool true) rfl (vb h672)
   have u := ite_t hc673 h672
   obtain ⟨rv676, h675, u⟩ := bind_t u
   refine st_callR s (law16_sane_ok h675 d.bdom) (do_call Tryz.call10 rfl) ⟨_, rfl, rfl⟩ rfl rfl ?_
   rintro v680 Sv677 w a h678 rfl s
   have d := d.callB h678
   refine sv s (y_pickT rfl rfl) rfl fun a s => ?_
   refine wpList_nil ?_
   have u := oi u
   subst u
   exact then_normal ⟨Sv654, (s.wk rfl), (d.ft [] [] (by decide) rfl rfl)⟩
  have s := s.fix 169 (.bool false) rfl (vb h672)
  have u := ite_f hc673 h672
  refine rn 2 [] s d rfl rfl fun a s => ?_
  refine wpList_nil ?_
  have u := oi u
  subst u
  exact then_normal ⟨Sv654, (s.wk rfl), (d.ft [] [] (by decide) rfl rfl)⟩
 rintro a w ⟨Sv674, s, d⟩
 refine rz 1 [] s d rfl rfl fun a s => ?_
 have u := oi u
 subst u
 exact wp_ret (ret1 s rfl (rv_tmp rfl) (d.ret rfl))
end Go.Proofs.YtdcafiefjakfeaaGreat.Wk

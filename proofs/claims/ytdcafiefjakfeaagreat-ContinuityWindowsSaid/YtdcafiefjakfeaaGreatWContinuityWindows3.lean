/- The walks of ContinuityWindows, part 3: each Go function computes what its plain program computes. Printed by a program of ours. -/
import Derived.Test.YtdcafiefjakfeaaGreatProg
import Derived.Test.YtdcafiefjakfeaaGreatDat
import Derived.Test.YtdcafiefjakfeaaGreatSh
import Derived.Test.YtdcafiefjakfeaaGreatLa1
import Derived.KernelRfl
import Derived.Test.YtdcafiefjakfeaaGreatLb1
import Derived.Shelf.SlLaysF0
import Derived.Shelf.SlLaysM
import Derived.Test.YtdcafiefjakfeaaGreatWContinuityWindows2
namespace Go.Proofs.YtdcafiefjakfeaaGreat.Wk
open Go Go.RowKit Go.Proofs Go.Proofs.YtdcafiefjakfeaaGreat.Sh
set_option linter.unusedVariables false
set_option linter.unusedSimpArgs false
set_option maxHeartbeats 4000000
set_option maxRecDepth 100000
theorem slices_IndexFunc_Lapi_Segment_api_Segment_ok {w0 S0 p2 k3 g6 f7 cp8 s1} {f5 : Segment → Option Bool} {r} (u : slices_IndexFunc_Lapi_Segment_api_Segment s1 f5 = some r) (hS : Dm S0 w0) (h4 : (SlA p2 s1.length k3 s1).p S0 w0) (h9 : (FnA1 Tryz.prog g6 f7 cp8 f5).p S0 w0) : Calls Tryz.prog 104 #[.slice p2 s1.length k3, .func (.func g6) f7.toArray cp8.toArray] w0 (Ret ([]) w0 S0 (slices_IndexFunc_Lapi_Record_api_Record_rd w0 ([]) r)) := by
 refine en 19 Tryz.func104 rfl hS rfl rfl rfl fun a s d => ?_
 have d := (d.addE h4).addE h9
 delta slices_IndexFunc_Lapi_Segment_api_Segment at u
 refine sz 1 [] s d rfl rfl fun a s => ?_
 refine wp_seq (sz 3 [] s d rfl rfl fun a s => ?_)
 refine wp_block (wp_while (fun sv90 a w => ∃ Sv142, Sl 19 [(0, .slice p2 s1.length k3), (1, .func (.func g6) f7.toArray cp8.toArray), (7, .int .i64 (s1.length : Int)), (8, .int .i64 sv90)] a ∧ Wd ⟨w0, S0, []⟩ Sv142 [] [SlA p2 s1.length k3 s1, FnA1 Tryz.prog g6 f7 cp8 f5] w) 0 u ⟨S0, (s.wk rfl), (d.ft [] [1, 0] (by decide) rfl rfl)⟩ ?_)
 repeat clear u
 rintro sv90 a w tv169 ⟨Sv142, s, d⟩ u hd168
 delta slices_IndexFunc_Lapi_Segment_api_Segment_l2 at u
 refine sz 1 [] s d rfl rfl fun a s => ?_
 refine wp_seq (cd s u rfl (fun u => ?_) fun u => ?_)
 ·refine wp_skip (then_normal (wp_seq (wp_block (sz 2 [] s d rfl rfl fun a s => ?_))))
  refine sn 3 [] s d rfl rfl fun a s => ?_
  obtain ⟨x200, h198, u⟩ := bind_t u
  obtain ⟨b206, o207, q204, c205, h208, h201, h202, h203, h199⟩ := d.elemV 0 rfl h198
  have hsv209 := s
  have hwv210 := d
  subst h208
  have s := hsv209
  have d := hwv210
  obtain ⟨_, _, _, _, _, _, rfl, rfl, rfl, rfl, rfl, rfl, ⟨p211, n212, k213, rfl, h214⟩⟩ := h199
  obtain rfl := h214.1
  have d := (d.addE (e := SlA p211 _ k213 x200.Samples) h214).addE h203
  refine sv s (y_indexAt Tryz.runUnderlying60 Tryz.sizeOf64 rfl rfl h201.1 h201.2 h202) rfl fun a s => ?_
  refine sv s (y_loadEA (j := 0) (d.ceAt 0 rfl) rfl Tryz.isAgg64 Tryz.sizeOf64 rfl rfl) rfl fun a s => ?_
  obtain ⟨rv216, h215, u⟩ := bind_t u
  refine st_callR s ((d.bE 3 rfl).2 Keep.rfl' d.bdom ⟨_, _, _, _, _, _, rfl, rfl, rfl, rfl, rfl, rfl, ⟨_, _, _, rfl, d.bE 1 rfl⟩⟩ h215) (do_callF (d.bE 3 rfl).1 rfl rfl) trivial rfl rfl ?_
  rintro v220 Sv217 w a h218 rfl s
  have d := d.callB h218
  refine nl (cd s u rfl (fun u => ?_) fun u => ?_)
  ·refine sz 2 [] s d rfl rfl fun a s => ?_
   have u := oi u
   subst u
   have h223 := hd168 _ rfl
   subst h223
   exact wp_ret (blk_ret (then_ret (then_ret (blk_ret (then_ret (ret1 s rfl (rv_tmp rfl) (d.ret rfl)))))))
  refine wp_skip (blk_normal (then_normal (wp_region_lit (rz 2 [] s d rfl rfl fun a s => ?_))))
  exact ⟨_, (Option.some.inj u).symm, Sv142, (s.wk rfl), (d.ft [] [2, 3] (by decide) rfl rfl)⟩
 obtain ⟨rv224, u, h225⟩ := map_t u
 have h225 := (hd168 _ h225.symm).symm
 subst h225
 refine wp_exit (then_exit (then_exit (blk_exit (then_normal (sz 1 [] s d rfl rfl fun a s => ?_)))))
 have u := oi u
 subst u
 exact wp_ret (ret1 s rfl (rv_tmp rfl) (d.ret rfl))
theorem slices_ContainsFunc_Lapi_Segment_api_Segment_ok {w0 S0 p2 k3 g6 f7 cp8 s1} {f5 : Segment → Option Bool} {r} (u : slices_ContainsFunc_Lapi_Segment_api_Segment s1 f5 = some r) (hS : Dm S0 w0) (h4 : (SlA p2 s1.length k3 s1).p S0 w0) (h9 : (FnA1 Tryz.prog g6 f7 cp8 f5).p S0 w0) : Calls Tryz.prog 72 #[.slice p2 s1.length k3, .func (.func g6) f7.toArray cp8.toArray] w0 (Ret ([]) w0 S0 (made_Light_rd w0 ([]) r)) := by
 refine en 9 Tryz.func72 rfl hS rfl rfl rfl fun a s d => ?_
 have d := (d.addE h4).addE h9
 delta slices_ContainsFunc_Lapi_Segment_api_Segment at u
 refine sz 1 [] s d rfl rfl fun a s => ?_
 refine sn 2 [] s d rfl rfl fun a s => ?_
 obtain ⟨rv11, h10, u⟩ := bind_t u
 refine st_callR s (slices_IndexFunc_Lapi_Segment_api_Segment_ok h10 d.bdom (d.bE 1 rfl) (d.bE 0 rfl)) (do_call Tryz.call104 rfl) trivial rfl rfl ?_
 rintro v15 Sv12 w a h13 rfl s
 have d := d.callB h13
 refine rz 2 [] s d rfl rfl fun a s => ?_
 have u := oi u
 subst u
 exact wp_ret (ret1 s rfl (rv_tmp rfl) (d.ret rfl))
theorem continuity_Window_fn1_ok {w0 S0 p2 k3 s1 r} (u : continuity_Window_fn1 s1 = some r) (hS : Dm S0 w0) (h4 : (SlA p2 s1.Samples.length k3 s1.Samples).p S0 w0) : Calls Tryz.prog 73 #[V64 s1 p2 k3] w0 (Ret ([]) w0 S0 (made_Light_rd w0 ([]) r)) := by
 refine en 6 Tryz.func73 rfl hS rfl rfl rfl fun a s d => ?_
 have d := d.addE h4
 delta continuity_Window_fn1 at u
 refine sr (w_box (cs := (C64 s1 p2 k3)) s d rfl rfl rfl trivial ?_)
 intro b5 a w s d
 refine rz 1 [] s d rfl rfl fun a s => ?_
 refine sn 1 [0] s d rfl rfl fun a s => ?_
 obtain ⟨rv7, h6, u⟩ := bind_t u
 refine st_callR s (continuity_ValidSegment_ok h6 d.bdom (d.bE 0 rfl)) (do_call Tryz.call45 rfl) trivial rfl rfl ?_
 rintro v11 Sv8 w a h9 rfl s
 have d := d.callB h9
 refine rz 2 [] s d rfl rfl fun a s => ?_
 have u := oi u
 subst u
 exact wp_ret (ret1 s rfl (rv_tmp rfl) (d.ret rfl))
theorem continuity_Window_fn1_fn (S0 : Nat → Prop) (w0 : World) : (FnA1 Tryz.prog 73 [] [] continuity_Window_fn1).p S0 w0 := by
  refine ⟨Tryz.call73, ?_⟩
  rintro S1 w1 hk hS c0 x0 r1 ⟨_, _, _, _, _, _, rfl, rfl, rfl, rfl, rfl, rfl, ⟨_, _, _, rfl, e0⟩⟩ hf
  obtain rfl := e0.1
  exact continuity_Window_fn1_ok hf hS e0 
theorem sort_Search_ok {w0 S0 g3 f4 cp5 n1} {f2 : Int → Option Bool} {r} (u : sort_Search n1 f2 = some r) (hS : Dm S0 w0) (h6 : (FnA1 Tryz.prog g3 f4 cp5 f2).p S0 w0) : Calls Tryz.prog 105 #[.int .i64 n1, .func (.func g3) f4.toArray cp5.toArray] w0 (Ret ([]) w0 S0 (slices_IndexFunc_Lapi_Record_api_Record_rd w0 ([]) r)) := by
 refine en 26 Tryz.func105 rfl hS rfl rfl rfl fun a s d => ?_
 have d := d.addE h6
 delta sort_Search at u
 refine sz 1 [] s d rfl rfl fun a s => ?_
 refine sz 3 [] s d rfl rfl fun a s => ?_
 refine wp_seq ?_
 obtain ⟨e64, h104, u⟩ := bind_t u
 refine wp_join (fun a w => ∃ Sv65, Sl 26 [(5, .int .i64 e64)] a ∧ Wd ⟨w0, S0, []⟩ Sv65 [] [] w) ?_ ?_
 ·refine wp_block (wp_while (fun sv7 a w => ∃ Sv43, Sl 26 [(1, .func (.func g3) f4.toArray cp5.toArray), (5, .int .i64 sv7.1), (6, .int .i64 sv7.2)] a ∧ Wd ⟨w0, S0, []⟩ Sv43 [] [FnA1 Tryz.prog g3 f4 cp5 f2] w) (0, n1) h104 ⟨S0, (s.wk rfl), (d.ft [] [0] (by decide) rfl rfl)⟩ ?_)
  clear h104
  repeat clear u
  rintro sv7 a w tv62 ⟨Sv43, s, d⟩ u hd61
  delta sort_Search_l1 at u
  refine wp_seq (sz 3 [] s d rfl rfl fun a s => ?_)
  refine cd s u rfl (fun u => ?_) fun u => ?_
  ·refine wp_skip (then_normal (wp_block (sn 3 [] s d rfl rfl fun a s => ?_)))
   refine sv s (y_convert Tryz.runUnderlying3 Tryz.runUnderlying146 rfl) rfl fun a s => ?_
   obtain ⟨shr85, h84, u⟩ := bind_t u
   refine sv s (y_shrM rfl rfl h84) rfl fun a s => ?_
   refine sv s (y_convert Tryz.runUnderlying146 Tryz.runUnderlying3 rfl) rfl fun a s => ?_
   obtain ⟨h87, h86, u⟩ := bind_t u
   refine sv s (y_assignI rfl h86) rfl fun a s => ?_
   refine nl (sn 2 [] s d rfl rfl fun a s => ?_)
   obtain ⟨rv89, h88, u⟩ := bind_t u
   refine st_callR s ((d.bE 0 rfl).2 Keep.rfl' d.bdom ⟨_, rfl, rfl⟩ h88) (do_callF (d.bE 0 rfl).1 rfl rfl) trivial rfl rfl ?_
   rintro v93 Sv90 w a h91 rfl s
   have d := d.callB h91
   refine rz 1 [] s d rfl rfl fun a s => ?_
   refine wp_join (fun a w => ∃ (i98 : Int) (j99 : Int) (Sv97 : _), sort_Search_j1 i98 j99 = some tv62 ∧ Sl 26 [(1, .func (.func g3) f4.toArray cp5.toArray), (5, .int .i64 i98), (6, .int .i64 j99)] a ∧ Wd ⟨w0, S0, []⟩ Sv97 [] [FnA1 Tryz.prog g3 f4 cp5 f2] w) ?_ ?_
   ·refine cd s u rfl (fun u => ?_) fun u => ?_
    ·refine wp_region_lit (rn 2 [] s d rfl rfl fun a s => ?_)
     obtain ⟨i102, h101, u⟩ := bind_t u
     refine sv s (y_assignI rfl h101) rfl fun a s => ?_
     exact nl ⟨i102, sv7.2, Sv43, u, (s.wk rfl), (d.ft [] [0] (by decide) rfl rfl)⟩
    refine wp_region_lit (rz 2 [] s d rfl rfl fun a s => ?_)
    exact ⟨sv7.1, h87, Sv43, u, (s.wk rfl), (d.ft [] [0] (by decide) rfl rfl)⟩
   rintro a w ⟨i98, j99, Sv97, u, s, d⟩
   delta sort_Search_j1 at u
   exact blk_normal (then_normal ⟨_, (Option.some.inj u).symm, Sv97, (s.wk rfl), (d.ft [] [0] (by decide) rfl rfl)⟩)
  refine wp_exit (then_exit (then_exit (blk_exit ?_)))
  have u := oi u
  subst u
  have h103 := hd61 _ rfl
  subst h103
  exact then_normal ⟨Sv43, (s.wk rfl), (d.ft [] [] (by decide) rfl rfl)⟩
 rintro a w ⟨Sv65, s, d⟩
 refine then_normal (sz 2 [] s d rfl rfl fun a s => ?_)
 have u := oi u
 subst u
 exact wp_ret (ret1 s rfl (rv_tmp rfl) (d.ret rfl))
theorem record_Inside_fn1_ok {w0 S0 b3 p4 k5 b9 i1 x2 x8 r} (u : record_Inside_fn1 i1 x2 x8 = some r) (hS : Dm S0 w0) (h6 : (CeA b3 0 (C56 x2 p4 k5)).p S0 w0) (h7 : (SlA p4 x2.Samples.length k5 x2.Samples).p S0 w0) (h10 : (CeA b9 0 [.int .i64 x8]).p S0 w0) : Calls Tryz.prog 106 #[.int .i64 i1, .pointer (some ⟨b3, 0, none⟩), .pointer (some ⟨b9, 0, none⟩)] w0 (Ret ([]) w0 S0 (made_Light_rd w0 ([]) r)) := by
 refine en 11 Tryz.func106 rfl hS rfl rfl rfl fun a s d => ?_
 have d := ((d.addE h6).addE h7).addE h10
 delta record_Inside_fn1 at u
 refine sz 1 [] s d rfl rfl fun a s => ?_
 refine wp_seq ?_
 obtain ⟨rv12, h11, u⟩ := bind_t u
 refine wp_only (fun a w => ∃ Sv13, Sl 11 [(4, .bool (decide (x8 < rv12)))] a ∧ Wd ⟨w0, S0, []⟩ Sv13 [] [] w) ?_ ?_
 ·refine h_c [] [0, 2] d rfl rfl (by kernel_rfl) rfl fun hC d => ?_
  refine gv s 0 rfl rfl hC (fun w hC => y_loadEA (j := 0) (hC.ceAt 1 rfl) rfl Tryz.isAgg56 Tryz.sizeOf56 rfl rfl) fun a s => ?_
  refine gn 2 [1, 2] [] s hC rfl rfl rfl fun a s => ?_
  refine gv s 4 rfl rfl hC (fun w hC => y_loadE1 (j := 0) (hC.ceAt 0 rfl) rfl Tryz.isAgg3 rfl) fun a s => ?_
  refine ho 3 rfl ?_
  refine st_callR s (record_time_ok h11 d.bdom (d.bE 1 rfl)) (do_call Tryz.call107 rfl) trivial rfl rfl ?_
  rintro v17 Sv14 w a h15 rfl s
  have d := d.callB h15
  refine h_n [] [0, 2] d rfl rfl fun hC => ?_
  refine gn 2 [5, 6] [] s hC rfl rfl rfl fun a s => ?_
  refine h_done (by kernel_rfl) ?_
  exact ⟨S0, (s.wk rfl), (d.ft [] [] (by decide) rfl rfl)⟩
 rintro a w ⟨Sv13, s, d⟩
 refine then_normal ?_
 have u := oi u
 subst u
 exact wp_ret (ret1 s rfl (rv_tmp rfl) (d.ret rfl))
theorem record_Inside_fn1_fn {S0 w0 b3 p4 k5 b9 x2 x8} (h6 : (CeA b3 0 (C56 x2 p4 k5)).p S0 w0) (h7 : (SlA p4 x2.Samples.length k5 x2.Samples).p S0 w0) (h10 : (CeA b9 0 [.int .i64 x8]).p S0 w0) : (FnA1 Tryz.prog 106 [] [.pointer (some ⟨b3, 0, none⟩), .pointer (some ⟨b9, 0, none⟩)] (fun y0 => record_Inside_fn1 y0 x2 x8)).p S0 w0 := by
  refine ⟨Tryz.call106, ?_⟩
  rintro S1 w1 hk hS c0 x0 r1 ⟨_, rfl, rfl⟩ hf
  exact record_Inside_fn1_ok hf hS  (Asrt.mono _ hk h6) (Asrt.mono _ hk h7) (Asrt.mono _ hk h10)
theorem record_first_fn1_ok {w0 S0 b3 p4 k5 b9 b12 i1 x2 x8 x11 r} (u : record_first_fn1 i1 x2 x8 x11 = some r) (hS : Dm S0 w0) (h6 : (CeA b3 0 (C56 x2 p4 k5)).p S0 w0) (h7 : (SlA p4 x2.Samples.length k5 x2.Samples).p S0 w0) (h10 : (CeA b9 0 [.int .i64 x8]).p S0 w0) (h13 : (CeA b12 0 [.int .i64 x11]).p S0 w0) : Calls Tryz.prog 144 #[.int .i64 i1, .pointer (some ⟨b3, 0, none⟩), .pointer (some ⟨b9, 0, none⟩), .pointer (some ⟨b12, 0, none⟩)] w0 (Ret ([]) w0 S0 (made_Light_rd w0 ([]) r)) := by
 refine en 13 Tryz.func144 rfl hS rfl rfl rfl fun a s d => ?_
 have d := ((d.addE h6).addE h7).addE h10
 have d := d.addE h13
 delta record_first_fn1 at u
 refine sz 1 [] s d rfl rfl fun a s => ?_
 refine wp_seq ?_
 obtain ⟨rv15, h14, u⟩ := bind_t u
 refine wp_only (fun a w => ∃ Sv16, Sl 13 [(5, .bool (decide (x11 ≤ rv15)))] a ∧ Wd ⟨w0, S0, []⟩ Sv16 [] [] w) ?_ ?_
 ·refine h_c [] [0, 1, 3] d rfl rfl (by kernel_rfl) rfl fun hC d => ?_
  refine gv s 0 rfl rfl hC (fun w hC => y_loadEA (j := 0) (hC.ceAt 2 rfl) rfl Tryz.isAgg56 Tryz.sizeOf56 rfl rfl) fun a s => ?_
  refine gm s 1 rfl rfl rfl hC fun a s => ?_
  refine gv s 2 rfl rfl hC (fun w hC => y_loadE1 (j := 0) (hC.ceAt 1 rfl) rfl Tryz.isAgg3 rfl) fun a s => ?_
  refine gv s 3 rfl rfl hC (fun w hC => y_add rfl rfl) fun a s => ?_
  refine gv s 5 rfl rfl hC (fun w hC => y_loadE1 (j := 0) (hC.ceAt 0 rfl) rfl Tryz.isAgg3 rfl) fun a s => ?_
  refine ho 4 rfl ?_
  refine st_callR s (record_time_ok h14 d.bdom (d.bE 2 rfl)) (do_call Tryz.call107 rfl) trivial rfl rfl ?_
  rintro v20 Sv17 w a h18 rfl s
  have d := d.callB h18
  refine h_n [] [0, 1, 3] d rfl rfl fun hC => ?_
  refine gn 2 [6, 7] [] s hC rfl rfl rfl fun a s => ?_
  refine h_done (by kernel_rfl) ?_
  exact ⟨S0, (s.wk rfl), (d.ft [] [] (by decide) rfl rfl)⟩
 rintro a w ⟨Sv16, s, d⟩
 refine then_normal ?_
 have u := oi u
 subst u
 exact wp_ret (ret1 s rfl (rv_tmp rfl) (d.ret rfl))
theorem record_first_fn1_fn {S0 w0 b3 p4 k5 b9 b12 x2 x8 x11} (h6 : (CeA b3 0 (C56 x2 p4 k5)).p S0 w0) (h7 : (SlA p4 x2.Samples.length k5 x2.Samples).p S0 w0) (h10 : (CeA b9 0 [.int .i64 x8]).p S0 w0) (h13 : (CeA b12 0 [.int .i64 x11]).p S0 w0) : (FnA1 Tryz.prog 144 [] [.pointer (some ⟨b3, 0, none⟩), .pointer (some ⟨b9, 0, none⟩), .pointer (some ⟨b12, 0, none⟩)] (fun y0 => record_first_fn1 y0 x2 x8 x11)).p S0 w0 := by
  refine ⟨Tryz.call144, ?_⟩
  rintro S1 w1 hk hS c0 x0 r1 ⟨_, rfl, rfl⟩ hf
  exact record_first_fn1_ok hf hS  (Asrt.mono _ hk h6) (Asrt.mono _ hk h7) (Asrt.mono _ hk h10) (Asrt.mono _ hk h13)
theorem record_first_ok {w0 S0 p2 k3 r1 offset5 t6 r} (u : record_first r1 offset5 t6 = some r) (hS : Dm S0 w0) (h4 : (SlA p2 r1.Samples.length k3 r1.Samples).p S0 w0) : Calls Tryz.prog 109 #[V56 r1 p2 k3, .int .i64 offset5, .int .i64 t6] w0 (Ret ([]) w0 S0 (slices_IndexFunc_Lapi_Record_api_Record_rd w0 ([]) r)) := by
 refine en 12 Tryz.func109 rfl hS rfl rfl rfl fun a s d => ?_
 have d := d.addE h4
 delta record_first at u
 refine sr (w_box (cs := (C56 r1 p2 k3)) s d rfl rfl rfl trivial ?_)
 intro b7 a w s d
 refine w_box (cs := [.int .i64 offset5]) s d rfl rfl rfl trivial ?_
 intro b8 a w s d
 refine w_box (cs := [.int .i64 t6]) s d rfl rfl rfl trivial ?_
 intro b9 a w s d
 refine rz 1 [] s d rfl rfl fun a s => ?_
 refine sn 3 [2] s d rfl rfl fun a s => ?_
 refine sv s (y_makeFunc (vs := #[]) (us := #[.pointer (some ⟨b7, 0, none⟩), .pointer (some ⟨b8, 0, none⟩), .pointer (some ⟨b9, 0, none⟩)]) rfl rfl) rfl fun a s => ?_
 obtain ⟨rv11, h10, u⟩ := bind_t u
 refine st_callR s (sort_Search_ok h10 d.bdom (record_first_fn1_fn (d.bBox 2 rfl) (d.bE 0 rfl) (d.bBox 1 rfl) (d.bBox 0 rfl))) (do_call Tryz.call105 rfl) trivial rfl rfl ?_
 rintro v15 Sv12 w a h13 rfl s
 have d := d.callB h13
 refine rz 1 [] s d rfl rfl fun a s => ?_
 have u := oi u
 subst u
 exact wp_ret (ret1 s rfl (rv_tmp rfl) (d.ret rfl))
abbrev record_part_rd (w0 : World) (X : List Nat) (r : (Record × Bool × Int)) : Rd := fun S w v => ∃ p0_11 k0_11 c0_11, v = .tuple #[V56 r.1 p0_11 k0_11, .bool r.2.1, .int .i64 r.2.2] ∧ Outs X w0 S w [.row p0_11 r.1.Samples.length k0_11 c0_11 3 1] ∧ (RowA c0_11 r.1.Samples).p S w
theorem record_part_ok {w0 S0 p2 k3 r1 from5 to6 r} (u : record_part r1 from5 to6 = some r) (hS : Dm S0 w0) (h4 : (SlA p2 r1.Samples.length k3 r1.Samples).p S0 w0) : Calls Tryz.prog 108 #[V56 r1 p2 k3, .int .i64 from5, .int .i64 to6] w0 (Ret ([]) w0 S0 (record_part_rd w0 ([]) r)) := by
 refine en 17 Tryz.func108 rfl hS rfl rfl rfl fun a s d => ?_
 have d := d.addE h4
 delta record_part at u
 refine sr (w_box (cs := (C56 r1 p2 k3)) s d rfl rfl rfl trivial ?_)
 intro b7 a w s d
 refine w_alloc (cs := Z0) s d Tryz.zeroValue56 rfl rfl trivial ?_
 intro b8 a w s d
 refine rz 2 [] s d rfl rfl fun a s => ?_
 refine wp_seq (sz 3 [] s d rfl rfl fun a s => ?_)
 refine cd s u rfl (fun u => ?_) fun u => ?_
 ·refine sr (sv s (y_build (vs := []) Bld56 rfl rfl) rfl fun a s => ?_)
  refine w_store (m := 12) (cs' := Z0) s d 0 rfl rfl rfl Tryz.sizeOf56 rfl rfl rfl rfl trivial ?_
  intro a w s d
  refine rz 2 [] s d rfl rfl fun a s => ?_
  have u := oi u
  subst u
  have d := d.nilRow Int 3
  exact wp_ret (then_ret (ret3 s rfl (rv_cell d 1 rfl rfl Tryz.isAgg56 Tryz.sizeOf56 rfl) (rv_tmp rfl) (rv_tmp rfl) (d.ret ⟨none, 0, [], rfl, (d.outs [0] (by decide) rfl), (d.envAt 0 rfl)⟩)))
 refine wp_skip (then_normal (sn 3 [1] s d rfl rfl fun a s => ?_))
 obtain ⟨rv12, h11, u⟩ := bind_t u
 refine st_callR s (record_sub_ok h11 d.dom (d.envAt 0 rfl)) (do_call Tryz.call143 rfl) trivial rfl rfl ?_
 rintro v20 Sv17 w a h18 ⟨p13, k14, c16, rfl, h21, h15⟩ s
 have d := (d.callN h18 h21).addE (e := RowA c16 rv12.Samples) h15
 refine w_store (m := 12) (cs' := (C56 rv12 p13 k14)) s d 1 rfl rfl rfl Tryz.sizeOf56 rfl rfl rfl rfl trivial ?_
 intro a w s d
 refine rz 2 [] s d rfl rfl fun a s => ?_
 have u := oi u
 subst u
 exact wp_ret (ret3 s rfl (rv_cell d 1 rfl rfl Tryz.isAgg56 Tryz.sizeOf56 rfl) (rv_tmp rfl) (rv_tmp rfl) (d.ret ⟨p13, k14, c16, rfl, (d.outs [0] (by decide) rfl), (d.envAt 0 rfl)⟩))
theorem record_Inside_ok {w0 S0 p2 k3 r1 from5 to6 r} (u : record_Inside r1 from5 to6 = some r) (hS : Dm S0 w0) (h4 : (SlA p2 r1.Samples.length k3 r1.Samples).p S0 w0) : Calls Tryz.prog 75 #[V56 r1 p2 k3, .int .i64 from5, .int .i64 to6] w0 (Ret ([]) w0 S0 (record_part_rd w0 ([]) r)) := by
 refine en 28 Tryz.func75 rfl hS rfl rfl rfl fun a s d => ?_
 have d := d.addE h4
 delta record_Inside at u
 refine sr (w_box (cs := (C56 r1 p2 k3)) s d rfl rfl rfl trivial ?_)
 intro b7 a w s d
 refine w_box (cs := [.int .i64 to6]) s d rfl rfl rfl trivial ?_
 intro b8 a w s d
 refine w_alloc (cs := Z0) s d Tryz.zeroValue56 rfl rfl trivial ?_
 intro b9 a w s d
 refine rz 2 [] s d rfl rfl fun a s => ?_
 refine wp_seq (sn 1 [2] s d rfl rfl fun a s => ?_)
 obtain ⟨rv11, h10, u⟩ := bind_t u
 refine st_callR s (record_Valid_ok h10 d.bdom (d.bE 0 rfl)) (do_call Tryz.call84 rfl) trivial rfl rfl ?_
 rintro v15 Sv12 w a h13 rfl s
 have d := d.callB h13
 refine rz 1 [] s d rfl rfl fun a s => ?_
 refine cd s u rfl (fun u => ?_) fun u => ?_
 ·refine sr (sv s (y_build (vs := []) Bld56 rfl rfl) rfl fun a s => ?_)
  refine w_store (m := 12) (cs' := Z0) s d 0 rfl rfl rfl Tryz.sizeOf56 rfl rfl rfl rfl trivial ?_
  intro a w s d
  refine rz 2 [] s d rfl rfl fun a s => ?_
  have u := oi u
  subst u
  have d := d.nilRow Int 3
  exact wp_ret (then_ret (ret3 s rfl (rv_cell d 1 rfl rfl Tryz.isAgg56 Tryz.sizeOf56 rfl) (rv_tmp rfl) (rv_tmp rfl) (d.ret ⟨none, 0, [], rfl, (d.outs [0] (by decide) rfl), (d.envAt 0 rfl)⟩)))
 refine wp_skip (then_normal (sn 3 [2] s d rfl rfl fun a s => ?_))
 refine sv s (y_makeFunc (vs := #[]) (us := #[.pointer (some ⟨b7, 0, none⟩), .pointer (some ⟨b8, 0, none⟩)]) rfl rfl) rfl fun a s => ?_
 obtain ⟨rv20, h19, u⟩ := bind_t u
 refine st_callR s (sort_Search_ok h19 d.bdom (record_Inside_fn1_fn (d.bBox 2 rfl) (d.bE 0 rfl) (d.bBox 1 rfl))) (do_call Tryz.call105 rfl) trivial rfl rfl ?_
 rintro v24 Sv21 w a h22 rfl s
 have d := d.callB h22
 refine rz 1 [] s d rfl rfl fun a s => ?_
 refine wp_seq ?_
 obtain ⟨rv27, h26, u⟩ := bind_t u
 obtain ⟨rv29, h28, u⟩ := bind_t u
 refine wp_only (fun a w => ∃ Sv34 c33 k31 p30, Sl 28 [(6, .pointer (some ⟨b9, 0, none⟩)), (7, .bool rv29.2.1), (8, .int .i64 rv29.2.2)] a ∧ Wd ⟨w0, S0, []⟩ Sv34 [.box b9 (C56 rv29.1 p30 k31) 56, .row p30 rv29.1.Samples.length k31 c33 3 1] [RowA c33 rv29.1.Samples] w) ?_ ?_
 ·refine h_c [1, 2] [] d rfl rfl (by kernel_rfl) rfl fun hC d => ?_
  refine gn 4 [0, 1, 2, 4] [1, 1] s hC rfl rfl rfl fun a s => ?_
  refine ho 3 rfl ?_
  refine st_callR s (record_first_ok h26 d.bdom (d.bE 0 rfl)) (do_call Tryz.call109 rfl) trivial rfl rfl ?_
  rintro v38 Sv35 w a h36 rfl s
  have d := d.callB h36
  refine h_n [1, 2] [] d rfl rfl fun hC => ?_
  refine ho 5 rfl ?_
  refine st_callR s (record_part_ok h28 d.dom (d.envAt 0 rfl)) (do_call Tryz.call108 rfl) trivial rfl rfl ?_
  rintro v43 Sv40 w a h41 ⟨p30, k31, c33, rfl, h44, h32⟩ s
  have d := (d.callN h41 h44).addE (e := RowA c33 rv29.1.Samples) h32
  refine h_n [2, 3] [] d rfl rfl fun hC => ?_
  refine h_d [2, 3, 0] [] [0, 1] [] d rfl rfl rfl rfl fun hC => ?_
  refine gn 3 [6, 7, 8] [] s hC rfl rfl rfl fun a s => ?_
  refine ho 9 rfl ?_
  refine w_store (m := 12) (cs' := (C56 rv29.1 p30 k31)) s d 1 rfl rfl rfl Tryz.sizeOf56 rfl rfl rfl rfl trivial ?_
  intro a w s d
  refine h_n [2, 3, 0] [] d rfl rfl fun hC => ?_
  refine gn 2 [10, 11] [] s hC rfl rfl rfl fun a s => ?_
  refine h_done (by kernel_rfl) ?_
  exact ⟨Sv40, c33, k31, p30, (s.wk rfl), (d.ft [1, 0] [0] (by decide) rfl rfl)⟩
 rintro a w ⟨Sv34, c33, k31, p30, s, d⟩
 refine then_normal ?_
 have u := oi u
 subst u
 exact wp_ret (ret3 s rfl (rv_cell d 0 rfl rfl Tryz.isAgg56 Tryz.sizeOf56 rfl) (rv_tmp rfl) (rv_tmp rfl) (d.ret ⟨p30, k31, c33, rfl, (d.outs [1] (by decide) rfl), (d.envAt 0 rfl)⟩))
theorem continuity_Window_ok {w0 S0 p2 k3 l1 from5 to6 r} (u : continuity_Window l1 from5 to6 = some r) (hS : Dm S0 w0) (h4 : (SlA p2 l1.length k3 l1).p S0 w0) : Calls Tryz.prog 33 #[.slice p2 l1.length k3, .int .i64 from5, .int .i64 to6] w0 (Ret ([]) w0 S0 (continuity_Segments_rd w0 ([]) r)) := by
 refine en 48 Tryz.func33 rfl hS rfl rfl rfl fun a s d => ?_
 have d := d.addE h4
 delta continuity_Window at u
 refine sz 2 [] s d rfl rfl fun a s => ?_
 refine wp_seq (sn 1 [] s d rfl rfl fun a s => ?_)
 obtain ⟨rv8, h7, u⟩ := bind_t u
 refine st_callR s (slices_ContainsFunc_Lapi_Segment_api_Segment_ok h7 d.bdom (d.bE 0 rfl) (continuity_Window_fn1_fn _ _)) (do_call Tryz.call72 rfl) trivial rfl rfl ?_
 rintro v12 Sv9 w a h10 rfl s
 have d := d.callB h10
 refine nl (cd s u rfl (fun u => ?_) fun u => ?_)
 ·refine sz 2 [] s d rfl rfl fun a s => ?_
  have u := oi u
  subst u
  have d := d.nilRow Segment 64
  exact wp_ret (then_ret (ret2 s rfl (rv_tmp rfl) (rv_tmp rfl) (d.ret ⟨none, 0, [], rfl, (d.outs [0] (by decide) rfl), (d.envAt 0 rfl)⟩)))
 refine wp_skip (then_normal (wp_seq (sn 2 [] s d rfl rfl fun a s => ?_)))
 obtain ⟨rv17, h16, u⟩ := bind_t u
 refine st_callR s (continuity_window_ok h16 d.bdom) (do_call Tryz.call74 rfl) trivial rfl rfl ?_
 rintro v21 Sv18 w a h19 rfl s
 have d := d.callB h19
 refine rz 1 [] s d rfl rfl fun a s => ?_
 refine cd s u rfl (fun u => ?_) fun u => ?_
 ·refine sz 2 [] s d rfl rfl fun a s => ?_
  have u := oi u
  subst u
  have d := d.nilRow Segment 64
  exact wp_ret (then_ret (ret2 s rfl (rv_tmp rfl) (rv_tmp rfl) (d.ret ⟨none, 0, [], rfl, (d.outs [0] (by decide) rfl), (d.envAt 0 rfl)⟩)))
 refine wp_skip (then_normal (sz 1 [] s d rfl rfl fun a s => ?_))
 refine wp_seq (sz 3 [] s d rfl rfl fun a s => ?_)
 obtain ⟨e205, h333, u⟩ := bind_t u
 refine wp_join (fun a w => ∃ c206 p207 k208 Sv209, Sl 48 [(8, .slice p207 e205.length k208)] a ∧ Wd ⟨w0, S0, []⟩ Sv209 [.row p207 e205.length k208 c206 64 6] [RowA c206 e205] w) ?_ ?_
 ·refine wp_block ?_
  have d := d.nilRow Segment 64
  refine wp_while (fun sv25 a w => ∃ c142 p143 k144 Sv145, Sl 48 [(1, .int .i64 from5), (2, .int .i64 to6), (8, .slice p143 sv25.1.length k144), (20, .slice p2 l1.length k3), (21, .int .i64 (l1.length : Int)), (22, .int .i64 sv25.2)] a ∧ Wd ⟨w0, S0, []⟩ Sv145 [.row p143 sv25.1.length k144 c142 64 6] [SlA p2 l1.length k3 l1, RowA c142 sv25.1] w) (([] : List Segment), 0) h333 ⟨[], none, 0, S0, (s.wk rfl), (d.ft [0] [1, 0] (by decide) rfl rfl)⟩ ?_
  clear h333
  repeat clear u
  rintro sv25 a w tv203 ⟨c142, p143, k144, Sv145, s, d⟩ u hd202
  delta continuity_Window_l1 at u
  refine sz 1 [] s d rfl rfl fun a s => ?_
  refine wp_seq (cd s u rfl (fun u => ?_) fun u => ?_)
  ·refine wp_skip (then_normal (wp_seq (wp_block (sr ?_))))
   obtain ⟨x269, h267, u⟩ := bind_t u
   obtain ⟨b275, o276, q273, c274, h277, h270, h271, h272, h268⟩ := d.elemV 0 rfl h267
   have hsv278 := s
   have hwv279 := d
   subst h277
   have s := hsv278
   have d := hwv279
   obtain ⟨_, _, _, _, _, _, rfl, rfl, rfl, rfl, rfl, rfl, ⟨p280, n281, k282, rfl, h283⟩⟩ := h268
   obtain rfl := h283.1
   have d := (d.addE (e := SlA p280 _ k282 x269.Samples) h283).addE h272
   refine sv s (y_indexAt Tryz.runUnderlying60 Tryz.sizeOf64 rfl rfl h270.1 h270.2 h271) rfl fun a s => ?_
   refine sv s (y_loadEA (j := 0) (d.ceAt 0 rfl) rfl Tryz.isAgg64 Tryz.sizeOf64 rfl rfl) rfl fun a s => ?_
   refine w_alloc (cs := Z9) s d Tryz.zeroValue64 rfl rfl trivial ?_
   intro b284 a w s d
   refine w_store (m := 6) (cs' := (C64 x269 p280 k282)) s d 0 rfl rfl rfl Tryz.sizeOf64 rfl rfl rfl rfl trivial ?_
   intro a w s d
   refine nl (sn 1 [0] s d rfl rfl fun a s => ?_)
   obtain ⟨rv286, h285, u⟩ := bind_t u
   refine st_callR s (continuity_body_ok h285 d.dom (d.envAt 1 rfl)) (do_call Tryz.call76 rfl) trivial rfl rfl ?_
   rintro v293 Sv290 w a h291 ⟨p287, k288, rfl, h289⟩ s
   have d := (d.call h291).addE (e := SlA p287 rv286.Samples.length k288 rv286.Samples) h289
   refine rn 2 [] s d rfl rfl fun a s => ?_
   obtain ⟨rv296, h295, u⟩ := bind_t u
   refine st_callR s (record_Inside_ok h295 d.dom (d.envAt 0 rfl)) (do_call Tryz.call75 rfl) trivial rfl rfl ?_
   rintro v304 Sv301 w a h302 ⟨p297, k298, c300, rfl, h305, h299⟩ s
   have d := (d.callN h302 h305).addE (e := RowA c300 rv296.1.Samples) h299
   refine rn 4 [] s d rfl rfl fun a s => ?_
   refine w_alloc (cs := Z0) s d Tryz.zeroValue56 rfl rfl trivial ?_
   intro b306 a w s d
   refine w_store (m := 12) (cs' := (C56 rv296.1 p297 k298)) s d 0 rfl rfl rfl Tryz.sizeOf56 rfl rfl rfl rfl trivial ?_
   intro a w s d
   refine rz 2 [] s d rfl rfl fun a s => ?_
   refine sz 1 [] s d rfl rfl fun a s => ?_
   refine wp_join (fun a w => ∃ (out321 : (List Segment)) (c317 p318 k319 Sv320 : _), continuity_Window_j1 sv25 out321 = some tv203 ∧ Sl 48 [(1, .int .i64 from5), (2, .int .i64 to6), (8, .slice p318 out321.length k319), (20, .slice (some ⟨b275, o276, none⟩) l1.length k3), (21, .int .i64 (l1.length : Int)), (22, .int .i64 sv25.2)] a ∧ Wd ⟨w0, S0, []⟩ Sv320 [.row p318 out321.length k319 c317 64 6] [SlA (some ⟨b275, o276, none⟩) l1.length k3 l1, RowA c317 out321] w) ?_ ?_
   ·refine cd s u rfl (fun u => ?_) fun u => ?_
    ·refine wp_seq (wp_only (fun a w => ∃ Sv323, Sl 48 [(1, .int .i64 from5), (2, .int .i64 to6), (8, .slice p143 sv25.1.length k144), (10, .pointer (some ⟨b284, 0, none⟩)), (20, .slice (some ⟨b275, o276, none⟩) l1.length k3), (21, .int .i64 (l1.length : Int)), (22, .int .i64 sv25.2)] a ∧ Wd ⟨w0, S0, []⟩ Sv323 [.box b284 (C64 ⟨x269.Start, rv296.1.First, x269.Rate, x269.Error, rv296.1.Samples⟩ p297 k298) 64, .row p143 sv25.1.length k144 c142 64 6, .row p297 rv296.1.Samples.length k298 c300 3 1] [SlA (some ⟨b275, o276, none⟩) l1.length k3 l1, RowA c142 sv25.1, RowA c300 rv296.1.Samples] w) ?_ ?_)
     ·refine h_c [0, 1, 3] [2] d rfl rfl (by kernel_rfl) rfl fun hC d => ?_
      refine gn 5 [0, 1, 2, 3, 4] [0, 0] s hC rfl rfl rfl fun a s => ?_
      refine ho 5 rfl ?_
      refine w_store (m := 1) (cs' := (C64 ⟨x269.Start, rv296.1.First, x269.Rate, x269.Error, x269.Samples⟩ p280 k282)) s d 2 rfl rfl rfl Tryz.sizeOf3 rfl rfl rfl rfl trivial ?_
      intro a w s d
      refine h_n [0, 1, 3] [2] d rfl rfl fun hC => ?_
      refine gv s 6 rfl rfl hC (fun w hC => y_fieldAddr (o' := 5) Tryz.runUnderlying64 rfl Tryz.sizeOf22 rfl rfl rfl) fun a s => ?_
      refine ho 7 rfl ?_
      refine w_store (m := 1) (cs' := (C64 ⟨x269.Start, rv296.1.First, x269.Rate, x269.Error, rv296.1.Samples⟩ p297 k298)) s d 2 rfl rfl rfl Tryz.sizeOf22 rfl rfl rfl rfl trivial ?_
      intro a w s d
      refine h_n [0, 1, 3] [2] d rfl rfl fun hC => ?_
      refine h_done (by kernel_rfl) ?_
      exact ⟨Sv301, (s.wk rfl), (d.ft [2, 3, 1] [4, 5, 0] (by decide) rfl rfl)⟩
     rintro a w ⟨Sv323, s, d⟩
     refine then_normal (wp_region_lit (rn 2 [0] s d rfl rfl fun a s => ?_))
     obtain ⟨Sv326, d⟩ := w_share (α := Int) d 2 rfl 2 rfl
     refine w_litSlice (α := Segment) (vs := [V64 ⟨x269.Start, rv296.1.First, x269.Rate, x269.Error, rv296.1.Samples⟩ p297 k298]) (cs := (C64 ⟨x269.Start, rv296.1.First, x269.Rate, x269.Error, rv296.1.Samples⟩ p297 k298)) (xs := ([(⟨x269.Start, rv296.1.First, x269.Rate, x269.Error, rv296.1.Samples⟩ : Segment)] : List Segment)) s d El60 rfl rfl rfl rfl rfl rfl ⟨⟨_, _, _, _, _, _, rfl, rfl, rfl, rfl, rfl, rfl, ⟨_, _, _, rfl, d.envAt 0 rfl⟩⟩, rfl⟩ rfl trivial rfl fun b325 a w s d => ?_
     obtain ⟨l328, h327, u⟩ := bind_t u
     refine w_appendR (α := Segment) s d El60 2 rfl rfl rfl 3 rfl 0 rfl 0 rfl h327 rfl trivial ?_
     intro p329 k330 c331 a w s d
     refine rz 1 [] s d rfl rfl fun a s => ?_
     exact ⟨l328, c331, p329, k330, Sv326, u, (s.wk rfl), (d.ft [2] [3, 0] (by decide) rfl rfl)⟩
    exact wp_skip (then_normal ⟨sv25.1, c142, p143, k144, Sv301, u, (s.wk rfl), (d.ft [3] [4, 5] (by decide) rfl rfl)⟩)
   rintro a w ⟨out321, c317, p318, k319, Sv320, u, s, d⟩
   delta continuity_Window_j1 at u
   refine blk_normal (then_normal (wp_region_lit (rz 2 [] s d rfl rfl fun a s => ?_)))
   exact ⟨_, (Option.some.inj u).symm, c317, p318, k319, Sv320, (s.wk rfl), (d.ft [0] [0, 1] (by decide) rfl rfl)⟩
  refine wp_exit (then_exit (then_exit (blk_exit ?_)))
  have u := oi u
  subst u
  have h332 := hd202 _ rfl
  subst h332
  exact then_normal ⟨c142, p143, k144, Sv145, (s.wk rfl), (d.ft [0] [1] (by decide) rfl rfl)⟩
 rintro a w ⟨c206, p207, k208, Sv209, s, d⟩
 refine then_normal (sz 3 [] s d rfl rfl fun a s => ?_)
 have u := oi u
 subst u
 exact wp_ret (ret2 s rfl (rv_tmp rfl) (rv_tmp rfl) (d.ret ⟨p207, k208, c206, rfl, (d.outs [0] (by decide) rfl), (d.envAt 0 rfl)⟩))
theorem ref05_Same_ok {w0 S0 p2 k3 p6 k7 a1 b5 r} (u : ref05_Same a1 b5 = some r) (hS : Dm S0 w0) (h4 : (SlA p2 a1.length k3 a1).p S0 w0) (h8 : (SlA p6 b5.length k7 b5).p S0 w0) : Calls Tryz.prog 71 #[.slice p2 a1.length k3, .slice p6 b5.length k7] w0 (Ret ([]) w0 S0 (made_Light_rd w0 ([]) r)) := by
 refine en 26 Tryz.func71 rfl hS rfl rfl rfl fun a s d => ?_
 have d := (d.addE h4).addE h8
 delta ref05_Same at u
 refine sz 1 [] s d rfl rfl fun a s => ?_
 refine wp_seq (sz 5 [] s d rfl rfl fun a s => ?_)
 refine cd s u rfl (fun u => ?_) fun u => ?_
 ·refine sz 1 [] s d rfl rfl fun a s => ?_
  have u := oi u
  subst u
  exact wp_ret (then_ret (ret1 s rfl (rv_tmp rfl) (d.ret rfl)))
 refine wp_skip (then_normal (wp_seq (sz 1 [] s d rfl rfl fun a s => ?_)))
 refine wp_block (wp_while (fun sv109 a w => ∃ Sv173, Sl 26 [(0, .slice p2 a1.length k3), (1, .slice p6 b5.length k7), (5, .int .i64 sv109)] a ∧ Wd ⟨w0, S0, []⟩ Sv173 [] [SlA p2 a1.length k3 a1, SlA p6 b5.length k7 b5] w) 0 u ⟨S0, (s.wk rfl), (d.ft [] [1, 0] (by decide) rfl rfl)⟩ ?_)
 repeat clear u
 rintro sv109 a w tv206 ⟨Sv173, s, d⟩ u hd205
 delta ref05_Same_l2 at u
 refine wp_seq (sz 4 [] s d rfl rfl fun a s => ?_)
 refine cd s u rfl (fun u => ?_) fun u => ?_
 ·refine wp_skip (then_normal (wp_seq (wp_block (wp_seq ?_))))
  obtain ⟨x241, h239, u⟩ := bind_t u
  obtain ⟨b247, o248, q245, c246, h249, h242, h243, h244, h240⟩ := d.elemV 0 rfl h239
  have hsv250 := s
  have hwv251 := d
  subst h249
  have s := hsv250
  have d := hwv251
  obtain ⟨_, rfl, rfl⟩ := h240
  have d := d.addE h244
  obtain ⟨x254, h252, u⟩ := bind_t u
  obtain ⟨b260, o261, q258, c259, h262, h255, h256, h257, h253⟩ := d.elemV 2 rfl h252
  have hsv263 := s
  have hwv264 := d
  subst h262
  have s := hsv263
  have d := hwv264
  obtain ⟨_, rfl, rfl⟩ := h253
  have d := d.addE h257
  refine wp_only (fun a w => ∃ Sv265, Sl 26 [(0, .slice (some ⟨b247, o248, none⟩) a1.length k3), (1, .slice (some ⟨b260, o261, none⟩) b5.length k7), (5, .int .i64 sv109), (25, .bool (x241 != x254))] a ∧ Wd ⟨w0, S0, []⟩ Sv265 [] [SlA (some ⟨b247, o248, none⟩) a1.length k3 a1, SlA (some ⟨b260, o261, none⟩) b5.length k7 b5] w) ?_ ?_
  ·refine h_c [] [0, 1] d rfl rfl (by kernel_rfl) rfl fun hC d => ?_
   refine gn 2 [0, 1] [] s hC rfl rfl rfl fun a s => ?_
   refine gv s 2 rfl rfl hC (fun w hC => y_indexAt Tryz.runUnderlying22 Tryz.sizeOf3 rfl rfl h242.1 h242.2 h243) fun a s => ?_
   refine gv s 3 rfl rfl hC (fun w hC => y_loadE1 (j := 0) (hC.ceAt 1 rfl) rfl Tryz.isAgg3 rfl) fun a s => ?_
   refine gn 2 [4, 5] [] s hC rfl rfl rfl fun a s => ?_
   refine gv s 6 rfl rfl hC (fun w hC => y_indexAt Tryz.runUnderlying22 Tryz.sizeOf3 rfl rfl h255.1 h255.2 h256) fun a s => ?_
   refine gv s 7 rfl rfl hC (fun w hC => y_loadE1 (j := 0) (hC.ceAt 0 rfl) rfl Tryz.isAgg3 rfl) fun a s => ?_
   refine gv s 8 rfl rfl hC (fun w hC => y_neq rfl rfl) fun a s => ?_
   refine h_done (by kernel_rfl) ?_
   exact ⟨Sv173, (s.wk rfl), (d.ft [] [2, 3] (by decide) rfl rfl)⟩
  rintro a w ⟨Sv265, s, d⟩
  refine then_normal (cd s u rfl (fun u => ?_) fun u => ?_)
  ·refine sz 1 [] s d rfl rfl fun a s => ?_
   have u := oi u
   subst u
   have h268 := hd205 _ rfl
   subst h268
   exact wp_ret (blk_ret (then_ret (then_ret (blk_ret (then_ret (ret1 s rfl (rv_tmp rfl) (d.ret rfl)))))))
  refine wp_skip (blk_normal (then_normal (wp_region_lit (rn 2 [] s d rfl rfl fun a s => ?_))))
  obtain ⟨i270, h269, u⟩ := bind_t u
  refine sv s (y_assignI rfl h269) rfl fun a s => ?_
  exact nl ⟨_, (Option.some.inj u).symm, Sv265, (s.wk rfl), (d.ft [] [0, 1] (by decide) rfl rfl)⟩
 obtain ⟨rv271, u, h272⟩ := map_t u
 have h272 := (hd205 _ h272.symm).symm
 subst h272
 refine wp_exit (then_exit (then_exit (blk_exit (then_normal (sz 1 [] s d rfl rfl fun a s => ?_)))))
 have u := oi u
 subst u
 exact wp_ret (ret1 s rfl (rv_tmp rfl) (d.ret rfl))
theorem ref16_SameSegments_ok {w0 S0 p2 k3 p6 k7 a1 b5 r} (u : ref16_SameSegments a1 b5 = some r) (hS : Dm S0 w0) (h4 : (SlA p2 a1.length k3 a1).p S0 w0) (h8 : (SlA p6 b5.length k7 b5).p S0 w0) : Calls Tryz.prog 32 #[.slice p2 a1.length k3, .slice p6 b5.length k7] w0 (Ret ([]) w0 S0 (made_Light_rd w0 ([]) r)) := by
 refine en 81 Tryz.func32 rfl hS rfl rfl rfl fun a s d => ?_
 have d := (d.addE h4).addE h8
 delta ref16_SameSegments at u
 refine sz 1 [] s d rfl rfl fun a s => ?_
 refine wp_seq (sz 5 [] s d rfl rfl fun a s => ?_)
 refine cd s u rfl (fun u => ?_) fun u => ?_
 ·refine sz 1 [] s d rfl rfl fun a s => ?_
  have u := oi u
  subst u
  exact wp_ret (then_ret (ret1 s rfl (rv_tmp rfl) (d.ret rfl)))
 refine wp_skip (then_normal (wp_seq (sz 1 [] s d rfl rfl fun a s => ?_)))
 refine wp_block (wp_while (fun sv439 a w => ∃ Sv723, Sl 81 [(0, .slice p2 a1.length k3), (1, .slice p6 b5.length k7), (5, .int .i64 sv439)] a ∧ Wd ⟨w0, S0, []⟩ Sv723 [] [SlA p2 a1.length k3 a1, SlA p6 b5.length k7 b5] w) 0 u ⟨S0, (s.wk rfl), (d.ft [] [1, 0] (by decide) rfl rfl)⟩ ?_)
 repeat clear u
 rintro sv439 a w tv866 ⟨Sv723, s, d⟩ u hd865
 delta ref16_SameSegments_l2 at u
 refine wp_seq (sz 4 [] s d rfl rfl fun a s => ?_)
 refine cd s u rfl (fun u => ?_) fun u => ?_
 ·refine wp_skip (then_normal (wp_seq (wp_block (wp_seq ?_))))
  obtain ⟨x1011, h1009, u⟩ := bind_t u
  obtain ⟨b1017, o1018, q1015, c1016, h1019, h1012, h1013, h1014, h1010⟩ := d.elemV 0 rfl h1009
  have hsv1020 := s
  have hwv1021 := d
  subst h1019
  have s := hsv1020
  have d := hwv1021
  obtain ⟨_, _, _, _, _, _, rfl, rfl, rfl, rfl, rfl, rfl, ⟨p1022, n1023, k1024, rfl, h1025⟩⟩ := h1010
  obtain rfl := h1025.1
  have d := (d.addE (e := SlA p1022 _ k1024 x1011.Samples) h1025).addE h1014
  obtain ⟨x1028, h1026, u⟩ := bind_t u
  obtain ⟨b1034, o1035, q1032, c1033, h1036, h1029, h1030, h1031, h1027⟩ := d.elemV 3 rfl h1026
  have hsv1037 := s
  have hwv1038 := d
  subst h1036
  have s := hsv1037
  have d := hwv1038
  obtain ⟨_, _, _, _, _, _, rfl, rfl, rfl, rfl, rfl, rfl, ⟨p1039, n1040, k1041, rfl, h1042⟩⟩ := h1027
  obtain rfl := h1042.1
  have d := (d.addE (e := SlA p1039 _ k1041 x1028.Samples) h1042).addE h1031
  obtain ⟨c1067, hc1067, u⟩ := bind_t u
  obtain ⟨c1092, hc1092, u⟩ := bind_t u
  obtain ⟨c1117, hc1117, u⟩ := bind_t u
  obtain ⟨c1144, hc1144, u⟩ := bind_t u
  refine wp_only (fun a w => ∃ Sv1145, Sl 81 [(0, .slice (some ⟨b1017, o1018, none⟩) a1.length k3), (1, .slice (some ⟨b1034, o1035, none⟩) b5.length k7), (5, .int .i64 sv439), (80, .bool c1144)] a ∧ Wd ⟨w0, S0, []⟩ Sv1145 [] [SlA (some ⟨b1017, o1018, none⟩) a1.length k3 a1, SlA (some ⟨b1034, o1035, none⟩) b5.length k7 b5] w) ?_ ?_
  ·rcases Bool.eq_false_or_eq_true (x1011.Start != x1028.Start) with h1146 | h1146
   ·have h1147 := ite_t hc1067 h1146
    have h1148 : c1067 = true := (Option.some.inj h1147).symm
    have h1149 := ite_t hc1092 h1148
    have h1150 : c1092 = true := (Option.some.inj h1149).symm
    have h1151 := ite_t hc1117 h1150
    have h1152 : c1117 = true := (Option.some.inj h1151).symm
    have h1153 := ite_t hc1144 h1152
    refine h_c [] [0, 2] d rfl rfl (by kernel_rfl) rfl fun hC d => ?_
    refine gn 2 [0, 1] [] s hC rfl rfl rfl fun a s => ?_
    refine gv s 2 rfl rfl hC (fun w hC => y_indexAt Tryz.runUnderlying60 Tryz.sizeOf64 rfl rfl h1012.1 h1012.2 h1013) fun a s => ?_
    refine gv s 3 rfl rfl hC (fun w hC => y_fieldAddr (o' := q1015 + 0) Tryz.runUnderlying64 rfl Tryz.sizeOf3 rfl rfl rfl) fun a s => ?_
    refine gv s 4 rfl rfl hC (fun w hC => y_loadE1 (j := 0) (hC.ceAt 1 rfl) rfl Tryz.isAgg3 rfl) fun a s => ?_
    refine gn 2 [5, 6] [] s hC rfl rfl rfl fun a s => ?_
    refine gv s 7 rfl rfl hC (fun w hC => y_indexAt Tryz.runUnderlying60 Tryz.sizeOf64 rfl rfl h1029.1 h1029.2 h1030) fun a s => ?_
    refine gv s 8 rfl rfl hC (fun w hC => y_fieldAddr (o' := q1032 + 0) Tryz.runUnderlying64 rfl Tryz.sizeOf3 rfl rfl rfl) fun a s => ?_
    refine gv s 9 rfl rfl hC (fun w hC => y_loadE1 (j := 0) (hC.ceAt 0 rfl) rfl Tryz.isAgg3 rfl) fun a s => ?_
    refine gn 2 [10, 11] [] s hC rfl rfl rfl fun a s => ?_
    have s := s.fix 28 (.bool true) rfl (vb h1146)
    refine gn 11 [12, 13, 14, 15, 16, 17, 18, 19, 20, 21, 22] [] s hC rfl rfl rfl fun a s => ?_
    refine gv s 23 rfl rfl hC (fun w hC => y_pickTE (v := .bool c1067) rfl rfl (vbs h1147)) fun a s => ?_
    refine gm s 24 rfl rfl rfl hC fun a s => ?_
    have s := s.fix 41 (.bool true) rfl (vb h1148)
    refine gn 11 [25, 26, 27, 28, 29, 30, 31, 32, 33, 34, 35] [] s hC rfl rfl rfl fun a s => ?_
    refine gv s 36 rfl rfl hC (fun w hC => y_pickTE (v := .bool c1092) rfl rfl (vbs h1149)) fun a s => ?_
    refine gm s 37 rfl rfl rfl hC fun a s => ?_
    have s := s.fix 54 (.bool true) rfl (vb h1150)
    refine gn 11 [38, 39, 40, 41, 42, 43, 44, 45, 46, 47, 48] [] s hC rfl rfl rfl fun a s => ?_
    refine gv s 49 rfl rfl hC (fun w hC => y_pickTE (v := .bool c1117) rfl rfl (vbs h1151)) fun a s => ?_
    refine gm s 50 rfl rfl rfl hC fun a s => ?_
    have s := s.fix 67 (.bool true) rfl (vb h1152)
    refine gn 12 [51, 52, 53, 54, 55, 56, 57, 58, 59, 60, 61, 62] [] s hC rfl rfl rfl fun a s => ?_
    refine gv s 63 rfl rfl hC (fun w hC => y_pickTE (v := .bool c1144) rfl rfl (vbs h1153)) fun a s => ?_
    refine h_done (by kernel_rfl) ?_
    exact ⟨Sv723, (s.wk rfl), (d.ft [] [4, 5] (by decide) rfl rfl)⟩
   have h1154 := ite_f hc1067 h1146
   obtain ⟨x1157, h1155, h1154⟩ := bind_t h1154
   obtain ⟨q1161, c1162, h1158, h1159, h1160, h1156⟩ := d.elemK 4 rfl h1155
   obtain ⟨_, _, _, _, _, _, rfl, rfl, rfl, rfl, rfl, rfl, ⟨p1163, n1164, k1165, rfl, h1166⟩⟩ := h1156
   obtain rfl := h1166.1
   have d := (d.addE (e := SlA p1163 _ k1165 x1157.Samples) h1166).addE h1160
   obtain ⟨x1169, h1167, h1154⟩ := bind_t h1154
   obtain ⟨q1173, c1174, h1170, h1171, h1172, h1168⟩ := d.elemK 7 rfl h1167
   obtain ⟨_, _, _, _, _, _, rfl, rfl, rfl, rfl, rfl, rfl, ⟨p1175, n1176, k1177, rfl, h1178⟩⟩ := h1168
   obtain rfl := h1178.1
   have d := (d.addE (e := SlA p1175 _ k1177 x1169.Samples) h1178).addE h1172
   rcases Bool.eq_false_or_eq_true c1067 with h1179 | h1179
   ·have h1180 := ite_t hc1092 h1179
    have h1181 : c1092 = true := (Option.some.inj h1180).symm
    have h1182 := ite_t hc1117 h1181
    have h1183 : c1117 = true := (Option.some.inj h1182).symm
    have h1184 := ite_t hc1144 h1183
    refine h_c [] [0, 2, 4, 6] d rfl rfl (by kernel_rfl) rfl fun hC d => ?_
    refine gn 2 [0, 1] [] s hC rfl rfl rfl fun a s => ?_
    refine gv s 2 rfl rfl hC (fun w hC => y_indexAt Tryz.runUnderlying60 Tryz.sizeOf64 rfl rfl h1012.1 h1012.2 h1013) fun a s => ?_
    refine gv s 3 rfl rfl hC (fun w hC => y_fieldAddr (o' := q1015 + 0) Tryz.runUnderlying64 rfl Tryz.sizeOf3 rfl rfl rfl) fun a s => ?_
    refine gv s 4 rfl rfl hC (fun w hC => y_loadE1 (j := 0) (hC.ceAt 3 rfl) rfl Tryz.isAgg3 rfl) fun a s => ?_
    refine gn 2 [5, 6] [] s hC rfl rfl rfl fun a s => ?_
    refine gv s 7 rfl rfl hC (fun w hC => y_indexAt Tryz.runUnderlying60 Tryz.sizeOf64 rfl rfl h1029.1 h1029.2 h1030) fun a s => ?_
    refine gv s 8 rfl rfl hC (fun w hC => y_fieldAddr (o' := q1032 + 0) Tryz.runUnderlying64 rfl Tryz.sizeOf3 rfl rfl rfl) fun a s => ?_
    refine gv s 9 rfl rfl hC (fun w hC => y_loadE1 (j := 0) (hC.ceAt 2 rfl) rfl Tryz.isAgg3 rfl) fun a s => ?_
    refine gn 2 [10, 11] [] s hC rfl rfl rfl fun a s => ?_
    have s := s.fix 28 (.bool false) rfl (vb h1146)
    refine gn 2 [12, 13] [] s hC rfl rfl rfl fun a s => ?_
    refine gt s 14 rfl ⟨_, rfl, rfl⟩ rfl hC (fun w hC => y_indexAt Tryz.runUnderlying60 Tryz.sizeOf64 rfl rfl h1158.1 h1158.2 h1159) fun a s => ?_
    refine gt s 15 rfl ⟨_, rfl, rfl⟩ rfl hC (fun w hC => y_fieldAddr (o' := q1161 + 1) Tryz.runUnderlying64 rfl Tryz.sizeOf3 rfl rfl rfl) fun a s => ?_
    refine gt s 16 rfl ⟨_, rfl, rfl⟩ rfl hC (fun w hC => y_loadE1 (j := 1) (hC.ceAt 1 rfl) rfl Tryz.isAgg3 rfl) fun a s => ?_
    refine gn 2 [17, 18] [] s hC rfl rfl rfl fun a s => ?_
    refine gt s 19 rfl ⟨_, rfl, rfl⟩ rfl hC (fun w hC => y_indexAt Tryz.runUnderlying60 Tryz.sizeOf64 rfl rfl h1170.1 h1170.2 h1171) fun a s => ?_
    refine gt s 20 rfl ⟨_, rfl, rfl⟩ rfl hC (fun w hC => y_fieldAddr (o' := q1173 + 1) Tryz.runUnderlying64 rfl Tryz.sizeOf3 rfl rfl rfl) fun a s => ?_
    refine gt s 21 rfl ⟨_, rfl, rfl⟩ rfl hC (fun w hC => y_loadE1 (j := 1) (hC.ceAt 0 rfl) rfl Tryz.isAgg3 rfl) fun a s => ?_
    refine gt s 22 rfl ⟨_, rfl, rfl⟩ rfl hC (fun w hC => y_neq rfl rfl) fun a s => ?_
    refine gv s 23 rfl rfl hC (fun w hC => y_pickFE (v := .bool c1067) rfl rfl (vbs h1154)) fun a s => ?_
    refine gm s 24 rfl rfl rfl hC fun a s => ?_
    have s := s.fix 41 (.bool true) rfl (vb h1179)
    refine gn 11 [25, 26, 27, 28, 29, 30, 31, 32, 33, 34, 35] [] s hC rfl rfl rfl fun a s => ?_
    refine gv s 36 rfl rfl hC (fun w hC => y_pickTE (v := .bool c1092) rfl rfl (vbs h1180)) fun a s => ?_
    refine gm s 37 rfl rfl rfl hC fun a s => ?_
    have s := s.fix 54 (.bool true) rfl (vb h1181)
    refine gn 11 [38, 39, 40, 41, 42, 43, 44, 45, 46, 47, 48] [] s hC rfl rfl rfl fun a s => ?_
    refine gv s 49 rfl rfl hC (fun w hC => y_pickTE (v := .bool c1117) rfl rfl (vbs h1182)) fun a s => ?_
    refine gm s 50 rfl rfl rfl hC fun a s => ?_
    have s := s.fix 67 (.bool true) rfl (vb h1183)
    refine gn 12 [51, 52, 53, 54, 55, 56, 57, 58, 59, 60, 61, 62] [] s hC rfl rfl rfl fun a s => ?_
    refine gv s 63 rfl rfl hC (fun w hC => y_pickTE (v := .bool c1144) rfl rfl (vbs h1184)) fun a s => ?_
    refine h_done (by kernel_rfl) ?_
    exact ⟨Sv723, (s.wk rfl), (d.ft [] [8, 9] (by decide) rfl rfl)⟩
   have h1185 := ite_f hc1092 h1179
   obtain ⟨x1188, h1186, h1185⟩ := bind_t h1185
   obtain ⟨q1192, c1193, h1189, h1190, h1191, h1187⟩ := d.elemK 8 rfl h1186
   obtain ⟨_, _, _, _, _, _, rfl, rfl, rfl, rfl, rfl, rfl, ⟨p1194, n1195, k1196, rfl, h1197⟩⟩ := h1187
   obtain rfl := h1197.1
   have d := (d.addE (e := SlA p1194 _ k1196 x1188.Samples) h1197).addE h1191
   obtain ⟨x1200, h1198, h1185⟩ := bind_t h1185
   obtain ⟨q1204, c1205, h1201, h1202, h1203, h1199⟩ := d.elemK 11 rfl h1198
   obtain ⟨_, _, _, _, _, _, rfl, rfl, rfl, rfl, rfl, rfl, ⟨p1206, n1207, k1208, rfl, h1209⟩⟩ := h1199
   obtain rfl := h1209.1
   have d := (d.addE (e := SlA p1206 _ k1208 x1200.Samples) h1209).addE h1203
   rcases Bool.eq_false_or_eq_true c1092 with h1210 | h1210
   ·have h1211 := ite_t hc1117 h1210
    have h1212 : c1117 = true := (Option.some.inj h1211).symm
    have h1213 := ite_t hc1144 h1212
    refine h_c [] [0, 2, 4, 6, 8, 10] d rfl rfl (by kernel_rfl) rfl fun hC d => ?_
    refine gn 2 [0, 1] [] s hC rfl rfl rfl fun a s => ?_
    refine gv s 2 rfl rfl hC (fun w hC => y_indexAt Tryz.runUnderlying60 Tryz.sizeOf64 rfl rfl h1012.1 h1012.2 h1013) fun a s => ?_
    refine gv s 3 rfl rfl hC (fun w hC => y_fieldAddr (o' := q1015 + 0) Tryz.runUnderlying64 rfl Tryz.sizeOf3 rfl rfl rfl) fun a s => ?_
    refine gv s 4 rfl rfl hC (fun w hC => y_loadE1 (j := 0) (hC.ceAt 5 rfl) rfl Tryz.isAgg3 rfl) fun a s => ?_
    refine gn 2 [5, 6] [] s hC rfl rfl rfl fun a s => ?_
    refine gv s 7 rfl rfl hC (fun w hC => y_indexAt Tryz.runUnderlying60 Tryz.sizeOf64 rfl rfl h1029.1 h1029.2 h1030) fun a s => ?_
    refine gv s 8 rfl rfl hC (fun w hC => y_fieldAddr (o' := q1032 + 0) Tryz.runUnderlying64 rfl Tryz.sizeOf3 rfl rfl rfl) fun a s => ?_
    refine gv s 9 rfl rfl hC (fun w hC => y_loadE1 (j := 0) (hC.ceAt 4 rfl) rfl Tryz.isAgg3 rfl) fun a s => ?_
    refine gn 2 [10, 11] [] s hC rfl rfl rfl fun a s => ?_
    have s := s.fix 28 (.bool false) rfl (vb h1146)
    refine gn 2 [12, 13] [] s hC rfl rfl rfl fun a s => ?_
    refine gt s 14 rfl ⟨_, rfl, rfl⟩ rfl hC (fun w hC => y_indexAt Tryz.runUnderlying60 Tryz.sizeOf64 rfl rfl h1158.1 h1158.2 h1159) fun a s => ?_
    refine gt s 15 rfl ⟨_, rfl, rfl⟩ rfl hC (fun w hC => y_fieldAddr (o' := q1161 + 1) Tryz.runUnderlying64 rfl Tryz.sizeOf3 rfl rfl rfl) fun a s => ?_
    refine gt s 16 rfl ⟨_, rfl, rfl⟩ rfl hC (fun w hC => y_loadE1 (j := 1) (hC.ceAt 3 rfl) rfl Tryz.isAgg3 rfl) fun a s => ?_
    refine gn 2 [17, 18] [] s hC rfl rfl rfl fun a s => ?_
    refine gt s 19 rfl ⟨_, rfl, rfl⟩ rfl hC (fun w hC => y_indexAt Tryz.runUnderlying60 Tryz.sizeOf64 rfl rfl h1170.1 h1170.2 h1171) fun a s => ?_
    refine gt s 20 rfl ⟨_, rfl, rfl⟩ rfl hC (fun w hC => y_fieldAddr (o' := q1173 + 1) Tryz.runUnderlying64 rfl Tryz.sizeOf3 rfl rfl rfl) fun a s => ?_
    refine gt s 21 rfl ⟨_, rfl, rfl⟩ rfl hC (fun w hC => y_loadE1 (j := 1) (hC.ceAt 2 rfl) rfl Tryz.isAgg3 rfl) fun a s => ?_
    refine gt s 22 rfl ⟨_, rfl, rfl⟩ rfl hC (fun w hC => y_neq rfl rfl) fun a s => ?_
    refine gv s 23 rfl rfl hC (fun w hC => y_pickFE (v := .bool c1067) rfl rfl (vbs h1154)) fun a s => ?_
    refine gm s 24 rfl rfl rfl hC fun a s => ?_
    have s := s.fix 41 (.bool false) rfl (vb h1179)
    refine gn 2 [25, 26] [] s hC rfl rfl rfl fun a s => ?_
    refine gt s 27 rfl ⟨_, rfl, rfl⟩ rfl hC (fun w hC => y_indexAt Tryz.runUnderlying60 Tryz.sizeOf64 rfl rfl h1189.1 h1189.2 h1190) fun a s => ?_
    refine gt s 28 rfl ⟨_, rfl, rfl⟩ rfl hC (fun w hC => y_fieldAddr (o' := q1192 + 2) Tryz.runUnderlying64 rfl Tryz.sizeOf54 rfl rfl rfl) fun a s => ?_
    refine gt s 29 rfl ⟨_, rfl, rfl⟩ rfl hC (fun w hC => y_loadEA (j := 2) (hC.ceAt 1 rfl) rfl Tryz.isAgg54 Tryz.sizeOf54 rfl rfl) fun a s => ?_
    refine gn 2 [30, 31] [] s hC rfl rfl rfl fun a s => ?_
    refine gt s 32 rfl ⟨_, rfl, rfl⟩ rfl hC (fun w hC => y_indexAt Tryz.runUnderlying60 Tryz.sizeOf64 rfl rfl h1201.1 h1201.2 h1202) fun a s => ?_
    refine gt s 33 rfl ⟨_, rfl, rfl⟩ rfl hC (fun w hC => y_fieldAddr (o' := q1204 + 2) Tryz.runUnderlying64 rfl Tryz.sizeOf54 rfl rfl rfl) fun a s => ?_
    refine gt s 34 rfl ⟨_, rfl, rfl⟩ rfl hC (fun w hC => y_loadEA (j := 2) (hC.ceAt 0 rfl) rfl Tryz.isAgg54 Tryz.sizeOf54 rfl rfl) fun a s => ?_
    refine gt s 35 rfl ⟨_, rfl, rfl⟩ rfl hC (fun w hC => y_neqA (by kernel_rfl) rfl rfl (eqv_struct Tryz.runUnderlying54 (by kernel_rfl) (EqF.cons1 rfl Tryz.isAgg3 rfl rfl (eqv_int Tryz.runUnderlying3) (EqF.cons1 rfl Tryz.isAgg3 rfl rfl (eqv_int Tryz.runUnderlying3) EqF.nil)))) fun a s => ?_
    refine gv s 36 rfl rfl hC (fun w hC => y_pickFE (v := .bool c1092) rfl rfl (vbs h1185)) fun a s => ?_
    refine gm s 37 rfl rfl rfl hC fun a s => ?_
    have s := s.fix 54 (.bool true) rfl (vb h1210)
    refine gn 11 [38, 39, 40, 41, 42, 43, 44, 45, 46, 47, 48] [] s hC rfl rfl rfl fun a s => ?_
    refine gv s 49 rfl rfl hC (fun w hC => y_pickTE (v := .bool c1117) rfl rfl (vbs h1211)) fun a s => ?_
    refine gm s 50 rfl rfl rfl hC fun a s => ?_
    have s := s.fix 67 (.bool true) rfl (vb h1212)
    refine gn 12 [51, 52, 53, 54, 55, 56, 57, 58, 59, 60, 61, 62] [] s hC rfl rfl rfl fun a s => ?_
    refine gv s 63 rfl rfl hC (fun w hC => y_pickTE (v := .bool c1144) rfl rfl (vbs h1213)) fun a s => ?_
    refine h_done (by kernel_rfl) ?_
    exact ⟨Sv723, (s.wk rfl), (d.ft [] [12, 13] (by decide) rfl rfl)⟩
   have h1214 := ite_f hc1117 h1210
   obtain ⟨x1217, h1215, h1214⟩ := bind_t h1214
   obtain ⟨q1221, c1222, h1218, h1219, h1220, h1216⟩ := d.elemK 12 rfl h1215
   obtain ⟨_, _, _, _, _, _, rfl, rfl, rfl, rfl, rfl, rfl, ⟨p1223, n1224, k1225, rfl, h1226⟩⟩ := h1216
   obtain rfl := h1226.1
   have d := (d.addE (e := SlA p1223 _ k1225 x1217.Samples) h1226).addE h1220
   obtain ⟨x1229, h1227, h1214⟩ := bind_t h1214
   obtain ⟨q1233, c1234, h1230, h1231, h1232, h1228⟩ := d.elemK 15 rfl h1227
   obtain ⟨_, _, _, _, _, _, rfl, rfl, rfl, rfl, rfl, rfl, ⟨p1235, n1236, k1237, rfl, h1238⟩⟩ := h1228
   obtain rfl := h1238.1
   have d := (d.addE (e := SlA p1235 _ k1237 x1229.Samples) h1238).addE h1232
   rcases Bool.eq_false_or_eq_true c1117 with h1239 | h1239
   ·have h1240 := ite_t hc1144 h1239
    refine h_c [] [0, 2, 4, 6, 8, 10, 12, 14] d rfl rfl (by kernel_rfl) rfl fun hC d => ?_
    refine gn 2 [0, 1] [] s hC rfl rfl rfl fun a s => ?_
    refine gv s 2 rfl rfl hC (fun w hC => y_indexAt Tryz.runUnderlying60 Tryz.sizeOf64 rfl rfl h1012.1 h1012.2 h1013) fun a s => ?_
    refine gv s 3 rfl rfl hC (fun w hC => y_fieldAddr (o' := q1015 + 0) Tryz.runUnderlying64 rfl Tryz.sizeOf3 rfl rfl rfl) fun a s => ?_
    refine gv s 4 rfl rfl hC (fun w hC => y_loadE1 (j := 0) (hC.ceAt 7 rfl) rfl Tryz.isAgg3 rfl) fun a s => ?_
    refine gn 2 [5, 6] [] s hC rfl rfl rfl fun a s => ?_
    refine gv s 7 rfl rfl hC (fun w hC => y_indexAt Tryz.runUnderlying60 Tryz.sizeOf64 rfl rfl h1029.1 h1029.2 h1030) fun a s => ?_
    refine gv s 8 rfl rfl hC (fun w hC => y_fieldAddr (o' := q1032 + 0) Tryz.runUnderlying64 rfl Tryz.sizeOf3 rfl rfl rfl) fun a s => ?_
    refine gv s 9 rfl rfl hC (fun w hC => y_loadE1 (j := 0) (hC.ceAt 6 rfl) rfl Tryz.isAgg3 rfl) fun a s => ?_
    refine gn 2 [10, 11] [] s hC rfl rfl rfl fun a s => ?_
    have s := s.fix 28 (.bool false) rfl (vb h1146)
    refine gn 2 [12, 13] [] s hC rfl rfl rfl fun a s => ?_
    refine gt s 14 rfl ⟨_, rfl, rfl⟩ rfl hC (fun w hC => y_indexAt Tryz.runUnderlying60 Tryz.sizeOf64 rfl rfl h1158.1 h1158.2 h1159) fun a s => ?_
    refine gt s 15 rfl ⟨_, rfl, rfl⟩ rfl hC (fun w hC => y_fieldAddr (o' := q1161 + 1) Tryz.runUnderlying64 rfl Tryz.sizeOf3 rfl rfl rfl) fun a s => ?_
    refine gt s 16 rfl ⟨_, rfl, rfl⟩ rfl hC (fun w hC => y_loadE1 (j := 1) (hC.ceAt 5 rfl) rfl Tryz.isAgg3 rfl) fun a s => ?_
    refine gn 2 [17, 18] [] s hC rfl rfl rfl fun a s => ?_
    refine gt s 19 rfl ⟨_, rfl, rfl⟩ rfl hC (fun w hC => y_indexAt Tryz.runUnderlying60 Tryz.sizeOf64 rfl rfl h1170.1 h1170.2 h1171) fun a s => ?_
    refine gt s 20 rfl ⟨_, rfl, rfl⟩ rfl hC (fun w hC => y_fieldAddr (o' := q1173 + 1) Tryz.runUnderlying64 rfl Tryz.sizeOf3 rfl rfl rfl) fun a s => ?_
    refine gt s 21 rfl ⟨_, rfl, rfl⟩ rfl hC (fun w hC => y_loadE1 (j := 1) (hC.ceAt 4 rfl) rfl Tryz.isAgg3 rfl) fun a s => ?_
    refine gt s 22 rfl ⟨_, rfl, rfl⟩ rfl hC (fun w hC => y_neq rfl rfl) fun a s => ?_
    refine gv s 23 rfl rfl hC (fun w hC => y_pickFE (v := .bool c1067) rfl rfl (vbs h1154)) fun a s => ?_
    refine gm s 24 rfl rfl rfl hC fun a s => ?_
    have s := s.fix 41 (.bool false) rfl (vb h1179)
    refine gn 2 [25, 26] [] s hC rfl rfl rfl fun a s => ?_
    refine gt s 27 rfl ⟨_, rfl, rfl⟩ rfl hC (fun w hC => y_indexAt Tryz.runUnderlying60 Tryz.sizeOf64 rfl rfl h1189.1 h1189.2 h1190) fun a s => ?_
    refine gt s 28 rfl ⟨_, rfl, rfl⟩ rfl hC (fun w hC => y_fieldAddr (o' := q1192 + 2) Tryz.runUnderlying64 rfl Tryz.sizeOf54 rfl rfl rfl) fun a s => ?_
    refine gt s 29 rfl ⟨_, rfl, rfl⟩ rfl hC (fun w hC => y_loadEA (j := 2) (hC.ceAt 3 rfl) rfl Tryz.isAgg54 Tryz.sizeOf54 rfl rfl) fun a s => ?_
    refine gn 2 [30, 31] [] s hC rfl rfl rfl fun a s => ?_
    refine gt s 32 rfl ⟨_, rfl, rfl⟩ rfl hC (fun w hC => y_indexAt Tryz.runUnderlying60 Tryz.sizeOf64 rfl rfl h1201.1 h1201.2 h1202) fun a s => ?_
    refine gt s 33 rfl ⟨_, rfl, rfl⟩ rfl hC (fun w hC => y_fieldAddr (o' := q1204 + 2) Tryz.runUnderlying64 rfl Tryz.sizeOf54 rfl rfl rfl) fun a s => ?_
    refine gt s 34 rfl ⟨_, rfl, rfl⟩ rfl hC (fun w hC => y_loadEA (j := 2) (hC.ceAt 2 rfl) rfl Tryz.isAgg54 Tryz.sizeOf54 rfl rfl) fun a s => ?_
    refine gt s 35 rfl ⟨_, rfl, rfl⟩ rfl hC (fun w hC => y_neqA (by kernel_rfl) rfl rfl (eqv_struct Tryz.runUnderlying54 (by kernel_rfl) (EqF.cons1 rfl Tryz.isAgg3 rfl rfl (eqv_int Tryz.runUnderlying3) (EqF.cons1 rfl Tryz.isAgg3 rfl rfl (eqv_int Tryz.runUnderlying3) EqF.nil)))) fun a s => ?_
    refine gv s 36 rfl rfl hC (fun w hC => y_pickFE (v := .bool c1092) rfl rfl (vbs h1185)) fun a s => ?_
    refine gm s 37 rfl rfl rfl hC fun a s => ?_
    have s := s.fix 54 (.bool false) rfl (vb h1210)
    refine gn 2 [38, 39] [] s hC rfl rfl rfl fun a s => ?_
    refine gt s 40 rfl ⟨_, rfl, rfl⟩ rfl hC (fun w hC => y_indexAt Tryz.runUnderlying60 Tryz.sizeOf64 rfl rfl h1218.1 h1218.2 h1219) fun a s => ?_
    refine gt s 41 rfl ⟨_, rfl, rfl⟩ rfl hC (fun w hC => y_fieldAddr (o' := q1221 + 4) Tryz.runUnderlying64 rfl Tryz.sizeOf3 rfl rfl rfl) fun a s => ?_
    refine gt s 42 rfl ⟨_, rfl, rfl⟩ rfl hC (fun w hC => y_loadE1 (j := 4) (hC.ceAt 1 rfl) rfl Tryz.isAgg3 rfl) fun a s => ?_
    refine gn 2 [43, 44] [] s hC rfl rfl rfl fun a s => ?_
    refine gt s 45 rfl ⟨_, rfl, rfl⟩ rfl hC (fun w hC => y_indexAt Tryz.runUnderlying60 Tryz.sizeOf64 rfl rfl h1230.1 h1230.2 h1231) fun a s => ?_
    refine gt s 46 rfl ⟨_, rfl, rfl⟩ rfl hC (fun w hC => y_fieldAddr (o' := q1233 + 4) Tryz.runUnderlying64 rfl Tryz.sizeOf3 rfl rfl rfl) fun a s => ?_
    refine gt s 47 rfl ⟨_, rfl, rfl⟩ rfl hC (fun w hC => y_loadE1 (j := 4) (hC.ceAt 0 rfl) rfl Tryz.isAgg3 rfl) fun a s => ?_
    refine gt s 48 rfl ⟨_, rfl, rfl⟩ rfl hC (fun w hC => y_neq rfl rfl) fun a s => ?_
    refine gv s 49 rfl rfl hC (fun w hC => y_pickFE (v := .bool c1117) rfl rfl (vbs h1214)) fun a s => ?_
    refine gm s 50 rfl rfl rfl hC fun a s => ?_
    have s := s.fix 67 (.bool true) rfl (vb h1239)
    refine gn 12 [51, 52, 53, 54, 55, 56, 57, 58, 59, 60, 61, 62] [] s hC rfl rfl rfl fun a s => ?_
    refine gv s 63 rfl rfl hC (fun w hC => y_pickTE (v := .bool c1144) rfl rfl (vbs h1240)) fun a s => ?_
    refine h_done (by kernel_rfl) ?_
    exact ⟨Sv723, (s.wk rfl), (d.ft [] [16, 17] (by decide) rfl rfl)⟩
   have h1241 := ite_f hc1144 h1239
   obtain ⟨x1244, h1242, h1241⟩ := bind_t h1241
   obtain ⟨q1248, c1249, h1245, h1246, h1247, h1243⟩ := d.elemK 16 rfl h1242
   obtain ⟨_, _, _, _, _, _, rfl, rfl, rfl, rfl, rfl, rfl, ⟨p1250, n1251, k1252, rfl, h1253⟩⟩ := h1243
   obtain rfl := h1253.1
   have d := (d.addE (e := SlA p1250 _ k1252 x1244.Samples) h1253).addE h1247
   obtain ⟨x1256, h1254, h1241⟩ := bind_t h1241
   obtain ⟨q1260, c1261, h1257, h1258, h1259, h1255⟩ := d.elemK 19 rfl h1254
   obtain ⟨_, _, _, _, _, _, rfl, rfl, rfl, rfl, rfl, rfl, ⟨p1262, n1263, k1264, rfl, h1265⟩⟩ := h1255
   obtain rfl := h1265.1
   have d := (d.addE (e := SlA p1262 _ k1264 x1256.Samples) h1265).addE h1259
   obtain ⟨rv1267, h1266, h1241⟩ := bind_t h1241
   refine h_c [] [0, 2, 4, 6, 8, 10, 12, 14, 16, 18] d rfl rfl (by kernel_rfl) rfl fun hC d => ?_
   refine gn 2 [0, 1] [] s hC rfl rfl rfl fun a s => ?_
   refine gv s 2 rfl rfl hC (fun w hC => y_indexAt Tryz.runUnderlying60 Tryz.sizeOf64 rfl rfl h1012.1 h1012.2 h1013) fun a s => ?_
   refine gv s 3 rfl rfl hC (fun w hC => y_fieldAddr (o' := q1015 + 0) Tryz.runUnderlying64 rfl Tryz.sizeOf3 rfl rfl rfl) fun a s => ?_
   refine gv s 4 rfl rfl hC (fun w hC => y_loadE1 (j := 0) (hC.ceAt 9 rfl) rfl Tryz.isAgg3 rfl) fun a s => ?_
   refine gn 2 [5, 6] [] s hC rfl rfl rfl fun a s => ?_
   refine gv s 7 rfl rfl hC (fun w hC => y_indexAt Tryz.runUnderlying60 Tryz.sizeOf64 rfl rfl h1029.1 h1029.2 h1030) fun a s => ?_
   refine gv s 8 rfl rfl hC (fun w hC => y_fieldAddr (o' := q1032 + 0) Tryz.runUnderlying64 rfl Tryz.sizeOf3 rfl rfl rfl) fun a s => ?_
   refine gv s 9 rfl rfl hC (fun w hC => y_loadE1 (j := 0) (hC.ceAt 8 rfl) rfl Tryz.isAgg3 rfl) fun a s => ?_
   refine gn 2 [10, 11] [] s hC rfl rfl rfl fun a s => ?_
   have s := s.fix 28 (.bool false) rfl (vb h1146)
   refine gn 2 [12, 13] [] s hC rfl rfl rfl fun a s => ?_
   refine gt s 14 rfl ⟨_, rfl, rfl⟩ rfl hC (fun w hC => y_indexAt Tryz.runUnderlying60 Tryz.sizeOf64 rfl rfl h1158.1 h1158.2 h1159) fun a s => ?_
   refine gt s 15 rfl ⟨_, rfl, rfl⟩ rfl hC (fun w hC => y_fieldAddr (o' := q1161 + 1) Tryz.runUnderlying64 rfl Tryz.sizeOf3 rfl rfl rfl) fun a s => ?_
   refine gt s 16 rfl ⟨_, rfl, rfl⟩ rfl hC (fun w hC => y_loadE1 (j := 1) (hC.ceAt 7 rfl) rfl Tryz.isAgg3 rfl) fun a s => ?_
   refine gn 2 [17, 18] [] s hC rfl rfl rfl fun a s => ?_
   refine gt s 19 rfl ⟨_, rfl, rfl⟩ rfl hC (fun w hC => y_indexAt Tryz.runUnderlying60 Tryz.sizeOf64 rfl rfl h1170.1 h1170.2 h1171) fun a s => ?_
   refine gt s 20 rfl ⟨_, rfl, rfl⟩ rfl hC (fun w hC => y_fieldAddr (o' := q1173 + 1) Tryz.runUnderlying64 rfl Tryz.sizeOf3 rfl rfl rfl) fun a s => ?_
   refine gt s 21 rfl ⟨_, rfl, rfl⟩ rfl hC (fun w hC => y_loadE1 (j := 1) (hC.ceAt 6 rfl) rfl Tryz.isAgg3 rfl) fun a s => ?_
   refine gt s 22 rfl ⟨_, rfl, rfl⟩ rfl hC (fun w hC => y_neq rfl rfl) fun a s => ?_
   refine gv s 23 rfl rfl hC (fun w hC => y_pickFE (v := .bool c1067) rfl rfl (vbs h1154)) fun a s => ?_
   refine gm s 24 rfl rfl rfl hC fun a s => ?_
   have s := s.fix 41 (.bool false) rfl (vb h1179)
   refine gn 2 [25, 26] [] s hC rfl rfl rfl fun a s => ?_
   refine gt s 27 rfl ⟨_, rfl, rfl⟩ rfl hC (fun w hC => y_indexAt Tryz.runUnderlying60 Tryz.sizeOf64 rfl rfl h1189.1 h1189.2 h1190) fun a s => ?_
   refine gt s 28 rfl ⟨_, rfl, rfl⟩ rfl hC (fun w hC => y_fieldAddr (o' := q1192 + 2) Tryz.runUnderlying64 rfl Tryz.sizeOf54 rfl rfl rfl) fun a s => ?_
   refine gt s 29 rfl ⟨_, rfl, rfl⟩ rfl hC (fun w hC => y_loadEA (j := 2) (hC.ceAt 5 rfl) rfl Tryz.isAgg54 Tryz.sizeOf54 rfl rfl) fun a s => ?_
   refine gn 2 [30, 31] [] s hC rfl rfl rfl fun a s => ?_
   refine gt s 32 rfl ⟨_, rfl, rfl⟩ rfl hC (fun w hC => y_indexAt Tryz.runUnderlying60 Tryz.sizeOf64 rfl rfl h1201.1 h1201.2 h1202) fun a s => ?_
   refine gt s 33 rfl ⟨_, rfl, rfl⟩ rfl hC (fun w hC => y_fieldAddr (o' := q1204 + 2) Tryz.runUnderlying64 rfl Tryz.sizeOf54 rfl rfl rfl) fun a s => ?_
   refine gt s 34 rfl ⟨_, rfl, rfl⟩ rfl hC (fun w hC => y_loadEA (j := 2) (hC.ceAt 4 rfl) rfl Tryz.isAgg54 Tryz.sizeOf54 rfl rfl) fun a s => ?_
   refine gt s 35 rfl ⟨_, rfl, rfl⟩ rfl hC (fun w hC => y_neqA (by kernel_rfl) rfl rfl (eqv_struct Tryz.runUnderlying54 (by kernel_rfl) (EqF.cons1 rfl Tryz.isAgg3 rfl rfl (eqv_int Tryz.runUnderlying3) (EqF.cons1 rfl Tryz.isAgg3 rfl rfl (eqv_int Tryz.runUnderlying3) EqF.nil)))) fun a s => ?_
   refine gv s 36 rfl rfl hC (fun w hC => y_pickFE (v := .bool c1092) rfl rfl (vbs h1185)) fun a s => ?_
   refine gm s 37 rfl rfl rfl hC fun a s => ?_
   have s := s.fix 54 (.bool false) rfl (vb h1210)
   refine gn 2 [38, 39] [] s hC rfl rfl rfl fun a s => ?_
   refine gt s 40 rfl ⟨_, rfl, rfl⟩ rfl hC (fun w hC => y_indexAt Tryz.runUnderlying60 Tryz.sizeOf64 rfl rfl h1218.1 h1218.2 h1219) fun a s => ?_
   refine gt s 41 rfl ⟨_, rfl, rfl⟩ rfl hC (fun w hC => y_fieldAddr (o' := q1221 + 4) Tryz.runUnderlying64 rfl Tryz.sizeOf3 rfl rfl rfl) fun a s => ?_
   refine gt s 42 rfl ⟨_, rfl, rfl⟩ rfl hC (fun w hC => y_loadE1 (j := 4) (hC.ceAt 3 rfl) rfl Tryz.isAgg3 rfl) fun a s => ?_
   refine gn 2 [43, 44] [] s hC rfl rfl rfl fun a s => ?_
   refine gt s 45 rfl ⟨_, rfl, rfl⟩ rfl hC (fun w hC => y_indexAt Tryz.runUnderlying60 Tryz.sizeOf64 rfl rfl h1230.1 h1230.2 h1231) fun a s => ?_
   refine gt s 46 rfl ⟨_, rfl, rfl⟩ rfl hC (fun w hC => y_fieldAddr (o' := q1233 + 4) Tryz.runUnderlying64 rfl Tryz.sizeOf3 rfl rfl rfl) fun a s => ?_
   refine gt s 47 rfl ⟨_, rfl, rfl⟩ rfl hC (fun w hC => y_loadE1 (j := 4) (hC.ceAt 2 rfl) rfl Tryz.isAgg3 rfl) fun a s => ?_
   refine gt s 48 rfl ⟨_, rfl, rfl⟩ rfl hC (fun w hC => y_neq rfl rfl) fun a s => ?_
   refine gv s 49 rfl rfl hC (fun w hC => y_pickFE (v := .bool c1117) rfl rfl (vbs h1214)) fun a s => ?_
   refine gm s 50 rfl rfl rfl hC fun a s => ?_
   have s := s.fix 67 (.bool false) rfl (vb h1239)
   refine gn 2 [51, 52] [] s hC rfl rfl rfl fun a s => ?_
   refine gt s 53 rfl ⟨_, rfl, rfl⟩ rfl hC (fun w hC => y_indexAt Tryz.runUnderlying60 Tryz.sizeOf64 rfl rfl h1245.1 h1245.2 h1246) fun a s => ?_
   refine gt s 54 rfl ⟨_, rfl, rfl⟩ rfl hC (fun w hC => y_fieldAddr (o' := q1248 + 5) Tryz.runUnderlying64 rfl Tryz.sizeOf22 rfl rfl rfl) fun a s => ?_
   refine gt s 55 rfl ⟨_, rfl, rfl⟩ rfl hC (fun w hC => y_loadE1 (j := 5) (hC.ceAt 1 rfl) rfl Tryz.isAgg22 rfl) fun a s => ?_
   refine gn 2 [56, 57] [] s hC rfl rfl rfl fun a s => ?_
   refine gt s 58 rfl ⟨_, rfl, rfl⟩ rfl hC (fun w hC => y_indexAt Tryz.runUnderlying60 Tryz.sizeOf64 rfl rfl h1257.1 h1257.2 h1258) fun a s => ?_
   refine gt s 59 rfl ⟨_, rfl, rfl⟩ rfl hC (fun w hC => y_fieldAddr (o' := q1260 + 5) Tryz.runUnderlying64 rfl Tryz.sizeOf22 rfl rfl rfl) fun a s => ?_
   refine gt s 60 rfl ⟨_, rfl, rfl⟩ rfl hC (fun w hC => y_loadE1 (j := 5) (hC.ceAt 0 rfl) rfl Tryz.isAgg22 rfl) fun a s => ?_
   refine ho 61 rfl ?_
   refine st_callR s (ref05_Same_ok h1266 d.bdom (d.bE 3 rfl) (d.bE 1 rfl)) (do_call Tryz.call71 rfl) ⟨_, rfl, rfl⟩ rfl rfl ?_
   rintro v1271 Sv1268 w a h1269 rfl s
   have d := d.callB h1269
   refine h_n [] [0, 2, 4, 6, 8, 10, 12, 14, 16, 18] d rfl rfl fun hC => ?_
   refine gt s 62 rfl ⟨_, rfl, rfl⟩ rfl hC (fun w hC => y_not rfl) fun a s => ?_
   refine gv s 63 rfl rfl hC (fun w hC => y_pickFE (v := .bool c1144) rfl rfl (vbs h1241)) fun a s => ?_
   refine h_done (by kernel_rfl) ?_
   exact ⟨Sv723, (s.wk rfl), (d.ft [] [20, 21] (by decide) rfl rfl)⟩
  rintro a w ⟨Sv1145, s, d⟩
  refine then_normal (cd s u rfl (fun u => ?_) fun u => ?_)
  ·refine sz 1 [] s d rfl rfl fun a s => ?_
   have u := oi u
   subst u
   have h1275 := hd865 _ rfl
   subst h1275
   exact wp_ret (blk_ret (then_ret (then_ret (blk_ret (then_ret (ret1 s rfl (rv_tmp rfl) (d.ret rfl)))))))
  refine wp_skip (blk_normal (then_normal (wp_region_lit (rn 2 [] s d rfl rfl fun a s => ?_))))
  obtain ⟨i1277, h1276, u⟩ := bind_t u
  refine sv s (y_assignI rfl h1276) rfl fun a s => ?_
  exact nl ⟨_, (Option.some.inj u).symm, Sv1145, (s.wk rfl), (d.ft [] [0, 1] (by decide) rfl rfl)⟩
 obtain ⟨rv1278, u, h1279⟩ := map_t u
 have h1279 := (hd865 _ h1279.symm).symm
 subst h1279
 refine wp_exit (then_exit (then_exit (blk_exit (then_normal (sz 1 [] s d rfl rfl fun a s => ?_)))))
 have u := oi u
 subst u
 exact wp_ret (ret1 s rfl (rv_tmp rfl) (d.ret rfl))
theorem ref14_At_ok {w0 S0 p2 k3 r1 i5 r} (u : ref14_At r1 i5 = some r) (hS : Dm S0 w0) (h4 : (SlA p2 r1.Samples.length k3 r1.Samples).p S0 w0) : Calls Tryz.prog 23 #[V56 r1 p2 k3, .int .i64 i5] w0 (Ret ([]) w0 S0 (rate_Time_rd w0 ([]) r)) := by
 refine en 18 Tryz.func23 rfl hS rfl rfl rfl fun a s d => ?_
 have d := d.addE h4
 delta ref14_At at u
 refine sr (w_box (cs := (C56 r1 p2 k3)) s d rfl rfl rfl trivial ?_)
 intro b6 a w s d
 refine rz 2 [] s d rfl rfl fun a s => ?_
 refine wp_seq (sn 1 [0] s d rfl rfl fun a s => ?_)
 obtain ⟨rv8, h7, u⟩ := bind_t u
 refine st_callR s (ref14_Valid_ok h7 d.bdom (d.bE 0 rfl)) (do_call Tryz.call60 rfl) trivial rfl rfl ?_
 rintro v12 Sv9 w a h10 rfl s
 have d := d.callB h10
 refine rz 1 [] s d rfl rfl fun a s => ?_
 refine cd s u rfl (fun u => ?_) fun u => ?_
 ·refine sz 2 [] s d rfl rfl fun a s => ?_
  have u := oi u
  subst u
  exact wp_ret (then_ret (ret2 s rfl (rv_tmp rfl) (rv_tmp rfl) (d.ret rfl)))
 refine wp_skip (then_normal (wp_seq (sn 4 [0] s d rfl rfl fun a s => ?_)))
 obtain ⟨rv17, h16, u⟩ := bind_t u
 refine st_callR s (ref01_In_ok h16 d.bdom) (do_call Tryz.call61 rfl) trivial rfl rfl ?_
 rintro v21 Sv18 w a h19 rfl s
 have d := d.callB h19
 refine rz 1 [] s d rfl rfl fun a s => ?_
 refine cd s u rfl (fun u => ?_) fun u => ?_
 ·refine sz 2 [] s d rfl rfl fun a s => ?_
  have u := oi u
  subst u
  exact wp_ret (then_ret (ret2 s rfl (rv_tmp rfl) (rv_tmp rfl) (d.ret rfl)))
 refine wp_skip (then_normal (sn 2 [0] s d rfl rfl fun a s => ?_))
 obtain ⟨rv26, h25, u⟩ := bind_t u
 refine st_callR s (ref14_Time_ok h25 d.bdom (d.bE 0 rfl)) (do_call Tryz.call62 rfl) trivial rfl rfl ?_
 rintro v30 Sv27 w a h28 rfl s
 have d := d.callB h28
 refine rz 2 [] s d rfl rfl fun a s => ?_
 have u := oi u
 subst u
 exact wp_ret (ret2 s rfl (rv_tmp rfl) (rv_tmp rfl) (d.ret rfl))
theorem law16_ContinuityWindows_fn1_ok {w0 S0 p2 k3 l1 r} (u : law16_ContinuityWindows_fn1 l1 = some r) (hS : Dm S0 w0) (h4 : (SlA p2 l1.length k3 l1).p S0 w0) : Calls Tryz.prog 34 #[.slice p2 l1.length k3] w0 (Ret ([]) w0 S0 (slices_IndexFunc_Lapi_Record_api_Record_rd w0 ([]) r)) := by
 refine en 19 Tryz.func34 rfl hS rfl rfl rfl fun a s d => ?_
 have d := d.addE h4
 delta law16_ContinuityWindows_fn1 at u
 refine sz 1 [] s d rfl rfl fun a s => ?_
 refine sz 1 [] s d rfl rfl fun a s => ?_
 refine wp_seq (sz 3 [] s d rfl rfl fun a s => ?_)
 obtain ⟨e74, h119, u⟩ := bind_t u
 refine wp_join (fun a w => ∃ Sv75, Sl 19 [(3, .int .i64 e74)] a ∧ Wd ⟨w0, S0, []⟩ Sv75 [] [] w) ?_ ?_
 ·refine wp_block (wp_while (fun sv5 a w => ∃ Sv49, Sl 19 [(3, .int .i64 sv5.1), (6, .slice p2 l1.length k3), (7, .int .i64 (l1.length : Int)), (8, .int .i64 sv5.2)] a ∧ Wd ⟨w0, S0, []⟩ Sv49 [] [SlA p2 l1.length k3 l1] w) (0, 0) h119 ⟨S0, (s.wk rfl), (d.ft [] [0] (by decide) rfl rfl)⟩ ?_)
  clear h119
  repeat clear u
  rintro sv5 a w tv72 ⟨Sv49, s, d⟩ u hd71
  delta law16_ContinuityWindows_fn1_l1 at u
  refine sz 1 [] s d rfl rfl fun a s => ?_
  refine wp_seq (cd s u rfl (fun u => ?_) fun u => ?_)
  ·refine wp_skip (then_normal (wp_seq (wp_block (sr ?_))))
   obtain ⟨x100, h98, u⟩ := bind_t u
   obtain ⟨b106, o107, q104, c105, h108, h101, h102, h103, h99⟩ := d.elemV 0 rfl h98
   have hsv109 := s
   have hwv110 := d
   subst h108
   have s := hsv109
   have d := hwv110
   obtain ⟨_, _, _, _, _, _, rfl, rfl, rfl, rfl, rfl, rfl, ⟨p111, n112, k113, rfl, h114⟩⟩ := h99
   obtain rfl := h114.1
   have d := (d.addE (e := SlA p111 _ k113 x100.Samples) h114).addE h103
   refine sv s (y_indexAt Tryz.runUnderlying60 Tryz.sizeOf64 rfl rfl h101.1 h101.2 h102) rfl fun a s => ?_
   refine sv s (y_loadEA (j := 0) (d.ceAt 0 rfl) rfl Tryz.isAgg64 Tryz.sizeOf64 rfl rfl) rfl fun a s => ?_
   refine w_alloc (cs := Z9) s d Tryz.zeroValue64 rfl rfl trivial ?_
   intro b115 a w s d
   refine w_store (m := 6) (cs' := (C64 x100 p111 k113)) s d 0 rfl rfl rfl Tryz.sizeOf64 rfl rfl rfl rfl trivial ?_
   intro a w s d
   refine nl (wp_region_lit (rn 5 [0] s d rfl rfl fun a s => ?_))
   obtain ⟨k117, h116, u⟩ := bind_t u
   refine sv s (y_assignI rfl h116) rfl fun a s => ?_
   refine wpList_nil ?_
   refine blk_normal (then_normal (wp_region_lit (rz 2 [] s d rfl rfl fun a s => ?_)))
   exact ⟨_, (Option.some.inj u).symm, Sv49, (s.wk rfl), (d.ft [] [2] (by decide) rfl rfl)⟩
  refine wp_exit (then_exit (then_exit (blk_exit ?_)))
  have u := oi u
  subst u
  have h118 := hd71 _ rfl
  subst h118
  exact then_normal ⟨Sv49, (s.wk rfl), (d.ft [] [] (by decide) rfl rfl)⟩
 rintro a w ⟨Sv75, s, d⟩
 refine then_normal (sz 2 [] s d rfl rfl fun a s => ?_)
 have u := oi u
 subst u
 exact wp_ret (ret1 s rfl (rv_tmp rfl) (d.ret rfl))
theorem law16_ContinuityWindows_ok {w0 S0 p2 k3 t1 n5 r} (u : law16_ContinuityWindows t1 n5 = some r) (hS : Dm S0 w0) (h4 : (SlA p2 t1.length k3 t1).p S0 w0) : Calls Tryz.prog 7 #[.slice p2 t1.length k3, .int .u8 n5] w0 (Ret ([]) w0 S0 (made_Light_rd w0 ([]) r)) := by
 refine en 185 Tryz.func7 rfl hS rfl rfl rfl fun a s d => ?_
 have d := d.addE h4
 delta law16_ContinuityWindows at u
 refine sz 1 [] s d rfl rfl fun a s => ?_
 refine wp_seq (sn 1 [] s d rfl rfl fun a s => ?_)
 obtain ⟨rv7, h6, u⟩ := bind_t u
 refine st_callR s (made_Light_ok h6 d.bdom (d.bE 0 rfl)) (do_call Tryz.call9 rfl) trivial rfl rfl ?_
 rintro v11 Sv8 w a h9 rfl s
 have d := d.callB h9
 refine rz 1 [] s d rfl rfl fun a s => ?_
 refine cd s u rfl (fun u => ?_) fun u => ?_
 ·refine sr ?_
  obtain ⟨rv23, h22, u⟩ := bind_t u
  refine st_callR s (law16_sane_ok h22 d.bdom) (do_call Tryz.call10 rfl) trivial rfl rfl ?_
  rintro v27 Sv24 w a h25 rfl s
  have d := d.callB h25
  refine rz 1 [] s d rfl rfl fun a s => ?_
  have u := oi u
  subst u
  exact wp_ret (then_ret (ret1 s rfl (rv_tmp rfl) (d.ret rfl)))
 refine wp_skip (then_normal (sn 1 [] s d rfl rfl fun a s => ?_))
 obtain ⟨rv30, h29, u⟩ := bind_t u
 refine st_callR s (made_Roll_ok h29 d.dom (d.envAt 0 rfl)) (do_call Tryz.call11 rfl) trivial rfl rfl ?_
 rintro v38 Sv35 w a h36 ⟨b31, p32, k33, rfl, h39, h34⟩ s
 have d := (d.callN h36 h39).addE (e := SlA p32 rv30.L.length k33 rv30.L) h34
 refine rz 1 [] s d rfl rfl fun a s => ?_
 refine sn 1 [] s d rfl rfl fun a s => ?_
 obtain ⟨rv41, h40, u⟩ := bind_t u
 refine st_callR s (made_Dice_Grid_ok h40 d.dom (d.ins [0] (by decide) rfl) (d.envAt 0 rfl)) (do_call Tryz.call29 rfl) trivial rfl rfl ?_
 rintro v55 Sv52 w a h53 ⟨p42, k43, p45, k46, c48, p49, k50, rfl, h56, h44, h47, h51⟩ s
 have d := ((d.callO [0] [] (by decide) rfl h53 h56).addE (e := SlA p42 rv41.1.Samples.length k43 rv41.1.Samples) h44).addE (e := RowA c48 rv41.2.1) h47
 have d := d.addE (e := SlA p49 rv41.2.2.L.length k50 rv41.2.2.L) h51
 refine rn 3 [] s d rfl rfl fun a s => ?_
 refine w_alloc (cs := Z0) s d Tryz.zeroValue56 rfl rfl trivial ?_
 intro b57 a w s d
 refine w_store (m := 12) (cs' := (C56 rv41.1 p42 k43)) s d 0 rfl rfl rfl Tryz.sizeOf56 rfl rfl rfl rfl trivial ?_
 intro a w s d
 refine rz 1 [] s d rfl rfl fun a s => ?_
 refine sn 1 [] s d rfl rfl fun a s => ?_
 obtain ⟨rv59, h58, u⟩ := bind_t u
 obtain ⟨Sv64, d⟩ := w_share (α := Record) d 1 rfl 1 rfl
 refine st_callR s (continuity_Segments_ok h58 d.dom (d.envAt 0 rfl)) (do_call Tryz.call25 rfl) trivial rfl rfl ?_
 rintro v68 Sv65 w a h66 ⟨p60, k61, c63, rfl, h69, h62⟩ s
 have d := (d.callN h66 h69).addE (e := RowA c63 rv59.1) h62
 refine rz 5 [] s d rfl rfl fun a s => ?_
 refine sn 1 [1] s d rfl rfl fun a s => ?_
 obtain ⟨rv71, h70, u⟩ := bind_t u
 refine st_callR s (ref14_Span_ok h70 d.bdom (d.bE 4 rfl)) (do_call Tryz.call31 rfl) trivial rfl rfl ?_
 rintro v75 Sv72 w a h73 rfl s
 have d := d.callB h73
 refine rn 3 [] s d rfl rfl fun a s => ?_
 refine w_alloc (cs := [.int .i64 0, .int .i64 0]) s d Tryz.zeroValue71 rfl rfl trivial ?_
 intro b77 a w s d
 refine w_store (m := 2) (cs' := (C71 rv71.1)) s d 0 rfl rfl rfl Tryz.sizeOf71 rfl rfl rfl rfl trivial ?_
 intro a w s d
 refine rz 1 [] s d rfl rfl fun a s => ?_
 refine wp_seq ?_
 obtain ⟨rv79, h78, u⟩ := bind_t u
 obtain ⟨rv84, h83, u⟩ := bind_t u
 obtain ⟨fromv89, h88, u⟩ := bind_t u
 obtain ⟨to91, h90, u⟩ := bind_t u
 refine wp_only (fun a w => ∃ Sv92, Sl 185 [(1, .int .u8 n5), (6, .pointer (some ⟨b57, 0, none⟩)), (8, .slice p60 rv59.1.length k61), (9, .int .i64 rv59.2), (12, .int .i64 fromv89), (13, .int .i64 to91)] a ∧ Wd ⟨w0, S0, []⟩ Sv92 [.box b57 (C56 rv41.1 p42 k43) 56, .row p60 rv59.1.length k61 c63 64 6] [SlA p42 rv41.1.Samples.length k43 rv41.1.Samples, RowA c63 rv59.1] w) ?_ ?_
 ·refine h_c [0, 1, 2] [] d rfl rfl (by kernel_rfl) rfl fun hC d => ?_
  refine gn 6 [0, 1, 2, 6, 7, 8] [0, 0] s hC rfl rfl rfl fun a s => ?_
  refine ho 3 rfl ?_
  refine st_callR s (made_Dice_Next_ok h78 d.dom (d.ins [3] (by decide) rfl) (d.envAt 2 rfl)) (do_call Tryz.call30 rfl) trivial rfl rfl ?_
  rintro v96 Sv93 w a h94 ⟨p80, k81, rfl, h97, h82⟩ s
  have d := (d.callO [3] [0, 1, 2] (by decide) rfl h94 h97).addE (e := SlA p80 rv79.2.L.length k81 rv79.2.L) h82
  refine h_n [1, 2, 3] [] d rfl rfl fun hC => ?_
  refine gn 2 [4, 5] [] s hC rfl rfl rfl fun a s => ?_
  refine ho 9 rfl ?_
  refine st_callR s (made_Dice_Next_ok h83 d.dom (d.ins [0] (by decide) rfl) (d.envAt 0 rfl)) (do_call Tryz.call30 rfl) trivial rfl rfl ?_
  rintro v101 Sv98 w a h99 ⟨p85, k86, rfl, h102, h87⟩ s
  have d := (d.callO [0] [1, 2, 3] (by decide) rfl h99 h102).addE (e := SlA p85 rv84.2.L.length k86 rv84.2.L) h87
  refine h_n [1, 2, 3] [] d rfl rfl fun hC => ?_
  refine gn 2 [10, 11] [] s hC rfl rfl rfl fun a s => ?_
  refine gv s 12 rfl rfl hC (fun w hC => y_assignI rfl h88) fun a s => ?_
  refine gv s 13 rfl rfl hC (fun w hC => y_assignI rfl h90) fun a s => ?_
  refine h_done (by kernel_rfl) ?_
  exact ⟨Sv98, (s.wk rfl), (d.ft [3, 2] [6, 2] (by decide) rfl rfl)⟩
 rintro a w ⟨Sv92, s, d⟩
 refine then_normal (wp_seq (sz 3 [] s d rfl rfl fun a s => ?_))
 refine cd s u rfl (fun u => ?_) fun u => ?_
 ·refine sr ?_
  obtain ⟨rv113, h112, u⟩ := bind_t u
  refine st_callR s (law16_sane_ok h112 d.bdom) (do_call Tryz.call10 rfl) trivial rfl rfl ?_
  rintro v117 Sv114 w a h115 rfl s
  have d := d.callB h115
  refine rz 1 [] s d rfl rfl fun a s => ?_
  have u := oi u
  subst u
  exact wp_ret (then_ret (ret1 s rfl (rv_tmp rfl) (d.ret rfl)))
 refine wp_skip (then_normal (sn 2 [] s d rfl rfl fun a s => ?_))
 refine sv s (y_convert Tryz.runUnderlying5 Tryz.runUnderlying3 rfl) rfl fun a s => ?_
 refine rn 5 [] s d rfl rfl fun a s => ?_
 obtain ⟨rem120, h119, u⟩ := bind_t u
 refine sv s (y_remM rfl rfl h119) rfl fun a s => ?_
 refine sv s (y_add rfl rfl) rfl fun a s => ?_
 obtain ⟨mid122, h121, u⟩ := bind_t u
 refine sv s (y_assignI rfl h121) rfl fun a s => ?_
 refine nl (sn 3 [] s d rfl rfl fun a s => ?_)
 obtain ⟨rv124, h123, u⟩ := bind_t u
 obtain ⟨Sv129, d⟩ := w_share (α := Segment) d 1 rfl 1 rfl
 refine st_callR s (continuity_Window_ok h123 d.dom (d.envAt 0 rfl)) (do_call Tryz.call33 rfl) trivial rfl rfl ?_
 rintro v133 Sv130 w a h131 ⟨p125, k126, c128, rfl, h134, h127⟩ s
 have d := (d.callN h131 h134).addE (e := RowA c128 rv124.1) h127
 refine rz 5 [] s d rfl rfl fun a s => ?_
 refine sn 3 [] s d rfl rfl fun a s => ?_
 obtain ⟨rv136, h135, u⟩ := bind_t u
 refine st_callR s (continuity_Window_ok h135 d.dom (d.envAt 1 rfl)) (do_call Tryz.call33 rfl) trivial rfl rfl ?_
 rintro v144 Sv141 w a h142 ⟨p137, k138, c140, rfl, h145, h139⟩ s
 have d := (d.callN h142 h145).addE (e := RowA c140 rv136.1) h139
 refine rz 5 [] s d rfl rfl fun a s => ?_
 refine sn 3 [] s d rfl rfl fun a s => ?_
 obtain ⟨rv147, h146, u⟩ := bind_t u
 refine st_callR s (continuity_Window_ok h146 d.dom (d.envAt 2 rfl)) (do_call Tryz.call33 rfl) trivial rfl rfl ?_
 rintro v155 Sv152 w a h153 ⟨p148, k149, c151, rfl, h156, h150⟩ s
 have d := (d.callN h153 h156).addE (e := RowA c151 rv147.1) h150
 refine rz 5 [] s d rfl rfl fun a s => ?_
 refine sn 3 [] s d rfl rfl fun a s => ?_
 obtain ⟨rv158, h157, u⟩ := bind_t u
 obtain ⟨Sv163, d⟩ := w_share (α := Segment) d 2 rfl 2 rfl
 refine st_callR s (continuity_Window_ok h157 d.dom (d.envAt 0 rfl)) (do_call Tryz.call33 rfl) trivial rfl rfl ?_
 rintro v167 Sv164 w a h165 ⟨p159, k160, c162, rfl, h168, h161⟩ s
 have d := (d.callN h165 h168).addE (e := RowA c162 rv158.1) h161
 refine rz 5 [] s d rfl rfl fun a s => ?_
 refine wp_seq (sn 3 [] s d rfl rfl fun a s => ?_)
 refine rO 3 107 [] s d rfl rfl rfl rfl rfl fun a s => ?_
 refine mv s rfl rfl fun a s => ?_
 refine rO 3 111 [] s d rfl rfl rfl rfl rfl fun a s => ?_
 refine mv s rfl rfl fun a s => ?_
 refine rO 3 115 [] s d rfl rfl rfl rfl rfl fun a s => ?_
 refine mv s rfl rfl fun a s => ?_
 refine rO 3 119 [] s d rfl rfl rfl rfl rfl fun a s => ?_
 refine mv s rfl rfl fun a s => ?_
 obtain ⟨c181, hc181, u⟩ := bind_t u
 refine wpl_join 5 (fun a w => ∃ Sv182, Sl 185 [(6, .pointer (some ⟨b57, 0, none⟩)), (12, .int .i64 fromv89), (13, .int .i64 to91), (14, .int .i64 mid122), (15, .slice p125 rv124.1.length k126), (17, .slice p137 rv136.1.length k138), (19, .slice p148 rv147.1.length k149), (128, .bool c181)] a ∧ Wd ⟨w0, S0, []⟩ Sv182 [.box b57 (C56 rv41.1 p42 k43) 56, .row p137 rv136.1.length k138 c140 64 6, .row p148 rv147.1.length k149 c151 64 6] [SlA p125 rv124.1.length k126 rv124.1, SlA p42 rv41.1.Samples.length k43 rv41.1.Samples, RowA c140 rv136.1, RowA c151 rv147.1] w) ?_ ?_
 ·rcases Bool.eq_false_or_eq_true (((((rv59.2 != 0) || (rv124.2 != 0)) || (rv136.2 != 0)) || (rv147.2 != 0)) || (rv158.2 != 0)) with h180 | h180
  ·have s := s.fix 123 (.bool true) rfl (vb h180)
   have u := ite_t hc181 h180
   refine rn 5 [] s d rfl rfl fun a s => ?_
   refine wpList_nil ?_
   have u := oi u
   subst u
   exact then_normal ⟨Sv164, (s.wk rfl), (d.ft [3, 2, 1] [1, 6, 3, 2] (by decide) rfl rfl)⟩
  have s := s.fix 123 (.bool false) rfl (vb h180)
  have u := ite_f hc181 h180
  refine rn 2 [] s d rfl rfl fun a s => ?_
  obtain ⟨rv184, h183, u⟩ := bind_t u
  refine st_callR s (ref16_SameSegments_ok h183 d.bdom (d.bRow 0 rfl 0 rfl) (d.bRow 2 rfl 3 rfl)) (do_call Tryz.call32 rfl) ⟨_, rfl, rfl⟩ rfl rfl ?_
  rintro v188 Sv185 w a h186 rfl s
  have d := d.callB h186
  refine rn 2 [] s d rfl rfl fun a s => ?_
  refine wpList_nil ?_
  have u := oi u
  subst u
  exact then_normal ⟨Sv164, (s.wk rfl), (d.ft [3, 2, 1] [1, 6, 3, 2] (by decide) rfl rfl)⟩
 rintro a w ⟨Sv182, s, d⟩
 refine nl (cd s u rfl (fun u => ?_) fun u => ?_)
 ·refine sz 1 [] s d rfl rfl fun a s => ?_
  have u := oi u
  subst u
  exact wp_ret (then_ret (ret1 s rfl (rv_tmp rfl) (d.ret rfl)))
 refine wp_skip (then_normal (sz 1 [] s d rfl rfl fun a s => ?_))
 refine sz 1 [] s d rfl rfl fun a s => ?_
 refine wp_seq (sz 4 [0] s d rfl rfl fun a s => ?_)
 obtain ⟨e267, h357, u⟩ := bind_t u
 refine wp_join (fun a w => ∃ Sv268, Sl 185 [(15, .slice p125 rv124.1.length k126), (17, .slice p137 rv136.1.length k138), (19, .slice p148 rv147.1.length k149), (23, .func (.func 34) #[] #[]), (24, .int .i64 e267)] a ∧ Wd ⟨w0, S0, []⟩ Sv268 [.row p137 rv136.1.length k138 c140 64 6, .row p148 rv147.1.length k149 c151 64 6] [SlA p125 rv124.1.length k126 rv124.1, RowA c140 rv136.1, RowA c151 rv147.1] w) ?_ ?_
 ·refine wp_block (wp_while (fun sv192 a w => ∃ Sv240, Sl 185 [(6, .pointer (some ⟨b57, 0, none⟩)), (12, .int .i64 fromv89), (13, .int .i64 to91), (14, .int .i64 mid122), (15, .slice p125 rv124.1.length k126), (17, .slice p137 rv136.1.length k138), (19, .slice p148 rv147.1.length k149), (23, .func (.func 34) #[] #[]), (24, .int .i64 sv192.1), (131, .int .i64 (rv41.1.Samples.length : Int)), (132, .int .i64 sv192.2)] a ∧ Wd ⟨w0, S0, []⟩ Sv240 [.box b57 (C56 rv41.1 p42 k43) 56, .row p137 rv136.1.length k138 c140 64 6, .row p148 rv147.1.length k149 c151 64 6] [SlA p125 rv124.1.length k126 rv124.1, SlA p42 rv41.1.Samples.length k43 rv41.1.Samples, RowA c140 rv136.1, RowA c151 rv147.1] w) (0, 0) h357 ⟨Sv182, (s.wk rfl), (d.ft [0, 1, 2] [0, 1, 2, 3] (by decide) rfl rfl)⟩ ?_)
  clear h357
  repeat clear u
  rintro sv192 a w tv265 ⟨Sv240, s, d⟩ u hd264
  delta law16_ContinuityWindows_l1 at u
  refine sz 1 [] s d rfl rfl fun a s => ?_
  refine wp_seq (cd s u rfl (fun u => ?_) fun u => ?_)
  ·refine wp_skip (then_normal (wp_seq (wp_block (sz 2 [] s d rfl rfl fun a s => ?_))))
   refine sn 2 [0] s d rfl rfl fun a s => ?_
   obtain ⟨rv294, h293, u⟩ := bind_t u
   refine st_callR s (ref14_At_ok h293 d.bdom (d.bE 1 rfl)) (do_call Tryz.call23 rfl) trivial rfl rfl ?_
   rintro v298 Sv295 w a h296 rfl s
   have d := d.callB h296
   refine rz 5 [] s d rfl rfl fun a s => ?_
   refine sn 3 [0] s d rfl rfl fun a s => ?_
   obtain ⟨rv301, h300, u⟩ := bind_t u
   refine st_callR s (ref14_At_ok h300 d.bdom (d.bE 1 rfl)) (do_call Tryz.call23 rfl) trivial rfl rfl ?_
   rintro v305 Sv302 w a h303 rfl s
   have d := d.callB h303
   refine rz 5 [] s d rfl rfl fun a s => ?_
   refine sn 4 [] s d rfl rfl fun a s => ?_
   refine rA 4 151 [] s d rfl rfl rfl rfl rfl fun a s => ?_
   refine mv s rfl rfl fun a s => ?_
   refine rA 4 156 [] s d rfl rfl rfl rfl rfl fun a s => ?_
   refine mv s rfl rfl fun a s => ?_
   refine rA 4 161 [] s d rfl rfl rfl rfl rfl fun a s => ?_
   refine nl (wp_join (fun a w => ∃ (crossing314 : Int) (Sv313 : _), law16_ContinuityWindows_j1 sv192 crossing314 = some tv265 ∧ Sl 185 [(6, .pointer (some ⟨b57, 0, none⟩)), (12, .int .i64 fromv89), (13, .int .i64 to91), (14, .int .i64 mid122), (15, .slice p125 rv124.1.length k126), (17, .slice p137 rv136.1.length k138), (19, .slice p148 rv147.1.length k149), (23, .func (.func 34) #[] #[]), (24, .int .i64 crossing314), (131, .int .i64 (rv41.1.Samples.length : Int)), (132, .int .i64 sv192.2)] a ∧ Wd ⟨w0, S0, []⟩ Sv313 [.box b57 (C56 rv41.1 p42 k43) 56, .row p137 rv136.1.length k138 c140 64 6, .row p148 rv147.1.length k149 c151 64 6] [SlA p125 rv124.1.length k126 rv124.1, SlA p42 rv41.1.Samples.length k43 rv41.1.Samples, RowA c140 rv136.1, RowA c151 rv147.1] w) ?_ ?_)
   ·refine cd s u rfl (fun u => ?_) fun u => ?_
    ·refine wp_region_lit (rn 2 [] s d rfl rfl fun a s => ?_)
     obtain ⟨crossing317, h316, u⟩ := bind_t u
     refine sv s (y_assignI rfl h316) rfl fun a s => ?_
     exact nl ⟨crossing317, Sv240, u, (s.wk rfl), (d.ft [0, 1, 2] [0, 1, 2, 3] (by decide) rfl rfl)⟩
    exact wp_skip (then_normal ⟨sv192.1, Sv240, u, (s.wk rfl), (d.ft [0, 1, 2] [0, 1, 2, 3] (by decide) rfl rfl)⟩)
   rintro a w ⟨crossing314, Sv313, u, s, d⟩
   delta law16_ContinuityWindows_j1 at u
   refine blk_normal (then_normal (wp_region_lit (rz 2 [] s d rfl rfl fun a s => ?_)))
   exact ⟨_, (Option.some.inj u).symm, Sv313, (s.wk rfl), (d.ft [0, 1, 2] [0, 1, 2, 3] (by decide) rfl rfl)⟩
  refine wp_exit (then_exit (then_exit (blk_exit ?_)))
  have u := oi u
  subst u
  have h318 := hd264 _ rfl
  subst h318
  exact then_normal ⟨Sv240, (s.wk rfl), (d.ft [1, 2] [0, 2, 3] (by decide) rfl rfl)⟩
 rintro a w ⟨Sv268, s, d⟩
 refine then_normal (sn 2 [] s d rfl rfl fun a s => ?_)
 obtain ⟨rv320, h319, u⟩ := bind_t u
 refine st_callR s (law16_ContinuityWindows_fn1_ok h319 d.bdom (d.bE 0 rfl)) (do_callT Tryz.call34 rfl rfl) trivial rfl rfl ?_
 rintro v324 Sv321 w a h322 rfl s
 have d := d.callB h322
 refine rn 2 [] s d rfl rfl fun a s => ?_
 obtain ⟨rv327, h326, u⟩ := bind_t u
 refine st_callR s (law16_ContinuityWindows_fn1_ok h326 d.bdom (d.bRow 0 rfl 1 rfl)) (do_callT Tryz.call34 rfl rfl) trivial rfl rfl ?_
 rintro v331 Sv328 w a h329 rfl s
 have d := d.callB h329
 refine rn 2 [] s d rfl rfl fun a s => ?_
 obtain ⟨rv334, h333, u⟩ := bind_t u
 refine st_callR s (law16_ContinuityWindows_fn1_ok h333 d.bdom (d.bRow 1 rfl 2 rfl)) (do_callT Tryz.call34 rfl rfl) trivial rfl rfl ?_
 rintro v338 Sv335 w a h336 rfl s
 have d := d.callB h336
 refine rn 5 [] s d rfl rfl fun a s => ?_
 obtain ⟨c348, hc348, u⟩ := bind_t u
 refine wpl_join 2 (fun a w => ∃ Sv349, Sl 185 [(184, .bool c348)] a ∧ Wd ⟨w0, S0, []⟩ Sv349 [] [] w) ?_ ?_
 ·rcases Bool.eq_false_or_eq_true (rv320 == (w64 ((w64 (rv327 + rv334)) + e267))) with h347 | h347
  ·have s := s.fix 182 (.bool true) rfl (vb h347)
   have u := ite_t hc348 h347
   obtain ⟨rv351, h350, u⟩ := bind_t u
   refine st_callR s (law16_sane_ok h350 d.bdom) (do_call Tryz.call10 rfl) ⟨_, rfl, rfl⟩ rfl rfl ?_
   rintro v355 Sv352 w a h353 rfl s
   have d := d.callB h353
   refine sv s (y_pickT rfl rfl) rfl fun a s => ?_
   refine wpList_nil ?_
   have u := oi u
   subst u
   exact then_normal ⟨Sv268, (s.wk rfl), (d.ft [] [] (by decide) rfl rfl)⟩
  have s := s.fix 182 (.bool false) rfl (vb h347)
  have u := ite_f hc348 h347
  refine rn 2 [] s d rfl rfl fun a s => ?_
  refine wpList_nil ?_
  have u := oi u
  subst u
  exact then_normal ⟨Sv268, (s.wk rfl), (d.ft [] [] (by decide) rfl rfl)⟩
 rintro a w ⟨Sv349, s, d⟩
 refine rz 1 [] s d rfl rfl fun a s => ?_
 have u := oi u
 subst u
 exact wp_ret (ret1 s rfl (rv_tmp rfl) (d.ret rfl))
end Go.Proofs.YtdcafiefjakfeaaGreat.Wk

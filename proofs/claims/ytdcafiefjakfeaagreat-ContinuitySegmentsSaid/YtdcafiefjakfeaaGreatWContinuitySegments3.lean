/- The walks of ContinuitySegments, part 3: each Go function computes what its plain program computes. Printed by a program of ours. -/
import Derived.Test.YtdcafiefjakfeaaGreatProg
import Derived.Test.YtdcafiefjakfeaaGreatDat
import Derived.Test.YtdcafiefjakfeaaGreatSh
import Derived.Test.YtdcafiefjakfeaaGreatLa1
import Derived.KernelRfl
import Derived.Test.YtdcafiefjakfeaaGreatLb1
import Derived.Shelf.SlLaysF0
import Derived.Shelf.SlLaysM
import Derived.Test.YtdcafiefjakfeaaGreatWContinuitySegments2
namespace Go.Proofs.YtdcafiefjakfeaaGreat.Wk
open Go Go.RowKit Go.Proofs Go.Proofs.YtdcafiefjakfeaaGreat.Sh
set_option linter.unusedVariables false
set_option linter.unusedSimpArgs false
set_option maxHeartbeats 4000000
set_option maxRecDepth 100000
theorem ref03_Valid_ok {w0 S0 s1 r} (u : ref03_Valid s1 = some r) (hS : Dm S0 w0) : Calls Tryz.prog 97 #[V52 s1] w0 (Ret ([]) w0 S0 (made_Light_rd w0 ([]) r)) := by
 refine en 26 Tryz.func97 rfl hS rfl rfl rfl fun a s d => ?_
 delta ref03_Valid at u
 refine sr (w_box (cs := (C52 s1)) s d rfl rfl rfl trivial ?_)
 intro b2 a w s d
 refine rz 1 [] s d rfl rfl fun a s => ?_
 refine sn 2 [0] s d rfl rfl fun a s => ?_
 obtain ⟨rv4, h3, u⟩ := bind_t u
 refine st_callR s (ref03_code_ok h3 d.bdom) (do_call Tryz.call137 rfl) trivial rfl rfl ?_
 rintro v8 Sv5 w a h6 rfl s
 have d := d.callB h6
 refine mv s rfl rfl fun a s => ?_
 obtain ⟨c18, hc18, u⟩ := bind_t u
 refine wpl_join 4 (fun a w => ∃ Sv19, Sl 26 [(1, .pointer (some ⟨b2, 0, none⟩)), (10, .bool c18)] a ∧ Wd ⟨w0, S0, []⟩ Sv19 [.box b2 (C52 s1) 52] [] w) ?_ ?_
 ·rcases Bool.eq_false_or_eq_true rv4 with h17 | h17
  ·have s := s.fix 6 (.bool true) rfl (vb h17)
   have u := ite_t hc18 h17
   refine rn 2 [0] s d rfl rfl fun a s => ?_
   obtain ⟨rv21, h20, u⟩ := bind_t u
   refine st_callR s (ref03_code_ok h20 d.bdom) (do_call Tryz.call137 rfl) ⟨_, rfl, rfl⟩ rfl rfl ?_
   rintro v25 Sv22 w a h23 rfl s
   have d := d.callB h23
   refine sv s (y_pickT rfl rfl) rfl fun a s => ?_
   refine wpList_nil ?_
   have u := oi u
   subst u
   exact then_normal ⟨S0, (s.wk rfl), (d.ft [0] [] (by decide) rfl rfl)⟩
  have s := s.fix 6 (.bool false) rfl (vb h17)
  have u := ite_f hc18 h17
  refine rn 4 [] s d rfl rfl fun a s => ?_
  refine wpList_nil ?_
  have u := oi u
  subst u
  exact then_normal ⟨S0, (s.wk rfl), (d.ft [0] [] (by decide) rfl rfl)⟩
 rintro a w ⟨Sv19, s, d⟩
 refine mv s rfl rfl fun a s => ?_
 obtain ⟨c45, hc45, u⟩ := bind_t u
 refine wpl_join 9 (fun a w => ∃ Sv46, Sl 26 [(1, .pointer (some ⟨b2, 0, none⟩)), (20, .bool c45)] a ∧ Wd ⟨w0, S0, []⟩ Sv46 [.box b2 (C52 s1) 52] [] w) ?_ ?_
 ·rcases Bool.eq_false_or_eq_true c18 with h44 | h44
  ·have s := s.fix 11 (.bool true) rfl (vb h44)
   have u := ite_t hc45 h44
   refine rn 2 [0] s d rfl rfl fun a s => ?_
   refine st_val s (y_eqlS rfl rfl) ⟨_, rfl, rfl⟩ rfl rfl fun a s => ?_
   refine st_val s (y_move rfl) ⟨_, rfl, rfl⟩ rfl rfl fun a s => ?_
   obtain ⟨c55, hc55, u⟩ := bind_t u
   refine wpl_join 4 (fun a w => ∃ Sv56, Sl 26 [(1, .pointer (some ⟨b2, 0, none⟩)), (11, .bool true), (19, .bool c55)] a ∧ Wd ⟨w0, S0, []⟩ Sv56 [.box b2 (C52 s1) 52] [] w) ?_ ?_
   ·rcases Bool.eq_false_or_eq_true (s1.Location.toList == (⟨#[]⟩ : ByteArray).toList) with h54 | h54
    ·have s := s.fix 15 (.bool true) rfl (vb h54)
     have u := ite_t hc55 h54
     refine rn 4 [] s d rfl rfl fun a s => ?_
     refine wpList_nil ?_
     have u := oi u
     subst u
     exact then_normal ⟨Sv19, (s.wk rfl), (d.ft [0] [] (by decide) rfl rfl)⟩
    have s := s.fix 15 (.bool false) rfl (vb h54)
    have u := ite_f hc55 h54
    refine rn 2 [0] s d rfl rfl fun a s => ?_
    obtain ⟨rv58, h57, u⟩ := bind_t u
    refine st_callR s (ref03_code_ok h57 d.bdom) (do_call Tryz.call137 rfl) ⟨_, rfl, rfl⟩ rfl rfl ?_
    rintro v62 Sv59 w a h60 rfl s
    have d := d.callB h60
    refine st_val s (y_pickF rfl rfl) ⟨_, rfl, rfl⟩ rfl rfl fun a s => ?_
    refine wpList_nil ?_
    have u := oi u
    subst u
    exact then_normal ⟨Sv19, (s.wk rfl), (d.ft [0] [] (by decide) rfl rfl)⟩
   rintro a w ⟨Sv56, s, d⟩
   refine sv s (y_pickT rfl rfl) rfl fun a s => ?_
   refine wpList_nil ?_
   have u := oi u
   subst u
   exact then_normal ⟨Sv56, (s.wk rfl), (d.ft [0] [] (by decide) rfl rfl)⟩
  have s := s.fix 11 (.bool false) rfl (vb h44)
  have u := ite_f hc45 h44
  refine rn 9 [] s d rfl rfl fun a s => ?_
  refine wpList_nil ?_
  have u := oi u
  subst u
  exact then_normal ⟨Sv19, (s.wk rfl), (d.ft [0] [] (by decide) rfl rfl)⟩
 rintro a w ⟨Sv46, s, d⟩
 refine mv s rfl rfl fun a s => ?_
 obtain ⟨c72, hc72, u⟩ := bind_t u
 refine wpl_join 4 (fun a w => ∃ Sv73, Sl 26 [(25, .bool c72)] a ∧ Wd ⟨w0, S0, []⟩ Sv73 [] [] w) ?_ ?_
 ·rcases Bool.eq_false_or_eq_true c45 with h71 | h71
  ·have s := s.fix 21 (.bool true) rfl (vb h71)
   have u := ite_t hc72 h71
   refine rn 2 [0] s d rfl rfl fun a s => ?_
   obtain ⟨rv75, h74, u⟩ := bind_t u
   refine st_callR s (ref03_code_ok h74 d.bdom) (do_call Tryz.call137 rfl) ⟨_, rfl, rfl⟩ rfl rfl ?_
   rintro v79 Sv76 w a h77 rfl s
   have d := d.callB h77
   refine sv s (y_pickT rfl rfl) rfl fun a s => ?_
   refine wpList_nil ?_
   have u := oi u
   subst u
   exact then_normal ⟨Sv46, (s.wk rfl), (d.ft [] [] (by decide) rfl rfl)⟩
  have s := s.fix 21 (.bool false) rfl (vb h71)
  have u := ite_f hc72 h71
  refine rn 4 [] s d rfl rfl fun a s => ?_
  refine wpList_nil ?_
  have u := oi u
  subst u
  exact then_normal ⟨Sv46, (s.wk rfl), (d.ft [] [] (by decide) rfl rfl)⟩
 rintro a w ⟨Sv73, s, d⟩
 refine rz 1 [] s d rfl rfl fun a s => ?_
 have u := oi u
 subst u
 exact wp_ret (ret1 s rfl (rv_tmp rfl) (d.ret rfl))
theorem ref02_Valid_ok {w0 S0 r1 r} (u : ref02_Valid r1 = some r) (hS : Dm S0 w0) : Calls Tryz.prog 70 #[V54 r1] w0 (Ret ([]) w0 S0 (made_Light_rd w0 ([]) r)) := by
 refine en 19 Tryz.func70 rfl hS rfl rfl rfl fun a s d => ?_
 delta ref02_Valid at u
 refine sr (w_box (cs := (C54 r1)) s d rfl rfl rfl trivial ?_)
 intro b2 a w s d
 refine rz 1 [] s d rfl rfl fun a s => ?_
 refine sn 2 [0] s d rfl rfl fun a s => ?_
 obtain ⟨rv4, h3, u⟩ := bind_t u
 refine st_callR s (ref01_In_ok h3 d.bdom) (do_call Tryz.call61 rfl) trivial rfl rfl ?_
 rintro v8 Sv5 w a h6 rfl s
 have d := d.callB h6
 refine mv s rfl rfl fun a s => ?_
 obtain ⟨c18, hc18, u⟩ := bind_t u
 refine wpl_join 4 (fun a w => ∃ Sv19, Sl 19 [(1, .pointer (some ⟨b2, 0, none⟩)), (10, .bool c18)] a ∧ Wd ⟨w0, S0, []⟩ Sv19 [.box b2 (C54 r1) 54] [] w) ?_ ?_
 ·rcases Bool.eq_false_or_eq_true rv4 with h17 | h17
  ·have s := s.fix 6 (.bool true) rfl (vb h17)
   have u := ite_t hc18 h17
   refine rn 2 [0] s d rfl rfl fun a s => ?_
   obtain ⟨rv21, h20, u⟩ := bind_t u
   refine st_callR s (ref01_In_ok h20 d.bdom) (do_call Tryz.call61 rfl) ⟨_, rfl, rfl⟩ rfl rfl ?_
   rintro v25 Sv22 w a h23 rfl s
   have d := d.callB h23
   refine sv s (y_pickT rfl rfl) rfl fun a s => ?_
   refine wpList_nil ?_
   have u := oi u
   subst u
   exact then_normal ⟨S0, (s.wk rfl), (d.ft [0] [] (by decide) rfl rfl)⟩
  have s := s.fix 6 (.bool false) rfl (vb h17)
  have u := ite_f hc18 h17
  refine rn 4 [] s d rfl rfl fun a s => ?_
  refine wpList_nil ?_
  have u := oi u
  subst u
  exact then_normal ⟨S0, (s.wk rfl), (d.ft [0] [] (by decide) rfl rfl)⟩
 rintro a w ⟨Sv19, s, d⟩
 refine mv s rfl rfl fun a s => ?_
 obtain ⟨c35, hc35, u⟩ := bind_t u
 refine wpl_join 7 (fun a w => ∃ Sv36, Sl 19 [(18, .bool c35)] a ∧ Wd ⟨w0, S0, []⟩ Sv36 [] [] w) ?_ ?_
 ·rcases Bool.eq_false_or_eq_true c18 with h34 | h34
  ·have s := s.fix 11 (.bool true) rfl (vb h34)
   have u := ite_t hc35 h34
   refine rn 4 [0, 0] s d rfl rfl fun a s => ?_
   obtain ⟨rv38, h37, u⟩ := bind_t u
   refine st_callR s (ref02_gcd_ok h37 d.bdom) (do_call Tryz.call103 rfl) ⟨_, rfl, rfl⟩ rfl rfl ?_
   rintro v42 Sv39 w a h40 rfl s
   have d := d.callB h40
   refine rn 2 [] s d rfl rfl fun a s => ?_
   refine wpList_nil ?_
   have u := oi u
   subst u
   exact then_normal ⟨Sv19, (s.wk rfl), (d.ft [] [] (by decide) rfl rfl)⟩
  have s := s.fix 11 (.bool false) rfl (vb h34)
  have u := ite_f hc35 h34
  refine rn 7 [] s d rfl rfl fun a s => ?_
  refine wpList_nil ?_
  have u := oi u
  subst u
  exact then_normal ⟨Sv19, (s.wk rfl), (d.ft [] [] (by decide) rfl rfl)⟩
 rintro a w ⟨Sv36, s, d⟩
 refine rz 1 [] s d rfl rfl fun a s => ?_
 have u := oi u
 subst u
 exact wp_ret (ret1 s rfl (rv_tmp rfl) (d.ret rfl))
theorem ref05_Sample_ok {w0 S0 n1 r} (u : ref05_Sample n1 = some r) (hS : Dm S0 w0) : Calls Tryz.prog 138 #[.int .i64 n1] w0 (Ret ([]) w0 S0 (made_Light_rd w0 ([]) r)) := by
 refine en 5 Tryz.func138 rfl hS rfl rfl rfl fun a s d => ?_
 delta ref05_Sample at u
 refine sz 1 [] s d rfl rfl fun a s => ?_
 refine sn 1 [] s d rfl rfl fun a s => ?_
 obtain ⟨rv3, h2, u⟩ := bind_t u
 refine st_callR s (ref01_In_ok h2 d.bdom) (do_call Tryz.call61 rfl) trivial rfl rfl ?_
 rintro v7 Sv4 w a h5 rfl s
 have d := d.callB h5
 refine rz 1 [] s d rfl rfl fun a s => ?_
 have u := oi u
 subst u
 exact wp_ret (ret1 s rfl (rv_tmp rfl) (d.ret rfl))
theorem ref05_InRange_ok {w0 S0 p2 k3 l1 r} (u : ref05_InRange l1 = some r) (hS : Dm S0 w0) (h4 : (SlA p2 l1.length k3 l1).p S0 w0) : Calls Tryz.prog 98 #[.slice p2 l1.length k3] w0 (Ret ([]) w0 S0 (made_Light_rd w0 ([]) r)) := by
 refine en 16 Tryz.func98 rfl hS rfl rfl rfl fun a s d => ?_
 have d := d.addE h4
 delta ref05_InRange at u
 refine sz 1 [] s d rfl rfl fun a s => ?_
 refine wp_seq (sz 1 [] s d rfl rfl fun a s => ?_)
 refine wp_block (wp_while (fun sv82 a w => ∃ Sv132, Sl 16 [(0, .slice p2 l1.length k3), (3, .int .i64 sv82)] a ∧ Wd ⟨w0, S0, []⟩ Sv132 [] [SlA p2 l1.length k3 l1] w) 0 u ⟨S0, (s.wk rfl), (d.ft [] [0] (by decide) rfl rfl)⟩ ?_)
 repeat clear u
 rintro sv82 a w tv158 ⟨Sv132, s, d⟩ u hd157
 delta ref05_InRange_l2 at u
 refine wp_seq (sz 4 [] s d rfl rfl fun a s => ?_)
 refine cd s u rfl (fun u => ?_) fun u => ?_
 ·refine wp_skip (then_normal (wp_seq (wp_block (sn 2 [] s d rfl rfl fun a s => ?_))))
  obtain ⟨x186, h184, u⟩ := bind_t u
  obtain ⟨b192, o193, q190, c191, h194, h187, h188, h189, h185⟩ := d.elemV 0 rfl h184
  have hsv195 := s
  have hwv196 := d
  subst h194
  have s := hsv195
  have d := hwv196
  obtain ⟨_, rfl, rfl⟩ := h185
  have d := d.addE h189
  refine sv s (y_indexAt Tryz.runUnderlying22 Tryz.sizeOf3 rfl rfl h187.1 h187.2 h188) rfl fun a s => ?_
  refine sv s (y_loadE1 (j := 0) (d.ceAt 0 rfl) rfl Tryz.isAgg3 rfl) rfl fun a s => ?_
  obtain ⟨rv198, h197, u⟩ := bind_t u
  refine st_callR s (ref05_Sample_ok h197 d.bdom) (do_call Tryz.call138 rfl) trivial rfl rfl ?_
  rintro v202 Sv199 w a h200 rfl s
  have d := d.callB h200
  refine rz 1 [] s d rfl rfl fun a s => ?_
  refine cd s u rfl (fun u => ?_) fun u => ?_
  ·refine sz 1 [] s d rfl rfl fun a s => ?_
   have u := oi u
   subst u
   have h206 := hd157 _ rfl
   subst h206
   exact wp_ret (blk_ret (then_ret (then_ret (blk_ret (then_ret (ret1 s rfl (rv_tmp rfl) (d.ret rfl)))))))
  refine wp_skip (blk_normal (then_normal (wp_region_lit (rn 2 [] s d rfl rfl fun a s => ?_))))
  obtain ⟨i208, h207, u⟩ := bind_t u
  refine sv s (y_assignI rfl h207) rfl fun a s => ?_
  exact nl ⟨_, (Option.some.inj u).symm, Sv132, (s.wk rfl), (d.ft [] [1] (by decide) rfl rfl)⟩
 obtain ⟨rv209, u, h210⟩ := map_t u
 have h210 := (hd157 _ h210.symm).symm
 subst h210
 refine wp_exit (then_exit (then_exit (blk_exit (then_normal (sz 1 [] s d rfl rfl fun a s => ?_)))))
 have u := oi u
 subst u
 exact wp_ret (ret1 s rfl (rv_tmp rfl) (d.ret rfl))
theorem ref02_Time_ok {w0 S0 start1 r2 k3 r} (u : ref02_Time start1 r2 k3 = some r) (hS : Dm S0 w0) : Calls Tryz.prog 28 #[.int .i64 start1, V54 r2, .int .i64 k3] w0 (Ret ([]) w0 S0 (rate_Time_rd w0 ([]) r)) := by
 refine en 29 Tryz.func28 rfl hS rfl rfl rfl fun a s d => ?_
 delta ref02_Time at u
 refine sr (w_box (cs := (C54 r2)) s d rfl rfl rfl trivial ?_)
 intro b4 a w s d
 refine rz 2 [] s d rfl rfl fun a s => ?_
 refine wp_seq (sn 1 [0] s d rfl rfl fun a s => ?_)
 obtain ⟨rv6, h5, u⟩ := bind_t u
 refine st_callR s (ref02_Valid_ok h5 d.bdom) (do_call Tryz.call70 rfl) trivial rfl rfl ?_
 rintro v10 Sv7 w a h8 rfl s
 have d := d.callB h8
 refine rz 1 [] s d rfl rfl fun a s => ?_
 refine cd s u rfl (fun u => ?_) fun u => ?_
 ·refine sz 2 [] s d rfl rfl fun a s => ?_
  have u := oi u
  subst u
  exact wp_ret (then_ret (ret2 s rfl (rv_tmp rfl) (rv_tmp rfl) (d.ret rfl)))
 refine wp_skip (then_normal (wp_seq (sn 1 [] s d rfl rfl fun a s => ?_)))
 obtain ⟨rv15, h14, u⟩ := bind_t u
 refine st_callR s (ref01_In_ok h14 d.bdom) (do_call Tryz.call61 rfl) trivial rfl rfl ?_
 rintro v19 Sv16 w a h17 rfl s
 have d := d.callB h17
 refine rn 2 [] s d rfl rfl fun a s => ?_
 obtain ⟨c29, hc29, u⟩ := bind_t u
 refine wpl_join 4 (fun a w => ∃ Sv30, Sl 29 [(0, .int .i64 start1), (2, .int .i64 k3), (4, .pointer (some ⟨b4, 0, none⟩)), (18, .bool c29)] a ∧ Wd ⟨w0, S0, []⟩ Sv30 [.box b4 (C54 r2) 54] [] w) ?_ ?_
 ·rcases Bool.eq_false_or_eq_true (!rv15) with h28 | h28
  ·have s := s.fix 14 (.bool true) rfl (vb h28)
   have u := ite_t hc29 h28
   refine rn 4 [] s d rfl rfl fun a s => ?_
   refine wpList_nil ?_
   have u := oi u
   subst u
   exact then_normal ⟨S0, (s.wk rfl), (d.ft [0] [] (by decide) rfl rfl)⟩
  have s := s.fix 14 (.bool false) rfl (vb h28)
  have u := ite_f hc29 h28
  refine st_val s (y_move rfl) ⟨_, rfl, rfl⟩ rfl rfl fun a s => ?_
  obtain ⟨rv32, h31, u⟩ := bind_t u
  refine st_callR s (ref01_In_ok h31 d.bdom) (do_call Tryz.call61 rfl) ⟨_, rfl, rfl⟩ rfl rfl ?_
  rintro v36 Sv33 w a h34 rfl s
  have d := d.callB h34
  refine rn 2 [] s d rfl rfl fun a s => ?_
  refine wpList_nil ?_
  have u := oi u
  subst u
  exact then_normal ⟨S0, (s.wk rfl), (d.ft [0] [] (by decide) rfl rfl)⟩
 rintro a w ⟨Sv30, s, d⟩
 refine nl (cd s u rfl (fun u => ?_) fun u => ?_)
 ·refine sz 2 [] s d rfl rfl fun a s => ?_
  have u := oi u
  subst u
  exact wp_ret (then_ret (ret2 s rfl (rv_tmp rfl) (rv_tmp rfl) (d.ret rfl)))
 refine wp_skip (then_normal (sn 8 [0, 0] s d rfl rfl fun a s => ?_))
 obtain ⟨quo41, h40, u⟩ := bind_t u
 refine sv s (y_quoM rfl rfl h40) rfl fun a s => ?_
 refine sv s (y_add rfl rfl) rfl fun a s => ?_
 obtain ⟨x43, h42, u⟩ := bind_t u
 refine sv s (y_assignI rfl h42) rfl fun a s => ?_
 refine rz 1 [] s d rfl rfl fun a s => ?_
 have u := oi u
 subst u
 exact wp_ret (ret2 s rfl (rv_tmp rfl) (rv_tmp rfl) (d.ret rfl))
theorem ref14_Time_ok {w0 S0 p2 k3 r1 i5 r} (u : ref14_Time r1 i5 = some r) (hS : Dm S0 w0) (h4 : (SlA p2 r1.Samples.length k3 r1.Samples).p S0 w0) : Calls Tryz.prog 62 #[V56 r1 p2 k3, .int .i64 i5] w0 (Ret ([]) w0 S0 (slices_IndexFunc_Lapi_Record_api_Record_rd w0 ([]) r)) := by
 refine en 20 Tryz.func62 rfl hS rfl rfl rfl fun a s d => ?_
 have d := d.addE h4
 delta ref14_Time at u
 refine sr (w_box (cs := (C56 r1 p2 k3)) s d rfl rfl rfl trivial ?_)
 intro b6 a w s d
 refine rz 1 [] s d rfl rfl fun a s => ?_
 refine sn 8 [0, 0, 0] s d rfl rfl fun a s => ?_
 obtain ⟨rv8, h7, u⟩ := bind_t u
 refine st_callR s (ref02_Time_ok h7 d.bdom) (do_call Tryz.call28 rfl) trivial rfl rfl ?_
 rintro v12 Sv9 w a h10 rfl s
 have d := d.callB h10
 refine rz 5 [] s d rfl rfl fun a s => ?_
 refine sz 2 [] s d rfl rfl fun a s => ?_
 have u := oi u
 subst u
 exact wp_ret (ret1 s rfl (rv_tmp rfl) (d.ret rfl))
theorem ref14_Valid_ok {w0 S0 p2 k3 r1 r} (u : ref14_Valid r1 = some r) (hS : Dm S0 w0) (h4 : (SlA p2 r1.Samples.length k3 r1.Samples).p S0 w0) : Calls Tryz.prog 60 #[V56 r1 p2 k3] w0 (Ret ([]) w0 S0 (made_Light_rd w0 ([]) r)) := by
 refine en 68 Tryz.func60 rfl hS rfl rfl rfl fun a s d => ?_
 have d := d.addE h4
 delta ref14_Valid at u
 refine sr (w_box (cs := (C56 r1 p2 k3)) s d rfl rfl rfl trivial ?_)
 intro b5 a w s d
 refine rz 1 [] s d rfl rfl fun a s => ?_
 refine wp_seq (sn 2 [0] s d rfl rfl fun a s => ?_)
 obtain ⟨rv7, h6, u⟩ := bind_t u
 refine st_callR s (ref03_Valid_ok h6 d.bdom) (do_call Tryz.call97 rfl) trivial rfl rfl ?_
 rintro v11 Sv8 w a h9 rfl s
 have d := d.callB h9
 refine rn 2 [] s d rfl rfl fun a s => ?_
 obtain ⟨c21, hc21, u⟩ := bind_t u
 refine wpl_join 5 (fun a w => ∃ Sv22, Sl 68 [(1, .pointer (some ⟨b5, 0, none⟩)), (12, .bool c21)] a ∧ Wd ⟨w0, S0, []⟩ Sv22 [.box b5 (C56 r1 p2 k3) 56] [SlA p2 r1.Samples.length k3 r1.Samples] w) ?_ ?_
 ·rcases Bool.eq_false_or_eq_true (!rv7) with h20 | h20
  ·have s := s.fix 7 (.bool true) rfl (vb h20)
   have u := ite_t hc21 h20
   refine rn 5 [] s d rfl rfl fun a s => ?_
   refine wpList_nil ?_
   have u := oi u
   subst u
   exact then_normal ⟨S0, (s.wk rfl), (d.ft [0] [0] (by decide) rfl rfl)⟩
  have s := s.fix 7 (.bool false) rfl (vb h20)
  have u := ite_f hc21 h20
  refine rn 2 [0] s d rfl rfl fun a s => ?_
  obtain ⟨rv24, h23, u⟩ := bind_t u
  refine st_callR s (ref02_Valid_ok h23 d.bdom) (do_call Tryz.call70 rfl) ⟨_, rfl, rfl⟩ rfl rfl ?_
  rintro v28 Sv25 w a h26 rfl s
  have d := d.callB h26
  refine rn 2 [] s d rfl rfl fun a s => ?_
  refine wpList_nil ?_
  have u := oi u
  subst u
  exact then_normal ⟨S0, (s.wk rfl), (d.ft [0] [0] (by decide) rfl rfl)⟩
 rintro a w ⟨Sv22, s, d⟩
 refine mv s rfl rfl fun a s => ?_
 obtain ⟨c38, hc38, u⟩ := bind_t u
 refine wpl_join 5 (fun a w => ∃ Sv39, Sl 68 [(1, .pointer (some ⟨b5, 0, none⟩)), (18, .bool c38)] a ∧ Wd ⟨w0, S0, []⟩ Sv39 [.box b5 (C56 r1 p2 k3) 56] [SlA p2 r1.Samples.length k3 r1.Samples] w) ?_ ?_
 ·rcases Bool.eq_false_or_eq_true c21 with h37 | h37
  ·have s := s.fix 13 (.bool true) rfl (vb h37)
   have u := ite_t hc38 h37
   refine rn 5 [] s d rfl rfl fun a s => ?_
   refine wpList_nil ?_
   have u := oi u
   subst u
   exact then_normal ⟨Sv22, (s.wk rfl), (d.ft [0] [0] (by decide) rfl rfl)⟩
  have s := s.fix 13 (.bool false) rfl (vb h37)
  have u := ite_f hc38 h37
  refine rn 2 [0] s d rfl rfl fun a s => ?_
  obtain ⟨rv41, h40, u⟩ := bind_t u
  refine st_callR s (ref01_In_ok h40 d.bdom) (do_call Tryz.call61 rfl) ⟨_, rfl, rfl⟩ rfl rfl ?_
  rintro v45 Sv42 w a h43 rfl s
  have d := d.callB h43
  refine rn 2 [] s d rfl rfl fun a s => ?_
  refine wpList_nil ?_
  have u := oi u
  subst u
  exact then_normal ⟨Sv22, (s.wk rfl), (d.ft [0] [0] (by decide) rfl rfl)⟩
 rintro a w ⟨Sv39, s, d⟩
 refine mv s rfl rfl fun a s => ?_
 obtain ⟨c55, hc55, u⟩ := bind_t u
 refine wpl_join 5 (fun a w => ∃ Sv56, Sl 68 [(1, .pointer (some ⟨b5, 0, none⟩)), (24, .bool c55)] a ∧ Wd ⟨w0, S0, []⟩ Sv56 [.box b5 (C56 r1 p2 k3) 56] [SlA p2 r1.Samples.length k3 r1.Samples] w) ?_ ?_
 ·rcases Bool.eq_false_or_eq_true c38 with h54 | h54
  ·have s := s.fix 19 (.bool true) rfl (vb h54)
   have u := ite_t hc55 h54
   refine rn 5 [] s d rfl rfl fun a s => ?_
   refine wpList_nil ?_
   have u := oi u
   subst u
   exact then_normal ⟨Sv39, (s.wk rfl), (d.ft [0] [0] (by decide) rfl rfl)⟩
  have s := s.fix 19 (.bool false) rfl (vb h54)
  have u := ite_f hc55 h54
  refine rn 2 [0] s d rfl rfl fun a s => ?_
  obtain ⟨rv58, h57, u⟩ := bind_t u
  refine st_callR s (ref01_In_ok h57 d.bdom) (do_call Tryz.call61 rfl) ⟨_, rfl, rfl⟩ rfl rfl ?_
  rintro v62 Sv59 w a h60 rfl s
  have d := d.callB h60
  refine rn 2 [] s d rfl rfl fun a s => ?_
  refine wpList_nil ?_
  have u := oi u
  subst u
  exact then_normal ⟨Sv39, (s.wk rfl), (d.ft [0] [0] (by decide) rfl rfl)⟩
 rintro a w ⟨Sv56, s, d⟩
 refine mv s rfl rfl fun a s => ?_
 obtain ⟨c72, hc72, u⟩ := bind_t u
 refine wpl_join 6 (fun a w => ∃ Sv73, Sl 68 [(1, .pointer (some ⟨b5, 0, none⟩)), (31, .bool c72)] a ∧ Wd ⟨w0, S0, []⟩ Sv73 [.box b5 (C56 r1 p2 k3) 56] [SlA p2 r1.Samples.length k3 r1.Samples] w) ?_ ?_
 ·rcases Bool.eq_false_or_eq_true c55 with h71 | h71
  ·have s := s.fix 25 (.bool true) rfl (vb h71)
   have u := ite_t hc72 h71
   refine rn 6 [] s d rfl rfl fun a s => ?_
   refine wpList_nil ?_
   have u := oi u
   subst u
   exact then_normal ⟨Sv56, (s.wk rfl), (d.ft [0] [0] (by decide) rfl rfl)⟩
  have s := s.fix 25 (.bool false) rfl (vb h71)
  have u := ite_f hc72 h71
  refine rn 3 [0] s d rfl rfl fun a s => ?_
  obtain ⟨rv75, h74, u⟩ := bind_t u
  refine st_callR s (ref01_In_ok h74 d.bdom) (do_call Tryz.call61 rfl) ⟨_, rfl, rfl⟩ rfl rfl ?_
  rintro v79 Sv76 w a h77 rfl s
  have d := d.callB h77
  refine rn 2 [] s d rfl rfl fun a s => ?_
  refine wpList_nil ?_
  have u := oi u
  subst u
  exact then_normal ⟨Sv56, (s.wk rfl), (d.ft [0] [0] (by decide) rfl rfl)⟩
 rintro a w ⟨Sv73, s, d⟩
 refine mv s rfl rfl fun a s => ?_
 refine rO 8 32 [0, 0] s d rfl rfl rfl rfl rfl fun a s => ?_
 refine mv s rfl rfl fun a s => ?_
 obtain ⟨c90, hc90, u⟩ := bind_t u
 refine wpl_join 5 (fun a w => ∃ Sv91, Sl 68 [(1, .pointer (some ⟨b5, 0, none⟩)), (46, .bool c90)] a ∧ Wd ⟨w0, S0, []⟩ Sv91 [.box b5 (C56 r1 p2 k3) 56] [SlA p2 r1.Samples.length k3 r1.Samples] w) ?_ ?_
 ·rcases Bool.eq_false_or_eq_true (c72 || (decide (16777216 < (w64 (r1.First + (r1.Samples.length : Int)))))) with h89 | h89
  ·have s := s.fix 41 (.bool true) rfl (vb h89)
   have u := ite_t hc90 h89
   refine rn 5 [] s d rfl rfl fun a s => ?_
   refine wpList_nil ?_
   have u := oi u
   subst u
   exact then_normal ⟨Sv73, (s.wk rfl), (d.ft [0] [0] (by decide) rfl rfl)⟩
  have s := s.fix 41 (.bool false) rfl (vb h89)
  have u := ite_f hc90 h89
  refine rn 2 [0] s d rfl rfl fun a s => ?_
  obtain ⟨rv93, h92, u⟩ := bind_t u
  refine st_callR s (ref05_InRange_ok h92 d.bdom (d.bE 0 rfl)) (do_call Tryz.call98 rfl) ⟨_, rfl, rfl⟩ rfl rfl ?_
  rintro v97 Sv94 w a h95 rfl s
  have d := d.callB h95
  refine rn 2 [] s d rfl rfl fun a s => ?_
  refine wpList_nil ?_
  have u := oi u
  subst u
  exact then_normal ⟨Sv73, (s.wk rfl), (d.ft [0] [0] (by decide) rfl rfl)⟩
 rintro a w ⟨Sv91, s, d⟩
 refine nl (cd s u rfl (fun u => ?_) fun u => ?_)
 ·refine sz 1 [] s d rfl rfl fun a s => ?_
  have u := oi u
  subst u
  exact wp_ret (then_ret (ret1 s rfl (rv_tmp rfl) (d.ret rfl)))
 refine wp_skip (then_normal (sn 2 [0] s d rfl rfl fun a s => ?_))
 obtain ⟨rv102, h101, u⟩ := bind_t u
 refine st_callR s (ref01_In_ok h101 d.bdom) (do_call Tryz.call61 rfl) trivial rfl rfl ?_
 rintro v106 Sv103 w a h104 rfl s
 have d := d.callB h104
 refine mv s rfl rfl fun a s => ?_
 obtain ⟨c116, hc116, u⟩ := bind_t u
 refine wpl_join 4 (fun a w => ∃ Sv117, Sl 68 [(1, .pointer (some ⟨b5, 0, none⟩)), (54, .bool c116)] a ∧ Wd ⟨w0, S0, []⟩ Sv117 [.box b5 (C56 r1 p2 k3) 56] [SlA p2 r1.Samples.length k3 r1.Samples] w) ?_ ?_
 ·rcases Bool.eq_false_or_eq_true rv102 with h115 | h115
  ·have s := s.fix 50 (.bool true) rfl (vb h115)
   have u := ite_t hc116 h115
   refine rn 2 [0] s d rfl rfl fun a s => ?_
   obtain ⟨rv119, h118, u⟩ := bind_t u
   refine st_callR s (ref01_In_ok h118 d.bdom) (do_call Tryz.call61 rfl) ⟨_, rfl, rfl⟩ rfl rfl ?_
   rintro v123 Sv120 w a h121 rfl s
   have d := d.callB h121
   refine sv s (y_pickT rfl rfl) rfl fun a s => ?_
   refine wpList_nil ?_
   have u := oi u
   subst u
   exact then_normal ⟨Sv91, (s.wk rfl), (d.ft [0] [0] (by decide) rfl rfl)⟩
  have s := s.fix 50 (.bool false) rfl (vb h115)
  have u := ite_f hc116 h115
  refine rn 4 [] s d rfl rfl fun a s => ?_
  refine wpList_nil ?_
  have u := oi u
  subst u
  exact then_normal ⟨Sv91, (s.wk rfl), (d.ft [0] [0] (by decide) rfl rfl)⟩
 rintro a w ⟨Sv117, s, d⟩
 refine mv s rfl rfl fun a s => ?_
 obtain ⟨c133, hc133, u⟩ := bind_t u
 refine wpl_join 4 (fun a w => ∃ Sv134, Sl 68 [(1, .pointer (some ⟨b5, 0, none⟩)), (59, .bool c133)] a ∧ Wd ⟨w0, S0, []⟩ Sv134 [.box b5 (C56 r1 p2 k3) 56] [SlA p2 r1.Samples.length k3 r1.Samples] w) ?_ ?_
 ·rcases Bool.eq_false_or_eq_true c116 with h132 | h132
  ·have s := s.fix 55 (.bool true) rfl (vb h132)
   have u := ite_t hc133 h132
   refine rn 2 [0] s d rfl rfl fun a s => ?_
   obtain ⟨rv136, h135, u⟩ := bind_t u
   refine st_callR s (ref01_In_ok h135 d.bdom) (do_call Tryz.call61 rfl) ⟨_, rfl, rfl⟩ rfl rfl ?_
   rintro v140 Sv137 w a h138 rfl s
   have d := d.callB h138
   refine sv s (y_pickT rfl rfl) rfl fun a s => ?_
   refine wpList_nil ?_
   have u := oi u
   subst u
   exact then_normal ⟨Sv117, (s.wk rfl), (d.ft [0] [0] (by decide) rfl rfl)⟩
  have s := s.fix 55 (.bool false) rfl (vb h132)
  have u := ite_f hc133 h132
  refine rn 4 [] s d rfl rfl fun a s => ?_
  refine wpList_nil ?_
  have u := oi u
  subst u
  exact then_normal ⟨Sv117, (s.wk rfl), (d.ft [0] [0] (by decide) rfl rfl)⟩
 rintro a w ⟨Sv134, s, d⟩
 refine mv s rfl rfl fun a s => ?_
 obtain ⟨c150, hc150, u⟩ := bind_t u
 refine wpl_join 7 (fun a w => ∃ Sv151, Sl 68 [(67, .bool c150)] a ∧ Wd ⟨w0, S0, []⟩ Sv151 [] [] w) ?_ ?_
 ·rcases Bool.eq_false_or_eq_true c133 with h149 | h149
  ·have s := s.fix 60 (.bool true) rfl (vb h149)
   have u := ite_t hc150 h149
   refine rn 4 [0, 0] s d rfl rfl fun a s => ?_
   obtain ⟨rv153, h152, u⟩ := bind_t u
   refine st_callR s (ref14_Time_ok h152 d.bdom (d.bE 0 rfl)) (do_call Tryz.call62 rfl) ⟨_, rfl, rfl⟩ rfl rfl ?_
   rintro v157 Sv154 w a h155 rfl s
   have d := d.callB h155
   refine rn 2 [] s d rfl rfl fun a s => ?_
   refine wpList_nil ?_
   have u := oi u
   subst u
   exact then_normal ⟨Sv134, (s.wk rfl), (d.ft [] [] (by decide) rfl rfl)⟩
  have s := s.fix 60 (.bool false) rfl (vb h149)
  have u := ite_f hc150 h149
  refine rn 7 [] s d rfl rfl fun a s => ?_
  refine wpList_nil ?_
  have u := oi u
  subst u
  exact then_normal ⟨Sv134, (s.wk rfl), (d.ft [] [] (by decide) rfl rfl)⟩
 rintro a w ⟨Sv151, s, d⟩
 refine rz 1 [] s d rfl rfl fun a s => ?_
 have u := oi u
 subst u
 exact wp_ret (ret1 s rfl (rv_tmp rfl) (d.ret rfl))
theorem ref15_fine_ok {w0 S0 p2 k3 l1 r} (u : ref15_fine l1 = some r) (hS : Dm S0 w0) (h4 : (SlA p2 l1.length k3 l1).p S0 w0) : Calls Tryz.prog 95 #[.slice p2 l1.length k3] w0 (Ret ([]) w0 S0 (made_Light_rd w0 ([]) r)) := by
 refine en 28 Tryz.func95 rfl hS rfl rfl rfl fun a s d => ?_
 have d := d.addE h4
 delta ref15_fine at u
 refine sz 1 [] s d rfl rfl fun a s => ?_
 refine wp_seq (sz 1 [] s d rfl rfl fun a s => ?_)
 refine wp_block (wp_while (fun sv157 a w => ∃ Sv257, Sl 28 [(0, .slice p2 l1.length k3), (3, .int .i64 sv157)] a ∧ Wd ⟨w0, S0, []⟩ Sv257 [] [SlA p2 l1.length k3 l1] w) 0 u ⟨S0, (s.wk rfl), (d.ft [] [0] (by decide) rfl rfl)⟩ ?_)
 repeat clear u
 rintro sv157 a w tv308 ⟨Sv257, s, d⟩ u hd307
 delta ref15_fine_l2 at u
 refine wp_seq (sz 4 [] s d rfl rfl fun a s => ?_)
 refine cd s u rfl (fun u => ?_) fun u => ?_
 ·refine wp_skip (then_normal (wp_seq (wp_block (wp_seq ?_))))
  obtain ⟨x361, h359, u⟩ := bind_t u
  obtain ⟨b367, o368, q365, c366, h369, h362, h363, h364, h360⟩ := d.elemV 0 rfl h359
  have hsv370 := s
  have hwv371 := d
  subst h369
  have s := hsv370
  have d := hwv371
  obtain ⟨_, _, _, _, _, _, _, _, _, _, _, _, rfl, rfl, rfl, rfl, rfl, rfl, rfl, rfl, rfl, rfl, rfl, rfl, ⟨p372, n373, k374, rfl, h375⟩⟩ := h360
  obtain rfl := h375.1
  have d := (d.addE (e := SlA p372 _ k374 x361.Samples) h375).addE h364
  obtain ⟨rv377, h376, u⟩ := bind_t u
  obtain ⟨c402, hc402, u⟩ := bind_t u
  refine wp_only (fun a w => ∃ Sv403, Sl 28 [(0, .slice (some ⟨b367, o368, none⟩) l1.length k3), (3, .int .i64 sv157), (27, .bool c402)] a ∧ Wd ⟨w0, S0, []⟩ Sv403 [] [SlA (some ⟨b367, o368, none⟩) l1.length k3 l1] w) ?_ ?_
  ·rcases Bool.eq_false_or_eq_true (!rv377) with h404 | h404
   ·have h405 := ite_t hc402 h404
    refine h_c [] [0] d rfl rfl (by kernel_rfl) rfl fun hC d => ?_
    refine gn 2 [0, 1] [] s hC rfl rfl rfl fun a s => ?_
    refine gv s 2 rfl rfl hC (fun w hC => y_indexAt Tryz.runUnderlying28 Tryz.sizeOf56 rfl rfl h362.1 h362.2 h363) fun a s => ?_
    refine gv s 3 rfl rfl hC (fun w hC => y_loadEA (j := 0) (hC.ceAt 0 rfl) rfl Tryz.isAgg56 Tryz.sizeOf56 rfl rfl) fun a s => ?_
    refine ho 4 rfl ?_
    refine st_callR s (ref14_Valid_ok h376 d.bdom (d.bE 1 rfl)) (do_call Tryz.call60 rfl) trivial rfl rfl ?_
    rintro v409 Sv406 w a h407 rfl s
    have d := d.callB h407
    refine h_n [] [0] d rfl rfl fun hC => ?_
    refine gn 2 [5, 6] [] s hC rfl rfl rfl fun a s => ?_
    have s := s.fix 16 (.bool true) rfl (vb h404)
    refine gn 10 [7, 8, 9, 10, 11, 12, 13, 14, 15, 16] [] s hC rfl rfl rfl fun a s => ?_
    refine gv s 17 rfl rfl hC (fun w hC => y_pickTE (v := .bool c402) rfl rfl (vbs h405)) fun a s => ?_
    refine h_done (by kernel_rfl) ?_
    exact ⟨Sv257, (s.wk rfl), (d.ft [] [2] (by decide) rfl rfl)⟩
   have h411 := ite_f hc402 h404
   obtain ⟨x414, h412, h411⟩ := bind_t h411
   obtain ⟨q418, c419, h415, h416, h417, h413⟩ := d.elemK 2 rfl h412
   obtain ⟨_, _, _, _, _, _, _, _, _, _, _, _, rfl, rfl, rfl, rfl, rfl, rfl, rfl, rfl, rfl, rfl, rfl, rfl, ⟨p420, n421, k422, rfl, h423⟩⟩ := h413
   obtain rfl := h423.1
   have d := (d.addE (e := SlA p420 _ k422 x414.Samples) h423).addE h417
   obtain ⟨x426, h424, h411⟩ := bind_t h411
   obtain ⟨q430, c431, h427, h428, h429, h425⟩ := d.elemK 4 rfl h424
   obtain ⟨_, _, _, _, _, _, _, _, _, _, _, _, rfl, rfl, rfl, rfl, rfl, rfl, rfl, rfl, rfl, rfl, rfl, rfl, ⟨p432, n433, k434, rfl, h435⟩⟩ := h425
   obtain rfl := h435.1
   have d := (d.addE (e := SlA p432 _ k434 x426.Samples) h435).addE h429
   refine h_c [] [0, 2, 4] d rfl rfl (by kernel_rfl) rfl fun hC d => ?_
   refine gn 2 [0, 1] [] s hC rfl rfl rfl fun a s => ?_
   refine gv s 2 rfl rfl hC (fun w hC => y_indexAt Tryz.runUnderlying28 Tryz.sizeOf56 rfl rfl h362.1 h362.2 h363) fun a s => ?_
   refine gv s 3 rfl rfl hC (fun w hC => y_loadEA (j := 0) (hC.ceAt 2 rfl) rfl Tryz.isAgg56 Tryz.sizeOf56 rfl rfl) fun a s => ?_
   refine ho 4 rfl ?_
   refine st_callR s (ref14_Valid_ok h376 d.bdom (d.bE 5 rfl)) (do_call Tryz.call60 rfl) trivial rfl rfl ?_
   rintro v439 Sv436 w a h437 rfl s
   have d := d.callB h437
   refine h_n [] [0, 2, 4] d rfl rfl fun hC => ?_
   refine gn 2 [5, 6] [] s hC rfl rfl rfl fun a s => ?_
   have s := s.fix 16 (.bool false) rfl (vb h404)
   refine gn 2 [7, 8] [] s hC rfl rfl rfl fun a s => ?_
   refine gt s 9 rfl ⟨_, rfl, rfl⟩ rfl hC (fun w hC => y_indexAt Tryz.runUnderlying28 Tryz.sizeOf56 rfl rfl h415.1 h415.2 h416) fun a s => ?_
   refine gt s 10 rfl ⟨_, rfl, rfl⟩ rfl hC (fun w hC => y_fieldAddr (o' := q418 + 0) Tryz.runUnderlying56 rfl Tryz.sizeOf52 rfl rfl rfl) fun a s => ?_
   refine gt s 11 rfl ⟨_, rfl, rfl⟩ rfl hC (fun w hC => y_loadEA (j := 0) (hC.ceAt 1 rfl) rfl Tryz.isAgg52 Tryz.sizeOf52 rfl rfl) fun a s => ?_
   refine gt s 12 rfl ⟨_, rfl, rfl⟩ rfl hC (fun w hC => y_move rfl) fun a s => ?_
   refine gt s 13 rfl ⟨_, rfl, rfl⟩ rfl hC (fun w hC => y_indexAt Tryz.runUnderlying28 Tryz.sizeOf56 rfl rfl h427.1 h427.2 h428) fun a s => ?_
   refine gt s 14 rfl ⟨_, rfl, rfl⟩ rfl hC (fun w hC => y_fieldAddr (o' := q430 + 0) Tryz.runUnderlying56 rfl Tryz.sizeOf52 rfl rfl rfl) fun a s => ?_
   refine gt s 15 rfl ⟨_, rfl, rfl⟩ rfl hC (fun w hC => y_loadEA (j := 0) (hC.ceAt 0 rfl) rfl Tryz.isAgg52 Tryz.sizeOf52 rfl rfl) fun a s => ?_
   refine gt s 16 rfl ⟨_, rfl, rfl⟩ rfl hC (fun w hC => y_neqA (by kernel_rfl) rfl rfl (eqv_struct Tryz.runUnderlying52 (by kernel_rfl) (EqF.cons1 rfl Tryz.isAgg9 rfl rfl (eqv_str Tryz.runUnderlying9) (EqF.cons1 rfl Tryz.isAgg9 rfl rfl (eqv_str Tryz.runUnderlying9) (EqF.cons1 rfl Tryz.isAgg9 rfl rfl (eqv_str Tryz.runUnderlying9) (EqF.cons1 rfl Tryz.isAgg9 rfl rfl (eqv_str Tryz.runUnderlying9) EqF.nil)))))) fun a s => ?_
   refine gv s 17 rfl rfl hC (fun w hC => y_pickFE (v := .bool c402) rfl rfl (vbs h411)) fun a s => ?_
   refine h_done (by kernel_rfl) ?_
   exact ⟨Sv257, (s.wk rfl), (d.ft [] [6] (by decide) rfl rfl)⟩
  rintro a w ⟨Sv403, s, d⟩
  refine then_normal (cd s u rfl (fun u => ?_) fun u => ?_)
  ·refine sz 1 [] s d rfl rfl fun a s => ?_
   have u := oi u
   subst u
   have h443 := hd307 _ rfl
   subst h443
   exact wp_ret (blk_ret (then_ret (then_ret (blk_ret (then_ret (ret1 s rfl (rv_tmp rfl) (d.ret rfl)))))))
  refine wp_skip (blk_normal (then_normal (wp_region_lit (rn 2 [] s d rfl rfl fun a s => ?_))))
  obtain ⟨i445, h444, u⟩ := bind_t u
  refine sv s (y_assignI rfl h444) rfl fun a s => ?_
  exact nl ⟨_, (Option.some.inj u).symm, Sv403, (s.wk rfl), (d.ft [] [0] (by decide) rfl rfl)⟩
 obtain ⟨rv446, u, h447⟩ := map_t u
 have h447 := (hd307 _ h447.symm).symm
 subst h447
 refine wp_exit (then_exit (then_exit (blk_exit (then_normal (sz 1 [] s d rfl rfl fun a s => ?_)))))
 have u := oi u
 subst u
 exact wp_ret (ret1 s rfl (rv_tmp rfl) (d.ret rfl))
theorem ref15_Valid_ok {w0 S0 p2 k3 l1 r} (u : ref15_Valid l1 = some r) (hS : Dm S0 w0) (h4 : (SlA p2 l1.length k3 l1).p S0 w0) : Calls Tryz.prog 56 #[.slice p2 l1.length k3] w0 (Ret ([]) w0 S0 (made_Light_rd w0 ([]) r)) := by
 refine en 10 Tryz.func56 rfl hS rfl rfl rfl fun a s d => ?_
 have d := d.addE h4
 delta ref15_Valid at u
 refine sz 1 [] s d rfl rfl fun a s => ?_
 refine sn 4 [] s d rfl rfl fun a s => ?_
 obtain ⟨c13, hc13, u⟩ := bind_t u
 refine wpl_join 3 (fun a w => ∃ Sv14, Sl 10 [(9, .bool c13)] a ∧ Wd ⟨w0, S0, []⟩ Sv14 [] [] w) ?_ ?_
 ·rcases Bool.eq_false_or_eq_true (decide ((l1.length : Int) ≤ 256)) with h12 | h12
  ·have s := s.fix 6 (.bool true) rfl (vb h12)
   have u := ite_t hc13 h12
   refine st_val s (y_move rfl) ⟨_, rfl, rfl⟩ rfl rfl fun a s => ?_
   obtain ⟨rv16, h15, u⟩ := bind_t u
   refine st_callR s (ref15_fine_ok h15 d.bdom (d.bE 0 rfl)) (do_call Tryz.call95 rfl) ⟨_, rfl, rfl⟩ rfl rfl ?_
   rintro v20 Sv17 w a h18 rfl s
   have d := d.callB h18
   refine sv s (y_pickT rfl rfl) rfl fun a s => ?_
   refine wpList_nil ?_
   have u := oi u
   subst u
   exact then_normal ⟨S0, (s.wk rfl), (d.ft [] [] (by decide) rfl rfl)⟩
  have s := s.fix 6 (.bool false) rfl (vb h12)
  have u := ite_f hc13 h12
  refine rn 3 [] s d rfl rfl fun a s => ?_
  refine wpList_nil ?_
  have u := oi u
  subst u
  exact then_normal ⟨S0, (s.wk rfl), (d.ft [] [] (by decide) rfl rfl)⟩
 rintro a w ⟨Sv14, s, d⟩
 refine rz 1 [] s d rfl rfl fun a s => ?_
 have u := oi u
 subst u
 exact wp_ret (ret1 s rfl (rv_tmp rfl) (d.ret rfl))
theorem ref03_compare_ok {w0 S0 a1 b2 r} (u : ref03_compare a1 b2 = some r) (hS : Dm S0 w0) : Calls Tryz.prog 172 #[.string a1, .string b2] w0 (Ret ([]) w0 S0 (slices_IndexFunc_Lapi_Record_api_Record_rd w0 ([]) r)) := by
 refine en 13 Tryz.func172 rfl hS rfl rfl rfl fun a s d => ?_
 delta ref03_compare at u
 refine sz 1 [] s d rfl rfl fun a s => ?_
 refine wp_seq (wp_block (sn 2 [] s d rfl rfl fun a s => ?_))
 refine sv s (y_lssS rfl rfl) rfl fun a s => ?_
 refine rz 1 [] s d rfl rfl fun a s => ?_
 refine cd s u rfl (fun u => ?_) fun u => ?_
 ·refine sz 1 [] s d rfl rfl fun a s => ?_
  have u := oi u
  subst u
  exact wp_ret (blk_ret (then_ret (ret1 s rfl (rv_tmp rfl) (d.ret rfl))))
 refine sn 2 [] s d rfl rfl fun a s => ?_
 refine sv s (y_gtrS rfl rfl) rfl fun a s => ?_
 refine rz 1 [] s d rfl rfl fun a s => ?_
 refine cd s u rfl (fun u => ?_) fun u => ?_
 ·refine sz 1 [] s d rfl rfl fun a s => ?_
  have u := oi u
  subst u
  exact wp_ret (blk_ret (then_ret (ret1 s rfl (rv_tmp rfl) (d.ret rfl))))
 refine wp_skip (blk_normal (then_normal (sz 1 [] s d rfl rfl fun a s => ?_)))
 have u := oi u
 subst u
 exact wp_ret (ret1 s rfl (rv_tmp rfl) (d.ret rfl))
theorem ref03_Compare_ok {w0 S0 a1 b2 r} (u : ref03_Compare a1 b2 = some r) (hS : Dm S0 w0) : Calls Tryz.prog 136 #[V52 a1, V52 b2] w0 (Ret ([]) w0 S0 (slices_IndexFunc_Lapi_Record_api_Record_rd w0 ([]) r)) := by
 refine en 35 Tryz.func136 rfl hS rfl rfl rfl fun a s d => ?_
 delta ref03_Compare at u
 refine sr (w_box (cs := (C52 a1)) s d rfl rfl rfl trivial ?_)
 intro b3 a w s d
 refine w_box (cs := (C52 b2)) s d rfl rfl rfl trivial ?_
 intro b4 a w s d
 refine rz 1 [] s d rfl rfl fun a s => ?_
 refine wp_seq (wp_seq ?_)
 obtain ⟨rv6, h5, u⟩ := bind_t u
 obtain ⟨rv8, h7, u⟩ := bind_t u
 obtain ⟨rv10, h9, u⟩ := bind_t u
 obtain ⟨rv12, h11, u⟩ := bind_t u
 refine wp_only (fun a w => ∃ Sv13, Sl 35 [(27, .agg #[.int .i64 rv6, .int .i64 rv8, .int .i64 rv10, .int .i64 rv12]), (28, .int .i64 0)] a ∧ Wd ⟨w0, S0, []⟩ Sv13 [] [] w) ?_ ?_
 ·refine h_c [0, 1] [] d rfl rfl (by kernel_rfl) rfl fun hC d => ?_
  refine gn 17 [0, 1, 2, 3, 5, 6, 7, 8, 10, 11, 12, 13, 15, 16, 17, 18, 21] [1, 0, 1, 0, 1, 0, 1, 0] s hC rfl rfl rfl fun a s => ?_
  refine ho 4 rfl ?_
  refine st_callR s (ref03_compare_ok h5 d.bdom) (do_call Tryz.call172 rfl) trivial rfl rfl ?_
  rintro v17 Sv14 w a h15 rfl s
  have d := d.callB h15
  refine h_n [0, 1] [] d rfl rfl fun hC => ?_
  refine ho 9 rfl ?_
  refine st_callR s (ref03_compare_ok h7 d.bdom) (do_call Tryz.call172 rfl) trivial rfl rfl ?_
  rintro v22 Sv19 w a h20 rfl s
  have d := d.callB h20
  refine h_n [0, 1] [] d rfl rfl fun hC => ?_
  refine ho 14 rfl ?_
  refine st_callR s (ref03_compare_ok h9 d.bdom) (do_call Tryz.call172 rfl) trivial rfl rfl ?_
  rintro v27 Sv24 w a h25 rfl s
  have d := d.callB h25
  refine h_n [0, 1] [] d rfl rfl fun hC => ?_
  refine ho 19 rfl ?_
  refine st_callR s (ref03_compare_ok h11 d.bdom) (do_call Tryz.call172 rfl) trivial rfl rfl ?_
  rintro v32 Sv29 w a h30 rfl s
  have d := d.callB h30
  refine h_n [0, 1] [] d rfl rfl fun hC => ?_
  refine gv s 20 rfl rfl hC (fun w hC => y_build (vs := [(0, .int .i64 rv6), (1, .int .i64 rv8), (2, .int .i64 rv10), (3, .int .i64 rv12)]) Bld177 rfl rfl) fun a s => ?_
  refine h_done (by kernel_rfl) ?_
  exact ⟨S0, (s.wk rfl), (d.ft [] [] (by decide) rfl rfl)⟩
 rintro a w ⟨Sv13, s, d⟩
 refine then_normal (wp_block (wp_while (fun sv51 a w => ∃ Sv61, Sl 35 [(27, .agg #[.int .i64 rv6, .int .i64 rv8, .int .i64 rv10, .int .i64 rv12]), (28, .int .i64 sv51)] a ∧ Wd ⟨w0, S0, []⟩ Sv61 [] [] w) 0 u ⟨Sv13, (s.wk rfl), (d.ft [] [] (by decide) rfl rfl)⟩ ?_))
 repeat clear u
 rintro sv51 a w tv67 ⟨Sv61, s, d⟩ u hd66
 delta ref03_Compare_l2 at u
 refine sz 1 [] s d rfl rfl fun a s => ?_
 refine wp_seq (cd s u rfl (fun u => ?_) fun u => ?_)
 ·refine wp_skip (then_normal (wp_seq (wp_block (sr ?_))))
  obtain ⟨x76, h75, u⟩ := bind_t u
  refine sv s (y_idxA (α := Int) (xs := [rv6, rv8, rv10, rv12]) (cs := [.int .i64 rv6, .int .i64 rv8, .int .i64 rv10, .int .i64 rv12]) (es := [.int .i64 x76]) (v := .int .i64 x76) Tryz.runUnderlying177 Tryz.sizeOf3 (.inl ⟨Tryz.isAgg3, rfl⟩) rfl rfl rfl (fun _ _ => ⟨⟨_, rfl, rfl⟩, ⟨⟨_, rfl, rfl⟩, ⟨⟨_, rfl, rfl⟩, ⟨⟨_, rfl, rfl⟩, rfl⟩⟩⟩⟩) h75 (fun _ _ _ he => by obtain ⟨_, rfl, rfl⟩ := he; rfl)) rfl fun a s => ?_
  refine rz 1 [] s d rfl rfl fun a s => ?_
  refine sz 2 [] s d rfl rfl fun a s => ?_
  refine cd s u rfl (fun u => ?_) fun u => ?_
  ·refine sz 2 [] s d rfl rfl fun a s => ?_
   have u := oi u
   subst u
   have h79 := hd66 _ rfl
   subst h79
   exact wp_ret (blk_ret (then_ret (then_ret (blk_ret (then_ret (ret1 s rfl (rv_tmp rfl) (d.ret rfl)))))))
  refine wp_skip (blk_normal (then_normal (wp_region_lit (rz 2 [] s d rfl rfl fun a s => ?_))))
  exact ⟨_, (Option.some.inj u).symm, Sv61, (s.wk rfl), (d.ft [] [] (by decide) rfl rfl)⟩
 obtain ⟨rv80, u, h81⟩ := map_t u
 have h81 := (hd66 _ h81.symm).symm
 subst h81
 refine wp_exit (then_exit (then_exit (blk_exit (then_normal (sz 1 [] s d rfl rfl fun a s => ?_)))))
 have u := oi u
 subst u
 exact wp_ret (ret1 s rfl (rv_tmp rfl) (d.ret rfl))
theorem ref14_number_ok {w0 S0 a1 b2 r} (u : ref14_number a1 b2 = some r) (hS : Dm S0 w0) : Calls Tryz.prog 102 #[.int .i64 a1, .int .i64 b2] w0 (Ret ([]) w0 S0 (slices_IndexFunc_Lapi_Record_api_Record_rd w0 ([]) r)) := by
 refine en 13 Tryz.func102 rfl hS rfl rfl rfl fun a s d => ?_
 delta ref14_number at u
 refine sz 1 [] s d rfl rfl fun a s => ?_
 refine wp_seq (wp_block (sz 4 [] s d rfl rfl fun a s => ?_))
 refine cd s u rfl (fun u => ?_) fun u => ?_
 ·refine sz 1 [] s d rfl rfl fun a s => ?_
  have u := oi u
  subst u
  exact wp_ret (blk_ret (then_ret (ret1 s rfl (rv_tmp rfl) (d.ret rfl))))
 refine sz 4 [] s d rfl rfl fun a s => ?_
 refine cd s u rfl (fun u => ?_) fun u => ?_
 ·refine sz 1 [] s d rfl rfl fun a s => ?_
  have u := oi u
  subst u
  exact wp_ret (blk_ret (then_ret (ret1 s rfl (rv_tmp rfl) (d.ret rfl))))
 refine wp_skip (blk_normal (then_normal (sz 1 [] s d rfl rfl fun a s => ?_)))
 have u := oi u
 subst u
 exact wp_ret (ret1 s rfl (rv_tmp rfl) (d.ret rfl))
theorem ref14_Compare_ok {w0 S0 p2 k3 p6 k7 a1 b5 r} (u : ref14_Compare a1 b5 = some r) (hS : Dm S0 w0) (h4 : (SlA p2 a1.Samples.length k3 a1.Samples).p S0 w0) (h8 : (SlA p6 b5.Samples.length k7 b5.Samples).p S0 w0) : Calls Tryz.prog 96 #[V56 a1 p2 k3, V56 b5 p6 k7] w0 (Ret ([]) w0 S0 (slices_IndexFunc_Lapi_Record_api_Record_rd w0 ([]) r)) := by
 refine en 102 Tryz.func96 rfl hS rfl rfl rfl fun a s d => ?_
 have d := (d.addE h4).addE h8
 delta ref14_Compare at u
 refine sr (w_box (cs := (C56 a1 p2 k3)) s d rfl rfl rfl trivial ?_)
 intro b9 a w s d
 refine w_box (cs := (C56 b5 p6 k7)) s d rfl rfl rfl trivial ?_
 intro b10 a w s d
 refine rz 1 [] s d rfl rfl fun a s => ?_
 refine sz 2 [] s d rfl rfl fun a s => ?_
 refine wp_seq (sn 1 [1] s d rfl rfl fun a s => ?_)
 obtain ⟨rv12, h11, u⟩ := bind_t u
 refine st_callR s (ref14_Valid_ok h11 d.bdom (d.bE 1 rfl)) (do_call Tryz.call60 rfl) trivial rfl rfl ?_
 rintro v16 Sv13 w a h14 rfl s
 have d := d.callB h14
 refine nl (wp_join (fun a w => ∃ (x27 : Int) (Sv26 : _), ref14_Compare_j1 a1 b5 x27 = some r ∧ Sl 102 [(2, .pointer (some ⟨b9, 0, none⟩)), (3, .pointer (some ⟨b10, 0, none⟩)), (5, .int .i64 x27), (6, .int .i64 0)] a ∧ Wd ⟨w0, S0, []⟩ Sv26 [.box b9 (C56 a1 p2 k3) 56, .box b10 (C56 b5 p6 k7) 56] [SlA p2 a1.Samples.length k3 a1.Samples, SlA p6 b5.Samples.length k7 b5.Samples] w) ?_ ?_)
 ·refine cd s u rfl (fun u => ?_) fun u => ?_
  ·refine wp_region_lit (sv s (y_loadBA (d.ownAt 1 rfl) rfl Tryz.isAgg56 Tryz.sizeOf56 rfl rfl) rfl fun a s => ?_)
   obtain ⟨rv457, h456, u⟩ := bind_t u
   refine st_callR s (ref14_Time_ok h456 d.bdom (d.bE 1 rfl)) (do_call Tryz.call62 rfl) trivial rfl rfl ?_
   rintro v461 Sv458 w a h459 rfl s
   have d := d.callB h459
   refine rz 1 [] s d rfl rfl fun a s => ?_
   exact ⟨rv457, S0, u, (s.wk rfl), (d.ft [1, 0] [1, 0] (by decide) rfl rfl)⟩
  exact wp_skip (then_normal ⟨0, S0, u, (s.wk rfl), (d.ft [1, 0] [1, 0] (by decide) rfl rfl)⟩)
 rintro a w ⟨x27, Sv26, u, s, d⟩
 delta ref14_Compare_j1 at u
 refine then_normal (wp_seq (sn 1 [1] s d rfl rfl fun a s => ?_))
 obtain ⟨rv29, h28, u⟩ := bind_t u
 refine st_callR s (ref14_Valid_ok h28 d.bdom (d.bE 1 rfl)) (do_call Tryz.call60 rfl) trivial rfl rfl ?_
 rintro v33 Sv30 w a h31 rfl s
 have d := d.callB h31
 refine nl (wp_join (fun a w => ∃ (y44 : Int) (Sv43 : _), ref14_Compare_j2 a1 b5 x27 y44 = some r ∧ Sl 102 [(2, .pointer (some ⟨b9, 0, none⟩)), (3, .pointer (some ⟨b10, 0, none⟩)), (5, .int .i64 x27), (6, .int .i64 y44)] a ∧ Wd ⟨w0, S0, []⟩ Sv43 [.box b9 (C56 a1 p2 k3) 56, .box b10 (C56 b5 p6 k7) 56] [SlA p2 a1.Samples.length k3 a1.Samples, SlA p6 b5.Samples.length k7 b5.Samples] w) ?_ ?_)
 ·refine cd s u rfl (fun u => ?_) fun u => ?_
  ·refine wp_region_lit (sv s (y_loadBA (d.ownAt 1 rfl) rfl Tryz.isAgg56 Tryz.sizeOf56 rfl rfl) rfl fun a s => ?_)
   obtain ⟨rv449, h448, u⟩ := bind_t u
   refine st_callR s (ref14_Time_ok h448 d.bdom (d.bE 1 rfl)) (do_call Tryz.call62 rfl) trivial rfl rfl ?_
   rintro v453 Sv450 w a h451 rfl s
   have d := d.callB h451
   refine rz 1 [] s d rfl rfl fun a s => ?_
   exact ⟨rv449, Sv26, u, (s.wk rfl), (d.ft [0, 1] [0, 1] (by decide) rfl rfl)⟩
  exact wp_skip (then_normal ⟨0, Sv26, u, (s.wk rfl), (d.ft [0, 1] [0, 1] (by decide) rfl rfl)⟩)
 rintro a w ⟨y44, Sv43, u, s, d⟩
 delta ref14_Compare_j2 at u
 refine then_normal (wp_seq (wp_seq ?_))
 obtain ⟨rv46, h45, u⟩ := bind_t u
 obtain ⟨rv48, h47, u⟩ := bind_t u
 obtain ⟨rv50, h49, u⟩ := bind_t u
 obtain ⟨rv52, h51, u⟩ := bind_t u
 obtain ⟨rv54, h53, u⟩ := bind_t u
 obtain ⟨rv56, h55, u⟩ := bind_t u
 obtain ⟨rv58, h57, u⟩ := bind_t u
 obtain ⟨rv60, h59, u⟩ := bind_t u
 obtain ⟨rv62, h61, u⟩ := bind_t u
 obtain ⟨rv64, h63, u⟩ := bind_t u
 refine wp_only (fun a w => ∃ Sv65, Sl 102 [(2, .pointer (some ⟨b9, 0, none⟩)), (3, .pointer (some ⟨b10, 0, none⟩)), (73, .agg #[.int .i64 rv46, .int .i64 rv48, .int .i64 rv50, .int .i64 rv52, .int .i64 rv54, .int .i64 rv56, .int .i64 rv58, .int .i64 rv60, .int .i64 rv62, .int .i64 rv64]), (74, .int .i64 0)] a ∧ Wd ⟨w0, S0, []⟩ Sv65 [.box b9 (C56 a1 p2 k3) 56, .box b10 (C56 b5 p6 k7) 56] [SlA p2 a1.Samples.length k3 a1.Samples, SlA p6 b5.Samples.length k7 b5.Samples] w) ?_ ?_
 ·refine h_c [0, 1] [] d rfl rfl (by kernel_rfl) rfl fun hC d => ?_
  refine gn 45 [0, 1, 2, 3, 5, 6, 8, 9, 10, 11, 13, 14, 15, 16, 18, 19, 20, 21, 22, 23, 25, 26, 27, 28, 29, 30, 32, 33, 34, 35, 37, 38, 39, 40, 42, 43, 44, 45, 47, 48, 49, 50, 51, 52, 55] [0, 1, 0, 1, 0, 1, 0, 1, 0, 1, 0, 1, 0, 1, 0, 1, 0, 1] s hC rfl rfl rfl fun a s => ?_
  refine ho 4 rfl ?_
  refine st_callR s (ref03_Compare_ok h45 d.bdom) (do_call Tryz.call136 rfl) trivial rfl rfl ?_
  rintro v69 Sv66 w a h67 rfl s
  have d := d.callB h67
  refine h_n [0, 1] [] d rfl rfl fun hC => ?_
  refine ho 7 rfl ?_
  refine st_callR s (ref14_number_ok h47 d.bdom) (do_call Tryz.call102 rfl) trivial rfl rfl ?_
  rintro v74 Sv71 w a h72 rfl s
  have d := d.callB h72
  refine h_n [0, 1] [] d rfl rfl fun hC => ?_
  refine ho 12 rfl ?_
  refine st_callR s (ref14_number_ok h49 d.bdom) (do_call Tryz.call102 rfl) trivial rfl rfl ?_
  rintro v79 Sv76 w a h77 rfl s
  have d := d.callB h77
  refine h_n [0, 1] [] d rfl rfl fun hC => ?_
  refine ho 17 rfl ?_
  refine st_callR s (ref14_number_ok h51 d.bdom) (do_call Tryz.call102 rfl) trivial rfl rfl ?_
  rintro v84 Sv81 w a h82 rfl s
  have d := d.callB h82
  refine h_n [0, 1] [] d rfl rfl fun hC => ?_
  refine ho 24 rfl ?_
  refine st_callR s (ref14_number_ok h53 d.bdom) (do_call Tryz.call102 rfl) trivial rfl rfl ?_
  rintro v89 Sv86 w a h87 rfl s
  have d := d.callB h87
  refine h_n [0, 1] [] d rfl rfl fun hC => ?_
  refine ho 31 rfl ?_
  refine st_callR s (ref14_number_ok h55 d.bdom) (do_call Tryz.call102 rfl) trivial rfl rfl ?_
  rintro v94 Sv91 w a h92 rfl s
  have d := d.callB h92
  refine h_n [0, 1] [] d rfl rfl fun hC => ?_
  refine ho 36 rfl ?_
  refine st_callR s (ref14_number_ok h57 d.bdom) (do_call Tryz.call102 rfl) trivial rfl rfl ?_
  rintro v99 Sv96 w a h97 rfl s
  have d := d.callB h97
  refine h_n [0, 1] [] d rfl rfl fun hC => ?_
  refine ho 41 rfl ?_
  refine st_callR s (ref14_number_ok h59 d.bdom) (do_call Tryz.call102 rfl) trivial rfl rfl ?_
  rintro v104 Sv101 w a h102 rfl s
  have d := d.callB h102
  refine h_n [0, 1] [] d rfl rfl fun hC => ?_
  refine ho 46 rfl ?_
  refine st_callR s (ref14_number_ok h61 d.bdom) (do_call Tryz.call102 rfl) trivial rfl rfl ?_
  rintro v109 Sv106 w a h107 rfl s
  have d := d.callB h107
  refine h_n [0, 1] [] d rfl rfl fun hC => ?_
  refine ho 53 rfl ?_
  refine st_callR s (ref14_number_ok h63 d.bdom) (do_call Tryz.call102 rfl) trivial rfl rfl ?_
  rintro v114 Sv111 w a h112 rfl s
  have d := d.callB h112
  refine h_n [0, 1] [] d rfl rfl fun hC => ?_
  refine gv s 54 rfl rfl hC (fun w hC => y_build (cells := [.int .i64 rv46, .int .i64 rv48, .int .i64 rv50, .int .i64 rv52, .int .i64 rv54, .int .i64 rv56, .int .i64 rv58, .int .i64 rv60, .int .i64 rv62, .int .i64 rv64]) (vs := [(0, .int .i64 rv46), (1, .int .i64 rv48), (2, .int .i64 rv50), (3, .int .i64 rv52), (4, .int .i64 rv54), (5, .int .i64 rv56), (6, .int .i64 rv58), (7, .int .i64 rv60), (8, .int .i64 rv62), (9, .int .i64 rv64)]) Bld150 rfl (by kernel_rfl)) fun a s => ?_
  refine h_done (by kernel_rfl) ?_
  exact ⟨Sv43, (s.wk rfl), (d.ft [0, 1] [0, 1] (by decide) rfl rfl)⟩
 rintro a w ⟨Sv65, s, d⟩
 refine then_normal (wp_block (wp_while (fun sv133 a w => ∃ Sv143, Sl 102 [(2, .pointer (some ⟨b9, 0, none⟩)), (3, .pointer (some ⟨b10, 0, none⟩)), (73, .agg #[.int .i64 rv46, .int .i64 rv48, .int .i64 rv50, .int .i64 rv52, .int .i64 rv54, .int .i64 rv56, .int .i64 rv58, .int .i64 rv60, .int .i64 rv62, .int .i64 rv64]), (74, .int .i64 sv133)] a ∧ Wd ⟨w0, S0, []⟩ Sv143 [.box b9 (C56 a1 p2 k3) 56, .box b10 (C56 b5 p6 k7) 56] [SlA p2 a1.Samples.length k3 a1.Samples, SlA p6 b5.Samples.length k7 b5.Samples] w) 0 u ⟨Sv65, (s.wk rfl), (d.ft [0, 1] [0, 1] (by decide) rfl rfl)⟩ ?_))
 repeat clear u
 rintro sv133 a w tv149 ⟨Sv143, s, d⟩ u hd148
 delta ref14_Compare_l2 at u
 refine sz 1 [] s d rfl rfl fun a s => ?_
 refine wp_seq (cd s u rfl (fun u => ?_) fun u => ?_)
 ·refine wp_skip (then_normal (wp_seq (wp_block (sr ?_))))
  obtain ⟨x158, h157, u⟩ := bind_t u
  refine sv s (y_idxA (α := Int) (xs := [rv46, rv48, rv50, rv52, rv54, rv56, rv58, rv60, rv62, rv64]) (cs := [.int .i64 rv46, .int .i64 rv48, .int .i64 rv50, .int .i64 rv52, .int .i64 rv54, .int .i64 rv56, .int .i64 rv58, .int .i64 rv60, .int .i64 rv62, .int .i64 rv64]) (es := [.int .i64 x158]) (v := .int .i64 x158) Tryz.runUnderlying150 Tryz.sizeOf3 (.inl ⟨Tryz.isAgg3, rfl⟩) rfl rfl rfl (fun _ _ => ⟨⟨_, rfl, rfl⟩, ⟨⟨_, rfl, rfl⟩, ⟨⟨_, rfl, rfl⟩, ⟨⟨_, rfl, rfl⟩, ⟨⟨_, rfl, rfl⟩, ⟨⟨_, rfl, rfl⟩, ⟨⟨_, rfl, rfl⟩, ⟨⟨_, rfl, rfl⟩, ⟨⟨_, rfl, rfl⟩, ⟨⟨_, rfl, rfl⟩, rfl⟩⟩⟩⟩⟩⟩⟩⟩⟩⟩) h157 (fun _ _ _ he => by obtain ⟨_, rfl, rfl⟩ := he; rfl)) rfl fun a s => ?_
  refine rz 1 [] s d rfl rfl fun a s => ?_
  refine sz 2 [] s d rfl rfl fun a s => ?_
  refine cd s u rfl (fun u => ?_) fun u => ?_
  ·refine sz 2 [] s d rfl rfl fun a s => ?_
   have u := oi u
   subst u
   have h161 := hd148 _ rfl
   subst h161
   exact wp_ret (blk_ret (then_ret (then_ret (blk_ret (then_ret (ret1 s rfl (rv_tmp rfl) (d.ret rfl)))))))
  refine wp_skip (blk_normal (then_normal (wp_region_lit (rz 2 [] s d rfl rfl fun a s => ?_))))
  exact ⟨_, (Option.some.inj u).symm, Sv143, (s.wk rfl), (d.ft [0, 1] [0, 1] (by decide) rfl rfl)⟩
 obtain ⟨rv445, u, h446⟩ := map_t u
 have h446 := (hd148 _ h446.symm).symm
 subst h446
 refine wp_exit (then_exit (then_exit (blk_exit (then_normal (wp_seq (sz 1 [] s d rfl rfl fun a s => ?_))))))
 refine wp_block (wp_while (fun sv266 a w => ∃ Sv334, Sl 102 [(2, .pointer (some ⟨b9, 0, none⟩)), (3, .pointer (some ⟨b10, 0, none⟩)), (9, .int .i64 sv266)] a ∧ Wd ⟨w0, S0, []⟩ Sv334 [.box b9 (C56 a1 p2 k3) 56, .box b10 (C56 b5 p6 k7) 56] [SlA p2 a1.Samples.length k3 a1.Samples, SlA p6 b5.Samples.length k7 b5.Samples] w) 0 u ⟨Sv143, (s.wk rfl), (d.ft [0, 1] [0, 1] (by decide) rfl rfl)⟩ ?_)
 repeat clear u
 rintro sv266 a w tv369 ⟨Sv334, s, d⟩ u hd368
 delta ref14_Compare_l4 at u
 refine wp_seq (sz 5 [0] s d rfl rfl fun a s => ?_)
 refine cd s u rfl (fun u => ?_) fun u => ?_
 ·refine wp_skip (then_normal (wp_seq (wp_block (wp_seq ?_))))
  obtain ⟨x406, h404, u⟩ := bind_t u
  obtain ⟨b412, o413, q410, c411, h414, h407, h408, h409, h405⟩ := d.elemV 0 rfl h404
  have hsv415 := s
  have hwv416 := d
  subst h414
  have s := hsv415
  have d := hwv416
  obtain ⟨_, rfl, rfl⟩ := h405
  have d := d.addE h409
  obtain ⟨x419, h417, u⟩ := bind_t u
  obtain ⟨b425, o426, q423, c424, h427, h420, h421, h422, h418⟩ := d.elemV 2 rfl h417
  have hsv428 := s
  have hwv429 := d
  subst h427
  have s := hsv428
  have d := hwv429
  obtain ⟨_, rfl, rfl⟩ := h418
  have d := d.addE h422
  obtain ⟨rv431, h430, u⟩ := bind_t u
  refine wp_only (fun a w => ∃ Sv432, Sl 102 [(2, .pointer (some ⟨b9, 0, none⟩)), (3, .pointer (some ⟨b10, 0, none⟩)), (9, .int .i64 sv266), (10, .int .i64 rv431)] a ∧ Wd ⟨w0, S0, []⟩ Sv432 [.box b9 (C56 a1 (some ⟨b412, o413, none⟩) k3) 56, .box b10 (C56 b5 (some ⟨b425, o426, none⟩) k7) 56] [SlA (some ⟨b412, o413, none⟩) a1.Samples.length k3 a1.Samples, SlA (some ⟨b425, o426, none⟩) b5.Samples.length k7 b5.Samples] w) ?_ ?_
  ·refine h_c [0, 1] [0, 1] d rfl rfl (by kernel_rfl) rfl fun hC d => ?_
   refine gn 3 [0, 1, 2] [0] s hC rfl rfl rfl fun a s => ?_
   refine gv s 3 rfl rfl hC (fun w hC => y_indexAt Tryz.runUnderlying22 Tryz.sizeOf3 rfl rfl h407.1 h407.2 h408) fun a s => ?_
   refine gv s 4 rfl rfl hC (fun w hC => y_loadE1 (j := 0) (hC.ceAt 1 rfl) rfl Tryz.isAgg3 rfl) fun a s => ?_
   refine gn 3 [5, 6, 7] [1] s hC rfl rfl rfl fun a s => ?_
   refine gv s 8 rfl rfl hC (fun w hC => y_indexAt Tryz.runUnderlying22 Tryz.sizeOf3 rfl rfl h420.1 h420.2 h421) fun a s => ?_
   refine gv s 9 rfl rfl hC (fun w hC => y_loadE1 (j := 0) (hC.ceAt 0 rfl) rfl Tryz.isAgg3 rfl) fun a s => ?_
   refine ho 10 rfl ?_
   refine st_callR s (ref14_number_ok h430 d.bdom) (do_call Tryz.call102 rfl) trivial rfl rfl ?_
   rintro v436 Sv433 w a h434 rfl s
   have d := d.callB h434
   refine h_n [0, 1] [0, 1] d rfl rfl fun hC => ?_
   refine gv s 11 rfl rfl hC (fun w hC => y_assign rfl) fun a s => ?_
   refine h_done (by kernel_rfl) ?_
   exact ⟨Sv334, (s.wk rfl), (d.ft [0, 1] [2, 3] (by decide) rfl rfl)⟩
  rintro a w ⟨Sv432, s, d⟩
  refine then_normal (sz 2 [] s d rfl rfl fun a s => ?_)
  refine cd s u rfl (fun u => ?_) fun u => ?_
  ·refine sz 2 [] s d rfl rfl fun a s => ?_
   have u := oi u
   subst u
   have h440 := hd368 _ rfl
   subst h440
   exact wp_ret (blk_ret (then_ret (then_ret (blk_ret (then_ret (ret1 s rfl (rv_tmp rfl) (d.ret rfl)))))))
  refine wp_skip (blk_normal (then_normal (wp_region_lit (rn 2 [] s d rfl rfl fun a s => ?_))))
  obtain ⟨i442, h441, u⟩ := bind_t u
  refine sv s (y_assignI rfl h441) rfl fun a s => ?_
  exact nl ⟨_, (Option.some.inj u).symm, Sv432, (s.wk rfl), (d.ft [0, 1] [0, 1] (by decide) rfl rfl)⟩
 obtain ⟨rv443, u, h444⟩ := map_t u
 have h444 := (hd368 _ h444.symm).symm
 subst h444
 refine wp_exit (then_exit (then_exit (blk_exit (then_normal (sz 1 [] s d rfl rfl fun a s => ?_)))))
 have u := oi u
 subst u
 exact wp_ret (ret1 s rfl (rv_tmp rfl) (d.ret rfl))
theorem ref15_order_ok {w0 S0 p2 k3 l1 r} (u : ref15_order l1 = some r) (hS : Dm S0 w0) (h4 : (SlA p2 l1.length k3 l1).p S0 w0) : Calls Tryz.prog 59 #[.slice p2 l1.length k3] w0 (Ret ([]) w0 S0 (slices_Clone_Lapi_Record_api_Record_rd w0 ([]) r)) := by
 refine en 69 Tryz.func59 rfl hS rfl rfl rfl fun a s d => ?_
 have d := d.addE h4
 delta ref15_order at u
 refine sz 1 [] s d rfl rfl fun a s => ?_
 refine sz 1 [] s d rfl rfl fun a s => ?_
 refine wp_seq (sz 1 [] s d rfl rfl fun a s => ?_)
 obtain ⟨e773, h1414, u⟩ := bind_t u
 refine wp_join (fun a w => ∃ c774 p775 k776 Sv777, Sl 69 [(3, .slice p775 e773.length k776)] a ∧ Wd ⟨w0, S0, []⟩ Sv777 [.row p775 e773.length k776 c774 56 12] [RowA c774 e773] w) ?_ ?_
 ·refine wp_block ?_
  have d := d.nilRow Record 56
  refine wp_while (fun sv5 a w => ∃ c514 p515 k516 Sv517, Sl 69 [(0, .slice p2 l1.length k3), (3, .slice p515 sv5.1.length k516), (4, .int .i64 sv5.2)] a ∧ Wd ⟨w0, S0, []⟩ Sv517 [.row p515 sv5.1.length k516 c514 56 12] [SlA p2 l1.length k3 l1, RowA c514 sv5.1] w) (([] : List Record), 0) h1414 ⟨[], none, 0, S0, (s.wk rfl), (d.ft [0] [1, 0] (by decide) rfl rfl)⟩ ?_
  clear h1414
  repeat clear u
  rintro sv5 a w tv771 ⟨c514, p515, k516, Sv517, s, d⟩ u hd770
  delta ref15_order_l3 at u
  refine wp_seq (sz 4 [] s d rfl rfl fun a s => ?_)
  refine cd s u rfl (fun u => ?_) fun u => ?_
  ·refine wp_skip (then_normal (wp_seq (wp_join (fun a w => ∃ (out1028 : (List Record)) (c1024 p1025 k1026 Sv1027 : _), ref15_order_j1 sv5 out1028 = some tv771 ∧ Sl 69 [(0, .slice p2 l1.length k3), (3, .slice p1025 out1028.length k1026), (4, .int .i64 sv5.2)] a ∧ Wd ⟨w0, S0, []⟩ Sv1027 [.row p1025 out1028.length k1026 c1024 56 12] [SlA p2 l1.length k3 l1, RowA c1024 out1028] w) ?_ ?_)))
   ·refine wp_block (sn 2 [] s d rfl rfl fun a s => ?_)
    obtain ⟨k1032, h1031, u⟩ := bind_t u
    refine sv s (y_assignI rfl h1031) rfl fun a s => ?_
    refine nl (wp_seq ?_)
    obtain ⟨e1162, h1412, u⟩ := bind_t u
    refine wp_join (fun a w => ∃ Sv1163, Sl 69 [(0, .slice p2 l1.length k3), (3, .slice p515 sv5.1.length k516), (4, .int .i64 sv5.2), (5, .int .i64 e1162)] a ∧ Wd ⟨w0, S0, []⟩ Sv1163 [.row p515 sv5.1.length k516 c514 56 12] [SlA p2 l1.length k3 l1, RowA c514 sv5.1] w) ?_ ?_
    ·refine wp_block (wp_while (fun sv1033 a w => ∃ Sv1117, Sl 69 [(0, .slice p2 l1.length k3), (3, .slice p515 sv5.1.length k516), (4, .int .i64 sv5.2), (5, .int .i64 sv1033)] a ∧ Wd ⟨w0, S0, []⟩ Sv1117 [.row p515 sv5.1.length k516 c514 56 12] [SlA p2 l1.length k3 l1, RowA c514 sv5.1] w) k1032 h1412 ⟨Sv517, (s.wk rfl), (d.ft [0] [0, 1] (by decide) rfl rfl)⟩ ?_)
     clear h1412
     repeat clear u
     rintro sv1033 a w tv1160 ⟨Sv1117, s, d⟩ u hd1159
     delta ref15_order_l6 at u
     refine wp_seq (wp_seq ?_)
     obtain ⟨c1200, hc1200, u⟩ := bind_t u
     refine wp_only (fun a w => ∃ Sv1201, Sl 69 [(0, .slice p2 l1.length k3), (3, .slice p515 sv5.1.length k516), (4, .int .i64 sv5.2), (5, .int .i64 sv1033), (28, .bool c1200)] a ∧ Wd ⟨w0, S0, []⟩ Sv1201 [.row p515 sv5.1.length k516 c514 56 12] [SlA p2 l1.length k3 l1, RowA c514 sv5.1] w) ?_ ?_
     ·rcases Bool.eq_false_or_eq_true (decide (0 < sv1033)) with h1202 | h1202
      ·have h1203 := ite_t hc1200 h1202
       obtain ⟨x1206, h1204, h1203⟩ := bind_t h1203
       obtain ⟨b1213, q1210, c1211, h1214, h1207, h1208, h1212, h1205⟩ := d.elemRV (α := Record) 0 rfl 1 rfl h1204
       have hsv1215 := s
       have hwv1216 := d
       subst h1214
       have s := hsv1215
       have d := hwv1216
       obtain ⟨_, _, _, _, _, _, _, _, _, _, _, _, rfl, rfl, rfl, rfl, rfl, rfl, rfl, rfl, rfl, rfl, rfl, rfl, ⟨p1217, n1218, k1219, rfl, h1220⟩⟩ := h1205
       obtain rfl := h1220.1
       have d := d.addE (e := SlA p1217 _ k1219 x1206.Samples) h1220
       obtain ⟨x1223, h1221, h1203⟩ := bind_t h1203
       obtain ⟨b1229, o1230, q1227, c1228, h1231, h1224, h1225, h1226, h1222⟩ := d.elemV 1 rfl h1221
       have hsv1232 := s
       have hwv1233 := d
       subst h1231
       have s := hsv1232
       have d := hwv1233
       obtain ⟨_, _, _, _, _, _, _, _, _, _, _, _, rfl, rfl, rfl, rfl, rfl, rfl, rfl, rfl, rfl, rfl, rfl, rfl, ⟨p1234, n1235, k1236, rfl, h1237⟩⟩ := h1222
       obtain rfl := h1237.1
       have d := (d.addE (e := SlA p1234 _ k1236 x1223.Samples) h1237).addE h1226
       obtain ⟨rv1239, h1238, h1203⟩ := bind_t h1203
       refine h_c [0] [0] d rfl rfl (by kernel_rfl) rfl fun hC d => ?_
       refine gn 3 [0, 1, 2] [] s hC rfl rfl rfl fun a s => ?_
       have s := s.fix 16 (.bool true) rfl (vb h1202)
       refine gn 3 [3, 4, 5] [] s hC rfl rfl rfl fun a s => ?_
       refine gt s 6 rfl ⟨_, rfl, rfl⟩ rfl hC (fun w hC => y_indexAt Tryz.runUnderlying28 Tryz.sizeOf56 rfl rfl h1207.1 h1207.2 h1208) fun a s => ?_
       refine gt s 7 rfl ⟨_, rfl, rfl⟩ rfl hC (fun w hC => y_loadQA (j := 0) (hC.ownAt 0 rfl) rfl Tryz.isAgg56 Tryz.sizeOf56 h1212 rfl rfl) fun a s => ?_
       refine gn 2 [8, 9] [] s hC rfl rfl rfl fun a s => ?_
       refine gt s 10 rfl ⟨_, rfl, rfl⟩ rfl hC (fun w hC => y_indexAt Tryz.runUnderlying28 Tryz.sizeOf56 rfl rfl h1224.1 h1224.2 h1225) fun a s => ?_
       refine gt s 11 rfl ⟨_, rfl, rfl⟩ rfl hC (fun w hC => y_loadEA (j := 0) (hC.ceAt 0 rfl) rfl Tryz.isAgg56 Tryz.sizeOf56 rfl rfl) fun a s => ?_
       refine ho 12 rfl ?_
       refine st_callR s (ref14_Compare_ok h1238 d.bdom (d.bE 2 rfl) (d.bE 1 rfl)) (do_call Tryz.call96 rfl) ⟨_, rfl, rfl⟩ rfl rfl ?_
       rintro v1243 Sv1240 w a h1241 rfl s
       have d := d.callB h1241
       refine h_n [0] [0] d rfl rfl fun hC => ?_
       refine gt s 13 rfl ⟨_, rfl, rfl⟩ rfl hC (fun w hC => y_gtr rfl rfl) fun a s => ?_
       refine gv s 14 rfl rfl hC (fun w hC => y_pickTE (v := .bool c1200) rfl rfl (vbs h1203)) fun a s => ?_
       refine h_done (by kernel_rfl) ?_
       exact ⟨Sv1117, (s.wk rfl), (d.ft [0] [3, 4] (by decide) rfl rfl)⟩
      have h1245 := ite_f hc1200 h1202
      refine h_c [0] [] d rfl rfl (by kernel_rfl) rfl fun hC d => ?_
      refine gn 3 [0, 1, 2] [] s hC rfl rfl rfl fun a s => ?_
      have s := s.fix 16 (.bool false) rfl (vb h1202)
      refine gn 11 [3, 4, 5, 6, 7, 8, 9, 10, 11, 12, 13] [] s hC rfl rfl rfl fun a s => ?_
      refine gv s 14 rfl rfl hC (fun w hC => y_pickFE (v := .bool c1200) rfl rfl (vbs h1245)) fun a s => ?_
      refine h_done (by kernel_rfl) ?_
      exact ⟨Sv1117, (s.wk rfl), (d.ft [0] [0, 1] (by decide) rfl rfl)⟩
     rintro a w ⟨Sv1201, s, d⟩
     refine then_normal (cd s u rfl (fun u => ?_) fun u => ?_)
     ·refine wp_skip (then_normal (wp_block (wp_region_lit (rn 2 [] s d rfl rfl fun a s => ?_))))
      obtain ⟨k1251, h1250, u⟩ := bind_t u
      refine sv s (y_assignI rfl h1250) rfl fun a s => ?_
      refine wpList_nil ?_
      exact blk_normal (then_normal ⟨_, (Option.some.inj u).symm, Sv1201, (s.wk rfl), (d.ft [0] [0, 1] (by decide) rfl rfl)⟩)
     refine wp_exit (then_exit (then_exit (blk_exit ?_)))
     have u := oi u
     subst u
     have h1252 := hd1159 _ rfl
     subst h1252
     exact then_normal ⟨Sv1201, (s.wk rfl), (d.ft [0] [0, 1] (by decide) rfl rfl)⟩
    rintro a w ⟨Sv1163, s, d⟩
    refine then_normal (wp_seq (wp_seq ?_))
    obtain ⟨c1289, hc1289, u⟩ := bind_t u
    refine wp_only (fun a w => ∃ Sv1290, Sl 69 [(0, .slice p2 l1.length k3), (3, .slice p515 sv5.1.length k516), (4, .int .i64 sv5.2), (5, .int .i64 e1162), (45, .bool c1289)] a ∧ Wd ⟨w0, S0, []⟩ Sv1290 [.row p515 sv5.1.length k516 c514 56 12] [SlA p2 l1.length k3 l1, RowA c514 sv5.1] w) ?_ ?_
    ·rcases Bool.eq_false_or_eq_true (decide (0 < e1162)) with h1291 | h1291
     ·have h1292 := ite_t hc1289 h1291
      obtain ⟨x1295, h1293, h1292⟩ := bind_t h1292
      obtain ⟨b1302, q1299, c1300, h1303, h1296, h1297, h1301, h1294⟩ := d.elemRV (α := Record) 0 rfl 1 rfl h1293
      have hsv1304 := s
      have hwv1305 := d
      subst h1303
      have s := hsv1304
      have d := hwv1305
      obtain ⟨_, _, _, _, _, _, _, _, _, _, _, _, rfl, rfl, rfl, rfl, rfl, rfl, rfl, rfl, rfl, rfl, rfl, rfl, ⟨p1306, n1307, k1308, rfl, h1309⟩⟩ := h1294
      obtain rfl := h1309.1
      have d := d.addE (e := SlA p1306 _ k1308 x1295.Samples) h1309
      obtain ⟨x1312, h1310, h1292⟩ := bind_t h1292
      obtain ⟨b1318, o1319, q1316, c1317, h1320, h1313, h1314, h1315, h1311⟩ := d.elemV 1 rfl h1310
      have hsv1321 := s
      have hwv1322 := d
      subst h1320
      have s := hsv1321
      have d := hwv1322
      obtain ⟨_, _, _, _, _, _, _, _, _, _, _, _, rfl, rfl, rfl, rfl, rfl, rfl, rfl, rfl, rfl, rfl, rfl, rfl, ⟨p1323, n1324, k1325, rfl, h1326⟩⟩ := h1311
      obtain rfl := h1326.1
      have d := (d.addE (e := SlA p1323 _ k1325 x1312.Samples) h1326).addE h1315
      obtain ⟨rv1328, h1327, h1292⟩ := bind_t h1292
      refine h_c [0] [0] d rfl rfl (by kernel_rfl) rfl fun hC d => ?_
      refine gn 3 [0, 1, 2] [] s hC rfl rfl rfl fun a s => ?_
      have s := s.fix 33 (.bool true) rfl (vb h1291)
      refine gn 3 [3, 4, 5] [] s hC rfl rfl rfl fun a s => ?_
      refine gt s 6 rfl ⟨_, rfl, rfl⟩ rfl hC (fun w hC => y_indexAt Tryz.runUnderlying28 Tryz.sizeOf56 rfl rfl h1296.1 h1296.2 h1297) fun a s => ?_
      refine gt s 7 rfl ⟨_, rfl, rfl⟩ rfl hC (fun w hC => y_loadQA (j := 0) (hC.ownAt 0 rfl) rfl Tryz.isAgg56 Tryz.sizeOf56 h1301 rfl rfl) fun a s => ?_
      refine gn 2 [8, 9] [] s hC rfl rfl rfl fun a s => ?_
      refine gt s 10 rfl ⟨_, rfl, rfl⟩ rfl hC (fun w hC => y_indexAt Tryz.runUnderlying28 Tryz.sizeOf56 rfl rfl h1313.1 h1313.2 h1314) fun a s => ?_
      refine gt s 11 rfl ⟨_, rfl, rfl⟩ rfl hC (fun w hC => y_loadEA (j := 0) (hC.ceAt 0 rfl) rfl Tryz.isAgg56 Tryz.sizeOf56 rfl rfl) fun a s => ?_
      refine ho 12 rfl ?_
      refine st_callR s (ref14_Compare_ok h1327 d.bdom (d.bE 2 rfl) (d.bE 1 rfl)) (do_call Tryz.call96 rfl) ⟨_, rfl, rfl⟩ rfl rfl ?_
      rintro v1332 Sv1329 w a h1330 rfl s
      have d := d.callB h1330
      refine h_n [0] [0] d rfl rfl fun hC => ?_
      refine gt s 13 rfl ⟨_, rfl, rfl⟩ rfl hC (fun w hC => y_eql rfl rfl) fun a s => ?_
      refine gv s 14 rfl rfl hC (fun w hC => y_pickTE (v := .bool c1289) rfl rfl (vbs h1292)) fun a s => ?_
      refine h_done (by kernel_rfl) ?_
      exact ⟨Sv1163, (s.wk rfl), (d.ft [0] [3, 4] (by decide) rfl rfl)⟩
     have h1334 := ite_f hc1289 h1291
     refine h_c [0] [] d rfl rfl (by kernel_rfl) rfl fun hC d => ?_
     refine gn 3 [0, 1, 2] [] s hC rfl rfl rfl fun a s => ?_
     have s := s.fix 33 (.bool false) rfl (vb h1291)
     refine gn 11 [3, 4, 5, 6, 7, 8, 9, 10, 11, 12, 13] [] s hC rfl rfl rfl fun a s => ?_
     refine gv s 14 rfl rfl hC (fun w hC => y_pickFE (v := .bool c1289) rfl rfl (vbs h1334)) fun a s => ?_
     refine h_done (by kernel_rfl) ?_
     exact ⟨Sv1163, (s.wk rfl), (d.ft [0] [0, 1] (by decide) rfl rfl)⟩
    rintro a w ⟨Sv1290, s, d⟩
    refine then_normal (cd s u rfl (fun u => ?_) fun u => ?_)
    ·exact wp_exit (then_exit (blk_exit (then_normal ⟨sv5.1, c514, p515, k516, Sv1290, u, (s.wk rfl), (d.ft [0] [0, 1] (by decide) rfl rfl)⟩)))
    refine wp_skip (then_normal (sn 3 [] s d rfl rfl fun a s => ?_))
    obtain ⟨x1339, h1337, u⟩ := bind_t u
    obtain ⟨b1345, o1346, q1343, c1344, h1347, h1340, h1341, h1342, h1338⟩ := d.elemV 0 rfl h1337
    have hsv1348 := s
    have hwv1349 := d
    subst h1347
    have s := hsv1348
    have d := hwv1349
    obtain ⟨_, _, _, _, _, _, _, _, _, _, _, _, rfl, rfl, rfl, rfl, rfl, rfl, rfl, rfl, rfl, rfl, rfl, rfl, ⟨p1350, n1351, k1352, rfl, h1353⟩⟩ := h1338
    obtain rfl := h1353.1
    have d := (d.addE (e := SlA p1350 _ k1352 x1339.Samples) h1353).addE h1342
    refine sv s (y_indexAt Tryz.runUnderlying28 Tryz.sizeOf56 rfl rfl h1340.1 h1340.2 h1341) rfl fun a s => ?_
    refine sv s (y_loadEA (j := 0) (d.ceAt 0 rfl) rfl Tryz.isAgg56 Tryz.sizeOf56 rfl rfl) rfl fun a s => ?_
    refine w_litSlice (α := Record) (vs := [V56 x1339 p1350 k1352]) (cs := (C56 x1339 p1350 k1352)) (xs := ([x1339] : List Record)) s d El28 rfl rfl rfl rfl rfl rfl ⟨⟨_, _, _, _, _, _, _, _, _, _, _, _, rfl, rfl, rfl, rfl, rfl, rfl, rfl, rfl, rfl, rfl, rfl, rfl, ⟨_, _, _, rfl, d.envAt 1 rfl⟩⟩, rfl⟩ rfl trivial rfl fun b1355 a w s d => ?_
    obtain ⟨l1357, h1356, u⟩ := bind_t u
    refine w_appendR (α := Record) s d El28 1 rfl rfl rfl 4 rfl 0 rfl 0 rfl h1356 rfl trivial ?_
    intro p1358 k1359 c1360 a w s d
    refine rz 1 [] s d rfl rfl fun a s => ?_
    refine wp_seq ?_
    obtain ⟨l1365, h1361, u⟩ := bind_t u
    obtain ⟨p1363, k1364, h1362⟩ := row_sub (α := Record) d 1 rfl h1361
    obtain ⟨l1370, h1366, u⟩ := bind_t u
    obtain ⟨p1368, k1369, h1367⟩ := row_sub (α := Record) d 1 rfl h1366
    obtain ⟨l1371, h1372, u⟩ := bind_t u
    refine wp_only (fun a w => ∃ Sv1375 c1373, Sl 69 [(0, .slice (some ⟨b1345, o1346, none⟩) l1.length k3), (3, .slice p1358 l1371.length k1359), (4, .int .i64 sv5.2), (5, .int .i64 e1162)] a ∧ Wd ⟨w0, S0, []⟩ Sv1375 [.row p1358 l1371.length k1359 c1373 56 12] [SlA (some ⟨b1345, o1346, none⟩) l1.length k3 l1, RowA c1373 l1371] w) ?_ ?_
    ·refine h_c [0] [2] d rfl rfl (by kernel_rfl) rfl fun hC d => ?_
     refine gn 3 [0, 1, 2] [] s hC rfl rfl rfl fun a s => ?_
     refine gv s 3 rfl rfl hC (fun w hC => y_slc Tryz.runUnderlying28 Tryz.sizeOf56 rfl ⟨_, rfl⟩ (by exact rfl) h1362) fun a s => ?_
     refine gn 2 [4, 5] [] s hC rfl rfl rfl fun a s => ?_
     refine gv s 6 rfl rfl hC (fun w hC => y_slc Tryz.runUnderlying28 Tryz.sizeOf56 rfl ⟨_, rfl⟩ (by exact rfl) h1367) fun a s => ?_
     refine ho 7 rfl ?_
     obtain ⟨ds_, h1378⟩ := src_vw (d.ownAt 1 rfl) (d.envAt 0 rfl) h1366 h1367
     refine w_copyC (α := Record) s d 1 rfl 0 rfl Tryz.runUnderlying28 Tryz.runUnderlying28 Tryz.sizeOf56 (by decide) h1361 h1362 rfl rfl rfl h1378.1 h1378.2.1 h1378.2.2 rfl trivial ?_
     intro c1373 a w s d
     rw [Option.some.inj h1372] at d
     have h1374 := (copy_lenS h1361 h1372)
     try have s := s.fl 3 rfl h1374
     try have s := s.fl 53 rfl h1374
     try have s := s.fl 57 rfl h1374
     refine h_n [0] [3] d rfl rfl fun hC => ?_
     refine h_done (by kernel_rfl) ?_
     exact ⟨Sv1290, c1373, (s.wk rfl), (d.ft [1] [5, 0] (by decide) rfl rfl)⟩
    rintro a w ⟨Sv1375, c1373, s, d⟩
    refine then_normal (wp_region_lit (rn 4 [] s d rfl rfl fun a s => ?_))
    obtain ⟨x1381, h1379, u⟩ := bind_t u
    obtain ⟨q1385, c1386, h1382, h1383, h1384, h1380⟩ := d.elemK 0 rfl h1379
    obtain ⟨_, _, _, _, _, _, _, _, _, _, _, _, rfl, rfl, rfl, rfl, rfl, rfl, rfl, rfl, rfl, rfl, rfl, rfl, ⟨p1387, n1388, k1389, rfl, h1390⟩⟩ := h1380
    obtain rfl := h1390.1
    have d := (d.addE (e := SlA p1387 _ k1389 x1381.Samples) h1390).addE h1384
    refine sv s (y_indexAt Tryz.runUnderlying28 Tryz.sizeOf56 rfl rfl h1382.1 h1382.2 h1383) rfl fun a s => ?_
    refine sv s (y_loadEA (j := 0) (d.ceAt 0 rfl) rfl Tryz.isAgg56 Tryz.sizeOf56 rfl rfl) rfl fun a s => ?_
    obtain ⟨x1393, h1391, u⟩ := bind_t u
    obtain ⟨b1400, q1397, c1398, h1401, h1394, h1395, h1399, h1392⟩ := d.elemRV (α := Record) 0 rfl 3 rfl h1391
    have hsv1402 := s
    have hwv1403 := d
    subst h1401
    have s := hsv1402
    have d := hwv1403
    obtain ⟨_, _, _, _, _, _, _, _, _, _, _, _, rfl, rfl, rfl, rfl, rfl, rfl, rfl, rfl, rfl, rfl, rfl, rfl, ⟨p1404, n1405, k1406, rfl, h1407⟩⟩ := h1392
    obtain rfl := h1407.1
    have d := d.addE (e := SlA p1404 _ k1406 x1393.Samples) h1407
    refine sv s (y_indexAt Tryz.runUnderlying28 Tryz.sizeOf56 rfl rfl h1394.1 h1394.2 h1395) rfl fun a s => ?_
    obtain ⟨l1409, h1408, u⟩ := bind_t u
    refine w_storeF (α := Record) s d 0 rfl 4 rfl h1395 rfl rfl Tryz.sizeOf56 rfl h1408 ⟨_, _, _, _, _, _, _, _, _, _, _, _, rfl, rfl, rfl, rfl, rfl, rfl, rfl, rfl, rfl, rfl, rfl, rfl, ⟨_, _, _, rfl, d.envAt 2 rfl⟩⟩ trivial ?_
    intro c1410 a w s d
    have h1411 := setM_len h1408
    try have s := s.fl 3 rfl h1411
    try have s := s.fl 61 rfl h1411
    refine wpList_nil ?_
    exact blk_normal (then_normal ⟨l1409, c1410, (some ⟨b1400, 0, none⟩), k1359, Sv1375, u, (s.wk rfl), (d.ft [0] [4, 0] (by decide) rfl rfl)⟩)
   rintro a w ⟨out1028, c1024, p1025, k1026, Sv1027, u, s, d⟩
   delta ref15_order_j1 at u
   refine then_normal (wp_region_lit (rn 2 [] s d rfl rfl fun a s => ?_))
   obtain ⟨i1030, h1029, u⟩ := bind_t u
   refine sv s (y_assignI rfl h1029) rfl fun a s => ?_
   exact nl ⟨_, (Option.some.inj u).symm, c1024, p1025, k1026, Sv1027, (s.wk rfl), (d.ft [0] [0, 1] (by decide) rfl rfl)⟩
  refine wp_exit (then_exit (then_exit (blk_exit ?_)))
  have u := oi u
  subst u
  have h1413 := hd770 _ rfl
  subst h1413
  exact then_normal ⟨c514, p515, k516, Sv517, (s.wk rfl), (d.ft [0] [1] (by decide) rfl rfl)⟩
 rintro a w ⟨c774, p775, k776, Sv777, s, d⟩
 refine then_normal (sz 2 [] s d rfl rfl fun a s => ?_)
 have u := oi u
 subst u
 exact wp_ret (ret1 s rfl (rv_tmp rfl) (d.ret ⟨p775, k776, c774, rfl, (d.outs [0] (by decide) rfl), (d.envAt 0 rfl)⟩))
theorem ref14_Better_ok {w0 S0 p2 k3 p6 k7 a1 b5 r} (u : ref14_Better a1 b5 = some r) (hS : Dm S0 w0) (h4 : (SlA p2 a1.Samples.length k3 a1.Samples).p S0 w0) (h8 : (SlA p6 b5.Samples.length k7 b5.Samples).p S0 w0) : Calls Tryz.prog 67 #[V56 a1 p2 k3, V56 b5 p6 k7] w0 (Ret ([]) w0 S0 (made_Light_rd w0 ([]) r)) := by
 refine en 35 Tryz.func67 rfl hS rfl rfl rfl fun a s d => ?_
 have d := (d.addE h4).addE h8
 delta ref14_Better at u
 refine sr (w_box (cs := (C56 a1 p2 k3)) s d rfl rfl rfl trivial ?_)
 intro b9 a w s d
 refine w_box (cs := (C56 b5 p6 k7)) s d rfl rfl rfl trivial ?_
 intro b10 a w s d
 refine rz 1 [] s d rfl rfl fun a s => ?_
 refine wp_seq (wp_seq ?_)
 obtain ⟨rv12, h11, u⟩ := bind_t u
 obtain ⟨rv14, h13, u⟩ := bind_t u
 obtain ⟨rv16, h15, u⟩ := bind_t u
 refine wp_only (fun a w => ∃ Sv17, Sl 35 [(2, .pointer (some ⟨b9, 0, none⟩)), (3, .pointer (some ⟨b10, 0, none⟩)), (22, .agg #[.int .i64 rv12, .int .i64 rv14, .int .i64 rv16]), (23, .int .i64 0)] a ∧ Wd ⟨w0, S0, []⟩ Sv17 [.box b9 (C56 a1 p2 k3) 56, .box b10 (C56 b5 p6 k7) 56] [SlA p2 a1.Samples.length k3 a1.Samples, SlA p6 b5.Samples.length k7 b5.Samples] w) ?_ ?_
 ·refine h_c [0, 1] [] d rfl rfl (by kernel_rfl) rfl fun hC d => ?_
  refine gn 13 [0, 1, 2, 3, 5, 6, 7, 8, 10, 11, 12, 13, 16] [1, 0, 0, 1, 0, 1] s hC rfl rfl rfl fun a s => ?_
  refine ho 4 rfl ?_
  refine st_callR s (ref14_number_ok h11 d.bdom) (do_call Tryz.call102 rfl) trivial rfl rfl ?_
  rintro v21 Sv18 w a h19 rfl s
  have d := d.callB h19
  refine h_n [0, 1] [] d rfl rfl fun hC => ?_
  refine ho 9 rfl ?_
  refine st_callR s (ref14_number_ok h13 d.bdom) (do_call Tryz.call102 rfl) trivial rfl rfl ?_
  rintro v26 Sv23 w a h24 rfl s
  have d := d.callB h24
  refine h_n [0, 1] [] d rfl rfl fun hC => ?_
  refine ho 14 rfl ?_
  refine st_callR s (ref14_number_ok h15 d.bdom) (do_call Tryz.call102 rfl) trivial rfl rfl ?_
  rintro v31 Sv28 w a h29 rfl s
  have d := d.callB h29
  refine h_n [0, 1] [] d rfl rfl fun hC => ?_
  refine gv s 15 rfl rfl hC (fun w hC => y_build (vs := [(0, .int .i64 rv12), (1, .int .i64 rv14), (2, .int .i64 rv16)]) Bld131 rfl rfl) fun a s => ?_
  refine h_done (by kernel_rfl) ?_
  exact ⟨S0, (s.wk rfl), (d.ft [1, 0] [1, 0] (by decide) rfl rfl)⟩
 rintro a w ⟨Sv17, s, d⟩
 refine then_normal (wp_block (wp_while (fun sv50 a w => ∃ Sv60, Sl 35 [(2, .pointer (some ⟨b9, 0, none⟩)), (3, .pointer (some ⟨b10, 0, none⟩)), (22, .agg #[.int .i64 rv12, .int .i64 rv14, .int .i64 rv16]), (23, .int .i64 sv50)] a ∧ Wd ⟨w0, S0, []⟩ Sv60 [.box b9 (C56 a1 p2 k3) 56, .box b10 (C56 b5 p6 k7) 56] [SlA p2 a1.Samples.length k3 a1.Samples, SlA p6 b5.Samples.length k7 b5.Samples] w) 0 u ⟨Sv17, (s.wk rfl), (d.ft [0, 1] [0, 1] (by decide) rfl rfl)⟩ ?_))
 repeat clear u
 rintro sv50 a w tv66 ⟨Sv60, s, d⟩ u hd65
 delta ref14_Better_l2 at u
 refine sz 1 [] s d rfl rfl fun a s => ?_
 refine wp_seq (cd s u rfl (fun u => ?_) fun u => ?_)
 ·refine wp_skip (then_normal (wp_seq (wp_block (sr ?_))))
  obtain ⟨x75, h74, u⟩ := bind_t u
  refine sv s (y_idxA (α := Int) (xs := [rv12, rv14, rv16]) (cs := [.int .i64 rv12, .int .i64 rv14, .int .i64 rv16]) (es := [.int .i64 x75]) (v := .int .i64 x75) Tryz.runUnderlying131 Tryz.sizeOf3 (.inl ⟨Tryz.isAgg3, rfl⟩) rfl rfl rfl (fun _ _ => ⟨⟨_, rfl, rfl⟩, ⟨⟨_, rfl, rfl⟩, ⟨⟨_, rfl, rfl⟩, rfl⟩⟩⟩) h74 (fun _ _ _ he => by obtain ⟨_, rfl, rfl⟩ := he; rfl)) rfl fun a s => ?_
  refine rz 1 [] s d rfl rfl fun a s => ?_
  refine sz 2 [] s d rfl rfl fun a s => ?_
  refine cd s u rfl (fun u => ?_) fun u => ?_
  ·refine sz 3 [] s d rfl rfl fun a s => ?_
   have u := oi u
   subst u
   have h78 := hd65 _ rfl
   subst h78
   exact wp_ret (blk_ret (then_ret (then_ret (blk_ret (then_ret (ret1 s rfl (rv_tmp rfl) (d.ret rfl)))))))
  refine wp_skip (blk_normal (then_normal (wp_region_lit (rz 2 [] s d rfl rfl fun a s => ?_))))
  exact ⟨_, (Option.some.inj u).symm, Sv60, (s.wk rfl), (d.ft [0, 1] [0, 1] (by decide) rfl rfl)⟩
 obtain ⟨rv86, u, h87⟩ := map_t u
 have h87 := (hd65 _ h87.symm).symm
 subst h87
 refine wp_exit (then_exit (then_exit (blk_exit (then_normal (sn 2 [0, 1] s d rfl rfl fun a s => ?_)))))
 obtain ⟨rv80, h79, u⟩ := bind_t u
 refine st_callR s (ref14_Compare_ok h79 d.bdom (d.bE 0 rfl) (d.bE 1 rfl)) (do_call Tryz.call96 rfl) trivial rfl rfl ?_
 rintro v84 Sv81 w a h82 rfl s
 have d := d.callB h82
 refine rz 2 [] s d rfl rfl fun a s => ?_
 have u := oi u
 subst u
 exact wp_ret (ret1 s rfl (rv_tmp rfl) (d.ret rfl))
abbrev ref14_Span_rd (w0 : World) (X : List Nat) (r : (Span × Int)) : Rd := fun S w v => v = .tuple #[V71 r.1, .int .i64 r.2]
theorem ref14_Span_ok {w0 S0 p2 k3 r1 r} (u : ref14_Span r1 = some r) (hS : Dm S0 w0) (h4 : (SlA p2 r1.Samples.length k3 r1.Samples).p S0 w0) : Calls Tryz.prog 31 #[V56 r1 p2 k3] w0 (Ret ([]) w0 S0 (ref14_Span_rd w0 ([]) r)) := by
 refine en 16 Tryz.func31 rfl hS rfl rfl rfl fun a s d => ?_
 have d := d.addE h4
 delta ref14_Span at u
 refine sr (w_box (cs := (C56 r1 p2 k3)) s d rfl rfl rfl trivial ?_)
 intro b5 a w s d
 refine w_alloc (cs := [.int .i64 0, .int .i64 0]) s d Tryz.zeroValue71 rfl rfl trivial ?_
 intro b6 a w s d
 refine rz 1 [] s d rfl rfl fun a s => ?_
 refine wp_seq (sn 1 [1] s d rfl rfl fun a s => ?_)
 obtain ⟨rv8, h7, u⟩ := bind_t u
 refine st_callR s (ref14_Valid_ok h7 d.bdom (d.bE 0 rfl)) (do_call Tryz.call60 rfl) trivial rfl rfl ?_
 rintro v12 Sv9 w a h10 rfl s
 have d := d.callB h10
 refine rz 1 [] s d rfl rfl fun a s => ?_
 refine cd s u rfl (fun u => ?_) fun u => ?_
 ·refine sr (sv s (y_build (vs := []) Bld71 rfl rfl) rfl fun a s => ?_)
  refine w_store (m := 2) (cs' := [.int .i64 0, .int .i64 0]) s d 0 rfl rfl rfl Tryz.sizeOf71 rfl rfl rfl rfl trivial ?_
  intro a w s d
  refine rz 1 [] s d rfl rfl fun a s => ?_
  have u := oi u
  subst u
  exact wp_ret (then_ret (ret2 s rfl (rv_cell d 0 rfl rfl Tryz.isAgg71 Tryz.sizeOf71 rfl) (rv_tmp rfl) (d.ret rfl)))
 refine wp_skip (then_normal (wp_seq ?_))
 obtain ⟨rv17, h16, u⟩ := bind_t u
 obtain ⟨rv19, h18, u⟩ := bind_t u
 refine wp_only (fun a w => ∃ Sv20, Sl 16 [(2, .pointer (some ⟨b6, 0, none⟩)), (3, .int .i64 0)] a ∧ Wd ⟨w0, S0, []⟩ Sv20 [.box b6 [.int .i64 rv17, .int .i64 rv19] 71] [] w) ?_ ?_
 ·refine h_c [1] [] d rfl rfl (by kernel_rfl) rfl fun hC d => ?_
  refine gn 5 [0, 2, 3, 4, 5] [0, 0, 0] s hC rfl rfl rfl fun a s => ?_
  refine ho 1 rfl ?_
  refine st_callR s (ref14_Time_ok h16 d.bdom (d.bE 0 rfl)) (do_call Tryz.call62 rfl) trivial rfl rfl ?_
  rintro v24 Sv21 w a h22 rfl s
  have d := d.callB h22
  refine h_n [1] [] d rfl rfl fun hC => ?_
  refine ho 6 rfl ?_
  refine st_callR s (ref14_Time_ok h18 d.bdom (d.bE 0 rfl)) (do_call Tryz.call62 rfl) trivial rfl rfl ?_
  rintro v29 Sv26 w a h27 rfl s
  have d := d.callB h27
  refine h_n [1] [] d rfl rfl fun hC => ?_
  refine gv s 7 rfl rfl hC (fun w hC => y_build (vs := [(0, .int .i64 rv17), (1, .int .i64 rv19)]) Bld71 rfl rfl) fun a s => ?_
  refine ho 8 rfl ?_
  refine w_store (m := 2) (cs' := [.int .i64 rv17, .int .i64 rv19]) s d 0 rfl rfl rfl Tryz.sizeOf71 rfl rfl rfl rfl trivial ?_
  intro a w s d
  refine h_n [1] [] d rfl rfl fun hC => ?_
  refine gv s 9 rfl rfl hC (fun w hC => y_assign rfl) fun a s => ?_
  refine h_done (by kernel_rfl) ?_
  exact ⟨S0, (s.wk rfl), (d.ft [0] [] (by decide) rfl rfl)⟩
 rintro a w ⟨Sv20, s, d⟩
 refine then_normal ?_
 have u := oi u
 subst u
 exact wp_ret (ret2 s rfl (rv_cell d 0 rfl rfl Tryz.isAgg71 Tryz.sizeOf71 rfl) (rv_tmp rfl) (d.ret rfl))
theorem ref08_Normal_ok {w0 S0 p2 k3 l1 r} (u : ref08_Normal l1 = some r) (hS : Dm S0 w0) (h4 : (SlA p2 l1.length k3 l1).p S0 w0) : Calls Tryz.prog 55 #[.slice p2 l1.length k3] w0 (Ret ([]) w0 S0 (slices_Clone_Lapi_Span_api_Span_rd w0 ([]) r)) := by
 refine en 117 Tryz.func55 rfl hS rfl rfl rfl fun a s d => ?_
 have d := d.addE h4
 delta ref08_Normal at u
 refine sz 1 [] s d rfl rfl fun a s => ?_
 refine sz 1 [] s d rfl rfl fun a s => ?_
 refine wp_seq (sz 1 [] s d rfl rfl fun a s => ?_)
 obtain ⟨e539, h1541, u⟩ := bind_t u
 refine wp_join (fun a w => ∃ c540 p541 k542 Sv543, Sl 117 [(3, .slice p541 e539.length k542)] a ∧ Wd ⟨w0, S0, []⟩ Sv543 [.row p541 e539.length k542 c540 71 2] [RowA c540 e539] w) ?_ ?_
 ·refine wp_block ?_
  have d := d.nilRow Span 71
  refine wp_while (fun sv5 a w => ∃ c358 p359 k360 Sv361, Sl 117 [(0, .slice p2 l1.length k3), (3, .slice p359 sv5.1.length k360), (4, .int .i64 sv5.2)] a ∧ Wd ⟨w0, S0, []⟩ Sv361 [.row p359 sv5.1.length k360 c358 71 2] [SlA p2 l1.length k3 l1, RowA c358 sv5.1] w) (([] : List Span), 0) h1541 ⟨[], none, 0, S0, (s.wk rfl), (d.ft [0] [1, 0] (by decide) rfl rfl)⟩ ?_
  clear h1541
  repeat clear u
  rintro sv5 a w tv537 ⟨c358, p359, k360, Sv361, s, d⟩ u hd536
  delta ref08_Normal_l3 at u
  refine wp_seq (sz 4 [] s d rfl rfl fun a s => ?_)
  refine cd s u rfl (fun u => ?_) fun u => ?_
  ·refine wp_skip (then_normal (wp_seq (wp_join (fun a w => ∃ (sorted716 : (List Span)) (c712 p713 k714 Sv715 : _), ref08_Normal_j1 sv5 sorted716 = some tv537 ∧ Sl 117 [(0, .slice p2 l1.length k3), (3, .slice p713 sorted716.length k714), (4, .int .i64 sv5.2)] a ∧ Wd ⟨w0, S0, []⟩ Sv715 [.row p713 sorted716.length k714 c712 71 2] [SlA p2 l1.length k3 l1, RowA c712 sorted716] w) ?_ ?_)))
   ·refine wp_block (wp_seq (wp_seq ?_))
    obtain ⟨x721, h719, u⟩ := bind_t u
    obtain ⟨b727, o728, q725, c726, h729, h722, h723, h724, h720⟩ := d.elemV 0 rfl h719
    have hsv730 := s
    have hwv731 := d
    subst h729
    have s := hsv730
    have d := hwv731
    obtain ⟨_, _, rfl, rfl, rfl⟩ := h720
    have d := d.addE h724
    obtain ⟨x734, h732, u⟩ := bind_t u
    obtain ⟨q738, c739, h735, h736, h737, h733⟩ := d.elemK 1 rfl h732
    obtain ⟨_, _, rfl, rfl, rfl⟩ := h733
    have d := d.addE h737
    refine wp_only (fun a w => ∃ Sv740, Sl 117 [(0, .slice (some ⟨b727, o728, none⟩) l1.length k3), (3, .slice p359 sv5.1.length k360), (4, .int .i64 sv5.2), (25, .bool (decide (x734.To ≤ x721.From)))] a ∧ Wd ⟨w0, S0, []⟩ Sv740 [.row p359 sv5.1.length k360 c358 71 2] [SlA (some ⟨b727, o728, none⟩) l1.length k3 l1, RowA c358 sv5.1] w) ?_ ?_
    ·refine h_c [0] [0, 1] d rfl rfl (by kernel_rfl) rfl fun hC d => ?_
     refine gn 2 [0, 1] [] s hC rfl rfl rfl fun a s => ?_
     refine gv s 2 rfl rfl hC (fun w hC => y_indexAt Tryz.runUnderlying30 Tryz.sizeOf71 rfl rfl h722.1 h722.2 h723) fun a s => ?_
     refine gv s 3 rfl rfl hC (fun w hC => y_fieldAddr (o' := q725 + 0) Tryz.runUnderlying71 rfl Tryz.sizeOf3 rfl rfl rfl) fun a s => ?_
     refine gv s 4 rfl rfl hC (fun w hC => y_loadE1 (j := 0) (hC.ceAt 1 rfl) rfl Tryz.isAgg3 rfl) fun a s => ?_
     refine gn 2 [5, 6] [] s hC rfl rfl rfl fun a s => ?_
     refine gv s 7 rfl rfl hC (fun w hC => y_indexAt Tryz.runUnderlying30 Tryz.sizeOf71 rfl rfl h735.1 h735.2 h736) fun a s => ?_
     refine gv s 8 rfl rfl hC (fun w hC => y_fieldAddr (o' := q738 + 1) Tryz.runUnderlying71 rfl Tryz.sizeOf3 rfl rfl rfl) fun a s => ?_
     refine gv s 9 rfl rfl hC (fun w hC => y_loadE1 (j := 1) (hC.ceAt 0 rfl) rfl Tryz.isAgg3 rfl) fun a s => ?_
     refine gv s 10 rfl rfl hC (fun w hC => y_geq rfl rfl) fun a s => ?_
     refine h_done (by kernel_rfl) ?_
     exact ⟨Sv361, (s.wk rfl), (d.ft [0] [2, 3] (by decide) rfl rfl)⟩
    rintro a w ⟨Sv740, s, d⟩
    refine then_normal (cd s u rfl (fun u => ?_) fun u => ?_)
    ·exact wp_exit (then_exit (blk_exit (then_normal ⟨sv5.1, c358, p359, k360, Sv740, u, (s.wk rfl), (d.ft [0] [0, 1] (by decide) rfl rfl)⟩)))
    refine wp_skip (then_normal (sn 2 [] s d rfl rfl fun a s => ?_))
    obtain ⟨k744, h743, u⟩ := bind_t u
    refine sv s (y_assignI rfl h743) rfl fun a s => ?_
    refine nl (wp_seq ?_)
    obtain ⟨e829, h943, u⟩ := bind_t u
    refine wp_join (fun a w => ∃ Sv830, Sl 117 [(0, .slice (some ⟨b727, o728, none⟩) l1.length k3), (3, .slice p359 sv5.1.length k360), (4, .int .i64 sv5.2), (5, .int .i64 e829)] a ∧ Wd ⟨w0, S0, []⟩ Sv830 [.row p359 sv5.1.length k360 c358 71 2] [SlA (some ⟨b727, o728, none⟩) l1.length k3 l1, RowA c358 sv5.1] w) ?_ ?_
    ·refine wp_block (wp_while (fun sv745 a w => ∃ Sv799, Sl 117 [(0, .slice (some ⟨b727, o728, none⟩) l1.length k3), (3, .slice p359 sv5.1.length k360), (4, .int .i64 sv5.2), (5, .int .i64 sv745)] a ∧ Wd ⟨w0, S0, []⟩ Sv799 [.row p359 sv5.1.length k360 c358 71 2] [SlA (some ⟨b727, o728, none⟩) l1.length k3 l1, RowA c358 sv5.1] w) k744 h943 ⟨Sv740, (s.wk rfl), (d.ft [0] [0, 1] (by decide) rfl rfl)⟩ ?_)
     clear h943
     repeat clear u
     rintro sv745 a w tv827 ⟨Sv799, s, d⟩ u hd826
     delta ref08_Normal_l6 at u
     refine wp_seq (wp_seq ?_)
     obtain ⟨c852, hc852, u⟩ := bind_t u
     refine wp_only (fun a w => ∃ Sv853, Sl 117 [(0, .slice (some ⟨b727, o728, none⟩) l1.length k3), (3, .slice p359 sv5.1.length k360), (4, .int .i64 sv5.2), (5, .int .i64 sv745), (43, .bool c852)] a ∧ Wd ⟨w0, S0, []⟩ Sv853 [.row p359 sv5.1.length k360 c358 71 2] [SlA (some ⟨b727, o728, none⟩) l1.length k3 l1, RowA c358 sv5.1] w) ?_ ?_
     ·rcases Bool.eq_false_or_eq_true (decide (0 < sv745)) with h854 | h854
      ·have h855 := ite_t hc852 h854
       obtain ⟨x858, h856, h855⟩ := bind_t h855
       obtain ⟨b865, q862, c863, h866, h859, h860, h864, h857⟩ := d.elemRV (α := Span) 0 rfl 1 rfl h856
       have hsv867 := s
       have hwv868 := d
       subst h866
       have s := hsv867
       have d := hwv868
       obtain ⟨_, _, rfl, rfl, rfl⟩ := h857
       obtain ⟨x871, h869, h855⟩ := bind_t h855
       obtain ⟨q875, c876, h872, h873, h874, h870⟩ := d.elemK 0 rfl h869
       obtain ⟨_, _, rfl, rfl, rfl⟩ := h870
       have d := d.addE h874
       refine h_c [0] [0] d rfl rfl (by kernel_rfl) rfl fun hC d => ?_
       refine gn 3 [0, 1, 2] [] s hC rfl rfl rfl fun a s => ?_
       have s := s.fix 30 (.bool true) rfl (vb h854)
       refine gn 3 [3, 4, 5] [] s hC rfl rfl rfl fun a s => ?_
       refine gt s 6 rfl ⟨_, rfl, rfl⟩ rfl hC (fun w hC => y_indexAt Tryz.runUnderlying30 Tryz.sizeOf71 rfl rfl h859.1 h859.2 h860) fun a s => ?_
       refine gt s 7 rfl ⟨_, rfl, rfl⟩ rfl hC (fun w hC => y_fieldAddr (o' := q862 + 0) Tryz.runUnderlying71 rfl Tryz.sizeOf3 rfl rfl rfl) fun a s => ?_
       refine gt s 8 rfl ⟨_, rfl, rfl⟩ rfl hC (fun w hC => y_loadQ1 (j := 0) (hC.ownAt 0 rfl) rfl Tryz.isAgg3 h864 rfl) fun a s => ?_
       refine gn 2 [9, 10] [] s hC rfl rfl rfl fun a s => ?_
       refine gt s 11 rfl ⟨_, rfl, rfl⟩ rfl hC (fun w hC => y_indexAt Tryz.runUnderlying30 Tryz.sizeOf71 rfl rfl h872.1 h872.2 h873) fun a s => ?_
       refine gt s 12 rfl ⟨_, rfl, rfl⟩ rfl hC (fun w hC => y_fieldAddr (o' := q875 + 0) Tryz.runUnderlying71 rfl Tryz.sizeOf3 rfl rfl rfl) fun a s => ?_
       refine gt s 13 rfl ⟨_, rfl, rfl⟩ rfl hC (fun w hC => y_loadE1 (j := 0) (hC.ceAt 0 rfl) rfl Tryz.isAgg3 rfl) fun a s => ?_
       refine gt s 14 rfl ⟨_, rfl, rfl⟩ rfl hC (fun w hC => y_gtr rfl rfl) fun a s => ?_
       refine gv s 15 rfl rfl hC (fun w hC => y_pickTE (v := .bool c852) rfl rfl (vbs h855)) fun a s => ?_
       refine h_done (by kernel_rfl) ?_
       exact ⟨Sv799, (s.wk rfl), (d.ft [0] [1, 2] (by decide) rfl rfl)⟩
      have h877 := ite_f hc852 h854
      refine h_c [0] [] d rfl rfl (by kernel_rfl) rfl fun hC d => ?_
      refine gn 3 [0, 1, 2] [] s hC rfl rfl rfl fun a s => ?_
      have s := s.fix 30 (.bool false) rfl (vb h854)
      refine gn 12 [3, 4, 5, 6, 7, 8, 9, 10, 11, 12, 13, 14] [] s hC rfl rfl rfl fun a s => ?_
      refine gv s 15 rfl rfl hC (fun w hC => y_pickFE (v := .bool c852) rfl rfl (vbs h877)) fun a s => ?_
      refine h_done (by kernel_rfl) ?_
      exact ⟨Sv799, (s.wk rfl), (d.ft [0] [0, 1] (by decide) rfl rfl)⟩
     rintro a w ⟨Sv853, s, d⟩
     refine then_normal (cd s u rfl (fun u => ?_) fun u => ?_)
     ·refine wp_skip (then_normal (wp_block (wp_region_lit (rn 2 [] s d rfl rfl fun a s => ?_))))
      obtain ⟨k883, h882, u⟩ := bind_t u
      refine sv s (y_assignI rfl h882) rfl fun a s => ?_
      refine wpList_nil ?_
      exact blk_normal (then_normal ⟨_, (Option.some.inj u).symm, Sv853, (s.wk rfl), (d.ft [0] [0, 1] (by decide) rfl rfl)⟩)
     refine wp_exit (then_exit (then_exit (blk_exit ?_)))
     have u := oi u
     subst u
     have h884 := hd826 _ rfl
     subst h884
     exact then_normal ⟨Sv853, (s.wk rfl), (d.ft [0] [0, 1] (by decide) rfl rfl)⟩
    rintro a w ⟨Sv830, s, d⟩
    refine then_normal (sn 3 [] s d rfl rfl fun a s => ?_)
    obtain ⟨x887, h885, u⟩ := bind_t u
    obtain ⟨q891, c892, h888, h889, h890, h886⟩ := d.elemK 0 rfl h885
    obtain ⟨_, _, rfl, rfl, rfl⟩ := h886
    have d := d.addE h890
    refine sv s (y_indexAt Tryz.runUnderlying30 Tryz.sizeOf71 rfl rfl h888.1 h888.2 h889) rfl fun a s => ?_
    refine sv s (y_loadEA (j := 0) (d.ceAt 0 rfl) rfl Tryz.isAgg71 Tryz.sizeOf71 rfl rfl) rfl fun a s => ?_
    refine w_litSlice (α := Span) (vs := [V71 x887]) (cs := (C71 x887)) (xs := ([x887] : List Span)) s d El30 rfl rfl rfl rfl rfl rfl ⟨⟨_, _, rfl, rfl, rfl⟩, rfl⟩ rfl trivial rfl fun b894 a w s d => ?_
    obtain ⟨l896, h895, u⟩ := bind_t u
    refine w_appendR (α := Span) s d El30 1 rfl rfl rfl 3 rfl 0 rfl 0 rfl h895 rfl trivial ?_
    intro p897 k898 c899 a w s d
    refine rz 1 [] s d rfl rfl fun a s => ?_
    refine wp_seq ?_
    obtain ⟨l904, h900, u⟩ := bind_t u
    obtain ⟨p902, k903, h901⟩ := row_sub (α := Span) d 1 rfl h900
    obtain ⟨l909, h905, u⟩ := bind_t u
    obtain ⟨p907, k908, h906⟩ := row_sub (α := Span) d 1 rfl h905
    obtain ⟨l910, h911, u⟩ := bind_t u
    refine wp_only (fun a w => ∃ Sv914 c912, Sl 117 [(0, .slice (some ⟨b727, o728, none⟩) l1.length k3), (3, .slice p897 l910.length k898), (4, .int .i64 sv5.2), (5, .int .i64 e829)] a ∧ Wd ⟨w0, S0, []⟩ Sv914 [.row p897 l910.length k898 c912 71 2] [SlA (some ⟨b727, o728, none⟩) l1.length k3 l1, RowA c912 l910] w) ?_ ?_
    ·refine h_c [0] [2] d rfl rfl (by kernel_rfl) rfl fun hC d => ?_
     refine gn 3 [0, 1, 2] [] s hC rfl rfl rfl fun a s => ?_
     refine gv s 3 rfl rfl hC (fun w hC => y_slc Tryz.runUnderlying30 Tryz.sizeOf71 rfl ⟨_, rfl⟩ (by exact rfl) h901) fun a s => ?_
     refine gn 2 [4, 5] [] s hC rfl rfl rfl fun a s => ?_
     refine gv s 6 rfl rfl hC (fun w hC => y_slc Tryz.runUnderlying30 Tryz.sizeOf71 rfl ⟨_, rfl⟩ (by exact rfl) h906) fun a s => ?_
     refine ho 7 rfl ?_
     obtain ⟨ds_, h917⟩ := src_vw (d.ownAt 1 rfl) (d.envAt 0 rfl) h905 h906
     refine w_copyC (α := Span) s d 1 rfl 0 rfl Tryz.runUnderlying30 Tryz.runUnderlying30 Tryz.sizeOf71 (by decide) h900 h901 rfl rfl rfl h917.1 h917.2.1 h917.2.2 rfl trivial ?_
     intro c912 a w s d
     rw [Option.some.inj h911] at d
     have h913 := (copy_lenS h900 h911)
     try have s := s.fl 3 rfl h913
     try have s := s.fl 53 rfl h913
     try have s := s.fl 57 rfl h913
     refine h_n [0] [3] d rfl rfl fun hC => ?_
     refine h_done (by kernel_rfl) ?_
     exact ⟨Sv830, c912, (s.wk rfl), (d.ft [1] [4, 0] (by decide) rfl rfl)⟩
    rintro a w ⟨Sv914, c912, s, d⟩
    refine then_normal (wp_region_lit (rn 4 [] s d rfl rfl fun a s => ?_))
    obtain ⟨x920, h918, u⟩ := bind_t u
    obtain ⟨q924, c925, h921, h922, h923, h919⟩ := d.elemK 0 rfl h918
    obtain ⟨_, _, rfl, rfl, rfl⟩ := h919
    have d := d.addE h923
    refine sv s (y_indexAt Tryz.runUnderlying30 Tryz.sizeOf71 rfl rfl h921.1 h921.2 h922) rfl fun a s => ?_
    refine sv s (y_loadEA (j := 0) (d.ceAt 0 rfl) rfl Tryz.isAgg71 Tryz.sizeOf71 rfl rfl) rfl fun a s => ?_
    obtain ⟨x928, h926, u⟩ := bind_t u
    obtain ⟨b935, q932, c933, h936, h929, h930, h934, h927⟩ := d.elemRV (α := Span) 0 rfl 2 rfl h926
    have hsv937 := s
    have hwv938 := d
    subst h936
    have s := hsv937
    have d := hwv938
    obtain ⟨_, _, rfl, rfl, rfl⟩ := h927
    refine sv s (y_indexAt Tryz.runUnderlying30 Tryz.sizeOf71 rfl rfl h929.1 h929.2 h930) rfl fun a s => ?_
    obtain ⟨l940, h939, u⟩ := bind_t u
    refine w_storeF (α := Span) s d 0 rfl 2 rfl h930 rfl rfl Tryz.sizeOf71 rfl h939 ⟨_, _, rfl, rfl, rfl⟩ trivial ?_
    intro c941 a w s d
    have h942 := setM_len h939
    try have s := s.fl 3 rfl h942
    try have s := s.fl 61 rfl h942
    refine wpList_nil ?_
    exact blk_normal (then_normal ⟨l940, c941, (some ⟨b935, 0, none⟩), k898, Sv914, u, (s.wk rfl), (d.ft [0] [2, 0] (by decide) rfl rfl)⟩)
   rintro a w ⟨sorted716, c712, p713, k714, Sv715, u, s, d⟩
   delta ref08_Normal_j1 at u
   refine then_normal (wp_region_lit (rn 2 [] s d rfl rfl fun a s => ?_))
   obtain ⟨i718, h717, u⟩ := bind_t u
   refine sv s (y_assignI rfl h717) rfl fun a s => ?_
   exact nl ⟨_, (Option.some.inj u).symm, c712, p713, k714, Sv715, (s.wk rfl), (d.ft [0] [0, 1] (by decide) rfl rfl)⟩
  refine wp_exit (then_exit (then_exit (blk_exit ?_)))
  have u := oi u
  subst u
  have h944 := hd536 _ rfl
  subst h944
  exact then_normal ⟨c358, p359, k360, Sv361, (s.wk rfl), (d.ft [0] [1] (by decide) rfl rfl)⟩
 rintro a w ⟨c540, p541, k542, Sv543, s, d⟩
 refine then_normal (sz 1 [] s d rfl rfl fun a s => ?_)
 refine wp_seq (sz 1 [] s d rfl rfl fun a s => ?_)
 obtain ⟨e1248, h1540, u⟩ := bind_t u
 refine wp_join (fun a w => ∃ c1249 p1250 k1251 Sv1252, Sl 117 [(6, .slice p1250 e1248.length k1251)] a ∧ Wd ⟨w0, S0, []⟩ Sv1252 [.row p1250 e1248.length k1251 c1249 71 2] [RowA c1249 e1248] w) ?_ ?_
 ·refine wp_block ?_
  have d := d.nilRow Span 71
  refine wp_while (fun sv945 a w => ∃ c1142 p1143 k1144 Sv1145, Sl 117 [(3, .slice p541 e539.length k542), (6, .slice p1143 sv945.1.length k1144), (7, .int .i64 sv945.2)] a ∧ Wd ⟨w0, S0, []⟩ Sv1145 [.row p541 e539.length k542 c540 71 2, .row p1143 sv945.1.length k1144 c1142 71 2] [RowA c540 e539, RowA c1142 sv945.1] w) (([] : List Span), 0) h1540 ⟨[], none, 0, Sv543, (s.wk rfl), (d.ft [1, 0] [1, 0] (by decide) rfl rfl)⟩ ?_
  clear h1540
  repeat clear u
  rintro sv945 a w tv1246 ⟨c1142, p1143, k1144, Sv1145, s, d⟩ u hd1245
  delta ref08_Normal_l7 at u
  refine wp_seq (sz 4 [] s d rfl rfl fun a s => ?_)
  refine cd s u rfl (fun u => ?_) fun u => ?_
  ·refine wp_skip (then_normal (wp_seq (wp_block (sn 2 [] s d rfl rfl fun a s => ?_))))
   obtain ⟨n1352, h1351, u⟩ := bind_t u
   refine sv s (y_assignI rfl h1351) rfl fun a s => ?_
   refine nl (wp_seq ?_)
   obtain ⟨c1379, hc1379, u⟩ := bind_t u
   refine wp_only (fun a w => ∃ Sv1380, Sl 117 [(3, .slice p541 e539.length k542), (6, .slice p1143 sv945.1.length k1144), (7, .int .i64 sv945.2), (8, .int .i64 n1352), (91, .bool c1379)] a ∧ Wd ⟨w0, S0, []⟩ Sv1380 [.row p541 e539.length k542 c540 71 2, .row p1143 sv945.1.length k1144 c1142 71 2] [RowA c540 e539, RowA c1142 sv945.1] w) ?_ ?_
   ·rcases Bool.eq_false_or_eq_true (decide (0 < n1352)) with h1381 | h1381
    ·have h1382 := ite_t hc1379 h1381
     obtain ⟨x1385, h1383, h1382⟩ := bind_t h1382
     obtain ⟨b1392, q1389, c1390, h1393, h1386, h1387, h1391, h1384⟩ := d.elemRV (α := Span) 0 rfl 0 rfl h1383
     have hsv1394 := s
     have hwv1395 := d
     subst h1393
     have s := hsv1394
     have d := hwv1395
     obtain ⟨_, _, rfl, rfl, rfl⟩ := h1384
     obtain ⟨x1398, h1396, h1382⟩ := bind_t h1382
     obtain ⟨b1405, q1402, c1403, h1406, h1399, h1400, h1404, h1397⟩ := d.elemRV (α := Span) 1 rfl 1 rfl h1396
     have hsv1407 := s
     have hwv1408 := d
     subst h1406
     have s := hsv1407
     have d := hwv1408
     obtain ⟨_, _, rfl, rfl, rfl⟩ := h1397
     refine h_c [0, 1] [] d rfl rfl (by kernel_rfl) rfl fun hC d => ?_
     refine gn 3 [0, 1, 2] [] s hC rfl rfl rfl fun a s => ?_
     have s := s.fix 78 (.bool true) rfl (vb h1381)
     refine gn 2 [3, 4] [] s hC rfl rfl rfl fun a s => ?_
     refine gt s 5 rfl ⟨_, rfl, rfl⟩ rfl hC (fun w hC => y_indexAt Tryz.runUnderlying30 Tryz.sizeOf71 rfl rfl h1386.1 h1386.2 h1387) fun a s => ?_
     refine gt s 6 rfl ⟨_, rfl, rfl⟩ rfl hC (fun w hC => y_fieldAddr (o' := q1389 + 0) Tryz.runUnderlying71 rfl Tryz.sizeOf3 rfl rfl rfl) fun a s => ?_
     refine gt s 7 rfl ⟨_, rfl, rfl⟩ rfl hC (fun w hC => y_loadQ1 (j := 0) (hC.ownAt 0 rfl) rfl Tryz.isAgg3 h1391 rfl) fun a s => ?_
     refine gn 3 [8, 9, 10] [] s hC rfl rfl rfl fun a s => ?_
     refine gt s 11 rfl ⟨_, rfl, rfl⟩ rfl hC (fun w hC => y_indexAt Tryz.runUnderlying30 Tryz.sizeOf71 rfl rfl h1399.1 h1399.2 h1400) fun a s => ?_
     refine gt s 12 rfl ⟨_, rfl, rfl⟩ rfl hC (fun w hC => y_fieldAddr (o' := q1402 + 1) Tryz.runUnderlying71 rfl Tryz.sizeOf3 rfl rfl rfl) fun a s => ?_
     refine gt s 13 rfl ⟨_, rfl, rfl⟩ rfl hC (fun w hC => y_loadQ1 (j := 1) (hC.ownAt 1 rfl) rfl Tryz.isAgg3 h1404 rfl) fun a s => ?_
     refine gt s 14 rfl ⟨_, rfl, rfl⟩ rfl hC (fun w hC => y_leq rfl rfl) fun a s => ?_
     refine gv s 15 rfl rfl hC (fun w hC => y_pickTE (v := .bool c1379) rfl rfl (vbs h1382)) fun a s => ?_
     refine h_done (by kernel_rfl) ?_
     exact ⟨Sv1145, (s.wk rfl), (d.ft [0, 1] [0, 1] (by decide) rfl rfl)⟩
    have h1409 := ite_f hc1379 h1381
    refine h_c [0, 1] [] d rfl rfl (by kernel_rfl) rfl fun hC d => ?_
    refine gn 3 [0, 1, 2] [] s hC rfl rfl rfl fun a s => ?_
    have s := s.fix 78 (.bool false) rfl (vb h1381)
    refine gn 12 [3, 4, 5, 6, 7, 8, 9, 10, 11, 12, 13, 14] [] s hC rfl rfl rfl fun a s => ?_
    refine gv s 15 rfl rfl hC (fun w hC => y_pickFE (v := .bool c1379) rfl rfl (vbs h1409)) fun a s => ?_
    refine h_done (by kernel_rfl) ?_
    exact ⟨Sv1145, (s.wk rfl), (d.ft [0, 1] [0, 1] (by decide) rfl rfl)⟩
   rintro a w ⟨Sv1380, s, d⟩
   refine then_normal (wp_join (fun a w => ∃ (out1475 : (List Span)) (c1471 p1472 k1473 Sv1474 : _), ref08_Normal_j4 sv945 out1475 = some tv1246 ∧ Sl 117 [(3, .slice p541 e539.length k542), (6, .slice p1472 out1475.length k1473), (7, .int .i64 sv945.2)] a ∧ Wd ⟨w0, S0, []⟩ Sv1474 [.row p541 e539.length k542 c540 71 2, .row p1472 out1475.length k1473 c1471 71 2] [RowA c540 e539, RowA c1471 out1475] w) ?_ ?_)
   ·refine cd s u rfl (fun u => ?_) fun u => ?_
    ·obtain ⟨x1481, h1479, u⟩ := bind_t u
     obtain ⟨b1488, q1485, c1486, h1489, h1482, h1483, h1487, h1480⟩ := d.elemRV (α := Span) 1 rfl 1 rfl h1479
     have hsv1490 := s
     have hwv1491 := d
     subst h1489
     have s := hsv1490
     have d := hwv1491
     obtain ⟨_, _, rfl, rfl, rfl⟩ := h1480
     obtain ⟨x1494, h1492, u⟩ := bind_t u
     obtain ⟨b1501, q1498, c1499, h1502, h1495, h1496, h1500, h1493⟩ := d.elemRV (α := Span) 0 rfl 0 rfl h1492
     have hsv1503 := s
     have hwv1504 := d
     subst h1502
     have s := hsv1503
     have d := hwv1504
     obtain ⟨_, _, rfl, rfl, rfl⟩ := h1493
     obtain ⟨x1507, h1505, u⟩ := bind_t u
     obtain ⟨q1511, c1512, h1508, h1509, h1513, h1506⟩ := d.elemRK (α := Span) 1 rfl 1 rfl h1505
     obtain ⟨_, _, rfl, rfl, rfl⟩ := h1506
     obtain ⟨l1515, h1514, u⟩ := bind_t u
     refine wp_only (fun a w => ∃ Sv1518 c1516, Sl 117 [(3, .slice (some ⟨b1501, 0, none⟩) e539.length k542), (6, .slice (some ⟨b1488, 0, none⟩) l1515.length k1144), (7, .int .i64 sv945.2)] a ∧ Wd ⟨w0, S0, []⟩ Sv1518 [.row (some ⟨b1501, 0, none⟩) e539.length k542 c540 71 2, .row (some ⟨b1488, 0, none⟩) l1515.length k1144 c1516 71 2] [RowA c540 e539, RowA c1516 l1515] w) ?_ ?_
     ·refine h_c [0] [] d rfl rfl (by kernel_rfl) rfl fun hC d => ?_
      refine gn 6 [0, 1, 2, 3, 4, 5] [] s hC rfl rfl rfl fun a s => ?_
      refine gv s 6 rfl rfl hC (fun w hC => y_indexAt Tryz.runUnderlying30 Tryz.sizeOf71 rfl rfl h1482.1 h1482.2 h1483) fun a s => ?_
      refine gn 3 [7, 9, 10] [] s hC rfl rfl rfl fun a s => ?_
      refine gv s 11 rfl rfl hC (fun w hC => y_indexAt Tryz.runUnderlying30 Tryz.sizeOf71 rfl rfl h1495.1 h1495.2 h1496) fun a s => ?_
      refine gv s 12 rfl rfl hC (fun w hC => y_fieldAddr (o' := q1498 + 1) Tryz.runUnderlying71 rfl Tryz.sizeOf3 rfl rfl rfl) fun a s => ?_
      refine gv s 13 rfl rfl hC (fun w hC => y_loadQ1 (j := 1) (hC.ownAt 0 rfl) rfl Tryz.isAgg3 h1500 rfl) fun a s => ?_
      refine ho 8 rfl ?_
      refine sv s (y_loadQ1 (j := 1) (d.ownAt 1 rfl) rfl Tryz.isAgg3 h1487 rfl) rfl fun a s => ?_
      refine h_n [0] [] d rfl rfl fun hC => ?_
      refine gv s 14 rfl rfl hC (fun w hC => y_max rfl rfl) fun a s => ?_
      refine gv s 15 rfl rfl hC (fun w hC => y_indexAt Tryz.runUnderlying30 Tryz.sizeOf71 rfl rfl h1508.1 h1508.2 h1509) fun a s => ?_
      refine gv s 16 rfl rfl hC (fun w hC => y_fieldAddr (o' := q1511 + 1) Tryz.runUnderlying71 rfl Tryz.sizeOf3 rfl rfl rfl) fun a s => ?_
      refine ho 17 rfl ?_
      refine w_storeR (α := Span) (f := 1) (m := 1) s d 1 rfl 1 rfl h1509 rfl rfl Tryz.sizeOf3 rfl rfl rfl h1514 (fun es he => by rw [h1513] at he; subst he; exact ⟨_, _, rfl, rfl, rfl⟩) trivial ?_
      intro c1516 a w s d
      have h1517 := setM_len h1514
      try have s := s.fl 6 rfl h1517
      try have s := s.fl 92 rfl h1517
      try have s := s.fl 95 rfl h1517
      refine h_n [0] [] d rfl rfl fun hC => ?_
      refine h_done (by kernel_rfl) ?_
      exact ⟨Sv1380, c1516, (s.wk rfl), (d.ft [0, 1] [1, 0] (by decide) rfl rfl)⟩
     rintro a w ⟨Sv1518, c1516, s, d⟩
     exact then_normal ⟨l1515, c1516, (some ⟨b1488, 0, none⟩), k1144, Sv1518, u, (s.wk rfl), (d.ft [0, 1] [0, 1] (by decide) rfl rfl)⟩
    refine wp_region_lit (rn 3 [] s d rfl rfl fun a s => ?_)
    obtain ⟨x1521, h1519, u⟩ := bind_t u
    obtain ⟨b1528, q1525, c1526, h1529, h1522, h1523, h1527, h1520⟩ := d.elemRV (α := Span) 0 rfl 0 rfl h1519
    have hsv1530 := s
    have hwv1531 := d
    subst h1529
    have s := hsv1530
    have d := hwv1531
    obtain ⟨_, _, rfl, rfl, rfl⟩ := h1520
    refine sv s (y_indexAt Tryz.runUnderlying30 Tryz.sizeOf71 rfl rfl h1522.1 h1522.2 h1523) rfl fun a s => ?_
    refine sv s (y_loadQA (j := 0) (d.ownAt 0 rfl) rfl Tryz.isAgg71 Tryz.sizeOf71 h1527 rfl rfl) rfl fun a s => ?_
    refine w_litSlice (α := Span) (vs := [V71 x1521]) (cs := (C71 x1521)) (xs := ([x1521] : List Span)) s d El30 rfl rfl rfl rfl rfl rfl ⟨⟨_, _, rfl, rfl, rfl⟩, rfl⟩ rfl trivial rfl fun b1533 a w s d => ?_
    obtain ⟨l1535, h1534, u⟩ := bind_t u
    refine w_appendR (α := Span) s d El30 2 rfl rfl rfl 2 rfl 0 rfl 0 rfl h1534 rfl trivial ?_
    intro p1536 k1537 c1538 a w s d
    refine rz 1 [] s d rfl rfl fun a s => ?_
    exact ⟨l1535, c1538, p1536, k1537, Sv1380, u, (s.wk rfl), (d.ft [1, 2] [2, 0] (by decide) rfl rfl)⟩
   rintro a w ⟨out1475, c1471, p1472, k1473, Sv1474, u, s, d⟩
   delta ref08_Normal_j4 at u
   refine blk_normal (then_normal (wp_region_lit (rn 2 [] s d rfl rfl fun a s => ?_)))
   obtain ⟨i1477, h1476, u⟩ := bind_t u
   refine sv s (y_assignI rfl h1476) rfl fun a s => ?_
   exact nl ⟨_, (Option.some.inj u).symm, c1471, p1472, k1473, Sv1474, (s.wk rfl), (d.ft [0, 1] [0, 1] (by decide) rfl rfl)⟩
  refine wp_exit (then_exit (then_exit (blk_exit ?_)))
  have u := oi u
  subst u
  have h1539 := hd1245 _ rfl
  subst h1539
  exact then_normal ⟨c1142, p1143, k1144, Sv1145, (s.wk rfl), (d.ft [1] [1] (by decide) rfl rfl)⟩
 rintro a w ⟨c1249, p1250, k1251, Sv1252, s, d⟩
 refine then_normal (sz 2 [] s d rfl rfl fun a s => ?_)
 have u := oi u
 subst u
 exact wp_ret (ret1 s rfl (rv_tmp rfl) (d.ret ⟨p1250, k1251, c1249, rfl, (d.outs [0] (by decide) rfl), (d.envAt 0 rfl)⟩))
theorem ref08_Union_ok {w0 S0 p2 k3 p6 k7 a1 b5 r} (u : ref08_Union a1 b5 = some r) (hS : Dm S0 w0) (h4 : (SlA p2 a1.length k3 a1).p S0 w0) (h8 : (SlA p6 b5.length k7 b5).p S0 w0) : Calls Tryz.prog 17 #[.slice p2 a1.length k3, .slice p6 b5.length k7] w0 (Ret ([]) w0 S0 (slices_Clone_Lapi_Span_api_Span_rd w0 ([]) r)) := by
 refine en 10 Tryz.func17 rfl hS rfl rfl rfl fun a s d => ?_
 have d := (d.addE h4).addE h8
 delta ref08_Union at u
 refine sz 1 [] s d rfl rfl fun a s => ?_
 refine sn 1 [] s d rfl rfl fun a s => ?_
 obtain ⟨l10, h9, u⟩ := bind_t u
 have d := d.nilRow Span 71
 refine w_appendE (α := Span) s d El30 0 rfl rfl rfl 0 rfl 2 rfl h9 rfl trivial ?_
 intro p11 k12 c13 a w s d
 refine mv s rfl rfl fun a s => ?_
 obtain ⟨l15, h14, u⟩ := bind_t u
 refine w_appendE (α := Span) s d El30 0 rfl rfl rfl 0 rfl 2 rfl h14 rfl trivial ?_
 intro p16 k17 c18 a w s d
 obtain ⟨rv20, h19, u⟩ := bind_t u
 obtain ⟨Sv25, d⟩ := w_share (α := Span) d 0 rfl 0 rfl
 refine st_callR s (ref08_Normal_ok h19 d.dom (d.envAt 0 rfl)) (do_call Tryz.call55 rfl) trivial rfl rfl ?_
 rintro v29 Sv26 w a h27 ⟨p21, k22, c24, rfl, h30, h23⟩ s
 have d := (d.callN h27 h30).addE (e := RowA c24 rv20) h23
 refine rz 1 [] s d rfl rfl fun a s => ?_
 have u := oi u
 subst u
 exact wp_ret (ret1 s rfl (rv_tmp rfl) (d.ret ⟨p21, k22, c24, rfl, (d.outs [0] (by decide) rfl), (d.envAt 0 rfl)⟩))
theorem ref08_Meet_ok {w0 S0 p2 k3 p6 k7 a1 b5 r} (u : ref08_Meet a1 b5 = some r) (hS : Dm S0 w0) (h4 : (SlA p2 a1.length k3 a1).p S0 w0) (h8 : (SlA p6 b5.length k7 b5).p S0 w0) : Calls Tryz.prog 58 #[.slice p2 a1.length k3, .slice p6 b5.length k7] w0 (Ret ([]) w0 S0 (slices_Clone_Lapi_Span_api_Span_rd w0 ([]) r)) := by
 refine en 61 Tryz.func58 rfl hS rfl rfl rfl fun a s d => ?_
 have d := (d.addE h4).addE h8
 delta ref08_Meet at u
 refine sz 1 [] s d rfl rfl fun a s => ?_
 refine sn 1 [] s d rfl rfl fun a s => ?_
 obtain ⟨rv10, h9, u⟩ := bind_t u
 refine st_callR s (ref08_Normal_ok h9 d.dom (d.envAt 1 rfl)) (do_call Tryz.call55 rfl) trivial rfl rfl ?_
 rintro v18 Sv15 w a h16 ⟨p11, k12, c14, rfl, h19, h13⟩ s
 have d := (d.callN h16 h19).addE (e := RowA c14 rv10) h13
 refine mv s rfl rfl fun a s => ?_
 obtain ⟨rv21, h20, u⟩ := bind_t u
 refine st_callR s (ref08_Normal_ok h20 d.dom (d.envAt 1 rfl)) (do_call Tryz.call55 rfl) trivial rfl rfl ?_
 rintro v29 Sv26 w a h27 ⟨p22, k23, c25, rfl, h30, h24⟩ s
 have d := (d.callN h27 h30).addE (e := RowA c25 rv21) h24
 refine rz 2 [] s d rfl rfl fun a s => ?_
 refine sz 1 [] s d rfl rfl fun a s => ?_
 refine wp_seq (sz 1 [] s d rfl rfl fun a s => ?_)
 obtain ⟨e661, h1221, u⟩ := bind_t u
 refine wp_join (fun a w => ∃ c662 p663 k664 Sv665, Sl 61 [(7, .slice p663 e661.length k664)] a ∧ Wd ⟨w0, S0, []⟩ Sv665 [.row p663 e661.length k664 c662 71 2] [RowA c662 e661] w) ?_ ?_
 ·refine wp_block ?_
  have d := d.nilRow Span 71
  refine wp_while (fun sv31 a w => ∃ c448 p449 k450 Sv451, Sl 61 [(5, .slice p11 rv10.length k12), (6, .slice p22 rv21.length k23), (7, .slice p449 sv31.1.length k450), (8, .int .i64 sv31.2)] a ∧ Wd ⟨w0, S0, []⟩ Sv451 [.row p11 rv10.length k12 c14 71 2, .row p22 rv21.length k23 c25 71 2, .row p449 sv31.1.length k450 c448 71 2] [RowA c14 rv10, RowA c25 rv21, RowA c448 sv31.1] w) (([] : List Span), 0) h1221 ⟨[], none, 0, Sv26, (s.wk rfl), (d.ft [2, 1, 0] [2, 1, 0] (by decide) rfl rfl)⟩ ?_
  clear h1221
  repeat clear u
  rintro sv31 a w tv659 ⟨c448, p449, k450, Sv451, s, d⟩ u hd658
  delta ref08_Meet_l3 at u
  refine wp_seq (sz 4 [] s d rfl rfl fun a s => ?_)
  refine cd s u rfl (fun u => ?_) fun u => ?_
  ·refine wp_skip (then_normal (wp_seq (wp_block (sz 1 [] s d rfl rfl fun a s => ?_))))
   obtain ⟨e1069, h1207, u⟩ := bind_t u
   refine wp_join (fun a w => ∃ c1070 p1071 k1072 Sv1073, Sl 61 [(5, .slice p11 rv10.length k12), (6, .slice p22 rv21.length k23), (7, .slice p1071 e1069.length k1072), (8, .int .i64 sv31.2)] a ∧ Wd ⟨w0, S0, []⟩ Sv1073 [.row p11 rv10.length k12 c14 71 2, .row p22 rv21.length k23 c25 71 2, .row p1071 e1069.length k1072 c1070 71 2] [RowA c14 rv10, RowA c25 rv21, RowA c1070 e1069] w) ?_ ?_
   ·refine wp_block (wp_while (fun sv871 a w => ∃ c1000 p1001 k1002 Sv1003, Sl 61 [(5, .slice p11 rv10.length k12), (6, .slice p22 rv21.length k23), (7, .slice p1001 sv871.1.length k1002), (8, .int .i64 sv31.2), (9, .int .i64 sv871.2)] a ∧ Wd ⟨w0, S0, []⟩ Sv1003 [.row p11 rv10.length k12 c14 71 2, .row p22 rv21.length k23 c25 71 2, .row p1001 sv871.1.length k1002 c1000 71 2] [RowA c14 rv10, RowA c25 rv21, RowA c1000 sv871.1] w) (sv31.1, 0) h1207 ⟨c448, p449, k450, Sv451, (s.wk rfl), (d.ft [0, 1, 2] [0, 1, 2] (by decide) rfl rfl)⟩ ?_)
    clear h1207
    repeat clear u
    rintro sv871 a w tv1067 ⟨c1000, p1001, k1002, Sv1003, s, d⟩ u hd1066
    delta ref08_Meet_l6 at u
    refine wp_seq (sz 4 [] s d rfl rfl fun a s => ?_)
    refine cd s u rfl (fun u => ?_) fun u => ?_
    ·refine wp_skip (then_normal (wp_seq (wp_block (wp_seq ?_))))
     obtain ⟨x1137, h1135, u⟩ := bind_t u
     obtain ⟨b1144, q1141, c1142, h1145, h1138, h1139, h1143, h1136⟩ := d.elemRV (α := Span) 0 rfl 0 rfl h1135
     have hsv1146 := s
     have hwv1147 := d
     subst h1145
     have s := hsv1146
     have d := hwv1147
     obtain ⟨_, _, rfl, rfl, rfl⟩ := h1136
     obtain ⟨x1150, h1148, u⟩ := bind_t u
     obtain ⟨b1157, q1154, c1155, h1158, h1151, h1152, h1156, h1149⟩ := d.elemRV (α := Span) 1 rfl 1 rfl h1148
     have hsv1159 := s
     have hwv1160 := d
     subst h1158
     have s := hsv1159
     have d := hwv1160
     obtain ⟨_, _, rfl, rfl, rfl⟩ := h1149
     obtain ⟨x1163, h1161, u⟩ := bind_t u
     obtain ⟨q1167, c1168, h1164, h1165, h1169, h1162⟩ := d.elemRK (α := Span) 0 rfl 0 rfl h1161
     obtain ⟨_, _, rfl, rfl, rfl⟩ := h1162
     obtain ⟨x1172, h1170, u⟩ := bind_t u
     obtain ⟨q1176, c1177, h1173, h1174, h1178, h1171⟩ := d.elemRK (α := Span) 1 rfl 1 rfl h1170
     obtain ⟨_, _, rfl, rfl, rfl⟩ := h1171
     refine wp_only (fun a w => ∃ Sv1180 b1179, Sl 61 [(5, .slice (some ⟨b1144, 0, none⟩) rv10.length k12), (6, .slice (some ⟨b1157, 0, none⟩) rv21.length k23), (7, .slice p1001 sv871.1.length k1002), (8, .int .i64 sv31.2), (9, .int .i64 sv871.2), (10, .pointer (some ⟨b1179, 0, none⟩))] a ∧ Wd ⟨w0, S0, []⟩ Sv1180 [.box b1179 [.int .i64 (max x1137.From x1150.From), .int .i64 (min x1163.To x1172.To)] 71, .row (some ⟨b1144, 0, none⟩) rv10.length k12 c14 71 2, .row (some ⟨b1157, 0, none⟩) rv21.length k23 c25 71 2, .row p1001 sv871.1.length k1002 c1000 71 2] [RowA c14 rv10, RowA c25 rv21, RowA c1000 sv871.1] w) ?_ ?_
     ·refine h_c [0, 1, 2] [] d rfl rfl (by kernel_rfl) rfl fun hC d => ?_
      refine gn 2 [0, 1] [] s hC rfl rfl rfl fun a s => ?_
      refine gv s 2 rfl rfl hC (fun w hC => y_indexAt Tryz.runUnderlying30 Tryz.sizeOf71 rfl rfl h1138.1 h1138.2 h1139) fun a s => ?_
      refine gv s 3 rfl rfl hC (fun w hC => y_fieldAddr (o' := q1141 + 0) Tryz.runUnderlying71 rfl Tryz.sizeOf3 rfl rfl rfl) fun a s => ?_
      refine gv s 4 rfl rfl hC (fun w hC => y_loadQ1 (j := 0) (hC.ownAt 0 rfl) rfl Tryz.isAgg3 h1143 rfl) fun a s => ?_
      refine gn 2 [5, 6] [] s hC rfl rfl rfl fun a s => ?_
      refine gv s 7 rfl rfl hC (fun w hC => y_indexAt Tryz.runUnderlying30 Tryz.sizeOf71 rfl rfl h1151.1 h1151.2 h1152) fun a s => ?_
      refine gv s 8 rfl rfl hC (fun w hC => y_fieldAddr (o' := q1154 + 0) Tryz.runUnderlying71 rfl Tryz.sizeOf3 rfl rfl rfl) fun a s => ?_
      refine gv s 9 rfl rfl hC (fun w hC => y_loadQ1 (j := 0) (hC.ownAt 1 rfl) rfl Tryz.isAgg3 h1156 rfl) fun a s => ?_
      refine gn 3 [10, 11, 12] [] s hC rfl rfl rfl fun a s => ?_
      refine gv s 13 rfl rfl hC (fun w hC => y_indexAt Tryz.runUnderlying30 Tryz.sizeOf71 rfl rfl h1164.1 h1164.2 h1165) fun a s => ?_
      refine gv s 14 rfl rfl hC (fun w hC => y_fieldAddr (o' := q1167 + 1) Tryz.runUnderlying71 rfl Tryz.sizeOf3 rfl rfl rfl) fun a s => ?_
      refine gv s 15 rfl rfl hC (fun w hC => y_loadQ1 (j := 1) (hC.ownAt 0 rfl) rfl Tryz.isAgg3 h1169 rfl) fun a s => ?_
      refine gn 2 [16, 17] [] s hC rfl rfl rfl fun a s => ?_
      refine gv s 18 rfl rfl hC (fun w hC => y_indexAt Tryz.runUnderlying30 Tryz.sizeOf71 rfl rfl h1173.1 h1173.2 h1174) fun a s => ?_
      refine gv s 19 rfl rfl hC (fun w hC => y_fieldAddr (o' := q1176 + 1) Tryz.runUnderlying71 rfl Tryz.sizeOf3 rfl rfl rfl) fun a s => ?_
      refine gv s 20 rfl rfl hC (fun w hC => y_loadQ1 (j := 1) (hC.ownAt 1 rfl) rfl Tryz.isAgg3 h1178 rfl) fun a s => ?_
      refine gv s 21 rfl rfl hC (fun w hC => y_min rfl rfl) fun a s => ?_
      refine gv s 22 rfl rfl hC (fun w hC => y_build (vs := [(0, .int .i64 (max x1137.From x1150.From)), (1, .int .i64 (min x1163.To x1172.To))]) Bld71 rfl rfl) fun a s => ?_
      refine ho 23 rfl ?_
      refine w_alloc (cs := [.int .i64 0, .int .i64 0]) s d Tryz.zeroValue71 rfl rfl trivial ?_
      intro b1179 a w s d
      refine h_n [1, 2, 3] [] d rfl rfl fun hC => ?_
      refine ho 24 rfl ?_
      refine w_store (m := 2) (cs' := [.int .i64 (max x1137.From x1150.From), .int .i64 (min x1163.To x1172.To)]) s d 0 rfl rfl rfl Tryz.sizeOf71 rfl rfl rfl rfl trivial ?_
      intro a w s d
      refine h_n [1, 2, 3] [] d rfl rfl fun hC => ?_
      refine h_done (by kernel_rfl) ?_
      exact ⟨Sv1003, b1179, (s.wk rfl), (d.ft [0, 1, 2, 3] [0, 1, 2] (by decide) rfl rfl)⟩
     rintro a w ⟨Sv1180, b1179, s, d⟩
     refine then_normal (sz 5 [0, 0] s d rfl rfl fun a s => ?_)
     refine wp_join (fun a w => ∃ (out1193 : (List Span)) (c1189 p1190 k1191 Sv1192 : _), ref08_Meet_j1 sv871 out1193 = some tv1067 ∧ Sl 61 [(5, .slice (some ⟨b1144, 0, none⟩) rv10.length k12), (6, .slice (some ⟨b1157, 0, none⟩) rv21.length k23), (7, .slice p1190 out1193.length k1191), (8, .int .i64 sv31.2), (9, .int .i64 sv871.2)] a ∧ Wd ⟨w0, S0, []⟩ Sv1192 [.row (some ⟨b1144, 0, none⟩) rv10.length k12 c14 71 2, .row (some ⟨b1157, 0, none⟩) rv21.length k23 c25 71 2, .row p1190 out1193.length k1191 c1189 71 2] [RowA c14 rv10, RowA c25 rv21, RowA c1189 out1193] w) ?_ ?_
     ·refine cd s u rfl (fun u => ?_) fun u => ?_
      ·refine wp_region_lit (rn 2 [0] s d rfl rfl fun a s => ?_)
       refine w_litSlice (α := Span) (vs := [.agg #[.int .i64 (max x1137.From x1150.From), .int .i64 (min x1163.To x1172.To)]]) (cs := [.int .i64 (max x1137.From x1150.From), .int .i64 (min x1163.To x1172.To)]) (xs := ([(⟨(max x1137.From x1150.From), (min x1163.To x1172.To)⟩ : Span)] : List Span)) s d El30 rfl rfl rfl rfl rfl rfl ⟨⟨_, _, rfl, rfl, rfl⟩, rfl⟩ rfl trivial rfl fun b1198 a w s d => ?_
       obtain ⟨l1200, h1199, u⟩ := bind_t u
       refine w_appendR (α := Span) s d El30 4 rfl rfl rfl 3 rfl 0 rfl 0 rfl h1199 rfl trivial ?_
       intro p1201 k1202 c1203 a w s d
       refine rz 1 [] s d rfl rfl fun a s => ?_
       exact ⟨l1200, c1203, p1201, k1202, Sv1180, u, (s.wk rfl), (d.ft [2, 3, 4] [2, 3, 0] (by decide) rfl rfl)⟩
      exact wp_skip (then_normal ⟨sv871.1, c1000, p1001, k1002, Sv1180, u, (s.wk rfl), (d.ft [1, 2, 3] [0, 1, 2] (by decide) rfl rfl)⟩)
     rintro a w ⟨out1193, c1189, p1190, k1191, Sv1192, u, s, d⟩
     delta ref08_Meet_j1 at u
     refine blk_normal (then_normal (wp_region_lit (rn 2 [] s d rfl rfl fun a s => ?_)))
     obtain ⟨k1195, h1194, u⟩ := bind_t u
     refine sv s (y_assignI rfl h1194) rfl fun a s => ?_
     exact nl ⟨_, (Option.some.inj u).symm, c1189, p1190, k1191, Sv1192, (s.wk rfl), (d.ft [0, 1, 2] [0, 1, 2] (by decide) rfl rfl)⟩
    refine wp_exit (then_exit (then_exit (blk_exit ?_)))
    have u := oi u
    subst u
    have h1204 := hd1066 _ rfl
    subst h1204
    exact then_normal ⟨c1000, p1001, k1002, Sv1003, (s.wk rfl), (d.ft [0, 1, 2] [0, 1, 2] (by decide) rfl rfl)⟩
   rintro a w ⟨c1070, p1071, k1072, Sv1073, s, d⟩
   refine blk_normal (then_normal (wp_region_lit (rn 2 [] s d rfl rfl fun a s => ?_)))
   obtain ⟨i1206, h1205, u⟩ := bind_t u
   refine sv s (y_assignI rfl h1205) rfl fun a s => ?_
   exact nl ⟨_, (Option.some.inj u).symm, c1070, p1071, k1072, Sv1073, (s.wk rfl), (d.ft [0, 1, 2] [0, 1, 2] (by decide) rfl rfl)⟩
  refine wp_exit (then_exit (then_exit (blk_exit ?_)))
  have u := oi u
  subst u
  have h1208 := hd658 _ rfl
  subst h1208
  exact then_normal ⟨c448, p449, k450, Sv451, (s.wk rfl), (d.ft [2] [2] (by decide) rfl rfl)⟩
 rintro a w ⟨c662, p663, k664, Sv665, s, d⟩
 refine then_normal (sn 1 [] s d rfl rfl fun a s => ?_)
 obtain ⟨rv1210, h1209, u⟩ := bind_t u
 obtain ⟨Sv1215, d⟩ := w_share (α := Span) d 0 rfl 0 rfl
 refine st_callR s (ref08_Normal_ok h1209 d.dom (d.envAt 0 rfl)) (do_call Tryz.call55 rfl) trivial rfl rfl ?_
 rintro v1219 Sv1216 w a h1217 ⟨p1211, k1212, c1214, rfl, h1220, h1213⟩ s
 have d := (d.callN h1217 h1220).addE (e := RowA c1214 rv1210) h1213
 refine rz 1 [] s d rfl rfl fun a s => ?_
 have u := oi u
 subst u
 exact wp_ret (ret1 s rfl (rv_tmp rfl) (d.ret ⟨p1211, k1212, c1214, rfl, (d.outs [0] (by decide) rfl), (d.envAt 0 rfl)⟩))
theorem ref08_Cut_ok {w0 S0 p2 k3 l1 from5 to6 r} (u : ref08_Cut l1 from5 to6 = some r) (hS : Dm S0 w0) (h4 : (SlA p2 l1.length k3 l1).p S0 w0) : Calls Tryz.prog 21 #[.slice p2 l1.length k3, .int .i64 from5, .int .i64 to6] w0 (Ret ([]) w0 S0 (slices_Clone_Lapi_Span_api_Span_rd w0 ([]) r)) := by
 refine en 13 Tryz.func21 rfl hS rfl rfl rfl fun a s d => ?_
 have d := d.addE h4
 delta ref08_Cut at u
 refine sz 1 [] s d rfl rfl fun a s => ?_
 refine sn 3 [] s d rfl rfl fun a s => ?_
 refine sv s (y_build (vs := [(0, .int .i64 from5), (1, .int .i64 to6)]) Bld71 rfl rfl) rfl fun a s => ?_
 refine w_litSlice (α := Span) (vs := [.agg #[.int .i64 from5, .int .i64 to6]]) (cs := [.int .i64 from5, .int .i64 to6]) (xs := ([(⟨from5, to6⟩ : Span)] : List Span)) s d El30 rfl rfl rfl rfl rfl rfl ⟨⟨_, _, rfl, rfl, rfl⟩, rfl⟩ rfl trivial rfl fun b8 a w s d => ?_
 obtain ⟨rv10, h9, u⟩ := bind_t u
 obtain ⟨Sv15, d⟩ := w_share (α := Span) d 0 rfl 0 rfl
 refine st_callR s (ref08_Meet_ok h9 d.dom (d.envAt 2 rfl) (d.envAt 0 rfl)) (do_call Tryz.call58 rfl) trivial rfl rfl ?_
 rintro v19 Sv16 w a h17 ⟨p11, k12, c14, rfl, h20, h13⟩ s
 have d := (d.callN h17 h20).addE (e := RowA c14 rv10) h13
 refine rz 1 [] s d rfl rfl fun a s => ?_
 have u := oi u
 subst u
 exact wp_ret (ret1 s rfl (rv_tmp rfl) (d.ret ⟨p11, k12, c14, rfl, (d.outs [0] (by decide) rfl), (d.envAt 0 rfl)⟩))
theorem ref14_Sub_ok {w0 S0 p2 k3 r1 from5 to6 r} (u : ref14_Sub r1 from5 to6 = some r) (hS : Dm S0 w0) (h4 : (SlA p2 r1.Samples.length k3 r1.Samples).p S0 w0) : Calls Tryz.prog 68 #[V56 r1 p2 k3, .int .i64 from5, .int .i64 to6] w0 (Ret ([]) w0 S0 (record_Sub_rd w0 ([]) r)) := by
 refine en 42 Tryz.func68 rfl hS rfl rfl rfl fun a s d => ?_
 have d := d.addE h4
 delta ref14_Sub at u
 refine sr (w_box (cs := (C56 r1 p2 k3)) s d rfl rfl rfl trivial ?_)
 intro b7 a w s d
 refine w_alloc (cs := Z0) s d Tryz.zeroValue56 rfl rfl trivial ?_
 intro b8 a w s d
 refine rz 1 [] s d rfl rfl fun a s => ?_
 refine wp_seq (sn 1 [1] s d rfl rfl fun a s => ?_)
 obtain ⟨rv10, h9, u⟩ := bind_t u
 refine st_callR s (ref14_Valid_ok h9 d.bdom (d.bE 0 rfl)) (do_call Tryz.call60 rfl) trivial rfl rfl ?_
 rintro v14 Sv11 w a h12 rfl s
 have d := d.callB h12
 refine rz 1 [] s d rfl rfl fun a s => ?_
 refine cd s u rfl (fun u => ?_) fun u => ?_
 ·refine sr (sv s (y_build (vs := []) Bld56 rfl rfl) rfl fun a s => ?_)
  refine w_store (m := 12) (cs' := Z0) s d 0 rfl rfl rfl Tryz.sizeOf56 rfl rfl rfl rfl trivial ?_
  intro a w s d
  refine rz 1 [] s d rfl rfl fun a s => ?_
  have u := oi u
  subst u
  have d := d.nilRow Int 3
  exact wp_ret (then_ret (ret2 s rfl (rv_cell d 1 rfl rfl Tryz.isAgg56 Tryz.sizeOf56 rfl) (rv_tmp rfl) (d.ret ⟨none, 0, [], rfl, (d.outs [0] (by decide) rfl), (d.envAt 0 rfl)⟩)))
 refine wp_skip (then_normal (wp_seq (sn 3 [] s d rfl rfl fun a s => ?_)))
 refine rO 4 15 [] s d rfl rfl rfl rfl rfl fun a s => ?_
 refine mv s rfl rfl fun a s => ?_
 refine rO 6 20 [1] s d rfl rfl rfl rfl rfl fun a s => ?_
 refine nl (cd s u rfl (fun u => ?_) fun u => ?_)
 ·refine sr (sv s (y_build (vs := []) Bld56 rfl rfl) rfl fun a s => ?_)
  refine w_store (m := 12) (cs' := Z0) s d 0 rfl rfl rfl Tryz.sizeOf56 rfl rfl rfl rfl trivial ?_
  intro a w s d
  refine rz 1 [] s d rfl rfl fun a s => ?_
  have u := oi u
  subst u
  have d := d.nilRow Int 3
  exact wp_ret (then_ret (ret2 s rfl (rv_cell d 1 rfl rfl Tryz.isAgg56 Tryz.sizeOf56 rfl) (rv_tmp rfl) (d.ret ⟨none, 0, [], rfl, (d.outs [0] (by decide) rfl), (d.envAt 0 rfl)⟩)))
 refine wp_skip (then_normal (sn 1 [1] s d rfl rfl fun a s => ?_))
 refine w_alloc (cs := Z0) s d Tryz.zeroValue56 rfl rfl trivial ?_
 intro b22 a w s d
 refine w_store (m := 12) (cs' := (C56 r1 p2 k3)) s d 0 rfl rfl rfl Tryz.sizeOf56 rfl rfl rfl rfl trivial ?_
 intro a w s d
 refine nl (sn 5 [2] s d rfl rfl fun a s => ?_)
 refine w_store (m := 1) (cs' := (C56 ⟨r1.Source, r1.Start, (w64 (r1.First + from5)), r1.Rate, r1.Error, r1.Run, r1.Seq, r1.Samples⟩ p2 k3)) s d 0 rfl rfl rfl Tryz.sizeOf3 rfl rfl rfl rfl trivial ?_
 intro a w s d
 refine nl (sn 4 [2] s d rfl rfl fun a s => ?_)
 obtain ⟨l28, h23, u⟩ := bind_t u
 obtain ⟨p26, k27, h24, h25⟩ := sub_env (d.envAt 0 rfl) h23
 have d := d.addE h24
 refine sv s (y_slc Tryz.runUnderlying22 Tryz.sizeOf3 rfl ⟨_, rfl⟩ ⟨_, rfl⟩ h25) rfl fun a s => ?_
 obtain ⟨l30, h29, u⟩ := bind_t u
 have d := d.nilRow Int 3
 refine w_appendE (α := Int) s d El22 0 rfl rfl rfl 0 rfl 1 rfl h29 rfl trivial ?_
 intro p31 k32 c33 a w s d
 refine sv s (y_fieldAddr (o' := 11) Tryz.runUnderlying56 rfl Tryz.sizeOf22 rfl rfl rfl) rfl fun a s => ?_
 refine w_store (m := 1) (cs' := (C56 ⟨r1.Source, r1.Start, (w64 (r1.First + from5)), r1.Rate, r1.Error, r1.Run, r1.Seq, l30⟩ p31 k32)) s d 1 rfl rfl rfl Tryz.sizeOf22 rfl rfl rfl rfl trivial ?_
 intro a w s d
 refine nl (sn 1 [1] s d rfl rfl fun a s => ?_)
 refine w_store (m := 12) (cs' := (C56 ⟨r1.Source, r1.Start, (w64 (r1.First + from5)), r1.Rate, r1.Error, r1.Run, r1.Seq, l30⟩ p31 k32)) s d 2 rfl rfl rfl Tryz.sizeOf56 rfl rfl rfl rfl trivial ?_
 intro a w s d
 refine rz 1 [] s d rfl rfl fun a s => ?_
 have u := oi u
 subst u
 exact wp_ret (ret2 s rfl (rv_cell d 2 rfl rfl Tryz.isAgg56 Tryz.sizeOf56 rfl) (rv_tmp rfl) (d.ret ⟨p31, k32, c33, rfl, (d.outs [0] (by decide) rfl), (d.envAt 0 rfl)⟩))
theorem ref15_Compose_ok {w0 S0 p2 k3 l1 r} (u : ref15_Compose l1 = some r) (hS : Dm S0 w0) (h4 : (SlA p2 l1.length k3 l1).p S0 w0) : Calls Tryz.prog 26 #[.slice p2 l1.length k3] w0 (Ret ([]) w0 S0 (compose_Order_rd w0 ([]) r)) := by
 refine en 119 Tryz.func26 rfl hS rfl rfl rfl fun a s d => ?_
 have d := d.addE h4
 delta ref15_Compose at u
 refine sz 2 [] s d rfl rfl fun a s => ?_
 refine wp_seq (sn 1 [] s d rfl rfl fun a s => ?_)
 obtain ⟨rv6, h5, u⟩ := bind_t u
 refine st_callR s (ref15_Valid_ok h5 d.bdom (d.bE 0 rfl)) (do_call Tryz.call56 rfl) trivial rfl rfl ?_
 rintro v10 Sv7 w a h8 rfl s
 have d := d.callB h8
 refine rz 1 [] s d rfl rfl fun a s => ?_
 refine cd s u rfl (fun u => ?_) fun u => ?_
 ·refine sz 2 [] s d rfl rfl fun a s => ?_
  have u := oi u
  subst u
  have d := d.nilRow Record 56
  exact wp_ret (then_ret (ret2 s rfl (rv_tmp rfl) (rv_tmp rfl) (d.ret ⟨none, 0, [], rfl, (d.outs [0] (by decide) rfl), (d.envAt 0 rfl)⟩)))
 refine wp_skip (then_normal (sn 1 [] s d rfl rfl fun a s => ?_))
 obtain ⟨rv15, h14, u⟩ := bind_t u
 refine st_callR s (ref15_order_ok h14 d.dom (d.envAt 0 rfl)) (do_call Tryz.call59 rfl) trivial rfl rfl ?_
 rintro v23 Sv20 w a h21 ⟨p16, k17, c19, rfl, h24, h18⟩ s
 have d := (d.callN h21 h24).addE (e := RowA c19 rv15) h18
 refine rz 1 [] s d rfl rfl fun a s => ?_
 refine sz 1 [] s d rfl rfl fun a s => ?_
 refine wp_seq (sz 1 [] s d rfl rfl fun a s => ?_)
 obtain ⟨e1897, h3655, u⟩ := bind_t u
 refine wp_join (fun a w => ∃ c1898 p1899 k1900 Sv1901, Sl 119 [(5, .slice p1899 e1897.length k1900)] a ∧ Wd ⟨w0, S0, []⟩ Sv1901 [.row p1899 e1897.length k1900 c1898 56 12] [RowA c1898 e1897] w) ?_ ?_
 ·refine wp_block ?_
  have d := d.nilRow Record 56
  refine wp_while (fun sv25 a w => ∃ c1270 p1271 k1272 Sv1273, Sl 119 [(4, .slice p16 rv15.length k17), (5, .slice p1271 sv25.1.length k1272), (6, .int .i64 sv25.2)] a ∧ Wd ⟨w0, S0, []⟩ Sv1273 [.row p16 rv15.length k17 c19 56 12, .row p1271 sv25.1.length k1272 c1270 56 12] [RowA c19 rv15, RowA c1270 sv25.1] w) (([] : List Record), 0) h3655 ⟨[], none, 0, Sv20, (s.wk rfl), (d.ft [1, 0] [1, 0] (by decide) rfl rfl)⟩ ?_
  clear h3655
  repeat clear u
  rintro sv25 a w tv1895 ⟨c1270, p1271, k1272, Sv1273, s, d⟩ u hd1894
  delta ref15_Compose_l5 at u
  refine wp_seq (sz 4 [] s d rfl rfl fun a s => ?_)
  refine cd s u rfl (fun u => ?_) fun u => ?_
  ·refine wp_skip (then_normal (wp_seq (wp_block (sz 1 [] s d rfl rfl fun a s => ?_))))
   refine wp_seq (sz 1 [] s d rfl rfl fun a s => ?_)
   obtain ⟨e2766, h3641, u⟩ := bind_t u
   refine wp_join (fun a w => ∃ c2767 p2768 k2769 Sv2770, Sl 119 [(4, .slice p16 rv15.length k17), (5, .slice p1271 sv25.1.length k1272), (6, .int .i64 sv25.2), (7, .slice p2768 e2766.length k2769)] a ∧ Wd ⟨w0, S0, []⟩ Sv2770 [.row p16 rv15.length k17 c19 56 12, .row p1271 sv25.1.length k1272 c1270 56 12, .row p2768 e2766.length k2769 c2767 71 2] [RowA c19 rv15, RowA c1270 sv25.1, RowA c2767 e2766] w) ?_ ?_
   ·refine wp_block ?_
    have d := d.nilRow Span 71
    refine wp_while (fun sv2521 a w => ∃ c2681 p2682 k2683 Sv2684, Sl 119 [(4, .slice p16 rv15.length k17), (5, .slice p1271 sv25.1.length k1272), (6, .int .i64 sv25.2), (7, .slice p2682 sv2521.1.length k2683), (8, .int .i64 sv2521.2)] a ∧ Wd ⟨w0, S0, []⟩ Sv2684 [.row p16 rv15.length k17 c19 56 12, .row p1271 sv25.1.length k1272 c1270 56 12, .row p2682 sv2521.1.length k2683 c2681 71 2] [RowA c19 rv15, RowA c1270 sv25.1, RowA c2681 sv2521.1] w) (([] : List Span), 0) h3641 ⟨[], none, 0, Sv1273, (s.wk rfl), (d.ft [1, 2, 0] [1, 2, 0] (by decide) rfl rfl)⟩ ?_
    clear h3641
    repeat clear u
    rintro sv2521 a w tv2764 ⟨c2681, p2682, k2683, Sv2684, s, d⟩ u hd2763
    delta ref15_Compose_l10 at u
    refine wp_seq (sz 4 [] s d rfl rfl fun a s => ?_)
    refine cd s u rfl (fun u => ?_) fun u => ?_
    ·refine wp_skip (then_normal (wp_seq (wp_block (wp_seq ?_))))
     obtain ⟨x2850, h2848, u⟩ := bind_t u
     obtain ⟨b2857, q2854, c2855, h2858, h2851, h2852, h2856, h2849⟩ := d.elemRV (α := Record) 0 rfl 0 rfl h2848
     have hsv2859 := s
     have hwv2860 := d
     subst h2858
     have s := hsv2859
     have d := hwv2860
     obtain ⟨_, _, _, _, _, _, _, _, _, _, _, _, rfl, rfl, rfl, rfl, rfl, rfl, rfl, rfl, rfl, rfl, rfl, rfl, ⟨p2861, n2862, k2863, rfl, h2864⟩⟩ := h2849
     obtain rfl := h2864.1
     have d := d.addE (e := SlA p2861 _ k2863 x2850.Samples) h2864
     obtain ⟨x2867, h2865, u⟩ := bind_t u
     obtain ⟨q2871, c2872, h2868, h2869, h2873, h2866⟩ := d.elemRK (α := Record) 0 rfl 1 rfl h2865
     obtain ⟨_, _, _, _, _, _, _, _, _, _, _, _, rfl, rfl, rfl, rfl, rfl, rfl, rfl, rfl, rfl, rfl, rfl, rfl, ⟨p2874, n2875, k2876, rfl, h2877⟩⟩ := h2866
     obtain rfl := h2877.1
     have d := d.addE (e := SlA p2874 _ k2876 x2867.Samples) h2877
     obtain ⟨rv2879, h2878, u⟩ := bind_t u
     refine wp_only (fun a w => ∃ Sv2880, Sl 119 [(4, .slice (some ⟨b2857, 0, none⟩) rv15.length k17), (5, .slice p1271 sv25.1.length k1272), (6, .int .i64 sv25.2), (7, .slice p2682 sv2521.1.length k2683), (8, .int .i64 sv2521.2), (41, .bool rv2879)] a ∧ Wd ⟨w0, S0, []⟩ Sv2880 [.row (some ⟨b2857, 0, none⟩) rv15.length k17 c19 56 12, .row p1271 sv25.1.length k1272 c1270 56 12, .row p2682 sv2521.1.length k2683 c2681 71 2] [RowA c19 rv15, RowA c1270 sv25.1, RowA c2681 sv2521.1] w) ?_ ?_
     ·refine h_c [0, 1, 2] [] d rfl rfl (by kernel_rfl) rfl fun hC d => ?_
      refine gn 2 [0, 1] [] s hC rfl rfl rfl fun a s => ?_
      refine gv s 2 rfl rfl hC (fun w hC => y_indexAt Tryz.runUnderlying28 Tryz.sizeOf56 rfl rfl h2851.1 h2851.2 h2852) fun a s => ?_
      refine gv s 3 rfl rfl hC (fun w hC => y_loadQA (j := 0) (hC.ownAt 0 rfl) rfl Tryz.isAgg56 Tryz.sizeOf56 h2856 rfl rfl) fun a s => ?_
      refine gn 2 [4, 5] [] s hC rfl rfl rfl fun a s => ?_
      refine gv s 6 rfl rfl hC (fun w hC => y_indexAt Tryz.runUnderlying28 Tryz.sizeOf56 rfl rfl h2868.1 h2868.2 h2869) fun a s => ?_
      refine gv s 7 rfl rfl hC (fun w hC => y_loadQA (j := 0) (hC.ownAt 0 rfl) rfl Tryz.isAgg56 Tryz.sizeOf56 h2873 rfl rfl) fun a s => ?_
      refine ho 8 rfl ?_
      refine st_callR s (ref14_Better_ok h2878 d.bdom (d.bE 1 rfl) (d.bE 0 rfl)) (do_call Tryz.call67 rfl) trivial rfl rfl ?_
      rintro v2884 Sv2881 w a h2882 rfl s
      have d := d.callB h2882
      refine h_n [0, 1, 2] [] d rfl rfl fun hC => ?_
      refine h_done (by kernel_rfl) ?_
      exact ⟨Sv2684, (s.wk rfl), (d.ft [0, 1, 2] [2, 3, 4] (by decide) rfl rfl)⟩
     rintro a w ⟨Sv2880, s, d⟩
     refine then_normal (wp_join (fun a w => ∃ (better2927 : (List Span)) (c2923 p2924 k2925 Sv2926 : _), ref15_Compose_j1 sv2521 better2927 = some tv2764 ∧ Sl 119 [(4, .slice (some ⟨b2857, 0, none⟩) rv15.length k17), (5, .slice p1271 sv25.1.length k1272), (6, .int .i64 sv25.2), (7, .slice p2924 better2927.length k2925), (8, .int .i64 sv2521.2)] a ∧ Wd ⟨w0, S0, []⟩ Sv2926 [.row (some ⟨b2857, 0, none⟩) rv15.length k17 c19 56 12, .row p1271 sv25.1.length k1272 c1270 56 12, .row p2924 better2927.length k2925 c2923 71 2] [RowA c19 rv15, RowA c1270 sv25.1, RowA c2923 better2927] w) ?_ ?_)
     ·refine cd s u rfl (fun u => ?_) fun u => ?_
      ·refine sn 2 [] s d rfl rfl fun a s => ?_
       obtain ⟨x2933, h2931, u⟩ := bind_t u
       obtain ⟨q2937, c2938, h2934, h2935, h2939, h2932⟩ := d.elemRK (α := Record) 0 rfl 0 rfl h2931
       obtain ⟨_, _, _, _, _, _, _, _, _, _, _, _, rfl, rfl, rfl, rfl, rfl, rfl, rfl, rfl, rfl, rfl, rfl, rfl, ⟨p2940, n2941, k2942, rfl, h2943⟩⟩ := h2932
       obtain rfl := h2943.1
       have d := d.addE (e := SlA p2940 _ k2942 x2933.Samples) h2943
       refine sv s (y_indexAt Tryz.runUnderlying28 Tryz.sizeOf56 rfl rfl h2934.1 h2934.2 h2935) rfl fun a s => ?_
       refine sv s (y_loadQA (j := 0) (d.ownAt 0 rfl) rfl Tryz.isAgg56 Tryz.sizeOf56 h2939 rfl rfl) rfl fun a s => ?_
       obtain ⟨rv2945, h2944, u⟩ := bind_t u
       refine st_callR s (ref14_Span_ok h2944 d.bdom (d.bE 0 rfl)) (do_call Tryz.call31 rfl) trivial rfl rfl ?_
       rintro v2949 Sv2946 w a h2947 rfl s
       have d := d.callB h2947
       refine rn 3 [] s d rfl rfl fun a s => ?_
       refine w_alloc (cs := [.int .i64 0, .int .i64 0]) s d Tryz.zeroValue71 rfl rfl trivial ?_
       intro b2951 a w s d
       refine w_store (m := 2) (cs' := (C71 rv2945.1)) s d 0 rfl rfl rfl Tryz.sizeOf71 rfl rfl rfl rfl trivial ?_
       intro a w s d
       refine rz 1 [] s d rfl rfl fun a s => ?_
       refine wp_region_lit (rn 2 [0] s d rfl rfl fun a s => ?_)
       refine w_litSlice (α := Span) (vs := [V71 rv2945.1]) (cs := (C71 rv2945.1)) (xs := ([rv2945.1] : List Span)) s d El30 rfl rfl rfl rfl rfl rfl ⟨⟨_, _, rfl, rfl, rfl⟩, rfl⟩ rfl trivial rfl fun b2953 a w s d => ?_
       obtain ⟨rv2955, h2954, u⟩ := bind_t u
       obtain ⟨Sv2960, d⟩ := w_share (α := Span) d 4 rfl 4 rfl
       obtain ⟨Sv2961, d⟩ := w_share (α := Span) d 0 rfl 1 rfl
       refine st_callR s (ref08_Union_ok h2954 d.dom (d.envAt 1 rfl) (d.envAt 0 rfl)) (do_call Tryz.call17 rfl) trivial rfl rfl ?_
       rintro v2965 Sv2962 w a h2963 ⟨p2956, k2957, c2959, rfl, h2966, h2958⟩ s
       have d := (d.callN h2963 h2966).addE (e := RowA c2959 rv2955) h2958
       refine rz 1 [] s d rfl rfl fun a s => ?_
       exact ⟨rv2955, c2959, p2956, k2957, Sv2962, u, (s.wk rfl), (d.ft [2, 3, 0] [5, 6, 0] (by decide) rfl rfl)⟩
      exact wp_skip (then_normal ⟨sv2521.1, c2681, p2682, k2683, Sv2880, u, (s.wk rfl), (d.ft [0, 1, 2] [0, 1, 2] (by decide) rfl rfl)⟩)
     rintro a w ⟨better2927, c2923, p2924, k2925, Sv2926, u, s, d⟩
     delta ref15_Compose_j1 at u
     refine blk_normal (then_normal (wp_region_lit (rn 2 [] s d rfl rfl fun a s => ?_)))
     obtain ⟨k2929, h2928, u⟩ := bind_t u
     refine sv s (y_assignI rfl h2928) rfl fun a s => ?_
     exact nl ⟨_, (Option.some.inj u).symm, c2923, p2924, k2925, Sv2926, (s.wk rfl), (d.ft [0, 1, 2] [0, 1, 2] (by decide) rfl rfl)⟩
    refine wp_exit (then_exit (then_exit (blk_exit ?_)))
    have u := oi u
    subst u
    have h2967 := hd2763 _ rfl
    subst h2967
    exact then_normal ⟨c2681, p2682, k2683, Sv2684, (s.wk rfl), (d.ft [0, 1, 2] [0, 1, 2] (by decide) rfl rfl)⟩
   rintro a w ⟨c2767, p2768, k2769, Sv2770, s, d⟩
   refine then_normal (sz 1 [] s d rfl rfl fun a s => ?_)
   refine sz 1 [] s d rfl rfl fun a s => ?_
   obtain ⟨e3330, h3640, u⟩ := bind_t u
   refine wp_join (fun a w => ∃ c3331 p3332 k3333 Sv3334, Sl 119 [(4, .slice p16 rv15.length k17), (5, .slice p3332 e3330.length k3333), (6, .int .i64 sv25.2)] a ∧ Wd ⟨w0, S0, []⟩ Sv3334 [.row p16 rv15.length k17 c19 56 12, .row p3332 e3330.length k3333 c3331 56 12] [RowA c19 rv15, RowA c3331 e3330] w) ?_ ?_
   ·refine wp_block ?_
    obtain ⟨Sv3328, d⟩ := w_share (α := Span) d 2 rfl 2 rfl
    refine wp_while (fun sv2968 a w => ∃ c3206 p3207 k3208 Sv3209, Sl 119 [(4, .slice p16 rv15.length k17), (5, .slice p3207 sv2968.1.length k3208), (6, .int .i64 sv25.2), (7, .slice p2768 e2766.length k2769), (11, .int .i64 sv2968.2.1), (12, .int .i64 sv2968.2.2)] a ∧ Wd ⟨w0, S0, []⟩ Sv3209 [.row p16 rv15.length k17 c19 56 12, .row p3207 sv2968.1.length k3208 c3206 56 12] [SlA p2768 e2766.length k2769 e2766, RowA c19 rv15, RowA c3206 sv2968.1] w) (sv25.1, (-1), 0) h3640 ⟨c1270, p1271, k1272, Sv3328, (s.wk rfl), (d.ft [0, 1] [0, 1, 2] (by decide) rfl rfl)⟩ ?_
    clear h3640
    repeat clear u
    rintro sv2968 a w tv3327 ⟨c3206, p3207, k3208, Sv3209, s, d⟩ u hd3326
    delta ref15_Compose_l11 at u
    refine wp_seq (sn 3 [] s d rfl rfl fun a s => ?_)
    obtain ⟨x3337, h3335, u⟩ := bind_t u
    obtain ⟨b3344, q3341, c3342, h3345, h3338, h3339, h3343, h3336⟩ := d.elemRV (α := Record) 0 rfl 1 rfl h3335
    have hsv3346 := s
    have hwv3347 := d
    subst h3345
    have s := hsv3346
    have d := hwv3347
    obtain ⟨_, _, _, _, _, _, _, _, _, _, _, _, rfl, rfl, rfl, rfl, rfl, rfl, rfl, rfl, rfl, rfl, rfl, rfl, ⟨p3348, n3349, k3350, rfl, h3351⟩⟩ := h3336
    obtain rfl := h3351.1
    have d := d.addE (e := SlA p3348 _ k3350 x3337.Samples) h3351
    refine sv s (y_indexAt Tryz.runUnderlying28 Tryz.sizeOf56 rfl rfl h3338.1 h3338.2 h3339) rfl fun a s => ?_
    refine sv s (y_fieldAddr (o' := q3341 + 11) Tryz.runUnderlying56 rfl Tryz.sizeOf22 rfl rfl rfl) rfl fun a s => ?_
    refine sv s (y_loadQ1 (j := 11) (d.ownAt 0 rfl) rfl Tryz.isAgg22 h3343 rfl) rfl fun a s => ?_
    refine rz 2 [] s d rfl rfl fun a s => ?_
    refine cd s u rfl (fun u => ?_) fun u => ?_
    ·refine wp_skip (then_normal (wp_seq (wp_block (wp_seq ?_))))
     obtain ⟨x3452, h3450, u⟩ := bind_t u
     obtain ⟨q3456, c3457, h3453, h3454, h3458, h3451⟩ := d.elemRK (α := Record) 0 rfl 2 rfl h3450
     obtain ⟨_, _, _, _, _, _, _, _, _, _, _, _, rfl, rfl, rfl, rfl, rfl, rfl, rfl, rfl, rfl, rfl, rfl, rfl, ⟨p3459, n3460, k3461, rfl, h3462⟩⟩ := h3451
     obtain rfl := h3462.1
     have d := d.addE (e := SlA p3459 _ k3461 x3452.Samples) h3462
     obtain ⟨c3499, hc3499, u⟩ := bind_t u
     refine wp_only (fun a w => ∃ Sv3500, Sl 119 [(4, .slice (some ⟨b3344, 0, none⟩) rv15.length k17), (5, .slice p3207 sv2968.1.length k3208), (6, .int .i64 sv25.2), (7, .slice p2768 e2766.length k2769), (11, .int .i64 sv2968.2.1), (12, .int .i64 sv2968.2.2), (13, .bool c3499)] a ∧ Wd ⟨w0, S0, []⟩ Sv3500 [.row (some ⟨b3344, 0, none⟩) rv15.length k17 c19 56 12, .row p3207 sv2968.1.length k3208 c3206 56 12] [SlA p2768 e2766.length k2769 e2766, RowA c19 rv15, RowA c3206 sv2968.1] w) ?_ ?_
     ·rcases Bool.eq_false_or_eq_true (decide (sv2968.2.2 < (x3452.Samples.length : Int))) with h3501 | h3501
      ·have h3502 := ite_t hc3499 h3501
       obtain ⟨x3505, h3503, h3502⟩ := bind_t h3502
       obtain ⟨q3509, c3510, h3506, h3507, h3511, h3504⟩ := d.elemRK (α := Record) 0 rfl 3 rfl h3503
       obtain ⟨_, _, _, _, _, _, _, _, _, _, _, _, rfl, rfl, rfl, rfl, rfl, rfl, rfl, rfl, rfl, rfl, rfl, rfl, ⟨p3512, n3513, k3514, rfl, h3515⟩⟩ := h3504
       obtain rfl := h3515.1
       have d := d.addE (e := SlA p3512 _ k3514 x3505.Samples) h3515
       obtain ⟨rv3517, h3516, h3502⟩ := bind_t h3502
       obtain ⟨x3520, h3518, h3502⟩ := bind_t h3502
       obtain ⟨q3524, c3525, h3521, h3522, h3526, h3519⟩ := d.elemRK (α := Record) 0 rfl 4 rfl h3518
       obtain ⟨_, _, _, _, _, _, _, _, _, _, _, _, rfl, rfl, rfl, rfl, rfl, rfl, rfl, rfl, rfl, rfl, rfl, rfl, ⟨p3527, n3528, k3529, rfl, h3530⟩⟩ := h3519
       obtain rfl := h3530.1
       have d := d.addE (e := SlA p3527 _ k3529 x3520.Samples) h3530
       obtain ⟨rv3532, h3531, h3502⟩ := bind_t h3502
       obtain ⟨rv3534, h3533, h3502⟩ := bind_t h3502
       refine h_c [0, 1] [] d rfl rfl (by kernel_rfl) rfl fun hC d => ?_
       refine gn 3 [0, 1, 2] [] s hC rfl rfl rfl fun a s => ?_
       refine gv s 3 rfl rfl hC (fun w hC => y_indexAt Tryz.runUnderlying28 Tryz.sizeOf56 rfl rfl h3453.1 h3453.2 h3454) fun a s => ?_
       refine gv s 4 rfl rfl hC (fun w hC => y_fieldAddr (o' := q3456 + 11) Tryz.runUnderlying56 rfl Tryz.sizeOf22 rfl rfl rfl) fun a s => ?_
       refine gv s 5 rfl rfl hC (fun w hC => y_loadQ1 (j := 11) (hC.ownAt 0 rfl) rfl Tryz.isAgg22 h3458 rfl) fun a s => ?_
       refine gn 3 [6, 7, 8] [] s hC rfl rfl rfl fun a s => ?_
       have s := s.fix 72 (.bool true) rfl (vb h3501)
       refine gn 3 [9, 10, 11] [] s hC rfl rfl rfl fun a s => ?_
       refine gt s 12 rfl ⟨_, rfl, rfl⟩ rfl hC (fun w hC => y_indexAt Tryz.runUnderlying28 Tryz.sizeOf56 rfl rfl h3506.1 h3506.2 h3507) fun a s => ?_
       refine gt s 13 rfl ⟨_, rfl, rfl⟩ rfl hC (fun w hC => y_loadQA (j := 0) (hC.ownAt 0 rfl) rfl Tryz.isAgg56 Tryz.sizeOf56 h3511 rfl rfl) fun a s => ?_
       refine gn 3 [14, 16, 17] [] s hC rfl rfl rfl fun a s => ?_
       refine gt s 18 rfl ⟨_, rfl, rfl⟩ rfl hC (fun w hC => y_indexAt Tryz.runUnderlying28 Tryz.sizeOf56 rfl rfl h3521.1 h3521.2 h3522) fun a s => ?_
       refine gt s 19 rfl ⟨_, rfl, rfl⟩ rfl hC (fun w hC => y_loadQA (j := 0) (hC.ownAt 0 rfl) rfl Tryz.isAgg56 Tryz.sizeOf56 h3526 rfl rfl) fun a s => ?_
       refine gn 2 [20, 21] [] s hC rfl rfl rfl fun a s => ?_
       refine ho 15 rfl ?_
       refine st_callR s (ref14_Time_ok h3516 d.bdom (d.bE 1 rfl)) (do_call Tryz.call62 rfl) ⟨_, rfl, rfl⟩ rfl rfl ?_
       rintro v3542 Sv3539 w a h3540 rfl s
       have d := d.callB h3540
       refine h_n [0, 1] [] d rfl rfl fun hC => ?_
       refine ho 22 rfl ?_
       refine st_callR s (ref14_Time_ok h3531 d.bdom (d.bE 0 rfl)) (do_call Tryz.call62 rfl) ⟨_, rfl, rfl⟩ rfl rfl ?_
       rintro v3547 Sv3544 w a h3545 rfl s
       have d := d.callB h3545
       refine h_n [0, 1] [] d rfl rfl fun hC => ?_
       refine ho 23 rfl ?_
       refine st_callR s (ref08_Cut_ok h3533 d.dom (d.envAt 4 rfl)) (do_call Tryz.call21 rfl) ⟨_, rfl, rfl⟩ rfl rfl ?_
       rintro v3552 Sv3549 w a h3550 ⟨p3535, k3536, c3538, rfl, h3553, h3537⟩ s
       have d := (d.callN h3550 h3553).addE (e := RowA c3538 rv3534) h3537
       refine h_n [1, 2] [] d rfl rfl fun hC => ?_
       refine h_d [1, 2, 0] [] [0, 1] [] d rfl rfl rfl rfl fun hC => ?_
       refine gn 2 [24, 25] [] s hC rfl rfl rfl fun a s => ?_
       refine gv s 26 rfl rfl hC (fun w hC => y_pickTE (v := .bool c3499) rfl rfl (vbs h3502)) fun a s => ?_
       refine gv s 27 rfl rfl hC (fun w hC => y_assign rfl) fun a s => ?_
       refine h_done (by kernel_rfl) ?_
       exact ⟨Sv3549, (s.wk rfl), (d.ft [1, 2] [5, 6, 7] (by decide) rfl rfl)⟩
      have h3554 := ite_f hc3499 h3501
      refine h_c [0, 1] [] d rfl rfl (by kernel_rfl) rfl fun hC d => ?_
      refine gn 3 [0, 1, 2] [] s hC rfl rfl rfl fun a s => ?_
      refine gv s 3 rfl rfl hC (fun w hC => y_indexAt Tryz.runUnderlying28 Tryz.sizeOf56 rfl rfl h3453.1 h3453.2 h3454) fun a s => ?_
      refine gv s 4 rfl rfl hC (fun w hC => y_fieldAddr (o' := q3456 + 11) Tryz.runUnderlying56 rfl Tryz.sizeOf22 rfl rfl rfl) fun a s => ?_
      refine gv s 5 rfl rfl hC (fun w hC => y_loadQ1 (j := 11) (hC.ownAt 0 rfl) rfl Tryz.isAgg22 h3458 rfl) fun a s => ?_
      refine gn 3 [6, 7, 8] [] s hC rfl rfl rfl fun a s => ?_
      have s := s.fix 72 (.bool false) rfl (vb h3501)
      refine gn 17 [9, 10, 11, 12, 13, 14, 15, 16, 17, 18, 19, 20, 21, 22, 23, 24, 25] [] s hC rfl rfl rfl fun a s => ?_
      refine gv s 26 rfl rfl hC (fun w hC => y_pickFE (v := .bool c3499) rfl rfl (vbs h3554)) fun a s => ?_
      refine gv s 27 rfl rfl hC (fun w hC => y_assign rfl) fun a s => ?_
      refine h_done (by kernel_rfl) ?_
      exact ⟨Sv3209, (s.wk rfl), (d.ft [0, 1] [2, 3, 4] (by decide) rfl rfl)⟩
     rintro a w ⟨Sv3500, s, d⟩
     refine then_normal (wp_seq (sn 2 [] s d rfl rfl fun a s => ?_))
     refine rA 3 92 [] s d rfl rfl rfl rfl rfl fun a s => ?_
     refine nl (wp_join (fun a w => ∃ (first3558 : Int) (Sv3557 : _), ref15_Compose_j3 rv15 sv25 sv2968 c3499 first3558 = some tv3327 ∧ Sl 119 [(4, .slice (some ⟨b3344, 0, none⟩) rv15.length k17), (5, .slice p3207 sv2968.1.length k3208), (6, .int .i64 sv25.2), (7, .slice p2768 e2766.length k2769), (11, .int .i64 first3558), (12, .int .i64 sv2968.2.2), (13, .bool c3499)] a ∧ Wd ⟨w0, S0, []⟩ Sv3557 [.row (some ⟨b3344, 0, none⟩) rv15.length k17 c19 56 12, .row p3207 sv2968.1.length k3208 c3206 56 12] [SlA p2768 e2766.length k2769 e2766, RowA c19 rv15, RowA c3206 sv2968.1] w) ?_ ?_)
     ·refine cd s u rfl (fun u => ?_) fun u => ?_
      ·refine wp_region_lit (rz 2 [] s d rfl rfl fun a s => ?_)
       exact ⟨sv2968.2.2, Sv3500, u, (s.wk rfl), (d.ft [0, 1] [0, 1, 2] (by decide) rfl rfl)⟩
      exact wp_skip (then_normal ⟨sv2968.2.1, Sv3500, u, (s.wk rfl), (d.ft [0, 1] [0, 1, 2] (by decide) rfl rfl)⟩)
     rintro a w ⟨first3558, Sv3557, u, s, d⟩
     delta ref15_Compose_j3 at u
     refine then_normal (sn 3 [] s d rfl rfl fun a s => ?_)
     refine rA 3 99 [] s d rfl rfl rfl rfl rfl fun a s => ?_
     refine nl (wp_join (fun a w => ∃ (out3598 : (List Record)) (first3599 : Int) (c3594 p3595 k3596 Sv3597 : _), ref15_Compose_j4 sv2968 out3598 first3599 = some tv3327 ∧ Sl 119 [(4, .slice (some ⟨b3344, 0, none⟩) rv15.length k17), (5, .slice p3595 out3598.length k3596), (6, .int .i64 sv25.2), (7, .slice p2768 e2766.length k2769), (11, .int .i64 first3599), (12, .int .i64 sv2968.2.2)] a ∧ Wd ⟨w0, S0, []⟩ Sv3597 [.row (some ⟨b3344, 0, none⟩) rv15.length k17 c19 56 12, .row p3595 out3598.length k3596 c3594 56 12] [SlA p2768 e2766.length k2769 e2766, RowA c19 rv15, RowA c3594 out3598] w) ?_ ?_)
     ·refine cd s u rfl (fun u => ?_) fun u => ?_
      ·refine sn 2 [] s d rfl rfl fun a s => ?_
       obtain ⟨x3605, h3603, u⟩ := bind_t u
       obtain ⟨q3609, c3610, h3606, h3607, h3611, h3604⟩ := d.elemRK (α := Record) 0 rfl 1 rfl h3603
       obtain ⟨_, _, _, _, _, _, _, _, _, _, _, _, rfl, rfl, rfl, rfl, rfl, rfl, rfl, rfl, rfl, rfl, rfl, rfl, ⟨p3612, n3613, k3614, rfl, h3615⟩⟩ := h3604
       obtain rfl := h3615.1
       have d := d.addE (e := SlA p3612 _ k3614 x3605.Samples) h3615
       refine sv s (y_indexAt Tryz.runUnderlying28 Tryz.sizeOf56 rfl rfl h3606.1 h3606.2 h3607) rfl fun a s => ?_
       refine sv s (y_loadQA (j := 0) (d.ownAt 0 rfl) rfl Tryz.isAgg56 Tryz.sizeOf56 h3611 rfl rfl) rfl fun a s => ?_
       refine rn 2 [] s d rfl rfl fun a s => ?_
       obtain ⟨rv3617, h3616, u⟩ := bind_t u
       refine st_callR s (ref14_Sub_ok h3616 d.dom (d.envAt 0 rfl)) (do_call Tryz.call68 rfl) trivial rfl rfl ?_
       rintro v3625 Sv3622 w a h3623 ⟨p3618, k3619, c3621, rfl, h3626, h3620⟩ s
       have d := (d.callN h3623 h3626).addE (e := RowA c3621 rv3617.1.Samples) h3620
       refine rn 3 [] s d rfl rfl fun a s => ?_
       refine w_alloc (cs := Z0) s d Tryz.zeroValue56 rfl rfl trivial ?_
       intro b3627 a w s d
       refine w_store (m := 12) (cs' := (C56 rv3617.1 p3618 k3619)) s d 0 rfl rfl rfl Tryz.sizeOf56 rfl rfl rfl rfl trivial ?_
       intro a w s d
       refine rz 1 [] s d rfl rfl fun a s => ?_
       refine sn 2 [0] s d rfl rfl fun a s => ?_
       obtain ⟨Sv3630, d⟩ := w_share (α := Int) d 1 rfl 0 rfl
       refine w_litSlice (α := Record) (vs := [V56 rv3617.1 p3618 k3619]) (cs := (C56 rv3617.1 p3618 k3619)) (xs := ([rv3617.1] : List Record)) s d El28 rfl rfl rfl rfl rfl rfl ⟨⟨_, _, _, _, _, _, _, _, _, _, _, _, rfl, rfl, rfl, rfl, rfl, rfl, rfl, rfl, rfl, rfl, rfl, rfl, ⟨_, _, _, rfl, d.envAt 0 rfl⟩⟩, rfl⟩ rfl trivial rfl fun b3629 a w s d => ?_
       obtain ⟨l3632, h3631, u⟩ := bind_t u
       refine w_appendR (α := Record) s d El28 3 rfl rfl rfl 6 rfl 0 rfl 0 rfl h3631 rfl trivial ?_
       intro p3633 k3634 c3635 a w s d
       refine rz 1 [] s d rfl rfl fun a s => ?_
       refine wp_region_lit (rz 1 [] s d rfl rfl fun a s => ?_)
       exact ⟨l3632, (-1), c3635, p3633, k3634, Sv3630, u, (s.wk rfl), (d.ft [2, 3] [5, 6, 0] (by decide) rfl rfl)⟩
      exact wp_skip (then_normal ⟨sv2968.1, first3558, c3206, p3207, k3208, Sv3557, u, (s.wk rfl), (d.ft [0, 1] [0, 1, 2] (by decide) rfl rfl)⟩)
     rintro a w ⟨out3598, first3599, c3594, p3595, k3596, Sv3597, u, s, d⟩
     delta ref15_Compose_j4 at u
     refine blk_normal (then_normal (wp_region_lit (rn 2 [] s d rfl rfl fun a s => ?_)))
     obtain ⟨j3601, h3600, u⟩ := bind_t u
     refine sv s (y_assignI rfl h3600) rfl fun a s => ?_
     exact nl ⟨_, (Option.some.inj u).symm, c3594, p3595, k3596, Sv3597, (s.wk rfl), (d.ft [0, 1] [0, 1, 2] (by decide) rfl rfl)⟩
    refine wp_exit (then_exit (then_exit (blk_exit ?_)))
    have u := oi u
    subst u
    have h3637 := hd3326 _ rfl
    subst h3637
    exact then_normal ⟨c3206, p3207, k3208, Sv3209, (s.wk rfl), (d.ft [0, 1] [2, 3] (by decide) rfl rfl)⟩
   rintro a w ⟨c3331, p3332, k3333, Sv3334, s, d⟩
   refine blk_normal (then_normal (wp_region_lit (rn 2 [] s d rfl rfl fun a s => ?_)))
   obtain ⟨i3639, h3638, u⟩ := bind_t u
   refine sv s (y_assignI rfl h3638) rfl fun a s => ?_
   exact nl ⟨_, (Option.some.inj u).symm, c3331, p3332, k3333, Sv3334, (s.wk rfl), (d.ft [0, 1] [0, 1] (by decide) rfl rfl)⟩
  refine wp_exit (then_exit (then_exit (blk_exit ?_)))
  have u := oi u
  subst u
  have h3642 := hd1894 _ rfl
  subst h3642
  exact then_normal ⟨c1270, p1271, k1272, Sv1273, (s.wk rfl), (d.ft [1] [1] (by decide) rfl rfl)⟩
 rintro a w ⟨c1898, p1899, k1900, Sv1901, s, d⟩
 refine then_normal (sn 1 [] s d rfl rfl fun a s => ?_)
 obtain ⟨rv3644, h3643, u⟩ := bind_t u
 obtain ⟨Sv3649, d⟩ := w_share (α := Record) d 0 rfl 0 rfl
 refine st_callR s (ref15_order_ok h3643 d.dom (d.envAt 0 rfl)) (do_call Tryz.call59 rfl) trivial rfl rfl ?_
 rintro v3653 Sv3650 w a h3651 ⟨p3645, k3646, c3648, rfl, h3654, h3647⟩ s
 have d := (d.callN h3651 h3654).addE (e := RowA c3648 rv3644) h3647
 refine rz 2 [] s d rfl rfl fun a s => ?_
 have u := oi u
 subst u
 exact wp_ret (ret2 s rfl (rv_tmp rfl) (rv_tmp rfl) (d.ret ⟨p3645, k3646, c3648, rfl, (d.outs [0] (by decide) rfl), (d.envAt 0 rfl)⟩))
theorem ref14_At_ok {w0 S0 p2 k3 r1 i5 r} (u : ref14_At r1 i5 = some r) (hS : Dm S0 w0) (h4 : (SlA p2 r1.Samples.length k3 r1.Samples).p S0 w0) : Calls Tryz.prog 23 #[V56 r1 p2 k3, .int .i64 i5] w0 (Ret ([]) w0 S0 (rate_Time_rd w0 ([]) r)) := by
 refine en 18 Tryz.func23 rfl hS rfl rfl rfl fun a s d => ?_
 have d := d.addE h4
 delta ref14_At at u
 refine sr (w_box (cs := (C56 r1 p2 k3)) s d rfl rfl rfl trivial ?_)
 intro b6 a w s d
 refine rz 2 [] s d rfl rfl fun a s => ?_
 refine wp_seq (sn 1 [0] s d rfl rfl fun a s => ?_)
 obtain ⟨rv8, h7, u⟩ := bind_t u
 refine st_callR s (ref14_Valid_ok h7 d.bdom (d.bE 0 rfl)) (do_call Tryz.call60 rfl) trivial rfl rfl ?_
 rintro v12 Sv9 w a h10 rfl s
 have d := d.callB h10
 refine rz 1 [] s d rfl rfl fun a s => ?_
 refine cd s u rfl (fun u => ?_) fun u => ?_
 ·refine sz 2 [] s d rfl rfl fun a s => ?_
  have u := oi u
  subst u
  exact wp_ret (then_ret (ret2 s rfl (rv_tmp rfl) (rv_tmp rfl) (d.ret rfl)))
 refine wp_skip (then_normal (wp_seq (sn 4 [0] s d rfl rfl fun a s => ?_)))
 obtain ⟨rv17, h16, u⟩ := bind_t u
 refine st_callR s (ref01_In_ok h16 d.bdom) (do_call Tryz.call61 rfl) trivial rfl rfl ?_
 rintro v21 Sv18 w a h19 rfl s
 have d := d.callB h19
 refine rz 1 [] s d rfl rfl fun a s => ?_
 refine cd s u rfl (fun u => ?_) fun u => ?_
 ·refine sz 2 [] s d rfl rfl fun a s => ?_
  have u := oi u
  subst u
  exact wp_ret (then_ret (ret2 s rfl (rv_tmp rfl) (rv_tmp rfl) (d.ret rfl)))
 refine wp_skip (then_normal (sn 2 [0] s d rfl rfl fun a s => ?_))
 obtain ⟨rv26, h25, u⟩ := bind_t u
 refine st_callR s (ref14_Time_ok h25 d.bdom (d.bE 0 rfl)) (do_call Tryz.call62 rfl) trivial rfl rfl ?_
 rintro v30 Sv27 w a h28 rfl s
 have d := d.callB h28
 refine rz 2 [] s d rfl rfl fun a s => ?_
 have u := oi u
 subst u
 exact wp_ret (ret2 s rfl (rv_tmp rfl) (rv_tmp rfl) (d.ret rfl))
theorem ref16_asRecord_ok {w0 S0 p2 k3 s1 r} (u : ref16_asRecord s1 = some r) (hS : Dm S0 w0) (h4 : (SlA p2 s1.Samples.length k3 s1.Samples).p S0 w0) : Calls Tryz.prog 69 #[V64 s1 p2 k3] w0 (Ret ([]) w0 S0 (continuity_body_rd w0 ([]) r)) := by
 refine en 15 Tryz.func69 rfl hS rfl rfl rfl fun a s d => ?_
 have d := d.addE h4
 delta ref16_asRecord at u
 refine sr (w_box (cs := (C64 s1 p2 k3)) s d rfl rfl rfl trivial ?_)
 intro b5 a w s d
 refine w_alloc (cs := Z0) s d Tryz.zeroValue56 rfl rfl trivial ?_
 intro b6 a w s d
 refine nl (sr (sv s (y_build (vs := [(0, .string (⟨#[65]⟩ : ByteArray)), (1, .string (⟨#[65]⟩ : ByteArray)), (3, .string (⟨#[65, 65, 65]⟩ : ByteArray))]) Bld52 rfl rfl) rfl fun a s => ?_))
 refine rn 10 [1, 1, 1, 1, 1] s d rfl rfl fun a s => ?_
 refine sv s (y_build (vs := [(0, .agg #[.string (⟨#[65]⟩ : ByteArray), .string (⟨#[65]⟩ : ByteArray), .string ByteArray.empty, .string (⟨#[65, 65, 65]⟩ : ByteArray)]), (1, .int .i64 s1.Start), (2, .int .i64 s1.First), (3, V54 s1.Rate), (4, .int .i64 s1.Error), (7, .slice p2 s1.Samples.length k3)]) Bld56 rfl rfl) rfl fun a s => ?_
 refine w_store (m := 12) (cs' := (C56 ⟨⟨(⟨#[65]⟩ : ByteArray), (⟨#[65]⟩ : ByteArray), ByteArray.empty, (⟨#[65, 65, 65]⟩ : ByteArray)⟩, s1.Start, s1.First, s1.Rate, s1.Error, 0, 0, s1.Samples⟩ p2 k3)) s d 0 rfl rfl rfl Tryz.sizeOf56 rfl rfl rfl rfl trivial ?_
 intro a w s d
 refine nl ?_
 have u := oi u
 subst u
 exact wp_ret (ret1 s rfl (rv_cell d 0 rfl rfl Tryz.isAgg56 Tryz.sizeOf56 rfl) (d.ret ⟨p2, k3, rfl, (d.envAt 0 rfl)⟩))
theorem ref16_ValidSegment_ok {w0 S0 p2 k3 s1 r} (u : ref16_ValidSegment s1 = some r) (hS : Dm S0 w0) (h4 : (SlA p2 s1.Samples.length k3 s1.Samples).p S0 w0) : Calls Tryz.prog 27 #[V64 s1 p2 k3] w0 (Ret ([]) w0 S0 (made_Light_rd w0 ([]) r)) := by
 refine en 6 Tryz.func27 rfl hS rfl rfl rfl fun a s d => ?_
 have d := d.addE h4
 delta ref16_ValidSegment at u
 refine sr (w_box (cs := (C64 s1 p2 k3)) s d rfl rfl rfl trivial ?_)
 intro b5 a w s d
 refine rz 1 [] s d rfl rfl fun a s => ?_
 refine sn 1 [0] s d rfl rfl fun a s => ?_
 obtain ⟨rv7, h6, u⟩ := bind_t u
 refine st_callR s (ref16_asRecord_ok h6 d.dom (d.envAt 0 rfl)) (do_call Tryz.call69 rfl) trivial rfl rfl ?_
 rintro v14 Sv11 w a h12 ⟨p8, k9, rfl, h10⟩ s
 have d := (d.call h12).addE (e := SlA p8 rv7.Samples.length k9 rv7.Samples) h10
 obtain ⟨rv17, h16, u⟩ := bind_t u
 refine st_callR s (ref14_Valid_ok h16 d.bdom (d.bE 0 rfl)) (do_call Tryz.call60 rfl) trivial rfl rfl ?_
 rintro v21 Sv18 w a h19 rfl s
 have d := d.callB h19
 refine rz 1 [] s d rfl rfl fun a s => ?_
 have u := oi u
 subst u
 exact wp_ret (ret1 s rfl (rv_tmp rfl) (d.ret rfl))
theorem law16_ContinuitySegments_ok {w0 S0 p2 k3 t1 n5 r} (u : law16_ContinuitySegments t1 n5 = some r) (hS : Dm S0 w0) (h4 : (SlA p2 t1.length k3 t1).p S0 w0) : Calls Tryz.prog 5 #[.slice p2 t1.length k3, .int .u16 n5] w0 (Ret ([]) w0 S0 (made_Light_rd w0 ([]) r)) := by
 refine en 230 Tryz.func5 rfl hS rfl rfl rfl fun a s d => ?_
 have d := d.addE h4
 delta law16_ContinuitySegments at u
 refine sz 1 [] s d rfl rfl fun a s => ?_
 refine wp_seq (sn 1 [] s d rfl rfl fun a s => ?_)
 obtain ⟨rv7, h6, u⟩ := bind_t u
 refine st_callR s (made_Light_ok h6 d.bdom (d.bE 0 rfl)) (do_call Tryz.call9 rfl) trivial rfl rfl ?_
 rintro v11 Sv8 w a h9 rfl s
 have d := d.callB h9
 refine rz 1 [] s d rfl rfl fun a s => ?_
 refine cd s u rfl (fun u => ?_) fun u => ?_
 ·refine sr ?_
  obtain ⟨rv23, h22, u⟩ := bind_t u
  refine st_callR s (law16_sane_ok h22 d.bdom) (do_call Tryz.call10 rfl) trivial rfl rfl ?_
  rintro v27 Sv24 w a h25 rfl s
  have d := d.callB h25
  refine rz 1 [] s d rfl rfl fun a s => ?_
  have u := oi u
  subst u
  exact wp_ret (then_ret (ret1 s rfl (rv_tmp rfl) (d.ret rfl)))
 refine wp_skip (then_normal (sn 1 [] s d rfl rfl fun a s => ?_))
 obtain ⟨rv30, h29, u⟩ := bind_t u
 refine st_callR s (made_Roll_ok h29 d.dom (d.envAt 0 rfl)) (do_call Tryz.call11 rfl) trivial rfl rfl ?_
 rintro v38 Sv35 w a h36 ⟨b31, p32, k33, rfl, h39, h34⟩ s
 have d := (d.callN h36 h39).addE (e := SlA p32 rv30.L.length k33 rv30.L) h34
 refine rz 1 [] s d rfl rfl fun a s => ?_
 refine sn 1 [] s d rfl rfl fun a s => ?_
 obtain ⟨rv41, h40, u⟩ := bind_t u
 refine st_callR s (made_Dice_Records_ok h40 d.dom (d.ins [0] (by decide) rfl) (d.envAt 0 rfl)) (do_call Tryz.call12 rfl) trivial rfl rfl ?_
 rintro v52 Sv49 w a h50 ⟨p42, k43, c45, p46, k47, rfl, h53, h44, h48⟩ s
 have d := ((d.callO [0] [] (by decide) rfl h50 h53).addE (e := RowA c45 rv41.1) h44).addE (e := SlA p46 rv41.2.L.length k47 rv41.2.L) h48
 refine rz 1 [] s d rfl rfl fun a s => ?_
 refine sn 2 [] s d rfl rfl fun a s => ?_
 refine sv s (y_convert Tryz.runUnderlying23 Tryz.runUnderlying3 rfl) rfl fun a s => ?_
 refine w_litSlice (α := Int) (vs := [.int .i64 0, .int .i64 0, .int .i64 100000, .int .i64 500000, .int .i64 (w64 n5)]) (cs := [.int .i64 0, .int .i64 0, .int .i64 100000, .int .i64 500000, .int .i64 (w64 n5)]) (xs := ([0, 0, 100000, 500000, (w64 n5)] : List Int)) s d El22 rfl rfl rfl rfl rfl rfl ⟨⟨_, rfl, rfl⟩, ⟨⟨_, rfl, rfl⟩, ⟨⟨_, rfl, rfl⟩, ⟨⟨_, rfl, rfl⟩, ⟨⟨_, rfl, rfl⟩, rfl⟩⟩⟩⟩⟩ rfl trivial rfl fun b55 a w s d => ?_
 obtain ⟨rv57, h56, u⟩ := bind_t u
 obtain ⟨Sv61, d⟩ := w_share (α := Int) d 0 rfl 0 rfl
 refine st_callR s (made_Dice_Pick_ok h56 d.dom (d.ins [1] (by decide) rfl) (d.envAt 2 rfl) (d.envAt 0 rfl)) (do_call Tryz.call24 rfl) trivial rfl rfl ?_
 rintro v65 Sv62 w a h63 ⟨p58, k59, rfl, h66, h60⟩ s
 have d := (d.callO [1] [0] (by decide) rfl h63 h66).addE (e := SlA p58 rv57.2.L.length k59 rv57.2.L) h60
 refine rz 1 [] s d rfl rfl fun a s => ?_
 refine sn 2 [] s d rfl rfl fun a s => ?_
 obtain ⟨rv68, h67, u⟩ := bind_t u
 obtain ⟨Sv73, d⟩ := w_share (α := Record) d 1 rfl 4 rfl
 refine st_callR s (continuity_Segments_ok h67 d.dom (d.envAt 0 rfl)) (do_call Tryz.call25 rfl) trivial rfl rfl ?_
 rintro v77 Sv74 w a h75 ⟨p69, k70, c72, rfl, h78, h71⟩ s
 have d := (d.callN h75 h78).addE (e := RowA c72 rv68.1) h71
 refine rz 5 [] s d rfl rfl fun a s => ?_
 refine sn 1 [] s d rfl rfl fun a s => ?_
 obtain ⟨rv80, h79, u⟩ := bind_t u
 refine st_callR s (ref15_Compose_ok h79 d.dom (d.envAt 1 rfl)) (do_call Tryz.call26 rfl) trivial rfl rfl ?_
 rintro v88 Sv85 w a h86 ⟨p81, k82, c84, rfl, h89, h83⟩ s
 have d := (d.callN h86 h89).addE (e := RowA c84 rv80.1) h83
 refine rz 5 [] s d rfl rfl fun a s => ?_
 refine wp_seq (sn 3 [] s d rfl rfl fun a s => ?_)
 refine rO 3 57 [] s d rfl rfl rfl rfl rfl fun a s => ?_
 refine nl (cd s u rfl (fun u => ?_) fun u => ?_)
 ·refine sz 1 [] s d rfl rfl fun a s => ?_
  have u := oi u
  subst u
  exact wp_ret (then_ret (ret1 s rfl (rv_tmp rfl) (d.ret rfl)))
 refine wp_skip (then_normal (sz 2 [] s d rfl rfl fun a s => ?_))
 refine wp_seq (sz 3 [] s d rfl rfl fun a s => ?_)
 obtain ⟨e561, h5218, u⟩ := bind_t u
 refine wp_join (fun a w => ∃ c562 p563 k564 c565 p566 k567 Sv568, Sl 230 [(7, .int .i64 rv57.1), (8, .slice p69 rv68.1.length k70), (12, .slice p563 e561.1.length k564), (13, .slice p566 e561.2.length k567)] a ∧ Wd ⟨w0, S0, []⟩ Sv568 [.row p69 rv68.1.length k70 c72 64 6, .row p563 e561.1.length k564 c562 3 1, .row p566 e561.2.length k567 c565 3 1] [RowA c72 rv68.1, RowA c562 e561.1, RowA c565 e561.2] w) ?_ ?_
 ·refine wp_block ?_
  have d := (d.nilRow Int 3).nilRow Int 3
  refine wp_while (fun sv93 a w => ∃ c401 p402 k403 c404 p405 k406 Sv407, Sl 230 [(7, .int .i64 rv57.1), (8, .slice p69 rv68.1.length k70), (12, .slice p402 sv93.1.length k403), (13, .slice p405 sv93.2.1.length k406), (61, .slice p81 rv80.1.length k82), (62, .int .i64 (rv80.1.length : Int)), (63, .int .i64 sv93.2.2)] a ∧ Wd ⟨w0, S0, []⟩ Sv407 [.row p69 rv68.1.length k70 c72 64 6, .row p402 sv93.1.length k403 c401 3 1, .row p405 sv93.2.1.length k406 c404 3 1, .row p81 rv80.1.length k82 c84 56 12] [RowA c72 rv68.1, RowA c401 sv93.1, RowA c404 sv93.2.1, RowA c84 rv80.1] w) (([] : List Int), ([] : List Int), 0) h5218 ⟨[], none, 0, [], none, 0, Sv85, (s.wk rfl), (d.ft [3, 1, 0, 2] [3, 0, 0, 2] (by decide) rfl rfl)⟩ ?_
  clear h5218
  repeat clear u
  rintro sv93 a w tv559 ⟨c401, p402, k403, c404, p405, k406, Sv407, s, d⟩ u hd558
  delta law16_ContinuitySegments_l3 at u
  refine sz 1 [] s d rfl rfl fun a s => ?_
  refine wp_seq (cd s u rfl (fun u => ?_) fun u => ?_)
  ·refine wp_skip (then_normal (wp_seq (wp_block (sr ?_))))
   obtain ⟨x722, h720, u⟩ := bind_t u
   obtain ⟨b729, q726, c727, h730, h723, h724, h728, h721⟩ := d.elemRV (α := Record) 3 rfl 3 rfl h720
   have hsv731 := s
   have hwv732 := d
   subst h730
   have s := hsv731
   have d := hwv732
   obtain ⟨_, _, _, _, _, _, _, _, _, _, _, _, rfl, rfl, rfl, rfl, rfl, rfl, rfl, rfl, rfl, rfl, rfl, rfl, ⟨p733, n734, k735, rfl, h736⟩⟩ := h721
   obtain rfl := h736.1
   have d := d.addE (e := SlA p733 _ k735 x722.Samples) h736
   refine sv s (y_indexAt Tryz.runUnderlying28 Tryz.sizeOf56 rfl rfl h723.1 h723.2 h724) rfl fun a s => ?_
   refine sv s (y_loadQA (j := 0) (d.ownAt 3 rfl) rfl Tryz.isAgg56 Tryz.sizeOf56 h728 rfl rfl) rfl fun a s => ?_
   refine w_alloc (cs := Z0) s d Tryz.zeroValue56 rfl rfl trivial ?_
   intro b737 a w s d
   refine w_store (m := 12) (cs' := (C56 x722 p733 k735)) s d 0 rfl rfl rfl Tryz.sizeOf56 rfl rfl rfl rfl trivial ?_
   intro a w s d
   refine nl (sz 4 [0] s d rfl rfl fun a s => ?_)
   obtain ⟨e861, h940, u⟩ := bind_t u
   refine wp_join (fun a w => ∃ c862 p863 k864 c865 p866 k867 Sv868, Sl 230 [(7, .int .i64 rv57.1), (8, .slice p69 rv68.1.length k70), (12, .slice p863 e861.1.length k864), (13, .slice p866 e861.2.length k867), (61, .slice (some ⟨b729, 0, none⟩) rv80.1.length k82), (62, .int .i64 (rv80.1.length : Int)), (63, .int .i64 sv93.2.2)] a ∧ Wd ⟨w0, S0, []⟩ Sv868 [.row p69 rv68.1.length k70 c72 64 6, .row p863 e861.1.length k864 c862 3 1, .row p866 e861.2.length k867 c865 3 1, .row (some ⟨b729, 0, none⟩) rv80.1.length k82 c84 56 12] [RowA c72 rv68.1, RowA c862 e861.1, RowA c865 e861.2, RowA c84 rv80.1] w) ?_ ?_
   ·refine wp_block (wp_while (fun sv738 a w => ∃ c816 p817 k818 c819 p820 k821 Sv822, Sl 230 [(7, .int .i64 rv57.1), (8, .slice p69 rv68.1.length k70), (12, .slice p817 sv738.1.length k818), (13, .slice p820 sv738.2.1.length k821), (15, .pointer (some ⟨b737, 0, none⟩)), (61, .slice (some ⟨b729, 0, none⟩) rv80.1.length k82), (62, .int .i64 (rv80.1.length : Int)), (63, .int .i64 sv93.2.2), (68, .slice p733 x722.Samples.length k735), (69, .int .i64 (x722.Samples.length : Int)), (70, .int .i64 sv738.2.2)] a ∧ Wd ⟨w0, S0, []⟩ Sv822 [.box b737 (C56 x722 p733 k735) 56, .row p69 rv68.1.length k70 c72 64 6, .row p817 sv738.1.length k818 c816 3 1, .row p820 sv738.2.1.length k821 c819 3 1, .row (some ⟨b729, 0, none⟩) rv80.1.length k82 c84 56 12] [SlA p733 x722.Samples.length k735 x722.Samples, RowA c72 rv68.1, RowA c816 sv738.1, RowA c819 sv738.2.1, RowA c84 rv80.1] w) (sv93.1, sv93.2.1, 0) h940 ⟨c401, p402, k403, c404, p405, k406, Sv407, (s.wk rfl), (d.ft [0, 1, 2, 3, 4] [0, 1, 2, 3, 4] (by decide) rfl rfl)⟩ ?_)
    clear h940
    repeat clear u
    rintro sv738 a w tv859 ⟨c816, p817, k818, c819, p820, k821, Sv822, s, d⟩ u hd858
    delta law16_ContinuitySegments_l6 at u
    refine sz 1 [] s d rfl rfl fun a s => ?_
    refine wp_seq (cd s u rfl (fun u => ?_) fun u => ?_)
    ·refine wp_skip (then_normal (wp_seq (wp_block (sn 1 [] s d rfl rfl fun a s => ?_))))
     obtain ⟨x907, h905, u⟩ := bind_t u
     obtain ⟨b913, o914, q911, c912, h915, h908, h909, h910, h906⟩ := d.elemV 0 rfl h905
     have hsv916 := s
     have hwv917 := d
     subst h915
     have s := hsv916
     have d := hwv917
     obtain ⟨_, rfl, rfl⟩ := h906
     have d := d.addE h910
     refine sv s (y_indexAt Tryz.runUnderlying22 Tryz.sizeOf3 rfl rfl h908.1 h908.2 h909) rfl fun a s => ?_
     refine sv s (y_loadE1 (j := 0) (d.ceAt 0 rfl) rfl Tryz.isAgg3 rfl) rfl fun a s => ?_
     refine rz 2 [] s d rfl rfl fun a s => ?_
     refine sn 2 [0] s d rfl rfl fun a s => ?_
     obtain ⟨rv919, h918, u⟩ := bind_t u
     refine st_callR s (ref14_At_ok h918 d.bdom (d.bE 1 rfl)) (do_call Tryz.call23 rfl) trivial rfl rfl ?_
     rintro v923 Sv920 w a h921 rfl s
     have d := d.callB h921
     refine rz 5 [] s d rfl rfl fun a s => ?_
     refine wp_region_lit (rn 2 [] s d rfl rfl fun a s => ?_)
     refine w_litSlice (α := Int) (vs := [.int .i64 x907]) (cs := [.int .i64 x907]) (xs := ([x907] : List Int)) s d El22 rfl rfl rfl rfl rfl rfl ⟨⟨_, rfl, rfl⟩, rfl⟩ rfl trivial rfl fun b926 a w s d => ?_
     obtain ⟨l928, h927, u⟩ := bind_t u
     refine w_appendR (α := Int) s d El22 3 rfl rfl rfl 4 rfl 0 rfl 0 rfl h927 rfl trivial ?_
     intro p929 k930 c931 a w s d
     refine rn 2 [] s d rfl rfl fun a s => ?_
     refine w_litSlice (α := Int) (vs := [.int .i64 rv919.1]) (cs := [.int .i64 rv919.1]) (xs := ([rv919.1] : List Int)) s d El22 rfl rfl rfl rfl rfl rfl ⟨⟨_, rfl, rfl⟩, rfl⟩ rfl trivial rfl fun b933 a w s d => ?_
     obtain ⟨l935, h934, u⟩ := bind_t u
     refine w_appendR (α := Int) s d El22 5 rfl rfl rfl 7 rfl 0 rfl 0 rfl h934 rfl trivial ?_
     intro p936 k937 c938 a w s d
     refine rn 2 [] s d rfl rfl fun a s => ?_
     refine wpList_nil ?_
     refine blk_normal (then_normal (wp_region_lit (rz 2 [] s d rfl rfl fun a s => ?_)))
     exact ⟨_, (Option.some.inj u).symm, c931, p929, k930, c938, p936, k937, Sv822, (s.wk rfl), (d.ft [2, 3, 4, 5, 6] [5, 6, 2, 0, 9] (by decide) rfl rfl)⟩
    refine wp_exit (then_exit (then_exit (blk_exit ?_)))
    have u := oi u
    subst u
    have h939 := hd858 _ rfl
    subst h939
    exact then_normal ⟨c816, p817, k818, c819, p820, k821, Sv822, (s.wk rfl), (d.ft [1, 2, 3, 4] [1, 2, 3, 4] (by decide) rfl rfl)⟩
   rintro a w ⟨c862, p863, k864, c865, p866, k867, Sv868, s, d⟩
   refine blk_normal (then_normal (wp_region_lit (rz 2 [] s d rfl rfl fun a s => ?_)))
   exact ⟨_, (Option.some.inj u).symm, c862, p863, k864, c865, p866, k867, Sv868, (s.wk rfl), (d.ft [0, 1, 2, 3] [0, 1, 2, 3] (by decide) rfl rfl)⟩
  refine wp_exit (then_exit (then_exit (blk_exit ?_)))
  have u := oi u
  subst u
  have h941 := hd558 _ rfl
  subst h941
  exact then_normal ⟨c401, p402, k403, c404, p405, k406, Sv407, (s.wk rfl), (d.ft [0, 1, 2] [0, 1, 2] (by decide) rfl rfl)⟩
 rintro a w ⟨c562, p563, k564, c565, p566, k567, Sv568, s, d⟩
 refine then_normal (sz 1 [] s d rfl rfl fun a s => ?_)
 refine wp_seq (sz 3 [] s d rfl rfl fun a s => ?_)
 refine wp_block (wp_while (fun sv2291 a w => ∃ Sv3189, Sl 230 [(7, .int .i64 rv57.1), (8, .slice p69 rv68.1.length k70), (12, .slice p563 e561.1.length k564), (13, .slice p566 e561.2.length k567), (20, .int .i64 sv2291.1), (91, .slice p69 rv68.1.length k70), (92, .int .i64 (rv68.1.length : Int)), (93, .int .i64 sv2291.2)] a ∧ Wd ⟨w0, S0, []⟩ Sv3189 [.row p69 rv68.1.length k70 c72 64 6, .row p563 e561.1.length k564 c562 3 1, .row p566 e561.2.length k567 c565 3 1] [RowA c72 rv68.1, RowA c562 e561.1, RowA c565 e561.2] w) (0, 0) u ⟨Sv568, (s.wk rfl), (d.ft [0, 1, 2] [0, 1, 2] (by decide) rfl rfl)⟩ ?_)
 repeat clear u
 rintro sv2291 a w tv3639 ⟨Sv3189, s, d⟩ u hd3638
 delta law16_ContinuitySegments_l13 at u
 refine sz 1 [] s d rfl rfl fun a s => ?_
 refine wp_seq (cd s u rfl (fun u => ?_) fun u => ?_)
 ·refine wp_skip (then_normal (wp_seq (wp_block (sn 1 [] s d rfl rfl fun a s => ?_))))
  obtain ⟨x4093, h4091, u⟩ := bind_t u
  obtain ⟨b4100, q4097, c4098, h4101, h4094, h4095, h4099, h4092⟩ := d.elemRV (α := Segment) 0 rfl 0 rfl h4091
  have hsv4102 := s
  have hwv4103 := d
  subst h4101
  have s := hsv4102
  have d := hwv4103
  obtain ⟨_, _, _, _, _, _, rfl, rfl, rfl, rfl, rfl, rfl, ⟨p4104, n4105, k4106, rfl, h4107⟩⟩ := h4092
  obtain rfl := h4107.1
  have d := d.addE (e := SlA p4104 _ k4106 x4093.Samples) h4107
  refine sv s (y_indexAt Tryz.runUnderlying60 Tryz.sizeOf64 rfl rfl h4094.1 h4094.2 h4095) rfl fun a s => ?_
  refine sv s (y_loadQA (j := 0) (d.ownAt 0 rfl) rfl Tryz.isAgg64 Tryz.sizeOf64 h4099 rfl rfl) rfl fun a s => ?_
  refine w_alloc (cs := [.int .i64 0, .int .i64 0, .int .i64 0, .int .i64 0, .int .i64 0, .slice none ([] : List Int).length 0]) s d Tryz.zeroValue64 rfl rfl trivial ?_
  intro b4108 a w s d
  refine av s rfl rfl fun a s => ?_
  refine w_store (m := 6) (cs' := (C64 x4093 p4104 k4106)) s d 0 rfl rfl rfl Tryz.sizeOf64 rfl rfl rfl rfl trivial ?_
  intro a w s d
  refine nl (wp_seq (sn 1 [0] s d rfl rfl fun a s => ?_))
  obtain ⟨rv4110, h4109, u⟩ := bind_t u
  refine st_callR s (ref16_ValidSegment_ok h4109 d.bdom (d.bE 0 rfl)) (do_call Tryz.call27 rfl) trivial rfl rfl ?_
  rintro v4114 Sv4111 w a h4112 rfl s
  have d := d.callB h4112
  refine rz 1 [] s d rfl rfl fun a s => ?_
  refine cd s u rfl (fun u => ?_) fun u => ?_
  ·refine sz 1 [] s d rfl rfl fun a s => ?_
   have u := oi u
   subst u
   have h4118 := hd3638 _ rfl
   subst h4118
   exact wp_ret (then_ret (blk_ret (then_ret (then_ret (blk_ret (then_ret (ret1 s rfl (rv_tmp rfl) (d.ret rfl))))))))
  refine wp_skip (then_normal (wp_seq (sz 4 [0] s d rfl rfl fun a s => ?_)))
  refine wp_block (wp_while (fun sv4460 a w => ∃ Sv4686, Sl 230 [(7, .int .i64 rv57.1), (8, .slice (some ⟨b4100, 0, none⟩) rv68.1.length k70), (12, .slice p563 e561.1.length k564), (13, .slice p566 e561.2.length k567), (20, .int .i64 sv4460.1), (21, .int .i64 sv2291.2), (22, .pointer (some ⟨b4108, 0, none⟩)), (91, .slice (some ⟨b4100, 0, none⟩) rv68.1.length k70), (92, .int .i64 (rv68.1.length : Int)), (93, .int .i64 sv2291.2), (102, .slice p4104 x4093.Samples.length k4106), (103, .int .i64 (x4093.Samples.length : Int)), (104, .int .i64 sv4460.2)] a ∧ Wd ⟨w0, S0, []⟩ Sv4686 [.box b4108 (C64 x4093 p4104 k4106) 64, .row (some ⟨b4100, 0, none⟩) rv68.1.length k70 c72 64 6, .row p563 e561.1.length k564 c562 3 1, .row p566 e561.2.length k567 c565 3 1] [SlA p4104 x4093.Samples.length k4106 x4093.Samples, RowA c72 rv68.1, RowA c562 e561.1, RowA c565 e561.2] w) (sv2291.1, 0) u ⟨Sv3189, (s.wk rfl), (d.ft [0, 1, 2, 3] [0, 1, 2, 3] (by decide) rfl rfl)⟩ ?_)
  repeat clear u
  rintro sv4460 a w tv4800 ⟨Sv4686, s, d⟩ u hd4799
  delta law16_ContinuitySegments_l17 at u
  refine sz 1 [] s d rfl rfl fun a s => ?_
  refine wp_seq (cd s u rfl (fun u => ?_) fun u => ?_)
  ·refine wp_skip (then_normal (wp_seq (wp_block (sn 1 [] s d rfl rfl fun a s => ?_))))
   obtain ⟨x4918, h4916, u⟩ := bind_t u
   obtain ⟨b4924, o4925, q4922, c4923, h4926, h4919, h4920, h4921, h4917⟩ := d.elemV 0 rfl h4916
   have hsv4927 := s
   have hwv4928 := d
   subst h4926
   have s := hsv4927
   have d := hwv4928
   obtain ⟨_, rfl, rfl⟩ := h4917
   have d := d.addE h4921
   refine sv s (y_indexAt Tryz.runUnderlying22 Tryz.sizeOf3 rfl rfl h4919.1 h4919.2 h4920) rfl fun a s => ?_
   refine sv s (y_loadE1 (j := 0) (d.ceAt 0 rfl) rfl Tryz.isAgg3 rfl) rfl fun a s => ?_
   refine rz 2 [] s d rfl rfl fun a s => ?_
   refine sn 8 [0, 0, 0] s d rfl rfl fun a s => ?_
   obtain ⟨rv4930, h4929, u⟩ := bind_t u
   refine st_callR s (ref02_Time_ok h4929 d.bdom) (do_call Tryz.call28 rfl) trivial rfl rfl ?_
   rintro v4934 Sv4931 w a h4932 rfl s
   have d := d.callB h4932
   refine rz 5 [] s d rfl rfl fun a s => ?_
   refine wp_seq (sn 3 [] s d rfl rfl fun a s => ?_)
   refine rO 5 123 [] s d rfl rfl rfl rfl rfl fun a s => ?_
   refine mv s rfl rfl fun a s => ?_
   obtain ⟨c4951, hc4951, u⟩ := bind_t u
   refine wpl_join 7 (fun a w => ∃ Sv4952, Sl 230 [(7, .int .i64 rv57.1), (8, .slice (some ⟨b4100, 0, none⟩) rv68.1.length k70), (12, .slice p563 e561.1.length k564), (13, .slice p566 e561.2.length k567), (20, .int .i64 sv4460.1), (21, .int .i64 sv2291.2), (22, .pointer (some ⟨b4108, 0, none⟩)), (25, .int .i64 rv4930.1), (91, .slice (some ⟨b4100, 0, none⟩) rv68.1.length k70), (92, .int .i64 (rv68.1.length : Int)), (93, .int .i64 sv2291.2), (102, .slice (some ⟨b4924, o4925, none⟩) x4093.Samples.length k4106), (103, .int .i64 (x4093.Samples.length : Int)), (104, .int .i64 sv4460.2), (136, .bool c4951)] a ∧ Wd ⟨w0, S0, []⟩ Sv4952 [.box b4108 (C64 x4093 (some ⟨b4924, o4925, none⟩) k4106) 64, .row (some ⟨b4100, 0, none⟩) rv68.1.length k70 c72 64 6, .row p563 e561.1.length k564 c562 3 1, .row p566 e561.2.length k567 c565 3 1] [SlA (some ⟨b4924, o4925, none⟩) x4093.Samples.length k4106 x4093.Samples, RowA c72 rv68.1, RowA c562 e561.1, RowA c565 e561.2] w) ?_ ?_
   ·rcases Bool.eq_false_or_eq_true ((rv4930.2 != 0) || (decide ((e561.1.length : Int) ≤ sv4460.1))) with h4950 | h4950
    ·have s := s.fix 129 (.bool true) rfl (vb h4950)
     have u := ite_t hc4951 h4950
     refine rn 7 [] s d rfl rfl fun a s => ?_
     refine wpList_nil ?_
     have u := oi u
     subst u
     exact then_normal ⟨Sv4686, (s.wk rfl), (d.ft [0, 1, 2, 3] [1, 2, 3, 4] (by decide) rfl rfl)⟩
    have s := s.fix 129 (.bool false) rfl (vb h4950)
    have u := ite_f hc4951 h4950
    refine rn 3 [] s d rfl rfl fun a s => ?_
    obtain ⟨x4955, h4953, u⟩ := bind_t u
    obtain ⟨b4962, q4959, c4960, h4963, h4956, h4957, h4961, h4954⟩ := d.elemRV (α := Int) 2 rfl 3 rfl h4953
    have hsv4964 := s
    have hwv4965 := d
    subst h4963
    have s := hsv4964
    have d := hwv4965
    obtain ⟨_, rfl, rfl⟩ := h4954
    refine st_val s (y_indexAt Tryz.runUnderlying22 Tryz.sizeOf3 rfl rfl h4956.1 h4956.2 h4957) ⟨_, rfl, rfl⟩ rfl rfl fun a s => ?_
    refine st_val s (y_loadQ1 (j := 0) (d.ownAt 2 rfl) rfl Tryz.isAgg3 h4961 rfl) ⟨_, rfl, rfl⟩ rfl rfl fun a s => ?_
    refine rn 2 [] s d rfl rfl fun a s => ?_
    refine wpList_nil ?_
    have u := oi u
    subst u
    exact then_normal ⟨Sv4686, (s.wk rfl), (d.ft [0, 1, 2, 3] [1, 2, 3, 4] (by decide) rfl rfl)⟩
   rintro a w ⟨Sv4952, s, d⟩
   refine mv s rfl rfl fun a s => ?_
   obtain ⟨c4980, hc4980, u⟩ := bind_t u
   refine wpl_join 10 (fun a w => ∃ Sv4981, Sl 230 [(7, .int .i64 rv57.1), (8, .slice (some ⟨b4100, 0, none⟩) rv68.1.length k70), (12, .slice p563 e561.1.length k564), (13, .slice p566 e561.2.length k567), (20, .int .i64 sv4460.1), (21, .int .i64 sv2291.2), (22, .pointer (some ⟨b4108, 0, none⟩)), (25, .int .i64 rv4930.1), (91, .slice (some ⟨b4100, 0, none⟩) rv68.1.length k70), (92, .int .i64 (rv68.1.length : Int)), (93, .int .i64 sv2291.2), (102, .slice (some ⟨b4924, o4925, none⟩) x4093.Samples.length k4106), (103, .int .i64 (x4093.Samples.length : Int)), (104, .int .i64 sv4460.2), (147, .bool c4980)] a ∧ Wd ⟨w0, S0, []⟩ Sv4981 [.box b4108 (C64 x4093 (some ⟨b4924, o4925, none⟩) k4106) 64, .row (some ⟨b4100, 0, none⟩) rv68.1.length k70 c72 64 6, .row p563 e561.1.length k564 c562 3 1, .row p566 e561.2.length k567 c565 3 1] [SlA (some ⟨b4924, o4925, none⟩) x4093.Samples.length k4106 x4093.Samples, RowA c72 rv68.1, RowA c562 e561.1, RowA c565 e561.2] w) ?_ ?_
   ·rcases Bool.eq_false_or_eq_true c4951 with h4979 | h4979
    ·have s := s.fix 137 (.bool true) rfl (vb h4979)
     have u := ite_t hc4980 h4979
     refine rn 10 [] s d rfl rfl fun a s => ?_
     refine wpList_nil ?_
     have u := oi u
     subst u
     exact then_normal ⟨Sv4952, (s.wk rfl), (d.ft [0, 1, 2, 3] [0, 1, 2, 3] (by decide) rfl rfl)⟩
    have s := s.fix 137 (.bool false) rfl (vb h4979)
    have u := ite_f hc4980 h4979
    refine rn 3 [] s d rfl rfl fun a s => ?_
    obtain ⟨x4984, h4982, u⟩ := bind_t u
    obtain ⟨b4991, q4988, c4989, h4992, h4985, h4986, h4990, h4983⟩ := d.elemRV (α := Int) 3 rfl 3 rfl h4982
    have hsv4993 := s
    have hwv4994 := d
    subst h4992
    have s := hsv4993
    have d := hwv4994
    obtain ⟨_, rfl, rfl⟩ := h4983
    refine st_val s (y_indexAt Tryz.runUnderlying22 Tryz.sizeOf3 rfl rfl h4985.1 h4985.2 h4986) ⟨_, rfl, rfl⟩ rfl rfl fun a s => ?_
    refine st_val s (y_loadQ1 (j := 0) (d.ownAt 3 rfl) rfl Tryz.isAgg3 h4990 rfl) ⟨_, rfl, rfl⟩ rfl rfl fun a s => ?_
    refine rn 5 [] s d rfl rfl fun a s => ?_
    refine wpList_nil ?_
    have u := oi u
    subst u
    exact then_normal ⟨Sv4952, (s.wk rfl), (d.ft [0, 1, 2, 3] [0, 1, 2, 3] (by decide) rfl rfl)⟩
   rintro a w ⟨Sv4981, s, d⟩
   refine mv s rfl rfl fun a s => ?_
   obtain ⟨c5009, hc5009, u⟩ := bind_t u
   refine wpl_join 10 (fun a w => ∃ Sv5010, Sl 230 [(7, .int .i64 rv57.1), (8, .slice (some ⟨b4100, 0, none⟩) rv68.1.length k70), (12, .slice p563 e561.1.length k564), (13, .slice p566 e561.2.length k567), (20, .int .i64 sv4460.1), (21, .int .i64 sv2291.2), (22, .pointer (some ⟨b4108, 0, none⟩)), (91, .slice (some ⟨b4100, 0, none⟩) rv68.1.length k70), (92, .int .i64 (rv68.1.length : Int)), (93, .int .i64 sv2291.2), (102, .slice (some ⟨b4924, o4925, none⟩) x4093.Samples.length k4106), (103, .int .i64 (x4093.Samples.length : Int)), (104, .int .i64 sv4460.2), (158, .bool c5009)] a ∧ Wd ⟨w0, S0, []⟩ Sv5010 [.box b4108 (C64 x4093 (some ⟨b4924, o4925, none⟩) k4106) 64, .row (some ⟨b4100, 0, none⟩) rv68.1.length k70 c72 64 6, .row p563 e561.1.length k564 c562 3 1, .row p566 e561.2.length k567 c565 3 1] [SlA (some ⟨b4924, o4925, none⟩) x4093.Samples.length k4106 x4093.Samples, RowA c72 rv68.1, RowA c562 e561.1, RowA c565 e561.2] w) ?_ ?_
   ·rcases Bool.eq_false_or_eq_true c4980 with h5008 | h5008
    ·have s := s.fix 148 (.bool true) rfl (vb h5008)
     have u := ite_t hc5009 h5008
     refine rn 10 [] s d rfl rfl fun a s => ?_
     refine wpList_nil ?_
     have u := oi u
     subst u
     exact then_normal ⟨Sv4981, (s.wk rfl), (d.ft [0, 1, 2, 3] [0, 1, 2, 3] (by decide) rfl rfl)⟩
    have s := s.fix 148 (.bool false) rfl (vb h5008)
    have u := ite_f hc5009 h5008
    refine rn 3 [] s d rfl rfl fun a s => ?_
    obtain ⟨x5013, h5011, u⟩ := bind_t u
    obtain ⟨b5020, q5017, c5018, h5021, h5014, h5015, h5019, h5012⟩ := d.elemRV (α := Int) 3 rfl 3 rfl h5011
    have hsv5022 := s
    have hwv5023 := d
    subst h5021
    have s := hsv5022
    have d := hwv5023
    obtain ⟨_, rfl, rfl⟩ := h5012
    refine st_val s (y_indexAt Tryz.runUnderlying22 Tryz.sizeOf3 rfl rfl h5014.1 h5014.2 h5015) ⟨_, rfl, rfl⟩ rfl rfl fun a s => ?_
    refine st_val s (y_loadQ1 (j := 0) (d.ownAt 3 rfl) rfl Tryz.isAgg3 h5019 rfl) ⟨_, rfl, rfl⟩ rfl rfl fun a s => ?_
    refine rn 5 [] s d rfl rfl fun a s => ?_
    refine wpList_nil ?_
    have u := oi u
    subst u
    exact then_normal ⟨Sv4981, (s.wk rfl), (d.ft [0, 1, 2, 3] [0, 1, 2, 3] (by decide) rfl rfl)⟩
   rintro a w ⟨Sv5010, s, d⟩
   refine nl (cd s u rfl (fun u => ?_) fun u => ?_)
   ·refine sz 1 [] s d rfl rfl fun a s => ?_
    have u := oi u
    subst u
    have h5026 := hd4799 _ rfl
    subst h5026
    have h5027 := hd3638 _ rfl
    subst h5027
    exact wp_ret (then_ret (blk_ret (then_ret (then_ret (blk_ret (then_ret (blk_ret (then_ret (then_ret (blk_ret (then_ret (ret1 s rfl (rv_tmp rfl) (d.ret rfl)))))))))))))
   refine wp_skip (then_normal (wp_region_lit (rn 2 [] s d rfl rfl fun a s => ?_)))
   obtain ⟨k5029, h5028, u⟩ := bind_t u
   refine sv s (y_assignI rfl h5028) rfl fun a s => ?_
   refine wpList_nil ?_
   refine blk_normal (then_normal (wp_region_lit (rz 2 [] s d rfl rfl fun a s => ?_)))
   exact ⟨_, (Option.some.inj u).symm, Sv5010, (s.wk rfl), (d.ft [0, 1, 2, 3] [0, 1, 2, 3] (by decide) rfl rfl)⟩
  obtain ⟨rv5197, u, h5198⟩ := map_t u
  have h5198 := (hd4799 _ h5198.symm).symm
  subst h5198
  refine wp_exit (then_exit (then_exit (blk_exit (then_normal (wp_seq ?_)))))
  obtain ⟨c5043, hc5043, u⟩ := bind_t u
  refine wp_only (fun a w => ∃ Sv5044, Sl 230 [(7, .int .i64 rv57.1), (8, .slice (some ⟨b4100, 0, none⟩) rv68.1.length k70), (12, .slice p563 e561.1.length k564), (13, .slice p566 e561.2.length k567), (20, .int .i64 sv4460.1), (21, .int .i64 sv2291.2), (22, .pointer (some ⟨b4108, 0, none⟩)), (91, .slice (some ⟨b4100, 0, none⟩) rv68.1.length k70), (92, .int .i64 (rv68.1.length : Int)), (93, .int .i64 sv2291.2), (178, .bool c5043)] a ∧ Wd ⟨w0, S0, []⟩ Sv5044 [.box b4108 (C64 x4093 p4104 k4106) 64, .row (some ⟨b4100, 0, none⟩) rv68.1.length k70 c72 64 6, .row p563 e561.1.length k564 c562 3 1, .row p566 e561.2.length k567 c565 3 1] [SlA p4104 x4093.Samples.length k4106 x4093.Samples, RowA c72 rv68.1, RowA c562 e561.1, RowA c565 e561.2] w) ?_ ?_
  ·rcases Bool.eq_false_or_eq_true ((decide (0 < sv2291.2)) && (rv57.1 == 0)) with h5045 | h5045
   ·have h5046 := ite_t hc5043 h5045
    obtain ⟨x5049, h5047, h5046⟩ := bind_t h5046
    obtain ⟨q5053, c5054, h5050, h5051, h5055, h5048⟩ := d.elemRK (α := Segment) 1 rfl 1 rfl h5047
    obtain ⟨_, _, _, _, _, _, rfl, rfl, rfl, rfl, rfl, rfl, ⟨p5056, n5057, k5058, rfl, h5059⟩⟩ := h5048
    obtain rfl := h5059.1
    have d := d.addE (e := SlA p5056 _ k5058 x5049.Samples) h5059
    refine h_c [0, 1, 2, 3] [] d rfl rfl (by kernel_rfl) rfl fun hC d => ?_
    refine gn 3 [0, 1, 2] [] s hC rfl rfl rfl fun a s => ?_
    refine gA 3 164 [3, 4, 5] [] s hC rfl rfl rfl rfl rfl rfl fun a s => ?_
    refine gm s 6 rfl rfl rfl hC fun a s => ?_
    have s := s.fix 168 (.bool true) rfl (vb h5045)
    refine gn 3 [7, 8, 9] [] s hC rfl rfl rfl fun a s => ?_
    refine gt s 10 rfl ⟨_, rfl, rfl⟩ rfl hC (fun w hC => y_indexAt Tryz.runUnderlying60 Tryz.sizeOf64 rfl rfl h5050.1 h5050.2 h5051) fun a s => ?_
    refine gt s 11 rfl ⟨_, rfl, rfl⟩ rfl hC (fun w hC => y_fieldAddr (o' := q5053 + 2) Tryz.runUnderlying64 rfl Tryz.sizeOf54 rfl rfl rfl) fun a s => ?_
    refine gt s 12 rfl ⟨_, rfl, rfl⟩ rfl hC (fun w hC => y_loadQA (j := 2) (hC.ownAt 1 rfl) rfl Tryz.isAgg54 Tryz.sizeOf54 h5055 rfl rfl) fun a s => ?_
    refine gn 2 [13, 14] [0] s hC rfl rfl rfl fun a s => ?_
    refine gt s 15 rfl ⟨_, rfl, rfl⟩ rfl hC (fun w hC => y_eqlA (by kernel_rfl) rfl rfl (eqv_struct Tryz.runUnderlying54 (by kernel_rfl) (EqF.cons1 rfl Tryz.isAgg3 rfl rfl (eqv_int Tryz.runUnderlying3) (EqF.cons1 rfl Tryz.isAgg3 rfl rfl (eqv_int Tryz.runUnderlying3) EqF.nil)))) fun a s => ?_
    refine gv s 16 rfl rfl hC (fun w hC => y_pickTE (v := .bool c5043) rfl rfl (vbs h5046)) fun a s => ?_
    refine h_done (by kernel_rfl) ?_
    exact ⟨Sv4686, (s.wk rfl), (d.ft [0, 1, 2, 3] [1, 2, 3, 4] (by decide) rfl rfl)⟩
   have h5060 := ite_f hc5043 h5045
   refine h_c [0, 1, 2, 3] [] d rfl rfl (by kernel_rfl) rfl fun hC d => ?_
   refine gn 3 [0, 1, 2] [] s hC rfl rfl rfl fun a s => ?_
   refine gA 3 164 [3, 4, 5] [] s hC rfl rfl rfl rfl rfl rfl fun a s => ?_
   refine gm s 6 rfl rfl rfl hC fun a s => ?_
   have s := s.fix 168 (.bool false) rfl (vb h5045)
   refine gn 9 [7, 8, 9, 10, 11, 12, 13, 14, 15] [] s hC rfl rfl rfl fun a s => ?_
   refine gv s 16 rfl rfl hC (fun w hC => y_pickFE (v := .bool c5043) rfl rfl (vbs h5060)) fun a s => ?_
   refine h_done (by kernel_rfl) ?_
   exact ⟨Sv4686, (s.wk rfl), (d.ft [0, 1, 2, 3] [0, 1, 2, 3] (by decide) rfl rfl)⟩
  rintro a w ⟨Sv5044, s, d⟩
  refine then_normal (wp_join (fun a w => ∃ Sv5125, law16_ContinuitySegments_j3 sv2291 sv4460 = some tv3639 ∧ Sl 230 [(7, .int .i64 rv57.1), (8, .slice (some ⟨b4100, 0, none⟩) rv68.1.length k70), (12, .slice p563 e561.1.length k564), (13, .slice p566 e561.2.length k567), (20, .int .i64 sv4460.1), (91, .slice (some ⟨b4100, 0, none⟩) rv68.1.length k70), (92, .int .i64 (rv68.1.length : Int)), (93, .int .i64 sv2291.2)] a ∧ Wd ⟨w0, S0, []⟩ Sv5125 [.row (some ⟨b4100, 0, none⟩) rv68.1.length k70 c72 64 6, .row p563 e561.1.length k564 c562 3 1, .row p566 e561.2.length k567 c565 3 1] [RowA c72 rv68.1, RowA c562 e561.1, RowA c565 e561.2] w) ?_ ?_)
  ·refine cd s u rfl (fun u => ?_) fun u => ?_
   ·refine wp_seq ?_
    obtain ⟨x5129, h5127, u⟩ := bind_t u
    obtain ⟨q5133, c5134, h5130, h5131, h5135, h5128⟩ := d.elemRK (α := Segment) 1 rfl 1 rfl h5127
    obtain ⟨_, _, _, _, _, _, rfl, rfl, rfl, rfl, rfl, rfl, ⟨p5136, n5137, k5138, rfl, h5139⟩⟩ := h5128
    obtain rfl := h5139.1
    have d := d.addE (e := SlA p5136 _ k5138 x5129.Samples) h5139
    obtain ⟨x5142, h5140, u⟩ := bind_t u
    obtain ⟨q5146, c5147, h5143, h5144, h5148, h5141⟩ := d.elemRK (α := Segment) 1 rfl 2 rfl h5140
    obtain ⟨_, _, _, _, _, _, rfl, rfl, rfl, rfl, rfl, rfl, ⟨p5149, n5150, k5151, rfl, h5152⟩⟩ := h5141
    obtain rfl := h5152.1
    have d := d.addE (e := SlA p5149 _ k5151 x5142.Samples) h5152
    obtain ⟨x5155, h5153, u⟩ := bind_t u
    obtain ⟨q5159, c5160, h5156, h5157, h5161, h5154⟩ := d.elemRK (α := Segment) 1 rfl 3 rfl h5153
    obtain ⟨_, _, _, _, _, _, rfl, rfl, rfl, rfl, rfl, rfl, ⟨p5162, n5163, k5164, rfl, h5165⟩⟩ := h5154
    obtain rfl := h5165.1
    have d := d.addE (e := SlA p5162 _ k5164 x5155.Samples) h5165
    obtain ⟨x5168, h5166, u⟩ := bind_t u
    obtain ⟨q5172, c5173, h5169, h5170, h5174, h5167⟩ := d.elemRK (α := Segment) 1 rfl 4 rfl h5166
    obtain ⟨_, _, _, _, _, _, rfl, rfl, rfl, rfl, rfl, rfl, ⟨p5175, n5176, k5177, rfl, h5178⟩⟩ := h5167
    obtain rfl := h5178.1
    have d := d.addE (e := SlA p5175 _ k5177 x5168.Samples) h5178
    obtain ⟨rv5180, h5179, u⟩ := bind_t u
    refine wp_only (fun a w => ∃ Sv5181, Sl 230 [(7, .int .i64 rv57.1), (8, .slice (some ⟨b4100, 0, none⟩) rv68.1.length k70), (12, .slice p563 e561.1.length k564), (13, .slice p566 e561.2.length k567), (20, .int .i64 sv4460.1), (22, .pointer (some ⟨b4108, 0, none⟩)), (27, .int .i64 rv5180.1), (91, .slice (some ⟨b4100, 0, none⟩) rv68.1.length k70), (92, .int .i64 (rv68.1.length : Int)), (93, .int .i64 sv2291.2)] a ∧ Wd ⟨w0, S0, []⟩ Sv5181 [.box b4108 (C64 x4093 p4104 k4106) 64, .row (some ⟨b4100, 0, none⟩) rv68.1.length k70 c72 64 6, .row p563 e561.1.length k564 c562 3 1, .row p566 e561.2.length k567 c565 3 1] [SlA p4104 x4093.Samples.length k4106 x4093.Samples, RowA c72 rv68.1, RowA c562 e561.1, RowA c565 e561.2] w) ?_ ?_
    ·refine h_c [0, 1, 2, 3] [] d rfl rfl (by kernel_rfl) rfl fun hC d => ?_
     refine gn 3 [0, 1, 2] [] s hC rfl rfl rfl fun a s => ?_
     refine gv s 3 rfl rfl hC (fun w hC => y_indexAt Tryz.runUnderlying60 Tryz.sizeOf64 rfl rfl h5130.1 h5130.2 h5131) fun a s => ?_
     refine gv s 4 rfl rfl hC (fun w hC => y_fieldAddr (o' := q5133 + 0) Tryz.runUnderlying64 rfl Tryz.sizeOf3 rfl rfl rfl) fun a s => ?_
     refine gv s 5 rfl rfl hC (fun w hC => y_loadQ1 (j := 0) (hC.ownAt 1 rfl) rfl Tryz.isAgg3 h5135 rfl) fun a s => ?_
     refine gn 3 [6, 7, 8] [] s hC rfl rfl rfl fun a s => ?_
     refine gv s 9 rfl rfl hC (fun w hC => y_indexAt Tryz.runUnderlying60 Tryz.sizeOf64 rfl rfl h5143.1 h5143.2 h5144) fun a s => ?_
     refine gv s 10 rfl rfl hC (fun w hC => y_fieldAddr (o' := q5146 + 2) Tryz.runUnderlying64 rfl Tryz.sizeOf54 rfl rfl rfl) fun a s => ?_
     refine gv s 11 rfl rfl hC (fun w hC => y_loadQA (j := 2) (hC.ownAt 1 rfl) rfl Tryz.isAgg54 Tryz.sizeOf54 h5148 rfl rfl) fun a s => ?_
     refine gn 3 [12, 13, 14] [] s hC rfl rfl rfl fun a s => ?_
     refine gv s 15 rfl rfl hC (fun w hC => y_indexAt Tryz.runUnderlying60 Tryz.sizeOf64 rfl rfl h5156.1 h5156.2 h5157) fun a s => ?_
     refine gv s 16 rfl rfl hC (fun w hC => y_fieldAddr (o' := q5159 + 1) Tryz.runUnderlying64 rfl Tryz.sizeOf3 rfl rfl rfl) fun a s => ?_
     refine gv s 17 rfl rfl hC (fun w hC => y_loadQ1 (j := 1) (hC.ownAt 1 rfl) rfl Tryz.isAgg3 h5161 rfl) fun a s => ?_
     refine gn 3 [18, 19, 20] [] s hC rfl rfl rfl fun a s => ?_
     refine gv s 21 rfl rfl hC (fun w hC => y_indexAt Tryz.runUnderlying60 Tryz.sizeOf64 rfl rfl h5169.1 h5169.2 h5170) fun a s => ?_
     refine gv s 22 rfl rfl hC (fun w hC => y_fieldAddr (o' := q5172 + 5) Tryz.runUnderlying64 rfl Tryz.sizeOf22 rfl rfl rfl) fun a s => ?_
     refine gv s 23 rfl rfl hC (fun w hC => y_loadQ1 (j := 5) (hC.ownAt 1 rfl) rfl Tryz.isAgg22 h5174 rfl) fun a s => ?_
     refine gn 2 [24, 25] [] s hC rfl rfl rfl fun a s => ?_
     refine ho 26 rfl ?_
     refine st_callR s (ref02_Time_ok h5179 d.bdom) (do_call Tryz.call28 rfl) trivial rfl rfl ?_
     rintro v5185 Sv5182 w a h5183 rfl s
     have d := d.callB h5183
     refine h_n [0, 1, 2, 3] [] d rfl rfl fun hC => ?_
     refine gn 5 [27, 28, 29, 30, 31] [] s hC rfl rfl rfl fun a s => ?_
     refine h_done (by kernel_rfl) ?_
     exact ⟨Sv5044, (s.wk rfl), (d.ft [0, 1, 2, 3] [4, 5, 6, 7] (by decide) rfl rfl)⟩
    rintro a w ⟨Sv5181, s, d⟩
    refine then_normal (sn 6 [0, 0, 0] s d rfl rfl fun a s => ?_)
    obtain ⟨rv5188, h5187, u⟩ := bind_t u
    refine st_callR s (ref02_Time_ok h5187 d.bdom) (do_call Tryz.call28 rfl) trivial rfl rfl ?_
    rintro v5192 Sv5189 w a h5190 rfl s
    have d := d.callB h5190
    refine rz 5 [] s d rfl rfl fun a s => ?_
    refine sz 3 [] s d rfl rfl fun a s => ?_
    refine cd s u rfl (fun u => ?_) fun u => ?_
    ·refine sz 1 [] s d rfl rfl fun a s => ?_
     have u := oi u
     subst u
     have h5196 := hd3638 _ rfl
     subst h5196
     exact wp_ret (then_ret (blk_ret (then_ret (then_ret (blk_ret (then_ret (ret1 s rfl (rv_tmp rfl) (d.ret rfl))))))))
    exact wp_skip (then_normal ⟨Sv5181, u, (s.wk rfl), (d.ft [1, 2, 3] [1, 2, 3] (by decide) rfl rfl)⟩)
   exact wp_skip (then_normal ⟨Sv5044, u, (s.wk rfl), (d.ft [1, 2, 3] [1, 2, 3] (by decide) rfl rfl)⟩)
  rintro a w ⟨Sv5125, u, s, d⟩
  delta law16_ContinuitySegments_j3 at u
  refine blk_normal (then_normal (wp_region_lit (rz 2 [] s d rfl rfl fun a s => ?_)))
  exact ⟨_, (Option.some.inj u).symm, Sv5125, (s.wk rfl), (d.ft [0, 1, 2] [0, 1, 2] (by decide) rfl rfl)⟩
 obtain ⟨rv5216, u, h5217⟩ := map_t u
 have h5217 := (hd3638 _ h5217.symm).symm
 subst h5217
 refine wp_exit (then_exit (then_exit (blk_exit (then_normal (sn 5 [] s d rfl rfl fun a s => ?_)))))
 obtain ⟨c5207, hc5207, u⟩ := bind_t u
 refine wpl_join 2 (fun a w => ∃ Sv5208, Sl 230 [(229, .bool c5207)] a ∧ Wd ⟨w0, S0, []⟩ Sv5208 [] [] w) ?_ ?_
 ·rcases Bool.eq_false_or_eq_true (sv2291.1 == (e561.1.length : Int)) with h5206 | h5206
  ·have s := s.fix 227 (.bool true) rfl (vb h5206)
   have u := ite_t hc5207 h5206
   obtain ⟨rv5210, h5209, u⟩ := bind_t u
   refine st_callR s (law16_sane_ok h5209 d.bdom) (do_call Tryz.call10 rfl) ⟨_, rfl, rfl⟩ rfl rfl ?_
   rintro v5214 Sv5211 w a h5212 rfl s
   have d := d.callB h5212
   refine sv s (y_pickT rfl rfl) rfl fun a s => ?_
   refine wpList_nil ?_
   have u := oi u
   subst u
   exact then_normal ⟨Sv3189, (s.wk rfl), (d.ft [] [] (by decide) rfl rfl)⟩
  have s := s.fix 227 (.bool false) rfl (vb h5206)
  have u := ite_f hc5207 h5206
  refine rn 2 [] s d rfl rfl fun a s => ?_
  refine wpList_nil ?_
  have u := oi u
  subst u
  exact then_normal ⟨Sv3189, (s.wk rfl), (d.ft [] [] (by decide) rfl rfl)⟩
 rintro a w ⟨Sv5208, s, d⟩
 refine rz 1 [] s d rfl rfl fun a s => ?_
 have u := oi u
 subst u
 exact wp_ret (ret1 s rfl (rv_tmp rfl) (d.ret rfl))
end Go.Proofs.YtdcafiefjakfeaaGreat.Wk

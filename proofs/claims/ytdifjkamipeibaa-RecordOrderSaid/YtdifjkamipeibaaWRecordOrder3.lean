/- The walks of RecordOrder, part 3: each Go function computes what its plain program computes. Printed by a program of ours. -/
import Derived.Test.YtdifjkamipeibaaProg
import Derived.Test.YtdifjkamipeibaaDat
import Derived.Test.YtdifjkamipeibaaSh
import Derived.Test.YtdifjkamipeibaaLibL
import Derived.KernelRfl
import Derived.Test.YtdifjkamipeibaaWRecordOrder2
namespace Go.Proofs.Ytdifjkamipeibaa.Wk
open Go Go.RowKit Go.Proofs Go.Proofs.Ytdifjkamipeibaa.Sh
set_option linter.unusedVariables false
set_option linter.unusedSimpArgs false

abbrev law14_RecordOrder_rd (w0 : World) (X : List Nat) (r : Bool) : (Nat → Prop) → World → Value → Prop := fun S w v => v = .bool r
set_option maxHeartbeats 4000000 in
set_option maxRecDepth 100000 in
theorem law14_RecordOrder_ok {w0 : World} {S0 : Nat → Prop} {p2 : Option Addr} {k3 : Nat} {t1 : (List Int)} {r : Bool} (hsh : law14_RecordOrder t1 = some r) (hS : ∀ b, S0 b → b < w0.heap.size) (h4 : (SlA p2 t1.length k3 t1).p S0 w0) : Calls Try.prog 5 #[.slice p2 t1.length k3] w0 (Ret ([]) w0 S0 (law14_RecordOrder_rd w0 ([]) r)) := by
 refine calls_of_wp Try.func5 rfl ?_
 have hs := Sl.enter #[.slice p2 t1.length k3] 166 [(0, .slice p2 t1.length k3)] rfl ⟨rfl, trivial⟩
 have hw := Wd.enter (E := []) hS (fun _ h => (by cases h))
 have hw := hw.addE h4
 delta law14_RecordOrder at hsh
 refine wp_seq ?_
 refine wp_region_lit ?_
 refine st_val hs (y_assign rfl) trivial rfl rfl fun a hs => ?_
 refine wpList_nil ?_
 refine then_normal ?_
 refine wp_seq ?_
 refine wp_seq ?_
 refine wp_region_lit ?_
 refine st_val hs (y_move rfl) trivial rfl rfl fun a hs => ?_
 obtain ⟨rv6, h5, hsh⟩ := bind_t hsh
 refine st_callR hs (made_Light_ok h5 hw.bdom (hw.bE 0 rfl)) (do_call Try.call7 rfl) trivial rfl rfl ?_
 intro v10 Sv7 w a h8 h9 hs
 subst h9
 have hw := hw.callB h8
 refine st_val hs (y_not rfl) trivial rfl rfl fun a hs => ?_
 refine wpList_nil ?_
 refine then_normal ?_
 refine wp_cond_split (hs.ev rfl) (fun h20 => ?_) (fun h20 => ?_)
 ·have hsh := ite_t hsh h20
  refine wp_seq ?_
  refine wp_region_lit ?_
  obtain ⟨rv22, h21, hsh⟩ := bind_t hsh
  refine st_callR hs (law14_sane_ok h21 hw.bdom) (do_call Try.call8 rfl) trivial rfl rfl ?_
  intro v26 Sv23 w a h24 h25 hs
  subst h25
  have hw := hw.callB h24
  refine st_val hs (y_assign rfl) trivial rfl rfl fun a hs => ?_
  refine wpList_nil ?_
  refine then_normal ?_
  have hsh := Option.some.inj hsh
  subst hsh
  refine wp_ret ?_
  refine then_ret ?_
  exact ret1 hs rfl (rv_tmp rfl) (hw.ret rfl)
 ·have hsh := ite_f hsh h20
  refine wp_skip ?_
  refine then_normal ?_
  refine wp_seq ?_
  refine wp_region_lit ?_
  refine st_val hs (y_move rfl) trivial rfl rfl fun a hs => ?_
  obtain ⟨rv29, h28, hsh⟩ := bind_t hsh
  refine st_callR hs (made_Roll_ok h28 hw.dom (hw.envAt 0 rfl)) (do_call Try.call9 rfl) trivial rfl rfl ?_
  intro v37 Sv34 w a h35 h36 hs
  obtain ⟨b30, p31, k32, rfl, h38, h33⟩ := h36
  have hw := hw.callN h35 h38
  have hw := hw.addE (e := SlA p31 rv29.L.length k32 rv29.L) h33
  refine st_val hs (y_assign rfl) trivial rfl rfl fun a hs => ?_
  refine wpList_nil ?_
  refine then_normal ?_
  refine wp_seq ?_
  refine wp_region_lit ?_
  refine st_val hs (y_move rfl) trivial rfl rfl fun a hs => ?_
  obtain ⟨rv40, h39, hsh⟩ := bind_t hsh
  refine st_callR hs (made_Dice_Records_ok h39 hw.dom (hw.ins [0] (by decide) rfl) (hw.envAt 0 rfl)) (do_call Try.call22 rfl) trivial rfl rfl ?_
  intro v51 Sv48 w a h49 h50 hs
  obtain ⟨p41, k42, c44, p45, k46, rfl, h52, h43, h47⟩ := h50
  have hw := hw.callO [0] [] (by decide) rfl h49 h52
  have hw := hw.addE (e := RowA c44 rv40.1) h43
  have hw := hw.addE (e := SlA p45 rv40.2.L.length k46 rv40.2.L) h47
  refine st_val hs (y_assign rfl) trivial rfl rfl fun a hs => ?_
  refine wpList_nil ?_
  refine then_normal ?_
  refine wp_seq ?_
  refine wp_seq ?_
  refine wp_region_lit ?_
  refine st_val hs (y_move rfl) trivial rfl rfl fun a hs => ?_
  refine st_val hs (y_len Try.runUnderlying51 rfl) trivial rfl rfl fun a hs => ?_
  refine st_val hs (y_move rfl) trivial rfl rfl fun a hs => ?_
  refine wpList_nil ?_
  refine then_normal ?_
  refine wp_block ?_
  refine wp_while (fun sv4882 a w => ∃ (Sv8100 : Nat → Prop), Sl 166 [(4, .slice p41 rv40.1.length k42), (20, .int .i64 (rv40.1.length : Int)), (21, .int .i64 sv4882)] a ∧ Wd ⟨w0, S0, []⟩ Sv8100 [.row p41 rv40.1.length k42 c44 32 12] [RowA c44 rv40.1] w) 0 hsh ⟨Sv48, (hs.wk rfl), (hw.ft [0] [1] (by decide) rfl rfl)⟩ ?_
  repeat clear hsh
  rintro sv4882 a w tv9710 ⟨Sv8100, hs, hw⟩ hsh hd9709
  delta law14_RecordOrder_l22 at hsh
  refine wp_seq ?_
  refine wp_region_lit ?_
  refine st_val hs (y_lss rfl rfl) trivial rfl rfl fun a hs => ?_
  refine wpList_nil ?_
  refine then_normal ?_
  refine wp_seq ?_
  refine wp_cond_split (hs.ev rfl) (fun h9714 => ?_) (fun h9714 => ?_)
  ·have hsh := ite_t hsh h9714
   refine wp_skip ?_
   refine then_normal ?_
   refine wp_seq ?_
   refine wp_block ?_
   refine wp_seq ?_
   refine wp_region_lit ?_
   refine st_val hs (y_move rfl) trivial rfl rfl fun a hs => ?_
   refine st_val hs (y_assign rfl) trivial rfl rfl fun a hs => ?_
   refine wpList_nil ?_
   refine then_normal ?_
   refine wp_seq ?_
   refine wp_region_lit ?_
   refine st_val hs (y_move rfl) trivial rfl rfl fun a hs => ?_
   refine st_val hs (y_len Try.runUnderlying51 rfl) trivial rfl rfl fun a hs => ?_
   refine st_val hs (y_move rfl) trivial rfl rfl fun a hs => ?_
   refine wpList_nil ?_
   refine then_normal ?_
   refine wp_block ?_
   refine wp_while (fun sv12929 a w => ∃ (Sv13999 : Nat → Prop), Sl 166 [(4, .slice p41 rv40.1.length k42), (5, .int .i64 sv4882), (20, .int .i64 (rv40.1.length : Int)), (21, .int .i64 sv4882), (25, .int .i64 (rv40.1.length : Int)), (26, .int .i64 sv12929)] a ∧ Wd ⟨w0, S0, []⟩ Sv13999 [.row p41 rv40.1.length k42 c44 32 12] [RowA c44 rv40.1] w) 0 hsh ⟨Sv8100, (hs.wk rfl), (hw.ft [0] [0] (by decide) rfl rfl)⟩ ?_
   repeat clear hsh
   rintro sv12929 a w tv14535 ⟨Sv13999, hs, hw⟩ hsh hd14534
   delta law14_RecordOrder_l37 at hsh
   refine wp_seq ?_
   refine wp_region_lit ?_
   refine st_val hs (y_lss rfl rfl) trivial rfl rfl fun a hs => ?_
   refine wpList_nil ?_
   refine then_normal ?_
   refine wp_seq ?_
   refine wp_cond_split (hs.ev rfl) (fun h14539 => ?_) (fun h14539 => ?_)
   ·have hsh := ite_t hsh h14539
    refine wp_skip ?_
    refine then_normal ?_
    refine wp_seq ?_
    refine wp_block ?_
    refine wp_seq ?_
    refine wp_region_lit ?_
    refine st_val hs (y_move rfl) trivial rfl rfl fun a hs => ?_
    refine st_val hs (y_assign rfl) trivial rfl rfl fun a hs => ?_
    refine wpList_nil ?_
    refine then_normal ?_
    refine wp_seq ?_
    obtain ⟨x15075, h15073, hsh⟩ := bind_t hsh
    obtain ⟨b15082, q15079, c15080, h15083, h15076, h15077, h15081, h15074⟩ := hw.elemRV (α := Record) 0 rfl 0 rfl h15073
    have hsv15084 := hs
    have hwv15085 := hw
    subst h15083
    have hs := hsv15084
    have hw := hwv15085
    obtain ⟨_, _, _, _, _, _, _, _, _, _, _, _, rfl, rfl, rfl, rfl, rfl, rfl, rfl, rfl, rfl, rfl, rfl, rfl, ⟨p15086, n15087, k15088, rfl, h15089⟩⟩ := h15074
    obtain rfl := h15089.1
    have hw := hw.addE (e := SlA p15086 _ k15088 x15075.Samples) h15089
    obtain ⟨x15092, h15090, hsh⟩ := bind_t hsh
    obtain ⟨q15096, c15097, h15093, h15094, h15098, h15091⟩ := hw.elemRK (α := Record) 0 rfl 1 rfl h15090
    obtain ⟨_, _, _, _, _, _, _, _, _, _, _, _, rfl, rfl, rfl, rfl, rfl, rfl, rfl, rfl, rfl, rfl, rfl, rfl, ⟨p15099, n15100, k15101, rfl, h15102⟩⟩ := h15091
    obtain rfl := h15102.1
    have hw := hw.addE (e := SlA p15099 _ k15101 x15092.Samples) h15102
    obtain ⟨rv15104, h15103, hsh⟩ := bind_t hsh
    refine wp_only (fun a w => ∃ (Sv15105 : Nat → Prop), Sl 166 [(4, .slice (some ⟨b15082, 0, none⟩) rv40.1.length k42), (5, .int .i64 sv4882), (6, .int .i64 sv12929), (7, .int .i64 rv15104), (20, .int .i64 (rv40.1.length : Int)), (21, .int .i64 sv4882), (25, .int .i64 (rv40.1.length : Int)), (26, .int .i64 sv12929)] a ∧ Wd ⟨w0, S0, []⟩ Sv15105 [.row (some ⟨b15082, 0, none⟩) rv40.1.length k42 c44 32 12] [RowA c44 rv40.1] w) ?_ ?_
    ·refine h_b (C := Cls [.row (some ⟨b15082, 0, none⟩) rv40.1.length k42 c44 32 12] []) (by kernel_rfl) rfl (hw.drew.cs [0] [] rfl rfl) fun hC => ?_
     have hw := hw.drew
     refine h_g hs 0 rfl (by kernel_rfl) rfl rfl hC rfl (fun w hC => y_move rfl) fun a hs => ?_
     refine h_g hs 1 rfl (by kernel_rfl) rfl rfl hC rfl (fun w hC => y_move rfl) fun a hs => ?_
     refine h_g hs 2 rfl (by kernel_rfl) rfl rfl hC rfl (fun w hC => y_indexAt Try.runUnderlying51 Try.sizeOf32 rfl rfl h15076.1 h15076.2 h15077) fun a hs => ?_
     refine h_g hs 3 rfl (by kernel_rfl) rfl rfl hC rfl (fun w hC => y_loadQA (j := 0) (hC.ownAt 0 rfl) rfl Try.isAgg32 Try.sizeOf32 h15081 rfl rfl) fun a hs => ?_
     refine h_g hs 4 rfl (by kernel_rfl) rfl rfl hC rfl (fun w hC => y_move rfl) fun a hs => ?_
     refine h_g hs 5 rfl (by kernel_rfl) rfl rfl hC rfl (fun w hC => y_move rfl) fun a hs => ?_
     refine h_g hs 6 rfl (by kernel_rfl) rfl rfl hC rfl (fun w hC => y_indexAt Try.runUnderlying51 Try.sizeOf32 rfl rfl h15093.1 h15093.2 h15094) fun a hs => ?_
     refine h_g hs 7 rfl (by kernel_rfl) rfl rfl hC rfl (fun w hC => y_loadQA (j := 0) (hC.ownAt 0 rfl) rfl Try.isAgg32 Try.sizeOf32 h15098 rfl rfl) fun a hs => ?_
     refine h_one (i := 8) (by kernel_rfl) rfl ?_
     refine st_callR hs (record_Compare_ok h15103 hw.bdom (hw.bE 1 rfl) (hw.bE 0 rfl)) (do_call Try.call23 rfl) trivial rfl rfl ?_
     intro v15109 Sv15106 w a h15107 h15108 hs
     subst h15108
     have hw := hw.callB h15107
     refine h_nx (hw.cs [0] [] rfl rfl) fun hC => ?_
     refine h_g hs 9 rfl (by kernel_rfl) rfl rfl hC rfl (fun w hC => y_assign rfl) fun a hs => ?_
     refine h_done (by kernel_rfl) ?_
     exact ⟨Sv13999, (hs.wk rfl), (hw.ft [0] [2] (by decide) rfl rfl)⟩
    ·rintro a w ⟨Sv15105, hs, hw⟩
     refine then_normal ?_
     refine wp_seq ?_
     refine wp_seq ?_
     obtain ⟨x15113, h15111, hsh⟩ := bind_t hsh
     obtain ⟨q15117, c15118, h15114, h15115, h15119, h15112⟩ := hw.elemRK (α := Record) 0 rfl 0 rfl h15111
     obtain ⟨_, _, _, _, _, _, _, _, _, _, _, _, rfl, rfl, rfl, rfl, rfl, rfl, rfl, rfl, rfl, rfl, rfl, rfl, ⟨p15120, n15121, k15122, rfl, h15123⟩⟩ := h15112
     obtain rfl := h15123.1
     have hw := hw.addE (e := SlA p15120 _ k15122 x15113.Samples) h15123
     obtain ⟨x15126, h15124, hsh⟩ := bind_t hsh
     obtain ⟨q15130, c15131, h15127, h15128, h15132, h15125⟩ := hw.elemRK (α := Record) 0 rfl 1 rfl h15124
     obtain ⟨_, _, _, _, _, _, _, _, _, _, _, _, rfl, rfl, rfl, rfl, rfl, rfl, rfl, rfl, rfl, rfl, rfl, rfl, ⟨p15133, n15134, k15135, rfl, h15136⟩⟩ := h15125
     obtain rfl := h15136.1
     have hw := hw.addE (e := SlA p15133 _ k15135 x15126.Samples) h15136
     obtain ⟨rv15138, h15137, hsh⟩ := bind_t hsh
     obtain ⟨c15167, hc15167, hsh⟩ := bind_t hsh
     refine wp_only (fun a w => ∃ (Sv15168 : Nat → Prop), Sl 166 [(4, .slice (some ⟨b15082, 0, none⟩) rv40.1.length k42), (5, .int .i64 sv4882), (6, .int .i64 sv12929), (7, .int .i64 rv15104), (20, .int .i64 (rv40.1.length : Int)), (21, .int .i64 sv4882), (25, .int .i64 (rv40.1.length : Int)), (26, .int .i64 sv12929), (63, .bool c15167)] a ∧ Wd ⟨w0, S0, []⟩ Sv15168 [.row (some ⟨b15082, 0, none⟩) rv40.1.length k42 c44 32 12] [RowA c44 rv40.1] w) ?_ ?_
     ·rcases Bool.eq_false_or_eq_true (rv15104 != (w64 (0 - rv15138))) with h15169 | h15169
      ·have h15170 := ite_t hc15167 h15169
       refine h_b (C := Cls [.row (some ⟨b15082, 0, none⟩) rv40.1.length k42 c44 32 12] []) (by kernel_rfl) rfl (hw.drew.cs [0] [] rfl rfl) fun hC => ?_
       have hw := hw.drew
       refine h_g hs 0 rfl (by kernel_rfl) rfl rfl hC rfl (fun w hC => y_move rfl) fun a hs => ?_
       refine h_g hs 1 rfl (by kernel_rfl) rfl rfl hC rfl (fun w hC => y_move rfl) fun a hs => ?_
       refine h_g hs 2 rfl (by kernel_rfl) rfl rfl hC rfl (fun w hC => y_move rfl) fun a hs => ?_
       refine h_g hs 3 rfl (by kernel_rfl) rfl rfl hC rfl (fun w hC => y_indexAt Try.runUnderlying51 Try.sizeOf32 rfl rfl h15114.1 h15114.2 h15115) fun a hs => ?_
       refine h_g hs 4 rfl (by kernel_rfl) rfl rfl hC rfl (fun w hC => y_loadQA (j := 0) (hC.ownAt 0 rfl) rfl Try.isAgg32 Try.sizeOf32 h15119 rfl rfl) fun a hs => ?_
       refine h_g hs 5 rfl (by kernel_rfl) rfl rfl hC rfl (fun w hC => y_move rfl) fun a hs => ?_
       refine h_g hs 6 rfl (by kernel_rfl) rfl rfl hC rfl (fun w hC => y_move rfl) fun a hs => ?_
       refine h_g hs 7 rfl (by kernel_rfl) rfl rfl hC rfl (fun w hC => y_indexAt Try.runUnderlying51 Try.sizeOf32 rfl rfl h15127.1 h15127.2 h15128) fun a hs => ?_
       refine h_g hs 8 rfl (by kernel_rfl) rfl rfl hC rfl (fun w hC => y_loadQA (j := 0) (hC.ownAt 0 rfl) rfl Try.isAgg32 Try.sizeOf32 h15132 rfl rfl) fun a hs => ?_
       refine h_one (i := 9) (by kernel_rfl) rfl ?_
       refine st_callR hs (record_Compare_ok h15137 hw.bdom (hw.bE 1 rfl) (hw.bE 0 rfl)) (do_call Try.call23 rfl) trivial rfl rfl ?_
       intro v15174 Sv15171 w a h15172 h15173 hs
       subst h15173
       have hw := hw.callB h15172
       refine h_nx (hw.cs [0] [] rfl rfl) fun hC => ?_
       refine h_g hs 10 rfl (by kernel_rfl) rfl rfl hC rfl (fun w hC => y_neg rfl) fun a hs => ?_
       refine h_g hs 11 rfl (by kernel_rfl) rfl rfl hC rfl (fun w hC => y_neq rfl rfl) fun a hs => ?_
       refine h_g hs 12 rfl (by kernel_rfl) rfl rfl hC rfl (fun w hC => y_move rfl) fun a hs => ?_
       have hs := hs.fix 50 (.bool true) rfl (vb h15169)
       refine h_s hs 13 rfl (by kernel_rfl) rfl rfl rfl (.inl rfl) rfl rfl hC fun a hs => ?_
       refine h_s hs 14 rfl (by kernel_rfl) rfl rfl rfl (.inl rfl) rfl rfl hC fun a hs => ?_
       refine h_s hs 15 rfl (by kernel_rfl) rfl rfl rfl (.inl rfl) rfl rfl hC fun a hs => ?_
       refine h_s hs 16 rfl (by kernel_rfl) rfl rfl rfl (.inl rfl) rfl rfl hC fun a hs => ?_
       refine h_s hs 17 rfl (by kernel_rfl) rfl rfl rfl (.inl rfl) rfl rfl hC fun a hs => ?_
       refine h_s hs 18 rfl (by kernel_rfl) rfl rfl rfl (.inl rfl) rfl rfl hC fun a hs => ?_
       refine h_s hs 19 rfl (by kernel_rfl) rfl rfl rfl (.inl rfl) rfl rfl hC fun a hs => ?_
       refine h_s hs 20 rfl (by kernel_rfl) rfl rfl rfl (.inl rfl) rfl rfl hC fun a hs => ?_
       refine h_s hs 21 rfl (by kernel_rfl) rfl rfl rfl (.inl rfl) rfl rfl hC fun a hs => ?_
       refine h_s hs 22 rfl (by kernel_rfl) rfl rfl rfl (.inl rfl) rfl rfl hC fun a hs => ?_
       refine h_s hs 23 rfl (by kernel_rfl) rfl rfl rfl (.inl rfl) rfl rfl hC fun a hs => ?_
       refine h_s hs 24 rfl (by kernel_rfl) rfl rfl rfl (.inl rfl) rfl rfl hC fun a hs => ?_
       refine h_g hs 25 rfl (by kernel_rfl) rfl rfl hC rfl (fun w hC => y_pickTE (v := .bool c15167) rfl rfl (vbs h15170)) fun a hs => ?_
       refine h_done (by kernel_rfl) ?_
       exact ⟨Sv15105, (hs.wk rfl), (hw.ft [0] [2] (by decide) rfl rfl)⟩
      ·have h15176 := ite_f hc15167 h15169
       obtain ⟨x15179, h15177, h15176⟩ := bind_t h15176
       obtain ⟨q15183, c15184, h15180, h15181, h15185, h15178⟩ := hw.elemRK (α := Record) 0 rfl 2 rfl h15177
       obtain ⟨_, _, _, _, _, _, _, _, _, _, _, _, rfl, rfl, rfl, rfl, rfl, rfl, rfl, rfl, rfl, rfl, rfl, rfl, ⟨p15186, n15187, k15188, rfl, h15189⟩⟩ := h15178
       obtain rfl := h15189.1
       have hw := hw.addE (e := SlA p15186 _ k15188 x15179.Samples) h15189
       obtain ⟨x15192, h15190, h15176⟩ := bind_t h15176
       obtain ⟨q15196, c15197, h15193, h15194, h15198, h15191⟩ := hw.elemRK (α := Record) 0 rfl 3 rfl h15190
       obtain ⟨_, _, _, _, _, _, _, _, _, _, _, _, rfl, rfl, rfl, rfl, rfl, rfl, rfl, rfl, rfl, rfl, rfl, rfl, ⟨p15199, n15200, k15201, rfl, h15202⟩⟩ := h15191
       obtain rfl := h15202.1
       have hw := hw.addE (e := SlA p15199 _ k15201 x15192.Samples) h15202
       obtain ⟨rv15204, h15203, h15176⟩ := bind_t h15176
       refine h_b (C := Cls [.row (some ⟨b15082, 0, none⟩) rv40.1.length k42 c44 32 12] []) (by kernel_rfl) rfl (hw.drew.cs [0] [] rfl rfl) fun hC => ?_
       have hw := hw.drew
       refine h_g hs 0 rfl (by kernel_rfl) rfl rfl hC rfl (fun w hC => y_move rfl) fun a hs => ?_
       refine h_g hs 1 rfl (by kernel_rfl) rfl rfl hC rfl (fun w hC => y_move rfl) fun a hs => ?_
       refine h_g hs 2 rfl (by kernel_rfl) rfl rfl hC rfl (fun w hC => y_move rfl) fun a hs => ?_
       refine h_g hs 3 rfl (by kernel_rfl) rfl rfl hC rfl (fun w hC => y_indexAt Try.runUnderlying51 Try.sizeOf32 rfl rfl h15114.1 h15114.2 h15115) fun a hs => ?_
       refine h_g hs 4 rfl (by kernel_rfl) rfl rfl hC rfl (fun w hC => y_loadQA (j := 0) (hC.ownAt 0 rfl) rfl Try.isAgg32 Try.sizeOf32 h15119 rfl rfl) fun a hs => ?_
       refine h_g hs 5 rfl (by kernel_rfl) rfl rfl hC rfl (fun w hC => y_move rfl) fun a hs => ?_
       refine h_g hs 6 rfl (by kernel_rfl) rfl rfl hC rfl (fun w hC => y_move rfl) fun a hs => ?_
       refine h_g hs 7 rfl (by kernel_rfl) rfl rfl hC rfl (fun w hC => y_indexAt Try.runUnderlying51 Try.sizeOf32 rfl rfl h15127.1 h15127.2 h15128) fun a hs => ?_
       refine h_g hs 8 rfl (by kernel_rfl) rfl rfl hC rfl (fun w hC => y_loadQA (j := 0) (hC.ownAt 0 rfl) rfl Try.isAgg32 Try.sizeOf32 h15132 rfl rfl) fun a hs => ?_
       refine h_one (i := 9) (by kernel_rfl) rfl ?_
       refine st_callR hs (record_Compare_ok h15137 hw.bdom (hw.bE 3 rfl) (hw.bE 2 rfl)) (do_call Try.call23 rfl) trivial rfl rfl ?_
       intro v15208 Sv15205 w a h15206 h15207 hs
       subst h15207
       have hw := hw.callB h15206
       refine h_nx (hw.cs [0] [] rfl rfl) fun hC => ?_
       refine h_g hs 10 rfl (by kernel_rfl) rfl rfl hC rfl (fun w hC => y_neg rfl) fun a hs => ?_
       refine h_g hs 11 rfl (by kernel_rfl) rfl rfl hC rfl (fun w hC => y_neq rfl rfl) fun a hs => ?_
       refine h_g hs 12 rfl (by kernel_rfl) rfl rfl hC rfl (fun w hC => y_move rfl) fun a hs => ?_
       have hs := hs.fix 50 (.bool false) rfl (vb h15169)
       refine h_t hs 13 rfl (by kernel_rfl) ⟨_, rfl, rfl⟩ rfl rfl hC (fun w hC => y_move rfl) fun a hs => ?_
       refine h_t hs 14 rfl (by kernel_rfl) ⟨_, rfl, rfl⟩ rfl rfl hC (fun w hC => y_eql rfl rfl) fun a hs => ?_
       refine h_t hs 15 rfl (by kernel_rfl) ⟨_, rfl, rfl⟩ rfl rfl hC (fun w hC => y_move rfl) fun a hs => ?_
       refine h_t hs 16 rfl (by kernel_rfl) ⟨_, rfl, rfl⟩ rfl rfl hC (fun w hC => y_move rfl) fun a hs => ?_
       refine h_t hs 17 rfl (by kernel_rfl) ⟨_, rfl, rfl⟩ rfl rfl hC (fun w hC => y_indexAt Try.runUnderlying51 Try.sizeOf32 rfl rfl h15180.1 h15180.2 h15181) fun a hs => ?_
       refine h_t hs 18 rfl (by kernel_rfl) ⟨_, rfl, rfl⟩ rfl rfl hC (fun w hC => y_loadQA (j := 0) (hC.ownAt 0 rfl) rfl Try.isAgg32 Try.sizeOf32 h15185 rfl rfl) fun a hs => ?_
       refine h_t hs 19 rfl (by kernel_rfl) ⟨_, rfl, rfl⟩ rfl rfl hC (fun w hC => y_move rfl) fun a hs => ?_
       refine h_t hs 20 rfl (by kernel_rfl) ⟨_, rfl, rfl⟩ rfl rfl hC (fun w hC => y_move rfl) fun a hs => ?_
       refine h_t hs 21 rfl (by kernel_rfl) ⟨_, rfl, rfl⟩ rfl rfl hC (fun w hC => y_indexAt Try.runUnderlying51 Try.sizeOf32 rfl rfl h15193.1 h15193.2 h15194) fun a hs => ?_
       refine h_t hs 22 rfl (by kernel_rfl) ⟨_, rfl, rfl⟩ rfl rfl hC (fun w hC => y_loadQA (j := 0) (hC.ownAt 0 rfl) rfl Try.isAgg32 Try.sizeOf32 h15198 rfl rfl) fun a hs => ?_
       refine h_one (i := 23) (by kernel_rfl) rfl ?_
       refine st_callR hs (record_Same_ok h15203 hw.bdom (hw.bE 1 rfl) (hw.bE 0 rfl)) (do_call Try.call17 rfl) ⟨_, rfl, rfl⟩ rfl rfl ?_
       intro v15213 Sv15210 w a h15211 h15212 hs
       subst h15212
       have hw := hw.callB h15211
       refine h_nx (hw.cs [0] [] rfl rfl) fun hC => ?_
       refine h_t hs 24 rfl (by kernel_rfl) ⟨_, rfl, rfl⟩ rfl rfl hC (fun w hC => y_neqB Try.runUnderlying4 rfl rfl) fun a hs => ?_
       refine h_g hs 25 rfl (by kernel_rfl) rfl rfl hC rfl (fun w hC => y_pickFE (v := .bool c15167) rfl rfl (vbs h15176)) fun a hs => ?_
       refine h_done (by kernel_rfl) ?_
       exact ⟨Sv15105, (hs.wk rfl), (hw.ft [0] [4] (by decide) rfl rfl)⟩
     ·rintro a w ⟨Sv15168, hs, hw⟩
      refine then_normal ?_
      refine wp_cond_split (hs.ev rfl) (fun h15216 => ?_) (fun h15216 => ?_)
      ·have hsh := ite_t hsh h15216
       refine wp_seq ?_
       refine wp_region_lit ?_
       refine st_val hs (y_assign rfl) trivial rfl rfl fun a hs => ?_
       refine wpList_nil ?_
       refine then_normal ?_
       have hsh := Option.some.inj hsh
       subst hsh
       have h15217 := hd14534 _ rfl
       subst h15217
       have h15218 := hd9709 _ rfl
       subst h15218
       refine wp_ret ?_
       refine then_ret ?_
       refine blk_ret ?_
       refine then_ret ?_
       refine then_ret ?_
       refine blk_ret ?_
       refine blk_ret ?_
       refine then_ret ?_
       refine then_ret ?_
       refine blk_ret ?_
       refine then_ret ?_
       exact ret1 hs rfl (rv_tmp rfl) (hw.ret rfl)
      ·have hsh := ite_f hsh h15216
       refine wp_skip ?_
       refine then_normal ?_
       refine wp_seq ?_
       obtain ⟨x15221, h15219, hsh⟩ := bind_t hsh
       obtain ⟨q15225, c15226, h15222, h15223, h15227, h15220⟩ := hw.elemRK (α := Record) 0 rfl 0 rfl h15219
       obtain ⟨_, _, _, _, _, _, _, _, _, _, _, _, rfl, rfl, rfl, rfl, rfl, rfl, rfl, rfl, rfl, rfl, rfl, rfl, ⟨p15228, n15229, k15230, rfl, h15231⟩⟩ := h15220
       obtain rfl := h15231.1
       have hw := hw.addE (e := SlA p15228 _ k15230 x15221.Samples) h15231
       obtain ⟨x15234, h15232, hsh⟩ := bind_t hsh
       obtain ⟨q15238, c15239, h15235, h15236, h15240, h15233⟩ := hw.elemRK (α := Record) 0 rfl 1 rfl h15232
       obtain ⟨_, _, _, _, _, _, _, _, _, _, _, _, rfl, rfl, rfl, rfl, rfl, rfl, rfl, rfl, rfl, rfl, rfl, rfl, ⟨p15241, n15242, k15243, rfl, h15244⟩⟩ := h15233
       obtain rfl := h15244.1
       have hw := hw.addE (e := SlA p15241 _ k15243 x15234.Samples) h15244
       obtain ⟨rv15246, h15245, hsh⟩ := bind_t hsh
       obtain ⟨x15249, h15247, hsh⟩ := bind_t hsh
       obtain ⟨q15253, c15254, h15250, h15251, h15255, h15248⟩ := hw.elemRK (α := Record) 0 rfl 2 rfl h15247
       obtain ⟨_, _, _, _, _, _, _, _, _, _, _, _, rfl, rfl, rfl, rfl, rfl, rfl, rfl, rfl, rfl, rfl, rfl, rfl, ⟨p15256, n15257, k15258, rfl, h15259⟩⟩ := h15248
       obtain rfl := h15259.1
       have hw := hw.addE (e := SlA p15256 _ k15258 x15249.Samples) h15259
       obtain ⟨x15262, h15260, hsh⟩ := bind_t hsh
       obtain ⟨q15266, c15267, h15263, h15264, h15268, h15261⟩ := hw.elemRK (α := Record) 0 rfl 3 rfl h15260
       obtain ⟨_, _, _, _, _, _, _, _, _, _, _, _, rfl, rfl, rfl, rfl, rfl, rfl, rfl, rfl, rfl, rfl, rfl, rfl, ⟨p15269, n15270, k15271, rfl, h15272⟩⟩ := h15261
       obtain rfl := h15272.1
       have hw := hw.addE (e := SlA p15269 _ k15271 x15262.Samples) h15272
       obtain ⟨rv15274, h15273, hsh⟩ := bind_t hsh
       refine wp_only (fun a w => ∃ (Sv15275 : Nat → Prop), Sl 166 [(4, .slice (some ⟨b15082, 0, none⟩) rv40.1.length k42), (5, .int .i64 sv4882), (6, .int .i64 sv12929), (7, .int .i64 rv15104), (8, .bool rv15246), (9, .bool rv15274), (20, .int .i64 (rv40.1.length : Int)), (21, .int .i64 sv4882), (25, .int .i64 (rv40.1.length : Int)), (26, .int .i64 sv12929)] a ∧ Wd ⟨w0, S0, []⟩ Sv15275 [.row (some ⟨b15082, 0, none⟩) rv40.1.length k42 c44 32 12] [RowA c44 rv40.1] w) ?_ ?_
       ·refine h_b (C := Cls [.row (some ⟨b15082, 0, none⟩) rv40.1.length k42 c44 32 12] []) (by kernel_rfl) rfl (hw.drew.cs [0] [] rfl rfl) fun hC => ?_
        have hw := hw.drew
        refine h_g hs 0 rfl (by kernel_rfl) rfl rfl hC rfl (fun w hC => y_move rfl) fun a hs => ?_
        refine h_g hs 1 rfl (by kernel_rfl) rfl rfl hC rfl (fun w hC => y_move rfl) fun a hs => ?_
        refine h_g hs 2 rfl (by kernel_rfl) rfl rfl hC rfl (fun w hC => y_indexAt Try.runUnderlying51 Try.sizeOf32 rfl rfl h15222.1 h15222.2 h15223) fun a hs => ?_
        refine h_g hs 3 rfl (by kernel_rfl) rfl rfl hC rfl (fun w hC => y_loadQA (j := 0) (hC.ownAt 0 rfl) rfl Try.isAgg32 Try.sizeOf32 h15227 rfl rfl) fun a hs => ?_
        refine h_g hs 4 rfl (by kernel_rfl) rfl rfl hC rfl (fun w hC => y_move rfl) fun a hs => ?_
        refine h_g hs 5 rfl (by kernel_rfl) rfl rfl hC rfl (fun w hC => y_move rfl) fun a hs => ?_
        refine h_g hs 6 rfl (by kernel_rfl) rfl rfl hC rfl (fun w hC => y_indexAt Try.runUnderlying51 Try.sizeOf32 rfl rfl h15235.1 h15235.2 h15236) fun a hs => ?_
        refine h_g hs 7 rfl (by kernel_rfl) rfl rfl hC rfl (fun w hC => y_loadQA (j := 0) (hC.ownAt 0 rfl) rfl Try.isAgg32 Try.sizeOf32 h15240 rfl rfl) fun a hs => ?_
        refine h_g hs 9 rfl (by kernel_rfl) rfl rfl hC rfl (fun w hC => y_move rfl) fun a hs => ?_
        refine h_g hs 10 rfl (by kernel_rfl) rfl rfl hC rfl (fun w hC => y_move rfl) fun a hs => ?_
        refine h_g hs 11 rfl (by kernel_rfl) rfl rfl hC rfl (fun w hC => y_indexAt Try.runUnderlying51 Try.sizeOf32 rfl rfl h15250.1 h15250.2 h15251) fun a hs => ?_
        refine h_g hs 12 rfl (by kernel_rfl) rfl rfl hC rfl (fun w hC => y_loadQA (j := 0) (hC.ownAt 0 rfl) rfl Try.isAgg32 Try.sizeOf32 h15255 rfl rfl) fun a hs => ?_
        refine h_g hs 13 rfl (by kernel_rfl) rfl rfl hC rfl (fun w hC => y_move rfl) fun a hs => ?_
        refine h_g hs 14 rfl (by kernel_rfl) rfl rfl hC rfl (fun w hC => y_move rfl) fun a hs => ?_
        refine h_g hs 15 rfl (by kernel_rfl) rfl rfl hC rfl (fun w hC => y_indexAt Try.runUnderlying51 Try.sizeOf32 rfl rfl h15263.1 h15263.2 h15264) fun a hs => ?_
        refine h_g hs 16 rfl (by kernel_rfl) rfl rfl hC rfl (fun w hC => y_loadQA (j := 0) (hC.ownAt 0 rfl) rfl Try.isAgg32 Try.sizeOf32 h15268 rfl rfl) fun a hs => ?_
        refine h_one (i := 8) (by kernel_rfl) rfl ?_
        refine st_callR hs (record_Better_ok h15245 hw.bdom (hw.bE 3 rfl) (hw.bE 2 rfl)) (do_call Try.call24 rfl) trivial rfl rfl ?_
        intro v15279 Sv15276 w a h15277 h15278 hs
        subst h15278
        have hw := hw.callB h15277
        refine h_nx (hw.cs [0] [] rfl rfl) fun hC => ?_
        refine h_one (i := 17) (by kernel_rfl) rfl ?_
        refine st_callR hs (record_Better_ok h15273 hw.bdom (hw.bE 1 rfl) (hw.bE 0 rfl)) (do_call Try.call24 rfl) trivial rfl rfl ?_
        intro v15284 Sv15281 w a h15282 h15283 hs
        subst h15283
        have hw := hw.callB h15282
        refine h_nx (hw.cs [0] [] rfl rfl) fun hC => ?_
        refine h_g hs 18 rfl (by kernel_rfl) rfl rfl hC rfl (fun w hC => y_assign rfl) fun a hs => ?_
        refine h_g hs 19 rfl (by kernel_rfl) rfl rfl hC rfl (fun w hC => y_assign rfl) fun a hs => ?_
        refine h_done (by kernel_rfl) ?_
        exact ⟨Sv15168, (hs.wk rfl), (hw.ft [0] [4] (by decide) rfl rfl)⟩
       ·rintro a w ⟨Sv15275, hs, hw⟩
        refine then_normal ?_
        refine wp_seq ?_
        refine wp_seq ?_
        refine wp_region_lit ?_
        refine st_val hs (y_move rfl) trivial rfl rfl fun a hs => ?_
        refine st_val hs (y_move rfl) trivial rfl rfl fun a hs => ?_
        refine wpl_join 2 (fun a w1 => w = w1 ∧ Sl 166 [(4, .slice (some ⟨b15082, 0, none⟩) rv40.1.length k42), (5, .int .i64 sv4882), (6, .int .i64 sv12929), (7, .int .i64 rv15104), (8, .bool rv15246), (9, .bool rv15274), (20, .int .i64 (rv40.1.length : Int)), (21, .int .i64 sv4882), (25, .int .i64 (rv40.1.length : Int)), (26, .int .i64 sv12929), (85, .bool (rv15246 && rv15274))] a) ?_ ?_
        ·rcases Bool.eq_false_or_eq_true rv15246 with h15286 | h15286
         ·have hs := hs.fix 83 (.bool true) rfl (vb h15286)
          refine st_val hs (y_move rfl) ⟨_, rfl, rfl⟩ rfl rfl fun a hs => ?_
          refine st_val hs (y_pickT rfl rfl) trivial rfl rfl fun a hs => ?_
          refine wpList_nil ?_
          refine then_normal ?_
          exact ⟨rfl, (hs.fix 85 (.bool (rv15246 && rv15274)) rfl (and_t h15286)).weaken _ ⟨rfl, rfl, rfl, rfl, rfl, rfl, rfl, rfl, rfl, rfl, rfl, trivial⟩⟩
         ·have hs := hs.fix 83 (.bool false) rfl (vb h15286)
          refine st_skip hs rfl rfl rfl rfl rfl fun a hs => ?_
          refine st_val hs (y_pickF rfl rfl) trivial rfl rfl fun a hs => ?_
          refine wpList_nil ?_
          refine then_normal ?_
          exact ⟨rfl, (hs.fix 85 (.bool (rv15246 && rv15274)) rfl (and_f h15286)).weaken _ ⟨rfl, rfl, rfl, rfl, rfl, rfl, rfl, rfl, rfl, rfl, rfl, trivial⟩⟩
        ·rintro a w1 ⟨h17174, hs⟩
         subst h17174
         refine st_val hs (y_move rfl) trivial rfl rfl fun a hs => ?_
         refine wpl_join 11 (fun a w1 => w = w1 ∧ Sl 166 [(4, .slice (some ⟨b15082, 0, none⟩) rv40.1.length k42), (5, .int .i64 sv4882), (6, .int .i64 sv12929), (7, .int .i64 rv15104), (8, .bool rv15246), (20, .int .i64 (rv40.1.length : Int)), (21, .int .i64 sv4882), (25, .int .i64 (rv40.1.length : Int)), (26, .int .i64 sv12929), (97, .bool ((rv15246 && rv15274) || (((!rv15246) && (!rv15274)) && (rv15104 != 0))))] a) ?_ ?_
         ·rcases Bool.eq_false_or_eq_true (rv15246 && rv15274) with h15291 | h15291
          ·have hs := hs.fix 86 (.bool true) rfl (vb h15291)
           refine st_skip hs rfl rfl rfl rfl rfl fun a hs => ?_
           refine st_skip hs rfl rfl rfl rfl rfl fun a hs => ?_
           refine st_skip hs rfl rfl rfl rfl rfl fun a hs => ?_
           refine st_skipU hs rfl rfl rfl rfl rfl fun a hs => ?_
           refine st_skipU hs rfl rfl rfl rfl rfl fun a hs => ?_
           refine st_skip hs rfl rfl rfl rfl rfl fun a hs => ?_
           refine st_skip hs rfl rfl rfl rfl rfl fun a hs => ?_
           refine st_skipU hs rfl rfl rfl rfl rfl fun a hs => ?_
           refine st_skipU hs rfl rfl rfl rfl rfl fun a hs => ?_
           refine st_skip hs rfl rfl rfl rfl rfl fun a hs => ?_
           refine st_val hs (y_pickT rfl rfl) trivial rfl rfl fun a hs => ?_
           refine wpList_nil ?_
           refine then_normal ?_
           exact ⟨rfl, (hs.fix 97 (.bool ((rv15246 && rv15274) || (((!rv15246) && (!rv15274)) && (rv15104 != 0)))) rfl (or_t h15291)).weaken _ ⟨rfl, rfl, rfl, rfl, rfl, rfl, rfl, rfl, rfl, rfl, trivial⟩⟩
          ·have hs := hs.fix 86 (.bool false) rfl (vb h15291)
           refine st_val hs (y_move rfl) ⟨_, rfl, rfl⟩ rfl rfl fun a hs => ?_
           refine st_val hs (y_not rfl) ⟨_, rfl, rfl⟩ rfl rfl fun a hs => ?_
           refine st_val hs (y_move rfl) ⟨_, rfl, rfl⟩ rfl rfl fun a hs => ?_
           refine wpl_join 3 (fun a w1 => w = w1 ∧ Sl 166 [(4, .slice (some ⟨b15082, 0, none⟩) rv40.1.length k42), (5, .int .i64 sv4882), (6, .int .i64 sv12929), (7, .int .i64 rv15104), (8, .bool rv15246), (20, .int .i64 (rv40.1.length : Int)), (21, .int .i64 sv4882), (25, .int .i64 (rv40.1.length : Int)), (26, .int .i64 sv12929), (86, .bool false), (87, .bool rv15246), (88, .bool (!rv15246)), (89, .bool (!rv15246)), (92, .bool ((!rv15246) && (!rv15274)))] a) ?_ ?_
           ·rcases Bool.eq_false_or_eq_true (!rv15246) with h15292 | h15292
            ·have hs := hs.fix 89 (.bool true) rfl (vb h15292)
             refine st_val hs (y_move rfl) ⟨_, rfl, rfl⟩ rfl rfl fun a hs => ?_
             refine st_val hs (y_not rfl) ⟨_, rfl, rfl⟩ rfl rfl fun a hs => ?_
             refine st_val hs (y_pickT rfl rfl) ⟨_, rfl, rfl⟩ rfl rfl fun a hs => ?_
             refine wpList_nil ?_
             refine then_normal ?_
             have hs := hs.fix 89 (.bool (!rv15246)) rfl (vb h15292.symm)
             exact ⟨rfl, (hs.fix 92 (.bool ((!rv15246) && (!rv15274))) rfl (and_t h15292)).weaken _ ⟨rfl, rfl, rfl, rfl, rfl, rfl, rfl, rfl, rfl, rfl, rfl, rfl, rfl, rfl, trivial⟩⟩
            ·have hs := hs.fix 89 (.bool false) rfl (vb h15292)
             refine st_skip hs rfl rfl rfl rfl rfl fun a hs => ?_
             refine st_skip hs rfl rfl rfl rfl rfl fun a hs => ?_
             refine st_val hs (y_pickF rfl rfl) ⟨_, rfl, rfl⟩ rfl rfl fun a hs => ?_
             refine wpList_nil ?_
             refine then_normal ?_
             have hs := hs.fix 89 (.bool (!rv15246)) rfl (vb h15292.symm)
             exact ⟨rfl, (hs.fix 92 (.bool ((!rv15246) && (!rv15274))) rfl (and_f h15292)).weaken _ ⟨rfl, rfl, rfl, rfl, rfl, rfl, rfl, rfl, rfl, rfl, rfl, rfl, rfl, rfl, trivial⟩⟩
           ·rintro a w1 ⟨h15295, hs⟩
            subst h15295
            refine st_val hs (y_move rfl) ⟨_, rfl, rfl⟩ rfl rfl fun a hs => ?_
            refine wpl_join 3 (fun a w1 => w = w1 ∧ Sl 166 [(4, .slice (some ⟨b15082, 0, none⟩) rv40.1.length k42), (5, .int .i64 sv4882), (6, .int .i64 sv12929), (7, .int .i64 rv15104), (8, .bool rv15246), (20, .int .i64 (rv40.1.length : Int)), (21, .int .i64 sv4882), (25, .int .i64 (rv40.1.length : Int)), (26, .int .i64 sv12929), (86, .bool false), (87, .bool rv15246), (88, .bool (!rv15246)), (89, .bool (!rv15246)), (92, .bool ((!rv15246) && (!rv15274))), (93, .bool ((!rv15246) && (!rv15274))), (96, .bool (((!rv15246) && (!rv15274)) && (rv15104 != 0)))] a) ?_ ?_
            ·rcases Bool.eq_false_or_eq_true ((!rv15246) && (!rv15274)) with h15293 | h15293
             ·have hs := hs.fix 93 (.bool true) rfl (vb h15293)
              refine st_val hs (y_move rfl) ⟨_, rfl, rfl⟩ rfl rfl fun a hs => ?_
              refine st_val hs (y_neq rfl rfl) ⟨_, rfl, rfl⟩ rfl rfl fun a hs => ?_
              refine st_val hs (y_pickT rfl rfl) ⟨_, rfl, rfl⟩ rfl rfl fun a hs => ?_
              refine wpList_nil ?_
              refine then_normal ?_
              have hs := hs.fix 93 (.bool ((!rv15246) && (!rv15274))) rfl (vb h15293.symm)
              exact ⟨rfl, (hs.fix 96 (.bool (((!rv15246) && (!rv15274)) && (rv15104 != 0))) rfl (and_t h15293)).weaken _ ⟨rfl, rfl, rfl, rfl, rfl, rfl, rfl, rfl, rfl, rfl, rfl, rfl, rfl, rfl, rfl, rfl, trivial⟩⟩
             ·have hs := hs.fix 93 (.bool false) rfl (vb h15293)
              refine st_skip hs rfl rfl rfl rfl rfl fun a hs => ?_
              refine st_skip hs rfl rfl rfl rfl rfl fun a hs => ?_
              refine st_val hs (y_pickF rfl rfl) ⟨_, rfl, rfl⟩ rfl rfl fun a hs => ?_
              refine wpList_nil ?_
              refine then_normal ?_
              have hs := hs.fix 93 (.bool ((!rv15246) && (!rv15274))) rfl (vb h15293.symm)
              exact ⟨rfl, (hs.fix 96 (.bool (((!rv15246) && (!rv15274)) && (rv15104 != 0))) rfl (and_f h15293)).weaken _ ⟨rfl, rfl, rfl, rfl, rfl, rfl, rfl, rfl, rfl, rfl, rfl, rfl, rfl, rfl, rfl, rfl, trivial⟩⟩
            ·rintro a w1 ⟨h15294, hs⟩
             subst h15294
             refine st_val hs (y_pickF rfl rfl) trivial rfl rfl fun a hs => ?_
             refine wpList_nil ?_
             refine then_normal ?_
             exact ⟨rfl, (hs.fix 97 (.bool ((rv15246 && rv15274) || (((!rv15246) && (!rv15274)) && (rv15104 != 0)))) rfl (or_f h15291)).weaken _ ⟨rfl, rfl, rfl, rfl, rfl, rfl, rfl, rfl, rfl, rfl, trivial⟩⟩
         ·rintro a w1 ⟨h17173, hs⟩
          subst h17173
          refine st_val hs (y_move rfl) trivial rfl rfl fun a hs => ?_
          refine wpl_join 6 (fun a w1 => w = w1 ∧ Sl 166 [(4, .slice (some ⟨b15082, 0, none⟩) rv40.1.length k42), (5, .int .i64 sv4882), (6, .int .i64 sv12929), (7, .int .i64 rv15104), (8, .bool rv15246), (20, .int .i64 (rv40.1.length : Int)), (21, .int .i64 sv4882), (25, .int .i64 (rv40.1.length : Int)), (26, .int .i64 sv12929), (104, .bool (((rv15246 && rv15274) || (((!rv15246) && (!rv15274)) && (rv15104 != 0))) || ((rv15104 == 0) && rv15246)))] a) ?_ ?_
          ·rcases Bool.eq_false_or_eq_true ((rv15246 && rv15274) || (((!rv15246) && (!rv15274)) && (rv15104 != 0))) with h15298 | h15298
           ·have hs := hs.fix 98 (.bool true) rfl (vb h15298)
            refine st_skip hs rfl rfl rfl rfl rfl fun a hs => ?_
            refine st_skip hs rfl rfl rfl rfl rfl fun a hs => ?_
            refine st_skip hs rfl rfl rfl rfl rfl fun a hs => ?_
            refine st_skipU hs rfl rfl rfl rfl rfl fun a hs => ?_
            refine st_skip hs rfl rfl rfl rfl rfl fun a hs => ?_
            refine st_val hs (y_pickT rfl rfl) trivial rfl rfl fun a hs => ?_
            refine wpList_nil ?_
            refine then_normal ?_
            exact ⟨rfl, (hs.fix 104 (.bool (((rv15246 && rv15274) || (((!rv15246) && (!rv15274)) && (rv15104 != 0))) || ((rv15104 == 0) && rv15246))) rfl (or_t h15298)).weaken _ ⟨rfl, rfl, rfl, rfl, rfl, rfl, rfl, rfl, rfl, rfl, trivial⟩⟩
           ·have hs := hs.fix 98 (.bool false) rfl (vb h15298)
            refine st_val hs (y_move rfl) ⟨_, rfl, rfl⟩ rfl rfl fun a hs => ?_
            refine st_val hs (y_eql rfl rfl) ⟨_, rfl, rfl⟩ rfl rfl fun a hs => ?_
            refine st_val hs (y_move rfl) ⟨_, rfl, rfl⟩ rfl rfl fun a hs => ?_
            refine wpl_join 2 (fun a w1 => w = w1 ∧ Sl 166 [(4, .slice (some ⟨b15082, 0, none⟩) rv40.1.length k42), (5, .int .i64 sv4882), (6, .int .i64 sv12929), (7, .int .i64 rv15104), (8, .bool rv15246), (20, .int .i64 (rv40.1.length : Int)), (21, .int .i64 sv4882), (25, .int .i64 (rv40.1.length : Int)), (26, .int .i64 sv12929), (98, .bool false), (99, .int .i64 rv15104), (100, .bool (rv15104 == 0)), (101, .bool (rv15104 == 0)), (103, .bool ((rv15104 == 0) && rv15246))] a) ?_ ?_
            ·rcases Bool.eq_false_or_eq_true (rv15104 == 0) with h15299 | h15299
             ·have hs := hs.fix 101 (.bool true) rfl (vb h15299)
              refine st_val hs (y_move rfl) ⟨_, rfl, rfl⟩ rfl rfl fun a hs => ?_
              refine st_val hs (y_pickT rfl rfl) ⟨_, rfl, rfl⟩ rfl rfl fun a hs => ?_
              refine wpList_nil ?_
              refine then_normal ?_
              have hs := hs.fix 101 (.bool (rv15104 == 0)) rfl (vb h15299.symm)
              exact ⟨rfl, (hs.fix 103 (.bool ((rv15104 == 0) && rv15246)) rfl (and_t h15299)).weaken _ ⟨rfl, rfl, rfl, rfl, rfl, rfl, rfl, rfl, rfl, rfl, rfl, rfl, rfl, rfl, trivial⟩⟩
             ·have hs := hs.fix 101 (.bool false) rfl (vb h15299)
              refine st_skip hs rfl rfl rfl rfl rfl fun a hs => ?_
              refine st_val hs (y_pickF rfl rfl) ⟨_, rfl, rfl⟩ rfl rfl fun a hs => ?_
              refine wpList_nil ?_
              refine then_normal ?_
              have hs := hs.fix 101 (.bool (rv15104 == 0)) rfl (vb h15299.symm)
              exact ⟨rfl, (hs.fix 103 (.bool ((rv15104 == 0) && rv15246)) rfl (and_f h15299)).weaken _ ⟨rfl, rfl, rfl, rfl, rfl, rfl, rfl, rfl, rfl, rfl, rfl, rfl, rfl, rfl, trivial⟩⟩
            ·rintro a w1 ⟨h15300, hs⟩
             subst h15300
             refine st_val hs (y_pickF rfl rfl) trivial rfl rfl fun a hs => ?_
             refine wpList_nil ?_
             refine then_normal ?_
             exact ⟨rfl, (hs.fix 104 (.bool (((rv15246 && rv15274) || (((!rv15246) && (!rv15274)) && (rv15104 != 0))) || ((rv15104 == 0) && rv15246))) rfl (or_f h15298)).weaken _ ⟨rfl, rfl, rfl, rfl, rfl, rfl, rfl, rfl, rfl, rfl, trivial⟩⟩
          ·rintro a w1 ⟨h17172, hs⟩
           subst h17172
           refine wpList_nil ?_
           refine then_normal ?_
           refine wp_cond_split (hs.ev rfl) (fun h15302 => ?_) (fun h15302 => ?_)
           ·have hsh := ite_t hsh h15302
            refine wp_seq ?_
            refine wp_region_lit ?_
            refine st_val hs (y_assign rfl) trivial rfl rfl fun a hs => ?_
            refine wpList_nil ?_
            refine then_normal ?_
            have hsh := Option.some.inj hsh
            subst hsh
            have h15303 := hd14534 _ rfl
            subst h15303
            have h15304 := hd9709 _ rfl
            subst h15304
            refine wp_ret ?_
            refine then_ret ?_
            refine blk_ret ?_
            refine then_ret ?_
            refine then_ret ?_
            refine blk_ret ?_
            refine blk_ret ?_
            refine then_ret ?_
            refine then_ret ?_
            refine blk_ret ?_
            refine then_ret ?_
            exact ret1 hs rfl (rv_tmp rfl) (hw.ret rfl)
           ·have hsh := ite_f hsh h15302
            refine wp_skip ?_
            refine then_normal ?_
            refine wp_seq ?_
            refine wp_region_lit ?_
            refine st_val hs (y_move rfl) trivial rfl rfl fun a hs => ?_
            refine st_val hs (y_len Try.runUnderlying51 rfl) trivial rfl rfl fun a hs => ?_
            refine st_val hs (y_move rfl) trivial rfl rfl fun a hs => ?_
            refine wpList_nil ?_
            refine then_normal ?_
            refine wp_block ?_
            refine wp_while (fun sv15670 a w => ∃ (Sv15912 : Nat → Prop), Sl 166 [(4, .slice (some ⟨b15082, 0, none⟩) rv40.1.length k42), (5, .int .i64 sv4882), (6, .int .i64 sv12929), (7, .int .i64 rv15104), (8, .bool rv15246), (20, .int .i64 (rv40.1.length : Int)), (21, .int .i64 sv4882), (25, .int .i64 (rv40.1.length : Int)), (26, .int .i64 sv12929), (106, .int .i64 (rv40.1.length : Int)), (107, .int .i64 sv15670)] a ∧ Wd ⟨w0, S0, []⟩ Sv15912 [.row (some ⟨b15082, 0, none⟩) rv40.1.length k42 c44 32 12] [RowA c44 rv40.1] w) 0 hsh ⟨Sv15275, (hs.wk rfl), (hw.ft [0] [0] (by decide) rfl rfl)⟩ ?_
            repeat clear hsh
            rintro sv15670 a w tv16034 ⟨Sv15912, hs, hw⟩ hsh hd16033
            delta law14_RecordOrder_l41 at hsh
            refine wp_seq ?_
            refine wp_region_lit ?_
            refine st_val hs (y_lss rfl rfl) trivial rfl rfl fun a hs => ?_
            refine wpList_nil ?_
            refine then_normal ?_
            refine wp_seq ?_
            refine wp_cond_split (hs.ev rfl) (fun h16038 => ?_) (fun h16038 => ?_)
            ·have hsh := ite_t hsh h16038
             refine wp_skip ?_
             refine then_normal ?_
             refine wp_seq ?_
             refine wp_block ?_
             refine wp_seq ?_
             refine wp_region_lit ?_
             refine st_val hs (y_move rfl) trivial rfl rfl fun a hs => ?_
             refine st_val hs (y_assign rfl) trivial rfl rfl fun a hs => ?_
             refine wpList_nil ?_
             refine then_normal ?_
             refine wp_seq ?_
             obtain ⟨c16186, hc16186, hsh⟩ := bind_t hsh
             obtain ⟨c16215, hc16215, hsh⟩ := bind_t hsh
             obtain ⟨c16274, hc16274, hsh⟩ := bind_t hsh
             refine wp_only (fun a w => ∃ (Sv16275 : Nat → Prop), Sl 166 [(4, .slice (some ⟨b15082, 0, none⟩) rv40.1.length k42), (5, .int .i64 sv4882), (6, .int .i64 sv12929), (7, .int .i64 rv15104), (8, .bool rv15246), (20, .int .i64 (rv40.1.length : Int)), (21, .int .i64 sv4882), (25, .int .i64 (rv40.1.length : Int)), (26, .int .i64 sv12929), (106, .int .i64 (rv40.1.length : Int)), (107, .int .i64 sv15670), (161, .bool c16274)] a ∧ Wd ⟨w0, S0, []⟩ Sv16275 [.row (some ⟨b15082, 0, none⟩) rv40.1.length k42 c44 32 12] [RowA c44 rv40.1] w) ?_ ?_
             ·rcases Bool.eq_false_or_eq_true (decide (rv15104 < 0)) with h16276 | h16276
              ·have h16277 := ite_t hc16186 h16276
               obtain ⟨x16280, h16278, h16277⟩ := bind_t h16277
               obtain ⟨q16284, c16285, h16281, h16282, h16286, h16279⟩ := hw.elemRK (α := Record) 0 rfl 0 rfl h16278
               obtain ⟨_, _, _, _, _, _, _, _, _, _, _, _, rfl, rfl, rfl, rfl, rfl, rfl, rfl, rfl, rfl, rfl, rfl, rfl, ⟨p16287, n16288, k16289, rfl, h16290⟩⟩ := h16279
               obtain rfl := h16290.1
               have hw := hw.addE (e := SlA p16287 _ k16289 x16280.Samples) h16290
               obtain ⟨x16293, h16291, h16277⟩ := bind_t h16277
               obtain ⟨q16297, c16298, h16294, h16295, h16299, h16292⟩ := hw.elemRK (α := Record) 0 rfl 1 rfl h16291
               obtain ⟨_, _, _, _, _, _, _, _, _, _, _, _, rfl, rfl, rfl, rfl, rfl, rfl, rfl, rfl, rfl, rfl, rfl, rfl, ⟨p16300, n16301, k16302, rfl, h16303⟩⟩ := h16292
               obtain rfl := h16303.1
               have hw := hw.addE (e := SlA p16300 _ k16302 x16293.Samples) h16303
               obtain ⟨rv16305, h16304, h16277⟩ := bind_t h16277
               rcases Bool.eq_false_or_eq_true c16186 with h16306 | h16306
               ·have h16307 := ite_t hc16215 h16306
                obtain ⟨x16310, h16308, h16307⟩ := bind_t h16307
                obtain ⟨q16314, c16315, h16311, h16312, h16316, h16309⟩ := hw.elemRK (α := Record) 0 rfl 2 rfl h16308
                obtain ⟨_, _, _, _, _, _, _, _, _, _, _, _, rfl, rfl, rfl, rfl, rfl, rfl, rfl, rfl, rfl, rfl, rfl, rfl, ⟨p16317, n16318, k16319, rfl, h16320⟩⟩ := h16309
                obtain rfl := h16320.1
                have hw := hw.addE (e := SlA p16317 _ k16319 x16310.Samples) h16320
                obtain ⟨x16323, h16321, h16307⟩ := bind_t h16307
                obtain ⟨q16327, c16328, h16324, h16325, h16329, h16322⟩ := hw.elemRK (α := Record) 0 rfl 3 rfl h16321
                obtain ⟨_, _, _, _, _, _, _, _, _, _, _, _, rfl, rfl, rfl, rfl, rfl, rfl, rfl, rfl, rfl, rfl, rfl, rfl, ⟨p16330, n16331, k16332, rfl, h16333⟩⟩ := h16322
                obtain rfl := h16333.1
                have hw := hw.addE (e := SlA p16330 _ k16332 x16323.Samples) h16333
                obtain ⟨rv16335, h16334, h16307⟩ := bind_t h16307
                rcases Bool.eq_false_or_eq_true c16215 with h16336 | h16336
                ·have h16337 := ite_t hc16274 h16336
                 refine h_b (C := Cls [.row (some ⟨b15082, 0, none⟩) rv40.1.length k42 c44 32 12] []) (by kernel_rfl) rfl (hw.drew.cs [0] [] rfl rfl) fun hC => ?_
                 have hw := hw.drew
                 refine h_g hs 0 rfl (by kernel_rfl) rfl rfl hC rfl (fun w hC => y_move rfl) fun a hs => ?_
                 refine h_g hs 1 rfl (by kernel_rfl) rfl rfl hC rfl (fun w hC => y_lss rfl rfl) fun a hs => ?_
                 refine h_g hs 2 rfl (by kernel_rfl) rfl rfl hC rfl (fun w hC => y_move rfl) fun a hs => ?_
                 have hs := hs.fix 112 (.bool true) rfl (vb h16276)
                 refine h_t hs 3 rfl (by kernel_rfl) ⟨_, rfl, rfl⟩ rfl rfl hC (fun w hC => y_move rfl) fun a hs => ?_
                 refine h_t hs 4 rfl (by kernel_rfl) ⟨_, rfl, rfl⟩ rfl rfl hC (fun w hC => y_move rfl) fun a hs => ?_
                 refine h_t hs 5 rfl (by kernel_rfl) ⟨_, rfl, rfl⟩ rfl rfl hC (fun w hC => y_indexAt Try.runUnderlying51 Try.sizeOf32 rfl rfl h16281.1 h16281.2 h16282) fun a hs => ?_
                 refine h_t hs 6 rfl (by kernel_rfl) ⟨_, rfl, rfl⟩ rfl rfl hC (fun w hC => y_loadQA (j := 0) (hC.ownAt 0 rfl) rfl Try.isAgg32 Try.sizeOf32 h16286 rfl rfl) fun a hs => ?_
                 refine h_t hs 7 rfl (by kernel_rfl) ⟨_, rfl, rfl⟩ rfl rfl hC (fun w hC => y_move rfl) fun a hs => ?_
                 refine h_t hs 8 rfl (by kernel_rfl) ⟨_, rfl, rfl⟩ rfl rfl hC (fun w hC => y_move rfl) fun a hs => ?_
                 refine h_t hs 9 rfl (by kernel_rfl) ⟨_, rfl, rfl⟩ rfl rfl hC (fun w hC => y_indexAt Try.runUnderlying51 Try.sizeOf32 rfl rfl h16294.1 h16294.2 h16295) fun a hs => ?_
                 refine h_t hs 10 rfl (by kernel_rfl) ⟨_, rfl, rfl⟩ rfl rfl hC (fun w hC => y_loadQA (j := 0) (hC.ownAt 0 rfl) rfl Try.isAgg32 Try.sizeOf32 h16299 rfl rfl) fun a hs => ?_
                 refine h_one (i := 11) (by kernel_rfl) rfl ?_
                 refine st_callR hs (record_Compare_ok h16304 hw.bdom (hw.bE 3 rfl) (hw.bE 2 rfl)) (do_call Try.call23 rfl) ⟨_, rfl, rfl⟩ rfl rfl ?_
                 intro v16341 Sv16338 w a h16339 h16340 hs
                 subst h16340
                 have hw := hw.callB h16339
                 refine h_nx (hw.cs [0] [] rfl rfl) fun hC => ?_
                 refine h_t hs 12 rfl (by kernel_rfl) ⟨_, rfl, rfl⟩ rfl rfl hC (fun w hC => y_lss rfl rfl) fun a hs => ?_
                 refine h_g hs 13 rfl (by kernel_rfl) rfl rfl hC rfl (fun w hC => y_pickTE (v := .bool c16186) rfl rfl (vbs h16277)) fun a hs => ?_
                 refine h_g hs 14 rfl (by kernel_rfl) rfl rfl hC rfl (fun w hC => y_move rfl) fun a hs => ?_
                 have hs := hs.fix 124 (.bool true) rfl (vb h16306)
                 refine h_t hs 15 rfl (by kernel_rfl) ⟨_, rfl, rfl⟩ rfl rfl hC (fun w hC => y_move rfl) fun a hs => ?_
                 refine h_t hs 16 rfl (by kernel_rfl) ⟨_, rfl, rfl⟩ rfl rfl hC (fun w hC => y_move rfl) fun a hs => ?_
                 refine h_t hs 17 rfl (by kernel_rfl) ⟨_, rfl, rfl⟩ rfl rfl hC (fun w hC => y_indexAt Try.runUnderlying51 Try.sizeOf32 rfl rfl h16311.1 h16311.2 h16312) fun a hs => ?_
                 refine h_t hs 18 rfl (by kernel_rfl) ⟨_, rfl, rfl⟩ rfl rfl hC (fun w hC => y_loadQA (j := 0) (hC.ownAt 0 rfl) rfl Try.isAgg32 Try.sizeOf32 h16316 rfl rfl) fun a hs => ?_
                 refine h_t hs 19 rfl (by kernel_rfl) ⟨_, rfl, rfl⟩ rfl rfl hC (fun w hC => y_move rfl) fun a hs => ?_
                 refine h_t hs 20 rfl (by kernel_rfl) ⟨_, rfl, rfl⟩ rfl rfl hC (fun w hC => y_move rfl) fun a hs => ?_
                 refine h_t hs 21 rfl (by kernel_rfl) ⟨_, rfl, rfl⟩ rfl rfl hC (fun w hC => y_indexAt Try.runUnderlying51 Try.sizeOf32 rfl rfl h16324.1 h16324.2 h16325) fun a hs => ?_
                 refine h_t hs 22 rfl (by kernel_rfl) ⟨_, rfl, rfl⟩ rfl rfl hC (fun w hC => y_loadQA (j := 0) (hC.ownAt 0 rfl) rfl Try.isAgg32 Try.sizeOf32 h16329 rfl rfl) fun a hs => ?_
                 refine h_one (i := 23) (by kernel_rfl) rfl ?_
                 refine st_callR hs (record_Compare_ok h16334 hw.bdom (hw.bE 1 rfl) (hw.bE 0 rfl)) (do_call Try.call23 rfl) ⟨_, rfl, rfl⟩ rfl rfl ?_
                 intro v16346 Sv16343 w a h16344 h16345 hs
                 subst h16345
                 have hw := hw.callB h16344
                 refine h_nx (hw.cs [0] [] rfl rfl) fun hC => ?_
                 refine h_t hs 24 rfl (by kernel_rfl) ⟨_, rfl, rfl⟩ rfl rfl hC (fun w hC => y_geq rfl rfl) fun a hs => ?_
                 refine h_g hs 25 rfl (by kernel_rfl) rfl rfl hC rfl (fun w hC => y_pickTE (v := .bool c16215) rfl rfl (vbs h16307)) fun a hs => ?_
                 refine h_g hs 26 rfl (by kernel_rfl) rfl rfl hC rfl (fun w hC => y_move rfl) fun a hs => ?_
                 have hs := hs.fix 136 (.bool true) rfl (vb h16336)
                 refine h_s hs 27 rfl (by kernel_rfl) rfl rfl rfl (.inl rfl) rfl rfl hC fun a hs => ?_
                 refine h_s hs 28 rfl (by kernel_rfl) rfl rfl rfl (.inl rfl) rfl rfl hC fun a hs => ?_
                 refine h_s hs 29 rfl (by kernel_rfl) rfl rfl rfl (.inr rfl) rfl rfl hC fun a hs => ?_
                 refine h_s hs 30 rfl (by kernel_rfl) rfl rfl rfl (.inr rfl) rfl rfl hC fun a hs => ?_
                 refine h_s hs 31 rfl (by kernel_rfl) rfl rfl rfl (.inr rfl) rfl rfl hC fun a hs => ?_
                 refine h_s hs 32 rfl (by kernel_rfl) rfl rfl rfl (.inr rfl) rfl rfl hC fun a hs => ?_
                 refine h_s hs 33 rfl (by kernel_rfl) rfl rfl rfl (.inr rfl) rfl rfl hC fun a hs => ?_
                 refine h_s hs 34 rfl (by kernel_rfl) rfl rfl rfl (.inr rfl) rfl rfl hC fun a hs => ?_
                 refine h_s hs 35 rfl (by kernel_rfl) rfl rfl rfl (.inr rfl) rfl rfl hC fun a hs => ?_
                 refine h_s hs 36 rfl (by kernel_rfl) rfl rfl rfl (.inr rfl) rfl rfl hC fun a hs => ?_
                 refine h_s hs 37 rfl (by kernel_rfl) rfl rfl rfl (.inr rfl) rfl rfl hC fun a hs => ?_
                 refine h_s hs 38 rfl (by kernel_rfl) rfl rfl rfl (.inl rfl) rfl rfl hC fun a hs => ?_
                 refine h_s hs 39 rfl (by kernel_rfl) rfl rfl rfl (.inl rfl) rfl rfl hC fun a hs => ?_
                 refine h_s hs 40 rfl (by kernel_rfl) rfl rfl rfl (.inr rfl) rfl rfl hC fun a hs => ?_
                 refine h_s hs 41 rfl (by kernel_rfl) rfl rfl rfl (.inr rfl) rfl rfl hC fun a hs => ?_
                 refine h_s hs 42 rfl (by kernel_rfl) rfl rfl rfl (.inr rfl) rfl rfl hC fun a hs => ?_
                 refine h_s hs 43 rfl (by kernel_rfl) rfl rfl rfl (.inr rfl) rfl rfl hC fun a hs => ?_
                 refine h_s hs 44 rfl (by kernel_rfl) rfl rfl rfl (.inr rfl) rfl rfl hC fun a hs => ?_
                 refine h_s hs 45 rfl (by kernel_rfl) rfl rfl rfl (.inr rfl) rfl rfl hC fun a hs => ?_
                 refine h_s hs 46 rfl (by kernel_rfl) rfl rfl rfl (.inr rfl) rfl rfl hC fun a hs => ?_
                 refine h_s hs 47 rfl (by kernel_rfl) rfl rfl rfl (.inr rfl) rfl rfl hC fun a hs => ?_
                 refine h_s hs 48 rfl (by kernel_rfl) rfl rfl rfl (.inr rfl) rfl rfl hC fun a hs => ?_
                 refine h_s hs 49 rfl (by kernel_rfl) rfl rfl rfl (.inr rfl) rfl rfl hC fun a hs => ?_
                 refine h_s hs 50 rfl (by kernel_rfl) rfl rfl rfl (.inl rfl) rfl rfl hC fun a hs => ?_
                 refine h_g hs 51 rfl (by kernel_rfl) rfl rfl hC rfl (fun w hC => y_pickTE (v := .bool c16274) rfl rfl (vbs h16337)) fun a hs => ?_
                 refine h_done (by kernel_rfl) ?_
                 exact ⟨Sv15912, (hs.wk rfl), (hw.ft [0] [4] (by decide) rfl rfl)⟩
                ·have h16348 := ite_f hc16274 h16336
                 obtain ⟨c16377, hc16377, h16348⟩ := bind_t h16348
                 obtain ⟨c16406, hc16406, h16348⟩ := bind_t h16348
                 rcases Bool.eq_false_or_eq_true rv15246 with h16407 | h16407
                 ·have h16408 := ite_t hc16377 h16407
                  obtain ⟨x16411, h16409, h16408⟩ := bind_t h16408
                  obtain ⟨q16415, c16416, h16412, h16413, h16417, h16410⟩ := hw.elemRK (α := Record) 0 rfl 4 rfl h16409
                  obtain ⟨_, _, _, _, _, _, _, _, _, _, _, _, rfl, rfl, rfl, rfl, rfl, rfl, rfl, rfl, rfl, rfl, rfl, rfl, ⟨p16418, n16419, k16420, rfl, h16421⟩⟩ := h16410
                  obtain rfl := h16421.1
                  have hw := hw.addE (e := SlA p16418 _ k16420 x16411.Samples) h16421
                  obtain ⟨x16424, h16422, h16408⟩ := bind_t h16408
                  obtain ⟨q16428, c16429, h16425, h16426, h16430, h16423⟩ := hw.elemRK (α := Record) 0 rfl 5 rfl h16422
                  obtain ⟨_, _, _, _, _, _, _, _, _, _, _, _, rfl, rfl, rfl, rfl, rfl, rfl, rfl, rfl, rfl, rfl, rfl, rfl, ⟨p16431, n16432, k16433, rfl, h16434⟩⟩ := h16423
                  obtain rfl := h16434.1
                  have hw := hw.addE (e := SlA p16431 _ k16433 x16424.Samples) h16434
                  obtain ⟨rv16436, h16435, h16408⟩ := bind_t h16408
                  rcases Bool.eq_false_or_eq_true c16377 with h16437 | h16437
                  ·have h16438 := ite_t hc16406 h16437
                   obtain ⟨x16441, h16439, h16438⟩ := bind_t h16438
                   obtain ⟨q16445, c16446, h16442, h16443, h16447, h16440⟩ := hw.elemRK (α := Record) 0 rfl 6 rfl h16439
                   obtain ⟨_, _, _, _, _, _, _, _, _, _, _, _, rfl, rfl, rfl, rfl, rfl, rfl, rfl, rfl, rfl, rfl, rfl, rfl, ⟨p16448, n16449, k16450, rfl, h16451⟩⟩ := h16440
                   obtain rfl := h16451.1
                   have hw := hw.addE (e := SlA p16448 _ k16450 x16441.Samples) h16451
                   obtain ⟨x16454, h16452, h16438⟩ := bind_t h16438
                   obtain ⟨q16458, c16459, h16455, h16456, h16460, h16453⟩ := hw.elemRK (α := Record) 0 rfl 7 rfl h16452
                   obtain ⟨_, _, _, _, _, _, _, _, _, _, _, _, rfl, rfl, rfl, rfl, rfl, rfl, rfl, rfl, rfl, rfl, rfl, rfl, ⟨p16461, n16462, k16463, rfl, h16464⟩⟩ := h16453
                   obtain rfl := h16464.1
                   have hw := hw.addE (e := SlA p16461 _ k16463 x16454.Samples) h16464
                   obtain ⟨rv16466, h16465, h16438⟩ := bind_t h16438
                   refine h_b (C := Cls [.row (some ⟨b15082, 0, none⟩) rv40.1.length k42 c44 32 12] []) (by kernel_rfl) rfl (hw.drew.cs [0] [] rfl rfl) fun hC => ?_
                   have hw := hw.drew
                   refine h_g hs 0 rfl (by kernel_rfl) rfl rfl hC rfl (fun w hC => y_move rfl) fun a hs => ?_
                   refine h_g hs 1 rfl (by kernel_rfl) rfl rfl hC rfl (fun w hC => y_lss rfl rfl) fun a hs => ?_
                   refine h_g hs 2 rfl (by kernel_rfl) rfl rfl hC rfl (fun w hC => y_move rfl) fun a hs => ?_
                   have hs := hs.fix 112 (.bool true) rfl (vb h16276)
                   refine h_t hs 3 rfl (by kernel_rfl) ⟨_, rfl, rfl⟩ rfl rfl hC (fun w hC => y_move rfl) fun a hs => ?_
                   refine h_t hs 4 rfl (by kernel_rfl) ⟨_, rfl, rfl⟩ rfl rfl hC (fun w hC => y_move rfl) fun a hs => ?_
                   refine h_t hs 5 rfl (by kernel_rfl) ⟨_, rfl, rfl⟩ rfl rfl hC (fun w hC => y_indexAt Try.runUnderlying51 Try.sizeOf32 rfl rfl h16281.1 h16281.2 h16282) fun a hs => ?_
                   refine h_t hs 6 rfl (by kernel_rfl) ⟨_, rfl, rfl⟩ rfl rfl hC (fun w hC => y_loadQA (j := 0) (hC.ownAt 0 rfl) rfl Try.isAgg32 Try.sizeOf32 h16286 rfl rfl) fun a hs => ?_
                   refine h_t hs 7 rfl (by kernel_rfl) ⟨_, rfl, rfl⟩ rfl rfl hC (fun w hC => y_move rfl) fun a hs => ?_
                   refine h_t hs 8 rfl (by kernel_rfl) ⟨_, rfl, rfl⟩ rfl rfl hC (fun w hC => y_move rfl) fun a hs => ?_
                   refine h_t hs 9 rfl (by kernel_rfl) ⟨_, rfl, rfl⟩ rfl rfl hC (fun w hC => y_indexAt Try.runUnderlying51 Try.sizeOf32 rfl rfl h16294.1 h16294.2 h16295) fun a hs => ?_
                   refine h_t hs 10 rfl (by kernel_rfl) ⟨_, rfl, rfl⟩ rfl rfl hC (fun w hC => y_loadQA (j := 0) (hC.ownAt 0 rfl) rfl Try.isAgg32 Try.sizeOf32 h16299 rfl rfl) fun a hs => ?_
                   refine h_one (i := 11) (by kernel_rfl) rfl ?_
                   refine st_callR hs (record_Compare_ok h16304 hw.bdom (hw.bE 7 rfl) (hw.bE 6 rfl)) (do_call Try.call23 rfl) ⟨_, rfl, rfl⟩ rfl rfl ?_
                   intro v16470 Sv16467 w a h16468 h16469 hs
                   subst h16469
                   have hw := hw.callB h16468
                   refine h_nx (hw.cs [0] [] rfl rfl) fun hC => ?_
                   refine h_t hs 12 rfl (by kernel_rfl) ⟨_, rfl, rfl⟩ rfl rfl hC (fun w hC => y_lss rfl rfl) fun a hs => ?_
                   refine h_g hs 13 rfl (by kernel_rfl) rfl rfl hC rfl (fun w hC => y_pickTE (v := .bool c16186) rfl rfl (vbs h16277)) fun a hs => ?_
                   refine h_g hs 14 rfl (by kernel_rfl) rfl rfl hC rfl (fun w hC => y_move rfl) fun a hs => ?_
                   have hs := hs.fix 124 (.bool true) rfl (vb h16306)
                   refine h_t hs 15 rfl (by kernel_rfl) ⟨_, rfl, rfl⟩ rfl rfl hC (fun w hC => y_move rfl) fun a hs => ?_
                   refine h_t hs 16 rfl (by kernel_rfl) ⟨_, rfl, rfl⟩ rfl rfl hC (fun w hC => y_move rfl) fun a hs => ?_
                   refine h_t hs 17 rfl (by kernel_rfl) ⟨_, rfl, rfl⟩ rfl rfl hC (fun w hC => y_indexAt Try.runUnderlying51 Try.sizeOf32 rfl rfl h16311.1 h16311.2 h16312) fun a hs => ?_
                   refine h_t hs 18 rfl (by kernel_rfl) ⟨_, rfl, rfl⟩ rfl rfl hC (fun w hC => y_loadQA (j := 0) (hC.ownAt 0 rfl) rfl Try.isAgg32 Try.sizeOf32 h16316 rfl rfl) fun a hs => ?_
                   refine h_t hs 19 rfl (by kernel_rfl) ⟨_, rfl, rfl⟩ rfl rfl hC (fun w hC => y_move rfl) fun a hs => ?_
                   refine h_t hs 20 rfl (by kernel_rfl) ⟨_, rfl, rfl⟩ rfl rfl hC (fun w hC => y_move rfl) fun a hs => ?_
                   refine h_t hs 21 rfl (by kernel_rfl) ⟨_, rfl, rfl⟩ rfl rfl hC (fun w hC => y_indexAt Try.runUnderlying51 Try.sizeOf32 rfl rfl h16324.1 h16324.2 h16325) fun a hs => ?_
                   refine h_t hs 22 rfl (by kernel_rfl) ⟨_, rfl, rfl⟩ rfl rfl hC (fun w hC => y_loadQA (j := 0) (hC.ownAt 0 rfl) rfl Try.isAgg32 Try.sizeOf32 h16329 rfl rfl) fun a hs => ?_
                   refine h_one (i := 23) (by kernel_rfl) rfl ?_
                   refine st_callR hs (record_Compare_ok h16334 hw.bdom (hw.bE 5 rfl) (hw.bE 4 rfl)) (do_call Try.call23 rfl) ⟨_, rfl, rfl⟩ rfl rfl ?_
                   intro v16475 Sv16472 w a h16473 h16474 hs
                   subst h16474
                   have hw := hw.callB h16473
                   refine h_nx (hw.cs [0] [] rfl rfl) fun hC => ?_
                   refine h_t hs 24 rfl (by kernel_rfl) ⟨_, rfl, rfl⟩ rfl rfl hC (fun w hC => y_geq rfl rfl) fun a hs => ?_
                   refine h_g hs 25 rfl (by kernel_rfl) rfl rfl hC rfl (fun w hC => y_pickTE (v := .bool c16215) rfl rfl (vbs h16307)) fun a hs => ?_
                   refine h_g hs 26 rfl (by kernel_rfl) rfl rfl hC rfl (fun w hC => y_move rfl) fun a hs => ?_
                   have hs := hs.fix 136 (.bool false) rfl (vb h16336)
                   refine h_t hs 27 rfl (by kernel_rfl) ⟨_, rfl, rfl⟩ rfl rfl hC (fun w hC => y_move rfl) fun a hs => ?_
                   refine h_t hs 28 rfl (by kernel_rfl) ⟨_, rfl, rfl⟩ rfl rfl hC (fun w hC => y_move rfl) fun a hs => ?_
                   have hs := hs.fix 138 (.bool true) rfl (vb h16407)
                   refine h_t hs 29 rfl (by kernel_rfl) ⟨_, rfl, rfl⟩ rfl rfl hC (fun w hC => y_move rfl) fun a hs => ?_
                   refine h_t hs 30 rfl (by kernel_rfl) ⟨_, rfl, rfl⟩ rfl rfl hC (fun w hC => y_move rfl) fun a hs => ?_
                   refine h_t hs 31 rfl (by kernel_rfl) ⟨_, rfl, rfl⟩ rfl rfl hC (fun w hC => y_indexAt Try.runUnderlying51 Try.sizeOf32 rfl rfl h16412.1 h16412.2 h16413) fun a hs => ?_
                   refine h_t hs 32 rfl (by kernel_rfl) ⟨_, rfl, rfl⟩ rfl rfl hC (fun w hC => y_loadQA (j := 0) (hC.ownAt 0 rfl) rfl Try.isAgg32 Try.sizeOf32 h16417 rfl rfl) fun a hs => ?_
                   refine h_t hs 33 rfl (by kernel_rfl) ⟨_, rfl, rfl⟩ rfl rfl hC (fun w hC => y_move rfl) fun a hs => ?_
                   refine h_t hs 34 rfl (by kernel_rfl) ⟨_, rfl, rfl⟩ rfl rfl hC (fun w hC => y_move rfl) fun a hs => ?_
                   refine h_t hs 35 rfl (by kernel_rfl) ⟨_, rfl, rfl⟩ rfl rfl hC (fun w hC => y_indexAt Try.runUnderlying51 Try.sizeOf32 rfl rfl h16425.1 h16425.2 h16426) fun a hs => ?_
                   refine h_t hs 36 rfl (by kernel_rfl) ⟨_, rfl, rfl⟩ rfl rfl hC (fun w hC => y_loadQA (j := 0) (hC.ownAt 0 rfl) rfl Try.isAgg32 Try.sizeOf32 h16430 rfl rfl) fun a hs => ?_
                   refine h_one (i := 37) (by kernel_rfl) rfl ?_
                   refine st_callR hs (record_Better_ok h16435 hw.bdom (hw.bE 3 rfl) (hw.bE 2 rfl)) (do_call Try.call24 rfl) ⟨_, rfl, rfl⟩ rfl rfl ?_
                   intro v16480 Sv16477 w a h16478 h16479 hs
                   subst h16479
                   have hw := hw.callB h16478
                   refine h_nx (hw.cs [0] [] rfl rfl) fun hC => ?_
                   refine h_t hs 38 rfl (by kernel_rfl) ⟨_, rfl, rfl⟩ rfl rfl hC (fun w hC => y_pickTE (v := .bool c16377) rfl rfl (vbs h16408)) fun a hs => ?_
                   refine h_t hs 39 rfl (by kernel_rfl) ⟨_, rfl, rfl⟩ rfl rfl hC (fun w hC => y_move rfl) fun a hs => ?_
                   have hs := hs.fix 149 (.bool true) rfl (vb h16437)
                   refine h_t hs 40 rfl (by kernel_rfl) ⟨_, rfl, rfl⟩ rfl rfl hC (fun w hC => y_move rfl) fun a hs => ?_
                   refine h_t hs 41 rfl (by kernel_rfl) ⟨_, rfl, rfl⟩ rfl rfl hC (fun w hC => y_move rfl) fun a hs => ?_
                   refine h_t hs 42 rfl (by kernel_rfl) ⟨_, rfl, rfl⟩ rfl rfl hC (fun w hC => y_indexAt Try.runUnderlying51 Try.sizeOf32 rfl rfl h16442.1 h16442.2 h16443) fun a hs => ?_
                   refine h_t hs 43 rfl (by kernel_rfl) ⟨_, rfl, rfl⟩ rfl rfl hC (fun w hC => y_loadQA (j := 0) (hC.ownAt 0 rfl) rfl Try.isAgg32 Try.sizeOf32 h16447 rfl rfl) fun a hs => ?_
                   refine h_t hs 44 rfl (by kernel_rfl) ⟨_, rfl, rfl⟩ rfl rfl hC (fun w hC => y_move rfl) fun a hs => ?_
                   refine h_t hs 45 rfl (by kernel_rfl) ⟨_, rfl, rfl⟩ rfl rfl hC (fun w hC => y_move rfl) fun a hs => ?_
                   refine h_t hs 46 rfl (by kernel_rfl) ⟨_, rfl, rfl⟩ rfl rfl hC (fun w hC => y_indexAt Try.runUnderlying51 Try.sizeOf32 rfl rfl h16455.1 h16455.2 h16456) fun a hs => ?_
                   refine h_t hs 47 rfl (by kernel_rfl) ⟨_, rfl, rfl⟩ rfl rfl hC (fun w hC => y_loadQA (j := 0) (hC.ownAt 0 rfl) rfl Try.isAgg32 Try.sizeOf32 h16460 rfl rfl) fun a hs => ?_
                   refine h_one (i := 48) (by kernel_rfl) rfl ?_
                   refine st_callR hs (record_Better_ok h16465 hw.bdom (hw.bE 1 rfl) (hw.bE 0 rfl)) (do_call Try.call24 rfl) ⟨_, rfl, rfl⟩ rfl rfl ?_
                   intro v16485 Sv16482 w a h16483 h16484 hs
                   subst h16484
                   have hw := hw.callB h16483
                   refine h_nx (hw.cs [0] [] rfl rfl) fun hC => ?_
                   refine h_t hs 49 rfl (by kernel_rfl) ⟨_, rfl, rfl⟩ rfl rfl hC (fun w hC => y_not rfl) fun a hs => ?_
                   refine h_t hs 50 rfl (by kernel_rfl) ⟨_, rfl, rfl⟩ rfl rfl hC (fun w hC => y_pickTE (v := .bool c16406) rfl rfl (vbs h16438)) fun a hs => ?_
                   refine h_g hs 51 rfl (by kernel_rfl) rfl rfl hC rfl (fun w hC => y_pickFE (v := .bool c16274) rfl rfl (vbs h16348)) fun a hs => ?_
                   refine h_done (by kernel_rfl) ?_
                   exact ⟨Sv15912, (hs.wk rfl), (hw.ft [0] [8] (by decide) rfl rfl)⟩
                  ·have h16487 := ite_f hc16406 h16437
                   refine h_b (C := Cls [.row (some ⟨b15082, 0, none⟩) rv40.1.length k42 c44 32 12] []) (by kernel_rfl) rfl (hw.drew.cs [0] [] rfl rfl) fun hC => ?_
                   have hw := hw.drew
                   refine h_g hs 0 rfl (by kernel_rfl) rfl rfl hC rfl (fun w hC => y_move rfl) fun a hs => ?_
                   refine h_g hs 1 rfl (by kernel_rfl) rfl rfl hC rfl (fun w hC => y_lss rfl rfl) fun a hs => ?_
                   refine h_g hs 2 rfl (by kernel_rfl) rfl rfl hC rfl (fun w hC => y_move rfl) fun a hs => ?_
                   have hs := hs.fix 112 (.bool true) rfl (vb h16276)
                   refine h_t hs 3 rfl (by kernel_rfl) ⟨_, rfl, rfl⟩ rfl rfl hC (fun w hC => y_move rfl) fun a hs => ?_
                   refine h_t hs 4 rfl (by kernel_rfl) ⟨_, rfl, rfl⟩ rfl rfl hC (fun w hC => y_move rfl) fun a hs => ?_
                   refine h_t hs 5 rfl (by kernel_rfl) ⟨_, rfl, rfl⟩ rfl rfl hC (fun w hC => y_indexAt Try.runUnderlying51 Try.sizeOf32 rfl rfl h16281.1 h16281.2 h16282) fun a hs => ?_
                   refine h_t hs 6 rfl (by kernel_rfl) ⟨_, rfl, rfl⟩ rfl rfl hC (fun w hC => y_loadQA (j := 0) (hC.ownAt 0 rfl) rfl Try.isAgg32 Try.sizeOf32 h16286 rfl rfl) fun a hs => ?_
                   refine h_t hs 7 rfl (by kernel_rfl) ⟨_, rfl, rfl⟩ rfl rfl hC (fun w hC => y_move rfl) fun a hs => ?_
                   refine h_t hs 8 rfl (by kernel_rfl) ⟨_, rfl, rfl⟩ rfl rfl hC (fun w hC => y_move rfl) fun a hs => ?_
                   refine h_t hs 9 rfl (by kernel_rfl) ⟨_, rfl, rfl⟩ rfl rfl hC (fun w hC => y_indexAt Try.runUnderlying51 Try.sizeOf32 rfl rfl h16294.1 h16294.2 h16295) fun a hs => ?_
                   refine h_t hs 10 rfl (by kernel_rfl) ⟨_, rfl, rfl⟩ rfl rfl hC (fun w hC => y_loadQA (j := 0) (hC.ownAt 0 rfl) rfl Try.isAgg32 Try.sizeOf32 h16299 rfl rfl) fun a hs => ?_
                   refine h_one (i := 11) (by kernel_rfl) rfl ?_
                   refine st_callR hs (record_Compare_ok h16304 hw.bdom (hw.bE 5 rfl) (hw.bE 4 rfl)) (do_call Try.call23 rfl) ⟨_, rfl, rfl⟩ rfl rfl ?_
                   intro v16491 Sv16488 w a h16489 h16490 hs
                   subst h16490
                   have hw := hw.callB h16489
                   refine h_nx (hw.cs [0] [] rfl rfl) fun hC => ?_
                   refine h_t hs 12 rfl (by kernel_rfl) ⟨_, rfl, rfl⟩ rfl rfl hC (fun w hC => y_lss rfl rfl) fun a hs => ?_
                   refine h_g hs 13 rfl (by kernel_rfl) rfl rfl hC rfl (fun w hC => y_pickTE (v := .bool c16186) rfl rfl (vbs h16277)) fun a hs => ?_
                   refine h_g hs 14 rfl (by kernel_rfl) rfl rfl hC rfl (fun w hC => y_move rfl) fun a hs => ?_
                   have hs := hs.fix 124 (.bool true) rfl (vb h16306)
                   refine h_t hs 15 rfl (by kernel_rfl) ⟨_, rfl, rfl⟩ rfl rfl hC (fun w hC => y_move rfl) fun a hs => ?_
                   refine h_t hs 16 rfl (by kernel_rfl) ⟨_, rfl, rfl⟩ rfl rfl hC (fun w hC => y_move rfl) fun a hs => ?_
                   refine h_t hs 17 rfl (by kernel_rfl) ⟨_, rfl, rfl⟩ rfl rfl hC (fun w hC => y_indexAt Try.runUnderlying51 Try.sizeOf32 rfl rfl h16311.1 h16311.2 h16312) fun a hs => ?_
                   refine h_t hs 18 rfl (by kernel_rfl) ⟨_, rfl, rfl⟩ rfl rfl hC (fun w hC => y_loadQA (j := 0) (hC.ownAt 0 rfl) rfl Try.isAgg32 Try.sizeOf32 h16316 rfl rfl) fun a hs => ?_
                   refine h_t hs 19 rfl (by kernel_rfl) ⟨_, rfl, rfl⟩ rfl rfl hC (fun w hC => y_move rfl) fun a hs => ?_
                   refine h_t hs 20 rfl (by kernel_rfl) ⟨_, rfl, rfl⟩ rfl rfl hC (fun w hC => y_move rfl) fun a hs => ?_
                   refine h_t hs 21 rfl (by kernel_rfl) ⟨_, rfl, rfl⟩ rfl rfl hC (fun w hC => y_indexAt Try.runUnderlying51 Try.sizeOf32 rfl rfl h16324.1 h16324.2 h16325) fun a hs => ?_
                   refine h_t hs 22 rfl (by kernel_rfl) ⟨_, rfl, rfl⟩ rfl rfl hC (fun w hC => y_loadQA (j := 0) (hC.ownAt 0 rfl) rfl Try.isAgg32 Try.sizeOf32 h16329 rfl rfl) fun a hs => ?_
                   refine h_one (i := 23) (by kernel_rfl) rfl ?_
                   refine st_callR hs (record_Compare_ok h16334 hw.bdom (hw.bE 3 rfl) (hw.bE 2 rfl)) (do_call Try.call23 rfl) ⟨_, rfl, rfl⟩ rfl rfl ?_
                   intro v16496 Sv16493 w a h16494 h16495 hs
                   subst h16495
                   have hw := hw.callB h16494
                   refine h_nx (hw.cs [0] [] rfl rfl) fun hC => ?_
                   refine h_t hs 24 rfl (by kernel_rfl) ⟨_, rfl, rfl⟩ rfl rfl hC (fun w hC => y_geq rfl rfl) fun a hs => ?_
                   refine h_g hs 25 rfl (by kernel_rfl) rfl rfl hC rfl (fun w hC => y_pickTE (v := .bool c16215) rfl rfl (vbs h16307)) fun a hs => ?_
                   refine h_g hs 26 rfl (by kernel_rfl) rfl rfl hC rfl (fun w hC => y_move rfl) fun a hs => ?_
                   have hs := hs.fix 136 (.bool false) rfl (vb h16336)
                   refine h_t hs 27 rfl (by kernel_rfl) ⟨_, rfl, rfl⟩ rfl rfl hC (fun w hC => y_move rfl) fun a hs => ?_
                   refine h_t hs 28 rfl (by kernel_rfl) ⟨_, rfl, rfl⟩ rfl rfl hC (fun w hC => y_move rfl) fun a hs => ?_
                   have hs := hs.fix 138 (.bool true) rfl (vb h16407)
                   refine h_t hs 29 rfl (by kernel_rfl) ⟨_, rfl, rfl⟩ rfl rfl hC (fun w hC => y_move rfl) fun a hs => ?_
                   refine h_t hs 30 rfl (by kernel_rfl) ⟨_, rfl, rfl⟩ rfl rfl hC (fun w hC => y_move rfl) fun a hs => ?_
                   refine h_t hs 31 rfl (by kernel_rfl) ⟨_, rfl, rfl⟩ rfl rfl hC (fun w hC => y_indexAt Try.runUnderlying51 Try.sizeOf32 rfl rfl h16412.1 h16412.2 h16413) fun a hs => ?_
                   refine h_t hs 32 rfl (by kernel_rfl) ⟨_, rfl, rfl⟩ rfl rfl hC (fun w hC => y_loadQA (j := 0) (hC.ownAt 0 rfl) rfl Try.isAgg32 Try.sizeOf32 h16417 rfl rfl) fun a hs => ?_
                   refine h_t hs 33 rfl (by kernel_rfl) ⟨_, rfl, rfl⟩ rfl rfl hC (fun w hC => y_move rfl) fun a hs => ?_
                   refine h_t hs 34 rfl (by kernel_rfl) ⟨_, rfl, rfl⟩ rfl rfl hC (fun w hC => y_move rfl) fun a hs => ?_
                   refine h_t hs 35 rfl (by kernel_rfl) ⟨_, rfl, rfl⟩ rfl rfl hC (fun w hC => y_indexAt Try.runUnderlying51 Try.sizeOf32 rfl rfl h16425.1 h16425.2 h16426) fun a hs => ?_
                   refine h_t hs 36 rfl (by kernel_rfl) ⟨_, rfl, rfl⟩ rfl rfl hC (fun w hC => y_loadQA (j := 0) (hC.ownAt 0 rfl) rfl Try.isAgg32 Try.sizeOf32 h16430 rfl rfl) fun a hs => ?_
                   refine h_one (i := 37) (by kernel_rfl) rfl ?_
                   refine st_callR hs (record_Better_ok h16435 hw.bdom (hw.bE 1 rfl) (hw.bE 0 rfl)) (do_call Try.call24 rfl) ⟨_, rfl, rfl⟩ rfl rfl ?_
                   intro v16501 Sv16498 w a h16499 h16500 hs
                   subst h16500
                   have hw := hw.callB h16499
                   refine h_nx (hw.cs [0] [] rfl rfl) fun hC => ?_
                   refine h_t hs 38 rfl (by kernel_rfl) ⟨_, rfl, rfl⟩ rfl rfl hC (fun w hC => y_pickTE (v := .bool c16377) rfl rfl (vbs h16408)) fun a hs => ?_
                   refine h_t hs 39 rfl (by kernel_rfl) ⟨_, rfl, rfl⟩ rfl rfl hC (fun w hC => y_move rfl) fun a hs => ?_
                   have hs := hs.fix 149 (.bool false) rfl (vb h16437)
                   refine h_s hs 40 rfl (by kernel_rfl) rfl rfl rfl (.inl rfl) rfl rfl hC fun a hs => ?_
                   refine h_s hs 41 rfl (by kernel_rfl) rfl rfl rfl (.inl rfl) rfl rfl hC fun a hs => ?_
                   refine h_s hs 42 rfl (by kernel_rfl) rfl rfl rfl (.inl rfl) rfl rfl hC fun a hs => ?_
                   refine h_s hs 43 rfl (by kernel_rfl) rfl rfl rfl (.inl rfl) rfl rfl hC fun a hs => ?_
                   refine h_s hs 44 rfl (by kernel_rfl) rfl rfl rfl (.inl rfl) rfl rfl hC fun a hs => ?_
                   refine h_s hs 45 rfl (by kernel_rfl) rfl rfl rfl (.inl rfl) rfl rfl hC fun a hs => ?_
                   refine h_s hs 46 rfl (by kernel_rfl) rfl rfl rfl (.inl rfl) rfl rfl hC fun a hs => ?_
                   refine h_s hs 47 rfl (by kernel_rfl) rfl rfl rfl (.inl rfl) rfl rfl hC fun a hs => ?_
                   refine h_s hs 48 rfl (by kernel_rfl) rfl rfl rfl (.inl rfl) rfl rfl hC fun a hs => ?_
                   refine h_s hs 49 rfl (by kernel_rfl) rfl rfl rfl (.inl rfl) rfl rfl hC fun a hs => ?_
                   refine h_t hs 50 rfl (by kernel_rfl) ⟨_, rfl, rfl⟩ rfl rfl hC (fun w hC => y_pickFE (v := .bool c16406) rfl rfl (vbs h16487)) fun a hs => ?_
                   refine h_g hs 51 rfl (by kernel_rfl) rfl rfl hC rfl (fun w hC => y_pickFE (v := .bool c16274) rfl rfl (vbs h16348)) fun a hs => ?_
                   refine h_done (by kernel_rfl) ?_
                   exact ⟨Sv15912, (hs.wk rfl), (hw.ft [0] [6] (by decide) rfl rfl)⟩
                 ·have h16503 := ite_f hc16377 h16407
                  rcases Bool.eq_false_or_eq_true c16377 with h16504 | h16504
                  ·have h16505 := ite_t hc16406 h16504
                   obtain ⟨x16508, h16506, h16505⟩ := bind_t h16505
                   obtain ⟨q16512, c16513, h16509, h16510, h16514, h16507⟩ := hw.elemRK (α := Record) 0 rfl 4 rfl h16506
                   obtain ⟨_, _, _, _, _, _, _, _, _, _, _, _, rfl, rfl, rfl, rfl, rfl, rfl, rfl, rfl, rfl, rfl, rfl, rfl, ⟨p16515, n16516, k16517, rfl, h16518⟩⟩ := h16507
                   obtain rfl := h16518.1
                   have hw := hw.addE (e := SlA p16515 _ k16517 x16508.Samples) h16518
                   obtain ⟨x16521, h16519, h16505⟩ := bind_t h16505
                   obtain ⟨q16525, c16526, h16522, h16523, h16527, h16520⟩ := hw.elemRK (α := Record) 0 rfl 5 rfl h16519
                   obtain ⟨_, _, _, _, _, _, _, _, _, _, _, _, rfl, rfl, rfl, rfl, rfl, rfl, rfl, rfl, rfl, rfl, rfl, rfl, ⟨p16528, n16529, k16530, rfl, h16531⟩⟩ := h16520
                   obtain rfl := h16531.1
                   have hw := hw.addE (e := SlA p16528 _ k16530 x16521.Samples) h16531
                   obtain ⟨rv16533, h16532, h16505⟩ := bind_t h16505
                   refine h_b (C := Cls [.row (some ⟨b15082, 0, none⟩) rv40.1.length k42 c44 32 12] []) (by kernel_rfl) rfl (hw.drew.cs [0] [] rfl rfl) fun hC => ?_
                   have hw := hw.drew
                   refine h_g hs 0 rfl (by kernel_rfl) rfl rfl hC rfl (fun w hC => y_move rfl) fun a hs => ?_
                   refine h_g hs 1 rfl (by kernel_rfl) rfl rfl hC rfl (fun w hC => y_lss rfl rfl) fun a hs => ?_
                   refine h_g hs 2 rfl (by kernel_rfl) rfl rfl hC rfl (fun w hC => y_move rfl) fun a hs => ?_
                   have hs := hs.fix 112 (.bool true) rfl (vb h16276)
                   refine h_t hs 3 rfl (by kernel_rfl) ⟨_, rfl, rfl⟩ rfl rfl hC (fun w hC => y_move rfl) fun a hs => ?_
                   refine h_t hs 4 rfl (by kernel_rfl) ⟨_, rfl, rfl⟩ rfl rfl hC (fun w hC => y_move rfl) fun a hs => ?_
                   refine h_t hs 5 rfl (by kernel_rfl) ⟨_, rfl, rfl⟩ rfl rfl hC (fun w hC => y_indexAt Try.runUnderlying51 Try.sizeOf32 rfl rfl h16281.1 h16281.2 h16282) fun a hs => ?_
                   refine h_t hs 6 rfl (by kernel_rfl) ⟨_, rfl, rfl⟩ rfl rfl hC (fun w hC => y_loadQA (j := 0) (hC.ownAt 0 rfl) rfl Try.isAgg32 Try.sizeOf32 h16286 rfl rfl) fun a hs => ?_
                   refine h_t hs 7 rfl (by kernel_rfl) ⟨_, rfl, rfl⟩ rfl rfl hC (fun w hC => y_move rfl) fun a hs => ?_
                   refine h_t hs 8 rfl (by kernel_rfl) ⟨_, rfl, rfl⟩ rfl rfl hC (fun w hC => y_move rfl) fun a hs => ?_
                   refine h_t hs 9 rfl (by kernel_rfl) ⟨_, rfl, rfl⟩ rfl rfl hC (fun w hC => y_indexAt Try.runUnderlying51 Try.sizeOf32 rfl rfl h16294.1 h16294.2 h16295) fun a hs => ?_
                   refine h_t hs 10 rfl (by kernel_rfl) ⟨_, rfl, rfl⟩ rfl rfl hC (fun w hC => y_loadQA (j := 0) (hC.ownAt 0 rfl) rfl Try.isAgg32 Try.sizeOf32 h16299 rfl rfl) fun a hs => ?_
                   refine h_one (i := 11) (by kernel_rfl) rfl ?_
                   refine st_callR hs (record_Compare_ok h16304 hw.bdom (hw.bE 5 rfl) (hw.bE 4 rfl)) (do_call Try.call23 rfl) ⟨_, rfl, rfl⟩ rfl rfl ?_
                   intro v16537 Sv16534 w a h16535 h16536 hs
                   subst h16536
                   have hw := hw.callB h16535
                   refine h_nx (hw.cs [0] [] rfl rfl) fun hC => ?_
                   refine h_t hs 12 rfl (by kernel_rfl) ⟨_, rfl, rfl⟩ rfl rfl hC (fun w hC => y_lss rfl rfl) fun a hs => ?_
                   refine h_g hs 13 rfl (by kernel_rfl) rfl rfl hC rfl (fun w hC => y_pickTE (v := .bool c16186) rfl rfl (vbs h16277)) fun a hs => ?_
                   refine h_g hs 14 rfl (by kernel_rfl) rfl rfl hC rfl (fun w hC => y_move rfl) fun a hs => ?_
                   have hs := hs.fix 124 (.bool true) rfl (vb h16306)
                   refine h_t hs 15 rfl (by kernel_rfl) ⟨_, rfl, rfl⟩ rfl rfl hC (fun w hC => y_move rfl) fun a hs => ?_
                   refine h_t hs 16 rfl (by kernel_rfl) ⟨_, rfl, rfl⟩ rfl rfl hC (fun w hC => y_move rfl) fun a hs => ?_
                   refine h_t hs 17 rfl (by kernel_rfl) ⟨_, rfl, rfl⟩ rfl rfl hC (fun w hC => y_indexAt Try.runUnderlying51 Try.sizeOf32 rfl rfl h16311.1 h16311.2 h16312) fun a hs => ?_
                   refine h_t hs 18 rfl (by kernel_rfl) ⟨_, rfl, rfl⟩ rfl rfl hC (fun w hC => y_loadQA (j := 0) (hC.ownAt 0 rfl) rfl Try.isAgg32 Try.sizeOf32 h16316 rfl rfl) fun a hs => ?_
                   refine h_t hs 19 rfl (by kernel_rfl) ⟨_, rfl, rfl⟩ rfl rfl hC (fun w hC => y_move rfl) fun a hs => ?_
                   refine h_t hs 20 rfl (by kernel_rfl) ⟨_, rfl, rfl⟩ rfl rfl hC (fun w hC => y_move rfl) fun a hs => ?_
                   refine h_t hs 21 rfl (by kernel_rfl) ⟨_, rfl, rfl⟩ rfl rfl hC (fun w hC => y_indexAt Try.runUnderlying51 Try.sizeOf32 rfl rfl h16324.1 h16324.2 h16325) fun a hs => ?_
                   refine h_t hs 22 rfl (by kernel_rfl) ⟨_, rfl, rfl⟩ rfl rfl hC (fun w hC => y_loadQA (j := 0) (hC.ownAt 0 rfl) rfl Try.isAgg32 Try.sizeOf32 h16329 rfl rfl) fun a hs => ?_
                   refine h_one (i := 23) (by kernel_rfl) rfl ?_
                   refine st_callR hs (record_Compare_ok h16334 hw.bdom (hw.bE 3 rfl) (hw.bE 2 rfl)) (do_call Try.call23 rfl) ⟨_, rfl, rfl⟩ rfl rfl ?_
                   intro v16542 Sv16539 w a h16540 h16541 hs
                   subst h16541
                   have hw := hw.callB h16540
                   refine h_nx (hw.cs [0] [] rfl rfl) fun hC => ?_
                   refine h_t hs 24 rfl (by kernel_rfl) ⟨_, rfl, rfl⟩ rfl rfl hC (fun w hC => y_geq rfl rfl) fun a hs => ?_
                   refine h_g hs 25 rfl (by kernel_rfl) rfl rfl hC rfl (fun w hC => y_pickTE (v := .bool c16215) rfl rfl (vbs h16307)) fun a hs => ?_
                   refine h_g hs 26 rfl (by kernel_rfl) rfl rfl hC rfl (fun w hC => y_move rfl) fun a hs => ?_
                   have hs := hs.fix 136 (.bool false) rfl (vb h16336)
                   refine h_t hs 27 rfl (by kernel_rfl) ⟨_, rfl, rfl⟩ rfl rfl hC (fun w hC => y_move rfl) fun a hs => ?_
                   refine h_t hs 28 rfl (by kernel_rfl) ⟨_, rfl, rfl⟩ rfl rfl hC (fun w hC => y_move rfl) fun a hs => ?_
                   have hs := hs.fix 138 (.bool false) rfl (vb h16407)
                   refine h_s hs 29 rfl (by kernel_rfl) rfl rfl rfl (.inl rfl) rfl rfl hC fun a hs => ?_
                   refine h_s hs 30 rfl (by kernel_rfl) rfl rfl rfl (.inl rfl) rfl rfl hC fun a hs => ?_
                   refine h_s hs 31 rfl (by kernel_rfl) rfl rfl rfl (.inl rfl) rfl rfl hC fun a hs => ?_
                   refine h_s hs 32 rfl (by kernel_rfl) rfl rfl rfl (.inl rfl) rfl rfl hC fun a hs => ?_
                   refine h_s hs 33 rfl (by kernel_rfl) rfl rfl rfl (.inl rfl) rfl rfl hC fun a hs => ?_
                   refine h_s hs 34 rfl (by kernel_rfl) rfl rfl rfl (.inl rfl) rfl rfl hC fun a hs => ?_
                   refine h_s hs 35 rfl (by kernel_rfl) rfl rfl rfl (.inl rfl) rfl rfl hC fun a hs => ?_
                   refine h_s hs 36 rfl (by kernel_rfl) rfl rfl rfl (.inl rfl) rfl rfl hC fun a hs => ?_
                   refine h_s hs 37 rfl (by kernel_rfl) rfl rfl rfl (.inl rfl) rfl rfl hC fun a hs => ?_
                   refine h_t hs 38 rfl (by kernel_rfl) ⟨_, rfl, rfl⟩ rfl rfl hC (fun w hC => y_pickFE (v := .bool c16377) rfl rfl (vbs h16503)) fun a hs => ?_
                   refine h_t hs 39 rfl (by kernel_rfl) ⟨_, rfl, rfl⟩ rfl rfl hC (fun w hC => y_move rfl) fun a hs => ?_
                   have hs := hs.fix 149 (.bool true) rfl (vb h16504)
                   refine h_t hs 40 rfl (by kernel_rfl) ⟨_, rfl, rfl⟩ rfl rfl hC (fun w hC => y_move rfl) fun a hs => ?_
                   refine h_t hs 41 rfl (by kernel_rfl) ⟨_, rfl, rfl⟩ rfl rfl hC (fun w hC => y_move rfl) fun a hs => ?_
                   refine h_t hs 42 rfl (by kernel_rfl) ⟨_, rfl, rfl⟩ rfl rfl hC (fun w hC => y_indexAt Try.runUnderlying51 Try.sizeOf32 rfl rfl h16509.1 h16509.2 h16510) fun a hs => ?_
                   refine h_t hs 43 rfl (by kernel_rfl) ⟨_, rfl, rfl⟩ rfl rfl hC (fun w hC => y_loadQA (j := 0) (hC.ownAt 0 rfl) rfl Try.isAgg32 Try.sizeOf32 h16514 rfl rfl) fun a hs => ?_
                   refine h_t hs 44 rfl (by kernel_rfl) ⟨_, rfl, rfl⟩ rfl rfl hC (fun w hC => y_move rfl) fun a hs => ?_
                   refine h_t hs 45 rfl (by kernel_rfl) ⟨_, rfl, rfl⟩ rfl rfl hC (fun w hC => y_move rfl) fun a hs => ?_
                   refine h_t hs 46 rfl (by kernel_rfl) ⟨_, rfl, rfl⟩ rfl rfl hC (fun w hC => y_indexAt Try.runUnderlying51 Try.sizeOf32 rfl rfl h16522.1 h16522.2 h16523) fun a hs => ?_
                   refine h_t hs 47 rfl (by kernel_rfl) ⟨_, rfl, rfl⟩ rfl rfl hC (fun w hC => y_loadQA (j := 0) (hC.ownAt 0 rfl) rfl Try.isAgg32 Try.sizeOf32 h16527 rfl rfl) fun a hs => ?_
                   refine h_one (i := 48) (by kernel_rfl) rfl ?_
                   refine st_callR hs (record_Better_ok h16532 hw.bdom (hw.bE 1 rfl) (hw.bE 0 rfl)) (do_call Try.call24 rfl) ⟨_, rfl, rfl⟩ rfl rfl ?_
                   intro v16547 Sv16544 w a h16545 h16546 hs
                   subst h16546
                   have hw := hw.callB h16545
                   refine h_nx (hw.cs [0] [] rfl rfl) fun hC => ?_
                   refine h_t hs 49 rfl (by kernel_rfl) ⟨_, rfl, rfl⟩ rfl rfl hC (fun w hC => y_not rfl) fun a hs => ?_
                   refine h_t hs 50 rfl (by kernel_rfl) ⟨_, rfl, rfl⟩ rfl rfl hC (fun w hC => y_pickTE (v := .bool c16406) rfl rfl (vbs h16505)) fun a hs => ?_
                   refine h_g hs 51 rfl (by kernel_rfl) rfl rfl hC rfl (fun w hC => y_pickFE (v := .bool c16274) rfl rfl (vbs h16348)) fun a hs => ?_
                   refine h_done (by kernel_rfl) ?_
                   exact ⟨Sv15912, (hs.wk rfl), (hw.ft [0] [6] (by decide) rfl rfl)⟩
                  ·have h16549 := ite_f hc16406 h16504
                   refine h_b (C := Cls [.row (some ⟨b15082, 0, none⟩) rv40.1.length k42 c44 32 12] []) (by kernel_rfl) rfl (hw.drew.cs [0] [] rfl rfl) fun hC => ?_
                   have hw := hw.drew
                   refine h_g hs 0 rfl (by kernel_rfl) rfl rfl hC rfl (fun w hC => y_move rfl) fun a hs => ?_
                   refine h_g hs 1 rfl (by kernel_rfl) rfl rfl hC rfl (fun w hC => y_lss rfl rfl) fun a hs => ?_
                   refine h_g hs 2 rfl (by kernel_rfl) rfl rfl hC rfl (fun w hC => y_move rfl) fun a hs => ?_
                   have hs := hs.fix 112 (.bool true) rfl (vb h16276)
                   refine h_t hs 3 rfl (by kernel_rfl) ⟨_, rfl, rfl⟩ rfl rfl hC (fun w hC => y_move rfl) fun a hs => ?_
                   refine h_t hs 4 rfl (by kernel_rfl) ⟨_, rfl, rfl⟩ rfl rfl hC (fun w hC => y_move rfl) fun a hs => ?_
                   refine h_t hs 5 rfl (by kernel_rfl) ⟨_, rfl, rfl⟩ rfl rfl hC (fun w hC => y_indexAt Try.runUnderlying51 Try.sizeOf32 rfl rfl h16281.1 h16281.2 h16282) fun a hs => ?_
                   refine h_t hs 6 rfl (by kernel_rfl) ⟨_, rfl, rfl⟩ rfl rfl hC (fun w hC => y_loadQA (j := 0) (hC.ownAt 0 rfl) rfl Try.isAgg32 Try.sizeOf32 h16286 rfl rfl) fun a hs => ?_
                   refine h_t hs 7 rfl (by kernel_rfl) ⟨_, rfl, rfl⟩ rfl rfl hC (fun w hC => y_move rfl) fun a hs => ?_
                   refine h_t hs 8 rfl (by kernel_rfl) ⟨_, rfl, rfl⟩ rfl rfl hC (fun w hC => y_move rfl) fun a hs => ?_
                   refine h_t hs 9 rfl (by kernel_rfl) ⟨_, rfl, rfl⟩ rfl rfl hC (fun w hC => y_indexAt Try.runUnderlying51 Try.sizeOf32 rfl rfl h16294.1 h16294.2 h16295) fun a hs => ?_
                   refine h_t hs 10 rfl (by kernel_rfl) ⟨_, rfl, rfl⟩ rfl rfl hC (fun w hC => y_loadQA (j := 0) (hC.ownAt 0 rfl) rfl Try.isAgg32 Try.sizeOf32 h16299 rfl rfl) fun a hs => ?_
                   refine h_one (i := 11) (by kernel_rfl) rfl ?_
                   refine st_callR hs (record_Compare_ok h16304 hw.bdom (hw.bE 3 rfl) (hw.bE 2 rfl)) (do_call Try.call23 rfl) ⟨_, rfl, rfl⟩ rfl rfl ?_
                   intro v16553 Sv16550 w a h16551 h16552 hs
                   subst h16552
                   have hw := hw.callB h16551
                   refine h_nx (hw.cs [0] [] rfl rfl) fun hC => ?_
                   refine h_t hs 12 rfl (by kernel_rfl) ⟨_, rfl, rfl⟩ rfl rfl hC (fun w hC => y_lss rfl rfl) fun a hs => ?_
                   refine h_g hs 13 rfl (by kernel_rfl) rfl rfl hC rfl (fun w hC => y_pickTE (v := .bool c16186) rfl rfl (vbs h16277)) fun a hs => ?_
                   refine h_g hs 14 rfl (by kernel_rfl) rfl rfl hC rfl (fun w hC => y_move rfl) fun a hs => ?_
                   have hs := hs.fix 124 (.bool true) rfl (vb h16306)
                   refine h_t hs 15 rfl (by kernel_rfl) ⟨_, rfl, rfl⟩ rfl rfl hC (fun w hC => y_move rfl) fun a hs => ?_
                   refine h_t hs 16 rfl (by kernel_rfl) ⟨_, rfl, rfl⟩ rfl rfl hC (fun w hC => y_move rfl) fun a hs => ?_
                   refine h_t hs 17 rfl (by kernel_rfl) ⟨_, rfl, rfl⟩ rfl rfl hC (fun w hC => y_indexAt Try.runUnderlying51 Try.sizeOf32 rfl rfl h16311.1 h16311.2 h16312) fun a hs => ?_
                   refine h_t hs 18 rfl (by kernel_rfl) ⟨_, rfl, rfl⟩ rfl rfl hC (fun w hC => y_loadQA (j := 0) (hC.ownAt 0 rfl) rfl Try.isAgg32 Try.sizeOf32 h16316 rfl rfl) fun a hs => ?_
                   refine h_t hs 19 rfl (by kernel_rfl) ⟨_, rfl, rfl⟩ rfl rfl hC (fun w hC => y_move rfl) fun a hs => ?_
                   refine h_t hs 20 rfl (by kernel_rfl) ⟨_, rfl, rfl⟩ rfl rfl hC (fun w hC => y_move rfl) fun a hs => ?_
                   refine h_t hs 21 rfl (by kernel_rfl) ⟨_, rfl, rfl⟩ rfl rfl hC (fun w hC => y_indexAt Try.runUnderlying51 Try.sizeOf32 rfl rfl h16324.1 h16324.2 h16325) fun a hs => ?_
                   refine h_t hs 22 rfl (by kernel_rfl) ⟨_, rfl, rfl⟩ rfl rfl hC (fun w hC => y_loadQA (j := 0) (hC.ownAt 0 rfl) rfl Try.isAgg32 Try.sizeOf32 h16329 rfl rfl) fun a hs => ?_
                   refine h_one (i := 23) (by kernel_rfl) rfl ?_
                   refine st_callR hs (record_Compare_ok h16334 hw.bdom (hw.bE 1 rfl) (hw.bE 0 rfl)) (do_call Try.call23 rfl) ⟨_, rfl, rfl⟩ rfl rfl ?_
                   intro v16558 Sv16555 w a h16556 h16557 hs
                   subst h16557
                   have hw := hw.callB h16556
                   refine h_nx (hw.cs [0] [] rfl rfl) fun hC => ?_
                   refine h_t hs 24 rfl (by kernel_rfl) ⟨_, rfl, rfl⟩ rfl rfl hC (fun w hC => y_geq rfl rfl) fun a hs => ?_
                   refine h_g hs 25 rfl (by kernel_rfl) rfl rfl hC rfl (fun w hC => y_pickTE (v := .bool c16215) rfl rfl (vbs h16307)) fun a hs => ?_
                   refine h_g hs 26 rfl (by kernel_rfl) rfl rfl hC rfl (fun w hC => y_move rfl) fun a hs => ?_
                   have hs := hs.fix 136 (.bool false) rfl (vb h16336)
                   refine h_t hs 27 rfl (by kernel_rfl) ⟨_, rfl, rfl⟩ rfl rfl hC (fun w hC => y_move rfl) fun a hs => ?_
                   refine h_t hs 28 rfl (by kernel_rfl) ⟨_, rfl, rfl⟩ rfl rfl hC (fun w hC => y_move rfl) fun a hs => ?_
                   have hs := hs.fix 138 (.bool false) rfl (vb h16407)
                   refine h_s hs 29 rfl (by kernel_rfl) rfl rfl rfl (.inl rfl) rfl rfl hC fun a hs => ?_
                   refine h_s hs 30 rfl (by kernel_rfl) rfl rfl rfl (.inl rfl) rfl rfl hC fun a hs => ?_
                   refine h_s hs 31 rfl (by kernel_rfl) rfl rfl rfl (.inl rfl) rfl rfl hC fun a hs => ?_
                   refine h_s hs 32 rfl (by kernel_rfl) rfl rfl rfl (.inl rfl) rfl rfl hC fun a hs => ?_
                   refine h_s hs 33 rfl (by kernel_rfl) rfl rfl rfl (.inl rfl) rfl rfl hC fun a hs => ?_
                   refine h_s hs 34 rfl (by kernel_rfl) rfl rfl rfl (.inl rfl) rfl rfl hC fun a hs => ?_
                   refine h_s hs 35 rfl (by kernel_rfl) rfl rfl rfl (.inl rfl) rfl rfl hC fun a hs => ?_
                   refine h_s hs 36 rfl (by kernel_rfl) rfl rfl rfl (.inl rfl) rfl rfl hC fun a hs => ?_
                   refine h_s hs 37 rfl (by kernel_rfl) rfl rfl rfl (.inl rfl) rfl rfl hC fun a hs => ?_
                   refine h_t hs 38 rfl (by kernel_rfl) ⟨_, rfl, rfl⟩ rfl rfl hC (fun w hC => y_pickFE (v := .bool c16377) rfl rfl (vbs h16503)) fun a hs => ?_
                   refine h_t hs 39 rfl (by kernel_rfl) ⟨_, rfl, rfl⟩ rfl rfl hC (fun w hC => y_move rfl) fun a hs => ?_
                   have hs := hs.fix 149 (.bool false) rfl (vb h16504)
                   refine h_s hs 40 rfl (by kernel_rfl) rfl rfl rfl (.inl rfl) rfl rfl hC fun a hs => ?_
                   refine h_s hs 41 rfl (by kernel_rfl) rfl rfl rfl (.inl rfl) rfl rfl hC fun a hs => ?_
                   refine h_s hs 42 rfl (by kernel_rfl) rfl rfl rfl (.inl rfl) rfl rfl hC fun a hs => ?_
                   refine h_s hs 43 rfl (by kernel_rfl) rfl rfl rfl (.inl rfl) rfl rfl hC fun a hs => ?_
                   refine h_s hs 44 rfl (by kernel_rfl) rfl rfl rfl (.inl rfl) rfl rfl hC fun a hs => ?_
                   refine h_s hs 45 rfl (by kernel_rfl) rfl rfl rfl (.inl rfl) rfl rfl hC fun a hs => ?_
                   refine h_s hs 46 rfl (by kernel_rfl) rfl rfl rfl (.inl rfl) rfl rfl hC fun a hs => ?_
                   refine h_s hs 47 rfl (by kernel_rfl) rfl rfl rfl (.inl rfl) rfl rfl hC fun a hs => ?_
                   refine h_s hs 48 rfl (by kernel_rfl) rfl rfl rfl (.inl rfl) rfl rfl hC fun a hs => ?_
                   refine h_s hs 49 rfl (by kernel_rfl) rfl rfl rfl (.inl rfl) rfl rfl hC fun a hs => ?_
                   refine h_t hs 50 rfl (by kernel_rfl) ⟨_, rfl, rfl⟩ rfl rfl hC (fun w hC => y_pickFE (v := .bool c16406) rfl rfl (vbs h16549)) fun a hs => ?_
                   refine h_g hs 51 rfl (by kernel_rfl) rfl rfl hC rfl (fun w hC => y_pickFE (v := .bool c16274) rfl rfl (vbs h16348)) fun a hs => ?_
                   refine h_done (by kernel_rfl) ?_
                   exact ⟨Sv15912, (hs.wk rfl), (hw.ft [0] [4] (by decide) rfl rfl)⟩
               ·have h16560 := ite_f hc16215 h16306
                rcases Bool.eq_false_or_eq_true c16215 with h16561 | h16561
                ·have h16562 := ite_t hc16274 h16561
                 refine h_b (C := Cls [.row (some ⟨b15082, 0, none⟩) rv40.1.length k42 c44 32 12] []) (by kernel_rfl) rfl (hw.drew.cs [0] [] rfl rfl) fun hC => ?_
                 have hw := hw.drew
                 refine h_g hs 0 rfl (by kernel_rfl) rfl rfl hC rfl (fun w hC => y_move rfl) fun a hs => ?_
                 refine h_g hs 1 rfl (by kernel_rfl) rfl rfl hC rfl (fun w hC => y_lss rfl rfl) fun a hs => ?_
                 refine h_g hs 2 rfl (by kernel_rfl) rfl rfl hC rfl (fun w hC => y_move rfl) fun a hs => ?_
                 have hs := hs.fix 112 (.bool true) rfl (vb h16276)
                 refine h_t hs 3 rfl (by kernel_rfl) ⟨_, rfl, rfl⟩ rfl rfl hC (fun w hC => y_move rfl) fun a hs => ?_
                 refine h_t hs 4 rfl (by kernel_rfl) ⟨_, rfl, rfl⟩ rfl rfl hC (fun w hC => y_move rfl) fun a hs => ?_
                 refine h_t hs 5 rfl (by kernel_rfl) ⟨_, rfl, rfl⟩ rfl rfl hC (fun w hC => y_indexAt Try.runUnderlying51 Try.sizeOf32 rfl rfl h16281.1 h16281.2 h16282) fun a hs => ?_
                 refine h_t hs 6 rfl (by kernel_rfl) ⟨_, rfl, rfl⟩ rfl rfl hC (fun w hC => y_loadQA (j := 0) (hC.ownAt 0 rfl) rfl Try.isAgg32 Try.sizeOf32 h16286 rfl rfl) fun a hs => ?_
                 refine h_t hs 7 rfl (by kernel_rfl) ⟨_, rfl, rfl⟩ rfl rfl hC (fun w hC => y_move rfl) fun a hs => ?_
                 refine h_t hs 8 rfl (by kernel_rfl) ⟨_, rfl, rfl⟩ rfl rfl hC (fun w hC => y_move rfl) fun a hs => ?_
                 refine h_t hs 9 rfl (by kernel_rfl) ⟨_, rfl, rfl⟩ rfl rfl hC (fun w hC => y_indexAt Try.runUnderlying51 Try.sizeOf32 rfl rfl h16294.1 h16294.2 h16295) fun a hs => ?_
                 refine h_t hs 10 rfl (by kernel_rfl) ⟨_, rfl, rfl⟩ rfl rfl hC (fun w hC => y_loadQA (j := 0) (hC.ownAt 0 rfl) rfl Try.isAgg32 Try.sizeOf32 h16299 rfl rfl) fun a hs => ?_
                 refine h_one (i := 11) (by kernel_rfl) rfl ?_
                 refine st_callR hs (record_Compare_ok h16304 hw.bdom (hw.bE 1 rfl) (hw.bE 0 rfl)) (do_call Try.call23 rfl) ⟨_, rfl, rfl⟩ rfl rfl ?_
                 intro v16566 Sv16563 w a h16564 h16565 hs
                 subst h16565
                 have hw := hw.callB h16564
                 refine h_nx (hw.cs [0] [] rfl rfl) fun hC => ?_
                 refine h_t hs 12 rfl (by kernel_rfl) ⟨_, rfl, rfl⟩ rfl rfl hC (fun w hC => y_lss rfl rfl) fun a hs => ?_
                 refine h_g hs 13 rfl (by kernel_rfl) rfl rfl hC rfl (fun w hC => y_pickTE (v := .bool c16186) rfl rfl (vbs h16277)) fun a hs => ?_
                 refine h_g hs 14 rfl (by kernel_rfl) rfl rfl hC rfl (fun w hC => y_move rfl) fun a hs => ?_
                 have hs := hs.fix 124 (.bool false) rfl (vb h16306)
                 refine h_s hs 15 rfl (by kernel_rfl) rfl rfl rfl (.inl rfl) rfl rfl hC fun a hs => ?_
                 refine h_s hs 16 rfl (by kernel_rfl) rfl rfl rfl (.inl rfl) rfl rfl hC fun a hs => ?_
                 refine h_s hs 17 rfl (by kernel_rfl) rfl rfl rfl (.inl rfl) rfl rfl hC fun a hs => ?_
                 refine h_s hs 18 rfl (by kernel_rfl) rfl rfl rfl (.inl rfl) rfl rfl hC fun a hs => ?_
                 refine h_s hs 19 rfl (by kernel_rfl) rfl rfl rfl (.inl rfl) rfl rfl hC fun a hs => ?_
                 refine h_s hs 20 rfl (by kernel_rfl) rfl rfl rfl (.inl rfl) rfl rfl hC fun a hs => ?_
                 refine h_s hs 21 rfl (by kernel_rfl) rfl rfl rfl (.inl rfl) rfl rfl hC fun a hs => ?_
                 refine h_s hs 22 rfl (by kernel_rfl) rfl rfl rfl (.inl rfl) rfl rfl hC fun a hs => ?_
                 refine h_s hs 23 rfl (by kernel_rfl) rfl rfl rfl (.inl rfl) rfl rfl hC fun a hs => ?_
                 refine h_s hs 24 rfl (by kernel_rfl) rfl rfl rfl (.inl rfl) rfl rfl hC fun a hs => ?_
                 refine h_g hs 25 rfl (by kernel_rfl) rfl rfl hC rfl (fun w hC => y_pickFE (v := .bool c16215) rfl rfl (vbs h16560)) fun a hs => ?_
                 refine h_g hs 26 rfl (by kernel_rfl) rfl rfl hC rfl (fun w hC => y_move rfl) fun a hs => ?_
                 have hs := hs.fix 136 (.bool true) rfl (vb h16561)
                 refine h_s hs 27 rfl (by kernel_rfl) rfl rfl rfl (.inl rfl) rfl rfl hC fun a hs => ?_
                 refine h_s hs 28 rfl (by kernel_rfl) rfl rfl rfl (.inl rfl) rfl rfl hC fun a hs => ?_
                 refine h_s hs 29 rfl (by kernel_rfl) rfl rfl rfl (.inr rfl) rfl rfl hC fun a hs => ?_
                 refine h_s hs 30 rfl (by kernel_rfl) rfl rfl rfl (.inr rfl) rfl rfl hC fun a hs => ?_
                 refine h_s hs 31 rfl (by kernel_rfl) rfl rfl rfl (.inr rfl) rfl rfl hC fun a hs => ?_
                 refine h_s hs 32 rfl (by kernel_rfl) rfl rfl rfl (.inr rfl) rfl rfl hC fun a hs => ?_
                 refine h_s hs 33 rfl (by kernel_rfl) rfl rfl rfl (.inr rfl) rfl rfl hC fun a hs => ?_
                 refine h_s hs 34 rfl (by kernel_rfl) rfl rfl rfl (.inr rfl) rfl rfl hC fun a hs => ?_
                 refine h_s hs 35 rfl (by kernel_rfl) rfl rfl rfl (.inr rfl) rfl rfl hC fun a hs => ?_
                 refine h_s hs 36 rfl (by kernel_rfl) rfl rfl rfl (.inr rfl) rfl rfl hC fun a hs => ?_
                 refine h_s hs 37 rfl (by kernel_rfl) rfl rfl rfl (.inr rfl) rfl rfl hC fun a hs => ?_
                 refine h_s hs 38 rfl (by kernel_rfl) rfl rfl rfl (.inl rfl) rfl rfl hC fun a hs => ?_
                 refine h_s hs 39 rfl (by kernel_rfl) rfl rfl rfl (.inl rfl) rfl rfl hC fun a hs => ?_
                 refine h_s hs 40 rfl (by kernel_rfl) rfl rfl rfl (.inr rfl) rfl rfl hC fun a hs => ?_
                 refine h_s hs 41 rfl (by kernel_rfl) rfl rfl rfl (.inr rfl) rfl rfl hC fun a hs => ?_
                 refine h_s hs 42 rfl (by kernel_rfl) rfl rfl rfl (.inr rfl) rfl rfl hC fun a hs => ?_
                 refine h_s hs 43 rfl (by kernel_rfl) rfl rfl rfl (.inr rfl) rfl rfl hC fun a hs => ?_
                 refine h_s hs 44 rfl (by kernel_rfl) rfl rfl rfl (.inr rfl) rfl rfl hC fun a hs => ?_
                 refine h_s hs 45 rfl (by kernel_rfl) rfl rfl rfl (.inr rfl) rfl rfl hC fun a hs => ?_
                 refine h_s hs 46 rfl (by kernel_rfl) rfl rfl rfl (.inr rfl) rfl rfl hC fun a hs => ?_
                 refine h_s hs 47 rfl (by kernel_rfl) rfl rfl rfl (.inr rfl) rfl rfl hC fun a hs => ?_
                 refine h_s hs 48 rfl (by kernel_rfl) rfl rfl rfl (.inr rfl) rfl rfl hC fun a hs => ?_
                 refine h_s hs 49 rfl (by kernel_rfl) rfl rfl rfl (.inr rfl) rfl rfl hC fun a hs => ?_
                 refine h_s hs 50 rfl (by kernel_rfl) rfl rfl rfl (.inl rfl) rfl rfl hC fun a hs => ?_
                 refine h_g hs 51 rfl (by kernel_rfl) rfl rfl hC rfl (fun w hC => y_pickTE (v := .bool c16274) rfl rfl (vbs h16562)) fun a hs => ?_
                 refine h_done (by kernel_rfl) ?_
                 exact ⟨Sv15912, (hs.wk rfl), (hw.ft [0] [2] (by decide) rfl rfl)⟩
                ·have h16568 := ite_f hc16274 h16561
                 obtain ⟨c16597, hc16597, h16568⟩ := bind_t h16568
                 obtain ⟨c16626, hc16626, h16568⟩ := bind_t h16568
                 rcases Bool.eq_false_or_eq_true rv15246 with h16627 | h16627
                 ·have h16628 := ite_t hc16597 h16627
                  obtain ⟨x16631, h16629, h16628⟩ := bind_t h16628
                  obtain ⟨q16635, c16636, h16632, h16633, h16637, h16630⟩ := hw.elemRK (α := Record) 0 rfl 2 rfl h16629
                  obtain ⟨_, _, _, _, _, _, _, _, _, _, _, _, rfl, rfl, rfl, rfl, rfl, rfl, rfl, rfl, rfl, rfl, rfl, rfl, ⟨p16638, n16639, k16640, rfl, h16641⟩⟩ := h16630
                  obtain rfl := h16641.1
                  have hw := hw.addE (e := SlA p16638 _ k16640 x16631.Samples) h16641
                  obtain ⟨x16644, h16642, h16628⟩ := bind_t h16628
                  obtain ⟨q16648, c16649, h16645, h16646, h16650, h16643⟩ := hw.elemRK (α := Record) 0 rfl 3 rfl h16642
                  obtain ⟨_, _, _, _, _, _, _, _, _, _, _, _, rfl, rfl, rfl, rfl, rfl, rfl, rfl, rfl, rfl, rfl, rfl, rfl, ⟨p16651, n16652, k16653, rfl, h16654⟩⟩ := h16643
                  obtain rfl := h16654.1
                  have hw := hw.addE (e := SlA p16651 _ k16653 x16644.Samples) h16654
                  obtain ⟨rv16656, h16655, h16628⟩ := bind_t h16628
                  rcases Bool.eq_false_or_eq_true c16597 with h16657 | h16657
                  ·have h16658 := ite_t hc16626 h16657
                   obtain ⟨x16661, h16659, h16658⟩ := bind_t h16658
                   obtain ⟨q16665, c16666, h16662, h16663, h16667, h16660⟩ := hw.elemRK (α := Record) 0 rfl 4 rfl h16659
                   obtain ⟨_, _, _, _, _, _, _, _, _, _, _, _, rfl, rfl, rfl, rfl, rfl, rfl, rfl, rfl, rfl, rfl, rfl, rfl, ⟨p16668, n16669, k16670, rfl, h16671⟩⟩ := h16660
                   obtain rfl := h16671.1
                   have hw := hw.addE (e := SlA p16668 _ k16670 x16661.Samples) h16671
                   obtain ⟨x16674, h16672, h16658⟩ := bind_t h16658
                   obtain ⟨q16678, c16679, h16675, h16676, h16680, h16673⟩ := hw.elemRK (α := Record) 0 rfl 5 rfl h16672
                   obtain ⟨_, _, _, _, _, _, _, _, _, _, _, _, rfl, rfl, rfl, rfl, rfl, rfl, rfl, rfl, rfl, rfl, rfl, rfl, ⟨p16681, n16682, k16683, rfl, h16684⟩⟩ := h16673
                   obtain rfl := h16684.1
                   have hw := hw.addE (e := SlA p16681 _ k16683 x16674.Samples) h16684
                   obtain ⟨rv16686, h16685, h16658⟩ := bind_t h16658
                   refine h_b (C := Cls [.row (some ⟨b15082, 0, none⟩) rv40.1.length k42 c44 32 12] []) (by kernel_rfl) rfl (hw.drew.cs [0] [] rfl rfl) fun hC => ?_
                   have hw := hw.drew
                   refine h_g hs 0 rfl (by kernel_rfl) rfl rfl hC rfl (fun w hC => y_move rfl) fun a hs => ?_
                   refine h_g hs 1 rfl (by kernel_rfl) rfl rfl hC rfl (fun w hC => y_lss rfl rfl) fun a hs => ?_
                   refine h_g hs 2 rfl (by kernel_rfl) rfl rfl hC rfl (fun w hC => y_move rfl) fun a hs => ?_
                   have hs := hs.fix 112 (.bool true) rfl (vb h16276)
                   refine h_t hs 3 rfl (by kernel_rfl) ⟨_, rfl, rfl⟩ rfl rfl hC (fun w hC => y_move rfl) fun a hs => ?_
                   refine h_t hs 4 rfl (by kernel_rfl) ⟨_, rfl, rfl⟩ rfl rfl hC (fun w hC => y_move rfl) fun a hs => ?_
                   refine h_t hs 5 rfl (by kernel_rfl) ⟨_, rfl, rfl⟩ rfl rfl hC (fun w hC => y_indexAt Try.runUnderlying51 Try.sizeOf32 rfl rfl h16281.1 h16281.2 h16282) fun a hs => ?_
                   refine h_t hs 6 rfl (by kernel_rfl) ⟨_, rfl, rfl⟩ rfl rfl hC (fun w hC => y_loadQA (j := 0) (hC.ownAt 0 rfl) rfl Try.isAgg32 Try.sizeOf32 h16286 rfl rfl) fun a hs => ?_
                   refine h_t hs 7 rfl (by kernel_rfl) ⟨_, rfl, rfl⟩ rfl rfl hC (fun w hC => y_move rfl) fun a hs => ?_
                   refine h_t hs 8 rfl (by kernel_rfl) ⟨_, rfl, rfl⟩ rfl rfl hC (fun w hC => y_move rfl) fun a hs => ?_
                   refine h_t hs 9 rfl (by kernel_rfl) ⟨_, rfl, rfl⟩ rfl rfl hC (fun w hC => y_indexAt Try.runUnderlying51 Try.sizeOf32 rfl rfl h16294.1 h16294.2 h16295) fun a hs => ?_
                   refine h_t hs 10 rfl (by kernel_rfl) ⟨_, rfl, rfl⟩ rfl rfl hC (fun w hC => y_loadQA (j := 0) (hC.ownAt 0 rfl) rfl Try.isAgg32 Try.sizeOf32 h16299 rfl rfl) fun a hs => ?_
                   refine h_one (i := 11) (by kernel_rfl) rfl ?_
                   refine st_callR hs (record_Compare_ok h16304 hw.bdom (hw.bE 5 rfl) (hw.bE 4 rfl)) (do_call Try.call23 rfl) ⟨_, rfl, rfl⟩ rfl rfl ?_
                   intro v16690 Sv16687 w a h16688 h16689 hs
                   subst h16689
                   have hw := hw.callB h16688
                   refine h_nx (hw.cs [0] [] rfl rfl) fun hC => ?_
                   refine h_t hs 12 rfl (by kernel_rfl) ⟨_, rfl, rfl⟩ rfl rfl hC (fun w hC => y_lss rfl rfl) fun a hs => ?_
                   refine h_g hs 13 rfl (by kernel_rfl) rfl rfl hC rfl (fun w hC => y_pickTE (v := .bool c16186) rfl rfl (vbs h16277)) fun a hs => ?_
                   refine h_g hs 14 rfl (by kernel_rfl) rfl rfl hC rfl (fun w hC => y_move rfl) fun a hs => ?_
                   have hs := hs.fix 124 (.bool false) rfl (vb h16306)
                   refine h_s hs 15 rfl (by kernel_rfl) rfl rfl rfl (.inl rfl) rfl rfl hC fun a hs => ?_
                   refine h_s hs 16 rfl (by kernel_rfl) rfl rfl rfl (.inl rfl) rfl rfl hC fun a hs => ?_
                   refine h_s hs 17 rfl (by kernel_rfl) rfl rfl rfl (.inl rfl) rfl rfl hC fun a hs => ?_
                   refine h_s hs 18 rfl (by kernel_rfl) rfl rfl rfl (.inl rfl) rfl rfl hC fun a hs => ?_
                   refine h_s hs 19 rfl (by kernel_rfl) rfl rfl rfl (.inl rfl) rfl rfl hC fun a hs => ?_
                   refine h_s hs 20 rfl (by kernel_rfl) rfl rfl rfl (.inl rfl) rfl rfl hC fun a hs => ?_
                   refine h_s hs 21 rfl (by kernel_rfl) rfl rfl rfl (.inl rfl) rfl rfl hC fun a hs => ?_
                   refine h_s hs 22 rfl (by kernel_rfl) rfl rfl rfl (.inl rfl) rfl rfl hC fun a hs => ?_
                   refine h_s hs 23 rfl (by kernel_rfl) rfl rfl rfl (.inl rfl) rfl rfl hC fun a hs => ?_
                   refine h_s hs 24 rfl (by kernel_rfl) rfl rfl rfl (.inl rfl) rfl rfl hC fun a hs => ?_
                   refine h_g hs 25 rfl (by kernel_rfl) rfl rfl hC rfl (fun w hC => y_pickFE (v := .bool c16215) rfl rfl (vbs h16560)) fun a hs => ?_
                   refine h_g hs 26 rfl (by kernel_rfl) rfl rfl hC rfl (fun w hC => y_move rfl) fun a hs => ?_
                   have hs := hs.fix 136 (.bool false) rfl (vb h16561)
                   refine h_t hs 27 rfl (by kernel_rfl) ⟨_, rfl, rfl⟩ rfl rfl hC (fun w hC => y_move rfl) fun a hs => ?_
                   refine h_t hs 28 rfl (by kernel_rfl) ⟨_, rfl, rfl⟩ rfl rfl hC (fun w hC => y_move rfl) fun a hs => ?_
                   have hs := hs.fix 138 (.bool true) rfl (vb h16627)
                   refine h_t hs 29 rfl (by kernel_rfl) ⟨_, rfl, rfl⟩ rfl rfl hC (fun w hC => y_move rfl) fun a hs => ?_
                   refine h_t hs 30 rfl (by kernel_rfl) ⟨_, rfl, rfl⟩ rfl rfl hC (fun w hC => y_move rfl) fun a hs => ?_
                   refine h_t hs 31 rfl (by kernel_rfl) ⟨_, rfl, rfl⟩ rfl rfl hC (fun w hC => y_indexAt Try.runUnderlying51 Try.sizeOf32 rfl rfl h16632.1 h16632.2 h16633) fun a hs => ?_
                   refine h_t hs 32 rfl (by kernel_rfl) ⟨_, rfl, rfl⟩ rfl rfl hC (fun w hC => y_loadQA (j := 0) (hC.ownAt 0 rfl) rfl Try.isAgg32 Try.sizeOf32 h16637 rfl rfl) fun a hs => ?_
                   refine h_t hs 33 rfl (by kernel_rfl) ⟨_, rfl, rfl⟩ rfl rfl hC (fun w hC => y_move rfl) fun a hs => ?_
                   refine h_t hs 34 rfl (by kernel_rfl) ⟨_, rfl, rfl⟩ rfl rfl hC (fun w hC => y_move rfl) fun a hs => ?_
                   refine h_t hs 35 rfl (by kernel_rfl) ⟨_, rfl, rfl⟩ rfl rfl hC (fun w hC => y_indexAt Try.runUnderlying51 Try.sizeOf32 rfl rfl h16645.1 h16645.2 h16646) fun a hs => ?_
                   refine h_t hs 36 rfl (by kernel_rfl) ⟨_, rfl, rfl⟩ rfl rfl hC (fun w hC => y_loadQA (j := 0) (hC.ownAt 0 rfl) rfl Try.isAgg32 Try.sizeOf32 h16650 rfl rfl) fun a hs => ?_
                   refine h_one (i := 37) (by kernel_rfl) rfl ?_
                   refine st_callR hs (record_Better_ok h16655 hw.bdom (hw.bE 3 rfl) (hw.bE 2 rfl)) (do_call Try.call24 rfl) ⟨_, rfl, rfl⟩ rfl rfl ?_
                   intro v16695 Sv16692 w a h16693 h16694 hs
                   subst h16694
                   have hw := hw.callB h16693
                   refine h_nx (hw.cs [0] [] rfl rfl) fun hC => ?_
                   refine h_t hs 38 rfl (by kernel_rfl) ⟨_, rfl, rfl⟩ rfl rfl hC (fun w hC => y_pickTE (v := .bool c16597) rfl rfl (vbs h16628)) fun a hs => ?_
                   refine h_t hs 39 rfl (by kernel_rfl) ⟨_, rfl, rfl⟩ rfl rfl hC (fun w hC => y_move rfl) fun a hs => ?_
                   have hs := hs.fix 149 (.bool true) rfl (vb h16657)
                   refine h_t hs 40 rfl (by kernel_rfl) ⟨_, rfl, rfl⟩ rfl rfl hC (fun w hC => y_move rfl) fun a hs => ?_
                   refine h_t hs 41 rfl (by kernel_rfl) ⟨_, rfl, rfl⟩ rfl rfl hC (fun w hC => y_move rfl) fun a hs => ?_
                   refine h_t hs 42 rfl (by kernel_rfl) ⟨_, rfl, rfl⟩ rfl rfl hC (fun w hC => y_indexAt Try.runUnderlying51 Try.sizeOf32 rfl rfl h16662.1 h16662.2 h16663) fun a hs => ?_
                   refine h_t hs 43 rfl (by kernel_rfl) ⟨_, rfl, rfl⟩ rfl rfl hC (fun w hC => y_loadQA (j := 0) (hC.ownAt 0 rfl) rfl Try.isAgg32 Try.sizeOf32 h16667 rfl rfl) fun a hs => ?_
                   refine h_t hs 44 rfl (by kernel_rfl) ⟨_, rfl, rfl⟩ rfl rfl hC (fun w hC => y_move rfl) fun a hs => ?_
                   refine h_t hs 45 rfl (by kernel_rfl) ⟨_, rfl, rfl⟩ rfl rfl hC (fun w hC => y_move rfl) fun a hs => ?_
                   refine h_t hs 46 rfl (by kernel_rfl) ⟨_, rfl, rfl⟩ rfl rfl hC (fun w hC => y_indexAt Try.runUnderlying51 Try.sizeOf32 rfl rfl h16675.1 h16675.2 h16676) fun a hs => ?_
                   refine h_t hs 47 rfl (by kernel_rfl) ⟨_, rfl, rfl⟩ rfl rfl hC (fun w hC => y_loadQA (j := 0) (hC.ownAt 0 rfl) rfl Try.isAgg32 Try.sizeOf32 h16680 rfl rfl) fun a hs => ?_
                   refine h_one (i := 48) (by kernel_rfl) rfl ?_
                   refine st_callR hs (record_Better_ok h16685 hw.bdom (hw.bE 1 rfl) (hw.bE 0 rfl)) (do_call Try.call24 rfl) ⟨_, rfl, rfl⟩ rfl rfl ?_
                   intro v16700 Sv16697 w a h16698 h16699 hs
                   subst h16699
                   have hw := hw.callB h16698
                   refine h_nx (hw.cs [0] [] rfl rfl) fun hC => ?_
                   refine h_t hs 49 rfl (by kernel_rfl) ⟨_, rfl, rfl⟩ rfl rfl hC (fun w hC => y_not rfl) fun a hs => ?_
                   refine h_t hs 50 rfl (by kernel_rfl) ⟨_, rfl, rfl⟩ rfl rfl hC (fun w hC => y_pickTE (v := .bool c16626) rfl rfl (vbs h16658)) fun a hs => ?_
                   refine h_g hs 51 rfl (by kernel_rfl) rfl rfl hC rfl (fun w hC => y_pickFE (v := .bool c16274) rfl rfl (vbs h16568)) fun a hs => ?_
                   refine h_done (by kernel_rfl) ?_
                   exact ⟨Sv15912, (hs.wk rfl), (hw.ft [0] [6] (by decide) rfl rfl)⟩
                  ·have h16702 := ite_f hc16626 h16657
                   refine h_b (C := Cls [.row (some ⟨b15082, 0, none⟩) rv40.1.length k42 c44 32 12] []) (by kernel_rfl) rfl (hw.drew.cs [0] [] rfl rfl) fun hC => ?_
                   have hw := hw.drew
                   refine h_g hs 0 rfl (by kernel_rfl) rfl rfl hC rfl (fun w hC => y_move rfl) fun a hs => ?_
                   refine h_g hs 1 rfl (by kernel_rfl) rfl rfl hC rfl (fun w hC => y_lss rfl rfl) fun a hs => ?_
                   refine h_g hs 2 rfl (by kernel_rfl) rfl rfl hC rfl (fun w hC => y_move rfl) fun a hs => ?_
                   have hs := hs.fix 112 (.bool true) rfl (vb h16276)
                   refine h_t hs 3 rfl (by kernel_rfl) ⟨_, rfl, rfl⟩ rfl rfl hC (fun w hC => y_move rfl) fun a hs => ?_
                   refine h_t hs 4 rfl (by kernel_rfl) ⟨_, rfl, rfl⟩ rfl rfl hC (fun w hC => y_move rfl) fun a hs => ?_
                   refine h_t hs 5 rfl (by kernel_rfl) ⟨_, rfl, rfl⟩ rfl rfl hC (fun w hC => y_indexAt Try.runUnderlying51 Try.sizeOf32 rfl rfl h16281.1 h16281.2 h16282) fun a hs => ?_
                   refine h_t hs 6 rfl (by kernel_rfl) ⟨_, rfl, rfl⟩ rfl rfl hC (fun w hC => y_loadQA (j := 0) (hC.ownAt 0 rfl) rfl Try.isAgg32 Try.sizeOf32 h16286 rfl rfl) fun a hs => ?_
                   refine h_t hs 7 rfl (by kernel_rfl) ⟨_, rfl, rfl⟩ rfl rfl hC (fun w hC => y_move rfl) fun a hs => ?_
                   refine h_t hs 8 rfl (by kernel_rfl) ⟨_, rfl, rfl⟩ rfl rfl hC (fun w hC => y_move rfl) fun a hs => ?_
                   refine h_t hs 9 rfl (by kernel_rfl) ⟨_, rfl, rfl⟩ rfl rfl hC (fun w hC => y_indexAt Try.runUnderlying51 Try.sizeOf32 rfl rfl h16294.1 h16294.2 h16295) fun a hs => ?_
                   refine h_t hs 10 rfl (by kernel_rfl) ⟨_, rfl, rfl⟩ rfl rfl hC (fun w hC => y_loadQA (j := 0) (hC.ownAt 0 rfl) rfl Try.isAgg32 Try.sizeOf32 h16299 rfl rfl) fun a hs => ?_
                   refine h_one (i := 11) (by kernel_rfl) rfl ?_
                   refine st_callR hs (record_Compare_ok h16304 hw.bdom (hw.bE 3 rfl) (hw.bE 2 rfl)) (do_call Try.call23 rfl) ⟨_, rfl, rfl⟩ rfl rfl ?_
                   intro v16706 Sv16703 w a h16704 h16705 hs
                   subst h16705
                   have hw := hw.callB h16704
                   refine h_nx (hw.cs [0] [] rfl rfl) fun hC => ?_
                   refine h_t hs 12 rfl (by kernel_rfl) ⟨_, rfl, rfl⟩ rfl rfl hC (fun w hC => y_lss rfl rfl) fun a hs => ?_
                   refine h_g hs 13 rfl (by kernel_rfl) rfl rfl hC rfl (fun w hC => y_pickTE (v := .bool c16186) rfl rfl (vbs h16277)) fun a hs => ?_
                   refine h_g hs 14 rfl (by kernel_rfl) rfl rfl hC rfl (fun w hC => y_move rfl) fun a hs => ?_
                   have hs := hs.fix 124 (.bool false) rfl (vb h16306)
                   refine h_s hs 15 rfl (by kernel_rfl) rfl rfl rfl (.inl rfl) rfl rfl hC fun a hs => ?_
                   refine h_s hs 16 rfl (by kernel_rfl) rfl rfl rfl (.inl rfl) rfl rfl hC fun a hs => ?_
                   refine h_s hs 17 rfl (by kernel_rfl) rfl rfl rfl (.inl rfl) rfl rfl hC fun a hs => ?_
                   refine h_s hs 18 rfl (by kernel_rfl) rfl rfl rfl (.inl rfl) rfl rfl hC fun a hs => ?_
                   refine h_s hs 19 rfl (by kernel_rfl) rfl rfl rfl (.inl rfl) rfl rfl hC fun a hs => ?_
                   refine h_s hs 20 rfl (by kernel_rfl) rfl rfl rfl (.inl rfl) rfl rfl hC fun a hs => ?_
                   refine h_s hs 21 rfl (by kernel_rfl) rfl rfl rfl (.inl rfl) rfl rfl hC fun a hs => ?_
                   refine h_s hs 22 rfl (by kernel_rfl) rfl rfl rfl (.inl rfl) rfl rfl hC fun a hs => ?_
                   refine h_s hs 23 rfl (by kernel_rfl) rfl rfl rfl (.inl rfl) rfl rfl hC fun a hs => ?_
                   refine h_s hs 24 rfl (by kernel_rfl) rfl rfl rfl (.inl rfl) rfl rfl hC fun a hs => ?_
                   refine h_g hs 25 rfl (by kernel_rfl) rfl rfl hC rfl (fun w hC => y_pickFE (v := .bool c16215) rfl rfl (vbs h16560)) fun a hs => ?_
                   refine h_g hs 26 rfl (by kernel_rfl) rfl rfl hC rfl (fun w hC => y_move rfl) fun a hs => ?_
                   have hs := hs.fix 136 (.bool false) rfl (vb h16561)
                   refine h_t hs 27 rfl (by kernel_rfl) ⟨_, rfl, rfl⟩ rfl rfl hC (fun w hC => y_move rfl) fun a hs => ?_
                   refine h_t hs 28 rfl (by kernel_rfl) ⟨_, rfl, rfl⟩ rfl rfl hC (fun w hC => y_move rfl) fun a hs => ?_
                   have hs := hs.fix 138 (.bool true) rfl (vb h16627)
                   refine h_t hs 29 rfl (by kernel_rfl) ⟨_, rfl, rfl⟩ rfl rfl hC (fun w hC => y_move rfl) fun a hs => ?_
                   refine h_t hs 30 rfl (by kernel_rfl) ⟨_, rfl, rfl⟩ rfl rfl hC (fun w hC => y_move rfl) fun a hs => ?_
                   refine h_t hs 31 rfl (by kernel_rfl) ⟨_, rfl, rfl⟩ rfl rfl hC (fun w hC => y_indexAt Try.runUnderlying51 Try.sizeOf32 rfl rfl h16632.1 h16632.2 h16633) fun a hs => ?_
                   refine h_t hs 32 rfl (by kernel_rfl) ⟨_, rfl, rfl⟩ rfl rfl hC (fun w hC => y_loadQA (j := 0) (hC.ownAt 0 rfl) rfl Try.isAgg32 Try.sizeOf32 h16637 rfl rfl) fun a hs => ?_
                   refine h_t hs 33 rfl (by kernel_rfl) ⟨_, rfl, rfl⟩ rfl rfl hC (fun w hC => y_move rfl) fun a hs => ?_
                   refine h_t hs 34 rfl (by kernel_rfl) ⟨_, rfl, rfl⟩ rfl rfl hC (fun w hC => y_move rfl) fun a hs => ?_
                   refine h_t hs 35 rfl (by kernel_rfl) ⟨_, rfl, rfl⟩ rfl rfl hC (fun w hC => y_indexAt Try.runUnderlying51 Try.sizeOf32 rfl rfl h16645.1 h16645.2 h16646) fun a hs => ?_
                   refine h_t hs 36 rfl (by kernel_rfl) ⟨_, rfl, rfl⟩ rfl rfl hC (fun w hC => y_loadQA (j := 0) (hC.ownAt 0 rfl) rfl Try.isAgg32 Try.sizeOf32 h16650 rfl rfl) fun a hs => ?_
                   refine h_one (i := 37) (by kernel_rfl) rfl ?_
                   refine st_callR hs (record_Better_ok h16655 hw.bdom (hw.bE 1 rfl) (hw.bE 0 rfl)) (do_call Try.call24 rfl) ⟨_, rfl, rfl⟩ rfl rfl ?_
                   intro v16711 Sv16708 w a h16709 h16710 hs
                   subst h16710
                   have hw := hw.callB h16709
                   refine h_nx (hw.cs [0] [] rfl rfl) fun hC => ?_
                   refine h_t hs 38 rfl (by kernel_rfl) ⟨_, rfl, rfl⟩ rfl rfl hC (fun w hC => y_pickTE (v := .bool c16597) rfl rfl (vbs h16628)) fun a hs => ?_
                   refine h_t hs 39 rfl (by kernel_rfl) ⟨_, rfl, rfl⟩ rfl rfl hC (fun w hC => y_move rfl) fun a hs => ?_
                   have hs := hs.fix 149 (.bool false) rfl (vb h16657)
                   refine h_s hs 40 rfl (by kernel_rfl) rfl rfl rfl (.inl rfl) rfl rfl hC fun a hs => ?_
                   refine h_s hs 41 rfl (by kernel_rfl) rfl rfl rfl (.inl rfl) rfl rfl hC fun a hs => ?_
                   refine h_s hs 42 rfl (by kernel_rfl) rfl rfl rfl (.inl rfl) rfl rfl hC fun a hs => ?_
                   refine h_s hs 43 rfl (by kernel_rfl) rfl rfl rfl (.inl rfl) rfl rfl hC fun a hs => ?_
                   refine h_s hs 44 rfl (by kernel_rfl) rfl rfl rfl (.inl rfl) rfl rfl hC fun a hs => ?_
                   refine h_s hs 45 rfl (by kernel_rfl) rfl rfl rfl (.inl rfl) rfl rfl hC fun a hs => ?_
                   refine h_s hs 46 rfl (by kernel_rfl) rfl rfl rfl (.inl rfl) rfl rfl hC fun a hs => ?_
                   refine h_s hs 47 rfl (by kernel_rfl) rfl rfl rfl (.inl rfl) rfl rfl hC fun a hs => ?_
                   refine h_s hs 48 rfl (by kernel_rfl) rfl rfl rfl (.inl rfl) rfl rfl hC fun a hs => ?_
                   refine h_s hs 49 rfl (by kernel_rfl) rfl rfl rfl (.inl rfl) rfl rfl hC fun a hs => ?_
                   refine h_t hs 50 rfl (by kernel_rfl) ⟨_, rfl, rfl⟩ rfl rfl hC (fun w hC => y_pickFE (v := .bool c16626) rfl rfl (vbs h16702)) fun a hs => ?_
                   refine h_g hs 51 rfl (by kernel_rfl) rfl rfl hC rfl (fun w hC => y_pickFE (v := .bool c16274) rfl rfl (vbs h16568)) fun a hs => ?_
                   refine h_done (by kernel_rfl) ?_
                   exact ⟨Sv15912, (hs.wk rfl), (hw.ft [0] [4] (by decide) rfl rfl)⟩
                 ·have h16713 := ite_f hc16597 h16627
                  rcases Bool.eq_false_or_eq_true c16597 with h16714 | h16714
                  ·have h16715 := ite_t hc16626 h16714
                   obtain ⟨x16718, h16716, h16715⟩ := bind_t h16715
                   obtain ⟨q16722, c16723, h16719, h16720, h16724, h16717⟩ := hw.elemRK (α := Record) 0 rfl 2 rfl h16716
                   obtain ⟨_, _, _, _, _, _, _, _, _, _, _, _, rfl, rfl, rfl, rfl, rfl, rfl, rfl, rfl, rfl, rfl, rfl, rfl, ⟨p16725, n16726, k16727, rfl, h16728⟩⟩ := h16717
                   obtain rfl := h16728.1
                   have hw := hw.addE (e := SlA p16725 _ k16727 x16718.Samples) h16728
                   obtain ⟨x16731, h16729, h16715⟩ := bind_t h16715
                   obtain ⟨q16735, c16736, h16732, h16733, h16737, h16730⟩ := hw.elemRK (α := Record) 0 rfl 3 rfl h16729
                   obtain ⟨_, _, _, _, _, _, _, _, _, _, _, _, rfl, rfl, rfl, rfl, rfl, rfl, rfl, rfl, rfl, rfl, rfl, rfl, ⟨p16738, n16739, k16740, rfl, h16741⟩⟩ := h16730
                   obtain rfl := h16741.1
                   have hw := hw.addE (e := SlA p16738 _ k16740 x16731.Samples) h16741
                   obtain ⟨rv16743, h16742, h16715⟩ := bind_t h16715
                   refine h_b (C := Cls [.row (some ⟨b15082, 0, none⟩) rv40.1.length k42 c44 32 12] []) (by kernel_rfl) rfl (hw.drew.cs [0] [] rfl rfl) fun hC => ?_
                   have hw := hw.drew
                   refine h_g hs 0 rfl (by kernel_rfl) rfl rfl hC rfl (fun w hC => y_move rfl) fun a hs => ?_
                   refine h_g hs 1 rfl (by kernel_rfl) rfl rfl hC rfl (fun w hC => y_lss rfl rfl) fun a hs => ?_
                   refine h_g hs 2 rfl (by kernel_rfl) rfl rfl hC rfl (fun w hC => y_move rfl) fun a hs => ?_
                   have hs := hs.fix 112 (.bool true) rfl (vb h16276)
                   refine h_t hs 3 rfl (by kernel_rfl) ⟨_, rfl, rfl⟩ rfl rfl hC (fun w hC => y_move rfl) fun a hs => ?_
                   refine h_t hs 4 rfl (by kernel_rfl) ⟨_, rfl, rfl⟩ rfl rfl hC (fun w hC => y_move rfl) fun a hs => ?_
                   refine h_t hs 5 rfl (by kernel_rfl) ⟨_, rfl, rfl⟩ rfl rfl hC (fun w hC => y_indexAt Try.runUnderlying51 Try.sizeOf32 rfl rfl h16281.1 h16281.2 h16282) fun a hs => ?_
                   refine h_t hs 6 rfl (by kernel_rfl) ⟨_, rfl, rfl⟩ rfl rfl hC (fun w hC => y_loadQA (j := 0) (hC.ownAt 0 rfl) rfl Try.isAgg32 Try.sizeOf32 h16286 rfl rfl) fun a hs => ?_
                   refine h_t hs 7 rfl (by kernel_rfl) ⟨_, rfl, rfl⟩ rfl rfl hC (fun w hC => y_move rfl) fun a hs => ?_
                   refine h_t hs 8 rfl (by kernel_rfl) ⟨_, rfl, rfl⟩ rfl rfl hC (fun w hC => y_move rfl) fun a hs => ?_
                   refine h_t hs 9 rfl (by kernel_rfl) ⟨_, rfl, rfl⟩ rfl rfl hC (fun w hC => y_indexAt Try.runUnderlying51 Try.sizeOf32 rfl rfl h16294.1 h16294.2 h16295) fun a hs => ?_
                   refine h_t hs 10 rfl (by kernel_rfl) ⟨_, rfl, rfl⟩ rfl rfl hC (fun w hC => y_loadQA (j := 0) (hC.ownAt 0 rfl) rfl Try.isAgg32 Try.sizeOf32 h16299 rfl rfl) fun a hs => ?_
                   refine h_one (i := 11) (by kernel_rfl) rfl ?_
                   refine st_callR hs (record_Compare_ok h16304 hw.bdom (hw.bE 3 rfl) (hw.bE 2 rfl)) (do_call Try.call23 rfl) ⟨_, rfl, rfl⟩ rfl rfl ?_
                   intro v16747 Sv16744 w a h16745 h16746 hs
                   subst h16746
                   have hw := hw.callB h16745
                   refine h_nx (hw.cs [0] [] rfl rfl) fun hC => ?_
                   refine h_t hs 12 rfl (by kernel_rfl) ⟨_, rfl, rfl⟩ rfl rfl hC (fun w hC => y_lss rfl rfl) fun a hs => ?_
                   refine h_g hs 13 rfl (by kernel_rfl) rfl rfl hC rfl (fun w hC => y_pickTE (v := .bool c16186) rfl rfl (vbs h16277)) fun a hs => ?_
                   refine h_g hs 14 rfl (by kernel_rfl) rfl rfl hC rfl (fun w hC => y_move rfl) fun a hs => ?_
                   have hs := hs.fix 124 (.bool false) rfl (vb h16306)
                   refine h_s hs 15 rfl (by kernel_rfl) rfl rfl rfl (.inl rfl) rfl rfl hC fun a hs => ?_
                   refine h_s hs 16 rfl (by kernel_rfl) rfl rfl rfl (.inl rfl) rfl rfl hC fun a hs => ?_
                   refine h_s hs 17 rfl (by kernel_rfl) rfl rfl rfl (.inl rfl) rfl rfl hC fun a hs => ?_
                   refine h_s hs 18 rfl (by kernel_rfl) rfl rfl rfl (.inl rfl) rfl rfl hC fun a hs => ?_
                   refine h_s hs 19 rfl (by kernel_rfl) rfl rfl rfl (.inl rfl) rfl rfl hC fun a hs => ?_
                   refine h_s hs 20 rfl (by kernel_rfl) rfl rfl rfl (.inl rfl) rfl rfl hC fun a hs => ?_
                   refine h_s hs 21 rfl (by kernel_rfl) rfl rfl rfl (.inl rfl) rfl rfl hC fun a hs => ?_
                   refine h_s hs 22 rfl (by kernel_rfl) rfl rfl rfl (.inl rfl) rfl rfl hC fun a hs => ?_
                   refine h_s hs 23 rfl (by kernel_rfl) rfl rfl rfl (.inl rfl) rfl rfl hC fun a hs => ?_
                   refine h_s hs 24 rfl (by kernel_rfl) rfl rfl rfl (.inl rfl) rfl rfl hC fun a hs => ?_
                   refine h_g hs 25 rfl (by kernel_rfl) rfl rfl hC rfl (fun w hC => y_pickFE (v := .bool c16215) rfl rfl (vbs h16560)) fun a hs => ?_
                   refine h_g hs 26 rfl (by kernel_rfl) rfl rfl hC rfl (fun w hC => y_move rfl) fun a hs => ?_
                   have hs := hs.fix 136 (.bool false) rfl (vb h16561)
                   refine h_t hs 27 rfl (by kernel_rfl) ⟨_, rfl, rfl⟩ rfl rfl hC (fun w hC => y_move rfl) fun a hs => ?_
                   refine h_t hs 28 rfl (by kernel_rfl) ⟨_, rfl, rfl⟩ rfl rfl hC (fun w hC => y_move rfl) fun a hs => ?_
                   have hs := hs.fix 138 (.bool false) rfl (vb h16627)
                   refine h_s hs 29 rfl (by kernel_rfl) rfl rfl rfl (.inl rfl) rfl rfl hC fun a hs => ?_
                   refine h_s hs 30 rfl (by kernel_rfl) rfl rfl rfl (.inl rfl) rfl rfl hC fun a hs => ?_
                   refine h_s hs 31 rfl (by kernel_rfl) rfl rfl rfl (.inl rfl) rfl rfl hC fun a hs => ?_
                   refine h_s hs 32 rfl (by kernel_rfl) rfl rfl rfl (.inl rfl) rfl rfl hC fun a hs => ?_
                   refine h_s hs 33 rfl (by kernel_rfl) rfl rfl rfl (.inl rfl) rfl rfl hC fun a hs => ?_
                   refine h_s hs 34 rfl (by kernel_rfl) rfl rfl rfl (.inl rfl) rfl rfl hC fun a hs => ?_
                   refine h_s hs 35 rfl (by kernel_rfl) rfl rfl rfl (.inl rfl) rfl rfl hC fun a hs => ?_
                   refine h_s hs 36 rfl (by kernel_rfl) rfl rfl rfl (.inl rfl) rfl rfl hC fun a hs => ?_
                   refine h_s hs 37 rfl (by kernel_rfl) rfl rfl rfl (.inl rfl) rfl rfl hC fun a hs => ?_
                   refine h_t hs 38 rfl (by kernel_rfl) ⟨_, rfl, rfl⟩ rfl rfl hC (fun w hC => y_pickFE (v := .bool c16597) rfl rfl (vbs h16713)) fun a hs => ?_
                   refine h_t hs 39 rfl (by kernel_rfl) ⟨_, rfl, rfl⟩ rfl rfl hC (fun w hC => y_move rfl) fun a hs => ?_
                   have hs := hs.fix 149 (.bool true) rfl (vb h16714)
                   refine h_t hs 40 rfl (by kernel_rfl) ⟨_, rfl, rfl⟩ rfl rfl hC (fun w hC => y_move rfl) fun a hs => ?_
                   refine h_t hs 41 rfl (by kernel_rfl) ⟨_, rfl, rfl⟩ rfl rfl hC (fun w hC => y_move rfl) fun a hs => ?_
                   refine h_t hs 42 rfl (by kernel_rfl) ⟨_, rfl, rfl⟩ rfl rfl hC (fun w hC => y_indexAt Try.runUnderlying51 Try.sizeOf32 rfl rfl h16719.1 h16719.2 h16720) fun a hs => ?_
                   refine h_t hs 43 rfl (by kernel_rfl) ⟨_, rfl, rfl⟩ rfl rfl hC (fun w hC => y_loadQA (j := 0) (hC.ownAt 0 rfl) rfl Try.isAgg32 Try.sizeOf32 h16724 rfl rfl) fun a hs => ?_
                   refine h_t hs 44 rfl (by kernel_rfl) ⟨_, rfl, rfl⟩ rfl rfl hC (fun w hC => y_move rfl) fun a hs => ?_
                   refine h_t hs 45 rfl (by kernel_rfl) ⟨_, rfl, rfl⟩ rfl rfl hC (fun w hC => y_move rfl) fun a hs => ?_
                   refine h_t hs 46 rfl (by kernel_rfl) ⟨_, rfl, rfl⟩ rfl rfl hC (fun w hC => y_indexAt Try.runUnderlying51 Try.sizeOf32 rfl rfl h16732.1 h16732.2 h16733) fun a hs => ?_
                   refine h_t hs 47 rfl (by kernel_rfl) ⟨_, rfl, rfl⟩ rfl rfl hC (fun w hC => y_loadQA (j := 0) (hC.ownAt 0 rfl) rfl Try.isAgg32 Try.sizeOf32 h16737 rfl rfl) fun a hs => ?_
                   refine h_one (i := 48) (by kernel_rfl) rfl ?_
                   refine st_callR hs (record_Better_ok h16742 hw.bdom (hw.bE 1 rfl) (hw.bE 0 rfl)) (do_call Try.call24 rfl) ⟨_, rfl, rfl⟩ rfl rfl ?_
                   intro v16752 Sv16749 w a h16750 h16751 hs
                   subst h16751
                   have hw := hw.callB h16750
                   refine h_nx (hw.cs [0] [] rfl rfl) fun hC => ?_
                   refine h_t hs 49 rfl (by kernel_rfl) ⟨_, rfl, rfl⟩ rfl rfl hC (fun w hC => y_not rfl) fun a hs => ?_
                   refine h_t hs 50 rfl (by kernel_rfl) ⟨_, rfl, rfl⟩ rfl rfl hC (fun w hC => y_pickTE (v := .bool c16626) rfl rfl (vbs h16715)) fun a hs => ?_
                   refine h_g hs 51 rfl (by kernel_rfl) rfl rfl hC rfl (fun w hC => y_pickFE (v := .bool c16274) rfl rfl (vbs h16568)) fun a hs => ?_
                   refine h_done (by kernel_rfl) ?_
                   exact ⟨Sv15912, (hs.wk rfl), (hw.ft [0] [4] (by decide) rfl rfl)⟩
                  ·have h16754 := ite_f hc16626 h16714
                   refine h_b (C := Cls [.row (some ⟨b15082, 0, none⟩) rv40.1.length k42 c44 32 12] []) (by kernel_rfl) rfl (hw.drew.cs [0] [] rfl rfl) fun hC => ?_
                   have hw := hw.drew
                   refine h_g hs 0 rfl (by kernel_rfl) rfl rfl hC rfl (fun w hC => y_move rfl) fun a hs => ?_
                   refine h_g hs 1 rfl (by kernel_rfl) rfl rfl hC rfl (fun w hC => y_lss rfl rfl) fun a hs => ?_
                   refine h_g hs 2 rfl (by kernel_rfl) rfl rfl hC rfl (fun w hC => y_move rfl) fun a hs => ?_
                   have hs := hs.fix 112 (.bool true) rfl (vb h16276)
                   refine h_t hs 3 rfl (by kernel_rfl) ⟨_, rfl, rfl⟩ rfl rfl hC (fun w hC => y_move rfl) fun a hs => ?_
                   refine h_t hs 4 rfl (by kernel_rfl) ⟨_, rfl, rfl⟩ rfl rfl hC (fun w hC => y_move rfl) fun a hs => ?_
                   refine h_t hs 5 rfl (by kernel_rfl) ⟨_, rfl, rfl⟩ rfl rfl hC (fun w hC => y_indexAt Try.runUnderlying51 Try.sizeOf32 rfl rfl h16281.1 h16281.2 h16282) fun a hs => ?_
                   refine h_t hs 6 rfl (by kernel_rfl) ⟨_, rfl, rfl⟩ rfl rfl hC (fun w hC => y_loadQA (j := 0) (hC.ownAt 0 rfl) rfl Try.isAgg32 Try.sizeOf32 h16286 rfl rfl) fun a hs => ?_
                   refine h_t hs 7 rfl (by kernel_rfl) ⟨_, rfl, rfl⟩ rfl rfl hC (fun w hC => y_move rfl) fun a hs => ?_
                   refine h_t hs 8 rfl (by kernel_rfl) ⟨_, rfl, rfl⟩ rfl rfl hC (fun w hC => y_move rfl) fun a hs => ?_
                   refine h_t hs 9 rfl (by kernel_rfl) ⟨_, rfl, rfl⟩ rfl rfl hC (fun w hC => y_indexAt Try.runUnderlying51 Try.sizeOf32 rfl rfl h16294.1 h16294.2 h16295) fun a hs => ?_
                   refine h_t hs 10 rfl (by kernel_rfl) ⟨_, rfl, rfl⟩ rfl rfl hC (fun w hC => y_loadQA (j := 0) (hC.ownAt 0 rfl) rfl Try.isAgg32 Try.sizeOf32 h16299 rfl rfl) fun a hs => ?_
                   refine h_one (i := 11) (by kernel_rfl) rfl ?_
                   refine st_callR hs (record_Compare_ok h16304 hw.bdom (hw.bE 1 rfl) (hw.bE 0 rfl)) (do_call Try.call23 rfl) ⟨_, rfl, rfl⟩ rfl rfl ?_
                   intro v16758 Sv16755 w a h16756 h16757 hs
                   subst h16757
                   have hw := hw.callB h16756
                   refine h_nx (hw.cs [0] [] rfl rfl) fun hC => ?_
                   refine h_t hs 12 rfl (by kernel_rfl) ⟨_, rfl, rfl⟩ rfl rfl hC (fun w hC => y_lss rfl rfl) fun a hs => ?_
                   refine h_g hs 13 rfl (by kernel_rfl) rfl rfl hC rfl (fun w hC => y_pickTE (v := .bool c16186) rfl rfl (vbs h16277)) fun a hs => ?_
                   refine h_g hs 14 rfl (by kernel_rfl) rfl rfl hC rfl (fun w hC => y_move rfl) fun a hs => ?_
                   have hs := hs.fix 124 (.bool false) rfl (vb h16306)
                   refine h_s hs 15 rfl (by kernel_rfl) rfl rfl rfl (.inl rfl) rfl rfl hC fun a hs => ?_
                   refine h_s hs 16 rfl (by kernel_rfl) rfl rfl rfl (.inl rfl) rfl rfl hC fun a hs => ?_
                   refine h_s hs 17 rfl (by kernel_rfl) rfl rfl rfl (.inl rfl) rfl rfl hC fun a hs => ?_
                   refine h_s hs 18 rfl (by kernel_rfl) rfl rfl rfl (.inl rfl) rfl rfl hC fun a hs => ?_
                   refine h_s hs 19 rfl (by kernel_rfl) rfl rfl rfl (.inl rfl) rfl rfl hC fun a hs => ?_
                   refine h_s hs 20 rfl (by kernel_rfl) rfl rfl rfl (.inl rfl) rfl rfl hC fun a hs => ?_
                   refine h_s hs 21 rfl (by kernel_rfl) rfl rfl rfl (.inl rfl) rfl rfl hC fun a hs => ?_
                   refine h_s hs 22 rfl (by kernel_rfl) rfl rfl rfl (.inl rfl) rfl rfl hC fun a hs => ?_
                   refine h_s hs 23 rfl (by kernel_rfl) rfl rfl rfl (.inl rfl) rfl rfl hC fun a hs => ?_
                   refine h_s hs 24 rfl (by kernel_rfl) rfl rfl rfl (.inl rfl) rfl rfl hC fun a hs => ?_
                   refine h_g hs 25 rfl (by kernel_rfl) rfl rfl hC rfl (fun w hC => y_pickFE (v := .bool c16215) rfl rfl (vbs h16560)) fun a hs => ?_
                   refine h_g hs 26 rfl (by kernel_rfl) rfl rfl hC rfl (fun w hC => y_move rfl) fun a hs => ?_
                   have hs := hs.fix 136 (.bool false) rfl (vb h16561)
                   refine h_t hs 27 rfl (by kernel_rfl) ⟨_, rfl, rfl⟩ rfl rfl hC (fun w hC => y_move rfl) fun a hs => ?_
                   refine h_t hs 28 rfl (by kernel_rfl) ⟨_, rfl, rfl⟩ rfl rfl hC (fun w hC => y_move rfl) fun a hs => ?_
                   have hs := hs.fix 138 (.bool false) rfl (vb h16627)
                   refine h_s hs 29 rfl (by kernel_rfl) rfl rfl rfl (.inl rfl) rfl rfl hC fun a hs => ?_
                   refine h_s hs 30 rfl (by kernel_rfl) rfl rfl rfl (.inl rfl) rfl rfl hC fun a hs => ?_
                   refine h_s hs 31 rfl (by kernel_rfl) rfl rfl rfl (.inl rfl) rfl rfl hC fun a hs => ?_
                   refine h_s hs 32 rfl (by kernel_rfl) rfl rfl rfl (.inl rfl) rfl rfl hC fun a hs => ?_
                   refine h_s hs 33 rfl (by kernel_rfl) rfl rfl rfl (.inl rfl) rfl rfl hC fun a hs => ?_
                   refine h_s hs 34 rfl (by kernel_rfl) rfl rfl rfl (.inl rfl) rfl rfl hC fun a hs => ?_
                   refine h_s hs 35 rfl (by kernel_rfl) rfl rfl rfl (.inl rfl) rfl rfl hC fun a hs => ?_
                   refine h_s hs 36 rfl (by kernel_rfl) rfl rfl rfl (.inl rfl) rfl rfl hC fun a hs => ?_
                   refine h_s hs 37 rfl (by kernel_rfl) rfl rfl rfl (.inl rfl) rfl rfl hC fun a hs => ?_
                   refine h_t hs 38 rfl (by kernel_rfl) ⟨_, rfl, rfl⟩ rfl rfl hC (fun w hC => y_pickFE (v := .bool c16597) rfl rfl (vbs h16713)) fun a hs => ?_
                   refine h_t hs 39 rfl (by kernel_rfl) ⟨_, rfl, rfl⟩ rfl rfl hC (fun w hC => y_move rfl) fun a hs => ?_
                   have hs := hs.fix 149 (.bool false) rfl (vb h16714)
                   refine h_s hs 40 rfl (by kernel_rfl) rfl rfl rfl (.inl rfl) rfl rfl hC fun a hs => ?_
                   refine h_s hs 41 rfl (by kernel_rfl) rfl rfl rfl (.inl rfl) rfl rfl hC fun a hs => ?_
                   refine h_s hs 42 rfl (by kernel_rfl) rfl rfl rfl (.inl rfl) rfl rfl hC fun a hs => ?_
                   refine h_s hs 43 rfl (by kernel_rfl) rfl rfl rfl (.inl rfl) rfl rfl hC fun a hs => ?_
                   refine h_s hs 44 rfl (by kernel_rfl) rfl rfl rfl (.inl rfl) rfl rfl hC fun a hs => ?_
                   refine h_s hs 45 rfl (by kernel_rfl) rfl rfl rfl (.inl rfl) rfl rfl hC fun a hs => ?_
                   refine h_s hs 46 rfl (by kernel_rfl) rfl rfl rfl (.inl rfl) rfl rfl hC fun a hs => ?_
                   refine h_s hs 47 rfl (by kernel_rfl) rfl rfl rfl (.inl rfl) rfl rfl hC fun a hs => ?_
                   refine h_s hs 48 rfl (by kernel_rfl) rfl rfl rfl (.inl rfl) rfl rfl hC fun a hs => ?_
                   refine h_s hs 49 rfl (by kernel_rfl) rfl rfl rfl (.inl rfl) rfl rfl hC fun a hs => ?_
                   refine h_t hs 50 rfl (by kernel_rfl) ⟨_, rfl, rfl⟩ rfl rfl hC (fun w hC => y_pickFE (v := .bool c16626) rfl rfl (vbs h16754)) fun a hs => ?_
                   refine h_g hs 51 rfl (by kernel_rfl) rfl rfl hC rfl (fun w hC => y_pickFE (v := .bool c16274) rfl rfl (vbs h16568)) fun a hs => ?_
                   refine h_done (by kernel_rfl) ?_
                   exact ⟨Sv15912, (hs.wk rfl), (hw.ft [0] [2] (by decide) rfl rfl)⟩
              ·have h16760 := ite_f hc16186 h16276
               rcases Bool.eq_false_or_eq_true c16186 with h16761 | h16761
               ·have h16762 := ite_t hc16215 h16761
                obtain ⟨x16765, h16763, h16762⟩ := bind_t h16762
                obtain ⟨q16769, c16770, h16766, h16767, h16771, h16764⟩ := hw.elemRK (α := Record) 0 rfl 0 rfl h16763
                obtain ⟨_, _, _, _, _, _, _, _, _, _, _, _, rfl, rfl, rfl, rfl, rfl, rfl, rfl, rfl, rfl, rfl, rfl, rfl, ⟨p16772, n16773, k16774, rfl, h16775⟩⟩ := h16764
                obtain rfl := h16775.1
                have hw := hw.addE (e := SlA p16772 _ k16774 x16765.Samples) h16775
                obtain ⟨x16778, h16776, h16762⟩ := bind_t h16762
                obtain ⟨q16782, c16783, h16779, h16780, h16784, h16777⟩ := hw.elemRK (α := Record) 0 rfl 1 rfl h16776
                obtain ⟨_, _, _, _, _, _, _, _, _, _, _, _, rfl, rfl, rfl, rfl, rfl, rfl, rfl, rfl, rfl, rfl, rfl, rfl, ⟨p16785, n16786, k16787, rfl, h16788⟩⟩ := h16777
                obtain rfl := h16788.1
                have hw := hw.addE (e := SlA p16785 _ k16787 x16778.Samples) h16788
                obtain ⟨rv16790, h16789, h16762⟩ := bind_t h16762
                rcases Bool.eq_false_or_eq_true c16215 with h16791 | h16791
                ·have h16792 := ite_t hc16274 h16791
                 refine h_b (C := Cls [.row (some ⟨b15082, 0, none⟩) rv40.1.length k42 c44 32 12] []) (by kernel_rfl) rfl (hw.drew.cs [0] [] rfl rfl) fun hC => ?_
                 have hw := hw.drew
                 refine h_g hs 0 rfl (by kernel_rfl) rfl rfl hC rfl (fun w hC => y_move rfl) fun a hs => ?_
                 refine h_g hs 1 rfl (by kernel_rfl) rfl rfl hC rfl (fun w hC => y_lss rfl rfl) fun a hs => ?_
                 refine h_g hs 2 rfl (by kernel_rfl) rfl rfl hC rfl (fun w hC => y_move rfl) fun a hs => ?_
                 have hs := hs.fix 112 (.bool false) rfl (vb h16276)
                 refine h_s hs 3 rfl (by kernel_rfl) rfl rfl rfl (.inl rfl) rfl rfl hC fun a hs => ?_
                 refine h_s hs 4 rfl (by kernel_rfl) rfl rfl rfl (.inl rfl) rfl rfl hC fun a hs => ?_
                 refine h_s hs 5 rfl (by kernel_rfl) rfl rfl rfl (.inl rfl) rfl rfl hC fun a hs => ?_
                 refine h_s hs 6 rfl (by kernel_rfl) rfl rfl rfl (.inl rfl) rfl rfl hC fun a hs => ?_
                 refine h_s hs 7 rfl (by kernel_rfl) rfl rfl rfl (.inl rfl) rfl rfl hC fun a hs => ?_
                 refine h_s hs 8 rfl (by kernel_rfl) rfl rfl rfl (.inl rfl) rfl rfl hC fun a hs => ?_
                 refine h_s hs 9 rfl (by kernel_rfl) rfl rfl rfl (.inl rfl) rfl rfl hC fun a hs => ?_
                 refine h_s hs 10 rfl (by kernel_rfl) rfl rfl rfl (.inl rfl) rfl rfl hC fun a hs => ?_
                 refine h_s hs 11 rfl (by kernel_rfl) rfl rfl rfl (.inl rfl) rfl rfl hC fun a hs => ?_
                 refine h_s hs 12 rfl (by kernel_rfl) rfl rfl rfl (.inl rfl) rfl rfl hC fun a hs => ?_
                 refine h_g hs 13 rfl (by kernel_rfl) rfl rfl hC rfl (fun w hC => y_pickFE (v := .bool c16186) rfl rfl (vbs h16760)) fun a hs => ?_
                 refine h_g hs 14 rfl (by kernel_rfl) rfl rfl hC rfl (fun w hC => y_move rfl) fun a hs => ?_
                 have hs := hs.fix 124 (.bool true) rfl (vb h16761)
                 refine h_t hs 15 rfl (by kernel_rfl) ⟨_, rfl, rfl⟩ rfl rfl hC (fun w hC => y_move rfl) fun a hs => ?_
                 refine h_t hs 16 rfl (by kernel_rfl) ⟨_, rfl, rfl⟩ rfl rfl hC (fun w hC => y_move rfl) fun a hs => ?_
                 refine h_t hs 17 rfl (by kernel_rfl) ⟨_, rfl, rfl⟩ rfl rfl hC (fun w hC => y_indexAt Try.runUnderlying51 Try.sizeOf32 rfl rfl h16766.1 h16766.2 h16767) fun a hs => ?_
                 refine h_t hs 18 rfl (by kernel_rfl) ⟨_, rfl, rfl⟩ rfl rfl hC (fun w hC => y_loadQA (j := 0) (hC.ownAt 0 rfl) rfl Try.isAgg32 Try.sizeOf32 h16771 rfl rfl) fun a hs => ?_
                 refine h_t hs 19 rfl (by kernel_rfl) ⟨_, rfl, rfl⟩ rfl rfl hC (fun w hC => y_move rfl) fun a hs => ?_
                 refine h_t hs 20 rfl (by kernel_rfl) ⟨_, rfl, rfl⟩ rfl rfl hC (fun w hC => y_move rfl) fun a hs => ?_
                 refine h_t hs 21 rfl (by kernel_rfl) ⟨_, rfl, rfl⟩ rfl rfl hC (fun w hC => y_indexAt Try.runUnderlying51 Try.sizeOf32 rfl rfl h16779.1 h16779.2 h16780) fun a hs => ?_
                 refine h_t hs 22 rfl (by kernel_rfl) ⟨_, rfl, rfl⟩ rfl rfl hC (fun w hC => y_loadQA (j := 0) (hC.ownAt 0 rfl) rfl Try.isAgg32 Try.sizeOf32 h16784 rfl rfl) fun a hs => ?_
                 refine h_one (i := 23) (by kernel_rfl) rfl ?_
                 refine st_callR hs (record_Compare_ok h16789 hw.bdom (hw.bE 1 rfl) (hw.bE 0 rfl)) (do_call Try.call23 rfl) ⟨_, rfl, rfl⟩ rfl rfl ?_
                 intro v16796 Sv16793 w a h16794 h16795 hs
                 subst h16795
                 have hw := hw.callB h16794
                 refine h_nx (hw.cs [0] [] rfl rfl) fun hC => ?_
                 refine h_t hs 24 rfl (by kernel_rfl) ⟨_, rfl, rfl⟩ rfl rfl hC (fun w hC => y_geq rfl rfl) fun a hs => ?_
                 refine h_g hs 25 rfl (by kernel_rfl) rfl rfl hC rfl (fun w hC => y_pickTE (v := .bool c16215) rfl rfl (vbs h16762)) fun a hs => ?_
                 refine h_g hs 26 rfl (by kernel_rfl) rfl rfl hC rfl (fun w hC => y_move rfl) fun a hs => ?_
                 have hs := hs.fix 136 (.bool true) rfl (vb h16791)
                 refine h_s hs 27 rfl (by kernel_rfl) rfl rfl rfl (.inl rfl) rfl rfl hC fun a hs => ?_
                 refine h_s hs 28 rfl (by kernel_rfl) rfl rfl rfl (.inl rfl) rfl rfl hC fun a hs => ?_
                 refine h_s hs 29 rfl (by kernel_rfl) rfl rfl rfl (.inr rfl) rfl rfl hC fun a hs => ?_
                 refine h_s hs 30 rfl (by kernel_rfl) rfl rfl rfl (.inr rfl) rfl rfl hC fun a hs => ?_
                 refine h_s hs 31 rfl (by kernel_rfl) rfl rfl rfl (.inr rfl) rfl rfl hC fun a hs => ?_
                 refine h_s hs 32 rfl (by kernel_rfl) rfl rfl rfl (.inr rfl) rfl rfl hC fun a hs => ?_
                 refine h_s hs 33 rfl (by kernel_rfl) rfl rfl rfl (.inr rfl) rfl rfl hC fun a hs => ?_
                 refine h_s hs 34 rfl (by kernel_rfl) rfl rfl rfl (.inr rfl) rfl rfl hC fun a hs => ?_
                 refine h_s hs 35 rfl (by kernel_rfl) rfl rfl rfl (.inr rfl) rfl rfl hC fun a hs => ?_
                 refine h_s hs 36 rfl (by kernel_rfl) rfl rfl rfl (.inr rfl) rfl rfl hC fun a hs => ?_
                 refine h_s hs 37 rfl (by kernel_rfl) rfl rfl rfl (.inr rfl) rfl rfl hC fun a hs => ?_
                 refine h_s hs 38 rfl (by kernel_rfl) rfl rfl rfl (.inl rfl) rfl rfl hC fun a hs => ?_
                 refine h_s hs 39 rfl (by kernel_rfl) rfl rfl rfl (.inl rfl) rfl rfl hC fun a hs => ?_
                 refine h_s hs 40 rfl (by kernel_rfl) rfl rfl rfl (.inr rfl) rfl rfl hC fun a hs => ?_
                 refine h_s hs 41 rfl (by kernel_rfl) rfl rfl rfl (.inr rfl) rfl rfl hC fun a hs => ?_
                 refine h_s hs 42 rfl (by kernel_rfl) rfl rfl rfl (.inr rfl) rfl rfl hC fun a hs => ?_
                 refine h_s hs 43 rfl (by kernel_rfl) rfl rfl rfl (.inr rfl) rfl rfl hC fun a hs => ?_
                 refine h_s hs 44 rfl (by kernel_rfl) rfl rfl rfl (.inr rfl) rfl rfl hC fun a hs => ?_
                 refine h_s hs 45 rfl (by kernel_rfl) rfl rfl rfl (.inr rfl) rfl rfl hC fun a hs => ?_
                 refine h_s hs 46 rfl (by kernel_rfl) rfl rfl rfl (.inr rfl) rfl rfl hC fun a hs => ?_
                 refine h_s hs 47 rfl (by kernel_rfl) rfl rfl rfl (.inr rfl) rfl rfl hC fun a hs => ?_
                 refine h_s hs 48 rfl (by kernel_rfl) rfl rfl rfl (.inr rfl) rfl rfl hC fun a hs => ?_
                 refine h_s hs 49 rfl (by kernel_rfl) rfl rfl rfl (.inr rfl) rfl rfl hC fun a hs => ?_
                 refine h_s hs 50 rfl (by kernel_rfl) rfl rfl rfl (.inl rfl) rfl rfl hC fun a hs => ?_
                 refine h_g hs 51 rfl (by kernel_rfl) rfl rfl hC rfl (fun w hC => y_pickTE (v := .bool c16274) rfl rfl (vbs h16792)) fun a hs => ?_
                 refine h_done (by kernel_rfl) ?_
                 exact ⟨Sv15912, (hs.wk rfl), (hw.ft [0] [2] (by decide) rfl rfl)⟩
                ·have h16798 := ite_f hc16274 h16791
                 obtain ⟨c16827, hc16827, h16798⟩ := bind_t h16798
                 obtain ⟨c16856, hc16856, h16798⟩ := bind_t h16798
                 rcases Bool.eq_false_or_eq_true rv15246 with h16857 | h16857
                 ·have h16858 := ite_t hc16827 h16857
                  obtain ⟨x16861, h16859, h16858⟩ := bind_t h16858
                  obtain ⟨q16865, c16866, h16862, h16863, h16867, h16860⟩ := hw.elemRK (α := Record) 0 rfl 2 rfl h16859
                  obtain ⟨_, _, _, _, _, _, _, _, _, _, _, _, rfl, rfl, rfl, rfl, rfl, rfl, rfl, rfl, rfl, rfl, rfl, rfl, ⟨p16868, n16869, k16870, rfl, h16871⟩⟩ := h16860
                  obtain rfl := h16871.1
                  have hw := hw.addE (e := SlA p16868 _ k16870 x16861.Samples) h16871
                  obtain ⟨x16874, h16872, h16858⟩ := bind_t h16858
                  obtain ⟨q16878, c16879, h16875, h16876, h16880, h16873⟩ := hw.elemRK (α := Record) 0 rfl 3 rfl h16872
                  obtain ⟨_, _, _, _, _, _, _, _, _, _, _, _, rfl, rfl, rfl, rfl, rfl, rfl, rfl, rfl, rfl, rfl, rfl, rfl, ⟨p16881, n16882, k16883, rfl, h16884⟩⟩ := h16873
                  obtain rfl := h16884.1
                  have hw := hw.addE (e := SlA p16881 _ k16883 x16874.Samples) h16884
                  obtain ⟨rv16886, h16885, h16858⟩ := bind_t h16858
                  rcases Bool.eq_false_or_eq_true c16827 with h16887 | h16887
                  ·have h16888 := ite_t hc16856 h16887
                   obtain ⟨x16891, h16889, h16888⟩ := bind_t h16888
                   obtain ⟨q16895, c16896, h16892, h16893, h16897, h16890⟩ := hw.elemRK (α := Record) 0 rfl 4 rfl h16889
                   obtain ⟨_, _, _, _, _, _, _, _, _, _, _, _, rfl, rfl, rfl, rfl, rfl, rfl, rfl, rfl, rfl, rfl, rfl, rfl, ⟨p16898, n16899, k16900, rfl, h16901⟩⟩ := h16890
                   obtain rfl := h16901.1
                   have hw := hw.addE (e := SlA p16898 _ k16900 x16891.Samples) h16901
                   obtain ⟨x16904, h16902, h16888⟩ := bind_t h16888
                   obtain ⟨q16908, c16909, h16905, h16906, h16910, h16903⟩ := hw.elemRK (α := Record) 0 rfl 5 rfl h16902
                   obtain ⟨_, _, _, _, _, _, _, _, _, _, _, _, rfl, rfl, rfl, rfl, rfl, rfl, rfl, rfl, rfl, rfl, rfl, rfl, ⟨p16911, n16912, k16913, rfl, h16914⟩⟩ := h16903
                   obtain rfl := h16914.1
                   have hw := hw.addE (e := SlA p16911 _ k16913 x16904.Samples) h16914
                   obtain ⟨rv16916, h16915, h16888⟩ := bind_t h16888
                   refine h_b (C := Cls [.row (some ⟨b15082, 0, none⟩) rv40.1.length k42 c44 32 12] []) (by kernel_rfl) rfl (hw.drew.cs [0] [] rfl rfl) fun hC => ?_
                   have hw := hw.drew
                   refine h_g hs 0 rfl (by kernel_rfl) rfl rfl hC rfl (fun w hC => y_move rfl) fun a hs => ?_
                   refine h_g hs 1 rfl (by kernel_rfl) rfl rfl hC rfl (fun w hC => y_lss rfl rfl) fun a hs => ?_
                   refine h_g hs 2 rfl (by kernel_rfl) rfl rfl hC rfl (fun w hC => y_move rfl) fun a hs => ?_
                   have hs := hs.fix 112 (.bool false) rfl (vb h16276)
                   refine h_s hs 3 rfl (by kernel_rfl) rfl rfl rfl (.inl rfl) rfl rfl hC fun a hs => ?_
                   refine h_s hs 4 rfl (by kernel_rfl) rfl rfl rfl (.inl rfl) rfl rfl hC fun a hs => ?_
                   refine h_s hs 5 rfl (by kernel_rfl) rfl rfl rfl (.inl rfl) rfl rfl hC fun a hs => ?_
                   refine h_s hs 6 rfl (by kernel_rfl) rfl rfl rfl (.inl rfl) rfl rfl hC fun a hs => ?_
                   refine h_s hs 7 rfl (by kernel_rfl) rfl rfl rfl (.inl rfl) rfl rfl hC fun a hs => ?_
                   refine h_s hs 8 rfl (by kernel_rfl) rfl rfl rfl (.inl rfl) rfl rfl hC fun a hs => ?_
                   refine h_s hs 9 rfl (by kernel_rfl) rfl rfl rfl (.inl rfl) rfl rfl hC fun a hs => ?_
                   refine h_s hs 10 rfl (by kernel_rfl) rfl rfl rfl (.inl rfl) rfl rfl hC fun a hs => ?_
                   refine h_s hs 11 rfl (by kernel_rfl) rfl rfl rfl (.inl rfl) rfl rfl hC fun a hs => ?_
                   refine h_s hs 12 rfl (by kernel_rfl) rfl rfl rfl (.inl rfl) rfl rfl hC fun a hs => ?_
                   refine h_g hs 13 rfl (by kernel_rfl) rfl rfl hC rfl (fun w hC => y_pickFE (v := .bool c16186) rfl rfl (vbs h16760)) fun a hs => ?_
                   refine h_g hs 14 rfl (by kernel_rfl) rfl rfl hC rfl (fun w hC => y_move rfl) fun a hs => ?_
                   have hs := hs.fix 124 (.bool true) rfl (vb h16761)
                   refine h_t hs 15 rfl (by kernel_rfl) ⟨_, rfl, rfl⟩ rfl rfl hC (fun w hC => y_move rfl) fun a hs => ?_
                   refine h_t hs 16 rfl (by kernel_rfl) ⟨_, rfl, rfl⟩ rfl rfl hC (fun w hC => y_move rfl) fun a hs => ?_
                   refine h_t hs 17 rfl (by kernel_rfl) ⟨_, rfl, rfl⟩ rfl rfl hC (fun w hC => y_indexAt Try.runUnderlying51 Try.sizeOf32 rfl rfl h16766.1 h16766.2 h16767) fun a hs => ?_
                   refine h_t hs 18 rfl (by kernel_rfl) ⟨_, rfl, rfl⟩ rfl rfl hC (fun w hC => y_loadQA (j := 0) (hC.ownAt 0 rfl) rfl Try.isAgg32 Try.sizeOf32 h16771 rfl rfl) fun a hs => ?_
                   refine h_t hs 19 rfl (by kernel_rfl) ⟨_, rfl, rfl⟩ rfl rfl hC (fun w hC => y_move rfl) fun a hs => ?_
                   refine h_t hs 20 rfl (by kernel_rfl) ⟨_, rfl, rfl⟩ rfl rfl hC (fun w hC => y_move rfl) fun a hs => ?_
                   refine h_t hs 21 rfl (by kernel_rfl) ⟨_, rfl, rfl⟩ rfl rfl hC (fun w hC => y_indexAt Try.runUnderlying51 Try.sizeOf32 rfl rfl h16779.1 h16779.2 h16780) fun a hs => ?_
                   refine h_t hs 22 rfl (by kernel_rfl) ⟨_, rfl, rfl⟩ rfl rfl hC (fun w hC => y_loadQA (j := 0) (hC.ownAt 0 rfl) rfl Try.isAgg32 Try.sizeOf32 h16784 rfl rfl) fun a hs => ?_
                   refine h_one (i := 23) (by kernel_rfl) rfl ?_
                   refine st_callR hs (record_Compare_ok h16789 hw.bdom (hw.bE 5 rfl) (hw.bE 4 rfl)) (do_call Try.call23 rfl) ⟨_, rfl, rfl⟩ rfl rfl ?_
                   intro v16920 Sv16917 w a h16918 h16919 hs
                   subst h16919
                   have hw := hw.callB h16918
                   refine h_nx (hw.cs [0] [] rfl rfl) fun hC => ?_
                   refine h_t hs 24 rfl (by kernel_rfl) ⟨_, rfl, rfl⟩ rfl rfl hC (fun w hC => y_geq rfl rfl) fun a hs => ?_
                   refine h_g hs 25 rfl (by kernel_rfl) rfl rfl hC rfl (fun w hC => y_pickTE (v := .bool c16215) rfl rfl (vbs h16762)) fun a hs => ?_
                   refine h_g hs 26 rfl (by kernel_rfl) rfl rfl hC rfl (fun w hC => y_move rfl) fun a hs => ?_
                   have hs := hs.fix 136 (.bool false) rfl (vb h16791)
                   refine h_t hs 27 rfl (by kernel_rfl) ⟨_, rfl, rfl⟩ rfl rfl hC (fun w hC => y_move rfl) fun a hs => ?_
                   refine h_t hs 28 rfl (by kernel_rfl) ⟨_, rfl, rfl⟩ rfl rfl hC (fun w hC => y_move rfl) fun a hs => ?_
                   have hs := hs.fix 138 (.bool true) rfl (vb h16857)
                   refine h_t hs 29 rfl (by kernel_rfl) ⟨_, rfl, rfl⟩ rfl rfl hC (fun w hC => y_move rfl) fun a hs => ?_
                   refine h_t hs 30 rfl (by kernel_rfl) ⟨_, rfl, rfl⟩ rfl rfl hC (fun w hC => y_move rfl) fun a hs => ?_
                   refine h_t hs 31 rfl (by kernel_rfl) ⟨_, rfl, rfl⟩ rfl rfl hC (fun w hC => y_indexAt Try.runUnderlying51 Try.sizeOf32 rfl rfl h16862.1 h16862.2 h16863) fun a hs => ?_
                   refine h_t hs 32 rfl (by kernel_rfl) ⟨_, rfl, rfl⟩ rfl rfl hC (fun w hC => y_loadQA (j := 0) (hC.ownAt 0 rfl) rfl Try.isAgg32 Try.sizeOf32 h16867 rfl rfl) fun a hs => ?_
                   refine h_t hs 33 rfl (by kernel_rfl) ⟨_, rfl, rfl⟩ rfl rfl hC (fun w hC => y_move rfl) fun a hs => ?_
                   refine h_t hs 34 rfl (by kernel_rfl) ⟨_, rfl, rfl⟩ rfl rfl hC (fun w hC => y_move rfl) fun a hs => ?_
                   refine h_t hs 35 rfl (by kernel_rfl) ⟨_, rfl, rfl⟩ rfl rfl hC (fun w hC => y_indexAt Try.runUnderlying51 Try.sizeOf32 rfl rfl h16875.1 h16875.2 h16876) fun a hs => ?_
                   refine h_t hs 36 rfl (by kernel_rfl) ⟨_, rfl, rfl⟩ rfl rfl hC (fun w hC => y_loadQA (j := 0) (hC.ownAt 0 rfl) rfl Try.isAgg32 Try.sizeOf32 h16880 rfl rfl) fun a hs => ?_
                   refine h_one (i := 37) (by kernel_rfl) rfl ?_
                   refine st_callR hs (record_Better_ok h16885 hw.bdom (hw.bE 3 rfl) (hw.bE 2 rfl)) (do_call Try.call24 rfl) ⟨_, rfl, rfl⟩ rfl rfl ?_
                   intro v16925 Sv16922 w a h16923 h16924 hs
                   subst h16924
                   have hw := hw.callB h16923
                   refine h_nx (hw.cs [0] [] rfl rfl) fun hC => ?_
                   refine h_t hs 38 rfl (by kernel_rfl) ⟨_, rfl, rfl⟩ rfl rfl hC (fun w hC => y_pickTE (v := .bool c16827) rfl rfl (vbs h16858)) fun a hs => ?_
                   refine h_t hs 39 rfl (by kernel_rfl) ⟨_, rfl, rfl⟩ rfl rfl hC (fun w hC => y_move rfl) fun a hs => ?_
                   have hs := hs.fix 149 (.bool true) rfl (vb h16887)
                   refine h_t hs 40 rfl (by kernel_rfl) ⟨_, rfl, rfl⟩ rfl rfl hC (fun w hC => y_move rfl) fun a hs => ?_
                   refine h_t hs 41 rfl (by kernel_rfl) ⟨_, rfl, rfl⟩ rfl rfl hC (fun w hC => y_move rfl) fun a hs => ?_
                   refine h_t hs 42 rfl (by kernel_rfl) ⟨_, rfl, rfl⟩ rfl rfl hC (fun w hC => y_indexAt Try.runUnderlying51 Try.sizeOf32 rfl rfl h16892.1 h16892.2 h16893) fun a hs => ?_
                   refine h_t hs 43 rfl (by kernel_rfl) ⟨_, rfl, rfl⟩ rfl rfl hC (fun w hC => y_loadQA (j := 0) (hC.ownAt 0 rfl) rfl Try.isAgg32 Try.sizeOf32 h16897 rfl rfl) fun a hs => ?_
                   refine h_t hs 44 rfl (by kernel_rfl) ⟨_, rfl, rfl⟩ rfl rfl hC (fun w hC => y_move rfl) fun a hs => ?_
                   refine h_t hs 45 rfl (by kernel_rfl) ⟨_, rfl, rfl⟩ rfl rfl hC (fun w hC => y_move rfl) fun a hs => ?_
                   refine h_t hs 46 rfl (by kernel_rfl) ⟨_, rfl, rfl⟩ rfl rfl hC (fun w hC => y_indexAt Try.runUnderlying51 Try.sizeOf32 rfl rfl h16905.1 h16905.2 h16906) fun a hs => ?_
                   refine h_t hs 47 rfl (by kernel_rfl) ⟨_, rfl, rfl⟩ rfl rfl hC (fun w hC => y_loadQA (j := 0) (hC.ownAt 0 rfl) rfl Try.isAgg32 Try.sizeOf32 h16910 rfl rfl) fun a hs => ?_
                   refine h_one (i := 48) (by kernel_rfl) rfl ?_
                   refine st_callR hs (record_Better_ok h16915 hw.bdom (hw.bE 1 rfl) (hw.bE 0 rfl)) (do_call Try.call24 rfl) ⟨_, rfl, rfl⟩ rfl rfl ?_
                   intro v16930 Sv16927 w a h16928 h16929 hs
                   subst h16929
                   have hw := hw.callB h16928
                   refine h_nx (hw.cs [0] [] rfl rfl) fun hC => ?_
                   refine h_t hs 49 rfl (by kernel_rfl) ⟨_, rfl, rfl⟩ rfl rfl hC (fun w hC => y_not rfl) fun a hs => ?_
                   refine h_t hs 50 rfl (by kernel_rfl) ⟨_, rfl, rfl⟩ rfl rfl hC (fun w hC => y_pickTE (v := .bool c16856) rfl rfl (vbs h16888)) fun a hs => ?_
                   refine h_g hs 51 rfl (by kernel_rfl) rfl rfl hC rfl (fun w hC => y_pickFE (v := .bool c16274) rfl rfl (vbs h16798)) fun a hs => ?_
                   refine h_done (by kernel_rfl) ?_
                   exact ⟨Sv15912, (hs.wk rfl), (hw.ft [0] [6] (by decide) rfl rfl)⟩
                  ·have h16932 := ite_f hc16856 h16887
                   refine h_b (C := Cls [.row (some ⟨b15082, 0, none⟩) rv40.1.length k42 c44 32 12] []) (by kernel_rfl) rfl (hw.drew.cs [0] [] rfl rfl) fun hC => ?_
                   have hw := hw.drew
                   refine h_g hs 0 rfl (by kernel_rfl) rfl rfl hC rfl (fun w hC => y_move rfl) fun a hs => ?_
                   refine h_g hs 1 rfl (by kernel_rfl) rfl rfl hC rfl (fun w hC => y_lss rfl rfl) fun a hs => ?_
                   refine h_g hs 2 rfl (by kernel_rfl) rfl rfl hC rfl (fun w hC => y_move rfl) fun a hs => ?_
                   have hs := hs.fix 112 (.bool false) rfl (vb h16276)
                   refine h_s hs 3 rfl (by kernel_rfl) rfl rfl rfl (.inl rfl) rfl rfl hC fun a hs => ?_
                   refine h_s hs 4 rfl (by kernel_rfl) rfl rfl rfl (.inl rfl) rfl rfl hC fun a hs => ?_
                   refine h_s hs 5 rfl (by kernel_rfl) rfl rfl rfl (.inl rfl) rfl rfl hC fun a hs => ?_
                   refine h_s hs 6 rfl (by kernel_rfl) rfl rfl rfl (.inl rfl) rfl rfl hC fun a hs => ?_
                   refine h_s hs 7 rfl (by kernel_rfl) rfl rfl rfl (.inl rfl) rfl rfl hC fun a hs => ?_
                   refine h_s hs 8 rfl (by kernel_rfl) rfl rfl rfl (.inl rfl) rfl rfl hC fun a hs => ?_
                   refine h_s hs 9 rfl (by kernel_rfl) rfl rfl rfl (.inl rfl) rfl rfl hC fun a hs => ?_
                   refine h_s hs 10 rfl (by kernel_rfl) rfl rfl rfl (.inl rfl) rfl rfl hC fun a hs => ?_
                   refine h_s hs 11 rfl (by kernel_rfl) rfl rfl rfl (.inl rfl) rfl rfl hC fun a hs => ?_
                   refine h_s hs 12 rfl (by kernel_rfl) rfl rfl rfl (.inl rfl) rfl rfl hC fun a hs => ?_
                   refine h_g hs 13 rfl (by kernel_rfl) rfl rfl hC rfl (fun w hC => y_pickFE (v := .bool c16186) rfl rfl (vbs h16760)) fun a hs => ?_
                   refine h_g hs 14 rfl (by kernel_rfl) rfl rfl hC rfl (fun w hC => y_move rfl) fun a hs => ?_
                   have hs := hs.fix 124 (.bool true) rfl (vb h16761)
                   refine h_t hs 15 rfl (by kernel_rfl) ⟨_, rfl, rfl⟩ rfl rfl hC (fun w hC => y_move rfl) fun a hs => ?_
                   refine h_t hs 16 rfl (by kernel_rfl) ⟨_, rfl, rfl⟩ rfl rfl hC (fun w hC => y_move rfl) fun a hs => ?_
                   refine h_t hs 17 rfl (by kernel_rfl) ⟨_, rfl, rfl⟩ rfl rfl hC (fun w hC => y_indexAt Try.runUnderlying51 Try.sizeOf32 rfl rfl h16766.1 h16766.2 h16767) fun a hs => ?_
                   refine h_t hs 18 rfl (by kernel_rfl) ⟨_, rfl, rfl⟩ rfl rfl hC (fun w hC => y_loadQA (j := 0) (hC.ownAt 0 rfl) rfl Try.isAgg32 Try.sizeOf32 h16771 rfl rfl) fun a hs => ?_
                   refine h_t hs 19 rfl (by kernel_rfl) ⟨_, rfl, rfl⟩ rfl rfl hC (fun w hC => y_move rfl) fun a hs => ?_
                   refine h_t hs 20 rfl (by kernel_rfl) ⟨_, rfl, rfl⟩ rfl rfl hC (fun w hC => y_move rfl) fun a hs => ?_
                   refine h_t hs 21 rfl (by kernel_rfl) ⟨_, rfl, rfl⟩ rfl rfl hC (fun w hC => y_indexAt Try.runUnderlying51 Try.sizeOf32 rfl rfl h16779.1 h16779.2 h16780) fun a hs => ?_
                   refine h_t hs 22 rfl (by kernel_rfl) ⟨_, rfl, rfl⟩ rfl rfl hC (fun w hC => y_loadQA (j := 0) (hC.ownAt 0 rfl) rfl Try.isAgg32 Try.sizeOf32 h16784 rfl rfl) fun a hs => ?_
                   refine h_one (i := 23) (by kernel_rfl) rfl ?_
                   refine st_callR hs (record_Compare_ok h16789 hw.bdom (hw.bE 3 rfl) (hw.bE 2 rfl)) (do_call Try.call23 rfl) ⟨_, rfl, rfl⟩ rfl rfl ?_
                   intro v16936 Sv16933 w a h16934 h16935 hs
                   subst h16935
                   have hw := hw.callB h16934
                   refine h_nx (hw.cs [0] [] rfl rfl) fun hC => ?_
                   refine h_t hs 24 rfl (by kernel_rfl) ⟨_, rfl, rfl⟩ rfl rfl hC (fun w hC => y_geq rfl rfl) fun a hs => ?_
                   refine h_g hs 25 rfl (by kernel_rfl) rfl rfl hC rfl (fun w hC => y_pickTE (v := .bool c16215) rfl rfl (vbs h16762)) fun a hs => ?_
                   refine h_g hs 26 rfl (by kernel_rfl) rfl rfl hC rfl (fun w hC => y_move rfl) fun a hs => ?_
                   have hs := hs.fix 136 (.bool false) rfl (vb h16791)
                   refine h_t hs 27 rfl (by kernel_rfl) ⟨_, rfl, rfl⟩ rfl rfl hC (fun w hC => y_move rfl) fun a hs => ?_
                   refine h_t hs 28 rfl (by kernel_rfl) ⟨_, rfl, rfl⟩ rfl rfl hC (fun w hC => y_move rfl) fun a hs => ?_
                   have hs := hs.fix 138 (.bool true) rfl (vb h16857)
                   refine h_t hs 29 rfl (by kernel_rfl) ⟨_, rfl, rfl⟩ rfl rfl hC (fun w hC => y_move rfl) fun a hs => ?_
                   refine h_t hs 30 rfl (by kernel_rfl) ⟨_, rfl, rfl⟩ rfl rfl hC (fun w hC => y_move rfl) fun a hs => ?_
                   refine h_t hs 31 rfl (by kernel_rfl) ⟨_, rfl, rfl⟩ rfl rfl hC (fun w hC => y_indexAt Try.runUnderlying51 Try.sizeOf32 rfl rfl h16862.1 h16862.2 h16863) fun a hs => ?_
                   refine h_t hs 32 rfl (by kernel_rfl) ⟨_, rfl, rfl⟩ rfl rfl hC (fun w hC => y_loadQA (j := 0) (hC.ownAt 0 rfl) rfl Try.isAgg32 Try.sizeOf32 h16867 rfl rfl) fun a hs => ?_
                   refine h_t hs 33 rfl (by kernel_rfl) ⟨_, rfl, rfl⟩ rfl rfl hC (fun w hC => y_move rfl) fun a hs => ?_
                   refine h_t hs 34 rfl (by kernel_rfl) ⟨_, rfl, rfl⟩ rfl rfl hC (fun w hC => y_move rfl) fun a hs => ?_
                   refine h_t hs 35 rfl (by kernel_rfl) ⟨_, rfl, rfl⟩ rfl rfl hC (fun w hC => y_indexAt Try.runUnderlying51 Try.sizeOf32 rfl rfl h16875.1 h16875.2 h16876) fun a hs => ?_
                   refine h_t hs 36 rfl (by kernel_rfl) ⟨_, rfl, rfl⟩ rfl rfl hC (fun w hC => y_loadQA (j := 0) (hC.ownAt 0 rfl) rfl Try.isAgg32 Try.sizeOf32 h16880 rfl rfl) fun a hs => ?_
                   refine h_one (i := 37) (by kernel_rfl) rfl ?_
                   refine st_callR hs (record_Better_ok h16885 hw.bdom (hw.bE 1 rfl) (hw.bE 0 rfl)) (do_call Try.call24 rfl) ⟨_, rfl, rfl⟩ rfl rfl ?_
                   intro v16941 Sv16938 w a h16939 h16940 hs
                   subst h16940
                   have hw := hw.callB h16939
                   refine h_nx (hw.cs [0] [] rfl rfl) fun hC => ?_
                   refine h_t hs 38 rfl (by kernel_rfl) ⟨_, rfl, rfl⟩ rfl rfl hC (fun w hC => y_pickTE (v := .bool c16827) rfl rfl (vbs h16858)) fun a hs => ?_
                   refine h_t hs 39 rfl (by kernel_rfl) ⟨_, rfl, rfl⟩ rfl rfl hC (fun w hC => y_move rfl) fun a hs => ?_
                   have hs := hs.fix 149 (.bool false) rfl (vb h16887)
                   refine h_s hs 40 rfl (by kernel_rfl) rfl rfl rfl (.inl rfl) rfl rfl hC fun a hs => ?_
                   refine h_s hs 41 rfl (by kernel_rfl) rfl rfl rfl (.inl rfl) rfl rfl hC fun a hs => ?_
                   refine h_s hs 42 rfl (by kernel_rfl) rfl rfl rfl (.inl rfl) rfl rfl hC fun a hs => ?_
                   refine h_s hs 43 rfl (by kernel_rfl) rfl rfl rfl (.inl rfl) rfl rfl hC fun a hs => ?_
                   refine h_s hs 44 rfl (by kernel_rfl) rfl rfl rfl (.inl rfl) rfl rfl hC fun a hs => ?_
                   refine h_s hs 45 rfl (by kernel_rfl) rfl rfl rfl (.inl rfl) rfl rfl hC fun a hs => ?_
                   refine h_s hs 46 rfl (by kernel_rfl) rfl rfl rfl (.inl rfl) rfl rfl hC fun a hs => ?_
                   refine h_s hs 47 rfl (by kernel_rfl) rfl rfl rfl (.inl rfl) rfl rfl hC fun a hs => ?_
                   refine h_s hs 48 rfl (by kernel_rfl) rfl rfl rfl (.inl rfl) rfl rfl hC fun a hs => ?_
                   refine h_s hs 49 rfl (by kernel_rfl) rfl rfl rfl (.inl rfl) rfl rfl hC fun a hs => ?_
                   refine h_t hs 50 rfl (by kernel_rfl) ⟨_, rfl, rfl⟩ rfl rfl hC (fun w hC => y_pickFE (v := .bool c16856) rfl rfl (vbs h16932)) fun a hs => ?_
                   refine h_g hs 51 rfl (by kernel_rfl) rfl rfl hC rfl (fun w hC => y_pickFE (v := .bool c16274) rfl rfl (vbs h16798)) fun a hs => ?_
                   refine h_done (by kernel_rfl) ?_
                   exact ⟨Sv15912, (hs.wk rfl), (hw.ft [0] [4] (by decide) rfl rfl)⟩
                 ·have h16943 := ite_f hc16827 h16857
                  rcases Bool.eq_false_or_eq_true c16827 with h16944 | h16944
                  ·have h16945 := ite_t hc16856 h16944
                   obtain ⟨x16948, h16946, h16945⟩ := bind_t h16945
                   obtain ⟨q16952, c16953, h16949, h16950, h16954, h16947⟩ := hw.elemRK (α := Record) 0 rfl 2 rfl h16946
                   obtain ⟨_, _, _, _, _, _, _, _, _, _, _, _, rfl, rfl, rfl, rfl, rfl, rfl, rfl, rfl, rfl, rfl, rfl, rfl, ⟨p16955, n16956, k16957, rfl, h16958⟩⟩ := h16947
                   obtain rfl := h16958.1
                   have hw := hw.addE (e := SlA p16955 _ k16957 x16948.Samples) h16958
                   obtain ⟨x16961, h16959, h16945⟩ := bind_t h16945
                   obtain ⟨q16965, c16966, h16962, h16963, h16967, h16960⟩ := hw.elemRK (α := Record) 0 rfl 3 rfl h16959
                   obtain ⟨_, _, _, _, _, _, _, _, _, _, _, _, rfl, rfl, rfl, rfl, rfl, rfl, rfl, rfl, rfl, rfl, rfl, rfl, ⟨p16968, n16969, k16970, rfl, h16971⟩⟩ := h16960
                   obtain rfl := h16971.1
                   have hw := hw.addE (e := SlA p16968 _ k16970 x16961.Samples) h16971
                   obtain ⟨rv16973, h16972, h16945⟩ := bind_t h16945
                   refine h_b (C := Cls [.row (some ⟨b15082, 0, none⟩) rv40.1.length k42 c44 32 12] []) (by kernel_rfl) rfl (hw.drew.cs [0] [] rfl rfl) fun hC => ?_
                   have hw := hw.drew
                   refine h_g hs 0 rfl (by kernel_rfl) rfl rfl hC rfl (fun w hC => y_move rfl) fun a hs => ?_
                   refine h_g hs 1 rfl (by kernel_rfl) rfl rfl hC rfl (fun w hC => y_lss rfl rfl) fun a hs => ?_
                   refine h_g hs 2 rfl (by kernel_rfl) rfl rfl hC rfl (fun w hC => y_move rfl) fun a hs => ?_
                   have hs := hs.fix 112 (.bool false) rfl (vb h16276)
                   refine h_s hs 3 rfl (by kernel_rfl) rfl rfl rfl (.inl rfl) rfl rfl hC fun a hs => ?_
                   refine h_s hs 4 rfl (by kernel_rfl) rfl rfl rfl (.inl rfl) rfl rfl hC fun a hs => ?_
                   refine h_s hs 5 rfl (by kernel_rfl) rfl rfl rfl (.inl rfl) rfl rfl hC fun a hs => ?_
                   refine h_s hs 6 rfl (by kernel_rfl) rfl rfl rfl (.inl rfl) rfl rfl hC fun a hs => ?_
                   refine h_s hs 7 rfl (by kernel_rfl) rfl rfl rfl (.inl rfl) rfl rfl hC fun a hs => ?_
                   refine h_s hs 8 rfl (by kernel_rfl) rfl rfl rfl (.inl rfl) rfl rfl hC fun a hs => ?_
                   refine h_s hs 9 rfl (by kernel_rfl) rfl rfl rfl (.inl rfl) rfl rfl hC fun a hs => ?_
                   refine h_s hs 10 rfl (by kernel_rfl) rfl rfl rfl (.inl rfl) rfl rfl hC fun a hs => ?_
                   refine h_s hs 11 rfl (by kernel_rfl) rfl rfl rfl (.inl rfl) rfl rfl hC fun a hs => ?_
                   refine h_s hs 12 rfl (by kernel_rfl) rfl rfl rfl (.inl rfl) rfl rfl hC fun a hs => ?_
                   refine h_g hs 13 rfl (by kernel_rfl) rfl rfl hC rfl (fun w hC => y_pickFE (v := .bool c16186) rfl rfl (vbs h16760)) fun a hs => ?_
                   refine h_g hs 14 rfl (by kernel_rfl) rfl rfl hC rfl (fun w hC => y_move rfl) fun a hs => ?_
                   have hs := hs.fix 124 (.bool true) rfl (vb h16761)
                   refine h_t hs 15 rfl (by kernel_rfl) ⟨_, rfl, rfl⟩ rfl rfl hC (fun w hC => y_move rfl) fun a hs => ?_
                   refine h_t hs 16 rfl (by kernel_rfl) ⟨_, rfl, rfl⟩ rfl rfl hC (fun w hC => y_move rfl) fun a hs => ?_
                   refine h_t hs 17 rfl (by kernel_rfl) ⟨_, rfl, rfl⟩ rfl rfl hC (fun w hC => y_indexAt Try.runUnderlying51 Try.sizeOf32 rfl rfl h16766.1 h16766.2 h16767) fun a hs => ?_
                   refine h_t hs 18 rfl (by kernel_rfl) ⟨_, rfl, rfl⟩ rfl rfl hC (fun w hC => y_loadQA (j := 0) (hC.ownAt 0 rfl) rfl Try.isAgg32 Try.sizeOf32 h16771 rfl rfl) fun a hs => ?_
                   refine h_t hs 19 rfl (by kernel_rfl) ⟨_, rfl, rfl⟩ rfl rfl hC (fun w hC => y_move rfl) fun a hs => ?_
                   refine h_t hs 20 rfl (by kernel_rfl) ⟨_, rfl, rfl⟩ rfl rfl hC (fun w hC => y_move rfl) fun a hs => ?_
                   refine h_t hs 21 rfl (by kernel_rfl) ⟨_, rfl, rfl⟩ rfl rfl hC (fun w hC => y_indexAt Try.runUnderlying51 Try.sizeOf32 rfl rfl h16779.1 h16779.2 h16780) fun a hs => ?_
                   refine h_t hs 22 rfl (by kernel_rfl) ⟨_, rfl, rfl⟩ rfl rfl hC (fun w hC => y_loadQA (j := 0) (hC.ownAt 0 rfl) rfl Try.isAgg32 Try.sizeOf32 h16784 rfl rfl) fun a hs => ?_
                   refine h_one (i := 23) (by kernel_rfl) rfl ?_
                   refine st_callR hs (record_Compare_ok h16789 hw.bdom (hw.bE 3 rfl) (hw.bE 2 rfl)) (do_call Try.call23 rfl) ⟨_, rfl, rfl⟩ rfl rfl ?_
                   intro v16977 Sv16974 w a h16975 h16976 hs
                   subst h16976
                   have hw := hw.callB h16975
                   refine h_nx (hw.cs [0] [] rfl rfl) fun hC => ?_
                   refine h_t hs 24 rfl (by kernel_rfl) ⟨_, rfl, rfl⟩ rfl rfl hC (fun w hC => y_geq rfl rfl) fun a hs => ?_
                   refine h_g hs 25 rfl (by kernel_rfl) rfl rfl hC rfl (fun w hC => y_pickTE (v := .bool c16215) rfl rfl (vbs h16762)) fun a hs => ?_
                   refine h_g hs 26 rfl (by kernel_rfl) rfl rfl hC rfl (fun w hC => y_move rfl) fun a hs => ?_
                   have hs := hs.fix 136 (.bool false) rfl (vb h16791)
                   refine h_t hs 27 rfl (by kernel_rfl) ⟨_, rfl, rfl⟩ rfl rfl hC (fun w hC => y_move rfl) fun a hs => ?_
                   refine h_t hs 28 rfl (by kernel_rfl) ⟨_, rfl, rfl⟩ rfl rfl hC (fun w hC => y_move rfl) fun a hs => ?_
                   have hs := hs.fix 138 (.bool false) rfl (vb h16857)
                   refine h_s hs 29 rfl (by kernel_rfl) rfl rfl rfl (.inl rfl) rfl rfl hC fun a hs => ?_
                   refine h_s hs 30 rfl (by kernel_rfl) rfl rfl rfl (.inl rfl) rfl rfl hC fun a hs => ?_
                   refine h_s hs 31 rfl (by kernel_rfl) rfl rfl rfl (.inl rfl) rfl rfl hC fun a hs => ?_
                   refine h_s hs 32 rfl (by kernel_rfl) rfl rfl rfl (.inl rfl) rfl rfl hC fun a hs => ?_
                   refine h_s hs 33 rfl (by kernel_rfl) rfl rfl rfl (.inl rfl) rfl rfl hC fun a hs => ?_
                   refine h_s hs 34 rfl (by kernel_rfl) rfl rfl rfl (.inl rfl) rfl rfl hC fun a hs => ?_
                   refine h_s hs 35 rfl (by kernel_rfl) rfl rfl rfl (.inl rfl) rfl rfl hC fun a hs => ?_
                   refine h_s hs 36 rfl (by kernel_rfl) rfl rfl rfl (.inl rfl) rfl rfl hC fun a hs => ?_
                   refine h_s hs 37 rfl (by kernel_rfl) rfl rfl rfl (.inl rfl) rfl rfl hC fun a hs => ?_
                   refine h_t hs 38 rfl (by kernel_rfl) ⟨_, rfl, rfl⟩ rfl rfl hC (fun w hC => y_pickFE (v := .bool c16827) rfl rfl (vbs h16943)) fun a hs => ?_
                   refine h_t hs 39 rfl (by kernel_rfl) ⟨_, rfl, rfl⟩ rfl rfl hC (fun w hC => y_move rfl) fun a hs => ?_
                   have hs := hs.fix 149 (.bool true) rfl (vb h16944)
                   refine h_t hs 40 rfl (by kernel_rfl) ⟨_, rfl, rfl⟩ rfl rfl hC (fun w hC => y_move rfl) fun a hs => ?_
                   refine h_t hs 41 rfl (by kernel_rfl) ⟨_, rfl, rfl⟩ rfl rfl hC (fun w hC => y_move rfl) fun a hs => ?_
                   refine h_t hs 42 rfl (by kernel_rfl) ⟨_, rfl, rfl⟩ rfl rfl hC (fun w hC => y_indexAt Try.runUnderlying51 Try.sizeOf32 rfl rfl h16949.1 h16949.2 h16950) fun a hs => ?_
                   refine h_t hs 43 rfl (by kernel_rfl) ⟨_, rfl, rfl⟩ rfl rfl hC (fun w hC => y_loadQA (j := 0) (hC.ownAt 0 rfl) rfl Try.isAgg32 Try.sizeOf32 h16954 rfl rfl) fun a hs => ?_
                   refine h_t hs 44 rfl (by kernel_rfl) ⟨_, rfl, rfl⟩ rfl rfl hC (fun w hC => y_move rfl) fun a hs => ?_
                   refine h_t hs 45 rfl (by kernel_rfl) ⟨_, rfl, rfl⟩ rfl rfl hC (fun w hC => y_move rfl) fun a hs => ?_
                   refine h_t hs 46 rfl (by kernel_rfl) ⟨_, rfl, rfl⟩ rfl rfl hC (fun w hC => y_indexAt Try.runUnderlying51 Try.sizeOf32 rfl rfl h16962.1 h16962.2 h16963) fun a hs => ?_
                   refine h_t hs 47 rfl (by kernel_rfl) ⟨_, rfl, rfl⟩ rfl rfl hC (fun w hC => y_loadQA (j := 0) (hC.ownAt 0 rfl) rfl Try.isAgg32 Try.sizeOf32 h16967 rfl rfl) fun a hs => ?_
                   refine h_one (i := 48) (by kernel_rfl) rfl ?_
                   refine st_callR hs (record_Better_ok h16972 hw.bdom (hw.bE 1 rfl) (hw.bE 0 rfl)) (do_call Try.call24 rfl) ⟨_, rfl, rfl⟩ rfl rfl ?_
                   intro v16982 Sv16979 w a h16980 h16981 hs
                   subst h16981
                   have hw := hw.callB h16980
                   refine h_nx (hw.cs [0] [] rfl rfl) fun hC => ?_
                   refine h_t hs 49 rfl (by kernel_rfl) ⟨_, rfl, rfl⟩ rfl rfl hC (fun w hC => y_not rfl) fun a hs => ?_
                   refine h_t hs 50 rfl (by kernel_rfl) ⟨_, rfl, rfl⟩ rfl rfl hC (fun w hC => y_pickTE (v := .bool c16856) rfl rfl (vbs h16945)) fun a hs => ?_
                   refine h_g hs 51 rfl (by kernel_rfl) rfl rfl hC rfl (fun w hC => y_pickFE (v := .bool c16274) rfl rfl (vbs h16798)) fun a hs => ?_
                   refine h_done (by kernel_rfl) ?_
                   exact ⟨Sv15912, (hs.wk rfl), (hw.ft [0] [4] (by decide) rfl rfl)⟩
                  ·have h16984 := ite_f hc16856 h16944
                   refine h_b (C := Cls [.row (some ⟨b15082, 0, none⟩) rv40.1.length k42 c44 32 12] []) (by kernel_rfl) rfl (hw.drew.cs [0] [] rfl rfl) fun hC => ?_
                   have hw := hw.drew
                   refine h_g hs 0 rfl (by kernel_rfl) rfl rfl hC rfl (fun w hC => y_move rfl) fun a hs => ?_
                   refine h_g hs 1 rfl (by kernel_rfl) rfl rfl hC rfl (fun w hC => y_lss rfl rfl) fun a hs => ?_
                   refine h_g hs 2 rfl (by kernel_rfl) rfl rfl hC rfl (fun w hC => y_move rfl) fun a hs => ?_
                   have hs := hs.fix 112 (.bool false) rfl (vb h16276)
                   refine h_s hs 3 rfl (by kernel_rfl) rfl rfl rfl (.inl rfl) rfl rfl hC fun a hs => ?_
                   refine h_s hs 4 rfl (by kernel_rfl) rfl rfl rfl (.inl rfl) rfl rfl hC fun a hs => ?_
                   refine h_s hs 5 rfl (by kernel_rfl) rfl rfl rfl (.inl rfl) rfl rfl hC fun a hs => ?_
                   refine h_s hs 6 rfl (by kernel_rfl) rfl rfl rfl (.inl rfl) rfl rfl hC fun a hs => ?_
                   refine h_s hs 7 rfl (by kernel_rfl) rfl rfl rfl (.inl rfl) rfl rfl hC fun a hs => ?_
                   refine h_s hs 8 rfl (by kernel_rfl) rfl rfl rfl (.inl rfl) rfl rfl hC fun a hs => ?_
                   refine h_s hs 9 rfl (by kernel_rfl) rfl rfl rfl (.inl rfl) rfl rfl hC fun a hs => ?_
                   refine h_s hs 10 rfl (by kernel_rfl) rfl rfl rfl (.inl rfl) rfl rfl hC fun a hs => ?_
                   refine h_s hs 11 rfl (by kernel_rfl) rfl rfl rfl (.inl rfl) rfl rfl hC fun a hs => ?_
                   refine h_s hs 12 rfl (by kernel_rfl) rfl rfl rfl (.inl rfl) rfl rfl hC fun a hs => ?_
                   refine h_g hs 13 rfl (by kernel_rfl) rfl rfl hC rfl (fun w hC => y_pickFE (v := .bool c16186) rfl rfl (vbs h16760)) fun a hs => ?_
                   refine h_g hs 14 rfl (by kernel_rfl) rfl rfl hC rfl (fun w hC => y_move rfl) fun a hs => ?_
                   have hs := hs.fix 124 (.bool true) rfl (vb h16761)
                   refine h_t hs 15 rfl (by kernel_rfl) ⟨_, rfl, rfl⟩ rfl rfl hC (fun w hC => y_move rfl) fun a hs => ?_
                   refine h_t hs 16 rfl (by kernel_rfl) ⟨_, rfl, rfl⟩ rfl rfl hC (fun w hC => y_move rfl) fun a hs => ?_
                   refine h_t hs 17 rfl (by kernel_rfl) ⟨_, rfl, rfl⟩ rfl rfl hC (fun w hC => y_indexAt Try.runUnderlying51 Try.sizeOf32 rfl rfl h16766.1 h16766.2 h16767) fun a hs => ?_
                   refine h_t hs 18 rfl (by kernel_rfl) ⟨_, rfl, rfl⟩ rfl rfl hC (fun w hC => y_loadQA (j := 0) (hC.ownAt 0 rfl) rfl Try.isAgg32 Try.sizeOf32 h16771 rfl rfl) fun a hs => ?_
                   refine h_t hs 19 rfl (by kernel_rfl) ⟨_, rfl, rfl⟩ rfl rfl hC (fun w hC => y_move rfl) fun a hs => ?_
                   refine h_t hs 20 rfl (by kernel_rfl) ⟨_, rfl, rfl⟩ rfl rfl hC (fun w hC => y_move rfl) fun a hs => ?_
                   refine h_t hs 21 rfl (by kernel_rfl) ⟨_, rfl, rfl⟩ rfl rfl hC (fun w hC => y_indexAt Try.runUnderlying51 Try.sizeOf32 rfl rfl h16779.1 h16779.2 h16780) fun a hs => ?_
                   refine h_t hs 22 rfl (by kernel_rfl) ⟨_, rfl, rfl⟩ rfl rfl hC (fun w hC => y_loadQA (j := 0) (hC.ownAt 0 rfl) rfl Try.isAgg32 Try.sizeOf32 h16784 rfl rfl) fun a hs => ?_
                   refine h_one (i := 23) (by kernel_rfl) rfl ?_
                   refine st_callR hs (record_Compare_ok h16789 hw.bdom (hw.bE 1 rfl) (hw.bE 0 rfl)) (do_call Try.call23 rfl) ⟨_, rfl, rfl⟩ rfl rfl ?_
                   intro v16988 Sv16985 w a h16986 h16987 hs
                   subst h16987
                   have hw := hw.callB h16986
                   refine h_nx (hw.cs [0] [] rfl rfl) fun hC => ?_
                   refine h_t hs 24 rfl (by kernel_rfl) ⟨_, rfl, rfl⟩ rfl rfl hC (fun w hC => y_geq rfl rfl) fun a hs => ?_
                   refine h_g hs 25 rfl (by kernel_rfl) rfl rfl hC rfl (fun w hC => y_pickTE (v := .bool c16215) rfl rfl (vbs h16762)) fun a hs => ?_
                   refine h_g hs 26 rfl (by kernel_rfl) rfl rfl hC rfl (fun w hC => y_move rfl) fun a hs => ?_
                   have hs := hs.fix 136 (.bool false) rfl (vb h16791)
                   refine h_t hs 27 rfl (by kernel_rfl) ⟨_, rfl, rfl⟩ rfl rfl hC (fun w hC => y_move rfl) fun a hs => ?_
                   refine h_t hs 28 rfl (by kernel_rfl) ⟨_, rfl, rfl⟩ rfl rfl hC (fun w hC => y_move rfl) fun a hs => ?_
                   have hs := hs.fix 138 (.bool false) rfl (vb h16857)
                   refine h_s hs 29 rfl (by kernel_rfl) rfl rfl rfl (.inl rfl) rfl rfl hC fun a hs => ?_
                   refine h_s hs 30 rfl (by kernel_rfl) rfl rfl rfl (.inl rfl) rfl rfl hC fun a hs => ?_
                   refine h_s hs 31 rfl (by kernel_rfl) rfl rfl rfl (.inl rfl) rfl rfl hC fun a hs => ?_
                   refine h_s hs 32 rfl (by kernel_rfl) rfl rfl rfl (.inl rfl) rfl rfl hC fun a hs => ?_
                   refine h_s hs 33 rfl (by kernel_rfl) rfl rfl rfl (.inl rfl) rfl rfl hC fun a hs => ?_
                   refine h_s hs 34 rfl (by kernel_rfl) rfl rfl rfl (.inl rfl) rfl rfl hC fun a hs => ?_
                   refine h_s hs 35 rfl (by kernel_rfl) rfl rfl rfl (.inl rfl) rfl rfl hC fun a hs => ?_
                   refine h_s hs 36 rfl (by kernel_rfl) rfl rfl rfl (.inl rfl) rfl rfl hC fun a hs => ?_
                   refine h_s hs 37 rfl (by kernel_rfl) rfl rfl rfl (.inl rfl) rfl rfl hC fun a hs => ?_
                   refine h_t hs 38 rfl (by kernel_rfl) ⟨_, rfl, rfl⟩ rfl rfl hC (fun w hC => y_pickFE (v := .bool c16827) rfl rfl (vbs h16943)) fun a hs => ?_
                   refine h_t hs 39 rfl (by kernel_rfl) ⟨_, rfl, rfl⟩ rfl rfl hC (fun w hC => y_move rfl) fun a hs => ?_
                   have hs := hs.fix 149 (.bool false) rfl (vb h16944)
                   refine h_s hs 40 rfl (by kernel_rfl) rfl rfl rfl (.inl rfl) rfl rfl hC fun a hs => ?_
                   refine h_s hs 41 rfl (by kernel_rfl) rfl rfl rfl (.inl rfl) rfl rfl hC fun a hs => ?_
                   refine h_s hs 42 rfl (by kernel_rfl) rfl rfl rfl (.inl rfl) rfl rfl hC fun a hs => ?_
                   refine h_s hs 43 rfl (by kernel_rfl) rfl rfl rfl (.inl rfl) rfl rfl hC fun a hs => ?_
                   refine h_s hs 44 rfl (by kernel_rfl) rfl rfl rfl (.inl rfl) rfl rfl hC fun a hs => ?_
                   refine h_s hs 45 rfl (by kernel_rfl) rfl rfl rfl (.inl rfl) rfl rfl hC fun a hs => ?_
                   refine h_s hs 46 rfl (by kernel_rfl) rfl rfl rfl (.inl rfl) rfl rfl hC fun a hs => ?_
                   refine h_s hs 47 rfl (by kernel_rfl) rfl rfl rfl (.inl rfl) rfl rfl hC fun a hs => ?_
                   refine h_s hs 48 rfl (by kernel_rfl) rfl rfl rfl (.inl rfl) rfl rfl hC fun a hs => ?_
                   refine h_s hs 49 rfl (by kernel_rfl) rfl rfl rfl (.inl rfl) rfl rfl hC fun a hs => ?_
                   refine h_t hs 50 rfl (by kernel_rfl) ⟨_, rfl, rfl⟩ rfl rfl hC (fun w hC => y_pickFE (v := .bool c16856) rfl rfl (vbs h16984)) fun a hs => ?_
                   refine h_g hs 51 rfl (by kernel_rfl) rfl rfl hC rfl (fun w hC => y_pickFE (v := .bool c16274) rfl rfl (vbs h16798)) fun a hs => ?_
                   refine h_done (by kernel_rfl) ?_
                   exact ⟨Sv15912, (hs.wk rfl), (hw.ft [0] [2] (by decide) rfl rfl)⟩
               ·have h16990 := ite_f hc16215 h16761
                rcases Bool.eq_false_or_eq_true c16215 with h16991 | h16991
                ·have h16992 := ite_t hc16274 h16991
                 refine h_b (C := Cls [.row (some ⟨b15082, 0, none⟩) rv40.1.length k42 c44 32 12] []) (by kernel_rfl) rfl (hw.drew.cs [0] [] rfl rfl) fun hC => ?_
                 have hw := hw.drew
                 refine h_g hs 0 rfl (by kernel_rfl) rfl rfl hC rfl (fun w hC => y_move rfl) fun a hs => ?_
                 refine h_g hs 1 rfl (by kernel_rfl) rfl rfl hC rfl (fun w hC => y_lss rfl rfl) fun a hs => ?_
                 refine h_g hs 2 rfl (by kernel_rfl) rfl rfl hC rfl (fun w hC => y_move rfl) fun a hs => ?_
                 have hs := hs.fix 112 (.bool false) rfl (vb h16276)
                 refine h_s hs 3 rfl (by kernel_rfl) rfl rfl rfl (.inl rfl) rfl rfl hC fun a hs => ?_
                 refine h_s hs 4 rfl (by kernel_rfl) rfl rfl rfl (.inl rfl) rfl rfl hC fun a hs => ?_
                 refine h_s hs 5 rfl (by kernel_rfl) rfl rfl rfl (.inl rfl) rfl rfl hC fun a hs => ?_
                 refine h_s hs 6 rfl (by kernel_rfl) rfl rfl rfl (.inl rfl) rfl rfl hC fun a hs => ?_
                 refine h_s hs 7 rfl (by kernel_rfl) rfl rfl rfl (.inl rfl) rfl rfl hC fun a hs => ?_
                 refine h_s hs 8 rfl (by kernel_rfl) rfl rfl rfl (.inl rfl) rfl rfl hC fun a hs => ?_
                 refine h_s hs 9 rfl (by kernel_rfl) rfl rfl rfl (.inl rfl) rfl rfl hC fun a hs => ?_
                 refine h_s hs 10 rfl (by kernel_rfl) rfl rfl rfl (.inl rfl) rfl rfl hC fun a hs => ?_
                 refine h_s hs 11 rfl (by kernel_rfl) rfl rfl rfl (.inl rfl) rfl rfl hC fun a hs => ?_
                 refine h_s hs 12 rfl (by kernel_rfl) rfl rfl rfl (.inl rfl) rfl rfl hC fun a hs => ?_
                 refine h_g hs 13 rfl (by kernel_rfl) rfl rfl hC rfl (fun w hC => y_pickFE (v := .bool c16186) rfl rfl (vbs h16760)) fun a hs => ?_
                 refine h_g hs 14 rfl (by kernel_rfl) rfl rfl hC rfl (fun w hC => y_move rfl) fun a hs => ?_
                 have hs := hs.fix 124 (.bool false) rfl (vb h16761)
                 refine h_s hs 15 rfl (by kernel_rfl) rfl rfl rfl (.inl rfl) rfl rfl hC fun a hs => ?_
                 refine h_s hs 16 rfl (by kernel_rfl) rfl rfl rfl (.inl rfl) rfl rfl hC fun a hs => ?_
                 refine h_s hs 17 rfl (by kernel_rfl) rfl rfl rfl (.inl rfl) rfl rfl hC fun a hs => ?_
                 refine h_s hs 18 rfl (by kernel_rfl) rfl rfl rfl (.inl rfl) rfl rfl hC fun a hs => ?_
                 refine h_s hs 19 rfl (by kernel_rfl) rfl rfl rfl (.inl rfl) rfl rfl hC fun a hs => ?_
                 refine h_s hs 20 rfl (by kernel_rfl) rfl rfl rfl (.inl rfl) rfl rfl hC fun a hs => ?_
                 refine h_s hs 21 rfl (by kernel_rfl) rfl rfl rfl (.inl rfl) rfl rfl hC fun a hs => ?_
                 refine h_s hs 22 rfl (by kernel_rfl) rfl rfl rfl (.inl rfl) rfl rfl hC fun a hs => ?_
                 refine h_s hs 23 rfl (by kernel_rfl) rfl rfl rfl (.inl rfl) rfl rfl hC fun a hs => ?_
                 refine h_s hs 24 rfl (by kernel_rfl) rfl rfl rfl (.inl rfl) rfl rfl hC fun a hs => ?_
                 refine h_g hs 25 rfl (by kernel_rfl) rfl rfl hC rfl (fun w hC => y_pickFE (v := .bool c16215) rfl rfl (vbs h16990)) fun a hs => ?_
                 refine h_g hs 26 rfl (by kernel_rfl) rfl rfl hC rfl (fun w hC => y_move rfl) fun a hs => ?_
                 have hs := hs.fix 136 (.bool true) rfl (vb h16991)
                 refine h_s hs 27 rfl (by kernel_rfl) rfl rfl rfl (.inl rfl) rfl rfl hC fun a hs => ?_
                 refine h_s hs 28 rfl (by kernel_rfl) rfl rfl rfl (.inl rfl) rfl rfl hC fun a hs => ?_
                 refine h_s hs 29 rfl (by kernel_rfl) rfl rfl rfl (.inr rfl) rfl rfl hC fun a hs => ?_
                 refine h_s hs 30 rfl (by kernel_rfl) rfl rfl rfl (.inr rfl) rfl rfl hC fun a hs => ?_
                 refine h_s hs 31 rfl (by kernel_rfl) rfl rfl rfl (.inr rfl) rfl rfl hC fun a hs => ?_
                 refine h_s hs 32 rfl (by kernel_rfl) rfl rfl rfl (.inr rfl) rfl rfl hC fun a hs => ?_
                 refine h_s hs 33 rfl (by kernel_rfl) rfl rfl rfl (.inr rfl) rfl rfl hC fun a hs => ?_
                 refine h_s hs 34 rfl (by kernel_rfl) rfl rfl rfl (.inr rfl) rfl rfl hC fun a hs => ?_
                 refine h_s hs 35 rfl (by kernel_rfl) rfl rfl rfl (.inr rfl) rfl rfl hC fun a hs => ?_
                 refine h_s hs 36 rfl (by kernel_rfl) rfl rfl rfl (.inr rfl) rfl rfl hC fun a hs => ?_
                 refine h_s hs 37 rfl (by kernel_rfl) rfl rfl rfl (.inr rfl) rfl rfl hC fun a hs => ?_
                 refine h_s hs 38 rfl (by kernel_rfl) rfl rfl rfl (.inl rfl) rfl rfl hC fun a hs => ?_
                 refine h_s hs 39 rfl (by kernel_rfl) rfl rfl rfl (.inl rfl) rfl rfl hC fun a hs => ?_
                 refine h_s hs 40 rfl (by kernel_rfl) rfl rfl rfl (.inr rfl) rfl rfl hC fun a hs => ?_
                 refine h_s hs 41 rfl (by kernel_rfl) rfl rfl rfl (.inr rfl) rfl rfl hC fun a hs => ?_
                 refine h_s hs 42 rfl (by kernel_rfl) rfl rfl rfl (.inr rfl) rfl rfl hC fun a hs => ?_
                 refine h_s hs 43 rfl (by kernel_rfl) rfl rfl rfl (.inr rfl) rfl rfl hC fun a hs => ?_
                 refine h_s hs 44 rfl (by kernel_rfl) rfl rfl rfl (.inr rfl) rfl rfl hC fun a hs => ?_
                 refine h_s hs 45 rfl (by kernel_rfl) rfl rfl rfl (.inr rfl) rfl rfl hC fun a hs => ?_
                 refine h_s hs 46 rfl (by kernel_rfl) rfl rfl rfl (.inr rfl) rfl rfl hC fun a hs => ?_
                 refine h_s hs 47 rfl (by kernel_rfl) rfl rfl rfl (.inr rfl) rfl rfl hC fun a hs => ?_
                 refine h_s hs 48 rfl (by kernel_rfl) rfl rfl rfl (.inr rfl) rfl rfl hC fun a hs => ?_
                 refine h_s hs 49 rfl (by kernel_rfl) rfl rfl rfl (.inr rfl) rfl rfl hC fun a hs => ?_
                 refine h_s hs 50 rfl (by kernel_rfl) rfl rfl rfl (.inl rfl) rfl rfl hC fun a hs => ?_
                 refine h_g hs 51 rfl (by kernel_rfl) rfl rfl hC rfl (fun w hC => y_pickTE (v := .bool c16274) rfl rfl (vbs h16992)) fun a hs => ?_
                 refine h_done (by kernel_rfl) ?_
                 exact ⟨Sv15912, (hs.wk rfl), (hw.ft [0] [0] (by decide) rfl rfl)⟩
                ·have h16993 := ite_f hc16274 h16991
                 obtain ⟨c17022, hc17022, h16993⟩ := bind_t h16993
                 obtain ⟨c17051, hc17051, h16993⟩ := bind_t h16993
                 rcases Bool.eq_false_or_eq_true rv15246 with h17052 | h17052
                 ·have h17053 := ite_t hc17022 h17052
                  obtain ⟨x17056, h17054, h17053⟩ := bind_t h17053
                  obtain ⟨q17060, c17061, h17057, h17058, h17062, h17055⟩ := hw.elemRK (α := Record) 0 rfl 0 rfl h17054
                  obtain ⟨_, _, _, _, _, _, _, _, _, _, _, _, rfl, rfl, rfl, rfl, rfl, rfl, rfl, rfl, rfl, rfl, rfl, rfl, ⟨p17063, n17064, k17065, rfl, h17066⟩⟩ := h17055
                  obtain rfl := h17066.1
                  have hw := hw.addE (e := SlA p17063 _ k17065 x17056.Samples) h17066
                  obtain ⟨x17069, h17067, h17053⟩ := bind_t h17053
                  obtain ⟨q17073, c17074, h17070, h17071, h17075, h17068⟩ := hw.elemRK (α := Record) 0 rfl 1 rfl h17067
                  obtain ⟨_, _, _, _, _, _, _, _, _, _, _, _, rfl, rfl, rfl, rfl, rfl, rfl, rfl, rfl, rfl, rfl, rfl, rfl, ⟨p17076, n17077, k17078, rfl, h17079⟩⟩ := h17068
                  obtain rfl := h17079.1
                  have hw := hw.addE (e := SlA p17076 _ k17078 x17069.Samples) h17079
                  obtain ⟨rv17081, h17080, h17053⟩ := bind_t h17053
                  rcases Bool.eq_false_or_eq_true c17022 with h17082 | h17082
                  ·have h17083 := ite_t hc17051 h17082
                   obtain ⟨x17086, h17084, h17083⟩ := bind_t h17083
                   obtain ⟨q17090, c17091, h17087, h17088, h17092, h17085⟩ := hw.elemRK (α := Record) 0 rfl 2 rfl h17084
                   obtain ⟨_, _, _, _, _, _, _, _, _, _, _, _, rfl, rfl, rfl, rfl, rfl, rfl, rfl, rfl, rfl, rfl, rfl, rfl, ⟨p17093, n17094, k17095, rfl, h17096⟩⟩ := h17085
                   obtain rfl := h17096.1
                   have hw := hw.addE (e := SlA p17093 _ k17095 x17086.Samples) h17096
                   obtain ⟨x17099, h17097, h17083⟩ := bind_t h17083
                   obtain ⟨q17103, c17104, h17100, h17101, h17105, h17098⟩ := hw.elemRK (α := Record) 0 rfl 3 rfl h17097
                   obtain ⟨_, _, _, _, _, _, _, _, _, _, _, _, rfl, rfl, rfl, rfl, rfl, rfl, rfl, rfl, rfl, rfl, rfl, rfl, ⟨p17106, n17107, k17108, rfl, h17109⟩⟩ := h17098
                   obtain rfl := h17109.1
                   have hw := hw.addE (e := SlA p17106 _ k17108 x17099.Samples) h17109
                   obtain ⟨rv17111, h17110, h17083⟩ := bind_t h17083
                   refine h_b (C := Cls [.row (some ⟨b15082, 0, none⟩) rv40.1.length k42 c44 32 12] []) (by kernel_rfl) rfl (hw.drew.cs [0] [] rfl rfl) fun hC => ?_
                   have hw := hw.drew
                   refine h_g hs 0 rfl (by kernel_rfl) rfl rfl hC rfl (fun w hC => y_move rfl) fun a hs => ?_
                   refine h_g hs 1 rfl (by kernel_rfl) rfl rfl hC rfl (fun w hC => y_lss rfl rfl) fun a hs => ?_
                   refine h_g hs 2 rfl (by kernel_rfl) rfl rfl hC rfl (fun w hC => y_move rfl) fun a hs => ?_
                   have hs := hs.fix 112 (.bool false) rfl (vb h16276)
                   refine h_s hs 3 rfl (by kernel_rfl) rfl rfl rfl (.inl rfl) rfl rfl hC fun a hs => ?_
                   refine h_s hs 4 rfl (by kernel_rfl) rfl rfl rfl (.inl rfl) rfl rfl hC fun a hs => ?_
                   refine h_s hs 5 rfl (by kernel_rfl) rfl rfl rfl (.inl rfl) rfl rfl hC fun a hs => ?_
                   refine h_s hs 6 rfl (by kernel_rfl) rfl rfl rfl (.inl rfl) rfl rfl hC fun a hs => ?_
                   refine h_s hs 7 rfl (by kernel_rfl) rfl rfl rfl (.inl rfl) rfl rfl hC fun a hs => ?_
                   refine h_s hs 8 rfl (by kernel_rfl) rfl rfl rfl (.inl rfl) rfl rfl hC fun a hs => ?_
                   refine h_s hs 9 rfl (by kernel_rfl) rfl rfl rfl (.inl rfl) rfl rfl hC fun a hs => ?_
                   refine h_s hs 10 rfl (by kernel_rfl) rfl rfl rfl (.inl rfl) rfl rfl hC fun a hs => ?_
                   refine h_s hs 11 rfl (by kernel_rfl) rfl rfl rfl (.inl rfl) rfl rfl hC fun a hs => ?_
                   refine h_s hs 12 rfl (by kernel_rfl) rfl rfl rfl (.inl rfl) rfl rfl hC fun a hs => ?_
                   refine h_g hs 13 rfl (by kernel_rfl) rfl rfl hC rfl (fun w hC => y_pickFE (v := .bool c16186) rfl rfl (vbs h16760)) fun a hs => ?_
                   refine h_g hs 14 rfl (by kernel_rfl) rfl rfl hC rfl (fun w hC => y_move rfl) fun a hs => ?_
                   have hs := hs.fix 124 (.bool false) rfl (vb h16761)
                   refine h_s hs 15 rfl (by kernel_rfl) rfl rfl rfl (.inl rfl) rfl rfl hC fun a hs => ?_
                   refine h_s hs 16 rfl (by kernel_rfl) rfl rfl rfl (.inl rfl) rfl rfl hC fun a hs => ?_
                   refine h_s hs 17 rfl (by kernel_rfl) rfl rfl rfl (.inl rfl) rfl rfl hC fun a hs => ?_
                   refine h_s hs 18 rfl (by kernel_rfl) rfl rfl rfl (.inl rfl) rfl rfl hC fun a hs => ?_
                   refine h_s hs 19 rfl (by kernel_rfl) rfl rfl rfl (.inl rfl) rfl rfl hC fun a hs => ?_
                   refine h_s hs 20 rfl (by kernel_rfl) rfl rfl rfl (.inl rfl) rfl rfl hC fun a hs => ?_
                   refine h_s hs 21 rfl (by kernel_rfl) rfl rfl rfl (.inl rfl) rfl rfl hC fun a hs => ?_
                   refine h_s hs 22 rfl (by kernel_rfl) rfl rfl rfl (.inl rfl) rfl rfl hC fun a hs => ?_
                   refine h_s hs 23 rfl (by kernel_rfl) rfl rfl rfl (.inl rfl) rfl rfl hC fun a hs => ?_
                   refine h_s hs 24 rfl (by kernel_rfl) rfl rfl rfl (.inl rfl) rfl rfl hC fun a hs => ?_
                   refine h_g hs 25 rfl (by kernel_rfl) rfl rfl hC rfl (fun w hC => y_pickFE (v := .bool c16215) rfl rfl (vbs h16990)) fun a hs => ?_
                   refine h_g hs 26 rfl (by kernel_rfl) rfl rfl hC rfl (fun w hC => y_move rfl) fun a hs => ?_
                   have hs := hs.fix 136 (.bool false) rfl (vb h16991)
                   refine h_t hs 27 rfl (by kernel_rfl) ⟨_, rfl, rfl⟩ rfl rfl hC (fun w hC => y_move rfl) fun a hs => ?_
                   refine h_t hs 28 rfl (by kernel_rfl) ⟨_, rfl, rfl⟩ rfl rfl hC (fun w hC => y_move rfl) fun a hs => ?_
                   have hs := hs.fix 138 (.bool true) rfl (vb h17052)
                   refine h_t hs 29 rfl (by kernel_rfl) ⟨_, rfl, rfl⟩ rfl rfl hC (fun w hC => y_move rfl) fun a hs => ?_
                   refine h_t hs 30 rfl (by kernel_rfl) ⟨_, rfl, rfl⟩ rfl rfl hC (fun w hC => y_move rfl) fun a hs => ?_
                   refine h_t hs 31 rfl (by kernel_rfl) ⟨_, rfl, rfl⟩ rfl rfl hC (fun w hC => y_indexAt Try.runUnderlying51 Try.sizeOf32 rfl rfl h17057.1 h17057.2 h17058) fun a hs => ?_
                   refine h_t hs 32 rfl (by kernel_rfl) ⟨_, rfl, rfl⟩ rfl rfl hC (fun w hC => y_loadQA (j := 0) (hC.ownAt 0 rfl) rfl Try.isAgg32 Try.sizeOf32 h17062 rfl rfl) fun a hs => ?_
                   refine h_t hs 33 rfl (by kernel_rfl) ⟨_, rfl, rfl⟩ rfl rfl hC (fun w hC => y_move rfl) fun a hs => ?_
                   refine h_t hs 34 rfl (by kernel_rfl) ⟨_, rfl, rfl⟩ rfl rfl hC (fun w hC => y_move rfl) fun a hs => ?_
                   refine h_t hs 35 rfl (by kernel_rfl) ⟨_, rfl, rfl⟩ rfl rfl hC (fun w hC => y_indexAt Try.runUnderlying51 Try.sizeOf32 rfl rfl h17070.1 h17070.2 h17071) fun a hs => ?_
                   refine h_t hs 36 rfl (by kernel_rfl) ⟨_, rfl, rfl⟩ rfl rfl hC (fun w hC => y_loadQA (j := 0) (hC.ownAt 0 rfl) rfl Try.isAgg32 Try.sizeOf32 h17075 rfl rfl) fun a hs => ?_
                   refine h_one (i := 37) (by kernel_rfl) rfl ?_
                   refine st_callR hs (record_Better_ok h17080 hw.bdom (hw.bE 3 rfl) (hw.bE 2 rfl)) (do_call Try.call24 rfl) ⟨_, rfl, rfl⟩ rfl rfl ?_
                   intro v17115 Sv17112 w a h17113 h17114 hs
                   subst h17114
                   have hw := hw.callB h17113
                   refine h_nx (hw.cs [0] [] rfl rfl) fun hC => ?_
                   refine h_t hs 38 rfl (by kernel_rfl) ⟨_, rfl, rfl⟩ rfl rfl hC (fun w hC => y_pickTE (v := .bool c17022) rfl rfl (vbs h17053)) fun a hs => ?_
                   refine h_t hs 39 rfl (by kernel_rfl) ⟨_, rfl, rfl⟩ rfl rfl hC (fun w hC => y_move rfl) fun a hs => ?_
                   have hs := hs.fix 149 (.bool true) rfl (vb h17082)
                   refine h_t hs 40 rfl (by kernel_rfl) ⟨_, rfl, rfl⟩ rfl rfl hC (fun w hC => y_move rfl) fun a hs => ?_
                   refine h_t hs 41 rfl (by kernel_rfl) ⟨_, rfl, rfl⟩ rfl rfl hC (fun w hC => y_move rfl) fun a hs => ?_
                   refine h_t hs 42 rfl (by kernel_rfl) ⟨_, rfl, rfl⟩ rfl rfl hC (fun w hC => y_indexAt Try.runUnderlying51 Try.sizeOf32 rfl rfl h17087.1 h17087.2 h17088) fun a hs => ?_
                   refine h_t hs 43 rfl (by kernel_rfl) ⟨_, rfl, rfl⟩ rfl rfl hC (fun w hC => y_loadQA (j := 0) (hC.ownAt 0 rfl) rfl Try.isAgg32 Try.sizeOf32 h17092 rfl rfl) fun a hs => ?_
                   refine h_t hs 44 rfl (by kernel_rfl) ⟨_, rfl, rfl⟩ rfl rfl hC (fun w hC => y_move rfl) fun a hs => ?_
                   refine h_t hs 45 rfl (by kernel_rfl) ⟨_, rfl, rfl⟩ rfl rfl hC (fun w hC => y_move rfl) fun a hs => ?_
                   refine h_t hs 46 rfl (by kernel_rfl) ⟨_, rfl, rfl⟩ rfl rfl hC (fun w hC => y_indexAt Try.runUnderlying51 Try.sizeOf32 rfl rfl h17100.1 h17100.2 h17101) fun a hs => ?_
                   refine h_t hs 47 rfl (by kernel_rfl) ⟨_, rfl, rfl⟩ rfl rfl hC (fun w hC => y_loadQA (j := 0) (hC.ownAt 0 rfl) rfl Try.isAgg32 Try.sizeOf32 h17105 rfl rfl) fun a hs => ?_
                   refine h_one (i := 48) (by kernel_rfl) rfl ?_
                   refine st_callR hs (record_Better_ok h17110 hw.bdom (hw.bE 1 rfl) (hw.bE 0 rfl)) (do_call Try.call24 rfl) ⟨_, rfl, rfl⟩ rfl rfl ?_
                   intro v17120 Sv17117 w a h17118 h17119 hs
                   subst h17119
                   have hw := hw.callB h17118
                   refine h_nx (hw.cs [0] [] rfl rfl) fun hC => ?_
                   refine h_t hs 49 rfl (by kernel_rfl) ⟨_, rfl, rfl⟩ rfl rfl hC (fun w hC => y_not rfl) fun a hs => ?_
                   refine h_t hs 50 rfl (by kernel_rfl) ⟨_, rfl, rfl⟩ rfl rfl hC (fun w hC => y_pickTE (v := .bool c17051) rfl rfl (vbs h17083)) fun a hs => ?_
                   refine h_g hs 51 rfl (by kernel_rfl) rfl rfl hC rfl (fun w hC => y_pickFE (v := .bool c16274) rfl rfl (vbs h16993)) fun a hs => ?_
                   refine h_done (by kernel_rfl) ?_
                   exact ⟨Sv15912, (hs.wk rfl), (hw.ft [0] [4] (by decide) rfl rfl)⟩
                  ·have h17122 := ite_f hc17051 h17082
                   refine h_b (C := Cls [.row (some ⟨b15082, 0, none⟩) rv40.1.length k42 c44 32 12] []) (by kernel_rfl) rfl (hw.drew.cs [0] [] rfl rfl) fun hC => ?_
                   have hw := hw.drew
                   refine h_g hs 0 rfl (by kernel_rfl) rfl rfl hC rfl (fun w hC => y_move rfl) fun a hs => ?_
                   refine h_g hs 1 rfl (by kernel_rfl) rfl rfl hC rfl (fun w hC => y_lss rfl rfl) fun a hs => ?_
                   refine h_g hs 2 rfl (by kernel_rfl) rfl rfl hC rfl (fun w hC => y_move rfl) fun a hs => ?_
                   have hs := hs.fix 112 (.bool false) rfl (vb h16276)
                   refine h_s hs 3 rfl (by kernel_rfl) rfl rfl rfl (.inl rfl) rfl rfl hC fun a hs => ?_
                   refine h_s hs 4 rfl (by kernel_rfl) rfl rfl rfl (.inl rfl) rfl rfl hC fun a hs => ?_
                   refine h_s hs 5 rfl (by kernel_rfl) rfl rfl rfl (.inl rfl) rfl rfl hC fun a hs => ?_
                   refine h_s hs 6 rfl (by kernel_rfl) rfl rfl rfl (.inl rfl) rfl rfl hC fun a hs => ?_
                   refine h_s hs 7 rfl (by kernel_rfl) rfl rfl rfl (.inl rfl) rfl rfl hC fun a hs => ?_
                   refine h_s hs 8 rfl (by kernel_rfl) rfl rfl rfl (.inl rfl) rfl rfl hC fun a hs => ?_
                   refine h_s hs 9 rfl (by kernel_rfl) rfl rfl rfl (.inl rfl) rfl rfl hC fun a hs => ?_
                   refine h_s hs 10 rfl (by kernel_rfl) rfl rfl rfl (.inl rfl) rfl rfl hC fun a hs => ?_
                   refine h_s hs 11 rfl (by kernel_rfl) rfl rfl rfl (.inl rfl) rfl rfl hC fun a hs => ?_
                   refine h_s hs 12 rfl (by kernel_rfl) rfl rfl rfl (.inl rfl) rfl rfl hC fun a hs => ?_
                   refine h_g hs 13 rfl (by kernel_rfl) rfl rfl hC rfl (fun w hC => y_pickFE (v := .bool c16186) rfl rfl (vbs h16760)) fun a hs => ?_
                   refine h_g hs 14 rfl (by kernel_rfl) rfl rfl hC rfl (fun w hC => y_move rfl) fun a hs => ?_
                   have hs := hs.fix 124 (.bool false) rfl (vb h16761)
                   refine h_s hs 15 rfl (by kernel_rfl) rfl rfl rfl (.inl rfl) rfl rfl hC fun a hs => ?_
                   refine h_s hs 16 rfl (by kernel_rfl) rfl rfl rfl (.inl rfl) rfl rfl hC fun a hs => ?_
                   refine h_s hs 17 rfl (by kernel_rfl) rfl rfl rfl (.inl rfl) rfl rfl hC fun a hs => ?_
                   refine h_s hs 18 rfl (by kernel_rfl) rfl rfl rfl (.inl rfl) rfl rfl hC fun a hs => ?_
                   refine h_s hs 19 rfl (by kernel_rfl) rfl rfl rfl (.inl rfl) rfl rfl hC fun a hs => ?_
                   refine h_s hs 20 rfl (by kernel_rfl) rfl rfl rfl (.inl rfl) rfl rfl hC fun a hs => ?_
                   refine h_s hs 21 rfl (by kernel_rfl) rfl rfl rfl (.inl rfl) rfl rfl hC fun a hs => ?_
                   refine h_s hs 22 rfl (by kernel_rfl) rfl rfl rfl (.inl rfl) rfl rfl hC fun a hs => ?_
                   refine h_s hs 23 rfl (by kernel_rfl) rfl rfl rfl (.inl rfl) rfl rfl hC fun a hs => ?_
                   refine h_s hs 24 rfl (by kernel_rfl) rfl rfl rfl (.inl rfl) rfl rfl hC fun a hs => ?_
                   refine h_g hs 25 rfl (by kernel_rfl) rfl rfl hC rfl (fun w hC => y_pickFE (v := .bool c16215) rfl rfl (vbs h16990)) fun a hs => ?_
                   refine h_g hs 26 rfl (by kernel_rfl) rfl rfl hC rfl (fun w hC => y_move rfl) fun a hs => ?_
                   have hs := hs.fix 136 (.bool false) rfl (vb h16991)
                   refine h_t hs 27 rfl (by kernel_rfl) ⟨_, rfl, rfl⟩ rfl rfl hC (fun w hC => y_move rfl) fun a hs => ?_
                   refine h_t hs 28 rfl (by kernel_rfl) ⟨_, rfl, rfl⟩ rfl rfl hC (fun w hC => y_move rfl) fun a hs => ?_
                   have hs := hs.fix 138 (.bool true) rfl (vb h17052)
                   refine h_t hs 29 rfl (by kernel_rfl) ⟨_, rfl, rfl⟩ rfl rfl hC (fun w hC => y_move rfl) fun a hs => ?_
                   refine h_t hs 30 rfl (by kernel_rfl) ⟨_, rfl, rfl⟩ rfl rfl hC (fun w hC => y_move rfl) fun a hs => ?_
                   refine h_t hs 31 rfl (by kernel_rfl) ⟨_, rfl, rfl⟩ rfl rfl hC (fun w hC => y_indexAt Try.runUnderlying51 Try.sizeOf32 rfl rfl h17057.1 h17057.2 h17058) fun a hs => ?_
                   refine h_t hs 32 rfl (by kernel_rfl) ⟨_, rfl, rfl⟩ rfl rfl hC (fun w hC => y_loadQA (j := 0) (hC.ownAt 0 rfl) rfl Try.isAgg32 Try.sizeOf32 h17062 rfl rfl) fun a hs => ?_
                   refine h_t hs 33 rfl (by kernel_rfl) ⟨_, rfl, rfl⟩ rfl rfl hC (fun w hC => y_move rfl) fun a hs => ?_
                   refine h_t hs 34 rfl (by kernel_rfl) ⟨_, rfl, rfl⟩ rfl rfl hC (fun w hC => y_move rfl) fun a hs => ?_
                   refine h_t hs 35 rfl (by kernel_rfl) ⟨_, rfl, rfl⟩ rfl rfl hC (fun w hC => y_indexAt Try.runUnderlying51 Try.sizeOf32 rfl rfl h17070.1 h17070.2 h17071) fun a hs => ?_
                   refine h_t hs 36 rfl (by kernel_rfl) ⟨_, rfl, rfl⟩ rfl rfl hC (fun w hC => y_loadQA (j := 0) (hC.ownAt 0 rfl) rfl Try.isAgg32 Try.sizeOf32 h17075 rfl rfl) fun a hs => ?_
                   refine h_one (i := 37) (by kernel_rfl) rfl ?_
                   refine st_callR hs (record_Better_ok h17080 hw.bdom (hw.bE 1 rfl) (hw.bE 0 rfl)) (do_call Try.call24 rfl) ⟨_, rfl, rfl⟩ rfl rfl ?_
                   intro v17126 Sv17123 w a h17124 h17125 hs
                   subst h17125
                   have hw := hw.callB h17124
                   refine h_nx (hw.cs [0] [] rfl rfl) fun hC => ?_
                   refine h_t hs 38 rfl (by kernel_rfl) ⟨_, rfl, rfl⟩ rfl rfl hC (fun w hC => y_pickTE (v := .bool c17022) rfl rfl (vbs h17053)) fun a hs => ?_
                   refine h_t hs 39 rfl (by kernel_rfl) ⟨_, rfl, rfl⟩ rfl rfl hC (fun w hC => y_move rfl) fun a hs => ?_
                   have hs := hs.fix 149 (.bool false) rfl (vb h17082)
                   refine h_s hs 40 rfl (by kernel_rfl) rfl rfl rfl (.inl rfl) rfl rfl hC fun a hs => ?_
                   refine h_s hs 41 rfl (by kernel_rfl) rfl rfl rfl (.inl rfl) rfl rfl hC fun a hs => ?_
                   refine h_s hs 42 rfl (by kernel_rfl) rfl rfl rfl (.inl rfl) rfl rfl hC fun a hs => ?_
                   refine h_s hs 43 rfl (by kernel_rfl) rfl rfl rfl (.inl rfl) rfl rfl hC fun a hs => ?_
                   refine h_s hs 44 rfl (by kernel_rfl) rfl rfl rfl (.inl rfl) rfl rfl hC fun a hs => ?_
                   refine h_s hs 45 rfl (by kernel_rfl) rfl rfl rfl (.inl rfl) rfl rfl hC fun a hs => ?_
                   refine h_s hs 46 rfl (by kernel_rfl) rfl rfl rfl (.inl rfl) rfl rfl hC fun a hs => ?_
                   refine h_s hs 47 rfl (by kernel_rfl) rfl rfl rfl (.inl rfl) rfl rfl hC fun a hs => ?_
                   refine h_s hs 48 rfl (by kernel_rfl) rfl rfl rfl (.inl rfl) rfl rfl hC fun a hs => ?_
                   refine h_s hs 49 rfl (by kernel_rfl) rfl rfl rfl (.inl rfl) rfl rfl hC fun a hs => ?_
                   refine h_t hs 50 rfl (by kernel_rfl) ⟨_, rfl, rfl⟩ rfl rfl hC (fun w hC => y_pickFE (v := .bool c17051) rfl rfl (vbs h17122)) fun a hs => ?_
                   refine h_g hs 51 rfl (by kernel_rfl) rfl rfl hC rfl (fun w hC => y_pickFE (v := .bool c16274) rfl rfl (vbs h16993)) fun a hs => ?_
                   refine h_done (by kernel_rfl) ?_
                   exact ⟨Sv15912, (hs.wk rfl), (hw.ft [0] [2] (by decide) rfl rfl)⟩
                 ·have h17128 := ite_f hc17022 h17052
                  rcases Bool.eq_false_or_eq_true c17022 with h17129 | h17129
                  ·have h17130 := ite_t hc17051 h17129
                   obtain ⟨x17133, h17131, h17130⟩ := bind_t h17130
                   obtain ⟨q17137, c17138, h17134, h17135, h17139, h17132⟩ := hw.elemRK (α := Record) 0 rfl 0 rfl h17131
                   obtain ⟨_, _, _, _, _, _, _, _, _, _, _, _, rfl, rfl, rfl, rfl, rfl, rfl, rfl, rfl, rfl, rfl, rfl, rfl, ⟨p17140, n17141, k17142, rfl, h17143⟩⟩ := h17132
                   obtain rfl := h17143.1
                   have hw := hw.addE (e := SlA p17140 _ k17142 x17133.Samples) h17143
                   obtain ⟨x17146, h17144, h17130⟩ := bind_t h17130
                   obtain ⟨q17150, c17151, h17147, h17148, h17152, h17145⟩ := hw.elemRK (α := Record) 0 rfl 1 rfl h17144
                   obtain ⟨_, _, _, _, _, _, _, _, _, _, _, _, rfl, rfl, rfl, rfl, rfl, rfl, rfl, rfl, rfl, rfl, rfl, rfl, ⟨p17153, n17154, k17155, rfl, h17156⟩⟩ := h17145
                   obtain rfl := h17156.1
                   have hw := hw.addE (e := SlA p17153 _ k17155 x17146.Samples) h17156
                   obtain ⟨rv17158, h17157, h17130⟩ := bind_t h17130
                   refine h_b (C := Cls [.row (some ⟨b15082, 0, none⟩) rv40.1.length k42 c44 32 12] []) (by kernel_rfl) rfl (hw.drew.cs [0] [] rfl rfl) fun hC => ?_
                   have hw := hw.drew
                   refine h_g hs 0 rfl (by kernel_rfl) rfl rfl hC rfl (fun w hC => y_move rfl) fun a hs => ?_
                   refine h_g hs 1 rfl (by kernel_rfl) rfl rfl hC rfl (fun w hC => y_lss rfl rfl) fun a hs => ?_
                   refine h_g hs 2 rfl (by kernel_rfl) rfl rfl hC rfl (fun w hC => y_move rfl) fun a hs => ?_
                   have hs := hs.fix 112 (.bool false) rfl (vb h16276)
                   refine h_s hs 3 rfl (by kernel_rfl) rfl rfl rfl (.inl rfl) rfl rfl hC fun a hs => ?_
                   refine h_s hs 4 rfl (by kernel_rfl) rfl rfl rfl (.inl rfl) rfl rfl hC fun a hs => ?_
                   refine h_s hs 5 rfl (by kernel_rfl) rfl rfl rfl (.inl rfl) rfl rfl hC fun a hs => ?_
                   refine h_s hs 6 rfl (by kernel_rfl) rfl rfl rfl (.inl rfl) rfl rfl hC fun a hs => ?_
                   refine h_s hs 7 rfl (by kernel_rfl) rfl rfl rfl (.inl rfl) rfl rfl hC fun a hs => ?_
                   refine h_s hs 8 rfl (by kernel_rfl) rfl rfl rfl (.inl rfl) rfl rfl hC fun a hs => ?_
                   refine h_s hs 9 rfl (by kernel_rfl) rfl rfl rfl (.inl rfl) rfl rfl hC fun a hs => ?_
                   refine h_s hs 10 rfl (by kernel_rfl) rfl rfl rfl (.inl rfl) rfl rfl hC fun a hs => ?_
                   refine h_s hs 11 rfl (by kernel_rfl) rfl rfl rfl (.inl rfl) rfl rfl hC fun a hs => ?_
                   refine h_s hs 12 rfl (by kernel_rfl) rfl rfl rfl (.inl rfl) rfl rfl hC fun a hs => ?_
                   refine h_g hs 13 rfl (by kernel_rfl) rfl rfl hC rfl (fun w hC => y_pickFE (v := .bool c16186) rfl rfl (vbs h16760)) fun a hs => ?_
                   refine h_g hs 14 rfl (by kernel_rfl) rfl rfl hC rfl (fun w hC => y_move rfl) fun a hs => ?_
                   have hs := hs.fix 124 (.bool false) rfl (vb h16761)
                   refine h_s hs 15 rfl (by kernel_rfl) rfl rfl rfl (.inl rfl) rfl rfl hC fun a hs => ?_
                   refine h_s hs 16 rfl (by kernel_rfl) rfl rfl rfl (.inl rfl) rfl rfl hC fun a hs => ?_
                   refine h_s hs 17 rfl (by kernel_rfl) rfl rfl rfl (.inl rfl) rfl rfl hC fun a hs => ?_
                   refine h_s hs 18 rfl (by kernel_rfl) rfl rfl rfl (.inl rfl) rfl rfl hC fun a hs => ?_
                   refine h_s hs 19 rfl (by kernel_rfl) rfl rfl rfl (.inl rfl) rfl rfl hC fun a hs => ?_
                   refine h_s hs 20 rfl (by kernel_rfl) rfl rfl rfl (.inl rfl) rfl rfl hC fun a hs => ?_
                   refine h_s hs 21 rfl (by kernel_rfl) rfl rfl rfl (.inl rfl) rfl rfl hC fun a hs => ?_
                   refine h_s hs 22 rfl (by kernel_rfl) rfl rfl rfl (.inl rfl) rfl rfl hC fun a hs => ?_
                   refine h_s hs 23 rfl (by kernel_rfl) rfl rfl rfl (.inl rfl) rfl rfl hC fun a hs => ?_
                   refine h_s hs 24 rfl (by kernel_rfl) rfl rfl rfl (.inl rfl) rfl rfl hC fun a hs => ?_
                   refine h_g hs 25 rfl (by kernel_rfl) rfl rfl hC rfl (fun w hC => y_pickFE (v := .bool c16215) rfl rfl (vbs h16990)) fun a hs => ?_
                   refine h_g hs 26 rfl (by kernel_rfl) rfl rfl hC rfl (fun w hC => y_move rfl) fun a hs => ?_
                   have hs := hs.fix 136 (.bool false) rfl (vb h16991)
                   refine h_t hs 27 rfl (by kernel_rfl) ⟨_, rfl, rfl⟩ rfl rfl hC (fun w hC => y_move rfl) fun a hs => ?_
                   refine h_t hs 28 rfl (by kernel_rfl) ⟨_, rfl, rfl⟩ rfl rfl hC (fun w hC => y_move rfl) fun a hs => ?_
                   have hs := hs.fix 138 (.bool false) rfl (vb h17052)
                   refine h_s hs 29 rfl (by kernel_rfl) rfl rfl rfl (.inl rfl) rfl rfl hC fun a hs => ?_
                   refine h_s hs 30 rfl (by kernel_rfl) rfl rfl rfl (.inl rfl) rfl rfl hC fun a hs => ?_
                   refine h_s hs 31 rfl (by kernel_rfl) rfl rfl rfl (.inl rfl) rfl rfl hC fun a hs => ?_
                   refine h_s hs 32 rfl (by kernel_rfl) rfl rfl rfl (.inl rfl) rfl rfl hC fun a hs => ?_
                   refine h_s hs 33 rfl (by kernel_rfl) rfl rfl rfl (.inl rfl) rfl rfl hC fun a hs => ?_
                   refine h_s hs 34 rfl (by kernel_rfl) rfl rfl rfl (.inl rfl) rfl rfl hC fun a hs => ?_
                   refine h_s hs 35 rfl (by kernel_rfl) rfl rfl rfl (.inl rfl) rfl rfl hC fun a hs => ?_
                   refine h_s hs 36 rfl (by kernel_rfl) rfl rfl rfl (.inl rfl) rfl rfl hC fun a hs => ?_
                   refine h_s hs 37 rfl (by kernel_rfl) rfl rfl rfl (.inl rfl) rfl rfl hC fun a hs => ?_
                   refine h_t hs 38 rfl (by kernel_rfl) ⟨_, rfl, rfl⟩ rfl rfl hC (fun w hC => y_pickFE (v := .bool c17022) rfl rfl (vbs h17128)) fun a hs => ?_
                   refine h_t hs 39 rfl (by kernel_rfl) ⟨_, rfl, rfl⟩ rfl rfl hC (fun w hC => y_move rfl) fun a hs => ?_
                   have hs := hs.fix 149 (.bool true) rfl (vb h17129)
                   refine h_t hs 40 rfl (by kernel_rfl) ⟨_, rfl, rfl⟩ rfl rfl hC (fun w hC => y_move rfl) fun a hs => ?_
                   refine h_t hs 41 rfl (by kernel_rfl) ⟨_, rfl, rfl⟩ rfl rfl hC (fun w hC => y_move rfl) fun a hs => ?_
                   refine h_t hs 42 rfl (by kernel_rfl) ⟨_, rfl, rfl⟩ rfl rfl hC (fun w hC => y_indexAt Try.runUnderlying51 Try.sizeOf32 rfl rfl h17134.1 h17134.2 h17135) fun a hs => ?_
                   refine h_t hs 43 rfl (by kernel_rfl) ⟨_, rfl, rfl⟩ rfl rfl hC (fun w hC => y_loadQA (j := 0) (hC.ownAt 0 rfl) rfl Try.isAgg32 Try.sizeOf32 h17139 rfl rfl) fun a hs => ?_
                   refine h_t hs 44 rfl (by kernel_rfl) ⟨_, rfl, rfl⟩ rfl rfl hC (fun w hC => y_move rfl) fun a hs => ?_
                   refine h_t hs 45 rfl (by kernel_rfl) ⟨_, rfl, rfl⟩ rfl rfl hC (fun w hC => y_move rfl) fun a hs => ?_
                   refine h_t hs 46 rfl (by kernel_rfl) ⟨_, rfl, rfl⟩ rfl rfl hC (fun w hC => y_indexAt Try.runUnderlying51 Try.sizeOf32 rfl rfl h17147.1 h17147.2 h17148) fun a hs => ?_
                   refine h_t hs 47 rfl (by kernel_rfl) ⟨_, rfl, rfl⟩ rfl rfl hC (fun w hC => y_loadQA (j := 0) (hC.ownAt 0 rfl) rfl Try.isAgg32 Try.sizeOf32 h17152 rfl rfl) fun a hs => ?_
                   refine h_one (i := 48) (by kernel_rfl) rfl ?_
                   refine st_callR hs (record_Better_ok h17157 hw.bdom (hw.bE 1 rfl) (hw.bE 0 rfl)) (do_call Try.call24 rfl) ⟨_, rfl, rfl⟩ rfl rfl ?_
                   intro v17162 Sv17159 w a h17160 h17161 hs
                   subst h17161
                   have hw := hw.callB h17160
                   refine h_nx (hw.cs [0] [] rfl rfl) fun hC => ?_
                   refine h_t hs 49 rfl (by kernel_rfl) ⟨_, rfl, rfl⟩ rfl rfl hC (fun w hC => y_not rfl) fun a hs => ?_
                   refine h_t hs 50 rfl (by kernel_rfl) ⟨_, rfl, rfl⟩ rfl rfl hC (fun w hC => y_pickTE (v := .bool c17051) rfl rfl (vbs h17130)) fun a hs => ?_
                   refine h_g hs 51 rfl (by kernel_rfl) rfl rfl hC rfl (fun w hC => y_pickFE (v := .bool c16274) rfl rfl (vbs h16993)) fun a hs => ?_
                   refine h_done (by kernel_rfl) ?_
                   exact ⟨Sv15912, (hs.wk rfl), (hw.ft [0] [2] (by decide) rfl rfl)⟩
                  ·have h17164 := ite_f hc17051 h17129
                   refine h_b (C := Cls [.row (some ⟨b15082, 0, none⟩) rv40.1.length k42 c44 32 12] []) (by kernel_rfl) rfl (hw.drew.cs [0] [] rfl rfl) fun hC => ?_
                   have hw := hw.drew
                   refine h_g hs 0 rfl (by kernel_rfl) rfl rfl hC rfl (fun w hC => y_move rfl) fun a hs => ?_
                   refine h_g hs 1 rfl (by kernel_rfl) rfl rfl hC rfl (fun w hC => y_lss rfl rfl) fun a hs => ?_
                   refine h_g hs 2 rfl (by kernel_rfl) rfl rfl hC rfl (fun w hC => y_move rfl) fun a hs => ?_
                   have hs := hs.fix 112 (.bool false) rfl (vb h16276)
                   refine h_s hs 3 rfl (by kernel_rfl) rfl rfl rfl (.inl rfl) rfl rfl hC fun a hs => ?_
                   refine h_s hs 4 rfl (by kernel_rfl) rfl rfl rfl (.inl rfl) rfl rfl hC fun a hs => ?_
                   refine h_s hs 5 rfl (by kernel_rfl) rfl rfl rfl (.inl rfl) rfl rfl hC fun a hs => ?_
                   refine h_s hs 6 rfl (by kernel_rfl) rfl rfl rfl (.inl rfl) rfl rfl hC fun a hs => ?_
                   refine h_s hs 7 rfl (by kernel_rfl) rfl rfl rfl (.inl rfl) rfl rfl hC fun a hs => ?_
                   refine h_s hs 8 rfl (by kernel_rfl) rfl rfl rfl (.inl rfl) rfl rfl hC fun a hs => ?_
                   refine h_s hs 9 rfl (by kernel_rfl) rfl rfl rfl (.inl rfl) rfl rfl hC fun a hs => ?_
                   refine h_s hs 10 rfl (by kernel_rfl) rfl rfl rfl (.inl rfl) rfl rfl hC fun a hs => ?_
                   refine h_s hs 11 rfl (by kernel_rfl) rfl rfl rfl (.inl rfl) rfl rfl hC fun a hs => ?_
                   refine h_s hs 12 rfl (by kernel_rfl) rfl rfl rfl (.inl rfl) rfl rfl hC fun a hs => ?_
                   refine h_g hs 13 rfl (by kernel_rfl) rfl rfl hC rfl (fun w hC => y_pickFE (v := .bool c16186) rfl rfl (vbs h16760)) fun a hs => ?_
                   refine h_g hs 14 rfl (by kernel_rfl) rfl rfl hC rfl (fun w hC => y_move rfl) fun a hs => ?_
                   have hs := hs.fix 124 (.bool false) rfl (vb h16761)
                   refine h_s hs 15 rfl (by kernel_rfl) rfl rfl rfl (.inl rfl) rfl rfl hC fun a hs => ?_
                   refine h_s hs 16 rfl (by kernel_rfl) rfl rfl rfl (.inl rfl) rfl rfl hC fun a hs => ?_
                   refine h_s hs 17 rfl (by kernel_rfl) rfl rfl rfl (.inl rfl) rfl rfl hC fun a hs => ?_
                   refine h_s hs 18 rfl (by kernel_rfl) rfl rfl rfl (.inl rfl) rfl rfl hC fun a hs => ?_
                   refine h_s hs 19 rfl (by kernel_rfl) rfl rfl rfl (.inl rfl) rfl rfl hC fun a hs => ?_
                   refine h_s hs 20 rfl (by kernel_rfl) rfl rfl rfl (.inl rfl) rfl rfl hC fun a hs => ?_
                   refine h_s hs 21 rfl (by kernel_rfl) rfl rfl rfl (.inl rfl) rfl rfl hC fun a hs => ?_
                   refine h_s hs 22 rfl (by kernel_rfl) rfl rfl rfl (.inl rfl) rfl rfl hC fun a hs => ?_
                   refine h_s hs 23 rfl (by kernel_rfl) rfl rfl rfl (.inl rfl) rfl rfl hC fun a hs => ?_
                   refine h_s hs 24 rfl (by kernel_rfl) rfl rfl rfl (.inl rfl) rfl rfl hC fun a hs => ?_
                   refine h_g hs 25 rfl (by kernel_rfl) rfl rfl hC rfl (fun w hC => y_pickFE (v := .bool c16215) rfl rfl (vbs h16990)) fun a hs => ?_
                   refine h_g hs 26 rfl (by kernel_rfl) rfl rfl hC rfl (fun w hC => y_move rfl) fun a hs => ?_
                   have hs := hs.fix 136 (.bool false) rfl (vb h16991)
                   refine h_t hs 27 rfl (by kernel_rfl) ⟨_, rfl, rfl⟩ rfl rfl hC (fun w hC => y_move rfl) fun a hs => ?_
                   refine h_t hs 28 rfl (by kernel_rfl) ⟨_, rfl, rfl⟩ rfl rfl hC (fun w hC => y_move rfl) fun a hs => ?_
                   have hs := hs.fix 138 (.bool false) rfl (vb h17052)
                   refine h_s hs 29 rfl (by kernel_rfl) rfl rfl rfl (.inl rfl) rfl rfl hC fun a hs => ?_
                   refine h_s hs 30 rfl (by kernel_rfl) rfl rfl rfl (.inl rfl) rfl rfl hC fun a hs => ?_
                   refine h_s hs 31 rfl (by kernel_rfl) rfl rfl rfl (.inl rfl) rfl rfl hC fun a hs => ?_
                   refine h_s hs 32 rfl (by kernel_rfl) rfl rfl rfl (.inl rfl) rfl rfl hC fun a hs => ?_
                   refine h_s hs 33 rfl (by kernel_rfl) rfl rfl rfl (.inl rfl) rfl rfl hC fun a hs => ?_
                   refine h_s hs 34 rfl (by kernel_rfl) rfl rfl rfl (.inl rfl) rfl rfl hC fun a hs => ?_
                   refine h_s hs 35 rfl (by kernel_rfl) rfl rfl rfl (.inl rfl) rfl rfl hC fun a hs => ?_
                   refine h_s hs 36 rfl (by kernel_rfl) rfl rfl rfl (.inl rfl) rfl rfl hC fun a hs => ?_
                   refine h_s hs 37 rfl (by kernel_rfl) rfl rfl rfl (.inl rfl) rfl rfl hC fun a hs => ?_
                   refine h_t hs 38 rfl (by kernel_rfl) ⟨_, rfl, rfl⟩ rfl rfl hC (fun w hC => y_pickFE (v := .bool c17022) rfl rfl (vbs h17128)) fun a hs => ?_
                   refine h_t hs 39 rfl (by kernel_rfl) ⟨_, rfl, rfl⟩ rfl rfl hC (fun w hC => y_move rfl) fun a hs => ?_
                   have hs := hs.fix 149 (.bool false) rfl (vb h17129)
                   refine h_s hs 40 rfl (by kernel_rfl) rfl rfl rfl (.inl rfl) rfl rfl hC fun a hs => ?_
                   refine h_s hs 41 rfl (by kernel_rfl) rfl rfl rfl (.inl rfl) rfl rfl hC fun a hs => ?_
                   refine h_s hs 42 rfl (by kernel_rfl) rfl rfl rfl (.inl rfl) rfl rfl hC fun a hs => ?_
                   refine h_s hs 43 rfl (by kernel_rfl) rfl rfl rfl (.inl rfl) rfl rfl hC fun a hs => ?_
                   refine h_s hs 44 rfl (by kernel_rfl) rfl rfl rfl (.inl rfl) rfl rfl hC fun a hs => ?_
                   refine h_s hs 45 rfl (by kernel_rfl) rfl rfl rfl (.inl rfl) rfl rfl hC fun a hs => ?_
                   refine h_s hs 46 rfl (by kernel_rfl) rfl rfl rfl (.inl rfl) rfl rfl hC fun a hs => ?_
                   refine h_s hs 47 rfl (by kernel_rfl) rfl rfl rfl (.inl rfl) rfl rfl hC fun a hs => ?_
                   refine h_s hs 48 rfl (by kernel_rfl) rfl rfl rfl (.inl rfl) rfl rfl hC fun a hs => ?_
                   refine h_s hs 49 rfl (by kernel_rfl) rfl rfl rfl (.inl rfl) rfl rfl hC fun a hs => ?_
                   refine h_t hs 50 rfl (by kernel_rfl) ⟨_, rfl, rfl⟩ rfl rfl hC (fun w hC => y_pickFE (v := .bool c17051) rfl rfl (vbs h17164)) fun a hs => ?_
                   refine h_g hs 51 rfl (by kernel_rfl) rfl rfl hC rfl (fun w hC => y_pickFE (v := .bool c16274) rfl rfl (vbs h16993)) fun a hs => ?_
                   refine h_done (by kernel_rfl) ?_
                   exact ⟨Sv15912, (hs.wk rfl), (hw.ft [0] [0] (by decide) rfl rfl)⟩
             ·rintro a w ⟨Sv16275, hs, hw⟩
              refine then_normal ?_
              refine wp_cond_split (hs.ev rfl) (fun h17166 => ?_) (fun h17166 => ?_)
              ·have hsh := ite_t hsh h17166
               refine wp_seq ?_
               refine wp_region_lit ?_
               refine st_val hs (y_assign rfl) trivial rfl rfl fun a hs => ?_
               refine wpList_nil ?_
               refine then_normal ?_
               have hsh := Option.some.inj hsh
               subst hsh
               have h17167 := hd16033 _ rfl
               subst h17167
               have h17168 := hd14534 _ rfl
               subst h17168
               have h17169 := hd9709 _ rfl
               subst h17169
               refine wp_ret ?_
               refine blk_ret ?_
               refine then_ret ?_
               refine then_ret ?_
               refine blk_ret ?_
               refine blk_ret ?_
               refine then_ret ?_
               refine then_ret ?_
               refine blk_ret ?_
               refine blk_ret ?_
               refine then_ret ?_
               refine then_ret ?_
               refine blk_ret ?_
               refine then_ret ?_
               exact ret1 hs rfl (rv_tmp rfl) (hw.ret rfl)
              ·have hsh := ite_f hsh h17166
               refine wp_skip ?_
               refine blk_normal ?_
               refine then_normal ?_
               refine wp_region_lit ?_
               refine st_val hs (y_add rfl rfl) trivial rfl rfl fun a hs => ?_
               refine st_val hs (y_move rfl) trivial rfl rfl fun a hs => ?_
               refine wpList_nil ?_
               refine then_normal ?_
               exact ⟨_, (Option.some.inj hsh).symm, Sv16275, (hs.wk rfl), (hw.ft [0] [0] (by decide) rfl rfl)⟩
            ·have hsh := ite_f hsh h16038
             obtain ⟨rv17170, hsh, h17171⟩ := map_t hsh
             have h17171 := (hd16033 _ h17171.symm).symm
             subst h17171
             refine wp_exit ?_
             refine then_exit ?_
             refine then_exit ?_
             refine blk_exit ?_
             refine blk_normal ?_
             refine then_normal ?_
             refine wp_region_lit ?_
             refine st_val hs (y_add rfl rfl) trivial rfl rfl fun a hs => ?_
             refine st_val hs (y_move rfl) trivial rfl rfl fun a hs => ?_
             refine wpList_nil ?_
             refine then_normal ?_
             exact ⟨_, (Option.some.inj hsh).symm, Sv15912, (hs.wk rfl), (hw.ft [0] [0] (by decide) rfl rfl)⟩
   ·have hsh := ite_f hsh h14539
    obtain ⟨rv17175, hsh, h17176⟩ := map_t hsh
    have h17176 := (hd14534 _ h17176.symm).symm
    subst h17176
    refine wp_exit ?_
    refine then_exit ?_
    refine then_exit ?_
    refine blk_exit ?_
    refine blk_normal ?_
    refine then_normal ?_
    refine wp_region_lit ?_
    refine st_val hs (y_add rfl rfl) trivial rfl rfl fun a hs => ?_
    refine st_val hs (y_move rfl) trivial rfl rfl fun a hs => ?_
    refine wpList_nil ?_
    refine then_normal ?_
    exact ⟨_, (Option.some.inj hsh).symm, Sv13999, (hs.wk rfl), (hw.ft [0] [0] (by decide) rfl rfl)⟩
  ·have hsh := ite_f hsh h9714
   obtain ⟨rv17184, hsh, h17185⟩ := map_t hsh
   have h17185 := (hd9709 _ h17185.symm).symm
   subst h17185
   refine wp_exit ?_
   refine then_exit ?_
   refine then_exit ?_
   refine blk_exit ?_
   refine then_normal ?_
   refine wp_seq ?_
   refine wp_region_lit ?_
   obtain ⟨rv17178, h17177, hsh⟩ := bind_t hsh
   refine st_callR hs (law14_sane_ok h17177 hw.bdom) (do_call Try.call8 rfl) trivial rfl rfl ?_
   intro v17182 Sv17179 w a h17180 h17181 hs
   subst h17181
   have hw := hw.callB h17180
   refine st_val hs (y_assign rfl) trivial rfl rfl fun a hs => ?_
   refine wpList_nil ?_
   refine then_normal ?_
   have hsh := Option.some.inj hsh
   subst hsh
   refine wp_ret ?_
   exact ret1 hs rfl (rv_tmp rfl) (hw.ret rfl)

end Go.Proofs.Ytdifjkamipeibaa.Wk

/- The walks of FilterStages, part 2: each Go function computes what its plain program computes. Printed by a program of ours. -/
import Derived.Test.YtmihimhknllmcaaProg
import Derived.Test.YtmihimhknllmcaaDat
import Derived.Test.YtmihimhknllmcaaSh
import Derived.Test.YtmihimhknllmcaaLibL
import Derived.KernelRfl
import Derived.Test.YtmihimhknllmcaaWFilterStages1
namespace Go.Proofs.Ytmihimhknllmcaa.Wk
open Go Go.RowKit Go.Proofs Go.Proofs.Ytmihimhknllmcaa.Sh
set_option linter.unusedVariables false
set_option linter.unusedSimpArgs false

abbrev law21_FilterStages_rd (w0 : World) (X : List Nat) (r : Bool) : (Nat → Prop) → World → Value → Prop := fun S w v => v = .bool r
set_option maxHeartbeats 4000000 in
set_option maxRecDepth 100000 in
theorem law21_FilterStages_ok {w0 : World} {S0 : Nat → Prop} {p2 : Option Addr} {k3 : Nat} {t1 : (List Int)} {r : Bool} (hsh : law21_FilterStages t1 = some r) (hS : ∀ b, S0 b → b < w0.heap.size) (h4 : (SlA p2 t1.length k3 t1).p S0 w0) : Calls Try.prog 6 #[.slice p2 t1.length k3] w0 (Ret ([]) w0 S0 (law21_FilterStages_rd w0 ([]) r)) := by
 refine calls_of_wp Try.func6 rfl ?_
 have hs := Sl.enter #[.slice p2 t1.length k3] 118 [(0, .slice p2 t1.length k3)] rfl ⟨rfl, trivial⟩
 have hw := Wd.enter (E := []) hS (fun _ h => (by cases h))
 have hw := hw.addE h4
 delta law21_FilterStages at hsh
 refine wp_seq ?_
 refine wp_region_lit ?_
 refine st_val hs (y_assign rfl) trivial rfl rfl fun a hs => ?_
 refine wpList_nil ?_
 refine then_normal ?_
 refine wp_seq ?_
 refine wp_seq ?_
 refine wp_region_lit ?_
 refine st_val hs (y_move rfl) trivial rfl rfl fun a hs => ?_
 obtain ⟨rv6, h5, hsh⟩ := bind_t hsh
 refine st_callR hs (made_Light_ok h5 hw.bdom (hw.bE 0 rfl)) (do_call Try.call10 rfl) trivial rfl rfl ?_
 intro v10 Sv7 w a h8 h9 hs
 subst h9
 have hw := hw.callB h8
 refine st_val hs (y_not rfl) trivial rfl rfl fun a hs => ?_
 refine wpList_nil ?_
 refine then_normal ?_
 refine wp_cond_split (hs.ev rfl) (fun h20 => ?_) (fun h20 => ?_)
 ·have hsh := ite_t hsh h20
  refine wp_seq ?_
  refine wp_region_lit ?_
  obtain ⟨rv22, h21, hsh⟩ := bind_t hsh
  refine st_callR hs (law21_sane_ok h21 hw.bdom) (do_call Try.call11 rfl) trivial rfl rfl ?_
  intro v26 Sv23 w a h24 h25 hs
  subst h25
  have hw := hw.callB h24
  refine st_val hs (y_assign rfl) trivial rfl rfl fun a hs => ?_
  refine wpList_nil ?_
  refine then_normal ?_
  have hsh := Option.some.inj hsh
  subst hsh
  refine wp_ret ?_
  refine then_ret ?_
  exact ret1 hs rfl (rv_tmp rfl) (hw.ret rfl)
 ·have hsh := ite_f hsh h20
  refine wp_skip ?_
  refine then_normal ?_
  refine wp_seq ?_
  refine wp_region_lit ?_
  refine st_val hs (y_move rfl) trivial rfl rfl fun a hs => ?_
  obtain ⟨rv29, h28, hsh⟩ := bind_t hsh
  refine st_callR hs (made_Roll_ok h28 hw.dom (hw.envAt 0 rfl)) (do_call Try.call12 rfl) trivial rfl rfl ?_
  intro v37 Sv34 w a h35 h36 hs
  obtain ⟨b30, p31, k32, rfl, h38, h33⟩ := h36
  have hw := hw.callN h35 h38
  have hw := hw.addE (e := SlA p31 rv29.L.length k32 rv29.L) h33
  refine st_val hs (y_assign rfl) trivial rfl rfl fun a hs => ?_
  refine wpList_nil ?_
  refine then_normal ?_
  refine wp_seq ?_
  refine wp_region_lit ?_
  refine st_val hs (y_move rfl) trivial rfl rfl fun a hs => ?_
  obtain ⟨rv40, h39, hsh⟩ := bind_t hsh
  refine st_callR hs (made_Dice_Stage_ok h39 hw.dom (hw.ins [0] (by decide) rfl) (hw.envAt 0 rfl)) (do_call Try.call21 rfl) trivial rfl rfl ?_
  intro v51 Sv48 w a h49 h50 hs
  obtain ⟨p41, k42, c44, p45, k46, rfl, h52, h43, h47⟩ := h50
  have hw := hw.callO [0] [] (by decide) rfl h49 h52
  have hw := hw.addE (e := RowA c44 rv40.1.Taps) h43
  have hw := hw.addE (e := SlA p45 rv40.2.L.length k46 rv40.2.L) h47
  refine st_val hs (y_move rfl) trivial rfl rfl fun a hs => ?_
  obtain ⟨rv54, h53, hsh⟩ := bind_t hsh
  refine st_callR hs (made_Dice_Samples_ok h53 hw.dom (hw.ins [1] (by decide) rfl) (hw.envAt 0 rfl)) (do_call Try.call16 rfl) trivial rfl rfl ?_
  intro v65 Sv62 w a h63 h64 hs
  obtain ⟨p55, k56, c58, p59, k60, rfl, h66, h57, h61⟩ := h64
  have hw := hw.callO [1] [0] (by decide) rfl h63 h66
  have hw := hw.addE (e := RowA c58 rv54.1) h57
  have hw := hw.addE (e := SlA p59 rv54.2.L.length k60 rv54.2.L) h61
  refine w_alloc (cs := [.int .i64 0, .int .i64 0, .int .i64 0, .int .i64 0, .int .i64 0, .int .i64 0, .int .i64 0, .slice none ([] : List Int).length 0, .int .i64 0, .int .i64 0]) hs hw Try.zeroValue45 rfl rfl trivial ?_
  intro b67 a w hs hw
  refine w_store (m := 10) (cs' := [.int .i64 rv40.1.Kind, .int .i64 rv40.1.Num.e0, .int .i64 rv40.1.Num.e1, .int .i64 rv40.1.Num.e2, .int .i64 rv40.1.Den.e0, .int .i64 rv40.1.Den.e1, .int .i64 rv40.1.Den.e2, .slice p41 rv40.1.Taps.length k42, .int .i64 rv40.1.Factor, .int .i64 rv40.1.Shift]) hs hw 0 rfl rfl rfl Try.sizeOf45 rfl rfl rfl rfl trivial ?_
  intro a w hs hw
  refine st_val hs (y_assign rfl) trivial rfl rfl fun a hs => ?_
  refine wpList_nil ?_
  refine then_normal ?_
  refine wp_seq ?_
  refine wp_region_lit ?_
  refine st_val hs (y_loadBA (hw.ownAt 0 rfl) rfl Try.isAgg45 Try.sizeOf45 rfl rfl) trivial rfl rfl fun a hs => ?_
  obtain ⟨rv69, h68, hsh⟩ := bind_t hsh
  obtain ⟨Sv74, hw⟩ := w_share (α := Int) hw 3 rfl 3 rfl
  refine st_callR hs (filter_Stage_ok h68 hw.dom (hw.envAt 0 rfl)) (do_call Try.call22 rfl) trivial rfl rfl ?_
  intro v78 Sv75 w a h76 h77 hs
  obtain ⟨p70, k71, c73, rfl, h79, h72⟩ := h77
  have hw := hw.callN h76 h79
  have hw := hw.addE (e := RowA c73 rv69.1.Taps) h72
  refine st_val hs (y_move rfl) trivial rfl rfl fun a hs => ?_
  refine st_val hs (y_extract rfl rfl) trivial rfl rfl fun a hs => ?_
  refine st_val hs (y_extract rfl rfl) trivial rfl rfl fun a hs => ?_
  refine w_alloc (cs := [.slice none ([] : List Int).length 0, .int .i64 0, .int .i64 0]) hs hw Try.zeroValue28 rfl rfl trivial ?_
  intro b80 a w hs hw
  refine w_store (m := 3) (cs' := [.slice p70 rv69.1.Taps.length k71, .int .i64 rv69.1.Factor, .int .i64 rv69.1.Shift]) hs hw 0 rfl rfl rfl Try.sizeOf28 rfl rfl rfl rfl trivial ?_
  intro a w hs hw
  refine st_val hs (y_assign rfl) trivial rfl rfl fun a hs => ?_
  refine wpList_nil ?_
  refine then_normal ?_
  refine wp_seq ?_
  refine wp_seq ?_
  refine wp_region_lit ?_
  refine st_val hs (y_fieldAddr (o' := 0) Try.runUnderlying45 rfl Try.sizeOf3 rfl rfl rfl) trivial rfl rfl fun a hs => ?_
  refine st_val hs (y_loadB1 (hw.ownAt 2 rfl) rfl Try.isAgg3 rfl) trivial rfl rfl fun a hs => ?_
  refine st_val hs (y_neq rfl rfl) trivial rfl rfl fun a hs => ?_
  refine wpList_nil ?_
  refine then_normal ?_
  refine wp_cond_split (hs.ev rfl) (fun h116 => ?_) (fun h116 => ?_)
  ·have hsh := ite_t hsh h116
   refine wp_seq ?_
   refine wp_region_lit ?_
   refine st_val hs (y_move rfl) trivial rfl rfl fun a hs => ?_
   refine st_val hs (y_eql rfl rfl) trivial rfl rfl fun a hs => ?_
   refine st_val hs (y_move rfl) trivial rfl rfl fun a hs => ?_
   obtain ⟨c125, hc125, hsh⟩ := bind_t hsh
   refine wpl_join 4 (fun a w => ∃ (Sv126 : Nat → Prop), Sl 118 [(39, .bool c125)] a ∧ Wd ⟨w0, S0, []⟩ Sv126 [] [] w) ?_ ?_
   ·rcases Bool.eq_false_or_eq_true (rv69.2 == 1) with h124 | h124
    ·have hs := hs.fix 35 (.bool true) rfl (vb h124)
     have hsh := ite_t hc125 h124
     refine st_val hs (y_loadBA (hw.ownAt 0 rfl) rfl Try.isAgg28 Try.sizeOf28 rfl rfl) ⟨_, rfl, rfl⟩ rfl rfl fun a hs => ?_
     refine st_val hs (y_build (vs := []) Bld28 rfl rfl) ⟨_, rfl, rfl⟩ rfl rfl fun a hs => ?_
     obtain ⟨rv128, h127, hsh⟩ := bind_t hsh
     have hw := hw.addE (e := SlA (α := Int) none 0 0 []) nil_sl
     refine st_callR hs (ref21_Same_ok h127 hw.bdom (hw.bRow 1 rfl 1 rfl) (hw.bE 0 rfl)) (do_call Try.call19 rfl) ⟨_, rfl, rfl⟩ rfl rfl ?_
     intro v132 Sv129 w a h130 h131 hs
     subst h131
     have hw := hw.callB h130
     refine st_val hs (y_pickT rfl rfl) trivial rfl rfl fun a hs => ?_
     refine wpList_nil ?_
     have hsh := Option.some.inj hsh
     subst hsh
     refine then_normal ?_
     exact ⟨Sv75, (hs.wk rfl), (hw.ft [] [] (by decide) rfl rfl)⟩
    ·have hs := hs.fix 35 (.bool false) rfl (vb h124)
     have hsh := ite_f hc125 h124
     refine st_skip hs rfl rfl rfl rfl rfl fun a hs => ?_
     refine st_skip hs rfl rfl rfl rfl rfl fun a hs => ?_
     refine st_skip hs rfl rfl rfl rfl rfl fun a hs => ?_
     refine st_val hs (y_pickF rfl rfl) trivial rfl rfl fun a hs => ?_
     refine wpList_nil ?_
     have hsh := Option.some.inj hsh
     subst hsh
     refine then_normal ?_
     exact ⟨Sv75, (hs.wk rfl), (hw.ft [] [] (by decide) rfl rfl)⟩
   ·rintro a w ⟨Sv126, hs, hw⟩
    refine st_val hs (y_move rfl) trivial rfl rfl fun a hs => ?_
    obtain ⟨c142, hc142, hsh⟩ := bind_t hsh
    refine wpl_join 2 (fun a w => ∃ (Sv143 : Nat → Prop), Sl 118 [(42, .bool c142)] a ∧ Wd ⟨w0, S0, []⟩ Sv143 [] [] w) ?_ ?_
    ·rcases Bool.eq_false_or_eq_true c125 with h141 | h141
     ·have hs := hs.fix 40 (.bool true) rfl (vb h141)
      have hsh := ite_t hc142 h141
      obtain ⟨rv145, h144, hsh⟩ := bind_t hsh
      refine st_callR hs (law21_sane_ok h144 hw.bdom) (do_call Try.call11 rfl) ⟨_, rfl, rfl⟩ rfl rfl ?_
      intro v149 Sv146 w a h147 h148 hs
      subst h148
      have hw := hw.callB h147
      refine st_val hs (y_pickT rfl rfl) trivial rfl rfl fun a hs => ?_
      refine wpList_nil ?_
      have hsh := Option.some.inj hsh
      subst hsh
      refine then_normal ?_
      exact ⟨Sv126, (hs.wk rfl), (hw.ft [] [] (by decide) rfl rfl)⟩
     ·have hs := hs.fix 40 (.bool false) rfl (vb h141)
      have hsh := ite_f hc142 h141
      refine st_skip hs rfl rfl rfl rfl rfl fun a hs => ?_
      refine st_val hs (y_pickF rfl rfl) trivial rfl rfl fun a hs => ?_
      refine wpList_nil ?_
      have hsh := Option.some.inj hsh
      subst hsh
      refine then_normal ?_
      exact ⟨Sv126, (hs.wk rfl), (hw.ft [] [] (by decide) rfl rfl)⟩
    ·rintro a w ⟨Sv143, hs, hw⟩
     refine st_val hs (y_assign rfl) trivial rfl rfl fun a hs => ?_
     refine wpList_nil ?_
     refine then_normal ?_
     have hsh := Option.some.inj hsh
     subst hsh
     refine wp_ret ?_
     refine then_ret ?_
     exact ret1 hs rfl (rv_tmp rfl) (hw.ret rfl)
  ·have hsh := ite_f hsh h116
   refine wp_skip ?_
   refine then_normal ?_
   refine wp_seq ?_
   refine wp_region_lit ?_
   refine st_val hs (y_assign rfl) trivial rfl rfl fun a hs => ?_
   refine wpList_nil ?_
   refine then_normal ?_
   refine wp_seq ?_
   refine wp_seq ?_
   refine wp_region_lit ?_
   refine st_val hs (y_fieldAddr (o' := 7) Try.runUnderlying45 rfl Try.sizeOf22 rfl rfl rfl) trivial rfl rfl fun a hs => ?_
   refine st_val hs (y_loadB1 (hw.ownAt 2 rfl) rfl Try.isAgg22 rfl) trivial rfl rfl fun a hs => ?_
   refine st_val hs (y_len Try.runUnderlying22 rfl) trivial rfl rfl fun a hs => ?_
   refine st_val hs (y_move rfl) trivial rfl rfl fun a hs => ?_
   refine wpList_nil ?_
   refine then_normal ?_
   obtain ⟨e205, h327, hsh⟩ := bind_t hsh
   refine wp_join (fun a w => ∃ (Sv206 : Nat → Prop), Sl 118 [(4, .pointer (some ⟨b67, 0, none⟩)), (5, .slice p55 rv54.1.length k56), (6, .pointer (some ⟨b80, 0, none⟩)), (7, .int .i64 rv69.2), (8, .int .i64 e205)] a ∧ Wd ⟨w0, S0, []⟩ Sv206 [.box b67 [.int .i64 rv40.1.Kind, .int .i64 rv40.1.Num.e0, .int .i64 rv40.1.Num.e1, .int .i64 rv40.1.Num.e2, .int .i64 rv40.1.Den.e0, .int .i64 rv40.1.Den.e1, .int .i64 rv40.1.Den.e2, .slice p41 rv40.1.Taps.length k42, .int .i64 rv40.1.Factor, .int .i64 rv40.1.Shift] 45, .box b80 [.slice p70 rv69.1.Taps.length k71, .int .i64 rv69.1.Factor, .int .i64 rv69.1.Shift] 28, .row p70 rv69.1.Taps.length k71 c73 3 1, .row p55 rv54.1.length k56 c58 3 1] [SlA p41 rv40.1.Taps.length k42 rv40.1.Taps, RowA c73 rv69.1.Taps, RowA c58 rv54.1] w) ?_ ?_
   ·refine wp_block ?_
    refine wp_while (fun sv151 a w => ∃ (Sv185 : Nat → Prop), Sl 118 [(4, .pointer (some ⟨b67, 0, none⟩)), (5, .slice p55 rv54.1.length k56), (6, .pointer (some ⟨b80, 0, none⟩)), (7, .int .i64 rv69.2), (8, .int .i64 sv151.1), (44, .slice p41 rv40.1.Taps.length k42), (45, .int .i64 (rv40.1.Taps.length : Int)), (46, .int .i64 sv151.2)] a ∧ Wd ⟨w0, S0, []⟩ Sv185 [.box b67 [.int .i64 rv40.1.Kind, .int .i64 rv40.1.Num.e0, .int .i64 rv40.1.Num.e1, .int .i64 rv40.1.Num.e2, .int .i64 rv40.1.Den.e0, .int .i64 rv40.1.Den.e1, .int .i64 rv40.1.Den.e2, .slice p41 rv40.1.Taps.length k42, .int .i64 rv40.1.Factor, .int .i64 rv40.1.Shift] 45, .box b80 [.slice p70 rv69.1.Taps.length k71, .int .i64 rv69.1.Factor, .int .i64 rv69.1.Shift] 28, .row p70 rv69.1.Taps.length k71 c73 3 1, .row p55 rv54.1.length k56 c58 3 1] [SlA p41 rv40.1.Taps.length k42 rv40.1.Taps, RowA c73 rv69.1.Taps, RowA c58 rv54.1] w) (0, 0) h327 ⟨Sv75, (hs.wk rfl), (hw.ft [2, 0, 1, 3] [1, 0, 3] (by decide) rfl rfl)⟩ ?_
    clear h327
    repeat clear hsh
    rintro sv151 a w tv203 ⟨Sv185, hs, hw⟩ hsh hd202
    delta law21_FilterStages_l1 at hsh
    refine wp_seq ?_
    refine wp_region_lit ?_
    refine st_val hs (y_lss rfl rfl) trivial rfl rfl fun a hs => ?_
    refine wpList_nil ?_
    refine then_normal ?_
    refine wp_seq ?_
    refine wp_cond_split (hs.ev rfl) (fun h208 => ?_) (fun h208 => ?_)
    ·have hsh := ite_t hsh h208
     refine wp_skip ?_
     refine then_normal ?_
     refine wp_seq ?_
     refine wp_block ?_
     refine wp_seq ?_
     refine wp_region_lit ?_
     obtain ⟨x226, h224, hsh⟩ := bind_t hsh
     obtain ⟨b232, o233, q230, c231, h234, h227, h228, h229, h225⟩ := hw.elemV 0 rfl h224
     have hsv235 := hs
     have hwv236 := hw
     subst h234
     have hs := hsv235
     have hw := hwv236
     obtain ⟨_, rfl, rfl⟩ := h225
     have hw := hw.addE h229
     refine st_val hs (y_indexAt Try.runUnderlying22 Try.sizeOf3 rfl rfl h227.1 h227.2 h228) trivial rfl rfl fun a hs => ?_
     refine st_val hs (y_loadE1 (j := 0) (hw.ceAt 0 rfl) rfl Try.isAgg3 rfl) trivial rfl rfl fun a hs => ?_
     refine st_val hs (y_assign rfl) trivial rfl rfl fun a hs => ?_
     refine wpList_nil ?_
     refine then_normal ?_
     refine wp_region_lit ?_
     refine st_val hs (y_move rfl) trivial rfl rfl fun a hs => ?_
     refine st_val hs (y_move rfl) trivial rfl rfl fun a hs => ?_
     refine st_val hs (y_move rfl) trivial rfl rfl fun a hs => ?_
     refine st_val hs (y_neg rfl) trivial rfl rfl fun a hs => ?_
     refine st_val hs (y_max rfl rfl) trivial rfl rfl fun a hs => ?_
     refine st_val hs (y_add rfl rfl) trivial rfl rfl fun a hs => ?_
     obtain ⟨sum238, h237, hsh⟩ := bind_t hsh
     refine st_val hs (y_assignI rfl h237) trivial rfl rfl fun a hs => ?_
     refine wpList_nil ?_
     refine blk_normal ?_
     refine then_normal ?_
     refine wp_region_lit ?_
     refine st_val hs (y_add rfl rfl) trivial rfl rfl fun a hs => ?_
     refine st_val hs (y_move rfl) trivial rfl rfl fun a hs => ?_
     refine wpList_nil ?_
     refine then_normal ?_
     exact ⟨_, (Option.some.inj hsh).symm, Sv185, (hs.wk rfl), (hw.ft [0, 1, 2, 3] [1, 2, 3] (by decide) rfl rfl)⟩
    ·have hsh := ite_f hsh h208
     refine wp_exit ?_
     refine then_exit ?_
     refine then_exit ?_
     refine blk_exit ?_
     have hsh := Option.some.inj hsh
     subst hsh
     have h239 := hd202 _ rfl
     subst h239
     refine then_normal ?_
     exact ⟨Sv185, (hs.wk rfl), (hw.ft [0, 1, 2, 3] [0, 1, 2] (by decide) rfl rfl)⟩
   ·rintro a w ⟨Sv206, hs, hw⟩
    refine then_normal ?_
    refine wp_seq ?_
    refine wp_seq ?_
    refine wp_region_lit ?_
    refine st_val hs (y_move rfl) trivial rfl rfl fun a hs => ?_
    refine st_val hs (y_fieldAddr (o' := 9) Try.runUnderlying45 rfl Try.sizeOf3 rfl rfl rfl) trivial rfl rfl fun a hs => ?_
    refine st_val hs (y_loadB1 (hw.ownAt 0 rfl) rfl Try.isAgg3 rfl) trivial rfl rfl fun a hs => ?_
    refine st_val hs (y_convert Try.runUnderlying3 Try.runUnderlying30 rfl) trivial rfl rfl fun a hs => ?_
    obtain ⟨shl241, h240, hsh⟩ := bind_t hsh
    refine st_val hs (y_shlM rfl rfl h240) trivial rfl rfl fun a hs => ?_
    refine st_val hs (y_leq rfl rfl) trivial rfl rfl fun a hs => ?_
    refine st_val hs (y_assign rfl) trivial rfl rfl fun a hs => ?_
    refine wpList_nil ?_
    refine then_normal ?_
    refine wp_seq ?_
    refine wp_region_lit ?_
    refine st_val hs (y_move rfl) trivial rfl rfl fun a hs => ?_
    refine st_val hs (y_move rfl) trivial rfl rfl fun a hs => ?_
    refine st_val hs (y_eql rfl rfl) trivial rfl rfl fun a hs => ?_
    refine st_val hs (y_neqB Try.runUnderlying4 rfl rfl) trivial rfl rfl fun a hs => ?_
    refine st_val hs (y_move rfl) trivial rfl rfl fun a hs => ?_
    refine wpl_join 7 (fun a w1 => w = w1 ∧ Sl 118 [(4, .pointer (some ⟨b67, 0, none⟩)), (5, .slice p55 rv54.1.length k56), (6, .pointer (some ⟨b80, 0, none⟩)), (7, .int .i64 rv69.2), (74, .bool ((!((decide (e205 ≤ shl241)) == (rv69.2 == 0))) || ((!(decide (e205 ≤ shl241))) && (rv69.2 != 8))))] a) ?_ ?_
    ·rcases Bool.eq_false_or_eq_true (!((decide (e205 ≤ shl241)) == (rv69.2 == 0))) with h244 | h244
     ·have hs := hs.fix 67 (.bool true) rfl (vb h244)
      refine st_skip hs rfl rfl rfl rfl rfl fun a hs => ?_
      refine st_skip hs rfl rfl rfl rfl rfl fun a hs => ?_
      refine st_skip hs rfl rfl rfl rfl rfl fun a hs => ?_
      refine st_skipU hs rfl rfl rfl rfl rfl fun a hs => ?_
      refine st_skipU hs rfl rfl rfl rfl rfl fun a hs => ?_
      refine st_skip hs rfl rfl rfl rfl rfl fun a hs => ?_
      refine st_val hs (y_pickT rfl rfl) trivial rfl rfl fun a hs => ?_
      refine wpList_nil ?_
      refine then_normal ?_
      exact ⟨rfl, (hs.fix 74 (.bool ((!((decide (e205 ≤ shl241)) == (rv69.2 == 0))) || ((!(decide (e205 ≤ shl241))) && (rv69.2 != 8)))) rfl (or_t h244)).weaken _ ⟨rfl, rfl, rfl, rfl, rfl, trivial⟩⟩
     ·have hs := hs.fix 67 (.bool false) rfl (vb h244)
      refine st_val hs (y_move rfl) ⟨_, rfl, rfl⟩ rfl rfl fun a hs => ?_
      refine st_val hs (y_not rfl) ⟨_, rfl, rfl⟩ rfl rfl fun a hs => ?_
      refine st_val hs (y_move rfl) ⟨_, rfl, rfl⟩ rfl rfl fun a hs => ?_
      refine wpl_join 3 (fun a w1 => w = w1 ∧ Sl 118 [(4, .pointer (some ⟨b67, 0, none⟩)), (5, .slice p55 rv54.1.length k56), (6, .pointer (some ⟨b80, 0, none⟩)), (7, .int .i64 rv69.2), (67, .bool false), (73, .bool ((!(decide (e205 ≤ shl241))) && (rv69.2 != 8)))] a) ?_ ?_
      ·rcases Bool.eq_false_or_eq_true (!(decide (e205 ≤ shl241))) with h245 | h245
       ·have hs := hs.fix 70 (.bool true) rfl (vb h245)
        refine st_val hs (y_move rfl) ⟨_, rfl, rfl⟩ rfl rfl fun a hs => ?_
        refine st_val hs (y_neq rfl rfl) ⟨_, rfl, rfl⟩ rfl rfl fun a hs => ?_
        refine st_val hs (y_pickT rfl rfl) ⟨_, rfl, rfl⟩ rfl rfl fun a hs => ?_
        refine wpList_nil ?_
        refine then_normal ?_
        exact ⟨rfl, (hs.fix 73 (.bool ((!(decide (e205 ≤ shl241))) && (rv69.2 != 8))) rfl (and_t h245)).weaken _ ⟨rfl, rfl, rfl, rfl, rfl, rfl, trivial⟩⟩
       ·have hs := hs.fix 70 (.bool false) rfl (vb h245)
        refine st_skip hs rfl rfl rfl rfl rfl fun a hs => ?_
        refine st_skip hs rfl rfl rfl rfl rfl fun a hs => ?_
        refine st_val hs (y_pickF rfl rfl) ⟨_, rfl, rfl⟩ rfl rfl fun a hs => ?_
        refine wpList_nil ?_
        refine then_normal ?_
        exact ⟨rfl, (hs.fix 73 (.bool ((!(decide (e205 ≤ shl241))) && (rv69.2 != 8))) rfl (and_f h245)).weaken _ ⟨rfl, rfl, rfl, rfl, rfl, rfl, trivial⟩⟩
      ·rintro a w1 ⟨h246, hs⟩
       subst h246
       refine st_val hs (y_pickF rfl rfl) trivial rfl rfl fun a hs => ?_
       refine wpList_nil ?_
       refine then_normal ?_
       exact ⟨rfl, (hs.fix 74 (.bool ((!((decide (e205 ≤ shl241)) == (rv69.2 == 0))) || ((!(decide (e205 ≤ shl241))) && (rv69.2 != 8)))) rfl (or_f h244)).weaken _ ⟨rfl, rfl, rfl, rfl, rfl, trivial⟩⟩
    ·rintro a w1 ⟨h326, hs⟩
     subst h326
     refine wpList_nil ?_
     refine then_normal ?_
     refine wp_cond_split (hs.ev rfl) (fun h248 => ?_) (fun h248 => ?_)
     ·have hsh := ite_t hsh h248
      refine wp_seq ?_
      refine wp_region_lit ?_
      refine st_val hs (y_assign rfl) trivial rfl rfl fun a hs => ?_
      refine wpList_nil ?_
      refine then_normal ?_
      have hsh := Option.some.inj hsh
      subst hsh
      refine wp_ret ?_
      refine then_ret ?_
      exact ret1 hs rfl (rv_tmp rfl) (hw.ret rfl)
     ·have hsh := ite_f hsh h248
      refine wp_skip ?_
      refine then_normal ?_
      refine wp_seq ?_
      refine wp_region_lit ?_
      refine w_litSlice (α := Int) (vs := [.int .i64 128]) (cs := [.int .i64 128]) (xs := ([128] : List Int)) hs hw El22 rfl rfl rfl rfl rfl rfl ⟨⟨_, rfl, rfl⟩, rfl⟩ rfl trivial rfl fun b250 a w hs hw => ?_
      refine st_val hs (y_build (vs := [(0, .slice (some ⟨b250, 0, none⟩) ([128] : List Int).length ([128] : List Int).length), (1, .int .i64 1), (2, .int .i64 7)]) Bld28 rfl rfl) trivial rfl rfl fun a hs => ?_
      refine w_alloc (cs := [.slice none ([] : List Int).length 0, .int .i64 0, .int .i64 0]) hs hw Try.zeroValue28 rfl rfl trivial ?_
      intro b251 a w hs hw
      refine w_store (m := 3) (cs' := [.slice (some ⟨b250, 0, none⟩) ([128] : List Int).length ([128] : List Int).length, .int .i64 1, .int .i64 7]) hs hw 0 rfl rfl rfl Try.sizeOf28 rfl rfl rfl rfl trivial ?_
      intro a w hs hw
      refine wpList_nil ?_
      refine then_normal ?_
      refine wp_seq ?_
      refine wp_region_lit ?_
      refine st_val hs (y_loadBA (hw.ownAt 0 rfl) rfl Try.isAgg28 Try.sizeOf28 rfl rfl) trivial rfl rfl fun a hs => ?_
      refine st_val hs (y_move rfl) trivial rfl rfl fun a hs => ?_
      obtain ⟨rv253, h252, hsh⟩ := bind_t hsh
      obtain ⟨Sv258, hw⟩ := w_share (α := Int) hw 1 rfl 0 rfl
      obtain ⟨Sv259, hw⟩ := w_share (α := Int) hw 4 rfl 4 rfl
      refine st_callR hs (filter_Apply_ok h252 hw.dom (hw.envAt 1 rfl) (hw.envAt 0 rfl)) (do_call Try.call14 rfl) trivial rfl rfl ?_
      intro v263 Sv260 w a h261 h262 hs
      obtain ⟨p254, k255, c257, rfl, h264, h256⟩ := h262
      have hw := hw.callN h261 h264
      have hw := hw.addE (e := RowA c257 rv253.1) h256
      refine st_val hs (y_move rfl) trivial rfl rfl fun a hs => ?_
      refine st_val hs (y_extract rfl rfl) trivial rfl rfl fun a hs => ?_
      refine st_val hs (y_extract rfl rfl) trivial rfl rfl fun a hs => ?_
      refine st_val hs (y_assign rfl) trivial rfl rfl fun a hs => ?_
      refine st_val hs (y_assign rfl) trivial rfl rfl fun a hs => ?_
      refine wpList_nil ?_
      refine then_normal ?_
      refine wp_seq ?_
      refine wp_region_lit ?_
      refine st_val hs (y_move rfl) trivial rfl rfl fun a hs => ?_
      refine st_val hs (y_neq rfl rfl) trivial rfl rfl fun a hs => ?_
      refine st_val hs (y_move rfl) trivial rfl rfl fun a hs => ?_
      obtain ⟨c277, hc277, hsh⟩ := bind_t hsh
      refine wpl_join 20 (fun a w => ∃ (Sv278 : Nat → Prop), Sl 118 [(5, .slice p55 rv54.1.length k56), (13, .slice p254 rv253.1.length k255), (14, .int .i64 rv253.2), (105, .bool c277)] a ∧ Wd ⟨w0, S0, []⟩ Sv278 [.row p254 rv253.1.length k255 c257 3 1] [SlA p55 rv54.1.length k56 rv54.1, RowA c257 rv253.1] w) ?_ ?_
      ·rcases Bool.eq_false_or_eq_true (rv69.2 != 0) with h276 | h276
       ·have hs := hs.fix 85 (.bool true) rfl (vb h276)
        have hsh := ite_t hc277 h276
        refine st_skip hs rfl rfl rfl rfl rfl fun a hs => ?_
        refine st_skip hs rfl rfl rfl rfl rfl fun a hs => ?_
        refine st_skip hs rfl rfl rfl rfl rfl fun a hs => ?_
        refine st_skip hs rfl rfl rfl rfl rfl fun a hs => ?_
        refine st_skip hs rfl rfl rfl rfl rfl fun a hs => ?_
        refine st_skip hs rfl rfl rfl rfl rfl fun a hs => ?_
        refine st_skipU hs rfl rfl rfl rfl rfl fun a hs => ?_
        refine st_skipU hs rfl rfl rfl rfl rfl fun a hs => ?_
        refine st_skipU hs rfl rfl rfl rfl rfl fun a hs => ?_
        refine st_skipU hs rfl rfl rfl rfl rfl fun a hs => ?_
        refine st_skipU hs rfl rfl rfl rfl rfl fun a hs => ?_
        refine st_skip hs rfl rfl rfl rfl rfl fun a hs => ?_
        refine st_skip hs rfl rfl rfl rfl rfl fun a hs => ?_
        refine st_skipU hs rfl rfl rfl rfl rfl fun a hs => ?_
        refine st_skipU hs rfl rfl rfl rfl rfl fun a hs => ?_
        refine st_skipU hs rfl rfl rfl rfl rfl fun a hs => ?_
        refine st_skipU hs rfl rfl rfl rfl rfl fun a hs => ?_
        refine st_skipU hs rfl rfl rfl rfl rfl fun a hs => ?_
        refine st_skip hs rfl rfl rfl rfl rfl fun a hs => ?_
        refine st_val hs (y_pickT rfl rfl) trivial rfl rfl fun a hs => ?_
        refine wpList_nil ?_
        have hsh := Option.some.inj hsh
        subst hsh
        refine then_normal ?_
        exact ⟨Sv260, (hs.wk rfl), (hw.ft [0] [1, 0] (by decide) rfl rfl)⟩
       ·have hs := hs.fix 85 (.bool false) rfl (vb h276)
        have hsh := ite_f hc277 h276
        refine st_val hs (y_fieldAddr (o' := 0) Try.runUnderlying28 rfl Try.sizeOf22 rfl rfl rfl) ⟨_, rfl, rfl⟩ rfl rfl fun a hs => ?_
        refine st_val hs (y_loadB1 (hw.ownAt 3 rfl) rfl Try.isAgg22 rfl) ⟨_, rfl, rfl⟩ rfl rfl fun a hs => ?_
        refine st_val hs (y_fieldAddr (o' := 7) Try.runUnderlying45 rfl Try.sizeOf22 rfl rfl rfl) ⟨_, rfl, rfl⟩ rfl rfl fun a hs => ?_
        refine st_val hs (y_loadB1 (hw.ownAt 2 rfl) rfl Try.isAgg22 rfl) ⟨_, rfl, rfl⟩ rfl rfl fun a hs => ?_
        obtain ⟨rv280, h279, hsh⟩ := bind_t hsh
        refine st_callR hs (ref05_Same_ok h279 hw.bdom (hw.bRow 4 rfl 5 rfl) (hw.bE 4 rfl)) (do_call Try.call23 rfl) ⟨_, rfl, rfl⟩ rfl rfl ?_
        intro v284 Sv281 w a h282 h283 hs
        subst h283
        have hw := hw.callB h282
        refine st_val hs (y_move rfl) ⟨_, rfl, rfl⟩ rfl rfl fun a hs => ?_
        refine wpl_join 6 (fun a w1 => w = w1 ∧ Sl 118 [(4, .pointer (some ⟨b67, 0, none⟩)), (5, .slice p55 rv54.1.length k56), (6, .pointer (some ⟨b80, 0, none⟩)), (13, .slice p254 rv253.1.length k255), (14, .int .i64 rv253.2), (85, .bool false), (97, .bool (rv280 && (rv69.1.Factor == rv40.1.Factor)))] a) ?_ ?_
        ·rcases Bool.eq_false_or_eq_true rv280 with h286 | h286
         ·have hs := hs.fix 91 (.bool true) rfl (vb h286)
          refine st_val hs (y_fieldAddr (o' := 1) Try.runUnderlying28 rfl Try.sizeOf3 rfl rfl rfl) ⟨_, rfl, rfl⟩ rfl rfl fun a hs => ?_
          refine st_val hs (y_loadB1 (hw.ownAt 3 rfl) rfl Try.isAgg3 rfl) ⟨_, rfl, rfl⟩ rfl rfl fun a hs => ?_
          refine st_val hs (y_fieldAddr (o' := 8) Try.runUnderlying45 rfl Try.sizeOf3 rfl rfl rfl) ⟨_, rfl, rfl⟩ rfl rfl fun a hs => ?_
          refine st_val hs (y_loadB1 (hw.ownAt 2 rfl) rfl Try.isAgg3 rfl) ⟨_, rfl, rfl⟩ rfl rfl fun a hs => ?_
          refine st_val hs (y_eql rfl rfl) ⟨_, rfl, rfl⟩ rfl rfl fun a hs => ?_
          refine st_val hs (y_pickT rfl rfl) ⟨_, rfl, rfl⟩ rfl rfl fun a hs => ?_
          refine wpList_nil ?_
          refine then_normal ?_
          exact ⟨rfl, (hs.fix 97 (.bool (rv280 && (rv69.1.Factor == rv40.1.Factor))) rfl (and_t h286)).weaken _ ⟨rfl, rfl, rfl, rfl, rfl, rfl, rfl, trivial⟩⟩
         ·have hs := hs.fix 91 (.bool false) rfl (vb h286)
          refine st_skip hs rfl rfl rfl rfl rfl fun a hs => ?_
          refine st_skip hs rfl rfl rfl rfl rfl fun a hs => ?_
          refine st_skip hs rfl rfl rfl rfl rfl fun a hs => ?_
          refine st_skip hs rfl rfl rfl rfl rfl fun a hs => ?_
          refine st_skip hs rfl rfl rfl rfl rfl fun a hs => ?_
          refine st_val hs (y_pickF rfl rfl) ⟨_, rfl, rfl⟩ rfl rfl fun a hs => ?_
          refine wpList_nil ?_
          refine then_normal ?_
          exact ⟨rfl, (hs.fix 97 (.bool (rv280 && (rv69.1.Factor == rv40.1.Factor))) rfl (and_f h286)).weaken _ ⟨rfl, rfl, rfl, rfl, rfl, rfl, rfl, trivial⟩⟩
        ·rintro a w1 ⟨h289, hs⟩
         subst h289
         refine st_val hs (y_move rfl) ⟨_, rfl, rfl⟩ rfl rfl fun a hs => ?_
         refine wpl_join 6 (fun a w1 => w = w1 ∧ Sl 118 [(5, .slice p55 rv54.1.length k56), (13, .slice p254 rv253.1.length k255), (14, .int .i64 rv253.2), (85, .bool false), (104, .bool ((rv280 && (rv69.1.Factor == rv40.1.Factor)) && (rv69.1.Shift == rv40.1.Shift)))] a) ?_ ?_
         ·rcases Bool.eq_false_or_eq_true (rv280 && (rv69.1.Factor == rv40.1.Factor)) with h287 | h287
          ·have hs := hs.fix 98 (.bool true) rfl (vb h287)
           refine st_val hs (y_fieldAddr (o' := 2) Try.runUnderlying28 rfl Try.sizeOf3 rfl rfl rfl) ⟨_, rfl, rfl⟩ rfl rfl fun a hs => ?_
           refine st_val hs (y_loadB1 (hw.ownAt 3 rfl) rfl Try.isAgg3 rfl) ⟨_, rfl, rfl⟩ rfl rfl fun a hs => ?_
           refine st_val hs (y_fieldAddr (o' := 9) Try.runUnderlying45 rfl Try.sizeOf3 rfl rfl rfl) ⟨_, rfl, rfl⟩ rfl rfl fun a hs => ?_
           refine st_val hs (y_loadB1 (hw.ownAt 2 rfl) rfl Try.isAgg3 rfl) ⟨_, rfl, rfl⟩ rfl rfl fun a hs => ?_
           refine st_val hs (y_eql rfl rfl) ⟨_, rfl, rfl⟩ rfl rfl fun a hs => ?_
           refine st_val hs (y_pickT rfl rfl) ⟨_, rfl, rfl⟩ rfl rfl fun a hs => ?_
           refine wpList_nil ?_
           refine then_normal ?_
           exact ⟨rfl, (hs.fix 104 (.bool ((rv280 && (rv69.1.Factor == rv40.1.Factor)) && (rv69.1.Shift == rv40.1.Shift))) rfl (and_t h287)).weaken _ ⟨rfl, rfl, rfl, rfl, rfl, trivial⟩⟩
          ·have hs := hs.fix 98 (.bool false) rfl (vb h287)
           refine st_skip hs rfl rfl rfl rfl rfl fun a hs => ?_
           refine st_skip hs rfl rfl rfl rfl rfl fun a hs => ?_
           refine st_skip hs rfl rfl rfl rfl rfl fun a hs => ?_
           refine st_skip hs rfl rfl rfl rfl rfl fun a hs => ?_
           refine st_skip hs rfl rfl rfl rfl rfl fun a hs => ?_
           refine st_val hs (y_pickF rfl rfl) ⟨_, rfl, rfl⟩ rfl rfl fun a hs => ?_
           refine wpList_nil ?_
           refine then_normal ?_
           exact ⟨rfl, (hs.fix 104 (.bool ((rv280 && (rv69.1.Factor == rv40.1.Factor)) && (rv69.1.Shift == rv40.1.Shift))) rfl (and_f h287)).weaken _ ⟨rfl, rfl, rfl, rfl, rfl, trivial⟩⟩
         ·rintro a w1 ⟨h288, hs⟩
          subst h288
          refine st_val hs (y_pickF rfl rfl) trivial rfl rfl fun a hs => ?_
          refine wpList_nil ?_
          have hsh := Option.some.inj hsh
          subst hsh
          refine then_normal ?_
          exact ⟨Sv260, (hs.wk rfl), (hw.ft [0] [1, 0] (by decide) rfl rfl)⟩
      ·rintro a w ⟨Sv278, hs, hw⟩
       refine st_val hs (y_move rfl) trivial rfl rfl fun a hs => ?_
       refine wpl_join 3 (fun a w1 => w = w1 ∧ Sl 118 [(5, .slice p55 rv54.1.length k56), (13, .slice p254 rv253.1.length k255), (109, .bool (c277 && (rv253.2 == 0)))] a) ?_ ?_
       ·rcases Bool.eq_false_or_eq_true c277 with h290 | h290
        ·have hs := hs.fix 106 (.bool true) rfl (vb h290)
         refine st_val hs (y_move rfl) ⟨_, rfl, rfl⟩ rfl rfl fun a hs => ?_
         refine st_val hs (y_eql rfl rfl) ⟨_, rfl, rfl⟩ rfl rfl fun a hs => ?_
         refine st_val hs (y_pickT rfl rfl) trivial rfl rfl fun a hs => ?_
         refine wpList_nil ?_
         refine then_normal ?_
         exact ⟨rfl, (hs.fix 109 (.bool (c277 && (rv253.2 == 0))) rfl (and_t h290)).weaken _ ⟨rfl, rfl, rfl, trivial⟩⟩
        ·have hs := hs.fix 106 (.bool false) rfl (vb h290)
         refine st_skip hs rfl rfl rfl rfl rfl fun a hs => ?_
         refine st_skip hs rfl rfl rfl rfl rfl fun a hs => ?_
         refine st_val hs (y_pickF rfl rfl) trivial rfl rfl fun a hs => ?_
         refine wpList_nil ?_
         refine then_normal ?_
         exact ⟨rfl, (hs.fix 109 (.bool (c277 && (rv253.2 == 0))) rfl (and_f h290)).weaken _ ⟨rfl, rfl, rfl, trivial⟩⟩
       ·rintro a w1 ⟨h325, hs⟩
        subst h325
        refine st_val hs (y_move rfl) trivial rfl rfl fun a hs => ?_
        obtain ⟨c299, hc299, hsh⟩ := bind_t hsh
        refine wpl_join 4 (fun a w => ∃ (Sv300 : Nat → Prop), Sl 118 [(114, .bool c299)] a ∧ Wd ⟨w0, S0, []⟩ Sv300 [] [] w) ?_ ?_
        ·rcases Bool.eq_false_or_eq_true (c277 && (rv253.2 == 0)) with h298 | h298
         ·have hs := hs.fix 110 (.bool true) rfl (vb h298)
          have hsh := ite_t hc299 h298
          refine st_val hs (y_move rfl) ⟨_, rfl, rfl⟩ rfl rfl fun a hs => ?_
          refine st_val hs (y_move rfl) ⟨_, rfl, rfl⟩ rfl rfl fun a hs => ?_
          obtain ⟨rv302, h301, hsh⟩ := bind_t hsh
          refine st_callR hs (ref05_Same_ok h301 hw.bdom (hw.bRow 0 rfl 1 rfl) (hw.bE 0 rfl)) (do_call Try.call23 rfl) ⟨_, rfl, rfl⟩ rfl rfl ?_
          intro v306 Sv303 w a h304 h305 hs
          subst h305
          have hw := hw.callB h304
          refine st_val hs (y_pickT rfl rfl) trivial rfl rfl fun a hs => ?_
          refine wpList_nil ?_
          have hsh := Option.some.inj hsh
          subst hsh
          refine then_normal ?_
          exact ⟨Sv278, (hs.wk rfl), (hw.ft [] [] (by decide) rfl rfl)⟩
         ·have hs := hs.fix 110 (.bool false) rfl (vb h298)
          have hsh := ite_f hc299 h298
          refine st_skip hs rfl rfl rfl rfl rfl fun a hs => ?_
          refine st_skip hs rfl rfl rfl rfl rfl fun a hs => ?_
          refine st_skip hs rfl rfl rfl rfl rfl fun a hs => ?_
          refine st_val hs (y_pickF rfl rfl) trivial rfl rfl fun a hs => ?_
          refine wpList_nil ?_
          have hsh := Option.some.inj hsh
          subst hsh
          refine then_normal ?_
          exact ⟨Sv278, (hs.wk rfl), (hw.ft [] [] (by decide) rfl rfl)⟩
        ·rintro a w ⟨Sv300, hs, hw⟩
         refine st_val hs (y_move rfl) trivial rfl rfl fun a hs => ?_
         obtain ⟨c316, hc316, hsh⟩ := bind_t hsh
         refine wpl_join 2 (fun a w => ∃ (Sv317 : Nat → Prop), Sl 118 [(117, .bool c316)] a ∧ Wd ⟨w0, S0, []⟩ Sv317 [] [] w) ?_ ?_
         ·rcases Bool.eq_false_or_eq_true c299 with h315 | h315
          ·have hs := hs.fix 115 (.bool true) rfl (vb h315)
           have hsh := ite_t hc316 h315
           obtain ⟨rv319, h318, hsh⟩ := bind_t hsh
           refine st_callR hs (law21_sane_ok h318 hw.bdom) (do_call Try.call11 rfl) ⟨_, rfl, rfl⟩ rfl rfl ?_
           intro v323 Sv320 w a h321 h322 hs
           subst h322
           have hw := hw.callB h321
           refine st_val hs (y_pickT rfl rfl) trivial rfl rfl fun a hs => ?_
           refine wpList_nil ?_
           have hsh := Option.some.inj hsh
           subst hsh
           refine then_normal ?_
           exact ⟨Sv300, (hs.wk rfl), (hw.ft [] [] (by decide) rfl rfl)⟩
          ·have hs := hs.fix 115 (.bool false) rfl (vb h315)
           have hsh := ite_f hc316 h315
           refine st_skip hs rfl rfl rfl rfl rfl fun a hs => ?_
           refine st_val hs (y_pickF rfl rfl) trivial rfl rfl fun a hs => ?_
           refine wpList_nil ?_
           have hsh := Option.some.inj hsh
           subst hsh
           refine then_normal ?_
           exact ⟨Sv300, (hs.wk rfl), (hw.ft [] [] (by decide) rfl rfl)⟩
         ·rintro a w ⟨Sv317, hs, hw⟩
          refine st_val hs (y_assign rfl) trivial rfl rfl fun a hs => ?_
          refine wpList_nil ?_
          refine then_normal ?_
          have hsh := Option.some.inj hsh
          subst hsh
          refine wp_ret ?_
          exact ret1 hs rfl (rv_tmp rfl) (hw.ret rfl)

end Go.Proofs.Ytmihimhknllmcaa.Wk

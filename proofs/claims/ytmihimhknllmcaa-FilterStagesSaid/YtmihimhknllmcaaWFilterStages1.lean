/- The walks of FilterStages, part 1: each Go function computes what its plain program computes. Printed by a program of ours. -/
import Derived.Test.YtmihimhknllmcaaProg
import Derived.Test.YtmihimhknllmcaaDat
import Derived.Test.YtmihimhknllmcaaSh
import Derived.Test.YtmihimhknllmcaaLibL
import Derived.KernelRfl
namespace Go.Proofs.Ytmihimhknllmcaa.Wk
open Go Go.RowKit Go.Proofs Go.Proofs.Ytmihimhknllmcaa.Sh
set_option linter.unusedVariables false
set_option linter.unusedSimpArgs false

theorem El22 : ElT Try.prog 22 3 1 8 (.int .i64 0) := ⟨Try.underlying22, ⟨Try.t3, info_of Try.type3, rfl, rfl, rfl⟩, rfl, by decide⟩
theorem Bld28 : BldT Try.prog 28 ((#[(0, 1), (1, 1), (2, 1)] : Array (Nat × Nat))[·]?) [.slice none ([] : List Int).length 0, .int .i64 0, .int .i64 0] := bld_of Try.zeroValue28 rfl Try.runUnderlying28 (fun w => by simp [Try.sizeOf3, Try.sizeOf22])
theorem Bld43 : BldT Try.prog 43 (fun i => some (i * 1, 1)) [.int .i64 0, .int .i64 0, .int .i64 0] := bld_arr Try.zeroValue43 rfl Try.runUnderlying43 Try.sizeOf3
theorem Bld45 : BldT Try.prog 45 ((#[(0, 1), (1, 3), (4, 3), (7, 1), (8, 1), (9, 1)] : Array (Nat × Nat))[·]?) [.int .i64 0, .int .i64 0, .int .i64 0, .int .i64 0, .int .i64 0, .int .i64 0, .int .i64 0, .slice none ([] : List Int).length 0, .int .i64 0, .int .i64 0] := bld_of Try.zeroValue45 rfl Try.runUnderlying45 (fun w => by simp [Try.sizeOf3, Try.sizeOf22, Try.sizeOf43])
theorem Bld75 : BldT Try.prog 75 ((#[(0, 1), (1, 1)] : Array (Nat × Nat))[·]?) [.slice none ([] : List Int).length 0, .int .i64 0] := bld_of Try.zeroValue75 rfl Try.runUnderlying75 (fun w => by simp [Try.sizeOf3, Try.sizeOf22])

abbrev made_Light_rd (w0 : World) (X : List Nat) (r : Bool) : (Nat → Prop) → World → Value → Prop := fun S w v => v = .bool r
set_option maxHeartbeats 4000000 in
set_option maxRecDepth 100000 in
theorem made_Light_ok {w0 : World} {S0 : Nat → Prop} {p2 : Option Addr} {k3 : Nat} {l1 : (List Int)} {r : Bool} (hsh : made_Light l1 = some r) (hS : ∀ b, S0 b → b < w0.heap.size) (h4 : (SlA p2 l1.length k3 l1).p S0 w0) : Calls Try.prog 10 #[.slice p2 l1.length k3] w0 (Ret ([]) w0 S0 (made_Light_rd w0 ([]) r)) := by
 refine calls_of_wp Try.func10 rfl ?_
 have hs := Sl.enter #[.slice p2 l1.length k3] 6 [(0, .slice p2 l1.length k3)] rfl ⟨rfl, trivial⟩
 have hw := Wd.enter (E := []) hS (fun _ h => (by cases h))
 have hw := hw.addE h4
 delta made_Light at hsh
 refine wp_seq ?_
 refine wp_region_lit ?_
 refine st_val hs (y_assign rfl) trivial rfl rfl fun a hs => ?_
 refine wpList_nil ?_
 refine then_normal ?_
 refine wp_seq ?_
 refine wp_region_lit ?_
 refine st_val hs (y_move rfl) trivial rfl rfl fun a hs => ?_
 refine st_val hs (y_len Try.runUnderlying22 rfl) trivial rfl rfl fun a hs => ?_
 refine st_val hs (y_leq rfl rfl) trivial rfl rfl fun a hs => ?_
 refine st_val hs (y_assign rfl) trivial rfl rfl fun a hs => ?_
 refine wpList_nil ?_
 refine then_normal ?_
 have hsh := Option.some.inj hsh
 subst hsh
 refine wp_ret ?_
 exact ret1 hs rfl (rv_tmp rfl) (hw.ret rfl)

abbrev filter_in_rd (w0 : World) (X : List Nat) (r : Bool) : (Nat → Prop) → World → Value → Prop := fun S w v => v = .bool r
set_option maxHeartbeats 4000000 in
set_option maxRecDepth 100000 in
theorem filter_in_ok {w0 : World} {S0 : Nat → Prop} {n1 : Int} {low2 : Int} {high3 : Int} {r : Bool} (hsh : filter_in n1 low2 high3 = some r) (hS : ∀ b, S0 b → b < w0.heap.size) : Calls Try.prog 46 #[.int .i64 n1, .int .i64 low2, .int .i64 high3] w0 (Ret ([]) w0 S0 (filter_in_rd w0 ([]) r)) := by
 refine calls_of_wp Try.func46 rfl ?_
 have hs := Sl.enter #[.int .i64 n1, .int .i64 low2, .int .i64 high3] 15 [(0, .int .i64 n1), (1, .int .i64 low2), (2, .int .i64 high3)] rfl ⟨rfl, rfl, rfl, trivial⟩
 have hw := Wd.enter (E := []) hS (fun _ h => (by cases h))
 delta filter_in at hsh
 refine wp_seq ?_
 refine wp_region_lit ?_
 refine st_val hs (y_assign rfl) trivial rfl rfl fun a hs => ?_
 refine wpList_nil ?_
 refine then_normal ?_
 refine wp_seq ?_
 refine wp_region_lit ?_
 refine st_val hs (y_move rfl) trivial rfl rfl fun a hs => ?_
 refine st_val hs (y_move rfl) trivial rfl rfl fun a hs => ?_
 refine st_val hs (y_geq rfl rfl) trivial rfl rfl fun a hs => ?_
 refine st_val hs (y_move rfl) trivial rfl rfl fun a hs => ?_
 refine wpl_join 4 (fun a w1 => w0 = w1 ∧ Sl 15 [(14, .bool ((decide (low2 ≤ n1)) && (decide (n1 ≤ high3))))] a) ?_ ?_
 ·rcases Bool.eq_false_or_eq_true (decide (low2 ≤ n1)) with h4 | h4
  ·have hs := hs.fix 10 (.bool true) rfl (vb h4)
   refine st_val hs (y_move rfl) ⟨_, rfl, rfl⟩ rfl rfl fun a hs => ?_
   refine st_val hs (y_move rfl) ⟨_, rfl, rfl⟩ rfl rfl fun a hs => ?_
   refine st_val hs (y_leq rfl rfl) ⟨_, rfl, rfl⟩ rfl rfl fun a hs => ?_
   refine st_val hs (y_pickT rfl rfl) trivial rfl rfl fun a hs => ?_
   refine wpList_nil ?_
   refine then_normal ?_
   exact ⟨rfl, (hs.fix 14 (.bool ((decide (low2 ≤ n1)) && (decide (n1 ≤ high3)))) rfl (and_t h4)).weaken _ ⟨rfl, trivial⟩⟩
  ·have hs := hs.fix 10 (.bool false) rfl (vb h4)
   refine st_skip hs rfl rfl rfl rfl rfl fun a hs => ?_
   refine st_skip hs rfl rfl rfl rfl rfl fun a hs => ?_
   refine st_skip hs rfl rfl rfl rfl rfl fun a hs => ?_
   refine st_val hs (y_pickF rfl rfl) trivial rfl rfl fun a hs => ?_
   refine wpList_nil ?_
   refine then_normal ?_
   exact ⟨rfl, (hs.fix 14 (.bool ((decide (low2 ≤ n1)) && (decide (n1 ≤ high3)))) rfl (and_f h4)).weaken _ ⟨rfl, trivial⟩⟩
 ·rintro a w1 ⟨h5, hs⟩
  subst h5
  refine st_val hs (y_assign rfl) trivial rfl rfl fun a hs => ?_
  refine wpList_nil ?_
  refine then_normal ?_
  have hsh := Option.some.inj hsh
  subst hsh
  refine wp_ret ?_
  exact ret1 hs rfl (rv_tmp rfl) (hw.ret rfl)

abbrev filter_Valid_rd (w0 : World) (X : List Nat) (r : Bool) : (Nat → Prop) → World → Value → Prop := fun S w v => v = .bool r
set_option maxHeartbeats 4000000 in
set_option maxRecDepth 100000 in
theorem filter_Valid_ok {w0 : World} {S0 : Nat → Prop} {p2 : Option Addr} {k3 : Nat} {f1 : Filter} {r : Bool} (hsh : filter_Valid f1 = some r) (hS : ∀ b, S0 b → b < w0.heap.size) (h4 : (SlA p2 f1.Taps.length k3 f1.Taps).p S0 w0) : Calls Try.prog 32 #[.agg #[.slice p2 f1.Taps.length k3, .int .i64 f1.Factor, .int .i64 f1.Shift]] w0 (Ret ([]) w0 S0 (filter_Valid_rd w0 ([]) r)) := by
 refine calls_of_wp Try.func32 rfl ?_
 have hs := Sl.enter #[.agg #[.slice p2 f1.Taps.length k3, .int .i64 f1.Factor, .int .i64 f1.Shift]] 45 [(0, .agg #[.slice p2 f1.Taps.length k3, .int .i64 f1.Factor, .int .i64 f1.Shift])] rfl ⟨rfl, trivial⟩
 have hw := Wd.enter (E := []) hS (fun _ h => (by cases h))
 have hw := hw.addE h4
 delta filter_Valid at hsh
 refine wp_seq ?_
 refine wp_region_lit ?_
 refine w_box (cs := [.slice p2 f1.Taps.length k3, .int .i64 f1.Factor, .int .i64 f1.Shift]) hs hw rfl rfl rfl trivial ?_
 intro b5 a w hs hw
 refine st_val hs (y_assign rfl) trivial rfl rfl fun a hs => ?_
 refine wpList_nil ?_
 refine then_normal ?_
 refine wp_seq ?_
 refine wp_seq ?_
 refine wp_region_lit ?_
 refine st_val hs (y_fieldAddr (o' := 0) Try.runUnderlying28 rfl Try.sizeOf22 rfl rfl rfl) trivial rfl rfl fun a hs => ?_
 refine st_val hs (y_loadB1 (hw.ownAt 0 rfl) rfl Try.isAgg22 rfl) trivial rfl rfl fun a hs => ?_
 refine st_val hs (y_len Try.runUnderlying22 rfl) trivial rfl rfl fun a hs => ?_
 obtain ⟨rv7, h6, hsh⟩ := bind_t hsh
 refine st_callR hs (filter_in_ok h6 hw.bdom) (do_call Try.call46 rfl) trivial rfl rfl ?_
 intro v11 Sv8 w a h9 h10 hs
 subst h10
 have hw := hw.callB h9
 refine st_val hs (y_not rfl) trivial rfl rfl fun a hs => ?_
 refine st_val hs (y_move rfl) trivial rfl rfl fun a hs => ?_
 obtain ⟨c21, hc21, hsh⟩ := bind_t hsh
 refine wpl_join 5 (fun a w => ∃ (Sv22 : Nat → Prop), Sl 45 [(1, .pointer (some ⟨b5, 0, none⟩)), (16, .bool c21)] a ∧ Wd ⟨w0, S0, []⟩ Sv22 [.box b5 [.slice p2 f1.Taps.length k3, .int .i64 f1.Factor, .int .i64 f1.Shift] 28] [SlA p2 f1.Taps.length k3 f1.Taps] w) ?_ ?_
 ·rcases Bool.eq_false_or_eq_true (!rv7) with h20 | h20
  ·have hs := hs.fix 11 (.bool true) rfl (vb h20)
   have hsh := ite_t hc21 h20
   refine st_skip hs rfl rfl rfl rfl rfl fun a hs => ?_
   refine st_skip hs rfl rfl rfl rfl rfl fun a hs => ?_
   refine st_skip hs rfl rfl rfl rfl rfl fun a hs => ?_
   refine st_skip hs rfl rfl rfl rfl rfl fun a hs => ?_
   refine st_val hs (y_pickT rfl rfl) trivial rfl rfl fun a hs => ?_
   refine wpList_nil ?_
   have hsh := Option.some.inj hsh
   subst hsh
   refine then_normal ?_
   exact ⟨S0, (hs.wk rfl), (hw.ft [0] [0] (by decide) rfl rfl)⟩
  ·have hs := hs.fix 11 (.bool false) rfl (vb h20)
   have hsh := ite_f hc21 h20
   refine st_val hs (y_fieldAddr (o' := 2) Try.runUnderlying28 rfl Try.sizeOf3 rfl rfl rfl) ⟨_, rfl, rfl⟩ rfl rfl fun a hs => ?_
   refine st_val hs (y_loadB1 (hw.ownAt 0 rfl) rfl Try.isAgg3 rfl) ⟨_, rfl, rfl⟩ rfl rfl fun a hs => ?_
   obtain ⟨rv24, h23, hsh⟩ := bind_t hsh
   refine st_callR hs (filter_in_ok h23 hw.bdom) (do_call Try.call46 rfl) ⟨_, rfl, rfl⟩ rfl rfl ?_
   intro v28 Sv25 w a h26 h27 hs
   subst h27
   have hw := hw.callB h26
   refine st_val hs (y_not rfl) ⟨_, rfl, rfl⟩ rfl rfl fun a hs => ?_
   refine st_val hs (y_pickF rfl rfl) trivial rfl rfl fun a hs => ?_
   refine wpList_nil ?_
   have hsh := Option.some.inj hsh
   subst hsh
   refine then_normal ?_
   exact ⟨S0, (hs.wk rfl), (hw.ft [0] [0] (by decide) rfl rfl)⟩
 ·rintro a w ⟨Sv22, hs, hw⟩
  refine st_val hs (y_move rfl) trivial rfl rfl fun a hs => ?_
  obtain ⟨c38, hc38, hsh⟩ := bind_t hsh
  refine wpl_join 5 (fun a w => ∃ (Sv39 : Nat → Prop), Sl 45 [(1, .pointer (some ⟨b5, 0, none⟩)), (22, .bool c38)] a ∧ Wd ⟨w0, S0, []⟩ Sv39 [.box b5 [.slice p2 f1.Taps.length k3, .int .i64 f1.Factor, .int .i64 f1.Shift] 28] [SlA p2 f1.Taps.length k3 f1.Taps] w) ?_ ?_
  ·rcases Bool.eq_false_or_eq_true c21 with h37 | h37
   ·have hs := hs.fix 17 (.bool true) rfl (vb h37)
    have hsh := ite_t hc38 h37
    refine st_skip hs rfl rfl rfl rfl rfl fun a hs => ?_
    refine st_skip hs rfl rfl rfl rfl rfl fun a hs => ?_
    refine st_skip hs rfl rfl rfl rfl rfl fun a hs => ?_
    refine st_skip hs rfl rfl rfl rfl rfl fun a hs => ?_
    refine st_val hs (y_pickT rfl rfl) trivial rfl rfl fun a hs => ?_
    refine wpList_nil ?_
    have hsh := Option.some.inj hsh
    subst hsh
    refine then_normal ?_
    exact ⟨Sv22, (hs.wk rfl), (hw.ft [0] [0] (by decide) rfl rfl)⟩
   ·have hs := hs.fix 17 (.bool false) rfl (vb h37)
    have hsh := ite_f hc38 h37
    refine st_val hs (y_fieldAddr (o' := 1) Try.runUnderlying28 rfl Try.sizeOf3 rfl rfl rfl) ⟨_, rfl, rfl⟩ rfl rfl fun a hs => ?_
    refine st_val hs (y_loadB1 (hw.ownAt 0 rfl) rfl Try.isAgg3 rfl) ⟨_, rfl, rfl⟩ rfl rfl fun a hs => ?_
    obtain ⟨rv41, h40, hsh⟩ := bind_t hsh
    refine st_callR hs (filter_in_ok h40 hw.bdom) (do_call Try.call46 rfl) ⟨_, rfl, rfl⟩ rfl rfl ?_
    intro v45 Sv42 w a h43 h44 hs
    subst h44
    have hw := hw.callB h43
    refine st_val hs (y_not rfl) ⟨_, rfl, rfl⟩ rfl rfl fun a hs => ?_
    refine st_val hs (y_pickF rfl rfl) trivial rfl rfl fun a hs => ?_
    refine wpList_nil ?_
    have hsh := Option.some.inj hsh
    subst hsh
    refine then_normal ?_
    exact ⟨Sv22, (hs.wk rfl), (hw.ft [0] [0] (by decide) rfl rfl)⟩
  ·rintro a w ⟨Sv39, hs, hw⟩
   refine wpList_nil ?_
   refine then_normal ?_
   refine wp_cond_split (hs.ev rfl) (fun h48 => ?_) (fun h48 => ?_)
   ·have hsh := ite_t hsh h48
    refine wp_seq ?_
    refine wp_region_lit ?_
    refine st_val hs (y_assign rfl) trivial rfl rfl fun a hs => ?_
    refine wpList_nil ?_
    refine then_normal ?_
    have hsh := Option.some.inj hsh
    subst hsh
    refine wp_ret ?_
    refine then_ret ?_
    exact ret1 hs rfl (rv_tmp rfl) (hw.ret rfl)
   ·have hsh := ite_f hsh h48
    refine wp_skip ?_
    refine then_normal ?_
    refine wp_seq ?_
    refine wp_region_lit ?_
    refine st_val hs (y_assign rfl) trivial rfl rfl fun a hs => ?_
    refine wpList_nil ?_
    refine then_normal ?_
    refine wp_seq ?_
    refine wp_seq ?_
    refine wp_region_lit ?_
    refine st_val hs (y_fieldAddr (o' := 0) Try.runUnderlying28 rfl Try.sizeOf22 rfl rfl rfl) trivial rfl rfl fun a hs => ?_
    refine st_val hs (y_loadB1 (hw.ownAt 0 rfl) rfl Try.isAgg22 rfl) trivial rfl rfl fun a hs => ?_
    refine st_val hs (y_len Try.runUnderlying22 rfl) trivial rfl rfl fun a hs => ?_
    refine st_val hs (y_move rfl) trivial rfl rfl fun a hs => ?_
    refine wpList_nil ?_
    refine then_normal ?_
    refine wp_block ?_
    refine wp_while (fun sv126 a w => ∃ (Sv176 : Nat → Prop), Sl 45 [(1, .pointer (some ⟨b5, 0, none⟩)), (3, .int .i64 sv126.1), (24, .slice p2 f1.Taps.length k3), (25, .int .i64 (f1.Taps.length : Int)), (26, .int .i64 sv126.2)] a ∧ Wd ⟨w0, S0, []⟩ Sv176 [.box b5 [.slice p2 f1.Taps.length k3, .int .i64 f1.Factor, .int .i64 f1.Shift] 28] [SlA p2 f1.Taps.length k3 f1.Taps] w) (0, 0) hsh ⟨Sv39, (hs.wk rfl), (hw.ft [0] [0] (by decide) rfl rfl)⟩ ?_
    repeat clear hsh
    rintro sv126 a w tv202 ⟨Sv176, hs, hw⟩ hsh hd201
    delta filter_Valid_l2 at hsh
    refine wp_seq ?_
    refine wp_region_lit ?_
    refine st_val hs (y_lss rfl rfl) trivial rfl rfl fun a hs => ?_
    refine wpList_nil ?_
    refine then_normal ?_
    refine wp_seq ?_
    refine wp_cond_split (hs.ev rfl) (fun h206 => ?_) (fun h206 => ?_)
    ·have hsh := ite_t hsh h206
     refine wp_skip ?_
     refine then_normal ?_
     refine wp_seq ?_
     refine wp_block ?_
     refine wp_seq ?_
     refine wp_region_lit ?_
     obtain ⟨x232, h230, hsh⟩ := bind_t hsh
     obtain ⟨b238, o239, q236, c237, h240, h233, h234, h235, h231⟩ := hw.elemV 0 rfl h230
     have hsv241 := hs
     have hwv242 := hw
     subst h240
     have hs := hsv241
     have hw := hwv242
     obtain ⟨_, rfl, rfl⟩ := h231
     have hw := hw.addE h235
     refine st_val hs (y_indexAt Try.runUnderlying22 Try.sizeOf3 rfl rfl h233.1 h233.2 h234) trivial rfl rfl fun a hs => ?_
     refine st_val hs (y_loadE1 (j := 0) (hw.ceAt 0 rfl) rfl Try.isAgg3 rfl) trivial rfl rfl fun a hs => ?_
     refine st_val hs (y_assign rfl) trivial rfl rfl fun a hs => ?_
     refine wpList_nil ?_
     refine then_normal ?_
     refine wp_seq ?_
     refine wp_seq ?_
     refine wp_region_lit ?_
     refine st_val hs (y_move rfl) trivial rfl rfl fun a hs => ?_
     obtain ⟨rv244, h243, hsh⟩ := bind_t hsh
     refine st_callR hs (filter_in_ok h243 hw.bdom) (do_call Try.call46 rfl) trivial rfl rfl ?_
     intro v248 Sv245 w a h246 h247 hs
     subst h247
     have hw := hw.callB h246
     refine st_val hs (y_not rfl) trivial rfl rfl fun a hs => ?_
     refine wpList_nil ?_
     refine then_normal ?_
     refine wp_cond_split (hs.ev rfl) (fun h251 => ?_) (fun h251 => ?_)
     ·have hsh := ite_t hsh h251
      refine wp_seq ?_
      refine wp_region_lit ?_
      refine st_val hs (y_assign rfl) trivial rfl rfl fun a hs => ?_
      refine wpList_nil ?_
      refine then_normal ?_
      have hsh := Option.some.inj hsh
      subst hsh
      have h252 := hd201 _ rfl
      subst h252
      refine wp_ret ?_
      refine then_ret ?_
      refine blk_ret ?_
      refine then_ret ?_
      refine then_ret ?_
      refine blk_ret ?_
      refine then_ret ?_
      exact ret1 hs rfl (rv_tmp rfl) (hw.ret rfl)
     ·have hsh := ite_f hsh h251
      refine wp_skip ?_
      refine then_normal ?_
      refine wp_region_lit ?_
      refine st_val hs (y_move rfl) trivial rfl rfl fun a hs => ?_
      refine st_val hs (y_move rfl) trivial rfl rfl fun a hs => ?_
      refine st_val hs (y_move rfl) trivial rfl rfl fun a hs => ?_
      refine st_val hs (y_neg rfl) trivial rfl rfl fun a hs => ?_
      refine st_val hs (y_max rfl rfl) trivial rfl rfl fun a hs => ?_
      refine st_val hs (y_add rfl rfl) trivial rfl rfl fun a hs => ?_
      obtain ⟨sum254, h253, hsh⟩ := bind_t hsh
      refine st_val hs (y_assignI rfl h253) trivial rfl rfl fun a hs => ?_
      refine wpList_nil ?_
      refine blk_normal ?_
      refine then_normal ?_
      refine wp_region_lit ?_
      refine st_val hs (y_add rfl rfl) trivial rfl rfl fun a hs => ?_
      refine st_val hs (y_move rfl) trivial rfl rfl fun a hs => ?_
      refine wpList_nil ?_
      refine then_normal ?_
      exact ⟨_, (Option.some.inj hsh).symm, Sv176, (hs.wk rfl), (hw.ft [0] [1] (by decide) rfl rfl)⟩
    ·have hsh := ite_f hsh h206
     obtain ⟨rv257, hsh, h258⟩ := map_t hsh
     have h258 := (hd201 _ h258.symm).symm
     subst h258
     refine wp_exit ?_
     refine then_exit ?_
     refine then_exit ?_
     refine blk_exit ?_
     refine then_normal ?_
     refine wp_seq ?_
     refine wp_region_lit ?_
     refine st_val hs (y_move rfl) trivial rfl rfl fun a hs => ?_
     refine st_val hs (y_fieldAddr (o' := 2) Try.runUnderlying28 rfl Try.sizeOf3 rfl rfl rfl) trivial rfl rfl fun a hs => ?_
     refine st_val hs (y_loadB1 (hw.ownAt 0 rfl) rfl Try.isAgg3 rfl) trivial rfl rfl fun a hs => ?_
     obtain ⟨shl256, h255, hsh⟩ := bind_t hsh
     refine st_val hs (y_shlM rfl rfl h255) trivial rfl rfl fun a hs => ?_
     refine st_val hs (y_leq rfl rfl) trivial rfl rfl fun a hs => ?_
     refine st_val hs (y_assign rfl) trivial rfl rfl fun a hs => ?_
     refine wpList_nil ?_
     refine then_normal ?_
     have hsh := Option.some.inj hsh
     subst hsh
     refine wp_ret ?_
     exact ret1 hs rfl (rv_tmp rfl) (hw.ret rfl)

abbrev slices_IndexFunc_Lint_int_rd (w0 : World) (X : List Nat) (r : Int) : (Nat → Prop) → World → Value → Prop := fun S w v => v = .int .i64 r
set_option maxHeartbeats 4000000 in
set_option maxRecDepth 100000 in
theorem slices_IndexFunc_Lint_int_ok {w0 : World} {S0 : Nat → Prop} {p2 : Option Addr} {k3 : Nat} {g6 : Nat} {f7 : List Value} {cp8 : List Value} {s1 : (List Int)} {f5 : Int → Option Bool} {r : Int} (hsh : slices_IndexFunc_Lint_int s1 f5 = some r) (hS : ∀ b, S0 b → b < w0.heap.size) (h4 : (SlA p2 s1.length k3 s1).p S0 w0) (h9 : (FnA1 Try.prog g6 f7 cp8 f5).p S0 w0) : Calls Try.prog 72 #[.slice p2 s1.length k3, .func (.func g6) f7.toArray cp8.toArray] w0 (Ret ([]) w0 S0 (slices_IndexFunc_Lint_int_rd w0 ([]) r)) := by
 refine calls_of_wp Try.func72 rfl ?_
 have hs := Sl.enter #[.slice p2 s1.length k3, .func (.func g6) f7.toArray cp8.toArray] 19 [(0, .slice p2 s1.length k3), (1, .func (.func g6) f7.toArray cp8.toArray)] rfl ⟨rfl, rfl, trivial⟩
 have hw := Wd.enter (E := []) hS (fun _ h => (by cases h))
 have hw := hw.addE h4
 have hw := hw.addE h9
 delta slices_IndexFunc_Lint_int at hsh
 refine wp_seq ?_
 refine wp_region_lit ?_
 refine st_val hs (y_assign rfl) trivial rfl rfl fun a hs => ?_
 refine wpList_nil ?_
 refine then_normal ?_
 refine wp_seq ?_
 refine wp_seq ?_
 refine wp_region_lit ?_
 refine st_val hs (y_move rfl) trivial rfl rfl fun a hs => ?_
 refine st_val hs (y_len Try.runUnderlying22 rfl) trivial rfl rfl fun a hs => ?_
 refine st_val hs (y_move rfl) trivial rfl rfl fun a hs => ?_
 refine wpList_nil ?_
 refine then_normal ?_
 refine wp_block ?_
 refine wp_while (fun sv78 a w => ∃ (Sv122 : Nat → Prop), Sl 19 [(0, .slice p2 s1.length k3), (1, .func (.func g6) f7.toArray cp8.toArray), (7, .int .i64 (s1.length : Int)), (8, .int .i64 sv78)] a ∧ Wd ⟨w0, S0, []⟩ Sv122 [] [SlA p2 s1.length k3 s1, FnA1 Try.prog g6 f7 cp8 f5] w) 0 hsh ⟨S0, (hs.wk rfl), (hw.ft [] [1, 0] (by decide) rfl rfl)⟩ ?_
 repeat clear hsh
 rintro sv78 a w tv145 ⟨Sv122, hs, hw⟩ hsh hd144
 delta slices_IndexFunc_Lint_int_l2 at hsh
 refine wp_seq ?_
 refine wp_region_lit ?_
 refine st_val hs (y_lss rfl rfl) trivial rfl rfl fun a hs => ?_
 refine wpList_nil ?_
 refine then_normal ?_
 refine wp_seq ?_
 refine wp_cond_split (hs.ev rfl) (fun h149 => ?_) (fun h149 => ?_)
 ·have hsh := ite_t hsh h149
  refine wp_skip ?_
  refine then_normal ?_
  refine wp_seq ?_
  refine wp_block ?_
  refine wp_seq ?_
  refine wp_region_lit ?_
  refine st_val hs (y_move rfl) trivial rfl rfl fun a hs => ?_
  refine st_val hs (y_assign rfl) trivial rfl rfl fun a hs => ?_
  refine wpList_nil ?_
  refine then_normal ?_
  refine wp_seq ?_
  refine wp_region_lit ?_
  refine st_val hs (y_move rfl) trivial rfl rfl fun a hs => ?_
  refine st_val hs (y_move rfl) trivial rfl rfl fun a hs => ?_
  refine st_val hs (y_move rfl) trivial rfl rfl fun a hs => ?_
  obtain ⟨x172, h170, hsh⟩ := bind_t hsh
  obtain ⟨b178, o179, q176, c177, h180, h173, h174, h175, h171⟩ := hw.elemV 0 rfl h170
  have hsv181 := hs
  have hwv182 := hw
  subst h180
  have hs := hsv181
  have hw := hwv182
  obtain ⟨_, rfl, rfl⟩ := h171
  have hw := hw.addE h175
  refine st_val hs (y_indexAt Try.runUnderlying22 Try.sizeOf3 rfl rfl h173.1 h173.2 h174) trivial rfl rfl fun a hs => ?_
  refine st_val hs (y_loadE1 (j := 0) (hw.ceAt 0 rfl) rfl Try.isAgg3 rfl) trivial rfl rfl fun a hs => ?_
  obtain ⟨rv184, h183, hsh⟩ := bind_t hsh
  refine st_callR hs ((hw.bE 2 rfl).2 Keep.rfl' hw.bdom ⟨_, rfl, rfl⟩ h183) (do_callF (hw.bE 2 rfl).1 rfl rfl) trivial rfl rfl ?_
  intro v188 Sv185 w a h186 h187 hs
  subst h187
  have hw := hw.callB h186
  refine wpList_nil ?_
  refine then_normal ?_
  refine wp_cond_split (hs.ev rfl) (fun h190 => ?_) (fun h190 => ?_)
  ·have hsh := ite_t hsh h190
   refine wp_seq ?_
   refine wp_region_lit ?_
   refine st_val hs (y_move rfl) trivial rfl rfl fun a hs => ?_
   refine st_val hs (y_assign rfl) trivial rfl rfl fun a hs => ?_
   refine wpList_nil ?_
   refine then_normal ?_
   have hsh := Option.some.inj hsh
   subst hsh
   have h191 := hd144 _ rfl
   subst h191
   refine wp_ret ?_
   refine blk_ret ?_
   refine then_ret ?_
   refine then_ret ?_
   refine blk_ret ?_
   refine then_ret ?_
   exact ret1 hs rfl (rv_tmp rfl) (hw.ret rfl)
  ·have hsh := ite_f hsh h190
   refine wp_skip ?_
   refine blk_normal ?_
   refine then_normal ?_
   refine wp_region_lit ?_
   refine st_val hs (y_add rfl rfl) trivial rfl rfl fun a hs => ?_
   refine st_val hs (y_move rfl) trivial rfl rfl fun a hs => ?_
   refine wpList_nil ?_
   refine then_normal ?_
   exact ⟨_, (Option.some.inj hsh).symm, Sv122, (hs.wk rfl), (hw.ft [] [1, 2] (by decide) rfl rfl)⟩
 ·have hsh := ite_f hsh h149
  obtain ⟨rv192, hsh, h193⟩ := map_t hsh
  have h193 := (hd144 _ h193.symm).symm
  subst h193
  refine wp_exit ?_
  refine then_exit ?_
  refine then_exit ?_
  refine blk_exit ?_
  refine then_normal ?_
  refine wp_seq ?_
  refine wp_region_lit ?_
  refine st_val hs (y_assign rfl) trivial rfl rfl fun a hs => ?_
  refine wpList_nil ?_
  refine then_normal ?_
  have hsh := Option.some.inj hsh
  subst hsh
  refine wp_ret ?_
  exact ret1 hs rfl (rv_tmp rfl) (hw.ret rfl)

abbrev slices_ContainsFunc_Lint_int_rd (w0 : World) (X : List Nat) (r : Bool) : (Nat → Prop) → World → Value → Prop := fun S w v => v = .bool r
set_option maxHeartbeats 4000000 in
set_option maxRecDepth 100000 in
theorem slices_ContainsFunc_Lint_int_ok {w0 : World} {S0 : Nat → Prop} {p2 : Option Addr} {k3 : Nat} {g6 : Nat} {f7 : List Value} {cp8 : List Value} {s1 : (List Int)} {f5 : Int → Option Bool} {r : Bool} (hsh : slices_ContainsFunc_Lint_int s1 f5 = some r) (hS : ∀ b, S0 b → b < w0.heap.size) (h4 : (SlA p2 s1.length k3 s1).p S0 w0) (h9 : (FnA1 Try.prog g6 f7 cp8 f5).p S0 w0) : Calls Try.prog 55 #[.slice p2 s1.length k3, .func (.func g6) f7.toArray cp8.toArray] w0 (Ret ([]) w0 S0 (slices_ContainsFunc_Lint_int_rd w0 ([]) r)) := by
 refine calls_of_wp Try.func55 rfl ?_
 have hs := Sl.enter #[.slice p2 s1.length k3, .func (.func g6) f7.toArray cp8.toArray] 9 [(0, .slice p2 s1.length k3), (1, .func (.func g6) f7.toArray cp8.toArray)] rfl ⟨rfl, rfl, trivial⟩
 have hw := Wd.enter (E := []) hS (fun _ h => (by cases h))
 have hw := hw.addE h4
 have hw := hw.addE h9
 delta slices_ContainsFunc_Lint_int at hsh
 refine wp_seq ?_
 refine wp_region_lit ?_
 refine st_val hs (y_assign rfl) trivial rfl rfl fun a hs => ?_
 refine wpList_nil ?_
 refine then_normal ?_
 refine wp_seq ?_
 refine wp_region_lit ?_
 refine st_val hs (y_move rfl) trivial rfl rfl fun a hs => ?_
 refine st_val hs (y_move rfl) trivial rfl rfl fun a hs => ?_
 obtain ⟨rv11, h10, hsh⟩ := bind_t hsh
 refine st_callR hs (slices_IndexFunc_Lint_int_ok h10 hw.bdom (hw.bE 1 rfl) (hw.bE 0 rfl)) (do_call Try.call72 rfl) trivial rfl rfl ?_
 intro v15 Sv12 w a h13 h14 hs
 subst h14
 have hw := hw.callB h13
 refine st_val hs (y_geq rfl rfl) trivial rfl rfl fun a hs => ?_
 refine st_val hs (y_assign rfl) trivial rfl rfl fun a hs => ?_
 refine wpList_nil ?_
 refine then_normal ?_
 have hsh := Option.some.inj hsh
 subst hsh
 refine wp_ret ?_
 exact ret1 hs rfl (rv_tmp rfl) (hw.ret rfl)

abbrev filter_wrong_rd (w0 : World) (X : List Nat) (r : Bool) : (Nat → Prop) → World → Value → Prop := fun S w v => v = .bool r
set_option maxHeartbeats 4000000 in
set_option maxRecDepth 100000 in
theorem filter_wrong_ok {w0 : World} {S0 : Nat → Prop} {n1 : Int} {r : Bool} (hsh : filter_wrong n1 = some r) (hS : ∀ b, S0 b → b < w0.heap.size) : Calls Try.prog 56 #[.int .i64 n1] w0 (Ret ([]) w0 S0 (filter_wrong_rd w0 ([]) r)) := by
 refine calls_of_wp Try.func56 rfl ?_
 have hs := Sl.enter #[.int .i64 n1] 6 [(0, .int .i64 n1)] rfl ⟨rfl, trivial⟩
 have hw := Wd.enter (E := []) hS (fun _ h => (by cases h))
 delta filter_wrong at hsh
 refine wp_seq ?_
 refine wp_region_lit ?_
 refine st_val hs (y_assign rfl) trivial rfl rfl fun a hs => ?_
 refine wpList_nil ?_
 refine then_normal ?_
 refine wp_seq ?_
 refine wp_region_lit ?_
 refine st_val hs (y_move rfl) trivial rfl rfl fun a hs => ?_
 obtain ⟨rv3, h2, hsh⟩ := bind_t hsh
 refine st_callR hs (filter_in_ok h2 hw.bdom) (do_call Try.call46 rfl) trivial rfl rfl ?_
 intro v7 Sv4 w a h5 h6 hs
 subst h6
 have hw := hw.callB h5
 refine st_val hs (y_not rfl) trivial rfl rfl fun a hs => ?_
 refine st_val hs (y_assign rfl) trivial rfl rfl fun a hs => ?_
 refine wpList_nil ?_
 refine then_normal ?_
 have hsh := Option.some.inj hsh
 subst hsh
 refine wp_ret ?_
 exact ret1 hs rfl (rv_tmp rfl) (hw.ret rfl)

theorem filter_wrong_fn (S0 : Nat → Prop) (w0 : World) : (FnA1 Try.prog 56 [] [] filter_wrong).p S0 w0 := by
  refine ⟨Try.call56, ?_⟩
  intro S1 w1 hk hS c0 x0 r1 h0 hf
  obtain ⟨_, rfl, rfl⟩ := h0
  exact filter_wrong_ok hf hS  

abbrev filter_check_rd (w0 : World) (X : List Nat) (r : Int) : (Nat → Prop) → World → Value → Prop := fun S w v => v = .int .i64 r
set_option maxHeartbeats 4000000 in
set_option maxRecDepth 100000 in
theorem filter_check_ok {w0 : World} {S0 : Nat → Prop} {p2 : Option Addr} {k3 : Nat} {samples1 : (List Int)} {number5 : Int} {most6 : Int} {r : Int} (hsh : filter_check samples1 number5 most6 = some r) (hS : ∀ b, S0 b → b < w0.heap.size) (h4 : (SlA p2 samples1.length k3 samples1).p S0 w0) : Calls Try.prog 40 #[.slice p2 samples1.length k3, .int .i64 number5, .int .i64 most6] w0 (Ret ([]) w0 S0 (filter_check_rd w0 ([]) r)) := by
 refine calls_of_wp Try.func40 rfl ?_
 have hs := Sl.enter #[.slice p2 samples1.length k3, .int .i64 number5, .int .i64 most6] 18 [(0, .slice p2 samples1.length k3), (1, .int .i64 number5), (2, .int .i64 most6)] rfl ⟨rfl, rfl, rfl, trivial⟩
 have hw := Wd.enter (E := []) hS (fun _ h => (by cases h))
 have hw := hw.addE h4
 delta filter_check at hsh
 refine wp_seq ?_
 refine wp_region_lit ?_
 refine st_val hs (y_assign rfl) trivial rfl rfl fun a hs => ?_
 refine wpList_nil ?_
 refine then_normal ?_
 refine wp_seq ?_
 refine wp_seq ?_
 refine wp_region_lit ?_
 refine st_val hs (y_move rfl) trivial rfl rfl fun a hs => ?_
 refine st_val hs (y_move rfl) trivial rfl rfl fun a hs => ?_
 obtain ⟨rv8, h7, hsh⟩ := bind_t hsh
 refine st_callR hs (filter_in_ok h7 hw.bdom) (do_call Try.call46 rfl) trivial rfl rfl ?_
 intro v12 Sv9 w a h10 h11 hs
 subst h11
 have hw := hw.callB h10
 refine st_val hs (y_not rfl) trivial rfl rfl fun a hs => ?_
 refine st_val hs (y_move rfl) trivial rfl rfl fun a hs => ?_
 obtain ⟨c22, hc22, hsh⟩ := bind_t hsh
 refine wpl_join 3 (fun a w => ∃ (Sv23 : Nat → Prop), Sl 18 [(0, .slice p2 samples1.length k3), (14, .bool c22)] a ∧ Wd ⟨w0, S0, []⟩ Sv23 [] [SlA p2 samples1.length k3 samples1] w) ?_ ?_
 ·rcases Bool.eq_false_or_eq_true (!rv8) with h21 | h21
  ·have hs := hs.fix 11 (.bool true) rfl (vb h21)
   have hsh := ite_t hc22 h21
   refine st_skip hs rfl rfl rfl rfl rfl fun a hs => ?_
   refine st_skip hs rfl rfl rfl rfl rfl fun a hs => ?_
   refine st_val hs (y_pickT rfl rfl) trivial rfl rfl fun a hs => ?_
   refine wpList_nil ?_
   have hsh := Option.some.inj hsh
   subst hsh
   refine then_normal ?_
   exact ⟨S0, (hs.wk rfl), (hw.ft [] [0] (by decide) rfl rfl)⟩
  ·have hs := hs.fix 11 (.bool false) rfl (vb h21)
   have hsh := ite_f hc22 h21
   refine st_val hs (y_move rfl) ⟨_, rfl, rfl⟩ rfl rfl fun a hs => ?_
   obtain ⟨rv25, h24, hsh⟩ := bind_t hsh
   refine st_callR hs (slices_ContainsFunc_Lint_int_ok h24 hw.bdom (hw.bE 0 rfl) (filter_wrong_fn _ _)) (do_call Try.call55 rfl) ⟨_, rfl, rfl⟩ rfl rfl ?_
   intro v29 Sv26 w a h27 h28 hs
   subst h28
   have hw := hw.callB h27
   refine st_val hs (y_pickF rfl rfl) trivial rfl rfl fun a hs => ?_
   refine wpList_nil ?_
   have hsh := Option.some.inj hsh
   subst hsh
   refine then_normal ?_
   exact ⟨S0, (hs.wk rfl), (hw.ft [] [0] (by decide) rfl rfl)⟩
 ·rintro a w ⟨Sv23, hs, hw⟩
  refine wpList_nil ?_
  refine then_normal ?_
  refine wp_cond_split (hs.ev rfl) (fun h32 => ?_) (fun h32 => ?_)
  ·have hsh := ite_t hsh h32
   refine wp_seq ?_
   refine wp_region_lit ?_
   refine st_val hs (y_assign rfl) trivial rfl rfl fun a hs => ?_
   refine wpList_nil ?_
   refine then_normal ?_
   have hsh := Option.some.inj hsh
   subst hsh
   refine wp_ret ?_
   refine then_ret ?_
   exact ret1 hs rfl (rv_tmp rfl) (hw.ret rfl)
  ·have hsh := ite_f hsh h32
   refine wp_skip ?_
   refine then_normal ?_
   refine wp_seq ?_
   refine wp_seq ?_
   refine wp_region_lit ?_
   refine st_val hs (y_move rfl) trivial rfl rfl fun a hs => ?_
   refine st_val hs (y_len Try.runUnderlying22 rfl) trivial rfl rfl fun a hs => ?_
   refine st_val hs (y_gtr rfl rfl) trivial rfl rfl fun a hs => ?_
   refine wpList_nil ?_
   refine then_normal ?_
   refine wp_cond_split (hs.ev rfl) (fun h34 => ?_) (fun h34 => ?_)
   ·have hsh := ite_t hsh h34
    refine wp_seq ?_
    refine wp_region_lit ?_
    refine st_val hs (y_assign rfl) trivial rfl rfl fun a hs => ?_
    refine wpList_nil ?_
    refine then_normal ?_
    have hsh := Option.some.inj hsh
    subst hsh
    refine wp_ret ?_
    refine then_ret ?_
    exact ret1 hs rfl (rv_tmp rfl) (hw.ret rfl)
   ·have hsh := ite_f hsh h34
    refine wp_skip ?_
    refine then_normal ?_
    refine wp_seq ?_
    refine wp_region_lit ?_
    refine st_val hs (y_assign rfl) trivial rfl rfl fun a hs => ?_
    refine wpList_nil ?_
    refine then_normal ?_
    have hsh := Option.some.inj hsh
    subst hsh
    refine wp_ret ?_
    exact ret1 hs rfl (rv_tmp rfl) (hw.ret rfl)

abbrev filter_output_rd (w0 : World) (X : List Nat) (r : Int) : (Nat → Prop) → World → Value → Prop := fun S w v => v = .int .i64 r
set_option maxHeartbeats 4000000 in
set_option maxRecDepth 100000 in
theorem filter_output_ok {w0 : World} {S0 : Nat → Prop} {p2 : Option Addr} {k3 : Nat} {p6 : Option Addr} {k7 : Nat} {f1 : Filter} {samples5 : (List Int)} {i9 : Int} {r : Int} (hsh : filter_output f1 samples5 i9 = some r) (hS : ∀ b, S0 b → b < w0.heap.size) (h4 : (SlA p2 f1.Taps.length k3 f1.Taps).p S0 w0) (h8 : (SlA p6 samples5.length k7 samples5).p S0 w0) : Calls Try.prog 58 #[.agg #[.slice p2 f1.Taps.length k3, .int .i64 f1.Factor, .int .i64 f1.Shift], .slice p6 samples5.length k7, .int .i64 i9] w0 (Ret ([]) w0 S0 (filter_output_rd w0 ([]) r)) := by
 refine calls_of_wp Try.func58 rfl ?_
 have hs := Sl.enter #[.agg #[.slice p2 f1.Taps.length k3, .int .i64 f1.Factor, .int .i64 f1.Shift], .slice p6 samples5.length k7, .int .i64 i9] 33 [(0, .agg #[.slice p2 f1.Taps.length k3, .int .i64 f1.Factor, .int .i64 f1.Shift]), (1, .slice p6 samples5.length k7), (2, .int .i64 i9)] rfl ⟨rfl, rfl, rfl, trivial⟩
 have hw := Wd.enter (E := []) hS (fun _ h => (by cases h))
 have hw := hw.addE h4
 have hw := hw.addE h8
 delta filter_output at hsh
 refine wp_seq ?_
 refine wp_region_lit ?_
 refine w_box (cs := [.slice p2 f1.Taps.length k3, .int .i64 f1.Factor, .int .i64 f1.Shift]) hs hw rfl rfl rfl trivial ?_
 intro b10 a w hs hw
 refine st_val hs (y_assign rfl) trivial rfl rfl fun a hs => ?_
 refine wpList_nil ?_
 refine then_normal ?_
 refine wp_seq ?_
 refine wp_region_lit ?_
 refine st_val hs (y_assign rfl) trivial rfl rfl fun a hs => ?_
 refine wpList_nil ?_
 refine then_normal ?_
 refine wp_seq ?_
 refine wp_seq ?_
 refine wp_region_lit ?_
 refine st_val hs (y_fieldAddr (o' := 0) Try.runUnderlying28 rfl Try.sizeOf22 rfl rfl rfl) trivial rfl rfl fun a hs => ?_
 refine st_val hs (y_loadB1 (hw.ownAt 0 rfl) rfl Try.isAgg22 rfl) trivial rfl rfl fun a hs => ?_
 refine st_val hs (y_len Try.runUnderlying22 rfl) trivial rfl rfl fun a hs => ?_
 refine st_val hs (y_move rfl) trivial rfl rfl fun a hs => ?_
 refine wpList_nil ?_
 refine then_normal ?_
 obtain ⟨e104, h167, hsh⟩ := bind_t hsh
 refine wp_join (fun a w => ∃ (Sv105 : Nat → Prop), Sl 33 [(3, .pointer (some ⟨b10, 0, none⟩)), (7, .int .i64 e104)] a ∧ Wd ⟨w0, S0, []⟩ Sv105 [.box b10 [.slice p2 f1.Taps.length k3, .int .i64 f1.Factor, .int .i64 f1.Shift] 28] [SlA p2 f1.Taps.length k3 f1.Taps] w) ?_ ?_
 ·refine wp_block ?_
  refine wp_while (fun sv11 a w => ∃ (Sv71 : Nat → Prop), Sl 33 [(1, .slice p6 samples5.length k7), (2, .int .i64 i9), (3, .pointer (some ⟨b10, 0, none⟩)), (7, .int .i64 sv11.1), (11, .slice p2 f1.Taps.length k3), (12, .int .i64 (f1.Taps.length : Int)), (13, .int .i64 sv11.2)] a ∧ Wd ⟨w0, S0, []⟩ Sv71 [.box b10 [.slice p2 f1.Taps.length k3, .int .i64 f1.Factor, .int .i64 f1.Shift] 28] [SlA p6 samples5.length k7 samples5, SlA p2 f1.Taps.length k3 f1.Taps] w) (0, 0) h167 ⟨S0, (hs.wk rfl), (hw.ft [0] [0, 1] (by decide) rfl rfl)⟩ ?_
  clear h167
  repeat clear hsh
  rintro sv11 a w tv102 ⟨Sv71, hs, hw⟩ hsh hd101
  delta filter_output_l1 at hsh
  refine wp_seq ?_
  refine wp_region_lit ?_
  refine st_val hs (y_lss rfl rfl) trivial rfl rfl fun a hs => ?_
  refine wpList_nil ?_
  refine then_normal ?_
  refine wp_seq ?_
  refine wp_cond_split (hs.ev rfl) (fun h107 => ?_) (fun h107 => ?_)
  ·have hsh := ite_t hsh h107
   refine wp_skip ?_
   refine then_normal ?_
   refine wp_seq ?_
   refine wp_block ?_
   refine wp_seq ?_
   refine wp_region_lit ?_
   refine st_val hs (y_move rfl) trivial rfl rfl fun a hs => ?_
   obtain ⟨x138, h136, hsh⟩ := bind_t hsh
   obtain ⟨b144, o145, q142, c143, h146, h139, h140, h141, h137⟩ := hw.elemV 1 rfl h136
   have hsv147 := hs
   have hwv148 := hw
   subst h146
   have hs := hsv147
   have hw := hwv148
   obtain ⟨_, rfl, rfl⟩ := h137
   have hw := hw.addE h141
   refine st_val hs (y_indexAt Try.runUnderlying22 Try.sizeOf3 rfl rfl h139.1 h139.2 h140) trivial rfl rfl fun a hs => ?_
   refine st_val hs (y_loadE1 (j := 0) (hw.ceAt 0 rfl) rfl Try.isAgg3 rfl) trivial rfl rfl fun a hs => ?_
   refine st_val hs (y_assign rfl) trivial rfl rfl fun a hs => ?_
   refine st_val hs (y_assign rfl) trivial rfl rfl fun a hs => ?_
   refine wpList_nil ?_
   refine then_normal ?_
   refine wp_region_lit ?_
   refine st_val hs (y_move rfl) trivial rfl rfl fun a hs => ?_
   refine st_val hs (y_move rfl) trivial rfl rfl fun a hs => ?_
   refine st_val hs (y_move rfl) trivial rfl rfl fun a hs => ?_
   refine st_val hs (y_move rfl) trivial rfl rfl fun a hs => ?_
   refine st_val hs (y_move rfl) trivial rfl rfl fun a hs => ?_
   refine st_val hs (y_sub rfl rfl) trivial rfl rfl fun a hs => ?_
   obtain ⟨x151, h149, hsh⟩ := bind_t hsh
   obtain ⟨b157, o158, q155, c156, h159, h152, h153, h154, h150⟩ := hw.elemV 1 rfl h149
   have hsv160 := hs
   have hwv161 := hw
   subst h159
   have hs := hsv160
   have hw := hwv161
   obtain ⟨_, rfl, rfl⟩ := h150
   have hw := hw.addE h154
   refine st_val hs (y_indexAt Try.runUnderlying22 Try.sizeOf3 rfl rfl h152.1 h152.2 h153) trivial rfl rfl fun a hs => ?_
   refine st_val hs (y_loadE1 (j := 0) (hw.ceAt 0 rfl) rfl Try.isAgg3 rfl) trivial rfl rfl fun a hs => ?_
   refine st_val hs (y_mul rfl rfl) trivial rfl rfl fun a hs => ?_
   refine st_val hs (y_add rfl rfl) trivial rfl rfl fun a hs => ?_
   obtain ⟨sum163, h162, hsh⟩ := bind_t hsh
   refine st_val hs (y_assignI rfl h162) trivial rfl rfl fun a hs => ?_
   refine wpList_nil ?_
   refine blk_normal ?_
   refine then_normal ?_
   refine wp_region_lit ?_
   refine st_val hs (y_add rfl rfl) trivial rfl rfl fun a hs => ?_
   refine st_val hs (y_move rfl) trivial rfl rfl fun a hs => ?_
   refine wpList_nil ?_
   refine then_normal ?_
   exact ⟨_, (Option.some.inj hsh).symm, Sv71, (hs.wk rfl), (hw.ft [0] [2, 3] (by decide) rfl rfl)⟩
  ·have hsh := ite_f hsh h107
   refine wp_exit ?_
   refine then_exit ?_
   refine then_exit ?_
   refine blk_exit ?_
   have hsh := Option.some.inj hsh
   subst hsh
   have h164 := hd101 _ rfl
   subst h164
   refine then_normal ?_
   exact ⟨Sv71, (hs.wk rfl), (hw.ft [0] [1] (by decide) rfl rfl)⟩
 ·rintro a w ⟨Sv105, hs, hw⟩
  refine then_normal ?_
  refine wp_seq ?_
  refine wp_region_lit ?_
  refine st_val hs (y_move rfl) trivial rfl rfl fun a hs => ?_
  refine st_val hs (y_fieldAddr (o' := 2) Try.runUnderlying28 rfl Try.sizeOf3 rfl rfl rfl) trivial rfl rfl fun a hs => ?_
  refine st_val hs (y_loadB1 (hw.ownAt 0 rfl) rfl Try.isAgg3 rfl) trivial rfl rfl fun a hs => ?_
  obtain ⟨shr166, h165, hsh⟩ := bind_t hsh
  refine st_val hs (y_shrM rfl rfl h165) trivial rfl rfl fun a hs => ?_
  refine st_val hs (y_assign rfl) trivial rfl rfl fun a hs => ?_
  refine wpList_nil ?_
  refine then_normal ?_
  have hsh := Option.some.inj hsh
  subst hsh
  refine wp_ret ?_
  exact ret1 hs rfl (rv_tmp rfl) (hw.ret rfl)

abbrev filter_outputs_rd (w0 : World) (X : List Nat) (r : (List Int)) : (Nat → Prop) → World → Value → Prop := fun S w v => ∃ (p0_0 : Option Addr) (k0_0 : Nat) (c0_0 : List Value), v = .slice p0_0 r.length k0_0 ∧ Outs X w0 S w [.row p0_0 r.length k0_0 c0_0 3 1] ∧ (RowA c0_0 r).p S w
set_option maxHeartbeats 4000000 in
set_option maxRecDepth 100000 in
theorem filter_outputs_ok {w0 : World} {S0 : Nat → Prop} {p2 : Option Addr} {k3 : Nat} {p6 : Option Addr} {k7 : Nat} {f1 : Filter} {samples5 : (List Int)} {number9 : Int} {from10 : Int} {r : (List Int)} (hsh : filter_outputs f1 samples5 number9 from10 = some r) (hS : ∀ b, S0 b → b < w0.heap.size) (h4 : (SlA p2 f1.Taps.length k3 f1.Taps).p S0 w0) (h8 : (SlA p6 samples5.length k7 samples5).p S0 w0) : Calls Try.prog 41 #[.agg #[.slice p2 f1.Taps.length k3, .int .i64 f1.Factor, .int .i64 f1.Shift], .slice p6 samples5.length k7, .int .i64 number9, .int .i64 from10] w0 (Ret ([]) w0 S0 (filter_outputs_rd w0 ([]) r)) := by
 refine calls_of_wp Try.func41 rfl ?_
 have hs := Sl.enter #[.agg #[.slice p2 f1.Taps.length k3, .int .i64 f1.Factor, .int .i64 f1.Shift], .slice p6 samples5.length k7, .int .i64 number9, .int .i64 from10] 38 [(0, .agg #[.slice p2 f1.Taps.length k3, .int .i64 f1.Factor, .int .i64 f1.Shift]), (1, .slice p6 samples5.length k7), (2, .int .i64 number9), (3, .int .i64 from10)] rfl ⟨rfl, rfl, rfl, rfl, trivial⟩
 have hw := Wd.enter (E := []) hS (fun _ h => (by cases h))
 have hw := hw.addE h4
 have hw := hw.addE h8
 delta filter_outputs at hsh
 refine wp_seq ?_
 refine wp_region_lit ?_
 refine w_box (cs := [.slice p2 f1.Taps.length k3, .int .i64 f1.Factor, .int .i64 f1.Shift]) hs hw rfl rfl rfl trivial ?_
 intro b11 a w hs hw
 refine st_val hs (y_assign rfl) trivial rfl rfl fun a hs => ?_
 refine wpList_nil ?_
 refine then_normal ?_
 refine wp_seq ?_
 refine wp_region_lit ?_
 refine st_val hs (y_assign rfl) trivial rfl rfl fun a hs => ?_
 refine wpList_nil ?_
 refine then_normal ?_
 refine wp_seq ?_
 refine wp_seq ?_
 refine wp_region_lit ?_
 refine st_val hs (y_move rfl) trivial rfl rfl fun a hs => ?_
 refine st_val hs (y_fieldAddr (o' := 0) Try.runUnderlying28 rfl Try.sizeOf22 rfl rfl rfl) trivial rfl rfl fun a hs => ?_
 refine st_val hs (y_loadB1 (hw.ownAt 0 rfl) rfl Try.isAgg22 rfl) trivial rfl rfl fun a hs => ?_
 refine st_val hs (y_len Try.runUnderlying22 rfl) trivial rfl rfl fun a hs => ?_
 refine st_val hs (y_sub rfl rfl) trivial rfl rfl fun a hs => ?_
 refine st_val hs (y_max rfl rfl) trivial rfl rfl fun a hs => ?_
 obtain ⟨i13, h12, hsh⟩ := bind_t hsh
 refine st_val hs (y_assignI rfl h12) trivial rfl rfl fun a hs => ?_
 refine wpList_nil ?_
 refine then_normal ?_
 obtain ⟨e101, h170, hsh⟩ := bind_t hsh
 refine wp_join (fun a w => ∃ (c102 : List Value) (p103 : Option Addr) (k104 : Nat) (Sv105 : Nat → Prop), Sl 38 [(9, .slice p103 e101.length k104)] a ∧ Wd ⟨w0, S0, []⟩ Sv105 [.row p103 e101.length k104 c102 3 1] [RowA c102 e101] w) ?_ ?_
 ·refine wp_block ?_
  have hw := hw.nilRow Int 3
  refine wp_while (fun sv14 a w => ∃ (c69 : List Value) (p70 : Option Addr) (k71 : Nat) (Sv72 : Nat → Prop), Sl 38 [(1, .slice p6 samples5.length k7), (2, .int .i64 number9), (4, .pointer (some ⟨b11, 0, none⟩)), (9, .slice p70 sv14.1.length k71), (10, .int .i64 sv14.2)] a ∧ Wd ⟨w0, S0, []⟩ Sv72 [.box b11 [.slice p2 f1.Taps.length k3, .int .i64 f1.Factor, .int .i64 f1.Shift] 28, .row p70 sv14.1.length k71 c69 3 1] [SlA p6 samples5.length k7 samples5, SlA p2 f1.Taps.length k3 f1.Taps, RowA c69 sv14.1] w) (([] : List Int), i13) h170 ⟨[], none, 0, S0, (hs.wk rfl), (hw.ft [1, 0] [1, 2, 0] (by decide) rfl rfl)⟩ ?_
  clear h170
  repeat clear hsh
  rintro sv14 a w tv99 ⟨c69, p70, k71, Sv72, hs, hw⟩ hsh hd98
  delta filter_outputs_l1 at hsh
  refine wp_seq ?_
  refine wp_seq ?_
  refine wp_region_lit ?_
  refine st_val hs (y_move rfl) trivial rfl rfl fun a hs => ?_
  refine st_val hs (y_move rfl) trivial rfl rfl fun a hs => ?_
  refine st_val hs (y_len Try.runUnderlying22 rfl) trivial rfl rfl fun a hs => ?_
  refine st_val hs (y_lss rfl rfl) trivial rfl rfl fun a hs => ?_
  refine wpList_nil ?_
  refine then_normal ?_
  refine wp_cond_split (hs.ev rfl) (fun h107 => ?_) (fun h107 => ?_)
  ·have hsh := ite_t hsh h107
   refine wp_skip ?_
   refine then_normal ?_
   refine wp_seq ?_
   refine wp_block ?_
   refine wp_seq ?_
   refine wp_region_lit ?_
   refine st_val hs (y_move rfl) trivial rfl rfl fun a hs => ?_
   refine st_val hs (y_move rfl) trivial rfl rfl fun a hs => ?_
   refine st_val hs (y_add rfl rfl) trivial rfl rfl fun a hs => ?_
   refine st_val hs (y_fieldAddr (o' := 1) Try.runUnderlying28 rfl Try.sizeOf3 rfl rfl rfl) trivial rfl rfl fun a hs => ?_
   refine st_val hs (y_loadB1 (hw.ownAt 0 rfl) rfl Try.isAgg3 rfl) trivial rfl rfl fun a hs => ?_
   obtain ⟨rem131, h130, hsh⟩ := bind_t hsh
   refine st_val hs (y_remM rfl rfl h130) trivial rfl rfl fun a hs => ?_
   refine st_val hs (y_eql rfl rfl) trivial rfl rfl fun a hs => ?_
   refine wpList_nil ?_
   refine then_normal ?_
   refine wp_join (fun a w => ∃ (out151 : (List Int)) (c147 : List Value) (p148 : Option Addr) (k149 : Nat) (Sv150 : Nat → Prop), filter_outputs_j1 sv14 out151 = some tv99 ∧ Sl 38 [(1, .slice p6 samples5.length k7), (2, .int .i64 number9), (4, .pointer (some ⟨b11, 0, none⟩)), (9, .slice p148 out151.length k149), (10, .int .i64 sv14.2)] a ∧ Wd ⟨w0, S0, []⟩ Sv150 [.box b11 [.slice p2 f1.Taps.length k3, .int .i64 f1.Factor, .int .i64 f1.Shift] 28, .row p148 out151.length k149 c147 3 1] [SlA p6 samples5.length k7 samples5, SlA p2 f1.Taps.length k3 f1.Taps, RowA c147 out151] w) ?_ ?_
   ·refine wp_cond_split (hs.ev rfl) (fun h154 => ?_) (fun h154 => ?_)
    ·have hsh := ite_t hsh h154
     refine wp_region_lit ?_
     refine st_val hs (y_move rfl) trivial rfl rfl fun a hs => ?_
     refine st_val hs (y_loadBA (hw.ownAt 0 rfl) rfl Try.isAgg28 Try.sizeOf28 rfl rfl) trivial rfl rfl fun a hs => ?_
     refine st_val hs (y_move rfl) trivial rfl rfl fun a hs => ?_
     refine st_val hs (y_move rfl) trivial rfl rfl fun a hs => ?_
     obtain ⟨rv156, h155, hsh⟩ := bind_t hsh
     refine st_callR hs (filter_output_ok h155 hw.bdom (hw.bE 1 rfl) (hw.bE 0 rfl)) (do_call Try.call58 rfl) trivial rfl rfl ?_
     intro v160 Sv157 w a h158 h159 hs
     subst h159
     have hw := hw.callB h158
     refine w_litSlice (α := Int) (vs := [.int .i64 rv156]) (cs := [.int .i64 rv156]) (xs := ([rv156] : List Int)) hs hw El22 rfl rfl rfl rfl rfl rfl ⟨⟨_, rfl, rfl⟩, rfl⟩ rfl trivial rfl fun b163 a w hs hw => ?_
     obtain ⟨l165, h164, hsh⟩ := bind_t hsh
     refine w_appendR (α := Int) hs hw El22 2 rfl rfl rfl 3 rfl 0 rfl 0 rfl h164 rfl trivial ?_
     intro p166 k167 c168 a w hs hw
     refine st_val hs (y_assign rfl) trivial rfl rfl fun a hs => ?_
     refine wpList_nil ?_
     refine then_normal ?_
     exact ⟨l165, c168, p166, k167, Sv72, hsh, (hs.wk rfl), (hw.ft [1, 2] [2, 3, 0] (by decide) rfl rfl)⟩
    ·have hsh := ite_f hsh h154
     refine wp_skip ?_
     refine then_normal ?_
     exact ⟨sv14.1, c69, p70, k71, Sv72, hsh, (hs.wk rfl), (hw.ft [0, 1] [0, 1, 2] (by decide) rfl rfl)⟩
   ·rintro a w ⟨out151, c147, p148, k149, Sv150, hsh, hs, hw⟩
    delta filter_outputs_j1 at hsh
    refine blk_normal ?_
    refine then_normal ?_
    refine wp_region_lit ?_
    refine st_val hs (y_move rfl) trivial rfl rfl fun a hs => ?_
    refine st_val hs (y_add rfl rfl) trivial rfl rfl fun a hs => ?_
    obtain ⟨i153, h152, hsh⟩ := bind_t hsh
    refine st_val hs (y_assignI rfl h152) trivial rfl rfl fun a hs => ?_
    refine wpList_nil ?_
    refine then_normal ?_
    exact ⟨_, (Option.some.inj hsh).symm, c147, p148, k149, Sv150, (hs.wk rfl), (hw.ft [0, 1] [0, 1, 2] (by decide) rfl rfl)⟩
  ·have hsh := ite_f hsh h107
   refine wp_exit ?_
   refine then_exit ?_
   refine then_exit ?_
   refine blk_exit ?_
   have hsh := Option.some.inj hsh
   subst hsh
   have h169 := hd98 _ rfl
   subst h169
   refine then_normal ?_
   exact ⟨c69, p70, k71, Sv72, (hs.wk rfl), (hw.ft [1] [2] (by decide) rfl rfl)⟩
 ·rintro a w ⟨c102, p103, k104, Sv105, hs, hw⟩
  refine then_normal ?_
  refine wp_seq ?_
  refine wp_region_lit ?_
  refine st_val hs (y_move rfl) trivial rfl rfl fun a hs => ?_
  refine st_val hs (y_assign rfl) trivial rfl rfl fun a hs => ?_
  refine wpList_nil ?_
  refine then_normal ?_
  have hsh := Option.some.inj hsh
  subst hsh
  refine wp_ret ?_
  exact ret1 hs rfl (rv_tmp rfl) (hw.ret ⟨p103, k104, c102, rfl, (hw.outs [0] (by decide) rfl), (hw.envAt 0 rfl)⟩)

abbrev filter_Apply_rd (w0 : World) (X : List Nat) (r : ((List Int) × Int)) : (Nat → Prop) → World → Value → Prop := fun S w v => ∃ (p0_0 : Option Addr) (k0_0 : Nat) (c0_0 : List Value), v = .tuple #[.slice p0_0 r.1.length k0_0, .int .i64 r.2] ∧ Outs X w0 S w [.row p0_0 r.1.length k0_0 c0_0 3 1] ∧ (RowA c0_0 r.1).p S w
set_option maxHeartbeats 4000000 in
set_option maxRecDepth 100000 in
theorem filter_Apply_ok {w0 : World} {S0 : Nat → Prop} {p2 : Option Addr} {k3 : Nat} {p6 : Option Addr} {k7 : Nat} {f1 : Filter} {samples5 : (List Int)} {number9 : Int} {r : ((List Int) × Int)} (hsh : filter_Apply f1 samples5 number9 = some r) (hS : ∀ b, S0 b → b < w0.heap.size) (h4 : (SlA p2 f1.Taps.length k3 f1.Taps).p S0 w0) (h8 : (SlA p6 samples5.length k7 samples5).p S0 w0) : Calls Try.prog 14 #[.agg #[.slice p2 f1.Taps.length k3, .int .i64 f1.Factor, .int .i64 f1.Shift], .slice p6 samples5.length k7, .int .i64 number9] w0 (Ret ([]) w0 S0 (filter_Apply_rd w0 ([]) r)) := by
 refine calls_of_wp Try.func14 rfl ?_
 have hs := Sl.enter #[.agg #[.slice p2 f1.Taps.length k3, .int .i64 f1.Factor, .int .i64 f1.Shift], .slice p6 samples5.length k7, .int .i64 number9] 22 [(0, .agg #[.slice p2 f1.Taps.length k3, .int .i64 f1.Factor, .int .i64 f1.Shift]), (1, .slice p6 samples5.length k7), (2, .int .i64 number9)] rfl ⟨rfl, rfl, rfl, trivial⟩
 have hw := Wd.enter (E := []) hS (fun _ h => (by cases h))
 have hw := hw.addE h4
 have hw := hw.addE h8
 delta filter_Apply at hsh
 refine wp_seq ?_
 refine wp_region_lit ?_
 refine w_box (cs := [.slice p2 f1.Taps.length k3, .int .i64 f1.Factor, .int .i64 f1.Shift]) hs hw rfl rfl rfl trivial ?_
 intro b10 a w hs hw
 refine st_val hs (y_assign rfl) trivial rfl rfl fun a hs => ?_
 refine st_val hs (y_assign rfl) trivial rfl rfl fun a hs => ?_
 refine wpList_nil ?_
 refine then_normal ?_
 refine wp_seq ?_
 refine wp_seq ?_
 refine wp_region_lit ?_
 refine st_val hs (y_loadBA (hw.ownAt 0 rfl) rfl Try.isAgg28 Try.sizeOf28 rfl rfl) trivial rfl rfl fun a hs => ?_
 obtain ⟨rv12, h11, hsh⟩ := bind_t hsh
 refine st_callR hs (filter_Valid_ok h11 hw.bdom (hw.bE 1 rfl)) (do_call Try.call32 rfl) trivial rfl rfl ?_
 intro v16 Sv13 w a h14 h15 hs
 subst h15
 have hw := hw.callB h14
 refine st_val hs (y_not rfl) trivial rfl rfl fun a hs => ?_
 refine wpList_nil ?_
 refine then_normal ?_
 refine wp_cond_split (hs.ev rfl) (fun h19 => ?_) (fun h19 => ?_)
 ·have hsh := ite_t hsh h19
  refine wp_seq ?_
  refine wp_region_lit ?_
  refine st_val hs (y_assign rfl) trivial rfl rfl fun a hs => ?_
  refine st_val hs (y_assign rfl) trivial rfl rfl fun a hs => ?_
  refine wpList_nil ?_
  refine then_normal ?_
  have hsh := Option.some.inj hsh
  subst hsh
  have hw := hw.nilRow Int 3
  refine wp_ret ?_
  refine then_ret ?_
  exact ret2 hs rfl (rv_tmp rfl) (rv_tmp rfl) (hw.ret ⟨none, 0, [], rfl, (hw.outs [0] (by decide) rfl), (hw.envAt 0 rfl)⟩)
 ·have hsh := ite_f hsh h19
  refine wp_skip ?_
  refine then_normal ?_
  refine wp_seq ?_
  refine wp_seq ?_
  refine wp_region_lit ?_
  refine st_val hs (y_move rfl) trivial rfl rfl fun a hs => ?_
  refine st_val hs (y_move rfl) trivial rfl rfl fun a hs => ?_
  obtain ⟨rv21, h20, hsh⟩ := bind_t hsh
  refine st_callR hs (filter_check_ok h20 hw.bdom (hw.bE 0 rfl)) (do_call Try.call40 rfl) trivial rfl rfl ?_
  intro v25 Sv22 w a h23 h24 hs
  subst h24
  have hw := hw.callB h23
  refine st_val hs (y_assign rfl) trivial rfl rfl fun a hs => ?_
  refine wpList_nil ?_
  refine then_normal ?_
  refine wp_seq ?_
  refine wp_region_lit ?_
  refine st_val hs (y_move rfl) trivial rfl rfl fun a hs => ?_
  refine st_val hs (y_neq rfl rfl) trivial rfl rfl fun a hs => ?_
  refine wpList_nil ?_
  refine then_normal ?_
  refine wp_cond_split (hs.ev rfl) (fun h28 => ?_) (fun h28 => ?_)
  ·have hsh := ite_t hsh h28
   refine wp_seq ?_
   refine wp_region_lit ?_
   refine st_val hs (y_move rfl) trivial rfl rfl fun a hs => ?_
   refine st_val hs (y_assign rfl) trivial rfl rfl fun a hs => ?_
   refine st_val hs (y_assign rfl) trivial rfl rfl fun a hs => ?_
   refine wpList_nil ?_
   refine then_normal ?_
   have hsh := Option.some.inj hsh
   subst hsh
   have hw := hw.nilRow Int 3
   refine wp_ret ?_
   refine then_ret ?_
   exact ret2 hs rfl (rv_tmp rfl) (rv_tmp rfl) (hw.ret ⟨none, 0, [], rfl, (hw.outs [0] (by decide) rfl), (hw.envAt 0 rfl)⟩)
  ·have hsh := ite_f hsh h28
   refine wp_skip ?_
   refine then_normal ?_
   refine wp_seq ?_
   refine wp_region_lit ?_
   refine st_val hs (y_loadBA (hw.ownAt 0 rfl) rfl Try.isAgg28 Try.sizeOf28 rfl rfl) trivial rfl rfl fun a hs => ?_
   refine st_val hs (y_move rfl) trivial rfl rfl fun a hs => ?_
   refine st_val hs (y_move rfl) trivial rfl rfl fun a hs => ?_
   obtain ⟨rv30, h29, hsh⟩ := bind_t hsh
   refine st_callR hs (filter_outputs_ok h29 hw.dom (hw.envAt 1 rfl) (hw.envAt 0 rfl)) (do_call Try.call41 rfl) trivial rfl rfl ?_
   intro v38 Sv35 w a h36 h37 hs
   obtain ⟨p31, k32, c34, rfl, h39, h33⟩ := h37
   have hw := hw.callN h36 h39
   have hw := hw.addE (e := RowA c34 rv30) h33
   refine st_val hs (y_assign rfl) trivial rfl rfl fun a hs => ?_
   refine st_val hs (y_assign rfl) trivial rfl rfl fun a hs => ?_
   refine wpList_nil ?_
   refine then_normal ?_
   have hsh := Option.some.inj hsh
   subst hsh
   refine wp_ret ?_
   exact ret2 hs rfl (rv_tmp rfl) (rv_tmp rfl) (hw.ret ⟨p31, k32, c34, rfl, (hw.outs [0] (by decide) rfl), (hw.envAt 0 rfl)⟩)

abbrev ref05_Same_rd (w0 : World) (X : List Nat) (r : Bool) : (Nat → Prop) → World → Value → Prop := fun S w v => v = .bool r
set_option maxHeartbeats 4000000 in
set_option maxRecDepth 100000 in
theorem ref05_Same_ok {w0 : World} {S0 : Nat → Prop} {p2 : Option Addr} {k3 : Nat} {p6 : Option Addr} {k7 : Nat} {a1 : (List Int)} {b5 : (List Int)} {r : Bool} (hsh : ref05_Same a1 b5 = some r) (hS : ∀ b, S0 b → b < w0.heap.size) (h4 : (SlA p2 a1.length k3 a1).p S0 w0) (h8 : (SlA p6 b5.length k7 b5).p S0 w0) : Calls Try.prog 23 #[.slice p2 a1.length k3, .slice p6 b5.length k7] w0 (Ret ([]) w0 S0 (ref05_Same_rd w0 ([]) r)) := by
 refine calls_of_wp Try.func23 rfl ?_
 have hs := Sl.enter #[.slice p2 a1.length k3, .slice p6 b5.length k7] 26 [(0, .slice p2 a1.length k3), (1, .slice p6 b5.length k7)] rfl ⟨rfl, rfl, trivial⟩
 have hw := Wd.enter (E := []) hS (fun _ h => (by cases h))
 have hw := hw.addE h4
 have hw := hw.addE h8
 delta ref05_Same at hsh
 refine wp_seq ?_
 refine wp_region_lit ?_
 refine st_val hs (y_assign rfl) trivial rfl rfl fun a hs => ?_
 refine wpList_nil ?_
 refine then_normal ?_
 refine wp_seq ?_
 refine wp_seq ?_
 refine wp_region_lit ?_
 refine st_val hs (y_move rfl) trivial rfl rfl fun a hs => ?_
 refine st_val hs (y_len Try.runUnderlying22 rfl) trivial rfl rfl fun a hs => ?_
 refine st_val hs (y_move rfl) trivial rfl rfl fun a hs => ?_
 refine st_val hs (y_len Try.runUnderlying22 rfl) trivial rfl rfl fun a hs => ?_
 refine st_val hs (y_neq rfl rfl) trivial rfl rfl fun a hs => ?_
 refine wpList_nil ?_
 refine then_normal ?_
 refine wp_cond_split (hs.ev rfl) (fun h10 => ?_) (fun h10 => ?_)
 ·have hsh := ite_t hsh h10
  refine wp_seq ?_
  refine wp_region_lit ?_
  refine st_val hs (y_assign rfl) trivial rfl rfl fun a hs => ?_
  refine wpList_nil ?_
  refine then_normal ?_
  have hsh := Option.some.inj hsh
  subst hsh
  refine wp_ret ?_
  refine then_ret ?_
  exact ret1 hs rfl (rv_tmp rfl) (hw.ret rfl)
 ·have hsh := ite_f hsh h10
  refine wp_skip ?_
  refine then_normal ?_
  refine wp_seq ?_
  refine wp_seq ?_
  refine wp_region_lit ?_
  refine st_val hs (y_assign rfl) trivial rfl rfl fun a hs => ?_
  refine wpList_nil ?_
  refine then_normal ?_
  refine wp_block ?_
  refine wp_while (fun sv109 a w => ∃ (Sv173 : Nat → Prop), Sl 26 [(0, .slice p2 a1.length k3), (1, .slice p6 b5.length k7), (5, .int .i64 sv109)] a ∧ Wd ⟨w0, S0, []⟩ Sv173 [] [SlA p2 a1.length k3 a1, SlA p6 b5.length k7 b5] w) 0 hsh ⟨S0, (hs.wk rfl), (hw.ft [] [1, 0] (by decide) rfl rfl)⟩ ?_
  repeat clear hsh
  rintro sv109 a w tv206 ⟨Sv173, hs, hw⟩ hsh hd205
  delta ref05_Same_l2 at hsh
  refine wp_seq ?_
  refine wp_seq ?_
  refine wp_region_lit ?_
  refine st_val hs (y_move rfl) trivial rfl rfl fun a hs => ?_
  refine st_val hs (y_move rfl) trivial rfl rfl fun a hs => ?_
  refine st_val hs (y_len Try.runUnderlying22 rfl) trivial rfl rfl fun a hs => ?_
  refine st_val hs (y_lss rfl rfl) trivial rfl rfl fun a hs => ?_
  refine wpList_nil ?_
  refine then_normal ?_
  refine wp_cond_split (hs.ev rfl) (fun h210 => ?_) (fun h210 => ?_)
  ·have hsh := ite_t hsh h210
   refine wp_skip ?_
   refine then_normal ?_
   refine wp_seq ?_
   refine wp_block ?_
   refine wp_seq ?_
   obtain ⟨x241, h239, hsh⟩ := bind_t hsh
   obtain ⟨b247, o248, q245, c246, h249, h242, h243, h244, h240⟩ := hw.elemV 0 rfl h239
   have hsv250 := hs
   have hwv251 := hw
   subst h249
   have hs := hsv250
   have hw := hwv251
   obtain ⟨_, rfl, rfl⟩ := h240
   have hw := hw.addE h244
   obtain ⟨x254, h252, hsh⟩ := bind_t hsh
   obtain ⟨b260, o261, q258, c259, h262, h255, h256, h257, h253⟩ := hw.elemV 2 rfl h252
   have hsv263 := hs
   have hwv264 := hw
   subst h262
   have hs := hsv263
   have hw := hwv264
   obtain ⟨_, rfl, rfl⟩ := h253
   have hw := hw.addE h257
   refine wp_only (fun a w => ∃ (Sv265 : Nat → Prop), Sl 26 [(0, .slice (some ⟨b247, o248, none⟩) a1.length k3), (1, .slice (some ⟨b260, o261, none⟩) b5.length k7), (5, .int .i64 sv109), (25, .bool (x241 != x254))] a ∧ Wd ⟨w0, S0, []⟩ Sv265 [] [SlA (some ⟨b247, o248, none⟩) a1.length k3 a1, SlA (some ⟨b260, o261, none⟩) b5.length k7 b5] w) ?_ ?_
   ·refine h_b (C := Cls [] [CeA b260 q258 [.int .i64 x254], CeA b247 q245 [.int .i64 x241]]) (by kernel_rfl) rfl (hw.drew.cs [] [0, 1] rfl rfl) fun hC => ?_
    have hw := hw.drew
    refine h_g hs 0 rfl (by kernel_rfl) rfl rfl hC rfl (fun w hC => y_move rfl) fun a hs => ?_
    refine h_g hs 1 rfl (by kernel_rfl) rfl rfl hC rfl (fun w hC => y_move rfl) fun a hs => ?_
    refine h_g hs 2 rfl (by kernel_rfl) rfl rfl hC rfl (fun w hC => y_indexAt Try.runUnderlying22 Try.sizeOf3 rfl rfl h242.1 h242.2 h243) fun a hs => ?_
    refine h_g hs 3 rfl (by kernel_rfl) rfl rfl hC rfl (fun w hC => y_loadE1 (j := 0) (hC.ceAt 1 rfl) rfl Try.isAgg3 rfl) fun a hs => ?_
    refine h_g hs 4 rfl (by kernel_rfl) rfl rfl hC rfl (fun w hC => y_move rfl) fun a hs => ?_
    refine h_g hs 5 rfl (by kernel_rfl) rfl rfl hC rfl (fun w hC => y_move rfl) fun a hs => ?_
    refine h_g hs 6 rfl (by kernel_rfl) rfl rfl hC rfl (fun w hC => y_indexAt Try.runUnderlying22 Try.sizeOf3 rfl rfl h255.1 h255.2 h256) fun a hs => ?_
    refine h_g hs 7 rfl (by kernel_rfl) rfl rfl hC rfl (fun w hC => y_loadE1 (j := 0) (hC.ceAt 0 rfl) rfl Try.isAgg3 rfl) fun a hs => ?_
    refine h_g hs 8 rfl (by kernel_rfl) rfl rfl hC rfl (fun w hC => y_neq rfl rfl) fun a hs => ?_
    refine h_done (by kernel_rfl) ?_
    exact ⟨Sv173, (hs.wk rfl), (hw.ft [] [2, 3] (by decide) rfl rfl)⟩
   ·rintro a w ⟨Sv265, hs, hw⟩
    refine then_normal ?_
    refine wp_cond_split (hs.ev rfl) (fun h267 => ?_) (fun h267 => ?_)
    ·have hsh := ite_t hsh h267
     refine wp_seq ?_
     refine wp_region_lit ?_
     refine st_val hs (y_assign rfl) trivial rfl rfl fun a hs => ?_
     refine wpList_nil ?_
     refine then_normal ?_
     have hsh := Option.some.inj hsh
     subst hsh
     have h268 := hd205 _ rfl
     subst h268
     refine wp_ret ?_
     refine blk_ret ?_
     refine then_ret ?_
     refine then_ret ?_
     refine blk_ret ?_
     refine then_ret ?_
     exact ret1 hs rfl (rv_tmp rfl) (hw.ret rfl)
    ·have hsh := ite_f hsh h267
     refine wp_skip ?_
     refine blk_normal ?_
     refine then_normal ?_
     refine wp_region_lit ?_
     refine st_val hs (y_move rfl) trivial rfl rfl fun a hs => ?_
     refine st_val hs (y_add rfl rfl) trivial rfl rfl fun a hs => ?_
     obtain ⟨i270, h269, hsh⟩ := bind_t hsh
     refine st_val hs (y_assignI rfl h269) trivial rfl rfl fun a hs => ?_
     refine wpList_nil ?_
     refine then_normal ?_
     exact ⟨_, (Option.some.inj hsh).symm, Sv265, (hs.wk rfl), (hw.ft [] [0, 1] (by decide) rfl rfl)⟩
  ·have hsh := ite_f hsh h210
   obtain ⟨rv271, hsh, h272⟩ := map_t hsh
   have h272 := (hd205 _ h272.symm).symm
   subst h272
   refine wp_exit ?_
   refine then_exit ?_
   refine then_exit ?_
   refine blk_exit ?_
   refine then_normal ?_
   refine wp_seq ?_
   refine wp_region_lit ?_
   refine st_val hs (y_assign rfl) trivial rfl rfl fun a hs => ?_
   refine wpList_nil ?_
   refine then_normal ?_
   have hsh := Option.some.inj hsh
   subst hsh
   refine wp_ret ?_
   exact ret1 hs rfl (rv_tmp rfl) (hw.ret rfl)

abbrev law21_sane_rd (w0 : World) (X : List Nat) (r : Bool) : (Nat → Prop) → World → Value → Prop := fun S w v => v = .bool r
set_option maxHeartbeats 4000000 in
set_option maxRecDepth 100000 in
theorem law21_sane_ok {w0 : World} {S0 : Nat → Prop} {r : Bool} (hsh : law21_sane = some r) (hS : ∀ b, S0 b → b < w0.heap.size) : Calls Try.prog 11 #[] w0 (Ret ([]) w0 S0 (law21_sane_rd w0 ([]) r)) := by
 refine calls_of_wp Try.func11 rfl ?_
 have hs := Sl.enter #[] 41 [] rfl trivial
 have hw := Wd.enter (E := []) hS (fun _ h => (by cases h))
 delta law21_sane at hsh
 refine wp_seq ?_
 refine wp_region_lit ?_
 refine st_val hs (y_assign rfl) trivial rfl rfl fun a hs => ?_
 refine wpList_nil ?_
 refine then_normal ?_
 refine wp_seq ?_
 refine wp_region_lit ?_
 refine w_litSlice (α := Int) (vs := [.int .i64 1, .int .i64 1]) (cs := [.int .i64 1, .int .i64 1]) (xs := ([1, 1] : List Int)) hs hw El22 rfl rfl rfl rfl rfl rfl ⟨⟨_, rfl, rfl⟩, ⟨⟨_, rfl, rfl⟩, rfl⟩⟩ rfl trivial rfl fun b2 a w hs hw => ?_
 refine st_val hs (y_build (vs := [(0, .slice (some ⟨b2, 0, none⟩) ([1, 1] : List Int).length ([1, 1] : List Int).length), (1, .int .i64 1), (2, .int .i64 1)]) Bld28 rfl rfl) trivial rfl rfl fun a hs => ?_
 refine w_alloc (cs := [.slice none ([] : List Int).length 0, .int .i64 0, .int .i64 0]) hs hw Try.zeroValue28 rfl rfl trivial ?_
 intro b3 a w hs hw
 refine w_store (m := 3) (cs' := [.slice (some ⟨b2, 0, none⟩) ([1, 1] : List Int).length ([1, 1] : List Int).length, .int .i64 1, .int .i64 1]) hs hw 0 rfl rfl rfl Try.sizeOf28 rfl rfl rfl rfl trivial ?_
 intro a w hs hw
 refine wpList_nil ?_
 refine then_normal ?_
 refine wp_seq ?_
 refine wp_region_lit ?_
 refine st_val hs (y_loadBA (hw.ownAt 0 rfl) rfl Try.isAgg28 Try.sizeOf28 rfl rfl) trivial rfl rfl fun a hs => ?_
 refine w_litSlice (α := Int) (vs := [.int .i64 4, .int .i64 6, .int .i64 9]) (cs := [.int .i64 4, .int .i64 6, .int .i64 9]) (xs := ([4, 6, 9] : List Int)) hs hw El22 rfl rfl rfl rfl rfl rfl ⟨⟨_, rfl, rfl⟩, ⟨⟨_, rfl, rfl⟩, ⟨⟨_, rfl, rfl⟩, rfl⟩⟩⟩ rfl trivial rfl fun b5 a w hs hw => ?_
 obtain ⟨rv7, h6, hsh⟩ := bind_t hsh
 obtain ⟨Sv12, hw⟩ := w_share (α := Int) hw 2 rfl 1 rfl
 obtain ⟨Sv13, hw⟩ := w_share (α := Int) hw 0 rfl 1 rfl
 refine st_callR hs (filter_Apply_ok h6 hw.dom (hw.envAt 1 rfl) (hw.envAt 0 rfl)) (do_call Try.call14 rfl) trivial rfl rfl ?_
 intro v17 Sv14 w a h15 h16 hs
 obtain ⟨p8, k9, c11, rfl, h18, h10⟩ := h16
 have hw := hw.callN h15 h18
 have hw := hw.addE (e := RowA c11 rv7.1) h10
 refine st_val hs (y_move rfl) trivial rfl rfl fun a hs => ?_
 refine st_val hs (y_extract rfl rfl) trivial rfl rfl fun a hs => ?_
 refine st_val hs (y_extract rfl rfl) trivial rfl rfl fun a hs => ?_
 refine st_val hs (y_assign rfl) trivial rfl rfl fun a hs => ?_
 refine st_val hs (y_assign rfl) trivial rfl rfl fun a hs => ?_
 refine wpList_nil ?_
 refine then_normal ?_
 refine wp_seq ?_
 refine wp_region_lit ?_
 refine st_val hs (y_fieldAddr (o' := 1) Try.runUnderlying28 rfl Try.sizeOf3 rfl rfl rfl) trivial rfl rfl fun a hs => ?_
 refine w_store (m := 1) (cs' := [.slice (some ⟨b2, 0, none⟩) ([1, 1] : List Int).length ([1, 1] : List Int).length, .int .i64 2, .int .i64 1]) hs hw 1 rfl rfl rfl Try.sizeOf3 rfl rfl rfl rfl trivial ?_
 intro a w hs hw
 refine wpList_nil ?_
 refine then_normal ?_
 refine wp_seq ?_
 refine wp_region_lit ?_
 refine st_val hs (y_loadBA (hw.ownAt 1 rfl) rfl Try.isAgg28 Try.sizeOf28 rfl rfl) trivial rfl rfl fun a hs => ?_
 refine w_litSlice (α := Int) (vs := [.int .i64 4, .int .i64 6, .int .i64 9]) (cs := [.int .i64 4, .int .i64 6, .int .i64 9]) (xs := ([4, 6, 9] : List Int)) hs hw El22 rfl rfl rfl rfl rfl rfl ⟨⟨_, rfl, rfl⟩, ⟨⟨_, rfl, rfl⟩, ⟨⟨_, rfl, rfl⟩, rfl⟩⟩⟩ rfl trivial rfl fun b20 a w hs hw => ?_
 obtain ⟨rv22, h21, hsh⟩ := bind_t hsh
 obtain ⟨Sv27, hw⟩ := w_share (α := Int) hw 0 rfl 0 rfl
 refine st_callR hs (filter_Apply_ok h21 hw.dom (hw.envAt 4 rfl) (hw.envAt 0 rfl)) (do_call Try.call14 rfl) trivial rfl rfl ?_
 intro v31 Sv28 w a h29 h30 hs
 obtain ⟨p23, k24, c26, rfl, h32, h25⟩ := h30
 have hw := hw.callN h29 h32
 have hw := hw.addE (e := RowA c26 rv22.1) h25
 refine st_val hs (y_move rfl) trivial rfl rfl fun a hs => ?_
 refine st_val hs (y_extract rfl rfl) trivial rfl rfl fun a hs => ?_
 refine st_val hs (y_extract rfl rfl) trivial rfl rfl fun a hs => ?_
 refine st_val hs (y_assign rfl) trivial rfl rfl fun a hs => ?_
 refine st_val hs (y_assign rfl) trivial rfl rfl fun a hs => ?_
 refine wpList_nil ?_
 refine then_normal ?_
 refine wp_seq ?_
 refine wp_region_lit ?_
 refine st_val hs (y_move rfl) trivial rfl rfl fun a hs => ?_
 refine st_val hs (y_eql rfl rfl) trivial rfl rfl fun a hs => ?_
 refine st_val hs (y_move rfl) trivial rfl rfl fun a hs => ?_
 refine wpl_join 3 (fun a w1 => w = w1 ∧ Sl 41 [(1, .pointer (some ⟨b3, 0, none⟩)), (2, .slice p8 rv7.1.length k9), (4, .slice p23 rv22.1.length k24), (26, .bool ((rv7.2 == 0) && (rv22.2 == 0)))] a) ?_ ?_
 ·rcases Bool.eq_false_or_eq_true (rv7.2 == 0) with h33 | h33
  ·have hs := hs.fix 23 (.bool true) rfl (vb h33)
   refine st_val hs (y_move rfl) ⟨_, rfl, rfl⟩ rfl rfl fun a hs => ?_
   refine st_val hs (y_eql rfl rfl) ⟨_, rfl, rfl⟩ rfl rfl fun a hs => ?_
   refine st_val hs (y_pickT rfl rfl) trivial rfl rfl fun a hs => ?_
   refine wpList_nil ?_
   refine then_normal ?_
   exact ⟨rfl, (hs.fix 26 (.bool ((rv7.2 == 0) && (rv22.2 == 0))) rfl (and_t h33)).weaken _ ⟨rfl, rfl, rfl, rfl, trivial⟩⟩
  ·have hs := hs.fix 23 (.bool false) rfl (vb h33)
   refine st_skip hs rfl rfl rfl rfl rfl fun a hs => ?_
   refine st_skip hs rfl rfl rfl rfl rfl fun a hs => ?_
   refine st_val hs (y_pickF rfl rfl) trivial rfl rfl fun a hs => ?_
   refine wpList_nil ?_
   refine then_normal ?_
   exact ⟨rfl, (hs.fix 26 (.bool ((rv7.2 == 0) && (rv22.2 == 0))) rfl (and_f h33)).weaken _ ⟨rfl, rfl, rfl, rfl, trivial⟩⟩
 ·rintro a w1 ⟨h93, hs⟩
  subst h93
  refine st_val hs (y_move rfl) trivial rfl rfl fun a hs => ?_
  obtain ⟨c44, hc44, hsh⟩ := bind_t hsh
  refine wpl_join 4 (fun a w => ∃ (Sv45 : Nat → Prop), Sl 41 [(1, .pointer (some ⟨b3, 0, none⟩)), (4, .slice p23 rv22.1.length k24), (31, .bool c44)] a ∧ Wd ⟨w0, S0, []⟩ Sv45 [.box b3 [.slice (some ⟨b2, 0, none⟩) ([1, 1] : List Int).length ([1, 1] : List Int).length, .int .i64 2, .int .i64 1] 28, .row p23 rv22.1.length k24 c26 3 1] [SlA (some ⟨b2, 0, none⟩) ([1, 1] : List Int).length ([1, 1] : List Int).length ([1, 1] : List Int), RowA c26 rv22.1] w) ?_ ?_
  ·rcases Bool.eq_false_or_eq_true ((rv7.2 == 0) && (rv22.2 == 0)) with h43 | h43
   ·have hs := hs.fix 27 (.bool true) rfl (vb h43)
    have hsh := ite_t hc44 h43
    refine st_val hs (y_move rfl) ⟨_, rfl, rfl⟩ rfl rfl fun a hs => ?_
    refine w_litSlice (α := Int) (vs := [.int .i64 5, .int .i64 7]) (cs := [.int .i64 5, .int .i64 7]) (xs := ([5, 7] : List Int)) hs hw El22 rfl rfl rfl rfl rfl rfl ⟨⟨_, rfl, rfl⟩, ⟨⟨_, rfl, rfl⟩, rfl⟩⟩ rfl ⟨_, rfl, rfl⟩ rfl fun b47 a w hs hw => ?_
    obtain ⟨rv49, h48, hsh⟩ := bind_t hsh
    refine st_callR hs (ref05_Same_ok h48 hw.bdom (hw.bRow 2 rfl 4 rfl) (hw.bRow 0 rfl 0 rfl)) (do_call Try.call23 rfl) ⟨_, rfl, rfl⟩ rfl rfl ?_
    intro v53 Sv50 w a h51 h52 hs
    subst h52
    have hw := hw.callB h51
    refine st_val hs (y_pickT rfl rfl) trivial rfl rfl fun a hs => ?_
    refine wpList_nil ?_
    have hsh := Option.some.inj hsh
    subst hsh
    refine then_normal ?_
    exact ⟨Sv28, (hs.wk rfl), (hw.ft [3, 1] [6, 1] (by decide) rfl rfl)⟩
   ·have hs := hs.fix 27 (.bool false) rfl (vb h43)
    have hsh := ite_f hc44 h43
    refine st_skip hs rfl rfl rfl rfl rfl fun a hs => ?_
    refine st_skip hs rfl rfl rfl rfl rfl fun a hs => ?_
    refine st_skip hs rfl rfl rfl rfl rfl fun a hs => ?_
    refine st_val hs (y_pickF rfl rfl) trivial rfl rfl fun a hs => ?_
    refine wpList_nil ?_
    have hsh := Option.some.inj hsh
    subst hsh
    refine then_normal ?_
    exact ⟨Sv28, (hs.wk rfl), (hw.ft [2, 0] [5, 0] (by decide) rfl rfl)⟩
  ·rintro a w ⟨Sv45, hs, hw⟩
   refine st_val hs (y_move rfl) trivial rfl rfl fun a hs => ?_
   obtain ⟨c65, hc65, hsh⟩ := bind_t hsh
   refine wpl_join 4 (fun a w => ∃ (Sv66 : Nat → Prop), Sl 41 [(1, .pointer (some ⟨b3, 0, none⟩)), (36, .bool c65)] a ∧ Wd ⟨w0, S0, []⟩ Sv66 [.box b3 [.slice (some ⟨b2, 0, none⟩) ([1, 1] : List Int).length ([1, 1] : List Int).length, .int .i64 2, .int .i64 1] 28] [SlA (some ⟨b2, 0, none⟩) ([1, 1] : List Int).length ([1, 1] : List Int).length ([1, 1] : List Int)] w) ?_ ?_
   ·rcases Bool.eq_false_or_eq_true c44 with h64 | h64
    ·have hs := hs.fix 32 (.bool true) rfl (vb h64)
     have hsh := ite_t hc65 h64
     refine st_val hs (y_move rfl) ⟨_, rfl, rfl⟩ rfl rfl fun a hs => ?_
     refine w_litSlice (α := Int) (vs := [.int .i64 7]) (cs := [.int .i64 7]) (xs := ([7] : List Int)) hs hw El22 rfl rfl rfl rfl rfl rfl ⟨⟨_, rfl, rfl⟩, rfl⟩ rfl ⟨_, rfl, rfl⟩ rfl fun b68 a w hs hw => ?_
     obtain ⟨rv70, h69, hsh⟩ := bind_t hsh
     refine st_callR hs (ref05_Same_ok h69 hw.bdom (hw.bRow 2 rfl 2 rfl) (hw.bRow 0 rfl 0 rfl)) (do_call Try.call23 rfl) ⟨_, rfl, rfl⟩ rfl rfl ?_
     intro v74 Sv71 w a h72 h73 hs
     subst h73
     have hw := hw.callB h72
     refine st_val hs (y_pickT rfl rfl) trivial rfl rfl fun a hs => ?_
     refine wpList_nil ?_
     have hsh := Option.some.inj hsh
     subst hsh
     refine then_normal ?_
     exact ⟨Sv45, (hs.wk rfl), (hw.ft [1] [1] (by decide) rfl rfl)⟩
    ·have hs := hs.fix 32 (.bool false) rfl (vb h64)
     have hsh := ite_f hc65 h64
     refine st_skip hs rfl rfl rfl rfl rfl fun a hs => ?_
     refine st_skip hs rfl rfl rfl rfl rfl fun a hs => ?_
     refine st_skip hs rfl rfl rfl rfl rfl fun a hs => ?_
     refine st_val hs (y_pickF rfl rfl) trivial rfl rfl fun a hs => ?_
     refine wpList_nil ?_
     have hsh := Option.some.inj hsh
     subst hsh
     refine then_normal ?_
     exact ⟨Sv45, (hs.wk rfl), (hw.ft [0] [0] (by decide) rfl rfl)⟩
   ·rintro a w ⟨Sv66, hs, hw⟩
    refine st_val hs (y_move rfl) trivial rfl rfl fun a hs => ?_
    obtain ⟨c84, hc84, hsh⟩ := bind_t hsh
    refine wpl_join 3 (fun a w => ∃ (Sv85 : Nat → Prop), Sl 41 [(40, .bool c84)] a ∧ Wd ⟨w0, S0, []⟩ Sv85 [] [] w) ?_ ?_
    ·rcases Bool.eq_false_or_eq_true c65 with h83 | h83
     ·have hs := hs.fix 37 (.bool true) rfl (vb h83)
      have hsh := ite_t hc84 h83
      refine st_val hs (y_loadBA (hw.ownAt 0 rfl) rfl Try.isAgg28 Try.sizeOf28 rfl rfl) ⟨_, rfl, rfl⟩ rfl rfl fun a hs => ?_
      obtain ⟨rv87, h86, hsh⟩ := bind_t hsh
      refine st_callR hs (filter_Valid_ok h86 hw.bdom (hw.bE 0 rfl)) (do_call Try.call32 rfl) ⟨_, rfl, rfl⟩ rfl rfl ?_
      intro v91 Sv88 w a h89 h90 hs
      subst h90
      have hw := hw.callB h89
      refine st_val hs (y_pickT rfl rfl) trivial rfl rfl fun a hs => ?_
      refine wpList_nil ?_
      have hsh := Option.some.inj hsh
      subst hsh
      refine then_normal ?_
      exact ⟨Sv66, (hs.wk rfl), (hw.ft [] [] (by decide) rfl rfl)⟩
     ·have hs := hs.fix 37 (.bool false) rfl (vb h83)
      have hsh := ite_f hc84 h83
      refine st_skip hs rfl rfl rfl rfl rfl fun a hs => ?_
      refine st_skip hs rfl rfl rfl rfl rfl fun a hs => ?_
      refine st_val hs (y_pickF rfl rfl) trivial rfl rfl fun a hs => ?_
      refine wpList_nil ?_
      have hsh := Option.some.inj hsh
      subst hsh
      refine then_normal ?_
      exact ⟨Sv66, (hs.wk rfl), (hw.ft [] [] (by decide) rfl rfl)⟩
    ·rintro a w ⟨Sv85, hs, hw⟩
     refine st_val hs (y_assign rfl) trivial rfl rfl fun a hs => ?_
     refine wpList_nil ?_
     refine then_normal ?_
     have hsh := Option.some.inj hsh
     subst hsh
     refine wp_ret ?_
     exact ret1 hs rfl (rv_tmp rfl) (hw.ret rfl)

abbrev made_Roll_rd (w0 : World) (X : List Nat) (r : Dice) : (Nat → Prop) → World → Value → Prop := fun S w v => ∃ (b_0 : Nat) (p0_0 : Option Addr) (k0_0 : Nat), v = .pointer (some ⟨b_0, 0, none⟩) ∧ Outs X w0 S w [.box b_0 [.slice p0_0 r.L.length k0_0, .int .i64 r.At] 75] ∧ (SlA p0_0 r.L.length k0_0 r.L).p S w
set_option maxHeartbeats 4000000 in
set_option maxRecDepth 100000 in
theorem made_Roll_ok {w0 : World} {S0 : Nat → Prop} {p2 : Option Addr} {k3 : Nat} {l1 : (List Int)} {r : Dice} (hsh : made_Roll l1 = some r) (hS : ∀ b, S0 b → b < w0.heap.size) (h4 : (SlA p2 l1.length k3 l1).p S0 w0) : Calls Try.prog 12 #[.slice p2 l1.length k3] w0 (Ret ([]) w0 S0 (made_Roll_rd w0 ([]) r)) := by
 refine calls_of_wp Try.func12 rfl ?_
 have hs := Sl.enter #[.slice p2 l1.length k3] 6 [(0, .slice p2 l1.length k3)] rfl ⟨rfl, trivial⟩
 have hw := Wd.enter (E := []) hS (fun _ h => (by cases h))
 have hw := hw.addE h4
 delta made_Roll at hsh
 refine wp_seq ?_
 refine wp_region_lit ?_
 refine st_val hs (y_assign rfl) trivial rfl rfl fun a hs => ?_
 refine wpList_nil ?_
 refine then_normal ?_
 refine wp_seq ?_
 refine wp_region_lit ?_
 refine st_val hs (y_move rfl) trivial rfl rfl fun a hs => ?_
 refine st_val hs (y_build (vs := [(0, .slice p2 l1.length k3)]) Bld75 rfl rfl) trivial rfl rfl fun a hs => ?_
 refine w_box (cs := [.slice p2 l1.length k3, .int .i64 0]) hs hw rfl rfl rfl trivial ?_
 intro b5 a w hs hw
 refine st_val hs (y_assign rfl) trivial rfl rfl fun a hs => ?_
 refine wpList_nil ?_
 refine then_normal ?_
 have hsh := Option.some.inj hsh
 subst hsh
 refine wp_ret ?_
 exact ret1 hs rfl (rv_tmp rfl) (hw.ret ⟨b5, p2, k3, rfl, (hw.outs [0] (by decide) rfl), (hw.envAt 0 rfl)⟩)

abbrev made_Dice_Next_rd (w0 : World) (X : List Nat) (b2 : Nat) (r : (Int × Dice)) : (Nat → Prop) → World → Value → Prop := fun S w v => ∃ (pq0_0 : Option Addr) (kq0_0 : Nat), v = .int .i64 r.1 ∧ Outs X w0 S w [.box b2 [.slice pq0_0 r.2.L.length kq0_0, .int .i64 r.2.At] 75] ∧ (SlA pq0_0 r.2.L.length kq0_0 r.2.L).p S w
set_option maxHeartbeats 4000000 in
set_option maxRecDepth 100000 in
theorem made_Dice_Next_ok {w0 : World} {S0 : Nat → Prop} {b2 : Nat} {p3 : Option Addr} {k4 : Nat} {d1 : Dice} {n6 : Int} {r : (Int × Dice)} (hsh : made_Dice_Next d1 n6 = some r) (hS : ∀ b, S0 b → b < w0.heap.size) (hin : Ins S0 w0 [.box b2 [.slice p3 d1.L.length k4, .int .i64 d1.At] 75]) (h5 : (SlA p3 d1.L.length k4 d1.L).p S0 w0) : Calls Try.prog 15 #[.pointer (some ⟨b2, 0, none⟩), .int .i64 n6] w0 (Ret (blks [.box b2 [.slice p3 d1.L.length k4, .int .i64 d1.At] 75]) w0 S0 (made_Dice_Next_rd w0 (blks [.box b2 [.slice p3 d1.L.length k4, .int .i64 d1.At] 75]) b2 r)) := by
 refine calls_of_wp Try.func15 rfl ?_
 have hs := Sl.enter #[.pointer (some ⟨b2, 0, none⟩), .int .i64 n6] 45 [(0, .pointer (some ⟨b2, 0, none⟩)), (1, .int .i64 n6)] rfl ⟨rfl, rfl, trivial⟩
 have hw := Wd.enterI hS hin
 have hw := hw.addE h5
 delta made_Dice_Next at hsh
 refine wp_seq ?_
 refine wp_region_lit ?_
 refine st_val hs (y_assign rfl) trivial rfl rfl fun a hs => ?_
 refine wpList_nil ?_
 refine then_normal ?_
 refine wp_seq ?_
 refine wp_seq ?_
 refine wp_only (fun a w => ∃ (Sv7 : Nat → Prop), Sl 45 [(0, .pointer (some ⟨b2, 0, none⟩)), (1, .int .i64 n6), (19, .bool ((decide ((d1.L.length : Int) ≤ d1.At)) || (decide (n6 < 1))))] a ∧ Wd ⟨w0, S0, blks [.box b2 [.slice p3 d1.L.length k4, .int .i64 d1.At] 75]⟩ Sv7 [.box b2 [.slice p3 d1.L.length k4, .int .i64 d1.At] 75] [SlA p3 d1.L.length k4 d1.L] w) ?_ ?_
 ·rcases Bool.eq_false_or_eq_true (decide ((d1.L.length : Int) ≤ d1.At)) with h8 | h8
  ·refine h_b (C := Cls [.box b2 [.slice p3 d1.L.length k4, .int .i64 d1.At] 75] []) (by kernel_rfl) rfl (hw.drew.cs [0] [] rfl rfl) fun hC => ?_
   have hw := hw.drew
   refine h_g hs 0 rfl (by kernel_rfl) rfl rfl hC rfl (fun w hC => y_move rfl) fun a hs => ?_
   refine h_g hs 1 rfl (by kernel_rfl) rfl rfl hC rfl (fun w hC => y_nilCheck rfl) fun a hs => ?_
   refine h_g hs 2 rfl (by kernel_rfl) rfl rfl hC rfl (fun w hC => y_fieldAddr (o' := 1) Try.runUnderlying75 rfl Try.sizeOf3 rfl rfl rfl) fun a hs => ?_
   refine h_g hs 3 rfl (by kernel_rfl) rfl rfl hC rfl (fun w hC => y_loadB1 (hC.ownAt 0 rfl) rfl Try.isAgg3 rfl) fun a hs => ?_
   refine h_g hs 4 rfl (by kernel_rfl) rfl rfl hC rfl (fun w hC => y_move rfl) fun a hs => ?_
   refine h_g hs 5 rfl (by kernel_rfl) rfl rfl hC rfl (fun w hC => y_nilCheck rfl) fun a hs => ?_
   refine h_g hs 6 rfl (by kernel_rfl) rfl rfl hC rfl (fun w hC => y_fieldAddr (o' := 0) Try.runUnderlying75 rfl Try.sizeOf22 rfl rfl rfl) fun a hs => ?_
   refine h_g hs 7 rfl (by kernel_rfl) rfl rfl hC rfl (fun w hC => y_loadB1 (hC.ownAt 0 rfl) rfl Try.isAgg22 rfl) fun a hs => ?_
   refine h_g hs 8 rfl (by kernel_rfl) rfl rfl hC rfl (fun w hC => y_len Try.runUnderlying22 rfl) fun a hs => ?_
   refine h_g hs 9 rfl (by kernel_rfl) rfl rfl hC rfl (fun w hC => y_geq rfl rfl) fun a hs => ?_
   refine h_g hs 10 rfl (by kernel_rfl) rfl rfl hC rfl (fun w hC => y_move rfl) fun a hs => ?_
   have hs := hs.fix 16 (.bool true) rfl (vb h8)
   refine h_s hs 11 rfl (by kernel_rfl) rfl rfl rfl (.inl rfl) rfl rfl hC fun a hs => ?_
   refine h_s hs 12 rfl (by kernel_rfl) rfl rfl rfl (.inl rfl) rfl rfl hC fun a hs => ?_
   refine h_g hs 13 rfl (by kernel_rfl) rfl rfl hC rfl (fun w hC => y_pickTE (v := .bool ((decide ((d1.L.length : Int) ≤ d1.At)) || (decide (n6 < 1)))) rfl rfl (or_t h8)) fun a hs => ?_
   refine h_done (by kernel_rfl) ?_
   exact ⟨S0, (hs.wk rfl), (hw.ft [0] [0] (by decide) rfl rfl)⟩
  ·refine h_b (C := Cls [.box b2 [.slice p3 d1.L.length k4, .int .i64 d1.At] 75] []) (by kernel_rfl) rfl (hw.drew.cs [0] [] rfl rfl) fun hC => ?_
   have hw := hw.drew
   refine h_g hs 0 rfl (by kernel_rfl) rfl rfl hC rfl (fun w hC => y_move rfl) fun a hs => ?_
   refine h_g hs 1 rfl (by kernel_rfl) rfl rfl hC rfl (fun w hC => y_nilCheck rfl) fun a hs => ?_
   refine h_g hs 2 rfl (by kernel_rfl) rfl rfl hC rfl (fun w hC => y_fieldAddr (o' := 1) Try.runUnderlying75 rfl Try.sizeOf3 rfl rfl rfl) fun a hs => ?_
   refine h_g hs 3 rfl (by kernel_rfl) rfl rfl hC rfl (fun w hC => y_loadB1 (hC.ownAt 0 rfl) rfl Try.isAgg3 rfl) fun a hs => ?_
   refine h_g hs 4 rfl (by kernel_rfl) rfl rfl hC rfl (fun w hC => y_move rfl) fun a hs => ?_
   refine h_g hs 5 rfl (by kernel_rfl) rfl rfl hC rfl (fun w hC => y_nilCheck rfl) fun a hs => ?_
   refine h_g hs 6 rfl (by kernel_rfl) rfl rfl hC rfl (fun w hC => y_fieldAddr (o' := 0) Try.runUnderlying75 rfl Try.sizeOf22 rfl rfl rfl) fun a hs => ?_
   refine h_g hs 7 rfl (by kernel_rfl) rfl rfl hC rfl (fun w hC => y_loadB1 (hC.ownAt 0 rfl) rfl Try.isAgg22 rfl) fun a hs => ?_
   refine h_g hs 8 rfl (by kernel_rfl) rfl rfl hC rfl (fun w hC => y_len Try.runUnderlying22 rfl) fun a hs => ?_
   refine h_g hs 9 rfl (by kernel_rfl) rfl rfl hC rfl (fun w hC => y_geq rfl rfl) fun a hs => ?_
   refine h_g hs 10 rfl (by kernel_rfl) rfl rfl hC rfl (fun w hC => y_move rfl) fun a hs => ?_
   have hs := hs.fix 16 (.bool false) rfl (vb h8)
   refine h_t hs 11 rfl (by kernel_rfl) ⟨_, rfl, rfl⟩ rfl rfl hC (fun w hC => y_move rfl) fun a hs => ?_
   refine h_t hs 12 rfl (by kernel_rfl) ⟨_, rfl, rfl⟩ rfl rfl hC (fun w hC => y_lss rfl rfl) fun a hs => ?_
   refine h_g hs 13 rfl (by kernel_rfl) rfl rfl hC rfl (fun w hC => y_pickFE (v := .bool ((decide ((d1.L.length : Int) ≤ d1.At)) || (decide (n6 < 1)))) rfl rfl (or_f h8)) fun a hs => ?_
   refine h_done (by kernel_rfl) ?_
   exact ⟨S0, (hs.wk rfl), (hw.ft [0] [0] (by decide) rfl rfl)⟩
 ·rintro a w ⟨Sv7, hs, hw⟩
  refine then_normal ?_
  refine wp_cond_split (hs.ev rfl) (fun h12 => ?_) (fun h12 => ?_)
  ·have hsh := ite_t hsh h12
   refine wp_seq ?_
   refine wp_region_lit ?_
   refine st_val hs (y_assign rfl) trivial rfl rfl fun a hs => ?_
   refine wpList_nil ?_
   refine then_normal ?_
   have hsh := Option.some.inj hsh
   subst hsh
   refine wp_ret ?_
   refine then_ret ?_
   exact ret1 hs rfl (rv_tmp rfl) (hw.ret ⟨p3, k4, rfl, (hw.outs [0] (by decide) rfl), (hw.envAt 0 rfl)⟩)
  ·have hsh := ite_f hsh h12
   refine wp_skip ?_
   refine then_normal ?_
   refine wp_seq ?_
   obtain ⟨x15, h13, hsh⟩ := bind_t hsh
   obtain ⟨b21, o22, q19, c20, h23, h16, h17, h18, h14⟩ := hw.elemV 0 rfl h13
   have hsv24 := hs
   have hwv25 := hw
   subst h23
   have hs := hsv24
   have hw := hwv25
   obtain ⟨_, rfl, rfl⟩ := h14
   have hw := hw.addE h18
   obtain ⟨rem27, h26, hsh⟩ := bind_t hsh
   refine wp_only (fun a w => ∃ (Sv28 : Nat → Prop), Sl 45 [(0, .pointer (some ⟨b2, 0, none⟩)), (1, .int .i64 n6), (5, .int .i64 rem27)] a ∧ Wd ⟨w0, S0, blks [.box b2 [.slice (some ⟨b21, o22, none⟩) d1.L.length k4, .int .i64 d1.At] 75]⟩ Sv28 [.box b2 [.slice (some ⟨b21, o22, none⟩) d1.L.length k4, .int .i64 d1.At] 75] [SlA (some ⟨b21, o22, none⟩) d1.L.length k4 d1.L] w) ?_ ?_
   ·refine h_b (C := Cls [.box b2 [.slice (some ⟨b21, o22, none⟩) d1.L.length k4, .int .i64 d1.At] 75] [CeA b21 q19 [.int .i64 x15]]) (by kernel_rfl) rfl (hw.drew.cs [0] [0] rfl rfl) fun hC => ?_
    have hw := hw.drew
    refine h_g hs 0 rfl (by kernel_rfl) rfl rfl hC rfl (fun w hC => y_move rfl) fun a hs => ?_
    refine h_g hs 1 rfl (by kernel_rfl) rfl rfl hC rfl (fun w hC => y_nilCheck rfl) fun a hs => ?_
    refine h_g hs 2 rfl (by kernel_rfl) rfl rfl hC rfl (fun w hC => y_fieldAddr (o' := 0) Try.runUnderlying75 rfl Try.sizeOf22 rfl rfl rfl) fun a hs => ?_
    refine h_g hs 3 rfl (by kernel_rfl) rfl rfl hC rfl (fun w hC => y_loadB1 (hC.ownAt 0 rfl) rfl Try.isAgg22 rfl) fun a hs => ?_
    refine h_g hs 4 rfl (by kernel_rfl) rfl rfl hC rfl (fun w hC => y_move rfl) fun a hs => ?_
    refine h_g hs 5 rfl (by kernel_rfl) rfl rfl hC rfl (fun w hC => y_nilCheck rfl) fun a hs => ?_
    refine h_g hs 6 rfl (by kernel_rfl) rfl rfl hC rfl (fun w hC => y_fieldAddr (o' := 1) Try.runUnderlying75 rfl Try.sizeOf3 rfl rfl rfl) fun a hs => ?_
    refine h_g hs 7 rfl (by kernel_rfl) rfl rfl hC rfl (fun w hC => y_loadB1 (hC.ownAt 0 rfl) rfl Try.isAgg3 rfl) fun a hs => ?_
    refine h_g hs 8 rfl (by kernel_rfl) rfl rfl hC rfl (fun w hC => y_indexAt Try.runUnderlying22 Try.sizeOf3 rfl rfl h16.1 h16.2 h17) fun a hs => ?_
    refine h_g hs 9 rfl (by kernel_rfl) rfl rfl hC rfl (fun w hC => y_loadE1 (j := 0) (hC.ceAt 0 rfl) rfl Try.isAgg3 rfl) fun a hs => ?_
    refine h_g hs 10 rfl (by kernel_rfl) rfl rfl hC rfl (fun w hC => y_move rfl) fun a hs => ?_
    refine h_g hs 11 rfl (by kernel_rfl) rfl rfl hC rfl (fun w hC => y_remM rfl rfl h26) fun a hs => ?_
    refine h_g hs 12 rfl (by kernel_rfl) rfl rfl hC rfl (fun w hC => y_assign rfl) fun a hs => ?_
    refine h_done (by kernel_rfl) ?_
    exact ⟨Sv7, (hs.wk rfl), (hw.ft [0] [1] (by decide) rfl rfl)⟩
   ·rintro a w ⟨Sv28, hs, hw⟩
    refine then_normal ?_
    refine wp_seq ?_
    refine wp_region_lit ?_
    refine st_val hs (y_move rfl) trivial rfl rfl fun a hs => ?_
    refine st_val hs (y_nilCheck rfl) trivial rfl rfl fun a hs => ?_
    refine st_val hs (y_fieldAddr (o' := 1) Try.runUnderlying75 rfl Try.sizeOf3 rfl rfl rfl) trivial rfl rfl fun a hs => ?_
    refine st_val hs (y_loadB1 (hw.ownAt 0 rfl) rfl Try.isAgg3 rfl) trivial rfl rfl fun a hs => ?_
    refine st_val hs (y_add rfl rfl) trivial rfl rfl fun a hs => ?_
    refine st_val hs (y_nilCheck rfl) trivial rfl rfl fun a hs => ?_
    refine st_val hs (y_fieldAddr (o' := 1) Try.runUnderlying75 rfl Try.sizeOf3 rfl rfl rfl) trivial rfl rfl fun a hs => ?_
    refine w_store (m := 1) (cs' := [.slice (some ⟨b21, o22, none⟩) d1.L.length k4, .int .i64 (w64 (d1.At + 1))]) hs hw 0 rfl rfl rfl Try.sizeOf3 rfl rfl rfl rfl trivial ?_
    intro a w hs hw
    refine wpList_nil ?_
    refine then_normal ?_
    refine wp_seq ?_
    refine wp_seq ?_
    refine wp_region_lit ?_
    refine st_val hs (y_move rfl) trivial rfl rfl fun a hs => ?_
    refine st_val hs (y_lss rfl rfl) trivial rfl rfl fun a hs => ?_
    refine wpList_nil ?_
    refine then_normal ?_
    refine wp_join (fun a w => ∃ (x33 : Int) (Sv32 : Nat → Prop), made_Dice_Next_j1 d1 x33 = some r ∧ Sl 45 [(5, .int .i64 x33)] a ∧ Wd ⟨w0, S0, blks [.box b2 [.slice (some ⟨b21, o22, none⟩) d1.L.length k4, .int .i64 d1.At] 75]⟩ Sv32 [.box b2 [.slice (some ⟨b21, o22, none⟩) d1.L.length k4, .int .i64 (w64 (d1.At + 1))] 75] [SlA (some ⟨b21, o22, none⟩) d1.L.length k4 d1.L] w) ?_ ?_
    ·refine wp_cond_split (hs.ev rfl) (fun h34 => ?_) (fun h34 => ?_)
     ·have hsh := ite_t hsh h34
      refine wp_region_lit ?_
      refine st_val hs (y_move rfl) trivial rfl rfl fun a hs => ?_
      refine st_val hs (y_move rfl) trivial rfl rfl fun a hs => ?_
      refine st_val hs (y_add rfl rfl) trivial rfl rfl fun a hs => ?_
      obtain ⟨x36, h35, hsh⟩ := bind_t hsh
      refine st_val hs (y_assignI rfl h35) trivial rfl rfl fun a hs => ?_
      refine wpList_nil ?_
      refine then_normal ?_
      exact ⟨x36, Sv28, hsh, (hs.wk rfl), (hw.ft [0] [0] (by decide) rfl rfl)⟩
     ·have hsh := ite_f hsh h34
      refine wp_skip ?_
      refine then_normal ?_
      exact ⟨rem27, Sv28, hsh, (hs.wk rfl), (hw.ft [0] [0] (by decide) rfl rfl)⟩
    ·rintro a w ⟨x33, Sv32, hsh, hs, hw⟩
     delta made_Dice_Next_j1 at hsh
     refine then_normal ?_
     refine wp_seq ?_
     refine wp_region_lit ?_
     refine st_val hs (y_move rfl) trivial rfl rfl fun a hs => ?_
     refine st_val hs (y_assign rfl) trivial rfl rfl fun a hs => ?_
     refine wpList_nil ?_
     refine then_normal ?_
     have hsh := Option.some.inj hsh
     subst hsh
     refine wp_ret ?_
     exact ret1 hs rfl (rv_tmp rfl) (hw.ret ⟨(some ⟨b21, o22, none⟩), k4, rfl, (hw.outs [0] (by decide) rfl), (hw.envAt 0 rfl)⟩)

abbrev made_Dice_Pick_rd (w0 : World) (X : List Nat) (b2 : Nat) (r : (Int × Dice)) : (Nat → Prop) → World → Value → Prop := fun S w v => ∃ (pq0_0 : Option Addr) (kq0_0 : Nat), v = .int .i64 r.1 ∧ Outs X w0 S w [.box b2 [.slice pq0_0 r.2.L.length kq0_0, .int .i64 r.2.At] 75] ∧ (SlA pq0_0 r.2.L.length kq0_0 r.2.L).p S w
set_option maxHeartbeats 4000000 in
set_option maxRecDepth 100000 in
theorem made_Dice_Pick_ok {w0 : World} {S0 : Nat → Prop} {b2 : Nat} {p3 : Option Addr} {k4 : Nat} {p7 : Option Addr} {k8 : Nat} {d1 : Dice} {l6 : (List Int)} {r : (Int × Dice)} (hsh : made_Dice_Pick d1 l6 = some r) (hS : ∀ b, S0 b → b < w0.heap.size) (hin : Ins S0 w0 [.box b2 [.slice p3 d1.L.length k4, .int .i64 d1.At] 75]) (h5 : (SlA p3 d1.L.length k4 d1.L).p S0 w0) (h9 : (SlA p7 l6.length k8 l6).p S0 w0) : Calls Try.prog 27 #[.pointer (some ⟨b2, 0, none⟩), .slice p7 l6.length k8] w0 (Ret (blks [.box b2 [.slice p3 d1.L.length k4, .int .i64 d1.At] 75]) w0 S0 (made_Dice_Pick_rd w0 (blks [.box b2 [.slice p3 d1.L.length k4, .int .i64 d1.At] 75]) b2 r)) := by
 refine calls_of_wp Try.func27 rfl ?_
 have hs := Sl.enter #[.pointer (some ⟨b2, 0, none⟩), .slice p7 l6.length k8] 12 [(0, .pointer (some ⟨b2, 0, none⟩)), (1, .slice p7 l6.length k8)] rfl ⟨rfl, rfl, trivial⟩
 have hw := Wd.enterI hS hin
 have hw := hw.addE h5
 have hw := hw.addE h9
 delta made_Dice_Pick at hsh
 refine wp_seq ?_
 refine wp_region_lit ?_
 refine st_val hs (y_assign rfl) trivial rfl rfl fun a hs => ?_
 refine wpList_nil ?_
 refine then_normal ?_
 refine wp_seq ?_
 refine wp_region_lit ?_
 refine st_val hs (y_move rfl) trivial rfl rfl fun a hs => ?_
 refine st_val hs (y_move rfl) trivial rfl rfl fun a hs => ?_
 refine st_val hs (y_move rfl) trivial rfl rfl fun a hs => ?_
 refine st_val hs (y_len Try.runUnderlying22 rfl) trivial rfl rfl fun a hs => ?_
 obtain ⟨rv11, h10, hsh⟩ := bind_t hsh
 refine st_callR hs (made_Dice_Next_ok h10 hw.dom (hw.ins [0] (by decide) rfl) (hw.envAt 1 rfl)) (do_call Try.call15 rfl) trivial rfl rfl ?_
 intro v18 Sv15 w a h16 h17 hs
 obtain ⟨p12, k13, rfl, h19, h14⟩ := h17
 have hw := hw.callO [0] [] (by decide) rfl h16 h19
 have hw := hw.addE (e := SlA p12 rv11.2.L.length k13 rv11.2.L) h14
 obtain ⟨x22, h20, hsh⟩ := bind_t hsh
 obtain ⟨b28, o29, q26, c27, h30, h23, h24, h25, h21⟩ := hw.elemV 1 rfl h20
 have hsv31 := hs
 have hwv32 := hw
 subst h30
 have hs := hsv31
 have hw := hwv32
 obtain ⟨_, rfl, rfl⟩ := h21
 have hw := hw.addE h25
 refine st_val hs (y_indexAt Try.runUnderlying22 Try.sizeOf3 rfl rfl h23.1 h23.2 h24) trivial rfl rfl fun a hs => ?_
 refine st_val hs (y_loadE1 (j := 0) (hw.ceAt 0 rfl) rfl Try.isAgg3 rfl) trivial rfl rfl fun a hs => ?_
 refine st_val hs (y_assign rfl) trivial rfl rfl fun a hs => ?_
 refine wpList_nil ?_
 refine then_normal ?_
 have hsh := Option.some.inj hsh
 subst hsh
 refine wp_ret ?_
 exact ret1 hs rfl (rv_tmp rfl) (hw.ret ⟨p12, k13, rfl, (hw.outs [0] (by decide) rfl), (hw.envAt 1 rfl)⟩)

abbrev made_Dice_Stage_rd (w0 : World) (X : List Nat) (b2 : Nat) (r : (Stage × Dice)) : (Nat → Prop) → World → Value → Prop := fun S w v => ∃ (p0_7 : Option Addr) (k0_7 : Nat) (c0_7 : List Value) (pq0_0 : Option Addr) (kq0_0 : Nat), v = .agg #[.int .i64 r.1.Kind, .int .i64 r.1.Num.e0, .int .i64 r.1.Num.e1, .int .i64 r.1.Num.e2, .int .i64 r.1.Den.e0, .int .i64 r.1.Den.e1, .int .i64 r.1.Den.e2, .slice p0_7 r.1.Taps.length k0_7, .int .i64 r.1.Factor, .int .i64 r.1.Shift] ∧ Outs X w0 S w [.row p0_7 r.1.Taps.length k0_7 c0_7 3 1, .box b2 [.slice pq0_0 r.2.L.length kq0_0, .int .i64 r.2.At] 75] ∧ (RowA c0_7 r.1.Taps).p S w ∧ (SlA pq0_0 r.2.L.length kq0_0 r.2.L).p S w
set_option maxHeartbeats 4000000 in
set_option maxRecDepth 100000 in
theorem made_Dice_Stage_ok {w0 : World} {S0 : Nat → Prop} {b2 : Nat} {p3 : Option Addr} {k4 : Nat} {d1 : Dice} {r : (Stage × Dice)} (hsh : made_Dice_Stage d1 = some r) (hS : ∀ b, S0 b → b < w0.heap.size) (hin : Ins S0 w0 [.box b2 [.slice p3 d1.L.length k4, .int .i64 d1.At] 75]) (h5 : (SlA p3 d1.L.length k4 d1.L).p S0 w0) : Calls Try.prog 21 #[.pointer (some ⟨b2, 0, none⟩)] w0 (Ret (blks [.box b2 [.slice p3 d1.L.length k4, .int .i64 d1.At] 75]) w0 S0 (made_Dice_Stage_rd w0 (blks [.box b2 [.slice p3 d1.L.length k4, .int .i64 d1.At] 75]) b2 r)) := by
 refine calls_of_wp Try.func21 rfl ?_
 have hs := Sl.enter #[.pointer (some ⟨b2, 0, none⟩)] 77 [(0, .pointer (some ⟨b2, 0, none⟩))] rfl ⟨rfl, trivial⟩
 have hw := Wd.enterI hS hin
 have hw := hw.addE h5
 delta made_Dice_Stage at hsh
 refine wp_seq ?_
 refine wp_region_lit ?_
 refine w_alloc (cs := [.int .i64 0, .int .i64 0, .int .i64 0, .int .i64 0, .int .i64 0, .int .i64 0, .int .i64 0, .slice none ([] : List Int).length 0, .int .i64 0, .int .i64 0]) hs hw Try.zeroValue45 rfl rfl trivial ?_
 intro b6 a w hs hw
 refine wpList_nil ?_
 refine then_normal ?_
 refine wp_seq ?_
 refine wp_seq ?_
 refine wp_region_lit ?_
 refine st_val hs (y_move rfl) trivial rfl rfl fun a hs => ?_
 obtain ⟨rv8, h7, hsh⟩ := bind_t hsh
 refine st_callR hs (made_Dice_Next_ok h7 hw.dom (hw.ins [1] (by decide) rfl) (hw.envAt 0 rfl)) (do_call Try.call15 rfl) trivial rfl rfl ?_
 intro v15 Sv12 w a h13 h14 hs
 obtain ⟨p9, k10, rfl, h16, h11⟩ := h14
 have hw := hw.callO [1] [0] (by decide) rfl h13 h16
 have hw := hw.addE (e := SlA p9 rv8.2.L.length k10 rv8.2.L) h11
 refine wpList_nil ?_
 refine then_normal ?_
 refine wp_block ?_
 refine wp_seq ?_
 refine wp_region_lit ?_
 refine st_val hs (y_eql rfl rfl) trivial rfl rfl fun a hs => ?_
 refine st_val hs (y_assign rfl) trivial rfl rfl fun a hs => ?_
 refine wpList_nil ?_
 refine then_normal ?_
 refine wp_cond_split (hs.ev rfl) (fun h193 => ?_) (fun h193 => ?_)
 ·have hsh := ite_t hsh h193
  refine wp_seq ?_
  refine wp_region_lit ?_
  refine st_val hs (y_move rfl) trivial rfl rfl fun a hs => ?_
  obtain ⟨rv195, h194, hsh⟩ := bind_t hsh
  refine st_callR hs (made_Dice_Next_ok h194 hw.dom (hw.ins [0] (by decide) rfl) (hw.envAt 0 rfl)) (do_call Try.call15 rfl) trivial rfl rfl ?_
  intro v202 Sv199 w a h200 h201 hs
  obtain ⟨p196, k197, rfl, h203, h198⟩ := h201
  have hw := hw.callO [0] [1] (by decide) rfl h200 h203
  have hw := hw.addE (e := SlA p196 rv195.2.L.length k197 rv195.2.L) h198
  refine st_val hs (y_add rfl rfl) trivial rfl rfl fun a hs => ?_
  refine st_val hs (y_build (vs := [(0, .int .i64 (w64 (1 + rv195.1)))]) Bld43 rfl rfl) trivial rfl rfl fun a hs => ?_
  refine st_val hs (y_move rfl) trivial rfl rfl fun a hs => ?_
  obtain ⟨rv205, h204, hsh⟩ := bind_t hsh
  refine st_callR hs (made_Dice_Next_ok h204 hw.dom (hw.ins [0] (by decide) rfl) (hw.envAt 0 rfl)) (do_call Try.call15 rfl) trivial rfl rfl ?_
  intro v212 Sv209 w a h210 h211 hs
  obtain ⟨p206, k207, rfl, h213, h208⟩ := h211
  have hw := hw.callO [0] [1] (by decide) rfl h210 h213
  have hw := hw.addE (e := SlA p206 rv205.2.L.length k207 rv205.2.L) h208
  refine st_val hs (y_add rfl rfl) trivial rfl rfl fun a hs => ?_
  refine st_val hs (y_build (vs := [(0, .int .i64 (w64 (1 + rv205.1)))]) Bld43 rfl rfl) trivial rfl rfl fun a hs => ?_
  refine st_val hs (y_build (vs := [(0, .int .i64 0), (1, .agg #[.int .i64 (w64 (1 + rv195.1)), .int .i64 0, .int .i64 0]), (2, .agg #[.int .i64 (w64 (1 + rv205.1)), .int .i64 0, .int .i64 0])]) Bld45 rfl rfl) trivial rfl rfl fun a hs => ?_
  refine w_store (m := 10) (cs' := [.int .i64 0, .int .i64 (w64 (1 + rv195.1)), .int .i64 0, .int .i64 0, .int .i64 (w64 (1 + rv205.1)), .int .i64 0, .int .i64 0, .slice none ([] : List Int).length 0, .int .i64 0, .int .i64 0]) hs hw 1 rfl rfl rfl Try.sizeOf45 rfl rfl rfl rfl trivial ?_
  intro a w hs hw
  refine wpList_nil ?_
  refine then_normal ?_
  have hsh := Option.some.inj hsh
  subst hsh
  have hw := hw.nilRow Int 3
  refine wp_ret ?_
  refine blk_ret ?_
  refine then_ret ?_
  exact ret1 hs rfl (rv_cell hw 2 rfl rfl Try.isAgg45 Try.sizeOf45 rfl) (hw.ret ⟨none, 0, [], p206, k207, rfl, (hw.outs [0, 1] (by decide) rfl), (hw.envAt 0 rfl), (hw.envAt 1 rfl)⟩)
 ·have hsh := ite_f hsh h193
  refine wp_seq ?_
  refine wp_region_lit ?_
  refine st_val hs (y_eql rfl rfl) trivial rfl rfl fun a hs => ?_
  refine st_val hs (y_assign rfl) trivial rfl rfl fun a hs => ?_
  refine wpList_nil ?_
  refine then_normal ?_
  refine wp_cond_split (hs.ev rfl) (fun h281 => ?_) (fun h281 => ?_)
  ·have hsh := ite_t hsh h281
   refine wp_seq ?_
   refine wp_region_lit ?_
   refine st_val hs (y_move rfl) trivial rfl rfl fun a hs => ?_
   obtain ⟨rv283, h282, hsh⟩ := bind_t hsh
   refine st_callR hs (made_Dice_Next_ok h282 hw.dom (hw.ins [0] (by decide) rfl) (hw.envAt 0 rfl)) (do_call Try.call15 rfl) trivial rfl rfl ?_
   intro v290 Sv287 w a h288 h289 hs
   obtain ⟨p284, k285, rfl, h291, h286⟩ := h289
   have hw := hw.callO [0] [1] (by decide) rfl h288 h291
   have hw := hw.addE (e := SlA p284 rv283.2.L.length k285 rv283.2.L) h286
   refine st_val hs (y_sub rfl rfl) trivial rfl rfl fun a hs => ?_
   refine st_val hs (y_move rfl) trivial rfl rfl fun a hs => ?_
   obtain ⟨rv293, h292, hsh⟩ := bind_t hsh
   refine st_callR hs (made_Dice_Next_ok h292 hw.dom (hw.ins [0] (by decide) rfl) (hw.envAt 0 rfl)) (do_call Try.call15 rfl) trivial rfl rfl ?_
   intro v300 Sv297 w a h298 h299 hs
   obtain ⟨p294, k295, rfl, h301, h296⟩ := h299
   have hw := hw.callO [0] [1] (by decide) rfl h298 h301
   have hw := hw.addE (e := SlA p294 rv293.2.L.length k295 rv293.2.L) h296
   refine st_val hs (y_sub rfl rfl) trivial rfl rfl fun a hs => ?_
   refine st_val hs (y_move rfl) trivial rfl rfl fun a hs => ?_
   obtain ⟨rv303, h302, hsh⟩ := bind_t hsh
   refine st_callR hs (made_Dice_Next_ok h302 hw.dom (hw.ins [0] (by decide) rfl) (hw.envAt 0 rfl)) (do_call Try.call15 rfl) trivial rfl rfl ?_
   intro v310 Sv307 w a h308 h309 hs
   obtain ⟨p304, k305, rfl, h311, h306⟩ := h309
   have hw := hw.callO [0] [1] (by decide) rfl h308 h311
   have hw := hw.addE (e := SlA p304 rv303.2.L.length k305 rv303.2.L) h306
   refine st_val hs (y_build (vs := [(0, .int .i64 (w64 (rv283.1 - 4))), (1, .int .i64 (w64 (rv293.1 - 4))), (2, .int .i64 rv303.1)]) Bld43 rfl rfl) trivial rfl rfl fun a hs => ?_
   refine st_val hs (y_move rfl) trivial rfl rfl fun a hs => ?_
   refine w_litSlice (α := Int) (vs := [.int .i64 1, .int .i64 2, .int .i64 (-3), .int .i64 1048576]) (cs := [.int .i64 1, .int .i64 2, .int .i64 (-3), .int .i64 1048576]) (xs := ([1, 2, (-3), 1048576] : List Int)) hs hw El22 rfl rfl rfl rfl rfl rfl ⟨⟨_, rfl, rfl⟩, ⟨⟨_, rfl, rfl⟩, ⟨⟨_, rfl, rfl⟩, ⟨⟨_, rfl, rfl⟩, rfl⟩⟩⟩⟩ rfl trivial rfl fun b313 a w hs hw => ?_
   obtain ⟨rv315, h314, hsh⟩ := bind_t hsh
   obtain ⟨Sv319, hw⟩ := w_share (α := Int) hw 0 rfl 0 rfl
   refine st_callR hs (made_Dice_Pick_ok h314 hw.dom (hw.ins [0] (by decide) rfl) (hw.envAt 2 rfl) (hw.envAt 0 rfl)) (do_call Try.call27 rfl) trivial rfl rfl ?_
   intro v323 Sv320 w a h321 h322 hs
   obtain ⟨p316, k317, rfl, h324, h318⟩ := h322
   have hw := hw.callO [0] [1] (by decide) rfl h321 h324
   have hw := hw.addE (e := SlA p316 rv315.2.L.length k317 rv315.2.L) h318
   refine st_val hs (y_move rfl) trivial rfl rfl fun a hs => ?_
   obtain ⟨rv326, h325, hsh⟩ := bind_t hsh
   refine st_callR hs (made_Dice_Next_ok h325 hw.dom (hw.ins [0] (by decide) rfl) (hw.envAt 0 rfl)) (do_call Try.call15 rfl) trivial rfl rfl ?_
   intro v333 Sv330 w a h331 h332 hs
   obtain ⟨p327, k328, rfl, h334, h329⟩ := h332
   have hw := hw.callO [0] [1] (by decide) rfl h331 h334
   have hw := hw.addE (e := SlA p327 rv326.2.L.length k328 rv326.2.L) h329
   refine st_val hs (y_sub rfl rfl) trivial rfl rfl fun a hs => ?_
   refine st_val hs (y_move rfl) trivial rfl rfl fun a hs => ?_
   refine w_litSlice (α := Int) (vs := [.int .i64 0, .int .i64 1, .int .i64 1048576]) (cs := [.int .i64 0, .int .i64 1, .int .i64 1048576]) (xs := ([0, 1, 1048576] : List Int)) hs hw El22 rfl rfl rfl rfl rfl rfl ⟨⟨_, rfl, rfl⟩, ⟨⟨_, rfl, rfl⟩, ⟨⟨_, rfl, rfl⟩, rfl⟩⟩⟩ rfl trivial rfl fun b336 a w hs hw => ?_
   obtain ⟨rv338, h337, hsh⟩ := bind_t hsh
   obtain ⟨Sv342, hw⟩ := w_share (α := Int) hw 0 rfl 0 rfl
   refine st_callR hs (made_Dice_Pick_ok h337 hw.dom (hw.ins [0] (by decide) rfl) (hw.envAt 2 rfl) (hw.envAt 0 rfl)) (do_call Try.call27 rfl) trivial rfl rfl ?_
   intro v346 Sv343 w a h344 h345 hs
   obtain ⟨p339, k340, rfl, h347, h341⟩ := h345
   have hw := hw.callO [0] [1] (by decide) rfl h344 h347
   have hw := hw.addE (e := SlA p339 rv338.2.L.length k340 rv338.2.L) h341
   refine st_val hs (y_build (vs := [(0, .int .i64 rv315.1), (1, .int .i64 (w64 (rv326.1 - 4))), (2, .int .i64 rv338.1)]) Bld43 rfl rfl) trivial rfl rfl fun a hs => ?_
   refine st_val hs (y_build (vs := [(0, .int .i64 1), (1, .agg #[.int .i64 (w64 (rv283.1 - 4)), .int .i64 (w64 (rv293.1 - 4)), .int .i64 rv303.1]), (2, .agg #[.int .i64 rv315.1, .int .i64 (w64 (rv326.1 - 4)), .int .i64 rv338.1])]) Bld45 rfl rfl) trivial rfl rfl fun a hs => ?_
   refine w_store (m := 10) (cs' := [.int .i64 1, .int .i64 (w64 (rv283.1 - 4)), .int .i64 (w64 (rv293.1 - 4)), .int .i64 rv303.1, .int .i64 rv315.1, .int .i64 (w64 (rv326.1 - 4)), .int .i64 rv338.1, .slice none ([] : List Int).length 0, .int .i64 0, .int .i64 0]) hs hw 1 rfl rfl rfl Try.sizeOf45 rfl rfl rfl rfl trivial ?_
   intro a w hs hw
   refine wpList_nil ?_
   refine then_normal ?_
   have hsh := Option.some.inj hsh
   subst hsh
   have hw := hw.nilRow Int 3
   refine wp_ret ?_
   refine blk_ret ?_
   refine then_ret ?_
   exact ret1 hs rfl (rv_cell hw 2 rfl rfl Try.isAgg45 Try.sizeOf45 rfl) (hw.ret ⟨none, 0, [], p339, k340, rfl, (hw.outs [0, 1] (by decide) rfl), (hw.envAt 0 rfl), (hw.envAt 1 rfl)⟩)
  ·have hsh := ite_f hsh h281
   refine wp_skip ?_
   refine blk_normal ?_
   refine then_normal ?_
   refine wp_seq ?_
   refine wp_region_lit ?_
   refine st_val hs (y_move rfl) trivial rfl rfl fun a hs => ?_
   obtain ⟨rv349, h348, hsh⟩ := bind_t hsh
   refine st_callR hs (made_Dice_Next_ok h348 hw.dom (hw.ins [0] (by decide) rfl) (hw.envAt 0 rfl)) (do_call Try.call15 rfl) trivial rfl rfl ?_
   intro v356 Sv353 w a h354 h355 hs
   obtain ⟨p350, k351, rfl, h357, h352⟩ := h355
   have hw := hw.callO [0] [1] (by decide) rfl h354 h357
   have hw := hw.addE (e := SlA p350 rv349.2.L.length k351 rv349.2.L) h352
   refine st_val hs (y_add rfl rfl) trivial rfl rfl fun a hs => ?_
   refine w_litSlice (α := Int) (vs := [.int .i64 (w64 (1 + rv349.1))]) (cs := [.int .i64 (w64 (1 + rv349.1))]) (xs := ([(w64 (1 + rv349.1))] : List Int)) hs hw El22 rfl rfl rfl rfl rfl rfl ⟨⟨_, rfl, rfl⟩, rfl⟩ rfl trivial rfl fun b359 a w hs hw => ?_
   refine st_val hs (y_move rfl) trivial rfl rfl fun a hs => ?_
   refine w_litSlice (α := Int) (vs := [.int .i64 1, .int .i64 1, .int .i64 2, .int .i64 5]) (cs := [.int .i64 1, .int .i64 1, .int .i64 2, .int .i64 5]) (xs := ([1, 1, 2, 5] : List Int)) hs hw El22 rfl rfl rfl rfl rfl rfl ⟨⟨_, rfl, rfl⟩, ⟨⟨_, rfl, rfl⟩, ⟨⟨_, rfl, rfl⟩, ⟨⟨_, rfl, rfl⟩, rfl⟩⟩⟩⟩ rfl trivial rfl fun b361 a w hs hw => ?_
   obtain ⟨rv363, h362, hsh⟩ := bind_t hsh
   obtain ⟨Sv367, hw⟩ := w_share (α := Int) hw 0 rfl 0 rfl
   refine st_callR hs (made_Dice_Pick_ok h362 hw.dom (hw.ins [1] (by decide) rfl) (hw.envAt 3 rfl) (hw.envAt 0 rfl)) (do_call Try.call27 rfl) trivial rfl rfl ?_
   intro v371 Sv368 w a h369 h370 hs
   obtain ⟨p364, k365, rfl, h372, h366⟩ := h370
   have hw := hw.callO [1] [0, 2] (by decide) rfl h369 h372
   have hw := hw.addE (e := SlA p364 rv363.2.L.length k365 rv363.2.L) h366
   refine st_val hs (y_move rfl) trivial rfl rfl fun a hs => ?_
   obtain ⟨rv374, h373, hsh⟩ := bind_t hsh
   refine st_callR hs (made_Dice_Next_ok h373 hw.dom (hw.ins [0] (by decide) rfl) (hw.envAt 0 rfl)) (do_call Try.call15 rfl) trivial rfl rfl ?_
   intro v381 Sv378 w a h379 h380 hs
   obtain ⟨p375, k376, rfl, h382, h377⟩ := h380
   have hw := hw.callO [0] [1, 2] (by decide) rfl h379 h382
   have hw := hw.addE (e := SlA p375 rv374.2.L.length k376 rv374.2.L) h377
   refine st_val hs (y_build (vs := [(0, .int .i64 2), (3, .slice (some ⟨b359, 0, none⟩) ([(w64 (1 + rv349.1))] : List Int).length ([(w64 (1 + rv349.1))] : List Int).length), (4, .int .i64 rv363.1), (5, .int .i64 rv374.1)]) Bld45 rfl rfl) trivial rfl rfl fun a hs => ?_
   refine w_alloc (cs := [.int .i64 0, .int .i64 0, .int .i64 0, .int .i64 0, .int .i64 0, .int .i64 0, .int .i64 0, .slice none ([] : List Int).length 0, .int .i64 0, .int .i64 0]) hs hw Try.zeroValue45 rfl rfl trivial ?_
   intro b383 a w hs hw
   refine w_store (m := 10) (cs' := [.int .i64 2, .int .i64 0, .int .i64 0, .int .i64 0, .int .i64 0, .int .i64 0, .int .i64 0, .slice (some ⟨b359, 0, none⟩) ([(w64 (1 + rv349.1))] : List Int).length ([(w64 (1 + rv349.1))] : List Int).length, .int .i64 rv363.1, .int .i64 rv374.1]) hs hw 0 rfl rfl rfl Try.sizeOf45 rfl rfl rfl rfl trivial ?_
   intro a w hs hw
   refine wpList_nil ?_
   refine then_normal ?_
   refine wp_seq ?_
   refine wp_seq ?_
   refine wp_region_lit ?_
   refine st_val hs (y_move rfl) trivial rfl rfl fun a hs => ?_
   obtain ⟨rv385, h384, hsh⟩ := bind_t hsh
   refine st_callR hs (made_Dice_Next_ok h384 hw.dom (hw.ins [1] (by decide) rfl) (hw.envAt 0 rfl)) (do_call Try.call15 rfl) trivial rfl rfl ?_
   intro v392 Sv389 w a h390 h391 hs
   obtain ⟨p386, k387, rfl, h393, h388⟩ := h391
   have hw := hw.callO [1] [0, 2, 3] (by decide) rfl h390 h393
   have hw := hw.addE (e := SlA p386 rv385.2.L.length k387 rv385.2.L) h388
   refine st_val hs (y_assign rfl) trivial rfl rfl fun a hs => ?_
   refine wpList_nil ?_
   refine then_normal ?_
   obtain ⟨e491, h582, hsh⟩ := bind_t hsh
   refine wp_join (fun a w => ∃ (p492 : Option Addr) (k493 : Nat) (c494 : List Value) (p495 : Option Addr) (k496 : Nat) (Sv497 : Nat → Prop), Sl 77 [(0, .pointer (some ⟨b2, 0, none⟩)), (2, .pointer (some ⟨b6, 0, none⟩)), (3, .pointer (some ⟨b383, 0, none⟩))] a ∧ Wd ⟨w0, S0, blks [.box b2 [.slice p3 d1.L.length k4, .int .i64 d1.At] 75]⟩ Sv497 [.box b2 [.slice p492 e491.1.length k493, .int .i64 e491.2.1] 75, .box b6 [.int .i64 0, .int .i64 0, .int .i64 0, .int .i64 0, .int .i64 0, .int .i64 0, .int .i64 0, .slice none ([] : List Int).length 0, .int .i64 0, .int .i64 0] 45, .box b383 [.int .i64 2, .int .i64 0, .int .i64 0, .int .i64 0, .int .i64 0, .int .i64 0, .int .i64 0, .slice p495 e491.2.2.length k496, .int .i64 rv363.1, .int .i64 rv374.1] 45, .row p495 e491.2.2.length k496 c494 3 1] [SlA p492 e491.1.length k493 e491.1, SlA none ([] : List Int).length 0 ([] : List Int), RowA c494 e491.2.2] w) ?_ ?_
   ·refine wp_block ?_
    have hw := hw.addE (e := SlA (α := Int) none 0 0 []) nil_sl
    refine wp_while (fun sv394 a w => ∃ (p455 : Option Addr) (k456 : Nat) (c457 : List Value) (p458 : Option Addr) (k459 : Nat) (Sv460 : Nat → Prop), Sl 77 [(0, .pointer (some ⟨b2, 0, none⟩)), (2, .pointer (some ⟨b6, 0, none⟩)), (3, .pointer (some ⟨b383, 0, none⟩)), (4, .int .i64 sv394.2.2.2)] a ∧ Wd ⟨w0, S0, blks [.box b2 [.slice p3 d1.L.length k4, .int .i64 d1.At] 75]⟩ Sv460 [.box b2 [.slice p455 sv394.1.length k456, .int .i64 sv394.2.1] 75, .box b6 [.int .i64 0, .int .i64 0, .int .i64 0, .int .i64 0, .int .i64 0, .int .i64 0, .int .i64 0, .slice none ([] : List Int).length 0, .int .i64 0, .int .i64 0] 45, .box b383 [.int .i64 2, .int .i64 0, .int .i64 0, .int .i64 0, .int .i64 0, .int .i64 0, .int .i64 0, .slice p458 sv394.2.2.1.length k459, .int .i64 rv363.1, .int .i64 rv374.1] 45, .row p458 sv394.2.2.1.length k459 c457 3 1] [SlA p455 sv394.1.length k456 sv394.1, SlA none ([] : List Int).length 0 ([] : List Int), RowA c457 sv394.2.2.1] w) (rv385.2.L, rv385.2.At, ([(w64 (1 + rv349.1))] : List Int), rv385.1) h582 ⟨p386, k387, [.int .i64 (w64 (1 + rv349.1))], (some ⟨b359, 0, none⟩), ([(w64 (1 + rv349.1))] : List Int).length, Sv389, (hs.wk rfl), (hw.ft [0, 3, 1, 2] [1, 0, 6] (by decide) rfl rfl)⟩ ?_
    clear h582
    repeat clear hsh
    rintro sv394 a w tv489 ⟨p455, k456, c457, p458, k459, Sv460, hs, hw⟩ hsh hd488
    delta made_Dice_Stage_l1 at hsh
    refine wp_seq ?_
    refine wp_seq ?_
    refine wp_region_lit ?_
    refine st_val hs (y_move rfl) trivial rfl rfl fun a hs => ?_
    refine st_val hs (y_gtr rfl rfl) trivial rfl rfl fun a hs => ?_
    refine wpList_nil ?_
    refine then_normal ?_
    refine wp_cond_split (hs.ev rfl) (fun h499 => ?_) (fun h499 => ?_)
    ·have hsh := ite_t hsh h499
     refine wp_skip ?_
     refine then_normal ?_
     refine wp_seq ?_
     refine wp_block ?_
     refine wp_seq ?_
     refine wp_region_lit ?_
     refine st_val hs (y_move rfl) trivial rfl rfl fun a hs => ?_
     obtain ⟨rv525, h524, hsh⟩ := bind_t hsh
     refine st_callR hs (made_Dice_Next_ok h524 hw.dom (hw.ins [0] (by decide) rfl) (hw.envAt 0 rfl)) (do_call Try.call15 rfl) trivial rfl rfl ?_
     intro v532 Sv529 w a h530 h531 hs
     obtain ⟨p526, k527, rfl, h533, h528⟩ := h531
     have hw := hw.callO [0] [1, 2, 3] (by decide) rfl h530 h533
     have hw := hw.addE (e := SlA p526 rv525.2.L.length k527 rv525.2.L) h528
     refine st_val hs (y_assign rfl) trivial rfl rfl fun a hs => ?_
     refine wpList_nil ?_
     refine then_normal ?_
     refine wp_region_lit ?_
     refine st_val hs (y_move rfl) trivial rfl rfl fun a hs => ?_
     refine w_litSlice (α := Int) (vs := [.int .i64 rv525.1]) (cs := [.int .i64 rv525.1]) (xs := ([rv525.1] : List Int)) hs hw El22 rfl rfl rfl rfl rfl rfl ⟨⟨_, rfl, rfl⟩, rfl⟩ rfl trivial rfl fun b535 a w hs hw => ?_
     refine st_val hs (y_fieldAddr (o' := 7) Try.runUnderlying45 rfl Try.sizeOf22 rfl rfl rfl) trivial rfl rfl fun a hs => ?_
     refine st_val hs (y_loadB1 (hw.ownAt 3 rfl) rfl Try.isAgg22 rfl) trivial rfl rfl fun a hs => ?_
     obtain ⟨l537, h536, hsh⟩ := bind_t hsh
     refine w_appendR (α := Int) hs hw El22 0 rfl rfl rfl 0 rfl 4 rfl 4 rfl h536 rfl trivial ?_
     intro p538 k539 c540 a w hs hw
     refine st_val hs (y_move rfl) trivial rfl rfl fun a hs => ?_
     refine w_litSlice (α := Int) (vs := [.int .i64 rv525.1]) (cs := [.int .i64 rv525.1]) (xs := ([rv525.1] : List Int)) hs hw El22 rfl rfl rfl rfl rfl rfl ⟨⟨_, rfl, rfl⟩, rfl⟩ rfl trivial rfl fun b542 a w hs hw => ?_
     obtain ⟨l544, h543, hsh⟩ := bind_t hsh
     refine w_appendR (α := Int) hs hw El22 1 rfl rfl rfl 1 rfl 0 rfl 0 rfl h543 rfl trivial ?_
     intro p545 k546 c547 a w hs hw
     refine st_val hs (y_fieldAddr (o' := 7) Try.runUnderlying45 rfl Try.sizeOf22 rfl rfl rfl) trivial rfl rfl fun a hs => ?_
     refine w_store (m := 1) (cs' := [.int .i64 2, .int .i64 0, .int .i64 0, .int .i64 0, .int .i64 0, .int .i64 0, .int .i64 0, .slice p545 l544.length k546, .int .i64 rv363.1, .int .i64 rv374.1]) hs hw 4 rfl rfl rfl Try.sizeOf22 rfl rfl rfl rfl trivial ?_
     intro a w hs hw
     refine wpList_nil ?_
     refine blk_normal ?_
     refine then_normal ?_
     refine wp_region_lit ?_
     refine st_val hs (y_move rfl) trivial rfl rfl fun a hs => ?_
     refine st_val hs (y_sub rfl rfl) trivial rfl rfl fun a hs => ?_
     obtain ⟨i549, h548, hsh⟩ := bind_t hsh
     refine st_val hs (y_assignI rfl h548) trivial rfl rfl fun a hs => ?_
     refine wpList_nil ?_
     refine then_normal ?_
     exact ⟨_, (Option.some.inj hsh).symm, p526, k527, c547, p545, k546, Sv529, (hs.wk rfl), (hw.ft [2, 3, 4, 1] [4, 6, 0] (by decide) rfl rfl)⟩
    ·have hsh := ite_f hsh h499
     refine wp_exit ?_
     refine then_exit ?_
     refine then_exit ?_
     refine blk_exit ?_
     have hsh := Option.some.inj hsh
     subst hsh
     have h550 := hd488 _ rfl
     subst h550
     refine then_normal ?_
     exact ⟨p455, k456, c457, p458, k459, Sv460, (hs.wk rfl), (hw.ft [0, 1, 2, 3] [0, 1, 2] (by decide) rfl rfl)⟩
   ·rintro a w ⟨p492, k493, c494, p495, k496, Sv497, hs, hw⟩
    refine then_normal ?_
    refine wp_seq ?_
    refine wp_seq ?_
    refine wp_region_lit ?_
    refine st_val hs (y_move rfl) trivial rfl rfl fun a hs => ?_
    obtain ⟨rv552, h551, hsh⟩ := bind_t hsh
    refine st_callR hs (made_Dice_Next_ok h551 hw.dom (hw.ins [0] (by decide) rfl) (hw.envAt 0 rfl)) (do_call Try.call15 rfl) trivial rfl rfl ?_
    intro v559 Sv556 w a h557 h558 hs
    obtain ⟨p553, k554, rfl, h560, h555⟩ := h558
    have hw := hw.callO [0] [1, 2, 3] (by decide) rfl h557 h560
    have hw := hw.addE (e := SlA p553 rv552.2.L.length k554 rv552.2.L) h555
    refine st_val hs (y_eql rfl rfl) trivial rfl rfl fun a hs => ?_
    refine wpList_nil ?_
    refine then_normal ?_
    refine wp_join (fun a w => ∃ (x573 : (List Int)) (c569 : List Value) (p570 : Option Addr) (k571 : Nat) (Sv572 : Nat → Prop), made_Dice_Stage_j2 rv363 rv374 rv552 x573 = some r ∧ Sl 77 [(2, .pointer (some ⟨b6, 0, none⟩)), (3, .pointer (some ⟨b383, 0, none⟩))] a ∧ Wd ⟨w0, S0, blks [.box b2 [.slice p3 d1.L.length k4, .int .i64 d1.At] 75]⟩ Sv572 [.box b2 [.slice p553 rv552.2.L.length k554, .int .i64 rv552.2.At] 75, .box b6 [.int .i64 0, .int .i64 0, .int .i64 0, .int .i64 0, .int .i64 0, .int .i64 0, .int .i64 0, .slice none ([] : List Int).length 0, .int .i64 0, .int .i64 0] 45, .box b383 [.int .i64 2, .int .i64 0, .int .i64 0, .int .i64 0, .int .i64 0, .int .i64 0, .int .i64 0, .slice p570 x573.length k571, .int .i64 rv363.1, .int .i64 rv374.1] 45, .row p570 x573.length k571 c569 3 1] [SlA p553 rv552.2.L.length k554 rv552.2.L, SlA none ([] : List Int).length 0 ([] : List Int), RowA c569 x573] w) ?_ ?_
    ·refine wp_cond_split (hs.ev rfl) (fun h574 => ?_) (fun h574 => ?_)
     ·have hsh := ite_t hsh h574
      refine wp_region_lit ?_
      refine st_val hs (y_fieldAddr (o' := 7) Try.runUnderlying45 rfl Try.sizeOf22 rfl rfl rfl) trivial rfl rfl fun a hs => ?_
      refine st_val hs (y_loadB1 (hw.ownAt 2 rfl) rfl Try.isAgg22 rfl) trivial rfl rfl fun a hs => ?_
      refine w_litSlice (α := Int) (vs := [.int .i64 3]) (cs := [.int .i64 3]) (xs := ([3] : List Int)) hs hw El22 rfl rfl rfl rfl rfl rfl ⟨⟨_, rfl, rfl⟩, rfl⟩ rfl trivial rfl fun b576 a w hs hw => ?_
      obtain ⟨l578, h577, hsh⟩ := bind_t hsh
      refine w_appendR (α := Int) hs hw El22 4 rfl rfl rfl 4 rfl 0 rfl 0 rfl h577 rfl trivial ?_
      intro p579 k580 c581 a w hs hw
      refine st_val hs (y_fieldAddr (o' := 7) Try.runUnderlying45 rfl Try.sizeOf22 rfl rfl rfl) trivial rfl rfl fun a hs => ?_
      refine w_store (m := 1) (cs' := [.int .i64 2, .int .i64 0, .int .i64 0, .int .i64 0, .int .i64 0, .int .i64 0, .int .i64 0, .slice p579 l578.length k580, .int .i64 rv363.1, .int .i64 rv374.1]) hs hw 3 rfl rfl rfl Try.sizeOf22 rfl rfl rfl rfl trivial ?_
      intro a w hs hw
      refine wpList_nil ?_
      refine then_normal ?_
      exact ⟨l578, c581, p579, k580, Sv556, hsh, (hs.wk rfl), (hw.ft [1, 2, 3, 4] [2, 4, 0] (by decide) rfl rfl)⟩
     ·have hsh := ite_f hsh h574
      refine wp_skip ?_
      refine then_normal ?_
      exact ⟨e491.2.2, c494, p495, k496, Sv556, hsh, (hs.wk rfl), (hw.ft [0, 1, 2, 3] [0, 2, 3] (by decide) rfl rfl)⟩
    ·rintro a w ⟨x573, c569, p570, k571, Sv572, hsh, hs, hw⟩
     delta made_Dice_Stage_j2 at hsh
     refine then_normal ?_
     refine wp_seq ?_
     refine wp_region_lit ?_
     refine st_val hs (y_loadBA (hw.ownAt 2 rfl) rfl Try.isAgg45 Try.sizeOf45 rfl rfl) trivial rfl rfl fun a hs => ?_
     refine w_store (m := 10) (cs' := [.int .i64 2, .int .i64 0, .int .i64 0, .int .i64 0, .int .i64 0, .int .i64 0, .int .i64 0, .slice p570 x573.length k571, .int .i64 rv363.1, .int .i64 rv374.1]) hs hw 1 rfl rfl rfl Try.sizeOf45 rfl rfl rfl rfl trivial ?_
     intro a w hs hw
     refine wpList_nil ?_
     refine then_normal ?_
     have hsh := Option.some.inj hsh
     subst hsh
     refine wp_ret ?_
     exact ret1 hs rfl (rv_cell hw 1 rfl rfl Try.isAgg45 Try.sizeOf45 rfl) (hw.ret ⟨p570, k571, c569, p553, k554, rfl, (hw.outs [3, 0] (by decide) rfl), (hw.envAt 2 rfl), (hw.envAt 0 rfl)⟩)

abbrev made_Dice_Samples_rd (w0 : World) (X : List Nat) (b2 : Nat) (r : ((List Int) × Dice)) : (Nat → Prop) → World → Value → Prop := fun S w v => ∃ (p0_0 : Option Addr) (k0_0 : Nat) (c0_0 : List Value) (pq0_0 : Option Addr) (kq0_0 : Nat), v = .slice p0_0 r.1.length k0_0 ∧ Outs X w0 S w [.row p0_0 r.1.length k0_0 c0_0 3 1, .box b2 [.slice pq0_0 r.2.L.length kq0_0, .int .i64 r.2.At] 75] ∧ (RowA c0_0 r.1).p S w ∧ (SlA pq0_0 r.2.L.length kq0_0 r.2.L).p S w
set_option maxHeartbeats 4000000 in
set_option maxRecDepth 100000 in
theorem made_Dice_Samples_ok {w0 : World} {S0 : Nat → Prop} {b2 : Nat} {p3 : Option Addr} {k4 : Nat} {d1 : Dice} {n6 : Int} {r : ((List Int) × Dice)} (hsh : made_Dice_Samples d1 n6 = some r) (hS : ∀ b, S0 b → b < w0.heap.size) (hin : Ins S0 w0 [.box b2 [.slice p3 d1.L.length k4, .int .i64 d1.At] 75]) (h5 : (SlA p3 d1.L.length k4 d1.L).p S0 w0) : Calls Try.prog 16 #[.pointer (some ⟨b2, 0, none⟩), .int .i64 n6] w0 (Ret (blks [.box b2 [.slice p3 d1.L.length k4, .int .i64 d1.At] 75]) w0 S0 (made_Dice_Samples_rd w0 (blks [.box b2 [.slice p3 d1.L.length k4, .int .i64 d1.At] 75]) b2 r)) := by
 refine calls_of_wp Try.func16 rfl ?_
 have hs := Sl.enter #[.pointer (some ⟨b2, 0, none⟩), .int .i64 n6] 53 [(0, .pointer (some ⟨b2, 0, none⟩)), (1, .int .i64 n6)] rfl ⟨rfl, rfl, trivial⟩
 have hw := Wd.enterI hS hin
 have hw := hw.addE h5
 delta made_Dice_Samples at hsh
 refine wp_seq ?_
 refine wp_region_lit ?_
 refine st_val hs (y_assign rfl) trivial rfl rfl fun a hs => ?_
 refine wpList_nil ?_
 refine then_normal ?_
 refine wp_seq ?_
 refine wp_region_lit ?_
 refine st_val hs (y_assign rfl) trivial rfl rfl fun a hs => ?_
 refine wpList_nil ?_
 refine then_normal ?_
 refine wp_seq ?_
 refine wp_region_lit ?_
 refine st_val hs (y_move rfl) trivial rfl rfl fun a hs => ?_
 refine w_litSlice (α := Int) (vs := [.int .i64 0, .int .i64 5, .int .i64 (-100), .int .i64 1000]) (cs := [.int .i64 0, .int .i64 5, .int .i64 (-100), .int .i64 1000]) (xs := ([0, 5, (-100), 1000] : List Int)) hs hw El22 rfl rfl rfl rfl rfl rfl ⟨⟨_, rfl, rfl⟩, ⟨⟨_, rfl, rfl⟩, ⟨⟨_, rfl, rfl⟩, ⟨⟨_, rfl, rfl⟩, rfl⟩⟩⟩⟩ rfl trivial rfl fun b8 a w hs hw => ?_
 obtain ⟨rv10, h9, hsh⟩ := bind_t hsh
 obtain ⟨Sv14, hw⟩ := w_share (α := Int) hw 0 rfl 0 rfl
 refine st_callR hs (made_Dice_Pick_ok h9 hw.dom (hw.ins [0] (by decide) rfl) (hw.envAt 2 rfl) (hw.envAt 0 rfl)) (do_call Try.call27 rfl) trivial rfl rfl ?_
 intro v18 Sv15 w a h16 h17 hs
 obtain ⟨p11, k12, rfl, h19, h13⟩ := h17
 have hw := hw.callO [0] [] (by decide) rfl h16 h19
 have hw := hw.addE (e := SlA p11 rv10.2.L.length k12 rv10.2.L) h13
 refine st_val hs (y_assign rfl) trivial rfl rfl fun a hs => ?_
 refine wpList_nil ?_
 refine then_normal ?_
 refine wp_seq ?_
 refine wp_seq ?_
 refine wp_region_lit ?_
 refine st_val hs (y_move rfl) trivial rfl rfl fun a hs => ?_
 refine st_val hs (y_move rfl) trivial rfl rfl fun a hs => ?_
 obtain ⟨rv21, h20, hsh⟩ := bind_t hsh
 refine st_callR hs (made_Dice_Next_ok h20 hw.dom (hw.ins [0] (by decide) rfl) (hw.envAt 0 rfl)) (do_call Try.call15 rfl) trivial rfl rfl ?_
 intro v28 Sv25 w a h26 h27 hs
 obtain ⟨p22, k23, rfl, h29, h24⟩ := h27
 have hw := hw.callO [0] [] (by decide) rfl h26 h29
 have hw := hw.addE (e := SlA p22 rv21.2.L.length k23 rv21.2.L) h24
 refine st_val hs (y_add rfl rfl) trivial rfl rfl fun a hs => ?_
 obtain ⟨i31, h30, hsh⟩ := bind_t hsh
 refine st_val hs (y_assignI rfl h30) trivial rfl rfl fun a hs => ?_
 refine wpList_nil ?_
 refine then_normal ?_
 obtain ⟨e342, h764, hsh⟩ := bind_t hsh
 refine wp_join (fun a w => ∃ (p343 : Option Addr) (k344 : Nat) (c345 : List Value) (p346 : Option Addr) (k347 : Nat) (Sv348 : Nat → Prop), Sl 53 [(5, .slice p346 e342.2.2.length k347)] a ∧ Wd ⟨w0, S0, blks [.box b2 [.slice p3 d1.L.length k4, .int .i64 d1.At] 75]⟩ Sv348 [.box b2 [.slice p343 e342.1.length k344, .int .i64 e342.2.1] 75, .row p346 e342.2.2.length k347 c345 3 1] [SlA p343 e342.1.length k344 e342.1, RowA c345 e342.2.2] w) ?_ ?_
 ·refine wp_block ?_
  have hw := hw.nilRow Int 3
  refine wp_while (fun sv32 a w => ∃ (p235 : Option Addr) (k236 : Nat) (c237 : List Value) (p238 : Option Addr) (k239 : Nat) (Sv240 : Nat → Prop), Sl 53 [(0, .pointer (some ⟨b2, 0, none⟩)), (5, .slice p238 sv32.2.2.1.length k239), (6, .int .i64 sv32.2.2.2.1), (7, .int .i64 sv32.2.2.2.2)] a ∧ Wd ⟨w0, S0, blks [.box b2 [.slice p3 d1.L.length k4, .int .i64 d1.At] 75]⟩ Sv240 [.box b2 [.slice p235 sv32.1.length k236, .int .i64 sv32.2.1] 75, .row p238 sv32.2.2.1.length k239 c237 3 1] [SlA p235 sv32.1.length k236 sv32.1, RowA c237 sv32.2.2.1] w) (rv21.2.L, rv21.2.At, ([] : List Int), rv10.1, i31) h764 ⟨p22, k23, [], none, 0, Sv25, (hs.wk rfl), (hw.ft [1, 0] [1, 0] (by decide) rfl rfl)⟩ ?_
  clear h764
  repeat clear hsh
  rintro sv32 a w tv340 ⟨p235, k236, c237, p238, k239, Sv240, hs, hw⟩ hsh hd339
  delta made_Dice_Samples_l1 at hsh
  refine wp_seq ?_
  refine wp_seq ?_
  refine wp_region_lit ?_
  refine st_val hs (y_move rfl) trivial rfl rfl fun a hs => ?_
  refine st_val hs (y_gtr rfl rfl) trivial rfl rfl fun a hs => ?_
  refine wpList_nil ?_
  refine then_normal ?_
  refine wp_cond_split (hs.ev rfl) (fun h350 => ?_) (fun h350 => ?_)
  ·have hsh := ite_t hsh h350
   refine wp_skip ?_
   refine then_normal ?_
   refine wp_seq ?_
   refine wp_block ?_
   refine wp_seq ?_
   refine wp_seq ?_
   refine wp_region_lit ?_
   refine st_val hs (y_move rfl) trivial rfl rfl fun a hs => ?_
   obtain ⟨rv447, h446, hsh⟩ := bind_t hsh
   refine st_callR hs (made_Dice_Next_ok h446 hw.dom (hw.ins [0] (by decide) rfl) (hw.envAt 0 rfl)) (do_call Try.call15 rfl) trivial rfl rfl ?_
   intro v454 Sv451 w a h452 h453 hs
   obtain ⟨p448, k449, rfl, h455, h450⟩ := h453
   have hw := hw.callO [0] [1] (by decide) rfl h452 h455
   have hw := hw.addE (e := SlA p448 rv447.2.L.length k449 rv447.2.L) h450
   refine wpList_nil ?_
   refine then_normal ?_
   refine wp_block ?_
   refine wp_seq ?_
   refine wp_region_lit ?_
   refine st_val hs (y_eql rfl rfl) trivial rfl rfl fun a hs => ?_
   refine st_val hs (y_assign rfl) trivial rfl rfl fun a hs => ?_
   refine wpList_nil ?_
   refine then_normal ?_
   refine wp_join (fun a w => ∃ (x605 : (List Int)) (x606 : Int) (x607 : Int) (p602 : Option Addr) (k603 : Nat) (Sv604 : Nat → Prop), made_Dice_Samples_j1 sv32 x605 x606 x607 = some tv340 ∧ Sl 53 [(0, .pointer (some ⟨b2, 0, none⟩)), (5, .slice p238 sv32.2.2.1.length k239), (6, .int .i64 x607), (7, .int .i64 sv32.2.2.2.2)] a ∧ Wd ⟨w0, S0, blks [.box b2 [.slice p3 d1.L.length k4, .int .i64 d1.At] 75]⟩ Sv604 [.box b2 [.slice p602 x605.length k603, .int .i64 x606] 75, .row p238 sv32.2.2.1.length k239 c237 3 1] [SlA p602 x605.length k603 x605, RowA c237 sv32.2.2.1] w) ?_ ?_
   ·refine wp_cond_split (hs.ev rfl) (fun h619 => ?_) (fun h619 => ?_)
    ·have hsh := ite_t hsh h619
     refine wp_region_lit ?_
     refine st_val hs (y_move rfl) trivial rfl rfl fun a hs => ?_
     refine st_val hs (y_move rfl) trivial rfl rfl fun a hs => ?_
     refine w_litSlice (α := Int) (vs := [.int .i64 127, .int .i64 128, .int .i64 (-128), .int .i64 (-129), .int .i64 300]) (cs := [.int .i64 127, .int .i64 128, .int .i64 (-128), .int .i64 (-129), .int .i64 300]) (xs := ([127, 128, (-128), (-129), 300] : List Int)) hs hw El22 rfl rfl rfl rfl rfl rfl ⟨⟨_, rfl, rfl⟩, ⟨⟨_, rfl, rfl⟩, ⟨⟨_, rfl, rfl⟩, ⟨⟨_, rfl, rfl⟩, ⟨⟨_, rfl, rfl⟩, rfl⟩⟩⟩⟩⟩ rfl trivial rfl fun b621 a w hs hw => ?_
     obtain ⟨rv623, h622, hsh⟩ := bind_t hsh
     obtain ⟨Sv627, hw⟩ := w_share (α := Int) hw 0 rfl 0 rfl
     refine st_callR hs (made_Dice_Pick_ok h622 hw.dom (hw.ins [0] (by decide) rfl) (hw.envAt 2 rfl) (hw.envAt 0 rfl)) (do_call Try.call27 rfl) trivial rfl rfl ?_
     intro v631 Sv628 w a h629 h630 hs
     obtain ⟨p624, k625, rfl, h632, h626⟩ := h630
     have hw := hw.callO [0] [1] (by decide) rfl h629 h632
     have hw := hw.addE (e := SlA p624 rv623.2.L.length k625 rv623.2.L) h626
     refine st_val hs (y_add rfl rfl) trivial rfl rfl fun a hs => ?_
     obtain ⟨x634, h633, hsh⟩ := bind_t hsh
     refine st_val hs (y_assignI rfl h633) trivial rfl rfl fun a hs => ?_
     refine wpList_nil ?_
     refine then_normal ?_
     exact ⟨rv623.2.L, rv623.2.At, x634, p624, k625, Sv628, hsh, (hs.wk rfl), (hw.ft [0, 1] [0, 5] (by decide) rfl rfl)⟩
    ·have hsh := ite_f hsh h619
     refine wp_seq ?_
     refine wp_region_lit ?_
     refine st_val hs (y_eql rfl rfl) trivial rfl rfl fun a hs => ?_
     refine st_val hs (y_assign rfl) trivial rfl rfl fun a hs => ?_
     refine wpList_nil ?_
     refine then_normal ?_
     refine wp_join (fun a w => ∃ (x686 : (List Int)) (x687 : Int) (x688 : Int) (p683 : Option Addr) (k684 : Nat) (Sv685 : Nat → Prop), made_Dice_Samples_j2 sv32 x686 x687 x688 = some tv340 ∧ Sl 53 [(0, .pointer (some ⟨b2, 0, none⟩)), (5, .slice p238 sv32.2.2.1.length k239), (6, .int .i64 x688), (7, .int .i64 sv32.2.2.2.2)] a ∧ Wd ⟨w0, S0, blks [.box b2 [.slice p3 d1.L.length k4, .int .i64 d1.At] 75]⟩ Sv685 [.box b2 [.slice p683 x686.length k684, .int .i64 x687] 75, .row p238 sv32.2.2.1.length k239 c237 3 1] [SlA p683 x686.length k684 x686, RowA c237 sv32.2.2.1] w) ?_ ?_
     ·refine wp_cond_split (hs.ev rfl) (fun h689 => ?_) (fun h689 => ?_)
      ·have hsh := ite_t hsh h689
       refine wp_region_lit ?_
       refine st_val hs (y_move rfl) trivial rfl rfl fun a hs => ?_
       refine st_val hs (y_move rfl) trivial rfl rfl fun a hs => ?_
       refine w_litSlice (α := Int) (vs := [.int .i64 32767, .int .i64 32768, .int .i64 (-32768), .int .i64 (-32769)]) (cs := [.int .i64 32767, .int .i64 32768, .int .i64 (-32768), .int .i64 (-32769)]) (xs := ([32767, 32768, (-32768), (-32769)] : List Int)) hs hw El22 rfl rfl rfl rfl rfl rfl ⟨⟨_, rfl, rfl⟩, ⟨⟨_, rfl, rfl⟩, ⟨⟨_, rfl, rfl⟩, ⟨⟨_, rfl, rfl⟩, rfl⟩⟩⟩⟩ rfl trivial rfl fun b691 a w hs hw => ?_
       obtain ⟨rv693, h692, hsh⟩ := bind_t hsh
       obtain ⟨Sv697, hw⟩ := w_share (α := Int) hw 0 rfl 0 rfl
       refine st_callR hs (made_Dice_Pick_ok h692 hw.dom (hw.ins [0] (by decide) rfl) (hw.envAt 2 rfl) (hw.envAt 0 rfl)) (do_call Try.call27 rfl) trivial rfl rfl ?_
       intro v701 Sv698 w a h699 h700 hs
       obtain ⟨p694, k695, rfl, h702, h696⟩ := h700
       have hw := hw.callO [0] [1] (by decide) rfl h699 h702
       have hw := hw.addE (e := SlA p694 rv693.2.L.length k695 rv693.2.L) h696
       refine st_val hs (y_add rfl rfl) trivial rfl rfl fun a hs => ?_
       obtain ⟨x704, h703, hsh⟩ := bind_t hsh
       refine st_val hs (y_assignI rfl h703) trivial rfl rfl fun a hs => ?_
       refine wpList_nil ?_
       refine then_normal ?_
       exact ⟨rv693.2.L, rv693.2.At, x704, p694, k695, Sv698, hsh, (hs.wk rfl), (hw.ft [0, 1] [0, 5] (by decide) rfl rfl)⟩
      ·have hsh := ite_f hsh h689
       refine wp_seq ?_
       refine wp_region_lit ?_
       refine st_val hs (y_eql rfl rfl) trivial rfl rfl fun a hs => ?_
       refine st_val hs (y_assign rfl) trivial rfl rfl fun a hs => ?_
       refine wpList_nil ?_
       refine then_normal ?_
       refine wp_join (fun a w => ∃ (x734 : (List Int)) (x735 : Int) (x736 : Int) (p731 : Option Addr) (k732 : Nat) (Sv733 : Nat → Prop), made_Dice_Samples_j3 sv32 x734 x735 x736 = some tv340 ∧ Sl 53 [(0, .pointer (some ⟨b2, 0, none⟩)), (5, .slice p238 sv32.2.2.1.length k239), (6, .int .i64 x736), (7, .int .i64 sv32.2.2.2.2)] a ∧ Wd ⟨w0, S0, blks [.box b2 [.slice p3 d1.L.length k4, .int .i64 d1.At] 75]⟩ Sv733 [.box b2 [.slice p731 x734.length k732, .int .i64 x735] 75, .row p238 sv32.2.2.1.length k239 c237 3 1] [SlA p731 x734.length k732 x734, RowA c237 sv32.2.2.1] w) ?_ ?_
       ·refine wp_cond_split (hs.ev rfl) (fun h737 => ?_) (fun h737 => ?_)
        ·have hsh := ite_t hsh h737
         refine wp_region_lit ?_
         refine st_val hs (y_move rfl) trivial rfl rfl fun a hs => ?_
         refine w_litSlice (α := Int) (vs := [.int .i64 0, .int .i64 1073741823, .int .i64 (-1073741823), .int .i64 536870912]) (cs := [.int .i64 0, .int .i64 1073741823, .int .i64 (-1073741823), .int .i64 536870912]) (xs := ([0, 1073741823, (-1073741823), 536870912] : List Int)) hs hw El22 rfl rfl rfl rfl rfl rfl ⟨⟨_, rfl, rfl⟩, ⟨⟨_, rfl, rfl⟩, ⟨⟨_, rfl, rfl⟩, ⟨⟨_, rfl, rfl⟩, rfl⟩⟩⟩⟩ rfl trivial rfl fun b739 a w hs hw => ?_
         obtain ⟨rv741, h740, hsh⟩ := bind_t hsh
         obtain ⟨Sv745, hw⟩ := w_share (α := Int) hw 0 rfl 0 rfl
         refine st_callR hs (made_Dice_Pick_ok h740 hw.dom (hw.ins [0] (by decide) rfl) (hw.envAt 2 rfl) (hw.envAt 0 rfl)) (do_call Try.call27 rfl) trivial rfl rfl ?_
         intro v749 Sv746 w a h747 h748 hs
         obtain ⟨p742, k743, rfl, h750, h744⟩ := h748
         have hw := hw.callO [0] [1] (by decide) rfl h747 h750
         have hw := hw.addE (e := SlA p742 rv741.2.L.length k743 rv741.2.L) h744
         refine st_val hs (y_assign rfl) trivial rfl rfl fun a hs => ?_
         refine wpList_nil ?_
         refine then_normal ?_
         exact ⟨rv741.2.L, rv741.2.At, rv741.1, p742, k743, Sv746, hsh, (hs.wk rfl), (hw.ft [0, 1] [0, 5] (by decide) rfl rfl)⟩
        ·have hsh := ite_f hsh h737
         refine wp_region_lit ?_
         refine st_val hs (y_move rfl) trivial rfl rfl fun a hs => ?_
         refine st_val hs (y_move rfl) trivial rfl rfl fun a hs => ?_
         obtain ⟨rv752, h751, hsh⟩ := bind_t hsh
         refine st_callR hs (made_Dice_Next_ok h751 hw.dom (hw.ins [0] (by decide) rfl) (hw.envAt 0 rfl)) (do_call Try.call15 rfl) trivial rfl rfl ?_
         intro v759 Sv756 w a h757 h758 hs
         obtain ⟨p753, k754, rfl, h760, h755⟩ := h758
         have hw := hw.callO [0] [1] (by decide) rfl h757 h760
         have hw := hw.addE (e := SlA p753 rv752.2.L.length k754 rv752.2.L) h755
         refine st_val hs (y_sub rfl rfl) trivial rfl rfl fun a hs => ?_
         refine st_val hs (y_add rfl rfl) trivial rfl rfl fun a hs => ?_
         obtain ⟨x762, h761, hsh⟩ := bind_t hsh
         refine st_val hs (y_assignI rfl h761) trivial rfl rfl fun a hs => ?_
         refine wpList_nil ?_
         refine then_normal ?_
         exact ⟨rv752.2.L, rv752.2.At, x762, p753, k754, Sv756, hsh, (hs.wk rfl), (hw.ft [0, 1] [0, 3] (by decide) rfl rfl)⟩
       ·rintro a w ⟨x734, x735, x736, p731, k732, Sv733, hsh, hs, hw⟩
        delta made_Dice_Samples_j3 at hsh
        refine then_normal ?_
        exact ⟨x734, x735, x736, p731, k732, Sv733, hsh, (hs.wk rfl), (hw.ft [0, 1] [0, 1] (by decide) rfl rfl)⟩
     ·rintro a w ⟨x686, x687, x688, p683, k684, Sv685, hsh, hs, hw⟩
      delta made_Dice_Samples_j2 at hsh
      refine then_normal ?_
      exact ⟨x686, x687, x688, p683, k684, Sv685, hsh, (hs.wk rfl), (hw.ft [0, 1] [0, 1] (by decide) rfl rfl)⟩
   ·rintro a w ⟨x605, x606, x607, p602, k603, Sv604, hsh, hs, hw⟩
    delta made_Dice_Samples_j1 at hsh
    refine blk_normal ?_
    refine then_normal ?_
    refine wp_seq ?_
    refine wp_region_lit ?_
    refine st_val hs (y_move rfl) trivial rfl rfl fun a hs => ?_
    refine st_val hs (y_max rfl rfl) trivial rfl rfl fun a hs => ?_
    refine st_val hs (y_min rfl rfl) trivial rfl rfl fun a hs => ?_
    obtain ⟨x609, h608, hsh⟩ := bind_t hsh
    refine st_val hs (y_assignI rfl h608) trivial rfl rfl fun a hs => ?_
    refine wpList_nil ?_
    refine then_normal ?_
    refine wp_region_lit ?_
    refine st_val hs (y_move rfl) trivial rfl rfl fun a hs => ?_
    refine st_val hs (y_move rfl) trivial rfl rfl fun a hs => ?_
    refine w_litSlice (α := Int) (vs := [.int .i64 x609]) (cs := [.int .i64 x609]) (xs := ([x609] : List Int)) hs hw El22 rfl rfl rfl rfl rfl rfl ⟨⟨_, rfl, rfl⟩, rfl⟩ rfl trivial rfl fun b611 a w hs hw => ?_
    obtain ⟨l613, h612, hsh⟩ := bind_t hsh
    refine w_appendR (α := Int) hs hw El22 2 rfl rfl rfl 2 rfl 0 rfl 0 rfl h612 rfl trivial ?_
    intro p614 k615 c616 a w hs hw
    refine st_val hs (y_assign rfl) trivial rfl rfl fun a hs => ?_
    refine wpList_nil ?_
    refine blk_normal ?_
    refine then_normal ?_
    refine wp_region_lit ?_
    refine st_val hs (y_move rfl) trivial rfl rfl fun a hs => ?_
    refine st_val hs (y_sub rfl rfl) trivial rfl rfl fun a hs => ?_
    obtain ⟨i618, h617, hsh⟩ := bind_t hsh
    refine st_val hs (y_assignI rfl h617) trivial rfl rfl fun a hs => ?_
    refine wpList_nil ?_
    refine then_normal ?_
    exact ⟨_, (Option.some.inj hsh).symm, p602, k603, c616, p614, k615, Sv604, (hs.wk rfl), (hw.ft [1, 2] [2, 0] (by decide) rfl rfl)⟩
  ·have hsh := ite_f hsh h350
   refine wp_exit ?_
   refine then_exit ?_
   refine then_exit ?_
   refine blk_exit ?_
   have hsh := Option.some.inj hsh
   subst hsh
   have h763 := hd339 _ rfl
   subst h763
   refine then_normal ?_
   exact ⟨p235, k236, c237, p238, k239, Sv240, (hs.wk rfl), (hw.ft [0, 1] [0, 1] (by decide) rfl rfl)⟩
 ·rintro a w ⟨p343, k344, c345, p346, k347, Sv348, hs, hw⟩
  refine then_normal ?_
  refine wp_seq ?_
  refine wp_region_lit ?_
  refine st_val hs (y_move rfl) trivial rfl rfl fun a hs => ?_
  refine st_val hs (y_assign rfl) trivial rfl rfl fun a hs => ?_
  refine wpList_nil ?_
  refine then_normal ?_
  have hsh := Option.some.inj hsh
  subst hsh
  refine wp_ret ?_
  exact ret1 hs rfl (rv_tmp rfl) (hw.ret ⟨p346, k347, c345, p343, k344, rfl, (hw.outs [1, 0] (by decide) rfl), (hw.envAt 1 rfl), (hw.envAt 0 rfl)⟩)

abbrev response_in_rd (w0 : World) (X : List Nat) (r : Bool) : (Nat → Prop) → World → Value → Prop := fun S w v => v = .bool r
set_option maxHeartbeats 4000000 in
set_option maxRecDepth 100000 in
theorem response_in_ok {w0 : World} {S0 : Nat → Prop} {n1 : Int} {low2 : Int} {high3 : Int} {r : Bool} (hsh : response_in n1 low2 high3 = some r) (hS : ∀ b, S0 b → b < w0.heap.size) : Calls Try.prog 59 #[.int .i64 n1, .int .i64 low2, .int .i64 high3] w0 (Ret ([]) w0 S0 (response_in_rd w0 ([]) r)) := by
 refine calls_of_wp Try.func59 rfl ?_
 have hs := Sl.enter #[.int .i64 n1, .int .i64 low2, .int .i64 high3] 15 [(0, .int .i64 n1), (1, .int .i64 low2), (2, .int .i64 high3)] rfl ⟨rfl, rfl, rfl, trivial⟩
 have hw := Wd.enter (E := []) hS (fun _ h => (by cases h))
 delta response_in at hsh
 refine wp_seq ?_
 refine wp_region_lit ?_
 refine st_val hs (y_assign rfl) trivial rfl rfl fun a hs => ?_
 refine wpList_nil ?_
 refine then_normal ?_
 refine wp_seq ?_
 refine wp_region_lit ?_
 refine st_val hs (y_move rfl) trivial rfl rfl fun a hs => ?_
 refine st_val hs (y_move rfl) trivial rfl rfl fun a hs => ?_
 refine st_val hs (y_geq rfl rfl) trivial rfl rfl fun a hs => ?_
 refine st_val hs (y_move rfl) trivial rfl rfl fun a hs => ?_
 refine wpl_join 4 (fun a w1 => w0 = w1 ∧ Sl 15 [(14, .bool ((decide (low2 ≤ n1)) && (decide (n1 ≤ high3))))] a) ?_ ?_
 ·rcases Bool.eq_false_or_eq_true (decide (low2 ≤ n1)) with h4 | h4
  ·have hs := hs.fix 10 (.bool true) rfl (vb h4)
   refine st_val hs (y_move rfl) ⟨_, rfl, rfl⟩ rfl rfl fun a hs => ?_
   refine st_val hs (y_move rfl) ⟨_, rfl, rfl⟩ rfl rfl fun a hs => ?_
   refine st_val hs (y_leq rfl rfl) ⟨_, rfl, rfl⟩ rfl rfl fun a hs => ?_
   refine st_val hs (y_pickT rfl rfl) trivial rfl rfl fun a hs => ?_
   refine wpList_nil ?_
   refine then_normal ?_
   exact ⟨rfl, (hs.fix 14 (.bool ((decide (low2 ≤ n1)) && (decide (n1 ≤ high3)))) rfl (and_t h4)).weaken _ ⟨rfl, trivial⟩⟩
  ·have hs := hs.fix 10 (.bool false) rfl (vb h4)
   refine st_skip hs rfl rfl rfl rfl rfl fun a hs => ?_
   refine st_skip hs rfl rfl rfl rfl rfl fun a hs => ?_
   refine st_skip hs rfl rfl rfl rfl rfl fun a hs => ?_
   refine st_val hs (y_pickF rfl rfl) trivial rfl rfl fun a hs => ?_
   refine wpList_nil ?_
   refine then_normal ?_
   exact ⟨rfl, (hs.fix 14 (.bool ((decide (low2 ≤ n1)) && (decide (n1 ≤ high3)))) rfl (and_f h4)).weaken _ ⟨rfl, trivial⟩⟩
 ·rintro a w1 ⟨h5, hs⟩
  subst h5
  refine st_val hs (y_assign rfl) trivial rfl rfl fun a hs => ?_
  refine wpList_nil ?_
  refine then_normal ?_
  have hsh := Option.some.inj hsh
  subst hsh
  refine wp_ret ?_
  exact ret1 hs rfl (rv_tmp rfl) (hw.ret rfl)

abbrev response_terms_fn1_rd (w0 : World) (X : List Nat) (r : Bool) : (Nat → Prop) → World → Value → Prop := fun S w v => v = .bool r
set_option maxHeartbeats 4000000 in
set_option maxRecDepth 100000 in
theorem response_terms_fn1_ok {w0 : World} {S0 : Nat → Prop} {n1 : Int} {r : Bool} (hsh : response_terms_fn1 n1 = some r) (hS : ∀ b, S0 b → b < w0.heap.size) : Calls Try.prog 75 #[.int .i64 n1] w0 (Ret ([]) w0 S0 (response_terms_fn1_rd w0 ([]) r)) := by
 refine calls_of_wp Try.func75 rfl ?_
 have hs := Sl.enter #[.int .i64 n1] 6 [(0, .int .i64 n1)] rfl ⟨rfl, trivial⟩
 have hw := Wd.enter (E := []) hS (fun _ h => (by cases h))
 delta response_terms_fn1 at hsh
 refine wp_seq ?_
 refine wp_region_lit ?_
 refine st_val hs (y_assign rfl) trivial rfl rfl fun a hs => ?_
 refine wpList_nil ?_
 refine then_normal ?_
 refine wp_seq ?_
 refine wp_region_lit ?_
 refine st_val hs (y_move rfl) trivial rfl rfl fun a hs => ?_
 obtain ⟨rv3, h2, hsh⟩ := bind_t hsh
 refine st_callR hs (response_in_ok h2 hw.bdom) (do_call Try.call59 rfl) trivial rfl rfl ?_
 intro v7 Sv4 w a h5 h6 hs
 subst h6
 have hw := hw.callB h5
 refine st_val hs (y_not rfl) trivial rfl rfl fun a hs => ?_
 refine st_val hs (y_assign rfl) trivial rfl rfl fun a hs => ?_
 refine wpList_nil ?_
 refine then_normal ?_
 have hsh := Option.some.inj hsh
 subst hsh
 refine wp_ret ?_
 exact ret1 hs rfl (rv_tmp rfl) (hw.ret rfl)

theorem response_terms_fn1_fn (S0 : Nat → Prop) (w0 : World) : (FnA1 Try.prog 75 [] [] response_terms_fn1).p S0 w0 := by
  refine ⟨Try.call75, ?_⟩
  intro S1 w1 hk hS c0 x0 r1 h0 hf
  obtain ⟨_, rfl, rfl⟩ := h0
  exact response_terms_fn1_ok hf hS  

abbrev response_terms_rd (w0 : World) (X : List Nat) (r : Bool) : (Nat → Prop) → World → Value → Prop := fun S w v => v = .bool r
set_option maxHeartbeats 4000000 in
set_option maxRecDepth 100000 in
theorem response_terms_ok {w0 : World} {S0 : Nat → Prop} {p2 : Option Addr} {k3 : Nat} {l1 : (List Int)} {r : Bool} (hsh : response_terms l1 = some r) (hS : ∀ b, S0 b → b < w0.heap.size) (h4 : (SlA p2 l1.length k3 l1).p S0 w0) : Calls Try.prog 60 #[.slice p2 l1.length k3] w0 (Ret ([]) w0 S0 (response_terms_rd w0 ([]) r)) := by
 refine calls_of_wp Try.func60 rfl ?_
 have hs := Sl.enter #[.slice p2 l1.length k3] 6 [(0, .slice p2 l1.length k3)] rfl ⟨rfl, trivial⟩
 have hw := Wd.enter (E := []) hS (fun _ h => (by cases h))
 have hw := hw.addE h4
 delta response_terms at hsh
 refine wp_seq ?_
 refine wp_region_lit ?_
 refine st_val hs (y_assign rfl) trivial rfl rfl fun a hs => ?_
 refine wpList_nil ?_
 refine then_normal ?_
 refine wp_seq ?_
 refine wp_region_lit ?_
 refine st_val hs (y_move rfl) trivial rfl rfl fun a hs => ?_
 obtain ⟨rv6, h5, hsh⟩ := bind_t hsh
 refine st_callR hs (slices_ContainsFunc_Lint_int_ok h5 hw.bdom (hw.bE 0 rfl) (response_terms_fn1_fn _ _)) (do_call Try.call55 rfl) trivial rfl rfl ?_
 intro v10 Sv7 w a h8 h9 hs
 subst h9
 have hw := hw.callB h8
 refine st_val hs (y_not rfl) trivial rfl rfl fun a hs => ?_
 refine st_val hs (y_assign rfl) trivial rfl rfl fun a hs => ?_
 refine wpList_nil ?_
 refine then_normal ?_
 have hsh := Option.some.inj hsh
 subst hsh
 refine wp_ret ?_
 exact ret1 hs rfl (rv_tmp rfl) (hw.ret rfl)

abbrev response_sum_rd (w0 : World) (X : List Nat) (r : Int) : (Nat → Prop) → World → Value → Prop := fun S w v => v = .int .i64 r
set_option maxHeartbeats 4000000 in
set_option maxRecDepth 100000 in
theorem response_sum_ok {w0 : World} {S0 : Nat → Prop} {p2 : Option Addr} {k3 : Nat} {l1 : (List Int)} {r : Int} (hsh : response_sum l1 = some r) (hS : ∀ b, S0 b → b < w0.heap.size) (h4 : (SlA p2 l1.length k3 l1).p S0 w0) : Calls Try.prog 61 #[.slice p2 l1.length k3] w0 (Ret ([]) w0 S0 (response_sum_rd w0 ([]) r)) := by
 refine calls_of_wp Try.func61 rfl ?_
 have hs := Sl.enter #[.slice p2 l1.length k3] 17 [(0, .slice p2 l1.length k3)] rfl ⟨rfl, trivial⟩
 have hw := Wd.enter (E := []) hS (fun _ h => (by cases h))
 have hw := hw.addE h4
 delta response_sum at hsh
 refine wp_seq ?_
 refine wp_region_lit ?_
 refine st_val hs (y_assign rfl) trivial rfl rfl fun a hs => ?_
 refine wpList_nil ?_
 refine then_normal ?_
 refine wp_seq ?_
 refine wp_region_lit ?_
 refine st_val hs (y_assign rfl) trivial rfl rfl fun a hs => ?_
 refine wpList_nil ?_
 refine then_normal ?_
 refine wp_seq ?_
 refine wp_seq ?_
 refine wp_region_lit ?_
 refine st_val hs (y_move rfl) trivial rfl rfl fun a hs => ?_
 refine st_val hs (y_len Try.runUnderlying22 rfl) trivial rfl rfl fun a hs => ?_
 refine st_val hs (y_move rfl) trivial rfl rfl fun a hs => ?_
 refine wpList_nil ?_
 refine then_normal ?_
 obtain ⟨e59, h94, hsh⟩ := bind_t hsh
 refine wp_join (fun a w => ∃ (Sv60 : Nat → Prop), Sl 17 [(3, .int .i64 e59)] a ∧ Wd ⟨w0, S0, []⟩ Sv60 [] [] w) ?_ ?_
 ·refine wp_block ?_
  refine wp_while (fun sv5 a w => ∃ (Sv39 : Nat → Prop), Sl 17 [(3, .int .i64 sv5.1), (6, .slice p2 l1.length k3), (7, .int .i64 (l1.length : Int)), (8, .int .i64 sv5.2)] a ∧ Wd ⟨w0, S0, []⟩ Sv39 [] [SlA p2 l1.length k3 l1] w) (0, 0) h94 ⟨S0, (hs.wk rfl), (hw.ft [] [0] (by decide) rfl rfl)⟩ ?_
  clear h94
  repeat clear hsh
  rintro sv5 a w tv57 ⟨Sv39, hs, hw⟩ hsh hd56
  delta response_sum_l1 at hsh
  refine wp_seq ?_
  refine wp_region_lit ?_
  refine st_val hs (y_lss rfl rfl) trivial rfl rfl fun a hs => ?_
  refine wpList_nil ?_
  refine then_normal ?_
  refine wp_seq ?_
  refine wp_cond_split (hs.ev rfl) (fun h62 => ?_) (fun h62 => ?_)
  ·have hsh := ite_t hsh h62
   refine wp_skip ?_
   refine then_normal ?_
   refine wp_seq ?_
   refine wp_block ?_
   refine wp_seq ?_
   refine wp_region_lit ?_
   obtain ⟨x80, h78, hsh⟩ := bind_t hsh
   obtain ⟨b86, o87, q84, c85, h88, h81, h82, h83, h79⟩ := hw.elemV 0 rfl h78
   have hsv89 := hs
   have hwv90 := hw
   subst h88
   have hs := hsv89
   have hw := hwv90
   obtain ⟨_, rfl, rfl⟩ := h79
   have hw := hw.addE h83
   refine st_val hs (y_indexAt Try.runUnderlying22 Try.sizeOf3 rfl rfl h81.1 h81.2 h82) trivial rfl rfl fun a hs => ?_
   refine st_val hs (y_loadE1 (j := 0) (hw.ceAt 0 rfl) rfl Try.isAgg3 rfl) trivial rfl rfl fun a hs => ?_
   refine st_val hs (y_assign rfl) trivial rfl rfl fun a hs => ?_
   refine wpList_nil ?_
   refine then_normal ?_
   refine wp_region_lit ?_
   refine st_val hs (y_move rfl) trivial rfl rfl fun a hs => ?_
   refine st_val hs (y_move rfl) trivial rfl rfl fun a hs => ?_
   refine st_val hs (y_add rfl rfl) trivial rfl rfl fun a hs => ?_
   obtain ⟨n92, h91, hsh⟩ := bind_t hsh
   refine st_val hs (y_assignI rfl h91) trivial rfl rfl fun a hs => ?_
   refine wpList_nil ?_
   refine blk_normal ?_
   refine then_normal ?_
   refine wp_region_lit ?_
   refine st_val hs (y_add rfl rfl) trivial rfl rfl fun a hs => ?_
   refine st_val hs (y_move rfl) trivial rfl rfl fun a hs => ?_
   refine wpList_nil ?_
   refine then_normal ?_
   exact ⟨_, (Option.some.inj hsh).symm, Sv39, (hs.wk rfl), (hw.ft [] [1] (by decide) rfl rfl)⟩
  ·have hsh := ite_f hsh h62
   refine wp_exit ?_
   refine then_exit ?_
   refine then_exit ?_
   refine blk_exit ?_
   have hsh := Option.some.inj hsh
   subst hsh
   have h93 := hd56 _ rfl
   subst h93
   refine then_normal ?_
   exact ⟨Sv39, (hs.wk rfl), (hw.ft [] [] (by decide) rfl rfl)⟩
 ·rintro a w ⟨Sv60, hs, hw⟩
  refine then_normal ?_
  refine wp_seq ?_
  refine wp_region_lit ?_
  refine st_val hs (y_move rfl) trivial rfl rfl fun a hs => ?_
  refine st_val hs (y_assign rfl) trivial rfl rfl fun a hs => ?_
  refine wpList_nil ?_
  refine then_normal ?_
  have hsh := Option.some.inj hsh
  subst hsh
  refine wp_ret ?_
  exact ret1 hs rfl (rv_tmp rfl) (hw.ret rfl)

abbrev response_ValidStage_rd (w0 : World) (X : List Nat) (r : Bool) : (Nat → Prop) → World → Value → Prop := fun S w v => v = .bool r
set_option maxHeartbeats 4000000 in
set_option maxRecDepth 100000 in
theorem response_ValidStage_ok {w0 : World} {S0 : Nat → Prop} {p2 : Option Addr} {k3 : Nat} {s1 : Stage} {r : Bool} (hsh : response_ValidStage s1 = some r) (hS : ∀ b, S0 b → b < w0.heap.size) (h4 : (SlA p2 s1.Taps.length k3 s1.Taps).p S0 w0) : Calls Try.prog 44 #[.agg #[.int .i64 s1.Kind, .int .i64 s1.Num.e0, .int .i64 s1.Num.e1, .int .i64 s1.Num.e2, .int .i64 s1.Den.e0, .int .i64 s1.Den.e1, .int .i64 s1.Den.e2, .slice p2 s1.Taps.length k3, .int .i64 s1.Factor, .int .i64 s1.Shift]] w0 (Ret ([]) w0 S0 (response_ValidStage_rd w0 ([]) r)) := by
 refine calls_of_wp Try.func44 rfl ?_
 have hs := Sl.enter #[.agg #[.int .i64 s1.Kind, .int .i64 s1.Num.e0, .int .i64 s1.Num.e1, .int .i64 s1.Num.e2, .int .i64 s1.Den.e0, .int .i64 s1.Den.e1, .int .i64 s1.Den.e2, .slice p2 s1.Taps.length k3, .int .i64 s1.Factor, .int .i64 s1.Shift]] 111 [(0, .agg #[.int .i64 s1.Kind, .int .i64 s1.Num.e0, .int .i64 s1.Num.e1, .int .i64 s1.Num.e2, .int .i64 s1.Den.e0, .int .i64 s1.Den.e1, .int .i64 s1.Den.e2, .slice p2 s1.Taps.length k3, .int .i64 s1.Factor, .int .i64 s1.Shift])] rfl ⟨rfl, trivial⟩
 have hw := Wd.enter (E := []) hS (fun _ h => (by cases h))
 have hw := hw.addE h4
 delta response_ValidStage at hsh
 refine wp_seq ?_
 refine wp_region_lit ?_
 refine w_box (cs := [.int .i64 s1.Kind, .int .i64 s1.Num.e0, .int .i64 s1.Num.e1, .int .i64 s1.Num.e2, .int .i64 s1.Den.e0, .int .i64 s1.Den.e1, .int .i64 s1.Den.e2, .slice p2 s1.Taps.length k3, .int .i64 s1.Factor, .int .i64 s1.Shift]) hs hw rfl rfl rfl trivial ?_
 intro b5 a w hs hw
 refine st_val hs (y_assign rfl) trivial rfl rfl fun a hs => ?_
 refine wpList_nil ?_
 refine then_normal ?_
 refine wp_seq ?_
 refine wp_region_lit ?_
 refine st_val hs (y_fieldAddr (o' := 7) Try.runUnderlying45 rfl Try.sizeOf22 rfl rfl rfl) trivial rfl rfl fun a hs => ?_
 refine st_val hs (y_loadB1 (hw.ownAt 0 rfl) rfl Try.isAgg22 rfl) trivial rfl rfl fun a hs => ?_
 refine st_val hs (y_len Try.runUnderlying22 rfl) trivial rfl rfl fun a hs => ?_
 refine st_val hs (y_eql rfl rfl) trivial rfl rfl fun a hs => ?_
 refine st_val hs (y_move rfl) trivial rfl rfl fun a hs => ?_
 refine wpl_join 4 (fun a w1 => w = w1 ∧ Sl 111 [(1, .pointer (some ⟨b5, 0, none⟩)), (12, .bool (((s1.Taps.length : Int) == 0) && (s1.Factor == 0)))] a) ?_ ?_
 ·rcases Bool.eq_false_or_eq_true ((s1.Taps.length : Int) == 0) with h6 | h6
  ·have hs := hs.fix 8 (.bool true) rfl (vb h6)
   refine st_val hs (y_fieldAddr (o' := 8) Try.runUnderlying45 rfl Try.sizeOf3 rfl rfl rfl) ⟨_, rfl, rfl⟩ rfl rfl fun a hs => ?_
   refine st_val hs (y_loadB1 (hw.ownAt 0 rfl) rfl Try.isAgg3 rfl) ⟨_, rfl, rfl⟩ rfl rfl fun a hs => ?_
   refine st_val hs (y_eql rfl rfl) ⟨_, rfl, rfl⟩ rfl rfl fun a hs => ?_
   refine st_val hs (y_pickT rfl rfl) trivial rfl rfl fun a hs => ?_
   refine wpList_nil ?_
   refine then_normal ?_
   exact ⟨rfl, (hs.fix 12 (.bool (((s1.Taps.length : Int) == 0) && (s1.Factor == 0))) rfl (and_t h6)).weaken _ ⟨rfl, rfl, trivial⟩⟩
  ·have hs := hs.fix 8 (.bool false) rfl (vb h6)
   refine st_skip hs rfl rfl rfl rfl rfl fun a hs => ?_
   refine st_skip hs rfl rfl rfl rfl rfl fun a hs => ?_
   refine st_skip hs rfl rfl rfl rfl rfl fun a hs => ?_
   refine st_val hs (y_pickF rfl rfl) trivial rfl rfl fun a hs => ?_
   refine wpList_nil ?_
   refine then_normal ?_
   exact ⟨rfl, (hs.fix 12 (.bool (((s1.Taps.length : Int) == 0) && (s1.Factor == 0))) rfl (and_f h6)).weaken _ ⟨rfl, rfl, trivial⟩⟩
 ·rintro a w1 ⟨h726, hs⟩
  subst h726
  refine st_val hs (y_move rfl) trivial rfl rfl fun a hs => ?_
  refine wpl_join 4 (fun a w1 => w = w1 ∧ Sl 111 [(1, .pointer (some ⟨b5, 0, none⟩)), (17, .bool ((((s1.Taps.length : Int) == 0) && (s1.Factor == 0)) && (s1.Shift == 0)))] a) ?_ ?_
  ·rcases Bool.eq_false_or_eq_true (((s1.Taps.length : Int) == 0) && (s1.Factor == 0)) with h7 | h7
   ·have hs := hs.fix 13 (.bool true) rfl (vb h7)
    refine st_val hs (y_fieldAddr (o' := 9) Try.runUnderlying45 rfl Try.sizeOf3 rfl rfl rfl) ⟨_, rfl, rfl⟩ rfl rfl fun a hs => ?_
    refine st_val hs (y_loadB1 (hw.ownAt 0 rfl) rfl Try.isAgg3 rfl) ⟨_, rfl, rfl⟩ rfl rfl fun a hs => ?_
    refine st_val hs (y_eql rfl rfl) ⟨_, rfl, rfl⟩ rfl rfl fun a hs => ?_
    refine st_val hs (y_pickT rfl rfl) trivial rfl rfl fun a hs => ?_
    refine wpList_nil ?_
    refine then_normal ?_
    exact ⟨rfl, (hs.fix 17 (.bool ((((s1.Taps.length : Int) == 0) && (s1.Factor == 0)) && (s1.Shift == 0))) rfl (and_t h7)).weaken _ ⟨rfl, rfl, trivial⟩⟩
   ·have hs := hs.fix 13 (.bool false) rfl (vb h7)
    refine st_skip hs rfl rfl rfl rfl rfl fun a hs => ?_
    refine st_skip hs rfl rfl rfl rfl rfl fun a hs => ?_
    refine st_skip hs rfl rfl rfl rfl rfl fun a hs => ?_
    refine st_val hs (y_pickF rfl rfl) trivial rfl rfl fun a hs => ?_
    refine wpList_nil ?_
    refine then_normal ?_
    exact ⟨rfl, (hs.fix 17 (.bool ((((s1.Taps.length : Int) == 0) && (s1.Factor == 0)) && (s1.Shift == 0))) rfl (and_f h7)).weaken _ ⟨rfl, rfl, trivial⟩⟩
  ·rintro a w1 ⟨h725, hs⟩
   subst h725
   refine st_val hs (y_assign rfl) trivial rfl rfl fun a hs => ?_
   refine wpList_nil ?_
   refine then_normal ?_
   refine wp_seq ?_
   refine wp_seq ?_
   refine wp_region_lit ?_
   refine st_val hs (y_fieldAddr (o' := 0) Try.runUnderlying45 rfl Try.sizeOf3 rfl rfl rfl) trivial rfl rfl fun a hs => ?_
   refine st_val hs (y_loadB1 (hw.ownAt 0 rfl) rfl Try.isAgg3 rfl) trivial rfl rfl fun a hs => ?_
   refine wpList_nil ?_
   refine then_normal ?_
   refine wp_block ?_
   refine wp_seq ?_
   refine wp_region_lit ?_
   refine st_val hs (y_eql rfl rfl) trivial rfl rfl fun a hs => ?_
   refine st_val hs (y_assign rfl) trivial rfl rfl fun a hs => ?_
   refine wpList_nil ?_
   refine then_normal ?_
   refine wp_cond_split (hs.ev rfl) (fun h342 => ?_) (fun h342 => ?_)
   ·have hsh := ite_t hsh h342
    refine wp_seq ?_
    refine wp_region_lit ?_
    refine st_val hs (y_move rfl) trivial rfl rfl fun a hs => ?_
    refine st_val hs (y_move rfl) trivial rfl rfl fun a hs => ?_
    refine wpl_join 8 (fun a w1 => w = w1 ∧ Sl 111 [(1, .pointer (some ⟨b5, 0, none⟩)), (31, .bool (((((s1.Taps.length : Int) == 0) && (s1.Factor == 0)) && (s1.Shift == 0)) && ((s1.Num.e0 == s1.Num.e0) && ((s1.Num.e1 == 0) && ((s1.Num.e2 == 0) && true)))))] a) ?_ ?_
    ·rcases Bool.eq_false_or_eq_true ((((s1.Taps.length : Int) == 0) && (s1.Factor == 0)) && (s1.Shift == 0)) with h343 | h343
     ·have hs := hs.fix 23 (.bool true) rfl (vb h343)
      refine st_val hs (y_fieldAddr (o' := 1) Try.runUnderlying45 rfl Try.sizeOf43 rfl rfl rfl) ⟨_, rfl, rfl⟩ rfl rfl fun a hs => ?_
      refine st_val hs (y_loadBA (hw.ownAt 0 rfl) rfl Try.isAgg43 Try.sizeOf43 rfl rfl) ⟨_, rfl, rfl⟩ rfl rfl fun a hs => ?_
      refine st_val hs (y_fieldAddr (o' := 1) Try.runUnderlying45 rfl Try.sizeOf43 rfl rfl rfl) ⟨_, rfl, rfl⟩ rfl rfl fun a hs => ?_
      refine st_val hs (y_indexAtA (q := 1) Try.runUnderlying43 Try.sizeOf3 rfl rfl (by decide) (by decide) rfl) ⟨_, rfl, rfl⟩ rfl rfl fun a hs => ?_
      refine st_val hs (y_loadB1 (hw.ownAt 0 rfl) rfl Try.isAgg3 rfl) ⟨_, rfl, rfl⟩ rfl rfl fun a hs => ?_
      refine st_val hs (y_build (vs := [(0, .int .i64 s1.Num.e0)]) Bld43 rfl rfl) ⟨_, rfl, rfl⟩ rfl rfl fun a hs => ?_
      refine st_val hs (y_eqlA (by kernel_rfl) rfl rfl (eqv_array Try.runUnderlying43 Try.sizeOf3 (EqA.cons1 Try.isAgg3 rfl rfl (eqv_int Try.runUnderlying3) (EqA.cons1 Try.isAgg3 rfl rfl (eqv_int Try.runUnderlying3) (EqA.cons1 Try.isAgg3 rfl rfl (eqv_int Try.runUnderlying3) EqA.nil))))) ⟨_, rfl, rfl⟩ rfl rfl fun a hs => ?_
      refine st_val hs (y_pickT rfl rfl) trivial rfl rfl fun a hs => ?_
      refine wpList_nil ?_
      refine then_normal ?_
      exact ⟨rfl, (hs.fix 31 (.bool (((((s1.Taps.length : Int) == 0) && (s1.Factor == 0)) && (s1.Shift == 0)) && ((s1.Num.e0 == s1.Num.e0) && ((s1.Num.e1 == 0) && ((s1.Num.e2 == 0) && true))))) rfl (and_t h343)).weaken _ ⟨rfl, rfl, trivial⟩⟩
     ·have hs := hs.fix 23 (.bool false) rfl (vb h343)
      refine st_skip hs rfl rfl rfl rfl rfl fun a hs => ?_
      refine st_skip hs rfl rfl rfl rfl rfl fun a hs => ?_
      refine st_skip hs rfl rfl rfl rfl rfl fun a hs => ?_
      refine st_skip hs rfl rfl rfl rfl rfl fun a hs => ?_
      refine st_skip hs rfl rfl rfl rfl rfl fun a hs => ?_
      refine st_skip hs rfl rfl rfl rfl rfl fun a hs => ?_
      refine st_skip hs rfl rfl rfl rfl rfl fun a hs => ?_
      refine st_val hs (y_pickF rfl rfl) trivial rfl rfl fun a hs => ?_
      refine wpList_nil ?_
      refine then_normal ?_
      exact ⟨rfl, (hs.fix 31 (.bool (((((s1.Taps.length : Int) == 0) && (s1.Factor == 0)) && (s1.Shift == 0)) && ((s1.Num.e0 == s1.Num.e0) && ((s1.Num.e1 == 0) && ((s1.Num.e2 == 0) && true))))) rfl (and_f h343)).weaken _ ⟨rfl, rfl, trivial⟩⟩
    ·rintro a w1 ⟨h380, hs⟩
     subst h380
     refine st_val hs (y_move rfl) trivial rfl rfl fun a hs => ?_
     refine wpl_join 8 (fun a w1 => w = w1 ∧ Sl 111 [(1, .pointer (some ⟨b5, 0, none⟩)), (40, .bool ((((((s1.Taps.length : Int) == 0) && (s1.Factor == 0)) && (s1.Shift == 0)) && ((s1.Num.e0 == s1.Num.e0) && ((s1.Num.e1 == 0) && ((s1.Num.e2 == 0) && true)))) && ((s1.Den.e0 == s1.Den.e0) && ((s1.Den.e1 == 0) && ((s1.Den.e2 == 0) && true)))))] a) ?_ ?_
     ·rcases Bool.eq_false_or_eq_true (((((s1.Taps.length : Int) == 0) && (s1.Factor == 0)) && (s1.Shift == 0)) && ((s1.Num.e0 == s1.Num.e0) && ((s1.Num.e1 == 0) && ((s1.Num.e2 == 0) && true)))) with h344 | h344
      ·have hs := hs.fix 32 (.bool true) rfl (vb h344)
       refine st_val hs (y_fieldAddr (o' := 4) Try.runUnderlying45 rfl Try.sizeOf43 rfl rfl rfl) ⟨_, rfl, rfl⟩ rfl rfl fun a hs => ?_
       refine st_val hs (y_loadBA (hw.ownAt 0 rfl) rfl Try.isAgg43 Try.sizeOf43 rfl rfl) ⟨_, rfl, rfl⟩ rfl rfl fun a hs => ?_
       refine st_val hs (y_fieldAddr (o' := 4) Try.runUnderlying45 rfl Try.sizeOf43 rfl rfl rfl) ⟨_, rfl, rfl⟩ rfl rfl fun a hs => ?_
       refine st_val hs (y_indexAtA (q := 4) Try.runUnderlying43 Try.sizeOf3 rfl rfl (by decide) (by decide) rfl) ⟨_, rfl, rfl⟩ rfl rfl fun a hs => ?_
       refine st_val hs (y_loadB1 (hw.ownAt 0 rfl) rfl Try.isAgg3 rfl) ⟨_, rfl, rfl⟩ rfl rfl fun a hs => ?_
       refine st_val hs (y_build (vs := [(0, .int .i64 s1.Den.e0)]) Bld43 rfl rfl) ⟨_, rfl, rfl⟩ rfl rfl fun a hs => ?_
       refine st_val hs (y_eqlA (by kernel_rfl) rfl rfl (eqv_array Try.runUnderlying43 Try.sizeOf3 (EqA.cons1 Try.isAgg3 rfl rfl (eqv_int Try.runUnderlying3) (EqA.cons1 Try.isAgg3 rfl rfl (eqv_int Try.runUnderlying3) (EqA.cons1 Try.isAgg3 rfl rfl (eqv_int Try.runUnderlying3) EqA.nil))))) ⟨_, rfl, rfl⟩ rfl rfl fun a hs => ?_
       refine st_val hs (y_pickT rfl rfl) trivial rfl rfl fun a hs => ?_
       refine wpList_nil ?_
       refine then_normal ?_
       exact ⟨rfl, (hs.fix 40 (.bool ((((((s1.Taps.length : Int) == 0) && (s1.Factor == 0)) && (s1.Shift == 0)) && ((s1.Num.e0 == s1.Num.e0) && ((s1.Num.e1 == 0) && ((s1.Num.e2 == 0) && true)))) && ((s1.Den.e0 == s1.Den.e0) && ((s1.Den.e1 == 0) && ((s1.Den.e2 == 0) && true))))) rfl (and_t h344)).weaken _ ⟨rfl, rfl, trivial⟩⟩
      ·have hs := hs.fix 32 (.bool false) rfl (vb h344)
       refine st_skip hs rfl rfl rfl rfl rfl fun a hs => ?_
       refine st_skip hs rfl rfl rfl rfl rfl fun a hs => ?_
       refine st_skip hs rfl rfl rfl rfl rfl fun a hs => ?_
       refine st_skip hs rfl rfl rfl rfl rfl fun a hs => ?_
       refine st_skip hs rfl rfl rfl rfl rfl fun a hs => ?_
       refine st_skip hs rfl rfl rfl rfl rfl fun a hs => ?_
       refine st_skip hs rfl rfl rfl rfl rfl fun a hs => ?_
       refine st_val hs (y_pickF rfl rfl) trivial rfl rfl fun a hs => ?_
       refine wpList_nil ?_
       refine then_normal ?_
       exact ⟨rfl, (hs.fix 40 (.bool ((((((s1.Taps.length : Int) == 0) && (s1.Factor == 0)) && (s1.Shift == 0)) && ((s1.Num.e0 == s1.Num.e0) && ((s1.Num.e1 == 0) && ((s1.Num.e2 == 0) && true)))) && ((s1.Den.e0 == s1.Den.e0) && ((s1.Den.e1 == 0) && ((s1.Den.e2 == 0) && true))))) rfl (and_f h344)).weaken _ ⟨rfl, rfl, trivial⟩⟩
     ·rintro a w1 ⟨h379, hs⟩
      subst h379
      refine st_val hs (y_move rfl) trivial rfl rfl fun a hs => ?_
      obtain ⟨c353, hc353, hsh⟩ := bind_t hsh
      refine wpl_join 5 (fun a w => ∃ (Sv354 : Nat → Prop), Sl 111 [(1, .pointer (some ⟨b5, 0, none⟩)), (46, .bool c353)] a ∧ Wd ⟨w0, S0, []⟩ Sv354 [.box b5 [.int .i64 s1.Kind, .int .i64 s1.Num.e0, .int .i64 s1.Num.e1, .int .i64 s1.Num.e2, .int .i64 s1.Den.e0, .int .i64 s1.Den.e1, .int .i64 s1.Den.e2, .slice p2 s1.Taps.length k3, .int .i64 s1.Factor, .int .i64 s1.Shift] 45] [SlA p2 s1.Taps.length k3 s1.Taps] w) ?_ ?_
      ·rcases Bool.eq_false_or_eq_true ((((((s1.Taps.length : Int) == 0) && (s1.Factor == 0)) && (s1.Shift == 0)) && ((s1.Num.e0 == s1.Num.e0) && ((s1.Num.e1 == 0) && ((s1.Num.e2 == 0) && true)))) && ((s1.Den.e0 == s1.Den.e0) && ((s1.Den.e1 == 0) && ((s1.Den.e2 == 0) && true)))) with h352 | h352
       ·have hs := hs.fix 41 (.bool true) rfl (vb h352)
        have hsh := ite_t hc353 h352
        refine st_val hs (y_fieldAddr (o' := 1) Try.runUnderlying45 rfl Try.sizeOf43 rfl rfl rfl) ⟨_, rfl, rfl⟩ rfl rfl fun a hs => ?_
        refine st_val hs (y_indexAtA (q := 1) Try.runUnderlying43 Try.sizeOf3 rfl rfl (by decide) (by decide) rfl) ⟨_, rfl, rfl⟩ rfl rfl fun a hs => ?_
        refine st_val hs (y_loadB1 (hw.ownAt 0 rfl) rfl Try.isAgg3 rfl) ⟨_, rfl, rfl⟩ rfl rfl fun a hs => ?_
        obtain ⟨rv356, h355, hsh⟩ := bind_t hsh
        refine st_callR hs (response_in_ok h355 hw.bdom) (do_call Try.call59 rfl) ⟨_, rfl, rfl⟩ rfl rfl ?_
        intro v360 Sv357 w a h358 h359 hs
        subst h359
        have hw := hw.callB h358
        refine st_val hs (y_pickT rfl rfl) trivial rfl rfl fun a hs => ?_
        refine wpList_nil ?_
        have hsh := Option.some.inj hsh
        subst hsh
        refine then_normal ?_
        exact ⟨S0, (hs.wk rfl), (hw.ft [0] [0] (by decide) rfl rfl)⟩
       ·have hs := hs.fix 41 (.bool false) rfl (vb h352)
        have hsh := ite_f hc353 h352
        refine st_skip hs rfl rfl rfl rfl rfl fun a hs => ?_
        refine st_skip hs rfl rfl rfl rfl rfl fun a hs => ?_
        refine st_skip hs rfl rfl rfl rfl rfl fun a hs => ?_
        refine st_skip hs rfl rfl rfl rfl rfl fun a hs => ?_
        refine st_val hs (y_pickF rfl rfl) trivial rfl rfl fun a hs => ?_
        refine wpList_nil ?_
        have hsh := Option.some.inj hsh
        subst hsh
        refine then_normal ?_
        exact ⟨S0, (hs.wk rfl), (hw.ft [0] [0] (by decide) rfl rfl)⟩
      ·rintro a w ⟨Sv354, hs, hw⟩
       refine st_val hs (y_move rfl) trivial rfl rfl fun a hs => ?_
       obtain ⟨c370, hc370, hsh⟩ := bind_t hsh
       refine wpl_join 5 (fun a w => ∃ (Sv371 : Nat → Prop), Sl 111 [(52, .bool c370)] a ∧ Wd ⟨w0, S0, []⟩ Sv371 [] [] w) ?_ ?_
       ·rcases Bool.eq_false_or_eq_true c353 with h369 | h369
        ·have hs := hs.fix 47 (.bool true) rfl (vb h369)
         have hsh := ite_t hc370 h369
         refine st_val hs (y_fieldAddr (o' := 4) Try.runUnderlying45 rfl Try.sizeOf43 rfl rfl rfl) ⟨_, rfl, rfl⟩ rfl rfl fun a hs => ?_
         refine st_val hs (y_indexAtA (q := 4) Try.runUnderlying43 Try.sizeOf3 rfl rfl (by decide) (by decide) rfl) ⟨_, rfl, rfl⟩ rfl rfl fun a hs => ?_
         refine st_val hs (y_loadB1 (hw.ownAt 0 rfl) rfl Try.isAgg3 rfl) ⟨_, rfl, rfl⟩ rfl rfl fun a hs => ?_
         obtain ⟨rv373, h372, hsh⟩ := bind_t hsh
         refine st_callR hs (response_in_ok h372 hw.bdom) (do_call Try.call59 rfl) ⟨_, rfl, rfl⟩ rfl rfl ?_
         intro v377 Sv374 w a h375 h376 hs
         subst h376
         have hw := hw.callB h375
         refine st_val hs (y_pickT rfl rfl) trivial rfl rfl fun a hs => ?_
         refine wpList_nil ?_
         have hsh := Option.some.inj hsh
         subst hsh
         refine then_normal ?_
         exact ⟨Sv354, (hs.wk rfl), (hw.ft [] [] (by decide) rfl rfl)⟩
        ·have hs := hs.fix 47 (.bool false) rfl (vb h369)
         have hsh := ite_f hc370 h369
         refine st_skip hs rfl rfl rfl rfl rfl fun a hs => ?_
         refine st_skip hs rfl rfl rfl rfl rfl fun a hs => ?_
         refine st_skip hs rfl rfl rfl rfl rfl fun a hs => ?_
         refine st_skip hs rfl rfl rfl rfl rfl fun a hs => ?_
         refine st_val hs (y_pickF rfl rfl) trivial rfl rfl fun a hs => ?_
         refine wpList_nil ?_
         have hsh := Option.some.inj hsh
         subst hsh
         refine then_normal ?_
         exact ⟨Sv354, (hs.wk rfl), (hw.ft [] [] (by decide) rfl rfl)⟩
       ·rintro a w ⟨Sv371, hs, hw⟩
        refine st_val hs (y_assign rfl) trivial rfl rfl fun a hs => ?_
        refine wpList_nil ?_
        refine then_normal ?_
        have hsh := Option.some.inj hsh
        subst hsh
        refine wp_ret ?_
        refine blk_ret ?_
        refine then_ret ?_
        exact ret1 hs rfl (rv_tmp rfl) (hw.ret rfl)
   ·have hsh := ite_f hsh h342
    refine wp_seq ?_
    refine wp_region_lit ?_
    refine st_val hs (y_eql rfl rfl) trivial rfl rfl fun a hs => ?_
    refine st_val hs (y_assign rfl) trivial rfl rfl fun a hs => ?_
    refine wpList_nil ?_
    refine then_normal ?_
    refine wp_cond_split (hs.ev rfl) (fun h509 => ?_) (fun h509 => ?_)
    ·have hsh := ite_t hsh h509
     refine wp_seq ?_
     refine wp_region_lit ?_
     refine st_val hs (y_move rfl) trivial rfl rfl fun a hs => ?_
     refine st_val hs (y_move rfl) trivial rfl rfl fun a hs => ?_
     obtain ⟨c519, hc519, hsh⟩ := bind_t hsh
     refine wpl_join 4 (fun a w => ∃ (Sv520 : Nat → Prop), Sl 111 [(1, .pointer (some ⟨b5, 0, none⟩)), (60, .bool c519)] a ∧ Wd ⟨w0, S0, []⟩ Sv520 [] [CeA b5 0 [.int .i64 s1.Kind, .int .i64 s1.Num.e0, .int .i64 s1.Num.e1, .int .i64 s1.Num.e2, .int .i64 s1.Den.e0, .int .i64 s1.Den.e1, .int .i64 s1.Den.e2, .slice p2 s1.Taps.length k3, .int .i64 s1.Factor, .int .i64 s1.Shift], SlA p2 s1.Taps.length k3 s1.Taps] w) ?_ ?_
     ·rcases Bool.eq_false_or_eq_true ((((s1.Taps.length : Int) == 0) && (s1.Factor == 0)) && (s1.Shift == 0)) with h518 | h518
      ·have hs := hs.fix 56 (.bool true) rfl (vb h518)
       have hsh := ite_t hc519 h518
       refine st_val hs (y_fieldAddr (o' := 1) Try.runUnderlying45 rfl Try.sizeOf43 rfl rfl rfl) ⟨_, rfl, rfl⟩ rfl rfl fun a hs => ?_
       obtain ⟨Sv521, hw⟩ := w_freeze hw 0 rfl
       have hw := hw.addE (e := SlA (α := Int) (some ⟨b5, 1, none⟩) ([s1.Num.e0, s1.Num.e1, s1.Num.e2] : List Int).length 3 ([s1.Num.e0, s1.Num.e1, s1.Num.e2] : List Int)) (arr_sl (o := 1) (hw.envAt 0 rfl) rfl ⟨⟨_, rfl, rfl⟩, ⟨⟨_, rfl, rfl⟩, ⟨⟨_, rfl, rfl⟩, rfl⟩⟩⟩)
       refine st_val hs (y_sliceArr Try.runUnderlying43 Try.sizeOf3 rfl rfl) ⟨_, rfl, rfl⟩ rfl rfl fun a hs => ?_
       obtain ⟨rv523, h522, hsh⟩ := bind_t hsh
       refine st_callR hs (response_terms_ok h522 hw.bdom (hw.bE 0 rfl)) (do_call Try.call60 rfl) ⟨_, rfl, rfl⟩ rfl rfl ?_
       intro v527 Sv524 w a h525 h526 hs
       subst h526
       have hw := hw.callB h525
       refine st_val hs (y_pickT rfl rfl) trivial rfl rfl fun a hs => ?_
       refine wpList_nil ?_
       have hsh := Option.some.inj hsh
       subst hsh
       refine then_normal ?_
       exact ⟨Sv521, (hs.wk rfl), (hw.ft [] [1, 2] (by decide) rfl rfl)⟩
      ·have hs := hs.fix 56 (.bool false) rfl (vb h518)
       have hsh := ite_f hc519 h518
       refine st_skip hs rfl rfl rfl rfl rfl fun a hs => ?_
       refine st_skip hs rfl rfl rfl rfl rfl fun a hs => ?_
       refine st_skip hs rfl rfl rfl rfl rfl fun a hs => ?_
       refine st_val hs (y_pickF rfl rfl) trivial rfl rfl fun a hs => ?_
       refine wpList_nil ?_
       obtain ⟨Sv529, hw⟩ := w_freeze hw 0 rfl
       have hsh := Option.some.inj hsh
       subst hsh
       refine then_normal ?_
       exact ⟨Sv529, (hs.wk rfl), (hw.ft [] [0, 1] (by decide) rfl rfl)⟩
     ·rintro a w ⟨Sv520, hs, hw⟩
      refine st_val hs (y_move rfl) trivial rfl rfl fun a hs => ?_
      obtain ⟨c538, hc538, hsh⟩ := bind_t hsh
      refine wpl_join 4 (fun a w => ∃ (Sv539 : Nat → Prop), Sl 111 [(1, .pointer (some ⟨b5, 0, none⟩)), (65, .bool c538)] a ∧ Wd ⟨w0, S0, []⟩ Sv539 [] [CeA b5 0 [.int .i64 s1.Kind, .int .i64 s1.Num.e0, .int .i64 s1.Num.e1, .int .i64 s1.Num.e2, .int .i64 s1.Den.e0, .int .i64 s1.Den.e1, .int .i64 s1.Den.e2, .slice p2 s1.Taps.length k3, .int .i64 s1.Factor, .int .i64 s1.Shift], SlA p2 s1.Taps.length k3 s1.Taps] w) ?_ ?_
      ·rcases Bool.eq_false_or_eq_true c519 with h537 | h537
       ·have hs := hs.fix 61 (.bool true) rfl (vb h537)
        have hsh := ite_t hc538 h537
        refine st_val hs (y_fieldAddr (o' := 4) Try.runUnderlying45 rfl Try.sizeOf43 rfl rfl rfl) ⟨_, rfl, rfl⟩ rfl rfl fun a hs => ?_
        have hw := hw.addE (e := SlA (α := Int) (some ⟨b5, 4, none⟩) ([s1.Den.e0, s1.Den.e1, s1.Den.e2] : List Int).length 3 ([s1.Den.e0, s1.Den.e1, s1.Den.e2] : List Int)) (arr_sl (o := 4) (hw.envAt 0 rfl) rfl ⟨⟨_, rfl, rfl⟩, ⟨⟨_, rfl, rfl⟩, ⟨⟨_, rfl, rfl⟩, rfl⟩⟩⟩)
        refine st_val hs (y_sliceArr Try.runUnderlying43 Try.sizeOf3 rfl rfl) ⟨_, rfl, rfl⟩ rfl rfl fun a hs => ?_
        obtain ⟨rv541, h540, hsh⟩ := bind_t hsh
        refine st_callR hs (response_terms_ok h540 hw.bdom (hw.bE 0 rfl)) (do_call Try.call60 rfl) ⟨_, rfl, rfl⟩ rfl rfl ?_
        intro v545 Sv542 w a h543 h544 hs
        subst h544
        have hw := hw.callB h543
        refine st_val hs (y_pickT rfl rfl) trivial rfl rfl fun a hs => ?_
        refine wpList_nil ?_
        have hsh := Option.some.inj hsh
        subst hsh
        refine then_normal ?_
        exact ⟨Sv520, (hs.wk rfl), (hw.ft [] [1, 2] (by decide) rfl rfl)⟩
       ·have hs := hs.fix 61 (.bool false) rfl (vb h537)
        have hsh := ite_f hc538 h537
        refine st_skip hs rfl rfl rfl rfl rfl fun a hs => ?_
        refine st_skip hs rfl rfl rfl rfl rfl fun a hs => ?_
        refine st_skip hs rfl rfl rfl rfl rfl fun a hs => ?_
        refine st_val hs (y_pickF rfl rfl) trivial rfl rfl fun a hs => ?_
        refine wpList_nil ?_
        have hsh := Option.some.inj hsh
        subst hsh
        refine then_normal ?_
        exact ⟨Sv520, (hs.wk rfl), (hw.ft [] [0, 1] (by decide) rfl rfl)⟩
      ·rintro a w ⟨Sv539, hs, hw⟩
       refine st_val hs (y_move rfl) trivial rfl rfl fun a hs => ?_
       refine wpl_join 5 (fun a w1 => w = w1 ∧ Sl 111 [(71, .bool (c538 && (s1.Den.e0 != 0)))] a) ?_ ?_
       ·rcases Bool.eq_false_or_eq_true c538 with h547 | h547
        ·have hs := hs.fix 66 (.bool true) rfl (vb h547)
         refine st_val hs (y_fieldAddr (o' := 4) Try.runUnderlying45 rfl Try.sizeOf43 rfl rfl rfl) ⟨_, rfl, rfl⟩ rfl rfl fun a hs => ?_
         refine st_val hs (y_indexAtA (q := 4) Try.runUnderlying43 Try.sizeOf3 rfl rfl (by decide) (by decide) rfl) ⟨_, rfl, rfl⟩ rfl rfl fun a hs => ?_
         refine st_val hs (y_loadE1 (j := 4) (hw.ceAt 0 rfl) rfl Try.isAgg3 rfl) ⟨_, rfl, rfl⟩ rfl rfl fun a hs => ?_
         refine st_val hs (y_neq rfl rfl) ⟨_, rfl, rfl⟩ rfl rfl fun a hs => ?_
         refine st_val hs (y_pickT rfl rfl) trivial rfl rfl fun a hs => ?_
         refine wpList_nil ?_
         refine then_normal ?_
         exact ⟨rfl, (hs.fix 71 (.bool (c538 && (s1.Den.e0 != 0))) rfl (and_t h547)).weaken _ ⟨rfl, trivial⟩⟩
        ·have hs := hs.fix 66 (.bool false) rfl (vb h547)
         refine st_skip hs rfl rfl rfl rfl rfl fun a hs => ?_
         refine st_skip hs rfl rfl rfl rfl rfl fun a hs => ?_
         refine st_skip hs rfl rfl rfl rfl rfl fun a hs => ?_
         refine st_skip hs rfl rfl rfl rfl rfl fun a hs => ?_
         refine st_val hs (y_pickF rfl rfl) trivial rfl rfl fun a hs => ?_
         refine wpList_nil ?_
         refine then_normal ?_
         exact ⟨rfl, (hs.fix 71 (.bool (c538 && (s1.Den.e0 != 0))) rfl (and_f h547)).weaken _ ⟨rfl, trivial⟩⟩
       ·rintro a w1 ⟨h548, hs⟩
        subst h548
        refine st_val hs (y_assign rfl) trivial rfl rfl fun a hs => ?_
        refine wpList_nil ?_
        refine then_normal ?_
        have hsh := Option.some.inj hsh
        subst hsh
        refine wp_ret ?_
        refine blk_ret ?_
        refine then_ret ?_
        exact ret1 hs rfl (rv_tmp rfl) (hw.ret rfl)
    ·have hsh := ite_f hsh h509
     refine wp_seq ?_
     refine wp_region_lit ?_
     refine st_val hs (y_eql rfl rfl) trivial rfl rfl fun a hs => ?_
     refine st_val hs (y_assign rfl) trivial rfl rfl fun a hs => ?_
     refine wpList_nil ?_
     refine then_normal ?_
     refine wp_cond_split (hs.ev rfl) (fun h637 => ?_) (fun h637 => ?_)
     ·have hsh := ite_t hsh h637
      refine wp_seq ?_
      refine wp_region_lit ?_
      refine st_val hs (y_fieldAddr (o' := 1) Try.runUnderlying45 rfl Try.sizeOf43 rfl rfl rfl) trivial rfl rfl fun a hs => ?_
      refine st_val hs (y_loadBA (hw.ownAt 0 rfl) rfl Try.isAgg43 Try.sizeOf43 rfl rfl) trivial rfl rfl fun a hs => ?_
      refine st_val hs (y_build (vs := []) Bld43 rfl rfl) trivial rfl rfl fun a hs => ?_
      refine st_val hs (y_eqlA (by kernel_rfl) rfl rfl (eqv_array Try.runUnderlying43 Try.sizeOf3 (EqA.cons1 Try.isAgg3 rfl rfl (eqv_int Try.runUnderlying3) (EqA.cons1 Try.isAgg3 rfl rfl (eqv_int Try.runUnderlying3) (EqA.cons1 Try.isAgg3 rfl rfl (eqv_int Try.runUnderlying3) EqA.nil))))) trivial rfl rfl fun a hs => ?_
      refine st_val hs (y_move rfl) trivial rfl rfl fun a hs => ?_
      refine wpl_join 5 (fun a w1 => w = w1 ∧ Sl 111 [(1, .pointer (some ⟨b5, 0, none⟩)), (83, .bool (((s1.Num.e0 == 0) && ((s1.Num.e1 == 0) && ((s1.Num.e2 == 0) && true))) && ((s1.Den.e0 == 0) && ((s1.Den.e1 == 0) && ((s1.Den.e2 == 0) && true)))))] a) ?_ ?_
      ·rcases Bool.eq_false_or_eq_true ((s1.Num.e0 == 0) && ((s1.Num.e1 == 0) && ((s1.Num.e2 == 0) && true))) with h638 | h638
       ·have hs := hs.fix 78 (.bool true) rfl (vb h638)
        refine st_val hs (y_fieldAddr (o' := 4) Try.runUnderlying45 rfl Try.sizeOf43 rfl rfl rfl) ⟨_, rfl, rfl⟩ rfl rfl fun a hs => ?_
        refine st_val hs (y_loadBA (hw.ownAt 0 rfl) rfl Try.isAgg43 Try.sizeOf43 rfl rfl) ⟨_, rfl, rfl⟩ rfl rfl fun a hs => ?_
        refine st_val hs (y_build (vs := []) Bld43 rfl rfl) ⟨_, rfl, rfl⟩ rfl rfl fun a hs => ?_
        refine st_val hs (y_eqlA (by kernel_rfl) rfl rfl (eqv_array Try.runUnderlying43 Try.sizeOf3 (EqA.cons1 Try.isAgg3 rfl rfl (eqv_int Try.runUnderlying3) (EqA.cons1 Try.isAgg3 rfl rfl (eqv_int Try.runUnderlying3) (EqA.cons1 Try.isAgg3 rfl rfl (eqv_int Try.runUnderlying3) EqA.nil))))) ⟨_, rfl, rfl⟩ rfl rfl fun a hs => ?_
        refine st_val hs (y_pickT rfl rfl) trivial rfl rfl fun a hs => ?_
        refine wpList_nil ?_
        refine then_normal ?_
        exact ⟨rfl, (hs.fix 83 (.bool (((s1.Num.e0 == 0) && ((s1.Num.e1 == 0) && ((s1.Num.e2 == 0) && true))) && ((s1.Den.e0 == 0) && ((s1.Den.e1 == 0) && ((s1.Den.e2 == 0) && true))))) rfl (and_t h638)).weaken _ ⟨rfl, rfl, trivial⟩⟩
       ·have hs := hs.fix 78 (.bool false) rfl (vb h638)
        refine st_skip hs rfl rfl rfl rfl rfl fun a hs => ?_
        refine st_skip hs rfl rfl rfl rfl rfl fun a hs => ?_
        refine st_skip hs rfl rfl rfl rfl rfl fun a hs => ?_
        refine st_skip hs rfl rfl rfl rfl rfl fun a hs => ?_
        refine st_val hs (y_pickF rfl rfl) trivial rfl rfl fun a hs => ?_
        refine wpList_nil ?_
        refine then_normal ?_
        exact ⟨rfl, (hs.fix 83 (.bool (((s1.Num.e0 == 0) && ((s1.Num.e1 == 0) && ((s1.Num.e2 == 0) && true))) && ((s1.Den.e0 == 0) && ((s1.Den.e1 == 0) && ((s1.Den.e2 == 0) && true))))) rfl (and_f h638)).weaken _ ⟨rfl, rfl, trivial⟩⟩
      ·rintro a w1 ⟨h724, hs⟩
       subst h724
       refine st_val hs (y_move rfl) trivial rfl rfl fun a hs => ?_
       obtain ⟨c647, hc647, hsh⟩ := bind_t hsh
       refine wpl_join 5 (fun a w => ∃ (Sv648 : Nat → Prop), Sl 111 [(1, .pointer (some ⟨b5, 0, none⟩)), (89, .bool c647)] a ∧ Wd ⟨w0, S0, []⟩ Sv648 [.box b5 [.int .i64 s1.Kind, .int .i64 s1.Num.e0, .int .i64 s1.Num.e1, .int .i64 s1.Num.e2, .int .i64 s1.Den.e0, .int .i64 s1.Den.e1, .int .i64 s1.Den.e2, .slice p2 s1.Taps.length k3, .int .i64 s1.Factor, .int .i64 s1.Shift] 45] [SlA p2 s1.Taps.length k3 s1.Taps] w) ?_ ?_
       ·rcases Bool.eq_false_or_eq_true (((s1.Num.e0 == 0) && ((s1.Num.e1 == 0) && ((s1.Num.e2 == 0) && true))) && ((s1.Den.e0 == 0) && ((s1.Den.e1 == 0) && ((s1.Den.e2 == 0) && true)))) with h646 | h646
        ·have hs := hs.fix 84 (.bool true) rfl (vb h646)
         have hsh := ite_t hc647 h646
         refine st_val hs (y_fieldAddr (o' := 7) Try.runUnderlying45 rfl Try.sizeOf22 rfl rfl rfl) ⟨_, rfl, rfl⟩ rfl rfl fun a hs => ?_
         refine st_val hs (y_loadB1 (hw.ownAt 0 rfl) rfl Try.isAgg22 rfl) ⟨_, rfl, rfl⟩ rfl rfl fun a hs => ?_
         refine st_val hs (y_len Try.runUnderlying22 rfl) ⟨_, rfl, rfl⟩ rfl rfl fun a hs => ?_
         obtain ⟨rv650, h649, hsh⟩ := bind_t hsh
         refine st_callR hs (response_in_ok h649 hw.bdom) (do_call Try.call59 rfl) ⟨_, rfl, rfl⟩ rfl rfl ?_
         intro v654 Sv651 w a h652 h653 hs
         subst h653
         have hw := hw.callB h652
         refine st_val hs (y_pickT rfl rfl) trivial rfl rfl fun a hs => ?_
         refine wpList_nil ?_
         have hsh := Option.some.inj hsh
         subst hsh
         refine then_normal ?_
         exact ⟨S0, (hs.wk rfl), (hw.ft [0] [0] (by decide) rfl rfl)⟩
        ·have hs := hs.fix 84 (.bool false) rfl (vb h646)
         have hsh := ite_f hc647 h646
         refine st_skip hs rfl rfl rfl rfl rfl fun a hs => ?_
         refine st_skip hs rfl rfl rfl rfl rfl fun a hs => ?_
         refine st_skip hs rfl rfl rfl rfl rfl fun a hs => ?_
         refine st_skip hs rfl rfl rfl rfl rfl fun a hs => ?_
         refine st_val hs (y_pickF rfl rfl) trivial rfl rfl fun a hs => ?_
         refine wpList_nil ?_
         have hsh := Option.some.inj hsh
         subst hsh
         refine then_normal ?_
         exact ⟨S0, (hs.wk rfl), (hw.ft [0] [0] (by decide) rfl rfl)⟩
       ·rintro a w ⟨Sv648, hs, hw⟩
        refine st_val hs (y_move rfl) trivial rfl rfl fun a hs => ?_
        obtain ⟨c664, hc664, hsh⟩ := bind_t hsh
        refine wpl_join 4 (fun a w => ∃ (Sv665 : Nat → Prop), Sl 111 [(1, .pointer (some ⟨b5, 0, none⟩)), (94, .bool c664)] a ∧ Wd ⟨w0, S0, []⟩ Sv665 [.box b5 [.int .i64 s1.Kind, .int .i64 s1.Num.e0, .int .i64 s1.Num.e1, .int .i64 s1.Num.e2, .int .i64 s1.Den.e0, .int .i64 s1.Den.e1, .int .i64 s1.Den.e2, .slice p2 s1.Taps.length k3, .int .i64 s1.Factor, .int .i64 s1.Shift] 45] [SlA p2 s1.Taps.length k3 s1.Taps] w) ?_ ?_
        ·rcases Bool.eq_false_or_eq_true c647 with h663 | h663
         ·have hs := hs.fix 90 (.bool true) rfl (vb h663)
          have hsh := ite_t hc664 h663
          refine st_val hs (y_fieldAddr (o' := 7) Try.runUnderlying45 rfl Try.sizeOf22 rfl rfl rfl) ⟨_, rfl, rfl⟩ rfl rfl fun a hs => ?_
          refine st_val hs (y_loadB1 (hw.ownAt 0 rfl) rfl Try.isAgg22 rfl) ⟨_, rfl, rfl⟩ rfl rfl fun a hs => ?_
          obtain ⟨rv667, h666, hsh⟩ := bind_t hsh
          refine st_callR hs (response_terms_ok h666 hw.bdom (hw.bE 0 rfl)) (do_call Try.call60 rfl) ⟨_, rfl, rfl⟩ rfl rfl ?_
          intro v671 Sv668 w a h669 h670 hs
          subst h670
          have hw := hw.callB h669
          refine st_val hs (y_pickT rfl rfl) trivial rfl rfl fun a hs => ?_
          refine wpList_nil ?_
          have hsh := Option.some.inj hsh
          subst hsh
          refine then_normal ?_
          exact ⟨Sv648, (hs.wk rfl), (hw.ft [0] [0] (by decide) rfl rfl)⟩
         ·have hs := hs.fix 90 (.bool false) rfl (vb h663)
          have hsh := ite_f hc664 h663
          refine st_skip hs rfl rfl rfl rfl rfl fun a hs => ?_
          refine st_skip hs rfl rfl rfl rfl rfl fun a hs => ?_
          refine st_skip hs rfl rfl rfl rfl rfl fun a hs => ?_
          refine st_val hs (y_pickF rfl rfl) trivial rfl rfl fun a hs => ?_
          refine wpList_nil ?_
          have hsh := Option.some.inj hsh
          subst hsh
          refine then_normal ?_
          exact ⟨Sv648, (hs.wk rfl), (hw.ft [0] [0] (by decide) rfl rfl)⟩
        ·rintro a w ⟨Sv665, hs, hw⟩
         refine st_val hs (y_move rfl) trivial rfl rfl fun a hs => ?_
         obtain ⟨c681, hc681, hsh⟩ := bind_t hsh
         refine wpl_join 5 (fun a w => ∃ (Sv682 : Nat → Prop), Sl 111 [(1, .pointer (some ⟨b5, 0, none⟩)), (100, .bool c681)] a ∧ Wd ⟨w0, S0, []⟩ Sv682 [.box b5 [.int .i64 s1.Kind, .int .i64 s1.Num.e0, .int .i64 s1.Num.e1, .int .i64 s1.Num.e2, .int .i64 s1.Den.e0, .int .i64 s1.Den.e1, .int .i64 s1.Den.e2, .slice p2 s1.Taps.length k3, .int .i64 s1.Factor, .int .i64 s1.Shift] 45] [SlA p2 s1.Taps.length k3 s1.Taps] w) ?_ ?_
         ·rcases Bool.eq_false_or_eq_true c664 with h680 | h680
          ·have hs := hs.fix 95 (.bool true) rfl (vb h680)
           have hsh := ite_t hc681 h680
           refine st_val hs (y_fieldAddr (o' := 7) Try.runUnderlying45 rfl Try.sizeOf22 rfl rfl rfl) ⟨_, rfl, rfl⟩ rfl rfl fun a hs => ?_
           refine st_val hs (y_loadB1 (hw.ownAt 0 rfl) rfl Try.isAgg22 rfl) ⟨_, rfl, rfl⟩ rfl rfl fun a hs => ?_
           obtain ⟨rv684, h683, hsh⟩ := bind_t hsh
           refine st_callR hs (response_sum_ok h683 hw.bdom (hw.bE 0 rfl)) (do_call Try.call61 rfl) ⟨_, rfl, rfl⟩ rfl rfl ?_
           intro v688 Sv685 w a h686 h687 hs
           subst h687
           have hw := hw.callB h686
           refine st_val hs (y_neq rfl rfl) ⟨_, rfl, rfl⟩ rfl rfl fun a hs => ?_
           refine st_val hs (y_pickT rfl rfl) trivial rfl rfl fun a hs => ?_
           refine wpList_nil ?_
           have hsh := Option.some.inj hsh
           subst hsh
           refine then_normal ?_
           exact ⟨Sv665, (hs.wk rfl), (hw.ft [0] [0] (by decide) rfl rfl)⟩
          ·have hs := hs.fix 95 (.bool false) rfl (vb h680)
           have hsh := ite_f hc681 h680
           refine st_skip hs rfl rfl rfl rfl rfl fun a hs => ?_
           refine st_skip hs rfl rfl rfl rfl rfl fun a hs => ?_
           refine st_skip hs rfl rfl rfl rfl rfl fun a hs => ?_
           refine st_skip hs rfl rfl rfl rfl rfl fun a hs => ?_
           refine st_val hs (y_pickF rfl rfl) trivial rfl rfl fun a hs => ?_
           refine wpList_nil ?_
           have hsh := Option.some.inj hsh
           subst hsh
           refine then_normal ?_
           exact ⟨Sv665, (hs.wk rfl), (hw.ft [0] [0] (by decide) rfl rfl)⟩
         ·rintro a w ⟨Sv682, hs, hw⟩
          refine st_val hs (y_move rfl) trivial rfl rfl fun a hs => ?_
          obtain ⟨c698, hc698, hsh⟩ := bind_t hsh
          refine wpl_join 4 (fun a w => ∃ (Sv699 : Nat → Prop), Sl 111 [(1, .pointer (some ⟨b5, 0, none⟩)), (105, .bool c698)] a ∧ Wd ⟨w0, S0, []⟩ Sv699 [.box b5 [.int .i64 s1.Kind, .int .i64 s1.Num.e0, .int .i64 s1.Num.e1, .int .i64 s1.Num.e2, .int .i64 s1.Den.e0, .int .i64 s1.Den.e1, .int .i64 s1.Den.e2, .slice p2 s1.Taps.length k3, .int .i64 s1.Factor, .int .i64 s1.Shift] 45] [SlA p2 s1.Taps.length k3 s1.Taps] w) ?_ ?_
          ·rcases Bool.eq_false_or_eq_true c681 with h697 | h697
           ·have hs := hs.fix 101 (.bool true) rfl (vb h697)
            have hsh := ite_t hc698 h697
            refine st_val hs (y_fieldAddr (o' := 8) Try.runUnderlying45 rfl Try.sizeOf3 rfl rfl rfl) ⟨_, rfl, rfl⟩ rfl rfl fun a hs => ?_
            refine st_val hs (y_loadB1 (hw.ownAt 0 rfl) rfl Try.isAgg3 rfl) ⟨_, rfl, rfl⟩ rfl rfl fun a hs => ?_
            obtain ⟨rv701, h700, hsh⟩ := bind_t hsh
            refine st_callR hs (response_in_ok h700 hw.bdom) (do_call Try.call59 rfl) ⟨_, rfl, rfl⟩ rfl rfl ?_
            intro v705 Sv702 w a h703 h704 hs
            subst h704
            have hw := hw.callB h703
            refine st_val hs (y_pickT rfl rfl) trivial rfl rfl fun a hs => ?_
            refine wpList_nil ?_
            have hsh := Option.some.inj hsh
            subst hsh
            refine then_normal ?_
            exact ⟨Sv682, (hs.wk rfl), (hw.ft [0] [0] (by decide) rfl rfl)⟩
           ·have hs := hs.fix 101 (.bool false) rfl (vb h697)
            have hsh := ite_f hc698 h697
            refine st_skip hs rfl rfl rfl rfl rfl fun a hs => ?_
            refine st_skip hs rfl rfl rfl rfl rfl fun a hs => ?_
            refine st_skip hs rfl rfl rfl rfl rfl fun a hs => ?_
            refine st_val hs (y_pickF rfl rfl) trivial rfl rfl fun a hs => ?_
            refine wpList_nil ?_
            have hsh := Option.some.inj hsh
            subst hsh
            refine then_normal ?_
            exact ⟨Sv682, (hs.wk rfl), (hw.ft [0] [0] (by decide) rfl rfl)⟩
          ·rintro a w ⟨Sv699, hs, hw⟩
           refine st_val hs (y_move rfl) trivial rfl rfl fun a hs => ?_
           obtain ⟨c715, hc715, hsh⟩ := bind_t hsh
           refine wpl_join 4 (fun a w => ∃ (Sv716 : Nat → Prop), Sl 111 [(110, .bool c715)] a ∧ Wd ⟨w0, S0, []⟩ Sv716 [] [] w) ?_ ?_
           ·rcases Bool.eq_false_or_eq_true c698 with h714 | h714
            ·have hs := hs.fix 106 (.bool true) rfl (vb h714)
             have hsh := ite_t hc715 h714
             refine st_val hs (y_fieldAddr (o' := 9) Try.runUnderlying45 rfl Try.sizeOf3 rfl rfl rfl) ⟨_, rfl, rfl⟩ rfl rfl fun a hs => ?_
             refine st_val hs (y_loadB1 (hw.ownAt 0 rfl) rfl Try.isAgg3 rfl) ⟨_, rfl, rfl⟩ rfl rfl fun a hs => ?_
             obtain ⟨rv718, h717, hsh⟩ := bind_t hsh
             refine st_callR hs (response_in_ok h717 hw.bdom) (do_call Try.call59 rfl) ⟨_, rfl, rfl⟩ rfl rfl ?_
             intro v722 Sv719 w a h720 h721 hs
             subst h721
             have hw := hw.callB h720
             refine st_val hs (y_pickT rfl rfl) trivial rfl rfl fun a hs => ?_
             refine wpList_nil ?_
             have hsh := Option.some.inj hsh
             subst hsh
             refine then_normal ?_
             exact ⟨Sv699, (hs.wk rfl), (hw.ft [] [] (by decide) rfl rfl)⟩
            ·have hs := hs.fix 106 (.bool false) rfl (vb h714)
             have hsh := ite_f hc715 h714
             refine st_skip hs rfl rfl rfl rfl rfl fun a hs => ?_
             refine st_skip hs rfl rfl rfl rfl rfl fun a hs => ?_
             refine st_skip hs rfl rfl rfl rfl rfl fun a hs => ?_
             refine st_val hs (y_pickF rfl rfl) trivial rfl rfl fun a hs => ?_
             refine wpList_nil ?_
             have hsh := Option.some.inj hsh
             subst hsh
             refine then_normal ?_
             exact ⟨Sv699, (hs.wk rfl), (hw.ft [] [] (by decide) rfl rfl)⟩
           ·rintro a w ⟨Sv716, hs, hw⟩
            refine st_val hs (y_assign rfl) trivial rfl rfl fun a hs => ?_
            refine wpList_nil ?_
            refine then_normal ?_
            have hsh := Option.some.inj hsh
            subst hsh
            refine wp_ret ?_
            refine blk_ret ?_
            refine then_ret ?_
            exact ret1 hs rfl (rv_tmp rfl) (hw.ret rfl)
     ·have hsh := ite_f hsh h637
      refine wp_skip ?_
      refine blk_normal ?_
      refine then_normal ?_
      refine wp_seq ?_
      refine wp_region_lit ?_
      refine st_val hs (y_assign rfl) trivial rfl rfl fun a hs => ?_
      refine wpList_nil ?_
      refine then_normal ?_
      have hsh := Option.some.inj hsh
      subst hsh
      refine wp_ret ?_
      exact ret1 hs rfl (rv_tmp rfl) (hw.ret rfl)

abbrev slices_Clone_Lint_int_rd (w0 : World) (X : List Nat) (r : (List Int)) : (Nat → Prop) → World → Value → Prop := fun S w v => ∃ (p0_0 : Option Addr) (k0_0 : Nat) (c0_0 : List Value), v = .slice p0_0 r.length k0_0 ∧ Outs X w0 S w [.row p0_0 r.length k0_0 c0_0 3 1] ∧ (RowA c0_0 r).p S w
set_option maxHeartbeats 4000000 in
set_option maxRecDepth 100000 in
theorem slices_Clone_Lint_int_ok {w0 : World} {S0 : Nat → Prop} {p2 : Option Addr} {k3 : Nat} {s1 : (List Int)} {r : (List Int)} (hsh : slices_Clone_Lint_int s1 = some r) (hS : ∀ b, S0 b → b < w0.heap.size) (h4 : (SlA p2 s1.length k3 s1).p S0 w0) : Calls Try.prog 45 #[.slice p2 s1.length k3] w0 (Ret ([]) w0 S0 (slices_Clone_Lint_int_rd w0 ([]) r)) := by
 refine calls_of_wp Try.func45 rfl ?_
 have hs := Sl.enter #[.slice p2 s1.length k3] 8 [(0, .slice p2 s1.length k3)] rfl ⟨rfl, trivial⟩
 have hw := Wd.enter (E := []) hS (fun _ h => (by cases h))
 have hw := hw.addE h4
 delta slices_Clone_Lint_int at hsh
 refine wp_seq ?_
 refine wp_region_lit ?_
 refine st_val hs (y_assign rfl) trivial rfl rfl fun a hs => ?_
 refine wpList_nil ?_
 refine then_normal ?_
 refine wp_seq ?_
 refine wp_seq ?_
 refine wp_region_lit ?_
 refine st_val hs (y_move rfl) trivial rfl rfl fun a hs => ?_
 refine st_val hs (y_eqlN Try.runUnderlying22 rfl rfl) trivial rfl rfl fun a hs => ?_
 refine wpList_nil ?_
 refine then_normal ?_
 have hsv15 := hs
 have hwv16 := hw
 rcases p2 with _ | av8
 ·have hs := hsv15
  have hw := hwv16
  obtain rfl := slnil (hw.envAt 0 rfl)
  have hsh : some ([] : List Int) = some r := by simpa [appM, maxLen] using hsh
  refine wp_cond_true (hs.ev rfl) ?_
  refine wp_seq ?_
  refine wp_region_lit ?_
  refine st_val hs (y_assign rfl) trivial rfl rfl fun a hs => ?_
  refine wpList_nil ?_
  refine then_normal ?_
  have hsh := Option.some.inj hsh
  subst hsh
  have hw := hw.nilRow Int 3
  refine wp_ret ?_
  refine then_ret ?_
  exact ret1 hs rfl (rv_tmp rfl) (hw.ret ⟨none, 0, [], rfl, (hw.outs [0] (by decide) rfl), (hw.envAt 0 rfl)⟩)
 ·have hs := hsv15
  have hw := hwv16
  refine wp_cond_false (hs.ev rfl) ?_
  refine wp_skip ?_
  refine then_normal ?_
  refine wp_seq ?_
  refine wp_region_lit ?_
  refine w_buildSlice (α := Int) (vs := []) (cs := []) (xs := ([] : List Int)) hs hw El22 rfl rfl rfl rfl rfl rfl rfl rfl trivial fun p9 a w hs hw => ?_
  refine st_val hs (y_move rfl) trivial rfl rfl fun a hs => ?_
  obtain ⟨l11, h10, hsh⟩ := bind_t hsh
  refine w_appendE (α := Int) hs hw El22 0 rfl rfl rfl 0 rfl 1 rfl h10 rfl trivial ?_
  intro p12 k13 c14 a w hs hw
  refine st_val hs (y_assign rfl) trivial rfl rfl fun a hs => ?_
  refine wpList_nil ?_
  refine then_normal ?_
  have hsh := Option.some.inj hsh
  subst hsh
  refine wp_ret ?_
  exact ret1 hs rfl (rv_tmp rfl) (hw.ret ⟨p12, k13, c14, rfl, (hw.outs [0] (by decide) rfl), (hw.envAt 0 rfl)⟩)

abbrev filter_Stage_rd (w0 : World) (X : List Nat) (r : (Filter × Int)) : (Nat → Prop) → World → Value → Prop := fun S w v => ∃ (p0_0 : Option Addr) (k0_0 : Nat) (c0_0 : List Value), v = .tuple #[.agg #[.slice p0_0 r.1.Taps.length k0_0, .int .i64 r.1.Factor, .int .i64 r.1.Shift], .int .i64 r.2] ∧ Outs X w0 S w [.row p0_0 r.1.Taps.length k0_0 c0_0 3 1] ∧ (RowA c0_0 r.1.Taps).p S w
set_option maxHeartbeats 4000000 in
set_option maxRecDepth 100000 in
theorem filter_Stage_ok {w0 : World} {S0 : Nat → Prop} {p2 : Option Addr} {k3 : Nat} {s1 : Stage} {r : (Filter × Int)} (hsh : filter_Stage s1 = some r) (hS : ∀ b, S0 b → b < w0.heap.size) (h4 : (SlA p2 s1.Taps.length k3 s1.Taps).p S0 w0) : Calls Try.prog 22 #[.agg #[.int .i64 s1.Kind, .int .i64 s1.Num.e0, .int .i64 s1.Num.e1, .int .i64 s1.Num.e2, .int .i64 s1.Den.e0, .int .i64 s1.Den.e1, .int .i64 s1.Den.e2, .slice p2 s1.Taps.length k3, .int .i64 s1.Factor, .int .i64 s1.Shift]] w0 (Ret ([]) w0 S0 (filter_Stage_rd w0 ([]) r)) := by
 refine calls_of_wp Try.func22 rfl ?_
 have hs := Sl.enter #[.agg #[.int .i64 s1.Kind, .int .i64 s1.Num.e0, .int .i64 s1.Num.e1, .int .i64 s1.Num.e2, .int .i64 s1.Den.e0, .int .i64 s1.Den.e1, .int .i64 s1.Den.e2, .slice p2 s1.Taps.length k3, .int .i64 s1.Factor, .int .i64 s1.Shift]] 27 [(0, .agg #[.int .i64 s1.Kind, .int .i64 s1.Num.e0, .int .i64 s1.Num.e1, .int .i64 s1.Num.e2, .int .i64 s1.Den.e0, .int .i64 s1.Den.e1, .int .i64 s1.Den.e2, .slice p2 s1.Taps.length k3, .int .i64 s1.Factor, .int .i64 s1.Shift])] rfl ⟨rfl, trivial⟩
 have hw := Wd.enter (E := []) hS (fun _ h => (by cases h))
 have hw := hw.addE h4
 delta filter_Stage at hsh
 refine wp_seq ?_
 refine wp_region_lit ?_
 refine w_box (cs := [.int .i64 s1.Kind, .int .i64 s1.Num.e0, .int .i64 s1.Num.e1, .int .i64 s1.Num.e2, .int .i64 s1.Den.e0, .int .i64 s1.Den.e1, .int .i64 s1.Den.e2, .slice p2 s1.Taps.length k3, .int .i64 s1.Factor, .int .i64 s1.Shift]) hs hw rfl rfl rfl trivial ?_
 intro b5 a w hs hw
 refine w_alloc (cs := [.slice none ([] : List Int).length 0, .int .i64 0, .int .i64 0]) hs hw Try.zeroValue28 rfl rfl trivial ?_
 intro b6 a w hs hw
 refine st_val hs (y_assign rfl) trivial rfl rfl fun a hs => ?_
 refine wpList_nil ?_
 refine then_normal ?_
 refine wp_seq ?_
 refine wp_seq ?_
 refine wp_region_lit ?_
 refine st_val hs (y_loadBA (hw.ownAt 1 rfl) rfl Try.isAgg45 Try.sizeOf45 rfl rfl) trivial rfl rfl fun a hs => ?_
 obtain ⟨rv8, h7, hsh⟩ := bind_t hsh
 refine st_callR hs (response_ValidStage_ok h7 hw.bdom (hw.bE 0 rfl)) (do_call Try.call44 rfl) trivial rfl rfl ?_
 intro v12 Sv9 w a h10 h11 hs
 subst h11
 have hw := hw.callB h10
 refine st_val hs (y_not rfl) trivial rfl rfl fun a hs => ?_
 refine st_val hs (y_move rfl) trivial rfl rfl fun a hs => ?_
 refine wpl_join 4 (fun a w1 => w = w1 ∧ Sl 27 [(1, .pointer (some ⟨b5, 0, none⟩)), (2, .pointer (some ⟨b6, 0, none⟩)), (12, .bool ((!rv8) || (s1.Kind != 2)))] a) ?_ ?_
 ·rcases Bool.eq_false_or_eq_true (!rv8) with h14 | h14
  ·have hs := hs.fix 8 (.bool true) rfl (vb h14)
   refine st_skip hs rfl rfl rfl rfl rfl fun a hs => ?_
   refine st_skip hs rfl rfl rfl rfl rfl fun a hs => ?_
   refine st_skip hs rfl rfl rfl rfl rfl fun a hs => ?_
   refine st_val hs (y_pickT rfl rfl) trivial rfl rfl fun a hs => ?_
   refine wpList_nil ?_
   refine then_normal ?_
   exact ⟨rfl, (hs.fix 12 (.bool ((!rv8) || (s1.Kind != 2))) rfl (or_t h14)).weaken _ ⟨rfl, rfl, rfl, trivial⟩⟩
  ·have hs := hs.fix 8 (.bool false) rfl (vb h14)
   refine st_val hs (y_fieldAddr (o' := 0) Try.runUnderlying45 rfl Try.sizeOf3 rfl rfl rfl) ⟨_, rfl, rfl⟩ rfl rfl fun a hs => ?_
   refine st_val hs (y_loadB1 (hw.ownAt 1 rfl) rfl Try.isAgg3 rfl) ⟨_, rfl, rfl⟩ rfl rfl fun a hs => ?_
   refine st_val hs (y_neq rfl rfl) ⟨_, rfl, rfl⟩ rfl rfl fun a hs => ?_
   refine st_val hs (y_pickF rfl rfl) trivial rfl rfl fun a hs => ?_
   refine wpList_nil ?_
   refine then_normal ?_
   exact ⟨rfl, (hs.fix 12 (.bool ((!rv8) || (s1.Kind != 2))) rfl (or_f h14)).weaken _ ⟨rfl, rfl, rfl, trivial⟩⟩
 ·rintro a w1 ⟨h44, hs⟩
  subst h44
  refine wpList_nil ?_
  refine then_normal ?_
  refine wp_cond_split (hs.ev rfl) (fun h16 => ?_) (fun h16 => ?_)
  ·have hsh := ite_t hsh h16
   refine wp_seq ?_
   refine wp_region_lit ?_
   refine st_val hs (y_build (vs := []) Bld28 rfl rfl) trivial rfl rfl fun a hs => ?_
   refine w_store (m := 3) (cs' := [.slice none ([] : List Int).length 0, .int .i64 0, .int .i64 0]) hs hw 0 rfl rfl rfl Try.sizeOf28 rfl rfl rfl rfl trivial ?_
   intro a w hs hw
   refine st_val hs (y_assign rfl) trivial rfl rfl fun a hs => ?_
   refine wpList_nil ?_
   refine then_normal ?_
   have hsh := Option.some.inj hsh
   subst hsh
   have hw := hw.nilRow Int 3
   refine wp_ret ?_
   refine then_ret ?_
   exact ret2 hs rfl (rv_cell hw 1 rfl rfl Try.isAgg28 Try.sizeOf28 rfl) (rv_tmp rfl) (hw.ret ⟨none, 0, [], rfl, (hw.outs [0] (by decide) rfl), (hw.envAt 0 rfl)⟩)
  ·have hsh := ite_f hsh h16
   refine wp_skip ?_
   refine then_normal ?_
   refine wp_seq ?_
   obtain ⟨rv18, h17, hsh⟩ := bind_t hsh
   refine wp_only (fun a w => ∃ (Sv24 : Nat → Prop) (b23 : Nat) (c22 : List Value) (k20 : Nat) (p19 : Option Addr), Sl 27 [(2, .pointer (some ⟨b6, 0, none⟩)), (4, .pointer (some ⟨b23, 0, none⟩))] a ∧ Wd ⟨w0, S0, []⟩ Sv24 [.box b6 [.slice none ([] : List Int).length 0, .int .i64 0, .int .i64 0] 28, .box b23 [.slice p19 rv18.length k20, .int .i64 s1.Factor, .int .i64 s1.Shift] 28, .row p19 rv18.length k20 c22 3 1] [SlA none ([] : List Int).length 0 ([] : List Int), RowA c22 rv18] w) ?_ ?_
   ·refine h_b (C := Cls [.box b6 [.slice none ([] : List Int).length 0, .int .i64 0, .int .i64 0] 28, .box b5 [.int .i64 s1.Kind, .int .i64 s1.Num.e0, .int .i64 s1.Num.e1, .int .i64 s1.Num.e2, .int .i64 s1.Den.e0, .int .i64 s1.Den.e1, .int .i64 s1.Den.e2, .slice p2 s1.Taps.length k3, .int .i64 s1.Factor, .int .i64 s1.Shift] 45] []) (by kernel_rfl) rfl (hw.drew.cs [0, 1] [] rfl rfl) fun hC => ?_
    have hw := hw.drew
    refine h_g hs 0 rfl (by kernel_rfl) rfl rfl hC rfl (fun w hC => y_fieldAddr (o' := 7) Try.runUnderlying45 rfl Try.sizeOf22 rfl rfl rfl) fun a hs => ?_
    refine h_g hs 1 rfl (by kernel_rfl) rfl rfl hC rfl (fun w hC => y_loadB1 (hC.ownAt 1 rfl) rfl Try.isAgg22 rfl) fun a hs => ?_
    refine h_g hs 3 rfl (by kernel_rfl) rfl rfl hC rfl (fun w hC => y_fieldAddr (o' := 8) Try.runUnderlying45 rfl Try.sizeOf3 rfl rfl rfl) fun a hs => ?_
    refine h_g hs 4 rfl (by kernel_rfl) rfl rfl hC rfl (fun w hC => y_loadB1 (hC.ownAt 1 rfl) rfl Try.isAgg3 rfl) fun a hs => ?_
    refine h_g hs 5 rfl (by kernel_rfl) rfl rfl hC rfl (fun w hC => y_fieldAddr (o' := 9) Try.runUnderlying45 rfl Try.sizeOf3 rfl rfl rfl) fun a hs => ?_
    refine h_g hs 6 rfl (by kernel_rfl) rfl rfl hC rfl (fun w hC => y_loadB1 (hC.ownAt 1 rfl) rfl Try.isAgg3 rfl) fun a hs => ?_
    refine h_all (rs := [2, 8]) (by kernel_rfl) rfl ?_
    refine AllH.cons rfl ?_ ?_
    ·refine st_callR hs (slices_Clone_Lint_int_ok h17 hw.dom (hw.envAt 0 rfl)) (do_call Try.call45 rfl) trivial rfl rfl ?_
     intro v28 Sv25 w a h26 h27 hs
     obtain ⟨p19, k20, c22, rfl, h29, h21⟩ := h27
     have hw := hw.callN h26 h29
     have hw := hw.addE (e := RowA c22 rv18) h21
     refine h_nx (hw.cs [1, 2] [] rfl rfl) fun hC => ?_
     refine h_st (C' := Cls [.box b6 [.slice none ([] : List Int).length 0, .int .i64 0, .int .i64 0] 28, .box b5 [.int .i64 s1.Kind, .int .i64 s1.Num.e0, .int .i64 s1.Num.e1, .int .i64 s1.Num.e2, .int .i64 s1.Den.e0, .int .i64 s1.Den.e1, .int .i64 s1.Den.e2, .slice p2 s1.Taps.length k3, .int .i64 s1.Factor, .int .i64 s1.Shift] 45, .row p19 rv18.length k20 c22 3 1] []) (fun _ h => by exact h.sub [0, 1] (Sel.of rfl) (AllIn.of [] rfl)) (hw.cs [1, 2, 0] [] rfl rfl) fun hC => ?_
     refine h_g hs 7 rfl (by kernel_rfl) rfl rfl hC rfl (fun w hC => y_build (vs := [(0, .slice p19 rv18.length k20), (1, .int .i64 s1.Factor), (2, .int .i64 s1.Shift)]) Bld28 rfl rfl) fun a hs => ?_
     refine h_one (i := 8) (by kernel_rfl) rfl ?_
     refine w_alloc (cs := [.slice none ([] : List Int).length 0, .int .i64 0, .int .i64 0]) hs hw Try.zeroValue28 rfl rfl trivial ?_
     intro b23 a w hs hw
     refine h_nx (hw.cs [2, 3, 1] [] rfl rfl) fun hC => ?_
     refine h_one (i := 9) (by kernel_rfl) rfl ?_
     refine w_store (m := 3) (cs' := [.slice p19 rv18.length k20, .int .i64 s1.Factor, .int .i64 s1.Shift]) hs hw 0 rfl rfl rfl Try.sizeOf28 rfl rfl rfl rfl trivial ?_
     intro a w hs hw
     refine h_nx (hw.cs [2, 3, 1] [] rfl rfl) fun hC => ?_
     refine h_done (by kernel_rfl) ?_
     have hw := hw.addE (e := SlA (α := Int) none 0 0 []) nil_sl
     exact ⟨Sv25, b23, c22, k20, p19, (hs.wk rfl), (hw.ft [2, 0, 1] [0, 1] (by decide) rfl rfl)⟩
    refine AllH.cons rfl ?_ ?_
    ·refine w_alloc (cs := [.slice none ([] : List Int).length 0, .int .i64 0, .int .i64 0]) hs hw Try.zeroValue28 rfl rfl trivial ?_
     intro b23 a w hs hw
     refine h_nx (hw.cs [1, 2] [] rfl rfl) fun hC => ?_
     refine h_one (i := 2) (by kernel_rfl) rfl ?_
     refine st_callR hs (slices_Clone_Lint_int_ok h17 hw.dom (hw.envAt 0 rfl)) (do_call Try.call45 rfl) trivial rfl rfl ?_
     intro v33 Sv30 w a h31 h32 hs
     obtain ⟨p19, k20, c22, rfl, h34, h21⟩ := h32
     have hw := hw.callN h31 h34
     have hw := hw.addE (e := RowA c22 rv18) h21
     refine h_nx (hw.cs [2, 3] [] rfl rfl) fun hC => ?_
     refine h_st (C' := Cls [.box b6 [.slice none ([] : List Int).length 0, .int .i64 0, .int .i64 0] 28, .box b5 [.int .i64 s1.Kind, .int .i64 s1.Num.e0, .int .i64 s1.Num.e1, .int .i64 s1.Num.e2, .int .i64 s1.Den.e0, .int .i64 s1.Den.e1, .int .i64 s1.Den.e2, .slice p2 s1.Taps.length k3, .int .i64 s1.Factor, .int .i64 s1.Shift] 45, .row p19 rv18.length k20 c22 3 1] []) (fun _ h => by exact h.sub [0, 1] (Sel.of rfl) (AllIn.of [] rfl)) (hw.cs [2, 3, 0] [] rfl rfl) fun hC => ?_
     refine h_g hs 7 rfl (by kernel_rfl) rfl rfl hC rfl (fun w hC => y_build (vs := [(0, .slice p19 rv18.length k20), (1, .int .i64 s1.Factor), (2, .int .i64 s1.Shift)]) Bld28 rfl rfl) fun a hs => ?_
     refine h_one (i := 9) (by kernel_rfl) rfl ?_
     refine w_store (m := 3) (cs' := [.slice p19 rv18.length k20, .int .i64 s1.Factor, .int .i64 s1.Shift]) hs hw 1 rfl rfl rfl Try.sizeOf28 rfl rfl rfl rfl trivial ?_
     intro a w hs hw
     refine h_nx (hw.cs [2, 3, 0] [] rfl rfl) fun hC => ?_
     refine h_done (by kernel_rfl) ?_
     have hw := hw.addE (e := SlA (α := Int) none 0 0 []) nil_sl
     exact ⟨Sv30, b23, c22, k20, p19, (hs.wk rfl), (hw.ft [2, 1, 0] [0, 1] (by decide) rfl rfl)⟩
    exact AllH.nil
   ·rintro a w ⟨Sv24, b23, c22, k20, p19, hs, hw⟩
    refine then_normal ?_
    refine wp_seq ?_
    refine wp_seq ?_
    refine wp_region_lit ?_
    refine st_val hs (y_loadBA (hw.ownAt 1 rfl) rfl Try.isAgg28 Try.sizeOf28 rfl rfl) trivial rfl rfl fun a hs => ?_
    obtain ⟨rv36, h35, hsh⟩ := bind_t hsh
    refine st_callR hs (filter_Valid_ok h35 hw.bdom (hw.bRow 2 rfl 1 rfl)) (do_call Try.call32 rfl) trivial rfl rfl ?_
    intro v40 Sv37 w a h38 h39 hs
    subst h39
    have hw := hw.callB h38
    refine st_val hs (y_not rfl) trivial rfl rfl fun a hs => ?_
    refine wpList_nil ?_
    refine then_normal ?_
    refine wp_cond_split (hs.ev rfl) (fun h43 => ?_) (fun h43 => ?_)
    ·have hsh := ite_t hsh h43
     refine wp_seq ?_
     refine wp_region_lit ?_
     refine st_val hs (y_build (vs := []) Bld28 rfl rfl) trivial rfl rfl fun a hs => ?_
     refine w_store (m := 3) (cs' := [.slice none ([] : List Int).length 0, .int .i64 0, .int .i64 0]) hs hw 0 rfl rfl rfl Try.sizeOf28 rfl rfl rfl rfl trivial ?_
     intro a w hs hw
     refine st_val hs (y_assign rfl) trivial rfl rfl fun a hs => ?_
     refine wpList_nil ?_
     refine then_normal ?_
     have hsh := Option.some.inj hsh
     subst hsh
     have hw := hw.nilRow Int 3
     refine wp_ret ?_
     refine then_ret ?_
     exact ret2 hs rfl (rv_cell hw 1 rfl rfl Try.isAgg28 Try.sizeOf28 rfl) (rv_tmp rfl) (hw.ret ⟨none, 0, [], rfl, (hw.outs [0] (by decide) rfl), (hw.envAt 0 rfl)⟩)
    ·have hsh := ite_f hsh h43
     refine wp_skip ?_
     refine then_normal ?_
     refine wp_seq ?_
     refine wp_region_lit ?_
     refine st_val hs (y_loadBA (hw.ownAt 1 rfl) rfl Try.isAgg28 Try.sizeOf28 rfl rfl) trivial rfl rfl fun a hs => ?_
     refine w_store (m := 3) (cs' := [.slice p19 rv18.length k20, .int .i64 s1.Factor, .int .i64 s1.Shift]) hs hw 0 rfl rfl rfl Try.sizeOf28 rfl rfl rfl rfl trivial ?_
     intro a w hs hw
     refine st_val hs (y_assign rfl) trivial rfl rfl fun a hs => ?_
     refine wpList_nil ?_
     refine then_normal ?_
     have hsh := Option.some.inj hsh
     subst hsh
     refine wp_ret ?_
     exact ret2 hs rfl (rv_cell hw 0 rfl rfl Try.isAgg28 Try.sizeOf28 rfl) (rv_tmp rfl) (hw.ret ⟨p19, k20, c22, rfl, (hw.outs [2] (by decide) rfl), (hw.envAt 1 rfl)⟩)

abbrev ref21_Same_rd (w0 : World) (X : List Nat) (r : Bool) : (Nat → Prop) → World → Value → Prop := fun S w v => v = .bool r
set_option maxHeartbeats 4000000 in
set_option maxRecDepth 100000 in
theorem ref21_Same_ok {w0 : World} {S0 : Nat → Prop} {p2 : Option Addr} {k3 : Nat} {p6 : Option Addr} {k7 : Nat} {a1 : Filter} {b5 : Filter} {r : Bool} (hsh : ref21_Same a1 b5 = some r) (hS : ∀ b, S0 b → b < w0.heap.size) (h4 : (SlA p2 a1.Taps.length k3 a1.Taps).p S0 w0) (h8 : (SlA p6 b5.Taps.length k7 b5.Taps).p S0 w0) : Calls Try.prog 19 #[.agg #[.slice p2 a1.Taps.length k3, .int .i64 a1.Factor, .int .i64 a1.Shift], .agg #[.slice p6 b5.Taps.length k7, .int .i64 b5.Factor, .int .i64 b5.Shift]] w0 (Ret ([]) w0 S0 (ref21_Same_rd w0 ([]) r)) := by
 refine calls_of_wp Try.func19 rfl ?_
 have hs := Sl.enter #[.agg #[.slice p2 a1.Taps.length k3, .int .i64 a1.Factor, .int .i64 a1.Shift], .agg #[.slice p6 b5.Taps.length k7, .int .i64 b5.Factor, .int .i64 b5.Shift]] 24 [(0, .agg #[.slice p2 a1.Taps.length k3, .int .i64 a1.Factor, .int .i64 a1.Shift]), (1, .agg #[.slice p6 b5.Taps.length k7, .int .i64 b5.Factor, .int .i64 b5.Shift])] rfl ⟨rfl, rfl, trivial⟩
 have hw := Wd.enter (E := []) hS (fun _ h => (by cases h))
 have hw := hw.addE h4
 have hw := hw.addE h8
 delta ref21_Same at hsh
 refine wp_seq ?_
 refine wp_region_lit ?_
 refine w_box (cs := [.slice p2 a1.Taps.length k3, .int .i64 a1.Factor, .int .i64 a1.Shift]) hs hw rfl rfl rfl trivial ?_
 intro b9 a w hs hw
 refine w_box (cs := [.slice p6 b5.Taps.length k7, .int .i64 b5.Factor, .int .i64 b5.Shift]) hs hw rfl rfl rfl trivial ?_
 intro b10 a w hs hw
 refine st_val hs (y_assign rfl) trivial rfl rfl fun a hs => ?_
 refine wpList_nil ?_
 refine then_normal ?_
 refine wp_seq ?_
 refine wp_region_lit ?_
 refine st_val hs (y_fieldAddr (o' := 1) Try.runUnderlying28 rfl Try.sizeOf3 rfl rfl rfl) trivial rfl rfl fun a hs => ?_
 refine st_val hs (y_loadB1 (hw.ownAt 1 rfl) rfl Try.isAgg3 rfl) trivial rfl rfl fun a hs => ?_
 refine st_val hs (y_fieldAddr (o' := 1) Try.runUnderlying28 rfl Try.sizeOf3 rfl rfl rfl) trivial rfl rfl fun a hs => ?_
 refine st_val hs (y_loadB1 (hw.ownAt 0 rfl) rfl Try.isAgg3 rfl) trivial rfl rfl fun a hs => ?_
 refine st_val hs (y_eql rfl rfl) trivial rfl rfl fun a hs => ?_
 refine st_val hs (y_move rfl) trivial rfl rfl fun a hs => ?_
 refine wpl_join 6 (fun a w1 => w = w1 ∧ Sl 24 [(2, .pointer (some ⟨b9, 0, none⟩)), (3, .pointer (some ⟨b10, 0, none⟩)), (16, .bool ((a1.Factor == b5.Factor) && (a1.Shift == b5.Shift)))] a) ?_ ?_
 ·rcases Bool.eq_false_or_eq_true (a1.Factor == b5.Factor) with h11 | h11
  ·have hs := hs.fix 10 (.bool true) rfl (vb h11)
   refine st_val hs (y_fieldAddr (o' := 2) Try.runUnderlying28 rfl Try.sizeOf3 rfl rfl rfl) ⟨_, rfl, rfl⟩ rfl rfl fun a hs => ?_
   refine st_val hs (y_loadB1 (hw.ownAt 1 rfl) rfl Try.isAgg3 rfl) ⟨_, rfl, rfl⟩ rfl rfl fun a hs => ?_
   refine st_val hs (y_fieldAddr (o' := 2) Try.runUnderlying28 rfl Try.sizeOf3 rfl rfl rfl) ⟨_, rfl, rfl⟩ rfl rfl fun a hs => ?_
   refine st_val hs (y_loadB1 (hw.ownAt 0 rfl) rfl Try.isAgg3 rfl) ⟨_, rfl, rfl⟩ rfl rfl fun a hs => ?_
   refine st_val hs (y_eql rfl rfl) ⟨_, rfl, rfl⟩ rfl rfl fun a hs => ?_
   refine st_val hs (y_pickT rfl rfl) trivial rfl rfl fun a hs => ?_
   refine wpList_nil ?_
   refine then_normal ?_
   exact ⟨rfl, (hs.fix 16 (.bool ((a1.Factor == b5.Factor) && (a1.Shift == b5.Shift))) rfl (and_t h11)).weaken _ ⟨rfl, rfl, rfl, trivial⟩⟩
  ·have hs := hs.fix 10 (.bool false) rfl (vb h11)
   refine st_skip hs rfl rfl rfl rfl rfl fun a hs => ?_
   refine st_skip hs rfl rfl rfl rfl rfl fun a hs => ?_
   refine st_skip hs rfl rfl rfl rfl rfl fun a hs => ?_
   refine st_skip hs rfl rfl rfl rfl rfl fun a hs => ?_
   refine st_skip hs rfl rfl rfl rfl rfl fun a hs => ?_
   refine st_val hs (y_pickF rfl rfl) trivial rfl rfl fun a hs => ?_
   refine wpList_nil ?_
   refine then_normal ?_
   exact ⟨rfl, (hs.fix 16 (.bool ((a1.Factor == b5.Factor) && (a1.Shift == b5.Shift))) rfl (and_f h11)).weaken _ ⟨rfl, rfl, rfl, trivial⟩⟩
 ·rintro a w1 ⟨h29, hs⟩
  subst h29
  refine st_val hs (y_move rfl) trivial rfl rfl fun a hs => ?_
  obtain ⟨c20, hc20, hsh⟩ := bind_t hsh
  refine wpl_join 6 (fun a w => ∃ (Sv21 : Nat → Prop), Sl 24 [(23, .bool c20)] a ∧ Wd ⟨w0, S0, []⟩ Sv21 [] [] w) ?_ ?_
  ·rcases Bool.eq_false_or_eq_true ((a1.Factor == b5.Factor) && (a1.Shift == b5.Shift)) with h19 | h19
   ·have hs := hs.fix 17 (.bool true) rfl (vb h19)
    have hsh := ite_t hc20 h19
    refine st_val hs (y_fieldAddr (o' := 0) Try.runUnderlying28 rfl Try.sizeOf22 rfl rfl rfl) ⟨_, rfl, rfl⟩ rfl rfl fun a hs => ?_
    refine st_val hs (y_loadB1 (hw.ownAt 1 rfl) rfl Try.isAgg22 rfl) ⟨_, rfl, rfl⟩ rfl rfl fun a hs => ?_
    refine st_val hs (y_fieldAddr (o' := 0) Try.runUnderlying28 rfl Try.sizeOf22 rfl rfl rfl) ⟨_, rfl, rfl⟩ rfl rfl fun a hs => ?_
    refine st_val hs (y_loadB1 (hw.ownAt 0 rfl) rfl Try.isAgg22 rfl) ⟨_, rfl, rfl⟩ rfl rfl fun a hs => ?_
    obtain ⟨rv23, h22, hsh⟩ := bind_t hsh
    refine st_callR hs (ref05_Same_ok h22 hw.bdom (hw.bE 1 rfl) (hw.bE 0 rfl)) (do_call Try.call23 rfl) ⟨_, rfl, rfl⟩ rfl rfl ?_
    intro v27 Sv24 w a h25 h26 hs
    subst h26
    have hw := hw.callB h25
    refine st_val hs (y_pickT rfl rfl) trivial rfl rfl fun a hs => ?_
    refine wpList_nil ?_
    have hsh := Option.some.inj hsh
    subst hsh
    refine then_normal ?_
    exact ⟨S0, (hs.wk rfl), (hw.ft [] [] (by decide) rfl rfl)⟩
   ·have hs := hs.fix 17 (.bool false) rfl (vb h19)
    have hsh := ite_f hc20 h19
    refine st_skip hs rfl rfl rfl rfl rfl fun a hs => ?_
    refine st_skip hs rfl rfl rfl rfl rfl fun a hs => ?_
    refine st_skip hs rfl rfl rfl rfl rfl fun a hs => ?_
    refine st_skip hs rfl rfl rfl rfl rfl fun a hs => ?_
    refine st_skip hs rfl rfl rfl rfl rfl fun a hs => ?_
    refine st_val hs (y_pickF rfl rfl) trivial rfl rfl fun a hs => ?_
    refine wpList_nil ?_
    have hsh := Option.some.inj hsh
    subst hsh
    refine then_normal ?_
    exact ⟨S0, (hs.wk rfl), (hw.ft [] [] (by decide) rfl rfl)⟩
  ·rintro a w ⟨Sv21, hs, hw⟩
   refine st_val hs (y_assign rfl) trivial rfl rfl fun a hs => ?_
   refine wpList_nil ?_
   refine then_normal ?_
   have hsh := Option.some.inj hsh
   subst hsh
   refine wp_ret ?_
   exact ret1 hs rfl (rv_tmp rfl) (hw.ret rfl)

end Go.Proofs.Ytmihimhknllmcaa.Wk

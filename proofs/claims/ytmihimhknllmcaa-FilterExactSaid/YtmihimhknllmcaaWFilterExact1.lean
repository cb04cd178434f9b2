/- The walks of FilterExact, part 1: each Go function computes what its plain program computes. Printed by a program of ours. -/
import Derived.Test.YtmihimhknllmcaaProg
import Derived.Test.YtmihimhknllmcaaDat
import Derived.Test.YtmihimhknllmcaaSh
import Derived.Test.YtmihimhknllmcaaLibL
import Derived.KernelRfl
namespace Go.Proofs.Ytmihimhknllmcaa.Wk
open Go Go.RowKit Go.Proofs Go.Proofs.Ytmihimhknllmcaa.Sh
set_option linter.unusedVariables false
set_option linter.unusedSimpArgs false

theorem El22 : ElT Try.prog 22 3 1 8 (.int .i64 0) := ⟨Try.underlying22, ⟨Try.t3, info_of Try.type3, rfl, rfl, rfl⟩, rfl, by decide⟩
theorem El68 : ElT Try.prog 68 28 3 40 (.agg #[.slice none ([] : List Int).length 0, .int .i64 0, .int .i64 0]) := ⟨Try.underlying68, ⟨Try.t28, info_of Try.type28, rfl, rfl, rfl⟩, rfl, by decide⟩
theorem El69 : ElT Try.prog 69 22 1 24 (.slice none ([] : List Int).length 0) := ⟨Try.underlying69, ⟨Try.t22, info_of Try.type22, rfl, rfl, rfl⟩, rfl, by decide⟩
theorem El70 : ElT Try.prog 70 51 5 72 (.agg #[.slice none ([] : List Int).length 0, .int .i64 0, .int .i64 0, .slice none ([] : List Int).length 0, .int .i64 0]) := ⟨Try.underlying70, ⟨Try.t51, info_of Try.type51, rfl, rfl, rfl⟩, rfl, by decide⟩
theorem El72 : ElT Try.prog 72 45 10 96 (.agg #[.int .i64 0, .int .i64 0, .int .i64 0, .int .i64 0, .int .i64 0, .int .i64 0, .int .i64 0, .slice none ([] : List Int).length 0, .int .i64 0, .int .i64 0]) := ⟨Try.underlying72, ⟨Try.t45, info_of Try.type45, rfl, rfl, rfl⟩, rfl, by decide⟩
theorem Bld28 : BldT Try.prog 28 ((#[(0, 1), (1, 1), (2, 1)] : Array (Nat × Nat))[·]?) [.slice none ([] : List Int).length 0, .int .i64 0, .int .i64 0] := bld_of Try.zeroValue28 rfl Try.runUnderlying28 (fun w => by simp [Try.sizeOf3, Try.sizeOf22])
theorem Bld43 : BldT Try.prog 43 (fun i => some (i * 1, 1)) [.int .i64 0, .int .i64 0, .int .i64 0] := bld_arr Try.zeroValue43 rfl Try.runUnderlying43 Try.sizeOf3
theorem Bld45 : BldT Try.prog 45 ((#[(0, 1), (1, 3), (4, 3), (7, 1), (8, 1), (9, 1)] : Array (Nat × Nat))[·]?) [.int .i64 0, .int .i64 0, .int .i64 0, .int .i64 0, .int .i64 0, .int .i64 0, .int .i64 0, .slice none ([] : List Int).length 0, .int .i64 0, .int .i64 0] := bld_of Try.zeroValue45 rfl Try.runUnderlying45 (fun w => by simp [Try.sizeOf3, Try.sizeOf22, Try.sizeOf43])
theorem Bld51 : BldT Try.prog 51 ((#[(0, 3), (3, 1), (4, 1)] : Array (Nat × Nat))[·]?) [.slice none ([] : List Int).length 0, .int .i64 0, .int .i64 0, .slice none ([] : List Int).length 0, .int .i64 0] := bld_of Try.zeroValue51 rfl Try.runUnderlying51 (fun w => by simp [Try.sizeOf3, Try.sizeOf22, Try.sizeOf28])
theorem Bld75 : BldT Try.prog 75 ((#[(0, 1), (1, 1)] : Array (Nat × Nat))[·]?) [.slice none ([] : List Int).length 0, .int .i64 0] := bld_of Try.zeroValue75 rfl Try.runUnderlying75 (fun w => by simp [Try.sizeOf3, Try.sizeOf22])

abbrev made_Light_rd (w0 : World) (X : List Nat) (r : Bool) : (Nat → Prop) → World → Value → Prop := fun S w v => v = .bool r
set_option maxHeartbeats 4000000 in
set_option maxRecDepth 100000 in
theorem made_Light_ok {w0 : World} {S0 : Nat → Prop} {p2 : Option Addr} {k3 : Nat} {l1 : (List Int)} {r : Bool} (hsh : made_Light l1 = some r) (hS : ∀ b, S0 b → b < w0.heap.size) (h4 : (SlA p2 l1.length k3 l1).p S0 w0) : Calls Try.prog 10 #[.slice p2 l1.length k3] w0 (Ret ([]) w0 S0 (made_Light_rd w0 ([]) r)) := by
 refine calls_of_wp Try.func10 rfl ?_
 have hs := Sl.enter #[.slice p2 l1.length k3] 6 [(0, .slice p2 l1.length k3)] rfl ⟨rfl, trivial⟩
 have hw := Wd.enter (E := []) hS (fun _ h => (by cases h))
 have hw := hw.addE h4
 delta made_Light at hsh
 refine wp_seq ?_
 refine wp_region_lit ?_
 refine st_val hs (y_assign rfl) trivial rfl rfl fun a hs => ?_
 refine wpList_nil ?_
 refine then_normal ?_
 refine wp_seq ?_
 refine wp_region_lit ?_
 refine st_val hs (y_move rfl) trivial rfl rfl fun a hs => ?_
 refine st_val hs (y_len Try.runUnderlying22 rfl) trivial rfl rfl fun a hs => ?_
 refine st_val hs (y_leq rfl rfl) trivial rfl rfl fun a hs => ?_
 refine st_val hs (y_assign rfl) trivial rfl rfl fun a hs => ?_
 refine wpList_nil ?_
 refine then_normal ?_
 have hsh := Option.some.inj hsh
 subst hsh
 refine wp_ret ?_
 exact ret1 hs rfl (rv_tmp rfl) (hw.ret rfl)

abbrev filter_in_rd (w0 : World) (X : List Nat) (r : Bool) : (Nat → Prop) → World → Value → Prop := fun S w v => v = .bool r
set_option maxHeartbeats 4000000 in
set_option maxRecDepth 100000 in
theorem filter_in_ok {w0 : World} {S0 : Nat → Prop} {n1 : Int} {low2 : Int} {high3 : Int} {r : Bool} (hsh : filter_in n1 low2 high3 = some r) (hS : ∀ b, S0 b → b < w0.heap.size) : Calls Try.prog 46 #[.int .i64 n1, .int .i64 low2, .int .i64 high3] w0 (Ret ([]) w0 S0 (filter_in_rd w0 ([]) r)) := by
 refine calls_of_wp Try.func46 rfl ?_
 have hs := Sl.enter #[.int .i64 n1, .int .i64 low2, .int .i64 high3] 15 [(0, .int .i64 n1), (1, .int .i64 low2), (2, .int .i64 high3)] rfl ⟨rfl, rfl, rfl, trivial⟩
 have hw := Wd.enter (E := []) hS (fun _ h => (by cases h))
 delta filter_in at hsh
 refine wp_seq ?_
 refine wp_region_lit ?_
 refine st_val hs (y_assign rfl) trivial rfl rfl fun a hs => ?_
 refine wpList_nil ?_
 refine then_normal ?_
 refine wp_seq ?_
 refine wp_region_lit ?_
 refine st_val hs (y_move rfl) trivial rfl rfl fun a hs => ?_
 refine st_val hs (y_move rfl) trivial rfl rfl fun a hs => ?_
 refine st_val hs (y_geq rfl rfl) trivial rfl rfl fun a hs => ?_
 refine st_val hs (y_move rfl) trivial rfl rfl fun a hs => ?_
 refine wpl_join 4 (fun a w1 => w0 = w1 ∧ Sl 15 [(14, .bool ((decide (low2 ≤ n1)) && (decide (n1 ≤ high3))))] a) ?_ ?_
 ·rcases Bool.eq_false_or_eq_true (decide (low2 ≤ n1)) with h4 | h4
  ·have hs := hs.fix 10 (.bool true) rfl (vb h4)
   refine st_val hs (y_move rfl) ⟨_, rfl, rfl⟩ rfl rfl fun a hs => ?_
   refine st_val hs (y_move rfl) ⟨_, rfl, rfl⟩ rfl rfl fun a hs => ?_
   refine st_val hs (y_leq rfl rfl) ⟨_, rfl, rfl⟩ rfl rfl fun a hs => ?_
   refine st_val hs (y_pickT rfl rfl) trivial rfl rfl fun a hs => ?_
   refine wpList_nil ?_
   refine then_normal ?_
   exact ⟨rfl, (hs.fix 14 (.bool ((decide (low2 ≤ n1)) && (decide (n1 ≤ high3)))) rfl (and_t h4)).weaken _ ⟨rfl, trivial⟩⟩
  ·have hs := hs.fix 10 (.bool false) rfl (vb h4)
   refine st_skip hs rfl rfl rfl rfl rfl fun a hs => ?_
   refine st_skip hs rfl rfl rfl rfl rfl fun a hs => ?_
   refine st_skip hs rfl rfl rfl rfl rfl fun a hs => ?_
   refine st_val hs (y_pickF rfl rfl) trivial rfl rfl fun a hs => ?_
   refine wpList_nil ?_
   refine then_normal ?_
   exact ⟨rfl, (hs.fix 14 (.bool ((decide (low2 ≤ n1)) && (decide (n1 ≤ high3)))) rfl (and_f h4)).weaken _ ⟨rfl, trivial⟩⟩
 ·rintro a w1 ⟨h5, hs⟩
  subst h5
  refine st_val hs (y_assign rfl) trivial rfl rfl fun a hs => ?_
  refine wpList_nil ?_
  refine then_normal ?_
  have hsh := Option.some.inj hsh
  subst hsh
  refine wp_ret ?_
  exact ret1 hs rfl (rv_tmp rfl) (hw.ret rfl)

abbrev filter_Valid_rd (w0 : World) (X : List Nat) (r : Bool) : (Nat → Prop) → World → Value → Prop := fun S w v => v = .bool r
set_option maxHeartbeats 4000000 in
set_option maxRecDepth 100000 in
theorem filter_Valid_ok {w0 : World} {S0 : Nat → Prop} {p2 : Option Addr} {k3 : Nat} {f1 : Filter} {r : Bool} (hsh : filter_Valid f1 = some r) (hS : ∀ b, S0 b → b < w0.heap.size) (h4 : (SlA p2 f1.Taps.length k3 f1.Taps).p S0 w0) : Calls Try.prog 32 #[.agg #[.slice p2 f1.Taps.length k3, .int .i64 f1.Factor, .int .i64 f1.Shift]] w0 (Ret ([]) w0 S0 (filter_Valid_rd w0 ([]) r)) := by
 refine calls_of_wp Try.func32 rfl ?_
 have hs := Sl.enter #[.agg #[.slice p2 f1.Taps.length k3, .int .i64 f1.Factor, .int .i64 f1.Shift]] 45 [(0, .agg #[.slice p2 f1.Taps.length k3, .int .i64 f1.Factor, .int .i64 f1.Shift])] rfl ⟨rfl, trivial⟩
 have hw := Wd.enter (E := []) hS (fun _ h => (by cases h))
 have hw := hw.addE h4
 delta filter_Valid at hsh
 refine wp_seq ?_
 refine wp_region_lit ?_
 refine w_box (cs := [.slice p2 f1.Taps.length k3, .int .i64 f1.Factor, .int .i64 f1.Shift]) hs hw rfl rfl rfl trivial ?_
 intro b5 a w hs hw
 refine st_val hs (y_assign rfl) trivial rfl rfl fun a hs => ?_
 refine wpList_nil ?_
 refine then_normal ?_
 refine wp_seq ?_
 refine wp_seq ?_
 refine wp_region_lit ?_
 refine st_val hs (y_fieldAddr (o' := 0) Try.runUnderlying28 rfl Try.sizeOf22 rfl rfl rfl) trivial rfl rfl fun a hs => ?_
 refine st_val hs (y_loadB1 (hw.ownAt 0 rfl) rfl Try.isAgg22 rfl) trivial rfl rfl fun a hs => ?_
 refine st_val hs (y_len Try.runUnderlying22 rfl) trivial rfl rfl fun a hs => ?_
 obtain ⟨rv7, h6, hsh⟩ := bind_t hsh
 refine st_callR hs (filter_in_ok h6 hw.bdom) (do_call Try.call46 rfl) trivial rfl rfl ?_
 intro v11 Sv8 w a h9 h10 hs
 subst h10
 have hw := hw.callB h9
 refine st_val hs (y_not rfl) trivial rfl rfl fun a hs => ?_
 refine st_val hs (y_move rfl) trivial rfl rfl fun a hs => ?_
 obtain ⟨c21, hc21, hsh⟩ := bind_t hsh
 refine wpl_join 5 (fun a w => ∃ (Sv22 : Nat → Prop), Sl 45 [(1, .pointer (some ⟨b5, 0, none⟩)), (16, .bool c21)] a ∧ Wd ⟨w0, S0, []⟩ Sv22 [.box b5 [.slice p2 f1.Taps.length k3, .int .i64 f1.Factor, .int .i64 f1.Shift] 28] [SlA p2 f1.Taps.length k3 f1.Taps] w) ?_ ?_
 ·rcases Bool.eq_false_or_eq_true (!rv7) with h20 | h20
  ·have hs := hs.fix 11 (.bool true) rfl (vb h20)
   have hsh := ite_t hc21 h20
   refine st_skip hs rfl rfl rfl rfl rfl fun a hs => ?_
   refine st_skip hs rfl rfl rfl rfl rfl fun a hs => ?_
   refine st_skip hs rfl rfl rfl rfl rfl fun a hs => ?_
   refine st_skip hs rfl rfl rfl rfl rfl fun a hs => ?_
   refine st_val hs (y_pickT rfl rfl) trivial rfl rfl fun a hs => ?_
   refine wpList_nil ?_
   have hsh := Option.some.inj hsh
   subst hsh
   refine then_normal ?_
   exact ⟨S0, (hs.wk rfl), (hw.ft [0] [0] (by decide) rfl rfl)⟩
  ·have hs := hs.fix 11 (.bool false) rfl (vb h20)
   have hsh := ite_f hc21 h20
   refine st_val hs (y_fieldAddr (o' := 2) Try.runUnderlying28 rfl Try.sizeOf3 rfl rfl rfl) ⟨_, rfl, rfl⟩ rfl rfl fun a hs => ?_
   refine st_val hs (y_loadB1 (hw.ownAt 0 rfl) rfl Try.isAgg3 rfl) ⟨_, rfl, rfl⟩ rfl rfl fun a hs => ?_
   obtain ⟨rv24, h23, hsh⟩ := bind_t hsh
   refine st_callR hs (filter_in_ok h23 hw.bdom) (do_call Try.call46 rfl) ⟨_, rfl, rfl⟩ rfl rfl ?_
   intro v28 Sv25 w a h26 h27 hs
   subst h27
   have hw := hw.callB h26
   refine st_val hs (y_not rfl) ⟨_, rfl, rfl⟩ rfl rfl fun a hs => ?_
   refine st_val hs (y_pickF rfl rfl) trivial rfl rfl fun a hs => ?_
   refine wpList_nil ?_
   have hsh := Option.some.inj hsh
   subst hsh
   refine then_normal ?_
   exact ⟨S0, (hs.wk rfl), (hw.ft [0] [0] (by decide) rfl rfl)⟩
 ·rintro a w ⟨Sv22, hs, hw⟩
  refine st_val hs (y_move rfl) trivial rfl rfl fun a hs => ?_
  obtain ⟨c38, hc38, hsh⟩ := bind_t hsh
  refine wpl_join 5 (fun a w => ∃ (Sv39 : Nat → Prop), Sl 45 [(1, .pointer (some ⟨b5, 0, none⟩)), (22, .bool c38)] a ∧ Wd ⟨w0, S0, []⟩ Sv39 [.box b5 [.slice p2 f1.Taps.length k3, .int .i64 f1.Factor, .int .i64 f1.Shift] 28] [SlA p2 f1.Taps.length k3 f1.Taps] w) ?_ ?_
  ·rcases Bool.eq_false_or_eq_true c21 with h37 | h37
   ·have hs := hs.fix 17 (.bool true) rfl (vb h37)
    have hsh := ite_t hc38 h37
    refine st_skip hs rfl rfl rfl rfl rfl fun a hs => ?_
    refine st_skip hs rfl rfl rfl rfl rfl fun a hs => ?_
    refine st_skip hs rfl rfl rfl rfl rfl fun a hs => ?_
    refine st_skip hs rfl rfl rfl rfl rfl fun a hs => ?_
    refine st_val hs (y_pickT rfl rfl) trivial rfl rfl fun a hs => ?_
    refine wpList_nil ?_
    have hsh := Option.some.inj hsh
    subst hsh
    refine then_normal ?_
    exact ⟨Sv22, (hs.wk rfl), (hw.ft [0] [0] (by decide) rfl rfl)⟩
   ·have hs := hs.fix 17 (.bool false) rfl (vb h37)
    have hsh := ite_f hc38 h37
    refine st_val hs (y_fieldAddr (o' := 1) Try.runUnderlying28 rfl Try.sizeOf3 rfl rfl rfl) ⟨_, rfl, rfl⟩ rfl rfl fun a hs => ?_
    refine st_val hs (y_loadB1 (hw.ownAt 0 rfl) rfl Try.isAgg3 rfl) ⟨_, rfl, rfl⟩ rfl rfl fun a hs => ?_
    obtain ⟨rv41, h40, hsh⟩ := bind_t hsh
    refine st_callR hs (filter_in_ok h40 hw.bdom) (do_call Try.call46 rfl) ⟨_, rfl, rfl⟩ rfl rfl ?_
    intro v45 Sv42 w a h43 h44 hs
    subst h44
    have hw := hw.callB h43
    refine st_val hs (y_not rfl) ⟨_, rfl, rfl⟩ rfl rfl fun a hs => ?_
    refine st_val hs (y_pickF rfl rfl) trivial rfl rfl fun a hs => ?_
    refine wpList_nil ?_
    have hsh := Option.some.inj hsh
    subst hsh
    refine then_normal ?_
    exact ⟨Sv22, (hs.wk rfl), (hw.ft [0] [0] (by decide) rfl rfl)⟩
  ·rintro a w ⟨Sv39, hs, hw⟩
   refine wpList_nil ?_
   refine then_normal ?_
   refine wp_cond_split (hs.ev rfl) (fun h48 => ?_) (fun h48 => ?_)
   ·have hsh := ite_t hsh h48
    refine wp_seq ?_
    refine wp_region_lit ?_
    refine st_val hs (y_assign rfl) trivial rfl rfl fun a hs => ?_
    refine wpList_nil ?_
    refine then_normal ?_
    have hsh := Option.some.inj hsh
    subst hsh
    refine wp_ret ?_
    refine then_ret ?_
    exact ret1 hs rfl (rv_tmp rfl) (hw.ret rfl)
   ·have hsh := ite_f hsh h48
    refine wp_skip ?_
    refine then_normal ?_
    refine wp_seq ?_
    refine wp_region_lit ?_
    refine st_val hs (y_assign rfl) trivial rfl rfl fun a hs => ?_
    refine wpList_nil ?_
    refine then_normal ?_
    refine wp_seq ?_
    refine wp_seq ?_
    refine wp_region_lit ?_
    refine st_val hs (y_fieldAddr (o' := 0) Try.runUnderlying28 rfl Try.sizeOf22 rfl rfl rfl) trivial rfl rfl fun a hs => ?_
    refine st_val hs (y_loadB1 (hw.ownAt 0 rfl) rfl Try.isAgg22 rfl) trivial rfl rfl fun a hs => ?_
    refine st_val hs (y_len Try.runUnderlying22 rfl) trivial rfl rfl fun a hs => ?_
    refine st_val hs (y_move rfl) trivial rfl rfl fun a hs => ?_
    refine wpList_nil ?_
    refine then_normal ?_
    refine wp_block ?_
    refine wp_while (fun sv126 a w => ∃ (Sv176 : Nat → Prop), Sl 45 [(1, .pointer (some ⟨b5, 0, none⟩)), (3, .int .i64 sv126.1), (24, .slice p2 f1.Taps.length k3), (25, .int .i64 (f1.Taps.length : Int)), (26, .int .i64 sv126.2)] a ∧ Wd ⟨w0, S0, []⟩ Sv176 [.box b5 [.slice p2 f1.Taps.length k3, .int .i64 f1.Factor, .int .i64 f1.Shift] 28] [SlA p2 f1.Taps.length k3 f1.Taps] w) (0, 0) hsh ⟨Sv39, (hs.wk rfl), (hw.ft [0] [0] (by decide) rfl rfl)⟩ ?_
    repeat clear hsh
    rintro sv126 a w tv202 ⟨Sv176, hs, hw⟩ hsh hd201
    delta filter_Valid_l2 at hsh
    refine wp_seq ?_
    refine wp_region_lit ?_
    refine st_val hs (y_lss rfl rfl) trivial rfl rfl fun a hs => ?_
    refine wpList_nil ?_
    refine then_normal ?_
    refine wp_seq ?_
    refine wp_cond_split (hs.ev rfl) (fun h206 => ?_) (fun h206 => ?_)
    ·have hsh := ite_t hsh h206
     refine wp_skip ?_
     refine then_normal ?_
     refine wp_seq ?_
     refine wp_block ?_
     refine wp_seq ?_
     refine wp_region_lit ?_
     obtain ⟨x232, h230, hsh⟩ := bind_t hsh
     obtain ⟨b238, o239, q236, c237, h240, h233, h234, h235, h231⟩ := hw.elemV 0 rfl h230
     have hsv241 := hs
     have hwv242 := hw
     subst h240
     have hs := hsv241
     have hw := hwv242
     obtain ⟨_, rfl, rfl⟩ := h231
     have hw := hw.addE h235
     refine st_val hs (y_indexAt Try.runUnderlying22 Try.sizeOf3 rfl rfl h233.1 h233.2 h234) trivial rfl rfl fun a hs => ?_
     refine st_val hs (y_loadE1 (j := 0) (hw.ceAt 0 rfl) rfl Try.isAgg3 rfl) trivial rfl rfl fun a hs => ?_
     refine st_val hs (y_assign rfl) trivial rfl rfl fun a hs => ?_
     refine wpList_nil ?_
     refine then_normal ?_
     refine wp_seq ?_
     refine wp_seq ?_
     refine wp_region_lit ?_
     refine st_val hs (y_move rfl) trivial rfl rfl fun a hs => ?_
     obtain ⟨rv244, h243, hsh⟩ := bind_t hsh
     refine st_callR hs (filter_in_ok h243 hw.bdom) (do_call Try.call46 rfl) trivial rfl rfl ?_
     intro v248 Sv245 w a h246 h247 hs
     subst h247
     have hw := hw.callB h246
     refine st_val hs (y_not rfl) trivial rfl rfl fun a hs => ?_
     refine wpList_nil ?_
     refine then_normal ?_
     refine wp_cond_split (hs.ev rfl) (fun h251 => ?_) (fun h251 => ?_)
     ·have hsh := ite_t hsh h251
      refine wp_seq ?_
      refine wp_region_lit ?_
      refine st_val hs (y_assign rfl) trivial rfl rfl fun a hs => ?_
      refine wpList_nil ?_
      refine then_normal ?_
      have hsh := Option.some.inj hsh
      subst hsh
      have h252 := hd201 _ rfl
      subst h252
      refine wp_ret ?_
      refine then_ret ?_
      refine blk_ret ?_
      refine then_ret ?_
      refine then_ret ?_
      refine blk_ret ?_
      refine then_ret ?_
      exact ret1 hs rfl (rv_tmp rfl) (hw.ret rfl)
     ·have hsh := ite_f hsh h251
      refine wp_skip ?_
      refine then_normal ?_
      refine wp_region_lit ?_
      refine st_val hs (y_move rfl) trivial rfl rfl fun a hs => ?_
      refine st_val hs (y_move rfl) trivial rfl rfl fun a hs => ?_
      refine st_val hs (y_move rfl) trivial rfl rfl fun a hs => ?_
      refine st_val hs (y_neg rfl) trivial rfl rfl fun a hs => ?_
      refine st_val hs (y_max rfl rfl) trivial rfl rfl fun a hs => ?_
      refine st_val hs (y_add rfl rfl) trivial rfl rfl fun a hs => ?_
      obtain ⟨sum254, h253, hsh⟩ := bind_t hsh
      refine st_val hs (y_assignI rfl h253) trivial rfl rfl fun a hs => ?_
      refine wpList_nil ?_
      refine blk_normal ?_
      refine then_normal ?_
      refine wp_region_lit ?_
      refine st_val hs (y_add rfl rfl) trivial rfl rfl fun a hs => ?_
      refine st_val hs (y_move rfl) trivial rfl rfl fun a hs => ?_
      refine wpList_nil ?_
      refine then_normal ?_
      exact ⟨_, (Option.some.inj hsh).symm, Sv176, (hs.wk rfl), (hw.ft [0] [1] (by decide) rfl rfl)⟩
    ·have hsh := ite_f hsh h206
     obtain ⟨rv257, hsh, h258⟩ := map_t hsh
     have h258 := (hd201 _ h258.symm).symm
     subst h258
     refine wp_exit ?_
     refine then_exit ?_
     refine then_exit ?_
     refine blk_exit ?_
     refine then_normal ?_
     refine wp_seq ?_
     refine wp_region_lit ?_
     refine st_val hs (y_move rfl) trivial rfl rfl fun a hs => ?_
     refine st_val hs (y_fieldAddr (o' := 2) Try.runUnderlying28 rfl Try.sizeOf3 rfl rfl rfl) trivial rfl rfl fun a hs => ?_
     refine st_val hs (y_loadB1 (hw.ownAt 0 rfl) rfl Try.isAgg3 rfl) trivial rfl rfl fun a hs => ?_
     obtain ⟨shl256, h255, hsh⟩ := bind_t hsh
     refine st_val hs (y_shlM rfl rfl h255) trivial rfl rfl fun a hs => ?_
     refine st_val hs (y_leq rfl rfl) trivial rfl rfl fun a hs => ?_
     refine st_val hs (y_assign rfl) trivial rfl rfl fun a hs => ?_
     refine wpList_nil ?_
     refine then_normal ?_
     have hsh := Option.some.inj hsh
     subst hsh
     refine wp_ret ?_
     exact ret1 hs rfl (rv_tmp rfl) (hw.ret rfl)

abbrev slices_IndexFunc_Lint_int_rd (w0 : World) (X : List Nat) (r : Int) : (Nat → Prop) → World → Value → Prop := fun S w v => v = .int .i64 r
set_option maxHeartbeats 4000000 in
set_option maxRecDepth 100000 in
theorem slices_IndexFunc_Lint_int_ok {w0 : World} {S0 : Nat → Prop} {p2 : Option Addr} {k3 : Nat} {g6 : Nat} {f7 : List Value} {cp8 : List Value} {s1 : (List Int)} {f5 : Int → Option Bool} {r : Int} (hsh : slices_IndexFunc_Lint_int s1 f5 = some r) (hS : ∀ b, S0 b → b < w0.heap.size) (h4 : (SlA p2 s1.length k3 s1).p S0 w0) (h9 : (FnA1 Try.prog g6 f7 cp8 f5).p S0 w0) : Calls Try.prog 72 #[.slice p2 s1.length k3, .func (.func g6) f7.toArray cp8.toArray] w0 (Ret ([]) w0 S0 (slices_IndexFunc_Lint_int_rd w0 ([]) r)) := by
 refine calls_of_wp Try.func72 rfl ?_
 have hs := Sl.enter #[.slice p2 s1.length k3, .func (.func g6) f7.toArray cp8.toArray] 19 [(0, .slice p2 s1.length k3), (1, .func (.func g6) f7.toArray cp8.toArray)] rfl ⟨rfl, rfl, trivial⟩
 have hw := Wd.enter (E := []) hS (fun _ h => (by cases h))
 have hw := hw.addE h4
 have hw := hw.addE h9
 delta slices_IndexFunc_Lint_int at hsh
 refine wp_seq ?_
 refine wp_region_lit ?_
 refine st_val hs (y_assign rfl) trivial rfl rfl fun a hs => ?_
 refine wpList_nil ?_
 refine then_normal ?_
 refine wp_seq ?_
 refine wp_seq ?_
 refine wp_region_lit ?_
 refine st_val hs (y_move rfl) trivial rfl rfl fun a hs => ?_
 refine st_val hs (y_len Try.runUnderlying22 rfl) trivial rfl rfl fun a hs => ?_
 refine st_val hs (y_move rfl) trivial rfl rfl fun a hs => ?_
 refine wpList_nil ?_
 refine then_normal ?_
 refine wp_block ?_
 refine wp_while (fun sv78 a w => ∃ (Sv122 : Nat → Prop), Sl 19 [(0, .slice p2 s1.length k3), (1, .func (.func g6) f7.toArray cp8.toArray), (7, .int .i64 (s1.length : Int)), (8, .int .i64 sv78)] a ∧ Wd ⟨w0, S0, []⟩ Sv122 [] [SlA p2 s1.length k3 s1, FnA1 Try.prog g6 f7 cp8 f5] w) 0 hsh ⟨S0, (hs.wk rfl), (hw.ft [] [1, 0] (by decide) rfl rfl)⟩ ?_
 repeat clear hsh
 rintro sv78 a w tv145 ⟨Sv122, hs, hw⟩ hsh hd144
 delta slices_IndexFunc_Lint_int_l2 at hsh
 refine wp_seq ?_
 refine wp_region_lit ?_
 refine st_val hs (y_lss rfl rfl) trivial rfl rfl fun a hs => ?_
 refine wpList_nil ?_
 refine then_normal ?_
 refine wp_seq ?_
 refine wp_cond_split (hs.ev rfl) (fun h149 => ?_) (fun h149 => ?_)
 ·have hsh := ite_t hsh h149
  refine wp_skip ?_
  refine then_normal ?_
  refine wp_seq ?_
  refine wp_block ?_
  refine wp_seq ?_
  refine wp_region_lit ?_
  refine st_val hs (y_move rfl) trivial rfl rfl fun a hs => ?_
  refine st_val hs (y_assign rfl) trivial rfl rfl fun a hs => ?_
  refine wpList_nil ?_
  refine then_normal ?_
  refine wp_seq ?_
  refine wp_region_lit ?_
  refine st_val hs (y_move rfl) trivial rfl rfl fun a hs => ?_
  refine st_val hs (y_move rfl) trivial rfl rfl fun a hs => ?_
  refine st_val hs (y_move rfl) trivial rfl rfl fun a hs => ?_
  obtain ⟨x172, h170, hsh⟩ := bind_t hsh
  obtain ⟨b178, o179, q176, c177, h180, h173, h174, h175, h171⟩ := hw.elemV 0 rfl h170
  have hsv181 := hs
  have hwv182 := hw
  subst h180
  have hs := hsv181
  have hw := hwv182
  obtain ⟨_, rfl, rfl⟩ := h171
  have hw := hw.addE h175
  refine st_val hs (y_indexAt Try.runUnderlying22 Try.sizeOf3 rfl rfl h173.1 h173.2 h174) trivial rfl rfl fun a hs => ?_
  refine st_val hs (y_loadE1 (j := 0) (hw.ceAt 0 rfl) rfl Try.isAgg3 rfl) trivial rfl rfl fun a hs => ?_
  obtain ⟨rv184, h183, hsh⟩ := bind_t hsh
  refine st_callR hs ((hw.bE 2 rfl).2 Keep.rfl' hw.bdom ⟨_, rfl, rfl⟩ h183) (do_callF (hw.bE 2 rfl).1 rfl rfl) trivial rfl rfl ?_
  intro v188 Sv185 w a h186 h187 hs
  subst h187
  have hw := hw.callB h186
  refine wpList_nil ?_
  refine then_normal ?_
  refine wp_cond_split (hs.ev rfl) (fun h190 => ?_) (fun h190 => ?_)
  ·have hsh := ite_t hsh h190
   refine wp_seq ?_
   refine wp_region_lit ?_
   refine st_val hs (y_move rfl) trivial rfl rfl fun a hs => ?_
   refine st_val hs (y_assign rfl) trivial rfl rfl fun a hs => ?_
   refine wpList_nil ?_
   refine then_normal ?_
   have hsh := Option.some.inj hsh
   subst hsh
   have h191 := hd144 _ rfl
   subst h191
   refine wp_ret ?_
   refine blk_ret ?_
   refine then_ret ?_
   refine then_ret ?_
   refine blk_ret ?_
   refine then_ret ?_
   exact ret1 hs rfl (rv_tmp rfl) (hw.ret rfl)
  ·have hsh := ite_f hsh h190
   refine wp_skip ?_
   refine blk_normal ?_
   refine then_normal ?_
   refine wp_region_lit ?_
   refine st_val hs (y_add rfl rfl) trivial rfl rfl fun a hs => ?_
   refine st_val hs (y_move rfl) trivial rfl rfl fun a hs => ?_
   refine wpList_nil ?_
   refine then_normal ?_
   exact ⟨_, (Option.some.inj hsh).symm, Sv122, (hs.wk rfl), (hw.ft [] [1, 2] (by decide) rfl rfl)⟩
 ·have hsh := ite_f hsh h149
  obtain ⟨rv192, hsh, h193⟩ := map_t hsh
  have h193 := (hd144 _ h193.symm).symm
  subst h193
  refine wp_exit ?_
  refine then_exit ?_
  refine then_exit ?_
  refine blk_exit ?_
  refine then_normal ?_
  refine wp_seq ?_
  refine wp_region_lit ?_
  refine st_val hs (y_assign rfl) trivial rfl rfl fun a hs => ?_
  refine wpList_nil ?_
  refine then_normal ?_
  have hsh := Option.some.inj hsh
  subst hsh
  refine wp_ret ?_
  exact ret1 hs rfl (rv_tmp rfl) (hw.ret rfl)

abbrev slices_ContainsFunc_Lint_int_rd (w0 : World) (X : List Nat) (r : Bool) : (Nat → Prop) → World → Value → Prop := fun S w v => v = .bool r
set_option maxHeartbeats 4000000 in
set_option maxRecDepth 100000 in
theorem slices_ContainsFunc_Lint_int_ok {w0 : World} {S0 : Nat → Prop} {p2 : Option Addr} {k3 : Nat} {g6 : Nat} {f7 : List Value} {cp8 : List Value} {s1 : (List Int)} {f5 : Int → Option Bool} {r : Bool} (hsh : slices_ContainsFunc_Lint_int s1 f5 = some r) (hS : ∀ b, S0 b → b < w0.heap.size) (h4 : (SlA p2 s1.length k3 s1).p S0 w0) (h9 : (FnA1 Try.prog g6 f7 cp8 f5).p S0 w0) : Calls Try.prog 55 #[.slice p2 s1.length k3, .func (.func g6) f7.toArray cp8.toArray] w0 (Ret ([]) w0 S0 (slices_ContainsFunc_Lint_int_rd w0 ([]) r)) := by
 refine calls_of_wp Try.func55 rfl ?_
 have hs := Sl.enter #[.slice p2 s1.length k3, .func (.func g6) f7.toArray cp8.toArray] 9 [(0, .slice p2 s1.length k3), (1, .func (.func g6) f7.toArray cp8.toArray)] rfl ⟨rfl, rfl, trivial⟩
 have hw := Wd.enter (E := []) hS (fun _ h => (by cases h))
 have hw := hw.addE h4
 have hw := hw.addE h9
 delta slices_ContainsFunc_Lint_int at hsh
 refine wp_seq ?_
 refine wp_region_lit ?_
 refine st_val hs (y_assign rfl) trivial rfl rfl fun a hs => ?_
 refine wpList_nil ?_
 refine then_normal ?_
 refine wp_seq ?_
 refine wp_region_lit ?_
 refine st_val hs (y_move rfl) trivial rfl rfl fun a hs => ?_
 refine st_val hs (y_move rfl) trivial rfl rfl fun a hs => ?_
 obtain ⟨rv11, h10, hsh⟩ := bind_t hsh
 refine st_callR hs (slices_IndexFunc_Lint_int_ok h10 hw.bdom (hw.bE 1 rfl) (hw.bE 0 rfl)) (do_call Try.call72 rfl) trivial rfl rfl ?_
 intro v15 Sv12 w a h13 h14 hs
 subst h14
 have hw := hw.callB h13
 refine st_val hs (y_geq rfl rfl) trivial rfl rfl fun a hs => ?_
 refine st_val hs (y_assign rfl) trivial rfl rfl fun a hs => ?_
 refine wpList_nil ?_
 refine then_normal ?_
 have hsh := Option.some.inj hsh
 subst hsh
 refine wp_ret ?_
 exact ret1 hs rfl (rv_tmp rfl) (hw.ret rfl)

abbrev filter_wrong_rd (w0 : World) (X : List Nat) (r : Bool) : (Nat → Prop) → World → Value → Prop := fun S w v => v = .bool r
set_option maxHeartbeats 4000000 in
set_option maxRecDepth 100000 in
theorem filter_wrong_ok {w0 : World} {S0 : Nat → Prop} {n1 : Int} {r : Bool} (hsh : filter_wrong n1 = some r) (hS : ∀ b, S0 b → b < w0.heap.size) : Calls Try.prog 56 #[.int .i64 n1] w0 (Ret ([]) w0 S0 (filter_wrong_rd w0 ([]) r)) := by
 refine calls_of_wp Try.func56 rfl ?_
 have hs := Sl.enter #[.int .i64 n1] 6 [(0, .int .i64 n1)] rfl ⟨rfl, trivial⟩
 have hw := Wd.enter (E := []) hS (fun _ h => (by cases h))
 delta filter_wrong at hsh
 refine wp_seq ?_
 refine wp_region_lit ?_
 refine st_val hs (y_assign rfl) trivial rfl rfl fun a hs => ?_
 refine wpList_nil ?_
 refine then_normal ?_
 refine wp_seq ?_
 refine wp_region_lit ?_
 refine st_val hs (y_move rfl) trivial rfl rfl fun a hs => ?_
 obtain ⟨rv3, h2, hsh⟩ := bind_t hsh
 refine st_callR hs (filter_in_ok h2 hw.bdom) (do_call Try.call46 rfl) trivial rfl rfl ?_
 intro v7 Sv4 w a h5 h6 hs
 subst h6
 have hw := hw.callB h5
 refine st_val hs (y_not rfl) trivial rfl rfl fun a hs => ?_
 refine st_val hs (y_assign rfl) trivial rfl rfl fun a hs => ?_
 refine wpList_nil ?_
 refine then_normal ?_
 have hsh := Option.some.inj hsh
 subst hsh
 refine wp_ret ?_
 exact ret1 hs rfl (rv_tmp rfl) (hw.ret rfl)

theorem filter_wrong_fn (S0 : Nat → Prop) (w0 : World) : (FnA1 Try.prog 56 [] [] filter_wrong).p S0 w0 := by
  refine ⟨Try.call56, ?_⟩
  intro S1 w1 hk hS c0 x0 r1 h0 hf
  obtain ⟨_, rfl, rfl⟩ := h0
  exact filter_wrong_ok hf hS  

abbrev filter_check_rd (w0 : World) (X : List Nat) (r : Int) : (Nat → Prop) → World → Value → Prop := fun S w v => v = .int .i64 r
set_option maxHeartbeats 4000000 in
set_option maxRecDepth 100000 in
theorem filter_check_ok {w0 : World} {S0 : Nat → Prop} {p2 : Option Addr} {k3 : Nat} {samples1 : (List Int)} {number5 : Int} {most6 : Int} {r : Int} (hsh : filter_check samples1 number5 most6 = some r) (hS : ∀ b, S0 b → b < w0.heap.size) (h4 : (SlA p2 samples1.length k3 samples1).p S0 w0) : Calls Try.prog 40 #[.slice p2 samples1.length k3, .int .i64 number5, .int .i64 most6] w0 (Ret ([]) w0 S0 (filter_check_rd w0 ([]) r)) := by
 refine calls_of_wp Try.func40 rfl ?_
 have hs := Sl.enter #[.slice p2 samples1.length k3, .int .i64 number5, .int .i64 most6] 18 [(0, .slice p2 samples1.length k3), (1, .int .i64 number5), (2, .int .i64 most6)] rfl ⟨rfl, rfl, rfl, trivial⟩
 have hw := Wd.enter (E := []) hS (fun _ h => (by cases h))
 have hw := hw.addE h4
 delta filter_check at hsh
 refine wp_seq ?_
 refine wp_region_lit ?_
 refine st_val hs (y_assign rfl) trivial rfl rfl fun a hs => ?_
 refine wpList_nil ?_
 refine then_normal ?_
 refine wp_seq ?_
 refine wp_seq ?_
 refine wp_region_lit ?_
 refine st_val hs (y_move rfl) trivial rfl rfl fun a hs => ?_
 refine st_val hs (y_move rfl) trivial rfl rfl fun a hs => ?_
 obtain ⟨rv8, h7, hsh⟩ := bind_t hsh
 refine st_callR hs (filter_in_ok h7 hw.bdom) (do_call Try.call46 rfl) trivial rfl rfl ?_
 intro v12 Sv9 w a h10 h11 hs
 subst h11
 have hw := hw.callB h10
 refine st_val hs (y_not rfl) trivial rfl rfl fun a hs => ?_
 refine st_val hs (y_move rfl) trivial rfl rfl fun a hs => ?_
 obtain ⟨c22, hc22, hsh⟩ := bind_t hsh
 refine wpl_join 3 (fun a w => ∃ (Sv23 : Nat → Prop), Sl 18 [(0, .slice p2 samples1.length k3), (14, .bool c22)] a ∧ Wd ⟨w0, S0, []⟩ Sv23 [] [SlA p2 samples1.length k3 samples1] w) ?_ ?_
 ·rcases Bool.eq_false_or_eq_true (!rv8) with h21 | h21
  ·have hs := hs.fix 11 (.bool true) rfl (vb h21)
   have hsh := ite_t hc22 h21
   refine st_skip hs rfl rfl rfl rfl rfl fun a hs => ?_
   refine st_skip hs rfl rfl rfl rfl rfl fun a hs => ?_
   refine st_val hs (y_pickT rfl rfl) trivial rfl rfl fun a hs => ?_
   refine wpList_nil ?_
   have hsh := Option.some.inj hsh
   subst hsh
   refine then_normal ?_
   exact ⟨S0, (hs.wk rfl), (hw.ft [] [0] (by decide) rfl rfl)⟩
  ·have hs := hs.fix 11 (.bool false) rfl (vb h21)
   have hsh := ite_f hc22 h21
   refine st_val hs (y_move rfl) ⟨_, rfl, rfl⟩ rfl rfl fun a hs => ?_
   obtain ⟨rv25, h24, hsh⟩ := bind_t hsh
   refine st_callR hs (slices_ContainsFunc_Lint_int_ok h24 hw.bdom (hw.bE 0 rfl) (filter_wrong_fn _ _)) (do_call Try.call55 rfl) ⟨_, rfl, rfl⟩ rfl rfl ?_
   intro v29 Sv26 w a h27 h28 hs
   subst h28
   have hw := hw.callB h27
   refine st_val hs (y_pickF rfl rfl) trivial rfl rfl fun a hs => ?_
   refine wpList_nil ?_
   have hsh := Option.some.inj hsh
   subst hsh
   refine then_normal ?_
   exact ⟨S0, (hs.wk rfl), (hw.ft [] [0] (by decide) rfl rfl)⟩
 ·rintro a w ⟨Sv23, hs, hw⟩
  refine wpList_nil ?_
  refine then_normal ?_
  refine wp_cond_split (hs.ev rfl) (fun h32 => ?_) (fun h32 => ?_)
  ·have hsh := ite_t hsh h32
   refine wp_seq ?_
   refine wp_region_lit ?_
   refine st_val hs (y_assign rfl) trivial rfl rfl fun a hs => ?_
   refine wpList_nil ?_
   refine then_normal ?_
   have hsh := Option.some.inj hsh
   subst hsh
   refine wp_ret ?_
   refine then_ret ?_
   exact ret1 hs rfl (rv_tmp rfl) (hw.ret rfl)
  ·have hsh := ite_f hsh h32
   refine wp_skip ?_
   refine then_normal ?_
   refine wp_seq ?_
   refine wp_seq ?_
   refine wp_region_lit ?_
   refine st_val hs (y_move rfl) trivial rfl rfl fun a hs => ?_
   refine st_val hs (y_len Try.runUnderlying22 rfl) trivial rfl rfl fun a hs => ?_
   refine st_val hs (y_gtr rfl rfl) trivial rfl rfl fun a hs => ?_
   refine wpList_nil ?_
   refine then_normal ?_
   refine wp_cond_split (hs.ev rfl) (fun h34 => ?_) (fun h34 => ?_)
   ·have hsh := ite_t hsh h34
    refine wp_seq ?_
    refine wp_region_lit ?_
    refine st_val hs (y_assign rfl) trivial rfl rfl fun a hs => ?_
    refine wpList_nil ?_
    refine then_normal ?_
    have hsh := Option.some.inj hsh
    subst hsh
    refine wp_ret ?_
    refine then_ret ?_
    exact ret1 hs rfl (rv_tmp rfl) (hw.ret rfl)
   ·have hsh := ite_f hsh h34
    refine wp_skip ?_
    refine then_normal ?_
    refine wp_seq ?_
    refine wp_region_lit ?_
    refine st_val hs (y_assign rfl) trivial rfl rfl fun a hs => ?_
    refine wpList_nil ?_
    refine then_normal ?_
    have hsh := Option.some.inj hsh
    subst hsh
    refine wp_ret ?_
    exact ret1 hs rfl (rv_tmp rfl) (hw.ret rfl)

abbrev filter_output_rd (w0 : World) (X : List Nat) (r : Int) : (Nat → Prop) → World → Value → Prop := fun S w v => v = .int .i64 r
set_option maxHeartbeats 4000000 in
set_option maxRecDepth 100000 in
theorem filter_output_ok {w0 : World} {S0 : Nat → Prop} {p2 : Option Addr} {k3 : Nat} {p6 : Option Addr} {k7 : Nat} {f1 : Filter} {samples5 : (List Int)} {i9 : Int} {r : Int} (hsh : filter_output f1 samples5 i9 = some r) (hS : ∀ b, S0 b → b < w0.heap.size) (h4 : (SlA p2 f1.Taps.length k3 f1.Taps).p S0 w0) (h8 : (SlA p6 samples5.length k7 samples5).p S0 w0) : Calls Try.prog 58 #[.agg #[.slice p2 f1.Taps.length k3, .int .i64 f1.Factor, .int .i64 f1.Shift], .slice p6 samples5.length k7, .int .i64 i9] w0 (Ret ([]) w0 S0 (filter_output_rd w0 ([]) r)) := by
 refine calls_of_wp Try.func58 rfl ?_
 have hs := Sl.enter #[.agg #[.slice p2 f1.Taps.length k3, .int .i64 f1.Factor, .int .i64 f1.Shift], .slice p6 samples5.length k7, .int .i64 i9] 33 [(0, .agg #[.slice p2 f1.Taps.length k3, .int .i64 f1.Factor, .int .i64 f1.Shift]), (1, .slice p6 samples5.length k7), (2, .int .i64 i9)] rfl ⟨rfl, rfl, rfl, trivial⟩
 have hw := Wd.enter (E := []) hS (fun _ h => (by cases h))
 have hw := hw.addE h4
 have hw := hw.addE h8
 delta filter_output at hsh
 refine wp_seq ?_
 refine wp_region_lit ?_
 refine w_box (cs := [.slice p2 f1.Taps.length k3, .int .i64 f1.Factor, .int .i64 f1.Shift]) hs hw rfl rfl rfl trivial ?_
 intro b10 a w hs hw
 refine st_val hs (y_assign rfl) trivial rfl rfl fun a hs => ?_
 refine wpList_nil ?_
 refine then_normal ?_
 refine wp_seq ?_
 refine wp_region_lit ?_
 refine st_val hs (y_assign rfl) trivial rfl rfl fun a hs => ?_
 refine wpList_nil ?_
 refine then_normal ?_
 refine wp_seq ?_
 refine wp_seq ?_
 refine wp_region_lit ?_
 refine st_val hs (y_fieldAddr (o' := 0) Try.runUnderlying28 rfl Try.sizeOf22 rfl rfl rfl) trivial rfl rfl fun a hs => ?_
 refine st_val hs (y_loadB1 (hw.ownAt 0 rfl) rfl Try.isAgg22 rfl) trivial rfl rfl fun a hs => ?_
 refine st_val hs (y_len Try.runUnderlying22 rfl) trivial rfl rfl fun a hs => ?_
 refine st_val hs (y_move rfl) trivial rfl rfl fun a hs => ?_
 refine wpList_nil ?_
 refine then_normal ?_
 obtain ⟨e104, h167, hsh⟩ := bind_t hsh
 refine wp_join (fun a w => ∃ (Sv105 : Nat → Prop), Sl 33 [(3, .pointer (some ⟨b10, 0, none⟩)), (7, .int .i64 e104)] a ∧ Wd ⟨w0, S0, []⟩ Sv105 [.box b10 [.slice p2 f1.Taps.length k3, .int .i64 f1.Factor, .int .i64 f1.Shift] 28] [SlA p2 f1.Taps.length k3 f1.Taps] w) ?_ ?_
 ·refine wp_block ?_
  refine wp_while (fun sv11 a w => ∃ (Sv71 : Nat → Prop), Sl 33 [(1, .slice p6 samples5.length k7), (2, .int .i64 i9), (3, .pointer (some ⟨b10, 0, none⟩)), (7, .int .i64 sv11.1), (11, .slice p2 f1.Taps.length k3), (12, .int .i64 (f1.Taps.length : Int)), (13, .int .i64 sv11.2)] a ∧ Wd ⟨w0, S0, []⟩ Sv71 [.box b10 [.slice p2 f1.Taps.length k3, .int .i64 f1.Factor, .int .i64 f1.Shift] 28] [SlA p6 samples5.length k7 samples5, SlA p2 f1.Taps.length k3 f1.Taps] w) (0, 0) h167 ⟨S0, (hs.wk rfl), (hw.ft [0] [0, 1] (by decide) rfl rfl)⟩ ?_
  clear h167
  repeat clear hsh
  rintro sv11 a w tv102 ⟨Sv71, hs, hw⟩ hsh hd101
  delta filter_output_l1 at hsh
  refine wp_seq ?_
  refine wp_region_lit ?_
  refine st_val hs (y_lss rfl rfl) trivial rfl rfl fun a hs => ?_
  refine wpList_nil ?_
  refine then_normal ?_
  refine wp_seq ?_
  refine wp_cond_split (hs.ev rfl) (fun h107 => ?_) (fun h107 => ?_)
  ·have hsh := ite_t hsh h107
   refine wp_skip ?_
   refine then_normal ?_
   refine wp_seq ?_
   refine wp_block ?_
   refine wp_seq ?_
   refine wp_region_lit ?_
   refine st_val hs (y_move rfl) trivial rfl rfl fun a hs => ?_
   obtain ⟨x138, h136, hsh⟩ := bind_t hsh
   obtain ⟨b144, o145, q142, c143, h146, h139, h140, h141, h137⟩ := hw.elemV 1 rfl h136
   have hsv147 := hs
   have hwv148 := hw
   subst h146
   have hs := hsv147
   have hw := hwv148
   obtain ⟨_, rfl, rfl⟩ := h137
   have hw := hw.addE h141
   refine st_val hs (y_indexAt Try.runUnderlying22 Try.sizeOf3 rfl rfl h139.1 h139.2 h140) trivial rfl rfl fun a hs => ?_
   refine st_val hs (y_loadE1 (j := 0) (hw.ceAt 0 rfl) rfl Try.isAgg3 rfl) trivial rfl rfl fun a hs => ?_
   refine st_val hs (y_assign rfl) trivial rfl rfl fun a hs => ?_
   refine st_val hs (y_assign rfl) trivial rfl rfl fun a hs => ?_
   refine wpList_nil ?_
   refine then_normal ?_
   refine wp_region_lit ?_
   refine st_val hs (y_move rfl) trivial rfl rfl fun a hs => ?_
   refine st_val hs (y_move rfl) trivial rfl rfl fun a hs => ?_
   refine st_val hs (y_move rfl) trivial rfl rfl fun a hs => ?_
   refine st_val hs (y_move rfl) trivial rfl rfl fun a hs => ?_
   refine st_val hs (y_move rfl) trivial rfl rfl fun a hs => ?_
   refine st_val hs (y_sub rfl rfl) trivial rfl rfl fun a hs => ?_
   obtain ⟨x151, h149, hsh⟩ := bind_t hsh
   obtain ⟨b157, o158, q155, c156, h159, h152, h153, h154, h150⟩ := hw.elemV 1 rfl h149
   have hsv160 := hs
   have hwv161 := hw
   subst h159
   have hs := hsv160
   have hw := hwv161
   obtain ⟨_, rfl, rfl⟩ := h150
   have hw := hw.addE h154
   refine st_val hs (y_indexAt Try.runUnderlying22 Try.sizeOf3 rfl rfl h152.1 h152.2 h153) trivial rfl rfl fun a hs => ?_
   refine st_val hs (y_loadE1 (j := 0) (hw.ceAt 0 rfl) rfl Try.isAgg3 rfl) trivial rfl rfl fun a hs => ?_
   refine st_val hs (y_mul rfl rfl) trivial rfl rfl fun a hs => ?_
   refine st_val hs (y_add rfl rfl) trivial rfl rfl fun a hs => ?_
   obtain ⟨sum163, h162, hsh⟩ := bind_t hsh
   refine st_val hs (y_assignI rfl h162) trivial rfl rfl fun a hs => ?_
   refine wpList_nil ?_
   refine blk_normal ?_
   refine then_normal ?_
   refine wp_region_lit ?_
   refine st_val hs (y_add rfl rfl) trivial rfl rfl fun a hs => ?_
   refine st_val hs (y_move rfl) trivial rfl rfl fun a hs => ?_
   refine wpList_nil ?_
   refine then_normal ?_
   exact ⟨_, (Option.some.inj hsh).symm, Sv71, (hs.wk rfl), (hw.ft [0] [2, 3] (by decide) rfl rfl)⟩
  ·have hsh := ite_f hsh h107
   refine wp_exit ?_
   refine then_exit ?_
   refine then_exit ?_
   refine blk_exit ?_
   have hsh := Option.some.inj hsh
   subst hsh
   have h164 := hd101 _ rfl
   subst h164
   refine then_normal ?_
   exact ⟨Sv71, (hs.wk rfl), (hw.ft [0] [1] (by decide) rfl rfl)⟩
 ·rintro a w ⟨Sv105, hs, hw⟩
  refine then_normal ?_
  refine wp_seq ?_
  refine wp_region_lit ?_
  refine st_val hs (y_move rfl) trivial rfl rfl fun a hs => ?_
  refine st_val hs (y_fieldAddr (o' := 2) Try.runUnderlying28 rfl Try.sizeOf3 rfl rfl rfl) trivial rfl rfl fun a hs => ?_
  refine st_val hs (y_loadB1 (hw.ownAt 0 rfl) rfl Try.isAgg3 rfl) trivial rfl rfl fun a hs => ?_
  obtain ⟨shr166, h165, hsh⟩ := bind_t hsh
  refine st_val hs (y_shrM rfl rfl h165) trivial rfl rfl fun a hs => ?_
  refine st_val hs (y_assign rfl) trivial rfl rfl fun a hs => ?_
  refine wpList_nil ?_
  refine then_normal ?_
  have hsh := Option.some.inj hsh
  subst hsh
  refine wp_ret ?_
  exact ret1 hs rfl (rv_tmp rfl) (hw.ret rfl)

abbrev filter_outputs_rd (w0 : World) (X : List Nat) (r : (List Int)) : (Nat → Prop) → World → Value → Prop := fun S w v => ∃ (p0_0 : Option Addr) (k0_0 : Nat) (c0_0 : List Value), v = .slice p0_0 r.length k0_0 ∧ Outs X w0 S w [.row p0_0 r.length k0_0 c0_0 3 1] ∧ (RowA c0_0 r).p S w
set_option maxHeartbeats 4000000 in
set_option maxRecDepth 100000 in
theorem filter_outputs_ok {w0 : World} {S0 : Nat → Prop} {p2 : Option Addr} {k3 : Nat} {p6 : Option Addr} {k7 : Nat} {f1 : Filter} {samples5 : (List Int)} {number9 : Int} {from10 : Int} {r : (List Int)} (hsh : filter_outputs f1 samples5 number9 from10 = some r) (hS : ∀ b, S0 b → b < w0.heap.size) (h4 : (SlA p2 f1.Taps.length k3 f1.Taps).p S0 w0) (h8 : (SlA p6 samples5.length k7 samples5).p S0 w0) : Calls Try.prog 41 #[.agg #[.slice p2 f1.Taps.length k3, .int .i64 f1.Factor, .int .i64 f1.Shift], .slice p6 samples5.length k7, .int .i64 number9, .int .i64 from10] w0 (Ret ([]) w0 S0 (filter_outputs_rd w0 ([]) r)) := by
 refine calls_of_wp Try.func41 rfl ?_
 have hs := Sl.enter #[.agg #[.slice p2 f1.Taps.length k3, .int .i64 f1.Factor, .int .i64 f1.Shift], .slice p6 samples5.length k7, .int .i64 number9, .int .i64 from10] 38 [(0, .agg #[.slice p2 f1.Taps.length k3, .int .i64 f1.Factor, .int .i64 f1.Shift]), (1, .slice p6 samples5.length k7), (2, .int .i64 number9), (3, .int .i64 from10)] rfl ⟨rfl, rfl, rfl, rfl, trivial⟩
 have hw := Wd.enter (E := []) hS (fun _ h => (by cases h))
 have hw := hw.addE h4
 have hw := hw.addE h8
 delta filter_outputs at hsh
 refine wp_seq ?_
 refine wp_region_lit ?_
 refine w_box (cs := [.slice p2 f1.Taps.length k3, .int .i64 f1.Factor, .int .i64 f1.Shift]) hs hw rfl rfl rfl trivial ?_
 intro b11 a w hs hw
 refine st_val hs (y_assign rfl) trivial rfl rfl fun a hs => ?_
 refine wpList_nil ?_
 refine then_normal ?_
 refine wp_seq ?_
 refine wp_region_lit ?_
 refine st_val hs (y_assign rfl) trivial rfl rfl fun a hs => ?_
 refine wpList_nil ?_
 refine then_normal ?_
 refine wp_seq ?_
 refine wp_seq ?_
 refine wp_region_lit ?_
 refine st_val hs (y_move rfl) trivial rfl rfl fun a hs => ?_
 refine st_val hs (y_fieldAddr (o' := 0) Try.runUnderlying28 rfl Try.sizeOf22 rfl rfl rfl) trivial rfl rfl fun a hs => ?_
 refine st_val hs (y_loadB1 (hw.ownAt 0 rfl) rfl Try.isAgg22 rfl) trivial rfl rfl fun a hs => ?_
 refine st_val hs (y_len Try.runUnderlying22 rfl) trivial rfl rfl fun a hs => ?_
 refine st_val hs (y_sub rfl rfl) trivial rfl rfl fun a hs => ?_
 refine st_val hs (y_max rfl rfl) trivial rfl rfl fun a hs => ?_
 obtain ⟨i13, h12, hsh⟩ := bind_t hsh
 refine st_val hs (y_assignI rfl h12) trivial rfl rfl fun a hs => ?_
 refine wpList_nil ?_
 refine then_normal ?_
 obtain ⟨e101, h170, hsh⟩ := bind_t hsh
 refine wp_join (fun a w => ∃ (c102 : List Value) (p103 : Option Addr) (k104 : Nat) (Sv105 : Nat → Prop), Sl 38 [(9, .slice p103 e101.length k104)] a ∧ Wd ⟨w0, S0, []⟩ Sv105 [.row p103 e101.length k104 c102 3 1] [RowA c102 e101] w) ?_ ?_
 ·refine wp_block ?_
  have hw := hw.nilRow Int 3
  refine wp_while (fun sv14 a w => ∃ (c69 : List Value) (p70 : Option Addr) (k71 : Nat) (Sv72 : Nat → Prop), Sl 38 [(1, .slice p6 samples5.length k7), (2, .int .i64 number9), (4, .pointer (some ⟨b11, 0, none⟩)), (9, .slice p70 sv14.1.length k71), (10, .int .i64 sv14.2)] a ∧ Wd ⟨w0, S0, []⟩ Sv72 [.box b11 [.slice p2 f1.Taps.length k3, .int .i64 f1.Factor, .int .i64 f1.Shift] 28, .row p70 sv14.1.length k71 c69 3 1] [SlA p6 samples5.length k7 samples5, SlA p2 f1.Taps.length k3 f1.Taps, RowA c69 sv14.1] w) (([] : List Int), i13) h170 ⟨[], none, 0, S0, (hs.wk rfl), (hw.ft [1, 0] [1, 2, 0] (by decide) rfl rfl)⟩ ?_
  clear h170
  repeat clear hsh
  rintro sv14 a w tv99 ⟨c69, p70, k71, Sv72, hs, hw⟩ hsh hd98
  delta filter_outputs_l1 at hsh
  refine wp_seq ?_
  refine wp_seq ?_
  refine wp_region_lit ?_
  refine st_val hs (y_move rfl) trivial rfl rfl fun a hs => ?_
  refine st_val hs (y_move rfl) trivial rfl rfl fun a hs => ?_
  refine st_val hs (y_len Try.runUnderlying22 rfl) trivial rfl rfl fun a hs => ?_
  refine st_val hs (y_lss rfl rfl) trivial rfl rfl fun a hs => ?_
  refine wpList_nil ?_
  refine then_normal ?_
  refine wp_cond_split (hs.ev rfl) (fun h107 => ?_) (fun h107 => ?_)
  ·have hsh := ite_t hsh h107
   refine wp_skip ?_
   refine then_normal ?_
   refine wp_seq ?_
   refine wp_block ?_
   refine wp_seq ?_
   refine wp_region_lit ?_
   refine st_val hs (y_move rfl) trivial rfl rfl fun a hs => ?_
   refine st_val hs (y_move rfl) trivial rfl rfl fun a hs => ?_
   refine st_val hs (y_add rfl rfl) trivial rfl rfl fun a hs => ?_
   refine st_val hs (y_fieldAddr (o' := 1) Try.runUnderlying28 rfl Try.sizeOf3 rfl rfl rfl) trivial rfl rfl fun a hs => ?_
   refine st_val hs (y_loadB1 (hw.ownAt 0 rfl) rfl Try.isAgg3 rfl) trivial rfl rfl fun a hs => ?_
   obtain ⟨rem131, h130, hsh⟩ := bind_t hsh
   refine st_val hs (y_remM rfl rfl h130) trivial rfl rfl fun a hs => ?_
   refine st_val hs (y_eql rfl rfl) trivial rfl rfl fun a hs => ?_
   refine wpList_nil ?_
   refine then_normal ?_
   refine wp_join (fun a w => ∃ (out151 : (List Int)) (c147 : List Value) (p148 : Option Addr) (k149 : Nat) (Sv150 : Nat → Prop), filter_outputs_j1 sv14 out151 = some tv99 ∧ Sl 38 [(1, .slice p6 samples5.length k7), (2, .int .i64 number9), (4, .pointer (some ⟨b11, 0, none⟩)), (9, .slice p148 out151.length k149), (10, .int .i64 sv14.2)] a ∧ Wd ⟨w0, S0, []⟩ Sv150 [.box b11 [.slice p2 f1.Taps.length k3, .int .i64 f1.Factor, .int .i64 f1.Shift] 28, .row p148 out151.length k149 c147 3 1] [SlA p6 samples5.length k7 samples5, SlA p2 f1.Taps.length k3 f1.Taps, RowA c147 out151] w) ?_ ?_
   ·refine wp_cond_split (hs.ev rfl) (fun h154 => ?_) (fun h154 => ?_)
    ·have hsh := ite_t hsh h154
     refine wp_region_lit ?_
     refine st_val hs (y_move rfl) trivial rfl rfl fun a hs => ?_
     refine st_val hs (y_loadBA (hw.ownAt 0 rfl) rfl Try.isAgg28 Try.sizeOf28 rfl rfl) trivial rfl rfl fun a hs => ?_
     refine st_val hs (y_move rfl) trivial rfl rfl fun a hs => ?_
     refine st_val hs (y_move rfl) trivial rfl rfl fun a hs => ?_
     obtain ⟨rv156, h155, hsh⟩ := bind_t hsh
     refine st_callR hs (filter_output_ok h155 hw.bdom (hw.bE 1 rfl) (hw.bE 0 rfl)) (do_call Try.call58 rfl) trivial rfl rfl ?_
     intro v160 Sv157 w a h158 h159 hs
     subst h159
     have hw := hw.callB h158
     refine w_litSlice (α := Int) (vs := [.int .i64 rv156]) (cs := [.int .i64 rv156]) (xs := ([rv156] : List Int)) hs hw El22 rfl rfl rfl rfl rfl rfl ⟨⟨_, rfl, rfl⟩, rfl⟩ rfl trivial rfl fun b163 a w hs hw => ?_
     obtain ⟨l165, h164, hsh⟩ := bind_t hsh
     refine w_appendR (α := Int) hs hw El22 2 rfl rfl rfl 3 rfl 0 rfl 0 rfl h164 rfl trivial ?_
     intro p166 k167 c168 a w hs hw
     refine st_val hs (y_assign rfl) trivial rfl rfl fun a hs => ?_
     refine wpList_nil ?_
     refine then_normal ?_
     exact ⟨l165, c168, p166, k167, Sv72, hsh, (hs.wk rfl), (hw.ft [1, 2] [2, 3, 0] (by decide) rfl rfl)⟩
    ·have hsh := ite_f hsh h154
     refine wp_skip ?_
     refine then_normal ?_
     exact ⟨sv14.1, c69, p70, k71, Sv72, hsh, (hs.wk rfl), (hw.ft [0, 1] [0, 1, 2] (by decide) rfl rfl)⟩
   ·rintro a w ⟨out151, c147, p148, k149, Sv150, hsh, hs, hw⟩
    delta filter_outputs_j1 at hsh
    refine blk_normal ?_
    refine then_normal ?_
    refine wp_region_lit ?_
    refine st_val hs (y_move rfl) trivial rfl rfl fun a hs => ?_
    refine st_val hs (y_add rfl rfl) trivial rfl rfl fun a hs => ?_
    obtain ⟨i153, h152, hsh⟩ := bind_t hsh
    refine st_val hs (y_assignI rfl h152) trivial rfl rfl fun a hs => ?_
    refine wpList_nil ?_
    refine then_normal ?_
    exact ⟨_, (Option.some.inj hsh).symm, c147, p148, k149, Sv150, (hs.wk rfl), (hw.ft [0, 1] [0, 1, 2] (by decide) rfl rfl)⟩
  ·have hsh := ite_f hsh h107
   refine wp_exit ?_
   refine then_exit ?_
   refine then_exit ?_
   refine blk_exit ?_
   have hsh := Option.some.inj hsh
   subst hsh
   have h169 := hd98 _ rfl
   subst h169
   refine then_normal ?_
   exact ⟨c69, p70, k71, Sv72, (hs.wk rfl), (hw.ft [1] [2] (by decide) rfl rfl)⟩
 ·rintro a w ⟨c102, p103, k104, Sv105, hs, hw⟩
  refine then_normal ?_
  refine wp_seq ?_
  refine wp_region_lit ?_
  refine st_val hs (y_move rfl) trivial rfl rfl fun a hs => ?_
  refine st_val hs (y_assign rfl) trivial rfl rfl fun a hs => ?_
  refine wpList_nil ?_
  refine then_normal ?_
  have hsh := Option.some.inj hsh
  subst hsh
  refine wp_ret ?_
  exact ret1 hs rfl (rv_tmp rfl) (hw.ret ⟨p103, k104, c102, rfl, (hw.outs [0] (by decide) rfl), (hw.envAt 0 rfl)⟩)

abbrev filter_Apply_rd (w0 : World) (X : List Nat) (r : ((List Int) × Int)) : (Nat → Prop) → World → Value → Prop := fun S w v => ∃ (p0_0 : Option Addr) (k0_0 : Nat) (c0_0 : List Value), v = .tuple #[.slice p0_0 r.1.length k0_0, .int .i64 r.2] ∧ Outs X w0 S w [.row p0_0 r.1.length k0_0 c0_0 3 1] ∧ (RowA c0_0 r.1).p S w
set_option maxHeartbeats 4000000 in
set_option maxRecDepth 100000 in
theorem filter_Apply_ok {w0 : World} {S0 : Nat → Prop} {p2 : Option Addr} {k3 : Nat} {p6 : Option Addr} {k7 : Nat} {f1 : Filter} {samples5 : (List Int)} {number9 : Int} {r : ((List Int) × Int)} (hsh : filter_Apply f1 samples5 number9 = some r) (hS : ∀ b, S0 b → b < w0.heap.size) (h4 : (SlA p2 f1.Taps.length k3 f1.Taps).p S0 w0) (h8 : (SlA p6 samples5.length k7 samples5).p S0 w0) : Calls Try.prog 14 #[.agg #[.slice p2 f1.Taps.length k3, .int .i64 f1.Factor, .int .i64 f1.Shift], .slice p6 samples5.length k7, .int .i64 number9] w0 (Ret ([]) w0 S0 (filter_Apply_rd w0 ([]) r)) := by
 refine calls_of_wp Try.func14 rfl ?_
 have hs := Sl.enter #[.agg #[.slice p2 f1.Taps.length k3, .int .i64 f1.Factor, .int .i64 f1.Shift], .slice p6 samples5.length k7, .int .i64 number9] 22 [(0, .agg #[.slice p2 f1.Taps.length k3, .int .i64 f1.Factor, .int .i64 f1.Shift]), (1, .slice p6 samples5.length k7), (2, .int .i64 number9)] rfl ⟨rfl, rfl, rfl, trivial⟩
 have hw := Wd.enter (E := []) hS (fun _ h => (by cases h))
 have hw := hw.addE h4
 have hw := hw.addE h8
 delta filter_Apply at hsh
 refine wp_seq ?_
 refine wp_region_lit ?_
 refine w_box (cs := [.slice p2 f1.Taps.length k3, .int .i64 f1.Factor, .int .i64 f1.Shift]) hs hw rfl rfl rfl trivial ?_
 intro b10 a w hs hw
 refine st_val hs (y_assign rfl) trivial rfl rfl fun a hs => ?_
 refine st_val hs (y_assign rfl) trivial rfl rfl fun a hs => ?_
 refine wpList_nil ?_
 refine then_normal ?_
 refine wp_seq ?_
 refine wp_seq ?_
 refine wp_region_lit ?_
 refine st_val hs (y_loadBA (hw.ownAt 0 rfl) rfl Try.isAgg28 Try.sizeOf28 rfl rfl) trivial rfl rfl fun a hs => ?_
 obtain ⟨rv12, h11, hsh⟩ := bind_t hsh
 refine st_callR hs (filter_Valid_ok h11 hw.bdom (hw.bE 1 rfl)) (do_call Try.call32 rfl) trivial rfl rfl ?_
 intro v16 Sv13 w a h14 h15 hs
 subst h15
 have hw := hw.callB h14
 refine st_val hs (y_not rfl) trivial rfl rfl fun a hs => ?_
 refine wpList_nil ?_
 refine then_normal ?_
 refine wp_cond_split (hs.ev rfl) (fun h19 => ?_) (fun h19 => ?_)
 ·have hsh := ite_t hsh h19
  refine wp_seq ?_
  refine wp_region_lit ?_
  refine st_val hs (y_assign rfl) trivial rfl rfl fun a hs => ?_
  refine st_val hs (y_assign rfl) trivial rfl rfl fun a hs => ?_
  refine wpList_nil ?_
  refine then_normal ?_
  have hsh := Option.some.inj hsh
  subst hsh
  have hw := hw.nilRow Int 3
  refine wp_ret ?_
  refine then_ret ?_
  exact ret2 hs rfl (rv_tmp rfl) (rv_tmp rfl) (hw.ret ⟨none, 0, [], rfl, (hw.outs [0] (by decide) rfl), (hw.envAt 0 rfl)⟩)
 ·have hsh := ite_f hsh h19
  refine wp_skip ?_
  refine then_normal ?_
  refine wp_seq ?_
  refine wp_seq ?_
  refine wp_region_lit ?_
  refine st_val hs (y_move rfl) trivial rfl rfl fun a hs => ?_
  refine st_val hs (y_move rfl) trivial rfl rfl fun a hs => ?_
  obtain ⟨rv21, h20, hsh⟩ := bind_t hsh
  refine st_callR hs (filter_check_ok h20 hw.bdom (hw.bE 0 rfl)) (do_call Try.call40 rfl) trivial rfl rfl ?_
  intro v25 Sv22 w a h23 h24 hs
  subst h24
  have hw := hw.callB h23
  refine st_val hs (y_assign rfl) trivial rfl rfl fun a hs => ?_
  refine wpList_nil ?_
  refine then_normal ?_
  refine wp_seq ?_
  refine wp_region_lit ?_
  refine st_val hs (y_move rfl) trivial rfl rfl fun a hs => ?_
  refine st_val hs (y_neq rfl rfl) trivial rfl rfl fun a hs => ?_
  refine wpList_nil ?_
  refine then_normal ?_
  refine wp_cond_split (hs.ev rfl) (fun h28 => ?_) (fun h28 => ?_)
  ·have hsh := ite_t hsh h28
   refine wp_seq ?_
   refine wp_region_lit ?_
   refine st_val hs (y_move rfl) trivial rfl rfl fun a hs => ?_
   refine st_val hs (y_assign rfl) trivial rfl rfl fun a hs => ?_
   refine st_val hs (y_assign rfl) trivial rfl rfl fun a hs => ?_
   refine wpList_nil ?_
   refine then_normal ?_
   have hsh := Option.some.inj hsh
   subst hsh
   have hw := hw.nilRow Int 3
   refine wp_ret ?_
   refine then_ret ?_
   exact ret2 hs rfl (rv_tmp rfl) (rv_tmp rfl) (hw.ret ⟨none, 0, [], rfl, (hw.outs [0] (by decide) rfl), (hw.envAt 0 rfl)⟩)
  ·have hsh := ite_f hsh h28
   refine wp_skip ?_
   refine then_normal ?_
   refine wp_seq ?_
   refine wp_region_lit ?_
   refine st_val hs (y_loadBA (hw.ownAt 0 rfl) rfl Try.isAgg28 Try.sizeOf28 rfl rfl) trivial rfl rfl fun a hs => ?_
   refine st_val hs (y_move rfl) trivial rfl rfl fun a hs => ?_
   refine st_val hs (y_move rfl) trivial rfl rfl fun a hs => ?_
   obtain ⟨rv30, h29, hsh⟩ := bind_t hsh
   refine st_callR hs (filter_outputs_ok h29 hw.dom (hw.envAt 1 rfl) (hw.envAt 0 rfl)) (do_call Try.call41 rfl) trivial rfl rfl ?_
   intro v38 Sv35 w a h36 h37 hs
   obtain ⟨p31, k32, c34, rfl, h39, h33⟩ := h37
   have hw := hw.callN h36 h39
   have hw := hw.addE (e := RowA c34 rv30) h33
   refine st_val hs (y_assign rfl) trivial rfl rfl fun a hs => ?_
   refine st_val hs (y_assign rfl) trivial rfl rfl fun a hs => ?_
   refine wpList_nil ?_
   refine then_normal ?_
   have hsh := Option.some.inj hsh
   subst hsh
   refine wp_ret ?_
   exact ret2 hs rfl (rv_tmp rfl) (rv_tmp rfl) (hw.ret ⟨p31, k32, c34, rfl, (hw.outs [0] (by decide) rfl), (hw.envAt 0 rfl)⟩)

abbrev ref05_Same_rd (w0 : World) (X : List Nat) (r : Bool) : (Nat → Prop) → World → Value → Prop := fun S w v => v = .bool r
set_option maxHeartbeats 4000000 in
set_option maxRecDepth 100000 in
theorem ref05_Same_ok {w0 : World} {S0 : Nat → Prop} {p2 : Option Addr} {k3 : Nat} {p6 : Option Addr} {k7 : Nat} {a1 : (List Int)} {b5 : (List Int)} {r : Bool} (hsh : ref05_Same a1 b5 = some r) (hS : ∀ b, S0 b → b < w0.heap.size) (h4 : (SlA p2 a1.length k3 a1).p S0 w0) (h8 : (SlA p6 b5.length k7 b5).p S0 w0) : Calls Try.prog 23 #[.slice p2 a1.length k3, .slice p6 b5.length k7] w0 (Ret ([]) w0 S0 (ref05_Same_rd w0 ([]) r)) := by
 refine calls_of_wp Try.func23 rfl ?_
 have hs := Sl.enter #[.slice p2 a1.length k3, .slice p6 b5.length k7] 26 [(0, .slice p2 a1.length k3), (1, .slice p6 b5.length k7)] rfl ⟨rfl, rfl, trivial⟩
 have hw := Wd.enter (E := []) hS (fun _ h => (by cases h))
 have hw := hw.addE h4
 have hw := hw.addE h8
 delta ref05_Same at hsh
 refine wp_seq ?_
 refine wp_region_lit ?_
 refine st_val hs (y_assign rfl) trivial rfl rfl fun a hs => ?_
 refine wpList_nil ?_
 refine then_normal ?_
 refine wp_seq ?_
 refine wp_seq ?_
 refine wp_region_lit ?_
 refine st_val hs (y_move rfl) trivial rfl rfl fun a hs => ?_
 refine st_val hs (y_len Try.runUnderlying22 rfl) trivial rfl rfl fun a hs => ?_
 refine st_val hs (y_move rfl) trivial rfl rfl fun a hs => ?_
 refine st_val hs (y_len Try.runUnderlying22 rfl) trivial rfl rfl fun a hs => ?_
 refine st_val hs (y_neq rfl rfl) trivial rfl rfl fun a hs => ?_
 refine wpList_nil ?_
 refine then_normal ?_
 refine wp_cond_split (hs.ev rfl) (fun h10 => ?_) (fun h10 => ?_)
 ·have hsh := ite_t hsh h10
  refine wp_seq ?_
  refine wp_region_lit ?_
  refine st_val hs (y_assign rfl) trivial rfl rfl fun a hs => ?_
  refine wpList_nil ?_
  refine then_normal ?_
  have hsh := Option.some.inj hsh
  subst hsh
  refine wp_ret ?_
  refine then_ret ?_
  exact ret1 hs rfl (rv_tmp rfl) (hw.ret rfl)
 ·have hsh := ite_f hsh h10
  refine wp_skip ?_
  refine then_normal ?_
  refine wp_seq ?_
  refine wp_seq ?_
  refine wp_region_lit ?_
  refine st_val hs (y_assign rfl) trivial rfl rfl fun a hs => ?_
  refine wpList_nil ?_
  refine then_normal ?_
  refine wp_block ?_
  refine wp_while (fun sv109 a w => ∃ (Sv173 : Nat → Prop), Sl 26 [(0, .slice p2 a1.length k3), (1, .slice p6 b5.length k7), (5, .int .i64 sv109)] a ∧ Wd ⟨w0, S0, []⟩ Sv173 [] [SlA p2 a1.length k3 a1, SlA p6 b5.length k7 b5] w) 0 hsh ⟨S0, (hs.wk rfl), (hw.ft [] [1, 0] (by decide) rfl rfl)⟩ ?_
  repeat clear hsh
  rintro sv109 a w tv206 ⟨Sv173, hs, hw⟩ hsh hd205
  delta ref05_Same_l2 at hsh
  refine wp_seq ?_
  refine wp_seq ?_
  refine wp_region_lit ?_
  refine st_val hs (y_move rfl) trivial rfl rfl fun a hs => ?_
  refine st_val hs (y_move rfl) trivial rfl rfl fun a hs => ?_
  refine st_val hs (y_len Try.runUnderlying22 rfl) trivial rfl rfl fun a hs => ?_
  refine st_val hs (y_lss rfl rfl) trivial rfl rfl fun a hs => ?_
  refine wpList_nil ?_
  refine then_normal ?_
  refine wp_cond_split (hs.ev rfl) (fun h210 => ?_) (fun h210 => ?_)
  ·have hsh := ite_t hsh h210
   refine wp_skip ?_
   refine then_normal ?_
   refine wp_seq ?_
   refine wp_block ?_
   refine wp_seq ?_
   obtain ⟨x241, h239, hsh⟩ := bind_t hsh
   obtain ⟨b247, o248, q245, c246, h249, h242, h243, h244, h240⟩ := hw.elemV 0 rfl h239
   have hsv250 := hs
   have hwv251 := hw
   subst h249
   have hs := hsv250
   have hw := hwv251
   obtain ⟨_, rfl, rfl⟩ := h240
   have hw := hw.addE h244
   obtain ⟨x254, h252, hsh⟩ := bind_t hsh
   obtain ⟨b260, o261, q258, c259, h262, h255, h256, h257, h253⟩ := hw.elemV 2 rfl h252
   have hsv263 := hs
   have hwv264 := hw
   subst h262
   have hs := hsv263
   have hw := hwv264
   obtain ⟨_, rfl, rfl⟩ := h253
   have hw := hw.addE h257
   refine wp_only (fun a w => ∃ (Sv265 : Nat → Prop), Sl 26 [(0, .slice (some ⟨b247, o248, none⟩) a1.length k3), (1, .slice (some ⟨b260, o261, none⟩) b5.length k7), (5, .int .i64 sv109), (25, .bool (x241 != x254))] a ∧ Wd ⟨w0, S0, []⟩ Sv265 [] [SlA (some ⟨b247, o248, none⟩) a1.length k3 a1, SlA (some ⟨b260, o261, none⟩) b5.length k7 b5] w) ?_ ?_
   ·refine h_b (C := Cls [] [CeA b260 q258 [.int .i64 x254], CeA b247 q245 [.int .i64 x241]]) (by kernel_rfl) rfl (hw.drew.cs [] [0, 1] rfl rfl) fun hC => ?_
    have hw := hw.drew
    refine h_g hs 0 rfl (by kernel_rfl) rfl rfl hC rfl (fun w hC => y_move rfl) fun a hs => ?_
    refine h_g hs 1 rfl (by kernel_rfl) rfl rfl hC rfl (fun w hC => y_move rfl) fun a hs => ?_
    refine h_g hs 2 rfl (by kernel_rfl) rfl rfl hC rfl (fun w hC => y_indexAt Try.runUnderlying22 Try.sizeOf3 rfl rfl h242.1 h242.2 h243) fun a hs => ?_
    refine h_g hs 3 rfl (by kernel_rfl) rfl rfl hC rfl (fun w hC => y_loadE1 (j := 0) (hC.ceAt 1 rfl) rfl Try.isAgg3 rfl) fun a hs => ?_
    refine h_g hs 4 rfl (by kernel_rfl) rfl rfl hC rfl (fun w hC => y_move rfl) fun a hs => ?_
    refine h_g hs 5 rfl (by kernel_rfl) rfl rfl hC rfl (fun w hC => y_move rfl) fun a hs => ?_
    refine h_g hs 6 rfl (by kernel_rfl) rfl rfl hC rfl (fun w hC => y_indexAt Try.runUnderlying22 Try.sizeOf3 rfl rfl h255.1 h255.2 h256) fun a hs => ?_
    refine h_g hs 7 rfl (by kernel_rfl) rfl rfl hC rfl (fun w hC => y_loadE1 (j := 0) (hC.ceAt 0 rfl) rfl Try.isAgg3 rfl) fun a hs => ?_
    refine h_g hs 8 rfl (by kernel_rfl) rfl rfl hC rfl (fun w hC => y_neq rfl rfl) fun a hs => ?_
    refine h_done (by kernel_rfl) ?_
    exact ⟨Sv173, (hs.wk rfl), (hw.ft [] [2, 3] (by decide) rfl rfl)⟩
   ·rintro a w ⟨Sv265, hs, hw⟩
    refine then_normal ?_
    refine wp_cond_split (hs.ev rfl) (fun h267 => ?_) (fun h267 => ?_)
    ·have hsh := ite_t hsh h267
     refine wp_seq ?_
     refine wp_region_lit ?_
     refine st_val hs (y_assign rfl) trivial rfl rfl fun a hs => ?_
     refine wpList_nil ?_
     refine then_normal ?_
     have hsh := Option.some.inj hsh
     subst hsh
     have h268 := hd205 _ rfl
     subst h268
     refine wp_ret ?_
     refine blk_ret ?_
     refine then_ret ?_
     refine then_ret ?_
     refine blk_ret ?_
     refine then_ret ?_
     exact ret1 hs rfl (rv_tmp rfl) (hw.ret rfl)
    ·have hsh := ite_f hsh h267
     refine wp_skip ?_
     refine blk_normal ?_
     refine then_normal ?_
     refine wp_region_lit ?_
     refine st_val hs (y_move rfl) trivial rfl rfl fun a hs => ?_
     refine st_val hs (y_add rfl rfl) trivial rfl rfl fun a hs => ?_
     obtain ⟨i270, h269, hsh⟩ := bind_t hsh
     refine st_val hs (y_assignI rfl h269) trivial rfl rfl fun a hs => ?_
     refine wpList_nil ?_
     refine then_normal ?_
     exact ⟨_, (Option.some.inj hsh).symm, Sv265, (hs.wk rfl), (hw.ft [] [0, 1] (by decide) rfl rfl)⟩
  ·have hsh := ite_f hsh h210
   obtain ⟨rv271, hsh, h272⟩ := map_t hsh
   have h272 := (hd205 _ h272.symm).symm
   subst h272
   refine wp_exit ?_
   refine then_exit ?_
   refine then_exit ?_
   refine blk_exit ?_
   refine then_normal ?_
   refine wp_seq ?_
   refine wp_region_lit ?_
   refine st_val hs (y_assign rfl) trivial rfl rfl fun a hs => ?_
   refine wpList_nil ?_
   refine then_normal ?_
   have hsh := Option.some.inj hsh
   subst hsh
   refine wp_ret ?_
   exact ret1 hs rfl (rv_tmp rfl) (hw.ret rfl)

abbrev law21_sane_rd (w0 : World) (X : List Nat) (r : Bool) : (Nat → Prop) → World → Value → Prop := fun S w v => v = .bool r
set_option maxHeartbeats 4000000 in
set_option maxRecDepth 100000 in
theorem law21_sane_ok {w0 : World} {S0 : Nat → Prop} {r : Bool} (hsh : law21_sane = some r) (hS : ∀ b, S0 b → b < w0.heap.size) : Calls Try.prog 11 #[] w0 (Ret ([]) w0 S0 (law21_sane_rd w0 ([]) r)) := by
 refine calls_of_wp Try.func11 rfl ?_
 have hs := Sl.enter #[] 41 [] rfl trivial
 have hw := Wd.enter (E := []) hS (fun _ h => (by cases h))
 delta law21_sane at hsh
 refine wp_seq ?_
 refine wp_region_lit ?_
 refine st_val hs (y_assign rfl) trivial rfl rfl fun a hs => ?_
 refine wpList_nil ?_
 refine then_normal ?_
 refine wp_seq ?_
 refine wp_region_lit ?_
 refine w_litSlice (α := Int) (vs := [.int .i64 1, .int .i64 1]) (cs := [.int .i64 1, .int .i64 1]) (xs := ([1, 1] : List Int)) hs hw El22 rfl rfl rfl rfl rfl rfl ⟨⟨_, rfl, rfl⟩, ⟨⟨_, rfl, rfl⟩, rfl⟩⟩ rfl trivial rfl fun b2 a w hs hw => ?_
 refine st_val hs (y_build (vs := [(0, .slice (some ⟨b2, 0, none⟩) ([1, 1] : List Int).length ([1, 1] : List Int).length), (1, .int .i64 1), (2, .int .i64 1)]) Bld28 rfl rfl) trivial rfl rfl fun a hs => ?_
 refine w_alloc (cs := [.slice none ([] : List Int).length 0, .int .i64 0, .int .i64 0]) hs hw Try.zeroValue28 rfl rfl trivial ?_
 intro b3 a w hs hw
 refine w_store (m := 3) (cs' := [.slice (some ⟨b2, 0, none⟩) ([1, 1] : List Int).length ([1, 1] : List Int).length, .int .i64 1, .int .i64 1]) hs hw 0 rfl rfl rfl Try.sizeOf28 rfl rfl rfl rfl trivial ?_
 intro a w hs hw
 refine wpList_nil ?_
 refine then_normal ?_
 refine wp_seq ?_
 refine wp_region_lit ?_
 refine st_val hs (y_loadBA (hw.ownAt 0 rfl) rfl Try.isAgg28 Try.sizeOf28 rfl rfl) trivial rfl rfl fun a hs => ?_
 refine w_litSlice (α := Int) (vs := [.int .i64 4, .int .i64 6, .int .i64 9]) (cs := [.int .i64 4, .int .i64 6, .int .i64 9]) (xs := ([4, 6, 9] : List Int)) hs hw El22 rfl rfl rfl rfl rfl rfl ⟨⟨_, rfl, rfl⟩, ⟨⟨_, rfl, rfl⟩, ⟨⟨_, rfl, rfl⟩, rfl⟩⟩⟩ rfl trivial rfl fun b5 a w hs hw => ?_
 obtain ⟨rv7, h6, hsh⟩ := bind_t hsh
 obtain ⟨Sv12, hw⟩ := w_share (α := Int) hw 2 rfl 1 rfl
 obtain ⟨Sv13, hw⟩ := w_share (α := Int) hw 0 rfl 1 rfl
 refine st_callR hs (filter_Apply_ok h6 hw.dom (hw.envAt 1 rfl) (hw.envAt 0 rfl)) (do_call Try.call14 rfl) trivial rfl rfl ?_
 intro v17 Sv14 w a h15 h16 hs
 obtain ⟨p8, k9, c11, rfl, h18, h10⟩ := h16
 have hw := hw.callN h15 h18
 have hw := hw.addE (e := RowA c11 rv7.1) h10
 refine st_val hs (y_move rfl) trivial rfl rfl fun a hs => ?_
 refine st_val hs (y_extract rfl rfl) trivial rfl rfl fun a hs => ?_
 refine st_val hs (y_extract rfl rfl) trivial rfl rfl fun a hs => ?_
 refine st_val hs (y_assign rfl) trivial rfl rfl fun a hs => ?_
 refine st_val hs (y_assign rfl) trivial rfl rfl fun a hs => ?_
 refine wpList_nil ?_
 refine then_normal ?_
 refine wp_seq ?_
 refine wp_region_lit ?_
 refine st_val hs (y_fieldAddr (o' := 1) Try.runUnderlying28 rfl Try.sizeOf3 rfl rfl rfl) trivial rfl rfl fun a hs => ?_
 refine w_store (m := 1) (cs' := [.slice (some ⟨b2, 0, none⟩) ([1, 1] : List Int).length ([1, 1] : List Int).length, .int .i64 2, .int .i64 1]) hs hw 1 rfl rfl rfl Try.sizeOf3 rfl rfl rfl rfl trivial ?_
 intro a w hs hw
 refine wpList_nil ?_
 refine then_normal ?_
 refine wp_seq ?_
 refine wp_region_lit ?_
 refine st_val hs (y_loadBA (hw.ownAt 1 rfl) rfl Try.isAgg28 Try.sizeOf28 rfl rfl) trivial rfl rfl fun a hs => ?_
 refine w_litSlice (α := Int) (vs := [.int .i64 4, .int .i64 6, .int .i64 9]) (cs := [.int .i64 4, .int .i64 6, .int .i64 9]) (xs := ([4, 6, 9] : List Int)) hs hw El22 rfl rfl rfl rfl rfl rfl ⟨⟨_, rfl, rfl⟩, ⟨⟨_, rfl, rfl⟩, ⟨⟨_, rfl, rfl⟩, rfl⟩⟩⟩ rfl trivial rfl fun b20 a w hs hw => ?_
 obtain ⟨rv22, h21, hsh⟩ := bind_t hsh
 obtain ⟨Sv27, hw⟩ := w_share (α := Int) hw 0 rfl 0 rfl
 refine st_callR hs (filter_Apply_ok h21 hw.dom (hw.envAt 4 rfl) (hw.envAt 0 rfl)) (do_call Try.call14 rfl) trivial rfl rfl ?_
 intro v31 Sv28 w a h29 h30 hs
 obtain ⟨p23, k24, c26, rfl, h32, h25⟩ := h30
 have hw := hw.callN h29 h32
 have hw := hw.addE (e := RowA c26 rv22.1) h25
 refine st_val hs (y_move rfl) trivial rfl rfl fun a hs => ?_
 refine st_val hs (y_extract rfl rfl) trivial rfl rfl fun a hs => ?_
 refine st_val hs (y_extract rfl rfl) trivial rfl rfl fun a hs => ?_
 refine st_val hs (y_assign rfl) trivial rfl rfl fun a hs => ?_
 refine st_val hs (y_assign rfl) trivial rfl rfl fun a hs => ?_
 refine wpList_nil ?_
 refine then_normal ?_
 refine wp_seq ?_
 refine wp_region_lit ?_
 refine st_val hs (y_move rfl) trivial rfl rfl fun a hs => ?_
 refine st_val hs (y_eql rfl rfl) trivial rfl rfl fun a hs => ?_
 refine st_val hs (y_move rfl) trivial rfl rfl fun a hs => ?_
 refine wpl_join 3 (fun a w1 => w = w1 ∧ Sl 41 [(1, .pointer (some ⟨b3, 0, none⟩)), (2, .slice p8 rv7.1.length k9), (4, .slice p23 rv22.1.length k24), (26, .bool ((rv7.2 == 0) && (rv22.2 == 0)))] a) ?_ ?_
 ·rcases Bool.eq_false_or_eq_true (rv7.2 == 0) with h33 | h33
  ·have hs := hs.fix 23 (.bool true) rfl (vb h33)
   refine st_val hs (y_move rfl) ⟨_, rfl, rfl⟩ rfl rfl fun a hs => ?_
   refine st_val hs (y_eql rfl rfl) ⟨_, rfl, rfl⟩ rfl rfl fun a hs => ?_
   refine st_val hs (y_pickT rfl rfl) trivial rfl rfl fun a hs => ?_
   refine wpList_nil ?_
   refine then_normal ?_
   exact ⟨rfl, (hs.fix 26 (.bool ((rv7.2 == 0) && (rv22.2 == 0))) rfl (and_t h33)).weaken _ ⟨rfl, rfl, rfl, rfl, trivial⟩⟩
  ·have hs := hs.fix 23 (.bool false) rfl (vb h33)
   refine st_skip hs rfl rfl rfl rfl rfl fun a hs => ?_
   refine st_skip hs rfl rfl rfl rfl rfl fun a hs => ?_
   refine st_val hs (y_pickF rfl rfl) trivial rfl rfl fun a hs => ?_
   refine wpList_nil ?_
   refine then_normal ?_
   exact ⟨rfl, (hs.fix 26 (.bool ((rv7.2 == 0) && (rv22.2 == 0))) rfl (and_f h33)).weaken _ ⟨rfl, rfl, rfl, rfl, trivial⟩⟩
 ·rintro a w1 ⟨h93, hs⟩
  subst h93
  refine st_val hs (y_move rfl) trivial rfl rfl fun a hs => ?_
  obtain ⟨c44, hc44, hsh⟩ := bind_t hsh
  refine wpl_join 4 (fun a w => ∃ (Sv45 : Nat → Prop), Sl 41 [(1, .pointer (some ⟨b3, 0, none⟩)), (4, .slice p23 rv22.1.length k24), (31, .bool c44)] a ∧ Wd ⟨w0, S0, []⟩ Sv45 [.box b3 [.slice (some ⟨b2, 0, none⟩) ([1, 1] : List Int).length ([1, 1] : List Int).length, .int .i64 2, .int .i64 1] 28, .row p23 rv22.1.length k24 c26 3 1] [SlA (some ⟨b2, 0, none⟩) ([1, 1] : List Int).length ([1, 1] : List Int).length ([1, 1] : List Int), RowA c26 rv22.1] w) ?_ ?_
  ·rcases Bool.eq_false_or_eq_true ((rv7.2 == 0) && (rv22.2 == 0)) with h43 | h43
   ·have hs := hs.fix 27 (.bool true) rfl (vb h43)
    have hsh := ite_t hc44 h43
    refine st_val hs (y_move rfl) ⟨_, rfl, rfl⟩ rfl rfl fun a hs => ?_
    refine w_litSlice (α := Int) (vs := [.int .i64 5, .int .i64 7]) (cs := [.int .i64 5, .int .i64 7]) (xs := ([5, 7] : List Int)) hs hw El22 rfl rfl rfl rfl rfl rfl ⟨⟨_, rfl, rfl⟩, ⟨⟨_, rfl, rfl⟩, rfl⟩⟩ rfl ⟨_, rfl, rfl⟩ rfl fun b47 a w hs hw => ?_
    obtain ⟨rv49, h48, hsh⟩ := bind_t hsh
    refine st_callR hs (ref05_Same_ok h48 hw.bdom (hw.bRow 2 rfl 4 rfl) (hw.bRow 0 rfl 0 rfl)) (do_call Try.call23 rfl) ⟨_, rfl, rfl⟩ rfl rfl ?_
    intro v53 Sv50 w a h51 h52 hs
    subst h52
    have hw := hw.callB h51
    refine st_val hs (y_pickT rfl rfl) trivial rfl rfl fun a hs => ?_
    refine wpList_nil ?_
    have hsh := Option.some.inj hsh
    subst hsh
    refine then_normal ?_
    exact ⟨Sv28, (hs.wk rfl), (hw.ft [3, 1] [6, 1] (by decide) rfl rfl)⟩
   ·have hs := hs.fix 27 (.bool false) rfl (vb h43)
    have hsh := ite_f hc44 h43
    refine st_skip hs rfl rfl rfl rfl rfl fun a hs => ?_
    refine st_skip hs rfl rfl rfl rfl rfl fun a hs => ?_
    refine st_skip hs rfl rfl rfl rfl rfl fun a hs => ?_
    refine st_val hs (y_pickF rfl rfl) trivial rfl rfl fun a hs => ?_
    refine wpList_nil ?_
    have hsh := Option.some.inj hsh
    subst hsh
    refine then_normal ?_
    exact ⟨Sv28, (hs.wk rfl), (hw.ft [2, 0] [5, 0] (by decide) rfl rfl)⟩
  ·rintro a w ⟨Sv45, hs, hw⟩
   refine st_val hs (y_move rfl) trivial rfl rfl fun a hs => ?_
   obtain ⟨c65, hc65, hsh⟩ := bind_t hsh
   refine wpl_join 4 (fun a w => ∃ (Sv66 : Nat → Prop), Sl 41 [(1, .pointer (some ⟨b3, 0, none⟩)), (36, .bool c65)] a ∧ Wd ⟨w0, S0, []⟩ Sv66 [.box b3 [.slice (some ⟨b2, 0, none⟩) ([1, 1] : List Int).length ([1, 1] : List Int).length, .int .i64 2, .int .i64 1] 28] [SlA (some ⟨b2, 0, none⟩) ([1, 1] : List Int).length ([1, 1] : List Int).length ([1, 1] : List Int)] w) ?_ ?_
   ·rcases Bool.eq_false_or_eq_true c44 with h64 | h64
    ·have hs := hs.fix 32 (.bool true) rfl (vb h64)
     have hsh := ite_t hc65 h64
     refine st_val hs (y_move rfl) ⟨_, rfl, rfl⟩ rfl rfl fun a hs => ?_
     refine w_litSlice (α := Int) (vs := [.int .i64 7]) (cs := [.int .i64 7]) (xs := ([7] : List Int)) hs hw El22 rfl rfl rfl rfl rfl rfl ⟨⟨_, rfl, rfl⟩, rfl⟩ rfl ⟨_, rfl, rfl⟩ rfl fun b68 a w hs hw => ?_
     obtain ⟨rv70, h69, hsh⟩ := bind_t hsh
     refine st_callR hs (ref05_Same_ok h69 hw.bdom (hw.bRow 2 rfl 2 rfl) (hw.bRow 0 rfl 0 rfl)) (do_call Try.call23 rfl) ⟨_, rfl, rfl⟩ rfl rfl ?_
     intro v74 Sv71 w a h72 h73 hs
     subst h73
     have hw := hw.callB h72
     refine st_val hs (y_pickT rfl rfl) trivial rfl rfl fun a hs => ?_
     refine wpList_nil ?_
     have hsh := Option.some.inj hsh
     subst hsh
     refine then_normal ?_
     exact ⟨Sv45, (hs.wk rfl), (hw.ft [1] [1] (by decide) rfl rfl)⟩
    ·have hs := hs.fix 32 (.bool false) rfl (vb h64)
     have hsh := ite_f hc65 h64
     refine st_skip hs rfl rfl rfl rfl rfl fun a hs => ?_
     refine st_skip hs rfl rfl rfl rfl rfl fun a hs => ?_
     refine st_skip hs rfl rfl rfl rfl rfl fun a hs => ?_
     refine st_val hs (y_pickF rfl rfl) trivial rfl rfl fun a hs => ?_
     refine wpList_nil ?_
     have hsh := Option.some.inj hsh
     subst hsh
     refine then_normal ?_
     exact ⟨Sv45, (hs.wk rfl), (hw.ft [0] [0] (by decide) rfl rfl)⟩
   ·rintro a w ⟨Sv66, hs, hw⟩
    refine st_val hs (y_move rfl) trivial rfl rfl fun a hs => ?_
    obtain ⟨c84, hc84, hsh⟩ := bind_t hsh
    refine wpl_join 3 (fun a w => ∃ (Sv85 : Nat → Prop), Sl 41 [(40, .bool c84)] a ∧ Wd ⟨w0, S0, []⟩ Sv85 [] [] w) ?_ ?_
    ·rcases Bool.eq_false_or_eq_true c65 with h83 | h83
     ·have hs := hs.fix 37 (.bool true) rfl (vb h83)
      have hsh := ite_t hc84 h83
      refine st_val hs (y_loadBA (hw.ownAt 0 rfl) rfl Try.isAgg28 Try.sizeOf28 rfl rfl) ⟨_, rfl, rfl⟩ rfl rfl fun a hs => ?_
      obtain ⟨rv87, h86, hsh⟩ := bind_t hsh
      refine st_callR hs (filter_Valid_ok h86 hw.bdom (hw.bE 0 rfl)) (do_call Try.call32 rfl) ⟨_, rfl, rfl⟩ rfl rfl ?_
      intro v91 Sv88 w a h89 h90 hs
      subst h90
      have hw := hw.callB h89
      refine st_val hs (y_pickT rfl rfl) trivial rfl rfl fun a hs => ?_
      refine wpList_nil ?_
      have hsh := Option.some.inj hsh
      subst hsh
      refine then_normal ?_
      exact ⟨Sv66, (hs.wk rfl), (hw.ft [] [] (by decide) rfl rfl)⟩
     ·have hs := hs.fix 37 (.bool false) rfl (vb h83)
      have hsh := ite_f hc84 h83
      refine st_skip hs rfl rfl rfl rfl rfl fun a hs => ?_
      refine st_skip hs rfl rfl rfl rfl rfl fun a hs => ?_
      refine st_val hs (y_pickF rfl rfl) trivial rfl rfl fun a hs => ?_
      refine wpList_nil ?_
      have hsh := Option.some.inj hsh
      subst hsh
      refine then_normal ?_
      exact ⟨Sv66, (hs.wk rfl), (hw.ft [] [] (by decide) rfl rfl)⟩
    ·rintro a w ⟨Sv85, hs, hw⟩
     refine st_val hs (y_assign rfl) trivial rfl rfl fun a hs => ?_
     refine wpList_nil ?_
     refine then_normal ?_
     have hsh := Option.some.inj hsh
     subst hsh
     refine wp_ret ?_
     exact ret1 hs rfl (rv_tmp rfl) (hw.ret rfl)

abbrev made_Roll_rd (w0 : World) (X : List Nat) (r : Dice) : (Nat → Prop) → World → Value → Prop := fun S w v => ∃ (b_0 : Nat) (p0_0 : Option Addr) (k0_0 : Nat), v = .pointer (some ⟨b_0, 0, none⟩) ∧ Outs X w0 S w [.box b_0 [.slice p0_0 r.L.length k0_0, .int .i64 r.At] 75] ∧ (SlA p0_0 r.L.length k0_0 r.L).p S w
set_option maxHeartbeats 4000000 in
set_option maxRecDepth 100000 in
theorem made_Roll_ok {w0 : World} {S0 : Nat → Prop} {p2 : Option Addr} {k3 : Nat} {l1 : (List Int)} {r : Dice} (hsh : made_Roll l1 = some r) (hS : ∀ b, S0 b → b < w0.heap.size) (h4 : (SlA p2 l1.length k3 l1).p S0 w0) : Calls Try.prog 12 #[.slice p2 l1.length k3] w0 (Ret ([]) w0 S0 (made_Roll_rd w0 ([]) r)) := by
 refine calls_of_wp Try.func12 rfl ?_
 have hs := Sl.enter #[.slice p2 l1.length k3] 6 [(0, .slice p2 l1.length k3)] rfl ⟨rfl, trivial⟩
 have hw := Wd.enter (E := []) hS (fun _ h => (by cases h))
 have hw := hw.addE h4
 delta made_Roll at hsh
 refine wp_seq ?_
 refine wp_region_lit ?_
 refine st_val hs (y_assign rfl) trivial rfl rfl fun a hs => ?_
 refine wpList_nil ?_
 refine then_normal ?_
 refine wp_seq ?_
 refine wp_region_lit ?_
 refine st_val hs (y_move rfl) trivial rfl rfl fun a hs => ?_
 refine st_val hs (y_build (vs := [(0, .slice p2 l1.length k3)]) Bld75 rfl rfl) trivial rfl rfl fun a hs => ?_
 refine w_box (cs := [.slice p2 l1.length k3, .int .i64 0]) hs hw rfl rfl rfl trivial ?_
 intro b5 a w hs hw
 refine st_val hs (y_assign rfl) trivial rfl rfl fun a hs => ?_
 refine wpList_nil ?_
 refine then_normal ?_
 have hsh := Option.some.inj hsh
 subst hsh
 refine wp_ret ?_
 exact ret1 hs rfl (rv_tmp rfl) (hw.ret ⟨b5, p2, k3, rfl, (hw.outs [0] (by decide) rfl), (hw.envAt 0 rfl)⟩)

abbrev made_Dice_Next_rd (w0 : World) (X : List Nat) (b2 : Nat) (r : (Int × Dice)) : (Nat → Prop) → World → Value → Prop := fun S w v => ∃ (pq0_0 : Option Addr) (kq0_0 : Nat), v = .int .i64 r.1 ∧ Outs X w0 S w [.box b2 [.slice pq0_0 r.2.L.length kq0_0, .int .i64 r.2.At] 75] ∧ (SlA pq0_0 r.2.L.length kq0_0 r.2.L).p S w
set_option maxHeartbeats 4000000 in
set_option maxRecDepth 100000 in
theorem made_Dice_Next_ok {w0 : World} {S0 : Nat → Prop} {b2 : Nat} {p3 : Option Addr} {k4 : Nat} {d1 : Dice} {n6 : Int} {r : (Int × Dice)} (hsh : made_Dice_Next d1 n6 = some r) (hS : ∀ b, S0 b → b < w0.heap.size) (hin : Ins S0 w0 [.box b2 [.slice p3 d1.L.length k4, .int .i64 d1.At] 75]) (h5 : (SlA p3 d1.L.length k4 d1.L).p S0 w0) : Calls Try.prog 15 #[.pointer (some ⟨b2, 0, none⟩), .int .i64 n6] w0 (Ret (blks [.box b2 [.slice p3 d1.L.length k4, .int .i64 d1.At] 75]) w0 S0 (made_Dice_Next_rd w0 (blks [.box b2 [.slice p3 d1.L.length k4, .int .i64 d1.At] 75]) b2 r)) := by
 refine calls_of_wp Try.func15 rfl ?_
 have hs := Sl.enter #[.pointer (some ⟨b2, 0, none⟩), .int .i64 n6] 45 [(0, .pointer (some ⟨b2, 0, none⟩)), (1, .int .i64 n6)] rfl ⟨rfl, rfl, trivial⟩
 have hw := Wd.enterI hS hin
 have hw := hw.addE h5
 delta made_Dice_Next at hsh
 refine wp_seq ?_
 refine wp_region_lit ?_
 refine st_val hs (y_assign rfl) trivial rfl rfl fun a hs => ?_
 refine wpList_nil ?_
 refine then_normal ?_
 refine wp_seq ?_
 refine wp_seq ?_
 refine wp_only (fun a w => ∃ (Sv7 : Nat → Prop), Sl 45 [(0, .pointer (some ⟨b2, 0, none⟩)), (1, .int .i64 n6), (19, .bool ((decide ((d1.L.length : Int) ≤ d1.At)) || (decide (n6 < 1))))] a ∧ Wd ⟨w0, S0, blks [.box b2 [.slice p3 d1.L.length k4, .int .i64 d1.At] 75]⟩ Sv7 [.box b2 [.slice p3 d1.L.length k4, .int .i64 d1.At] 75] [SlA p3 d1.L.length k4 d1.L] w) ?_ ?_
 ·rcases Bool.eq_false_or_eq_true (decide ((d1.L.length : Int) ≤ d1.At)) with h8 | h8
  ·refine h_b (C := Cls [.box b2 [.slice p3 d1.L.length k4, .int .i64 d1.At] 75] []) (by kernel_rfl) rfl (hw.drew.cs [0] [] rfl rfl) fun hC => ?_
   have hw := hw.drew
   refine h_g hs 0 rfl (by kernel_rfl) rfl rfl hC rfl (fun w hC => y_move rfl) fun a hs => ?_
   refine h_g hs 1 rfl (by kernel_rfl) rfl rfl hC rfl (fun w hC => y_nilCheck rfl) fun a hs => ?_
   refine h_g hs 2 rfl (by kernel_rfl) rfl rfl hC rfl (fun w hC => y_fieldAddr (o' := 1) Try.runUnderlying75 rfl Try.sizeOf3 rfl rfl rfl) fun a hs => ?_
   refine h_g hs 3 rfl (by kernel_rfl) rfl rfl hC rfl (fun w hC => y_loadB1 (hC.ownAt 0 rfl) rfl Try.isAgg3 rfl) fun a hs => ?_
   refine h_g hs 4 rfl (by kernel_rfl) rfl rfl hC rfl (fun w hC => y_move rfl) fun a hs => ?_
   refine h_g hs 5 rfl (by kernel_rfl) rfl rfl hC rfl (fun w hC => y_nilCheck rfl) fun a hs => ?_
   refine h_g hs 6 rfl (by kernel_rfl) rfl rfl hC rfl (fun w hC => y_fieldAddr (o' := 0) Try.runUnderlying75 rfl Try.sizeOf22 rfl rfl rfl) fun a hs => ?_
   refine h_g hs 7 rfl (by kernel_rfl) rfl rfl hC rfl (fun w hC => y_loadB1 (hC.ownAt 0 rfl) rfl Try.isAgg22 rfl) fun a hs => ?_
   refine h_g hs 8 rfl (by kernel_rfl) rfl rfl hC rfl (fun w hC => y_len Try.runUnderlying22 rfl) fun a hs => ?_
   refine h_g hs 9 rfl (by kernel_rfl) rfl rfl hC rfl (fun w hC => y_geq rfl rfl) fun a hs => ?_
   refine h_g hs 10 rfl (by kernel_rfl) rfl rfl hC rfl (fun w hC => y_move rfl) fun a hs => ?_
   have hs := hs.fix 16 (.bool true) rfl (vb h8)
   refine h_s hs 11 rfl (by kernel_rfl) rfl rfl rfl (.inl rfl) rfl rfl hC fun a hs => ?_
   refine h_s hs 12 rfl (by kernel_rfl) rfl rfl rfl (.inl rfl) rfl rfl hC fun a hs => ?_
   refine h_g hs 13 rfl (by kernel_rfl) rfl rfl hC rfl (fun w hC => y_pickTE (v := .bool ((decide ((d1.L.length : Int) ≤ d1.At)) || (decide (n6 < 1)))) rfl rfl (or_t h8)) fun a hs => ?_
   refine h_done (by kernel_rfl) ?_
   exact ⟨S0, (hs.wk rfl), (hw.ft [0] [0] (by decide) rfl rfl)⟩
  ·refine h_b (C := Cls [.box b2 [.slice p3 d1.L.length k4, .int .i64 d1.At] 75] []) (by kernel_rfl) rfl (hw.drew.cs [0] [] rfl rfl) fun hC => ?_
   have hw := hw.drew
   refine h_g hs 0 rfl (by kernel_rfl) rfl rfl hC rfl (fun w hC => y_move rfl) fun a hs => ?_
   refine h_g hs 1 rfl (by kernel_rfl) rfl rfl hC rfl (fun w hC => y_nilCheck rfl) fun a hs => ?_
   refine h_g hs 2 rfl (by kernel_rfl) rfl rfl hC rfl (fun w hC => y_fieldAddr (o' := 1) Try.runUnderlying75 rfl Try.sizeOf3 rfl rfl rfl) fun a hs => ?_
   refine h_g hs 3 rfl (by kernel_rfl) rfl rfl hC rfl (fun w hC => y_loadB1 (hC.ownAt 0 rfl) rfl Try.isAgg3 rfl) fun a hs => ?_
   refine h_g hs 4 rfl (by kernel_rfl) rfl rfl hC rfl (fun w hC => y_move rfl) fun a hs => ?_
   refine h_g hs 5 rfl (by kernel_rfl) rfl rfl hC rfl (fun w hC => y_nilCheck rfl) fun a hs => ?_
   refine h_g hs 6 rfl (by kernel_rfl) rfl rfl hC rfl (fun w hC => y_fieldAddr (o' := 0) Try.runUnderlying75 rfl Try.sizeOf22 rfl rfl rfl) fun a hs => ?_
   refine h_g hs 7 rfl (by kernel_rfl) rfl rfl hC rfl (fun w hC => y_loadB1 (hC.ownAt 0 rfl) rfl Try.isAgg22 rfl) fun a hs => ?_
   refine h_g hs 8 rfl (by kernel_rfl) rfl rfl hC rfl (fun w hC => y_len Try.runUnderlying22 rfl) fun a hs => ?_
   refine h_g hs 9 rfl (by kernel_rfl) rfl rfl hC rfl (fun w hC => y_geq rfl rfl) fun a hs => ?_
   refine h_g hs 10 rfl (by kernel_rfl) rfl rfl hC rfl (fun w hC => y_move rfl) fun a hs => ?_
   have hs := hs.fix 16 (.bool false) rfl (vb h8)
   refine h_t hs 11 rfl (by kernel_rfl) ⟨_, rfl, rfl⟩ rfl rfl hC (fun w hC => y_move rfl) fun a hs => ?_
   refine h_t hs 12 rfl (by kernel_rfl) ⟨_, rfl, rfl⟩ rfl rfl hC (fun w hC => y_lss rfl rfl) fun a hs => ?_
   refine h_g hs 13 rfl (by kernel_rfl) rfl rfl hC rfl (fun w hC => y_pickFE (v := .bool ((decide ((d1.L.length : Int) ≤ d1.At)) || (decide (n6 < 1)))) rfl rfl (or_f h8)) fun a hs => ?_
   refine h_done (by kernel_rfl) ?_
   exact ⟨S0, (hs.wk rfl), (hw.ft [0] [0] (by decide) rfl rfl)⟩
 ·rintro a w ⟨Sv7, hs, hw⟩
  refine then_normal ?_
  refine wp_cond_split (hs.ev rfl) (fun h12 => ?_) (fun h12 => ?_)
  ·have hsh := ite_t hsh h12
   refine wp_seq ?_
   refine wp_region_lit ?_
   refine st_val hs (y_assign rfl) trivial rfl rfl fun a hs => ?_
   refine wpList_nil ?_
   refine then_normal ?_
   have hsh := Option.some.inj hsh
   subst hsh
   refine wp_ret ?_
   refine then_ret ?_
   exact ret1 hs rfl (rv_tmp rfl) (hw.ret ⟨p3, k4, rfl, (hw.outs [0] (by decide) rfl), (hw.envAt 0 rfl)⟩)
  ·have hsh := ite_f hsh h12
   refine wp_skip ?_
   refine then_normal ?_
   refine wp_seq ?_
   obtain ⟨x15, h13, hsh⟩ := bind_t hsh
   obtain ⟨b21, o22, q19, c20, h23, h16, h17, h18, h14⟩ := hw.elemV 0 rfl h13
   have hsv24 := hs
   have hwv25 := hw
   subst h23
   have hs := hsv24
   have hw := hwv25
   obtain ⟨_, rfl, rfl⟩ := h14
   have hw := hw.addE h18
   obtain ⟨rem27, h26, hsh⟩ := bind_t hsh
   refine wp_only (fun a w => ∃ (Sv28 : Nat → Prop), Sl 45 [(0, .pointer (some ⟨b2, 0, none⟩)), (1, .int .i64 n6), (5, .int .i64 rem27)] a ∧ Wd ⟨w0, S0, blks [.box b2 [.slice (some ⟨b21, o22, none⟩) d1.L.length k4, .int .i64 d1.At] 75]⟩ Sv28 [.box b2 [.slice (some ⟨b21, o22, none⟩) d1.L.length k4, .int .i64 d1.At] 75] [SlA (some ⟨b21, o22, none⟩) d1.L.length k4 d1.L] w) ?_ ?_
   ·refine h_b (C := Cls [.box b2 [.slice (some ⟨b21, o22, none⟩) d1.L.length k4, .int .i64 d1.At] 75] [CeA b21 q19 [.int .i64 x15]]) (by kernel_rfl) rfl (hw.drew.cs [0] [0] rfl rfl) fun hC => ?_
    have hw := hw.drew
    refine h_g hs 0 rfl (by kernel_rfl) rfl rfl hC rfl (fun w hC => y_move rfl) fun a hs => ?_
    refine h_g hs 1 rfl (by kernel_rfl) rfl rfl hC rfl (fun w hC => y_nilCheck rfl) fun a hs => ?_
    refine h_g hs 2 rfl (by kernel_rfl) rfl rfl hC rfl (fun w hC => y_fieldAddr (o' := 0) Try.runUnderlying75 rfl Try.sizeOf22 rfl rfl rfl) fun a hs => ?_
    refine h_g hs 3 rfl (by kernel_rfl) rfl rfl hC rfl (fun w hC => y_loadB1 (hC.ownAt 0 rfl) rfl Try.isAgg22 rfl) fun a hs => ?_
    refine h_g hs 4 rfl (by kernel_rfl) rfl rfl hC rfl (fun w hC => y_move rfl) fun a hs => ?_
    refine h_g hs 5 rfl (by kernel_rfl) rfl rfl hC rfl (fun w hC => y_nilCheck rfl) fun a hs => ?_
    refine h_g hs 6 rfl (by kernel_rfl) rfl rfl hC rfl (fun w hC => y_fieldAddr (o' := 1) Try.runUnderlying75 rfl Try.sizeOf3 rfl rfl rfl) fun a hs => ?_
    refine h_g hs 7 rfl (by kernel_rfl) rfl rfl hC rfl (fun w hC => y_loadB1 (hC.ownAt 0 rfl) rfl Try.isAgg3 rfl) fun a hs => ?_
    refine h_g hs 8 rfl (by kernel_rfl) rfl rfl hC rfl (fun w hC => y_indexAt Try.runUnderlying22 Try.sizeOf3 rfl rfl h16.1 h16.2 h17) fun a hs => ?_
    refine h_g hs 9 rfl (by kernel_rfl) rfl rfl hC rfl (fun w hC => y_loadE1 (j := 0) (hC.ceAt 0 rfl) rfl Try.isAgg3 rfl) fun a hs => ?_
    refine h_g hs 10 rfl (by kernel_rfl) rfl rfl hC rfl (fun w hC => y_move rfl) fun a hs => ?_
    refine h_g hs 11 rfl (by kernel_rfl) rfl rfl hC rfl (fun w hC => y_remM rfl rfl h26) fun a hs => ?_
    refine h_g hs 12 rfl (by kernel_rfl) rfl rfl hC rfl (fun w hC => y_assign rfl) fun a hs => ?_
    refine h_done (by kernel_rfl) ?_
    exact ⟨Sv7, (hs.wk rfl), (hw.ft [0] [1] (by decide) rfl rfl)⟩
   ·rintro a w ⟨Sv28, hs, hw⟩
    refine then_normal ?_
    refine wp_seq ?_
    refine wp_region_lit ?_
    refine st_val hs (y_move rfl) trivial rfl rfl fun a hs => ?_
    refine st_val hs (y_nilCheck rfl) trivial rfl rfl fun a hs => ?_
    refine st_val hs (y_fieldAddr (o' := 1) Try.runUnderlying75 rfl Try.sizeOf3 rfl rfl rfl) trivial rfl rfl fun a hs => ?_
    refine st_val hs (y_loadB1 (hw.ownAt 0 rfl) rfl Try.isAgg3 rfl) trivial rfl rfl fun a hs => ?_
    refine st_val hs (y_add rfl rfl) trivial rfl rfl fun a hs => ?_
    refine st_val hs (y_nilCheck rfl) trivial rfl rfl fun a hs => ?_
    refine st_val hs (y_fieldAddr (o' := 1) Try.runUnderlying75 rfl Try.sizeOf3 rfl rfl rfl) trivial rfl rfl fun a hs => ?_
    refine w_store (m := 1) (cs' := [.slice (some ⟨b21, o22, none⟩) d1.L.length k4, .int .i64 (w64 (d1.At + 1))]) hs hw 0 rfl rfl rfl Try.sizeOf3 rfl rfl rfl rfl trivial ?_
    intro a w hs hw
    refine wpList_nil ?_
    refine then_normal ?_
    refine wp_seq ?_
    refine wp_seq ?_
    refine wp_region_lit ?_
    refine st_val hs (y_move rfl) trivial rfl rfl fun a hs => ?_
    refine st_val hs (y_lss rfl rfl) trivial rfl rfl fun a hs => ?_
    refine wpList_nil ?_
    refine then_normal ?_
    refine wp_join (fun a w => ∃ (x33 : Int) (Sv32 : Nat → Prop), made_Dice_Next_j1 d1 x33 = some r ∧ Sl 45 [(5, .int .i64 x33)] a ∧ Wd ⟨w0, S0, blks [.box b2 [.slice (some ⟨b21, o22, none⟩) d1.L.length k4, .int .i64 d1.At] 75]⟩ Sv32 [.box b2 [.slice (some ⟨b21, o22, none⟩) d1.L.length k4, .int .i64 (w64 (d1.At + 1))] 75] [SlA (some ⟨b21, o22, none⟩) d1.L.length k4 d1.L] w) ?_ ?_
    ·refine wp_cond_split (hs.ev rfl) (fun h34 => ?_) (fun h34 => ?_)
     ·have hsh := ite_t hsh h34
      refine wp_region_lit ?_
      refine st_val hs (y_move rfl) trivial rfl rfl fun a hs => ?_
      refine st_val hs (y_move rfl) trivial rfl rfl fun a hs => ?_
      refine st_val hs (y_add rfl rfl) trivial rfl rfl fun a hs => ?_
      obtain ⟨x36, h35, hsh⟩ := bind_t hsh
      refine st_val hs (y_assignI rfl h35) trivial rfl rfl fun a hs => ?_
      refine wpList_nil ?_
      refine then_normal ?_
      exact ⟨x36, Sv28, hsh, (hs.wk rfl), (hw.ft [0] [0] (by decide) rfl rfl)⟩
     ·have hsh := ite_f hsh h34
      refine wp_skip ?_
      refine then_normal ?_
      exact ⟨rem27, Sv28, hsh, (hs.wk rfl), (hw.ft [0] [0] (by decide) rfl rfl)⟩
    ·rintro a w ⟨x33, Sv32, hsh, hs, hw⟩
     delta made_Dice_Next_j1 at hsh
     refine then_normal ?_
     refine wp_seq ?_
     refine wp_region_lit ?_
     refine st_val hs (y_move rfl) trivial rfl rfl fun a hs => ?_
     refine st_val hs (y_assign rfl) trivial rfl rfl fun a hs => ?_
     refine wpList_nil ?_
     refine then_normal ?_
     have hsh := Option.some.inj hsh
     subst hsh
     refine wp_ret ?_
     exact ret1 hs rfl (rv_tmp rfl) (hw.ret ⟨(some ⟨b21, o22, none⟩), k4, rfl, (hw.outs [0] (by decide) rfl), (hw.envAt 0 rfl)⟩)

abbrev made_Dice_Pick_rd (w0 : World) (X : List Nat) (b2 : Nat) (r : (Int × Dice)) : (Nat → Prop) → World → Value → Prop := fun S w v => ∃ (pq0_0 : Option Addr) (kq0_0 : Nat), v = .int .i64 r.1 ∧ Outs X w0 S w [.box b2 [.slice pq0_0 r.2.L.length kq0_0, .int .i64 r.2.At] 75] ∧ (SlA pq0_0 r.2.L.length kq0_0 r.2.L).p S w
set_option maxHeartbeats 4000000 in
set_option maxRecDepth 100000 in
theorem made_Dice_Pick_ok {w0 : World} {S0 : Nat → Prop} {b2 : Nat} {p3 : Option Addr} {k4 : Nat} {p7 : Option Addr} {k8 : Nat} {d1 : Dice} {l6 : (List Int)} {r : (Int × Dice)} (hsh : made_Dice_Pick d1 l6 = some r) (hS : ∀ b, S0 b → b < w0.heap.size) (hin : Ins S0 w0 [.box b2 [.slice p3 d1.L.length k4, .int .i64 d1.At] 75]) (h5 : (SlA p3 d1.L.length k4 d1.L).p S0 w0) (h9 : (SlA p7 l6.length k8 l6).p S0 w0) : Calls Try.prog 27 #[.pointer (some ⟨b2, 0, none⟩), .slice p7 l6.length k8] w0 (Ret (blks [.box b2 [.slice p3 d1.L.length k4, .int .i64 d1.At] 75]) w0 S0 (made_Dice_Pick_rd w0 (blks [.box b2 [.slice p3 d1.L.length k4, .int .i64 d1.At] 75]) b2 r)) := by
 refine calls_of_wp Try.func27 rfl ?_
 have hs := Sl.enter #[.pointer (some ⟨b2, 0, none⟩), .slice p7 l6.length k8] 12 [(0, .pointer (some ⟨b2, 0, none⟩)), (1, .slice p7 l6.length k8)] rfl ⟨rfl, rfl, trivial⟩
 have hw := Wd.enterI hS hin
 have hw := hw.addE h5
 have hw := hw.addE h9
 delta made_Dice_Pick at hsh
 refine wp_seq ?_
 refine wp_region_lit ?_
 refine st_val hs (y_assign rfl) trivial rfl rfl fun a hs => ?_
 refine wpList_nil ?_
 refine then_normal ?_
 refine wp_seq ?_
 refine wp_region_lit ?_
 refine st_val hs (y_move rfl) trivial rfl rfl fun a hs => ?_
 refine st_val hs (y_move rfl) trivial rfl rfl fun a hs => ?_
 refine st_val hs (y_move rfl) trivial rfl rfl fun a hs => ?_
 refine st_val hs (y_len Try.runUnderlying22 rfl) trivial rfl rfl fun a hs => ?_
 obtain ⟨rv11, h10, hsh⟩ := bind_t hsh
 refine st_callR hs (made_Dice_Next_ok h10 hw.dom (hw.ins [0] (by decide) rfl) (hw.envAt 1 rfl)) (do_call Try.call15 rfl) trivial rfl rfl ?_
 intro v18 Sv15 w a h16 h17 hs
 obtain ⟨p12, k13, rfl, h19, h14⟩ := h17
 have hw := hw.callO [0] [] (by decide) rfl h16 h19
 have hw := hw.addE (e := SlA p12 rv11.2.L.length k13 rv11.2.L) h14
 obtain ⟨x22, h20, hsh⟩ := bind_t hsh
 obtain ⟨b28, o29, q26, c27, h30, h23, h24, h25, h21⟩ := hw.elemV 1 rfl h20
 have hsv31 := hs
 have hwv32 := hw
 subst h30
 have hs := hsv31
 have hw := hwv32
 obtain ⟨_, rfl, rfl⟩ := h21
 have hw := hw.addE h25
 refine st_val hs (y_indexAt Try.runUnderlying22 Try.sizeOf3 rfl rfl h23.1 h23.2 h24) trivial rfl rfl fun a hs => ?_
 refine st_val hs (y_loadE1 (j := 0) (hw.ceAt 0 rfl) rfl Try.isAgg3 rfl) trivial rfl rfl fun a hs => ?_
 refine st_val hs (y_assign rfl) trivial rfl rfl fun a hs => ?_
 refine wpList_nil ?_
 refine then_normal ?_
 have hsh := Option.some.inj hsh
 subst hsh
 refine wp_ret ?_
 exact ret1 hs rfl (rv_tmp rfl) (hw.ret ⟨p12, k13, rfl, (hw.outs [0] (by decide) rfl), (hw.envAt 1 rfl)⟩)

abbrev made_Dice_Filter_rd (w0 : World) (X : List Nat) (b2 : Nat) (r : (Filter × Dice)) : (Nat → Prop) → World → Value → Prop := fun S w v => ∃ (p0_0 : Option Addr) (k0_0 : Nat) (c0_0 : List Value) (pq0_0 : Option Addr) (kq0_0 : Nat), v = .agg #[.slice p0_0 r.1.Taps.length k0_0, .int .i64 r.1.Factor, .int .i64 r.1.Shift] ∧ Outs X w0 S w [.row p0_0 r.1.Taps.length k0_0 c0_0 3 1, .box b2 [.slice pq0_0 r.2.L.length kq0_0, .int .i64 r.2.At] 75] ∧ (RowA c0_0 r.1.Taps).p S w ∧ (SlA pq0_0 r.2.L.length kq0_0 r.2.L).p S w
set_option maxHeartbeats 4000000 in
set_option maxRecDepth 100000 in
theorem made_Dice_Filter_ok {w0 : World} {S0 : Nat → Prop} {b2 : Nat} {p3 : Option Addr} {k4 : Nat} {d1 : Dice} {r : (Filter × Dice)} (hsh : made_Dice_Filter d1 = some r) (hS : ∀ b, S0 b → b < w0.heap.size) (hin : Ins S0 w0 [.box b2 [.slice p3 d1.L.length k4, .int .i64 d1.At] 75]) (h5 : (SlA p3 d1.L.length k4 d1.L).p S0 w0) : Calls Try.prog 13 #[.pointer (some ⟨b2, 0, none⟩)] w0 (Ret (blks [.box b2 [.slice p3 d1.L.length k4, .int .i64 d1.At] 75]) w0 S0 (made_Dice_Filter_rd w0 (blks [.box b2 [.slice p3 d1.L.length k4, .int .i64 d1.At] 75]) b2 r)) := by
 refine calls_of_wp Try.func13 rfl ?_
 have hs := Sl.enter #[.pointer (some ⟨b2, 0, none⟩)] 45 [(0, .pointer (some ⟨b2, 0, none⟩))] rfl ⟨rfl, trivial⟩
 have hw := Wd.enterI hS hin
 have hw := hw.addE h5
 delta made_Dice_Filter at hsh
 refine wp_seq ?_
 refine wp_region_lit ?_
 refine w_alloc (cs := [.slice none ([] : List Int).length 0, .int .i64 0, .int .i64 0]) hs hw Try.zeroValue28 rfl rfl trivial ?_
 intro b6 a w hs hw
 refine wpList_nil ?_
 refine then_normal ?_
 refine wp_seq ?_
 refine wp_region_lit ?_
 refine st_val hs (y_move rfl) trivial rfl rfl fun a hs => ?_
 refine w_litSlice (α := Int) (vs := [.int .i64 1, .int .i64 1, .int .i64 2, .int .i64 3]) (cs := [.int .i64 1, .int .i64 1, .int .i64 2, .int .i64 3]) (xs := ([1, 1, 2, 3] : List Int)) hs hw El22 rfl rfl rfl rfl rfl rfl ⟨⟨_, rfl, rfl⟩, ⟨⟨_, rfl, rfl⟩, ⟨⟨_, rfl, rfl⟩, ⟨⟨_, rfl, rfl⟩, rfl⟩⟩⟩⟩ rfl trivial rfl fun b8 a w hs hw => ?_
 obtain ⟨rv10, h9, hsh⟩ := bind_t hsh
 obtain ⟨Sv14, hw⟩ := w_share (α := Int) hw 0 rfl 0 rfl
 refine st_callR hs (made_Dice_Pick_ok h9 hw.dom (hw.ins [1] (by decide) rfl) (hw.envAt 2 rfl) (hw.envAt 0 rfl)) (do_call Try.call27 rfl) trivial rfl rfl ?_
 intro v18 Sv15 w a h16 h17 hs
 obtain ⟨p11, k12, rfl, h19, h13⟩ := h17
 have hw := hw.callO [1] [0] (by decide) rfl h16 h19
 have hw := hw.addE (e := SlA p11 rv10.2.L.length k12 rv10.2.L) h13
 refine st_val hs (y_move rfl) trivial rfl rfl fun a hs => ?_
 refine w_litSlice (α := Int) (vs := [.int .i64 0, .int .i64 2, .int .i64 4, .int .i64 6]) (cs := [.int .i64 0, .int .i64 2, .int .i64 4, .int .i64 6]) (xs := ([0, 2, 4, 6] : List Int)) hs hw El22 rfl rfl rfl rfl rfl rfl ⟨⟨_, rfl, rfl⟩, ⟨⟨_, rfl, rfl⟩, ⟨⟨_, rfl, rfl⟩, ⟨⟨_, rfl, rfl⟩, rfl⟩⟩⟩⟩ rfl trivial rfl fun b21 a w hs hw => ?_
 obtain ⟨rv23, h22, hsh⟩ := bind_t hsh
 obtain ⟨Sv27, hw⟩ := w_share (α := Int) hw 0 rfl 0 rfl
 refine st_callR hs (made_Dice_Pick_ok h22 hw.dom (hw.ins [0] (by decide) rfl) (hw.envAt 2 rfl) (hw.envAt 0 rfl)) (do_call Try.call27 rfl) trivial rfl rfl ?_
 intro v31 Sv28 w a h29 h30 hs
 obtain ⟨p24, k25, rfl, h32, h26⟩ := h30
 have hw := hw.callO [0] [1] (by decide) rfl h29 h32
 have hw := hw.addE (e := SlA p24 rv23.2.L.length k25 rv23.2.L) h26
 refine st_val hs (y_build (vs := [(1, .int .i64 rv10.1), (2, .int .i64 rv23.1)]) Bld28 rfl rfl) trivial rfl rfl fun a hs => ?_
 refine w_alloc (cs := [.slice none ([] : List Int).length 0, .int .i64 0, .int .i64 0]) hs hw Try.zeroValue28 rfl rfl trivial ?_
 intro b33 a w hs hw
 refine w_store (m := 3) (cs' := [.slice none ([] : List Int).length 0, .int .i64 rv10.1, .int .i64 rv23.1]) hs hw 0 rfl rfl rfl Try.sizeOf28 rfl rfl rfl rfl trivial ?_
 intro a w hs hw
 refine wpList_nil ?_
 refine then_normal ?_
 refine wp_seq ?_
 refine wp_region_lit ?_
 refine st_val hs (y_fieldAddr (o' := 2) Try.runUnderlying28 rfl Try.sizeOf3 rfl rfl rfl) trivial rfl rfl fun a hs => ?_
 refine st_val hs (y_loadB1 (hw.ownAt 0 rfl) rfl Try.isAgg3 rfl) trivial rfl rfl fun a hs => ?_
 refine st_val hs (y_convert Try.runUnderlying3 Try.runUnderlying30 rfl) trivial rfl rfl fun a hs => ?_
 obtain ⟨shl35, h34, hsh⟩ := bind_t hsh
 refine st_val hs (y_shlM rfl rfl h34) trivial rfl rfl fun a hs => ?_
 refine st_val hs (y_assign rfl) trivial rfl rfl fun a hs => ?_
 refine wpList_nil ?_
 refine then_normal ?_
 refine wp_seq ?_
 refine wp_seq ?_
 refine wp_region_lit ?_
 refine st_val hs (y_move rfl) trivial rfl rfl fun a hs => ?_
 obtain ⟨rv37, h36, hsh⟩ := bind_t hsh
 refine st_callR hs (made_Dice_Next_ok h36 hw.dom (hw.ins [1] (by decide) rfl) (hw.envAt 0 rfl)) (do_call Try.call15 rfl) trivial rfl rfl ?_
 intro v44 Sv41 w a h42 h43 hs
 obtain ⟨p38, k39, rfl, h45, h40⟩ := h43
 have hw := hw.callO [1] [0, 2] (by decide) rfl h42 h45
 have hw := hw.addE (e := SlA p38 rv37.2.L.length k39 rv37.2.L) h40
 refine st_val hs (y_add rfl rfl) trivial rfl rfl fun a hs => ?_
 obtain ⟨i47, h46, hsh⟩ := bind_t hsh
 refine st_val hs (y_assignI rfl h46) trivial rfl rfl fun a hs => ?_
 refine wpList_nil ?_
 refine then_normal ?_
 obtain ⟨e136, h190, hsh⟩ := bind_t hsh
 refine wp_join (fun a w => ∃ (p137 : Option Addr) (k138 : Nat) (c139 : List Value) (p140 : Option Addr) (k141 : Nat) (Sv142 : Nat → Prop), Sl 45 [(2, .pointer (some ⟨b6, 0, none⟩)), (3, .pointer (some ⟨b33, 0, none⟩))] a ∧ Wd ⟨w0, S0, blks [.box b2 [.slice p3 d1.L.length k4, .int .i64 d1.At] 75]⟩ Sv142 [.box b2 [.slice p137 e136.1.length k138, .int .i64 e136.2.1] 75, .box b6 [.slice none ([] : List Int).length 0, .int .i64 0, .int .i64 0] 28, .box b33 [.slice p140 e136.2.2.length k141, .int .i64 rv10.1, .int .i64 rv23.1] 28, .row p140 e136.2.2.length k141 c139 3 1] [SlA p137 e136.1.length k138 e136.1, SlA none ([] : List Int).length 0 ([] : List Int), RowA c139 e136.2.2] w) ?_ ?_
 ·refine wp_block ?_
  have hw := hw.nilRow Int 3
  have hw := hw.addE (e := SlA (α := Int) none 0 0 []) nil_sl
  refine wp_while (fun sv48 a w => ∃ (p103 : Option Addr) (k104 : Nat) (c105 : List Value) (p106 : Option Addr) (k107 : Nat) (Sv108 : Nat → Prop), Sl 45 [(0, .pointer (some ⟨b2, 0, none⟩)), (2, .pointer (some ⟨b6, 0, none⟩)), (3, .pointer (some ⟨b33, 0, none⟩)), (4, .int .i64 sv48.2.2.2.1), (5, .int .i64 sv48.2.2.2.2)] a ∧ Wd ⟨w0, S0, blks [.box b2 [.slice p3 d1.L.length k4, .int .i64 d1.At] 75]⟩ Sv108 [.box b2 [.slice p103 sv48.1.length k104, .int .i64 sv48.2.1] 75, .box b6 [.slice none ([] : List Int).length 0, .int .i64 0, .int .i64 0] 28, .box b33 [.slice p106 sv48.2.2.1.length k107, .int .i64 rv10.1, .int .i64 rv23.1] 28, .row p106 sv48.2.2.1.length k107 c105 3 1] [SlA p103 sv48.1.length k104 sv48.1, SlA none ([] : List Int).length 0 ([] : List Int), RowA c105 sv48.2.2.1] w) (rv37.2.L, rv37.2.At, ([] : List Int), shl35, i47) h190 ⟨p38, k39, [], none, 0, Sv41, (hs.wk rfl), (hw.ft [1, 3, 2, 0] [2, 0, 1] (by decide) rfl rfl)⟩ ?_
  clear h190
  repeat clear hsh
  rintro sv48 a w tv134 ⟨p103, k104, c105, p106, k107, Sv108, hs, hw⟩ hsh hd133
  delta made_Dice_Filter_l1 at hsh
  refine wp_seq ?_
  refine wp_seq ?_
  refine wp_region_lit ?_
  refine st_val hs (y_move rfl) trivial rfl rfl fun a hs => ?_
  refine st_val hs (y_gtr rfl rfl) trivial rfl rfl fun a hs => ?_
  refine wpList_nil ?_
  refine then_normal ?_
  refine wp_cond_split (hs.ev rfl) (fun h144 => ?_) (fun h144 => ?_)
  ·have hsh := ite_t hsh h144
   refine wp_skip ?_
   refine then_normal ?_
   refine wp_seq ?_
   refine wp_block ?_
   refine wp_seq ?_
   refine wp_region_lit ?_
   refine st_val hs (y_move rfl) trivial rfl rfl fun a hs => ?_
   refine st_val hs (y_move rfl) trivial rfl rfl fun a hs => ?_
   refine st_val hs (y_mul rfl rfl) trivial rfl rfl fun a hs => ?_
   refine st_val hs (y_add rfl rfl) trivial rfl rfl fun a hs => ?_
   obtain ⟨rv167, h166, hsh⟩ := bind_t hsh
   refine st_callR hs (made_Dice_Next_ok h166 hw.dom (hw.ins [0] (by decide) rfl) (hw.envAt 0 rfl)) (do_call Try.call15 rfl) trivial rfl rfl ?_
   intro v174 Sv171 w a h172 h173 hs
   obtain ⟨p168, k169, rfl, h175, h170⟩ := h173
   have hw := hw.callO [0] [1, 2, 3] (by decide) rfl h172 h175
   have hw := hw.addE (e := SlA p168 rv167.2.L.length k169 rv167.2.L) h170
   refine st_val hs (y_move rfl) trivial rfl rfl fun a hs => ?_
   refine st_val hs (y_sub rfl rfl) trivial rfl rfl fun a hs => ?_
   obtain ⟨x177, h176, hsh⟩ := bind_t hsh
   refine st_val hs (y_assignI rfl h176) trivial rfl rfl fun a hs => ?_
   refine wpList_nil ?_
   refine then_normal ?_
   refine wp_seq ?_
   refine wp_region_lit ?_
   refine st_val hs (y_move rfl) trivial rfl rfl fun a hs => ?_
   refine st_val hs (y_move rfl) trivial rfl rfl fun a hs => ?_
   refine st_val hs (y_move rfl) trivial rfl rfl fun a hs => ?_
   refine st_val hs (y_neg rfl) trivial rfl rfl fun a hs => ?_
   refine st_val hs (y_max rfl rfl) trivial rfl rfl fun a hs => ?_
   refine st_val hs (y_sub rfl rfl) trivial rfl rfl fun a hs => ?_
   obtain ⟨left179, h178, hsh⟩ := bind_t hsh
   refine st_val hs (y_assignI rfl h178) trivial rfl rfl fun a hs => ?_
   refine wpList_nil ?_
   refine then_normal ?_
   refine wp_region_lit ?_
   refine st_val hs (y_fieldAddr (o' := 0) Try.runUnderlying28 rfl Try.sizeOf22 rfl rfl rfl) trivial rfl rfl fun a hs => ?_
   refine st_val hs (y_loadB1 (hw.ownAt 2 rfl) rfl Try.isAgg22 rfl) trivial rfl rfl fun a hs => ?_
   refine st_val hs (y_move rfl) trivial rfl rfl fun a hs => ?_
   refine w_litSlice (α := Int) (vs := [.int .i64 x177]) (cs := [.int .i64 x177]) (xs := ([x177] : List Int)) hs hw El22 rfl rfl rfl rfl rfl rfl ⟨⟨_, rfl, rfl⟩, rfl⟩ rfl trivial rfl fun b181 a w hs hw => ?_
   obtain ⟨l183, h182, hsh⟩ := bind_t hsh
   refine w_appendR (α := Int) hs hw El22 4 rfl rfl rfl 4 rfl 0 rfl 0 rfl h182 rfl trivial ?_
   intro p184 k185 c186 a w hs hw
   refine st_val hs (y_fieldAddr (o' := 0) Try.runUnderlying28 rfl Try.sizeOf22 rfl rfl rfl) trivial rfl rfl fun a hs => ?_
   refine w_store (m := 1) (cs' := [.slice p184 l183.length k185, .int .i64 rv10.1, .int .i64 rv23.1]) hs hw 3 rfl rfl rfl Try.sizeOf22 rfl rfl rfl rfl trivial ?_
   intro a w hs hw
   refine wpList_nil ?_
   refine blk_normal ?_
   refine then_normal ?_
   refine wp_region_lit ?_
   refine st_val hs (y_move rfl) trivial rfl rfl fun a hs => ?_
   refine st_val hs (y_sub rfl rfl) trivial rfl rfl fun a hs => ?_
   obtain ⟨i188, h187, hsh⟩ := bind_t hsh
   refine st_val hs (y_assignI rfl h187) trivial rfl rfl fun a hs => ?_
   refine wpList_nil ?_
   refine then_normal ?_
   exact ⟨_, (Option.some.inj hsh).symm, p168, k169, c186, p184, k185, Sv171, (hs.wk rfl), (hw.ft [1, 2, 3, 4] [2, 4, 0] (by decide) rfl rfl)⟩
  ·have hsh := ite_f hsh h144
   refine wp_exit ?_
   refine then_exit ?_
   refine then_exit ?_
   refine blk_exit ?_
   have hsh := Option.some.inj hsh
   subst hsh
   have h189 := hd133 _ rfl
   subst h189
   refine then_normal ?_
   exact ⟨p103, k104, c105, p106, k107, Sv108, (hs.wk rfl), (hw.ft [0, 1, 2, 3] [0, 1, 2] (by decide) rfl rfl)⟩
 ·rintro a w ⟨p137, k138, c139, p140, k141, Sv142, hs, hw⟩
  refine then_normal ?_
  refine wp_seq ?_
  refine wp_region_lit ?_
  refine st_val hs (y_loadBA (hw.ownAt 2 rfl) rfl Try.isAgg28 Try.sizeOf28 rfl rfl) trivial rfl rfl fun a hs => ?_
  refine w_store (m := 3) (cs' := [.slice p140 e136.2.2.length k141, .int .i64 rv10.1, .int .i64 rv23.1]) hs hw 1 rfl rfl rfl Try.sizeOf28 rfl rfl rfl rfl trivial ?_
  intro a w hs hw
  refine wpList_nil ?_
  refine then_normal ?_
  have hsh := Option.some.inj hsh
  subst hsh
  refine wp_ret ?_
  exact ret1 hs rfl (rv_cell hw 1 rfl rfl Try.isAgg28 Try.sizeOf28 rfl) (hw.ret ⟨p140, k141, c139, p137, k138, rfl, (hw.outs [3, 0] (by decide) rfl), (hw.envAt 2 rfl), (hw.envAt 0 rfl)⟩)

abbrev made_Dice_Samples_rd (w0 : World) (X : List Nat) (b2 : Nat) (r : ((List Int) × Dice)) : (Nat → Prop) → World → Value → Prop := fun S w v => ∃ (p0_0 : Option Addr) (k0_0 : Nat) (c0_0 : List Value) (pq0_0 : Option Addr) (kq0_0 : Nat), v = .slice p0_0 r.1.length k0_0 ∧ Outs X w0 S w [.row p0_0 r.1.length k0_0 c0_0 3 1, .box b2 [.slice pq0_0 r.2.L.length kq0_0, .int .i64 r.2.At] 75] ∧ (RowA c0_0 r.1).p S w ∧ (SlA pq0_0 r.2.L.length kq0_0 r.2.L).p S w
set_option maxHeartbeats 4000000 in
set_option maxRecDepth 100000 in
theorem made_Dice_Samples_ok {w0 : World} {S0 : Nat → Prop} {b2 : Nat} {p3 : Option Addr} {k4 : Nat} {d1 : Dice} {n6 : Int} {r : ((List Int) × Dice)} (hsh : made_Dice_Samples d1 n6 = some r) (hS : ∀ b, S0 b → b < w0.heap.size) (hin : Ins S0 w0 [.box b2 [.slice p3 d1.L.length k4, .int .i64 d1.At] 75]) (h5 : (SlA p3 d1.L.length k4 d1.L).p S0 w0) : Calls Try.prog 16 #[.pointer (some ⟨b2, 0, none⟩), .int .i64 n6] w0 (Ret (blks [.box b2 [.slice p3 d1.L.length k4, .int .i64 d1.At] 75]) w0 S0 (made_Dice_Samples_rd w0 (blks [.box b2 [.slice p3 d1.L.length k4, .int .i64 d1.At] 75]) b2 r)) := by
 refine calls_of_wp Try.func16 rfl ?_
 have hs := Sl.enter #[.pointer (some ⟨b2, 0, none⟩), .int .i64 n6] 53 [(0, .pointer (some ⟨b2, 0, none⟩)), (1, .int .i64 n6)] rfl ⟨rfl, rfl, trivial⟩
 have hw := Wd.enterI hS hin
 have hw := hw.addE h5
 delta made_Dice_Samples at hsh
 refine wp_seq ?_
 refine wp_region_lit ?_
 refine st_val hs (y_assign rfl) trivial rfl rfl fun a hs => ?_
 refine wpList_nil ?_
 refine then_normal ?_
 refine wp_seq ?_
 refine wp_region_lit ?_
 refine st_val hs (y_assign rfl) trivial rfl rfl fun a hs => ?_
 refine wpList_nil ?_
 refine then_normal ?_
 refine wp_seq ?_
 refine wp_region_lit ?_
 refine st_val hs (y_move rfl) trivial rfl rfl fun a hs => ?_
 refine w_litSlice (α := Int) (vs := [.int .i64 0, .int .i64 5, .int .i64 (-100), .int .i64 1000]) (cs := [.int .i64 0, .int .i64 5, .int .i64 (-100), .int .i64 1000]) (xs := ([0, 5, (-100), 1000] : List Int)) hs hw El22 rfl rfl rfl rfl rfl rfl ⟨⟨_, rfl, rfl⟩, ⟨⟨_, rfl, rfl⟩, ⟨⟨_, rfl, rfl⟩, ⟨⟨_, rfl, rfl⟩, rfl⟩⟩⟩⟩ rfl trivial rfl fun b8 a w hs hw => ?_
 obtain ⟨rv10, h9, hsh⟩ := bind_t hsh
 obtain ⟨Sv14, hw⟩ := w_share (α := Int) hw 0 rfl 0 rfl
 refine st_callR hs (made_Dice_Pick_ok h9 hw.dom (hw.ins [0] (by decide) rfl) (hw.envAt 2 rfl) (hw.envAt 0 rfl)) (do_call Try.call27 rfl) trivial rfl rfl ?_
 intro v18 Sv15 w a h16 h17 hs
 obtain ⟨p11, k12, rfl, h19, h13⟩ := h17
 have hw := hw.callO [0] [] (by decide) rfl h16 h19
 have hw := hw.addE (e := SlA p11 rv10.2.L.length k12 rv10.2.L) h13
 refine st_val hs (y_assign rfl) trivial rfl rfl fun a hs => ?_
 refine wpList_nil ?_
 refine then_normal ?_
 refine wp_seq ?_
 refine wp_seq ?_
 refine wp_region_lit ?_
 refine st_val hs (y_move rfl) trivial rfl rfl fun a hs => ?_
 refine st_val hs (y_move rfl) trivial rfl rfl fun a hs => ?_
 obtain ⟨rv21, h20, hsh⟩ := bind_t hsh
 refine st_callR hs (made_Dice_Next_ok h20 hw.dom (hw.ins [0] (by decide) rfl) (hw.envAt 0 rfl)) (do_call Try.call15 rfl) trivial rfl rfl ?_
 intro v28 Sv25 w a h26 h27 hs
 obtain ⟨p22, k23, rfl, h29, h24⟩ := h27
 have hw := hw.callO [0] [] (by decide) rfl h26 h29
 have hw := hw.addE (e := SlA p22 rv21.2.L.length k23 rv21.2.L) h24
 refine st_val hs (y_add rfl rfl) trivial rfl rfl fun a hs => ?_
 obtain ⟨i31, h30, hsh⟩ := bind_t hsh
 refine st_val hs (y_assignI rfl h30) trivial rfl rfl fun a hs => ?_
 refine wpList_nil ?_
 refine then_normal ?_
 obtain ⟨e342, h764, hsh⟩ := bind_t hsh
 refine wp_join (fun a w => ∃ (p343 : Option Addr) (k344 : Nat) (c345 : List Value) (p346 : Option Addr) (k347 : Nat) (Sv348 : Nat → Prop), Sl 53 [(5, .slice p346 e342.2.2.length k347)] a ∧ Wd ⟨w0, S0, blks [.box b2 [.slice p3 d1.L.length k4, .int .i64 d1.At] 75]⟩ Sv348 [.box b2 [.slice p343 e342.1.length k344, .int .i64 e342.2.1] 75, .row p346 e342.2.2.length k347 c345 3 1] [SlA p343 e342.1.length k344 e342.1, RowA c345 e342.2.2] w) ?_ ?_
 ·refine wp_block ?_
  have hw := hw.nilRow Int 3
  refine wp_while (fun sv32 a w => ∃ (p235 : Option Addr) (k236 : Nat) (c237 : List Value) (p238 : Option Addr) (k239 : Nat) (Sv240 : Nat → Prop), Sl 53 [(0, .pointer (some ⟨b2, 0, none⟩)), (5, .slice p238 sv32.2.2.1.length k239), (6, .int .i64 sv32.2.2.2.1), (7, .int .i64 sv32.2.2.2.2)] a ∧ Wd ⟨w0, S0, blks [.box b2 [.slice p3 d1.L.length k4, .int .i64 d1.At] 75]⟩ Sv240 [.box b2 [.slice p235 sv32.1.length k236, .int .i64 sv32.2.1] 75, .row p238 sv32.2.2.1.length k239 c237 3 1] [SlA p235 sv32.1.length k236 sv32.1, RowA c237 sv32.2.2.1] w) (rv21.2.L, rv21.2.At, ([] : List Int), rv10.1, i31) h764 ⟨p22, k23, [], none, 0, Sv25, (hs.wk rfl), (hw.ft [1, 0] [1, 0] (by decide) rfl rfl)⟩ ?_
  clear h764
  repeat clear hsh
  rintro sv32 a w tv340 ⟨p235, k236, c237, p238, k239, Sv240, hs, hw⟩ hsh hd339
  delta made_Dice_Samples_l1 at hsh
  refine wp_seq ?_
  refine wp_seq ?_
  refine wp_region_lit ?_
  refine st_val hs (y_move rfl) trivial rfl rfl fun a hs => ?_
  refine st_val hs (y_gtr rfl rfl) trivial rfl rfl fun a hs => ?_
  refine wpList_nil ?_
  refine then_normal ?_
  refine wp_cond_split (hs.ev rfl) (fun h350 => ?_) (fun h350 => ?_)
  ·have hsh := ite_t hsh h350
   refine wp_skip ?_
   refine then_normal ?_
   refine wp_seq ?_
   refine wp_block ?_
   refine wp_seq ?_
   refine wp_seq ?_
   refine wp_region_lit ?_
   refine st_val hs (y_move rfl) trivial rfl rfl fun a hs => ?_
   obtain ⟨rv447, h446, hsh⟩ := bind_t hsh
   refine st_callR hs (made_Dice_Next_ok h446 hw.dom (hw.ins [0] (by decide) rfl) (hw.envAt 0 rfl)) (do_call Try.call15 rfl) trivial rfl rfl ?_
   intro v454 Sv451 w a h452 h453 hs
   obtain ⟨p448, k449, rfl, h455, h450⟩ := h453
   have hw := hw.callO [0] [1] (by decide) rfl h452 h455
   have hw := hw.addE (e := SlA p448 rv447.2.L.length k449 rv447.2.L) h450
   refine wpList_nil ?_
   refine then_normal ?_
   refine wp_block ?_
   refine wp_seq ?_
   refine wp_region_lit ?_
   refine st_val hs (y_eql rfl rfl) trivial rfl rfl fun a hs => ?_
   refine st_val hs (y_assign rfl) trivial rfl rfl fun a hs => ?_
   refine wpList_nil ?_
   refine then_normal ?_
   refine wp_join (fun a w => ∃ (x605 : (List Int)) (x606 : Int) (x607 : Int) (p602 : Option Addr) (k603 : Nat) (Sv604 : Nat → Prop), made_Dice_Samples_j1 sv32 x605 x606 x607 = some tv340 ∧ Sl 53 [(0, .pointer (some ⟨b2, 0, none⟩)), (5, .slice p238 sv32.2.2.1.length k239), (6, .int .i64 x607), (7, .int .i64 sv32.2.2.2.2)] a ∧ Wd ⟨w0, S0, blks [.box b2 [.slice p3 d1.L.length k4, .int .i64 d1.At] 75]⟩ Sv604 [.box b2 [.slice p602 x605.length k603, .int .i64 x606] 75, .row p238 sv32.2.2.1.length k239 c237 3 1] [SlA p602 x605.length k603 x605, RowA c237 sv32.2.2.1] w) ?_ ?_
   ·refine wp_cond_split (hs.ev rfl) (fun h619 => ?_) (fun h619 => ?_)
    ·have hsh := ite_t hsh h619
     refine wp_region_lit ?_
     refine st_val hs (y_move rfl) trivial rfl rfl fun a hs => ?_
     refine st_val hs (y_move rfl) trivial rfl rfl fun a hs => ?_
     refine w_litSlice (α := Int) (vs := [.int .i64 127, .int .i64 128, .int .i64 (-128), .int .i64 (-129), .int .i64 300]) (cs := [.int .i64 127, .int .i64 128, .int .i64 (-128), .int .i64 (-129), .int .i64 300]) (xs := ([127, 128, (-128), (-129), 300] : List Int)) hs hw El22 rfl rfl rfl rfl rfl rfl ⟨⟨_, rfl, rfl⟩, ⟨⟨_, rfl, rfl⟩, ⟨⟨_, rfl, rfl⟩, ⟨⟨_, rfl, rfl⟩, ⟨⟨_, rfl, rfl⟩, rfl⟩⟩⟩⟩⟩ rfl trivial rfl fun b621 a w hs hw => ?_
     obtain ⟨rv623, h622, hsh⟩ := bind_t hsh
     obtain ⟨Sv627, hw⟩ := w_share (α := Int) hw 0 rfl 0 rfl
     refine st_callR hs (made_Dice_Pick_ok h622 hw.dom (hw.ins [0] (by decide) rfl) (hw.envAt 2 rfl) (hw.envAt 0 rfl)) (do_call Try.call27 rfl) trivial rfl rfl ?_
     intro v631 Sv628 w a h629 h630 hs
     obtain ⟨p624, k625, rfl, h632, h626⟩ := h630
     have hw := hw.callO [0] [1] (by decide) rfl h629 h632
     have hw := hw.addE (e := SlA p624 rv623.2.L.length k625 rv623.2.L) h626
     refine st_val hs (y_add rfl rfl) trivial rfl rfl fun a hs => ?_
     obtain ⟨x634, h633, hsh⟩ := bind_t hsh
     refine st_val hs (y_assignI rfl h633) trivial rfl rfl fun a hs => ?_
     refine wpList_nil ?_
     refine then_normal ?_
     exact ⟨rv623.2.L, rv623.2.At, x634, p624, k625, Sv628, hsh, (hs.wk rfl), (hw.ft [0, 1] [0, 5] (by decide) rfl rfl)⟩
    ·have hsh := ite_f hsh h619
     refine wp_seq ?_
     refine wp_region_lit ?_
     refine st_val hs (y_eql rfl rfl) trivial rfl rfl fun a hs => ?_
     refine st_val hs (y_assign rfl) trivial rfl rfl fun a hs => ?_
     refine wpList_nil ?_
     refine then_normal ?_
     refine wp_join (fun a w => ∃ (x686 : (List Int)) (x687 : Int) (x688 : Int) (p683 : Option Addr) (k684 : Nat) (Sv685 : Nat → Prop), made_Dice_Samples_j2 sv32 x686 x687 x688 = some tv340 ∧ Sl 53 [(0, .pointer (some ⟨b2, 0, none⟩)), (5, .slice p238 sv32.2.2.1.length k239), (6, .int .i64 x688), (7, .int .i64 sv32.2.2.2.2)] a ∧ Wd ⟨w0, S0, blks [.box b2 [.slice p3 d1.L.length k4, .int .i64 d1.At] 75]⟩ Sv685 [.box b2 [.slice p683 x686.length k684, .int .i64 x687] 75, .row p238 sv32.2.2.1.length k239 c237 3 1] [SlA p683 x686.length k684 x686, RowA c237 sv32.2.2.1] w) ?_ ?_
     ·refine wp_cond_split (hs.ev rfl) (fun h689 => ?_) (fun h689 => ?_)
      ·have hsh := ite_t hsh h689
       refine wp_region_lit ?_
       refine st_val hs (y_move rfl) trivial rfl rfl fun a hs => ?_
       refine st_val hs (y_move rfl) trivial rfl rfl fun a hs => ?_
       refine w_litSlice (α := Int) (vs := [.int .i64 32767, .int .i64 32768, .int .i64 (-32768), .int .i64 (-32769)]) (cs := [.int .i64 32767, .int .i64 32768, .int .i64 (-32768), .int .i64 (-32769)]) (xs := ([32767, 32768, (-32768), (-32769)] : List Int)) hs hw El22 rfl rfl rfl rfl rfl rfl ⟨⟨_, rfl, rfl⟩, ⟨⟨_, rfl, rfl⟩, ⟨⟨_, rfl, rfl⟩, ⟨⟨_, rfl, rfl⟩, rfl⟩⟩⟩⟩ rfl trivial rfl fun b691 a w hs hw => ?_
       obtain ⟨rv693, h692, hsh⟩ := bind_t hsh
       obtain ⟨Sv697, hw⟩ := w_share (α := Int) hw 0 rfl 0 rfl
       refine st_callR hs (made_Dice_Pick_ok h692 hw.dom (hw.ins [0] (by decide) rfl) (hw.envAt 2 rfl) (hw.envAt 0 rfl)) (do_call Try.call27 rfl) trivial rfl rfl ?_
       intro v701 Sv698 w a h699 h700 hs
       obtain ⟨p694, k695, rfl, h702, h696⟩ := h700
       have hw := hw.callO [0] [1] (by decide) rfl h699 h702
       have hw := hw.addE (e := SlA p694 rv693.2.L.length k695 rv693.2.L) h696
       refine st_val hs (y_add rfl rfl) trivial rfl rfl fun a hs => ?_
       obtain ⟨x704, h703, hsh⟩ := bind_t hsh
       refine st_val hs (y_assignI rfl h703) trivial rfl rfl fun a hs => ?_
       refine wpList_nil ?_
       refine then_normal ?_
       exact ⟨rv693.2.L, rv693.2.At, x704, p694, k695, Sv698, hsh, (hs.wk rfl), (hw.ft [0, 1] [0, 5] (by decide) rfl rfl)⟩
      ·have hsh := ite_f hsh h689
       refine wp_seq ?_
       refine wp_region_lit ?_
       refine st_val hs (y_eql rfl rfl) trivial rfl rfl fun a hs => ?_
       refine st_val hs (y_assign rfl) trivial rfl rfl fun a hs => ?_
       refine wpList_nil ?_
       refine then_normal ?_
       refine wp_join (fun a w => ∃ (x734 : (List Int)) (x735 : Int) (x736 : Int) (p731 : Option Addr) (k732 : Nat) (Sv733 : Nat → Prop), made_Dice_Samples_j3 sv32 x734 x735 x736 = some tv340 ∧ Sl 53 [(0, .pointer (some ⟨b2, 0, none⟩)), (5, .slice p238 sv32.2.2.1.length k239), (6, .int .i64 x736), (7, .int .i64 sv32.2.2.2.2)] a ∧ Wd ⟨w0, S0, blks [.box b2 [.slice p3 d1.L.length k4, .int .i64 d1.At] 75]⟩ Sv733 [.box b2 [.slice p731 x734.length k732, .int .i64 x735] 75, .row p238 sv32.2.2.1.length k239 c237 3 1] [SlA p731 x734.length k732 x734, RowA c237 sv32.2.2.1] w) ?_ ?_
       ·refine wp_cond_split (hs.ev rfl) (fun h737 => ?_) (fun h737 => ?_)
        ·have hsh := ite_t hsh h737
         refine wp_region_lit ?_
         refine st_val hs (y_move rfl) trivial rfl rfl fun a hs => ?_
         refine w_litSlice (α := Int) (vs := [.int .i64 0, .int .i64 1073741823, .int .i64 (-1073741823), .int .i64 536870912]) (cs := [.int .i64 0, .int .i64 1073741823, .int .i64 (-1073741823), .int .i64 536870912]) (xs := ([0, 1073741823, (-1073741823), 536870912] : List Int)) hs hw El22 rfl rfl rfl rfl rfl rfl ⟨⟨_, rfl, rfl⟩, ⟨⟨_, rfl, rfl⟩, ⟨⟨_, rfl, rfl⟩, ⟨⟨_, rfl, rfl⟩, rfl⟩⟩⟩⟩ rfl trivial rfl fun b739 a w hs hw => ?_
         obtain ⟨rv741, h740, hsh⟩ := bind_t hsh
         obtain ⟨Sv745, hw⟩ := w_share (α := Int) hw 0 rfl 0 rfl
         refine st_callR hs (made_Dice_Pick_ok h740 hw.dom (hw.ins [0] (by decide) rfl) (hw.envAt 2 rfl) (hw.envAt 0 rfl)) (do_call Try.call27 rfl) trivial rfl rfl ?_
         intro v749 Sv746 w a h747 h748 hs
         obtain ⟨p742, k743, rfl, h750, h744⟩ := h748
         have hw := hw.callO [0] [1] (by decide) rfl h747 h750
         have hw := hw.addE (e := SlA p742 rv741.2.L.length k743 rv741.2.L) h744
         refine st_val hs (y_assign rfl) trivial rfl rfl fun a hs => ?_
         refine wpList_nil ?_
         refine then_normal ?_
         exact ⟨rv741.2.L, rv741.2.At, rv741.1, p742, k743, Sv746, hsh, (hs.wk rfl), (hw.ft [0, 1] [0, 5] (by decide) rfl rfl)⟩
        ·have hsh := ite_f hsh h737
         refine wp_region_lit ?_
         refine st_val hs (y_move rfl) trivial rfl rfl fun a hs => ?_
         refine st_val hs (y_move rfl) trivial rfl rfl fun a hs => ?_
         obtain ⟨rv752, h751, hsh⟩ := bind_t hsh
         refine st_callR hs (made_Dice_Next_ok h751 hw.dom (hw.ins [0] (by decide) rfl) (hw.envAt 0 rfl)) (do_call Try.call15 rfl) trivial rfl rfl ?_
         intro v759 Sv756 w a h757 h758 hs
         obtain ⟨p753, k754, rfl, h760, h755⟩ := h758
         have hw := hw.callO [0] [1] (by decide) rfl h757 h760
         have hw := hw.addE (e := SlA p753 rv752.2.L.length k754 rv752.2.L) h755
         refine st_val hs (y_sub rfl rfl) trivial rfl rfl fun a hs => ?_
         refine st_val hs (y_add rfl rfl) trivial rfl rfl fun a hs => ?_
         obtain ⟨x762, h761, hsh⟩ := bind_t hsh
         refine st_val hs (y_assignI rfl h761) trivial rfl rfl fun a hs => ?_
         refine wpList_nil ?_
         refine then_normal ?_
         exact ⟨rv752.2.L, rv752.2.At, x762, p753, k754, Sv756, hsh, (hs.wk rfl), (hw.ft [0, 1] [0, 3] (by decide) rfl rfl)⟩
       ·rintro a w ⟨x734, x735, x736, p731, k732, Sv733, hsh, hs, hw⟩
        delta made_Dice_Samples_j3 at hsh
        refine then_normal ?_
        exact ⟨x734, x735, x736, p731, k732, Sv733, hsh, (hs.wk rfl), (hw.ft [0, 1] [0, 1] (by decide) rfl rfl)⟩
     ·rintro a w ⟨x686, x687, x688, p683, k684, Sv685, hsh, hs, hw⟩
      delta made_Dice_Samples_j2 at hsh
      refine then_normal ?_
      exact ⟨x686, x687, x688, p683, k684, Sv685, hsh, (hs.wk rfl), (hw.ft [0, 1] [0, 1] (by decide) rfl rfl)⟩
   ·rintro a w ⟨x605, x606, x607, p602, k603, Sv604, hsh, hs, hw⟩
    delta made_Dice_Samples_j1 at hsh
    refine blk_normal ?_
    refine then_normal ?_
    refine wp_seq ?_
    refine wp_region_lit ?_
    refine st_val hs (y_move rfl) trivial rfl rfl fun a hs => ?_
    refine st_val hs (y_max rfl rfl) trivial rfl rfl fun a hs => ?_
    refine st_val hs (y_min rfl rfl) trivial rfl rfl fun a hs => ?_
    obtain ⟨x609, h608, hsh⟩ := bind_t hsh
    refine st_val hs (y_assignI rfl h608) trivial rfl rfl fun a hs => ?_
    refine wpList_nil ?_
    refine then_normal ?_
    refine wp_region_lit ?_
    refine st_val hs (y_move rfl) trivial rfl rfl fun a hs => ?_
    refine st_val hs (y_move rfl) trivial rfl rfl fun a hs => ?_
    refine w_litSlice (α := Int) (vs := [.int .i64 x609]) (cs := [.int .i64 x609]) (xs := ([x609] : List Int)) hs hw El22 rfl rfl rfl rfl rfl rfl ⟨⟨_, rfl, rfl⟩, rfl⟩ rfl trivial rfl fun b611 a w hs hw => ?_
    obtain ⟨l613, h612, hsh⟩ := bind_t hsh
    refine w_appendR (α := Int) hs hw El22 2 rfl rfl rfl 2 rfl 0 rfl 0 rfl h612 rfl trivial ?_
    intro p614 k615 c616 a w hs hw
    refine st_val hs (y_assign rfl) trivial rfl rfl fun a hs => ?_
    refine wpList_nil ?_
    refine blk_normal ?_
    refine then_normal ?_
    refine wp_region_lit ?_
    refine st_val hs (y_move rfl) trivial rfl rfl fun a hs => ?_
    refine st_val hs (y_sub rfl rfl) trivial rfl rfl fun a hs => ?_
    obtain ⟨i618, h617, hsh⟩ := bind_t hsh
    refine st_val hs (y_assignI rfl h617) trivial rfl rfl fun a hs => ?_
    refine wpList_nil ?_
    refine then_normal ?_
    exact ⟨_, (Option.some.inj hsh).symm, p602, k603, c616, p614, k615, Sv604, (hs.wk rfl), (hw.ft [1, 2] [2, 0] (by decide) rfl rfl)⟩
  ·have hsh := ite_f hsh h350
   refine wp_exit ?_
   refine then_exit ?_
   refine then_exit ?_
   refine blk_exit ?_
   have hsh := Option.some.inj hsh
   subst hsh
   have h763 := hd339 _ rfl
   subst h763
   refine then_normal ?_
   exact ⟨p235, k236, c237, p238, k239, Sv240, (hs.wk rfl), (hw.ft [0, 1] [0, 1] (by decide) rfl rfl)⟩
 ·rintro a w ⟨p343, k344, c345, p346, k347, Sv348, hs, hw⟩
  refine then_normal ?_
  refine wp_seq ?_
  refine wp_region_lit ?_
  refine st_val hs (y_move rfl) trivial rfl rfl fun a hs => ?_
  refine st_val hs (y_assign rfl) trivial rfl rfl fun a hs => ?_
  refine wpList_nil ?_
  refine then_normal ?_
  have hsh := Option.some.inj hsh
  subst hsh
  refine wp_ret ?_
  exact ret1 hs rfl (rv_tmp rfl) (hw.ret ⟨p346, k347, c345, p343, k344, rfl, (hw.outs [1, 0] (by decide) rfl), (hw.envAt 1 rfl), (hw.envAt 0 rfl)⟩)

abbrev law21_odd_rd (w0 : World) (X : List Nat) (b2 : Nat) (r : (Filter × Dice)) : (Nat → Prop) → World → Value → Prop := fun S w v => ∃ (p0_0 : Option Addr) (k0_0 : Nat) (c0_0 : List Value) (pq0_0 : Option Addr) (kq0_0 : Nat), v = .agg #[.slice p0_0 r.1.Taps.length k0_0, .int .i64 r.1.Factor, .int .i64 r.1.Shift] ∧ Outs X w0 S w [.row p0_0 r.1.Taps.length k0_0 c0_0 3 1, .box b2 [.slice pq0_0 r.2.L.length kq0_0, .int .i64 r.2.At] 75] ∧ (RowA c0_0 r.1.Taps).p S w ∧ (SlA pq0_0 r.2.L.length kq0_0 r.2.L).p S w
set_option maxHeartbeats 4000000 in
set_option maxRecDepth 100000 in
theorem law21_odd_ok {w0 : World} {S0 : Nat → Prop} {b2 : Nat} {p3 : Option Addr} {k4 : Nat} {p7 : Option Addr} {k8 : Nat} {d1 : Dice} {f6 : Filter} {r : (Filter × Dice)} (hsh : law21_odd d1 f6 = some r) (hS : ∀ b, S0 b → b < w0.heap.size) (hin : Ins S0 w0 [.box b2 [.slice p3 d1.L.length k4, .int .i64 d1.At] 75]) (h5 : (SlA p3 d1.L.length k4 d1.L).p S0 w0) (h9 : (SlA p7 f6.Taps.length k8 f6.Taps).p S0 w0) : Calls Try.prog 31 #[.pointer (some ⟨b2, 0, none⟩), .agg #[.slice p7 f6.Taps.length k8, .int .i64 f6.Factor, .int .i64 f6.Shift]] w0 (Ret (blks [.box b2 [.slice p3 d1.L.length k4, .int .i64 d1.At] 75]) w0 S0 (law21_odd_rd w0 (blks [.box b2 [.slice p3 d1.L.length k4, .int .i64 d1.At] 75]) b2 r)) := by
 refine calls_of_wp Try.func31 rfl ?_
 have hs := Sl.enter #[.pointer (some ⟨b2, 0, none⟩), .agg #[.slice p7 f6.Taps.length k8, .int .i64 f6.Factor, .int .i64 f6.Shift]] 37 [(0, .pointer (some ⟨b2, 0, none⟩)), (1, .agg #[.slice p7 f6.Taps.length k8, .int .i64 f6.Factor, .int .i64 f6.Shift])] rfl ⟨rfl, rfl, trivial⟩
 have hw := Wd.enterI hS hin
 have hw := hw.addE h5
 have hw := hw.addE h9
 delta law21_odd at hsh
 refine wp_seq ?_
 refine wp_region_lit ?_
 refine w_box (cs := [.slice p7 f6.Taps.length k8, .int .i64 f6.Factor, .int .i64 f6.Shift]) hs hw rfl rfl rfl trivial ?_
 intro b10 a w hs hw
 refine w_alloc (cs := [.slice none ([] : List Int).length 0, .int .i64 0, .int .i64 0]) hs hw Try.zeroValue28 rfl rfl trivial ?_
 intro b11 a w hs hw
 refine wpList_nil ?_
 refine then_normal ?_
 refine wp_seq ?_
 refine wp_region_lit ?_
 refine st_val hs (y_fieldAddr (o' := 0) Try.runUnderlying28 rfl Try.sizeOf22 rfl rfl rfl) trivial rfl rfl fun a hs => ?_
 refine st_val hs (y_loadB1 (hw.ownAt 1 rfl) rfl Try.isAgg22 rfl) trivial rfl rfl fun a hs => ?_
 obtain ⟨l13, h12, hsh⟩ := bind_t hsh
 have hw := hw.nilRow Int 3
 refine w_appendE (α := Int) hs hw El22 0 rfl rfl rfl 0 rfl 1 rfl h12 rfl trivial ?_
 intro p14 k15 c16 a w hs hw
 refine st_val hs (y_fieldAddr (o' := 0) Try.runUnderlying28 rfl Try.sizeOf22 rfl rfl rfl) trivial rfl rfl fun a hs => ?_
 refine w_store (m := 1) (cs' := [.slice p14 l13.length k15, .int .i64 f6.Factor, .int .i64 f6.Shift]) hs hw 2 rfl rfl rfl Try.sizeOf22 rfl rfl rfl rfl trivial ?_
 intro a w hs hw
 refine wpList_nil ?_
 refine then_normal ?_
 refine wp_seq ?_
 refine wp_seq ?_
 refine wp_region_lit ?_
 refine st_val hs (y_move rfl) trivial rfl rfl fun a hs => ?_
 obtain ⟨rv18, h17, hsh⟩ := bind_t hsh
 refine st_callR hs (made_Dice_Next_ok h17 hw.dom (hw.ins [3] (by decide) rfl) (hw.envAt 3 rfl)) (do_call Try.call15 rfl) trivial rfl rfl ?_
 intro v25 Sv22 w a h23 h24 hs
 obtain ⟨p19, k20, rfl, h26, h21⟩ := h24
 have hw := hw.callO [3] [0, 1, 2] (by decide) rfl h23 h26
 have hw := hw.addE (e := SlA p19 rv18.2.L.length k20 rv18.2.L) h21
 refine wpList_nil ?_
 refine then_normal ?_
 refine wp_block ?_
 refine wp_seq ?_
 refine wp_region_lit ?_
 refine st_val hs (y_eql rfl rfl) trivial rfl rfl fun a hs => ?_
 refine st_val hs (y_assign rfl) trivial rfl rfl fun a hs => ?_
 refine wpList_nil ?_
 refine then_normal ?_
 refine wp_join (fun a w => ∃ (x186 : (List Int)) (x187 : Int) (x188 : (List Int)) (x189 : Int) (x190 : Int) (p180 : Option Addr) (k181 : Nat) (c182 : List Value) (p183 : Option Addr) (k184 : Nat) (Sv185 : Nat → Prop), law21_odd_j1 x186 x187 x188 x189 x190 = some r ∧ Sl 37 [(3, .pointer (some ⟨b10, 0, none⟩)), (4, .pointer (some ⟨b11, 0, none⟩))] a ∧ Wd ⟨w0, S0, blks [.box b2 [.slice p3 d1.L.length k4, .int .i64 d1.At] 75]⟩ Sv185 [.box b2 [.slice p180 x186.length k181, .int .i64 x187] 75, .box b10 [.slice p183 x188.length k184, .int .i64 x189, .int .i64 x190] 28, .box b11 [.slice none ([] : List Int).length 0, .int .i64 0, .int .i64 0] 28, .row p183 x188.length k184 c182 3 1] [SlA p180 x186.length k181 x186, SlA none ([] : List Int).length 0 ([] : List Int), RowA c182 x188] w) ?_ ?_
 ·refine wp_cond_split (hs.ev rfl) (fun h191 => ?_) (fun h191 => ?_)
  ·have hsh := ite_t hsh h191
   obtain ⟨rv195, h194, hsh⟩ := bind_t hsh
   obtain ⟨l202, h201, hsh⟩ := bind_t hsh
   refine wp_only (fun a w => ∃ (Sv206 : Nat → Prop) (c205 : List Value) (k197 : Nat) (k204 : Nat) (p196 : Option Addr) (p203 : Option Addr), Sl 37 [(3, .pointer (some ⟨b10, 0, none⟩)), (4, .pointer (some ⟨b11, 0, none⟩))] a ∧ Wd ⟨w0, S0, blks [.box b2 [.slice p3 d1.L.length k4, .int .i64 d1.At] 75]⟩ Sv206 [.box b2 [.slice p196 rv195.2.L.length k197, .int .i64 rv195.2.At] 75, .box b10 [.slice p203 l202.length k204, .int .i64 f6.Factor, .int .i64 f6.Shift] 28, .box b11 [.slice none ([] : List Int).length 0, .int .i64 0, .int .i64 0] 28, .row p203 l202.length k204 c205 3 1] [SlA p196 rv195.2.L.length k197 rv195.2.L, SlA none ([] : List Int).length 0 ([] : List Int), RowA c205 l202] w) ?_ ?_
   ·refine h_b (C := Cls [.box b11 [.slice none ([] : List Int).length 0, .int .i64 0, .int .i64 0] 28] []) (by kernel_rfl) rfl (hw.drew.cs [2] [] rfl rfl) fun hC => ?_
    have hw := hw.drew
    refine h_g hs 0 rfl (by kernel_rfl) rfl rfl hC rfl (fun w hC => y_fieldAddr (o' := 0) Try.runUnderlying28 rfl Try.sizeOf22 rfl rfl rfl) fun a hs => ?_
    refine h_g hs 2 rfl (by kernel_rfl) rfl rfl hC rfl (fun w hC => y_move rfl) fun a hs => ?_
    refine h_all (rs := [1, 3]) (by kernel_rfl) rfl ?_
    refine AllH.cons rfl ?_ ?_
    ·refine st_val hs (y_loadB1 (hw.ownAt 3 rfl) rfl Try.isAgg22 rfl) trivial rfl rfl fun a hs => ?_
     refine h_nx (hw.cs [2] [] rfl rfl) fun hC => ?_
     refine h_one (i := 3) (by kernel_rfl) rfl ?_
     refine w_litSlice (α := Int) (vs := [.int .i64 1, .int .i64 (-1), .int .i64 1073741824, .int .i64 2147483648]) (cs := [.int .i64 1, .int .i64 (-1), .int .i64 1073741824, .int .i64 2147483648]) (xs := ([1, (-1), 1073741824, 2147483648] : List Int)) hs hw El22 rfl rfl rfl rfl rfl rfl ⟨⟨_, rfl, rfl⟩, ⟨⟨_, rfl, rfl⟩, ⟨⟨_, rfl, rfl⟩, ⟨⟨_, rfl, rfl⟩, rfl⟩⟩⟩⟩ rfl trivial rfl fun b193 a w hs hw => ?_
     refine h_nx (hw.cs [3] [] rfl rfl) fun hC => ?_
     refine h_one (i := 4) (by kernel_rfl) rfl ?_
     obtain ⟨Sv207, hw⟩ := w_share (α := Int) hw 0 rfl 0 rfl
     refine st_callR hs (made_Dice_Pick_ok h194 hw.dom (hw.ins [0] (by decide) rfl) (hw.envAt 2 rfl) (hw.envAt 0 rfl)) (do_call Try.call27 rfl) trivial rfl rfl ?_
     intro v211 Sv208 w a h209 h210 hs
     obtain ⟨p196, k197, rfl, h212, h198⟩ := h210
     have hw := hw.callO [0] [1, 2, 3] (by decide) rfl h209 h212
     have hw := hw.addE (e := SlA p196 rv195.2.L.length k197 rv195.2.L) h198
     refine h_nx (hw.cs [2] [] rfl rfl) fun hC => ?_
     refine h_one (i := 5) (by kernel_rfl) rfl ?_
     refine w_litSlice (α := Int) (vs := [.int .i64 rv195.1]) (cs := [.int .i64 rv195.1]) (xs := ([rv195.1] : List Int)) hs hw El22 rfl rfl rfl rfl rfl rfl ⟨⟨_, rfl, rfl⟩, rfl⟩ rfl trivial rfl fun b200 a w hs hw => ?_
     refine h_nx (hw.cs [3] [] rfl rfl) fun hC => ?_
     refine h_st (C' := Cls [.box b11 [.slice none ([] : List Int).length 0, .int .i64 0, .int .i64 0] 28, .row (some ⟨b200, 0, none⟩) ([rv195.1] : List Int).length ([rv195.1] : List Int).length [.int .i64 rv195.1] 3 1] []) (fun _ h => by exact h.sub [0] (Sel.of rfl) (AllIn.of [] rfl)) (hw.cs [3, 0] [] rfl rfl) fun hC => ?_
     refine h_one (i := 6) (by kernel_rfl) rfl ?_
     refine w_appendR (α := Int) hs hw El22 2 rfl rfl rfl 5 rfl 0 rfl 0 rfl h201 rfl trivial ?_
     intro p203 k204 c205 a w hs hw
     refine h_nx (hw.cs [3, 0] [] rfl rfl) fun hC => ?_
     refine h_g hs 7 rfl (by kernel_rfl) rfl rfl hC rfl (fun w hC => y_fieldAddr (o' := 0) Try.runUnderlying28 rfl Try.sizeOf22 rfl rfl rfl) fun a hs => ?_
     refine h_one (i := 8) (by kernel_rfl) rfl ?_
     refine w_store (m := 1) (cs' := [.slice p203 l202.length k204, .int .i64 f6.Factor, .int .i64 f6.Shift]) hs hw 4 rfl rfl rfl Try.sizeOf22 rfl rfl rfl rfl trivial ?_
     intro a w hs hw
     refine h_nx (hw.cs [3, 0] [] rfl rfl) fun hC => ?_
     refine h_done (by kernel_rfl) ?_
     have hw := hw.addE (e := SlA (α := Int) none 0 0 []) nil_sl
     exact ⟨Sv208, c205, k197, k204, p196, p203, (hs.wk rfl), (hw.ft [1, 4, 3, 2] [3, 0, 1] (by decide) rfl rfl)⟩
    refine AllH.cons rfl ?_ ?_
    ·refine w_litSlice (α := Int) (vs := [.int .i64 1, .int .i64 (-1), .int .i64 1073741824, .int .i64 2147483648]) (cs := [.int .i64 1, .int .i64 (-1), .int .i64 1073741824, .int .i64 2147483648]) (xs := ([1, (-1), 1073741824, 2147483648] : List Int)) hs hw El22 rfl rfl rfl rfl rfl rfl ⟨⟨_, rfl, rfl⟩, ⟨⟨_, rfl, rfl⟩, ⟨⟨_, rfl, rfl⟩, ⟨⟨_, rfl, rfl⟩, rfl⟩⟩⟩⟩ rfl trivial rfl fun b193 a w hs hw => ?_
     refine h_nx (hw.cs [3] [] rfl rfl) fun hC => ?_
     refine h_all (rs := [1, 4]) (by kernel_rfl) rfl ?_
     refine AllH.cons rfl ?_ ?_
     ·refine st_val hs (y_loadB1 (hw.ownAt 4 rfl) rfl Try.isAgg22 rfl) trivial rfl rfl fun a hs => ?_
      refine h_nx (hw.cs [3] [] rfl rfl) fun hC => ?_
      refine h_one (i := 4) (by kernel_rfl) rfl ?_
      obtain ⟨Sv213, hw⟩ := w_share (α := Int) hw 0 rfl 0 rfl
      refine st_callR hs (made_Dice_Pick_ok h194 hw.dom (hw.ins [0] (by decide) rfl) (hw.envAt 2 rfl) (hw.envAt 0 rfl)) (do_call Try.call27 rfl) trivial rfl rfl ?_
      intro v217 Sv214 w a h215 h216 hs
      obtain ⟨p196, k197, rfl, h218, h198⟩ := h216
      have hw := hw.callO [0] [1, 2, 3] (by decide) rfl h215 h218
      have hw := hw.addE (e := SlA p196 rv195.2.L.length k197 rv195.2.L) h198
      refine h_nx (hw.cs [2] [] rfl rfl) fun hC => ?_
      refine h_one (i := 5) (by kernel_rfl) rfl ?_
      refine w_litSlice (α := Int) (vs := [.int .i64 rv195.1]) (cs := [.int .i64 rv195.1]) (xs := ([rv195.1] : List Int)) hs hw El22 rfl rfl rfl rfl rfl rfl ⟨⟨_, rfl, rfl⟩, rfl⟩ rfl trivial rfl fun b200 a w hs hw => ?_
      refine h_nx (hw.cs [3] [] rfl rfl) fun hC => ?_
      refine h_st (C' := Cls [.box b11 [.slice none ([] : List Int).length 0, .int .i64 0, .int .i64 0] 28, .row (some ⟨b200, 0, none⟩) ([rv195.1] : List Int).length ([rv195.1] : List Int).length [.int .i64 rv195.1] 3 1] []) (fun _ h => by exact h.sub [0] (Sel.of rfl) (AllIn.of [] rfl)) (hw.cs [3, 0] [] rfl rfl) fun hC => ?_
      refine h_one (i := 6) (by kernel_rfl) rfl ?_
      refine w_appendR (α := Int) hs hw El22 2 rfl rfl rfl 5 rfl 0 rfl 0 rfl h201 rfl trivial ?_
      intro p203 k204 c205 a w hs hw
      refine h_nx (hw.cs [3, 0] [] rfl rfl) fun hC => ?_
      refine h_g hs 7 rfl (by kernel_rfl) rfl rfl hC rfl (fun w hC => y_fieldAddr (o' := 0) Try.runUnderlying28 rfl Try.sizeOf22 rfl rfl rfl) fun a hs => ?_
      refine h_one (i := 8) (by kernel_rfl) rfl ?_
      refine w_store (m := 1) (cs' := [.slice p203 l202.length k204, .int .i64 f6.Factor, .int .i64 f6.Shift]) hs hw 4 rfl rfl rfl Try.sizeOf22 rfl rfl rfl rfl trivial ?_
      intro a w hs hw
      refine h_nx (hw.cs [3, 0] [] rfl rfl) fun hC => ?_
      refine h_done (by kernel_rfl) ?_
      have hw := hw.addE (e := SlA (α := Int) none 0 0 []) nil_sl
      exact ⟨Sv214, c205, k197, k204, p196, p203, (hs.wk rfl), (hw.ft [1, 4, 3, 2] [3, 0, 1] (by decide) rfl rfl)⟩
     refine AllH.cons rfl ?_ ?_
     ·obtain ⟨Sv219, hw⟩ := w_share (α := Int) hw 0 rfl 0 rfl
      refine st_callR hs (made_Dice_Pick_ok h194 hw.dom (hw.ins [0] (by decide) rfl) (hw.envAt 2 rfl) (hw.envAt 0 rfl)) (do_call Try.call27 rfl) trivial rfl rfl ?_
      intro v223 Sv220 w a h221 h222 hs
      obtain ⟨p196, k197, rfl, h224, h198⟩ := h222
      have hw := hw.callO [0] [1, 2, 3] (by decide) rfl h221 h224
      have hw := hw.addE (e := SlA p196 rv195.2.L.length k197 rv195.2.L) h198
      refine h_nx (hw.cs [2] [] rfl rfl) fun hC => ?_
      refine h_all (rs := [1, 5]) (by kernel_rfl) rfl ?_
      refine AllH.cons rfl ?_ ?_
      ·refine st_val hs (y_loadB1 (hw.ownAt 3 rfl) rfl Try.isAgg22 rfl) trivial rfl rfl fun a hs => ?_
       refine h_nx (hw.cs [2] [] rfl rfl) fun hC => ?_
       refine h_one (i := 5) (by kernel_rfl) rfl ?_
       refine w_litSlice (α := Int) (vs := [.int .i64 rv195.1]) (cs := [.int .i64 rv195.1]) (xs := ([rv195.1] : List Int)) hs hw El22 rfl rfl rfl rfl rfl rfl ⟨⟨_, rfl, rfl⟩, rfl⟩ rfl trivial rfl fun b200 a w hs hw => ?_
       refine h_nx (hw.cs [3] [] rfl rfl) fun hC => ?_
       refine h_st (C' := Cls [.box b11 [.slice none ([] : List Int).length 0, .int .i64 0, .int .i64 0] 28, .row (some ⟨b200, 0, none⟩) ([rv195.1] : List Int).length ([rv195.1] : List Int).length [.int .i64 rv195.1] 3 1] []) (fun _ h => by exact h.sub [0] (Sel.of rfl) (AllIn.of [] rfl)) (hw.cs [3, 0] [] rfl rfl) fun hC => ?_
       refine h_one (i := 6) (by kernel_rfl) rfl ?_
       refine w_appendR (α := Int) hs hw El22 2 rfl rfl rfl 5 rfl 0 rfl 0 rfl h201 rfl trivial ?_
       intro p203 k204 c205 a w hs hw
       refine h_nx (hw.cs [3, 0] [] rfl rfl) fun hC => ?_
       refine h_g hs 7 rfl (by kernel_rfl) rfl rfl hC rfl (fun w hC => y_fieldAddr (o' := 0) Try.runUnderlying28 rfl Try.sizeOf22 rfl rfl rfl) fun a hs => ?_
       refine h_one (i := 8) (by kernel_rfl) rfl ?_
       refine w_store (m := 1) (cs' := [.slice p203 l202.length k204, .int .i64 f6.Factor, .int .i64 f6.Shift]) hs hw 4 rfl rfl rfl Try.sizeOf22 rfl rfl rfl rfl trivial ?_
       intro a w hs hw
       refine h_nx (hw.cs [3, 0] [] rfl rfl) fun hC => ?_
       refine h_done (by kernel_rfl) ?_
       have hw := hw.addE (e := SlA (α := Int) none 0 0 []) nil_sl
       exact ⟨Sv220, c205, k197, k204, p196, p203, (hs.wk rfl), (hw.ft [1, 4, 3, 2] [3, 0, 1] (by decide) rfl rfl)⟩
      refine AllH.cons rfl ?_ ?_
      ·refine w_litSlice (α := Int) (vs := [.int .i64 rv195.1]) (cs := [.int .i64 rv195.1]) (xs := ([rv195.1] : List Int)) hs hw El22 rfl rfl rfl rfl rfl rfl ⟨⟨_, rfl, rfl⟩, rfl⟩ rfl trivial rfl fun b200 a w hs hw => ?_
       refine h_nx (hw.cs [3] [] rfl rfl) fun hC => ?_
       refine h_st (C' := Cls [.box b11 [.slice none ([] : List Int).length 0, .int .i64 0, .int .i64 0] 28, .row (some ⟨b200, 0, none⟩) ([rv195.1] : List Int).length ([rv195.1] : List Int).length [.int .i64 rv195.1] 3 1] []) (fun _ h => by exact h.sub [0] (Sel.of rfl) (AllIn.of [] rfl)) (hw.cs [3, 0] [] rfl rfl) fun hC => ?_
       refine h_one (i := 1) (by kernel_rfl) rfl ?_
       refine st_val hs (y_loadB1 (hw.ownAt 4 rfl) rfl Try.isAgg22 rfl) trivial rfl rfl fun a hs => ?_
       refine h_nx (hw.cs [3, 0] [] rfl rfl) fun hC => ?_
       refine h_one (i := 6) (by kernel_rfl) rfl ?_
       refine w_appendR (α := Int) hs hw El22 2 rfl rfl rfl 5 rfl 0 rfl 0 rfl h201 rfl trivial ?_
       intro p203 k204 c205 a w hs hw
       refine h_nx (hw.cs [3, 0] [] rfl rfl) fun hC => ?_
       refine h_g hs 7 rfl (by kernel_rfl) rfl rfl hC rfl (fun w hC => y_fieldAddr (o' := 0) Try.runUnderlying28 rfl Try.sizeOf22 rfl rfl rfl) fun a hs => ?_
       refine h_one (i := 8) (by kernel_rfl) rfl ?_
       refine w_store (m := 1) (cs' := [.slice p203 l202.length k204, .int .i64 f6.Factor, .int .i64 f6.Shift]) hs hw 4 rfl rfl rfl Try.sizeOf22 rfl rfl rfl rfl trivial ?_
       intro a w hs hw
       refine h_nx (hw.cs [3, 0] [] rfl rfl) fun hC => ?_
       refine h_done (by kernel_rfl) ?_
       have hw := hw.addE (e := SlA (α := Int) none 0 0 []) nil_sl
       exact ⟨Sv220, c205, k197, k204, p196, p203, (hs.wk rfl), (hw.ft [1, 4, 3, 2] [3, 0, 1] (by decide) rfl rfl)⟩
      exact AllH.nil
     exact AllH.nil
    exact AllH.nil
   ·rintro a w ⟨Sv206, c205, k197, k204, p196, p203, hs, hw⟩
    refine then_normal ?_
    exact ⟨rv195.2.L, rv195.2.At, l202, f6.Factor, f6.Shift, p196, k197, c205, p203, k204, Sv206, hsh, (hs.wk rfl), (hw.ft [0, 1, 2, 3] [0, 1, 2] (by decide) rfl rfl)⟩
  ·have hsh := ite_f hsh h191
   refine wp_seq ?_
   refine wp_region_lit ?_
   refine st_val hs (y_eql rfl rfl) trivial rfl rfl fun a hs => ?_
   refine st_val hs (y_assign rfl) trivial rfl rfl fun a hs => ?_
   refine wpList_nil ?_
   refine then_normal ?_
   refine wp_join (fun a w => ∃ (x275 : (List Int)) (x276 : Int) (x277 : (List Int)) (x278 : Int) (x279 : Int) (p269 : Option Addr) (k270 : Nat) (c271 : List Value) (p272 : Option Addr) (k273 : Nat) (Sv274 : Nat → Prop), law21_odd_j2 x275 x276 x277 x278 x279 = some r ∧ Sl 37 [(3, .pointer (some ⟨b10, 0, none⟩)), (4, .pointer (some ⟨b11, 0, none⟩))] a ∧ Wd ⟨w0, S0, blks [.box b2 [.slice p3 d1.L.length k4, .int .i64 d1.At] 75]⟩ Sv274 [.box b2 [.slice p269 x275.length k270, .int .i64 x276] 75, .box b10 [.slice p272 x277.length k273, .int .i64 x278, .int .i64 x279] 28, .box b11 [.slice none ([] : List Int).length 0, .int .i64 0, .int .i64 0] 28, .row p272 x277.length k273 c271 3 1] [SlA p269 x275.length k270 x275, SlA none ([] : List Int).length 0 ([] : List Int), RowA c271 x277] w) ?_ ?_
   ·refine wp_cond_split (hs.ev rfl) (fun h280 => ?_) (fun h280 => ?_)
    ·have hsh := ite_t hsh h280
     refine wp_region_lit ?_
     refine st_val hs (y_move rfl) trivial rfl rfl fun a hs => ?_
     refine w_litSlice (α := Int) (vs := [.int .i64 0, .int .i64 64, .int .i64 65]) (cs := [.int .i64 0, .int .i64 64, .int .i64 65]) (xs := ([0, 64, 65] : List Int)) hs hw El22 rfl rfl rfl rfl rfl rfl ⟨⟨_, rfl, rfl⟩, ⟨⟨_, rfl, rfl⟩, ⟨⟨_, rfl, rfl⟩, rfl⟩⟩⟩ rfl trivial rfl fun b282 a w hs hw => ?_
     obtain ⟨rv284, h283, hsh⟩ := bind_t hsh
     obtain ⟨Sv288, hw⟩ := w_share (α := Int) hw 0 rfl 0 rfl
     refine st_callR hs (made_Dice_Pick_ok h283 hw.dom (hw.ins [0] (by decide) rfl) (hw.envAt 2 rfl) (hw.envAt 0 rfl)) (do_call Try.call27 rfl) trivial rfl rfl ?_
     intro v292 Sv289 w a h290 h291 hs
     obtain ⟨p285, k286, rfl, h293, h287⟩ := h291
     have hw := hw.callO [0] [1, 2, 3] (by decide) rfl h290 h293
     have hw := hw.addE (e := SlA p285 rv284.2.L.length k286 rv284.2.L) h287
     refine st_val hs (y_fieldAddr (o' := 1) Try.runUnderlying28 rfl Try.sizeOf3 rfl rfl rfl) trivial rfl rfl fun a hs => ?_
     refine w_store (m := 1) (cs' := [.slice p14 l13.length k15, .int .i64 rv284.1, .int .i64 f6.Shift]) hs hw 3 rfl rfl rfl Try.sizeOf3 rfl rfl rfl rfl trivial ?_
     intro a w hs hw
     refine wpList_nil ?_
     refine then_normal ?_
     have hw := hw.addE (e := SlA (α := Int) none 0 0 []) nil_sl
     exact ⟨rv284.2.L, rv284.2.At, l13, rv284.1, f6.Shift, p285, k286, c16, p14, k15, Sv289, hsh, (hs.wk rfl), (hw.ft [0, 3, 2, 1] [1, 0, 5] (by decide) rfl rfl)⟩
    ·have hsh := ite_f hsh h280
     refine wp_seq ?_
     refine wp_region_lit ?_
     refine st_val hs (y_eql rfl rfl) trivial rfl rfl fun a hs => ?_
     refine st_val hs (y_assign rfl) trivial rfl rfl fun a hs => ?_
     refine wpList_nil ?_
     refine then_normal ?_
     refine wp_join (fun a w => ∃ (x320 : (List Int)) (x321 : Int) (x322 : (List Int)) (x323 : Int) (p314 : Option Addr) (k315 : Nat) (c316 : List Value) (p317 : Option Addr) (k318 : Nat) (Sv319 : Nat → Prop), law21_odd_j3 f6 x320 x321 x322 x323 = some r ∧ Sl 37 [(3, .pointer (some ⟨b10, 0, none⟩)), (4, .pointer (some ⟨b11, 0, none⟩))] a ∧ Wd ⟨w0, S0, blks [.box b2 [.slice p3 d1.L.length k4, .int .i64 d1.At] 75]⟩ Sv319 [.box b2 [.slice p314 x320.length k315, .int .i64 x321] 75, .box b10 [.slice p317 x322.length k318, .int .i64 f6.Factor, .int .i64 x323] 28, .box b11 [.slice none ([] : List Int).length 0, .int .i64 0, .int .i64 0] 28, .row p317 x322.length k318 c316 3 1] [SlA p314 x320.length k315 x320, SlA none ([] : List Int).length 0 ([] : List Int), RowA c316 x322] w) ?_ ?_
     ·refine wp_cond_split (hs.ev rfl) (fun h324 => ?_) (fun h324 => ?_)
      ·have hsh := ite_t hsh h324
       refine wp_region_lit ?_
       refine st_val hs (y_move rfl) trivial rfl rfl fun a hs => ?_
       refine w_litSlice (α := Int) (vs := [.int .i64 (-1), .int .i64 0, .int .i64 30, .int .i64 31]) (cs := [.int .i64 (-1), .int .i64 0, .int .i64 30, .int .i64 31]) (xs := ([(-1), 0, 30, 31] : List Int)) hs hw El22 rfl rfl rfl rfl rfl rfl ⟨⟨_, rfl, rfl⟩, ⟨⟨_, rfl, rfl⟩, ⟨⟨_, rfl, rfl⟩, ⟨⟨_, rfl, rfl⟩, rfl⟩⟩⟩⟩ rfl trivial rfl fun b326 a w hs hw => ?_
       obtain ⟨rv328, h327, hsh⟩ := bind_t hsh
       obtain ⟨Sv332, hw⟩ := w_share (α := Int) hw 0 rfl 0 rfl
       refine st_callR hs (made_Dice_Pick_ok h327 hw.dom (hw.ins [0] (by decide) rfl) (hw.envAt 2 rfl) (hw.envAt 0 rfl)) (do_call Try.call27 rfl) trivial rfl rfl ?_
       intro v336 Sv333 w a h334 h335 hs
       obtain ⟨p329, k330, rfl, h337, h331⟩ := h335
       have hw := hw.callO [0] [1, 2, 3] (by decide) rfl h334 h337
       have hw := hw.addE (e := SlA p329 rv328.2.L.length k330 rv328.2.L) h331
       refine st_val hs (y_fieldAddr (o' := 2) Try.runUnderlying28 rfl Try.sizeOf3 rfl rfl rfl) trivial rfl rfl fun a hs => ?_
       refine w_store (m := 1) (cs' := [.slice p14 l13.length k15, .int .i64 f6.Factor, .int .i64 rv328.1]) hs hw 3 rfl rfl rfl Try.sizeOf3 rfl rfl rfl rfl trivial ?_
       intro a w hs hw
       refine wpList_nil ?_
       refine then_normal ?_
       have hw := hw.addE (e := SlA (α := Int) none 0 0 []) nil_sl
       exact ⟨rv328.2.L, rv328.2.At, l13, rv328.1, p329, k330, c16, p14, k15, Sv333, hsh, (hs.wk rfl), (hw.ft [0, 3, 2, 1] [1, 0, 5] (by decide) rfl rfl)⟩
      ·have hsh := ite_f hsh h324
       refine wp_seq ?_
       refine wp_region_lit ?_
       refine st_val hs (y_eql rfl rfl) trivial rfl rfl fun a hs => ?_
       refine st_val hs (y_assign rfl) trivial rfl rfl fun a hs => ?_
       refine wpList_nil ?_
       refine then_normal ?_
       refine wp_join (fun a w => ∃ (x343 : (List Int)) (c339 : List Value) (p340 : Option Addr) (k341 : Nat) (Sv342 : Nat → Prop), law21_odd_j4 f6 rv18 x343 = some r ∧ Sl 37 [(3, .pointer (some ⟨b10, 0, none⟩)), (4, .pointer (some ⟨b11, 0, none⟩))] a ∧ Wd ⟨w0, S0, blks [.box b2 [.slice p3 d1.L.length k4, .int .i64 d1.At] 75]⟩ Sv342 [.box b2 [.slice p19 rv18.2.L.length k20, .int .i64 rv18.2.At] 75, .box b10 [.slice p340 x343.length k341, .int .i64 f6.Factor, .int .i64 f6.Shift] 28, .box b11 [.slice none ([] : List Int).length 0, .int .i64 0, .int .i64 0] 28, .row p340 x343.length k341 c339 3 1] [SlA p19 rv18.2.L.length k20 rv18.2.L, SlA none ([] : List Int).length 0 ([] : List Int), RowA c339 x343] w) ?_ ?_
       ·refine wp_cond_split (hs.ev rfl) (fun h344 => ?_) (fun h344 => ?_)
        ·have hsh := ite_t hsh h344
         refine wp_region_lit ?_
         refine st_val hs (y_fieldAddr (o' := 0) Try.runUnderlying28 rfl Try.sizeOf22 rfl rfl rfl) trivial rfl rfl fun a hs => ?_
         refine w_store (m := 1) (cs' := [.slice none ([] : List Int).length 0, .int .i64 f6.Factor, .int .i64 f6.Shift]) hs hw 3 rfl rfl rfl Try.sizeOf22 rfl rfl rfl rfl trivial ?_
         intro a w hs hw
         refine wpList_nil ?_
         refine then_normal ?_
         have hw := hw.nilRow Int 3
         have hw := hw.addE (e := SlA (α := Int) none 0 0 []) nil_sl
         exact ⟨([] : List Int), [], none, 0, Sv22, hsh, (hs.wk rfl), (hw.ft [1, 4, 3, 0] [2, 0, 1] (by decide) rfl rfl)⟩
        ·have hsh := ite_f hsh h344
         refine wp_skip ?_
         refine then_normal ?_
         have hw := hw.addE (e := SlA (α := Int) none 0 0 []) nil_sl
         exact ⟨l13, c16, p14, k15, Sv22, hsh, (hs.wk rfl), (hw.ft [0, 3, 2, 1] [1, 0, 2] (by decide) rfl rfl)⟩
       ·rintro a w ⟨x343, c339, p340, k341, Sv342, hsh, hs, hw⟩
        delta law21_odd_j4 at hsh
        refine then_normal ?_
        exact ⟨rv18.2.L, rv18.2.At, x343, f6.Shift, p19, k20, c339, p340, k341, Sv342, hsh, (hs.wk rfl), (hw.ft [0, 1, 2, 3] [0, 1, 2] (by decide) rfl rfl)⟩
     ·rintro a w ⟨x320, x321, x322, x323, p314, k315, c316, p317, k318, Sv319, hsh, hs, hw⟩
      delta law21_odd_j3 at hsh
      refine then_normal ?_
      exact ⟨x320, x321, x322, f6.Factor, x323, p314, k315, c316, p317, k318, Sv319, hsh, (hs.wk rfl), (hw.ft [0, 1, 2, 3] [0, 1, 2] (by decide) rfl rfl)⟩
   ·rintro a w ⟨x275, x276, x277, x278, x279, p269, k270, c271, p272, k273, Sv274, hsh, hs, hw⟩
    delta law21_odd_j2 at hsh
    refine then_normal ?_
    exact ⟨x275, x276, x277, x278, x279, p269, k270, c271, p272, k273, Sv274, hsh, (hs.wk rfl), (hw.ft [0, 1, 2, 3] [0, 1, 2] (by decide) rfl rfl)⟩
 ·rintro a w ⟨x186, x187, x188, x189, x190, p180, k181, c182, p183, k184, Sv185, hsh, hs, hw⟩
  delta law21_odd_j1 at hsh
  refine blk_normal ?_
  refine then_normal ?_
  refine wp_seq ?_
  refine wp_region_lit ?_
  refine st_val hs (y_loadBA (hw.ownAt 1 rfl) rfl Try.isAgg28 Try.sizeOf28 rfl rfl) trivial rfl rfl fun a hs => ?_
  refine w_store (m := 3) (cs' := [.slice p183 x188.length k184, .int .i64 x189, .int .i64 x190]) hs hw 2 rfl rfl rfl Try.sizeOf28 rfl rfl rfl rfl trivial ?_
  intro a w hs hw
  refine wpList_nil ?_
  refine then_normal ?_
  have hsh := Option.some.inj hsh
  subst hsh
  refine wp_ret ?_
  exact ret1 hs rfl (rv_cell hw 2 rfl rfl Try.isAgg28 Try.sizeOf28 rfl) (hw.ret ⟨p183, k184, c182, p180, k181, rfl, (hw.outs [3, 0] (by decide) rfl), (hw.envAt 2 rfl), (hw.envAt 0 rfl)⟩)

abbrev ref01_In_rd (w0 : World) (X : List Nat) (r : Bool) : (Nat → Prop) → World → Value → Prop := fun S w v => v = .bool r
set_option maxHeartbeats 4000000 in
set_option maxRecDepth 100000 in
theorem ref01_In_ok {w0 : World} {S0 : Nat → Prop} {n1 : Int} {lo2 : Int} {hi3 : Int} {r : Bool} (hsh : ref01_In n1 lo2 hi3 = some r) (hS : ∀ b, S0 b → b < w0.heap.size) : Calls Try.prog 43 #[.int .i64 n1, .int .i64 lo2, .int .i64 hi3] w0 (Ret ([]) w0 S0 (ref01_In_rd w0 ([]) r)) := by
 refine calls_of_wp Try.func43 rfl ?_
 have hs := Sl.enter #[.int .i64 n1, .int .i64 lo2, .int .i64 hi3] 15 [(0, .int .i64 n1), (1, .int .i64 lo2), (2, .int .i64 hi3)] rfl ⟨rfl, rfl, rfl, trivial⟩
 have hw := Wd.enter (E := []) hS (fun _ h => (by cases h))
 delta ref01_In at hsh
 refine wp_seq ?_
 refine wp_region_lit ?_
 refine st_val hs (y_assign rfl) trivial rfl rfl fun a hs => ?_
 refine wpList_nil ?_
 refine then_normal ?_
 refine wp_seq ?_
 refine wp_region_lit ?_
 refine st_val hs (y_move rfl) trivial rfl rfl fun a hs => ?_
 refine st_val hs (y_move rfl) trivial rfl rfl fun a hs => ?_
 refine st_val hs (y_geq rfl rfl) trivial rfl rfl fun a hs => ?_
 refine st_val hs (y_move rfl) trivial rfl rfl fun a hs => ?_
 refine wpl_join 4 (fun a w1 => w0 = w1 ∧ Sl 15 [(14, .bool ((decide (lo2 ≤ n1)) && (decide (n1 ≤ hi3))))] a) ?_ ?_
 ·rcases Bool.eq_false_or_eq_true (decide (lo2 ≤ n1)) with h4 | h4
  ·have hs := hs.fix 10 (.bool true) rfl (vb h4)
   refine st_val hs (y_move rfl) ⟨_, rfl, rfl⟩ rfl rfl fun a hs => ?_
   refine st_val hs (y_move rfl) ⟨_, rfl, rfl⟩ rfl rfl fun a hs => ?_
   refine st_val hs (y_leq rfl rfl) ⟨_, rfl, rfl⟩ rfl rfl fun a hs => ?_
   refine st_val hs (y_pickT rfl rfl) trivial rfl rfl fun a hs => ?_
   refine wpList_nil ?_
   refine then_normal ?_
   exact ⟨rfl, (hs.fix 14 (.bool ((decide (lo2 ≤ n1)) && (decide (n1 ≤ hi3)))) rfl (and_t h4)).weaken _ ⟨rfl, trivial⟩⟩
  ·have hs := hs.fix 10 (.bool false) rfl (vb h4)
   refine st_skip hs rfl rfl rfl rfl rfl fun a hs => ?_
   refine st_skip hs rfl rfl rfl rfl rfl fun a hs => ?_
   refine st_skip hs rfl rfl rfl rfl rfl fun a hs => ?_
   refine st_val hs (y_pickF rfl rfl) trivial rfl rfl fun a hs => ?_
   refine wpList_nil ?_
   refine then_normal ?_
   exact ⟨rfl, (hs.fix 14 (.bool ((decide (lo2 ≤ n1)) && (decide (n1 ≤ hi3)))) rfl (and_f h4)).weaken _ ⟨rfl, trivial⟩⟩
 ·rintro a w1 ⟨h5, hs⟩
  subst h5
  refine st_val hs (y_assign rfl) trivial rfl rfl fun a hs => ?_
  refine wpList_nil ?_
  refine then_normal ?_
  have hsh := Option.some.inj hsh
  subst hsh
  refine wp_ret ?_
  exact ret1 hs rfl (rv_tmp rfl) (hw.ret rfl)

abbrev ref21_Valid_rd (w0 : World) (X : List Nat) (r : Bool) : (Nat → Prop) → World → Value → Prop := fun S w v => v = .bool r
set_option maxHeartbeats 4000000 in
set_option maxRecDepth 100000 in
theorem ref21_Valid_ok {w0 : World} {S0 : Nat → Prop} {p2 : Option Addr} {k3 : Nat} {f1 : Filter} {r : Bool} (hsh : ref21_Valid f1 = some r) (hS : ∀ b, S0 b → b < w0.heap.size) (h4 : (SlA p2 f1.Taps.length k3 f1.Taps).p S0 w0) : Calls Try.prog 20 #[.agg #[.slice p2 f1.Taps.length k3, .int .i64 f1.Factor, .int .i64 f1.Shift]] w0 (Ret ([]) w0 S0 (ref21_Valid_rd w0 ([]) r)) := by
 refine calls_of_wp Try.func20 rfl ?_
 have hs := Sl.enter #[.agg #[.slice p2 f1.Taps.length k3, .int .i64 f1.Factor, .int .i64 f1.Shift]] 56 [(0, .agg #[.slice p2 f1.Taps.length k3, .int .i64 f1.Factor, .int .i64 f1.Shift])] rfl ⟨rfl, trivial⟩
 have hw := Wd.enter (E := []) hS (fun _ h => (by cases h))
 have hw := hw.addE h4
 delta ref21_Valid at hsh
 refine wp_seq ?_
 refine wp_region_lit ?_
 refine w_box (cs := [.slice p2 f1.Taps.length k3, .int .i64 f1.Factor, .int .i64 f1.Shift]) hs hw rfl rfl rfl trivial ?_
 intro b5 a w hs hw
 refine st_val hs (y_assign rfl) trivial rfl rfl fun a hs => ?_
 refine wpList_nil ?_
 refine then_normal ?_
 refine wp_seq ?_
 refine wp_seq ?_
 refine wp_region_lit ?_
 refine st_val hs (y_fieldAddr (o' := 0) Try.runUnderlying28 rfl Try.sizeOf22 rfl rfl rfl) trivial rfl rfl fun a hs => ?_
 refine st_val hs (y_loadB1 (hw.ownAt 0 rfl) rfl Try.isAgg22 rfl) trivial rfl rfl fun a hs => ?_
 refine st_val hs (y_len Try.runUnderlying22 rfl) trivial rfl rfl fun a hs => ?_
 obtain ⟨rv7, h6, hsh⟩ := bind_t hsh
 refine st_callR hs (ref01_In_ok h6 hw.bdom) (do_call Try.call43 rfl) trivial rfl rfl ?_
 intro v11 Sv8 w a h9 h10 hs
 subst h10
 have hw := hw.callB h9
 refine st_val hs (y_not rfl) trivial rfl rfl fun a hs => ?_
 refine st_val hs (y_move rfl) trivial rfl rfl fun a hs => ?_
 obtain ⟨c21, hc21, hsh⟩ := bind_t hsh
 refine wpl_join 5 (fun a w => ∃ (Sv22 : Nat → Prop), Sl 56 [(1, .pointer (some ⟨b5, 0, none⟩)), (15, .bool c21)] a ∧ Wd ⟨w0, S0, []⟩ Sv22 [.box b5 [.slice p2 f1.Taps.length k3, .int .i64 f1.Factor, .int .i64 f1.Shift] 28] [SlA p2 f1.Taps.length k3 f1.Taps] w) ?_ ?_
 ·rcases Bool.eq_false_or_eq_true (!rv7) with h20 | h20
  ·have hs := hs.fix 10 (.bool true) rfl (vb h20)
   have hsh := ite_t hc21 h20
   refine st_skip hs rfl rfl rfl rfl rfl fun a hs => ?_
   refine st_skip hs rfl rfl rfl rfl rfl fun a hs => ?_
   refine st_skip hs rfl rfl rfl rfl rfl fun a hs => ?_
   refine st_skip hs rfl rfl rfl rfl rfl fun a hs => ?_
   refine st_val hs (y_pickT rfl rfl) trivial rfl rfl fun a hs => ?_
   refine wpList_nil ?_
   have hsh := Option.some.inj hsh
   subst hsh
   refine then_normal ?_
   exact ⟨S0, (hs.wk rfl), (hw.ft [0] [0] (by decide) rfl rfl)⟩
  ·have hs := hs.fix 10 (.bool false) rfl (vb h20)
   have hsh := ite_f hc21 h20
   refine st_val hs (y_fieldAddr (o' := 2) Try.runUnderlying28 rfl Try.sizeOf3 rfl rfl rfl) ⟨_, rfl, rfl⟩ rfl rfl fun a hs => ?_
   refine st_val hs (y_loadB1 (hw.ownAt 0 rfl) rfl Try.isAgg3 rfl) ⟨_, rfl, rfl⟩ rfl rfl fun a hs => ?_
   obtain ⟨rv24, h23, hsh⟩ := bind_t hsh
   refine st_callR hs (ref01_In_ok h23 hw.bdom) (do_call Try.call43 rfl) ⟨_, rfl, rfl⟩ rfl rfl ?_
   intro v28 Sv25 w a h26 h27 hs
   subst h27
   have hw := hw.callB h26
   refine st_val hs (y_not rfl) ⟨_, rfl, rfl⟩ rfl rfl fun a hs => ?_
   refine st_val hs (y_pickF rfl rfl) trivial rfl rfl fun a hs => ?_
   refine wpList_nil ?_
   have hsh := Option.some.inj hsh
   subst hsh
   refine then_normal ?_
   exact ⟨S0, (hs.wk rfl), (hw.ft [0] [0] (by decide) rfl rfl)⟩
 ·rintro a w ⟨Sv22, hs, hw⟩
  refine st_val hs (y_move rfl) trivial rfl rfl fun a hs => ?_
  obtain ⟨c38, hc38, hsh⟩ := bind_t hsh
  refine wpl_join 5 (fun a w => ∃ (Sv39 : Nat → Prop), Sl 56 [(1, .pointer (some ⟨b5, 0, none⟩)), (21, .bool c38)] a ∧ Wd ⟨w0, S0, []⟩ Sv39 [.box b5 [.slice p2 f1.Taps.length k3, .int .i64 f1.Factor, .int .i64 f1.Shift] 28] [SlA p2 f1.Taps.length k3 f1.Taps] w) ?_ ?_
  ·rcases Bool.eq_false_or_eq_true c21 with h37 | h37
   ·have hs := hs.fix 16 (.bool true) rfl (vb h37)
    have hsh := ite_t hc38 h37
    refine st_skip hs rfl rfl rfl rfl rfl fun a hs => ?_
    refine st_skip hs rfl rfl rfl rfl rfl fun a hs => ?_
    refine st_skip hs rfl rfl rfl rfl rfl fun a hs => ?_
    refine st_skip hs rfl rfl rfl rfl rfl fun a hs => ?_
    refine st_val hs (y_pickT rfl rfl) trivial rfl rfl fun a hs => ?_
    refine wpList_nil ?_
    have hsh := Option.some.inj hsh
    subst hsh
    refine then_normal ?_
    exact ⟨Sv22, (hs.wk rfl), (hw.ft [0] [0] (by decide) rfl rfl)⟩
   ·have hs := hs.fix 16 (.bool false) rfl (vb h37)
    have hsh := ite_f hc38 h37
    refine st_val hs (y_fieldAddr (o' := 1) Try.runUnderlying28 rfl Try.sizeOf3 rfl rfl rfl) ⟨_, rfl, rfl⟩ rfl rfl fun a hs => ?_
    refine st_val hs (y_loadB1 (hw.ownAt 0 rfl) rfl Try.isAgg3 rfl) ⟨_, rfl, rfl⟩ rfl rfl fun a hs => ?_
    obtain ⟨rv41, h40, hsh⟩ := bind_t hsh
    refine st_callR hs (ref01_In_ok h40 hw.bdom) (do_call Try.call43 rfl) ⟨_, rfl, rfl⟩ rfl rfl ?_
    intro v45 Sv42 w a h43 h44 hs
    subst h44
    have hw := hw.callB h43
    refine st_val hs (y_not rfl) ⟨_, rfl, rfl⟩ rfl rfl fun a hs => ?_
    refine st_val hs (y_pickF rfl rfl) trivial rfl rfl fun a hs => ?_
    refine wpList_nil ?_
    have hsh := Option.some.inj hsh
    subst hsh
    refine then_normal ?_
    exact ⟨Sv22, (hs.wk rfl), (hw.ft [0] [0] (by decide) rfl rfl)⟩
  ·rintro a w ⟨Sv39, hs, hw⟩
   refine wpList_nil ?_
   refine then_normal ?_
   refine wp_cond_split (hs.ev rfl) (fun h48 => ?_) (fun h48 => ?_)
   ·have hsh := ite_t hsh h48
    refine wp_seq ?_
    refine wp_region_lit ?_
    refine st_val hs (y_assign rfl) trivial rfl rfl fun a hs => ?_
    refine wpList_nil ?_
    refine then_normal ?_
    have hsh := Option.some.inj hsh
    subst hsh
    refine wp_ret ?_
    refine then_ret ?_
    exact ret1 hs rfl (rv_tmp rfl) (hw.ret rfl)
   ·have hsh := ite_f hsh h48
    refine wp_skip ?_
    refine then_normal ?_
    refine wp_seq ?_
    refine wp_region_lit ?_
    refine st_val hs (y_assign rfl) trivial rfl rfl fun a hs => ?_
    refine wpList_nil ?_
    refine then_normal ?_
    refine wp_seq ?_
    refine wp_seq ?_
    refine wp_region_lit ?_
    refine st_val hs (y_assign rfl) trivial rfl rfl fun a hs => ?_
    refine wpList_nil ?_
    refine then_normal ?_
    refine wp_block ?_
    refine wp_while (fun sv183 a w => ∃ (Sv271 : Nat → Prop), Sl 56 [(1, .pointer (some ⟨b5, 0, none⟩)), (3, .int .i64 sv183.1), (4, .int .i64 sv183.2)] a ∧ Wd ⟨w0, S0, []⟩ Sv271 [.box b5 [.slice p2 f1.Taps.length k3, .int .i64 f1.Factor, .int .i64 f1.Shift] 28] [SlA p2 f1.Taps.length k3 f1.Taps] w) (0, 0) hsh ⟨Sv39, (hs.wk rfl), (hw.ft [0] [0] (by decide) rfl rfl)⟩ ?_
    repeat clear hsh
    rintro sv183 a w tv316 ⟨Sv271, hs, hw⟩ hsh hd315
    delta ref21_Valid_l2 at hsh
    refine wp_seq ?_
    refine wp_seq ?_
    refine wp_region_lit ?_
    refine st_val hs (y_move rfl) trivial rfl rfl fun a hs => ?_
    refine st_val hs (y_fieldAddr (o' := 0) Try.runUnderlying28 rfl Try.sizeOf22 rfl rfl rfl) trivial rfl rfl fun a hs => ?_
    refine st_val hs (y_loadB1 (hw.ownAt 0 rfl) rfl Try.isAgg22 rfl) trivial rfl rfl fun a hs => ?_
    refine st_val hs (y_len Try.runUnderlying22 rfl) trivial rfl rfl fun a hs => ?_
    refine st_val hs (y_lss rfl rfl) trivial rfl rfl fun a hs => ?_
    refine wpList_nil ?_
    refine then_normal ?_
    refine wp_cond_split (hs.ev rfl) (fun h320 => ?_) (fun h320 => ?_)
    ·have hsh := ite_t hsh h320
     refine wp_skip ?_
     refine then_normal ?_
     refine wp_seq ?_
     refine wp_block ?_
     refine wp_seq ?_
     refine wp_seq ?_
     refine wp_region_lit ?_
     refine st_val hs (y_fieldAddr (o' := 0) Try.runUnderlying28 rfl Try.sizeOf22 rfl rfl rfl) trivial rfl rfl fun a hs => ?_
     refine st_val hs (y_loadB1 (hw.ownAt 0 rfl) rfl Try.isAgg22 rfl) trivial rfl rfl fun a hs => ?_
     refine st_val hs (y_move rfl) trivial rfl rfl fun a hs => ?_
     obtain ⟨x363, h361, hsh⟩ := bind_t hsh
     obtain ⟨b369, o370, q367, c368, h371, h364, h365, h366, h362⟩ := hw.elemV 0 rfl h361
     have hsv372 := hs
     have hwv373 := hw
     subst h371
     have hs := hsv372
     have hw := hwv373
     obtain ⟨_, rfl, rfl⟩ := h362
     have hw := hw.addE h366
     refine st_val hs (y_indexAt Try.runUnderlying22 Try.sizeOf3 rfl rfl h364.1 h364.2 h365) trivial rfl rfl fun a hs => ?_
     refine st_val hs (y_loadE1 (j := 0) (hw.ceAt 0 rfl) rfl Try.isAgg3 rfl) trivial rfl rfl fun a hs => ?_
     obtain ⟨rv375, h374, hsh⟩ := bind_t hsh
     refine st_callR hs (ref01_In_ok h374 hw.bdom) (do_call Try.call43 rfl) trivial rfl rfl ?_
     intro v379 Sv376 w a h377 h378 hs
     subst h378
     have hw := hw.callB h377
     refine st_val hs (y_not rfl) trivial rfl rfl fun a hs => ?_
     refine wpList_nil ?_
     refine then_normal ?_
     refine wp_cond_split (hs.ev rfl) (fun h382 => ?_) (fun h382 => ?_)
     ·have hsh := ite_t hsh h382
      refine wp_seq ?_
      refine wp_region_lit ?_
      refine st_val hs (y_assign rfl) trivial rfl rfl fun a hs => ?_
      refine wpList_nil ?_
      refine then_normal ?_
      have hsh := Option.some.inj hsh
      subst hsh
      have h383 := hd315 _ rfl
      subst h383
      refine wp_ret ?_
      refine then_ret ?_
      refine blk_ret ?_
      refine then_ret ?_
      refine then_ret ?_
      refine blk_ret ?_
      refine then_ret ?_
      exact ret1 hs rfl (rv_tmp rfl) (hw.ret rfl)
     ·have hsh := ite_f hsh h382
      refine wp_skip ?_
      refine then_normal ?_
      obtain ⟨x386, h384, hsh⟩ := bind_t hsh
      obtain ⟨q390, c391, h387, h388, h389, h385⟩ := hw.elemK 1 rfl h384
      obtain ⟨_, rfl, rfl⟩ := h385
      have hw := hw.addE h389
      obtain ⟨x394, h392, hsh⟩ := bind_t hsh
      obtain ⟨q398, c399, h395, h396, h397, h393⟩ := hw.elemK 2 rfl h392
      obtain ⟨_, rfl, rfl⟩ := h393
      have hw := hw.addE h397
      obtain ⟨sum401, h400, hsh⟩ := bind_t hsh
      refine wp_only (fun a w => ∃ (Sv402 : Nat → Prop), Sl 56 [(1, .pointer (some ⟨b5, 0, none⟩)), (3, .int .i64 sum401), (4, .int .i64 sv183.2)] a ∧ Wd ⟨w0, S0, []⟩ Sv402 [.box b5 [.slice (some ⟨b369, o370, none⟩) f1.Taps.length k3, .int .i64 f1.Factor, .int .i64 f1.Shift] 28] [SlA (some ⟨b369, o370, none⟩) f1.Taps.length k3 f1.Taps] w) ?_ ?_
      ·refine h_b (C := Cls [.box b5 [.slice (some ⟨b369, o370, none⟩) f1.Taps.length k3, .int .i64 f1.Factor, .int .i64 f1.Shift] 28] [CeA b369 q398 [.int .i64 x394], CeA b369 q390 [.int .i64 x386], CeA b369 q367 [.int .i64 x363]]) (by kernel_rfl) rfl (hw.drew.cs [0] [0, 1, 2] rfl rfl) fun hC => ?_
       have hw := hw.drew
       refine h_g hs 0 rfl (by kernel_rfl) rfl rfl hC rfl (fun w hC => y_move rfl) fun a hs => ?_
       refine h_g hs 1 rfl (by kernel_rfl) rfl rfl hC rfl (fun w hC => y_fieldAddr (o' := 0) Try.runUnderlying28 rfl Try.sizeOf22 rfl rfl rfl) fun a hs => ?_
       refine h_g hs 2 rfl (by kernel_rfl) rfl rfl hC rfl (fun w hC => y_loadB1 (hC.ownAt 0 rfl) rfl Try.isAgg22 rfl) fun a hs => ?_
       refine h_g hs 3 rfl (by kernel_rfl) rfl rfl hC rfl (fun w hC => y_move rfl) fun a hs => ?_
       refine h_g hs 4 rfl (by kernel_rfl) rfl rfl hC rfl (fun w hC => y_indexAt Try.runUnderlying22 Try.sizeOf3 rfl rfl h387.1 h387.2 h388) fun a hs => ?_
       refine h_g hs 5 rfl (by kernel_rfl) rfl rfl hC rfl (fun w hC => y_loadE1 (j := 0) (hC.ceAt 1 rfl) rfl Try.isAgg3 rfl) fun a hs => ?_
       refine h_g hs 6 rfl (by kernel_rfl) rfl rfl hC rfl (fun w hC => y_fieldAddr (o' := 0) Try.runUnderlying28 rfl Try.sizeOf22 rfl rfl rfl) fun a hs => ?_
       refine h_g hs 7 rfl (by kernel_rfl) rfl rfl hC rfl (fun w hC => y_loadB1 (hC.ownAt 0 rfl) rfl Try.isAgg22 rfl) fun a hs => ?_
       refine h_g hs 8 rfl (by kernel_rfl) rfl rfl hC rfl (fun w hC => y_move rfl) fun a hs => ?_
       refine h_g hs 9 rfl (by kernel_rfl) rfl rfl hC rfl (fun w hC => y_indexAt Try.runUnderlying22 Try.sizeOf3 rfl rfl h395.1 h395.2 h396) fun a hs => ?_
       refine h_g hs 10 rfl (by kernel_rfl) rfl rfl hC rfl (fun w hC => y_loadE1 (j := 0) (hC.ceAt 0 rfl) rfl Try.isAgg3 rfl) fun a hs => ?_
       refine h_g hs 11 rfl (by kernel_rfl) rfl rfl hC rfl (fun w hC => y_neg rfl) fun a hs => ?_
       refine h_g hs 12 rfl (by kernel_rfl) rfl rfl hC rfl (fun w hC => y_max rfl rfl) fun a hs => ?_
       refine h_g hs 13 rfl (by kernel_rfl) rfl rfl hC rfl (fun w hC => y_add rfl rfl) fun a hs => ?_
       refine h_g hs 14 rfl (by kernel_rfl) rfl rfl hC rfl (fun w hC => y_assignI rfl h400) fun a hs => ?_
       refine h_done (by kernel_rfl) ?_
       exact ⟨Sv271, (hs.wk rfl), (hw.ft [0] [3] (by decide) rfl rfl)⟩
      ·rintro a w ⟨Sv402, hs, hw⟩
       refine blk_normal ?_
       refine then_normal ?_
       refine wp_region_lit ?_
       refine st_val hs (y_move rfl) trivial rfl rfl fun a hs => ?_
       refine st_val hs (y_add rfl rfl) trivial rfl rfl fun a hs => ?_
       obtain ⟨i404, h403, hsh⟩ := bind_t hsh
       refine st_val hs (y_assignI rfl h403) trivial rfl rfl fun a hs => ?_
       refine wpList_nil ?_
       refine then_normal ?_
       exact ⟨_, (Option.some.inj hsh).symm, Sv402, (hs.wk rfl), (hw.ft [0] [0] (by decide) rfl rfl)⟩
    ·have hsh := ite_f hsh h320
     obtain ⟨rv407, hsh, h408⟩ := map_t hsh
     have h408 := (hd315 _ h408.symm).symm
     subst h408
     refine wp_exit ?_
     refine then_exit ?_
     refine then_exit ?_
     refine blk_exit ?_
     refine then_normal ?_
     refine wp_seq ?_
     refine wp_region_lit ?_
     refine st_val hs (y_move rfl) trivial rfl rfl fun a hs => ?_
     refine st_val hs (y_fieldAddr (o' := 2) Try.runUnderlying28 rfl Try.sizeOf3 rfl rfl rfl) trivial rfl rfl fun a hs => ?_
     refine st_val hs (y_loadB1 (hw.ownAt 0 rfl) rfl Try.isAgg3 rfl) trivial rfl rfl fun a hs => ?_
     refine st_val hs (y_convert Try.runUnderlying3 Try.runUnderlying30 rfl) trivial rfl rfl fun a hs => ?_
     obtain ⟨shl406, h405, hsh⟩ := bind_t hsh
     refine st_val hs (y_shlM rfl rfl h405) trivial rfl rfl fun a hs => ?_
     refine st_val hs (y_leq rfl rfl) trivial rfl rfl fun a hs => ?_
     refine st_val hs (y_assign rfl) trivial rfl rfl fun a hs => ?_
     refine wpList_nil ?_
     refine then_normal ?_
     have hsh := Option.some.inj hsh
     subst hsh
     refine wp_ret ?_
     exact ret1 hs rfl (rv_tmp rfl) (hw.ret rfl)

abbrev ref05_Sample_rd (w0 : World) (X : List Nat) (r : Bool) : (Nat → Prop) → World → Value → Prop := fun S w v => v = .bool r
set_option maxHeartbeats 4000000 in
set_option maxRecDepth 100000 in
theorem ref05_Sample_ok {w0 : World} {S0 : Nat → Prop} {n1 : Int} {r : Bool} (hsh : ref05_Sample n1 = some r) (hS : ∀ b, S0 b → b < w0.heap.size) : Calls Try.prog 42 #[.int .i64 n1] w0 (Ret ([]) w0 S0 (ref05_Sample_rd w0 ([]) r)) := by
 refine calls_of_wp Try.func42 rfl ?_
 have hs := Sl.enter #[.int .i64 n1] 5 [(0, .int .i64 n1)] rfl ⟨rfl, trivial⟩
 have hw := Wd.enter (E := []) hS (fun _ h => (by cases h))
 delta ref05_Sample at hsh
 refine wp_seq ?_
 refine wp_region_lit ?_
 refine st_val hs (y_assign rfl) trivial rfl rfl fun a hs => ?_
 refine wpList_nil ?_
 refine then_normal ?_
 refine wp_seq ?_
 refine wp_region_lit ?_
 refine st_val hs (y_move rfl) trivial rfl rfl fun a hs => ?_
 obtain ⟨rv3, h2, hsh⟩ := bind_t hsh
 refine st_callR hs (ref01_In_ok h2 hw.bdom) (do_call Try.call43 rfl) trivial rfl rfl ?_
 intro v7 Sv4 w a h5 h6 hs
 subst h6
 have hw := hw.callB h5
 refine st_val hs (y_assign rfl) trivial rfl rfl fun a hs => ?_
 refine wpList_nil ?_
 refine then_normal ?_
 have hsh := Option.some.inj hsh
 subst hsh
 refine wp_ret ?_
 exact ret1 hs rfl (rv_tmp rfl) (hw.ret rfl)

abbrev ref05_InRange_rd (w0 : World) (X : List Nat) (r : Bool) : (Nat → Prop) → World → Value → Prop := fun S w v => v = .bool r
set_option maxHeartbeats 4000000 in
set_option maxRecDepth 100000 in
theorem ref05_InRange_ok {w0 : World} {S0 : Nat → Prop} {p2 : Option Addr} {k3 : Nat} {l1 : (List Int)} {r : Bool} (hsh : ref05_InRange l1 = some r) (hS : ∀ b, S0 b → b < w0.heap.size) (h4 : (SlA p2 l1.length k3 l1).p S0 w0) : Calls Try.prog 17 #[.slice p2 l1.length k3] w0 (Ret ([]) w0 S0 (ref05_InRange_rd w0 ([]) r)) := by
 refine calls_of_wp Try.func17 rfl ?_
 have hs := Sl.enter #[.slice p2 l1.length k3] 16 [(0, .slice p2 l1.length k3)] rfl ⟨rfl, trivial⟩
 have hw := Wd.enter (E := []) hS (fun _ h => (by cases h))
 have hw := hw.addE h4
 delta ref05_InRange at hsh
 refine wp_seq ?_
 refine wp_region_lit ?_
 refine st_val hs (y_assign rfl) trivial rfl rfl fun a hs => ?_
 refine wpList_nil ?_
 refine then_normal ?_
 refine wp_seq ?_
 refine wp_seq ?_
 refine wp_region_lit ?_
 refine st_val hs (y_assign rfl) trivial rfl rfl fun a hs => ?_
 refine wpList_nil ?_
 refine then_normal ?_
 refine wp_block ?_
 refine wp_while (fun sv82 a w => ∃ (Sv132 : Nat → Prop), Sl 16 [(0, .slice p2 l1.length k3), (3, .int .i64 sv82)] a ∧ Wd ⟨w0, S0, []⟩ Sv132 [] [SlA p2 l1.length k3 l1] w) 0 hsh ⟨S0, (hs.wk rfl), (hw.ft [] [0] (by decide) rfl rfl)⟩ ?_
 repeat clear hsh
 rintro sv82 a w tv158 ⟨Sv132, hs, hw⟩ hsh hd157
 delta ref05_InRange_l2 at hsh
 refine wp_seq ?_
 refine wp_seq ?_
 refine wp_region_lit ?_
 refine st_val hs (y_move rfl) trivial rfl rfl fun a hs => ?_
 refine st_val hs (y_move rfl) trivial rfl rfl fun a hs => ?_
 refine st_val hs (y_len Try.runUnderlying22 rfl) trivial rfl rfl fun a hs => ?_
 refine st_val hs (y_lss rfl rfl) trivial rfl rfl fun a hs => ?_
 refine wpList_nil ?_
 refine then_normal ?_
 refine wp_cond_split (hs.ev rfl) (fun h162 => ?_) (fun h162 => ?_)
 ·have hsh := ite_t hsh h162
  refine wp_skip ?_
  refine then_normal ?_
  refine wp_seq ?_
  refine wp_block ?_
  refine wp_seq ?_
  refine wp_region_lit ?_
  refine st_val hs (y_move rfl) trivial rfl rfl fun a hs => ?_
  refine st_val hs (y_move rfl) trivial rfl rfl fun a hs => ?_
  obtain ⟨x186, h184, hsh⟩ := bind_t hsh
  obtain ⟨b192, o193, q190, c191, h194, h187, h188, h189, h185⟩ := hw.elemV 0 rfl h184
  have hsv195 := hs
  have hwv196 := hw
  subst h194
  have hs := hsv195
  have hw := hwv196
  obtain ⟨_, rfl, rfl⟩ := h185
  have hw := hw.addE h189
  refine st_val hs (y_indexAt Try.runUnderlying22 Try.sizeOf3 rfl rfl h187.1 h187.2 h188) trivial rfl rfl fun a hs => ?_
  refine st_val hs (y_loadE1 (j := 0) (hw.ceAt 0 rfl) rfl Try.isAgg3 rfl) trivial rfl rfl fun a hs => ?_
  obtain ⟨rv198, h197, hsh⟩ := bind_t hsh
  refine st_callR hs (ref05_Sample_ok h197 hw.bdom) (do_call Try.call42 rfl) trivial rfl rfl ?_
  intro v202 Sv199 w a h200 h201 hs
  subst h201
  have hw := hw.callB h200
  refine st_val hs (y_not rfl) trivial rfl rfl fun a hs => ?_
  refine wpList_nil ?_
  refine then_normal ?_
  refine wp_cond_split (hs.ev rfl) (fun h205 => ?_) (fun h205 => ?_)
  ·have hsh := ite_t hsh h205
   refine wp_seq ?_
   refine wp_region_lit ?_
   refine st_val hs (y_assign rfl) trivial rfl rfl fun a hs => ?_
   refine wpList_nil ?_
   refine then_normal ?_
   have hsh := Option.some.inj hsh
   subst hsh
   have h206 := hd157 _ rfl
   subst h206
   refine wp_ret ?_
   refine blk_ret ?_
   refine then_ret ?_
   refine then_ret ?_
   refine blk_ret ?_
   refine then_ret ?_
   exact ret1 hs rfl (rv_tmp rfl) (hw.ret rfl)
  ·have hsh := ite_f hsh h205
   refine wp_skip ?_
   refine blk_normal ?_
   refine then_normal ?_
   refine wp_region_lit ?_
   refine st_val hs (y_move rfl) trivial rfl rfl fun a hs => ?_
   refine st_val hs (y_add rfl rfl) trivial rfl rfl fun a hs => ?_
   obtain ⟨i208, h207, hsh⟩ := bind_t hsh
   refine st_val hs (y_assignI rfl h207) trivial rfl rfl fun a hs => ?_
   refine wpList_nil ?_
   refine then_normal ?_
   exact ⟨_, (Option.some.inj hsh).symm, Sv132, (hs.wk rfl), (hw.ft [] [1] (by decide) rfl rfl)⟩
 ·have hsh := ite_f hsh h162
  obtain ⟨rv209, hsh, h210⟩ := map_t hsh
  have h210 := (hd157 _ h210.symm).symm
  subst h210
  refine wp_exit ?_
  refine then_exit ?_
  refine then_exit ?_
  refine blk_exit ?_
  refine then_normal ?_
  refine wp_seq ?_
  refine wp_region_lit ?_
  refine st_val hs (y_assign rfl) trivial rfl rfl fun a hs => ?_
  refine wpList_nil ?_
  refine then_normal ?_
  have hsh := Option.some.inj hsh
  subst hsh
  refine wp_ret ?_
  exact ret1 hs rfl (rv_tmp rfl) (hw.ret rfl)

abbrev ref21_check_rd (w0 : World) (X : List Nat) (r : Int) : (Nat → Prop) → World → Value → Prop := fun S w v => v = .int .i64 r
set_option maxHeartbeats 4000000 in
set_option maxRecDepth 100000 in
theorem ref21_check_ok {w0 : World} {S0 : Nat → Prop} {p2 : Option Addr} {k3 : Nat} {samples1 : (List Int)} {number5 : Int} {most6 : Int} {r : Int} (hsh : ref21_check samples1 number5 most6 = some r) (hS : ∀ b, S0 b → b < w0.heap.size) (h4 : (SlA p2 samples1.length k3 samples1).p S0 w0) : Calls Try.prog 53 #[.slice p2 samples1.length k3, .int .i64 number5, .int .i64 most6] w0 (Ret ([]) w0 S0 (ref21_check_rd w0 ([]) r)) := by
 refine calls_of_wp Try.func53 rfl ?_
 have hs := Sl.enter #[.slice p2 samples1.length k3, .int .i64 number5, .int .i64 most6] 19 [(0, .slice p2 samples1.length k3), (1, .int .i64 number5), (2, .int .i64 most6)] rfl ⟨rfl, rfl, rfl, trivial⟩
 have hw := Wd.enter (E := []) hS (fun _ h => (by cases h))
 have hw := hw.addE h4
 delta ref21_check at hsh
 refine wp_seq ?_
 refine wp_region_lit ?_
 refine st_val hs (y_assign rfl) trivial rfl rfl fun a hs => ?_
 refine wpList_nil ?_
 refine then_normal ?_
 refine wp_seq ?_
 refine wp_seq ?_
 refine wp_region_lit ?_
 refine st_val hs (y_move rfl) trivial rfl rfl fun a hs => ?_
 refine st_val hs (y_move rfl) trivial rfl rfl fun a hs => ?_
 obtain ⟨rv8, h7, hsh⟩ := bind_t hsh
 refine st_callR hs (ref01_In_ok h7 hw.bdom) (do_call Try.call43 rfl) trivial rfl rfl ?_
 intro v12 Sv9 w a h10 h11 hs
 subst h11
 have hw := hw.callB h10
 refine st_val hs (y_not rfl) trivial rfl rfl fun a hs => ?_
 refine st_val hs (y_move rfl) trivial rfl rfl fun a hs => ?_
 obtain ⟨c22, hc22, hsh⟩ := bind_t hsh
 refine wpl_join 4 (fun a w => ∃ (Sv23 : Nat → Prop), Sl 19 [(0, .slice p2 samples1.length k3), (15, .bool c22)] a ∧ Wd ⟨w0, S0, []⟩ Sv23 [] [SlA p2 samples1.length k3 samples1] w) ?_ ?_
 ·rcases Bool.eq_false_or_eq_true (!rv8) with h21 | h21
  ·have hs := hs.fix 11 (.bool true) rfl (vb h21)
   have hsh := ite_t hc22 h21
   refine st_skip hs rfl rfl rfl rfl rfl fun a hs => ?_
   refine st_skip hs rfl rfl rfl rfl rfl fun a hs => ?_
   refine st_skip hs rfl rfl rfl rfl rfl fun a hs => ?_
   refine st_val hs (y_pickT rfl rfl) trivial rfl rfl fun a hs => ?_
   refine wpList_nil ?_
   have hsh := Option.some.inj hsh
   subst hsh
   refine then_normal ?_
   exact ⟨S0, (hs.wk rfl), (hw.ft [] [0] (by decide) rfl rfl)⟩
  ·have hs := hs.fix 11 (.bool false) rfl (vb h21)
   have hsh := ite_f hc22 h21
   refine st_val hs (y_move rfl) ⟨_, rfl, rfl⟩ rfl rfl fun a hs => ?_
   obtain ⟨rv25, h24, hsh⟩ := bind_t hsh
   refine st_callR hs (ref05_InRange_ok h24 hw.bdom (hw.bE 0 rfl)) (do_call Try.call17 rfl) ⟨_, rfl, rfl⟩ rfl rfl ?_
   intro v29 Sv26 w a h27 h28 hs
   subst h28
   have hw := hw.callB h27
   refine st_val hs (y_not rfl) ⟨_, rfl, rfl⟩ rfl rfl fun a hs => ?_
   refine st_val hs (y_pickF rfl rfl) trivial rfl rfl fun a hs => ?_
   refine wpList_nil ?_
   have hsh := Option.some.inj hsh
   subst hsh
   refine then_normal ?_
   exact ⟨S0, (hs.wk rfl), (hw.ft [] [0] (by decide) rfl rfl)⟩
 ·rintro a w ⟨Sv23, hs, hw⟩
  refine wpList_nil ?_
  refine then_normal ?_
  refine wp_cond_split (hs.ev rfl) (fun h32 => ?_) (fun h32 => ?_)
  ·have hsh := ite_t hsh h32
   refine wp_seq ?_
   refine wp_region_lit ?_
   refine st_val hs (y_assign rfl) trivial rfl rfl fun a hs => ?_
   refine wpList_nil ?_
   refine then_normal ?_
   have hsh := Option.some.inj hsh
   subst hsh
   refine wp_ret ?_
   refine then_ret ?_
   exact ret1 hs rfl (rv_tmp rfl) (hw.ret rfl)
  ·have hsh := ite_f hsh h32
   refine wp_skip ?_
   refine then_normal ?_
   refine wp_seq ?_
   refine wp_seq ?_
   refine wp_region_lit ?_
   refine st_val hs (y_move rfl) trivial rfl rfl fun a hs => ?_
   refine st_val hs (y_len Try.runUnderlying22 rfl) trivial rfl rfl fun a hs => ?_
   refine st_val hs (y_gtr rfl rfl) trivial rfl rfl fun a hs => ?_
   refine wpList_nil ?_
   refine then_normal ?_
   refine wp_cond_split (hs.ev rfl) (fun h34 => ?_) (fun h34 => ?_)
   ·have hsh := ite_t hsh h34
    refine wp_seq ?_
    refine wp_region_lit ?_
    refine st_val hs (y_assign rfl) trivial rfl rfl fun a hs => ?_
    refine wpList_nil ?_
    refine then_normal ?_
    have hsh := Option.some.inj hsh
    subst hsh
    refine wp_ret ?_
    refine then_ret ?_
    exact ret1 hs rfl (rv_tmp rfl) (hw.ret rfl)
   ·have hsh := ite_f hsh h34
    refine wp_skip ?_
    refine then_normal ?_
    refine wp_seq ?_
    refine wp_region_lit ?_
    refine st_val hs (y_assign rfl) trivial rfl rfl fun a hs => ?_
    refine wpList_nil ?_
    refine then_normal ?_
    have hsh := Option.some.inj hsh
    subst hsh
    refine wp_ret ?_
    exact ret1 hs rfl (rv_tmp rfl) (hw.ret rfl)

abbrev ref21_output_rd (w0 : World) (X : List Nat) (r : Int) : (Nat → Prop) → World → Value → Prop := fun S w v => v = .int .i64 r
set_option maxHeartbeats 4000000 in
set_option maxRecDepth 100000 in
theorem ref21_output_ok {w0 : World} {S0 : Nat → Prop} {p2 : Option Addr} {k3 : Nat} {p6 : Option Addr} {k7 : Nat} {f1 : Filter} {x5 : (List Int)} {i9 : Int} {r : Int} (hsh : ref21_output f1 x5 i9 = some r) (hS : ∀ b, S0 b → b < w0.heap.size) (h4 : (SlA p2 f1.Taps.length k3 f1.Taps).p S0 w0) (h8 : (SlA p6 x5.length k7 x5).p S0 w0) : Calls Try.prog 71 #[.agg #[.slice p2 f1.Taps.length k3, .int .i64 f1.Factor, .int .i64 f1.Shift], .slice p6 x5.length k7, .int .i64 i9] w0 (Ret ([]) w0 S0 (ref21_output_rd w0 ([]) r)) := by
 refine calls_of_wp Try.func71 rfl ?_
 have hs := Sl.enter #[.agg #[.slice p2 f1.Taps.length k3, .int .i64 f1.Factor, .int .i64 f1.Shift], .slice p6 x5.length k7, .int .i64 i9] 35 [(0, .agg #[.slice p2 f1.Taps.length k3, .int .i64 f1.Factor, .int .i64 f1.Shift]), (1, .slice p6 x5.length k7), (2, .int .i64 i9)] rfl ⟨rfl, rfl, rfl, trivial⟩
 have hw := Wd.enter (E := []) hS (fun _ h => (by cases h))
 have hw := hw.addE h4
 have hw := hw.addE h8
 delta ref21_output at hsh
 refine wp_seq ?_
 refine wp_region_lit ?_
 refine w_box (cs := [.slice p2 f1.Taps.length k3, .int .i64 f1.Factor, .int .i64 f1.Shift]) hs hw rfl rfl rfl trivial ?_
 intro b10 a w hs hw
 refine st_val hs (y_assign rfl) trivial rfl rfl fun a hs => ?_
 refine wpList_nil ?_
 refine then_normal ?_
 refine wp_seq ?_
 refine wp_region_lit ?_
 refine st_val hs (y_assign rfl) trivial rfl rfl fun a hs => ?_
 refine wpList_nil ?_
 refine then_normal ?_
 refine wp_seq ?_
 refine wp_seq ?_
 refine wp_region_lit ?_
 refine st_val hs (y_assign rfl) trivial rfl rfl fun a hs => ?_
 refine wpList_nil ?_
 refine then_normal ?_
 obtain ⟨e113, h180, hsh⟩ := bind_t hsh
 refine wp_join (fun a w => ∃ (Sv114 : Nat → Prop), Sl 35 [(3, .pointer (some ⟨b10, 0, none⟩)), (7, .int .i64 e113)] a ∧ Wd ⟨w0, S0, []⟩ Sv114 [.box b10 [.slice p2 f1.Taps.length k3, .int .i64 f1.Factor, .int .i64 f1.Shift] 28] [SlA p2 f1.Taps.length k3 f1.Taps] w) ?_ ?_
 ·refine wp_block ?_
  refine wp_while (fun sv11 a w => ∃ (Sv77 : Nat → Prop), Sl 35 [(1, .slice p6 x5.length k7), (2, .int .i64 i9), (3, .pointer (some ⟨b10, 0, none⟩)), (7, .int .i64 sv11.1), (8, .int .i64 sv11.2)] a ∧ Wd ⟨w0, S0, []⟩ Sv77 [.box b10 [.slice p2 f1.Taps.length k3, .int .i64 f1.Factor, .int .i64 f1.Shift] 28] [SlA p6 x5.length k7 x5, SlA p2 f1.Taps.length k3 f1.Taps] w) (0, 0) h180 ⟨S0, (hs.wk rfl), (hw.ft [0] [0, 1] (by decide) rfl rfl)⟩ ?_
  clear h180
  repeat clear hsh
  rintro sv11 a w tv111 ⟨Sv77, hs, hw⟩ hsh hd110
  delta ref21_output_l1 at hsh
  refine wp_seq ?_
  refine wp_seq ?_
  refine wp_region_lit ?_
  refine st_val hs (y_move rfl) trivial rfl rfl fun a hs => ?_
  refine st_val hs (y_fieldAddr (o' := 0) Try.runUnderlying28 rfl Try.sizeOf22 rfl rfl rfl) trivial rfl rfl fun a hs => ?_
  refine st_val hs (y_loadB1 (hw.ownAt 0 rfl) rfl Try.isAgg22 rfl) trivial rfl rfl fun a hs => ?_
  refine st_val hs (y_len Try.runUnderlying22 rfl) trivial rfl rfl fun a hs => ?_
  refine st_val hs (y_lss rfl rfl) trivial rfl rfl fun a hs => ?_
  refine wpList_nil ?_
  refine then_normal ?_
  refine wp_cond_split (hs.ev rfl) (fun h116 => ?_) (fun h116 => ?_)
  ·have hsh := ite_t hsh h116
   refine wp_skip ?_
   refine then_normal ?_
   refine wp_seq ?_
   refine wp_block ?_
   obtain ⟨x148, h146, hsh⟩ := bind_t hsh
   obtain ⟨b154, o155, q152, c153, h156, h149, h150, h151, h147⟩ := hw.elemV 1 rfl h146
   have hsv157 := hs
   have hwv158 := hw
   subst h156
   have hs := hsv157
   have hw := hwv158
   obtain ⟨_, rfl, rfl⟩ := h147
   have hw := hw.addE h151
   obtain ⟨x161, h159, hsh⟩ := bind_t hsh
   obtain ⟨b167, o168, q165, c166, h169, h162, h163, h164, h160⟩ := hw.elemV 1 rfl h159
   have hsv170 := hs
   have hwv171 := hw
   subst h169
   have hs := hsv170
   have hw := hwv171
   obtain ⟨_, rfl, rfl⟩ := h160
   have hw := hw.addE h164
   obtain ⟨sum173, h172, hsh⟩ := bind_t hsh
   refine wp_only (fun a w => ∃ (Sv174 : Nat → Prop), Sl 35 [(1, .slice (some ⟨b167, o168, none⟩) x5.length k7), (2, .int .i64 i9), (3, .pointer (some ⟨b10, 0, none⟩)), (7, .int .i64 sum173), (8, .int .i64 sv11.2)] a ∧ Wd ⟨w0, S0, []⟩ Sv174 [.box b10 [.slice (some ⟨b154, o155, none⟩) f1.Taps.length k3, .int .i64 f1.Factor, .int .i64 f1.Shift] 28] [SlA (some ⟨b167, o168, none⟩) x5.length k7 x5, SlA (some ⟨b154, o155, none⟩) f1.Taps.length k3 f1.Taps] w) ?_ ?_
   ·refine h_b (C := Cls [.box b10 [.slice (some ⟨b154, o155, none⟩) f1.Taps.length k3, .int .i64 f1.Factor, .int .i64 f1.Shift] 28] [CeA b167 q165 [.int .i64 x161], CeA b154 q152 [.int .i64 x148]]) (by kernel_rfl) rfl (hw.drew.cs [0] [0, 1] rfl rfl) fun hC => ?_
    have hw := hw.drew
    refine h_g hs 0 rfl (by kernel_rfl) rfl rfl hC rfl (fun w hC => y_move rfl) fun a hs => ?_
    refine h_g hs 1 rfl (by kernel_rfl) rfl rfl hC rfl (fun w hC => y_fieldAddr (o' := 0) Try.runUnderlying28 rfl Try.sizeOf22 rfl rfl rfl) fun a hs => ?_
    refine h_g hs 2 rfl (by kernel_rfl) rfl rfl hC rfl (fun w hC => y_loadB1 (hC.ownAt 0 rfl) rfl Try.isAgg22 rfl) fun a hs => ?_
    refine h_g hs 3 rfl (by kernel_rfl) rfl rfl hC rfl (fun w hC => y_move rfl) fun a hs => ?_
    refine h_g hs 4 rfl (by kernel_rfl) rfl rfl hC rfl (fun w hC => y_indexAt Try.runUnderlying22 Try.sizeOf3 rfl rfl h149.1 h149.2 h150) fun a hs => ?_
    refine h_g hs 5 rfl (by kernel_rfl) rfl rfl hC rfl (fun w hC => y_loadE1 (j := 0) (hC.ceAt 1 rfl) rfl Try.isAgg3 rfl) fun a hs => ?_
    refine h_g hs 6 rfl (by kernel_rfl) rfl rfl hC rfl (fun w hC => y_move rfl) fun a hs => ?_
    refine h_g hs 7 rfl (by kernel_rfl) rfl rfl hC rfl (fun w hC => y_move rfl) fun a hs => ?_
    refine h_g hs 8 rfl (by kernel_rfl) rfl rfl hC rfl (fun w hC => y_move rfl) fun a hs => ?_
    refine h_g hs 9 rfl (by kernel_rfl) rfl rfl hC rfl (fun w hC => y_sub rfl rfl) fun a hs => ?_
    refine h_g hs 10 rfl (by kernel_rfl) rfl rfl hC rfl (fun w hC => y_indexAt Try.runUnderlying22 Try.sizeOf3 rfl rfl h162.1 h162.2 h163) fun a hs => ?_
    refine h_g hs 11 rfl (by kernel_rfl) rfl rfl hC rfl (fun w hC => y_loadE1 (j := 0) (hC.ceAt 0 rfl) rfl Try.isAgg3 rfl) fun a hs => ?_
    refine h_g hs 12 rfl (by kernel_rfl) rfl rfl hC rfl (fun w hC => y_mul rfl rfl) fun a hs => ?_
    refine h_g hs 13 rfl (by kernel_rfl) rfl rfl hC rfl (fun w hC => y_add rfl rfl) fun a hs => ?_
    refine h_g hs 14 rfl (by kernel_rfl) rfl rfl hC rfl (fun w hC => y_assignI rfl h172) fun a hs => ?_
    refine h_done (by kernel_rfl) ?_
    exact ⟨Sv77, (hs.wk rfl), (hw.ft [0] [2, 3] (by decide) rfl rfl)⟩
   ·rintro a w ⟨Sv174, hs, hw⟩
    refine blk_normal ?_
    refine then_normal ?_
    refine wp_region_lit ?_
    refine st_val hs (y_move rfl) trivial rfl rfl fun a hs => ?_
    refine st_val hs (y_add rfl rfl) trivial rfl rfl fun a hs => ?_
    obtain ⟨k176, h175, hsh⟩ := bind_t hsh
    refine st_val hs (y_assignI rfl h175) trivial rfl rfl fun a hs => ?_
    refine wpList_nil ?_
    refine then_normal ?_
    exact ⟨_, (Option.some.inj hsh).symm, Sv174, (hs.wk rfl), (hw.ft [0] [0, 1] (by decide) rfl rfl)⟩
  ·have hsh := ite_f hsh h116
   refine wp_exit ?_
   refine then_exit ?_
   refine then_exit ?_
   refine blk_exit ?_
   have hsh := Option.some.inj hsh
   subst hsh
   have h177 := hd110 _ rfl
   subst h177
   refine then_normal ?_
   exact ⟨Sv77, (hs.wk rfl), (hw.ft [0] [1] (by decide) rfl rfl)⟩
 ·rintro a w ⟨Sv114, hs, hw⟩
  refine then_normal ?_
  refine wp_seq ?_
  refine wp_region_lit ?_
  refine st_val hs (y_move rfl) trivial rfl rfl fun a hs => ?_
  refine st_val hs (y_fieldAddr (o' := 2) Try.runUnderlying28 rfl Try.sizeOf3 rfl rfl rfl) trivial rfl rfl fun a hs => ?_
  refine st_val hs (y_loadB1 (hw.ownAt 0 rfl) rfl Try.isAgg3 rfl) trivial rfl rfl fun a hs => ?_
  refine st_val hs (y_convert Try.runUnderlying3 Try.runUnderlying30 rfl) trivial rfl rfl fun a hs => ?_
  obtain ⟨shr179, h178, hsh⟩ := bind_t hsh
  refine st_val hs (y_shrM rfl rfl h178) trivial rfl rfl fun a hs => ?_
  refine st_val hs (y_assign rfl) trivial rfl rfl fun a hs => ?_
  refine wpList_nil ?_
  refine then_normal ?_
  have hsh := Option.some.inj hsh
  subst hsh
  refine wp_ret ?_
  exact ret1 hs rfl (rv_tmp rfl) (hw.ret rfl)

abbrev ref21_kept_rd (w0 : World) (X : List Nat) (r : ((List Int) × (List Int))) : (Nat → Prop) → World → Value → Prop := fun S w v => ∃ (p0_0 : Option Addr) (k0_0 : Nat) (c0_0 : List Value) (p1_0 : Option Addr) (k1_0 : Nat) (c1_0 : List Value), v = .tuple #[.slice p0_0 r.1.length k0_0, .slice p1_0 r.2.length k1_0] ∧ Outs X w0 S w [.row p0_0 r.1.length k0_0 c0_0 3 1, .row p1_0 r.2.length k1_0 c1_0 3 1] ∧ (RowA c0_0 r.1).p S w ∧ (RowA c1_0 r.2).p S w
set_option maxHeartbeats 4000000 in
set_option maxRecDepth 100000 in
theorem ref21_kept_ok {w0 : World} {S0 : Nat → Prop} {p2 : Option Addr} {k3 : Nat} {p6 : Option Addr} {k7 : Nat} {f1 : Filter} {x5 : (List Int)} {number9 : Int} {from10 : Int} {r : ((List Int) × (List Int))} (hsh : ref21_kept f1 x5 number9 from10 = some r) (hS : ∀ b, S0 b → b < w0.heap.size) (h4 : (SlA p2 f1.Taps.length k3 f1.Taps).p S0 w0) (h8 : (SlA p6 x5.length k7 x5).p S0 w0) : Calls Try.prog 54 #[.agg #[.slice p2 f1.Taps.length k3, .int .i64 f1.Factor, .int .i64 f1.Shift], .slice p6 x5.length k7, .int .i64 number9, .int .i64 from10] w0 (Ret ([]) w0 S0 (ref21_kept_rd w0 ([]) r)) := by
 refine calls_of_wp Try.func54 rfl ?_
 have hs := Sl.enter #[.agg #[.slice p2 f1.Taps.length k3, .int .i64 f1.Factor, .int .i64 f1.Shift], .slice p6 x5.length k7, .int .i64 number9, .int .i64 from10] 43 [(0, .agg #[.slice p2 f1.Taps.length k3, .int .i64 f1.Factor, .int .i64 f1.Shift]), (1, .slice p6 x5.length k7), (2, .int .i64 number9), (3, .int .i64 from10)] rfl ⟨rfl, rfl, rfl, rfl, trivial⟩
 have hw := Wd.enter (E := []) hS (fun _ h => (by cases h))
 have hw := hw.addE h4
 have hw := hw.addE h8
 delta ref21_kept at hsh
 refine wp_seq ?_
 refine wp_region_lit ?_
 refine w_box (cs := [.slice p2 f1.Taps.length k3, .int .i64 f1.Factor, .int .i64 f1.Shift]) hs hw rfl rfl rfl trivial ?_
 intro b11 a w hs hw
 refine st_val hs (y_assign rfl) trivial rfl rfl fun a hs => ?_
 refine st_val hs (y_assign rfl) trivial rfl rfl fun a hs => ?_
 refine wpList_nil ?_
 refine then_normal ?_
 refine wp_seq ?_
 refine wp_seq ?_
 refine wp_region_lit ?_
 refine st_val hs (y_move rfl) trivial rfl rfl fun a hs => ?_
 refine st_val hs (y_fieldAddr (o' := 0) Try.runUnderlying28 rfl Try.sizeOf22 rfl rfl rfl) trivial rfl rfl fun a hs => ?_
 refine st_val hs (y_loadB1 (hw.ownAt 0 rfl) rfl Try.isAgg22 rfl) trivial rfl rfl fun a hs => ?_
 refine st_val hs (y_len Try.runUnderlying22 rfl) trivial rfl rfl fun a hs => ?_
 refine st_val hs (y_sub rfl rfl) trivial rfl rfl fun a hs => ?_
 refine st_val hs (y_max rfl rfl) trivial rfl rfl fun a hs => ?_
 obtain ⟨i13, h12, hsh⟩ := bind_t hsh
 refine st_val hs (y_assignI rfl h12) trivial rfl rfl fun a hs => ?_
 refine wpList_nil ?_
 refine then_normal ?_
 obtain ⟨e140, h241, hsh⟩ := bind_t hsh
 refine wp_join (fun a w => ∃ (c141 : List Value) (p142 : Option Addr) (k143 : Nat) (c144 : List Value) (p145 : Option Addr) (k146 : Nat) (Sv147 : Nat → Prop), Sl 43 [(8, .slice p142 e140.1.length k143), (9, .slice p145 e140.2.length k146)] a ∧ Wd ⟨w0, S0, []⟩ Sv147 [.row p142 e140.1.length k143 c141 3 1, .row p145 e140.2.length k146 c144 3 1] [RowA c141 e140.1, RowA c144 e140.2] w) ?_ ?_
 ·refine wp_block ?_
  have hw := hw.nilRow Int 3
  have hw := hw.nilRow Int 3
  refine wp_while (fun sv14 a w => ∃ (c94 : List Value) (p95 : Option Addr) (k96 : Nat) (c97 : List Value) (p98 : Option Addr) (k99 : Nat) (Sv100 : Nat → Prop), Sl 43 [(1, .slice p6 x5.length k7), (2, .int .i64 number9), (4, .pointer (some ⟨b11, 0, none⟩)), (8, .slice p95 sv14.1.length k96), (9, .slice p98 sv14.2.1.length k99), (10, .int .i64 sv14.2.2)] a ∧ Wd ⟨w0, S0, []⟩ Sv100 [.box b11 [.slice p2 f1.Taps.length k3, .int .i64 f1.Factor, .int .i64 f1.Shift] 28, .row p95 sv14.1.length k96 c94 3 1, .row p98 sv14.2.1.length k99 c97 3 1] [SlA p6 x5.length k7 x5, SlA p2 f1.Taps.length k3 f1.Taps, RowA c94 sv14.1, RowA c97 sv14.2.1] w) (([] : List Int), ([] : List Int), i13) h241 ⟨[], none, 0, [], none, 0, S0, (hs.wk rfl), (hw.ft [2, 1, 0] [2, 3, 0, 0] (by decide) rfl rfl)⟩ ?_
  clear h241
  repeat clear hsh
  rintro sv14 a w tv138 ⟨c94, p95, k96, c97, p98, k99, Sv100, hs, hw⟩ hsh hd137
  delta ref21_kept_l1 at hsh
  refine wp_seq ?_
  refine wp_seq ?_
  refine wp_region_lit ?_
  refine st_val hs (y_move rfl) trivial rfl rfl fun a hs => ?_
  refine st_val hs (y_move rfl) trivial rfl rfl fun a hs => ?_
  refine st_val hs (y_len Try.runUnderlying22 rfl) trivial rfl rfl fun a hs => ?_
  refine st_val hs (y_lss rfl rfl) trivial rfl rfl fun a hs => ?_
  refine wpList_nil ?_
  refine then_normal ?_
  refine wp_cond_split (hs.ev rfl) (fun h149 => ?_) (fun h149 => ?_)
  ·have hsh := ite_t hsh h149
   refine wp_skip ?_
   refine then_normal ?_
   refine wp_seq ?_
   refine wp_block ?_
   refine wp_seq ?_
   refine wp_region_lit ?_
   refine st_val hs (y_move rfl) trivial rfl rfl fun a hs => ?_
   refine st_val hs (y_move rfl) trivial rfl rfl fun a hs => ?_
   refine st_val hs (y_add rfl rfl) trivial rfl rfl fun a hs => ?_
   refine st_val hs (y_fieldAddr (o' := 1) Try.runUnderlying28 rfl Try.sizeOf3 rfl rfl rfl) trivial rfl rfl fun a hs => ?_
   refine st_val hs (y_loadB1 (hw.ownAt 0 rfl) rfl Try.isAgg3 rfl) trivial rfl rfl fun a hs => ?_
   obtain ⟨rem184, h183, hsh⟩ := bind_t hsh
   refine st_val hs (y_remM rfl rfl h183) trivial rfl rfl fun a hs => ?_
   refine st_val hs (y_eql rfl rfl) trivial rfl rfl fun a hs => ?_
   refine wpList_nil ?_
   refine then_normal ?_
   refine wp_join (fun a w => ∃ (out214 : (List Int)) (atv215 : (List Int)) (c207 : List Value) (p208 : Option Addr) (k209 : Nat) (c210 : List Value) (p211 : Option Addr) (k212 : Nat) (Sv213 : Nat → Prop), ref21_kept_j1 sv14 out214 atv215 = some tv138 ∧ Sl 43 [(1, .slice p6 x5.length k7), (2, .int .i64 number9), (4, .pointer (some ⟨b11, 0, none⟩)), (8, .slice p208 out214.length k209), (9, .slice p211 atv215.length k212), (10, .int .i64 sv14.2.2)] a ∧ Wd ⟨w0, S0, []⟩ Sv213 [.box b11 [.slice p2 f1.Taps.length k3, .int .i64 f1.Factor, .int .i64 f1.Shift] 28, .row p208 out214.length k209 c207 3 1, .row p211 atv215.length k212 c210 3 1] [SlA p6 x5.length k7 x5, SlA p2 f1.Taps.length k3 f1.Taps, RowA c207 out214, RowA c210 atv215] w) ?_ ?_
   ·refine wp_cond_split (hs.ev rfl) (fun h218 => ?_) (fun h218 => ?_)
    ·have hsh := ite_t hsh h218
     refine wp_region_lit ?_
     refine st_val hs (y_move rfl) trivial rfl rfl fun a hs => ?_
     refine st_val hs (y_loadBA (hw.ownAt 0 rfl) rfl Try.isAgg28 Try.sizeOf28 rfl rfl) trivial rfl rfl fun a hs => ?_
     refine st_val hs (y_move rfl) trivial rfl rfl fun a hs => ?_
     refine st_val hs (y_move rfl) trivial rfl rfl fun a hs => ?_
     obtain ⟨rv220, h219, hsh⟩ := bind_t hsh
     refine st_callR hs (ref21_output_ok h219 hw.bdom (hw.bE 1 rfl) (hw.bE 0 rfl)) (do_call Try.call71 rfl) trivial rfl rfl ?_
     intro v224 Sv221 w a h222 h223 hs
     subst h223
     have hw := hw.callB h222
     refine w_litSlice (α := Int) (vs := [.int .i64 rv220]) (cs := [.int .i64 rv220]) (xs := ([rv220] : List Int)) hs hw El22 rfl rfl rfl rfl rfl rfl ⟨⟨_, rfl, rfl⟩, rfl⟩ rfl trivial rfl fun b227 a w hs hw => ?_
     obtain ⟨l229, h228, hsh⟩ := bind_t hsh
     refine w_appendR (α := Int) hs hw El22 2 rfl rfl rfl 3 rfl 0 rfl 0 rfl h228 rfl trivial ?_
     intro p230 k231 c232 a w hs hw
     refine st_val hs (y_move rfl) trivial rfl rfl fun a hs => ?_
     refine st_val hs (y_move rfl) trivial rfl rfl fun a hs => ?_
     refine w_litSlice (α := Int) (vs := [.int .i64 sv14.2.2]) (cs := [.int .i64 sv14.2.2]) (xs := ([sv14.2.2] : List Int)) hs hw El22 rfl rfl rfl rfl rfl rfl ⟨⟨_, rfl, rfl⟩, rfl⟩ rfl trivial rfl fun b234 a w hs hw => ?_
     obtain ⟨l236, h235, hsh⟩ := bind_t hsh
     refine w_appendR (α := Int) hs hw El22 4 rfl rfl rfl 6 rfl 0 rfl 0 rfl h235 rfl trivial ?_
     intro p237 k238 c239 a w hs hw
     refine st_val hs (y_assign rfl) trivial rfl rfl fun a hs => ?_
     refine st_val hs (y_assign rfl) trivial rfl rfl fun a hs => ?_
     refine wpList_nil ?_
     refine then_normal ?_
     exact ⟨l229, l236, c232, p230, k231, c239, p237, k238, Sv100, hsh, (hs.wk rfl), (hw.ft [2, 3, 4] [4, 5, 2, 0] (by decide) rfl rfl)⟩
    ·have hsh := ite_f hsh h218
     refine wp_skip ?_
     refine then_normal ?_
     exact ⟨sv14.1, sv14.2.1, c94, p95, k96, c97, p98, k99, Sv100, hsh, (hs.wk rfl), (hw.ft [0, 1, 2] [0, 1, 2, 3] (by decide) rfl rfl)⟩
   ·rintro a w ⟨out214, atv215, c207, p208, k209, c210, p211, k212, Sv213, hsh, hs, hw⟩
    delta ref21_kept_j1 at hsh
    refine blk_normal ?_
    refine then_normal ?_
    refine wp_region_lit ?_
    refine st_val hs (y_move rfl) trivial rfl rfl fun a hs => ?_
    refine st_val hs (y_add rfl rfl) trivial rfl rfl fun a hs => ?_
    obtain ⟨i217, h216, hsh⟩ := bind_t hsh
    refine st_val hs (y_assignI rfl h216) trivial rfl rfl fun a hs => ?_
    refine wpList_nil ?_
    refine then_normal ?_
    exact ⟨_, (Option.some.inj hsh).symm, c207, p208, k209, c210, p211, k212, Sv213, (hs.wk rfl), (hw.ft [0, 1, 2] [0, 1, 2, 3] (by decide) rfl rfl)⟩
  ·have hsh := ite_f hsh h149
   refine wp_exit ?_
   refine then_exit ?_
   refine then_exit ?_
   refine blk_exit ?_
   have hsh := Option.some.inj hsh
   subst hsh
   have h240 := hd137 _ rfl
   subst h240
   refine then_normal ?_
   exact ⟨c94, p95, k96, c97, p98, k99, Sv100, (hs.wk rfl), (hw.ft [1, 2] [2, 3] (by decide) rfl rfl)⟩
 ·rintro a w ⟨c141, p142, k143, c144, p145, k146, Sv147, hs, hw⟩
  refine then_normal ?_
  refine wp_seq ?_
  refine wp_region_lit ?_
  refine st_val hs (y_move rfl) trivial rfl rfl fun a hs => ?_
  refine st_val hs (y_move rfl) trivial rfl rfl fun a hs => ?_
  refine st_val hs (y_assign rfl) trivial rfl rfl fun a hs => ?_
  refine st_val hs (y_assign rfl) trivial rfl rfl fun a hs => ?_
  refine wpList_nil ?_
  refine then_normal ?_
  have hsh := Option.some.inj hsh
  subst hsh
  refine wp_ret ?_
  exact ret2 hs rfl (rv_tmp rfl) (rv_tmp rfl) (hw.ret ⟨p142, k143, c141, p145, k146, c144, rfl, (hw.outs [0, 1] (by decide) rfl), (hw.envAt 0 rfl), (hw.envAt 1 rfl)⟩)

abbrev ref21_Apply_rd (w0 : World) (X : List Nat) (r : ((List Int) × Int)) : (Nat → Prop) → World → Value → Prop := fun S w v => ∃ (p0_0 : Option Addr) (k0_0 : Nat) (c0_0 : List Value), v = .tuple #[.slice p0_0 r.1.length k0_0, .int .i64 r.2] ∧ Outs X w0 S w [.row p0_0 r.1.length k0_0 c0_0 3 1] ∧ (RowA c0_0 r.1).p S w
set_option maxHeartbeats 4000000 in
set_option maxRecDepth 100000 in
theorem ref21_Apply_ok {w0 : World} {S0 : Nat → Prop} {p2 : Option Addr} {k3 : Nat} {p6 : Option Addr} {k7 : Nat} {f1 : Filter} {samples5 : (List Int)} {number9 : Int} {r : ((List Int) × Int)} (hsh : ref21_Apply f1 samples5 number9 = some r) (hS : ∀ b, S0 b → b < w0.heap.size) (h4 : (SlA p2 f1.Taps.length k3 f1.Taps).p S0 w0) (h8 : (SlA p6 samples5.length k7 samples5).p S0 w0) : Calls Try.prog 33 #[.agg #[.slice p2 f1.Taps.length k3, .int .i64 f1.Factor, .int .i64 f1.Shift], .slice p6 samples5.length k7, .int .i64 number9] w0 (Ret ([]) w0 S0 (ref21_Apply_rd w0 ([]) r)) := by
 refine calls_of_wp Try.func33 rfl ?_
 have hs := Sl.enter #[.agg #[.slice p2 f1.Taps.length k3, .int .i64 f1.Factor, .int .i64 f1.Shift], .slice p6 samples5.length k7, .int .i64 number9] 28 [(0, .agg #[.slice p2 f1.Taps.length k3, .int .i64 f1.Factor, .int .i64 f1.Shift]), (1, .slice p6 samples5.length k7), (2, .int .i64 number9)] rfl ⟨rfl, rfl, rfl, trivial⟩
 have hw := Wd.enter (E := []) hS (fun _ h => (by cases h))
 have hw := hw.addE h4
 have hw := hw.addE h8
 delta ref21_Apply at hsh
 refine wp_seq ?_
 refine wp_region_lit ?_
 refine w_box (cs := [.slice p2 f1.Taps.length k3, .int .i64 f1.Factor, .int .i64 f1.Shift]) hs hw rfl rfl rfl trivial ?_
 intro b10 a w hs hw
 refine st_val hs (y_assign rfl) trivial rfl rfl fun a hs => ?_
 refine st_val hs (y_assign rfl) trivial rfl rfl fun a hs => ?_
 refine wpList_nil ?_
 refine then_normal ?_
 refine wp_seq ?_
 refine wp_seq ?_
 refine wp_region_lit ?_
 refine st_val hs (y_loadBA (hw.ownAt 0 rfl) rfl Try.isAgg28 Try.sizeOf28 rfl rfl) trivial rfl rfl fun a hs => ?_
 obtain ⟨rv12, h11, hsh⟩ := bind_t hsh
 refine st_callR hs (ref21_Valid_ok h11 hw.bdom (hw.bE 1 rfl)) (do_call Try.call20 rfl) trivial rfl rfl ?_
 intro v16 Sv13 w a h14 h15 hs
 subst h15
 have hw := hw.callB h14
 refine st_val hs (y_not rfl) trivial rfl rfl fun a hs => ?_
 refine wpList_nil ?_
 refine then_normal ?_
 refine wp_cond_split (hs.ev rfl) (fun h19 => ?_) (fun h19 => ?_)
 ·have hsh := ite_t hsh h19
  refine wp_seq ?_
  refine wp_region_lit ?_
  refine st_val hs (y_assign rfl) trivial rfl rfl fun a hs => ?_
  refine st_val hs (y_assign rfl) trivial rfl rfl fun a hs => ?_
  refine wpList_nil ?_
  refine then_normal ?_
  have hsh := Option.some.inj hsh
  subst hsh
  have hw := hw.nilRow Int 3
  refine wp_ret ?_
  refine then_ret ?_
  exact ret2 hs rfl (rv_tmp rfl) (rv_tmp rfl) (hw.ret ⟨none, 0, [], rfl, (hw.outs [0] (by decide) rfl), (hw.envAt 0 rfl)⟩)
 ·have hsh := ite_f hsh h19
  refine wp_skip ?_
  refine then_normal ?_
  refine wp_seq ?_
  refine wp_seq ?_
  refine wp_region_lit ?_
  refine st_val hs (y_move rfl) trivial rfl rfl fun a hs => ?_
  refine st_val hs (y_move rfl) trivial rfl rfl fun a hs => ?_
  obtain ⟨rv21, h20, hsh⟩ := bind_t hsh
  refine st_callR hs (ref21_check_ok h20 hw.bdom (hw.bE 0 rfl)) (do_call Try.call53 rfl) trivial rfl rfl ?_
  intro v25 Sv22 w a h23 h24 hs
  subst h24
  have hw := hw.callB h23
  refine st_val hs (y_assign rfl) trivial rfl rfl fun a hs => ?_
  refine wpList_nil ?_
  refine then_normal ?_
  refine wp_seq ?_
  refine wp_region_lit ?_
  refine st_val hs (y_move rfl) trivial rfl rfl fun a hs => ?_
  refine st_val hs (y_neq rfl rfl) trivial rfl rfl fun a hs => ?_
  refine wpList_nil ?_
  refine then_normal ?_
  refine wp_cond_split (hs.ev rfl) (fun h28 => ?_) (fun h28 => ?_)
  ·have hsh := ite_t hsh h28
   refine wp_seq ?_
   refine wp_region_lit ?_
   refine st_val hs (y_move rfl) trivial rfl rfl fun a hs => ?_
   refine st_val hs (y_assign rfl) trivial rfl rfl fun a hs => ?_
   refine st_val hs (y_assign rfl) trivial rfl rfl fun a hs => ?_
   refine wpList_nil ?_
   refine then_normal ?_
   have hsh := Option.some.inj hsh
   subst hsh
   have hw := hw.nilRow Int 3
   refine wp_ret ?_
   refine then_ret ?_
   exact ret2 hs rfl (rv_tmp rfl) (rv_tmp rfl) (hw.ret ⟨none, 0, [], rfl, (hw.outs [0] (by decide) rfl), (hw.envAt 0 rfl)⟩)
  ·have hsh := ite_f hsh h28
   refine wp_skip ?_
   refine then_normal ?_
   refine wp_seq ?_
   refine wp_region_lit ?_
   refine st_val hs (y_loadBA (hw.ownAt 0 rfl) rfl Try.isAgg28 Try.sizeOf28 rfl rfl) trivial rfl rfl fun a hs => ?_
   refine st_val hs (y_move rfl) trivial rfl rfl fun a hs => ?_
   refine st_val hs (y_move rfl) trivial rfl rfl fun a hs => ?_
   obtain ⟨rv30, h29, hsh⟩ := bind_t hsh
   refine st_callR hs (ref21_kept_ok h29 hw.dom (hw.envAt 1 rfl) (hw.envAt 0 rfl)) (do_call Try.call54 rfl) trivial rfl rfl ?_
   intro v42 Sv39 w a h40 h41 hs
   obtain ⟨p31, k32, c34, p35, k36, c38, rfl, h43, h33, h37⟩ := h41
   have hw := hw.callN h40 h43
   have hw := hw.addE (e := RowA c34 rv30.1) h33
   have hw := hw.addE (e := RowA c38 rv30.2) h37
   refine st_val hs (y_move rfl) trivial rfl rfl fun a hs => ?_
   refine st_val hs (y_extract rfl rfl) trivial rfl rfl fun a hs => ?_
   refine st_val hs (y_extract rfl rfl) trivial rfl rfl fun a hs => ?_
   refine st_val hs (y_assign rfl) trivial rfl rfl fun a hs => ?_
   refine st_val hs (y_assign rfl) trivial rfl rfl fun a hs => ?_
   refine wpList_nil ?_
   refine then_normal ?_
   refine wp_seq ?_
   refine wp_region_lit ?_
   refine st_val hs (y_move rfl) trivial rfl rfl fun a hs => ?_
   refine st_val hs (y_assign rfl) trivial rfl rfl fun a hs => ?_
   refine st_val hs (y_assign rfl) trivial rfl rfl fun a hs => ?_
   refine wpList_nil ?_
   refine then_normal ?_
   have hsh := Option.some.inj hsh
   subst hsh
   refine wp_ret ?_
   exact ret2 hs rfl (rv_tmp rfl) (rv_tmp rfl) (hw.ret ⟨p31, k32, c34, rfl, (hw.outs [0] (by decide) rfl), (hw.envAt 1 rfl)⟩)

abbrev slices_Clone_Lint_int_rd (w0 : World) (X : List Nat) (r : (List Int)) : (Nat → Prop) → World → Value → Prop := fun S w v => ∃ (p0_0 : Option Addr) (k0_0 : Nat) (c0_0 : List Value), v = .slice p0_0 r.length k0_0 ∧ Outs X w0 S w [.row p0_0 r.length k0_0 c0_0 3 1] ∧ (RowA c0_0 r).p S w
set_option maxHeartbeats 4000000 in
set_option maxRecDepth 100000 in
theorem slices_Clone_Lint_int_ok {w0 : World} {S0 : Nat → Prop} {p2 : Option Addr} {k3 : Nat} {s1 : (List Int)} {r : (List Int)} (hsh : slices_Clone_Lint_int s1 = some r) (hS : ∀ b, S0 b → b < w0.heap.size) (h4 : (SlA p2 s1.length k3 s1).p S0 w0) : Calls Try.prog 45 #[.slice p2 s1.length k3] w0 (Ret ([]) w0 S0 (slices_Clone_Lint_int_rd w0 ([]) r)) := by
 refine calls_of_wp Try.func45 rfl ?_
 have hs := Sl.enter #[.slice p2 s1.length k3] 8 [(0, .slice p2 s1.length k3)] rfl ⟨rfl, trivial⟩
 have hw := Wd.enter (E := []) hS (fun _ h => (by cases h))
 have hw := hw.addE h4
 delta slices_Clone_Lint_int at hsh
 refine wp_seq ?_
 refine wp_region_lit ?_
 refine st_val hs (y_assign rfl) trivial rfl rfl fun a hs => ?_
 refine wpList_nil ?_
 refine then_normal ?_
 refine wp_seq ?_
 refine wp_seq ?_
 refine wp_region_lit ?_
 refine st_val hs (y_move rfl) trivial rfl rfl fun a hs => ?_
 refine st_val hs (y_eqlN Try.runUnderlying22 rfl rfl) trivial rfl rfl fun a hs => ?_
 refine wpList_nil ?_
 refine then_normal ?_
 have hsv15 := hs
 have hwv16 := hw
 rcases p2 with _ | av8
 ·have hs := hsv15
  have hw := hwv16
  obtain rfl := slnil (hw.envAt 0 rfl)
  have hsh : some ([] : List Int) = some r := by simpa [appM, maxLen] using hsh
  refine wp_cond_true (hs.ev rfl) ?_
  refine wp_seq ?_
  refine wp_region_lit ?_
  refine st_val hs (y_assign rfl) trivial rfl rfl fun a hs => ?_
  refine wpList_nil ?_
  refine then_normal ?_
  have hsh := Option.some.inj hsh
  subst hsh
  have hw := hw.nilRow Int 3
  refine wp_ret ?_
  refine then_ret ?_
  exact ret1 hs rfl (rv_tmp rfl) (hw.ret ⟨none, 0, [], rfl, (hw.outs [0] (by decide) rfl), (hw.envAt 0 rfl)⟩)
 ·have hs := hsv15
  have hw := hwv16
  refine wp_cond_false (hs.ev rfl) ?_
  refine wp_skip ?_
  refine then_normal ?_
  refine wp_seq ?_
  refine wp_region_lit ?_
  refine w_buildSlice (α := Int) (vs := []) (cs := []) (xs := ([] : List Int)) hs hw El22 rfl rfl rfl rfl rfl rfl rfl rfl trivial fun p9 a w hs hw => ?_
  refine st_val hs (y_move rfl) trivial rfl rfl fun a hs => ?_
  obtain ⟨l11, h10, hsh⟩ := bind_t hsh
  refine w_appendE (α := Int) hs hw El22 0 rfl rfl rfl 0 rfl 1 rfl h10 rfl trivial ?_
  intro p12 k13 c14 a w hs hw
  refine st_val hs (y_assign rfl) trivial rfl rfl fun a hs => ?_
  refine wpList_nil ?_
  refine then_normal ?_
  have hsh := Option.some.inj hsh
  subst hsh
  refine wp_ret ?_
  exact ret1 hs rfl (rv_tmp rfl) (hw.ret ⟨p12, k13, c14, rfl, (hw.outs [0] (by decide) rfl), (hw.envAt 0 rfl)⟩)

abbrev filter_Start_rd (w0 : World) (X : List Nat) (r : (Feed × Int)) : (Nat → Prop) → World → Value → Prop := fun S w v => ∃ (p0_0 : Option Addr) (k0_0 : Nat) (c0_0 : List Value) (p0_3 : Option Addr) (k0_3 : Nat), v = .tuple #[.agg #[.slice p0_0 r.1.Filter.Taps.length k0_0, .int .i64 r.1.Filter.Factor, .int .i64 r.1.Filter.Shift, .slice p0_3 r.1.Past.length k0_3, .int .i64 r.1.Number], .int .i64 r.2] ∧ Outs X w0 S w [.row p0_0 r.1.Filter.Taps.length k0_0 c0_0 3 1] ∧ (RowA c0_0 r.1.Filter.Taps).p S w ∧ (SlA p0_3 r.1.Past.length k0_3 r.1.Past).p S w
set_option maxHeartbeats 4000000 in
set_option maxRecDepth 100000 in
theorem filter_Start_ok {w0 : World} {S0 : Nat → Prop} {p2 : Option Addr} {k3 : Nat} {f1 : Filter} {number5 : Int} {r : (Feed × Int)} (hsh : filter_Start f1 number5 = some r) (hS : ∀ b, S0 b → b < w0.heap.size) (h4 : (SlA p2 f1.Taps.length k3 f1.Taps).p S0 w0) : Calls Try.prog 24 #[.agg #[.slice p2 f1.Taps.length k3, .int .i64 f1.Factor, .int .i64 f1.Shift], .int .i64 number5] w0 (Ret ([]) w0 S0 (filter_Start_rd w0 ([]) r)) := by
 refine calls_of_wp Try.func24 rfl ?_
 have hs := Sl.enter #[.agg #[.slice p2 f1.Taps.length k3, .int .i64 f1.Factor, .int .i64 f1.Shift], .int .i64 number5] 21 [(0, .agg #[.slice p2 f1.Taps.length k3, .int .i64 f1.Factor, .int .i64 f1.Shift]), (1, .int .i64 number5)] rfl ⟨rfl, rfl, trivial⟩
 have hw := Wd.enter (E := []) hS (fun _ h => (by cases h))
 have hw := hw.addE h4
 delta filter_Start at hsh
 refine wp_seq ?_
 refine wp_region_lit ?_
 refine w_box (cs := [.slice p2 f1.Taps.length k3, .int .i64 f1.Factor, .int .i64 f1.Shift]) hs hw rfl rfl rfl trivial ?_
 intro b6 a w hs hw
 refine w_alloc (cs := [.slice none ([] : List Int).length 0, .int .i64 0, .int .i64 0, .slice none ([] : List Int).length 0, .int .i64 0]) hs hw Try.zeroValue51 rfl rfl trivial ?_
 intro b7 a w hs hw
 refine st_val hs (y_assign rfl) trivial rfl rfl fun a hs => ?_
 refine wpList_nil ?_
 refine then_normal ?_
 refine wp_seq ?_
 refine wp_seq ?_
 refine wp_region_lit ?_
 refine st_val hs (y_loadBA (hw.ownAt 1 rfl) rfl Try.isAgg28 Try.sizeOf28 rfl rfl) trivial rfl rfl fun a hs => ?_
 obtain ⟨rv9, h8, hsh⟩ := bind_t hsh
 refine st_callR hs (filter_Valid_ok h8 hw.bdom (hw.bE 0 rfl)) (do_call Try.call32 rfl) trivial rfl rfl ?_
 intro v13 Sv10 w a h11 h12 hs
 subst h12
 have hw := hw.callB h11
 refine st_val hs (y_not rfl) trivial rfl rfl fun a hs => ?_
 refine wpList_nil ?_
 refine then_normal ?_
 refine wp_cond_split (hs.ev rfl) (fun h16 => ?_) (fun h16 => ?_)
 ·have hsh := ite_t hsh h16
  refine wp_seq ?_
  refine wp_region_lit ?_
  refine st_val hs (y_build (vs := []) Bld51 rfl rfl) trivial rfl rfl fun a hs => ?_
  refine w_store (m := 5) (cs' := [.slice none ([] : List Int).length 0, .int .i64 0, .int .i64 0, .slice none ([] : List Int).length 0, .int .i64 0]) hs hw 0 rfl rfl rfl Try.sizeOf51 rfl rfl rfl rfl trivial ?_
  intro a w hs hw
  refine st_val hs (y_assign rfl) trivial rfl rfl fun a hs => ?_
  refine wpList_nil ?_
  refine then_normal ?_
  have hsh := Option.some.inj hsh
  subst hsh
  have hw := hw.nilRow Int 3
  have hw := hw.addE (e := SlA (α := Int) none 0 0 []) nil_sl
  refine wp_ret ?_
  refine then_ret ?_
  exact ret2 hs rfl (rv_cell hw 1 rfl rfl Try.isAgg51 Try.sizeOf51 rfl) (rv_tmp rfl) (hw.ret ⟨none, 0, [], none, 0, rfl, (hw.outs [0] (by decide) rfl), (hw.envAt 1 rfl), (hw.envAt 0 rfl)⟩)
 ·have hsh := ite_f hsh h16
  refine wp_skip ?_
  refine then_normal ?_
  refine wp_seq ?_
  refine wp_seq ?_
  refine wp_region_lit ?_
  refine st_val hs (y_move rfl) trivial rfl rfl fun a hs => ?_
  obtain ⟨rv18, h17, hsh⟩ := bind_t hsh
  refine st_callR hs (filter_in_ok h17 hw.bdom) (do_call Try.call46 rfl) trivial rfl rfl ?_
  intro v22 Sv19 w a h20 h21 hs
  subst h21
  have hw := hw.callB h20
  refine st_val hs (y_not rfl) trivial rfl rfl fun a hs => ?_
  refine wpList_nil ?_
  refine then_normal ?_
  refine wp_cond_split (hs.ev rfl) (fun h25 => ?_) (fun h25 => ?_)
  ·have hsh := ite_t hsh h25
   refine wp_seq ?_
   refine wp_region_lit ?_
   refine st_val hs (y_build (vs := []) Bld51 rfl rfl) trivial rfl rfl fun a hs => ?_
   refine w_store (m := 5) (cs' := [.slice none ([] : List Int).length 0, .int .i64 0, .int .i64 0, .slice none ([] : List Int).length 0, .int .i64 0]) hs hw 0 rfl rfl rfl Try.sizeOf51 rfl rfl rfl rfl trivial ?_
   intro a w hs hw
   refine st_val hs (y_assign rfl) trivial rfl rfl fun a hs => ?_
   refine wpList_nil ?_
   refine then_normal ?_
   have hsh := Option.some.inj hsh
   subst hsh
   have hw := hw.nilRow Int 3
   have hw := hw.addE (e := SlA (α := Int) none 0 0 []) nil_sl
   refine wp_ret ?_
   refine then_ret ?_
   exact ret2 hs rfl (rv_cell hw 1 rfl rfl Try.isAgg51 Try.sizeOf51 rfl) (rv_tmp rfl) (hw.ret ⟨none, 0, [], none, 0, rfl, (hw.outs [0] (by decide) rfl), (hw.envAt 1 rfl), (hw.envAt 0 rfl)⟩)
  ·have hsh := ite_f hsh h25
   refine wp_skip ?_
   refine then_normal ?_
   refine wp_seq ?_
   refine wp_region_lit ?_
   refine st_val hs (y_fieldAddr (o' := 0) Try.runUnderlying28 rfl Try.sizeOf22 rfl rfl rfl) trivial rfl rfl fun a hs => ?_
   refine st_val hs (y_loadB1 (hw.ownAt 1 rfl) rfl Try.isAgg22 rfl) trivial rfl rfl fun a hs => ?_
   obtain ⟨rv27, h26, hsh⟩ := bind_t hsh
   refine st_callR hs (slices_Clone_Lint_int_ok h26 hw.dom (hw.envAt 0 rfl)) (do_call Try.call45 rfl) trivial rfl rfl ?_
   intro v35 Sv32 w a h33 h34 hs
   obtain ⟨p28, k29, c31, rfl, h36, h30⟩ := h34
   have hw := hw.callN h33 h36
   have hw := hw.addE (e := RowA c31 rv27) h30
   refine st_val hs (y_fieldAddr (o' := 0) Try.runUnderlying28 rfl Try.sizeOf22 rfl rfl rfl) trivial rfl rfl fun a hs => ?_
   refine w_store (m := 1) (cs' := [.slice p28 rv27.length k29, .int .i64 f1.Factor, .int .i64 f1.Shift]) hs hw 2 rfl rfl rfl Try.sizeOf22 rfl rfl rfl rfl trivial ?_
   intro a w hs hw
   refine wpList_nil ?_
   refine then_normal ?_
   refine wp_seq ?_
   refine wp_region_lit ?_
   refine st_val hs (y_loadBA (hw.ownAt 2 rfl) rfl Try.isAgg28 Try.sizeOf28 rfl rfl) trivial rfl rfl fun a hs => ?_
   refine st_val hs (y_move rfl) trivial rfl rfl fun a hs => ?_
   refine st_val hs (y_build (vs := [(0, .agg #[.slice p28 rv27.length k29, .int .i64 f1.Factor, .int .i64 f1.Shift]), (2, .int .i64 number5)]) Bld51 rfl rfl) trivial rfl rfl fun a hs => ?_
   refine w_store (m := 5) (cs' := [.slice p28 rv27.length k29, .int .i64 f1.Factor, .int .i64 f1.Shift, .slice none ([] : List Int).length 0, .int .i64 number5]) hs hw 1 rfl rfl rfl Try.sizeOf51 rfl rfl rfl rfl trivial ?_
   intro a w hs hw
   refine st_val hs (y_assign rfl) trivial rfl rfl fun a hs => ?_
   refine wpList_nil ?_
   refine then_normal ?_
   have hsh := Option.some.inj hsh
   subst hsh
   have hw := hw.addE (e := SlA (α := Int) none 0 0 []) nil_sl
   refine wp_ret ?_
   exact ret2 hs rfl (rv_cell hw 1 rfl rfl Try.isAgg51 Try.sizeOf51 rfl) (rv_tmp rfl) (hw.ret ⟨p28, k29, c31, none, 0, rfl, (hw.outs [0] (by decide) rfl), (hw.envAt 1 rfl), (hw.envAt 0 rfl)⟩)

abbrev ref21_Start_rd (w0 : World) (X : List Nat) (r : (Feed × Int)) : (Nat → Prop) → World → Value → Prop := fun S w v => ∃ (p0_0 : Option Addr) (k0_0 : Nat) (c0_0 : List Value) (p0_3 : Option Addr) (k0_3 : Nat), v = .tuple #[.agg #[.slice p0_0 r.1.Filter.Taps.length k0_0, .int .i64 r.1.Filter.Factor, .int .i64 r.1.Filter.Shift, .slice p0_3 r.1.Past.length k0_3, .int .i64 r.1.Number], .int .i64 r.2] ∧ Outs X w0 S w [.row p0_0 r.1.Filter.Taps.length k0_0 c0_0 3 1] ∧ (RowA c0_0 r.1.Filter.Taps).p S w ∧ (SlA p0_3 r.1.Past.length k0_3 r.1.Past).p S w
set_option maxHeartbeats 4000000 in
set_option maxRecDepth 100000 in
theorem ref21_Start_ok {w0 : World} {S0 : Nat → Prop} {p2 : Option Addr} {k3 : Nat} {f1 : Filter} {number5 : Int} {r : (Feed × Int)} (hsh : ref21_Start f1 number5 = some r) (hS : ∀ b, S0 b → b < w0.heap.size) (h4 : (SlA p2 f1.Taps.length k3 f1.Taps).p S0 w0) : Calls Try.prog 34 #[.agg #[.slice p2 f1.Taps.length k3, .int .i64 f1.Factor, .int .i64 f1.Shift], .int .i64 number5] w0 (Ret ([]) w0 S0 (ref21_Start_rd w0 ([]) r)) := by
 refine calls_of_wp Try.func34 rfl ?_
 have hs := Sl.enter #[.agg #[.slice p2 f1.Taps.length k3, .int .i64 f1.Factor, .int .i64 f1.Shift], .int .i64 number5] 21 [(0, .agg #[.slice p2 f1.Taps.length k3, .int .i64 f1.Factor, .int .i64 f1.Shift]), (1, .int .i64 number5)] rfl ⟨rfl, rfl, trivial⟩
 have hw := Wd.enter (E := []) hS (fun _ h => (by cases h))
 have hw := hw.addE h4
 delta ref21_Start at hsh
 refine wp_seq ?_
 refine wp_region_lit ?_
 refine w_box (cs := [.slice p2 f1.Taps.length k3, .int .i64 f1.Factor, .int .i64 f1.Shift]) hs hw rfl rfl rfl trivial ?_
 intro b6 a w hs hw
 refine w_alloc (cs := [.slice none ([] : List Int).length 0, .int .i64 0, .int .i64 0, .slice none ([] : List Int).length 0, .int .i64 0]) hs hw Try.zeroValue51 rfl rfl trivial ?_
 intro b7 a w hs hw
 refine st_val hs (y_assign rfl) trivial rfl rfl fun a hs => ?_
 refine wpList_nil ?_
 refine then_normal ?_
 refine wp_seq ?_
 refine wp_seq ?_
 refine wp_region_lit ?_
 refine st_val hs (y_loadBA (hw.ownAt 1 rfl) rfl Try.isAgg28 Try.sizeOf28 rfl rfl) trivial rfl rfl fun a hs => ?_
 obtain ⟨rv9, h8, hsh⟩ := bind_t hsh
 refine st_callR hs (ref21_Valid_ok h8 hw.bdom (hw.bE 0 rfl)) (do_call Try.call20 rfl) trivial rfl rfl ?_
 intro v13 Sv10 w a h11 h12 hs
 subst h12
 have hw := hw.callB h11
 refine st_val hs (y_not rfl) trivial rfl rfl fun a hs => ?_
 refine wpList_nil ?_
 refine then_normal ?_
 refine wp_cond_split (hs.ev rfl) (fun h16 => ?_) (fun h16 => ?_)
 ·have hsh := ite_t hsh h16
  refine wp_seq ?_
  refine wp_region_lit ?_
  refine st_val hs (y_build (vs := []) Bld51 rfl rfl) trivial rfl rfl fun a hs => ?_
  refine w_store (m := 5) (cs' := [.slice none ([] : List Int).length 0, .int .i64 0, .int .i64 0, .slice none ([] : List Int).length 0, .int .i64 0]) hs hw 0 rfl rfl rfl Try.sizeOf51 rfl rfl rfl rfl trivial ?_
  intro a w hs hw
  refine st_val hs (y_assign rfl) trivial rfl rfl fun a hs => ?_
  refine wpList_nil ?_
  refine then_normal ?_
  have hsh := Option.some.inj hsh
  subst hsh
  have hw := hw.nilRow Int 3
  have hw := hw.addE (e := SlA (α := Int) none 0 0 []) nil_sl
  refine wp_ret ?_
  refine then_ret ?_
  exact ret2 hs rfl (rv_cell hw 1 rfl rfl Try.isAgg51 Try.sizeOf51 rfl) (rv_tmp rfl) (hw.ret ⟨none, 0, [], none, 0, rfl, (hw.outs [0] (by decide) rfl), (hw.envAt 1 rfl), (hw.envAt 0 rfl)⟩)
 ·have hsh := ite_f hsh h16
  refine wp_skip ?_
  refine then_normal ?_
  refine wp_seq ?_
  refine wp_seq ?_
  refine wp_region_lit ?_
  refine st_val hs (y_move rfl) trivial rfl rfl fun a hs => ?_
  obtain ⟨rv18, h17, hsh⟩ := bind_t hsh
  refine st_callR hs (ref01_In_ok h17 hw.bdom) (do_call Try.call43 rfl) trivial rfl rfl ?_
  intro v22 Sv19 w a h20 h21 hs
  subst h21
  have hw := hw.callB h20
  refine st_val hs (y_not rfl) trivial rfl rfl fun a hs => ?_
  refine wpList_nil ?_
  refine then_normal ?_
  refine wp_cond_split (hs.ev rfl) (fun h25 => ?_) (fun h25 => ?_)
  ·have hsh := ite_t hsh h25
   refine wp_seq ?_
   refine wp_region_lit ?_
   refine st_val hs (y_build (vs := []) Bld51 rfl rfl) trivial rfl rfl fun a hs => ?_
   refine w_store (m := 5) (cs' := [.slice none ([] : List Int).length 0, .int .i64 0, .int .i64 0, .slice none ([] : List Int).length 0, .int .i64 0]) hs hw 0 rfl rfl rfl Try.sizeOf51 rfl rfl rfl rfl trivial ?_
   intro a w hs hw
   refine st_val hs (y_assign rfl) trivial rfl rfl fun a hs => ?_
   refine wpList_nil ?_
   refine then_normal ?_
   have hsh := Option.some.inj hsh
   subst hsh
   have hw := hw.nilRow Int 3
   have hw := hw.addE (e := SlA (α := Int) none 0 0 []) nil_sl
   refine wp_ret ?_
   refine then_ret ?_
   exact ret2 hs rfl (rv_cell hw 1 rfl rfl Try.isAgg51 Try.sizeOf51 rfl) (rv_tmp rfl) (hw.ret ⟨none, 0, [], none, 0, rfl, (hw.outs [0] (by decide) rfl), (hw.envAt 1 rfl), (hw.envAt 0 rfl)⟩)
  ·have hsh := ite_f hsh h25
   refine wp_skip ?_
   refine then_normal ?_
   refine wp_seq ?_
   refine wp_region_lit ?_
   refine st_val hs (y_fieldAddr (o' := 0) Try.runUnderlying28 rfl Try.sizeOf22 rfl rfl rfl) trivial rfl rfl fun a hs => ?_
   refine st_val hs (y_loadB1 (hw.ownAt 1 rfl) rfl Try.isAgg22 rfl) trivial rfl rfl fun a hs => ?_
   obtain ⟨l27, h26, hsh⟩ := bind_t hsh
   have hw := hw.nilRow Int 3
   refine w_appendE (α := Int) hs hw El22 0 rfl rfl rfl 0 rfl 1 rfl h26 rfl trivial ?_
   intro p28 k29 c30 a w hs hw
   refine st_val hs (y_fieldAddr (o' := 0) Try.runUnderlying28 rfl Try.sizeOf22 rfl rfl rfl) trivial rfl rfl fun a hs => ?_
   refine w_store (m := 1) (cs' := [.slice p28 l27.length k29, .int .i64 f1.Factor, .int .i64 f1.Shift]) hs hw 2 rfl rfl rfl Try.sizeOf22 rfl rfl rfl rfl trivial ?_
   intro a w hs hw
   refine wpList_nil ?_
   refine then_normal ?_
   refine wp_seq ?_
   refine wp_region_lit ?_
   refine st_val hs (y_loadBA (hw.ownAt 2 rfl) rfl Try.isAgg28 Try.sizeOf28 rfl rfl) trivial rfl rfl fun a hs => ?_
   refine st_val hs (y_move rfl) trivial rfl rfl fun a hs => ?_
   refine st_val hs (y_build (vs := [(0, .agg #[.slice p28 l27.length k29, .int .i64 f1.Factor, .int .i64 f1.Shift]), (2, .int .i64 number5)]) Bld51 rfl rfl) trivial rfl rfl fun a hs => ?_
   refine w_store (m := 5) (cs' := [.slice p28 l27.length k29, .int .i64 f1.Factor, .int .i64 f1.Shift, .slice none ([] : List Int).length 0, .int .i64 number5]) hs hw 1 rfl rfl rfl Try.sizeOf51 rfl rfl rfl rfl trivial ?_
   intro a w hs hw
   refine st_val hs (y_assign rfl) trivial rfl rfl fun a hs => ?_
   refine wpList_nil ?_
   refine then_normal ?_
   have hsh := Option.some.inj hsh
   subst hsh
   have hw := hw.addE (e := SlA (α := Int) none 0 0 []) nil_sl
   refine wp_ret ?_
   exact ret2 hs rfl (rv_cell hw 1 rfl rfl Try.isAgg51 Try.sizeOf51 rfl) (rv_tmp rfl) (hw.ret ⟨p28, k29, c30, none, 0, rfl, (hw.outs [0] (by decide) rfl), (hw.envAt 1 rfl), (hw.envAt 0 rfl)⟩)

abbrev ref21_Same_rd (w0 : World) (X : List Nat) (r : Bool) : (Nat → Prop) → World → Value → Prop := fun S w v => v = .bool r
set_option maxHeartbeats 4000000 in
set_option maxRecDepth 100000 in
theorem ref21_Same_ok {w0 : World} {S0 : Nat → Prop} {p2 : Option Addr} {k3 : Nat} {p6 : Option Addr} {k7 : Nat} {a1 : Filter} {b5 : Filter} {r : Bool} (hsh : ref21_Same a1 b5 = some r) (hS : ∀ b, S0 b → b < w0.heap.size) (h4 : (SlA p2 a1.Taps.length k3 a1.Taps).p S0 w0) (h8 : (SlA p6 b5.Taps.length k7 b5.Taps).p S0 w0) : Calls Try.prog 19 #[.agg #[.slice p2 a1.Taps.length k3, .int .i64 a1.Factor, .int .i64 a1.Shift], .agg #[.slice p6 b5.Taps.length k7, .int .i64 b5.Factor, .int .i64 b5.Shift]] w0 (Ret ([]) w0 S0 (ref21_Same_rd w0 ([]) r)) := by
 refine calls_of_wp Try.func19 rfl ?_
 have hs := Sl.enter #[.agg #[.slice p2 a1.Taps.length k3, .int .i64 a1.Factor, .int .i64 a1.Shift], .agg #[.slice p6 b5.Taps.length k7, .int .i64 b5.Factor, .int .i64 b5.Shift]] 24 [(0, .agg #[.slice p2 a1.Taps.length k3, .int .i64 a1.Factor, .int .i64 a1.Shift]), (1, .agg #[.slice p6 b5.Taps.length k7, .int .i64 b5.Factor, .int .i64 b5.Shift])] rfl ⟨rfl, rfl, trivial⟩
 have hw := Wd.enter (E := []) hS (fun _ h => (by cases h))
 have hw := hw.addE h4
 have hw := hw.addE h8
 delta ref21_Same at hsh
 refine wp_seq ?_
 refine wp_region_lit ?_
 refine w_box (cs := [.slice p2 a1.Taps.length k3, .int .i64 a1.Factor, .int .i64 a1.Shift]) hs hw rfl rfl rfl trivial ?_
 intro b9 a w hs hw
 refine w_box (cs := [.slice p6 b5.Taps.length k7, .int .i64 b5.Factor, .int .i64 b5.Shift]) hs hw rfl rfl rfl trivial ?_
 intro b10 a w hs hw
 refine st_val hs (y_assign rfl) trivial rfl rfl fun a hs => ?_
 refine wpList_nil ?_
 refine then_normal ?_
 refine wp_seq ?_
 refine wp_region_lit ?_
 refine st_val hs (y_fieldAddr (o' := 1) Try.runUnderlying28 rfl Try.sizeOf3 rfl rfl rfl) trivial rfl rfl fun a hs => ?_
 refine st_val hs (y_loadB1 (hw.ownAt 1 rfl) rfl Try.isAgg3 rfl) trivial rfl rfl fun a hs => ?_
 refine st_val hs (y_fieldAddr (o' := 1) Try.runUnderlying28 rfl Try.sizeOf3 rfl rfl rfl) trivial rfl rfl fun a hs => ?_
 refine st_val hs (y_loadB1 (hw.ownAt 0 rfl) rfl Try.isAgg3 rfl) trivial rfl rfl fun a hs => ?_
 refine st_val hs (y_eql rfl rfl) trivial rfl rfl fun a hs => ?_
 refine st_val hs (y_move rfl) trivial rfl rfl fun a hs => ?_
 refine wpl_join 6 (fun a w1 => w = w1 ∧ Sl 24 [(2, .pointer (some ⟨b9, 0, none⟩)), (3, .pointer (some ⟨b10, 0, none⟩)), (16, .bool ((a1.Factor == b5.Factor) && (a1.Shift == b5.Shift)))] a) ?_ ?_
 ·rcases Bool.eq_false_or_eq_true (a1.Factor == b5.Factor) with h11 | h11
  ·have hs := hs.fix 10 (.bool true) rfl (vb h11)
   refine st_val hs (y_fieldAddr (o' := 2) Try.runUnderlying28 rfl Try.sizeOf3 rfl rfl rfl) ⟨_, rfl, rfl⟩ rfl rfl fun a hs => ?_
   refine st_val hs (y_loadB1 (hw.ownAt 1 rfl) rfl Try.isAgg3 rfl) ⟨_, rfl, rfl⟩ rfl rfl fun a hs => ?_
   refine st_val hs (y_fieldAddr (o' := 2) Try.runUnderlying28 rfl Try.sizeOf3 rfl rfl rfl) ⟨_, rfl, rfl⟩ rfl rfl fun a hs => ?_
   refine st_val hs (y_loadB1 (hw.ownAt 0 rfl) rfl Try.isAgg3 rfl) ⟨_, rfl, rfl⟩ rfl rfl fun a hs => ?_
   refine st_val hs (y_eql rfl rfl) ⟨_, rfl, rfl⟩ rfl rfl fun a hs => ?_
   refine st_val hs (y_pickT rfl rfl) trivial rfl rfl fun a hs => ?_
   refine wpList_nil ?_
   refine then_normal ?_
   exact ⟨rfl, (hs.fix 16 (.bool ((a1.Factor == b5.Factor) && (a1.Shift == b5.Shift))) rfl (and_t h11)).weaken _ ⟨rfl, rfl, rfl, trivial⟩⟩
  ·have hs := hs.fix 10 (.bool false) rfl (vb h11)
   refine st_skip hs rfl rfl rfl rfl rfl fun a hs => ?_
   refine st_skip hs rfl rfl rfl rfl rfl fun a hs => ?_
   refine st_skip hs rfl rfl rfl rfl rfl fun a hs => ?_
   refine st_skip hs rfl rfl rfl rfl rfl fun a hs => ?_
   refine st_skip hs rfl rfl rfl rfl rfl fun a hs => ?_
   refine st_val hs (y_pickF rfl rfl) trivial rfl rfl fun a hs => ?_
   refine wpList_nil ?_
   refine then_normal ?_
   exact ⟨rfl, (hs.fix 16 (.bool ((a1.Factor == b5.Factor) && (a1.Shift == b5.Shift))) rfl (and_f h11)).weaken _ ⟨rfl, rfl, rfl, trivial⟩⟩
 ·rintro a w1 ⟨h29, hs⟩
  subst h29
  refine st_val hs (y_move rfl) trivial rfl rfl fun a hs => ?_
  obtain ⟨c20, hc20, hsh⟩ := bind_t hsh
  refine wpl_join 6 (fun a w => ∃ (Sv21 : Nat → Prop), Sl 24 [(23, .bool c20)] a ∧ Wd ⟨w0, S0, []⟩ Sv21 [] [] w) ?_ ?_
  ·rcases Bool.eq_false_or_eq_true ((a1.Factor == b5.Factor) && (a1.Shift == b5.Shift)) with h19 | h19
   ·have hs := hs.fix 17 (.bool true) rfl (vb h19)
    have hsh := ite_t hc20 h19
    refine st_val hs (y_fieldAddr (o' := 0) Try.runUnderlying28 rfl Try.sizeOf22 rfl rfl rfl) ⟨_, rfl, rfl⟩ rfl rfl fun a hs => ?_
    refine st_val hs (y_loadB1 (hw.ownAt 1 rfl) rfl Try.isAgg22 rfl) ⟨_, rfl, rfl⟩ rfl rfl fun a hs => ?_
    refine st_val hs (y_fieldAddr (o' := 0) Try.runUnderlying28 rfl Try.sizeOf22 rfl rfl rfl) ⟨_, rfl, rfl⟩ rfl rfl fun a hs => ?_
    refine st_val hs (y_loadB1 (hw.ownAt 0 rfl) rfl Try.isAgg22 rfl) ⟨_, rfl, rfl⟩ rfl rfl fun a hs => ?_
    obtain ⟨rv23, h22, hsh⟩ := bind_t hsh
    refine st_callR hs (ref05_Same_ok h22 hw.bdom (hw.bE 1 rfl) (hw.bE 0 rfl)) (do_call Try.call23 rfl) ⟨_, rfl, rfl⟩ rfl rfl ?_
    intro v27 Sv24 w a h25 h26 hs
    subst h26
    have hw := hw.callB h25
    refine st_val hs (y_pickT rfl rfl) trivial rfl rfl fun a hs => ?_
    refine wpList_nil ?_
    have hsh := Option.some.inj hsh
    subst hsh
    refine then_normal ?_
    exact ⟨S0, (hs.wk rfl), (hw.ft [] [] (by decide) rfl rfl)⟩
   ·have hs := hs.fix 17 (.bool false) rfl (vb h19)
    have hsh := ite_f hc20 h19
    refine st_skip hs rfl rfl rfl rfl rfl fun a hs => ?_
    refine st_skip hs rfl rfl rfl rfl rfl fun a hs => ?_
    refine st_skip hs rfl rfl rfl rfl rfl fun a hs => ?_
    refine st_skip hs rfl rfl rfl rfl rfl fun a hs => ?_
    refine st_skip hs rfl rfl rfl rfl rfl fun a hs => ?_
    refine st_val hs (y_pickF rfl rfl) trivial rfl rfl fun a hs => ?_
    refine wpList_nil ?_
    have hsh := Option.some.inj hsh
    subst hsh
    refine then_normal ?_
    exact ⟨S0, (hs.wk rfl), (hw.ft [] [] (by decide) rfl rfl)⟩
  ·rintro a w ⟨Sv21, hs, hw⟩
   refine st_val hs (y_assign rfl) trivial rfl rfl fun a hs => ?_
   refine wpList_nil ?_
   refine then_normal ?_
   have hsh := Option.some.inj hsh
   subst hsh
   refine wp_ret ?_
   exact ret1 hs rfl (rv_tmp rfl) (hw.ret rfl)

abbrev ref21_SameFeed_rd (w0 : World) (X : List Nat) (r : Bool) : (Nat → Prop) → World → Value → Prop := fun S w v => v = .bool r
set_option maxHeartbeats 4000000 in
set_option maxRecDepth 100000 in
theorem ref21_SameFeed_ok {w0 : World} {S0 : Nat → Prop} {p2 : Option Addr} {k3 : Nat} {p4 : Option Addr} {k5 : Nat} {p9 : Option Addr} {k10 : Nat} {p11 : Option Addr} {k12 : Nat} {a1 : Feed} {b8 : Feed} {r : Bool} (hsh : ref21_SameFeed a1 b8 = some r) (hS : ∀ b, S0 b → b < w0.heap.size) (h6 : (SlA p2 a1.Filter.Taps.length k3 a1.Filter.Taps).p S0 w0) (h7 : (SlA p4 a1.Past.length k5 a1.Past).p S0 w0) (h13 : (SlA p9 b8.Filter.Taps.length k10 b8.Filter.Taps).p S0 w0) (h14 : (SlA p11 b8.Past.length k12 b8.Past).p S0 w0) : Calls Try.prog 26 #[.agg #[.slice p2 a1.Filter.Taps.length k3, .int .i64 a1.Filter.Factor, .int .i64 a1.Filter.Shift, .slice p4 a1.Past.length k5, .int .i64 a1.Number], .agg #[.slice p9 b8.Filter.Taps.length k10, .int .i64 b8.Filter.Factor, .int .i64 b8.Filter.Shift, .slice p11 b8.Past.length k12, .int .i64 b8.Number]] w0 (Ret ([]) w0 S0 (ref21_SameFeed_rd w0 ([]) r)) := by
 refine calls_of_wp Try.func26 rfl ?_
 have hs := Sl.enter #[.agg #[.slice p2 a1.Filter.Taps.length k3, .int .i64 a1.Filter.Factor, .int .i64 a1.Filter.Shift, .slice p4 a1.Past.length k5, .int .i64 a1.Number], .agg #[.slice p9 b8.Filter.Taps.length k10, .int .i64 b8.Filter.Factor, .int .i64 b8.Filter.Shift, .slice p11 b8.Past.length k12, .int .i64 b8.Number]] 24 [(0, .agg #[.slice p2 a1.Filter.Taps.length k3, .int .i64 a1.Filter.Factor, .int .i64 a1.Filter.Shift, .slice p4 a1.Past.length k5, .int .i64 a1.Number]), (1, .agg #[.slice p9 b8.Filter.Taps.length k10, .int .i64 b8.Filter.Factor, .int .i64 b8.Filter.Shift, .slice p11 b8.Past.length k12, .int .i64 b8.Number])] rfl ⟨rfl, rfl, trivial⟩
 have hw := Wd.enter (E := []) hS (fun _ h => (by cases h))
 have hw := hw.addE h6
 have hw := hw.addE h7
 have hw := hw.addE h13
 have hw := hw.addE h14
 delta ref21_SameFeed at hsh
 refine wp_seq ?_
 refine wp_region_lit ?_
 refine w_box (cs := [.slice p2 a1.Filter.Taps.length k3, .int .i64 a1.Filter.Factor, .int .i64 a1.Filter.Shift, .slice p4 a1.Past.length k5, .int .i64 a1.Number]) hs hw rfl rfl rfl trivial ?_
 intro b15 a w hs hw
 refine w_box (cs := [.slice p9 b8.Filter.Taps.length k10, .int .i64 b8.Filter.Factor, .int .i64 b8.Filter.Shift, .slice p11 b8.Past.length k12, .int .i64 b8.Number]) hs hw rfl rfl rfl trivial ?_
 intro b16 a w hs hw
 refine st_val hs (y_assign rfl) trivial rfl rfl fun a hs => ?_
 refine wpList_nil ?_
 refine then_normal ?_
 refine wp_seq ?_
 refine wp_region_lit ?_
 refine st_val hs (y_fieldAddr (o' := 0) Try.runUnderlying51 rfl Try.sizeOf28 rfl rfl rfl) trivial rfl rfl fun a hs => ?_
 refine st_val hs (y_loadBA (hw.ownAt 1 rfl) rfl Try.isAgg28 Try.sizeOf28 rfl rfl) trivial rfl rfl fun a hs => ?_
 refine st_val hs (y_fieldAddr (o' := 0) Try.runUnderlying51 rfl Try.sizeOf28 rfl rfl rfl) trivial rfl rfl fun a hs => ?_
 refine st_val hs (y_loadBA (hw.ownAt 0 rfl) rfl Try.isAgg28 Try.sizeOf28 rfl rfl) trivial rfl rfl fun a hs => ?_
 obtain ⟨rv18, h17, hsh⟩ := bind_t hsh
 refine st_callR hs (ref21_Same_ok h17 hw.bdom (hw.bE 3 rfl) (hw.bE 1 rfl)) (do_call Try.call19 rfl) trivial rfl rfl ?_
 intro v22 Sv19 w a h20 h21 hs
 subst h21
 have hw := hw.callB h20
 refine st_val hs (y_move rfl) trivial rfl rfl fun a hs => ?_
 refine wpl_join 6 (fun a w1 => w = w1 ∧ Sl 24 [(2, .pointer (some ⟨b15, 0, none⟩)), (3, .pointer (some ⟨b16, 0, none⟩)), (16, .bool (rv18 && (a1.Number == b8.Number)))] a) ?_ ?_
 ·rcases Bool.eq_false_or_eq_true rv18 with h24 | h24
  ·have hs := hs.fix 10 (.bool true) rfl (vb h24)
   refine st_val hs (y_fieldAddr (o' := 4) Try.runUnderlying51 rfl Try.sizeOf3 rfl rfl rfl) ⟨_, rfl, rfl⟩ rfl rfl fun a hs => ?_
   refine st_val hs (y_loadB1 (hw.ownAt 1 rfl) rfl Try.isAgg3 rfl) ⟨_, rfl, rfl⟩ rfl rfl fun a hs => ?_
   refine st_val hs (y_fieldAddr (o' := 4) Try.runUnderlying51 rfl Try.sizeOf3 rfl rfl rfl) ⟨_, rfl, rfl⟩ rfl rfl fun a hs => ?_
   refine st_val hs (y_loadB1 (hw.ownAt 0 rfl) rfl Try.isAgg3 rfl) ⟨_, rfl, rfl⟩ rfl rfl fun a hs => ?_
   refine st_val hs (y_eql rfl rfl) ⟨_, rfl, rfl⟩ rfl rfl fun a hs => ?_
   refine st_val hs (y_pickT rfl rfl) trivial rfl rfl fun a hs => ?_
   refine wpList_nil ?_
   refine then_normal ?_
   exact ⟨rfl, (hs.fix 16 (.bool (rv18 && (a1.Number == b8.Number))) rfl (and_t h24)).weaken _ ⟨rfl, rfl, rfl, trivial⟩⟩
  ·have hs := hs.fix 10 (.bool false) rfl (vb h24)
   refine st_skip hs rfl rfl rfl rfl rfl fun a hs => ?_
   refine st_skip hs rfl rfl rfl rfl rfl fun a hs => ?_
   refine st_skip hs rfl rfl rfl rfl rfl fun a hs => ?_
   refine st_skip hs rfl rfl rfl rfl rfl fun a hs => ?_
   refine st_skip hs rfl rfl rfl rfl rfl fun a hs => ?_
   refine st_val hs (y_pickF rfl rfl) trivial rfl rfl fun a hs => ?_
   refine wpList_nil ?_
   refine then_normal ?_
   exact ⟨rfl, (hs.fix 16 (.bool (rv18 && (a1.Number == b8.Number))) rfl (and_f h24)).weaken _ ⟨rfl, rfl, rfl, trivial⟩⟩
 ·rintro a w1 ⟨h42, hs⟩
  subst h42
  refine st_val hs (y_move rfl) trivial rfl rfl fun a hs => ?_
  obtain ⟨c33, hc33, hsh⟩ := bind_t hsh
  refine wpl_join 6 (fun a w => ∃ (Sv34 : Nat → Prop), Sl 24 [(23, .bool c33)] a ∧ Wd ⟨w0, S0, []⟩ Sv34 [] [] w) ?_ ?_
  ·rcases Bool.eq_false_or_eq_true (rv18 && (a1.Number == b8.Number)) with h32 | h32
   ·have hs := hs.fix 17 (.bool true) rfl (vb h32)
    have hsh := ite_t hc33 h32
    refine st_val hs (y_fieldAddr (o' := 3) Try.runUnderlying51 rfl Try.sizeOf22 rfl rfl rfl) ⟨_, rfl, rfl⟩ rfl rfl fun a hs => ?_
    refine st_val hs (y_loadB1 (hw.ownAt 1 rfl) rfl Try.isAgg22 rfl) ⟨_, rfl, rfl⟩ rfl rfl fun a hs => ?_
    refine st_val hs (y_fieldAddr (o' := 3) Try.runUnderlying51 rfl Try.sizeOf22 rfl rfl rfl) ⟨_, rfl, rfl⟩ rfl rfl fun a hs => ?_
    refine st_val hs (y_loadB1 (hw.ownAt 0 rfl) rfl Try.isAgg22 rfl) ⟨_, rfl, rfl⟩ rfl rfl fun a hs => ?_
    obtain ⟨rv36, h35, hsh⟩ := bind_t hsh
    refine st_callR hs (ref05_Same_ok h35 hw.bdom (hw.bE 2 rfl) (hw.bE 0 rfl)) (do_call Try.call23 rfl) ⟨_, rfl, rfl⟩ rfl rfl ?_
    intro v40 Sv37 w a h38 h39 hs
    subst h39
    have hw := hw.callB h38
    refine st_val hs (y_pickT rfl rfl) trivial rfl rfl fun a hs => ?_
    refine wpList_nil ?_
    have hsh := Option.some.inj hsh
    subst hsh
    refine then_normal ?_
    exact ⟨S0, (hs.wk rfl), (hw.ft [] [] (by decide) rfl rfl)⟩
   ·have hs := hs.fix 17 (.bool false) rfl (vb h32)
    have hsh := ite_f hc33 h32
    refine st_skip hs rfl rfl rfl rfl rfl fun a hs => ?_
    refine st_skip hs rfl rfl rfl rfl rfl fun a hs => ?_
    refine st_skip hs rfl rfl rfl rfl rfl fun a hs => ?_
    refine st_skip hs rfl rfl rfl rfl rfl fun a hs => ?_
    refine st_skip hs rfl rfl rfl rfl rfl fun a hs => ?_
    refine st_val hs (y_pickF rfl rfl) trivial rfl rfl fun a hs => ?_
    refine wpList_nil ?_
    have hsh := Option.some.inj hsh
    subst hsh
    refine then_normal ?_
    exact ⟨S0, (hs.wk rfl), (hw.ft [] [] (by decide) rfl rfl)⟩
  ·rintro a w ⟨Sv34, hs, hw⟩
   refine st_val hs (y_assign rfl) trivial rfl rfl fun a hs => ?_
   refine wpList_nil ?_
   refine then_normal ?_
   have hsh := Option.some.inj hsh
   subst hsh
   refine wp_ret ?_
   exact ret1 hs rfl (rv_tmp rfl) (hw.ret rfl)

end Go.Proofs.Ytmihimhknllmcaa.Wk

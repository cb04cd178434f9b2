/- The walks of FilterExact, part 3: each Go function computes what its plain program computes. Printed by a program of ours. -/
import Derived.Test.YtmihimhknllmcaaProg
import Derived.Test.YtmihimhknllmcaaDat
import Derived.Test.YtmihimhknllmcaaSh
import Derived.Test.YtmihimhknllmcaaLibL
import Derived.KernelRfl
import Derived.Test.YtmihimhknllmcaaWFilterExact2
namespace Go.Proofs.Ytmihimhknllmcaa.Wk
open Go Go.RowKit Go.Proofs Go.Proofs.Ytmihimhknllmcaa.Sh
set_option linter.unusedVariables false
set_option linter.unusedSimpArgs false

abbrev ref18_terms_rd (w0 : World) (X : List Nat) (r : Bool) : (Nat → Prop) → World → Value → Prop := fun S w v => v = .bool r
set_option maxHeartbeats 4000000 in
set_option maxRecDepth 100000 in
theorem ref18_terms_ok {w0 : World} {S0 : Nat → Prop} {p2 : Option Addr} {k3 : Nat} {l1 : (List Int)} {r : Bool} (hsh : ref18_terms l1 = some r) (hS : ∀ b, S0 b → b < w0.heap.size) (h4 : (SlA p2 l1.length k3 l1).p S0 w0) : Calls Try.prog 73 #[.slice p2 l1.length k3] w0 (Ret ([]) w0 S0 (ref18_terms_rd w0 ([]) r)) := by
 refine calls_of_wp Try.func73 rfl ?_
 have hs := Sl.enter #[.slice p2 l1.length k3] 16 [(0, .slice p2 l1.length k3)] rfl ⟨rfl, trivial⟩
 have hw := Wd.enter (E := []) hS (fun _ h => (by cases h))
 have hw := hw.addE h4
 delta ref18_terms at hsh
 refine wp_seq ?_
 refine wp_region_lit ?_
 refine st_val hs (y_assign rfl) trivial rfl rfl fun a hs => ?_
 refine wpList_nil ?_
 refine then_normal ?_
 refine wp_seq ?_
 refine wp_seq ?_
 refine wp_region_lit ?_
 refine st_val hs (y_assign rfl) trivial rfl rfl fun a hs => ?_
 refine wpList_nil ?_
 refine then_normal ?_
 refine wp_block ?_
 refine wp_while (fun sv82 a w => ∃ (Sv132 : Nat → Prop), Sl 16 [(0, .slice p2 l1.length k3), (3, .int .i64 sv82)] a ∧ Wd ⟨w0, S0, []⟩ Sv132 [] [SlA p2 l1.length k3 l1] w) 0 hsh ⟨S0, (hs.wk rfl), (hw.ft [] [0] (by decide) rfl rfl)⟩ ?_
 repeat clear hsh
 rintro sv82 a w tv158 ⟨Sv132, hs, hw⟩ hsh hd157
 delta ref18_terms_l2 at hsh
 refine wp_seq ?_
 refine wp_seq ?_
 refine wp_region_lit ?_
 refine st_val hs (y_move rfl) trivial rfl rfl fun a hs => ?_
 refine st_val hs (y_move rfl) trivial rfl rfl fun a hs => ?_
 refine st_val hs (y_len Try.runUnderlying22 rfl) trivial rfl rfl fun a hs => ?_
 refine st_val hs (y_lss rfl rfl) trivial rfl rfl fun a hs => ?_
 refine wpList_nil ?_
 refine then_normal ?_
 refine wp_cond_split (hs.ev rfl) (fun h162 => ?_) (fun h162 => ?_)
 ·have hsh := ite_t hsh h162
  refine wp_skip ?_
  refine then_normal ?_
  refine wp_seq ?_
  refine wp_block ?_
  refine wp_seq ?_
  refine wp_region_lit ?_
  refine st_val hs (y_move rfl) trivial rfl rfl fun a hs => ?_
  refine st_val hs (y_move rfl) trivial rfl rfl fun a hs => ?_
  obtain ⟨x186, h184, hsh⟩ := bind_t hsh
  obtain ⟨b192, o193, q190, c191, h194, h187, h188, h189, h185⟩ := hw.elemV 0 rfl h184
  have hsv195 := hs
  have hwv196 := hw
  subst h194
  have hs := hsv195
  have hw := hwv196
  obtain ⟨_, rfl, rfl⟩ := h185
  have hw := hw.addE h189
  refine st_val hs (y_indexAt Try.runUnderlying22 Try.sizeOf3 rfl rfl h187.1 h187.2 h188) trivial rfl rfl fun a hs => ?_
  refine st_val hs (y_loadE1 (j := 0) (hw.ceAt 0 rfl) rfl Try.isAgg3 rfl) trivial rfl rfl fun a hs => ?_
  obtain ⟨rv198, h197, hsh⟩ := bind_t hsh
  refine st_callR hs (ref01_In_ok h197 hw.bdom) (do_call Try.call43 rfl) trivial rfl rfl ?_
  intro v202 Sv199 w a h200 h201 hs
  subst h201
  have hw := hw.callB h200
  refine st_val hs (y_not rfl) trivial rfl rfl fun a hs => ?_
  refine wpList_nil ?_
  refine then_normal ?_
  refine wp_cond_split (hs.ev rfl) (fun h205 => ?_) (fun h205 => ?_)
  ·have hsh := ite_t hsh h205
   refine wp_seq ?_
   refine wp_region_lit ?_
   refine st_val hs (y_assign rfl) trivial rfl rfl fun a hs => ?_
   refine wpList_nil ?_
   refine then_normal ?_
   have hsh := Option.some.inj hsh
   subst hsh
   have h206 := hd157 _ rfl
   subst h206
   refine wp_ret ?_
   refine blk_ret ?_
   refine then_ret ?_
   refine then_ret ?_
   refine blk_ret ?_
   refine then_ret ?_
   exact ret1 hs rfl (rv_tmp rfl) (hw.ret rfl)
  ·have hsh := ite_f hsh h205
   refine wp_skip ?_
   refine blk_normal ?_
   refine then_normal ?_
   refine wp_region_lit ?_
   refine st_val hs (y_move rfl) trivial rfl rfl fun a hs => ?_
   refine st_val hs (y_add rfl rfl) trivial rfl rfl fun a hs => ?_
   obtain ⟨i208, h207, hsh⟩ := bind_t hsh
   refine st_val hs (y_assignI rfl h207) trivial rfl rfl fun a hs => ?_
   refine wpList_nil ?_
   refine then_normal ?_
   exact ⟨_, (Option.some.inj hsh).symm, Sv132, (hs.wk rfl), (hw.ft [] [1] (by decide) rfl rfl)⟩
 ·have hsh := ite_f hsh h162
  obtain ⟨rv209, hsh, h210⟩ := map_t hsh
  have h210 := (hd157 _ h210.symm).symm
  subst h210
  refine wp_exit ?_
  refine then_exit ?_
  refine then_exit ?_
  refine blk_exit ?_
  refine then_normal ?_
  refine wp_seq ?_
  refine wp_region_lit ?_
  refine st_val hs (y_assign rfl) trivial rfl rfl fun a hs => ?_
  refine wpList_nil ?_
  refine then_normal ?_
  have hsh := Option.some.inj hsh
  subst hsh
  refine wp_ret ?_
  exact ret1 hs rfl (rv_tmp rfl) (hw.ret rfl)

abbrev ref18_total_rd (w0 : World) (X : List Nat) (r : Int) : (Nat → Prop) → World → Value → Prop := fun S w v => v = .int .i64 r
set_option maxHeartbeats 4000000 in
set_option maxRecDepth 100000 in
theorem ref18_total_ok {w0 : World} {S0 : Nat → Prop} {p2 : Option Addr} {k3 : Nat} {l1 : (List Int)} {r : Int} (hsh : ref18_total l1 = some r) (hS : ∀ b, S0 b → b < w0.heap.size) (h4 : (SlA p2 l1.length k3 l1).p S0 w0) : Calls Try.prog 74 #[.slice p2 l1.length k3] w0 (Ret ([]) w0 S0 (ref18_total_rd w0 ([]) r)) := by
 refine calls_of_wp Try.func74 rfl ?_
 have hs := Sl.enter #[.slice p2 l1.length k3] 18 [(0, .slice p2 l1.length k3)] rfl ⟨rfl, trivial⟩
 have hw := Wd.enter (E := []) hS (fun _ h => (by cases h))
 have hw := hw.addE h4
 delta ref18_total at hsh
 refine wp_seq ?_
 refine wp_region_lit ?_
 refine st_val hs (y_assign rfl) trivial rfl rfl fun a hs => ?_
 refine wpList_nil ?_
 refine then_normal ?_
 refine wp_seq ?_
 refine wp_region_lit ?_
 refine st_val hs (y_assign rfl) trivial rfl rfl fun a hs => ?_
 refine wpList_nil ?_
 refine then_normal ?_
 refine wp_seq ?_
 refine wp_seq ?_
 refine wp_region_lit ?_
 refine st_val hs (y_assign rfl) trivial rfl rfl fun a hs => ?_
 refine wpList_nil ?_
 refine then_normal ?_
 obtain ⟨e65, h102, hsh⟩ := bind_t hsh
 refine wp_join (fun a w => ∃ (Sv66 : Nat → Prop), Sl 18 [(3, .int .i64 e65)] a ∧ Wd ⟨w0, S0, []⟩ Sv66 [] [] w) ?_ ?_
 ·refine wp_block ?_
  refine wp_while (fun sv5 a w => ∃ (Sv43 : Nat → Prop), Sl 18 [(0, .slice p2 l1.length k3), (3, .int .i64 sv5.1), (4, .int .i64 sv5.2)] a ∧ Wd ⟨w0, S0, []⟩ Sv43 [] [SlA p2 l1.length k3 l1] w) (0, 0) h102 ⟨S0, (hs.wk rfl), (hw.ft [] [0] (by decide) rfl rfl)⟩ ?_
  clear h102
  repeat clear hsh
  rintro sv5 a w tv63 ⟨Sv43, hs, hw⟩ hsh hd62
  delta ref18_total_l1 at hsh
  refine wp_seq ?_
  refine wp_seq ?_
  refine wp_region_lit ?_
  refine st_val hs (y_move rfl) trivial rfl rfl fun a hs => ?_
  refine st_val hs (y_move rfl) trivial rfl rfl fun a hs => ?_
  refine st_val hs (y_len Try.runUnderlying22 rfl) trivial rfl rfl fun a hs => ?_
  refine st_val hs (y_lss rfl rfl) trivial rfl rfl fun a hs => ?_
  refine wpList_nil ?_
  refine then_normal ?_
  refine wp_cond_split (hs.ev rfl) (fun h68 => ?_) (fun h68 => ?_)
  ·have hsh := ite_t hsh h68
   refine wp_skip ?_
   refine then_normal ?_
   refine wp_seq ?_
   refine wp_block ?_
   refine wp_region_lit ?_
   refine st_val hs (y_move rfl) trivial rfl rfl fun a hs => ?_
   refine st_val hs (y_move rfl) trivial rfl rfl fun a hs => ?_
   refine st_val hs (y_move rfl) trivial rfl rfl fun a hs => ?_
   obtain ⟨x86, h84, hsh⟩ := bind_t hsh
   obtain ⟨b92, o93, q90, c91, h94, h87, h88, h89, h85⟩ := hw.elemV 0 rfl h84
   have hsv95 := hs
   have hwv96 := hw
   subst h94
   have hs := hsv95
   have hw := hwv96
   obtain ⟨_, rfl, rfl⟩ := h85
   have hw := hw.addE h89
   refine st_val hs (y_indexAt Try.runUnderlying22 Try.sizeOf3 rfl rfl h87.1 h87.2 h88) trivial rfl rfl fun a hs => ?_
   refine st_val hs (y_loadE1 (j := 0) (hw.ceAt 0 rfl) rfl Try.isAgg3 rfl) trivial rfl rfl fun a hs => ?_
   refine st_val hs (y_add rfl rfl) trivial rfl rfl fun a hs => ?_
   obtain ⟨n98, h97, hsh⟩ := bind_t hsh
   refine st_val hs (y_assignI rfl h97) trivial rfl rfl fun a hs => ?_
   refine wpList_nil ?_
   refine blk_normal ?_
   refine then_normal ?_
   refine wp_region_lit ?_
   refine st_val hs (y_move rfl) trivial rfl rfl fun a hs => ?_
   refine st_val hs (y_add rfl rfl) trivial rfl rfl fun a hs => ?_
   obtain ⟨i100, h99, hsh⟩ := bind_t hsh
   refine st_val hs (y_assignI rfl h99) trivial rfl rfl fun a hs => ?_
   refine wpList_nil ?_
   refine then_normal ?_
   exact ⟨_, (Option.some.inj hsh).symm, Sv43, (hs.wk rfl), (hw.ft [] [1] (by decide) rfl rfl)⟩
  ·have hsh := ite_f hsh h68
   refine wp_exit ?_
   refine then_exit ?_
   refine then_exit ?_
   refine blk_exit ?_
   have hsh := Option.some.inj hsh
   subst hsh
   have h101 := hd62 _ rfl
   subst h101
   refine then_normal ?_
   exact ⟨Sv43, (hs.wk rfl), (hw.ft [] [] (by decide) rfl rfl)⟩
 ·rintro a w ⟨Sv66, hs, hw⟩
  refine then_normal ?_
  refine wp_seq ?_
  refine wp_region_lit ?_
  refine st_val hs (y_move rfl) trivial rfl rfl fun a hs => ?_
  refine st_val hs (y_assign rfl) trivial rfl rfl fun a hs => ?_
  refine wpList_nil ?_
  refine then_normal ?_
  have hsh := Option.some.inj hsh
  subst hsh
  refine wp_ret ?_
  exact ret1 hs rfl (rv_tmp rfl) (hw.ret rfl)

abbrev ref18_ValidStage_rd (w0 : World) (X : List Nat) (r : Bool) : (Nat → Prop) → World → Value → Prop := fun S w v => v = .bool r
set_option maxHeartbeats 4000000 in
set_option maxRecDepth 100000 in
theorem ref18_ValidStage_ok {w0 : World} {S0 : Nat → Prop} {p2 : Option Addr} {k3 : Nat} {s1 : Stage} {r : Bool} (hsh : ref18_ValidStage s1 = some r) (hS : ∀ b, S0 b → b < w0.heap.size) (h4 : (SlA p2 s1.Taps.length k3 s1.Taps).p S0 w0) : Calls Try.prog 57 #[.agg #[.int .i64 s1.Kind, .int .i64 s1.Num.e0, .int .i64 s1.Num.e1, .int .i64 s1.Num.e2, .int .i64 s1.Den.e0, .int .i64 s1.Den.e1, .int .i64 s1.Den.e2, .slice p2 s1.Taps.length k3, .int .i64 s1.Factor, .int .i64 s1.Shift]] w0 (Ret ([]) w0 S0 (ref18_ValidStage_rd w0 ([]) r)) := by
 refine calls_of_wp Try.func57 rfl ?_
 have hs := Sl.enter #[.agg #[.int .i64 s1.Kind, .int .i64 s1.Num.e0, .int .i64 s1.Num.e1, .int .i64 s1.Num.e2, .int .i64 s1.Den.e0, .int .i64 s1.Den.e1, .int .i64 s1.Den.e2, .slice p2 s1.Taps.length k3, .int .i64 s1.Factor, .int .i64 s1.Shift]] 117 [(0, .agg #[.int .i64 s1.Kind, .int .i64 s1.Num.e0, .int .i64 s1.Num.e1, .int .i64 s1.Num.e2, .int .i64 s1.Den.e0, .int .i64 s1.Den.e1, .int .i64 s1.Den.e2, .slice p2 s1.Taps.length k3, .int .i64 s1.Factor, .int .i64 s1.Shift])] rfl ⟨rfl, trivial⟩
 have hw := Wd.enter (E := []) hS (fun _ h => (by cases h))
 have hw := hw.addE h4
 delta ref18_ValidStage at hsh
 refine wp_seq ?_
 refine wp_region_lit ?_
 refine w_box (cs := [.int .i64 s1.Kind, .int .i64 s1.Num.e0, .int .i64 s1.Num.e1, .int .i64 s1.Num.e2, .int .i64 s1.Den.e0, .int .i64 s1.Den.e1, .int .i64 s1.Den.e2, .slice p2 s1.Taps.length k3, .int .i64 s1.Factor, .int .i64 s1.Shift]) hs hw rfl rfl rfl trivial ?_
 intro b5 a w hs hw
 refine st_val hs (y_assign rfl) trivial rfl rfl fun a hs => ?_
 refine wpList_nil ?_
 refine then_normal ?_
 refine wp_seq ?_
 refine wp_region_lit ?_
 refine st_val hs (y_fieldAddr (o' := 7) Try.runUnderlying45 rfl Try.sizeOf22 rfl rfl rfl) trivial rfl rfl fun a hs => ?_
 refine st_val hs (y_loadB1 (hw.ownAt 0 rfl) rfl Try.isAgg22 rfl) trivial rfl rfl fun a hs => ?_
 refine st_val hs (y_len Try.runUnderlying22 rfl) trivial rfl rfl fun a hs => ?_
 refine st_val hs (y_eql rfl rfl) trivial rfl rfl fun a hs => ?_
 refine st_val hs (y_move rfl) trivial rfl rfl fun a hs => ?_
 refine wpl_join 4 (fun a w1 => w = w1 ∧ Sl 117 [(1, .pointer (some ⟨b5, 0, none⟩)), (12, .bool (((s1.Taps.length : Int) == 0) && (s1.Factor == 0)))] a) ?_ ?_
 ·rcases Bool.eq_false_or_eq_true ((s1.Taps.length : Int) == 0) with h6 | h6
  ·have hs := hs.fix 8 (.bool true) rfl (vb h6)
   refine st_val hs (y_fieldAddr (o' := 8) Try.runUnderlying45 rfl Try.sizeOf3 rfl rfl rfl) ⟨_, rfl, rfl⟩ rfl rfl fun a hs => ?_
   refine st_val hs (y_loadB1 (hw.ownAt 0 rfl) rfl Try.isAgg3 rfl) ⟨_, rfl, rfl⟩ rfl rfl fun a hs => ?_
   refine st_val hs (y_eql rfl rfl) ⟨_, rfl, rfl⟩ rfl rfl fun a hs => ?_
   refine st_val hs (y_pickT rfl rfl) trivial rfl rfl fun a hs => ?_
   refine wpList_nil ?_
   refine then_normal ?_
   exact ⟨rfl, (hs.fix 12 (.bool (((s1.Taps.length : Int) == 0) && (s1.Factor == 0))) rfl (and_t h6)).weaken _ ⟨rfl, rfl, trivial⟩⟩
  ·have hs := hs.fix 8 (.bool false) rfl (vb h6)
   refine st_skip hs rfl rfl rfl rfl rfl fun a hs => ?_
   refine st_skip hs rfl rfl rfl rfl rfl fun a hs => ?_
   refine st_skip hs rfl rfl rfl rfl rfl fun a hs => ?_
   refine st_val hs (y_pickF rfl rfl) trivial rfl rfl fun a hs => ?_
   refine wpList_nil ?_
   refine then_normal ?_
   exact ⟨rfl, (hs.fix 12 (.bool (((s1.Taps.length : Int) == 0) && (s1.Factor == 0))) rfl (and_f h6)).weaken _ ⟨rfl, rfl, trivial⟩⟩
 ·rintro a w1 ⟨h738, hs⟩
  subst h738
  refine st_val hs (y_move rfl) trivial rfl rfl fun a hs => ?_
  refine wpl_join 4 (fun a w1 => w = w1 ∧ Sl 117 [(1, .pointer (some ⟨b5, 0, none⟩)), (17, .bool ((((s1.Taps.length : Int) == 0) && (s1.Factor == 0)) && (s1.Shift == 0)))] a) ?_ ?_
  ·rcases Bool.eq_false_or_eq_true (((s1.Taps.length : Int) == 0) && (s1.Factor == 0)) with h7 | h7
   ·have hs := hs.fix 13 (.bool true) rfl (vb h7)
    refine st_val hs (y_fieldAddr (o' := 9) Try.runUnderlying45 rfl Try.sizeOf3 rfl rfl rfl) ⟨_, rfl, rfl⟩ rfl rfl fun a hs => ?_
    refine st_val hs (y_loadB1 (hw.ownAt 0 rfl) rfl Try.isAgg3 rfl) ⟨_, rfl, rfl⟩ rfl rfl fun a hs => ?_
    refine st_val hs (y_eql rfl rfl) ⟨_, rfl, rfl⟩ rfl rfl fun a hs => ?_
    refine st_val hs (y_pickT rfl rfl) trivial rfl rfl fun a hs => ?_
    refine wpList_nil ?_
    refine then_normal ?_
    exact ⟨rfl, (hs.fix 17 (.bool ((((s1.Taps.length : Int) == 0) && (s1.Factor == 0)) && (s1.Shift == 0))) rfl (and_t h7)).weaken _ ⟨rfl, rfl, trivial⟩⟩
   ·have hs := hs.fix 13 (.bool false) rfl (vb h7)
    refine st_skip hs rfl rfl rfl rfl rfl fun a hs => ?_
    refine st_skip hs rfl rfl rfl rfl rfl fun a hs => ?_
    refine st_skip hs rfl rfl rfl rfl rfl fun a hs => ?_
    refine st_val hs (y_pickF rfl rfl) trivial rfl rfl fun a hs => ?_
    refine wpList_nil ?_
    refine then_normal ?_
    exact ⟨rfl, (hs.fix 17 (.bool ((((s1.Taps.length : Int) == 0) && (s1.Factor == 0)) && (s1.Shift == 0))) rfl (and_f h7)).weaken _ ⟨rfl, rfl, trivial⟩⟩
  ·rintro a w1 ⟨h737, hs⟩
   subst h737
   refine st_val hs (y_assign rfl) trivial rfl rfl fun a hs => ?_
   refine wpList_nil ?_
   refine then_normal ?_
   refine wp_seq ?_
   refine wp_seq ?_
   refine wp_region_lit ?_
   refine st_val hs (y_fieldAddr (o' := 0) Try.runUnderlying45 rfl Try.sizeOf3 rfl rfl rfl) trivial rfl rfl fun a hs => ?_
   refine st_val hs (y_loadB1 (hw.ownAt 0 rfl) rfl Try.isAgg3 rfl) trivial rfl rfl fun a hs => ?_
   refine wpList_nil ?_
   refine then_normal ?_
   refine wp_block ?_
   refine wp_seq ?_
   refine wp_region_lit ?_
   refine st_val hs (y_eql rfl rfl) trivial rfl rfl fun a hs => ?_
   refine st_val hs (y_assign rfl) trivial rfl rfl fun a hs => ?_
   refine wpList_nil ?_
   refine then_normal ?_
   refine wp_cond_split (hs.ev rfl) (fun h350 => ?_) (fun h350 => ?_)
   ·have hsh := ite_t hsh h350
    refine wp_seq ?_
    refine wp_region_lit ?_
    refine st_val hs (y_move rfl) trivial rfl rfl fun a hs => ?_
    refine st_val hs (y_move rfl) trivial rfl rfl fun a hs => ?_
    obtain ⟨c359, hc359, hsh⟩ := bind_t hsh
    refine wpl_join 5 (fun a w => ∃ (Sv360 : Nat → Prop), Sl 117 [(1, .pointer (some ⟨b5, 0, none⟩)), (28, .bool c359)] a ∧ Wd ⟨w0, S0, []⟩ Sv360 [.box b5 [.int .i64 s1.Kind, .int .i64 s1.Num.e0, .int .i64 s1.Num.e1, .int .i64 s1.Num.e2, .int .i64 s1.Den.e0, .int .i64 s1.Den.e1, .int .i64 s1.Den.e2, .slice p2 s1.Taps.length k3, .int .i64 s1.Factor, .int .i64 s1.Shift] 45] [SlA p2 s1.Taps.length k3 s1.Taps] w) ?_ ?_
    ·rcases Bool.eq_false_or_eq_true ((((s1.Taps.length : Int) == 0) && (s1.Factor == 0)) && (s1.Shift == 0)) with h358 | h358
     ·have hs := hs.fix 23 (.bool true) rfl (vb h358)
      have hsh := ite_t hc359 h358
      refine st_val hs (y_fieldAddr (o' := 1) Try.runUnderlying45 rfl Try.sizeOf43 rfl rfl rfl) ⟨_, rfl, rfl⟩ rfl rfl fun a hs => ?_
      refine st_val hs (y_indexAtA (q := 1) Try.runUnderlying43 Try.sizeOf3 rfl rfl (by decide) (by decide) rfl) ⟨_, rfl, rfl⟩ rfl rfl fun a hs => ?_
      refine st_val hs (y_loadB1 (hw.ownAt 0 rfl) rfl Try.isAgg3 rfl) ⟨_, rfl, rfl⟩ rfl rfl fun a hs => ?_
      obtain ⟨rv362, h361, hsh⟩ := bind_t hsh
      refine st_callR hs (ref01_In_ok h361 hw.bdom) (do_call Try.call43 rfl) ⟨_, rfl, rfl⟩ rfl rfl ?_
      intro v366 Sv363 w a h364 h365 hs
      subst h365
      have hw := hw.callB h364
      refine st_val hs (y_pickT rfl rfl) trivial rfl rfl fun a hs => ?_
      refine wpList_nil ?_
      have hsh := Option.some.inj hsh
      subst hsh
      refine then_normal ?_
      exact ⟨S0, (hs.wk rfl), (hw.ft [0] [0] (by decide) rfl rfl)⟩
     ·have hs := hs.fix 23 (.bool false) rfl (vb h358)
      have hsh := ite_f hc359 h358
      refine st_skip hs rfl rfl rfl rfl rfl fun a hs => ?_
      refine st_skip hs rfl rfl rfl rfl rfl fun a hs => ?_
      refine st_skip hs rfl rfl rfl rfl rfl fun a hs => ?_
      refine st_skip hs rfl rfl rfl rfl rfl fun a hs => ?_
      refine st_val hs (y_pickF rfl rfl) trivial rfl rfl fun a hs => ?_
      refine wpList_nil ?_
      have hsh := Option.some.inj hsh
      subst hsh
      refine then_normal ?_
      exact ⟨S0, (hs.wk rfl), (hw.ft [0] [0] (by decide) rfl rfl)⟩
    ·rintro a w ⟨Sv360, hs, hw⟩
     refine st_val hs (y_move rfl) trivial rfl rfl fun a hs => ?_
     obtain ⟨c376, hc376, hsh⟩ := bind_t hsh
     refine wpl_join 5 (fun a w => ∃ (Sv377 : Nat → Prop), Sl 117 [(1, .pointer (some ⟨b5, 0, none⟩)), (34, .bool c376)] a ∧ Wd ⟨w0, S0, []⟩ Sv377 [.box b5 [.int .i64 s1.Kind, .int .i64 s1.Num.e0, .int .i64 s1.Num.e1, .int .i64 s1.Num.e2, .int .i64 s1.Den.e0, .int .i64 s1.Den.e1, .int .i64 s1.Den.e2, .slice p2 s1.Taps.length k3, .int .i64 s1.Factor, .int .i64 s1.Shift] 45] [SlA p2 s1.Taps.length k3 s1.Taps] w) ?_ ?_
     ·rcases Bool.eq_false_or_eq_true c359 with h375 | h375
      ·have hs := hs.fix 29 (.bool true) rfl (vb h375)
       have hsh := ite_t hc376 h375
       refine st_val hs (y_fieldAddr (o' := 4) Try.runUnderlying45 rfl Try.sizeOf43 rfl rfl rfl) ⟨_, rfl, rfl⟩ rfl rfl fun a hs => ?_
       refine st_val hs (y_indexAtA (q := 4) Try.runUnderlying43 Try.sizeOf3 rfl rfl (by decide) (by decide) rfl) ⟨_, rfl, rfl⟩ rfl rfl fun a hs => ?_
       refine st_val hs (y_loadB1 (hw.ownAt 0 rfl) rfl Try.isAgg3 rfl) ⟨_, rfl, rfl⟩ rfl rfl fun a hs => ?_
       obtain ⟨rv379, h378, hsh⟩ := bind_t hsh
       refine st_callR hs (ref01_In_ok h378 hw.bdom) (do_call Try.call43 rfl) ⟨_, rfl, rfl⟩ rfl rfl ?_
       intro v383 Sv380 w a h381 h382 hs
       subst h382
       have hw := hw.callB h381
       refine st_val hs (y_pickT rfl rfl) trivial rfl rfl fun a hs => ?_
       refine wpList_nil ?_
       have hsh := Option.some.inj hsh
       subst hsh
       refine then_normal ?_
       exact ⟨Sv360, (hs.wk rfl), (hw.ft [0] [0] (by decide) rfl rfl)⟩
      ·have hs := hs.fix 29 (.bool false) rfl (vb h375)
       have hsh := ite_f hc376 h375
       refine st_skip hs rfl rfl rfl rfl rfl fun a hs => ?_
       refine st_skip hs rfl rfl rfl rfl rfl fun a hs => ?_
       refine st_skip hs rfl rfl rfl rfl rfl fun a hs => ?_
       refine st_skip hs rfl rfl rfl rfl rfl fun a hs => ?_
       refine st_val hs (y_pickF rfl rfl) trivial rfl rfl fun a hs => ?_
       refine wpList_nil ?_
       have hsh := Option.some.inj hsh
       subst hsh
       refine then_normal ?_
       exact ⟨Sv360, (hs.wk rfl), (hw.ft [0] [0] (by decide) rfl rfl)⟩
     ·rintro a w ⟨Sv377, hs, hw⟩
      refine st_val hs (y_move rfl) trivial rfl rfl fun a hs => ?_
      refine wpl_join 5 (fun a w1 => w = w1 ∧ Sl 117 [(1, .pointer (some ⟨b5, 0, none⟩)), (40, .bool (c376 && (s1.Num.e1 == 0)))] a) ?_ ?_
      ·rcases Bool.eq_false_or_eq_true c376 with h385 | h385
       ·have hs := hs.fix 35 (.bool true) rfl (vb h385)
        refine st_val hs (y_fieldAddr (o' := 1) Try.runUnderlying45 rfl Try.sizeOf43 rfl rfl rfl) ⟨_, rfl, rfl⟩ rfl rfl fun a hs => ?_
        refine st_val hs (y_indexAtA (q := 2) Try.runUnderlying43 Try.sizeOf3 rfl rfl (by decide) (by decide) rfl) ⟨_, rfl, rfl⟩ rfl rfl fun a hs => ?_
        refine st_val hs (y_loadB1 (hw.ownAt 0 rfl) rfl Try.isAgg3 rfl) ⟨_, rfl, rfl⟩ rfl rfl fun a hs => ?_
        refine st_val hs (y_eql rfl rfl) ⟨_, rfl, rfl⟩ rfl rfl fun a hs => ?_
        refine st_val hs (y_pickT rfl rfl) trivial rfl rfl fun a hs => ?_
        refine wpList_nil ?_
        refine then_normal ?_
        exact ⟨rfl, (hs.fix 40 (.bool (c376 && (s1.Num.e1 == 0))) rfl (and_t h385)).weaken _ ⟨rfl, rfl, trivial⟩⟩
       ·have hs := hs.fix 35 (.bool false) rfl (vb h385)
        refine st_skip hs rfl rfl rfl rfl rfl fun a hs => ?_
        refine st_skip hs rfl rfl rfl rfl rfl fun a hs => ?_
        refine st_skip hs rfl rfl rfl rfl rfl fun a hs => ?_
        refine st_skip hs rfl rfl rfl rfl rfl fun a hs => ?_
        refine st_val hs (y_pickF rfl rfl) trivial rfl rfl fun a hs => ?_
        refine wpList_nil ?_
        refine then_normal ?_
        exact ⟨rfl, (hs.fix 40 (.bool (c376 && (s1.Num.e1 == 0))) rfl (and_f h385)).weaken _ ⟨rfl, rfl, trivial⟩⟩
      ·rintro a w1 ⟨h392, hs⟩
       subst h392
       refine st_val hs (y_move rfl) trivial rfl rfl fun a hs => ?_
       refine wpl_join 5 (fun a w1 => w = w1 ∧ Sl 117 [(1, .pointer (some ⟨b5, 0, none⟩)), (46, .bool ((c376 && (s1.Num.e1 == 0)) && (s1.Num.e2 == 0)))] a) ?_ ?_
       ·rcases Bool.eq_false_or_eq_true (c376 && (s1.Num.e1 == 0)) with h386 | h386
        ·have hs := hs.fix 41 (.bool true) rfl (vb h386)
         refine st_val hs (y_fieldAddr (o' := 1) Try.runUnderlying45 rfl Try.sizeOf43 rfl rfl rfl) ⟨_, rfl, rfl⟩ rfl rfl fun a hs => ?_
         refine st_val hs (y_indexAtA (q := 3) Try.runUnderlying43 Try.sizeOf3 rfl rfl (by decide) (by decide) rfl) ⟨_, rfl, rfl⟩ rfl rfl fun a hs => ?_
         refine st_val hs (y_loadB1 (hw.ownAt 0 rfl) rfl Try.isAgg3 rfl) ⟨_, rfl, rfl⟩ rfl rfl fun a hs => ?_
         refine st_val hs (y_eql rfl rfl) ⟨_, rfl, rfl⟩ rfl rfl fun a hs => ?_
         refine st_val hs (y_pickT rfl rfl) trivial rfl rfl fun a hs => ?_
         refine wpList_nil ?_
         refine then_normal ?_
         exact ⟨rfl, (hs.fix 46 (.bool ((c376 && (s1.Num.e1 == 0)) && (s1.Num.e2 == 0))) rfl (and_t h386)).weaken _ ⟨rfl, rfl, trivial⟩⟩
        ·have hs := hs.fix 41 (.bool false) rfl (vb h386)
         refine st_skip hs rfl rfl rfl rfl rfl fun a hs => ?_
         refine st_skip hs rfl rfl rfl rfl rfl fun a hs => ?_
         refine st_skip hs rfl rfl rfl rfl rfl fun a hs => ?_
         refine st_skip hs rfl rfl rfl rfl rfl fun a hs => ?_
         refine st_val hs (y_pickF rfl rfl) trivial rfl rfl fun a hs => ?_
         refine wpList_nil ?_
         refine then_normal ?_
         exact ⟨rfl, (hs.fix 46 (.bool ((c376 && (s1.Num.e1 == 0)) && (s1.Num.e2 == 0))) rfl (and_f h386)).weaken _ ⟨rfl, rfl, trivial⟩⟩
       ·rintro a w1 ⟨h391, hs⟩
        subst h391
        refine st_val hs (y_move rfl) trivial rfl rfl fun a hs => ?_
        refine wpl_join 5 (fun a w1 => w = w1 ∧ Sl 117 [(1, .pointer (some ⟨b5, 0, none⟩)), (52, .bool (((c376 && (s1.Num.e1 == 0)) && (s1.Num.e2 == 0)) && (s1.Den.e1 == 0)))] a) ?_ ?_
        ·rcases Bool.eq_false_or_eq_true ((c376 && (s1.Num.e1 == 0)) && (s1.Num.e2 == 0)) with h387 | h387
         ·have hs := hs.fix 47 (.bool true) rfl (vb h387)
          refine st_val hs (y_fieldAddr (o' := 4) Try.runUnderlying45 rfl Try.sizeOf43 rfl rfl rfl) ⟨_, rfl, rfl⟩ rfl rfl fun a hs => ?_
          refine st_val hs (y_indexAtA (q := 5) Try.runUnderlying43 Try.sizeOf3 rfl rfl (by decide) (by decide) rfl) ⟨_, rfl, rfl⟩ rfl rfl fun a hs => ?_
          refine st_val hs (y_loadB1 (hw.ownAt 0 rfl) rfl Try.isAgg3 rfl) ⟨_, rfl, rfl⟩ rfl rfl fun a hs => ?_
          refine st_val hs (y_eql rfl rfl) ⟨_, rfl, rfl⟩ rfl rfl fun a hs => ?_
          refine st_val hs (y_pickT rfl rfl) trivial rfl rfl fun a hs => ?_
          refine wpList_nil ?_
          refine then_normal ?_
          exact ⟨rfl, (hs.fix 52 (.bool (((c376 && (s1.Num.e1 == 0)) && (s1.Num.e2 == 0)) && (s1.Den.e1 == 0))) rfl (and_t h387)).weaken _ ⟨rfl, rfl, trivial⟩⟩
         ·have hs := hs.fix 47 (.bool false) rfl (vb h387)
          refine st_skip hs rfl rfl rfl rfl rfl fun a hs => ?_
          refine st_skip hs rfl rfl rfl rfl rfl fun a hs => ?_
          refine st_skip hs rfl rfl rfl rfl rfl fun a hs => ?_
          refine st_skip hs rfl rfl rfl rfl rfl fun a hs => ?_
          refine st_val hs (y_pickF rfl rfl) trivial rfl rfl fun a hs => ?_
          refine wpList_nil ?_
          refine then_normal ?_
          exact ⟨rfl, (hs.fix 52 (.bool (((c376 && (s1.Num.e1 == 0)) && (s1.Num.e2 == 0)) && (s1.Den.e1 == 0))) rfl (and_f h387)).weaken _ ⟨rfl, rfl, trivial⟩⟩
        ·rintro a w1 ⟨h390, hs⟩
         subst h390
         refine st_val hs (y_move rfl) trivial rfl rfl fun a hs => ?_
         refine wpl_join 5 (fun a w1 => w = w1 ∧ Sl 117 [(58, .bool ((((c376 && (s1.Num.e1 == 0)) && (s1.Num.e2 == 0)) && (s1.Den.e1 == 0)) && (s1.Den.e2 == 0)))] a) ?_ ?_
         ·rcases Bool.eq_false_or_eq_true (((c376 && (s1.Num.e1 == 0)) && (s1.Num.e2 == 0)) && (s1.Den.e1 == 0)) with h388 | h388
          ·have hs := hs.fix 53 (.bool true) rfl (vb h388)
           refine st_val hs (y_fieldAddr (o' := 4) Try.runUnderlying45 rfl Try.sizeOf43 rfl rfl rfl) ⟨_, rfl, rfl⟩ rfl rfl fun a hs => ?_
           refine st_val hs (y_indexAtA (q := 6) Try.runUnderlying43 Try.sizeOf3 rfl rfl (by decide) (by decide) rfl) ⟨_, rfl, rfl⟩ rfl rfl fun a hs => ?_
           refine st_val hs (y_loadB1 (hw.ownAt 0 rfl) rfl Try.isAgg3 rfl) ⟨_, rfl, rfl⟩ rfl rfl fun a hs => ?_
           refine st_val hs (y_eql rfl rfl) ⟨_, rfl, rfl⟩ rfl rfl fun a hs => ?_
           refine st_val hs (y_pickT rfl rfl) trivial rfl rfl fun a hs => ?_
           refine wpList_nil ?_
           refine then_normal ?_
           exact ⟨rfl, (hs.fix 58 (.bool ((((c376 && (s1.Num.e1 == 0)) && (s1.Num.e2 == 0)) && (s1.Den.e1 == 0)) && (s1.Den.e2 == 0))) rfl (and_t h388)).weaken _ ⟨rfl, trivial⟩⟩
          ·have hs := hs.fix 53 (.bool false) rfl (vb h388)
           refine st_skip hs rfl rfl rfl rfl rfl fun a hs => ?_
           refine st_skip hs rfl rfl rfl rfl rfl fun a hs => ?_
           refine st_skip hs rfl rfl rfl rfl rfl fun a hs => ?_
           refine st_skip hs rfl rfl rfl rfl rfl fun a hs => ?_
           refine st_val hs (y_pickF rfl rfl) trivial rfl rfl fun a hs => ?_
           refine wpList_nil ?_
           refine then_normal ?_
           exact ⟨rfl, (hs.fix 58 (.bool ((((c376 && (s1.Num.e1 == 0)) && (s1.Num.e2 == 0)) && (s1.Den.e1 == 0)) && (s1.Den.e2 == 0))) rfl (and_f h388)).weaken _ ⟨rfl, trivial⟩⟩
         ·rintro a w1 ⟨h389, hs⟩
          subst h389
          refine st_val hs (y_assign rfl) trivial rfl rfl fun a hs => ?_
          refine wpList_nil ?_
          refine then_normal ?_
          have hsh := Option.some.inj hsh
          subst hsh
          refine wp_ret ?_
          refine blk_ret ?_
          refine then_ret ?_
          exact ret1 hs rfl (rv_tmp rfl) (hw.ret rfl)
   ·have hsh := ite_f hsh h350
    refine wp_seq ?_
    refine wp_region_lit ?_
    refine st_val hs (y_eql rfl rfl) trivial rfl rfl fun a hs => ?_
    refine st_val hs (y_assign rfl) trivial rfl rfl fun a hs => ?_
    refine wpList_nil ?_
    refine then_normal ?_
    refine wp_cond_split (hs.ev rfl) (fun h521 => ?_) (fun h521 => ?_)
    ·have hsh := ite_t hsh h521
     refine wp_seq ?_
     refine wp_region_lit ?_
     refine st_val hs (y_move rfl) trivial rfl rfl fun a hs => ?_
     refine st_val hs (y_move rfl) trivial rfl rfl fun a hs => ?_
     obtain ⟨c531, hc531, hsh⟩ := bind_t hsh
     refine wpl_join 4 (fun a w => ∃ (Sv532 : Nat → Prop), Sl 117 [(1, .pointer (some ⟨b5, 0, none⟩)), (66, .bool c531)] a ∧ Wd ⟨w0, S0, []⟩ Sv532 [] [CeA b5 0 [.int .i64 s1.Kind, .int .i64 s1.Num.e0, .int .i64 s1.Num.e1, .int .i64 s1.Num.e2, .int .i64 s1.Den.e0, .int .i64 s1.Den.e1, .int .i64 s1.Den.e2, .slice p2 s1.Taps.length k3, .int .i64 s1.Factor, .int .i64 s1.Shift], SlA p2 s1.Taps.length k3 s1.Taps] w) ?_ ?_
     ·rcases Bool.eq_false_or_eq_true ((((s1.Taps.length : Int) == 0) && (s1.Factor == 0)) && (s1.Shift == 0)) with h530 | h530
      ·have hs := hs.fix 62 (.bool true) rfl (vb h530)
       have hsh := ite_t hc531 h530
       refine st_val hs (y_fieldAddr (o' := 1) Try.runUnderlying45 rfl Try.sizeOf43 rfl rfl rfl) ⟨_, rfl, rfl⟩ rfl rfl fun a hs => ?_
       obtain ⟨Sv533, hw⟩ := w_freeze hw 0 rfl
       have hw := hw.addE (e := SlA (α := Int) (some ⟨b5, 1, none⟩) ([s1.Num.e0, s1.Num.e1, s1.Num.e2] : List Int).length 3 ([s1.Num.e0, s1.Num.e1, s1.Num.e2] : List Int)) (arr_sl (o := 1) (hw.envAt 0 rfl) rfl ⟨⟨_, rfl, rfl⟩, ⟨⟨_, rfl, rfl⟩, ⟨⟨_, rfl, rfl⟩, rfl⟩⟩⟩)
       refine st_val hs (y_sliceArr Try.runUnderlying43 Try.sizeOf3 rfl rfl) ⟨_, rfl, rfl⟩ rfl rfl fun a hs => ?_
       obtain ⟨rv535, h534, hsh⟩ := bind_t hsh
       refine st_callR hs (ref18_terms_ok h534 hw.bdom (hw.bE 0 rfl)) (do_call Try.call73 rfl) ⟨_, rfl, rfl⟩ rfl rfl ?_
       intro v539 Sv536 w a h537 h538 hs
       subst h538
       have hw := hw.callB h537
       refine st_val hs (y_pickT rfl rfl) trivial rfl rfl fun a hs => ?_
       refine wpList_nil ?_
       have hsh := Option.some.inj hsh
       subst hsh
       refine then_normal ?_
       exact ⟨Sv533, (hs.wk rfl), (hw.ft [] [1, 2] (by decide) rfl rfl)⟩
      ·have hs := hs.fix 62 (.bool false) rfl (vb h530)
       have hsh := ite_f hc531 h530
       refine st_skip hs rfl rfl rfl rfl rfl fun a hs => ?_
       refine st_skip hs rfl rfl rfl rfl rfl fun a hs => ?_
       refine st_skip hs rfl rfl rfl rfl rfl fun a hs => ?_
       refine st_val hs (y_pickF rfl rfl) trivial rfl rfl fun a hs => ?_
       refine wpList_nil ?_
       obtain ⟨Sv541, hw⟩ := w_freeze hw 0 rfl
       have hsh := Option.some.inj hsh
       subst hsh
       refine then_normal ?_
       exact ⟨Sv541, (hs.wk rfl), (hw.ft [] [0, 1] (by decide) rfl rfl)⟩
     ·rintro a w ⟨Sv532, hs, hw⟩
      refine st_val hs (y_move rfl) trivial rfl rfl fun a hs => ?_
      obtain ⟨c550, hc550, hsh⟩ := bind_t hsh
      refine wpl_join 4 (fun a w => ∃ (Sv551 : Nat → Prop), Sl 117 [(1, .pointer (some ⟨b5, 0, none⟩)), (71, .bool c550)] a ∧ Wd ⟨w0, S0, []⟩ Sv551 [] [CeA b5 0 [.int .i64 s1.Kind, .int .i64 s1.Num.e0, .int .i64 s1.Num.e1, .int .i64 s1.Num.e2, .int .i64 s1.Den.e0, .int .i64 s1.Den.e1, .int .i64 s1.Den.e2, .slice p2 s1.Taps.length k3, .int .i64 s1.Factor, .int .i64 s1.Shift], SlA p2 s1.Taps.length k3 s1.Taps] w) ?_ ?_
      ·rcases Bool.eq_false_or_eq_true c531 with h549 | h549
       ·have hs := hs.fix 67 (.bool true) rfl (vb h549)
        have hsh := ite_t hc550 h549
        refine st_val hs (y_fieldAddr (o' := 4) Try.runUnderlying45 rfl Try.sizeOf43 rfl rfl rfl) ⟨_, rfl, rfl⟩ rfl rfl fun a hs => ?_
        have hw := hw.addE (e := SlA (α := Int) (some ⟨b5, 4, none⟩) ([s1.Den.e0, s1.Den.e1, s1.Den.e2] : List Int).length 3 ([s1.Den.e0, s1.Den.e1, s1.Den.e2] : List Int)) (arr_sl (o := 4) (hw.envAt 0 rfl) rfl ⟨⟨_, rfl, rfl⟩, ⟨⟨_, rfl, rfl⟩, ⟨⟨_, rfl, rfl⟩, rfl⟩⟩⟩)
        refine st_val hs (y_sliceArr Try.runUnderlying43 Try.sizeOf3 rfl rfl) ⟨_, rfl, rfl⟩ rfl rfl fun a hs => ?_
        obtain ⟨rv553, h552, hsh⟩ := bind_t hsh
        refine st_callR hs (ref18_terms_ok h552 hw.bdom (hw.bE 0 rfl)) (do_call Try.call73 rfl) ⟨_, rfl, rfl⟩ rfl rfl ?_
        intro v557 Sv554 w a h555 h556 hs
        subst h556
        have hw := hw.callB h555
        refine st_val hs (y_pickT rfl rfl) trivial rfl rfl fun a hs => ?_
        refine wpList_nil ?_
        have hsh := Option.some.inj hsh
        subst hsh
        refine then_normal ?_
        exact ⟨Sv532, (hs.wk rfl), (hw.ft [] [1, 2] (by decide) rfl rfl)⟩
       ·have hs := hs.fix 67 (.bool false) rfl (vb h549)
        have hsh := ite_f hc550 h549
        refine st_skip hs rfl rfl rfl rfl rfl fun a hs => ?_
        refine st_skip hs rfl rfl rfl rfl rfl fun a hs => ?_
        refine st_skip hs rfl rfl rfl rfl rfl fun a hs => ?_
        refine st_val hs (y_pickF rfl rfl) trivial rfl rfl fun a hs => ?_
        refine wpList_nil ?_
        have hsh := Option.some.inj hsh
        subst hsh
        refine then_normal ?_
        exact ⟨Sv532, (hs.wk rfl), (hw.ft [] [0, 1] (by decide) rfl rfl)⟩
      ·rintro a w ⟨Sv551, hs, hw⟩
       refine st_val hs (y_move rfl) trivial rfl rfl fun a hs => ?_
       refine wpl_join 5 (fun a w1 => w = w1 ∧ Sl 117 [(77, .bool (c550 && (s1.Den.e0 != 0)))] a) ?_ ?_
       ·rcases Bool.eq_false_or_eq_true c550 with h559 | h559
        ·have hs := hs.fix 72 (.bool true) rfl (vb h559)
         refine st_val hs (y_fieldAddr (o' := 4) Try.runUnderlying45 rfl Try.sizeOf43 rfl rfl rfl) ⟨_, rfl, rfl⟩ rfl rfl fun a hs => ?_
         refine st_val hs (y_indexAtA (q := 4) Try.runUnderlying43 Try.sizeOf3 rfl rfl (by decide) (by decide) rfl) ⟨_, rfl, rfl⟩ rfl rfl fun a hs => ?_
         refine st_val hs (y_loadE1 (j := 4) (hw.ceAt 0 rfl) rfl Try.isAgg3 rfl) ⟨_, rfl, rfl⟩ rfl rfl fun a hs => ?_
         refine st_val hs (y_neq rfl rfl) ⟨_, rfl, rfl⟩ rfl rfl fun a hs => ?_
         refine st_val hs (y_pickT rfl rfl) trivial rfl rfl fun a hs => ?_
         refine wpList_nil ?_
         refine then_normal ?_
         exact ⟨rfl, (hs.fix 77 (.bool (c550 && (s1.Den.e0 != 0))) rfl (and_t h559)).weaken _ ⟨rfl, trivial⟩⟩
        ·have hs := hs.fix 72 (.bool false) rfl (vb h559)
         refine st_skip hs rfl rfl rfl rfl rfl fun a hs => ?_
         refine st_skip hs rfl rfl rfl rfl rfl fun a hs => ?_
         refine st_skip hs rfl rfl rfl rfl rfl fun a hs => ?_
         refine st_skip hs rfl rfl rfl rfl rfl fun a hs => ?_
         refine st_val hs (y_pickF rfl rfl) trivial rfl rfl fun a hs => ?_
         refine wpList_nil ?_
         refine then_normal ?_
         exact ⟨rfl, (hs.fix 77 (.bool (c550 && (s1.Den.e0 != 0))) rfl (and_f h559)).weaken _ ⟨rfl, trivial⟩⟩
       ·rintro a w1 ⟨h560, hs⟩
        subst h560
        refine st_val hs (y_assign rfl) trivial rfl rfl fun a hs => ?_
        refine wpList_nil ?_
        refine then_normal ?_
        have hsh := Option.some.inj hsh
        subst hsh
        refine wp_ret ?_
        refine blk_ret ?_
        refine then_ret ?_
        exact ret1 hs rfl (rv_tmp rfl) (hw.ret rfl)
    ·have hsh := ite_f hsh h521
     refine wp_seq ?_
     refine wp_region_lit ?_
     refine st_val hs (y_eql rfl rfl) trivial rfl rfl fun a hs => ?_
     refine st_val hs (y_assign rfl) trivial rfl rfl fun a hs => ?_
     refine wpList_nil ?_
     refine then_normal ?_
     refine wp_cond_split (hs.ev rfl) (fun h649 => ?_) (fun h649 => ?_)
     ·have hsh := ite_t hsh h649
      refine wp_seq ?_
      refine wp_region_lit ?_
      refine st_val hs (y_fieldAddr (o' := 1) Try.runUnderlying45 rfl Try.sizeOf43 rfl rfl rfl) trivial rfl rfl fun a hs => ?_
      refine st_val hs (y_loadBA (hw.ownAt 0 rfl) rfl Try.isAgg43 Try.sizeOf43 rfl rfl) trivial rfl rfl fun a hs => ?_
      refine st_val hs (y_build (vs := []) Bld43 rfl rfl) trivial rfl rfl fun a hs => ?_
      refine st_val hs (y_eqlA (by kernel_rfl) rfl rfl (eqv_array Try.runUnderlying43 Try.sizeOf3 (EqA.cons1 Try.isAgg3 rfl rfl (eqv_int Try.runUnderlying3) (EqA.cons1 Try.isAgg3 rfl rfl (eqv_int Try.runUnderlying3) (EqA.cons1 Try.isAgg3 rfl rfl (eqv_int Try.runUnderlying3) EqA.nil))))) trivial rfl rfl fun a hs => ?_
      refine st_val hs (y_move rfl) trivial rfl rfl fun a hs => ?_
      refine wpl_join 5 (fun a w1 => w = w1 ∧ Sl 117 [(1, .pointer (some ⟨b5, 0, none⟩)), (89, .bool (((s1.Num.e0 == 0) && ((s1.Num.e1 == 0) && ((s1.Num.e2 == 0) && true))) && ((s1.Den.e0 == 0) && ((s1.Den.e1 == 0) && ((s1.Den.e2 == 0) && true)))))] a) ?_ ?_
      ·rcases Bool.eq_false_or_eq_true ((s1.Num.e0 == 0) && ((s1.Num.e1 == 0) && ((s1.Num.e2 == 0) && true))) with h650 | h650
       ·have hs := hs.fix 84 (.bool true) rfl (vb h650)
        refine st_val hs (y_fieldAddr (o' := 4) Try.runUnderlying45 rfl Try.sizeOf43 rfl rfl rfl) ⟨_, rfl, rfl⟩ rfl rfl fun a hs => ?_
        refine st_val hs (y_loadBA (hw.ownAt 0 rfl) rfl Try.isAgg43 Try.sizeOf43 rfl rfl) ⟨_, rfl, rfl⟩ rfl rfl fun a hs => ?_
        refine st_val hs (y_build (vs := []) Bld43 rfl rfl) ⟨_, rfl, rfl⟩ rfl rfl fun a hs => ?_
        refine st_val hs (y_eqlA (by kernel_rfl) rfl rfl (eqv_array Try.runUnderlying43 Try.sizeOf3 (EqA.cons1 Try.isAgg3 rfl rfl (eqv_int Try.runUnderlying3) (EqA.cons1 Try.isAgg3 rfl rfl (eqv_int Try.runUnderlying3) (EqA.cons1 Try.isAgg3 rfl rfl (eqv_int Try.runUnderlying3) EqA.nil))))) ⟨_, rfl, rfl⟩ rfl rfl fun a hs => ?_
        refine st_val hs (y_pickT rfl rfl) trivial rfl rfl fun a hs => ?_
        refine wpList_nil ?_
        refine then_normal ?_
        exact ⟨rfl, (hs.fix 89 (.bool (((s1.Num.e0 == 0) && ((s1.Num.e1 == 0) && ((s1.Num.e2 == 0) && true))) && ((s1.Den.e0 == 0) && ((s1.Den.e1 == 0) && ((s1.Den.e2 == 0) && true))))) rfl (and_t h650)).weaken _ ⟨rfl, rfl, trivial⟩⟩
       ·have hs := hs.fix 84 (.bool false) rfl (vb h650)
        refine st_skip hs rfl rfl rfl rfl rfl fun a hs => ?_
        refine st_skip hs rfl rfl rfl rfl rfl fun a hs => ?_
        refine st_skip hs rfl rfl rfl rfl rfl fun a hs => ?_
        refine st_skip hs rfl rfl rfl rfl rfl fun a hs => ?_
        refine st_val hs (y_pickF rfl rfl) trivial rfl rfl fun a hs => ?_
        refine wpList_nil ?_
        refine then_normal ?_
        exact ⟨rfl, (hs.fix 89 (.bool (((s1.Num.e0 == 0) && ((s1.Num.e1 == 0) && ((s1.Num.e2 == 0) && true))) && ((s1.Den.e0 == 0) && ((s1.Den.e1 == 0) && ((s1.Den.e2 == 0) && true))))) rfl (and_f h650)).weaken _ ⟨rfl, rfl, trivial⟩⟩
      ·rintro a w1 ⟨h736, hs⟩
       subst h736
       refine st_val hs (y_move rfl) trivial rfl rfl fun a hs => ?_
       obtain ⟨c659, hc659, hsh⟩ := bind_t hsh
       refine wpl_join 5 (fun a w => ∃ (Sv660 : Nat → Prop), Sl 117 [(1, .pointer (some ⟨b5, 0, none⟩)), (95, .bool c659)] a ∧ Wd ⟨w0, S0, []⟩ Sv660 [.box b5 [.int .i64 s1.Kind, .int .i64 s1.Num.e0, .int .i64 s1.Num.e1, .int .i64 s1.Num.e2, .int .i64 s1.Den.e0, .int .i64 s1.Den.e1, .int .i64 s1.Den.e2, .slice p2 s1.Taps.length k3, .int .i64 s1.Factor, .int .i64 s1.Shift] 45] [SlA p2 s1.Taps.length k3 s1.Taps] w) ?_ ?_
       ·rcases Bool.eq_false_or_eq_true (((s1.Num.e0 == 0) && ((s1.Num.e1 == 0) && ((s1.Num.e2 == 0) && true))) && ((s1.Den.e0 == 0) && ((s1.Den.e1 == 0) && ((s1.Den.e2 == 0) && true)))) with h658 | h658
        ·have hs := hs.fix 90 (.bool true) rfl (vb h658)
         have hsh := ite_t hc659 h658
         refine st_val hs (y_fieldAddr (o' := 7) Try.runUnderlying45 rfl Try.sizeOf22 rfl rfl rfl) ⟨_, rfl, rfl⟩ rfl rfl fun a hs => ?_
         refine st_val hs (y_loadB1 (hw.ownAt 0 rfl) rfl Try.isAgg22 rfl) ⟨_, rfl, rfl⟩ rfl rfl fun a hs => ?_
         refine st_val hs (y_len Try.runUnderlying22 rfl) ⟨_, rfl, rfl⟩ rfl rfl fun a hs => ?_
         obtain ⟨rv662, h661, hsh⟩ := bind_t hsh
         refine st_callR hs (ref01_In_ok h661 hw.bdom) (do_call Try.call43 rfl) ⟨_, rfl, rfl⟩ rfl rfl ?_
         intro v666 Sv663 w a h664 h665 hs
         subst h665
         have hw := hw.callB h664
         refine st_val hs (y_pickT rfl rfl) trivial rfl rfl fun a hs => ?_
         refine wpList_nil ?_
         have hsh := Option.some.inj hsh
         subst hsh
         refine then_normal ?_
         exact ⟨S0, (hs.wk rfl), (hw.ft [0] [0] (by decide) rfl rfl)⟩
        ·have hs := hs.fix 90 (.bool false) rfl (vb h658)
         have hsh := ite_f hc659 h658
         refine st_skip hs rfl rfl rfl rfl rfl fun a hs => ?_
         refine st_skip hs rfl rfl rfl rfl rfl fun a hs => ?_
         refine st_skip hs rfl rfl rfl rfl rfl fun a hs => ?_
         refine st_skip hs rfl rfl rfl rfl rfl fun a hs => ?_
         refine st_val hs (y_pickF rfl rfl) trivial rfl rfl fun a hs => ?_
         refine wpList_nil ?_
         have hsh := Option.some.inj hsh
         subst hsh
         refine then_normal ?_
         exact ⟨S0, (hs.wk rfl), (hw.ft [0] [0] (by decide) rfl rfl)⟩
       ·rintro a w ⟨Sv660, hs, hw⟩
        refine st_val hs (y_move rfl) trivial rfl rfl fun a hs => ?_
        obtain ⟨c676, hc676, hsh⟩ := bind_t hsh
        refine wpl_join 4 (fun a w => ∃ (Sv677 : Nat → Prop), Sl 117 [(1, .pointer (some ⟨b5, 0, none⟩)), (100, .bool c676)] a ∧ Wd ⟨w0, S0, []⟩ Sv677 [.box b5 [.int .i64 s1.Kind, .int .i64 s1.Num.e0, .int .i64 s1.Num.e1, .int .i64 s1.Num.e2, .int .i64 s1.Den.e0, .int .i64 s1.Den.e1, .int .i64 s1.Den.e2, .slice p2 s1.Taps.length k3, .int .i64 s1.Factor, .int .i64 s1.Shift] 45] [SlA p2 s1.Taps.length k3 s1.Taps] w) ?_ ?_
        ·rcases Bool.eq_false_or_eq_true c659 with h675 | h675
         ·have hs := hs.fix 96 (.bool true) rfl (vb h675)
          have hsh := ite_t hc676 h675
          refine st_val hs (y_fieldAddr (o' := 7) Try.runUnderlying45 rfl Try.sizeOf22 rfl rfl rfl) ⟨_, rfl, rfl⟩ rfl rfl fun a hs => ?_
          refine st_val hs (y_loadB1 (hw.ownAt 0 rfl) rfl Try.isAgg22 rfl) ⟨_, rfl, rfl⟩ rfl rfl fun a hs => ?_
          obtain ⟨rv679, h678, hsh⟩ := bind_t hsh
          refine st_callR hs (ref18_terms_ok h678 hw.bdom (hw.bE 0 rfl)) (do_call Try.call73 rfl) ⟨_, rfl, rfl⟩ rfl rfl ?_
          intro v683 Sv680 w a h681 h682 hs
          subst h682
          have hw := hw.callB h681
          refine st_val hs (y_pickT rfl rfl) trivial rfl rfl fun a hs => ?_
          refine wpList_nil ?_
          have hsh := Option.some.inj hsh
          subst hsh
          refine then_normal ?_
          exact ⟨Sv660, (hs.wk rfl), (hw.ft [0] [0] (by decide) rfl rfl)⟩
         ·have hs := hs.fix 96 (.bool false) rfl (vb h675)
          have hsh := ite_f hc676 h675
          refine st_skip hs rfl rfl rfl rfl rfl fun a hs => ?_
          refine st_skip hs rfl rfl rfl rfl rfl fun a hs => ?_
          refine st_skip hs rfl rfl rfl rfl rfl fun a hs => ?_
          refine st_val hs (y_pickF rfl rfl) trivial rfl rfl fun a hs => ?_
          refine wpList_nil ?_
          have hsh := Option.some.inj hsh
          subst hsh
          refine then_normal ?_
          exact ⟨Sv660, (hs.wk rfl), (hw.ft [0] [0] (by decide) rfl rfl)⟩
        ·rintro a w ⟨Sv677, hs, hw⟩
         refine st_val hs (y_move rfl) trivial rfl rfl fun a hs => ?_
         obtain ⟨c693, hc693, hsh⟩ := bind_t hsh
         refine wpl_join 5 (fun a w => ∃ (Sv694 : Nat → Prop), Sl 117 [(1, .pointer (some ⟨b5, 0, none⟩)), (106, .bool c693)] a ∧ Wd ⟨w0, S0, []⟩ Sv694 [.box b5 [.int .i64 s1.Kind, .int .i64 s1.Num.e0, .int .i64 s1.Num.e1, .int .i64 s1.Num.e2, .int .i64 s1.Den.e0, .int .i64 s1.Den.e1, .int .i64 s1.Den.e2, .slice p2 s1.Taps.length k3, .int .i64 s1.Factor, .int .i64 s1.Shift] 45] [SlA p2 s1.Taps.length k3 s1.Taps] w) ?_ ?_
         ·rcases Bool.eq_false_or_eq_true c676 with h692 | h692
          ·have hs := hs.fix 101 (.bool true) rfl (vb h692)
           have hsh := ite_t hc693 h692
           refine st_val hs (y_fieldAddr (o' := 7) Try.runUnderlying45 rfl Try.sizeOf22 rfl rfl rfl) ⟨_, rfl, rfl⟩ rfl rfl fun a hs => ?_
           refine st_val hs (y_loadB1 (hw.ownAt 0 rfl) rfl Try.isAgg22 rfl) ⟨_, rfl, rfl⟩ rfl rfl fun a hs => ?_
           obtain ⟨rv696, h695, hsh⟩ := bind_t hsh
           refine st_callR hs (ref18_total_ok h695 hw.bdom (hw.bE 0 rfl)) (do_call Try.call74 rfl) ⟨_, rfl, rfl⟩ rfl rfl ?_
           intro v700 Sv697 w a h698 h699 hs
           subst h699
           have hw := hw.callB h698
           refine st_val hs (y_neq rfl rfl) ⟨_, rfl, rfl⟩ rfl rfl fun a hs => ?_
           refine st_val hs (y_pickT rfl rfl) trivial rfl rfl fun a hs => ?_
           refine wpList_nil ?_
           have hsh := Option.some.inj hsh
           subst hsh
           refine then_normal ?_
           exact ⟨Sv677, (hs.wk rfl), (hw.ft [0] [0] (by decide) rfl rfl)⟩
          ·have hs := hs.fix 101 (.bool false) rfl (vb h692)
           have hsh := ite_f hc693 h692
           refine st_skip hs rfl rfl rfl rfl rfl fun a hs => ?_
           refine st_skip hs rfl rfl rfl rfl rfl fun a hs => ?_
           refine st_skip hs rfl rfl rfl rfl rfl fun a hs => ?_
           refine st_skip hs rfl rfl rfl rfl rfl fun a hs => ?_
           refine st_val hs (y_pickF rfl rfl) trivial rfl rfl fun a hs => ?_
           refine wpList_nil ?_
           have hsh := Option.some.inj hsh
           subst hsh
           refine then_normal ?_
           exact ⟨Sv677, (hs.wk rfl), (hw.ft [0] [0] (by decide) rfl rfl)⟩
         ·rintro a w ⟨Sv694, hs, hw⟩
          refine st_val hs (y_move rfl) trivial rfl rfl fun a hs => ?_
          obtain ⟨c710, hc710, hsh⟩ := bind_t hsh
          refine wpl_join 4 (fun a w => ∃ (Sv711 : Nat → Prop), Sl 117 [(1, .pointer (some ⟨b5, 0, none⟩)), (111, .bool c710)] a ∧ Wd ⟨w0, S0, []⟩ Sv711 [.box b5 [.int .i64 s1.Kind, .int .i64 s1.Num.e0, .int .i64 s1.Num.e1, .int .i64 s1.Num.e2, .int .i64 s1.Den.e0, .int .i64 s1.Den.e1, .int .i64 s1.Den.e2, .slice p2 s1.Taps.length k3, .int .i64 s1.Factor, .int .i64 s1.Shift] 45] [SlA p2 s1.Taps.length k3 s1.Taps] w) ?_ ?_
          ·rcases Bool.eq_false_or_eq_true c693 with h709 | h709
           ·have hs := hs.fix 107 (.bool true) rfl (vb h709)
            have hsh := ite_t hc710 h709
            refine st_val hs (y_fieldAddr (o' := 8) Try.runUnderlying45 rfl Try.sizeOf3 rfl rfl rfl) ⟨_, rfl, rfl⟩ rfl rfl fun a hs => ?_
            refine st_val hs (y_loadB1 (hw.ownAt 0 rfl) rfl Try.isAgg3 rfl) ⟨_, rfl, rfl⟩ rfl rfl fun a hs => ?_
            obtain ⟨rv713, h712, hsh⟩ := bind_t hsh
            refine st_callR hs (ref01_In_ok h712 hw.bdom) (do_call Try.call43 rfl) ⟨_, rfl, rfl⟩ rfl rfl ?_
            intro v717 Sv714 w a h715 h716 hs
            subst h716
            have hw := hw.callB h715
            refine st_val hs (y_pickT rfl rfl) trivial rfl rfl fun a hs => ?_
            refine wpList_nil ?_
            have hsh := Option.some.inj hsh
            subst hsh
            refine then_normal ?_
            exact ⟨Sv694, (hs.wk rfl), (hw.ft [0] [0] (by decide) rfl rfl)⟩
           ·have hs := hs.fix 107 (.bool false) rfl (vb h709)
            have hsh := ite_f hc710 h709
            refine st_skip hs rfl rfl rfl rfl rfl fun a hs => ?_
            refine st_skip hs rfl rfl rfl rfl rfl fun a hs => ?_
            refine st_skip hs rfl rfl rfl rfl rfl fun a hs => ?_
            refine st_val hs (y_pickF rfl rfl) trivial rfl rfl fun a hs => ?_
            refine wpList_nil ?_
            have hsh := Option.some.inj hsh
            subst hsh
            refine then_normal ?_
            exact ⟨Sv694, (hs.wk rfl), (hw.ft [0] [0] (by decide) rfl rfl)⟩
          ·rintro a w ⟨Sv711, hs, hw⟩
           refine st_val hs (y_move rfl) trivial rfl rfl fun a hs => ?_
           obtain ⟨c727, hc727, hsh⟩ := bind_t hsh
           refine wpl_join 4 (fun a w => ∃ (Sv728 : Nat → Prop), Sl 117 [(116, .bool c727)] a ∧ Wd ⟨w0, S0, []⟩ Sv728 [] [] w) ?_ ?_
           ·rcases Bool.eq_false_or_eq_true c710 with h726 | h726
            ·have hs := hs.fix 112 (.bool true) rfl (vb h726)
             have hsh := ite_t hc727 h726
             refine st_val hs (y_fieldAddr (o' := 9) Try.runUnderlying45 rfl Try.sizeOf3 rfl rfl rfl) ⟨_, rfl, rfl⟩ rfl rfl fun a hs => ?_
             refine st_val hs (y_loadB1 (hw.ownAt 0 rfl) rfl Try.isAgg3 rfl) ⟨_, rfl, rfl⟩ rfl rfl fun a hs => ?_
             obtain ⟨rv730, h729, hsh⟩ := bind_t hsh
             refine st_callR hs (ref01_In_ok h729 hw.bdom) (do_call Try.call43 rfl) ⟨_, rfl, rfl⟩ rfl rfl ?_
             intro v734 Sv731 w a h732 h733 hs
             subst h733
             have hw := hw.callB h732
             refine st_val hs (y_pickT rfl rfl) trivial rfl rfl fun a hs => ?_
             refine wpList_nil ?_
             have hsh := Option.some.inj hsh
             subst hsh
             refine then_normal ?_
             exact ⟨Sv711, (hs.wk rfl), (hw.ft [] [] (by decide) rfl rfl)⟩
            ·have hs := hs.fix 112 (.bool false) rfl (vb h726)
             have hsh := ite_f hc727 h726
             refine st_skip hs rfl rfl rfl rfl rfl fun a hs => ?_
             refine st_skip hs rfl rfl rfl rfl rfl fun a hs => ?_
             refine st_skip hs rfl rfl rfl rfl rfl fun a hs => ?_
             refine st_val hs (y_pickF rfl rfl) trivial rfl rfl fun a hs => ?_
             refine wpList_nil ?_
             have hsh := Option.some.inj hsh
             subst hsh
             refine then_normal ?_
             exact ⟨Sv711, (hs.wk rfl), (hw.ft [] [] (by decide) rfl rfl)⟩
           ·rintro a w ⟨Sv728, hs, hw⟩
            refine st_val hs (y_assign rfl) trivial rfl rfl fun a hs => ?_
            refine wpList_nil ?_
            refine then_normal ?_
            have hsh := Option.some.inj hsh
            subst hsh
            refine wp_ret ?_
            refine blk_ret ?_
            refine then_ret ?_
            exact ret1 hs rfl (rv_tmp rfl) (hw.ret rfl)
     ·have hsh := ite_f hsh h649
      refine wp_skip ?_
      refine blk_normal ?_
      refine then_normal ?_
      refine wp_seq ?_
      refine wp_region_lit ?_
      refine st_val hs (y_assign rfl) trivial rfl rfl fun a hs => ?_
      refine wpList_nil ?_
      refine then_normal ?_
      have hsh := Option.some.inj hsh
      subst hsh
      refine wp_ret ?_
      exact ret1 hs rfl (rv_tmp rfl) (hw.ret rfl)

abbrev ref21_Stage_rd (w0 : World) (X : List Nat) (r : (Filter × Int)) : (Nat → Prop) → World → Value → Prop := fun S w v => ∃ (p0_0 : Option Addr) (k0_0 : Nat) (c0_0 : List Value), v = .tuple #[.agg #[.slice p0_0 r.1.Taps.length k0_0, .int .i64 r.1.Factor, .int .i64 r.1.Shift], .int .i64 r.2] ∧ Outs X w0 S w [.row p0_0 r.1.Taps.length k0_0 c0_0 3 1] ∧ (RowA c0_0 r.1.Taps).p S w
set_option maxHeartbeats 4000000 in
set_option maxRecDepth 100000 in
theorem ref21_Stage_ok {w0 : World} {S0 : Nat → Prop} {p2 : Option Addr} {k3 : Nat} {s1 : Stage} {r : (Filter × Int)} (hsh : ref21_Stage s1 = some r) (hS : ∀ b, S0 b → b < w0.heap.size) (h4 : (SlA p2 s1.Taps.length k3 s1.Taps).p S0 w0) : Calls Try.prog 39 #[.agg #[.int .i64 s1.Kind, .int .i64 s1.Num.e0, .int .i64 s1.Num.e1, .int .i64 s1.Num.e2, .int .i64 s1.Den.e0, .int .i64 s1.Den.e1, .int .i64 s1.Den.e2, .slice p2 s1.Taps.length k3, .int .i64 s1.Factor, .int .i64 s1.Shift]] w0 (Ret ([]) w0 S0 (ref21_Stage_rd w0 ([]) r)) := by
 refine calls_of_wp Try.func39 rfl ?_
 have hs := Sl.enter #[.agg #[.int .i64 s1.Kind, .int .i64 s1.Num.e0, .int .i64 s1.Num.e1, .int .i64 s1.Num.e2, .int .i64 s1.Den.e0, .int .i64 s1.Den.e1, .int .i64 s1.Den.e2, .slice p2 s1.Taps.length k3, .int .i64 s1.Factor, .int .i64 s1.Shift]] 27 [(0, .agg #[.int .i64 s1.Kind, .int .i64 s1.Num.e0, .int .i64 s1.Num.e1, .int .i64 s1.Num.e2, .int .i64 s1.Den.e0, .int .i64 s1.Den.e1, .int .i64 s1.Den.e2, .slice p2 s1.Taps.length k3, .int .i64 s1.Factor, .int .i64 s1.Shift])] rfl ⟨rfl, trivial⟩
 have hw := Wd.enter (E := []) hS (fun _ h => (by cases h))
 have hw := hw.addE h4
 delta ref21_Stage at hsh
 refine wp_seq ?_
 refine wp_region_lit ?_
 refine w_box (cs := [.int .i64 s1.Kind, .int .i64 s1.Num.e0, .int .i64 s1.Num.e1, .int .i64 s1.Num.e2, .int .i64 s1.Den.e0, .int .i64 s1.Den.e1, .int .i64 s1.Den.e2, .slice p2 s1.Taps.length k3, .int .i64 s1.Factor, .int .i64 s1.Shift]) hs hw rfl rfl rfl trivial ?_
 intro b5 a w hs hw
 refine w_alloc (cs := [.slice none ([] : List Int).length 0, .int .i64 0, .int .i64 0]) hs hw Try.zeroValue28 rfl rfl trivial ?_
 intro b6 a w hs hw
 refine st_val hs (y_assign rfl) trivial rfl rfl fun a hs => ?_
 refine wpList_nil ?_
 refine then_normal ?_
 refine wp_seq ?_
 refine wp_seq ?_
 refine wp_region_lit ?_
 refine st_val hs (y_loadBA (hw.ownAt 1 rfl) rfl Try.isAgg45 Try.sizeOf45 rfl rfl) trivial rfl rfl fun a hs => ?_
 obtain ⟨rv8, h7, hsh⟩ := bind_t hsh
 refine st_callR hs (ref18_ValidStage_ok h7 hw.bdom (hw.bE 0 rfl)) (do_call Try.call57 rfl) trivial rfl rfl ?_
 intro v12 Sv9 w a h10 h11 hs
 subst h11
 have hw := hw.callB h10
 refine st_val hs (y_not rfl) trivial rfl rfl fun a hs => ?_
 refine st_val hs (y_move rfl) trivial rfl rfl fun a hs => ?_
 refine wpl_join 4 (fun a w1 => w = w1 ∧ Sl 27 [(1, .pointer (some ⟨b5, 0, none⟩)), (2, .pointer (some ⟨b6, 0, none⟩)), (12, .bool ((!rv8) || (s1.Kind != 2)))] a) ?_ ?_
 ·rcases Bool.eq_false_or_eq_true (!rv8) with h14 | h14
  ·have hs := hs.fix 8 (.bool true) rfl (vb h14)
   refine st_skip hs rfl rfl rfl rfl rfl fun a hs => ?_
   refine st_skip hs rfl rfl rfl rfl rfl fun a hs => ?_
   refine st_skip hs rfl rfl rfl rfl rfl fun a hs => ?_
   refine st_val hs (y_pickT rfl rfl) trivial rfl rfl fun a hs => ?_
   refine wpList_nil ?_
   refine then_normal ?_
   exact ⟨rfl, (hs.fix 12 (.bool ((!rv8) || (s1.Kind != 2))) rfl (or_t h14)).weaken _ ⟨rfl, rfl, rfl, trivial⟩⟩
  ·have hs := hs.fix 8 (.bool false) rfl (vb h14)
   refine st_val hs (y_fieldAddr (o' := 0) Try.runUnderlying45 rfl Try.sizeOf3 rfl rfl rfl) ⟨_, rfl, rfl⟩ rfl rfl fun a hs => ?_
   refine st_val hs (y_loadB1 (hw.ownAt 1 rfl) rfl Try.isAgg3 rfl) ⟨_, rfl, rfl⟩ rfl rfl fun a hs => ?_
   refine st_val hs (y_neq rfl rfl) ⟨_, rfl, rfl⟩ rfl rfl fun a hs => ?_
   refine st_val hs (y_pickF rfl rfl) trivial rfl rfl fun a hs => ?_
   refine wpList_nil ?_
   refine then_normal ?_
   exact ⟨rfl, (hs.fix 12 (.bool ((!rv8) || (s1.Kind != 2))) rfl (or_f h14)).weaken _ ⟨rfl, rfl, rfl, trivial⟩⟩
 ·rintro a w1 ⟨h33, hs⟩
  subst h33
  refine wpList_nil ?_
  refine then_normal ?_
  refine wp_cond_split (hs.ev rfl) (fun h16 => ?_) (fun h16 => ?_)
  ·have hsh := ite_t hsh h16
   refine wp_seq ?_
   refine wp_region_lit ?_
   refine st_val hs (y_build (vs := []) Bld28 rfl rfl) trivial rfl rfl fun a hs => ?_
   refine w_store (m := 3) (cs' := [.slice none ([] : List Int).length 0, .int .i64 0, .int .i64 0]) hs hw 0 rfl rfl rfl Try.sizeOf28 rfl rfl rfl rfl trivial ?_
   intro a w hs hw
   refine st_val hs (y_assign rfl) trivial rfl rfl fun a hs => ?_
   refine wpList_nil ?_
   refine then_normal ?_
   have hsh := Option.some.inj hsh
   subst hsh
   have hw := hw.nilRow Int 3
   refine wp_ret ?_
   refine then_ret ?_
   exact ret2 hs rfl (rv_cell hw 1 rfl rfl Try.isAgg28 Try.sizeOf28 rfl) (rv_tmp rfl) (hw.ret ⟨none, 0, [], rfl, (hw.outs [0] (by decide) rfl), (hw.envAt 0 rfl)⟩)
  ·have hsh := ite_f hsh h16
   refine wp_skip ?_
   refine then_normal ?_
   refine wp_seq ?_
   obtain ⟨l18, h17, hsh⟩ := bind_t hsh
   refine wp_only (fun a w => ∃ (Sv23 : Nat → Prop) (b22 : Nat) (c21 : List Value) (k20 : Nat) (p19 : Option Addr), Sl 27 [(2, .pointer (some ⟨b6, 0, none⟩)), (4, .pointer (some ⟨b22, 0, none⟩))] a ∧ Wd ⟨w0, S0, []⟩ Sv23 [.box b6 [.slice none ([] : List Int).length 0, .int .i64 0, .int .i64 0] 28, .box b22 [.slice p19 l18.length k20, .int .i64 s1.Factor, .int .i64 s1.Shift] 28, .row p19 l18.length k20 c21 3 1] [SlA none ([] : List Int).length 0 ([] : List Int), RowA c21 l18] w) ?_ ?_
   ·refine h_b (C := Cls [.box b6 [.slice none ([] : List Int).length 0, .int .i64 0, .int .i64 0] 28, .box b5 [.int .i64 s1.Kind, .int .i64 s1.Num.e0, .int .i64 s1.Num.e1, .int .i64 s1.Num.e2, .int .i64 s1.Den.e0, .int .i64 s1.Den.e1, .int .i64 s1.Den.e2, .slice p2 s1.Taps.length k3, .int .i64 s1.Factor, .int .i64 s1.Shift] 45] []) (by kernel_rfl) rfl (hw.drew.cs [0, 1] [] rfl rfl) fun hC => ?_
    have hw := hw.drew
    refine h_g hs 0 rfl (by kernel_rfl) rfl rfl hC rfl (fun w hC => y_fieldAddr (o' := 7) Try.runUnderlying45 rfl Try.sizeOf22 rfl rfl rfl) fun a hs => ?_
    refine h_g hs 1 rfl (by kernel_rfl) rfl rfl hC rfl (fun w hC => y_loadB1 (hC.ownAt 1 rfl) rfl Try.isAgg22 rfl) fun a hs => ?_
    refine h_g hs 3 rfl (by kernel_rfl) rfl rfl hC rfl (fun w hC => y_fieldAddr (o' := 8) Try.runUnderlying45 rfl Try.sizeOf3 rfl rfl rfl) fun a hs => ?_
    refine h_g hs 4 rfl (by kernel_rfl) rfl rfl hC rfl (fun w hC => y_loadB1 (hC.ownAt 1 rfl) rfl Try.isAgg3 rfl) fun a hs => ?_
    refine h_g hs 5 rfl (by kernel_rfl) rfl rfl hC rfl (fun w hC => y_fieldAddr (o' := 9) Try.runUnderlying45 rfl Try.sizeOf3 rfl rfl rfl) fun a hs => ?_
    refine h_g hs 6 rfl (by kernel_rfl) rfl rfl hC rfl (fun w hC => y_loadB1 (hC.ownAt 1 rfl) rfl Try.isAgg3 rfl) fun a hs => ?_
    refine h_all (rs := [2, 8]) (by kernel_rfl) rfl ?_
    refine AllH.cons rfl ?_ ?_
    ·have hw := hw.nilRow Int 3
     refine w_appendE (α := Int) hs hw El22 0 rfl rfl rfl 0 rfl 1 rfl h17 rfl trivial ?_
     intro p19 k20 c21 a w hs hw
     refine h_nx (hw.cs [1, 2] [] rfl rfl) fun hC => ?_
     refine h_g hs 7 rfl (by kernel_rfl) rfl rfl hC rfl (fun w hC => y_build (vs := [(0, .slice p19 l18.length k20), (1, .int .i64 s1.Factor), (2, .int .i64 s1.Shift)]) Bld28 rfl rfl) fun a hs => ?_
     refine h_one (i := 8) (by kernel_rfl) rfl ?_
     refine w_alloc (cs := [.slice none ([] : List Int).length 0, .int .i64 0, .int .i64 0]) hs hw Try.zeroValue28 rfl rfl trivial ?_
     intro b22 a w hs hw
     refine h_nx (hw.cs [2, 3] [] rfl rfl) fun hC => ?_
     refine h_one (i := 9) (by kernel_rfl) rfl ?_
     refine w_store (m := 3) (cs' := [.slice p19 l18.length k20, .int .i64 s1.Factor, .int .i64 s1.Shift]) hs hw 0 rfl rfl rfl Try.sizeOf28 rfl rfl rfl rfl trivial ?_
     intro a w hs hw
     refine h_nx (hw.cs [2, 3] [] rfl rfl) fun hC => ?_
     refine h_done (by kernel_rfl) ?_
     have hw := hw.addE (e := SlA (α := Int) none 0 0 []) nil_sl
     exact ⟨S0, b22, c21, k20, p19, (hs.wk rfl), (hw.ft [2, 0, 1] [0, 1] (by decide) rfl rfl)⟩
    refine AllH.cons rfl ?_ ?_
    ·refine w_alloc (cs := [.slice none ([] : List Int).length 0, .int .i64 0, .int .i64 0]) hs hw Try.zeroValue28 rfl rfl trivial ?_
     intro b22 a w hs hw
     refine h_nx (hw.cs [1, 2] [] rfl rfl) fun hC => ?_
     refine h_one (i := 2) (by kernel_rfl) rfl ?_
     have hw := hw.nilRow Int 3
     refine w_appendE (α := Int) hs hw El22 0 rfl rfl rfl 0 rfl 1 rfl h17 rfl trivial ?_
     intro p19 k20 c21 a w hs hw
     refine h_nx (hw.cs [2, 3] [] rfl rfl) fun hC => ?_
     refine h_g hs 7 rfl (by kernel_rfl) rfl rfl hC rfl (fun w hC => y_build (vs := [(0, .slice p19 l18.length k20), (1, .int .i64 s1.Factor), (2, .int .i64 s1.Shift)]) Bld28 rfl rfl) fun a hs => ?_
     refine h_one (i := 9) (by kernel_rfl) rfl ?_
     refine w_store (m := 3) (cs' := [.slice p19 l18.length k20, .int .i64 s1.Factor, .int .i64 s1.Shift]) hs hw 1 rfl rfl rfl Try.sizeOf28 rfl rfl rfl rfl trivial ?_
     intro a w hs hw
     refine h_nx (hw.cs [2, 3] [] rfl rfl) fun hC => ?_
     refine h_done (by kernel_rfl) ?_
     have hw := hw.addE (e := SlA (α := Int) none 0 0 []) nil_sl
     exact ⟨S0, b22, c21, k20, p19, (hs.wk rfl), (hw.ft [2, 1, 0] [0, 1] (by decide) rfl rfl)⟩
    exact AllH.nil
   ·rintro a w ⟨Sv23, b22, c21, k20, p19, hs, hw⟩
    refine then_normal ?_
    refine wp_seq ?_
    refine wp_seq ?_
    refine wp_region_lit ?_
    refine st_val hs (y_loadBA (hw.ownAt 1 rfl) rfl Try.isAgg28 Try.sizeOf28 rfl rfl) trivial rfl rfl fun a hs => ?_
    obtain ⟨rv25, h24, hsh⟩ := bind_t hsh
    refine st_callR hs (ref21_Valid_ok h24 hw.bdom (hw.bRow 2 rfl 1 rfl)) (do_call Try.call20 rfl) trivial rfl rfl ?_
    intro v29 Sv26 w a h27 h28 hs
    subst h28
    have hw := hw.callB h27
    refine st_val hs (y_not rfl) trivial rfl rfl fun a hs => ?_
    refine wpList_nil ?_
    refine then_normal ?_
    refine wp_cond_split (hs.ev rfl) (fun h32 => ?_) (fun h32 => ?_)
    ·have hsh := ite_t hsh h32
     refine wp_seq ?_
     refine wp_region_lit ?_
     refine st_val hs (y_build (vs := []) Bld28 rfl rfl) trivial rfl rfl fun a hs => ?_
     refine w_store (m := 3) (cs' := [.slice none ([] : List Int).length 0, .int .i64 0, .int .i64 0]) hs hw 0 rfl rfl rfl Try.sizeOf28 rfl rfl rfl rfl trivial ?_
     intro a w hs hw
     refine st_val hs (y_assign rfl) trivial rfl rfl fun a hs => ?_
     refine wpList_nil ?_
     refine then_normal ?_
     have hsh := Option.some.inj hsh
     subst hsh
     have hw := hw.nilRow Int 3
     refine wp_ret ?_
     refine then_ret ?_
     exact ret2 hs rfl (rv_cell hw 1 rfl rfl Try.isAgg28 Try.sizeOf28 rfl) (rv_tmp rfl) (hw.ret ⟨none, 0, [], rfl, (hw.outs [0] (by decide) rfl), (hw.envAt 0 rfl)⟩)
    ·have hsh := ite_f hsh h32
     refine wp_skip ?_
     refine then_normal ?_
     refine wp_seq ?_
     refine wp_region_lit ?_
     refine st_val hs (y_loadBA (hw.ownAt 1 rfl) rfl Try.isAgg28 Try.sizeOf28 rfl rfl) trivial rfl rfl fun a hs => ?_
     refine w_store (m := 3) (cs' := [.slice p19 l18.length k20, .int .i64 s1.Factor, .int .i64 s1.Shift]) hs hw 0 rfl rfl rfl Try.sizeOf28 rfl rfl rfl rfl trivial ?_
     intro a w hs hw
     refine st_val hs (y_assign rfl) trivial rfl rfl fun a hs => ?_
     refine wpList_nil ?_
     refine then_normal ?_
     have hsh := Option.some.inj hsh
     subst hsh
     refine wp_ret ?_
     exact ret2 hs rfl (rv_cell hw 0 rfl rfl Try.isAgg28 Try.sizeOf28 rfl) (rv_tmp rfl) (hw.ret ⟨p19, k20, c21, rfl, (hw.outs [2] (by decide) rfl), (hw.envAt 1 rfl)⟩)

end Go.Proofs.Ytmihimhknllmcaa.Wk

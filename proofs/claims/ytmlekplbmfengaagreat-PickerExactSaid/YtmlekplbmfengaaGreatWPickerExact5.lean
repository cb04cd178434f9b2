/- The walks of PickerExact, part 5: each Go function computes what its plain program computes. Printed by a program of ours. -/
import Derived.Test.YtmlekplbmfengaaGreatProg
import Derived.Test.YtmlekplbmfengaaGreatDat
import Derived.Test.YtmlekplbmfengaaGreatSh
import Derived.Test.YtmlekplbmfengaaGreatLibL
import Derived.Test.YtmlekplbmfengaaGreatLibZ
import Derived.Test.YtmlekplbmfengaaGreatLibQ
import Derived.KernelRfl
import Derived.Test.YtmlekplbmfengaaGreatLibU
import Derived.Shelf.SlLaysF0
import Derived.Test.YtmlekplbmfengaaGreatWPickerExact4
namespace Go.Proofs.YtmlekplbmfengaaGreat.Wk
open Go Go.RowKit Go.Proofs Go.Proofs.YtmlekplbmfengaaGreat.Sh
set_option linter.unusedVariables false
set_option linter.unusedSimpArgs false
abbrev law23_PickerExact_rd (w0 : World) (X : List Nat) (r : Bool) : (Nat → Prop) → World → Value → Prop := fun S w v => v = .bool r
set_option maxHeartbeats 4000000 in
set_option maxRecDepth 100000 in
theorem law23_PickerExact_ok {w0 : World} {S0 : Nat → Prop} {p2 : Option Addr} {k3 : Nat} {p7 : Option Addr} {k8 : Nat} {p12 : Option Addr} {k13 : Nat} {p16 : Option Addr} {k17 : Nat} {t1 : (List Int)} {raw5 : Picking} {samples6 : (List Int)} {g10 : Trigger} {list11 : (List Pick)} {segments15 : (List Segment)} {r : Bool} (hsh : law23_PickerExact t1 raw5 samples6 g10 list11 segments15 = some r) (hS : ∀ b, S0 b → b < w0.heap.size) (h4 : (SlA p2 t1.length k3 t1).p S0 w0) (h9 : (SlA p7 samples6.length k8 samples6).p S0 w0) (h14 : (SlA p12 list11.length k13 list11).p S0 w0) (h18 : (SlA p16 segments15.length k17 segments15).p S0 w0) : Calls Tryz.prog 3 #[.slice p2 t1.length k3, .agg #[.int .i64 raw5.Detector.Short, .int .i64 raw5.Detector.Long, .int .i64 raw5.Detector.On, .int .i64 raw5.Detector.Off, .int .i64 raw5.Back, .int .i64 raw5.Level, .int .i64 raw5.Floor], .slice p7 samples6.length k8, .agg #[.int .i64 g10.On, .int .i64 g10.Off, .int .i64 g10.Peak], .slice p12 list11.length k13, .slice p16 segments15.length k17] w0 (Ret ([]) w0 S0 (law23_PickerExact_rd w0 ([]) r)) := by
 refine calls_of_wp Tryz.func3 rfl ?_
 have hs := Sl.enter #[.slice p2 t1.length k3, .agg #[.int .i64 raw5.Detector.Short, .int .i64 raw5.Detector.Long, .int .i64 raw5.Detector.On, .int .i64 raw5.Detector.Off, .int .i64 raw5.Back, .int .i64 raw5.Level, .int .i64 raw5.Floor], .slice p7 samples6.length k8, .agg #[.int .i64 g10.On, .int .i64 g10.Off, .int .i64 g10.Peak], .slice p12 list11.length k13, .slice p16 segments15.length k17] 318 [(0, .slice p2 t1.length k3), (1, .agg #[.int .i64 raw5.Detector.Short, .int .i64 raw5.Detector.Long, .int .i64 raw5.Detector.On, .int .i64 raw5.Detector.Off, .int .i64 raw5.Back, .int .i64 raw5.Level, .int .i64 raw5.Floor]), (2, .slice p7 samples6.length k8), (3, .agg #[.int .i64 g10.On, .int .i64 g10.Off, .int .i64 g10.Peak]), (4, .slice p12 list11.length k13), (5, .slice p16 segments15.length k17)] rfl ⟨rfl, rfl, rfl, rfl, rfl, rfl, trivial⟩
 have hw := Wd.enter (E := []) hS (fun _ h => (by cases h))
 have hw := hw.addE h4
 have hw := hw.addE h9
 have hw := hw.addE h14
 have hw := hw.addE h18
 delta law23_PickerExact at hsh
 refine sr ?_
 refine w_box (cs := [.int .i64 raw5.Detector.Short, .int .i64 raw5.Detector.Long, .int .i64 raw5.Detector.On, .int .i64 raw5.Detector.Off, .int .i64 raw5.Back, .int .i64 raw5.Level, .int .i64 raw5.Floor]) hs hw rfl rfl rfl trivial ?_
 intro b19 a w hs hw
 refine w_box (cs := [.int .i64 g10.On, .int .i64 g10.Off, .int .i64 g10.Peak]) hs hw rfl rfl rfl trivial ?_
 intro b20 a w hs hw
 refine av hs rfl rfl fun a hs => ?_
 refine nl ?_
 refine wp_seq ?_
 refine sr ?_
 refine mv hs rfl rfl fun a hs => ?_
 obtain ⟨rv22, h21, hsh⟩ := bind_t hsh
 refine st_callR hs (made_Light_ok h21 hw.bdom (hw.bE 3 rfl)) (do_call Tryz.call4 rfl) trivial rfl rfl ?_
 intro v26 Sv23 w a h24 h25 hs
 subst h25
 have hw := hw.callB h24
 refine sv hs (y_not rfl) rfl fun a hs => ?_
 refine mv hs rfl rfl fun a hs => ?_
 refine wpl_join 4 (fun a w1 => w = w1 ∧ Sl 318 [(0, .slice p2 t1.length k3), (2, .slice p7 samples6.length k8), (4, .slice p12 list11.length k13), (5, .slice p16 segments15.length k17), (7, .pointer (some ⟨b19, 0, none⟩)), (9, .pointer (some ⟨b20, 0, none⟩)), (55, .bool ((!rv22) || (decide (80 < (samples6.length : Int)))))] a) ?_ ?_
 ·rcases Bool.eq_false_or_eq_true (!rv22) with h28 | h28
  ·have hs := hs.fix 51 (.bool true) rfl (vb h28)
   refine st_skip hs rfl rfl rfl rfl rfl fun a hs => ?_
   refine st_skip hs rfl rfl rfl rfl rfl fun a hs => ?_
   refine st_skip hs rfl rfl rfl rfl rfl fun a hs => ?_
   refine sv hs (y_pickT rfl rfl) rfl fun a hs => ?_
   refine nl ?_
   exact ⟨rfl, (hs.fix 55 (.bool ((!rv22) || (decide (80 < (samples6.length : Int))))) rfl (or_t h28)).weaken _ ⟨rfl, rfl, rfl, rfl, rfl, rfl, rfl, trivial⟩⟩
  have hs := hs.fix 51 (.bool false) rfl (vb h28)
  refine st_val hs (y_move rfl) ⟨_, rfl, rfl⟩ rfl rfl fun a hs => ?_
  refine st_val hs (y_len Tryz.runUnderlying22 rfl) ⟨_, rfl, rfl⟩ rfl rfl fun a hs => ?_
  refine st_val hs (y_gtr rfl rfl) ⟨_, rfl, rfl⟩ rfl rfl fun a hs => ?_
  refine sv hs (y_pickF rfl rfl) rfl fun a hs => ?_
  refine nl ?_
  exact ⟨rfl, (hs.fix 55 (.bool ((!rv22) || (decide (80 < (samples6.length : Int))))) rfl (or_f h28)).weaken _ ⟨rfl, rfl, rfl, rfl, rfl, rfl, rfl, trivial⟩⟩
 rintro a w1 ⟨h29222, hs⟩
 subst h29222
 refine mv hs rfl rfl fun a hs => ?_
 refine wpl_join 4 (fun a w1 => w = w1 ∧ Sl 318 [(0, .slice p2 t1.length k3), (2, .slice p7 samples6.length k8), (4, .slice p12 list11.length k13), (5, .slice p16 segments15.length k17), (7, .pointer (some ⟨b19, 0, none⟩)), (9, .pointer (some ⟨b20, 0, none⟩)), (60, .bool (((!rv22) || (decide (80 < (samples6.length : Int)))) || (decide (20 < (list11.length : Int)))))] a) ?_ ?_
 ·rcases Bool.eq_false_or_eq_true ((!rv22) || (decide (80 < (samples6.length : Int)))) with h29 | h29
  ·have hs := hs.fix 56 (.bool true) rfl (vb h29)
   refine st_skip hs rfl rfl rfl rfl rfl fun a hs => ?_
   refine st_skip hs rfl rfl rfl rfl rfl fun a hs => ?_
   refine st_skip hs rfl rfl rfl rfl rfl fun a hs => ?_
   refine sv hs (y_pickT rfl rfl) rfl fun a hs => ?_
   refine nl ?_
   exact ⟨rfl, (hs.fix 60 (.bool (((!rv22) || (decide (80 < (samples6.length : Int)))) || (decide (20 < (list11.length : Int))))) rfl (or_t h29)).weaken _ ⟨rfl, rfl, rfl, rfl, rfl, rfl, rfl, trivial⟩⟩
  have hs := hs.fix 56 (.bool false) rfl (vb h29)
  refine st_val hs (y_move rfl) ⟨_, rfl, rfl⟩ rfl rfl fun a hs => ?_
  refine st_val hs (y_len Tryz.runUnderlying29 rfl) ⟨_, rfl, rfl⟩ rfl rfl fun a hs => ?_
  refine st_val hs (y_gtr rfl rfl) ⟨_, rfl, rfl⟩ rfl rfl fun a hs => ?_
  refine sv hs (y_pickF rfl rfl) rfl fun a hs => ?_
  refine nl ?_
  exact ⟨rfl, (hs.fix 60 (.bool (((!rv22) || (decide (80 < (samples6.length : Int)))) || (decide (20 < (list11.length : Int))))) rfl (or_f h29)).weaken _ ⟨rfl, rfl, rfl, rfl, rfl, rfl, rfl, trivial⟩⟩
 rintro a w1 ⟨h29221, hs⟩
 subst h29221
 refine mv hs rfl rfl fun a hs => ?_
 refine wpl_join 4 (fun a w1 => w = w1 ∧ Sl 318 [(0, .slice p2 t1.length k3), (2, .slice p7 samples6.length k8), (4, .slice p12 list11.length k13), (5, .slice p16 segments15.length k17), (7, .pointer (some ⟨b19, 0, none⟩)), (9, .pointer (some ⟨b20, 0, none⟩)), (65, .bool ((((!rv22) || (decide (80 < (samples6.length : Int)))) || (decide (20 < (list11.length : Int)))) || (decide (4 < (segments15.length : Int)))))] a) ?_ ?_
 ·rcases Bool.eq_false_or_eq_true (((!rv22) || (decide (80 < (samples6.length : Int)))) || (decide (20 < (list11.length : Int)))) with h30 | h30
  ·have hs := hs.fix 61 (.bool true) rfl (vb h30)
   refine st_skip hs rfl rfl rfl rfl rfl fun a hs => ?_
   refine st_skip hs rfl rfl rfl rfl rfl fun a hs => ?_
   refine st_skip hs rfl rfl rfl rfl rfl fun a hs => ?_
   refine sv hs (y_pickT rfl rfl) rfl fun a hs => ?_
   refine nl ?_
   exact ⟨rfl, (hs.fix 65 (.bool ((((!rv22) || (decide (80 < (samples6.length : Int)))) || (decide (20 < (list11.length : Int)))) || (decide (4 < (segments15.length : Int))))) rfl (or_t h30)).weaken _ ⟨rfl, rfl, rfl, rfl, rfl, rfl, rfl, trivial⟩⟩
  have hs := hs.fix 61 (.bool false) rfl (vb h30)
  refine st_val hs (y_move rfl) ⟨_, rfl, rfl⟩ rfl rfl fun a hs => ?_
  refine st_val hs (y_len Tryz.runUnderlying30 rfl) ⟨_, rfl, rfl⟩ rfl rfl fun a hs => ?_
  refine st_val hs (y_gtr rfl rfl) ⟨_, rfl, rfl⟩ rfl rfl fun a hs => ?_
  refine sv hs (y_pickF rfl rfl) rfl fun a hs => ?_
  refine nl ?_
  exact ⟨rfl, (hs.fix 65 (.bool ((((!rv22) || (decide (80 < (samples6.length : Int)))) || (decide (20 < (list11.length : Int)))) || (decide (4 < (segments15.length : Int))))) rfl (or_f h30)).weaken _ ⟨rfl, rfl, rfl, rfl, rfl, rfl, rfl, trivial⟩⟩
 rintro a w1 ⟨h29220, hs⟩
 subst h29220
 refine nl ?_
 refine wp_cond_split (hs.ev rfl) (fun h39 => ?_) (fun h39 => ?_)
 ·have hsh := ite_t hsh h39
  refine sr ?_
  obtain ⟨rv41, h40, hsh⟩ := bind_t hsh
  refine st_callR hs (law23_sane_ok h40 hw.bdom) (do_call Tryz.call5 rfl) trivial rfl rfl ?_
  intro v45 Sv42 w a h43 h44 hs
  subst h44
  have hw := hw.callB h43
  refine av hs rfl rfl fun a hs => ?_
  refine nl ?_
  have hsh := oi hsh
  subst hsh
  refine wp_ret ?_
  refine then_ret ?_
  exact ret1 hs rfl (rv_tmp rfl) (hw.ret rfl)
 have hsh := ite_f hsh h39
 refine wp_skip ?_
 refine then_normal ?_
 refine wp_seq ?_
 refine sr ?_
 refine mv hs rfl rfl fun a hs => ?_
 refine sv hs (y_len Tryz.runUnderlying30 rfl) rfl fun a hs => ?_
 refine mv hs rfl rfl fun a hs => ?_
 refine nl ?_
 refine wp_block ?_
 refine wp_while (fun sv133 a w => ∃ (Sv189 : Nat → Prop), Sl 318 [(0, .slice p2 t1.length k3), (2, .slice p7 samples6.length k8), (4, .slice p12 list11.length k13), (5, .slice p16 segments15.length k17), (7, .pointer (some ⟨b19, 0, none⟩)), (9, .pointer (some ⟨b20, 0, none⟩)), (67, .slice p16 segments15.length k17), (68, .int .i64 (segments15.length : Int)), (69, .int .i64 sv133)] a ∧ Wd ⟨w0, S0, []⟩ Sv189 [.box b19 [.int .i64 raw5.Detector.Short, .int .i64 raw5.Detector.Long, .int .i64 raw5.Detector.On, .int .i64 raw5.Detector.Off, .int .i64 raw5.Back, .int .i64 raw5.Level, .int .i64 raw5.Floor] 26, .box b20 [.int .i64 g10.On, .int .i64 g10.Off, .int .i64 g10.Peak] 28] [SlA p2 t1.length k3 t1, SlA p7 samples6.length k8 samples6, SlA p12 list11.length k13 list11, SlA p16 segments15.length k17 segments15] w) 0 hsh ⟨S0, (hs.wk rfl), (hw.ft [1, 0] [3, 2, 1, 0] (by decide) rfl rfl)⟩ ?_
 repeat clear hsh
 rintro sv133 a w tv218 ⟨Sv189, hs, hw⟩ hsh hd217
 delta law23_PickerExact_l2 at hsh
 refine sr ?_
 refine sv hs (y_lss rfl rfl) rfl fun a hs => ?_
 refine nl ?_
 refine wp_seq ?_
 refine wp_cond_split (hs.ev rfl) (fun h222 => ?_) (fun h222 => ?_)
 ·have hsh := ite_t hsh h222
  refine wp_skip ?_
  refine then_normal ?_
  refine wp_seq ?_
  refine wp_block ?_
  refine sr ?_
  obtain ⟨x251, h249, hsh⟩ := bind_t hsh
  obtain ⟨b257, o258, q255, c256, h259, h252, h253, h254, h250⟩ := hw.elemV 3 rfl h249
  have hsv260 := hs
  have hwv261 := hw
  subst h259
  have hs := hsv260
  have hw := hwv261
  obtain ⟨_, _, _, _, _, _, rfl, rfl, rfl, rfl, rfl, rfl, ⟨p262, n263, k264, rfl, h265⟩⟩ := h250
  obtain rfl := h265.1
  have hw := hw.addE (e := SlA p262 _ k264 x251.Samples) h265
  have hw := hw.addE h254
  refine sv hs (y_indexAt Tryz.runUnderlying30 Tryz.sizeOf36 rfl rfl h252.1 h252.2 h253) rfl fun a hs => ?_
  refine sv hs (y_loadEA (j := 0) (hw.ceAt 0 rfl) rfl Tryz.isAgg36 Tryz.sizeOf36 rfl rfl) rfl fun a hs => ?_
  refine w_alloc (cs := [.int .i64 0, .int .i64 0, .int .i64 0, .int .i64 0, .int .i64 0, .slice none ([] : List Int).length 0]) hs hw Tryz.zeroValue36 rfl rfl trivial ?_
  intro b266 a w hs hw
  refine w_store (m := 6) (cs' := [.int .i64 x251.Start, .int .i64 x251.First, .int .i64 x251.Rate.Num, .int .i64 x251.Rate.Den, .int .i64 x251.Error, .slice p262 x251.Samples.length k264]) hs hw 0 rfl rfl rfl Tryz.sizeOf36 rfl rfl rfl rfl trivial ?_
  intro a w hs hw
  refine nl ?_
  refine sr ?_
  refine sv hs (y_fieldAddr (o' := 5) Tryz.runUnderlying36 rfl Tryz.sizeOf22 rfl rfl rfl) rfl fun a hs => ?_
  refine sv hs (y_loadB1 (hw.ownAt 0 rfl) rfl Tryz.isAgg22 rfl) rfl fun a hs => ?_
  refine sv hs (y_len Tryz.runUnderlying22 rfl) rfl fun a hs => ?_
  refine sv hs (y_gtr rfl rfl) rfl fun a hs => ?_
  refine nl ?_
  refine wp_cond_split (hs.ev rfl) (fun h275 => ?_) (fun h275 => ?_)
  ·have hsh := ite_t hsh h275
   refine sr ?_
   obtain ⟨rv277, h276, hsh⟩ := bind_t hsh
   refine st_callR hs (law23_sane_ok h276 hw.bdom) (do_call Tryz.call5 rfl) trivial rfl rfl ?_
   intro v281 Sv278 w a h279 h280 hs
   subst h280
   have hw := hw.callB h279
   refine av hs rfl rfl fun a hs => ?_
   refine nl ?_
   have hsh := oi hsh
   subst hsh
   have h283 := hd217 _ rfl
   subst h283
   refine wp_ret ?_
   refine blk_ret ?_
   refine then_ret ?_
   refine then_ret ?_
   refine blk_ret ?_
   refine then_ret ?_
   exact ret1 hs rfl (rv_tmp rfl) (hw.ret rfl)
  have hsh := ite_f hsh h275
  refine wp_skip ?_
  refine blk_normal ?_
  refine then_normal ?_
  refine wp_region_lit ?_
  refine sv hs (y_add rfl rfl) rfl fun a hs => ?_
  refine mv hs rfl rfl fun a hs => ?_
  refine nl ?_
  exact ⟨_, (Option.some.inj hsh).symm, Sv189, (hs.wk rfl), (hw.ft [1, 2] [2, 3, 4, 5] (by decide) rfl rfl)⟩
 have hsh := ite_f hsh h222
 obtain ⟨rv29218, hsh, h29219⟩ := map_t hsh
 have h29219 := (hd217 _ h29219.symm).symm
 subst h29219
 refine wp_exit ?_
 refine then_exit ?_
 refine then_exit ?_
 refine blk_exit ?_
 refine then_normal ?_
 refine sr ?_
 refine mv hs rfl rfl fun a hs => ?_
 obtain ⟨rv285, h284, hsh⟩ := bind_t hsh
 refine st_callR hs (made_Roll_ok h284 hw.dom (hw.envAt 0 rfl)) (do_call Tryz.call6 rfl) trivial rfl rfl ?_
 intro v293 Sv290 w a h291 h292 hs
 obtain ⟨b286, p287, k288, rfl, h294, h289⟩ := h292
 have hw := hw.callN h291 h294
 have hw := hw.addE (e := SlA p287 rv285.L.length k288 rv285.L) h289
 refine av hs rfl rfl fun a hs => ?_
 refine nl ?_
 refine sr ?_
 refine mv hs rfl rfl fun a hs => ?_
 obtain ⟨rv296, h295, hsh⟩ := bind_t hsh
 refine st_callR hs (made_Dice_Picking_ok h295 hw.dom (hw.ins [0] (by decide) rfl) (hw.envAt 0 rfl)) (do_call Tryz.call7 rfl) trivial rfl rfl ?_
 intro v303 Sv300 w a h301 h302 hs
 obtain ⟨p297, k298, rfl, h304, h299⟩ := h302
 have hw := hw.callO [0] [1, 2] (by decide) rfl h301 h304
 have hw := hw.addE (e := SlA p297 rv296.2.L.length k298 rv296.2.L) h299
 refine mv hs rfl rfl fun a hs => ?_
 obtain ⟨rv306, h305, hsh⟩ := bind_t hsh
 refine st_callR hs (made_Dice_Source_ok h305 hw.dom (hw.ins [0] (by decide) rfl) (hw.envAt 0 rfl)) (do_call Tryz.call8 rfl) trivial rfl rfl ?_
 intro v313 Sv310 w a h311 h312 hs
 obtain ⟨p307, k308, rfl, h314, h309⟩ := h312
 have hw := hw.callO [0] [1, 2] (by decide) rfl h311 h314
 have hw := hw.addE (e := SlA p307 rv306.2.L.length k308 rv306.2.L) h309
 refine w_alloc (cs := [.int .i64 0, .int .i64 0, .int .i64 0, .int .i64 0, .int .i64 0, .int .i64 0, .int .i64 0]) hs hw Tryz.zeroValue26 rfl rfl trivial ?_
 intro b315 a w hs hw
 refine w_alloc (cs := [.string ByteArray.empty, .string ByteArray.empty, .string ByteArray.empty, .string ByteArray.empty]) hs hw Tryz.zeroValue41 rfl rfl trivial ?_
 intro b316 a w hs hw
 refine w_store (m := 7) (cs' := [.int .i64 rv296.1.Detector.Short, .int .i64 rv296.1.Detector.Long, .int .i64 rv296.1.Detector.On, .int .i64 rv296.1.Detector.Off, .int .i64 rv296.1.Back, .int .i64 rv296.1.Level, .int .i64 rv296.1.Floor]) hs hw 1 rfl rfl rfl Tryz.sizeOf26 rfl rfl rfl rfl trivial ?_
 intro a w hs hw
 refine w_store (m := 4) (cs' := [.string rv306.1.Network, .string rv306.1.Station, .string rv306.1.Location, .string rv306.1.Channel]) hs hw 0 rfl rfl rfl Tryz.sizeOf41 rfl rfl rfl rfl trivial ?_
 intro a w hs hw
 refine nl ?_
 refine sr ?_
 refine sv hs (y_loadBA (hw.ownAt 1 rfl) rfl Tryz.isAgg26 Tryz.sizeOf26 rfl rfl) rfl fun a hs => ?_
 refine w_alloc (cs := [.int .i64 0, .int .i64 0, .int .i64 0, .int .i64 0, .int .i64 0, .int .i64 0, .int .i64 0]) hs hw Tryz.zeroValue26 rfl rfl trivial ?_
 intro b317 a w hs hw
 refine w_store (m := 7) (cs' := [.int .i64 rv296.1.Detector.Short, .int .i64 rv296.1.Detector.Long, .int .i64 rv296.1.Detector.On, .int .i64 rv296.1.Detector.Off, .int .i64 rv296.1.Back, .int .i64 rv296.1.Level, .int .i64 rv296.1.Floor]) hs hw 0 rfl rfl rfl Tryz.sizeOf26 rfl rfl rfl rfl trivial ?_
 intro a w hs hw
 refine nl ?_
 refine wp_seq ?_
 refine sr ?_
 refine mv hs rfl rfl fun a hs => ?_
 obtain ⟨rv319, h318, hsh⟩ := bind_t hsh
 refine st_callR hs (made_Dice_Next_ok h318 hw.dom (hw.ins [3] (by decide) rfl) (hw.envAt 0 rfl)) (do_call Tryz.call9 rfl) trivial rfl rfl ?_
 intro v326 Sv323 w a h324 h325 hs
 obtain ⟨p320, k321, rfl, h327, h322⟩ := h325
 have hw := hw.callO [3] [0, 1, 2, 4, 5] (by decide) rfl h324 h327
 have hw := hw.addE (e := SlA p320 rv319.2.L.length k321 rv319.2.L) h322
 refine nl ?_
 refine wp_block ?_
 refine sr ?_
 refine sv hs (y_eql rfl rfl) rfl fun a hs => ?_
 refine av hs rfl rfl fun a hs => ?_
 refine nl ?_
 refine wp_join (fun a w => ∃ (x460 : (List Int)) (x461 : Int) (x462 : Int) (x463 : Int) (x464 : Int) (x465 : Int) (p457 : Option Addr) (k458 : Nat) (Sv459 : Nat → Prop), law23_PickerExact_j1 raw5 samples6 g10 list11 segments15 rv296 rv306 x460 x461 x462 x463 x464 x465 = some r ∧ Sl 318 [(2, .slice p7 samples6.length k8), (4, .slice p12 list11.length k13), (5, .slice p16 segments15.length k17), (7, .pointer (some ⟨b19, 0, none⟩)), (9, .pointer (some ⟨b20, 0, none⟩)), (15, .pointer (some ⟨b286, 0, none⟩)), (16, .pointer (some ⟨b315, 0, none⟩)), (17, .pointer (some ⟨b316, 0, none⟩)), (18, .pointer (some ⟨b317, 0, none⟩))] a ∧ Wd ⟨w0, S0, []⟩ Sv459 [.box b19 [.int .i64 raw5.Detector.Short, .int .i64 raw5.Detector.Long, .int .i64 raw5.Detector.On, .int .i64 raw5.Detector.Off, .int .i64 raw5.Back, .int .i64 raw5.Level, .int .i64 raw5.Floor] 26, .box b20 [.int .i64 g10.On, .int .i64 g10.Off, .int .i64 g10.Peak] 28, .box b286 [.slice p457 x460.length k458, .int .i64 x461] 70, .box b315 [.int .i64 rv296.1.Detector.Short, .int .i64 rv296.1.Detector.Long, .int .i64 rv296.1.Detector.On, .int .i64 rv296.1.Detector.Off, .int .i64 rv296.1.Back, .int .i64 rv296.1.Level, .int .i64 rv296.1.Floor] 26, .box b316 [.string rv306.1.Network, .string rv306.1.Station, .string rv306.1.Location, .string rv306.1.Channel] 41, .box b317 [.int .i64 rv296.1.Detector.Short, .int .i64 x462, .int .i64 rv296.1.Detector.On, .int .i64 rv296.1.Detector.Off, .int .i64 x463, .int .i64 x464, .int .i64 x465] 26] [SlA p7 samples6.length k8 samples6, SlA p12 list11.length k13 list11, SlA p16 segments15.length k17 segments15, SlA p457 x460.length k458 x460] w) ?_ ?_
 ·refine wp_cond_split (hs.ev rfl) (fun h29102 => ?_) (fun h29102 => ?_)
  ·have hsh := ite_t hsh h29102
   refine wp_region_lit ?_
   refine mv hs rfl rfl fun a hs => ?_
   refine w_litSlice (α := Int) (vs := [.int .i64 (-1), .int .i64 512, .int .i64 513]) (cs := [.int .i64 (-1), .int .i64 512, .int .i64 513]) (xs := ([(-1), 512, 513] : List Int)) hs hw El22 rfl rfl rfl rfl rfl rfl ⟨⟨_, rfl, rfl⟩, ⟨⟨_, rfl, rfl⟩, ⟨⟨_, rfl, rfl⟩, rfl⟩⟩⟩ rfl trivial rfl fun b29104 a w hs hw => ?_
   obtain ⟨rv29106, h29105, hsh⟩ := bind_t hsh
   obtain ⟨Sv29110, hw⟩ := w_share (α := Int) hw 0 rfl 0 rfl
   refine st_callR hs (made_Dice_Pick_ok h29105 hw.dom (hw.ins [0] (by decide) rfl) (hw.envAt 2 rfl) (hw.envAt 0 rfl)) (do_call Tryz.call10 rfl) trivial rfl rfl ?_
   intro v29114 Sv29111 w a h29112 h29113 hs
   obtain ⟨p29107, k29108, rfl, h29115, h29109⟩ := h29113
   have hw := hw.callO [0] [1, 2, 3, 4, 5] (by decide) rfl h29112 h29115
   have hw := hw.addE (e := SlA p29107 rv29106.2.L.length k29108 rv29106.2.L) h29109
   refine sv hs (y_fieldAddr (o' := 4) Tryz.runUnderlying26 rfl Tryz.sizeOf3 rfl rfl rfl) rfl fun a hs => ?_
   refine w_store (m := 1) (cs' := [.int .i64 rv296.1.Detector.Short, .int .i64 rv296.1.Detector.Long, .int .i64 rv296.1.Detector.On, .int .i64 rv296.1.Detector.Off, .int .i64 rv29106.1, .int .i64 rv296.1.Level, .int .i64 rv296.1.Floor]) hs hw 1 rfl rfl rfl Tryz.sizeOf3 rfl rfl rfl rfl trivial ?_
   intro a w hs hw
   refine nl ?_
   exact ⟨rv29106.2.L, rv29106.2.At, rv296.1.Detector.Long, rv29106.1, rv296.1.Level, rv296.1.Floor, p29107, k29108, Sv29111, hsh, (hs.wk rfl), (hw.ft [4, 5, 0, 3, 2, 1] [8, 9, 10, 0] (by decide) rfl rfl)⟩
  have hsh := ite_f hsh h29102
  refine sr ?_
  refine sv hs (y_eql rfl rfl) rfl fun a hs => ?_
  refine av hs rfl rfl fun a hs => ?_
  refine nl ?_
  refine wp_join (fun a w => ∃ (x29157 : (List Int)) (x29158 : Int) (x29159 : Int) (x29160 : Int) (x29161 : Int) (p29154 : Option Addr) (k29155 : Nat) (Sv29156 : Nat → Prop), law23_PickerExact_j10 raw5 samples6 g10 list11 segments15 rv296 rv306 x29157 x29158 x29159 x29160 x29161 = some r ∧ Sl 318 [(2, .slice p7 samples6.length k8), (4, .slice p12 list11.length k13), (5, .slice p16 segments15.length k17), (7, .pointer (some ⟨b19, 0, none⟩)), (9, .pointer (some ⟨b20, 0, none⟩)), (15, .pointer (some ⟨b286, 0, none⟩)), (16, .pointer (some ⟨b315, 0, none⟩)), (17, .pointer (some ⟨b316, 0, none⟩)), (18, .pointer (some ⟨b317, 0, none⟩))] a ∧ Wd ⟨w0, S0, []⟩ Sv29156 [.box b19 [.int .i64 raw5.Detector.Short, .int .i64 raw5.Detector.Long, .int .i64 raw5.Detector.On, .int .i64 raw5.Detector.Off, .int .i64 raw5.Back, .int .i64 raw5.Level, .int .i64 raw5.Floor] 26, .box b20 [.int .i64 g10.On, .int .i64 g10.Off, .int .i64 g10.Peak] 28, .box b286 [.slice p29154 x29157.length k29155, .int .i64 x29158] 70, .box b315 [.int .i64 rv296.1.Detector.Short, .int .i64 rv296.1.Detector.Long, .int .i64 rv296.1.Detector.On, .int .i64 rv296.1.Detector.Off, .int .i64 rv296.1.Back, .int .i64 rv296.1.Level, .int .i64 rv296.1.Floor] 26, .box b316 [.string rv306.1.Network, .string rv306.1.Station, .string rv306.1.Location, .string rv306.1.Channel] 41, .box b317 [.int .i64 rv296.1.Detector.Short, .int .i64 x29159, .int .i64 rv296.1.Detector.On, .int .i64 rv296.1.Detector.Off, .int .i64 rv296.1.Back, .int .i64 x29160, .int .i64 x29161] 26] [SlA p7 samples6.length k8 samples6, SlA p12 list11.length k13 list11, SlA p16 segments15.length k17 segments15, SlA p29154 x29157.length k29155 x29157] w) ?_ ?_
  ·refine wp_cond_split (hs.ev rfl) (fun h29162 => ?_) (fun h29162 => ?_)
   ·have hsh := ite_t hsh h29162
    refine wp_region_lit ?_
    refine mv hs rfl rfl fun a hs => ?_
    refine w_litSlice (α := Int) (vs := [.int .i64 (-1), .int .i64 0, .int .i64 10001]) (cs := [.int .i64 (-1), .int .i64 0, .int .i64 10001]) (xs := ([(-1), 0, 10001] : List Int)) hs hw El22 rfl rfl rfl rfl rfl rfl ⟨⟨_, rfl, rfl⟩, ⟨⟨_, rfl, rfl⟩, ⟨⟨_, rfl, rfl⟩, rfl⟩⟩⟩ rfl trivial rfl fun b29164 a w hs hw => ?_
    obtain ⟨rv29166, h29165, hsh⟩ := bind_t hsh
    obtain ⟨Sv29170, hw⟩ := w_share (α := Int) hw 0 rfl 0 rfl
    refine st_callR hs (made_Dice_Pick_ok h29165 hw.dom (hw.ins [0] (by decide) rfl) (hw.envAt 2 rfl) (hw.envAt 0 rfl)) (do_call Tryz.call10 rfl) trivial rfl rfl ?_
    intro v29174 Sv29171 w a h29172 h29173 hs
    obtain ⟨p29167, k29168, rfl, h29175, h29169⟩ := h29173
    have hw := hw.callO [0] [1, 2, 3, 4, 5] (by decide) rfl h29172 h29175
    have hw := hw.addE (e := SlA p29167 rv29166.2.L.length k29168 rv29166.2.L) h29169
    refine sv hs (y_fieldAddr (o' := 5) Tryz.runUnderlying26 rfl Tryz.sizeOf3 rfl rfl rfl) rfl fun a hs => ?_
    refine w_store (m := 1) (cs' := [.int .i64 rv296.1.Detector.Short, .int .i64 rv296.1.Detector.Long, .int .i64 rv296.1.Detector.On, .int .i64 rv296.1.Detector.Off, .int .i64 rv296.1.Back, .int .i64 rv29166.1, .int .i64 rv296.1.Floor]) hs hw 1 rfl rfl rfl Tryz.sizeOf3 rfl rfl rfl rfl trivial ?_
    intro a w hs hw
    refine nl ?_
    exact ⟨rv29166.2.L, rv29166.2.At, rv296.1.Detector.Long, rv29166.1, rv296.1.Floor, p29167, k29168, Sv29171, hsh, (hs.wk rfl), (hw.ft [4, 5, 0, 3, 2, 1] [8, 9, 10, 0] (by decide) rfl rfl)⟩
   have hsh := ite_f hsh h29162
   refine sr ?_
   refine sv hs (y_eql rfl rfl) rfl fun a hs => ?_
   refine av hs rfl rfl fun a hs => ?_
   refine nl ?_
   refine wp_join (fun a w => ∃ (x29196 : (List Int)) (x29197 : Int) (x29198 : Int) (x29199 : Int) (p29193 : Option Addr) (k29194 : Nat) (Sv29195 : Nat → Prop), law23_PickerExact_j11 raw5 samples6 g10 list11 segments15 rv296 rv306 x29196 x29197 x29198 x29199 = some r ∧ Sl 318 [(2, .slice p7 samples6.length k8), (4, .slice p12 list11.length k13), (5, .slice p16 segments15.length k17), (7, .pointer (some ⟨b19, 0, none⟩)), (9, .pointer (some ⟨b20, 0, none⟩)), (15, .pointer (some ⟨b286, 0, none⟩)), (16, .pointer (some ⟨b315, 0, none⟩)), (17, .pointer (some ⟨b316, 0, none⟩)), (18, .pointer (some ⟨b317, 0, none⟩))] a ∧ Wd ⟨w0, S0, []⟩ Sv29195 [.box b19 [.int .i64 raw5.Detector.Short, .int .i64 raw5.Detector.Long, .int .i64 raw5.Detector.On, .int .i64 raw5.Detector.Off, .int .i64 raw5.Back, .int .i64 raw5.Level, .int .i64 raw5.Floor] 26, .box b20 [.int .i64 g10.On, .int .i64 g10.Off, .int .i64 g10.Peak] 28, .box b286 [.slice p29193 x29196.length k29194, .int .i64 x29197] 70, .box b315 [.int .i64 rv296.1.Detector.Short, .int .i64 rv296.1.Detector.Long, .int .i64 rv296.1.Detector.On, .int .i64 rv296.1.Detector.Off, .int .i64 rv296.1.Back, .int .i64 rv296.1.Level, .int .i64 rv296.1.Floor] 26, .box b316 [.string rv306.1.Network, .string rv306.1.Station, .string rv306.1.Location, .string rv306.1.Channel] 41, .box b317 [.int .i64 rv296.1.Detector.Short, .int .i64 x29198, .int .i64 rv296.1.Detector.On, .int .i64 rv296.1.Detector.Off, .int .i64 rv296.1.Back, .int .i64 rv296.1.Level, .int .i64 x29199] 26] [SlA p7 samples6.length k8 samples6, SlA p12 list11.length k13 list11, SlA p16 segments15.length k17 segments15, SlA p29193 x29196.length k29194 x29196] w) ?_ ?_
   ·refine wp_cond_split (hs.ev rfl) (fun h29200 => ?_) (fun h29200 => ?_)
    ·have hsh := ite_t hsh h29200
     refine wp_region_lit ?_
     refine mv hs rfl rfl fun a hs => ?_
     refine w_litSlice (α := Int) (vs := [.int .i64 (-1), .int .i64 1073741823, .int .i64 1073741824]) (cs := [.int .i64 (-1), .int .i64 1073741823, .int .i64 1073741824]) (xs := ([(-1), 1073741823, 1073741824] : List Int)) hs hw El22 rfl rfl rfl rfl rfl rfl ⟨⟨_, rfl, rfl⟩, ⟨⟨_, rfl, rfl⟩, ⟨⟨_, rfl, rfl⟩, rfl⟩⟩⟩ rfl trivial rfl fun b29202 a w hs hw => ?_
     obtain ⟨rv29204, h29203, hsh⟩ := bind_t hsh
     obtain ⟨Sv29208, hw⟩ := w_share (α := Int) hw 0 rfl 0 rfl
     refine st_callR hs (made_Dice_Pick_ok h29203 hw.dom (hw.ins [0] (by decide) rfl) (hw.envAt 2 rfl) (hw.envAt 0 rfl)) (do_call Tryz.call10 rfl) trivial rfl rfl ?_
     intro v29212 Sv29209 w a h29210 h29211 hs
     obtain ⟨p29205, k29206, rfl, h29213, h29207⟩ := h29211
     have hw := hw.callO [0] [1, 2, 3, 4, 5] (by decide) rfl h29210 h29213
     have hw := hw.addE (e := SlA p29205 rv29204.2.L.length k29206 rv29204.2.L) h29207
     refine sv hs (y_fieldAddr (o' := 6) Tryz.runUnderlying26 rfl Tryz.sizeOf3 rfl rfl rfl) rfl fun a hs => ?_
     refine w_store (m := 1) (cs' := [.int .i64 rv296.1.Detector.Short, .int .i64 rv296.1.Detector.Long, .int .i64 rv296.1.Detector.On, .int .i64 rv296.1.Detector.Off, .int .i64 rv296.1.Back, .int .i64 rv296.1.Level, .int .i64 rv29204.1]) hs hw 1 rfl rfl rfl Tryz.sizeOf3 rfl rfl rfl rfl trivial ?_
     intro a w hs hw
     refine nl ?_
     exact ⟨rv29204.2.L, rv29204.2.At, rv296.1.Detector.Long, rv29204.1, p29205, k29206, Sv29209, hsh, (hs.wk rfl), (hw.ft [4, 5, 0, 3, 2, 1] [8, 9, 10, 0] (by decide) rfl rfl)⟩
    have hsh := ite_f hsh h29200
    refine sr ?_
    refine sv hs (y_eql rfl rfl) rfl fun a hs => ?_
    refine av hs rfl rfl fun a hs => ?_
    refine nl ?_
    refine wp_join (fun a w => ∃ (x29216 : Int) (Sv29215 : Nat → Prop), law23_PickerExact_j12 raw5 samples6 g10 list11 segments15 rv296 rv306 rv319 x29216 = some r ∧ Sl 318 [(2, .slice p7 samples6.length k8), (4, .slice p12 list11.length k13), (5, .slice p16 segments15.length k17), (7, .pointer (some ⟨b19, 0, none⟩)), (9, .pointer (some ⟨b20, 0, none⟩)), (15, .pointer (some ⟨b286, 0, none⟩)), (16, .pointer (some ⟨b315, 0, none⟩)), (17, .pointer (some ⟨b316, 0, none⟩)), (18, .pointer (some ⟨b317, 0, none⟩))] a ∧ Wd ⟨w0, S0, []⟩ Sv29215 [.box b19 [.int .i64 raw5.Detector.Short, .int .i64 raw5.Detector.Long, .int .i64 raw5.Detector.On, .int .i64 raw5.Detector.Off, .int .i64 raw5.Back, .int .i64 raw5.Level, .int .i64 raw5.Floor] 26, .box b20 [.int .i64 g10.On, .int .i64 g10.Off, .int .i64 g10.Peak] 28, .box b286 [.slice p320 rv319.2.L.length k321, .int .i64 rv319.2.At] 70, .box b315 [.int .i64 rv296.1.Detector.Short, .int .i64 rv296.1.Detector.Long, .int .i64 rv296.1.Detector.On, .int .i64 rv296.1.Detector.Off, .int .i64 rv296.1.Back, .int .i64 rv296.1.Level, .int .i64 rv296.1.Floor] 26, .box b316 [.string rv306.1.Network, .string rv306.1.Station, .string rv306.1.Location, .string rv306.1.Channel] 41, .box b317 [.int .i64 rv296.1.Detector.Short, .int .i64 x29216, .int .i64 rv296.1.Detector.On, .int .i64 rv296.1.Detector.Off, .int .i64 rv296.1.Back, .int .i64 rv296.1.Level, .int .i64 rv296.1.Floor] 26] [SlA p7 samples6.length k8 samples6, SlA p12 list11.length k13 list11, SlA p16 segments15.length k17 segments15, SlA p320 rv319.2.L.length k321 rv319.2.L] w) ?_ ?_
    ·refine wp_cond_split (hs.ev rfl) (fun h29217 => ?_) (fun h29217 => ?_)
     ·have hsh := ite_t hsh h29217
      refine wp_region_lit ?_
      refine sv hs (y_fieldAddr (o' := 0) Tryz.runUnderlying26 rfl Tryz.sizeOf24 rfl rfl rfl) rfl fun a hs => ?_
      refine sv hs (y_fieldAddr (o' := 1) Tryz.runUnderlying24 rfl Tryz.sizeOf3 rfl rfl rfl) rfl fun a hs => ?_
      refine w_store (m := 1) (cs' := [.int .i64 rv296.1.Detector.Short, .int .i64 0, .int .i64 rv296.1.Detector.On, .int .i64 rv296.1.Detector.Off, .int .i64 rv296.1.Back, .int .i64 rv296.1.Level, .int .i64 rv296.1.Floor]) hs hw 1 rfl rfl rfl Tryz.sizeOf3 rfl rfl rfl rfl trivial ?_
      intro a w hs hw
      refine nl ?_
      exact ⟨0, Sv323, hsh, (hs.wk rfl), (hw.ft [4, 5, 0, 3, 2, 1] [5, 6, 7, 0] (by decide) rfl rfl)⟩
     have hsh := ite_f hsh h29217
     refine wp_skip ?_
     refine then_normal ?_
     exact ⟨rv296.1.Detector.Long, Sv323, hsh, (hs.wk rfl), (hw.ft [4, 5, 0, 3, 2, 1] [5, 6, 7, 0] (by decide) rfl rfl)⟩
    rintro a w ⟨x29216, Sv29215, hsh, hs, hw⟩
    delta law23_PickerExact_j12 at hsh
    refine then_normal ?_
    exact ⟨rv319.2.L, rv319.2.At, x29216, rv296.1.Floor, p320, k321, Sv29215, hsh, (hs.wk rfl), (hw.ft [0, 1, 2, 3, 4, 5] [0, 1, 2, 3] (by decide) rfl rfl)⟩
   rintro a w ⟨x29196, x29197, x29198, x29199, p29193, k29194, Sv29195, hsh, hs, hw⟩
   delta law23_PickerExact_j11 at hsh
   refine then_normal ?_
   exact ⟨x29196, x29197, x29198, rv296.1.Level, x29199, p29193, k29194, Sv29195, hsh, (hs.wk rfl), (hw.ft [0, 1, 2, 3, 4, 5] [0, 1, 2, 3] (by decide) rfl rfl)⟩
  rintro a w ⟨x29157, x29158, x29159, x29160, x29161, p29154, k29155, Sv29156, hsh, hs, hw⟩
  delta law23_PickerExact_j10 at hsh
  refine then_normal ?_
  exact ⟨x29157, x29158, x29159, rv296.1.Back, x29160, x29161, p29154, k29155, Sv29156, hsh, (hs.wk rfl), (hw.ft [0, 1, 2, 3, 4, 5] [0, 1, 2, 3] (by decide) rfl rfl)⟩
 rintro a w ⟨x460, x461, x462, x463, x464, x465, p457, k458, Sv459, hsh, hs, hw⟩
 delta law23_PickerExact_j1 at hsh
 refine blk_normal ?_
 refine then_normal ?_
 refine sr ?_
 refine mv hs rfl rfl fun a hs => ?_
 obtain ⟨rv467, h466, hsh⟩ := bind_t hsh
 refine st_callR hs (made_Dice_Wave_ok h466 hw.dom (hw.ins [2] (by decide) rfl) (hw.envAt 3 rfl)) (do_call Tryz.call11 rfl) trivial rfl rfl ?_
 intro v478 Sv475 w a h476 h477 hs
 obtain ⟨p468, k469, c471, p472, k473, rfl, h479, h470, h474⟩ := h477
 have hw := hw.callO [2] [0, 1, 3, 4, 5] (by decide) rfl h476 h479
 have hw := hw.addE (e := RowA c471 rv467.1) h470
 have hw := hw.addE (e := SlA p472 rv467.2.L.length k473 rv467.2.L) h474
 refine av hs rfl rfl fun a hs => ?_
 refine nl ?_
 refine sr ?_
 refine mv hs rfl rfl fun a hs => ?_
 obtain ⟨rv481, h480, hsh⟩ := bind_t hsh
 refine st_callR hs (made_Dice_Segment_ok h480 hw.dom (hw.ins [1] (by decide) rfl) (hw.envAt 0 rfl)) (do_call Tryz.call12 rfl) trivial rfl rfl ?_
 intro v492 Sv489 w a h490 h491 hs
 obtain ⟨p482, k483, c485, p486, k487, rfl, h493, h484, h488⟩ := h491
 have hw := hw.callO [1] [0, 2, 3, 4, 5, 6] (by decide) rfl h490 h493
 have hw := hw.addE (e := RowA c485 rv481.1.Samples) h484
 have hw := hw.addE (e := SlA p486 rv481.2.L.length k487 rv481.2.L) h488
 refine mv hs rfl rfl fun a hs => ?_
 obtain ⟨rv495, h494, hsh⟩ := bind_t hsh
 refine st_callR hs (made_Dice_Segment_ok h494 hw.dom (hw.ins [1] (by decide) rfl) (hw.envAt 0 rfl)) (do_call Tryz.call12 rfl) trivial rfl rfl ?_
 intro v506 Sv503 w a h504 h505 hs
 obtain ⟨p496, k497, c499, p500, k501, rfl, h507, h498, h502⟩ := h505
 have hw := hw.callO [1] [0, 2, 3, 4, 5, 6, 7] (by decide) rfl h504 h507
 have hw := hw.addE (e := RowA c499 rv495.1.Samples) h498
 have hw := hw.addE (e := SlA p500 rv495.2.L.length k501 rv495.2.L) h502
 obtain ⟨Sv510, hw⟩ := w_share (α := Int) hw 2 rfl 3 rfl
 obtain ⟨Sv511, hw⟩ := w_share (α := Int) hw 0 rfl 2 rfl
 refine w_litSlice (α := Segment) (vs := [.agg #[.int .i64 rv481.1.Start, .int .i64 rv481.1.First, .int .i64 rv481.1.Rate.Num, .int .i64 rv481.1.Rate.Den, .int .i64 rv481.1.Error, .slice p482 rv481.1.Samples.length k483], .agg #[.int .i64 rv495.1.Start, .int .i64 rv495.1.First, .int .i64 rv495.1.Rate.Num, .int .i64 rv495.1.Rate.Den, .int .i64 rv495.1.Error, .slice p496 rv495.1.Samples.length k497]]) (cs := [.int .i64 rv481.1.Start, .int .i64 rv481.1.First, .int .i64 rv481.1.Rate.Num, .int .i64 rv481.1.Rate.Den, .int .i64 rv481.1.Error, .slice p482 rv481.1.Samples.length k483, .int .i64 rv495.1.Start, .int .i64 rv495.1.First, .int .i64 rv495.1.Rate.Num, .int .i64 rv495.1.Rate.Den, .int .i64 rv495.1.Error, .slice p496 rv495.1.Samples.length k497]) (xs := ([rv481.1, rv495.1] : List Segment)) hs hw El30 rfl rfl rfl rfl rfl rfl ⟨⟨_, _, _, _, _, _, rfl, rfl, rfl, rfl, rfl, rfl, ⟨_, _, _, rfl, hw.envAt 1 rfl⟩⟩, ⟨⟨_, _, _, _, _, _, rfl, rfl, rfl, rfl, rfl, rfl, ⟨_, _, _, rfl, hw.envAt 0 rfl⟩⟩, rfl⟩⟩ rfl trivial rfl fun b509 a w hs hw => ?_
 refine av hs rfl rfl fun a hs => ?_
 refine nl ?_
 refine sr ?_
 refine sv hs (y_fieldAddr (o' := 0) Tryz.runUnderlying26 rfl Tryz.sizeOf24 rfl rfl rfl) rfl fun a hs => ?_
 refine sv hs (y_loadBA (hw.ownAt 5 rfl) rfl Tryz.isAgg24 Tryz.sizeOf24 rfl rfl) rfl fun a hs => ?_
 refine mv hs rfl rfl fun a hs => ?_
 obtain ⟨rv513, h512, hsh⟩ := bind_t hsh
 obtain ⟨Sv518, hw⟩ := w_share (α := Int) hw 2 rfl 8 rfl
 refine st_callR hs (ref22_Run_ok h512 hw.dom (hw.envAt 0 rfl)) (do_call Tryz.call13 rfl) trivial rfl rfl ?_
 intro v522 Sv519 w a h520 h521 hs
 obtain ⟨p514, k515, c517, rfl, h523, h516⟩ := h521
 have hw := hw.callN h520 h523
 have hw := hw.addE (e := RowA c517 rv513.1) h516
 refine mv hs rfl rfl fun a hs => ?_
 refine sv hs (y_extract rfl rfl) rfl fun a hs => ?_
 refine sv hs (y_extract rfl rfl) rfl fun a hs => ?_
 refine av hs rfl rfl fun a hs => ?_
 refine av hs rfl rfl fun a hs => ?_
 refine nl ?_
 refine wp_seq ?_
 obtain ⟨rv525, h524, hsh⟩ := bind_t hsh
 obtain ⟨l532, h531, hsh⟩ := bind_t hsh
 refine wp_only (fun a w => ∃ (Sv536 : Nat → Prop) (c535 : List Value) (k534 : Nat) (p533 : Option Addr), Sl 318 [(2, .slice p7 samples6.length k8), (4, .slice p12 list11.length k13), (5, .slice p16 segments15.length k17), (7, .pointer (some ⟨b19, 0, none⟩)), (16, .pointer (some ⟨b315, 0, none⟩)), (17, .pointer (some ⟨b316, 0, none⟩)), (18, .pointer (some ⟨b317, 0, none⟩)), (19, .slice p468 rv467.1.length k469), (20, .slice (some ⟨b509, 0, none⟩) ([rv481.1, rv495.1] : List Segment).length ([rv481.1, rv495.1] : List Segment).length), (21, .slice p533 l532.length k534)] a ∧ Wd ⟨w0, S0, []⟩ Sv536 [.box b19 [.int .i64 raw5.Detector.Short, .int .i64 raw5.Detector.Long, .int .i64 raw5.Detector.On, .int .i64 raw5.Detector.Off, .int .i64 raw5.Back, .int .i64 raw5.Level, .int .i64 raw5.Floor] 26, .box b315 [.int .i64 rv296.1.Detector.Short, .int .i64 rv296.1.Detector.Long, .int .i64 rv296.1.Detector.On, .int .i64 rv296.1.Detector.Off, .int .i64 rv296.1.Back, .int .i64 rv296.1.Level, .int .i64 rv296.1.Floor] 26, .box b316 [.string rv306.1.Network, .string rv306.1.Station, .string rv306.1.Location, .string rv306.1.Channel] 41, .box b317 [.int .i64 rv296.1.Detector.Short, .int .i64 x462, .int .i64 rv296.1.Detector.On, .int .i64 rv296.1.Detector.Off, .int .i64 x463, .int .i64 x464, .int .i64 x465] 26, .row (some ⟨b509, 0, none⟩) ([rv481.1, rv495.1] : List Segment).length ([rv481.1, rv495.1] : List Segment).length [.int .i64 rv481.1.Start, .int .i64 rv481.1.First, .int .i64 rv481.1.Rate.Num, .int .i64 rv481.1.Rate.Den, .int .i64 rv481.1.Error, .slice p482 rv481.1.Samples.length k483, .int .i64 rv495.1.Start, .int .i64 rv495.1.First, .int .i64 rv495.1.Rate.Num, .int .i64 rv495.1.Rate.Den, .int .i64 rv495.1.Error, .slice p496 rv495.1.Samples.length k497] 36 6, .row p533 l532.length k534 c535 28 3] [SlA p7 samples6.length k8 samples6, SlA p12 list11.length k13 list11, SlA p16 segments15.length k17 segments15, SlA p468 rv467.1.length k469 rv467.1, RowA [.int .i64 rv481.1.Start, .int .i64 rv481.1.First, .int .i64 rv481.1.Rate.Num, .int .i64 rv481.1.Rate.Den, .int .i64 rv481.1.Error, .slice p482 rv481.1.Samples.length k483, .int .i64 rv495.1.Start, .int .i64 rv495.1.First, .int .i64 rv495.1.Rate.Num, .int .i64 rv495.1.Rate.Den, .int .i64 rv495.1.Error, .slice p496 rv495.1.Samples.length k497] ([rv481.1, rv495.1] : List Segment), RowA c535 l532] w) ?_ ?_
 ·refine h_b (C := Cls [.row (some ⟨b509, 0, none⟩) ([rv481.1, rv495.1] : List Segment).length ([rv481.1, rv495.1] : List Segment).length [.int .i64 rv481.1.Start, .int .i64 rv481.1.First, .int .i64 rv481.1.Rate.Num, .int .i64 rv481.1.Rate.Den, .int .i64 rv481.1.Error, .slice p482 rv481.1.Samples.length k483, .int .i64 rv495.1.Start, .int .i64 rv495.1.First, .int .i64 rv495.1.Rate.Num, .int .i64 rv495.1.Rate.Den, .int .i64 rv495.1.Error, .slice p496 rv495.1.Samples.length k497] 36 6, .box b19 [.int .i64 raw5.Detector.Short, .int .i64 raw5.Detector.Long, .int .i64 raw5.Detector.On, .int .i64 raw5.Detector.Off, .int .i64 raw5.Back, .int .i64 raw5.Level, .int .i64 raw5.Floor] 26, .box b20 [.int .i64 g10.On, .int .i64 g10.Off, .int .i64 g10.Peak] 28, .box b315 [.int .i64 rv296.1.Detector.Short, .int .i64 rv296.1.Detector.Long, .int .i64 rv296.1.Detector.On, .int .i64 rv296.1.Detector.Off, .int .i64 rv296.1.Back, .int .i64 rv296.1.Level, .int .i64 rv296.1.Floor] 26, .box b316 [.string rv306.1.Network, .string rv306.1.Station, .string rv306.1.Location, .string rv306.1.Channel] 41, .box b317 [.int .i64 rv296.1.Detector.Short, .int .i64 x462, .int .i64 rv296.1.Detector.On, .int .i64 rv296.1.Detector.Off, .int .i64 x463, .int .i64 x464, .int .i64 x465] 26] []) (by kernel_rfl) rfl (hw.drew.cs [1, 3, 4, 5, 6, 7] [] rfl rfl) fun hC => ?_
  have hw := hw.drew
  refine gm hs 0 rfl rfl rfl hC fun a hs => ?_
  refine gv hs 1 rfl rfl hC (fun w hC => y_loadBA (hC.ownAt 2 rfl) rfl Tryz.isAgg28 Tryz.sizeOf28 rfl rfl) fun a hs => ?_
  refine gm hs 2 rfl rfl rfl hC fun a hs => ?_
  refine ho 3 rfl ?_
  refine st_callR hs (made_Dice_Next_ok h524 hw.dom (hw.ins [2] (by decide) rfl) (hw.envAt 5 rfl)) (do_call Tryz.call9 rfl) trivial rfl rfl ?_
  intro v540 Sv537 w a h538 h539 hs
  obtain ⟨p526, k527, rfl, h541, h528⟩ := h539
  have hw := hw.callO [2] [0, 1, 3, 4, 5, 6, 7] (by decide) rfl h538 h541
  have hw := hw.addE (e := SlA p526 rv525.2.L.length k527 rv525.2.L) h528
  refine h_nx (hw.cs [2, 3, 4, 5, 6, 7] [] rfl rfl) fun hC => ?_
  refine gv hs 4 rfl rfl hC (fun w hC => y_sub rfl rfl) fun a hs => ?_
  refine gv hs 5 rfl rfl hC (fun w hC => y_build (vs := [(0, .int .i64 (w64 (rv525.1 - 1)))]) Bld28 rfl rfl) fun a hs => ?_
  refine ho 6 rfl ?_
  refine w_litSlice (α := Trigger) (vs := [.agg #[.int .i64 g10.On, .int .i64 g10.Off, .int .i64 g10.Peak], .agg #[.int .i64 (w64 (rv525.1 - 1)), .int .i64 0, .int .i64 0]]) (cs := [.int .i64 g10.On, .int .i64 g10.Off, .int .i64 g10.Peak, .int .i64 (w64 (rv525.1 - 1)), .int .i64 0, .int .i64 0]) (xs := ([g10, (⟨(w64 (rv525.1 - 1)), 0, 0⟩ : Trigger)] : List Trigger)) hs hw El47 rfl rfl rfl rfl rfl rfl ⟨⟨_, _, _, rfl, rfl, rfl, rfl⟩, ⟨⟨_, _, _, rfl, rfl, rfl, rfl⟩, rfl⟩⟩ rfl trivial rfl fun b530 a w hs hw => ?_
  refine h_nx (hw.cs [3, 4, 5, 6, 7, 8] [] rfl rfl) fun hC => ?_
  refine h_st (C' := Cls [.row (some ⟨b509, 0, none⟩) ([rv481.1, rv495.1] : List Segment).length ([rv481.1, rv495.1] : List Segment).length [.int .i64 rv481.1.Start, .int .i64 rv481.1.First, .int .i64 rv481.1.Rate.Num, .int .i64 rv481.1.Rate.Den, .int .i64 rv481.1.Error, .slice p482 rv481.1.Samples.length k483, .int .i64 rv495.1.Start, .int .i64 rv495.1.First, .int .i64 rv495.1.Rate.Num, .int .i64 rv495.1.Rate.Den, .int .i64 rv495.1.Error, .slice p496 rv495.1.Samples.length k497] 36 6, .box b19 [.int .i64 raw5.Detector.Short, .int .i64 raw5.Detector.Long, .int .i64 raw5.Detector.On, .int .i64 raw5.Detector.Off, .int .i64 raw5.Back, .int .i64 raw5.Level, .int .i64 raw5.Floor] 26, .box b20 [.int .i64 g10.On, .int .i64 g10.Off, .int .i64 g10.Peak] 28, .box b315 [.int .i64 rv296.1.Detector.Short, .int .i64 rv296.1.Detector.Long, .int .i64 rv296.1.Detector.On, .int .i64 rv296.1.Detector.Off, .int .i64 rv296.1.Back, .int .i64 rv296.1.Level, .int .i64 rv296.1.Floor] 26, .box b316 [.string rv306.1.Network, .string rv306.1.Station, .string rv306.1.Location, .string rv306.1.Channel] 41, .box b317 [.int .i64 rv296.1.Detector.Short, .int .i64 x462, .int .i64 rv296.1.Detector.On, .int .i64 rv296.1.Detector.Off, .int .i64 x463, .int .i64 x464, .int .i64 x465] 26, .row (some ⟨b530, 0, none⟩) ([g10, (⟨(w64 (rv525.1 - 1)), 0, 0⟩ : Trigger)] : List Trigger).length ([g10, (⟨(w64 (rv525.1 - 1)), 0, 0⟩ : Trigger)] : List Trigger).length [.int .i64 g10.On, .int .i64 g10.Off, .int .i64 g10.Peak, .int .i64 (w64 (rv525.1 - 1)), .int .i64 0, .int .i64 0] 28 3] []) (fun _ h => by exact h.sub [0, 1, 2, 3, 4, 5] (Sel.of rfl) (AllIn.of [] rfl)) (hw.cs [3, 4, 5, 6, 7, 8, 0] [] rfl rfl) fun hC => ?_
  refine ho 7 rfl ?_
  refine w_appendR (α := Trigger) hs hw El47 2 rfl rfl rfl 2 rfl 0 rfl 0 rfl h531 rfl trivial ?_
  intro p533 k534 c535 a w hs hw
  refine h_nx (hw.cs [3, 4, 5, 6, 7, 8, 0] [] rfl rfl) fun hC => ?_
  refine gv hs 8 rfl rfl hC (fun w hC => y_assign rfl) fun a hs => ?_
  refine h_done (by kernel_rfl) ?_
  exact ⟨Sv537, c535, k534, p533, (hs.wk rfl), (hw.ft [4, 6, 7, 8, 3, 2] [14, 15, 16, 4, 5, 0] (by decide) rfl rfl)⟩
 rintro a w ⟨Sv536, c535, k534, p533, hs, hw⟩
 refine then_normal ?_
 refine wp_seq ?_
 refine sr ?_
 refine sv hs (y_loadBA (hw.ownAt 1 rfl) rfl Tryz.isAgg26 Tryz.sizeOf26 rfl rfl) rfl fun a hs => ?_
 refine sv hs (y_loadBA (hw.ownAt 3 rfl) rfl Tryz.isAgg26 Tryz.sizeOf26 rfl rfl) rfl fun a hs => ?_
 refine sv hs (y_loadBA (hw.ownAt 0 rfl) rfl Tryz.isAgg26 Tryz.sizeOf26 rfl rfl) rfl fun a hs => ?_
 obtain ⟨l545, h544, hsh⟩ := bind_t hsh
 refine w_litSliceO (α := Picking) (vs := [.agg #[.int .i64 rv296.1.Detector.Short, .int .i64 rv296.1.Detector.Long, .int .i64 rv296.1.Detector.On, .int .i64 rv296.1.Detector.Off, .int .i64 rv296.1.Back, .int .i64 rv296.1.Level, .int .i64 rv296.1.Floor], .agg #[.int .i64 rv296.1.Detector.Short, .int .i64 x462, .int .i64 rv296.1.Detector.On, .int .i64 rv296.1.Detector.Off, .int .i64 x463, .int .i64 x464, .int .i64 x465], .agg #[.int .i64 raw5.Detector.Short, .int .i64 raw5.Detector.Long, .int .i64 raw5.Detector.On, .int .i64 raw5.Detector.Off, .int .i64 raw5.Back, .int .i64 raw5.Level, .int .i64 raw5.Floor]]) (cs := [.int .i64 rv296.1.Detector.Short, .int .i64 rv296.1.Detector.Long, .int .i64 rv296.1.Detector.On, .int .i64 rv296.1.Detector.Off, .int .i64 rv296.1.Back, .int .i64 rv296.1.Level, .int .i64 rv296.1.Floor, .int .i64 rv296.1.Detector.Short, .int .i64 x462, .int .i64 rv296.1.Detector.On, .int .i64 rv296.1.Detector.Off, .int .i64 x463, .int .i64 x464, .int .i64 x465, .int .i64 raw5.Detector.Short, .int .i64 raw5.Detector.Long, .int .i64 raw5.Detector.On, .int .i64 raw5.Detector.Off, .int .i64 raw5.Back, .int .i64 raw5.Level, .int .i64 raw5.Floor]) (xs := ([rv296.1, (⟨(⟨rv296.1.Detector.Short, x462, rv296.1.Detector.On, rv296.1.Detector.Off⟩ : Detector), x463, x464, x465⟩ : Picking), raw5] : List Picking)) hs hw El51 rfl rfl rfl rfl rfl rfl ⟨⟨_, _, _, _, _, _, _, rfl, rfl, rfl, rfl, rfl, rfl, rfl, rfl⟩, ⟨⟨_, _, _, _, _, _, _, rfl, rfl, rfl, rfl, rfl, rfl, rfl, rfl⟩, ⟨⟨_, _, _, _, _, _, _, rfl, rfl, rfl, rfl, rfl, rfl, rfl, rfl⟩, rfl⟩⟩⟩ rfl trivial rfl h544 fun b543 c546 a w hs hw => ?_
 refine sv hs (y_len Tryz.runUnderlying51 rfl) rfl fun a hs => ?_
 refine mv hs rfl rfl fun a hs => ?_
 refine nl ?_
 refine wp_block ?_
 obtain ⟨Sv15764, hw⟩ := w_share (α := Segment) hw 5 rfl 5 rfl
 refine wp_while (fun sv8156 a w => ∃ (Sv13227 : Nat → Prop), Sl 318 [(2, .slice p7 samples6.length k8), (4, .slice p12 list11.length k13), (5, .slice p16 segments15.length k17), (16, .pointer (some ⟨b315, 0, none⟩)), (17, .pointer (some ⟨b316, 0, none⟩)), (19, .slice p468 rv467.1.length k469), (20, .slice (some ⟨b509, 0, none⟩) ([rv481.1, rv495.1] : List Segment).length ([rv481.1, rv495.1] : List Segment).length), (21, .slice p533 l532.length k534), (135, .slice (some ⟨b543, 0, none⟩) l545.length l545.length), (136, .int .i64 (l545.length : Int)), (137, .int .i64 sv8156)] a ∧ Wd ⟨w0, S0, []⟩ Sv13227 [.box b315 [.int .i64 rv296.1.Detector.Short, .int .i64 rv296.1.Detector.Long, .int .i64 rv296.1.Detector.On, .int .i64 rv296.1.Detector.Off, .int .i64 rv296.1.Back, .int .i64 rv296.1.Level, .int .i64 rv296.1.Floor] 26, .box b316 [.string rv306.1.Network, .string rv306.1.Station, .string rv306.1.Location, .string rv306.1.Channel] 41, .row p533 l532.length k534 c535 28 3, .row (some ⟨b543, 0, none⟩) l545.length l545.length c546 26 7] [SlA p7 samples6.length k8 samples6, SlA p12 list11.length k13 list11, SlA p16 segments15.length k17 segments15, SlA p468 rv467.1.length k469 rv467.1, SlA (some ⟨b509, 0, none⟩) ([rv481.1, rv495.1] : List Segment).length ([rv481.1, rv495.1] : List Segment).length ([rv481.1, rv495.1] : List Segment), RowA c535 l532, RowA c546 l545] w) 0 hsh ⟨Sv15764, (hs.wk rfl), (hw.ft [2, 3, 5, 0] [2, 3, 4, 5, 0, 7, 1] (by decide) rfl rfl)⟩ ?_
 repeat clear hsh
 rintro sv8156 a w tv15763 ⟨Sv13227, hs, hw⟩ hsh hd15762
 delta law23_PickerExact_l89 at hsh
 refine sr ?_
 refine sv hs (y_lss rfl rfl) rfl fun a hs => ?_
 refine nl ?_
 refine wp_seq ?_
 refine wp_cond_split (hs.ev rfl) (fun h15768 => ?_) (fun h15768 => ?_)
 ·have hsh := ite_t hsh h15768
  refine wp_skip ?_
  refine then_normal ?_
  refine wp_seq ?_
  refine wp_block ?_
  refine sr ?_
  obtain ⟨x18304, h18302, hsh⟩ := bind_t hsh
  obtain ⟨q18308, c18309, h18305, h18306, h18310, h18303⟩ := hw.elemRK (α := Picking) 3 rfl 6 rfl h18302
  obtain ⟨_, _, _, _, _, _, _, rfl, rfl, rfl, rfl, rfl, rfl, rfl, rfl⟩ := h18303
  refine sv hs (y_indexAt Tryz.runUnderlying51 Tryz.sizeOf26 rfl rfl h18305.1 h18305.2 h18306) rfl fun a hs => ?_
  refine sv hs (y_loadQA (j := 0) (hw.ownAt 3 rfl) rfl Tryz.isAgg26 Tryz.sizeOf26 h18310 rfl rfl) rfl fun a hs => ?_
  refine w_alloc (cs := [.int .i64 0, .int .i64 0, .int .i64 0, .int .i64 0, .int .i64 0, .int .i64 0, .int .i64 0]) hs hw Tryz.zeroValue26 rfl rfl trivial ?_
  intro b18311 a w hs hw
  refine w_store (m := 7) (cs' := [.int .i64 x18304.Detector.Short, .int .i64 x18304.Detector.Long, .int .i64 x18304.Detector.On, .int .i64 x18304.Detector.Off, .int .i64 x18304.Back, .int .i64 x18304.Level, .int .i64 x18304.Floor]) hs hw 0 rfl rfl rfl Tryz.sizeOf26 rfl rfl rfl rfl trivial ?_
  intro a w hs hw
  refine nl ?_
  refine wp_seq ?_
  refine wp_seq ?_
  obtain ⟨rv18313, h18312, hsh⟩ := bind_t hsh
  obtain ⟨rv18315, h18314, hsh⟩ := bind_t hsh
  refine wp_only (fun a w => ∃ (Sv18316 : Nat → Prop), Sl 318 [(2, .slice p7 samples6.length k8), (4, .slice p12 list11.length k13), (5, .slice p16 segments15.length k17), (16, .pointer (some ⟨b315, 0, none⟩)), (17, .pointer (some ⟨b316, 0, none⟩)), (19, .slice p468 rv467.1.length k469), (20, .slice (some ⟨b509, 0, none⟩) ([rv481.1, rv495.1] : List Segment).length ([rv481.1, rv495.1] : List Segment).length), (21, .slice p533 l532.length k534), (24, .pointer (some ⟨b18311, 0, none⟩)), (135, .slice (some ⟨b543, 0, none⟩) l545.length l545.length), (136, .int .i64 (l545.length : Int)), (137, .int .i64 sv8156), (145, .bool (!(rv18313 == rv18315)))] a ∧ Wd ⟨w0, S0, []⟩ Sv18316 [.box b315 [.int .i64 rv296.1.Detector.Short, .int .i64 rv296.1.Detector.Long, .int .i64 rv296.1.Detector.On, .int .i64 rv296.1.Detector.Off, .int .i64 rv296.1.Back, .int .i64 rv296.1.Level, .int .i64 rv296.1.Floor] 26, .box b316 [.string rv306.1.Network, .string rv306.1.Station, .string rv306.1.Location, .string rv306.1.Channel] 41, .box b18311 [.int .i64 x18304.Detector.Short, .int .i64 x18304.Detector.Long, .int .i64 x18304.Detector.On, .int .i64 x18304.Detector.Off, .int .i64 x18304.Back, .int .i64 x18304.Level, .int .i64 x18304.Floor] 26, .row p533 l532.length k534 c535 28 3, .row (some ⟨b543, 0, none⟩) l545.length l545.length c546 26 7] [SlA p7 samples6.length k8 samples6, SlA p12 list11.length k13 list11, SlA p16 segments15.length k17 segments15, SlA p468 rv467.1.length k469 rv467.1, SlA (some ⟨b509, 0, none⟩) ([rv481.1, rv495.1] : List Segment).length ([rv481.1, rv495.1] : List Segment).length ([rv481.1, rv495.1] : List Segment), RowA c535 l532, RowA c546 l545] w) ?_ ?_
  ·refine h_b (C := Cls [.box b18311 [.int .i64 x18304.Detector.Short, .int .i64 x18304.Detector.Long, .int .i64 x18304.Detector.On, .int .i64 x18304.Detector.Off, .int .i64 x18304.Back, .int .i64 x18304.Level, .int .i64 x18304.Floor] 26, .box b315 [.int .i64 rv296.1.Detector.Short, .int .i64 rv296.1.Detector.Long, .int .i64 rv296.1.Detector.On, .int .i64 rv296.1.Detector.Off, .int .i64 rv296.1.Back, .int .i64 rv296.1.Level, .int .i64 rv296.1.Floor] 26, .box b316 [.string rv306.1.Network, .string rv306.1.Station, .string rv306.1.Location, .string rv306.1.Channel] 41, .row p533 l532.length k534 c535 28 3, .row (some ⟨b543, 0, none⟩) l545.length l545.length c546 26 7] []) (by kernel_rfl) rfl (hw.drew.cs [0, 1, 2, 3, 4] [] rfl rfl) fun hC => ?_
   have hw := hw.drew
   refine gv hs 0 rfl rfl hC (fun w hC => y_loadBA (hC.ownAt 0 rfl) rfl Tryz.isAgg26 Tryz.sizeOf26 rfl rfl) fun a hs => ?_
   refine gv hs 2 rfl rfl hC (fun w hC => y_loadBA (hC.ownAt 0 rfl) rfl Tryz.isAgg26 Tryz.sizeOf26 rfl rfl) fun a hs => ?_
   refine ho 1 rfl ?_
   refine st_callR hs (picker_Valid_ok h18312 hw.bdom) (do_call Tryz.call14 rfl) trivial rfl rfl ?_
   intro v18320 Sv18317 w a h18318 h18319 hs
   subst h18319
   have hw := hw.callB h18318
   refine h_nx (hw.cs [0, 1, 2, 3, 4] [] rfl rfl) fun hC => ?_
   refine ho 3 rfl ?_
   refine st_callR hs (ref23_Valid_ok h18314 hw.bdom) (do_call Tryz.call15 rfl) trivial rfl rfl ?_
   intro v18325 Sv18322 w a h18323 h18324 hs
   subst h18324
   have hw := hw.callB h18323
   refine h_nx (hw.cs [0, 1, 2, 3, 4] [] rfl rfl) fun hC => ?_
   refine gv hs 4 rfl rfl hC (fun w hC => y_neqB Tryz.runUnderlying4 rfl rfl) fun a hs => ?_
   refine h_done (by kernel_rfl) ?_
   exact ⟨Sv13227, (hs.wk rfl), (hw.ft [1, 2, 0, 3, 4] [0, 1, 2, 3, 4, 5, 6] (by decide) rfl rfl)⟩
  rintro a w ⟨Sv18316, hs, hw⟩
  refine then_normal ?_
  refine wp_cond_split (hs.ev rfl) (fun h18328 => ?_) (fun h18328 => ?_)
  ·have hsh := ite_t hsh h18328
   refine sr ?_
   refine av hs rfl rfl fun a hs => ?_
   refine nl ?_
   have hsh := oi hsh
   subst hsh
   have h18329 := hd15762 _ rfl
   subst h18329
   refine wp_ret ?_
   refine then_ret ?_
   refine blk_ret ?_
   refine then_ret ?_
   refine then_ret ?_
   refine blk_ret ?_
   refine then_ret ?_
   exact ret1 hs rfl (rv_tmp rfl) (hw.ret rfl)
  have hsh := ite_f hsh h18328
  refine wp_skip ?_
  refine then_normal ?_
  refine wp_seq ?_
  refine sr ?_
  refine mv hs rfl rfl fun a hs => ?_
  refine sv hs (y_len Tryz.runUnderlying47 rfl) rfl fun a hs => ?_
  refine mv hs rfl rfl fun a hs => ?_
  refine nl ?_
  refine wp_block ?_
  refine wp_while (fun sv18680 a w => ∃ (Sv18912 : Nat → Prop), Sl 318 [(2, .slice p7 samples6.length k8), (4, .slice p12 list11.length k13), (5, .slice p16 segments15.length k17), (16, .pointer (some ⟨b315, 0, none⟩)), (17, .pointer (some ⟨b316, 0, none⟩)), (19, .slice p468 rv467.1.length k469), (20, .slice (some ⟨b509, 0, none⟩) ([rv481.1, rv495.1] : List Segment).length ([rv481.1, rv495.1] : List Segment).length), (21, .slice p533 l532.length k534), (24, .pointer (some ⟨b18311, 0, none⟩)), (135, .slice (some ⟨b543, 0, none⟩) l545.length l545.length), (136, .int .i64 (l545.length : Int)), (137, .int .i64 sv8156), (146, .slice p533 l532.length k534), (147, .int .i64 (l532.length : Int)), (148, .int .i64 sv18680)] a ∧ Wd ⟨w0, S0, []⟩ Sv18912 [.box b315 [.int .i64 rv296.1.Detector.Short, .int .i64 rv296.1.Detector.Long, .int .i64 rv296.1.Detector.On, .int .i64 rv296.1.Detector.Off, .int .i64 rv296.1.Back, .int .i64 rv296.1.Level, .int .i64 rv296.1.Floor] 26, .box b316 [.string rv306.1.Network, .string rv306.1.Station, .string rv306.1.Location, .string rv306.1.Channel] 41, .box b18311 [.int .i64 x18304.Detector.Short, .int .i64 x18304.Detector.Long, .int .i64 x18304.Detector.On, .int .i64 x18304.Detector.Off, .int .i64 x18304.Back, .int .i64 x18304.Level, .int .i64 x18304.Floor] 26, .row p533 l532.length k534 c535 28 3, .row (some ⟨b543, 0, none⟩) l545.length l545.length c546 26 7] [SlA p7 samples6.length k8 samples6, SlA p12 list11.length k13 list11, SlA p16 segments15.length k17 segments15, SlA p468 rv467.1.length k469 rv467.1, SlA (some ⟨b509, 0, none⟩) ([rv481.1, rv495.1] : List Segment).length ([rv481.1, rv495.1] : List Segment).length ([rv481.1, rv495.1] : List Segment), RowA c535 l532, RowA c546 l545] w) 0 hsh ⟨Sv18316, (hs.wk rfl), (hw.ft [0, 1, 2, 3, 4] [0, 1, 2, 3, 4, 5, 6] (by decide) rfl rfl)⟩ ?_
  repeat clear hsh
  rintro sv18680 a w tv19029 ⟨Sv18912, hs, hw⟩ hsh hd19028
  delta law23_PickerExact_l130 at hsh
  refine sr ?_
  refine sv hs (y_lss rfl rfl) rfl fun a hs => ?_
  refine nl ?_
  refine wp_seq ?_
  refine wp_cond_split (hs.ev rfl) (fun h19033 => ?_) (fun h19033 => ?_)
  ·have hsh := ite_t hsh h19033
   refine wp_skip ?_
   refine then_normal ?_
   refine wp_seq ?_
   refine wp_block ?_
   refine sr ?_
   obtain ⟨x19150, h19148, hsh⟩ := bind_t hsh
   obtain ⟨b19157, q19154, c19155, h19158, h19151, h19152, h19156, h19149⟩ := hw.elemRV (α := Trigger) 3 rfl 5 rfl h19148
   have hsv19159 := hs
   have hwv19160 := hw
   subst h19158
   have hs := hsv19159
   have hw := hwv19160
   obtain ⟨_, _, _, rfl, rfl, rfl, rfl⟩ := h19149
   refine sv hs (y_indexAt Tryz.runUnderlying47 Tryz.sizeOf28 rfl rfl h19151.1 h19151.2 h19152) rfl fun a hs => ?_
   refine sv hs (y_loadQA (j := 0) (hw.ownAt 3 rfl) rfl Tryz.isAgg28 Tryz.sizeOf28 h19156 rfl rfl) rfl fun a hs => ?_
   refine w_alloc (cs := [.int .i64 0, .int .i64 0, .int .i64 0]) hs hw Tryz.zeroValue28 rfl rfl trivial ?_
   intro b19161 a w hs hw
   refine w_store (m := 3) (cs' := [.int .i64 x19150.On, .int .i64 x19150.Off, .int .i64 x19150.Peak]) hs hw 0 rfl rfl rfl Tryz.sizeOf28 rfl rfl rfl rfl trivial ?_
   intro a w hs hw
   refine nl ?_
   refine sr ?_
   refine mv hs rfl rfl fun a hs => ?_
   refine mv hs rfl rfl fun a hs => ?_
   refine w_litSlice (α := (List Int)) (vs := [.slice p468 rv467.1.length k469, .slice p7 samples6.length k8]) (cs := [.slice p468 rv467.1.length k469, .slice p7 samples6.length k8]) (xs := ([rv467.1, samples6] : List (List Int))) hs hw El53 rfl rfl rfl rfl rfl rfl ⟨⟨_, rfl, ⟨_, _, _, rfl, hw.envAt 3 rfl⟩⟩, ⟨⟨_, rfl, ⟨_, _, _, rfl, hw.envAt 0 rfl⟩⟩, rfl⟩⟩ rfl trivial rfl fun b19163 a w hs hw => ?_
   refine sv hs (y_len Tryz.runUnderlying53 rfl) rfl fun a hs => ?_
   refine mv hs rfl rfl fun a hs => ?_
   refine nl ?_
   refine wp_block ?_
   refine wp_while (fun sv19262 a w => ∃ (Sv19326 : Nat → Prop), Sl 318 [(2, .slice p7 samples6.length k8), (4, .slice p12 list11.length k13), (5, .slice p16 segments15.length k17), (16, .pointer (some ⟨b315, 0, none⟩)), (17, .pointer (some ⟨b316, 0, none⟩)), (19, .slice p468 rv467.1.length k469), (20, .slice (some ⟨b509, 0, none⟩) ([rv481.1, rv495.1] : List Segment).length ([rv481.1, rv495.1] : List Segment).length), (21, .slice (some ⟨b19157, 0, none⟩) l532.length k534), (24, .pointer (some ⟨b18311, 0, none⟩)), (26, .pointer (some ⟨b19161, 0, none⟩)), (135, .slice (some ⟨b543, 0, none⟩) l545.length l545.length), (136, .int .i64 (l545.length : Int)), (137, .int .i64 sv8156), (146, .slice (some ⟨b19157, 0, none⟩) l532.length k534), (147, .int .i64 (l532.length : Int)), (148, .int .i64 sv18680), (154, .slice (some ⟨b19163, 0, none⟩) ([rv467.1, samples6] : List (List Int)).length ([rv467.1, samples6] : List (List Int)).length), (155, .int .i64 (([rv467.1, samples6] : List (List Int)).length : Int)), (156, .int .i64 sv19262)] a ∧ Wd ⟨w0, S0, []⟩ Sv19326 [.box b315 [.int .i64 rv296.1.Detector.Short, .int .i64 rv296.1.Detector.Long, .int .i64 rv296.1.Detector.On, .int .i64 rv296.1.Detector.Off, .int .i64 rv296.1.Back, .int .i64 rv296.1.Level, .int .i64 rv296.1.Floor] 26, .box b316 [.string rv306.1.Network, .string rv306.1.Station, .string rv306.1.Location, .string rv306.1.Channel] 41, .box b18311 [.int .i64 x18304.Detector.Short, .int .i64 x18304.Detector.Long, .int .i64 x18304.Detector.On, .int .i64 x18304.Detector.Off, .int .i64 x18304.Back, .int .i64 x18304.Level, .int .i64 x18304.Floor] 26, .box b19161 [.int .i64 x19150.On, .int .i64 x19150.Off, .int .i64 x19150.Peak] 28, .row (some ⟨b19157, 0, none⟩) l532.length k534 c535 28 3, .row (some ⟨b543, 0, none⟩) l545.length l545.length c546 26 7, .row (some ⟨b19163, 0, none⟩) ([rv467.1, samples6] : List (List Int)).length ([rv467.1, samples6] : List (List Int)).length [.slice p468 rv467.1.length k469, .slice p7 samples6.length k8] 22 1] [SlA p7 samples6.length k8 samples6, SlA p12 list11.length k13 list11, SlA p16 segments15.length k17 segments15, SlA p468 rv467.1.length k469 rv467.1, SlA (some ⟨b509, 0, none⟩) ([rv481.1, rv495.1] : List Segment).length ([rv481.1, rv495.1] : List Segment).length ([rv481.1, rv495.1] : List Segment), RowA c535 l532, RowA c546 l545, RowA [.slice p468 rv467.1.length k469, .slice p7 samples6.length k8] ([rv467.1, samples6] : List (List Int))] w) 0 hsh ⟨Sv18912, (hs.wk rfl), (hw.ft [2, 3, 4, 1, 5, 6, 0] [1, 2, 3, 4, 5, 6, 7, 0] (by decide) rfl rfl)⟩ ?_
   repeat clear hsh
   rintro sv19262 a w tv19359 ⟨Sv19326, hs, hw⟩ hsh hd19358
   delta law23_PickerExact_l134 at hsh
   refine sr ?_
   refine sv hs (y_lss rfl rfl) rfl fun a hs => ?_
   refine nl ?_
   refine wp_seq ?_
   refine wp_cond_split (hs.ev rfl) (fun h19363 => ?_) (fun h19363 => ?_)
   ·have hsh := ite_t hsh h19363
    refine wp_skip ?_
    refine then_normal ?_
    refine wp_seq ?_
    refine wp_block ?_
    refine sr ?_
    obtain ⟨x19396, h19394, hsh⟩ := bind_t hsh
    obtain ⟨q19400, c19401, h19397, h19398, h19402, h19395⟩ := hw.elemRK (α := (List Int)) 6 rfl 7 rfl h19394
    obtain ⟨_, rfl, ⟨p19403, n19404, k19405, rfl, h19406⟩⟩ := h19395
    obtain rfl := h19406.1
    have hw := hw.addE (e := SlA p19403 _ k19405 x19396) h19406
    refine sv hs (y_indexAt Tryz.runUnderlying53 Tryz.sizeOf22 rfl rfl h19397.1 h19397.2 h19398) rfl fun a hs => ?_
    refine sv hs (y_loadQ1 (j := 0) (hw.ownAt 6 rfl) rfl Tryz.isAgg22 h19402 rfl) rfl fun a hs => ?_
    refine av hs rfl rfl fun a hs => ?_
    refine nl ?_
    refine sr ?_
    refine sv hs (y_loadBA (hw.ownAt 2 rfl) rfl Tryz.isAgg26 Tryz.sizeOf26 rfl rfl) rfl fun a hs => ?_
    refine mv hs rfl rfl fun a hs => ?_
    refine sv hs (y_loadBA (hw.ownAt 3 rfl) rfl Tryz.isAgg28 Tryz.sizeOf28 rfl rfl) rfl fun a hs => ?_
    obtain ⟨rv19408, h19407, hsh⟩ := bind_t hsh
    refine st_callR hs (picker_Onset_ok h19407 hw.bdom (hw.bE 0 rfl)) (do_call Tryz.call16 rfl) trivial rfl rfl ?_
    intro v19412 Sv19409 w a h19410 h19411 hs
    subst h19411
    have hw := hw.callB h19410
    refine mv hs rfl rfl fun a hs => ?_
    refine sv hs (y_extract rfl rfl) rfl fun a hs => ?_
    refine sv hs (y_extract rfl rfl) rfl fun a hs => ?_
    refine av hs rfl rfl fun a hs => ?_
    refine av hs rfl rfl fun a hs => ?_
    refine nl ?_
    refine sr ?_
    refine sv hs (y_loadBA (hw.ownAt 2 rfl) rfl Tryz.isAgg26 Tryz.sizeOf26 rfl rfl) rfl fun a hs => ?_
    refine mv hs rfl rfl fun a hs => ?_
    refine sv hs (y_loadBA (hw.ownAt 3 rfl) rfl Tryz.isAgg28 Tryz.sizeOf28 rfl rfl) rfl fun a hs => ?_
    obtain ⟨rv19415, h19414, hsh⟩ := bind_t hsh
    refine st_callR hs (ref23_Onset_ok h19414 hw.bdom (hw.bE 0 rfl)) (do_call Tryz.call17 rfl) trivial rfl rfl ?_
    intro v19419 Sv19416 w a h19417 h19418 hs
    subst h19418
    have hw := hw.callB h19417
    refine mv hs rfl rfl fun a hs => ?_
    refine sv hs (y_extract rfl rfl) rfl fun a hs => ?_
    refine sv hs (y_extract rfl rfl) rfl fun a hs => ?_
    refine av hs rfl rfl fun a hs => ?_
    refine av hs rfl rfl fun a hs => ?_
    refine nl ?_
    refine sr ?_
    refine mv hs rfl rfl fun a hs => ?_
    refine mv hs rfl rfl fun a hs => ?_
    refine sv hs (y_neq rfl rfl) rfl fun a hs => ?_
    refine mv hs rfl rfl fun a hs => ?_
    refine wpl_join 4 (fun a w1 => w = w1 ∧ Sl 318 [(2, .slice p7 samples6.length k8), (4, .slice p12 list11.length k13), (5, .slice p16 segments15.length k17), (16, .pointer (some ⟨b315, 0, none⟩)), (17, .pointer (some ⟨b316, 0, none⟩)), (19, .slice p468 rv467.1.length k469), (20, .slice (some ⟨b509, 0, none⟩) ([rv481.1, rv495.1] : List Segment).length ([rv481.1, rv495.1] : List Segment).length), (21, .slice (some ⟨b19157, 0, none⟩) l532.length k534), (24, .pointer (some ⟨b18311, 0, none⟩)), (26, .pointer (some ⟨b19161, 0, none⟩)), (135, .slice (some ⟨b543, 0, none⟩) l545.length l545.length), (136, .int .i64 (l545.length : Int)), (137, .int .i64 sv8156), (146, .slice (some ⟨b19157, 0, none⟩) l532.length k534), (147, .int .i64 (l532.length : Int)), (148, .int .i64 sv18680), (154, .slice (some ⟨b19163, 0, none⟩) ([rv467.1, samples6] : List (List Int)).length ([rv467.1, samples6] : List (List Int)).length), (155, .int .i64 (([rv467.1, samples6] : List (List Int)).length : Int)), (156, .int .i64 sv19262), (181, .bool ((rv19408.1 != rv19415.1) || (rv19408.2 != rv19415.2)))] a) ?_ ?_
    ·rcases Bool.eq_false_or_eq_true (rv19408.1 != rv19415.1) with h19421 | h19421
     ·have hs := hs.fix 177 (.bool true) rfl (vb h19421)
      refine st_skip hs rfl rfl rfl rfl rfl fun a hs => ?_
      refine st_skip hs rfl rfl rfl rfl rfl fun a hs => ?_
      refine st_skip hs rfl rfl rfl rfl rfl fun a hs => ?_
      refine sv hs (y_pickT rfl rfl) rfl fun a hs => ?_
      refine nl ?_
      exact ⟨rfl, (hs.fix 181 (.bool ((rv19408.1 != rv19415.1) || (rv19408.2 != rv19415.2))) rfl (or_t h19421)).weaken _ ⟨rfl, rfl, rfl, rfl, rfl, rfl, rfl, rfl, rfl, rfl, rfl, rfl, rfl, rfl, rfl, rfl, rfl, rfl, rfl, rfl, trivial⟩⟩
     have hs := hs.fix 177 (.bool false) rfl (vb h19421)
     refine st_val hs (y_move rfl) ⟨_, rfl, rfl⟩ rfl rfl fun a hs => ?_
     refine st_val hs (y_move rfl) ⟨_, rfl, rfl⟩ rfl rfl fun a hs => ?_
     refine st_val hs (y_neq rfl rfl) ⟨_, rfl, rfl⟩ rfl rfl fun a hs => ?_
     refine sv hs (y_pickF rfl rfl) rfl fun a hs => ?_
     refine nl ?_
     exact ⟨rfl, (hs.fix 181 (.bool ((rv19408.1 != rv19415.1) || (rv19408.2 != rv19415.2))) rfl (or_f h19421)).weaken _ ⟨rfl, rfl, rfl, rfl, rfl, rfl, rfl, rfl, rfl, rfl, rfl, rfl, rfl, rfl, rfl, rfl, rfl, rfl, rfl, rfl, trivial⟩⟩
    rintro a w1 ⟨h19427, hs⟩
    subst h19427
    refine nl ?_
    refine wp_cond_split (hs.ev rfl) (fun h19423 => ?_) (fun h19423 => ?_)
    ·have hsh := ite_t hsh h19423
     refine sr ?_
     refine av hs rfl rfl fun a hs => ?_
     refine nl ?_
     have hsh := oi hsh
     subst hsh
     have h19424 := hd19358 _ rfl
     subst h19424
     have h19425 := hd19028 _ rfl
     subst h19425
     have h19426 := hd15762 _ rfl
     subst h19426
     refine wp_ret ?_
     refine blk_ret ?_
     refine then_ret ?_
     refine then_ret ?_
     refine blk_ret ?_
     refine blk_ret ?_
     refine then_ret ?_
     refine then_ret ?_
     refine blk_ret ?_
     refine then_ret ?_
     refine blk_ret ?_
     refine then_ret ?_
     refine then_ret ?_
     refine blk_ret ?_
     refine then_ret ?_
     exact ret1 hs rfl (rv_tmp rfl) (hw.ret rfl)
    have hsh := ite_f hsh h19423
    refine wp_skip ?_
    refine blk_normal ?_
    refine then_normal ?_
    refine wp_region_lit ?_
    refine sv hs (y_add rfl rfl) rfl fun a hs => ?_
    refine mv hs rfl rfl fun a hs => ?_
    refine nl ?_
    exact ⟨_, (Option.some.inj hsh).symm, Sv19326, (hs.wk rfl), (hw.ft [0, 1, 2, 3, 4, 5, 6] [1, 2, 3, 4, 5, 6, 7, 8] (by decide) rfl rfl)⟩
   have hsh := ite_f hsh h19363
   obtain ⟨rv19428, hsh, h19429⟩ := map_t hsh
   have h19429 := (hd19358 _ h19429.symm).symm
   subst h19429
   refine wp_exit ?_
   refine then_exit ?_
   refine then_exit ?_
   refine blk_exit ?_
   refine blk_normal ?_
   refine then_normal ?_
   refine wp_region_lit ?_
   refine sv hs (y_add rfl rfl) rfl fun a hs => ?_
   refine mv hs rfl rfl fun a hs => ?_
   refine nl ?_
   exact ⟨_, (Option.some.inj hsh).symm, Sv19326, (hs.wk rfl), (hw.ft [0, 1, 2, 4, 5] [0, 1, 2, 3, 4, 5, 6] (by decide) rfl rfl)⟩
  have hsh := ite_f hsh h19033
  obtain ⟨rv26693, hsh, h26694⟩ := map_t hsh
  have h26694 := (hd19028 _ h26694.symm).symm
  subst h26694
  refine wp_exit ?_
  refine then_exit ?_
  refine then_exit ?_
  refine blk_exit ?_
  refine then_normal ?_
  refine sr ?_
  refine mv hs rfl rfl fun a hs => ?_
  refine mv hs rfl rfl fun a hs => ?_
  refine w_litSlice (α := (List Segment)) (vs := [.slice (some ⟨b509, 0, none⟩) ([rv481.1, rv495.1] : List Segment).length ([rv481.1, rv495.1] : List Segment).length, .slice p16 segments15.length k17]) (cs := [.slice (some ⟨b509, 0, none⟩) ([rv481.1, rv495.1] : List Segment).length ([rv481.1, rv495.1] : List Segment).length, .slice p16 segments15.length k17]) (xs := ([([rv481.1, rv495.1] : List Segment), segments15] : List (List Segment))) hs hw El56 rfl rfl rfl rfl rfl rfl ⟨⟨_, rfl, ⟨_, _, _, rfl, hw.envAt 4 rfl⟩⟩, ⟨⟨_, rfl, ⟨_, _, _, rfl, hw.envAt 2 rfl⟩⟩, rfl⟩⟩ rfl trivial rfl fun b19431 a w hs hw => ?_
  refine sv hs (y_len Tryz.runUnderlying56 rfl) rfl fun a hs => ?_
  refine mv hs rfl rfl fun a hs => ?_
  refine nl ?_
  refine wp_block ?_
  refine wp_while (fun sv21597 a w => ∃ (Sv23039 : Nat → Prop), Sl 318 [(2, .slice p7 samples6.length k8), (4, .slice p12 list11.length k13), (5, .slice p16 segments15.length k17), (16, .pointer (some ⟨b315, 0, none⟩)), (17, .pointer (some ⟨b316, 0, none⟩)), (19, .slice p468 rv467.1.length k469), (20, .slice (some ⟨b509, 0, none⟩) ([rv481.1, rv495.1] : List Segment).length ([rv481.1, rv495.1] : List Segment).length), (21, .slice p533 l532.length k534), (24, .pointer (some ⟨b18311, 0, none⟩)), (135, .slice (some ⟨b543, 0, none⟩) l545.length l545.length), (136, .int .i64 (l545.length : Int)), (137, .int .i64 sv8156), (186, .slice (some ⟨b19431, 0, none⟩) ([([rv481.1, rv495.1] : List Segment), segments15] : List (List Segment)).length ([([rv481.1, rv495.1] : List Segment), segments15] : List (List Segment)).length), (187, .int .i64 (([([rv481.1, rv495.1] : List Segment), segments15] : List (List Segment)).length : Int)), (188, .int .i64 sv21597)] a ∧ Wd ⟨w0, S0, []⟩ Sv23039 [.box b315 [.int .i64 rv296.1.Detector.Short, .int .i64 rv296.1.Detector.Long, .int .i64 rv296.1.Detector.On, .int .i64 rv296.1.Detector.Off, .int .i64 rv296.1.Back, .int .i64 rv296.1.Level, .int .i64 rv296.1.Floor] 26, .box b316 [.string rv306.1.Network, .string rv306.1.Station, .string rv306.1.Location, .string rv306.1.Channel] 41, .box b18311 [.int .i64 x18304.Detector.Short, .int .i64 x18304.Detector.Long, .int .i64 x18304.Detector.On, .int .i64 x18304.Detector.Off, .int .i64 x18304.Back, .int .i64 x18304.Level, .int .i64 x18304.Floor] 26, .row p533 l532.length k534 c535 28 3, .row (some ⟨b543, 0, none⟩) l545.length l545.length c546 26 7, .row (some ⟨b19431, 0, none⟩) ([([rv481.1, rv495.1] : List Segment), segments15] : List (List Segment)).length ([([rv481.1, rv495.1] : List Segment), segments15] : List (List Segment)).length [.slice (some ⟨b509, 0, none⟩) ([rv481.1, rv495.1] : List Segment).length ([rv481.1, rv495.1] : List Segment).length, .slice p16 segments15.length k17] 30 1] [SlA p7 samples6.length k8 samples6, SlA p12 list11.length k13 list11, SlA p16 segments15.length k17 segments15, SlA p468 rv467.1.length k469 rv467.1, SlA (some ⟨b509, 0, none⟩) ([rv481.1, rv495.1] : List Segment).length ([rv481.1, rv495.1] : List Segment).length ([rv481.1, rv495.1] : List Segment), RowA c535 l532, RowA c546 l545, RowA [.slice (some ⟨b509, 0, none⟩) ([rv481.1, rv495.1] : List Segment).length ([rv481.1, rv495.1] : List Segment).length, .slice p16 segments15.length k17] ([([rv481.1, rv495.1] : List Segment), segments15] : List (List Segment))] w) 0 hsh ⟨Sv18912, (hs.wk rfl), (hw.ft [1, 2, 3, 4, 5, 0] [1, 2, 3, 4, 5, 6, 7, 0] (by decide) rfl rfl)⟩ ?_
  repeat clear hsh
  rintro sv21597 a w tv23761 ⟨Sv23039, hs, hw⟩ hsh hd23760
  delta law23_PickerExact_l156 at hsh
  refine sr ?_
  refine sv hs (y_lss rfl rfl) rfl fun a hs => ?_
  refine nl ?_
  refine wp_seq ?_
  refine wp_cond_split (hs.ev rfl) (fun h23765 => ?_) (fun h23765 => ?_)
  ·have hsh := ite_t hsh h23765
   refine wp_skip ?_
   refine then_normal ?_
   refine wp_seq ?_
   refine wp_block ?_
   refine sr ?_
   obtain ⟨x24487, h24485, hsh⟩ := bind_t hsh
   obtain ⟨q24491, c24492, h24488, h24489, h24493, h24486⟩ := hw.elemRK (α := (List Segment)) 5 rfl 7 rfl h24485
   obtain ⟨_, rfl, ⟨p24494, n24495, k24496, rfl, h24497⟩⟩ := h24486
   obtain rfl := h24497.1
   have hw := hw.addE (e := SlA p24494 _ k24496 x24487) h24497
   refine sv hs (y_indexAt Tryz.runUnderlying56 Tryz.sizeOf30 rfl rfl h24488.1 h24488.2 h24489) rfl fun a hs => ?_
   refine sv hs (y_loadQ1 (j := 0) (hw.ownAt 5 rfl) rfl Tryz.isAgg30 h24493 rfl) rfl fun a hs => ?_
   refine av hs rfl rfl fun a hs => ?_
   refine nl ?_
   refine sr ?_
   refine sv hs (y_loadBA (hw.ownAt 1 rfl) rfl Tryz.isAgg41 Tryz.sizeOf41 rfl rfl) rfl fun a hs => ?_
   refine sv hs (y_build (vs := []) Bld41 rfl rfl) rfl fun a hs => ?_
   refine w_litSlice (α := SourceID) (vs := [.agg #[.string rv306.1.Network, .string rv306.1.Station, .string rv306.1.Location, .string rv306.1.Channel], .agg #[.string ByteArray.empty, .string ByteArray.empty, .string ByteArray.empty, .string ByteArray.empty]]) (cs := [.string rv306.1.Network, .string rv306.1.Station, .string rv306.1.Location, .string rv306.1.Channel, .string ByteArray.empty, .string ByteArray.empty, .string ByteArray.empty, .string ByteArray.empty]) (xs := ([rv306.1, (⟨ByteArray.empty, ByteArray.empty, ByteArray.empty, ByteArray.empty⟩ : SourceID)] : List SourceID)) hs hw El57 rfl rfl rfl rfl rfl rfl ⟨⟨_, _, _, _, rfl, rfl, rfl, rfl, rfl⟩, ⟨⟨_, _, _, _, rfl, rfl, rfl, rfl, rfl⟩, rfl⟩⟩ rfl trivial rfl fun b24499 a w hs hw => ?_
   refine sv hs (y_len Tryz.runUnderlying57 rfl) rfl fun a hs => ?_
   refine mv hs rfl rfl fun a hs => ?_
   refine nl ?_
   refine wp_block ?_
   refine wp_while (fun sv25204 a w => ∃ (Sv25672 : Nat → Prop), Sl 318 [(2, .slice p7 samples6.length k8), (4, .slice p12 list11.length k13), (5, .slice p16 segments15.length k17), (16, .pointer (some ⟨b315, 0, none⟩)), (17, .pointer (some ⟨b316, 0, none⟩)), (19, .slice p468 rv467.1.length k469), (20, .slice (some ⟨b509, 0, none⟩) ([rv481.1, rv495.1] : List Segment).length ([rv481.1, rv495.1] : List Segment).length), (21, .slice p533 l532.length k534), (24, .pointer (some ⟨b18311, 0, none⟩)), (34, .slice p24494 x24487.length k24496), (135, .slice (some ⟨b543, 0, none⟩) l545.length l545.length), (136, .int .i64 (l545.length : Int)), (137, .int .i64 sv8156), (186, .slice (some ⟨b19431, 0, none⟩) ([([rv481.1, rv495.1] : List Segment), segments15] : List (List Segment)).length ([([rv481.1, rv495.1] : List Segment), segments15] : List (List Segment)).length), (187, .int .i64 (([([rv481.1, rv495.1] : List Segment), segments15] : List (List Segment)).length : Int)), (188, .int .i64 sv21597), (194, .slice (some ⟨b24499, 0, none⟩) ([rv306.1, (⟨ByteArray.empty, ByteArray.empty, ByteArray.empty, ByteArray.empty⟩ : SourceID)] : List SourceID).length ([rv306.1, (⟨ByteArray.empty, ByteArray.empty, ByteArray.empty, ByteArray.empty⟩ : SourceID)] : List SourceID).length), (195, .int .i64 (([rv306.1, (⟨ByteArray.empty, ByteArray.empty, ByteArray.empty, ByteArray.empty⟩ : SourceID)] : List SourceID).length : Int)), (196, .int .i64 sv25204)] a ∧ Wd ⟨w0, S0, []⟩ Sv25672 [.box b315 [.int .i64 rv296.1.Detector.Short, .int .i64 rv296.1.Detector.Long, .int .i64 rv296.1.Detector.On, .int .i64 rv296.1.Detector.Off, .int .i64 rv296.1.Back, .int .i64 rv296.1.Level, .int .i64 rv296.1.Floor] 26, .box b316 [.string rv306.1.Network, .string rv306.1.Station, .string rv306.1.Location, .string rv306.1.Channel] 41, .box b18311 [.int .i64 x18304.Detector.Short, .int .i64 x18304.Detector.Long, .int .i64 x18304.Detector.On, .int .i64 x18304.Detector.Off, .int .i64 x18304.Back, .int .i64 x18304.Level, .int .i64 x18304.Floor] 26, .row p533 l532.length k534 c535 28 3, .row (some ⟨b543, 0, none⟩) l545.length l545.length c546 26 7, .row (some ⟨b19431, 0, none⟩) ([([rv481.1, rv495.1] : List Segment), segments15] : List (List Segment)).length ([([rv481.1, rv495.1] : List Segment), segments15] : List (List Segment)).length [.slice (some ⟨b509, 0, none⟩) ([rv481.1, rv495.1] : List Segment).length ([rv481.1, rv495.1] : List Segment).length, .slice p16 segments15.length k17] 30 1, .row (some ⟨b24499, 0, none⟩) ([rv306.1, (⟨ByteArray.empty, ByteArray.empty, ByteArray.empty, ByteArray.empty⟩ : SourceID)] : List SourceID).length ([rv306.1, (⟨ByteArray.empty, ByteArray.empty, ByteArray.empty, ByteArray.empty⟩ : SourceID)] : List SourceID).length [.string rv306.1.Network, .string rv306.1.Station, .string rv306.1.Location, .string rv306.1.Channel, .string ByteArray.empty, .string ByteArray.empty, .string ByteArray.empty, .string ByteArray.empty] 41 4] [SlA p7 samples6.length k8 samples6, SlA p12 list11.length k13 list11, SlA p16 segments15.length k17 segments15, SlA p468 rv467.1.length k469 rv467.1, SlA (some ⟨b509, 0, none⟩) ([rv481.1, rv495.1] : List Segment).length ([rv481.1, rv495.1] : List Segment).length ([rv481.1, rv495.1] : List Segment), SlA p24494 x24487.length k24496 x24487, RowA c535 l532, RowA c546 l545, RowA [.slice (some ⟨b509, 0, none⟩) ([rv481.1, rv495.1] : List Segment).length ([rv481.1, rv495.1] : List Segment).length, .slice p16 segments15.length k17] ([([rv481.1, rv495.1] : List Segment), segments15] : List (List Segment)), RowA [.string rv306.1.Network, .string rv306.1.Station, .string rv306.1.Location, .string rv306.1.Channel, .string ByteArray.empty, .string ByteArray.empty, .string ByteArray.empty, .string ByteArray.empty] ([rv306.1, (⟨ByteArray.empty, ByteArray.empty, ByteArray.empty, ByteArray.empty⟩ : SourceID)] : List SourceID)] w) 0 hsh ⟨Sv23039, (hs.wk rfl), (hw.ft [1, 2, 3, 4, 5, 6, 0] [2, 3, 4, 5, 6, 1, 7, 8, 9, 0] (by decide) rfl rfl)⟩ ?_
   repeat clear hsh
   rintro sv25204 a w tv25907 ⟨Sv25672, hs, hw⟩ hsh hd25906
   delta law23_PickerExact_l171 at hsh
   refine sr ?_
   refine sv hs (y_lss rfl rfl) rfl fun a hs => ?_
   refine nl ?_
   refine wp_seq ?_
   refine wp_cond_split (hs.ev rfl) (fun h25911 => ?_) (fun h25911 => ?_)
   ·have hsh := ite_t hsh h25911
    refine wp_skip ?_
    refine then_normal ?_
    refine wp_seq ?_
    refine wp_block ?_
    refine sr ?_
    obtain ⟨x26146, h26144, hsh⟩ := bind_t hsh
    obtain ⟨q26150, c26151, h26147, h26148, h26152, h26145⟩ := hw.elemRK (α := SourceID) 6 rfl 9 rfl h26144
    obtain ⟨_, _, _, _, rfl, rfl, rfl, rfl, rfl⟩ := h26145
    refine sv hs (y_indexAt Tryz.runUnderlying57 Tryz.sizeOf41 rfl rfl h26147.1 h26147.2 h26148) rfl fun a hs => ?_
    refine sv hs (y_loadQA (j := 0) (hw.ownAt 6 rfl) rfl Tryz.isAgg41 Tryz.sizeOf41 h26152 rfl rfl) rfl fun a hs => ?_
    refine w_alloc (cs := [.string ByteArray.empty, .string ByteArray.empty, .string ByteArray.empty, .string ByteArray.empty]) hs hw Tryz.zeroValue41 rfl rfl trivial ?_
    intro b26153 a w hs hw
    refine w_store (m := 4) (cs' := [.string x26146.Network, .string x26146.Station, .string x26146.Location, .string x26146.Channel]) hs hw 0 rfl rfl rfl Tryz.sizeOf41 rfl rfl rfl rfl trivial ?_
    intro a w hs hw
    refine nl ?_
    refine sr ?_
    refine sv hs (y_loadBA (hw.ownAt 3 rfl) rfl Tryz.isAgg26 Tryz.sizeOf26 rfl rfl) rfl fun a hs => ?_
    refine sv hs (y_loadBA (hw.ownAt 0 rfl) rfl Tryz.isAgg41 Tryz.sizeOf41 rfl rfl) rfl fun a hs => ?_
    refine mv hs rfl rfl fun a hs => ?_
    obtain ⟨rv26155, h26154, hsh⟩ := bind_t hsh
    refine st_callR hs (picker_Run_ok h26154 hw.dom (hw.envAt 5 rfl)) (do_call Tryz.call18 rfl) trivial rfl rfl ?_
    intro v26163 Sv26160 w a h26161 h26162 hs
    obtain ⟨p26156, k26157, c26159, rfl, h26164, h26158⟩ := h26162
    have hw := hw.callN h26161 h26164
    have hw := hw.addE (e := RowA c26159 rv26155.1) h26158
    refine mv hs rfl rfl fun a hs => ?_
    refine sv hs (y_extract rfl rfl) rfl fun a hs => ?_
    refine sv hs (y_extract rfl rfl) rfl fun a hs => ?_
    refine av hs rfl rfl fun a hs => ?_
    refine av hs rfl rfl fun a hs => ?_
    refine nl ?_
    refine sr ?_
    refine sv hs (y_loadBA (hw.ownAt 4 rfl) rfl Tryz.isAgg26 Tryz.sizeOf26 rfl rfl) rfl fun a hs => ?_
    refine sv hs (y_loadBA (hw.ownAt 1 rfl) rfl Tryz.isAgg41 Tryz.sizeOf41 rfl rfl) rfl fun a hs => ?_
    refine mv hs rfl rfl fun a hs => ?_
    obtain ⟨rv26166, h26165, hsh⟩ := bind_t hsh
    refine st_callR hs (ref23_Run_ok h26165 hw.dom (hw.envAt 6 rfl)) (do_call Tryz.call19 rfl) trivial rfl rfl ?_
    intro v26174 Sv26171 w a h26172 h26173 hs
    obtain ⟨p26167, k26168, c26170, rfl, h26175, h26169⟩ := h26173
    have hw := hw.callN h26172 h26175
    have hw := hw.addE (e := RowA c26170 rv26166.1) h26169
    refine mv hs rfl rfl fun a hs => ?_
    refine sv hs (y_extract rfl rfl) rfl fun a hs => ?_
    refine sv hs (y_extract rfl rfl) rfl fun a hs => ?_
    refine av hs rfl rfl fun a hs => ?_
    refine av hs rfl rfl fun a hs => ?_
    refine nl ?_
    refine wp_seq ?_
    refine sr ?_
    refine mv hs rfl rfl fun a hs => ?_
    refine mv hs rfl rfl fun a hs => ?_
    refine sv hs (y_neq rfl rfl) rfl fun a hs => ?_
    refine mv hs rfl rfl fun a hs => ?_
    obtain ⟨c26184, hc26184, hsh⟩ := bind_t hsh
    refine wpl_join 5 (fun a w => ∃ (Sv26185 : Nat → Prop), Sl 318 [(2, .slice p7 samples6.length k8), (4, .slice p12 list11.length k13), (5, .slice p16 segments15.length k17), (16, .pointer (some ⟨b315, 0, none⟩)), (17, .pointer (some ⟨b316, 0, none⟩)), (19, .slice p468 rv467.1.length k469), (20, .slice (some ⟨b509, 0, none⟩) ([rv481.1, rv495.1] : List Segment).length ([rv481.1, rv495.1] : List Segment).length), (21, .slice p533 l532.length k534), (24, .pointer (some ⟨b18311, 0, none⟩)), (34, .slice p24494 x24487.length k24496), (36, .pointer (some ⟨b26153, 0, none⟩)), (135, .slice (some ⟨b543, 0, none⟩) l545.length l545.length), (136, .int .i64 (l545.length : Int)), (137, .int .i64 sv8156), (186, .slice (some ⟨b19431, 0, none⟩) ([([rv481.1, rv495.1] : List Segment), segments15] : List (List Segment)).length ([([rv481.1, rv495.1] : List Segment), segments15] : List (List Segment)).length), (187, .int .i64 (([([rv481.1, rv495.1] : List Segment), segments15] : List (List Segment)).length : Int)), (188, .int .i64 sv21597), (194, .slice (some ⟨b24499, 0, none⟩) ([rv306.1, (⟨ByteArray.empty, ByteArray.empty, ByteArray.empty, ByteArray.empty⟩ : SourceID)] : List SourceID).length ([rv306.1, (⟨ByteArray.empty, ByteArray.empty, ByteArray.empty, ByteArray.empty⟩ : SourceID)] : List SourceID).length), (195, .int .i64 (([rv306.1, (⟨ByteArray.empty, ByteArray.empty, ByteArray.empty, ByteArray.empty⟩ : SourceID)] : List SourceID).length : Int)), (196, .int .i64 sv25204), (222, .bool c26184)] a ∧ Wd ⟨w0, S0, []⟩ Sv26185 [.box b315 [.int .i64 rv296.1.Detector.Short, .int .i64 rv296.1.Detector.Long, .int .i64 rv296.1.Detector.On, .int .i64 rv296.1.Detector.Off, .int .i64 rv296.1.Back, .int .i64 rv296.1.Level, .int .i64 rv296.1.Floor] 26, .box b316 [.string rv306.1.Network, .string rv306.1.Station, .string rv306.1.Location, .string rv306.1.Channel] 41, .box b18311 [.int .i64 x18304.Detector.Short, .int .i64 x18304.Detector.Long, .int .i64 x18304.Detector.On, .int .i64 x18304.Detector.Off, .int .i64 x18304.Back, .int .i64 x18304.Level, .int .i64 x18304.Floor] 26, .box b26153 [.string x26146.Network, .string x26146.Station, .string x26146.Location, .string x26146.Channel] 41, .row p533 l532.length k534 c535 28 3, .row (some ⟨b543, 0, none⟩) l545.length l545.length c546 26 7, .row (some ⟨b19431, 0, none⟩) ([([rv481.1, rv495.1] : List Segment), segments15] : List (List Segment)).length ([([rv481.1, rv495.1] : List Segment), segments15] : List (List Segment)).length [.slice (some ⟨b509, 0, none⟩) ([rv481.1, rv495.1] : List Segment).length ([rv481.1, rv495.1] : List Segment).length, .slice p16 segments15.length k17] 30 1, .row (some ⟨b24499, 0, none⟩) ([rv306.1, (⟨ByteArray.empty, ByteArray.empty, ByteArray.empty, ByteArray.empty⟩ : SourceID)] : List SourceID).length ([rv306.1, (⟨ByteArray.empty, ByteArray.empty, ByteArray.empty, ByteArray.empty⟩ : SourceID)] : List SourceID).length [.string rv306.1.Network, .string rv306.1.Station, .string rv306.1.Location, .string rv306.1.Channel, .string ByteArray.empty, .string ByteArray.empty, .string ByteArray.empty, .string ByteArray.empty] 41 4] [SlA p7 samples6.length k8 samples6, SlA p12 list11.length k13 list11, SlA p16 segments15.length k17 segments15, SlA p468 rv467.1.length k469 rv467.1, SlA (some ⟨b509, 0, none⟩) ([rv481.1, rv495.1] : List Segment).length ([rv481.1, rv495.1] : List Segment).length ([rv481.1, rv495.1] : List Segment), SlA p24494 x24487.length k24496 x24487, RowA c535 l532, RowA c546 l545, RowA [.slice (some ⟨b509, 0, none⟩) ([rv481.1, rv495.1] : List Segment).length ([rv481.1, rv495.1] : List Segment).length, .slice p16 segments15.length k17] ([([rv481.1, rv495.1] : List Segment), segments15] : List (List Segment)), RowA [.string rv306.1.Network, .string rv306.1.Station, .string rv306.1.Location, .string rv306.1.Channel, .string ByteArray.empty, .string ByteArray.empty, .string ByteArray.empty, .string ByteArray.empty] ([rv306.1, (⟨ByteArray.empty, ByteArray.empty, ByteArray.empty, ByteArray.empty⟩ : SourceID)] : List SourceID)] w) ?_ ?_
    ·rcases Bool.eq_false_or_eq_true (rv26155.2 != rv26166.2) with h26183 | h26183
     ·have hs := hs.fix 217 (.bool true) rfl (vb h26183)
      have hsh := ite_t hc26184 h26183
      refine st_skip hs rfl rfl rfl rfl rfl fun a hs => ?_
      refine st_skip hs rfl rfl rfl rfl rfl fun a hs => ?_
      refine st_skip hs rfl rfl rfl rfl rfl fun a hs => ?_
      refine st_skip hs rfl rfl rfl rfl rfl fun a hs => ?_
      refine sv hs (y_pickT rfl rfl) rfl fun a hs => ?_
      refine wpList_nil ?_
      have hsh := oi hsh
      subst hsh
      refine then_normal ?_
      exact ⟨Sv26171, (hs.wk rfl), (hw.ft [3, 4, 5, 2, 6, 7, 8, 9] [2, 3, 4, 5, 6, 7, 8, 9, 10, 11] (by decide) rfl rfl)⟩
     have hs := hs.fix 217 (.bool false) rfl (vb h26183)
     have hsh := ite_f hc26184 h26183
     refine st_val hs (y_move rfl) ⟨_, rfl, rfl⟩ rfl rfl fun a hs => ?_
     refine st_val hs (y_move rfl) ⟨_, rfl, rfl⟩ rfl rfl fun a hs => ?_
     obtain ⟨rv26187, h26186, hsh⟩ := bind_t hsh
     refine st_callR hs (ref23_Same_ok h26186 hw.bdom (hw.bRow 1 rfl 1 rfl) (hw.bRow 0 rfl 0 rfl)) (do_call Tryz.call20 rfl) ⟨_, rfl, rfl⟩ rfl rfl ?_
     intro v26191 Sv26188 w a h26189 h26190 hs
     subst h26190
     have hw := hw.callB h26189
     refine st_val hs (y_not rfl) ⟨_, rfl, rfl⟩ rfl rfl fun a hs => ?_
     refine sv hs (y_pickF rfl rfl) rfl fun a hs => ?_
     refine wpList_nil ?_
     have hsh := oi hsh
     subst hsh
     refine then_normal ?_
     exact ⟨Sv26171, (hs.wk rfl), (hw.ft [3, 4, 5, 2, 6, 7, 8, 9] [2, 3, 4, 5, 6, 7, 8, 9, 10, 11] (by decide) rfl rfl)⟩
    rintro a w ⟨Sv26185, hs, hw⟩
    refine nl ?_
    refine wp_cond_split (hs.ev rfl) (fun h26194 => ?_) (fun h26194 => ?_)
    ·have hsh := ite_t hsh h26194
     refine sr ?_
     refine av hs rfl rfl fun a hs => ?_
     refine nl ?_
     have hsh := oi hsh
     subst hsh
     have h26195 := hd25906 _ rfl
     subst h26195
     have h26196 := hd23760 _ rfl
     subst h26196
     have h26197 := hd15762 _ rfl
     subst h26197
     refine wp_ret ?_
     refine then_ret ?_
     refine blk_ret ?_
     refine then_ret ?_
     refine then_ret ?_
     refine blk_ret ?_
     refine blk_ret ?_
     refine then_ret ?_
     refine then_ret ?_
     refine blk_ret ?_
     refine blk_ret ?_
     refine then_ret ?_
     refine then_ret ?_
     refine blk_ret ?_
     refine then_ret ?_
     exact ret1 hs rfl (rv_tmp rfl) (hw.ret rfl)
    have hsh := ite_f hsh h26194
    refine wp_skip ?_
    refine then_normal ?_
    refine sr ?_
    refine mv hs rfl rfl fun a hs => ?_
    refine sv hs (y_len Tryz.runUnderlying30 rfl) rfl fun a hs => ?_
    refine mv hs rfl rfl fun a hs => ?_
    refine nl ?_
    refine wp_block ?_
    refine wp_while (fun sv26380 a w => ∃ (Sv26500 : Nat → Prop), Sl 318 [(2, .slice p7 samples6.length k8), (4, .slice p12 list11.length k13), (5, .slice p16 segments15.length k17), (16, .pointer (some ⟨b315, 0, none⟩)), (17, .pointer (some ⟨b316, 0, none⟩)), (19, .slice p468 rv467.1.length k469), (20, .slice (some ⟨b509, 0, none⟩) ([rv481.1, rv495.1] : List Segment).length ([rv481.1, rv495.1] : List Segment).length), (21, .slice p533 l532.length k534), (24, .pointer (some ⟨b18311, 0, none⟩)), (34, .slice p24494 x24487.length k24496), (36, .pointer (some ⟨b26153, 0, none⟩)), (135, .slice (some ⟨b543, 0, none⟩) l545.length l545.length), (136, .int .i64 (l545.length : Int)), (137, .int .i64 sv8156), (186, .slice (some ⟨b19431, 0, none⟩) ([([rv481.1, rv495.1] : List Segment), segments15] : List (List Segment)).length ([([rv481.1, rv495.1] : List Segment), segments15] : List (List Segment)).length), (187, .int .i64 (([([rv481.1, rv495.1] : List Segment), segments15] : List (List Segment)).length : Int)), (188, .int .i64 sv21597), (194, .slice (some ⟨b24499, 0, none⟩) ([rv306.1, (⟨ByteArray.empty, ByteArray.empty, ByteArray.empty, ByteArray.empty⟩ : SourceID)] : List SourceID).length ([rv306.1, (⟨ByteArray.empty, ByteArray.empty, ByteArray.empty, ByteArray.empty⟩ : SourceID)] : List SourceID).length), (195, .int .i64 (([rv306.1, (⟨ByteArray.empty, ByteArray.empty, ByteArray.empty, ByteArray.empty⟩ : SourceID)] : List SourceID).length : Int)), (196, .int .i64 sv25204), (223, .slice p24494 x24487.length k24496), (224, .int .i64 (x24487.length : Int)), (225, .int .i64 sv26380)] a ∧ Wd ⟨w0, S0, []⟩ Sv26500 [.box b315 [.int .i64 rv296.1.Detector.Short, .int .i64 rv296.1.Detector.Long, .int .i64 rv296.1.Detector.On, .int .i64 rv296.1.Detector.Off, .int .i64 rv296.1.Back, .int .i64 rv296.1.Level, .int .i64 rv296.1.Floor] 26, .box b316 [.string rv306.1.Network, .string rv306.1.Station, .string rv306.1.Location, .string rv306.1.Channel] 41, .box b18311 [.int .i64 x18304.Detector.Short, .int .i64 x18304.Detector.Long, .int .i64 x18304.Detector.On, .int .i64 x18304.Detector.Off, .int .i64 x18304.Back, .int .i64 x18304.Level, .int .i64 x18304.Floor] 26, .box b26153 [.string x26146.Network, .string x26146.Station, .string x26146.Location, .string x26146.Channel] 41, .row p533 l532.length k534 c535 28 3, .row (some ⟨b543, 0, none⟩) l545.length l545.length c546 26 7, .row (some ⟨b19431, 0, none⟩) ([([rv481.1, rv495.1] : List Segment), segments15] : List (List Segment)).length ([([rv481.1, rv495.1] : List Segment), segments15] : List (List Segment)).length [.slice (some ⟨b509, 0, none⟩) ([rv481.1, rv495.1] : List Segment).length ([rv481.1, rv495.1] : List Segment).length, .slice p16 segments15.length k17] 30 1, .row (some ⟨b24499, 0, none⟩) ([rv306.1, (⟨ByteArray.empty, ByteArray.empty, ByteArray.empty, ByteArray.empty⟩ : SourceID)] : List SourceID).length ([rv306.1, (⟨ByteArray.empty, ByteArray.empty, ByteArray.empty, ByteArray.empty⟩ : SourceID)] : List SourceID).length [.string rv306.1.Network, .string rv306.1.Station, .string rv306.1.Location, .string rv306.1.Channel, .string ByteArray.empty, .string ByteArray.empty, .string ByteArray.empty, .string ByteArray.empty] 41 4] [SlA p7 samples6.length k8 samples6, SlA p12 list11.length k13 list11, SlA p16 segments15.length k17 segments15, SlA p468 rv467.1.length k469 rv467.1, SlA (some ⟨b509, 0, none⟩) ([rv481.1, rv495.1] : List Segment).length ([rv481.1, rv495.1] : List Segment).length ([rv481.1, rv495.1] : List Segment), SlA p24494 x24487.length k24496 x24487, RowA c535 l532, RowA c546 l545, RowA [.slice (some ⟨b509, 0, none⟩) ([rv481.1, rv495.1] : List Segment).length ([rv481.1, rv495.1] : List Segment).length, .slice p16 segments15.length k17] ([([rv481.1, rv495.1] : List Segment), segments15] : List (List Segment)), RowA [.string rv306.1.Network, .string rv306.1.Station, .string rv306.1.Location, .string rv306.1.Channel, .string ByteArray.empty, .string ByteArray.empty, .string ByteArray.empty, .string ByteArray.empty] ([rv306.1, (⟨ByteArray.empty, ByteArray.empty, ByteArray.empty, ByteArray.empty⟩ : SourceID)] : List SourceID)] w) 0 hsh ⟨Sv26185, (hs.wk rfl), (hw.ft [0, 1, 2, 3, 4, 5, 6, 7] [0, 1, 2, 3, 4, 5, 6, 7, 8, 9] (by decide) rfl rfl)⟩ ?_
    repeat clear hsh
    rintro sv26380 a w tv26561 ⟨Sv26500, hs, hw⟩ hsh hd26560
    delta law23_PickerExact_l175 at hsh
    refine sr ?_
    refine sv hs (y_lss rfl rfl) rfl fun a hs => ?_
    refine nl ?_
    refine wp_seq ?_
    refine wp_cond_split (hs.ev rfl) (fun h26565 => ?_) (fun h26565 => ?_)
    ·have hsh := ite_t hsh h26565
     refine wp_skip ?_
     refine then_normal ?_
     refine wp_seq ?_
     refine wp_block ?_
     refine sr ?_
     obtain ⟨x26626, h26624, hsh⟩ := bind_t hsh
     obtain ⟨b26632, o26633, q26630, c26631, h26634, h26627, h26628, h26629, h26625⟩ := hw.elemV 5 rfl h26624
     have hsv26635 := hs
     have hwv26636 := hw
     subst h26634
     have hs := hsv26635
     have hw := hwv26636
     obtain ⟨_, _, _, _, _, _, rfl, rfl, rfl, rfl, rfl, rfl, ⟨p26637, n26638, k26639, rfl, h26640⟩⟩ := h26625
     obtain rfl := h26640.1
     have hw := hw.addE (e := SlA p26637 _ k26639 x26626.Samples) h26640
     have hw := hw.addE h26629
     refine sv hs (y_indexAt Tryz.runUnderlying30 Tryz.sizeOf36 rfl rfl h26627.1 h26627.2 h26628) rfl fun a hs => ?_
     refine sv hs (y_loadEA (j := 0) (hw.ceAt 0 rfl) rfl Tryz.isAgg36 Tryz.sizeOf36 rfl rfl) rfl fun a hs => ?_
     refine w_alloc (cs := [.int .i64 0, .int .i64 0, .int .i64 0, .int .i64 0, .int .i64 0, .slice none ([] : List Int).length 0]) hs hw Tryz.zeroValue36 rfl rfl trivial ?_
     intro b26641 a w hs hw
     refine w_store (m := 6) (cs' := [.int .i64 x26626.Start, .int .i64 x26626.First, .int .i64 x26626.Rate.Num, .int .i64 x26626.Rate.Den, .int .i64 x26626.Error, .slice p26637 x26626.Samples.length k26639]) hs hw 0 rfl rfl rfl Tryz.sizeOf36 rfl rfl rfl rfl trivial ?_
     intro a w hs hw
     refine nl ?_
     refine sr ?_
     refine sv hs (y_loadBA (hw.ownAt 3 rfl) rfl Tryz.isAgg26 Tryz.sizeOf26 rfl rfl) rfl fun a hs => ?_
     refine sv hs (y_loadBA (hw.ownAt 4 rfl) rfl Tryz.isAgg41 Tryz.sizeOf41 rfl rfl) rfl fun a hs => ?_
     refine sv hs (y_loadBA (hw.ownAt 0 rfl) rfl Tryz.isAgg36 Tryz.sizeOf36 rfl rfl) rfl fun a hs => ?_
     obtain ⟨rv26643, h26642, hsh⟩ := bind_t hsh
     refine st_callR hs (picker_Segment_ok h26642 hw.dom (hw.envAt 1 rfl)) (do_call Tryz.call21 rfl) trivial rfl rfl ?_
     intro v26651 Sv26648 w a h26649 h26650 hs
     obtain ⟨p26644, k26645, c26647, rfl, h26652, h26646⟩ := h26650
     have hw := hw.callN h26649 h26652
     have hw := hw.addE (e := RowA c26647 rv26643.1) h26646
     refine mv hs rfl rfl fun a hs => ?_
     refine sv hs (y_extract rfl rfl) rfl fun a hs => ?_
     refine sv hs (y_extract rfl rfl) rfl fun a hs => ?_
     refine av hs rfl rfl fun a hs => ?_
     refine av hs rfl rfl fun a hs => ?_
     refine nl ?_
     refine sr ?_
     refine sv hs (y_loadBA (hw.ownAt 4 rfl) rfl Tryz.isAgg26 Tryz.sizeOf26 rfl rfl) rfl fun a hs => ?_
     refine sv hs (y_loadBA (hw.ownAt 5 rfl) rfl Tryz.isAgg41 Tryz.sizeOf41 rfl rfl) rfl fun a hs => ?_
     refine sv hs (y_loadBA (hw.ownAt 1 rfl) rfl Tryz.isAgg36 Tryz.sizeOf36 rfl rfl) rfl fun a hs => ?_
     obtain ⟨rv26654, h26653, hsh⟩ := bind_t hsh
     refine st_callR hs (ref23_Segment_ok h26653 hw.dom (hw.envAt 2 rfl)) (do_call Tryz.call22 rfl) trivial rfl rfl ?_
     intro v26662 Sv26659 w a h26660 h26661 hs
     obtain ⟨p26655, k26656, c26658, rfl, h26663, h26657⟩ := h26661
     have hw := hw.callN h26660 h26663
     have hw := hw.addE (e := RowA c26658 rv26654.1) h26657
     refine mv hs rfl rfl fun a hs => ?_
     refine sv hs (y_extract rfl rfl) rfl fun a hs => ?_
     refine sv hs (y_extract rfl rfl) rfl fun a hs => ?_
     refine av hs rfl rfl fun a hs => ?_
     refine av hs rfl rfl fun a hs => ?_
     refine nl ?_
     refine sr ?_
     refine mv hs rfl rfl fun a hs => ?_
     refine mv hs rfl rfl fun a hs => ?_
     refine sv hs (y_neq rfl rfl) rfl fun a hs => ?_
     refine mv hs rfl rfl fun a hs => ?_
     obtain ⟨c26672, hc26672, hsh⟩ := bind_t hsh
     refine wpl_join 5 (fun a w => ∃ (Sv26673 : Nat → Prop), Sl 318 [(2, .slice p7 samples6.length k8), (4, .slice p12 list11.length k13), (5, .slice p16 segments15.length k17), (16, .pointer (some ⟨b315, 0, none⟩)), (17, .pointer (some ⟨b316, 0, none⟩)), (19, .slice p468 rv467.1.length k469), (20, .slice (some ⟨b509, 0, none⟩) ([rv481.1, rv495.1] : List Segment).length ([rv481.1, rv495.1] : List Segment).length), (21, .slice p533 l532.length k534), (24, .pointer (some ⟨b18311, 0, none⟩)), (34, .slice (some ⟨b26632, o26633, none⟩) x24487.length k24496), (36, .pointer (some ⟨b26153, 0, none⟩)), (135, .slice (some ⟨b543, 0, none⟩) l545.length l545.length), (136, .int .i64 (l545.length : Int)), (137, .int .i64 sv8156), (186, .slice (some ⟨b19431, 0, none⟩) ([([rv481.1, rv495.1] : List Segment), segments15] : List (List Segment)).length ([([rv481.1, rv495.1] : List Segment), segments15] : List (List Segment)).length), (187, .int .i64 (([([rv481.1, rv495.1] : List Segment), segments15] : List (List Segment)).length : Int)), (188, .int .i64 sv21597), (194, .slice (some ⟨b24499, 0, none⟩) ([rv306.1, (⟨ByteArray.empty, ByteArray.empty, ByteArray.empty, ByteArray.empty⟩ : SourceID)] : List SourceID).length ([rv306.1, (⟨ByteArray.empty, ByteArray.empty, ByteArray.empty, ByteArray.empty⟩ : SourceID)] : List SourceID).length), (195, .int .i64 (([rv306.1, (⟨ByteArray.empty, ByteArray.empty, ByteArray.empty, ByteArray.empty⟩ : SourceID)] : List SourceID).length : Int)), (196, .int .i64 sv25204), (223, .slice (some ⟨b26632, o26633, none⟩) x24487.length k24496), (224, .int .i64 (x24487.length : Int)), (225, .int .i64 sv26380), (251, .bool c26672)] a ∧ Wd ⟨w0, S0, []⟩ Sv26673 [.box b315 [.int .i64 rv296.1.Detector.Short, .int .i64 rv296.1.Detector.Long, .int .i64 rv296.1.Detector.On, .int .i64 rv296.1.Detector.Off, .int .i64 rv296.1.Back, .int .i64 rv296.1.Level, .int .i64 rv296.1.Floor] 26, .box b316 [.string rv306.1.Network, .string rv306.1.Station, .string rv306.1.Location, .string rv306.1.Channel] 41, .box b18311 [.int .i64 x18304.Detector.Short, .int .i64 x18304.Detector.Long, .int .i64 x18304.Detector.On, .int .i64 x18304.Detector.Off, .int .i64 x18304.Back, .int .i64 x18304.Level, .int .i64 x18304.Floor] 26, .box b26153 [.string x26146.Network, .string x26146.Station, .string x26146.Location, .string x26146.Channel] 41, .row p533 l532.length k534 c535 28 3, .row (some ⟨b543, 0, none⟩) l545.length l545.length c546 26 7, .row (some ⟨b19431, 0, none⟩) ([([rv481.1, rv495.1] : List Segment), segments15] : List (List Segment)).length ([([rv481.1, rv495.1] : List Segment), segments15] : List (List Segment)).length [.slice (some ⟨b509, 0, none⟩) ([rv481.1, rv495.1] : List Segment).length ([rv481.1, rv495.1] : List Segment).length, .slice p16 segments15.length k17] 30 1, .row (some ⟨b24499, 0, none⟩) ([rv306.1, (⟨ByteArray.empty, ByteArray.empty, ByteArray.empty, ByteArray.empty⟩ : SourceID)] : List SourceID).length ([rv306.1, (⟨ByteArray.empty, ByteArray.empty, ByteArray.empty, ByteArray.empty⟩ : SourceID)] : List SourceID).length [.string rv306.1.Network, .string rv306.1.Station, .string rv306.1.Location, .string rv306.1.Channel, .string ByteArray.empty, .string ByteArray.empty, .string ByteArray.empty, .string ByteArray.empty] 41 4] [SlA p7 samples6.length k8 samples6, SlA p12 list11.length k13 list11, SlA p16 segments15.length k17 segments15, SlA p468 rv467.1.length k469 rv467.1, SlA (some ⟨b509, 0, none⟩) ([rv481.1, rv495.1] : List Segment).length ([rv481.1, rv495.1] : List Segment).length ([rv481.1, rv495.1] : List Segment), SlA (some ⟨b26632, o26633, none⟩) x24487.length k24496 x24487, RowA c535 l532, RowA c546 l545, RowA [.slice (some ⟨b509, 0, none⟩) ([rv481.1, rv495.1] : List Segment).length ([rv481.1, rv495.1] : List Segment).length, .slice p16 segments15.length k17] ([([rv481.1, rv495.1] : List Segment), segments15] : List (List Segment)), RowA [.string rv306.1.Network, .string rv306.1.Station, .string rv306.1.Location, .string rv306.1.Channel, .string ByteArray.empty, .string ByteArray.empty, .string ByteArray.empty, .string ByteArray.empty] ([rv306.1, (⟨ByteArray.empty, ByteArray.empty, ByteArray.empty, ByteArray.empty⟩ : SourceID)] : List SourceID)] w) ?_ ?_
     ·rcases Bool.eq_false_or_eq_true (rv26643.2 != rv26654.2) with h26671 | h26671
      ·have hs := hs.fix 246 (.bool true) rfl (vb h26671)
       have hsh := ite_t hc26672 h26671
       refine st_skip hs rfl rfl rfl rfl rfl fun a hs => ?_
       refine st_skip hs rfl rfl rfl rfl rfl fun a hs => ?_
       refine st_skip hs rfl rfl rfl rfl rfl fun a hs => ?_
       refine st_skip hs rfl rfl rfl rfl rfl fun a hs => ?_
       refine sv hs (y_pickT rfl rfl) rfl fun a hs => ?_
       refine wpList_nil ?_
       have hsh := oi hsh
       subst hsh
       refine then_normal ?_
       exact ⟨Sv26659, (hs.wk rfl), (hw.ft [3, 4, 5, 6, 7, 8, 9, 10] [4, 5, 6, 7, 8, 9, 10, 11, 12, 13] (by decide) rfl rfl)⟩
      have hs := hs.fix 246 (.bool false) rfl (vb h26671)
      have hsh := ite_f hc26672 h26671
      refine st_val hs (y_move rfl) ⟨_, rfl, rfl⟩ rfl rfl fun a hs => ?_
      refine st_val hs (y_move rfl) ⟨_, rfl, rfl⟩ rfl rfl fun a hs => ?_
      obtain ⟨rv26675, h26674, hsh⟩ := bind_t hsh
      refine st_callR hs (ref23_Same_ok h26674 hw.bdom (hw.bRow 1 rfl 1 rfl) (hw.bRow 0 rfl 0 rfl)) (do_call Tryz.call20 rfl) ⟨_, rfl, rfl⟩ rfl rfl ?_
      intro v26679 Sv26676 w a h26677 h26678 hs
      subst h26678
      have hw := hw.callB h26677
      refine st_val hs (y_not rfl) ⟨_, rfl, rfl⟩ rfl rfl fun a hs => ?_
      refine sv hs (y_pickF rfl rfl) rfl fun a hs => ?_
      refine wpList_nil ?_
      have hsh := oi hsh
      subst hsh
      refine then_normal ?_
      exact ⟨Sv26659, (hs.wk rfl), (hw.ft [3, 4, 5, 6, 7, 8, 9, 10] [4, 5, 6, 7, 8, 9, 10, 11, 12, 13] (by decide) rfl rfl)⟩
     rintro a w ⟨Sv26673, hs, hw⟩
     refine nl ?_
     refine wp_cond_split (hs.ev rfl) (fun h26682 => ?_) (fun h26682 => ?_)
     ·have hsh := ite_t hsh h26682
      refine sr ?_
      refine av hs rfl rfl fun a hs => ?_
      refine nl ?_
      have hsh := oi hsh
      subst hsh
      have h26683 := hd26560 _ rfl
      subst h26683
      have h26684 := hd25906 _ rfl
      subst h26684
      have h26685 := hd23760 _ rfl
      subst h26685
      have h26686 := hd15762 _ rfl
      subst h26686
      refine wp_ret ?_
      refine blk_ret ?_
      refine then_ret ?_
      refine then_ret ?_
      refine blk_ret ?_
      refine blk_ret ?_
      refine then_ret ?_
      refine then_ret ?_
      refine blk_ret ?_
      refine blk_ret ?_
      refine then_ret ?_
      refine then_ret ?_
      refine blk_ret ?_
      refine blk_ret ?_
      refine then_ret ?_
      refine then_ret ?_
      refine blk_ret ?_
      refine then_ret ?_
      exact ret1 hs rfl (rv_tmp rfl) (hw.ret rfl)
     have hsh := ite_f hsh h26682
     refine wp_skip ?_
     refine blk_normal ?_
     refine then_normal ?_
     refine wp_region_lit ?_
     refine sv hs (y_add rfl rfl) rfl fun a hs => ?_
     refine mv hs rfl rfl fun a hs => ?_
     refine nl ?_
     exact ⟨_, (Option.some.inj hsh).symm, Sv26673, (hs.wk rfl), (hw.ft [0, 1, 2, 3, 4, 5, 6, 7] [0, 1, 2, 3, 4, 5, 6, 7, 8, 9] (by decide) rfl rfl)⟩
    have hsh := ite_f hsh h26565
    obtain ⟨rv26687, hsh, h26688⟩ := map_t hsh
    have h26688 := (hd26560 _ h26688.symm).symm
    subst h26688
    refine wp_exit ?_
    refine then_exit ?_
    refine then_exit ?_
    refine blk_exit ?_
    refine blk_normal ?_
    refine then_normal ?_
    refine wp_region_lit ?_
    refine sv hs (y_add rfl rfl) rfl fun a hs => ?_
    refine mv hs rfl rfl fun a hs => ?_
    refine nl ?_
    exact ⟨_, (Option.some.inj hsh).symm, Sv26500, (hs.wk rfl), (hw.ft [0, 1, 2, 4, 5, 6, 7] [0, 1, 2, 3, 4, 5, 6, 7, 8, 9] (by decide) rfl rfl)⟩
   have hsh := ite_f hsh h25911
   obtain ⟨rv26689, hsh, h26690⟩ := map_t hsh
   have h26690 := (hd25906 _ h26690.symm).symm
   subst h26690
   refine wp_exit ?_
   refine then_exit ?_
   refine then_exit ?_
   refine blk_exit ?_
   refine blk_normal ?_
   refine then_normal ?_
   refine wp_region_lit ?_
   refine sv hs (y_add rfl rfl) rfl fun a hs => ?_
   refine mv hs rfl rfl fun a hs => ?_
   refine nl ?_
   exact ⟨_, (Option.some.inj hsh).symm, Sv25672, (hs.wk rfl), (hw.ft [0, 1, 2, 3, 4, 5] [0, 1, 2, 3, 4, 6, 7, 8] (by decide) rfl rfl)⟩
  have hsh := ite_f hsh h23765
  obtain ⟨rv26691, hsh, h26692⟩ := map_t hsh
  have h26692 := (hd23760 _ h26692.symm).symm
  subst h26692
  refine wp_exit ?_
  refine then_exit ?_
  refine then_exit ?_
  refine blk_exit ?_
  refine blk_normal ?_
  refine then_normal ?_
  refine wp_region_lit ?_
  refine sv hs (y_add rfl rfl) rfl fun a hs => ?_
  refine mv hs rfl rfl fun a hs => ?_
  refine nl ?_
  exact ⟨_, (Option.some.inj hsh).symm, Sv23039, (hs.wk rfl), (hw.ft [0, 1, 3, 4] [0, 1, 2, 3, 4, 5, 6] (by decide) rfl rfl)⟩
 have hsh := ite_f hsh h15768
 obtain ⟨rv29100, hsh, h29101⟩ := map_t hsh
 have h29101 := (hd15762 _ h29101.symm).symm
 subst h29101
 refine wp_exit ?_
 refine then_exit ?_
 refine then_exit ?_
 refine blk_exit ?_
 refine then_normal ?_
 refine sr ?_
 refine sv hs (y_loadBA (hw.ownAt 0 rfl) rfl Tryz.isAgg26 Tryz.sizeOf26 rfl rfl) rfl fun a hs => ?_
 refine sv hs (y_loadBA (hw.ownAt 1 rfl) rfl Tryz.isAgg41 Tryz.sizeOf41 rfl rfl) rfl fun a hs => ?_
 refine mv hs rfl rfl fun a hs => ?_
 obtain ⟨rv26696, h26695, hsh⟩ := bind_t hsh
 refine st_callR hs (ref23_Run_ok h26695 hw.dom (hw.envAt 4 rfl)) (do_call Tryz.call19 rfl) trivial rfl rfl ?_
 intro v26704 Sv26701 w a h26702 h26703 hs
 obtain ⟨p26697, k26698, c26700, rfl, h26705, h26699⟩ := h26703
 have hw := hw.callN h26702 h26705
 have hw := hw.addE (e := RowA c26700 rv26696.1) h26699
 refine mv hs rfl rfl fun a hs => ?_
 refine sv hs (y_extract rfl rfl) rfl fun a hs => ?_
 refine sv hs (y_extract rfl rfl) rfl fun a hs => ?_
 refine av hs rfl rfl fun a hs => ?_
 refine av hs rfl rfl fun a hs => ?_
 refine nl ?_
 refine wp_seq ?_
 refine sr ?_
 refine mv hs rfl rfl fun a hs => ?_
 obtain ⟨l26707, h26706, hsh⟩ := bind_t hsh
 have hw := hw.nilRow Pick 66
 refine w_appendR (α := Pick) hs hw El29 0 rfl rfl rfl 0 rfl 1 rfl 1 rfl h26706 rfl trivial ?_
 intro p26708 k26709 c26710 a w hs hw
 refine mv hs rfl rfl fun a hs => ?_
 obtain ⟨l26712, h26711, hsh⟩ := bind_t hsh
 refine w_appendR (α := Pick) hs hw El29 0 rfl rfl rfl 0 rfl 1 rfl 2 rfl h26711 rfl trivial ?_
 intro p26713 k26714 c26715 a w hs hw
 refine mv hs rfl rfl fun a hs => ?_
 obtain ⟨Sv26718, hw⟩ := w_share (α := Pick) hw 0 rfl 0 rfl
 refine w_litSlice (α := (List Pick)) (vs := [.slice p26713 l26712.length k26714, .slice p12 list11.length k13]) (cs := [.slice p26713 l26712.length k26714, .slice p12 list11.length k13]) (xs := ([l26712, list11] : List (List Pick))) hs hw El62 rfl rfl rfl rfl rfl rfl ⟨⟨_, rfl, ⟨_, _, _, rfl, hw.envAt 0 rfl⟩⟩, ⟨⟨_, rfl, ⟨_, _, _, rfl, hw.envAt 6 rfl⟩⟩, rfl⟩⟩ rfl trivial rfl fun b26717 a w hs hw => ?_
 refine sv hs (y_len Tryz.runUnderlying62 rfl) rfl fun a hs => ?_
 refine mv hs rfl rfl fun a hs => ?_
 refine nl ?_
 refine wp_block ?_
 refine wp_while (fun sv27456 a w => ∃ (Sv27946 : Nat → Prop), Sl 318 [(268, .slice (some ⟨b26717, 0, none⟩) ([l26712, list11] : List (List Pick)).length ([l26712, list11] : List (List Pick)).length), (269, .int .i64 (([l26712, list11] : List (List Pick)).length : Int)), (270, .int .i64 sv27456)] a ∧ Wd ⟨w0, S0, []⟩ Sv27946 [.row (some ⟨b26717, 0, none⟩) ([l26712, list11] : List (List Pick)).length ([l26712, list11] : List (List Pick)).length [.slice p26713 l26712.length k26714, .slice p12 list11.length k13] 29 1] [RowA [.slice p26713 l26712.length k26714, .slice p12 list11.length k13] ([l26712, list11] : List (List Pick))] w) 0 hsh ⟨Sv26718, (hs.wk rfl), (hw.ft [0] [0] (by decide) rfl rfl)⟩ ?_
 repeat clear hsh
 rintro sv27456 a w tv28192 ⟨Sv27946, hs, hw⟩ hsh hd28191
 delta law23_PickerExact_l182 at hsh
 refine sr ?_
 refine sv hs (y_lss rfl rfl) rfl fun a hs => ?_
 refine nl ?_
 refine wp_seq ?_
 refine wp_cond_split (hs.ev rfl) (fun h28196 => ?_) (fun h28196 => ?_)
 ·have hsh := ite_t hsh h28196
  refine wp_skip ?_
  refine then_normal ?_
  refine wp_seq ?_
  refine wp_block ?_
  refine sr ?_
  obtain ⟨x28442, h28440, hsh⟩ := bind_t hsh
  obtain ⟨q28446, c28447, h28443, h28444, h28448, h28441⟩ := hw.elemRK (α := (List Pick)) 0 rfl 0 rfl h28440
  obtain ⟨_, rfl, ⟨p28449, n28450, k28451, rfl, h28452⟩⟩ := h28441
  obtain rfl := h28452.1
  have hw := hw.addE (e := SlA p28449 _ k28451 x28442) h28452
  refine sv hs (y_indexAt Tryz.runUnderlying62 Tryz.sizeOf29 rfl rfl h28443.1 h28443.2 h28444) rfl fun a hs => ?_
  refine sv hs (y_loadQ1 (j := 0) (hw.ownAt 0 rfl) rfl Tryz.isAgg29 h28448 rfl) rfl fun a hs => ?_
  refine av hs rfl rfl fun a hs => ?_
  refine nl ?_
  refine wp_seq ?_
  refine sr ?_
  refine mv hs rfl rfl fun a hs => ?_
  obtain ⟨rv28454, h28453, hsh⟩ := bind_t hsh
  refine st_callR hs (picker_Sort_ok h28453 hw.dom (hw.envAt 0 rfl)) (do_call Tryz.call23 rfl) trivial rfl rfl ?_
  intro v28462 Sv28459 w a h28460 h28461 hs
  obtain ⟨p28455, k28456, c28458, rfl, h28463, h28457⟩ := h28461
  have hw := hw.callN h28460 h28463
  have hw := hw.addE (e := RowA c28458 rv28454) h28457
  refine mv hs rfl rfl fun a hs => ?_
  obtain ⟨rv28465, h28464, hsh⟩ := bind_t hsh
  refine st_callR hs (ref23_Sort_ok h28464 hw.dom (hw.envAt 1 rfl)) (do_call Tryz.call24 rfl) trivial rfl rfl ?_
  intro v28473 Sv28470 w a h28471 h28472 hs
  obtain ⟨p28466, k28467, c28469, rfl, h28474, h28468⟩ := h28472
  have hw := hw.callN h28471 h28474
  have hw := hw.addE (e := RowA c28469 rv28465) h28468
  obtain ⟨rv28476, h28475, hsh⟩ := bind_t hsh
  refine st_callR hs (ref23_Same_ok h28475 hw.bdom (hw.bRow 1 rfl 1 rfl) (hw.bRow 0 rfl 0 rfl)) (do_call Tryz.call20 rfl) trivial rfl rfl ?_
  intro v28480 Sv28477 w a h28478 h28479 hs
  subst h28479
  have hw := hw.callB h28478
  refine sv hs (y_not rfl) rfl fun a hs => ?_
  refine nl ?_
  refine wp_cond_split (hs.ev rfl) (fun h28483 => ?_) (fun h28483 => ?_)
  ·have hsh := ite_t hsh h28483
   refine sr ?_
   refine av hs rfl rfl fun a hs => ?_
   refine nl ?_
   have hsh := oi hsh
   subst hsh
   have h28484 := hd28191 _ rfl
   subst h28484
   refine wp_ret ?_
   refine then_ret ?_
   refine blk_ret ?_
   refine then_ret ?_
   refine then_ret ?_
   refine blk_ret ?_
   refine then_ret ?_
   exact ret1 hs rfl (rv_tmp rfl) (hw.ret rfl)
  have hsh := ite_f hsh h28483
  refine wp_skip ?_
  refine then_normal ?_
  refine sr ?_
  refine mv hs rfl rfl fun a hs => ?_
  refine sv hs (y_len Tryz.runUnderlying29 rfl) rfl fun a hs => ?_
  refine mv hs rfl rfl fun a hs => ?_
  refine nl ?_
  refine wp_block ?_
  refine wp_while (fun sv28685 a w => ∃ (Sv28817 : Nat → Prop), Sl 318 [(46, .slice p28449 x28442.length k28451), (268, .slice (some ⟨b26717, 0, none⟩) ([l26712, list11] : List (List Pick)).length ([l26712, list11] : List (List Pick)).length), (269, .int .i64 (([l26712, list11] : List (List Pick)).length : Int)), (270, .int .i64 sv27456), (281, .int .i64 (x28442.length : Int)), (282, .int .i64 sv28685)] a ∧ Wd ⟨w0, S0, []⟩ Sv28817 [.row (some ⟨b26717, 0, none⟩) ([l26712, list11] : List (List Pick)).length ([l26712, list11] : List (List Pick)).length [.slice p26713 l26712.length k26714, .slice p12 list11.length k13] 29 1] [SlA p28449 x28442.length k28451 x28442, RowA [.slice p26713 l26712.length k26714, .slice p12 list11.length k13] ([l26712, list11] : List (List Pick))] w) 0 hsh ⟨Sv28470, (hs.wk rfl), (hw.ft [2] [2, 3] (by decide) rfl rfl)⟩ ?_
  repeat clear hsh
  rintro sv28685 a w tv28884 ⟨Sv28817, hs, hw⟩ hsh hd28883
  delta law23_PickerExact_l186 at hsh
  refine sr ?_
  refine sv hs (y_lss rfl rfl) rfl fun a hs => ?_
  refine nl ?_
  refine wp_seq ?_
  refine wp_cond_split (hs.ev rfl) (fun h28888 => ?_) (fun h28888 => ?_)
  ·have hsh := ite_t hsh h28888
   refine wp_skip ?_
   refine then_normal ?_
   refine wp_seq ?_
   refine wp_block ?_
   refine sr ?_
   refine mv hs rfl rfl fun a hs => ?_
   refine av hs rfl rfl fun a hs => ?_
   refine nl ?_
   refine wp_seq ?_
   obtain ⟨x28955, h28953, hsh⟩ := bind_t hsh
   obtain ⟨b28961, o28962, q28959, c28960, h28963, h28956, h28957, h28958, h28954⟩ := hw.elemV 0 rfl h28953
   have hsv28964 := hs
   have hwv28965 := hw
   subst h28963
   have hs := hsv28964
   have hw := hwv28965
   obtain ⟨_, _, _, _, _, _, _, _, _, rfl, rfl, rfl, rfl, rfl, rfl, rfl, rfl, rfl, rfl⟩ := h28954
   have hw := hw.addE h28958
   obtain ⟨rv28967, h28966, hsh⟩ := bind_t hsh
   obtain ⟨x28970, h28968, hsh⟩ := bind_t hsh
   obtain ⟨q28974, c28975, h28971, h28972, h28973, h28969⟩ := hw.elemK 1 rfl h28968
   obtain ⟨_, _, _, _, _, _, _, _, _, rfl, rfl, rfl, rfl, rfl, rfl, rfl, rfl, rfl, rfl⟩ := h28969
   have hw := hw.addE h28973
   obtain ⟨rv28977, h28976, hsh⟩ := bind_t hsh
   obtain ⟨c29014, hc29014, hsh⟩ := bind_t hsh
   refine wp_only (fun a w => ∃ (Sv29015 : Nat → Prop), Sl 318 [(46, .slice (some ⟨b28961, o28962, none⟩) x28442.length k28451), (268, .slice (some ⟨b26717, 0, none⟩) ([l26712, list11] : List (List Pick)).length ([l26712, list11] : List (List Pick)).length), (269, .int .i64 (([l26712, list11] : List (List Pick)).length : Int)), (270, .int .i64 sv27456), (281, .int .i64 (x28442.length : Int)), (282, .int .i64 sv28685), (314, .bool c29014)] a ∧ Wd ⟨w0, S0, []⟩ Sv29015 [.row (some ⟨b26717, 0, none⟩) ([l26712, list11] : List (List Pick)).length ([l26712, list11] : List (List Pick)).length [.slice p26713 l26712.length k26714, .slice p12 list11.length k13] 29 1] [SlA (some ⟨b28961, o28962, none⟩) x28442.length k28451 x28442, RowA [.slice p26713 l26712.length k26714, .slice p12 list11.length k13] ([l26712, list11] : List (List Pick))] w) ?_ ?_
   ·rcases Bool.eq_false_or_eq_true (!(rv28967 == rv28977)) with h29016 | h29016
    ·have h29017 := ite_t hc29014 h29016
     refine h_b (C := Cls [.row (some ⟨b26717, 0, none⟩) ([l26712, list11] : List (List Pick)).length ([l26712, list11] : List (List Pick)).length [.slice p26713 l26712.length k26714, .slice p12 list11.length k13] 29 1] [CeA b28961 q28974 [.string x28970.Source.Network, .string x28970.Source.Station, .string x28970.Source.Location, .string x28970.Source.Channel, .int .i64 x28970.Time, .int .i64 x28970.Early, .int .i64 x28970.Late, .int .i64 x28970.Amplitude, .int .i64 x28970.Polarity], CeA b28961 q28959 [.string x28955.Source.Network, .string x28955.Source.Station, .string x28955.Source.Location, .string x28955.Source.Channel, .int .i64 x28955.Time, .int .i64 x28955.Early, .int .i64 x28955.Late, .int .i64 x28955.Amplitude, .int .i64 x28955.Polarity]]) (by kernel_rfl) rfl (hw.drew.cs [0] [0, 1] rfl rfl) fun hC => ?_
     have hw := hw.drew
     refine gm hs 0 rfl rfl rfl hC fun a hs => ?_
     refine gm hs 1 rfl rfl rfl hC fun a hs => ?_
     refine gv hs 2 rfl rfl hC (fun w hC => y_indexAt Tryz.runUnderlying29 Tryz.sizeOf66 rfl rfl h28956.1 h28956.2 h28957) fun a hs => ?_
     refine gv hs 3 rfl rfl hC (fun w hC => y_loadEA (j := 0) (hC.ceAt 1 rfl) rfl Tryz.isAgg66 Tryz.sizeOf66 rfl rfl) fun a hs => ?_
     refine gm hs 5 rfl rfl rfl hC fun a hs => ?_
     refine gm hs 6 rfl rfl rfl hC fun a hs => ?_
     refine gv hs 7 rfl rfl hC (fun w hC => y_indexAt Tryz.runUnderlying29 Tryz.sizeOf66 rfl rfl h28971.1 h28971.2 h28972) fun a hs => ?_
     refine gv hs 8 rfl rfl hC (fun w hC => y_loadEA (j := 0) (hC.ceAt 0 rfl) rfl Tryz.isAgg66 Tryz.sizeOf66 rfl rfl) fun a hs => ?_
     refine ho 4 rfl ?_
     refine st_callR hs (picker_ValidPick_ok h28966 hw.bdom) (do_call Tryz.call25 rfl) trivial rfl rfl ?_
     intro v29021 Sv29018 w a h29019 h29020 hs
     subst h29020
     have hw := hw.callB h29019
     refine h_nx (hw.cs [0] [0, 1] rfl rfl) fun hC => ?_
     refine ho 9 rfl ?_
     refine st_callR hs (ref23_ValidPick_ok h28976 hw.bdom) (do_call Tryz.call26 rfl) trivial rfl rfl ?_
     intro v29026 Sv29023 w a h29024 h29025 hs
     subst h29025
     have hw := hw.callB h29024
     refine h_nx (hw.cs [0] [0, 1] rfl rfl) fun hC => ?_
     refine gv hs 10 rfl rfl hC (fun w hC => y_neqB Tryz.runUnderlying4 rfl rfl) fun a hs => ?_
     refine gm hs 11 rfl rfl rfl hC fun a hs => ?_
     have hs := hs.fix 296 (.bool true) rfl (vb h29016)
     refine gs hs 12 rfl rfl rfl rfl hC fun a hs => ?_
     refine gs hs 13 rfl rfl rfl rfl hC fun a hs => ?_
     refine gs hs 14 rfl rfl rfl rfl hC fun a hs => ?_
     refine gs hs 15 rfl rfl rfl rfl hC fun a hs => ?_
     refine gs hs 16 rfl rfl rfl rfl hC fun a hs => ?_
     refine gs hs 17 rfl rfl rfl rfl hC fun a hs => ?_
     refine gs hs 18 rfl rfl rfl rfl hC fun a hs => ?_
     refine gs hs 19 rfl rfl rfl rfl hC fun a hs => ?_
     refine gs hs 20 rfl rfl rfl rfl hC fun a hs => ?_
     refine gs hs 21 rfl rfl rfl rfl hC fun a hs => ?_
     refine gs hs 22 rfl rfl rfl rfl hC fun a hs => ?_
     refine gs hs 23 rfl rfl rfl rfl hC fun a hs => ?_
     refine gs hs 24 rfl rfl rfl rfl hC fun a hs => ?_
     refine gs hs 25 rfl rfl rfl rfl hC fun a hs => ?_
     refine gs hs 26 rfl rfl rfl rfl hC fun a hs => ?_
     refine gs hs 27 rfl rfl rfl rfl hC fun a hs => ?_
     refine gs hs 28 rfl rfl rfl rfl hC fun a hs => ?_
     refine gv hs 29 rfl rfl hC (fun w hC => y_pickTE (v := .bool c29014) rfl rfl (vbs h29017)) fun a hs => ?_
     refine h_done (by kernel_rfl) ?_
     exact ⟨Sv28817, (hs.wk rfl), (hw.ft [0] [2, 3] (by decide) rfl rfl)⟩
    have h29028 := ite_f hc29014 h29016
    obtain ⟨x29031, h29029, h29028⟩ := bind_t h29028
    obtain ⟨q29035, c29036, h29032, h29033, h29034, h29030⟩ := hw.elemK 2 rfl h29029
    obtain ⟨_, _, _, _, _, _, _, _, _, rfl, rfl, rfl, rfl, rfl, rfl, rfl, rfl, rfl, rfl⟩ := h29030
    have hw := hw.addE h29034
    obtain ⟨x29039, h29037, h29028⟩ := bind_t h29028
    obtain ⟨q29043, c29044, h29040, h29041, h29042, h29038⟩ := hw.elemK 3 rfl h29037
    obtain ⟨_, _, _, _, _, _, _, _, _, rfl, rfl, rfl, rfl, rfl, rfl, rfl, rfl, rfl, rfl⟩ := h29038
    have hw := hw.addE h29042
    obtain ⟨rv29046, h29045, h29028⟩ := bind_t h29028
    obtain ⟨x29049, h29047, h29028⟩ := bind_t h29028
    obtain ⟨q29053, c29054, h29050, h29051, h29052, h29048⟩ := hw.elemK 4 rfl h29047
    obtain ⟨_, _, _, _, _, _, _, _, _, rfl, rfl, rfl, rfl, rfl, rfl, rfl, rfl, rfl, rfl⟩ := h29048
    have hw := hw.addE h29052
    obtain ⟨x29057, h29055, h29028⟩ := bind_t h29028
    obtain ⟨q29061, c29062, h29058, h29059, h29060, h29056⟩ := hw.elemK 5 rfl h29055
    obtain ⟨_, _, _, _, _, _, _, _, _, rfl, rfl, rfl, rfl, rfl, rfl, rfl, rfl, rfl, rfl⟩ := h29056
    have hw := hw.addE h29060
    obtain ⟨rv29064, h29063, h29028⟩ := bind_t h29028
    refine h_b (C := Cls [.row (some ⟨b26717, 0, none⟩) ([l26712, list11] : List (List Pick)).length ([l26712, list11] : List (List Pick)).length [.slice p26713 l26712.length k26714, .slice p12 list11.length k13] 29 1] [CeA b28961 q29061 [.string x29057.Source.Network, .string x29057.Source.Station, .string x29057.Source.Location, .string x29057.Source.Channel, .int .i64 x29057.Time, .int .i64 x29057.Early, .int .i64 x29057.Late, .int .i64 x29057.Amplitude, .int .i64 x29057.Polarity], CeA b28961 q29053 [.string x29049.Source.Network, .string x29049.Source.Station, .string x29049.Source.Location, .string x29049.Source.Channel, .int .i64 x29049.Time, .int .i64 x29049.Early, .int .i64 x29049.Late, .int .i64 x29049.Amplitude, .int .i64 x29049.Polarity], CeA b28961 q29043 [.string x29039.Source.Network, .string x29039.Source.Station, .string x29039.Source.Location, .string x29039.Source.Channel, .int .i64 x29039.Time, .int .i64 x29039.Early, .int .i64 x29039.Late, .int .i64 x29039.Amplitude, .int .i64 x29039.Polarity], CeA b28961 q29035 [.string x29031.Source.Network, .string x29031.Source.Station, .string x29031.Source.Location, .string x29031.Source.Channel, .int .i64 x29031.Time, .int .i64 x29031.Early, .int .i64 x29031.Late, .int .i64 x29031.Amplitude, .int .i64 x29031.Polarity], CeA b28961 q28974 [.string x28970.Source.Network, .string x28970.Source.Station, .string x28970.Source.Location, .string x28970.Source.Channel, .int .i64 x28970.Time, .int .i64 x28970.Early, .int .i64 x28970.Late, .int .i64 x28970.Amplitude, .int .i64 x28970.Polarity], CeA b28961 q28959 [.string x28955.Source.Network, .string x28955.Source.Station, .string x28955.Source.Location, .string x28955.Source.Channel, .int .i64 x28955.Time, .int .i64 x28955.Early, .int .i64 x28955.Late, .int .i64 x28955.Amplitude, .int .i64 x28955.Polarity]]) (by kernel_rfl) rfl (hw.drew.cs [0] [0, 1, 2, 3, 4, 5] rfl rfl) fun hC => ?_
    have hw := hw.drew
    refine gm hs 0 rfl rfl rfl hC fun a hs => ?_
    refine gm hs 1 rfl rfl rfl hC fun a hs => ?_
    refine gv hs 2 rfl rfl hC (fun w hC => y_indexAt Tryz.runUnderlying29 Tryz.sizeOf66 rfl rfl h28956.1 h28956.2 h28957) fun a hs => ?_
    refine gv hs 3 rfl rfl hC (fun w hC => y_loadEA (j := 0) (hC.ceAt 5 rfl) rfl Tryz.isAgg66 Tryz.sizeOf66 rfl rfl) fun a hs => ?_
    refine gm hs 5 rfl rfl rfl hC fun a hs => ?_
    refine gm hs 6 rfl rfl rfl hC fun a hs => ?_
    refine gv hs 7 rfl rfl hC (fun w hC => y_indexAt Tryz.runUnderlying29 Tryz.sizeOf66 rfl rfl h28971.1 h28971.2 h28972) fun a hs => ?_
    refine gv hs 8 rfl rfl hC (fun w hC => y_loadEA (j := 0) (hC.ceAt 4 rfl) rfl Tryz.isAgg66 Tryz.sizeOf66 rfl rfl) fun a hs => ?_
    refine ho 4 rfl ?_
    refine st_callR hs (picker_ValidPick_ok h28966 hw.bdom) (do_call Tryz.call25 rfl) trivial rfl rfl ?_
    intro v29068 Sv29065 w a h29066 h29067 hs
    subst h29067
    have hw := hw.callB h29066
    refine h_nx (hw.cs [0] [0, 1, 2, 3, 4, 5] rfl rfl) fun hC => ?_
    refine ho 9 rfl ?_
    refine st_callR hs (ref23_ValidPick_ok h28976 hw.bdom) (do_call Tryz.call26 rfl) trivial rfl rfl ?_
    intro v29073 Sv29070 w a h29071 h29072 hs
    subst h29072
    have hw := hw.callB h29071
    refine h_nx (hw.cs [0] [0, 1, 2, 3, 4, 5] rfl rfl) fun hC => ?_
    refine gv hs 10 rfl rfl hC (fun w hC => y_neqB Tryz.runUnderlying4 rfl rfl) fun a hs => ?_
    refine gm hs 11 rfl rfl rfl hC fun a hs => ?_
    have hs := hs.fix 296 (.bool false) rfl (vb h29016)
    refine gt hs 12 rfl ⟨_, rfl, rfl⟩ rfl hC (fun w hC => y_move rfl) fun a hs => ?_
    refine gt hs 13 rfl ⟨_, rfl, rfl⟩ rfl hC (fun w hC => y_move rfl) fun a hs => ?_
    refine gt hs 14 rfl ⟨_, rfl, rfl⟩ rfl hC (fun w hC => y_indexAt Tryz.runUnderlying29 Tryz.sizeOf66 rfl rfl h29032.1 h29032.2 h29033) fun a hs => ?_
    refine gt hs 15 rfl ⟨_, rfl, rfl⟩ rfl hC (fun w hC => y_loadEA (j := 0) (hC.ceAt 3 rfl) rfl Tryz.isAgg66 Tryz.sizeOf66 rfl rfl) fun a hs => ?_
    refine gt hs 16 rfl ⟨_, rfl, rfl⟩ rfl hC (fun w hC => y_move rfl) fun a hs => ?_
    refine gt hs 17 rfl ⟨_, rfl, rfl⟩ rfl hC (fun w hC => y_indexAt Tryz.runUnderlying29 Tryz.sizeOf66 rfl rfl h29040.1 h29040.2 h29041) fun a hs => ?_
    refine gt hs 18 rfl ⟨_, rfl, rfl⟩ rfl hC (fun w hC => y_loadEA (j := 0) (hC.ceAt 2 rfl) rfl Tryz.isAgg66 Tryz.sizeOf66 rfl rfl) fun a hs => ?_
    refine gt hs 20 rfl ⟨_, rfl, rfl⟩ rfl hC (fun w hC => y_move rfl) fun a hs => ?_
    refine gt hs 21 rfl ⟨_, rfl, rfl⟩ rfl hC (fun w hC => y_move rfl) fun a hs => ?_
    refine gt hs 22 rfl ⟨_, rfl, rfl⟩ rfl hC (fun w hC => y_indexAt Tryz.runUnderlying29 Tryz.sizeOf66 rfl rfl h29050.1 h29050.2 h29051) fun a hs => ?_
    refine gt hs 23 rfl ⟨_, rfl, rfl⟩ rfl hC (fun w hC => y_loadEA (j := 0) (hC.ceAt 1 rfl) rfl Tryz.isAgg66 Tryz.sizeOf66 rfl rfl) fun a hs => ?_
    refine gt hs 24 rfl ⟨_, rfl, rfl⟩ rfl hC (fun w hC => y_move rfl) fun a hs => ?_
    refine gt hs 25 rfl ⟨_, rfl, rfl⟩ rfl hC (fun w hC => y_indexAt Tryz.runUnderlying29 Tryz.sizeOf66 rfl rfl h29058.1 h29058.2 h29059) fun a hs => ?_
    refine gt hs 26 rfl ⟨_, rfl, rfl⟩ rfl hC (fun w hC => y_loadEA (j := 0) (hC.ceAt 0 rfl) rfl Tryz.isAgg66 Tryz.sizeOf66 rfl rfl) fun a hs => ?_
    refine ho 19 rfl ?_
    refine st_callR hs (picker_Compare_ok h29045 hw.bdom) (do_call Tryz.call27 rfl) ⟨_, rfl, rfl⟩ rfl rfl ?_
    intro v29078 Sv29075 w a h29076 h29077 hs
    subst h29077
    have hw := hw.callB h29076
    refine h_nx (hw.cs [0] [0, 1, 2, 3, 4, 5] rfl rfl) fun hC => ?_
    refine ho 27 rfl ?_
    refine st_callR hs (ref23_Compare_ok h29063 hw.bdom) (do_call Tryz.call28 rfl) ⟨_, rfl, rfl⟩ rfl rfl ?_
    intro v29083 Sv29080 w a h29081 h29082 hs
    subst h29082
    have hw := hw.callB h29081
    refine h_nx (hw.cs [0] [0, 1, 2, 3, 4, 5] rfl rfl) fun hC => ?_
    refine gt hs 28 rfl ⟨_, rfl, rfl⟩ rfl hC (fun w hC => y_neq rfl rfl) fun a hs => ?_
    refine gv hs 29 rfl rfl hC (fun w hC => y_pickFE (v := .bool c29014) rfl rfl (vbs h29028)) fun a hs => ?_
    refine h_done (by kernel_rfl) ?_
    exact ⟨Sv28817, (hs.wk rfl), (hw.ft [0] [6, 7] (by decide) rfl rfl)⟩
   rintro a w ⟨Sv29015, hs, hw⟩
   refine then_normal ?_
   refine wp_cond_split (hs.ev rfl) (fun h29086 => ?_) (fun h29086 => ?_)
   ·have hsh := ite_t hsh h29086
    refine sr ?_
    refine av hs rfl rfl fun a hs => ?_
    refine nl ?_
    have hsh := oi hsh
    subst hsh
    have h29087 := hd28883 _ rfl
    subst h29087
    have h29088 := hd28191 _ rfl
    subst h29088
    refine wp_ret ?_
    refine blk_ret ?_
    refine then_ret ?_
    refine then_ret ?_
    refine blk_ret ?_
    refine blk_ret ?_
    refine then_ret ?_
    refine then_ret ?_
    refine blk_ret ?_
    refine then_ret ?_
    exact ret1 hs rfl (rv_tmp rfl) (hw.ret rfl)
   have hsh := ite_f hsh h29086
   refine wp_skip ?_
   refine blk_normal ?_
   refine then_normal ?_
   refine wp_region_lit ?_
   refine sv hs (y_add rfl rfl) rfl fun a hs => ?_
   refine mv hs rfl rfl fun a hs => ?_
   refine nl ?_
   exact ⟨_, (Option.some.inj hsh).symm, Sv29015, (hs.wk rfl), (hw.ft [0] [0, 1] (by decide) rfl rfl)⟩
  have hsh := ite_f hsh h28888
  obtain ⟨rv29089, hsh, h29090⟩ := map_t hsh
  have h29090 := (hd28883 _ h29090.symm).symm
  subst h29090
  refine wp_exit ?_
  refine then_exit ?_
  refine then_exit ?_
  refine blk_exit ?_
  refine blk_normal ?_
  refine then_normal ?_
  refine wp_region_lit ?_
  refine sv hs (y_add rfl rfl) rfl fun a hs => ?_
  refine mv hs rfl rfl fun a hs => ?_
  refine nl ?_
  exact ⟨_, (Option.some.inj hsh).symm, Sv28817, (hs.wk rfl), (hw.ft [0] [1] (by decide) rfl rfl)⟩
 have hsh := ite_f hsh h28196
 obtain ⟨rv29098, hsh, h29099⟩ := map_t hsh
 have h29099 := (hd28191 _ h29099.symm).symm
 subst h29099
 refine wp_exit ?_
 refine then_exit ?_
 refine then_exit ?_
 refine blk_exit ?_
 refine then_normal ?_
 refine sr ?_
 obtain ⟨rv29092, h29091, hsh⟩ := bind_t hsh
 refine st_callR hs (law23_sane_ok h29091 hw.bdom) (do_call Tryz.call5 rfl) trivial rfl rfl ?_
 intro v29096 Sv29093 w a h29094 h29095 hs
 subst h29095
 have hw := hw.callB h29094
 refine av hs rfl rfl fun a hs => ?_
 refine nl ?_
 have hsh := oi hsh
 subst hsh
 refine wp_ret ?_
 exact ret1 hs rfl (rv_tmp rfl) (hw.ret rfl)
end Go.Proofs.YtmlekplbmfengaaGreat.Wk

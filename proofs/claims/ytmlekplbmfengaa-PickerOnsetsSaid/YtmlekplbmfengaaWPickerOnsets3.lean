/- The walks of PickerOnsets, part 3: each Go function computes what its plain program computes. Printed by a program of ours. -/
import Derived.Test.YtmlekplbmfengaaProg
import Derived.Test.YtmlekplbmfengaaDat
import Derived.Test.YtmlekplbmfengaaSh
import Derived.Test.YtmlekplbmfengaaLibL
import Derived.Test.YtmlekplbmfengaaLibZ
import Derived.Test.YtmlekplbmfengaaLibQ
import Derived.KernelRfl
import Derived.Test.YtmlekplbmfengaaWPickerOnsets2
namespace Go.Proofs.Ytmlekplbmfengaa.Wk
open Go Go.RowKit Go.Proofs Go.Proofs.Ytmlekplbmfengaa.Sh
set_option linter.unusedVariables false
set_option linter.unusedSimpArgs false

abbrev ref22_reaches_rd (w0 : World) (X : List Nat) (r : Bool) : (Nat → Prop) → World → Value → Prop := fun S w v => v = .bool r
set_option maxHeartbeats 4000000 in
set_option maxRecDepth 100000 in
theorem ref22_reaches_ok {w0 : World} {S0 : Nat → Prop} {d1 : Detector} {short2 : Int} {long3 : Int} {p4 : Int} {r : Bool} (hsh : ref22_reaches d1 short2 long3 p4 = some r) (hS : ∀ b, S0 b → b < w0.heap.size) : Calls Try.prog 63 #[.agg #[.int .i64 d1.Short, .int .i64 d1.Long, .int .i64 d1.On, .int .i64 d1.Off], .int .i64 short2, .int .i64 long3, .int .i64 p4] w0 (Ret ([]) w0 S0 (ref22_reaches_rd w0 ([]) r)) := by
 refine calls_of_wp Try.func63 rfl ?_
 have hs := Sl.enter #[.agg #[.int .i64 d1.Short, .int .i64 d1.Long, .int .i64 d1.On, .int .i64 d1.Off], .int .i64 short2, .int .i64 long3, .int .i64 p4] 25 [(0, .agg #[.int .i64 d1.Short, .int .i64 d1.Long, .int .i64 d1.On, .int .i64 d1.Off]), (1, .int .i64 short2), (2, .int .i64 long3), (3, .int .i64 p4)] rfl ⟨rfl, rfl, rfl, rfl, trivial⟩
 have hw := Wd.enter (E := []) hS (fun _ h => (by cases h))
 delta ref22_reaches at hsh
 refine sr ?_
 refine w_box (cs := [.int .i64 d1.Short, .int .i64 d1.Long, .int .i64 d1.On, .int .i64 d1.Off]) hs hw rfl rfl rfl trivial ?_
 intro b5 a w hs hw
 refine av hs rfl rfl fun a hs => ?_
 refine nl ?_
 refine sr ?_
 refine mv hs rfl rfl fun a hs => ?_
 refine sv hs (y_neq rfl rfl) rfl fun a hs => ?_
 refine mv hs rfl rfl fun a hs => ?_
 refine wpl_join 13 (fun a w1 => w = w1 ∧ Sl 25 [(24, .bool ((long3 != 0) && (decide ((w64 ((w64 (p4 * d1.Short)) * long3)) ≤ (w64 ((w64 (100 * d1.Long)) * short2))))))] a) ?_ ?_
 ·rcases Bool.eq_false_or_eq_true (long3 != 0) with h6 | h6
  ·have hs := hs.fix 11 (.bool true) rfl (vb h6)
   refine st_val hs (y_fieldAddr (o' := 1) Try.runUnderlying28 rfl Try.sizeOf3 rfl rfl rfl) ⟨_, rfl, rfl⟩ rfl rfl fun a hs => ?_
   refine st_val hs (y_loadB1 (hw.ownAt 0 rfl) rfl Try.isAgg3 rfl) ⟨_, rfl, rfl⟩ rfl rfl fun a hs => ?_
   refine st_val hs (y_mul rfl rfl) ⟨_, rfl, rfl⟩ rfl rfl fun a hs => ?_
   refine st_val hs (y_move rfl) ⟨_, rfl, rfl⟩ rfl rfl fun a hs => ?_
   refine st_val hs (y_mul rfl rfl) ⟨_, rfl, rfl⟩ rfl rfl fun a hs => ?_
   refine st_val hs (y_move rfl) ⟨_, rfl, rfl⟩ rfl rfl fun a hs => ?_
   refine st_val hs (y_fieldAddr (o' := 0) Try.runUnderlying28 rfl Try.sizeOf3 rfl rfl rfl) ⟨_, rfl, rfl⟩ rfl rfl fun a hs => ?_
   refine st_val hs (y_loadB1 (hw.ownAt 0 rfl) rfl Try.isAgg3 rfl) ⟨_, rfl, rfl⟩ rfl rfl fun a hs => ?_
   refine st_val hs (y_mul rfl rfl) ⟨_, rfl, rfl⟩ rfl rfl fun a hs => ?_
   refine st_val hs (y_move rfl) ⟨_, rfl, rfl⟩ rfl rfl fun a hs => ?_
   refine st_val hs (y_mul rfl rfl) ⟨_, rfl, rfl⟩ rfl rfl fun a hs => ?_
   refine st_val hs (y_geq rfl rfl) ⟨_, rfl, rfl⟩ rfl rfl fun a hs => ?_
   refine sv hs (y_pickT rfl rfl) rfl fun a hs => ?_
   refine nl ?_
   exact ⟨rfl, (hs.fix 24 (.bool ((long3 != 0) && (decide ((w64 ((w64 (p4 * d1.Short)) * long3)) ≤ (w64 ((w64 (100 * d1.Long)) * short2)))))) rfl (and_t h6)).weaken _ ⟨rfl, trivial⟩⟩
  have hs := hs.fix 11 (.bool false) rfl (vb h6)
  refine st_skip hs rfl rfl rfl rfl rfl fun a hs => ?_
  refine st_skip hs rfl rfl rfl rfl rfl fun a hs => ?_
  refine st_skip hs rfl rfl rfl rfl rfl fun a hs => ?_
  refine st_skip hs rfl rfl rfl rfl rfl fun a hs => ?_
  refine st_skip hs rfl rfl rfl rfl rfl fun a hs => ?_
  refine st_skip hs rfl rfl rfl rfl rfl fun a hs => ?_
  refine st_skip hs rfl rfl rfl rfl rfl fun a hs => ?_
  refine st_skip hs rfl rfl rfl rfl rfl fun a hs => ?_
  refine st_skip hs rfl rfl rfl rfl rfl fun a hs => ?_
  refine st_skip hs rfl rfl rfl rfl rfl fun a hs => ?_
  refine st_skip hs rfl rfl rfl rfl rfl fun a hs => ?_
  refine st_skip hs rfl rfl rfl rfl rfl fun a hs => ?_
  refine sv hs (y_pickF rfl rfl) rfl fun a hs => ?_
  refine nl ?_
  exact ⟨rfl, (hs.fix 24 (.bool ((long3 != 0) && (decide ((w64 ((w64 (p4 * d1.Short)) * long3)) ≤ (w64 ((w64 (100 * d1.Long)) * short2)))))) rfl (and_f h6)).weaken _ ⟨rfl, trivial⟩⟩
 rintro a w1 ⟨h7, hs⟩
 subst h7
 refine av hs rfl rfl fun a hs => ?_
 refine nl ?_
 have hsh := oi hsh
 subst hsh
 refine wp_ret ?_
 exact ret1 hs rfl (rv_tmp rfl) (hw.ret rfl)

abbrev ref22_step_rd (w0 : World) (X : List Nat) (r : (Trigger × Trigger × Bool)) : (Nat → Prop) → World → Value → Prop := fun S w v => v = .tuple #[.agg #[.int .i64 r.1.On, .int .i64 r.1.Off, .int .i64 r.1.Peak], .agg #[.int .i64 r.2.1.On, .int .i64 r.2.1.Off, .int .i64 r.2.1.Peak], .bool r.2.2]
set_option maxHeartbeats 4000000 in
set_option maxRecDepth 100000 in
theorem ref22_step_ok {w0 : World} {S0 : Nat → Prop} {p3 : Option Addr} {k4 : Nat} {d1 : Detector} {x2 : (List Int)} {i6 : Int} {number7 : Int} {open8 : Trigger} {r : (Trigger × Trigger × Bool)} (hsh : ref22_step d1 x2 i6 number7 open8 = some r) (hS : ∀ b, S0 b → b < w0.heap.size) (h5 : (SlA p3 x2.length k4 x2).p S0 w0) : Calls Try.prog 35 #[.agg #[.int .i64 d1.Short, .int .i64 d1.Long, .int .i64 d1.On, .int .i64 d1.Off], .slice p3 x2.length k4, .int .i64 i6, .int .i64 number7, .agg #[.int .i64 open8.On, .int .i64 open8.Off, .int .i64 open8.Peak]] w0 (Ret ([]) w0 S0 (ref22_step_rd w0 ([]) r)) := by
 refine calls_of_wp Try.func35 rfl ?_
 have hs := Sl.enter #[.agg #[.int .i64 d1.Short, .int .i64 d1.Long, .int .i64 d1.On, .int .i64 d1.Off], .slice p3 x2.length k4, .int .i64 i6, .int .i64 number7, .agg #[.int .i64 open8.On, .int .i64 open8.Off, .int .i64 open8.Peak]] 63 [(0, .agg #[.int .i64 d1.Short, .int .i64 d1.Long, .int .i64 d1.On, .int .i64 d1.Off]), (1, .slice p3 x2.length k4), (2, .int .i64 i6), (3, .int .i64 number7), (4, .agg #[.int .i64 open8.On, .int .i64 open8.Off, .int .i64 open8.Peak])] rfl ⟨rfl, rfl, rfl, rfl, rfl, trivial⟩
 have hw := Wd.enter (E := []) hS (fun _ h => (by cases h))
 have hw := hw.addE h5
 delta ref22_step at hsh
 refine sr ?_
 refine w_box (cs := [.int .i64 d1.Short, .int .i64 d1.Long, .int .i64 d1.On, .int .i64 d1.Off]) hs hw rfl rfl rfl trivial ?_
 intro b9 a w hs hw
 refine w_box (cs := [.int .i64 open8.On, .int .i64 open8.Off, .int .i64 open8.Peak]) hs hw rfl rfl rfl trivial ?_
 intro b10 a w hs hw
 refine w_alloc (cs := [.int .i64 0, .int .i64 0, .int .i64 0]) hs hw Try.zeroValue54 rfl rfl trivial ?_
 intro b11 a w hs hw
 refine w_alloc (cs := [.int .i64 0, .int .i64 0, .int .i64 0]) hs hw Try.zeroValue54 rfl rfl trivial ?_
 intro b12 a w hs hw
 refine av hs rfl rfl fun a hs => ?_
 refine nl ?_
 refine sr ?_
 refine sv hs (y_loadBA (hw.ownAt 3 rfl) rfl Try.isAgg28 Try.sizeOf28 rfl rfl) rfl fun a hs => ?_
 refine mv hs rfl rfl fun a hs => ?_
 refine mv hs rfl rfl fun a hs => ?_
 obtain ⟨rv14, h13, hsh⟩ := bind_t hsh
 refine st_callR hs (ref22_sums_ok h13 hw.bdom (hw.bE 0 rfl)) (do_call Try.call40 rfl) trivial rfl rfl ?_
 intro v18 Sv15 w a h16 h17 hs
 subst h17
 have hw := hw.callB h16
 refine mv hs rfl rfl fun a hs => ?_
 refine sv hs (y_extract rfl rfl) rfl fun a hs => ?_
 refine sv hs (y_extract rfl rfl) rfl fun a hs => ?_
 refine av hs rfl rfl fun a hs => ?_
 refine av hs rfl rfl fun a hs => ?_
 refine nl ?_
 refine wp_seq ?_
 refine sr ?_
 refine sv hs (y_fieldAddr (o' := 0) Try.runUnderlying54 rfl Try.sizeOf3 rfl rfl rfl) rfl fun a hs => ?_
 refine sv hs (y_loadB1 (hw.ownAt 2 rfl) rfl Try.isAgg3 rfl) rfl fun a hs => ?_
 refine sv hs (y_lss rfl rfl) rfl fun a hs => ?_
 refine nl ?_
 refine wp_cond_split (hs.ev rfl) (fun h42 => ?_) (fun h42 => ?_)
 ·have hsh := ite_t hsh h42
  refine wp_seq ?_
  refine sr ?_
  refine sv hs (y_loadBA (hw.ownAt 3 rfl) rfl Try.isAgg28 Try.sizeOf28 rfl rfl) rfl fun a hs => ?_
  refine mv hs rfl rfl fun a hs => ?_
  refine mv hs rfl rfl fun a hs => ?_
  refine sv hs (y_fieldAddr (o' := 2) Try.runUnderlying28 rfl Try.sizeOf3 rfl rfl rfl) rfl fun a hs => ?_
  refine sv hs (y_loadB1 (hw.ownAt 3 rfl) rfl Try.isAgg3 rfl) rfl fun a hs => ?_
  obtain ⟨rv44, h43, hsh⟩ := bind_t hsh
  refine st_callR hs (ref22_reaches_ok h43 hw.bdom) (do_call Try.call63 rfl) trivial rfl rfl ?_
  intro v48 Sv45 w a h46 h47 hs
  subst h47
  have hw := hw.callB h46
  refine nl ?_
  refine wp_cond_split (hs.ev rfl) (fun h64 => ?_) (fun h64 => ?_)
  ·have hsh := ite_t hsh h64
   refine sr ?_
   refine mv hs rfl rfl fun a hs => ?_
   refine mv hs rfl rfl fun a hs => ?_
   refine mv hs rfl rfl fun a hs => ?_
   obtain ⟨x67, h65, hsh⟩ := bind_t hsh
   obtain ⟨b73, o74, q71, c72, h75, h68, h69, h70, h66⟩ := hw.elemV 0 rfl h65
   have hsv76 := hs
   have hwv77 := hw
   subst h75
   have hs := hsv76
   have hw := hwv77
   obtain ⟨_, rfl, rfl⟩ := h66
   have hw := hw.addE h70
   refine sv hs (y_indexAt Try.runUnderlying22 Try.sizeOf3 rfl rfl h68.1 h68.2 h69) rfl fun a hs => ?_
   refine sv hs (y_loadE1 (j := 0) (hw.ceAt 0 rfl) rfl Try.isAgg3 rfl) rfl fun a hs => ?_
   refine sv hs (y_build (vs := [(0, .int .i64 number7), (1, .int .i64 (-1)), (2, .int .i64 x67)]) Bld54 rfl rfl) rfl fun a hs => ?_
   refine sv hs (y_build (vs := []) Bld54 rfl rfl) rfl fun a hs => ?_
   refine w_store (m := 3) (cs' := [.int .i64 number7, .int .i64 (-1), .int .i64 x67]) hs hw 1 rfl rfl rfl Try.sizeOf54 rfl rfl rfl rfl trivial ?_
   intro a w hs hw
   refine w_store (m := 3) (cs' := [.int .i64 0, .int .i64 0, .int .i64 0]) hs hw 0 rfl rfl rfl Try.sizeOf54 rfl rfl rfl rfl trivial ?_
   intro a w hs hw
   refine av hs rfl rfl fun a hs => ?_
   refine nl ?_
   have hsh := oi hsh
   subst hsh
   refine wp_ret ?_
   refine then_ret ?_
   refine then_ret ?_
   exact ret3 hs rfl (rv_cell hw 1 rfl rfl Try.isAgg54 Try.sizeOf54 rfl) (rv_cell hw 0 rfl rfl Try.isAgg54 Try.sizeOf54 rfl) (rv_tmp rfl) (hw.ret rfl)
  have hsh := ite_f hsh h64
  refine wp_skip ?_
  refine then_normal ?_
  refine sr ?_
  refine sv hs (y_loadBA (hw.ownAt 2 rfl) rfl Try.isAgg54 Try.sizeOf54 rfl rfl) rfl fun a hs => ?_
  refine sv hs (y_build (vs := []) Bld54 rfl rfl) rfl fun a hs => ?_
  refine w_store (m := 3) (cs' := [.int .i64 open8.On, .int .i64 open8.Off, .int .i64 open8.Peak]) hs hw 1 rfl rfl rfl Try.sizeOf54 rfl rfl rfl rfl trivial ?_
  intro a w hs hw
  refine w_store (m := 3) (cs' := [.int .i64 0, .int .i64 0, .int .i64 0]) hs hw 0 rfl rfl rfl Try.sizeOf54 rfl rfl rfl rfl trivial ?_
  intro a w hs hw
  refine av hs rfl rfl fun a hs => ?_
  refine nl ?_
  have hsh := oi hsh
  subst hsh
  refine wp_ret ?_
  refine then_ret ?_
  exact ret3 hs rfl (rv_cell hw 1 rfl rfl Try.isAgg54 Try.sizeOf54 rfl) (rv_cell hw 0 rfl rfl Try.isAgg54 Try.sizeOf54 rfl) (rv_tmp rfl) (hw.ret rfl)
 have hsh := ite_f hsh h42
 refine wp_skip ?_
 refine then_normal ?_
 refine wp_seq ?_
 refine sr ?_
 refine sv hs (y_loadBA (hw.ownAt 3 rfl) rfl Try.isAgg28 Try.sizeOf28 rfl rfl) rfl fun a hs => ?_
 refine mv hs rfl rfl fun a hs => ?_
 refine mv hs rfl rfl fun a hs => ?_
 refine sv hs (y_fieldAddr (o' := 3) Try.runUnderlying28 rfl Try.sizeOf3 rfl rfl rfl) rfl fun a hs => ?_
 refine sv hs (y_loadB1 (hw.ownAt 3 rfl) rfl Try.isAgg3 rfl) rfl fun a hs => ?_
 obtain ⟨rv79, h78, hsh⟩ := bind_t hsh
 refine st_callR hs (ref22_reaches_ok h78 hw.bdom) (do_call Try.call63 rfl) trivial rfl rfl ?_
 intro v83 Sv80 w a h81 h82 hs
 subst h82
 have hw := hw.callB h81
 refine sv hs (y_not rfl) rfl fun a hs => ?_
 refine nl ?_
 refine wp_cond_split (hs.ev rfl) (fun h90 => ?_) (fun h90 => ?_)
 ·have hsh := ite_t hsh h90
  refine sr ?_
  refine sv hs (y_loadBA (hw.ownAt 2 rfl) rfl Try.isAgg54 Try.sizeOf54 rfl rfl) rfl fun a hs => ?_
  refine w_alloc (cs := [.int .i64 0, .int .i64 0, .int .i64 0]) hs hw Try.zeroValue54 rfl rfl trivial ?_
  intro b91 a w hs hw
  refine w_store (m := 3) (cs' := [.int .i64 open8.On, .int .i64 open8.Off, .int .i64 open8.Peak]) hs hw 0 rfl rfl rfl Try.sizeOf54 rfl rfl rfl rfl trivial ?_
  intro a w hs hw
  refine nl ?_
  refine sr ?_
  refine mv hs rfl rfl fun a hs => ?_
  refine sv hs (y_fieldAddr (o' := 1) Try.runUnderlying54 rfl Try.sizeOf3 rfl rfl rfl) rfl fun a hs => ?_
  refine w_store (m := 1) (cs' := [.int .i64 open8.On, .int .i64 number7, .int .i64 open8.Peak]) hs hw 0 rfl rfl rfl Try.sizeOf3 rfl rfl rfl rfl trivial ?_
  intro a w hs hw
  refine nl ?_
  refine wp_seq ?_
  obtain ⟨rv93, h92, hsh⟩ := bind_t hsh
  refine wp_only (fun a w => ∃ (Sv94 : Nat → Prop), Sl 63 [(10, .pointer (some ⟨b11, 0, none⟩)), (11, .pointer (some ⟨b12, 0, none⟩)), (12, .bool true)] a ∧ Wd ⟨w0, S0, []⟩ Sv94 [.box b11 [.int .i64 rv93.On, .int .i64 rv93.Off, .int .i64 rv93.Peak] 54, .box b12 [.int .i64 open8.On, .int .i64 number7, .int .i64 open8.Peak] 54] [] w) ?_ ?_
  ·refine h_b (C := Cls [.box b91 [.int .i64 open8.On, .int .i64 number7, .int .i64 open8.Peak] 54, .box b10 [.int .i64 open8.On, .int .i64 open8.Off, .int .i64 open8.Peak] 54, .box b9 [.int .i64 d1.Short, .int .i64 d1.Long, .int .i64 d1.On, .int .i64 d1.Off] 28] []) (by kernel_rfl) rfl (hw.drew.cs [0, 3, 4] [] rfl rfl) fun hC => ?_
   have hw := hw.drew
   refine gv hs 1 rfl rfl hC (fun w hC => y_loadBA (hC.ownAt 0 rfl) rfl Try.isAgg54 Try.sizeOf54 rfl rfl) fun a hs => ?_
   refine ho 0 rfl ?_
   refine st_callR hs (ref22_none_ok h92 hw.bdom) (do_call Try.call34 rfl) trivial rfl rfl ?_
   intro v98 Sv95 w a h96 h97 hs
   subst h97
   have hw := hw.callB h96
   refine h_nx (hw.cs [0, 3, 4] [] rfl rfl) fun hC => ?_
   refine ho 2 rfl ?_
   refine w_store (m := 3) (cs' := [.int .i64 rv93.On, .int .i64 rv93.Off, .int .i64 rv93.Peak]) hs hw 2 rfl rfl rfl Try.sizeOf54 rfl rfl rfl rfl trivial ?_
   intro a w hs hw
   refine h_nx (hw.cs [0, 3, 4] [] rfl rfl) fun hC => ?_
   refine ho 3 rfl ?_
   refine w_store (m := 3) (cs' := [.int .i64 open8.On, .int .i64 number7, .int .i64 open8.Peak]) hs hw 1 rfl rfl rfl Try.sizeOf54 rfl rfl rfl rfl trivial ?_
   intro a w hs hw
   refine h_nx (hw.cs [0, 3, 4] [] rfl rfl) fun hC => ?_
   refine gv hs 4 rfl rfl hC (fun w hC => y_assign rfl) fun a hs => ?_
   refine h_done (by kernel_rfl) ?_
   exact ⟨S0, (hs.wk rfl), (hw.ft [2, 1] [] (by decide) rfl rfl)⟩
  rintro a w ⟨Sv94, hs, hw⟩
  refine then_normal ?_
  have hsh := oi hsh
  subst hsh
  refine wp_ret ?_
  refine then_ret ?_
  exact ret3 hs rfl (rv_cell hw 0 rfl rfl Try.isAgg54 Try.sizeOf54 rfl) (rv_cell hw 1 rfl rfl Try.isAgg54 Try.sizeOf54 rfl) (rv_tmp rfl) (hw.ret rfl)
 have hsh := ite_f hsh h90
 refine wp_skip ?_
 refine then_normal ?_
 refine wp_seq ?_
 obtain ⟨x102, h100, hsh⟩ := bind_t hsh
 obtain ⟨b108, o109, q106, c107, h110, h103, h104, h105, h101⟩ := hw.elemV 0 rfl h100
 have hsv111 := hs
 have hwv112 := hw
 subst h110
 have hs := hsv111
 have hw := hwv112
 obtain ⟨_, rfl, rfl⟩ := h101
 have hw := hw.addE h105
 refine wp_only (fun a w => ∃ (Sv113 : Nat → Prop), Sl 63 [(9, .pointer (some ⟨b10, 0, none⟩)), (10, .pointer (some ⟨b11, 0, none⟩)), (11, .pointer (some ⟨b12, 0, none⟩))] a ∧ Wd ⟨w0, S0, []⟩ Sv113 [.box b10 [.int .i64 open8.On, .int .i64 open8.Off, .int .i64 (max open8.Peak x102)] 54, .box b11 [.int .i64 0, .int .i64 0, .int .i64 0] 54, .box b12 [.int .i64 0, .int .i64 0, .int .i64 0] 54] [] w) ?_ ?_
 ·refine h_b (C := Cls [.box b12 [.int .i64 0, .int .i64 0, .int .i64 0] 54, .box b11 [.int .i64 0, .int .i64 0, .int .i64 0] 54, .box b9 [.int .i64 d1.Short, .int .i64 d1.Long, .int .i64 d1.On, .int .i64 d1.Off] 28] [CeA b108 q106 [.int .i64 x102]]) (by kernel_rfl) rfl (hw.drew.cs [0, 1, 3] [0] rfl rfl) fun hC => ?_
  have hw := hw.drew
  refine gv hs 0 rfl rfl hC (fun w hC => y_fieldAddr (o' := 2) Try.runUnderlying54 rfl Try.sizeOf3 rfl rfl rfl) fun a hs => ?_
  refine gm hs 2 rfl rfl rfl hC fun a hs => ?_
  refine gm hs 3 rfl rfl rfl hC fun a hs => ?_
  refine gv hs 4 rfl rfl hC (fun w hC => y_indexAt Try.runUnderlying22 Try.sizeOf3 rfl rfl h103.1 h103.2 h104) fun a hs => ?_
  refine gv hs 5 rfl rfl hC (fun w hC => y_loadE1 (j := 0) (hC.ceAt 0 rfl) rfl Try.isAgg3 rfl) fun a hs => ?_
  refine ho 1 rfl ?_
  refine sv hs (y_loadB1 (hw.ownAt 2 rfl) rfl Try.isAgg3 rfl) rfl fun a hs => ?_
  refine h_nx (hw.cs [0, 1, 3] [0] rfl rfl) fun hC => ?_
  refine gv hs 6 rfl rfl hC (fun w hC => y_max rfl rfl) fun a hs => ?_
  refine gv hs 7 rfl rfl hC (fun w hC => y_fieldAddr (o' := 2) Try.runUnderlying54 rfl Try.sizeOf3 rfl rfl rfl) fun a hs => ?_
  refine ho 8 rfl ?_
  refine w_store (m := 1) (cs' := [.int .i64 open8.On, .int .i64 open8.Off, .int .i64 (max open8.Peak x102)]) hs hw 2 rfl rfl rfl Try.sizeOf3 rfl rfl rfl rfl trivial ?_
  intro a w hs hw
  refine h_nx (hw.cs [0, 1, 3] [0] rfl rfl) fun hC => ?_
  refine h_done (by kernel_rfl) ?_
  exact ⟨S0, (hs.wk rfl), (hw.ft [2, 1, 0] [] (by decide) rfl rfl)⟩
 rintro a w ⟨Sv113, hs, hw⟩
 refine then_normal ?_
 refine sr ?_
 refine sv hs (y_loadBA (hw.ownAt 0 rfl) rfl Try.isAgg54 Try.sizeOf54 rfl rfl) rfl fun a hs => ?_
 refine sv hs (y_build (vs := []) Bld54 rfl rfl) rfl fun a hs => ?_
 refine w_store (m := 3) (cs' := [.int .i64 open8.On, .int .i64 open8.Off, .int .i64 (max open8.Peak x102)]) hs hw 1 rfl rfl rfl Try.sizeOf54 rfl rfl rfl rfl trivial ?_
 intro a w hs hw
 refine w_store (m := 3) (cs' := [.int .i64 0, .int .i64 0, .int .i64 0]) hs hw 2 rfl rfl rfl Try.sizeOf54 rfl rfl rfl rfl trivial ?_
 intro a w hs hw
 refine av hs rfl rfl fun a hs => ?_
 refine nl ?_
 have hsh := oi hsh
 subst hsh
 refine wp_ret ?_
 exact ret3 hs rfl (rv_cell hw 1 rfl rfl Try.isAgg54 Try.sizeOf54 rfl) (rv_cell hw 2 rfl rfl Try.isAgg54 Try.sizeOf54 rfl) (rv_tmp rfl) (hw.ret rfl)

abbrev ref22_Run_rd (w0 : World) (X : List Nat) (r : ((List Trigger) × Int)) : (Nat → Prop) → World → Value → Prop := fun S w v => ∃ (p0_0 : Option Addr) (k0_0 : Nat) (c0_0 : List Value), v = .tuple #[.slice p0_0 r.1.length k0_0, .int .i64 r.2] ∧ Outs X w0 S w [.row p0_0 r.1.length k0_0 c0_0 54 3] ∧ (RowA c0_0 r.1).p S w
set_option maxHeartbeats 4000000 in
set_option maxRecDepth 100000 in
theorem ref22_Run_ok {w0 : World} {S0 : Nat → Prop} {p3 : Option Addr} {k4 : Nat} {d1 : Detector} {samples2 : (List Int)} {r : ((List Trigger) × Int)} (hsh : ref22_Run d1 samples2 = some r) (hS : ∀ b, S0 b → b < w0.heap.size) (h5 : (SlA p3 samples2.length k4 samples2).p S0 w0) : Calls Try.prog 17 #[.agg #[.int .i64 d1.Short, .int .i64 d1.Long, .int .i64 d1.On, .int .i64 d1.Off], .slice p3 samples2.length k4] w0 (Ret ([]) w0 S0 (ref22_Run_rd w0 ([]) r)) := by
 refine calls_of_wp Try.func17 rfl ?_
 have hs := Sl.enter #[.agg #[.int .i64 d1.Short, .int .i64 d1.Long, .int .i64 d1.On, .int .i64 d1.Off], .slice p3 samples2.length k4] 64 [(0, .agg #[.int .i64 d1.Short, .int .i64 d1.Long, .int .i64 d1.On, .int .i64 d1.Off]), (1, .slice p3 samples2.length k4)] rfl ⟨rfl, rfl, trivial⟩
 have hw := Wd.enter (E := []) hS (fun _ h => (by cases h))
 have hw := hw.addE h5
 delta ref22_Run at hsh
 refine sr ?_
 refine w_box (cs := [.int .i64 d1.Short, .int .i64 d1.Long, .int .i64 d1.On, .int .i64 d1.Off]) hs hw rfl rfl rfl trivial ?_
 intro b6 a w hs hw
 refine av hs rfl rfl fun a hs => ?_
 refine av hs rfl rfl fun a hs => ?_
 refine nl ?_
 refine wp_seq ?_
 refine wp_block ?_
 refine sr ?_
 refine sv hs (y_loadBA (hw.ownAt 0 rfl) rfl Try.isAgg28 Try.sizeOf28 rfl rfl) rfl fun a hs => ?_
 obtain ⟨rv25, h24, hsh⟩ := bind_t hsh
 refine st_callR hs (ref22_Valid_ok h24 hw.bdom) (do_call Try.call31 rfl) trivial rfl rfl ?_
 intro v29 Sv26 w a h27 h28 hs
 subst h28
 have hw := hw.callB h27
 refine sv hs (y_not rfl) rfl fun a hs => ?_
 refine av hs rfl rfl fun a hs => ?_
 refine nl ?_
 refine wp_cond_split (hs.ev rfl) (fun h41 => ?_) (fun h41 => ?_)
 ·have hsh := ite_t hsh h41
  refine sr ?_
  refine av hs rfl rfl fun a hs => ?_
  refine av hs rfl rfl fun a hs => ?_
  refine nl ?_
  have hsh := oi hsh
  subst hsh
  have hw := hw.nilRow Trigger 54
  refine wp_ret ?_
  refine blk_ret ?_
  refine then_ret ?_
  exact ret2 hs rfl (rv_tmp rfl) (rv_tmp rfl) (hw.ret ⟨none, 0, [], rfl, (hw.outs [0] (by decide) rfl), (hw.envAt 0 rfl)⟩)
 have hsh := ite_f hsh h41
 refine sr ?_
 refine mv hs rfl rfl fun a hs => ?_
 refine sv hs (y_len Try.runUnderlying22 rfl) rfl fun a hs => ?_
 refine sv hs (y_gtr rfl rfl) rfl fun a hs => ?_
 refine av hs rfl rfl fun a hs => ?_
 refine nl ?_
 refine wp_cond_split (hs.ev rfl) (fun h51 => ?_) (fun h51 => ?_)
 ·have hsh := ite_t hsh h51
  refine sr ?_
  refine av hs rfl rfl fun a hs => ?_
  refine av hs rfl rfl fun a hs => ?_
  refine nl ?_
  have hsh := oi hsh
  subst hsh
  have hw := hw.nilRow Trigger 54
  refine wp_ret ?_
  refine blk_ret ?_
  refine then_ret ?_
  exact ret2 hs rfl (rv_tmp rfl) (rv_tmp rfl) (hw.ret ⟨none, 0, [], rfl, (hw.outs [0] (by decide) rfl), (hw.envAt 0 rfl)⟩)
 have hsh := ite_f hsh h51
 refine sr ?_
 refine mv hs rfl rfl fun a hs => ?_
 obtain ⟨rv53, h52, hsh⟩ := bind_t hsh
 refine st_callR hs (ref05_InRange_ok h52 hw.bdom (hw.bE 0 rfl)) (do_call Try.call32 rfl) trivial rfl rfl ?_
 intro v57 Sv54 w a h55 h56 hs
 subst h56
 have hw := hw.callB h55
 refine sv hs (y_not rfl) rfl fun a hs => ?_
 refine av hs rfl rfl fun a hs => ?_
 refine nl ?_
 refine wp_cond_split (hs.ev rfl) (fun h60 => ?_) (fun h60 => ?_)
 ·have hsh := ite_t hsh h60
  refine sr ?_
  refine av hs rfl rfl fun a hs => ?_
  refine av hs rfl rfl fun a hs => ?_
  refine nl ?_
  have hsh := oi hsh
  subst hsh
  have hw := hw.nilRow Trigger 54
  refine wp_ret ?_
  refine blk_ret ?_
  refine then_ret ?_
  exact ret2 hs rfl (rv_tmp rfl) (rv_tmp rfl) (hw.ret ⟨none, 0, [], rfl, (hw.outs [0] (by decide) rfl), (hw.envAt 0 rfl)⟩)
 have hsh := ite_f hsh h60
 refine wp_skip ?_
 refine blk_normal ?_
 refine then_normal ?_
 refine sr ?_
 refine mv hs rfl rfl fun a hs => ?_
 obtain ⟨rv62, h61, hsh⟩ := bind_t hsh
 refine st_callR hs (ref22_absolute_ok h61 hw.dom (hw.envAt 0 rfl)) (do_call Try.call33 rfl) trivial rfl rfl ?_
 intro v70 Sv67 w a h68 h69 hs
 obtain ⟨p63, k64, c66, rfl, h71, h65⟩ := h69
 have hw := hw.callN h68 h71
 have hw := hw.addE (e := RowA c66 rv62) h65
 refine av hs rfl rfl fun a hs => ?_
 refine nl ?_
 refine sr ?_
 refine av hs rfl rfl fun a hs => ?_
 refine nl ?_
 refine sr ?_
 obtain ⟨rv73, h72, hsh⟩ := bind_t hsh
 refine st_callR hs (ref22_none_ok h72 hw.bdom) (do_call Try.call34 rfl) trivial rfl rfl ?_
 intro v77 Sv74 w a h75 h76 hs
 subst h76
 have hw := hw.callB h75
 refine w_alloc (cs := [.int .i64 0, .int .i64 0, .int .i64 0]) hs hw Try.zeroValue54 rfl rfl trivial ?_
 intro b79 a w hs hw
 refine w_store (m := 3) (cs' := [.int .i64 rv73.On, .int .i64 rv73.Off, .int .i64 rv73.Peak]) hs hw 0 rfl rfl rfl Try.sizeOf54 rfl rfl rfl rfl trivial ?_
 intro a w hs hw
 refine nl ?_
 refine wp_seq ?_
 refine sr ?_
 refine sv hs (y_fieldAddr (o' := 1) Try.runUnderlying28 rfl Try.sizeOf3 rfl rfl rfl) rfl fun a hs => ?_
 refine sv hs (y_loadB1 (hw.ownAt 2 rfl) rfl Try.isAgg3 rfl) rfl fun a hs => ?_
 refine sv hs (y_sub rfl rfl) rfl fun a hs => ?_
 obtain ⟨i81, h80, hsh⟩ := bind_t hsh
 refine sv hs (y_assignI rfl h80) rfl fun a hs => ?_
 refine nl ?_
 obtain ⟨e169, h254, hsh⟩ := bind_t hsh
 refine wp_join (fun a w => ∃ (c170 : List Value) (p171 : Option Addr) (k172 : Nat) (Sv173 : Nat → Prop), Sl 64 [(7, .slice p171 e169.2.2.2.length k172), (8, .pointer (some ⟨b79, 0, none⟩))] a ∧ Wd ⟨w0, S0, []⟩ Sv173 [.box b79 [.int .i64 e169.1, .int .i64 e169.2.1, .int .i64 e169.2.2.1] 54, .row p171 e169.2.2.2.length k172 c170 54 3] [RowA c170 e169.2.2.2] w) ?_ ?_
 ·refine wp_block ?_
  have hw := hw.nilRow Trigger 54
  refine wp_while (fun sv82 a w => ∃ (c137 : List Value) (p138 : Option Addr) (k139 : Nat) (Sv140 : Nat → Prop), Sl 64 [(2, .pointer (some ⟨b6, 0, none⟩)), (6, .slice p63 rv62.length k64), (7, .slice p138 sv82.2.2.2.1.length k139), (8, .pointer (some ⟨b79, 0, none⟩)), (9, .int .i64 sv82.2.2.2.2)] a ∧ Wd ⟨w0, S0, []⟩ Sv140 [.box b6 [.int .i64 d1.Short, .int .i64 d1.Long, .int .i64 d1.On, .int .i64 d1.Off] 28, .box b79 [.int .i64 sv82.1, .int .i64 sv82.2.1, .int .i64 sv82.2.2.1] 54, .row p63 rv62.length k64 c66 3 1, .row p138 sv82.2.2.2.1.length k139 c137 54 3] [RowA c66 rv62, RowA c137 sv82.2.2.2.1] w) (rv73.On, rv73.Off, rv73.Peak, ([] : List Trigger), i81) h254 ⟨[], none, 0, Sv67, (hs.wk rfl), (hw.ft [3, 1, 2, 0] [1, 0] (by decide) rfl rfl)⟩ ?_
  clear h254
  repeat clear hsh
  rintro sv82 a w tv167 ⟨c137, p138, k139, Sv140, hs, hw⟩ hsh hd166
  delta ref22_Run_l1 at hsh
  refine wp_seq ?_
  refine sr ?_
  refine mv hs rfl rfl fun a hs => ?_
  refine mv hs rfl rfl fun a hs => ?_
  refine sv hs (y_len Try.runUnderlying22 rfl) rfl fun a hs => ?_
  refine sv hs (y_lss rfl rfl) rfl fun a hs => ?_
  refine nl ?_
  refine wp_cond_split (hs.ev rfl) (fun h175 => ?_) (fun h175 => ?_)
  ·have hsh := ite_t hsh h175
   refine wp_skip ?_
   refine then_normal ?_
   refine wp_seq ?_
   refine wp_block ?_
   refine sr ?_
   refine sv hs (y_loadBA (hw.ownAt 0 rfl) rfl Try.isAgg28 Try.sizeOf28 rfl rfl) rfl fun a hs => ?_
   refine mv hs rfl rfl fun a hs => ?_
   refine mv hs rfl rfl fun a hs => ?_
   refine mv hs rfl rfl fun a hs => ?_
   refine sv hs (y_loadBA (hw.ownAt 1 rfl) rfl Try.isAgg54 Try.sizeOf54 rfl rfl) rfl fun a hs => ?_
   obtain ⟨rv199, h198, hsh⟩ := bind_t hsh
   refine st_callR hs (ref22_step_ok h198 hw.bdom (hw.bRow 2 rfl 0 rfl)) (do_call Try.call35 rfl) trivial rfl rfl ?_
   intro v203 Sv200 w a h201 h202 hs
   subst h202
   have hw := hw.callB h201
   refine mv hs rfl rfl fun a hs => ?_
   refine sv hs (y_extract rfl rfl) rfl fun a hs => ?_
   refine sv hs (y_extract rfl rfl) rfl fun a hs => ?_
   refine sv hs (y_extract rfl rfl) rfl fun a hs => ?_
   refine w_alloc (cs := [.int .i64 0, .int .i64 0, .int .i64 0]) hs hw Try.zeroValue54 rfl rfl trivial ?_
   intro b205 a w hs hw
   refine w_alloc (cs := [.int .i64 0, .int .i64 0, .int .i64 0]) hs hw Try.zeroValue54 rfl rfl trivial ?_
   intro b206 a w hs hw
   refine w_store (m := 3) (cs' := [.int .i64 rv199.1.On, .int .i64 rv199.1.Off, .int .i64 rv199.1.Peak]) hs hw 1 rfl rfl rfl Try.sizeOf54 rfl rfl rfl rfl trivial ?_
   intro a w hs hw
   refine w_store (m := 3) (cs' := [.int .i64 rv199.2.1.On, .int .i64 rv199.2.1.Off, .int .i64 rv199.2.1.Peak]) hs hw 0 rfl rfl rfl Try.sizeOf54 rfl rfl rfl rfl trivial ?_
   intro a w hs hw
   refine av hs rfl rfl fun a hs => ?_
   refine nl ?_
   refine sr ?_
   refine sv hs (y_loadBA (hw.ownAt 1 rfl) rfl Try.isAgg54 Try.sizeOf54 rfl rfl) rfl fun a hs => ?_
   refine w_store (m := 3) (cs' := [.int .i64 rv199.1.On, .int .i64 rv199.1.Off, .int .i64 rv199.1.Peak]) hs hw 3 rfl rfl rfl Try.sizeOf54 rfl rfl rfl rfl trivial ?_
   intro a w hs hw
   refine nl ?_
   refine sr ?_
   refine mv hs rfl rfl fun a hs => ?_
   refine nl ?_
   refine wp_join (fun a w => ∃ (out219 : (List Trigger)) (c215 : List Value) (p216 : Option Addr) (k217 : Nat) (Sv218 : Nat → Prop), ref22_Run_j1 sv82 rv199 out219 = some tv167 ∧ Sl 64 [(2, .pointer (some ⟨b6, 0, none⟩)), (6, .slice p63 rv62.length k64), (7, .slice p216 out219.length k217), (8, .pointer (some ⟨b79, 0, none⟩)), (9, .int .i64 sv82.2.2.2.2)] a ∧ Wd ⟨w0, S0, []⟩ Sv218 [.box b6 [.int .i64 d1.Short, .int .i64 d1.Long, .int .i64 d1.On, .int .i64 d1.Off] 28, .box b79 [.int .i64 rv199.1.On, .int .i64 rv199.1.Off, .int .i64 rv199.1.Peak] 54, .row p63 rv62.length k64 c66 3 1, .row p216 out219.length k217 c215 54 3] [RowA c66 rv62, RowA c215 out219] w) ?_ ?_
   ·refine wp_cond_split (hs.ev rfl) (fun h222 => ?_) (fun h222 => ?_)
    ·have hsh := ite_t hsh h222
     refine wp_region_lit ?_
     refine mv hs rfl rfl fun a hs => ?_
     refine sv hs (y_loadBA (hw.ownAt 0 rfl) rfl Try.isAgg54 Try.sizeOf54 rfl rfl) rfl fun a hs => ?_
     refine w_litSlice (α := Trigger) (vs := [.agg #[.int .i64 rv199.2.1.On, .int .i64 rv199.2.1.Off, .int .i64 rv199.2.1.Peak]]) (cs := [.int .i64 rv199.2.1.On, .int .i64 rv199.2.1.Off, .int .i64 rv199.2.1.Peak]) (xs := ([rv199.2.1] : List Trigger)) hs hw El50 rfl rfl rfl rfl rfl rfl ⟨⟨_, _, _, rfl, rfl, rfl, rfl⟩, rfl⟩ rfl trivial rfl fun b224 a w hs hw => ?_
     obtain ⟨l226, h225, hsh⟩ := bind_t hsh
     refine w_appendR (α := Trigger) hs hw El50 6 rfl rfl rfl 2 rfl 0 rfl 0 rfl h225 rfl trivial ?_
     intro p227 k228 c229 a w hs hw
     refine av hs rfl rfl fun a hs => ?_
     refine nl ?_
     exact ⟨l226, c229, p227, k228, Sv140, hsh, (hs.wk rfl), (hw.ft [3, 4, 5, 6] [2, 0] (by decide) rfl rfl)⟩
    have hsh := ite_f hsh h222
    refine wp_skip ?_
    refine then_normal ?_
    exact ⟨sv82.2.2.2.1, c137, p138, k139, Sv140, hsh, (hs.wk rfl), (hw.ft [2, 3, 4, 5] [0, 1] (by decide) rfl rfl)⟩
   rintro a w ⟨out219, c215, p216, k217, Sv218, hsh, hs, hw⟩
   delta ref22_Run_j1 at hsh
   refine blk_normal ?_
   refine then_normal ?_
   refine wp_region_lit ?_
   refine mv hs rfl rfl fun a hs => ?_
   refine sv hs (y_add rfl rfl) rfl fun a hs => ?_
   obtain ⟨i221, h220, hsh⟩ := bind_t hsh
   refine sv hs (y_assignI rfl h220) rfl fun a hs => ?_
   refine nl ?_
   exact ⟨_, (Option.some.inj hsh).symm, c215, p216, k217, Sv218, (hs.wk rfl), (hw.ft [0, 1, 2, 3] [0, 1] (by decide) rfl rfl)⟩
  have hsh := ite_f hsh h175
  refine wp_exit ?_
  refine then_exit ?_
  refine then_exit ?_
  refine blk_exit ?_
  have hsh := oi hsh
  subst hsh
  have h230 := hd166 _ rfl
  subst h230
  refine then_normal ?_
  exact ⟨c137, p138, k139, Sv140, (hs.wk rfl), (hw.ft [1, 3] [1] (by decide) rfl rfl)⟩
 rintro a w ⟨c170, p171, k172, Sv173, hs, hw⟩
 refine then_normal ?_
 refine wp_seq ?_
 refine sr ?_
 refine sv hs (y_fieldAddr (o' := 0) Try.runUnderlying54 rfl Try.sizeOf3 rfl rfl rfl) rfl fun a hs => ?_
 refine sv hs (y_loadB1 (hw.ownAt 0 rfl) rfl Try.isAgg3 rfl) rfl fun a hs => ?_
 refine sv hs (y_geq rfl rfl) rfl fun a hs => ?_
 refine nl ?_
 refine wp_join (fun a w => ∃ (out243 : (List Trigger)) (c239 : List Value) (p240 : Option Addr) (k241 : Nat) (Sv242 : Nat → Prop), ref22_Run_j3 out243 = some r ∧ Sl 64 [(7, .slice p240 out243.length k241)] a ∧ Wd ⟨w0, S0, []⟩ Sv242 [.row p240 out243.length k241 c239 54 3] [RowA c239 out243] w) ?_ ?_
 ·refine wp_cond_split (hs.ev rfl) (fun h246 => ?_) (fun h246 => ?_)
  ·have hsh := ite_t hsh h246
   refine wp_region_lit ?_
   refine mv hs rfl rfl fun a hs => ?_
   refine sv hs (y_loadBA (hw.ownAt 0 rfl) rfl Try.isAgg54 Try.sizeOf54 rfl rfl) rfl fun a hs => ?_
   refine w_litSlice (α := Trigger) (vs := [.agg #[.int .i64 e169.1, .int .i64 e169.2.1, .int .i64 e169.2.2.1]]) (cs := [.int .i64 e169.1, .int .i64 e169.2.1, .int .i64 e169.2.2.1]) (xs := ([(⟨e169.1, e169.2.1, e169.2.2.1⟩ : Trigger)] : List Trigger)) hs hw El50 rfl rfl rfl rfl rfl rfl ⟨⟨_, _, _, rfl, rfl, rfl, rfl⟩, rfl⟩ rfl trivial rfl fun b248 a w hs hw => ?_
   obtain ⟨l250, h249, hsh⟩ := bind_t hsh
   refine w_appendR (α := Trigger) hs hw El50 2 rfl rfl rfl 1 rfl 0 rfl 0 rfl h249 rfl trivial ?_
   intro p251 k252 c253 a w hs hw
   refine av hs rfl rfl fun a hs => ?_
   refine nl ?_
   exact ⟨l250, c253, p251, k252, Sv173, hsh, (hs.wk rfl), (hw.ft [2] [0] (by decide) rfl rfl)⟩
  have hsh := ite_f hsh h246
  refine wp_skip ?_
  refine then_normal ?_
  exact ⟨e169.2.2.2, c170, p171, k172, Sv173, hsh, (hs.wk rfl), (hw.ft [1] [0] (by decide) rfl rfl)⟩
 rintro a w ⟨out243, c239, p240, k241, Sv242, hsh, hs, hw⟩
 delta ref22_Run_j3 at hsh
 refine then_normal ?_
 refine wp_seq ?_
 refine sr ?_
 refine mv hs rfl rfl fun a hs => ?_
 refine sv hs (y_len Try.runUnderlying50 rfl) rfl fun a hs => ?_
 refine sv hs (y_gtr rfl rfl) rfl fun a hs => ?_
 refine nl ?_
 refine wp_cond_split (hs.ev rfl) (fun h245 => ?_) (fun h245 => ?_)
 ·have hsh := ite_t hsh h245
  refine sr ?_
  refine av hs rfl rfl fun a hs => ?_
  refine av hs rfl rfl fun a hs => ?_
  refine nl ?_
  have hsh := oi hsh
  subst hsh
  have hw := hw.nilRow Trigger 54
  refine wp_ret ?_
  refine then_ret ?_
  exact ret2 hs rfl (rv_tmp rfl) (rv_tmp rfl) (hw.ret ⟨none, 0, [], rfl, (hw.outs [0] (by decide) rfl), (hw.envAt 0 rfl)⟩)
 have hsh := ite_f hsh h245
 refine wp_skip ?_
 refine then_normal ?_
 refine sr ?_
 refine mv hs rfl rfl fun a hs => ?_
 refine av hs rfl rfl fun a hs => ?_
 refine av hs rfl rfl fun a hs => ?_
 refine nl ?_
 have hsh := oi hsh
 subst hsh
 refine wp_ret ?_
 exact ret2 hs rfl (rv_tmp rfl) (rv_tmp rfl) (hw.ret ⟨p240, k241, c239, rfl, (hw.outs [0] (by decide) rfl), (hw.envAt 0 rfl)⟩)

abbrev ref22_Ratio_rd (w0 : World) (X : List Nat) (r : (Int × Int × Int)) : (Nat → Prop) → World → Value → Prop := fun S w v => v = .tuple #[.int .i64 r.1, .int .i64 r.2.1, .int .i64 r.2.2]
set_option maxHeartbeats 4000000 in
set_option maxRecDepth 100000 in
theorem ref22_Ratio_ok {w0 : World} {S0 : Nat → Prop} {p3 : Option Addr} {k4 : Nat} {d1 : Detector} {samples2 : (List Int)} {i6 : Int} {r : (Int × Int × Int)} (hsh : ref22_Ratio d1 samples2 i6 = some r) (hS : ∀ b, S0 b → b < w0.heap.size) (h5 : (SlA p3 samples2.length k4 samples2).p S0 w0) : Calls Try.prog 19 #[.agg #[.int .i64 d1.Short, .int .i64 d1.Long, .int .i64 d1.On, .int .i64 d1.Off], .slice p3 samples2.length k4, .int .i64 i6] w0 (Ret ([]) w0 S0 (ref22_Ratio_rd w0 ([]) r)) := by
 refine calls_of_wp Try.func19 rfl ?_
 have hs := Sl.enter #[.agg #[.int .i64 d1.Short, .int .i64 d1.Long, .int .i64 d1.On, .int .i64 d1.Off], .slice p3 samples2.length k4, .int .i64 i6] 42 [(0, .agg #[.int .i64 d1.Short, .int .i64 d1.Long, .int .i64 d1.On, .int .i64 d1.Off]), (1, .slice p3 samples2.length k4), (2, .int .i64 i6)] rfl ⟨rfl, rfl, rfl, trivial⟩
 have hw := Wd.enter (E := []) hS (fun _ h => (by cases h))
 have hw := hw.addE h5
 delta ref22_Ratio at hsh
 refine sr ?_
 refine w_box (cs := [.int .i64 d1.Short, .int .i64 d1.Long, .int .i64 d1.On, .int .i64 d1.Off]) hs hw rfl rfl rfl trivial ?_
 intro b7 a w hs hw
 refine av hs rfl rfl fun a hs => ?_
 refine av hs rfl rfl fun a hs => ?_
 refine av hs rfl rfl fun a hs => ?_
 refine nl ?_
 refine wp_seq ?_
 refine wp_block ?_
 refine sr ?_
 refine sv hs (y_loadBA (hw.ownAt 0 rfl) rfl Try.isAgg28 Try.sizeOf28 rfl rfl) rfl fun a hs => ?_
 obtain ⟨rv43, h42, hsh⟩ := bind_t hsh
 refine st_callR hs (ref22_Valid_ok h42 hw.bdom) (do_call Try.call31 rfl) trivial rfl rfl ?_
 intro v47 Sv44 w a h45 h46 hs
 subst h46
 have hw := hw.callB h45
 refine sv hs (y_not rfl) rfl fun a hs => ?_
 refine av hs rfl rfl fun a hs => ?_
 refine nl ?_
 refine wp_cond_split (hs.ev rfl) (fun h76 => ?_) (fun h76 => ?_)
 ·have hsh := ite_t hsh h76
  refine sr ?_
  refine av hs rfl rfl fun a hs => ?_
  refine av hs rfl rfl fun a hs => ?_
  refine av hs rfl rfl fun a hs => ?_
  refine nl ?_
  have hsh := oi hsh
  subst hsh
  refine wp_ret ?_
  refine blk_ret ?_
  refine then_ret ?_
  exact ret3 hs rfl (rv_tmp rfl) (rv_tmp rfl) (rv_tmp rfl) (hw.ret rfl)
 have hsh := ite_f hsh h76
 refine sr ?_
 refine mv hs rfl rfl fun a hs => ?_
 refine sv hs (y_len Try.runUnderlying22 rfl) rfl fun a hs => ?_
 refine sv hs (y_gtr rfl rfl) rfl fun a hs => ?_
 refine av hs rfl rfl fun a hs => ?_
 refine nl ?_
 refine wp_cond_split (hs.ev rfl) (fun h103 => ?_) (fun h103 => ?_)
 ·have hsh := ite_t hsh h103
  refine sr ?_
  refine av hs rfl rfl fun a hs => ?_
  refine av hs rfl rfl fun a hs => ?_
  refine av hs rfl rfl fun a hs => ?_
  refine nl ?_
  have hsh := oi hsh
  subst hsh
  refine wp_ret ?_
  refine blk_ret ?_
  refine then_ret ?_
  exact ret3 hs rfl (rv_tmp rfl) (rv_tmp rfl) (rv_tmp rfl) (hw.ret rfl)
 have hsh := ite_f hsh h103
 refine sr ?_
 refine mv hs rfl rfl fun a hs => ?_
 obtain ⟨rv105, h104, hsh⟩ := bind_t hsh
 refine st_callR hs (ref05_InRange_ok h104 hw.bdom (hw.bE 0 rfl)) (do_call Try.call32 rfl) trivial rfl rfl ?_
 intro v109 Sv106 w a h107 h108 hs
 subst h108
 have hw := hw.callB h107
 refine sv hs (y_not rfl) rfl fun a hs => ?_
 refine mv hs rfl rfl fun a hs => ?_
 obtain ⟨c119, hc119, hsh⟩ := bind_t hsh
 refine wpl_join 10 (fun a w => ∃ (Sv120 : Nat → Prop), Sl 42 [(1, .slice p3 samples2.length k4), (2, .int .i64 i6), (3, .pointer (some ⟨b7, 0, none⟩)), (31, .bool c119)] a ∧ Wd ⟨w0, S0, []⟩ Sv120 [.box b7 [.int .i64 d1.Short, .int .i64 d1.Long, .int .i64 d1.On, .int .i64 d1.Off] 28] [SlA p3 samples2.length k4 samples2] w) ?_ ?_
 ·rcases Bool.eq_false_or_eq_true (!rv105) with h118 | h118
  ·have hs := hs.fix 21 (.bool true) rfl (vb h118)
   have hsh := ite_t hc119 h118
   refine st_skip hs rfl rfl rfl rfl rfl fun a hs => ?_
   refine st_skip hs rfl rfl rfl rfl rfl fun a hs => ?_
   refine st_skip hs rfl rfl rfl rfl rfl fun a hs => ?_
   refine st_skip hs rfl rfl rfl rfl rfl fun a hs => ?_
   refine st_skip hs rfl rfl rfl rfl rfl fun a hs => ?_
   refine st_skip hs rfl rfl rfl rfl rfl fun a hs => ?_
   refine st_skip hs rfl rfl rfl rfl rfl fun a hs => ?_
   refine st_skip hs rfl rfl rfl rfl rfl fun a hs => ?_
   refine st_skip hs rfl rfl rfl rfl rfl fun a hs => ?_
   refine sv hs (y_pickT rfl rfl) rfl fun a hs => ?_
   refine wpList_nil ?_
   have hsh := oi hsh
   subst hsh
   refine then_normal ?_
   exact ⟨S0, (hs.wk rfl), (hw.ft [0] [0] (by decide) rfl rfl)⟩
  have hs := hs.fix 21 (.bool false) rfl (vb h118)
  have hsh := ite_f hc119 h118
  refine st_val hs (y_move rfl) ⟨_, rfl, rfl⟩ rfl rfl fun a hs => ?_
  refine st_val hs (y_fieldAddr (o' := 1) Try.runUnderlying28 rfl Try.sizeOf3 rfl rfl rfl) ⟨_, rfl, rfl⟩ rfl rfl fun a hs => ?_
  refine st_val hs (y_loadB1 (hw.ownAt 0 rfl) rfl Try.isAgg3 rfl) ⟨_, rfl, rfl⟩ rfl rfl fun a hs => ?_
  refine st_val hs (y_sub rfl rfl) ⟨_, rfl, rfl⟩ rfl rfl fun a hs => ?_
  refine st_val hs (y_move rfl) ⟨_, rfl, rfl⟩ rfl rfl fun a hs => ?_
  refine st_val hs (y_len Try.runUnderlying22 rfl) ⟨_, rfl, rfl⟩ rfl rfl fun a hs => ?_
  refine st_val hs (y_sub rfl rfl) ⟨_, rfl, rfl⟩ rfl rfl fun a hs => ?_
  obtain ⟨rv122, h121, hsh⟩ := bind_t hsh
  refine st_callR hs (ref01_In_ok h121 hw.bdom) (do_call Try.call39 rfl) ⟨_, rfl, rfl⟩ rfl rfl ?_
  intro v126 Sv123 w a h124 h125 hs
  subst h125
  have hw := hw.callB h124
  refine st_val hs (y_not rfl) ⟨_, rfl, rfl⟩ rfl rfl fun a hs => ?_
  refine sv hs (y_pickF rfl rfl) rfl fun a hs => ?_
  refine wpList_nil ?_
  have hsh := oi hsh
  subst hsh
  refine then_normal ?_
  exact ⟨S0, (hs.wk rfl), (hw.ft [0] [0] (by decide) rfl rfl)⟩
 rintro a w ⟨Sv120, hs, hw⟩
 refine av hs rfl rfl fun a hs => ?_
 refine nl ?_
 refine wp_cond_split (hs.ev rfl) (fun h129 => ?_) (fun h129 => ?_)
 ·have hsh := ite_t hsh h129
  refine sr ?_
  refine av hs rfl rfl fun a hs => ?_
  refine av hs rfl rfl fun a hs => ?_
  refine av hs rfl rfl fun a hs => ?_
  refine nl ?_
  have hsh := oi hsh
  subst hsh
  refine wp_ret ?_
  refine blk_ret ?_
  refine then_ret ?_
  exact ret3 hs rfl (rv_tmp rfl) (rv_tmp rfl) (rv_tmp rfl) (hw.ret rfl)
 have hsh := ite_f hsh h129
 refine wp_skip ?_
 refine blk_normal ?_
 refine then_normal ?_
 refine wp_seq ?_
 obtain ⟨rv131, h130, hsh⟩ := bind_t hsh
 obtain ⟨rv137, h136, hsh⟩ := bind_t hsh
 refine wp_only (fun a w => ∃ (Sv138 : Nat → Prop), Sl 42 [(6, .int .i64 rv137.1), (7, .int .i64 rv137.2)] a ∧ Wd ⟨w0, S0, []⟩ Sv138 [] [] w) ?_ ?_
 ·refine h_b (C := Cls [.box b7 [.int .i64 d1.Short, .int .i64 d1.Long, .int .i64 d1.On, .int .i64 d1.Off] 28] []) (by kernel_rfl) rfl (hw.drew.cs [0] [] rfl rfl) fun hC => ?_
  have hw := hw.drew
  refine gv hs 0 rfl rfl hC (fun w hC => y_loadBA (hC.ownAt 0 rfl) rfl Try.isAgg28 Try.sizeOf28 rfl rfl) fun a hs => ?_
  refine gm hs 1 rfl rfl rfl hC fun a hs => ?_
  refine gm hs 3 rfl rfl rfl hC fun a hs => ?_
  refine ho 2 rfl ?_
  refine st_callR hs (ref22_absolute_ok h130 hw.dom (hw.envAt 0 rfl)) (do_call Try.call33 rfl) trivial rfl rfl ?_
  intro v142 Sv139 w a h140 h141 hs
  obtain ⟨p132, k133, c135, rfl, h143, h134⟩ := h141
  have hw := hw.callN h140 h143
  have hw := hw.addE (e := RowA c135 rv131) h134
  refine h_nx (hw.cs [1] [] rfl rfl) fun hC => ?_
  refine h_st (C' := Cls [.box b7 [.int .i64 d1.Short, .int .i64 d1.Long, .int .i64 d1.On, .int .i64 d1.Off] 28, .row p132 rv131.length k133 c135 3 1] []) (fun _ h => by exact h.sub [0] (Sel.of rfl) (AllIn.of [] rfl)) (hw.cs [1, 0] [] rfl rfl) fun hC => ?_
  refine ho 4 rfl ?_
  refine st_callR hs (ref22_sums_ok h136 hw.bdom (hw.bRow 0 rfl 0 rfl)) (do_call Try.call40 rfl) trivial rfl rfl ?_
  intro v147 Sv144 w a h145 h146 hs
  subst h146
  have hw := hw.callB h145
  refine h_nx (hw.cs [1, 0] [] rfl rfl) fun hC => ?_
  refine gm hs 5 rfl rfl rfl hC fun a hs => ?_
  refine gv hs 6 rfl rfl hC (fun w hC => y_extract rfl rfl) fun a hs => ?_
  refine gv hs 7 rfl rfl hC (fun w hC => y_extract rfl rfl) fun a hs => ?_
  refine gv hs 8 rfl rfl hC (fun w hC => y_assign rfl) fun a hs => ?_
  refine gv hs 9 rfl rfl hC (fun w hC => y_assign rfl) fun a hs => ?_
  refine h_done (by kernel_rfl) ?_
  exact ⟨Sv139, (hs.wk rfl), (hw.ft [] [] (by decide) rfl rfl)⟩
 rintro a w ⟨Sv138, hs, hw⟩
 refine then_normal ?_
 refine sr ?_
 refine mv hs rfl rfl fun a hs => ?_
 refine mv hs rfl rfl fun a hs => ?_
 refine av hs rfl rfl fun a hs => ?_
 refine av hs rfl rfl fun a hs => ?_
 refine av hs rfl rfl fun a hs => ?_
 refine nl ?_
 have hsh := oi hsh
 subst hsh
 refine wp_ret ?_
 exact ret3 hs rfl (rv_tmp rfl) (rv_tmp rfl) (rv_tmp rfl) (hw.ret rfl)

abbrev law23_PickerOnsets_fn1_rd (w0 : World) (X : List Nat) (r : Bool) : (Nat → Prop) → World → Value → Prop := fun S w v => v = .bool r
set_option maxHeartbeats 4000000 in
set_option maxRecDepth 100000 in
theorem law23_PickerOnsets_fn1_ok {w0 : World} {S0 : Nat → Prop} {b3 : Nat} {b6 : Nat} {p7 : Option Addr} {k8 : Nat} {b12 : Nat} {i1 : Int} {x2 : Picking} {x5 : (List Int)} {x11 : Int} {r : Bool} (hsh : law23_PickerOnsets_fn1 i1 x2 x5 x11 = some r) (hS : ∀ b, S0 b → b < w0.heap.size) (h4 : (CeA b3 0 [.int .i64 x2.Detector.Short, .int .i64 x2.Detector.Long, .int .i64 x2.Detector.On, .int .i64 x2.Detector.Off, .int .i64 x2.Back, .int .i64 x2.Level, .int .i64 x2.Floor]).p S0 w0) (h9 : (CeA b6 0 [.slice p7 x5.length k8]).p S0 w0) (h10 : (SlA p7 x5.length k8 x5).p S0 w0) (h13 : (CeA b12 0 [.int .i64 x11]).p S0 w0) : Calls Try.prog 20 #[.int .i64 i1, .pointer (some ⟨b3, 0, none⟩), .pointer (some ⟨b6, 0, none⟩), .pointer (some ⟨b12, 0, none⟩)] w0 (Ret ([]) w0 S0 (law23_PickerOnsets_fn1_rd w0 ([]) r)) := by
 refine calls_of_wp Try.func20 rfl ?_
 have hs := Sl.enter #[.int .i64 i1, .pointer (some ⟨b3, 0, none⟩), .pointer (some ⟨b6, 0, none⟩), .pointer (some ⟨b12, 0, none⟩)] 26 [(0, .int .i64 i1), (1, .pointer (some ⟨b3, 0, none⟩)), (2, .pointer (some ⟨b6, 0, none⟩)), (3, .pointer (some ⟨b12, 0, none⟩))] rfl ⟨rfl, rfl, rfl, rfl, trivial⟩
 have hw := Wd.enter (E := []) hS (fun _ h => (by cases h))
 have hw := hw.addE h4
 have hw := hw.addE h9
 have hw := hw.addE h10
 have hw := hw.addE h13
 delta law23_PickerOnsets_fn1 at hsh
 refine sr ?_
 refine av hs rfl rfl fun a hs => ?_
 refine nl ?_
 refine wp_seq ?_
 obtain ⟨x16, h14, hsh⟩ := bind_t hsh
 obtain ⟨b22, o23, q20, c21, h24, h17, h18, h19, h15⟩ := hw.elemV 1 rfl h14
 have hsv25 := hs
 have hwv26 := hw
 subst h24
 have hs := hsv25
 have hw := hwv26
 obtain ⟨_, rfl, rfl⟩ := h15
 have hw := hw.addE h19
 obtain ⟨x29, h27, hsh⟩ := bind_t hsh
 obtain ⟨q33, c34, h30, h31, h32, h28⟩ := hw.elemK 2 rfl h27
 obtain ⟨_, rfl, rfl⟩ := h28
 have hw := hw.addE h32
 refine wp_only (fun a w => ∃ (Sv35 : Nat → Prop), Sl 26 [(5, .bool (decide ((w64 ((w64 (100 * x2.Detector.Long)) * (max x16 (w64 (0 - x29))))) ≤ (w64 (x2.Level * x11)))))] a ∧ Wd ⟨w0, S0, []⟩ Sv35 [] [] w) ?_ ?_
 ·refine h_b (C := Cls [] [CeA b22 q33 [.int .i64 x29], CeA b22 q20 [.int .i64 x16], CeA b12 0 [.int .i64 x11], CeA b6 0 [.slice (some ⟨b22, o23, none⟩) x5.length k8], CeA b3 0 [.int .i64 x2.Detector.Short, .int .i64 x2.Detector.Long, .int .i64 x2.Detector.On, .int .i64 x2.Detector.Off, .int .i64 x2.Back, .int .i64 x2.Level, .int .i64 x2.Floor]]) (by kernel_rfl) rfl (hw.drew.cs [] [0, 1, 2, 4, 5] rfl rfl) fun hC => ?_
  have hw := hw.drew
  refine gv hs 0 rfl rfl hC (fun w hC => y_fieldAddr (o' := 0) Try.runUnderlying30 rfl Try.sizeOf28 rfl rfl rfl) fun a hs => ?_
  refine gv hs 1 rfl rfl hC (fun w hC => y_fieldAddr (o' := 1) Try.runUnderlying28 rfl Try.sizeOf3 rfl rfl rfl) fun a hs => ?_
  refine gv hs 2 rfl rfl hC (fun w hC => y_loadE1 (j := 1) (hC.ceAt 4 rfl) rfl Try.isAgg3 rfl) fun a hs => ?_
  refine gv hs 3 rfl rfl hC (fun w hC => y_mul rfl rfl) fun a hs => ?_
  refine gv hs 4 rfl rfl hC (fun w hC => y_loadE1 (j := 0) (hC.ceAt 3 rfl) rfl Try.isAgg22 rfl) fun a hs => ?_
  refine gm hs 5 rfl rfl rfl hC fun a hs => ?_
  refine gv hs 6 rfl rfl hC (fun w hC => y_indexAt Try.runUnderlying22 Try.sizeOf3 rfl rfl h17.1 h17.2 h18) fun a hs => ?_
  refine gv hs 7 rfl rfl hC (fun w hC => y_loadE1 (j := 0) (hC.ceAt 1 rfl) rfl Try.isAgg3 rfl) fun a hs => ?_
  refine gv hs 8 rfl rfl hC (fun w hC => y_loadE1 (j := 0) (hC.ceAt 3 rfl) rfl Try.isAgg22 rfl) fun a hs => ?_
  refine gm hs 9 rfl rfl rfl hC fun a hs => ?_
  refine gv hs 10 rfl rfl hC (fun w hC => y_indexAt Try.runUnderlying22 Try.sizeOf3 rfl rfl h30.1 h30.2 h31) fun a hs => ?_
  refine gv hs 11 rfl rfl hC (fun w hC => y_loadE1 (j := 0) (hC.ceAt 0 rfl) rfl Try.isAgg3 rfl) fun a hs => ?_
  refine gv hs 12 rfl rfl hC (fun w hC => y_neg rfl) fun a hs => ?_
  refine gv hs 13 rfl rfl hC (fun w hC => y_max rfl rfl) fun a hs => ?_
  refine gv hs 14 rfl rfl hC (fun w hC => y_mul rfl rfl) fun a hs => ?_
  refine gv hs 15 rfl rfl hC (fun w hC => y_fieldAddr (o' := 5) Try.runUnderlying30 rfl Try.sizeOf3 rfl rfl rfl) fun a hs => ?_
  refine gv hs 16 rfl rfl hC (fun w hC => y_loadE1 (j := 5) (hC.ceAt 4 rfl) rfl Try.isAgg3 rfl) fun a hs => ?_
  refine gv hs 17 rfl rfl hC (fun w hC => y_loadE1 (j := 0) (hC.ceAt 2 rfl) rfl Try.isAgg3 rfl) fun a hs => ?_
  refine gv hs 18 rfl rfl hC (fun w hC => y_mul rfl rfl) fun a hs => ?_
  refine gv hs 19 rfl rfl hC (fun w hC => y_leq rfl rfl) fun a hs => ?_
  refine gv hs 20 rfl rfl hC (fun w hC => y_assign rfl) fun a hs => ?_
  refine h_done (by kernel_rfl) ?_
  exact ⟨S0, (hs.wk rfl), (hw.ft [] [] (by decide) rfl rfl)⟩
 rintro a w ⟨Sv35, hs, hw⟩
 refine then_normal ?_
 have hsh := oi hsh
 subst hsh
 refine wp_ret ?_
 exact ret1 hs rfl (rv_tmp rfl) (hw.ret rfl)

abbrev law23_PickerOnsets_rd (w0 : World) (X : List Nat) (r : Bool) : (Nat → Prop) → World → Value → Prop := fun S w v => v = .bool r
set_option maxHeartbeats 4000000 in
set_option maxRecDepth 100000 in
theorem law23_PickerOnsets_ok {w0 : World} {S0 : Nat → Prop} {p2 : Option Addr} {k3 : Nat} {t1 : (List Int)} {r : Bool} (hsh : law23_PickerOnsets t1 = some r) (hS : ∀ b, S0 b → b < w0.heap.size) (h4 : (SlA p2 t1.length k3 t1).p S0 w0) : Calls Try.prog 4 #[.slice p2 t1.length k3] w0 (Ret ([]) w0 S0 (law23_PickerOnsets_rd w0 ([]) r)) := by
 refine calls_of_wp Try.func4 rfl ?_
 have hs := Sl.enter #[.slice p2 t1.length k3] 115 [(0, .slice p2 t1.length k3)] rfl ⟨rfl, trivial⟩
 have hw := Wd.enter (E := []) hS (fun _ h => (by cases h))
 have hw := hw.addE h4
 delta law23_PickerOnsets at hsh
 refine sr ?_
 refine av hs rfl rfl fun a hs => ?_
 refine nl ?_
 refine wp_seq ?_
 refine sr ?_
 refine mv hs rfl rfl fun a hs => ?_
 obtain ⟨rv6, h5, hsh⟩ := bind_t hsh
 refine st_callR hs (made_Light_ok h5 hw.bdom (hw.bE 0 rfl)) (do_call Try.call7 rfl) trivial rfl rfl ?_
 intro v10 Sv7 w a h8 h9 hs
 subst h9
 have hw := hw.callB h8
 refine sv hs (y_not rfl) rfl fun a hs => ?_
 refine nl ?_
 refine wp_cond_split (hs.ev rfl) (fun h20 => ?_) (fun h20 => ?_)
 ·have hsh := ite_t hsh h20
  refine sr ?_
  obtain ⟨rv22, h21, hsh⟩ := bind_t hsh
  refine st_callR hs (law23_sane_ok h21 hw.bdom) (do_call Try.call8 rfl) trivial rfl rfl ?_
  intro v26 Sv23 w a h24 h25 hs
  subst h25
  have hw := hw.callB h24
  refine av hs rfl rfl fun a hs => ?_
  refine nl ?_
  have hsh := oi hsh
  subst hsh
  refine wp_ret ?_
  refine then_ret ?_
  exact ret1 hs rfl (rv_tmp rfl) (hw.ret rfl)
 have hsh := ite_f hsh h20
 refine wp_skip ?_
 refine then_normal ?_
 refine sr ?_
 refine mv hs rfl rfl fun a hs => ?_
 obtain ⟨rv29, h28, hsh⟩ := bind_t hsh
 refine st_callR hs (made_Roll_ok h28 hw.dom (hw.envAt 0 rfl)) (do_call Try.call9 rfl) trivial rfl rfl ?_
 intro v37 Sv34 w a h35 h36 hs
 obtain ⟨b30, p31, k32, rfl, h38, h33⟩ := h36
 have hw := hw.callN h35 h38
 have hw := hw.addE (e := SlA p31 rv29.L.length k32 rv29.L) h33
 refine av hs rfl rfl fun a hs => ?_
 refine nl ?_
 refine sr ?_
 refine mv hs rfl rfl fun a hs => ?_
 obtain ⟨rv40, h39, hsh⟩ := bind_t hsh
 refine st_callR hs (made_Dice_Picking_ok h39 hw.dom (hw.ins [0] (by decide) rfl) (hw.envAt 0 rfl)) (do_call Try.call10 rfl) trivial rfl rfl ?_
 intro v47 Sv44 w a h45 h46 hs
 obtain ⟨p41, k42, rfl, h48, h43⟩ := h46
 have hw := hw.callO [0] [] (by decide) rfl h45 h48
 have hw := hw.addE (e := SlA p41 rv40.2.L.length k42 rv40.2.L) h43
 refine mv hs rfl rfl fun a hs => ?_
 obtain ⟨rv50, h49, hsh⟩ := bind_t hsh
 refine st_callR hs (made_Dice_Wave_ok h49 hw.dom (hw.ins [0] (by decide) rfl) (hw.envAt 0 rfl)) (do_call Try.call16 rfl) trivial rfl rfl ?_
 intro v61 Sv58 w a h59 h60 hs
 obtain ⟨p51, k52, c54, p55, k56, rfl, h62, h53, h57⟩ := h60
 have hw := hw.callO [0] [] (by decide) rfl h59 h62
 have hw := hw.addE (e := RowA c54 rv50.1) h53
 have hw := hw.addE (e := SlA p55 rv50.2.L.length k56 rv50.2.L) h57
 refine w_alloc (cs := [.int .i64 0, .int .i64 0, .int .i64 0, .int .i64 0, .int .i64 0, .int .i64 0, .int .i64 0]) hs hw Try.zeroValue30 rfl rfl trivial ?_
 intro b63 a w hs hw
 refine w_alloc (cs := [.slice none ([] : List Int).length 0]) hs hw Try.zeroValue22 rfl rfl trivial ?_
 intro b64 a w hs hw
 refine w_store (m := 7) (cs' := [.int .i64 rv40.1.Detector.Short, .int .i64 rv40.1.Detector.Long, .int .i64 rv40.1.Detector.On, .int .i64 rv40.1.Detector.Off, .int .i64 rv40.1.Back, .int .i64 rv40.1.Level, .int .i64 rv40.1.Floor]) hs hw 1 rfl rfl rfl Try.sizeOf30 rfl rfl rfl rfl trivial ?_
 intro a w hs hw
 refine w_store (m := 1) (cs' := [.slice p51 rv50.1.length k52]) hs hw 0 rfl rfl rfl Try.sizeOf22 rfl rfl rfl rfl trivial ?_
 intro a w hs hw
 refine nl ?_
 refine sr ?_
 refine sv hs (y_fieldAddr (o' := 0) Try.runUnderlying30 rfl Try.sizeOf28 rfl rfl rfl) rfl fun a hs => ?_
 refine sv hs (y_loadBA (hw.ownAt 1 rfl) rfl Try.isAgg28 Try.sizeOf28 rfl rfl) rfl fun a hs => ?_
 refine sv hs (y_loadB1 (hw.ownAt 0 rfl) rfl Try.isAgg22 rfl) rfl fun a hs => ?_
 obtain ⟨rv66, h65, hsh⟩ := bind_t hsh
 obtain ⟨Sv71, hw⟩ := w_share (α := Int) hw 2 rfl 1 rfl
 refine st_callR hs (ref22_Run_ok h65 hw.dom (hw.envAt 0 rfl)) (do_call Try.call17 rfl) trivial rfl rfl ?_
 intro v75 Sv72 w a h73 h74 hs
 obtain ⟨p67, k68, c70, rfl, h76, h69⟩ := h74
 have hw := hw.callN h73 h76
 have hw := hw.addE (e := RowA c70 rv66.1) h69
 refine mv hs rfl rfl fun a hs => ?_
 refine sv hs (y_extract rfl rfl) rfl fun a hs => ?_
 refine sv hs (y_extract rfl rfl) rfl fun a hs => ?_
 refine av hs rfl rfl fun a hs => ?_
 refine av hs rfl rfl fun a hs => ?_
 refine nl ?_
 refine wp_seq ?_
 refine sr ?_
 refine mv hs rfl rfl fun a hs => ?_
 refine sv hs (y_neq rfl rfl) rfl fun a hs => ?_
 refine nl ?_
 refine wp_cond_split (hs.ev rfl) (fun h78 => ?_) (fun h78 => ?_)
 ·have hsh := ite_t hsh h78
  refine sr ?_
  refine av hs rfl rfl fun a hs => ?_
  refine nl ?_
  have hsh := oi hsh
  subst hsh
  refine wp_ret ?_
  refine then_ret ?_
  exact ret1 hs rfl (rv_tmp rfl) (hw.ret rfl)
 have hsh := ite_f hsh h78
 refine wp_skip ?_
 refine then_normal ?_
 refine wp_seq ?_
 refine sr ?_
 refine mv hs rfl rfl fun a hs => ?_
 refine sv hs (y_len Try.runUnderlying50 rfl) rfl fun a hs => ?_
 refine mv hs rfl rfl fun a hs => ?_
 refine nl ?_
 refine wp_block ?_
 refine wp_while (fun sv375 a w => ∃ (Sv571 : Nat → Prop), Sl 115 [(4, .pointer (some ⟨b63, 0, none⟩)), (5, .pointer (some ⟨b64, 0, none⟩)), (36, .slice p67 rv66.1.length k68), (37, .int .i64 (rv66.1.length : Int)), (38, .int .i64 sv375)] a ∧ Wd ⟨w0, S0, []⟩ Sv571 [.box b63 [.int .i64 rv40.1.Detector.Short, .int .i64 rv40.1.Detector.Long, .int .i64 rv40.1.Detector.On, .int .i64 rv40.1.Detector.Off, .int .i64 rv40.1.Back, .int .i64 rv40.1.Level, .int .i64 rv40.1.Floor] 30, .box b64 [.slice p51 rv50.1.length k52] 22, .row p67 rv66.1.length k68 c70 54 3] [SlA p51 rv50.1.length k52 rv50.1, RowA c70 rv66.1] w) 0 hsh ⟨Sv72, (hs.wk rfl), (hw.ft [2, 1, 0] [1, 0] (by decide) rfl rfl)⟩ ?_
 repeat clear hsh
 rintro sv375 a w tv670 ⟨Sv571, hs, hw⟩ hsh hd669
 delta law23_PickerOnsets_l7 at hsh
 refine sr ?_
 refine sv hs (y_lss rfl rfl) rfl fun a hs => ?_
 refine nl ?_
 refine wp_seq ?_
 refine wp_cond_split (hs.ev rfl) (fun h674 => ?_) (fun h674 => ?_)
 ·have hsh := ite_t hsh h674
  refine wp_skip ?_
  refine then_normal ?_
  refine wp_seq ?_
  refine wp_block ?_
  refine sr ?_
  obtain ⟨x773, h771, hsh⟩ := bind_t hsh
  obtain ⟨b780, q777, c778, h781, h774, h775, h779, h772⟩ := hw.elemRV (α := Trigger) 2 rfl 1 rfl h771
  have hsv782 := hs
  have hwv783 := hw
  subst h781
  have hs := hsv782
  have hw := hwv783
  obtain ⟨_, _, _, rfl, rfl, rfl, rfl⟩ := h772
  refine sv hs (y_indexAt Try.runUnderlying50 Try.sizeOf54 rfl rfl h774.1 h774.2 h775) rfl fun a hs => ?_
  refine sv hs (y_loadQA (j := 0) (hw.ownAt 2 rfl) rfl Try.isAgg54 Try.sizeOf54 h779 rfl rfl) rfl fun a hs => ?_
  refine w_alloc (cs := [.int .i64 0, .int .i64 0, .int .i64 0]) hs hw Try.zeroValue54 rfl rfl trivial ?_
  intro b784 a w hs hw
  refine w_store (m := 3) (cs' := [.int .i64 x773.On, .int .i64 x773.Off, .int .i64 x773.Peak]) hs hw 0 rfl rfl rfl Try.sizeOf54 rfl rfl rfl rfl trivial ?_
  intro a w hs hw
  refine nl ?_
  refine sr ?_
  refine sv hs (y_loadBA (hw.ownAt 1 rfl) rfl Try.isAgg30 Try.sizeOf30 rfl rfl) rfl fun a hs => ?_
  refine sv hs (y_loadB1 (hw.ownAt 2 rfl) rfl Try.isAgg22 rfl) rfl fun a hs => ?_
  refine sv hs (y_loadBA (hw.ownAt 0 rfl) rfl Try.isAgg54 Try.sizeOf54 rfl rfl) rfl fun a hs => ?_
  obtain ⟨rv786, h785, hsh⟩ := bind_t hsh
  refine st_callR hs (picker_Onset_ok h785 hw.bdom (hw.bE 0 rfl)) (do_call Try.call18 rfl) trivial rfl rfl ?_
  intro v790 Sv787 w a h788 h789 hs
  subst h789
  have hw := hw.callB h788
  refine mv hs rfl rfl fun a hs => ?_
  refine sv hs (y_extract rfl rfl) rfl fun a hs => ?_
  refine sv hs (y_extract rfl rfl) rfl fun a hs => ?_
  refine av hs rfl rfl fun a hs => ?_
  refine av hs rfl rfl fun a hs => ?_
  refine nl ?_
  refine sr ?_
  refine sv hs (y_fieldAddr (o' := 0) Try.runUnderlying30 rfl Try.sizeOf28 rfl rfl rfl) rfl fun a hs => ?_
  refine sv hs (y_loadBA (hw.ownAt 1 rfl) rfl Try.isAgg28 Try.sizeOf28 rfl rfl) rfl fun a hs => ?_
  refine sv hs (y_loadB1 (hw.ownAt 2 rfl) rfl Try.isAgg22 rfl) rfl fun a hs => ?_
  refine sv hs (y_fieldAddr (o' := 0) Try.runUnderlying54 rfl Try.sizeOf3 rfl rfl rfl) rfl fun a hs => ?_
  refine sv hs (y_loadB1 (hw.ownAt 0 rfl) rfl Try.isAgg3 rfl) rfl fun a hs => ?_
  obtain ⟨rv793, h792, hsh⟩ := bind_t hsh
  refine st_callR hs (ref22_Ratio_ok h792 hw.bdom (hw.bE 0 rfl)) (do_call Try.call19 rfl) trivial rfl rfl ?_
  intro v797 Sv794 w a h795 h796 hs
  subst h796
  have hw := hw.callB h795
  refine mv hs rfl rfl fun a hs => ?_
  refine sv hs (y_extract rfl rfl) rfl fun a hs => ?_
  refine sv hs (y_extract rfl rfl) rfl fun a hs => ?_
  refine sv hs (y_extract rfl rfl) rfl fun a hs => ?_
  refine w_alloc (cs := [.int .i64 0]) hs hw Try.zeroValue3 rfl rfl trivial ?_
  intro b799 a w hs hw
  refine av hs rfl rfl fun a hs => ?_
  refine w_store (m := 1) (cs' := [.int .i64 rv793.2.1]) hs hw 0 rfl rfl rfl Try.sizeOf3 rfl rfl rfl rfl trivial ?_
  intro a w hs hw
  refine av hs rfl rfl fun a hs => ?_
  refine nl ?_
  refine wp_seq ?_
  refine sr ?_
  refine mv hs rfl rfl fun a hs => ?_
  refine sv hs (y_neq rfl rfl) rfl fun a hs => ?_
  refine mv hs rfl rfl fun a hs => ?_
  refine wpl_join 3 (fun a w1 => w = w1 ∧ Sl 115 [(4, .pointer (some ⟨b63, 0, none⟩)), (5, .pointer (some ⟨b64, 0, none⟩)), (9, .pointer (some ⟨b784, 0, none⟩)), (10, .int .i64 rv786.1), (13, .pointer (some ⟨b799, 0, none⟩)), (36, .slice (some ⟨b780, 0, none⟩) rv66.1.length k68), (37, .int .i64 (rv66.1.length : Int)), (38, .int .i64 sv375), (64, .bool ((rv786.2 != 0) || (rv793.2.2 != 0)))] a) ?_ ?_
  ·rcases Bool.eq_false_or_eq_true (rv786.2 != 0) with h800 | h800
   ·have hs := hs.fix 61 (.bool true) rfl (vb h800)
    refine st_skip hs rfl rfl rfl rfl rfl fun a hs => ?_
    refine st_skip hs rfl rfl rfl rfl rfl fun a hs => ?_
    refine sv hs (y_pickT rfl rfl) rfl fun a hs => ?_
    refine nl ?_
    exact ⟨rfl, (hs.fix 64 (.bool ((rv786.2 != 0) || (rv793.2.2 != 0))) rfl (or_t h800)).weaken _ ⟨rfl, rfl, rfl, rfl, rfl, rfl, rfl, rfl, rfl, trivial⟩⟩
   have hs := hs.fix 61 (.bool false) rfl (vb h800)
   refine st_val hs (y_move rfl) ⟨_, rfl, rfl⟩ rfl rfl fun a hs => ?_
   refine st_val hs (y_neq rfl rfl) ⟨_, rfl, rfl⟩ rfl rfl fun a hs => ?_
   refine sv hs (y_pickF rfl rfl) rfl fun a hs => ?_
   refine nl ?_
   exact ⟨rfl, (hs.fix 64 (.bool ((rv786.2 != 0) || (rv793.2.2 != 0))) rfl (or_f h800)).weaken _ ⟨rfl, rfl, rfl, rfl, rfl, rfl, rfl, rfl, rfl, trivial⟩⟩
  rintro a w1 ⟨h935, hs⟩
  subst h935
  refine mv hs rfl rfl fun a hs => ?_
  refine wpl_join 5 (fun a w1 => w = w1 ∧ Sl 115 [(4, .pointer (some ⟨b63, 0, none⟩)), (5, .pointer (some ⟨b64, 0, none⟩)), (9, .pointer (some ⟨b784, 0, none⟩)), (10, .int .i64 rv786.1), (13, .pointer (some ⟨b799, 0, none⟩)), (36, .slice (some ⟨b780, 0, none⟩) rv66.1.length k68), (37, .int .i64 (rv66.1.length : Int)), (38, .int .i64 sv375), (70, .bool (((rv786.2 != 0) || (rv793.2.2 != 0)) || (decide (x773.On < rv786.1))))] a) ?_ ?_
  ·rcases Bool.eq_false_or_eq_true ((rv786.2 != 0) || (rv793.2.2 != 0)) with h801 | h801
   ·have hs := hs.fix 65 (.bool true) rfl (vb h801)
    refine st_skip hs rfl rfl rfl rfl rfl fun a hs => ?_
    refine st_skip hs rfl rfl rfl rfl rfl fun a hs => ?_
    refine st_skip hs rfl rfl rfl rfl rfl fun a hs => ?_
    refine st_skip hs rfl rfl rfl rfl rfl fun a hs => ?_
    refine sv hs (y_pickT rfl rfl) rfl fun a hs => ?_
    refine nl ?_
    exact ⟨rfl, (hs.fix 70 (.bool (((rv786.2 != 0) || (rv793.2.2 != 0)) || (decide (x773.On < rv786.1)))) rfl (or_t h801)).weaken _ ⟨rfl, rfl, rfl, rfl, rfl, rfl, rfl, rfl, rfl, trivial⟩⟩
   have hs := hs.fix 65 (.bool false) rfl (vb h801)
   refine st_val hs (y_move rfl) ⟨_, rfl, rfl⟩ rfl rfl fun a hs => ?_
   refine st_val hs (y_fieldAddr (o' := 0) Try.runUnderlying54 rfl Try.sizeOf3 rfl rfl rfl) ⟨_, rfl, rfl⟩ rfl rfl fun a hs => ?_
   refine st_val hs (y_loadB1 (hw.ownAt 1 rfl) rfl Try.isAgg3 rfl) ⟨_, rfl, rfl⟩ rfl rfl fun a hs => ?_
   refine st_val hs (y_gtr rfl rfl) ⟨_, rfl, rfl⟩ rfl rfl fun a hs => ?_
   refine sv hs (y_pickF rfl rfl) rfl fun a hs => ?_
   refine nl ?_
   exact ⟨rfl, (hs.fix 70 (.bool (((rv786.2 != 0) || (rv793.2.2 != 0)) || (decide (x773.On < rv786.1)))) rfl (or_f h801)).weaken _ ⟨rfl, rfl, rfl, rfl, rfl, rfl, rfl, rfl, rfl, trivial⟩⟩
  rintro a w1 ⟨h934, hs⟩
  subst h934
  refine mv hs rfl rfl fun a hs => ?_
  refine wpl_join 3 (fun a w1 => w = w1 ∧ Sl 115 [(4, .pointer (some ⟨b63, 0, none⟩)), (5, .pointer (some ⟨b64, 0, none⟩)), (9, .pointer (some ⟨b784, 0, none⟩)), (10, .int .i64 rv786.1), (13, .pointer (some ⟨b799, 0, none⟩)), (36, .slice (some ⟨b780, 0, none⟩) rv66.1.length k68), (37, .int .i64 (rv66.1.length : Int)), (38, .int .i64 sv375), (74, .bool ((((rv786.2 != 0) || (rv793.2.2 != 0)) || (decide (x773.On < rv786.1))) || (decide (rv786.1 < 0))))] a) ?_ ?_
  ·rcases Bool.eq_false_or_eq_true (((rv786.2 != 0) || (rv793.2.2 != 0)) || (decide (x773.On < rv786.1))) with h802 | h802
   ·have hs := hs.fix 71 (.bool true) rfl (vb h802)
    refine st_skip hs rfl rfl rfl rfl rfl fun a hs => ?_
    refine st_skip hs rfl rfl rfl rfl rfl fun a hs => ?_
    refine sv hs (y_pickT rfl rfl) rfl fun a hs => ?_
    refine nl ?_
    exact ⟨rfl, (hs.fix 74 (.bool ((((rv786.2 != 0) || (rv793.2.2 != 0)) || (decide (x773.On < rv786.1))) || (decide (rv786.1 < 0)))) rfl (or_t h802)).weaken _ ⟨rfl, rfl, rfl, rfl, rfl, rfl, rfl, rfl, rfl, trivial⟩⟩
   have hs := hs.fix 71 (.bool false) rfl (vb h802)
   refine st_val hs (y_move rfl) ⟨_, rfl, rfl⟩ rfl rfl fun a hs => ?_
   refine st_val hs (y_lss rfl rfl) ⟨_, rfl, rfl⟩ rfl rfl fun a hs => ?_
   refine sv hs (y_pickF rfl rfl) rfl fun a hs => ?_
   refine nl ?_
   exact ⟨rfl, (hs.fix 74 (.bool ((((rv786.2 != 0) || (rv793.2.2 != 0)) || (decide (x773.On < rv786.1))) || (decide (rv786.1 < 0)))) rfl (or_f h802)).weaken _ ⟨rfl, rfl, rfl, rfl, rfl, rfl, rfl, rfl, rfl, trivial⟩⟩
  rintro a w1 ⟨h933, hs⟩
  subst h933
  refine mv hs rfl rfl fun a hs => ?_
  refine wpl_join 8 (fun a w1 => w = w1 ∧ Sl 115 [(4, .pointer (some ⟨b63, 0, none⟩)), (5, .pointer (some ⟨b64, 0, none⟩)), (9, .pointer (some ⟨b784, 0, none⟩)), (10, .int .i64 rv786.1), (13, .pointer (some ⟨b799, 0, none⟩)), (36, .slice (some ⟨b780, 0, none⟩) rv66.1.length k68), (37, .int .i64 (rv66.1.length : Int)), (38, .int .i64 sv375), (83, .bool (((((rv786.2 != 0) || (rv793.2.2 != 0)) || (decide (x773.On < rv786.1))) || (decide (rv786.1 < 0))) || (decide (rv786.1 < (w64 (x773.On - rv40.1.Back))))))] a) ?_ ?_
  ·rcases Bool.eq_false_or_eq_true ((((rv786.2 != 0) || (rv793.2.2 != 0)) || (decide (x773.On < rv786.1))) || (decide (rv786.1 < 0))) with h803 | h803
   ·have hs := hs.fix 75 (.bool true) rfl (vb h803)
    refine st_skip hs rfl rfl rfl rfl rfl fun a hs => ?_
    refine st_skip hs rfl rfl rfl rfl rfl fun a hs => ?_
    refine st_skip hs rfl rfl rfl rfl rfl fun a hs => ?_
    refine st_skip hs rfl rfl rfl rfl rfl fun a hs => ?_
    refine st_skip hs rfl rfl rfl rfl rfl fun a hs => ?_
    refine st_skip hs rfl rfl rfl rfl rfl fun a hs => ?_
    refine st_skip hs rfl rfl rfl rfl rfl fun a hs => ?_
    refine sv hs (y_pickT rfl rfl) rfl fun a hs => ?_
    refine nl ?_
    exact ⟨rfl, (hs.fix 83 (.bool (((((rv786.2 != 0) || (rv793.2.2 != 0)) || (decide (x773.On < rv786.1))) || (decide (rv786.1 < 0))) || (decide (rv786.1 < (w64 (x773.On - rv40.1.Back)))))) rfl (or_t h803)).weaken _ ⟨rfl, rfl, rfl, rfl, rfl, rfl, rfl, rfl, rfl, trivial⟩⟩
   have hs := hs.fix 75 (.bool false) rfl (vb h803)
   refine st_val hs (y_move rfl) ⟨_, rfl, rfl⟩ rfl rfl fun a hs => ?_
   refine st_val hs (y_fieldAddr (o' := 0) Try.runUnderlying54 rfl Try.sizeOf3 rfl rfl rfl) ⟨_, rfl, rfl⟩ rfl rfl fun a hs => ?_
   refine st_val hs (y_loadB1 (hw.ownAt 1 rfl) rfl Try.isAgg3 rfl) ⟨_, rfl, rfl⟩ rfl rfl fun a hs => ?_
   refine st_val hs (y_fieldAddr (o' := 4) Try.runUnderlying30 rfl Try.sizeOf3 rfl rfl rfl) ⟨_, rfl, rfl⟩ rfl rfl fun a hs => ?_
   refine st_val hs (y_loadB1 (hw.ownAt 2 rfl) rfl Try.isAgg3 rfl) ⟨_, rfl, rfl⟩ rfl rfl fun a hs => ?_
   refine st_val hs (y_sub rfl rfl) ⟨_, rfl, rfl⟩ rfl rfl fun a hs => ?_
   refine st_val hs (y_lss rfl rfl) ⟨_, rfl, rfl⟩ rfl rfl fun a hs => ?_
   refine sv hs (y_pickF rfl rfl) rfl fun a hs => ?_
   refine nl ?_
   exact ⟨rfl, (hs.fix 83 (.bool (((((rv786.2 != 0) || (rv793.2.2 != 0)) || (decide (x773.On < rv786.1))) || (decide (rv786.1 < 0))) || (decide (rv786.1 < (w64 (x773.On - rv40.1.Back)))))) rfl (or_f h803)).weaken _ ⟨rfl, rfl, rfl, rfl, rfl, rfl, rfl, rfl, rfl, trivial⟩⟩
  rintro a w1 ⟨h932, hs⟩
  subst h932
  refine nl ?_
  refine wp_cond_split (hs.ev rfl) (fun h805 => ?_) (fun h805 => ?_)
  ·have hsh := ite_t hsh h805
   refine sr ?_
   refine av hs rfl rfl fun a hs => ?_
   refine nl ?_
   have hsh := oi hsh
   subst hsh
   have h806 := hd669 _ rfl
   subst h806
   refine wp_ret ?_
   refine then_ret ?_
   refine blk_ret ?_
   refine then_ret ?_
   refine then_ret ?_
   refine blk_ret ?_
   refine then_ret ?_
   exact ret1 hs rfl (rv_tmp rfl) (hw.ret rfl)
  have hsh := ite_f hsh h805
  refine wp_skip ?_
  refine then_normal ?_
  refine sr ?_
  refine sv hs (y_makeFunc (vs := #[]) (us := #[.pointer (some ⟨b63, 0, none⟩), .pointer (some ⟨b64, 0, none⟩), .pointer (some ⟨b799, 0, none⟩)]) rfl rfl) rfl fun a hs => ?_
  refine av hs rfl rfl fun a hs => ?_
  refine nl ?_
  refine wp_seq ?_
  refine sr ?_
  refine mv hs rfl rfl fun a hs => ?_
  refine av hs rfl rfl fun a hs => ?_
  refine nl ?_
  refine wp_block ?_
  refine wp_while (fun sv845 a w => ∃ (Sv869 : Nat → Prop), Sl 115 [(4, .pointer (some ⟨b63, 0, none⟩)), (5, .pointer (some ⟨b64, 0, none⟩)), (9, .pointer (some ⟨b784, 0, none⟩)), (10, .int .i64 rv786.1), (15, .func (.func 20) #[] #[.pointer (some ⟨b63, 0, none⟩), .pointer (some ⟨b64, 0, none⟩), .pointer (some ⟨b799, 0, none⟩)]), (16, .int .i64 sv845), (36, .slice (some ⟨b780, 0, none⟩) rv66.1.length k68), (37, .int .i64 (rv66.1.length : Int)), (38, .int .i64 sv375)] a ∧ Wd ⟨w0, S0, []⟩ Sv869 [.box b63 [.int .i64 rv40.1.Detector.Short, .int .i64 rv40.1.Detector.Long, .int .i64 rv40.1.Detector.On, .int .i64 rv40.1.Detector.Off, .int .i64 rv40.1.Back, .int .i64 rv40.1.Level, .int .i64 rv40.1.Floor] 30, .box b64 [.slice p51 rv50.1.length k52] 22, .box b784 [.int .i64 x773.On, .int .i64 x773.Off, .int .i64 x773.Peak] 54, .box b799 [.int .i64 rv793.2.1] 3, .row (some ⟨b780, 0, none⟩) rv66.1.length k68 c70 54 3] [SlA p51 rv50.1.length k52 rv50.1, RowA c70 rv66.1] w) rv786.1 hsh ⟨Sv571, (hs.wk rfl), (hw.ft [2, 3, 1, 0, 4] [0, 1] (by decide) rfl rfl)⟩ ?_
  repeat clear hsh
  rintro sv845 a w tv882 ⟨Sv869, hs, hw⟩ hsh hd881
  delta law23_PickerOnsets_l11 at hsh
  refine wp_seq ?_
  refine sr ?_
  refine mv hs rfl rfl fun a hs => ?_
  refine sv hs (y_fieldAddr (o' := 0) Try.runUnderlying54 rfl Try.sizeOf3 rfl rfl rfl) rfl fun a hs => ?_
  refine sv hs (y_loadB1 (hw.ownAt 2 rfl) rfl Try.isAgg3 rfl) rfl fun a hs => ?_
  refine sv hs (y_lss rfl rfl) rfl fun a hs => ?_
  refine nl ?_
  refine wp_cond_split (hs.ev rfl) (fun h886 => ?_) (fun h886 => ?_)
  ·have hsh := ite_t hsh h886
   refine wp_skip ?_
   refine then_normal ?_
   refine wp_seq ?_
   refine wp_block ?_
   refine sr ?_
   refine mv hs rfl rfl fun a hs => ?_
   refine mv hs rfl rfl fun a hs => ?_
   obtain ⟨rv896, h895, hsh⟩ := bind_t hsh
   refine st_callR hs (law23_PickerOnsets_fn1_ok h895 hw.bdom (hw.bBox 0 rfl) (hw.bBox 1 rfl) (hw.bE 0 rfl) (hw.bBox 3 rfl)) (do_callF (first := []) (vs := [.int .i64 sv845]) (cap := [.pointer (some ⟨b63, 0, none⟩), .pointer (some ⟨b64, 0, none⟩), .pointer (some ⟨b799, 0, none⟩)]) Try.call20 rfl rfl) trivial rfl rfl ?_
   intro v900 Sv897 w a h898 h899 hs
   subst h899
   have hw := hw.callB h898
   refine nl ?_
   refine wp_cond_split (hs.ev rfl) (fun h903 => ?_) (fun h903 => ?_)
   ·have hsh := ite_t hsh h903
    refine sr ?_
    refine av hs rfl rfl fun a hs => ?_
    refine nl ?_
    have hsh := oi hsh
    subst hsh
    have h904 := hd881 _ rfl
    subst h904
    have h905 := hd669 _ rfl
    subst h905
    refine wp_ret ?_
    refine blk_ret ?_
    refine then_ret ?_
    refine then_ret ?_
    refine blk_ret ?_
    refine then_ret ?_
    refine blk_ret ?_
    refine then_ret ?_
    refine then_ret ?_
    refine blk_ret ?_
    refine then_ret ?_
    exact ret1 hs rfl (rv_tmp rfl) (hw.ret rfl)
   have hsh := ite_f hsh h903
   refine wp_skip ?_
   refine blk_normal ?_
   refine then_normal ?_
   refine wp_region_lit ?_
   refine mv hs rfl rfl fun a hs => ?_
   refine sv hs (y_add rfl rfl) rfl fun a hs => ?_
   obtain ⟨i907, h906, hsh⟩ := bind_t hsh
   refine sv hs (y_assignI rfl h906) rfl fun a hs => ?_
   refine nl ?_
   exact ⟨_, (Option.some.inj hsh).symm, Sv869, (hs.wk rfl), (hw.ft [0, 1, 2, 3, 4] [0, 1] (by decide) rfl rfl)⟩
  have hsh := ite_f hsh h886
  obtain ⟨rv930, hsh, h931⟩ := map_t hsh
  have h931 := (hd881 _ h931.symm).symm
  subst h931
  refine wp_exit ?_
  refine then_exit ?_
  refine then_exit ?_
  refine blk_exit ?_
  refine then_normal ?_
  refine sr ?_
  refine mv hs rfl rfl fun a hs => ?_
  refine sv hs (y_gtr rfl rfl) rfl fun a hs => ?_
  refine mv hs rfl rfl fun a hs => ?_
  refine wpl_join 8 (fun a w1 => w = w1 ∧ Sl 115 [(4, .pointer (some ⟨b63, 0, none⟩)), (5, .pointer (some ⟨b64, 0, none⟩)), (10, .int .i64 rv786.1), (15, .func (.func 20) #[] #[.pointer (some ⟨b63, 0, none⟩), .pointer (some ⟨b64, 0, none⟩), .pointer (some ⟨b799, 0, none⟩)]), (36, .slice (some ⟨b780, 0, none⟩) rv66.1.length k68), (37, .int .i64 (rv66.1.length : Int)), (38, .int .i64 sv375), (105, .bool ((decide (0 < rv786.1)) && (decide ((w64 (x773.On - rv40.1.Back)) < rv786.1))))] a) ?_ ?_
  ·rcases Bool.eq_false_or_eq_true (decide (0 < rv786.1)) with h908 | h908
   ·have hs := hs.fix 97 (.bool true) rfl (vb h908)
    refine st_val hs (y_move rfl) ⟨_, rfl, rfl⟩ rfl rfl fun a hs => ?_
    refine st_val hs (y_fieldAddr (o' := 0) Try.runUnderlying54 rfl Try.sizeOf3 rfl rfl rfl) ⟨_, rfl, rfl⟩ rfl rfl fun a hs => ?_
    refine st_val hs (y_loadB1 (hw.ownAt 2 rfl) rfl Try.isAgg3 rfl) ⟨_, rfl, rfl⟩ rfl rfl fun a hs => ?_
    refine st_val hs (y_fieldAddr (o' := 4) Try.runUnderlying30 rfl Try.sizeOf3 rfl rfl rfl) ⟨_, rfl, rfl⟩ rfl rfl fun a hs => ?_
    refine st_val hs (y_loadB1 (hw.ownAt 0 rfl) rfl Try.isAgg3 rfl) ⟨_, rfl, rfl⟩ rfl rfl fun a hs => ?_
    refine st_val hs (y_sub rfl rfl) ⟨_, rfl, rfl⟩ rfl rfl fun a hs => ?_
    refine st_val hs (y_gtr rfl rfl) ⟨_, rfl, rfl⟩ rfl rfl fun a hs => ?_
    refine sv hs (y_pickT rfl rfl) rfl fun a hs => ?_
    refine nl ?_
    exact ⟨rfl, (hs.fix 105 (.bool ((decide (0 < rv786.1)) && (decide ((w64 (x773.On - rv40.1.Back)) < rv786.1)))) rfl (and_t h908)).weaken _ ⟨rfl, rfl, rfl, rfl, rfl, rfl, rfl, rfl, trivial⟩⟩
   have hs := hs.fix 97 (.bool false) rfl (vb h908)
   refine st_skip hs rfl rfl rfl rfl rfl fun a hs => ?_
   refine st_skip hs rfl rfl rfl rfl rfl fun a hs => ?_
   refine st_skip hs rfl rfl rfl rfl rfl fun a hs => ?_
   refine st_skip hs rfl rfl rfl rfl rfl fun a hs => ?_
   refine st_skip hs rfl rfl rfl rfl rfl fun a hs => ?_
   refine st_skip hs rfl rfl rfl rfl rfl fun a hs => ?_
   refine st_skip hs rfl rfl rfl rfl rfl fun a hs => ?_
   refine sv hs (y_pickF rfl rfl) rfl fun a hs => ?_
   refine nl ?_
   exact ⟨rfl, (hs.fix 105 (.bool ((decide (0 < rv786.1)) && (decide ((w64 (x773.On - rv40.1.Back)) < rv786.1)))) rfl (and_f h908)).weaken _ ⟨rfl, rfl, rfl, rfl, rfl, rfl, rfl, rfl, trivial⟩⟩
  rintro a w1 ⟨h929, hs⟩
  subst h929
  refine mv hs rfl rfl fun a hs => ?_
  obtain ⟨c917, hc917, hsh⟩ := bind_t hsh
  refine wpl_join 6 (fun a w => ∃ (Sv918 : Nat → Prop), Sl 115 [(4, .pointer (some ⟨b63, 0, none⟩)), (5, .pointer (some ⟨b64, 0, none⟩)), (36, .slice (some ⟨b780, 0, none⟩) rv66.1.length k68), (37, .int .i64 (rv66.1.length : Int)), (38, .int .i64 sv375), (112, .bool c917)] a ∧ Wd ⟨w0, S0, []⟩ Sv918 [.box b63 [.int .i64 rv40.1.Detector.Short, .int .i64 rv40.1.Detector.Long, .int .i64 rv40.1.Detector.On, .int .i64 rv40.1.Detector.Off, .int .i64 rv40.1.Back, .int .i64 rv40.1.Level, .int .i64 rv40.1.Floor] 30, .box b64 [.slice p51 rv50.1.length k52] 22, .box b799 [.int .i64 rv793.2.1] 3, .row (some ⟨b780, 0, none⟩) rv66.1.length k68 c70 54 3] [SlA p51 rv50.1.length k52 rv50.1, RowA c70 rv66.1] w) ?_ ?_
  ·rcases Bool.eq_false_or_eq_true ((decide (0 < rv786.1)) && (decide ((w64 (x773.On - rv40.1.Back)) < rv786.1))) with h916 | h916
   ·have hs := hs.fix 106 (.bool true) rfl (vb h916)
    have hsh := ite_t hc917 h916
    refine st_val hs (y_move rfl) ⟨_, rfl, rfl⟩ rfl rfl fun a hs => ?_
    refine st_val hs (y_move rfl) ⟨_, rfl, rfl⟩ rfl rfl fun a hs => ?_
    refine st_val hs (y_sub rfl rfl) ⟨_, rfl, rfl⟩ rfl rfl fun a hs => ?_
    obtain ⟨rv920, h919, hsh⟩ := bind_t hsh
    refine st_callR hs (law23_PickerOnsets_fn1_ok h919 hw.bdom (hw.bBox 0 rfl) (hw.bBox 1 rfl) (hw.bE 0 rfl) (hw.bBox 3 rfl)) (do_callF (first := []) (vs := [.int .i64 (w64 (rv786.1 - 1))]) (cap := [.pointer (some ⟨b63, 0, none⟩), .pointer (some ⟨b64, 0, none⟩), .pointer (some ⟨b799, 0, none⟩)]) Try.call20 rfl rfl) ⟨_, rfl, rfl⟩ rfl rfl ?_
    intro v924 Sv921 w a h922 h923 hs
    subst h923
    have hw := hw.callB h922
    refine st_val hs (y_not rfl) ⟨_, rfl, rfl⟩ rfl rfl fun a hs => ?_
    refine sv hs (y_pickT rfl rfl) rfl fun a hs => ?_
    refine wpList_nil ?_
    have hsh := oi hsh
    subst hsh
    refine then_normal ?_
    exact ⟨Sv869, (hs.wk rfl), (hw.ft [0, 1, 3, 4] [0, 1] (by decide) rfl rfl)⟩
   have hs := hs.fix 106 (.bool false) rfl (vb h916)
   have hsh := ite_f hc917 h916
   refine st_skip hs rfl rfl rfl rfl rfl fun a hs => ?_
   refine st_skip hs rfl rfl rfl rfl rfl fun a hs => ?_
   refine st_skip hs rfl rfl rfl rfl rfl fun a hs => ?_
   refine st_skip hs rfl rfl rfl rfl rfl fun a hs => ?_
   refine st_skip hs rfl rfl rfl rfl rfl fun a hs => ?_
   refine sv hs (y_pickF rfl rfl) rfl fun a hs => ?_
   refine wpList_nil ?_
   have hsh := oi hsh
   subst hsh
   refine then_normal ?_
   exact ⟨Sv869, (hs.wk rfl), (hw.ft [0, 1, 3, 4] [0, 1] (by decide) rfl rfl)⟩
  rintro a w ⟨Sv918, hs, hw⟩
  refine nl ?_
  refine wp_cond_split (hs.ev rfl) (fun h927 => ?_) (fun h927 => ?_)
  ·have hsh := ite_t hsh h927
   refine sr ?_
   refine av hs rfl rfl fun a hs => ?_
   refine nl ?_
   have hsh := oi hsh
   subst hsh
   have h928 := hd669 _ rfl
   subst h928
   refine wp_ret ?_
   refine blk_ret ?_
   refine then_ret ?_
   refine then_ret ?_
   refine blk_ret ?_
   refine then_ret ?_
   exact ret1 hs rfl (rv_tmp rfl) (hw.ret rfl)
  have hsh := ite_f hsh h927
  refine wp_skip ?_
  refine blk_normal ?_
  refine then_normal ?_
  refine wp_region_lit ?_
  refine sv hs (y_add rfl rfl) rfl fun a hs => ?_
  refine mv hs rfl rfl fun a hs => ?_
  refine nl ?_
  exact ⟨_, (Option.some.inj hsh).symm, Sv918, (hs.wk rfl), (hw.ft [0, 1, 3] [0, 1] (by decide) rfl rfl)⟩
 have hsh := ite_f hsh h674
 obtain ⟨rv943, hsh, h944⟩ := map_t hsh
 have h944 := (hd669 _ h944.symm).symm
 subst h944
 refine wp_exit ?_
 refine then_exit ?_
 refine then_exit ?_
 refine blk_exit ?_
 refine then_normal ?_
 refine sr ?_
 obtain ⟨rv937, h936, hsh⟩ := bind_t hsh
 refine st_callR hs (law23_sane_ok h936 hw.bdom) (do_call Try.call8 rfl) trivial rfl rfl ?_
 intro v941 Sv938 w a h939 h940 hs
 subst h940
 have hw := hw.callB h939
 refine av hs rfl rfl fun a hs => ?_
 refine nl ?_
 have hsh := oi hsh
 subst hsh
 refine wp_ret ?_
 exact ret1 hs rfl (rv_tmp rfl) (hw.ret rfl)

end Go.Proofs.Ytmlekplbmfengaa.Wk

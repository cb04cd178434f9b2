/- The walks of PickerExact, part 3: each Go function computes what its plain program computes. Printed by a program of ours. -/
import Derived.Test.YtmlekplbmfengaaGreatProg
import Derived.Test.YtmlekplbmfengaaGreatDat
import Derived.Test.YtmlekplbmfengaaGreatSh
import Derived.Test.YtmlekplbmfengaaGreatLibL
import Derived.Test.YtmlekplbmfengaaGreatLibZ
import Derived.Test.YtmlekplbmfengaaGreatLibQ
import Derived.KernelRfl
import Derived.Test.YtmlekplbmfengaaGreatLibU
import Derived.Shelf.SlLaysF0
import Derived.Test.YtmlekplbmfengaaGreatWPickerExact2
namespace Go.Proofs.YtmlekplbmfengaaGreat.Wk
open Go Go.RowKit Go.Proofs Go.Proofs.YtmlekplbmfengaaGreat.Sh
set_option linter.unusedVariables false
set_option linter.unusedSimpArgs false
abbrev made_Dice_Segment_rd (w0 : World) (X : List Nat) (b2 : Nat) (r : (Segment × Dice)) : (Nat → Prop) → World → Value → Prop := fun S w v => ∃ (p0_5 : Option Addr) (k0_5 : Nat) (c0_5 : List Value) (pq0_0 : Option Addr) (kq0_0 : Nat), v = .agg #[.int .i64 r.1.Start, .int .i64 r.1.First, .int .i64 r.1.Rate.Num, .int .i64 r.1.Rate.Den, .int .i64 r.1.Error, .slice p0_5 r.1.Samples.length k0_5] ∧ Outs X w0 S w [.row p0_5 r.1.Samples.length k0_5 c0_5 3 1, .box b2 [.slice pq0_0 r.2.L.length kq0_0, .int .i64 r.2.At] 70] ∧ (RowA c0_5 r.1.Samples).p S w ∧ (SlA pq0_0 r.2.L.length kq0_0 r.2.L).p S w
set_option maxHeartbeats 4000000 in
set_option maxRecDepth 100000 in
theorem made_Dice_Segment_ok {w0 : World} {S0 : Nat → Prop} {b2 : Nat} {p3 : Option Addr} {k4 : Nat} {d1 : Dice} {n6 : Int} {r : (Segment × Dice)} (hsh : made_Dice_Segment d1 n6 = some r) (hS : ∀ b, S0 b → b < w0.heap.size) (hin : Ins S0 w0 [.box b2 [.slice p3 d1.L.length k4, .int .i64 d1.At] 70]) (h5 : (SlA p3 d1.L.length k4 d1.L).p S0 w0) : Calls Tryz.prog 12 #[.pointer (some ⟨b2, 0, none⟩), .int .i64 n6] w0 (Ret (blks [.box b2 [.slice p3 d1.L.length k4, .int .i64 d1.At] 70]) w0 S0 (made_Dice_Segment_rd w0 (blks [.box b2 [.slice p3 d1.L.length k4, .int .i64 d1.At] 70]) b2 r)) := by
 refine calls_of_wp Tryz.func12 rfl ?_
 have hs := Sl.enter #[.pointer (some ⟨b2, 0, none⟩), .int .i64 n6] 22 [(0, .pointer (some ⟨b2, 0, none⟩)), (1, .int .i64 n6)] rfl ⟨rfl, rfl, trivial⟩
 have hw := Wd.enterI hS hin
 have hw := hw.addE h5
 delta made_Dice_Segment at hsh
 refine sr ?_
 refine w_alloc (cs := [.int .i64 0, .int .i64 0, .int .i64 0, .int .i64 0, .int .i64 0, .slice none ([] : List Int).length 0]) hs hw Tryz.zeroValue36 rfl rfl trivial ?_
 intro b7 a w hs hw
 refine nl ?_
 refine sr ?_
 refine mv hs rfl rfl fun a hs => ?_
 obtain ⟨rv9, h8, hsh⟩ := bind_t hsh
 refine st_callR hs (made_Dice_Next_ok h8 hw.dom (hw.ins [1] (by decide) rfl) (hw.envAt 0 rfl)) (do_call Tryz.call9 rfl) trivial rfl rfl ?_
 intro v16 Sv13 w a h14 h15 hs
 obtain ⟨p10, k11, rfl, h17, h12⟩ := h15
 have hw := hw.callO [1] [0] (by decide) rfl h14 h17
 have hw := hw.addE (e := SlA p10 rv9.2.L.length k11 rv9.2.L) h12
 refine sv hs (y_add rfl rfl) rfl fun a hs => ?_
 refine mv hs rfl rfl fun a hs => ?_
 refine w_litSlice (α := Int) (vs := [.int .i64 0, .int .i64 0, .int .i64 5]) (cs := [.int .i64 0, .int .i64 0, .int .i64 5]) (xs := ([0, 0, 5] : List Int)) hs hw El22 rfl rfl rfl rfl rfl rfl ⟨⟨_, rfl, rfl⟩, ⟨⟨_, rfl, rfl⟩, ⟨⟨_, rfl, rfl⟩, rfl⟩⟩⟩ rfl trivial rfl fun b19 a w hs hw => ?_
 obtain ⟨rv21, h20, hsh⟩ := bind_t hsh
 obtain ⟨Sv25, hw⟩ := w_share (α := Int) hw 0 rfl 0 rfl
 refine st_callR hs (made_Dice_Pick_ok h20 hw.dom (hw.ins [0] (by decide) rfl) (hw.envAt 2 rfl) (hw.envAt 0 rfl)) (do_call Tryz.call10 rfl) trivial rfl rfl ?_
 intro v29 Sv26 w a h27 h28 hs
 obtain ⟨p22, k23, rfl, h30, h24⟩ := h28
 have hw := hw.callO [0] [1] (by decide) rfl h27 h30
 have hw := hw.addE (e := SlA p22 rv21.2.L.length k23 rv21.2.L) h24
 refine mv hs rfl rfl fun a hs => ?_
 refine w_litSlice (α := Int) (vs := [.int .i64 1, .int .i64 4, .int .i64 20, .int .i64 3]) (cs := [.int .i64 1, .int .i64 4, .int .i64 20, .int .i64 3]) (xs := ([1, 4, 20, 3] : List Int)) hs hw El22 rfl rfl rfl rfl rfl rfl ⟨⟨_, rfl, rfl⟩, ⟨⟨_, rfl, rfl⟩, ⟨⟨_, rfl, rfl⟩, ⟨⟨_, rfl, rfl⟩, rfl⟩⟩⟩⟩ rfl trivial rfl fun b32 a w hs hw => ?_
 obtain ⟨rv34, h33, hsh⟩ := bind_t hsh
 obtain ⟨Sv38, hw⟩ := w_share (α := Int) hw 0 rfl 0 rfl
 refine st_callR hs (made_Dice_Pick_ok h33 hw.dom (hw.ins [0] (by decide) rfl) (hw.envAt 2 rfl) (hw.envAt 0 rfl)) (do_call Tryz.call10 rfl) trivial rfl rfl ?_
 intro v42 Sv39 w a h40 h41 hs
 obtain ⟨p35, k36, rfl, h43, h37⟩ := h41
 have hw := hw.callO [0] [1] (by decide) rfl h40 h43
 have hw := hw.addE (e := SlA p35 rv34.2.L.length k36 rv34.2.L) h37
 refine sv hs (y_build (vs := [(0, .int .i64 rv34.1), (1, .int .i64 1)]) Bld34 rfl rfl) rfl fun a hs => ?_
 refine mv hs rfl rfl fun a hs => ?_
 refine w_litSlice (α := Int) (vs := [.int .i64 0, .int .i64 10, .int .i64 2000000]) (cs := [.int .i64 0, .int .i64 10, .int .i64 2000000]) (xs := ([0, 10, 2000000] : List Int)) hs hw El22 rfl rfl rfl rfl rfl rfl ⟨⟨_, rfl, rfl⟩, ⟨⟨_, rfl, rfl⟩, ⟨⟨_, rfl, rfl⟩, rfl⟩⟩⟩ rfl trivial rfl fun b45 a w hs hw => ?_
 obtain ⟨rv47, h46, hsh⟩ := bind_t hsh
 obtain ⟨Sv51, hw⟩ := w_share (α := Int) hw 0 rfl 0 rfl
 refine st_callR hs (made_Dice_Pick_ok h46 hw.dom (hw.ins [0] (by decide) rfl) (hw.envAt 2 rfl) (hw.envAt 0 rfl)) (do_call Tryz.call10 rfl) trivial rfl rfl ?_
 intro v55 Sv52 w a h53 h54 hs
 obtain ⟨p48, k49, rfl, h56, h50⟩ := h54
 have hw := hw.callO [0] [1] (by decide) rfl h53 h56
 have hw := hw.addE (e := SlA p48 rv47.2.L.length k49 rv47.2.L) h50
 refine mv hs rfl rfl fun a hs => ?_
 refine mv hs rfl rfl fun a hs => ?_
 obtain ⟨rv58, h57, hsh⟩ := bind_t hsh
 refine st_callR hs (made_Dice_Wave_ok h57 hw.dom (hw.ins [0] (by decide) rfl) (hw.envAt 0 rfl)) (do_call Tryz.call11 rfl) trivial rfl rfl ?_
 intro v69 Sv66 w a h67 h68 hs
 obtain ⟨p59, k60, c62, p63, k64, rfl, h70, h61, h65⟩ := h68
 have hw := hw.callO [0] [1] (by decide) rfl h67 h70
 have hw := hw.addE (e := RowA c62 rv58.1) h61
 have hw := hw.addE (e := SlA p63 rv58.2.L.length k64 rv58.2.L) h65
 refine sv hs (y_build (vs := [(0, .int .i64 (w64 (1000000000000 + rv9.1))), (1, .int .i64 rv21.1), (2, .agg #[.int .i64 rv34.1, .int .i64 1]), (3, .int .i64 rv47.1), (4, .slice p59 rv58.1.length k60)]) Bld36 rfl rfl) rfl fun a hs => ?_
 refine w_store (m := 6) (cs' := [.int .i64 (w64 (1000000000000 + rv9.1)), .int .i64 rv21.1, .int .i64 rv34.1, .int .i64 1, .int .i64 rv47.1, .slice p59 rv58.1.length k60]) hs hw 2 rfl rfl rfl Tryz.sizeOf36 rfl rfl rfl rfl trivial ?_
 intro a w hs hw
 refine nl ?_
 have hsh := oi hsh
 subst hsh
 refine wp_ret ?_
 exact ret1 hs rfl (rv_cell hw 2 rfl rfl Tryz.isAgg36 Tryz.sizeOf36 rfl) (hw.ret ⟨p59, k60, c62, p63, k64, rfl, (hw.outs [0, 1] (by decide) rfl), (hw.envAt 1 rfl), (hw.envAt 0 rfl)⟩)
abbrev ref22_Valid_rd (w0 : World) (X : List Nat) (r : Bool) : (Nat → Prop) → World → Value → Prop := fun S w v => v = .bool r
set_option maxHeartbeats 4000000 in
set_option maxRecDepth 100000 in
theorem ref22_Valid_ok {w0 : World} {S0 : Nat → Prop} {d1 : Detector} {r : Bool} (hsh : ref22_Valid d1 = some r) (hS : ∀ b, S0 b → b < w0.heap.size) : Calls Tryz.prog 30 #[.agg #[.int .i64 d1.Short, .int .i64 d1.Long, .int .i64 d1.On, .int .i64 d1.Off]] w0 (Ret ([]) w0 S0 (ref22_Valid_rd w0 ([]) r)) := by
 refine calls_of_wp Tryz.func30 rfl ?_
 have hs := Sl.enter #[.agg #[.int .i64 d1.Short, .int .i64 d1.Long, .int .i64 d1.On, .int .i64 d1.Off]] 35 [(0, .agg #[.int .i64 d1.Short, .int .i64 d1.Long, .int .i64 d1.On, .int .i64 d1.Off])] rfl ⟨rfl, trivial⟩
 have hw := Wd.enter (E := []) hS (fun _ h => (by cases h))
 delta ref22_Valid at hsh
 refine sr ?_
 refine w_box (cs := [.int .i64 d1.Short, .int .i64 d1.Long, .int .i64 d1.On, .int .i64 d1.Off]) hs hw rfl rfl rfl trivial ?_
 intro b2 a w hs hw
 refine av hs rfl rfl fun a hs => ?_
 refine nl ?_
 refine sr ?_
 refine sv hs (y_fieldAddr (o' := 0) Tryz.runUnderlying24 rfl Tryz.sizeOf3 rfl rfl rfl) rfl fun a hs => ?_
 refine sv hs (y_loadB1 (hw.ownAt 0 rfl) rfl Tryz.isAgg3 rfl) rfl fun a hs => ?_
 refine sv hs (y_leq rfl rfl) rfl fun a hs => ?_
 refine mv hs rfl rfl fun a hs => ?_
 refine wpl_join 6 (fun a w1 => w = w1 ∧ Sl 35 [(1, .pointer (some ⟨b2, 0, none⟩)), (12, .bool ((decide (1 ≤ d1.Short)) && (decide (d1.Short < d1.Long))))] a) ?_ ?_
 ·rcases Bool.eq_false_or_eq_true (decide (1 ≤ d1.Short)) with h3 | h3
  ·have hs := hs.fix 6 (.bool true) rfl (vb h3)
   refine st_val hs (y_fieldAddr (o' := 0) Tryz.runUnderlying24 rfl Tryz.sizeOf3 rfl rfl rfl) ⟨_, rfl, rfl⟩ rfl rfl fun a hs => ?_
   refine st_val hs (y_loadB1 (hw.ownAt 0 rfl) rfl Tryz.isAgg3 rfl) ⟨_, rfl, rfl⟩ rfl rfl fun a hs => ?_
   refine st_val hs (y_fieldAddr (o' := 1) Tryz.runUnderlying24 rfl Tryz.sizeOf3 rfl rfl rfl) ⟨_, rfl, rfl⟩ rfl rfl fun a hs => ?_
   refine st_val hs (y_loadB1 (hw.ownAt 0 rfl) rfl Tryz.isAgg3 rfl) ⟨_, rfl, rfl⟩ rfl rfl fun a hs => ?_
   refine st_val hs (y_lss rfl rfl) ⟨_, rfl, rfl⟩ rfl rfl fun a hs => ?_
   refine sv hs (y_pickT rfl rfl) rfl fun a hs => ?_
   refine nl ?_
   exact ⟨rfl, (hs.fix 12 (.bool ((decide (1 ≤ d1.Short)) && (decide (d1.Short < d1.Long)))) rfl (and_t h3)).weaken _ ⟨rfl, rfl, trivial⟩⟩
  have hs := hs.fix 6 (.bool false) rfl (vb h3)
  refine st_skip hs rfl rfl rfl rfl rfl fun a hs => ?_
  refine st_skip hs rfl rfl rfl rfl rfl fun a hs => ?_
  refine st_skip hs rfl rfl rfl rfl rfl fun a hs => ?_
  refine st_skip hs rfl rfl rfl rfl rfl fun a hs => ?_
  refine st_skip hs rfl rfl rfl rfl rfl fun a hs => ?_
  refine sv hs (y_pickF rfl rfl) rfl fun a hs => ?_
  refine nl ?_
  exact ⟨rfl, (hs.fix 12 (.bool ((decide (1 ≤ d1.Short)) && (decide (d1.Short < d1.Long)))) rfl (and_f h3)).weaken _ ⟨rfl, rfl, trivial⟩⟩
 rintro a w1 ⟨h12, hs⟩
 subst h12
 refine mv hs rfl rfl fun a hs => ?_
 refine wpl_join 4 (fun a w1 => w = w1 ∧ Sl 35 [(1, .pointer (some ⟨b2, 0, none⟩)), (17, .bool (((decide (1 ≤ d1.Short)) && (decide (d1.Short < d1.Long))) && (decide (d1.Long ≤ 512))))] a) ?_ ?_
 ·rcases Bool.eq_false_or_eq_true ((decide (1 ≤ d1.Short)) && (decide (d1.Short < d1.Long))) with h4 | h4
  ·have hs := hs.fix 13 (.bool true) rfl (vb h4)
   refine st_val hs (y_fieldAddr (o' := 1) Tryz.runUnderlying24 rfl Tryz.sizeOf3 rfl rfl rfl) ⟨_, rfl, rfl⟩ rfl rfl fun a hs => ?_
   refine st_val hs (y_loadB1 (hw.ownAt 0 rfl) rfl Tryz.isAgg3 rfl) ⟨_, rfl, rfl⟩ rfl rfl fun a hs => ?_
   refine st_val hs (y_leq rfl rfl) ⟨_, rfl, rfl⟩ rfl rfl fun a hs => ?_
   refine sv hs (y_pickT rfl rfl) rfl fun a hs => ?_
   refine nl ?_
   exact ⟨rfl, (hs.fix 17 (.bool (((decide (1 ≤ d1.Short)) && (decide (d1.Short < d1.Long))) && (decide (d1.Long ≤ 512)))) rfl (and_t h4)).weaken _ ⟨rfl, rfl, trivial⟩⟩
  have hs := hs.fix 13 (.bool false) rfl (vb h4)
  refine st_skip hs rfl rfl rfl rfl rfl fun a hs => ?_
  refine st_skip hs rfl rfl rfl rfl rfl fun a hs => ?_
  refine st_skip hs rfl rfl rfl rfl rfl fun a hs => ?_
  refine sv hs (y_pickF rfl rfl) rfl fun a hs => ?_
  refine nl ?_
  exact ⟨rfl, (hs.fix 17 (.bool (((decide (1 ≤ d1.Short)) && (decide (d1.Short < d1.Long))) && (decide (d1.Long ≤ 512)))) rfl (and_f h4)).weaken _ ⟨rfl, rfl, trivial⟩⟩
 rintro a w1 ⟨h11, hs⟩
 subst h11
 refine mv hs rfl rfl fun a hs => ?_
 refine wpl_join 4 (fun a w1 => w = w1 ∧ Sl 35 [(1, .pointer (some ⟨b2, 0, none⟩)), (22, .bool ((((decide (1 ≤ d1.Short)) && (decide (d1.Short < d1.Long))) && (decide (d1.Long ≤ 512))) && (decide (1 ≤ d1.Off))))] a) ?_ ?_
 ·rcases Bool.eq_false_or_eq_true (((decide (1 ≤ d1.Short)) && (decide (d1.Short < d1.Long))) && (decide (d1.Long ≤ 512))) with h5 | h5
  ·have hs := hs.fix 18 (.bool true) rfl (vb h5)
   refine st_val hs (y_fieldAddr (o' := 3) Tryz.runUnderlying24 rfl Tryz.sizeOf3 rfl rfl rfl) ⟨_, rfl, rfl⟩ rfl rfl fun a hs => ?_
   refine st_val hs (y_loadB1 (hw.ownAt 0 rfl) rfl Tryz.isAgg3 rfl) ⟨_, rfl, rfl⟩ rfl rfl fun a hs => ?_
   refine st_val hs (y_leq rfl rfl) ⟨_, rfl, rfl⟩ rfl rfl fun a hs => ?_
   refine sv hs (y_pickT rfl rfl) rfl fun a hs => ?_
   refine nl ?_
   exact ⟨rfl, (hs.fix 22 (.bool ((((decide (1 ≤ d1.Short)) && (decide (d1.Short < d1.Long))) && (decide (d1.Long ≤ 512))) && (decide (1 ≤ d1.Off)))) rfl (and_t h5)).weaken _ ⟨rfl, rfl, trivial⟩⟩
  have hs := hs.fix 18 (.bool false) rfl (vb h5)
  refine st_skip hs rfl rfl rfl rfl rfl fun a hs => ?_
  refine st_skip hs rfl rfl rfl rfl rfl fun a hs => ?_
  refine st_skip hs rfl rfl rfl rfl rfl fun a hs => ?_
  refine sv hs (y_pickF rfl rfl) rfl fun a hs => ?_
  refine nl ?_
  exact ⟨rfl, (hs.fix 22 (.bool ((((decide (1 ≤ d1.Short)) && (decide (d1.Short < d1.Long))) && (decide (d1.Long ≤ 512))) && (decide (1 ≤ d1.Off)))) rfl (and_f h5)).weaken _ ⟨rfl, rfl, trivial⟩⟩
 rintro a w1 ⟨h10, hs⟩
 subst h10
 refine mv hs rfl rfl fun a hs => ?_
 refine wpl_join 6 (fun a w1 => w = w1 ∧ Sl 35 [(1, .pointer (some ⟨b2, 0, none⟩)), (29, .bool (((((decide (1 ≤ d1.Short)) && (decide (d1.Short < d1.Long))) && (decide (d1.Long ≤ 512))) && (decide (1 ≤ d1.Off))) && (decide (d1.Off ≤ d1.On))))] a) ?_ ?_
 ·rcases Bool.eq_false_or_eq_true ((((decide (1 ≤ d1.Short)) && (decide (d1.Short < d1.Long))) && (decide (d1.Long ≤ 512))) && (decide (1 ≤ d1.Off))) with h6 | h6
  ·have hs := hs.fix 23 (.bool true) rfl (vb h6)
   refine st_val hs (y_fieldAddr (o' := 3) Tryz.runUnderlying24 rfl Tryz.sizeOf3 rfl rfl rfl) ⟨_, rfl, rfl⟩ rfl rfl fun a hs => ?_
   refine st_val hs (y_loadB1 (hw.ownAt 0 rfl) rfl Tryz.isAgg3 rfl) ⟨_, rfl, rfl⟩ rfl rfl fun a hs => ?_
   refine st_val hs (y_fieldAddr (o' := 2) Tryz.runUnderlying24 rfl Tryz.sizeOf3 rfl rfl rfl) ⟨_, rfl, rfl⟩ rfl rfl fun a hs => ?_
   refine st_val hs (y_loadB1 (hw.ownAt 0 rfl) rfl Tryz.isAgg3 rfl) ⟨_, rfl, rfl⟩ rfl rfl fun a hs => ?_
   refine st_val hs (y_leq rfl rfl) ⟨_, rfl, rfl⟩ rfl rfl fun a hs => ?_
   refine sv hs (y_pickT rfl rfl) rfl fun a hs => ?_
   refine nl ?_
   exact ⟨rfl, (hs.fix 29 (.bool (((((decide (1 ≤ d1.Short)) && (decide (d1.Short < d1.Long))) && (decide (d1.Long ≤ 512))) && (decide (1 ≤ d1.Off))) && (decide (d1.Off ≤ d1.On)))) rfl (and_t h6)).weaken _ ⟨rfl, rfl, trivial⟩⟩
  have hs := hs.fix 23 (.bool false) rfl (vb h6)
  refine st_skip hs rfl rfl rfl rfl rfl fun a hs => ?_
  refine st_skip hs rfl rfl rfl rfl rfl fun a hs => ?_
  refine st_skip hs rfl rfl rfl rfl rfl fun a hs => ?_
  refine st_skip hs rfl rfl rfl rfl rfl fun a hs => ?_
  refine st_skip hs rfl rfl rfl rfl rfl fun a hs => ?_
  refine sv hs (y_pickF rfl rfl) rfl fun a hs => ?_
  refine nl ?_
  exact ⟨rfl, (hs.fix 29 (.bool (((((decide (1 ≤ d1.Short)) && (decide (d1.Short < d1.Long))) && (decide (d1.Long ≤ 512))) && (decide (1 ≤ d1.Off))) && (decide (d1.Off ≤ d1.On)))) rfl (and_f h6)).weaken _ ⟨rfl, rfl, trivial⟩⟩
 rintro a w1 ⟨h9, hs⟩
 subst h9
 refine mv hs rfl rfl fun a hs => ?_
 refine wpl_join 4 (fun a w1 => w = w1 ∧ Sl 35 [(34, .bool ((((((decide (1 ≤ d1.Short)) && (decide (d1.Short < d1.Long))) && (decide (d1.Long ≤ 512))) && (decide (1 ≤ d1.Off))) && (decide (d1.Off ≤ d1.On))) && (decide (d1.On ≤ 10000))))] a) ?_ ?_
 ·rcases Bool.eq_false_or_eq_true (((((decide (1 ≤ d1.Short)) && (decide (d1.Short < d1.Long))) && (decide (d1.Long ≤ 512))) && (decide (1 ≤ d1.Off))) && (decide (d1.Off ≤ d1.On))) with h7 | h7
  ·have hs := hs.fix 30 (.bool true) rfl (vb h7)
   refine st_val hs (y_fieldAddr (o' := 2) Tryz.runUnderlying24 rfl Tryz.sizeOf3 rfl rfl rfl) ⟨_, rfl, rfl⟩ rfl rfl fun a hs => ?_
   refine st_val hs (y_loadB1 (hw.ownAt 0 rfl) rfl Tryz.isAgg3 rfl) ⟨_, rfl, rfl⟩ rfl rfl fun a hs => ?_
   refine st_val hs (y_leq rfl rfl) ⟨_, rfl, rfl⟩ rfl rfl fun a hs => ?_
   refine sv hs (y_pickT rfl rfl) rfl fun a hs => ?_
   refine nl ?_
   exact ⟨rfl, (hs.fix 34 (.bool ((((((decide (1 ≤ d1.Short)) && (decide (d1.Short < d1.Long))) && (decide (d1.Long ≤ 512))) && (decide (1 ≤ d1.Off))) && (decide (d1.Off ≤ d1.On))) && (decide (d1.On ≤ 10000)))) rfl (and_t h7)).weaken _ ⟨rfl, trivial⟩⟩
  have hs := hs.fix 30 (.bool false) rfl (vb h7)
  refine st_skip hs rfl rfl rfl rfl rfl fun a hs => ?_
  refine st_skip hs rfl rfl rfl rfl rfl fun a hs => ?_
  refine st_skip hs rfl rfl rfl rfl rfl fun a hs => ?_
  refine sv hs (y_pickF rfl rfl) rfl fun a hs => ?_
  refine nl ?_
  exact ⟨rfl, (hs.fix 34 (.bool ((((((decide (1 ≤ d1.Short)) && (decide (d1.Short < d1.Long))) && (decide (d1.Long ≤ 512))) && (decide (1 ≤ d1.Off))) && (decide (d1.Off ≤ d1.On))) && (decide (d1.On ≤ 10000)))) rfl (and_f h7)).weaken _ ⟨rfl, trivial⟩⟩
 rintro a w1 ⟨h8, hs⟩
 subst h8
 refine av hs rfl rfl fun a hs => ?_
 refine nl ?_
 have hsh := oi hsh
 subst hsh
 refine wp_ret ?_
 exact ret1 hs rfl (rv_tmp rfl) (hw.ret rfl)
abbrev ref01_In_rd (w0 : World) (X : List Nat) (r : Bool) : (Nat → Prop) → World → Value → Prop := fun S w v => v = .bool r
set_option maxHeartbeats 4000000 in
set_option maxRecDepth 100000 in
theorem ref01_In_ok {w0 : World} {S0 : Nat → Prop} {n1 : Int} {lo2 : Int} {hi3 : Int} {r : Bool} (hsh : ref01_In n1 lo2 hi3 = some r) (hS : ∀ b, S0 b → b < w0.heap.size) : Calls Tryz.prog 37 #[.int .i64 n1, .int .i64 lo2, .int .i64 hi3] w0 (Ret ([]) w0 S0 (ref01_In_rd w0 ([]) r)) := by
 refine calls_of_wp Tryz.func37 rfl ?_
 have hs := Sl.enter #[.int .i64 n1, .int .i64 lo2, .int .i64 hi3] 15 [(0, .int .i64 n1), (1, .int .i64 lo2), (2, .int .i64 hi3)] rfl ⟨rfl, rfl, rfl, trivial⟩
 have hw := Wd.enter (E := []) hS (fun _ h => (by cases h))
 delta ref01_In at hsh
 refine sr ?_
 refine av hs rfl rfl fun a hs => ?_
 refine nl ?_
 refine sr ?_
 refine mv hs rfl rfl fun a hs => ?_
 refine mv hs rfl rfl fun a hs => ?_
 refine sv hs (y_geq rfl rfl) rfl fun a hs => ?_
 refine mv hs rfl rfl fun a hs => ?_
 refine wpl_join 4 (fun a w1 => w0 = w1 ∧ Sl 15 [(14, .bool ((decide (lo2 ≤ n1)) && (decide (n1 ≤ hi3))))] a) ?_ ?_
 ·rcases Bool.eq_false_or_eq_true (decide (lo2 ≤ n1)) with h4 | h4
  ·have hs := hs.fix 10 (.bool true) rfl (vb h4)
   refine st_val hs (y_move rfl) ⟨_, rfl, rfl⟩ rfl rfl fun a hs => ?_
   refine st_val hs (y_move rfl) ⟨_, rfl, rfl⟩ rfl rfl fun a hs => ?_
   refine st_val hs (y_leq rfl rfl) ⟨_, rfl, rfl⟩ rfl rfl fun a hs => ?_
   refine sv hs (y_pickT rfl rfl) rfl fun a hs => ?_
   refine nl ?_
   exact ⟨rfl, (hs.fix 14 (.bool ((decide (lo2 ≤ n1)) && (decide (n1 ≤ hi3)))) rfl (and_t h4)).weaken _ ⟨rfl, trivial⟩⟩
  have hs := hs.fix 10 (.bool false) rfl (vb h4)
  refine st_skip hs rfl rfl rfl rfl rfl fun a hs => ?_
  refine st_skip hs rfl rfl rfl rfl rfl fun a hs => ?_
  refine st_skip hs rfl rfl rfl rfl rfl fun a hs => ?_
  refine sv hs (y_pickF rfl rfl) rfl fun a hs => ?_
  refine nl ?_
  exact ⟨rfl, (hs.fix 14 (.bool ((decide (lo2 ≤ n1)) && (decide (n1 ≤ hi3)))) rfl (and_f h4)).weaken _ ⟨rfl, trivial⟩⟩
 rintro a w1 ⟨h5, hs⟩
 subst h5
 refine av hs rfl rfl fun a hs => ?_
 refine nl ?_
 have hsh := oi hsh
 subst hsh
 refine wp_ret ?_
 exact ret1 hs rfl (rv_tmp rfl) (hw.ret rfl)
abbrev ref05_Sample_rd (w0 : World) (X : List Nat) (r : Bool) : (Nat → Prop) → World → Value → Prop := fun S w v => v = .bool r
set_option maxHeartbeats 4000000 in
set_option maxRecDepth 100000 in
theorem ref05_Sample_ok {w0 : World} {S0 : Nat → Prop} {n1 : Int} {r : Bool} (hsh : ref05_Sample n1 = some r) (hS : ∀ b, S0 b → b < w0.heap.size) : Calls Tryz.prog 57 #[.int .i64 n1] w0 (Ret ([]) w0 S0 (ref05_Sample_rd w0 ([]) r)) := by
 refine calls_of_wp Tryz.func57 rfl ?_
 have hs := Sl.enter #[.int .i64 n1] 5 [(0, .int .i64 n1)] rfl ⟨rfl, trivial⟩
 have hw := Wd.enter (E := []) hS (fun _ h => (by cases h))
 delta ref05_Sample at hsh
 refine sr ?_
 refine av hs rfl rfl fun a hs => ?_
 refine nl ?_
 refine sr ?_
 refine mv hs rfl rfl fun a hs => ?_
 obtain ⟨rv3, h2, hsh⟩ := bind_t hsh
 refine st_callR hs (ref01_In_ok h2 hw.bdom) (do_call Tryz.call37 rfl) trivial rfl rfl ?_
 intro v7 Sv4 w a h5 h6 hs
 subst h6
 have hw := hw.callB h5
 refine av hs rfl rfl fun a hs => ?_
 refine nl ?_
 have hsh := oi hsh
 subst hsh
 refine wp_ret ?_
 exact ret1 hs rfl (rv_tmp rfl) (hw.ret rfl)
abbrev ref05_InRange_rd (w0 : World) (X : List Nat) (r : Bool) : (Nat → Prop) → World → Value → Prop := fun S w v => v = .bool r
set_option maxHeartbeats 4000000 in
set_option maxRecDepth 100000 in
theorem ref05_InRange_ok {w0 : World} {S0 : Nat → Prop} {p2 : Option Addr} {k3 : Nat} {l1 : (List Int)} {r : Bool} (hsh : ref05_InRange l1 = some r) (hS : ∀ b, S0 b → b < w0.heap.size) (h4 : (SlA p2 l1.length k3 l1).p S0 w0) : Calls Tryz.prog 31 #[.slice p2 l1.length k3] w0 (Ret ([]) w0 S0 (ref05_InRange_rd w0 ([]) r)) := by
 refine calls_of_wp Tryz.func31 rfl ?_
 have hs := Sl.enter #[.slice p2 l1.length k3] 16 [(0, .slice p2 l1.length k3)] rfl ⟨rfl, trivial⟩
 have hw := Wd.enter (E := []) hS (fun _ h => (by cases h))
 have hw := hw.addE h4
 delta ref05_InRange at hsh
 refine sr ?_
 refine av hs rfl rfl fun a hs => ?_
 refine nl ?_
 refine wp_seq ?_
 refine sr ?_
 refine av hs rfl rfl fun a hs => ?_
 refine nl ?_
 refine wp_block ?_
 refine wp_while (fun sv82 a w => ∃ (Sv132 : Nat → Prop), Sl 16 [(0, .slice p2 l1.length k3), (3, .int .i64 sv82)] a ∧ Wd ⟨w0, S0, []⟩ Sv132 [] [SlA p2 l1.length k3 l1] w) 0 hsh ⟨S0, (hs.wk rfl), (hw.ft [] [0] (by decide) rfl rfl)⟩ ?_
 repeat clear hsh
 rintro sv82 a w tv158 ⟨Sv132, hs, hw⟩ hsh hd157
 delta ref05_InRange_l2 at hsh
 refine wp_seq ?_
 refine sr ?_
 refine mv hs rfl rfl fun a hs => ?_
 refine mv hs rfl rfl fun a hs => ?_
 refine sv hs (y_len Tryz.runUnderlying22 rfl) rfl fun a hs => ?_
 refine sv hs (y_lss rfl rfl) rfl fun a hs => ?_
 refine nl ?_
 refine wp_cond_split (hs.ev rfl) (fun h162 => ?_) (fun h162 => ?_)
 ·have hsh := ite_t hsh h162
  refine wp_skip ?_
  refine then_normal ?_
  refine wp_seq ?_
  refine wp_block ?_
  refine sr ?_
  refine mv hs rfl rfl fun a hs => ?_
  refine mv hs rfl rfl fun a hs => ?_
  obtain ⟨x186, h184, hsh⟩ := bind_t hsh
  obtain ⟨b192, o193, q190, c191, h194, h187, h188, h189, h185⟩ := hw.elemV 0 rfl h184
  have hsv195 := hs
  have hwv196 := hw
  subst h194
  have hs := hsv195
  have hw := hwv196
  obtain ⟨_, rfl, rfl⟩ := h185
  have hw := hw.addE h189
  refine sv hs (y_indexAt Tryz.runUnderlying22 Tryz.sizeOf3 rfl rfl h187.1 h187.2 h188) rfl fun a hs => ?_
  refine sv hs (y_loadE1 (j := 0) (hw.ceAt 0 rfl) rfl Tryz.isAgg3 rfl) rfl fun a hs => ?_
  obtain ⟨rv198, h197, hsh⟩ := bind_t hsh
  refine st_callR hs (ref05_Sample_ok h197 hw.bdom) (do_call Tryz.call57 rfl) trivial rfl rfl ?_
  intro v202 Sv199 w a h200 h201 hs
  subst h201
  have hw := hw.callB h200
  refine sv hs (y_not rfl) rfl fun a hs => ?_
  refine nl ?_
  refine wp_cond_split (hs.ev rfl) (fun h205 => ?_) (fun h205 => ?_)
  ·have hsh := ite_t hsh h205
   refine sr ?_
   refine av hs rfl rfl fun a hs => ?_
   refine nl ?_
   have hsh := oi hsh
   subst hsh
   have h206 := hd157 _ rfl
   subst h206
   refine wp_ret ?_
   refine blk_ret ?_
   refine then_ret ?_
   refine then_ret ?_
   refine blk_ret ?_
   refine then_ret ?_
   exact ret1 hs rfl (rv_tmp rfl) (hw.ret rfl)
  have hsh := ite_f hsh h205
  refine wp_skip ?_
  refine blk_normal ?_
  refine then_normal ?_
  refine wp_region_lit ?_
  refine mv hs rfl rfl fun a hs => ?_
  refine sv hs (y_add rfl rfl) rfl fun a hs => ?_
  obtain ⟨i208, h207, hsh⟩ := bind_t hsh
  refine sv hs (y_assignI rfl h207) rfl fun a hs => ?_
  refine nl ?_
  exact ⟨_, (Option.some.inj hsh).symm, Sv132, (hs.wk rfl), (hw.ft [] [1] (by decide) rfl rfl)⟩
 have hsh := ite_f hsh h162
 obtain ⟨rv209, hsh, h210⟩ := map_t hsh
 have h210 := (hd157 _ h210.symm).symm
 subst h210
 refine wp_exit ?_
 refine then_exit ?_
 refine then_exit ?_
 refine blk_exit ?_
 refine then_normal ?_
 refine sr ?_
 refine av hs rfl rfl fun a hs => ?_
 refine nl ?_
 have hsh := oi hsh
 subst hsh
 refine wp_ret ?_
 exact ret1 hs rfl (rv_tmp rfl) (hw.ret rfl)
abbrev ref22_Abs_rd (w0 : World) (X : List Nat) (r : Int) : (Nat → Prop) → World → Value → Prop := fun S w v => v = .int .i64 r
set_option maxHeartbeats 4000000 in
set_option maxRecDepth 100000 in
theorem ref22_Abs_ok {w0 : World} {S0 : Nat → Prop} {n1 : Int} {r : Int} (hsh : ref22_Abs n1 = some r) (hS : ∀ b, S0 b → b < w0.heap.size) : Calls Tryz.prog 41 #[.int .i64 n1] w0 (Ret ([]) w0 S0 (ref22_Abs_rd w0 ([]) r)) := by
 refine calls_of_wp Tryz.func41 rfl ?_
 have hs := Sl.enter #[.int .i64 n1] 7 [(0, .int .i64 n1)] rfl ⟨rfl, trivial⟩
 have hw := Wd.enter (E := []) hS (fun _ h => (by cases h))
 delta ref22_Abs at hsh
 refine sr ?_
 refine av hs rfl rfl fun a hs => ?_
 refine nl ?_
 refine sr ?_
 refine mv hs rfl rfl fun a hs => ?_
 refine mv hs rfl rfl fun a hs => ?_
 refine sv hs (y_neg rfl) rfl fun a hs => ?_
 refine sv hs (y_max rfl rfl) rfl fun a hs => ?_
 obtain ⟨x3, h2, hsh⟩ := bind_t hsh
 refine sv hs (y_assignI rfl h2) rfl fun a hs => ?_
 refine nl ?_
 have hsh := oi hsh
 subst hsh
 refine wp_ret ?_
 exact ret1 hs rfl (rv_tmp rfl) (hw.ret rfl)
abbrev ref22_absolute_rd (w0 : World) (X : List Nat) (r : (List Int)) : (Nat → Prop) → World → Value → Prop := fun S w v => ∃ (p0_0 : Option Addr) (k0_0 : Nat) (c0_0 : List Value), v = .slice p0_0 r.length k0_0 ∧ Outs X w0 S w [.row p0_0 r.length k0_0 c0_0 3 1] ∧ (RowA c0_0 r).p S w
set_option maxHeartbeats 4000000 in
set_option maxRecDepth 100000 in
theorem ref22_absolute_ok {w0 : World} {S0 : Nat → Prop} {p2 : Option Addr} {k3 : Nat} {l1 : (List Int)} {r : (List Int)} (hsh : ref22_absolute l1 = some r) (hS : ∀ b, S0 b → b < w0.heap.size) (h4 : (SlA p2 l1.length k3 l1).p S0 w0) : Calls Tryz.prog 32 #[.slice p2 l1.length k3] w0 (Ret ([]) w0 S0 (ref22_absolute_rd w0 ([]) r)) := by
 refine calls_of_wp Tryz.func32 rfl ?_
 have hs := Sl.enter #[.slice p2 l1.length k3] 20 [(0, .slice p2 l1.length k3)] rfl ⟨rfl, trivial⟩
 have hw := Wd.enter (E := []) hS (fun _ h => (by cases h))
 have hw := hw.addE h4
 delta ref22_absolute at hsh
 refine sr ?_
 refine av hs rfl rfl fun a hs => ?_
 refine nl ?_
 refine sr ?_
 refine av hs rfl rfl fun a hs => ?_
 refine nl ?_
 refine wp_seq ?_
 refine sr ?_
 refine av hs rfl rfl fun a hs => ?_
 refine nl ?_
 obtain ⟨e107, h171, hsh⟩ := bind_t hsh
 refine wp_join (fun a w => ∃ (c108 : List Value) (p109 : Option Addr) (k110 : Nat) (Sv111 : Nat → Prop), Sl 20 [(3, .slice p109 e107.length k110)] a ∧ Wd ⟨w0, S0, []⟩ Sv111 [.row p109 e107.length k110 c108 3 1] [RowA c108 e107] w) ?_ ?_
 ·refine wp_block ?_
  have hw := hw.nilRow Int 3
  refine wp_while (fun sv5 a w => ∃ (c70 : List Value) (p71 : Option Addr) (k72 : Nat) (Sv73 : Nat → Prop), Sl 20 [(0, .slice p2 l1.length k3), (3, .slice p71 sv5.1.length k72), (4, .int .i64 sv5.2)] a ∧ Wd ⟨w0, S0, []⟩ Sv73 [.row p71 sv5.1.length k72 c70 3 1] [SlA p2 l1.length k3 l1, RowA c70 sv5.1] w) (([] : List Int), 0) h171 ⟨[], none, 0, S0, (hs.wk rfl), (hw.ft [0] [1, 0] (by decide) rfl rfl)⟩ ?_
  clear h171
  repeat clear hsh
  rintro sv5 a w tv105 ⟨c70, p71, k72, Sv73, hs, hw⟩ hsh hd104
  delta ref22_absolute_l1 at hsh
  refine wp_seq ?_
  refine sr ?_
  refine mv hs rfl rfl fun a hs => ?_
  refine mv hs rfl rfl fun a hs => ?_
  refine sv hs (y_len Tryz.runUnderlying22 rfl) rfl fun a hs => ?_
  refine sv hs (y_lss rfl rfl) rfl fun a hs => ?_
  refine nl ?_
  refine wp_cond_split (hs.ev rfl) (fun h113 => ?_) (fun h113 => ?_)
  ·have hsh := ite_t hsh h113
   refine wp_skip ?_
   refine then_normal ?_
   refine wp_seq ?_
   refine wp_block ?_
   refine wp_region_lit ?_
   refine mv hs rfl rfl fun a hs => ?_
   refine mv hs rfl rfl fun a hs => ?_
   refine mv hs rfl rfl fun a hs => ?_
   obtain ⟨x143, h141, hsh⟩ := bind_t hsh
   obtain ⟨b149, o150, q147, c148, h151, h144, h145, h146, h142⟩ := hw.elemV 0 rfl h141
   have hsv152 := hs
   have hwv153 := hw
   subst h151
   have hs := hsv152
   have hw := hwv153
   obtain ⟨_, rfl, rfl⟩ := h142
   have hw := hw.addE h146
   refine sv hs (y_indexAt Tryz.runUnderlying22 Tryz.sizeOf3 rfl rfl h144.1 h144.2 h145) rfl fun a hs => ?_
   refine sv hs (y_loadE1 (j := 0) (hw.ceAt 0 rfl) rfl Tryz.isAgg3 rfl) rfl fun a hs => ?_
   obtain ⟨rv155, h154, hsh⟩ := bind_t hsh
   refine st_callR hs (ref22_Abs_ok h154 hw.bdom) (do_call Tryz.call41 rfl) trivial rfl rfl ?_
   intro v159 Sv156 w a h157 h158 hs
   subst h158
   have hw := hw.callB h157
   refine w_litSlice (α := Int) (vs := [.int .i64 rv155]) (cs := [.int .i64 rv155]) (xs := ([rv155] : List Int)) hs hw El22 rfl rfl rfl rfl rfl rfl ⟨⟨_, rfl, rfl⟩, rfl⟩ rfl trivial rfl fun b162 a w hs hw => ?_
   obtain ⟨l164, h163, hsh⟩ := bind_t hsh
   refine w_appendR (α := Int) hs hw El22 1 rfl rfl rfl 3 rfl 0 rfl 0 rfl h163 rfl trivial ?_
   intro p165 k166 c167 a w hs hw
   refine av hs rfl rfl fun a hs => ?_
   refine wpList_nil ?_
   refine blk_normal ?_
   refine then_normal ?_
   refine wp_region_lit ?_
   refine mv hs rfl rfl fun a hs => ?_
   refine sv hs (y_add rfl rfl) rfl fun a hs => ?_
   obtain ⟨i169, h168, hsh⟩ := bind_t hsh
   refine sv hs (y_assignI rfl h168) rfl fun a hs => ?_
   refine nl ?_
   exact ⟨_, (Option.some.inj hsh).symm, c167, p165, k166, Sv73, (hs.wk rfl), (hw.ft [1] [3, 0] (by decide) rfl rfl)⟩
  have hsh := ite_f hsh h113
  refine wp_exit ?_
  refine then_exit ?_
  refine then_exit ?_
  refine blk_exit ?_
  have hsh := oi hsh
  subst hsh
  have h170 := hd104 _ rfl
  subst h170
  refine then_normal ?_
  exact ⟨c70, p71, k72, Sv73, (hs.wk rfl), (hw.ft [0] [1] (by decide) rfl rfl)⟩
 rintro a w ⟨c108, p109, k110, Sv111, hs, hw⟩
 refine then_normal ?_
 refine sr ?_
 refine mv hs rfl rfl fun a hs => ?_
 refine av hs rfl rfl fun a hs => ?_
 refine nl ?_
 have hsh := oi hsh
 subst hsh
 refine wp_ret ?_
 exact ret1 hs rfl (rv_tmp rfl) (hw.ret ⟨p109, k110, c108, rfl, (hw.outs [0] (by decide) rfl), (hw.envAt 0 rfl)⟩)
abbrev ref22_none_rd (w0 : World) (X : List Nat) (r : Trigger) : (Nat → Prop) → World → Value → Prop := fun S w v => v = .agg #[.int .i64 r.On, .int .i64 r.Off, .int .i64 r.Peak]
set_option maxHeartbeats 4000000 in
set_option maxRecDepth 100000 in
theorem ref22_none_ok {w0 : World} {S0 : Nat → Prop} {r : Trigger} (hsh : ref22_none = some r) (hS : ∀ b, S0 b → b < w0.heap.size) : Calls Tryz.prog 33 #[] w0 (Ret ([]) w0 S0 (ref22_none_rd w0 ([]) r)) := by
 refine calls_of_wp Tryz.func33 rfl ?_
 have hs := Sl.enter #[] 2 [] rfl trivial
 have hw := Wd.enter (E := []) hS (fun _ h => (by cases h))
 delta ref22_none at hsh
 refine sr ?_
 refine w_alloc (cs := [.int .i64 0, .int .i64 0, .int .i64 0]) hs hw Tryz.zeroValue28 rfl rfl trivial ?_
 intro b1 a w hs hw
 refine nl ?_
 refine sr ?_
 refine sv hs (y_build (vs := [(0, .int .i64 (-1))]) Bld28 rfl rfl) rfl fun a hs => ?_
 refine w_store (m := 3) (cs' := [.int .i64 (-1), .int .i64 0, .int .i64 0]) hs hw 0 rfl rfl rfl Tryz.sizeOf28 rfl rfl rfl rfl trivial ?_
 intro a w hs hw
 refine nl ?_
 have hsh := oi hsh
 subst hsh
 refine wp_ret ?_
 exact ret1 hs rfl (rv_cell hw 0 rfl rfl Tryz.isAgg28 Tryz.sizeOf28 rfl) (hw.ret rfl)
abbrev ref22_sums_rd (w0 : World) (X : List Nat) (r : (Int × Int)) : (Nat → Prop) → World → Value → Prop := fun S w v => v = .tuple #[.int .i64 r.1, .int .i64 r.2]
set_option maxHeartbeats 4000000 in
set_option maxRecDepth 100000 in
theorem ref22_sums_ok {w0 : World} {S0 : Nat → Prop} {p3 : Option Addr} {k4 : Nat} {d1 : Detector} {x2 : (List Int)} {i6 : Int} {r : (Int × Int)} (hsh : ref22_sums d1 x2 i6 = some r) (hS : ∀ b, S0 b → b < w0.heap.size) (h5 : (SlA p3 x2.length k4 x2).p S0 w0) : Calls Tryz.prog 58 #[.agg #[.int .i64 d1.Short, .int .i64 d1.Long, .int .i64 d1.On, .int .i64 d1.Off], .slice p3 x2.length k4, .int .i64 i6] w0 (Ret ([]) w0 S0 (ref22_sums_rd w0 ([]) r)) := by
 refine calls_of_wp Tryz.func58 rfl ?_
 have hs := Sl.enter #[.agg #[.int .i64 d1.Short, .int .i64 d1.Long, .int .i64 d1.On, .int .i64 d1.Off], .slice p3 x2.length k4, .int .i64 i6] 37 [(0, .agg #[.int .i64 d1.Short, .int .i64 d1.Long, .int .i64 d1.On, .int .i64 d1.Off]), (1, .slice p3 x2.length k4), (2, .int .i64 i6)] rfl ⟨rfl, rfl, rfl, trivial⟩
 have hw := Wd.enter (E := []) hS (fun _ h => (by cases h))
 have hw := hw.addE h5
 delta ref22_sums at hsh
 refine sr ?_
 refine w_box (cs := [.int .i64 d1.Short, .int .i64 d1.Long, .int .i64 d1.On, .int .i64 d1.Off]) hs hw rfl rfl rfl trivial ?_
 intro b7 a w hs hw
 refine av hs rfl rfl fun a hs => ?_
 refine av hs rfl rfl fun a hs => ?_
 refine nl ?_
 refine wp_seq ?_
 refine sr ?_
 refine av hs rfl rfl fun a hs => ?_
 refine nl ?_
 obtain ⟨e107, h181, hsh⟩ := bind_t hsh
 refine wp_join (fun a w => ∃ (Sv108 : Nat → Prop), Sl 37 [(6, .int .i64 e107.1), (7, .int .i64 e107.2)] a ∧ Wd ⟨w0, S0, []⟩ Sv108 [] [] w) ?_ ?_
 ·refine wp_block ?_
  refine wp_while (fun sv8 a w => ∃ (Sv72 : Nat → Prop), Sl 37 [(1, .slice p3 x2.length k4), (2, .int .i64 i6), (3, .pointer (some ⟨b7, 0, none⟩)), (6, .int .i64 sv8.1), (7, .int .i64 sv8.2.1), (8, .int .i64 sv8.2.2)] a ∧ Wd ⟨w0, S0, []⟩ Sv72 [.box b7 [.int .i64 d1.Short, .int .i64 d1.Long, .int .i64 d1.On, .int .i64 d1.Off] 24] [SlA p3 x2.length k4 x2] w) (0, 0, 0) h181 ⟨S0, (hs.wk rfl), (hw.ft [0] [0] (by decide) rfl rfl)⟩ ?_
  clear h181
  repeat clear hsh
  rintro sv8 a w tv105 ⟨Sv72, hs, hw⟩ hsh hd104
  delta ref22_sums_l1 at hsh
  refine wp_seq ?_
  refine sr ?_
  refine mv hs rfl rfl fun a hs => ?_
  refine sv hs (y_fieldAddr (o' := 1) Tryz.runUnderlying24 rfl Tryz.sizeOf3 rfl rfl rfl) rfl fun a hs => ?_
  refine sv hs (y_loadB1 (hw.ownAt 0 rfl) rfl Tryz.isAgg3 rfl) rfl fun a hs => ?_
  refine sv hs (y_lss rfl rfl) rfl fun a hs => ?_
  refine nl ?_
  refine wp_cond_split (hs.ev rfl) (fun h110 => ?_) (fun h110 => ?_)
  ·have hsh := ite_t hsh h110
   refine wp_skip ?_
   refine then_normal ?_
   refine wp_seq ?_
   refine wp_block ?_
   refine sr ?_
   refine mv hs rfl rfl fun a hs => ?_
   refine mv hs rfl rfl fun a hs => ?_
   refine mv hs rfl rfl fun a hs => ?_
   refine mv hs rfl rfl fun a hs => ?_
   refine sv hs (y_sub rfl rfl) rfl fun a hs => ?_
   obtain ⟨x141, h139, hsh⟩ := bind_t hsh
   obtain ⟨b147, o148, q145, c146, h149, h142, h143, h144, h140⟩ := hw.elemV 0 rfl h139
   have hsv150 := hs
   have hwv151 := hw
   subst h149
   have hs := hsv150
   have hw := hwv151
   obtain ⟨_, rfl, rfl⟩ := h140
   have hw := hw.addE h144
   refine sv hs (y_indexAt Tryz.runUnderlying22 Tryz.sizeOf3 rfl rfl h142.1 h142.2 h143) rfl fun a hs => ?_
   refine sv hs (y_loadE1 (j := 0) (hw.ceAt 0 rfl) rfl Tryz.isAgg3 rfl) rfl fun a hs => ?_
   refine sv hs (y_add rfl rfl) rfl fun a hs => ?_
   obtain ⟨long153, h152, hsh⟩ := bind_t hsh
   refine sv hs (y_assignI rfl h152) rfl fun a hs => ?_
   refine nl ?_
   refine sr ?_
   refine mv hs rfl rfl fun a hs => ?_
   refine sv hs (y_fieldAddr (o' := 0) Tryz.runUnderlying24 rfl Tryz.sizeOf3 rfl rfl rfl) rfl fun a hs => ?_
   refine sv hs (y_loadB1 (hw.ownAt 0 rfl) rfl Tryz.isAgg3 rfl) rfl fun a hs => ?_
   refine sv hs (y_lss rfl rfl) rfl fun a hs => ?_
   refine nl ?_
   refine wp_join (fun a w => ∃ (short166 : Int) (Sv165 : Nat → Prop), ref22_sums_j1 sv8 long153 short166 = some tv105 ∧ Sl 37 [(1, .slice (some ⟨b147, o148, none⟩) x2.length k4), (2, .int .i64 i6), (3, .pointer (some ⟨b7, 0, none⟩)), (6, .int .i64 short166), (7, .int .i64 long153), (8, .int .i64 sv8.2.2)] a ∧ Wd ⟨w0, S0, []⟩ Sv165 [.box b7 [.int .i64 d1.Short, .int .i64 d1.Long, .int .i64 d1.On, .int .i64 d1.Off] 24] [SlA (some ⟨b147, o148, none⟩) x2.length k4 x2] w) ?_ ?_
   ·refine wp_cond_split (hs.ev rfl) (fun h169 => ?_) (fun h169 => ?_)
    ·have hsh := ite_t hsh h169
     refine wp_region_lit ?_
     refine mv hs rfl rfl fun a hs => ?_
     refine mv hs rfl rfl fun a hs => ?_
     refine mv hs rfl rfl fun a hs => ?_
     refine mv hs rfl rfl fun a hs => ?_
     refine sv hs (y_sub rfl rfl) rfl fun a hs => ?_
     obtain ⟨x172, h170, hsh⟩ := bind_t hsh
     obtain ⟨q176, c177, h173, h174, h175, h171⟩ := hw.elemK 1 rfl h170
     obtain ⟨_, rfl, rfl⟩ := h171
     have hw := hw.addE h175
     refine sv hs (y_indexAt Tryz.runUnderlying22 Tryz.sizeOf3 rfl rfl h173.1 h173.2 h174) rfl fun a hs => ?_
     refine sv hs (y_loadE1 (j := 0) (hw.ceAt 0 rfl) rfl Tryz.isAgg3 rfl) rfl fun a hs => ?_
     refine sv hs (y_add rfl rfl) rfl fun a hs => ?_
     obtain ⟨short179, h178, hsh⟩ := bind_t hsh
     refine sv hs (y_assignI rfl h178) rfl fun a hs => ?_
     refine nl ?_
     exact ⟨short179, Sv72, hsh, (hs.wk rfl), (hw.ft [0] [2] (by decide) rfl rfl)⟩
    have hsh := ite_f hsh h169
    refine wp_skip ?_
    refine then_normal ?_
    exact ⟨sv8.1, Sv72, hsh, (hs.wk rfl), (hw.ft [0] [1] (by decide) rfl rfl)⟩
   rintro a w ⟨short166, Sv165, hsh, hs, hw⟩
   delta ref22_sums_j1 at hsh
   refine blk_normal ?_
   refine then_normal ?_
   refine wp_region_lit ?_
   refine mv hs rfl rfl fun a hs => ?_
   refine sv hs (y_add rfl rfl) rfl fun a hs => ?_
   obtain ⟨k168, h167, hsh⟩ := bind_t hsh
   refine sv hs (y_assignI rfl h167) rfl fun a hs => ?_
   refine nl ?_
   exact ⟨_, (Option.some.inj hsh).symm, Sv165, (hs.wk rfl), (hw.ft [0] [0] (by decide) rfl rfl)⟩
  have hsh := ite_f hsh h110
  refine wp_exit ?_
  refine then_exit ?_
  refine then_exit ?_
  refine blk_exit ?_
  have hsh := oi hsh
  subst hsh
  have h180 := hd104 _ rfl
  subst h180
  refine then_normal ?_
  exact ⟨Sv72, (hs.wk rfl), (hw.ft [] [] (by decide) rfl rfl)⟩
 rintro a w ⟨Sv108, hs, hw⟩
 refine then_normal ?_
 refine sr ?_
 refine mv hs rfl rfl fun a hs => ?_
 refine mv hs rfl rfl fun a hs => ?_
 refine av hs rfl rfl fun a hs => ?_
 refine av hs rfl rfl fun a hs => ?_
 refine nl ?_
 have hsh := oi hsh
 subst hsh
 refine wp_ret ?_
 exact ret2 hs rfl (rv_tmp rfl) (rv_tmp rfl) (hw.ret rfl)
abbrev ref22_reaches_rd (w0 : World) (X : List Nat) (r : Bool) : (Nat → Prop) → World → Value → Prop := fun S w v => v = .bool r
set_option maxHeartbeats 4000000 in
set_option maxRecDepth 100000 in
theorem ref22_reaches_ok {w0 : World} {S0 : Nat → Prop} {d1 : Detector} {short2 : Int} {long3 : Int} {p4 : Int} {r : Bool} (hsh : ref22_reaches d1 short2 long3 p4 = some r) (hS : ∀ b, S0 b → b < w0.heap.size) : Calls Tryz.prog 59 #[.agg #[.int .i64 d1.Short, .int .i64 d1.Long, .int .i64 d1.On, .int .i64 d1.Off], .int .i64 short2, .int .i64 long3, .int .i64 p4] w0 (Ret ([]) w0 S0 (ref22_reaches_rd w0 ([]) r)) := by
 refine calls_of_wp Tryz.func59 rfl ?_
 have hs := Sl.enter #[.agg #[.int .i64 d1.Short, .int .i64 d1.Long, .int .i64 d1.On, .int .i64 d1.Off], .int .i64 short2, .int .i64 long3, .int .i64 p4] 25 [(0, .agg #[.int .i64 d1.Short, .int .i64 d1.Long, .int .i64 d1.On, .int .i64 d1.Off]), (1, .int .i64 short2), (2, .int .i64 long3), (3, .int .i64 p4)] rfl ⟨rfl, rfl, rfl, rfl, trivial⟩
 have hw := Wd.enter (E := []) hS (fun _ h => (by cases h))
 delta ref22_reaches at hsh
 refine sr ?_
 refine w_box (cs := [.int .i64 d1.Short, .int .i64 d1.Long, .int .i64 d1.On, .int .i64 d1.Off]) hs hw rfl rfl rfl trivial ?_
 intro b5 a w hs hw
 refine av hs rfl rfl fun a hs => ?_
 refine nl ?_
 refine sr ?_
 refine mv hs rfl rfl fun a hs => ?_
 refine sv hs (y_neq rfl rfl) rfl fun a hs => ?_
 refine mv hs rfl rfl fun a hs => ?_
 refine wpl_join 13 (fun a w1 => w = w1 ∧ Sl 25 [(24, .bool ((long3 != 0) && (decide ((w64 ((w64 (p4 * d1.Short)) * long3)) ≤ (w64 ((w64 (100 * d1.Long)) * short2))))))] a) ?_ ?_
 ·rcases Bool.eq_false_or_eq_true (long3 != 0) with h6 | h6
  ·have hs := hs.fix 11 (.bool true) rfl (vb h6)
   refine st_val hs (y_fieldAddr (o' := 1) Tryz.runUnderlying24 rfl Tryz.sizeOf3 rfl rfl rfl) ⟨_, rfl, rfl⟩ rfl rfl fun a hs => ?_
   refine st_val hs (y_loadB1 (hw.ownAt 0 rfl) rfl Tryz.isAgg3 rfl) ⟨_, rfl, rfl⟩ rfl rfl fun a hs => ?_
   refine st_val hs (y_mul rfl rfl) ⟨_, rfl, rfl⟩ rfl rfl fun a hs => ?_
   refine st_val hs (y_move rfl) ⟨_, rfl, rfl⟩ rfl rfl fun a hs => ?_
   refine st_val hs (y_mul rfl rfl) ⟨_, rfl, rfl⟩ rfl rfl fun a hs => ?_
   refine st_val hs (y_move rfl) ⟨_, rfl, rfl⟩ rfl rfl fun a hs => ?_
   refine st_val hs (y_fieldAddr (o' := 0) Tryz.runUnderlying24 rfl Tryz.sizeOf3 rfl rfl rfl) ⟨_, rfl, rfl⟩ rfl rfl fun a hs => ?_
   refine st_val hs (y_loadB1 (hw.ownAt 0 rfl) rfl Tryz.isAgg3 rfl) ⟨_, rfl, rfl⟩ rfl rfl fun a hs => ?_
   refine st_val hs (y_mul rfl rfl) ⟨_, rfl, rfl⟩ rfl rfl fun a hs => ?_
   refine st_val hs (y_move rfl) ⟨_, rfl, rfl⟩ rfl rfl fun a hs => ?_
   refine st_val hs (y_mul rfl rfl) ⟨_, rfl, rfl⟩ rfl rfl fun a hs => ?_
   refine st_val hs (y_geq rfl rfl) ⟨_, rfl, rfl⟩ rfl rfl fun a hs => ?_
   refine sv hs (y_pickT rfl rfl) rfl fun a hs => ?_
   refine nl ?_
   exact ⟨rfl, (hs.fix 24 (.bool ((long3 != 0) && (decide ((w64 ((w64 (p4 * d1.Short)) * long3)) ≤ (w64 ((w64 (100 * d1.Long)) * short2)))))) rfl (and_t h6)).weaken _ ⟨rfl, trivial⟩⟩
  have hs := hs.fix 11 (.bool false) rfl (vb h6)
  refine st_skip hs rfl rfl rfl rfl rfl fun a hs => ?_
  refine st_skip hs rfl rfl rfl rfl rfl fun a hs => ?_
  refine st_skip hs rfl rfl rfl rfl rfl fun a hs => ?_
  refine st_skip hs rfl rfl rfl rfl rfl fun a hs => ?_
  refine st_skip hs rfl rfl rfl rfl rfl fun a hs => ?_
  refine st_skip hs rfl rfl rfl rfl rfl fun a hs => ?_
  refine st_skip hs rfl rfl rfl rfl rfl fun a hs => ?_
  refine st_skip hs rfl rfl rfl rfl rfl fun a hs => ?_
  refine st_skip hs rfl rfl rfl rfl rfl fun a hs => ?_
  refine st_skip hs rfl rfl rfl rfl rfl fun a hs => ?_
  refine st_skip hs rfl rfl rfl rfl rfl fun a hs => ?_
  refine st_skip hs rfl rfl rfl rfl rfl fun a hs => ?_
  refine sv hs (y_pickF rfl rfl) rfl fun a hs => ?_
  refine nl ?_
  exact ⟨rfl, (hs.fix 24 (.bool ((long3 != 0) && (decide ((w64 ((w64 (p4 * d1.Short)) * long3)) ≤ (w64 ((w64 (100 * d1.Long)) * short2)))))) rfl (and_f h6)).weaken _ ⟨rfl, trivial⟩⟩
 rintro a w1 ⟨h7, hs⟩
 subst h7
 refine av hs rfl rfl fun a hs => ?_
 refine nl ?_
 have hsh := oi hsh
 subst hsh
 refine wp_ret ?_
 exact ret1 hs rfl (rv_tmp rfl) (hw.ret rfl)
abbrev ref22_step_rd (w0 : World) (X : List Nat) (r : (Trigger × Trigger × Bool)) : (Nat → Prop) → World → Value → Prop := fun S w v => v = .tuple #[.agg #[.int .i64 r.1.On, .int .i64 r.1.Off, .int .i64 r.1.Peak], .agg #[.int .i64 r.2.1.On, .int .i64 r.2.1.Off, .int .i64 r.2.1.Peak], .bool r.2.2]
set_option maxHeartbeats 4000000 in
set_option maxRecDepth 100000 in
theorem ref22_step_ok {w0 : World} {S0 : Nat → Prop} {p3 : Option Addr} {k4 : Nat} {d1 : Detector} {x2 : (List Int)} {i6 : Int} {number7 : Int} {open8 : Trigger} {r : (Trigger × Trigger × Bool)} (hsh : ref22_step d1 x2 i6 number7 open8 = some r) (hS : ∀ b, S0 b → b < w0.heap.size) (h5 : (SlA p3 x2.length k4 x2).p S0 w0) : Calls Tryz.prog 34 #[.agg #[.int .i64 d1.Short, .int .i64 d1.Long, .int .i64 d1.On, .int .i64 d1.Off], .slice p3 x2.length k4, .int .i64 i6, .int .i64 number7, .agg #[.int .i64 open8.On, .int .i64 open8.Off, .int .i64 open8.Peak]] w0 (Ret ([]) w0 S0 (ref22_step_rd w0 ([]) r)) := by
 refine calls_of_wp Tryz.func34 rfl ?_
 have hs := Sl.enter #[.agg #[.int .i64 d1.Short, .int .i64 d1.Long, .int .i64 d1.On, .int .i64 d1.Off], .slice p3 x2.length k4, .int .i64 i6, .int .i64 number7, .agg #[.int .i64 open8.On, .int .i64 open8.Off, .int .i64 open8.Peak]] 63 [(0, .agg #[.int .i64 d1.Short, .int .i64 d1.Long, .int .i64 d1.On, .int .i64 d1.Off]), (1, .slice p3 x2.length k4), (2, .int .i64 i6), (3, .int .i64 number7), (4, .agg #[.int .i64 open8.On, .int .i64 open8.Off, .int .i64 open8.Peak])] rfl ⟨rfl, rfl, rfl, rfl, rfl, trivial⟩
 have hw := Wd.enter (E := []) hS (fun _ h => (by cases h))
 have hw := hw.addE h5
 delta ref22_step at hsh
 refine sr ?_
 refine w_box (cs := [.int .i64 d1.Short, .int .i64 d1.Long, .int .i64 d1.On, .int .i64 d1.Off]) hs hw rfl rfl rfl trivial ?_
 intro b9 a w hs hw
 refine w_box (cs := [.int .i64 open8.On, .int .i64 open8.Off, .int .i64 open8.Peak]) hs hw rfl rfl rfl trivial ?_
 intro b10 a w hs hw
 refine w_alloc (cs := [.int .i64 0, .int .i64 0, .int .i64 0]) hs hw Tryz.zeroValue28 rfl rfl trivial ?_
 intro b11 a w hs hw
 refine w_alloc (cs := [.int .i64 0, .int .i64 0, .int .i64 0]) hs hw Tryz.zeroValue28 rfl rfl trivial ?_
 intro b12 a w hs hw
 refine av hs rfl rfl fun a hs => ?_
 refine nl ?_
 refine sr ?_
 refine sv hs (y_loadBA (hw.ownAt 3 rfl) rfl Tryz.isAgg24 Tryz.sizeOf24 rfl rfl) rfl fun a hs => ?_
 refine mv hs rfl rfl fun a hs => ?_
 refine mv hs rfl rfl fun a hs => ?_
 obtain ⟨rv14, h13, hsh⟩ := bind_t hsh
 refine st_callR hs (ref22_sums_ok h13 hw.bdom (hw.bE 0 rfl)) (do_call Tryz.call58 rfl) trivial rfl rfl ?_
 intro v18 Sv15 w a h16 h17 hs
 subst h17
 have hw := hw.callB h16
 refine mv hs rfl rfl fun a hs => ?_
 refine sv hs (y_extract rfl rfl) rfl fun a hs => ?_
 refine sv hs (y_extract rfl rfl) rfl fun a hs => ?_
 refine av hs rfl rfl fun a hs => ?_
 refine av hs rfl rfl fun a hs => ?_
 refine nl ?_
 refine wp_seq ?_
 refine sr ?_
 refine sv hs (y_fieldAddr (o' := 0) Tryz.runUnderlying28 rfl Tryz.sizeOf3 rfl rfl rfl) rfl fun a hs => ?_
 refine sv hs (y_loadB1 (hw.ownAt 2 rfl) rfl Tryz.isAgg3 rfl) rfl fun a hs => ?_
 refine sv hs (y_lss rfl rfl) rfl fun a hs => ?_
 refine nl ?_
 refine wp_cond_split (hs.ev rfl) (fun h42 => ?_) (fun h42 => ?_)
 ·have hsh := ite_t hsh h42
  refine wp_seq ?_
  refine sr ?_
  refine sv hs (y_loadBA (hw.ownAt 3 rfl) rfl Tryz.isAgg24 Tryz.sizeOf24 rfl rfl) rfl fun a hs => ?_
  refine mv hs rfl rfl fun a hs => ?_
  refine mv hs rfl rfl fun a hs => ?_
  refine sv hs (y_fieldAddr (o' := 2) Tryz.runUnderlying24 rfl Tryz.sizeOf3 rfl rfl rfl) rfl fun a hs => ?_
  refine sv hs (y_loadB1 (hw.ownAt 3 rfl) rfl Tryz.isAgg3 rfl) rfl fun a hs => ?_
  obtain ⟨rv44, h43, hsh⟩ := bind_t hsh
  refine st_callR hs (ref22_reaches_ok h43 hw.bdom) (do_call Tryz.call59 rfl) trivial rfl rfl ?_
  intro v48 Sv45 w a h46 h47 hs
  subst h47
  have hw := hw.callB h46
  refine nl ?_
  refine wp_cond_split (hs.ev rfl) (fun h64 => ?_) (fun h64 => ?_)
  ·have hsh := ite_t hsh h64
   refine sr ?_
   refine mv hs rfl rfl fun a hs => ?_
   refine mv hs rfl rfl fun a hs => ?_
   refine mv hs rfl rfl fun a hs => ?_
   obtain ⟨x67, h65, hsh⟩ := bind_t hsh
   obtain ⟨b73, o74, q71, c72, h75, h68, h69, h70, h66⟩ := hw.elemV 0 rfl h65
   have hsv76 := hs
   have hwv77 := hw
   subst h75
   have hs := hsv76
   have hw := hwv77
   obtain ⟨_, rfl, rfl⟩ := h66
   have hw := hw.addE h70
   refine sv hs (y_indexAt Tryz.runUnderlying22 Tryz.sizeOf3 rfl rfl h68.1 h68.2 h69) rfl fun a hs => ?_
   refine sv hs (y_loadE1 (j := 0) (hw.ceAt 0 rfl) rfl Tryz.isAgg3 rfl) rfl fun a hs => ?_
   refine sv hs (y_build (vs := [(0, .int .i64 number7), (1, .int .i64 (-1)), (2, .int .i64 x67)]) Bld28 rfl rfl) rfl fun a hs => ?_
   refine sv hs (y_build (vs := []) Bld28 rfl rfl) rfl fun a hs => ?_
   refine w_store (m := 3) (cs' := [.int .i64 number7, .int .i64 (-1), .int .i64 x67]) hs hw 1 rfl rfl rfl Tryz.sizeOf28 rfl rfl rfl rfl trivial ?_
   intro a w hs hw
   refine w_store (m := 3) (cs' := [.int .i64 0, .int .i64 0, .int .i64 0]) hs hw 0 rfl rfl rfl Tryz.sizeOf28 rfl rfl rfl rfl trivial ?_
   intro a w hs hw
   refine av hs rfl rfl fun a hs => ?_
   refine nl ?_
   have hsh := oi hsh
   subst hsh
   refine wp_ret ?_
   refine then_ret ?_
   refine then_ret ?_
   exact ret3 hs rfl (rv_cell hw 1 rfl rfl Tryz.isAgg28 Tryz.sizeOf28 rfl) (rv_cell hw 0 rfl rfl Tryz.isAgg28 Tryz.sizeOf28 rfl) (rv_tmp rfl) (hw.ret rfl)
  have hsh := ite_f hsh h64
  refine wp_skip ?_
  refine then_normal ?_
  refine sr ?_
  refine sv hs (y_loadBA (hw.ownAt 2 rfl) rfl Tryz.isAgg28 Tryz.sizeOf28 rfl rfl) rfl fun a hs => ?_
  refine sv hs (y_build (vs := []) Bld28 rfl rfl) rfl fun a hs => ?_
  refine w_store (m := 3) (cs' := [.int .i64 open8.On, .int .i64 open8.Off, .int .i64 open8.Peak]) hs hw 1 rfl rfl rfl Tryz.sizeOf28 rfl rfl rfl rfl trivial ?_
  intro a w hs hw
  refine w_store (m := 3) (cs' := [.int .i64 0, .int .i64 0, .int .i64 0]) hs hw 0 rfl rfl rfl Tryz.sizeOf28 rfl rfl rfl rfl trivial ?_
  intro a w hs hw
  refine av hs rfl rfl fun a hs => ?_
  refine nl ?_
  have hsh := oi hsh
  subst hsh
  refine wp_ret ?_
  refine then_ret ?_
  exact ret3 hs rfl (rv_cell hw 1 rfl rfl Tryz.isAgg28 Tryz.sizeOf28 rfl) (rv_cell hw 0 rfl rfl Tryz.isAgg28 Tryz.sizeOf28 rfl) (rv_tmp rfl) (hw.ret rfl)
 have hsh := ite_f hsh h42
 refine wp_skip ?_
 refine then_normal ?_
 refine wp_seq ?_
 refine sr ?_
 refine sv hs (y_loadBA (hw.ownAt 3 rfl) rfl Tryz.isAgg24 Tryz.sizeOf24 rfl rfl) rfl fun a hs => ?_
 refine mv hs rfl rfl fun a hs => ?_
 refine mv hs rfl rfl fun a hs => ?_
 refine sv hs (y_fieldAddr (o' := 3) Tryz.runUnderlying24 rfl Tryz.sizeOf3 rfl rfl rfl) rfl fun a hs => ?_
 refine sv hs (y_loadB1 (hw.ownAt 3 rfl) rfl Tryz.isAgg3 rfl) rfl fun a hs => ?_
 obtain ⟨rv79, h78, hsh⟩ := bind_t hsh
 refine st_callR hs (ref22_reaches_ok h78 hw.bdom) (do_call Tryz.call59 rfl) trivial rfl rfl ?_
 intro v83 Sv80 w a h81 h82 hs
 subst h82
 have hw := hw.callB h81
 refine sv hs (y_not rfl) rfl fun a hs => ?_
 refine nl ?_
 refine wp_cond_split (hs.ev rfl) (fun h90 => ?_) (fun h90 => ?_)
 ·have hsh := ite_t hsh h90
  refine sr ?_
  refine sv hs (y_loadBA (hw.ownAt 2 rfl) rfl Tryz.isAgg28 Tryz.sizeOf28 rfl rfl) rfl fun a hs => ?_
  refine w_alloc (cs := [.int .i64 0, .int .i64 0, .int .i64 0]) hs hw Tryz.zeroValue28 rfl rfl trivial ?_
  intro b91 a w hs hw
  refine w_store (m := 3) (cs' := [.int .i64 open8.On, .int .i64 open8.Off, .int .i64 open8.Peak]) hs hw 0 rfl rfl rfl Tryz.sizeOf28 rfl rfl rfl rfl trivial ?_
  intro a w hs hw
  refine nl ?_
  refine sr ?_
  refine mv hs rfl rfl fun a hs => ?_
  refine sv hs (y_fieldAddr (o' := 1) Tryz.runUnderlying28 rfl Tryz.sizeOf3 rfl rfl rfl) rfl fun a hs => ?_
  refine w_store (m := 1) (cs' := [.int .i64 open8.On, .int .i64 number7, .int .i64 open8.Peak]) hs hw 0 rfl rfl rfl Tryz.sizeOf3 rfl rfl rfl rfl trivial ?_
  intro a w hs hw
  refine nl ?_
  refine wp_seq ?_
  obtain ⟨rv93, h92, hsh⟩ := bind_t hsh
  refine wp_only (fun a w => ∃ (Sv94 : Nat → Prop), Sl 63 [(10, .pointer (some ⟨b11, 0, none⟩)), (11, .pointer (some ⟨b12, 0, none⟩)), (12, .bool true)] a ∧ Wd ⟨w0, S0, []⟩ Sv94 [.box b11 [.int .i64 rv93.On, .int .i64 rv93.Off, .int .i64 rv93.Peak] 28, .box b12 [.int .i64 open8.On, .int .i64 number7, .int .i64 open8.Peak] 28] [] w) ?_ ?_
  ·refine h_b (C := Cls [.box b91 [.int .i64 open8.On, .int .i64 number7, .int .i64 open8.Peak] 28, .box b10 [.int .i64 open8.On, .int .i64 open8.Off, .int .i64 open8.Peak] 28, .box b9 [.int .i64 d1.Short, .int .i64 d1.Long, .int .i64 d1.On, .int .i64 d1.Off] 24] []) (by kernel_rfl) rfl (hw.drew.cs [0, 3, 4] [] rfl rfl) fun hC => ?_
   have hw := hw.drew
   refine gv hs 1 rfl rfl hC (fun w hC => y_loadBA (hC.ownAt 0 rfl) rfl Tryz.isAgg28 Tryz.sizeOf28 rfl rfl) fun a hs => ?_
   refine ho 0 rfl ?_
   refine st_callR hs (ref22_none_ok h92 hw.bdom) (do_call Tryz.call33 rfl) trivial rfl rfl ?_
   intro v98 Sv95 w a h96 h97 hs
   subst h97
   have hw := hw.callB h96
   refine h_nx (hw.cs [0, 3, 4] [] rfl rfl) fun hC => ?_
   refine ho 2 rfl ?_
   refine w_store (m := 3) (cs' := [.int .i64 rv93.On, .int .i64 rv93.Off, .int .i64 rv93.Peak]) hs hw 2 rfl rfl rfl Tryz.sizeOf28 rfl rfl rfl rfl trivial ?_
   intro a w hs hw
   refine h_nx (hw.cs [0, 3, 4] [] rfl rfl) fun hC => ?_
   refine ho 3 rfl ?_
   refine w_store (m := 3) (cs' := [.int .i64 open8.On, .int .i64 number7, .int .i64 open8.Peak]) hs hw 1 rfl rfl rfl Tryz.sizeOf28 rfl rfl rfl rfl trivial ?_
   intro a w hs hw
   refine h_nx (hw.cs [0, 3, 4] [] rfl rfl) fun hC => ?_
   refine gv hs 4 rfl rfl hC (fun w hC => y_assign rfl) fun a hs => ?_
   refine h_done (by kernel_rfl) ?_
   exact ⟨S0, (hs.wk rfl), (hw.ft [2, 1] [] (by decide) rfl rfl)⟩
  rintro a w ⟨Sv94, hs, hw⟩
  refine then_normal ?_
  have hsh := oi hsh
  subst hsh
  refine wp_ret ?_
  refine then_ret ?_
  exact ret3 hs rfl (rv_cell hw 0 rfl rfl Tryz.isAgg28 Tryz.sizeOf28 rfl) (rv_cell hw 1 rfl rfl Tryz.isAgg28 Tryz.sizeOf28 rfl) (rv_tmp rfl) (hw.ret rfl)
 have hsh := ite_f hsh h90
 refine wp_skip ?_
 refine then_normal ?_
 refine wp_seq ?_
 obtain ⟨x102, h100, hsh⟩ := bind_t hsh
 obtain ⟨b108, o109, q106, c107, h110, h103, h104, h105, h101⟩ := hw.elemV 0 rfl h100
 have hsv111 := hs
 have hwv112 := hw
 subst h110
 have hs := hsv111
 have hw := hwv112
 obtain ⟨_, rfl, rfl⟩ := h101
 have hw := hw.addE h105
 refine wp_only (fun a w => ∃ (Sv113 : Nat → Prop), Sl 63 [(9, .pointer (some ⟨b10, 0, none⟩)), (10, .pointer (some ⟨b11, 0, none⟩)), (11, .pointer (some ⟨b12, 0, none⟩))] a ∧ Wd ⟨w0, S0, []⟩ Sv113 [.box b10 [.int .i64 open8.On, .int .i64 open8.Off, .int .i64 (max open8.Peak x102)] 28, .box b11 [.int .i64 0, .int .i64 0, .int .i64 0] 28, .box b12 [.int .i64 0, .int .i64 0, .int .i64 0] 28] [] w) ?_ ?_
 ·refine h_b (C := Cls [.box b12 [.int .i64 0, .int .i64 0, .int .i64 0] 28, .box b11 [.int .i64 0, .int .i64 0, .int .i64 0] 28, .box b9 [.int .i64 d1.Short, .int .i64 d1.Long, .int .i64 d1.On, .int .i64 d1.Off] 24] [CeA b108 q106 [.int .i64 x102]]) (by kernel_rfl) rfl (hw.drew.cs [0, 1, 3] [0] rfl rfl) fun hC => ?_
  have hw := hw.drew
  refine gv hs 0 rfl rfl hC (fun w hC => y_fieldAddr (o' := 2) Tryz.runUnderlying28 rfl Tryz.sizeOf3 rfl rfl rfl) fun a hs => ?_
  refine gm hs 2 rfl rfl rfl hC fun a hs => ?_
  refine gm hs 3 rfl rfl rfl hC fun a hs => ?_
  refine gv hs 4 rfl rfl hC (fun w hC => y_indexAt Tryz.runUnderlying22 Tryz.sizeOf3 rfl rfl h103.1 h103.2 h104) fun a hs => ?_
  refine gv hs 5 rfl rfl hC (fun w hC => y_loadE1 (j := 0) (hC.ceAt 0 rfl) rfl Tryz.isAgg3 rfl) fun a hs => ?_
  refine ho 1 rfl ?_
  refine sv hs (y_loadB1 (hw.ownAt 2 rfl) rfl Tryz.isAgg3 rfl) rfl fun a hs => ?_
  refine h_nx (hw.cs [0, 1, 3] [0] rfl rfl) fun hC => ?_
  refine gv hs 6 rfl rfl hC (fun w hC => y_max rfl rfl) fun a hs => ?_
  refine gv hs 7 rfl rfl hC (fun w hC => y_fieldAddr (o' := 2) Tryz.runUnderlying28 rfl Tryz.sizeOf3 rfl rfl rfl) fun a hs => ?_
  refine ho 8 rfl ?_
  refine w_store (m := 1) (cs' := [.int .i64 open8.On, .int .i64 open8.Off, .int .i64 (max open8.Peak x102)]) hs hw 2 rfl rfl rfl Tryz.sizeOf3 rfl rfl rfl rfl trivial ?_
  intro a w hs hw
  refine h_nx (hw.cs [0, 1, 3] [0] rfl rfl) fun hC => ?_
  refine h_done (by kernel_rfl) ?_
  exact ⟨S0, (hs.wk rfl), (hw.ft [2, 1, 0] [] (by decide) rfl rfl)⟩
 rintro a w ⟨Sv113, hs, hw⟩
 refine then_normal ?_
 refine sr ?_
 refine sv hs (y_loadBA (hw.ownAt 0 rfl) rfl Tryz.isAgg28 Tryz.sizeOf28 rfl rfl) rfl fun a hs => ?_
 refine sv hs (y_build (vs := []) Bld28 rfl rfl) rfl fun a hs => ?_
 refine w_store (m := 3) (cs' := [.int .i64 open8.On, .int .i64 open8.Off, .int .i64 (max open8.Peak x102)]) hs hw 1 rfl rfl rfl Tryz.sizeOf28 rfl rfl rfl rfl trivial ?_
 intro a w hs hw
 refine w_store (m := 3) (cs' := [.int .i64 0, .int .i64 0, .int .i64 0]) hs hw 2 rfl rfl rfl Tryz.sizeOf28 rfl rfl rfl rfl trivial ?_
 intro a w hs hw
 refine av hs rfl rfl fun a hs => ?_
 refine nl ?_
 have hsh := oi hsh
 subst hsh
 refine wp_ret ?_
 exact ret3 hs rfl (rv_cell hw 1 rfl rfl Tryz.isAgg28 Tryz.sizeOf28 rfl) (rv_cell hw 2 rfl rfl Tryz.isAgg28 Tryz.sizeOf28 rfl) (rv_tmp rfl) (hw.ret rfl)
abbrev ref22_Run_rd (w0 : World) (X : List Nat) (r : ((List Trigger) × Int)) : (Nat → Prop) → World → Value → Prop := fun S w v => ∃ (p0_0 : Option Addr) (k0_0 : Nat) (c0_0 : List Value), v = .tuple #[.slice p0_0 r.1.length k0_0, .int .i64 r.2] ∧ Outs X w0 S w [.row p0_0 r.1.length k0_0 c0_0 28 3] ∧ (RowA c0_0 r.1).p S w
set_option maxHeartbeats 4000000 in
set_option maxRecDepth 100000 in
theorem ref22_Run_ok {w0 : World} {S0 : Nat → Prop} {p3 : Option Addr} {k4 : Nat} {d1 : Detector} {samples2 : (List Int)} {r : ((List Trigger) × Int)} (hsh : ref22_Run d1 samples2 = some r) (hS : ∀ b, S0 b → b < w0.heap.size) (h5 : (SlA p3 samples2.length k4 samples2).p S0 w0) : Calls Tryz.prog 13 #[.agg #[.int .i64 d1.Short, .int .i64 d1.Long, .int .i64 d1.On, .int .i64 d1.Off], .slice p3 samples2.length k4] w0 (Ret ([]) w0 S0 (ref22_Run_rd w0 ([]) r)) := by
 refine calls_of_wp Tryz.func13 rfl ?_
 have hs := Sl.enter #[.agg #[.int .i64 d1.Short, .int .i64 d1.Long, .int .i64 d1.On, .int .i64 d1.Off], .slice p3 samples2.length k4] 64 [(0, .agg #[.int .i64 d1.Short, .int .i64 d1.Long, .int .i64 d1.On, .int .i64 d1.Off]), (1, .slice p3 samples2.length k4)] rfl ⟨rfl, rfl, trivial⟩
 have hw := Wd.enter (E := []) hS (fun _ h => (by cases h))
 have hw := hw.addE h5
 delta ref22_Run at hsh
 refine sr ?_
 refine w_box (cs := [.int .i64 d1.Short, .int .i64 d1.Long, .int .i64 d1.On, .int .i64 d1.Off]) hs hw rfl rfl rfl trivial ?_
 intro b6 a w hs hw
 refine av hs rfl rfl fun a hs => ?_
 refine av hs rfl rfl fun a hs => ?_
 refine nl ?_
 refine wp_seq ?_
 refine wp_block ?_
 refine sr ?_
 refine sv hs (y_loadBA (hw.ownAt 0 rfl) rfl Tryz.isAgg24 Tryz.sizeOf24 rfl rfl) rfl fun a hs => ?_
 obtain ⟨rv25, h24, hsh⟩ := bind_t hsh
 refine st_callR hs (ref22_Valid_ok h24 hw.bdom) (do_call Tryz.call30 rfl) trivial rfl rfl ?_
 intro v29 Sv26 w a h27 h28 hs
 subst h28
 have hw := hw.callB h27
 refine sv hs (y_not rfl) rfl fun a hs => ?_
 refine av hs rfl rfl fun a hs => ?_
 refine nl ?_
 refine wp_cond_split (hs.ev rfl) (fun h41 => ?_) (fun h41 => ?_)
 ·have hsh := ite_t hsh h41
  refine sr ?_
  refine av hs rfl rfl fun a hs => ?_
  refine av hs rfl rfl fun a hs => ?_
  refine nl ?_
  have hsh := oi hsh
  subst hsh
  have hw := hw.nilRow Trigger 28
  refine wp_ret ?_
  refine blk_ret ?_
  refine then_ret ?_
  exact ret2 hs rfl (rv_tmp rfl) (rv_tmp rfl) (hw.ret ⟨none, 0, [], rfl, (hw.outs [0] (by decide) rfl), (hw.envAt 0 rfl)⟩)
 have hsh := ite_f hsh h41
 refine sr ?_
 refine mv hs rfl rfl fun a hs => ?_
 refine sv hs (y_len Tryz.runUnderlying22 rfl) rfl fun a hs => ?_
 refine sv hs (y_gtr rfl rfl) rfl fun a hs => ?_
 refine av hs rfl rfl fun a hs => ?_
 refine nl ?_
 refine wp_cond_split (hs.ev rfl) (fun h51 => ?_) (fun h51 => ?_)
 ·have hsh := ite_t hsh h51
  refine sr ?_
  refine av hs rfl rfl fun a hs => ?_
  refine av hs rfl rfl fun a hs => ?_
  refine nl ?_
  have hsh := oi hsh
  subst hsh
  have hw := hw.nilRow Trigger 28
  refine wp_ret ?_
  refine blk_ret ?_
  refine then_ret ?_
  exact ret2 hs rfl (rv_tmp rfl) (rv_tmp rfl) (hw.ret ⟨none, 0, [], rfl, (hw.outs [0] (by decide) rfl), (hw.envAt 0 rfl)⟩)
 have hsh := ite_f hsh h51
 refine sr ?_
 refine mv hs rfl rfl fun a hs => ?_
 obtain ⟨rv53, h52, hsh⟩ := bind_t hsh
 refine st_callR hs (ref05_InRange_ok h52 hw.bdom (hw.bE 0 rfl)) (do_call Tryz.call31 rfl) trivial rfl rfl ?_
 intro v57 Sv54 w a h55 h56 hs
 subst h56
 have hw := hw.callB h55
 refine sv hs (y_not rfl) rfl fun a hs => ?_
 refine av hs rfl rfl fun a hs => ?_
 refine nl ?_
 refine wp_cond_split (hs.ev rfl) (fun h60 => ?_) (fun h60 => ?_)
 ·have hsh := ite_t hsh h60
  refine sr ?_
  refine av hs rfl rfl fun a hs => ?_
  refine av hs rfl rfl fun a hs => ?_
  refine nl ?_
  have hsh := oi hsh
  subst hsh
  have hw := hw.nilRow Trigger 28
  refine wp_ret ?_
  refine blk_ret ?_
  refine then_ret ?_
  exact ret2 hs rfl (rv_tmp rfl) (rv_tmp rfl) (hw.ret ⟨none, 0, [], rfl, (hw.outs [0] (by decide) rfl), (hw.envAt 0 rfl)⟩)
 have hsh := ite_f hsh h60
 refine wp_skip ?_
 refine blk_normal ?_
 refine then_normal ?_
 refine sr ?_
 refine mv hs rfl rfl fun a hs => ?_
 obtain ⟨rv62, h61, hsh⟩ := bind_t hsh
 refine st_callR hs (ref22_absolute_ok h61 hw.dom (hw.envAt 0 rfl)) (do_call Tryz.call32 rfl) trivial rfl rfl ?_
 intro v70 Sv67 w a h68 h69 hs
 obtain ⟨p63, k64, c66, rfl, h71, h65⟩ := h69
 have hw := hw.callN h68 h71
 have hw := hw.addE (e := RowA c66 rv62) h65
 refine av hs rfl rfl fun a hs => ?_
 refine nl ?_
 refine sr ?_
 refine av hs rfl rfl fun a hs => ?_
 refine nl ?_
 refine sr ?_
 obtain ⟨rv73, h72, hsh⟩ := bind_t hsh
 refine st_callR hs (ref22_none_ok h72 hw.bdom) (do_call Tryz.call33 rfl) trivial rfl rfl ?_
 intro v77 Sv74 w a h75 h76 hs
 subst h76
 have hw := hw.callB h75
 refine w_alloc (cs := [.int .i64 0, .int .i64 0, .int .i64 0]) hs hw Tryz.zeroValue28 rfl rfl trivial ?_
 intro b79 a w hs hw
 refine w_store (m := 3) (cs' := [.int .i64 rv73.On, .int .i64 rv73.Off, .int .i64 rv73.Peak]) hs hw 0 rfl rfl rfl Tryz.sizeOf28 rfl rfl rfl rfl trivial ?_
 intro a w hs hw
 refine nl ?_
 refine wp_seq ?_
 refine sr ?_
 refine sv hs (y_fieldAddr (o' := 1) Tryz.runUnderlying24 rfl Tryz.sizeOf3 rfl rfl rfl) rfl fun a hs => ?_
 refine sv hs (y_loadB1 (hw.ownAt 2 rfl) rfl Tryz.isAgg3 rfl) rfl fun a hs => ?_
 refine sv hs (y_sub rfl rfl) rfl fun a hs => ?_
 obtain ⟨i81, h80, hsh⟩ := bind_t hsh
 refine sv hs (y_assignI rfl h80) rfl fun a hs => ?_
 refine nl ?_
 obtain ⟨e169, h254, hsh⟩ := bind_t hsh
 refine wp_join (fun a w => ∃ (c170 : List Value) (p171 : Option Addr) (k172 : Nat) (Sv173 : Nat → Prop), Sl 64 [(7, .slice p171 e169.2.2.2.length k172), (8, .pointer (some ⟨b79, 0, none⟩))] a ∧ Wd ⟨w0, S0, []⟩ Sv173 [.box b79 [.int .i64 e169.1, .int .i64 e169.2.1, .int .i64 e169.2.2.1] 28, .row p171 e169.2.2.2.length k172 c170 28 3] [RowA c170 e169.2.2.2] w) ?_ ?_
 ·refine wp_block ?_
  have hw := hw.nilRow Trigger 28
  refine wp_while (fun sv82 a w => ∃ (c137 : List Value) (p138 : Option Addr) (k139 : Nat) (Sv140 : Nat → Prop), Sl 64 [(2, .pointer (some ⟨b6, 0, none⟩)), (6, .slice p63 rv62.length k64), (7, .slice p138 sv82.2.2.2.1.length k139), (8, .pointer (some ⟨b79, 0, none⟩)), (9, .int .i64 sv82.2.2.2.2)] a ∧ Wd ⟨w0, S0, []⟩ Sv140 [.box b6 [.int .i64 d1.Short, .int .i64 d1.Long, .int .i64 d1.On, .int .i64 d1.Off] 24, .box b79 [.int .i64 sv82.1, .int .i64 sv82.2.1, .int .i64 sv82.2.2.1] 28, .row p63 rv62.length k64 c66 3 1, .row p138 sv82.2.2.2.1.length k139 c137 28 3] [RowA c66 rv62, RowA c137 sv82.2.2.2.1] w) (rv73.On, rv73.Off, rv73.Peak, ([] : List Trigger), i81) h254 ⟨[], none, 0, Sv67, (hs.wk rfl), (hw.ft [3, 1, 2, 0] [1, 0] (by decide) rfl rfl)⟩ ?_
  clear h254
  repeat clear hsh
  rintro sv82 a w tv167 ⟨c137, p138, k139, Sv140, hs, hw⟩ hsh hd166
  delta ref22_Run_l1 at hsh
  refine wp_seq ?_
  refine sr ?_
  refine mv hs rfl rfl fun a hs => ?_
  refine mv hs rfl rfl fun a hs => ?_
  refine sv hs (y_len Tryz.runUnderlying22 rfl) rfl fun a hs => ?_
  refine sv hs (y_lss rfl rfl) rfl fun a hs => ?_
  refine nl ?_
  refine wp_cond_split (hs.ev rfl) (fun h175 => ?_) (fun h175 => ?_)
  ·have hsh := ite_t hsh h175
   refine wp_skip ?_
   refine then_normal ?_
   refine wp_seq ?_
   refine wp_block ?_
   refine sr ?_
   refine sv hs (y_loadBA (hw.ownAt 0 rfl) rfl Tryz.isAgg24 Tryz.sizeOf24 rfl rfl) rfl fun a hs => ?_
   refine mv hs rfl rfl fun a hs => ?_
   refine mv hs rfl rfl fun a hs => ?_
   refine mv hs rfl rfl fun a hs => ?_
   refine sv hs (y_loadBA (hw.ownAt 1 rfl) rfl Tryz.isAgg28 Tryz.sizeOf28 rfl rfl) rfl fun a hs => ?_
   obtain ⟨rv199, h198, hsh⟩ := bind_t hsh
   refine st_callR hs (ref22_step_ok h198 hw.bdom (hw.bRow 2 rfl 0 rfl)) (do_call Tryz.call34 rfl) trivial rfl rfl ?_
   intro v203 Sv200 w a h201 h202 hs
   subst h202
   have hw := hw.callB h201
   refine mv hs rfl rfl fun a hs => ?_
   refine sv hs (y_extract rfl rfl) rfl fun a hs => ?_
   refine sv hs (y_extract rfl rfl) rfl fun a hs => ?_
   refine sv hs (y_extract rfl rfl) rfl fun a hs => ?_
   refine w_alloc (cs := [.int .i64 0, .int .i64 0, .int .i64 0]) hs hw Tryz.zeroValue28 rfl rfl trivial ?_
   intro b205 a w hs hw
   refine w_alloc (cs := [.int .i64 0, .int .i64 0, .int .i64 0]) hs hw Tryz.zeroValue28 rfl rfl trivial ?_
   intro b206 a w hs hw
   refine w_store (m := 3) (cs' := [.int .i64 rv199.1.On, .int .i64 rv199.1.Off, .int .i64 rv199.1.Peak]) hs hw 1 rfl rfl rfl Tryz.sizeOf28 rfl rfl rfl rfl trivial ?_
   intro a w hs hw
   refine w_store (m := 3) (cs' := [.int .i64 rv199.2.1.On, .int .i64 rv199.2.1.Off, .int .i64 rv199.2.1.Peak]) hs hw 0 rfl rfl rfl Tryz.sizeOf28 rfl rfl rfl rfl trivial ?_
   intro a w hs hw
   refine av hs rfl rfl fun a hs => ?_
   refine nl ?_
   refine sr ?_
   refine sv hs (y_loadBA (hw.ownAt 1 rfl) rfl Tryz.isAgg28 Tryz.sizeOf28 rfl rfl) rfl fun a hs => ?_
   refine w_store (m := 3) (cs' := [.int .i64 rv199.1.On, .int .i64 rv199.1.Off, .int .i64 rv199.1.Peak]) hs hw 3 rfl rfl rfl Tryz.sizeOf28 rfl rfl rfl rfl trivial ?_
   intro a w hs hw
   refine nl ?_
   refine sr ?_
   refine mv hs rfl rfl fun a hs => ?_
   refine nl ?_
   refine wp_join (fun a w => ∃ (out219 : (List Trigger)) (c215 : List Value) (p216 : Option Addr) (k217 : Nat) (Sv218 : Nat → Prop), ref22_Run_j1 sv82 rv199 out219 = some tv167 ∧ Sl 64 [(2, .pointer (some ⟨b6, 0, none⟩)), (6, .slice p63 rv62.length k64), (7, .slice p216 out219.length k217), (8, .pointer (some ⟨b79, 0, none⟩)), (9, .int .i64 sv82.2.2.2.2)] a ∧ Wd ⟨w0, S0, []⟩ Sv218 [.box b6 [.int .i64 d1.Short, .int .i64 d1.Long, .int .i64 d1.On, .int .i64 d1.Off] 24, .box b79 [.int .i64 rv199.1.On, .int .i64 rv199.1.Off, .int .i64 rv199.1.Peak] 28, .row p63 rv62.length k64 c66 3 1, .row p216 out219.length k217 c215 28 3] [RowA c66 rv62, RowA c215 out219] w) ?_ ?_
   ·refine wp_cond_split (hs.ev rfl) (fun h222 => ?_) (fun h222 => ?_)
    ·have hsh := ite_t hsh h222
     refine wp_region_lit ?_
     refine mv hs rfl rfl fun a hs => ?_
     refine sv hs (y_loadBA (hw.ownAt 0 rfl) rfl Tryz.isAgg28 Tryz.sizeOf28 rfl rfl) rfl fun a hs => ?_
     refine w_litSlice (α := Trigger) (vs := [.agg #[.int .i64 rv199.2.1.On, .int .i64 rv199.2.1.Off, .int .i64 rv199.2.1.Peak]]) (cs := [.int .i64 rv199.2.1.On, .int .i64 rv199.2.1.Off, .int .i64 rv199.2.1.Peak]) (xs := ([rv199.2.1] : List Trigger)) hs hw El47 rfl rfl rfl rfl rfl rfl ⟨⟨_, _, _, rfl, rfl, rfl, rfl⟩, rfl⟩ rfl trivial rfl fun b224 a w hs hw => ?_
     obtain ⟨l226, h225, hsh⟩ := bind_t hsh
     refine w_appendR (α := Trigger) hs hw El47 6 rfl rfl rfl 2 rfl 0 rfl 0 rfl h225 rfl trivial ?_
     intro p227 k228 c229 a w hs hw
     refine av hs rfl rfl fun a hs => ?_
     refine nl ?_
     exact ⟨l226, c229, p227, k228, Sv140, hsh, (hs.wk rfl), (hw.ft [3, 4, 5, 6] [2, 0] (by decide) rfl rfl)⟩
    have hsh := ite_f hsh h222
    refine wp_skip ?_
    refine then_normal ?_
    exact ⟨sv82.2.2.2.1, c137, p138, k139, Sv140, hsh, (hs.wk rfl), (hw.ft [2, 3, 4, 5] [0, 1] (by decide) rfl rfl)⟩
   rintro a w ⟨out219, c215, p216, k217, Sv218, hsh, hs, hw⟩
   delta ref22_Run_j1 at hsh
   refine blk_normal ?_
   refine then_normal ?_
   refine wp_region_lit ?_
   refine mv hs rfl rfl fun a hs => ?_
   refine sv hs (y_add rfl rfl) rfl fun a hs => ?_
   obtain ⟨i221, h220, hsh⟩ := bind_t hsh
   refine sv hs (y_assignI rfl h220) rfl fun a hs => ?_
   refine nl ?_
   exact ⟨_, (Option.some.inj hsh).symm, c215, p216, k217, Sv218, (hs.wk rfl), (hw.ft [0, 1, 2, 3] [0, 1] (by decide) rfl rfl)⟩
  have hsh := ite_f hsh h175
  refine wp_exit ?_
  refine then_exit ?_
  refine then_exit ?_
  refine blk_exit ?_
  have hsh := oi hsh
  subst hsh
  have h230 := hd166 _ rfl
  subst h230
  refine then_normal ?_
  exact ⟨c137, p138, k139, Sv140, (hs.wk rfl), (hw.ft [1, 3] [1] (by decide) rfl rfl)⟩
 rintro a w ⟨c170, p171, k172, Sv173, hs, hw⟩
 refine then_normal ?_
 refine wp_seq ?_
 refine sr ?_
 refine sv hs (y_fieldAddr (o' := 0) Tryz.runUnderlying28 rfl Tryz.sizeOf3 rfl rfl rfl) rfl fun a hs => ?_
 refine sv hs (y_loadB1 (hw.ownAt 0 rfl) rfl Tryz.isAgg3 rfl) rfl fun a hs => ?_
 refine sv hs (y_geq rfl rfl) rfl fun a hs => ?_
 refine nl ?_
 refine wp_join (fun a w => ∃ (out243 : (List Trigger)) (c239 : List Value) (p240 : Option Addr) (k241 : Nat) (Sv242 : Nat → Prop), ref22_Run_j3 out243 = some r ∧ Sl 64 [(7, .slice p240 out243.length k241)] a ∧ Wd ⟨w0, S0, []⟩ Sv242 [.row p240 out243.length k241 c239 28 3] [RowA c239 out243] w) ?_ ?_
 ·refine wp_cond_split (hs.ev rfl) (fun h246 => ?_) (fun h246 => ?_)
  ·have hsh := ite_t hsh h246
   refine wp_region_lit ?_
   refine mv hs rfl rfl fun a hs => ?_
   refine sv hs (y_loadBA (hw.ownAt 0 rfl) rfl Tryz.isAgg28 Tryz.sizeOf28 rfl rfl) rfl fun a hs => ?_
   refine w_litSlice (α := Trigger) (vs := [.agg #[.int .i64 e169.1, .int .i64 e169.2.1, .int .i64 e169.2.2.1]]) (cs := [.int .i64 e169.1, .int .i64 e169.2.1, .int .i64 e169.2.2.1]) (xs := ([(⟨e169.1, e169.2.1, e169.2.2.1⟩ : Trigger)] : List Trigger)) hs hw El47 rfl rfl rfl rfl rfl rfl ⟨⟨_, _, _, rfl, rfl, rfl, rfl⟩, rfl⟩ rfl trivial rfl fun b248 a w hs hw => ?_
   obtain ⟨l250, h249, hsh⟩ := bind_t hsh
   refine w_appendR (α := Trigger) hs hw El47 2 rfl rfl rfl 1 rfl 0 rfl 0 rfl h249 rfl trivial ?_
   intro p251 k252 c253 a w hs hw
   refine av hs rfl rfl fun a hs => ?_
   refine nl ?_
   exact ⟨l250, c253, p251, k252, Sv173, hsh, (hs.wk rfl), (hw.ft [2] [0] (by decide) rfl rfl)⟩
  have hsh := ite_f hsh h246
  refine wp_skip ?_
  refine then_normal ?_
  exact ⟨e169.2.2.2, c170, p171, k172, Sv173, hsh, (hs.wk rfl), (hw.ft [1] [0] (by decide) rfl rfl)⟩
 rintro a w ⟨out243, c239, p240, k241, Sv242, hsh, hs, hw⟩
 delta ref22_Run_j3 at hsh
 refine then_normal ?_
 refine wp_seq ?_
 refine sr ?_
 refine mv hs rfl rfl fun a hs => ?_
 refine sv hs (y_len Tryz.runUnderlying47 rfl) rfl fun a hs => ?_
 refine sv hs (y_gtr rfl rfl) rfl fun a hs => ?_
 refine nl ?_
 refine wp_cond_split (hs.ev rfl) (fun h245 => ?_) (fun h245 => ?_)
 ·have hsh := ite_t hsh h245
  refine sr ?_
  refine av hs rfl rfl fun a hs => ?_
  refine av hs rfl rfl fun a hs => ?_
  refine nl ?_
  have hsh := oi hsh
  subst hsh
  have hw := hw.nilRow Trigger 28
  refine wp_ret ?_
  refine then_ret ?_
  exact ret2 hs rfl (rv_tmp rfl) (rv_tmp rfl) (hw.ret ⟨none, 0, [], rfl, (hw.outs [0] (by decide) rfl), (hw.envAt 0 rfl)⟩)
 have hsh := ite_f hsh h245
 refine wp_skip ?_
 refine then_normal ?_
 refine sr ?_
 refine mv hs rfl rfl fun a hs => ?_
 refine av hs rfl rfl fun a hs => ?_
 refine av hs rfl rfl fun a hs => ?_
 refine nl ?_
 have hsh := oi hsh
 subst hsh
 refine wp_ret ?_
 exact ret2 hs rfl (rv_tmp rfl) (rv_tmp rfl) (hw.ret ⟨p240, k241, c239, rfl, (hw.outs [0] (by decide) rfl), (hw.envAt 0 rfl)⟩)
abbrev ref23_Valid_rd (w0 : World) (X : List Nat) (r : Bool) : (Nat → Prop) → World → Value → Prop := fun S w v => v = .bool r
set_option maxHeartbeats 4000000 in
set_option maxRecDepth 100000 in
theorem ref23_Valid_ok {w0 : World} {S0 : Nat → Prop} {p1 : Picking} {r : Bool} (hsh : ref23_Valid p1 = some r) (hS : ∀ b, S0 b → b < w0.heap.size) : Calls Tryz.prog 15 #[.agg #[.int .i64 p1.Detector.Short, .int .i64 p1.Detector.Long, .int .i64 p1.Detector.On, .int .i64 p1.Detector.Off, .int .i64 p1.Back, .int .i64 p1.Level, .int .i64 p1.Floor]] w0 (Ret ([]) w0 S0 (ref23_Valid_rd w0 ([]) r)) := by
 refine calls_of_wp Tryz.func15 rfl ?_
 have hs := Sl.enter #[.agg #[.int .i64 p1.Detector.Short, .int .i64 p1.Detector.Long, .int .i64 p1.Detector.On, .int .i64 p1.Detector.Off, .int .i64 p1.Back, .int .i64 p1.Level, .int .i64 p1.Floor]] 21 [(0, .agg #[.int .i64 p1.Detector.Short, .int .i64 p1.Detector.Long, .int .i64 p1.Detector.On, .int .i64 p1.Detector.Off, .int .i64 p1.Back, .int .i64 p1.Level, .int .i64 p1.Floor])] rfl ⟨rfl, trivial⟩
 have hw := Wd.enter (E := []) hS (fun _ h => (by cases h))
 delta ref23_Valid at hsh
 refine sr ?_
 refine w_box (cs := [.int .i64 p1.Detector.Short, .int .i64 p1.Detector.Long, .int .i64 p1.Detector.On, .int .i64 p1.Detector.Off, .int .i64 p1.Back, .int .i64 p1.Level, .int .i64 p1.Floor]) hs hw rfl rfl rfl trivial ?_
 intro b2 a w hs hw
 refine av hs rfl rfl fun a hs => ?_
 refine nl ?_
 refine sr ?_
 refine sv hs (y_fieldAddr (o' := 0) Tryz.runUnderlying26 rfl Tryz.sizeOf24 rfl rfl rfl) rfl fun a hs => ?_
 refine sv hs (y_loadBA (hw.ownAt 0 rfl) rfl Tryz.isAgg24 Tryz.sizeOf24 rfl rfl) rfl fun a hs => ?_
 obtain ⟨rv4, h3, hsh⟩ := bind_t hsh
 refine st_callR hs (ref22_Valid_ok h3 hw.bdom) (do_call Tryz.call30 rfl) trivial rfl rfl ?_
 intro v8 Sv5 w a h6 h7 hs
 subst h7
 have hw := hw.callB h6
 refine mv hs rfl rfl fun a hs => ?_
 obtain ⟨c18, hc18, hsh⟩ := bind_t hsh
 refine wpl_join 4 (fun a w => ∃ (Sv19 : Nat → Prop), Sl 21 [(1, .pointer (some ⟨b2, 0, none⟩)), (10, .bool c18)] a ∧ Wd ⟨w0, S0, []⟩ Sv19 [.box b2 [.int .i64 p1.Detector.Short, .int .i64 p1.Detector.Long, .int .i64 p1.Detector.On, .int .i64 p1.Detector.Off, .int .i64 p1.Back, .int .i64 p1.Level, .int .i64 p1.Floor] 26] [] w) ?_ ?_
 ·rcases Bool.eq_false_or_eq_true rv4 with h17 | h17
  ·have hs := hs.fix 6 (.bool true) rfl (vb h17)
   have hsh := ite_t hc18 h17
   refine st_val hs (y_fieldAddr (o' := 4) Tryz.runUnderlying26 rfl Tryz.sizeOf3 rfl rfl rfl) ⟨_, rfl, rfl⟩ rfl rfl fun a hs => ?_
   refine st_val hs (y_loadB1 (hw.ownAt 0 rfl) rfl Tryz.isAgg3 rfl) ⟨_, rfl, rfl⟩ rfl rfl fun a hs => ?_
   obtain ⟨rv21, h20, hsh⟩ := bind_t hsh
   refine st_callR hs (ref01_In_ok h20 hw.bdom) (do_call Tryz.call37 rfl) ⟨_, rfl, rfl⟩ rfl rfl ?_
   intro v25 Sv22 w a h23 h24 hs
   subst h24
   have hw := hw.callB h23
   refine sv hs (y_pickT rfl rfl) rfl fun a hs => ?_
   refine wpList_nil ?_
   have hsh := oi hsh
   subst hsh
   refine then_normal ?_
   exact ⟨S0, (hs.wk rfl), (hw.ft [0] [] (by decide) rfl rfl)⟩
  have hs := hs.fix 6 (.bool false) rfl (vb h17)
  have hsh := ite_f hc18 h17
  refine st_skip hs rfl rfl rfl rfl rfl fun a hs => ?_
  refine st_skip hs rfl rfl rfl rfl rfl fun a hs => ?_
  refine st_skip hs rfl rfl rfl rfl rfl fun a hs => ?_
  refine sv hs (y_pickF rfl rfl) rfl fun a hs => ?_
  refine wpList_nil ?_
  have hsh := oi hsh
  subst hsh
  refine then_normal ?_
  exact ⟨S0, (hs.wk rfl), (hw.ft [0] [] (by decide) rfl rfl)⟩
 rintro a w ⟨Sv19, hs, hw⟩
 refine mv hs rfl rfl fun a hs => ?_
 obtain ⟨c35, hc35, hsh⟩ := bind_t hsh
 refine wpl_join 4 (fun a w => ∃ (Sv36 : Nat → Prop), Sl 21 [(1, .pointer (some ⟨b2, 0, none⟩)), (15, .bool c35)] a ∧ Wd ⟨w0, S0, []⟩ Sv36 [.box b2 [.int .i64 p1.Detector.Short, .int .i64 p1.Detector.Long, .int .i64 p1.Detector.On, .int .i64 p1.Detector.Off, .int .i64 p1.Back, .int .i64 p1.Level, .int .i64 p1.Floor] 26] [] w) ?_ ?_
 ·rcases Bool.eq_false_or_eq_true c18 with h34 | h34
  ·have hs := hs.fix 11 (.bool true) rfl (vb h34)
   have hsh := ite_t hc35 h34
   refine st_val hs (y_fieldAddr (o' := 5) Tryz.runUnderlying26 rfl Tryz.sizeOf3 rfl rfl rfl) ⟨_, rfl, rfl⟩ rfl rfl fun a hs => ?_
   refine st_val hs (y_loadB1 (hw.ownAt 0 rfl) rfl Tryz.isAgg3 rfl) ⟨_, rfl, rfl⟩ rfl rfl fun a hs => ?_
   obtain ⟨rv38, h37, hsh⟩ := bind_t hsh
   refine st_callR hs (ref01_In_ok h37 hw.bdom) (do_call Tryz.call37 rfl) ⟨_, rfl, rfl⟩ rfl rfl ?_
   intro v42 Sv39 w a h40 h41 hs
   subst h41
   have hw := hw.callB h40
   refine sv hs (y_pickT rfl rfl) rfl fun a hs => ?_
   refine wpList_nil ?_
   have hsh := oi hsh
   subst hsh
   refine then_normal ?_
   exact ⟨Sv19, (hs.wk rfl), (hw.ft [0] [] (by decide) rfl rfl)⟩
  have hs := hs.fix 11 (.bool false) rfl (vb h34)
  have hsh := ite_f hc35 h34
  refine st_skip hs rfl rfl rfl rfl rfl fun a hs => ?_
  refine st_skip hs rfl rfl rfl rfl rfl fun a hs => ?_
  refine st_skip hs rfl rfl rfl rfl rfl fun a hs => ?_
  refine sv hs (y_pickF rfl rfl) rfl fun a hs => ?_
  refine wpList_nil ?_
  have hsh := oi hsh
  subst hsh
  refine then_normal ?_
  exact ⟨Sv19, (hs.wk rfl), (hw.ft [0] [] (by decide) rfl rfl)⟩
 rintro a w ⟨Sv36, hs, hw⟩
 refine mv hs rfl rfl fun a hs => ?_
 obtain ⟨c52, hc52, hsh⟩ := bind_t hsh
 refine wpl_join 4 (fun a w => ∃ (Sv53 : Nat → Prop), Sl 21 [(20, .bool c52)] a ∧ Wd ⟨w0, S0, []⟩ Sv53 [] [] w) ?_ ?_
 ·rcases Bool.eq_false_or_eq_true c35 with h51 | h51
  ·have hs := hs.fix 16 (.bool true) rfl (vb h51)
   have hsh := ite_t hc52 h51
   refine st_val hs (y_fieldAddr (o' := 6) Tryz.runUnderlying26 rfl Tryz.sizeOf3 rfl rfl rfl) ⟨_, rfl, rfl⟩ rfl rfl fun a hs => ?_
   refine st_val hs (y_loadB1 (hw.ownAt 0 rfl) rfl Tryz.isAgg3 rfl) ⟨_, rfl, rfl⟩ rfl rfl fun a hs => ?_
   obtain ⟨rv55, h54, hsh⟩ := bind_t hsh
   refine st_callR hs (ref01_In_ok h54 hw.bdom) (do_call Tryz.call37 rfl) ⟨_, rfl, rfl⟩ rfl rfl ?_
   intro v59 Sv56 w a h57 h58 hs
   subst h58
   have hw := hw.callB h57
   refine sv hs (y_pickT rfl rfl) rfl fun a hs => ?_
   refine wpList_nil ?_
   have hsh := oi hsh
   subst hsh
   refine then_normal ?_
   exact ⟨Sv36, (hs.wk rfl), (hw.ft [] [] (by decide) rfl rfl)⟩
  have hs := hs.fix 16 (.bool false) rfl (vb h51)
  have hsh := ite_f hc52 h51
  refine st_skip hs rfl rfl rfl rfl rfl fun a hs => ?_
  refine st_skip hs rfl rfl rfl rfl rfl fun a hs => ?_
  refine st_skip hs rfl rfl rfl rfl rfl fun a hs => ?_
  refine sv hs (y_pickF rfl rfl) rfl fun a hs => ?_
  refine wpList_nil ?_
  have hsh := oi hsh
  subst hsh
  refine then_normal ?_
  exact ⟨Sv36, (hs.wk rfl), (hw.ft [] [] (by decide) rfl rfl)⟩
 rintro a w ⟨Sv53, hs, hw⟩
 refine av hs rfl rfl fun a hs => ?_
 refine nl ?_
 have hsh := oi hsh
 subst hsh
 refine wp_ret ?_
 exact ret1 hs rfl (rv_tmp rfl) (hw.ret rfl)
abbrev ref22_Ratio_rd (w0 : World) (X : List Nat) (r : (Int × Int × Int)) : (Nat → Prop) → World → Value → Prop := fun S w v => v = .tuple #[.int .i64 r.1, .int .i64 r.2.1, .int .i64 r.2.2]
set_option maxHeartbeats 4000000 in
set_option maxRecDepth 100000 in
theorem ref22_Ratio_ok {w0 : World} {S0 : Nat → Prop} {p3 : Option Addr} {k4 : Nat} {d1 : Detector} {samples2 : (List Int)} {i6 : Int} {r : (Int × Int × Int)} (hsh : ref22_Ratio d1 samples2 i6 = some r) (hS : ∀ b, S0 b → b < w0.heap.size) (h5 : (SlA p3 samples2.length k4 samples2).p S0 w0) : Calls Tryz.prog 40 #[.agg #[.int .i64 d1.Short, .int .i64 d1.Long, .int .i64 d1.On, .int .i64 d1.Off], .slice p3 samples2.length k4, .int .i64 i6] w0 (Ret ([]) w0 S0 (ref22_Ratio_rd w0 ([]) r)) := by
 refine calls_of_wp Tryz.func40 rfl ?_
 have hs := Sl.enter #[.agg #[.int .i64 d1.Short, .int .i64 d1.Long, .int .i64 d1.On, .int .i64 d1.Off], .slice p3 samples2.length k4, .int .i64 i6] 42 [(0, .agg #[.int .i64 d1.Short, .int .i64 d1.Long, .int .i64 d1.On, .int .i64 d1.Off]), (1, .slice p3 samples2.length k4), (2, .int .i64 i6)] rfl ⟨rfl, rfl, rfl, trivial⟩
 have hw := Wd.enter (E := []) hS (fun _ h => (by cases h))
 have hw := hw.addE h5
 delta ref22_Ratio at hsh
 refine sr ?_
 refine w_box (cs := [.int .i64 d1.Short, .int .i64 d1.Long, .int .i64 d1.On, .int .i64 d1.Off]) hs hw rfl rfl rfl trivial ?_
 intro b7 a w hs hw
 refine av hs rfl rfl fun a hs => ?_
 refine av hs rfl rfl fun a hs => ?_
 refine av hs rfl rfl fun a hs => ?_
 refine nl ?_
 refine wp_seq ?_
 refine wp_block ?_
 refine sr ?_
 refine sv hs (y_loadBA (hw.ownAt 0 rfl) rfl Tryz.isAgg24 Tryz.sizeOf24 rfl rfl) rfl fun a hs => ?_
 obtain ⟨rv43, h42, hsh⟩ := bind_t hsh
 refine st_callR hs (ref22_Valid_ok h42 hw.bdom) (do_call Tryz.call30 rfl) trivial rfl rfl ?_
 intro v47 Sv44 w a h45 h46 hs
 subst h46
 have hw := hw.callB h45
 refine sv hs (y_not rfl) rfl fun a hs => ?_
 refine av hs rfl rfl fun a hs => ?_
 refine nl ?_
 refine wp_cond_split (hs.ev rfl) (fun h76 => ?_) (fun h76 => ?_)
 ·have hsh := ite_t hsh h76
  refine sr ?_
  refine av hs rfl rfl fun a hs => ?_
  refine av hs rfl rfl fun a hs => ?_
  refine av hs rfl rfl fun a hs => ?_
  refine nl ?_
  have hsh := oi hsh
  subst hsh
  refine wp_ret ?_
  refine blk_ret ?_
  refine then_ret ?_
  exact ret3 hs rfl (rv_tmp rfl) (rv_tmp rfl) (rv_tmp rfl) (hw.ret rfl)
 have hsh := ite_f hsh h76
 refine sr ?_
 refine mv hs rfl rfl fun a hs => ?_
 refine sv hs (y_len Tryz.runUnderlying22 rfl) rfl fun a hs => ?_
 refine sv hs (y_gtr rfl rfl) rfl fun a hs => ?_
 refine av hs rfl rfl fun a hs => ?_
 refine nl ?_
 refine wp_cond_split (hs.ev rfl) (fun h103 => ?_) (fun h103 => ?_)
 ·have hsh := ite_t hsh h103
  refine sr ?_
  refine av hs rfl rfl fun a hs => ?_
  refine av hs rfl rfl fun a hs => ?_
  refine av hs rfl rfl fun a hs => ?_
  refine nl ?_
  have hsh := oi hsh
  subst hsh
  refine wp_ret ?_
  refine blk_ret ?_
  refine then_ret ?_
  exact ret3 hs rfl (rv_tmp rfl) (rv_tmp rfl) (rv_tmp rfl) (hw.ret rfl)
 have hsh := ite_f hsh h103
 refine sr ?_
 refine mv hs rfl rfl fun a hs => ?_
 obtain ⟨rv105, h104, hsh⟩ := bind_t hsh
 refine st_callR hs (ref05_InRange_ok h104 hw.bdom (hw.bE 0 rfl)) (do_call Tryz.call31 rfl) trivial rfl rfl ?_
 intro v109 Sv106 w a h107 h108 hs
 subst h108
 have hw := hw.callB h107
 refine sv hs (y_not rfl) rfl fun a hs => ?_
 refine mv hs rfl rfl fun a hs => ?_
 obtain ⟨c119, hc119, hsh⟩ := bind_t hsh
 refine wpl_join 10 (fun a w => ∃ (Sv120 : Nat → Prop), Sl 42 [(1, .slice p3 samples2.length k4), (2, .int .i64 i6), (3, .pointer (some ⟨b7, 0, none⟩)), (31, .bool c119)] a ∧ Wd ⟨w0, S0, []⟩ Sv120 [.box b7 [.int .i64 d1.Short, .int .i64 d1.Long, .int .i64 d1.On, .int .i64 d1.Off] 24] [SlA p3 samples2.length k4 samples2] w) ?_ ?_
 ·rcases Bool.eq_false_or_eq_true (!rv105) with h118 | h118
  ·have hs := hs.fix 21 (.bool true) rfl (vb h118)
   have hsh := ite_t hc119 h118
   refine st_skip hs rfl rfl rfl rfl rfl fun a hs => ?_
   refine st_skip hs rfl rfl rfl rfl rfl fun a hs => ?_
   refine st_skip hs rfl rfl rfl rfl rfl fun a hs => ?_
   refine st_skip hs rfl rfl rfl rfl rfl fun a hs => ?_
   refine st_skip hs rfl rfl rfl rfl rfl fun a hs => ?_
   refine st_skip hs rfl rfl rfl rfl rfl fun a hs => ?_
   refine st_skip hs rfl rfl rfl rfl rfl fun a hs => ?_
   refine st_skip hs rfl rfl rfl rfl rfl fun a hs => ?_
   refine st_skip hs rfl rfl rfl rfl rfl fun a hs => ?_
   refine sv hs (y_pickT rfl rfl) rfl fun a hs => ?_
   refine wpList_nil ?_
   have hsh := oi hsh
   subst hsh
   refine then_normal ?_
   exact ⟨S0, (hs.wk rfl), (hw.ft [0] [0] (by decide) rfl rfl)⟩
  have hs := hs.fix 21 (.bool false) rfl (vb h118)
  have hsh := ite_f hc119 h118
  refine st_val hs (y_move rfl) ⟨_, rfl, rfl⟩ rfl rfl fun a hs => ?_
  refine st_val hs (y_fieldAddr (o' := 1) Tryz.runUnderlying24 rfl Tryz.sizeOf3 rfl rfl rfl) ⟨_, rfl, rfl⟩ rfl rfl fun a hs => ?_
  refine st_val hs (y_loadB1 (hw.ownAt 0 rfl) rfl Tryz.isAgg3 rfl) ⟨_, rfl, rfl⟩ rfl rfl fun a hs => ?_
  refine st_val hs (y_sub rfl rfl) ⟨_, rfl, rfl⟩ rfl rfl fun a hs => ?_
  refine st_val hs (y_move rfl) ⟨_, rfl, rfl⟩ rfl rfl fun a hs => ?_
  refine st_val hs (y_len Tryz.runUnderlying22 rfl) ⟨_, rfl, rfl⟩ rfl rfl fun a hs => ?_
  refine st_val hs (y_sub rfl rfl) ⟨_, rfl, rfl⟩ rfl rfl fun a hs => ?_
  obtain ⟨rv122, h121, hsh⟩ := bind_t hsh
  refine st_callR hs (ref01_In_ok h121 hw.bdom) (do_call Tryz.call37 rfl) ⟨_, rfl, rfl⟩ rfl rfl ?_
  intro v126 Sv123 w a h124 h125 hs
  subst h125
  have hw := hw.callB h124
  refine st_val hs (y_not rfl) ⟨_, rfl, rfl⟩ rfl rfl fun a hs => ?_
  refine sv hs (y_pickF rfl rfl) rfl fun a hs => ?_
  refine wpList_nil ?_
  have hsh := oi hsh
  subst hsh
  refine then_normal ?_
  exact ⟨S0, (hs.wk rfl), (hw.ft [0] [0] (by decide) rfl rfl)⟩
 rintro a w ⟨Sv120, hs, hw⟩
 refine av hs rfl rfl fun a hs => ?_
 refine nl ?_
 refine wp_cond_split (hs.ev rfl) (fun h129 => ?_) (fun h129 => ?_)
 ·have hsh := ite_t hsh h129
  refine sr ?_
  refine av hs rfl rfl fun a hs => ?_
  refine av hs rfl rfl fun a hs => ?_
  refine av hs rfl rfl fun a hs => ?_
  refine nl ?_
  have hsh := oi hsh
  subst hsh
  refine wp_ret ?_
  refine blk_ret ?_
  refine then_ret ?_
  exact ret3 hs rfl (rv_tmp rfl) (rv_tmp rfl) (rv_tmp rfl) (hw.ret rfl)
 have hsh := ite_f hsh h129
 refine wp_skip ?_
 refine blk_normal ?_
 refine then_normal ?_
 refine wp_seq ?_
 obtain ⟨rv131, h130, hsh⟩ := bind_t hsh
 obtain ⟨rv137, h136, hsh⟩ := bind_t hsh
 refine wp_only (fun a w => ∃ (Sv138 : Nat → Prop), Sl 42 [(6, .int .i64 rv137.1), (7, .int .i64 rv137.2)] a ∧ Wd ⟨w0, S0, []⟩ Sv138 [] [] w) ?_ ?_
 ·refine h_b (C := Cls [.box b7 [.int .i64 d1.Short, .int .i64 d1.Long, .int .i64 d1.On, .int .i64 d1.Off] 24] []) (by kernel_rfl) rfl (hw.drew.cs [0] [] rfl rfl) fun hC => ?_
  have hw := hw.drew
  refine gv hs 0 rfl rfl hC (fun w hC => y_loadBA (hC.ownAt 0 rfl) rfl Tryz.isAgg24 Tryz.sizeOf24 rfl rfl) fun a hs => ?_
  refine gm hs 1 rfl rfl rfl hC fun a hs => ?_
  refine gm hs 3 rfl rfl rfl hC fun a hs => ?_
  refine ho 2 rfl ?_
  refine st_callR hs (ref22_absolute_ok h130 hw.dom (hw.envAt 0 rfl)) (do_call Tryz.call32 rfl) trivial rfl rfl ?_
  intro v142 Sv139 w a h140 h141 hs
  obtain ⟨p132, k133, c135, rfl, h143, h134⟩ := h141
  have hw := hw.callN h140 h143
  have hw := hw.addE (e := RowA c135 rv131) h134
  refine h_nx (hw.cs [1] [] rfl rfl) fun hC => ?_
  refine h_st (C' := Cls [.box b7 [.int .i64 d1.Short, .int .i64 d1.Long, .int .i64 d1.On, .int .i64 d1.Off] 24, .row p132 rv131.length k133 c135 3 1] []) (fun _ h => by exact h.sub [0] (Sel.of rfl) (AllIn.of [] rfl)) (hw.cs [1, 0] [] rfl rfl) fun hC => ?_
  refine ho 4 rfl ?_
  refine st_callR hs (ref22_sums_ok h136 hw.bdom (hw.bRow 0 rfl 0 rfl)) (do_call Tryz.call58 rfl) trivial rfl rfl ?_
  intro v147 Sv144 w a h145 h146 hs
  subst h146
  have hw := hw.callB h145
  refine h_nx (hw.cs [1, 0] [] rfl rfl) fun hC => ?_
  refine gm hs 5 rfl rfl rfl hC fun a hs => ?_
  refine gv hs 6 rfl rfl hC (fun w hC => y_extract rfl rfl) fun a hs => ?_
  refine gv hs 7 rfl rfl hC (fun w hC => y_extract rfl rfl) fun a hs => ?_
  refine gv hs 8 rfl rfl hC (fun w hC => y_assign rfl) fun a hs => ?_
  refine gv hs 9 rfl rfl hC (fun w hC => y_assign rfl) fun a hs => ?_
  refine h_done (by kernel_rfl) ?_
  exact ⟨Sv139, (hs.wk rfl), (hw.ft [] [] (by decide) rfl rfl)⟩
 rintro a w ⟨Sv138, hs, hw⟩
 refine then_normal ?_
 refine sr ?_
 refine mv hs rfl rfl fun a hs => ?_
 refine mv hs rfl rfl fun a hs => ?_
 refine av hs rfl rfl fun a hs => ?_
 refine av hs rfl rfl fun a hs => ?_
 refine av hs rfl rfl fun a hs => ?_
 refine nl ?_
 have hsh := oi hsh
 subst hsh
 refine wp_ret ?_
 exact ret3 hs rfl (rv_tmp rfl) (rv_tmp rfl) (rv_tmp rfl) (hw.ret rfl)
abbrev ref23_Onset_rd (w0 : World) (X : List Nat) (r : (Int × Int)) : (Nat → Prop) → World → Value → Prop := fun S w v => v = .tuple #[.int .i64 r.1, .int .i64 r.2]
set_option maxHeartbeats 4000000 in
set_option maxRecDepth 100000 in
theorem ref23_Onset_ok {w0 : World} {S0 : Nat → Prop} {p3 : Option Addr} {k4 : Nat} {p1 : Picking} {samples2 : (List Int)} {t6 : Trigger} {r : (Int × Int)} (hsh : ref23_Onset p1 samples2 t6 = some r) (hS : ∀ b, S0 b → b < w0.heap.size) (h5 : (SlA p3 samples2.length k4 samples2).p S0 w0) : Calls Tryz.prog 17 #[.agg #[.int .i64 p1.Detector.Short, .int .i64 p1.Detector.Long, .int .i64 p1.Detector.On, .int .i64 p1.Detector.Off, .int .i64 p1.Back, .int .i64 p1.Level, .int .i64 p1.Floor], .slice p3 samples2.length k4, .agg #[.int .i64 t6.On, .int .i64 t6.Off, .int .i64 t6.Peak]] w0 (Ret ([]) w0 S0 (ref23_Onset_rd w0 ([]) r)) := by
 refine calls_of_wp Tryz.func17 rfl ?_
 have hs := Sl.enter #[.agg #[.int .i64 p1.Detector.Short, .int .i64 p1.Detector.Long, .int .i64 p1.Detector.On, .int .i64 p1.Detector.Off, .int .i64 p1.Back, .int .i64 p1.Level, .int .i64 p1.Floor], .slice p3 samples2.length k4, .agg #[.int .i64 t6.On, .int .i64 t6.Off, .int .i64 t6.Peak]] 64 [(0, .agg #[.int .i64 p1.Detector.Short, .int .i64 p1.Detector.Long, .int .i64 p1.Detector.On, .int .i64 p1.Detector.Off, .int .i64 p1.Back, .int .i64 p1.Level, .int .i64 p1.Floor]), (1, .slice p3 samples2.length k4), (2, .agg #[.int .i64 t6.On, .int .i64 t6.Off, .int .i64 t6.Peak])] rfl ⟨rfl, rfl, rfl, trivial⟩
 have hw := Wd.enter (E := []) hS (fun _ h => (by cases h))
 have hw := hw.addE h5
 delta ref23_Onset at hsh
 refine sr ?_
 refine w_box (cs := [.int .i64 p1.Detector.Short, .int .i64 p1.Detector.Long, .int .i64 p1.Detector.On, .int .i64 p1.Detector.Off, .int .i64 p1.Back, .int .i64 p1.Level, .int .i64 p1.Floor]) hs hw rfl rfl rfl trivial ?_
 intro b7 a w hs hw
 refine w_box (cs := [.int .i64 t6.On, .int .i64 t6.Off, .int .i64 t6.Peak]) hs hw rfl rfl rfl trivial ?_
 intro b8 a w hs hw
 refine av hs rfl rfl fun a hs => ?_
 refine av hs rfl rfl fun a hs => ?_
 refine nl ?_
 refine wp_seq ?_
 refine sr ?_
 refine sv hs (y_loadBA (hw.ownAt 1 rfl) rfl Tryz.isAgg26 Tryz.sizeOf26 rfl rfl) rfl fun a hs => ?_
 obtain ⟨rv10, h9, hsh⟩ := bind_t hsh
 refine st_callR hs (ref23_Valid_ok h9 hw.bdom) (do_call Tryz.call15 rfl) trivial rfl rfl ?_
 intro v14 Sv11 w a h12 h13 hs
 subst h13
 have hw := hw.callB h12
 refine sv hs (y_not rfl) rfl fun a hs => ?_
 refine nl ?_
 refine wp_cond_split (hs.ev rfl) (fun h17 => ?_) (fun h17 => ?_)
 ·have hsh := ite_t hsh h17
  refine sr ?_
  refine av hs rfl rfl fun a hs => ?_
  refine av hs rfl rfl fun a hs => ?_
  refine nl ?_
  have hsh := oi hsh
  subst hsh
  refine wp_ret ?_
  refine then_ret ?_
  exact ret2 hs rfl (rv_tmp rfl) (rv_tmp rfl) (hw.ret rfl)
 have hsh := ite_f hsh h17
 refine wp_skip ?_
 refine then_normal ?_
 refine sr ?_
 refine sv hs (y_fieldAddr (o' := 0) Tryz.runUnderlying26 rfl Tryz.sizeOf24 rfl rfl rfl) rfl fun a hs => ?_
 refine sv hs (y_loadBA (hw.ownAt 1 rfl) rfl Tryz.isAgg24 Tryz.sizeOf24 rfl rfl) rfl fun a hs => ?_
 refine mv hs rfl rfl fun a hs => ?_
 refine sv hs (y_fieldAddr (o' := 0) Tryz.runUnderlying28 rfl Tryz.sizeOf3 rfl rfl rfl) rfl fun a hs => ?_
 refine sv hs (y_loadB1 (hw.ownAt 0 rfl) rfl Tryz.isAgg3 rfl) rfl fun a hs => ?_
 obtain ⟨rv19, h18, hsh⟩ := bind_t hsh
 refine st_callR hs (ref22_Ratio_ok h18 hw.bdom (hw.bE 0 rfl)) (do_call Tryz.call40 rfl) trivial rfl rfl ?_
 intro v23 Sv20 w a h21 h22 hs
 subst h22
 have hw := hw.callB h21
 refine mv hs rfl rfl fun a hs => ?_
 refine sv hs (y_extract rfl rfl) rfl fun a hs => ?_
 refine sv hs (y_extract rfl rfl) rfl fun a hs => ?_
 refine sv hs (y_extract rfl rfl) rfl fun a hs => ?_
 refine av hs rfl rfl fun a hs => ?_
 refine av hs rfl rfl fun a hs => ?_
 refine av hs rfl rfl fun a hs => ?_
 refine nl ?_
 refine wp_seq ?_
 refine sr ?_
 refine mv hs rfl rfl fun a hs => ?_
 refine sv hs (y_neq rfl rfl) rfl fun a hs => ?_
 refine nl ?_
 refine wp_cond_split (hs.ev rfl) (fun h26 => ?_) (fun h26 => ?_)
 ·have hsh := ite_t hsh h26
  refine sr ?_
  refine mv hs rfl rfl fun a hs => ?_
  refine av hs rfl rfl fun a hs => ?_
  refine av hs rfl rfl fun a hs => ?_
  refine nl ?_
  have hsh := oi hsh
  subst hsh
  refine wp_ret ?_
  refine then_ret ?_
  exact ret2 hs rfl (rv_tmp rfl) (rv_tmp rfl) (hw.ret rfl)
 have hsh := ite_f hsh h26
 refine wp_skip ?_
 refine then_normal ?_
 refine sr ?_
 refine sv hs (y_fieldAddr (o' := 0) Tryz.runUnderlying28 rfl Tryz.sizeOf3 rfl rfl rfl) rfl fun a hs => ?_
 refine sv hs (y_loadB1 (hw.ownAt 0 rfl) rfl Tryz.isAgg3 rfl) rfl fun a hs => ?_
 refine av hs rfl rfl fun a hs => ?_
 refine nl ?_
 refine wp_seq ?_
 refine sr ?_
 refine sv hs (y_fieldAddr (o' := 0) Tryz.runUnderlying28 rfl Tryz.sizeOf3 rfl rfl rfl) rfl fun a hs => ?_
 refine sv hs (y_loadB1 (hw.ownAt 0 rfl) rfl Tryz.isAgg3 rfl) rfl fun a hs => ?_
 refine sv hs (y_sub rfl rfl) rfl fun a hs => ?_
 obtain ⟨i28, h27, hsh⟩ := bind_t hsh
 refine sv hs (y_assignI rfl h27) rfl fun a hs => ?_
 refine nl ?_
 obtain ⟨e101, h151, hsh⟩ := bind_t hsh
 refine wp_join (fun a w => ∃ (Sv102 : Nat → Prop), Sl 64 [(11, .int .i64 e101)] a ∧ Wd ⟨w0, S0, []⟩ Sv102 [] [] w) ?_ ?_
 ·refine wp_block ?_
  refine wp_while (fun sv29 a w => ∃ (Sv75 : Nat → Prop), Sl 64 [(1, .slice p3 samples2.length k4), (3, .pointer (some ⟨b7, 0, none⟩)), (5, .pointer (some ⟨b8, 0, none⟩)), (9, .int .i64 rv19.2.1), (11, .int .i64 sv29.1), (12, .int .i64 sv29.2)] a ∧ Wd ⟨w0, S0, []⟩ Sv75 [.box b7 [.int .i64 p1.Detector.Short, .int .i64 p1.Detector.Long, .int .i64 p1.Detector.On, .int .i64 p1.Detector.Off, .int .i64 p1.Back, .int .i64 p1.Level, .int .i64 p1.Floor] 26, .box b8 [.int .i64 t6.On, .int .i64 t6.Off, .int .i64 t6.Peak] 28] [SlA p3 samples2.length k4 samples2] w) (t6.On, i28) h151 ⟨S0, (hs.wk rfl), (hw.ft [1, 0] [0] (by decide) rfl rfl)⟩ ?_
  clear h151
  repeat clear hsh
  rintro sv29 a w tv99 ⟨Sv75, hs, hw⟩ hsh hd98
  delta ref23_Onset_l1 at hsh
  refine wp_seq ?_
  refine sr ?_
  refine mv hs rfl rfl fun a hs => ?_
  refine sv hs (y_geq rfl rfl) rfl fun a hs => ?_
  refine mv hs rfl rfl fun a hs => ?_
  refine wpl_join 8 (fun a w1 => w = w1 ∧ Sl 64 [(1, .slice p3 samples2.length k4), (3, .pointer (some ⟨b7, 0, none⟩)), (5, .pointer (some ⟨b8, 0, none⟩)), (9, .int .i64 rv19.2.1), (11, .int .i64 sv29.1), (12, .int .i64 sv29.2), (44, .bool ((decide (0 ≤ sv29.2)) && (decide ((w64 (t6.On - p1.Back)) ≤ sv29.2))))] a) ?_ ?_
  ·rcases Bool.eq_false_or_eq_true (decide (0 ≤ sv29.2)) with h103 | h103
   ·have hs := hs.fix 36 (.bool true) rfl (vb h103)
    refine st_val hs (y_move rfl) ⟨_, rfl, rfl⟩ rfl rfl fun a hs => ?_
    refine st_val hs (y_fieldAddr (o' := 0) Tryz.runUnderlying28 rfl Tryz.sizeOf3 rfl rfl rfl) ⟨_, rfl, rfl⟩ rfl rfl fun a hs => ?_
    refine st_val hs (y_loadB1 (hw.ownAt 1 rfl) rfl Tryz.isAgg3 rfl) ⟨_, rfl, rfl⟩ rfl rfl fun a hs => ?_
    refine st_val hs (y_fieldAddr (o' := 4) Tryz.runUnderlying26 rfl Tryz.sizeOf3 rfl rfl rfl) ⟨_, rfl, rfl⟩ rfl rfl fun a hs => ?_
    refine st_val hs (y_loadB1 (hw.ownAt 0 rfl) rfl Tryz.isAgg3 rfl) ⟨_, rfl, rfl⟩ rfl rfl fun a hs => ?_
    refine st_val hs (y_sub rfl rfl) ⟨_, rfl, rfl⟩ rfl rfl fun a hs => ?_
    refine st_val hs (y_geq rfl rfl) ⟨_, rfl, rfl⟩ rfl rfl fun a hs => ?_
    refine sv hs (y_pickT rfl rfl) rfl fun a hs => ?_
    refine nl ?_
    exact ⟨rfl, (hs.fix 44 (.bool ((decide (0 ≤ sv29.2)) && (decide ((w64 (t6.On - p1.Back)) ≤ sv29.2)))) rfl (and_t h103)).weaken _ ⟨rfl, rfl, rfl, rfl, rfl, rfl, rfl, trivial⟩⟩
   have hs := hs.fix 36 (.bool false) rfl (vb h103)
   refine st_skip hs rfl rfl rfl rfl rfl fun a hs => ?_
   refine st_skip hs rfl rfl rfl rfl rfl fun a hs => ?_
   refine st_skip hs rfl rfl rfl rfl rfl fun a hs => ?_
   refine st_skip hs rfl rfl rfl rfl rfl fun a hs => ?_
   refine st_skip hs rfl rfl rfl rfl rfl fun a hs => ?_
   refine st_skip hs rfl rfl rfl rfl rfl fun a hs => ?_
   refine st_skip hs rfl rfl rfl rfl rfl fun a hs => ?_
   refine sv hs (y_pickF rfl rfl) rfl fun a hs => ?_
   refine nl ?_
   exact ⟨rfl, (hs.fix 44 (.bool ((decide (0 ≤ sv29.2)) && (decide ((w64 (t6.On - p1.Back)) ≤ sv29.2)))) rfl (and_f h103)).weaken _ ⟨rfl, rfl, rfl, rfl, rfl, rfl, rfl, trivial⟩⟩
  rintro a w1 ⟨h150, hs⟩
  subst h150
  refine nl ?_
  refine wp_cond_split (hs.ev rfl) (fun h105 => ?_) (fun h105 => ?_)
  ·have hsh := ite_t hsh h105
   refine wp_skip ?_
   refine then_normal ?_
   refine wp_seq ?_
   refine wp_block ?_
   refine wp_seq ?_
   refine wp_seq ?_
   obtain ⟨x125, h123, hsh⟩ := bind_t hsh
   obtain ⟨b131, o132, q129, c130, h133, h126, h127, h128, h124⟩ := hw.elemV 0 rfl h123
   have hsv134 := hs
   have hwv135 := hw
   subst h133
   have hs := hsv134
   have hw := hwv135
   obtain ⟨_, rfl, rfl⟩ := h124
   have hw := hw.addE h128
   obtain ⟨rv137, h136, hsh⟩ := bind_t hsh
   refine wp_only (fun a w => ∃ (Sv138 : Nat → Prop), Sl 64 [(1, .slice (some ⟨b131, o132, none⟩) samples2.length k4), (3, .pointer (some ⟨b7, 0, none⟩)), (5, .pointer (some ⟨b8, 0, none⟩)), (9, .int .i64 rv19.2.1), (11, .int .i64 sv29.1), (12, .int .i64 sv29.2), (61, .bool (decide ((w64 ((w64 (100 * p1.Detector.Long)) * rv137)) ≤ (w64 (p1.Level * rv19.2.1)))))] a ∧ Wd ⟨w0, S0, []⟩ Sv138 [.box b7 [.int .i64 p1.Detector.Short, .int .i64 p1.Detector.Long, .int .i64 p1.Detector.On, .int .i64 p1.Detector.Off, .int .i64 p1.Back, .int .i64 p1.Level, .int .i64 p1.Floor] 26, .box b8 [.int .i64 t6.On, .int .i64 t6.Off, .int .i64 t6.Peak] 28] [SlA (some ⟨b131, o132, none⟩) samples2.length k4 samples2] w) ?_ ?_
   ·refine h_b (C := Cls [.box b7 [.int .i64 p1.Detector.Short, .int .i64 p1.Detector.Long, .int .i64 p1.Detector.On, .int .i64 p1.Detector.Off, .int .i64 p1.Back, .int .i64 p1.Level, .int .i64 p1.Floor] 26, .box b8 [.int .i64 t6.On, .int .i64 t6.Off, .int .i64 t6.Peak] 28] [CeA b131 q129 [.int .i64 x125]]) (by kernel_rfl) rfl (hw.drew.cs [0, 1] [0] rfl rfl) fun hC => ?_
    have hw := hw.drew
    refine gv hs 0 rfl rfl hC (fun w hC => y_fieldAddr (o' := 0) Tryz.runUnderlying26 rfl Tryz.sizeOf24 rfl rfl rfl) fun a hs => ?_
    refine gv hs 1 rfl rfl hC (fun w hC => y_fieldAddr (o' := 1) Tryz.runUnderlying24 rfl Tryz.sizeOf3 rfl rfl rfl) fun a hs => ?_
    refine gv hs 2 rfl rfl hC (fun w hC => y_loadB1 (hC.ownAt 0 rfl) rfl Tryz.isAgg3 rfl) fun a hs => ?_
    refine gv hs 3 rfl rfl hC (fun w hC => y_mul rfl rfl) fun a hs => ?_
    refine gm hs 4 rfl rfl rfl hC fun a hs => ?_
    refine gm hs 5 rfl rfl rfl hC fun a hs => ?_
    refine gv hs 6 rfl rfl hC (fun w hC => y_indexAt Tryz.runUnderlying22 Tryz.sizeOf3 rfl rfl h126.1 h126.2 h127) fun a hs => ?_
    refine gv hs 7 rfl rfl hC (fun w hC => y_loadE1 (j := 0) (hC.ceAt 0 rfl) rfl Tryz.isAgg3 rfl) fun a hs => ?_
    refine gv hs 10 rfl rfl hC (fun w hC => y_fieldAddr (o' := 5) Tryz.runUnderlying26 rfl Tryz.sizeOf3 rfl rfl rfl) fun a hs => ?_
    refine gv hs 11 rfl rfl hC (fun w hC => y_loadB1 (hC.ownAt 0 rfl) rfl Tryz.isAgg3 rfl) fun a hs => ?_
    refine gm hs 12 rfl rfl rfl hC fun a hs => ?_
    refine gv hs 13 rfl rfl hC (fun w hC => y_mul rfl rfl) fun a hs => ?_
    refine ho 8 rfl ?_
    refine st_callR hs (ref22_Abs_ok h136 hw.bdom) (do_call Tryz.call41 rfl) trivial rfl rfl ?_
    intro v142 Sv139 w a h140 h141 hs
    subst h141
    have hw := hw.callB h140
    refine h_nx (hw.cs [0, 1] [0] rfl rfl) fun hC => ?_
    refine gv hs 9 rfl rfl hC (fun w hC => y_mul rfl rfl) fun a hs => ?_
    refine gv hs 14 rfl rfl hC (fun w hC => y_leq rfl rfl) fun a hs => ?_
    refine h_done (by kernel_rfl) ?_
    exact ⟨Sv75, (hs.wk rfl), (hw.ft [0, 1] [1] (by decide) rfl rfl)⟩
   rintro a w ⟨Sv138, hs, hw⟩
   refine then_normal ?_
   refine wp_cond_split (hs.ev rfl) (fun h145 => ?_) (fun h145 => ?_)
   ·have hsh := ite_t hsh h145
    refine wp_exit ?_
    refine then_exit ?_
    refine blk_other rfl ?_
    refine then_exit ?_
    refine then_exit ?_
    refine blk_exit ?_
    have hsh := oi hsh
    subst hsh
    have h146 := hd98 _ rfl
    subst h146
    refine then_normal ?_
    exact ⟨Sv138, (hs.wk rfl), (hw.ft [] [] (by decide) rfl rfl)⟩
   have hsh := ite_f hsh h145
   refine wp_skip ?_
   refine then_normal ?_
   refine wp_region_lit ?_
   refine mv hs rfl rfl fun a hs => ?_
   refine av hs rfl rfl fun a hs => ?_
   refine wpList_nil ?_
   refine blk_normal ?_
   refine then_normal ?_
   refine wp_region_lit ?_
   refine mv hs rfl rfl fun a hs => ?_
   refine sv hs (y_sub rfl rfl) rfl fun a hs => ?_
   obtain ⟨i148, h147, hsh⟩ := bind_t hsh
   refine sv hs (y_assignI rfl h147) rfl fun a hs => ?_
   refine nl ?_
   exact ⟨_, (Option.some.inj hsh).symm, Sv138, (hs.wk rfl), (hw.ft [0, 1] [0] (by decide) rfl rfl)⟩
  have hsh := ite_f hsh h105
  refine wp_exit ?_
  refine then_exit ?_
  refine then_exit ?_
  refine blk_exit ?_
  have hsh := oi hsh
  subst hsh
  have h149 := hd98 _ rfl
  subst h149
  refine then_normal ?_
  exact ⟨Sv75, (hs.wk rfl), (hw.ft [] [] (by decide) rfl rfl)⟩
 rintro a w ⟨Sv102, hs, hw⟩
 refine then_normal ?_
 refine sr ?_
 refine mv hs rfl rfl fun a hs => ?_
 refine av hs rfl rfl fun a hs => ?_
 refine av hs rfl rfl fun a hs => ?_
 refine nl ?_
 have hsh := oi hsh
 subst hsh
 refine wp_ret ?_
 exact ret2 hs rfl (rv_tmp rfl) (rv_tmp rfl) (hw.ret rfl)
abbrev slices_Clone_Lapi_Pick_api_Pick_rd (w0 : World) (X : List Nat) (r : (List Pick)) : (Nat → Prop) → World → Value → Prop := fun S w v => ∃ (p0_0 : Option Addr) (k0_0 : Nat) (c0_0 : List Value), v = .slice p0_0 r.length k0_0 ∧ Outs X w0 S w [.row p0_0 r.length k0_0 c0_0 66 9] ∧ (RowA c0_0 r).p S w
set_option maxHeartbeats 4000000 in
set_option maxRecDepth 100000 in
theorem slices_Clone_Lapi_Pick_api_Pick_ok {w0 : World} {S0 : Nat → Prop} {p2 : Option Addr} {k3 : Nat} {s1 : (List Pick)} {r : (List Pick)} (hsh : slices_Clone_Lapi_Pick_api_Pick s1 = some r) (hS : ∀ b, S0 b → b < w0.heap.size) (h4 : (SlA p2 s1.length k3 s1).p S0 w0) : Calls Tryz.prog 49 #[.slice p2 s1.length k3] w0 (Ret ([]) w0 S0 (slices_Clone_Lapi_Pick_api_Pick_rd w0 ([]) r)) := by
 refine calls_of_wp Tryz.func49 rfl ?_
 have hs := Sl.enter #[.slice p2 s1.length k3] 8 [(0, .slice p2 s1.length k3)] rfl ⟨rfl, trivial⟩
 have hw := Wd.enter (E := []) hS (fun _ h => (by cases h))
 have hw := hw.addE h4
 delta slices_Clone_Lapi_Pick_api_Pick at hsh
 refine sr ?_
 refine av hs rfl rfl fun a hs => ?_
 refine nl ?_
 refine wp_seq ?_
 refine sr ?_
 refine mv hs rfl rfl fun a hs => ?_
 refine sv hs (y_eqlN Tryz.runUnderlying29 rfl rfl) rfl fun a hs => ?_
 refine nl ?_
 have hsv15 := hs
 have hwv16 := hw
 rcases p2 with _ | av8
 ·have hs := hsv15
  have hw := hwv16
  obtain rfl := slnil (hw.envAt 0 rfl)
  have hsh : some ([] : List Pick) = some r := by simpa [appM, maxLen] using hsh
  refine wp_cond_true (hs.ev rfl) ?_
  refine sr ?_
  refine av hs rfl rfl fun a hs => ?_
  refine nl ?_
  have hsh := oi hsh
  subst hsh
  have hw := hw.nilRow Pick 66
  refine wp_ret ?_
  refine then_ret ?_
  exact ret1 hs rfl (rv_tmp rfl) (hw.ret ⟨none, 0, [], rfl, (hw.outs [0] (by decide) rfl), (hw.envAt 0 rfl)⟩)
 have hs := hsv15
 have hw := hwv16
 refine wp_cond_false (hs.ev rfl) ?_
 refine wp_skip ?_
 refine then_normal ?_
 refine sr ?_
 refine w_buildSlice (α := Pick) (vs := []) (cs := []) (xs := ([] : List Pick)) hs hw El29 rfl rfl rfl rfl rfl rfl rfl rfl trivial fun p9 a w hs hw => ?_
 refine mv hs rfl rfl fun a hs => ?_
 obtain ⟨l11, h10, hsh⟩ := bind_t hsh
 refine w_appendE (α := Pick) hs hw El29 0 rfl rfl rfl 0 rfl 1 rfl h10 rfl trivial ?_
 intro p12 k13 c14 a w hs hw
 refine av hs rfl rfl fun a hs => ?_
 refine nl ?_
 have hsh := oi hsh
 subst hsh
 refine wp_ret ?_
 exact ret1 hs rfl (rv_tmp rfl) (hw.ret ⟨p12, k13, c14, rfl, (hw.outs [0] (by decide) rfl), (hw.envAt 0 rfl)⟩)
end Go.Proofs.YtmlekplbmfengaaGreat.Wk
namespace Go.Proofs
open Go Go.Shelf Go.RowKit Go.Lib Go.Sort
def Tryz.sort50_ren : Go.Shelf.Ren := ⟨fun | 6 => 50 | 15 => 77 | 14 => 76 | 28 => 101 | 29 => 102 | 20 => 93 | 21 => 94 | 22 => 95 | 23 => 96 | 24 => 97 | 25 => 98 | 26 => 99 | 27 => 100 | 46 => 110 | 47 => 111 | 48 => 112 | 49 => 113 | 50 => 114 | 57 => 115 | n => n, fun | 22 => 29 | 24 => 66 | 25 => 67 | 3 => 3 | 39 => 116 | 0 => 0 | 53 => 133 | 55 => 135 | 4 => 4 | 46 => 126 | 45 => 125 | 50 => 130 | 5 => 5 | 9 => 9 | 66 => 139 | 70 => 143 | 76 => 145 | 77 => 93 | n => n, fun | n => n⟩
theorem Tryz.sort50 : Go.Proofs.SlLaysF0.n6 Tryz.prog Tryz.sort50_ren where
  mixed := by kernel_rfl
  f6 := ⟨Tryz.f50.name, by decide, Tryz.func50.trans (congrArg some (by kernel_rfl))⟩
  f14 := ⟨Tryz.f76.name, by decide, Tryz.func76.trans (congrArg some (by kernel_rfl))⟩
  f15 := Tryz.func77.trans (congrArg some (by kernel_rfl))
  f20 := ⟨Tryz.f93.name, by decide, Tryz.func93.trans (congrArg some (by kernel_rfl))⟩
  f21 := ⟨Tryz.f94.name, by decide, Tryz.func94.trans (congrArg some (by kernel_rfl))⟩
  f22 := ⟨Tryz.f95.name, by decide, Tryz.func95.trans (congrArg some (by kernel_rfl))⟩
  f23 := ⟨Tryz.f96.name, by decide, Tryz.func96.trans (congrArg some (by kernel_rfl))⟩
  f24 := ⟨Tryz.f97.name, by decide, Tryz.func97.trans (congrArg some (by kernel_rfl))⟩
  f25 := ⟨Tryz.f98.name, by decide, Tryz.func98.trans (congrArg some (by kernel_rfl))⟩
  f26 := ⟨Tryz.f99.name, by decide, Tryz.func99.trans (congrArg some (by kernel_rfl))⟩
  f27 := ⟨Tryz.f100.name, by decide, Tryz.func100.trans (congrArg some (by kernel_rfl))⟩
  f28 := Tryz.func101.trans (congrArg some (by kernel_rfl))
  f29 := Tryz.func102.trans (congrArg some (by kernel_rfl))
  f46 := ⟨Tryz.f110.name, by decide, Tryz.func110.trans (congrArg some (by kernel_rfl))⟩
  f47 := Tryz.func111.trans (congrArg some (by kernel_rfl))
  f48 := Tryz.func112.trans (congrArg some (by kernel_rfl))
  f49 := ⟨Tryz.f113.name, by decide, Tryz.func113.trans (congrArg some (by kernel_rfl))⟩
  f50 := ⟨Tryz.f114.name, by decide, Tryz.func114.trans (congrArg some (by kernel_rfl))⟩
  f57 := ⟨Tryz.f115.name, by decide, Tryz.func115.trans (congrArg some (by kernel_rfl))⟩
  t0 := Tryz.underlying0
  a0 := Tryz.isAgg0
  z0 := Tryz.sizeOf0
  v0 := Tryz.zeroValue0
  t3 := Tryz.underlying3
  a3 := Tryz.isAgg3
  z3 := Tryz.sizeOf3
  v3 := Tryz.zeroValue3
  t4 := Tryz.underlying4
  a4 := Tryz.isAgg4
  z4 := Tryz.sizeOf4
  v4 := Tryz.zeroValue4
  t5 := Tryz.underlying5
  a5 := Tryz.isAgg5
  z5 := Tryz.sizeOf5
  v5 := Tryz.zeroValue5
  t9 := Tryz.underlying9
  a9 := Tryz.isAgg9
  z9 := Tryz.sizeOf9
  v9 := Tryz.zeroValue9
  t22 := Tryz.underlying29
  a22 := Tryz.isAgg29
  z22 := Tryz.sizeOf29
  v22 := Tryz.zeroValue29
  t25 := Tryz.underlying67
  a25 := Tryz.isAgg67
  z25 := Tryz.sizeOf67
  v25 := Tryz.zeroValue67
  t39 := Tryz.underlying116
  a39 := Tryz.isAgg116
  z39 := Tryz.sizeOf116
  v39 := Tryz.zeroValue116
  t45 := Tryz.underlying125
  a45 := Tryz.isAgg125
  z45 := Tryz.sizeOf125
  v45 := Tryz.zeroValue125
  t46 := Tryz.underlying126
  a46 := Tryz.isAgg126
  z46 := Tryz.sizeOf126
  v46 := Tryz.zeroValue126
  t50 := Tryz.underlying130
  a50 := Tryz.isAgg130
  z50 := Tryz.sizeOf130
  v50 := Tryz.zeroValue130
  t53 := Tryz.underlying133
  a53 := Tryz.isAgg133
  z53 := Tryz.sizeOf133
  v53 := Tryz.zeroValue133
  t55 := Tryz.underlying135
  a55 := Tryz.isAgg135
  z55 := Tryz.sizeOf135
  v55 := Tryz.zeroValue135
  t66 := Tryz.underlying139
  a66 := Tryz.isAgg139
  z66 := Tryz.sizeOf139
  v66 := Tryz.zeroValue139
  t70 := Tryz.underlying143
  a70 := Tryz.isAgg143
  z70 := Tryz.sizeOf143
  v70 := Tryz.zeroValue143
  t76 := Tryz.underlying145
  a76 := Tryz.isAgg145
  z76 := Tryz.sizeOf145
  v76 := Tryz.zeroValue145
  t77 := Tryz.underlying93
  a77 := Tryz.isAgg93
  z77 := Tryz.sizeOf93
  v77 := Tryz.zeroValue93
end Go.Proofs
namespace Go.Proofs.YtmlekplbmfengaaGreat.Wk
open Go Go.RowKit Go.Proofs Go.Proofs.YtmlekplbmfengaaGreat.Sh
set_option linter.unusedVariables false
set_option linter.unusedSimpArgs false
abbrev slices_SortFunc_Lapi_Pick_api_Pick_rd (w0 : World) (X : List Nat) (p2 : Option Addr) (k3 : Nat) (x1 : (List Pick)) (r : (List Pick)) : (Nat → Prop) → World → Value → Prop := fun S w v => ∃ (ck_0 : List Value), v = .tuple #[] ∧ Outs X w0 S w [.row p2 r.length k3 ck_0 66 9] ∧ (RowA ck_0 r).p S w ∧ (LenA x1.length r).p S w
set_option maxHeartbeats 4000000 in
set_option maxRecDepth 100000 in
theorem slices_SortFunc_Lapi_Pick_api_Pick_ok {w0 : World} {S0 : Nat → Prop} {p2 : Option Addr} {k3 : Nat} {c4 : List Value} {g7 : Nat} {cp9 : List Value} {x1 : (List Pick)} {cmp6 : Pick → Pick → Option Int} {r : (List Pick)} (hsh : slices_SortFunc_Lapi_Pick_api_Pick x1 cmp6 = some r) (hS : ∀ b, S0 b → b < w0.heap.size) (hin : Ins S0 w0 [.row p2 x1.length k3 c4 66 9]) (h5 : (RowA c4 x1).p S0 w0) (h10 : (FnA2 Tryz.prog g7 [] cp9 cmp6).p S0 w0) : Calls Tryz.prog 50 #[.slice p2 x1.length k3, .func (.func g7) #[] cp9.toArray] w0 (Ret (blks [.row p2 x1.length k3 c4 66 9]) w0 S0 (slices_SortFunc_Lapi_Pick_api_Pick_rd w0 (blks [.row p2 x1.length k3 c4 66 9]) p2 k3 x1 r)) := by
 exact sort_leaf (α := Pick) (T := 66) Tryz.sort50 Tryz.isAgg66 Tryz.sizeOf66 (fun _ => rfl) (by decide) (fun d => [.string d.Source.Network, .string d.Source.Station, .string d.Source.Location, .string d.Source.Channel, .int .i64 d.Time, .int .i64 d.Early, .int .i64 d.Late, .int .i64 d.Amplitude, .int .i64 d.Polarity]) (by rintro S w cs d ⟨_, _, _, _, _, _, _, _, _, rfl, rfl, rfl, rfl, rfl, rfl, rfl, rfl, rfl, rfl⟩; rfl) hsh hS hin h5 h10
abbrev cmp_isNaN_string_rd (w0 : World) (X : List Nat) (r : Bool) : (Nat → Prop) → World → Value → Prop := fun S w v => v = .bool r
set_option maxHeartbeats 4000000 in
set_option maxRecDepth 100000 in
theorem cmp_isNaN_string_ok {w0 : World} {S0 : Nat → Prop} {x1 : ByteArray} {r : Bool} (hsh : cmp_isNaN_string x1 = some r) (hS : ∀ b, S0 b → b < w0.heap.size) : Calls Tryz.prog 104 #[.string x1] w0 (Ret ([]) w0 S0 (cmp_isNaN_string_rd w0 ([]) r)) := by
 refine calls_of_wp Tryz.func104 rfl ?_
 have hs := Sl.enter #[.string x1] 6 [(0, .string x1)] rfl ⟨rfl, trivial⟩
 have hw := Wd.enter (E := []) hS (fun _ h => (by cases h))
 delta cmp_isNaN_string at hsh
 refine sr ?_
 refine av hs rfl rfl fun a hs => ?_
 refine nl ?_
 refine sr ?_
 refine mv hs rfl rfl fun a hs => ?_
 refine mv hs rfl rfl fun a hs => ?_
 refine sv hs (y_neqS rfl rfl) rfl fun a hs => ?_
 refine av hs rfl rfl fun a hs => ?_
 refine nl ?_
 have hsh := oi hsh
 subst hsh
 refine wp_ret ?_
 exact ret1 hs rfl (rv_tmp rfl) (hw.ret rfl)
abbrev cmp_Compare_string_rd (w0 : World) (X : List Nat) (r : Int) : (Nat → Prop) → World → Value → Prop := fun S w v => v = .int .i64 r
set_option maxHeartbeats 4000000 in
set_option maxRecDepth 100000 in
theorem cmp_Compare_string_ok {w0 : World} {S0 : Nat → Prop} {x1 : ByteArray} {y2 : ByteArray} {r : Int} (hsh : cmp_Compare_string x1 y2 = some r) (hS : ∀ b, S0 b → b < w0.heap.size) : Calls Tryz.prog 79 #[.string x1, .string y2] w0 (Ret ([]) w0 S0 (cmp_Compare_string_rd w0 ([]) r)) := by
 refine calls_of_wp Tryz.func79 rfl ?_
 have hs := Sl.enter #[.string x1, .string y2] 20 [(0, .string x1), (1, .string y2)] rfl ⟨rfl, rfl, trivial⟩
 have hw := Wd.enter (E := []) hS (fun _ h => (by cases h))
 delta cmp_Compare_string at hsh
 refine sr ?_
 refine av hs rfl rfl fun a hs => ?_
 refine nl ?_
 refine sr ?_
 refine mv hs rfl rfl fun a hs => ?_
 obtain ⟨rv4, h3, hsh⟩ := bind_t hsh
 refine st_callR hs (cmp_isNaN_string_ok h3 hw.bdom) (do_call Tryz.call104 rfl) trivial rfl rfl ?_
 intro v8 Sv5 w a h6 h7 hs
 subst h7
 have hw := hw.callB h6
 refine av hs rfl rfl fun a hs => ?_
 refine nl ?_
 refine sr ?_
 refine mv hs rfl rfl fun a hs => ?_
 obtain ⟨rv11, h10, hsh⟩ := bind_t hsh
 refine st_callR hs (cmp_isNaN_string_ok h10 hw.bdom) (do_call Tryz.call104 rfl) trivial rfl rfl ?_
 intro v15 Sv12 w a h13 h14 hs
 subst h14
 have hw := hw.callB h13
 refine av hs rfl rfl fun a hs => ?_
 refine nl ?_
 refine wp_seq ?_
 refine sr ?_
 refine mv hs rfl rfl fun a hs => ?_
 refine nl ?_
 refine wp_cond_split (hs.ev rfl) (fun h19 => ?_) (fun h19 => ?_)
 ·have hsh := ite_t hsh h19
  refine wp_seq ?_
  refine sr ?_
  refine mv hs rfl rfl fun a hs => ?_
  refine nl ?_
  refine wp_cond_split (hs.ev rfl) (fun h21 => ?_) (fun h21 => ?_)
  ·have hsh := ite_t hsh h21
   refine sr ?_
   refine av hs rfl rfl fun a hs => ?_
   refine nl ?_
   have hsh := oi hsh
   subst hsh
   refine wp_ret ?_
   refine then_ret ?_
   refine then_ret ?_
   exact ret1 hs rfl (rv_tmp rfl) (hw.ret rfl)
  have hsh := ite_f hsh h21
  refine wp_skip ?_
  refine then_normal ?_
  refine sr ?_
  refine av hs rfl rfl fun a hs => ?_
  refine nl ?_
  have hsh := oi hsh
  subst hsh
  refine wp_ret ?_
  refine then_ret ?_
  exact ret1 hs rfl (rv_tmp rfl) (hw.ret rfl)
 have hsh := ite_f hsh h19
 refine wp_skip ?_
 refine then_normal ?_
 refine wp_seq ?_
 refine sr ?_
 refine mv hs rfl rfl fun a hs => ?_
 refine nl ?_
 refine wp_cond_split (hs.ev rfl) (fun h23 => ?_) (fun h23 => ?_)
 ·have hsh := ite_t hsh h23
  refine sr ?_
  refine av hs rfl rfl fun a hs => ?_
  refine nl ?_
  have hsh := oi hsh
  subst hsh
  refine wp_ret ?_
  refine then_ret ?_
  exact ret1 hs rfl (rv_tmp rfl) (hw.ret rfl)
 have hsh := ite_f hsh h23
 refine wp_skip ?_
 refine then_normal ?_
 refine wp_seq ?_
 refine sr ?_
 refine mv hs rfl rfl fun a hs => ?_
 refine mv hs rfl rfl fun a hs => ?_
 refine sv hs (y_lssS rfl rfl) rfl fun a hs => ?_
 refine nl ?_
 refine wp_cond_split (hs.ev rfl) (fun h25 => ?_) (fun h25 => ?_)
 ·have hsh := ite_t hsh h25
  refine sr ?_
  refine av hs rfl rfl fun a hs => ?_
  refine nl ?_
  have hsh := oi hsh
  subst hsh
  refine wp_ret ?_
  refine then_ret ?_
  exact ret1 hs rfl (rv_tmp rfl) (hw.ret rfl)
 have hsh := ite_f hsh h25
 refine wp_skip ?_
 refine then_normal ?_
 refine wp_seq ?_
 refine sr ?_
 refine mv hs rfl rfl fun a hs => ?_
 refine mv hs rfl rfl fun a hs => ?_
 refine sv hs (y_gtrS rfl rfl) rfl fun a hs => ?_
 refine nl ?_
 refine wp_cond_split (hs.ev rfl) (fun h27 => ?_) (fun h27 => ?_)
 ·have hsh := ite_t hsh h27
  refine sr ?_
  refine av hs rfl rfl fun a hs => ?_
  refine nl ?_
  have hsh := oi hsh
  subst hsh
  refine wp_ret ?_
  refine then_ret ?_
  exact ret1 hs rfl (rv_tmp rfl) (hw.ret rfl)
 have hsh := ite_f hsh h27
 refine wp_skip ?_
 refine then_normal ?_
 refine sr ?_
 refine av hs rfl rfl fun a hs => ?_
 refine nl ?_
 have hsh := oi hsh
 subst hsh
 refine wp_ret ?_
 exact ret1 hs rfl (rv_tmp rfl) (hw.ret rfl)
abbrev cmp_Or_int_rd (w0 : World) (X : List Nat) (r : Int) : (Nat → Prop) → World → Value → Prop := fun S w v => v = .int .i64 r
set_option maxHeartbeats 4000000 in
set_option maxRecDepth 100000 in
theorem cmp_Or_int_ok {w0 : World} {S0 : Nat → Prop} {p2 : Option Addr} {k3 : Nat} {vals1 : (List Int)} {r : Int} (hsh : cmp_Or_int vals1 = some r) (hS : ∀ b, S0 b → b < w0.heap.size) (h4 : (SlA p2 vals1.length k3 vals1).p S0 w0) : Calls Tryz.prog 53 #[.slice p2 vals1.length k3] w0 (Ret ([]) w0 S0 (cmp_Or_int_rd w0 ([]) r)) := by
 refine calls_of_wp Tryz.func53 rfl ?_
 have hs := Sl.enter #[.slice p2 vals1.length k3] 18 [(0, .slice p2 vals1.length k3)] rfl ⟨rfl, trivial⟩
 have hw := Wd.enter (E := []) hS (fun _ h => (by cases h))
 have hw := hw.addE h4
 delta cmp_Or_int at hsh
 refine sr ?_
 refine av hs rfl rfl fun a hs => ?_
 refine nl ?_
 refine sr ?_
 refine av hs rfl rfl fun a hs => ?_
 refine nl ?_
 refine wp_seq ?_
 refine sr ?_
 refine mv hs rfl rfl fun a hs => ?_
 refine sv hs (y_len Tryz.runUnderlying22 rfl) rfl fun a hs => ?_
 refine mv hs rfl rfl fun a hs => ?_
 refine nl ?_
 refine wp_block ?_
 refine wp_while (fun sv55 a w => ∃ (Sv87 : Nat → Prop), Sl 18 [(3, .int .i64 0), (6, .slice p2 vals1.length k3), (7, .int .i64 (vals1.length : Int)), (8, .int .i64 sv55)] a ∧ Wd ⟨w0, S0, []⟩ Sv87 [] [SlA p2 vals1.length k3 vals1] w) 0 hsh ⟨S0, (hs.wk rfl), (hw.ft [] [0] (by decide) rfl rfl)⟩ ?_
 repeat clear hsh
 rintro sv55 a w tv104 ⟨Sv87, hs, hw⟩ hsh hd103
 delta cmp_Or_int_l2 at hsh
 refine sr ?_
 refine sv hs (y_lss rfl rfl) rfl fun a hs => ?_
 refine nl ?_
 refine wp_seq ?_
 refine wp_cond_split (hs.ev rfl) (fun h108 => ?_) (fun h108 => ?_)
 ·have hsh := ite_t hsh h108
  refine wp_skip ?_
  refine then_normal ?_
  refine wp_seq ?_
  refine wp_block ?_
  refine sr ?_
  obtain ⟨x125, h123, hsh⟩ := bind_t hsh
  obtain ⟨b131, o132, q129, c130, h133, h126, h127, h128, h124⟩ := hw.elemV 0 rfl h123
  have hsv134 := hs
  have hwv135 := hw
  subst h133
  have hs := hsv134
  have hw := hwv135
  obtain ⟨_, rfl, rfl⟩ := h124
  have hw := hw.addE h128
  refine sv hs (y_indexAt Tryz.runUnderlying22 Tryz.sizeOf3 rfl rfl h126.1 h126.2 h127) rfl fun a hs => ?_
  refine sv hs (y_loadE1 (j := 0) (hw.ceAt 0 rfl) rfl Tryz.isAgg3 rfl) rfl fun a hs => ?_
  refine av hs rfl rfl fun a hs => ?_
  refine nl ?_
  refine sr ?_
  refine mv hs rfl rfl fun a hs => ?_
  refine mv hs rfl rfl fun a hs => ?_
  refine sv hs (y_neq rfl rfl) rfl fun a hs => ?_
  refine nl ?_
  refine wp_cond_split (hs.ev rfl) (fun h137 => ?_) (fun h137 => ?_)
  ·have hsh := ite_t hsh h137
   refine sr ?_
   refine mv hs rfl rfl fun a hs => ?_
   refine av hs rfl rfl fun a hs => ?_
   refine nl ?_
   have hsh := oi hsh
   subst hsh
   have h138 := hd103 _ rfl
   subst h138
   refine wp_ret ?_
   refine blk_ret ?_
   refine then_ret ?_
   refine then_ret ?_
   refine blk_ret ?_
   refine then_ret ?_
   exact ret1 hs rfl (rv_tmp rfl) (hw.ret rfl)
  have hsh := ite_f hsh h137
  refine wp_skip ?_
  refine blk_normal ?_
  refine then_normal ?_
  refine wp_region_lit ?_
  refine sv hs (y_add rfl rfl) rfl fun a hs => ?_
  refine mv hs rfl rfl fun a hs => ?_
  refine nl ?_
  exact ⟨_, (Option.some.inj hsh).symm, Sv87, (hs.wk rfl), (hw.ft [] [1] (by decide) rfl rfl)⟩
 have hsh := ite_f hsh h108
 obtain ⟨rv139, hsh, h140⟩ := map_t hsh
 have h140 := (hd103 _ h140.symm).symm
 subst h140
 refine wp_exit ?_
 refine then_exit ?_
 refine then_exit ?_
 refine blk_exit ?_
 refine then_normal ?_
 refine sr ?_
 refine mv hs rfl rfl fun a hs => ?_
 refine av hs rfl rfl fun a hs => ?_
 refine nl ?_
 have hsh := oi hsh
 subst hsh
 refine wp_ret ?_
 exact ret1 hs rfl (rv_tmp rfl) (hw.ret rfl)
abbrev source_Compare_rd (w0 : World) (X : List Nat) (r : Int) : (Nat → Prop) → World → Value → Prop := fun S w v => v = .int .i64 r
set_option maxHeartbeats 4000000 in
set_option maxRecDepth 100000 in
theorem source_Compare_ok {w0 : World} {S0 : Nat → Prop} {a1 : SourceID} {b2 : SourceID} {r : Int} (hsh : source_Compare a1 b2 = some r) (hS : ∀ b, S0 b → b < w0.heap.size) : Calls Tryz.prog 54 #[.agg #[.string a1.Network, .string a1.Station, .string a1.Location, .string a1.Channel], .agg #[.string b2.Network, .string b2.Station, .string b2.Location, .string b2.Channel]] w0 (Ret ([]) w0 S0 (source_Compare_rd w0 ([]) r)) := by
 refine calls_of_wp Tryz.func54 rfl ?_
 have hs := Sl.enter #[.agg #[.string a1.Network, .string a1.Station, .string a1.Location, .string a1.Channel], .agg #[.string b2.Network, .string b2.Station, .string b2.Location, .string b2.Channel]] 27 [(0, .agg #[.string a1.Network, .string a1.Station, .string a1.Location, .string a1.Channel]), (1, .agg #[.string b2.Network, .string b2.Station, .string b2.Location, .string b2.Channel])] rfl ⟨rfl, rfl, trivial⟩
 have hw := Wd.enter (E := []) hS (fun _ h => (by cases h))
 delta source_Compare at hsh
 refine sr ?_
 refine w_box (cs := [.string a1.Network, .string a1.Station, .string a1.Location, .string a1.Channel]) hs hw rfl rfl rfl trivial ?_
 intro b3 a w hs hw
 refine w_box (cs := [.string b2.Network, .string b2.Station, .string b2.Location, .string b2.Channel]) hs hw rfl rfl rfl trivial ?_
 intro b4 a w hs hw
 refine av hs rfl rfl fun a hs => ?_
 refine nl ?_
 refine wp_seq ?_
 obtain ⟨rv6, h5, hsh⟩ := bind_t hsh
 obtain ⟨rv8, h7, hsh⟩ := bind_t hsh
 obtain ⟨rv10, h9, hsh⟩ := bind_t hsh
 obtain ⟨rv12, h11, hsh⟩ := bind_t hsh
 obtain ⟨rv16, h15, hsh⟩ := bind_t hsh
 refine wp_only (fun a w => ∃ (Sv17 : Nat → Prop), Sl 27 [(4, .int .i64 rv16)] a ∧ Wd ⟨w0, S0, []⟩ Sv17 [] [] w) ?_ ?_
 ·refine h_b (C := Cls [.box b4 [.string b2.Network, .string b2.Station, .string b2.Location, .string b2.Channel] 41, .box b3 [.string a1.Network, .string a1.Station, .string a1.Location, .string a1.Channel] 41] []) (by kernel_rfl) rfl (hw.drew.cs [0, 1] [] rfl rfl) fun hC => ?_
  have hw := hw.drew
  refine gv hs 0 rfl rfl hC (fun w hC => y_fieldAddr (o' := 0) Tryz.runUnderlying41 rfl Tryz.sizeOf9 rfl rfl rfl) fun a hs => ?_
  refine gv hs 1 rfl rfl hC (fun w hC => y_loadB1 (hC.ownAt 1 rfl) rfl Tryz.isAgg9 rfl) fun a hs => ?_
  refine gv hs 2 rfl rfl hC (fun w hC => y_fieldAddr (o' := 0) Tryz.runUnderlying41 rfl Tryz.sizeOf9 rfl rfl rfl) fun a hs => ?_
  refine gv hs 3 rfl rfl hC (fun w hC => y_loadB1 (hC.ownAt 0 rfl) rfl Tryz.isAgg9 rfl) fun a hs => ?_
  refine gv hs 5 rfl rfl hC (fun w hC => y_fieldAddr (o' := 1) Tryz.runUnderlying41 rfl Tryz.sizeOf9 rfl rfl rfl) fun a hs => ?_
  refine gv hs 6 rfl rfl hC (fun w hC => y_loadB1 (hC.ownAt 1 rfl) rfl Tryz.isAgg9 rfl) fun a hs => ?_
  refine gv hs 7 rfl rfl hC (fun w hC => y_fieldAddr (o' := 1) Tryz.runUnderlying41 rfl Tryz.sizeOf9 rfl rfl rfl) fun a hs => ?_
  refine gv hs 8 rfl rfl hC (fun w hC => y_loadB1 (hC.ownAt 0 rfl) rfl Tryz.isAgg9 rfl) fun a hs => ?_
  refine gv hs 10 rfl rfl hC (fun w hC => y_fieldAddr (o' := 2) Tryz.runUnderlying41 rfl Tryz.sizeOf9 rfl rfl rfl) fun a hs => ?_
  refine gv hs 11 rfl rfl hC (fun w hC => y_loadB1 (hC.ownAt 1 rfl) rfl Tryz.isAgg9 rfl) fun a hs => ?_
  refine gv hs 12 rfl rfl hC (fun w hC => y_fieldAddr (o' := 2) Tryz.runUnderlying41 rfl Tryz.sizeOf9 rfl rfl rfl) fun a hs => ?_
  refine gv hs 13 rfl rfl hC (fun w hC => y_loadB1 (hC.ownAt 0 rfl) rfl Tryz.isAgg9 rfl) fun a hs => ?_
  refine gv hs 15 rfl rfl hC (fun w hC => y_fieldAddr (o' := 3) Tryz.runUnderlying41 rfl Tryz.sizeOf9 rfl rfl rfl) fun a hs => ?_
  refine gv hs 16 rfl rfl hC (fun w hC => y_loadB1 (hC.ownAt 1 rfl) rfl Tryz.isAgg9 rfl) fun a hs => ?_
  refine gv hs 17 rfl rfl hC (fun w hC => y_fieldAddr (o' := 3) Tryz.runUnderlying41 rfl Tryz.sizeOf9 rfl rfl rfl) fun a hs => ?_
  refine gv hs 18 rfl rfl hC (fun w hC => y_loadB1 (hC.ownAt 0 rfl) rfl Tryz.isAgg9 rfl) fun a hs => ?_
  refine ho 4 rfl ?_
  refine st_callR hs (cmp_Compare_string_ok h5 hw.bdom) (do_call Tryz.call79 rfl) trivial rfl rfl ?_
  intro v21 Sv18 w a h19 h20 hs
  subst h20
  have hw := hw.callB h19
  refine h_nx (hw.cs [0, 1] [] rfl rfl) fun hC => ?_
  refine ho 9 rfl ?_
  refine st_callR hs (cmp_Compare_string_ok h7 hw.bdom) (do_call Tryz.call79 rfl) trivial rfl rfl ?_
  intro v26 Sv23 w a h24 h25 hs
  subst h25
  have hw := hw.callB h24
  refine h_nx (hw.cs [0, 1] [] rfl rfl) fun hC => ?_
  refine ho 14 rfl ?_
  refine st_callR hs (cmp_Compare_string_ok h9 hw.bdom) (do_call Tryz.call79 rfl) trivial rfl rfl ?_
  intro v31 Sv28 w a h29 h30 hs
  subst h30
  have hw := hw.callB h29
  refine h_nx (hw.cs [0, 1] [] rfl rfl) fun hC => ?_
  refine ho 19 rfl ?_
  refine st_callR hs (cmp_Compare_string_ok h11 hw.bdom) (do_call Tryz.call79 rfl) trivial rfl rfl ?_
  intro v36 Sv33 w a h34 h35 hs
  subst h35
  have hw := hw.callB h34
  refine h_nx (hw.cs [0, 1] [] rfl rfl) fun hC => ?_
  refine ho 20 rfl ?_
  refine w_litSlice (α := Int) (vs := [.int .i64 rv6, .int .i64 rv8, .int .i64 rv10, .int .i64 rv12]) (cs := [.int .i64 rv6, .int .i64 rv8, .int .i64 rv10, .int .i64 rv12]) (xs := ([rv6, rv8, rv10, rv12] : List Int)) hs hw El22 rfl rfl rfl rfl rfl rfl ⟨⟨_, rfl, rfl⟩, ⟨⟨_, rfl, rfl⟩, ⟨⟨_, rfl, rfl⟩, ⟨⟨_, rfl, rfl⟩, rfl⟩⟩⟩⟩ rfl trivial rfl fun b14 a w hs hw => ?_
  refine h_nx (hw.cs [1, 2] [] rfl rfl) fun hC => ?_
  refine h_st (C' := Cls [.box b4 [.string b2.Network, .string b2.Station, .string b2.Location, .string b2.Channel] 41, .box b3 [.string a1.Network, .string a1.Station, .string a1.Location, .string a1.Channel] 41, .row (some ⟨b14, 0, none⟩) ([rv6, rv8, rv10, rv12] : List Int).length ([rv6, rv8, rv10, rv12] : List Int).length [.int .i64 rv6, .int .i64 rv8, .int .i64 rv10, .int .i64 rv12] 3 1] []) (fun _ h => by exact h.sub [0, 1] (Sel.of rfl) (AllIn.of [] rfl)) (hw.cs [1, 2, 0] [] rfl rfl) fun hC => ?_
  refine ho 21 rfl ?_
  refine st_callR hs (cmp_Or_int_ok h15 hw.bdom (hw.bRow 0 rfl 0 rfl)) (do_call Tryz.call53 rfl) trivial rfl rfl ?_
  intro v41 Sv38 w a h39 h40 hs
  subst h40
  have hw := hw.callB h39
  refine h_nx (hw.cs [1, 2, 0] [] rfl rfl) fun hC => ?_
  refine gv hs 22 rfl rfl hC (fun w hC => y_assign rfl) fun a hs => ?_
  refine h_done (by kernel_rfl) ?_
  exact ⟨S0, (hs.wk rfl), (hw.ft [] [] (by decide) rfl rfl)⟩
 rintro a w ⟨Sv17, hs, hw⟩
 refine then_normal ?_
 have hsh := oi hsh
 subst hsh
 refine wp_ret ?_
 exact ret1 hs rfl (rv_tmp rfl) (hw.ret rfl)
abbrev picker_Compare_rd (w0 : World) (X : List Nat) (r : Int) : (Nat → Prop) → World → Value → Prop := fun S w v => v = .int .i64 r
set_option maxHeartbeats 4000000 in
set_option maxRecDepth 100000 in
theorem picker_Compare_ok {w0 : World} {S0 : Nat → Prop} {a1 : Pick} {b2 : Pick} {r : Int} (hsh : picker_Compare a1 b2 = some r) (hS : ∀ b, S0 b → b < w0.heap.size) : Calls Tryz.prog 27 #[.agg #[.string a1.Source.Network, .string a1.Source.Station, .string a1.Source.Location, .string a1.Source.Channel, .int .i64 a1.Time, .int .i64 a1.Early, .int .i64 a1.Late, .int .i64 a1.Amplitude, .int .i64 a1.Polarity], .agg #[.string b2.Source.Network, .string b2.Source.Station, .string b2.Source.Location, .string b2.Source.Channel, .int .i64 b2.Time, .int .i64 b2.Early, .int .i64 b2.Late, .int .i64 b2.Amplitude, .int .i64 b2.Polarity]] w0 (Ret ([]) w0 S0 (picker_Compare_rd w0 ([]) r)) := by
 refine calls_of_wp Tryz.func27 rfl ?_
 have hs := Sl.enter #[.agg #[.string a1.Source.Network, .string a1.Source.Station, .string a1.Source.Location, .string a1.Source.Channel, .int .i64 a1.Time, .int .i64 a1.Early, .int .i64 a1.Late, .int .i64 a1.Amplitude, .int .i64 a1.Polarity], .agg #[.string b2.Source.Network, .string b2.Source.Station, .string b2.Source.Location, .string b2.Source.Channel, .int .i64 b2.Time, .int .i64 b2.Early, .int .i64 b2.Late, .int .i64 b2.Amplitude, .int .i64 b2.Polarity]] 37 [(0, .agg #[.string a1.Source.Network, .string a1.Source.Station, .string a1.Source.Location, .string a1.Source.Channel, .int .i64 a1.Time, .int .i64 a1.Early, .int .i64 a1.Late, .int .i64 a1.Amplitude, .int .i64 a1.Polarity]), (1, .agg #[.string b2.Source.Network, .string b2.Source.Station, .string b2.Source.Location, .string b2.Source.Channel, .int .i64 b2.Time, .int .i64 b2.Early, .int .i64 b2.Late, .int .i64 b2.Amplitude, .int .i64 b2.Polarity])] rfl ⟨rfl, rfl, trivial⟩
 have hw := Wd.enter (E := []) hS (fun _ h => (by cases h))
 delta picker_Compare at hsh
 refine sr ?_
 refine w_box (cs := [.string a1.Source.Network, .string a1.Source.Station, .string a1.Source.Location, .string a1.Source.Channel, .int .i64 a1.Time, .int .i64 a1.Early, .int .i64 a1.Late, .int .i64 a1.Amplitude, .int .i64 a1.Polarity]) hs hw rfl rfl rfl trivial ?_
 intro b3 a w hs hw
 refine w_box (cs := [.string b2.Source.Network, .string b2.Source.Station, .string b2.Source.Location, .string b2.Source.Channel, .int .i64 b2.Time, .int .i64 b2.Early, .int .i64 b2.Late, .int .i64 b2.Amplitude, .int .i64 b2.Polarity]) hs hw rfl rfl rfl trivial ?_
 intro b4 a w hs hw
 refine av hs rfl rfl fun a hs => ?_
 refine nl ?_
 refine wp_seq ?_
 obtain ⟨rv6, h5, hsh⟩ := bind_t hsh
 obtain ⟨rv8, h7, hsh⟩ := bind_t hsh
 obtain ⟨rv10, h9, hsh⟩ := bind_t hsh
 obtain ⟨rv12, h11, hsh⟩ := bind_t hsh
 obtain ⟨rv14, h13, hsh⟩ := bind_t hsh
 obtain ⟨rv16, h15, hsh⟩ := bind_t hsh
 obtain ⟨rv20, h19, hsh⟩ := bind_t hsh
 refine wp_only (fun a w => ∃ (Sv21 : Nat → Prop), Sl 37 [(4, .int .i64 rv20)] a ∧ Wd ⟨w0, S0, []⟩ Sv21 [] [] w) ?_ ?_
 ·refine h_b (C := Cls [.box b4 [.string b2.Source.Network, .string b2.Source.Station, .string b2.Source.Location, .string b2.Source.Channel, .int .i64 b2.Time, .int .i64 b2.Early, .int .i64 b2.Late, .int .i64 b2.Amplitude, .int .i64 b2.Polarity] 66, .box b3 [.string a1.Source.Network, .string a1.Source.Station, .string a1.Source.Location, .string a1.Source.Channel, .int .i64 a1.Time, .int .i64 a1.Early, .int .i64 a1.Late, .int .i64 a1.Amplitude, .int .i64 a1.Polarity] 66] []) (by kernel_rfl) rfl (hw.drew.cs [0, 1] [] rfl rfl) fun hC => ?_
  have hw := hw.drew
  refine gv hs 0 rfl rfl hC (fun w hC => y_fieldAddr (o' := 0) Tryz.runUnderlying66 rfl Tryz.sizeOf41 rfl rfl rfl) fun a hs => ?_
  refine gv hs 1 rfl rfl hC (fun w hC => y_loadBA (hC.ownAt 1 rfl) rfl Tryz.isAgg41 Tryz.sizeOf41 rfl rfl) fun a hs => ?_
  refine gv hs 2 rfl rfl hC (fun w hC => y_fieldAddr (o' := 0) Tryz.runUnderlying66 rfl Tryz.sizeOf41 rfl rfl rfl) fun a hs => ?_
  refine gv hs 3 rfl rfl hC (fun w hC => y_loadBA (hC.ownAt 0 rfl) rfl Tryz.isAgg41 Tryz.sizeOf41 rfl rfl) fun a hs => ?_
  refine gv hs 5 rfl rfl hC (fun w hC => y_fieldAddr (o' := 4) Tryz.runUnderlying66 rfl Tryz.sizeOf3 rfl rfl rfl) fun a hs => ?_
  refine gv hs 6 rfl rfl hC (fun w hC => y_loadB1 (hC.ownAt 1 rfl) rfl Tryz.isAgg3 rfl) fun a hs => ?_
  refine gv hs 7 rfl rfl hC (fun w hC => y_fieldAddr (o' := 4) Tryz.runUnderlying66 rfl Tryz.sizeOf3 rfl rfl rfl) fun a hs => ?_
  refine gv hs 8 rfl rfl hC (fun w hC => y_loadB1 (hC.ownAt 0 rfl) rfl Tryz.isAgg3 rfl) fun a hs => ?_
  refine gv hs 10 rfl rfl hC (fun w hC => y_fieldAddr (o' := 5) Tryz.runUnderlying66 rfl Tryz.sizeOf3 rfl rfl rfl) fun a hs => ?_
  refine gv hs 11 rfl rfl hC (fun w hC => y_loadB1 (hC.ownAt 1 rfl) rfl Tryz.isAgg3 rfl) fun a hs => ?_
  refine gv hs 12 rfl rfl hC (fun w hC => y_fieldAddr (o' := 5) Tryz.runUnderlying66 rfl Tryz.sizeOf3 rfl rfl rfl) fun a hs => ?_
  refine gv hs 13 rfl rfl hC (fun w hC => y_loadB1 (hC.ownAt 0 rfl) rfl Tryz.isAgg3 rfl) fun a hs => ?_
  refine gv hs 15 rfl rfl hC (fun w hC => y_fieldAddr (o' := 6) Tryz.runUnderlying66 rfl Tryz.sizeOf3 rfl rfl rfl) fun a hs => ?_
  refine gv hs 16 rfl rfl hC (fun w hC => y_loadB1 (hC.ownAt 1 rfl) rfl Tryz.isAgg3 rfl) fun a hs => ?_
  refine gv hs 17 rfl rfl hC (fun w hC => y_fieldAddr (o' := 6) Tryz.runUnderlying66 rfl Tryz.sizeOf3 rfl rfl rfl) fun a hs => ?_
  refine gv hs 18 rfl rfl hC (fun w hC => y_loadB1 (hC.ownAt 0 rfl) rfl Tryz.isAgg3 rfl) fun a hs => ?_
  refine gv hs 20 rfl rfl hC (fun w hC => y_fieldAddr (o' := 7) Tryz.runUnderlying66 rfl Tryz.sizeOf3 rfl rfl rfl) fun a hs => ?_
  refine gv hs 21 rfl rfl hC (fun w hC => y_loadB1 (hC.ownAt 1 rfl) rfl Tryz.isAgg3 rfl) fun a hs => ?_
  refine gv hs 22 rfl rfl hC (fun w hC => y_fieldAddr (o' := 7) Tryz.runUnderlying66 rfl Tryz.sizeOf3 rfl rfl rfl) fun a hs => ?_
  refine gv hs 23 rfl rfl hC (fun w hC => y_loadB1 (hC.ownAt 0 rfl) rfl Tryz.isAgg3 rfl) fun a hs => ?_
  refine gv hs 25 rfl rfl hC (fun w hC => y_fieldAddr (o' := 8) Tryz.runUnderlying66 rfl Tryz.sizeOf3 rfl rfl rfl) fun a hs => ?_
  refine gv hs 26 rfl rfl hC (fun w hC => y_loadB1 (hC.ownAt 1 rfl) rfl Tryz.isAgg3 rfl) fun a hs => ?_
  refine gv hs 27 rfl rfl hC (fun w hC => y_fieldAddr (o' := 8) Tryz.runUnderlying66 rfl Tryz.sizeOf3 rfl rfl rfl) fun a hs => ?_
  refine gv hs 28 rfl rfl hC (fun w hC => y_loadB1 (hC.ownAt 0 rfl) rfl Tryz.isAgg3 rfl) fun a hs => ?_
  refine ho 4 rfl ?_
  refine st_callR hs (source_Compare_ok h5 hw.bdom) (do_call Tryz.call54 rfl) trivial rfl rfl ?_
  intro v25 Sv22 w a h23 h24 hs
  subst h24
  have hw := hw.callB h23
  refine h_nx (hw.cs [0, 1] [] rfl rfl) fun hC => ?_
  refine ho 9 rfl ?_
  refine st_callR hs (cmp_Compare_int_ok h7 hw.bdom) (do_call Tryz.call55 rfl) trivial rfl rfl ?_
  intro v30 Sv27 w a h28 h29 hs
  subst h29
  have hw := hw.callB h28
  refine h_nx (hw.cs [0, 1] [] rfl rfl) fun hC => ?_
  refine ho 14 rfl ?_
  refine st_callR hs (cmp_Compare_int_ok h9 hw.bdom) (do_call Tryz.call55 rfl) trivial rfl rfl ?_
  intro v35 Sv32 w a h33 h34 hs
  subst h34
  have hw := hw.callB h33
  refine h_nx (hw.cs [0, 1] [] rfl rfl) fun hC => ?_
  refine ho 19 rfl ?_
  refine st_callR hs (cmp_Compare_int_ok h11 hw.bdom) (do_call Tryz.call55 rfl) trivial rfl rfl ?_
  intro v40 Sv37 w a h38 h39 hs
  subst h39
  have hw := hw.callB h38
  refine h_nx (hw.cs [0, 1] [] rfl rfl) fun hC => ?_
  refine ho 24 rfl ?_
  refine st_callR hs (cmp_Compare_int_ok h13 hw.bdom) (do_call Tryz.call55 rfl) trivial rfl rfl ?_
  intro v45 Sv42 w a h43 h44 hs
  subst h44
  have hw := hw.callB h43
  refine h_nx (hw.cs [0, 1] [] rfl rfl) fun hC => ?_
  refine ho 29 rfl ?_
  refine st_callR hs (cmp_Compare_int_ok h15 hw.bdom) (do_call Tryz.call55 rfl) trivial rfl rfl ?_
  intro v50 Sv47 w a h48 h49 hs
  subst h49
  have hw := hw.callB h48
  refine h_nx (hw.cs [0, 1] [] rfl rfl) fun hC => ?_
  refine ho 30 rfl ?_
  refine w_litSlice (α := Int) (vs := [.int .i64 rv6, .int .i64 rv8, .int .i64 rv10, .int .i64 rv12, .int .i64 rv14, .int .i64 rv16]) (cs := [.int .i64 rv6, .int .i64 rv8, .int .i64 rv10, .int .i64 rv12, .int .i64 rv14, .int .i64 rv16]) (xs := ([rv6, rv8, rv10, rv12, rv14, rv16] : List Int)) hs hw El22 rfl rfl rfl rfl rfl rfl ⟨⟨_, rfl, rfl⟩, ⟨⟨_, rfl, rfl⟩, ⟨⟨_, rfl, rfl⟩, ⟨⟨_, rfl, rfl⟩, ⟨⟨_, rfl, rfl⟩, ⟨⟨_, rfl, rfl⟩, rfl⟩⟩⟩⟩⟩⟩ rfl trivial rfl fun b18 a w hs hw => ?_
  refine h_nx (hw.cs [1, 2] [] rfl rfl) fun hC => ?_
  refine h_st (C' := Cls [.box b4 [.string b2.Source.Network, .string b2.Source.Station, .string b2.Source.Location, .string b2.Source.Channel, .int .i64 b2.Time, .int .i64 b2.Early, .int .i64 b2.Late, .int .i64 b2.Amplitude, .int .i64 b2.Polarity] 66, .box b3 [.string a1.Source.Network, .string a1.Source.Station, .string a1.Source.Location, .string a1.Source.Channel, .int .i64 a1.Time, .int .i64 a1.Early, .int .i64 a1.Late, .int .i64 a1.Amplitude, .int .i64 a1.Polarity] 66, .row (some ⟨b18, 0, none⟩) ([rv6, rv8, rv10, rv12, rv14, rv16] : List Int).length ([rv6, rv8, rv10, rv12, rv14, rv16] : List Int).length [.int .i64 rv6, .int .i64 rv8, .int .i64 rv10, .int .i64 rv12, .int .i64 rv14, .int .i64 rv16] 3 1] []) (fun _ h => by exact h.sub [0, 1] (Sel.of rfl) (AllIn.of [] rfl)) (hw.cs [1, 2, 0] [] rfl rfl) fun hC => ?_
  refine ho 31 rfl ?_
  refine st_callR hs (cmp_Or_int_ok h19 hw.bdom (hw.bRow 0 rfl 0 rfl)) (do_call Tryz.call53 rfl) trivial rfl rfl ?_
  intro v55 Sv52 w a h53 h54 hs
  subst h54
  have hw := hw.callB h53
  refine h_nx (hw.cs [1, 2, 0] [] rfl rfl) fun hC => ?_
  refine gv hs 32 rfl rfl hC (fun w hC => y_assign rfl) fun a hs => ?_
  refine h_done (by kernel_rfl) ?_
  exact ⟨S0, (hs.wk rfl), (hw.ft [] [] (by decide) rfl rfl)⟩
 rintro a w ⟨Sv21, hs, hw⟩
 refine then_normal ?_
 have hsh := oi hsh
 subst hsh
 refine wp_ret ?_
 exact ret1 hs rfl (rv_tmp rfl) (hw.ret rfl)
theorem picker_Compare_fn (S0 : Nat → Prop) (w0 : World) : (FnA2 Tryz.prog 27 [] [] picker_Compare).p S0 w0 := by
  refine ⟨Tryz.call27, ?_⟩
  intro S1 w1 hk hS c0 c1 x0 x1 r1 h0 h1 hf
  obtain ⟨_, _, _, _, _, _, _, _, _, rfl, rfl, rfl, rfl, rfl, rfl, rfl, rfl, rfl, rfl⟩ := h0
  obtain ⟨_, _, _, _, _, _, _, _, _, rfl, rfl, rfl, rfl, rfl, rfl, rfl, rfl, rfl, rfl⟩ := h1
  exact picker_Compare_ok hf hS  
abbrev slices_Compact_Lapi_Pick_api_Pick_rd (w0 : World) (X : List Nat) (r : (List Pick)) : (Nat → Prop) → World → Value → Prop := fun S w v => ∃ (p0_0 : Option Addr) (k0_0 : Nat) (c0_0 : List Value), v = .slice p0_0 r.length k0_0 ∧ Outs X w0 S w [.row p0_0 r.length k0_0 c0_0 66 9] ∧ (RowA c0_0 r).p S w
set_option maxHeartbeats 4000000 in
set_option maxRecDepth 100000 in
theorem slices_Compact_Lapi_Pick_api_Pick_ok {w0 : World} {S0 : Nat → Prop} {p2 : Option Addr} {k3 : Nat} {c4 : List Value} {s1 : (List Pick)} {r : (List Pick)} (hsh : slices_Compact_Lapi_Pick_api_Pick s1 = some r) (hS : ∀ b, S0 b → b < w0.heap.size) (hin : Ins S0 w0 [.row p2 s1.length k3 c4 66 9]) (h5 : (RowA c4 s1).p S0 w0) : Calls Tryz.prog 51 #[.slice p2 s1.length k3] w0 (Ret (blks [.row p2 s1.length k3 c4 66 9]) w0 S0 (slices_Compact_Lapi_Pick_api_Pick_rd w0 (blks [.row p2 s1.length k3 c4 66 9]) r)) := by
 refine calls_of_wp Tryz.func51 rfl ?_
 have hs := Sl.enter #[.slice p2 s1.length k3] 61 [(0, .slice p2 s1.length k3)] rfl ⟨rfl, trivial⟩
 have hw := Wd.enterI hS hin
 have hw := hw.addE h5
 have hw := hw.addE (e := LenA s1.length s1) len_rfl
 delta slices_Compact_Lapi_Pick_api_Pick at hsh
 refine sr ?_
 refine av hs rfl rfl fun a hs => ?_
 refine nl ?_
 refine wp_seq ?_
 refine sr ?_
 refine mv hs rfl rfl fun a hs => ?_
 refine sv hs (y_len Tryz.runUnderlying29 rfl) rfl fun a hs => ?_
 refine sv hs (y_lss rfl rfl) rfl fun a hs => ?_
 refine nl ?_
 refine wp_cond_split (hs.ev rfl) (fun h7 => ?_) (fun h7 => ?_)
 ·have hsh := ite_t hsh h7
  refine sr ?_
  refine mv hs rfl rfl fun a hs => ?_
  refine av hs rfl rfl fun a hs => ?_
  refine nl ?_
  have hsh := oi hsh
  subst hsh
  refine wp_ret ?_
  refine then_ret ?_
  exact ret1 hs rfl (rv_tmp rfl) (hw.ret ⟨p2, k3, c4, rfl, (hw.outs [0] (by decide) rfl), (hw.envAt 1 rfl)⟩)
 have hsh := ite_f hsh h7
 refine wp_skip ?_
 refine then_normal ?_
 refine wp_seq ?_
 refine sr ?_
 refine av hs rfl rfl fun a hs => ?_
 refine nl ?_
 refine wp_block ?_
 refine wp_while (fun sv628 a w => ∃ (Sv1040 : Nat → Prop), Sl 61 [(0, .slice p2 s1.length k3), (3, .int .i64 sv628)] a ∧ Wd ⟨w0, S0, blks [.row p2 s1.length k3 c4 66 9]⟩ Sv1040 [.row p2 s1.length k3 c4 66 9] [RowA c4 s1, LenA s1.length s1] w) 1 hsh ⟨S0, (hs.wk rfl), (hw.ft [0] [1, 0] (by decide) rfl rfl)⟩ ?_
 repeat clear hsh
 rintro sv628 a w tv1247 ⟨Sv1040, hs, hw⟩ hsh hd1246
 delta slices_Compact_Lapi_Pick_api_Pick_l7 at hsh
 refine wp_seq ?_
 refine sr ?_
 refine mv hs rfl rfl fun a hs => ?_
 refine mv hs rfl rfl fun a hs => ?_
 refine sv hs (y_len Tryz.runUnderlying29 rfl) rfl fun a hs => ?_
 refine sv hs (y_lss rfl rfl) rfl fun a hs => ?_
 refine nl ?_
 refine wp_cond_split (hs.ev rfl) (fun h1251 => ?_) (fun h1251 => ?_)
 ·have hsh := ite_t hsh h1251
  refine wp_skip ?_
  refine then_normal ?_
  refine wp_seq ?_
  refine wp_block ?_
  refine wp_seq ?_
  obtain ⟨x1456, h1454, hsh⟩ := bind_t hsh
  obtain ⟨b1463, q1460, c1461, h1464, h1457, h1458, h1462, h1455⟩ := hw.elemRV (α := Pick) 0 rfl 0 rfl h1454
  have hsv1465 := hs
  have hwv1466 := hw
  subst h1464
  have hs := hsv1465
  have hw := hwv1466
  obtain ⟨_, _, _, _, _, _, _, _, _, rfl, rfl, rfl, rfl, rfl, rfl, rfl, rfl, rfl, rfl⟩ := h1455
  obtain ⟨x1469, h1467, hsh⟩ := bind_t hsh
  obtain ⟨q1473, c1474, h1470, h1471, h1475, h1468⟩ := hw.elemRK (α := Pick) 0 rfl 0 rfl h1467
  obtain ⟨_, _, _, _, _, _, _, _, _, rfl, rfl, rfl, rfl, rfl, rfl, rfl, rfl, rfl, rfl⟩ := h1468
  refine wp_only (fun a w => ∃ (Sv1476 : Nat → Prop), Sl 61 [(0, .slice (some ⟨b1463, 0, none⟩) s1.length k3), (3, .int .i64 sv628), (25, .bool (((x1456.Source.Network == x1469.Source.Network) && ((x1456.Source.Station == x1469.Source.Station) && ((x1456.Source.Location == x1469.Source.Location) && ((x1456.Source.Channel == x1469.Source.Channel) && true)))) && ((x1456.Time == x1469.Time) && ((x1456.Early == x1469.Early) && ((x1456.Late == x1469.Late) && ((x1456.Amplitude == x1469.Amplitude) && ((x1456.Polarity == x1469.Polarity) && true)))))))] a ∧ Wd ⟨w0, S0, blks [.row (some ⟨b1463, 0, none⟩) s1.length k3 c4 66 9]⟩ Sv1476 [.row (some ⟨b1463, 0, none⟩) s1.length k3 c4 66 9] [RowA c4 s1, LenA s1.length s1] w) ?_ ?_
  ·refine h_b (C := Cls [.row (some ⟨b1463, 0, none⟩) s1.length k3 c4 66 9] []) (by kernel_rfl) rfl (hw.drew.cs [0] [] rfl rfl) fun hC => ?_
   have hw := hw.drew
   refine gm hs 0 rfl rfl rfl hC fun a hs => ?_
   refine gm hs 1 rfl rfl rfl hC fun a hs => ?_
   refine gv hs 2 rfl rfl hC (fun w hC => y_indexAt Tryz.runUnderlying29 Tryz.sizeOf66 rfl rfl h1457.1 h1457.2 h1458) fun a hs => ?_
   refine gv hs 3 rfl rfl hC (fun w hC => y_loadQA (j := 0) (hC.ownAt 0 rfl) rfl Tryz.isAgg66 Tryz.sizeOf66 h1462 rfl rfl) fun a hs => ?_
   refine gm hs 4 rfl rfl rfl hC fun a hs => ?_
   refine gm hs 5 rfl rfl rfl hC fun a hs => ?_
   refine gv hs 6 rfl rfl hC (fun w hC => y_sub rfl rfl) fun a hs => ?_
   refine gv hs 7 rfl rfl hC (fun w hC => y_indexAt Tryz.runUnderlying29 Tryz.sizeOf66 rfl rfl h1470.1 h1470.2 h1471) fun a hs => ?_
   refine gv hs 8 rfl rfl hC (fun w hC => y_loadQA (j := 0) (hC.ownAt 0 rfl) rfl Tryz.isAgg66 Tryz.sizeOf66 h1475 rfl rfl) fun a hs => ?_
   refine gv hs 9 rfl rfl hC (fun w hC => y_eqlA (by kernel_rfl) rfl rfl (eqv_struct Tryz.runUnderlying66 (by kernel_rfl) (EqF.consA rfl Tryz.isAgg41 Tryz.sizeOf41 rfl rfl (eqv_struct Tryz.runUnderlying41 (by kernel_rfl) (EqF.cons1 rfl Tryz.isAgg9 rfl rfl (eqv_str Tryz.runUnderlying9) (EqF.cons1 rfl Tryz.isAgg9 rfl rfl (eqv_str Tryz.runUnderlying9) (EqF.cons1 rfl Tryz.isAgg9 rfl rfl (eqv_str Tryz.runUnderlying9) (EqF.cons1 rfl Tryz.isAgg9 rfl rfl (eqv_str Tryz.runUnderlying9) EqF.nil))))) (EqF.cons1 rfl Tryz.isAgg3 rfl rfl (eqv_int Tryz.runUnderlying3) (EqF.cons1 rfl Tryz.isAgg3 rfl rfl (eqv_int Tryz.runUnderlying3) (EqF.cons1 rfl Tryz.isAgg3 rfl rfl (eqv_int Tryz.runUnderlying3) (EqF.cons1 rfl Tryz.isAgg3 rfl rfl (eqv_int Tryz.runUnderlying3) (EqF.cons1 rfl Tryz.isAgg3 rfl rfl (eqv_int Tryz.runUnderlying3) EqF.nil)))))))) fun a hs => ?_
   refine h_done (by kernel_rfl) ?_
   exact ⟨Sv1040, (hs.wk rfl), (hw.ft [0] [0, 1] (by decide) rfl rfl)⟩
  rintro a w ⟨Sv1476, hs, hw⟩
  refine then_normal ?_
  refine wp_cond_split (hs.ev rfl) (fun h1656 => ?_) (fun h1656 => ?_)
  ·have hsh := ite_t hsh h1656
   refine sr ?_
   refine mv hs rfl rfl fun a hs => ?_
   refine mv hs rfl rfl fun a hs => ?_
   obtain ⟨l1661, h1657, hsh⟩ := bind_t hsh
   obtain ⟨o1659, k1660, h1658⟩ := row_sub_at (α := Pick) hw 0 rfl h1657
   refine sv hs (y_slc Tryz.runUnderlying29 Tryz.sizeOf66 rfl ⟨_, rfl⟩ (by exact rfl) h1658) rfl fun a hs => ?_
   refine av hs rfl rfl fun a hs => ?_
   refine nl ?_
   refine wp_seq ?_
   refine sr ?_
   refine av hs rfl rfl fun a hs => ?_
   refine nl ?_
   obtain ⟨e1817, h1958, hsh⟩ := bind_t hsh
   refine wp_join (fun a w => ∃ (c1818 : List Value) (Sv1819 : Nat → Prop), Sl 61 [(0, .slice (some ⟨b1463, 0, none⟩) e1817.1.length k3), (3, .int .i64 e1817.2)] a ∧ Wd ⟨w0, S0, blks [.row (some ⟨b1463, 0, none⟩) s1.length k3 c4 66 9]⟩ Sv1819 [.row (some ⟨b1463, 0, none⟩) e1817.1.length k3 c1818 66 9] [RowA c1818 e1817.1, LenA s1.length e1817.1] w) ?_ ?_
   ·refine wp_block ?_
    refine wp_while (fun sv1662 a w => ∃ (c1763 : List Value) (Sv1764 : Nat → Prop), Sl 61 [(0, .slice (some ⟨b1463, 0, none⟩) sv1662.1.length k3), (3, .int .i64 sv1662.2.1), (4, .slice (some ⟨b1463, o1659, none⟩) l1661.length k1660), (5, .int .i64 sv1662.2.2)] a ∧ Wd ⟨w0, S0, blks [.row (some ⟨b1463, 0, none⟩) s1.length k3 c4 66 9]⟩ Sv1764 [.row (some ⟨b1463, 0, none⟩) sv1662.1.length k3 c1763 66 9] [RowA c1763 sv1662.1, LenA s1.length sv1662.1] w) (s1, sv628, 1) h1958 ⟨c4, Sv1476, (hs.wk rfl), (hw.ft [0] [0, 1] (by decide) rfl rfl)⟩ ?_
    clear h1958
    repeat clear hsh
    rintro sv1662 a w tv1815 ⟨c1763, Sv1764, hs, hw⟩ hsh hd1814
    delta slices_Compact_Lapi_Pick_api_Pick_l11 at hsh
    refine wp_seq ?_
    refine sr ?_
    refine mv hs rfl rfl fun a hs => ?_
    refine mv hs rfl rfl fun a hs => ?_
    refine sv hs (y_len Tryz.runUnderlying29 rfl) rfl fun a hs => ?_
    refine sv hs (y_lss rfl rfl) rfl fun a hs => ?_
    refine nl ?_
    refine wp_cond_split (hs.ev rfl) (fun h1821 => ?_) (fun h1821 => ?_)
    ·have hsh := ite_t hsh h1821
     refine wp_skip ?_
     refine then_normal ?_
     refine wp_seq ?_
     refine wp_block ?_
     refine wp_seq ?_
     obtain ⟨x1875, h1868, hsh⟩ := bind_t hsh
     obtain ⟨q1873, c1874, h1870, h1871, h1872, h1869⟩ := hw.elemLK (α := Pick) 0 rfl 0 rfl h1658 h1868
     obtain ⟨_, _, _, _, _, _, _, _, _, rfl, rfl, rfl, rfl, rfl, rfl, rfl, rfl, rfl, rfl⟩ := h1869
     obtain ⟨x1883, h1876, hsh⟩ := bind_t hsh
     obtain ⟨q1881, c1882, h1878, h1879, h1880, h1877⟩ := hw.elemLK (α := Pick) 0 rfl 0 rfl h1658 h1876
     obtain ⟨_, _, _, _, _, _, _, _, _, rfl, rfl, rfl, rfl, rfl, rfl, rfl, rfl, rfl, rfl⟩ := h1877
     refine wp_only (fun a w => ∃ (Sv1884 : Nat → Prop), Sl 61 [(0, .slice (some ⟨b1463, 0, none⟩) sv1662.1.length k3), (3, .int .i64 sv1662.2.1), (4, .slice (some ⟨b1463, o1659, none⟩) l1661.length k1660), (5, .int .i64 sv1662.2.2), (44, .bool (!(((x1875.Source.Network == x1883.Source.Network) && ((x1875.Source.Station == x1883.Source.Station) && ((x1875.Source.Location == x1883.Source.Location) && ((x1875.Source.Channel == x1883.Source.Channel) && true)))) && ((x1875.Time == x1883.Time) && ((x1875.Early == x1883.Early) && ((x1875.Late == x1883.Late) && ((x1875.Amplitude == x1883.Amplitude) && ((x1875.Polarity == x1883.Polarity) && true))))))))] a ∧ Wd ⟨w0, S0, blks [.row (some ⟨b1463, 0, none⟩) s1.length k3 c4 66 9]⟩ Sv1884 [.row (some ⟨b1463, 0, none⟩) sv1662.1.length k3 c1763 66 9] [RowA c1763 sv1662.1, LenA s1.length sv1662.1] w) ?_ ?_
     ·refine h_b (C := Cls [.row (some ⟨b1463, 0, none⟩) sv1662.1.length k3 c1763 66 9] []) (by kernel_rfl) rfl (hw.drew.cs [0] [] rfl rfl) fun hC => ?_
      have hw := hw.drew
      refine gm hs 0 rfl rfl rfl hC fun a hs => ?_
      refine gm hs 1 rfl rfl rfl hC fun a hs => ?_
      refine gv hs 2 rfl rfl hC (fun w hC => y_indexAt Tryz.runUnderlying29 Tryz.sizeOf66 rfl rfl h1870.1 h1870.2 h1871) fun a hs => ?_
      refine gv hs 3 rfl rfl hC (fun w hC => y_loadQA (j := 0) (hC.ownAt 0 rfl) rfl Tryz.isAgg66 Tryz.sizeOf66 h1872 rfl rfl) fun a hs => ?_
      refine gm hs 4 rfl rfl rfl hC fun a hs => ?_
      refine gm hs 5 rfl rfl rfl hC fun a hs => ?_
      refine gv hs 6 rfl rfl hC (fun w hC => y_sub rfl rfl) fun a hs => ?_
      refine gv hs 7 rfl rfl hC (fun w hC => y_indexAt Tryz.runUnderlying29 Tryz.sizeOf66 rfl rfl h1878.1 h1878.2 h1879) fun a hs => ?_
      refine gv hs 8 rfl rfl hC (fun w hC => y_loadQA (j := 0) (hC.ownAt 0 rfl) rfl Tryz.isAgg66 Tryz.sizeOf66 h1880 rfl rfl) fun a hs => ?_
      refine gv hs 9 rfl rfl hC (fun w hC => y_neqA (by kernel_rfl) rfl rfl (eqv_struct Tryz.runUnderlying66 (by kernel_rfl) (EqF.consA rfl Tryz.isAgg41 Tryz.sizeOf41 rfl rfl (eqv_struct Tryz.runUnderlying41 (by kernel_rfl) (EqF.cons1 rfl Tryz.isAgg9 rfl rfl (eqv_str Tryz.runUnderlying9) (EqF.cons1 rfl Tryz.isAgg9 rfl rfl (eqv_str Tryz.runUnderlying9) (EqF.cons1 rfl Tryz.isAgg9 rfl rfl (eqv_str Tryz.runUnderlying9) (EqF.cons1 rfl Tryz.isAgg9 rfl rfl (eqv_str Tryz.runUnderlying9) EqF.nil))))) (EqF.cons1 rfl Tryz.isAgg3 rfl rfl (eqv_int Tryz.runUnderlying3) (EqF.cons1 rfl Tryz.isAgg3 rfl rfl (eqv_int Tryz.runUnderlying3) (EqF.cons1 rfl Tryz.isAgg3 rfl rfl (eqv_int Tryz.runUnderlying3) (EqF.cons1 rfl Tryz.isAgg3 rfl rfl (eqv_int Tryz.runUnderlying3) (EqF.cons1 rfl Tryz.isAgg3 rfl rfl (eqv_int Tryz.runUnderlying3) EqF.nil)))))))) fun a hs => ?_
      refine h_done (by kernel_rfl) ?_
      exact ⟨Sv1764, (hs.wk rfl), (hw.ft [0] [0, 1] (by decide) rfl rfl)⟩
     rintro a w ⟨Sv1884, hs, hw⟩
     refine then_normal ?_
     refine wp_join (fun a w => ∃ (sv1912 : (List Pick)) (k1913 : Int) (c1910 : List Value) (Sv1911 : Nat → Prop), slices_Compact_Lapi_Pick_api_Pick_j1 sv1662 sv1912 k1913 = some tv1815 ∧ Sl 61 [(0, .slice (some ⟨b1463, 0, none⟩) sv1912.length k3), (3, .int .i64 k1913), (4, .slice (some ⟨b1463, o1659, none⟩) l1661.length k1660), (5, .int .i64 sv1662.2.2)] a ∧ Wd ⟨w0, S0, blks [.row (some ⟨b1463, 0, none⟩) s1.length k3 c4 66 9]⟩ Sv1911 [.row (some ⟨b1463, 0, none⟩) sv1912.length k3 c1910 66 9] [RowA c1910 sv1912, LenA s1.length sv1912] w) ?_ ?_
     ·refine wp_cond_split (hs.ev rfl) (fun h1916 => ?_) (fun h1916 => ?_)
      ·have hsh := ite_t hsh h1916
       refine sr ?_
       refine mv hs rfl rfl fun a hs => ?_
       refine mv hs rfl rfl fun a hs => ?_
       refine mv hs rfl rfl fun a hs => ?_
       refine mv hs rfl rfl fun a hs => ?_
       obtain ⟨x1924, h1917, hsh⟩ := bind_t hsh
       obtain ⟨q1922, c1923, h1919, h1920, h1921, h1918⟩ := hw.elemLK (α := Pick) 0 rfl 0 rfl h1658 h1917
       obtain ⟨_, _, _, _, _, _, _, _, _, rfl, rfl, rfl, rfl, rfl, rfl, rfl, rfl, rfl, rfl⟩ := h1918
       refine sv hs (y_indexAt Tryz.runUnderlying29 Tryz.sizeOf66 rfl rfl h1919.1 h1919.2 h1920) rfl fun a hs => ?_
       refine sv hs (y_loadQA (j := 0) (hw.ownAt 0 rfl) rfl Tryz.isAgg66 Tryz.sizeOf66 h1921 rfl rfl) rfl fun a hs => ?_
       obtain ⟨x1927, h1925, hsh⟩ := bind_t hsh
       obtain ⟨q1931, c1932, h1928, h1929, h1933, h1926⟩ := hw.elemRK (α := Pick) 0 rfl 0 rfl h1925
       obtain ⟨_, _, _, _, _, _, _, _, _, rfl, rfl, rfl, rfl, rfl, rfl, rfl, rfl, rfl, rfl⟩ := h1926
       refine sv hs (y_indexAt Tryz.runUnderlying29 Tryz.sizeOf66 rfl rfl h1928.1 h1928.2 h1929) rfl fun a hs => ?_
       obtain ⟨l1935, h1934, hsh⟩ := bind_t hsh
       have h1938 := hw.envAt 1 rfl
       refine w_storeF (α := Pick) hs hw 0 rfl 0 rfl h1929 rfl rfl Tryz.sizeOf66 rfl h1934 ⟨_, _, _, _, _, _, _, _, _, rfl, rfl, rfl, rfl, rfl, rfl, rfl, rfl, rfl, rfl⟩ trivial ?_
       intro c1936 a w hs hw
       have hw := hw.addE (e := LenA s1.length l1935) (len_set (w := w) (S := S0) h1938 h1934)
       have h1937 := setM_len h1934
       try have hs := hs.fl 0 rfl h1937
       try have hs := hs.fl 45 rfl h1937
       refine nl ?_
       refine wp_region_lit ?_
       refine mv hs rfl rfl fun a hs => ?_
       refine sv hs (y_add rfl rfl) rfl fun a hs => ?_
       obtain ⟨k1940, h1939, hsh⟩ := bind_t hsh
       refine sv hs (y_assignI rfl h1939) rfl fun a hs => ?_
       refine nl ?_
       exact ⟨l1935, k1940, c1936, Sv1884, hsh, (hs.wk rfl), (hw.ft [0] [1, 0] (by decide) rfl rfl)⟩
      have hsh := ite_f hsh h1916
      refine wp_skip ?_
      refine then_normal ?_
      exact ⟨sv1662.1, sv1662.2.1, c1763, Sv1884, hsh, (hs.wk rfl), (hw.ft [0] [0, 1] (by decide) rfl rfl)⟩
     rintro a w ⟨sv1912, k1913, c1910, Sv1911, hsh, hs, hw⟩
     delta slices_Compact_Lapi_Pick_api_Pick_j1 at hsh
     refine blk_normal ?_
     refine then_normal ?_
     refine wp_region_lit ?_
     refine mv hs rfl rfl fun a hs => ?_
     refine sv hs (y_add rfl rfl) rfl fun a hs => ?_
     obtain ⟨k2_1915, h1914, hsh⟩ := bind_t hsh
     refine sv hs (y_assignI rfl h1914) rfl fun a hs => ?_
     refine nl ?_
     exact ⟨_, (Option.some.inj hsh).symm, c1910, Sv1911, (hs.wk rfl), (hw.ft [0] [0, 1] (by decide) rfl rfl)⟩
    have hsh := ite_f hsh h1821
    refine wp_exit ?_
    refine then_exit ?_
    refine then_exit ?_
    refine blk_exit ?_
    have hsh := oi hsh
    subst hsh
    have h1941 := hd1814 _ rfl
    subst h1941
    refine then_normal ?_
    exact ⟨c1763, Sv1764, (hs.wk rfl), (hw.ft [0] [0, 1] (by decide) rfl rfl)⟩
   rintro a w ⟨c1818, Sv1819, hs, hw⟩
   refine then_normal ?_
   refine sr ?_
   refine mv hs rfl rfl fun a hs => ?_
   refine mv hs rfl rfl fun a hs => ?_
   obtain ⟨l1946, h1942, hsh⟩ := bind_t hsh
   obtain ⟨p1944, k1945, h1943⟩ := row_sub (α := Pick) hw 0 rfl h1942
   refine sv hs (y_slc Tryz.runUnderlying29 Tryz.sizeOf66 rfl ⟨_, rfl⟩ (by exact rfl) h1943) rfl fun a hs => ?_
   obtain ⟨l1947, h1948, hsh⟩ := bind_t hsh
   have h1953 := hw.envAt 1 rfl
   refine w_clear (α := Pick) (z0 := ((⟨(⟨ByteArray.empty, ByteArray.empty, ByteArray.empty, ByteArray.empty⟩ : SourceID), 0, 0, 0, 0, 0⟩ : Pick) : Pick)) hs hw 0 rfl 0 rfl El29 ⟨_, _, _, _, _, _, _, _, _, rfl, rfl, rfl, rfl, rfl, rfl, rfl, rfl, rfl, rfl⟩ h1942 h1943 rfl trivial ?_
   intro c1949 a w hs hw
   rw [Option.some.inj h1948] at hw
   have hw := hw.addE (e := LenA s1.length l1947) (by have q := len_copy (w := w) (S := S0) (S' := S0) (w' := w) (ys := List.replicate l1946.length ((⟨(⟨ByteArray.empty, ByteArray.empty, ByteArray.empty, ByteArray.empty⟩ : SourceID), 0, 0, 0, 0, 0⟩ : Pick) : Pick)) h1953 h1942; rw [Option.some.inj h1948] at q; exact q)
   have h1950 := (copy_lenS h1942 h1948)
   try have hs := hs.fl 0 rfl h1950
   try have hs := hs.fl 54 rfl h1950
   refine nl ?_
   refine sr ?_
   refine mv hs rfl rfl fun a hs => ?_
   refine mv hs rfl rfl fun a hs => ?_
   obtain ⟨l1956, h1954, hsh⟩ := bind_t hsh
   obtain ⟨hw, h1955⟩ := w_cut hw 0 rfl 1 rfl h1954
   refine sv hs (y_slc Tryz.runUnderlying29 Tryz.sizeOf66 rfl (by exact rfl) ⟨_, rfl⟩ h1955) rfl fun a hs => ?_
   refine av hs rfl rfl fun a hs => ?_
   refine nl ?_
   have hsh := oi hsh
   subst hsh
   have h1957 := hd1246 _ rfl
   subst h1957
   refine wp_ret ?_
   refine blk_ret ?_
   refine then_ret ?_
   refine then_ret ?_
   refine blk_ret ?_
   refine then_ret ?_
   exact ret1 hs rfl (rv_tmp rfl) (hw.ret ⟨(some ⟨b1463, 0, none⟩), k3, (c1949.take (l1956.length * 9)), rfl, (hw.outs [0] (by decide) rfl), (hw.envAt 0 rfl)⟩)
  have hsh := ite_f hsh h1656
  refine wp_skip ?_
  refine blk_normal ?_
  refine then_normal ?_
  refine wp_region_lit ?_
  refine mv hs rfl rfl fun a hs => ?_
  refine sv hs (y_add rfl rfl) rfl fun a hs => ?_
  obtain ⟨k1960, h1959, hsh⟩ := bind_t hsh
  refine sv hs (y_assignI rfl h1959) rfl fun a hs => ?_
  refine nl ?_
  exact ⟨_, (Option.some.inj hsh).symm, Sv1476, (hs.wk rfl), (hw.ft [0] [0, 1] (by decide) rfl rfl)⟩
 have hsh := ite_f hsh h1251
 obtain ⟨rv1961, hsh, h1962⟩ := map_t hsh
 have h1962 := (hd1246 _ h1962.symm).symm
 subst h1962
 refine wp_exit ?_
 refine then_exit ?_
 refine then_exit ?_
 refine blk_exit ?_
 refine then_normal ?_
 refine sr ?_
 refine mv hs rfl rfl fun a hs => ?_
 refine av hs rfl rfl fun a hs => ?_
 refine nl ?_
 have hsh := oi hsh
 subst hsh
 refine wp_ret ?_
 exact ret1 hs rfl (rv_tmp rfl) (hw.ret ⟨p2, k3, c4, rfl, (hw.outs [0] (by decide) rfl), (hw.envAt 0 rfl)⟩)
abbrev picker_Sort_rd (w0 : World) (X : List Nat) (r : (List Pick)) : (Nat → Prop) → World → Value → Prop := fun S w v => ∃ (p0_0 : Option Addr) (k0_0 : Nat) (c0_0 : List Value), v = .slice p0_0 r.length k0_0 ∧ Outs X w0 S w [.row p0_0 r.length k0_0 c0_0 66 9] ∧ (RowA c0_0 r).p S w
set_option maxHeartbeats 4000000 in
set_option maxRecDepth 100000 in
theorem picker_Sort_ok {w0 : World} {S0 : Nat → Prop} {p2 : Option Addr} {k3 : Nat} {l1 : (List Pick)} {r : (List Pick)} (hsh : picker_Sort l1 = some r) (hS : ∀ b, S0 b → b < w0.heap.size) (h4 : (SlA p2 l1.length k3 l1).p S0 w0) : Calls Tryz.prog 23 #[.slice p2 l1.length k3] w0 (Ret ([]) w0 S0 (picker_Sort_rd w0 ([]) r)) := by
 refine calls_of_wp Tryz.func23 rfl ?_
 have hs := Sl.enter #[.slice p2 l1.length k3] 10 [(0, .slice p2 l1.length k3)] rfl ⟨rfl, trivial⟩
 have hw := Wd.enter (E := []) hS (fun _ h => (by cases h))
 have hw := hw.addE h4
 delta picker_Sort at hsh
 refine sr ?_
 refine av hs rfl rfl fun a hs => ?_
 refine nl ?_
 refine sr ?_
 refine mv hs rfl rfl fun a hs => ?_
 obtain ⟨rv6, h5, hsh⟩ := bind_t hsh
 refine st_callR hs (slices_Clone_Lapi_Pick_api_Pick_ok h5 hw.dom (hw.envAt 0 rfl)) (do_call Tryz.call49 rfl) trivial rfl rfl ?_
 intro v14 Sv11 w a h12 h13 hs
 obtain ⟨p7, k8, c10, rfl, h15, h9⟩ := h13
 have hw := hw.callN h12 h15
 have hw := hw.addE (e := RowA c10 rv6) h9
 refine av hs rfl rfl fun a hs => ?_
 refine nl ?_
 refine sr ?_
 refine mv hs rfl rfl fun a hs => ?_
 obtain ⟨rv17, h16, hsh⟩ := bind_t hsh
 refine st_callR hs (slices_SortFunc_Lapi_Pick_api_Pick_ok h16 hw.dom (hw.ins [0] (by decide) rfl) (hw.envAt 0 rfl) (picker_Compare_fn _ _)) (do_call Tryz.call50 rfl) trivial rfl rfl ?_
 intro v24 Sv21 w a h22 h23 hs
 obtain ⟨c18, rfl, h25, h19, h20⟩ := h23
 have hw := hw.callO [0] [] (by decide) rfl h22 h25
 have hw := hw.addE (e := RowA c18 rv17) h19
 have h26 := h20
 have h27 := Eq.symm h26
 try have hs := hs.fl 3 rfl h27
 try have hs := hs.fl 6 rfl h27
 refine nl ?_
 refine sr ?_
 refine mv hs rfl rfl fun a hs => ?_
 obtain ⟨rv29, h28, hsh⟩ := bind_t hsh
 refine st_callR hs (slices_Compact_Lapi_Pick_api_Pick_ok h28 hw.dom (hw.ins [0] (by decide) rfl) (hw.envAt 0 rfl)) (do_call Tryz.call51 rfl) trivial rfl rfl ?_
 intro v37 Sv34 w a h35 h36 hs
 obtain ⟨p30, k31, c33, rfl, h38, h32⟩ := h36
 have hw := hw.callO [0] [] (by decide) rfl h35 h38
 have hw := hw.addE (e := RowA c33 rv29) h32
 refine av hs rfl rfl fun a hs => ?_
 refine nl ?_
 have hsh := oi hsh
 subst hsh
 refine wp_ret ?_
 exact ret1 hs rfl (rv_tmp rfl) (hw.ret ⟨p30, k31, c33, rfl, (hw.outs [0] (by decide) rfl), (hw.envAt 0 rfl)⟩)
abbrev picker_Run_rd (w0 : World) (X : List Nat) (r : ((List Pick) × Int)) : (Nat → Prop) → World → Value → Prop := fun S w v => ∃ (p0_0 : Option Addr) (k0_0 : Nat) (c0_0 : List Value), v = .tuple #[.slice p0_0 r.1.length k0_0, .int .i64 r.2] ∧ Outs X w0 S w [.row p0_0 r.1.length k0_0 c0_0 66 9] ∧ (RowA c0_0 r.1).p S w
set_option maxHeartbeats 4000000 in
set_option maxRecDepth 100000 in
theorem picker_Run_ok {w0 : World} {S0 : Nat → Prop} {p4 : Option Addr} {k5 : Nat} {p1 : Picking} {s2 : SourceID} {l3 : (List Segment)} {r : ((List Pick) × Int)} (hsh : picker_Run p1 s2 l3 = some r) (hS : ∀ b, S0 b → b < w0.heap.size) (h6 : (SlA p4 l3.length k5 l3).p S0 w0) : Calls Tryz.prog 18 #[.agg #[.int .i64 p1.Detector.Short, .int .i64 p1.Detector.Long, .int .i64 p1.Detector.On, .int .i64 p1.Detector.Off, .int .i64 p1.Back, .int .i64 p1.Level, .int .i64 p1.Floor], .agg #[.string s2.Network, .string s2.Station, .string s2.Location, .string s2.Channel], .slice p4 l3.length k5] w0 (Ret ([]) w0 S0 (picker_Run_rd w0 ([]) r)) := by
 refine calls_of_wp Tryz.func18 rfl ?_
 have hs := Sl.enter #[.agg #[.int .i64 p1.Detector.Short, .int .i64 p1.Detector.Long, .int .i64 p1.Detector.On, .int .i64 p1.Detector.Off, .int .i64 p1.Back, .int .i64 p1.Level, .int .i64 p1.Floor], .agg #[.string s2.Network, .string s2.Station, .string s2.Location, .string s2.Channel], .slice p4 l3.length k5] 44 [(0, .agg #[.int .i64 p1.Detector.Short, .int .i64 p1.Detector.Long, .int .i64 p1.Detector.On, .int .i64 p1.Detector.Off, .int .i64 p1.Back, .int .i64 p1.Level, .int .i64 p1.Floor]), (1, .agg #[.string s2.Network, .string s2.Station, .string s2.Location, .string s2.Channel]), (2, .slice p4 l3.length k5)] rfl ⟨rfl, rfl, rfl, trivial⟩
 have hw := Wd.enter (E := []) hS (fun _ h => (by cases h))
 have hw := hw.addE h6
 delta picker_Run at hsh
 refine sr ?_
 refine w_box (cs := [.int .i64 p1.Detector.Short, .int .i64 p1.Detector.Long, .int .i64 p1.Detector.On, .int .i64 p1.Detector.Off, .int .i64 p1.Back, .int .i64 p1.Level, .int .i64 p1.Floor]) hs hw rfl rfl rfl trivial ?_
 intro b7 a w hs hw
 refine w_box (cs := [.string s2.Network, .string s2.Station, .string s2.Location, .string s2.Channel]) hs hw rfl rfl rfl trivial ?_
 intro b8 a w hs hw
 refine av hs rfl rfl fun a hs => ?_
 refine av hs rfl rfl fun a hs => ?_
 refine nl ?_
 refine wp_seq ?_
 refine sr ?_
 refine sv hs (y_loadBA (hw.ownAt 1 rfl) rfl Tryz.isAgg26 Tryz.sizeOf26 rfl rfl) rfl fun a hs => ?_
 refine sv hs (y_loadBA (hw.ownAt 0 rfl) rfl Tryz.isAgg41 Tryz.sizeOf41 rfl rfl) rfl fun a hs => ?_
 refine mv hs rfl rfl fun a hs => ?_
 obtain ⟨rv10, h9, hsh⟩ := bind_t hsh
 refine st_callR hs (picker_valid_ok h9 hw.bdom (hw.bE 0 rfl)) (do_call Tryz.call42 rfl) trivial rfl rfl ?_
 intro v14 Sv11 w a h12 h13 hs
 subst h13
 have hw := hw.callB h12
 refine sv hs (y_not rfl) rfl fun a hs => ?_
 refine nl ?_
 refine wp_cond_split (hs.ev rfl) (fun h17 => ?_) (fun h17 => ?_)
 ·have hsh := ite_t hsh h17
  refine sr ?_
  refine av hs rfl rfl fun a hs => ?_
  refine av hs rfl rfl fun a hs => ?_
  refine nl ?_
  have hsh := oi hsh
  subst hsh
  have hw := hw.nilRow Pick 66
  refine wp_ret ?_
  refine then_ret ?_
  exact ret2 hs rfl (rv_tmp rfl) (rv_tmp rfl) (hw.ret ⟨none, 0, [], rfl, (hw.outs [0] (by decide) rfl), (hw.envAt 0 rfl)⟩)
 have hsh := ite_f hsh h17
 refine wp_skip ?_
 refine then_normal ?_
 refine sr ?_
 refine av hs rfl rfl fun a hs => ?_
 refine nl ?_
 refine wp_seq ?_
 refine sr ?_
 refine mv hs rfl rfl fun a hs => ?_
 refine sv hs (y_len Tryz.runUnderlying30 rfl) rfl fun a hs => ?_
 refine mv hs rfl rfl fun a hs => ?_
 refine nl ?_
 refine wp_block ?_
 have hw := hw.nilRow Pick 66
 refine wp_while (fun sv137 a w => ∃ (c214 : List Value) (p215 : Option Addr) (k216 : Nat) (Sv217 : Nat → Prop), Sl 44 [(3, .pointer (some ⟨b7, 0, none⟩)), (4, .pointer (some ⟨b8, 0, none⟩)), (8, .slice p215 sv137.1.length k216), (18, .slice p4 l3.length k5), (19, .int .i64 (l3.length : Int)), (20, .int .i64 sv137.2)] a ∧ Wd ⟨w0, S0, []⟩ Sv217 [.box b7 [.int .i64 p1.Detector.Short, .int .i64 p1.Detector.Long, .int .i64 p1.Detector.On, .int .i64 p1.Detector.Off, .int .i64 p1.Back, .int .i64 p1.Level, .int .i64 p1.Floor] 26, .box b8 [.string s2.Network, .string s2.Station, .string s2.Location, .string s2.Channel] 41, .row p215 sv137.1.length k216 c214 66 9] [SlA p4 l3.length k5 l3, RowA c214 sv137.1] w) (([] : List Pick), 0) hsh ⟨[], none, 0, S0, (hs.wk rfl), (hw.ft [2, 1, 0] [1, 0] (by decide) rfl rfl)⟩ ?_
 repeat clear hsh
 rintro sv137 a w tv255 ⟨c214, p215, k216, Sv217, hs, hw⟩ hsh hd254
 delta picker_Run_l2 at hsh
 refine sr ?_
 refine sv hs (y_lss rfl rfl) rfl fun a hs => ?_
 refine nl ?_
 refine wp_seq ?_
 refine wp_cond_split (hs.ev rfl) (fun h259 => ?_) (fun h259 => ?_)
 ·have hsh := ite_t hsh h259
  refine wp_skip ?_
  refine then_normal ?_
  refine wp_seq ?_
  refine wp_block ?_
  refine sr ?_
  obtain ⟨x297, h295, hsh⟩ := bind_t hsh
  obtain ⟨b303, o304, q301, c302, h305, h298, h299, h300, h296⟩ := hw.elemV 0 rfl h295
  have hsv306 := hs
  have hwv307 := hw
  subst h305
  have hs := hsv306
  have hw := hwv307
  obtain ⟨_, _, _, _, _, _, rfl, rfl, rfl, rfl, rfl, rfl, ⟨p308, n309, k310, rfl, h311⟩⟩ := h296
  obtain rfl := h311.1
  have hw := hw.addE (e := SlA p308 _ k310 x297.Samples) h311
  have hw := hw.addE h300
  refine sv hs (y_indexAt Tryz.runUnderlying30 Tryz.sizeOf36 rfl rfl h298.1 h298.2 h299) rfl fun a hs => ?_
  refine sv hs (y_loadEA (j := 0) (hw.ceAt 0 rfl) rfl Tryz.isAgg36 Tryz.sizeOf36 rfl rfl) rfl fun a hs => ?_
  refine w_alloc (cs := [.int .i64 0, .int .i64 0, .int .i64 0, .int .i64 0, .int .i64 0, .slice none ([] : List Int).length 0]) hs hw Tryz.zeroValue36 rfl rfl trivial ?_
  intro b312 a w hs hw
  refine w_store (m := 6) (cs' := [.int .i64 x297.Start, .int .i64 x297.First, .int .i64 x297.Rate.Num, .int .i64 x297.Rate.Den, .int .i64 x297.Error, .slice p308 x297.Samples.length k310]) hs hw 0 rfl rfl rfl Tryz.sizeOf36 rfl rfl rfl rfl trivial ?_
  intro a w hs hw
  refine nl ?_
  refine sr ?_
  refine sv hs (y_loadBA (hw.ownAt 1 rfl) rfl Tryz.isAgg26 Tryz.sizeOf26 rfl rfl) rfl fun a hs => ?_
  refine sv hs (y_loadBA (hw.ownAt 2 rfl) rfl Tryz.isAgg41 Tryz.sizeOf41 rfl rfl) rfl fun a hs => ?_
  refine sv hs (y_loadBA (hw.ownAt 0 rfl) rfl Tryz.isAgg36 Tryz.sizeOf36 rfl rfl) rfl fun a hs => ?_
  obtain ⟨rv314, h313, hsh⟩ := bind_t hsh
  refine st_callR hs (picker_Segment_ok h313 hw.dom (hw.envAt 1 rfl)) (do_call Tryz.call21 rfl) trivial rfl rfl ?_
  intro v322 Sv319 w a h320 h321 hs
  obtain ⟨p315, k316, c318, rfl, h323, h317⟩ := h321
  have hw := hw.callN h320 h323
  have hw := hw.addE (e := RowA c318 rv314.1) h317
  refine mv hs rfl rfl fun a hs => ?_
  refine sv hs (y_extract rfl rfl) rfl fun a hs => ?_
  refine sv hs (y_extract rfl rfl) rfl fun a hs => ?_
  refine av hs rfl rfl fun a hs => ?_
  refine av hs rfl rfl fun a hs => ?_
  refine nl ?_
  refine wp_seq ?_
  refine sr ?_
  refine mv hs rfl rfl fun a hs => ?_
  refine sv hs (y_neq rfl rfl) rfl fun a hs => ?_
  refine nl ?_
  refine wp_cond_split (hs.ev rfl) (fun h325 => ?_) (fun h325 => ?_)
  ·have hsh := ite_t hsh h325
   refine sr ?_
   refine mv hs rfl rfl fun a hs => ?_
   refine av hs rfl rfl fun a hs => ?_
   refine av hs rfl rfl fun a hs => ?_
   refine nl ?_
   have hsh := oi hsh
   subst hsh
   have h326 := hd254 _ rfl
   subst h326
   have hw := hw.nilRow Pick 66
   refine wp_ret ?_
   refine then_ret ?_
   refine blk_ret ?_
   refine then_ret ?_
   refine then_ret ?_
   refine blk_ret ?_
   refine then_ret ?_
   exact ret2 hs rfl (rv_tmp rfl) (rv_tmp rfl) (hw.ret ⟨none, 0, [], rfl, (hw.outs [0] (by decide) rfl), (hw.envAt 0 rfl)⟩)
  have hsh := ite_f hsh h325
  refine wp_skip ?_
  refine then_normal ?_
  refine wp_region_lit ?_
  refine mv hs rfl rfl fun a hs => ?_
  refine mv hs rfl rfl fun a hs => ?_
  obtain ⟨l328, h327, hsh⟩ := bind_t hsh
  refine w_appendR (α := Pick) hs hw El29 4 rfl rfl rfl 4 rfl 0 rfl 0 rfl h327 rfl trivial ?_
  intro p329 k330 c331 a w hs hw
  refine av hs rfl rfl fun a hs => ?_
  refine wpList_nil ?_
  refine blk_normal ?_
  refine then_normal ?_
  refine wp_region_lit ?_
  refine sv hs (y_add rfl rfl) rfl fun a hs => ?_
  refine mv hs rfl rfl fun a hs => ?_
  refine nl ?_
  exact ⟨_, (Option.some.inj hsh).symm, c331, p329, k330, Sv319, (hs.wk rfl), (hw.ft [2, 3, 4] [4, 0] (by decide) rfl rfl)⟩
 have hsh := ite_f hsh h259
 obtain ⟨rv346, hsh, h347⟩ := map_t hsh
 have h347 := (hd254 _ h347.symm).symm
 subst h347
 refine wp_exit ?_
 refine then_exit ?_
 refine then_exit ?_
 refine blk_exit ?_
 refine then_normal ?_
 refine wp_seq ?_
 refine sr ?_
 refine mv hs rfl rfl fun a hs => ?_
 obtain ⟨rv333, h332, hsh⟩ := bind_t hsh
 obtain ⟨Sv338, hw⟩ := w_share (α := Pick) hw 2 rfl 1 rfl
 refine st_callR hs (picker_Sort_ok h332 hw.dom (hw.envAt 0 rfl)) (do_call Tryz.call23 rfl) trivial rfl rfl ?_
 intro v342 Sv339 w a h340 h341 hs
 obtain ⟨p334, k335, c337, rfl, h343, h336⟩ := h341
 have hw := hw.callN h340 h343
 have hw := hw.addE (e := RowA c337 rv333) h336
 refine av hs rfl rfl fun a hs => ?_
 refine nl ?_
 refine sr ?_
 refine mv hs rfl rfl fun a hs => ?_
 refine sv hs (y_len Tryz.runUnderlying29 rfl) rfl fun a hs => ?_
 refine sv hs (y_gtr rfl rfl) rfl fun a hs => ?_
 refine nl ?_
 refine wp_cond_split (hs.ev rfl) (fun h345 => ?_) (fun h345 => ?_)
 ·have hsh := ite_t hsh h345
  refine sr ?_
  refine av hs rfl rfl fun a hs => ?_
  refine av hs rfl rfl fun a hs => ?_
  refine nl ?_
  have hsh := oi hsh
  subst hsh
  have hw := hw.nilRow Pick 66
  refine wp_ret ?_
  refine then_ret ?_
  exact ret2 hs rfl (rv_tmp rfl) (rv_tmp rfl) (hw.ret ⟨none, 0, [], rfl, (hw.outs [0] (by decide) rfl), (hw.envAt 0 rfl)⟩)
 have hsh := ite_f hsh h345
 refine wp_skip ?_
 refine then_normal ?_
 refine sr ?_
 refine mv hs rfl rfl fun a hs => ?_
 refine av hs rfl rfl fun a hs => ?_
 refine av hs rfl rfl fun a hs => ?_
 refine nl ?_
 have hsh := oi hsh
 subst hsh
 refine wp_ret ?_
 exact ret2 hs rfl (rv_tmp rfl) (rv_tmp rfl) (hw.ret ⟨p334, k335, c337, rfl, (hw.outs [0] (by decide) rfl), (hw.envAt 0 rfl)⟩)
abbrev ref03_code_rd (w0 : World) (X : List Nat) (r : Bool) : (Nat → Prop) → World → Value → Prop := fun S w v => v = .bool r
set_option maxHeartbeats 4000000 in
set_option maxRecDepth 100000 in
theorem ref03_code_ok {w0 : World} {S0 : Nat → Prop} {s1 : ByteArray} {lo2 : Int} {hi3 : Int} {r : Bool} (hsh : ref03_code s1 lo2 hi3 = some r) (hS : ∀ b, S0 b → b < w0.heap.size) : Calls Tryz.prog 67 #[.string s1, .int .i64 lo2, .int .i64 hi3] w0 (Ret ([]) w0 S0 (ref03_code_rd w0 ([]) r)) := by
 refine calls_of_wp Tryz.func67 rfl ?_
 have hs := Sl.enter #[.string s1, .int .i64 lo2, .int .i64 hi3] 47 [(0, .string s1), (1, .int .i64 lo2), (2, .int .i64 hi3)] rfl ⟨rfl, rfl, rfl, trivial⟩
 have hw := Wd.enter (E := []) hS (fun _ h => (by cases h))
 delta ref03_code at hsh
 refine sr ?_
 refine av hs rfl rfl fun a hs => ?_
 refine nl ?_
 refine wp_seq ?_
 refine sr ?_
 refine av hs rfl rfl fun a hs => ?_
 refine nl ?_
 refine wp_block ?_
 refine wp_while (fun sv111 a w => ∃ (Sv181 : Nat → Prop), Sl 47 [(0, .string s1), (1, .int .i64 lo2), (2, .int .i64 hi3), (7, .int .i64 sv111)] a ∧ Wd ⟨w0, S0, []⟩ Sv181 [] [] w) 0 hsh ⟨S0, (hs.wk rfl), (hw.ft [] [] (by decide) rfl rfl)⟩ ?_
 repeat clear hsh
 rintro sv111 a w tv217 ⟨Sv181, hs, hw⟩ hsh hd216
 delta ref03_code_l2 at hsh
 refine wp_seq ?_
 refine sr ?_
 refine mv hs rfl rfl fun a hs => ?_
 refine mv hs rfl rfl fun a hs => ?_
 refine sv hs (y_lenS Tryz.runUnderlying9 rfl) rfl fun a hs => ?_
 refine sv hs (y_lss rfl rfl) rfl fun a hs => ?_
 refine nl ?_
 refine wp_cond_split (hs.ev rfl) (fun h221 => ?_) (fun h221 => ?_)
 ·have hsh := ite_t hsh h221
  refine wp_skip ?_
  refine then_normal ?_
  refine wp_seq ?_
  refine wp_block ?_
  refine sr ?_
  refine mv hs rfl rfl fun a hs => ?_
  refine mv hs rfl rfl fun a hs => ?_
  obtain ⟨c254, h253, hsh⟩ := bind_t hsh
  refine sv hs (y_indexSM Tryz.runUnderlying9 rfl rfl h253) rfl fun a hs => ?_
  refine sv hs (y_geq rfl rfl) rfl fun a hs => ?_
  refine mv hs rfl rfl fun a hs => ?_
  obtain ⟨c258, hc258, hsh⟩ := bind_t hsh
  refine wpl_join 5 (fun a w => ∃ (Sv259 : Nat → Prop), Sl 47 [(0, .string s1), (1, .int .i64 lo2), (2, .int .i64 hi3), (7, .int .i64 sv111), (23, .bool c258)] a ∧ Wd ⟨w0, S0, []⟩ Sv259 [] [] w) ?_ ?_
  ·rcases Bool.eq_false_or_eq_true (decide (65 ≤ c254)) with h257 | h257
   ·have hs := hs.fix 18 (.bool true) rfl (vb h257)
    have hsh := ite_t hc258 h257
    refine st_val hs (y_move rfl) ⟨_, rfl, rfl⟩ rfl rfl fun a hs => ?_
    refine st_val hs (y_move rfl) ⟨_, rfl, rfl⟩ rfl rfl fun a hs => ?_
    obtain ⟨c261, h260, hsh⟩ := bind_t hsh
    refine st_val hs (y_indexSM Tryz.runUnderlying9 rfl rfl h260) ⟨_, rfl, rfl⟩ rfl rfl fun a hs => ?_
    refine st_val hs (y_leq rfl rfl) ⟨_, rfl, rfl⟩ rfl rfl fun a hs => ?_
    refine sv hs (y_pickT rfl rfl) rfl fun a hs => ?_
    refine wpList_nil ?_
    have hsh := oi hsh
    subst hsh
    refine then_normal ?_
    exact ⟨Sv181, (hs.wk rfl), (hw.ft [] [] (by decide) rfl rfl)⟩
   have hs := hs.fix 18 (.bool false) rfl (vb h257)
   have hsh := ite_f hc258 h257
   refine st_skip hs rfl rfl rfl rfl rfl fun a hs => ?_
   refine st_skip hs rfl rfl rfl rfl rfl fun a hs => ?_
   refine st_skip hs rfl rfl rfl rfl rfl fun a hs => ?_
   refine st_skip hs rfl rfl rfl rfl rfl fun a hs => ?_
   refine sv hs (y_pickF rfl rfl) rfl fun a hs => ?_
   refine wpList_nil ?_
   have hsh := oi hsh
   subst hsh
   refine then_normal ?_
   exact ⟨Sv181, (hs.wk rfl), (hw.ft [] [] (by decide) rfl rfl)⟩
  rintro a w ⟨Sv259, hs, hw⟩
  refine mv hs rfl rfl fun a hs => ?_
  obtain ⟨c272, hc272, hsh⟩ := bind_t hsh
  refine wpl_join 11 (fun a w => ∃ (Sv273 : Nat → Prop), Sl 47 [(0, .string s1), (1, .int .i64 lo2), (2, .int .i64 hi3), (7, .int .i64 sv111), (35, .bool c272)] a ∧ Wd ⟨w0, S0, []⟩ Sv273 [] [] w) ?_ ?_
  ·rcases Bool.eq_false_or_eq_true c258 with h271 | h271
   ·have hs := hs.fix 24 (.bool true) rfl (vb h271)
    have hsh := ite_t hc272 h271
    refine st_skip hs rfl rfl rfl rfl rfl fun a hs => ?_
    refine st_skip hs rfl rfl rfl rfl rfl fun a hs => ?_
    refine st_skip hs rfl rfl rfl rfl rfl fun a hs => ?_
    refine st_skip hs rfl rfl rfl rfl rfl fun a hs => ?_
    refine st_skip hs rfl rfl rfl rfl rfl fun a hs => ?_
    refine st_skipU hs rfl rfl rfl rfl rfl fun a hs => ?_
    refine st_skipU hs rfl rfl rfl rfl rfl fun a hs => ?_
    refine st_skipU hs rfl rfl rfl rfl rfl fun a hs => ?_
    refine st_skipU hs rfl rfl rfl rfl rfl fun a hs => ?_
    refine st_skip hs rfl rfl rfl rfl rfl fun a hs => ?_
    refine sv hs (y_pickT rfl rfl) rfl fun a hs => ?_
    refine wpList_nil ?_
    have hsh := oi hsh
    subst hsh
    refine then_normal ?_
    exact ⟨Sv259, (hs.wk rfl), (hw.ft [] [] (by decide) rfl rfl)⟩
   have hs := hs.fix 24 (.bool false) rfl (vb h271)
   have hsh := ite_f hc272 h271
   refine st_val hs (y_move rfl) ⟨_, rfl, rfl⟩ rfl rfl fun a hs => ?_
   refine st_val hs (y_move rfl) ⟨_, rfl, rfl⟩ rfl rfl fun a hs => ?_
   obtain ⟨c275, h274, hsh⟩ := bind_t hsh
   refine st_val hs (y_indexSM Tryz.runUnderlying9 rfl rfl h274) ⟨_, rfl, rfl⟩ rfl rfl fun a hs => ?_
   refine st_val hs (y_geq rfl rfl) ⟨_, rfl, rfl⟩ rfl rfl fun a hs => ?_
   refine st_val hs (y_move rfl) ⟨_, rfl, rfl⟩ rfl rfl fun a hs => ?_
   obtain ⟨c279, hc279, hsh⟩ := bind_t hsh
   refine wpl_join 5 (fun a w => ∃ (Sv280 : Nat → Prop), Sl 47 [(0, .string s1), (1, .int .i64 lo2), (2, .int .i64 hi3), (7, .int .i64 sv111), (24, .bool false), (25, .string s1), (26, .int .i64 sv111), (27, .int .u8 c275), (28, .bool (decide (48 ≤ c275))), (29, .bool c279.1), (34, .bool c279.2)] a ∧ Wd ⟨w0, S0, []⟩ Sv280 [] [] w) ?_ ?_
   ·rcases Bool.eq_false_or_eq_true (decide (48 ≤ c275)) with h278 | h278
    ·have hs := hs.fix 29 (.bool true) rfl (vb h278)
     have hsh := ite_t hc279 h278
     refine st_val hs (y_move rfl) ⟨_, rfl, rfl⟩ rfl rfl fun a hs => ?_
     refine st_val hs (y_move rfl) ⟨_, rfl, rfl⟩ rfl rfl fun a hs => ?_
     obtain ⟨c282, h281, hsh⟩ := bind_t hsh
     refine st_val hs (y_indexSM Tryz.runUnderlying9 rfl rfl h281) ⟨_, rfl, rfl⟩ rfl rfl fun a hs => ?_
     refine st_val hs (y_leq rfl rfl) ⟨_, rfl, rfl⟩ rfl rfl fun a hs => ?_
     refine st_val hs (y_pickT rfl rfl) ⟨_, rfl, rfl⟩ rfl rfl fun a hs => ?_
     refine wpList_nil ?_
     have hsh := oi hsh
     subst hsh
     refine then_normal ?_
     exact ⟨Sv259, (hs.wk rfl), (hw.ft [] [] (by decide) rfl rfl)⟩
    have hs := hs.fix 29 (.bool false) rfl (vb h278)
    have hsh := ite_f hc279 h278
    refine st_skip hs rfl rfl rfl rfl rfl fun a hs => ?_
    refine st_skip hs rfl rfl rfl rfl rfl fun a hs => ?_
    refine st_skip hs rfl rfl rfl rfl rfl fun a hs => ?_
    refine st_skip hs rfl rfl rfl rfl rfl fun a hs => ?_
    refine st_val hs (y_pickF rfl rfl) ⟨_, rfl, rfl⟩ rfl rfl fun a hs => ?_
    refine wpList_nil ?_
    have hsh := oi hsh
    subst hsh
    refine then_normal ?_
    exact ⟨Sv259, (hs.wk rfl), (hw.ft [] [] (by decide) rfl rfl)⟩
   rintro a w ⟨Sv280, hs, hw⟩
   refine sv hs (y_pickF rfl rfl) rfl fun a hs => ?_
   refine wpList_nil ?_
   have hsh := oi hsh
   subst hsh
   refine then_normal ?_
   exact ⟨Sv280, (hs.wk rfl), (hw.ft [] [] (by decide) rfl rfl)⟩
  rintro a w ⟨Sv273, hs, hw⟩
  refine sv hs (y_not rfl) rfl fun a hs => ?_
  refine nl ?_
  refine wp_cond_split (hs.ev rfl) (fun h284 => ?_) (fun h284 => ?_)
  ·have hsh := ite_t hsh h284
   refine sr ?_
   refine av hs rfl rfl fun a hs => ?_
   refine nl ?_
   have hsh := oi hsh
   subst hsh
   have h285 := hd216 _ rfl
   subst h285
   refine wp_ret ?_
   refine blk_ret ?_
   refine then_ret ?_
   refine then_ret ?_
   refine blk_ret ?_
   refine then_ret ?_
   exact ret1 hs rfl (rv_tmp rfl) (hw.ret rfl)
  have hsh := ite_f hsh h284
  refine wp_skip ?_
  refine blk_normal ?_
  refine then_normal ?_
  refine wp_region_lit ?_
  refine mv hs rfl rfl fun a hs => ?_
  refine sv hs (y_add rfl rfl) rfl fun a hs => ?_
  obtain ⟨i287, h286, hsh⟩ := bind_t hsh
  refine sv hs (y_assignI rfl h286) rfl fun a hs => ?_
  refine nl ?_
  exact ⟨_, (Option.some.inj hsh).symm, Sv273, (hs.wk rfl), (hw.ft [] [] (by decide) rfl rfl)⟩
 have hsh := ite_f hsh h221
 obtain ⟨rv290, hsh, h291⟩ := map_t hsh
 have h291 := (hd216 _ h291.symm).symm
 subst h291
 refine wp_exit ?_
 refine then_exit ?_
 refine then_exit ?_
 refine blk_exit ?_
 refine then_normal ?_
 refine sr ?_
 refine mv hs rfl rfl fun a hs => ?_
 refine sv hs (y_lenS Tryz.runUnderlying9 rfl) rfl fun a hs => ?_
 refine mv hs rfl rfl fun a hs => ?_
 refine sv hs (y_geq rfl rfl) rfl fun a hs => ?_
 refine mv hs rfl rfl fun a hs => ?_
 refine wpl_join 5 (fun a w1 => w = w1 ∧ Sl 47 [(46, .bool ((decide (lo2 ≤ (s1.size : Int))) && (decide ((s1.size : Int) ≤ hi3))))] a) ?_ ?_
 ·rcases Bool.eq_false_or_eq_true (decide (lo2 ≤ (s1.size : Int))) with h288 | h288
  ·have hs := hs.fix 41 (.bool true) rfl (vb h288)
   refine st_val hs (y_move rfl) ⟨_, rfl, rfl⟩ rfl rfl fun a hs => ?_
   refine st_val hs (y_lenS Tryz.runUnderlying9 rfl) ⟨_, rfl, rfl⟩ rfl rfl fun a hs => ?_
   refine st_val hs (y_move rfl) ⟨_, rfl, rfl⟩ rfl rfl fun a hs => ?_
   refine st_val hs (y_leq rfl rfl) ⟨_, rfl, rfl⟩ rfl rfl fun a hs => ?_
   refine sv hs (y_pickT rfl rfl) rfl fun a hs => ?_
   refine nl ?_
   exact ⟨rfl, (hs.fix 46 (.bool ((decide (lo2 ≤ (s1.size : Int))) && (decide ((s1.size : Int) ≤ hi3)))) rfl (and_t h288)).weaken _ ⟨rfl, trivial⟩⟩
  have hs := hs.fix 41 (.bool false) rfl (vb h288)
  refine st_skip hs rfl rfl rfl rfl rfl fun a hs => ?_
  refine st_skip hs rfl rfl rfl rfl rfl fun a hs => ?_
  refine st_skip hs rfl rfl rfl rfl rfl fun a hs => ?_
  refine st_skip hs rfl rfl rfl rfl rfl fun a hs => ?_
  refine sv hs (y_pickF rfl rfl) rfl fun a hs => ?_
  refine nl ?_
  exact ⟨rfl, (hs.fix 46 (.bool ((decide (lo2 ≤ (s1.size : Int))) && (decide ((s1.size : Int) ≤ hi3)))) rfl (and_f h288)).weaken _ ⟨rfl, trivial⟩⟩
 rintro a w1 ⟨h289, hs⟩
 subst h289
 refine av hs rfl rfl fun a hs => ?_
 refine nl ?_
 have hsh := oi hsh
 subst hsh
 refine wp_ret ?_
 exact ret1 hs rfl (rv_tmp rfl) (hw.ret rfl)
abbrev ref03_Valid_rd (w0 : World) (X : List Nat) (r : Bool) : (Nat → Prop) → World → Value → Prop := fun S w v => v = .bool r
set_option maxHeartbeats 4000000 in
set_option maxRecDepth 100000 in
theorem ref03_Valid_ok {w0 : World} {S0 : Nat → Prop} {s1 : SourceID} {r : Bool} (hsh : ref03_Valid s1 = some r) (hS : ∀ b, S0 b → b < w0.heap.size) : Calls Tryz.prog 43 #[.agg #[.string s1.Network, .string s1.Station, .string s1.Location, .string s1.Channel]] w0 (Ret ([]) w0 S0 (ref03_Valid_rd w0 ([]) r)) := by
 refine calls_of_wp Tryz.func43 rfl ?_
 have hs := Sl.enter #[.agg #[.string s1.Network, .string s1.Station, .string s1.Location, .string s1.Channel]] 26 [(0, .agg #[.string s1.Network, .string s1.Station, .string s1.Location, .string s1.Channel])] rfl ⟨rfl, trivial⟩
 have hw := Wd.enter (E := []) hS (fun _ h => (by cases h))
 delta ref03_Valid at hsh
 refine sr ?_
 refine w_box (cs := [.string s1.Network, .string s1.Station, .string s1.Location, .string s1.Channel]) hs hw rfl rfl rfl trivial ?_
 intro b2 a w hs hw
 refine av hs rfl rfl fun a hs => ?_
 refine nl ?_
 refine sr ?_
 refine sv hs (y_fieldAddr (o' := 0) Tryz.runUnderlying41 rfl Tryz.sizeOf9 rfl rfl rfl) rfl fun a hs => ?_
 refine sv hs (y_loadB1 (hw.ownAt 0 rfl) rfl Tryz.isAgg9 rfl) rfl fun a hs => ?_
 obtain ⟨rv4, h3, hsh⟩ := bind_t hsh
 refine st_callR hs (ref03_code_ok h3 hw.bdom) (do_call Tryz.call67 rfl) trivial rfl rfl ?_
 intro v8 Sv5 w a h6 h7 hs
 subst h7
 have hw := hw.callB h6
 refine mv hs rfl rfl fun a hs => ?_
 obtain ⟨c18, hc18, hsh⟩ := bind_t hsh
 refine wpl_join 4 (fun a w => ∃ (Sv19 : Nat → Prop), Sl 26 [(1, .pointer (some ⟨b2, 0, none⟩)), (10, .bool c18)] a ∧ Wd ⟨w0, S0, []⟩ Sv19 [.box b2 [.string s1.Network, .string s1.Station, .string s1.Location, .string s1.Channel] 41] [] w) ?_ ?_
 ·rcases Bool.eq_false_or_eq_true rv4 with h17 | h17
  ·have hs := hs.fix 6 (.bool true) rfl (vb h17)
   have hsh := ite_t hc18 h17
   refine st_val hs (y_fieldAddr (o' := 1) Tryz.runUnderlying41 rfl Tryz.sizeOf9 rfl rfl rfl) ⟨_, rfl, rfl⟩ rfl rfl fun a hs => ?_
   refine st_val hs (y_loadB1 (hw.ownAt 0 rfl) rfl Tryz.isAgg9 rfl) ⟨_, rfl, rfl⟩ rfl rfl fun a hs => ?_
   obtain ⟨rv21, h20, hsh⟩ := bind_t hsh
   refine st_callR hs (ref03_code_ok h20 hw.bdom) (do_call Tryz.call67 rfl) ⟨_, rfl, rfl⟩ rfl rfl ?_
   intro v25 Sv22 w a h23 h24 hs
   subst h24
   have hw := hw.callB h23
   refine sv hs (y_pickT rfl rfl) rfl fun a hs => ?_
   refine wpList_nil ?_
   have hsh := oi hsh
   subst hsh
   refine then_normal ?_
   exact ⟨S0, (hs.wk rfl), (hw.ft [0] [] (by decide) rfl rfl)⟩
  have hs := hs.fix 6 (.bool false) rfl (vb h17)
  have hsh := ite_f hc18 h17
  refine st_skip hs rfl rfl rfl rfl rfl fun a hs => ?_
  refine st_skip hs rfl rfl rfl rfl rfl fun a hs => ?_
  refine st_skip hs rfl rfl rfl rfl rfl fun a hs => ?_
  refine sv hs (y_pickF rfl rfl) rfl fun a hs => ?_
  refine wpList_nil ?_
  have hsh := oi hsh
  subst hsh
  refine then_normal ?_
  exact ⟨S0, (hs.wk rfl), (hw.ft [0] [] (by decide) rfl rfl)⟩
 rintro a w ⟨Sv19, hs, hw⟩
 refine mv hs rfl rfl fun a hs => ?_
 obtain ⟨c45, hc45, hsh⟩ := bind_t hsh
 refine wpl_join 9 (fun a w => ∃ (Sv46 : Nat → Prop), Sl 26 [(1, .pointer (some ⟨b2, 0, none⟩)), (20, .bool c45)] a ∧ Wd ⟨w0, S0, []⟩ Sv46 [.box b2 [.string s1.Network, .string s1.Station, .string s1.Location, .string s1.Channel] 41] [] w) ?_ ?_
 ·rcases Bool.eq_false_or_eq_true c18 with h44 | h44
  ·have hs := hs.fix 11 (.bool true) rfl (vb h44)
   have hsh := ite_t hc45 h44
   refine st_val hs (y_fieldAddr (o' := 2) Tryz.runUnderlying41 rfl Tryz.sizeOf9 rfl rfl rfl) ⟨_, rfl, rfl⟩ rfl rfl fun a hs => ?_
   refine st_val hs (y_loadB1 (hw.ownAt 0 rfl) rfl Tryz.isAgg9 rfl) ⟨_, rfl, rfl⟩ rfl rfl fun a hs => ?_
   refine st_val hs (y_eqlS rfl rfl) ⟨_, rfl, rfl⟩ rfl rfl fun a hs => ?_
   refine st_val hs (y_move rfl) ⟨_, rfl, rfl⟩ rfl rfl fun a hs => ?_
   obtain ⟨c55, hc55, hsh⟩ := bind_t hsh
   refine wpl_join 4 (fun a w => ∃ (Sv56 : Nat → Prop), Sl 26 [(1, .pointer (some ⟨b2, 0, none⟩)), (11, .bool true), (19, .bool c55)] a ∧ Wd ⟨w0, S0, []⟩ Sv56 [.box b2 [.string s1.Network, .string s1.Station, .string s1.Location, .string s1.Channel] 41] [] w) ?_ ?_
   ·rcases Bool.eq_false_or_eq_true (s1.Location.toList == (⟨#[]⟩ : ByteArray).toList) with h54 | h54
    ·have hs := hs.fix 15 (.bool true) rfl (vb h54)
     have hsh := ite_t hc55 h54
     refine st_skip hs rfl rfl rfl rfl rfl fun a hs => ?_
     refine st_skip hs rfl rfl rfl rfl rfl fun a hs => ?_
     refine st_skip hs rfl rfl rfl rfl rfl fun a hs => ?_
     refine st_val hs (y_pickT rfl rfl) ⟨_, rfl, rfl⟩ rfl rfl fun a hs => ?_
     refine wpList_nil ?_
     have hsh := oi hsh
     subst hsh
     refine then_normal ?_
     exact ⟨Sv19, (hs.wk rfl), (hw.ft [0] [] (by decide) rfl rfl)⟩
    have hs := hs.fix 15 (.bool false) rfl (vb h54)
    have hsh := ite_f hc55 h54
    refine st_val hs (y_fieldAddr (o' := 2) Tryz.runUnderlying41 rfl Tryz.sizeOf9 rfl rfl rfl) ⟨_, rfl, rfl⟩ rfl rfl fun a hs => ?_
    refine st_val hs (y_loadB1 (hw.ownAt 0 rfl) rfl Tryz.isAgg9 rfl) ⟨_, rfl, rfl⟩ rfl rfl fun a hs => ?_
    obtain ⟨rv58, h57, hsh⟩ := bind_t hsh
    refine st_callR hs (ref03_code_ok h57 hw.bdom) (do_call Tryz.call67 rfl) ⟨_, rfl, rfl⟩ rfl rfl ?_
    intro v62 Sv59 w a h60 h61 hs
    subst h61
    have hw := hw.callB h60
    refine st_val hs (y_pickF rfl rfl) ⟨_, rfl, rfl⟩ rfl rfl fun a hs => ?_
    refine wpList_nil ?_
    have hsh := oi hsh
    subst hsh
    refine then_normal ?_
    exact ⟨Sv19, (hs.wk rfl), (hw.ft [0] [] (by decide) rfl rfl)⟩
   rintro a w ⟨Sv56, hs, hw⟩
   refine sv hs (y_pickT rfl rfl) rfl fun a hs => ?_
   refine wpList_nil ?_
   have hsh := oi hsh
   subst hsh
   refine then_normal ?_
   exact ⟨Sv56, (hs.wk rfl), (hw.ft [0] [] (by decide) rfl rfl)⟩
  have hs := hs.fix 11 (.bool false) rfl (vb h44)
  have hsh := ite_f hc45 h44
  refine st_skip hs rfl rfl rfl rfl rfl fun a hs => ?_
  refine st_skip hs rfl rfl rfl rfl rfl fun a hs => ?_
  refine st_skip hs rfl rfl rfl rfl rfl fun a hs => ?_
  refine st_skip hs rfl rfl rfl rfl rfl fun a hs => ?_
  refine st_skipU hs rfl rfl rfl rfl rfl fun a hs => ?_
  refine st_skipU hs rfl rfl rfl rfl rfl fun a hs => ?_
  refine st_skipU hs rfl rfl rfl rfl rfl fun a hs => ?_
  refine st_skip hs rfl rfl rfl rfl rfl fun a hs => ?_
  refine sv hs (y_pickF rfl rfl) rfl fun a hs => ?_
  refine wpList_nil ?_
  have hsh := oi hsh
  subst hsh
  refine then_normal ?_
  exact ⟨Sv19, (hs.wk rfl), (hw.ft [0] [] (by decide) rfl rfl)⟩
 rintro a w ⟨Sv46, hs, hw⟩
 refine mv hs rfl rfl fun a hs => ?_
 obtain ⟨c72, hc72, hsh⟩ := bind_t hsh
 refine wpl_join 4 (fun a w => ∃ (Sv73 : Nat → Prop), Sl 26 [(25, .bool c72)] a ∧ Wd ⟨w0, S0, []⟩ Sv73 [] [] w) ?_ ?_
 ·rcases Bool.eq_false_or_eq_true c45 with h71 | h71
  ·have hs := hs.fix 21 (.bool true) rfl (vb h71)
   have hsh := ite_t hc72 h71
   refine st_val hs (y_fieldAddr (o' := 3) Tryz.runUnderlying41 rfl Tryz.sizeOf9 rfl rfl rfl) ⟨_, rfl, rfl⟩ rfl rfl fun a hs => ?_
   refine st_val hs (y_loadB1 (hw.ownAt 0 rfl) rfl Tryz.isAgg9 rfl) ⟨_, rfl, rfl⟩ rfl rfl fun a hs => ?_
   obtain ⟨rv75, h74, hsh⟩ := bind_t hsh
   refine st_callR hs (ref03_code_ok h74 hw.bdom) (do_call Tryz.call67 rfl) ⟨_, rfl, rfl⟩ rfl rfl ?_
   intro v79 Sv76 w a h77 h78 hs
   subst h78
   have hw := hw.callB h77
   refine sv hs (y_pickT rfl rfl) rfl fun a hs => ?_
   refine wpList_nil ?_
   have hsh := oi hsh
   subst hsh
   refine then_normal ?_
   exact ⟨Sv46, (hs.wk rfl), (hw.ft [] [] (by decide) rfl rfl)⟩
  have hs := hs.fix 21 (.bool false) rfl (vb h71)
  have hsh := ite_f hc72 h71
  refine st_skip hs rfl rfl rfl rfl rfl fun a hs => ?_
  refine st_skip hs rfl rfl rfl rfl rfl fun a hs => ?_
  refine st_skip hs rfl rfl rfl rfl rfl fun a hs => ?_
  refine sv hs (y_pickF rfl rfl) rfl fun a hs => ?_
  refine wpList_nil ?_
  have hsh := oi hsh
  subst hsh
  refine then_normal ?_
  exact ⟨Sv46, (hs.wk rfl), (hw.ft [] [] (by decide) rfl rfl)⟩
 rintro a w ⟨Sv73, hs, hw⟩
 refine av hs rfl rfl fun a hs => ?_
 refine nl ?_
 have hsh := oi hsh
 subst hsh
 refine wp_ret ?_
 exact ret1 hs rfl (rv_tmp rfl) (hw.ret rfl)
abbrev ref16_asRecord_rd (w0 : World) (X : List Nat) (r : Record) : (Nat → Prop) → World → Value → Prop := fun S w v => ∃ (p0_11 : Option Addr) (k0_11 : Nat), v = .agg #[.string r.Source.Network, .string r.Source.Station, .string r.Source.Location, .string r.Source.Channel, .int .i64 r.Start, .int .i64 r.First, .int .i64 r.Rate.Num, .int .i64 r.Rate.Den, .int .i64 r.Error, .int .i64 r.Run, .int .i64 r.Seq, .slice p0_11 r.Samples.length k0_11] ∧ (SlA p0_11 r.Samples.length k0_11 r.Samples).p S w
set_option maxHeartbeats 4000000 in
set_option maxRecDepth 100000 in
theorem ref16_asRecord_ok {w0 : World} {S0 : Nat → Prop} {p2 : Option Addr} {k3 : Nat} {s1 : Segment} {r : Record} (hsh : ref16_asRecord s1 = some r) (hS : ∀ b, S0 b → b < w0.heap.size) (h4 : (SlA p2 s1.Samples.length k3 s1.Samples).p S0 w0) : Calls Tryz.prog 69 #[.agg #[.int .i64 s1.Start, .int .i64 s1.First, .int .i64 s1.Rate.Num, .int .i64 s1.Rate.Den, .int .i64 s1.Error, .slice p2 s1.Samples.length k3]] w0 (Ret ([]) w0 S0 (ref16_asRecord_rd w0 ([]) r)) := by
 refine calls_of_wp Tryz.func69 rfl ?_
 have hs := Sl.enter #[.agg #[.int .i64 s1.Start, .int .i64 s1.First, .int .i64 s1.Rate.Num, .int .i64 s1.Rate.Den, .int .i64 s1.Error, .slice p2 s1.Samples.length k3]] 15 [(0, .agg #[.int .i64 s1.Start, .int .i64 s1.First, .int .i64 s1.Rate.Num, .int .i64 s1.Rate.Den, .int .i64 s1.Error, .slice p2 s1.Samples.length k3])] rfl ⟨rfl, trivial⟩
 have hw := Wd.enter (E := []) hS (fun _ h => (by cases h))
 have hw := hw.addE h4
 delta ref16_asRecord at hsh
 refine sr ?_
 refine w_box (cs := [.int .i64 s1.Start, .int .i64 s1.First, .int .i64 s1.Rate.Num, .int .i64 s1.Rate.Den, .int .i64 s1.Error, .slice p2 s1.Samples.length k3]) hs hw rfl rfl rfl trivial ?_
 intro b5 a w hs hw
 refine w_alloc (cs := [.string ByteArray.empty, .string ByteArray.empty, .string ByteArray.empty, .string ByteArray.empty, .int .i64 0, .int .i64 0, .int .i64 0, .int .i64 0, .int .i64 0, .int .i64 0, .int .i64 0, .slice none ([] : List Int).length 0]) hs hw Tryz.zeroValue102 rfl rfl trivial ?_
 intro b6 a w hs hw
 refine nl ?_
 refine sr ?_
 refine sv hs (y_build (vs := [(0, .string (⟨#[65]⟩ : ByteArray)), (1, .string (⟨#[65]⟩ : ByteArray)), (3, .string (⟨#[65, 65, 65]⟩ : ByteArray))]) Bld41 rfl rfl) rfl fun a hs => ?_
 refine sv hs (y_fieldAddr (o' := 0) Tryz.runUnderlying36 rfl Tryz.sizeOf3 rfl rfl rfl) rfl fun a hs => ?_
 refine sv hs (y_loadB1 (hw.ownAt 1 rfl) rfl Tryz.isAgg3 rfl) rfl fun a hs => ?_
 refine sv hs (y_fieldAddr (o' := 1) Tryz.runUnderlying36 rfl Tryz.sizeOf3 rfl rfl rfl) rfl fun a hs => ?_
 refine sv hs (y_loadB1 (hw.ownAt 1 rfl) rfl Tryz.isAgg3 rfl) rfl fun a hs => ?_
 refine sv hs (y_fieldAddr (o' := 2) Tryz.runUnderlying36 rfl Tryz.sizeOf34 rfl rfl rfl) rfl fun a hs => ?_
 refine sv hs (y_loadBA (hw.ownAt 1 rfl) rfl Tryz.isAgg34 Tryz.sizeOf34 rfl rfl) rfl fun a hs => ?_
 refine sv hs (y_fieldAddr (o' := 4) Tryz.runUnderlying36 rfl Tryz.sizeOf3 rfl rfl rfl) rfl fun a hs => ?_
 refine sv hs (y_loadB1 (hw.ownAt 1 rfl) rfl Tryz.isAgg3 rfl) rfl fun a hs => ?_
 refine sv hs (y_fieldAddr (o' := 5) Tryz.runUnderlying36 rfl Tryz.sizeOf22 rfl rfl rfl) rfl fun a hs => ?_
 refine sv hs (y_loadB1 (hw.ownAt 1 rfl) rfl Tryz.isAgg22 rfl) rfl fun a hs => ?_
 refine sv hs (y_build (vs := [(0, .agg #[.string (⟨#[65]⟩ : ByteArray), .string (⟨#[65]⟩ : ByteArray), .string ByteArray.empty, .string (⟨#[65, 65, 65]⟩ : ByteArray)]), (1, .int .i64 s1.Start), (2, .int .i64 s1.First), (3, .agg #[.int .i64 s1.Rate.Num, .int .i64 s1.Rate.Den]), (4, .int .i64 s1.Error), (7, .slice p2 s1.Samples.length k3)]) Bld102 rfl rfl) rfl fun a hs => ?_
 refine w_store (m := 12) (cs' := [.string (⟨#[65]⟩ : ByteArray), .string (⟨#[65]⟩ : ByteArray), .string ByteArray.empty, .string (⟨#[65, 65, 65]⟩ : ByteArray), .int .i64 s1.Start, .int .i64 s1.First, .int .i64 s1.Rate.Num, .int .i64 s1.Rate.Den, .int .i64 s1.Error, .int .i64 0, .int .i64 0, .slice p2 s1.Samples.length k3]) hs hw 0 rfl rfl rfl Tryz.sizeOf102 rfl rfl rfl rfl trivial ?_
 intro a w hs hw
 refine nl ?_
 have hsh := oi hsh
 subst hsh
 refine wp_ret ?_
 exact ret1 hs rfl (rv_cell hw 0 rfl rfl Tryz.isAgg102 Tryz.sizeOf102 rfl) (hw.ret ⟨p2, k3, rfl, (hw.envAt 0 rfl)⟩)
abbrev ref02_gcd_rd (w0 : World) (X : List Nat) (r : Int) : (Nat → Prop) → World → Value → Prop := fun S w v => v = .int .i64 r
set_option maxHeartbeats 4000000 in
set_option maxRecDepth 100000 in
theorem ref02_gcd_ok {w0 : World} {S0 : Nat → Prop} {a1 : Int} {b2 : Int} {r : Int} (hsh : ref02_gcd a1 b2 = some r) (hS : ∀ b, S0 b → b < w0.heap.size) : Calls Tryz.prog 107 #[.int .i64 a1, .int .i64 b2] w0 (Ret ([]) w0 S0 (ref02_gcd_rd w0 ([]) r)) := by
 refine calls_of_wp Tryz.func107 rfl ?_
 have hs := Sl.enter #[.int .i64 a1, .int .i64 b2] 12 [(0, .int .i64 a1), (1, .int .i64 b2)] rfl ⟨rfl, rfl, trivial⟩
 have hw := Wd.enter (E := []) hS (fun _ h => (by cases h))
 delta ref02_gcd at hsh
 refine sr ?_
 refine av hs rfl rfl fun a hs => ?_
 refine nl ?_
 refine wp_seq ?_
 obtain ⟨e21, h32, hsh⟩ := bind_t hsh
 refine wp_join (fun a w => ∃ (Sv22 : Nat → Prop), Sl 12 [(0, .int .i64 e21)] a ∧ Wd ⟨w0, S0, []⟩ Sv22 [] [] w) ?_ ?_
 ·refine wp_block ?_
  refine wp_while (fun sv3 a w => ∃ (Sv13 : Nat → Prop), Sl 12 [(0, .int .i64 sv3.1), (1, .int .i64 sv3.2)] a ∧ Wd ⟨w0, S0, []⟩ Sv13 [] [] w) (a1, b2) h32 ⟨S0, (hs.wk rfl), (hw.ft [] [] (by decide) rfl rfl)⟩ ?_
  clear h32
  repeat clear hsh
  rintro sv3 a w tv19 ⟨Sv13, hs, hw⟩ hsh hd18
  delta ref02_gcd_l1 at hsh
  refine wp_seq ?_
  refine sr ?_
  refine mv hs rfl rfl fun a hs => ?_
  refine sv hs (y_neq rfl rfl) rfl fun a hs => ?_
  refine nl ?_
  refine wp_cond_split (hs.ev rfl) (fun h24 => ?_) (fun h24 => ?_)
  ·have hsh := ite_t hsh h24
   refine wp_skip ?_
   refine then_normal ?_
   refine wp_block ?_
   obtain ⟨rem29, h28, hsh⟩ := bind_t hsh
   refine wp_only (fun a w => ∃ (Sv30 : Nat → Prop), Sl 12 [(0, .int .i64 sv3.2), (1, .int .i64 rem29)] a ∧ Wd ⟨w0, S0, []⟩ Sv30 [] [] w) ?_ ?_
   ·refine h_b (C := Cls [] []) (by kernel_rfl) rfl (hw.drew.cs [] [] rfl rfl) fun hC => ?_
    have hw := hw.drew
    refine gm hs 0 rfl rfl rfl hC fun a hs => ?_
    refine gm hs 1 rfl rfl rfl hC fun a hs => ?_
    refine gm hs 2 rfl rfl rfl hC fun a hs => ?_
    refine gv hs 3 rfl rfl hC (fun w hC => y_remM rfl rfl h28) fun a hs => ?_
    refine gv hs 4 rfl rfl hC (fun w hC => y_assign rfl) fun a hs => ?_
    refine gv hs 5 rfl rfl hC (fun w hC => y_assign rfl) fun a hs => ?_
    refine h_done (by kernel_rfl) ?_
    exact ⟨Sv13, (hs.wk rfl), (hw.ft [] [] (by decide) rfl rfl)⟩
   rintro a w ⟨Sv30, hs, hw⟩
   refine blk_normal ?_
   refine then_normal ?_
   exact ⟨_, (Option.some.inj hsh).symm, Sv30, (hs.wk rfl), (hw.ft [] [] (by decide) rfl rfl)⟩
  have hsh := ite_f hsh h24
  refine wp_exit ?_
  refine then_exit ?_
  refine then_exit ?_
  refine blk_exit ?_
  have hsh := oi hsh
  subst hsh
  have h31 := hd18 _ rfl
  subst h31
  refine then_normal ?_
  exact ⟨Sv13, (hs.wk rfl), (hw.ft [] [] (by decide) rfl rfl)⟩
 rintro a w ⟨Sv22, hs, hw⟩
 refine then_normal ?_
 refine sr ?_
 refine mv hs rfl rfl fun a hs => ?_
 refine av hs rfl rfl fun a hs => ?_
 refine nl ?_
 have hsh := oi hsh
 subst hsh
 refine wp_ret ?_
 exact ret1 hs rfl (rv_tmp rfl) (hw.ret rfl)
abbrev ref02_Valid_rd (w0 : World) (X : List Nat) (r : Bool) : (Nat → Prop) → World → Value → Prop := fun S w v => v = .bool r
set_option maxHeartbeats 4000000 in
set_option maxRecDepth 100000 in
theorem ref02_Valid_ok {w0 : World} {S0 : Nat → Prop} {r1 : Rate} {r : Bool} (hsh : ref02_Valid r1 = some r) (hS : ∀ b, S0 b → b < w0.heap.size) : Calls Tryz.prog 87 #[.agg #[.int .i64 r1.Num, .int .i64 r1.Den]] w0 (Ret ([]) w0 S0 (ref02_Valid_rd w0 ([]) r)) := by
 refine calls_of_wp Tryz.func87 rfl ?_
 have hs := Sl.enter #[.agg #[.int .i64 r1.Num, .int .i64 r1.Den]] 19 [(0, .agg #[.int .i64 r1.Num, .int .i64 r1.Den])] rfl ⟨rfl, trivial⟩
 have hw := Wd.enter (E := []) hS (fun _ h => (by cases h))
 delta ref02_Valid at hsh
 refine sr ?_
 refine w_box (cs := [.int .i64 r1.Num, .int .i64 r1.Den]) hs hw rfl rfl rfl trivial ?_
 intro b2 a w hs hw
 refine av hs rfl rfl fun a hs => ?_
 refine nl ?_
 refine sr ?_
 refine sv hs (y_fieldAddr (o' := 0) Tryz.runUnderlying34 rfl Tryz.sizeOf3 rfl rfl rfl) rfl fun a hs => ?_
 refine sv hs (y_loadB1 (hw.ownAt 0 rfl) rfl Tryz.isAgg3 rfl) rfl fun a hs => ?_
 obtain ⟨rv4, h3, hsh⟩ := bind_t hsh
 refine st_callR hs (ref01_In_ok h3 hw.bdom) (do_call Tryz.call37 rfl) trivial rfl rfl ?_
 intro v8 Sv5 w a h6 h7 hs
 subst h7
 have hw := hw.callB h6
 refine mv hs rfl rfl fun a hs => ?_
 obtain ⟨c18, hc18, hsh⟩ := bind_t hsh
 refine wpl_join 4 (fun a w => ∃ (Sv19 : Nat → Prop), Sl 19 [(1, .pointer (some ⟨b2, 0, none⟩)), (10, .bool c18)] a ∧ Wd ⟨w0, S0, []⟩ Sv19 [.box b2 [.int .i64 r1.Num, .int .i64 r1.Den] 34] [] w) ?_ ?_
 ·rcases Bool.eq_false_or_eq_true rv4 with h17 | h17
  ·have hs := hs.fix 6 (.bool true) rfl (vb h17)
   have hsh := ite_t hc18 h17
   refine st_val hs (y_fieldAddr (o' := 1) Tryz.runUnderlying34 rfl Tryz.sizeOf3 rfl rfl rfl) ⟨_, rfl, rfl⟩ rfl rfl fun a hs => ?_
   refine st_val hs (y_loadB1 (hw.ownAt 0 rfl) rfl Tryz.isAgg3 rfl) ⟨_, rfl, rfl⟩ rfl rfl fun a hs => ?_
   obtain ⟨rv21, h20, hsh⟩ := bind_t hsh
   refine st_callR hs (ref01_In_ok h20 hw.bdom) (do_call Tryz.call37 rfl) ⟨_, rfl, rfl⟩ rfl rfl ?_
   intro v25 Sv22 w a h23 h24 hs
   subst h24
   have hw := hw.callB h23
   refine sv hs (y_pickT rfl rfl) rfl fun a hs => ?_
   refine wpList_nil ?_
   have hsh := oi hsh
   subst hsh
   refine then_normal ?_
   exact ⟨S0, (hs.wk rfl), (hw.ft [0] [] (by decide) rfl rfl)⟩
  have hs := hs.fix 6 (.bool false) rfl (vb h17)
  have hsh := ite_f hc18 h17
  refine st_skip hs rfl rfl rfl rfl rfl fun a hs => ?_
  refine st_skip hs rfl rfl rfl rfl rfl fun a hs => ?_
  refine st_skip hs rfl rfl rfl rfl rfl fun a hs => ?_
  refine sv hs (y_pickF rfl rfl) rfl fun a hs => ?_
  refine wpList_nil ?_
  have hsh := oi hsh
  subst hsh
  refine then_normal ?_
  exact ⟨S0, (hs.wk rfl), (hw.ft [0] [] (by decide) rfl rfl)⟩
 rintro a w ⟨Sv19, hs, hw⟩
 refine mv hs rfl rfl fun a hs => ?_
 obtain ⟨c35, hc35, hsh⟩ := bind_t hsh
 refine wpl_join 7 (fun a w => ∃ (Sv36 : Nat → Prop), Sl 19 [(18, .bool c35)] a ∧ Wd ⟨w0, S0, []⟩ Sv36 [] [] w) ?_ ?_
 ·rcases Bool.eq_false_or_eq_true c18 with h34 | h34
  ·have hs := hs.fix 11 (.bool true) rfl (vb h34)
   have hsh := ite_t hc35 h34
   refine st_val hs (y_fieldAddr (o' := 0) Tryz.runUnderlying34 rfl Tryz.sizeOf3 rfl rfl rfl) ⟨_, rfl, rfl⟩ rfl rfl fun a hs => ?_
   refine st_val hs (y_loadB1 (hw.ownAt 0 rfl) rfl Tryz.isAgg3 rfl) ⟨_, rfl, rfl⟩ rfl rfl fun a hs => ?_
   refine st_val hs (y_fieldAddr (o' := 1) Tryz.runUnderlying34 rfl Tryz.sizeOf3 rfl rfl rfl) ⟨_, rfl, rfl⟩ rfl rfl fun a hs => ?_
   refine st_val hs (y_loadB1 (hw.ownAt 0 rfl) rfl Tryz.isAgg3 rfl) ⟨_, rfl, rfl⟩ rfl rfl fun a hs => ?_
   obtain ⟨rv38, h37, hsh⟩ := bind_t hsh
   refine st_callR hs (ref02_gcd_ok h37 hw.bdom) (do_call Tryz.call107 rfl) ⟨_, rfl, rfl⟩ rfl rfl ?_
   intro v42 Sv39 w a h40 h41 hs
   subst h41
   have hw := hw.callB h40
   refine st_val hs (y_eql rfl rfl) ⟨_, rfl, rfl⟩ rfl rfl fun a hs => ?_
   refine sv hs (y_pickT rfl rfl) rfl fun a hs => ?_
   refine wpList_nil ?_
   have hsh := oi hsh
   subst hsh
   refine then_normal ?_
   exact ⟨Sv19, (hs.wk rfl), (hw.ft [] [] (by decide) rfl rfl)⟩
  have hs := hs.fix 11 (.bool false) rfl (vb h34)
  have hsh := ite_f hc35 h34
  refine st_skip hs rfl rfl rfl rfl rfl fun a hs => ?_
  refine st_skip hs rfl rfl rfl rfl rfl fun a hs => ?_
  refine st_skip hs rfl rfl rfl rfl rfl fun a hs => ?_
  refine st_skip hs rfl rfl rfl rfl rfl fun a hs => ?_
  refine st_skip hs rfl rfl rfl rfl rfl fun a hs => ?_
  refine st_skip hs rfl rfl rfl rfl rfl fun a hs => ?_
  refine sv hs (y_pickF rfl rfl) rfl fun a hs => ?_
  refine wpList_nil ?_
  have hsh := oi hsh
  subst hsh
  refine then_normal ?_
  exact ⟨Sv19, (hs.wk rfl), (hw.ft [] [] (by decide) rfl rfl)⟩
 rintro a w ⟨Sv36, hs, hw⟩
 refine av hs rfl rfl fun a hs => ?_
 refine nl ?_
 have hsh := oi hsh
 subst hsh
 refine wp_ret ?_
 exact ret1 hs rfl (rv_tmp rfl) (hw.ret rfl)
abbrev ref02_Time_rd (w0 : World) (X : List Nat) (r : (Int × Int)) : (Nat → Prop) → World → Value → Prop := fun S w v => v = .tuple #[.int .i64 r.1, .int .i64 r.2]
set_option maxHeartbeats 4000000 in
set_option maxRecDepth 100000 in
theorem ref02_Time_ok {w0 : World} {S0 : Nat → Prop} {start1 : Int} {r2 : Rate} {k3 : Int} {r : (Int × Int)} (hsh : ref02_Time start1 r2 k3 = some r) (hS : ∀ b, S0 b → b < w0.heap.size) : Calls Tryz.prog 75 #[.int .i64 start1, .agg #[.int .i64 r2.Num, .int .i64 r2.Den], .int .i64 k3] w0 (Ret ([]) w0 S0 (ref02_Time_rd w0 ([]) r)) := by
 refine calls_of_wp Tryz.func75 rfl ?_
 have hs := Sl.enter #[.int .i64 start1, .agg #[.int .i64 r2.Num, .int .i64 r2.Den], .int .i64 k3] 29 [(0, .int .i64 start1), (1, .agg #[.int .i64 r2.Num, .int .i64 r2.Den]), (2, .int .i64 k3)] rfl ⟨rfl, rfl, rfl, trivial⟩
 have hw := Wd.enter (E := []) hS (fun _ h => (by cases h))
 delta ref02_Time at hsh
 refine sr ?_
 refine w_box (cs := [.int .i64 r2.Num, .int .i64 r2.Den]) hs hw rfl rfl rfl trivial ?_
 intro b4 a w hs hw
 refine av hs rfl rfl fun a hs => ?_
 refine av hs rfl rfl fun a hs => ?_
 refine nl ?_
 refine wp_seq ?_
 refine sr ?_
 refine sv hs (y_loadBA (hw.ownAt 0 rfl) rfl Tryz.isAgg34 Tryz.sizeOf34 rfl rfl) rfl fun a hs => ?_
 obtain ⟨rv6, h5, hsh⟩ := bind_t hsh
 refine st_callR hs (ref02_Valid_ok h5 hw.bdom) (do_call Tryz.call87 rfl) trivial rfl rfl ?_
 intro v10 Sv7 w a h8 h9 hs
 subst h9
 have hw := hw.callB h8
 refine sv hs (y_not rfl) rfl fun a hs => ?_
 refine nl ?_
 refine wp_cond_split (hs.ev rfl) (fun h13 => ?_) (fun h13 => ?_)
 ·have hsh := ite_t hsh h13
  refine sr ?_
  refine av hs rfl rfl fun a hs => ?_
  refine av hs rfl rfl fun a hs => ?_
  refine nl ?_
  have hsh := oi hsh
  subst hsh
  refine wp_ret ?_
  refine then_ret ?_
  exact ret2 hs rfl (rv_tmp rfl) (rv_tmp rfl) (hw.ret rfl)
 have hsh := ite_f hsh h13
 refine wp_skip ?_
 refine then_normal ?_
 refine wp_seq ?_
 refine sr ?_
 refine mv hs rfl rfl fun a hs => ?_
 obtain ⟨rv15, h14, hsh⟩ := bind_t hsh
 refine st_callR hs (ref01_In_ok h14 hw.bdom) (do_call Tryz.call37 rfl) trivial rfl rfl ?_
 intro v19 Sv16 w a h17 h18 hs
 subst h18
 have hw := hw.callB h17
 refine sv hs (y_not rfl) rfl fun a hs => ?_
 refine mv hs rfl rfl fun a hs => ?_
 obtain ⟨c29, hc29, hsh⟩ := bind_t hsh
 refine wpl_join 4 (fun a w => ∃ (Sv30 : Nat → Prop), Sl 29 [(0, .int .i64 start1), (2, .int .i64 k3), (4, .pointer (some ⟨b4, 0, none⟩)), (18, .bool c29)] a ∧ Wd ⟨w0, S0, []⟩ Sv30 [.box b4 [.int .i64 r2.Num, .int .i64 r2.Den] 34] [] w) ?_ ?_
 ·rcases Bool.eq_false_or_eq_true (!rv15) with h28 | h28
  ·have hs := hs.fix 14 (.bool true) rfl (vb h28)
   have hsh := ite_t hc29 h28
   refine st_skip hs rfl rfl rfl rfl rfl fun a hs => ?_
   refine st_skip hs rfl rfl rfl rfl rfl fun a hs => ?_
   refine st_skip hs rfl rfl rfl rfl rfl fun a hs => ?_
   refine sv hs (y_pickT rfl rfl) rfl fun a hs => ?_
   refine wpList_nil ?_
   have hsh := oi hsh
   subst hsh
   refine then_normal ?_
   exact ⟨S0, (hs.wk rfl), (hw.ft [0] [] (by decide) rfl rfl)⟩
  have hs := hs.fix 14 (.bool false) rfl (vb h28)
  have hsh := ite_f hc29 h28
  refine st_val hs (y_move rfl) ⟨_, rfl, rfl⟩ rfl rfl fun a hs => ?_
  obtain ⟨rv32, h31, hsh⟩ := bind_t hsh
  refine st_callR hs (ref01_In_ok h31 hw.bdom) (do_call Tryz.call37 rfl) ⟨_, rfl, rfl⟩ rfl rfl ?_
  intro v36 Sv33 w a h34 h35 hs
  subst h35
  have hw := hw.callB h34
  refine st_val hs (y_not rfl) ⟨_, rfl, rfl⟩ rfl rfl fun a hs => ?_
  refine sv hs (y_pickF rfl rfl) rfl fun a hs => ?_
  refine wpList_nil ?_
  have hsh := oi hsh
  subst hsh
  refine then_normal ?_
  exact ⟨S0, (hs.wk rfl), (hw.ft [0] [] (by decide) rfl rfl)⟩
 rintro a w ⟨Sv30, hs, hw⟩
 refine nl ?_
 refine wp_cond_split (hs.ev rfl) (fun h39 => ?_) (fun h39 => ?_)
 ·have hsh := ite_t hsh h39
  refine sr ?_
  refine av hs rfl rfl fun a hs => ?_
  refine av hs rfl rfl fun a hs => ?_
  refine nl ?_
  have hsh := oi hsh
  subst hsh
  refine wp_ret ?_
  refine then_ret ?_
  exact ret2 hs rfl (rv_tmp rfl) (rv_tmp rfl) (hw.ret rfl)
 have hsh := ite_f hsh h39
 refine wp_skip ?_
 refine then_normal ?_
 refine sr ?_
 refine mv hs rfl rfl fun a hs => ?_
 refine mv hs rfl rfl fun a hs => ?_
 refine sv hs (y_fieldAddr (o' := 1) Tryz.runUnderlying34 rfl Tryz.sizeOf3 rfl rfl rfl) rfl fun a hs => ?_
 refine sv hs (y_loadB1 (hw.ownAt 0 rfl) rfl Tryz.isAgg3 rfl) rfl fun a hs => ?_
 refine sv hs (y_mul rfl rfl) rfl fun a hs => ?_
 refine sv hs (y_mul rfl rfl) rfl fun a hs => ?_
 refine sv hs (y_fieldAddr (o' := 0) Tryz.runUnderlying34 rfl Tryz.sizeOf3 rfl rfl rfl) rfl fun a hs => ?_
 refine sv hs (y_loadB1 (hw.ownAt 0 rfl) rfl Tryz.isAgg3 rfl) rfl fun a hs => ?_
 obtain ⟨quo41, h40, hsh⟩ := bind_t hsh
 refine sv hs (y_quoM rfl rfl h40) rfl fun a hs => ?_
 refine sv hs (y_add rfl rfl) rfl fun a hs => ?_
 obtain ⟨x43, h42, hsh⟩ := bind_t hsh
 refine sv hs (y_assignI rfl h42) rfl fun a hs => ?_
 refine av hs rfl rfl fun a hs => ?_
 refine nl ?_
 have hsh := oi hsh
 subst hsh
 refine wp_ret ?_
 exact ret2 hs rfl (rv_tmp rfl) (rv_tmp rfl) (hw.ret rfl)
abbrev ref14_Time_rd (w0 : World) (X : List Nat) (r : Int) : (Nat → Prop) → World → Value → Prop := fun S w v => v = .int .i64 r
set_option maxHeartbeats 4000000 in
set_option maxRecDepth 100000 in
theorem ref14_Time_ok {w0 : World} {S0 : Nat → Prop} {p2 : Option Addr} {k3 : Nat} {r1 : Record} {i5 : Int} {r : Int} (hsh : ref14_Time r1 i5 = some r) (hS : ∀ b, S0 b → b < w0.heap.size) (h4 : (SlA p2 r1.Samples.length k3 r1.Samples).p S0 w0) : Calls Tryz.prog 88 #[.agg #[.string r1.Source.Network, .string r1.Source.Station, .string r1.Source.Location, .string r1.Source.Channel, .int .i64 r1.Start, .int .i64 r1.First, .int .i64 r1.Rate.Num, .int .i64 r1.Rate.Den, .int .i64 r1.Error, .int .i64 r1.Run, .int .i64 r1.Seq, .slice p2 r1.Samples.length k3], .int .i64 i5] w0 (Ret ([]) w0 S0 (ref14_Time_rd w0 ([]) r)) := by
 refine calls_of_wp Tryz.func88 rfl ?_
 have hs := Sl.enter #[.agg #[.string r1.Source.Network, .string r1.Source.Station, .string r1.Source.Location, .string r1.Source.Channel, .int .i64 r1.Start, .int .i64 r1.First, .int .i64 r1.Rate.Num, .int .i64 r1.Rate.Den, .int .i64 r1.Error, .int .i64 r1.Run, .int .i64 r1.Seq, .slice p2 r1.Samples.length k3], .int .i64 i5] 20 [(0, .agg #[.string r1.Source.Network, .string r1.Source.Station, .string r1.Source.Location, .string r1.Source.Channel, .int .i64 r1.Start, .int .i64 r1.First, .int .i64 r1.Rate.Num, .int .i64 r1.Rate.Den, .int .i64 r1.Error, .int .i64 r1.Run, .int .i64 r1.Seq, .slice p2 r1.Samples.length k3]), (1, .int .i64 i5)] rfl ⟨rfl, rfl, trivial⟩
 have hw := Wd.enter (E := []) hS (fun _ h => (by cases h))
 have hw := hw.addE h4
 delta ref14_Time at hsh
 refine sr ?_
 refine w_box (cs := [.string r1.Source.Network, .string r1.Source.Station, .string r1.Source.Location, .string r1.Source.Channel, .int .i64 r1.Start, .int .i64 r1.First, .int .i64 r1.Rate.Num, .int .i64 r1.Rate.Den, .int .i64 r1.Error, .int .i64 r1.Run, .int .i64 r1.Seq, .slice p2 r1.Samples.length k3]) hs hw rfl rfl rfl trivial ?_
 intro b6 a w hs hw
 refine av hs rfl rfl fun a hs => ?_
 refine nl ?_
 refine sr ?_
 refine sv hs (y_fieldAddr (o' := 4) Tryz.runUnderlying102 rfl Tryz.sizeOf3 rfl rfl rfl) rfl fun a hs => ?_
 refine sv hs (y_loadB1 (hw.ownAt 0 rfl) rfl Tryz.isAgg3 rfl) rfl fun a hs => ?_
 refine sv hs (y_fieldAddr (o' := 6) Tryz.runUnderlying102 rfl Tryz.sizeOf34 rfl rfl rfl) rfl fun a hs => ?_
 refine sv hs (y_loadBA (hw.ownAt 0 rfl) rfl Tryz.isAgg34 Tryz.sizeOf34 rfl rfl) rfl fun a hs => ?_
 refine sv hs (y_fieldAddr (o' := 5) Tryz.runUnderlying102 rfl Tryz.sizeOf3 rfl rfl rfl) rfl fun a hs => ?_
 refine sv hs (y_loadB1 (hw.ownAt 0 rfl) rfl Tryz.isAgg3 rfl) rfl fun a hs => ?_
 refine mv hs rfl rfl fun a hs => ?_
 refine sv hs (y_add rfl rfl) rfl fun a hs => ?_
 obtain ⟨rv8, h7, hsh⟩ := bind_t hsh
 refine st_callR hs (ref02_Time_ok h7 hw.bdom) (do_call Tryz.call75 rfl) trivial rfl rfl ?_
 intro v12 Sv9 w a h10 h11 hs
 subst h11
 have hw := hw.callB h10
 refine mv hs rfl rfl fun a hs => ?_
 refine sv hs (y_extract rfl rfl) rfl fun a hs => ?_
 refine sv hs (y_extract rfl rfl) rfl fun a hs => ?_
 refine av hs rfl rfl fun a hs => ?_
 refine av hs rfl rfl fun a hs => ?_
 refine nl ?_
 refine sr ?_
 refine mv hs rfl rfl fun a hs => ?_
 refine av hs rfl rfl fun a hs => ?_
 refine nl ?_
 have hsh := oi hsh
 subst hsh
 refine wp_ret ?_
 exact ret1 hs rfl (rv_tmp rfl) (hw.ret rfl)
abbrev ref14_Valid_rd (w0 : World) (X : List Nat) (r : Bool) : (Nat → Prop) → World → Value → Prop := fun S w v => v = .bool r
set_option maxHeartbeats 4000000 in
set_option maxRecDepth 100000 in
theorem ref14_Valid_ok {w0 : World} {S0 : Nat → Prop} {p2 : Option Addr} {k3 : Nat} {r1 : Record} {r : Bool} (hsh : ref14_Valid r1 = some r) (hS : ∀ b, S0 b → b < w0.heap.size) (h4 : (SlA p2 r1.Samples.length k3 r1.Samples).p S0 w0) : Calls Tryz.prog 68 #[.agg #[.string r1.Source.Network, .string r1.Source.Station, .string r1.Source.Location, .string r1.Source.Channel, .int .i64 r1.Start, .int .i64 r1.First, .int .i64 r1.Rate.Num, .int .i64 r1.Rate.Den, .int .i64 r1.Error, .int .i64 r1.Run, .int .i64 r1.Seq, .slice p2 r1.Samples.length k3]] w0 (Ret ([]) w0 S0 (ref14_Valid_rd w0 ([]) r)) := by
 refine calls_of_wp Tryz.func68 rfl ?_
 have hs := Sl.enter #[.agg #[.string r1.Source.Network, .string r1.Source.Station, .string r1.Source.Location, .string r1.Source.Channel, .int .i64 r1.Start, .int .i64 r1.First, .int .i64 r1.Rate.Num, .int .i64 r1.Rate.Den, .int .i64 r1.Error, .int .i64 r1.Run, .int .i64 r1.Seq, .slice p2 r1.Samples.length k3]] 68 [(0, .agg #[.string r1.Source.Network, .string r1.Source.Station, .string r1.Source.Location, .string r1.Source.Channel, .int .i64 r1.Start, .int .i64 r1.First, .int .i64 r1.Rate.Num, .int .i64 r1.Rate.Den, .int .i64 r1.Error, .int .i64 r1.Run, .int .i64 r1.Seq, .slice p2 r1.Samples.length k3])] rfl ⟨rfl, trivial⟩
 have hw := Wd.enter (E := []) hS (fun _ h => (by cases h))
 have hw := hw.addE h4
 delta ref14_Valid at hsh
 refine sr ?_
 refine w_box (cs := [.string r1.Source.Network, .string r1.Source.Station, .string r1.Source.Location, .string r1.Source.Channel, .int .i64 r1.Start, .int .i64 r1.First, .int .i64 r1.Rate.Num, .int .i64 r1.Rate.Den, .int .i64 r1.Error, .int .i64 r1.Run, .int .i64 r1.Seq, .slice p2 r1.Samples.length k3]) hs hw rfl rfl rfl trivial ?_
 intro b5 a w hs hw
 refine av hs rfl rfl fun a hs => ?_
 refine nl ?_
 refine wp_seq ?_
 refine sr ?_
 refine sv hs (y_fieldAddr (o' := 0) Tryz.runUnderlying102 rfl Tryz.sizeOf41 rfl rfl rfl) rfl fun a hs => ?_
 refine sv hs (y_loadBA (hw.ownAt 0 rfl) rfl Tryz.isAgg41 Tryz.sizeOf41 rfl rfl) rfl fun a hs => ?_
 obtain ⟨rv7, h6, hsh⟩ := bind_t hsh
 refine st_callR hs (ref03_Valid_ok h6 hw.bdom) (do_call Tryz.call43 rfl) trivial rfl rfl ?_
 intro v11 Sv8 w a h9 h10 hs
 subst h10
 have hw := hw.callB h9
 refine sv hs (y_not rfl) rfl fun a hs => ?_
 refine mv hs rfl rfl fun a hs => ?_
 obtain ⟨c21, hc21, hsh⟩ := bind_t hsh
 refine wpl_join 5 (fun a w => ∃ (Sv22 : Nat → Prop), Sl 68 [(1, .pointer (some ⟨b5, 0, none⟩)), (12, .bool c21)] a ∧ Wd ⟨w0, S0, []⟩ Sv22 [.box b5 [.string r1.Source.Network, .string r1.Source.Station, .string r1.Source.Location, .string r1.Source.Channel, .int .i64 r1.Start, .int .i64 r1.First, .int .i64 r1.Rate.Num, .int .i64 r1.Rate.Den, .int .i64 r1.Error, .int .i64 r1.Run, .int .i64 r1.Seq, .slice p2 r1.Samples.length k3] 102] [SlA p2 r1.Samples.length k3 r1.Samples] w) ?_ ?_
 ·rcases Bool.eq_false_or_eq_true (!rv7) with h20 | h20
  ·have hs := hs.fix 7 (.bool true) rfl (vb h20)
   have hsh := ite_t hc21 h20
   refine st_skip hs rfl rfl rfl rfl rfl fun a hs => ?_
   refine st_skip hs rfl rfl rfl rfl rfl fun a hs => ?_
   refine st_skip hs rfl rfl rfl rfl rfl fun a hs => ?_
   refine st_skip hs rfl rfl rfl rfl rfl fun a hs => ?_
   refine sv hs (y_pickT rfl rfl) rfl fun a hs => ?_
   refine wpList_nil ?_
   have hsh := oi hsh
   subst hsh
   refine then_normal ?_
   exact ⟨S0, (hs.wk rfl), (hw.ft [0] [0] (by decide) rfl rfl)⟩
  have hs := hs.fix 7 (.bool false) rfl (vb h20)
  have hsh := ite_f hc21 h20
  refine st_val hs (y_fieldAddr (o' := 6) Tryz.runUnderlying102 rfl Tryz.sizeOf34 rfl rfl rfl) ⟨_, rfl, rfl⟩ rfl rfl fun a hs => ?_
  refine st_val hs (y_loadBA (hw.ownAt 0 rfl) rfl Tryz.isAgg34 Tryz.sizeOf34 rfl rfl) ⟨_, rfl, rfl⟩ rfl rfl fun a hs => ?_
  obtain ⟨rv24, h23, hsh⟩ := bind_t hsh
  refine st_callR hs (ref02_Valid_ok h23 hw.bdom) (do_call Tryz.call87 rfl) ⟨_, rfl, rfl⟩ rfl rfl ?_
  intro v28 Sv25 w a h26 h27 hs
  subst h27
  have hw := hw.callB h26
  refine st_val hs (y_not rfl) ⟨_, rfl, rfl⟩ rfl rfl fun a hs => ?_
  refine sv hs (y_pickF rfl rfl) rfl fun a hs => ?_
  refine wpList_nil ?_
  have hsh := oi hsh
  subst hsh
  refine then_normal ?_
  exact ⟨S0, (hs.wk rfl), (hw.ft [0] [0] (by decide) rfl rfl)⟩
 rintro a w ⟨Sv22, hs, hw⟩
 refine mv hs rfl rfl fun a hs => ?_
 obtain ⟨c38, hc38, hsh⟩ := bind_t hsh
 refine wpl_join 5 (fun a w => ∃ (Sv39 : Nat → Prop), Sl 68 [(1, .pointer (some ⟨b5, 0, none⟩)), (18, .bool c38)] a ∧ Wd ⟨w0, S0, []⟩ Sv39 [.box b5 [.string r1.Source.Network, .string r1.Source.Station, .string r1.Source.Location, .string r1.Source.Channel, .int .i64 r1.Start, .int .i64 r1.First, .int .i64 r1.Rate.Num, .int .i64 r1.Rate.Den, .int .i64 r1.Error, .int .i64 r1.Run, .int .i64 r1.Seq, .slice p2 r1.Samples.length k3] 102] [SlA p2 r1.Samples.length k3 r1.Samples] w) ?_ ?_
 ·rcases Bool.eq_false_or_eq_true c21 with h37 | h37
  ·have hs := hs.fix 13 (.bool true) rfl (vb h37)
   have hsh := ite_t hc38 h37
   refine st_skip hs rfl rfl rfl rfl rfl fun a hs => ?_
   refine st_skip hs rfl rfl rfl rfl rfl fun a hs => ?_
   refine st_skip hs rfl rfl rfl rfl rfl fun a hs => ?_
   refine st_skip hs rfl rfl rfl rfl rfl fun a hs => ?_
   refine sv hs (y_pickT rfl rfl) rfl fun a hs => ?_
   refine wpList_nil ?_
   have hsh := oi hsh
   subst hsh
   refine then_normal ?_
   exact ⟨Sv22, (hs.wk rfl), (hw.ft [0] [0] (by decide) rfl rfl)⟩
  have hs := hs.fix 13 (.bool false) rfl (vb h37)
  have hsh := ite_f hc38 h37
  refine st_val hs (y_fieldAddr (o' := 4) Tryz.runUnderlying102 rfl Tryz.sizeOf3 rfl rfl rfl) ⟨_, rfl, rfl⟩ rfl rfl fun a hs => ?_
  refine st_val hs (y_loadB1 (hw.ownAt 0 rfl) rfl Tryz.isAgg3 rfl) ⟨_, rfl, rfl⟩ rfl rfl fun a hs => ?_
  obtain ⟨rv41, h40, hsh⟩ := bind_t hsh
  refine st_callR hs (ref01_In_ok h40 hw.bdom) (do_call Tryz.call37 rfl) ⟨_, rfl, rfl⟩ rfl rfl ?_
  intro v45 Sv42 w a h43 h44 hs
  subst h44
  have hw := hw.callB h43
  refine st_val hs (y_not rfl) ⟨_, rfl, rfl⟩ rfl rfl fun a hs => ?_
  refine sv hs (y_pickF rfl rfl) rfl fun a hs => ?_
  refine wpList_nil ?_
  have hsh := oi hsh
  subst hsh
  refine then_normal ?_
  exact ⟨Sv22, (hs.wk rfl), (hw.ft [0] [0] (by decide) rfl rfl)⟩
 rintro a w ⟨Sv39, hs, hw⟩
 refine mv hs rfl rfl fun a hs => ?_
 obtain ⟨c55, hc55, hsh⟩ := bind_t hsh
 refine wpl_join 5 (fun a w => ∃ (Sv56 : Nat → Prop), Sl 68 [(1, .pointer (some ⟨b5, 0, none⟩)), (24, .bool c55)] a ∧ Wd ⟨w0, S0, []⟩ Sv56 [.box b5 [.string r1.Source.Network, .string r1.Source.Station, .string r1.Source.Location, .string r1.Source.Channel, .int .i64 r1.Start, .int .i64 r1.First, .int .i64 r1.Rate.Num, .int .i64 r1.Rate.Den, .int .i64 r1.Error, .int .i64 r1.Run, .int .i64 r1.Seq, .slice p2 r1.Samples.length k3] 102] [SlA p2 r1.Samples.length k3 r1.Samples] w) ?_ ?_
 ·rcases Bool.eq_false_or_eq_true c38 with h54 | h54
  ·have hs := hs.fix 19 (.bool true) rfl (vb h54)
   have hsh := ite_t hc55 h54
   refine st_skip hs rfl rfl rfl rfl rfl fun a hs => ?_
   refine st_skip hs rfl rfl rfl rfl rfl fun a hs => ?_
   refine st_skip hs rfl rfl rfl rfl rfl fun a hs => ?_
   refine st_skip hs rfl rfl rfl rfl rfl fun a hs => ?_
   refine sv hs (y_pickT rfl rfl) rfl fun a hs => ?_
   refine wpList_nil ?_
   have hsh := oi hsh
   subst hsh
   refine then_normal ?_
   exact ⟨Sv39, (hs.wk rfl), (hw.ft [0] [0] (by decide) rfl rfl)⟩
  have hs := hs.fix 19 (.bool false) rfl (vb h54)
  have hsh := ite_f hc55 h54
  refine st_val hs (y_fieldAddr (o' := 5) Tryz.runUnderlying102 rfl Tryz.sizeOf3 rfl rfl rfl) ⟨_, rfl, rfl⟩ rfl rfl fun a hs => ?_
  refine st_val hs (y_loadB1 (hw.ownAt 0 rfl) rfl Tryz.isAgg3 rfl) ⟨_, rfl, rfl⟩ rfl rfl fun a hs => ?_
  obtain ⟨rv58, h57, hsh⟩ := bind_t hsh
  refine st_callR hs (ref01_In_ok h57 hw.bdom) (do_call Tryz.call37 rfl) ⟨_, rfl, rfl⟩ rfl rfl ?_
  intro v62 Sv59 w a h60 h61 hs
  subst h61
  have hw := hw.callB h60
  refine st_val hs (y_not rfl) ⟨_, rfl, rfl⟩ rfl rfl fun a hs => ?_
  refine sv hs (y_pickF rfl rfl) rfl fun a hs => ?_
  refine wpList_nil ?_
  have hsh := oi hsh
  subst hsh
  refine then_normal ?_
  exact ⟨Sv39, (hs.wk rfl), (hw.ft [0] [0] (by decide) rfl rfl)⟩
 rintro a w ⟨Sv56, hs, hw⟩
 refine mv hs rfl rfl fun a hs => ?_
 obtain ⟨c72, hc72, hsh⟩ := bind_t hsh
 refine wpl_join 6 (fun a w => ∃ (Sv73 : Nat → Prop), Sl 68 [(1, .pointer (some ⟨b5, 0, none⟩)), (31, .bool c72)] a ∧ Wd ⟨w0, S0, []⟩ Sv73 [.box b5 [.string r1.Source.Network, .string r1.Source.Station, .string r1.Source.Location, .string r1.Source.Channel, .int .i64 r1.Start, .int .i64 r1.First, .int .i64 r1.Rate.Num, .int .i64 r1.Rate.Den, .int .i64 r1.Error, .int .i64 r1.Run, .int .i64 r1.Seq, .slice p2 r1.Samples.length k3] 102] [SlA p2 r1.Samples.length k3 r1.Samples] w) ?_ ?_
 ·rcases Bool.eq_false_or_eq_true c55 with h71 | h71
  ·have hs := hs.fix 25 (.bool true) rfl (vb h71)
   have hsh := ite_t hc72 h71
   refine st_skip hs rfl rfl rfl rfl rfl fun a hs => ?_
   refine st_skip hs rfl rfl rfl rfl rfl fun a hs => ?_
   refine st_skip hs rfl rfl rfl rfl rfl fun a hs => ?_
   refine st_skip hs rfl rfl rfl rfl rfl fun a hs => ?_
   refine st_skip hs rfl rfl rfl rfl rfl fun a hs => ?_
   refine sv hs (y_pickT rfl rfl) rfl fun a hs => ?_
   refine wpList_nil ?_
   have hsh := oi hsh
   subst hsh
   refine then_normal ?_
   exact ⟨Sv56, (hs.wk rfl), (hw.ft [0] [0] (by decide) rfl rfl)⟩
  have hs := hs.fix 25 (.bool false) rfl (vb h71)
  have hsh := ite_f hc72 h71
  refine st_val hs (y_fieldAddr (o' := 11) Tryz.runUnderlying102 rfl Tryz.sizeOf22 rfl rfl rfl) ⟨_, rfl, rfl⟩ rfl rfl fun a hs => ?_
  refine st_val hs (y_loadB1 (hw.ownAt 0 rfl) rfl Tryz.isAgg22 rfl) ⟨_, rfl, rfl⟩ rfl rfl fun a hs => ?_
  refine st_val hs (y_len Tryz.runUnderlying22 rfl) ⟨_, rfl, rfl⟩ rfl rfl fun a hs => ?_
  obtain ⟨rv75, h74, hsh⟩ := bind_t hsh
  refine st_callR hs (ref01_In_ok h74 hw.bdom) (do_call Tryz.call37 rfl) ⟨_, rfl, rfl⟩ rfl rfl ?_
  intro v79 Sv76 w a h77 h78 hs
  subst h78
  have hw := hw.callB h77
  refine st_val hs (y_not rfl) ⟨_, rfl, rfl⟩ rfl rfl fun a hs => ?_
  refine sv hs (y_pickF rfl rfl) rfl fun a hs => ?_
  refine wpList_nil ?_
  have hsh := oi hsh
  subst hsh
  refine then_normal ?_
  exact ⟨Sv56, (hs.wk rfl), (hw.ft [0] [0] (by decide) rfl rfl)⟩
 rintro a w ⟨Sv73, hs, hw⟩
 refine mv hs rfl rfl fun a hs => ?_
 refine wpl_join 8 (fun a w1 => w = w1 ∧ Sl 68 [(1, .pointer (some ⟨b5, 0, none⟩)), (40, .bool (c72 || (decide (16777216 < (w64 (r1.First + (r1.Samples.length : Int)))))))] a) ?_ ?_
 ·rcases Bool.eq_false_or_eq_true c72 with h81 | h81
  ·have hs := hs.fix 32 (.bool true) rfl (vb h81)
   refine st_skip hs rfl rfl rfl rfl rfl fun a hs => ?_
   refine st_skip hs rfl rfl rfl rfl rfl fun a hs => ?_
   refine st_skip hs rfl rfl rfl rfl rfl fun a hs => ?_
   refine st_skip hs rfl rfl rfl rfl rfl fun a hs => ?_
   refine st_skip hs rfl rfl rfl rfl rfl fun a hs => ?_
   refine st_skip hs rfl rfl rfl rfl rfl fun a hs => ?_
   refine st_skip hs rfl rfl rfl rfl rfl fun a hs => ?_
   refine sv hs (y_pickT rfl rfl) rfl fun a hs => ?_
   refine nl ?_
   exact ⟨rfl, (hs.fix 40 (.bool (c72 || (decide (16777216 < (w64 (r1.First + (r1.Samples.length : Int))))))) rfl (or_t h81)).weaken _ ⟨rfl, rfl, trivial⟩⟩
  have hs := hs.fix 32 (.bool false) rfl (vb h81)
  refine st_val hs (y_fieldAddr (o' := 5) Tryz.runUnderlying102 rfl Tryz.sizeOf3 rfl rfl rfl) ⟨_, rfl, rfl⟩ rfl rfl fun a hs => ?_
  refine st_val hs (y_loadB1 (hw.ownAt 0 rfl) rfl Tryz.isAgg3 rfl) ⟨_, rfl, rfl⟩ rfl rfl fun a hs => ?_
  refine st_val hs (y_fieldAddr (o' := 11) Tryz.runUnderlying102 rfl Tryz.sizeOf22 rfl rfl rfl) ⟨_, rfl, rfl⟩ rfl rfl fun a hs => ?_
  refine st_val hs (y_loadB1 (hw.ownAt 0 rfl) rfl Tryz.isAgg22 rfl) ⟨_, rfl, rfl⟩ rfl rfl fun a hs => ?_
  refine st_val hs (y_len Tryz.runUnderlying22 rfl) ⟨_, rfl, rfl⟩ rfl rfl fun a hs => ?_
  refine st_val hs (y_add rfl rfl) ⟨_, rfl, rfl⟩ rfl rfl fun a hs => ?_
  refine st_val hs (y_gtr rfl rfl) ⟨_, rfl, rfl⟩ rfl rfl fun a hs => ?_
  refine sv hs (y_pickF rfl rfl) rfl fun a hs => ?_
  refine nl ?_
  exact ⟨rfl, (hs.fix 40 (.bool (c72 || (decide (16777216 < (w64 (r1.First + (r1.Samples.length : Int))))))) rfl (or_f h81)).weaken _ ⟨rfl, rfl, trivial⟩⟩
 rintro a w1 ⟨h159, hs⟩
 subst h159
 refine mv hs rfl rfl fun a hs => ?_
 obtain ⟨c90, hc90, hsh⟩ := bind_t hsh
 refine wpl_join 5 (fun a w => ∃ (Sv91 : Nat → Prop), Sl 68 [(1, .pointer (some ⟨b5, 0, none⟩)), (46, .bool c90)] a ∧ Wd ⟨w0, S0, []⟩ Sv91 [.box b5 [.string r1.Source.Network, .string r1.Source.Station, .string r1.Source.Location, .string r1.Source.Channel, .int .i64 r1.Start, .int .i64 r1.First, .int .i64 r1.Rate.Num, .int .i64 r1.Rate.Den, .int .i64 r1.Error, .int .i64 r1.Run, .int .i64 r1.Seq, .slice p2 r1.Samples.length k3] 102] [SlA p2 r1.Samples.length k3 r1.Samples] w) ?_ ?_
 ·rcases Bool.eq_false_or_eq_true (c72 || (decide (16777216 < (w64 (r1.First + (r1.Samples.length : Int)))))) with h89 | h89
  ·have hs := hs.fix 41 (.bool true) rfl (vb h89)
   have hsh := ite_t hc90 h89
   refine st_skip hs rfl rfl rfl rfl rfl fun a hs => ?_
   refine st_skip hs rfl rfl rfl rfl rfl fun a hs => ?_
   refine st_skip hs rfl rfl rfl rfl rfl fun a hs => ?_
   refine st_skip hs rfl rfl rfl rfl rfl fun a hs => ?_
   refine sv hs (y_pickT rfl rfl) rfl fun a hs => ?_
   refine wpList_nil ?_
   have hsh := oi hsh
   subst hsh
   refine then_normal ?_
   exact ⟨Sv73, (hs.wk rfl), (hw.ft [0] [0] (by decide) rfl rfl)⟩
  have hs := hs.fix 41 (.bool false) rfl (vb h89)
  have hsh := ite_f hc90 h89
  refine st_val hs (y_fieldAddr (o' := 11) Tryz.runUnderlying102 rfl Tryz.sizeOf22 rfl rfl rfl) ⟨_, rfl, rfl⟩ rfl rfl fun a hs => ?_
  refine st_val hs (y_loadB1 (hw.ownAt 0 rfl) rfl Tryz.isAgg22 rfl) ⟨_, rfl, rfl⟩ rfl rfl fun a hs => ?_
  obtain ⟨rv93, h92, hsh⟩ := bind_t hsh
  refine st_callR hs (ref05_InRange_ok h92 hw.bdom (hw.bE 0 rfl)) (do_call Tryz.call31 rfl) ⟨_, rfl, rfl⟩ rfl rfl ?_
  intro v97 Sv94 w a h95 h96 hs
  subst h96
  have hw := hw.callB h95
  refine st_val hs (y_not rfl) ⟨_, rfl, rfl⟩ rfl rfl fun a hs => ?_
  refine sv hs (y_pickF rfl rfl) rfl fun a hs => ?_
  refine wpList_nil ?_
  have hsh := oi hsh
  subst hsh
  refine then_normal ?_
  exact ⟨Sv73, (hs.wk rfl), (hw.ft [0] [0] (by decide) rfl rfl)⟩
 rintro a w ⟨Sv91, hs, hw⟩
 refine nl ?_
 refine wp_cond_split (hs.ev rfl) (fun h100 => ?_) (fun h100 => ?_)
 ·have hsh := ite_t hsh h100
  refine sr ?_
  refine av hs rfl rfl fun a hs => ?_
  refine nl ?_
  have hsh := oi hsh
  subst hsh
  refine wp_ret ?_
  refine then_ret ?_
  exact ret1 hs rfl (rv_tmp rfl) (hw.ret rfl)
 have hsh := ite_f hsh h100
 refine wp_skip ?_
 refine then_normal ?_
 refine sr ?_
 refine sv hs (y_fieldAddr (o' := 8) Tryz.runUnderlying102 rfl Tryz.sizeOf3 rfl rfl rfl) rfl fun a hs => ?_
 refine sv hs (y_loadB1 (hw.ownAt 0 rfl) rfl Tryz.isAgg3 rfl) rfl fun a hs => ?_
 obtain ⟨rv102, h101, hsh⟩ := bind_t hsh
 refine st_callR hs (ref01_In_ok h101 hw.bdom) (do_call Tryz.call37 rfl) trivial rfl rfl ?_
 intro v106 Sv103 w a h104 h105 hs
 subst h105
 have hw := hw.callB h104
 refine mv hs rfl rfl fun a hs => ?_
 obtain ⟨c116, hc116, hsh⟩ := bind_t hsh
 refine wpl_join 4 (fun a w => ∃ (Sv117 : Nat → Prop), Sl 68 [(1, .pointer (some ⟨b5, 0, none⟩)), (54, .bool c116)] a ∧ Wd ⟨w0, S0, []⟩ Sv117 [.box b5 [.string r1.Source.Network, .string r1.Source.Station, .string r1.Source.Location, .string r1.Source.Channel, .int .i64 r1.Start, .int .i64 r1.First, .int .i64 r1.Rate.Num, .int .i64 r1.Rate.Den, .int .i64 r1.Error, .int .i64 r1.Run, .int .i64 r1.Seq, .slice p2 r1.Samples.length k3] 102] [SlA p2 r1.Samples.length k3 r1.Samples] w) ?_ ?_
 ·rcases Bool.eq_false_or_eq_true rv102 with h115 | h115
  ·have hs := hs.fix 50 (.bool true) rfl (vb h115)
   have hsh := ite_t hc116 h115
   refine st_val hs (y_fieldAddr (o' := 9) Tryz.runUnderlying102 rfl Tryz.sizeOf3 rfl rfl rfl) ⟨_, rfl, rfl⟩ rfl rfl fun a hs => ?_
   refine st_val hs (y_loadB1 (hw.ownAt 0 rfl) rfl Tryz.isAgg3 rfl) ⟨_, rfl, rfl⟩ rfl rfl fun a hs => ?_
   obtain ⟨rv119, h118, hsh⟩ := bind_t hsh
   refine st_callR hs (ref01_In_ok h118 hw.bdom) (do_call Tryz.call37 rfl) ⟨_, rfl, rfl⟩ rfl rfl ?_
   intro v123 Sv120 w a h121 h122 hs
   subst h122
   have hw := hw.callB h121
   refine sv hs (y_pickT rfl rfl) rfl fun a hs => ?_
   refine wpList_nil ?_
   have hsh := oi hsh
   subst hsh
   refine then_normal ?_
   exact ⟨Sv91, (hs.wk rfl), (hw.ft [0] [0] (by decide) rfl rfl)⟩
  have hs := hs.fix 50 (.bool false) rfl (vb h115)
  have hsh := ite_f hc116 h115
  refine st_skip hs rfl rfl rfl rfl rfl fun a hs => ?_
  refine st_skip hs rfl rfl rfl rfl rfl fun a hs => ?_
  refine st_skip hs rfl rfl rfl rfl rfl fun a hs => ?_
  refine sv hs (y_pickF rfl rfl) rfl fun a hs => ?_
  refine wpList_nil ?_
  have hsh := oi hsh
  subst hsh
  refine then_normal ?_
  exact ⟨Sv91, (hs.wk rfl), (hw.ft [0] [0] (by decide) rfl rfl)⟩
 rintro a w ⟨Sv117, hs, hw⟩
 refine mv hs rfl rfl fun a hs => ?_
 obtain ⟨c133, hc133, hsh⟩ := bind_t hsh
 refine wpl_join 4 (fun a w => ∃ (Sv134 : Nat → Prop), Sl 68 [(1, .pointer (some ⟨b5, 0, none⟩)), (59, .bool c133)] a ∧ Wd ⟨w0, S0, []⟩ Sv134 [.box b5 [.string r1.Source.Network, .string r1.Source.Station, .string r1.Source.Location, .string r1.Source.Channel, .int .i64 r1.Start, .int .i64 r1.First, .int .i64 r1.Rate.Num, .int .i64 r1.Rate.Den, .int .i64 r1.Error, .int .i64 r1.Run, .int .i64 r1.Seq, .slice p2 r1.Samples.length k3] 102] [SlA p2 r1.Samples.length k3 r1.Samples] w) ?_ ?_
 ·rcases Bool.eq_false_or_eq_true c116 with h132 | h132
  ·have hs := hs.fix 55 (.bool true) rfl (vb h132)
   have hsh := ite_t hc133 h132
   refine st_val hs (y_fieldAddr (o' := 10) Tryz.runUnderlying102 rfl Tryz.sizeOf3 rfl rfl rfl) ⟨_, rfl, rfl⟩ rfl rfl fun a hs => ?_
   refine st_val hs (y_loadB1 (hw.ownAt 0 rfl) rfl Tryz.isAgg3 rfl) ⟨_, rfl, rfl⟩ rfl rfl fun a hs => ?_
   obtain ⟨rv136, h135, hsh⟩ := bind_t hsh
   refine st_callR hs (ref01_In_ok h135 hw.bdom) (do_call Tryz.call37 rfl) ⟨_, rfl, rfl⟩ rfl rfl ?_
   intro v140 Sv137 w a h138 h139 hs
   subst h139
   have hw := hw.callB h138
   refine sv hs (y_pickT rfl rfl) rfl fun a hs => ?_
   refine wpList_nil ?_
   have hsh := oi hsh
   subst hsh
   refine then_normal ?_
   exact ⟨Sv117, (hs.wk rfl), (hw.ft [0] [0] (by decide) rfl rfl)⟩
  have hs := hs.fix 55 (.bool false) rfl (vb h132)
  have hsh := ite_f hc133 h132
  refine st_skip hs rfl rfl rfl rfl rfl fun a hs => ?_
  refine st_skip hs rfl rfl rfl rfl rfl fun a hs => ?_
  refine st_skip hs rfl rfl rfl rfl rfl fun a hs => ?_
  refine sv hs (y_pickF rfl rfl) rfl fun a hs => ?_
  refine wpList_nil ?_
  have hsh := oi hsh
  subst hsh
  refine then_normal ?_
  exact ⟨Sv117, (hs.wk rfl), (hw.ft [0] [0] (by decide) rfl rfl)⟩
 rintro a w ⟨Sv134, hs, hw⟩
 refine mv hs rfl rfl fun a hs => ?_
 obtain ⟨c150, hc150, hsh⟩ := bind_t hsh
 refine wpl_join 7 (fun a w => ∃ (Sv151 : Nat → Prop), Sl 68 [(67, .bool c150)] a ∧ Wd ⟨w0, S0, []⟩ Sv151 [] [] w) ?_ ?_
 ·rcases Bool.eq_false_or_eq_true c133 with h149 | h149
  ·have hs := hs.fix 60 (.bool true) rfl (vb h149)
   have hsh := ite_t hc150 h149
   refine st_val hs (y_loadBA (hw.ownAt 0 rfl) rfl Tryz.isAgg102 Tryz.sizeOf102 rfl rfl) ⟨_, rfl, rfl⟩ rfl rfl fun a hs => ?_
   refine st_val hs (y_fieldAddr (o' := 11) Tryz.runUnderlying102 rfl Tryz.sizeOf22 rfl rfl rfl) ⟨_, rfl, rfl⟩ rfl rfl fun a hs => ?_
   refine st_val hs (y_loadB1 (hw.ownAt 0 rfl) rfl Tryz.isAgg22 rfl) ⟨_, rfl, rfl⟩ rfl rfl fun a hs => ?_
   refine st_val hs (y_len Tryz.runUnderlying22 rfl) ⟨_, rfl, rfl⟩ rfl rfl fun a hs => ?_
   obtain ⟨rv153, h152, hsh⟩ := bind_t hsh
   refine st_callR hs (ref14_Time_ok h152 hw.bdom (hw.bE 0 rfl)) (do_call Tryz.call88 rfl) ⟨_, rfl, rfl⟩ rfl rfl ?_
   intro v157 Sv154 w a h155 h156 hs
   subst h156
   have hw := hw.callB h155
   refine st_val hs (y_leq rfl rfl) ⟨_, rfl, rfl⟩ rfl rfl fun a hs => ?_
   refine sv hs (y_pickT rfl rfl) rfl fun a hs => ?_
   refine wpList_nil ?_
   have hsh := oi hsh
   subst hsh
   refine then_normal ?_
   exact ⟨Sv134, (hs.wk rfl), (hw.ft [] [] (by decide) rfl rfl)⟩
  have hs := hs.fix 60 (.bool false) rfl (vb h149)
  have hsh := ite_f hc150 h149
  refine st_skip hs rfl rfl rfl rfl rfl fun a hs => ?_
  refine st_skip hs rfl rfl rfl rfl rfl fun a hs => ?_
  refine st_skip hs rfl rfl rfl rfl rfl fun a hs => ?_
  refine st_skip hs rfl rfl rfl rfl rfl fun a hs => ?_
  refine st_skip hs rfl rfl rfl rfl rfl fun a hs => ?_
  refine st_skip hs rfl rfl rfl rfl rfl fun a hs => ?_
  refine sv hs (y_pickF rfl rfl) rfl fun a hs => ?_
  refine wpList_nil ?_
  have hsh := oi hsh
  subst hsh
  refine then_normal ?_
  exact ⟨Sv134, (hs.wk rfl), (hw.ft [] [] (by decide) rfl rfl)⟩
 rintro a w ⟨Sv151, hs, hw⟩
 refine av hs rfl rfl fun a hs => ?_
 refine nl ?_
 have hsh := oi hsh
 subst hsh
 refine wp_ret ?_
 exact ret1 hs rfl (rv_tmp rfl) (hw.ret rfl)
abbrev ref16_ValidSegment_rd (w0 : World) (X : List Nat) (r : Bool) : (Nat → Prop) → World → Value → Prop := fun S w v => v = .bool r
set_option maxHeartbeats 4000000 in
set_option maxRecDepth 100000 in
theorem ref16_ValidSegment_ok {w0 : World} {S0 : Nat → Prop} {p2 : Option Addr} {k3 : Nat} {s1 : Segment} {r : Bool} (hsh : ref16_ValidSegment s1 = some r) (hS : ∀ b, S0 b → b < w0.heap.size) (h4 : (SlA p2 s1.Samples.length k3 s1.Samples).p S0 w0) : Calls Tryz.prog 44 #[.agg #[.int .i64 s1.Start, .int .i64 s1.First, .int .i64 s1.Rate.Num, .int .i64 s1.Rate.Den, .int .i64 s1.Error, .slice p2 s1.Samples.length k3]] w0 (Ret ([]) w0 S0 (ref16_ValidSegment_rd w0 ([]) r)) := by
 refine calls_of_wp Tryz.func44 rfl ?_
 have hs := Sl.enter #[.agg #[.int .i64 s1.Start, .int .i64 s1.First, .int .i64 s1.Rate.Num, .int .i64 s1.Rate.Den, .int .i64 s1.Error, .slice p2 s1.Samples.length k3]] 6 [(0, .agg #[.int .i64 s1.Start, .int .i64 s1.First, .int .i64 s1.Rate.Num, .int .i64 s1.Rate.Den, .int .i64 s1.Error, .slice p2 s1.Samples.length k3])] rfl ⟨rfl, trivial⟩
 have hw := Wd.enter (E := []) hS (fun _ h => (by cases h))
 have hw := hw.addE h4
 delta ref16_ValidSegment at hsh
 refine sr ?_
 refine w_box (cs := [.int .i64 s1.Start, .int .i64 s1.First, .int .i64 s1.Rate.Num, .int .i64 s1.Rate.Den, .int .i64 s1.Error, .slice p2 s1.Samples.length k3]) hs hw rfl rfl rfl trivial ?_
 intro b5 a w hs hw
 refine av hs rfl rfl fun a hs => ?_
 refine nl ?_
 refine sr ?_
 refine sv hs (y_loadBA (hw.ownAt 0 rfl) rfl Tryz.isAgg36 Tryz.sizeOf36 rfl rfl) rfl fun a hs => ?_
 obtain ⟨rv7, h6, hsh⟩ := bind_t hsh
 refine st_callR hs (ref16_asRecord_ok h6 hw.dom (hw.envAt 0 rfl)) (do_call Tryz.call69 rfl) trivial rfl rfl ?_
 intro v14 Sv11 w a h12 h13 hs
 obtain ⟨p8, k9, rfl, h10⟩ := h13
 have hw := hw.call h12
 have hw := hw.addE (e := SlA p8 rv7.Samples.length k9 rv7.Samples) h10
 obtain ⟨rv17, h16, hsh⟩ := bind_t hsh
 refine st_callR hs (ref14_Valid_ok h16 hw.bdom (hw.bE 0 rfl)) (do_call Tryz.call68 rfl) trivial rfl rfl ?_
 intro v21 Sv18 w a h19 h20 hs
 subst h20
 have hw := hw.callB h19
 refine av hs rfl rfl fun a hs => ?_
 refine nl ?_
 have hsh := oi hsh
 subst hsh
 refine wp_ret ?_
 exact ret1 hs rfl (rv_tmp rfl) (hw.ret rfl)
abbrev ref23_time_rd (w0 : World) (X : List Nat) (r : Int) : (Nat → Prop) → World → Value → Prop := fun S w v => v = .int .i64 r
set_option maxHeartbeats 4000000 in
set_option maxRecDepth 100000 in
theorem ref23_time_ok {w0 : World} {S0 : Nat → Prop} {p2 : Option Addr} {k3 : Nat} {g1 : Segment} {i5 : Int} {r : Int} (hsh : ref23_time g1 i5 = some r) (hS : ∀ b, S0 b → b < w0.heap.size) (h4 : (SlA p2 g1.Samples.length k3 g1.Samples).p S0 w0) : Calls Tryz.prog 47 #[.agg #[.int .i64 g1.Start, .int .i64 g1.First, .int .i64 g1.Rate.Num, .int .i64 g1.Rate.Den, .int .i64 g1.Error, .slice p2 g1.Samples.length k3], .int .i64 i5] w0 (Ret ([]) w0 S0 (ref23_time_rd w0 ([]) r)) := by
 refine calls_of_wp Tryz.func47 rfl ?_
 have hs := Sl.enter #[.agg #[.int .i64 g1.Start, .int .i64 g1.First, .int .i64 g1.Rate.Num, .int .i64 g1.Rate.Den, .int .i64 g1.Error, .slice p2 g1.Samples.length k3], .int .i64 i5] 20 [(0, .agg #[.int .i64 g1.Start, .int .i64 g1.First, .int .i64 g1.Rate.Num, .int .i64 g1.Rate.Den, .int .i64 g1.Error, .slice p2 g1.Samples.length k3]), (1, .int .i64 i5)] rfl ⟨rfl, rfl, trivial⟩
 have hw := Wd.enter (E := []) hS (fun _ h => (by cases h))
 have hw := hw.addE h4
 delta ref23_time at hsh
 refine sr ?_
 refine w_box (cs := [.int .i64 g1.Start, .int .i64 g1.First, .int .i64 g1.Rate.Num, .int .i64 g1.Rate.Den, .int .i64 g1.Error, .slice p2 g1.Samples.length k3]) hs hw rfl rfl rfl trivial ?_
 intro b6 a w hs hw
 refine av hs rfl rfl fun a hs => ?_
 refine nl ?_
 refine sr ?_
 refine sv hs (y_fieldAddr (o' := 0) Tryz.runUnderlying36 rfl Tryz.sizeOf3 rfl rfl rfl) rfl fun a hs => ?_
 refine sv hs (y_loadB1 (hw.ownAt 0 rfl) rfl Tryz.isAgg3 rfl) rfl fun a hs => ?_
 refine sv hs (y_fieldAddr (o' := 2) Tryz.runUnderlying36 rfl Tryz.sizeOf34 rfl rfl rfl) rfl fun a hs => ?_
 refine sv hs (y_loadBA (hw.ownAt 0 rfl) rfl Tryz.isAgg34 Tryz.sizeOf34 rfl rfl) rfl fun a hs => ?_
 refine sv hs (y_fieldAddr (o' := 1) Tryz.runUnderlying36 rfl Tryz.sizeOf3 rfl rfl rfl) rfl fun a hs => ?_
 refine sv hs (y_loadB1 (hw.ownAt 0 rfl) rfl Tryz.isAgg3 rfl) rfl fun a hs => ?_
 refine mv hs rfl rfl fun a hs => ?_
 refine sv hs (y_add rfl rfl) rfl fun a hs => ?_
 obtain ⟨rv8, h7, hsh⟩ := bind_t hsh
 refine st_callR hs (ref02_Time_ok h7 hw.bdom) (do_call Tryz.call75 rfl) trivial rfl rfl ?_
 intro v12 Sv9 w a h10 h11 hs
 subst h11
 have hw := hw.callB h10
 refine mv hs rfl rfl fun a hs => ?_
 refine sv hs (y_extract rfl rfl) rfl fun a hs => ?_
 refine sv hs (y_extract rfl rfl) rfl fun a hs => ?_
 refine av hs rfl rfl fun a hs => ?_
 refine av hs rfl rfl fun a hs => ?_
 refine nl ?_
 refine sr ?_
 refine mv hs rfl rfl fun a hs => ?_
 refine av hs rfl rfl fun a hs => ?_
 refine nl ?_
 have hsh := oi hsh
 subst hsh
 refine wp_ret ?_
 exact ret1 hs rfl (rv_tmp rfl) (hw.ret rfl)
abbrev ref23_sign_rd (w0 : World) (X : List Nat) (r : Int) : (Nat → Prop) → World → Value → Prop := fun S w v => v = .int .i64 r
set_option maxHeartbeats 4000000 in
set_option maxRecDepth 100000 in
theorem ref23_sign_ok {w0 : World} {S0 : Nat → Prop} {n1 : Int} {r : Int} (hsh : ref23_sign n1 = some r) (hS : ∀ b, S0 b → b < w0.heap.size) : Calls Tryz.prog 48 #[.int .i64 n1] w0 (Ret ([]) w0 S0 (ref23_sign_rd w0 ([]) r)) := by
 refine calls_of_wp Tryz.func48 rfl ?_
 have hs := Sl.enter #[.int .i64 n1] 9 [(0, .int .i64 n1)] rfl ⟨rfl, trivial⟩
 have hw := Wd.enter (E := []) hS (fun _ h => (by cases h))
 delta ref23_sign at hsh
 refine sr ?_
 refine av hs rfl rfl fun a hs => ?_
 refine nl ?_
 refine wp_seq ?_
 refine wp_block ?_
 refine sr ?_
 refine mv hs rfl rfl fun a hs => ?_
 refine sv hs (y_lss rfl rfl) rfl fun a hs => ?_
 refine av hs rfl rfl fun a hs => ?_
 refine nl ?_
 refine wp_cond_split (hs.ev rfl) (fun h6 => ?_) (fun h6 => ?_)
 ·have hsh := ite_t hsh h6
  refine sr ?_
  refine av hs rfl rfl fun a hs => ?_
  refine nl ?_
  have hsh := oi hsh
  subst hsh
  refine wp_ret ?_
  refine blk_ret ?_
  refine then_ret ?_
  exact ret1 hs rfl (rv_tmp rfl) (hw.ret rfl)
 have hsh := ite_f hsh h6
 refine sr ?_
 refine mv hs rfl rfl fun a hs => ?_
 refine sv hs (y_gtr rfl rfl) rfl fun a hs => ?_
 refine av hs rfl rfl fun a hs => ?_
 refine nl ?_
 refine wp_cond_split (hs.ev rfl) (fun h8 => ?_) (fun h8 => ?_)
 ·have hsh := ite_t hsh h8
  refine sr ?_
  refine av hs rfl rfl fun a hs => ?_
  refine nl ?_
  have hsh := oi hsh
  subst hsh
  refine wp_ret ?_
  refine blk_ret ?_
  refine then_ret ?_
  exact ret1 hs rfl (rv_tmp rfl) (hw.ret rfl)
 have hsh := ite_f hsh h8
 refine wp_skip ?_
 refine blk_normal ?_
 refine then_normal ?_
 refine sr ?_
 refine av hs rfl rfl fun a hs => ?_
 refine nl ?_
 have hsh := oi hsh
 subst hsh
 refine wp_ret ?_
 exact ret1 hs rfl (rv_tmp rfl) (hw.ret rfl)
end Go.Proofs.YtmlekplbmfengaaGreat.Wk

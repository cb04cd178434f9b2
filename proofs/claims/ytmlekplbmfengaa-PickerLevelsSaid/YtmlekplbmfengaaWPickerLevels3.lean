/- The walks of PickerLevels, part 3: each Go function computes what its plain program computes. Printed by a program of ours. -/
import Derived.Test.YtmlekplbmfengaaProg
import Derived.Test.YtmlekplbmfengaaDat
import Derived.Test.YtmlekplbmfengaaSh
import Derived.Test.YtmlekplbmfengaaLibL
import Derived.Test.YtmlekplbmfengaaLibZ
import Derived.Test.YtmlekplbmfengaaLibQ
import Derived.KernelRfl
import Derived.Test.YtmlekplbmfengaaWPickerLevels2
namespace Go.Proofs.Ytmlekplbmfengaa.Wk
open Go Go.RowKit Go.Proofs Go.Proofs.Ytmlekplbmfengaa.Sh
set_option linter.unusedVariables false
set_option linter.unusedSimpArgs false

abbrev made_Dice_Segment_rd (w0 : World) (X : List Nat) (b2 : Nat) (r : (Segment × Dice)) : (Nat → Prop) → World → Value → Prop := fun S w v => ∃ (p0_5 : Option Addr) (k0_5 : Nat) (c0_5 : List Value) (pq0_0 : Option Addr) (kq0_0 : Nat), v = .agg #[.int .i64 r.1.Start, .int .i64 r.1.First, .int .i64 r.1.Rate.Num, .int .i64 r.1.Rate.Den, .int .i64 r.1.Error, .slice p0_5 r.1.Samples.length k0_5] ∧ Outs X w0 S w [.row p0_5 r.1.Samples.length k0_5 c0_5 3 1, .box b2 [.slice pq0_0 r.2.L.length kq0_0, .int .i64 r.2.At] 69] ∧ (RowA c0_5 r.1.Samples).p S w ∧ (SlA pq0_0 r.2.L.length kq0_0 r.2.L).p S w
set_option maxHeartbeats 4000000 in
set_option maxRecDepth 100000 in
theorem made_Dice_Segment_ok {w0 : World} {S0 : Nat → Prop} {b2 : Nat} {p3 : Option Addr} {k4 : Nat} {d1 : Dice} {n6 : Int} {r : (Segment × Dice)} (hsh : made_Dice_Segment d1 n6 = some r) (hS : ∀ b, S0 b → b < w0.heap.size) (hin : Ins S0 w0 [.box b2 [.slice p3 d1.L.length k4, .int .i64 d1.At] 69]) (h5 : (SlA p3 d1.L.length k4 d1.L).p S0 w0) : Calls Try.prog 12 #[.pointer (some ⟨b2, 0, none⟩), .int .i64 n6] w0 (Ret (blks [.box b2 [.slice p3 d1.L.length k4, .int .i64 d1.At] 69]) w0 S0 (made_Dice_Segment_rd w0 (blks [.box b2 [.slice p3 d1.L.length k4, .int .i64 d1.At] 69]) b2 r)) := by
 refine calls_of_wp Try.func12 rfl ?_
 have hs := Sl.enter #[.pointer (some ⟨b2, 0, none⟩), .int .i64 n6] 22 [(0, .pointer (some ⟨b2, 0, none⟩)), (1, .int .i64 n6)] rfl ⟨rfl, rfl, trivial⟩
 have hw := Wd.enterI hS hin
 have hw := hw.addE h5
 delta made_Dice_Segment at hsh
 refine sr ?_
 refine w_alloc (cs := [.int .i64 0, .int .i64 0, .int .i64 0, .int .i64 0, .int .i64 0, .slice none ([] : List Int).length 0]) hs hw Try.zeroValue38 rfl rfl trivial ?_
 intro b7 a w hs hw
 refine nl ?_
 refine sr ?_
 refine mv hs rfl rfl fun a hs => ?_
 obtain ⟨rv9, h8, hsh⟩ := bind_t hsh
 refine st_callR hs (made_Dice_Next_ok h8 hw.dom (hw.ins [1] (by decide) rfl) (hw.envAt 0 rfl)) (do_call Try.call13 rfl) trivial rfl rfl ?_
 intro v16 Sv13 w a h14 h15 hs
 obtain ⟨p10, k11, rfl, h17, h12⟩ := h15
 have hw := hw.callO [1] [0] (by decide) rfl h14 h17
 have hw := hw.addE (e := SlA p10 rv9.2.L.length k11 rv9.2.L) h12
 refine sv hs (y_add rfl rfl) rfl fun a hs => ?_
 refine mv hs rfl rfl fun a hs => ?_
 refine w_litSlice (α := Int) (vs := [.int .i64 0, .int .i64 0, .int .i64 5]) (cs := [.int .i64 0, .int .i64 0, .int .i64 5]) (xs := ([0, 0, 5] : List Int)) hs hw El22 rfl rfl rfl rfl rfl rfl ⟨⟨_, rfl, rfl⟩, ⟨⟨_, rfl, rfl⟩, ⟨⟨_, rfl, rfl⟩, rfl⟩⟩⟩ rfl trivial rfl fun b19 a w hs hw => ?_
 obtain ⟨rv21, h20, hsh⟩ := bind_t hsh
 obtain ⟨Sv25, hw⟩ := w_share (α := Int) hw 0 rfl 0 rfl
 refine st_callR hs (made_Dice_Pick_ok h20 hw.dom (hw.ins [0] (by decide) rfl) (hw.envAt 2 rfl) (hw.envAt 0 rfl)) (do_call Try.call27 rfl) trivial rfl rfl ?_
 intro v29 Sv26 w a h27 h28 hs
 obtain ⟨p22, k23, rfl, h30, h24⟩ := h28
 have hw := hw.callO [0] [1] (by decide) rfl h27 h30
 have hw := hw.addE (e := SlA p22 rv21.2.L.length k23 rv21.2.L) h24
 refine mv hs rfl rfl fun a hs => ?_
 refine w_litSlice (α := Int) (vs := [.int .i64 1, .int .i64 4, .int .i64 20, .int .i64 3]) (cs := [.int .i64 1, .int .i64 4, .int .i64 20, .int .i64 3]) (xs := ([1, 4, 20, 3] : List Int)) hs hw El22 rfl rfl rfl rfl rfl rfl ⟨⟨_, rfl, rfl⟩, ⟨⟨_, rfl, rfl⟩, ⟨⟨_, rfl, rfl⟩, ⟨⟨_, rfl, rfl⟩, rfl⟩⟩⟩⟩ rfl trivial rfl fun b32 a w hs hw => ?_
 obtain ⟨rv34, h33, hsh⟩ := bind_t hsh
 obtain ⟨Sv38, hw⟩ := w_share (α := Int) hw 0 rfl 0 rfl
 refine st_callR hs (made_Dice_Pick_ok h33 hw.dom (hw.ins [0] (by decide) rfl) (hw.envAt 2 rfl) (hw.envAt 0 rfl)) (do_call Try.call27 rfl) trivial rfl rfl ?_
 intro v42 Sv39 w a h40 h41 hs
 obtain ⟨p35, k36, rfl, h43, h37⟩ := h41
 have hw := hw.callO [0] [1] (by decide) rfl h40 h43
 have hw := hw.addE (e := SlA p35 rv34.2.L.length k36 rv34.2.L) h37
 refine sv hs (y_build (vs := [(0, .int .i64 rv34.1), (1, .int .i64 1)]) Bld36 rfl rfl) rfl fun a hs => ?_
 refine mv hs rfl rfl fun a hs => ?_
 refine w_litSlice (α := Int) (vs := [.int .i64 0, .int .i64 10, .int .i64 2000000]) (cs := [.int .i64 0, .int .i64 10, .int .i64 2000000]) (xs := ([0, 10, 2000000] : List Int)) hs hw El22 rfl rfl rfl rfl rfl rfl ⟨⟨_, rfl, rfl⟩, ⟨⟨_, rfl, rfl⟩, ⟨⟨_, rfl, rfl⟩, rfl⟩⟩⟩ rfl trivial rfl fun b45 a w hs hw => ?_
 obtain ⟨rv47, h46, hsh⟩ := bind_t hsh
 obtain ⟨Sv51, hw⟩ := w_share (α := Int) hw 0 rfl 0 rfl
 refine st_callR hs (made_Dice_Pick_ok h46 hw.dom (hw.ins [0] (by decide) rfl) (hw.envAt 2 rfl) (hw.envAt 0 rfl)) (do_call Try.call27 rfl) trivial rfl rfl ?_
 intro v55 Sv52 w a h53 h54 hs
 obtain ⟨p48, k49, rfl, h56, h50⟩ := h54
 have hw := hw.callO [0] [1] (by decide) rfl h53 h56
 have hw := hw.addE (e := SlA p48 rv47.2.L.length k49 rv47.2.L) h50
 refine mv hs rfl rfl fun a hs => ?_
 refine mv hs rfl rfl fun a hs => ?_
 obtain ⟨rv58, h57, hsh⟩ := bind_t hsh
 refine st_callR hs (made_Dice_Wave_ok h57 hw.dom (hw.ins [0] (by decide) rfl) (hw.envAt 0 rfl)) (do_call Try.call16 rfl) trivial rfl rfl ?_
 intro v69 Sv66 w a h67 h68 hs
 obtain ⟨p59, k60, c62, p63, k64, rfl, h70, h61, h65⟩ := h68
 have hw := hw.callO [0] [1] (by decide) rfl h67 h70
 have hw := hw.addE (e := RowA c62 rv58.1) h61
 have hw := hw.addE (e := SlA p63 rv58.2.L.length k64 rv58.2.L) h65
 refine sv hs (y_build (vs := [(0, .int .i64 (w64 (1000000000000 + rv9.1))), (1, .int .i64 rv21.1), (2, .agg #[.int .i64 rv34.1, .int .i64 1]), (3, .int .i64 rv47.1), (4, .slice p59 rv58.1.length k60)]) Bld38 rfl rfl) rfl fun a hs => ?_
 refine w_store (m := 6) (cs' := [.int .i64 (w64 (1000000000000 + rv9.1)), .int .i64 rv21.1, .int .i64 rv34.1, .int .i64 1, .int .i64 rv47.1, .slice p59 rv58.1.length k60]) hs hw 2 rfl rfl rfl Try.sizeOf38 rfl rfl rfl rfl trivial ?_
 intro a w hs hw
 refine nl ?_
 have hsh := oi hsh
 subst hsh
 refine wp_ret ?_
 exact ret1 hs rfl (rv_cell hw 2 rfl rfl Try.isAgg38 Try.sizeOf38 rfl) (hw.ret ⟨p59, k60, c62, p63, k64, rfl, (hw.outs [0, 1] (by decide) rfl), (hw.envAt 1 rfl), (hw.envAt 0 rfl)⟩)

abbrev ref23_Same_rd (w0 : World) (X : List Nat) (r : Bool) : (Nat → Prop) → World → Value → Prop := fun S w v => v = .bool r
set_option maxHeartbeats 4000000 in
set_option maxRecDepth 100000 in
theorem ref23_Same_ok {w0 : World} {S0 : Nat → Prop} {p2 : Option Addr} {k3 : Nat} {p6 : Option Addr} {k7 : Nat} {a1 : (List Pick)} {b5 : (List Pick)} {r : Bool} (hsh : ref23_Same a1 b5 = some r) (hS : ∀ b, S0 b → b < w0.heap.size) (h4 : (SlA p2 a1.length k3 a1).p S0 w0) (h8 : (SlA p6 b5.length k7 b5).p S0 w0) : Calls Try.prog 15 #[.slice p2 a1.length k3, .slice p6 b5.length k7] w0 (Ret ([]) w0 S0 (ref23_Same_rd w0 ([]) r)) := by
 refine calls_of_wp Try.func15 rfl ?_
 have hs := Sl.enter #[.slice p2 a1.length k3, .slice p6 b5.length k7] 26 [(0, .slice p2 a1.length k3), (1, .slice p6 b5.length k7)] rfl ⟨rfl, rfl, trivial⟩
 have hw := Wd.enter (E := []) hS (fun _ h => (by cases h))
 have hw := hw.addE h4
 have hw := hw.addE h8
 delta ref23_Same at hsh
 refine sr ?_
 refine av hs rfl rfl fun a hs => ?_
 refine nl ?_
 refine wp_seq ?_
 refine sr ?_
 refine mv hs rfl rfl fun a hs => ?_
 refine sv hs (y_len Try.runUnderlying41 rfl) rfl fun a hs => ?_
 refine mv hs rfl rfl fun a hs => ?_
 refine sv hs (y_len Try.runUnderlying41 rfl) rfl fun a hs => ?_
 refine sv hs (y_neq rfl rfl) rfl fun a hs => ?_
 refine nl ?_
 refine wp_cond_split (hs.ev rfl) (fun h10 => ?_) (fun h10 => ?_)
 ·have hsh := ite_t hsh h10
  refine sr ?_
  refine av hs rfl rfl fun a hs => ?_
  refine nl ?_
  have hsh := oi hsh
  subst hsh
  refine wp_ret ?_
  refine then_ret ?_
  exact ret1 hs rfl (rv_tmp rfl) (hw.ret rfl)
 have hsh := ite_f hsh h10
 refine wp_skip ?_
 refine then_normal ?_
 refine wp_seq ?_
 refine sr ?_
 refine av hs rfl rfl fun a hs => ?_
 refine nl ?_
 refine wp_block ?_
 refine wp_while (fun sv109 a w => ∃ (Sv173 : Nat → Prop), Sl 26 [(0, .slice p2 a1.length k3), (1, .slice p6 b5.length k7), (5, .int .i64 sv109)] a ∧ Wd ⟨w0, S0, []⟩ Sv173 [] [SlA p2 a1.length k3 a1, SlA p6 b5.length k7 b5] w) 0 hsh ⟨S0, (hs.wk rfl), (hw.ft [] [1, 0] (by decide) rfl rfl)⟩ ?_
 repeat clear hsh
 rintro sv109 a w tv206 ⟨Sv173, hs, hw⟩ hsh hd205
 delta ref23_Same_l2 at hsh
 refine wp_seq ?_
 refine sr ?_
 refine mv hs rfl rfl fun a hs => ?_
 refine mv hs rfl rfl fun a hs => ?_
 refine sv hs (y_len Try.runUnderlying41 rfl) rfl fun a hs => ?_
 refine sv hs (y_lss rfl rfl) rfl fun a hs => ?_
 refine nl ?_
 refine wp_cond_split (hs.ev rfl) (fun h210 => ?_) (fun h210 => ?_)
 ·have hsh := ite_t hsh h210
  refine wp_skip ?_
  refine then_normal ?_
  refine wp_seq ?_
  refine wp_block ?_
  refine wp_seq ?_
  obtain ⟨x241, h239, hsh⟩ := bind_t hsh
  obtain ⟨b247, o248, q245, c246, h249, h242, h243, h244, h240⟩ := hw.elemV 0 rfl h239
  have hsv250 := hs
  have hwv251 := hw
  subst h249
  have hs := hsv250
  have hw := hwv251
  obtain ⟨_, _, _, _, _, _, _, _, _, rfl, rfl, rfl, rfl, rfl, rfl, rfl, rfl, rfl, rfl⟩ := h240
  have hw := hw.addE h244
  obtain ⟨x254, h252, hsh⟩ := bind_t hsh
  obtain ⟨b260, o261, q258, c259, h262, h255, h256, h257, h253⟩ := hw.elemV 2 rfl h252
  have hsv263 := hs
  have hwv264 := hw
  subst h262
  have hs := hsv263
  have hw := hwv264
  obtain ⟨_, _, _, _, _, _, _, _, _, rfl, rfl, rfl, rfl, rfl, rfl, rfl, rfl, rfl, rfl⟩ := h253
  have hw := hw.addE h257
  refine wp_only (fun a w => ∃ (Sv265 : Nat → Prop), Sl 26 [(0, .slice (some ⟨b247, o248, none⟩) a1.length k3), (1, .slice (some ⟨b260, o261, none⟩) b5.length k7), (5, .int .i64 sv109), (25, .bool (!(((x241.Source.Network == x254.Source.Network) && ((x241.Source.Station == x254.Source.Station) && ((x241.Source.Location == x254.Source.Location) && ((x241.Source.Channel == x254.Source.Channel) && true)))) && ((x241.Time == x254.Time) && ((x241.Early == x254.Early) && ((x241.Late == x254.Late) && ((x241.Amplitude == x254.Amplitude) && ((x241.Polarity == x254.Polarity) && true))))))))] a ∧ Wd ⟨w0, S0, []⟩ Sv265 [] [SlA (some ⟨b247, o248, none⟩) a1.length k3 a1, SlA (some ⟨b260, o261, none⟩) b5.length k7 b5] w) ?_ ?_
  ·refine h_b (C := Cls [] [CeA b260 q258 [.string x254.Source.Network, .string x254.Source.Station, .string x254.Source.Location, .string x254.Source.Channel, .int .i64 x254.Time, .int .i64 x254.Early, .int .i64 x254.Late, .int .i64 x254.Amplitude, .int .i64 x254.Polarity], CeA b247 q245 [.string x241.Source.Network, .string x241.Source.Station, .string x241.Source.Location, .string x241.Source.Channel, .int .i64 x241.Time, .int .i64 x241.Early, .int .i64 x241.Late, .int .i64 x241.Amplitude, .int .i64 x241.Polarity]]) (by kernel_rfl) rfl (hw.drew.cs [] [0, 1] rfl rfl) fun hC => ?_
   have hw := hw.drew
   refine gm hs 0 rfl rfl rfl hC fun a hs => ?_
   refine gm hs 1 rfl rfl rfl hC fun a hs => ?_
   refine gv hs 2 rfl rfl hC (fun w hC => y_indexAt Try.runUnderlying41 Try.sizeOf46 rfl rfl h242.1 h242.2 h243) fun a hs => ?_
   refine gv hs 3 rfl rfl hC (fun w hC => y_loadEA (j := 0) (hC.ceAt 1 rfl) rfl Try.isAgg46 Try.sizeOf46 rfl rfl) fun a hs => ?_
   refine gm hs 4 rfl rfl rfl hC fun a hs => ?_
   refine gm hs 5 rfl rfl rfl hC fun a hs => ?_
   refine gv hs 6 rfl rfl hC (fun w hC => y_indexAt Try.runUnderlying41 Try.sizeOf46 rfl rfl h255.1 h255.2 h256) fun a hs => ?_
   refine gv hs 7 rfl rfl hC (fun w hC => y_loadEA (j := 0) (hC.ceAt 0 rfl) rfl Try.isAgg46 Try.sizeOf46 rfl rfl) fun a hs => ?_
   refine gv hs 8 rfl rfl hC (fun w hC => y_neqA (by kernel_rfl) rfl rfl (eqv_struct Try.runUnderlying46 (by kernel_rfl) (EqF.consA rfl Try.isAgg33 Try.sizeOf33 rfl rfl (eqv_struct Try.runUnderlying33 (by kernel_rfl) (EqF.cons1 rfl Try.isAgg9 rfl rfl (eqv_str Try.runUnderlying9) (EqF.cons1 rfl Try.isAgg9 rfl rfl (eqv_str Try.runUnderlying9) (EqF.cons1 rfl Try.isAgg9 rfl rfl (eqv_str Try.runUnderlying9) (EqF.cons1 rfl Try.isAgg9 rfl rfl (eqv_str Try.runUnderlying9) EqF.nil))))) (EqF.cons1 rfl Try.isAgg3 rfl rfl (eqv_int Try.runUnderlying3) (EqF.cons1 rfl Try.isAgg3 rfl rfl (eqv_int Try.runUnderlying3) (EqF.cons1 rfl Try.isAgg3 rfl rfl (eqv_int Try.runUnderlying3) (EqF.cons1 rfl Try.isAgg3 rfl rfl (eqv_int Try.runUnderlying3) (EqF.cons1 rfl Try.isAgg3 rfl rfl (eqv_int Try.runUnderlying3) EqF.nil)))))))) fun a hs => ?_
   refine h_done (by kernel_rfl) ?_
   exact ⟨Sv173, (hs.wk rfl), (hw.ft [] [2, 3] (by decide) rfl rfl)⟩
  rintro a w ⟨Sv265, hs, hw⟩
  refine then_normal ?_
  refine wp_cond_split (hs.ev rfl) (fun h267 => ?_) (fun h267 => ?_)
  ·have hsh := ite_t hsh h267
   refine sr ?_
   refine av hs rfl rfl fun a hs => ?_
   refine nl ?_
   have hsh := oi hsh
   subst hsh
   have h268 := hd205 _ rfl
   subst h268
   refine wp_ret ?_
   refine blk_ret ?_
   refine then_ret ?_
   refine then_ret ?_
   refine blk_ret ?_
   refine then_ret ?_
   exact ret1 hs rfl (rv_tmp rfl) (hw.ret rfl)
  have hsh := ite_f hsh h267
  refine wp_skip ?_
  refine blk_normal ?_
  refine then_normal ?_
  refine wp_region_lit ?_
  refine mv hs rfl rfl fun a hs => ?_
  refine sv hs (y_add rfl rfl) rfl fun a hs => ?_
  obtain ⟨i270, h269, hsh⟩ := bind_t hsh
  refine sv hs (y_assignI rfl h269) rfl fun a hs => ?_
  refine nl ?_
  exact ⟨_, (Option.some.inj hsh).symm, Sv265, (hs.wk rfl), (hw.ft [] [0, 1] (by decide) rfl rfl)⟩
 have hsh := ite_f hsh h210
 obtain ⟨rv271, hsh, h272⟩ := map_t hsh
 have h272 := (hd205 _ h272.symm).symm
 subst h272
 refine wp_exit ?_
 refine then_exit ?_
 refine then_exit ?_
 refine blk_exit ?_
 refine then_normal ?_
 refine sr ?_
 refine av hs rfl rfl fun a hs => ?_
 refine nl ?_
 have hsh := oi hsh
 subst hsh
 refine wp_ret ?_
 exact ret1 hs rfl (rv_tmp rfl) (hw.ret rfl)

abbrev law23_PickerLevels_rd (w0 : World) (X : List Nat) (r : Bool) : (Nat → Prop) → World → Value → Prop := fun S w v => v = .bool r
abbrev D3t1 (b32 : Nat) (b75 : Nat) (b76 : Nat) (b77 : Nat) (by5 : Int) (n6 : Int) : Slots := [(1, .int .u8 by5), (2, .int .u8 n6), (7, .pointer (some ⟨b32, 0, none⟩)), (8, .pointer (some ⟨b75, 0, none⟩)), (9, .pointer (some ⟨b76, 0, none⟩)), (10, .pointer (some ⟨b77, 0, none⟩))]
abbrev D3t2 (b78 : Nat) (b79 : Nat) (b80 : Nat) (b81 : Nat) (k64 : Nat) (p63 : Option Addr) (rv42 : (Picking × Dice)) (rv62 : (Segment × Dice)) : Vs := [(0, 45, .agg #[.int .i64 rv42.1.Detector.Short, .int .i64 rv42.1.Detector.Long, .int .i64 rv42.1.Detector.On, .int .i64 rv42.1.Detector.Off, .int .i64 rv42.1.Back, .int .i64 rv42.1.Level, .int .i64 0]), (1, 46, .agg #[.int .i64 rv42.1.Detector.Short, .int .i64 rv42.1.Detector.Long, .int .i64 rv42.1.Detector.On, .int .i64 rv42.1.Detector.Off, .int .i64 rv42.1.Back, .int .i64 rv42.1.Level, .int .i64 0]), (2, 47, .agg #[.int .i64 rv42.1.Detector.Short, .int .i64 rv42.1.Detector.Long, .int .i64 rv42.1.Detector.On, .int .i64 rv42.1.Detector.Off, .int .i64 rv42.1.Back, .int .i64 rv42.1.Level, .int .i64 0]), (3, 48, .agg #[.int .i64 rv62.1.Start, .int .i64 rv62.1.First, .int .i64 rv62.1.Rate.Num, .int .i64 rv62.1.Rate.Den, .int .i64 rv62.1.Error, .slice p63 rv62.1.Samples.length k64]), (4, 11, .pointer (some ⟨b78, 0, none⟩)), (5, 12, .pointer (some ⟨b79, 0, none⟩)), (6, 13, .pointer (some ⟨b80, 0, none⟩)), (7, 14, .pointer (some ⟨b81, 0, none⟩))]
set_option maxHeartbeats 4000000 in
set_option maxRecDepth 100000 in
theorem law23_PickerLevels_ok {w0 : World} {S0 : Nat → Prop} {p2 : Option Addr} {k3 : Nat} {t1 : (List Int)} {by5 : Int} {n6 : Int} {r : Bool} (hsh : law23_PickerLevels t1 by5 n6 = some r) (hS : ∀ b, S0 b → b < w0.heap.size) (h4 : (SlA p2 t1.length k3 t1).p S0 w0) : Calls Try.prog 3 #[.slice p2 t1.length k3, .int .u8 by5, .int .u8 n6] w0 (Ret ([]) w0 S0 (law23_PickerLevels_rd w0 ([]) r)) := by
 refine calls_of_wp Try.func3 rfl ?_
 have hs := Sl.enter #[.slice p2 t1.length k3, .int .u8 by5, .int .u8 n6] 226 [(0, .slice p2 t1.length k3), (1, .int .u8 by5), (2, .int .u8 n6)] rfl ⟨rfl, rfl, rfl, trivial⟩
 have hw := Wd.enter (E := []) hS (fun _ h => (by cases h))
 have hw := hw.addE h4
 delta law23_PickerLevels at hsh
 refine sr ?_
 refine av hs rfl rfl fun a hs => ?_
 refine nl ?_
 refine wp_seq ?_
 refine sr ?_
 refine mv hs rfl rfl fun a hs => ?_
 obtain ⟨rv8, h7, hsh⟩ := bind_t hsh
 refine st_callR hs (made_Light_ok h7 hw.bdom (hw.bE 0 rfl)) (do_call Try.call7 rfl) trivial rfl rfl ?_
 intro v12 Sv9 w a h10 h11 hs
 subst h11
 have hw := hw.callB h10
 refine sv hs (y_not rfl) rfl fun a hs => ?_
 refine nl ?_
 refine wp_cond_split (hs.ev rfl) (fun h22 => ?_) (fun h22 => ?_)
 ·have hsh := ite_t hsh h22
  refine sr ?_
  obtain ⟨rv24, h23, hsh⟩ := bind_t hsh
  refine st_callR hs (law23_sane_ok h23 hw.bdom) (do_call Try.call8 rfl) trivial rfl rfl ?_
  intro v28 Sv25 w a h26 h27 hs
  subst h27
  have hw := hw.callB h26
  refine av hs rfl rfl fun a hs => ?_
  refine nl ?_
  have hsh := oi hsh
  subst hsh
  refine wp_ret ?_
  refine then_ret ?_
  exact ret1 hs rfl (rv_tmp rfl) (hw.ret rfl)
 have hsh := ite_f hsh h22
 refine wp_skip ?_
 refine then_normal ?_
 refine sr ?_
 refine mv hs rfl rfl fun a hs => ?_
 obtain ⟨rv31, h30, hsh⟩ := bind_t hsh
 refine st_callR hs (made_Roll_ok h30 hw.dom (hw.envAt 0 rfl)) (do_call Try.call9 rfl) trivial rfl rfl ?_
 intro v39 Sv36 w a h37 h38 hs
 obtain ⟨b32, p33, k34, rfl, h40, h35⟩ := h38
 have hw := hw.callN h37 h40
 have hw := hw.addE (e := SlA p33 rv31.L.length k34 rv31.L) h35
 refine av hs rfl rfl fun a hs => ?_
 refine nl ?_
 refine sr ?_
 refine mv hs rfl rfl fun a hs => ?_
 obtain ⟨rv42, h41, hsh⟩ := bind_t hsh
 refine st_callR hs (made_Dice_Picking_ok h41 hw.dom (hw.ins [0] (by decide) rfl) (hw.envAt 0 rfl)) (do_call Try.call10 rfl) trivial rfl rfl ?_
 intro v49 Sv46 w a h47 h48 hs
 obtain ⟨p43, k44, rfl, h50, h45⟩ := h48
 have hw := hw.callO [0] [] (by decide) rfl h47 h50
 have hw := hw.addE (e := SlA p43 rv42.2.L.length k44 rv42.2.L) h45
 refine mv hs rfl rfl fun a hs => ?_
 obtain ⟨rv52, h51, hsh⟩ := bind_t hsh
 refine st_callR hs (made_Dice_Source_ok h51 hw.dom (hw.ins [0] (by decide) rfl) (hw.envAt 0 rfl)) (do_call Try.call11 rfl) trivial rfl rfl ?_
 intro v59 Sv56 w a h57 h58 hs
 obtain ⟨p53, k54, rfl, h60, h55⟩ := h58
 have hw := hw.callO [0] [] (by decide) rfl h57 h60
 have hw := hw.addE (e := SlA p53 rv52.2.L.length k54 rv52.2.L) h55
 refine mv hs rfl rfl fun a hs => ?_
 obtain ⟨rv62, h61, hsh⟩ := bind_t hsh
 refine st_callR hs (made_Dice_Segment_ok h61 hw.dom (hw.ins [0] (by decide) rfl) (hw.envAt 0 rfl)) (do_call Try.call12 rfl) trivial rfl rfl ?_
 intro v73 Sv70 w a h71 h72 hs
 obtain ⟨p63, k64, c66, p67, k68, rfl, h74, h65, h69⟩ := h72
 have hw := hw.callO [0] [] (by decide) rfl h71 h74
 have hw := hw.addE (e := RowA c66 rv62.1.Samples) h65
 have hw := hw.addE (e := SlA p67 rv62.2.L.length k68 rv62.2.L) h69
 refine w_alloc (cs := [.int .i64 0, .int .i64 0, .int .i64 0, .int .i64 0, .int .i64 0, .int .i64 0, .int .i64 0]) hs hw Try.zeroValue30 rfl rfl trivial ?_
 intro b75 a w hs hw
 refine w_alloc (cs := [.string ByteArray.empty, .string ByteArray.empty, .string ByteArray.empty, .string ByteArray.empty]) hs hw Try.zeroValue33 rfl rfl trivial ?_
 intro b76 a w hs hw
 refine w_alloc (cs := [.int .i64 0, .int .i64 0, .int .i64 0, .int .i64 0, .int .i64 0, .slice none ([] : List Int).length 0]) hs hw Try.zeroValue38 rfl rfl trivial ?_
 intro b77 a w hs hw
 refine w_store (m := 7) (cs' := [.int .i64 rv42.1.Detector.Short, .int .i64 rv42.1.Detector.Long, .int .i64 rv42.1.Detector.On, .int .i64 rv42.1.Detector.Off, .int .i64 rv42.1.Back, .int .i64 rv42.1.Level, .int .i64 rv42.1.Floor]) hs hw 2 rfl rfl rfl Try.sizeOf30 rfl rfl rfl rfl trivial ?_
 intro a w hs hw
 refine w_store (m := 4) (cs' := [.string rv52.1.Network, .string rv52.1.Station, .string rv52.1.Location, .string rv52.1.Channel]) hs hw 1 rfl rfl rfl Try.sizeOf33 rfl rfl rfl rfl trivial ?_
 intro a w hs hw
 refine w_store (m := 6) (cs' := [.int .i64 rv62.1.Start, .int .i64 rv62.1.First, .int .i64 rv62.1.Rate.Num, .int .i64 rv62.1.Rate.Den, .int .i64 rv62.1.Error, .slice p63 rv62.1.Samples.length k64]) hs hw 0 rfl rfl rfl Try.sizeOf38 rfl rfl rfl rfl trivial ?_
 intro a w hs hw
 refine nl ?_
 refine sr ?_
 refine sv hs (y_fieldAddr (o' := 6) Try.runUnderlying30 rfl Try.sizeOf3 rfl rfl rfl) rfl fun a hs => ?_
 refine w_store (m := 1) (cs' := [.int .i64 rv42.1.Detector.Short, .int .i64 rv42.1.Detector.Long, .int .i64 rv42.1.Detector.On, .int .i64 rv42.1.Detector.Off, .int .i64 rv42.1.Back, .int .i64 rv42.1.Level, .int .i64 0]) hs hw 2 rfl rfl rfl Try.sizeOf3 rfl rfl rfl rfl trivial ?_
 intro a w hs hw
 refine nl ?_
 refine wp_seq ?_
 refine wp_only (fun a w => ∃ (Sv82 : Nat → Prop) (b78 : Nat) (b79 : Nat) (b80 : Nat) (b81 : Nat), Sl 226 [(1, .int .u8 by5), (2, .int .u8 n6), (7, .pointer (some ⟨b32, 0, none⟩)), (8, .pointer (some ⟨b75, 0, none⟩)), (9, .pointer (some ⟨b76, 0, none⟩)), (10, .pointer (some ⟨b77, 0, none⟩)), (11, .pointer (some ⟨b78, 0, none⟩)), (12, .pointer (some ⟨b79, 0, none⟩)), (13, .pointer (some ⟨b80, 0, none⟩)), (14, .pointer (some ⟨b81, 0, none⟩))] a ∧ Wd ⟨w0, S0, []⟩ Sv82 [.box b32 [.slice p67 rv62.2.L.length k68, .int .i64 rv62.2.At] 69, .box b75 [.int .i64 rv42.1.Detector.Short, .int .i64 rv42.1.Detector.Long, .int .i64 rv42.1.Detector.On, .int .i64 rv42.1.Detector.Off, .int .i64 rv42.1.Back, .int .i64 rv42.1.Level, .int .i64 0] 30, .box b76 [.string rv52.1.Network, .string rv52.1.Station, .string rv52.1.Location, .string rv52.1.Channel] 33, .box b77 [.int .i64 rv62.1.Start, .int .i64 rv62.1.First, .int .i64 rv62.1.Rate.Num, .int .i64 rv62.1.Rate.Den, .int .i64 rv62.1.Error, .slice p63 rv62.1.Samples.length k64] 38, .box b78 [.int .i64 rv42.1.Detector.Short, .int .i64 rv42.1.Detector.Long, .int .i64 rv42.1.Detector.On, .int .i64 rv42.1.Detector.Off, .int .i64 rv42.1.Back, .int .i64 rv42.1.Level, .int .i64 0] 30, .box b79 [.int .i64 rv42.1.Detector.Short, .int .i64 rv42.1.Detector.Long, .int .i64 rv42.1.Detector.On, .int .i64 rv42.1.Detector.Off, .int .i64 rv42.1.Back, .int .i64 rv42.1.Level, .int .i64 0] 30, .box b80 [.int .i64 rv42.1.Detector.Short, .int .i64 rv42.1.Detector.Long, .int .i64 rv42.1.Detector.On, .int .i64 rv42.1.Detector.Off, .int .i64 rv42.1.Back, .int .i64 rv42.1.Level, .int .i64 0] 30, .box b81 [.int .i64 rv62.1.Start, .int .i64 rv62.1.First, .int .i64 rv62.1.Rate.Num, .int .i64 rv62.1.Rate.Den, .int .i64 rv62.1.Error, .slice p63 rv62.1.Samples.length k64] 38, .row p63 rv62.1.Samples.length k64 c66 3 1] [SlA p67 rv62.2.L.length k68 rv62.2.L, RowA c66 rv62.1.Samples] w) ?_ ?_
 ·refine wp_region_phi (n := 12) (Φ := fun l a w => ∃ (b78 : Nat) (b79 : Nat) (b80 : Nat) (b81 : Nat) (S : Nat → Prop), SlF 226 (D3t1 b32 b75 b76 b77 by5 n6) (D3t2 b78 b79 b80 b81 k64 p63 rv42 rv62) l a ∧ Wd ⟨w0, S0, []⟩ S [.box b77 [.int .i64 rv62.1.Start, .int .i64 rv62.1.First, .int .i64 rv62.1.Rate.Num, .int .i64 rv62.1.Rate.Den, .int .i64 rv62.1.Error, .slice p63 rv62.1.Samples.length k64] 38, .box b76 [.string rv52.1.Network, .string rv52.1.Station, .string rv52.1.Location, .string rv52.1.Channel] 33, .box b75 [.int .i64 rv42.1.Detector.Short, .int .i64 rv42.1.Detector.Long, .int .i64 rv42.1.Detector.On, .int .i64 rv42.1.Detector.Off, .int .i64 rv42.1.Back, .int .i64 rv42.1.Level, .int .i64 0] 30, .row p63 rv62.1.Samples.length k64 c66 3 1, .box b32 [.slice p67 rv62.2.L.length k68, .int .i64 rv62.2.At] 69, ((bif l 8 then .box b78 [.int .i64 rv42.1.Detector.Short, .int .i64 rv42.1.Detector.Long, .int .i64 rv42.1.Detector.On, .int .i64 rv42.1.Detector.Off, .int .i64 rv42.1.Back, .int .i64 rv42.1.Level, .int .i64 0] 30 else (bif l 4 then .box b78 [.int .i64 0, .int .i64 0, .int .i64 0, .int .i64 0, .int .i64 0, .int .i64 0, .int .i64 0] 30 else emp)) : Res), ((bif l 9 then .box b79 [.int .i64 rv42.1.Detector.Short, .int .i64 rv42.1.Detector.Long, .int .i64 rv42.1.Detector.On, .int .i64 rv42.1.Detector.Off, .int .i64 rv42.1.Back, .int .i64 rv42.1.Level, .int .i64 0] 30 else (bif l 5 then .box b79 [.int .i64 0, .int .i64 0, .int .i64 0, .int .i64 0, .int .i64 0, .int .i64 0, .int .i64 0] 30 else emp)) : Res), ((bif l 10 then .box b80 [.int .i64 rv42.1.Detector.Short, .int .i64 rv42.1.Detector.Long, .int .i64 rv42.1.Detector.On, .int .i64 rv42.1.Detector.Off, .int .i64 rv42.1.Back, .int .i64 rv42.1.Level, .int .i64 0] 30 else (bif l 6 then .box b80 [.int .i64 0, .int .i64 0, .int .i64 0, .int .i64 0, .int .i64 0, .int .i64 0, .int .i64 0] 30 else emp)) : Res), ((bif l 11 then .box b81 [.int .i64 rv62.1.Start, .int .i64 rv62.1.First, .int .i64 rv62.1.Rate.Num, .int .i64 rv62.1.Rate.Den, .int .i64 rv62.1.Error, .slice p63 rv62.1.Samples.length k64] 38 else (bif l 7 then .box b81 [.int .i64 0, .int .i64 0, .int .i64 0, .int .i64 0, .int .i64 0, .slice none ([] : List Int).length 0] 38 else emp)) : Res)] [SlA p67 rv62.2.L.length k68 rv62.2.L, RowA c66 rv62.1.Samples, SlA p53 rv52.2.L.length k54 rv52.2.L, SlA p43 rv42.2.L.length k44 rv42.2.L, SlA p33 rv31.L.length k34 rv31.L, SlA p2 t1.length k3 t1] w) [1, 1, 1, 1, 1, 1, 1, 1, 2, 3, 4, 5] (by kernel_rfl) rfl (by kernel_rfl) ?_ (AllS.succ (AllS.succ (AllS.succ (AllS.succ (AllS.succ (AllS.succ (AllS.succ (AllS.succ (AllS.succ (AllS.succ (AllS.succ (AllS.succ AllS.zero ?_) ?_) ?_) ?_) ?_) ?_) ?_) ?_) ?_) ?_) ?_) ?_) ?_
  ·obtain ⟨b78, b79, b80, b81, _⟩ : ∃ (b78 : Nat) (b79 : Nat) (b80 : Nat) (b81 : Nat), True := ⟨0, 0, 0, 0, trivial⟩
   have hw := hw.drew
   have hw := hw.emp
   have hw := hw.emp
   have hw := hw.emp
   have hw := hw.emp
   exact ⟨b78, b79, b80, b81, Sv70, SlF.init (hs.wk rfl) (by kernel_rfl), hw.ft [4, 5, 6, 7, 8, 0, 1, 2, 3] [0, 1, 2, 3, 4, 5] (by decide) rfl rfl⟩
  ·intro l hi hp hc a w ⟨b78, b79, b80, b81, S, hS, hw⟩
   refine S_val hS (.b (t := 8) rfl .nil) rfl rfl trivial (y_loadBA (hw.ownAt 2 rfl) rfl Try.isAgg30 Try.sizeOf30 rfl rfl) (rfl) 0 rfl fun a hS => ⟨b78, b79, b80, b81, S, hS, hw⟩
  ·intro l hi hp hc a w ⟨b78, b79, b80, b81, S, hS, hw⟩
   refine S_val hS (.b (t := 8) rfl .nil) rfl rfl trivial (y_loadBA (hw.ownAt 2 rfl) rfl Try.isAgg30 Try.sizeOf30 rfl rfl) (rfl) 1 rfl fun a hS => ⟨b78, b79, b80, b81, S, hS, hw⟩
  ·intro l hi hp hc a w ⟨b78, b79, b80, b81, S, hS, hw⟩
   refine S_val hS (.b (t := 8) rfl .nil) rfl rfl trivial (y_loadBA (hw.ownAt 2 rfl) rfl Try.isAgg30 Try.sizeOf30 rfl rfl) (rfl) 2 rfl fun a hS => ⟨b78, b79, b80, b81, S, hS, hw⟩
  ·intro l hi hp hc a w ⟨b78, b79, b80, b81, S, hS, hw⟩
   refine S_val hS (.b (t := 10) rfl .nil) rfl rfl trivial (y_loadBA (hw.ownAt 0 rfl) rfl Try.isAgg38 Try.sizeOf38 rfl rfl) (rfl) 3 rfl fun a hS => ⟨b78, b79, b80, b81, S, hS, hw⟩
  ·intro l hi hp hc a w ⟨b78, b79, b80, b81, S, hS, hw⟩
   refine S_eff rfl ?_
   have hs := hS.open_ .nil
   refine w_alloc (cs := [.int .i64 0, .int .i64 0, .int .i64 0, .int .i64 0, .int .i64 0, .int .i64 0, .int .i64 0]) hs hw Try.zeroValue30 rfl rfl trivial ?_
   intro b78 a w hs hw
   have h_8 := l_neg hc 8 hi rfl
   have hw := hw.fixR 0 (r' := (bif l 8 then .box b78 [.int .i64 rv42.1.Detector.Short, .int .i64 rv42.1.Detector.Long, .int .i64 rv42.1.Detector.On, .int .i64 rv42.1.Detector.Off, .int .i64 rv42.1.Back, .int .i64 rv42.1.Level, .int .i64 0] 30 else .box b78 [.int .i64 0, .int .i64 0, .int .i64 0, .int .i64 0, .int .i64 0, .int .i64 0, .int .i64 0] 30)) rfl ((bF h_8)).symm
   refine nl ?_
   exact ⟨b78, b79, b80, b81, S, hS.close .nil hs rfl (.same (.same (.same (.same (.here (.same (.same (.same .nil)))))))) 4 rfl, hw.ft [1, 2, 3, 4, 5, 0, 7, 8, 9] [0, 1, 2, 3, 4, 5] (by decide) rfl rfl⟩
  ·intro l hi hp hc a w ⟨b78, b79, b80, b81, S, hS, hw⟩
   refine S_eff rfl ?_
   have hs := hS.open_ .nil
   refine w_alloc (cs := [.int .i64 0, .int .i64 0, .int .i64 0, .int .i64 0, .int .i64 0, .int .i64 0, .int .i64 0]) hs hw Try.zeroValue30 rfl rfl trivial ?_
   intro b79 a w hs hw
   have h_9 := l_neg hc 9 hi rfl
   have hw := hw.fixR 0 (r' := (bif l 9 then .box b79 [.int .i64 rv42.1.Detector.Short, .int .i64 rv42.1.Detector.Long, .int .i64 rv42.1.Detector.On, .int .i64 rv42.1.Detector.Off, .int .i64 rv42.1.Back, .int .i64 rv42.1.Level, .int .i64 0] 30 else .box b79 [.int .i64 0, .int .i64 0, .int .i64 0, .int .i64 0, .int .i64 0, .int .i64 0, .int .i64 0] 30)) rfl ((bF h_9)).symm
   refine nl ?_
   exact ⟨b78, b79, b80, b81, S, hS.close .nil hs rfl (.same (.same (.same (.same (.same (.here (.same (.same .nil)))))))) 5 rfl, hw.ft [1, 2, 3, 4, 5, 6, 0, 8, 9] [0, 1, 2, 3, 4, 5] (by decide) rfl rfl⟩
  ·intro l hi hp hc a w ⟨b78, b79, b80, b81, S, hS, hw⟩
   refine S_eff rfl ?_
   have hs := hS.open_ .nil
   refine w_alloc (cs := [.int .i64 0, .int .i64 0, .int .i64 0, .int .i64 0, .int .i64 0, .int .i64 0, .int .i64 0]) hs hw Try.zeroValue30 rfl rfl trivial ?_
   intro b80 a w hs hw
   have h_10 := l_neg hc 10 hi rfl
   have hw := hw.fixR 0 (r' := (bif l 10 then .box b80 [.int .i64 rv42.1.Detector.Short, .int .i64 rv42.1.Detector.Long, .int .i64 rv42.1.Detector.On, .int .i64 rv42.1.Detector.Off, .int .i64 rv42.1.Back, .int .i64 rv42.1.Level, .int .i64 0] 30 else .box b80 [.int .i64 0, .int .i64 0, .int .i64 0, .int .i64 0, .int .i64 0, .int .i64 0, .int .i64 0] 30)) rfl ((bF h_10)).symm
   refine nl ?_
   exact ⟨b78, b79, b80, b81, S, hS.close .nil hs rfl (.same (.same (.same (.same (.same (.same (.here (.same .nil)))))))) 6 rfl, hw.ft [1, 2, 3, 4, 5, 6, 7, 0, 9] [0, 1, 2, 3, 4, 5] (by decide) rfl rfl⟩
  ·intro l hi hp hc a w ⟨b78, b79, b80, b81, S, hS, hw⟩
   refine S_eff rfl ?_
   have hs := hS.open_ .nil
   refine w_alloc (cs := [.int .i64 0, .int .i64 0, .int .i64 0, .int .i64 0, .int .i64 0, .slice none ([] : List Int).length 0]) hs hw Try.zeroValue38 rfl rfl trivial ?_
   intro b81 a w hs hw
   have h_11 := l_neg hc 11 hi rfl
   have hw := hw.fixR 0 (r' := (bif l 11 then .box b81 [.int .i64 rv62.1.Start, .int .i64 rv62.1.First, .int .i64 rv62.1.Rate.Num, .int .i64 rv62.1.Rate.Den, .int .i64 rv62.1.Error, .slice p63 rv62.1.Samples.length k64] 38 else .box b81 [.int .i64 0, .int .i64 0, .int .i64 0, .int .i64 0, .int .i64 0, .slice none ([] : List Int).length 0] 38)) rfl ((bF h_11)).symm
   refine nl ?_
   exact ⟨b78, b79, b80, b81, S, hS.close .nil hs rfl (.same (.same (.same (.same (.same (.same (.same (.here .nil)))))))) 7 rfl, hw.ft [1, 2, 3, 4, 5, 6, 7, 8, 0] [0, 1, 2, 3, 4, 5] (by decide) rfl rfl⟩
  ·intro l hi hp hc a w ⟨b78, b79, b80, b81, S, hS, hw⟩
   have h_4 := hp 4 rfl
   have hw := hw.fixR 5 (r' := .box b78 [.int .i64 0, .int .i64 0, .int .i64 0, .int .i64 0, .int .i64 0, .int .i64 0, .int .i64 0] 30) rfl ((bF hi).trans ((bT h_4)))
   have h_0 := hp 0 rfl
   refine S_eff rfl ?_
   have hs := hS.open_ (.v (t := 11) 4 rfl h_4 (.v (t := 45) 0 rfl h_0 .nil))
   refine w_store (m := 7) (cs' := [.int .i64 rv42.1.Detector.Short, .int .i64 rv42.1.Detector.Long, .int .i64 rv42.1.Detector.On, .int .i64 rv42.1.Detector.Off, .int .i64 rv42.1.Back, .int .i64 rv42.1.Level, .int .i64 0]) hs hw 5 rfl rfl rfl Try.sizeOf30 rfl rfl rfl rfl trivial ?_
   intro a w hs hw
   refine nl ?_
   exact ⟨b78, b79, b80, b81, S, hS.close0 (.v (t := 11) 4 rfl h_4 (.v (t := 45) 0 rfl h_0 .nil)) hs rfl, hw.ft [0, 1, 2, 3, 4, 5, 6, 7, 8] [0, 1, 2, 3, 4, 5] (by decide) rfl rfl⟩
  ·intro l hi hp hc a w ⟨b78, b79, b80, b81, S, hS, hw⟩
   have h_5 := hp 5 rfl
   have hw := hw.fixR 6 (r' := .box b79 [.int .i64 0, .int .i64 0, .int .i64 0, .int .i64 0, .int .i64 0, .int .i64 0, .int .i64 0] 30) rfl ((bF hi).trans ((bT h_5)))
   have h_1 := hp 1 rfl
   refine S_eff rfl ?_
   have hs := hS.open_ (.v (t := 12) 5 rfl h_5 (.v (t := 46) 1 rfl h_1 .nil))
   refine w_store (m := 7) (cs' := [.int .i64 rv42.1.Detector.Short, .int .i64 rv42.1.Detector.Long, .int .i64 rv42.1.Detector.On, .int .i64 rv42.1.Detector.Off, .int .i64 rv42.1.Back, .int .i64 rv42.1.Level, .int .i64 0]) hs hw 6 rfl rfl rfl Try.sizeOf30 rfl rfl rfl rfl trivial ?_
   intro a w hs hw
   refine nl ?_
   exact ⟨b78, b79, b80, b81, S, hS.close0 (.v (t := 12) 5 rfl h_5 (.v (t := 46) 1 rfl h_1 .nil)) hs rfl, hw.ft [0, 1, 2, 3, 4, 5, 6, 7, 8] [0, 1, 2, 3, 4, 5] (by decide) rfl rfl⟩
  ·intro l hi hp hc a w ⟨b78, b79, b80, b81, S, hS, hw⟩
   have h_6 := hp 6 rfl
   have hw := hw.fixR 7 (r' := .box b80 [.int .i64 0, .int .i64 0, .int .i64 0, .int .i64 0, .int .i64 0, .int .i64 0, .int .i64 0] 30) rfl ((bF hi).trans ((bT h_6)))
   have h_2 := hp 2 rfl
   refine S_eff rfl ?_
   have hs := hS.open_ (.v (t := 13) 6 rfl h_6 (.v (t := 47) 2 rfl h_2 .nil))
   refine w_store (m := 7) (cs' := [.int .i64 rv42.1.Detector.Short, .int .i64 rv42.1.Detector.Long, .int .i64 rv42.1.Detector.On, .int .i64 rv42.1.Detector.Off, .int .i64 rv42.1.Back, .int .i64 rv42.1.Level, .int .i64 0]) hs hw 7 rfl rfl rfl Try.sizeOf30 rfl rfl rfl rfl trivial ?_
   intro a w hs hw
   refine nl ?_
   exact ⟨b78, b79, b80, b81, S, hS.close0 (.v (t := 13) 6 rfl h_6 (.v (t := 47) 2 rfl h_2 .nil)) hs rfl, hw.ft [0, 1, 2, 3, 4, 5, 6, 7, 8] [0, 1, 2, 3, 4, 5] (by decide) rfl rfl⟩
  ·intro l hi hp hc a w ⟨b78, b79, b80, b81, S, hS, hw⟩
   have h_7 := hp 7 rfl
   have hw := hw.fixR 8 (r' := .box b81 [.int .i64 0, .int .i64 0, .int .i64 0, .int .i64 0, .int .i64 0, .slice none ([] : List Int).length 0] 38) rfl ((bF hi).trans ((bT h_7)))
   have h_3 := hp 3 rfl
   refine S_eff rfl ?_
   have hs := hS.open_ (.v (t := 14) 7 rfl h_7 (.v (t := 48) 3 rfl h_3 .nil))
   refine w_store (m := 6) (cs' := [.int .i64 rv62.1.Start, .int .i64 rv62.1.First, .int .i64 rv62.1.Rate.Num, .int .i64 rv62.1.Rate.Den, .int .i64 rv62.1.Error, .slice p63 rv62.1.Samples.length k64]) hs hw 8 rfl rfl rfl Try.sizeOf38 rfl rfl rfl rfl trivial ?_
   intro a w hs hw
   refine nl ?_
   exact ⟨b78, b79, b80, b81, S, hS.close0 (.v (t := 14) 7 rfl h_7 (.v (t := 48) 3 rfl h_3 .nil)) hs rfl, hw.ft [0, 1, 2, 3, 4, 5, 6, 7, 8] [0, 1, 2, 3, 4, 5] (by decide) rfl rfl⟩
  intro l a w hl ⟨b78, b79, b80, b81, S, hS, hw⟩
  have hw := hw.fixR 5 (r' := .box b78 [.int .i64 rv42.1.Detector.Short, .int .i64 rv42.1.Detector.Long, .int .i64 rv42.1.Detector.On, .int .i64 rv42.1.Detector.Off, .int .i64 rv42.1.Back, .int .i64 rv42.1.Level, .int .i64 0] 30) rfl (bT (hl 8 (by decide)))
  have hw := hw.fixR 6 (r' := .box b79 [.int .i64 rv42.1.Detector.Short, .int .i64 rv42.1.Detector.Long, .int .i64 rv42.1.Detector.On, .int .i64 rv42.1.Detector.Off, .int .i64 rv42.1.Back, .int .i64 rv42.1.Level, .int .i64 0] 30) rfl (bT (hl 9 (by decide)))
  have hw := hw.fixR 7 (r' := .box b80 [.int .i64 rv42.1.Detector.Short, .int .i64 rv42.1.Detector.Long, .int .i64 rv42.1.Detector.On, .int .i64 rv42.1.Detector.Off, .int .i64 rv42.1.Back, .int .i64 rv42.1.Level, .int .i64 0] 30) rfl (bT (hl 10 (by decide)))
  have hw := hw.fixR 8 (r' := .box b81 [.int .i64 rv62.1.Start, .int .i64 rv62.1.First, .int .i64 rv62.1.Rate.Num, .int .i64 rv62.1.Rate.Den, .int .i64 rv62.1.Error, .slice p63 rv62.1.Samples.length k64] 38) rfl (bT (hl 11 (by decide)))
  have hs := hS.on (.b (t := 1) rfl (.b (t := 2) rfl (.b (t := 7) rfl (.b (t := 8) rfl (.b (t := 9) rfl (.b (t := 10) rfl (.v (t := 11) 4 rfl (hl 4 (by decide)) (.v (t := 12) 5 rfl (hl 5 (by decide)) (.v (t := 13) 6 rfl (hl 6 (by decide)) (.v (t := 14) 7 rfl (hl 7 (by decide)) .nil))))))))))
  exact ⟨S, b78, b79, b80, b81, (hs.wk rfl), (hw.ft [4, 2, 1, 0, 5, 6, 7, 8, 3] [0, 1] (by decide) rfl rfl)⟩
 rintro a w ⟨Sv82, b78, b79, b80, b81, hs, hw⟩
 refine then_normal ?_
 refine sr ?_
 refine mv hs rfl rfl fun a hs => ?_
 refine sv hs (y_convert Try.runUnderlying5 Try.runUnderlying3 rfl) rfl fun a hs => ?_
 refine sv hs (y_fieldAddr (o' := 6) Try.runUnderlying30 rfl Try.sizeOf3 rfl rfl rfl) rfl fun a hs => ?_
 refine w_store (m := 1) (cs' := [.int .i64 rv42.1.Detector.Short, .int .i64 rv42.1.Detector.Long, .int .i64 rv42.1.Detector.On, .int .i64 rv42.1.Detector.Off, .int .i64 rv42.1.Back, .int .i64 rv42.1.Level, .int .i64 (w64 n6)]) hs hw 4 rfl rfl rfl Try.sizeOf3 rfl rfl rfl rfl trivial ?_
 intro a w hs hw
 refine nl ?_
 refine wp_seq ?_
 obtain ⟨rv84, h83, hsh⟩ := bind_t hsh
 refine wp_only (fun a w => ∃ (Sv88 : Nat → Prop) (k86 : Nat) (p85 : Option Addr), Sl 226 [(1, .int .u8 by5), (7, .pointer (some ⟨b32, 0, none⟩)), (8, .pointer (some ⟨b75, 0, none⟩)), (9, .pointer (some ⟨b76, 0, none⟩)), (10, .pointer (some ⟨b77, 0, none⟩)), (11, .pointer (some ⟨b78, 0, none⟩)), (12, .pointer (some ⟨b79, 0, none⟩)), (13, .pointer (some ⟨b80, 0, none⟩)), (14, .pointer (some ⟨b81, 0, none⟩))] a ∧ Wd ⟨w0, S0, []⟩ Sv88 [.box b32 [.slice p85 rv84.2.L.length k86, .int .i64 rv84.2.At] 69, .box b75 [.int .i64 rv42.1.Detector.Short, .int .i64 rv42.1.Detector.Long, .int .i64 rv42.1.Detector.On, .int .i64 rv42.1.Detector.Off, .int .i64 rv42.1.Back, .int .i64 rv42.1.Level, .int .i64 0] 30, .box b76 [.string rv52.1.Network, .string rv52.1.Station, .string rv52.1.Location, .string rv52.1.Channel] 33, .box b77 [.int .i64 rv62.1.Start, .int .i64 rv62.1.First, .int .i64 rv62.1.Rate.Num, .int .i64 rv62.1.Rate.Den, .int .i64 rv62.1.Error, .slice p63 rv62.1.Samples.length k64] 38, .box b78 [.int .i64 rv42.1.Detector.Short, .int .i64 rv42.1.Detector.Long, .int .i64 rv42.1.Detector.On, .int .i64 rv42.1.Detector.Off, .int .i64 rv42.1.Back, .int .i64 rv42.1.Level, .int .i64 (w64 n6)] 30, .box b79 [.int .i64 rv42.1.Detector.Short, .int .i64 rv42.1.Detector.Long, .int .i64 rv42.1.Detector.On, .int .i64 rv42.1.Detector.Off, .int .i64 (w64 (rv42.1.Back + (w64 (1 + rv84.1)))), .int .i64 rv42.1.Level, .int .i64 0] 30, .box b80 [.int .i64 rv42.1.Detector.Short, .int .i64 rv42.1.Detector.Long, .int .i64 rv42.1.Detector.On, .int .i64 rv42.1.Detector.Off, .int .i64 rv42.1.Back, .int .i64 rv42.1.Level, .int .i64 0] 30, .box b81 [.int .i64 rv62.1.Start, .int .i64 rv62.1.First, .int .i64 rv62.1.Rate.Num, .int .i64 rv62.1.Rate.Den, .int .i64 rv62.1.Error, .slice p63 rv62.1.Samples.length k64] 38, .row p63 rv62.1.Samples.length k64 c66 3 1] [SlA p85 rv84.2.L.length k86 rv84.2.L, RowA c66 rv62.1.Samples] w) ?_ ?_
 ·refine h_b (C := Cls [.box b75 [.int .i64 rv42.1.Detector.Short, .int .i64 rv42.1.Detector.Long, .int .i64 rv42.1.Detector.On, .int .i64 rv42.1.Detector.Off, .int .i64 rv42.1.Back, .int .i64 rv42.1.Level, .int .i64 0] 30, .box b76 [.string rv52.1.Network, .string rv52.1.Station, .string rv52.1.Location, .string rv52.1.Channel] 33, .box b77 [.int .i64 rv62.1.Start, .int .i64 rv62.1.First, .int .i64 rv62.1.Rate.Num, .int .i64 rv62.1.Rate.Den, .int .i64 rv62.1.Error, .slice p63 rv62.1.Samples.length k64] 38, .box b78 [.int .i64 rv42.1.Detector.Short, .int .i64 rv42.1.Detector.Long, .int .i64 rv42.1.Detector.On, .int .i64 rv42.1.Detector.Off, .int .i64 rv42.1.Back, .int .i64 rv42.1.Level, .int .i64 (w64 n6)] 30, .box b80 [.int .i64 rv42.1.Detector.Short, .int .i64 rv42.1.Detector.Long, .int .i64 rv42.1.Detector.On, .int .i64 rv42.1.Detector.Off, .int .i64 rv42.1.Back, .int .i64 rv42.1.Level, .int .i64 0] 30, .box b81 [.int .i64 rv62.1.Start, .int .i64 rv62.1.First, .int .i64 rv62.1.Rate.Num, .int .i64 rv62.1.Rate.Den, .int .i64 rv62.1.Error, .slice p63 rv62.1.Samples.length k64] 38, .row p63 rv62.1.Samples.length k64 c66 3 1] []) (by kernel_rfl) rfl (hw.drew.cs [1, 2, 3, 4, 6, 7, 8] [] rfl rfl) fun hC => ?_
  have hw := hw.drew
  refine gv hs 0 rfl rfl hC (fun w hC => y_fieldAddr (o' := 4) Try.runUnderlying30 rfl Try.sizeOf3 rfl rfl rfl) fun a hs => ?_
  refine gm hs 2 rfl rfl rfl hC fun a hs => ?_
  refine h_all (rs := [1, 3]) (by kernel_rfl) rfl ?_
  refine AllH.cons rfl ?_ ?_
  ·refine sv hs (y_loadB1 (hw.ownAt 5 rfl) rfl Try.isAgg3 rfl) rfl fun a hs => ?_
   refine h_nx (hw.cs [1, 2, 3, 4, 6, 7, 8] [] rfl rfl) fun hC => ?_
   refine ho 3 rfl ?_
   refine st_callR hs (made_Dice_Next_ok h83 hw.dom (hw.ins [0] (by decide) rfl) (hw.envAt 0 rfl)) (do_call Try.call13 rfl) trivial rfl rfl ?_
   intro v92 Sv89 w a h90 h91 hs
   obtain ⟨p85, k86, rfl, h93, h87⟩ := h91
   have hw := hw.callO [0] [1, 2, 3, 4, 5, 6, 7, 8] (by decide) rfl h90 h93
   have hw := hw.addE (e := SlA p85 rv84.2.L.length k86 rv84.2.L) h87
   refine h_nx (hw.cs [1, 2, 3, 4, 6, 7, 8] [] rfl rfl) fun hC => ?_
   refine gv hs 4 rfl rfl hC (fun w hC => y_add rfl rfl) fun a hs => ?_
   refine gv hs 5 rfl rfl hC (fun w hC => y_add rfl rfl) fun a hs => ?_
   refine gv hs 6 rfl rfl hC (fun w hC => y_fieldAddr (o' := 4) Try.runUnderlying30 rfl Try.sizeOf3 rfl rfl rfl) fun a hs => ?_
   refine ho 7 rfl ?_
   refine w_store (m := 1) (cs' := [.int .i64 rv42.1.Detector.Short, .int .i64 rv42.1.Detector.Long, .int .i64 rv42.1.Detector.On, .int .i64 rv42.1.Detector.Off, .int .i64 (w64 (rv42.1.Back + (w64 (1 + rv84.1)))), .int .i64 rv42.1.Level, .int .i64 0]) hs hw 5 rfl rfl rfl Try.sizeOf3 rfl rfl rfl rfl trivial ?_
   intro a w hs hw
   refine h_nx (hw.cs [1, 2, 3, 4, 6, 7, 8] [] rfl rfl) fun hC => ?_
   refine h_done (by kernel_rfl) ?_
   exact ⟨Sv89, k86, p85, (hs.wk rfl), (hw.ft [0, 1, 2, 3, 4, 5, 6, 7, 8] [0, 2] (by decide) rfl rfl)⟩
  refine AllH.cons rfl ?_ ?_
  ·refine st_callR hs (made_Dice_Next_ok h83 hw.dom (hw.ins [0] (by decide) rfl) (hw.envAt 0 rfl)) (do_call Try.call13 rfl) trivial rfl rfl ?_
   intro v97 Sv94 w a h95 h96 hs
   obtain ⟨p85, k86, rfl, h98, h87⟩ := h96
   have hw := hw.callO [0] [1, 2, 3, 4, 5, 6, 7, 8] (by decide) rfl h95 h98
   have hw := hw.addE (e := SlA p85 rv84.2.L.length k86 rv84.2.L) h87
   refine h_nx (hw.cs [1, 2, 3, 4, 6, 7, 8] [] rfl rfl) fun hC => ?_
   refine gv hs 4 rfl rfl hC (fun w hC => y_add rfl rfl) fun a hs => ?_
   refine ho 1 rfl ?_
   refine sv hs (y_loadB1 (hw.ownAt 5 rfl) rfl Try.isAgg3 rfl) rfl fun a hs => ?_
   refine h_nx (hw.cs [1, 2, 3, 4, 6, 7, 8] [] rfl rfl) fun hC => ?_
   refine gv hs 5 rfl rfl hC (fun w hC => y_add rfl rfl) fun a hs => ?_
   refine gv hs 6 rfl rfl hC (fun w hC => y_fieldAddr (o' := 4) Try.runUnderlying30 rfl Try.sizeOf3 rfl rfl rfl) fun a hs => ?_
   refine ho 7 rfl ?_
   refine w_store (m := 1) (cs' := [.int .i64 rv42.1.Detector.Short, .int .i64 rv42.1.Detector.Long, .int .i64 rv42.1.Detector.On, .int .i64 rv42.1.Detector.Off, .int .i64 (w64 (rv42.1.Back + (w64 (1 + rv84.1)))), .int .i64 rv42.1.Level, .int .i64 0]) hs hw 5 rfl rfl rfl Try.sizeOf3 rfl rfl rfl rfl trivial ?_
   intro a w hs hw
   refine h_nx (hw.cs [1, 2, 3, 4, 6, 7, 8] [] rfl rfl) fun hC => ?_
   refine h_done (by kernel_rfl) ?_
   exact ⟨Sv94, k86, p85, (hs.wk rfl), (hw.ft [0, 1, 2, 3, 4, 5, 6, 7, 8] [0, 2] (by decide) rfl rfl)⟩
  exact AllH.nil
 rintro a w ⟨Sv88, k86, p85, hs, hw⟩
 refine then_normal ?_
 refine sr ?_
 refine mv hs rfl rfl fun a hs => ?_
 refine sv hs (y_fieldAddr (o' := 5) Try.runUnderlying30 rfl Try.sizeOf3 rfl rfl rfl) rfl fun a hs => ?_
 refine sv hs (y_loadB1 (hw.ownAt 1 rfl) rfl Try.isAgg3 rfl) rfl fun a hs => ?_
 refine sv hs (y_add rfl rfl) rfl fun a hs => ?_
 obtain ⟨rv100, h99, hsh⟩ := bind_t hsh
 refine st_callR hs (made_Dice_Next_ok h99 hw.dom (hw.ins [0] (by decide) rfl) (hw.envAt 0 rfl)) (do_call Try.call13 rfl) trivial rfl rfl ?_
 intro v107 Sv104 w a h105 h106 hs
 obtain ⟨p101, k102, rfl, h108, h103⟩ := h106
 have hw := hw.callO [0] [1, 2, 3, 4, 5, 6, 7, 8] (by decide) rfl h105 h108
 have hw := hw.addE (e := SlA p101 rv100.2.L.length k102 rv100.2.L) h103
 refine sv hs (y_fieldAddr (o' := 5) Try.runUnderlying30 rfl Try.sizeOf3 rfl rfl rfl) rfl fun a hs => ?_
 refine w_store (m := 1) (cs' := [.int .i64 rv42.1.Detector.Short, .int .i64 rv42.1.Detector.Long, .int .i64 rv42.1.Detector.On, .int .i64 rv42.1.Detector.Off, .int .i64 rv42.1.Back, .int .i64 rv100.1, .int .i64 0]) hs hw 6 rfl rfl rfl Try.sizeOf3 rfl rfl rfl rfl trivial ?_
 intro a w hs hw
 refine nl ?_
 refine sr ?_
 refine mv hs rfl rfl fun a hs => ?_
 refine sv hs (y_convert Try.runUnderlying5 Try.runUnderlying3 rfl) rfl fun a hs => ?_
 refine sv hs (y_add rfl rfl) rfl fun a hs => ?_
 obtain ⟨k110, h109, hsh⟩ := bind_t hsh
 refine sv hs (y_assignI rfl h109) rfl fun a hs => ?_
 refine nl ?_
 refine sr ?_
 refine sv hs (y_fieldAddr (o' := 5) Try.runUnderlying38 rfl Try.sizeOf22 rfl rfl rfl) rfl fun a hs => ?_
 refine w_store (m := 1) (cs' := [.int .i64 rv62.1.Start, .int .i64 rv62.1.First, .int .i64 rv62.1.Rate.Num, .int .i64 rv62.1.Rate.Den, .int .i64 rv62.1.Error, .slice none ([] : List Int).length 0]) hs hw 7 rfl rfl rfl Try.sizeOf22 rfl rfl rfl rfl trivial ?_
 intro a w hs hw
 refine nl ?_
 refine wp_seq ?_
 refine sr ?_
 refine sv hs (y_fieldAddr (o' := 5) Try.runUnderlying38 rfl Try.sizeOf22 rfl rfl rfl) rfl fun a hs => ?_
 refine sv hs (y_loadB1 (hw.ownAt 3 rfl) rfl Try.isAgg22 rfl) rfl fun a hs => ?_
 refine sv hs (y_len Try.runUnderlying22 rfl) rfl fun a hs => ?_
 refine mv hs rfl rfl fun a hs => ?_
 refine nl ?_
 obtain ⟨e186, h1068, hsh⟩ := bind_t hsh
 refine wp_join (fun a w => ∃ (c187 : List Value) (p188 : Option Addr) (k189 : Nat) (Sv190 : Nat → Prop), Sl 226 [(8, .pointer (some ⟨b75, 0, none⟩)), (9, .pointer (some ⟨b76, 0, none⟩)), (10, .pointer (some ⟨b77, 0, none⟩)), (11, .pointer (some ⟨b78, 0, none⟩)), (12, .pointer (some ⟨b79, 0, none⟩)), (13, .pointer (some ⟨b80, 0, none⟩)), (14, .pointer (some ⟨b81, 0, none⟩)), (15, .int .i64 k110)] a ∧ Wd ⟨w0, S0, []⟩ Sv190 [.box b75 [.int .i64 rv42.1.Detector.Short, .int .i64 rv42.1.Detector.Long, .int .i64 rv42.1.Detector.On, .int .i64 rv42.1.Detector.Off, .int .i64 rv42.1.Back, .int .i64 rv42.1.Level, .int .i64 0] 30, .box b76 [.string rv52.1.Network, .string rv52.1.Station, .string rv52.1.Location, .string rv52.1.Channel] 33, .box b77 [.int .i64 rv62.1.Start, .int .i64 rv62.1.First, .int .i64 rv62.1.Rate.Num, .int .i64 rv62.1.Rate.Den, .int .i64 rv62.1.Error, .slice p63 rv62.1.Samples.length k64] 38, .box b78 [.int .i64 rv42.1.Detector.Short, .int .i64 rv42.1.Detector.Long, .int .i64 rv42.1.Detector.On, .int .i64 rv42.1.Detector.Off, .int .i64 rv42.1.Back, .int .i64 rv42.1.Level, .int .i64 (w64 n6)] 30, .box b79 [.int .i64 rv42.1.Detector.Short, .int .i64 rv42.1.Detector.Long, .int .i64 rv42.1.Detector.On, .int .i64 rv42.1.Detector.Off, .int .i64 (w64 (rv42.1.Back + (w64 (1 + rv84.1)))), .int .i64 rv42.1.Level, .int .i64 0] 30, .box b80 [.int .i64 rv42.1.Detector.Short, .int .i64 rv42.1.Detector.Long, .int .i64 rv42.1.Detector.On, .int .i64 rv42.1.Detector.Off, .int .i64 rv42.1.Back, .int .i64 rv100.1, .int .i64 0] 30, .box b81 [.int .i64 rv62.1.Start, .int .i64 rv62.1.First, .int .i64 rv62.1.Rate.Num, .int .i64 rv62.1.Rate.Den, .int .i64 rv62.1.Error, .slice p188 e186.length k189] 38, .row p63 rv62.1.Samples.length k64 c66 3 1, .row p188 e186.length k189 c187 3 1] [RowA c66 rv62.1.Samples, RowA c187 e186] w) ?_ ?_
 ·refine wp_block ?_
  have hw := hw.nilRow Int 3
  refine wp_while (fun sv111 a w => ∃ (c158 : List Value) (p159 : Option Addr) (k160 : Nat) (Sv161 : Nat → Prop), Sl 226 [(8, .pointer (some ⟨b75, 0, none⟩)), (9, .pointer (some ⟨b76, 0, none⟩)), (10, .pointer (some ⟨b77, 0, none⟩)), (11, .pointer (some ⟨b78, 0, none⟩)), (12, .pointer (some ⟨b79, 0, none⟩)), (13, .pointer (some ⟨b80, 0, none⟩)), (14, .pointer (some ⟨b81, 0, none⟩)), (15, .int .i64 k110), (70, .slice p63 rv62.1.Samples.length k64), (71, .int .i64 (rv62.1.Samples.length : Int)), (72, .int .i64 sv111.2)] a ∧ Wd ⟨w0, S0, []⟩ Sv161 [.box b75 [.int .i64 rv42.1.Detector.Short, .int .i64 rv42.1.Detector.Long, .int .i64 rv42.1.Detector.On, .int .i64 rv42.1.Detector.Off, .int .i64 rv42.1.Back, .int .i64 rv42.1.Level, .int .i64 0] 30, .box b76 [.string rv52.1.Network, .string rv52.1.Station, .string rv52.1.Location, .string rv52.1.Channel] 33, .box b77 [.int .i64 rv62.1.Start, .int .i64 rv62.1.First, .int .i64 rv62.1.Rate.Num, .int .i64 rv62.1.Rate.Den, .int .i64 rv62.1.Error, .slice p63 rv62.1.Samples.length k64] 38, .box b78 [.int .i64 rv42.1.Detector.Short, .int .i64 rv42.1.Detector.Long, .int .i64 rv42.1.Detector.On, .int .i64 rv42.1.Detector.Off, .int .i64 rv42.1.Back, .int .i64 rv42.1.Level, .int .i64 (w64 n6)] 30, .box b79 [.int .i64 rv42.1.Detector.Short, .int .i64 rv42.1.Detector.Long, .int .i64 rv42.1.Detector.On, .int .i64 rv42.1.Detector.Off, .int .i64 (w64 (rv42.1.Back + (w64 (1 + rv84.1)))), .int .i64 rv42.1.Level, .int .i64 0] 30, .box b80 [.int .i64 rv42.1.Detector.Short, .int .i64 rv42.1.Detector.Long, .int .i64 rv42.1.Detector.On, .int .i64 rv42.1.Detector.Off, .int .i64 rv42.1.Back, .int .i64 rv100.1, .int .i64 0] 30, .box b81 [.int .i64 rv62.1.Start, .int .i64 rv62.1.First, .int .i64 rv62.1.Rate.Num, .int .i64 rv62.1.Rate.Den, .int .i64 rv62.1.Error, .slice p159 sv111.1.length k160] 38, .row p63 rv62.1.Samples.length k64 c66 3 1, .row p159 sv111.1.length k160 c158 3 1] [RowA c66 rv62.1.Samples, RowA c158 sv111.1] w) (([] : List Int), 0) h1068 ⟨[], none, 0, Sv104, (hs.wk rfl), (hw.ft [2, 3, 4, 5, 6, 7, 8, 9, 0] [3, 0] (by decide) rfl rfl)⟩ ?_
  clear h1068
  repeat clear hsh
  rintro sv111 a w tv184 ⟨c158, p159, k160, Sv161, hs, hw⟩ hsh hd183
  delta law23_PickerLevels_l1 at hsh
  refine sr ?_
  refine sv hs (y_lss rfl rfl) rfl fun a hs => ?_
  refine nl ?_
  refine wp_seq ?_
  refine wp_cond_split (hs.ev rfl) (fun h192 => ?_) (fun h192 => ?_)
  ·have hsh := ite_t hsh h192
   refine wp_skip ?_
   refine then_normal ?_
   refine wp_seq ?_
   refine wp_block ?_
   refine sr ?_
   obtain ⟨x215, h213, hsh⟩ := bind_t hsh
   obtain ⟨b222, q219, c220, h223, h216, h217, h221, h214⟩ := hw.elemRV (α := Int) 7 rfl 0 rfl h213
   have hsv224 := hs
   have hwv225 := hw
   subst h223
   have hs := hsv224
   have hw := hwv225
   obtain ⟨_, rfl, rfl⟩ := h214
   refine sv hs (y_indexAt Try.runUnderlying22 Try.sizeOf3 rfl rfl h216.1 h216.2 h217) rfl fun a hs => ?_
   refine sv hs (y_loadQ1 (j := 0) (hw.ownAt 7 rfl) rfl Try.isAgg3 h221 rfl) rfl fun a hs => ?_
   refine av hs rfl rfl fun a hs => ?_
   refine nl ?_
   refine wp_region_lit ?_
   refine sv hs (y_fieldAddr (o' := 5) Try.runUnderlying38 rfl Try.sizeOf22 rfl rfl rfl) rfl fun a hs => ?_
   refine sv hs (y_loadB1 (hw.ownAt 6 rfl) rfl Try.isAgg22 rfl) rfl fun a hs => ?_
   refine mv hs rfl rfl fun a hs => ?_
   refine mv hs rfl rfl fun a hs => ?_
   refine sv hs (y_mul rfl rfl) rfl fun a hs => ?_
   refine w_litSlice (α := Int) (vs := [.int .i64 (w64 (x215 * k110))]) (cs := [.int .i64 (w64 (x215 * k110))]) (xs := ([(w64 (x215 * k110))] : List Int)) hs hw El22 rfl rfl rfl rfl rfl rfl ⟨⟨_, rfl, rfl⟩, rfl⟩ rfl trivial rfl fun b227 a w hs hw => ?_
   obtain ⟨l229, h228, hsh⟩ := bind_t hsh
   refine w_appendR (α := Int) hs hw El22 9 rfl rfl rfl 2 rfl 0 rfl 0 rfl h228 rfl trivial ?_
   intro p230 k231 c232 a w hs hw
   refine sv hs (y_fieldAddr (o' := 5) Try.runUnderlying38 rfl Try.sizeOf22 rfl rfl rfl) rfl fun a hs => ?_
   refine w_store (m := 1) (cs' := [.int .i64 rv62.1.Start, .int .i64 rv62.1.First, .int .i64 rv62.1.Rate.Num, .int .i64 rv62.1.Rate.Den, .int .i64 rv62.1.Error, .slice p230 l229.length k231]) hs hw 7 rfl rfl rfl Try.sizeOf22 rfl rfl rfl rfl trivial ?_
   intro a w hs hw
   refine wpList_nil ?_
   refine blk_normal ?_
   refine then_normal ?_
   refine wp_region_lit ?_
   refine sv hs (y_add rfl rfl) rfl fun a hs => ?_
   refine mv hs rfl rfl fun a hs => ?_
   refine nl ?_
   exact ⟨_, (Option.some.inj hsh).symm, c232, p230, k231, Sv161, (hs.wk rfl), (hw.ft [1, 2, 3, 4, 5, 6, 7, 8, 9] [2, 0] (by decide) rfl rfl)⟩
  have hsh := ite_f hsh h192
  refine wp_exit ?_
  refine then_exit ?_
  refine then_exit ?_
  refine blk_exit ?_
  have hsh := oi hsh
  subst hsh
  have h233 := hd183 _ rfl
  subst h233
  refine then_normal ?_
  exact ⟨c158, p159, k160, Sv161, (hs.wk rfl), (hw.ft [0, 1, 2, 3, 4, 5, 6, 7, 8] [0, 1] (by decide) rfl rfl)⟩
 rintro a w ⟨c187, p188, k189, Sv190, hs, hw⟩
 refine then_normal ?_
 refine sr ?_
 refine sv hs (y_loadBA (hw.ownAt 0 rfl) rfl Try.isAgg30 Try.sizeOf30 rfl rfl) rfl fun a hs => ?_
 refine sv hs (y_loadBA (hw.ownAt 1 rfl) rfl Try.isAgg33 Try.sizeOf33 rfl rfl) rfl fun a hs => ?_
 refine sv hs (y_loadBA (hw.ownAt 2 rfl) rfl Try.isAgg38 Try.sizeOf38 rfl rfl) rfl fun a hs => ?_
 obtain ⟨rv235, h234, hsh⟩ := bind_t hsh
 obtain ⟨Sv240, hw⟩ := w_share (α := Int) hw 7 rfl 0 rfl
 refine st_callR hs (picker_Segment_ok h234 hw.dom (hw.envAt 0 rfl)) (do_call Try.call14 rfl) trivial rfl rfl ?_
 intro v244 Sv241 w a h242 h243 hs
 obtain ⟨p236, k237, c239, rfl, h245, h238⟩ := h243
 have hw := hw.callN h242 h245
 have hw := hw.addE (e := RowA c239 rv235.1) h238
 refine mv hs rfl rfl fun a hs => ?_
 refine sv hs (y_extract rfl rfl) rfl fun a hs => ?_
 refine sv hs (y_extract rfl rfl) rfl fun a hs => ?_
 refine av hs rfl rfl fun a hs => ?_
 refine av hs rfl rfl fun a hs => ?_
 refine nl ?_
 refine sr ?_
 refine sv hs (y_loadBA (hw.ownAt 4 rfl) rfl Try.isAgg30 Try.sizeOf30 rfl rfl) rfl fun a hs => ?_
 refine sv hs (y_loadBA (hw.ownAt 2 rfl) rfl Try.isAgg33 Try.sizeOf33 rfl rfl) rfl fun a hs => ?_
 refine sv hs (y_loadBA (hw.ownAt 3 rfl) rfl Try.isAgg38 Try.sizeOf38 rfl rfl) rfl fun a hs => ?_
 obtain ⟨rv247, h246, hsh⟩ := bind_t hsh
 refine st_callR hs (picker_Segment_ok h246 hw.dom (hw.envAt 1 rfl)) (do_call Try.call14 rfl) trivial rfl rfl ?_
 intro v255 Sv252 w a h253 h254 hs
 obtain ⟨p248, k249, c251, rfl, h256, h250⟩ := h254
 have hw := hw.callN h253 h256
 have hw := hw.addE (e := RowA c251 rv247.1) h250
 refine mv hs rfl rfl fun a hs => ?_
 refine sv hs (y_extract rfl rfl) rfl fun a hs => ?_
 refine sv hs (y_extract rfl rfl) rfl fun a hs => ?_
 refine av hs rfl rfl fun a hs => ?_
 refine av hs rfl rfl fun a hs => ?_
 refine nl ?_
 refine sr ?_
 refine sv hs (y_loadBA (hw.ownAt 6 rfl) rfl Try.isAgg30 Try.sizeOf30 rfl rfl) rfl fun a hs => ?_
 refine sv hs (y_loadBA (hw.ownAt 3 rfl) rfl Try.isAgg33 Try.sizeOf33 rfl rfl) rfl fun a hs => ?_
 refine sv hs (y_loadBA (hw.ownAt 4 rfl) rfl Try.isAgg38 Try.sizeOf38 rfl rfl) rfl fun a hs => ?_
 obtain ⟨rv258, h257, hsh⟩ := bind_t hsh
 refine st_callR hs (picker_Segment_ok h257 hw.dom (hw.envAt 2 rfl)) (do_call Try.call14 rfl) trivial rfl rfl ?_
 intro v266 Sv263 w a h264 h265 hs
 obtain ⟨p259, k260, c262, rfl, h267, h261⟩ := h265
 have hw := hw.callN h264 h267
 have hw := hw.addE (e := RowA c262 rv258.1) h261
 refine mv hs rfl rfl fun a hs => ?_
 refine sv hs (y_extract rfl rfl) rfl fun a hs => ?_
 refine sv hs (y_extract rfl rfl) rfl fun a hs => ?_
 refine av hs rfl rfl fun a hs => ?_
 refine av hs rfl rfl fun a hs => ?_
 refine nl ?_
 refine sr ?_
 refine sv hs (y_loadBA (hw.ownAt 8 rfl) rfl Try.isAgg30 Try.sizeOf30 rfl rfl) rfl fun a hs => ?_
 refine sv hs (y_loadBA (hw.ownAt 4 rfl) rfl Try.isAgg33 Try.sizeOf33 rfl rfl) rfl fun a hs => ?_
 refine sv hs (y_loadBA (hw.ownAt 5 rfl) rfl Try.isAgg38 Try.sizeOf38 rfl rfl) rfl fun a hs => ?_
 obtain ⟨rv269, h268, hsh⟩ := bind_t hsh
 refine st_callR hs (picker_Segment_ok h268 hw.dom (hw.envAt 3 rfl)) (do_call Try.call14 rfl) trivial rfl rfl ?_
 intro v277 Sv274 w a h275 h276 hs
 obtain ⟨p270, k271, c273, rfl, h278, h272⟩ := h276
 have hw := hw.callN h275 h278
 have hw := hw.addE (e := RowA c273 rv269.1) h272
 refine mv hs rfl rfl fun a hs => ?_
 refine sv hs (y_extract rfl rfl) rfl fun a hs => ?_
 refine sv hs (y_extract rfl rfl) rfl fun a hs => ?_
 refine av hs rfl rfl fun a hs => ?_
 refine av hs rfl rfl fun a hs => ?_
 refine nl ?_
 refine sr ?_
 refine sv hs (y_loadBA (hw.ownAt 4 rfl) rfl Try.isAgg30 Try.sizeOf30 rfl rfl) rfl fun a hs => ?_
 refine sv hs (y_loadBA (hw.ownAt 5 rfl) rfl Try.isAgg33 Try.sizeOf33 rfl rfl) rfl fun a hs => ?_
 refine sv hs (y_loadBA (hw.ownAt 10 rfl) rfl Try.isAgg38 Try.sizeOf38 rfl rfl) rfl fun a hs => ?_
 obtain ⟨rv280, h279, hsh⟩ := bind_t hsh
 obtain ⟨Sv285, hw⟩ := w_share (α := Int) hw 11 rfl 6 rfl
 refine st_callR hs (picker_Segment_ok h279 hw.dom (hw.envAt 0 rfl)) (do_call Try.call14 rfl) trivial rfl rfl ?_
 intro v289 Sv286 w a h287 h288 hs
 obtain ⟨p281, k282, c284, rfl, h290, h283⟩ := h288
 have hw := hw.callN h287 h290
 have hw := hw.addE (e := RowA c284 rv280.1) h283
 refine mv hs rfl rfl fun a hs => ?_
 refine sv hs (y_extract rfl rfl) rfl fun a hs => ?_
 refine sv hs (y_extract rfl rfl) rfl fun a hs => ?_
 refine av hs rfl rfl fun a hs => ?_
 refine av hs rfl rfl fun a hs => ?_
 refine nl ?_
 refine wp_seq ?_
 refine sr ?_
 refine mv hs rfl rfl fun a hs => ?_
 refine sv hs (y_neq rfl rfl) rfl fun a hs => ?_
 refine mv hs rfl rfl fun a hs => ?_
 refine wpl_join 3 (fun a w1 => w = w1 ∧ Sl 226 [(11, .pointer (some ⟨b78, 0, none⟩)), (15, .int .i64 k110), (18, .slice p236 rv235.1.length k237), (20, .slice p248 rv247.1.length k249), (22, .slice p259 rv258.1.length k260), (23, .int .i64 rv258.2), (24, .slice p270 rv269.1.length k271), (25, .int .i64 rv269.2), (26, .slice p281 rv280.1.length k282), (27, .int .i64 rv280.2), (125, .bool ((rv235.2 != 0) || (rv247.2 != 0)))] a) ?_ ?_
 ·rcases Bool.eq_false_or_eq_true (rv235.2 != 0) with h291 | h291
  ·have hs := hs.fix 122 (.bool true) rfl (vb h291)
   refine st_skip hs rfl rfl rfl rfl rfl fun a hs => ?_
   refine st_skip hs rfl rfl rfl rfl rfl fun a hs => ?_
   refine sv hs (y_pickT rfl rfl) rfl fun a hs => ?_
   refine nl ?_
   exact ⟨rfl, (hs.fix 125 (.bool ((rv235.2 != 0) || (rv247.2 != 0))) rfl (or_t h291)).weaken _ ⟨rfl, rfl, rfl, rfl, rfl, rfl, rfl, rfl, rfl, rfl, rfl, trivial⟩⟩
  have hs := hs.fix 122 (.bool false) rfl (vb h291)
  refine st_val hs (y_move rfl) ⟨_, rfl, rfl⟩ rfl rfl fun a hs => ?_
  refine st_val hs (y_neq rfl rfl) ⟨_, rfl, rfl⟩ rfl rfl fun a hs => ?_
  refine sv hs (y_pickF rfl rfl) rfl fun a hs => ?_
  refine nl ?_
  exact ⟨rfl, (hs.fix 125 (.bool ((rv235.2 != 0) || (rv247.2 != 0))) rfl (or_f h291)).weaken _ ⟨rfl, rfl, rfl, rfl, rfl, rfl, rfl, rfl, rfl, rfl, rfl, trivial⟩⟩
 rintro a w1 ⟨h1067, hs⟩
 subst h1067
 refine mv hs rfl rfl fun a hs => ?_
 refine wpl_join 3 (fun a w1 => w = w1 ∧ Sl 226 [(11, .pointer (some ⟨b78, 0, none⟩)), (15, .int .i64 k110), (18, .slice p236 rv235.1.length k237), (20, .slice p248 rv247.1.length k249), (22, .slice p259 rv258.1.length k260), (24, .slice p270 rv269.1.length k271), (25, .int .i64 rv269.2), (26, .slice p281 rv280.1.length k282), (27, .int .i64 rv280.2), (129, .bool (((rv235.2 != 0) || (rv247.2 != 0)) || (rv258.2 != 0)))] a) ?_ ?_
 ·rcases Bool.eq_false_or_eq_true ((rv235.2 != 0) || (rv247.2 != 0)) with h292 | h292
  ·have hs := hs.fix 126 (.bool true) rfl (vb h292)
   refine st_skip hs rfl rfl rfl rfl rfl fun a hs => ?_
   refine st_skip hs rfl rfl rfl rfl rfl fun a hs => ?_
   refine sv hs (y_pickT rfl rfl) rfl fun a hs => ?_
   refine nl ?_
   exact ⟨rfl, (hs.fix 129 (.bool (((rv235.2 != 0) || (rv247.2 != 0)) || (rv258.2 != 0))) rfl (or_t h292)).weaken _ ⟨rfl, rfl, rfl, rfl, rfl, rfl, rfl, rfl, rfl, rfl, trivial⟩⟩
  have hs := hs.fix 126 (.bool false) rfl (vb h292)
  refine st_val hs (y_move rfl) ⟨_, rfl, rfl⟩ rfl rfl fun a hs => ?_
  refine st_val hs (y_neq rfl rfl) ⟨_, rfl, rfl⟩ rfl rfl fun a hs => ?_
  refine sv hs (y_pickF rfl rfl) rfl fun a hs => ?_
  refine nl ?_
  exact ⟨rfl, (hs.fix 129 (.bool (((rv235.2 != 0) || (rv247.2 != 0)) || (rv258.2 != 0))) rfl (or_f h292)).weaken _ ⟨rfl, rfl, rfl, rfl, rfl, rfl, rfl, rfl, rfl, rfl, trivial⟩⟩
 rintro a w1 ⟨h1066, hs⟩
 subst h1066
 refine mv hs rfl rfl fun a hs => ?_
 refine wpl_join 3 (fun a w1 => w = w1 ∧ Sl 226 [(11, .pointer (some ⟨b78, 0, none⟩)), (15, .int .i64 k110), (18, .slice p236 rv235.1.length k237), (20, .slice p248 rv247.1.length k249), (22, .slice p259 rv258.1.length k260), (24, .slice p270 rv269.1.length k271), (26, .slice p281 rv280.1.length k282), (27, .int .i64 rv280.2), (133, .bool ((((rv235.2 != 0) || (rv247.2 != 0)) || (rv258.2 != 0)) || (rv269.2 != 0)))] a) ?_ ?_
 ·rcases Bool.eq_false_or_eq_true (((rv235.2 != 0) || (rv247.2 != 0)) || (rv258.2 != 0)) with h293 | h293
  ·have hs := hs.fix 130 (.bool true) rfl (vb h293)
   refine st_skip hs rfl rfl rfl rfl rfl fun a hs => ?_
   refine st_skip hs rfl rfl rfl rfl rfl fun a hs => ?_
   refine sv hs (y_pickT rfl rfl) rfl fun a hs => ?_
   refine nl ?_
   exact ⟨rfl, (hs.fix 133 (.bool ((((rv235.2 != 0) || (rv247.2 != 0)) || (rv258.2 != 0)) || (rv269.2 != 0))) rfl (or_t h293)).weaken _ ⟨rfl, rfl, rfl, rfl, rfl, rfl, rfl, rfl, rfl, trivial⟩⟩
  have hs := hs.fix 130 (.bool false) rfl (vb h293)
  refine st_val hs (y_move rfl) ⟨_, rfl, rfl⟩ rfl rfl fun a hs => ?_
  refine st_val hs (y_neq rfl rfl) ⟨_, rfl, rfl⟩ rfl rfl fun a hs => ?_
  refine sv hs (y_pickF rfl rfl) rfl fun a hs => ?_
  refine nl ?_
  exact ⟨rfl, (hs.fix 133 (.bool ((((rv235.2 != 0) || (rv247.2 != 0)) || (rv258.2 != 0)) || (rv269.2 != 0))) rfl (or_f h293)).weaken _ ⟨rfl, rfl, rfl, rfl, rfl, rfl, rfl, rfl, rfl, trivial⟩⟩
 rintro a w1 ⟨h1065, hs⟩
 subst h1065
 refine mv hs rfl rfl fun a hs => ?_
 refine wpl_join 3 (fun a w1 => w = w1 ∧ Sl 226 [(11, .pointer (some ⟨b78, 0, none⟩)), (15, .int .i64 k110), (18, .slice p236 rv235.1.length k237), (20, .slice p248 rv247.1.length k249), (22, .slice p259 rv258.1.length k260), (24, .slice p270 rv269.1.length k271), (26, .slice p281 rv280.1.length k282), (137, .bool (((((rv235.2 != 0) || (rv247.2 != 0)) || (rv258.2 != 0)) || (rv269.2 != 0)) || (rv280.2 != 0)))] a) ?_ ?_
 ·rcases Bool.eq_false_or_eq_true ((((rv235.2 != 0) || (rv247.2 != 0)) || (rv258.2 != 0)) || (rv269.2 != 0)) with h294 | h294
  ·have hs := hs.fix 134 (.bool true) rfl (vb h294)
   refine st_skip hs rfl rfl rfl rfl rfl fun a hs => ?_
   refine st_skip hs rfl rfl rfl rfl rfl fun a hs => ?_
   refine sv hs (y_pickT rfl rfl) rfl fun a hs => ?_
   refine nl ?_
   exact ⟨rfl, (hs.fix 137 (.bool (((((rv235.2 != 0) || (rv247.2 != 0)) || (rv258.2 != 0)) || (rv269.2 != 0)) || (rv280.2 != 0))) rfl (or_t h294)).weaken _ ⟨rfl, rfl, rfl, rfl, rfl, rfl, rfl, rfl, trivial⟩⟩
  have hs := hs.fix 134 (.bool false) rfl (vb h294)
  refine st_val hs (y_move rfl) ⟨_, rfl, rfl⟩ rfl rfl fun a hs => ?_
  refine st_val hs (y_neq rfl rfl) ⟨_, rfl, rfl⟩ rfl rfl fun a hs => ?_
  refine sv hs (y_pickF rfl rfl) rfl fun a hs => ?_
  refine nl ?_
  exact ⟨rfl, (hs.fix 137 (.bool (((((rv235.2 != 0) || (rv247.2 != 0)) || (rv258.2 != 0)) || (rv269.2 != 0)) || (rv280.2 != 0))) rfl (or_f h294)).weaken _ ⟨rfl, rfl, rfl, rfl, rfl, rfl, rfl, rfl, trivial⟩⟩
 rintro a w1 ⟨h1064, hs⟩
 subst h1064
 refine mv hs rfl rfl fun a hs => ?_
 refine wpl_join 6 (fun a w1 => w = w1 ∧ Sl 226 [(11, .pointer (some ⟨b78, 0, none⟩)), (15, .int .i64 k110), (18, .slice p236 rv235.1.length k237), (20, .slice p248 rv247.1.length k249), (22, .slice p259 rv258.1.length k260), (24, .slice p270 rv269.1.length k271), (26, .slice p281 rv280.1.length k282), (144, .bool ((((((rv235.2 != 0) || (rv247.2 != 0)) || (rv258.2 != 0)) || (rv269.2 != 0)) || (rv280.2 != 0)) || ((rv258.1.length : Int) != (rv235.1.length : Int))))] a) ?_ ?_
 ·rcases Bool.eq_false_or_eq_true (((((rv235.2 != 0) || (rv247.2 != 0)) || (rv258.2 != 0)) || (rv269.2 != 0)) || (rv280.2 != 0)) with h295 | h295
  ·have hs := hs.fix 138 (.bool true) rfl (vb h295)
   refine st_skip hs rfl rfl rfl rfl rfl fun a hs => ?_
   refine st_skip hs rfl rfl rfl rfl rfl fun a hs => ?_
   refine st_skip hs rfl rfl rfl rfl rfl fun a hs => ?_
   refine st_skip hs rfl rfl rfl rfl rfl fun a hs => ?_
   refine st_skip hs rfl rfl rfl rfl rfl fun a hs => ?_
   refine sv hs (y_pickT rfl rfl) rfl fun a hs => ?_
   refine nl ?_
   exact ⟨rfl, (hs.fix 144 (.bool ((((((rv235.2 != 0) || (rv247.2 != 0)) || (rv258.2 != 0)) || (rv269.2 != 0)) || (rv280.2 != 0)) || ((rv258.1.length : Int) != (rv235.1.length : Int)))) rfl (or_t h295)).weaken _ ⟨rfl, rfl, rfl, rfl, rfl, rfl, rfl, rfl, trivial⟩⟩
  have hs := hs.fix 138 (.bool false) rfl (vb h295)
  refine st_val hs (y_move rfl) ⟨_, rfl, rfl⟩ rfl rfl fun a hs => ?_
  refine st_val hs (y_len Try.runUnderlying41 rfl) ⟨_, rfl, rfl⟩ rfl rfl fun a hs => ?_
  refine st_val hs (y_move rfl) ⟨_, rfl, rfl⟩ rfl rfl fun a hs => ?_
  refine st_val hs (y_len Try.runUnderlying41 rfl) ⟨_, rfl, rfl⟩ rfl rfl fun a hs => ?_
  refine st_val hs (y_neq rfl rfl) ⟨_, rfl, rfl⟩ rfl rfl fun a hs => ?_
  refine sv hs (y_pickF rfl rfl) rfl fun a hs => ?_
  refine nl ?_
  exact ⟨rfl, (hs.fix 144 (.bool ((((((rv235.2 != 0) || (rv247.2 != 0)) || (rv258.2 != 0)) || (rv269.2 != 0)) || (rv280.2 != 0)) || ((rv258.1.length : Int) != (rv235.1.length : Int)))) rfl (or_f h295)).weaken _ ⟨rfl, rfl, rfl, rfl, rfl, rfl, rfl, rfl, trivial⟩⟩
 rintro a w1 ⟨h1063, hs⟩
 subst h1063
 refine mv hs rfl rfl fun a hs => ?_
 refine wpl_join 6 (fun a w1 => w = w1 ∧ Sl 226 [(11, .pointer (some ⟨b78, 0, none⟩)), (15, .int .i64 k110), (18, .slice p236 rv235.1.length k237), (20, .slice p248 rv247.1.length k249), (22, .slice p259 rv258.1.length k260), (24, .slice p270 rv269.1.length k271), (26, .slice p281 rv280.1.length k282), (151, .bool (((((((rv235.2 != 0) || (rv247.2 != 0)) || (rv258.2 != 0)) || (rv269.2 != 0)) || (rv280.2 != 0)) || ((rv258.1.length : Int) != (rv235.1.length : Int))) || ((rv269.1.length : Int) != (rv235.1.length : Int))))] a) ?_ ?_
 ·rcases Bool.eq_false_or_eq_true ((((((rv235.2 != 0) || (rv247.2 != 0)) || (rv258.2 != 0)) || (rv269.2 != 0)) || (rv280.2 != 0)) || ((rv258.1.length : Int) != (rv235.1.length : Int))) with h296 | h296
  ·have hs := hs.fix 145 (.bool true) rfl (vb h296)
   refine st_skip hs rfl rfl rfl rfl rfl fun a hs => ?_
   refine st_skip hs rfl rfl rfl rfl rfl fun a hs => ?_
   refine st_skip hs rfl rfl rfl rfl rfl fun a hs => ?_
   refine st_skip hs rfl rfl rfl rfl rfl fun a hs => ?_
   refine st_skip hs rfl rfl rfl rfl rfl fun a hs => ?_
   refine sv hs (y_pickT rfl rfl) rfl fun a hs => ?_
   refine nl ?_
   exact ⟨rfl, (hs.fix 151 (.bool (((((((rv235.2 != 0) || (rv247.2 != 0)) || (rv258.2 != 0)) || (rv269.2 != 0)) || (rv280.2 != 0)) || ((rv258.1.length : Int) != (rv235.1.length : Int))) || ((rv269.1.length : Int) != (rv235.1.length : Int)))) rfl (or_t h296)).weaken _ ⟨rfl, rfl, rfl, rfl, rfl, rfl, rfl, rfl, trivial⟩⟩
  have hs := hs.fix 145 (.bool false) rfl (vb h296)
  refine st_val hs (y_move rfl) ⟨_, rfl, rfl⟩ rfl rfl fun a hs => ?_
  refine st_val hs (y_len Try.runUnderlying41 rfl) ⟨_, rfl, rfl⟩ rfl rfl fun a hs => ?_
  refine st_val hs (y_move rfl) ⟨_, rfl, rfl⟩ rfl rfl fun a hs => ?_
  refine st_val hs (y_len Try.runUnderlying41 rfl) ⟨_, rfl, rfl⟩ rfl rfl fun a hs => ?_
  refine st_val hs (y_neq rfl rfl) ⟨_, rfl, rfl⟩ rfl rfl fun a hs => ?_
  refine sv hs (y_pickF rfl rfl) rfl fun a hs => ?_
  refine nl ?_
  exact ⟨rfl, (hs.fix 151 (.bool (((((((rv235.2 != 0) || (rv247.2 != 0)) || (rv258.2 != 0)) || (rv269.2 != 0)) || (rv280.2 != 0)) || ((rv258.1.length : Int) != (rv235.1.length : Int))) || ((rv269.1.length : Int) != (rv235.1.length : Int)))) rfl (or_f h296)).weaken _ ⟨rfl, rfl, rfl, rfl, rfl, rfl, rfl, rfl, trivial⟩⟩
 rintro a w1 ⟨h1062, hs⟩
 subst h1062
 refine mv hs rfl rfl fun a hs => ?_
 refine wpl_join 6 (fun a w1 => w = w1 ∧ Sl 226 [(11, .pointer (some ⟨b78, 0, none⟩)), (15, .int .i64 k110), (18, .slice p236 rv235.1.length k237), (20, .slice p248 rv247.1.length k249), (22, .slice p259 rv258.1.length k260), (24, .slice p270 rv269.1.length k271), (26, .slice p281 rv280.1.length k282), (158, .bool ((((((((rv235.2 != 0) || (rv247.2 != 0)) || (rv258.2 != 0)) || (rv269.2 != 0)) || (rv280.2 != 0)) || ((rv258.1.length : Int) != (rv235.1.length : Int))) || ((rv269.1.length : Int) != (rv235.1.length : Int))) || ((rv280.1.length : Int) != (rv235.1.length : Int))))] a) ?_ ?_
 ·rcases Bool.eq_false_or_eq_true (((((((rv235.2 != 0) || (rv247.2 != 0)) || (rv258.2 != 0)) || (rv269.2 != 0)) || (rv280.2 != 0)) || ((rv258.1.length : Int) != (rv235.1.length : Int))) || ((rv269.1.length : Int) != (rv235.1.length : Int))) with h297 | h297
  ·have hs := hs.fix 152 (.bool true) rfl (vb h297)
   refine st_skip hs rfl rfl rfl rfl rfl fun a hs => ?_
   refine st_skip hs rfl rfl rfl rfl rfl fun a hs => ?_
   refine st_skip hs rfl rfl rfl rfl rfl fun a hs => ?_
   refine st_skip hs rfl rfl rfl rfl rfl fun a hs => ?_
   refine st_skip hs rfl rfl rfl rfl rfl fun a hs => ?_
   refine sv hs (y_pickT rfl rfl) rfl fun a hs => ?_
   refine nl ?_
   exact ⟨rfl, (hs.fix 158 (.bool ((((((((rv235.2 != 0) || (rv247.2 != 0)) || (rv258.2 != 0)) || (rv269.2 != 0)) || (rv280.2 != 0)) || ((rv258.1.length : Int) != (rv235.1.length : Int))) || ((rv269.1.length : Int) != (rv235.1.length : Int))) || ((rv280.1.length : Int) != (rv235.1.length : Int)))) rfl (or_t h297)).weaken _ ⟨rfl, rfl, rfl, rfl, rfl, rfl, rfl, rfl, trivial⟩⟩
  have hs := hs.fix 152 (.bool false) rfl (vb h297)
  refine st_val hs (y_move rfl) ⟨_, rfl, rfl⟩ rfl rfl fun a hs => ?_
  refine st_val hs (y_len Try.runUnderlying41 rfl) ⟨_, rfl, rfl⟩ rfl rfl fun a hs => ?_
  refine st_val hs (y_move rfl) ⟨_, rfl, rfl⟩ rfl rfl fun a hs => ?_
  refine st_val hs (y_len Try.runUnderlying41 rfl) ⟨_, rfl, rfl⟩ rfl rfl fun a hs => ?_
  refine st_val hs (y_neq rfl rfl) ⟨_, rfl, rfl⟩ rfl rfl fun a hs => ?_
  refine sv hs (y_pickF rfl rfl) rfl fun a hs => ?_
  refine nl ?_
  exact ⟨rfl, (hs.fix 158 (.bool ((((((((rv235.2 != 0) || (rv247.2 != 0)) || (rv258.2 != 0)) || (rv269.2 != 0)) || (rv280.2 != 0)) || ((rv258.1.length : Int) != (rv235.1.length : Int))) || ((rv269.1.length : Int) != (rv235.1.length : Int))) || ((rv280.1.length : Int) != (rv235.1.length : Int)))) rfl (or_f h297)).weaken _ ⟨rfl, rfl, rfl, rfl, rfl, rfl, rfl, rfl, trivial⟩⟩
 rintro a w1 ⟨h1061, hs⟩
 subst h1061
 refine nl ?_
 refine wp_cond_split (hs.ev rfl) (fun h299 => ?_) (fun h299 => ?_)
 ·have hsh := ite_t hsh h299
  refine sr ?_
  refine av hs rfl rfl fun a hs => ?_
  refine nl ?_
  have hsh := oi hsh
  subst hsh
  refine wp_ret ?_
  refine then_ret ?_
  exact ret1 hs rfl (rv_tmp rfl) (hw.ret rfl)
 have hsh := ite_f hsh h299
 refine wp_skip ?_
 refine then_normal ?_
 refine sr ?_
 refine av hs rfl rfl fun a hs => ?_
 refine nl ?_
 refine wp_seq ?_
 refine sr ?_
 refine mv hs rfl rfl fun a hs => ?_
 refine sv hs (y_len Try.runUnderlying41 rfl) rfl fun a hs => ?_
 refine mv hs rfl rfl fun a hs => ?_
 refine nl ?_
 refine wp_block ?_
 have hw := hw.nilRow Pick 46
 refine wp_while (fun sv560 a w => ∃ (c731 : List Value) (p732 : Option Addr) (k733 : Nat) (Sv734 : Nat → Prop), Sl 226 [(11, .pointer (some ⟨b78, 0, none⟩)), (15, .int .i64 k110), (20, .slice p248 rv247.1.length k249), (22, .slice p259 rv258.1.length k260), (24, .slice p270 rv269.1.length k271), (26, .slice p281 rv280.1.length k282), (28, .slice p732 sv560.1.length k733), (159, .slice p236 rv235.1.length k237), (160, .int .i64 (rv235.1.length : Int)), (161, .int .i64 sv560.2)] a ∧ Wd ⟨w0, S0, []⟩ Sv734 [.box b78 [.int .i64 rv42.1.Detector.Short, .int .i64 rv42.1.Detector.Long, .int .i64 rv42.1.Detector.On, .int .i64 rv42.1.Detector.Off, .int .i64 rv42.1.Back, .int .i64 rv42.1.Level, .int .i64 (w64 n6)] 30, .row p248 rv247.1.length k249 c251 46 9, .row p259 rv258.1.length k260 c262 46 9, .row p270 rv269.1.length k271 c273 46 9, .row p281 rv280.1.length k282 c284 46 9, .row p732 sv560.1.length k733 c731 46 9, .row p236 rv235.1.length k237 c239 46 9] [RowA c251 rv247.1, RowA c262 rv258.1, RowA c273 rv269.1, RowA c284 rv280.1, RowA c731 sv560.1, RowA c239 rv235.1] w) (([] : List Pick), 0) hsh ⟨[], none, 0, Sv286, (hs.wk rfl), (hw.ft [9, 4, 3, 2, 1, 0, 5] [5, 4, 3, 1, 0, 6] (by decide) rfl rfl)⟩ ?_
 repeat clear hsh
 rintro sv560 a w tv819 ⟨c731, p732, k733, Sv734, hs, hw⟩ hsh hd818
 delta law23_PickerLevels_l3 at hsh
 refine sr ?_
 refine sv hs (y_lss rfl rfl) rfl fun a hs => ?_
 refine nl ?_
 refine wp_seq ?_
 refine wp_cond_split (hs.ev rfl) (fun h823 => ?_) (fun h823 => ?_)
 ·have hsh := ite_t hsh h823
  refine wp_skip ?_
  refine then_normal ?_
  refine wp_seq ?_
  refine wp_block ?_
  refine sr ?_
  refine mv hs rfl rfl fun a hs => ?_
  obtain ⟨x908, h906, hsh⟩ := bind_t hsh
  obtain ⟨b915, q912, c913, h916, h909, h910, h914, h907⟩ := hw.elemRV (α := Pick) 6 rfl 5 rfl h906
  have hsv917 := hs
  have hwv918 := hw
  subst h916
  have hs := hsv917
  have hw := hwv918
  obtain ⟨_, _, _, _, _, _, _, _, _, rfl, rfl, rfl, rfl, rfl, rfl, rfl, rfl, rfl, rfl⟩ := h907
  refine sv hs (y_indexAt Try.runUnderlying41 Try.sizeOf46 rfl rfl h909.1 h909.2 h910) rfl fun a hs => ?_
  refine sv hs (y_loadQA (j := 0) (hw.ownAt 6 rfl) rfl Try.isAgg46 Try.sizeOf46 h914 rfl rfl) rfl fun a hs => ?_
  refine w_alloc (cs := [.string ByteArray.empty, .string ByteArray.empty, .string ByteArray.empty, .string ByteArray.empty, .int .i64 0, .int .i64 0, .int .i64 0, .int .i64 0, .int .i64 0]) hs hw Try.zeroValue46 rfl rfl trivial ?_
  intro b919 a w hs hw
  refine av hs rfl rfl fun a hs => ?_
  refine w_store (m := 9) (cs' := [.string x908.Source.Network, .string x908.Source.Station, .string x908.Source.Location, .string x908.Source.Channel, .int .i64 x908.Time, .int .i64 x908.Early, .int .i64 x908.Late, .int .i64 x908.Amplitude, .int .i64 x908.Polarity]) hs hw 0 rfl rfl rfl Try.sizeOf46 rfl rfl rfl rfl trivial ?_
  intro a w hs hw
  refine nl ?_
  refine wp_seq ?_
  refine sr ?_
  refine sv hs (y_fieldAddr (o' := 7) Try.runUnderlying46 rfl Try.sizeOf3 rfl rfl rfl) rfl fun a hs => ?_
  refine sv hs (y_loadB1 (hw.ownAt 0 rfl) rfl Try.isAgg3 rfl) rfl fun a hs => ?_
  refine sv hs (y_fieldAddr (o' := 6) Try.runUnderlying30 rfl Try.sizeOf3 rfl rfl rfl) rfl fun a hs => ?_
  refine sv hs (y_loadB1 (hw.ownAt 1 rfl) rfl Try.isAgg3 rfl) rfl fun a hs => ?_
  refine sv hs (y_geq rfl rfl) rfl fun a hs => ?_
  refine nl ?_
  refine wp_join (fun a w => ∃ (kept932 : (List Pick)) (c928 : List Value) (p929 : Option Addr) (k930 : Nat) (Sv931 : Nat → Prop), law23_PickerLevels_j2 k110 rv258 rv269 rv280 sv560 x908 kept932 = some tv819 ∧ Sl 226 [(11, .pointer (some ⟨b78, 0, none⟩)), (15, .int .i64 k110), (20, .slice p248 rv247.1.length k249), (22, .slice p259 rv258.1.length k260), (24, .slice p270 rv269.1.length k271), (26, .slice p281 rv280.1.length k282), (28, .slice p929 kept932.length k930), (29, .int .i64 sv560.2), (30, .pointer (some ⟨b919, 0, none⟩)), (159, .slice (some ⟨b915, 0, none⟩) rv235.1.length k237), (160, .int .i64 (rv235.1.length : Int)), (161, .int .i64 sv560.2)] a ∧ Wd ⟨w0, S0, []⟩ Sv931 [.box b78 [.int .i64 rv42.1.Detector.Short, .int .i64 rv42.1.Detector.Long, .int .i64 rv42.1.Detector.On, .int .i64 rv42.1.Detector.Off, .int .i64 rv42.1.Back, .int .i64 rv42.1.Level, .int .i64 (w64 n6)] 30, .box b919 [.string x908.Source.Network, .string x908.Source.Station, .string x908.Source.Location, .string x908.Source.Channel, .int .i64 x908.Time, .int .i64 x908.Early, .int .i64 x908.Late, .int .i64 x908.Amplitude, .int .i64 x908.Polarity] 46, .row p248 rv247.1.length k249 c251 46 9, .row p259 rv258.1.length k260 c262 46 9, .row p270 rv269.1.length k271 c273 46 9, .row p281 rv280.1.length k282 c284 46 9, .row p929 kept932.length k930 c928 46 9, .row (some ⟨b915, 0, none⟩) rv235.1.length k237 c239 46 9] [RowA c251 rv247.1, RowA c262 rv258.1, RowA c273 rv269.1, RowA c284 rv280.1, RowA c928 kept932, RowA c239 rv235.1] w) ?_ ?_
  ·refine wp_cond_split (hs.ev rfl) (fun h1027 => ?_) (fun h1027 => ?_)
   ·have hsh := ite_t hsh h1027
    refine wp_region_lit ?_
    refine mv hs rfl rfl fun a hs => ?_
    refine sv hs (y_loadBA (hw.ownAt 0 rfl) rfl Try.isAgg46 Try.sizeOf46 rfl rfl) rfl fun a hs => ?_
    refine w_litSlice (α := Pick) (vs := [.agg #[.string x908.Source.Network, .string x908.Source.Station, .string x908.Source.Location, .string x908.Source.Channel, .int .i64 x908.Time, .int .i64 x908.Early, .int .i64 x908.Late, .int .i64 x908.Amplitude, .int .i64 x908.Polarity]]) (cs := [.string x908.Source.Network, .string x908.Source.Station, .string x908.Source.Location, .string x908.Source.Channel, .int .i64 x908.Time, .int .i64 x908.Early, .int .i64 x908.Late, .int .i64 x908.Amplitude, .int .i64 x908.Polarity]) (xs := ([x908] : List Pick)) hs hw El41 rfl rfl rfl rfl rfl rfl ⟨⟨_, _, _, _, _, _, _, _, _, rfl, rfl, rfl, rfl, rfl, rfl, rfl, rfl, rfl, rfl⟩, rfl⟩ rfl trivial rfl fun b1029 a w hs hw => ?_
    obtain ⟨l1031, h1030, hsh⟩ := bind_t hsh
    refine w_appendR (α := Pick) hs hw El41 7 rfl rfl rfl 5 rfl 0 rfl 0 rfl h1030 rfl trivial ?_
    intro p1032 k1033 c1034 a w hs hw
    refine av hs rfl rfl fun a hs => ?_
    refine nl ?_
    exact ⟨l1031, c1034, p1032, k1033, Sv734, hsh, (hs.wk rfl), (hw.ft [2, 1, 3, 4, 5, 6, 7, 8] [2, 3, 4, 5, 0, 7] (by decide) rfl rfl)⟩
   have hsh := ite_f hsh h1027
   refine wp_skip ?_
   refine then_normal ?_
   exact ⟨sv560.1, c731, p732, k733, Sv734, hsh, (hs.wk rfl), (hw.ft [1, 0, 2, 3, 4, 5, 6, 7] [0, 1, 2, 3, 4, 5] (by decide) rfl rfl)⟩
  rintro a w ⟨kept932, c928, p929, k930, Sv931, hsh, hs, hw⟩
  delta law23_PickerLevels_j2 at hsh
  refine then_normal ?_
  refine sr ?_
  refine mv hs rfl rfl fun a hs => ?_
  refine mv hs rfl rfl fun a hs => ?_
  obtain ⟨x935, h933, hsh⟩ := bind_t hsh
  obtain ⟨b942, q939, c940, h943, h936, h937, h941, h934⟩ := hw.elemRV (α := Pick) 5 rfl 3 rfl h933
  have hsv944 := hs
  have hwv945 := hw
  subst h943
  have hs := hsv944
  have hw := hwv945
  obtain ⟨_, _, _, _, _, _, _, _, _, rfl, rfl, rfl, rfl, rfl, rfl, rfl, rfl, rfl, rfl⟩ := h934
  refine sv hs (y_indexAt Try.runUnderlying41 Try.sizeOf46 rfl rfl h936.1 h936.2 h937) rfl fun a hs => ?_
  refine sv hs (y_loadQA (j := 0) (hw.ownAt 5 rfl) rfl Try.isAgg46 Try.sizeOf46 h941 rfl rfl) rfl fun a hs => ?_
  refine w_alloc (cs := [.string ByteArray.empty, .string ByteArray.empty, .string ByteArray.empty, .string ByteArray.empty, .int .i64 0, .int .i64 0, .int .i64 0, .int .i64 0, .int .i64 0]) hs hw Try.zeroValue46 rfl rfl trivial ?_
  intro b946 a w hs hw
  refine w_store (m := 9) (cs' := [.string x935.Source.Network, .string x935.Source.Station, .string x935.Source.Location, .string x935.Source.Channel, .int .i64 x935.Time, .int .i64 x935.Early, .int .i64 x935.Late, .int .i64 x935.Amplitude, .int .i64 x935.Polarity]) hs hw 0 rfl rfl rfl Try.sizeOf46 rfl rfl rfl rfl trivial ?_
  intro a w hs hw
  refine nl ?_
  refine sr ?_
  refine sv hs (y_fieldAddr (o' := 7) Try.runUnderlying46 rfl Try.sizeOf3 rfl rfl rfl) rfl fun a hs => ?_
  refine sv hs (y_loadB1 (hw.ownAt 0 rfl) rfl Try.isAgg3 rfl) rfl fun a hs => ?_
  refine mv hs rfl rfl fun a hs => ?_
  obtain ⟨quo948, h947, hsh⟩ := bind_t hsh
  refine sv hs (y_quoM rfl rfl h947) rfl fun a hs => ?_
  refine sv hs (y_fieldAddr (o' := 7) Try.runUnderlying46 rfl Try.sizeOf3 rfl rfl rfl) rfl fun a hs => ?_
  refine w_store (m := 1) (cs' := [.string x935.Source.Network, .string x935.Source.Station, .string x935.Source.Location, .string x935.Source.Channel, .int .i64 x935.Time, .int .i64 x935.Early, .int .i64 x935.Late, .int .i64 quo948, .int .i64 x935.Polarity]) hs hw 0 rfl rfl rfl Try.sizeOf3 rfl rfl rfl rfl trivial ?_
  intro a w hs hw
  refine nl ?_
  refine wp_seq ?_
  obtain ⟨x951, h949, hsh⟩ := bind_t hsh
  obtain ⟨b958, q955, c956, h959, h952, h953, h957, h950⟩ := hw.elemRV (α := Pick) 4 rfl 1 rfl h949
  have hsv960 := hs
  have hwv961 := hw
  subst h959
  have hs := hsv960
  have hw := hwv961
  obtain ⟨_, _, _, _, _, _, _, _, _, rfl, rfl, rfl, rfl, rfl, rfl, rfl, rfl, rfl, rfl⟩ := h950
  obtain ⟨c975, hc975, hsh⟩ := bind_t hsh
  obtain ⟨c985, hc985, hsh⟩ := bind_t hsh
  refine wp_only (fun a w => ∃ (Sv986 : Nat → Prop), Sl 226 [(11, .pointer (some ⟨b78, 0, none⟩)), (15, .int .i64 k110), (20, .slice p248 rv247.1.length k249), (22, .slice (some ⟨b958, 0, none⟩) rv258.1.length k260), (24, .slice p270 rv269.1.length k271), (26, .slice (some ⟨b942, 0, none⟩) rv280.1.length k282), (28, .slice p929 kept932.length k930), (159, .slice (some ⟨b915, 0, none⟩) rv235.1.length k237), (160, .int .i64 (rv235.1.length : Int)), (161, .int .i64 sv560.2), (218, .bool (c985 || (!(((x935.Source.Network == x908.Source.Network) && ((x935.Source.Station == x908.Source.Station) && ((x935.Source.Location == x908.Source.Location) && ((x935.Source.Channel == x908.Source.Channel) && true)))) && ((x935.Time == x908.Time) && ((x935.Early == x908.Early) && ((x935.Late == x908.Late) && ((quo948 == x908.Amplitude) && ((x935.Polarity == x908.Polarity) && true)))))))))] a ∧ Wd ⟨w0, S0, []⟩ Sv986 [.box b78 [.int .i64 rv42.1.Detector.Short, .int .i64 rv42.1.Detector.Long, .int .i64 rv42.1.Detector.On, .int .i64 rv42.1.Detector.Off, .int .i64 rv42.1.Back, .int .i64 rv42.1.Level, .int .i64 (w64 n6)] 30, .row p248 rv247.1.length k249 c251 46 9, .row (some ⟨b958, 0, none⟩) rv258.1.length k260 c262 46 9, .row p270 rv269.1.length k271 c273 46 9, .row (some ⟨b942, 0, none⟩) rv280.1.length k282 c284 46 9, .row p929 kept932.length k930 c928 46 9, .row (some ⟨b915, 0, none⟩) rv235.1.length k237 c239 46 9] [RowA c251 rv247.1, RowA c262 rv258.1, RowA c273 rv269.1, RowA c284 rv280.1, RowA c928 kept932, RowA c239 rv235.1] w) ?_ ?_
  ·rcases Bool.eq_false_or_eq_true (decide (x908.Time < x951.Time)) with h987 | h987
   ·have h988 := ite_t hc975 h987
    have h989 : c975 = true := (Option.some.inj h988).symm
    have h990 := ite_t hc985 h989
    have h991 : c985 = true := (Option.some.inj h990).symm
    refine h_b (C := Cls [.box b946 [.string x935.Source.Network, .string x935.Source.Station, .string x935.Source.Location, .string x935.Source.Channel, .int .i64 x935.Time, .int .i64 x935.Early, .int .i64 x935.Late, .int .i64 quo948, .int .i64 x935.Polarity] 46, .box b78 [.int .i64 rv42.1.Detector.Short, .int .i64 rv42.1.Detector.Long, .int .i64 rv42.1.Detector.On, .int .i64 rv42.1.Detector.Off, .int .i64 rv42.1.Back, .int .i64 rv42.1.Level, .int .i64 (w64 n6)] 30, .box b919 [.string x908.Source.Network, .string x908.Source.Station, .string x908.Source.Location, .string x908.Source.Channel, .int .i64 x908.Time, .int .i64 x908.Early, .int .i64 x908.Late, .int .i64 x908.Amplitude, .int .i64 x908.Polarity] 46, .row p248 rv247.1.length k249 c251 46 9, .row (some ⟨b958, 0, none⟩) rv258.1.length k260 c262 46 9, .row p270 rv269.1.length k271 c273 46 9, .row (some ⟨b942, 0, none⟩) rv280.1.length k282 c284 46 9, .row p929 kept932.length k930 c928 46 9, .row (some ⟨b915, 0, none⟩) rv235.1.length k237 c239 46 9] []) (by kernel_rfl) rfl (hw.drew.cs [0, 1, 2, 3, 4, 5, 6, 7, 8] [] rfl rfl) fun hC => ?_
    have hw := hw.drew
    refine gm hs 0 rfl rfl rfl hC fun a hs => ?_
    refine gm hs 1 rfl rfl rfl hC fun a hs => ?_
    refine gv hs 2 rfl rfl hC (fun w hC => y_indexAt Try.runUnderlying41 Try.sizeOf46 rfl rfl h952.1 h952.2 h953) fun a hs => ?_
    refine gv hs 3 rfl rfl hC (fun w hC => y_fieldAddr (o' := q955 + 4) Try.runUnderlying46 rfl Try.sizeOf3 rfl rfl rfl) fun a hs => ?_
    refine gv hs 4 rfl rfl hC (fun w hC => y_loadQ1 (j := 4) (hC.ownAt 4 rfl) rfl Try.isAgg3 h957 rfl) fun a hs => ?_
    refine gv hs 5 rfl rfl hC (fun w hC => y_fieldAddr (o' := 4) Try.runUnderlying46 rfl Try.sizeOf3 rfl rfl rfl) fun a hs => ?_
    refine gv hs 6 rfl rfl hC (fun w hC => y_loadB1 (hC.ownAt 2 rfl) rfl Try.isAgg3 rfl) fun a hs => ?_
    refine gv hs 7 rfl rfl hC (fun w hC => y_gtr rfl rfl) fun a hs => ?_
    refine gm hs 8 rfl rfl rfl hC fun a hs => ?_
    have hs := hs.fix 192 (.bool true) rfl (vb h987)
    refine gs hs 9 rfl rfl rfl rfl hC fun a hs => ?_
    refine gs hs 10 rfl rfl rfl rfl hC fun a hs => ?_
    refine gs hs 11 rfl rfl rfl rfl hC fun a hs => ?_
    refine gs hs 12 rfl rfl rfl rfl hC fun a hs => ?_
    refine gs hs 13 rfl rfl rfl rfl hC fun a hs => ?_
    refine gs hs 14 rfl rfl rfl rfl hC fun a hs => ?_
    refine gs hs 15 rfl rfl rfl rfl hC fun a hs => ?_
    refine gs hs 16 rfl rfl rfl rfl hC fun a hs => ?_
    refine gv hs 17 rfl rfl hC (fun w hC => y_pickTE (v := .bool c975) rfl rfl (vbs h988)) fun a hs => ?_
    refine gm hs 18 rfl rfl rfl hC fun a hs => ?_
    have hs := hs.fix 202 (.bool true) rfl (vb h989)
    refine gs hs 19 rfl rfl rfl rfl hC fun a hs => ?_
    refine gs hs 20 rfl rfl rfl rfl hC fun a hs => ?_
    refine gs hs 21 rfl rfl rfl rfl hC fun a hs => ?_
    refine gs hs 22 rfl rfl rfl rfl hC fun a hs => ?_
    refine gs hs 23 rfl rfl rfl rfl hC fun a hs => ?_
    refine gs hs 24 rfl rfl rfl rfl hC fun a hs => ?_
    refine gs hs 25 rfl rfl rfl rfl hC fun a hs => ?_
    refine gs hs 26 rfl rfl rfl rfl hC fun a hs => ?_
    refine gs hs 27 rfl rfl rfl rfl hC fun a hs => ?_
    refine gs hs 28 rfl rfl rfl rfl hC fun a hs => ?_
    refine gv hs 29 rfl rfl hC (fun w hC => y_pickTE (v := .bool c985) rfl rfl (vbs h990)) fun a hs => ?_
    refine gm hs 30 rfl rfl rfl hC fun a hs => ?_
    have hs := hs.fix 214 (.bool true) rfl (vb h991)
    refine gs hs 31 rfl rfl rfl rfl hC fun a hs => ?_
    refine gs hs 32 rfl rfl rfl rfl hC fun a hs => ?_
    refine gs hs 33 rfl rfl rfl rfl hC fun a hs => ?_
    refine gv hs 34 rfl rfl hC (fun w hC => y_pickTE (v := .bool (c985 || (!(((x935.Source.Network == x908.Source.Network) && ((x935.Source.Station == x908.Source.Station) && ((x935.Source.Location == x908.Source.Location) && ((x935.Source.Channel == x908.Source.Channel) && true)))) && ((x935.Time == x908.Time) && ((x935.Early == x908.Early) && ((x935.Late == x908.Late) && ((quo948 == x908.Amplitude) && ((x935.Polarity == x908.Polarity) && true))))))))) rfl rfl (or_t h991)) fun a hs => ?_
    refine h_done (by kernel_rfl) ?_
    exact ⟨Sv931, (hs.wk rfl), (hw.ft [1, 3, 4, 5, 6, 7, 8] [0, 1, 2, 3, 4, 5] (by decide) rfl rfl)⟩
   have h993 := ite_f hc975 h987
   obtain ⟨x996, h994, h993⟩ := bind_t h993
   obtain ⟨b1003, q1000, c1001, h1004, h997, h998, h1002, h995⟩ := hw.elemRV (α := Pick) 5 rfl 2 rfl h994
   have hsv1005 := hs
   have hwv1006 := hw
   subst h1004
   have hs := hsv1005
   have hw := hwv1006
   obtain ⟨_, _, _, _, _, _, _, _, _, rfl, rfl, rfl, rfl, rfl, rfl, rfl, rfl, rfl, rfl⟩ := h995
   rcases Bool.eq_false_or_eq_true c975 with h1007 | h1007
   ·have h1008 := ite_t hc985 h1007
    have h1009 : c985 = true := (Option.some.inj h1008).symm
    refine h_b (C := Cls [.box b946 [.string x935.Source.Network, .string x935.Source.Station, .string x935.Source.Location, .string x935.Source.Channel, .int .i64 x935.Time, .int .i64 x935.Early, .int .i64 x935.Late, .int .i64 quo948, .int .i64 x935.Polarity] 46, .box b78 [.int .i64 rv42.1.Detector.Short, .int .i64 rv42.1.Detector.Long, .int .i64 rv42.1.Detector.On, .int .i64 rv42.1.Detector.Off, .int .i64 rv42.1.Back, .int .i64 rv42.1.Level, .int .i64 (w64 n6)] 30, .box b919 [.string x908.Source.Network, .string x908.Source.Station, .string x908.Source.Location, .string x908.Source.Channel, .int .i64 x908.Time, .int .i64 x908.Early, .int .i64 x908.Late, .int .i64 x908.Amplitude, .int .i64 x908.Polarity] 46, .row p248 rv247.1.length k249 c251 46 9, .row (some ⟨b958, 0, none⟩) rv258.1.length k260 c262 46 9, .row (some ⟨b1003, 0, none⟩) rv269.1.length k271 c273 46 9, .row (some ⟨b942, 0, none⟩) rv280.1.length k282 c284 46 9, .row p929 kept932.length k930 c928 46 9, .row (some ⟨b915, 0, none⟩) rv235.1.length k237 c239 46 9] []) (by kernel_rfl) rfl (hw.drew.cs [0, 1, 2, 3, 4, 5, 6, 7, 8] [] rfl rfl) fun hC => ?_
    have hw := hw.drew
    refine gm hs 0 rfl rfl rfl hC fun a hs => ?_
    refine gm hs 1 rfl rfl rfl hC fun a hs => ?_
    refine gv hs 2 rfl rfl hC (fun w hC => y_indexAt Try.runUnderlying41 Try.sizeOf46 rfl rfl h952.1 h952.2 h953) fun a hs => ?_
    refine gv hs 3 rfl rfl hC (fun w hC => y_fieldAddr (o' := q955 + 4) Try.runUnderlying46 rfl Try.sizeOf3 rfl rfl rfl) fun a hs => ?_
    refine gv hs 4 rfl rfl hC (fun w hC => y_loadQ1 (j := 4) (hC.ownAt 4 rfl) rfl Try.isAgg3 h957 rfl) fun a hs => ?_
    refine gv hs 5 rfl rfl hC (fun w hC => y_fieldAddr (o' := 4) Try.runUnderlying46 rfl Try.sizeOf3 rfl rfl rfl) fun a hs => ?_
    refine gv hs 6 rfl rfl hC (fun w hC => y_loadB1 (hC.ownAt 2 rfl) rfl Try.isAgg3 rfl) fun a hs => ?_
    refine gv hs 7 rfl rfl hC (fun w hC => y_gtr rfl rfl) fun a hs => ?_
    refine gm hs 8 rfl rfl rfl hC fun a hs => ?_
    have hs := hs.fix 192 (.bool false) rfl (vb h987)
    refine gt hs 9 rfl ⟨_, rfl, rfl⟩ rfl hC (fun w hC => y_move rfl) fun a hs => ?_
    refine gt hs 10 rfl ⟨_, rfl, rfl⟩ rfl hC (fun w hC => y_move rfl) fun a hs => ?_
    refine gt hs 11 rfl ⟨_, rfl, rfl⟩ rfl hC (fun w hC => y_indexAt Try.runUnderlying41 Try.sizeOf46 rfl rfl h997.1 h997.2 h998) fun a hs => ?_
    refine gt hs 12 rfl ⟨_, rfl, rfl⟩ rfl hC (fun w hC => y_fieldAddr (o' := q1000 + 4) Try.runUnderlying46 rfl Try.sizeOf3 rfl rfl rfl) fun a hs => ?_
    refine gt hs 13 rfl ⟨_, rfl, rfl⟩ rfl hC (fun w hC => y_loadQ1 (j := 4) (hC.ownAt 5 rfl) rfl Try.isAgg3 h1002 rfl) fun a hs => ?_
    refine gt hs 14 rfl ⟨_, rfl, rfl⟩ rfl hC (fun w hC => y_fieldAddr (o' := 4) Try.runUnderlying46 rfl Try.sizeOf3 rfl rfl rfl) fun a hs => ?_
    refine gt hs 15 rfl ⟨_, rfl, rfl⟩ rfl hC (fun w hC => y_loadB1 (hC.ownAt 2 rfl) rfl Try.isAgg3 rfl) fun a hs => ?_
    refine gt hs 16 rfl ⟨_, rfl, rfl⟩ rfl hC (fun w hC => y_gtr rfl rfl) fun a hs => ?_
    refine gv hs 17 rfl rfl hC (fun w hC => y_pickFE (v := .bool c975) rfl rfl (vbs h993)) fun a hs => ?_
    refine gm hs 18 rfl rfl rfl hC fun a hs => ?_
    have hs := hs.fix 202 (.bool true) rfl (vb h1007)
    refine gs hs 19 rfl rfl rfl rfl hC fun a hs => ?_
    refine gs hs 20 rfl rfl rfl rfl hC fun a hs => ?_
    refine gs hs 21 rfl rfl rfl rfl hC fun a hs => ?_
    refine gs hs 22 rfl rfl rfl rfl hC fun a hs => ?_
    refine gs hs 23 rfl rfl rfl rfl hC fun a hs => ?_
    refine gs hs 24 rfl rfl rfl rfl hC fun a hs => ?_
    refine gs hs 25 rfl rfl rfl rfl hC fun a hs => ?_
    refine gs hs 26 rfl rfl rfl rfl hC fun a hs => ?_
    refine gs hs 27 rfl rfl rfl rfl hC fun a hs => ?_
    refine gs hs 28 rfl rfl rfl rfl hC fun a hs => ?_
    refine gv hs 29 rfl rfl hC (fun w hC => y_pickTE (v := .bool c985) rfl rfl (vbs h1008)) fun a hs => ?_
    refine gm hs 30 rfl rfl rfl hC fun a hs => ?_
    have hs := hs.fix 214 (.bool true) rfl (vb h1009)
    refine gs hs 31 rfl rfl rfl rfl hC fun a hs => ?_
    refine gs hs 32 rfl rfl rfl rfl hC fun a hs => ?_
    refine gs hs 33 rfl rfl rfl rfl hC fun a hs => ?_
    refine gv hs 34 rfl rfl hC (fun w hC => y_pickTE (v := .bool (c985 || (!(((x935.Source.Network == x908.Source.Network) && ((x935.Source.Station == x908.Source.Station) && ((x935.Source.Location == x908.Source.Location) && ((x935.Source.Channel == x908.Source.Channel) && true)))) && ((x935.Time == x908.Time) && ((x935.Early == x908.Early) && ((x935.Late == x908.Late) && ((quo948 == x908.Amplitude) && ((x935.Polarity == x908.Polarity) && true))))))))) rfl rfl (or_t h1009)) fun a hs => ?_
    refine h_done (by kernel_rfl) ?_
    exact ⟨Sv931, (hs.wk rfl), (hw.ft [1, 3, 4, 5, 6, 7, 8] [0, 1, 2, 3, 4, 5] (by decide) rfl rfl)⟩
   have h1011 := ite_f hc985 h1007
   obtain ⟨x1014, h1012, h1011⟩ := bind_t h1011
   obtain ⟨q1018, c1019, h1015, h1016, h1020, h1013⟩ := hw.elemRK (α := Pick) 6 rfl 3 rfl h1012
   obtain ⟨_, _, _, _, _, _, _, _, _, rfl, rfl, rfl, rfl, rfl, rfl, rfl, rfl, rfl, rfl⟩ := h1013
   rcases Bool.eq_false_or_eq_true c985 with h1021 | h1021
   ·refine h_b (C := Cls [.box b946 [.string x935.Source.Network, .string x935.Source.Station, .string x935.Source.Location, .string x935.Source.Channel, .int .i64 x935.Time, .int .i64 x935.Early, .int .i64 x935.Late, .int .i64 quo948, .int .i64 x935.Polarity] 46, .box b78 [.int .i64 rv42.1.Detector.Short, .int .i64 rv42.1.Detector.Long, .int .i64 rv42.1.Detector.On, .int .i64 rv42.1.Detector.Off, .int .i64 rv42.1.Back, .int .i64 rv42.1.Level, .int .i64 (w64 n6)] 30, .box b919 [.string x908.Source.Network, .string x908.Source.Station, .string x908.Source.Location, .string x908.Source.Channel, .int .i64 x908.Time, .int .i64 x908.Early, .int .i64 x908.Late, .int .i64 x908.Amplitude, .int .i64 x908.Polarity] 46, .row p248 rv247.1.length k249 c251 46 9, .row (some ⟨b958, 0, none⟩) rv258.1.length k260 c262 46 9, .row (some ⟨b1003, 0, none⟩) rv269.1.length k271 c273 46 9, .row (some ⟨b942, 0, none⟩) rv280.1.length k282 c284 46 9, .row p929 kept932.length k930 c928 46 9, .row (some ⟨b915, 0, none⟩) rv235.1.length k237 c239 46 9] []) (by kernel_rfl) rfl (hw.drew.cs [0, 1, 2, 3, 4, 5, 6, 7, 8] [] rfl rfl) fun hC => ?_
    have hw := hw.drew
    refine gm hs 0 rfl rfl rfl hC fun a hs => ?_
    refine gm hs 1 rfl rfl rfl hC fun a hs => ?_
    refine gv hs 2 rfl rfl hC (fun w hC => y_indexAt Try.runUnderlying41 Try.sizeOf46 rfl rfl h952.1 h952.2 h953) fun a hs => ?_
    refine gv hs 3 rfl rfl hC (fun w hC => y_fieldAddr (o' := q955 + 4) Try.runUnderlying46 rfl Try.sizeOf3 rfl rfl rfl) fun a hs => ?_
    refine gv hs 4 rfl rfl hC (fun w hC => y_loadQ1 (j := 4) (hC.ownAt 4 rfl) rfl Try.isAgg3 h957 rfl) fun a hs => ?_
    refine gv hs 5 rfl rfl hC (fun w hC => y_fieldAddr (o' := 4) Try.runUnderlying46 rfl Try.sizeOf3 rfl rfl rfl) fun a hs => ?_
    refine gv hs 6 rfl rfl hC (fun w hC => y_loadB1 (hC.ownAt 2 rfl) rfl Try.isAgg3 rfl) fun a hs => ?_
    refine gv hs 7 rfl rfl hC (fun w hC => y_gtr rfl rfl) fun a hs => ?_
    refine gm hs 8 rfl rfl rfl hC fun a hs => ?_
    have hs := hs.fix 192 (.bool false) rfl (vb h987)
    refine gt hs 9 rfl ⟨_, rfl, rfl⟩ rfl hC (fun w hC => y_move rfl) fun a hs => ?_
    refine gt hs 10 rfl ⟨_, rfl, rfl⟩ rfl hC (fun w hC => y_move rfl) fun a hs => ?_
    refine gt hs 11 rfl ⟨_, rfl, rfl⟩ rfl hC (fun w hC => y_indexAt Try.runUnderlying41 Try.sizeOf46 rfl rfl h997.1 h997.2 h998) fun a hs => ?_
    refine gt hs 12 rfl ⟨_, rfl, rfl⟩ rfl hC (fun w hC => y_fieldAddr (o' := q1000 + 4) Try.runUnderlying46 rfl Try.sizeOf3 rfl rfl rfl) fun a hs => ?_
    refine gt hs 13 rfl ⟨_, rfl, rfl⟩ rfl hC (fun w hC => y_loadQ1 (j := 4) (hC.ownAt 5 rfl) rfl Try.isAgg3 h1002 rfl) fun a hs => ?_
    refine gt hs 14 rfl ⟨_, rfl, rfl⟩ rfl hC (fun w hC => y_fieldAddr (o' := 4) Try.runUnderlying46 rfl Try.sizeOf3 rfl rfl rfl) fun a hs => ?_
    refine gt hs 15 rfl ⟨_, rfl, rfl⟩ rfl hC (fun w hC => y_loadB1 (hC.ownAt 2 rfl) rfl Try.isAgg3 rfl) fun a hs => ?_
    refine gt hs 16 rfl ⟨_, rfl, rfl⟩ rfl hC (fun w hC => y_gtr rfl rfl) fun a hs => ?_
    refine gv hs 17 rfl rfl hC (fun w hC => y_pickFE (v := .bool c975) rfl rfl (vbs h993)) fun a hs => ?_
    refine gm hs 18 rfl rfl rfl hC fun a hs => ?_
    have hs := hs.fix 202 (.bool false) rfl (vb h1007)
    refine gt hs 19 rfl ⟨_, rfl, rfl⟩ rfl hC (fun w hC => y_move rfl) fun a hs => ?_
    refine gt hs 20 rfl ⟨_, rfl, rfl⟩ rfl hC (fun w hC => y_move rfl) fun a hs => ?_
    refine gt hs 21 rfl ⟨_, rfl, rfl⟩ rfl hC (fun w hC => y_indexAt Try.runUnderlying41 Try.sizeOf46 rfl rfl h1015.1 h1015.2 h1016) fun a hs => ?_
    refine gt hs 22 rfl ⟨_, rfl, rfl⟩ rfl hC (fun w hC => y_fieldAddr (o' := q1018 + 7) Try.runUnderlying46 rfl Try.sizeOf3 rfl rfl rfl) fun a hs => ?_
    refine gt hs 23 rfl ⟨_, rfl, rfl⟩ rfl hC (fun w hC => y_loadQ1 (j := 7) (hC.ownAt 6 rfl) rfl Try.isAgg3 h1020 rfl) fun a hs => ?_
    refine gt hs 24 rfl ⟨_, rfl, rfl⟩ rfl hC (fun w hC => y_fieldAddr (o' := 7) Try.runUnderlying46 rfl Try.sizeOf3 rfl rfl rfl) fun a hs => ?_
    refine gt hs 25 rfl ⟨_, rfl, rfl⟩ rfl hC (fun w hC => y_loadB1 (hC.ownAt 2 rfl) rfl Try.isAgg3 rfl) fun a hs => ?_
    refine gt hs 26 rfl ⟨_, rfl, rfl⟩ rfl hC (fun w hC => y_move rfl) fun a hs => ?_
    refine gt hs 27 rfl ⟨_, rfl, rfl⟩ rfl hC (fun w hC => y_mul rfl rfl) fun a hs => ?_
    refine gt hs 28 rfl ⟨_, rfl, rfl⟩ rfl hC (fun w hC => y_neq rfl rfl) fun a hs => ?_
    refine gv hs 29 rfl rfl hC (fun w hC => y_pickFE (v := .bool c985) rfl rfl (vbs h1011)) fun a hs => ?_
    refine gm hs 30 rfl rfl rfl hC fun a hs => ?_
    have hs := hs.fix 214 (.bool true) rfl (vb h1021)
    refine gs hs 31 rfl rfl rfl rfl hC fun a hs => ?_
    refine gs hs 32 rfl rfl rfl rfl hC fun a hs => ?_
    refine gs hs 33 rfl rfl rfl rfl hC fun a hs => ?_
    refine gv hs 34 rfl rfl hC (fun w hC => y_pickTE (v := .bool (c985 || (!(((x935.Source.Network == x908.Source.Network) && ((x935.Source.Station == x908.Source.Station) && ((x935.Source.Location == x908.Source.Location) && ((x935.Source.Channel == x908.Source.Channel) && true)))) && ((x935.Time == x908.Time) && ((x935.Early == x908.Early) && ((x935.Late == x908.Late) && ((quo948 == x908.Amplitude) && ((x935.Polarity == x908.Polarity) && true))))))))) rfl rfl (or_t h1021)) fun a hs => ?_
    refine h_done (by kernel_rfl) ?_
    exact ⟨Sv931, (hs.wk rfl), (hw.ft [1, 3, 4, 5, 6, 7, 8] [0, 1, 2, 3, 4, 5] (by decide) rfl rfl)⟩
   refine h_b (C := Cls [.box b946 [.string x935.Source.Network, .string x935.Source.Station, .string x935.Source.Location, .string x935.Source.Channel, .int .i64 x935.Time, .int .i64 x935.Early, .int .i64 x935.Late, .int .i64 quo948, .int .i64 x935.Polarity] 46, .box b78 [.int .i64 rv42.1.Detector.Short, .int .i64 rv42.1.Detector.Long, .int .i64 rv42.1.Detector.On, .int .i64 rv42.1.Detector.Off, .int .i64 rv42.1.Back, .int .i64 rv42.1.Level, .int .i64 (w64 n6)] 30, .box b919 [.string x908.Source.Network, .string x908.Source.Station, .string x908.Source.Location, .string x908.Source.Channel, .int .i64 x908.Time, .int .i64 x908.Early, .int .i64 x908.Late, .int .i64 x908.Amplitude, .int .i64 x908.Polarity] 46, .row p248 rv247.1.length k249 c251 46 9, .row (some ⟨b958, 0, none⟩) rv258.1.length k260 c262 46 9, .row (some ⟨b1003, 0, none⟩) rv269.1.length k271 c273 46 9, .row (some ⟨b942, 0, none⟩) rv280.1.length k282 c284 46 9, .row p929 kept932.length k930 c928 46 9, .row (some ⟨b915, 0, none⟩) rv235.1.length k237 c239 46 9] []) (by kernel_rfl) rfl (hw.drew.cs [0, 1, 2, 3, 4, 5, 6, 7, 8] [] rfl rfl) fun hC => ?_
   have hw := hw.drew
   refine gm hs 0 rfl rfl rfl hC fun a hs => ?_
   refine gm hs 1 rfl rfl rfl hC fun a hs => ?_
   refine gv hs 2 rfl rfl hC (fun w hC => y_indexAt Try.runUnderlying41 Try.sizeOf46 rfl rfl h952.1 h952.2 h953) fun a hs => ?_
   refine gv hs 3 rfl rfl hC (fun w hC => y_fieldAddr (o' := q955 + 4) Try.runUnderlying46 rfl Try.sizeOf3 rfl rfl rfl) fun a hs => ?_
   refine gv hs 4 rfl rfl hC (fun w hC => y_loadQ1 (j := 4) (hC.ownAt 4 rfl) rfl Try.isAgg3 h957 rfl) fun a hs => ?_
   refine gv hs 5 rfl rfl hC (fun w hC => y_fieldAddr (o' := 4) Try.runUnderlying46 rfl Try.sizeOf3 rfl rfl rfl) fun a hs => ?_
   refine gv hs 6 rfl rfl hC (fun w hC => y_loadB1 (hC.ownAt 2 rfl) rfl Try.isAgg3 rfl) fun a hs => ?_
   refine gv hs 7 rfl rfl hC (fun w hC => y_gtr rfl rfl) fun a hs => ?_
   refine gm hs 8 rfl rfl rfl hC fun a hs => ?_
   have hs := hs.fix 192 (.bool false) rfl (vb h987)
   refine gt hs 9 rfl ⟨_, rfl, rfl⟩ rfl hC (fun w hC => y_move rfl) fun a hs => ?_
   refine gt hs 10 rfl ⟨_, rfl, rfl⟩ rfl hC (fun w hC => y_move rfl) fun a hs => ?_
   refine gt hs 11 rfl ⟨_, rfl, rfl⟩ rfl hC (fun w hC => y_indexAt Try.runUnderlying41 Try.sizeOf46 rfl rfl h997.1 h997.2 h998) fun a hs => ?_
   refine gt hs 12 rfl ⟨_, rfl, rfl⟩ rfl hC (fun w hC => y_fieldAddr (o' := q1000 + 4) Try.runUnderlying46 rfl Try.sizeOf3 rfl rfl rfl) fun a hs => ?_
   refine gt hs 13 rfl ⟨_, rfl, rfl⟩ rfl hC (fun w hC => y_loadQ1 (j := 4) (hC.ownAt 5 rfl) rfl Try.isAgg3 h1002 rfl) fun a hs => ?_
   refine gt hs 14 rfl ⟨_, rfl, rfl⟩ rfl hC (fun w hC => y_fieldAddr (o' := 4) Try.runUnderlying46 rfl Try.sizeOf3 rfl rfl rfl) fun a hs => ?_
   refine gt hs 15 rfl ⟨_, rfl, rfl⟩ rfl hC (fun w hC => y_loadB1 (hC.ownAt 2 rfl) rfl Try.isAgg3 rfl) fun a hs => ?_
   refine gt hs 16 rfl ⟨_, rfl, rfl⟩ rfl hC (fun w hC => y_gtr rfl rfl) fun a hs => ?_
   refine gv hs 17 rfl rfl hC (fun w hC => y_pickFE (v := .bool c975) rfl rfl (vbs h993)) fun a hs => ?_
   refine gm hs 18 rfl rfl rfl hC fun a hs => ?_
   have hs := hs.fix 202 (.bool false) rfl (vb h1007)
   refine gt hs 19 rfl ⟨_, rfl, rfl⟩ rfl hC (fun w hC => y_move rfl) fun a hs => ?_
   refine gt hs 20 rfl ⟨_, rfl, rfl⟩ rfl hC (fun w hC => y_move rfl) fun a hs => ?_
   refine gt hs 21 rfl ⟨_, rfl, rfl⟩ rfl hC (fun w hC => y_indexAt Try.runUnderlying41 Try.sizeOf46 rfl rfl h1015.1 h1015.2 h1016) fun a hs => ?_
   refine gt hs 22 rfl ⟨_, rfl, rfl⟩ rfl hC (fun w hC => y_fieldAddr (o' := q1018 + 7) Try.runUnderlying46 rfl Try.sizeOf3 rfl rfl rfl) fun a hs => ?_
   refine gt hs 23 rfl ⟨_, rfl, rfl⟩ rfl hC (fun w hC => y_loadQ1 (j := 7) (hC.ownAt 6 rfl) rfl Try.isAgg3 h1020 rfl) fun a hs => ?_
   refine gt hs 24 rfl ⟨_, rfl, rfl⟩ rfl hC (fun w hC => y_fieldAddr (o' := 7) Try.runUnderlying46 rfl Try.sizeOf3 rfl rfl rfl) fun a hs => ?_
   refine gt hs 25 rfl ⟨_, rfl, rfl⟩ rfl hC (fun w hC => y_loadB1 (hC.ownAt 2 rfl) rfl Try.isAgg3 rfl) fun a hs => ?_
   refine gt hs 26 rfl ⟨_, rfl, rfl⟩ rfl hC (fun w hC => y_move rfl) fun a hs => ?_
   refine gt hs 27 rfl ⟨_, rfl, rfl⟩ rfl hC (fun w hC => y_mul rfl rfl) fun a hs => ?_
   refine gt hs 28 rfl ⟨_, rfl, rfl⟩ rfl hC (fun w hC => y_neq rfl rfl) fun a hs => ?_
   refine gv hs 29 rfl rfl hC (fun w hC => y_pickFE (v := .bool c985) rfl rfl (vbs h1011)) fun a hs => ?_
   refine gm hs 30 rfl rfl rfl hC fun a hs => ?_
   have hs := hs.fix 214 (.bool false) rfl (vb h1021)
   refine gt hs 31 rfl ⟨_, rfl, rfl⟩ rfl hC (fun w hC => y_loadBA (hC.ownAt 0 rfl) rfl Try.isAgg46 Try.sizeOf46 rfl rfl) fun a hs => ?_
   refine gt hs 32 rfl ⟨_, rfl, rfl⟩ rfl hC (fun w hC => y_loadBA (hC.ownAt 2 rfl) rfl Try.isAgg46 Try.sizeOf46 rfl rfl) fun a hs => ?_
   refine gt hs 33 rfl ⟨_, rfl, rfl⟩ rfl hC (fun w hC => y_neqA (by kernel_rfl) rfl rfl (eqv_struct Try.runUnderlying46 (by kernel_rfl) (EqF.consA rfl Try.isAgg33 Try.sizeOf33 rfl rfl (eqv_struct Try.runUnderlying33 (by kernel_rfl) (EqF.cons1 rfl Try.isAgg9 rfl rfl (eqv_str Try.runUnderlying9) (EqF.cons1 rfl Try.isAgg9 rfl rfl (eqv_str Try.runUnderlying9) (EqF.cons1 rfl Try.isAgg9 rfl rfl (eqv_str Try.runUnderlying9) (EqF.cons1 rfl Try.isAgg9 rfl rfl (eqv_str Try.runUnderlying9) EqF.nil))))) (EqF.cons1 rfl Try.isAgg3 rfl rfl (eqv_int Try.runUnderlying3) (EqF.cons1 rfl Try.isAgg3 rfl rfl (eqv_int Try.runUnderlying3) (EqF.cons1 rfl Try.isAgg3 rfl rfl (eqv_int Try.runUnderlying3) (EqF.cons1 rfl Try.isAgg3 rfl rfl (eqv_int Try.runUnderlying3) (EqF.cons1 rfl Try.isAgg3 rfl rfl (eqv_int Try.runUnderlying3) EqF.nil)))))))) fun a hs => ?_
   refine gv hs 34 rfl rfl hC (fun w hC => y_pickFE (v := .bool (c985 || (!(((x935.Source.Network == x908.Source.Network) && ((x935.Source.Station == x908.Source.Station) && ((x935.Source.Location == x908.Source.Location) && ((x935.Source.Channel == x908.Source.Channel) && true)))) && ((x935.Time == x908.Time) && ((x935.Early == x908.Early) && ((x935.Late == x908.Late) && ((quo948 == x908.Amplitude) && ((x935.Polarity == x908.Polarity) && true))))))))) rfl rfl (or_f h1021)) fun a hs => ?_
   refine h_done (by kernel_rfl) ?_
   exact ⟨Sv931, (hs.wk rfl), (hw.ft [1, 3, 4, 5, 6, 7, 8] [0, 1, 2, 3, 4, 5] (by decide) rfl rfl)⟩
  rintro a w ⟨Sv986, hs, hw⟩
  refine then_normal ?_
  refine wp_cond_split (hs.ev rfl) (fun h1025 => ?_) (fun h1025 => ?_)
  ·have hsh := ite_t hsh h1025
   refine sr ?_
   refine av hs rfl rfl fun a hs => ?_
   refine nl ?_
   have hsh := oi hsh
   subst hsh
   have h1026 := hd818 _ rfl
   subst h1026
   refine wp_ret ?_
   refine blk_ret ?_
   refine then_ret ?_
   refine then_ret ?_
   refine blk_ret ?_
   refine then_ret ?_
   exact ret1 hs rfl (rv_tmp rfl) (hw.ret rfl)
  have hsh := ite_f hsh h1025
  refine wp_skip ?_
  refine blk_normal ?_
  refine then_normal ?_
  refine wp_region_lit ?_
  refine sv hs (y_add rfl rfl) rfl fun a hs => ?_
  refine mv hs rfl rfl fun a hs => ?_
  refine nl ?_
  exact ⟨_, (Option.some.inj hsh).symm, c928, p929, k930, Sv986, (hs.wk rfl), (hw.ft [0, 1, 2, 3, 4, 5, 6] [0, 1, 2, 3, 4, 5] (by decide) rfl rfl)⟩
 have hsh := ite_f hsh h823
 obtain ⟨rv1059, hsh, h1060⟩ := map_t hsh
 have h1060 := (hd818 _ h1060.symm).symm
 subst h1060
 refine wp_exit ?_
 refine then_exit ?_
 refine then_exit ?_
 refine blk_exit ?_
 refine then_normal ?_
 refine sr ?_
 refine mv hs rfl rfl fun a hs => ?_
 refine mv hs rfl rfl fun a hs => ?_
 obtain ⟨rv1036, h1035, hsh⟩ := bind_t hsh
 refine st_callR hs (ref23_Same_ok h1035 hw.bdom (hw.bRow 1 rfl 0 rfl) (hw.bRow 5 rfl 4 rfl)) (do_call Try.call15 rfl) trivial rfl rfl ?_
 intro v1040 Sv1037 w a h1038 h1039 hs
 subst h1039
 have hw := hw.callB h1038
 refine mv hs rfl rfl fun a hs => ?_
 obtain ⟨c1050, hc1050, hsh⟩ := bind_t hsh
 refine wpl_join 2 (fun a w => ∃ (Sv1051 : Nat → Prop), Sl 226 [(225, .bool c1050)] a ∧ Wd ⟨w0, S0, []⟩ Sv1051 [] [] w) ?_ ?_
 ·rcases Bool.eq_false_or_eq_true rv1036 with h1049 | h1049
  ·have hs := hs.fix 223 (.bool true) rfl (vb h1049)
   have hsh := ite_t hc1050 h1049
   obtain ⟨rv1053, h1052, hsh⟩ := bind_t hsh
   refine st_callR hs (law23_sane_ok h1052 hw.bdom) (do_call Try.call8 rfl) ⟨_, rfl, rfl⟩ rfl rfl ?_
   intro v1057 Sv1054 w a h1055 h1056 hs
   subst h1056
   have hw := hw.callB h1055
   refine sv hs (y_pickT rfl rfl) rfl fun a hs => ?_
   refine wpList_nil ?_
   have hsh := oi hsh
   subst hsh
   refine then_normal ?_
   exact ⟨Sv734, (hs.wk rfl), (hw.ft [] [] (by decide) rfl rfl)⟩
  have hs := hs.fix 223 (.bool false) rfl (vb h1049)
  have hsh := ite_f hc1050 h1049
  refine st_skip hs rfl rfl rfl rfl rfl fun a hs => ?_
  refine sv hs (y_pickF rfl rfl) rfl fun a hs => ?_
  refine wpList_nil ?_
  have hsh := oi hsh
  subst hsh
  refine then_normal ?_
  exact ⟨Sv734, (hs.wk rfl), (hw.ft [] [] (by decide) rfl rfl)⟩
 rintro a w ⟨Sv1051, hs, hw⟩
 refine av hs rfl rfl fun a hs => ?_
 refine nl ?_
 have hsh := oi hsh
 subst hsh
 refine wp_ret ?_
 exact ret1 hs rfl (rv_tmp rfl) (hw.ret rfl)

end Go.Proofs.Ytmlekplbmfengaa.Wk

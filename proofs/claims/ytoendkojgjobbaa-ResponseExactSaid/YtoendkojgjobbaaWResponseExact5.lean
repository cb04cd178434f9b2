/- The walks of ResponseExact, part 5: each Go function computes what its plain program computes. Printed by a program of ours. -/
import Derived.Test.YtoendkojgjobbaaProg
import Derived.Test.YtoendkojgjobbaaDat
import Derived.Test.YtoendkojgjobbaaSh
import Derived.Test.YtoendkojgjobbaaLibL
import Derived.Test.YtoendkojgjobbaaLibZ
import Derived.Test.YtoendkojgjobbaaLibQ
import Derived.KernelRfl
import Derived.Test.YtoendkojgjobbaaWResponseExact4
namespace Go.Proofs.Ytoendkojgjobbaa.Wk
open Go Go.RowKit Go.Proofs Go.Proofs.Ytoendkojgjobbaa.Sh
set_option linter.unusedVariables false
set_option linter.unusedSimpArgs false

abbrev law18_ResponseExact_rd (w0 : World) (X : List Nat) (r : Bool) : (Nat → Prop) → World → Value → Prop := fun S w v => v = .bool r
set_option maxHeartbeats 4000000 in
set_option maxRecDepth 100000 in
theorem law18_ResponseExact_ok {w0 : World} {S0 : Nat → Prop} {p2 : Option Addr} {k3 : Nat} {p6 : Option Addr} {k7 : Nat} {t1 : (List Int)} {raw5 : Response} {rate9 : Rate} {num10 : Int} {den11 : Int} {r : Bool} (hsh : law18_ResponseExact t1 raw5 rate9 num10 den11 = some r) (hS : ∀ b, S0 b → b < w0.heap.size) (h4 : (SlA p2 t1.length k3 t1).p S0 w0) (h8 : (SlA p6 raw5.Stages.length k7 raw5.Stages).p S0 w0) : Calls Try.prog 6 #[.slice p2 t1.length k3, .agg #[.slice p6 raw5.Stages.length k7], .agg #[.int .i64 rate9.Num, .int .i64 rate9.Den], .int .i64 num10, .int .i64 den11] w0 (Ret ([]) w0 S0 (law18_ResponseExact_rd w0 ([]) r)) := by
 refine calls_of_wp Try.func6 rfl ?_
 have hs := Sl.enter #[.slice p2 t1.length k3, .agg #[.slice p6 raw5.Stages.length k7], .agg #[.int .i64 rate9.Num, .int .i64 rate9.Den], .int .i64 num10, .int .i64 den11] 293 [(0, .slice p2 t1.length k3), (1, .agg #[.slice p6 raw5.Stages.length k7]), (2, .agg #[.int .i64 rate9.Num, .int .i64 rate9.Den]), (3, .int .i64 num10), (4, .int .i64 den11)] rfl ⟨rfl, rfl, rfl, rfl, rfl, trivial⟩
 have hw := Wd.enter (E := []) hS (fun _ h => (by cases h))
 have hw := hw.addE h4
 have hw := hw.addE h8
 delta law18_ResponseExact at hsh
 refine sr ?_
 refine w_box (cs := [.slice p6 raw5.Stages.length k7]) hs hw rfl rfl rfl trivial ?_
 intro b12 a w hs hw
 refine w_box (cs := [.int .i64 rate9.Num, .int .i64 rate9.Den]) hs hw rfl rfl rfl trivial ?_
 intro b13 a w hs hw
 refine av hs rfl rfl fun a hs => ?_
 refine nl ?_
 refine wp_seq ?_
 refine sr ?_
 refine mv hs rfl rfl fun a hs => ?_
 obtain ⟨rv15, h14, hsh⟩ := bind_t hsh
 refine st_callR hs (made_Light_ok h14 hw.bdom (hw.bE 1 rfl)) (do_call Try.call13 rfl) trivial rfl rfl ?_
 intro v19 Sv16 w a h17 h18 hs
 subst h18
 have hw := hw.callB h17
 refine sv hs (y_not rfl) rfl fun a hs => ?_
 refine mv hs rfl rfl fun a hs => ?_
 refine wpl_join 5 (fun a w1 => w = w1 ∧ Sl 293 [(0, .slice p2 t1.length k3), (3, .int .i64 num10), (4, .int .i64 den11), (6, .pointer (some ⟨b12, 0, none⟩)), (7, .pointer (some ⟨b13, 0, none⟩)), (57, .bool ((!rv15) || (decide (12 < (raw5.Stages.length : Int)))))] a) ?_ ?_
 ·rcases Bool.eq_false_or_eq_true (!rv15) with h21 | h21
  ·have hs := hs.fix 52 (.bool true) rfl (vb h21)
   refine st_skip hs rfl rfl rfl rfl rfl fun a hs => ?_
   refine st_skip hs rfl rfl rfl rfl rfl fun a hs => ?_
   refine st_skip hs rfl rfl rfl rfl rfl fun a hs => ?_
   refine st_skip hs rfl rfl rfl rfl rfl fun a hs => ?_
   refine sv hs (y_pickT rfl rfl) rfl fun a hs => ?_
   refine nl ?_
   exact ⟨rfl, (hs.fix 57 (.bool ((!rv15) || (decide (12 < (raw5.Stages.length : Int))))) rfl (or_t h21)).weaken _ ⟨rfl, rfl, rfl, rfl, rfl, rfl, trivial⟩⟩
  have hs := hs.fix 52 (.bool false) rfl (vb h21)
  refine st_val hs (y_fieldAddr (o' := 0) Try.runUnderlying37 rfl Try.sizeOf35 rfl rfl rfl) ⟨_, rfl, rfl⟩ rfl rfl fun a hs => ?_
  refine st_val hs (y_loadB1 (hw.ownAt 1 rfl) rfl Try.isAgg35 rfl) ⟨_, rfl, rfl⟩ rfl rfl fun a hs => ?_
  refine st_val hs (y_len Try.runUnderlying35 rfl) ⟨_, rfl, rfl⟩ rfl rfl fun a hs => ?_
  refine st_val hs (y_gtr rfl rfl) ⟨_, rfl, rfl⟩ rfl rfl fun a hs => ?_
  refine sv hs (y_pickF rfl rfl) rfl fun a hs => ?_
  refine nl ?_
  exact ⟨rfl, (hs.fix 57 (.bool ((!rv15) || (decide (12 < (raw5.Stages.length : Int))))) rfl (or_f h21)).weaken _ ⟨rfl, rfl, rfl, rfl, rfl, rfl, trivial⟩⟩
 rintro a w1 ⟨h5960, hs⟩
 subst h5960
 refine nl ?_
 refine wp_cond_split (hs.ev rfl) (fun h30 => ?_) (fun h30 => ?_)
 ·have hsh := ite_t hsh h30
  refine sr ?_
  obtain ⟨rv32, h31, hsh⟩ := bind_t hsh
  refine st_callR hs (law18_sane_ok h31 hw.bdom) (do_call Try.call8 rfl) trivial rfl rfl ?_
  intro v36 Sv33 w a h34 h35 hs
  subst h35
  have hw := hw.callB h34
  refine av hs rfl rfl fun a hs => ?_
  refine nl ?_
  have hsh := oi hsh
  subst hsh
  refine wp_ret ?_
  refine then_ret ?_
  exact ret1 hs rfl (rv_tmp rfl) (hw.ret rfl)
 have hsh := ite_f hsh h30
 refine wp_skip ?_
 refine then_normal ?_
 refine wp_seq ?_
 refine sr ?_
 refine sv hs (y_fieldAddr (o' := 0) Try.runUnderlying37 rfl Try.sizeOf35 rfl rfl rfl) rfl fun a hs => ?_
 refine sv hs (y_loadB1 (hw.ownAt 1 rfl) rfl Try.isAgg35 rfl) rfl fun a hs => ?_
 refine sv hs (y_len Try.runUnderlying35 rfl) rfl fun a hs => ?_
 refine mv hs rfl rfl fun a hs => ?_
 refine nl ?_
 refine wp_block ?_
 refine wp_while (fun sv124 a w => ∃ (Sv180 : Nat → Prop), Sl 293 [(0, .slice p2 t1.length k3), (3, .int .i64 num10), (4, .int .i64 den11), (6, .pointer (some ⟨b12, 0, none⟩)), (7, .pointer (some ⟨b13, 0, none⟩)), (60, .slice p6 raw5.Stages.length k7), (61, .int .i64 (raw5.Stages.length : Int)), (62, .int .i64 sv124)] a ∧ Wd ⟨w0, S0, []⟩ Sv180 [.box b12 [.slice p6 raw5.Stages.length k7] 37, .box b13 [.int .i64 rate9.Num, .int .i64 rate9.Den] 51] [SlA p2 t1.length k3 t1, SlA p6 raw5.Stages.length k7 raw5.Stages] w) 0 hsh ⟨S0, (hs.wk rfl), (hw.ft [1, 0] [1, 0] (by decide) rfl rfl)⟩ ?_
 repeat clear hsh
 rintro sv124 a w tv209 ⟨Sv180, hs, hw⟩ hsh hd208
 delta law18_ResponseExact_l2 at hsh
 refine sr ?_
 refine sv hs (y_lss rfl rfl) rfl fun a hs => ?_
 refine nl ?_
 refine wp_seq ?_
 refine wp_cond_split (hs.ev rfl) (fun h213 => ?_) (fun h213 => ?_)
 ·have hsh := ite_t hsh h213
  refine wp_skip ?_
  refine then_normal ?_
  refine wp_seq ?_
  refine wp_block ?_
  refine sr ?_
  obtain ⟨x242, h240, hsh⟩ := bind_t hsh
  obtain ⟨b248, o249, q246, c247, h250, h243, h244, h245, h241⟩ := hw.elemV 1 rfl h240
  have hsv251 := hs
  have hwv252 := hw
  subst h250
  have hs := hsv251
  have hw := hwv252
  obtain ⟨_, _, _, _, _, _, _, _, _, _, rfl, rfl, rfl, rfl, rfl, rfl, rfl, rfl, ⟨p253, n254, k255, rfl, h256⟩, rfl, rfl⟩ := h241
  obtain rfl := h256.1
  have hw := hw.addE (e := SlA p253 _ k255 x242.Taps) h256
  have hw := hw.addE h245
  refine sv hs (y_indexAt Try.runUnderlying35 Try.sizeOf26 rfl rfl h243.1 h243.2 h244) rfl fun a hs => ?_
  refine sv hs (y_loadEA (j := 0) (hw.ceAt 0 rfl) rfl Try.isAgg26 Try.sizeOf26 rfl rfl) rfl fun a hs => ?_
  refine w_alloc (cs := [.int .i64 0, .int .i64 0, .int .i64 0, .int .i64 0, .int .i64 0, .int .i64 0, .int .i64 0, .slice none ([] : List Int).length 0, .int .i64 0, .int .i64 0]) hs hw Try.zeroValue26 rfl rfl trivial ?_
  intro b257 a w hs hw
  refine w_store (m := 10) (cs' := [.int .i64 x242.Kind, .int .i64 x242.Num.e0, .int .i64 x242.Num.e1, .int .i64 x242.Num.e2, .int .i64 x242.Den.e0, .int .i64 x242.Den.e1, .int .i64 x242.Den.e2, .slice p253 x242.Taps.length k255, .int .i64 x242.Factor, .int .i64 x242.Shift]) hs hw 0 rfl rfl rfl Try.sizeOf26 rfl rfl rfl rfl trivial ?_
  intro a w hs hw
  refine nl ?_
  refine sr ?_
  refine sv hs (y_fieldAddr (o' := 7) Try.runUnderlying26 rfl Try.sizeOf24 rfl rfl rfl) rfl fun a hs => ?_
  refine sv hs (y_loadB1 (hw.ownAt 0 rfl) rfl Try.isAgg24 rfl) rfl fun a hs => ?_
  refine sv hs (y_len Try.runUnderlying24 rfl) rfl fun a hs => ?_
  refine sv hs (y_gtr rfl rfl) rfl fun a hs => ?_
  refine nl ?_
  refine wp_cond_split (hs.ev rfl) (fun h266 => ?_) (fun h266 => ?_)
  ·have hsh := ite_t hsh h266
   refine sr ?_
   obtain ⟨rv268, h267, hsh⟩ := bind_t hsh
   refine st_callR hs (law18_sane_ok h267 hw.bdom) (do_call Try.call8 rfl) trivial rfl rfl ?_
   intro v272 Sv269 w a h270 h271 hs
   subst h271
   have hw := hw.callB h270
   refine av hs rfl rfl fun a hs => ?_
   refine nl ?_
   have hsh := oi hsh
   subst hsh
   have h274 := hd208 _ rfl
   subst h274
   refine wp_ret ?_
   refine blk_ret ?_
   refine then_ret ?_
   refine then_ret ?_
   refine blk_ret ?_
   refine then_ret ?_
   exact ret1 hs rfl (rv_tmp rfl) (hw.ret rfl)
  have hsh := ite_f hsh h266
  refine wp_skip ?_
  refine blk_normal ?_
  refine then_normal ?_
  refine wp_region_lit ?_
  refine sv hs (y_add rfl rfl) rfl fun a hs => ?_
  refine mv hs rfl rfl fun a hs => ?_
  refine nl ?_
  exact ⟨_, (Option.some.inj hsh).symm, Sv180, (hs.wk rfl), (hw.ft [1, 2] [2, 3] (by decide) rfl rfl)⟩
 have hsh := ite_f hsh h213
 obtain ⟨rv5958, hsh, h5959⟩ := map_t hsh
 have h5959 := (hd208 _ h5959.symm).symm
 subst h5959
 refine wp_exit ?_
 refine then_exit ?_
 refine then_exit ?_
 refine blk_exit ?_
 refine then_normal ?_
 refine sr ?_
 refine mv hs rfl rfl fun a hs => ?_
 obtain ⟨rv276, h275, hsh⟩ := bind_t hsh
 refine st_callR hs (made_Roll_ok h275 hw.dom (hw.envAt 0 rfl)) (do_call Try.call14 rfl) trivial rfl rfl ?_
 intro v284 Sv281 w a h282 h283 hs
 obtain ⟨b277, p278, k279, rfl, h285, h280⟩ := h283
 have hw := hw.callN h282 h285
 have hw := hw.addE (e := SlA p278 rv276.L.length k279 rv276.L) h280
 refine av hs rfl rfl fun a hs => ?_
 refine nl ?_
 refine sr ?_
 refine mv hs rfl rfl fun a hs => ?_
 obtain ⟨rv287, h286, hsh⟩ := bind_t hsh
 refine st_callR hs (made_Dice_Response_ok h286 hw.dom (hw.ins [0] (by decide) rfl) (hw.envAt 0 rfl)) (do_call Try.call15 rfl) trivial rfl rfl ?_
 intro v298 Sv295 w a h296 h297 hs
 obtain ⟨p288, k289, c291, p292, k293, rfl, h299, h290, h294⟩ := h297
 have hw := hw.callO [0] [1, 2] (by decide) rfl h296 h299
 have hw := hw.addE (e := RowA c291 rv287.1.Stages) h290
 have hw := hw.addE (e := SlA p292 rv287.2.L.length k293 rv287.2.L) h294
 refine mv hs rfl rfl fun a hs => ?_
 obtain ⟨rv301, h300, hsh⟩ := bind_t hsh
 refine st_callR hs (made_Dice_Response_ok h300 hw.dom (hw.ins [1] (by decide) rfl) (hw.envAt 0 rfl)) (do_call Try.call15 rfl) trivial rfl rfl ?_
 intro v312 Sv309 w a h310 h311 hs
 obtain ⟨p302, k303, c305, p306, k307, rfl, h313, h304, h308⟩ := h311
 have hw := hw.callO [1] [0, 2, 3] (by decide) rfl h310 h313
 have hw := hw.addE (e := RowA c305 rv301.1.Stages) h304
 have hw := hw.addE (e := SlA p306 rv301.2.L.length k307 rv301.2.L) h308
 refine w_alloc (cs := [.slice none ([] : List Stage).length 0]) hs hw Try.zeroValue37 rfl rfl trivial ?_
 intro b314 a w hs hw
 refine w_alloc (cs := [.slice none ([] : List Stage).length 0]) hs hw Try.zeroValue37 rfl rfl trivial ?_
 intro b315 a w hs hw
 refine w_store (m := 1) (cs' := [.slice p288 rv287.1.Stages.length k289]) hs hw 1 rfl rfl rfl Try.sizeOf37 rfl rfl rfl rfl trivial ?_
 intro a w hs hw
 refine w_store (m := 1) (cs' := [.slice p302 rv301.1.Stages.length k303]) hs hw 0 rfl rfl rfl Try.sizeOf37 rfl rfl rfl rfl trivial ?_
 intro a w hs hw
 refine nl ?_
 refine sr ?_
 refine sv hs (y_loadBA (hw.ownAt 1 rfl) rfl Try.isAgg37 Try.sizeOf37 rfl rfl) rfl fun a hs => ?_
 obtain ⟨rv317, h316, hsh⟩ := bind_t hsh
 obtain ⟨Sv322, hw⟩ := w_share (α := Stage) hw 4 rfl 3 rfl
 refine st_callR hs (ref18_Copy_ok h316 hw.dom (hw.envAt 0 rfl)) (do_call Try.call21 rfl) trivial rfl rfl ?_
 intro v326 Sv323 w a h324 h325 hs
 obtain ⟨p318, k319, c321, rfl, h327, h320⟩ := h325
 have hw := hw.callN h324 h327
 have hw := hw.addE (e := RowA c321 rv317.Stages) h320
 refine w_alloc (cs := [.slice none ([] : List Stage).length 0]) hs hw Try.zeroValue37 rfl rfl trivial ?_
 intro b328 a w hs hw
 refine w_store (m := 1) (cs' := [.slice p318 rv317.Stages.length k319]) hs hw 0 rfl rfl rfl Try.sizeOf37 rfl rfl rfl rfl trivial ?_
 intro a w hs hw
 refine nl ?_
 refine wp_seq ?_
 obtain ⟨rv330, h329, hsh⟩ := bind_t hsh
 obtain ⟨rv339, h338, hsh⟩ := bind_t hsh
 obtain ⟨l349, h348, hsh⟩ := bind_t hsh
 refine wp_only (fun a w => ∃ (Sv353 : Nat → Prop) (c352 : List Value) (k344 : Nat) (k351 : Nat) (p343 : Option Addr) (p350 : Option Addr), Sl 293 [(3, .int .i64 num10), (4, .int .i64 den11), (6, .pointer (some ⟨b12, 0, none⟩)), (7, .pointer (some ⟨b13, 0, none⟩)), (13, .pointer (some ⟨b277, 0, none⟩)), (14, .pointer (some ⟨b314, 0, none⟩)), (15, .pointer (some ⟨b315, 0, none⟩)), (16, .pointer (some ⟨b328, 0, none⟩))] a ∧ Wd ⟨w0, S0, []⟩ Sv353 [.box b12 [.slice p6 raw5.Stages.length k7] 37, .box b13 [.int .i64 rate9.Num, .int .i64 rate9.Den] 51, .box b277 [.slice p343 rv339.2.L.length k344, .int .i64 rv339.2.At] 84, .box b314 [.slice p288 rv287.1.Stages.length k289] 37, .box b315 [.slice p302 rv301.1.Stages.length k303] 37, .box b328 [.slice p350 l349.length k351] 37, .row p302 rv301.1.Stages.length k303 c305 26 10, .row p350 l349.length k351 c352 26 10] [SlA p6 raw5.Stages.length k7 raw5.Stages, SlA p343 rv339.2.L.length k344 rv339.2.L, SlA p288 rv287.1.Stages.length k289 rv287.1.Stages, RowA c305 rv301.1.Stages, RowA c352 l349] w) ?_ ?_
 ·refine h_b (C := Cls [.box b315 [.slice p302 rv301.1.Stages.length k303] 37, .box b314 [.slice p288 rv287.1.Stages.length k289] 37, .row p302 rv301.1.Stages.length k303 c305 26 10, .box b12 [.slice p6 raw5.Stages.length k7] 37, .box b13 [.int .i64 rate9.Num, .int .i64 rate9.Den] 51] []) (by kernel_rfl) rfl (hw.drew.cs [2, 3, 4, 6, 7] [] rfl rfl) fun hC => ?_
  have hw := hw.drew
  refine gv hs 0 rfl rfl hC (fun w hC => y_fieldAddr (o' := 0) Try.runUnderlying37 rfl Try.sizeOf35 rfl rfl rfl) fun a hs => ?_
  refine gm hs 2 rfl rfl rfl hC fun a hs => ?_
  refine gm hs 3 rfl rfl rfl hC fun a hs => ?_
  refine h_all (rs := [1, 4]) (by kernel_rfl) rfl ?_
  refine AllH.cons rfl ?_ ?_
  ·refine sv hs (y_loadB1 (hw.ownAt 0 rfl) rfl Try.isAgg35 rfl) rfl fun a hs => ?_
   refine h_nx (hw.cs [2, 3, 4, 6, 7] [] rfl rfl) fun hC => ?_
   refine ho 4 rfl ?_
   refine st_callR hs (made_Dice_Stage_ok h329 hw.dom (hw.ins [5] (by decide) rfl) (hw.envAt 2 rfl)) (do_call Try.call23 rfl) trivial rfl rfl ?_
   intro v357 Sv354 w a h355 h356 hs
   obtain ⟨p331, k332, c334, p335, k336, rfl, h358, h333, h337⟩ := h356
   have hw := hw.callO [5] [0, 1, 2, 3, 4, 6, 7] (by decide) rfl h355 h358
   have hw := hw.addE (e := RowA c334 rv330.1.Taps) h333
   have hw := hw.addE (e := SlA p335 rv330.2.L.length k336 rv330.2.L) h337
   refine h_nx (hw.cs [4, 5, 6, 7, 8] [] rfl rfl) fun hC => ?_
   refine ho 5 rfl ?_
   obtain ⟨Sv359, hw⟩ := w_share (α := Int) hw 0 rfl 1 rfl
   refine st_callR hs (law18_odd_ok h338 hw.dom (hw.ins [0] (by decide) rfl) (hw.envAt 1 rfl) (hw.envAt 0 rfl)) (do_call Try.call22 rfl) trivial rfl rfl ?_
   intro v363 Sv360 w a h361 h362 hs
   obtain ⟨p340, k341, p343, k344, rfl, h364, h342, h345⟩ := h362
   have hw := hw.callO [0] [1, 2, 3, 4, 5, 6, 7] (by decide) rfl h361 h364
   have hw := hw.addE (e := SlA p340 rv339.1.Taps.length k341 rv339.1.Taps) h342
   have hw := hw.addE (e := SlA p343 rv339.2.L.length k344 rv339.2.L) h345
   refine h_nx (hw.cs [3, 4, 5, 6, 7] [] rfl rfl) fun hC => ?_
   refine ho 6 rfl ?_
   refine w_litSlice (α := Stage) (vs := [.agg #[.int .i64 rv339.1.Kind, .int .i64 rv339.1.Num.e0, .int .i64 rv339.1.Num.e1, .int .i64 rv339.1.Num.e2, .int .i64 rv339.1.Den.e0, .int .i64 rv339.1.Den.e1, .int .i64 rv339.1.Den.e2, .slice p340 rv339.1.Taps.length k341, .int .i64 rv339.1.Factor, .int .i64 rv339.1.Shift]]) (cs := [.int .i64 rv339.1.Kind, .int .i64 rv339.1.Num.e0, .int .i64 rv339.1.Num.e1, .int .i64 rv339.1.Num.e2, .int .i64 rv339.1.Den.e0, .int .i64 rv339.1.Den.e1, .int .i64 rv339.1.Den.e2, .slice p340 rv339.1.Taps.length k341, .int .i64 rv339.1.Factor, .int .i64 rv339.1.Shift]) (xs := ([rv339.1] : List Stage)) hs hw El35 rfl rfl rfl rfl rfl rfl ⟨⟨_, _, _, _, _, _, _, _, _, _, rfl, rfl, rfl, rfl, rfl, rfl, rfl, rfl, ⟨_, _, _, rfl, hw.envAt 1 rfl⟩, rfl, rfl⟩, rfl⟩ rfl trivial rfl fun b347 a w hs hw => ?_
   refine h_nx (hw.cs [4, 5, 6, 7, 8] [] rfl rfl) fun hC => ?_
   refine h_st (C' := Cls [.box b315 [.slice p302 rv301.1.Stages.length k303] 37, .box b314 [.slice p288 rv287.1.Stages.length k289] 37, .row p302 rv301.1.Stages.length k303 c305 26 10, .box b12 [.slice p6 raw5.Stages.length k7] 37, .box b13 [.int .i64 rate9.Num, .int .i64 rate9.Den] 51, .row (some ⟨b347, 0, none⟩) ([rv339.1] : List Stage).length ([rv339.1] : List Stage).length [.int .i64 rv339.1.Kind, .int .i64 rv339.1.Num.e0, .int .i64 rv339.1.Num.e1, .int .i64 rv339.1.Num.e2, .int .i64 rv339.1.Den.e0, .int .i64 rv339.1.Den.e1, .int .i64 rv339.1.Den.e2, .slice p340 rv339.1.Taps.length k341, .int .i64 rv339.1.Factor, .int .i64 rv339.1.Shift] 26 10] []) (fun _ h => by exact h.sub [0, 1, 2, 3, 4] (Sel.of rfl) (AllIn.of [] rfl)) (hw.cs [4, 5, 6, 7, 8, 0] [] rfl rfl) fun hC => ?_
   refine ho 7 rfl ?_
   refine w_appendR (α := Stage) hs hw El35 3 rfl rfl rfl 6 rfl 0 rfl 0 rfl h348 rfl trivial ?_
   intro p350 k351 c352 a w hs hw
   refine h_nx (hw.cs [4, 5, 6, 7, 8, 0] [] rfl rfl) fun hC => ?_
   refine gv hs 8 rfl rfl hC (fun w hC => y_fieldAddr (o' := 0) Try.runUnderlying37 rfl Try.sizeOf35 rfl rfl rfl) fun a hs => ?_
   refine ho 9 rfl ?_
   refine w_store (m := 1) (cs' := [.slice p350 l349.length k351]) hs hw 2 rfl rfl rfl Try.sizeOf35 rfl rfl rfl rfl trivial ?_
   intro a w hs hw
   refine h_nx (hw.cs [4, 5, 6, 7, 8, 0] [] rfl rfl) fun hC => ?_
   refine h_done (by kernel_rfl) ?_
   exact ⟨Sv360, c352, k344, k351, p343, p350, (hs.wk rfl), (hw.ft [7, 8, 1, 5, 4, 2, 6, 3] [15, 2, 8, 10, 0] (by decide) rfl rfl)⟩
  refine AllH.cons rfl ?_ ?_
  ·refine st_callR hs (made_Dice_Stage_ok h329 hw.dom (hw.ins [5] (by decide) rfl) (hw.envAt 2 rfl)) (do_call Try.call23 rfl) trivial rfl rfl ?_
   intro v368 Sv365 w a h366 h367 hs
   obtain ⟨p331, k332, c334, p335, k336, rfl, h369, h333, h337⟩ := h367
   have hw := hw.callO [5] [0, 1, 2, 3, 4, 6, 7] (by decide) rfl h366 h369
   have hw := hw.addE (e := RowA c334 rv330.1.Taps) h333
   have hw := hw.addE (e := SlA p335 rv330.2.L.length k336 rv330.2.L) h337
   refine h_nx (hw.cs [4, 5, 6, 7, 8] [] rfl rfl) fun hC => ?_
   refine h_all (rs := [1, 5]) (by kernel_rfl) rfl ?_
   refine AllH.cons rfl ?_ ?_
   ·refine sv hs (y_loadB1 (hw.ownAt 2 rfl) rfl Try.isAgg35 rfl) rfl fun a hs => ?_
    refine h_nx (hw.cs [4, 5, 6, 7, 8] [] rfl rfl) fun hC => ?_
    refine ho 5 rfl ?_
    obtain ⟨Sv370, hw⟩ := w_share (α := Int) hw 0 rfl 1 rfl
    refine st_callR hs (law18_odd_ok h338 hw.dom (hw.ins [0] (by decide) rfl) (hw.envAt 1 rfl) (hw.envAt 0 rfl)) (do_call Try.call22 rfl) trivial rfl rfl ?_
    intro v374 Sv371 w a h372 h373 hs
    obtain ⟨p340, k341, p343, k344, rfl, h375, h342, h345⟩ := h373
    have hw := hw.callO [0] [1, 2, 3, 4, 5, 6, 7] (by decide) rfl h372 h375
    have hw := hw.addE (e := SlA p340 rv339.1.Taps.length k341 rv339.1.Taps) h342
    have hw := hw.addE (e := SlA p343 rv339.2.L.length k344 rv339.2.L) h345
    refine h_nx (hw.cs [3, 4, 5, 6, 7] [] rfl rfl) fun hC => ?_
    refine ho 6 rfl ?_
    refine w_litSlice (α := Stage) (vs := [.agg #[.int .i64 rv339.1.Kind, .int .i64 rv339.1.Num.e0, .int .i64 rv339.1.Num.e1, .int .i64 rv339.1.Num.e2, .int .i64 rv339.1.Den.e0, .int .i64 rv339.1.Den.e1, .int .i64 rv339.1.Den.e2, .slice p340 rv339.1.Taps.length k341, .int .i64 rv339.1.Factor, .int .i64 rv339.1.Shift]]) (cs := [.int .i64 rv339.1.Kind, .int .i64 rv339.1.Num.e0, .int .i64 rv339.1.Num.e1, .int .i64 rv339.1.Num.e2, .int .i64 rv339.1.Den.e0, .int .i64 rv339.1.Den.e1, .int .i64 rv339.1.Den.e2, .slice p340 rv339.1.Taps.length k341, .int .i64 rv339.1.Factor, .int .i64 rv339.1.Shift]) (xs := ([rv339.1] : List Stage)) hs hw El35 rfl rfl rfl rfl rfl rfl ⟨⟨_, _, _, _, _, _, _, _, _, _, rfl, rfl, rfl, rfl, rfl, rfl, rfl, rfl, ⟨_, _, _, rfl, hw.envAt 1 rfl⟩, rfl, rfl⟩, rfl⟩ rfl trivial rfl fun b347 a w hs hw => ?_
    refine h_nx (hw.cs [4, 5, 6, 7, 8] [] rfl rfl) fun hC => ?_
    refine h_st (C' := Cls [.box b315 [.slice p302 rv301.1.Stages.length k303] 37, .box b314 [.slice p288 rv287.1.Stages.length k289] 37, .row p302 rv301.1.Stages.length k303 c305 26 10, .box b12 [.slice p6 raw5.Stages.length k7] 37, .box b13 [.int .i64 rate9.Num, .int .i64 rate9.Den] 51, .row (some ⟨b347, 0, none⟩) ([rv339.1] : List Stage).length ([rv339.1] : List Stage).length [.int .i64 rv339.1.Kind, .int .i64 rv339.1.Num.e0, .int .i64 rv339.1.Num.e1, .int .i64 rv339.1.Num.e2, .int .i64 rv339.1.Den.e0, .int .i64 rv339.1.Den.e1, .int .i64 rv339.1.Den.e2, .slice p340 rv339.1.Taps.length k341, .int .i64 rv339.1.Factor, .int .i64 rv339.1.Shift] 26 10] []) (fun _ h => by exact h.sub [0, 1, 2, 3, 4] (Sel.of rfl) (AllIn.of [] rfl)) (hw.cs [4, 5, 6, 7, 8, 0] [] rfl rfl) fun hC => ?_
    refine ho 7 rfl ?_
    refine w_appendR (α := Stage) hs hw El35 3 rfl rfl rfl 6 rfl 0 rfl 0 rfl h348 rfl trivial ?_
    intro p350 k351 c352 a w hs hw
    refine h_nx (hw.cs [4, 5, 6, 7, 8, 0] [] rfl rfl) fun hC => ?_
    refine gv hs 8 rfl rfl hC (fun w hC => y_fieldAddr (o' := 0) Try.runUnderlying37 rfl Try.sizeOf35 rfl rfl rfl) fun a hs => ?_
    refine ho 9 rfl ?_
    refine w_store (m := 1) (cs' := [.slice p350 l349.length k351]) hs hw 2 rfl rfl rfl Try.sizeOf35 rfl rfl rfl rfl trivial ?_
    intro a w hs hw
    refine h_nx (hw.cs [4, 5, 6, 7, 8, 0] [] rfl rfl) fun hC => ?_
    refine h_done (by kernel_rfl) ?_
    exact ⟨Sv371, c352, k344, k351, p343, p350, (hs.wk rfl), (hw.ft [7, 8, 1, 5, 4, 2, 6, 3] [15, 2, 8, 10, 0] (by decide) rfl rfl)⟩
   refine AllH.cons rfl ?_ ?_
   ·obtain ⟨Sv376, hw⟩ := w_share (α := Int) hw 0 rfl 1 rfl
    refine st_callR hs (law18_odd_ok h338 hw.dom (hw.ins [0] (by decide) rfl) (hw.envAt 1 rfl) (hw.envAt 0 rfl)) (do_call Try.call22 rfl) trivial rfl rfl ?_
    intro v380 Sv377 w a h378 h379 hs
    obtain ⟨p340, k341, p343, k344, rfl, h381, h342, h345⟩ := h379
    have hw := hw.callO [0] [1, 2, 3, 4, 5, 6, 7] (by decide) rfl h378 h381
    have hw := hw.addE (e := SlA p340 rv339.1.Taps.length k341 rv339.1.Taps) h342
    have hw := hw.addE (e := SlA p343 rv339.2.L.length k344 rv339.2.L) h345
    refine h_nx (hw.cs [3, 4, 5, 6, 7] [] rfl rfl) fun hC => ?_
    refine h_all (rs := [1, 6]) (by kernel_rfl) rfl ?_
    refine AllH.cons rfl ?_ ?_
    ·refine sv hs (y_loadB1 (hw.ownAt 1 rfl) rfl Try.isAgg35 rfl) rfl fun a hs => ?_
     refine h_nx (hw.cs [3, 4, 5, 6, 7] [] rfl rfl) fun hC => ?_
     refine ho 6 rfl ?_
     refine w_litSlice (α := Stage) (vs := [.agg #[.int .i64 rv339.1.Kind, .int .i64 rv339.1.Num.e0, .int .i64 rv339.1.Num.e1, .int .i64 rv339.1.Num.e2, .int .i64 rv339.1.Den.e0, .int .i64 rv339.1.Den.e1, .int .i64 rv339.1.Den.e2, .slice p340 rv339.1.Taps.length k341, .int .i64 rv339.1.Factor, .int .i64 rv339.1.Shift]]) (cs := [.int .i64 rv339.1.Kind, .int .i64 rv339.1.Num.e0, .int .i64 rv339.1.Num.e1, .int .i64 rv339.1.Num.e2, .int .i64 rv339.1.Den.e0, .int .i64 rv339.1.Den.e1, .int .i64 rv339.1.Den.e2, .slice p340 rv339.1.Taps.length k341, .int .i64 rv339.1.Factor, .int .i64 rv339.1.Shift]) (xs := ([rv339.1] : List Stage)) hs hw El35 rfl rfl rfl rfl rfl rfl ⟨⟨_, _, _, _, _, _, _, _, _, _, rfl, rfl, rfl, rfl, rfl, rfl, rfl, rfl, ⟨_, _, _, rfl, hw.envAt 1 rfl⟩, rfl, rfl⟩, rfl⟩ rfl trivial rfl fun b347 a w hs hw => ?_
     refine h_nx (hw.cs [4, 5, 6, 7, 8] [] rfl rfl) fun hC => ?_
     refine h_st (C' := Cls [.box b315 [.slice p302 rv301.1.Stages.length k303] 37, .box b314 [.slice p288 rv287.1.Stages.length k289] 37, .row p302 rv301.1.Stages.length k303 c305 26 10, .box b12 [.slice p6 raw5.Stages.length k7] 37, .box b13 [.int .i64 rate9.Num, .int .i64 rate9.Den] 51, .row (some ⟨b347, 0, none⟩) ([rv339.1] : List Stage).length ([rv339.1] : List Stage).length [.int .i64 rv339.1.Kind, .int .i64 rv339.1.Num.e0, .int .i64 rv339.1.Num.e1, .int .i64 rv339.1.Num.e2, .int .i64 rv339.1.Den.e0, .int .i64 rv339.1.Den.e1, .int .i64 rv339.1.Den.e2, .slice p340 rv339.1.Taps.length k341, .int .i64 rv339.1.Factor, .int .i64 rv339.1.Shift] 26 10] []) (fun _ h => by exact h.sub [0, 1, 2, 3, 4] (Sel.of rfl) (AllIn.of [] rfl)) (hw.cs [4, 5, 6, 7, 8, 0] [] rfl rfl) fun hC => ?_
     refine ho 7 rfl ?_
     refine w_appendR (α := Stage) hs hw El35 3 rfl rfl rfl 6 rfl 0 rfl 0 rfl h348 rfl trivial ?_
     intro p350 k351 c352 a w hs hw
     refine h_nx (hw.cs [4, 5, 6, 7, 8, 0] [] rfl rfl) fun hC => ?_
     refine gv hs 8 rfl rfl hC (fun w hC => y_fieldAddr (o' := 0) Try.runUnderlying37 rfl Try.sizeOf35 rfl rfl rfl) fun a hs => ?_
     refine ho 9 rfl ?_
     refine w_store (m := 1) (cs' := [.slice p350 l349.length k351]) hs hw 2 rfl rfl rfl Try.sizeOf35 rfl rfl rfl rfl trivial ?_
     intro a w hs hw
     refine h_nx (hw.cs [4, 5, 6, 7, 8, 0] [] rfl rfl) fun hC => ?_
     refine h_done (by kernel_rfl) ?_
     exact ⟨Sv377, c352, k344, k351, p343, p350, (hs.wk rfl), (hw.ft [7, 8, 1, 5, 4, 2, 6, 3] [15, 2, 8, 10, 0] (by decide) rfl rfl)⟩
    refine AllH.cons rfl ?_ ?_
    ·refine w_litSlice (α := Stage) (vs := [.agg #[.int .i64 rv339.1.Kind, .int .i64 rv339.1.Num.e0, .int .i64 rv339.1.Num.e1, .int .i64 rv339.1.Num.e2, .int .i64 rv339.1.Den.e0, .int .i64 rv339.1.Den.e1, .int .i64 rv339.1.Den.e2, .slice p340 rv339.1.Taps.length k341, .int .i64 rv339.1.Factor, .int .i64 rv339.1.Shift]]) (cs := [.int .i64 rv339.1.Kind, .int .i64 rv339.1.Num.e0, .int .i64 rv339.1.Num.e1, .int .i64 rv339.1.Num.e2, .int .i64 rv339.1.Den.e0, .int .i64 rv339.1.Den.e1, .int .i64 rv339.1.Den.e2, .slice p340 rv339.1.Taps.length k341, .int .i64 rv339.1.Factor, .int .i64 rv339.1.Shift]) (xs := ([rv339.1] : List Stage)) hs hw El35 rfl rfl rfl rfl rfl rfl ⟨⟨_, _, _, _, _, _, _, _, _, _, rfl, rfl, rfl, rfl, rfl, rfl, rfl, rfl, ⟨_, _, _, rfl, hw.envAt 1 rfl⟩, rfl, rfl⟩, rfl⟩ rfl trivial rfl fun b347 a w hs hw => ?_
     refine h_nx (hw.cs [4, 5, 6, 7, 8] [] rfl rfl) fun hC => ?_
     refine h_st (C' := Cls [.box b315 [.slice p302 rv301.1.Stages.length k303] 37, .box b314 [.slice p288 rv287.1.Stages.length k289] 37, .row p302 rv301.1.Stages.length k303 c305 26 10, .box b12 [.slice p6 raw5.Stages.length k7] 37, .box b13 [.int .i64 rate9.Num, .int .i64 rate9.Den] 51, .row (some ⟨b347, 0, none⟩) ([rv339.1] : List Stage).length ([rv339.1] : List Stage).length [.int .i64 rv339.1.Kind, .int .i64 rv339.1.Num.e0, .int .i64 rv339.1.Num.e1, .int .i64 rv339.1.Num.e2, .int .i64 rv339.1.Den.e0, .int .i64 rv339.1.Den.e1, .int .i64 rv339.1.Den.e2, .slice p340 rv339.1.Taps.length k341, .int .i64 rv339.1.Factor, .int .i64 rv339.1.Shift] 26 10] []) (fun _ h => by exact h.sub [0, 1, 2, 3, 4] (Sel.of rfl) (AllIn.of [] rfl)) (hw.cs [4, 5, 6, 7, 8, 0] [] rfl rfl) fun hC => ?_
     refine ho 1 rfl ?_
     refine sv hs (y_loadB1 (hw.ownAt 2 rfl) rfl Try.isAgg35 rfl) rfl fun a hs => ?_
     refine h_nx (hw.cs [4, 5, 6, 7, 8, 0] [] rfl rfl) fun hC => ?_
     refine ho 7 rfl ?_
     refine w_appendR (α := Stage) hs hw El35 3 rfl rfl rfl 6 rfl 0 rfl 0 rfl h348 rfl trivial ?_
     intro p350 k351 c352 a w hs hw
     refine h_nx (hw.cs [4, 5, 6, 7, 8, 0] [] rfl rfl) fun hC => ?_
     refine gv hs 8 rfl rfl hC (fun w hC => y_fieldAddr (o' := 0) Try.runUnderlying37 rfl Try.sizeOf35 rfl rfl rfl) fun a hs => ?_
     refine ho 9 rfl ?_
     refine w_store (m := 1) (cs' := [.slice p350 l349.length k351]) hs hw 2 rfl rfl rfl Try.sizeOf35 rfl rfl rfl rfl trivial ?_
     intro a w hs hw
     refine h_nx (hw.cs [4, 5, 6, 7, 8, 0] [] rfl rfl) fun hC => ?_
     refine h_done (by kernel_rfl) ?_
     exact ⟨Sv377, c352, k344, k351, p343, p350, (hs.wk rfl), (hw.ft [7, 8, 1, 5, 4, 2, 6, 3] [15, 2, 8, 10, 0] (by decide) rfl rfl)⟩
    exact AllH.nil
   exact AllH.nil
  exact AllH.nil
 rintro a w ⟨Sv353, c352, k344, k351, p343, p350, hs, hw⟩
 refine then_normal ?_
 refine wp_seq ?_
 refine sr ?_
 refine sv hs (y_loadBA (hw.ownAt 3 rfl) rfl Try.isAgg37 Try.sizeOf37 rfl rfl) rfl fun a hs => ?_
 refine sv hs (y_loadBA (hw.ownAt 5 rfl) rfl Try.isAgg37 Try.sizeOf37 rfl rfl) rfl fun a hs => ?_
 refine sv hs (y_loadBA (hw.ownAt 0 rfl) rfl Try.isAgg37 Try.sizeOf37 rfl rfl) rfl fun a hs => ?_
 obtain ⟨Sv384, hw⟩ := w_share (α := Stage) hw 7 rfl 4 rfl
 refine w_litSlice (α := Response) (vs := [.agg #[.slice p288 rv287.1.Stages.length k289], .agg #[.slice p350 l349.length k351], .agg #[.slice p6 raw5.Stages.length k7]]) (cs := [.slice p288 rv287.1.Stages.length k289, .slice p350 l349.length k351, .slice p6 raw5.Stages.length k7]) (xs := ([rv287.1, (⟨l349⟩ : Response), raw5] : List Response)) hs hw El63 rfl rfl rfl rfl rfl rfl ⟨⟨_, rfl, ⟨_, _, _, rfl, hw.envAt 3 rfl⟩⟩, ⟨⟨_, rfl, ⟨_, _, _, rfl, hw.envAt 0 rfl⟩⟩, ⟨⟨_, rfl, ⟨_, _, _, rfl, hw.envAt 1 rfl⟩⟩, rfl⟩⟩⟩ rfl trivial rfl fun b383 a w hs hw => ?_
 refine sv hs (y_len Try.runUnderlying63 rfl) rfl fun a hs => ?_
 refine mv hs rfl rfl fun a hs => ?_
 refine nl ?_
 refine wp_block ?_
 obtain ⟨Sv3886, hw⟩ := w_share (α := Stage) hw 7 rfl 5 rfl
 refine wp_while (fun sv2136 a w => ∃ (p3301 : Option Addr) (k3302 : Nat) (Sv3303 : Nat → Prop), Sl 293 [(3, .int .i64 num10), (4, .int .i64 den11), (7, .pointer (some ⟨b13, 0, none⟩)), (13, .pointer (some ⟨b277, 0, none⟩)), (14, .pointer (some ⟨b314, 0, none⟩)), (15, .pointer (some ⟨b315, 0, none⟩)), (92, .slice (some ⟨b383, 0, none⟩) ([rv287.1, (⟨l349⟩ : Response), raw5] : List Response).length ([rv287.1, (⟨l349⟩ : Response), raw5] : List Response).length), (93, .int .i64 (([rv287.1, (⟨l349⟩ : Response), raw5] : List Response).length : Int)), (94, .int .i64 sv2136.2.2)] a ∧ Wd ⟨w0, S0, []⟩ Sv3303 [.box b13 [.int .i64 rate9.Num, .int .i64 rate9.Den] 51, .box b277 [.slice p3301 sv2136.1.length k3302, .int .i64 sv2136.2.1] 84, .box b314 [.slice p288 rv287.1.Stages.length k289] 37, .box b315 [.slice p302 rv301.1.Stages.length k303] 37, .row (some ⟨b383, 0, none⟩) ([rv287.1, (⟨l349⟩ : Response), raw5] : List Response).length ([rv287.1, (⟨l349⟩ : Response), raw5] : List Response).length [.slice p288 rv287.1.Stages.length k289, .slice p350 l349.length k351, .slice p6 raw5.Stages.length k7] 37 1] [SlA p3301 sv2136.1.length k3302 sv2136.1, SlA p288 rv287.1.Stages.length k289 rv287.1.Stages, SlA p302 rv301.1.Stages.length k303 rv301.1.Stages, RowA [.slice p288 rv287.1.Stages.length k289, .slice p350 l349.length k351, .slice p6 raw5.Stages.length k7] ([rv287.1, (⟨l349⟩ : Response), raw5] : List Response)] w) (rv339.2.L, rv339.2.At, 0) hsh ⟨p343, k344, Sv3886, (hs.wk rfl), (hw.ft [2, 3, 4, 5, 0] [4, 5, 0, 1] (by decide) rfl rfl)⟩ ?_
 repeat clear hsh
 rintro sv2136 a w tv3885 ⟨p3301, k3302, Sv3303, hs, hw⟩ hsh hd3884
 delta law18_ResponseExact_l19 at hsh
 refine sr ?_
 refine sv hs (y_lss rfl rfl) rfl fun a hs => ?_
 refine nl ?_
 refine wp_seq ?_
 refine wp_cond_split (hs.ev rfl) (fun h3890 => ?_) (fun h3890 => ?_)
 ·have hsh := ite_t hsh h3890
  refine wp_skip ?_
  refine then_normal ?_
  refine wp_seq ?_
  refine wp_block ?_
  refine sr ?_
  obtain ⟨x4472, h4470, hsh⟩ := bind_t hsh
  obtain ⟨q4476, c4477, h4473, h4474, h4478, h4471⟩ := hw.elemRK (α := Response) 4 rfl 3 rfl h4470
  obtain ⟨_, rfl, ⟨p4479, n4480, k4481, rfl, h4482⟩⟩ := h4471
  obtain rfl := h4482.1
  have hw := hw.addE (e := SlA p4479 _ k4481 x4472.Stages) h4482
  refine sv hs (y_indexAt Try.runUnderlying63 Try.sizeOf37 rfl rfl h4473.1 h4473.2 h4474) rfl fun a hs => ?_
  refine sv hs (y_loadQA (j := 0) (hw.ownAt 4 rfl) rfl Try.isAgg37 Try.sizeOf37 h4478 rfl rfl) rfl fun a hs => ?_
  refine w_alloc (cs := [.slice none ([] : List Stage).length 0]) hs hw Try.zeroValue37 rfl rfl trivial ?_
  intro b4483 a w hs hw
  refine w_store (m := 1) (cs' := [.slice p4479 x4472.Stages.length k4481]) hs hw 0 rfl rfl rfl Try.sizeOf37 rfl rfl rfl rfl trivial ?_
  intro a w hs hw
  refine nl ?_
  refine wp_seq ?_
  refine sr ?_
  refine mv hs rfl rfl fun a hs => ?_
  refine mv hs rfl rfl fun a hs => ?_
  refine sv hs (y_build (vs := [(0, .int .i64 num10), (1, .int .i64 den11)]) Bld64 rfl rfl) rfl fun a hs => ?_
  refine mv hs rfl rfl fun a hs => ?_
  obtain ⟨rv4485, h4484, hsh⟩ := bind_t hsh
  refine st_callR hs (made_Dice_Next_ok h4484 hw.dom (hw.ins [2] (by decide) rfl) (hw.envAt 1 rfl)) (do_call Try.call24 rfl) trivial rfl rfl ?_
  intro v4492 Sv4489 w a h4490 h4491 hs
  obtain ⟨p4486, k4487, rfl, h4493, h4488⟩ := h4491
  have hw := hw.callO [2] [0, 1, 3, 4, 5] (by decide) rfl h4490 h4493
  have hw := hw.addE (e := SlA p4486 rv4485.2.L.length k4487 rv4485.2.L) h4488
  refine mv hs rfl rfl fun a hs => ?_
  obtain ⟨rv4495, h4494, hsh⟩ := bind_t hsh
  refine st_callR hs (made_Dice_Next_ok h4494 hw.dom (hw.ins [0] (by decide) rfl) (hw.envAt 0 rfl)) (do_call Try.call24 rfl) trivial rfl rfl ?_
  intro v4502 Sv4499 w a h4500 h4501 hs
  obtain ⟨p4496, k4497, rfl, h4503, h4498⟩ := h4501
  have hw := hw.callO [0] [1, 2, 3, 4, 5] (by decide) rfl h4500 h4503
  have hw := hw.addE (e := SlA p4496 rv4495.2.L.length k4497 rv4495.2.L) h4498
  refine sv hs (y_add rfl rfl) rfl fun a hs => ?_
  refine sv hs (y_build (vs := [(0, .int .i64 rv4485.1), (1, .int .i64 (w64 (1 + rv4495.1)))]) Bld64 rfl rfl) rfl fun a hs => ?_
  refine mv hs rfl rfl fun a hs => ?_
  refine w_litSlice (α := Int) (vs := [.int .i64 0, .int .i64 65536, .int .i64 65537, .int .i64 (-1)]) (cs := [.int .i64 0, .int .i64 65536, .int .i64 65537, .int .i64 (-1)]) (xs := ([0, 65536, 65537, (-1)] : List Int)) hs hw El24 rfl rfl rfl rfl rfl rfl ⟨⟨_, rfl, rfl⟩, ⟨⟨_, rfl, rfl⟩, ⟨⟨_, rfl, rfl⟩, ⟨⟨_, rfl, rfl⟩, rfl⟩⟩⟩⟩ rfl trivial rfl fun b4505 a w hs hw => ?_
  obtain ⟨rv4507, h4506, hsh⟩ := bind_t hsh
  obtain ⟨Sv4511, hw⟩ := w_share (α := Int) hw 0 rfl 0 rfl
  refine st_callR hs (made_Dice_Pick_ok h4506 hw.dom (hw.ins [0] (by decide) rfl) (hw.envAt 2 rfl) (hw.envAt 0 rfl)) (do_call Try.call25 rfl) trivial rfl rfl ?_
  intro v4515 Sv4512 w a h4513 h4514 hs
  obtain ⟨p4508, k4509, rfl, h4516, h4510⟩ := h4514
  have hw := hw.callO [0] [1, 2, 3, 4, 5] (by decide) rfl h4513 h4516
  have hw := hw.addE (e := SlA p4508 rv4507.2.L.length k4509 rv4507.2.L) h4510
  refine mv hs rfl rfl fun a hs => ?_
  refine w_litSlice (α := Int) (vs := [.int .i64 1, .int .i64 65536, .int .i64 0, .int .i64 65537]) (cs := [.int .i64 1, .int .i64 65536, .int .i64 0, .int .i64 65537]) (xs := ([1, 65536, 0, 65537] : List Int)) hs hw El24 rfl rfl rfl rfl rfl rfl ⟨⟨_, rfl, rfl⟩, ⟨⟨_, rfl, rfl⟩, ⟨⟨_, rfl, rfl⟩, ⟨⟨_, rfl, rfl⟩, rfl⟩⟩⟩⟩ rfl trivial rfl fun b4518 a w hs hw => ?_
  obtain ⟨rv4520, h4519, hsh⟩ := bind_t hsh
  obtain ⟨Sv4524, hw⟩ := w_share (α := Int) hw 0 rfl 0 rfl
  refine st_callR hs (made_Dice_Pick_ok h4519 hw.dom (hw.ins [0] (by decide) rfl) (hw.envAt 2 rfl) (hw.envAt 0 rfl)) (do_call Try.call25 rfl) trivial rfl rfl ?_
  intro v4528 Sv4525 w a h4526 h4527 hs
  obtain ⟨p4521, k4522, rfl, h4529, h4523⟩ := h4527
  have hw := hw.callO [0] [1, 2, 3, 4, 5] (by decide) rfl h4526 h4529
  have hw := hw.addE (e := SlA p4521 rv4520.2.L.length k4522 rv4520.2.L) h4523
  refine sv hs (y_build (vs := [(0, .int .i64 rv4507.1), (1, .int .i64 rv4520.1)]) Bld64 rfl rfl) rfl fun a hs => ?_
  refine w_litSlice (α := (Arr2 Int)) (vs := [.agg #[.int .i64 num10, .int .i64 den11], .agg #[.int .i64 rv4485.1, .int .i64 (w64 (1 + rv4495.1))], .agg #[.int .i64 rv4507.1, .int .i64 rv4520.1]]) (cs := [.int .i64 num10, .int .i64 den11, .int .i64 rv4485.1, .int .i64 (w64 (1 + rv4495.1)), .int .i64 rv4507.1, .int .i64 rv4520.1]) (xs := ([(⟨num10, den11⟩ : (Arr2 Int)), (⟨rv4485.1, (w64 (1 + rv4495.1))⟩ : (Arr2 Int)), (⟨rv4507.1, rv4520.1⟩ : (Arr2 Int))] : List (Arr2 Int))) hs hw El67 rfl rfl rfl rfl rfl rfl ⟨⟨_, _, rfl, rfl, rfl⟩, ⟨⟨_, _, rfl, rfl, rfl⟩, ⟨⟨_, _, rfl, rfl, rfl⟩, rfl⟩⟩⟩ rfl trivial rfl fun b4531 a w hs hw => ?_
  refine sv hs (y_len Try.runUnderlying67 rfl) rfl fun a hs => ?_
  refine mv hs rfl rfl fun a hs => ?_
  refine nl ?_
  refine wp_block ?_
  refine wp_while (fun sv4708 a w => ∃ (Sv4824 : Nat → Prop), Sl 293 [(3, .int .i64 num10), (4, .int .i64 den11), (7, .pointer (some ⟨b13, 0, none⟩)), (13, .pointer (some ⟨b277, 0, none⟩)), (14, .pointer (some ⟨b314, 0, none⟩)), (15, .pointer (some ⟨b315, 0, none⟩)), (18, .pointer (some ⟨b4483, 0, none⟩)), (92, .slice (some ⟨b383, 0, none⟩) ([rv287.1, (⟨l349⟩ : Response), raw5] : List Response).length ([rv287.1, (⟨l349⟩ : Response), raw5] : List Response).length), (93, .int .i64 (([rv287.1, (⟨l349⟩ : Response), raw5] : List Response).length : Int)), (94, .int .i64 sv2136.2.2), (114, .slice (some ⟨b4531, 0, none⟩) ([(⟨num10, den11⟩ : (Arr2 Int)), (⟨rv4485.1, (w64 (1 + rv4495.1))⟩ : (Arr2 Int)), (⟨rv4507.1, rv4520.1⟩ : (Arr2 Int))] : List (Arr2 Int)).length ([(⟨num10, den11⟩ : (Arr2 Int)), (⟨rv4485.1, (w64 (1 + rv4495.1))⟩ : (Arr2 Int)), (⟨rv4507.1, rv4520.1⟩ : (Arr2 Int))] : List (Arr2 Int)).length), (115, .int .i64 (([(⟨num10, den11⟩ : (Arr2 Int)), (⟨rv4485.1, (w64 (1 + rv4495.1))⟩ : (Arr2 Int)), (⟨rv4507.1, rv4520.1⟩ : (Arr2 Int))] : List (Arr2 Int)).length : Int)), (116, .int .i64 sv4708)] a ∧ Wd ⟨w0, S0, []⟩ Sv4824 [.box b13 [.int .i64 rate9.Num, .int .i64 rate9.Den] 51, .box b277 [.slice p4521 rv4520.2.L.length k4522, .int .i64 rv4520.2.At] 84, .box b314 [.slice p288 rv287.1.Stages.length k289] 37, .box b315 [.slice p302 rv301.1.Stages.length k303] 37, .box b4483 [.slice p4479 x4472.Stages.length k4481] 37, .row (some ⟨b383, 0, none⟩) ([rv287.1, (⟨l349⟩ : Response), raw5] : List Response).length ([rv287.1, (⟨l349⟩ : Response), raw5] : List Response).length [.slice p288 rv287.1.Stages.length k289, .slice p350 l349.length k351, .slice p6 raw5.Stages.length k7] 37 1, .row (some ⟨b4531, 0, none⟩) ([(⟨num10, den11⟩ : (Arr2 Int)), (⟨rv4485.1, (w64 (1 + rv4495.1))⟩ : (Arr2 Int)), (⟨rv4507.1, rv4520.1⟩ : (Arr2 Int))] : List (Arr2 Int)).length ([(⟨num10, den11⟩ : (Arr2 Int)), (⟨rv4485.1, (w64 (1 + rv4495.1))⟩ : (Arr2 Int)), (⟨rv4507.1, rv4520.1⟩ : (Arr2 Int))] : List (Arr2 Int)).length [.int .i64 num10, .int .i64 den11, .int .i64 rv4485.1, .int .i64 (w64 (1 + rv4495.1)), .int .i64 rv4507.1, .int .i64 rv4520.1] 64 2] [SlA p4521 rv4520.2.L.length k4522 rv4520.2.L, SlA p288 rv287.1.Stages.length k289 rv287.1.Stages, SlA p302 rv301.1.Stages.length k303 rv301.1.Stages, SlA p4479 x4472.Stages.length k4481 x4472.Stages, RowA [.slice p288 rv287.1.Stages.length k289, .slice p350 l349.length k351, .slice p6 raw5.Stages.length k7] ([rv287.1, (⟨l349⟩ : Response), raw5] : List Response), RowA [.int .i64 num10, .int .i64 den11, .int .i64 rv4485.1, .int .i64 (w64 (1 + rv4495.1)), .int .i64 rv4507.1, .int .i64 rv4520.1] ([(⟨num10, den11⟩ : (Arr2 Int)), (⟨rv4485.1, (w64 (1 + rv4495.1))⟩ : (Arr2 Int)), (⟨rv4507.1, rv4520.1⟩ : (Arr2 Int))] : List (Arr2 Int))] w) 0 hsh ⟨Sv4525, (hs.wk rfl), (hw.ft [3, 1, 4, 5, 2, 6, 0] [1, 11, 12, 9, 13, 0] (by decide) rfl rfl)⟩ ?_
  repeat clear hsh
  rintro sv4708 a w tv4883 ⟨Sv4824, hs, hw⟩ hsh hd4882
  delta law18_ResponseExact_l27 at hsh
  refine sr ?_
  refine sv hs (y_lss rfl rfl) rfl fun a hs => ?_
  refine nl ?_
  refine wp_seq ?_
  refine wp_cond_split (hs.ev rfl) (fun h4887 => ?_) (fun h4887 => ?_)
  ·have hsh := ite_t hsh h4887
   refine wp_skip ?_
   refine then_normal ?_
   refine wp_seq ?_
   refine wp_block ?_
   refine sr ?_
   obtain ⟨x4946, h4944, hsh⟩ := bind_t hsh
   obtain ⟨q4950, c4951, h4947, h4948, h4952, h4945⟩ := hw.elemRK (α := (Arr2 Int)) 6 rfl 5 rfl h4944
   obtain ⟨_, _, rfl, rfl, rfl⟩ := h4945
   refine sv hs (y_indexAt Try.runUnderlying67 Try.sizeOf64 rfl rfl h4947.1 h4947.2 h4948) rfl fun a hs => ?_
   refine sv hs (y_loadQA (j := 0) (hw.ownAt 6 rfl) rfl Try.isAgg64 Try.sizeOf64 h4952 rfl rfl) rfl fun a hs => ?_
   refine w_alloc (cs := [.int .i64 0, .int .i64 0]) hs hw Try.zeroValue64 rfl rfl trivial ?_
   intro b4953 a w hs hw
   refine w_store (m := 2) (cs' := [.int .i64 x4946.e0, .int .i64 x4946.e1]) hs hw 0 rfl rfl rfl Try.sizeOf64 rfl rfl rfl rfl trivial ?_
   intro a w hs hw
   refine nl ?_
   refine sr ?_
   refine sv hs (y_loadBA (hw.ownAt 5 rfl) rfl Try.isAgg37 Try.sizeOf37 rfl rfl) rfl fun a hs => ?_
   refine sv hs (y_indexAtA (q := 0) Try.runUnderlying64 Try.sizeOf3 rfl rfl (by decide) (by decide) rfl) rfl fun a hs => ?_
   refine sv hs (y_loadB1 (hw.ownAt 0 rfl) rfl Try.isAgg3 rfl) rfl fun a hs => ?_
   refine sv hs (y_indexAtA (q := 1) Try.runUnderlying64 Try.sizeOf3 rfl rfl (by decide) (by decide) rfl) rfl fun a hs => ?_
   refine sv hs (y_loadB1 (hw.ownAt 0 rfl) rfl Try.isAgg3 rfl) rfl fun a hs => ?_
   obtain ⟨rv4955, h4954, hsh⟩ := bind_t hsh
   refine st_callR hs (response_Gain_ok h4954 hw.dom (hw.envAt 3 rfl)) (do_call Try.call10 rfl) trivial rfl rfl ?_
   intro v4965 Sv4962 w a h4963 h4964 hs
   obtain ⟨p4956, k4957, p4959, k4960, rfl, h4958, h4961⟩ := h4964
   have hw := hw.call h4963
   have hw := hw.addE (e := SlA p4956 rv4955.1.Num.length k4957 rv4955.1.Num) h4958
   have hw := hw.addE (e := SlA p4959 rv4955.1.Den.length k4960 rv4955.1.Den) h4961
   refine mv hs rfl rfl fun a hs => ?_
   refine sv hs (y_extract rfl rfl) rfl fun a hs => ?_
   refine sv hs (y_extract rfl rfl) rfl fun a hs => ?_
   refine w_alloc (cs := [.slice none ([] : List Int).length 0, .slice none ([] : List Int).length 0]) hs hw Try.zeroValue31 rfl rfl trivial ?_
   intro b4967 a w hs hw
   refine w_store (m := 2) (cs' := [.slice p4956 rv4955.1.Num.length k4957, .slice p4959 rv4955.1.Den.length k4960]) hs hw 0 rfl rfl rfl Try.sizeOf31 rfl rfl rfl rfl trivial ?_
   intro a w hs hw
   refine av hs rfl rfl fun a hs => ?_
   refine nl ?_
   refine sr ?_
   refine sv hs (y_loadBA (hw.ownAt 6 rfl) rfl Try.isAgg37 Try.sizeOf37 rfl rfl) rfl fun a hs => ?_
   refine sv hs (y_indexAtA (q := 0) Try.runUnderlying64 Try.sizeOf3 rfl rfl (by decide) (by decide) rfl) rfl fun a hs => ?_
   refine sv hs (y_loadB1 (hw.ownAt 1 rfl) rfl Try.isAgg3 rfl) rfl fun a hs => ?_
   refine sv hs (y_indexAtA (q := 1) Try.runUnderlying64 Try.sizeOf3 rfl rfl (by decide) (by decide) rfl) rfl fun a hs => ?_
   refine sv hs (y_loadB1 (hw.ownAt 1 rfl) rfl Try.isAgg3 rfl) rfl fun a hs => ?_
   obtain ⟨rv4969, h4968, hsh⟩ := bind_t hsh
   refine st_callR hs (ref18_Gain_ok h4968 hw.dom (hw.envAt 5 rfl)) (do_call Try.call26 rfl) trivial rfl rfl ?_
   intro v4979 Sv4976 w a h4977 h4978 hs
   obtain ⟨p4970, k4971, p4973, k4974, rfl, h4972, h4975⟩ := h4978
   have hw := hw.call h4977
   have hw := hw.addE (e := SlA p4970 rv4969.1.Num.length k4971 rv4969.1.Num) h4972
   have hw := hw.addE (e := SlA p4973 rv4969.1.Den.length k4974 rv4969.1.Den) h4975
   refine mv hs rfl rfl fun a hs => ?_
   refine sv hs (y_extract rfl rfl) rfl fun a hs => ?_
   refine sv hs (y_extract rfl rfl) rfl fun a hs => ?_
   refine w_alloc (cs := [.slice none ([] : List Int).length 0, .slice none ([] : List Int).length 0]) hs hw Try.zeroValue31 rfl rfl trivial ?_
   intro b4981 a w hs hw
   refine w_store (m := 2) (cs' := [.slice p4970 rv4969.1.Num.length k4971, .slice p4973 rv4969.1.Den.length k4974]) hs hw 0 rfl rfl rfl Try.sizeOf31 rfl rfl rfl rfl trivial ?_
   intro a w hs hw
   refine av hs rfl rfl fun a hs => ?_
   refine nl ?_
   refine sr ?_
   refine mv hs rfl rfl fun a hs => ?_
   refine mv hs rfl rfl fun a hs => ?_
   refine sv hs (y_neq rfl rfl) rfl fun a hs => ?_
   refine mv hs rfl rfl fun a hs => ?_
   obtain ⟨c4990, hc4990, hsh⟩ := bind_t hsh
   refine wpl_join 5 (fun a w => ∃ (Sv4991 : Nat → Prop), Sl 293 [(3, .int .i64 num10), (4, .int .i64 den11), (7, .pointer (some ⟨b13, 0, none⟩)), (13, .pointer (some ⟨b277, 0, none⟩)), (14, .pointer (some ⟨b314, 0, none⟩)), (15, .pointer (some ⟨b315, 0, none⟩)), (18, .pointer (some ⟨b4483, 0, none⟩)), (92, .slice (some ⟨b383, 0, none⟩) ([rv287.1, (⟨l349⟩ : Response), raw5] : List Response).length ([rv287.1, (⟨l349⟩ : Response), raw5] : List Response).length), (93, .int .i64 (([rv287.1, (⟨l349⟩ : Response), raw5] : List Response).length : Int)), (94, .int .i64 sv2136.2.2), (114, .slice (some ⟨b4531, 0, none⟩) ([(⟨num10, den11⟩ : (Arr2 Int)), (⟨rv4485.1, (w64 (1 + rv4495.1))⟩ : (Arr2 Int)), (⟨rv4507.1, rv4520.1⟩ : (Arr2 Int))] : List (Arr2 Int)).length ([(⟨num10, den11⟩ : (Arr2 Int)), (⟨rv4485.1, (w64 (1 + rv4495.1))⟩ : (Arr2 Int)), (⟨rv4507.1, rv4520.1⟩ : (Arr2 Int))] : List (Arr2 Int)).length), (115, .int .i64 (([(⟨num10, den11⟩ : (Arr2 Int)), (⟨rv4485.1, (w64 (1 + rv4495.1))⟩ : (Arr2 Int)), (⟨rv4507.1, rv4520.1⟩ : (Arr2 Int))] : List (Arr2 Int)).length : Int)), (116, .int .i64 sv4708), (146, .bool c4990)] a ∧ Wd ⟨w0, S0, []⟩ Sv4991 [.box b13 [.int .i64 rate9.Num, .int .i64 rate9.Den] 51, .box b277 [.slice p4521 rv4520.2.L.length k4522, .int .i64 rv4520.2.At] 84, .box b314 [.slice p288 rv287.1.Stages.length k289] 37, .box b315 [.slice p302 rv301.1.Stages.length k303] 37, .box b4483 [.slice p4479 x4472.Stages.length k4481] 37, .row (some ⟨b383, 0, none⟩) ([rv287.1, (⟨l349⟩ : Response), raw5] : List Response).length ([rv287.1, (⟨l349⟩ : Response), raw5] : List Response).length [.slice p288 rv287.1.Stages.length k289, .slice p350 l349.length k351, .slice p6 raw5.Stages.length k7] 37 1, .row (some ⟨b4531, 0, none⟩) ([(⟨num10, den11⟩ : (Arr2 Int)), (⟨rv4485.1, (w64 (1 + rv4495.1))⟩ : (Arr2 Int)), (⟨rv4507.1, rv4520.1⟩ : (Arr2 Int))] : List (Arr2 Int)).length ([(⟨num10, den11⟩ : (Arr2 Int)), (⟨rv4485.1, (w64 (1 + rv4495.1))⟩ : (Arr2 Int)), (⟨rv4507.1, rv4520.1⟩ : (Arr2 Int))] : List (Arr2 Int)).length [.int .i64 num10, .int .i64 den11, .int .i64 rv4485.1, .int .i64 (w64 (1 + rv4495.1)), .int .i64 rv4507.1, .int .i64 rv4520.1] 64 2] [SlA p4521 rv4520.2.L.length k4522 rv4520.2.L, SlA p288 rv287.1.Stages.length k289 rv287.1.Stages, SlA p302 rv301.1.Stages.length k303 rv301.1.Stages, SlA p4479 x4472.Stages.length k4481 x4472.Stages, RowA [.slice p288 rv287.1.Stages.length k289, .slice p350 l349.length k351, .slice p6 raw5.Stages.length k7] ([rv287.1, (⟨l349⟩ : Response), raw5] : List Response), RowA [.int .i64 num10, .int .i64 den11, .int .i64 rv4485.1, .int .i64 (w64 (1 + rv4495.1)), .int .i64 rv4507.1, .int .i64 rv4520.1] ([(⟨num10, den11⟩ : (Arr2 Int)), (⟨rv4485.1, (w64 (1 + rv4495.1))⟩ : (Arr2 Int)), (⟨rv4507.1, rv4520.1⟩ : (Arr2 Int))] : List (Arr2 Int))] w) ?_ ?_
   ·rcases Bool.eq_false_or_eq_true (rv4955.2 != rv4969.2) with h4989 | h4989
    ·have hs := hs.fix 141 (.bool true) rfl (vb h4989)
     have hsh := ite_t hc4990 h4989
     refine st_skip hs rfl rfl rfl rfl rfl fun a hs => ?_
     refine st_skip hs rfl rfl rfl rfl rfl fun a hs => ?_
     refine st_skip hs rfl rfl rfl rfl rfl fun a hs => ?_
     refine st_skip hs rfl rfl rfl rfl rfl fun a hs => ?_
     refine sv hs (y_pickT rfl rfl) rfl fun a hs => ?_
     refine wpList_nil ?_
     have hsh := oi hsh
     subst hsh
     refine then_normal ?_
     exact ⟨Sv4976, (hs.wk rfl), (hw.ft [3, 4, 5, 6, 7, 8, 9] [4, 5, 6, 7, 8, 9] (by decide) rfl rfl)⟩
    have hs := hs.fix 141 (.bool false) rfl (vb h4989)
    have hsh := ite_f hc4990 h4989
    refine st_val hs (y_loadBA (hw.ownAt 1 rfl) rfl Try.isAgg31 Try.sizeOf31 rfl rfl) ⟨_, rfl, rfl⟩ rfl rfl fun a hs => ?_
    refine st_val hs (y_loadBA (hw.ownAt 0 rfl) rfl Try.isAgg31 Try.sizeOf31 rfl rfl) ⟨_, rfl, rfl⟩ rfl rfl fun a hs => ?_
    obtain ⟨rv4993, h4992, hsh⟩ := bind_t hsh
    refine st_callR hs (ref17_SameFraction_ok h4992 hw.bdom (hw.bE 3 rfl) (hw.bE 2 rfl) (hw.bE 1 rfl) (hw.bE 0 rfl)) (do_call Try.call27 rfl) ⟨_, rfl, rfl⟩ rfl rfl ?_
    intro v4997 Sv4994 w a h4995 h4996 hs
    subst h4996
    have hw := hw.callB h4995
    refine st_val hs (y_not rfl) ⟨_, rfl, rfl⟩ rfl rfl fun a hs => ?_
    refine sv hs (y_pickF rfl rfl) rfl fun a hs => ?_
    refine wpList_nil ?_
    have hsh := oi hsh
    subst hsh
    refine then_normal ?_
    exact ⟨Sv4976, (hs.wk rfl), (hw.ft [3, 4, 5, 6, 7, 8, 9] [4, 5, 6, 7, 8, 9] (by decide) rfl rfl)⟩
   rintro a w ⟨Sv4991, hs, hw⟩
   refine nl ?_
   refine wp_cond_split (hs.ev rfl) (fun h5000 => ?_) (fun h5000 => ?_)
   ·have hsh := ite_t hsh h5000
    refine sr ?_
    refine av hs rfl rfl fun a hs => ?_
    refine nl ?_
    have hsh := oi hsh
    subst hsh
    have h5001 := hd4882 _ rfl
    subst h5001
    have h5002 := hd3884 _ rfl
    subst h5002
    refine wp_ret ?_
    refine blk_ret ?_
    refine then_ret ?_
    refine then_ret ?_
    refine blk_ret ?_
    refine then_ret ?_
    refine blk_ret ?_
    refine then_ret ?_
    refine then_ret ?_
    refine blk_ret ?_
    refine then_ret ?_
    exact ret1 hs rfl (rv_tmp rfl) (hw.ret rfl)
   have hsh := ite_f hsh h5000
   refine wp_skip ?_
   refine blk_normal ?_
   refine then_normal ?_
   refine wp_region_lit ?_
   refine sv hs (y_add rfl rfl) rfl fun a hs => ?_
   refine mv hs rfl rfl fun a hs => ?_
   refine nl ?_
   exact ⟨_, (Option.some.inj hsh).symm, Sv4991, (hs.wk rfl), (hw.ft [0, 1, 2, 3, 4, 5, 6] [0, 1, 2, 3, 4, 5] (by decide) rfl rfl)⟩
  have hsh := ite_f hsh h4887
  obtain ⟨rv5947, hsh, h5948⟩ := map_t hsh
  have h5948 := (hd4882 _ h5948.symm).symm
  subst h5948
  refine wp_exit ?_
  refine then_exit ?_
  refine then_exit ?_
  refine blk_exit ?_
  refine then_normal ?_
  refine wp_seq ?_
  refine wp_seq ?_
  obtain ⟨rv5004, h5003, hsh⟩ := bind_t hsh
  refine wp_only (fun a w => ∃ (Sv5010 : Nat → Prop) (b5009 : Nat) (k5006 : Nat) (p5005 : Option Addr), Sl 293 [(3, .int .i64 num10), (4, .int .i64 den11), (7, .pointer (some ⟨b13, 0, none⟩)), (13, .pointer (some ⟨b277, 0, none⟩)), (14, .pointer (some ⟨b314, 0, none⟩)), (15, .pointer (some ⟨b315, 0, none⟩)), (18, .pointer (some ⟨b4483, 0, none⟩)), (92, .slice (some ⟨b383, 0, none⟩) ([rv287.1, (⟨l349⟩ : Response), raw5] : List Response).length ([rv287.1, (⟨l349⟩ : Response), raw5] : List Response).length), (93, .int .i64 (([rv287.1, (⟨l349⟩ : Response), raw5] : List Response).length : Int)), (94, .int .i64 sv2136.2.2), (152, .slice (some ⟨b5009, 0, none⟩) ([rate9, rv5004.1, (⟨2, 2⟩ : Rate)] : List Rate).length ([rate9, rv5004.1, (⟨2, 2⟩ : Rate)] : List Rate).length), (153, .int .i64 (([rate9, rv5004.1, (⟨2, 2⟩ : Rate)] : List Rate).length : Int)), (154, .int .i64 0)] a ∧ Wd ⟨w0, S0, []⟩ Sv5010 [.box b13 [.int .i64 rate9.Num, .int .i64 rate9.Den] 51, .box b277 [.slice p5005 rv5004.2.L.length k5006, .int .i64 rv5004.2.At] 84, .box b314 [.slice p288 rv287.1.Stages.length k289] 37, .box b315 [.slice p302 rv301.1.Stages.length k303] 37, .box b4483 [.slice p4479 x4472.Stages.length k4481] 37, .row (some ⟨b383, 0, none⟩) ([rv287.1, (⟨l349⟩ : Response), raw5] : List Response).length ([rv287.1, (⟨l349⟩ : Response), raw5] : List Response).length [.slice p288 rv287.1.Stages.length k289, .slice p350 l349.length k351, .slice p6 raw5.Stages.length k7] 37 1, .row (some ⟨b5009, 0, none⟩) ([rate9, rv5004.1, (⟨2, 2⟩ : Rate)] : List Rate).length ([rate9, rv5004.1, (⟨2, 2⟩ : Rate)] : List Rate).length [.int .i64 rate9.Num, .int .i64 rate9.Den, .int .i64 rv5004.1.Num, .int .i64 rv5004.1.Den, .int .i64 2, .int .i64 2] 51 2] [SlA p5005 rv5004.2.L.length k5006 rv5004.2.L, SlA p288 rv287.1.Stages.length k289 rv287.1.Stages, SlA p302 rv301.1.Stages.length k303 rv301.1.Stages, SlA p4479 x4472.Stages.length k4481 x4472.Stages, RowA [.slice p288 rv287.1.Stages.length k289, .slice p350 l349.length k351, .slice p6 raw5.Stages.length k7] ([rv287.1, (⟨l349⟩ : Response), raw5] : List Response), RowA [.int .i64 rate9.Num, .int .i64 rate9.Den, .int .i64 rv5004.1.Num, .int .i64 rv5004.1.Den, .int .i64 2, .int .i64 2] ([rate9, rv5004.1, (⟨2, 2⟩ : Rate)] : List Rate)] w) ?_ ?_
  ·refine h_b (C := Cls [.box b13 [.int .i64 rate9.Num, .int .i64 rate9.Den] 51, .box b314 [.slice p288 rv287.1.Stages.length k289] 37, .box b315 [.slice p302 rv301.1.Stages.length k303] 37, .box b4483 [.slice p4479 x4472.Stages.length k4481] 37, .row (some ⟨b383, 0, none⟩) ([rv287.1, (⟨l349⟩ : Response), raw5] : List Response).length ([rv287.1, (⟨l349⟩ : Response), raw5] : List Response).length [.slice p288 rv287.1.Stages.length k289, .slice p350 l349.length k351, .slice p6 raw5.Stages.length k7] 37 1, .row (some ⟨b4531, 0, none⟩) ([(⟨num10, den11⟩ : (Arr2 Int)), (⟨rv4485.1, (w64 (1 + rv4495.1))⟩ : (Arr2 Int)), (⟨rv4507.1, rv4520.1⟩ : (Arr2 Int))] : List (Arr2 Int)).length ([(⟨num10, den11⟩ : (Arr2 Int)), (⟨rv4485.1, (w64 (1 + rv4495.1))⟩ : (Arr2 Int)), (⟨rv4507.1, rv4520.1⟩ : (Arr2 Int))] : List (Arr2 Int)).length [.int .i64 num10, .int .i64 den11, .int .i64 rv4485.1, .int .i64 (w64 (1 + rv4495.1)), .int .i64 rv4507.1, .int .i64 rv4520.1] 64 2] []) (by kernel_rfl) rfl (hw.drew.cs [0, 2, 3, 4, 5, 6] [] rfl rfl) fun hC => ?_
   have hw := hw.drew
   refine gv hs 0 rfl rfl hC (fun w hC => y_loadBA (hC.ownAt 0 rfl) rfl Try.isAgg51 Try.sizeOf51 rfl rfl) fun a hs => ?_
   refine gm hs 1 rfl rfl rfl hC fun a hs => ?_
   refine gv hs 3 rfl rfl hC (fun w hC => y_build (vs := [(0, .int .i64 2), (1, .int .i64 2)]) Bld51 rfl rfl) fun a hs => ?_
   refine gm hs 6 rfl rfl rfl hC fun a hs => ?_
   refine ho 2 rfl ?_
   refine st_callR hs (made_Dice_Rate_ok h5003 hw.dom (hw.ins [1] (by decide) rfl) (hw.envAt 0 rfl)) (do_call Try.call17 rfl) trivial rfl rfl ?_
   intro v5014 Sv5011 w a h5012 h5013 hs
   obtain ⟨p5005, k5006, rfl, h5015, h5007⟩ := h5013
   have hw := hw.callO [1] [0, 2, 3, 4, 5, 6] (by decide) rfl h5012 h5015
   have hw := hw.addE (e := SlA p5005 rv5004.2.L.length k5006 rv5004.2.L) h5007
   refine h_nx (hw.cs [1, 2, 3, 4, 5, 6] [] rfl rfl) fun hC => ?_
   refine ho 4 rfl ?_
   refine w_litSlice (α := Rate) (vs := [.agg #[.int .i64 rate9.Num, .int .i64 rate9.Den], .agg #[.int .i64 rv5004.1.Num, .int .i64 rv5004.1.Den], .agg #[.int .i64 2, .int .i64 2]]) (cs := [.int .i64 rate9.Num, .int .i64 rate9.Den, .int .i64 rv5004.1.Num, .int .i64 rv5004.1.Den, .int .i64 2, .int .i64 2]) (xs := ([rate9, rv5004.1, (⟨2, 2⟩ : Rate)] : List Rate)) hs hw El69 rfl rfl rfl rfl rfl rfl ⟨⟨_, _, rfl, rfl, rfl⟩, ⟨⟨_, _, rfl, rfl, rfl⟩, ⟨⟨_, _, rfl, rfl, rfl⟩, rfl⟩⟩⟩ rfl trivial rfl fun b5009 a w hs hw => ?_
   refine h_nx (hw.cs [2, 3, 4, 5, 6, 7] [] rfl rfl) fun hC => ?_
   refine h_st (C' := Cls [.box b13 [.int .i64 rate9.Num, .int .i64 rate9.Den] 51, .box b314 [.slice p288 rv287.1.Stages.length k289] 37, .box b315 [.slice p302 rv301.1.Stages.length k303] 37, .box b4483 [.slice p4479 x4472.Stages.length k4481] 37, .row (some ⟨b383, 0, none⟩) ([rv287.1, (⟨l349⟩ : Response), raw5] : List Response).length ([rv287.1, (⟨l349⟩ : Response), raw5] : List Response).length [.slice p288 rv287.1.Stages.length k289, .slice p350 l349.length k351, .slice p6 raw5.Stages.length k7] 37 1, .row (some ⟨b4531, 0, none⟩) ([(⟨num10, den11⟩ : (Arr2 Int)), (⟨rv4485.1, (w64 (1 + rv4495.1))⟩ : (Arr2 Int)), (⟨rv4507.1, rv4520.1⟩ : (Arr2 Int))] : List (Arr2 Int)).length ([(⟨num10, den11⟩ : (Arr2 Int)), (⟨rv4485.1, (w64 (1 + rv4495.1))⟩ : (Arr2 Int)), (⟨rv4507.1, rv4520.1⟩ : (Arr2 Int))] : List (Arr2 Int)).length [.int .i64 num10, .int .i64 den11, .int .i64 rv4485.1, .int .i64 (w64 (1 + rv4495.1)), .int .i64 rv4507.1, .int .i64 rv4520.1] 64 2, .row (some ⟨b5009, 0, none⟩) ([rate9, rv5004.1, (⟨2, 2⟩ : Rate)] : List Rate).length ([rate9, rv5004.1, (⟨2, 2⟩ : Rate)] : List Rate).length [.int .i64 rate9.Num, .int .i64 rate9.Den, .int .i64 rv5004.1.Num, .int .i64 rv5004.1.Den, .int .i64 2, .int .i64 2] 51 2] []) (fun _ h => by exact h.sub [0, 1, 2, 3, 4, 5] (Sel.of rfl) (AllIn.of [] rfl)) (hw.cs [2, 3, 4, 5, 6, 7, 0] [] rfl rfl) fun hC => ?_
   refine gv hs 5 rfl rfl hC (fun w hC => y_len Try.runUnderlying69 rfl) fun a hs => ?_
   refine h_done (by kernel_rfl) ?_
   exact ⟨Sv5011, b5009, k5006, p5005, (hs.wk rfl), (hw.ft [2, 1, 3, 4, 5, 6, 0] [1, 3, 4, 5, 6, 0] (by decide) rfl rfl)⟩
  rintro a w ⟨Sv5010, b5009, k5006, p5005, hs, hw⟩
  refine then_normal ?_
  refine wp_block ?_
  refine wp_while (fun sv5171 a w => ∃ (Sv5273 : Nat → Prop), Sl 293 [(3, .int .i64 num10), (4, .int .i64 den11), (7, .pointer (some ⟨b13, 0, none⟩)), (13, .pointer (some ⟨b277, 0, none⟩)), (14, .pointer (some ⟨b314, 0, none⟩)), (15, .pointer (some ⟨b315, 0, none⟩)), (18, .pointer (some ⟨b4483, 0, none⟩)), (92, .slice (some ⟨b383, 0, none⟩) ([rv287.1, (⟨l349⟩ : Response), raw5] : List Response).length ([rv287.1, (⟨l349⟩ : Response), raw5] : List Response).length), (93, .int .i64 (([rv287.1, (⟨l349⟩ : Response), raw5] : List Response).length : Int)), (94, .int .i64 sv2136.2.2), (152, .slice (some ⟨b5009, 0, none⟩) ([rate9, rv5004.1, (⟨2, 2⟩ : Rate)] : List Rate).length ([rate9, rv5004.1, (⟨2, 2⟩ : Rate)] : List Rate).length), (153, .int .i64 (([rate9, rv5004.1, (⟨2, 2⟩ : Rate)] : List Rate).length : Int)), (154, .int .i64 sv5171)] a ∧ Wd ⟨w0, S0, []⟩ Sv5273 [.box b13 [.int .i64 rate9.Num, .int .i64 rate9.Den] 51, .box b277 [.slice p5005 rv5004.2.L.length k5006, .int .i64 rv5004.2.At] 84, .box b314 [.slice p288 rv287.1.Stages.length k289] 37, .box b315 [.slice p302 rv301.1.Stages.length k303] 37, .box b4483 [.slice p4479 x4472.Stages.length k4481] 37, .row (some ⟨b383, 0, none⟩) ([rv287.1, (⟨l349⟩ : Response), raw5] : List Response).length ([rv287.1, (⟨l349⟩ : Response), raw5] : List Response).length [.slice p288 rv287.1.Stages.length k289, .slice p350 l349.length k351, .slice p6 raw5.Stages.length k7] 37 1, .row (some ⟨b5009, 0, none⟩) ([rate9, rv5004.1, (⟨2, 2⟩ : Rate)] : List Rate).length ([rate9, rv5004.1, (⟨2, 2⟩ : Rate)] : List Rate).length [.int .i64 rate9.Num, .int .i64 rate9.Den, .int .i64 rv5004.1.Num, .int .i64 rv5004.1.Den, .int .i64 2, .int .i64 2] 51 2] [SlA p5005 rv5004.2.L.length k5006 rv5004.2.L, SlA p288 rv287.1.Stages.length k289 rv287.1.Stages, SlA p302 rv301.1.Stages.length k303 rv301.1.Stages, SlA p4479 x4472.Stages.length k4481 x4472.Stages, RowA [.slice p288 rv287.1.Stages.length k289, .slice p350 l349.length k351, .slice p6 raw5.Stages.length k7] ([rv287.1, (⟨l349⟩ : Response), raw5] : List Response), RowA [.int .i64 rate9.Num, .int .i64 rate9.Den, .int .i64 rv5004.1.Num, .int .i64 rv5004.1.Den, .int .i64 2, .int .i64 2] ([rate9, rv5004.1, (⟨2, 2⟩ : Rate)] : List Rate)] w) 0 hsh ⟨Sv5010, (hs.wk rfl), (hw.ft [0, 1, 2, 3, 4, 5, 6] [0, 1, 2, 3, 4, 5] (by decide) rfl rfl)⟩ ?_
  repeat clear hsh
  rintro sv5171 a w tv5325 ⟨Sv5273, hs, hw⟩ hsh hd5324
  delta law18_ResponseExact_l29 at hsh
  refine sr ?_
  refine sv hs (y_lss rfl rfl) rfl fun a hs => ?_
  refine nl ?_
  refine wp_seq ?_
  refine wp_cond_split (hs.ev rfl) (fun h5329 => ?_) (fun h5329 => ?_)
  ·have hsh := ite_t hsh h5329
   refine wp_skip ?_
   refine then_normal ?_
   refine wp_seq ?_
   refine wp_block ?_
   refine sr ?_
   obtain ⟨x5381, h5379, hsh⟩ := bind_t hsh
   obtain ⟨q5385, c5386, h5382, h5383, h5387, h5380⟩ := hw.elemRK (α := Rate) 6 rfl 5 rfl h5379
   obtain ⟨_, _, rfl, rfl, rfl⟩ := h5380
   refine sv hs (y_indexAt Try.runUnderlying69 Try.sizeOf51 rfl rfl h5382.1 h5382.2 h5383) rfl fun a hs => ?_
   refine sv hs (y_loadQA (j := 0) (hw.ownAt 6 rfl) rfl Try.isAgg51 Try.sizeOf51 h5387 rfl rfl) rfl fun a hs => ?_
   refine w_alloc (cs := [.int .i64 0, .int .i64 0]) hs hw Try.zeroValue51 rfl rfl trivial ?_
   intro b5388 a w hs hw
   refine w_store (m := 2) (cs' := [.int .i64 x5381.Num, .int .i64 x5381.Den]) hs hw 0 rfl rfl rfl Try.sizeOf51 rfl rfl rfl rfl trivial ?_
   intro a w hs hw
   refine nl ?_
   refine sr ?_
   refine sv hs (y_loadBA (hw.ownAt 5 rfl) rfl Try.isAgg37 Try.sizeOf37 rfl rfl) rfl fun a hs => ?_
   refine sv hs (y_loadBA (hw.ownAt 0 rfl) rfl Try.isAgg51 Try.sizeOf51 rfl rfl) rfl fun a hs => ?_
   obtain ⟨rv5390, h5389, hsh⟩ := bind_t hsh
   refine st_callR hs (response_Input_ok h5389 hw.bdom (hw.bE 3 rfl)) (do_call Try.call19 rfl) trivial rfl rfl ?_
   intro v5394 Sv5391 w a h5392 h5393 hs
   subst h5393
   have hw := hw.callB h5392
   refine mv hs rfl rfl fun a hs => ?_
   refine sv hs (y_extract rfl rfl) rfl fun a hs => ?_
   refine sv hs (y_extract rfl rfl) rfl fun a hs => ?_
   refine w_alloc (cs := [.int .i64 0, .int .i64 0]) hs hw Try.zeroValue51 rfl rfl trivial ?_
   intro b5396 a w hs hw
   refine w_store (m := 2) (cs' := [.int .i64 rv5390.1.Num, .int .i64 rv5390.1.Den]) hs hw 0 rfl rfl rfl Try.sizeOf51 rfl rfl rfl rfl trivial ?_
   intro a w hs hw
   refine av hs rfl rfl fun a hs => ?_
   refine nl ?_
   refine sr ?_
   refine sv hs (y_loadBA (hw.ownAt 6 rfl) rfl Try.isAgg37 Try.sizeOf37 rfl rfl) rfl fun a hs => ?_
   refine sv hs (y_loadBA (hw.ownAt 1 rfl) rfl Try.isAgg51 Try.sizeOf51 rfl rfl) rfl fun a hs => ?_
   obtain ⟨rv5398, h5397, hsh⟩ := bind_t hsh
   refine st_callR hs (ref18_Input_ok h5397 hw.bdom (hw.bE 3 rfl)) (do_call Try.call28 rfl) trivial rfl rfl ?_
   intro v5402 Sv5399 w a h5400 h5401 hs
   subst h5401
   have hw := hw.callB h5400
   refine mv hs rfl rfl fun a hs => ?_
   refine sv hs (y_extract rfl rfl) rfl fun a hs => ?_
   refine sv hs (y_extract rfl rfl) rfl fun a hs => ?_
   refine w_alloc (cs := [.int .i64 0, .int .i64 0]) hs hw Try.zeroValue51 rfl rfl trivial ?_
   intro b5404 a w hs hw
   refine w_store (m := 2) (cs' := [.int .i64 rv5398.1.Num, .int .i64 rv5398.1.Den]) hs hw 0 rfl rfl rfl Try.sizeOf51 rfl rfl rfl rfl trivial ?_
   intro a w hs hw
   refine av hs rfl rfl fun a hs => ?_
   refine nl ?_
   refine sr ?_
   refine sv hs (y_loadBA (hw.ownAt 7 rfl) rfl Try.isAgg37 Try.sizeOf37 rfl rfl) rfl fun a hs => ?_
   refine sv hs (y_loadBA (hw.ownAt 2 rfl) rfl Try.isAgg51 Try.sizeOf51 rfl rfl) rfl fun a hs => ?_
   obtain ⟨rv5406, h5405, hsh⟩ := bind_t hsh
   refine st_callR hs (response_Delay_ok h5405 hw.bdom (hw.bE 3 rfl)) (do_call Try.call20 rfl) trivial rfl rfl ?_
   intro v5410 Sv5407 w a h5408 h5409 hs
   subst h5409
   have hw := hw.callB h5408
   refine mv hs rfl rfl fun a hs => ?_
   refine sv hs (y_extract rfl rfl) rfl fun a hs => ?_
   refine sv hs (y_extract rfl rfl) rfl fun a hs => ?_
   refine w_alloc (cs := [.int .i64 0, .int .i64 0]) hs hw Try.zeroValue57 rfl rfl trivial ?_
   intro b5412 a w hs hw
   refine w_store (m := 2) (cs' := [.int .i64 rv5406.1.Num, .int .i64 rv5406.1.Den]) hs hw 0 rfl rfl rfl Try.sizeOf57 rfl rfl rfl rfl trivial ?_
   intro a w hs hw
   refine av hs rfl rfl fun a hs => ?_
   refine nl ?_
   refine sr ?_
   refine sv hs (y_loadBA (hw.ownAt 8 rfl) rfl Try.isAgg37 Try.sizeOf37 rfl rfl) rfl fun a hs => ?_
   refine sv hs (y_loadBA (hw.ownAt 3 rfl) rfl Try.isAgg51 Try.sizeOf51 rfl rfl) rfl fun a hs => ?_
   obtain ⟨rv5414, h5413, hsh⟩ := bind_t hsh
   refine st_callR hs (ref18_Delay_ok h5413 hw.bdom (hw.bE 3 rfl)) (do_call Try.call29 rfl) trivial rfl rfl ?_
   intro v5418 Sv5415 w a h5416 h5417 hs
   subst h5417
   have hw := hw.callB h5416
   refine mv hs rfl rfl fun a hs => ?_
   refine sv hs (y_extract rfl rfl) rfl fun a hs => ?_
   refine sv hs (y_extract rfl rfl) rfl fun a hs => ?_
   refine w_alloc (cs := [.int .i64 0, .int .i64 0]) hs hw Try.zeroValue57 rfl rfl trivial ?_
   intro b5420 a w hs hw
   refine w_store (m := 2) (cs' := [.int .i64 rv5414.1.Num, .int .i64 rv5414.1.Den]) hs hw 0 rfl rfl rfl Try.sizeOf57 rfl rfl rfl rfl trivial ?_
   intro a w hs hw
   refine av hs rfl rfl fun a hs => ?_
   refine nl ?_
   refine sr ?_
   refine sv hs (y_loadBA (hw.ownAt 3 rfl) rfl Try.isAgg51 Try.sizeOf51 rfl rfl) rfl fun a hs => ?_
   refine sv hs (y_loadBA (hw.ownAt 2 rfl) rfl Try.isAgg51 Try.sizeOf51 rfl rfl) rfl fun a hs => ?_
   refine sv hs (y_neqA (by kernel_rfl) rfl rfl (eqv_struct Try.runUnderlying51 (by kernel_rfl) (EqF.cons1 rfl Try.isAgg3 rfl rfl (eqv_int Try.runUnderlying3) (EqF.cons1 rfl Try.isAgg3 rfl rfl (eqv_int Try.runUnderlying3) EqF.nil)))) rfl fun a hs => ?_
   refine mv hs rfl rfl fun a hs => ?_
   refine wpl_join 4 (fun a w1 => w = w1 ∧ Sl 293 [(3, .int .i64 num10), (4, .int .i64 den11), (7, .pointer (some ⟨b13, 0, none⟩)), (13, .pointer (some ⟨b277, 0, none⟩)), (14, .pointer (some ⟨b314, 0, none⟩)), (15, .pointer (some ⟨b315, 0, none⟩)), (18, .pointer (some ⟨b4483, 0, none⟩)), (31, .pointer (some ⟨b5412, 0, none⟩)), (32, .int .i64 rv5406.2), (33, .pointer (some ⟨b5420, 0, none⟩)), (34, .int .i64 rv5414.2), (92, .slice (some ⟨b383, 0, none⟩) ([rv287.1, (⟨l349⟩ : Response), raw5] : List Response).length ([rv287.1, (⟨l349⟩ : Response), raw5] : List Response).length), (93, .int .i64 (([rv287.1, (⟨l349⟩ : Response), raw5] : List Response).length : Int)), (94, .int .i64 sv2136.2.2), (152, .slice (some ⟨b5009, 0, none⟩) ([rate9, rv5004.1, (⟨2, 2⟩ : Rate)] : List Rate).length ([rate9, rv5004.1, (⟨2, 2⟩ : Rate)] : List Rate).length), (153, .int .i64 (([rate9, rv5004.1, (⟨2, 2⟩ : Rate)] : List Rate).length : Int)), (154, .int .i64 sv5171), (189, .bool ((!((rv5390.1.Num == rv5398.1.Num) && ((rv5390.1.Den == rv5398.1.Den) && true))) || (rv5390.2 != rv5398.2)))] a) ?_ ?_
   ·rcases Bool.eq_false_or_eq_true (!((rv5390.1.Num == rv5398.1.Num) && ((rv5390.1.Den == rv5398.1.Den) && true))) with h5421 | h5421
    ·have hs := hs.fix 185 (.bool true) rfl (vb h5421)
     refine st_skip hs rfl rfl rfl rfl rfl fun a hs => ?_
     refine st_skip hs rfl rfl rfl rfl rfl fun a hs => ?_
     refine st_skip hs rfl rfl rfl rfl rfl fun a hs => ?_
     refine sv hs (y_pickT rfl rfl) rfl fun a hs => ?_
     refine nl ?_
     exact ⟨rfl, (hs.fix 189 (.bool ((!((rv5390.1.Num == rv5398.1.Num) && ((rv5390.1.Den == rv5398.1.Den) && true))) || (rv5390.2 != rv5398.2))) rfl (or_t h5421)).weaken _ ⟨rfl, rfl, rfl, rfl, rfl, rfl, rfl, rfl, rfl, rfl, rfl, rfl, rfl, rfl, rfl, rfl, rfl, rfl, trivial⟩⟩
    have hs := hs.fix 185 (.bool false) rfl (vb h5421)
    refine st_val hs (y_move rfl) ⟨_, rfl, rfl⟩ rfl rfl fun a hs => ?_
    refine st_val hs (y_move rfl) ⟨_, rfl, rfl⟩ rfl rfl fun a hs => ?_
    refine st_val hs (y_neq rfl rfl) ⟨_, rfl, rfl⟩ rfl rfl fun a hs => ?_
    refine sv hs (y_pickF rfl rfl) rfl fun a hs => ?_
    refine nl ?_
    exact ⟨rfl, (hs.fix 189 (.bool ((!((rv5390.1.Num == rv5398.1.Num) && ((rv5390.1.Den == rv5398.1.Den) && true))) || (rv5390.2 != rv5398.2))) rfl (or_f h5421)).weaken _ ⟨rfl, rfl, rfl, rfl, rfl, rfl, rfl, rfl, rfl, rfl, rfl, rfl, rfl, rfl, rfl, rfl, rfl, rfl, trivial⟩⟩
   rintro a w1 ⟨h5430, hs⟩
   subst h5430
   refine mv hs rfl rfl fun a hs => ?_
   refine wpl_join 4 (fun a w1 => w = w1 ∧ Sl 293 [(3, .int .i64 num10), (4, .int .i64 den11), (7, .pointer (some ⟨b13, 0, none⟩)), (13, .pointer (some ⟨b277, 0, none⟩)), (14, .pointer (some ⟨b314, 0, none⟩)), (15, .pointer (some ⟨b315, 0, none⟩)), (18, .pointer (some ⟨b4483, 0, none⟩)), (32, .int .i64 rv5406.2), (34, .int .i64 rv5414.2), (92, .slice (some ⟨b383, 0, none⟩) ([rv287.1, (⟨l349⟩ : Response), raw5] : List Response).length ([rv287.1, (⟨l349⟩ : Response), raw5] : List Response).length), (93, .int .i64 (([rv287.1, (⟨l349⟩ : Response), raw5] : List Response).length : Int)), (94, .int .i64 sv2136.2.2), (152, .slice (some ⟨b5009, 0, none⟩) ([rate9, rv5004.1, (⟨2, 2⟩ : Rate)] : List Rate).length ([rate9, rv5004.1, (⟨2, 2⟩ : Rate)] : List Rate).length), (153, .int .i64 (([rate9, rv5004.1, (⟨2, 2⟩ : Rate)] : List Rate).length : Int)), (154, .int .i64 sv5171), (194, .bool (((!((rv5390.1.Num == rv5398.1.Num) && ((rv5390.1.Den == rv5398.1.Den) && true))) || (rv5390.2 != rv5398.2)) || (!((rv5406.1.Num == rv5414.1.Num) && ((rv5406.1.Den == rv5414.1.Den) && true)))))] a) ?_ ?_
   ·rcases Bool.eq_false_or_eq_true ((!((rv5390.1.Num == rv5398.1.Num) && ((rv5390.1.Den == rv5398.1.Den) && true))) || (rv5390.2 != rv5398.2)) with h5422 | h5422
    ·have hs := hs.fix 190 (.bool true) rfl (vb h5422)
     refine st_skip hs rfl rfl rfl rfl rfl fun a hs => ?_
     refine st_skip hs rfl rfl rfl rfl rfl fun a hs => ?_
     refine st_skip hs rfl rfl rfl rfl rfl fun a hs => ?_
     refine sv hs (y_pickT rfl rfl) rfl fun a hs => ?_
     refine nl ?_
     exact ⟨rfl, (hs.fix 194 (.bool (((!((rv5390.1.Num == rv5398.1.Num) && ((rv5390.1.Den == rv5398.1.Den) && true))) || (rv5390.2 != rv5398.2)) || (!((rv5406.1.Num == rv5414.1.Num) && ((rv5406.1.Den == rv5414.1.Den) && true))))) rfl (or_t h5422)).weaken _ ⟨rfl, rfl, rfl, rfl, rfl, rfl, rfl, rfl, rfl, rfl, rfl, rfl, rfl, rfl, rfl, rfl, trivial⟩⟩
    have hs := hs.fix 190 (.bool false) rfl (vb h5422)
    refine st_val hs (y_loadBA (hw.ownAt 1 rfl) rfl Try.isAgg57 Try.sizeOf57 rfl rfl) ⟨_, rfl, rfl⟩ rfl rfl fun a hs => ?_
    refine st_val hs (y_loadBA (hw.ownAt 0 rfl) rfl Try.isAgg57 Try.sizeOf57 rfl rfl) ⟨_, rfl, rfl⟩ rfl rfl fun a hs => ?_
    refine st_val hs (y_neqA (by kernel_rfl) rfl rfl (eqv_struct Try.runUnderlying57 (by kernel_rfl) (EqF.cons1 rfl Try.isAgg3 rfl rfl (eqv_int Try.runUnderlying3) (EqF.cons1 rfl Try.isAgg3 rfl rfl (eqv_int Try.runUnderlying3) EqF.nil)))) ⟨_, rfl, rfl⟩ rfl rfl fun a hs => ?_
    refine sv hs (y_pickF rfl rfl) rfl fun a hs => ?_
    refine nl ?_
    exact ⟨rfl, (hs.fix 194 (.bool (((!((rv5390.1.Num == rv5398.1.Num) && ((rv5390.1.Den == rv5398.1.Den) && true))) || (rv5390.2 != rv5398.2)) || (!((rv5406.1.Num == rv5414.1.Num) && ((rv5406.1.Den == rv5414.1.Den) && true))))) rfl (or_f h5422)).weaken _ ⟨rfl, rfl, rfl, rfl, rfl, rfl, rfl, rfl, rfl, rfl, rfl, rfl, rfl, rfl, rfl, rfl, trivial⟩⟩
   rintro a w1 ⟨h5429, hs⟩
   subst h5429
   refine mv hs rfl rfl fun a hs => ?_
   refine wpl_join 4 (fun a w1 => w = w1 ∧ Sl 293 [(3, .int .i64 num10), (4, .int .i64 den11), (7, .pointer (some ⟨b13, 0, none⟩)), (13, .pointer (some ⟨b277, 0, none⟩)), (14, .pointer (some ⟨b314, 0, none⟩)), (15, .pointer (some ⟨b315, 0, none⟩)), (18, .pointer (some ⟨b4483, 0, none⟩)), (92, .slice (some ⟨b383, 0, none⟩) ([rv287.1, (⟨l349⟩ : Response), raw5] : List Response).length ([rv287.1, (⟨l349⟩ : Response), raw5] : List Response).length), (93, .int .i64 (([rv287.1, (⟨l349⟩ : Response), raw5] : List Response).length : Int)), (94, .int .i64 sv2136.2.2), (152, .slice (some ⟨b5009, 0, none⟩) ([rate9, rv5004.1, (⟨2, 2⟩ : Rate)] : List Rate).length ([rate9, rv5004.1, (⟨2, 2⟩ : Rate)] : List Rate).length), (153, .int .i64 (([rate9, rv5004.1, (⟨2, 2⟩ : Rate)] : List Rate).length : Int)), (154, .int .i64 sv5171), (199, .bool ((((!((rv5390.1.Num == rv5398.1.Num) && ((rv5390.1.Den == rv5398.1.Den) && true))) || (rv5390.2 != rv5398.2)) || (!((rv5406.1.Num == rv5414.1.Num) && ((rv5406.1.Den == rv5414.1.Den) && true)))) || (rv5406.2 != rv5414.2)))] a) ?_ ?_
   ·rcases Bool.eq_false_or_eq_true (((!((rv5390.1.Num == rv5398.1.Num) && ((rv5390.1.Den == rv5398.1.Den) && true))) || (rv5390.2 != rv5398.2)) || (!((rv5406.1.Num == rv5414.1.Num) && ((rv5406.1.Den == rv5414.1.Den) && true)))) with h5423 | h5423
    ·have hs := hs.fix 195 (.bool true) rfl (vb h5423)
     refine st_skip hs rfl rfl rfl rfl rfl fun a hs => ?_
     refine st_skip hs rfl rfl rfl rfl rfl fun a hs => ?_
     refine st_skip hs rfl rfl rfl rfl rfl fun a hs => ?_
     refine sv hs (y_pickT rfl rfl) rfl fun a hs => ?_
     refine nl ?_
     exact ⟨rfl, (hs.fix 199 (.bool ((((!((rv5390.1.Num == rv5398.1.Num) && ((rv5390.1.Den == rv5398.1.Den) && true))) || (rv5390.2 != rv5398.2)) || (!((rv5406.1.Num == rv5414.1.Num) && ((rv5406.1.Den == rv5414.1.Den) && true)))) || (rv5406.2 != rv5414.2))) rfl (or_t h5423)).weaken _ ⟨rfl, rfl, rfl, rfl, rfl, rfl, rfl, rfl, rfl, rfl, rfl, rfl, rfl, rfl, trivial⟩⟩
    have hs := hs.fix 195 (.bool false) rfl (vb h5423)
    refine st_val hs (y_move rfl) ⟨_, rfl, rfl⟩ rfl rfl fun a hs => ?_
    refine st_val hs (y_move rfl) ⟨_, rfl, rfl⟩ rfl rfl fun a hs => ?_
    refine st_val hs (y_neq rfl rfl) ⟨_, rfl, rfl⟩ rfl rfl fun a hs => ?_
    refine sv hs (y_pickF rfl rfl) rfl fun a hs => ?_
    refine nl ?_
    exact ⟨rfl, (hs.fix 199 (.bool ((((!((rv5390.1.Num == rv5398.1.Num) && ((rv5390.1.Den == rv5398.1.Den) && true))) || (rv5390.2 != rv5398.2)) || (!((rv5406.1.Num == rv5414.1.Num) && ((rv5406.1.Den == rv5414.1.Den) && true)))) || (rv5406.2 != rv5414.2))) rfl (or_f h5423)).weaken _ ⟨rfl, rfl, rfl, rfl, rfl, rfl, rfl, rfl, rfl, rfl, rfl, rfl, rfl, rfl, trivial⟩⟩
   rintro a w1 ⟨h5428, hs⟩
   subst h5428
   refine nl ?_
   refine wp_cond_split (hs.ev rfl) (fun h5425 => ?_) (fun h5425 => ?_)
   ·have hsh := ite_t hsh h5425
    refine sr ?_
    refine av hs rfl rfl fun a hs => ?_
    refine nl ?_
    have hsh := oi hsh
    subst hsh
    have h5426 := hd5324 _ rfl
    subst h5426
    have h5427 := hd3884 _ rfl
    subst h5427
    refine wp_ret ?_
    refine blk_ret ?_
    refine then_ret ?_
    refine then_ret ?_
    refine blk_ret ?_
    refine then_ret ?_
    refine blk_ret ?_
    refine then_ret ?_
    refine then_ret ?_
    refine blk_ret ?_
    refine then_ret ?_
    exact ret1 hs rfl (rv_tmp rfl) (hw.ret rfl)
   have hsh := ite_f hsh h5425
   refine wp_skip ?_
   refine blk_normal ?_
   refine then_normal ?_
   refine wp_region_lit ?_
   refine sv hs (y_add rfl rfl) rfl fun a hs => ?_
   refine mv hs rfl rfl fun a hs => ?_
   refine nl ?_
   exact ⟨_, (Option.some.inj hsh).symm, Sv5273, (hs.wk rfl), (hw.ft [5, 6, 7, 8, 9, 10, 11] [0, 1, 2, 3, 4, 5] (by decide) rfl rfl)⟩
  have hsh := ite_f hsh h5329
  obtain ⟨rv5945, hsh, h5946⟩ := map_t hsh
  have h5946 := (hd5324 _ h5946.symm).symm
  subst h5946
  refine wp_exit ?_
  refine then_exit ?_
  refine then_exit ?_
  refine blk_exit ?_
  refine then_normal ?_
  refine sr ?_
  refine sv hs (y_loadBA (hw.ownAt 4 rfl) rfl Try.isAgg37 Try.sizeOf37 rfl rfl) rfl fun a hs => ?_
  refine sv hs (y_loadBA (hw.ownAt 3 rfl) rfl Try.isAgg37 Try.sizeOf37 rfl rfl) rfl fun a hs => ?_
  obtain ⟨rv5432, h5431, hsh⟩ := bind_t hsh
  refine st_callR hs (response_Join_ok h5431 hw.dom (hw.envAt 3 rfl) (hw.envAt 2 rfl)) (do_call Try.call16 rfl) trivial rfl rfl ?_
  intro v5440 Sv5437 w a h5438 h5439 hs
  obtain ⟨p5433, k5434, c5436, rfl, h5441, h5435⟩ := h5439
  have hw := hw.callN h5438 h5441
  have hw := hw.addE (e := RowA c5436 rv5432.1.Stages) h5435
  refine mv hs rfl rfl fun a hs => ?_
  refine sv hs (y_extract rfl rfl) rfl fun a hs => ?_
  refine sv hs (y_extract rfl rfl) rfl fun a hs => ?_
  refine w_alloc (cs := [.slice none ([] : List Stage).length 0]) hs hw Try.zeroValue37 rfl rfl trivial ?_
  intro b5442 a w hs hw
  refine w_store (m := 1) (cs' := [.slice p5433 rv5432.1.Stages.length k5434]) hs hw 0 rfl rfl rfl Try.sizeOf37 rfl rfl rfl rfl trivial ?_
  intro a w hs hw
  refine av hs rfl rfl fun a hs => ?_
  refine nl ?_
  refine sr ?_
  refine sv hs (y_loadBA (hw.ownAt 6 rfl) rfl Try.isAgg37 Try.sizeOf37 rfl rfl) rfl fun a hs => ?_
  refine sv hs (y_loadBA (hw.ownAt 5 rfl) rfl Try.isAgg37 Try.sizeOf37 rfl rfl) rfl fun a hs => ?_
  obtain ⟨rv5444, h5443, hsh⟩ := bind_t hsh
  refine st_callR hs (ref18_Join_ok h5443 hw.dom (hw.envAt 4 rfl) (hw.envAt 3 rfl)) (do_call Try.call30 rfl) trivial rfl rfl ?_
  intro v5452 Sv5449 w a h5450 h5451 hs
  obtain ⟨p5445, k5446, c5448, rfl, h5453, h5447⟩ := h5451
  have hw := hw.callN h5450 h5453
  have hw := hw.addE (e := RowA c5448 rv5444.1.Stages) h5447
  refine mv hs rfl rfl fun a hs => ?_
  refine sv hs (y_extract rfl rfl) rfl fun a hs => ?_
  refine sv hs (y_extract rfl rfl) rfl fun a hs => ?_
  refine w_alloc (cs := [.slice none ([] : List Stage).length 0]) hs hw Try.zeroValue37 rfl rfl trivial ?_
  intro b5454 a w hs hw
  refine w_store (m := 1) (cs' := [.slice p5445 rv5444.1.Stages.length k5446]) hs hw 0 rfl rfl rfl Try.sizeOf37 rfl rfl rfl rfl trivial ?_
  intro a w hs hw
  refine av hs rfl rfl fun a hs => ?_
  refine nl ?_
  refine sr ?_
  refine sv hs (y_loadBA (hw.ownAt 8 rfl) rfl Try.isAgg37 Try.sizeOf37 rfl rfl) rfl fun a hs => ?_
  obtain ⟨rv5456, h5455, hsh⟩ := bind_t hsh
  refine st_callR hs (response_Factor_ok h5455 hw.bdom (hw.bE 5 rfl)) (do_call Try.call18 rfl) trivial rfl rfl ?_
  intro v5460 Sv5457 w a h5458 h5459 hs
  subst h5459
  have hw := hw.callB h5458
  refine mv hs rfl rfl fun a hs => ?_
  refine sv hs (y_extract rfl rfl) rfl fun a hs => ?_
  refine sv hs (y_extract rfl rfl) rfl fun a hs => ?_
  refine av hs rfl rfl fun a hs => ?_
  refine av hs rfl rfl fun a hs => ?_
  refine nl ?_
  refine sr ?_
  refine sv hs (y_loadBA (hw.ownAt 8 rfl) rfl Try.isAgg37 Try.sizeOf37 rfl rfl) rfl fun a hs => ?_
  obtain ⟨rv5463, h5462, hsh⟩ := bind_t hsh
  refine st_callR hs (ref18_Factor_ok h5462 hw.bdom (hw.bE 5 rfl)) (do_call Try.call31 rfl) trivial rfl rfl ?_
  intro v5467 Sv5464 w a h5465 h5466 hs
  subst h5466
  have hw := hw.callB h5465
  refine mv hs rfl rfl fun a hs => ?_
  refine sv hs (y_extract rfl rfl) rfl fun a hs => ?_
  refine sv hs (y_extract rfl rfl) rfl fun a hs => ?_
  refine av hs rfl rfl fun a hs => ?_
  refine av hs rfl rfl fun a hs => ?_
  refine nl ?_
  refine wp_seq ?_
  refine wp_seq ?_
  obtain ⟨c5471, hc5471, hsh⟩ := bind_t hsh
  obtain ⟨c5476, hc5476, hsh⟩ := bind_t hsh
  obtain ⟨c5481, hc5481, hsh⟩ := bind_t hsh
  refine wp_only (fun a w => ∃ (Sv5482 : Nat → Prop), Sl 293 [(3, .int .i64 num10), (4, .int .i64 den11), (7, .pointer (some ⟨b13, 0, none⟩)), (13, .pointer (some ⟨b277, 0, none⟩)), (14, .pointer (some ⟨b314, 0, none⟩)), (15, .pointer (some ⟨b315, 0, none⟩)), (18, .pointer (some ⟨b4483, 0, none⟩)), (92, .slice (some ⟨b383, 0, none⟩) ([rv287.1, (⟨l349⟩ : Response), raw5] : List Response).length ([rv287.1, (⟨l349⟩ : Response), raw5] : List Response).length), (93, .int .i64 (([rv287.1, (⟨l349⟩ : Response), raw5] : List Response).length : Int)), (94, .int .i64 sv2136.2.2), (257, .bool c5481)] a ∧ Wd ⟨w0, S0, []⟩ Sv5482 [.box b13 [.int .i64 rate9.Num, .int .i64 rate9.Den] 51, .box b277 [.slice p5005 rv5004.2.L.length k5006, .int .i64 rv5004.2.At] 84, .box b314 [.slice p288 rv287.1.Stages.length k289] 37, .box b315 [.slice p302 rv301.1.Stages.length k303] 37, .box b4483 [.slice p4479 x4472.Stages.length k4481] 37, .row (some ⟨b383, 0, none⟩) ([rv287.1, (⟨l349⟩ : Response), raw5] : List Response).length ([rv287.1, (⟨l349⟩ : Response), raw5] : List Response).length [.slice p288 rv287.1.Stages.length k289, .slice p350 l349.length k351, .slice p6 raw5.Stages.length k7] 37 1] [SlA p5005 rv5004.2.L.length k5006 rv5004.2.L, SlA p288 rv287.1.Stages.length k289 rv287.1.Stages, SlA p302 rv301.1.Stages.length k303 rv301.1.Stages, SlA p4479 x4472.Stages.length k4481 x4472.Stages, RowA [.slice p288 rv287.1.Stages.length k289, .slice p350 l349.length k351, .slice p6 raw5.Stages.length k7] ([rv287.1, (⟨l349⟩ : Response), raw5] : List Response)] w) ?_ ?_
  ·rcases Bool.eq_false_or_eq_true (rv5432.2 != rv5444.2) with h5483 | h5483
   ·have h5484 := ite_t hc5471 h5483
    have h5485 : c5471 = true := (Option.some.inj h5484).symm
    have h5487 : (c5471 || (rv5456.1 != rv5463.1)) = true := by rw [h5485]; rfl
    have h5489 : ((c5471 || (rv5456.1 != rv5463.1)) || (rv5456.2 != rv5463.2)) = true := by rw [h5487]; rfl
    have h5490 := ite_t hc5476 h5489
    have h5491 : c5476 = true := (Option.some.inj h5490).symm
    have h5492 := ite_t hc5481 h5491
    refine h_b (C := Cls [.box b5454 [.slice p5445 rv5444.1.Stages.length k5446] 37, .row p5445 rv5444.1.Stages.length k5446 c5448 26 10, .box b5442 [.slice p5433 rv5432.1.Stages.length k5434] 37, .row p5433 rv5432.1.Stages.length k5434 c5436 26 10, .box b13 [.int .i64 rate9.Num, .int .i64 rate9.Den] 51, .box b277 [.slice p5005 rv5004.2.L.length k5006, .int .i64 rv5004.2.At] 84, .box b314 [.slice p288 rv287.1.Stages.length k289] 37, .box b315 [.slice p302 rv301.1.Stages.length k303] 37, .box b4483 [.slice p4479 x4472.Stages.length k4481] 37, .row (some ⟨b383, 0, none⟩) ([rv287.1, (⟨l349⟩ : Response), raw5] : List Response).length ([rv287.1, (⟨l349⟩ : Response), raw5] : List Response).length [.slice p288 rv287.1.Stages.length k289, .slice p350 l349.length k351, .slice p6 raw5.Stages.length k7] 37 1, .row (some ⟨b5009, 0, none⟩) ([rate9, rv5004.1, (⟨2, 2⟩ : Rate)] : List Rate).length ([rate9, rv5004.1, (⟨2, 2⟩ : Rate)] : List Rate).length [.int .i64 rate9.Num, .int .i64 rate9.Den, .int .i64 rv5004.1.Num, .int .i64 rv5004.1.Den, .int .i64 2, .int .i64 2] 51 2] []) (by kernel_rfl) rfl (hw.drew.cs [0, 1, 2, 3, 4, 5, 6, 7, 8, 9, 10] [] rfl rfl) fun hC => ?_
    have hw := hw.drew
    refine gm hs 0 rfl rfl rfl hC fun a hs => ?_
    refine gm hs 1 rfl rfl rfl hC fun a hs => ?_
    refine gv hs 2 rfl rfl hC (fun w hC => y_neq rfl rfl) fun a hs => ?_
    refine gm hs 3 rfl rfl rfl hC fun a hs => ?_
    have hs := hs.fix 226 (.bool true) rfl (vb h5483)
    refine gs hs 4 rfl rfl rfl rfl hC fun a hs => ?_
    refine gs hs 5 rfl rfl rfl rfl hC fun a hs => ?_
    refine gs hs 6 rfl rfl rfl rfl hC fun a hs => ?_
    refine gs hs 7 rfl rfl rfl rfl hC fun a hs => ?_
    refine gv hs 8 rfl rfl hC (fun w hC => y_pickTE (v := .bool c5471) rfl rfl (vbs h5484)) fun a hs => ?_
    refine gm hs 9 rfl rfl rfl hC fun a hs => ?_
    have hs := hs.fix 232 (.bool true) rfl (vb h5485)
    refine gs hs 10 rfl rfl rfl rfl hC fun a hs => ?_
    refine gs hs 11 rfl rfl rfl rfl hC fun a hs => ?_
    refine gs hs 12 rfl rfl rfl rfl hC fun a hs => ?_
    refine gv hs 13 rfl rfl hC (fun w hC => y_pickTE (v := .bool (c5471 || (rv5456.1 != rv5463.1))) rfl rfl (or_t h5485)) fun a hs => ?_
    refine gm hs 14 rfl rfl rfl hC fun a hs => ?_
    have hs := hs.fix 237 (.bool true) rfl (vb h5487)
    refine gs hs 15 rfl rfl rfl rfl hC fun a hs => ?_
    refine gs hs 16 rfl rfl rfl rfl hC fun a hs => ?_
    refine gs hs 17 rfl rfl rfl rfl hC fun a hs => ?_
    refine gv hs 18 rfl rfl hC (fun w hC => y_pickTE (v := .bool ((c5471 || (rv5456.1 != rv5463.1)) || (rv5456.2 != rv5463.2))) rfl rfl (or_t h5487)) fun a hs => ?_
    refine gm hs 19 rfl rfl rfl hC fun a hs => ?_
    have hs := hs.fix 242 (.bool true) rfl (vb h5489)
    refine gs hs 20 rfl rfl rfl rfl hC fun a hs => ?_
    refine gs hs 21 rfl rfl rfl rfl hC fun a hs => ?_
    refine gs hs 22 rfl rfl rfl rfl hC fun a hs => ?_
    refine gs hs 23 rfl rfl rfl rfl hC fun a hs => ?_
    refine gs hs 24 rfl rfl rfl rfl hC fun a hs => ?_
    refine gv hs 25 rfl rfl hC (fun w hC => y_pickTE (v := .bool c5476) rfl rfl (vbs h5490)) fun a hs => ?_
    refine gm hs 26 rfl rfl rfl hC fun a hs => ?_
    have hs := hs.fix 249 (.bool true) rfl (vb h5491)
    refine gs hs 27 rfl rfl rfl rfl hC fun a hs => ?_
    refine gs hs 28 rfl rfl rfl rfl hC fun a hs => ?_
    refine gs hs 29 rfl rfl rfl rfl hC fun a hs => ?_
    refine gs hs 30 rfl rfl rfl rfl hC fun a hs => ?_
    refine gs hs 31 rfl rfl rfl rfl hC fun a hs => ?_
    refine gs hs 32 rfl rfl rfl rfl hC fun a hs => ?_
    refine gs hs 33 rfl rfl rfl rfl hC fun a hs => ?_
    refine gv hs 34 rfl rfl hC (fun w hC => y_pickTE (v := .bool c5481) rfl rfl (vbs h5492)) fun a hs => ?_
    refine h_done (by kernel_rfl) ?_
    exact ⟨Sv5449, (hs.wk rfl), (hw.ft [4, 5, 6, 7, 8, 9] [2, 3, 4, 5, 6] (by decide) rfl rfl)⟩
   have h5493 := ite_f hc5471 h5483
   obtain ⟨rv5495, h5494, h5493⟩ := bind_t h5493
   rcases Bool.eq_false_or_eq_true c5471 with h5496 | h5496
   ·have h5498 : (c5471 || (rv5456.1 != rv5463.1)) = true := by rw [h5496]; rfl
    have h5500 : ((c5471 || (rv5456.1 != rv5463.1)) || (rv5456.2 != rv5463.2)) = true := by rw [h5498]; rfl
    have h5501 := ite_t hc5476 h5500
    have h5502 : c5476 = true := (Option.some.inj h5501).symm
    have h5503 := ite_t hc5481 h5502
    refine h_b (C := Cls [.box b5454 [.slice p5445 rv5444.1.Stages.length k5446] 37, .row p5445 rv5444.1.Stages.length k5446 c5448 26 10, .box b5442 [.slice p5433 rv5432.1.Stages.length k5434] 37, .row p5433 rv5432.1.Stages.length k5434 c5436 26 10, .box b13 [.int .i64 rate9.Num, .int .i64 rate9.Den] 51, .box b277 [.slice p5005 rv5004.2.L.length k5006, .int .i64 rv5004.2.At] 84, .box b314 [.slice p288 rv287.1.Stages.length k289] 37, .box b315 [.slice p302 rv301.1.Stages.length k303] 37, .box b4483 [.slice p4479 x4472.Stages.length k4481] 37, .row (some ⟨b383, 0, none⟩) ([rv287.1, (⟨l349⟩ : Response), raw5] : List Response).length ([rv287.1, (⟨l349⟩ : Response), raw5] : List Response).length [.slice p288 rv287.1.Stages.length k289, .slice p350 l349.length k351, .slice p6 raw5.Stages.length k7] 37 1, .row (some ⟨b5009, 0, none⟩) ([rate9, rv5004.1, (⟨2, 2⟩ : Rate)] : List Rate).length ([rate9, rv5004.1, (⟨2, 2⟩ : Rate)] : List Rate).length [.int .i64 rate9.Num, .int .i64 rate9.Den, .int .i64 rv5004.1.Num, .int .i64 rv5004.1.Den, .int .i64 2, .int .i64 2] 51 2] []) (by kernel_rfl) rfl (hw.drew.cs [0, 1, 2, 3, 4, 5, 6, 7, 8, 9, 10] [] rfl rfl) fun hC => ?_
    have hw := hw.drew
    refine gm hs 0 rfl rfl rfl hC fun a hs => ?_
    refine gm hs 1 rfl rfl rfl hC fun a hs => ?_
    refine gv hs 2 rfl rfl hC (fun w hC => y_neq rfl rfl) fun a hs => ?_
    refine gm hs 3 rfl rfl rfl hC fun a hs => ?_
    have hs := hs.fix 226 (.bool false) rfl (vb h5483)
    refine gt hs 4 rfl ⟨_, rfl, rfl⟩ rfl hC (fun w hC => y_loadBA (hC.ownAt 2 rfl) rfl Try.isAgg37 Try.sizeOf37 rfl rfl) fun a hs => ?_
    refine gt hs 5 rfl ⟨_, rfl, rfl⟩ rfl hC (fun w hC => y_loadBA (hC.ownAt 0 rfl) rfl Try.isAgg37 Try.sizeOf37 rfl rfl) fun a hs => ?_
    refine ho 6 rfl ?_
    refine st_callR hs (ref18_Same_ok h5494 hw.bdom (hw.bRow 3 rfl 1 rfl) (hw.bRow 1 rfl 0 rfl)) (do_call Try.call32 rfl) ⟨_, rfl, rfl⟩ rfl rfl ?_
    intro v5507 Sv5504 w a h5505 h5506 hs
    subst h5506
    have hw := hw.callB h5505
    refine h_nx (hw.cs [0, 1, 2, 3, 4, 5, 6, 7, 8, 9, 10] [] rfl rfl) fun hC => ?_
    refine gt hs 7 rfl ⟨_, rfl, rfl⟩ rfl hC (fun w hC => y_not rfl) fun a hs => ?_
    refine gv hs 8 rfl rfl hC (fun w hC => y_pickFE (v := .bool c5471) rfl rfl (vbs h5493)) fun a hs => ?_
    refine gm hs 9 rfl rfl rfl hC fun a hs => ?_
    have hs := hs.fix 232 (.bool true) rfl (vb h5496)
    refine gs hs 10 rfl rfl rfl rfl hC fun a hs => ?_
    refine gs hs 11 rfl rfl rfl rfl hC fun a hs => ?_
    refine gs hs 12 rfl rfl rfl rfl hC fun a hs => ?_
    refine gv hs 13 rfl rfl hC (fun w hC => y_pickTE (v := .bool (c5471 || (rv5456.1 != rv5463.1))) rfl rfl (or_t h5496)) fun a hs => ?_
    refine gm hs 14 rfl rfl rfl hC fun a hs => ?_
    have hs := hs.fix 237 (.bool true) rfl (vb h5498)
    refine gs hs 15 rfl rfl rfl rfl hC fun a hs => ?_
    refine gs hs 16 rfl rfl rfl rfl hC fun a hs => ?_
    refine gs hs 17 rfl rfl rfl rfl hC fun a hs => ?_
    refine gv hs 18 rfl rfl hC (fun w hC => y_pickTE (v := .bool ((c5471 || (rv5456.1 != rv5463.1)) || (rv5456.2 != rv5463.2))) rfl rfl (or_t h5498)) fun a hs => ?_
    refine gm hs 19 rfl rfl rfl hC fun a hs => ?_
    have hs := hs.fix 242 (.bool true) rfl (vb h5500)
    refine gs hs 20 rfl rfl rfl rfl hC fun a hs => ?_
    refine gs hs 21 rfl rfl rfl rfl hC fun a hs => ?_
    refine gs hs 22 rfl rfl rfl rfl hC fun a hs => ?_
    refine gs hs 23 rfl rfl rfl rfl hC fun a hs => ?_
    refine gs hs 24 rfl rfl rfl rfl hC fun a hs => ?_
    refine gv hs 25 rfl rfl hC (fun w hC => y_pickTE (v := .bool c5476) rfl rfl (vbs h5501)) fun a hs => ?_
    refine gm hs 26 rfl rfl rfl hC fun a hs => ?_
    have hs := hs.fix 249 (.bool true) rfl (vb h5502)
    refine gs hs 27 rfl rfl rfl rfl hC fun a hs => ?_
    refine gs hs 28 rfl rfl rfl rfl hC fun a hs => ?_
    refine gs hs 29 rfl rfl rfl rfl hC fun a hs => ?_
    refine gs hs 30 rfl rfl rfl rfl hC fun a hs => ?_
    refine gs hs 31 rfl rfl rfl rfl hC fun a hs => ?_
    refine gs hs 32 rfl rfl rfl rfl hC fun a hs => ?_
    refine gs hs 33 rfl rfl rfl rfl hC fun a hs => ?_
    refine gv hs 34 rfl rfl hC (fun w hC => y_pickTE (v := .bool c5481) rfl rfl (vbs h5503)) fun a hs => ?_
    refine h_done (by kernel_rfl) ?_
    exact ⟨Sv5449, (hs.wk rfl), (hw.ft [4, 5, 6, 7, 8, 9] [2, 3, 4, 5, 6] (by decide) rfl rfl)⟩
   rcases Bool.eq_false_or_eq_true (c5471 || (rv5456.1 != rv5463.1)) with h5510 | h5510
   ·have h5512 : ((c5471 || (rv5456.1 != rv5463.1)) || (rv5456.2 != rv5463.2)) = true := by rw [h5510]; rfl
    have h5513 := ite_t hc5476 h5512
    have h5514 : c5476 = true := (Option.some.inj h5513).symm
    have h5515 := ite_t hc5481 h5514
    refine h_b (C := Cls [.box b5454 [.slice p5445 rv5444.1.Stages.length k5446] 37, .row p5445 rv5444.1.Stages.length k5446 c5448 26 10, .box b5442 [.slice p5433 rv5432.1.Stages.length k5434] 37, .row p5433 rv5432.1.Stages.length k5434 c5436 26 10, .box b13 [.int .i64 rate9.Num, .int .i64 rate9.Den] 51, .box b277 [.slice p5005 rv5004.2.L.length k5006, .int .i64 rv5004.2.At] 84, .box b314 [.slice p288 rv287.1.Stages.length k289] 37, .box b315 [.slice p302 rv301.1.Stages.length k303] 37, .box b4483 [.slice p4479 x4472.Stages.length k4481] 37, .row (some ⟨b383, 0, none⟩) ([rv287.1, (⟨l349⟩ : Response), raw5] : List Response).length ([rv287.1, (⟨l349⟩ : Response), raw5] : List Response).length [.slice p288 rv287.1.Stages.length k289, .slice p350 l349.length k351, .slice p6 raw5.Stages.length k7] 37 1, .row (some ⟨b5009, 0, none⟩) ([rate9, rv5004.1, (⟨2, 2⟩ : Rate)] : List Rate).length ([rate9, rv5004.1, (⟨2, 2⟩ : Rate)] : List Rate).length [.int .i64 rate9.Num, .int .i64 rate9.Den, .int .i64 rv5004.1.Num, .int .i64 rv5004.1.Den, .int .i64 2, .int .i64 2] 51 2] []) (by kernel_rfl) rfl (hw.drew.cs [0, 1, 2, 3, 4, 5, 6, 7, 8, 9, 10] [] rfl rfl) fun hC => ?_
    have hw := hw.drew
    refine gm hs 0 rfl rfl rfl hC fun a hs => ?_
    refine gm hs 1 rfl rfl rfl hC fun a hs => ?_
    refine gv hs 2 rfl rfl hC (fun w hC => y_neq rfl rfl) fun a hs => ?_
    refine gm hs 3 rfl rfl rfl hC fun a hs => ?_
    have hs := hs.fix 226 (.bool false) rfl (vb h5483)
    refine gt hs 4 rfl ⟨_, rfl, rfl⟩ rfl hC (fun w hC => y_loadBA (hC.ownAt 2 rfl) rfl Try.isAgg37 Try.sizeOf37 rfl rfl) fun a hs => ?_
    refine gt hs 5 rfl ⟨_, rfl, rfl⟩ rfl hC (fun w hC => y_loadBA (hC.ownAt 0 rfl) rfl Try.isAgg37 Try.sizeOf37 rfl rfl) fun a hs => ?_
    refine ho 6 rfl ?_
    refine st_callR hs (ref18_Same_ok h5494 hw.bdom (hw.bRow 3 rfl 1 rfl) (hw.bRow 1 rfl 0 rfl)) (do_call Try.call32 rfl) ⟨_, rfl, rfl⟩ rfl rfl ?_
    intro v5519 Sv5516 w a h5517 h5518 hs
    subst h5518
    have hw := hw.callB h5517
    refine h_nx (hw.cs [0, 1, 2, 3, 4, 5, 6, 7, 8, 9, 10] [] rfl rfl) fun hC => ?_
    refine gt hs 7 rfl ⟨_, rfl, rfl⟩ rfl hC (fun w hC => y_not rfl) fun a hs => ?_
    refine gv hs 8 rfl rfl hC (fun w hC => y_pickFE (v := .bool c5471) rfl rfl (vbs h5493)) fun a hs => ?_
    refine gm hs 9 rfl rfl rfl hC fun a hs => ?_
    have hs := hs.fix 232 (.bool false) rfl (vb h5496)
    refine gt hs 10 rfl ⟨_, rfl, rfl⟩ rfl hC (fun w hC => y_move rfl) fun a hs => ?_
    refine gt hs 11 rfl ⟨_, rfl, rfl⟩ rfl hC (fun w hC => y_move rfl) fun a hs => ?_
    refine gt hs 12 rfl ⟨_, rfl, rfl⟩ rfl hC (fun w hC => y_neq rfl rfl) fun a hs => ?_
    refine gv hs 13 rfl rfl hC (fun w hC => y_pickFE (v := .bool (c5471 || (rv5456.1 != rv5463.1))) rfl rfl (or_f h5496)) fun a hs => ?_
    refine gm hs 14 rfl rfl rfl hC fun a hs => ?_
    have hs := hs.fix 237 (.bool true) rfl (vb h5510)
    refine gs hs 15 rfl rfl rfl rfl hC fun a hs => ?_
    refine gs hs 16 rfl rfl rfl rfl hC fun a hs => ?_
    refine gs hs 17 rfl rfl rfl rfl hC fun a hs => ?_
    refine gv hs 18 rfl rfl hC (fun w hC => y_pickTE (v := .bool ((c5471 || (rv5456.1 != rv5463.1)) || (rv5456.2 != rv5463.2))) rfl rfl (or_t h5510)) fun a hs => ?_
    refine gm hs 19 rfl rfl rfl hC fun a hs => ?_
    have hs := hs.fix 242 (.bool true) rfl (vb h5512)
    refine gs hs 20 rfl rfl rfl rfl hC fun a hs => ?_
    refine gs hs 21 rfl rfl rfl rfl hC fun a hs => ?_
    refine gs hs 22 rfl rfl rfl rfl hC fun a hs => ?_
    refine gs hs 23 rfl rfl rfl rfl hC fun a hs => ?_
    refine gs hs 24 rfl rfl rfl rfl hC fun a hs => ?_
    refine gv hs 25 rfl rfl hC (fun w hC => y_pickTE (v := .bool c5476) rfl rfl (vbs h5513)) fun a hs => ?_
    refine gm hs 26 rfl rfl rfl hC fun a hs => ?_
    have hs := hs.fix 249 (.bool true) rfl (vb h5514)
    refine gs hs 27 rfl rfl rfl rfl hC fun a hs => ?_
    refine gs hs 28 rfl rfl rfl rfl hC fun a hs => ?_
    refine gs hs 29 rfl rfl rfl rfl hC fun a hs => ?_
    refine gs hs 30 rfl rfl rfl rfl hC fun a hs => ?_
    refine gs hs 31 rfl rfl rfl rfl hC fun a hs => ?_
    refine gs hs 32 rfl rfl rfl rfl hC fun a hs => ?_
    refine gs hs 33 rfl rfl rfl rfl hC fun a hs => ?_
    refine gv hs 34 rfl rfl hC (fun w hC => y_pickTE (v := .bool c5481) rfl rfl (vbs h5515)) fun a hs => ?_
    refine h_done (by kernel_rfl) ?_
    exact ⟨Sv5449, (hs.wk rfl), (hw.ft [4, 5, 6, 7, 8, 9] [2, 3, 4, 5, 6] (by decide) rfl rfl)⟩
   rcases Bool.eq_false_or_eq_true ((c5471 || (rv5456.1 != rv5463.1)) || (rv5456.2 != rv5463.2)) with h5522 | h5522
   ·have h5523 := ite_t hc5476 h5522
    have h5524 : c5476 = true := (Option.some.inj h5523).symm
    have h5525 := ite_t hc5481 h5524
    refine h_b (C := Cls [.box b5454 [.slice p5445 rv5444.1.Stages.length k5446] 37, .row p5445 rv5444.1.Stages.length k5446 c5448 26 10, .box b5442 [.slice p5433 rv5432.1.Stages.length k5434] 37, .row p5433 rv5432.1.Stages.length k5434 c5436 26 10, .box b13 [.int .i64 rate9.Num, .int .i64 rate9.Den] 51, .box b277 [.slice p5005 rv5004.2.L.length k5006, .int .i64 rv5004.2.At] 84, .box b314 [.slice p288 rv287.1.Stages.length k289] 37, .box b315 [.slice p302 rv301.1.Stages.length k303] 37, .box b4483 [.slice p4479 x4472.Stages.length k4481] 37, .row (some ⟨b383, 0, none⟩) ([rv287.1, (⟨l349⟩ : Response), raw5] : List Response).length ([rv287.1, (⟨l349⟩ : Response), raw5] : List Response).length [.slice p288 rv287.1.Stages.length k289, .slice p350 l349.length k351, .slice p6 raw5.Stages.length k7] 37 1, .row (some ⟨b5009, 0, none⟩) ([rate9, rv5004.1, (⟨2, 2⟩ : Rate)] : List Rate).length ([rate9, rv5004.1, (⟨2, 2⟩ : Rate)] : List Rate).length [.int .i64 rate9.Num, .int .i64 rate9.Den, .int .i64 rv5004.1.Num, .int .i64 rv5004.1.Den, .int .i64 2, .int .i64 2] 51 2] []) (by kernel_rfl) rfl (hw.drew.cs [0, 1, 2, 3, 4, 5, 6, 7, 8, 9, 10] [] rfl rfl) fun hC => ?_
    have hw := hw.drew
    refine gm hs 0 rfl rfl rfl hC fun a hs => ?_
    refine gm hs 1 rfl rfl rfl hC fun a hs => ?_
    refine gv hs 2 rfl rfl hC (fun w hC => y_neq rfl rfl) fun a hs => ?_
    refine gm hs 3 rfl rfl rfl hC fun a hs => ?_
    have hs := hs.fix 226 (.bool false) rfl (vb h5483)
    refine gt hs 4 rfl ⟨_, rfl, rfl⟩ rfl hC (fun w hC => y_loadBA (hC.ownAt 2 rfl) rfl Try.isAgg37 Try.sizeOf37 rfl rfl) fun a hs => ?_
    refine gt hs 5 rfl ⟨_, rfl, rfl⟩ rfl hC (fun w hC => y_loadBA (hC.ownAt 0 rfl) rfl Try.isAgg37 Try.sizeOf37 rfl rfl) fun a hs => ?_
    refine ho 6 rfl ?_
    refine st_callR hs (ref18_Same_ok h5494 hw.bdom (hw.bRow 3 rfl 1 rfl) (hw.bRow 1 rfl 0 rfl)) (do_call Try.call32 rfl) ⟨_, rfl, rfl⟩ rfl rfl ?_
    intro v5529 Sv5526 w a h5527 h5528 hs
    subst h5528
    have hw := hw.callB h5527
    refine h_nx (hw.cs [0, 1, 2, 3, 4, 5, 6, 7, 8, 9, 10] [] rfl rfl) fun hC => ?_
    refine gt hs 7 rfl ⟨_, rfl, rfl⟩ rfl hC (fun w hC => y_not rfl) fun a hs => ?_
    refine gv hs 8 rfl rfl hC (fun w hC => y_pickFE (v := .bool c5471) rfl rfl (vbs h5493)) fun a hs => ?_
    refine gm hs 9 rfl rfl rfl hC fun a hs => ?_
    have hs := hs.fix 232 (.bool false) rfl (vb h5496)
    refine gt hs 10 rfl ⟨_, rfl, rfl⟩ rfl hC (fun w hC => y_move rfl) fun a hs => ?_
    refine gt hs 11 rfl ⟨_, rfl, rfl⟩ rfl hC (fun w hC => y_move rfl) fun a hs => ?_
    refine gt hs 12 rfl ⟨_, rfl, rfl⟩ rfl hC (fun w hC => y_neq rfl rfl) fun a hs => ?_
    refine gv hs 13 rfl rfl hC (fun w hC => y_pickFE (v := .bool (c5471 || (rv5456.1 != rv5463.1))) rfl rfl (or_f h5496)) fun a hs => ?_
    refine gm hs 14 rfl rfl rfl hC fun a hs => ?_
    have hs := hs.fix 237 (.bool false) rfl (vb h5510)
    refine gt hs 15 rfl ⟨_, rfl, rfl⟩ rfl hC (fun w hC => y_move rfl) fun a hs => ?_
    refine gt hs 16 rfl ⟨_, rfl, rfl⟩ rfl hC (fun w hC => y_move rfl) fun a hs => ?_
    refine gt hs 17 rfl ⟨_, rfl, rfl⟩ rfl hC (fun w hC => y_neq rfl rfl) fun a hs => ?_
    refine gv hs 18 rfl rfl hC (fun w hC => y_pickFE (v := .bool ((c5471 || (rv5456.1 != rv5463.1)) || (rv5456.2 != rv5463.2))) rfl rfl (or_f h5510)) fun a hs => ?_
    refine gm hs 19 rfl rfl rfl hC fun a hs => ?_
    have hs := hs.fix 242 (.bool true) rfl (vb h5522)
    refine gs hs 20 rfl rfl rfl rfl hC fun a hs => ?_
    refine gs hs 21 rfl rfl rfl rfl hC fun a hs => ?_
    refine gs hs 22 rfl rfl rfl rfl hC fun a hs => ?_
    refine gs hs 23 rfl rfl rfl rfl hC fun a hs => ?_
    refine gs hs 24 rfl rfl rfl rfl hC fun a hs => ?_
    refine gv hs 25 rfl rfl hC (fun w hC => y_pickTE (v := .bool c5476) rfl rfl (vbs h5523)) fun a hs => ?_
    refine gm hs 26 rfl rfl rfl hC fun a hs => ?_
    have hs := hs.fix 249 (.bool true) rfl (vb h5524)
    refine gs hs 27 rfl rfl rfl rfl hC fun a hs => ?_
    refine gs hs 28 rfl rfl rfl rfl hC fun a hs => ?_
    refine gs hs 29 rfl rfl rfl rfl hC fun a hs => ?_
    refine gs hs 30 rfl rfl rfl rfl hC fun a hs => ?_
    refine gs hs 31 rfl rfl rfl rfl hC fun a hs => ?_
    refine gs hs 32 rfl rfl rfl rfl hC fun a hs => ?_
    refine gs hs 33 rfl rfl rfl rfl hC fun a hs => ?_
    refine gv hs 34 rfl rfl hC (fun w hC => y_pickTE (v := .bool c5481) rfl rfl (vbs h5525)) fun a hs => ?_
    refine h_done (by kernel_rfl) ?_
    exact ⟨Sv5449, (hs.wk rfl), (hw.ft [4, 5, 6, 7, 8, 9] [2, 3, 4, 5, 6] (by decide) rfl rfl)⟩
   have h5531 := ite_f hc5476 h5522
   obtain ⟨rv5533, h5532, h5531⟩ := bind_t h5531
   obtain ⟨rv5535, h5534, h5531⟩ := bind_t h5531
   rcases Bool.eq_false_or_eq_true c5476 with h5536 | h5536
   ·have h5537 := ite_t hc5481 h5536
    refine h_b (C := Cls [.box b5454 [.slice p5445 rv5444.1.Stages.length k5446] 37, .row p5445 rv5444.1.Stages.length k5446 c5448 26 10, .box b5442 [.slice p5433 rv5432.1.Stages.length k5434] 37, .row p5433 rv5432.1.Stages.length k5434 c5436 26 10, .box b13 [.int .i64 rate9.Num, .int .i64 rate9.Den] 51, .box b277 [.slice p5005 rv5004.2.L.length k5006, .int .i64 rv5004.2.At] 84, .box b314 [.slice p288 rv287.1.Stages.length k289] 37, .box b315 [.slice p302 rv301.1.Stages.length k303] 37, .box b4483 [.slice p4479 x4472.Stages.length k4481] 37, .row (some ⟨b383, 0, none⟩) ([rv287.1, (⟨l349⟩ : Response), raw5] : List Response).length ([rv287.1, (⟨l349⟩ : Response), raw5] : List Response).length [.slice p288 rv287.1.Stages.length k289, .slice p350 l349.length k351, .slice p6 raw5.Stages.length k7] 37 1, .row (some ⟨b5009, 0, none⟩) ([rate9, rv5004.1, (⟨2, 2⟩ : Rate)] : List Rate).length ([rate9, rv5004.1, (⟨2, 2⟩ : Rate)] : List Rate).length [.int .i64 rate9.Num, .int .i64 rate9.Den, .int .i64 rv5004.1.Num, .int .i64 rv5004.1.Den, .int .i64 2, .int .i64 2] 51 2] []) (by kernel_rfl) rfl (hw.drew.cs [0, 1, 2, 3, 4, 5, 6, 7, 8, 9, 10] [] rfl rfl) fun hC => ?_
    have hw := hw.drew
    refine gm hs 0 rfl rfl rfl hC fun a hs => ?_
    refine gm hs 1 rfl rfl rfl hC fun a hs => ?_
    refine gv hs 2 rfl rfl hC (fun w hC => y_neq rfl rfl) fun a hs => ?_
    refine gm hs 3 rfl rfl rfl hC fun a hs => ?_
    have hs := hs.fix 226 (.bool false) rfl (vb h5483)
    refine gt hs 4 rfl ⟨_, rfl, rfl⟩ rfl hC (fun w hC => y_loadBA (hC.ownAt 2 rfl) rfl Try.isAgg37 Try.sizeOf37 rfl rfl) fun a hs => ?_
    refine gt hs 5 rfl ⟨_, rfl, rfl⟩ rfl hC (fun w hC => y_loadBA (hC.ownAt 0 rfl) rfl Try.isAgg37 Try.sizeOf37 rfl rfl) fun a hs => ?_
    refine ho 6 rfl ?_
    refine st_callR hs (ref18_Same_ok h5494 hw.bdom (hw.bRow 3 rfl 1 rfl) (hw.bRow 1 rfl 0 rfl)) (do_call Try.call32 rfl) ⟨_, rfl, rfl⟩ rfl rfl ?_
    intro v5541 Sv5538 w a h5539 h5540 hs
    subst h5540
    have hw := hw.callB h5539
    refine h_nx (hw.cs [0, 1, 2, 3, 4, 5, 6, 7, 8, 9, 10] [] rfl rfl) fun hC => ?_
    refine gt hs 7 rfl ⟨_, rfl, rfl⟩ rfl hC (fun w hC => y_not rfl) fun a hs => ?_
    refine gv hs 8 rfl rfl hC (fun w hC => y_pickFE (v := .bool c5471) rfl rfl (vbs h5493)) fun a hs => ?_
    refine gm hs 9 rfl rfl rfl hC fun a hs => ?_
    have hs := hs.fix 232 (.bool false) rfl (vb h5496)
    refine gt hs 10 rfl ⟨_, rfl, rfl⟩ rfl hC (fun w hC => y_move rfl) fun a hs => ?_
    refine gt hs 11 rfl ⟨_, rfl, rfl⟩ rfl hC (fun w hC => y_move rfl) fun a hs => ?_
    refine gt hs 12 rfl ⟨_, rfl, rfl⟩ rfl hC (fun w hC => y_neq rfl rfl) fun a hs => ?_
    refine gv hs 13 rfl rfl hC (fun w hC => y_pickFE (v := .bool (c5471 || (rv5456.1 != rv5463.1))) rfl rfl (or_f h5496)) fun a hs => ?_
    refine gm hs 14 rfl rfl rfl hC fun a hs => ?_
    have hs := hs.fix 237 (.bool false) rfl (vb h5510)
    refine gt hs 15 rfl ⟨_, rfl, rfl⟩ rfl hC (fun w hC => y_move rfl) fun a hs => ?_
    refine gt hs 16 rfl ⟨_, rfl, rfl⟩ rfl hC (fun w hC => y_move rfl) fun a hs => ?_
    refine gt hs 17 rfl ⟨_, rfl, rfl⟩ rfl hC (fun w hC => y_neq rfl rfl) fun a hs => ?_
    refine gv hs 18 rfl rfl hC (fun w hC => y_pickFE (v := .bool ((c5471 || (rv5456.1 != rv5463.1)) || (rv5456.2 != rv5463.2))) rfl rfl (or_f h5510)) fun a hs => ?_
    refine gm hs 19 rfl rfl rfl hC fun a hs => ?_
    have hs := hs.fix 242 (.bool false) rfl (vb h5522)
    refine gt hs 20 rfl ⟨_, rfl, rfl⟩ rfl hC (fun w hC => y_loadBA (hC.ownAt 8 rfl) rfl Try.isAgg37 Try.sizeOf37 rfl rfl) fun a hs => ?_
    refine gt hs 22 rfl ⟨_, rfl, rfl⟩ rfl hC (fun w hC => y_loadBA (hC.ownAt 8 rfl) rfl Try.isAgg37 Try.sizeOf37 rfl rfl) fun a hs => ?_
    refine ho 21 rfl ?_
    refine st_callR hs (response_Valid_ok h5532 hw.bdom (hw.bE 5 rfl)) (do_call Try.call33 rfl) ⟨_, rfl, rfl⟩ rfl rfl ?_
    intro v5546 Sv5543 w a h5544 h5545 hs
    subst h5545
    have hw := hw.callB h5544
    refine h_nx (hw.cs [0, 1, 2, 3, 4, 5, 6, 7, 8, 9, 10] [] rfl rfl) fun hC => ?_
    refine ho 23 rfl ?_
    refine st_callR hs (ref18_Valid_ok h5534 hw.bdom (hw.bE 5 rfl)) (do_call Try.call34 rfl) ⟨_, rfl, rfl⟩ rfl rfl ?_
    intro v5551 Sv5548 w a h5549 h5550 hs
    subst h5550
    have hw := hw.callB h5549
    refine h_nx (hw.cs [0, 1, 2, 3, 4, 5, 6, 7, 8, 9, 10] [] rfl rfl) fun hC => ?_
    refine gt hs 24 rfl ⟨_, rfl, rfl⟩ rfl hC (fun w hC => y_neqB Try.runUnderlying4 rfl rfl) fun a hs => ?_
    refine gv hs 25 rfl rfl hC (fun w hC => y_pickFE (v := .bool c5476) rfl rfl (vbs h5531)) fun a hs => ?_
    refine gm hs 26 rfl rfl rfl hC fun a hs => ?_
    have hs := hs.fix 249 (.bool true) rfl (vb h5536)
    refine gs hs 27 rfl rfl rfl rfl hC fun a hs => ?_
    refine gs hs 28 rfl rfl rfl rfl hC fun a hs => ?_
    refine gs hs 29 rfl rfl rfl rfl hC fun a hs => ?_
    refine gs hs 30 rfl rfl rfl rfl hC fun a hs => ?_
    refine gs hs 31 rfl rfl rfl rfl hC fun a hs => ?_
    refine gs hs 32 rfl rfl rfl rfl hC fun a hs => ?_
    refine gs hs 33 rfl rfl rfl rfl hC fun a hs => ?_
    refine gv hs 34 rfl rfl hC (fun w hC => y_pickTE (v := .bool c5481) rfl rfl (vbs h5537)) fun a hs => ?_
    refine h_done (by kernel_rfl) ?_
    exact ⟨Sv5449, (hs.wk rfl), (hw.ft [4, 5, 6, 7, 8, 9] [2, 3, 4, 5, 6] (by decide) rfl rfl)⟩
   have h5553 := ite_f hc5481 h5536
   obtain ⟨rv5555, h5554, h5553⟩ := bind_t h5553
   obtain ⟨rv5557, h5556, h5553⟩ := bind_t h5553
   refine h_b (C := Cls [.box b5454 [.slice p5445 rv5444.1.Stages.length k5446] 37, .row p5445 rv5444.1.Stages.length k5446 c5448 26 10, .box b5442 [.slice p5433 rv5432.1.Stages.length k5434] 37, .row p5433 rv5432.1.Stages.length k5434 c5436 26 10, .box b13 [.int .i64 rate9.Num, .int .i64 rate9.Den] 51, .box b277 [.slice p5005 rv5004.2.L.length k5006, .int .i64 rv5004.2.At] 84, .box b314 [.slice p288 rv287.1.Stages.length k289] 37, .box b315 [.slice p302 rv301.1.Stages.length k303] 37, .box b4483 [.slice p4479 x4472.Stages.length k4481] 37, .row (some ⟨b383, 0, none⟩) ([rv287.1, (⟨l349⟩ : Response), raw5] : List Response).length ([rv287.1, (⟨l349⟩ : Response), raw5] : List Response).length [.slice p288 rv287.1.Stages.length k289, .slice p350 l349.length k351, .slice p6 raw5.Stages.length k7] 37 1, .row (some ⟨b5009, 0, none⟩) ([rate9, rv5004.1, (⟨2, 2⟩ : Rate)] : List Rate).length ([rate9, rv5004.1, (⟨2, 2⟩ : Rate)] : List Rate).length [.int .i64 rate9.Num, .int .i64 rate9.Den, .int .i64 rv5004.1.Num, .int .i64 rv5004.1.Den, .int .i64 2, .int .i64 2] 51 2] []) (by kernel_rfl) rfl (hw.drew.cs [0, 1, 2, 3, 4, 5, 6, 7, 8, 9, 10] [] rfl rfl) fun hC => ?_
   have hw := hw.drew
   refine gm hs 0 rfl rfl rfl hC fun a hs => ?_
   refine gm hs 1 rfl rfl rfl hC fun a hs => ?_
   refine gv hs 2 rfl rfl hC (fun w hC => y_neq rfl rfl) fun a hs => ?_
   refine gm hs 3 rfl rfl rfl hC fun a hs => ?_
   have hs := hs.fix 226 (.bool false) rfl (vb h5483)
   refine gt hs 4 rfl ⟨_, rfl, rfl⟩ rfl hC (fun w hC => y_loadBA (hC.ownAt 2 rfl) rfl Try.isAgg37 Try.sizeOf37 rfl rfl) fun a hs => ?_
   refine gt hs 5 rfl ⟨_, rfl, rfl⟩ rfl hC (fun w hC => y_loadBA (hC.ownAt 0 rfl) rfl Try.isAgg37 Try.sizeOf37 rfl rfl) fun a hs => ?_
   refine ho 6 rfl ?_
   refine st_callR hs (ref18_Same_ok h5494 hw.bdom (hw.bRow 3 rfl 1 rfl) (hw.bRow 1 rfl 0 rfl)) (do_call Try.call32 rfl) ⟨_, rfl, rfl⟩ rfl rfl ?_
   intro v5561 Sv5558 w a h5559 h5560 hs
   subst h5560
   have hw := hw.callB h5559
   refine h_nx (hw.cs [0, 1, 2, 3, 4, 5, 6, 7, 8, 9, 10] [] rfl rfl) fun hC => ?_
   refine gt hs 7 rfl ⟨_, rfl, rfl⟩ rfl hC (fun w hC => y_not rfl) fun a hs => ?_
   refine gv hs 8 rfl rfl hC (fun w hC => y_pickFE (v := .bool c5471) rfl rfl (vbs h5493)) fun a hs => ?_
   refine gm hs 9 rfl rfl rfl hC fun a hs => ?_
   have hs := hs.fix 232 (.bool false) rfl (vb h5496)
   refine gt hs 10 rfl ⟨_, rfl, rfl⟩ rfl hC (fun w hC => y_move rfl) fun a hs => ?_
   refine gt hs 11 rfl ⟨_, rfl, rfl⟩ rfl hC (fun w hC => y_move rfl) fun a hs => ?_
   refine gt hs 12 rfl ⟨_, rfl, rfl⟩ rfl hC (fun w hC => y_neq rfl rfl) fun a hs => ?_
   refine gv hs 13 rfl rfl hC (fun w hC => y_pickFE (v := .bool (c5471 || (rv5456.1 != rv5463.1))) rfl rfl (or_f h5496)) fun a hs => ?_
   refine gm hs 14 rfl rfl rfl hC fun a hs => ?_
   have hs := hs.fix 237 (.bool false) rfl (vb h5510)
   refine gt hs 15 rfl ⟨_, rfl, rfl⟩ rfl hC (fun w hC => y_move rfl) fun a hs => ?_
   refine gt hs 16 rfl ⟨_, rfl, rfl⟩ rfl hC (fun w hC => y_move rfl) fun a hs => ?_
   refine gt hs 17 rfl ⟨_, rfl, rfl⟩ rfl hC (fun w hC => y_neq rfl rfl) fun a hs => ?_
   refine gv hs 18 rfl rfl hC (fun w hC => y_pickFE (v := .bool ((c5471 || (rv5456.1 != rv5463.1)) || (rv5456.2 != rv5463.2))) rfl rfl (or_f h5510)) fun a hs => ?_
   refine gm hs 19 rfl rfl rfl hC fun a hs => ?_
   have hs := hs.fix 242 (.bool false) rfl (vb h5522)
   refine gt hs 20 rfl ⟨_, rfl, rfl⟩ rfl hC (fun w hC => y_loadBA (hC.ownAt 8 rfl) rfl Try.isAgg37 Try.sizeOf37 rfl rfl) fun a hs => ?_
   refine gt hs 22 rfl ⟨_, rfl, rfl⟩ rfl hC (fun w hC => y_loadBA (hC.ownAt 8 rfl) rfl Try.isAgg37 Try.sizeOf37 rfl rfl) fun a hs => ?_
   refine ho 21 rfl ?_
   refine st_callR hs (response_Valid_ok h5532 hw.bdom (hw.bE 5 rfl)) (do_call Try.call33 rfl) ⟨_, rfl, rfl⟩ rfl rfl ?_
   intro v5566 Sv5563 w a h5564 h5565 hs
   subst h5565
   have hw := hw.callB h5564
   refine h_nx (hw.cs [0, 1, 2, 3, 4, 5, 6, 7, 8, 9, 10] [] rfl rfl) fun hC => ?_
   refine ho 23 rfl ?_
   refine st_callR hs (ref18_Valid_ok h5534 hw.bdom (hw.bE 5 rfl)) (do_call Try.call34 rfl) ⟨_, rfl, rfl⟩ rfl rfl ?_
   intro v5571 Sv5568 w a h5569 h5570 hs
   subst h5570
   have hw := hw.callB h5569
   refine h_nx (hw.cs [0, 1, 2, 3, 4, 5, 6, 7, 8, 9, 10] [] rfl rfl) fun hC => ?_
   refine gt hs 24 rfl ⟨_, rfl, rfl⟩ rfl hC (fun w hC => y_neqB Try.runUnderlying4 rfl rfl) fun a hs => ?_
   refine gv hs 25 rfl rfl hC (fun w hC => y_pickFE (v := .bool c5476) rfl rfl (vbs h5531)) fun a hs => ?_
   refine gm hs 26 rfl rfl rfl hC fun a hs => ?_
   have hs := hs.fix 249 (.bool false) rfl (vb h5536)
   refine gt hs 27 rfl ⟨_, rfl, rfl⟩ rfl hC (fun w hC => y_loadBA (hC.ownAt 8 rfl) rfl Try.isAgg37 Try.sizeOf37 rfl rfl) fun a hs => ?_
   refine gt hs 28 rfl ⟨_, rfl, rfl⟩ rfl hC (fun w hC => y_loadBA (hC.ownAt 6 rfl) rfl Try.isAgg37 Try.sizeOf37 rfl rfl) fun a hs => ?_
   refine gt hs 30 rfl ⟨_, rfl, rfl⟩ rfl hC (fun w hC => y_loadBA (hC.ownAt 8 rfl) rfl Try.isAgg37 Try.sizeOf37 rfl rfl) fun a hs => ?_
   refine gt hs 31 rfl ⟨_, rfl, rfl⟩ rfl hC (fun w hC => y_loadBA (hC.ownAt 6 rfl) rfl Try.isAgg37 Try.sizeOf37 rfl rfl) fun a hs => ?_
   refine ho 29 rfl ?_
   refine st_callR hs (response_Same_ok h5554 hw.bdom (hw.bE 5 rfl) (hw.bE 3 rfl)) (do_call Try.call35 rfl) ⟨_, rfl, rfl⟩ rfl rfl ?_
   intro v5576 Sv5573 w a h5574 h5575 hs
   subst h5575
   have hw := hw.callB h5574
   refine h_nx (hw.cs [0, 1, 2, 3, 4, 5, 6, 7, 8, 9, 10] [] rfl rfl) fun hC => ?_
   refine ho 32 rfl ?_
   refine st_callR hs (ref18_Same_ok h5556 hw.bdom (hw.bE 5 rfl) (hw.bE 3 rfl)) (do_call Try.call32 rfl) ⟨_, rfl, rfl⟩ rfl rfl ?_
   intro v5581 Sv5578 w a h5579 h5580 hs
   subst h5580
   have hw := hw.callB h5579
   refine h_nx (hw.cs [0, 1, 2, 3, 4, 5, 6, 7, 8, 9, 10] [] rfl rfl) fun hC => ?_
   refine gt hs 33 rfl ⟨_, rfl, rfl⟩ rfl hC (fun w hC => y_neqB Try.runUnderlying4 rfl rfl) fun a hs => ?_
   refine gv hs 34 rfl rfl hC (fun w hC => y_pickFE (v := .bool c5481) rfl rfl (vbs h5553)) fun a hs => ?_
   refine h_done (by kernel_rfl) ?_
   exact ⟨Sv5449, (hs.wk rfl), (hw.ft [4, 5, 6, 7, 8, 9] [2, 3, 4, 5, 6] (by decide) rfl rfl)⟩
  rintro a w ⟨Sv5482, hs, hw⟩
  refine then_normal ?_
  refine wp_cond_split (hs.ev rfl) (fun h5584 => ?_) (fun h5584 => ?_)
  ·have hsh := ite_t hsh h5584
   refine sr ?_
   refine av hs rfl rfl fun a hs => ?_
   refine nl ?_
   have hsh := oi hsh
   subst hsh
   have h5585 := hd3884 _ rfl
   subst h5585
   refine wp_ret ?_
   refine then_ret ?_
   refine blk_ret ?_
   refine then_ret ?_
   refine then_ret ?_
   refine blk_ret ?_
   refine then_ret ?_
   exact ret1 hs rfl (rv_tmp rfl) (hw.ret rfl)
  have hsh := ite_f hsh h5584
  refine wp_skip ?_
  refine then_normal ?_
  refine sr ?_
  refine sv hs (y_fieldAddr (o' := 0) Try.runUnderlying37 rfl Try.sizeOf35 rfl rfl rfl) rfl fun a hs => ?_
  refine sv hs (y_loadB1 (hw.ownAt 4 rfl) rfl Try.isAgg35 rfl) rfl fun a hs => ?_
  refine sv hs (y_len Try.runUnderlying35 rfl) rfl fun a hs => ?_
  refine mv hs rfl rfl fun a hs => ?_
  refine nl ?_
  refine wp_block ?_
  refine wp_while (fun sv5711 a w => ∃ (Sv5793 : Nat → Prop), Sl 293 [(3, .int .i64 num10), (4, .int .i64 den11), (7, .pointer (some ⟨b13, 0, none⟩)), (13, .pointer (some ⟨b277, 0, none⟩)), (14, .pointer (some ⟨b314, 0, none⟩)), (15, .pointer (some ⟨b315, 0, none⟩)), (92, .slice (some ⟨b383, 0, none⟩) ([rv287.1, (⟨l349⟩ : Response), raw5] : List Response).length ([rv287.1, (⟨l349⟩ : Response), raw5] : List Response).length), (93, .int .i64 (([rv287.1, (⟨l349⟩ : Response), raw5] : List Response).length : Int)), (94, .int .i64 sv2136.2.2), (259, .slice p4479 x4472.Stages.length k4481), (260, .int .i64 (x4472.Stages.length : Int)), (261, .int .i64 sv5711)] a ∧ Wd ⟨w0, S0, []⟩ Sv5793 [.box b13 [.int .i64 rate9.Num, .int .i64 rate9.Den] 51, .box b277 [.slice p5005 rv5004.2.L.length k5006, .int .i64 rv5004.2.At] 84, .box b314 [.slice p288 rv287.1.Stages.length k289] 37, .box b315 [.slice p302 rv301.1.Stages.length k303] 37, .row (some ⟨b383, 0, none⟩) ([rv287.1, (⟨l349⟩ : Response), raw5] : List Response).length ([rv287.1, (⟨l349⟩ : Response), raw5] : List Response).length [.slice p288 rv287.1.Stages.length k289, .slice p350 l349.length k351, .slice p6 raw5.Stages.length k7] 37 1] [SlA p4479 x4472.Stages.length k4481 x4472.Stages, SlA p5005 rv5004.2.L.length k5006 rv5004.2.L, SlA p288 rv287.1.Stages.length k289 rv287.1.Stages, SlA p302 rv301.1.Stages.length k303 rv301.1.Stages, RowA [.slice p288 rv287.1.Stages.length k289, .slice p350 l349.length k351, .slice p6 raw5.Stages.length k7] ([rv287.1, (⟨l349⟩ : Response), raw5] : List Response)] w) 0 hsh ⟨Sv5482, (hs.wk rfl), (hw.ft [0, 1, 2, 3, 5] [3, 0, 1, 2, 4] (by decide) rfl rfl)⟩ ?_
  repeat clear hsh
  rintro sv5711 a w tv5835 ⟨Sv5793, hs, hw⟩ hsh hd5834
  delta law18_ResponseExact_l31 at hsh
  refine sr ?_
  refine sv hs (y_lss rfl rfl) rfl fun a hs => ?_
  refine nl ?_
  refine wp_seq ?_
  refine wp_cond_split (hs.ev rfl) (fun h5839 => ?_) (fun h5839 => ?_)
  ·have hsh := ite_t hsh h5839
   refine wp_skip ?_
   refine then_normal ?_
   refine wp_seq ?_
   refine wp_block ?_
   refine sr ?_
   obtain ⟨x5881, h5879, hsh⟩ := bind_t hsh
   obtain ⟨b5887, o5888, q5885, c5886, h5889, h5882, h5883, h5884, h5880⟩ := hw.elemV 0 rfl h5879
   have hsv5890 := hs
   have hwv5891 := hw
   subst h5889
   have hs := hsv5890
   have hw := hwv5891
   obtain ⟨_, _, _, _, _, _, _, _, _, _, rfl, rfl, rfl, rfl, rfl, rfl, rfl, rfl, ⟨p5892, n5893, k5894, rfl, h5895⟩, rfl, rfl⟩ := h5880
   obtain rfl := h5895.1
   have hw := hw.addE (e := SlA p5892 _ k5894 x5881.Taps) h5895
   have hw := hw.addE h5884
   refine sv hs (y_indexAt Try.runUnderlying35 Try.sizeOf26 rfl rfl h5882.1 h5882.2 h5883) rfl fun a hs => ?_
   refine sv hs (y_loadEA (j := 0) (hw.ceAt 0 rfl) rfl Try.isAgg26 Try.sizeOf26 rfl rfl) rfl fun a hs => ?_
   refine w_alloc (cs := [.int .i64 0, .int .i64 0, .int .i64 0, .int .i64 0, .int .i64 0, .int .i64 0, .int .i64 0, .slice none ([] : List Int).length 0, .int .i64 0, .int .i64 0]) hs hw Try.zeroValue26 rfl rfl trivial ?_
   intro b5896 a w hs hw
   refine w_store (m := 10) (cs' := [.int .i64 x5881.Kind, .int .i64 x5881.Num.e0, .int .i64 x5881.Num.e1, .int .i64 x5881.Num.e2, .int .i64 x5881.Den.e0, .int .i64 x5881.Den.e1, .int .i64 x5881.Den.e2, .slice p5892 x5881.Taps.length k5894, .int .i64 x5881.Factor, .int .i64 x5881.Shift]) hs hw 0 rfl rfl rfl Try.sizeOf26 rfl rfl rfl rfl trivial ?_
   intro a w hs hw
   refine nl ?_
   refine sr ?_
   refine sv hs (y_loadBA (hw.ownAt 0 rfl) rfl Try.isAgg26 Try.sizeOf26 rfl rfl) rfl fun a hs => ?_
   obtain ⟨rv5898, h5897, hsh⟩ := bind_t hsh
   refine st_callR hs (response_Sum_ok h5897 hw.bdom (hw.bE 1 rfl)) (do_call Try.call36 rfl) trivial rfl rfl ?_
   intro v5902 Sv5899 w a h5900 h5901 hs
   subst h5901
   have hw := hw.callB h5900
   refine mv hs rfl rfl fun a hs => ?_
   refine sv hs (y_extract rfl rfl) rfl fun a hs => ?_
   refine sv hs (y_extract rfl rfl) rfl fun a hs => ?_
   refine av hs rfl rfl fun a hs => ?_
   refine av hs rfl rfl fun a hs => ?_
   refine nl ?_
   refine sr ?_
   refine sv hs (y_loadBA (hw.ownAt 0 rfl) rfl Try.isAgg26 Try.sizeOf26 rfl rfl) rfl fun a hs => ?_
   obtain ⟨rv5905, h5904, hsh⟩ := bind_t hsh
   refine st_callR hs (ref18_Sum_ok h5904 hw.bdom (hw.bE 1 rfl)) (do_call Try.call37 rfl) trivial rfl rfl ?_
   intro v5909 Sv5906 w a h5907 h5908 hs
   subst h5908
   have hw := hw.callB h5907
   refine mv hs rfl rfl fun a hs => ?_
   refine sv hs (y_extract rfl rfl) rfl fun a hs => ?_
   refine sv hs (y_extract rfl rfl) rfl fun a hs => ?_
   refine av hs rfl rfl fun a hs => ?_
   refine av hs rfl rfl fun a hs => ?_
   refine nl ?_
   refine wp_seq ?_
   obtain ⟨c5915, hc5915, hsh⟩ := bind_t hsh
   refine wp_only (fun a w => ∃ (Sv5916 : Nat → Prop), Sl 293 [(3, .int .i64 num10), (4, .int .i64 den11), (7, .pointer (some ⟨b13, 0, none⟩)), (13, .pointer (some ⟨b277, 0, none⟩)), (14, .pointer (some ⟨b314, 0, none⟩)), (15, .pointer (some ⟨b315, 0, none⟩)), (92, .slice (some ⟨b383, 0, none⟩) ([rv287.1, (⟨l349⟩ : Response), raw5] : List Response).length ([rv287.1, (⟨l349⟩ : Response), raw5] : List Response).length), (93, .int .i64 (([rv287.1, (⟨l349⟩ : Response), raw5] : List Response).length : Int)), (94, .int .i64 sv2136.2.2), (259, .slice (some ⟨b5887, o5888, none⟩) x4472.Stages.length k4481), (260, .int .i64 (x4472.Stages.length : Int)), (261, .int .i64 sv5711), (289, .bool c5915)] a ∧ Wd ⟨w0, S0, []⟩ Sv5916 [.box b13 [.int .i64 rate9.Num, .int .i64 rate9.Den] 51, .box b277 [.slice p5005 rv5004.2.L.length k5006, .int .i64 rv5004.2.At] 84, .box b314 [.slice p288 rv287.1.Stages.length k289] 37, .box b315 [.slice p302 rv301.1.Stages.length k303] 37, .row (some ⟨b383, 0, none⟩) ([rv287.1, (⟨l349⟩ : Response), raw5] : List Response).length ([rv287.1, (⟨l349⟩ : Response), raw5] : List Response).length [.slice p288 rv287.1.Stages.length k289, .slice p350 l349.length k351, .slice p6 raw5.Stages.length k7] 37 1] [SlA (some ⟨b5887, o5888, none⟩) x4472.Stages.length k4481 x4472.Stages, SlA p5005 rv5004.2.L.length k5006 rv5004.2.L, SlA p288 rv287.1.Stages.length k289 rv287.1.Stages, SlA p302 rv301.1.Stages.length k303 rv301.1.Stages, RowA [.slice p288 rv287.1.Stages.length k289, .slice p350 l349.length k351, .slice p6 raw5.Stages.length k7] ([rv287.1, (⟨l349⟩ : Response), raw5] : List Response)] w) ?_ ?_
   ·rcases Bool.eq_false_or_eq_true (rv5898.1 != rv5905.1) with h5917 | h5917
    ·have h5919 : ((rv5898.1 != rv5905.1) || (rv5898.2 != rv5905.2)) = true := by rw [h5917]; rfl
     have h5920 := ite_t hc5915 h5919
     refine h_b (C := Cls [.box b5896 [.int .i64 x5881.Kind, .int .i64 x5881.Num.e0, .int .i64 x5881.Num.e1, .int .i64 x5881.Num.e2, .int .i64 x5881.Den.e0, .int .i64 x5881.Den.e1, .int .i64 x5881.Den.e2, .slice p5892 x5881.Taps.length k5894, .int .i64 x5881.Factor, .int .i64 x5881.Shift] 26, .box b13 [.int .i64 rate9.Num, .int .i64 rate9.Den] 51, .box b277 [.slice p5005 rv5004.2.L.length k5006, .int .i64 rv5004.2.At] 84, .box b314 [.slice p288 rv287.1.Stages.length k289] 37, .box b315 [.slice p302 rv301.1.Stages.length k303] 37, .row (some ⟨b383, 0, none⟩) ([rv287.1, (⟨l349⟩ : Response), raw5] : List Response).length ([rv287.1, (⟨l349⟩ : Response), raw5] : List Response).length [.slice p288 rv287.1.Stages.length k289, .slice p350 l349.length k351, .slice p6 raw5.Stages.length k7] 37 1] [CeA b5887 q5885 [.int .i64 x5881.Kind, .int .i64 x5881.Num.e0, .int .i64 x5881.Num.e1, .int .i64 x5881.Num.e2, .int .i64 x5881.Den.e0, .int .i64 x5881.Den.e1, .int .i64 x5881.Den.e2, .slice p5892 x5881.Taps.length k5894, .int .i64 x5881.Factor, .int .i64 x5881.Shift]]) (by kernel_rfl) rfl (hw.drew.cs [0, 1, 2, 3, 4, 5] [0] rfl rfl) fun hC => ?_
     have hw := hw.drew
     refine gm hs 0 rfl rfl rfl hC fun a hs => ?_
     refine gm hs 1 rfl rfl rfl hC fun a hs => ?_
     refine gv hs 2 rfl rfl hC (fun w hC => y_neq rfl rfl) fun a hs => ?_
     refine gm hs 3 rfl rfl rfl hC fun a hs => ?_
     have hs := hs.fix 278 (.bool true) rfl (vb h5917)
     refine gs hs 4 rfl rfl rfl rfl hC fun a hs => ?_
     refine gs hs 5 rfl rfl rfl rfl hC fun a hs => ?_
     refine gs hs 6 rfl rfl rfl rfl hC fun a hs => ?_
     refine gv hs 7 rfl rfl hC (fun w hC => y_pickTE (v := .bool ((rv5898.1 != rv5905.1) || (rv5898.2 != rv5905.2))) rfl rfl (or_t h5917)) fun a hs => ?_
     refine gm hs 8 rfl rfl rfl hC fun a hs => ?_
     have hs := hs.fix 283 (.bool true) rfl (vb h5919)
     refine gs hs 9 rfl rfl rfl rfl hC fun a hs => ?_
     refine gs hs 10 rfl rfl rfl rfl hC fun a hs => ?_
     refine gs hs 11 rfl rfl rfl rfl hC fun a hs => ?_
     refine gs hs 12 rfl rfl rfl rfl hC fun a hs => ?_
     refine gs hs 13 rfl rfl rfl rfl hC fun a hs => ?_
     refine gv hs 14 rfl rfl hC (fun w hC => y_pickTE (v := .bool c5915) rfl rfl (vbs h5920)) fun a hs => ?_
     refine h_done (by kernel_rfl) ?_
     exact ⟨Sv5793, (hs.wk rfl), (hw.ft [1, 2, 3, 4, 5] [2, 3, 4, 5, 6] (by decide) rfl rfl)⟩
    rcases Bool.eq_false_or_eq_true ((rv5898.1 != rv5905.1) || (rv5898.2 != rv5905.2)) with h5922 | h5922
    ·have h5923 := ite_t hc5915 h5922
     refine h_b (C := Cls [.box b5896 [.int .i64 x5881.Kind, .int .i64 x5881.Num.e0, .int .i64 x5881.Num.e1, .int .i64 x5881.Num.e2, .int .i64 x5881.Den.e0, .int .i64 x5881.Den.e1, .int .i64 x5881.Den.e2, .slice p5892 x5881.Taps.length k5894, .int .i64 x5881.Factor, .int .i64 x5881.Shift] 26, .box b13 [.int .i64 rate9.Num, .int .i64 rate9.Den] 51, .box b277 [.slice p5005 rv5004.2.L.length k5006, .int .i64 rv5004.2.At] 84, .box b314 [.slice p288 rv287.1.Stages.length k289] 37, .box b315 [.slice p302 rv301.1.Stages.length k303] 37, .row (some ⟨b383, 0, none⟩) ([rv287.1, (⟨l349⟩ : Response), raw5] : List Response).length ([rv287.1, (⟨l349⟩ : Response), raw5] : List Response).length [.slice p288 rv287.1.Stages.length k289, .slice p350 l349.length k351, .slice p6 raw5.Stages.length k7] 37 1] [CeA b5887 q5885 [.int .i64 x5881.Kind, .int .i64 x5881.Num.e0, .int .i64 x5881.Num.e1, .int .i64 x5881.Num.e2, .int .i64 x5881.Den.e0, .int .i64 x5881.Den.e1, .int .i64 x5881.Den.e2, .slice p5892 x5881.Taps.length k5894, .int .i64 x5881.Factor, .int .i64 x5881.Shift]]) (by kernel_rfl) rfl (hw.drew.cs [0, 1, 2, 3, 4, 5] [0] rfl rfl) fun hC => ?_
     have hw := hw.drew
     refine gm hs 0 rfl rfl rfl hC fun a hs => ?_
     refine gm hs 1 rfl rfl rfl hC fun a hs => ?_
     refine gv hs 2 rfl rfl hC (fun w hC => y_neq rfl rfl) fun a hs => ?_
     refine gm hs 3 rfl rfl rfl hC fun a hs => ?_
     have hs := hs.fix 278 (.bool false) rfl (vb h5917)
     refine gt hs 4 rfl ⟨_, rfl, rfl⟩ rfl hC (fun w hC => y_move rfl) fun a hs => ?_
     refine gt hs 5 rfl ⟨_, rfl, rfl⟩ rfl hC (fun w hC => y_move rfl) fun a hs => ?_
     refine gt hs 6 rfl ⟨_, rfl, rfl⟩ rfl hC (fun w hC => y_neq rfl rfl) fun a hs => ?_
     refine gv hs 7 rfl rfl hC (fun w hC => y_pickFE (v := .bool ((rv5898.1 != rv5905.1) || (rv5898.2 != rv5905.2))) rfl rfl (or_f h5917)) fun a hs => ?_
     refine gm hs 8 rfl rfl rfl hC fun a hs => ?_
     have hs := hs.fix 283 (.bool true) rfl (vb h5922)
     refine gs hs 9 rfl rfl rfl rfl hC fun a hs => ?_
     refine gs hs 10 rfl rfl rfl rfl hC fun a hs => ?_
     refine gs hs 11 rfl rfl rfl rfl hC fun a hs => ?_
     refine gs hs 12 rfl rfl rfl rfl hC fun a hs => ?_
     refine gs hs 13 rfl rfl rfl rfl hC fun a hs => ?_
     refine gv hs 14 rfl rfl hC (fun w hC => y_pickTE (v := .bool c5915) rfl rfl (vbs h5923)) fun a hs => ?_
     refine h_done (by kernel_rfl) ?_
     exact ⟨Sv5793, (hs.wk rfl), (hw.ft [1, 2, 3, 4, 5] [2, 3, 4, 5, 6] (by decide) rfl rfl)⟩
    have h5924 := ite_f hc5915 h5922
    obtain ⟨rv5926, h5925, h5924⟩ := bind_t h5924
    obtain ⟨rv5928, h5927, h5924⟩ := bind_t h5924
    refine h_b (C := Cls [.box b5896 [.int .i64 x5881.Kind, .int .i64 x5881.Num.e0, .int .i64 x5881.Num.e1, .int .i64 x5881.Num.e2, .int .i64 x5881.Den.e0, .int .i64 x5881.Den.e1, .int .i64 x5881.Den.e2, .slice p5892 x5881.Taps.length k5894, .int .i64 x5881.Factor, .int .i64 x5881.Shift] 26, .box b13 [.int .i64 rate9.Num, .int .i64 rate9.Den] 51, .box b277 [.slice p5005 rv5004.2.L.length k5006, .int .i64 rv5004.2.At] 84, .box b314 [.slice p288 rv287.1.Stages.length k289] 37, .box b315 [.slice p302 rv301.1.Stages.length k303] 37, .row (some ⟨b383, 0, none⟩) ([rv287.1, (⟨l349⟩ : Response), raw5] : List Response).length ([rv287.1, (⟨l349⟩ : Response), raw5] : List Response).length [.slice p288 rv287.1.Stages.length k289, .slice p350 l349.length k351, .slice p6 raw5.Stages.length k7] 37 1] [CeA b5887 q5885 [.int .i64 x5881.Kind, .int .i64 x5881.Num.e0, .int .i64 x5881.Num.e1, .int .i64 x5881.Num.e2, .int .i64 x5881.Den.e0, .int .i64 x5881.Den.e1, .int .i64 x5881.Den.e2, .slice p5892 x5881.Taps.length k5894, .int .i64 x5881.Factor, .int .i64 x5881.Shift]]) (by kernel_rfl) rfl (hw.drew.cs [0, 1, 2, 3, 4, 5] [0] rfl rfl) fun hC => ?_
    have hw := hw.drew
    refine gm hs 0 rfl rfl rfl hC fun a hs => ?_
    refine gm hs 1 rfl rfl rfl hC fun a hs => ?_
    refine gv hs 2 rfl rfl hC (fun w hC => y_neq rfl rfl) fun a hs => ?_
    refine gm hs 3 rfl rfl rfl hC fun a hs => ?_
    have hs := hs.fix 278 (.bool false) rfl (vb h5917)
    refine gt hs 4 rfl ⟨_, rfl, rfl⟩ rfl hC (fun w hC => y_move rfl) fun a hs => ?_
    refine gt hs 5 rfl ⟨_, rfl, rfl⟩ rfl hC (fun w hC => y_move rfl) fun a hs => ?_
    refine gt hs 6 rfl ⟨_, rfl, rfl⟩ rfl hC (fun w hC => y_neq rfl rfl) fun a hs => ?_
    refine gv hs 7 rfl rfl hC (fun w hC => y_pickFE (v := .bool ((rv5898.1 != rv5905.1) || (rv5898.2 != rv5905.2))) rfl rfl (or_f h5917)) fun a hs => ?_
    refine gm hs 8 rfl rfl rfl hC fun a hs => ?_
    have hs := hs.fix 283 (.bool false) rfl (vb h5922)
    refine gt hs 9 rfl ⟨_, rfl, rfl⟩ rfl hC (fun w hC => y_loadBA (hC.ownAt 0 rfl) rfl Try.isAgg26 Try.sizeOf26 rfl rfl) fun a hs => ?_
    refine gt hs 11 rfl ⟨_, rfl, rfl⟩ rfl hC (fun w hC => y_loadBA (hC.ownAt 0 rfl) rfl Try.isAgg26 Try.sizeOf26 rfl rfl) fun a hs => ?_
    refine ho 10 rfl ?_
    refine st_callR hs (response_ValidStage_ok h5925 hw.bdom (hw.bE 1 rfl)) (do_call Try.call7 rfl) ⟨_, rfl, rfl⟩ rfl rfl ?_
    intro v5932 Sv5929 w a h5930 h5931 hs
    subst h5931
    have hw := hw.callB h5930
    refine h_nx (hw.cs [0, 1, 2, 3, 4, 5] [0] rfl rfl) fun hC => ?_
    refine ho 12 rfl ?_
    refine st_callR hs (ref18_ValidStage_ok h5927 hw.bdom (hw.bE 1 rfl)) (do_call Try.call38 rfl) ⟨_, rfl, rfl⟩ rfl rfl ?_
    intro v5937 Sv5934 w a h5935 h5936 hs
    subst h5936
    have hw := hw.callB h5935
    refine h_nx (hw.cs [0, 1, 2, 3, 4, 5] [0] rfl rfl) fun hC => ?_
    refine gt hs 13 rfl ⟨_, rfl, rfl⟩ rfl hC (fun w hC => y_neqB Try.runUnderlying4 rfl rfl) fun a hs => ?_
    refine gv hs 14 rfl rfl hC (fun w hC => y_pickFE (v := .bool c5915) rfl rfl (vbs h5924)) fun a hs => ?_
    refine h_done (by kernel_rfl) ?_
    exact ⟨Sv5793, (hs.wk rfl), (hw.ft [1, 2, 3, 4, 5] [2, 3, 4, 5, 6] (by decide) rfl rfl)⟩
   rintro a w ⟨Sv5916, hs, hw⟩
   refine then_normal ?_
   refine wp_cond_split (hs.ev rfl) (fun h5940 => ?_) (fun h5940 => ?_)
   ·have hsh := ite_t hsh h5940
    refine sr ?_
    refine av hs rfl rfl fun a hs => ?_
    refine nl ?_
    have hsh := oi hsh
    subst hsh
    have h5941 := hd5834 _ rfl
    subst h5941
    have h5942 := hd3884 _ rfl
    subst h5942
    refine wp_ret ?_
    refine blk_ret ?_
    refine then_ret ?_
    refine then_ret ?_
    refine blk_ret ?_
    refine blk_ret ?_
    refine then_ret ?_
    refine then_ret ?_
    refine blk_ret ?_
    refine then_ret ?_
    exact ret1 hs rfl (rv_tmp rfl) (hw.ret rfl)
   have hsh := ite_f hsh h5940
   refine wp_skip ?_
   refine blk_normal ?_
   refine then_normal ?_
   refine wp_region_lit ?_
   refine sv hs (y_add rfl rfl) rfl fun a hs => ?_
   refine mv hs rfl rfl fun a hs => ?_
   refine nl ?_
   exact ⟨_, (Option.some.inj hsh).symm, Sv5916, (hs.wk rfl), (hw.ft [0, 1, 2, 3, 4] [0, 1, 2, 3, 4] (by decide) rfl rfl)⟩
  have hsh := ite_f hsh h5839
  obtain ⟨rv5943, hsh, h5944⟩ := map_t hsh
  have h5944 := (hd5834 _ h5944.symm).symm
  subst h5944
  refine wp_exit ?_
  refine then_exit ?_
  refine then_exit ?_
  refine blk_exit ?_
  refine blk_normal ?_
  refine then_normal ?_
  refine wp_region_lit ?_
  refine sv hs (y_add rfl rfl) rfl fun a hs => ?_
  refine mv hs rfl rfl fun a hs => ?_
  refine nl ?_
  exact ⟨_, (Option.some.inj hsh).symm, p5005, k5006, Sv5793, (hs.wk rfl), (hw.ft [0, 1, 2, 3, 4] [1, 2, 3, 4] (by decide) rfl rfl)⟩
 have hsh := ite_f hsh h3890
 obtain ⟨rv5956, hsh, h5957⟩ := map_t hsh
 have h5957 := (hd3884 _ h5957.symm).symm
 subst h5957
 refine wp_exit ?_
 refine then_exit ?_
 refine then_exit ?_
 refine blk_exit ?_
 refine then_normal ?_
 refine sr ?_
 obtain ⟨rv5950, h5949, hsh⟩ := bind_t hsh
 refine st_callR hs (law18_sane_ok h5949 hw.bdom) (do_call Try.call8 rfl) trivial rfl rfl ?_
 intro v5954 Sv5951 w a h5952 h5953 hs
 subst h5953
 have hw := hw.callB h5952
 refine av hs rfl rfl fun a hs => ?_
 refine nl ?_
 have hsh := oi hsh
 subst hsh
 refine wp_ret ?_
 exact ret1 hs rfl (rv_tmp rfl) (hw.ret rfl)

end Go.Proofs.Ytoendkojgjobbaa.Wk

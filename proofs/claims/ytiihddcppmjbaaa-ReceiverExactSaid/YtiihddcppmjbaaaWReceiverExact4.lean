/- The walks of ReceiverExact, part 4: each Go function computes what its plain program computes. Printed by a program of ours. -/
import Derived.Test.YtiihddcppmjbaaaProg
import Derived.Test.YtiihddcppmjbaaaDat
import Derived.Test.YtiihddcppmjbaaaSh
import Derived.Test.YtiihddcppmjbaaaLibL
import Derived.Test.YtiihddcppmjbaaaLibZ
import Derived.KernelRfl
import Derived.Test.YtiihddcppmjbaaaWReceiverExact3
namespace Go.Proofs.Ytiihddcppmjbaaa.Wk
open Go Go.RowKit Go.Proofs Go.Proofs.Ytiihddcppmjbaaa.Sh
set_option linter.unusedVariables false
set_option linter.unusedSimpArgs false

abbrev made_Dice_Receiver_rd (w0 : World) (X : List Nat) (b2 : Nat) (r : (Receiver × Dice)) : (Nat → Prop) → World → Value → Prop := fun S w v => ∃ (p0_0 : Option Addr) (k0_0 : Nat) (p0_1 : Option Addr) (k0_1 : Nat) (pq0_0 : Option Addr) (kq0_0 : Nat), v = .agg #[.slice p0_0 r.1.Got.length k0_0, .slice p0_1 r.1.Lost.length k0_1] ∧ Outs X w0 S w [.box b2 [.slice pq0_0 r.2.L.length kq0_0, .int .i64 r.2.At] 57] ∧ (SlA p0_0 r.1.Got.length k0_0 r.1.Got).p S w ∧ (SlA p0_1 r.1.Lost.length k0_1 r.1.Lost).p S w ∧ (SlA pq0_0 r.2.L.length kq0_0 r.2.L).p S w
set_option maxHeartbeats 4000000 in
set_option maxRecDepth 100000 in
theorem made_Dice_Receiver_ok {w0 : World} {S0 : Nat → Prop} {b2 : Nat} {p3 : Option Addr} {k4 : Nat} {d1 : Dice} {r : (Receiver × Dice)} (hsh : made_Dice_Receiver d1 = some r) (hS : ∀ b, S0 b → b < w0.heap.size) (hin : Ins S0 w0 [.box b2 [.slice p3 d1.L.length k4, .int .i64 d1.At] 57]) (h5 : (SlA p3 d1.L.length k4 d1.L).p S0 w0) : Calls Try.prog 16 #[.pointer (some ⟨b2, 0, none⟩)] w0 (Ret (blks [.box b2 [.slice p3 d1.L.length k4, .int .i64 d1.At] 57]) w0 S0 (made_Dice_Receiver_rd w0 (blks [.box b2 [.slice p3 d1.L.length k4, .int .i64 d1.At] 57]) b2 r)) := by
 refine calls_of_wp Try.func16 rfl ?_
 have hs := Sl.enter #[.pointer (some ⟨b2, 0, none⟩)] 31 [(0, .pointer (some ⟨b2, 0, none⟩))] rfl ⟨rfl, trivial⟩
 have hw := Wd.enterI hS hin
 have hw := hw.addE h5
 delta made_Dice_Receiver at hsh
 refine sr ?_
 refine w_alloc (cs := [.slice none ([] : List Span).length 0, .slice none ([] : List Span).length 0]) hs hw Try.zeroValue29 rfl rfl trivial ?_
 intro b6 a w hs hw
 refine nl ?_
 refine sr ?_
 obtain ⟨rv8, h7, hsh⟩ := bind_t hsh
 refine st_callR hs (ref11_New_ok h7 hw.dom) (do_call Try.call30 rfl) trivial rfl rfl ?_
 intro v18 Sv15 w a h16 h17 hs
 obtain ⟨p9, k10, p12, k13, rfl, h11, h14⟩ := h17
 have hw := hw.call h16
 have hw := hw.addE (e := SlA p9 rv8.Got.length k10 rv8.Got) h11
 have hw := hw.addE (e := SlA p12 rv8.Lost.length k13 rv8.Lost) h14
 refine w_alloc (cs := [.slice none ([] : List Span).length 0, .slice none ([] : List Span).length 0]) hs hw Try.zeroValue29 rfl rfl trivial ?_
 intro b20 a w hs hw
 refine w_store (m := 2) (cs' := [.slice p9 rv8.Got.length k10, .slice p12 rv8.Lost.length k13]) hs hw 0 rfl rfl rfl Try.sizeOf29 rfl rfl rfl rfl trivial ?_
 intro a w hs hw
 refine nl ?_
 refine wp_seq ?_
 refine sr ?_
 refine mv hs rfl rfl fun a hs => ?_
 obtain ⟨rv22, h21, hsh⟩ := bind_t hsh
 refine st_callR hs (made_Dice_Next_ok h21 hw.dom (hw.ins [2] (by decide) rfl) (hw.envAt 2 rfl)) (do_call Try.call11 rfl) trivial rfl rfl ?_
 intro v29 Sv26 w a h27 h28 hs
 obtain ⟨p23, k24, rfl, h30, h25⟩ := h28
 have hw := hw.callO [2] [0, 1] (by decide) rfl h27 h30
 have hw := hw.addE (e := SlA p23 rv22.2.L.length k24 rv22.2.L) h25
 refine av hs rfl rfl fun a hs => ?_
 refine nl ?_
 obtain ⟨e208, h390, hsh⟩ := bind_t hsh
 refine wp_join (fun a w => ∃ (p209 : Option Addr) (k210 : Nat) (p211 : Option Addr) (k212 : Nat) (p213 : Option Addr) (k214 : Nat) (Sv215 : Nat → Prop), Sl 31 [(2, .pointer (some ⟨b6, 0, none⟩)), (3, .pointer (some ⟨b20, 0, none⟩))] a ∧ Wd ⟨w0, S0, blks [.box b2 [.slice p3 d1.L.length k4, .int .i64 d1.At] 57]⟩ Sv215 [.box b2 [.slice p209 e208.1.length k210, .int .i64 e208.2.1] 57, .box b6 [.slice none ([] : List Span).length 0, .slice none ([] : List Span).length 0] 29, .box b20 [.slice p211 e208.2.2.1.length k212, .slice p213 e208.2.2.2.length k214] 29] [SlA p209 e208.1.length k210 e208.1, SlA none ([] : List Span).length 0 ([] : List Span), SlA p211 e208.2.2.1.length k212 e208.2.2.1, SlA p213 e208.2.2.2.length k214 e208.2.2.2] w) ?_ ?_
 ·refine wp_block ?_
  have hw := hw.addE (e := SlA (α := Span) none 0 0 []) nil_sl
  refine wp_while (fun sv31 a w => ∃ (p145 : Option Addr) (k146 : Nat) (p147 : Option Addr) (k148 : Nat) (p149 : Option Addr) (k150 : Nat) (Sv151 : Nat → Prop), Sl 31 [(0, .pointer (some ⟨b2, 0, none⟩)), (2, .pointer (some ⟨b6, 0, none⟩)), (3, .pointer (some ⟨b20, 0, none⟩)), (4, .int .i64 sv31.2.2.2.2)] a ∧ Wd ⟨w0, S0, blks [.box b2 [.slice p3 d1.L.length k4, .int .i64 d1.At] 57]⟩ Sv151 [.box b2 [.slice p145 sv31.1.length k146, .int .i64 sv31.2.1] 57, .box b6 [.slice none ([] : List Span).length 0, .slice none ([] : List Span).length 0] 29, .box b20 [.slice p147 sv31.2.2.1.length k148, .slice p149 sv31.2.2.2.1.length k150] 29] [SlA p145 sv31.1.length k146 sv31.1, SlA none ([] : List Span).length 0 ([] : List Span), SlA p147 sv31.2.2.1.length k148 sv31.2.2.1, SlA p149 sv31.2.2.2.1.length k150 sv31.2.2.2.1] w) (rv22.2.L, rv22.2.At, rv8.Got, rv8.Lost, rv22.1) h390 ⟨p23, k24, p9, k10, p12, k13, Sv26, (hs.wk rfl), (hw.ft [0, 2, 1] [1, 0, 3, 2] (by decide) rfl rfl)⟩ ?_
  clear h390
  repeat clear hsh
  rintro sv31 a w tv206 ⟨p145, k146, p147, k148, p149, k150, Sv151, hs, hw⟩ hsh hd205
  delta made_Dice_Receiver_l1 at hsh
  refine wp_seq ?_
  refine sr ?_
  refine mv hs rfl rfl fun a hs => ?_
  refine sv hs (y_gtr rfl rfl) rfl fun a hs => ?_
  refine nl ?_
  refine wp_cond_split (hs.ev rfl) (fun h217 => ?_) (fun h217 => ?_)
  ·have hsh := ite_t hsh h217
   refine wp_skip ?_
   refine then_normal ?_
   refine wp_seq ?_
   refine wp_block ?_
   refine sr ?_
   refine mv hs rfl rfl fun a hs => ?_
   obtain ⟨rv269, h268, hsh⟩ := bind_t hsh
   refine st_callR hs (made_Dice_Next_ok h268 hw.dom (hw.ins [0] (by decide) rfl) (hw.envAt 0 rfl)) (do_call Try.call11 rfl) trivial rfl rfl ?_
   intro v276 Sv273 w a h274 h275 hs
   obtain ⟨p270, k271, rfl, h277, h272⟩ := h275
   have hw := hw.callO [0] [1, 2] (by decide) rfl h274 h277
   have hw := hw.addE (e := SlA p270 rv269.2.L.length k271 rv269.2.L) h272
   refine sv hs (y_eql rfl rfl) rfl fun a hs => ?_
   refine nl ?_
   refine wp_join (fun a w => ∃ (x314 : (List Int)) (x315 : Int) (x316 : (List Span)) (x317 : (List Span)) (p307 : Option Addr) (k308 : Nat) (p309 : Option Addr) (k310 : Nat) (p311 : Option Addr) (k312 : Nat) (Sv313 : Nat → Prop), made_Dice_Receiver_j1 sv31 x314 x315 x316 x317 = some tv206 ∧ Sl 31 [(0, .pointer (some ⟨b2, 0, none⟩)), (2, .pointer (some ⟨b6, 0, none⟩)), (3, .pointer (some ⟨b20, 0, none⟩)), (4, .int .i64 sv31.2.2.2.2)] a ∧ Wd ⟨w0, S0, blks [.box b2 [.slice p3 d1.L.length k4, .int .i64 d1.At] 57]⟩ Sv313 [.box b2 [.slice p307 x314.length k308, .int .i64 x315] 57, .box b6 [.slice none ([] : List Span).length 0, .slice none ([] : List Span).length 0] 29, .box b20 [.slice p309 x316.length k310, .slice p311 x317.length k312] 29] [SlA p307 x314.length k308 x314, SlA none ([] : List Span).length 0 ([] : List Span), SlA p309 x316.length k310 x316, SlA p311 x317.length k312 x317] w) ?_ ?_
   ·refine wp_cond_split (hs.ev rfl) (fun h320 => ?_) (fun h320 => ?_)
    ·have hsh := ite_t hsh h320
     obtain ⟨rv322, h321, hsh⟩ := bind_t hsh
     obtain ⟨rv327, h326, hsh⟩ := bind_t hsh
     refine wp_only (fun a w => ∃ (Sv334 : Nat → Prop) (k324 : Nat) (k329 : Nat) (k332 : Nat) (p323 : Option Addr) (p328 : Option Addr) (p331 : Option Addr), Sl 31 [(0, .pointer (some ⟨b2, 0, none⟩)), (2, .pointer (some ⟨b6, 0, none⟩)), (3, .pointer (some ⟨b20, 0, none⟩)), (4, .int .i64 sv31.2.2.2.2)] a ∧ Wd ⟨w0, S0, blks [.box b2 [.slice p3 d1.L.length k4, .int .i64 d1.At] 57]⟩ Sv334 [.box b2 [.slice p323 rv322.2.L.length k324, .int .i64 rv322.2.At] 57, .box b6 [.slice none ([] : List Span).length 0, .slice none ([] : List Span).length 0] 29, .box b20 [.slice p328 rv327.1.Got.length k329, .slice p331 rv327.1.Lost.length k332] 29] [SlA p323 rv322.2.L.length k324 rv322.2.L, SlA none ([] : List Span).length 0 ([] : List Span), SlA p328 rv327.1.Got.length k329 rv327.1.Got, SlA p331 rv327.1.Lost.length k332 rv327.1.Lost] w) ?_ ?_
     ·refine h_b (C := Cls [.box b6 [.slice none ([] : List Span).length 0, .slice none ([] : List Span).length 0] 29] []) (by kernel_rfl) rfl (hw.drew.cs [1] [] rfl rfl) fun hC => ?_
      have hw := hw.drew
      refine gm hs 1 rfl rfl rfl hC fun a hs => ?_
      refine h_all (rs := [0, 2]) (by kernel_rfl) rfl ?_
      refine AllH.cons rfl ?_ ?_
      ·refine sv hs (y_loadBA (hw.ownAt 2 rfl) rfl Try.isAgg29 Try.sizeOf29 rfl rfl) rfl fun a hs => ?_
       refine h_nx (hw.cs [1] [] rfl rfl) fun hC => ?_
       refine ho 2 rfl ?_
       refine st_callR hs (made_Dice_Next_ok h321 hw.dom (hw.ins [0] (by decide) rfl) (hw.envAt 0 rfl)) (do_call Try.call11 rfl) trivial rfl rfl ?_
       intro v338 Sv335 w a h336 h337 hs
       obtain ⟨p323, k324, rfl, h339, h325⟩ := h337
       have hw := hw.callO [0] [1, 2] (by decide) rfl h336 h339
       have hw := hw.addE (e := SlA p323 rv322.2.L.length k324 rv322.2.L) h325
       refine h_nx (hw.cs [1] [] rfl rfl) fun hC => ?_
       refine ho 3 rfl ?_
       refine st_callR hs (ref11_Lose_ok h326 hw.dom (hw.envAt 4 rfl) (hw.envAt 5 rfl)) (do_call Try.call21 rfl) trivial rfl rfl ?_
       intro v343 Sv340 w a h341 h342 hs
       obtain ⟨p328, k329, p331, k332, rfl, h330, h333⟩ := h342
       have hw := hw.call h341
       have hw := hw.addE (e := SlA p328 rv327.1.Got.length k329 rv327.1.Got) h330
       have hw := hw.addE (e := SlA p331 rv327.1.Lost.length k332 rv327.1.Lost) h333
       refine h_nx (hw.cs [1] [] rfl rfl) fun hC => ?_
       refine gm hs 4 rfl rfl rfl hC fun a hs => ?_
       refine gv hs 5 rfl rfl hC (fun w hC => y_extract rfl rfl) fun a hs => ?_
       refine gv hs 6 rfl rfl hC (fun w hC => y_extract rfl rfl) fun a hs => ?_
       refine ho 7 rfl ?_
       refine w_store (m := 2) (cs' := [.slice p328 rv327.1.Got.length k329, .slice p331 rv327.1.Lost.length k332]) hs hw 2 rfl rfl rfl Try.sizeOf29 rfl rfl rfl rfl trivial ?_
       intro a w hs hw
       refine h_nx (hw.cs [1] [] rfl rfl) fun hC => ?_
       refine h_done (by kernel_rfl) ?_
       exact ⟨Sv340, k324, k329, k332, p323, p328, p331, (hs.wk rfl), (hw.ft [0, 1, 2] [2, 5, 1, 0] (by decide) rfl rfl)⟩
      refine AllH.cons rfl ?_ ?_
      ·refine st_callR hs (made_Dice_Next_ok h321 hw.dom (hw.ins [0] (by decide) rfl) (hw.envAt 0 rfl)) (do_call Try.call11 rfl) trivial rfl rfl ?_
       intro v348 Sv345 w a h346 h347 hs
       obtain ⟨p323, k324, rfl, h349, h325⟩ := h347
       have hw := hw.callO [0] [1, 2] (by decide) rfl h346 h349
       have hw := hw.addE (e := SlA p323 rv322.2.L.length k324 rv322.2.L) h325
       refine h_nx (hw.cs [1] [] rfl rfl) fun hC => ?_
       refine ho 0 rfl ?_
       refine sv hs (y_loadBA (hw.ownAt 2 rfl) rfl Try.isAgg29 Try.sizeOf29 rfl rfl) rfl fun a hs => ?_
       refine h_nx (hw.cs [1] [] rfl rfl) fun hC => ?_
       refine ho 3 rfl ?_
       refine st_callR hs (ref11_Lose_ok h326 hw.dom (hw.envAt 4 rfl) (hw.envAt 5 rfl)) (do_call Try.call21 rfl) trivial rfl rfl ?_
       intro v353 Sv350 w a h351 h352 hs
       obtain ⟨p328, k329, p331, k332, rfl, h330, h333⟩ := h352
       have hw := hw.call h351
       have hw := hw.addE (e := SlA p328 rv327.1.Got.length k329 rv327.1.Got) h330
       have hw := hw.addE (e := SlA p331 rv327.1.Lost.length k332 rv327.1.Lost) h333
       refine h_nx (hw.cs [1] [] rfl rfl) fun hC => ?_
       refine gm hs 4 rfl rfl rfl hC fun a hs => ?_
       refine gv hs 5 rfl rfl hC (fun w hC => y_extract rfl rfl) fun a hs => ?_
       refine gv hs 6 rfl rfl hC (fun w hC => y_extract rfl rfl) fun a hs => ?_
       refine ho 7 rfl ?_
       refine w_store (m := 2) (cs' := [.slice p328 rv327.1.Got.length k329, .slice p331 rv327.1.Lost.length k332]) hs hw 2 rfl rfl rfl Try.sizeOf29 rfl rfl rfl rfl trivial ?_
       intro a w hs hw
       refine h_nx (hw.cs [1] [] rfl rfl) fun hC => ?_
       refine h_done (by kernel_rfl) ?_
       exact ⟨Sv350, k324, k329, k332, p323, p328, p331, (hs.wk rfl), (hw.ft [0, 1, 2] [2, 5, 1, 0] (by decide) rfl rfl)⟩
      exact AllH.nil
     rintro a w ⟨Sv334, k324, k329, k332, p323, p328, p331, hs, hw⟩
     refine then_normal ?_
     exact ⟨rv322.2.L, rv322.2.At, rv327.1.Got, rv327.1.Lost, p323, k324, p328, k329, p331, k332, Sv334, hsh, (hs.wk rfl), (hw.ft [0, 1, 2] [0, 1, 2, 3] (by decide) rfl rfl)⟩
    have hsh := ite_f hsh h320
    obtain ⟨rv356, h355, hsh⟩ := bind_t hsh
    obtain ⟨rv361, h360, hsh⟩ := bind_t hsh
    refine wp_only (fun a w => ∃ (Sv368 : Nat → Prop) (k358 : Nat) (k363 : Nat) (k366 : Nat) (p357 : Option Addr) (p362 : Option Addr) (p365 : Option Addr), Sl 31 [(0, .pointer (some ⟨b2, 0, none⟩)), (2, .pointer (some ⟨b6, 0, none⟩)), (3, .pointer (some ⟨b20, 0, none⟩)), (4, .int .i64 sv31.2.2.2.2)] a ∧ Wd ⟨w0, S0, blks [.box b2 [.slice p3 d1.L.length k4, .int .i64 d1.At] 57]⟩ Sv368 [.box b2 [.slice p357 rv356.2.L.length k358, .int .i64 rv356.2.At] 57, .box b6 [.slice none ([] : List Span).length 0, .slice none ([] : List Span).length 0] 29, .box b20 [.slice p362 rv361.1.Got.length k363, .slice p365 rv361.1.Lost.length k366] 29] [SlA p357 rv356.2.L.length k358 rv356.2.L, SlA none ([] : List Span).length 0 ([] : List Span), SlA p362 rv361.1.Got.length k363 rv361.1.Got, SlA p365 rv361.1.Lost.length k366 rv361.1.Lost] w) ?_ ?_
    ·refine h_b (C := Cls [.box b6 [.slice none ([] : List Span).length 0, .slice none ([] : List Span).length 0] 29] []) (by kernel_rfl) rfl (hw.drew.cs [1] [] rfl rfl) fun hC => ?_
     have hw := hw.drew
     refine gm hs 1 rfl rfl rfl hC fun a hs => ?_
     refine h_all (rs := [0, 2]) (by kernel_rfl) rfl ?_
     refine AllH.cons rfl ?_ ?_
     ·refine sv hs (y_loadBA (hw.ownAt 2 rfl) rfl Try.isAgg29 Try.sizeOf29 rfl rfl) rfl fun a hs => ?_
      refine h_nx (hw.cs [1] [] rfl rfl) fun hC => ?_
      refine ho 2 rfl ?_
      refine st_callR hs (made_Dice_Next_ok h355 hw.dom (hw.ins [0] (by decide) rfl) (hw.envAt 0 rfl)) (do_call Try.call11 rfl) trivial rfl rfl ?_
      intro v372 Sv369 w a h370 h371 hs
      obtain ⟨p357, k358, rfl, h373, h359⟩ := h371
      have hw := hw.callO [0] [1, 2] (by decide) rfl h370 h373
      have hw := hw.addE (e := SlA p357 rv356.2.L.length k358 rv356.2.L) h359
      refine h_nx (hw.cs [1] [] rfl rfl) fun hC => ?_
      refine ho 3 rfl ?_
      refine st_callR hs (ref11_Accept_ok h360 hw.dom (hw.envAt 4 rfl) (hw.envAt 5 rfl)) (do_call Try.call20 rfl) trivial rfl rfl ?_
      intro v377 Sv374 w a h375 h376 hs
      obtain ⟨p362, k363, p365, k366, rfl, h364, h367⟩ := h376
      have hw := hw.call h375
      have hw := hw.addE (e := SlA p362 rv361.1.Got.length k363 rv361.1.Got) h364
      have hw := hw.addE (e := SlA p365 rv361.1.Lost.length k366 rv361.1.Lost) h367
      refine h_nx (hw.cs [1] [] rfl rfl) fun hC => ?_
      refine gm hs 4 rfl rfl rfl hC fun a hs => ?_
      refine gv hs 5 rfl rfl hC (fun w hC => y_extract rfl rfl) fun a hs => ?_
      refine gv hs 6 rfl rfl hC (fun w hC => y_extract rfl rfl) fun a hs => ?_
      refine gv hs 7 rfl rfl hC (fun w hC => y_extract rfl rfl) fun a hs => ?_
      refine ho 8 rfl ?_
      refine w_store (m := 2) (cs' := [.slice p362 rv361.1.Got.length k363, .slice p365 rv361.1.Lost.length k366]) hs hw 2 rfl rfl rfl Try.sizeOf29 rfl rfl rfl rfl trivial ?_
      intro a w hs hw
      refine h_nx (hw.cs [1] [] rfl rfl) fun hC => ?_
      refine h_done (by kernel_rfl) ?_
      exact ⟨Sv374, k358, k363, k366, p357, p362, p365, (hs.wk rfl), (hw.ft [0, 1, 2] [2, 5, 1, 0] (by decide) rfl rfl)⟩
     refine AllH.cons rfl ?_ ?_
     ·refine st_callR hs (made_Dice_Next_ok h355 hw.dom (hw.ins [0] (by decide) rfl) (hw.envAt 0 rfl)) (do_call Try.call11 rfl) trivial rfl rfl ?_
      intro v382 Sv379 w a h380 h381 hs
      obtain ⟨p357, k358, rfl, h383, h359⟩ := h381
      have hw := hw.callO [0] [1, 2] (by decide) rfl h380 h383
      have hw := hw.addE (e := SlA p357 rv356.2.L.length k358 rv356.2.L) h359
      refine h_nx (hw.cs [1] [] rfl rfl) fun hC => ?_
      refine ho 0 rfl ?_
      refine sv hs (y_loadBA (hw.ownAt 2 rfl) rfl Try.isAgg29 Try.sizeOf29 rfl rfl) rfl fun a hs => ?_
      refine h_nx (hw.cs [1] [] rfl rfl) fun hC => ?_
      refine ho 3 rfl ?_
      refine st_callR hs (ref11_Accept_ok h360 hw.dom (hw.envAt 4 rfl) (hw.envAt 5 rfl)) (do_call Try.call20 rfl) trivial rfl rfl ?_
      intro v387 Sv384 w a h385 h386 hs
      obtain ⟨p362, k363, p365, k366, rfl, h364, h367⟩ := h386
      have hw := hw.call h385
      have hw := hw.addE (e := SlA p362 rv361.1.Got.length k363 rv361.1.Got) h364
      have hw := hw.addE (e := SlA p365 rv361.1.Lost.length k366 rv361.1.Lost) h367
      refine h_nx (hw.cs [1] [] rfl rfl) fun hC => ?_
      refine gm hs 4 rfl rfl rfl hC fun a hs => ?_
      refine gv hs 5 rfl rfl hC (fun w hC => y_extract rfl rfl) fun a hs => ?_
      refine gv hs 6 rfl rfl hC (fun w hC => y_extract rfl rfl) fun a hs => ?_
      refine gv hs 7 rfl rfl hC (fun w hC => y_extract rfl rfl) fun a hs => ?_
      refine ho 8 rfl ?_
      refine w_store (m := 2) (cs' := [.slice p362 rv361.1.Got.length k363, .slice p365 rv361.1.Lost.length k366]) hs hw 2 rfl rfl rfl Try.sizeOf29 rfl rfl rfl rfl trivial ?_
      intro a w hs hw
      refine h_nx (hw.cs [1] [] rfl rfl) fun hC => ?_
      refine h_done (by kernel_rfl) ?_
      exact ⟨Sv384, k358, k363, k366, p357, p362, p365, (hs.wk rfl), (hw.ft [0, 1, 2] [2, 5, 1, 0] (by decide) rfl rfl)⟩
     exact AllH.nil
    rintro a w ⟨Sv368, k358, k363, k366, p357, p362, p365, hs, hw⟩
    refine then_normal ?_
    exact ⟨rv356.2.L, rv356.2.At, rv361.1.Got, rv361.1.Lost, p357, k358, p362, k363, p365, k366, Sv368, hsh, (hs.wk rfl), (hw.ft [0, 1, 2] [0, 1, 2, 3] (by decide) rfl rfl)⟩
   rintro a w ⟨x314, x315, x316, x317, p307, k308, p309, k310, p311, k312, Sv313, hsh, hs, hw⟩
   delta made_Dice_Receiver_j1 at hsh
   refine blk_normal ?_
   refine then_normal ?_
   refine wp_region_lit ?_
   refine mv hs rfl rfl fun a hs => ?_
   refine sv hs (y_sub rfl rfl) rfl fun a hs => ?_
   obtain ⟨i319, h318, hsh⟩ := bind_t hsh
   refine sv hs (y_assignI rfl h318) rfl fun a hs => ?_
   refine nl ?_
   exact ⟨_, (Option.some.inj hsh).symm, p307, k308, p309, k310, p311, k312, Sv313, (hs.wk rfl), (hw.ft [0, 1, 2] [0, 1, 2, 3] (by decide) rfl rfl)⟩
  have hsh := ite_f hsh h217
  refine wp_exit ?_
  refine then_exit ?_
  refine then_exit ?_
  refine blk_exit ?_
  have hsh := oi hsh
  subst hsh
  have h389 := hd205 _ rfl
  subst h389
  refine then_normal ?_
  exact ⟨p145, k146, p147, k148, p149, k150, Sv151, (hs.wk rfl), (hw.ft [0, 1, 2] [0, 1, 2, 3] (by decide) rfl rfl)⟩
 rintro a w ⟨p209, k210, p211, k212, p213, k214, Sv215, hs, hw⟩
 refine then_normal ?_
 refine sr ?_
 refine sv hs (y_loadBA (hw.ownAt 2 rfl) rfl Try.isAgg29 Try.sizeOf29 rfl rfl) rfl fun a hs => ?_
 refine w_store (m := 2) (cs' := [.slice p211 e208.2.2.1.length k212, .slice p213 e208.2.2.2.length k214]) hs hw 1 rfl rfl rfl Try.sizeOf29 rfl rfl rfl rfl trivial ?_
 intro a w hs hw
 refine nl ?_
 have hsh := oi hsh
 subst hsh
 refine wp_ret ?_
 exact ret1 hs rfl (rv_cell hw 1 rfl rfl Try.isAgg29 Try.sizeOf29 rfl) (hw.ret ⟨p211, k212, p213, k214, p209, k210, rfl, (hw.outs [0] (by decide) rfl), (hw.envAt 2 rfl), (hw.envAt 3 rfl), (hw.envAt 0 rfl)⟩)

abbrev ref11_Same_rd (w0 : World) (X : List Nat) (r : Bool) : (Nat → Prop) → World → Value → Prop := fun S w v => v = .bool r
set_option maxHeartbeats 4000000 in
set_option maxRecDepth 100000 in
theorem ref11_Same_ok {w0 : World} {S0 : Nat → Prop} {p2 : Option Addr} {k3 : Nat} {p4 : Option Addr} {k5 : Nat} {p9 : Option Addr} {k10 : Nat} {p11 : Option Addr} {k12 : Nat} {a1 : Receiver} {b8 : Receiver} {r : Bool} (hsh : ref11_Same a1 b8 = some r) (hS : ∀ b, S0 b → b < w0.heap.size) (h6 : (SlA p2 a1.Got.length k3 a1.Got).p S0 w0) (h7 : (SlA p4 a1.Lost.length k5 a1.Lost).p S0 w0) (h13 : (SlA p9 b8.Got.length k10 b8.Got).p S0 w0) (h14 : (SlA p11 b8.Lost.length k12 b8.Lost).p S0 w0) : Calls Try.prog 22 #[.agg #[.slice p2 a1.Got.length k3, .slice p4 a1.Lost.length k5], .agg #[.slice p9 b8.Got.length k10, .slice p11 b8.Lost.length k12]] w0 (Ret ([]) w0 S0 (ref11_Same_rd w0 ([]) r)) := by
 refine calls_of_wp Try.func22 rfl ?_
 have hs := Sl.enter #[.agg #[.slice p2 a1.Got.length k3, .slice p4 a1.Lost.length k5], .agg #[.slice p9 b8.Got.length k10, .slice p11 b8.Lost.length k12]] 17 [(0, .agg #[.slice p2 a1.Got.length k3, .slice p4 a1.Lost.length k5]), (1, .agg #[.slice p9 b8.Got.length k10, .slice p11 b8.Lost.length k12])] rfl ⟨rfl, rfl, trivial⟩
 have hw := Wd.enter (E := []) hS (fun _ h => (by cases h))
 have hw := hw.addE h6
 have hw := hw.addE h7
 have hw := hw.addE h13
 have hw := hw.addE h14
 delta ref11_Same at hsh
 refine sr ?_
 refine w_box (cs := [.slice p2 a1.Got.length k3, .slice p4 a1.Lost.length k5]) hs hw rfl rfl rfl trivial ?_
 intro b15 a w hs hw
 refine w_box (cs := [.slice p9 b8.Got.length k10, .slice p11 b8.Lost.length k12]) hs hw rfl rfl rfl trivial ?_
 intro b16 a w hs hw
 refine av hs rfl rfl fun a hs => ?_
 refine nl ?_
 refine sr ?_
 refine sv hs (y_fieldAddr (o' := 0) Try.runUnderlying29 rfl Try.sizeOf27 rfl rfl rfl) rfl fun a hs => ?_
 refine sv hs (y_loadB1 (hw.ownAt 1 rfl) rfl Try.isAgg27 rfl) rfl fun a hs => ?_
 refine sv hs (y_fieldAddr (o' := 0) Try.runUnderlying29 rfl Try.sizeOf27 rfl rfl rfl) rfl fun a hs => ?_
 refine sv hs (y_loadB1 (hw.ownAt 0 rfl) rfl Try.isAgg27 rfl) rfl fun a hs => ?_
 obtain ⟨rv18, h17, hsh⟩ := bind_t hsh
 refine st_callR hs (ref08_Same_ok h17 hw.bdom (hw.bE 3 rfl) (hw.bE 1 rfl)) (do_call Try.call24 rfl) trivial rfl rfl ?_
 intro v22 Sv19 w a h20 h21 hs
 subst h21
 have hw := hw.callB h20
 refine mv hs rfl rfl fun a hs => ?_
 obtain ⟨c32, hc32, hsh⟩ := bind_t hsh
 refine wpl_join 6 (fun a w => ∃ (Sv33 : Nat → Prop), Sl 17 [(16, .bool c32)] a ∧ Wd ⟨w0, S0, []⟩ Sv33 [] [] w) ?_ ?_
 ·rcases Bool.eq_false_or_eq_true rv18 with h31 | h31
  ·have hs := hs.fix 10 (.bool true) rfl (vb h31)
   have hsh := ite_t hc32 h31
   refine st_val hs (y_fieldAddr (o' := 1) Try.runUnderlying29 rfl Try.sizeOf27 rfl rfl rfl) ⟨_, rfl, rfl⟩ rfl rfl fun a hs => ?_
   refine st_val hs (y_loadB1 (hw.ownAt 1 rfl) rfl Try.isAgg27 rfl) ⟨_, rfl, rfl⟩ rfl rfl fun a hs => ?_
   refine st_val hs (y_fieldAddr (o' := 1) Try.runUnderlying29 rfl Try.sizeOf27 rfl rfl rfl) ⟨_, rfl, rfl⟩ rfl rfl fun a hs => ?_
   refine st_val hs (y_loadB1 (hw.ownAt 0 rfl) rfl Try.isAgg27 rfl) ⟨_, rfl, rfl⟩ rfl rfl fun a hs => ?_
   obtain ⟨rv35, h34, hsh⟩ := bind_t hsh
   refine st_callR hs (ref08_Same_ok h34 hw.bdom (hw.bE 2 rfl) (hw.bE 0 rfl)) (do_call Try.call24 rfl) ⟨_, rfl, rfl⟩ rfl rfl ?_
   intro v39 Sv36 w a h37 h38 hs
   subst h38
   have hw := hw.callB h37
   refine sv hs (y_pickT rfl rfl) rfl fun a hs => ?_
   refine wpList_nil ?_
   have hsh := oi hsh
   subst hsh
   refine then_normal ?_
   exact ⟨S0, (hs.wk rfl), (hw.ft [] [] (by decide) rfl rfl)⟩
  have hs := hs.fix 10 (.bool false) rfl (vb h31)
  have hsh := ite_f hc32 h31
  refine st_skip hs rfl rfl rfl rfl rfl fun a hs => ?_
  refine st_skip hs rfl rfl rfl rfl rfl fun a hs => ?_
  refine st_skip hs rfl rfl rfl rfl rfl fun a hs => ?_
  refine st_skip hs rfl rfl rfl rfl rfl fun a hs => ?_
  refine st_skip hs rfl rfl rfl rfl rfl fun a hs => ?_
  refine sv hs (y_pickF rfl rfl) rfl fun a hs => ?_
  refine wpList_nil ?_
  have hsh := oi hsh
  subst hsh
  refine then_normal ?_
  exact ⟨S0, (hs.wk rfl), (hw.ft [] [] (by decide) rfl rfl)⟩
 rintro a w ⟨Sv33, hs, hw⟩
 refine av hs rfl rfl fun a hs => ?_
 refine nl ?_
 have hsh := oi hsh
 subst hsh
 refine wp_ret ?_
 exact ret1 hs rfl (rv_tmp rfl) (hw.ret rfl)

abbrev ref11_High_rd (w0 : World) (X : List Nat) (r : Int) : (Nat → Prop) → World → Value → Prop := fun S w v => v = .int .i64 r
set_option maxHeartbeats 4000000 in
set_option maxRecDepth 100000 in
theorem ref11_High_ok {w0 : World} {S0 : Nat → Prop} {p2 : Option Addr} {k3 : Nat} {p4 : Option Addr} {k5 : Nat} {r1 : Receiver} {r : Int} (hsh : ref11_High r1 = some r) (hS : ∀ b, S0 b → b < w0.heap.size) (h6 : (SlA p2 r1.Got.length k3 r1.Got).p S0 w0) (h7 : (SlA p4 r1.Lost.length k5 r1.Lost).p S0 w0) : Calls Try.prog 28 #[.agg #[.slice p2 r1.Got.length k3, .slice p4 r1.Lost.length k5]] w0 (Ret ([]) w0 S0 (ref11_High_rd w0 ([]) r)) := by
 refine calls_of_wp Try.func28 rfl ?_
 have hs := Sl.enter #[.agg #[.slice p2 r1.Got.length k3, .slice p4 r1.Lost.length k5]] 38 [(0, .agg #[.slice p2 r1.Got.length k3, .slice p4 r1.Lost.length k5])] rfl ⟨rfl, trivial⟩
 have hw := Wd.enter (E := []) hS (fun _ h => (by cases h))
 have hw := hw.addE h6
 have hw := hw.addE h7
 delta ref11_High at hsh
 refine sr ?_
 refine w_box (cs := [.slice p2 r1.Got.length k3, .slice p4 r1.Lost.length k5]) hs hw rfl rfl rfl trivial ?_
 intro b8 a w hs hw
 refine av hs rfl rfl fun a hs => ?_
 refine nl ?_
 refine sr ?_
 refine av hs rfl rfl fun a hs => ?_
 refine nl ?_
 refine wp_seq ?_
 refine sr ?_
 refine sv hs (y_fieldAddr (o' := 0) Try.runUnderlying29 rfl Try.sizeOf27 rfl rfl rfl) rfl fun a hs => ?_
 refine sv hs (y_loadB1 (hw.ownAt 0 rfl) rfl Try.isAgg27 rfl) rfl fun a hs => ?_
 refine sv hs (y_len Try.runUnderlying27 rfl) rfl fun a hs => ?_
 obtain ⟨n10, h9, hsh⟩ := bind_t hsh
 refine sv hs (y_assignI rfl h9) rfl fun a hs => ?_
 refine nl ?_
 refine sr ?_
 refine mv hs rfl rfl fun a hs => ?_
 refine sv hs (y_gtr rfl rfl) rfl fun a hs => ?_
 refine nl ?_
 refine wp_join (fun a w => ∃ (high28 : Int) (Sv27 : Nat → Prop), ref11_High_j1 r1 high28 = some r ∧ Sl 38 [(1, .pointer (some ⟨b8, 0, none⟩)), (3, .int .i64 high28)] a ∧ Wd ⟨w0, S0, []⟩ Sv27 [.box b8 [.slice p2 r1.Got.length k3, .slice p4 r1.Lost.length k5] 29] [SlA p2 r1.Got.length k3 r1.Got, SlA p4 r1.Lost.length k5 r1.Lost] w) ?_ ?_
 ·refine wp_cond_split (hs.ev rfl) (fun h74 => ?_) (fun h74 => ?_)
  ·have hsh := ite_t hsh h74
   refine wp_region_lit ?_
   refine mv hs rfl rfl fun a hs => ?_
   refine sv hs (y_fieldAddr (o' := 0) Try.runUnderlying29 rfl Try.sizeOf27 rfl rfl rfl) rfl fun a hs => ?_
   refine sv hs (y_loadB1 (hw.ownAt 0 rfl) rfl Try.isAgg27 rfl) rfl fun a hs => ?_
   refine mv hs rfl rfl fun a hs => ?_
   refine sv hs (y_sub rfl rfl) rfl fun a hs => ?_
   obtain ⟨x77, h75, hsh⟩ := bind_t hsh
   obtain ⟨b83, o84, q81, c82, h85, h78, h79, h80, h76⟩ := hw.elemV 1 rfl h75
   have hsv86 := hs
   have hwv87 := hw
   subst h85
   have hs := hsv86
   have hw := hwv87
   obtain ⟨_, _, rfl, rfl, rfl⟩ := h76
   have hw := hw.addE h80
   refine sv hs (y_indexAt Try.runUnderlying27 Try.sizeOf46 rfl rfl h78.1 h78.2 h79) rfl fun a hs => ?_
   refine sv hs (y_fieldAddr (o' := q81 + 1) Try.runUnderlying46 rfl Try.sizeOf3 rfl rfl rfl) rfl fun a hs => ?_
   refine sv hs (y_loadE1 (j := 1) (hw.ceAt 0 rfl) rfl Try.isAgg3 rfl) rfl fun a hs => ?_
   refine sv hs (y_max rfl rfl) rfl fun a hs => ?_
   obtain ⟨high89, h88, hsh⟩ := bind_t hsh
   refine sv hs (y_assignI rfl h88) rfl fun a hs => ?_
   refine nl ?_
   exact ⟨high89, S0, hsh, (hs.wk rfl), (hw.ft [0] [2, 1] (by decide) rfl rfl)⟩
  have hsh := ite_f hsh h74
  refine wp_skip ?_
  refine then_normal ?_
  exact ⟨0, S0, hsh, (hs.wk rfl), (hw.ft [0] [1, 0] (by decide) rfl rfl)⟩
 rintro a w ⟨high28, Sv27, hsh, hs, hw⟩
 delta ref11_High_j1 at hsh
 refine then_normal ?_
 refine wp_seq ?_
 refine sr ?_
 refine sv hs (y_fieldAddr (o' := 1) Try.runUnderlying29 rfl Try.sizeOf27 rfl rfl rfl) rfl fun a hs => ?_
 refine sv hs (y_loadB1 (hw.ownAt 0 rfl) rfl Try.isAgg27 rfl) rfl fun a hs => ?_
 refine sv hs (y_len Try.runUnderlying27 rfl) rfl fun a hs => ?_
 obtain ⟨n30, h29, hsh⟩ := bind_t hsh
 refine sv hs (y_assignI rfl h29) rfl fun a hs => ?_
 refine nl ?_
 refine sr ?_
 refine mv hs rfl rfl fun a hs => ?_
 refine sv hs (y_gtr rfl rfl) rfl fun a hs => ?_
 refine nl ?_
 refine wp_join (fun a w => ∃ (high48 : Int) (Sv47 : Nat → Prop), ref11_High_j2 r1 high48 = some r ∧ Sl 38 [(1, .pointer (some ⟨b8, 0, none⟩)), (3, .int .i64 high48)] a ∧ Wd ⟨w0, S0, []⟩ Sv47 [.box b8 [.slice p2 r1.Got.length k3, .slice p4 r1.Lost.length k5] 29] [SlA p2 r1.Got.length k3 r1.Got, SlA p4 r1.Lost.length k5 r1.Lost] w) ?_ ?_
 ·refine wp_cond_split (hs.ev rfl) (fun h58 => ?_) (fun h58 => ?_)
  ·have hsh := ite_t hsh h58
   refine wp_region_lit ?_
   refine mv hs rfl rfl fun a hs => ?_
   refine sv hs (y_fieldAddr (o' := 1) Try.runUnderlying29 rfl Try.sizeOf27 rfl rfl rfl) rfl fun a hs => ?_
   refine sv hs (y_loadB1 (hw.ownAt 0 rfl) rfl Try.isAgg27 rfl) rfl fun a hs => ?_
   refine mv hs rfl rfl fun a hs => ?_
   refine sv hs (y_sub rfl rfl) rfl fun a hs => ?_
   obtain ⟨x61, h59, hsh⟩ := bind_t hsh
   obtain ⟨b67, o68, q65, c66, h69, h62, h63, h64, h60⟩ := hw.elemV 1 rfl h59
   have hsv70 := hs
   have hwv71 := hw
   subst h69
   have hs := hsv70
   have hw := hwv71
   obtain ⟨_, _, rfl, rfl, rfl⟩ := h60
   have hw := hw.addE h64
   refine sv hs (y_indexAt Try.runUnderlying27 Try.sizeOf46 rfl rfl h62.1 h62.2 h63) rfl fun a hs => ?_
   refine sv hs (y_fieldAddr (o' := q65 + 1) Try.runUnderlying46 rfl Try.sizeOf3 rfl rfl rfl) rfl fun a hs => ?_
   refine sv hs (y_loadE1 (j := 1) (hw.ceAt 0 rfl) rfl Try.isAgg3 rfl) rfl fun a hs => ?_
   refine sv hs (y_max rfl rfl) rfl fun a hs => ?_
   obtain ⟨high73, h72, hsh⟩ := bind_t hsh
   refine sv hs (y_assignI rfl h72) rfl fun a hs => ?_
   refine nl ?_
   exact ⟨high73, Sv27, hsh, (hs.wk rfl), (hw.ft [0] [1, 2] (by decide) rfl rfl)⟩
  have hsh := ite_f hsh h58
  refine wp_skip ?_
  refine then_normal ?_
  exact ⟨high28, Sv27, hsh, (hs.wk rfl), (hw.ft [0] [0, 1] (by decide) rfl rfl)⟩
 rintro a w ⟨high48, Sv47, hsh, hs, hw⟩
 delta ref11_High_j2 at hsh
 refine then_normal ?_
 refine wp_seq ?_
 refine sr ?_
 refine sv hs (y_loadBA (hw.ownAt 0 rfl) rfl Try.isAgg29 Try.sizeOf29 rfl rfl) rfl fun a hs => ?_
 obtain ⟨rv50, h49, hsh⟩ := bind_t hsh
 refine st_callR hs (ref11_Valid_ok h49 hw.bdom (hw.bE 0 rfl) (hw.bE 1 rfl)) (do_call Try.call27 rfl) trivial rfl rfl ?_
 intro v54 Sv51 w a h52 h53 hs
 subst h53
 have hw := hw.callB h52
 refine sv hs (y_not rfl) rfl fun a hs => ?_
 refine nl ?_
 refine wp_cond_split (hs.ev rfl) (fun h57 => ?_) (fun h57 => ?_)
 ·have hsh := ite_t hsh h57
  refine sr ?_
  refine av hs rfl rfl fun a hs => ?_
  refine nl ?_
  have hsh := oi hsh
  subst hsh
  refine wp_ret ?_
  refine then_ret ?_
  exact ret1 hs rfl (rv_tmp rfl) (hw.ret rfl)
 have hsh := ite_f hsh h57
 refine wp_skip ?_
 refine then_normal ?_
 refine sr ?_
 refine mv hs rfl rfl fun a hs => ?_
 refine av hs rfl rfl fun a hs => ?_
 refine nl ?_
 have hsh := oi hsh
 subst hsh
 refine wp_ret ?_
 exact ret1 hs rfl (rv_tmp rfl) (hw.ret rfl)

abbrev ref11_both_rd (w0 : World) (X : List Nat) (r : (List Span)) : (Nat → Prop) → World → Value → Prop := fun S w v => ∃ (p0_0 : Option Addr) (k0_0 : Nat) (c0_0 : List Value), v = .slice p0_0 r.length k0_0 ∧ Outs X w0 S w [.row p0_0 r.length k0_0 c0_0 46 2] ∧ (RowA c0_0 r).p S w
set_option maxHeartbeats 4000000 in
set_option maxRecDepth 100000 in
theorem ref11_both_ok {w0 : World} {S0 : Nat → Prop} {p2 : Option Addr} {k3 : Nat} {p4 : Option Addr} {k5 : Nat} {r1 : Receiver} {r : (List Span)} (hsh : ref11_both r1 = some r) (hS : ∀ b, S0 b → b < w0.heap.size) (h6 : (SlA p2 r1.Got.length k3 r1.Got).p S0 w0) (h7 : (SlA p4 r1.Lost.length k5 r1.Lost).p S0 w0) : Calls Try.prog 46 #[.agg #[.slice p2 r1.Got.length k3, .slice p4 r1.Lost.length k5]] w0 (Ret ([]) w0 S0 (ref11_both_rd w0 ([]) r)) := by
 refine calls_of_wp Try.func46 rfl ?_
 have hs := Sl.enter #[.agg #[.slice p2 r1.Got.length k3, .slice p4 r1.Lost.length k5]] 8 [(0, .agg #[.slice p2 r1.Got.length k3, .slice p4 r1.Lost.length k5])] rfl ⟨rfl, trivial⟩
 have hw := Wd.enter (E := []) hS (fun _ h => (by cases h))
 have hw := hw.addE h6
 have hw := hw.addE h7
 delta ref11_both at hsh
 refine sr ?_
 refine w_box (cs := [.slice p2 r1.Got.length k3, .slice p4 r1.Lost.length k5]) hs hw rfl rfl rfl trivial ?_
 intro b8 a w hs hw
 refine av hs rfl rfl fun a hs => ?_
 refine nl ?_
 refine sr ?_
 refine sv hs (y_fieldAddr (o' := 0) Try.runUnderlying29 rfl Try.sizeOf27 rfl rfl rfl) rfl fun a hs => ?_
 refine sv hs (y_loadB1 (hw.ownAt 0 rfl) rfl Try.isAgg27 rfl) rfl fun a hs => ?_
 refine sv hs (y_fieldAddr (o' := 1) Try.runUnderlying29 rfl Try.sizeOf27 rfl rfl rfl) rfl fun a hs => ?_
 refine sv hs (y_loadB1 (hw.ownAt 0 rfl) rfl Try.isAgg27 rfl) rfl fun a hs => ?_
 obtain ⟨rv10, h9, hsh⟩ := bind_t hsh
 refine st_callR hs (ref08_Union_ok h9 hw.dom (hw.envAt 1 rfl) (hw.envAt 0 rfl)) (do_call Try.call45 rfl) trivial rfl rfl ?_
 intro v18 Sv15 w a h16 h17 hs
 obtain ⟨p11, k12, c14, rfl, h19, h13⟩ := h17
 have hw := hw.callN h16 h19
 have hw := hw.addE (e := RowA c14 rv10) h13
 refine av hs rfl rfl fun a hs => ?_
 refine nl ?_
 have hsh := oi hsh
 subst hsh
 refine wp_ret ?_
 exact ret1 hs rfl (rv_tmp rfl) (hw.ret ⟨p11, k12, c14, rfl, (hw.outs [0] (by decide) rfl), (hw.envAt 0 rfl)⟩)

abbrev ref11_Missing_rd (w0 : World) (X : List Nat) (r : ((List Span) × Int)) : (Nat → Prop) → World → Value → Prop := fun S w v => ∃ (p0_0 : Option Addr) (k0_0 : Nat) (c0_0 : List Value), v = .tuple #[.slice p0_0 r.1.length k0_0, .int .i64 r.2] ∧ Outs X w0 S w [.row p0_0 r.1.length k0_0 c0_0 46 2] ∧ (RowA c0_0 r.1).p S w
set_option maxHeartbeats 4000000 in
set_option maxRecDepth 100000 in
theorem ref11_Missing_ok {w0 : World} {S0 : Nat → Prop} {p2 : Option Addr} {k3 : Nat} {p4 : Option Addr} {k5 : Nat} {r1 : Receiver} {next8 : Int} {r : ((List Span) × Int)} (hsh : ref11_Missing r1 next8 = some r) (hS : ∀ b, S0 b → b < w0.heap.size) (h6 : (SlA p2 r1.Got.length k3 r1.Got).p S0 w0) (h7 : (SlA p4 r1.Lost.length k5 r1.Lost).p S0 w0) : Calls Try.prog 23 #[.agg #[.slice p2 r1.Got.length k3, .slice p4 r1.Lost.length k5], .int .i64 next8] w0 (Ret ([]) w0 S0 (ref11_Missing_rd w0 ([]) r)) := by
 refine calls_of_wp Try.func23 rfl ?_
 have hs := Sl.enter #[.agg #[.slice p2 r1.Got.length k3, .slice p4 r1.Lost.length k5], .int .i64 next8] 21 [(0, .agg #[.slice p2 r1.Got.length k3, .slice p4 r1.Lost.length k5]), (1, .int .i64 next8)] rfl ⟨rfl, rfl, trivial⟩
 have hw := Wd.enter (E := []) hS (fun _ h => (by cases h))
 have hw := hw.addE h6
 have hw := hw.addE h7
 delta ref11_Missing at hsh
 refine sr ?_
 refine w_box (cs := [.slice p2 r1.Got.length k3, .slice p4 r1.Lost.length k5]) hs hw rfl rfl rfl trivial ?_
 intro b9 a w hs hw
 refine av hs rfl rfl fun a hs => ?_
 refine av hs rfl rfl fun a hs => ?_
 refine nl ?_
 refine wp_seq ?_
 refine sr ?_
 refine sv hs (y_loadBA (hw.ownAt 0 rfl) rfl Try.isAgg29 Try.sizeOf29 rfl rfl) rfl fun a hs => ?_
 obtain ⟨rv11, h10, hsh⟩ := bind_t hsh
 refine st_callR hs (ref11_Valid_ok h10 hw.bdom (hw.bE 1 rfl) (hw.bE 0 rfl)) (do_call Try.call27 rfl) trivial rfl rfl ?_
 intro v15 Sv12 w a h13 h14 hs
 subst h14
 have hw := hw.callB h13
 refine sv hs (y_not rfl) rfl fun a hs => ?_
 refine nl ?_
 refine wp_cond_split (hs.ev rfl) (fun h18 => ?_) (fun h18 => ?_)
 ·have hsh := ite_t hsh h18
  refine sr ?_
  refine av hs rfl rfl fun a hs => ?_
  refine av hs rfl rfl fun a hs => ?_
  refine nl ?_
  have hsh := oi hsh
  subst hsh
  have hw := hw.nilRow Span 46
  refine wp_ret ?_
  refine then_ret ?_
  exact ret2 hs rfl (rv_tmp rfl) (rv_tmp rfl) (hw.ret ⟨none, 0, [], rfl, (hw.outs [0] (by decide) rfl), (hw.envAt 0 rfl)⟩)
 have hsh := ite_f hsh h18
 refine wp_skip ?_
 refine then_normal ?_
 refine wp_seq ?_
 refine sr ?_
 refine mv hs rfl rfl fun a hs => ?_
 obtain ⟨rv20, h19, hsh⟩ := bind_t hsh
 refine st_callR hs (ref01_In_ok h19 hw.bdom) (do_call Try.call43 rfl) trivial rfl rfl ?_
 intro v24 Sv21 w a h22 h23 hs
 subst h23
 have hw := hw.callB h22
 refine sv hs (y_not rfl) rfl fun a hs => ?_
 refine nl ?_
 refine wp_cond_split (hs.ev rfl) (fun h27 => ?_) (fun h27 => ?_)
 ·have hsh := ite_t hsh h27
  refine sr ?_
  refine av hs rfl rfl fun a hs => ?_
  refine av hs rfl rfl fun a hs => ?_
  refine nl ?_
  have hsh := oi hsh
  subst hsh
  have hw := hw.nilRow Span 46
  refine wp_ret ?_
  refine then_ret ?_
  exact ret2 hs rfl (rv_tmp rfl) (rv_tmp rfl) (hw.ret ⟨none, 0, [], rfl, (hw.outs [0] (by decide) rfl), (hw.envAt 0 rfl)⟩)
 have hsh := ite_f hsh h27
 refine wp_skip ?_
 refine then_normal ?_
 refine wp_seq ?_
 obtain ⟨rv29, h28, hsh⟩ := bind_t hsh
 obtain ⟨rv33, h32, hsh⟩ := bind_t hsh
 obtain ⟨rv39, h38, hsh⟩ := bind_t hsh
 refine wp_only (fun a w => ∃ (Sv44 : Nat → Prop) (c43 : List Value) (k41 : Nat) (p40 : Option Addr), Sl 21 [(4, .slice p40 rv39.length k41), (5, .int .i64 0)] a ∧ Wd ⟨w0, S0, []⟩ Sv44 [.row p40 rv39.length k41 c43 46 2] [RowA c43 rv39] w) ?_ ?_
 ·refine h_b (C := Cls [.box b9 [.slice p2 r1.Got.length k3, .slice p4 r1.Lost.length k5] 29] []) (by kernel_rfl) rfl (hw.drew.cs [0] [] rfl rfl) fun hC => ?_
  have hw := hw.drew
  refine gm hs 0 rfl rfl rfl hC fun a hs => ?_
  refine gv hs 1 rfl rfl hC (fun w hC => y_loadBA (hC.ownAt 0 rfl) rfl Try.isAgg29 Try.sizeOf29 rfl rfl) fun a hs => ?_
  refine gv hs 6 rfl rfl hC (fun w hC => y_loadBA (hC.ownAt 0 rfl) rfl Try.isAgg29 Try.sizeOf29 rfl rfl) fun a hs => ?_
  refine ho 2 rfl ?_
  refine st_callR hs (ref11_High_ok h28 hw.bdom (hw.bE 1 rfl) (hw.bE 0 rfl)) (do_call Try.call28 rfl) trivial rfl rfl ?_
  intro v48 Sv45 w a h46 h47 hs
  subst h47
  have hw := hw.callB h46
  refine h_nx (hw.cs [0] [] rfl rfl) fun hC => ?_
  refine gv hs 3 rfl rfl hC (fun w hC => y_max rfl rfl) fun a hs => ?_
  refine gv hs 4 rfl rfl hC (fun w hC => y_build (vs := [(0, .int .i64 0), (1, .int .i64 (max next8 rv29))]) Bld46 rfl rfl) fun a hs => ?_
  refine h_all (rs := [5, 7]) (by kernel_rfl) rfl ?_
  refine AllH.cons rfl ?_ ?_
  ·refine w_litSlice (α := Span) (vs := [.agg #[.int .i64 0, .int .i64 (max next8 rv29)]]) (cs := [.int .i64 0, .int .i64 (max next8 rv29)]) (xs := ([(⟨0, (max next8 rv29)⟩ : Span)] : List Span)) hs hw El27 rfl rfl rfl rfl rfl rfl ⟨⟨_, _, rfl, rfl, rfl⟩, rfl⟩ rfl trivial rfl fun b31 a w hs hw => ?_
   refine h_nx (hw.cs [1] [] rfl rfl) fun hC => ?_
   refine ho 7 rfl ?_
   refine st_callR hs (ref11_both_ok h32 hw.dom (hw.envAt 2 rfl) (hw.envAt 1 rfl)) (do_call Try.call46 rfl) trivial rfl rfl ?_
   intro v53 Sv50 w a h51 h52 hs
   obtain ⟨p34, k35, c37, rfl, h54, h36⟩ := h52
   have hw := hw.callN h51 h54
   have hw := hw.addE (e := RowA c37 rv33) h36
   refine h_nx (hw.cs [2] [] rfl rfl) fun hC => ?_
   refine ho 8 rfl ?_
   obtain ⟨Sv55, hw⟩ := w_share (α := Span) hw 1 rfl 1 rfl
   obtain ⟨Sv56, hw⟩ := w_share (α := Span) hw 0 rfl 1 rfl
   refine st_callR hs (ref08_Minus_ok h38 hw.dom (hw.envAt 1 rfl) (hw.envAt 0 rfl)) (do_call Try.call32 rfl) trivial rfl rfl ?_
   intro v60 Sv57 w a h58 h59 hs
   obtain ⟨p40, k41, c43, rfl, h61, h42⟩ := h59
   have hw := hw.callN h58 h61
   have hw := hw.addE (e := RowA c43 rv39) h42
   refine h_nx (hw.cs [1] [] rfl rfl) fun hC => ?_
   refine h_st (C' := Cls [.box b9 [.slice p2 r1.Got.length k3, .slice p4 r1.Lost.length k5] 29, .row p40 rv39.length k41 c43 46 2] []) (fun _ h => by exact h.sub [0] (Sel.of rfl) (AllIn.of [] rfl)) (hw.cs [1, 0] [] rfl rfl) fun hC => ?_
   refine gv hs 9 rfl rfl hC (fun w hC => y_assign rfl) fun a hs => ?_
   refine gv hs 10 rfl rfl hC (fun w hC => y_assign rfl) fun a hs => ?_
   refine h_done (by kernel_rfl) ?_
   exact ⟨Sv57, c43, k41, p40, (hs.wk rfl), (hw.ft [0] [0] (by decide) rfl rfl)⟩
  refine AllH.cons rfl ?_ ?_
  ·refine st_callR hs (ref11_both_ok h32 hw.dom (hw.envAt 1 rfl) (hw.envAt 0 rfl)) (do_call Try.call46 rfl) trivial rfl rfl ?_
   intro v65 Sv62 w a h63 h64 hs
   obtain ⟨p34, k35, c37, rfl, h66, h36⟩ := h64
   have hw := hw.callN h63 h66
   have hw := hw.addE (e := RowA c37 rv33) h36
   refine h_nx (hw.cs [1] [] rfl rfl) fun hC => ?_
   refine ho 5 rfl ?_
   refine w_litSlice (α := Span) (vs := [.agg #[.int .i64 0, .int .i64 (max next8 rv29)]]) (cs := [.int .i64 0, .int .i64 (max next8 rv29)]) (xs := ([(⟨0, (max next8 rv29)⟩ : Span)] : List Span)) hs hw El27 rfl rfl rfl rfl rfl rfl ⟨⟨_, _, rfl, rfl, rfl⟩, rfl⟩ rfl trivial rfl fun b31 a w hs hw => ?_
   refine h_nx (hw.cs [2] [] rfl rfl) fun hC => ?_
   refine ho 8 rfl ?_
   obtain ⟨Sv67, hw⟩ := w_share (α := Span) hw 0 rfl 0 rfl
   obtain ⟨Sv68, hw⟩ := w_share (α := Span) hw 0 rfl 2 rfl
   refine st_callR hs (ref08_Minus_ok h38 hw.dom (hw.envAt 1 rfl) (hw.envAt 0 rfl)) (do_call Try.call32 rfl) trivial rfl rfl ?_
   intro v72 Sv69 w a h70 h71 hs
   obtain ⟨p40, k41, c43, rfl, h73, h42⟩ := h71
   have hw := hw.callN h70 h73
   have hw := hw.addE (e := RowA c43 rv39) h42
   refine h_nx (hw.cs [1] [] rfl rfl) fun hC => ?_
   refine h_st (C' := Cls [.box b9 [.slice p2 r1.Got.length k3, .slice p4 r1.Lost.length k5] 29, .row p40 rv39.length k41 c43 46 2] []) (fun _ h => by exact h.sub [0] (Sel.of rfl) (AllIn.of [] rfl)) (hw.cs [1, 0] [] rfl rfl) fun hC => ?_
   refine gv hs 9 rfl rfl hC (fun w hC => y_assign rfl) fun a hs => ?_
   refine gv hs 10 rfl rfl hC (fun w hC => y_assign rfl) fun a hs => ?_
   refine h_done (by kernel_rfl) ?_
   exact ⟨Sv69, c43, k41, p40, (hs.wk rfl), (hw.ft [0] [0] (by decide) rfl rfl)⟩
  exact AllH.nil
 rintro a w ⟨Sv44, c43, k41, p40, hs, hw⟩
 refine then_normal ?_
 have hsh := oi hsh
 subst hsh
 refine wp_ret ?_
 exact ret2 hs rfl (rv_tmp rfl) (rv_tmp rfl) (hw.ret ⟨p40, k41, c43, rfl, (hw.outs [0] (by decide) rfl), (hw.envAt 0 rfl)⟩)

abbrev span_First_rd (w0 : World) (X : List Nat) (r : (List Span)) : (Nat → Prop) → World → Value → Prop := fun S w v => ∃ (p0_0 : Option Addr) (k0_0 : Nat) (c0_0 : List Value), v = .slice p0_0 r.length k0_0 ∧ Outs X w0 S w [.row p0_0 r.length k0_0 c0_0 46 2] ∧ (RowA c0_0 r).p S w
set_option maxHeartbeats 4000000 in
set_option maxRecDepth 100000 in
theorem span_First_ok {w0 : World} {S0 : Nat → Prop} {p2 : Option Addr} {k3 : Nat} {l1 : (List Span)} {n5 : Int} {r : (List Span)} (hsh : span_First l1 n5 = some r) (hS : ∀ b, S0 b → b < w0.heap.size) (h4 : (SlA p2 l1.length k3 l1).p S0 w0) : Calls Try.prog 47 #[.slice p2 l1.length k3, .int .i64 n5] w0 (Ret ([]) w0 S0 (span_First_rd w0 ([]) r)) := by
 refine calls_of_wp Try.func47 rfl ?_
 have hs := Sl.enter #[.slice p2 l1.length k3, .int .i64 n5] 44 [(0, .slice p2 l1.length k3), (1, .int .i64 n5)] rfl ⟨rfl, rfl, trivial⟩
 have hw := Wd.enter (E := []) hS (fun _ h => (by cases h))
 have hw := hw.addE h4
 delta span_First at hsh
 refine sr ?_
 refine av hs rfl rfl fun a hs => ?_
 refine nl ?_
 refine sr ?_
 refine av hs rfl rfl fun a hs => ?_
 refine nl ?_
 refine wp_seq ?_
 refine sr ?_
 refine mv hs rfl rfl fun a hs => ?_
 obtain ⟨rv7, h6, hsh⟩ := bind_t hsh
 refine st_callR hs (span_Normal_ok h6 hw.dom (hw.envAt 0 rfl)) (do_call Try.call53 rfl) trivial rfl rfl ?_
 intro v15 Sv12 w a h13 h14 hs
 obtain ⟨p8, k9, c11, rfl, h16, h10⟩ := h14
 have hw := hw.callN h13 h16
 have hw := hw.addE (e := RowA c11 rv7) h10
 refine sv hs (y_len Try.runUnderlying27 rfl) rfl fun a hs => ?_
 refine mv hs rfl rfl fun a hs => ?_
 refine nl ?_
 obtain ⟨e122, h195, hsh⟩ := bind_t hsh
 refine wp_join (fun a w => ∃ (c123 : List Value) (p124 : Option Addr) (k125 : Nat) (Sv126 : Nat → Prop), Sl 44 [(5, .slice p124 e122.length k125)] a ∧ Wd ⟨w0, S0, []⟩ Sv126 [.row p124 e122.length k125 c123 46 2] [RowA c123 e122] w) ?_ ?_
 ·refine wp_block ?_
  have hw := hw.nilRow Span 46
  refine wp_while (fun sv17 a w => ∃ (c84 : List Value) (p85 : Option Addr) (k86 : Nat) (Sv87 : Nat → Prop), Sl 44 [(1, .int .i64 sv17.1), (5, .slice p85 sv17.2.1.length k86), (10, .slice p8 rv7.length k9), (11, .int .i64 (rv7.length : Int)), (12, .int .i64 sv17.2.2)] a ∧ Wd ⟨w0, S0, []⟩ Sv87 [.row p85 sv17.2.1.length k86 c84 46 2, .row p8 rv7.length k9 c11 46 2] [RowA c84 sv17.2.1, RowA c11 rv7] w) (n5, ([] : List Span), 0) h195 ⟨[], none, 0, Sv12, (hs.wk rfl), (hw.ft [0, 1] [0, 1] (by decide) rfl rfl)⟩ ?_
  clear h195
  repeat clear hsh
  rintro sv17 a w tv120 ⟨c84, p85, k86, Sv87, hs, hw⟩ hsh hd119
  delta span_First_l1 at hsh
  refine sr ?_
  refine sv hs (y_lss rfl rfl) rfl fun a hs => ?_
  refine nl ?_
  refine wp_seq ?_
  refine wp_cond_split (hs.ev rfl) (fun h128 => ?_) (fun h128 => ?_)
  ·have hsh := ite_t hsh h128
   refine wp_skip ?_
   refine then_normal ?_
   refine wp_seq ?_
   refine wp_block ?_
   refine sr ?_
   obtain ⟨x161, h159, hsh⟩ := bind_t hsh
   obtain ⟨b168, q165, c166, h169, h162, h163, h167, h160⟩ := hw.elemRV (α := Span) 1 rfl 1 rfl h159
   have hsv170 := hs
   have hwv171 := hw
   subst h169
   have hs := hsv170
   have hw := hwv171
   obtain ⟨_, _, rfl, rfl, rfl⟩ := h160
   refine sv hs (y_indexAt Try.runUnderlying27 Try.sizeOf46 rfl rfl h162.1 h162.2 h163) rfl fun a hs => ?_
   refine sv hs (y_loadQA (j := 0) (hw.ownAt 1 rfl) rfl Try.isAgg46 Try.sizeOf46 h167 rfl rfl) rfl fun a hs => ?_
   refine w_alloc (cs := [.int .i64 0, .int .i64 0]) hs hw Try.zeroValue46 rfl rfl trivial ?_
   intro b172 a w hs hw
   refine w_store (m := 2) (cs' := [.int .i64 x161.From, .int .i64 x161.To]) hs hw 0 rfl rfl rfl Try.sizeOf46 rfl rfl rfl rfl trivial ?_
   intro a w hs hw
   refine nl ?_
   refine wp_seq ?_
   refine sr ?_
   refine mv hs rfl rfl fun a hs => ?_
   refine sv hs (y_lss rfl rfl) rfl fun a hs => ?_
   refine nl ?_
   refine wp_cond_split (hs.ev rfl) (fun h174 => ?_) (fun h174 => ?_)
   ·have hsh := ite_t hsh h174
    refine wp_exit ?_
    refine then_exit ?_
    refine blk_other rfl ?_
    refine then_exit ?_
    refine then_exit ?_
    refine blk_exit ?_
    have hsh := oi hsh
    subst hsh
    have h175 := hd119 _ rfl
    subst h175
    refine then_normal ?_
    exact ⟨c84, p85, k86, Sv87, (hs.wk rfl), (hw.ft [1] [0] (by decide) rfl rfl)⟩
   have hsh := ite_f hsh h174
   refine wp_skip ?_
   refine then_normal ?_
   refine wp_seq ?_
   refine sr ?_
   refine sv hs (y_fieldAddr (o' := 1) Try.runUnderlying46 rfl Try.sizeOf3 rfl rfl rfl) rfl fun a hs => ?_
   refine sv hs (y_loadB1 (hw.ownAt 0 rfl) rfl Try.isAgg3 rfl) rfl fun a hs => ?_
   refine sv hs (y_convert Try.runUnderlying3 Try.runUnderlying68 rfl) rfl fun a hs => ?_
   refine sv hs (y_fieldAddr (o' := 0) Try.runUnderlying46 rfl Try.sizeOf3 rfl rfl rfl) rfl fun a hs => ?_
   refine sv hs (y_loadB1 (hw.ownAt 0 rfl) rfl Try.isAgg3 rfl) rfl fun a hs => ?_
   refine sv hs (y_convert Try.runUnderlying3 Try.runUnderlying68 rfl) rfl fun a hs => ?_
   refine sv hs (y_sub rfl rfl) rfl fun a hs => ?_
   obtain ⟨size177, h176, hsh⟩ := bind_t hsh
   refine sv hs (y_assignI rfl h176) rfl fun a hs => ?_
   refine nl ?_
   refine sr ?_
   refine mv hs rfl rfl fun a hs => ?_
   refine mv hs rfl rfl fun a hs => ?_
   refine sv hs (y_convert Try.runUnderlying3 Try.runUnderlying68 rfl) rfl fun a hs => ?_
   refine sv hs (y_gtr rfl rfl) rfl fun a hs => ?_
   refine nl ?_
   refine wp_join (fun a w => ∃ (x182 : Int) (n183 : Int) (Sv181 : Nat → Prop), span_First_j1 sv17 x161 x182 n183 = some tv120 ∧ Sl 44 [(1, .int .i64 n183), (5, .slice p85 sv17.2.1.length k86), (7, .pointer (some ⟨b172, 0, none⟩)), (10, .slice (some ⟨b168, 0, none⟩) rv7.length k9), (11, .int .i64 (rv7.length : Int)), (12, .int .i64 sv17.2.2)] a ∧ Wd ⟨w0, S0, []⟩ Sv181 [.box b172 [.int .i64 x161.From, .int .i64 x182] 46, .row p85 sv17.2.1.length k86 c84 46 2, .row (some ⟨b168, 0, none⟩) rv7.length k9 c11 46 2] [RowA c84 sv17.2.1, RowA c11 rv7] w) ?_ ?_
   ·refine wp_cond_split (hs.ev rfl) (fun h191 => ?_) (fun h191 => ?_)
    ·have hsh := ite_t hsh h191
     refine wp_region_lit ?_
     refine sv hs (y_fieldAddr (o' := 0) Try.runUnderlying46 rfl Try.sizeOf3 rfl rfl rfl) rfl fun a hs => ?_
     refine sv hs (y_loadB1 (hw.ownAt 0 rfl) rfl Try.isAgg3 rfl) rfl fun a hs => ?_
     refine mv hs rfl rfl fun a hs => ?_
     refine sv hs (y_add rfl rfl) rfl fun a hs => ?_
     refine sv hs (y_fieldAddr (o' := 1) Try.runUnderlying46 rfl Try.sizeOf3 rfl rfl rfl) rfl fun a hs => ?_
     refine w_store (m := 1) (cs' := [.int .i64 x161.From, .int .i64 (w64 (x161.From + sv17.1))]) hs hw 0 rfl rfl rfl Try.sizeOf3 rfl rfl rfl rfl trivial ?_
     intro a w hs hw
     refine av hs rfl rfl fun a hs => ?_
     refine nl ?_
     exact ⟨(w64 (x161.From + sv17.1)), 0, Sv87, hsh, (hs.wk rfl), (hw.ft [0, 1, 2] [0, 1] (by decide) rfl rfl)⟩
    have hsh := ite_f hsh h191
    refine wp_region_lit ?_
    refine mv hs rfl rfl fun a hs => ?_
    refine mv hs rfl rfl fun a hs => ?_
    refine sv hs (y_convert Try.runUnderlying68 Try.runUnderlying3 rfl) rfl fun a hs => ?_
    refine sv hs (y_sub rfl rfl) rfl fun a hs => ?_
    obtain ⟨n193, h192, hsh⟩ := bind_t hsh
    refine sv hs (y_assignI rfl h192) rfl fun a hs => ?_
    refine nl ?_
    exact ⟨x161.To, n193, Sv87, hsh, (hs.wk rfl), (hw.ft [0, 1, 2] [0, 1] (by decide) rfl rfl)⟩
   rintro a w ⟨x182, n183, Sv181, hsh, hs, hw⟩
   delta span_First_j1 at hsh
   refine then_normal ?_
   refine wp_region_lit ?_
   refine mv hs rfl rfl fun a hs => ?_
   refine sv hs (y_loadBA (hw.ownAt 0 rfl) rfl Try.isAgg46 Try.sizeOf46 rfl rfl) rfl fun a hs => ?_
   refine w_litSlice (α := Span) (vs := [.agg #[.int .i64 x161.From, .int .i64 x182]]) (cs := [.int .i64 x161.From, .int .i64 x182]) (xs := ([(⟨x161.From, x182⟩ : Span)] : List Span)) hs hw El27 rfl rfl rfl rfl rfl rfl ⟨⟨_, _, rfl, rfl, rfl⟩, rfl⟩ rfl trivial rfl fun b185 a w hs hw => ?_
   obtain ⟨l187, h186, hsh⟩ := bind_t hsh
   refine w_appendR (α := Span) hs hw El27 2 rfl rfl rfl 1 rfl 0 rfl 0 rfl h186 rfl trivial ?_
   intro p188 k189 c190 a w hs hw
   refine av hs rfl rfl fun a hs => ?_
   refine wpList_nil ?_
   refine blk_normal ?_
   refine then_normal ?_
   refine wp_region_lit ?_
   refine sv hs (y_add rfl rfl) rfl fun a hs => ?_
   refine mv hs rfl rfl fun a hs => ?_
   refine nl ?_
   exact ⟨_, (Option.some.inj hsh).symm, c190, p188, k189, Sv181, (hs.wk rfl), (hw.ft [2, 3] [0, 3] (by decide) rfl rfl)⟩
  have hsh := ite_f hsh h128
  refine wp_exit ?_
  refine then_exit ?_
  refine then_exit ?_
  refine blk_exit ?_
  have hsh := oi hsh
  subst hsh
  have h194 := hd119 _ rfl
  subst h194
  refine then_normal ?_
  exact ⟨c84, p85, k86, Sv87, (hs.wk rfl), (hw.ft [0] [0] (by decide) rfl rfl)⟩
 rintro a w ⟨c123, p124, k125, Sv126, hs, hw⟩
 refine then_normal ?_
 refine sr ?_
 refine mv hs rfl rfl fun a hs => ?_
 refine av hs rfl rfl fun a hs => ?_
 refine nl ?_
 have hsh := oi hsh
 subst hsh
 refine wp_ret ?_
 exact ret1 hs rfl (rv_tmp rfl) (hw.ret ⟨p124, k125, c123, rfl, (hw.outs [0] (by decide) rfl), (hw.envAt 0 rfl)⟩)

abbrev receiver_Request_rd (w0 : World) (X : List Nat) (r : ((List Span) × Int)) : (Nat → Prop) → World → Value → Prop := fun S w v => ∃ (p0_0 : Option Addr) (k0_0 : Nat) (c0_0 : List Value), v = .tuple #[.slice p0_0 r.1.length k0_0, .int .i64 r.2] ∧ Outs X w0 S w [.row p0_0 r.1.length k0_0 c0_0 46 2] ∧ (RowA c0_0 r.1).p S w
set_option maxHeartbeats 4000000 in
set_option maxRecDepth 100000 in
theorem receiver_Request_ok {w0 : World} {S0 : Nat → Prop} {p2 : Option Addr} {k3 : Nat} {p4 : Option Addr} {k5 : Nat} {r1 : Receiver} {next8 : Int} {most9 : Int} {r : ((List Span) × Int)} (hsh : receiver_Request r1 next8 most9 = some r) (hS : ∀ b, S0 b → b < w0.heap.size) (h6 : (SlA p2 r1.Got.length k3 r1.Got).p S0 w0) (h7 : (SlA p4 r1.Lost.length k5 r1.Lost).p S0 w0) : Calls Try.prog 25 #[.agg #[.slice p2 r1.Got.length k3, .slice p4 r1.Lost.length k5], .int .i64 next8, .int .i64 most9] w0 (Ret ([]) w0 S0 (receiver_Request_rd w0 ([]) r)) := by
 refine calls_of_wp Try.func25 rfl ?_
 have hs := Sl.enter #[.agg #[.slice p2 r1.Got.length k3, .slice p4 r1.Lost.length k5], .int .i64 next8, .int .i64 most9] 25 [(0, .agg #[.slice p2 r1.Got.length k3, .slice p4 r1.Lost.length k5]), (1, .int .i64 next8), (2, .int .i64 most9)] rfl ⟨rfl, rfl, rfl, trivial⟩
 have hw := Wd.enter (E := []) hS (fun _ h => (by cases h))
 have hw := hw.addE h6
 have hw := hw.addE h7
 delta receiver_Request at hsh
 refine sr ?_
 refine w_box (cs := [.slice p2 r1.Got.length k3, .slice p4 r1.Lost.length k5]) hs hw rfl rfl rfl trivial ?_
 intro b10 a w hs hw
 refine av hs rfl rfl fun a hs => ?_
 refine av hs rfl rfl fun a hs => ?_
 refine nl ?_
 refine sr ?_
 refine sv hs (y_loadBA (hw.ownAt 0 rfl) rfl Try.isAgg29 Try.sizeOf29 rfl rfl) rfl fun a hs => ?_
 refine mv hs rfl rfl fun a hs => ?_
 obtain ⟨rv12, h11, hsh⟩ := bind_t hsh
 refine st_callR hs (receiver_Missing_ok h11 hw.dom (hw.envAt 1 rfl) (hw.envAt 0 rfl)) (do_call Try.call17 rfl) trivial rfl rfl ?_
 intro v20 Sv17 w a h18 h19 hs
 obtain ⟨p13, k14, c16, rfl, h21, h15⟩ := h19
 have hw := hw.callN h18 h21
 have hw := hw.addE (e := RowA c16 rv12.1) h15
 refine mv hs rfl rfl fun a hs => ?_
 refine sv hs (y_extract rfl rfl) rfl fun a hs => ?_
 refine sv hs (y_extract rfl rfl) rfl fun a hs => ?_
 refine av hs rfl rfl fun a hs => ?_
 refine av hs rfl rfl fun a hs => ?_
 refine nl ?_
 refine wp_seq ?_
 refine sr ?_
 refine mv hs rfl rfl fun a hs => ?_
 refine sv hs (y_neq rfl rfl) rfl fun a hs => ?_
 refine nl ?_
 refine wp_cond_split (hs.ev rfl) (fun h23 => ?_) (fun h23 => ?_)
 ·have hsh := ite_t hsh h23
  refine sr ?_
  refine mv hs rfl rfl fun a hs => ?_
  refine av hs rfl rfl fun a hs => ?_
  refine av hs rfl rfl fun a hs => ?_
  refine nl ?_
  have hsh := oi hsh
  subst hsh
  have hw := hw.nilRow Span 46
  refine wp_ret ?_
  refine then_ret ?_
  exact ret2 hs rfl (rv_tmp rfl) (rv_tmp rfl) (hw.ret ⟨none, 0, [], rfl, (hw.outs [0] (by decide) rfl), (hw.envAt 0 rfl)⟩)
 have hsh := ite_f hsh h23
 refine wp_skip ?_
 refine then_normal ?_
 refine wp_seq ?_
 refine sr ?_
 refine mv hs rfl rfl fun a hs => ?_
 obtain ⟨rv25, h24, hsh⟩ := bind_t hsh
 refine st_callR hs (receiver_in_ok h24 hw.bdom) (do_call Try.call34 rfl) trivial rfl rfl ?_
 intro v29 Sv26 w a h27 h28 hs
 subst h28
 have hw := hw.callB h27
 refine sv hs (y_not rfl) rfl fun a hs => ?_
 refine nl ?_
 refine wp_cond_split (hs.ev rfl) (fun h32 => ?_) (fun h32 => ?_)
 ·have hsh := ite_t hsh h32
  refine sr ?_
  refine av hs rfl rfl fun a hs => ?_
  refine av hs rfl rfl fun a hs => ?_
  refine nl ?_
  have hsh := oi hsh
  subst hsh
  have hw := hw.nilRow Span 46
  refine wp_ret ?_
  refine then_ret ?_
  exact ret2 hs rfl (rv_tmp rfl) (rv_tmp rfl) (hw.ret ⟨none, 0, [], rfl, (hw.outs [0] (by decide) rfl), (hw.envAt 0 rfl)⟩)
 have hsh := ite_f hsh h32
 refine wp_skip ?_
 refine then_normal ?_
 refine sr ?_
 refine mv hs rfl rfl fun a hs => ?_
 refine mv hs rfl rfl fun a hs => ?_
 obtain ⟨rv34, h33, hsh⟩ := bind_t hsh
 obtain ⟨Sv39, hw⟩ := w_share (α := Span) hw 0 rfl 0 rfl
 refine st_callR hs (span_First_ok h33 hw.dom (hw.envAt 0 rfl)) (do_call Try.call47 rfl) trivial rfl rfl ?_
 intro v43 Sv40 w a h41 h42 hs
 obtain ⟨p35, k36, c38, rfl, h44, h37⟩ := h42
 have hw := hw.callN h41 h44
 have hw := hw.addE (e := RowA c38 rv34) h37
 refine av hs rfl rfl fun a hs => ?_
 refine av hs rfl rfl fun a hs => ?_
 refine nl ?_
 have hsh := oi hsh
 subst hsh
 refine wp_ret ?_
 exact ret2 hs rfl (rv_tmp rfl) (rv_tmp rfl) (hw.ret ⟨p35, k36, c38, rfl, (hw.outs [0] (by decide) rfl), (hw.envAt 0 rfl)⟩)

abbrev ref08_First_rd (w0 : World) (X : List Nat) (r : (List Span)) : (Nat → Prop) → World → Value → Prop := fun S w v => ∃ (p0_0 : Option Addr) (k0_0 : Nat) (c0_0 : List Value), v = .slice p0_0 r.length k0_0 ∧ Outs X w0 S w [.row p0_0 r.length k0_0 c0_0 46 2] ∧ (RowA c0_0 r).p S w
set_option maxHeartbeats 4000000 in
set_option maxRecDepth 100000 in
theorem ref08_First_ok {w0 : World} {S0 : Nat → Prop} {p2 : Option Addr} {k3 : Nat} {l1 : (List Span)} {n5 : Int} {r : (List Span)} (hsh : ref08_First l1 n5 = some r) (hS : ∀ b, S0 b → b < w0.heap.size) (h4 : (SlA p2 l1.length k3 l1).p S0 w0) : Calls Try.prog 48 #[.slice p2 l1.length k3, .int .i64 n5] w0 (Ret ([]) w0 S0 (ref08_First_rd w0 ([]) r)) := by
 refine calls_of_wp Try.func48 rfl ?_
 have hs := Sl.enter #[.slice p2 l1.length k3, .int .i64 n5] 66 [(0, .slice p2 l1.length k3), (1, .int .i64 n5)] rfl ⟨rfl, rfl, trivial⟩
 have hw := Wd.enter (E := []) hS (fun _ h => (by cases h))
 have hw := hw.addE h4
 delta ref08_First at hsh
 refine sr ?_
 refine av hs rfl rfl fun a hs => ?_
 refine nl ?_
 refine sr ?_
 refine mv hs rfl rfl fun a hs => ?_
 obtain ⟨rv7, h6, hsh⟩ := bind_t hsh
 refine st_callR hs (ref08_Normal_ok h6 hw.dom (hw.envAt 0 rfl)) (do_call Try.call51 rfl) trivial rfl rfl ?_
 intro v15 Sv12 w a h13 h14 hs
 obtain ⟨p8, k9, c11, rfl, h16, h10⟩ := h14
 have hw := hw.callN h13 h16
 have hw := hw.addE (e := RowA c11 rv7) h10
 refine av hs rfl rfl fun a hs => ?_
 refine nl ?_
 refine sr ?_
 refine av hs rfl rfl fun a hs => ?_
 refine nl ?_
 refine wp_seq ?_
 refine sr ?_
 refine av hs rfl rfl fun a hs => ?_
 refine nl ?_
 obtain ⟨e272, h481, hsh⟩ := bind_t hsh
 refine wp_join (fun a w => ∃ (c273 : List Value) (p274 : Option Addr) (k275 : Nat) (Sv276 : Nat → Prop), Sl 66 [(6, .slice p274 e272.length k275)] a ∧ Wd ⟨w0, S0, []⟩ Sv276 [.row p274 e272.length k275 c273 46 2] [RowA c273 e272] w) ?_ ?_
 ·refine wp_block ?_
  have hw := hw.nilRow Span 46
  refine wp_while (fun sv17 a w => ∃ (c184 : List Value) (p185 : Option Addr) (k186 : Nat) (Sv187 : Nat → Prop), Sl 66 [(1, .int .i64 sv17.1), (5, .slice p8 rv7.length k9), (6, .slice p185 sv17.2.1.length k186), (7, .int .i64 sv17.2.2)] a ∧ Wd ⟨w0, S0, []⟩ Sv187 [.row p8 rv7.length k9 c11 46 2, .row p185 sv17.2.1.length k186 c184 46 2] [RowA c11 rv7, RowA c184 sv17.2.1] w) (n5, ([] : List Span), 0) h481 ⟨[], none, 0, Sv12, (hs.wk rfl), (hw.ft [1, 0] [1, 0] (by decide) rfl rfl)⟩ ?_
  clear h481
  repeat clear hsh
  rintro sv17 a w tv270 ⟨c184, p185, k186, Sv187, hs, hw⟩ hsh hd269
  delta ref08_First_l1 at hsh
  refine wp_seq ?_
  refine sr ?_
  refine mv hs rfl rfl fun a hs => ?_
  refine mv hs rfl rfl fun a hs => ?_
  refine sv hs (y_len Try.runUnderlying27 rfl) rfl fun a hs => ?_
  refine sv hs (y_lss rfl rfl) rfl fun a hs => ?_
  refine mv hs rfl rfl fun a hs => ?_
  refine wpl_join 3 (fun a w1 => w = w1 ∧ Sl 66 [(1, .int .i64 sv17.1), (5, .slice p8 rv7.length k9), (6, .slice p185 sv17.2.1.length k186), (7, .int .i64 sv17.2.2), (18, .bool ((decide (sv17.2.2 < (rv7.length : Int))) && (decide (0 < sv17.1))))] a) ?_ ?_
  ·rcases Bool.eq_false_or_eq_true (decide (sv17.2.2 < (rv7.length : Int))) with h277 | h277
   ·have hs := hs.fix 15 (.bool true) rfl (vb h277)
    refine st_val hs (y_move rfl) ⟨_, rfl, rfl⟩ rfl rfl fun a hs => ?_
    refine st_val hs (y_gtr rfl rfl) ⟨_, rfl, rfl⟩ rfl rfl fun a hs => ?_
    refine sv hs (y_pickT rfl rfl) rfl fun a hs => ?_
    refine nl ?_
    exact ⟨rfl, (hs.fix 18 (.bool ((decide (sv17.2.2 < (rv7.length : Int))) && (decide (0 < sv17.1)))) rfl (and_t h277)).weaken _ ⟨rfl, rfl, rfl, rfl, rfl, trivial⟩⟩
   have hs := hs.fix 15 (.bool false) rfl (vb h277)
   refine st_skip hs rfl rfl rfl rfl rfl fun a hs => ?_
   refine st_skip hs rfl rfl rfl rfl rfl fun a hs => ?_
   refine sv hs (y_pickF rfl rfl) rfl fun a hs => ?_
   refine nl ?_
   exact ⟨rfl, (hs.fix 18 (.bool ((decide (sv17.2.2 < (rv7.length : Int))) && (decide (0 < sv17.1)))) rfl (and_f h277)).weaken _ ⟨rfl, rfl, rfl, rfl, rfl, trivial⟩⟩
  rintro a w1 ⟨h480, hs⟩
  subst h480
  refine nl ?_
  refine wp_cond_split (hs.ev rfl) (fun h279 => ?_) (fun h279 => ?_)
  ·have hsh := ite_t hsh h279
   refine wp_skip ?_
   refine then_normal ?_
   refine wp_seq ?_
   refine wp_block ?_
   refine wp_seq ?_
   obtain ⟨x358, h356, hsh⟩ := bind_t hsh
   obtain ⟨b365, q362, c363, h366, h359, h360, h364, h357⟩ := hw.elemRV (α := Span) 0 rfl 0 rfl h356
   have hsv367 := hs
   have hwv368 := hw
   subst h366
   have hs := hsv367
   have hw := hwv368
   obtain ⟨_, _, rfl, rfl, rfl⟩ := h357
   obtain ⟨x371, h369, hsh⟩ := bind_t hsh
   obtain ⟨q375, c376, h372, h373, h377, h370⟩ := hw.elemRK (α := Span) 0 rfl 0 rfl h369
   obtain ⟨_, _, rfl, rfl, rfl⟩ := h370
   obtain ⟨length379, h378, hsh⟩ := bind_t hsh
   refine wp_only (fun a w => ∃ (Sv380 : Nat → Prop), Sl 66 [(1, .int .i64 sv17.1), (5, .slice (some ⟨b365, 0, none⟩) rv7.length k9), (6, .slice p185 sv17.2.1.length k186), (7, .int .i64 sv17.2.2), (8, .int .u64 length379)] a ∧ Wd ⟨w0, S0, []⟩ Sv380 [.row (some ⟨b365, 0, none⟩) rv7.length k9 c11 46 2, .row p185 sv17.2.1.length k186 c184 46 2] [RowA c11 rv7, RowA c184 sv17.2.1] w) ?_ ?_
   ·refine h_b (C := Cls [.row (some ⟨b365, 0, none⟩) rv7.length k9 c11 46 2, .row p185 sv17.2.1.length k186 c184 46 2] []) (by kernel_rfl) rfl (hw.drew.cs [0, 1] [] rfl rfl) fun hC => ?_
    have hw := hw.drew
    refine gm hs 0 rfl rfl rfl hC fun a hs => ?_
    refine gm hs 1 rfl rfl rfl hC fun a hs => ?_
    refine gv hs 2 rfl rfl hC (fun w hC => y_indexAt Try.runUnderlying27 Try.sizeOf46 rfl rfl h359.1 h359.2 h360) fun a hs => ?_
    refine gv hs 3 rfl rfl hC (fun w hC => y_fieldAddr (o' := q362 + 1) Try.runUnderlying46 rfl Try.sizeOf3 rfl rfl rfl) fun a hs => ?_
    refine gv hs 4 rfl rfl hC (fun w hC => y_loadQ1 (j := 1) (hC.ownAt 0 rfl) rfl Try.isAgg3 h364 rfl) fun a hs => ?_
    refine gv hs 5 rfl rfl hC (fun w hC => y_convert Try.runUnderlying3 Try.runUnderlying69 rfl) fun a hs => ?_
    refine gm hs 6 rfl rfl rfl hC fun a hs => ?_
    refine gm hs 7 rfl rfl rfl hC fun a hs => ?_
    refine gv hs 8 rfl rfl hC (fun w hC => y_indexAt Try.runUnderlying27 Try.sizeOf46 rfl rfl h372.1 h372.2 h373) fun a hs => ?_
    refine gv hs 9 rfl rfl hC (fun w hC => y_fieldAddr (o' := q375 + 0) Try.runUnderlying46 rfl Try.sizeOf3 rfl rfl rfl) fun a hs => ?_
    refine gv hs 10 rfl rfl hC (fun w hC => y_loadQ1 (j := 0) (hC.ownAt 0 rfl) rfl Try.isAgg3 h377 rfl) fun a hs => ?_
    refine gv hs 11 rfl rfl hC (fun w hC => y_convert Try.runUnderlying3 Try.runUnderlying69 rfl) fun a hs => ?_
    refine gv hs 12 rfl rfl hC (fun w hC => y_sub rfl rfl) fun a hs => ?_
    refine gv hs 13 rfl rfl hC (fun w hC => y_assignI rfl h378) fun a hs => ?_
    refine h_done (by kernel_rfl) ?_
    exact ⟨Sv187, (hs.wk rfl), (hw.ft [0, 1] [0, 1] (by decide) rfl rfl)⟩
   rintro a w ⟨Sv380, hs, hw⟩
   refine then_normal ?_
   refine sr ?_
   refine mv hs rfl rfl fun a hs => ?_
   refine mv hs rfl rfl fun a hs => ?_
   refine sv hs (y_convert Try.runUnderlying3 Try.runUnderlying69 rfl) rfl fun a hs => ?_
   refine sv hs (y_gtr rfl rfl) rfl fun a hs => ?_
   refine nl ?_
   refine wp_join (fun a w => ∃ (n430 : Int) (out431 : (List Span)) (c426 : List Value) (p427 : Option Addr) (k428 : Nat) (Sv429 : Nat → Prop), ref08_First_j1 sv17 n430 out431 = some tv270 ∧ Sl 66 [(1, .int .i64 n430), (5, .slice (some ⟨b365, 0, none⟩) rv7.length k9), (6, .slice p427 out431.length k428), (7, .int .i64 sv17.2.2)] a ∧ Wd ⟨w0, S0, []⟩ Sv429 [.row (some ⟨b365, 0, none⟩) rv7.length k9 c11 46 2, .row p427 out431.length k428 c426 46 2] [RowA c11 rv7, RowA c426 out431] w) ?_ ?_
   ·refine wp_cond_split (hs.ev rfl) (fun h434 => ?_) (fun h434 => ?_)
    ·have hsh := ite_t hsh h434
     refine wp_seq ?_
     obtain ⟨x437, h435, hsh⟩ := bind_t hsh
     obtain ⟨q441, c442, h438, h439, h443, h436⟩ := hw.elemRK (α := Span) 0 rfl 0 rfl h435
     obtain ⟨_, _, rfl, rfl, rfl⟩ := h436
     obtain ⟨x446, h444, hsh⟩ := bind_t hsh
     obtain ⟨q450, c451, h447, h448, h452, h445⟩ := hw.elemRK (α := Span) 0 rfl 0 rfl h444
     obtain ⟨_, _, rfl, rfl, rfl⟩ := h445
     obtain ⟨l456, h455, hsh⟩ := bind_t hsh
     refine wp_only (fun a w => ∃ (Sv460 : Nat → Prop) (c459 : List Value) (k458 : Nat) (p457 : Option Addr), Sl 66 [(5, .slice (some ⟨b365, 0, none⟩) rv7.length k9), (6, .slice p457 l456.length k458), (7, .int .i64 sv17.2.2)] a ∧ Wd ⟨w0, S0, []⟩ Sv460 [.row (some ⟨b365, 0, none⟩) rv7.length k9 c11 46 2, .row p457 l456.length k458 c459 46 2] [RowA c11 rv7, RowA c459 l456] w) ?_ ?_
     ·refine h_b (C := Cls [.row (some ⟨b365, 0, none⟩) rv7.length k9 c11 46 2] []) (by kernel_rfl) rfl (hw.drew.cs [0] [] rfl rfl) fun hC => ?_
      have hw := hw.drew
      refine gm hs 0 rfl rfl rfl hC fun a hs => ?_
      refine gm hs 1 rfl rfl rfl hC fun a hs => ?_
      refine gm hs 2 rfl rfl rfl hC fun a hs => ?_
      refine gv hs 3 rfl rfl hC (fun w hC => y_indexAt Try.runUnderlying27 Try.sizeOf46 rfl rfl h438.1 h438.2 h439) fun a hs => ?_
      refine gv hs 4 rfl rfl hC (fun w hC => y_fieldAddr (o' := q441 + 0) Try.runUnderlying46 rfl Try.sizeOf3 rfl rfl rfl) fun a hs => ?_
      refine gv hs 5 rfl rfl hC (fun w hC => y_loadQ1 (j := 0) (hC.ownAt 0 rfl) rfl Try.isAgg3 h443 rfl) fun a hs => ?_
      refine gm hs 6 rfl rfl rfl hC fun a hs => ?_
      refine gm hs 7 rfl rfl rfl hC fun a hs => ?_
      refine gv hs 8 rfl rfl hC (fun w hC => y_indexAt Try.runUnderlying27 Try.sizeOf46 rfl rfl h447.1 h447.2 h448) fun a hs => ?_
      refine gv hs 9 rfl rfl hC (fun w hC => y_fieldAddr (o' := q450 + 0) Try.runUnderlying46 rfl Try.sizeOf3 rfl rfl rfl) fun a hs => ?_
      refine gv hs 10 rfl rfl hC (fun w hC => y_loadQ1 (j := 0) (hC.ownAt 0 rfl) rfl Try.isAgg3 h452 rfl) fun a hs => ?_
      refine gm hs 11 rfl rfl rfl hC fun a hs => ?_
      refine gv hs 12 rfl rfl hC (fun w hC => y_add rfl rfl) fun a hs => ?_
      refine gv hs 13 rfl rfl hC (fun w hC => y_build (vs := [(0, .int .i64 x437.From), (1, .int .i64 (w64 (x446.From + sv17.1)))]) Bld46 rfl rfl) fun a hs => ?_
      refine ho 14 rfl ?_
      refine w_litSlice (α := Span) (vs := [.agg #[.int .i64 x437.From, .int .i64 (w64 (x446.From + sv17.1))]]) (cs := [.int .i64 x437.From, .int .i64 (w64 (x446.From + sv17.1))]) (xs := ([(⟨x437.From, (w64 (x446.From + sv17.1))⟩ : Span)] : List Span)) hs hw El27 rfl rfl rfl rfl rfl rfl ⟨⟨_, _, rfl, rfl, rfl⟩, rfl⟩ rfl trivial rfl fun b454 a w hs hw => ?_
      refine h_nx (hw.cs [1] [] rfl rfl) fun hC => ?_
      refine h_st (C' := Cls [.row (some ⟨b365, 0, none⟩) rv7.length k9 c11 46 2, .row (some ⟨b454, 0, none⟩) ([(⟨x437.From, (w64 (x446.From + sv17.1))⟩ : Span)] : List Span).length ([(⟨x437.From, (w64 (x446.From + sv17.1))⟩ : Span)] : List Span).length [.int .i64 x437.From, .int .i64 (w64 (x446.From + sv17.1))] 46 2] []) (fun _ h => by exact h.sub [0] (Sel.of rfl) (AllIn.of [] rfl)) (hw.cs [1, 0] [] rfl rfl) fun hC => ?_
      refine ho 15 rfl ?_
      refine w_appendR (α := Span) hs hw El27 2 rfl rfl rfl 2 rfl 0 rfl 0 rfl h455 rfl trivial ?_
      intro p457 k458 c459 a w hs hw
      refine h_nx (hw.cs [1, 0] [] rfl rfl) fun hC => ?_
      refine gv hs 16 rfl rfl hC (fun w hC => y_assign rfl) fun a hs => ?_
      refine h_done (by kernel_rfl) ?_
      exact ⟨Sv380, c459, k458, p457, (hs.wk rfl), (hw.ft [1, 2] [2, 0] (by decide) rfl rfl)⟩
     rintro a w ⟨Sv460, c459, k458, p457, hs, hw⟩
     refine then_normal ?_
     refine wp_region_lit ?_
     refine av hs rfl rfl fun a hs => ?_
     refine nl ?_
     exact ⟨0, l456, c459, p457, k458, Sv460, hsh, (hs.wk rfl), (hw.ft [0, 1] [0, 1] (by decide) rfl rfl)⟩
    have hsh := ite_f hsh h434
    refine sr ?_
    refine mv hs rfl rfl fun a hs => ?_
    refine mv hs rfl rfl fun a hs => ?_
    refine mv hs rfl rfl fun a hs => ?_
    obtain ⟨x463, h461, hsh⟩ := bind_t hsh
    obtain ⟨q467, c468, h464, h465, h469, h462⟩ := hw.elemRK (α := Span) 0 rfl 0 rfl h461
    obtain ⟨_, _, rfl, rfl, rfl⟩ := h462
    refine sv hs (y_indexAt Try.runUnderlying27 Try.sizeOf46 rfl rfl h464.1 h464.2 h465) rfl fun a hs => ?_
    refine sv hs (y_loadQA (j := 0) (hw.ownAt 0 rfl) rfl Try.isAgg46 Try.sizeOf46 h469 rfl rfl) rfl fun a hs => ?_
    refine w_litSlice (α := Span) (vs := [.agg #[.int .i64 x463.From, .int .i64 x463.To]]) (cs := [.int .i64 x463.From, .int .i64 x463.To]) (xs := ([x463] : List Span)) hs hw El27 rfl rfl rfl rfl rfl rfl ⟨⟨_, _, rfl, rfl, rfl⟩, rfl⟩ rfl trivial rfl fun b471 a w hs hw => ?_
    obtain ⟨l473, h472, hsh⟩ := bind_t hsh
    refine w_appendR (α := Span) hs hw El27 2 rfl rfl rfl 2 rfl 0 rfl 0 rfl h472 rfl trivial ?_
    intro p474 k475 c476 a w hs hw
    refine av hs rfl rfl fun a hs => ?_
    refine nl ?_
    refine wp_region_lit ?_
    refine mv hs rfl rfl fun a hs => ?_
    refine mv hs rfl rfl fun a hs => ?_
    refine sv hs (y_convert Try.runUnderlying69 Try.runUnderlying3 rfl) rfl fun a hs => ?_
    refine sv hs (y_sub rfl rfl) rfl fun a hs => ?_
    obtain ⟨n478, h477, hsh⟩ := bind_t hsh
    refine sv hs (y_assignI rfl h477) rfl fun a hs => ?_
    refine nl ?_
    exact ⟨n478, l473, c476, p474, k475, Sv380, hsh, (hs.wk rfl), (hw.ft [1, 2] [2, 0] (by decide) rfl rfl)⟩
   rintro a w ⟨n430, out431, c426, p427, k428, Sv429, hsh, hs, hw⟩
   delta ref08_First_j1 at hsh
   refine blk_normal ?_
   refine then_normal ?_
   refine wp_region_lit ?_
   refine mv hs rfl rfl fun a hs => ?_
   refine sv hs (y_add rfl rfl) rfl fun a hs => ?_
   obtain ⟨i433, h432, hsh⟩ := bind_t hsh
   refine sv hs (y_assignI rfl h432) rfl fun a hs => ?_
   refine nl ?_
   exact ⟨_, (Option.some.inj hsh).symm, c426, p427, k428, Sv429, (hs.wk rfl), (hw.ft [0, 1] [0, 1] (by decide) rfl rfl)⟩
  have hsh := ite_f hsh h279
  refine wp_exit ?_
  refine then_exit ?_
  refine then_exit ?_
  refine blk_exit ?_
  have hsh := oi hsh
  subst hsh
  have h479 := hd269 _ rfl
  subst h479
  refine then_normal ?_
  exact ⟨c184, p185, k186, Sv187, (hs.wk rfl), (hw.ft [1] [1] (by decide) rfl rfl)⟩
 rintro a w ⟨c273, p274, k275, Sv276, hs, hw⟩
 refine then_normal ?_
 refine sr ?_
 refine mv hs rfl rfl fun a hs => ?_
 refine av hs rfl rfl fun a hs => ?_
 refine nl ?_
 have hsh := oi hsh
 subst hsh
 refine wp_ret ?_
 exact ret1 hs rfl (rv_tmp rfl) (hw.ret ⟨p274, k275, c273, rfl, (hw.outs [0] (by decide) rfl), (hw.envAt 0 rfl)⟩)

abbrev ref11_Request_rd (w0 : World) (X : List Nat) (r : ((List Span) × Int)) : (Nat → Prop) → World → Value → Prop := fun S w v => ∃ (p0_0 : Option Addr) (k0_0 : Nat) (c0_0 : List Value), v = .tuple #[.slice p0_0 r.1.length k0_0, .int .i64 r.2] ∧ Outs X w0 S w [.row p0_0 r.1.length k0_0 c0_0 46 2] ∧ (RowA c0_0 r.1).p S w
set_option maxHeartbeats 4000000 in
set_option maxRecDepth 100000 in
theorem ref11_Request_ok {w0 : World} {S0 : Nat → Prop} {p2 : Option Addr} {k3 : Nat} {p4 : Option Addr} {k5 : Nat} {r1 : Receiver} {next8 : Int} {most9 : Int} {r : ((List Span) × Int)} (hsh : ref11_Request r1 next8 most9 = some r) (hS : ∀ b, S0 b → b < w0.heap.size) (h6 : (SlA p2 r1.Got.length k3 r1.Got).p S0 w0) (h7 : (SlA p4 r1.Lost.length k5 r1.Lost).p S0 w0) : Calls Try.prog 26 #[.agg #[.slice p2 r1.Got.length k3, .slice p4 r1.Lost.length k5], .int .i64 next8, .int .i64 most9] w0 (Ret ([]) w0 S0 (ref11_Request_rd w0 ([]) r)) := by
 refine calls_of_wp Try.func26 rfl ?_
 have hs := Sl.enter #[.agg #[.slice p2 r1.Got.length k3, .slice p4 r1.Lost.length k5], .int .i64 next8, .int .i64 most9] 25 [(0, .agg #[.slice p2 r1.Got.length k3, .slice p4 r1.Lost.length k5]), (1, .int .i64 next8), (2, .int .i64 most9)] rfl ⟨rfl, rfl, rfl, trivial⟩
 have hw := Wd.enter (E := []) hS (fun _ h => (by cases h))
 have hw := hw.addE h6
 have hw := hw.addE h7
 delta ref11_Request at hsh
 refine sr ?_
 refine w_box (cs := [.slice p2 r1.Got.length k3, .slice p4 r1.Lost.length k5]) hs hw rfl rfl rfl trivial ?_
 intro b10 a w hs hw
 refine av hs rfl rfl fun a hs => ?_
 refine av hs rfl rfl fun a hs => ?_
 refine nl ?_
 refine sr ?_
 refine sv hs (y_loadBA (hw.ownAt 0 rfl) rfl Try.isAgg29 Try.sizeOf29 rfl rfl) rfl fun a hs => ?_
 refine mv hs rfl rfl fun a hs => ?_
 obtain ⟨rv12, h11, hsh⟩ := bind_t hsh
 refine st_callR hs (ref11_Missing_ok h11 hw.dom (hw.envAt 1 rfl) (hw.envAt 0 rfl)) (do_call Try.call23 rfl) trivial rfl rfl ?_
 intro v20 Sv17 w a h18 h19 hs
 obtain ⟨p13, k14, c16, rfl, h21, h15⟩ := h19
 have hw := hw.callN h18 h21
 have hw := hw.addE (e := RowA c16 rv12.1) h15
 refine mv hs rfl rfl fun a hs => ?_
 refine sv hs (y_extract rfl rfl) rfl fun a hs => ?_
 refine sv hs (y_extract rfl rfl) rfl fun a hs => ?_
 refine av hs rfl rfl fun a hs => ?_
 refine av hs rfl rfl fun a hs => ?_
 refine nl ?_
 refine wp_seq ?_
 refine sr ?_
 refine mv hs rfl rfl fun a hs => ?_
 refine sv hs (y_neq rfl rfl) rfl fun a hs => ?_
 refine nl ?_
 refine wp_cond_split (hs.ev rfl) (fun h23 => ?_) (fun h23 => ?_)
 ·have hsh := ite_t hsh h23
  refine sr ?_
  refine mv hs rfl rfl fun a hs => ?_
  refine av hs rfl rfl fun a hs => ?_
  refine av hs rfl rfl fun a hs => ?_
  refine nl ?_
  have hsh := oi hsh
  subst hsh
  have hw := hw.nilRow Span 46
  refine wp_ret ?_
  refine then_ret ?_
  exact ret2 hs rfl (rv_tmp rfl) (rv_tmp rfl) (hw.ret ⟨none, 0, [], rfl, (hw.outs [0] (by decide) rfl), (hw.envAt 0 rfl)⟩)
 have hsh := ite_f hsh h23
 refine wp_skip ?_
 refine then_normal ?_
 refine wp_seq ?_
 refine sr ?_
 refine mv hs rfl rfl fun a hs => ?_
 obtain ⟨rv25, h24, hsh⟩ := bind_t hsh
 refine st_callR hs (ref01_In_ok h24 hw.bdom) (do_call Try.call43 rfl) trivial rfl rfl ?_
 intro v29 Sv26 w a h27 h28 hs
 subst h28
 have hw := hw.callB h27
 refine sv hs (y_not rfl) rfl fun a hs => ?_
 refine nl ?_
 refine wp_cond_split (hs.ev rfl) (fun h32 => ?_) (fun h32 => ?_)
 ·have hsh := ite_t hsh h32
  refine sr ?_
  refine av hs rfl rfl fun a hs => ?_
  refine av hs rfl rfl fun a hs => ?_
  refine nl ?_
  have hsh := oi hsh
  subst hsh
  have hw := hw.nilRow Span 46
  refine wp_ret ?_
  refine then_ret ?_
  exact ret2 hs rfl (rv_tmp rfl) (rv_tmp rfl) (hw.ret ⟨none, 0, [], rfl, (hw.outs [0] (by decide) rfl), (hw.envAt 0 rfl)⟩)
 have hsh := ite_f hsh h32
 refine wp_skip ?_
 refine then_normal ?_
 refine sr ?_
 refine mv hs rfl rfl fun a hs => ?_
 refine mv hs rfl rfl fun a hs => ?_
 obtain ⟨rv34, h33, hsh⟩ := bind_t hsh
 obtain ⟨Sv39, hw⟩ := w_share (α := Span) hw 0 rfl 0 rfl
 refine st_callR hs (ref08_First_ok h33 hw.dom (hw.envAt 0 rfl)) (do_call Try.call48 rfl) trivial rfl rfl ?_
 intro v43 Sv40 w a h41 h42 hs
 obtain ⟨p35, k36, c38, rfl, h44, h37⟩ := h42
 have hw := hw.callN h41 h44
 have hw := hw.addE (e := RowA c38 rv34) h37
 refine av hs rfl rfl fun a hs => ?_
 refine av hs rfl rfl fun a hs => ?_
 refine nl ?_
 have hsh := oi hsh
 subst hsh
 refine wp_ret ?_
 exact ret2 hs rfl (rv_tmp rfl) (rv_tmp rfl) (hw.ret ⟨p35, k36, c38, rfl, (hw.outs [0] (by decide) rfl), (hw.envAt 0 rfl)⟩)

abbrev ref11_Settled_rd (w0 : World) (X : List Nat) (r : Int) : (Nat → Prop) → World → Value → Prop := fun S w v => v = .int .i64 r
set_option maxHeartbeats 4000000 in
set_option maxRecDepth 100000 in
theorem ref11_Settled_ok {w0 : World} {S0 : Nat → Prop} {p2 : Option Addr} {k3 : Nat} {p4 : Option Addr} {k5 : Nat} {r1 : Receiver} {r : Int} (hsh : ref11_Settled r1 = some r) (hS : ∀ b, S0 b → b < w0.heap.size) (h6 : (SlA p2 r1.Got.length k3 r1.Got).p S0 w0) (h7 : (SlA p4 r1.Lost.length k5 r1.Lost).p S0 w0) : Calls Try.prog 29 #[.agg #[.slice p2 r1.Got.length k3, .slice p4 r1.Lost.length k5]] w0 (Ret ([]) w0 S0 (ref11_Settled_rd w0 ([]) r)) := by
 refine calls_of_wp Try.func29 rfl ?_
 have hs := Sl.enter #[.agg #[.slice p2 r1.Got.length k3, .slice p4 r1.Lost.length k5]] 24 [(0, .agg #[.slice p2 r1.Got.length k3, .slice p4 r1.Lost.length k5])] rfl ⟨rfl, trivial⟩
 have hw := Wd.enter (E := []) hS (fun _ h => (by cases h))
 have hw := hw.addE h6
 have hw := hw.addE h7
 delta ref11_Settled at hsh
 refine sr ?_
 refine w_box (cs := [.slice p2 r1.Got.length k3, .slice p4 r1.Lost.length k5]) hs hw rfl rfl rfl trivial ?_
 intro b8 a w hs hw
 refine av hs rfl rfl fun a hs => ?_
 refine nl ?_
 refine wp_seq ?_
 refine sr ?_
 refine sv hs (y_loadBA (hw.ownAt 0 rfl) rfl Try.isAgg29 Try.sizeOf29 rfl rfl) rfl fun a hs => ?_
 obtain ⟨rv10, h9, hsh⟩ := bind_t hsh
 refine st_callR hs (ref11_both_ok h9 hw.dom (hw.envAt 1 rfl) (hw.envAt 0 rfl)) (do_call Try.call46 rfl) trivial rfl rfl ?_
 intro v18 Sv15 w a h16 h17 hs
 obtain ⟨p11, k12, c14, rfl, h19, h13⟩ := h17
 have hw := hw.callN h16 h19
 have hw := hw.addE (e := RowA c14 rv10) h13
 refine av hs rfl rfl fun a hs => ?_
 refine nl ?_
 refine sr ?_
 refine sv hs (y_loadBA (hw.ownAt 1 rfl) rfl Try.isAgg29 Try.sizeOf29 rfl rfl) rfl fun a hs => ?_
 obtain ⟨rv21, h20, hsh⟩ := bind_t hsh
 refine st_callR hs (ref11_Valid_ok h20 hw.bdom (hw.bE 2 rfl) (hw.bE 1 rfl)) (do_call Try.call27 rfl) trivial rfl rfl ?_
 intro v25 Sv22 w a h23 h24 hs
 subst h24
 have hw := hw.callB h23
 refine mv hs rfl rfl fun a hs => ?_
 refine wpl_join 4 (fun a w1 => w = w1 ∧ Sl 24 [(3, .slice p11 rv10.length k12), (12, .bool (rv21 && (decide (0 < (rv10.length : Int)))))] a) ?_ ?_
 ·rcases Bool.eq_false_or_eq_true rv21 with h27 | h27
  ·have hs := hs.fix 8 (.bool true) rfl (vb h27)
   refine st_val hs (y_move rfl) ⟨_, rfl, rfl⟩ rfl rfl fun a hs => ?_
   refine st_val hs (y_len Try.runUnderlying27 rfl) ⟨_, rfl, rfl⟩ rfl rfl fun a hs => ?_
   refine st_val hs (y_gtr rfl rfl) ⟨_, rfl, rfl⟩ rfl rfl fun a hs => ?_
   refine sv hs (y_pickT rfl rfl) rfl fun a hs => ?_
   refine nl ?_
   exact ⟨rfl, (hs.fix 12 (.bool (rv21 && (decide (0 < (rv10.length : Int))))) rfl (and_t h27)).weaken _ ⟨rfl, rfl, trivial⟩⟩
  have hs := hs.fix 8 (.bool false) rfl (vb h27)
  refine st_skip hs rfl rfl rfl rfl rfl fun a hs => ?_
  refine st_skip hs rfl rfl rfl rfl rfl fun a hs => ?_
  refine st_skip hs rfl rfl rfl rfl rfl fun a hs => ?_
  refine sv hs (y_pickF rfl rfl) rfl fun a hs => ?_
  refine nl ?_
  exact ⟨rfl, (hs.fix 12 (.bool (rv21 && (decide (0 < (rv10.length : Int))))) rfl (and_f h27)).weaken _ ⟨rfl, rfl, trivial⟩⟩
 rintro a w1 ⟨h85, hs⟩
 subst h85
 refine mv hs rfl rfl fun a hs => ?_
 obtain ⟨c42, hc42, hsh⟩ := bind_t hsh
 refine wpl_join 6 (fun a w => ∃ (Sv43 : Nat → Prop), Sl 24 [(3, .slice p11 rv10.length k12), (19, .bool c42)] a ∧ Wd ⟨w0, S0, []⟩ Sv43 [.row p11 rv10.length k12 c14 46 2] [RowA c14 rv10] w) ?_ ?_
 ·rcases Bool.eq_false_or_eq_true (rv21 && (decide (0 < (rv10.length : Int)))) with h41 | h41
  ·have hs := hs.fix 13 (.bool true) rfl (vb h41)
   have hsh := ite_t hc42 h41
   refine st_val hs (y_move rfl) ⟨_, rfl, rfl⟩ rfl rfl fun a hs => ?_
   obtain ⟨x46, h44, hsh⟩ := bind_t hsh
   obtain ⟨b53, q50, c51, h54, h47, h48, h52, h45⟩ := hw.elemRV (α := Span) 0 rfl 0 rfl h44
   have hsv55 := hs
   have hwv56 := hw
   subst h54
   have hs := hsv55
   have hw := hwv56
   obtain ⟨_, _, rfl, rfl, rfl⟩ := h45
   refine st_val hs (y_indexAt Try.runUnderlying27 Try.sizeOf46 rfl rfl h47.1 h47.2 h48) ⟨_, rfl, rfl⟩ rfl rfl fun a hs => ?_
   refine st_val hs (y_fieldAddr (o' := q50 + 0) Try.runUnderlying46 rfl Try.sizeOf3 rfl rfl rfl) ⟨_, rfl, rfl⟩ rfl rfl fun a hs => ?_
   refine st_val hs (y_loadQ1 (j := 0) (hw.ownAt 0 rfl) rfl Try.isAgg3 h52 rfl) ⟨_, rfl, rfl⟩ rfl rfl fun a hs => ?_
   refine st_val hs (y_eql rfl rfl) ⟨_, rfl, rfl⟩ rfl rfl fun a hs => ?_
   refine sv hs (y_pickT rfl rfl) rfl fun a hs => ?_
   refine wpList_nil ?_
   have hsh := oi hsh
   subst hsh
   refine then_normal ?_
   exact ⟨Sv15, (hs.wk rfl), (hw.ft [0] [0] (by decide) rfl rfl)⟩
  have hs := hs.fix 13 (.bool false) rfl (vb h41)
  have hsh := ite_f hc42 h41
  refine st_skip hs rfl rfl rfl rfl rfl fun a hs => ?_
  refine st_skip hs rfl rfl rfl rfl rfl fun a hs => ?_
  refine st_skip hs rfl rfl rfl rfl rfl fun a hs => ?_
  refine st_skip hs rfl rfl rfl rfl rfl fun a hs => ?_
  refine st_skip hs rfl rfl rfl rfl rfl fun a hs => ?_
  refine sv hs (y_pickF rfl rfl) rfl fun a hs => ?_
  refine wpList_nil ?_
  have hsh := oi hsh
  subst hsh
  refine then_normal ?_
  exact ⟨Sv15, (hs.wk rfl), (hw.ft [0] [0] (by decide) rfl rfl)⟩
 rintro a w ⟨Sv43, hs, hw⟩
 refine nl ?_
 refine wp_cond_split (hs.ev rfl) (fun h71 => ?_) (fun h71 => ?_)
 ·have hsh := ite_t hsh h71
  refine sr ?_
  refine mv hs rfl rfl fun a hs => ?_
  obtain ⟨x74, h72, hsh⟩ := bind_t hsh
  obtain ⟨b81, q78, c79, h82, h75, h76, h80, h73⟩ := hw.elemRV (α := Span) 0 rfl 0 rfl h72
  have hsv83 := hs
  have hwv84 := hw
  subst h82
  have hs := hsv83
  have hw := hwv84
  obtain ⟨_, _, rfl, rfl, rfl⟩ := h73
  refine sv hs (y_indexAt Try.runUnderlying27 Try.sizeOf46 rfl rfl h75.1 h75.2 h76) rfl fun a hs => ?_
  refine sv hs (y_fieldAddr (o' := q78 + 1) Try.runUnderlying46 rfl Try.sizeOf3 rfl rfl rfl) rfl fun a hs => ?_
  refine sv hs (y_loadQ1 (j := 1) (hw.ownAt 0 rfl) rfl Try.isAgg3 h80 rfl) rfl fun a hs => ?_
  refine av hs rfl rfl fun a hs => ?_
  refine nl ?_
  have hsh := oi hsh
  subst hsh
  refine wp_ret ?_
  refine then_ret ?_
  exact ret1 hs rfl (rv_tmp rfl) (hw.ret rfl)
 have hsh := ite_f hsh h71
 refine wp_skip ?_
 refine then_normal ?_
 refine sr ?_
 refine av hs rfl rfl fun a hs => ?_
 refine nl ?_
 have hsh := oi hsh
 subst hsh
 refine wp_ret ?_
 exact ret1 hs rfl (rv_tmp rfl) (hw.ret rfl)

abbrev law11_ReceiverExact_rd (w0 : World) (X : List Nat) (r : Bool) : (Nat → Prop) → World → Value → Prop := fun S w v => v = .bool r
abbrev D5t1 (b16 : Nat) (b43 : Nat) (b68 : Nat) (below13 : Int) (most15 : Int) (next14 : Int) (seq12 : Int) : Slots := [(2, .int .i64 seq12), (3, .int .i64 below13), (4, .int .i64 next14), (5, .int .i64 most15), (7, .pointer (some ⟨b16, 0, none⟩)), (13, .pointer (some ⟨b43, 0, none⟩)), (14, .pointer (some ⟨b68, 0, none⟩))]
abbrev D5t2 (b43 : Nat) (b68 : Nat) (b90 : Nat) (b96 : Nat) (k55 : Nat) (k58 : Nat) (k72 : Nat) (k77 : Nat) (k94 : Nat) (l70 : (List Span)) (l75 : (List Span)) (l92 : (List Span)) (p54 : Option Addr) (p57 : Option Addr) (p71 : Option Addr) (p76 : Option Addr) (p93 : Option Addr) (rv53 : (Receiver × Dice)) (rv80 : (Int × Dice)) (rv85 : (Int × Dice)) : Vs := [(0, 60, .pointer (some ⟨b68, 0, none⟩)), (1, 61, .slice p54 rv53.1.Got.length k55), (2, 62, .slice p71 l70.length k72), (3, 63, .pointer (some ⟨b68, 1, none⟩)), (4, 64, .slice p57 rv53.1.Lost.length k58), (5, 65, .slice p76 l75.length k77), (6, 66, .pointer (some ⟨b43, 0, none⟩)), (7, 67, .int .i64 rv80.1), (8, 68, .pointer (some ⟨b43, 0, none⟩)), (9, 69, .int .i64 rv85.1), (10, 70, .agg #[.int .i64 rv80.1, .int .i64 rv85.1]), (11, 71, .slice (some ⟨b90, 0, none⟩) ([(⟨rv80.1, rv85.1⟩ : Span)] : List Span).length ([(⟨rv80.1, rv85.1⟩ : Span)] : List Span).length), (12, 72, .slice p93 l92.length k94), (13, 73, .agg #[.slice p71 l70.length k72, .slice p93 l92.length k94]), (14, 15, .pointer (some ⟨b96, 0, none⟩))]
set_option maxHeartbeats 4000000 in
set_option maxRecDepth 100000 in
theorem law11_ReceiverExact_ok {w0 : World} {S0 : Nat → Prop} {p2 : Option Addr} {k3 : Nat} {p6 : Option Addr} {k7 : Nat} {p8 : Option Addr} {k9 : Nat} {t1 : (List Int)} {raw5 : Receiver} {seq12 : Int} {below13 : Int} {next14 : Int} {most15 : Int} {r : Bool} (hsh : law11_ReceiverExact t1 raw5 seq12 below13 next14 most15 = some r) (hS : ∀ b, S0 b → b < w0.heap.size) (h4 : (SlA p2 t1.length k3 t1).p S0 w0) (h10 : (SlA p6 raw5.Got.length k7 raw5.Got).p S0 w0) (h11 : (SlA p8 raw5.Lost.length k9 raw5.Lost).p S0 w0) : Calls Try.prog 5 #[.slice p2 t1.length k3, .agg #[.slice p6 raw5.Got.length k7, .slice p8 raw5.Lost.length k9], .int .i64 seq12, .int .i64 below13, .int .i64 next14, .int .i64 most15] w0 (Ret ([]) w0 S0 (law11_ReceiverExact_rd w0 ([]) r)) := by
 refine calls_of_wp Try.func5 rfl ?_
 have hs := Sl.enter #[.slice p2 t1.length k3, .agg #[.slice p6 raw5.Got.length k7, .slice p8 raw5.Lost.length k9], .int .i64 seq12, .int .i64 below13, .int .i64 next14, .int .i64 most15] 238 [(0, .slice p2 t1.length k3), (1, .agg #[.slice p6 raw5.Got.length k7, .slice p8 raw5.Lost.length k9]), (2, .int .i64 seq12), (3, .int .i64 below13), (4, .int .i64 next14), (5, .int .i64 most15)] rfl ⟨rfl, rfl, rfl, rfl, rfl, rfl, trivial⟩
 have hw := Wd.enter (E := []) hS (fun _ h => (by cases h))
 have hw := hw.addE h4
 have hw := hw.addE h10
 have hw := hw.addE h11
 delta law11_ReceiverExact at hsh
 refine sr ?_
 refine w_box (cs := [.slice p6 raw5.Got.length k7, .slice p8 raw5.Lost.length k9]) hs hw rfl rfl rfl trivial ?_
 intro b16 a w hs hw
 refine av hs rfl rfl fun a hs => ?_
 refine nl ?_
 refine wp_seq ?_
 refine sr ?_
 refine mv hs rfl rfl fun a hs => ?_
 obtain ⟨rv18, h17, hsh⟩ := bind_t hsh
 refine st_callR hs (made_Light_ok h17 hw.bdom (hw.bE 2 rfl)) (do_call Try.call7 rfl) trivial rfl rfl ?_
 intro v22 Sv19 w a h20 h21 hs
 subst h21
 have hw := hw.callB h20
 refine sv hs (y_not rfl) rfl fun a hs => ?_
 refine mv hs rfl rfl fun a hs => ?_
 refine wpl_join 9 (fun a w1 => w = w1 ∧ Sl 238 [(0, .slice p2 t1.length k3), (2, .int .i64 seq12), (3, .int .i64 below13), (4, .int .i64 next14), (5, .int .i64 most15), (7, .pointer (some ⟨b16, 0, none⟩)), (54, .bool ((!rv18) || (decide (40 < (w64 ((raw5.Got.length : Int) + (raw5.Lost.length : Int)))))))] a) ?_ ?_
 ·rcases Bool.eq_false_or_eq_true (!rv18) with h24 | h24
  ·have hs := hs.fix 45 (.bool true) rfl (vb h24)
   refine st_skip hs rfl rfl rfl rfl rfl fun a hs => ?_
   refine st_skip hs rfl rfl rfl rfl rfl fun a hs => ?_
   refine st_skip hs rfl rfl rfl rfl rfl fun a hs => ?_
   refine st_skip hs rfl rfl rfl rfl rfl fun a hs => ?_
   refine st_skip hs rfl rfl rfl rfl rfl fun a hs => ?_
   refine st_skip hs rfl rfl rfl rfl rfl fun a hs => ?_
   refine st_skip hs rfl rfl rfl rfl rfl fun a hs => ?_
   refine st_skip hs rfl rfl rfl rfl rfl fun a hs => ?_
   refine sv hs (y_pickT rfl rfl) rfl fun a hs => ?_
   refine nl ?_
   exact ⟨rfl, (hs.fix 54 (.bool ((!rv18) || (decide (40 < (w64 ((raw5.Got.length : Int) + (raw5.Lost.length : Int))))))) rfl (or_t h24)).weaken _ ⟨rfl, rfl, rfl, rfl, rfl, rfl, rfl, trivial⟩⟩
  have hs := hs.fix 45 (.bool false) rfl (vb h24)
  refine st_val hs (y_fieldAddr (o' := 0) Try.runUnderlying29 rfl Try.sizeOf27 rfl rfl rfl) ⟨_, rfl, rfl⟩ rfl rfl fun a hs => ?_
  refine st_val hs (y_loadB1 (hw.ownAt 0 rfl) rfl Try.isAgg27 rfl) ⟨_, rfl, rfl⟩ rfl rfl fun a hs => ?_
  refine st_val hs (y_len Try.runUnderlying27 rfl) ⟨_, rfl, rfl⟩ rfl rfl fun a hs => ?_
  refine st_val hs (y_fieldAddr (o' := 1) Try.runUnderlying29 rfl Try.sizeOf27 rfl rfl rfl) ⟨_, rfl, rfl⟩ rfl rfl fun a hs => ?_
  refine st_val hs (y_loadB1 (hw.ownAt 0 rfl) rfl Try.isAgg27 rfl) ⟨_, rfl, rfl⟩ rfl rfl fun a hs => ?_
  refine st_val hs (y_len Try.runUnderlying27 rfl) ⟨_, rfl, rfl⟩ rfl rfl fun a hs => ?_
  refine st_val hs (y_add rfl rfl) ⟨_, rfl, rfl⟩ rfl rfl fun a hs => ?_
  refine st_val hs (y_gtr rfl rfl) ⟨_, rfl, rfl⟩ rfl rfl fun a hs => ?_
  refine sv hs (y_pickF rfl rfl) rfl fun a hs => ?_
  refine nl ?_
  exact ⟨rfl, (hs.fix 54 (.bool ((!rv18) || (decide (40 < (w64 ((raw5.Got.length : Int) + (raw5.Lost.length : Int))))))) rfl (or_f h24)).weaken _ ⟨rfl, rfl, rfl, rfl, rfl, rfl, rfl, trivial⟩⟩
 rintro a w1 ⟨h10495, hs⟩
 subst h10495
 refine nl ?_
 refine wp_cond_split (hs.ev rfl) (fun h33 => ?_) (fun h33 => ?_)
 ·have hsh := ite_t hsh h33
  refine sr ?_
  obtain ⟨rv35, h34, hsh⟩ := bind_t hsh
  refine st_callR hs (law11_sane_ok h34 hw.bdom) (do_call Try.call8 rfl) trivial rfl rfl ?_
  intro v39 Sv36 w a h37 h38 hs
  subst h38
  have hw := hw.callB h37
  refine av hs rfl rfl fun a hs => ?_
  refine nl ?_
  have hsh := oi hsh
  subst hsh
  refine wp_ret ?_
  refine then_ret ?_
  exact ret1 hs rfl (rv_tmp rfl) (hw.ret rfl)
 have hsh := ite_f hsh h33
 refine wp_skip ?_
 refine then_normal ?_
 refine sr ?_
 refine mv hs rfl rfl fun a hs => ?_
 obtain ⟨rv42, h41, hsh⟩ := bind_t hsh
 refine st_callR hs (made_Roll_ok h41 hw.dom (hw.envAt 2 rfl)) (do_call Try.call9 rfl) trivial rfl rfl ?_
 intro v50 Sv47 w a h48 h49 hs
 obtain ⟨b43, p44, k45, rfl, h51, h46⟩ := h49
 have hw := hw.callN h48 h51
 have hw := hw.addE (e := SlA p44 rv42.L.length k45 rv42.L) h46
 refine av hs rfl rfl fun a hs => ?_
 refine nl ?_
 refine sr ?_
 refine mv hs rfl rfl fun a hs => ?_
 obtain ⟨rv53, h52, hsh⟩ := bind_t hsh
 refine st_callR hs (made_Dice_Receiver_ok h52 hw.dom (hw.ins [0] (by decide) rfl) (hw.envAt 0 rfl)) (do_call Try.call16 rfl) trivial rfl rfl ?_
 intro v66 Sv63 w a h64 h65 hs
 obtain ⟨p54, k55, p57, k58, p60, k61, rfl, h67, h56, h59, h62⟩ := h65
 have hw := hw.callO [0] [1] (by decide) rfl h64 h67
 have hw := hw.addE (e := SlA p54 rv53.1.Got.length k55 rv53.1.Got) h56
 have hw := hw.addE (e := SlA p57 rv53.1.Lost.length k58 rv53.1.Lost) h59
 have hw := hw.addE (e := SlA p60 rv53.2.L.length k61 rv53.2.L) h62
 refine w_alloc (cs := [.slice none ([] : List Span).length 0, .slice none ([] : List Span).length 0]) hs hw Try.zeroValue29 rfl rfl trivial ?_
 intro b68 a w hs hw
 refine w_store (m := 2) (cs' := [.slice p54 rv53.1.Got.length k55, .slice p57 rv53.1.Lost.length k58]) hs hw 0 rfl rfl rfl Try.sizeOf29 rfl rfl rfl rfl trivial ?_
 intro a w hs hw
 refine nl ?_
 refine wp_seq ?_
 obtain ⟨l70, h69, hsh⟩ := bind_t hsh
 obtain ⟨l75, h74, hsh⟩ := bind_t hsh
 obtain ⟨rv80, h79, hsh⟩ := bind_t hsh
 obtain ⟨rv85, h84, hsh⟩ := bind_t hsh
 obtain ⟨l92, h91, hsh⟩ := bind_t hsh
 refine wp_only (fun a w => ∃ (Sv97 : Nat → Prop) (b96 : Nat) (c73 : List Value) (c95 : List Value) (k72 : Nat) (k87 : Nat) (k94 : Nat) (p71 : Option Addr) (p86 : Option Addr) (p93 : Option Addr), Sl 238 [(2, .int .i64 seq12), (3, .int .i64 below13), (4, .int .i64 next14), (5, .int .i64 most15), (7, .pointer (some ⟨b16, 0, none⟩)), (13, .pointer (some ⟨b43, 0, none⟩)), (14, .pointer (some ⟨b68, 0, none⟩)), (15, .pointer (some ⟨b96, 0, none⟩))] a ∧ Wd ⟨w0, S0, []⟩ Sv97 [.box b16 [.slice p6 raw5.Got.length k7, .slice p8 raw5.Lost.length k9] 29, .box b43 [.slice p86 rv85.2.L.length k87, .int .i64 rv85.2.At] 57, .box b68 [.slice p54 rv53.1.Got.length k55, .slice p57 rv53.1.Lost.length k58] 29, .box b96 [.slice p71 l70.length k72, .slice p93 l92.length k94] 29, .row p71 l70.length k72 c73 46 2, .row p93 l92.length k94 c95 46 2] [SlA p6 raw5.Got.length k7 raw5.Got, SlA p8 raw5.Lost.length k9 raw5.Lost, SlA p86 rv85.2.L.length k87 rv85.2.L, SlA p54 rv53.1.Got.length k55 rv53.1.Got, SlA p57 rv53.1.Lost.length k58 rv53.1.Lost, RowA c73 l70, RowA c95 l92] w) ?_ ?_
 ·refine wp_region_phi (n := 16) (Φ := fun l a w => ∃ (b90 : Nat) (b96 : Nat) (c73 : List Value) (c78 : List Value) (c95 : List Value) (k72 : Nat) (k77 : Nat) (k82 : Nat) (k87 : Nat) (k94 : Nat) (p71 : Option Addr) (p76 : Option Addr) (p81 : Option Addr) (p86 : Option Addr) (p93 : Option Addr) (S : Nat → Prop), SlF 238 (D5t1 b16 b43 b68 below13 most15 next14 seq12) (D5t2 b43 b68 b90 b96 k55 k58 k72 k77 k94 l70 l75 l92 p54 p57 p71 p76 p93 rv53 rv80 rv85) l a ∧ Wd ⟨w0, S0, []⟩ S [.box b68 [.slice p54 rv53.1.Got.length k55, .slice p57 rv53.1.Lost.length k58] 29, ((bif l 9 then .box b43 [.slice p86 rv85.2.L.length k87, .int .i64 rv85.2.At] 57 else (bif l 7 then .box b43 [.slice p81 rv80.2.L.length k82, .int .i64 rv80.2.At] 57 else .box b43 [.slice p60 rv53.2.L.length k61, .int .i64 rv53.2.At] 57)) : Res), .box b16 [.slice p6 raw5.Got.length k7, .slice p8 raw5.Lost.length k9] 29, ((bif l 2 then .row p71 l70.length k72 c73 46 2 else emp) : Res), ((bif l 12 then .row p93 l92.length k94 c95 46 2 else (bif l 5 then .row p76 l75.length k77 c78 46 2 else emp)) : Res), ((bif l 11 then .row (some ⟨b90, 0, none⟩) ([(⟨rv80.1, rv85.1⟩ : Span)] : List Span).length ([(⟨rv80.1, rv85.1⟩ : Span)] : List Span).length [.int .i64 rv80.1, .int .i64 rv85.1] 46 2 else emp) : Res), ((bif l 15 then .box b96 [.slice p71 l70.length k72, .slice p93 l92.length k94] 29 else (bif l 14 then .box b96 [.slice none ([] : List Span).length 0, .slice none ([] : List Span).length 0] 29 else emp)) : Res)] [SlA p60 rv53.2.L.length k61 rv53.2.L, SlA p57 rv53.1.Lost.length k58 rv53.1.Lost, SlA p54 rv53.1.Got.length k55 rv53.1.Got, SlA p44 rv42.L.length k45 rv42.L, SlA p8 raw5.Lost.length k9 raw5.Lost, SlA p6 raw5.Got.length k7 raw5.Got, SlA p2 t1.length k3 t1, optA (l 2) (RowA [] ([] : List Span)), optA (l 2) (RowA c73 l70), optA (l 5) (RowA c78 l75), optA (l 7) (SlA p81 rv80.2.L.length k82 rv80.2.L), optA (l 9) (SlA p86 rv85.2.L.length k87 rv85.2.L), optA (l 11) (RowA [.int .i64 rv80.1, .int .i64 rv85.1] ([(⟨rv80.1, rv85.1⟩ : Span)] : List Span)), optA (l 12) (RowA c95 l92)] w) [1, 2, 3, 1, 2, 4, 1, 5, 1, 6, 7, 8, 9, 10, 1, 11] (by kernel_rfl) rfl (by kernel_rfl) ?_ (AllS.succ (AllS.succ (AllS.succ (AllS.succ (AllS.succ (AllS.succ (AllS.succ (AllS.succ (AllS.succ (AllS.succ (AllS.succ (AllS.succ (AllS.succ (AllS.succ (AllS.succ (AllS.succ AllS.zero ?_) ?_) ?_) ?_) ?_) ?_) ?_) ?_) ?_) ?_) ?_) ?_) ?_) ?_) ?_) ?_) ?_
  ·obtain ⟨b90, b96, c73, c78, c95, k72, k77, k82, k87, k94, p71, p76, p81, p86, p93, _⟩ : ∃ (b90 : Nat) (b96 : Nat) (c73 : List Value) (c78 : List Value) (c95 : List Value) (k72 : Nat) (k77 : Nat) (k82 : Nat) (k87 : Nat) (k94 : Nat) (p71 : Option Addr) (p76 : Option Addr) (p81 : Option Addr) (p86 : Option Addr) (p93 : Option Addr), True := ⟨0, 0, [], [], [], 0, 0, 0, 0, 0, none, none, none, none, none, trivial⟩
   have hw := hw.drew
   have hw := hw.emp
   have hw := hw.emp
   have hw := hw.emp
   have hw := hw.emp
   have hw := hw.noE (RowA c95 l92)
   have hw := hw.noE (RowA [.int .i64 rv80.1, .int .i64 rv85.1] ([(⟨rv80.1, rv85.1⟩ : Span)] : List Span))
   have hw := hw.noE (SlA p86 rv85.2.L.length k87 rv85.2.L)
   have hw := hw.noE (SlA p81 rv80.2.L.length k82 rv80.2.L)
   have hw := hw.noE (RowA c78 l75)
   have hw := hw.noE (RowA c73 l70)
   have hw := hw.noE (RowA [] ([] : List Span))
   exact ⟨b90, b96, c73, c78, c95, k72, k77, k82, k87, k94, p71, p76, p81, p86, p93, Sv63, SlF.init (hs.wk rfl) (by kernel_rfl), hw.ft [4, 5, 6, 0, 1, 2, 3] [7, 8, 9, 10, 11, 12, 13, 0, 1, 2, 3, 4, 5, 6] (by decide) rfl rfl⟩
  ·intro l hi hp hc a w ⟨b90, b96, c73, c78, c95, k72, k77, k82, k87, k94, p71, p76, p81, p86, p93, S, hS, hw⟩
   refine S_val hS (.b (t := 14) rfl .nil) rfl rfl trivial (y_fieldAddr (o' := 0) Try.runUnderlying29 rfl Try.sizeOf27 rfl rfl rfl) (rfl) 0 rfl fun a hS => ⟨b90, b96, c73, c78, c95, k72, k77, k82, k87, k94, p71, p76, p81, p86, p93, S, hS, hw⟩
  ·intro l hi hp hc a w ⟨b90, b96, c73, c78, c95, k72, k77, k82, k87, k94, p71, p76, p81, p86, p93, S, hS, hw⟩
   have h_0 := hp 0 rfl
   refine S_val hS (.v (t := 60) 0 rfl h_0 .nil) rfl rfl trivial (y_loadB1 (hw.ownAt 0 rfl) rfl Try.isAgg27 rfl) (rfl) 1 rfl fun a hS => ⟨b90, b96, c73, c78, c95, k72, k77, k82, k87, k94, p71, p76, p81, p86, p93, S, hS, hw⟩
  ·intro l hi hp hc a w ⟨b90, b96, c73, c78, c95, k72, k77, k82, k87, k94, p71, p76, p81, p86, p93, S, hS, hw⟩
   have h_1 := hp 1 rfl
   refine S_eff rfl ?_
   have hs := hS.open_ (.v (t := 61) 1 rfl h_1 .nil)
   have hw := hw.nilRow Span 46
   refine w_appendE (α := Span) hs hw El27 0 rfl rfl rfl 0 rfl 3 rfl h69 rfl trivial ?_
   intro p71 k72 c73 a w hs hw
   have h_13 := l_neg hc 13 hi rfl
   have h_15 := l_neg hc 15 h_13 rfl
   have hw := hw.fixR 7 (r' := (bif l 14 then .box b96 [.slice none ([] : List Span).length 0, .slice none ([] : List Span).length 0] 29 else emp)) rfl ((bF h_15))
   have hw := hw.fixR 7 (r' := (bif l 15 then .box b96 [.slice p71 l70.length k72, .slice p93 l92.length k94] 29 else (bif l 14 then .box b96 [.slice none ([] : List Span).length 0, .slice none ([] : List Span).length 0] 29 else emp))) rfl ((bF h_15)).symm
   have hw := hw.opt 1 rfl true
   have hw := hw.opt 1 rfl true
   refine nl ?_
   exact ⟨b90, b96, c73, c78, c95, k72, k77, k82, k87, k94, p71, p76, p81, p86, p93, S, hS.close (.v (t := 61) 1 rfl h_1 .nil) hs rfl (.same (.same (.here (.same (.same (.same (.same (.same (.same (.same (.same (.same (.same (.neg h_13 rfl (.same .nil))))))))))))))) 2 rfl, hw.ft [1, 2, 3, 0, 5, 6, 7] [4, 5, 6, 7, 8, 9, 10, 1, 0, 13, 14, 15, 16, 17] (by decide) rfl rfl⟩
  ·intro l hi hp hc a w ⟨b90, b96, c73, c78, c95, k72, k77, k82, k87, k94, p71, p76, p81, p86, p93, S, hS, hw⟩
   refine S_val hS (.b (t := 14) rfl .nil) rfl rfl trivial (y_fieldAddr (o' := 1) Try.runUnderlying29 rfl Try.sizeOf27 rfl rfl rfl) (rfl) 3 rfl fun a hS => ⟨b90, b96, c73, c78, c95, k72, k77, k82, k87, k94, p71, p76, p81, p86, p93, S, hS, hw⟩
  ·intro l hi hp hc a w ⟨b90, b96, c73, c78, c95, k72, k77, k82, k87, k94, p71, p76, p81, p86, p93, S, hS, hw⟩
   have h_3 := hp 3 rfl
   refine S_val hS (.v (t := 63) 3 rfl h_3 .nil) rfl rfl trivial (y_loadB1 (hw.ownAt 0 rfl) rfl Try.isAgg27 rfl) (rfl) 4 rfl fun a hS => ⟨b90, b96, c73, c78, c95, k72, k77, k82, k87, k94, p71, p76, p81, p86, p93, S, hS, hw⟩
  ·intro l hi hp hc a w ⟨b90, b96, c73, c78, c95, k72, k77, k82, k87, k94, p71, p76, p81, p86, p93, S, hS, hw⟩
   have h_2 := hp 2 rfl
   have hw := hw.yes 7 rfl h_2
   have h_4 := hp 4 rfl
   refine S_eff rfl ?_
   have hs := hS.open_ (.v (t := 64) 4 rfl h_4 .nil)
   have hw := hw.nilRow Span 46
   refine w_appendE (α := Span) hs hw El27 0 rfl rfl rfl 0 rfl 3 rfl h74 rfl trivial ?_
   intro p76 k77 c78 a w hs hw
   have h_12 := l_neg hc 12 hi rfl
   have hw := hw.fixR 0 (r' := (bif l 12 then .row p93 l92.length k94 c95 46 2 else .row p76 l75.length k77 c78 46 2)) rfl ((bF h_12)).symm
   have hw := hw.opt 0 rfl true
   refine nl ?_
   exact ⟨b90, b96, c73, c78, c95, k72, k77, k82, k87, k94, p71, p76, p81, p86, p93, S, hS.close (.v (t := 64) 4 rfl h_4 .nil) hs rfl (.same (.same (.same (.same (.same (.here (.same (.same (.same (.same (.same (.same (.same (.same (.same .nil))))))))))))))) 5 rfl, hw.ft [1, 2, 3, 4, 0, 6, 7] [4, 5, 6, 7, 8, 9, 10, 11, 12, 0, 14, 15, 16, 17] (by decide) rfl rfl⟩
  ·intro l hi hp hc a w ⟨b90, b96, c73, c78, c95, k72, k77, k82, k87, k94, p71, p76, p81, p86, p93, S, hS, hw⟩
   refine S_val hS (.b (t := 13) rfl .nil) rfl rfl trivial (y_move rfl) (rfl) 6 rfl fun a hS => ⟨b90, b96, c73, c78, c95, k72, k77, k82, k87, k94, p71, p76, p81, p86, p93, S, hS, hw⟩
  ·intro l hi hp hc a w ⟨b90, b96, c73, c78, c95, k72, k77, k82, k87, k94, p71, p76, p81, p86, p93, S, hS, hw⟩
   have h_9 := l_neg hc 9 hi rfl
   have hw := hw.fixR 1 (r' := .box b43 [.slice p60 rv53.2.L.length k61, .int .i64 rv53.2.At] 57) rfl ((bF h_9).trans ((bF hi)))
   have h_6 := hp 6 rfl
   refine S_eff rfl ?_
   have hs := hS.open_ (.v (t := 66) 6 rfl h_6 .nil)
   refine st_callR hs (made_Dice_Next_ok h79 hw.dom (hw.ins [1] (by decide) rfl) (hw.envAt 0 rfl)) (do_call Try.call11 rfl) trivial rfl rfl ?_
   intro v116 Sv113 w a h114 h115 hs
   obtain ⟨p81, k82, rfl, h117, h83⟩ := h115
   have hw := hw.callO [1] [0, 2, 3, 4, 5, 6] (by decide) rfl h114 h117
   have hw := hw.addE (e := SlA p81 rv80.2.L.length k82 rv80.2.L) h83
   have hw := hw.fixR 0 (r' := (bif l 9 then .box b43 [.slice p86 rv85.2.L.length k87, .int .i64 rv85.2.At] 57 else .box b43 [.slice p81 rv80.2.L.length k82, .int .i64 rv80.2.At] 57)) rfl ((bF h_9)).symm
   have hw := hw.opt 0 rfl true
   refine nl ?_
   exact ⟨b90, b96, c73, c78, c95, k72, k77, k82, k87, k94, p71, p76, p81, p86, p93, Sv113, hS.close (.v (t := 66) 6 rfl h_6 .nil) hs rfl (.same (.same (.same (.same (.same (.same (.same (.here (.same (.same (.same (.same (.same (.same (.same .nil))))))))))))))) 7 rfl, hw.ft [1, 0, 2, 3, 4, 5, 6] [2, 3, 4, 5, 6, 7, 8, 9, 10, 11, 0, 13, 14, 15] (by decide) rfl rfl⟩
  ·intro l hi hp hc a w ⟨b90, b96, c73, c78, c95, k72, k77, k82, k87, k94, p71, p76, p81, p86, p93, S, hS, hw⟩
   refine S_val hS (.b (t := 13) rfl .nil) rfl rfl trivial (y_move rfl) (rfl) 8 rfl fun a hS => ⟨b90, b96, c73, c78, c95, k72, k77, k82, k87, k94, p71, p76, p81, p86, p93, S, hS, hw⟩
  ·intro l hi hp hc a w ⟨b90, b96, c73, c78, c95, k72, k77, k82, k87, k94, p71, p76, p81, p86, p93, S, hS, hw⟩
   have h_7 := hp 7 rfl
   have hw := hw.fixR 1 (r' := .box b43 [.slice p81 rv80.2.L.length k82, .int .i64 rv80.2.At] 57) rfl ((bF hi).trans ((bT h_7)))
   have hw := hw.yes 10 rfl h_7
   have h_8 := hp 8 rfl
   refine S_eff rfl ?_
   have hs := hS.open_ (.v (t := 68) 8 rfl h_8 .nil)
   refine st_callR hs (made_Dice_Next_ok h84 hw.dom (hw.ins [1] (by decide) rfl) (hw.envAt 0 rfl)) (do_call Try.call11 rfl) trivial rfl rfl ?_
   intro v126 Sv123 w a h124 h125 hs
   obtain ⟨p86, k87, rfl, h127, h88⟩ := h125
   have hw := hw.callO [1] [0, 2, 3, 4, 5, 6] (by decide) rfl h124 h127
   have hw := hw.addE (e := SlA p86 rv85.2.L.length k87 rv85.2.L) h88
   have hw := hw.opt 0 rfl true
   refine nl ?_
   exact ⟨b90, b96, c73, c78, c95, k72, k77, k82, k87, k94, p71, p76, p81, p86, p93, Sv123, hS.close (.v (t := 68) 8 rfl h_8 .nil) hs rfl (.same (.same (.same (.same (.same (.same (.same (.same (.same (.here (.same (.same (.same (.same (.same .nil))))))))))))))) 9 rfl, hw.ft [1, 0, 2, 3, 4, 5, 6] [3, 4, 5, 6, 7, 8, 9, 10, 11, 12, 13, 0, 15, 16] (by decide) rfl rfl⟩
  ·intro l hi hp hc a w ⟨b90, b96, c73, c78, c95, k72, k77, k82, k87, k94, p71, p76, p81, p86, p93, S, hS, hw⟩
   have h_9 := hp 9 rfl
   have h_7 := hp 7 rfl
   refine S_val hS (.v (t := 67) 7 rfl h_7 (.v (t := 69) 9 rfl h_9 .nil)) rfl rfl trivial (y_build (vs := [(0, .int .i64 rv80.1), (1, .int .i64 rv85.1)]) Bld46 rfl rfl) (rfl) 10 rfl fun a hS => ⟨b90, b96, c73, c78, c95, k72, k77, k82, k87, k94, p71, p76, p81, p86, p93, S, hS, hw⟩
  ·intro l hi hp hc a w ⟨b90, b96, c73, c78, c95, k72, k77, k82, k87, k94, p71, p76, p81, p86, p93, S, hS, hw⟩
   have h_10 := hp 10 rfl
   refine S_eff rfl ?_
   have hs := hS.open_ (.v (t := 70) 10 rfl h_10 .nil)
   refine w_litSlice (α := Span) (vs := [.agg #[.int .i64 rv80.1, .int .i64 rv85.1]]) (cs := [.int .i64 rv80.1, .int .i64 rv85.1]) (xs := ([(⟨rv80.1, rv85.1⟩ : Span)] : List Span)) hs hw El27 rfl rfl rfl rfl rfl rfl ⟨⟨_, _, rfl, rfl, rfl⟩, rfl⟩ rfl trivial rfl fun b90 a w hs hw => ?_
   have hw := hw.opt 0 rfl true
   refine nl ?_
   exact ⟨b90, b96, c73, c78, c95, k72, k77, k82, k87, k94, p71, p76, p81, p86, p93, S, hS.close (.v (t := 70) 10 rfl h_10 .nil) hs rfl (.same (.same (.same (.same (.same (.same (.same (.same (.same (.same (.same (.here (.same (.same (.same .nil))))))))))))))) 11 rfl, hw.ft [1, 2, 3, 4, 5, 0, 7] [2, 3, 4, 5, 6, 7, 8, 9, 10, 11, 12, 13, 0, 15] (by decide) rfl rfl⟩
  ·intro l hi hp hc a w ⟨b90, b96, c73, c78, c95, k72, k77, k82, k87, k94, p71, p76, p81, p86, p93, S, hS, hw⟩
   have h_5 := hp 5 rfl
   have hw := hw.fixR 4 (r' := .row p76 l75.length k77 c78 46 2) rfl ((bF hi).trans ((bT h_5)))
   have h_11 := hp 11 rfl
   have hw := hw.fixR 5 (r' := .row (some ⟨b90, 0, none⟩) ([(⟨rv80.1, rv85.1⟩ : Span)] : List Span).length ([(⟨rv80.1, rv85.1⟩ : Span)] : List Span).length [.int .i64 rv80.1, .int .i64 rv85.1] 46 2) rfl ((bT h_11))
   have hw := hw.yes 9 rfl h_5
   have hw := hw.yes 13 rfl h_11
   refine S_eff rfl ?_
   have hs := hS.open_ (.v (t := 65) 5 rfl h_5 (.v (t := 71) 11 rfl h_11 .nil))
   refine w_appendR (α := Span) hs hw El27 4 rfl rfl rfl 1 rfl 5 rfl 0 rfl h91 rfl trivial ?_
   intro p93 k94 c95 a w hs hw
   have h_13 := l_neg hc 13 hi rfl
   have hw := hw.fixR 5 (r' := (bif l 11 then .row (some ⟨b90, 0, none⟩) ([(⟨rv80.1, rv85.1⟩ : Span)] : List Span).length ([(⟨rv80.1, rv85.1⟩ : Span)] : List Span).length [.int .i64 rv80.1, .int .i64 rv85.1] 46 2 else emp)) rfl ((bT h_11)).symm
   have h_15 := l_neg hc 15 h_13 rfl
   have hw := hw.fixR 6 (r' := (bif l 14 then .box b96 [.slice none ([] : List Span).length 0, .slice none ([] : List Span).length 0] 29 else emp)) rfl ((bF h_15))
   have hw := hw.fixR 6 (r' := (bif l 15 then .box b96 [.slice p71 l70.length k72, .slice p93 l92.length k94] 29 else (bif l 14 then .box b96 [.slice none ([] : List Span).length 0, .slice none ([] : List Span).length 0] 29 else emp))) rfl ((bF h_15)).symm
   have hw := hw.opt 0 rfl true
   refine nl ?_
   exact ⟨b90, b96, c73, c78, c95, k72, k77, k82, k87, k94, p71, p76, p81, p86, p93, S, hS.close (.v (t := 65) 5 rfl h_5 (.v (t := 71) 11 rfl h_11 .nil)) hs rfl (.same (.same (.same (.same (.same (.same (.same (.same (.same (.same (.same (.same (.here (.neg h_13 rfl (.same .nil))))))))))))))) 12 rfl, hw.ft [0, 1, 2, 3, 4, 5, 6] [4, 5, 6, 7, 8, 9, 10, 11, 12, 13, 14, 15, 16, 0] (by decide) rfl rfl⟩
  ·intro l hi hp hc a w ⟨b90, b96, c73, c78, c95, k72, k77, k82, k87, k94, p71, p76, p81, p86, p93, S, hS, hw⟩
   have h_12 := hp 12 rfl
   have h_2 := hp 2 rfl
   refine S_val hS (.v (t := 62) 2 rfl h_2 (.v (t := 72) 12 rfl h_12 .nil)) rfl rfl trivial (y_build (vs := [(0, .slice p71 l70.length k72), (1, .slice p93 l92.length k94)]) Bld29 rfl rfl) (rfl) 13 rfl fun a hS => ⟨b90, b96, c73, c78, c95, k72, k77, k82, k87, k94, p71, p76, p81, p86, p93, S, hS, hw⟩
  ·intro l hi hp hc a w ⟨b90, b96, c73, c78, c95, k72, k77, k82, k87, k94, p71, p76, p81, p86, p93, S, hS, hw⟩
   refine S_eff rfl ?_
   have hs := hS.open_ .nil
   refine w_alloc (cs := [.slice none ([] : List Span).length 0, .slice none ([] : List Span).length 0]) hs hw Try.zeroValue29 rfl rfl trivial ?_
   intro b96 a w hs hw
   have h_15 := l_neg hc 15 hi rfl
   have hw := hw.fixR 0 (r' := (bif l 15 then .box b96 [.slice p71 l70.length k72, .slice p93 l92.length k94] 29 else .box b96 [.slice none ([] : List Span).length 0, .slice none ([] : List Span).length 0] 29)) rfl ((bF h_15)).symm
   refine nl ?_
   exact ⟨b90, b96, c73, c78, c95, k72, k77, k82, k87, k94, p71, p76, p81, p86, p93, S, hS.close .nil hs rfl (.same (.same (.same (.same (.same (.same (.same (.same (.same (.same (.same (.same (.same (.same (.here .nil))))))))))))))) 14 rfl, hw.ft [1, 2, 3, 4, 5, 6, 0] [0, 1, 2, 3, 4, 5, 6, 7, 8, 9, 10, 11, 12, 13] (by decide) rfl rfl⟩
  ·intro l hi hp hc a w ⟨b90, b96, c73, c78, c95, k72, k77, k82, k87, k94, p71, p76, p81, p86, p93, S, hS, hw⟩
   have h_14 := hp 14 rfl
   have hw := hw.fixR 6 (r' := .box b96 [.slice none ([] : List Span).length 0, .slice none ([] : List Span).length 0] 29) rfl ((bF hi).trans ((bT h_14)))
   have h_13 := hp 13 rfl
   refine S_eff rfl ?_
   have hs := hS.open_ (.v (t := 15) 14 rfl h_14 (.v (t := 73) 13 rfl h_13 .nil))
   refine w_store (m := 2) (cs' := [.slice p71 l70.length k72, .slice p93 l92.length k94]) hs hw 6 rfl rfl rfl Try.sizeOf29 rfl rfl rfl rfl trivial ?_
   intro a w hs hw
   refine nl ?_
   exact ⟨b90, b96, c73, c78, c95, k72, k77, k82, k87, k94, p71, p76, p81, p86, p93, S, hS.close0 (.v (t := 15) 14 rfl h_14 (.v (t := 73) 13 rfl h_13 .nil)) hs rfl, hw.ft [0, 1, 2, 3, 4, 5, 6] [0, 1, 2, 3, 4, 5, 6, 7, 8, 9, 10, 11, 12, 13] (by decide) rfl rfl⟩
  intro l a w hl ⟨b90, b96, c73, c78, c95, k72, k77, k82, k87, k94, p71, p76, p81, p86, p93, S, hS, hw⟩
  have hw := hw.yes 8 rfl (hl 2 (by decide))
  have hw := hw.yes 12 rfl (hl 9 (by decide))
  have hw := hw.yes 15 rfl (hl 12 (by decide))
  have hw := hw.fixR 1 (r' := .box b43 [.slice p86 rv85.2.L.length k87, .int .i64 rv85.2.At] 57) rfl (bT (hl 9 (by decide)))
  have hw := hw.fixR 6 (r' := .box b96 [.slice p71 l70.length k72, .slice p93 l92.length k94] 29) rfl (bT (hl 15 (by decide)))
  have hw := hw.fixR 3 (r' := .row p71 l70.length k72 c73 46 2) rfl (bT (hl 2 (by decide)))
  have hw := hw.fixR 4 (r' := .row p93 l92.length k94 c95 46 2) rfl (bT (hl 12 (by decide)))
  have hs := hS.on (.b (t := 2) rfl (.b (t := 3) rfl (.b (t := 4) rfl (.b (t := 5) rfl (.b (t := 7) rfl (.b (t := 13) rfl (.b (t := 14) rfl (.v (t := 15) 14 rfl (hl 14 (by decide)) .nil))))))))
  exact ⟨S, b96, c73, c95, k72, k87, k94, p71, p86, p93, (hs.wk rfl), (hw.ft [2, 1, 0, 6, 3, 4] [8, 7, 1, 5, 4, 2, 0] (by decide) rfl rfl)⟩
 rintro a w ⟨Sv97, b96, c73, c95, k72, k87, k94, p71, p86, p93, hs, hw⟩
 refine then_normal ?_
 refine wp_seq ?_
 refine sr ?_
 refine sv hs (y_loadBA (hw.ownAt 2 rfl) rfl Try.isAgg29 Try.sizeOf29 rfl rfl) rfl fun a hs => ?_
 refine sv hs (y_loadBA (hw.ownAt 3 rfl) rfl Try.isAgg29 Try.sizeOf29 rfl rfl) rfl fun a hs => ?_
 refine sv hs (y_loadBA (hw.ownAt 0 rfl) rfl Try.isAgg29 Try.sizeOf29 rfl rfl) rfl fun a hs => ?_
 obtain ⟨Sv130, hw⟩ := w_share (α := Span) hw 4 rfl 5 rfl
 obtain ⟨Sv131, hw⟩ := w_share (α := Span) hw 4 rfl 7 rfl
 refine w_litSlice (α := Receiver) (vs := [.agg #[.slice p54 rv53.1.Got.length k55, .slice p57 rv53.1.Lost.length k58], .agg #[.slice p71 l70.length k72, .slice p93 l92.length k94], .agg #[.slice p6 raw5.Got.length k7, .slice p8 raw5.Lost.length k9]]) (cs := [.slice p54 rv53.1.Got.length k55, .slice p57 rv53.1.Lost.length k58, .slice p71 l70.length k72, .slice p93 l92.length k94, .slice p6 raw5.Got.length k7, .slice p8 raw5.Lost.length k9]) (xs := ([rv53.1, (⟨l70, l92⟩ : Receiver), raw5] : List Receiver)) hs hw El47 rfl rfl rfl rfl rfl rfl ⟨⟨_, _, rfl, ⟨_, _, _, rfl, hw.envAt 5 rfl⟩, ⟨_, _, _, rfl, hw.envAt 6 rfl⟩⟩, ⟨⟨_, _, rfl, ⟨_, _, _, rfl, hw.envAt 1 rfl⟩, ⟨_, _, _, rfl, hw.envAt 0 rfl⟩⟩, ⟨⟨_, _, rfl, ⟨_, _, _, rfl, hw.envAt 2 rfl⟩, ⟨_, _, _, rfl, hw.envAt 3 rfl⟩⟩, rfl⟩⟩⟩ rfl trivial rfl fun b129 a w hs hw => ?_
 refine sv hs (y_len Try.runUnderlying47 rfl) rfl fun a hs => ?_
 refine mv hs rfl rfl fun a hs => ?_
 refine nl ?_
 refine wp_block ?_
 refine wp_while (fun sv3258 a w => ∃ (p5340 : Option Addr) (k5341 : Nat) (Sv5342 : Nat → Prop), Sl 238 [(2, .int .i64 seq12), (3, .int .i64 below13), (4, .int .i64 next14), (5, .int .i64 most15), (13, .pointer (some ⟨b43, 0, none⟩)), (77, .slice (some ⟨b129, 0, none⟩) ([rv53.1, (⟨l70, l92⟩ : Receiver), raw5] : List Receiver).length ([rv53.1, (⟨l70, l92⟩ : Receiver), raw5] : List Receiver).length), (78, .int .i64 (([rv53.1, (⟨l70, l92⟩ : Receiver), raw5] : List Receiver).length : Int)), (79, .int .i64 sv3258.2.2)] a ∧ Wd ⟨w0, S0, []⟩ Sv5342 [.box b43 [.slice p5340 sv3258.1.length k5341, .int .i64 sv3258.2.1] 57, .row (some ⟨b129, 0, none⟩) ([rv53.1, (⟨l70, l92⟩ : Receiver), raw5] : List Receiver).length ([rv53.1, (⟨l70, l92⟩ : Receiver), raw5] : List Receiver).length [.slice p54 rv53.1.Got.length k55, .slice p57 rv53.1.Lost.length k58, .slice p71 l70.length k72, .slice p93 l92.length k94, .slice p6 raw5.Got.length k7, .slice p8 raw5.Lost.length k9] 29 2] [SlA p5340 sv3258.1.length k5341 sv3258.1, RowA [.slice p54 rv53.1.Got.length k55, .slice p57 rv53.1.Lost.length k58, .slice p71 l70.length k72, .slice p93 l92.length k94, .slice p6 raw5.Got.length k7, .slice p8 raw5.Lost.length k9] ([rv53.1, (⟨l70, l92⟩ : Receiver), raw5] : List Receiver)] w) (rv85.2.L, rv85.2.At, 0) hsh ⟨p86, k87, Sv131, (hs.wk rfl), (hw.ft [2, 0] [5, 0] (by decide) rfl rfl)⟩ ?_
 repeat clear hsh
 rintro sv3258 a w tv6383 ⟨p5340, k5341, Sv5342, hs, hw⟩ hsh hd6382
 delta law11_ReceiverExact_l27 at hsh
 refine sr ?_
 refine sv hs (y_lss rfl rfl) rfl fun a hs => ?_
 refine nl ?_
 refine wp_seq ?_
 refine wp_cond_split (hs.ev rfl) (fun h6387 => ?_) (fun h6387 => ?_)
 ·have hsh := ite_t hsh h6387
  refine wp_skip ?_
  refine then_normal ?_
  refine wp_seq ?_
  refine wp_block ?_
  refine sr ?_
  obtain ⟨x7428, h7426, hsh⟩ := bind_t hsh
  obtain ⟨q7432, c7433, h7429, h7430, h7434, h7427⟩ := hw.elemRK (α := Receiver) 1 rfl 1 rfl h7426
  obtain ⟨_, _, rfl, ⟨p7435, n7436, k7437, rfl, h7438⟩, ⟨p7439, n7440, k7441, rfl, h7442⟩⟩ := h7427
  obtain rfl := h7438.1
  have hw := hw.addE (e := SlA p7435 _ k7437 x7428.Got) h7438
  obtain rfl := h7442.1
  have hw := hw.addE (e := SlA p7439 _ k7441 x7428.Lost) h7442
  refine sv hs (y_indexAt Try.runUnderlying47 Try.sizeOf29 rfl rfl h7429.1 h7429.2 h7430) rfl fun a hs => ?_
  refine sv hs (y_loadQA (j := 0) (hw.ownAt 1 rfl) rfl Try.isAgg29 Try.sizeOf29 h7434 rfl rfl) rfl fun a hs => ?_
  refine w_alloc (cs := [.slice none ([] : List Span).length 0, .slice none ([] : List Span).length 0]) hs hw Try.zeroValue29 rfl rfl trivial ?_
  intro b7443 a w hs hw
  refine w_store (m := 2) (cs' := [.slice p7435 x7428.Got.length k7437, .slice p7439 x7428.Lost.length k7441]) hs hw 0 rfl rfl rfl Try.sizeOf29 rfl rfl rfl rfl trivial ?_
  intro a w hs hw
  refine nl ?_
  refine wp_seq ?_
  refine sr ?_
  refine mv hs rfl rfl fun a hs => ?_
  refine mv hs rfl rfl fun a hs => ?_
  refine mv hs rfl rfl fun a hs => ?_
  obtain ⟨rv7445, h7444, hsh⟩ := bind_t hsh
  refine st_callR hs (made_Dice_Next_ok h7444 hw.dom (hw.ins [1] (by decide) rfl) (hw.envAt 2 rfl)) (do_call Try.call11 rfl) trivial rfl rfl ?_
  intro v7452 Sv7449 w a h7450 h7451 hs
  obtain ⟨p7446, k7447, rfl, h7453, h7448⟩ := h7451
  have hw := hw.callO [1] [0, 2] (by decide) rfl h7450 h7453
  have hw := hw.addE (e := SlA p7446 rv7445.2.L.length k7447 rv7445.2.L) h7448
  refine sv hs (y_sub rfl rfl) rfl fun a hs => ?_
  refine w_litSlice (α := Int) (vs := [.int .i64 seq12, .int .i64 below13, .int .i64 (w64 (rv7445.1 - 1)), .int .i64 1073741824, .int .i64 1073741825]) (cs := [.int .i64 seq12, .int .i64 below13, .int .i64 (w64 (rv7445.1 - 1)), .int .i64 1073741824, .int .i64 1073741825]) (xs := ([seq12, below13, (w64 (rv7445.1 - 1)), 1073741824, 1073741825] : List Int)) hs hw El22 rfl rfl rfl rfl rfl rfl ⟨⟨_, rfl, rfl⟩, ⟨⟨_, rfl, rfl⟩, ⟨⟨_, rfl, rfl⟩, ⟨⟨_, rfl, rfl⟩, ⟨⟨_, rfl, rfl⟩, rfl⟩⟩⟩⟩⟩ rfl trivial rfl fun b7455 a w hs hw => ?_
  refine sv hs (y_len Try.runUnderlying22 rfl) rfl fun a hs => ?_
  refine mv hs rfl rfl fun a hs => ?_
  refine nl ?_
  refine wp_block ?_
  refine wp_while (fun sv7776 a w => ∃ (Sv7988 : Nat → Prop), Sl 238 [(2, .int .i64 seq12), (3, .int .i64 below13), (4, .int .i64 next14), (5, .int .i64 most15), (13, .pointer (some ⟨b43, 0, none⟩)), (17, .pointer (some ⟨b7443, 0, none⟩)), (77, .slice (some ⟨b129, 0, none⟩) ([rv53.1, (⟨l70, l92⟩ : Receiver), raw5] : List Receiver).length ([rv53.1, (⟨l70, l92⟩ : Receiver), raw5] : List Receiver).length), (78, .int .i64 (([rv53.1, (⟨l70, l92⟩ : Receiver), raw5] : List Receiver).length : Int)), (79, .int .i64 sv3258.2.2), (88, .slice (some ⟨b7455, 0, none⟩) ([seq12, below13, (w64 (rv7445.1 - 1)), 1073741824, 1073741825] : List Int).length ([seq12, below13, (w64 (rv7445.1 - 1)), 1073741824, 1073741825] : List Int).length), (89, .int .i64 (([seq12, below13, (w64 (rv7445.1 - 1)), 1073741824, 1073741825] : List Int).length : Int)), (90, .int .i64 sv7776)] a ∧ Wd ⟨w0, S0, []⟩ Sv7988 [.box b43 [.slice p7446 rv7445.2.L.length k7447, .int .i64 rv7445.2.At] 57, .box b7443 [.slice p7435 x7428.Got.length k7437, .slice p7439 x7428.Lost.length k7441] 29, .row (some ⟨b129, 0, none⟩) ([rv53.1, (⟨l70, l92⟩ : Receiver), raw5] : List Receiver).length ([rv53.1, (⟨l70, l92⟩ : Receiver), raw5] : List Receiver).length [.slice p54 rv53.1.Got.length k55, .slice p57 rv53.1.Lost.length k58, .slice p71 l70.length k72, .slice p93 l92.length k94, .slice p6 raw5.Got.length k7, .slice p8 raw5.Lost.length k9] 29 2, .row (some ⟨b7455, 0, none⟩) ([seq12, below13, (w64 (rv7445.1 - 1)), 1073741824, 1073741825] : List Int).length ([seq12, below13, (w64 (rv7445.1 - 1)), 1073741824, 1073741825] : List Int).length [.int .i64 seq12, .int .i64 below13, .int .i64 (w64 (rv7445.1 - 1)), .int .i64 1073741824, .int .i64 1073741825] 3 1] [SlA p7446 rv7445.2.L.length k7447 rv7445.2.L, SlA p7435 x7428.Got.length k7437 x7428.Got, SlA p7439 x7428.Lost.length k7441 x7428.Lost, RowA [.slice p54 rv53.1.Got.length k55, .slice p57 rv53.1.Lost.length k58, .slice p71 l70.length k72, .slice p93 l92.length k94, .slice p6 raw5.Got.length k7, .slice p8 raw5.Lost.length k9] ([rv53.1, (⟨l70, l92⟩ : Receiver), raw5] : List Receiver), RowA [.int .i64 seq12, .int .i64 below13, .int .i64 (w64 (rv7445.1 - 1)), .int .i64 1073741824, .int .i64 1073741825] ([seq12, below13, (w64 (rv7445.1 - 1)), 1073741824, 1073741825] : List Int)] w) 0 hsh ⟨Sv7449, (hs.wk rfl), (hw.ft [1, 2, 3, 0] [1, 3, 2, 5, 0] (by decide) rfl rfl)⟩ ?_
  repeat clear hsh
  rintro sv7776 a w tv8095 ⟨Sv7988, hs, hw⟩ hsh hd8094
  delta law11_ReceiverExact_l39 at hsh
  refine sr ?_
  refine sv hs (y_lss rfl rfl) rfl fun a hs => ?_
  refine nl ?_
  refine wp_seq ?_
  refine wp_cond_split (hs.ev rfl) (fun h8099 => ?_) (fun h8099 => ?_)
  ·have hsh := ite_t hsh h8099
   refine wp_skip ?_
   refine then_normal ?_
   refine wp_seq ?_
   refine wp_block ?_
   refine sr ?_
   obtain ⟨x8206, h8204, hsh⟩ := bind_t hsh
   obtain ⟨q8210, c8211, h8207, h8208, h8212, h8205⟩ := hw.elemRK (α := Int) 3 rfl 4 rfl h8204
   obtain ⟨_, rfl, rfl⟩ := h8205
   refine sv hs (y_indexAt Try.runUnderlying22 Try.sizeOf3 rfl rfl h8207.1 h8207.2 h8208) rfl fun a hs => ?_
   refine sv hs (y_loadQ1 (j := 0) (hw.ownAt 3 rfl) rfl Try.isAgg3 h8212 rfl) rfl fun a hs => ?_
   refine av hs rfl rfl fun a hs => ?_
   refine nl ?_
   refine sr ?_
   refine sv hs (y_loadBA (hw.ownAt 1 rfl) rfl Try.isAgg29 Try.sizeOf29 rfl rfl) rfl fun a hs => ?_
   refine mv hs rfl rfl fun a hs => ?_
   obtain ⟨rv8214, h8213, hsh⟩ := bind_t hsh
   refine st_callR hs (receiver_Accept_ok h8213 hw.dom (hw.envAt 1 rfl) (hw.envAt 2 rfl)) (do_call Try.call13 rfl) trivial rfl rfl ?_
   intro v8224 Sv8221 w a h8222 h8223 hs
   obtain ⟨p8215, k8216, p8218, k8219, rfl, h8217, h8220⟩ := h8223
   have hw := hw.call h8222
   have hw := hw.addE (e := SlA p8215 rv8214.1.Got.length k8216 rv8214.1.Got) h8217
   have hw := hw.addE (e := SlA p8218 rv8214.1.Lost.length k8219 rv8214.1.Lost) h8220
   refine mv hs rfl rfl fun a hs => ?_
   refine sv hs (y_extract rfl rfl) rfl fun a hs => ?_
   refine sv hs (y_extract rfl rfl) rfl fun a hs => ?_
   refine sv hs (y_extract rfl rfl) rfl fun a hs => ?_
   refine w_alloc (cs := [.slice none ([] : List Span).length 0, .slice none ([] : List Span).length 0]) hs hw Try.zeroValue29 rfl rfl trivial ?_
   intro b8226 a w hs hw
   refine w_store (m := 2) (cs' := [.slice p8215 rv8214.1.Got.length k8216, .slice p8218 rv8214.1.Lost.length k8219]) hs hw 0 rfl rfl rfl Try.sizeOf29 rfl rfl rfl rfl trivial ?_
   intro a w hs hw
   refine av hs rfl rfl fun a hs => ?_
   refine av hs rfl rfl fun a hs => ?_
   refine nl ?_
   refine sr ?_
   refine sv hs (y_loadBA (hw.ownAt 2 rfl) rfl Try.isAgg29 Try.sizeOf29 rfl rfl) rfl fun a hs => ?_
   refine mv hs rfl rfl fun a hs => ?_
   obtain ⟨rv8228, h8227, hsh⟩ := bind_t hsh
   refine st_callR hs (ref11_Accept_ok h8227 hw.dom (hw.envAt 3 rfl) (hw.envAt 4 rfl)) (do_call Try.call20 rfl) trivial rfl rfl ?_
   intro v8238 Sv8235 w a h8236 h8237 hs
   obtain ⟨p8229, k8230, p8232, k8233, rfl, h8231, h8234⟩ := h8237
   have hw := hw.call h8236
   have hw := hw.addE (e := SlA p8229 rv8228.1.Got.length k8230 rv8228.1.Got) h8231
   have hw := hw.addE (e := SlA p8232 rv8228.1.Lost.length k8233 rv8228.1.Lost) h8234
   refine mv hs rfl rfl fun a hs => ?_
   refine sv hs (y_extract rfl rfl) rfl fun a hs => ?_
   refine sv hs (y_extract rfl rfl) rfl fun a hs => ?_
   refine sv hs (y_extract rfl rfl) rfl fun a hs => ?_
   refine w_alloc (cs := [.slice none ([] : List Span).length 0, .slice none ([] : List Span).length 0]) hs hw Try.zeroValue29 rfl rfl trivial ?_
   intro b8240 a w hs hw
   refine w_store (m := 2) (cs' := [.slice p8229 rv8228.1.Got.length k8230, .slice p8232 rv8228.1.Lost.length k8233]) hs hw 0 rfl rfl rfl Try.sizeOf29 rfl rfl rfl rfl trivial ?_
   intro a w hs hw
   refine av hs rfl rfl fun a hs => ?_
   refine av hs rfl rfl fun a hs => ?_
   refine nl ?_
   refine sr ?_
   refine sv hs (y_loadBA (hw.ownAt 3 rfl) rfl Try.isAgg29 Try.sizeOf29 rfl rfl) rfl fun a hs => ?_
   refine mv hs rfl rfl fun a hs => ?_
   obtain ⟨rv8242, h8241, hsh⟩ := bind_t hsh
   refine st_callR hs (receiver_Lose_ok h8241 hw.dom (hw.envAt 5 rfl) (hw.envAt 6 rfl)) (do_call Try.call12 rfl) trivial rfl rfl ?_
   intro v8252 Sv8249 w a h8250 h8251 hs
   obtain ⟨p8243, k8244, p8246, k8247, rfl, h8245, h8248⟩ := h8251
   have hw := hw.call h8250
   have hw := hw.addE (e := SlA p8243 rv8242.1.Got.length k8244 rv8242.1.Got) h8245
   have hw := hw.addE (e := SlA p8246 rv8242.1.Lost.length k8247 rv8242.1.Lost) h8248
   refine mv hs rfl rfl fun a hs => ?_
   refine sv hs (y_extract rfl rfl) rfl fun a hs => ?_
   refine sv hs (y_extract rfl rfl) rfl fun a hs => ?_
   refine w_alloc (cs := [.slice none ([] : List Span).length 0, .slice none ([] : List Span).length 0]) hs hw Try.zeroValue29 rfl rfl trivial ?_
   intro b8254 a w hs hw
   refine w_store (m := 2) (cs' := [.slice p8243 rv8242.1.Got.length k8244, .slice p8246 rv8242.1.Lost.length k8247]) hs hw 0 rfl rfl rfl Try.sizeOf29 rfl rfl rfl rfl trivial ?_
   intro a w hs hw
   refine av hs rfl rfl fun a hs => ?_
   refine nl ?_
   refine sr ?_
   refine sv hs (y_loadBA (hw.ownAt 4 rfl) rfl Try.isAgg29 Try.sizeOf29 rfl rfl) rfl fun a hs => ?_
   refine mv hs rfl rfl fun a hs => ?_
   obtain ⟨rv8256, h8255, hsh⟩ := bind_t hsh
   refine st_callR hs (ref11_Lose_ok h8255 hw.dom (hw.envAt 7 rfl) (hw.envAt 8 rfl)) (do_call Try.call21 rfl) trivial rfl rfl ?_
   intro v8266 Sv8263 w a h8264 h8265 hs
   obtain ⟨p8257, k8258, p8260, k8261, rfl, h8259, h8262⟩ := h8265
   have hw := hw.call h8264
   have hw := hw.addE (e := SlA p8257 rv8256.1.Got.length k8258 rv8256.1.Got) h8259
   have hw := hw.addE (e := SlA p8260 rv8256.1.Lost.length k8261 rv8256.1.Lost) h8262
   refine mv hs rfl rfl fun a hs => ?_
   refine sv hs (y_extract rfl rfl) rfl fun a hs => ?_
   refine sv hs (y_extract rfl rfl) rfl fun a hs => ?_
   refine w_alloc (cs := [.slice none ([] : List Span).length 0, .slice none ([] : List Span).length 0]) hs hw Try.zeroValue29 rfl rfl trivial ?_
   intro b8268 a w hs hw
   refine w_store (m := 2) (cs' := [.slice p8257 rv8256.1.Got.length k8258, .slice p8260 rv8256.1.Lost.length k8261]) hs hw 0 rfl rfl rfl Try.sizeOf29 rfl rfl rfl rfl trivial ?_
   intro a w hs hw
   refine av hs rfl rfl fun a hs => ?_
   refine nl ?_
   refine sr ?_
   refine mv hs rfl rfl fun a hs => ?_
   refine mv hs rfl rfl fun a hs => ?_
   refine sv hs (y_neqB Try.runUnderlying4 rfl rfl) rfl fun a hs => ?_
   refine mv hs rfl rfl fun a hs => ?_
   refine wpl_join 4 (fun a w1 => w = w1 ∧ Sl 238 [(2, .int .i64 seq12), (3, .int .i64 below13), (4, .int .i64 next14), (5, .int .i64 most15), (13, .pointer (some ⟨b43, 0, none⟩)), (17, .pointer (some ⟨b7443, 0, none⟩)), (20, .pointer (some ⟨b8226, 0, none⟩)), (23, .pointer (some ⟨b8240, 0, none⟩)), (26, .pointer (some ⟨b8254, 0, none⟩)), (27, .int .i64 rv8242.2), (28, .pointer (some ⟨b8268, 0, none⟩)), (29, .int .i64 rv8256.2), (77, .slice (some ⟨b129, 0, none⟩) ([rv53.1, (⟨l70, l92⟩ : Receiver), raw5] : List Receiver).length ([rv53.1, (⟨l70, l92⟩ : Receiver), raw5] : List Receiver).length), (78, .int .i64 (([rv53.1, (⟨l70, l92⟩ : Receiver), raw5] : List Receiver).length : Int)), (79, .int .i64 sv3258.2.2), (88, .slice (some ⟨b7455, 0, none⟩) ([seq12, below13, (w64 (rv7445.1 - 1)), 1073741824, 1073741825] : List Int).length ([seq12, below13, (w64 (rv7445.1 - 1)), 1073741824, 1073741825] : List Int).length), (89, .int .i64 (([seq12, below13, (w64 (rv7445.1 - 1)), 1073741824, 1073741825] : List Int).length : Int)), (90, .int .i64 sv7776), (127, .bool ((!(rv8214.2.1 == rv8228.2.1)) || (rv8214.2.2 != rv8228.2.2)))] a) ?_ ?_
   ·rcases Bool.eq_false_or_eq_true (!(rv8214.2.1 == rv8228.2.1)) with h8269 | h8269
    ·have hs := hs.fix 123 (.bool true) rfl (vb h8269)
     refine st_skip hs rfl rfl rfl rfl rfl fun a hs => ?_
     refine st_skip hs rfl rfl rfl rfl rfl fun a hs => ?_
     refine st_skip hs rfl rfl rfl rfl rfl fun a hs => ?_
     refine sv hs (y_pickT rfl rfl) rfl fun a hs => ?_
     refine nl ?_
     exact ⟨rfl, (hs.fix 127 (.bool ((!(rv8214.2.1 == rv8228.2.1)) || (rv8214.2.2 != rv8228.2.2))) rfl (or_t h8269)).weaken _ ⟨rfl, rfl, rfl, rfl, rfl, rfl, rfl, rfl, rfl, rfl, rfl, rfl, rfl, rfl, rfl, rfl, rfl, rfl, rfl, trivial⟩⟩
    have hs := hs.fix 123 (.bool false) rfl (vb h8269)
    refine st_val hs (y_move rfl) ⟨_, rfl, rfl⟩ rfl rfl fun a hs => ?_
    refine st_val hs (y_move rfl) ⟨_, rfl, rfl⟩ rfl rfl fun a hs => ?_
    refine st_val hs (y_neq rfl rfl) ⟨_, rfl, rfl⟩ rfl rfl fun a hs => ?_
    refine sv hs (y_pickF rfl rfl) rfl fun a hs => ?_
    refine nl ?_
    exact ⟨rfl, (hs.fix 127 (.bool ((!(rv8214.2.1 == rv8228.2.1)) || (rv8214.2.2 != rv8228.2.2))) rfl (or_f h8269)).weaken _ ⟨rfl, rfl, rfl, rfl, rfl, rfl, rfl, rfl, rfl, rfl, rfl, rfl, rfl, rfl, rfl, rfl, rfl, rfl, rfl, trivial⟩⟩
   rintro a w1 ⟨h8310, hs⟩
   subst h8310
   refine mv hs rfl rfl fun a hs => ?_
   obtain ⟨c8278, hc8278, hsh⟩ := bind_t hsh
   refine wpl_join 5 (fun a w => ∃ (Sv8279 : Nat → Prop), Sl 238 [(2, .int .i64 seq12), (3, .int .i64 below13), (4, .int .i64 next14), (5, .int .i64 most15), (13, .pointer (some ⟨b43, 0, none⟩)), (17, .pointer (some ⟨b7443, 0, none⟩)), (26, .pointer (some ⟨b8254, 0, none⟩)), (27, .int .i64 rv8242.2), (28, .pointer (some ⟨b8268, 0, none⟩)), (29, .int .i64 rv8256.2), (77, .slice (some ⟨b129, 0, none⟩) ([rv53.1, (⟨l70, l92⟩ : Receiver), raw5] : List Receiver).length ([rv53.1, (⟨l70, l92⟩ : Receiver), raw5] : List Receiver).length), (78, .int .i64 (([rv53.1, (⟨l70, l92⟩ : Receiver), raw5] : List Receiver).length : Int)), (79, .int .i64 sv3258.2.2), (88, .slice (some ⟨b7455, 0, none⟩) ([seq12, below13, (w64 (rv7445.1 - 1)), 1073741824, 1073741825] : List Int).length ([seq12, below13, (w64 (rv7445.1 - 1)), 1073741824, 1073741825] : List Int).length), (89, .int .i64 (([seq12, below13, (w64 (rv7445.1 - 1)), 1073741824, 1073741825] : List Int).length : Int)), (90, .int .i64 sv7776), (133, .bool c8278)] a ∧ Wd ⟨w0, S0, []⟩ Sv8279 [.box b43 [.slice p7446 rv7445.2.L.length k7447, .int .i64 rv7445.2.At] 57, .box b7443 [.slice p7435 x7428.Got.length k7437, .slice p7439 x7428.Lost.length k7441] 29, .box b8254 [.slice p8243 rv8242.1.Got.length k8244, .slice p8246 rv8242.1.Lost.length k8247] 29, .box b8268 [.slice p8257 rv8256.1.Got.length k8258, .slice p8260 rv8256.1.Lost.length k8261] 29, .row (some ⟨b129, 0, none⟩) ([rv53.1, (⟨l70, l92⟩ : Receiver), raw5] : List Receiver).length ([rv53.1, (⟨l70, l92⟩ : Receiver), raw5] : List Receiver).length [.slice p54 rv53.1.Got.length k55, .slice p57 rv53.1.Lost.length k58, .slice p71 l70.length k72, .slice p93 l92.length k94, .slice p6 raw5.Got.length k7, .slice p8 raw5.Lost.length k9] 29 2, .row (some ⟨b7455, 0, none⟩) ([seq12, below13, (w64 (rv7445.1 - 1)), 1073741824, 1073741825] : List Int).length ([seq12, below13, (w64 (rv7445.1 - 1)), 1073741824, 1073741825] : List Int).length [.int .i64 seq12, .int .i64 below13, .int .i64 (w64 (rv7445.1 - 1)), .int .i64 1073741824, .int .i64 1073741825] 3 1] [SlA p7446 rv7445.2.L.length k7447 rv7445.2.L, SlA p7435 x7428.Got.length k7437 x7428.Got, SlA p7439 x7428.Lost.length k7441 x7428.Lost, SlA p8243 rv8242.1.Got.length k8244 rv8242.1.Got, SlA p8246 rv8242.1.Lost.length k8247 rv8242.1.Lost, SlA p8257 rv8256.1.Got.length k8258 rv8256.1.Got, SlA p8260 rv8256.1.Lost.length k8261 rv8256.1.Lost, RowA [.slice p54 rv53.1.Got.length k55, .slice p57 rv53.1.Lost.length k58, .slice p71 l70.length k72, .slice p93 l92.length k94, .slice p6 raw5.Got.length k7, .slice p8 raw5.Lost.length k9] ([rv53.1, (⟨l70, l92⟩ : Receiver), raw5] : List Receiver), RowA [.int .i64 seq12, .int .i64 below13, .int .i64 (w64 (rv7445.1 - 1)), .int .i64 1073741824, .int .i64 1073741825] ([seq12, below13, (w64 (rv7445.1 - 1)), 1073741824, 1073741825] : List Int)] w) ?_ ?_
   ·rcases Bool.eq_false_or_eq_true ((!(rv8214.2.1 == rv8228.2.1)) || (rv8214.2.2 != rv8228.2.2)) with h8277 | h8277
    ·have hs := hs.fix 128 (.bool true) rfl (vb h8277)
     have hsh := ite_t hc8278 h8277
     refine st_skip hs rfl rfl rfl rfl rfl fun a hs => ?_
     refine st_skip hs rfl rfl rfl rfl rfl fun a hs => ?_
     refine st_skip hs rfl rfl rfl rfl rfl fun a hs => ?_
     refine st_skip hs rfl rfl rfl rfl rfl fun a hs => ?_
     refine sv hs (y_pickT rfl rfl) rfl fun a hs => ?_
     refine wpList_nil ?_
     have hsh := oi hsh
     subst hsh
     refine then_normal ?_
     exact ⟨Sv8263, (hs.wk rfl), (hw.ft [4, 5, 1, 0, 6, 7] [8, 9, 10, 3, 2, 1, 0, 11, 12] (by decide) rfl rfl)⟩
    have hs := hs.fix 128 (.bool false) rfl (vb h8277)
    have hsh := ite_f hc8278 h8277
    refine st_val hs (y_loadBA (hw.ownAt 3 rfl) rfl Try.isAgg29 Try.sizeOf29 rfl rfl) ⟨_, rfl, rfl⟩ rfl rfl fun a hs => ?_
    refine st_val hs (y_loadBA (hw.ownAt 2 rfl) rfl Try.isAgg29 Try.sizeOf29 rfl rfl) ⟨_, rfl, rfl⟩ rfl rfl fun a hs => ?_
    obtain ⟨rv8281, h8280, hsh⟩ := bind_t hsh
    refine st_callR hs (ref11_Same_ok h8280 hw.bdom (hw.bE 7 rfl) (hw.bE 6 rfl) (hw.bE 5 rfl) (hw.bE 4 rfl)) (do_call Try.call22 rfl) ⟨_, rfl, rfl⟩ rfl rfl ?_
    intro v8285 Sv8282 w a h8283 h8284 hs
    subst h8284
    have hw := hw.callB h8283
    refine st_val hs (y_not rfl) ⟨_, rfl, rfl⟩ rfl rfl fun a hs => ?_
    refine sv hs (y_pickF rfl rfl) rfl fun a hs => ?_
    refine wpList_nil ?_
    have hsh := oi hsh
    subst hsh
    refine then_normal ?_
    exact ⟨Sv8263, (hs.wk rfl), (hw.ft [4, 5, 1, 0, 6, 7] [8, 9, 10, 3, 2, 1, 0, 11, 12] (by decide) rfl rfl)⟩
   rintro a w ⟨Sv8279, hs, hw⟩
   refine mv hs rfl rfl fun a hs => ?_
   refine wpl_join 4 (fun a w1 => w = w1 ∧ Sl 238 [(2, .int .i64 seq12), (3, .int .i64 below13), (4, .int .i64 next14), (5, .int .i64 most15), (13, .pointer (some ⟨b43, 0, none⟩)), (17, .pointer (some ⟨b7443, 0, none⟩)), (26, .pointer (some ⟨b8254, 0, none⟩)), (28, .pointer (some ⟨b8268, 0, none⟩)), (77, .slice (some ⟨b129, 0, none⟩) ([rv53.1, (⟨l70, l92⟩ : Receiver), raw5] : List Receiver).length ([rv53.1, (⟨l70, l92⟩ : Receiver), raw5] : List Receiver).length), (78, .int .i64 (([rv53.1, (⟨l70, l92⟩ : Receiver), raw5] : List Receiver).length : Int)), (79, .int .i64 sv3258.2.2), (88, .slice (some ⟨b7455, 0, none⟩) ([seq12, below13, (w64 (rv7445.1 - 1)), 1073741824, 1073741825] : List Int).length ([seq12, below13, (w64 (rv7445.1 - 1)), 1073741824, 1073741825] : List Int).length), (89, .int .i64 (([seq12, below13, (w64 (rv7445.1 - 1)), 1073741824, 1073741825] : List Int).length : Int)), (90, .int .i64 sv7776), (138, .bool (c8278 || (rv8242.2 != rv8256.2)))] a) ?_ ?_
   ·rcases Bool.eq_false_or_eq_true c8278 with h8287 | h8287
    ·have hs := hs.fix 134 (.bool true) rfl (vb h8287)
     refine st_skip hs rfl rfl rfl rfl rfl fun a hs => ?_
     refine st_skip hs rfl rfl rfl rfl rfl fun a hs => ?_
     refine st_skip hs rfl rfl rfl rfl rfl fun a hs => ?_
     refine sv hs (y_pickT rfl rfl) rfl fun a hs => ?_
     refine nl ?_
     exact ⟨rfl, (hs.fix 138 (.bool (c8278 || (rv8242.2 != rv8256.2))) rfl (or_t h8287)).weaken _ ⟨rfl, rfl, rfl, rfl, rfl, rfl, rfl, rfl, rfl, rfl, rfl, rfl, rfl, rfl, rfl, trivial⟩⟩
    have hs := hs.fix 134 (.bool false) rfl (vb h8287)
    refine st_val hs (y_move rfl) ⟨_, rfl, rfl⟩ rfl rfl fun a hs => ?_
    refine st_val hs (y_move rfl) ⟨_, rfl, rfl⟩ rfl rfl fun a hs => ?_
    refine st_val hs (y_neq rfl rfl) ⟨_, rfl, rfl⟩ rfl rfl fun a hs => ?_
    refine sv hs (y_pickF rfl rfl) rfl fun a hs => ?_
    refine nl ?_
    exact ⟨rfl, (hs.fix 138 (.bool (c8278 || (rv8242.2 != rv8256.2))) rfl (or_f h8287)).weaken _ ⟨rfl, rfl, rfl, rfl, rfl, rfl, rfl, rfl, rfl, rfl, rfl, rfl, rfl, rfl, rfl, trivial⟩⟩
   rintro a w1 ⟨h8309, hs⟩
   subst h8309
   refine mv hs rfl rfl fun a hs => ?_
   obtain ⟨c8296, hc8296, hsh⟩ := bind_t hsh
   refine wpl_join 5 (fun a w => ∃ (Sv8297 : Nat → Prop), Sl 238 [(2, .int .i64 seq12), (3, .int .i64 below13), (4, .int .i64 next14), (5, .int .i64 most15), (13, .pointer (some ⟨b43, 0, none⟩)), (17, .pointer (some ⟨b7443, 0, none⟩)), (77, .slice (some ⟨b129, 0, none⟩) ([rv53.1, (⟨l70, l92⟩ : Receiver), raw5] : List Receiver).length ([rv53.1, (⟨l70, l92⟩ : Receiver), raw5] : List Receiver).length), (78, .int .i64 (([rv53.1, (⟨l70, l92⟩ : Receiver), raw5] : List Receiver).length : Int)), (79, .int .i64 sv3258.2.2), (88, .slice (some ⟨b7455, 0, none⟩) ([seq12, below13, (w64 (rv7445.1 - 1)), 1073741824, 1073741825] : List Int).length ([seq12, below13, (w64 (rv7445.1 - 1)), 1073741824, 1073741825] : List Int).length), (89, .int .i64 (([seq12, below13, (w64 (rv7445.1 - 1)), 1073741824, 1073741825] : List Int).length : Int)), (90, .int .i64 sv7776), (144, .bool c8296)] a ∧ Wd ⟨w0, S0, []⟩ Sv8297 [.box b43 [.slice p7446 rv7445.2.L.length k7447, .int .i64 rv7445.2.At] 57, .box b7443 [.slice p7435 x7428.Got.length k7437, .slice p7439 x7428.Lost.length k7441] 29, .row (some ⟨b129, 0, none⟩) ([rv53.1, (⟨l70, l92⟩ : Receiver), raw5] : List Receiver).length ([rv53.1, (⟨l70, l92⟩ : Receiver), raw5] : List Receiver).length [.slice p54 rv53.1.Got.length k55, .slice p57 rv53.1.Lost.length k58, .slice p71 l70.length k72, .slice p93 l92.length k94, .slice p6 raw5.Got.length k7, .slice p8 raw5.Lost.length k9] 29 2, .row (some ⟨b7455, 0, none⟩) ([seq12, below13, (w64 (rv7445.1 - 1)), 1073741824, 1073741825] : List Int).length ([seq12, below13, (w64 (rv7445.1 - 1)), 1073741824, 1073741825] : List Int).length [.int .i64 seq12, .int .i64 below13, .int .i64 (w64 (rv7445.1 - 1)), .int .i64 1073741824, .int .i64 1073741825] 3 1] [SlA p7446 rv7445.2.L.length k7447 rv7445.2.L, SlA p7435 x7428.Got.length k7437 x7428.Got, SlA p7439 x7428.Lost.length k7441 x7428.Lost, RowA [.slice p54 rv53.1.Got.length k55, .slice p57 rv53.1.Lost.length k58, .slice p71 l70.length k72, .slice p93 l92.length k94, .slice p6 raw5.Got.length k7, .slice p8 raw5.Lost.length k9] ([rv53.1, (⟨l70, l92⟩ : Receiver), raw5] : List Receiver), RowA [.int .i64 seq12, .int .i64 below13, .int .i64 (w64 (rv7445.1 - 1)), .int .i64 1073741824, .int .i64 1073741825] ([seq12, below13, (w64 (rv7445.1 - 1)), 1073741824, 1073741825] : List Int)] w) ?_ ?_
   ·rcases Bool.eq_false_or_eq_true (c8278 || (rv8242.2 != rv8256.2)) with h8295 | h8295
    ·have hs := hs.fix 139 (.bool true) rfl (vb h8295)
     have hsh := ite_t hc8296 h8295
     refine st_skip hs rfl rfl rfl rfl rfl fun a hs => ?_
     refine st_skip hs rfl rfl rfl rfl rfl fun a hs => ?_
     refine st_skip hs rfl rfl rfl rfl rfl fun a hs => ?_
     refine st_skip hs rfl rfl rfl rfl rfl fun a hs => ?_
     refine sv hs (y_pickT rfl rfl) rfl fun a hs => ?_
     refine wpList_nil ?_
     have hsh := oi hsh
     subst hsh
     refine then_normal ?_
     exact ⟨Sv8279, (hs.wk rfl), (hw.ft [0, 1, 4, 5] [0, 1, 2, 7, 8] (by decide) rfl rfl)⟩
    have hs := hs.fix 139 (.bool false) rfl (vb h8295)
    have hsh := ite_f hc8296 h8295
    refine st_val hs (y_loadBA (hw.ownAt 2 rfl) rfl Try.isAgg29 Try.sizeOf29 rfl rfl) ⟨_, rfl, rfl⟩ rfl rfl fun a hs => ?_
    refine st_val hs (y_loadBA (hw.ownAt 3 rfl) rfl Try.isAgg29 Try.sizeOf29 rfl rfl) ⟨_, rfl, rfl⟩ rfl rfl fun a hs => ?_
    obtain ⟨rv8299, h8298, hsh⟩ := bind_t hsh
    refine st_callR hs (ref11_Same_ok h8298 hw.bdom (hw.bE 3 rfl) (hw.bE 4 rfl) (hw.bE 5 rfl) (hw.bE 6 rfl)) (do_call Try.call22 rfl) ⟨_, rfl, rfl⟩ rfl rfl ?_
    intro v8303 Sv8300 w a h8301 h8302 hs
    subst h8302
    have hw := hw.callB h8301
    refine st_val hs (y_not rfl) ⟨_, rfl, rfl⟩ rfl rfl fun a hs => ?_
    refine sv hs (y_pickF rfl rfl) rfl fun a hs => ?_
    refine wpList_nil ?_
    have hsh := oi hsh
    subst hsh
    refine then_normal ?_
    exact ⟨Sv8279, (hs.wk rfl), (hw.ft [0, 1, 4, 5] [0, 1, 2, 7, 8] (by decide) rfl rfl)⟩
   rintro a w ⟨Sv8297, hs, hw⟩
   refine nl ?_
   refine wp_cond_split (hs.ev rfl) (fun h8306 => ?_) (fun h8306 => ?_)
   ·have hsh := ite_t hsh h8306
    refine sr ?_
    refine av hs rfl rfl fun a hs => ?_
    refine nl ?_
    have hsh := oi hsh
    subst hsh
    have h8307 := hd8094 _ rfl
    subst h8307
    have h8308 := hd6382 _ rfl
    subst h8308
    refine wp_ret ?_
    refine blk_ret ?_
    refine then_ret ?_
    refine then_ret ?_
    refine blk_ret ?_
    refine then_ret ?_
    refine blk_ret ?_
    refine then_ret ?_
    refine then_ret ?_
    refine blk_ret ?_
    refine then_ret ?_
    exact ret1 hs rfl (rv_tmp rfl) (hw.ret rfl)
   have hsh := ite_f hsh h8306
   refine wp_skip ?_
   refine blk_normal ?_
   refine then_normal ?_
   refine wp_region_lit ?_
   refine sv hs (y_add rfl rfl) rfl fun a hs => ?_
   refine mv hs rfl rfl fun a hs => ?_
   refine nl ?_
   exact ⟨_, (Option.some.inj hsh).symm, Sv8297, (hs.wk rfl), (hw.ft [0, 1, 2, 3] [0, 1, 2, 3, 4] (by decide) rfl rfl)⟩
  have hsh := ite_f hsh h8099
  obtain ⟨rv10441, hsh, h10442⟩ := map_t hsh
  have h10442 := (hd8094 _ h10442.symm).symm
  subst h10442
  refine wp_exit ?_
  refine then_exit ?_
  refine then_exit ?_
  refine blk_exit ?_
  refine then_normal ?_
  refine wp_seq ?_
  refine sr ?_
  refine mv hs rfl rfl fun a hs => ?_
  refine mv hs rfl rfl fun a hs => ?_
  obtain ⟨rv8312, h8311, hsh⟩ := bind_t hsh
  refine st_callR hs (made_Dice_Next_ok h8311 hw.dom (hw.ins [0] (by decide) rfl) (hw.envAt 0 rfl)) (do_call Try.call11 rfl) trivial rfl rfl ?_
  intro v8319 Sv8316 w a h8317 h8318 hs
  obtain ⟨p8313, k8314, rfl, h8320, h8315⟩ := h8318
  have hw := hw.callO [0] [1, 2, 3] (by decide) rfl h8317 h8320
  have hw := hw.addE (e := SlA p8313 rv8312.2.L.length k8314 rv8312.2.L) h8315
  refine sv hs (y_sub rfl rfl) rfl fun a hs => ?_
  refine w_litSlice (α := Int) (vs := [.int .i64 next14, .int .i64 (w64 (rv8312.1 - 1)), .int .i64 1073741825]) (cs := [.int .i64 next14, .int .i64 (w64 (rv8312.1 - 1)), .int .i64 1073741825]) (xs := ([next14, (w64 (rv8312.1 - 1)), 1073741825] : List Int)) hs hw El22 rfl rfl rfl rfl rfl rfl ⟨⟨_, rfl, rfl⟩, ⟨⟨_, rfl, rfl⟩, ⟨⟨_, rfl, rfl⟩, rfl⟩⟩⟩ rfl trivial rfl fun b8322 a w hs hw => ?_
  refine sv hs (y_len Try.runUnderlying22 rfl) rfl fun a hs => ?_
  refine mv hs rfl rfl fun a hs => ?_
  refine nl ?_
  refine wp_block ?_
  refine wp_while (fun sv8983 a w => ∃ (p9421 : Option Addr) (k9422 : Nat) (Sv9423 : Nat → Prop), Sl 238 [(2, .int .i64 seq12), (3, .int .i64 below13), (4, .int .i64 next14), (5, .int .i64 most15), (13, .pointer (some ⟨b43, 0, none⟩)), (17, .pointer (some ⟨b7443, 0, none⟩)), (77, .slice (some ⟨b129, 0, none⟩) ([rv53.1, (⟨l70, l92⟩ : Receiver), raw5] : List Receiver).length ([rv53.1, (⟨l70, l92⟩ : Receiver), raw5] : List Receiver).length), (78, .int .i64 (([rv53.1, (⟨l70, l92⟩ : Receiver), raw5] : List Receiver).length : Int)), (79, .int .i64 sv3258.2.2), (150, .slice (some ⟨b8322, 0, none⟩) ([next14, (w64 (rv8312.1 - 1)), 1073741825] : List Int).length ([next14, (w64 (rv8312.1 - 1)), 1073741825] : List Int).length), (151, .int .i64 (([next14, (w64 (rv8312.1 - 1)), 1073741825] : List Int).length : Int)), (152, .int .i64 sv8983.2.2)] a ∧ Wd ⟨w0, S0, []⟩ Sv9423 [.box b43 [.slice p9421 sv8983.1.length k9422, .int .i64 sv8983.2.1] 57, .box b7443 [.slice p7435 x7428.Got.length k7437, .slice p7439 x7428.Lost.length k7441] 29, .row (some ⟨b129, 0, none⟩) ([rv53.1, (⟨l70, l92⟩ : Receiver), raw5] : List Receiver).length ([rv53.1, (⟨l70, l92⟩ : Receiver), raw5] : List Receiver).length [.slice p54 rv53.1.Got.length k55, .slice p57 rv53.1.Lost.length k58, .slice p71 l70.length k72, .slice p93 l92.length k94, .slice p6 raw5.Got.length k7, .slice p8 raw5.Lost.length k9] 29 2, .row (some ⟨b8322, 0, none⟩) ([next14, (w64 (rv8312.1 - 1)), 1073741825] : List Int).length ([next14, (w64 (rv8312.1 - 1)), 1073741825] : List Int).length [.int .i64 next14, .int .i64 (w64 (rv8312.1 - 1)), .int .i64 1073741825] 3 1] [SlA p9421 sv8983.1.length k9422 sv8983.1, SlA p7435 x7428.Got.length k7437 x7428.Got, SlA p7439 x7428.Lost.length k7441 x7428.Lost, RowA [.slice p54 rv53.1.Got.length k55, .slice p57 rv53.1.Lost.length k58, .slice p71 l70.length k72, .slice p93 l92.length k94, .slice p6 raw5.Got.length k7, .slice p8 raw5.Lost.length k9] ([rv53.1, (⟨l70, l92⟩ : Receiver), raw5] : List Receiver), RowA [.int .i64 next14, .int .i64 (w64 (rv8312.1 - 1)), .int .i64 1073741825] ([next14, (w64 (rv8312.1 - 1)), 1073741825] : List Int)] w) (rv8312.2.L, rv8312.2.At, 0) hsh ⟨p8313, k8314, Sv8316, (hs.wk rfl), (hw.ft [1, 2, 3, 0] [1, 3, 4, 5, 0] (by decide) rfl rfl)⟩ ?_
  repeat clear hsh
  rintro sv8983 a w tv9642 ⟨p9421, k9422, Sv9423, hs, hw⟩ hsh hd9641
  delta law11_ReceiverExact_l46 at hsh
  refine sr ?_
  refine sv hs (y_lss rfl rfl) rfl fun a hs => ?_
  refine nl ?_
  refine wp_seq ?_
  refine wp_cond_split (hs.ev rfl) (fun h9646 => ?_) (fun h9646 => ?_)
  ·have hsh := ite_t hsh h9646
   refine wp_skip ?_
   refine then_normal ?_
   refine wp_seq ?_
   refine wp_block ?_
   refine sr ?_
   obtain ⟨x9865, h9863, hsh⟩ := bind_t hsh
   obtain ⟨q9869, c9870, h9866, h9867, h9871, h9864⟩ := hw.elemRK (α := Int) 3 rfl 4 rfl h9863
   obtain ⟨_, rfl, rfl⟩ := h9864
   refine sv hs (y_indexAt Try.runUnderlying22 Try.sizeOf3 rfl rfl h9866.1 h9866.2 h9867) rfl fun a hs => ?_
   refine sv hs (y_loadQ1 (j := 0) (hw.ownAt 3 rfl) rfl Try.isAgg3 h9871 rfl) rfl fun a hs => ?_
   refine av hs rfl rfl fun a hs => ?_
   refine nl ?_
   refine sr ?_
   refine sv hs (y_loadBA (hw.ownAt 1 rfl) rfl Try.isAgg29 Try.sizeOf29 rfl rfl) rfl fun a hs => ?_
   refine mv hs rfl rfl fun a hs => ?_
   obtain ⟨rv9873, h9872, hsh⟩ := bind_t hsh
   refine st_callR hs (receiver_Missing_ok h9872 hw.dom (hw.envAt 1 rfl) (hw.envAt 2 rfl)) (do_call Try.call17 rfl) trivial rfl rfl ?_
   intro v9881 Sv9878 w a h9879 h9880 hs
   obtain ⟨p9874, k9875, c9877, rfl, h9882, h9876⟩ := h9880
   have hw := hw.callN h9879 h9882
   have hw := hw.addE (e := RowA c9877 rv9873.1) h9876
   refine mv hs rfl rfl fun a hs => ?_
   refine sv hs (y_extract rfl rfl) rfl fun a hs => ?_
   refine sv hs (y_extract rfl rfl) rfl fun a hs => ?_
   refine av hs rfl rfl fun a hs => ?_
   refine av hs rfl rfl fun a hs => ?_
   refine nl ?_
   refine sr ?_
   refine sv hs (y_loadBA (hw.ownAt 2 rfl) rfl Try.isAgg29 Try.sizeOf29 rfl rfl) rfl fun a hs => ?_
   refine mv hs rfl rfl fun a hs => ?_
   obtain ⟨rv9884, h9883, hsh⟩ := bind_t hsh
   refine st_callR hs (ref11_Missing_ok h9883 hw.dom (hw.envAt 2 rfl) (hw.envAt 3 rfl)) (do_call Try.call23 rfl) trivial rfl rfl ?_
   intro v9892 Sv9889 w a h9890 h9891 hs
   obtain ⟨p9885, k9886, c9888, rfl, h9893, h9887⟩ := h9891
   have hw := hw.callN h9890 h9893
   have hw := hw.addE (e := RowA c9888 rv9884.1) h9887
   refine mv hs rfl rfl fun a hs => ?_
   refine sv hs (y_extract rfl rfl) rfl fun a hs => ?_
   refine sv hs (y_extract rfl rfl) rfl fun a hs => ?_
   refine av hs rfl rfl fun a hs => ?_
   refine av hs rfl rfl fun a hs => ?_
   refine nl ?_
   refine wp_seq ?_
   refine sr ?_
   refine mv hs rfl rfl fun a hs => ?_
   refine mv hs rfl rfl fun a hs => ?_
   refine sv hs (y_neq rfl rfl) rfl fun a hs => ?_
   refine mv hs rfl rfl fun a hs => ?_
   obtain ⟨c9902, hc9902, hsh⟩ := bind_t hsh
   refine wpl_join 5 (fun a w => ∃ (Sv9903 : Nat → Prop), Sl 238 [(2, .int .i64 seq12), (3, .int .i64 below13), (4, .int .i64 next14), (5, .int .i64 most15), (13, .pointer (some ⟨b43, 0, none⟩)), (17, .pointer (some ⟨b7443, 0, none⟩)), (31, .int .i64 x9865), (77, .slice (some ⟨b129, 0, none⟩) ([rv53.1, (⟨l70, l92⟩ : Receiver), raw5] : List Receiver).length ([rv53.1, (⟨l70, l92⟩ : Receiver), raw5] : List Receiver).length), (78, .int .i64 (([rv53.1, (⟨l70, l92⟩ : Receiver), raw5] : List Receiver).length : Int)), (79, .int .i64 sv3258.2.2), (150, .slice (some ⟨b8322, 0, none⟩) ([next14, (w64 (rv8312.1 - 1)), 1073741825] : List Int).length ([next14, (w64 (rv8312.1 - 1)), 1073741825] : List Int).length), (151, .int .i64 (([next14, (w64 (rv8312.1 - 1)), 1073741825] : List Int).length : Int)), (152, .int .i64 sv8983.2.2), (176, .bool c9902)] a ∧ Wd ⟨w0, S0, []⟩ Sv9903 [.box b43 [.slice p9421 sv8983.1.length k9422, .int .i64 sv8983.2.1] 57, .box b7443 [.slice p7435 x7428.Got.length k7437, .slice p7439 x7428.Lost.length k7441] 29, .row (some ⟨b129, 0, none⟩) ([rv53.1, (⟨l70, l92⟩ : Receiver), raw5] : List Receiver).length ([rv53.1, (⟨l70, l92⟩ : Receiver), raw5] : List Receiver).length [.slice p54 rv53.1.Got.length k55, .slice p57 rv53.1.Lost.length k58, .slice p71 l70.length k72, .slice p93 l92.length k94, .slice p6 raw5.Got.length k7, .slice p8 raw5.Lost.length k9] 29 2, .row (some ⟨b8322, 0, none⟩) ([next14, (w64 (rv8312.1 - 1)), 1073741825] : List Int).length ([next14, (w64 (rv8312.1 - 1)), 1073741825] : List Int).length [.int .i64 next14, .int .i64 (w64 (rv8312.1 - 1)), .int .i64 1073741825] 3 1] [SlA p9421 sv8983.1.length k9422 sv8983.1, SlA p7435 x7428.Got.length k7437 x7428.Got, SlA p7439 x7428.Lost.length k7441 x7428.Lost, RowA [.slice p54 rv53.1.Got.length k55, .slice p57 rv53.1.Lost.length k58, .slice p71 l70.length k72, .slice p93 l92.length k94, .slice p6 raw5.Got.length k7, .slice p8 raw5.Lost.length k9] ([rv53.1, (⟨l70, l92⟩ : Receiver), raw5] : List Receiver), RowA [.int .i64 next14, .int .i64 (w64 (rv8312.1 - 1)), .int .i64 1073741825] ([next14, (w64 (rv8312.1 - 1)), 1073741825] : List Int)] w) ?_ ?_
   ·rcases Bool.eq_false_or_eq_true (rv9873.2 != rv9884.2) with h9901 | h9901
    ·have hs := hs.fix 171 (.bool true) rfl (vb h9901)
     have hsh := ite_t hc9902 h9901
     refine st_skip hs rfl rfl rfl rfl rfl fun a hs => ?_
     refine st_skip hs rfl rfl rfl rfl rfl fun a hs => ?_
     refine st_skip hs rfl rfl rfl rfl rfl fun a hs => ?_
     refine st_skip hs rfl rfl rfl rfl rfl fun a hs => ?_
     refine sv hs (y_pickT rfl rfl) rfl fun a hs => ?_
     refine wpList_nil ?_
     have hsh := oi hsh
     subst hsh
     refine then_normal ?_
     exact ⟨Sv9889, (hs.wk rfl), (hw.ft [2, 3, 4, 5] [2, 3, 4, 5, 6] (by decide) rfl rfl)⟩
    have hs := hs.fix 171 (.bool false) rfl (vb h9901)
    have hsh := ite_f hc9902 h9901
    refine st_val hs (y_move rfl) ⟨_, rfl, rfl⟩ rfl rfl fun a hs => ?_
    refine st_val hs (y_move rfl) ⟨_, rfl, rfl⟩ rfl rfl fun a hs => ?_
    obtain ⟨rv9905, h9904, hsh⟩ := bind_t hsh
    refine st_callR hs (ref08_Same_ok h9904 hw.bdom (hw.bRow 1 rfl 1 rfl) (hw.bRow 0 rfl 0 rfl)) (do_call Try.call24 rfl) ⟨_, rfl, rfl⟩ rfl rfl ?_
    intro v9909 Sv9906 w a h9907 h9908 hs
    subst h9908
    have hw := hw.callB h9907
    refine st_val hs (y_not rfl) ⟨_, rfl, rfl⟩ rfl rfl fun a hs => ?_
    refine sv hs (y_pickF rfl rfl) rfl fun a hs => ?_
    refine wpList_nil ?_
    have hsh := oi hsh
    subst hsh
    refine then_normal ?_
    exact ⟨Sv9889, (hs.wk rfl), (hw.ft [2, 3, 4, 5] [2, 3, 4, 5, 6] (by decide) rfl rfl)⟩
   rintro a w ⟨Sv9903, hs, hw⟩
   refine nl ?_
   refine wp_cond_split (hs.ev rfl) (fun h9912 => ?_) (fun h9912 => ?_)
   ·have hsh := ite_t hsh h9912
    refine sr ?_
    refine av hs rfl rfl fun a hs => ?_
    refine nl ?_
    have hsh := oi hsh
    subst hsh
    have h9913 := hd9641 _ rfl
    subst h9913
    have h9914 := hd6382 _ rfl
    subst h9914
    refine wp_ret ?_
    refine then_ret ?_
    refine blk_ret ?_
    refine then_ret ?_
    refine then_ret ?_
    refine blk_ret ?_
    refine then_ret ?_
    refine blk_ret ?_
    refine then_ret ?_
    refine then_ret ?_
    refine blk_ret ?_
    refine then_ret ?_
    exact ret1 hs rfl (rv_tmp rfl) (hw.ret rfl)
   have hsh := ite_f hsh h9912
   refine wp_skip ?_
   refine then_normal ?_
   refine sr ?_
   refine mv hs rfl rfl fun a hs => ?_
   refine mv hs rfl rfl fun a hs => ?_
   obtain ⟨rv9916, h9915, hsh⟩ := bind_t hsh
   refine st_callR hs (made_Dice_Next_ok h9915 hw.dom (hw.ins [0] (by decide) rfl) (hw.envAt 0 rfl)) (do_call Try.call11 rfl) trivial rfl rfl ?_
   intro v9923 Sv9920 w a h9921 h9922 hs
   obtain ⟨p9917, k9918, rfl, h9924, h9919⟩ := h9922
   have hw := hw.callO [0] [1, 2, 3] (by decide) rfl h9921 h9924
   have hw := hw.addE (e := SlA p9917 rv9916.2.L.length k9918 rv9916.2.L) h9919
   refine sv hs (y_sub rfl rfl) rfl fun a hs => ?_
   refine w_litSlice (α := Int) (vs := [.int .i64 most15, .int .i64 (w64 (rv9916.1 - 1))]) (cs := [.int .i64 most15, .int .i64 (w64 (rv9916.1 - 1))]) (xs := ([most15, (w64 (rv9916.1 - 1))] : List Int)) hs hw El22 rfl rfl rfl rfl rfl rfl ⟨⟨_, rfl, rfl⟩, ⟨⟨_, rfl, rfl⟩, rfl⟩⟩ rfl trivial rfl fun b9926 a w hs hw => ?_
   refine sv hs (y_len Try.runUnderlying22 rfl) rfl fun a hs => ?_
   refine mv hs rfl rfl fun a hs => ?_
   refine nl ?_
   refine wp_block ?_
   refine wp_while (fun sv10082 a w => ∃ (Sv10184 : Nat → Prop), Sl 238 [(2, .int .i64 seq12), (3, .int .i64 below13), (4, .int .i64 next14), (5, .int .i64 most15), (13, .pointer (some ⟨b43, 0, none⟩)), (17, .pointer (some ⟨b7443, 0, none⟩)), (31, .int .i64 x9865), (77, .slice (some ⟨b129, 0, none⟩) ([rv53.1, (⟨l70, l92⟩ : Receiver), raw5] : List Receiver).length ([rv53.1, (⟨l70, l92⟩ : Receiver), raw5] : List Receiver).length), (78, .int .i64 (([rv53.1, (⟨l70, l92⟩ : Receiver), raw5] : List Receiver).length : Int)), (79, .int .i64 sv3258.2.2), (150, .slice (some ⟨b8322, 0, none⟩) ([next14, (w64 (rv8312.1 - 1)), 1073741825] : List Int).length ([next14, (w64 (rv8312.1 - 1)), 1073741825] : List Int).length), (151, .int .i64 (([next14, (w64 (rv8312.1 - 1)), 1073741825] : List Int).length : Int)), (152, .int .i64 sv8983.2.2), (181, .slice (some ⟨b9926, 0, none⟩) ([most15, (w64 (rv9916.1 - 1))] : List Int).length ([most15, (w64 (rv9916.1 - 1))] : List Int).length), (182, .int .i64 (([most15, (w64 (rv9916.1 - 1))] : List Int).length : Int)), (183, .int .i64 sv10082)] a ∧ Wd ⟨w0, S0, []⟩ Sv10184 [.box b43 [.slice p9917 rv9916.2.L.length k9918, .int .i64 rv9916.2.At] 57, .box b7443 [.slice p7435 x7428.Got.length k7437, .slice p7439 x7428.Lost.length k7441] 29, .row (some ⟨b129, 0, none⟩) ([rv53.1, (⟨l70, l92⟩ : Receiver), raw5] : List Receiver).length ([rv53.1, (⟨l70, l92⟩ : Receiver), raw5] : List Receiver).length [.slice p54 rv53.1.Got.length k55, .slice p57 rv53.1.Lost.length k58, .slice p71 l70.length k72, .slice p93 l92.length k94, .slice p6 raw5.Got.length k7, .slice p8 raw5.Lost.length k9] 29 2, .row (some ⟨b8322, 0, none⟩) ([next14, (w64 (rv8312.1 - 1)), 1073741825] : List Int).length ([next14, (w64 (rv8312.1 - 1)), 1073741825] : List Int).length [.int .i64 next14, .int .i64 (w64 (rv8312.1 - 1)), .int .i64 1073741825] 3 1, .row (some ⟨b9926, 0, none⟩) ([most15, (w64 (rv9916.1 - 1))] : List Int).length ([most15, (w64 (rv9916.1 - 1))] : List Int).length [.int .i64 most15, .int .i64 (w64 (rv9916.1 - 1))] 3 1] [SlA p9917 rv9916.2.L.length k9918 rv9916.2.L, SlA p7435 x7428.Got.length k7437 x7428.Got, SlA p7439 x7428.Lost.length k7441 x7428.Lost, RowA [.slice p54 rv53.1.Got.length k55, .slice p57 rv53.1.Lost.length k58, .slice p71 l70.length k72, .slice p93 l92.length k94, .slice p6 raw5.Got.length k7, .slice p8 raw5.Lost.length k9] ([rv53.1, (⟨l70, l92⟩ : Receiver), raw5] : List Receiver), RowA [.int .i64 next14, .int .i64 (w64 (rv8312.1 - 1)), .int .i64 1073741825] ([next14, (w64 (rv8312.1 - 1)), 1073741825] : List Int), RowA [.int .i64 most15, .int .i64 (w64 (rv9916.1 - 1))] ([most15, (w64 (rv9916.1 - 1))] : List Int)] w) 0 hsh ⟨Sv9920, (hs.wk rfl), (hw.ft [1, 2, 3, 4, 0] [1, 3, 4, 5, 6, 0] (by decide) rfl rfl)⟩ ?_
   repeat clear hsh
   rintro sv10082 a w tv10236 ⟨Sv10184, hs, hw⟩ hsh hd10235
   delta law11_ReceiverExact_l50 at hsh
   refine sr ?_
   refine sv hs (y_lss rfl rfl) rfl fun a hs => ?_
   refine nl ?_
   refine wp_seq ?_
   refine wp_cond_split (hs.ev rfl) (fun h10240 => ?_) (fun h10240 => ?_)
   ·have hsh := ite_t hsh h10240
    refine wp_skip ?_
    refine then_normal ?_
    refine wp_seq ?_
    refine wp_block ?_
    refine sr ?_
    obtain ⟨x10292, h10290, hsh⟩ := bind_t hsh
    obtain ⟨q10296, c10297, h10293, h10294, h10298, h10291⟩ := hw.elemRK (α := Int) 4 rfl 5 rfl h10290
    obtain ⟨_, rfl, rfl⟩ := h10291
    refine sv hs (y_indexAt Try.runUnderlying22 Try.sizeOf3 rfl rfl h10293.1 h10293.2 h10294) rfl fun a hs => ?_
    refine sv hs (y_loadQ1 (j := 0) (hw.ownAt 4 rfl) rfl Try.isAgg3 h10298 rfl) rfl fun a hs => ?_
    refine av hs rfl rfl fun a hs => ?_
    refine nl ?_
    refine sr ?_
    refine sv hs (y_loadBA (hw.ownAt 1 rfl) rfl Try.isAgg29 Try.sizeOf29 rfl rfl) rfl fun a hs => ?_
    refine mv hs rfl rfl fun a hs => ?_
    refine mv hs rfl rfl fun a hs => ?_
    obtain ⟨rv10300, h10299, hsh⟩ := bind_t hsh
    refine st_callR hs (receiver_Request_ok h10299 hw.dom (hw.envAt 1 rfl) (hw.envAt 2 rfl)) (do_call Try.call25 rfl) trivial rfl rfl ?_
    intro v10308 Sv10305 w a h10306 h10307 hs
    obtain ⟨p10301, k10302, c10304, rfl, h10309, h10303⟩ := h10307
    have hw := hw.callN h10306 h10309
    have hw := hw.addE (e := RowA c10304 rv10300.1) h10303
    refine mv hs rfl rfl fun a hs => ?_
    refine sv hs (y_extract rfl rfl) rfl fun a hs => ?_
    refine sv hs (y_extract rfl rfl) rfl fun a hs => ?_
    refine av hs rfl rfl fun a hs => ?_
    refine av hs rfl rfl fun a hs => ?_
    refine nl ?_
    refine sr ?_
    refine sv hs (y_loadBA (hw.ownAt 2 rfl) rfl Try.isAgg29 Try.sizeOf29 rfl rfl) rfl fun a hs => ?_
    refine mv hs rfl rfl fun a hs => ?_
    refine mv hs rfl rfl fun a hs => ?_
    obtain ⟨rv10311, h10310, hsh⟩ := bind_t hsh
    refine st_callR hs (ref11_Request_ok h10310 hw.dom (hw.envAt 2 rfl) (hw.envAt 3 rfl)) (do_call Try.call26 rfl) trivial rfl rfl ?_
    intro v10319 Sv10316 w a h10317 h10318 hs
    obtain ⟨p10312, k10313, c10315, rfl, h10320, h10314⟩ := h10318
    have hw := hw.callN h10317 h10320
    have hw := hw.addE (e := RowA c10315 rv10311.1) h10314
    refine mv hs rfl rfl fun a hs => ?_
    refine sv hs (y_extract rfl rfl) rfl fun a hs => ?_
    refine sv hs (y_extract rfl rfl) rfl fun a hs => ?_
    refine av hs rfl rfl fun a hs => ?_
    refine av hs rfl rfl fun a hs => ?_
    refine nl ?_
    refine sr ?_
    refine mv hs rfl rfl fun a hs => ?_
    refine mv hs rfl rfl fun a hs => ?_
    refine sv hs (y_neq rfl rfl) rfl fun a hs => ?_
    refine mv hs rfl rfl fun a hs => ?_
    obtain ⟨c10329, hc10329, hsh⟩ := bind_t hsh
    refine wpl_join 5 (fun a w => ∃ (Sv10330 : Nat → Prop), Sl 238 [(2, .int .i64 seq12), (3, .int .i64 below13), (4, .int .i64 next14), (5, .int .i64 most15), (13, .pointer (some ⟨b43, 0, none⟩)), (17, .pointer (some ⟨b7443, 0, none⟩)), (31, .int .i64 x9865), (77, .slice (some ⟨b129, 0, none⟩) ([rv53.1, (⟨l70, l92⟩ : Receiver), raw5] : List Receiver).length ([rv53.1, (⟨l70, l92⟩ : Receiver), raw5] : List Receiver).length), (78, .int .i64 (([rv53.1, (⟨l70, l92⟩ : Receiver), raw5] : List Receiver).length : Int)), (79, .int .i64 sv3258.2.2), (150, .slice (some ⟨b8322, 0, none⟩) ([next14, (w64 (rv8312.1 - 1)), 1073741825] : List Int).length ([next14, (w64 (rv8312.1 - 1)), 1073741825] : List Int).length), (151, .int .i64 (([next14, (w64 (rv8312.1 - 1)), 1073741825] : List Int).length : Int)), (152, .int .i64 sv8983.2.2), (181, .slice (some ⟨b9926, 0, none⟩) ([most15, (w64 (rv9916.1 - 1))] : List Int).length ([most15, (w64 (rv9916.1 - 1))] : List Int).length), (182, .int .i64 (([most15, (w64 (rv9916.1 - 1))] : List Int).length : Int)), (183, .int .i64 sv10082), (209, .bool c10329)] a ∧ Wd ⟨w0, S0, []⟩ Sv10330 [.box b43 [.slice p9917 rv9916.2.L.length k9918, .int .i64 rv9916.2.At] 57, .box b7443 [.slice p7435 x7428.Got.length k7437, .slice p7439 x7428.Lost.length k7441] 29, .row (some ⟨b129, 0, none⟩) ([rv53.1, (⟨l70, l92⟩ : Receiver), raw5] : List Receiver).length ([rv53.1, (⟨l70, l92⟩ : Receiver), raw5] : List Receiver).length [.slice p54 rv53.1.Got.length k55, .slice p57 rv53.1.Lost.length k58, .slice p71 l70.length k72, .slice p93 l92.length k94, .slice p6 raw5.Got.length k7, .slice p8 raw5.Lost.length k9] 29 2, .row (some ⟨b8322, 0, none⟩) ([next14, (w64 (rv8312.1 - 1)), 1073741825] : List Int).length ([next14, (w64 (rv8312.1 - 1)), 1073741825] : List Int).length [.int .i64 next14, .int .i64 (w64 (rv8312.1 - 1)), .int .i64 1073741825] 3 1, .row (some ⟨b9926, 0, none⟩) ([most15, (w64 (rv9916.1 - 1))] : List Int).length ([most15, (w64 (rv9916.1 - 1))] : List Int).length [.int .i64 most15, .int .i64 (w64 (rv9916.1 - 1))] 3 1] [SlA p9917 rv9916.2.L.length k9918 rv9916.2.L, SlA p7435 x7428.Got.length k7437 x7428.Got, SlA p7439 x7428.Lost.length k7441 x7428.Lost, RowA [.slice p54 rv53.1.Got.length k55, .slice p57 rv53.1.Lost.length k58, .slice p71 l70.length k72, .slice p93 l92.length k94, .slice p6 raw5.Got.length k7, .slice p8 raw5.Lost.length k9] ([rv53.1, (⟨l70, l92⟩ : Receiver), raw5] : List Receiver), RowA [.int .i64 next14, .int .i64 (w64 (rv8312.1 - 1)), .int .i64 1073741825] ([next14, (w64 (rv8312.1 - 1)), 1073741825] : List Int), RowA [.int .i64 most15, .int .i64 (w64 (rv9916.1 - 1))] ([most15, (w64 (rv9916.1 - 1))] : List Int)] w) ?_ ?_
    ·rcases Bool.eq_false_or_eq_true (rv10300.2 != rv10311.2) with h10328 | h10328
     ·have hs := hs.fix 204 (.bool true) rfl (vb h10328)
      have hsh := ite_t hc10329 h10328
      refine st_skip hs rfl rfl rfl rfl rfl fun a hs => ?_
      refine st_skip hs rfl rfl rfl rfl rfl fun a hs => ?_
      refine st_skip hs rfl rfl rfl rfl rfl fun a hs => ?_
      refine st_skip hs rfl rfl rfl rfl rfl fun a hs => ?_
      refine sv hs (y_pickT rfl rfl) rfl fun a hs => ?_
      refine wpList_nil ?_
      have hsh := oi hsh
      subst hsh
      refine then_normal ?_
      exact ⟨Sv10316, (hs.wk rfl), (hw.ft [2, 3, 4, 5, 6] [2, 3, 4, 5, 6, 7] (by decide) rfl rfl)⟩
     have hs := hs.fix 204 (.bool false) rfl (vb h10328)
     have hsh := ite_f hc10329 h10328
     refine st_val hs (y_move rfl) ⟨_, rfl, rfl⟩ rfl rfl fun a hs => ?_
     refine st_val hs (y_move rfl) ⟨_, rfl, rfl⟩ rfl rfl fun a hs => ?_
     obtain ⟨rv10332, h10331, hsh⟩ := bind_t hsh
     refine st_callR hs (ref08_Same_ok h10331 hw.bdom (hw.bRow 1 rfl 1 rfl) (hw.bRow 0 rfl 0 rfl)) (do_call Try.call24 rfl) ⟨_, rfl, rfl⟩ rfl rfl ?_
     intro v10336 Sv10333 w a h10334 h10335 hs
     subst h10335
     have hw := hw.callB h10334
     refine st_val hs (y_not rfl) ⟨_, rfl, rfl⟩ rfl rfl fun a hs => ?_
     refine sv hs (y_pickF rfl rfl) rfl fun a hs => ?_
     refine wpList_nil ?_
     have hsh := oi hsh
     subst hsh
     refine then_normal ?_
     exact ⟨Sv10316, (hs.wk rfl), (hw.ft [2, 3, 4, 5, 6] [2, 3, 4, 5, 6, 7] (by decide) rfl rfl)⟩
    rintro a w ⟨Sv10330, hs, hw⟩
    refine nl ?_
    refine wp_cond_split (hs.ev rfl) (fun h10339 => ?_) (fun h10339 => ?_)
    ·have hsh := ite_t hsh h10339
     refine sr ?_
     refine av hs rfl rfl fun a hs => ?_
     refine nl ?_
     have hsh := oi hsh
     subst hsh
     have h10340 := hd10235 _ rfl
     subst h10340
     have h10341 := hd9641 _ rfl
     subst h10341
     have h10342 := hd6382 _ rfl
     subst h10342
     refine wp_ret ?_
     refine blk_ret ?_
     refine then_ret ?_
     refine then_ret ?_
     refine blk_ret ?_
     refine blk_ret ?_
     refine then_ret ?_
     refine then_ret ?_
     refine blk_ret ?_
     refine then_ret ?_
     refine blk_ret ?_
     refine then_ret ?_
     refine then_ret ?_
     refine blk_ret ?_
     refine then_ret ?_
     exact ret1 hs rfl (rv_tmp rfl) (hw.ret rfl)
    have hsh := ite_f hsh h10339
    refine wp_skip ?_
    refine blk_normal ?_
    refine then_normal ?_
    refine wp_region_lit ?_
    refine sv hs (y_add rfl rfl) rfl fun a hs => ?_
    refine mv hs rfl rfl fun a hs => ?_
    refine nl ?_
    exact ⟨_, (Option.some.inj hsh).symm, Sv10330, (hs.wk rfl), (hw.ft [0, 1, 2, 3, 4] [0, 1, 2, 3, 4, 5] (by decide) rfl rfl)⟩
   have hsh := ite_f hsh h10240
   obtain ⟨rv10343, hsh, h10344⟩ := map_t hsh
   have h10344 := (hd10235 _ h10344.symm).symm
   subst h10344
   refine wp_exit ?_
   refine then_exit ?_
   refine then_exit ?_
   refine blk_exit ?_
   refine blk_normal ?_
   refine then_normal ?_
   refine wp_region_lit ?_
   refine sv hs (y_add rfl rfl) rfl fun a hs => ?_
   refine mv hs rfl rfl fun a hs => ?_
   refine nl ?_
   exact ⟨_, (Option.some.inj hsh).symm, p9917, k9918, Sv10184, (hs.wk rfl), (hw.ft [0, 1, 2, 3] [0, 1, 2, 3, 4] (by decide) rfl rfl)⟩
  have hsh := ite_f hsh h9646
  obtain ⟨rv10439, hsh, h10440⟩ := map_t hsh
  have h10440 := (hd9641 _ h10440.symm).symm
  subst h10440
  refine wp_exit ?_
  refine then_exit ?_
  refine then_exit ?_
  refine blk_exit ?_
  refine then_normal ?_
  refine wp_seq ?_
  obtain ⟨rv10346, h10345, hsh⟩ := bind_t hsh
  obtain ⟨rv10348, h10347, hsh⟩ := bind_t hsh
  obtain ⟨c10353, hc10353, hsh⟩ := bind_t hsh
  obtain ⟨c10358, hc10358, hsh⟩ := bind_t hsh
  refine wp_only (fun a w => ∃ (Sv10359 : Nat → Prop), Sl 238 [(2, .int .i64 seq12), (3, .int .i64 below13), (4, .int .i64 next14), (5, .int .i64 most15), (13, .pointer (some ⟨b43, 0, none⟩)), (77, .slice (some ⟨b129, 0, none⟩) ([rv53.1, (⟨l70, l92⟩ : Receiver), raw5] : List Receiver).length ([rv53.1, (⟨l70, l92⟩ : Receiver), raw5] : List Receiver).length), (78, .int .i64 (([rv53.1, (⟨l70, l92⟩ : Receiver), raw5] : List Receiver).length : Int)), (79, .int .i64 sv3258.2.2), (230, .bool c10358)] a ∧ Wd ⟨w0, S0, []⟩ Sv10359 [.box b43 [.slice p9421 sv8983.1.length k9422, .int .i64 sv8983.2.1] 57, .row (some ⟨b129, 0, none⟩) ([rv53.1, (⟨l70, l92⟩ : Receiver), raw5] : List Receiver).length ([rv53.1, (⟨l70, l92⟩ : Receiver), raw5] : List Receiver).length [.slice p54 rv53.1.Got.length k55, .slice p57 rv53.1.Lost.length k58, .slice p71 l70.length k72, .slice p93 l92.length k94, .slice p6 raw5.Got.length k7, .slice p8 raw5.Lost.length k9] 29 2] [SlA p9421 sv8983.1.length k9422 sv8983.1, RowA [.slice p54 rv53.1.Got.length k55, .slice p57 rv53.1.Lost.length k58, .slice p71 l70.length k72, .slice p93 l92.length k94, .slice p6 raw5.Got.length k7, .slice p8 raw5.Lost.length k9] ([rv53.1, (⟨l70, l92⟩ : Receiver), raw5] : List Receiver)] w) ?_ ?_
  ·rcases Bool.eq_false_or_eq_true (!(rv10346 == rv10348)) with h10360 | h10360
   ·have h10361 := ite_t hc10353 h10360
    have h10362 : c10353 = true := (Option.some.inj h10361).symm
    have h10363 := ite_t hc10358 h10362
    refine h_b (C := Cls [.box b43 [.slice p9421 sv8983.1.length k9422, .int .i64 sv8983.2.1] 57, .box b7443 [.slice p7435 x7428.Got.length k7437, .slice p7439 x7428.Lost.length k7441] 29, .row (some ⟨b129, 0, none⟩) ([rv53.1, (⟨l70, l92⟩ : Receiver), raw5] : List Receiver).length ([rv53.1, (⟨l70, l92⟩ : Receiver), raw5] : List Receiver).length [.slice p54 rv53.1.Got.length k55, .slice p57 rv53.1.Lost.length k58, .slice p71 l70.length k72, .slice p93 l92.length k94, .slice p6 raw5.Got.length k7, .slice p8 raw5.Lost.length k9] 29 2, .row (some ⟨b8322, 0, none⟩) ([next14, (w64 (rv8312.1 - 1)), 1073741825] : List Int).length ([next14, (w64 (rv8312.1 - 1)), 1073741825] : List Int).length [.int .i64 next14, .int .i64 (w64 (rv8312.1 - 1)), .int .i64 1073741825] 3 1] []) (by kernel_rfl) rfl (hw.drew.cs [0, 1, 2, 3] [] rfl rfl) fun hC => ?_
    have hw := hw.drew
    refine gv hs 0 rfl rfl hC (fun w hC => y_loadBA (hC.ownAt 1 rfl) rfl Try.isAgg29 Try.sizeOf29 rfl rfl) fun a hs => ?_
    refine gv hs 2 rfl rfl hC (fun w hC => y_loadBA (hC.ownAt 1 rfl) rfl Try.isAgg29 Try.sizeOf29 rfl rfl) fun a hs => ?_
    refine ho 1 rfl ?_
    refine st_callR hs (receiver_Valid_ok h10345 hw.bdom (hw.bE 1 rfl) (hw.bE 2 rfl)) (do_call Try.call15 rfl) trivial rfl rfl ?_
    intro v10367 Sv10364 w a h10365 h10366 hs
    subst h10366
    have hw := hw.callB h10365
    refine h_nx (hw.cs [0, 1, 2, 3] [] rfl rfl) fun hC => ?_
    refine ho 3 rfl ?_
    refine st_callR hs (ref11_Valid_ok h10347 hw.bdom (hw.bE 1 rfl) (hw.bE 2 rfl)) (do_call Try.call27 rfl) trivial rfl rfl ?_
    intro v10372 Sv10369 w a h10370 h10371 hs
    subst h10371
    have hw := hw.callB h10370
    refine h_nx (hw.cs [0, 1, 2, 3] [] rfl rfl) fun hC => ?_
    refine gv hs 4 rfl rfl hC (fun w hC => y_neqB Try.runUnderlying4 rfl rfl) fun a hs => ?_
    refine gm hs 5 rfl rfl rfl hC fun a hs => ?_
    have hs := hs.fix 217 (.bool true) rfl (vb h10360)
    refine gs hs 6 rfl rfl rfl rfl hC fun a hs => ?_
    refine gs hs 7 rfl rfl rfl rfl hC fun a hs => ?_
    refine gs hs 8 rfl rfl rfl rfl hC fun a hs => ?_
    refine gs hs 9 rfl rfl rfl rfl hC fun a hs => ?_
    refine gs hs 10 rfl rfl rfl rfl hC fun a hs => ?_
    refine gv hs 11 rfl rfl hC (fun w hC => y_pickTE (v := .bool c10353) rfl rfl (vbs h10361)) fun a hs => ?_
    refine gm hs 12 rfl rfl rfl hC fun a hs => ?_
    have hs := hs.fix 224 (.bool true) rfl (vb h10362)
    refine gs hs 13 rfl rfl rfl rfl hC fun a hs => ?_
    refine gs hs 14 rfl rfl rfl rfl hC fun a hs => ?_
    refine gs hs 15 rfl rfl rfl rfl hC fun a hs => ?_
    refine gs hs 16 rfl rfl rfl rfl hC fun a hs => ?_
    refine gs hs 17 rfl rfl rfl rfl hC fun a hs => ?_
    refine gv hs 18 rfl rfl hC (fun w hC => y_pickTE (v := .bool c10358) rfl rfl (vbs h10363)) fun a hs => ?_
    refine h_done (by kernel_rfl) ?_
    exact ⟨Sv9423, (hs.wk rfl), (hw.ft [0, 2] [0, 3] (by decide) rfl rfl)⟩
   have h10374 := ite_f hc10353 h10360
   obtain ⟨rv10376, h10375, h10374⟩ := bind_t h10374
   obtain ⟨rv10378, h10377, h10374⟩ := bind_t h10374
   rcases Bool.eq_false_or_eq_true c10353 with h10379 | h10379
   ·have h10380 := ite_t hc10358 h10379
    refine h_b (C := Cls [.box b43 [.slice p9421 sv8983.1.length k9422, .int .i64 sv8983.2.1] 57, .box b7443 [.slice p7435 x7428.Got.length k7437, .slice p7439 x7428.Lost.length k7441] 29, .row (some ⟨b129, 0, none⟩) ([rv53.1, (⟨l70, l92⟩ : Receiver), raw5] : List Receiver).length ([rv53.1, (⟨l70, l92⟩ : Receiver), raw5] : List Receiver).length [.slice p54 rv53.1.Got.length k55, .slice p57 rv53.1.Lost.length k58, .slice p71 l70.length k72, .slice p93 l92.length k94, .slice p6 raw5.Got.length k7, .slice p8 raw5.Lost.length k9] 29 2, .row (some ⟨b8322, 0, none⟩) ([next14, (w64 (rv8312.1 - 1)), 1073741825] : List Int).length ([next14, (w64 (rv8312.1 - 1)), 1073741825] : List Int).length [.int .i64 next14, .int .i64 (w64 (rv8312.1 - 1)), .int .i64 1073741825] 3 1] []) (by kernel_rfl) rfl (hw.drew.cs [0, 1, 2, 3] [] rfl rfl) fun hC => ?_
    have hw := hw.drew
    refine gv hs 0 rfl rfl hC (fun w hC => y_loadBA (hC.ownAt 1 rfl) rfl Try.isAgg29 Try.sizeOf29 rfl rfl) fun a hs => ?_
    refine gv hs 2 rfl rfl hC (fun w hC => y_loadBA (hC.ownAt 1 rfl) rfl Try.isAgg29 Try.sizeOf29 rfl rfl) fun a hs => ?_
    refine ho 1 rfl ?_
    refine st_callR hs (receiver_Valid_ok h10345 hw.bdom (hw.bE 1 rfl) (hw.bE 2 rfl)) (do_call Try.call15 rfl) trivial rfl rfl ?_
    intro v10384 Sv10381 w a h10382 h10383 hs
    subst h10383
    have hw := hw.callB h10382
    refine h_nx (hw.cs [0, 1, 2, 3] [] rfl rfl) fun hC => ?_
    refine ho 3 rfl ?_
    refine st_callR hs (ref11_Valid_ok h10347 hw.bdom (hw.bE 1 rfl) (hw.bE 2 rfl)) (do_call Try.call27 rfl) trivial rfl rfl ?_
    intro v10389 Sv10386 w a h10387 h10388 hs
    subst h10388
    have hw := hw.callB h10387
    refine h_nx (hw.cs [0, 1, 2, 3] [] rfl rfl) fun hC => ?_
    refine gv hs 4 rfl rfl hC (fun w hC => y_neqB Try.runUnderlying4 rfl rfl) fun a hs => ?_
    refine gm hs 5 rfl rfl rfl hC fun a hs => ?_
    have hs := hs.fix 217 (.bool false) rfl (vb h10360)
    refine gt hs 6 rfl ⟨_, rfl, rfl⟩ rfl hC (fun w hC => y_loadBA (hC.ownAt 1 rfl) rfl Try.isAgg29 Try.sizeOf29 rfl rfl) fun a hs => ?_
    refine gt hs 8 rfl ⟨_, rfl, rfl⟩ rfl hC (fun w hC => y_loadBA (hC.ownAt 1 rfl) rfl Try.isAgg29 Try.sizeOf29 rfl rfl) fun a hs => ?_
    refine ho 7 rfl ?_
    refine st_callR hs (receiver_High_ok h10375 hw.bdom (hw.bE 1 rfl) (hw.bE 2 rfl)) (do_call Try.call18 rfl) ⟨_, rfl, rfl⟩ rfl rfl ?_
    intro v10394 Sv10391 w a h10392 h10393 hs
    subst h10393
    have hw := hw.callB h10392
    refine h_nx (hw.cs [0, 1, 2, 3] [] rfl rfl) fun hC => ?_
    refine ho 9 rfl ?_
    refine st_callR hs (ref11_High_ok h10377 hw.bdom (hw.bE 1 rfl) (hw.bE 2 rfl)) (do_call Try.call28 rfl) ⟨_, rfl, rfl⟩ rfl rfl ?_
    intro v10399 Sv10396 w a h10397 h10398 hs
    subst h10398
    have hw := hw.callB h10397
    refine h_nx (hw.cs [0, 1, 2, 3] [] rfl rfl) fun hC => ?_
    refine gt hs 10 rfl ⟨_, rfl, rfl⟩ rfl hC (fun w hC => y_neq rfl rfl) fun a hs => ?_
    refine gv hs 11 rfl rfl hC (fun w hC => y_pickFE (v := .bool c10353) rfl rfl (vbs h10374)) fun a hs => ?_
    refine gm hs 12 rfl rfl rfl hC fun a hs => ?_
    have hs := hs.fix 224 (.bool true) rfl (vb h10379)
    refine gs hs 13 rfl rfl rfl rfl hC fun a hs => ?_
    refine gs hs 14 rfl rfl rfl rfl hC fun a hs => ?_
    refine gs hs 15 rfl rfl rfl rfl hC fun a hs => ?_
    refine gs hs 16 rfl rfl rfl rfl hC fun a hs => ?_
    refine gs hs 17 rfl rfl rfl rfl hC fun a hs => ?_
    refine gv hs 18 rfl rfl hC (fun w hC => y_pickTE (v := .bool c10358) rfl rfl (vbs h10380)) fun a hs => ?_
    refine h_done (by kernel_rfl) ?_
    exact ⟨Sv9423, (hs.wk rfl), (hw.ft [0, 2] [0, 3] (by decide) rfl rfl)⟩
   have h10401 := ite_f hc10358 h10379
   obtain ⟨rv10403, h10402, h10401⟩ := bind_t h10401
   obtain ⟨rv10405, h10404, h10401⟩ := bind_t h10401
   refine h_b (C := Cls [.box b43 [.slice p9421 sv8983.1.length k9422, .int .i64 sv8983.2.1] 57, .box b7443 [.slice p7435 x7428.Got.length k7437, .slice p7439 x7428.Lost.length k7441] 29, .row (some ⟨b129, 0, none⟩) ([rv53.1, (⟨l70, l92⟩ : Receiver), raw5] : List Receiver).length ([rv53.1, (⟨l70, l92⟩ : Receiver), raw5] : List Receiver).length [.slice p54 rv53.1.Got.length k55, .slice p57 rv53.1.Lost.length k58, .slice p71 l70.length k72, .slice p93 l92.length k94, .slice p6 raw5.Got.length k7, .slice p8 raw5.Lost.length k9] 29 2, .row (some ⟨b8322, 0, none⟩) ([next14, (w64 (rv8312.1 - 1)), 1073741825] : List Int).length ([next14, (w64 (rv8312.1 - 1)), 1073741825] : List Int).length [.int .i64 next14, .int .i64 (w64 (rv8312.1 - 1)), .int .i64 1073741825] 3 1] []) (by kernel_rfl) rfl (hw.drew.cs [0, 1, 2, 3] [] rfl rfl) fun hC => ?_
   have hw := hw.drew
   refine gv hs 0 rfl rfl hC (fun w hC => y_loadBA (hC.ownAt 1 rfl) rfl Try.isAgg29 Try.sizeOf29 rfl rfl) fun a hs => ?_
   refine gv hs 2 rfl rfl hC (fun w hC => y_loadBA (hC.ownAt 1 rfl) rfl Try.isAgg29 Try.sizeOf29 rfl rfl) fun a hs => ?_
   refine ho 1 rfl ?_
   refine st_callR hs (receiver_Valid_ok h10345 hw.bdom (hw.bE 1 rfl) (hw.bE 2 rfl)) (do_call Try.call15 rfl) trivial rfl rfl ?_
   intro v10409 Sv10406 w a h10407 h10408 hs
   subst h10408
   have hw := hw.callB h10407
   refine h_nx (hw.cs [0, 1, 2, 3] [] rfl rfl) fun hC => ?_
   refine ho 3 rfl ?_
   refine st_callR hs (ref11_Valid_ok h10347 hw.bdom (hw.bE 1 rfl) (hw.bE 2 rfl)) (do_call Try.call27 rfl) trivial rfl rfl ?_
   intro v10414 Sv10411 w a h10412 h10413 hs
   subst h10413
   have hw := hw.callB h10412
   refine h_nx (hw.cs [0, 1, 2, 3] [] rfl rfl) fun hC => ?_
   refine gv hs 4 rfl rfl hC (fun w hC => y_neqB Try.runUnderlying4 rfl rfl) fun a hs => ?_
   refine gm hs 5 rfl rfl rfl hC fun a hs => ?_
   have hs := hs.fix 217 (.bool false) rfl (vb h10360)
   refine gt hs 6 rfl ⟨_, rfl, rfl⟩ rfl hC (fun w hC => y_loadBA (hC.ownAt 1 rfl) rfl Try.isAgg29 Try.sizeOf29 rfl rfl) fun a hs => ?_
   refine gt hs 8 rfl ⟨_, rfl, rfl⟩ rfl hC (fun w hC => y_loadBA (hC.ownAt 1 rfl) rfl Try.isAgg29 Try.sizeOf29 rfl rfl) fun a hs => ?_
   refine ho 7 rfl ?_
   refine st_callR hs (receiver_High_ok h10375 hw.bdom (hw.bE 1 rfl) (hw.bE 2 rfl)) (do_call Try.call18 rfl) ⟨_, rfl, rfl⟩ rfl rfl ?_
   intro v10419 Sv10416 w a h10417 h10418 hs
   subst h10418
   have hw := hw.callB h10417
   refine h_nx (hw.cs [0, 1, 2, 3] [] rfl rfl) fun hC => ?_
   refine ho 9 rfl ?_
   refine st_callR hs (ref11_High_ok h10377 hw.bdom (hw.bE 1 rfl) (hw.bE 2 rfl)) (do_call Try.call28 rfl) ⟨_, rfl, rfl⟩ rfl rfl ?_
   intro v10424 Sv10421 w a h10422 h10423 hs
   subst h10423
   have hw := hw.callB h10422
   refine h_nx (hw.cs [0, 1, 2, 3] [] rfl rfl) fun hC => ?_
   refine gt hs 10 rfl ⟨_, rfl, rfl⟩ rfl hC (fun w hC => y_neq rfl rfl) fun a hs => ?_
   refine gv hs 11 rfl rfl hC (fun w hC => y_pickFE (v := .bool c10353) rfl rfl (vbs h10374)) fun a hs => ?_
   refine gm hs 12 rfl rfl rfl hC fun a hs => ?_
   have hs := hs.fix 224 (.bool false) rfl (vb h10379)
   refine gt hs 13 rfl ⟨_, rfl, rfl⟩ rfl hC (fun w hC => y_loadBA (hC.ownAt 1 rfl) rfl Try.isAgg29 Try.sizeOf29 rfl rfl) fun a hs => ?_
   refine gt hs 15 rfl ⟨_, rfl, rfl⟩ rfl hC (fun w hC => y_loadBA (hC.ownAt 1 rfl) rfl Try.isAgg29 Try.sizeOf29 rfl rfl) fun a hs => ?_
   refine ho 14 rfl ?_
   refine st_callR hs (receiver_Settled_ok h10402 hw.bdom (hw.bE 1 rfl) (hw.bE 2 rfl)) (do_call Try.call19 rfl) ⟨_, rfl, rfl⟩ rfl rfl ?_
   intro v10429 Sv10426 w a h10427 h10428 hs
   subst h10428
   have hw := hw.callB h10427
   refine h_nx (hw.cs [0, 1, 2, 3] [] rfl rfl) fun hC => ?_
   refine ho 16 rfl ?_
   refine st_callR hs (ref11_Settled_ok h10404 hw.bdom (hw.bE 1 rfl) (hw.bE 2 rfl)) (do_call Try.call29 rfl) ⟨_, rfl, rfl⟩ rfl rfl ?_
   intro v10434 Sv10431 w a h10432 h10433 hs
   subst h10433
   have hw := hw.callB h10432
   refine h_nx (hw.cs [0, 1, 2, 3] [] rfl rfl) fun hC => ?_
   refine gt hs 17 rfl ⟨_, rfl, rfl⟩ rfl hC (fun w hC => y_neq rfl rfl) fun a hs => ?_
   refine gv hs 18 rfl rfl hC (fun w hC => y_pickFE (v := .bool c10358) rfl rfl (vbs h10401)) fun a hs => ?_
   refine h_done (by kernel_rfl) ?_
   exact ⟨Sv9423, (hs.wk rfl), (hw.ft [0, 2] [0, 3] (by decide) rfl rfl)⟩
  rintro a w ⟨Sv10359, hs, hw⟩
  refine then_normal ?_
  refine wp_cond_split (hs.ev rfl) (fun h10437 => ?_) (fun h10437 => ?_)
  ·have hsh := ite_t hsh h10437
   refine sr ?_
   refine av hs rfl rfl fun a hs => ?_
   refine nl ?_
   have hsh := oi hsh
   subst hsh
   have h10438 := hd6382 _ rfl
   subst h10438
   refine wp_ret ?_
   refine blk_ret ?_
   refine then_ret ?_
   refine then_ret ?_
   refine blk_ret ?_
   refine then_ret ?_
   exact ret1 hs rfl (rv_tmp rfl) (hw.ret rfl)
  have hsh := ite_f hsh h10437
  refine wp_skip ?_
  refine blk_normal ?_
  refine then_normal ?_
  refine wp_region_lit ?_
  refine sv hs (y_add rfl rfl) rfl fun a hs => ?_
  refine mv hs rfl rfl fun a hs => ?_
  refine nl ?_
  exact ⟨_, (Option.some.inj hsh).symm, p9421, k9422, Sv10359, (hs.wk rfl), (hw.ft [0, 1] [0, 1] (by decide) rfl rfl)⟩
 have hsh := ite_f hsh h6387
 obtain ⟨rv10493, hsh, h10494⟩ := map_t hsh
 have h10494 := (hd6382 _ h10494.symm).symm
 subst h10494
 refine wp_exit ?_
 refine then_exit ?_
 refine then_exit ?_
 refine blk_exit ?_
 refine then_normal ?_
 refine sr ?_
 obtain ⟨rv10444, h10443, hsh⟩ := bind_t hsh
 refine st_callR hs (receiver_New_ok h10443 hw.dom) (do_call Try.call10 rfl) trivial rfl rfl ?_
 intro v10454 Sv10451 w a h10452 h10453 hs
 obtain ⟨p10445, k10446, p10448, k10449, rfl, h10447, h10450⟩ := h10453
 have hw := hw.call h10452
 have hw := hw.addE (e := SlA p10445 rv10444.Got.length k10446 rv10444.Got) h10447
 have hw := hw.addE (e := SlA p10448 rv10444.Lost.length k10449 rv10444.Lost) h10450
 obtain ⟨rv10457, h10456, hsh⟩ := bind_t hsh
 refine st_callR hs (ref11_New_ok h10456 hw.dom) (do_call Try.call30 rfl) trivial rfl rfl ?_
 intro v10467 Sv10464 w a h10465 h10466 hs
 obtain ⟨p10458, k10459, p10461, k10462, rfl, h10460, h10463⟩ := h10466
 have hw := hw.call h10465
 have hw := hw.addE (e := SlA p10458 rv10457.Got.length k10459 rv10457.Got) h10460
 have hw := hw.addE (e := SlA p10461 rv10457.Lost.length k10462 rv10457.Lost) h10463
 obtain ⟨rv10470, h10469, hsh⟩ := bind_t hsh
 refine st_callR hs (ref11_Same_ok h10469 hw.bdom (hw.bE 3 rfl) (hw.bE 2 rfl) (hw.bE 1 rfl) (hw.bE 0 rfl)) (do_call Try.call22 rfl) trivial rfl rfl ?_
 intro v10474 Sv10471 w a h10472 h10473 hs
 subst h10473
 have hw := hw.callB h10472
 refine mv hs rfl rfl fun a hs => ?_
 obtain ⟨c10484, hc10484, hsh⟩ := bind_t hsh
 refine wpl_join 2 (fun a w => ∃ (Sv10485 : Nat → Prop), Sl 238 [(237, .bool c10484)] a ∧ Wd ⟨w0, S0, []⟩ Sv10485 [] [] w) ?_ ?_
 ·rcases Bool.eq_false_or_eq_true rv10470 with h10483 | h10483
  ·have hs := hs.fix 235 (.bool true) rfl (vb h10483)
   have hsh := ite_t hc10484 h10483
   obtain ⟨rv10487, h10486, hsh⟩ := bind_t hsh
   refine st_callR hs (law11_sane_ok h10486 hw.bdom) (do_call Try.call8 rfl) ⟨_, rfl, rfl⟩ rfl rfl ?_
   intro v10491 Sv10488 w a h10489 h10490 hs
   subst h10490
   have hw := hw.callB h10489
   refine sv hs (y_pickT rfl rfl) rfl fun a hs => ?_
   refine wpList_nil ?_
   have hsh := oi hsh
   subst hsh
   refine then_normal ?_
   exact ⟨Sv10464, (hs.wk rfl), (hw.ft [] [] (by decide) rfl rfl)⟩
  have hs := hs.fix 235 (.bool false) rfl (vb h10483)
  have hsh := ite_f hc10484 h10483
  refine st_skip hs rfl rfl rfl rfl rfl fun a hs => ?_
  refine sv hs (y_pickF rfl rfl) rfl fun a hs => ?_
  refine wpList_nil ?_
  have hsh := oi hsh
  subst hsh
  refine then_normal ?_
  exact ⟨Sv10464, (hs.wk rfl), (hw.ft [] [] (by decide) rfl rfl)⟩
 rintro a w ⟨Sv10485, hs, hw⟩
 refine av hs rfl rfl fun a hs => ?_
 refine nl ?_
 have hsh := oi hsh
 subst hsh
 refine wp_ret ?_
 exact ret1 hs rfl (rv_tmp rfl) (hw.ret rfl)

end Go.Proofs.Ytiihddcppmjbaaa.Wk

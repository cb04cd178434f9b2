/- The walks of ReceiverOrder, part 3: each Go function computes what its plain program computes. Printed by a program of ours. -/
import Derived.Test.YtiihddcppmjbaaaProg
import Derived.Test.YtiihddcppmjbaaaDat
import Derived.Test.YtiihddcppmjbaaaSh
import Derived.Test.YtiihddcppmjbaaaLibL
import Derived.KernelRfl
import Derived.Test.YtiihddcppmjbaaaWReceiverOrder2
namespace Go.Proofs.Ytiihddcppmjbaaa.Wk
open Go Go.RowKit Go.Proofs Go.Proofs.Ytiihddcppmjbaaa.Sh
set_option linter.unusedVariables false
set_option linter.unusedSimpArgs false

abbrev span_Normal_rd (w0 : World) (X : List Nat) (r : (List Span)) : (Nat → Prop) → World → Value → Prop := fun S w v => ∃ (p0_0 : Option Addr) (k0_0 : Nat) (c0_0 : List Value), v = .slice p0_0 r.length k0_0 ∧ Outs X w0 S w [.row p0_0 r.length k0_0 c0_0 46 2] ∧ (RowA c0_0 r).p S w
set_option maxHeartbeats 4000000 in
set_option maxRecDepth 100000 in
theorem span_Normal_ok {w0 : World} {S0 : Nat → Prop} {p2 : Option Addr} {k3 : Nat} {l1 : (List Span)} {r : (List Span)} (hsh : span_Normal l1 = some r) (hS : ∀ b, S0 b → b < w0.heap.size) (h4 : (SlA p2 l1.length k3 l1).p S0 w0) : Calls Try.prog 53 #[.slice p2 l1.length k3] w0 (Ret ([]) w0 S0 (span_Normal_rd w0 ([]) r)) := by
 refine calls_of_wp Try.func53 rfl ?_
 have hs := Sl.enter #[.slice p2 l1.length k3] 54 [(0, .slice p2 l1.length k3)] rfl ⟨rfl, trivial⟩
 have hw := Wd.enter (E := []) hS (fun _ h => (by cases h))
 have hw := hw.addE h4
 delta span_Normal at hsh
 refine wp_seq ?_
 refine wp_region_lit ?_
 refine st_val hs (y_assign rfl) trivial rfl rfl fun a hs => ?_
 refine wpList_nil ?_
 refine then_normal ?_
 refine wp_seq ?_
 refine wp_region_lit ?_
 refine st_val hs (y_move rfl) trivial rfl rfl fun a hs => ?_
 obtain ⟨rv6, h5, hsh⟩ := bind_t hsh
 refine st_callR hs (slices_Clone_Lapi_Span_api_Span_ok h5 hw.dom (hw.envAt 0 rfl)) (do_call Try.call37 rfl) trivial rfl rfl ?_
 intro v14 Sv11 w a h12 h13 hs
 obtain ⟨p7, k8, c10, rfl, h15, h9⟩ := h13
 have hw := hw.callN h12 h15
 have hw := hw.addE (e := RowA c10 rv6) h9
 obtain ⟨rv17, h16, hsh⟩ := bind_t hsh
 refine st_callR hs (slices_DeleteFunc_Lapi_Span_api_Span_ok h16 hw.dom (hw.ins [0] (by decide) rfl) (hw.envAt 0 rfl) (span_Normal_fn1_fn _ _)) (do_call Try.call60 rfl) trivial rfl rfl ?_
 intro v25 Sv22 w a h23 h24 hs
 obtain ⟨p18, k19, c21, rfl, h26, h20⟩ := h24
 have hw := hw.callO [0] [] (by decide) rfl h23 h26
 have hw := hw.addE (e := RowA c21 rv17) h20
 refine st_val hs (y_assign rfl) trivial rfl rfl fun a hs => ?_
 refine wpList_nil ?_
 refine then_normal ?_
 refine wp_seq ?_
 refine wp_region_lit ?_
 refine st_val hs (y_move rfl) trivial rfl rfl fun a hs => ?_
 obtain ⟨rv28, h27, hsh⟩ := bind_t hsh
 refine st_callR hs (slices_SortFunc_Lapi_Span_api_Span_ok h27 hw.dom (hw.ins [0] (by decide) rfl) (hw.envAt 0 rfl) (span_Normal_fn2_fn _ _)) (do_call Try.call62 rfl) trivial rfl rfl ?_
 intro v35 Sv32 w a h33 h34 hs
 obtain ⟨c29, rfl, h36, h30, h31⟩ := h34
 have hw := hw.callO [0] [] (by decide) rfl h33 h36
 have hw := hw.addE (e := RowA c29 rv28) h30
 have h37 := h31
 have h38 := Eq.symm h37
 try have hs := hs.fix 3 (.slice p18 rv28.length k19) rfl (by rw [h38])
 try have hs := hs.fix 11 (.slice p18 rv28.length k19) rfl (by rw [h38])
 refine wpList_nil ?_
 refine then_normal ?_
 refine wp_seq ?_
 refine wp_region_lit ?_
 refine st_val hs (y_assign rfl) trivial rfl rfl fun a hs => ?_
 refine wpList_nil ?_
 refine then_normal ?_
 refine wp_seq ?_
 refine wp_seq ?_
 refine wp_region_lit ?_
 refine st_val hs (y_move rfl) trivial rfl rfl fun a hs => ?_
 refine st_val hs (y_len Try.runUnderlying27 rfl) trivial rfl rfl fun a hs => ?_
 refine st_val hs (y_move rfl) trivial rfl rfl fun a hs => ?_
 refine wpList_nil ?_
 refine then_normal ?_
 obtain ⟨e261, h462, hsh⟩ := bind_t hsh
 refine wp_join (fun a w => ∃ (c262 : List Value) (p263 : Option Addr) (k264 : Nat) (Sv265 : Nat → Prop), Sl 54 [(4, .slice p263 e261.length k264)] a ∧ Wd ⟨w0, S0, []⟩ Sv265 [.row p263 e261.length k264 c262 46 2] [RowA c262 e261] w) ?_ ?_
 ·refine wp_block ?_
  have hw := hw.nilRow Span 46
  refine wp_while (fun sv39 a w => ∃ (c182 : List Value) (p183 : Option Addr) (k184 : Nat) (Sv185 : Nat → Prop), Sl 54 [(4, .slice p183 sv39.1.length k184), (13, .slice p18 rv28.length k19), (14, .int .i64 (rv28.length : Int)), (15, .int .i64 sv39.2)] a ∧ Wd ⟨w0, S0, []⟩ Sv185 [.row p183 sv39.1.length k184 c182 46 2, .row p18 rv28.length k19 c29 46 2] [RowA c182 sv39.1, RowA c29 rv28] w) (([] : List Span), 0) h462 ⟨[], none, 0, Sv32, (hs.wk rfl), (hw.ft [0, 1] [0, 1] (by decide) rfl rfl)⟩ ?_
  clear h462
  repeat clear hsh
  rintro sv39 a w tv259 ⟨c182, p183, k184, Sv185, hs, hw⟩ hsh hd258
  delta span_Normal_l1 at hsh
  refine wp_seq ?_
  refine wp_region_lit ?_
  refine st_val hs (y_lss rfl rfl) trivial rfl rfl fun a hs => ?_
  refine wpList_nil ?_
  refine then_normal ?_
  refine wp_seq ?_
  refine wp_cond_split (hs.ev rfl) (fun h267 => ?_) (fun h267 => ?_)
  ·have hsh := ite_t hsh h267
   refine wp_skip ?_
   refine then_normal ?_
   refine wp_seq ?_
   refine wp_block ?_
   refine wp_seq ?_
   refine wp_region_lit ?_
   obtain ⟨x341, h339, hsh⟩ := bind_t hsh
   obtain ⟨b348, q345, c346, h349, h342, h343, h347, h340⟩ := hw.elemRV (α := Span) 1 rfl 1 rfl h339
   have hsv350 := hs
   have hwv351 := hw
   subst h349
   have hs := hsv350
   have hw := hwv351
   obtain ⟨_, _, rfl, rfl, rfl⟩ := h340
   refine st_val hs (y_indexAt Try.runUnderlying27 Try.sizeOf46 rfl rfl h342.1 h342.2 h343) trivial rfl rfl fun a hs => ?_
   refine st_val hs (y_loadQA (j := 0) (hw.ownAt 1 rfl) rfl Try.isAgg46 Try.sizeOf46 h347 rfl rfl) trivial rfl rfl fun a hs => ?_
   refine w_alloc (cs := [.int .i64 0, .int .i64 0]) hs hw Try.zeroValue46 rfl rfl trivial ?_
   intro b352 a w hs hw
   refine w_store (m := 2) (cs' := [.int .i64 x341.From, .int .i64 x341.To]) hs hw 0 rfl rfl rfl Try.sizeOf46 rfl rfl rfl rfl trivial ?_
   intro a w hs hw
   refine wpList_nil ?_
   refine then_normal ?_
   refine wp_seq ?_
   refine wp_region_lit ?_
   refine st_val hs (y_move rfl) trivial rfl rfl fun a hs => ?_
   refine st_val hs (y_len Try.runUnderlying27 rfl) trivial rfl rfl fun a hs => ?_
   obtain ⟨n354, h353, hsh⟩ := bind_t hsh
   refine st_val hs (y_assignI rfl h353) trivial rfl rfl fun a hs => ?_
   refine wpList_nil ?_
   refine then_normal ?_
   refine wp_seq ?_
   obtain ⟨c368, hc368, hsh⟩ := bind_t hsh
   refine wp_only (fun a w => ∃ (Sv369 : Nat → Prop), Sl 54 [(4, .slice p183 sv39.1.length k184), (6, .pointer (some ⟨b352, 0, none⟩)), (7, .int .i64 n354), (13, .slice (some ⟨b348, 0, none⟩) rv28.length k19), (14, .int .i64 (rv28.length : Int)), (15, .int .i64 sv39.2), (33, .bool c368)] a ∧ Wd ⟨w0, S0, []⟩ Sv369 [.box b352 [.int .i64 x341.From, .int .i64 x341.To] 46, .row p183 sv39.1.length k184 c182 46 2, .row (some ⟨b348, 0, none⟩) rv28.length k19 c29 46 2] [RowA c182 sv39.1, RowA c29 rv28] w) ?_ ?_
   ·rcases Bool.eq_false_or_eq_true (decide (0 < n354)) with h370 | h370
    ·have h371 := ite_t hc368 h370
     obtain ⟨x374, h372, h371⟩ := bind_t h371
     obtain ⟨b381, q378, c379, h382, h375, h376, h380, h373⟩ := hw.elemRV (α := Span) 1 rfl 0 rfl h372
     have hsv383 := hs
     have hwv384 := hw
     subst h382
     have hs := hsv383
     have hw := hwv384
     obtain ⟨_, _, rfl, rfl, rfl⟩ := h373
     refine h_b (C := Cls [.box b352 [.int .i64 x341.From, .int .i64 x341.To] 46, .row (some ⟨b381, 0, none⟩) sv39.1.length k184 c182 46 2, .row (some ⟨b348, 0, none⟩) rv28.length k19 c29 46 2] []) (by kernel_rfl) rfl (hw.drew.cs [0, 1, 2] [] rfl rfl) fun hC => ?_
     have hw := hw.drew
     refine h_g hs 0 rfl (by kernel_rfl) rfl rfl hC rfl (fun w hC => y_move rfl) fun a hs => ?_
     refine h_g hs 1 rfl (by kernel_rfl) rfl rfl hC rfl (fun w hC => y_gtr rfl rfl) fun a hs => ?_
     refine h_g hs 2 rfl (by kernel_rfl) rfl rfl hC rfl (fun w hC => y_move rfl) fun a hs => ?_
     have hs := hs.fix 23 (.bool true) rfl (vb h370)
     refine h_t hs 3 rfl (by kernel_rfl) ⟨_, rfl, rfl⟩ rfl rfl hC (fun w hC => y_fieldAddr (o' := 0) Try.runUnderlying46 rfl Try.sizeOf3 rfl rfl rfl) fun a hs => ?_
     refine h_t hs 4 rfl (by kernel_rfl) ⟨_, rfl, rfl⟩ rfl rfl hC (fun w hC => y_loadB1 (hC.ownAt 0 rfl) rfl Try.isAgg3 rfl) fun a hs => ?_
     refine h_t hs 5 rfl (by kernel_rfl) ⟨_, rfl, rfl⟩ rfl rfl hC (fun w hC => y_move rfl) fun a hs => ?_
     refine h_t hs 6 rfl (by kernel_rfl) ⟨_, rfl, rfl⟩ rfl rfl hC (fun w hC => y_move rfl) fun a hs => ?_
     refine h_t hs 7 rfl (by kernel_rfl) ⟨_, rfl, rfl⟩ rfl rfl hC (fun w hC => y_sub rfl rfl) fun a hs => ?_
     refine h_t hs 8 rfl (by kernel_rfl) ⟨_, rfl, rfl⟩ rfl rfl hC (fun w hC => y_indexAt Try.runUnderlying27 Try.sizeOf46 rfl rfl h375.1 h375.2 h376) fun a hs => ?_
     refine h_t hs 9 rfl (by kernel_rfl) ⟨_, rfl, rfl⟩ rfl rfl hC (fun w hC => y_fieldAddr (o' := q378 + 1) Try.runUnderlying46 rfl Try.sizeOf3 rfl rfl rfl) fun a hs => ?_
     refine h_t hs 10 rfl (by kernel_rfl) ⟨_, rfl, rfl⟩ rfl rfl hC (fun w hC => y_loadQ1 (j := 1) (hC.ownAt 1 rfl) rfl Try.isAgg3 h380 rfl) fun a hs => ?_
     refine h_t hs 11 rfl (by kernel_rfl) ⟨_, rfl, rfl⟩ rfl rfl hC (fun w hC => y_leq rfl rfl) fun a hs => ?_
     refine h_g hs 12 rfl (by kernel_rfl) rfl rfl hC rfl (fun w hC => y_pickTE (v := .bool c368) rfl rfl (vbs h371)) fun a hs => ?_
     refine h_done (by kernel_rfl) ?_
     exact ⟨Sv185, (hs.wk rfl), (hw.ft [0, 1, 2] [0, 1] (by decide) rfl rfl)⟩
    ·have h385 := ite_f hc368 h370
     refine h_b (C := Cls [.box b352 [.int .i64 x341.From, .int .i64 x341.To] 46, .row p183 sv39.1.length k184 c182 46 2, .row (some ⟨b348, 0, none⟩) rv28.length k19 c29 46 2] []) (by kernel_rfl) rfl (hw.drew.cs [0, 1, 2] [] rfl rfl) fun hC => ?_
     have hw := hw.drew
     refine h_g hs 0 rfl (by kernel_rfl) rfl rfl hC rfl (fun w hC => y_move rfl) fun a hs => ?_
     refine h_g hs 1 rfl (by kernel_rfl) rfl rfl hC rfl (fun w hC => y_gtr rfl rfl) fun a hs => ?_
     refine h_g hs 2 rfl (by kernel_rfl) rfl rfl hC rfl (fun w hC => y_move rfl) fun a hs => ?_
     have hs := hs.fix 23 (.bool false) rfl (vb h370)
     refine h_s hs 3 rfl (by kernel_rfl) rfl rfl rfl (.inl rfl) rfl rfl hC fun a hs => ?_
     refine h_s hs 4 rfl (by kernel_rfl) rfl rfl rfl (.inl rfl) rfl rfl hC fun a hs => ?_
     refine h_s hs 5 rfl (by kernel_rfl) rfl rfl rfl (.inl rfl) rfl rfl hC fun a hs => ?_
     refine h_s hs 6 rfl (by kernel_rfl) rfl rfl rfl (.inl rfl) rfl rfl hC fun a hs => ?_
     refine h_s hs 7 rfl (by kernel_rfl) rfl rfl rfl (.inl rfl) rfl rfl hC fun a hs => ?_
     refine h_s hs 8 rfl (by kernel_rfl) rfl rfl rfl (.inl rfl) rfl rfl hC fun a hs => ?_
     refine h_s hs 9 rfl (by kernel_rfl) rfl rfl rfl (.inl rfl) rfl rfl hC fun a hs => ?_
     refine h_s hs 10 rfl (by kernel_rfl) rfl rfl rfl (.inl rfl) rfl rfl hC fun a hs => ?_
     refine h_s hs 11 rfl (by kernel_rfl) rfl rfl rfl (.inl rfl) rfl rfl hC fun a hs => ?_
     refine h_g hs 12 rfl (by kernel_rfl) rfl rfl hC rfl (fun w hC => y_pickFE (v := .bool c368) rfl rfl (vbs h385)) fun a hs => ?_
     refine h_done (by kernel_rfl) ?_
     exact ⟨Sv185, (hs.wk rfl), (hw.ft [0, 1, 2] [0, 1] (by decide) rfl rfl)⟩
   ·rintro a w ⟨Sv369, hs, hw⟩
    refine then_normal ?_
    refine wp_join (fun a w => ∃ (out425 : (List Span)) (c421 : List Value) (p422 : Option Addr) (k423 : Nat) (Sv424 : Nat → Prop), span_Normal_j1 sv39 out425 = some tv259 ∧ Sl 54 [(4, .slice p422 out425.length k423), (13, .slice (some ⟨b348, 0, none⟩) rv28.length k19), (14, .int .i64 (rv28.length : Int)), (15, .int .i64 sv39.2)] a ∧ Wd ⟨w0, S0, []⟩ Sv424 [.row p422 out425.length k423 c421 46 2, .row (some ⟨b348, 0, none⟩) rv28.length k19 c29 46 2] [RowA c421 out425, RowA c29 rv28] w) ?_ ?_
    ·refine wp_cond_split (hs.ev rfl) (fun h426 => ?_) (fun h426 => ?_)
     ·have hsh := ite_t hsh h426
      obtain ⟨x429, h427, hsh⟩ := bind_t hsh
      obtain ⟨b436, q433, c434, h437, h430, h431, h435, h428⟩ := hw.elemRV (α := Span) 1 rfl 0 rfl h427
      have hsv438 := hs
      have hwv439 := hw
      subst h437
      have hs := hsv438
      have hw := hwv439
      obtain ⟨_, _, rfl, rfl, rfl⟩ := h428
      obtain ⟨x442, h440, hsh⟩ := bind_t hsh
      obtain ⟨q446, c447, h443, h444, h448, h441⟩ := hw.elemRK (α := Span) 1 rfl 0 rfl h440
      obtain ⟨_, _, rfl, rfl, rfl⟩ := h441
      obtain ⟨l450, h449, hsh⟩ := bind_t hsh
      refine wp_only (fun a w => ∃ (Sv453 : Nat → Prop) (c451 : List Value), Sl 54 [(4, .slice (some ⟨b436, 0, none⟩) l450.length k184), (13, .slice (some ⟨b348, 0, none⟩) rv28.length k19), (14, .int .i64 (rv28.length : Int)), (15, .int .i64 sv39.2)] a ∧ Wd ⟨w0, S0, []⟩ Sv453 [.row (some ⟨b436, 0, none⟩) l450.length k184 c451 46 2, .row (some ⟨b348, 0, none⟩) rv28.length k19 c29 46 2] [RowA c451 l450, RowA c29 rv28] w) ?_ ?_
      ·refine h_b (C := Cls [.box b352 [.int .i64 x341.From, .int .i64 x341.To] 46, .row (some ⟨b348, 0, none⟩) rv28.length k19 c29 46 2] []) (by kernel_rfl) rfl (hw.drew.cs [0, 2] [] rfl rfl) fun hC => ?_
       have hw := hw.drew
       refine h_g hs 0 rfl (by kernel_rfl) rfl rfl hC rfl (fun w hC => y_move rfl) fun a hs => ?_
       refine h_g hs 1 rfl (by kernel_rfl) rfl rfl hC rfl (fun w hC => y_move rfl) fun a hs => ?_
       refine h_g hs 2 rfl (by kernel_rfl) rfl rfl hC rfl (fun w hC => y_sub rfl rfl) fun a hs => ?_
       refine h_g hs 3 rfl (by kernel_rfl) rfl rfl hC rfl (fun w hC => y_move rfl) fun a hs => ?_
       refine h_g hs 4 rfl (by kernel_rfl) rfl rfl hC rfl (fun w hC => y_move rfl) fun a hs => ?_
       refine h_g hs 5 rfl (by kernel_rfl) rfl rfl hC rfl (fun w hC => y_sub rfl rfl) fun a hs => ?_
       refine h_g hs 6 rfl (by kernel_rfl) rfl rfl hC rfl (fun w hC => y_indexAt Try.runUnderlying27 Try.sizeOf46 rfl rfl h430.1 h430.2 h431) fun a hs => ?_
       refine h_g hs 7 rfl (by kernel_rfl) rfl rfl hC rfl (fun w hC => y_fieldAddr (o' := q433 + 1) Try.runUnderlying46 rfl Try.sizeOf3 rfl rfl rfl) fun a hs => ?_
       refine h_g hs 9 rfl (by kernel_rfl) rfl rfl hC rfl (fun w hC => y_fieldAddr (o' := 1) Try.runUnderlying46 rfl Try.sizeOf3 rfl rfl rfl) fun a hs => ?_
       refine h_g hs 10 rfl (by kernel_rfl) rfl rfl hC rfl (fun w hC => y_loadB1 (hC.ownAt 0 rfl) rfl Try.isAgg3 rfl) fun a hs => ?_
       refine h_one (i := 8) (by kernel_rfl) rfl ?_
       refine st_val hs (y_loadQ1 (j := 1) (hw.ownAt 1 rfl) rfl Try.isAgg3 h435 rfl) trivial rfl rfl fun a hs => ?_
       refine h_nx (hw.cs [0, 2] [] rfl rfl) fun hC => ?_
       refine h_g hs 11 rfl (by kernel_rfl) rfl rfl hC rfl (fun w hC => y_max rfl rfl) fun a hs => ?_
       refine h_g hs 12 rfl (by kernel_rfl) rfl rfl hC rfl (fun w hC => y_indexAt Try.runUnderlying27 Try.sizeOf46 rfl rfl h443.1 h443.2 h444) fun a hs => ?_
       refine h_g hs 13 rfl (by kernel_rfl) rfl rfl hC rfl (fun w hC => y_fieldAddr (o' := q446 + 1) Try.runUnderlying46 rfl Try.sizeOf3 rfl rfl rfl) fun a hs => ?_
       refine h_one (i := 14) (by kernel_rfl) rfl ?_
       refine w_storeR (α := Span) (f := 1) (m := 1) hs hw 1 rfl 0 rfl h444 rfl rfl Try.sizeOf3 rfl rfl rfl h449 (fun es he => by rw [h448] at he; subst he; exact ⟨_, _, rfl, rfl, rfl⟩) trivial ?_
       intro c451 a w hs hw
       have h452 := setM_len h449
       try have hs := hs.fix 4 (.slice (some ⟨b436, 0, none⟩) l450.length k184) rfl (by rw [h452])
       try have hs := hs.fix 34 (.slice (some ⟨b436, 0, none⟩) l450.length k184) rfl (by rw [h452])
       try have hs := hs.fix 37 (.slice (some ⟨b436, 0, none⟩) l450.length k184) rfl (by rw [h452])
       refine h_nx (hw.cs [0, 2] [] rfl rfl) fun hC => ?_
       refine h_done (by kernel_rfl) ?_
       exact ⟨Sv369, c451, (hs.wk rfl), (hw.ft [1, 2] [0, 2] (by decide) rfl rfl)⟩
      ·rintro a w ⟨Sv453, c451, hs, hw⟩
       refine then_normal ?_
       exact ⟨l450, c451, (some ⟨b436, 0, none⟩), k184, Sv453, hsh, (hs.wk rfl), (hw.ft [0, 1] [0, 1] (by decide) rfl rfl)⟩
     ·have hsh := ite_f hsh h426
      refine wp_region_lit ?_
      refine st_val hs (y_move rfl) trivial rfl rfl fun a hs => ?_
      refine st_val hs (y_loadBA (hw.ownAt 0 rfl) rfl Try.isAgg46 Try.sizeOf46 rfl rfl) trivial rfl rfl fun a hs => ?_
      refine w_litSlice (α := Span) (vs := [.agg #[.int .i64 x341.From, .int .i64 x341.To]]) (cs := [.int .i64 x341.From, .int .i64 x341.To]) (xs := ([x341] : List Span)) hs hw El27 rfl rfl rfl rfl rfl rfl ⟨⟨_, _, rfl, rfl, rfl⟩, rfl⟩ rfl trivial rfl fun b455 a w hs hw => ?_
      obtain ⟨l457, h456, hsh⟩ := bind_t hsh
      refine w_appendR (α := Span) hs hw El27 2 rfl rfl rfl 1 rfl 0 rfl 0 rfl h456 rfl trivial ?_
      intro p458 k459 c460 a w hs hw
      refine st_val hs (y_assign rfl) trivial rfl rfl fun a hs => ?_
      refine wpList_nil ?_
      refine then_normal ?_
      exact ⟨l457, c460, p458, k459, Sv369, hsh, (hs.wk rfl), (hw.ft [2, 3] [0, 3] (by decide) rfl rfl)⟩
    ·rintro a w ⟨out425, c421, p422, k423, Sv424, hsh, hs, hw⟩
     delta span_Normal_j1 at hsh
     refine blk_normal ?_
     refine then_normal ?_
     refine wp_region_lit ?_
     refine st_val hs (y_add rfl rfl) trivial rfl rfl fun a hs => ?_
     refine st_val hs (y_move rfl) trivial rfl rfl fun a hs => ?_
     refine wpList_nil ?_
     refine then_normal ?_
     exact ⟨_, (Option.some.inj hsh).symm, c421, p422, k423, Sv424, (hs.wk rfl), (hw.ft [0, 1] [0, 1] (by decide) rfl rfl)⟩
  ·have hsh := ite_f hsh h267
   refine wp_exit ?_
   refine then_exit ?_
   refine then_exit ?_
   refine blk_exit ?_
   have hsh := Option.some.inj hsh
   subst hsh
   have h461 := hd258 _ rfl
   subst h461
   refine then_normal ?_
   exact ⟨c182, p183, k184, Sv185, (hs.wk rfl), (hw.ft [0] [0] (by decide) rfl rfl)⟩
 ·rintro a w ⟨c262, p263, k264, Sv265, hs, hw⟩
  refine then_normal ?_
  refine wp_seq ?_
  refine wp_region_lit ?_
  refine st_val hs (y_move rfl) trivial rfl rfl fun a hs => ?_
  refine st_val hs (y_assign rfl) trivial rfl rfl fun a hs => ?_
  refine wpList_nil ?_
  refine then_normal ?_
  have hsh := Option.some.inj hsh
  subst hsh
  refine wp_ret ?_
  exact ret1 hs rfl (rv_tmp rfl) (hw.ret ⟨p263, k264, c262, rfl, (hw.outs [0] (by decide) rfl), (hw.envAt 0 rfl)⟩)

abbrev span_Meet_rd (w0 : World) (X : List Nat) (r : (List Span)) : (Nat → Prop) → World → Value → Prop := fun S w v => ∃ (p0_0 : Option Addr) (k0_0 : Nat) (c0_0 : List Value), v = .slice p0_0 r.length k0_0 ∧ Outs X w0 S w [.row p0_0 r.length k0_0 c0_0 46 2] ∧ (RowA c0_0 r).p S w
set_option maxHeartbeats 4000000 in
set_option maxRecDepth 100000 in
theorem span_Meet_ok {w0 : World} {S0 : Nat → Prop} {p2 : Option Addr} {k3 : Nat} {p6 : Option Addr} {k7 : Nat} {a1 : (List Span)} {b5 : (List Span)} {r : (List Span)} (hsh : span_Meet a1 b5 = some r) (hS : ∀ b, S0 b → b < w0.heap.size) (h4 : (SlA p2 a1.length k3 a1).p S0 w0) (h8 : (SlA p6 b5.length k7 b5).p S0 w0) : Calls Try.prog 41 #[.slice p2 a1.length k3, .slice p6 b5.length k7] w0 (Ret ([]) w0 S0 (span_Meet_rd w0 ([]) r)) := by
 refine calls_of_wp Try.func41 rfl ?_
 have hs := Sl.enter #[.slice p2 a1.length k3, .slice p6 b5.length k7] 68 [(0, .slice p2 a1.length k3), (1, .slice p6 b5.length k7)] rfl ⟨rfl, rfl, trivial⟩
 have hw := Wd.enter (E := []) hS (fun _ h => (by cases h))
 have hw := hw.addE h4
 have hw := hw.addE h8
 delta span_Meet at hsh
 refine wp_seq ?_
 refine wp_region_lit ?_
 refine st_val hs (y_assign rfl) trivial rfl rfl fun a hs => ?_
 refine wpList_nil ?_
 refine then_normal ?_
 refine wp_seq ?_
 refine wp_region_lit ?_
 refine st_val hs (y_move rfl) trivial rfl rfl fun a hs => ?_
 obtain ⟨rv10, h9, hsh⟩ := bind_t hsh
 refine st_callR hs (span_Normal_ok h9 hw.dom (hw.envAt 1 rfl)) (do_call Try.call53 rfl) trivial rfl rfl ?_
 intro v18 Sv15 w a h16 h17 hs
 obtain ⟨p11, k12, c14, rfl, h19, h13⟩ := h17
 have hw := hw.callN h16 h19
 have hw := hw.addE (e := RowA c14 rv10) h13
 refine st_val hs (y_move rfl) trivial rfl rfl fun a hs => ?_
 obtain ⟨rv21, h20, hsh⟩ := bind_t hsh
 refine st_callR hs (span_Normal_ok h20 hw.dom (hw.envAt 1 rfl)) (do_call Try.call53 rfl) trivial rfl rfl ?_
 intro v29 Sv26 w a h27 h28 hs
 obtain ⟨p22, k23, c25, rfl, h30, h24⟩ := h28
 have hw := hw.callN h27 h30
 have hw := hw.addE (e := RowA c25 rv21) h24
 refine st_val hs (y_assign rfl) trivial rfl rfl fun a hs => ?_
 refine st_val hs (y_assign rfl) trivial rfl rfl fun a hs => ?_
 refine wpList_nil ?_
 refine then_normal ?_
 refine wp_seq ?_
 refine wp_region_lit ?_
 refine st_val hs (y_assign rfl) trivial rfl rfl fun a hs => ?_
 refine wpList_nil ?_
 refine then_normal ?_
 refine wp_seq ?_
 refine wp_seq ?_
 refine wp_region_lit ?_
 refine st_val hs (y_assign rfl) trivial rfl rfl fun a hs => ?_
 refine st_val hs (y_assign rfl) trivial rfl rfl fun a hs => ?_
 refine wpList_nil ?_
 refine then_normal ?_
 obtain ⟨e331, h540, hsh⟩ := bind_t hsh
 refine wp_join (fun a w => ∃ (c332 : List Value) (p333 : Option Addr) (k334 : Nat) (Sv335 : Nat → Prop), Sl 68 [(5, .slice p333 e331.length k334)] a ∧ Wd ⟨w0, S0, []⟩ Sv335 [.row p333 e331.length k334 c332 46 2] [RowA c332 e331] w) ?_ ?_
 ·refine wp_block ?_
  have hw := hw.nilRow Span 46
  refine wp_while (fun sv31 a w => ∃ (c228 : List Value) (p229 : Option Addr) (k230 : Nat) (Sv231 : Nat → Prop), Sl 68 [(0, .slice p11 rv10.length k12), (1, .slice p22 rv21.length k23), (5, .slice p229 sv31.1.length k230), (6, .int .i64 sv31.2.1), (7, .int .i64 sv31.2.2)] a ∧ Wd ⟨w0, S0, []⟩ Sv231 [.row p11 rv10.length k12 c14 46 2, .row p22 rv21.length k23 c25 46 2, .row p229 sv31.1.length k230 c228 46 2] [RowA c14 rv10, RowA c25 rv21, RowA c228 sv31.1] w) (([] : List Span), 0, 0) h540 ⟨[], none, 0, Sv26, (hs.wk rfl), (hw.ft [2, 1, 0] [2, 1, 0] (by decide) rfl rfl)⟩ ?_
  clear h540
  repeat clear hsh
  rintro sv31 a w tv329 ⟨c228, p229, k230, Sv231, hs, hw⟩ hsh hd328
  delta span_Meet_l1 at hsh
  refine wp_seq ?_
  refine wp_seq ?_
  refine wp_region_lit ?_
  refine st_val hs (y_move rfl) trivial rfl rfl fun a hs => ?_
  refine st_val hs (y_move rfl) trivial rfl rfl fun a hs => ?_
  refine st_val hs (y_len Try.runUnderlying27 rfl) trivial rfl rfl fun a hs => ?_
  refine st_val hs (y_lss rfl rfl) trivial rfl rfl fun a hs => ?_
  refine st_val hs (y_move rfl) trivial rfl rfl fun a hs => ?_
  refine wpl_join 5 (fun a w1 => w = w1 ∧ Sl 68 [(0, .slice p11 rv10.length k12), (1, .slice p22 rv21.length k23), (5, .slice p229 sv31.1.length k230), (6, .int .i64 sv31.2.1), (7, .int .i64 sv31.2.2), (22, .bool ((decide (sv31.2.1 < (rv10.length : Int))) && (decide (sv31.2.2 < (rv21.length : Int)))))] a) ?_ ?_
  ·rcases Bool.eq_false_or_eq_true (decide (sv31.2.1 < (rv10.length : Int))) with h336 | h336
   ·have hs := hs.fix 17 (.bool true) rfl (vb h336)
    refine st_val hs (y_move rfl) ⟨_, rfl, rfl⟩ rfl rfl fun a hs => ?_
    refine st_val hs (y_move rfl) ⟨_, rfl, rfl⟩ rfl rfl fun a hs => ?_
    refine st_val hs (y_len Try.runUnderlying27 rfl) ⟨_, rfl, rfl⟩ rfl rfl fun a hs => ?_
    refine st_val hs (y_lss rfl rfl) ⟨_, rfl, rfl⟩ rfl rfl fun a hs => ?_
    refine st_val hs (y_pickT rfl rfl) trivial rfl rfl fun a hs => ?_
    refine wpList_nil ?_
    refine then_normal ?_
    exact ⟨rfl, (hs.fix 22 (.bool ((decide (sv31.2.1 < (rv10.length : Int))) && (decide (sv31.2.2 < (rv21.length : Int))))) rfl (and_t h336)).weaken _ ⟨rfl, rfl, rfl, rfl, rfl, rfl, trivial⟩⟩
   ·have hs := hs.fix 17 (.bool false) rfl (vb h336)
    refine st_skip hs rfl rfl rfl rfl rfl fun a hs => ?_
    refine st_skip hs rfl rfl rfl rfl rfl fun a hs => ?_
    refine st_skip hs rfl rfl rfl rfl rfl fun a hs => ?_
    refine st_skip hs rfl rfl rfl rfl rfl fun a hs => ?_
    refine st_val hs (y_pickF rfl rfl) trivial rfl rfl fun a hs => ?_
    refine wpList_nil ?_
    refine then_normal ?_
    exact ⟨rfl, (hs.fix 22 (.bool ((decide (sv31.2.1 < (rv10.length : Int))) && (decide (sv31.2.2 < (rv21.length : Int))))) rfl (and_f h336)).weaken _ ⟨rfl, rfl, rfl, rfl, rfl, rfl, trivial⟩⟩
  ·rintro a w1 ⟨h539, hs⟩
   subst h539
   refine wpList_nil ?_
   refine then_normal ?_
   refine wp_cond_split (hs.ev rfl) (fun h338 => ?_) (fun h338 => ?_)
   ·have hsh := ite_t hsh h338
    refine wp_skip ?_
    refine then_normal ?_
    refine wp_block ?_
    refine wp_seq ?_
    refine wp_seq ?_
    obtain ⟨x434, h432, hsh⟩ := bind_t hsh
    obtain ⟨b441, q438, c439, h442, h435, h436, h440, h433⟩ := hw.elemRV (α := Span) 0 rfl 0 rfl h432
    have hsv443 := hs
    have hwv444 := hw
    subst h442
    have hs := hsv443
    have hw := hwv444
    obtain ⟨_, _, rfl, rfl, rfl⟩ := h433
    obtain ⟨x447, h445, hsh⟩ := bind_t hsh
    obtain ⟨b454, q451, c452, h455, h448, h449, h453, h446⟩ := hw.elemRV (α := Span) 1 rfl 1 rfl h445
    have hsv456 := hs
    have hwv457 := hw
    subst h455
    have hs := hsv456
    have hw := hwv457
    obtain ⟨_, _, rfl, rfl, rfl⟩ := h446
    obtain ⟨x460, h458, hsh⟩ := bind_t hsh
    obtain ⟨q464, c465, h461, h462, h466, h459⟩ := hw.elemRK (α := Span) 0 rfl 0 rfl h458
    obtain ⟨_, _, rfl, rfl, rfl⟩ := h459
    obtain ⟨x469, h467, hsh⟩ := bind_t hsh
    obtain ⟨q473, c474, h470, h471, h475, h468⟩ := hw.elemRK (α := Span) 1 rfl 1 rfl h467
    obtain ⟨_, _, rfl, rfl, rfl⟩ := h468
    refine wp_only (fun a w => ∃ (Sv477 : Nat → Prop) (b476 : Nat), Sl 68 [(0, .slice (some ⟨b441, 0, none⟩) rv10.length k12), (1, .slice (some ⟨b454, 0, none⟩) rv21.length k23), (5, .slice p229 sv31.1.length k230), (6, .int .i64 sv31.2.1), (7, .int .i64 sv31.2.2), (8, .pointer (some ⟨b476, 0, none⟩))] a ∧ Wd ⟨w0, S0, []⟩ Sv477 [.box b476 [.int .i64 (max x434.From x447.From), .int .i64 (min x460.To x469.To)] 46, .row (some ⟨b441, 0, none⟩) rv10.length k12 c14 46 2, .row (some ⟨b454, 0, none⟩) rv21.length k23 c25 46 2, .row p229 sv31.1.length k230 c228 46 2] [RowA c14 rv10, RowA c25 rv21, RowA c228 sv31.1] w) ?_ ?_
    ·refine h_b (C := Cls [.row (some ⟨b441, 0, none⟩) rv10.length k12 c14 46 2, .row (some ⟨b454, 0, none⟩) rv21.length k23 c25 46 2, .row p229 sv31.1.length k230 c228 46 2] []) (by kernel_rfl) rfl (hw.drew.cs [0, 1, 2] [] rfl rfl) fun hC => ?_
     have hw := hw.drew
     refine h_g hs 0 rfl (by kernel_rfl) rfl rfl hC rfl (fun w hC => y_move rfl) fun a hs => ?_
     refine h_g hs 1 rfl (by kernel_rfl) rfl rfl hC rfl (fun w hC => y_move rfl) fun a hs => ?_
     refine h_g hs 2 rfl (by kernel_rfl) rfl rfl hC rfl (fun w hC => y_indexAt Try.runUnderlying27 Try.sizeOf46 rfl rfl h435.1 h435.2 h436) fun a hs => ?_
     refine h_g hs 3 rfl (by kernel_rfl) rfl rfl hC rfl (fun w hC => y_fieldAddr (o' := q438 + 0) Try.runUnderlying46 rfl Try.sizeOf3 rfl rfl rfl) fun a hs => ?_
     refine h_g hs 4 rfl (by kernel_rfl) rfl rfl hC rfl (fun w hC => y_loadQ1 (j := 0) (hC.ownAt 0 rfl) rfl Try.isAgg3 h440 rfl) fun a hs => ?_
     refine h_g hs 5 rfl (by kernel_rfl) rfl rfl hC rfl (fun w hC => y_move rfl) fun a hs => ?_
     refine h_g hs 6 rfl (by kernel_rfl) rfl rfl hC rfl (fun w hC => y_move rfl) fun a hs => ?_
     refine h_g hs 7 rfl (by kernel_rfl) rfl rfl hC rfl (fun w hC => y_indexAt Try.runUnderlying27 Try.sizeOf46 rfl rfl h448.1 h448.2 h449) fun a hs => ?_
     refine h_g hs 8 rfl (by kernel_rfl) rfl rfl hC rfl (fun w hC => y_fieldAddr (o' := q451 + 0) Try.runUnderlying46 rfl Try.sizeOf3 rfl rfl rfl) fun a hs => ?_
     refine h_g hs 9 rfl (by kernel_rfl) rfl rfl hC rfl (fun w hC => y_loadQ1 (j := 0) (hC.ownAt 1 rfl) rfl Try.isAgg3 h453 rfl) fun a hs => ?_
     refine h_g hs 10 rfl (by kernel_rfl) rfl rfl hC rfl (fun w hC => y_max rfl rfl) fun a hs => ?_
     refine h_g hs 11 rfl (by kernel_rfl) rfl rfl hC rfl (fun w hC => y_move rfl) fun a hs => ?_
     refine h_g hs 12 rfl (by kernel_rfl) rfl rfl hC rfl (fun w hC => y_move rfl) fun a hs => ?_
     refine h_g hs 13 rfl (by kernel_rfl) rfl rfl hC rfl (fun w hC => y_indexAt Try.runUnderlying27 Try.sizeOf46 rfl rfl h461.1 h461.2 h462) fun a hs => ?_
     refine h_g hs 14 rfl (by kernel_rfl) rfl rfl hC rfl (fun w hC => y_fieldAddr (o' := q464 + 1) Try.runUnderlying46 rfl Try.sizeOf3 rfl rfl rfl) fun a hs => ?_
     refine h_g hs 15 rfl (by kernel_rfl) rfl rfl hC rfl (fun w hC => y_loadQ1 (j := 1) (hC.ownAt 0 rfl) rfl Try.isAgg3 h466 rfl) fun a hs => ?_
     refine h_g hs 16 rfl (by kernel_rfl) rfl rfl hC rfl (fun w hC => y_move rfl) fun a hs => ?_
     refine h_g hs 17 rfl (by kernel_rfl) rfl rfl hC rfl (fun w hC => y_move rfl) fun a hs => ?_
     refine h_g hs 18 rfl (by kernel_rfl) rfl rfl hC rfl (fun w hC => y_indexAt Try.runUnderlying27 Try.sizeOf46 rfl rfl h470.1 h470.2 h471) fun a hs => ?_
     refine h_g hs 19 rfl (by kernel_rfl) rfl rfl hC rfl (fun w hC => y_fieldAddr (o' := q473 + 1) Try.runUnderlying46 rfl Try.sizeOf3 rfl rfl rfl) fun a hs => ?_
     refine h_g hs 20 rfl (by kernel_rfl) rfl rfl hC rfl (fun w hC => y_loadQ1 (j := 1) (hC.ownAt 1 rfl) rfl Try.isAgg3 h475 rfl) fun a hs => ?_
     refine h_g hs 21 rfl (by kernel_rfl) rfl rfl hC rfl (fun w hC => y_min rfl rfl) fun a hs => ?_
     refine h_g hs 22 rfl (by kernel_rfl) rfl rfl hC rfl (fun w hC => y_build (vs := [(0, .int .i64 (max x434.From x447.From)), (1, .int .i64 (min x460.To x469.To))]) Bld46 rfl rfl) fun a hs => ?_
     refine h_one (i := 23) (by kernel_rfl) rfl ?_
     refine w_alloc (cs := [.int .i64 0, .int .i64 0]) hs hw Try.zeroValue46 rfl rfl trivial ?_
     intro b476 a w hs hw
     refine h_nx (hw.cs [1, 2, 3] [] rfl rfl) fun hC => ?_
     refine h_one (i := 24) (by kernel_rfl) rfl ?_
     refine w_store (m := 2) (cs' := [.int .i64 (max x434.From x447.From), .int .i64 (min x460.To x469.To)]) hs hw 0 rfl rfl rfl Try.sizeOf46 rfl rfl rfl rfl trivial ?_
     intro a w hs hw
     refine h_nx (hw.cs [1, 2, 3] [] rfl rfl) fun hC => ?_
     refine h_done (by kernel_rfl) ?_
     exact ⟨Sv231, b476, (hs.wk rfl), (hw.ft [0, 1, 2, 3] [0, 1, 2] (by decide) rfl rfl)⟩
    ·rintro a w ⟨Sv477, b476, hs, hw⟩
     refine then_normal ?_
     refine wp_seq ?_
     refine wp_region_lit ?_
     refine st_val hs (y_loadBA (hw.ownAt 0 rfl) rfl Try.isAgg46 Try.sizeOf46 rfl rfl) trivial rfl rfl fun a hs => ?_
     obtain ⟨rv479, h478, hsh⟩ := bind_t hsh
     refine st_callR hs (span_some_ok h478 hw.bdom) (do_call Try.call58 rfl) trivial rfl rfl ?_
     intro v483 Sv480 w a h481 h482 hs
     subst h482
     have hw := hw.callB h481
     refine wpList_nil ?_
     refine then_normal ?_
     refine wp_join (fun a w => ∃ (out497 : (List Span)) (c493 : List Value) (p494 : Option Addr) (k495 : Nat) (Sv496 : Nat → Prop), span_Meet_j1 rv10 rv21 sv31 out497 = some tv329 ∧ Sl 68 [(0, .slice (some ⟨b441, 0, none⟩) rv10.length k12), (1, .slice (some ⟨b454, 0, none⟩) rv21.length k23), (5, .slice p494 out497.length k495), (6, .int .i64 sv31.2.1), (7, .int .i64 sv31.2.2)] a ∧ Wd ⟨w0, S0, []⟩ Sv496 [.row (some ⟨b441, 0, none⟩) rv10.length k12 c14 46 2, .row (some ⟨b454, 0, none⟩) rv21.length k23 c25 46 2, .row p494 out497.length k495 c493 46 2] [RowA c14 rv10, RowA c25 rv21, RowA c493 out497] w) ?_ ?_
     ·refine wp_cond_split (hs.ev rfl) (fun h530 => ?_) (fun h530 => ?_)
      ·have hsh := ite_t hsh h530
       refine wp_region_lit ?_
       refine st_val hs (y_move rfl) trivial rfl rfl fun a hs => ?_
       refine st_val hs (y_loadBA (hw.ownAt 0 rfl) rfl Try.isAgg46 Try.sizeOf46 rfl rfl) trivial rfl rfl fun a hs => ?_
       refine w_litSlice (α := Span) (vs := [.agg #[.int .i64 (max x434.From x447.From), .int .i64 (min x460.To x469.To)]]) (cs := [.int .i64 (max x434.From x447.From), .int .i64 (min x460.To x469.To)]) (xs := ([(⟨(max x434.From x447.From), (min x460.To x469.To)⟩ : Span)] : List Span)) hs hw El27 rfl rfl rfl rfl rfl rfl ⟨⟨_, _, rfl, rfl, rfl⟩, rfl⟩ rfl trivial rfl fun b532 a w hs hw => ?_
       obtain ⟨l534, h533, hsh⟩ := bind_t hsh
       refine w_appendR (α := Span) hs hw El27 4 rfl rfl rfl 3 rfl 0 rfl 0 rfl h533 rfl trivial ?_
       intro p535 k536 c537 a w hs hw
       refine st_val hs (y_assign rfl) trivial rfl rfl fun a hs => ?_
       refine wpList_nil ?_
       refine then_normal ?_
       exact ⟨l534, c537, p535, k536, Sv477, hsh, (hs.wk rfl), (hw.ft [2, 3, 4] [2, 3, 0] (by decide) rfl rfl)⟩
      ·have hsh := ite_f hsh h530
       refine wp_skip ?_
       refine then_normal ?_
       exact ⟨sv31.1, c228, p229, k230, Sv477, hsh, (hs.wk rfl), (hw.ft [1, 2, 3] [0, 1, 2] (by decide) rfl rfl)⟩
     ·rintro a w ⟨out497, c493, p494, k495, Sv496, hsh, hs, hw⟩
      delta span_Meet_j1 at hsh
      refine then_normal ?_
      refine wp_seq ?_
      obtain ⟨x500, h498, hsh⟩ := bind_t hsh
      obtain ⟨q504, c505, h501, h502, h506, h499⟩ := hw.elemRK (α := Span) 0 rfl 0 rfl h498
      obtain ⟨_, _, rfl, rfl, rfl⟩ := h499
      obtain ⟨x509, h507, hsh⟩ := bind_t hsh
      obtain ⟨q513, c514, h510, h511, h515, h508⟩ := hw.elemRK (α := Span) 1 rfl 1 rfl h507
      obtain ⟨_, _, rfl, rfl, rfl⟩ := h508
      refine wp_only (fun a w => ∃ (Sv516 : Nat → Prop), Sl 68 [(0, .slice (some ⟨b441, 0, none⟩) rv10.length k12), (1, .slice (some ⟨b454, 0, none⟩) rv21.length k23), (5, .slice p494 out497.length k495), (6, .int .i64 sv31.2.1), (7, .int .i64 sv31.2.2), (62, .bool (decide (x500.To < x509.To)))] a ∧ Wd ⟨w0, S0, []⟩ Sv516 [.row (some ⟨b441, 0, none⟩) rv10.length k12 c14 46 2, .row (some ⟨b454, 0, none⟩) rv21.length k23 c25 46 2, .row p494 out497.length k495 c493 46 2] [RowA c14 rv10, RowA c25 rv21, RowA c493 out497] w) ?_ ?_
      ·refine h_b (C := Cls [.row (some ⟨b441, 0, none⟩) rv10.length k12 c14 46 2, .row (some ⟨b454, 0, none⟩) rv21.length k23 c25 46 2, .row p494 out497.length k495 c493 46 2] []) (by kernel_rfl) rfl (hw.drew.cs [0, 1, 2] [] rfl rfl) fun hC => ?_
       have hw := hw.drew
       refine h_g hs 0 rfl (by kernel_rfl) rfl rfl hC rfl (fun w hC => y_move rfl) fun a hs => ?_
       refine h_g hs 1 rfl (by kernel_rfl) rfl rfl hC rfl (fun w hC => y_move rfl) fun a hs => ?_
       refine h_g hs 2 rfl (by kernel_rfl) rfl rfl hC rfl (fun w hC => y_indexAt Try.runUnderlying27 Try.sizeOf46 rfl rfl h501.1 h501.2 h502) fun a hs => ?_
       refine h_g hs 3 rfl (by kernel_rfl) rfl rfl hC rfl (fun w hC => y_fieldAddr (o' := q504 + 1) Try.runUnderlying46 rfl Try.sizeOf3 rfl rfl rfl) fun a hs => ?_
       refine h_g hs 4 rfl (by kernel_rfl) rfl rfl hC rfl (fun w hC => y_loadQ1 (j := 1) (hC.ownAt 0 rfl) rfl Try.isAgg3 h506 rfl) fun a hs => ?_
       refine h_g hs 5 rfl (by kernel_rfl) rfl rfl hC rfl (fun w hC => y_move rfl) fun a hs => ?_
       refine h_g hs 6 rfl (by kernel_rfl) rfl rfl hC rfl (fun w hC => y_move rfl) fun a hs => ?_
       refine h_g hs 7 rfl (by kernel_rfl) rfl rfl hC rfl (fun w hC => y_indexAt Try.runUnderlying27 Try.sizeOf46 rfl rfl h510.1 h510.2 h511) fun a hs => ?_
       refine h_g hs 8 rfl (by kernel_rfl) rfl rfl hC rfl (fun w hC => y_fieldAddr (o' := q513 + 1) Try.runUnderlying46 rfl Try.sizeOf3 rfl rfl rfl) fun a hs => ?_
       refine h_g hs 9 rfl (by kernel_rfl) rfl rfl hC rfl (fun w hC => y_loadQ1 (j := 1) (hC.ownAt 1 rfl) rfl Try.isAgg3 h515 rfl) fun a hs => ?_
       refine h_g hs 10 rfl (by kernel_rfl) rfl rfl hC rfl (fun w hC => y_lss rfl rfl) fun a hs => ?_
       refine h_done (by kernel_rfl) ?_
       exact ⟨Sv496, (hs.wk rfl), (hw.ft [0, 1, 2] [0, 1, 2] (by decide) rfl rfl)⟩
      ·rintro a w ⟨Sv516, hs, hw⟩
       refine then_normal ?_
       refine wp_join (fun a w => ∃ (i523 : Int) (k524 : Int) (Sv522 : Nat → Prop), span_Meet_j2 out497 i523 k524 = some tv329 ∧ Sl 68 [(0, .slice (some ⟨b441, 0, none⟩) rv10.length k12), (1, .slice (some ⟨b454, 0, none⟩) rv21.length k23), (5, .slice p494 out497.length k495), (6, .int .i64 i523), (7, .int .i64 k524)] a ∧ Wd ⟨w0, S0, []⟩ Sv522 [.row (some ⟨b441, 0, none⟩) rv10.length k12 c14 46 2, .row (some ⟨b454, 0, none⟩) rv21.length k23 c25 46 2, .row p494 out497.length k495 c493 46 2] [RowA c14 rv10, RowA c25 rv21, RowA c493 out497] w) ?_ ?_
       ·refine wp_cond_split (hs.ev rfl) (fun h525 => ?_) (fun h525 => ?_)
        ·have hsh := ite_t hsh h525
         refine wp_region_lit ?_
         refine st_val hs (y_move rfl) trivial rfl rfl fun a hs => ?_
         refine st_val hs (y_add rfl rfl) trivial rfl rfl fun a hs => ?_
         obtain ⟨i527, h526, hsh⟩ := bind_t hsh
         refine st_val hs (y_assignI rfl h526) trivial rfl rfl fun a hs => ?_
         refine wpList_nil ?_
         refine then_normal ?_
         exact ⟨i527, sv31.2.2, Sv516, hsh, (hs.wk rfl), (hw.ft [0, 1, 2] [0, 1, 2] (by decide) rfl rfl)⟩
        ·have hsh := ite_f hsh h525
         refine wp_region_lit ?_
         refine st_val hs (y_move rfl) trivial rfl rfl fun a hs => ?_
         refine st_val hs (y_add rfl rfl) trivial rfl rfl fun a hs => ?_
         obtain ⟨k529, h528, hsh⟩ := bind_t hsh
         refine st_val hs (y_assignI rfl h528) trivial rfl rfl fun a hs => ?_
         refine wpList_nil ?_
         refine then_normal ?_
         exact ⟨sv31.2.1, k529, Sv516, hsh, (hs.wk rfl), (hw.ft [0, 1, 2] [0, 1, 2] (by decide) rfl rfl)⟩
       ·rintro a w ⟨i523, k524, Sv522, hsh, hs, hw⟩
        delta span_Meet_j2 at hsh
        refine blk_normal ?_
        refine then_normal ?_
        exact ⟨_, (Option.some.inj hsh).symm, c493, p494, k495, Sv522, (hs.wk rfl), (hw.ft [0, 1, 2] [0, 1, 2] (by decide) rfl rfl)⟩
   ·have hsh := ite_f hsh h338
    refine wp_exit ?_
    refine then_exit ?_
    refine then_exit ?_
    refine blk_exit ?_
    have hsh := Option.some.inj hsh
    subst hsh
    have h538 := hd328 _ rfl
    subst h538
    refine then_normal ?_
    exact ⟨c228, p229, k230, Sv231, (hs.wk rfl), (hw.ft [2] [2] (by decide) rfl rfl)⟩
 ·rintro a w ⟨c332, p333, k334, Sv335, hs, hw⟩
  refine then_normal ?_
  refine wp_seq ?_
  refine wp_region_lit ?_
  refine st_val hs (y_move rfl) trivial rfl rfl fun a hs => ?_
  refine st_val hs (y_assign rfl) trivial rfl rfl fun a hs => ?_
  refine wpList_nil ?_
  refine then_normal ?_
  have hsh := Option.some.inj hsh
  subst hsh
  refine wp_ret ?_
  exact ret1 hs rfl (rv_tmp rfl) (hw.ret ⟨p333, k334, c332, rfl, (hw.outs [0] (by decide) rfl), (hw.envAt 0 rfl)⟩)

abbrev receiver_Valid_rd (w0 : World) (X : List Nat) (r : Bool) : (Nat → Prop) → World → Value → Prop := fun S w v => v = .bool r
set_option maxHeartbeats 4000000 in
set_option maxRecDepth 100000 in
theorem receiver_Valid_ok {w0 : World} {S0 : Nat → Prop} {p2 : Option Addr} {k3 : Nat} {p4 : Option Addr} {k5 : Nat} {r1 : Receiver} {r : Bool} (hsh : receiver_Valid r1 = some r) (hS : ∀ b, S0 b → b < w0.heap.size) (h6 : (SlA p2 r1.Got.length k3 r1.Got).p S0 w0) (h7 : (SlA p4 r1.Lost.length k5 r1.Lost).p S0 w0) : Calls Try.prog 15 #[.agg #[.slice p2 r1.Got.length k3, .slice p4 r1.Lost.length k5]] w0 (Ret ([]) w0 S0 (receiver_Valid_rd w0 ([]) r)) := by
 refine calls_of_wp Try.func15 rfl ?_
 have hs := Sl.enter #[.agg #[.slice p2 r1.Got.length k3, .slice p4 r1.Lost.length k5]] 20 [(0, .agg #[.slice p2 r1.Got.length k3, .slice p4 r1.Lost.length k5])] rfl ⟨rfl, trivial⟩
 have hw := Wd.enter (E := []) hS (fun _ h => (by cases h))
 have hw := hw.addE h6
 have hw := hw.addE h7
 delta receiver_Valid at hsh
 refine wp_seq ?_
 refine wp_region_lit ?_
 refine w_box (cs := [.slice p2 r1.Got.length k3, .slice p4 r1.Lost.length k5]) hs hw rfl rfl rfl trivial ?_
 intro b8 a w hs hw
 refine st_val hs (y_assign rfl) trivial rfl rfl fun a hs => ?_
 refine wpList_nil ?_
 refine then_normal ?_
 refine wp_seq ?_
 refine wp_region_lit ?_
 refine st_val hs (y_fieldAddr (o' := 0) Try.runUnderlying29 rfl Try.sizeOf27 rfl rfl rfl) trivial rfl rfl fun a hs => ?_
 refine st_val hs (y_loadB1 (hw.ownAt 0 rfl) rfl Try.isAgg27 rfl) trivial rfl rfl fun a hs => ?_
 obtain ⟨rv10, h9, hsh⟩ := bind_t hsh
 refine st_callR hs (receiver_set_ok h9 hw.bdom (hw.bE 1 rfl)) (do_call Try.call40 rfl) trivial rfl rfl ?_
 intro v14 Sv11 w a h12 h13 hs
 subst h13
 have hw := hw.callB h12
 refine st_val hs (y_move rfl) trivial rfl rfl fun a hs => ?_
 obtain ⟨c24, hc24, hsh⟩ := bind_t hsh
 refine wpl_join 4 (fun a w => ∃ (Sv25 : Nat → Prop), Sl 20 [(1, .pointer (some ⟨b8, 0, none⟩)), (10, .bool c24)] a ∧ Wd ⟨w0, S0, []⟩ Sv25 [.box b8 [.slice p2 r1.Got.length k3, .slice p4 r1.Lost.length k5] 29] [SlA p2 r1.Got.length k3 r1.Got, SlA p4 r1.Lost.length k5 r1.Lost] w) ?_ ?_
 ·rcases Bool.eq_false_or_eq_true rv10 with h23 | h23
  ·have hs := hs.fix 6 (.bool true) rfl (vb h23)
   have hsh := ite_t hc24 h23
   refine st_val hs (y_fieldAddr (o' := 1) Try.runUnderlying29 rfl Try.sizeOf27 rfl rfl rfl) ⟨_, rfl, rfl⟩ rfl rfl fun a hs => ?_
   refine st_val hs (y_loadB1 (hw.ownAt 0 rfl) rfl Try.isAgg27 rfl) ⟨_, rfl, rfl⟩ rfl rfl fun a hs => ?_
   obtain ⟨rv27, h26, hsh⟩ := bind_t hsh
   refine st_callR hs (receiver_set_ok h26 hw.bdom (hw.bE 0 rfl)) (do_call Try.call40 rfl) ⟨_, rfl, rfl⟩ rfl rfl ?_
   intro v31 Sv28 w a h29 h30 hs
   subst h30
   have hw := hw.callB h29
   refine st_val hs (y_pickT rfl rfl) trivial rfl rfl fun a hs => ?_
   refine wpList_nil ?_
   have hsh := Option.some.inj hsh
   subst hsh
   refine then_normal ?_
   exact ⟨S0, (hs.wk rfl), (hw.ft [0] [1, 0] (by decide) rfl rfl)⟩
  ·have hs := hs.fix 6 (.bool false) rfl (vb h23)
   have hsh := ite_f hc24 h23
   refine st_skip hs rfl rfl rfl rfl rfl fun a hs => ?_
   refine st_skip hs rfl rfl rfl rfl rfl fun a hs => ?_
   refine st_skip hs rfl rfl rfl rfl rfl fun a hs => ?_
   refine st_val hs (y_pickF rfl rfl) trivial rfl rfl fun a hs => ?_
   refine wpList_nil ?_
   have hsh := Option.some.inj hsh
   subst hsh
   refine then_normal ?_
   exact ⟨S0, (hs.wk rfl), (hw.ft [0] [1, 0] (by decide) rfl rfl)⟩
 ·rintro a w ⟨Sv25, hs, hw⟩
  refine st_val hs (y_move rfl) trivial rfl rfl fun a hs => ?_
  obtain ⟨c45, hc45, hsh⟩ := bind_t hsh
  refine wpl_join 8 (fun a w => ∃ (Sv46 : Nat → Prop), Sl 20 [(19, .bool c45)] a ∧ Wd ⟨w0, S0, []⟩ Sv46 [] [] w) ?_ ?_
  ·rcases Bool.eq_false_or_eq_true c24 with h44 | h44
   ·have hs := hs.fix 11 (.bool true) rfl (vb h44)
    have hsh := ite_t hc45 h44
    refine st_val hs (y_fieldAddr (o' := 0) Try.runUnderlying29 rfl Try.sizeOf27 rfl rfl rfl) ⟨_, rfl, rfl⟩ rfl rfl fun a hs => ?_
    refine st_val hs (y_loadB1 (hw.ownAt 0 rfl) rfl Try.isAgg27 rfl) ⟨_, rfl, rfl⟩ rfl rfl fun a hs => ?_
    refine st_val hs (y_fieldAddr (o' := 1) Try.runUnderlying29 rfl Try.sizeOf27 rfl rfl rfl) ⟨_, rfl, rfl⟩ rfl rfl fun a hs => ?_
    refine st_val hs (y_loadB1 (hw.ownAt 0 rfl) rfl Try.isAgg27 rfl) ⟨_, rfl, rfl⟩ rfl rfl fun a hs => ?_
    obtain ⟨rv48, h47, hsh⟩ := bind_t hsh
    refine st_callR hs (span_Meet_ok h47 hw.dom (hw.envAt 0 rfl) (hw.envAt 1 rfl)) (do_call Try.call41 rfl) ⟨_, rfl, rfl⟩ rfl rfl ?_
    intro v56 Sv53 w a h54 h55 hs
    obtain ⟨p49, k50, c52, rfl, h57, h51⟩ := h55
    have hw := hw.callN h54 h57
    have hw := hw.addE (e := RowA c52 rv48) h51
    refine st_val hs (y_len Try.runUnderlying27 rfl) ⟨_, rfl, rfl⟩ rfl rfl fun a hs => ?_
    refine st_val hs (y_eql rfl rfl) ⟨_, rfl, rfl⟩ rfl rfl fun a hs => ?_
    refine st_val hs (y_pickT rfl rfl) trivial rfl rfl fun a hs => ?_
    refine wpList_nil ?_
    have hsh := Option.some.inj hsh
    subst hsh
    refine then_normal ?_
    exact ⟨Sv53, (hs.wk rfl), (hw.ft [] [] (by decide) rfl rfl)⟩
   ·have hs := hs.fix 11 (.bool false) rfl (vb h44)
    have hsh := ite_f hc45 h44
    refine st_skip hs rfl rfl rfl rfl rfl fun a hs => ?_
    refine st_skip hs rfl rfl rfl rfl rfl fun a hs => ?_
    refine st_skip hs rfl rfl rfl rfl rfl fun a hs => ?_
    refine st_skip hs rfl rfl rfl rfl rfl fun a hs => ?_
    refine st_skip hs rfl rfl rfl rfl rfl fun a hs => ?_
    refine st_skip hs rfl rfl rfl rfl rfl fun a hs => ?_
    refine st_skip hs rfl rfl rfl rfl rfl fun a hs => ?_
    refine st_val hs (y_pickF rfl rfl) trivial rfl rfl fun a hs => ?_
    refine wpList_nil ?_
    have hsh := Option.some.inj hsh
    subst hsh
    refine then_normal ?_
    exact ⟨Sv25, (hs.wk rfl), (hw.ft [] [] (by decide) rfl rfl)⟩
  ·rintro a w ⟨Sv46, hs, hw⟩
   refine st_val hs (y_assign rfl) trivial rfl rfl fun a hs => ?_
   refine wpList_nil ?_
   refine then_normal ?_
   have hsh := Option.some.inj hsh
   subst hsh
   refine wp_ret ?_
   exact ret1 hs rfl (rv_tmp rfl) (hw.ret rfl)

abbrev receiver_in_rd (w0 : World) (X : List Nat) (r : Bool) : (Nat → Prop) → World → Value → Prop := fun S w v => v = .bool r
set_option maxHeartbeats 4000000 in
set_option maxRecDepth 100000 in
theorem receiver_in_ok {w0 : World} {S0 : Nat → Prop} {n1 : Int} {low2 : Int} {high3 : Int} {r : Bool} (hsh : receiver_in n1 low2 high3 = some r) (hS : ∀ b, S0 b → b < w0.heap.size) : Calls Try.prog 34 #[.int .i64 n1, .int .i64 low2, .int .i64 high3] w0 (Ret ([]) w0 S0 (receiver_in_rd w0 ([]) r)) := by
 refine calls_of_wp Try.func34 rfl ?_
 have hs := Sl.enter #[.int .i64 n1, .int .i64 low2, .int .i64 high3] 15 [(0, .int .i64 n1), (1, .int .i64 low2), (2, .int .i64 high3)] rfl ⟨rfl, rfl, rfl, trivial⟩
 have hw := Wd.enter (E := []) hS (fun _ h => (by cases h))
 delta receiver_in at hsh
 refine wp_seq ?_
 refine wp_region_lit ?_
 refine st_val hs (y_assign rfl) trivial rfl rfl fun a hs => ?_
 refine wpList_nil ?_
 refine then_normal ?_
 refine wp_seq ?_
 refine wp_region_lit ?_
 refine st_val hs (y_move rfl) trivial rfl rfl fun a hs => ?_
 refine st_val hs (y_move rfl) trivial rfl rfl fun a hs => ?_
 refine st_val hs (y_geq rfl rfl) trivial rfl rfl fun a hs => ?_
 refine st_val hs (y_move rfl) trivial rfl rfl fun a hs => ?_
 refine wpl_join 4 (fun a w1 => w0 = w1 ∧ Sl 15 [(14, .bool ((decide (low2 ≤ n1)) && (decide (n1 ≤ high3))))] a) ?_ ?_
 ·rcases Bool.eq_false_or_eq_true (decide (low2 ≤ n1)) with h4 | h4
  ·have hs := hs.fix 10 (.bool true) rfl (vb h4)
   refine st_val hs (y_move rfl) ⟨_, rfl, rfl⟩ rfl rfl fun a hs => ?_
   refine st_val hs (y_move rfl) ⟨_, rfl, rfl⟩ rfl rfl fun a hs => ?_
   refine st_val hs (y_leq rfl rfl) ⟨_, rfl, rfl⟩ rfl rfl fun a hs => ?_
   refine st_val hs (y_pickT rfl rfl) trivial rfl rfl fun a hs => ?_
   refine wpList_nil ?_
   refine then_normal ?_
   exact ⟨rfl, (hs.fix 14 (.bool ((decide (low2 ≤ n1)) && (decide (n1 ≤ high3)))) rfl (and_t h4)).weaken _ ⟨rfl, trivial⟩⟩
  ·have hs := hs.fix 10 (.bool false) rfl (vb h4)
   refine st_skip hs rfl rfl rfl rfl rfl fun a hs => ?_
   refine st_skip hs rfl rfl rfl rfl rfl fun a hs => ?_
   refine st_skip hs rfl rfl rfl rfl rfl fun a hs => ?_
   refine st_val hs (y_pickF rfl rfl) trivial rfl rfl fun a hs => ?_
   refine wpList_nil ?_
   refine then_normal ?_
   exact ⟨rfl, (hs.fix 14 (.bool ((decide (low2 ≤ n1)) && (decide (n1 ≤ high3)))) rfl (and_f h4)).weaken _ ⟨rfl, trivial⟩⟩
 ·rintro a w1 ⟨h5, hs⟩
  subst h5
  refine st_val hs (y_assign rfl) trivial rfl rfl fun a hs => ?_
  refine wpList_nil ?_
  refine then_normal ?_
  have hsh := Option.some.inj hsh
  subst hsh
  refine wp_ret ?_
  exact ret1 hs rfl (rv_tmp rfl) (hw.ret rfl)

abbrev slices_ContainsFunc_Lapi_Span_api_Span_rd (w0 : World) (X : List Nat) (r : Bool) : (Nat → Prop) → World → Value → Prop := fun S w v => v = .bool r
set_option maxHeartbeats 4000000 in
set_option maxRecDepth 100000 in
theorem slices_ContainsFunc_Lapi_Span_api_Span_ok {w0 : World} {S0 : Nat → Prop} {p2 : Option Addr} {k3 : Nat} {g6 : Nat} {f7 : List Value} {cp8 : List Value} {s1 : (List Span)} {f5 : Span → Option Bool} {r : Bool} (hsh : slices_ContainsFunc_Lapi_Span_api_Span s1 f5 = some r) (hS : ∀ b, S0 b → b < w0.heap.size) (h4 : (SlA p2 s1.length k3 s1).p S0 w0) (h9 : (FnA1 Try.prog g6 f7 cp8 f5).p S0 w0) : Calls Try.prog 55 #[.slice p2 s1.length k3, .func (.func g6) f7.toArray cp8.toArray] w0 (Ret ([]) w0 S0 (slices_ContainsFunc_Lapi_Span_api_Span_rd w0 ([]) r)) := by
 refine calls_of_wp Try.func55 rfl ?_
 have hs := Sl.enter #[.slice p2 s1.length k3, .func (.func g6) f7.toArray cp8.toArray] 9 [(0, .slice p2 s1.length k3), (1, .func (.func g6) f7.toArray cp8.toArray)] rfl ⟨rfl, rfl, trivial⟩
 have hw := Wd.enter (E := []) hS (fun _ h => (by cases h))
 have hw := hw.addE h4
 have hw := hw.addE h9
 delta slices_ContainsFunc_Lapi_Span_api_Span at hsh
 refine wp_seq ?_
 refine wp_region_lit ?_
 refine st_val hs (y_assign rfl) trivial rfl rfl fun a hs => ?_
 refine wpList_nil ?_
 refine then_normal ?_
 refine wp_seq ?_
 refine wp_region_lit ?_
 refine st_val hs (y_move rfl) trivial rfl rfl fun a hs => ?_
 refine st_val hs (y_move rfl) trivial rfl rfl fun a hs => ?_
 obtain ⟨rv11, h10, hsh⟩ := bind_t hsh
 refine st_callR hs (slices_IndexFunc_Lapi_Span_api_Span_ok h10 hw.bdom (hw.bE 1 rfl) (hw.bE 0 rfl)) (do_call Try.call66 rfl) trivial rfl rfl ?_
 intro v15 Sv12 w a h13 h14 hs
 subst h14
 have hw := hw.callB h13
 refine st_val hs (y_geq rfl rfl) trivial rfl rfl fun a hs => ?_
 refine st_val hs (y_assign rfl) trivial rfl rfl fun a hs => ?_
 refine wpList_nil ?_
 refine then_normal ?_
 have hsh := Option.some.inj hsh
 subst hsh
 refine wp_ret ?_
 exact ret1 hs rfl (rv_tmp rfl) (hw.ret rfl)

abbrev span_Has_fn1_rd (w0 : World) (X : List Nat) (r : Bool) : (Nat → Prop) → World → Value → Prop := fun S w v => v = .bool r
set_option maxHeartbeats 4000000 in
set_option maxRecDepth 100000 in
theorem span_Has_fn1_ok {w0 : World} {S0 : Nat → Prop} {b3 : Nat} {s1 : Span} {x2 : Int} {r : Bool} (hsh : span_Has_fn1 s1 x2 = some r) (hS : ∀ b, S0 b → b < w0.heap.size) (h4 : (CeA b3 0 [.int .i64 x2]).p S0 w0) : Calls Try.prog 56 #[.agg #[.int .i64 s1.From, .int .i64 s1.To], .pointer (some ⟨b3, 0, none⟩)] w0 (Ret ([]) w0 S0 (span_Has_fn1_rd w0 ([]) r)) := by
 refine calls_of_wp Try.func56 rfl ?_
 have hs := Sl.enter #[.agg #[.int .i64 s1.From, .int .i64 s1.To], .pointer (some ⟨b3, 0, none⟩)] 14 [(0, .agg #[.int .i64 s1.From, .int .i64 s1.To]), (1, .pointer (some ⟨b3, 0, none⟩))] rfl ⟨rfl, rfl, trivial⟩
 have hw := Wd.enter (E := []) hS (fun _ h => (by cases h))
 have hw := hw.addE h4
 delta span_Has_fn1 at hsh
 refine wp_seq ?_
 refine wp_region_lit ?_
 refine w_box (cs := [.int .i64 s1.From, .int .i64 s1.To]) hs hw rfl rfl rfl trivial ?_
 intro b5 a w hs hw
 refine st_val hs (y_assign rfl) trivial rfl rfl fun a hs => ?_
 refine wpList_nil ?_
 refine then_normal ?_
 refine wp_seq ?_
 refine wp_region_lit ?_
 refine st_val hs (y_fieldAddr (o' := 0) Try.runUnderlying46 rfl Try.sizeOf3 rfl rfl rfl) trivial rfl rfl fun a hs => ?_
 refine st_val hs (y_loadB1 (hw.ownAt 0 rfl) rfl Try.isAgg3 rfl) trivial rfl rfl fun a hs => ?_
 refine st_val hs (y_loadE1 (j := 0) (hw.ceAt 0 rfl) rfl Try.isAgg3 rfl) trivial rfl rfl fun a hs => ?_
 refine st_val hs (y_leq rfl rfl) trivial rfl rfl fun a hs => ?_
 refine st_val hs (y_move rfl) trivial rfl rfl fun a hs => ?_
 refine wpl_join 5 (fun a w1 => w = w1 ∧ Sl 14 [(13, .bool ((decide (s1.From ≤ x2)) && (decide (x2 < s1.To))))] a) ?_ ?_
 ·rcases Bool.eq_false_or_eq_true (decide (s1.From ≤ x2)) with h6 | h6
  ·have hs := hs.fix 8 (.bool true) rfl (vb h6)
   refine st_val hs (y_loadE1 (j := 0) (hw.ceAt 0 rfl) rfl Try.isAgg3 rfl) ⟨_, rfl, rfl⟩ rfl rfl fun a hs => ?_
   refine st_val hs (y_fieldAddr (o' := 1) Try.runUnderlying46 rfl Try.sizeOf3 rfl rfl rfl) ⟨_, rfl, rfl⟩ rfl rfl fun a hs => ?_
   refine st_val hs (y_loadB1 (hw.ownAt 0 rfl) rfl Try.isAgg3 rfl) ⟨_, rfl, rfl⟩ rfl rfl fun a hs => ?_
   refine st_val hs (y_lss rfl rfl) ⟨_, rfl, rfl⟩ rfl rfl fun a hs => ?_
   refine st_val hs (y_pickT rfl rfl) trivial rfl rfl fun a hs => ?_
   refine wpList_nil ?_
   refine then_normal ?_
   exact ⟨rfl, (hs.fix 13 (.bool ((decide (s1.From ≤ x2)) && (decide (x2 < s1.To)))) rfl (and_t h6)).weaken _ ⟨rfl, trivial⟩⟩
  ·have hs := hs.fix 8 (.bool false) rfl (vb h6)
   refine st_skip hs rfl rfl rfl rfl rfl fun a hs => ?_
   refine st_skip hs rfl rfl rfl rfl rfl fun a hs => ?_
   refine st_skip hs rfl rfl rfl rfl rfl fun a hs => ?_
   refine st_skip hs rfl rfl rfl rfl rfl fun a hs => ?_
   refine st_val hs (y_pickF rfl rfl) trivial rfl rfl fun a hs => ?_
   refine wpList_nil ?_
   refine then_normal ?_
   exact ⟨rfl, (hs.fix 13 (.bool ((decide (s1.From ≤ x2)) && (decide (x2 < s1.To)))) rfl (and_f h6)).weaken _ ⟨rfl, trivial⟩⟩
 ·rintro a w1 ⟨h7, hs⟩
  subst h7
  refine st_val hs (y_assign rfl) trivial rfl rfl fun a hs => ?_
  refine wpList_nil ?_
  refine then_normal ?_
  have hsh := Option.some.inj hsh
  subst hsh
  refine wp_ret ?_
  exact ret1 hs rfl (rv_tmp rfl) (hw.ret rfl)

theorem span_Has_fn1_fn {S0 : Nat → Prop} {w0 : World} {b3 : Nat} {x2 : Int} (h4 : (CeA b3 0 [.int .i64 x2]).p S0 w0) : (FnA1 Try.prog 56 [] [.pointer (some ⟨b3, 0, none⟩)] (fun y0 => span_Has_fn1 y0 x2)).p S0 w0 := by
  refine ⟨Try.call56, ?_⟩
  intro S1 w1 hk hS c0 x0 r1 h0 hf
  obtain ⟨_, _, rfl, rfl, rfl⟩ := h0
  exact span_Has_fn1_ok hf hS  (Asrt.mono _ hk h4)

abbrev span_Has_rd (w0 : World) (X : List Nat) (r : Bool) : (Nat → Prop) → World → Value → Prop := fun S w v => v = .bool r
set_option maxHeartbeats 4000000 in
set_option maxRecDepth 100000 in
theorem span_Has_ok {w0 : World} {S0 : Nat → Prop} {p2 : Option Addr} {k3 : Nat} {l1 : (List Span)} {x5 : Int} {r : Bool} (hsh : span_Has l1 x5 = some r) (hS : ∀ b, S0 b → b < w0.heap.size) (h4 : (SlA p2 l1.length k3 l1).p S0 w0) : Calls Try.prog 39 #[.slice p2 l1.length k3, .int .i64 x5] w0 (Ret ([]) w0 S0 (span_Has_rd w0 ([]) r)) := by
 refine calls_of_wp Try.func39 rfl ?_
 have hs := Sl.enter #[.slice p2 l1.length k3, .int .i64 x5] 8 [(0, .slice p2 l1.length k3), (1, .int .i64 x5)] rfl ⟨rfl, rfl, trivial⟩
 have hw := Wd.enter (E := []) hS (fun _ h => (by cases h))
 have hw := hw.addE h4
 delta span_Has at hsh
 refine wp_seq ?_
 refine wp_region_lit ?_
 refine w_box (cs := [.int .i64 x5]) hs hw rfl rfl rfl trivial ?_
 intro b6 a w hs hw
 refine st_val hs (y_assign rfl) trivial rfl rfl fun a hs => ?_
 refine wpList_nil ?_
 refine then_normal ?_
 refine wp_seq ?_
 refine wp_region_lit ?_
 refine st_val hs (y_move rfl) trivial rfl rfl fun a hs => ?_
 refine st_val hs (y_makeFunc (vs := #[]) (us := #[.pointer (some ⟨b6, 0, none⟩)]) rfl rfl) trivial rfl rfl fun a hs => ?_
 obtain ⟨rv8, h7, hsh⟩ := bind_t hsh
 refine st_callR hs (slices_ContainsFunc_Lapi_Span_api_Span_ok h7 hw.bdom (hw.bE 0 rfl) (span_Has_fn1_fn (hw.bBox 0 rfl))) (do_call Try.call55 rfl) trivial rfl rfl ?_
 intro v12 Sv9 w a h10 h11 hs
 subst h11
 have hw := hw.callB h10
 refine st_val hs (y_assign rfl) trivial rfl rfl fun a hs => ?_
 refine wpList_nil ?_
 refine then_normal ?_
 have hsh := Option.some.inj hsh
 subst hsh
 refine wp_ret ?_
 exact ret1 hs rfl (rv_tmp rfl) (hw.ret rfl)

abbrev slices_Grow_Lapi_Span_api_Span_n_rd (w0 : World) (X : List Nat) (r : (List Span)) : (Nat → Prop) → World → Value → Prop := fun S w v => ∃ (p0_0 : Option Addr) (k0_0 : Nat) (c0_0 : List Value), v = .slice p0_0 r.length k0_0 ∧ Outs X w0 S w [.row p0_0 r.length k0_0 c0_0 46 2] ∧ (RowA c0_0 r).p S w
set_option maxHeartbeats 4000000 in
set_option maxRecDepth 100000 in
theorem slices_Grow_Lapi_Span_api_Span_n_ok {w0 : World} {S0 : Nat → Prop} {n1 : Int} {r : (List Span)} (hsh : slices_Grow_Lapi_Span_api_Span_n n1 = some r) (hS : ∀ b, S0 b → b < w0.heap.size) : Calls Try.prog 65 #[.slice none 0 0, .int .i64 n1] w0 (Ret ([]) w0 S0 (slices_Grow_Lapi_Span_api_Span_n_rd w0 ([]) r)) := by
 refine calls_of_wp Try.func65 rfl ?_
 have hs := Sl.enter #[.slice none 0 0, .int .i64 n1] 27 [(0, .slice none 0 0), (1, .int .i64 n1)] rfl ⟨rfl, rfl, trivial⟩
 have hw := Wd.enter (E := []) hS (fun _ h => (by cases h))
 delta slices_Grow_Lapi_Span_api_Span_n at hsh
 refine wp_seq ?_
 refine wp_region_lit ?_
 refine st_val hs (y_assign rfl) trivial rfl rfl fun a hs => ?_
 refine wpList_nil ?_
 refine then_normal ?_
 refine wp_seq ?_
 refine wp_seq ?_
 refine wp_region_lit ?_
 refine st_val hs (y_move rfl) trivial rfl rfl fun a hs => ?_
 refine st_val hs (y_lss rfl rfl) trivial rfl rfl fun a hs => ?_
 refine wpList_nil ?_
 refine then_normal ?_
 refine wp_cond_split (hs.ev rfl) (fun h3 => ?_) (fun h3 => ?_)
 ·have hsh := ite_t hsh h3
  cases hsh
 ·have hsh := ite_f hsh h3
  refine wp_skip ?_
  refine then_normal ?_
  refine wp_seq ?_
  refine wp_seq ?_
  refine wp_region_lit ?_
  refine st_val hs (y_move rfl) trivial rfl rfl fun a hs => ?_
  refine st_val hs (y_move rfl) trivial rfl rfl fun a hs => ?_
  refine st_val hs (y_cap Try.runUnderlying27 rfl) trivial rfl rfl fun a hs => ?_
  refine st_val hs (y_move rfl) trivial rfl rfl fun a hs => ?_
  refine st_val hs (y_len Try.runUnderlying27 rfl) trivial rfl rfl fun a hs => ?_
  refine st_val hs (y_sub rfl rfl) trivial rfl rfl fun a hs => ?_
  refine st_val hs (y_sub rfl rfl) trivial rfl rfl fun a hs => ?_
  obtain ⟨n5, h4, hsh⟩ := bind_t hsh
  refine st_val hs (y_assignI rfl h4) trivial rfl rfl fun a hs => ?_
  refine wpList_nil ?_
  refine then_normal ?_
  refine wp_seq ?_
  refine wp_region_lit ?_
  refine st_val hs (y_move rfl) trivial rfl rfl fun a hs => ?_
  refine st_val hs (y_gtr rfl rfl) trivial rfl rfl fun a hs => ?_
  refine wpList_nil ?_
  refine then_normal ?_
  refine wp_join (fun a w => ∃ (sv23 : (List Span)) (c19 : List Value) (p20 : Option Addr) (k21 : Nat) (Sv22 : Nat → Prop), slices_Grow_Lapi_Span_api_Span_n_j1 sv23 = some r ∧ Sl 27 [(0, .slice p20 sv23.length k21)] a ∧ Wd ⟨w0, S0, []⟩ Sv22 [.row p20 sv23.length k21 c19 46 2] [RowA c19 sv23] w) ?_ ?_
  ·refine wp_cond_split (hs.ev rfl) (fun h24 => ?_) (fun h24 => ?_)
   ·have hsh := ite_t hsh h24
    refine wp_region_lit ?_
    refine st_val hs (y_move rfl) trivial rfl rfl fun a hs => ?_
    refine st_val hs (y_move rfl) trivial rfl rfl fun a hs => ?_
    refine st_val hs (y_cap Try.runUnderlying27 rfl) trivial rfl rfl fun a hs => ?_
    obtain ⟨l28, h25, hsh⟩ := bind_t hsh
    obtain ⟨h26, h27⟩ := sub_nil 2 h25
    subst h26
    refine st_val hs (y_slc Try.runUnderlying27 Try.sizeOf46 rfl (by exact rfl) ⟨_, rfl⟩ h27) trivial rfl rfl fun a hs => ?_
    refine st_val hs (y_move rfl) trivial rfl rfl fun a hs => ?_
    obtain ⟨l30, h29, hsh⟩ := bind_t hsh
    refine w_appendMk (α := Span) hs hw El27 ⟨_, _, rfl, rfl, rfl⟩ Try.underlying3 rfl rfl h29 rfl rfl trivial ?_
    intro p31 k32 c33 a w hs hw
    refine st_val hs (y_move rfl) trivial rfl rfl fun a hs => ?_
    refine st_val hs (y_len Try.runUnderlying27 rfl) trivial rfl rfl fun a hs => ?_
    obtain ⟨l36, h34, hsh⟩ := bind_t hsh
    obtain ⟨hw, h35⟩ := w_cut hw 0 rfl 0 rfl h34
    refine st_val hs (y_slc Try.runUnderlying27 Try.sizeOf46 rfl (by exact rfl) ⟨_, rfl⟩ h35) trivial rfl rfl fun a hs => ?_
    refine st_val hs (y_assign rfl) trivial rfl rfl fun a hs => ?_
    refine wpList_nil ?_
    refine then_normal ?_
    exact ⟨l36, (c33.take (l36.length * 2)), p31, k32, S0, hsh, (hs.wk rfl), (hw.ft [0] [0] (by decide) rfl rfl)⟩
   ·have hsh := ite_f hsh h24
    refine wp_skip ?_
    refine then_normal ?_
    have hw := hw.nilRow Span 46
    exact ⟨([] : List Span), [], none, 0, S0, hsh, (hs.wk rfl), (hw.ft [0] [0] (by decide) rfl rfl)⟩
  ·rintro a w ⟨sv23, c19, p20, k21, Sv22, hsh, hs, hw⟩
   delta slices_Grow_Lapi_Span_api_Span_n_j1 at hsh
   refine then_normal ?_
   refine wp_seq ?_
   refine wp_region_lit ?_
   refine st_val hs (y_move rfl) trivial rfl rfl fun a hs => ?_
   refine st_val hs (y_assign rfl) trivial rfl rfl fun a hs => ?_
   refine wpList_nil ?_
   refine then_normal ?_
   have hsh := Option.some.inj hsh
   subst hsh
   refine wp_ret ?_
   exact ret1 hs rfl (rv_tmp rfl) (hw.ret ⟨p20, k21, c19, rfl, (hw.outs [0] (by decide) rfl), (hw.envAt 0 rfl)⟩)

abbrev slices_Concat_Lapi_Span_api_Span_rd (w0 : World) (X : List Nat) (r : (List Span)) : (Nat → Prop) → World → Value → Prop := fun S w v => ∃ (p0_0 : Option Addr) (k0_0 : Nat) (c0_0 : List Value), v = .slice p0_0 r.length k0_0 ∧ Outs X w0 S w [.row p0_0 r.length k0_0 c0_0 46 2] ∧ (RowA c0_0 r).p S w
set_option maxHeartbeats 4000000 in
set_option maxRecDepth 100000 in
theorem slices_Concat_Lapi_Span_api_Span_ok {w0 : World} {S0 : Nat → Prop} {p2 : Option Addr} {k3 : Nat} {slices1 : (List (List Span))} {r : (List Span)} (hsh : slices_Concat_Lapi_Span_api_Span slices1 = some r) (hS : ∀ b, S0 b → b < w0.heap.size) (h4 : (SlA p2 slices1.length k3 slices1).p S0 w0) : Calls Try.prog 54 #[.slice p2 slices1.length k3] w0 (Ret ([]) w0 S0 (slices_Concat_Lapi_Span_api_Span_rd w0 ([]) r)) := by
 refine calls_of_wp Try.func54 rfl ?_
 have hs := Sl.enter #[.slice p2 slices1.length k3] 36 [(0, .slice p2 slices1.length k3)] rfl ⟨rfl, trivial⟩
 have hw := Wd.enter (E := []) hS (fun _ h => (by cases h))
 have hw := hw.addE h4
 delta slices_Concat_Lapi_Span_api_Span at hsh
 refine wp_seq ?_
 refine wp_region_lit ?_
 refine st_val hs (y_assign rfl) trivial rfl rfl fun a hs => ?_
 refine wpList_nil ?_
 refine then_normal ?_
 refine wp_seq ?_
 refine wp_region_lit ?_
 refine st_val hs (y_assign rfl) trivial rfl rfl fun a hs => ?_
 refine wpList_nil ?_
 refine then_normal ?_
 refine wp_seq ?_
 refine wp_seq ?_
 refine wp_region_lit ?_
 refine st_val hs (y_move rfl) trivial rfl rfl fun a hs => ?_
 refine st_val hs (y_len Try.runUnderlying43 rfl) trivial rfl rfl fun a hs => ?_
 refine st_val hs (y_move rfl) trivial rfl rfl fun a hs => ?_
 refine wpList_nil ?_
 refine then_normal ?_
 obtain ⟨e74, h265, hsh⟩ := bind_t hsh
 refine wp_join (fun a w => ∃ (Sv75 : Nat → Prop), Sl 36 [(0, .slice p2 slices1.length k3), (3, .int .i64 e74)] a ∧ Wd ⟨w0, S0, []⟩ Sv75 [] [SlA p2 slices1.length k3 slices1] w) ?_ ?_
 ·refine wp_block ?_
  refine wp_while (fun sv5 a w => ∃ (Sv49 : Nat → Prop), Sl 36 [(0, .slice p2 slices1.length k3), (3, .int .i64 sv5.1), (9, .slice p2 slices1.length k3), (10, .int .i64 (slices1.length : Int)), (11, .int .i64 sv5.2)] a ∧ Wd ⟨w0, S0, []⟩ Sv49 [] [SlA p2 slices1.length k3 slices1] w) (0, 0) h265 ⟨S0, (hs.wk rfl), (hw.ft [] [0] (by decide) rfl rfl)⟩ ?_
  clear h265
  repeat clear hsh
  rintro sv5 a w tv72 ⟨Sv49, hs, hw⟩ hsh hd71
  delta slices_Concat_Lapi_Span_api_Span_l1 at hsh
  refine wp_seq ?_
  refine wp_region_lit ?_
  refine st_val hs (y_lss rfl rfl) trivial rfl rfl fun a hs => ?_
  refine wpList_nil ?_
  refine then_normal ?_
  refine wp_seq ?_
  refine wp_cond_split (hs.ev rfl) (fun h77 => ?_) (fun h77 => ?_)
  ·have hsh := ite_t hsh h77
   refine wp_skip ?_
   refine then_normal ?_
   refine wp_seq ?_
   refine wp_block ?_
   refine wp_seq ?_
   refine wp_region_lit ?_
   obtain ⟨x100, h98, hsh⟩ := bind_t hsh
   obtain ⟨b106, o107, q104, c105, h108, h101, h102, h103, h99⟩ := hw.elemV 0 rfl h98
   have hsv109 := hs
   have hwv110 := hw
   subst h108
   have hs := hsv109
   have hw := hwv110
   obtain ⟨_, rfl, ⟨p111, n112, k113, rfl, h114⟩⟩ := h99
   obtain rfl := h114.1
   have hw := hw.addE (e := SlA p111 _ k113 x100) h114
   have hw := hw.addE h103
   refine st_val hs (y_indexAt Try.runUnderlying43 Try.sizeOf27 rfl rfl h101.1 h101.2 h102) trivial rfl rfl fun a hs => ?_
   refine st_val hs (y_loadE1 (j := 0) (hw.ceAt 0 rfl) rfl Try.isAgg27 rfl) trivial rfl rfl fun a hs => ?_
   refine st_val hs (y_assign rfl) trivial rfl rfl fun a hs => ?_
   refine wpList_nil ?_
   refine then_normal ?_
   refine wp_seq ?_
   refine wp_region_lit ?_
   refine st_val hs (y_move rfl) trivial rfl rfl fun a hs => ?_
   refine st_val hs (y_move rfl) trivial rfl rfl fun a hs => ?_
   refine st_val hs (y_len Try.runUnderlying27 rfl) trivial rfl rfl fun a hs => ?_
   refine st_val hs (y_add rfl rfl) trivial rfl rfl fun a hs => ?_
   obtain ⟨size116, h115, hsh⟩ := bind_t hsh
   refine st_val hs (y_assignI rfl h115) trivial rfl rfl fun a hs => ?_
   refine wpList_nil ?_
   refine then_normal ?_
   refine wp_seq ?_
   refine wp_region_lit ?_
   refine st_val hs (y_move rfl) trivial rfl rfl fun a hs => ?_
   refine st_val hs (y_lss rfl rfl) trivial rfl rfl fun a hs => ?_
   refine wpList_nil ?_
   refine then_normal ?_
   refine wp_cond_split (hs.ev rfl) (fun h118 => ?_) (fun h118 => ?_)
   ·have hsh := ite_t hsh h118
    cases hsh
   ·have hsh := ite_f hsh h118
    refine wp_skip ?_
    refine blk_normal ?_
    refine then_normal ?_
    refine wp_region_lit ?_
    refine st_val hs (y_add rfl rfl) trivial rfl rfl fun a hs => ?_
    refine st_val hs (y_move rfl) trivial rfl rfl fun a hs => ?_
    refine wpList_nil ?_
    refine then_normal ?_
    exact ⟨_, (Option.some.inj hsh).symm, Sv49, (hs.wk rfl), (hw.ft [] [2] (by decide) rfl rfl)⟩
  ·have hsh := ite_f hsh h77
   refine wp_exit ?_
   refine then_exit ?_
   refine then_exit ?_
   refine blk_exit ?_
   have hsh := Option.some.inj hsh
   subst hsh
   have h119 := hd71 _ rfl
   subst h119
   refine then_normal ?_
   exact ⟨Sv49, (hs.wk rfl), (hw.ft [] [0] (by decide) rfl rfl)⟩
 ·rintro a w ⟨Sv75, hs, hw⟩
  refine then_normal ?_
  refine wp_seq ?_
  refine wp_region_lit ?_
  refine st_val hs (y_move rfl) trivial rfl rfl fun a hs => ?_
  obtain ⟨rv121, h120, hsh⟩ := bind_t hsh
  refine st_callR hs (slices_Grow_Lapi_Span_api_Span_n_ok h120 hw.dom) (do_call Try.call65 rfl) trivial rfl rfl ?_
  intro v129 Sv126 w a h127 h128 hs
  obtain ⟨p122, k123, c125, rfl, h130, h124⟩ := h128
  have hw := hw.callN h127 h130
  have hw := hw.addE (e := RowA c125 rv121) h124
  refine st_val hs (y_assign rfl) trivial rfl rfl fun a hs => ?_
  refine wpList_nil ?_
  refine then_normal ?_
  refine wp_seq ?_
  refine wp_seq ?_
  refine wp_region_lit ?_
  refine st_val hs (y_move rfl) trivial rfl rfl fun a hs => ?_
  refine st_val hs (y_len Try.runUnderlying43 rfl) trivial rfl rfl fun a hs => ?_
  refine st_val hs (y_move rfl) trivial rfl rfl fun a hs => ?_
  refine wpList_nil ?_
  refine then_normal ?_
  obtain ⟨e212, h264, hsh⟩ := bind_t hsh
  refine wp_join (fun a w => ∃ (c213 : List Value) (p214 : Option Addr) (k215 : Nat) (Sv216 : Nat → Prop), Sl 36 [(6, .slice p214 e212.length k215)] a ∧ Wd ⟨w0, S0, []⟩ Sv216 [.row p214 e212.length k215 c213 46 2] [RowA c213 e212] w) ?_ ?_
  ·refine wp_block ?_
   refine wp_while (fun sv131 a w => ∃ (c182 : List Value) (p183 : Option Addr) (k184 : Nat) (Sv185 : Nat → Prop), Sl 36 [(6, .slice p183 sv131.1.length k184), (25, .slice p2 slices1.length k3), (26, .int .i64 (slices1.length : Int)), (27, .int .i64 sv131.2)] a ∧ Wd ⟨w0, S0, []⟩ Sv185 [.row p183 sv131.1.length k184 c182 46 2] [SlA p2 slices1.length k3 slices1, RowA c182 sv131.1] w) (rv121, 0) h264 ⟨c125, p122, k123, Sv126, (hs.wk rfl), (hw.ft [0] [1, 0] (by decide) rfl rfl)⟩ ?_
   clear h264
   repeat clear hsh
   rintro sv131 a w tv210 ⟨c182, p183, k184, Sv185, hs, hw⟩ hsh hd209
   delta slices_Concat_Lapi_Span_api_Span_l2 at hsh
   refine wp_seq ?_
   refine wp_region_lit ?_
   refine st_val hs (y_lss rfl rfl) trivial rfl rfl fun a hs => ?_
   refine wpList_nil ?_
   refine then_normal ?_
   refine wp_seq ?_
   refine wp_cond_split (hs.ev rfl) (fun h218 => ?_) (fun h218 => ?_)
   ·have hsh := ite_t hsh h218
    refine wp_skip ?_
    refine then_normal ?_
    refine wp_seq ?_
    refine wp_block ?_
    refine wp_seq ?_
    refine wp_region_lit ?_
    obtain ⟨x243, h241, hsh⟩ := bind_t hsh
    obtain ⟨b249, o250, q247, c248, h251, h244, h245, h246, h242⟩ := hw.elemV 0 rfl h241
    have hsv252 := hs
    have hwv253 := hw
    subst h251
    have hs := hsv252
    have hw := hwv253
    obtain ⟨_, rfl, ⟨p254, n255, k256, rfl, h257⟩⟩ := h242
    obtain rfl := h257.1
    have hw := hw.addE (e := SlA p254 _ k256 x243) h257
    have hw := hw.addE h246
    refine st_val hs (y_indexAt Try.runUnderlying43 Try.sizeOf27 rfl rfl h244.1 h244.2 h245) trivial rfl rfl fun a hs => ?_
    refine st_val hs (y_loadE1 (j := 0) (hw.ceAt 0 rfl) rfl Try.isAgg27 rfl) trivial rfl rfl fun a hs => ?_
    refine st_val hs (y_assign rfl) trivial rfl rfl fun a hs => ?_
    refine wpList_nil ?_
    refine then_normal ?_
    refine wp_region_lit ?_
    refine st_val hs (y_move rfl) trivial rfl rfl fun a hs => ?_
    refine st_val hs (y_move rfl) trivial rfl rfl fun a hs => ?_
    obtain ⟨l259, h258, hsh⟩ := bind_t hsh
    refine w_appendE (α := Span) hs hw El27 0 rfl rfl rfl 3 rfl 1 rfl h258 rfl trivial ?_
    intro p260 k261 c262 a w hs hw
    refine st_val hs (y_assign rfl) trivial rfl rfl fun a hs => ?_
    refine wpList_nil ?_
    refine blk_normal ?_
    refine then_normal ?_
    refine wp_region_lit ?_
    refine st_val hs (y_add rfl rfl) trivial rfl rfl fun a hs => ?_
    refine st_val hs (y_move rfl) trivial rfl rfl fun a hs => ?_
    refine wpList_nil ?_
    refine then_normal ?_
    exact ⟨_, (Option.some.inj hsh).symm, c262, p260, k261, Sv185, (hs.wk rfl), (hw.ft [0] [3, 0] (by decide) rfl rfl)⟩
   ·have hsh := ite_f hsh h218
    refine wp_exit ?_
    refine then_exit ?_
    refine then_exit ?_
    refine blk_exit ?_
    have hsh := Option.some.inj hsh
    subst hsh
    have h263 := hd209 _ rfl
    subst h263
    refine then_normal ?_
    exact ⟨c182, p183, k184, Sv185, (hs.wk rfl), (hw.ft [0] [1] (by decide) rfl rfl)⟩
  ·rintro a w ⟨c213, p214, k215, Sv216, hs, hw⟩
   refine then_normal ?_
   refine wp_seq ?_
   refine wp_region_lit ?_
   refine st_val hs (y_move rfl) trivial rfl rfl fun a hs => ?_
   refine st_val hs (y_assign rfl) trivial rfl rfl fun a hs => ?_
   refine wpList_nil ?_
   refine then_normal ?_
   have hsh := Option.some.inj hsh
   subst hsh
   refine wp_ret ?_
   exact ret1 hs rfl (rv_tmp rfl) (hw.ret ⟨p214, k215, c213, rfl, (hw.outs [0] (by decide) rfl), (hw.envAt 0 rfl)⟩)

abbrev span_Union_rd (w0 : World) (X : List Nat) (r : (List Span)) : (Nat → Prop) → World → Value → Prop := fun S w v => ∃ (p0_0 : Option Addr) (k0_0 : Nat) (c0_0 : List Value), v = .slice p0_0 r.length k0_0 ∧ Outs X w0 S w [.row p0_0 r.length k0_0 c0_0 46 2] ∧ (RowA c0_0 r).p S w
set_option maxHeartbeats 4000000 in
set_option maxRecDepth 100000 in
theorem span_Union_ok {w0 : World} {S0 : Nat → Prop} {p2 : Option Addr} {k3 : Nat} {p6 : Option Addr} {k7 : Nat} {a1 : (List Span)} {b5 : (List Span)} {r : (List Span)} (hsh : span_Union a1 b5 = some r) (hS : ∀ b, S0 b → b < w0.heap.size) (h4 : (SlA p2 a1.length k3 a1).p S0 w0) (h8 : (SlA p6 b5.length k7 b5).p S0 w0) : Calls Try.prog 38 #[.slice p2 a1.length k3, .slice p6 b5.length k7] w0 (Ret ([]) w0 S0 (span_Union_rd w0 ([]) r)) := by
 refine calls_of_wp Try.func38 rfl ?_
 have hs := Sl.enter #[.slice p2 a1.length k3, .slice p6 b5.length k7] 10 [(0, .slice p2 a1.length k3), (1, .slice p6 b5.length k7)] rfl ⟨rfl, rfl, trivial⟩
 have hw := Wd.enter (E := []) hS (fun _ h => (by cases h))
 have hw := hw.addE h4
 have hw := hw.addE h8
 delta span_Union at hsh
 refine wp_seq ?_
 refine wp_region_lit ?_
 refine st_val hs (y_assign rfl) trivial rfl rfl fun a hs => ?_
 refine wpList_nil ?_
 refine then_normal ?_
 refine wp_seq ?_
 refine wp_region_lit ?_
 refine st_val hs (y_move rfl) trivial rfl rfl fun a hs => ?_
 refine st_val hs (y_move rfl) trivial rfl rfl fun a hs => ?_
 refine w_litSlice (α := (List Span)) (vs := [.slice p2 a1.length k3, .slice p6 b5.length k7]) (cs := [.slice p2 a1.length k3, .slice p6 b5.length k7]) (xs := ([a1, b5] : List (List Span))) hs hw El43 rfl rfl rfl rfl rfl rfl ⟨⟨_, rfl, ⟨_, _, _, rfl, hw.envAt 1 rfl⟩⟩, ⟨⟨_, rfl, ⟨_, _, _, rfl, hw.envAt 0 rfl⟩⟩, rfl⟩⟩ rfl trivial rfl fun b10 a w hs hw => ?_
 obtain ⟨rv12, h11, hsh⟩ := bind_t hsh
 obtain ⟨Sv17, hw⟩ := w_share (α := (List Span)) hw 0 rfl 0 rfl
 refine st_callR hs (slices_Concat_Lapi_Span_api_Span_ok h11 hw.dom (hw.envAt 0 rfl)) (do_call Try.call54 rfl) trivial rfl rfl ?_
 intro v21 Sv18 w a h19 h20 hs
 obtain ⟨p13, k14, c16, rfl, h22, h15⟩ := h20
 have hw := hw.callN h19 h22
 have hw := hw.addE (e := RowA c16 rv12) h15
 obtain ⟨rv24, h23, hsh⟩ := bind_t hsh
 obtain ⟨Sv29, hw⟩ := w_share (α := Span) hw 0 rfl 0 rfl
 refine st_callR hs (span_Normal_ok h23 hw.dom (hw.envAt 0 rfl)) (do_call Try.call53 rfl) trivial rfl rfl ?_
 intro v33 Sv30 w a h31 h32 hs
 obtain ⟨p25, k26, c28, rfl, h34, h27⟩ := h32
 have hw := hw.callN h31 h34
 have hw := hw.addE (e := RowA c28 rv24) h27
 refine st_val hs (y_assign rfl) trivial rfl rfl fun a hs => ?_
 refine wpList_nil ?_
 refine then_normal ?_
 have hsh := Option.some.inj hsh
 subst hsh
 refine wp_ret ?_
 exact ret1 hs rfl (rv_tmp rfl) (hw.ret ⟨p25, k26, c28, rfl, (hw.outs [0] (by decide) rfl), (hw.envAt 0 rfl)⟩)

abbrev span_Minus_rd (w0 : World) (X : List Nat) (r : (List Span)) : (Nat → Prop) → World → Value → Prop := fun S w v => ∃ (p0_0 : Option Addr) (k0_0 : Nat) (c0_0 : List Value), v = .slice p0_0 r.length k0_0 ∧ Outs X w0 S w [.row p0_0 r.length k0_0 c0_0 46 2] ∧ (RowA c0_0 r).p S w
set_option maxHeartbeats 4000000 in
set_option maxRecDepth 100000 in
theorem span_Minus_ok {w0 : World} {S0 : Nat → Prop} {p2 : Option Addr} {k3 : Nat} {p6 : Option Addr} {k7 : Nat} {a1 : (List Span)} {b5 : (List Span)} {r : (List Span)} (hsh : span_Minus a1 b5 = some r) (hS : ∀ b, S0 b → b < w0.heap.size) (h4 : (SlA p2 a1.length k3 a1).p S0 w0) (h8 : (SlA p6 b5.length k7 b5).p S0 w0) : Calls Try.prog 35 #[.slice p2 a1.length k3, .slice p6 b5.length k7] w0 (Ret ([]) w0 S0 (span_Minus_rd w0 ([]) r)) := by
 refine calls_of_wp Try.func35 rfl ?_
 have hs := Sl.enter #[.slice p2 a1.length k3, .slice p6 b5.length k7] 68 [(0, .slice p2 a1.length k3), (1, .slice p6 b5.length k7)] rfl ⟨rfl, rfl, trivial⟩
 have hw := Wd.enter (E := []) hS (fun _ h => (by cases h))
 have hw := hw.addE h4
 have hw := hw.addE h8
 delta span_Minus at hsh
 refine wp_seq ?_
 refine wp_region_lit ?_
 refine st_val hs (y_assign rfl) trivial rfl rfl fun a hs => ?_
 refine wpList_nil ?_
 refine then_normal ?_
 refine wp_seq ?_
 refine wp_region_lit ?_
 refine st_val hs (y_move rfl) trivial rfl rfl fun a hs => ?_
 obtain ⟨rv10, h9, hsh⟩ := bind_t hsh
 refine st_callR hs (span_Normal_ok h9 hw.dom (hw.envAt 0 rfl)) (do_call Try.call53 rfl) trivial rfl rfl ?_
 intro v18 Sv15 w a h16 h17 hs
 obtain ⟨p11, k12, c14, rfl, h19, h13⟩ := h17
 have hw := hw.callN h16 h19
 have hw := hw.addE (e := RowA c14 rv10) h13
 refine st_val hs (y_assign rfl) trivial rfl rfl fun a hs => ?_
 refine wpList_nil ?_
 refine then_normal ?_
 refine wp_seq ?_
 refine wp_region_lit ?_
 refine st_val hs (y_assign rfl) trivial rfl rfl fun a hs => ?_
 refine wpList_nil ?_
 refine then_normal ?_
 refine wp_seq ?_
 refine wp_seq ?_
 refine wp_region_lit ?_
 refine st_val hs (y_move rfl) trivial rfl rfl fun a hs => ?_
 obtain ⟨rv21, h20, hsh⟩ := bind_t hsh
 refine st_callR hs (span_Normal_ok h20 hw.dom (hw.envAt 2 rfl)) (do_call Try.call53 rfl) trivial rfl rfl ?_
 intro v29 Sv26 w a h27 h28 hs
 obtain ⟨p22, k23, c25, rfl, h30, h24⟩ := h28
 have hw := hw.callN h27 h30
 have hw := hw.addE (e := RowA c25 rv21) h24
 refine st_val hs (y_len Try.runUnderlying27 rfl) trivial rfl rfl fun a hs => ?_
 refine st_val hs (y_move rfl) trivial rfl rfl fun a hs => ?_
 refine wpList_nil ?_
 refine then_normal ?_
 obtain ⟨e529, h950, hsh⟩ := bind_t hsh
 refine wp_join (fun a w => ∃ (c530 : List Value) (p531 : Option Addr) (k532 : Nat) (Sv533 : Nat → Prop), Sl 68 [(5, .slice p531 e529.length k532)] a ∧ Wd ⟨w0, S0, []⟩ Sv533 [.row p531 e529.length k532 c530 46 2] [RowA c530 e529] w) ?_ ?_
 ·refine wp_block ?_
  have hw := hw.nilRow Span 46
  refine wp_while (fun sv31 a w => ∃ (c360 : List Value) (p361 : Option Addr) (k362 : Nat) (Sv363 : Nat → Prop), Sl 68 [(1, .slice p11 rv10.length k12), (5, .slice p361 sv31.1.length k362), (14, .slice p22 rv21.length k23), (15, .int .i64 (rv21.length : Int)), (16, .int .i64 sv31.2)] a ∧ Wd ⟨w0, S0, []⟩ Sv363 [.row p11 rv10.length k12 c14 46 2, .row p361 sv31.1.length k362 c360 46 2, .row p22 rv21.length k23 c25 46 2] [RowA c14 rv10, RowA c360 sv31.1, RowA c25 rv21] w) (([] : List Span), 0) h950 ⟨[], none, 0, Sv26, (hs.wk rfl), (hw.ft [2, 0, 1] [2, 0, 1] (by decide) rfl rfl)⟩ ?_
  clear h950
  repeat clear hsh
  rintro sv31 a w tv527 ⟨c360, p361, k362, Sv363, hs, hw⟩ hsh hd526
  delta span_Minus_l3 at hsh
  refine wp_seq ?_
  refine wp_region_lit ?_
  refine st_val hs (y_lss rfl rfl) trivial rfl rfl fun a hs => ?_
  refine wpList_nil ?_
  refine then_normal ?_
  refine wp_seq ?_
  refine wp_cond_split (hs.ev rfl) (fun h535 => ?_) (fun h535 => ?_)
  ·have hsh := ite_t hsh h535
   refine wp_skip ?_
   refine then_normal ?_
   refine wp_seq ?_
   refine wp_block ?_
   refine wp_seq ?_
   refine wp_region_lit ?_
   obtain ⟨x699, h697, hsh⟩ := bind_t hsh
   obtain ⟨b706, q703, c704, h707, h700, h701, h705, h698⟩ := hw.elemRV (α := Span) 2 rfl 2 rfl h697
   have hsv708 := hs
   have hwv709 := hw
   subst h707
   have hs := hsv708
   have hw := hwv709
   obtain ⟨_, _, rfl, rfl, rfl⟩ := h698
   refine st_val hs (y_indexAt Try.runUnderlying27 Try.sizeOf46 rfl rfl h700.1 h700.2 h701) trivial rfl rfl fun a hs => ?_
   refine st_val hs (y_loadQA (j := 0) (hw.ownAt 2 rfl) rfl Try.isAgg46 Try.sizeOf46 h705 rfl rfl) trivial rfl rfl fun a hs => ?_
   refine w_alloc (cs := [.int .i64 0, .int .i64 0]) hs hw Try.zeroValue46 rfl rfl trivial ?_
   intro b710 a w hs hw
   refine w_store (m := 2) (cs' := [.int .i64 x699.From, .int .i64 x699.To]) hs hw 0 rfl rfl rfl Try.sizeOf46 rfl rfl rfl rfl trivial ?_
   intro a w hs hw
   refine wpList_nil ?_
   refine then_normal ?_
   refine wp_seq ?_
   refine wp_region_lit ?_
   refine st_val hs (y_fieldAddr (o' := 0) Try.runUnderlying46 rfl Try.sizeOf3 rfl rfl rfl) trivial rfl rfl fun a hs => ?_
   refine st_val hs (y_loadB1 (hw.ownAt 0 rfl) rfl Try.isAgg3 rfl) trivial rfl rfl fun a hs => ?_
   refine st_val hs (y_assign rfl) trivial rfl rfl fun a hs => ?_
   refine wpList_nil ?_
   refine then_normal ?_
   refine wp_seq ?_
   refine wp_seq ?_
   refine wp_region_lit ?_
   refine st_val hs (y_move rfl) trivial rfl rfl fun a hs => ?_
   refine st_val hs (y_len Try.runUnderlying27 rfl) trivial rfl rfl fun a hs => ?_
   refine st_val hs (y_move rfl) trivial rfl rfl fun a hs => ?_
   refine wpList_nil ?_
   refine then_normal ?_
   obtain ⟨e840, h948, hsh⟩ := bind_t hsh
   refine wp_join (fun a w => ∃ (c841 : List Value) (p842 : Option Addr) (k843 : Nat) (Sv844 : Nat → Prop), Sl 68 [(1, .slice p11 rv10.length k12), (5, .slice p842 e840.1.length k843), (7, .pointer (some ⟨b710, 0, none⟩)), (8, .int .i64 e840.2), (14, .slice (some ⟨b706, 0, none⟩) rv21.length k23), (15, .int .i64 (rv21.length : Int)), (16, .int .i64 sv31.2)] a ∧ Wd ⟨w0, S0, []⟩ Sv844 [.box b710 [.int .i64 x699.From, .int .i64 x699.To] 46, .row p11 rv10.length k12 c14 46 2, .row p842 e840.1.length k843 c841 46 2, .row (some ⟨b706, 0, none⟩) rv21.length k23 c25 46 2] [RowA c14 rv10, RowA c841 e840.1, RowA c25 rv21] w) ?_ ?_
   ·refine wp_block ?_
    refine wp_while (fun sv711 a w => ∃ (c794 : List Value) (p795 : Option Addr) (k796 : Nat) (Sv797 : Nat → Prop), Sl 68 [(1, .slice p11 rv10.length k12), (5, .slice p795 sv711.1.length k796), (7, .pointer (some ⟨b710, 0, none⟩)), (8, .int .i64 sv711.2.1), (14, .slice (some ⟨b706, 0, none⟩) rv21.length k23), (15, .int .i64 (rv21.length : Int)), (16, .int .i64 sv31.2), (22, .slice p11 rv10.length k12), (23, .int .i64 (rv10.length : Int)), (24, .int .i64 sv711.2.2)] a ∧ Wd ⟨w0, S0, []⟩ Sv797 [.box b710 [.int .i64 x699.From, .int .i64 x699.To] 46, .row p11 rv10.length k12 c14 46 2, .row p795 sv711.1.length k796 c794 46 2, .row (some ⟨b706, 0, none⟩) rv21.length k23 c25 46 2] [RowA c14 rv10, RowA c794 sv711.1, RowA c25 rv21] w) (sv31.1, x699.From, 0) h948 ⟨c360, p361, k362, Sv363, (hs.wk rfl), (hw.ft [0, 1, 2, 3] [0, 1, 2] (by decide) rfl rfl)⟩ ?_
    clear h948
    repeat clear hsh
    rintro sv711 a w tv838 ⟨c794, p795, k796, Sv797, hs, hw⟩ hsh hd837
    delta span_Minus_l6 at hsh
    refine wp_seq ?_
    refine wp_region_lit ?_
    refine st_val hs (y_lss rfl rfl) trivial rfl rfl fun a hs => ?_
    refine wpList_nil ?_
    refine then_normal ?_
    refine wp_seq ?_
    refine wp_cond_split (hs.ev rfl) (fun h846 => ?_) (fun h846 => ?_)
    ·have hsh := ite_t hsh h846
     refine wp_skip ?_
     refine then_normal ?_
     refine wp_seq ?_
     refine wp_join (fun a w => ∃ (out883 : (List Span)) (atv884 : Int) (c879 : List Value) (p880 : Option Addr) (k881 : Nat) (Sv882 : Nat → Prop), span_Minus_j1 sv711 out883 atv884 = some tv838 ∧ Sl 68 [(1, .slice p11 rv10.length k12), (5, .slice p880 out883.length k881), (7, .pointer (some ⟨b710, 0, none⟩)), (8, .int .i64 atv884), (14, .slice (some ⟨b706, 0, none⟩) rv21.length k23), (15, .int .i64 (rv21.length : Int)), (16, .int .i64 sv31.2), (22, .slice p11 rv10.length k12), (23, .int .i64 (rv10.length : Int)), (24, .int .i64 sv711.2.2)] a ∧ Wd ⟨w0, S0, []⟩ Sv882 [.box b710 [.int .i64 x699.From, .int .i64 x699.To] 46, .row p11 rv10.length k12 c14 46 2, .row p880 out883.length k881 c879 46 2, .row (some ⟨b706, 0, none⟩) rv21.length k23 c25 46 2] [RowA c14 rv10, RowA c879 out883, RowA c25 rv21] w) ?_ ?_
     ·refine wp_block ?_
      refine wp_seq ?_
      refine wp_region_lit ?_
      obtain ⟨x887, h885, hsh⟩ := bind_t hsh
      obtain ⟨b894, q891, c892, h895, h888, h889, h893, h886⟩ := hw.elemRV (α := Span) 1 rfl 0 rfl h885
      have hsv896 := hs
      have hwv897 := hw
      subst h895
      have hs := hsv896
      have hw := hwv897
      obtain ⟨_, _, rfl, rfl, rfl⟩ := h886
      refine st_val hs (y_indexAt Try.runUnderlying27 Try.sizeOf46 rfl rfl h888.1 h888.2 h889) trivial rfl rfl fun a hs => ?_
      refine st_val hs (y_loadQA (j := 0) (hw.ownAt 1 rfl) rfl Try.isAgg46 Try.sizeOf46 h893 rfl rfl) trivial rfl rfl fun a hs => ?_
      refine w_alloc (cs := [.int .i64 0, .int .i64 0]) hs hw Try.zeroValue46 rfl rfl trivial ?_
      intro b898 a w hs hw
      refine w_store (m := 2) (cs' := [.int .i64 x887.From, .int .i64 x887.To]) hs hw 0 rfl rfl rfl Try.sizeOf46 rfl rfl rfl rfl trivial ?_
      intro a w hs hw
      refine wpList_nil ?_
      refine then_normal ?_
      refine wp_seq ?_
      refine wp_seq ?_
      refine wp_region_lit ?_
      refine st_val hs (y_fieldAddr (o' := 1) Try.runUnderlying46 rfl Try.sizeOf3 rfl rfl rfl) trivial rfl rfl fun a hs => ?_
      refine st_val hs (y_loadB1 (hw.ownAt 0 rfl) rfl Try.isAgg3 rfl) trivial rfl rfl fun a hs => ?_
      refine st_val hs (y_move rfl) trivial rfl rfl fun a hs => ?_
      refine st_val hs (y_leq rfl rfl) trivial rfl rfl fun a hs => ?_
      refine st_val hs (y_move rfl) trivial rfl rfl fun a hs => ?_
      refine wpl_join 6 (fun a w1 => w = w1 ∧ Sl 68 [(1, .slice (some ⟨b894, 0, none⟩) rv10.length k12), (5, .slice p795 sv711.1.length k796), (7, .pointer (some ⟨b710, 0, none⟩)), (8, .int .i64 sv711.2.1), (10, .pointer (some ⟨b898, 0, none⟩)), (14, .slice (some ⟨b706, 0, none⟩) rv21.length k23), (15, .int .i64 (rv21.length : Int)), (16, .int .i64 sv31.2), (22, .slice (some ⟨b894, 0, none⟩) rv10.length k12), (23, .int .i64 (rv10.length : Int)), (24, .int .i64 sv711.2.2), (38, .bool ((decide (x887.To ≤ sv711.2.1)) || (decide (x699.To ≤ x887.From))))] a) ?_ ?_
      ·rcases Bool.eq_false_or_eq_true (decide (x887.To ≤ sv711.2.1)) with h899 | h899
       ·have hs := hs.fix 32 (.bool true) rfl (vb h899)
        refine st_skip hs rfl rfl rfl rfl rfl fun a hs => ?_
        refine st_skip hs rfl rfl rfl rfl rfl fun a hs => ?_
        refine st_skip hs rfl rfl rfl rfl rfl fun a hs => ?_
        refine st_skip hs rfl rfl rfl rfl rfl fun a hs => ?_
        refine st_skip hs rfl rfl rfl rfl rfl fun a hs => ?_
        refine st_val hs (y_pickT rfl rfl) trivial rfl rfl fun a hs => ?_
        refine wpList_nil ?_
        refine then_normal ?_
        exact ⟨rfl, (hs.fix 38 (.bool ((decide (x887.To ≤ sv711.2.1)) || (decide (x699.To ≤ x887.From)))) rfl (or_t h899)).weaken _ ⟨rfl, rfl, rfl, rfl, rfl, rfl, rfl, rfl, rfl, rfl, rfl, rfl, trivial⟩⟩
       ·have hs := hs.fix 32 (.bool false) rfl (vb h899)
        refine st_val hs (y_fieldAddr (o' := 0) Try.runUnderlying46 rfl Try.sizeOf3 rfl rfl rfl) ⟨_, rfl, rfl⟩ rfl rfl fun a hs => ?_
        refine st_val hs (y_loadB1 (hw.ownAt 0 rfl) rfl Try.isAgg3 rfl) ⟨_, rfl, rfl⟩ rfl rfl fun a hs => ?_
        refine st_val hs (y_fieldAddr (o' := 1) Try.runUnderlying46 rfl Try.sizeOf3 rfl rfl rfl) ⟨_, rfl, rfl⟩ rfl rfl fun a hs => ?_
        refine st_val hs (y_loadB1 (hw.ownAt 1 rfl) rfl Try.isAgg3 rfl) ⟨_, rfl, rfl⟩ rfl rfl fun a hs => ?_
        refine st_val hs (y_geq rfl rfl) ⟨_, rfl, rfl⟩ rfl rfl fun a hs => ?_
        refine st_val hs (y_pickF rfl rfl) trivial rfl rfl fun a hs => ?_
        refine wpList_nil ?_
        refine then_normal ?_
        exact ⟨rfl, (hs.fix 38 (.bool ((decide (x887.To ≤ sv711.2.1)) || (decide (x699.To ≤ x887.From)))) rfl (or_f h899)).weaken _ ⟨rfl, rfl, rfl, rfl, rfl, rfl, rfl, rfl, rfl, rfl, rfl, rfl, trivial⟩⟩
      ·rintro a w1 ⟨h925, hs⟩
       subst h925
       refine wpList_nil ?_
       refine then_normal ?_
       refine wp_cond_split (hs.ev rfl) (fun h901 => ?_) (fun h901 => ?_)
       ·have hsh := ite_t hsh h901
        refine wp_exit ?_
        refine then_exit ?_
        refine blk_exit ?_
        refine then_normal ?_
        exact ⟨sv711.1, sv711.2.1, c794, p795, k796, Sv797, hsh, (hs.wk rfl), (hw.ft [1, 2, 3, 4] [0, 1, 2] (by decide) rfl rfl)⟩
       ·have hsh := ite_f hsh h901
        refine wp_skip ?_
        refine then_normal ?_
        refine wp_seq ?_
        refine wp_seq ?_
        refine wp_region_lit ?_
        refine st_val hs (y_move rfl) trivial rfl rfl fun a hs => ?_
        refine st_val hs (y_fieldAddr (o' := 0) Try.runUnderlying46 rfl Try.sizeOf3 rfl rfl rfl) trivial rfl rfl fun a hs => ?_
        refine st_val hs (y_loadB1 (hw.ownAt 0 rfl) rfl Try.isAgg3 rfl) trivial rfl rfl fun a hs => ?_
        refine st_val hs (y_lss rfl rfl) trivial rfl rfl fun a hs => ?_
        refine wpList_nil ?_
        refine then_normal ?_
        refine wp_join (fun a w => ∃ (out914 : (List Span)) (c910 : List Value) (p911 : Option Addr) (k912 : Nat) (Sv913 : Nat → Prop), span_Minus_j2 sv711 x887 out914 = some tv838 ∧ Sl 68 [(1, .slice (some ⟨b894, 0, none⟩) rv10.length k12), (5, .slice p911 out914.length k912), (7, .pointer (some ⟨b710, 0, none⟩)), (8, .int .i64 sv711.2.1), (10, .pointer (some ⟨b898, 0, none⟩)), (14, .slice (some ⟨b706, 0, none⟩) rv21.length k23), (15, .int .i64 (rv21.length : Int)), (16, .int .i64 sv31.2), (22, .slice (some ⟨b894, 0, none⟩) rv10.length k12), (23, .int .i64 (rv10.length : Int)), (24, .int .i64 sv711.2.2)] a ∧ Wd ⟨w0, S0, []⟩ Sv913 [.box b710 [.int .i64 x699.From, .int .i64 x699.To] 46, .box b898 [.int .i64 x887.From, .int .i64 x887.To] 46, .row (some ⟨b894, 0, none⟩) rv10.length k12 c14 46 2, .row p911 out914.length k912 c910 46 2, .row (some ⟨b706, 0, none⟩) rv21.length k23 c25 46 2] [RowA c14 rv10, RowA c910 out914, RowA c25 rv21] w) ?_ ?_
        ·refine wp_cond_split (hs.ev rfl) (fun h917 => ?_) (fun h917 => ?_)
         ·have hsh := ite_t hsh h917
          refine wp_region_lit ?_
          refine st_val hs (y_move rfl) trivial rfl rfl fun a hs => ?_
          refine st_val hs (y_move rfl) trivial rfl rfl fun a hs => ?_
          refine st_val hs (y_fieldAddr (o' := 0) Try.runUnderlying46 rfl Try.sizeOf3 rfl rfl rfl) trivial rfl rfl fun a hs => ?_
          refine st_val hs (y_loadB1 (hw.ownAt 0 rfl) rfl Try.isAgg3 rfl) trivial rfl rfl fun a hs => ?_
          refine st_val hs (y_build (vs := [(0, .int .i64 sv711.2.1), (1, .int .i64 x887.From)]) Bld46 rfl rfl) trivial rfl rfl fun a hs => ?_
          refine w_litSlice (α := Span) (vs := [.agg #[.int .i64 sv711.2.1, .int .i64 x887.From]]) (cs := [.int .i64 sv711.2.1, .int .i64 x887.From]) (xs := ([(⟨sv711.2.1, x887.From⟩ : Span)] : List Span)) hs hw El27 rfl rfl rfl rfl rfl rfl ⟨⟨_, _, rfl, rfl, rfl⟩, rfl⟩ rfl trivial rfl fun b919 a w hs hw => ?_
          obtain ⟨l921, h920, hsh⟩ := bind_t hsh
          refine w_appendR (α := Span) hs hw El27 4 rfl rfl rfl 2 rfl 0 rfl 0 rfl h920 rfl trivial ?_
          intro p922 k923 c924 a w hs hw
          refine st_val hs (y_assign rfl) trivial rfl rfl fun a hs => ?_
          refine wpList_nil ?_
          refine then_normal ?_
          exact ⟨l921, c924, p922, k923, Sv797, hsh, (hs.wk rfl), (hw.ft [2, 1, 3, 4, 5] [2, 0, 4] (by decide) rfl rfl)⟩
         ·have hsh := ite_f hsh h917
          refine wp_skip ?_
          refine then_normal ?_
          exact ⟨sv711.1, c794, p795, k796, Sv797, hsh, (hs.wk rfl), (hw.ft [1, 0, 2, 3, 4] [0, 1, 2] (by decide) rfl rfl)⟩
        ·rintro a w ⟨out914, c910, p911, k912, Sv913, hsh, hs, hw⟩
         delta span_Minus_j2 at hsh
         refine then_normal ?_
         refine wp_region_lit ?_
         refine st_val hs (y_move rfl) trivial rfl rfl fun a hs => ?_
         refine st_val hs (y_fieldAddr (o' := 1) Try.runUnderlying46 rfl Try.sizeOf3 rfl rfl rfl) trivial rfl rfl fun a hs => ?_
         refine st_val hs (y_loadB1 (hw.ownAt 1 rfl) rfl Try.isAgg3 rfl) trivial rfl rfl fun a hs => ?_
         refine st_val hs (y_max rfl rfl) trivial rfl rfl fun a hs => ?_
         obtain ⟨atv916, h915, hsh⟩ := bind_t hsh
         refine st_val hs (y_assignI rfl h915) trivial rfl rfl fun a hs => ?_
         refine wpList_nil ?_
         refine blk_normal ?_
         refine then_normal ?_
         exact ⟨out914, atv916, c910, p911, k912, Sv913, hsh, (hs.wk rfl), (hw.ft [0, 2, 3, 4] [0, 1, 2] (by decide) rfl rfl)⟩
     ·rintro a w ⟨out883, atv884, c879, p880, k881, Sv882, hsh, hs, hw⟩
      delta span_Minus_j1 at hsh
      refine then_normal ?_
      refine wp_region_lit ?_
      refine st_val hs (y_add rfl rfl) trivial rfl rfl fun a hs => ?_
      refine st_val hs (y_move rfl) trivial rfl rfl fun a hs => ?_
      refine wpList_nil ?_
      refine then_normal ?_
      exact ⟨_, (Option.some.inj hsh).symm, c879, p880, k881, Sv882, (hs.wk rfl), (hw.ft [0, 1, 2, 3] [0, 1, 2] (by decide) rfl rfl)⟩
    ·have hsh := ite_f hsh h846
     refine wp_exit ?_
     refine then_exit ?_
     refine then_exit ?_
     refine blk_exit ?_
     have hsh := Option.some.inj hsh
     subst hsh
     have h926 := hd837 _ rfl
     subst h926
     refine then_normal ?_
     exact ⟨c794, p795, k796, Sv797, (hs.wk rfl), (hw.ft [0, 1, 2, 3] [0, 1, 2] (by decide) rfl rfl)⟩
   ·rintro a w ⟨c841, p842, k843, Sv844, hs, hw⟩
    refine then_normal ?_
    refine wp_seq ?_
    refine wp_region_lit ?_
    refine st_val hs (y_move rfl) trivial rfl rfl fun a hs => ?_
    refine st_val hs (y_fieldAddr (o' := 1) Try.runUnderlying46 rfl Try.sizeOf3 rfl rfl rfl) trivial rfl rfl fun a hs => ?_
    refine st_val hs (y_loadB1 (hw.ownAt 0 rfl) rfl Try.isAgg3 rfl) trivial rfl rfl fun a hs => ?_
    refine st_val hs (y_lss rfl rfl) trivial rfl rfl fun a hs => ?_
    refine wpList_nil ?_
    refine then_normal ?_
    refine wp_join (fun a w => ∃ (out939 : (List Span)) (c935 : List Value) (p936 : Option Addr) (k937 : Nat) (Sv938 : Nat → Prop), span_Minus_j4 sv31 out939 = some tv527 ∧ Sl 68 [(1, .slice p11 rv10.length k12), (5, .slice p936 out939.length k937), (14, .slice (some ⟨b706, 0, none⟩) rv21.length k23), (15, .int .i64 (rv21.length : Int)), (16, .int .i64 sv31.2)] a ∧ Wd ⟨w0, S0, []⟩ Sv938 [.row p11 rv10.length k12 c14 46 2, .row p936 out939.length k937 c935 46 2, .row (some ⟨b706, 0, none⟩) rv21.length k23 c25 46 2] [RowA c14 rv10, RowA c935 out939, RowA c25 rv21] w) ?_ ?_
    ·refine wp_cond_split (hs.ev rfl) (fun h940 => ?_) (fun h940 => ?_)
     ·have hsh := ite_t hsh h940
      refine wp_region_lit ?_
      refine st_val hs (y_move rfl) trivial rfl rfl fun a hs => ?_
      refine st_val hs (y_move rfl) trivial rfl rfl fun a hs => ?_
      refine st_val hs (y_fieldAddr (o' := 1) Try.runUnderlying46 rfl Try.sizeOf3 rfl rfl rfl) trivial rfl rfl fun a hs => ?_
      refine st_val hs (y_loadB1 (hw.ownAt 0 rfl) rfl Try.isAgg3 rfl) trivial rfl rfl fun a hs => ?_
      refine st_val hs (y_build (vs := [(0, .int .i64 e840.2), (1, .int .i64 x699.To)]) Bld46 rfl rfl) trivial rfl rfl fun a hs => ?_
      refine w_litSlice (α := Span) (vs := [.agg #[.int .i64 e840.2, .int .i64 x699.To]]) (cs := [.int .i64 e840.2, .int .i64 x699.To]) (xs := ([(⟨e840.2, x699.To⟩ : Span)] : List Span)) hs hw El27 rfl rfl rfl rfl rfl rfl ⟨⟨_, _, rfl, rfl, rfl⟩, rfl⟩ rfl trivial rfl fun b942 a w hs hw => ?_
      obtain ⟨l944, h943, hsh⟩ := bind_t hsh
      refine w_appendR (α := Span) hs hw El27 3 rfl rfl rfl 2 rfl 0 rfl 0 rfl h943 rfl trivial ?_
      intro p945 k946 c947 a w hs hw
      refine st_val hs (y_assign rfl) trivial rfl rfl fun a hs => ?_
      refine wpList_nil ?_
      refine then_normal ?_
      exact ⟨l944, c947, p945, k946, Sv844, hsh, (hs.wk rfl), (hw.ft [2, 3, 4] [2, 0, 4] (by decide) rfl rfl)⟩
     ·have hsh := ite_f hsh h940
      refine wp_skip ?_
      refine then_normal ?_
      exact ⟨e840.1, c841, p842, k843, Sv844, hsh, (hs.wk rfl), (hw.ft [1, 2, 3] [0, 1, 2] (by decide) rfl rfl)⟩
    ·rintro a w ⟨out939, c935, p936, k937, Sv938, hsh, hs, hw⟩
     delta span_Minus_j4 at hsh
     refine blk_normal ?_
     refine then_normal ?_
     refine wp_region_lit ?_
     refine st_val hs (y_add rfl rfl) trivial rfl rfl fun a hs => ?_
     refine st_val hs (y_move rfl) trivial rfl rfl fun a hs => ?_
     refine wpList_nil ?_
     refine then_normal ?_
     exact ⟨_, (Option.some.inj hsh).symm, c935, p936, k937, Sv938, (hs.wk rfl), (hw.ft [0, 1, 2] [0, 1, 2] (by decide) rfl rfl)⟩
  ·have hsh := ite_f hsh h535
   refine wp_exit ?_
   refine then_exit ?_
   refine then_exit ?_
   refine blk_exit ?_
   have hsh := Option.some.inj hsh
   subst hsh
   have h949 := hd526 _ rfl
   subst h949
   refine then_normal ?_
   exact ⟨c360, p361, k362, Sv363, (hs.wk rfl), (hw.ft [1] [1] (by decide) rfl rfl)⟩
 ·rintro a w ⟨c530, p531, k532, Sv533, hs, hw⟩
  refine then_normal ?_
  refine wp_seq ?_
  refine wp_region_lit ?_
  refine st_val hs (y_move rfl) trivial rfl rfl fun a hs => ?_
  refine st_val hs (y_assign rfl) trivial rfl rfl fun a hs => ?_
  refine wpList_nil ?_
  refine then_normal ?_
  have hsh := Option.some.inj hsh
  subst hsh
  refine wp_ret ?_
  exact ret1 hs rfl (rv_tmp rfl) (hw.ret ⟨p531, k532, c530, rfl, (hw.outs [0] (by decide) rfl), (hw.envAt 0 rfl)⟩)

abbrev receiver_limited_rd (w0 : World) (X : List Nat) (r : (Receiver × Int)) : (Nat → Prop) → World → Value → Prop := fun S w v => ∃ (p0_0 : Option Addr) (k0_0 : Nat) (p0_1 : Option Addr) (k0_1 : Nat), v = .tuple #[.agg #[.slice p0_0 r.1.Got.length k0_0, .slice p0_1 r.1.Lost.length k0_1], .int .i64 r.2] ∧ (SlA p0_0 r.1.Got.length k0_0 r.1.Got).p S w ∧ (SlA p0_1 r.1.Lost.length k0_1 r.1.Lost).p S w
set_option maxHeartbeats 4000000 in
set_option maxRecDepth 100000 in
theorem receiver_limited_ok {w0 : World} {S0 : Nat → Prop} {p2 : Option Addr} {k3 : Nat} {p6 : Option Addr} {k7 : Nat} {got1 : (List Span)} {lost5 : (List Span)} {r : (Receiver × Int)} (hsh : receiver_limited got1 lost5 = some r) (hS : ∀ b, S0 b → b < w0.heap.size) (h4 : (SlA p2 got1.length k3 got1).p S0 w0) (h8 : (SlA p6 lost5.length k7 lost5).p S0 w0) : Calls Try.prog 36 #[.slice p2 got1.length k3, .slice p6 lost5.length k7] w0 (Ret ([]) w0 S0 (receiver_limited_rd w0 ([]) r)) := by
 refine calls_of_wp Try.func36 rfl ?_
 have hs := Sl.enter #[.slice p2 got1.length k3, .slice p6 lost5.length k7] 18 [(0, .slice p2 got1.length k3), (1, .slice p6 lost5.length k7)] rfl ⟨rfl, rfl, trivial⟩
 have hw := Wd.enter (E := []) hS (fun _ h => (by cases h))
 have hw := hw.addE h4
 have hw := hw.addE h8
 delta receiver_limited at hsh
 refine wp_seq ?_
 refine wp_region_lit ?_
 refine w_alloc (cs := [.slice none ([] : List Span).length 0, .slice none ([] : List Span).length 0]) hs hw Try.zeroValue29 rfl rfl trivial ?_
 intro b9 a w hs hw
 refine st_val hs (y_assign rfl) trivial rfl rfl fun a hs => ?_
 refine wpList_nil ?_
 refine then_normal ?_
 refine wp_seq ?_
 refine wp_seq ?_
 refine wp_region_lit ?_
 refine st_val hs (y_move rfl) trivial rfl rfl fun a hs => ?_
 refine st_val hs (y_len Try.runUnderlying27 rfl) trivial rfl rfl fun a hs => ?_
 refine st_val hs (y_gtr rfl rfl) trivial rfl rfl fun a hs => ?_
 refine st_val hs (y_move rfl) trivial rfl rfl fun a hs => ?_
 refine wpl_join 4 (fun a w1 => w = w1 ∧ Sl 18 [(0, .slice p2 got1.length k3), (1, .slice p6 lost5.length k7), (4, .pointer (some ⟨b9, 0, none⟩)), (13, .bool ((decide (4096 < (got1.length : Int))) || (decide (4096 < (lost5.length : Int)))))] a) ?_ ?_
 ·rcases Bool.eq_false_or_eq_true (decide (4096 < (got1.length : Int))) with h10 | h10
  ·have hs := hs.fix 9 (.bool true) rfl (vb h10)
   refine st_skip hs rfl rfl rfl rfl rfl fun a hs => ?_
   refine st_skip hs rfl rfl rfl rfl rfl fun a hs => ?_
   refine st_skip hs rfl rfl rfl rfl rfl fun a hs => ?_
   refine st_val hs (y_pickT rfl rfl) trivial rfl rfl fun a hs => ?_
   refine wpList_nil ?_
   refine then_normal ?_
   exact ⟨rfl, (hs.fix 13 (.bool ((decide (4096 < (got1.length : Int))) || (decide (4096 < (lost5.length : Int))))) rfl (or_t h10)).weaken _ ⟨rfl, rfl, rfl, rfl, trivial⟩⟩
  ·have hs := hs.fix 9 (.bool false) rfl (vb h10)
   refine st_val hs (y_move rfl) ⟨_, rfl, rfl⟩ rfl rfl fun a hs => ?_
   refine st_val hs (y_len Try.runUnderlying27 rfl) ⟨_, rfl, rfl⟩ rfl rfl fun a hs => ?_
   refine st_val hs (y_gtr rfl rfl) ⟨_, rfl, rfl⟩ rfl rfl fun a hs => ?_
   refine st_val hs (y_pickF rfl rfl) trivial rfl rfl fun a hs => ?_
   refine wpList_nil ?_
   refine then_normal ?_
   exact ⟨rfl, (hs.fix 13 (.bool ((decide (4096 < (got1.length : Int))) || (decide (4096 < (lost5.length : Int))))) rfl (or_f h10)).weaken _ ⟨rfl, rfl, rfl, rfl, trivial⟩⟩
 ·rintro a w1 ⟨h13, hs⟩
  subst h13
  refine wpList_nil ?_
  refine then_normal ?_
  refine wp_cond_split (hs.ev rfl) (fun h12 => ?_) (fun h12 => ?_)
  ·have hsh := ite_t hsh h12
   refine wp_seq ?_
   refine wp_region_lit ?_
   refine st_val hs (y_build (vs := []) Bld29 rfl rfl) trivial rfl rfl fun a hs => ?_
   refine w_store (m := 2) (cs' := [.slice none ([] : List Span).length 0, .slice none ([] : List Span).length 0]) hs hw 0 rfl rfl rfl Try.sizeOf29 rfl rfl rfl rfl trivial ?_
   intro a w hs hw
   refine st_val hs (y_assign rfl) trivial rfl rfl fun a hs => ?_
   refine wpList_nil ?_
   refine then_normal ?_
   have hsh := Option.some.inj hsh
   subst hsh
   have hw := hw.addE (e := SlA (α := Span) none 0 0 []) nil_sl
   refine wp_ret ?_
   refine then_ret ?_
   exact ret2 hs rfl (rv_cell hw 0 rfl rfl Try.isAgg29 Try.sizeOf29 rfl) (rv_tmp rfl) (hw.ret ⟨none, 0, none, 0, rfl, (hw.envAt 0 rfl), (hw.envAt 0 rfl)⟩)
  ·have hsh := ite_f hsh h12
   refine wp_skip ?_
   refine then_normal ?_
   refine wp_seq ?_
   refine wp_region_lit ?_
   refine st_val hs (y_move rfl) trivial rfl rfl fun a hs => ?_
   refine st_val hs (y_move rfl) trivial rfl rfl fun a hs => ?_
   refine st_val hs (y_build (vs := [(0, .slice p2 got1.length k3), (1, .slice p6 lost5.length k7)]) Bld29 rfl rfl) trivial rfl rfl fun a hs => ?_
   refine w_store (m := 2) (cs' := [.slice p2 got1.length k3, .slice p6 lost5.length k7]) hs hw 0 rfl rfl rfl Try.sizeOf29 rfl rfl rfl rfl trivial ?_
   intro a w hs hw
   refine st_val hs (y_assign rfl) trivial rfl rfl fun a hs => ?_
   refine wpList_nil ?_
   refine then_normal ?_
   have hsh := Option.some.inj hsh
   subst hsh
   refine wp_ret ?_
   exact ret2 hs rfl (rv_cell hw 0 rfl rfl Try.isAgg29 Try.sizeOf29 rfl) (rv_tmp rfl) (hw.ret ⟨p2, k3, p6, k7, rfl, (hw.envAt 1 rfl), (hw.envAt 0 rfl)⟩)

abbrev receiver_Accept_rd (w0 : World) (X : List Nat) (r : (Receiver × Bool × Int)) : (Nat → Prop) → World → Value → Prop := fun S w v => ∃ (p0_0 : Option Addr) (k0_0 : Nat) (p0_1 : Option Addr) (k0_1 : Nat), v = .tuple #[.agg #[.slice p0_0 r.1.Got.length k0_0, .slice p0_1 r.1.Lost.length k0_1], .bool r.2.1, .int .i64 r.2.2] ∧ (SlA p0_0 r.1.Got.length k0_0 r.1.Got).p S w ∧ (SlA p0_1 r.1.Lost.length k0_1 r.1.Lost).p S w
set_option maxHeartbeats 4000000 in
set_option maxRecDepth 100000 in
theorem receiver_Accept_ok {w0 : World} {S0 : Nat → Prop} {p2 : Option Addr} {k3 : Nat} {p4 : Option Addr} {k5 : Nat} {r1 : Receiver} {seq8 : Int} {r : (Receiver × Bool × Int)} (hsh : receiver_Accept r1 seq8 = some r) (hS : ∀ b, S0 b → b < w0.heap.size) (h6 : (SlA p2 r1.Got.length k3 r1.Got).p S0 w0) (h7 : (SlA p4 r1.Lost.length k5 r1.Lost).p S0 w0) : Calls Try.prog 13 #[.agg #[.slice p2 r1.Got.length k3, .slice p4 r1.Lost.length k5], .int .i64 seq8] w0 (Ret ([]) w0 S0 (receiver_Accept_rd w0 ([]) r)) := by
 refine calls_of_wp Try.func13 rfl ?_
 have hs := Sl.enter #[.agg #[.slice p2 r1.Got.length k3, .slice p4 r1.Lost.length k5], .int .i64 seq8] 47 [(0, .agg #[.slice p2 r1.Got.length k3, .slice p4 r1.Lost.length k5]), (1, .int .i64 seq8)] rfl ⟨rfl, rfl, trivial⟩
 have hw := Wd.enter (E := []) hS (fun _ h => (by cases h))
 have hw := hw.addE h6
 have hw := hw.addE h7
 delta receiver_Accept at hsh
 refine wp_seq ?_
 refine wp_region_lit ?_
 refine w_box (cs := [.slice p2 r1.Got.length k3, .slice p4 r1.Lost.length k5]) hs hw rfl rfl rfl trivial ?_
 intro b9 a w hs hw
 refine w_alloc (cs := [.slice none ([] : List Span).length 0, .slice none ([] : List Span).length 0]) hs hw Try.zeroValue29 rfl rfl trivial ?_
 intro b10 a w hs hw
 refine st_val hs (y_assign rfl) trivial rfl rfl fun a hs => ?_
 refine st_val hs (y_assign rfl) trivial rfl rfl fun a hs => ?_
 refine wpList_nil ?_
 refine then_normal ?_
 refine wp_seq ?_
 refine wp_seq ?_
 refine wp_region_lit ?_
 refine st_val hs (y_loadBA (hw.ownAt 1 rfl) rfl Try.isAgg29 Try.sizeOf29 rfl rfl) trivial rfl rfl fun a hs => ?_
 obtain ⟨rv12, h11, hsh⟩ := bind_t hsh
 refine st_callR hs (receiver_Valid_ok h11 hw.bdom (hw.bE 1 rfl) (hw.bE 0 rfl)) (do_call Try.call15 rfl) trivial rfl rfl ?_
 intro v16 Sv13 w a h14 h15 hs
 subst h15
 have hw := hw.callB h14
 refine st_val hs (y_not rfl) trivial rfl rfl fun a hs => ?_
 refine wpList_nil ?_
 refine then_normal ?_
 refine wp_cond_split (hs.ev rfl) (fun h19 => ?_) (fun h19 => ?_)
 ·have hsh := ite_t hsh h19
  refine wp_seq ?_
  refine wp_region_lit ?_
  refine st_val hs (y_build (vs := []) Bld29 rfl rfl) trivial rfl rfl fun a hs => ?_
  refine w_store (m := 2) (cs' := [.slice none ([] : List Span).length 0, .slice none ([] : List Span).length 0]) hs hw 0 rfl rfl rfl Try.sizeOf29 rfl rfl rfl rfl trivial ?_
  intro a w hs hw
  refine st_val hs (y_assign rfl) trivial rfl rfl fun a hs => ?_
  refine st_val hs (y_assign rfl) trivial rfl rfl fun a hs => ?_
  refine wpList_nil ?_
  refine then_normal ?_
  have hsh := Option.some.inj hsh
  subst hsh
  have hw := hw.addE (e := SlA (α := Span) none 0 0 []) nil_sl
  refine wp_ret ?_
  refine then_ret ?_
  exact ret3 hs rfl (rv_cell hw 0 rfl rfl Try.isAgg29 Try.sizeOf29 rfl) (rv_tmp rfl) (rv_tmp rfl) (hw.ret ⟨none, 0, none, 0, rfl, (hw.envAt 0 rfl), (hw.envAt 0 rfl)⟩)
 ·have hsh := ite_f hsh h19
  refine wp_skip ?_
  refine then_normal ?_
  refine wp_seq ?_
  refine wp_seq ?_
  refine wp_region_lit ?_
  refine st_val hs (y_move rfl) trivial rfl rfl fun a hs => ?_
  obtain ⟨rv21, h20, hsh⟩ := bind_t hsh
  refine st_callR hs (receiver_in_ok h20 hw.bdom) (do_call Try.call34 rfl) trivial rfl rfl ?_
  intro v25 Sv22 w a h23 h24 hs
  subst h24
  have hw := hw.callB h23
  refine st_val hs (y_not rfl) trivial rfl rfl fun a hs => ?_
  refine wpList_nil ?_
  refine then_normal ?_
  refine wp_cond_split (hs.ev rfl) (fun h28 => ?_) (fun h28 => ?_)
  ·have hsh := ite_t hsh h28
   refine wp_seq ?_
   refine wp_region_lit ?_
   refine st_val hs (y_build (vs := []) Bld29 rfl rfl) trivial rfl rfl fun a hs => ?_
   refine w_store (m := 2) (cs' := [.slice none ([] : List Span).length 0, .slice none ([] : List Span).length 0]) hs hw 0 rfl rfl rfl Try.sizeOf29 rfl rfl rfl rfl trivial ?_
   intro a w hs hw
   refine st_val hs (y_assign rfl) trivial rfl rfl fun a hs => ?_
   refine st_val hs (y_assign rfl) trivial rfl rfl fun a hs => ?_
   refine wpList_nil ?_
   refine then_normal ?_
   have hsh := Option.some.inj hsh
   subst hsh
   have hw := hw.addE (e := SlA (α := Span) none 0 0 []) nil_sl
   refine wp_ret ?_
   refine then_ret ?_
   exact ret3 hs rfl (rv_cell hw 0 rfl rfl Try.isAgg29 Try.sizeOf29 rfl) (rv_tmp rfl) (rv_tmp rfl) (hw.ret ⟨none, 0, none, 0, rfl, (hw.envAt 0 rfl), (hw.envAt 0 rfl)⟩)
  ·have hsh := ite_f hsh h28
   refine wp_skip ?_
   refine then_normal ?_
   refine wp_seq ?_
   refine wp_region_lit ?_
   refine st_val hs (y_move rfl) trivial rfl rfl fun a hs => ?_
   refine st_val hs (y_move rfl) trivial rfl rfl fun a hs => ?_
   refine st_val hs (y_add rfl rfl) trivial rfl rfl fun a hs => ?_
   refine st_val hs (y_build (vs := [(0, .int .i64 seq8), (1, .int .i64 (w64 (seq8 + 1)))]) Bld46 rfl rfl) trivial rfl rfl fun a hs => ?_
   refine w_litSlice (α := Span) (vs := [.agg #[.int .i64 seq8, .int .i64 (w64 (seq8 + 1))]]) (cs := [.int .i64 seq8, .int .i64 (w64 (seq8 + 1))]) (xs := ([(⟨seq8, (w64 (seq8 + 1))⟩ : Span)] : List Span)) hs hw El27 rfl rfl rfl rfl rfl rfl ⟨⟨_, _, rfl, rfl, rfl⟩, rfl⟩ rfl trivial rfl fun b30 a w hs hw => ?_
   refine st_val hs (y_assign rfl) trivial rfl rfl fun a hs => ?_
   refine wpList_nil ?_
   refine then_normal ?_
   refine wp_seq ?_
   refine wp_region_lit ?_
   refine st_val hs (y_fieldAddr (o' := 0) Try.runUnderlying29 rfl Try.sizeOf27 rfl rfl rfl) trivial rfl rfl fun a hs => ?_
   refine st_val hs (y_loadB1 (hw.ownAt 2 rfl) rfl Try.isAgg27 rfl) trivial rfl rfl fun a hs => ?_
   refine st_val hs (y_move rfl) trivial rfl rfl fun a hs => ?_
   obtain ⟨rv32, h31, hsh⟩ := bind_t hsh
   refine st_callR hs (span_Has_ok h31 hw.bdom (hw.bE 2 rfl)) (do_call Try.call39 rfl) trivial rfl rfl ?_
   intro v36 Sv33 w a h34 h35 hs
   subst h35
   have hw := hw.callB h34
   refine st_val hs (y_not rfl) trivial rfl rfl fun a hs => ?_
   refine st_val hs (y_assign rfl) trivial rfl rfl fun a hs => ?_
   refine wpList_nil ?_
   refine then_normal ?_
   refine wp_seq ?_
   obtain ⟨rv39, h38, hsh⟩ := bind_t hsh
   obtain ⟨rv45, h44, hsh⟩ := bind_t hsh
   obtain ⟨rv51, h50, hsh⟩ := bind_t hsh
   refine wp_only (fun a w => ∃ (Sv58 : Nat → Prop) (k53 : Nat) (k56 : Nat) (p52 : Option Addr) (p55 : Option Addr), Sl 47 [(2, .pointer (some ⟨b9, 0, none⟩)), (4, .pointer (some ⟨b10, 0, none⟩)), (8, .bool (!rv32)), (9, .int .i64 rv51.2)] a ∧ Wd ⟨w0, S0, []⟩ Sv58 [.box b9 [.slice p52 rv51.1.Got.length k53, .slice p55 rv51.1.Lost.length k56] 29, .box b10 [.slice none ([] : List Span).length 0, .slice none ([] : List Span).length 0] 29] [SlA p52 rv51.1.Got.length k53 rv51.1.Got, SlA p55 rv51.1.Lost.length k56 rv51.1.Lost, SlA none ([] : List Span).length 0 ([] : List Span)] w) ?_ ?_
   ·refine h_b (C := Cls [.box b10 [.slice none ([] : List Span).length 0, .slice none ([] : List Span).length 0] 29] []) (by kernel_rfl) rfl (hw.drew.cs [1] [] rfl rfl) fun hC => ?_
    have hw := hw.drew
    refine h_g hs 0 rfl (by kernel_rfl) rfl rfl hC rfl (fun w hC => y_fieldAddr (o' := 0) Try.runUnderlying29 rfl Try.sizeOf27 rfl rfl rfl) fun a hs => ?_
    refine h_g hs 2 rfl (by kernel_rfl) rfl rfl hC rfl (fun w hC => y_move rfl) fun a hs => ?_
    refine h_g hs 4 rfl (by kernel_rfl) rfl rfl hC rfl (fun w hC => y_fieldAddr (o' := 1) Try.runUnderlying29 rfl Try.sizeOf27 rfl rfl rfl) fun a hs => ?_
    refine h_g hs 6 rfl (by kernel_rfl) rfl rfl hC rfl (fun w hC => y_move rfl) fun a hs => ?_
    refine h_all (rs := [1, 5]) (by kernel_rfl) rfl ?_
    refine AllH.cons rfl ?_ ?_
    ·refine st_val hs (y_loadB1 (hw.ownAt 2 rfl) rfl Try.isAgg27 rfl) trivial rfl rfl fun a hs => ?_
     refine h_nx (hw.cs [1] [] rfl rfl) fun hC => ?_
     refine h_all (rs := [3, 5]) (by kernel_rfl) rfl ?_
     refine AllH.cons rfl ?_ ?_
     ·obtain ⟨Sv59, hw⟩ := w_share (α := Span) hw 0 rfl 0 rfl
      refine st_callR hs (span_Union_ok h38 hw.dom (hw.envAt 3 rfl) (hw.envAt 0 rfl)) (do_call Try.call38 rfl) trivial rfl rfl ?_
      intro v63 Sv60 w a h61 h62 hs
      obtain ⟨p40, k41, c43, rfl, h64, h42⟩ := h62
      have hw := hw.callN h61 h64
      have hw := hw.addE (e := RowA c43 rv39) h42
      refine h_nx (hw.cs [1] [] rfl rfl) fun hC => ?_
      refine h_one (i := 5) (by kernel_rfl) rfl ?_
      refine st_val hs (y_loadB1 (hw.ownAt 2 rfl) rfl Try.isAgg27 rfl) trivial rfl rfl fun a hs => ?_
      refine h_nx (hw.cs [1] [] rfl rfl) fun hC => ?_
      refine h_one (i := 7) (by kernel_rfl) rfl ?_
      refine st_callR hs (span_Minus_ok h44 hw.dom (hw.envAt 3 rfl) (hw.envAt 1 rfl)) (do_call Try.call35 rfl) trivial rfl rfl ?_
      intro v68 Sv65 w a h66 h67 hs
      obtain ⟨p46, k47, c49, rfl, h69, h48⟩ := h67
      have hw := hw.callN h66 h69
      have hw := hw.addE (e := RowA c49 rv45) h48
      refine h_nx (hw.cs [2] [] rfl rfl) fun hC => ?_
      refine h_one (i := 8) (by kernel_rfl) rfl ?_
      obtain ⟨Sv70, hw⟩ := w_share (α := Span) hw 1 rfl 1 rfl
      obtain ⟨Sv71, hw⟩ := w_share (α := Span) hw 0 rfl 1 rfl
      refine st_callR hs (receiver_limited_ok h50 hw.dom (hw.envAt 1 rfl) (hw.envAt 0 rfl)) (do_call Try.call36 rfl) trivial rfl rfl ?_
      intro v75 Sv72 w a h73 h74 hs
      obtain ⟨p52, k53, p55, k56, rfl, h54, h57⟩ := h74
      have hw := hw.call h73
      have hw := hw.addE (e := SlA p52 rv51.1.Got.length k53 rv51.1.Got) h54
      have hw := hw.addE (e := SlA p55 rv51.1.Lost.length k56 rv51.1.Lost) h57
      refine h_nx (hw.cs [0] [] rfl rfl) fun hC => ?_
      refine h_g hs 9 rfl (by kernel_rfl) rfl rfl hC rfl (fun w hC => y_move rfl) fun a hs => ?_
      refine h_g hs 10 rfl (by kernel_rfl) rfl rfl hC rfl (fun w hC => y_extract rfl rfl) fun a hs => ?_
      refine h_g hs 11 rfl (by kernel_rfl) rfl rfl hC rfl (fun w hC => y_extract rfl rfl) fun a hs => ?_
      refine h_one (i := 12) (by kernel_rfl) rfl ?_
      refine w_store (m := 2) (cs' := [.slice p52 rv51.1.Got.length k53, .slice p55 rv51.1.Lost.length k56]) hs hw 1 rfl rfl rfl Try.sizeOf29 rfl rfl rfl rfl trivial ?_
      intro a w hs hw
      refine h_nx (hw.cs [0] [] rfl rfl) fun hC => ?_
      refine h_g hs 13 rfl (by kernel_rfl) rfl rfl hC rfl (fun w hC => y_assign rfl) fun a hs => ?_
      refine h_done (by kernel_rfl) ?_
      have hw := hw.addE (e := SlA (α := Span) none 0 0 []) nil_sl
      exact ⟨Sv72, k53, k56, p52, p55, (hs.wk rfl), (hw.ft [1, 0] [2, 1, 0] (by decide) rfl rfl)⟩
     refine AllH.cons rfl ?_ ?_
     ·refine st_val hs (y_loadB1 (hw.ownAt 2 rfl) rfl Try.isAgg27 rfl) trivial rfl rfl fun a hs => ?_
      refine h_nx (hw.cs [1] [] rfl rfl) fun hC => ?_
      refine h_one (i := 3) (by kernel_rfl) rfl ?_
      obtain ⟨Sv77, hw⟩ := w_share (α := Span) hw 0 rfl 0 rfl
      refine st_callR hs (span_Union_ok h38 hw.dom (hw.envAt 3 rfl) (hw.envAt 0 rfl)) (do_call Try.call38 rfl) trivial rfl rfl ?_
      intro v81 Sv78 w a h79 h80 hs
      obtain ⟨p40, k41, c43, rfl, h82, h42⟩ := h80
      have hw := hw.callN h79 h82
      have hw := hw.addE (e := RowA c43 rv39) h42
      refine h_nx (hw.cs [1] [] rfl rfl) fun hC => ?_
      refine h_one (i := 7) (by kernel_rfl) rfl ?_
      refine st_callR hs (span_Minus_ok h44 hw.dom (hw.envAt 3 rfl) (hw.envAt 1 rfl)) (do_call Try.call35 rfl) trivial rfl rfl ?_
      intro v86 Sv83 w a h84 h85 hs
      obtain ⟨p46, k47, c49, rfl, h87, h48⟩ := h85
      have hw := hw.callN h84 h87
      have hw := hw.addE (e := RowA c49 rv45) h48
      refine h_nx (hw.cs [2] [] rfl rfl) fun hC => ?_
      refine h_one (i := 8) (by kernel_rfl) rfl ?_
      obtain ⟨Sv88, hw⟩ := w_share (α := Span) hw 1 rfl 1 rfl
      obtain ⟨Sv89, hw⟩ := w_share (α := Span) hw 0 rfl 1 rfl
      refine st_callR hs (receiver_limited_ok h50 hw.dom (hw.envAt 1 rfl) (hw.envAt 0 rfl)) (do_call Try.call36 rfl) trivial rfl rfl ?_
      intro v93 Sv90 w a h91 h92 hs
      obtain ⟨p52, k53, p55, k56, rfl, h54, h57⟩ := h92
      have hw := hw.call h91
      have hw := hw.addE (e := SlA p52 rv51.1.Got.length k53 rv51.1.Got) h54
      have hw := hw.addE (e := SlA p55 rv51.1.Lost.length k56 rv51.1.Lost) h57
      refine h_nx (hw.cs [0] [] rfl rfl) fun hC => ?_
      refine h_g hs 9 rfl (by kernel_rfl) rfl rfl hC rfl (fun w hC => y_move rfl) fun a hs => ?_
      refine h_g hs 10 rfl (by kernel_rfl) rfl rfl hC rfl (fun w hC => y_extract rfl rfl) fun a hs => ?_
      refine h_g hs 11 rfl (by kernel_rfl) rfl rfl hC rfl (fun w hC => y_extract rfl rfl) fun a hs => ?_
      refine h_one (i := 12) (by kernel_rfl) rfl ?_
      refine w_store (m := 2) (cs' := [.slice p52 rv51.1.Got.length k53, .slice p55 rv51.1.Lost.length k56]) hs hw 1 rfl rfl rfl Try.sizeOf29 rfl rfl rfl rfl trivial ?_
      intro a w hs hw
      refine h_nx (hw.cs [0] [] rfl rfl) fun hC => ?_
      refine h_g hs 13 rfl (by kernel_rfl) rfl rfl hC rfl (fun w hC => y_assign rfl) fun a hs => ?_
      refine h_done (by kernel_rfl) ?_
      have hw := hw.addE (e := SlA (α := Span) none 0 0 []) nil_sl
      exact ⟨Sv90, k53, k56, p52, p55, (hs.wk rfl), (hw.ft [1, 0] [2, 1, 0] (by decide) rfl rfl)⟩
     exact AllH.nil
    refine AllH.cons rfl ?_ ?_
    ·refine st_val hs (y_loadB1 (hw.ownAt 2 rfl) rfl Try.isAgg27 rfl) trivial rfl rfl fun a hs => ?_
     refine h_nx (hw.cs [1] [] rfl rfl) fun hC => ?_
     refine h_one (i := 1) (by kernel_rfl) rfl ?_
     refine st_val hs (y_loadB1 (hw.ownAt 2 rfl) rfl Try.isAgg27 rfl) trivial rfl rfl fun a hs => ?_
     refine h_nx (hw.cs [1] [] rfl rfl) fun hC => ?_
     refine h_one (i := 3) (by kernel_rfl) rfl ?_
     obtain ⟨Sv95, hw⟩ := w_share (α := Span) hw 0 rfl 0 rfl
     refine st_callR hs (span_Union_ok h38 hw.dom (hw.envAt 3 rfl) (hw.envAt 0 rfl)) (do_call Try.call38 rfl) trivial rfl rfl ?_
     intro v99 Sv96 w a h97 h98 hs
     obtain ⟨p40, k41, c43, rfl, h100, h42⟩ := h98
     have hw := hw.callN h97 h100
     have hw := hw.addE (e := RowA c43 rv39) h42
     refine h_nx (hw.cs [1] [] rfl rfl) fun hC => ?_
     refine h_one (i := 7) (by kernel_rfl) rfl ?_
     refine st_callR hs (span_Minus_ok h44 hw.dom (hw.envAt 3 rfl) (hw.envAt 1 rfl)) (do_call Try.call35 rfl) trivial rfl rfl ?_
     intro v104 Sv101 w a h102 h103 hs
     obtain ⟨p46, k47, c49, rfl, h105, h48⟩ := h103
     have hw := hw.callN h102 h105
     have hw := hw.addE (e := RowA c49 rv45) h48
     refine h_nx (hw.cs [2] [] rfl rfl) fun hC => ?_
     refine h_one (i := 8) (by kernel_rfl) rfl ?_
     obtain ⟨Sv106, hw⟩ := w_share (α := Span) hw 1 rfl 1 rfl
     obtain ⟨Sv107, hw⟩ := w_share (α := Span) hw 0 rfl 1 rfl
     refine st_callR hs (receiver_limited_ok h50 hw.dom (hw.envAt 1 rfl) (hw.envAt 0 rfl)) (do_call Try.call36 rfl) trivial rfl rfl ?_
     intro v111 Sv108 w a h109 h110 hs
     obtain ⟨p52, k53, p55, k56, rfl, h54, h57⟩ := h110
     have hw := hw.call h109
     have hw := hw.addE (e := SlA p52 rv51.1.Got.length k53 rv51.1.Got) h54
     have hw := hw.addE (e := SlA p55 rv51.1.Lost.length k56 rv51.1.Lost) h57
     refine h_nx (hw.cs [0] [] rfl rfl) fun hC => ?_
     refine h_g hs 9 rfl (by kernel_rfl) rfl rfl hC rfl (fun w hC => y_move rfl) fun a hs => ?_
     refine h_g hs 10 rfl (by kernel_rfl) rfl rfl hC rfl (fun w hC => y_extract rfl rfl) fun a hs => ?_
     refine h_g hs 11 rfl (by kernel_rfl) rfl rfl hC rfl (fun w hC => y_extract rfl rfl) fun a hs => ?_
     refine h_one (i := 12) (by kernel_rfl) rfl ?_
     refine w_store (m := 2) (cs' := [.slice p52 rv51.1.Got.length k53, .slice p55 rv51.1.Lost.length k56]) hs hw 1 rfl rfl rfl Try.sizeOf29 rfl rfl rfl rfl trivial ?_
     intro a w hs hw
     refine h_nx (hw.cs [0] [] rfl rfl) fun hC => ?_
     refine h_g hs 13 rfl (by kernel_rfl) rfl rfl hC rfl (fun w hC => y_assign rfl) fun a hs => ?_
     refine h_done (by kernel_rfl) ?_
     have hw := hw.addE (e := SlA (α := Span) none 0 0 []) nil_sl
     exact ⟨Sv108, k53, k56, p52, p55, (hs.wk rfl), (hw.ft [1, 0] [2, 1, 0] (by decide) rfl rfl)⟩
    exact AllH.nil
   ·rintro a w ⟨Sv58, k53, k56, p52, p55, hs, hw⟩
    refine then_normal ?_
    refine wp_seq ?_
    refine wp_region_lit ?_
    refine st_val hs (y_loadBA (hw.ownAt 0 rfl) rfl Try.isAgg29 Try.sizeOf29 rfl rfl) trivial rfl rfl fun a hs => ?_
    refine st_val hs (y_move rfl) trivial rfl rfl fun a hs => ?_
    refine st_val hs (y_move rfl) trivial rfl rfl fun a hs => ?_
    refine wpl_join 3 (fun a w1 => w = w1 ∧ Sl 47 [(4, .pointer (some ⟨b10, 0, none⟩)), (9, .int .i64 rv51.2), (40, .agg #[.slice p52 rv51.1.Got.length k53, .slice p55 rv51.1.Lost.length k56]), (45, .bool ((!rv32) && (rv51.2 == 0)))] a) ?_ ?_
    ·rcases Bool.eq_false_or_eq_true (!rv32) with h113 | h113
     ·have hs := hs.fix 42 (.bool true) rfl (vb h113)
      refine st_val hs (y_move rfl) ⟨_, rfl, rfl⟩ rfl rfl fun a hs => ?_
      refine st_val hs (y_eql rfl rfl) ⟨_, rfl, rfl⟩ rfl rfl fun a hs => ?_
      refine st_val hs (y_pickT rfl rfl) trivial rfl rfl fun a hs => ?_
      refine wpList_nil ?_
      refine then_normal ?_
      exact ⟨rfl, (hs.fix 45 (.bool ((!rv32) && (rv51.2 == 0))) rfl (and_t h113)).weaken _ ⟨rfl, rfl, rfl, rfl, trivial⟩⟩
     ·have hs := hs.fix 42 (.bool false) rfl (vb h113)
      refine st_skip hs rfl rfl rfl rfl rfl fun a hs => ?_
      refine st_skip hs rfl rfl rfl rfl rfl fun a hs => ?_
      refine st_val hs (y_pickF rfl rfl) trivial rfl rfl fun a hs => ?_
      refine wpList_nil ?_
      refine then_normal ?_
      exact ⟨rfl, (hs.fix 45 (.bool ((!rv32) && (rv51.2 == 0))) rfl (and_f h113)).weaken _ ⟨rfl, rfl, rfl, rfl, trivial⟩⟩
    ·rintro a w1 ⟨h114, hs⟩
     subst h114
     refine st_val hs (y_move rfl) trivial rfl rfl fun a hs => ?_
     refine w_store (m := 2) (cs' := [.slice p52 rv51.1.Got.length k53, .slice p55 rv51.1.Lost.length k56]) hs hw 1 rfl rfl rfl Try.sizeOf29 rfl rfl rfl rfl trivial ?_
     intro a w hs hw
     refine st_val hs (y_assign rfl) trivial rfl rfl fun a hs => ?_
     refine st_val hs (y_assign rfl) trivial rfl rfl fun a hs => ?_
     refine wpList_nil ?_
     refine then_normal ?_
     have hsh := Option.some.inj hsh
     subst hsh
     refine wp_ret ?_
     exact ret3 hs rfl (rv_cell hw 1 rfl rfl Try.isAgg29 Try.sizeOf29 rfl) (rv_tmp rfl) (rv_tmp rfl) (hw.ret ⟨p52, k53, p55, k56, rfl, (hw.envAt 0 rfl), (hw.envAt 1 rfl)⟩)

abbrev receiver_High_rd (w0 : World) (X : List Nat) (r : Int) : (Nat → Prop) → World → Value → Prop := fun S w v => v = .int .i64 r
set_option maxHeartbeats 4000000 in
set_option maxRecDepth 100000 in
theorem receiver_High_ok {w0 : World} {S0 : Nat → Prop} {p2 : Option Addr} {k3 : Nat} {p4 : Option Addr} {k5 : Nat} {r1 : Receiver} {r : Int} (hsh : receiver_High r1 = some r) (hS : ∀ b, S0 b → b < w0.heap.size) (h6 : (SlA p2 r1.Got.length k3 r1.Got).p S0 w0) (h7 : (SlA p4 r1.Lost.length k5 r1.Lost).p S0 w0) : Calls Try.prog 18 #[.agg #[.slice p2 r1.Got.length k3, .slice p4 r1.Lost.length k5]] w0 (Ret ([]) w0 S0 (receiver_High_rd w0 ([]) r)) := by
 refine calls_of_wp Try.func18 rfl ?_
 have hs := Sl.enter #[.agg #[.slice p2 r1.Got.length k3, .slice p4 r1.Lost.length k5]] 33 [(0, .agg #[.slice p2 r1.Got.length k3, .slice p4 r1.Lost.length k5])] rfl ⟨rfl, trivial⟩
 have hw := Wd.enter (E := []) hS (fun _ h => (by cases h))
 have hw := hw.addE h6
 have hw := hw.addE h7
 delta receiver_High at hsh
 refine wp_seq ?_
 refine wp_region_lit ?_
 refine w_box (cs := [.slice p2 r1.Got.length k3, .slice p4 r1.Lost.length k5]) hs hw rfl rfl rfl trivial ?_
 intro b8 a w hs hw
 refine st_val hs (y_assign rfl) trivial rfl rfl fun a hs => ?_
 refine wpList_nil ?_
 refine then_normal ?_
 refine wp_seq ?_
 refine wp_seq ?_
 refine wp_region_lit ?_
 refine st_val hs (y_loadBA (hw.ownAt 0 rfl) rfl Try.isAgg29 Try.sizeOf29 rfl rfl) trivial rfl rfl fun a hs => ?_
 obtain ⟨rv10, h9, hsh⟩ := bind_t hsh
 refine st_callR hs (receiver_Valid_ok h9 hw.bdom (hw.bE 1 rfl) (hw.bE 0 rfl)) (do_call Try.call15 rfl) trivial rfl rfl ?_
 intro v14 Sv11 w a h12 h13 hs
 subst h13
 have hw := hw.callB h12
 refine st_val hs (y_not rfl) trivial rfl rfl fun a hs => ?_
 refine wpList_nil ?_
 refine then_normal ?_
 refine wp_cond_split (hs.ev rfl) (fun h17 => ?_) (fun h17 => ?_)
 ·have hsh := ite_t hsh h17
  refine wp_seq ?_
  refine wp_region_lit ?_
  refine st_val hs (y_assign rfl) trivial rfl rfl fun a hs => ?_
  refine wpList_nil ?_
  refine then_normal ?_
  have hsh := Option.some.inj hsh
  subst hsh
  refine wp_ret ?_
  refine then_ret ?_
  exact ret1 hs rfl (rv_tmp rfl) (hw.ret rfl)
 ·have hsh := ite_f hsh h17
  refine wp_skip ?_
  refine then_normal ?_
  refine wp_seq ?_
  refine wp_region_lit ?_
  refine st_val hs (y_assign rfl) trivial rfl rfl fun a hs => ?_
  refine wpList_nil ?_
  refine then_normal ?_
  refine wp_seq ?_
  refine wp_seq ?_
  refine wp_region_lit ?_
  refine st_val hs (y_fieldAddr (o' := 0) Try.runUnderlying29 rfl Try.sizeOf27 rfl rfl rfl) trivial rfl rfl fun a hs => ?_
  refine st_val hs (y_loadB1 (hw.ownAt 0 rfl) rfl Try.isAgg27 rfl) trivial rfl rfl fun a hs => ?_
  refine st_val hs (y_fieldAddr (o' := 1) Try.runUnderlying29 rfl Try.sizeOf27 rfl rfl rfl) trivial rfl rfl fun a hs => ?_
  refine st_val hs (y_loadB1 (hw.ownAt 0 rfl) rfl Try.isAgg27 rfl) trivial rfl rfl fun a hs => ?_
  refine w_litSlice (α := (List Span)) (vs := [.slice p2 r1.Got.length k3, .slice p4 r1.Lost.length k5]) (cs := [.slice p2 r1.Got.length k3, .slice p4 r1.Lost.length k5]) (xs := ([r1.Got, r1.Lost] : List (List Span))) hs hw El43 rfl rfl rfl rfl rfl rfl ⟨⟨_, rfl, ⟨_, _, _, rfl, hw.envAt 1 rfl⟩⟩, ⟨⟨_, rfl, ⟨_, _, _, rfl, hw.envAt 0 rfl⟩⟩, rfl⟩⟩ rfl trivial rfl fun b19 a w hs hw => ?_
  refine st_val hs (y_len Try.runUnderlying43 rfl) trivial rfl rfl fun a hs => ?_
  refine st_val hs (y_move rfl) trivial rfl rfl fun a hs => ?_
  refine wpList_nil ?_
  refine then_normal ?_
  obtain ⟨e122, h205, hsh⟩ := bind_t hsh
  refine wp_join (fun a w => ∃ (Sv123 : Nat → Prop), Sl 33 [(3, .int .i64 e122)] a ∧ Wd ⟨w0, S0, []⟩ Sv123 [] [] w) ?_ ?_
  ·refine wp_block ?_
   refine wp_while (fun sv20 a w => ∃ (Sv86 : Nat → Prop), Sl 33 [(3, .int .i64 sv20.1), (13, .slice (some ⟨b19, 0, none⟩) ([r1.Got, r1.Lost] : List (List Span)).length ([r1.Got, r1.Lost] : List (List Span)).length), (14, .int .i64 (([r1.Got, r1.Lost] : List (List Span)).length : Int)), (15, .int .i64 sv20.2)] a ∧ Wd ⟨w0, S0, []⟩ Sv86 [.row (some ⟨b19, 0, none⟩) ([r1.Got, r1.Lost] : List (List Span)).length ([r1.Got, r1.Lost] : List (List Span)).length [.slice p2 r1.Got.length k3, .slice p4 r1.Lost.length k5] 27 1] [RowA [.slice p2 r1.Got.length k3, .slice p4 r1.Lost.length k5] ([r1.Got, r1.Lost] : List (List Span))] w) (0, 0) h205 ⟨S0, (hs.wk rfl), (hw.ft [0] [0] (by decide) rfl rfl)⟩ ?_
   clear h205
   repeat clear hsh
   rintro sv20 a w tv120 ⟨Sv86, hs, hw⟩ hsh hd119
   delta receiver_High_l1 at hsh
   refine wp_seq ?_
   refine wp_region_lit ?_
   refine st_val hs (y_lss rfl rfl) trivial rfl rfl fun a hs => ?_
   refine wpList_nil ?_
   refine then_normal ?_
   refine wp_seq ?_
   refine wp_cond_split (hs.ev rfl) (fun h125 => ?_) (fun h125 => ?_)
   ·have hsh := ite_t hsh h125
    refine wp_skip ?_
    refine then_normal ?_
    refine wp_seq ?_
    refine wp_block ?_
    refine wp_seq ?_
    refine wp_region_lit ?_
    obtain ⟨x159, h157, hsh⟩ := bind_t hsh
    obtain ⟨q163, c164, h160, h161, h165, h158⟩ := hw.elemRK (α := (List Span)) 0 rfl 0 rfl h157
    obtain ⟨_, rfl, ⟨p166, n167, k168, rfl, h169⟩⟩ := h158
    obtain rfl := h169.1
    have hw := hw.addE (e := SlA p166 _ k168 x159) h169
    refine st_val hs (y_indexAt Try.runUnderlying43 Try.sizeOf27 rfl rfl h160.1 h160.2 h161) trivial rfl rfl fun a hs => ?_
    refine st_val hs (y_loadQ1 (j := 0) (hw.ownAt 0 rfl) rfl Try.isAgg27 h165 rfl) trivial rfl rfl fun a hs => ?_
    refine st_val hs (y_assign rfl) trivial rfl rfl fun a hs => ?_
    refine wpList_nil ?_
    refine then_normal ?_
    refine wp_seq ?_
    refine wp_region_lit ?_
    refine st_val hs (y_move rfl) trivial rfl rfl fun a hs => ?_
    refine st_val hs (y_len Try.runUnderlying27 rfl) trivial rfl rfl fun a hs => ?_
    refine st_val hs (y_gtr rfl rfl) trivial rfl rfl fun a hs => ?_
    refine wpList_nil ?_
    refine then_normal ?_
    refine wp_join (fun a w => ∃ (high187 : Int) (Sv186 : Nat → Prop), receiver_High_j1 sv20 high187 = some tv120 ∧ Sl 33 [(3, .int .i64 high187), (13, .slice (some ⟨b19, 0, none⟩) ([r1.Got, r1.Lost] : List (List Span)).length ([r1.Got, r1.Lost] : List (List Span)).length), (14, .int .i64 (([r1.Got, r1.Lost] : List (List Span)).length : Int)), (15, .int .i64 sv20.2)] a ∧ Wd ⟨w0, S0, []⟩ Sv186 [.row (some ⟨b19, 0, none⟩) ([r1.Got, r1.Lost] : List (List Span)).length ([r1.Got, r1.Lost] : List (List Span)).length [.slice p2 r1.Got.length k3, .slice p4 r1.Lost.length k5] 27 1] [RowA [.slice p2 r1.Got.length k3, .slice p4 r1.Lost.length k5] ([r1.Got, r1.Lost] : List (List Span))] w) ?_ ?_
    ·refine wp_cond_split (hs.ev rfl) (fun h188 => ?_) (fun h188 => ?_)
     ·have hsh := ite_t hsh h188
      refine wp_region_lit ?_
      refine st_val hs (y_move rfl) trivial rfl rfl fun a hs => ?_
      refine st_val hs (y_move rfl) trivial rfl rfl fun a hs => ?_
      refine st_val hs (y_move rfl) trivial rfl rfl fun a hs => ?_
      refine st_val hs (y_len Try.runUnderlying27 rfl) trivial rfl rfl fun a hs => ?_
      refine st_val hs (y_sub rfl rfl) trivial rfl rfl fun a hs => ?_
      obtain ⟨x191, h189, hsh⟩ := bind_t hsh
      obtain ⟨b197, o198, q195, c196, h199, h192, h193, h194, h190⟩ := hw.elemV 0 rfl h189
      have hsv200 := hs
      have hwv201 := hw
      subst h199
      have hs := hsv200
      have hw := hwv201
      obtain ⟨_, _, rfl, rfl, rfl⟩ := h190
      have hw := hw.addE h194
      refine st_val hs (y_indexAt Try.runUnderlying27 Try.sizeOf46 rfl rfl h192.1 h192.2 h193) trivial rfl rfl fun a hs => ?_
      refine st_val hs (y_fieldAddr (o' := q195 + 1) Try.runUnderlying46 rfl Try.sizeOf3 rfl rfl rfl) trivial rfl rfl fun a hs => ?_
      refine st_val hs (y_loadE1 (j := 1) (hw.ceAt 0 rfl) rfl Try.isAgg3 rfl) trivial rfl rfl fun a hs => ?_
      refine st_val hs (y_max rfl rfl) trivial rfl rfl fun a hs => ?_
      obtain ⟨high203, h202, hsh⟩ := bind_t hsh
      refine st_val hs (y_assignI rfl h202) trivial rfl rfl fun a hs => ?_
      refine wpList_nil ?_
      refine then_normal ?_
      exact ⟨high203, Sv86, hsh, (hs.wk rfl), (hw.ft [0] [2] (by decide) rfl rfl)⟩
     ·have hsh := ite_f hsh h188
      refine wp_skip ?_
      refine then_normal ?_
      exact ⟨sv20.1, Sv86, hsh, (hs.wk rfl), (hw.ft [0] [1] (by decide) rfl rfl)⟩
    ·rintro a w ⟨high187, Sv186, hsh, hs, hw⟩
     delta receiver_High_j1 at hsh
     refine blk_normal ?_
     refine then_normal ?_
     refine wp_region_lit ?_
     refine st_val hs (y_add rfl rfl) trivial rfl rfl fun a hs => ?_
     refine st_val hs (y_move rfl) trivial rfl rfl fun a hs => ?_
     refine wpList_nil ?_
     refine then_normal ?_
     exact ⟨_, (Option.some.inj hsh).symm, Sv186, (hs.wk rfl), (hw.ft [0] [0] (by decide) rfl rfl)⟩
   ·have hsh := ite_f hsh h125
    refine wp_exit ?_
    refine then_exit ?_
    refine then_exit ?_
    refine blk_exit ?_
    have hsh := Option.some.inj hsh
    subst hsh
    have h204 := hd119 _ rfl
    subst h204
    refine then_normal ?_
    exact ⟨Sv86, (hs.wk rfl), (hw.ft [] [] (by decide) rfl rfl)⟩
  ·rintro a w ⟨Sv123, hs, hw⟩
   refine then_normal ?_
   refine wp_seq ?_
   refine wp_region_lit ?_
   refine st_val hs (y_move rfl) trivial rfl rfl fun a hs => ?_
   refine st_val hs (y_assign rfl) trivial rfl rfl fun a hs => ?_
   refine wpList_nil ?_
   refine then_normal ?_
   have hsh := Option.some.inj hsh
   subst hsh
   refine wp_ret ?_
   exact ret1 hs rfl (rv_tmp rfl) (hw.ret rfl)

abbrev receiver_known_rd (w0 : World) (X : List Nat) (r : (List Span)) : (Nat → Prop) → World → Value → Prop := fun S w v => ∃ (p0_0 : Option Addr) (k0_0 : Nat) (c0_0 : List Value), v = .slice p0_0 r.length k0_0 ∧ Outs X w0 S w [.row p0_0 r.length k0_0 c0_0 46 2] ∧ (RowA c0_0 r).p S w
set_option maxHeartbeats 4000000 in
set_option maxRecDepth 100000 in
theorem receiver_known_ok {w0 : World} {S0 : Nat → Prop} {p2 : Option Addr} {k3 : Nat} {p4 : Option Addr} {k5 : Nat} {r1 : Receiver} {r : (List Span)} (hsh : receiver_known r1 = some r) (hS : ∀ b, S0 b → b < w0.heap.size) (h6 : (SlA p2 r1.Got.length k3 r1.Got).p S0 w0) (h7 : (SlA p4 r1.Lost.length k5 r1.Lost).p S0 w0) : Calls Try.prog 42 #[.agg #[.slice p2 r1.Got.length k3, .slice p4 r1.Lost.length k5]] w0 (Ret ([]) w0 S0 (receiver_known_rd w0 ([]) r)) := by
 refine calls_of_wp Try.func42 rfl ?_
 have hs := Sl.enter #[.agg #[.slice p2 r1.Got.length k3, .slice p4 r1.Lost.length k5]] 8 [(0, .agg #[.slice p2 r1.Got.length k3, .slice p4 r1.Lost.length k5])] rfl ⟨rfl, trivial⟩
 have hw := Wd.enter (E := []) hS (fun _ h => (by cases h))
 have hw := hw.addE h6
 have hw := hw.addE h7
 delta receiver_known at hsh
 refine wp_seq ?_
 refine wp_region_lit ?_
 refine w_box (cs := [.slice p2 r1.Got.length k3, .slice p4 r1.Lost.length k5]) hs hw rfl rfl rfl trivial ?_
 intro b8 a w hs hw
 refine st_val hs (y_assign rfl) trivial rfl rfl fun a hs => ?_
 refine wpList_nil ?_
 refine then_normal ?_
 refine wp_seq ?_
 refine wp_region_lit ?_
 refine st_val hs (y_fieldAddr (o' := 0) Try.runUnderlying29 rfl Try.sizeOf27 rfl rfl rfl) trivial rfl rfl fun a hs => ?_
 refine st_val hs (y_loadB1 (hw.ownAt 0 rfl) rfl Try.isAgg27 rfl) trivial rfl rfl fun a hs => ?_
 refine st_val hs (y_fieldAddr (o' := 1) Try.runUnderlying29 rfl Try.sizeOf27 rfl rfl rfl) trivial rfl rfl fun a hs => ?_
 refine st_val hs (y_loadB1 (hw.ownAt 0 rfl) rfl Try.isAgg27 rfl) trivial rfl rfl fun a hs => ?_
 obtain ⟨rv10, h9, hsh⟩ := bind_t hsh
 refine st_callR hs (span_Union_ok h9 hw.dom (hw.envAt 1 rfl) (hw.envAt 0 rfl)) (do_call Try.call38 rfl) trivial rfl rfl ?_
 intro v18 Sv15 w a h16 h17 hs
 obtain ⟨p11, k12, c14, rfl, h19, h13⟩ := h17
 have hw := hw.callN h16 h19
 have hw := hw.addE (e := RowA c14 rv10) h13
 refine st_val hs (y_assign rfl) trivial rfl rfl fun a hs => ?_
 refine wpList_nil ?_
 refine then_normal ?_
 have hsh := Option.some.inj hsh
 subst hsh
 refine wp_ret ?_
 exact ret1 hs rfl (rv_tmp rfl) (hw.ret ⟨p11, k12, c14, rfl, (hw.outs [0] (by decide) rfl), (hw.envAt 0 rfl)⟩)

abbrev receiver_Missing_rd (w0 : World) (X : List Nat) (r : ((List Span) × Int)) : (Nat → Prop) → World → Value → Prop := fun S w v => ∃ (p0_0 : Option Addr) (k0_0 : Nat) (c0_0 : List Value), v = .tuple #[.slice p0_0 r.1.length k0_0, .int .i64 r.2] ∧ Outs X w0 S w [.row p0_0 r.1.length k0_0 c0_0 46 2] ∧ (RowA c0_0 r.1).p S w
set_option maxHeartbeats 4000000 in
set_option maxRecDepth 100000 in
theorem receiver_Missing_ok {w0 : World} {S0 : Nat → Prop} {p2 : Option Addr} {k3 : Nat} {p4 : Option Addr} {k5 : Nat} {r1 : Receiver} {next8 : Int} {r : ((List Span) × Int)} (hsh : receiver_Missing r1 next8 = some r) (hS : ∀ b, S0 b → b < w0.heap.size) (h6 : (SlA p2 r1.Got.length k3 r1.Got).p S0 w0) (h7 : (SlA p4 r1.Lost.length k5 r1.Lost).p S0 w0) : Calls Try.prog 17 #[.agg #[.slice p2 r1.Got.length k3, .slice p4 r1.Lost.length k5], .int .i64 next8] w0 (Ret ([]) w0 S0 (receiver_Missing_rd w0 ([]) r)) := by
 refine calls_of_wp Try.func17 rfl ?_
 have hs := Sl.enter #[.agg #[.slice p2 r1.Got.length k3, .slice p4 r1.Lost.length k5], .int .i64 next8] 21 [(0, .agg #[.slice p2 r1.Got.length k3, .slice p4 r1.Lost.length k5]), (1, .int .i64 next8)] rfl ⟨rfl, rfl, trivial⟩
 have hw := Wd.enter (E := []) hS (fun _ h => (by cases h))
 have hw := hw.addE h6
 have hw := hw.addE h7
 delta receiver_Missing at hsh
 refine wp_seq ?_
 refine wp_region_lit ?_
 refine w_box (cs := [.slice p2 r1.Got.length k3, .slice p4 r1.Lost.length k5]) hs hw rfl rfl rfl trivial ?_
 intro b9 a w hs hw
 refine st_val hs (y_assign rfl) trivial rfl rfl fun a hs => ?_
 refine st_val hs (y_assign rfl) trivial rfl rfl fun a hs => ?_
 refine wpList_nil ?_
 refine then_normal ?_
 refine wp_seq ?_
 refine wp_seq ?_
 refine wp_region_lit ?_
 refine st_val hs (y_loadBA (hw.ownAt 0 rfl) rfl Try.isAgg29 Try.sizeOf29 rfl rfl) trivial rfl rfl fun a hs => ?_
 obtain ⟨rv11, h10, hsh⟩ := bind_t hsh
 refine st_callR hs (receiver_Valid_ok h10 hw.bdom (hw.bE 1 rfl) (hw.bE 0 rfl)) (do_call Try.call15 rfl) trivial rfl rfl ?_
 intro v15 Sv12 w a h13 h14 hs
 subst h14
 have hw := hw.callB h13
 refine st_val hs (y_not rfl) trivial rfl rfl fun a hs => ?_
 refine wpList_nil ?_
 refine then_normal ?_
 refine wp_cond_split (hs.ev rfl) (fun h18 => ?_) (fun h18 => ?_)
 ·have hsh := ite_t hsh h18
  refine wp_seq ?_
  refine wp_region_lit ?_
  refine st_val hs (y_assign rfl) trivial rfl rfl fun a hs => ?_
  refine st_val hs (y_assign rfl) trivial rfl rfl fun a hs => ?_
  refine wpList_nil ?_
  refine then_normal ?_
  have hsh := Option.some.inj hsh
  subst hsh
  have hw := hw.nilRow Span 46
  refine wp_ret ?_
  refine then_ret ?_
  exact ret2 hs rfl (rv_tmp rfl) (rv_tmp rfl) (hw.ret ⟨none, 0, [], rfl, (hw.outs [0] (by decide) rfl), (hw.envAt 0 rfl)⟩)
 ·have hsh := ite_f hsh h18
  refine wp_skip ?_
  refine then_normal ?_
  refine wp_seq ?_
  refine wp_seq ?_
  refine wp_region_lit ?_
  refine st_val hs (y_move rfl) trivial rfl rfl fun a hs => ?_
  obtain ⟨rv20, h19, hsh⟩ := bind_t hsh
  refine st_callR hs (receiver_in_ok h19 hw.bdom) (do_call Try.call34 rfl) trivial rfl rfl ?_
  intro v24 Sv21 w a h22 h23 hs
  subst h23
  have hw := hw.callB h22
  refine st_val hs (y_not rfl) trivial rfl rfl fun a hs => ?_
  refine wpList_nil ?_
  refine then_normal ?_
  refine wp_cond_split (hs.ev rfl) (fun h27 => ?_) (fun h27 => ?_)
  ·have hsh := ite_t hsh h27
   refine wp_seq ?_
   refine wp_region_lit ?_
   refine st_val hs (y_assign rfl) trivial rfl rfl fun a hs => ?_
   refine st_val hs (y_assign rfl) trivial rfl rfl fun a hs => ?_
   refine wpList_nil ?_
   refine then_normal ?_
   have hsh := Option.some.inj hsh
   subst hsh
   have hw := hw.nilRow Span 46
   refine wp_ret ?_
   refine then_ret ?_
   exact ret2 hs rfl (rv_tmp rfl) (rv_tmp rfl) (hw.ret ⟨none, 0, [], rfl, (hw.outs [0] (by decide) rfl), (hw.envAt 0 rfl)⟩)
  ·have hsh := ite_f hsh h27
   refine wp_skip ?_
   refine then_normal ?_
   refine wp_seq ?_
   obtain ⟨rv29, h28, hsh⟩ := bind_t hsh
   obtain ⟨rv33, h32, hsh⟩ := bind_t hsh
   obtain ⟨rv39, h38, hsh⟩ := bind_t hsh
   refine wp_only (fun a w => ∃ (Sv44 : Nat → Prop) (c43 : List Value) (k41 : Nat) (p40 : Option Addr), Sl 21 [(4, .slice p40 rv39.length k41), (5, .int .i64 0)] a ∧ Wd ⟨w0, S0, []⟩ Sv44 [.row p40 rv39.length k41 c43 46 2] [RowA c43 rv39] w) ?_ ?_
   ·refine h_b (C := Cls [.box b9 [.slice p2 r1.Got.length k3, .slice p4 r1.Lost.length k5] 29] []) (by kernel_rfl) rfl (hw.drew.cs [0] [] rfl rfl) fun hC => ?_
    have hw := hw.drew
    refine h_g hs 0 rfl (by kernel_rfl) rfl rfl hC rfl (fun w hC => y_move rfl) fun a hs => ?_
    refine h_g hs 1 rfl (by kernel_rfl) rfl rfl hC rfl (fun w hC => y_loadBA (hC.ownAt 0 rfl) rfl Try.isAgg29 Try.sizeOf29 rfl rfl) fun a hs => ?_
    refine h_g hs 6 rfl (by kernel_rfl) rfl rfl hC rfl (fun w hC => y_loadBA (hC.ownAt 0 rfl) rfl Try.isAgg29 Try.sizeOf29 rfl rfl) fun a hs => ?_
    refine h_one (i := 2) (by kernel_rfl) rfl ?_
    refine st_callR hs (receiver_High_ok h28 hw.bdom (hw.bE 1 rfl) (hw.bE 0 rfl)) (do_call Try.call18 rfl) trivial rfl rfl ?_
    intro v48 Sv45 w a h46 h47 hs
    subst h47
    have hw := hw.callB h46
    refine h_nx (hw.cs [0] [] rfl rfl) fun hC => ?_
    refine h_g hs 3 rfl (by kernel_rfl) rfl rfl hC rfl (fun w hC => y_max rfl rfl) fun a hs => ?_
    refine h_g hs 4 rfl (by kernel_rfl) rfl rfl hC rfl (fun w hC => y_build (vs := [(1, .int .i64 (max next8 rv29))]) Bld46 rfl rfl) fun a hs => ?_
    refine h_all (rs := [5, 7]) (by kernel_rfl) rfl ?_
    refine AllH.cons rfl ?_ ?_
    ·refine w_litSlice (α := Span) (vs := [.agg #[.int .i64 0, .int .i64 (max next8 rv29)]]) (cs := [.int .i64 0, .int .i64 (max next8 rv29)]) (xs := ([(⟨0, (max next8 rv29)⟩ : Span)] : List Span)) hs hw El27 rfl rfl rfl rfl rfl rfl ⟨⟨_, _, rfl, rfl, rfl⟩, rfl⟩ rfl trivial rfl fun b31 a w hs hw => ?_
     refine h_nx (hw.cs [1] [] rfl rfl) fun hC => ?_
     refine h_one (i := 7) (by kernel_rfl) rfl ?_
     refine st_callR hs (receiver_known_ok h32 hw.dom (hw.envAt 2 rfl) (hw.envAt 1 rfl)) (do_call Try.call42 rfl) trivial rfl rfl ?_
     intro v53 Sv50 w a h51 h52 hs
     obtain ⟨p34, k35, c37, rfl, h54, h36⟩ := h52
     have hw := hw.callN h51 h54
     have hw := hw.addE (e := RowA c37 rv33) h36
     refine h_nx (hw.cs [2] [] rfl rfl) fun hC => ?_
     refine h_one (i := 8) (by kernel_rfl) rfl ?_
     obtain ⟨Sv55, hw⟩ := w_share (α := Span) hw 1 rfl 1 rfl
     obtain ⟨Sv56, hw⟩ := w_share (α := Span) hw 0 rfl 1 rfl
     refine st_callR hs (span_Minus_ok h38 hw.dom (hw.envAt 1 rfl) (hw.envAt 0 rfl)) (do_call Try.call35 rfl) trivial rfl rfl ?_
     intro v60 Sv57 w a h58 h59 hs
     obtain ⟨p40, k41, c43, rfl, h61, h42⟩ := h59
     have hw := hw.callN h58 h61
     have hw := hw.addE (e := RowA c43 rv39) h42
     refine h_nx (hw.cs [1] [] rfl rfl) fun hC => ?_
     refine h_st (C' := Cls [.box b9 [.slice p2 r1.Got.length k3, .slice p4 r1.Lost.length k5] 29, .row p40 rv39.length k41 c43 46 2] []) (fun _ h => by exact h.sub [0] (Sel.of rfl) (AllIn.of [] rfl)) (hw.cs [1, 0] [] rfl rfl) fun hC => ?_
     refine h_g hs 9 rfl (by kernel_rfl) rfl rfl hC rfl (fun w hC => y_assign rfl) fun a hs => ?_
     refine h_g hs 10 rfl (by kernel_rfl) rfl rfl hC rfl (fun w hC => y_assign rfl) fun a hs => ?_
     refine h_done (by kernel_rfl) ?_
     exact ⟨Sv57, c43, k41, p40, (hs.wk rfl), (hw.ft [0] [0] (by decide) rfl rfl)⟩
    refine AllH.cons rfl ?_ ?_
    ·refine st_callR hs (receiver_known_ok h32 hw.dom (hw.envAt 1 rfl) (hw.envAt 0 rfl)) (do_call Try.call42 rfl) trivial rfl rfl ?_
     intro v65 Sv62 w a h63 h64 hs
     obtain ⟨p34, k35, c37, rfl, h66, h36⟩ := h64
     have hw := hw.callN h63 h66
     have hw := hw.addE (e := RowA c37 rv33) h36
     refine h_nx (hw.cs [1] [] rfl rfl) fun hC => ?_
     refine h_one (i := 5) (by kernel_rfl) rfl ?_
     refine w_litSlice (α := Span) (vs := [.agg #[.int .i64 0, .int .i64 (max next8 rv29)]]) (cs := [.int .i64 0, .int .i64 (max next8 rv29)]) (xs := ([(⟨0, (max next8 rv29)⟩ : Span)] : List Span)) hs hw El27 rfl rfl rfl rfl rfl rfl ⟨⟨_, _, rfl, rfl, rfl⟩, rfl⟩ rfl trivial rfl fun b31 a w hs hw => ?_
     refine h_nx (hw.cs [2] [] rfl rfl) fun hC => ?_
     refine h_one (i := 8) (by kernel_rfl) rfl ?_
     obtain ⟨Sv67, hw⟩ := w_share (α := Span) hw 0 rfl 0 rfl
     obtain ⟨Sv68, hw⟩ := w_share (α := Span) hw 0 rfl 2 rfl
     refine st_callR hs (span_Minus_ok h38 hw.dom (hw.envAt 1 rfl) (hw.envAt 0 rfl)) (do_call Try.call35 rfl) trivial rfl rfl ?_
     intro v72 Sv69 w a h70 h71 hs
     obtain ⟨p40, k41, c43, rfl, h73, h42⟩ := h71
     have hw := hw.callN h70 h73
     have hw := hw.addE (e := RowA c43 rv39) h42
     refine h_nx (hw.cs [1] [] rfl rfl) fun hC => ?_
     refine h_st (C' := Cls [.box b9 [.slice p2 r1.Got.length k3, .slice p4 r1.Lost.length k5] 29, .row p40 rv39.length k41 c43 46 2] []) (fun _ h => by exact h.sub [0] (Sel.of rfl) (AllIn.of [] rfl)) (hw.cs [1, 0] [] rfl rfl) fun hC => ?_
     refine h_g hs 9 rfl (by kernel_rfl) rfl rfl hC rfl (fun w hC => y_assign rfl) fun a hs => ?_
     refine h_g hs 10 rfl (by kernel_rfl) rfl rfl hC rfl (fun w hC => y_assign rfl) fun a hs => ?_
     refine h_done (by kernel_rfl) ?_
     exact ⟨Sv69, c43, k41, p40, (hs.wk rfl), (hw.ft [0] [0] (by decide) rfl rfl)⟩
    exact AllH.nil
   ·rintro a w ⟨Sv44, c43, k41, p40, hs, hw⟩
    refine then_normal ?_
    have hsh := Option.some.inj hsh
    subst hsh
    refine wp_ret ?_
    exact ret2 hs rfl (rv_tmp rfl) (rv_tmp rfl) (hw.ret ⟨p40, k41, c43, rfl, (hw.outs [0] (by decide) rfl), (hw.envAt 0 rfl)⟩)

abbrev receiver_Lose_rd (w0 : World) (X : List Nat) (r : (Receiver × Int)) : (Nat → Prop) → World → Value → Prop := fun S w v => ∃ (p0_0 : Option Addr) (k0_0 : Nat) (p0_1 : Option Addr) (k0_1 : Nat), v = .tuple #[.agg #[.slice p0_0 r.1.Got.length k0_0, .slice p0_1 r.1.Lost.length k0_1], .int .i64 r.2] ∧ (SlA p0_0 r.1.Got.length k0_0 r.1.Got).p S w ∧ (SlA p0_1 r.1.Lost.length k0_1 r.1.Lost).p S w
set_option maxHeartbeats 4000000 in
set_option maxRecDepth 100000 in
theorem receiver_Lose_ok {w0 : World} {S0 : Nat → Prop} {p2 : Option Addr} {k3 : Nat} {p4 : Option Addr} {k5 : Nat} {r1 : Receiver} {below8 : Int} {r : (Receiver × Int)} (hsh : receiver_Lose r1 below8 = some r) (hS : ∀ b, S0 b → b < w0.heap.size) (h6 : (SlA p2 r1.Got.length k3 r1.Got).p S0 w0) (h7 : (SlA p4 r1.Lost.length k5 r1.Lost).p S0 w0) : Calls Try.prog 12 #[.agg #[.slice p2 r1.Got.length k3, .slice p4 r1.Lost.length k5], .int .i64 below8] w0 (Ret ([]) w0 S0 (receiver_Lose_rd w0 ([]) r)) := by
 refine calls_of_wp Try.func12 rfl ?_
 have hs := Sl.enter #[.agg #[.slice p2 r1.Got.length k3, .slice p4 r1.Lost.length k5], .int .i64 below8] 31 [(0, .agg #[.slice p2 r1.Got.length k3, .slice p4 r1.Lost.length k5]), (1, .int .i64 below8)] rfl ⟨rfl, rfl, trivial⟩
 have hw := Wd.enter (E := []) hS (fun _ h => (by cases h))
 have hw := hw.addE h6
 have hw := hw.addE h7
 delta receiver_Lose at hsh
 refine wp_seq ?_
 refine wp_region_lit ?_
 refine w_box (cs := [.slice p2 r1.Got.length k3, .slice p4 r1.Lost.length k5]) hs hw rfl rfl rfl trivial ?_
 intro b9 a w hs hw
 refine w_alloc (cs := [.slice none ([] : List Span).length 0, .slice none ([] : List Span).length 0]) hs hw Try.zeroValue29 rfl rfl trivial ?_
 intro b10 a w hs hw
 refine st_val hs (y_assign rfl) trivial rfl rfl fun a hs => ?_
 refine wpList_nil ?_
 refine then_normal ?_
 refine wp_seq ?_
 refine wp_seq ?_
 refine wp_region_lit ?_
 refine st_val hs (y_loadBA (hw.ownAt 1 rfl) rfl Try.isAgg29 Try.sizeOf29 rfl rfl) trivial rfl rfl fun a hs => ?_
 obtain ⟨rv12, h11, hsh⟩ := bind_t hsh
 refine st_callR hs (receiver_Valid_ok h11 hw.bdom (hw.bE 1 rfl) (hw.bE 0 rfl)) (do_call Try.call15 rfl) trivial rfl rfl ?_
 intro v16 Sv13 w a h14 h15 hs
 subst h15
 have hw := hw.callB h14
 refine st_val hs (y_not rfl) trivial rfl rfl fun a hs => ?_
 refine wpList_nil ?_
 refine then_normal ?_
 refine wp_cond_split (hs.ev rfl) (fun h19 => ?_) (fun h19 => ?_)
 ·have hsh := ite_t hsh h19
  refine wp_seq ?_
  refine wp_region_lit ?_
  refine st_val hs (y_build (vs := []) Bld29 rfl rfl) trivial rfl rfl fun a hs => ?_
  refine w_store (m := 2) (cs' := [.slice none ([] : List Span).length 0, .slice none ([] : List Span).length 0]) hs hw 0 rfl rfl rfl Try.sizeOf29 rfl rfl rfl rfl trivial ?_
  intro a w hs hw
  refine st_val hs (y_assign rfl) trivial rfl rfl fun a hs => ?_
  refine wpList_nil ?_
  refine then_normal ?_
  have hsh := Option.some.inj hsh
  subst hsh
  have hw := hw.addE (e := SlA (α := Span) none 0 0 []) nil_sl
  refine wp_ret ?_
  refine then_ret ?_
  exact ret2 hs rfl (rv_cell hw 0 rfl rfl Try.isAgg29 Try.sizeOf29 rfl) (rv_tmp rfl) (hw.ret ⟨none, 0, none, 0, rfl, (hw.envAt 0 rfl), (hw.envAt 0 rfl)⟩)
 ·have hsh := ite_f hsh h19
  refine wp_skip ?_
  refine then_normal ?_
  refine wp_seq ?_
  refine wp_seq ?_
  refine wp_region_lit ?_
  refine st_val hs (y_move rfl) trivial rfl rfl fun a hs => ?_
  obtain ⟨rv21, h20, hsh⟩ := bind_t hsh
  refine st_callR hs (receiver_in_ok h20 hw.bdom) (do_call Try.call34 rfl) trivial rfl rfl ?_
  intro v25 Sv22 w a h23 h24 hs
  subst h24
  have hw := hw.callB h23
  refine st_val hs (y_not rfl) trivial rfl rfl fun a hs => ?_
  refine wpList_nil ?_
  refine then_normal ?_
  refine wp_cond_split (hs.ev rfl) (fun h28 => ?_) (fun h28 => ?_)
  ·have hsh := ite_t hsh h28
   refine wp_seq ?_
   refine wp_region_lit ?_
   refine st_val hs (y_build (vs := []) Bld29 rfl rfl) trivial rfl rfl fun a hs => ?_
   refine w_store (m := 2) (cs' := [.slice none ([] : List Span).length 0, .slice none ([] : List Span).length 0]) hs hw 0 rfl rfl rfl Try.sizeOf29 rfl rfl rfl rfl trivial ?_
   intro a w hs hw
   refine st_val hs (y_assign rfl) trivial rfl rfl fun a hs => ?_
   refine wpList_nil ?_
   refine then_normal ?_
   have hsh := Option.some.inj hsh
   subst hsh
   have hw := hw.addE (e := SlA (α := Span) none 0 0 []) nil_sl
   refine wp_ret ?_
   refine then_ret ?_
   exact ret2 hs rfl (rv_cell hw 0 rfl rfl Try.isAgg29 Try.sizeOf29 rfl) (rv_tmp rfl) (hw.ret ⟨none, 0, none, 0, rfl, (hw.envAt 0 rfl), (hw.envAt 0 rfl)⟩)
  ·have hsh := ite_f hsh h28
   refine wp_skip ?_
   refine then_normal ?_
   refine wp_seq ?_
   refine wp_region_lit ?_
   refine st_val hs (y_move rfl) trivial rfl rfl fun a hs => ?_
   refine st_val hs (y_build (vs := [(1, .int .i64 below8)]) Bld46 rfl rfl) trivial rfl rfl fun a hs => ?_
   refine w_litSlice (α := Span) (vs := [.agg #[.int .i64 0, .int .i64 below8]]) (cs := [.int .i64 0, .int .i64 below8]) (xs := ([(⟨0, below8⟩ : Span)] : List Span)) hs hw El27 rfl rfl rfl rfl rfl rfl ⟨⟨_, _, rfl, rfl, rfl⟩, rfl⟩ rfl trivial rfl fun b30 a w hs hw => ?_
   refine st_val hs (y_fieldAddr (o' := 0) Try.runUnderlying29 rfl Try.sizeOf27 rfl rfl rfl) trivial rfl rfl fun a hs => ?_
   refine st_val hs (y_loadB1 (hw.ownAt 2 rfl) rfl Try.isAgg27 rfl) trivial rfl rfl fun a hs => ?_
   obtain ⟨rv32, h31, hsh⟩ := bind_t hsh
   obtain ⟨Sv37, hw⟩ := w_share (α := Span) hw 0 rfl 0 rfl
   refine st_callR hs (span_Minus_ok h31 hw.dom (hw.envAt 0 rfl) (hw.envAt 3 rfl)) (do_call Try.call35 rfl) trivial rfl rfl ?_
   intro v41 Sv38 w a h39 h40 hs
   obtain ⟨p33, k34, c36, rfl, h42, h35⟩ := h40
   have hw := hw.callN h39 h42
   have hw := hw.addE (e := RowA c36 rv32) h35
   refine st_val hs (y_assign rfl) trivial rfl rfl fun a hs => ?_
   refine wpList_nil ?_
   refine then_normal ?_
   refine wp_seq ?_
   obtain ⟨rv44, h43, hsh⟩ := bind_t hsh
   obtain ⟨rv50, h49, hsh⟩ := bind_t hsh
   obtain ⟨rv56, h55, hsh⟩ := bind_t hsh
   refine wp_only (fun a w => ∃ (Sv63 : Nat → Prop) (k58 : Nat) (k61 : Nat) (p57 : Option Addr) (p60 : Option Addr), Sl 31 [(4, .pointer (some ⟨b10, 0, none⟩)), (5, .int .i64 rv56.2)] a ∧ Wd ⟨w0, S0, []⟩ Sv63 [.box b10 [.slice p57 rv56.1.Got.length k58, .slice p60 rv56.1.Lost.length k61] 29] [SlA p57 rv56.1.Got.length k58 rv56.1.Got, SlA p60 rv56.1.Lost.length k61 rv56.1.Lost] w) ?_ ?_
   ·refine h_b (C := Cls [.box b9 [.slice p2 r1.Got.length k3, .slice p4 r1.Lost.length k5] 29] []) (by kernel_rfl) rfl (hw.drew.cs [2] [] rfl rfl) fun hC => ?_
    have hw := hw.drew
    refine h_g hs 0 rfl (by kernel_rfl) rfl rfl hC rfl (fun w hC => y_fieldAddr (o' := 0) Try.runUnderlying29 rfl Try.sizeOf27 rfl rfl rfl) fun a hs => ?_
    refine h_g hs 1 rfl (by kernel_rfl) rfl rfl hC rfl (fun w hC => y_loadB1 (hC.ownAt 0 rfl) rfl Try.isAgg27 rfl) fun a hs => ?_
    refine h_g hs 3 rfl (by kernel_rfl) rfl rfl hC rfl (fun w hC => y_fieldAddr (o' := 1) Try.runUnderlying29 rfl Try.sizeOf27 rfl rfl rfl) fun a hs => ?_
    refine h_g hs 4 rfl (by kernel_rfl) rfl rfl hC rfl (fun w hC => y_loadB1 (hC.ownAt 0 rfl) rfl Try.isAgg27 rfl) fun a hs => ?_
    refine h_g hs 5 rfl (by kernel_rfl) rfl rfl hC rfl (fun w hC => y_move rfl) fun a hs => ?_
    refine h_one (i := 2) (by kernel_rfl) rfl ?_
    refine st_callR hs (slices_Clone_Lapi_Span_api_Span_ok h43 hw.dom (hw.envAt 4 rfl)) (do_call Try.call37 rfl) trivial rfl rfl ?_
    intro v67 Sv64 w a h65 h66 hs
    obtain ⟨p45, k46, c48, rfl, h68, h47⟩ := h66
    have hw := hw.callN h65 h68
    have hw := hw.addE (e := RowA c48 rv44) h47
    refine h_nx (hw.cs [3] [] rfl rfl) fun hC => ?_
    refine h_one (i := 6) (by kernel_rfl) rfl ?_
    obtain ⟨Sv69, hw⟩ := w_share (α := Span) hw 1 rfl 1 rfl
    refine st_callR hs (span_Union_ok h49 hw.dom (hw.envAt 5 rfl) (hw.envAt 0 rfl)) (do_call Try.call38 rfl) trivial rfl rfl ?_
    intro v73 Sv70 w a h71 h72 hs
    obtain ⟨p51, k52, c54, rfl, h74, h53⟩ := h72
    have hw := hw.callN h71 h74
    have hw := hw.addE (e := RowA c54 rv50) h53
    refine h_nx (hw.cs [3] [] rfl rfl) fun hC => ?_
    refine h_one (i := 7) (by kernel_rfl) rfl ?_
    obtain ⟨Sv75, hw⟩ := w_share (α := Span) hw 1 rfl 2 rfl
    obtain ⟨Sv76, hw⟩ := w_share (α := Span) hw 0 rfl 1 rfl
    refine st_callR hs (receiver_limited_ok h55 hw.dom (hw.envAt 1 rfl) (hw.envAt 0 rfl)) (do_call Try.call36 rfl) trivial rfl rfl ?_
    intro v80 Sv77 w a h78 h79 hs
    obtain ⟨p57, k58, p60, k61, rfl, h59, h62⟩ := h79
    have hw := hw.call h78
    have hw := hw.addE (e := SlA p57 rv56.1.Got.length k58 rv56.1.Got) h59
    have hw := hw.addE (e := SlA p60 rv56.1.Lost.length k61 rv56.1.Lost) h62
    refine h_nx (hw.cs [1] [] rfl rfl) fun hC => ?_
    refine h_g hs 8 rfl (by kernel_rfl) rfl rfl hC rfl (fun w hC => y_extract rfl rfl) fun a hs => ?_
    refine h_g hs 9 rfl (by kernel_rfl) rfl rfl hC rfl (fun w hC => y_extract rfl rfl) fun a hs => ?_
    refine h_one (i := 10) (by kernel_rfl) rfl ?_
    refine w_store (m := 2) (cs' := [.slice p57 rv56.1.Got.length k58, .slice p60 rv56.1.Lost.length k61]) hs hw 0 rfl rfl rfl Try.sizeOf29 rfl rfl rfl rfl trivial ?_
    intro a w hs hw
    refine h_nx (hw.cs [1] [] rfl rfl) fun hC => ?_
    refine h_g hs 11 rfl (by kernel_rfl) rfl rfl hC rfl (fun w hC => y_assign rfl) fun a hs => ?_
    refine h_done (by kernel_rfl) ?_
    exact ⟨Sv77, k58, k61, p57, p60, (hs.wk rfl), (hw.ft [0] [1, 0] (by decide) rfl rfl)⟩
   ·rintro a w ⟨Sv63, k58, k61, p57, p60, hs, hw⟩
    refine then_normal ?_
    have hsh := Option.some.inj hsh
    subst hsh
    refine wp_ret ?_
    exact ret2 hs rfl (rv_cell hw 0 rfl rfl Try.isAgg29 Try.sizeOf29 rfl) (rv_tmp rfl) (hw.ret ⟨p57, k58, p60, k61, rfl, (hw.envAt 0 rfl), (hw.envAt 1 rfl)⟩)

abbrev ref08_Same_rd (w0 : World) (X : List Nat) (r : Bool) : (Nat → Prop) → World → Value → Prop := fun S w v => v = .bool r
set_option maxHeartbeats 4000000 in
set_option maxRecDepth 100000 in
theorem ref08_Same_ok {w0 : World} {S0 : Nat → Prop} {p2 : Option Addr} {k3 : Nat} {p6 : Option Addr} {k7 : Nat} {a1 : (List Span)} {b5 : (List Span)} {r : Bool} (hsh : ref08_Same a1 b5 = some r) (hS : ∀ b, S0 b → b < w0.heap.size) (h4 : (SlA p2 a1.length k3 a1).p S0 w0) (h8 : (SlA p6 b5.length k7 b5).p S0 w0) : Calls Try.prog 24 #[.slice p2 a1.length k3, .slice p6 b5.length k7] w0 (Ret ([]) w0 S0 (ref08_Same_rd w0 ([]) r)) := by
 refine calls_of_wp Try.func24 rfl ?_
 have hs := Sl.enter #[.slice p2 a1.length k3, .slice p6 b5.length k7] 26 [(0, .slice p2 a1.length k3), (1, .slice p6 b5.length k7)] rfl ⟨rfl, rfl, trivial⟩
 have hw := Wd.enter (E := []) hS (fun _ h => (by cases h))
 have hw := hw.addE h4
 have hw := hw.addE h8
 delta ref08_Same at hsh
 refine wp_seq ?_
 refine wp_region_lit ?_
 refine st_val hs (y_assign rfl) trivial rfl rfl fun a hs => ?_
 refine wpList_nil ?_
 refine then_normal ?_
 refine wp_seq ?_
 refine wp_seq ?_
 refine wp_region_lit ?_
 refine st_val hs (y_move rfl) trivial rfl rfl fun a hs => ?_
 refine st_val hs (y_len Try.runUnderlying27 rfl) trivial rfl rfl fun a hs => ?_
 refine st_val hs (y_move rfl) trivial rfl rfl fun a hs => ?_
 refine st_val hs (y_len Try.runUnderlying27 rfl) trivial rfl rfl fun a hs => ?_
 refine st_val hs (y_neq rfl rfl) trivial rfl rfl fun a hs => ?_
 refine wpList_nil ?_
 refine then_normal ?_
 refine wp_cond_split (hs.ev rfl) (fun h10 => ?_) (fun h10 => ?_)
 ·have hsh := ite_t hsh h10
  refine wp_seq ?_
  refine wp_region_lit ?_
  refine st_val hs (y_assign rfl) trivial rfl rfl fun a hs => ?_
  refine wpList_nil ?_
  refine then_normal ?_
  have hsh := Option.some.inj hsh
  subst hsh
  refine wp_ret ?_
  refine then_ret ?_
  exact ret1 hs rfl (rv_tmp rfl) (hw.ret rfl)
 ·have hsh := ite_f hsh h10
  refine wp_skip ?_
  refine then_normal ?_
  refine wp_seq ?_
  refine wp_seq ?_
  refine wp_region_lit ?_
  refine st_val hs (y_assign rfl) trivial rfl rfl fun a hs => ?_
  refine wpList_nil ?_
  refine then_normal ?_
  refine wp_block ?_
  refine wp_while (fun sv109 a w => ∃ (Sv173 : Nat → Prop), Sl 26 [(0, .slice p2 a1.length k3), (1, .slice p6 b5.length k7), (5, .int .i64 sv109)] a ∧ Wd ⟨w0, S0, []⟩ Sv173 [] [SlA p2 a1.length k3 a1, SlA p6 b5.length k7 b5] w) 0 hsh ⟨S0, (hs.wk rfl), (hw.ft [] [1, 0] (by decide) rfl rfl)⟩ ?_
  repeat clear hsh
  rintro sv109 a w tv206 ⟨Sv173, hs, hw⟩ hsh hd205
  delta ref08_Same_l2 at hsh
  refine wp_seq ?_
  refine wp_seq ?_
  refine wp_region_lit ?_
  refine st_val hs (y_move rfl) trivial rfl rfl fun a hs => ?_
  refine st_val hs (y_move rfl) trivial rfl rfl fun a hs => ?_
  refine st_val hs (y_len Try.runUnderlying27 rfl) trivial rfl rfl fun a hs => ?_
  refine st_val hs (y_lss rfl rfl) trivial rfl rfl fun a hs => ?_
  refine wpList_nil ?_
  refine then_normal ?_
  refine wp_cond_split (hs.ev rfl) (fun h210 => ?_) (fun h210 => ?_)
  ·have hsh := ite_t hsh h210
   refine wp_skip ?_
   refine then_normal ?_
   refine wp_seq ?_
   refine wp_block ?_
   refine wp_seq ?_
   obtain ⟨x241, h239, hsh⟩ := bind_t hsh
   obtain ⟨b247, o248, q245, c246, h249, h242, h243, h244, h240⟩ := hw.elemV 0 rfl h239
   have hsv250 := hs
   have hwv251 := hw
   subst h249
   have hs := hsv250
   have hw := hwv251
   obtain ⟨_, _, rfl, rfl, rfl⟩ := h240
   have hw := hw.addE h244
   obtain ⟨x254, h252, hsh⟩ := bind_t hsh
   obtain ⟨b260, o261, q258, c259, h262, h255, h256, h257, h253⟩ := hw.elemV 2 rfl h252
   have hsv263 := hs
   have hwv264 := hw
   subst h262
   have hs := hsv263
   have hw := hwv264
   obtain ⟨_, _, rfl, rfl, rfl⟩ := h253
   have hw := hw.addE h257
   refine wp_only (fun a w => ∃ (Sv265 : Nat → Prop), Sl 26 [(0, .slice (some ⟨b247, o248, none⟩) a1.length k3), (1, .slice (some ⟨b260, o261, none⟩) b5.length k7), (5, .int .i64 sv109), (25, .bool (!((x241.From == x254.From) && ((x241.To == x254.To) && true))))] a ∧ Wd ⟨w0, S0, []⟩ Sv265 [] [SlA (some ⟨b247, o248, none⟩) a1.length k3 a1, SlA (some ⟨b260, o261, none⟩) b5.length k7 b5] w) ?_ ?_
   ·refine h_b (C := Cls [] [CeA b260 q258 [.int .i64 x254.From, .int .i64 x254.To], CeA b247 q245 [.int .i64 x241.From, .int .i64 x241.To]]) (by kernel_rfl) rfl (hw.drew.cs [] [0, 1] rfl rfl) fun hC => ?_
    have hw := hw.drew
    refine h_g hs 0 rfl (by kernel_rfl) rfl rfl hC rfl (fun w hC => y_move rfl) fun a hs => ?_
    refine h_g hs 1 rfl (by kernel_rfl) rfl rfl hC rfl (fun w hC => y_move rfl) fun a hs => ?_
    refine h_g hs 2 rfl (by kernel_rfl) rfl rfl hC rfl (fun w hC => y_indexAt Try.runUnderlying27 Try.sizeOf46 rfl rfl h242.1 h242.2 h243) fun a hs => ?_
    refine h_g hs 3 rfl (by kernel_rfl) rfl rfl hC rfl (fun w hC => y_loadEA (j := 0) (hC.ceAt 1 rfl) rfl Try.isAgg46 Try.sizeOf46 rfl rfl) fun a hs => ?_
    refine h_g hs 4 rfl (by kernel_rfl) rfl rfl hC rfl (fun w hC => y_move rfl) fun a hs => ?_
    refine h_g hs 5 rfl (by kernel_rfl) rfl rfl hC rfl (fun w hC => y_move rfl) fun a hs => ?_
    refine h_g hs 6 rfl (by kernel_rfl) rfl rfl hC rfl (fun w hC => y_indexAt Try.runUnderlying27 Try.sizeOf46 rfl rfl h255.1 h255.2 h256) fun a hs => ?_
    refine h_g hs 7 rfl (by kernel_rfl) rfl rfl hC rfl (fun w hC => y_loadEA (j := 0) (hC.ceAt 0 rfl) rfl Try.isAgg46 Try.sizeOf46 rfl rfl) fun a hs => ?_
    refine h_g hs 8 rfl (by kernel_rfl) rfl rfl hC rfl (fun w hC => y_neqA (by kernel_rfl) rfl rfl (eqv_struct Try.runUnderlying46 (by kernel_rfl) (EqF.cons1 rfl Try.isAgg3 rfl rfl (eqv_int Try.runUnderlying3) (EqF.cons1 rfl Try.isAgg3 rfl rfl (eqv_int Try.runUnderlying3) EqF.nil)))) fun a hs => ?_
    refine h_done (by kernel_rfl) ?_
    exact ⟨Sv173, (hs.wk rfl), (hw.ft [] [2, 3] (by decide) rfl rfl)⟩
   ·rintro a w ⟨Sv265, hs, hw⟩
    refine then_normal ?_
    refine wp_cond_split (hs.ev rfl) (fun h267 => ?_) (fun h267 => ?_)
    ·have hsh := ite_t hsh h267
     refine wp_seq ?_
     refine wp_region_lit ?_
     refine st_val hs (y_assign rfl) trivial rfl rfl fun a hs => ?_
     refine wpList_nil ?_
     refine then_normal ?_
     have hsh := Option.some.inj hsh
     subst hsh
     have h268 := hd205 _ rfl
     subst h268
     refine wp_ret ?_
     refine blk_ret ?_
     refine then_ret ?_
     refine then_ret ?_
     refine blk_ret ?_
     refine then_ret ?_
     exact ret1 hs rfl (rv_tmp rfl) (hw.ret rfl)
    ·have hsh := ite_f hsh h267
     refine wp_skip ?_
     refine blk_normal ?_
     refine then_normal ?_
     refine wp_region_lit ?_
     refine st_val hs (y_move rfl) trivial rfl rfl fun a hs => ?_
     refine st_val hs (y_add rfl rfl) trivial rfl rfl fun a hs => ?_
     obtain ⟨i270, h269, hsh⟩ := bind_t hsh
     refine st_val hs (y_assignI rfl h269) trivial rfl rfl fun a hs => ?_
     refine wpList_nil ?_
     refine then_normal ?_
     exact ⟨_, (Option.some.inj hsh).symm, Sv265, (hs.wk rfl), (hw.ft [] [0, 1] (by decide) rfl rfl)⟩
  ·have hsh := ite_f hsh h210
   obtain ⟨rv271, hsh, h272⟩ := map_t hsh
   have h272 := (hd205 _ h272.symm).symm
   subst h272
   refine wp_exit ?_
   refine then_exit ?_
   refine then_exit ?_
   refine blk_exit ?_
   refine then_normal ?_
   refine wp_seq ?_
   refine wp_region_lit ?_
   refine st_val hs (y_assign rfl) trivial rfl rfl fun a hs => ?_
   refine wpList_nil ?_
   refine then_normal ?_
   have hsh := Option.some.inj hsh
   subst hsh
   refine wp_ret ?_
   exact ret1 hs rfl (rv_tmp rfl) (hw.ret rfl)

abbrev receiver_Settled_rd (w0 : World) (X : List Nat) (r : Int) : (Nat → Prop) → World → Value → Prop := fun S w v => v = .int .i64 r
set_option maxHeartbeats 4000000 in
set_option maxRecDepth 100000 in
theorem receiver_Settled_ok {w0 : World} {S0 : Nat → Prop} {p2 : Option Addr} {k3 : Nat} {p4 : Option Addr} {k5 : Nat} {r1 : Receiver} {r : Int} (hsh : receiver_Settled r1 = some r) (hS : ∀ b, S0 b → b < w0.heap.size) (h6 : (SlA p2 r1.Got.length k3 r1.Got).p S0 w0) (h7 : (SlA p4 r1.Lost.length k5 r1.Lost).p S0 w0) : Calls Try.prog 19 #[.agg #[.slice p2 r1.Got.length k3, .slice p4 r1.Lost.length k5]] w0 (Ret ([]) w0 S0 (receiver_Settled_rd w0 ([]) r)) := by
 refine calls_of_wp Try.func19 rfl ?_
 have hs := Sl.enter #[.agg #[.slice p2 r1.Got.length k3, .slice p4 r1.Lost.length k5]] 25 [(0, .agg #[.slice p2 r1.Got.length k3, .slice p4 r1.Lost.length k5])] rfl ⟨rfl, trivial⟩
 have hw := Wd.enter (E := []) hS (fun _ h => (by cases h))
 have hw := hw.addE h6
 have hw := hw.addE h7
 delta receiver_Settled at hsh
 refine wp_seq ?_
 refine wp_region_lit ?_
 refine w_box (cs := [.slice p2 r1.Got.length k3, .slice p4 r1.Lost.length k5]) hs hw rfl rfl rfl trivial ?_
 intro b8 a w hs hw
 refine st_val hs (y_assign rfl) trivial rfl rfl fun a hs => ?_
 refine wpList_nil ?_
 refine then_normal ?_
 refine wp_seq ?_
 refine wp_region_lit ?_
 refine st_val hs (y_loadBA (hw.ownAt 0 rfl) rfl Try.isAgg29 Try.sizeOf29 rfl rfl) trivial rfl rfl fun a hs => ?_
 obtain ⟨rv10, h9, hsh⟩ := bind_t hsh
 refine st_callR hs (receiver_known_ok h9 hw.dom (hw.envAt 1 rfl) (hw.envAt 0 rfl)) (do_call Try.call42 rfl) trivial rfl rfl ?_
 intro v18 Sv15 w a h16 h17 hs
 obtain ⟨p11, k12, c14, rfl, h19, h13⟩ := h17
 have hw := hw.callN h16 h19
 have hw := hw.addE (e := RowA c14 rv10) h13
 refine st_val hs (y_assign rfl) trivial rfl rfl fun a hs => ?_
 refine wpList_nil ?_
 refine then_normal ?_
 refine wp_seq ?_
 refine wp_seq ?_
 refine wp_region_lit ?_
 refine st_val hs (y_loadBA (hw.ownAt 1 rfl) rfl Try.isAgg29 Try.sizeOf29 rfl rfl) trivial rfl rfl fun a hs => ?_
 obtain ⟨rv21, h20, hsh⟩ := bind_t hsh
 refine st_callR hs (receiver_Valid_ok h20 hw.bdom (hw.bE 2 rfl) (hw.bE 1 rfl)) (do_call Try.call15 rfl) trivial rfl rfl ?_
 intro v25 Sv22 w a h23 h24 hs
 subst h24
 have hw := hw.callB h23
 refine st_val hs (y_not rfl) trivial rfl rfl fun a hs => ?_
 refine st_val hs (y_move rfl) trivial rfl rfl fun a hs => ?_
 refine wpl_join 4 (fun a w1 => w = w1 ∧ Sl 25 [(3, .slice p11 rv10.length k12), (13, .bool ((!rv21) || ((rv10.length : Int) == 0)))] a) ?_ ?_
 ·rcases Bool.eq_false_or_eq_true (!rv21) with h27 | h27
  ·have hs := hs.fix 9 (.bool true) rfl (vb h27)
   refine st_skip hs rfl rfl rfl rfl rfl fun a hs => ?_
   refine st_skip hs rfl rfl rfl rfl rfl fun a hs => ?_
   refine st_skip hs rfl rfl rfl rfl rfl fun a hs => ?_
   refine st_val hs (y_pickT rfl rfl) trivial rfl rfl fun a hs => ?_
   refine wpList_nil ?_
   refine then_normal ?_
   exact ⟨rfl, (hs.fix 13 (.bool ((!rv21) || ((rv10.length : Int) == 0))) rfl (or_t h27)).weaken _ ⟨rfl, rfl, trivial⟩⟩
  ·have hs := hs.fix 9 (.bool false) rfl (vb h27)
   refine st_val hs (y_move rfl) ⟨_, rfl, rfl⟩ rfl rfl fun a hs => ?_
   refine st_val hs (y_len Try.runUnderlying27 rfl) ⟨_, rfl, rfl⟩ rfl rfl fun a hs => ?_
   refine st_val hs (y_eql rfl rfl) ⟨_, rfl, rfl⟩ rfl rfl fun a hs => ?_
   refine st_val hs (y_pickF rfl rfl) trivial rfl rfl fun a hs => ?_
   refine wpList_nil ?_
   refine then_normal ?_
   exact ⟨rfl, (hs.fix 13 (.bool ((!rv21) || ((rv10.length : Int) == 0))) rfl (or_f h27)).weaken _ ⟨rfl, rfl, trivial⟩⟩
 ·rintro a w1 ⟨h72, hs⟩
  subst h72
  refine st_val hs (y_move rfl) trivial rfl rfl fun a hs => ?_
  obtain ⟨c42, hc42, hsh⟩ := bind_t hsh
  refine wpl_join 6 (fun a w => ∃ (Sv43 : Nat → Prop), Sl 25 [(3, .slice p11 rv10.length k12), (20, .bool c42)] a ∧ Wd ⟨w0, S0, []⟩ Sv43 [.row p11 rv10.length k12 c14 46 2] [RowA c14 rv10] w) ?_ ?_
  ·rcases Bool.eq_false_or_eq_true ((!rv21) || ((rv10.length : Int) == 0)) with h41 | h41
   ·have hs := hs.fix 14 (.bool true) rfl (vb h41)
    have hsh := ite_t hc42 h41
    refine st_skip hs rfl rfl rfl rfl rfl fun a hs => ?_
    refine st_skip hs rfl rfl rfl rfl rfl fun a hs => ?_
    refine st_skip hs rfl rfl rfl rfl rfl fun a hs => ?_
    refine st_skip hs rfl rfl rfl rfl rfl fun a hs => ?_
    refine st_skip hs rfl rfl rfl rfl rfl fun a hs => ?_
    refine st_val hs (y_pickT rfl rfl) trivial rfl rfl fun a hs => ?_
    refine wpList_nil ?_
    have hsh := Option.some.inj hsh
    subst hsh
    refine then_normal ?_
    exact ⟨Sv15, (hs.wk rfl), (hw.ft [0] [0] (by decide) rfl rfl)⟩
   ·have hs := hs.fix 14 (.bool false) rfl (vb h41)
    have hsh := ite_f hc42 h41
    refine st_val hs (y_move rfl) ⟨_, rfl, rfl⟩ rfl rfl fun a hs => ?_
    obtain ⟨x46, h44, hsh⟩ := bind_t hsh
    obtain ⟨b53, q50, c51, h54, h47, h48, h52, h45⟩ := hw.elemRV (α := Span) 0 rfl 0 rfl h44
    have hsv55 := hs
    have hwv56 := hw
    subst h54
    have hs := hsv55
    have hw := hwv56
    obtain ⟨_, _, rfl, rfl, rfl⟩ := h45
    refine st_val hs (y_indexAt Try.runUnderlying27 Try.sizeOf46 rfl rfl h47.1 h47.2 h48) ⟨_, rfl, rfl⟩ rfl rfl fun a hs => ?_
    refine st_val hs (y_fieldAddr (o' := q50 + 0) Try.runUnderlying46 rfl Try.sizeOf3 rfl rfl rfl) ⟨_, rfl, rfl⟩ rfl rfl fun a hs => ?_
    refine st_val hs (y_loadQ1 (j := 0) (hw.ownAt 0 rfl) rfl Try.isAgg3 h52 rfl) ⟨_, rfl, rfl⟩ rfl rfl fun a hs => ?_
    refine st_val hs (y_gtr rfl rfl) ⟨_, rfl, rfl⟩ rfl rfl fun a hs => ?_
    refine st_val hs (y_pickF rfl rfl) trivial rfl rfl fun a hs => ?_
    refine wpList_nil ?_
    have hsh := Option.some.inj hsh
    subst hsh
    refine then_normal ?_
    exact ⟨Sv15, (hs.wk rfl), (hw.ft [0] [0] (by decide) rfl rfl)⟩
  ·rintro a w ⟨Sv43, hs, hw⟩
   refine wpList_nil ?_
   refine then_normal ?_
   refine wp_cond_split (hs.ev rfl) (fun h58 => ?_) (fun h58 => ?_)
   ·have hsh := ite_t hsh h58
    refine wp_seq ?_
    refine wp_region_lit ?_
    refine st_val hs (y_assign rfl) trivial rfl rfl fun a hs => ?_
    refine wpList_nil ?_
    refine then_normal ?_
    have hsh := Option.some.inj hsh
    subst hsh
    refine wp_ret ?_
    refine then_ret ?_
    exact ret1 hs rfl (rv_tmp rfl) (hw.ret rfl)
   ·have hsh := ite_f hsh h58
    refine wp_skip ?_
    refine then_normal ?_
    refine wp_seq ?_
    refine wp_region_lit ?_
    refine st_val hs (y_move rfl) trivial rfl rfl fun a hs => ?_
    obtain ⟨x61, h59, hsh⟩ := bind_t hsh
    obtain ⟨b68, q65, c66, h69, h62, h63, h67, h60⟩ := hw.elemRV (α := Span) 0 rfl 0 rfl h59
    have hsv70 := hs
    have hwv71 := hw
    subst h69
    have hs := hsv70
    have hw := hwv71
    obtain ⟨_, _, rfl, rfl, rfl⟩ := h60
    refine st_val hs (y_indexAt Try.runUnderlying27 Try.sizeOf46 rfl rfl h62.1 h62.2 h63) trivial rfl rfl fun a hs => ?_
    refine st_val hs (y_fieldAddr (o' := q65 + 1) Try.runUnderlying46 rfl Try.sizeOf3 rfl rfl rfl) trivial rfl rfl fun a hs => ?_
    refine st_val hs (y_loadQ1 (j := 1) (hw.ownAt 0 rfl) rfl Try.isAgg3 h67 rfl) trivial rfl rfl fun a hs => ?_
    refine st_val hs (y_assign rfl) trivial rfl rfl fun a hs => ?_
    refine wpList_nil ?_
    refine then_normal ?_
    have hsh := Option.some.inj hsh
    subst hsh
    refine wp_ret ?_
    exact ret1 hs rfl (rv_tmp rfl) (hw.ret rfl)

abbrev law11_sane_rd (w0 : World) (X : List Nat) (r : Bool) : (Nat → Prop) → World → Value → Prop := fun S w v => v = .bool r
set_option maxHeartbeats 4000000 in
set_option maxRecDepth 100000 in
theorem law11_sane_ok {w0 : World} {S0 : Nat → Prop} {r : Bool} (hsh : law11_sane = some r) (hS : ∀ b, S0 b → b < w0.heap.size) : Calls Try.prog 8 #[] w0 (Ret ([]) w0 S0 (law11_sane_rd w0 ([]) r)) := by
 refine calls_of_wp Try.func8 rfl ?_
 have hs := Sl.enter #[] 59 [] rfl trivial
 have hw := Wd.enter (E := []) hS (fun _ h => (by cases h))
 delta law11_sane at hsh
 refine wp_seq ?_
 refine wp_region_lit ?_
 refine st_val hs (y_assign rfl) trivial rfl rfl fun a hs => ?_
 refine wpList_nil ?_
 refine then_normal ?_
 refine wp_seq ?_
 refine wp_region_lit ?_
 obtain ⟨rv2, h1, hsh⟩ := bind_t hsh
 refine st_callR hs (receiver_New_ok h1 hw.dom) (do_call Try.call10 rfl) trivial rfl rfl ?_
 intro v12 Sv9 w a h10 h11 hs
 obtain ⟨p3, k4, p6, k7, rfl, h5, h8⟩ := h11
 have hw := hw.call h10
 have hw := hw.addE (e := SlA p3 rv2.Got.length k4 rv2.Got) h5
 have hw := hw.addE (e := SlA p6 rv2.Lost.length k7 rv2.Lost) h8
 refine w_alloc (cs := [.slice none ([] : List Span).length 0, .slice none ([] : List Span).length 0]) hs hw Try.zeroValue29 rfl rfl trivial ?_
 intro b14 a w hs hw
 refine w_store (m := 2) (cs' := [.slice p3 rv2.Got.length k4, .slice p6 rv2.Lost.length k7]) hs hw 0 rfl rfl rfl Try.sizeOf29 rfl rfl rfl rfl trivial ?_
 intro a w hs hw
 refine wpList_nil ?_
 refine then_normal ?_
 refine wp_seq ?_
 refine wp_region_lit ?_
 refine st_val hs (y_assign rfl) trivial rfl rfl fun a hs => ?_
 refine wpList_nil ?_
 refine then_normal ?_
 refine wp_seq ?_
 refine wp_seq ?_
 refine wp_region_lit ?_
 refine w_litSlice (α := Int) (vs := [.int .i64 0, .int .i64 1, .int .i64 4]) (cs := [.int .i64 0, .int .i64 1, .int .i64 4]) (xs := ([0, 1, 4] : List Int)) hs hw El22 rfl rfl rfl rfl rfl rfl ⟨⟨_, rfl, rfl⟩, ⟨⟨_, rfl, rfl⟩, ⟨⟨_, rfl, rfl⟩, rfl⟩⟩⟩ rfl trivial rfl fun b16 a w hs hw => ?_
 refine st_val hs (y_len Try.runUnderlying22 rfl) trivial rfl rfl fun a hs => ?_
 refine st_val hs (y_move rfl) trivial rfl rfl fun a hs => ?_
 refine wpList_nil ?_
 refine then_normal ?_
 refine wp_block ?_
 refine wp_while (fun sv102 a w => ∃ (p156 : Option Addr) (k157 : Nat) (p158 : Option Addr) (k159 : Nat) (Sv160 : Nat → Prop), Sl 59 [(1, .pointer (some ⟨b14, 0, none⟩)), (9, .slice (some ⟨b16, 0, none⟩) ([0, 1, 4] : List Int).length ([0, 1, 4] : List Int).length), (10, .int .i64 (([0, 1, 4] : List Int).length : Int)), (11, .int .i64 sv102.2.2)] a ∧ Wd ⟨w0, S0, []⟩ Sv160 [.box b14 [.slice p156 sv102.1.length k157, .slice p158 sv102.2.1.length k159] 29, .row (some ⟨b16, 0, none⟩) ([0, 1, 4] : List Int).length ([0, 1, 4] : List Int).length [.int .i64 0, .int .i64 1, .int .i64 4] 3 1] [SlA p156 sv102.1.length k157 sv102.1, SlA p158 sv102.2.1.length k159 sv102.2.1, RowA [.int .i64 0, .int .i64 1, .int .i64 4] ([0, 1, 4] : List Int)] w) (rv2.Got, rv2.Lost, 0) hsh ⟨p3, k4, p6, k7, Sv9, (hs.wk rfl), (hw.ft [1, 0] [2, 1, 0] (by decide) rfl rfl)⟩ ?_
 repeat clear hsh
 rintro sv102 a w tv186 ⟨p156, k157, p158, k159, Sv160, hs, hw⟩ hsh hd185
 delta law11_sane_l2 at hsh
 refine wp_seq ?_
 refine wp_region_lit ?_
 refine st_val hs (y_lss rfl rfl) trivial rfl rfl fun a hs => ?_
 refine wpList_nil ?_
 refine then_normal ?_
 refine wp_seq ?_
 refine wp_cond_split (hs.ev rfl) (fun h190 => ?_) (fun h190 => ?_)
 ·have hsh := ite_t hsh h190
  refine wp_skip ?_
  refine then_normal ?_
  refine wp_seq ?_
  refine wp_block ?_
  refine wp_seq ?_
  refine wp_region_lit ?_
  obtain ⟨x216, h214, hsh⟩ := bind_t hsh
  obtain ⟨q220, c221, h217, h218, h222, h215⟩ := hw.elemRK (α := Int) 1 rfl 2 rfl h214
  obtain ⟨_, rfl, rfl⟩ := h215
  refine st_val hs (y_indexAt Try.runUnderlying22 Try.sizeOf3 rfl rfl h217.1 h217.2 h218) trivial rfl rfl fun a hs => ?_
  refine st_val hs (y_loadQ1 (j := 0) (hw.ownAt 1 rfl) rfl Try.isAgg3 h222 rfl) trivial rfl rfl fun a hs => ?_
  refine st_val hs (y_assign rfl) trivial rfl rfl fun a hs => ?_
  refine wpList_nil ?_
  refine then_normal ?_
  refine wp_seq ?_
  refine wp_region_lit ?_
  refine st_val hs (y_loadBA (hw.ownAt 0 rfl) rfl Try.isAgg29 Try.sizeOf29 rfl rfl) trivial rfl rfl fun a hs => ?_
  refine st_val hs (y_move rfl) trivial rfl rfl fun a hs => ?_
  obtain ⟨rv224, h223, hsh⟩ := bind_t hsh
  refine st_callR hs (receiver_Accept_ok h223 hw.dom (hw.envAt 0 rfl) (hw.envAt 1 rfl)) (do_call Try.call13 rfl) trivial rfl rfl ?_
  intro v234 Sv231 w a h232 h233 hs
  obtain ⟨p225, k226, p228, k229, rfl, h227, h230⟩ := h233
  have hw := hw.call h232
  have hw := hw.addE (e := SlA p225 rv224.1.Got.length k226 rv224.1.Got) h227
  have hw := hw.addE (e := SlA p228 rv224.1.Lost.length k229 rv224.1.Lost) h230
  refine st_val hs (y_move rfl) trivial rfl rfl fun a hs => ?_
  refine st_val hs (y_extract rfl rfl) trivial rfl rfl fun a hs => ?_
  refine st_val hs (y_extract rfl rfl) trivial rfl rfl fun a hs => ?_
  refine st_val hs (y_extract rfl rfl) trivial rfl rfl fun a hs => ?_
  refine w_store (m := 2) (cs' := [.slice p225 rv224.1.Got.length k226, .slice p228 rv224.1.Lost.length k229]) hs hw 0 rfl rfl rfl Try.sizeOf29 rfl rfl rfl rfl trivial ?_
  intro a w hs hw
  refine st_val hs (y_assign rfl) trivial rfl rfl fun a hs => ?_
  refine wpList_nil ?_
  refine then_normal ?_
  refine wp_seq ?_
  refine wp_region_lit ?_
  refine st_val hs (y_move rfl) trivial rfl rfl fun a hs => ?_
  refine st_val hs (y_neq rfl rfl) trivial rfl rfl fun a hs => ?_
  refine wpList_nil ?_
  refine then_normal ?_
  refine wp_cond_split (hs.ev rfl) (fun h237 => ?_) (fun h237 => ?_)
  ·have hsh := ite_t hsh h237
   refine wp_seq ?_
   refine wp_region_lit ?_
   refine st_val hs (y_assign rfl) trivial rfl rfl fun a hs => ?_
   refine wpList_nil ?_
   refine then_normal ?_
   have hsh := Option.some.inj hsh
   subst hsh
   have h238 := hd185 _ rfl
   subst h238
   refine wp_ret ?_
   refine blk_ret ?_
   refine then_ret ?_
   refine then_ret ?_
   refine blk_ret ?_
   refine then_ret ?_
   exact ret1 hs rfl (rv_tmp rfl) (hw.ret rfl)
  ·have hsh := ite_f hsh h237
   refine wp_skip ?_
   refine blk_normal ?_
   refine then_normal ?_
   refine wp_region_lit ?_
   refine st_val hs (y_add rfl rfl) trivial rfl rfl fun a hs => ?_
   refine st_val hs (y_move rfl) trivial rfl rfl fun a hs => ?_
   refine wpList_nil ?_
   refine then_normal ?_
   exact ⟨_, (Option.some.inj hsh).symm, p225, k226, p228, k229, Sv231, (hs.wk rfl), (hw.ft [0, 1] [1, 0, 4] (by decide) rfl rfl)⟩
 ·have hsh := ite_f hsh h190
  obtain ⟨rv325, hsh, h326⟩ := map_t hsh
  have h326 := (hd185 _ h326.symm).symm
  subst h326
  refine wp_exit ?_
  refine then_exit ?_
  refine then_exit ?_
  refine blk_exit ?_
  refine then_normal ?_
  refine wp_seq ?_
  refine wp_region_lit ?_
  refine st_val hs (y_loadBA (hw.ownAt 0 rfl) rfl Try.isAgg29 Try.sizeOf29 rfl rfl) trivial rfl rfl fun a hs => ?_
  obtain ⟨rv240, h239, hsh⟩ := bind_t hsh
  refine st_callR hs (receiver_Missing_ok h239 hw.dom (hw.envAt 0 rfl) (hw.envAt 1 rfl)) (do_call Try.call17 rfl) trivial rfl rfl ?_
  intro v248 Sv245 w a h246 h247 hs
  obtain ⟨p241, k242, c244, rfl, h249, h243⟩ := h247
  have hw := hw.callN h246 h249
  have hw := hw.addE (e := RowA c244 rv240.1) h243
  refine st_val hs (y_move rfl) trivial rfl rfl fun a hs => ?_
  refine st_val hs (y_extract rfl rfl) trivial rfl rfl fun a hs => ?_
  refine st_val hs (y_extract rfl rfl) trivial rfl rfl fun a hs => ?_
  refine st_val hs (y_assign rfl) trivial rfl rfl fun a hs => ?_
  refine st_val hs (y_assign rfl) trivial rfl rfl fun a hs => ?_
  refine wpList_nil ?_
  refine then_normal ?_
  refine wp_seq ?_
  refine wp_region_lit ?_
  refine st_val hs (y_loadBA (hw.ownAt 1 rfl) rfl Try.isAgg29 Try.sizeOf29 rfl rfl) trivial rfl rfl fun a hs => ?_
  obtain ⟨rv251, h250, hsh⟩ := bind_t hsh
  refine st_callR hs (receiver_Lose_ok h250 hw.dom (hw.envAt 1 rfl) (hw.envAt 2 rfl)) (do_call Try.call12 rfl) trivial rfl rfl ?_
  intro v261 Sv258 w a h259 h260 hs
  obtain ⟨p252, k253, p255, k256, rfl, h254, h257⟩ := h260
  have hw := hw.call h259
  have hw := hw.addE (e := SlA p252 rv251.1.Got.length k253 rv251.1.Got) h254
  have hw := hw.addE (e := SlA p255 rv251.1.Lost.length k256 rv251.1.Lost) h257
  refine st_val hs (y_move rfl) trivial rfl rfl fun a hs => ?_
  refine st_val hs (y_extract rfl rfl) trivial rfl rfl fun a hs => ?_
  refine st_val hs (y_extract rfl rfl) trivial rfl rfl fun a hs => ?_
  refine w_alloc (cs := [.slice none ([] : List Span).length 0, .slice none ([] : List Span).length 0]) hs hw Try.zeroValue29 rfl rfl trivial ?_
  intro b263 a w hs hw
  refine w_store (m := 2) (cs' := [.slice p252 rv251.1.Got.length k253, .slice p255 rv251.1.Lost.length k256]) hs hw 0 rfl rfl rfl Try.sizeOf29 rfl rfl rfl rfl trivial ?_
  intro a w hs hw
  refine st_val hs (y_assign rfl) trivial rfl rfl fun a hs => ?_
  refine wpList_nil ?_
  refine then_normal ?_
  refine wp_seq ?_
  refine wp_region_lit ?_
  refine st_val hs (y_move rfl) trivial rfl rfl fun a hs => ?_
  refine st_val hs (y_eql rfl rfl) trivial rfl rfl fun a hs => ?_
  refine st_val hs (y_move rfl) trivial rfl rfl fun a hs => ?_
  refine wpl_join 3 (fun a w1 => w = w1 ∧ Sl 59 [(1, .pointer (some ⟨b14, 0, none⟩)), (5, .slice p241 rv240.1.length k242), (6, .pointer (some ⟨b263, 0, none⟩)), (40, .bool ((rv240.2 == 0) && (rv251.2 == 0)))] a) ?_ ?_
  ·rcases Bool.eq_false_or_eq_true (rv240.2 == 0) with h264 | h264
   ·have hs := hs.fix 37 (.bool true) rfl (vb h264)
    refine st_val hs (y_move rfl) ⟨_, rfl, rfl⟩ rfl rfl fun a hs => ?_
    refine st_val hs (y_eql rfl rfl) ⟨_, rfl, rfl⟩ rfl rfl fun a hs => ?_
    refine st_val hs (y_pickT rfl rfl) trivial rfl rfl fun a hs => ?_
    refine wpList_nil ?_
    refine then_normal ?_
    exact ⟨rfl, (hs.fix 40 (.bool ((rv240.2 == 0) && (rv251.2 == 0))) rfl (and_t h264)).weaken _ ⟨rfl, rfl, rfl, rfl, trivial⟩⟩
   ·have hs := hs.fix 37 (.bool false) rfl (vb h264)
    refine st_skip hs rfl rfl rfl rfl rfl fun a hs => ?_
    refine st_skip hs rfl rfl rfl rfl rfl fun a hs => ?_
    refine st_val hs (y_pickF rfl rfl) trivial rfl rfl fun a hs => ?_
    refine wpList_nil ?_
    refine then_normal ?_
    exact ⟨rfl, (hs.fix 40 (.bool ((rv240.2 == 0) && (rv251.2 == 0))) rfl (and_f h264)).weaken _ ⟨rfl, rfl, rfl, rfl, trivial⟩⟩
  ·rintro a w1 ⟨h324, hs⟩
   subst h324
   refine st_val hs (y_move rfl) trivial rfl rfl fun a hs => ?_
   obtain ⟨c275, hc275, hsh⟩ := bind_t hsh
   refine wpl_join 5 (fun a w => ∃ (Sv276 : Nat → Prop), Sl 59 [(1, .pointer (some ⟨b14, 0, none⟩)), (6, .pointer (some ⟨b263, 0, none⟩)), (46, .bool c275)] a ∧ Wd ⟨w0, S0, []⟩ Sv276 [.box b14 [.slice p156 sv102.1.length k157, .slice p158 sv102.2.1.length k159] 29, .box b263 [.slice p252 rv251.1.Got.length k253, .slice p255 rv251.1.Lost.length k256] 29] [SlA p156 sv102.1.length k157 sv102.1, SlA p158 sv102.2.1.length k159 sv102.2.1, SlA p252 rv251.1.Got.length k253 rv251.1.Got, SlA p255 rv251.1.Lost.length k256 rv251.1.Lost] w) ?_ ?_
   ·rcases Bool.eq_false_or_eq_true ((rv240.2 == 0) && (rv251.2 == 0)) with h274 | h274
    ·have hs := hs.fix 41 (.bool true) rfl (vb h274)
     have hsh := ite_t hc275 h274
     refine st_val hs (y_move rfl) ⟨_, rfl, rfl⟩ rfl rfl fun a hs => ?_
     refine st_val hs (y_build (vs := [(0, .int .i64 2), (1, .int .i64 4)]) Bld46 rfl rfl) ⟨_, rfl, rfl⟩ rfl rfl fun a hs => ?_
     refine w_litSlice (α := Span) (vs := [.agg #[.int .i64 2, .int .i64 4]]) (cs := [.int .i64 2, .int .i64 4]) (xs := ([(⟨2, 4⟩ : Span)] : List Span)) hs hw El27 rfl rfl rfl rfl rfl rfl ⟨⟨_, _, rfl, rfl, rfl⟩, rfl⟩ rfl ⟨_, rfl, rfl⟩ rfl fun b278 a w hs hw => ?_
     obtain ⟨rv280, h279, hsh⟩ := bind_t hsh
     refine st_callR hs (ref08_Same_ok h279 hw.bdom (hw.bRow 2 rfl 3 rfl) (hw.bRow 0 rfl 0 rfl)) (do_call Try.call24 rfl) ⟨_, rfl, rfl⟩ rfl rfl ?_
     intro v284 Sv281 w a h282 h283 hs
     subst h283
     have hw := hw.callB h282
     refine st_val hs (y_pickT rfl rfl) trivial rfl rfl fun a hs => ?_
     refine wpList_nil ?_
     have hsh := Option.some.inj hsh
     subst hsh
     refine then_normal ?_
     exact ⟨Sv258, (hs.wk rfl), (hw.ft [3, 1] [4, 5, 2, 1] (by decide) rfl rfl)⟩
    ·have hs := hs.fix 41 (.bool false) rfl (vb h274)
     have hsh := ite_f hc275 h274
     refine st_skip hs rfl rfl rfl rfl rfl fun a hs => ?_
     refine st_skip hs rfl rfl rfl rfl rfl fun a hs => ?_
     refine st_skip hs rfl rfl rfl rfl rfl fun a hs => ?_
     refine st_skip hs rfl rfl rfl rfl rfl fun a hs => ?_
     refine st_val hs (y_pickF rfl rfl) trivial rfl rfl fun a hs => ?_
     refine wpList_nil ?_
     have hsh := Option.some.inj hsh
     subst hsh
     refine then_normal ?_
     exact ⟨Sv258, (hs.wk rfl), (hw.ft [2, 0] [3, 4, 1, 0] (by decide) rfl rfl)⟩
   ·rintro a w ⟨Sv276, hs, hw⟩
    refine st_val hs (y_move rfl) trivial rfl rfl fun a hs => ?_
    obtain ⟨c294, hc294, hsh⟩ := bind_t hsh
    refine wpl_join 4 (fun a w => ∃ (Sv295 : Nat → Prop), Sl 59 [(6, .pointer (some ⟨b263, 0, none⟩)), (51, .bool c294)] a ∧ Wd ⟨w0, S0, []⟩ Sv295 [.box b263 [.slice p252 rv251.1.Got.length k253, .slice p255 rv251.1.Lost.length k256] 29] [SlA p252 rv251.1.Got.length k253 rv251.1.Got, SlA p255 rv251.1.Lost.length k256 rv251.1.Lost] w) ?_ ?_
    ·rcases Bool.eq_false_or_eq_true c275 with h293 | h293
     ·have hs := hs.fix 47 (.bool true) rfl (vb h293)
      have hsh := ite_t hc294 h293
      refine st_val hs (y_loadBA (hw.ownAt 0 rfl) rfl Try.isAgg29 Try.sizeOf29 rfl rfl) ⟨_, rfl, rfl⟩ rfl rfl fun a hs => ?_
      obtain ⟨rv297, h296, hsh⟩ := bind_t hsh
      refine st_callR hs (receiver_Settled_ok h296 hw.bdom (hw.bE 0 rfl) (hw.bE 1 rfl)) (do_call Try.call19 rfl) ⟨_, rfl, rfl⟩ rfl rfl ?_
      intro v301 Sv298 w a h299 h300 hs
      subst h300
      have hw := hw.callB h299
      refine st_val hs (y_eql rfl rfl) ⟨_, rfl, rfl⟩ rfl rfl fun a hs => ?_
      refine st_val hs (y_pickT rfl rfl) trivial rfl rfl fun a hs => ?_
      refine wpList_nil ?_
      have hsh := Option.some.inj hsh
      subst hsh
      refine then_normal ?_
      exact ⟨Sv276, (hs.wk rfl), (hw.ft [1] [2, 3] (by decide) rfl rfl)⟩
     ·have hs := hs.fix 47 (.bool false) rfl (vb h293)
      have hsh := ite_f hc294 h293
      refine st_skip hs rfl rfl rfl rfl rfl fun a hs => ?_
      refine st_skip hs rfl rfl rfl rfl rfl fun a hs => ?_
      refine st_skip hs rfl rfl rfl rfl rfl fun a hs => ?_
      refine st_val hs (y_pickF rfl rfl) trivial rfl rfl fun a hs => ?_
      refine wpList_nil ?_
      have hsh := Option.some.inj hsh
      subst hsh
      refine then_normal ?_
      exact ⟨Sv276, (hs.wk rfl), (hw.ft [1] [2, 3] (by decide) rfl rfl)⟩
    ·rintro a w ⟨Sv295, hs, hw⟩
     refine st_val hs (y_move rfl) trivial rfl rfl fun a hs => ?_
     obtain ⟨c313, hc313, hsh⟩ := bind_t hsh
     refine wpl_join 6 (fun a w => ∃ (Sv314 : Nat → Prop), Sl 59 [(58, .bool c313)] a ∧ Wd ⟨w0, S0, []⟩ Sv314 [] [] w) ?_ ?_
     ·rcases Bool.eq_false_or_eq_true c294 with h312 | h312
      ·have hs := hs.fix 52 (.bool true) rfl (vb h312)
       have hsh := ite_t hc313 h312
       refine st_val hs (y_fieldAddr (o' := 1) Try.runUnderlying29 rfl Try.sizeOf27 rfl rfl rfl) ⟨_, rfl, rfl⟩ rfl rfl fun a hs => ?_
       refine st_val hs (y_loadB1 (hw.ownAt 0 rfl) rfl Try.isAgg27 rfl) ⟨_, rfl, rfl⟩ rfl rfl fun a hs => ?_
       refine st_val hs (y_build (vs := [(0, .int .i64 2), (1, .int .i64 3)]) Bld46 rfl rfl) ⟨_, rfl, rfl⟩ rfl rfl fun a hs => ?_
       refine w_litSlice (α := Span) (vs := [.agg #[.int .i64 2, .int .i64 3]]) (cs := [.int .i64 2, .int .i64 3]) (xs := ([(⟨2, 3⟩ : Span)] : List Span)) hs hw El27 rfl rfl rfl rfl rfl rfl ⟨⟨_, _, rfl, rfl, rfl⟩, rfl⟩ rfl ⟨_, rfl, rfl⟩ rfl fun b316 a w hs hw => ?_
       obtain ⟨rv318, h317, hsh⟩ := bind_t hsh
       refine st_callR hs (ref08_Same_ok h317 hw.bdom (hw.bE 2 rfl) (hw.bRow 0 rfl 0 rfl)) (do_call Try.call24 rfl) ⟨_, rfl, rfl⟩ rfl rfl ?_
       intro v322 Sv319 w a h320 h321 hs
       subst h321
       have hw := hw.callB h320
       refine st_val hs (y_pickT rfl rfl) trivial rfl rfl fun a hs => ?_
       refine wpList_nil ?_
       have hsh := Option.some.inj hsh
       subst hsh
       refine then_normal ?_
       exact ⟨Sv295, (hs.wk rfl), (hw.ft [] [] (by decide) rfl rfl)⟩
      ·have hs := hs.fix 52 (.bool false) rfl (vb h312)
       have hsh := ite_f hc313 h312
       refine st_skip hs rfl rfl rfl rfl rfl fun a hs => ?_
       refine st_skip hs rfl rfl rfl rfl rfl fun a hs => ?_
       refine st_skip hs rfl rfl rfl rfl rfl fun a hs => ?_
       refine st_skip hs rfl rfl rfl rfl rfl fun a hs => ?_
       refine st_skip hs rfl rfl rfl rfl rfl fun a hs => ?_
       refine st_val hs (y_pickF rfl rfl) trivial rfl rfl fun a hs => ?_
       refine wpList_nil ?_
       have hsh := Option.some.inj hsh
       subst hsh
       refine then_normal ?_
       exact ⟨Sv295, (hs.wk rfl), (hw.ft [] [] (by decide) rfl rfl)⟩
     ·rintro a w ⟨Sv314, hs, hw⟩
      refine st_val hs (y_assign rfl) trivial rfl rfl fun a hs => ?_
      refine wpList_nil ?_
      refine then_normal ?_
      have hsh := Option.some.inj hsh
      subst hsh
      refine wp_ret ?_
      exact ret1 hs rfl (rv_tmp rfl) (hw.ret rfl)

abbrev made_Roll_rd (w0 : World) (X : List Nat) (r : Dice) : (Nat → Prop) → World → Value → Prop := fun S w v => ∃ (b_0 : Nat) (p0_0 : Option Addr) (k0_0 : Nat), v = .pointer (some ⟨b_0, 0, none⟩) ∧ Outs X w0 S w [.box b_0 [.slice p0_0 r.L.length k0_0, .int .i64 r.At] 57] ∧ (SlA p0_0 r.L.length k0_0 r.L).p S w
set_option maxHeartbeats 4000000 in
set_option maxRecDepth 100000 in
theorem made_Roll_ok {w0 : World} {S0 : Nat → Prop} {p2 : Option Addr} {k3 : Nat} {l1 : (List Int)} {r : Dice} (hsh : made_Roll l1 = some r) (hS : ∀ b, S0 b → b < w0.heap.size) (h4 : (SlA p2 l1.length k3 l1).p S0 w0) : Calls Try.prog 9 #[.slice p2 l1.length k3] w0 (Ret ([]) w0 S0 (made_Roll_rd w0 ([]) r)) := by
 refine calls_of_wp Try.func9 rfl ?_
 have hs := Sl.enter #[.slice p2 l1.length k3] 6 [(0, .slice p2 l1.length k3)] rfl ⟨rfl, trivial⟩
 have hw := Wd.enter (E := []) hS (fun _ h => (by cases h))
 have hw := hw.addE h4
 delta made_Roll at hsh
 refine wp_seq ?_
 refine wp_region_lit ?_
 refine st_val hs (y_assign rfl) trivial rfl rfl fun a hs => ?_
 refine wpList_nil ?_
 refine then_normal ?_
 refine wp_seq ?_
 refine wp_region_lit ?_
 refine st_val hs (y_move rfl) trivial rfl rfl fun a hs => ?_
 refine st_val hs (y_build (vs := [(0, .slice p2 l1.length k3)]) Bld57 rfl rfl) trivial rfl rfl fun a hs => ?_
 refine w_box (cs := [.slice p2 l1.length k3, .int .i64 0]) hs hw rfl rfl rfl trivial ?_
 intro b5 a w hs hw
 refine st_val hs (y_assign rfl) trivial rfl rfl fun a hs => ?_
 refine wpList_nil ?_
 refine then_normal ?_
 have hsh := Option.some.inj hsh
 subst hsh
 refine wp_ret ?_
 exact ret1 hs rfl (rv_tmp rfl) (hw.ret ⟨b5, p2, k3, rfl, (hw.outs [0] (by decide) rfl), (hw.envAt 0 rfl)⟩)

abbrev made_Dice_Next_rd (w0 : World) (X : List Nat) (b2 : Nat) (r : (Int × Dice)) : (Nat → Prop) → World → Value → Prop := fun S w v => ∃ (pq0_0 : Option Addr) (kq0_0 : Nat), v = .int .i64 r.1 ∧ Outs X w0 S w [.box b2 [.slice pq0_0 r.2.L.length kq0_0, .int .i64 r.2.At] 57] ∧ (SlA pq0_0 r.2.L.length kq0_0 r.2.L).p S w
set_option maxHeartbeats 4000000 in
set_option maxRecDepth 100000 in
theorem made_Dice_Next_ok {w0 : World} {S0 : Nat → Prop} {b2 : Nat} {p3 : Option Addr} {k4 : Nat} {d1 : Dice} {n6 : Int} {r : (Int × Dice)} (hsh : made_Dice_Next d1 n6 = some r) (hS : ∀ b, S0 b → b < w0.heap.size) (hin : Ins S0 w0 [.box b2 [.slice p3 d1.L.length k4, .int .i64 d1.At] 57]) (h5 : (SlA p3 d1.L.length k4 d1.L).p S0 w0) : Calls Try.prog 11 #[.pointer (some ⟨b2, 0, none⟩), .int .i64 n6] w0 (Ret (blks [.box b2 [.slice p3 d1.L.length k4, .int .i64 d1.At] 57]) w0 S0 (made_Dice_Next_rd w0 (blks [.box b2 [.slice p3 d1.L.length k4, .int .i64 d1.At] 57]) b2 r)) := by
 refine calls_of_wp Try.func11 rfl ?_
 have hs := Sl.enter #[.pointer (some ⟨b2, 0, none⟩), .int .i64 n6] 45 [(0, .pointer (some ⟨b2, 0, none⟩)), (1, .int .i64 n6)] rfl ⟨rfl, rfl, trivial⟩
 have hw := Wd.enterI hS hin
 have hw := hw.addE h5
 delta made_Dice_Next at hsh
 refine wp_seq ?_
 refine wp_region_lit ?_
 refine st_val hs (y_assign rfl) trivial rfl rfl fun a hs => ?_
 refine wpList_nil ?_
 refine then_normal ?_
 refine wp_seq ?_
 refine wp_seq ?_
 refine wp_only (fun a w => ∃ (Sv7 : Nat → Prop), Sl 45 [(0, .pointer (some ⟨b2, 0, none⟩)), (1, .int .i64 n6), (19, .bool ((decide ((d1.L.length : Int) ≤ d1.At)) || (decide (n6 < 1))))] a ∧ Wd ⟨w0, S0, blks [.box b2 [.slice p3 d1.L.length k4, .int .i64 d1.At] 57]⟩ Sv7 [.box b2 [.slice p3 d1.L.length k4, .int .i64 d1.At] 57] [SlA p3 d1.L.length k4 d1.L] w) ?_ ?_
 ·rcases Bool.eq_false_or_eq_true (decide ((d1.L.length : Int) ≤ d1.At)) with h8 | h8
  ·refine h_b (C := Cls [.box b2 [.slice p3 d1.L.length k4, .int .i64 d1.At] 57] []) (by kernel_rfl) rfl (hw.drew.cs [0] [] rfl rfl) fun hC => ?_
   have hw := hw.drew
   refine h_g hs 0 rfl (by kernel_rfl) rfl rfl hC rfl (fun w hC => y_move rfl) fun a hs => ?_
   refine h_g hs 1 rfl (by kernel_rfl) rfl rfl hC rfl (fun w hC => y_nilCheck rfl) fun a hs => ?_
   refine h_g hs 2 rfl (by kernel_rfl) rfl rfl hC rfl (fun w hC => y_fieldAddr (o' := 1) Try.runUnderlying57 rfl Try.sizeOf3 rfl rfl rfl) fun a hs => ?_
   refine h_g hs 3 rfl (by kernel_rfl) rfl rfl hC rfl (fun w hC => y_loadB1 (hC.ownAt 0 rfl) rfl Try.isAgg3 rfl) fun a hs => ?_
   refine h_g hs 4 rfl (by kernel_rfl) rfl rfl hC rfl (fun w hC => y_move rfl) fun a hs => ?_
   refine h_g hs 5 rfl (by kernel_rfl) rfl rfl hC rfl (fun w hC => y_nilCheck rfl) fun a hs => ?_
   refine h_g hs 6 rfl (by kernel_rfl) rfl rfl hC rfl (fun w hC => y_fieldAddr (o' := 0) Try.runUnderlying57 rfl Try.sizeOf22 rfl rfl rfl) fun a hs => ?_
   refine h_g hs 7 rfl (by kernel_rfl) rfl rfl hC rfl (fun w hC => y_loadB1 (hC.ownAt 0 rfl) rfl Try.isAgg22 rfl) fun a hs => ?_
   refine h_g hs 8 rfl (by kernel_rfl) rfl rfl hC rfl (fun w hC => y_len Try.runUnderlying22 rfl) fun a hs => ?_
   refine h_g hs 9 rfl (by kernel_rfl) rfl rfl hC rfl (fun w hC => y_geq rfl rfl) fun a hs => ?_
   refine h_g hs 10 rfl (by kernel_rfl) rfl rfl hC rfl (fun w hC => y_move rfl) fun a hs => ?_
   have hs := hs.fix 16 (.bool true) rfl (vb h8)
   refine h_s hs 11 rfl (by kernel_rfl) rfl rfl rfl (.inl rfl) rfl rfl hC fun a hs => ?_
   refine h_s hs 12 rfl (by kernel_rfl) rfl rfl rfl (.inl rfl) rfl rfl hC fun a hs => ?_
   refine h_g hs 13 rfl (by kernel_rfl) rfl rfl hC rfl (fun w hC => y_pickTE (v := .bool ((decide ((d1.L.length : Int) ≤ d1.At)) || (decide (n6 < 1)))) rfl rfl (or_t h8)) fun a hs => ?_
   refine h_done (by kernel_rfl) ?_
   exact ⟨S0, (hs.wk rfl), (hw.ft [0] [0] (by decide) rfl rfl)⟩
  ·refine h_b (C := Cls [.box b2 [.slice p3 d1.L.length k4, .int .i64 d1.At] 57] []) (by kernel_rfl) rfl (hw.drew.cs [0] [] rfl rfl) fun hC => ?_
   have hw := hw.drew
   refine h_g hs 0 rfl (by kernel_rfl) rfl rfl hC rfl (fun w hC => y_move rfl) fun a hs => ?_
   refine h_g hs 1 rfl (by kernel_rfl) rfl rfl hC rfl (fun w hC => y_nilCheck rfl) fun a hs => ?_
   refine h_g hs 2 rfl (by kernel_rfl) rfl rfl hC rfl (fun w hC => y_fieldAddr (o' := 1) Try.runUnderlying57 rfl Try.sizeOf3 rfl rfl rfl) fun a hs => ?_
   refine h_g hs 3 rfl (by kernel_rfl) rfl rfl hC rfl (fun w hC => y_loadB1 (hC.ownAt 0 rfl) rfl Try.isAgg3 rfl) fun a hs => ?_
   refine h_g hs 4 rfl (by kernel_rfl) rfl rfl hC rfl (fun w hC => y_move rfl) fun a hs => ?_
   refine h_g hs 5 rfl (by kernel_rfl) rfl rfl hC rfl (fun w hC => y_nilCheck rfl) fun a hs => ?_
   refine h_g hs 6 rfl (by kernel_rfl) rfl rfl hC rfl (fun w hC => y_fieldAddr (o' := 0) Try.runUnderlying57 rfl Try.sizeOf22 rfl rfl rfl) fun a hs => ?_
   refine h_g hs 7 rfl (by kernel_rfl) rfl rfl hC rfl (fun w hC => y_loadB1 (hC.ownAt 0 rfl) rfl Try.isAgg22 rfl) fun a hs => ?_
   refine h_g hs 8 rfl (by kernel_rfl) rfl rfl hC rfl (fun w hC => y_len Try.runUnderlying22 rfl) fun a hs => ?_
   refine h_g hs 9 rfl (by kernel_rfl) rfl rfl hC rfl (fun w hC => y_geq rfl rfl) fun a hs => ?_
   refine h_g hs 10 rfl (by kernel_rfl) rfl rfl hC rfl (fun w hC => y_move rfl) fun a hs => ?_
   have hs := hs.fix 16 (.bool false) rfl (vb h8)
   refine h_t hs 11 rfl (by kernel_rfl) ⟨_, rfl, rfl⟩ rfl rfl hC (fun w hC => y_move rfl) fun a hs => ?_
   refine h_t hs 12 rfl (by kernel_rfl) ⟨_, rfl, rfl⟩ rfl rfl hC (fun w hC => y_lss rfl rfl) fun a hs => ?_
   refine h_g hs 13 rfl (by kernel_rfl) rfl rfl hC rfl (fun w hC => y_pickFE (v := .bool ((decide ((d1.L.length : Int) ≤ d1.At)) || (decide (n6 < 1)))) rfl rfl (or_f h8)) fun a hs => ?_
   refine h_done (by kernel_rfl) ?_
   exact ⟨S0, (hs.wk rfl), (hw.ft [0] [0] (by decide) rfl rfl)⟩
 ·rintro a w ⟨Sv7, hs, hw⟩
  refine then_normal ?_
  refine wp_cond_split (hs.ev rfl) (fun h12 => ?_) (fun h12 => ?_)
  ·have hsh := ite_t hsh h12
   refine wp_seq ?_
   refine wp_region_lit ?_
   refine st_val hs (y_assign rfl) trivial rfl rfl fun a hs => ?_
   refine wpList_nil ?_
   refine then_normal ?_
   have hsh := Option.some.inj hsh
   subst hsh
   refine wp_ret ?_
   refine then_ret ?_
   exact ret1 hs rfl (rv_tmp rfl) (hw.ret ⟨p3, k4, rfl, (hw.outs [0] (by decide) rfl), (hw.envAt 0 rfl)⟩)
  ·have hsh := ite_f hsh h12
   refine wp_skip ?_
   refine then_normal ?_
   refine wp_seq ?_
   obtain ⟨x15, h13, hsh⟩ := bind_t hsh
   obtain ⟨b21, o22, q19, c20, h23, h16, h17, h18, h14⟩ := hw.elemV 0 rfl h13
   have hsv24 := hs
   have hwv25 := hw
   subst h23
   have hs := hsv24
   have hw := hwv25
   obtain ⟨_, rfl, rfl⟩ := h14
   have hw := hw.addE h18
   obtain ⟨rem27, h26, hsh⟩ := bind_t hsh
   refine wp_only (fun a w => ∃ (Sv28 : Nat → Prop), Sl 45 [(0, .pointer (some ⟨b2, 0, none⟩)), (1, .int .i64 n6), (5, .int .i64 rem27)] a ∧ Wd ⟨w0, S0, blks [.box b2 [.slice (some ⟨b21, o22, none⟩) d1.L.length k4, .int .i64 d1.At] 57]⟩ Sv28 [.box b2 [.slice (some ⟨b21, o22, none⟩) d1.L.length k4, .int .i64 d1.At] 57] [SlA (some ⟨b21, o22, none⟩) d1.L.length k4 d1.L] w) ?_ ?_
   ·refine h_b (C := Cls [.box b2 [.slice (some ⟨b21, o22, none⟩) d1.L.length k4, .int .i64 d1.At] 57] [CeA b21 q19 [.int .i64 x15]]) (by kernel_rfl) rfl (hw.drew.cs [0] [0] rfl rfl) fun hC => ?_
    have hw := hw.drew
    refine h_g hs 0 rfl (by kernel_rfl) rfl rfl hC rfl (fun w hC => y_move rfl) fun a hs => ?_
    refine h_g hs 1 rfl (by kernel_rfl) rfl rfl hC rfl (fun w hC => y_nilCheck rfl) fun a hs => ?_
    refine h_g hs 2 rfl (by kernel_rfl) rfl rfl hC rfl (fun w hC => y_fieldAddr (o' := 0) Try.runUnderlying57 rfl Try.sizeOf22 rfl rfl rfl) fun a hs => ?_
    refine h_g hs 3 rfl (by kernel_rfl) rfl rfl hC rfl (fun w hC => y_loadB1 (hC.ownAt 0 rfl) rfl Try.isAgg22 rfl) fun a hs => ?_
    refine h_g hs 4 rfl (by kernel_rfl) rfl rfl hC rfl (fun w hC => y_move rfl) fun a hs => ?_
    refine h_g hs 5 rfl (by kernel_rfl) rfl rfl hC rfl (fun w hC => y_nilCheck rfl) fun a hs => ?_
    refine h_g hs 6 rfl (by kernel_rfl) rfl rfl hC rfl (fun w hC => y_fieldAddr (o' := 1) Try.runUnderlying57 rfl Try.sizeOf3 rfl rfl rfl) fun a hs => ?_
    refine h_g hs 7 rfl (by kernel_rfl) rfl rfl hC rfl (fun w hC => y_loadB1 (hC.ownAt 0 rfl) rfl Try.isAgg3 rfl) fun a hs => ?_
    refine h_g hs 8 rfl (by kernel_rfl) rfl rfl hC rfl (fun w hC => y_indexAt Try.runUnderlying22 Try.sizeOf3 rfl rfl h16.1 h16.2 h17) fun a hs => ?_
    refine h_g hs 9 rfl (by kernel_rfl) rfl rfl hC rfl (fun w hC => y_loadE1 (j := 0) (hC.ceAt 0 rfl) rfl Try.isAgg3 rfl) fun a hs => ?_
    refine h_g hs 10 rfl (by kernel_rfl) rfl rfl hC rfl (fun w hC => y_move rfl) fun a hs => ?_
    refine h_g hs 11 rfl (by kernel_rfl) rfl rfl hC rfl (fun w hC => y_remM rfl rfl h26) fun a hs => ?_
    refine h_g hs 12 rfl (by kernel_rfl) rfl rfl hC rfl (fun w hC => y_assign rfl) fun a hs => ?_
    refine h_done (by kernel_rfl) ?_
    exact ⟨Sv7, (hs.wk rfl), (hw.ft [0] [1] (by decide) rfl rfl)⟩
   ·rintro a w ⟨Sv28, hs, hw⟩
    refine then_normal ?_
    refine wp_seq ?_
    refine wp_region_lit ?_
    refine st_val hs (y_move rfl) trivial rfl rfl fun a hs => ?_
    refine st_val hs (y_nilCheck rfl) trivial rfl rfl fun a hs => ?_
    refine st_val hs (y_fieldAddr (o' := 1) Try.runUnderlying57 rfl Try.sizeOf3 rfl rfl rfl) trivial rfl rfl fun a hs => ?_
    refine st_val hs (y_loadB1 (hw.ownAt 0 rfl) rfl Try.isAgg3 rfl) trivial rfl rfl fun a hs => ?_
    refine st_val hs (y_add rfl rfl) trivial rfl rfl fun a hs => ?_
    refine st_val hs (y_nilCheck rfl) trivial rfl rfl fun a hs => ?_
    refine st_val hs (y_fieldAddr (o' := 1) Try.runUnderlying57 rfl Try.sizeOf3 rfl rfl rfl) trivial rfl rfl fun a hs => ?_
    refine w_store (m := 1) (cs' := [.slice (some ⟨b21, o22, none⟩) d1.L.length k4, .int .i64 (w64 (d1.At + 1))]) hs hw 0 rfl rfl rfl Try.sizeOf3 rfl rfl rfl rfl trivial ?_
    intro a w hs hw
    refine wpList_nil ?_
    refine then_normal ?_
    refine wp_seq ?_
    refine wp_seq ?_
    refine wp_region_lit ?_
    refine st_val hs (y_move rfl) trivial rfl rfl fun a hs => ?_
    refine st_val hs (y_lss rfl rfl) trivial rfl rfl fun a hs => ?_
    refine wpList_nil ?_
    refine then_normal ?_
    refine wp_join (fun a w => ∃ (x33 : Int) (Sv32 : Nat → Prop), made_Dice_Next_j1 d1 x33 = some r ∧ Sl 45 [(5, .int .i64 x33)] a ∧ Wd ⟨w0, S0, blks [.box b2 [.slice (some ⟨b21, o22, none⟩) d1.L.length k4, .int .i64 d1.At] 57]⟩ Sv32 [.box b2 [.slice (some ⟨b21, o22, none⟩) d1.L.length k4, .int .i64 (w64 (d1.At + 1))] 57] [SlA (some ⟨b21, o22, none⟩) d1.L.length k4 d1.L] w) ?_ ?_
    ·refine wp_cond_split (hs.ev rfl) (fun h34 => ?_) (fun h34 => ?_)
     ·have hsh := ite_t hsh h34
      refine wp_region_lit ?_
      refine st_val hs (y_move rfl) trivial rfl rfl fun a hs => ?_
      refine st_val hs (y_move rfl) trivial rfl rfl fun a hs => ?_
      refine st_val hs (y_add rfl rfl) trivial rfl rfl fun a hs => ?_
      obtain ⟨x36, h35, hsh⟩ := bind_t hsh
      refine st_val hs (y_assignI rfl h35) trivial rfl rfl fun a hs => ?_
      refine wpList_nil ?_
      refine then_normal ?_
      exact ⟨x36, Sv28, hsh, (hs.wk rfl), (hw.ft [0] [0] (by decide) rfl rfl)⟩
     ·have hsh := ite_f hsh h34
      refine wp_skip ?_
      refine then_normal ?_
      exact ⟨rem27, Sv28, hsh, (hs.wk rfl), (hw.ft [0] [0] (by decide) rfl rfl)⟩
    ·rintro a w ⟨x33, Sv32, hsh, hs, hw⟩
     delta made_Dice_Next_j1 at hsh
     refine then_normal ?_
     refine wp_seq ?_
     refine wp_region_lit ?_
     refine st_val hs (y_move rfl) trivial rfl rfl fun a hs => ?_
     refine st_val hs (y_assign rfl) trivial rfl rfl fun a hs => ?_
     refine wpList_nil ?_
     refine then_normal ?_
     have hsh := Option.some.inj hsh
     subst hsh
     refine wp_ret ?_
     exact ret1 hs rfl (rv_tmp rfl) (hw.ret ⟨(some ⟨b21, o22, none⟩), k4, rfl, (hw.outs [0] (by decide) rfl), (hw.envAt 0 rfl)⟩)

abbrev span_First_rd (w0 : World) (X : List Nat) (r : (List Span)) : (Nat → Prop) → World → Value → Prop := fun S w v => ∃ (p0_0 : Option Addr) (k0_0 : Nat) (c0_0 : List Value), v = .slice p0_0 r.length k0_0 ∧ Outs X w0 S w [.row p0_0 r.length k0_0 c0_0 46 2] ∧ (RowA c0_0 r).p S w
set_option maxHeartbeats 4000000 in
set_option maxRecDepth 100000 in
theorem span_First_ok {w0 : World} {S0 : Nat → Prop} {p2 : Option Addr} {k3 : Nat} {l1 : (List Span)} {n5 : Int} {r : (List Span)} (hsh : span_First l1 n5 = some r) (hS : ∀ b, S0 b → b < w0.heap.size) (h4 : (SlA p2 l1.length k3 l1).p S0 w0) : Calls Try.prog 47 #[.slice p2 l1.length k3, .int .i64 n5] w0 (Ret ([]) w0 S0 (span_First_rd w0 ([]) r)) := by
 refine calls_of_wp Try.func47 rfl ?_
 have hs := Sl.enter #[.slice p2 l1.length k3, .int .i64 n5] 44 [(0, .slice p2 l1.length k3), (1, .int .i64 n5)] rfl ⟨rfl, rfl, trivial⟩
 have hw := Wd.enter (E := []) hS (fun _ h => (by cases h))
 have hw := hw.addE h4
 delta span_First at hsh
 refine wp_seq ?_
 refine wp_region_lit ?_
 refine st_val hs (y_assign rfl) trivial rfl rfl fun a hs => ?_
 refine wpList_nil ?_
 refine then_normal ?_
 refine wp_seq ?_
 refine wp_region_lit ?_
 refine st_val hs (y_assign rfl) trivial rfl rfl fun a hs => ?_
 refine wpList_nil ?_
 refine then_normal ?_
 refine wp_seq ?_
 refine wp_seq ?_
 refine wp_region_lit ?_
 refine st_val hs (y_move rfl) trivial rfl rfl fun a hs => ?_
 obtain ⟨rv7, h6, hsh⟩ := bind_t hsh
 refine st_callR hs (span_Normal_ok h6 hw.dom (hw.envAt 0 rfl)) (do_call Try.call53 rfl) trivial rfl rfl ?_
 intro v15 Sv12 w a h13 h14 hs
 obtain ⟨p8, k9, c11, rfl, h16, h10⟩ := h14
 have hw := hw.callN h13 h16
 have hw := hw.addE (e := RowA c11 rv7) h10
 refine st_val hs (y_len Try.runUnderlying27 rfl) trivial rfl rfl fun a hs => ?_
 refine st_val hs (y_move rfl) trivial rfl rfl fun a hs => ?_
 refine wpList_nil ?_
 refine then_normal ?_
 obtain ⟨e122, h195, hsh⟩ := bind_t hsh
 refine wp_join (fun a w => ∃ (c123 : List Value) (p124 : Option Addr) (k125 : Nat) (Sv126 : Nat → Prop), Sl 44 [(5, .slice p124 e122.length k125)] a ∧ Wd ⟨w0, S0, []⟩ Sv126 [.row p124 e122.length k125 c123 46 2] [RowA c123 e122] w) ?_ ?_
 ·refine wp_block ?_
  have hw := hw.nilRow Span 46
  refine wp_while (fun sv17 a w => ∃ (c84 : List Value) (p85 : Option Addr) (k86 : Nat) (Sv87 : Nat → Prop), Sl 44 [(1, .int .i64 sv17.1), (5, .slice p85 sv17.2.1.length k86), (10, .slice p8 rv7.length k9), (11, .int .i64 (rv7.length : Int)), (12, .int .i64 sv17.2.2)] a ∧ Wd ⟨w0, S0, []⟩ Sv87 [.row p85 sv17.2.1.length k86 c84 46 2, .row p8 rv7.length k9 c11 46 2] [RowA c84 sv17.2.1, RowA c11 rv7] w) (n5, ([] : List Span), 0) h195 ⟨[], none, 0, Sv12, (hs.wk rfl), (hw.ft [0, 1] [0, 1] (by decide) rfl rfl)⟩ ?_
  clear h195
  repeat clear hsh
  rintro sv17 a w tv120 ⟨c84, p85, k86, Sv87, hs, hw⟩ hsh hd119
  delta span_First_l1 at hsh
  refine wp_seq ?_
  refine wp_region_lit ?_
  refine st_val hs (y_lss rfl rfl) trivial rfl rfl fun a hs => ?_
  refine wpList_nil ?_
  refine then_normal ?_
  refine wp_seq ?_
  refine wp_cond_split (hs.ev rfl) (fun h128 => ?_) (fun h128 => ?_)
  ·have hsh := ite_t hsh h128
   refine wp_skip ?_
   refine then_normal ?_
   refine wp_seq ?_
   refine wp_block ?_
   refine wp_seq ?_
   refine wp_region_lit ?_
   obtain ⟨x161, h159, hsh⟩ := bind_t hsh
   obtain ⟨b168, q165, c166, h169, h162, h163, h167, h160⟩ := hw.elemRV (α := Span) 1 rfl 1 rfl h159
   have hsv170 := hs
   have hwv171 := hw
   subst h169
   have hs := hsv170
   have hw := hwv171
   obtain ⟨_, _, rfl, rfl, rfl⟩ := h160
   refine st_val hs (y_indexAt Try.runUnderlying27 Try.sizeOf46 rfl rfl h162.1 h162.2 h163) trivial rfl rfl fun a hs => ?_
   refine st_val hs (y_loadQA (j := 0) (hw.ownAt 1 rfl) rfl Try.isAgg46 Try.sizeOf46 h167 rfl rfl) trivial rfl rfl fun a hs => ?_
   refine w_alloc (cs := [.int .i64 0, .int .i64 0]) hs hw Try.zeroValue46 rfl rfl trivial ?_
   intro b172 a w hs hw
   refine w_store (m := 2) (cs' := [.int .i64 x161.From, .int .i64 x161.To]) hs hw 0 rfl rfl rfl Try.sizeOf46 rfl rfl rfl rfl trivial ?_
   intro a w hs hw
   refine wpList_nil ?_
   refine then_normal ?_
   refine wp_seq ?_
   refine wp_seq ?_
   refine wp_region_lit ?_
   refine st_val hs (y_move rfl) trivial rfl rfl fun a hs => ?_
   refine st_val hs (y_lss rfl rfl) trivial rfl rfl fun a hs => ?_
   refine wpList_nil ?_
   refine then_normal ?_
   refine wp_cond_split (hs.ev rfl) (fun h174 => ?_) (fun h174 => ?_)
   ·have hsh := ite_t hsh h174
    refine wp_exit ?_
    refine then_exit ?_
    refine blk_other rfl ?_
    refine then_exit ?_
    refine then_exit ?_
    refine blk_exit ?_
    have hsh := Option.some.inj hsh
    subst hsh
    have h175 := hd119 _ rfl
    subst h175
    refine then_normal ?_
    exact ⟨c84, p85, k86, Sv87, (hs.wk rfl), (hw.ft [1] [0] (by decide) rfl rfl)⟩
   ·have hsh := ite_f hsh h174
    refine wp_skip ?_
    refine then_normal ?_
    refine wp_seq ?_
    refine wp_seq ?_
    refine wp_region_lit ?_
    refine st_val hs (y_fieldAddr (o' := 1) Try.runUnderlying46 rfl Try.sizeOf3 rfl rfl rfl) trivial rfl rfl fun a hs => ?_
    refine st_val hs (y_loadB1 (hw.ownAt 0 rfl) rfl Try.isAgg3 rfl) trivial rfl rfl fun a hs => ?_
    refine st_val hs (y_convert Try.runUnderlying3 Try.runUnderlying68 rfl) trivial rfl rfl fun a hs => ?_
    refine st_val hs (y_fieldAddr (o' := 0) Try.runUnderlying46 rfl Try.sizeOf3 rfl rfl rfl) trivial rfl rfl fun a hs => ?_
    refine st_val hs (y_loadB1 (hw.ownAt 0 rfl) rfl Try.isAgg3 rfl) trivial rfl rfl fun a hs => ?_
    refine st_val hs (y_convert Try.runUnderlying3 Try.runUnderlying68 rfl) trivial rfl rfl fun a hs => ?_
    refine st_val hs (y_sub rfl rfl) trivial rfl rfl fun a hs => ?_
    obtain ⟨size177, h176, hsh⟩ := bind_t hsh
    refine st_val hs (y_assignI rfl h176) trivial rfl rfl fun a hs => ?_
    refine wpList_nil ?_
    refine then_normal ?_
    refine wp_seq ?_
    refine wp_region_lit ?_
    refine st_val hs (y_move rfl) trivial rfl rfl fun a hs => ?_
    refine st_val hs (y_move rfl) trivial rfl rfl fun a hs => ?_
    refine st_val hs (y_convert Try.runUnderlying3 Try.runUnderlying68 rfl) trivial rfl rfl fun a hs => ?_
    refine st_val hs (y_gtr rfl rfl) trivial rfl rfl fun a hs => ?_
    refine wpList_nil ?_
    refine then_normal ?_
    refine wp_join (fun a w => ∃ (x182 : Int) (n183 : Int) (Sv181 : Nat → Prop), span_First_j1 sv17 x161 x182 n183 = some tv120 ∧ Sl 44 [(1, .int .i64 n183), (5, .slice p85 sv17.2.1.length k86), (7, .pointer (some ⟨b172, 0, none⟩)), (10, .slice (some ⟨b168, 0, none⟩) rv7.length k9), (11, .int .i64 (rv7.length : Int)), (12, .int .i64 sv17.2.2)] a ∧ Wd ⟨w0, S0, []⟩ Sv181 [.box b172 [.int .i64 x161.From, .int .i64 x182] 46, .row p85 sv17.2.1.length k86 c84 46 2, .row (some ⟨b168, 0, none⟩) rv7.length k9 c11 46 2] [RowA c84 sv17.2.1, RowA c11 rv7] w) ?_ ?_
    ·refine wp_cond_split (hs.ev rfl) (fun h191 => ?_) (fun h191 => ?_)
     ·have hsh := ite_t hsh h191
      refine wp_region_lit ?_
      refine st_val hs (y_fieldAddr (o' := 0) Try.runUnderlying46 rfl Try.sizeOf3 rfl rfl rfl) trivial rfl rfl fun a hs => ?_
      refine st_val hs (y_loadB1 (hw.ownAt 0 rfl) rfl Try.isAgg3 rfl) trivial rfl rfl fun a hs => ?_
      refine st_val hs (y_move rfl) trivial rfl rfl fun a hs => ?_
      refine st_val hs (y_add rfl rfl) trivial rfl rfl fun a hs => ?_
      refine st_val hs (y_fieldAddr (o' := 1) Try.runUnderlying46 rfl Try.sizeOf3 rfl rfl rfl) trivial rfl rfl fun a hs => ?_
      refine w_store (m := 1) (cs' := [.int .i64 x161.From, .int .i64 (w64 (x161.From + sv17.1))]) hs hw 0 rfl rfl rfl Try.sizeOf3 rfl rfl rfl rfl trivial ?_
      intro a w hs hw
      refine st_val hs (y_assign rfl) trivial rfl rfl fun a hs => ?_
      refine wpList_nil ?_
      refine then_normal ?_
      exact ⟨(w64 (x161.From + sv17.1)), 0, Sv87, hsh, (hs.wk rfl), (hw.ft [0, 1, 2] [0, 1] (by decide) rfl rfl)⟩
     ·have hsh := ite_f hsh h191
      refine wp_region_lit ?_
      refine st_val hs (y_move rfl) trivial rfl rfl fun a hs => ?_
      refine st_val hs (y_move rfl) trivial rfl rfl fun a hs => ?_
      refine st_val hs (y_convert Try.runUnderlying68 Try.runUnderlying3 rfl) trivial rfl rfl fun a hs => ?_
      refine st_val hs (y_sub rfl rfl) trivial rfl rfl fun a hs => ?_
      obtain ⟨n193, h192, hsh⟩ := bind_t hsh
      refine st_val hs (y_assignI rfl h192) trivial rfl rfl fun a hs => ?_
      refine wpList_nil ?_
      refine then_normal ?_
      exact ⟨x161.To, n193, Sv87, hsh, (hs.wk rfl), (hw.ft [0, 1, 2] [0, 1] (by decide) rfl rfl)⟩
    ·rintro a w ⟨x182, n183, Sv181, hsh, hs, hw⟩
     delta span_First_j1 at hsh
     refine then_normal ?_
     refine wp_region_lit ?_
     refine st_val hs (y_move rfl) trivial rfl rfl fun a hs => ?_
     refine st_val hs (y_loadBA (hw.ownAt 0 rfl) rfl Try.isAgg46 Try.sizeOf46 rfl rfl) trivial rfl rfl fun a hs => ?_
     refine w_litSlice (α := Span) (vs := [.agg #[.int .i64 x161.From, .int .i64 x182]]) (cs := [.int .i64 x161.From, .int .i64 x182]) (xs := ([(⟨x161.From, x182⟩ : Span)] : List Span)) hs hw El27 rfl rfl rfl rfl rfl rfl ⟨⟨_, _, rfl, rfl, rfl⟩, rfl⟩ rfl trivial rfl fun b185 a w hs hw => ?_
     obtain ⟨l187, h186, hsh⟩ := bind_t hsh
     refine w_appendR (α := Span) hs hw El27 2 rfl rfl rfl 1 rfl 0 rfl 0 rfl h186 rfl trivial ?_
     intro p188 k189 c190 a w hs hw
     refine st_val hs (y_assign rfl) trivial rfl rfl fun a hs => ?_
     refine wpList_nil ?_
     refine blk_normal ?_
     refine then_normal ?_
     refine wp_region_lit ?_
     refine st_val hs (y_add rfl rfl) trivial rfl rfl fun a hs => ?_
     refine st_val hs (y_move rfl) trivial rfl rfl fun a hs => ?_
     refine wpList_nil ?_
     refine then_normal ?_
     exact ⟨_, (Option.some.inj hsh).symm, c190, p188, k189, Sv181, (hs.wk rfl), (hw.ft [2, 3] [0, 3] (by decide) rfl rfl)⟩
  ·have hsh := ite_f hsh h128
   refine wp_exit ?_
   refine then_exit ?_
   refine then_exit ?_
   refine blk_exit ?_
   have hsh := Option.some.inj hsh
   subst hsh
   have h194 := hd119 _ rfl
   subst h194
   refine then_normal ?_
   exact ⟨c84, p85, k86, Sv87, (hs.wk rfl), (hw.ft [0] [0] (by decide) rfl rfl)⟩
 ·rintro a w ⟨c123, p124, k125, Sv126, hs, hw⟩
  refine then_normal ?_
  refine wp_seq ?_
  refine wp_region_lit ?_
  refine st_val hs (y_move rfl) trivial rfl rfl fun a hs => ?_
  refine st_val hs (y_assign rfl) trivial rfl rfl fun a hs => ?_
  refine wpList_nil ?_
  refine then_normal ?_
  have hsh := Option.some.inj hsh
  subst hsh
  refine wp_ret ?_
  exact ret1 hs rfl (rv_tmp rfl) (hw.ret ⟨p124, k125, c123, rfl, (hw.outs [0] (by decide) rfl), (hw.envAt 0 rfl)⟩)

abbrev receiver_Request_rd (w0 : World) (X : List Nat) (r : ((List Span) × Int)) : (Nat → Prop) → World → Value → Prop := fun S w v => ∃ (p0_0 : Option Addr) (k0_0 : Nat) (c0_0 : List Value), v = .tuple #[.slice p0_0 r.1.length k0_0, .int .i64 r.2] ∧ Outs X w0 S w [.row p0_0 r.1.length k0_0 c0_0 46 2] ∧ (RowA c0_0 r.1).p S w
set_option maxHeartbeats 4000000 in
set_option maxRecDepth 100000 in
theorem receiver_Request_ok {w0 : World} {S0 : Nat → Prop} {p2 : Option Addr} {k3 : Nat} {p4 : Option Addr} {k5 : Nat} {r1 : Receiver} {next8 : Int} {most9 : Int} {r : ((List Span) × Int)} (hsh : receiver_Request r1 next8 most9 = some r) (hS : ∀ b, S0 b → b < w0.heap.size) (h6 : (SlA p2 r1.Got.length k3 r1.Got).p S0 w0) (h7 : (SlA p4 r1.Lost.length k5 r1.Lost).p S0 w0) : Calls Try.prog 25 #[.agg #[.slice p2 r1.Got.length k3, .slice p4 r1.Lost.length k5], .int .i64 next8, .int .i64 most9] w0 (Ret ([]) w0 S0 (receiver_Request_rd w0 ([]) r)) := by
 refine calls_of_wp Try.func25 rfl ?_
 have hs := Sl.enter #[.agg #[.slice p2 r1.Got.length k3, .slice p4 r1.Lost.length k5], .int .i64 next8, .int .i64 most9] 25 [(0, .agg #[.slice p2 r1.Got.length k3, .slice p4 r1.Lost.length k5]), (1, .int .i64 next8), (2, .int .i64 most9)] rfl ⟨rfl, rfl, rfl, trivial⟩
 have hw := Wd.enter (E := []) hS (fun _ h => (by cases h))
 have hw := hw.addE h6
 have hw := hw.addE h7
 delta receiver_Request at hsh
 refine wp_seq ?_
 refine wp_region_lit ?_
 refine w_box (cs := [.slice p2 r1.Got.length k3, .slice p4 r1.Lost.length k5]) hs hw rfl rfl rfl trivial ?_
 intro b10 a w hs hw
 refine st_val hs (y_assign rfl) trivial rfl rfl fun a hs => ?_
 refine st_val hs (y_assign rfl) trivial rfl rfl fun a hs => ?_
 refine wpList_nil ?_
 refine then_normal ?_
 refine wp_seq ?_
 refine wp_region_lit ?_
 refine st_val hs (y_loadBA (hw.ownAt 0 rfl) rfl Try.isAgg29 Try.sizeOf29 rfl rfl) trivial rfl rfl fun a hs => ?_
 refine st_val hs (y_move rfl) trivial rfl rfl fun a hs => ?_
 obtain ⟨rv12, h11, hsh⟩ := bind_t hsh
 refine st_callR hs (receiver_Missing_ok h11 hw.dom (hw.envAt 1 rfl) (hw.envAt 0 rfl)) (do_call Try.call17 rfl) trivial rfl rfl ?_
 intro v20 Sv17 w a h18 h19 hs
 obtain ⟨p13, k14, c16, rfl, h21, h15⟩ := h19
 have hw := hw.callN h18 h21
 have hw := hw.addE (e := RowA c16 rv12.1) h15
 refine st_val hs (y_move rfl) trivial rfl rfl fun a hs => ?_
 refine st_val hs (y_extract rfl rfl) trivial rfl rfl fun a hs => ?_
 refine st_val hs (y_extract rfl rfl) trivial rfl rfl fun a hs => ?_
 refine st_val hs (y_assign rfl) trivial rfl rfl fun a hs => ?_
 refine st_val hs (y_assign rfl) trivial rfl rfl fun a hs => ?_
 refine wpList_nil ?_
 refine then_normal ?_
 refine wp_seq ?_
 refine wp_seq ?_
 refine wp_region_lit ?_
 refine st_val hs (y_move rfl) trivial rfl rfl fun a hs => ?_
 refine st_val hs (y_neq rfl rfl) trivial rfl rfl fun a hs => ?_
 refine wpList_nil ?_
 refine then_normal ?_
 refine wp_cond_split (hs.ev rfl) (fun h23 => ?_) (fun h23 => ?_)
 ·have hsh := ite_t hsh h23
  refine wp_seq ?_
  refine wp_region_lit ?_
  refine st_val hs (y_move rfl) trivial rfl rfl fun a hs => ?_
  refine st_val hs (y_assign rfl) trivial rfl rfl fun a hs => ?_
  refine st_val hs (y_assign rfl) trivial rfl rfl fun a hs => ?_
  refine wpList_nil ?_
  refine then_normal ?_
  have hsh := Option.some.inj hsh
  subst hsh
  have hw := hw.nilRow Span 46
  refine wp_ret ?_
  refine then_ret ?_
  exact ret2 hs rfl (rv_tmp rfl) (rv_tmp rfl) (hw.ret ⟨none, 0, [], rfl, (hw.outs [0] (by decide) rfl), (hw.envAt 0 rfl)⟩)
 ·have hsh := ite_f hsh h23
  refine wp_skip ?_
  refine then_normal ?_
  refine wp_seq ?_
  refine wp_seq ?_
  refine wp_region_lit ?_
  refine st_val hs (y_move rfl) trivial rfl rfl fun a hs => ?_
  obtain ⟨rv25, h24, hsh⟩ := bind_t hsh
  refine st_callR hs (receiver_in_ok h24 hw.bdom) (do_call Try.call34 rfl) trivial rfl rfl ?_
  intro v29 Sv26 w a h27 h28 hs
  subst h28
  have hw := hw.callB h27
  refine st_val hs (y_not rfl) trivial rfl rfl fun a hs => ?_
  refine wpList_nil ?_
  refine then_normal ?_
  refine wp_cond_split (hs.ev rfl) (fun h32 => ?_) (fun h32 => ?_)
  ·have hsh := ite_t hsh h32
   refine wp_seq ?_
   refine wp_region_lit ?_
   refine st_val hs (y_assign rfl) trivial rfl rfl fun a hs => ?_
   refine st_val hs (y_assign rfl) trivial rfl rfl fun a hs => ?_
   refine wpList_nil ?_
   refine then_normal ?_
   have hsh := Option.some.inj hsh
   subst hsh
   have hw := hw.nilRow Span 46
   refine wp_ret ?_
   refine then_ret ?_
   exact ret2 hs rfl (rv_tmp rfl) (rv_tmp rfl) (hw.ret ⟨none, 0, [], rfl, (hw.outs [0] (by decide) rfl), (hw.envAt 0 rfl)⟩)
  ·have hsh := ite_f hsh h32
   refine wp_skip ?_
   refine then_normal ?_
   refine wp_seq ?_
   refine wp_region_lit ?_
   refine st_val hs (y_move rfl) trivial rfl rfl fun a hs => ?_
   refine st_val hs (y_move rfl) trivial rfl rfl fun a hs => ?_
   obtain ⟨rv34, h33, hsh⟩ := bind_t hsh
   obtain ⟨Sv39, hw⟩ := w_share (α := Span) hw 0 rfl 0 rfl
   refine st_callR hs (span_First_ok h33 hw.dom (hw.envAt 0 rfl)) (do_call Try.call47 rfl) trivial rfl rfl ?_
   intro v43 Sv40 w a h41 h42 hs
   obtain ⟨p35, k36, c38, rfl, h44, h37⟩ := h42
   have hw := hw.callN h41 h44
   have hw := hw.addE (e := RowA c38 rv34) h37
   refine st_val hs (y_assign rfl) trivial rfl rfl fun a hs => ?_
   refine st_val hs (y_assign rfl) trivial rfl rfl fun a hs => ?_
   refine wpList_nil ?_
   refine then_normal ?_
   have hsh := Option.some.inj hsh
   subst hsh
   refine wp_ret ?_
   exact ret2 hs rfl (rv_tmp rfl) (rv_tmp rfl) (hw.ret ⟨p35, k36, c38, rfl, (hw.outs [0] (by decide) rfl), (hw.envAt 0 rfl)⟩)

end Go.Proofs.Ytiihddcppmjbaaa.Wk

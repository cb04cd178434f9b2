/- The walks of SpanNumbers, part 3: each Go function computes what its plain program computes. Printed by a program of ours. -/
import Derived.Test.YtmdnhgjpkdainaaProg
import Derived.Test.YtmdnhgjpkdainaaDat
import Derived.Test.YtmdnhgjpkdainaaSh
import Derived.Test.YtmdnhgjpkdainaaLibL
import Derived.KernelRfl
import Derived.Test.YtmdnhgjpkdainaaWSpanNumbers2
namespace Go.Proofs.Ytmdnhgjpkdainaa.Wk
open Go Go.RowKit Go.Proofs Go.Proofs.Ytmdnhgjpkdainaa.Sh
set_option linter.unusedVariables false
set_option linter.unusedSimpArgs false

abbrev span_Normal_rd (w0 : World) (X : List Nat) (r : (List Span)) : (Nat → Prop) → World → Value → Prop := fun S w v => ∃ (p0_0 : Option Addr) (k0_0 : Nat) (c0_0 : List Value), v = .slice p0_0 r.length k0_0 ∧ Outs X w0 S w [.row p0_0 r.length k0_0 c0_0 34 2] ∧ (RowA c0_0 r).p S w
set_option maxHeartbeats 4000000 in
set_option maxRecDepth 100000 in
theorem span_Normal_ok {w0 : World} {S0 : Nat → Prop} {p2 : Option Addr} {k3 : Nat} {l1 : (List Span)} {r : (List Span)} (hsh : span_Normal l1 = some r) (hS : ∀ b, S0 b → b < w0.heap.size) (h4 : (SlA p2 l1.length k3 l1).p S0 w0) : Calls Try.prog 16 #[.slice p2 l1.length k3] w0 (Ret ([]) w0 S0 (span_Normal_rd w0 ([]) r)) := by
 refine calls_of_wp Try.func16 rfl ?_
 have hs := Sl.enter #[.slice p2 l1.length k3] 54 [(0, .slice p2 l1.length k3)] rfl ⟨rfl, trivial⟩
 have hw := Wd.enter (E := []) hS (fun _ h => (by cases h))
 have hw := hw.addE h4
 delta span_Normal at hsh
 refine wp_seq ?_
 refine wp_region_lit ?_
 refine st_val hs (y_assign rfl) trivial rfl rfl fun a hs => ?_
 refine wpList_nil ?_
 refine then_normal ?_
 refine wp_seq ?_
 refine wp_region_lit ?_
 refine st_val hs (y_move rfl) trivial rfl rfl fun a hs => ?_
 obtain ⟨rv6, h5, hsh⟩ := bind_t hsh
 refine st_callR hs (slices_Clone_Lapi_Span_api_Span_ok h5 hw.dom (hw.envAt 0 rfl)) (do_call Try.call35 rfl) trivial rfl rfl ?_
 intro v14 Sv11 w a h12 h13 hs
 obtain ⟨p7, k8, c10, rfl, h15, h9⟩ := h13
 have hw := hw.callN h12 h15
 have hw := hw.addE (e := RowA c10 rv6) h9
 obtain ⟨rv17, h16, hsh⟩ := bind_t hsh
 refine st_callR hs (slices_DeleteFunc_Lapi_Span_api_Span_ok h16 hw.dom (hw.ins [0] (by decide) rfl) (hw.envAt 0 rfl) (span_Normal_fn1_fn _ _)) (do_call Try.call34 rfl) trivial rfl rfl ?_
 intro v25 Sv22 w a h23 h24 hs
 obtain ⟨p18, k19, c21, rfl, h26, h20⟩ := h24
 have hw := hw.callO [0] [] (by decide) rfl h23 h26
 have hw := hw.addE (e := RowA c21 rv17) h20
 refine st_val hs (y_assign rfl) trivial rfl rfl fun a hs => ?_
 refine wpList_nil ?_
 refine then_normal ?_
 refine wp_seq ?_
 refine wp_region_lit ?_
 refine st_val hs (y_move rfl) trivial rfl rfl fun a hs => ?_
 obtain ⟨rv28, h27, hsh⟩ := bind_t hsh
 refine st_callR hs (slices_SortFunc_Lapi_Span_api_Span_ok h27 hw.dom (hw.ins [0] (by decide) rfl) (hw.envAt 0 rfl) (span_Normal_fn2_fn _ _)) (do_call Try.call38 rfl) trivial rfl rfl ?_
 intro v35 Sv32 w a h33 h34 hs
 obtain ⟨c29, rfl, h36, h30, h31⟩ := h34
 have hw := hw.callO [0] [] (by decide) rfl h33 h36
 have hw := hw.addE (e := RowA c29 rv28) h30
 have h37 := h31
 have h38 := Eq.symm h37
 try have hs := hs.fix 3 (.slice p18 rv28.length k19) rfl (by rw [h38])
 try have hs := hs.fix 11 (.slice p18 rv28.length k19) rfl (by rw [h38])
 refine wpList_nil ?_
 refine then_normal ?_
 refine wp_seq ?_
 refine wp_region_lit ?_
 refine st_val hs (y_assign rfl) trivial rfl rfl fun a hs => ?_
 refine wpList_nil ?_
 refine then_normal ?_
 refine wp_seq ?_
 refine wp_seq ?_
 refine wp_region_lit ?_
 refine st_val hs (y_move rfl) trivial rfl rfl fun a hs => ?_
 refine st_val hs (y_len Try.runUnderlying25 rfl) trivial rfl rfl fun a hs => ?_
 refine st_val hs (y_move rfl) trivial rfl rfl fun a hs => ?_
 refine wpList_nil ?_
 refine then_normal ?_
 obtain ⟨e261, h462, hsh⟩ := bind_t hsh
 refine wp_join (fun a w => ∃ (c262 : List Value) (p263 : Option Addr) (k264 : Nat) (Sv265 : Nat → Prop), Sl 54 [(4, .slice p263 e261.length k264)] a ∧ Wd ⟨w0, S0, []⟩ Sv265 [.row p263 e261.length k264 c262 34 2] [RowA c262 e261] w) ?_ ?_
 ·refine wp_block ?_
  have hw := hw.nilRow Span 34
  refine wp_while (fun sv39 a w => ∃ (c182 : List Value) (p183 : Option Addr) (k184 : Nat) (Sv185 : Nat → Prop), Sl 54 [(4, .slice p183 sv39.1.length k184), (13, .slice p18 rv28.length k19), (14, .int .i64 (rv28.length : Int)), (15, .int .i64 sv39.2)] a ∧ Wd ⟨w0, S0, []⟩ Sv185 [.row p183 sv39.1.length k184 c182 34 2, .row p18 rv28.length k19 c29 34 2] [RowA c182 sv39.1, RowA c29 rv28] w) (([] : List Span), 0) h462 ⟨[], none, 0, Sv32, (hs.wk rfl), (hw.ft [0, 1] [0, 1] (by decide) rfl rfl)⟩ ?_
  clear h462
  repeat clear hsh
  rintro sv39 a w tv259 ⟨c182, p183, k184, Sv185, hs, hw⟩ hsh hd258
  delta span_Normal_l1 at hsh
  refine wp_seq ?_
  refine wp_region_lit ?_
  refine st_val hs (y_lss rfl rfl) trivial rfl rfl fun a hs => ?_
  refine wpList_nil ?_
  refine then_normal ?_
  refine wp_seq ?_
  refine wp_cond_split (hs.ev rfl) (fun h267 => ?_) (fun h267 => ?_)
  ·have hsh := ite_t hsh h267
   refine wp_skip ?_
   refine then_normal ?_
   refine wp_seq ?_
   refine wp_block ?_
   refine wp_seq ?_
   refine wp_region_lit ?_
   obtain ⟨x341, h339, hsh⟩ := bind_t hsh
   obtain ⟨b348, q345, c346, h349, h342, h343, h347, h340⟩ := hw.elemRV (α := Span) 1 rfl 1 rfl h339
   have hsv350 := hs
   have hwv351 := hw
   subst h349
   have hs := hsv350
   have hw := hwv351
   obtain ⟨_, _, rfl, rfl, rfl⟩ := h340
   refine st_val hs (y_indexAt Try.runUnderlying25 Try.sizeOf34 rfl rfl h342.1 h342.2 h343) trivial rfl rfl fun a hs => ?_
   refine st_val hs (y_loadQA (j := 0) (hw.ownAt 1 rfl) rfl Try.isAgg34 Try.sizeOf34 h347 rfl rfl) trivial rfl rfl fun a hs => ?_
   refine w_alloc (cs := [.int .i64 0, .int .i64 0]) hs hw Try.zeroValue34 rfl rfl trivial ?_
   intro b352 a w hs hw
   refine w_store (m := 2) (cs' := [.int .i64 x341.From, .int .i64 x341.To]) hs hw 0 rfl rfl rfl Try.sizeOf34 rfl rfl rfl rfl trivial ?_
   intro a w hs hw
   refine wpList_nil ?_
   refine then_normal ?_
   refine wp_seq ?_
   refine wp_region_lit ?_
   refine st_val hs (y_move rfl) trivial rfl rfl fun a hs => ?_
   refine st_val hs (y_len Try.runUnderlying25 rfl) trivial rfl rfl fun a hs => ?_
   obtain ⟨n354, h353, hsh⟩ := bind_t hsh
   refine st_val hs (y_assignI rfl h353) trivial rfl rfl fun a hs => ?_
   refine wpList_nil ?_
   refine then_normal ?_
   refine wp_seq ?_
   obtain ⟨c368, hc368, hsh⟩ := bind_t hsh
   refine wp_only (fun a w => ∃ (Sv369 : Nat → Prop), Sl 54 [(4, .slice p183 sv39.1.length k184), (6, .pointer (some ⟨b352, 0, none⟩)), (7, .int .i64 n354), (13, .slice (some ⟨b348, 0, none⟩) rv28.length k19), (14, .int .i64 (rv28.length : Int)), (15, .int .i64 sv39.2), (33, .bool c368)] a ∧ Wd ⟨w0, S0, []⟩ Sv369 [.box b352 [.int .i64 x341.From, .int .i64 x341.To] 34, .row p183 sv39.1.length k184 c182 34 2, .row (some ⟨b348, 0, none⟩) rv28.length k19 c29 34 2] [RowA c182 sv39.1, RowA c29 rv28] w) ?_ ?_
   ·rcases Bool.eq_false_or_eq_true (decide (0 < n354)) with h370 | h370
    ·have h371 := ite_t hc368 h370
     obtain ⟨x374, h372, h371⟩ := bind_t h371
     obtain ⟨b381, q378, c379, h382, h375, h376, h380, h373⟩ := hw.elemRV (α := Span) 1 rfl 0 rfl h372
     have hsv383 := hs
     have hwv384 := hw
     subst h382
     have hs := hsv383
     have hw := hwv384
     obtain ⟨_, _, rfl, rfl, rfl⟩ := h373
     refine h_b (C := Cls [.box b352 [.int .i64 x341.From, .int .i64 x341.To] 34, .row (some ⟨b381, 0, none⟩) sv39.1.length k184 c182 34 2, .row (some ⟨b348, 0, none⟩) rv28.length k19 c29 34 2] []) (by kernel_rfl) rfl (hw.drew.cs [0, 1, 2] [] rfl rfl) fun hC => ?_
     have hw := hw.drew
     refine h_g hs 0 rfl (by kernel_rfl) rfl rfl hC rfl (fun w hC => y_move rfl) fun a hs => ?_
     refine h_g hs 1 rfl (by kernel_rfl) rfl rfl hC rfl (fun w hC => y_gtr rfl rfl) fun a hs => ?_
     refine h_g hs 2 rfl (by kernel_rfl) rfl rfl hC rfl (fun w hC => y_move rfl) fun a hs => ?_
     have hs := hs.fix 23 (.bool true) rfl (vb h370)
     refine h_t hs 3 rfl (by kernel_rfl) ⟨_, rfl, rfl⟩ rfl rfl hC (fun w hC => y_fieldAddr (o' := 0) Try.runUnderlying34 rfl Try.sizeOf3 rfl rfl rfl) fun a hs => ?_
     refine h_t hs 4 rfl (by kernel_rfl) ⟨_, rfl, rfl⟩ rfl rfl hC (fun w hC => y_loadB1 (hC.ownAt 0 rfl) rfl Try.isAgg3 rfl) fun a hs => ?_
     refine h_t hs 5 rfl (by kernel_rfl) ⟨_, rfl, rfl⟩ rfl rfl hC (fun w hC => y_move rfl) fun a hs => ?_
     refine h_t hs 6 rfl (by kernel_rfl) ⟨_, rfl, rfl⟩ rfl rfl hC (fun w hC => y_move rfl) fun a hs => ?_
     refine h_t hs 7 rfl (by kernel_rfl) ⟨_, rfl, rfl⟩ rfl rfl hC (fun w hC => y_sub rfl rfl) fun a hs => ?_
     refine h_t hs 8 rfl (by kernel_rfl) ⟨_, rfl, rfl⟩ rfl rfl hC (fun w hC => y_indexAt Try.runUnderlying25 Try.sizeOf34 rfl rfl h375.1 h375.2 h376) fun a hs => ?_
     refine h_t hs 9 rfl (by kernel_rfl) ⟨_, rfl, rfl⟩ rfl rfl hC (fun w hC => y_fieldAddr (o' := q378 + 1) Try.runUnderlying34 rfl Try.sizeOf3 rfl rfl rfl) fun a hs => ?_
     refine h_t hs 10 rfl (by kernel_rfl) ⟨_, rfl, rfl⟩ rfl rfl hC (fun w hC => y_loadQ1 (j := 1) (hC.ownAt 1 rfl) rfl Try.isAgg3 h380 rfl) fun a hs => ?_
     refine h_t hs 11 rfl (by kernel_rfl) ⟨_, rfl, rfl⟩ rfl rfl hC (fun w hC => y_leq rfl rfl) fun a hs => ?_
     refine h_g hs 12 rfl (by kernel_rfl) rfl rfl hC rfl (fun w hC => y_pickTE (v := .bool c368) rfl rfl (vbs h371)) fun a hs => ?_
     refine h_done (by kernel_rfl) ?_
     exact ⟨Sv185, (hs.wk rfl), (hw.ft [0, 1, 2] [0, 1] (by decide) rfl rfl)⟩
    ·have h385 := ite_f hc368 h370
     refine h_b (C := Cls [.box b352 [.int .i64 x341.From, .int .i64 x341.To] 34, .row p183 sv39.1.length k184 c182 34 2, .row (some ⟨b348, 0, none⟩) rv28.length k19 c29 34 2] []) (by kernel_rfl) rfl (hw.drew.cs [0, 1, 2] [] rfl rfl) fun hC => ?_
     have hw := hw.drew
     refine h_g hs 0 rfl (by kernel_rfl) rfl rfl hC rfl (fun w hC => y_move rfl) fun a hs => ?_
     refine h_g hs 1 rfl (by kernel_rfl) rfl rfl hC rfl (fun w hC => y_gtr rfl rfl) fun a hs => ?_
     refine h_g hs 2 rfl (by kernel_rfl) rfl rfl hC rfl (fun w hC => y_move rfl) fun a hs => ?_
     have hs := hs.fix 23 (.bool false) rfl (vb h370)
     refine h_s hs 3 rfl (by kernel_rfl) rfl rfl rfl (.inl rfl) rfl rfl hC fun a hs => ?_
     refine h_s hs 4 rfl (by kernel_rfl) rfl rfl rfl (.inl rfl) rfl rfl hC fun a hs => ?_
     refine h_s hs 5 rfl (by kernel_rfl) rfl rfl rfl (.inl rfl) rfl rfl hC fun a hs => ?_
     refine h_s hs 6 rfl (by kernel_rfl) rfl rfl rfl (.inl rfl) rfl rfl hC fun a hs => ?_
     refine h_s hs 7 rfl (by kernel_rfl) rfl rfl rfl (.inl rfl) rfl rfl hC fun a hs => ?_
     refine h_s hs 8 rfl (by kernel_rfl) rfl rfl rfl (.inl rfl) rfl rfl hC fun a hs => ?_
     refine h_s hs 9 rfl (by kernel_rfl) rfl rfl rfl (.inl rfl) rfl rfl hC fun a hs => ?_
     refine h_s hs 10 rfl (by kernel_rfl) rfl rfl rfl (.inl rfl) rfl rfl hC fun a hs => ?_
     refine h_s hs 11 rfl (by kernel_rfl) rfl rfl rfl (.inl rfl) rfl rfl hC fun a hs => ?_
     refine h_g hs 12 rfl (by kernel_rfl) rfl rfl hC rfl (fun w hC => y_pickFE (v := .bool c368) rfl rfl (vbs h385)) fun a hs => ?_
     refine h_done (by kernel_rfl) ?_
     exact ⟨Sv185, (hs.wk rfl), (hw.ft [0, 1, 2] [0, 1] (by decide) rfl rfl)⟩
   ·rintro a w ⟨Sv369, hs, hw⟩
    refine then_normal ?_
    refine wp_join (fun a w => ∃ (out425 : (List Span)) (c421 : List Value) (p422 : Option Addr) (k423 : Nat) (Sv424 : Nat → Prop), span_Normal_j1 sv39 out425 = some tv259 ∧ Sl 54 [(4, .slice p422 out425.length k423), (13, .slice (some ⟨b348, 0, none⟩) rv28.length k19), (14, .int .i64 (rv28.length : Int)), (15, .int .i64 sv39.2)] a ∧ Wd ⟨w0, S0, []⟩ Sv424 [.row p422 out425.length k423 c421 34 2, .row (some ⟨b348, 0, none⟩) rv28.length k19 c29 34 2] [RowA c421 out425, RowA c29 rv28] w) ?_ ?_
    ·refine wp_cond_split (hs.ev rfl) (fun h426 => ?_) (fun h426 => ?_)
     ·have hsh := ite_t hsh h426
      obtain ⟨x429, h427, hsh⟩ := bind_t hsh
      obtain ⟨b436, q433, c434, h437, h430, h431, h435, h428⟩ := hw.elemRV (α := Span) 1 rfl 0 rfl h427
      have hsv438 := hs
      have hwv439 := hw
      subst h437
      have hs := hsv438
      have hw := hwv439
      obtain ⟨_, _, rfl, rfl, rfl⟩ := h428
      obtain ⟨x442, h440, hsh⟩ := bind_t hsh
      obtain ⟨q446, c447, h443, h444, h448, h441⟩ := hw.elemRK (α := Span) 1 rfl 0 rfl h440
      obtain ⟨_, _, rfl, rfl, rfl⟩ := h441
      obtain ⟨l450, h449, hsh⟩ := bind_t hsh
      refine wp_only (fun a w => ∃ (Sv453 : Nat → Prop) (c451 : List Value), Sl 54 [(4, .slice (some ⟨b436, 0, none⟩) l450.length k184), (13, .slice (some ⟨b348, 0, none⟩) rv28.length k19), (14, .int .i64 (rv28.length : Int)), (15, .int .i64 sv39.2)] a ∧ Wd ⟨w0, S0, []⟩ Sv453 [.row (some ⟨b436, 0, none⟩) l450.length k184 c451 34 2, .row (some ⟨b348, 0, none⟩) rv28.length k19 c29 34 2] [RowA c451 l450, RowA c29 rv28] w) ?_ ?_
      ·refine h_b (C := Cls [.box b352 [.int .i64 x341.From, .int .i64 x341.To] 34, .row (some ⟨b348, 0, none⟩) rv28.length k19 c29 34 2] []) (by kernel_rfl) rfl (hw.drew.cs [0, 2] [] rfl rfl) fun hC => ?_
       have hw := hw.drew
       refine h_g hs 0 rfl (by kernel_rfl) rfl rfl hC rfl (fun w hC => y_move rfl) fun a hs => ?_
       refine h_g hs 1 rfl (by kernel_rfl) rfl rfl hC rfl (fun w hC => y_move rfl) fun a hs => ?_
       refine h_g hs 2 rfl (by kernel_rfl) rfl rfl hC rfl (fun w hC => y_sub rfl rfl) fun a hs => ?_
       refine h_g hs 3 rfl (by kernel_rfl) rfl rfl hC rfl (fun w hC => y_move rfl) fun a hs => ?_
       refine h_g hs 4 rfl (by kernel_rfl) rfl rfl hC rfl (fun w hC => y_move rfl) fun a hs => ?_
       refine h_g hs 5 rfl (by kernel_rfl) rfl rfl hC rfl (fun w hC => y_sub rfl rfl) fun a hs => ?_
       refine h_g hs 6 rfl (by kernel_rfl) rfl rfl hC rfl (fun w hC => y_indexAt Try.runUnderlying25 Try.sizeOf34 rfl rfl h430.1 h430.2 h431) fun a hs => ?_
       refine h_g hs 7 rfl (by kernel_rfl) rfl rfl hC rfl (fun w hC => y_fieldAddr (o' := q433 + 1) Try.runUnderlying34 rfl Try.sizeOf3 rfl rfl rfl) fun a hs => ?_
       refine h_g hs 9 rfl (by kernel_rfl) rfl rfl hC rfl (fun w hC => y_fieldAddr (o' := 1) Try.runUnderlying34 rfl Try.sizeOf3 rfl rfl rfl) fun a hs => ?_
       refine h_g hs 10 rfl (by kernel_rfl) rfl rfl hC rfl (fun w hC => y_loadB1 (hC.ownAt 0 rfl) rfl Try.isAgg3 rfl) fun a hs => ?_
       refine h_one (i := 8) (by kernel_rfl) rfl ?_
       refine st_val hs (y_loadQ1 (j := 1) (hw.ownAt 1 rfl) rfl Try.isAgg3 h435 rfl) trivial rfl rfl fun a hs => ?_
       refine h_nx (hw.cs [0, 2] [] rfl rfl) fun hC => ?_
       refine h_g hs 11 rfl (by kernel_rfl) rfl rfl hC rfl (fun w hC => y_max rfl rfl) fun a hs => ?_
       refine h_g hs 12 rfl (by kernel_rfl) rfl rfl hC rfl (fun w hC => y_indexAt Try.runUnderlying25 Try.sizeOf34 rfl rfl h443.1 h443.2 h444) fun a hs => ?_
       refine h_g hs 13 rfl (by kernel_rfl) rfl rfl hC rfl (fun w hC => y_fieldAddr (o' := q446 + 1) Try.runUnderlying34 rfl Try.sizeOf3 rfl rfl rfl) fun a hs => ?_
       refine h_one (i := 14) (by kernel_rfl) rfl ?_
       refine w_storeR (α := Span) (f := 1) (m := 1) hs hw 1 rfl 0 rfl h444 rfl rfl Try.sizeOf3 rfl rfl rfl h449 (fun es he => by rw [h448] at he; subst he; exact ⟨_, _, rfl, rfl, rfl⟩) trivial ?_
       intro c451 a w hs hw
       have h452 := setM_len h449
       try have hs := hs.fix 4 (.slice (some ⟨b436, 0, none⟩) l450.length k184) rfl (by rw [h452])
       try have hs := hs.fix 34 (.slice (some ⟨b436, 0, none⟩) l450.length k184) rfl (by rw [h452])
       try have hs := hs.fix 37 (.slice (some ⟨b436, 0, none⟩) l450.length k184) rfl (by rw [h452])
       refine h_nx (hw.cs [0, 2] [] rfl rfl) fun hC => ?_
       refine h_done (by kernel_rfl) ?_
       exact ⟨Sv369, c451, (hs.wk rfl), (hw.ft [1, 2] [0, 2] (by decide) rfl rfl)⟩
      ·rintro a w ⟨Sv453, c451, hs, hw⟩
       refine then_normal ?_
       exact ⟨l450, c451, (some ⟨b436, 0, none⟩), k184, Sv453, hsh, (hs.wk rfl), (hw.ft [0, 1] [0, 1] (by decide) rfl rfl)⟩
     ·have hsh := ite_f hsh h426
      refine wp_region_lit ?_
      refine st_val hs (y_move rfl) trivial rfl rfl fun a hs => ?_
      refine st_val hs (y_loadBA (hw.ownAt 0 rfl) rfl Try.isAgg34 Try.sizeOf34 rfl rfl) trivial rfl rfl fun a hs => ?_
      refine w_litSlice (α := Span) (vs := [.agg #[.int .i64 x341.From, .int .i64 x341.To]]) (cs := [.int .i64 x341.From, .int .i64 x341.To]) (xs := ([x341] : List Span)) hs hw El25 rfl rfl rfl rfl rfl rfl ⟨⟨_, _, rfl, rfl, rfl⟩, rfl⟩ rfl trivial rfl fun b455 a w hs hw => ?_
      obtain ⟨l457, h456, hsh⟩ := bind_t hsh
      refine w_appendR (α := Span) hs hw El25 2 rfl rfl rfl 1 rfl 0 rfl 0 rfl h456 rfl trivial ?_
      intro p458 k459 c460 a w hs hw
      refine st_val hs (y_assign rfl) trivial rfl rfl fun a hs => ?_
      refine wpList_nil ?_
      refine then_normal ?_
      exact ⟨l457, c460, p458, k459, Sv369, hsh, (hs.wk rfl), (hw.ft [2, 3] [0, 3] (by decide) rfl rfl)⟩
    ·rintro a w ⟨out425, c421, p422, k423, Sv424, hsh, hs, hw⟩
     delta span_Normal_j1 at hsh
     refine blk_normal ?_
     refine then_normal ?_
     refine wp_region_lit ?_
     refine st_val hs (y_add rfl rfl) trivial rfl rfl fun a hs => ?_
     refine st_val hs (y_move rfl) trivial rfl rfl fun a hs => ?_
     refine wpList_nil ?_
     refine then_normal ?_
     exact ⟨_, (Option.some.inj hsh).symm, c421, p422, k423, Sv424, (hs.wk rfl), (hw.ft [0, 1] [0, 1] (by decide) rfl rfl)⟩
  ·have hsh := ite_f hsh h267
   refine wp_exit ?_
   refine then_exit ?_
   refine then_exit ?_
   refine blk_exit ?_
   have hsh := Option.some.inj hsh
   subst hsh
   have h461 := hd258 _ rfl
   subst h461
   refine then_normal ?_
   exact ⟨c182, p183, k184, Sv185, (hs.wk rfl), (hw.ft [0] [0] (by decide) rfl rfl)⟩
 ·rintro a w ⟨c262, p263, k264, Sv265, hs, hw⟩
  refine then_normal ?_
  refine wp_seq ?_
  refine wp_region_lit ?_
  refine st_val hs (y_move rfl) trivial rfl rfl fun a hs => ?_
  refine st_val hs (y_assign rfl) trivial rfl rfl fun a hs => ?_
  refine wpList_nil ?_
  refine then_normal ?_
  have hsh := Option.some.inj hsh
  subst hsh
  refine wp_ret ?_
  exact ret1 hs rfl (rv_tmp rfl) (hw.ret ⟨p263, k264, c262, rfl, (hw.outs [0] (by decide) rfl), (hw.envAt 0 rfl)⟩)

abbrev ref08_Same_rd (w0 : World) (X : List Nat) (r : Bool) : (Nat → Prop) → World → Value → Prop := fun S w v => v = .bool r
set_option maxHeartbeats 4000000 in
set_option maxRecDepth 100000 in
theorem ref08_Same_ok {w0 : World} {S0 : Nat → Prop} {p2 : Option Addr} {k3 : Nat} {p6 : Option Addr} {k7 : Nat} {a1 : (List Span)} {b5 : (List Span)} {r : Bool} (hsh : ref08_Same a1 b5 = some r) (hS : ∀ b, S0 b → b < w0.heap.size) (h4 : (SlA p2 a1.length k3 a1).p S0 w0) (h8 : (SlA p6 b5.length k7 b5).p S0 w0) : Calls Try.prog 15 #[.slice p2 a1.length k3, .slice p6 b5.length k7] w0 (Ret ([]) w0 S0 (ref08_Same_rd w0 ([]) r)) := by
 refine calls_of_wp Try.func15 rfl ?_
 have hs := Sl.enter #[.slice p2 a1.length k3, .slice p6 b5.length k7] 26 [(0, .slice p2 a1.length k3), (1, .slice p6 b5.length k7)] rfl ⟨rfl, rfl, trivial⟩
 have hw := Wd.enter (E := []) hS (fun _ h => (by cases h))
 have hw := hw.addE h4
 have hw := hw.addE h8
 delta ref08_Same at hsh
 refine wp_seq ?_
 refine wp_region_lit ?_
 refine st_val hs (y_assign rfl) trivial rfl rfl fun a hs => ?_
 refine wpList_nil ?_
 refine then_normal ?_
 refine wp_seq ?_
 refine wp_seq ?_
 refine wp_region_lit ?_
 refine st_val hs (y_move rfl) trivial rfl rfl fun a hs => ?_
 refine st_val hs (y_len Try.runUnderlying25 rfl) trivial rfl rfl fun a hs => ?_
 refine st_val hs (y_move rfl) trivial rfl rfl fun a hs => ?_
 refine st_val hs (y_len Try.runUnderlying25 rfl) trivial rfl rfl fun a hs => ?_
 refine st_val hs (y_neq rfl rfl) trivial rfl rfl fun a hs => ?_
 refine wpList_nil ?_
 refine then_normal ?_
 refine wp_cond_split (hs.ev rfl) (fun h10 => ?_) (fun h10 => ?_)
 ·have hsh := ite_t hsh h10
  refine wp_seq ?_
  refine wp_region_lit ?_
  refine st_val hs (y_assign rfl) trivial rfl rfl fun a hs => ?_
  refine wpList_nil ?_
  refine then_normal ?_
  have hsh := Option.some.inj hsh
  subst hsh
  refine wp_ret ?_
  refine then_ret ?_
  exact ret1 hs rfl (rv_tmp rfl) (hw.ret rfl)
 ·have hsh := ite_f hsh h10
  refine wp_skip ?_
  refine then_normal ?_
  refine wp_seq ?_
  refine wp_seq ?_
  refine wp_region_lit ?_
  refine st_val hs (y_assign rfl) trivial rfl rfl fun a hs => ?_
  refine wpList_nil ?_
  refine then_normal ?_
  refine wp_block ?_
  refine wp_while (fun sv109 a w => ∃ (Sv173 : Nat → Prop), Sl 26 [(0, .slice p2 a1.length k3), (1, .slice p6 b5.length k7), (5, .int .i64 sv109)] a ∧ Wd ⟨w0, S0, []⟩ Sv173 [] [SlA p2 a1.length k3 a1, SlA p6 b5.length k7 b5] w) 0 hsh ⟨S0, (hs.wk rfl), (hw.ft [] [1, 0] (by decide) rfl rfl)⟩ ?_
  repeat clear hsh
  rintro sv109 a w tv206 ⟨Sv173, hs, hw⟩ hsh hd205
  delta ref08_Same_l2 at hsh
  refine wp_seq ?_
  refine wp_seq ?_
  refine wp_region_lit ?_
  refine st_val hs (y_move rfl) trivial rfl rfl fun a hs => ?_
  refine st_val hs (y_move rfl) trivial rfl rfl fun a hs => ?_
  refine st_val hs (y_len Try.runUnderlying25 rfl) trivial rfl rfl fun a hs => ?_
  refine st_val hs (y_lss rfl rfl) trivial rfl rfl fun a hs => ?_
  refine wpList_nil ?_
  refine then_normal ?_
  refine wp_cond_split (hs.ev rfl) (fun h210 => ?_) (fun h210 => ?_)
  ·have hsh := ite_t hsh h210
   refine wp_skip ?_
   refine then_normal ?_
   refine wp_seq ?_
   refine wp_block ?_
   refine wp_seq ?_
   obtain ⟨x241, h239, hsh⟩ := bind_t hsh
   obtain ⟨b247, o248, q245, c246, h249, h242, h243, h244, h240⟩ := hw.elemV 0 rfl h239
   have hsv250 := hs
   have hwv251 := hw
   subst h249
   have hs := hsv250
   have hw := hwv251
   obtain ⟨_, _, rfl, rfl, rfl⟩ := h240
   have hw := hw.addE h244
   obtain ⟨x254, h252, hsh⟩ := bind_t hsh
   obtain ⟨b260, o261, q258, c259, h262, h255, h256, h257, h253⟩ := hw.elemV 2 rfl h252
   have hsv263 := hs
   have hwv264 := hw
   subst h262
   have hs := hsv263
   have hw := hwv264
   obtain ⟨_, _, rfl, rfl, rfl⟩ := h253
   have hw := hw.addE h257
   refine wp_only (fun a w => ∃ (Sv265 : Nat → Prop), Sl 26 [(0, .slice (some ⟨b247, o248, none⟩) a1.length k3), (1, .slice (some ⟨b260, o261, none⟩) b5.length k7), (5, .int .i64 sv109), (25, .bool (!((x241.From == x254.From) && ((x241.To == x254.To) && true))))] a ∧ Wd ⟨w0, S0, []⟩ Sv265 [] [SlA (some ⟨b247, o248, none⟩) a1.length k3 a1, SlA (some ⟨b260, o261, none⟩) b5.length k7 b5] w) ?_ ?_
   ·refine h_b (C := Cls [] [CeA b260 q258 [.int .i64 x254.From, .int .i64 x254.To], CeA b247 q245 [.int .i64 x241.From, .int .i64 x241.To]]) (by kernel_rfl) rfl (hw.drew.cs [] [0, 1] rfl rfl) fun hC => ?_
    have hw := hw.drew
    refine h_g hs 0 rfl (by kernel_rfl) rfl rfl hC rfl (fun w hC => y_move rfl) fun a hs => ?_
    refine h_g hs 1 rfl (by kernel_rfl) rfl rfl hC rfl (fun w hC => y_move rfl) fun a hs => ?_
    refine h_g hs 2 rfl (by kernel_rfl) rfl rfl hC rfl (fun w hC => y_indexAt Try.runUnderlying25 Try.sizeOf34 rfl rfl h242.1 h242.2 h243) fun a hs => ?_
    refine h_g hs 3 rfl (by kernel_rfl) rfl rfl hC rfl (fun w hC => y_loadEA (j := 0) (hC.ceAt 1 rfl) rfl Try.isAgg34 Try.sizeOf34 rfl rfl) fun a hs => ?_
    refine h_g hs 4 rfl (by kernel_rfl) rfl rfl hC rfl (fun w hC => y_move rfl) fun a hs => ?_
    refine h_g hs 5 rfl (by kernel_rfl) rfl rfl hC rfl (fun w hC => y_move rfl) fun a hs => ?_
    refine h_g hs 6 rfl (by kernel_rfl) rfl rfl hC rfl (fun w hC => y_indexAt Try.runUnderlying25 Try.sizeOf34 rfl rfl h255.1 h255.2 h256) fun a hs => ?_
    refine h_g hs 7 rfl (by kernel_rfl) rfl rfl hC rfl (fun w hC => y_loadEA (j := 0) (hC.ceAt 0 rfl) rfl Try.isAgg34 Try.sizeOf34 rfl rfl) fun a hs => ?_
    refine h_g hs 8 rfl (by kernel_rfl) rfl rfl hC rfl (fun w hC => y_neqA (by kernel_rfl) rfl rfl (eqv_struct Try.runUnderlying34 (by kernel_rfl) (EqF.cons1 rfl Try.isAgg3 rfl rfl (eqv_int Try.runUnderlying3) (EqF.cons1 rfl Try.isAgg3 rfl rfl (eqv_int Try.runUnderlying3) EqF.nil)))) fun a hs => ?_
    refine h_done (by kernel_rfl) ?_
    exact ⟨Sv173, (hs.wk rfl), (hw.ft [] [2, 3] (by decide) rfl rfl)⟩
   ·rintro a w ⟨Sv265, hs, hw⟩
    refine then_normal ?_
    refine wp_cond_split (hs.ev rfl) (fun h267 => ?_) (fun h267 => ?_)
    ·have hsh := ite_t hsh h267
     refine wp_seq ?_
     refine wp_region_lit ?_
     refine st_val hs (y_assign rfl) trivial rfl rfl fun a hs => ?_
     refine wpList_nil ?_
     refine then_normal ?_
     have hsh := Option.some.inj hsh
     subst hsh
     have h268 := hd205 _ rfl
     subst h268
     refine wp_ret ?_
     refine blk_ret ?_
     refine then_ret ?_
     refine then_ret ?_
     refine blk_ret ?_
     refine then_ret ?_
     exact ret1 hs rfl (rv_tmp rfl) (hw.ret rfl)
    ·have hsh := ite_f hsh h267
     refine wp_skip ?_
     refine blk_normal ?_
     refine then_normal ?_
     refine wp_region_lit ?_
     refine st_val hs (y_move rfl) trivial rfl rfl fun a hs => ?_
     refine st_val hs (y_add rfl rfl) trivial rfl rfl fun a hs => ?_
     obtain ⟨i270, h269, hsh⟩ := bind_t hsh
     refine st_val hs (y_assignI rfl h269) trivial rfl rfl fun a hs => ?_
     refine wpList_nil ?_
     refine then_normal ?_
     exact ⟨_, (Option.some.inj hsh).symm, Sv265, (hs.wk rfl), (hw.ft [] [0, 1] (by decide) rfl rfl)⟩
  ·have hsh := ite_f hsh h210
   obtain ⟨rv271, hsh, h272⟩ := map_t hsh
   have h272 := (hd205 _ h272.symm).symm
   subst h272
   refine wp_exit ?_
   refine then_exit ?_
   refine then_exit ?_
   refine blk_exit ?_
   refine then_normal ?_
   refine wp_seq ?_
   refine wp_region_lit ?_
   refine st_val hs (y_assign rfl) trivial rfl rfl fun a hs => ?_
   refine wpList_nil ?_
   refine then_normal ?_
   have hsh := Option.some.inj hsh
   subst hsh
   refine wp_ret ?_
   exact ret1 hs rfl (rv_tmp rfl) (hw.ret rfl)

abbrev span_First_rd (w0 : World) (X : List Nat) (r : (List Span)) : (Nat → Prop) → World → Value → Prop := fun S w v => ∃ (p0_0 : Option Addr) (k0_0 : Nat) (c0_0 : List Value), v = .slice p0_0 r.length k0_0 ∧ Outs X w0 S w [.row p0_0 r.length k0_0 c0_0 34 2] ∧ (RowA c0_0 r).p S w
set_option maxHeartbeats 4000000 in
set_option maxRecDepth 100000 in
theorem span_First_ok {w0 : World} {S0 : Nat → Prop} {p2 : Option Addr} {k3 : Nat} {l1 : (List Span)} {n5 : Int} {r : (List Span)} (hsh : span_First l1 n5 = some r) (hS : ∀ b, S0 b → b < w0.heap.size) (h4 : (SlA p2 l1.length k3 l1).p S0 w0) : Calls Try.prog 12 #[.slice p2 l1.length k3, .int .i64 n5] w0 (Ret ([]) w0 S0 (span_First_rd w0 ([]) r)) := by
 refine calls_of_wp Try.func12 rfl ?_
 have hs := Sl.enter #[.slice p2 l1.length k3, .int .i64 n5] 44 [(0, .slice p2 l1.length k3), (1, .int .i64 n5)] rfl ⟨rfl, rfl, trivial⟩
 have hw := Wd.enter (E := []) hS (fun _ h => (by cases h))
 have hw := hw.addE h4
 delta span_First at hsh
 refine wp_seq ?_
 refine wp_region_lit ?_
 refine st_val hs (y_assign rfl) trivial rfl rfl fun a hs => ?_
 refine wpList_nil ?_
 refine then_normal ?_
 refine wp_seq ?_
 refine wp_region_lit ?_
 refine st_val hs (y_assign rfl) trivial rfl rfl fun a hs => ?_
 refine wpList_nil ?_
 refine then_normal ?_
 refine wp_seq ?_
 refine wp_seq ?_
 refine wp_region_lit ?_
 refine st_val hs (y_move rfl) trivial rfl rfl fun a hs => ?_
 obtain ⟨rv7, h6, hsh⟩ := bind_t hsh
 refine st_callR hs (span_Normal_ok h6 hw.dom (hw.envAt 0 rfl)) (do_call Try.call16 rfl) trivial rfl rfl ?_
 intro v15 Sv12 w a h13 h14 hs
 obtain ⟨p8, k9, c11, rfl, h16, h10⟩ := h14
 have hw := hw.callN h13 h16
 have hw := hw.addE (e := RowA c11 rv7) h10
 refine st_val hs (y_len Try.runUnderlying25 rfl) trivial rfl rfl fun a hs => ?_
 refine st_val hs (y_move rfl) trivial rfl rfl fun a hs => ?_
 refine wpList_nil ?_
 refine then_normal ?_
 obtain ⟨e122, h195, hsh⟩ := bind_t hsh
 refine wp_join (fun a w => ∃ (c123 : List Value) (p124 : Option Addr) (k125 : Nat) (Sv126 : Nat → Prop), Sl 44 [(5, .slice p124 e122.length k125)] a ∧ Wd ⟨w0, S0, []⟩ Sv126 [.row p124 e122.length k125 c123 34 2] [RowA c123 e122] w) ?_ ?_
 ·refine wp_block ?_
  have hw := hw.nilRow Span 34
  refine wp_while (fun sv17 a w => ∃ (c84 : List Value) (p85 : Option Addr) (k86 : Nat) (Sv87 : Nat → Prop), Sl 44 [(1, .int .i64 sv17.1), (5, .slice p85 sv17.2.1.length k86), (10, .slice p8 rv7.length k9), (11, .int .i64 (rv7.length : Int)), (12, .int .i64 sv17.2.2)] a ∧ Wd ⟨w0, S0, []⟩ Sv87 [.row p85 sv17.2.1.length k86 c84 34 2, .row p8 rv7.length k9 c11 34 2] [RowA c84 sv17.2.1, RowA c11 rv7] w) (n5, ([] : List Span), 0) h195 ⟨[], none, 0, Sv12, (hs.wk rfl), (hw.ft [0, 1] [0, 1] (by decide) rfl rfl)⟩ ?_
  clear h195
  repeat clear hsh
  rintro sv17 a w tv120 ⟨c84, p85, k86, Sv87, hs, hw⟩ hsh hd119
  delta span_First_l1 at hsh
  refine wp_seq ?_
  refine wp_region_lit ?_
  refine st_val hs (y_lss rfl rfl) trivial rfl rfl fun a hs => ?_
  refine wpList_nil ?_
  refine then_normal ?_
  refine wp_seq ?_
  refine wp_cond_split (hs.ev rfl) (fun h128 => ?_) (fun h128 => ?_)
  ·have hsh := ite_t hsh h128
   refine wp_skip ?_
   refine then_normal ?_
   refine wp_seq ?_
   refine wp_block ?_
   refine wp_seq ?_
   refine wp_region_lit ?_
   obtain ⟨x161, h159, hsh⟩ := bind_t hsh
   obtain ⟨b168, q165, c166, h169, h162, h163, h167, h160⟩ := hw.elemRV (α := Span) 1 rfl 1 rfl h159
   have hsv170 := hs
   have hwv171 := hw
   subst h169
   have hs := hsv170
   have hw := hwv171
   obtain ⟨_, _, rfl, rfl, rfl⟩ := h160
   refine st_val hs (y_indexAt Try.runUnderlying25 Try.sizeOf34 rfl rfl h162.1 h162.2 h163) trivial rfl rfl fun a hs => ?_
   refine st_val hs (y_loadQA (j := 0) (hw.ownAt 1 rfl) rfl Try.isAgg34 Try.sizeOf34 h167 rfl rfl) trivial rfl rfl fun a hs => ?_
   refine w_alloc (cs := [.int .i64 0, .int .i64 0]) hs hw Try.zeroValue34 rfl rfl trivial ?_
   intro b172 a w hs hw
   refine w_store (m := 2) (cs' := [.int .i64 x161.From, .int .i64 x161.To]) hs hw 0 rfl rfl rfl Try.sizeOf34 rfl rfl rfl rfl trivial ?_
   intro a w hs hw
   refine wpList_nil ?_
   refine then_normal ?_
   refine wp_seq ?_
   refine wp_seq ?_
   refine wp_region_lit ?_
   refine st_val hs (y_move rfl) trivial rfl rfl fun a hs => ?_
   refine st_val hs (y_lss rfl rfl) trivial rfl rfl fun a hs => ?_
   refine wpList_nil ?_
   refine then_normal ?_
   refine wp_cond_split (hs.ev rfl) (fun h174 => ?_) (fun h174 => ?_)
   ·have hsh := ite_t hsh h174
    refine wp_exit ?_
    refine then_exit ?_
    refine blk_other rfl ?_
    refine then_exit ?_
    refine then_exit ?_
    refine blk_exit ?_
    have hsh := Option.some.inj hsh
    subst hsh
    have h175 := hd119 _ rfl
    subst h175
    refine then_normal ?_
    exact ⟨c84, p85, k86, Sv87, (hs.wk rfl), (hw.ft [1] [0] (by decide) rfl rfl)⟩
   ·have hsh := ite_f hsh h174
    refine wp_skip ?_
    refine then_normal ?_
    refine wp_seq ?_
    refine wp_seq ?_
    refine wp_region_lit ?_
    refine st_val hs (y_fieldAddr (o' := 1) Try.runUnderlying34 rfl Try.sizeOf3 rfl rfl rfl) trivial rfl rfl fun a hs => ?_
    refine st_val hs (y_loadB1 (hw.ownAt 0 rfl) rfl Try.isAgg3 rfl) trivial rfl rfl fun a hs => ?_
    refine st_val hs (y_convert Try.runUnderlying3 Try.runUnderlying51 rfl) trivial rfl rfl fun a hs => ?_
    refine st_val hs (y_fieldAddr (o' := 0) Try.runUnderlying34 rfl Try.sizeOf3 rfl rfl rfl) trivial rfl rfl fun a hs => ?_
    refine st_val hs (y_loadB1 (hw.ownAt 0 rfl) rfl Try.isAgg3 rfl) trivial rfl rfl fun a hs => ?_
    refine st_val hs (y_convert Try.runUnderlying3 Try.runUnderlying51 rfl) trivial rfl rfl fun a hs => ?_
    refine st_val hs (y_sub rfl rfl) trivial rfl rfl fun a hs => ?_
    obtain ⟨size177, h176, hsh⟩ := bind_t hsh
    refine st_val hs (y_assignI rfl h176) trivial rfl rfl fun a hs => ?_
    refine wpList_nil ?_
    refine then_normal ?_
    refine wp_seq ?_
    refine wp_region_lit ?_
    refine st_val hs (y_move rfl) trivial rfl rfl fun a hs => ?_
    refine st_val hs (y_move rfl) trivial rfl rfl fun a hs => ?_
    refine st_val hs (y_convert Try.runUnderlying3 Try.runUnderlying51 rfl) trivial rfl rfl fun a hs => ?_
    refine st_val hs (y_gtr rfl rfl) trivial rfl rfl fun a hs => ?_
    refine wpList_nil ?_
    refine then_normal ?_
    refine wp_join (fun a w => ∃ (x182 : Int) (n183 : Int) (Sv181 : Nat → Prop), span_First_j1 sv17 x161 x182 n183 = some tv120 ∧ Sl 44 [(1, .int .i64 n183), (5, .slice p85 sv17.2.1.length k86), (7, .pointer (some ⟨b172, 0, none⟩)), (10, .slice (some ⟨b168, 0, none⟩) rv7.length k9), (11, .int .i64 (rv7.length : Int)), (12, .int .i64 sv17.2.2)] a ∧ Wd ⟨w0, S0, []⟩ Sv181 [.box b172 [.int .i64 x161.From, .int .i64 x182] 34, .row p85 sv17.2.1.length k86 c84 34 2, .row (some ⟨b168, 0, none⟩) rv7.length k9 c11 34 2] [RowA c84 sv17.2.1, RowA c11 rv7] w) ?_ ?_
    ·refine wp_cond_split (hs.ev rfl) (fun h191 => ?_) (fun h191 => ?_)
     ·have hsh := ite_t hsh h191
      refine wp_region_lit ?_
      refine st_val hs (y_fieldAddr (o' := 0) Try.runUnderlying34 rfl Try.sizeOf3 rfl rfl rfl) trivial rfl rfl fun a hs => ?_
      refine st_val hs (y_loadB1 (hw.ownAt 0 rfl) rfl Try.isAgg3 rfl) trivial rfl rfl fun a hs => ?_
      refine st_val hs (y_move rfl) trivial rfl rfl fun a hs => ?_
      refine st_val hs (y_add rfl rfl) trivial rfl rfl fun a hs => ?_
      refine st_val hs (y_fieldAddr (o' := 1) Try.runUnderlying34 rfl Try.sizeOf3 rfl rfl rfl) trivial rfl rfl fun a hs => ?_
      refine w_store (m := 1) (cs' := [.int .i64 x161.From, .int .i64 (w64 (x161.From + sv17.1))]) hs hw 0 rfl rfl rfl Try.sizeOf3 rfl rfl rfl rfl trivial ?_
      intro a w hs hw
      refine st_val hs (y_assign rfl) trivial rfl rfl fun a hs => ?_
      refine wpList_nil ?_
      refine then_normal ?_
      exact ⟨(w64 (x161.From + sv17.1)), 0, Sv87, hsh, (hs.wk rfl), (hw.ft [0, 1, 2] [0, 1] (by decide) rfl rfl)⟩
     ·have hsh := ite_f hsh h191
      refine wp_region_lit ?_
      refine st_val hs (y_move rfl) trivial rfl rfl fun a hs => ?_
      refine st_val hs (y_move rfl) trivial rfl rfl fun a hs => ?_
      refine st_val hs (y_convert Try.runUnderlying51 Try.runUnderlying3 rfl) trivial rfl rfl fun a hs => ?_
      refine st_val hs (y_sub rfl rfl) trivial rfl rfl fun a hs => ?_
      obtain ⟨n193, h192, hsh⟩ := bind_t hsh
      refine st_val hs (y_assignI rfl h192) trivial rfl rfl fun a hs => ?_
      refine wpList_nil ?_
      refine then_normal ?_
      exact ⟨x161.To, n193, Sv87, hsh, (hs.wk rfl), (hw.ft [0, 1, 2] [0, 1] (by decide) rfl rfl)⟩
    ·rintro a w ⟨x182, n183, Sv181, hsh, hs, hw⟩
     delta span_First_j1 at hsh
     refine then_normal ?_
     refine wp_region_lit ?_
     refine st_val hs (y_move rfl) trivial rfl rfl fun a hs => ?_
     refine st_val hs (y_loadBA (hw.ownAt 0 rfl) rfl Try.isAgg34 Try.sizeOf34 rfl rfl) trivial rfl rfl fun a hs => ?_
     refine w_litSlice (α := Span) (vs := [.agg #[.int .i64 x161.From, .int .i64 x182]]) (cs := [.int .i64 x161.From, .int .i64 x182]) (xs := ([(⟨x161.From, x182⟩ : Span)] : List Span)) hs hw El25 rfl rfl rfl rfl rfl rfl ⟨⟨_, _, rfl, rfl, rfl⟩, rfl⟩ rfl trivial rfl fun b185 a w hs hw => ?_
     obtain ⟨l187, h186, hsh⟩ := bind_t hsh
     refine w_appendR (α := Span) hs hw El25 2 rfl rfl rfl 1 rfl 0 rfl 0 rfl h186 rfl trivial ?_
     intro p188 k189 c190 a w hs hw
     refine st_val hs (y_assign rfl) trivial rfl rfl fun a hs => ?_
     refine wpList_nil ?_
     refine blk_normal ?_
     refine then_normal ?_
     refine wp_region_lit ?_
     refine st_val hs (y_add rfl rfl) trivial rfl rfl fun a hs => ?_
     refine st_val hs (y_move rfl) trivial rfl rfl fun a hs => ?_
     refine wpList_nil ?_
     refine then_normal ?_
     exact ⟨_, (Option.some.inj hsh).symm, c190, p188, k189, Sv181, (hs.wk rfl), (hw.ft [2, 3] [0, 3] (by decide) rfl rfl)⟩
  ·have hsh := ite_f hsh h128
   refine wp_exit ?_
   refine then_exit ?_
   refine then_exit ?_
   refine blk_exit ?_
   have hsh := Option.some.inj hsh
   subst hsh
   have h194 := hd119 _ rfl
   subst h194
   refine then_normal ?_
   exact ⟨c84, p85, k86, Sv87, (hs.wk rfl), (hw.ft [0] [0] (by decide) rfl rfl)⟩
 ·rintro a w ⟨c123, p124, k125, Sv126, hs, hw⟩
  refine then_normal ?_
  refine wp_seq ?_
  refine wp_region_lit ?_
  refine st_val hs (y_move rfl) trivial rfl rfl fun a hs => ?_
  refine st_val hs (y_assign rfl) trivial rfl rfl fun a hs => ?_
  refine wpList_nil ?_
  refine then_normal ?_
  have hsh := Option.some.inj hsh
  subst hsh
  refine wp_ret ?_
  exact ret1 hs rfl (rv_tmp rfl) (hw.ret ⟨p124, k125, c123, rfl, (hw.outs [0] (by decide) rfl), (hw.envAt 0 rfl)⟩)

abbrev span_Valid_rd (w0 : World) (X : List Nat) (r : Bool) : (Nat → Prop) → World → Value → Prop := fun S w v => v = .bool r
set_option maxHeartbeats 4000000 in
set_option maxRecDepth 100000 in
theorem span_Valid_ok {w0 : World} {S0 : Nat → Prop} {p2 : Option Addr} {k3 : Nat} {l1 : (List Span)} {r : Bool} (hsh : span_Valid l1 = some r) (hS : ∀ b, S0 b → b < w0.heap.size) (h4 : (SlA p2 l1.length k3 l1).p S0 w0) : Calls Try.prog 21 #[.slice p2 l1.length k3] w0 (Ret ([]) w0 S0 (span_Valid_rd w0 ([]) r)) := by
 refine calls_of_wp Try.func21 rfl ?_
 have hs := Sl.enter #[.slice p2 l1.length k3] 31 [(0, .slice p2 l1.length k3)] rfl ⟨rfl, trivial⟩
 have hw := Wd.enter (E := []) hS (fun _ h => (by cases h))
 have hw := hw.addE h4
 delta span_Valid at hsh
 refine wp_seq ?_
 refine wp_region_lit ?_
 refine st_val hs (y_assign rfl) trivial rfl rfl fun a hs => ?_
 refine wpList_nil ?_
 refine then_normal ?_
 refine wp_seq ?_
 refine wp_seq ?_
 refine wp_region_lit ?_
 refine st_val hs (y_move rfl) trivial rfl rfl fun a hs => ?_
 refine st_val hs (y_len Try.runUnderlying25 rfl) trivial rfl rfl fun a hs => ?_
 refine st_val hs (y_move rfl) trivial rfl rfl fun a hs => ?_
 refine wpList_nil ?_
 refine then_normal ?_
 refine wp_block ?_
 refine wp_while (fun sv97 a w => ∃ (Sv157 : Nat → Prop), Sl 31 [(0, .slice p2 l1.length k3), (5, .slice p2 l1.length k3), (6, .int .i64 (l1.length : Int)), (7, .int .i64 sv97)] a ∧ Wd ⟨w0, S0, []⟩ Sv157 [] [SlA p2 l1.length k3 l1] w) 0 hsh ⟨S0, (hs.wk rfl), (hw.ft [] [0] (by decide) rfl rfl)⟩ ?_
 repeat clear hsh
 rintro sv97 a w tv188 ⟨Sv157, hs, hw⟩ hsh hd187
 delta span_Valid_l2 at hsh
 refine wp_seq ?_
 refine wp_region_lit ?_
 refine st_val hs (y_lss rfl rfl) trivial rfl rfl fun a hs => ?_
 refine wpList_nil ?_
 refine then_normal ?_
 refine wp_seq ?_
 refine wp_cond_split (hs.ev rfl) (fun h192 => ?_) (fun h192 => ?_)
 ·have hsh := ite_t hsh h192
  refine wp_skip ?_
  refine then_normal ?_
  refine wp_seq ?_
  refine wp_block ?_
  refine wp_seq ?_
  refine wp_region_lit ?_
  refine st_val hs (y_move rfl) trivial rfl rfl fun a hs => ?_
  obtain ⟨x223, h221, hsh⟩ := bind_t hsh
  obtain ⟨b229, o230, q227, c228, h231, h224, h225, h226, h222⟩ := hw.elemV 0 rfl h221
  have hsv232 := hs
  have hwv233 := hw
  subst h231
  have hs := hsv232
  have hw := hwv233
  obtain ⟨_, _, rfl, rfl, rfl⟩ := h222
  have hw := hw.addE h226
  refine st_val hs (y_indexAt Try.runUnderlying25 Try.sizeOf34 rfl rfl h224.1 h224.2 h225) trivial rfl rfl fun a hs => ?_
  refine st_val hs (y_loadEA (j := 0) (hw.ceAt 0 rfl) rfl Try.isAgg34 Try.sizeOf34 rfl rfl) trivial rfl rfl fun a hs => ?_
  refine w_alloc (cs := [.int .i64 0, .int .i64 0]) hs hw Try.zeroValue34 rfl rfl trivial ?_
  intro b234 a w hs hw
  refine st_val hs (y_assign rfl) trivial rfl rfl fun a hs => ?_
  refine w_store (m := 2) (cs' := [.int .i64 x223.From, .int .i64 x223.To]) hs hw 0 rfl rfl rfl Try.sizeOf34 rfl rfl rfl rfl trivial ?_
  intro a w hs hw
  refine wpList_nil ?_
  refine then_normal ?_
  refine wp_seq ?_
  obtain ⟨rv236, h235, hsh⟩ := bind_t hsh
  obtain ⟨c246, hc246, hsh⟩ := bind_t hsh
  refine wp_only (fun a w => ∃ (Sv247 : Nat → Prop), Sl 31 [(0, .slice (some ⟨b229, o230, none⟩) l1.length k3), (5, .slice (some ⟨b229, o230, none⟩) l1.length k3), (6, .int .i64 (l1.length : Int)), (7, .int .i64 sv97), (29, .bool c246)] a ∧ Wd ⟨w0, S0, []⟩ Sv247 [] [SlA (some ⟨b229, o230, none⟩) l1.length k3 l1] w) ?_ ?_
  ·rcases Bool.eq_false_or_eq_true (!rv236) with h248 | h248
   ·have h249 := ite_t hc246 h248
    refine h_b (C := Cls [.box b234 [.int .i64 x223.From, .int .i64 x223.To] 34] [CeA b229 q227 [.int .i64 x223.From, .int .i64 x223.To]]) (by kernel_rfl) rfl (hw.drew.cs [0] [0] rfl rfl) fun hC => ?_
    have hw := hw.drew
    refine h_g hs 0 rfl (by kernel_rfl) rfl rfl hC rfl (fun w hC => y_loadBA (hC.ownAt 0 rfl) rfl Try.isAgg34 Try.sizeOf34 rfl rfl) fun a hs => ?_
    refine h_one (i := 1) (by kernel_rfl) rfl ?_
    refine st_callR hs (span_some_ok h235 hw.bdom) (do_call Try.call37 rfl) trivial rfl rfl ?_
    intro v253 Sv250 w a h251 h252 hs
    subst h252
    have hw := hw.callB h251
    refine h_nx (hw.cs [0] [0] rfl rfl) fun hC => ?_
    refine h_g hs 2 rfl (by kernel_rfl) rfl rfl hC rfl (fun w hC => y_not rfl) fun a hs => ?_
    refine h_g hs 3 rfl (by kernel_rfl) rfl rfl hC rfl (fun w hC => y_move rfl) fun a hs => ?_
    have hs := hs.fix 15 (.bool true) rfl (vb h248)
    refine h_s hs 4 rfl (by kernel_rfl) rfl rfl rfl (.inl rfl) rfl rfl hC fun a hs => ?_
    refine h_s hs 5 rfl (by kernel_rfl) rfl rfl rfl (.inl rfl) rfl rfl hC fun a hs => ?_
    refine h_s hs 6 rfl (by kernel_rfl) rfl rfl rfl (.inl rfl) rfl rfl hC fun a hs => ?_
    refine h_s hs 7 rfl (by kernel_rfl) rfl rfl rfl (.inr rfl) rfl rfl hC fun a hs => ?_
    refine h_s hs 8 rfl (by kernel_rfl) rfl rfl rfl (.inr rfl) rfl rfl hC fun a hs => ?_
    refine h_s hs 9 rfl (by kernel_rfl) rfl rfl rfl (.inr rfl) rfl rfl hC fun a hs => ?_
    refine h_s hs 10 rfl (by kernel_rfl) rfl rfl rfl (.inr rfl) rfl rfl hC fun a hs => ?_
    refine h_s hs 11 rfl (by kernel_rfl) rfl rfl rfl (.inr rfl) rfl rfl hC fun a hs => ?_
    refine h_s hs 12 rfl (by kernel_rfl) rfl rfl rfl (.inr rfl) rfl rfl hC fun a hs => ?_
    refine h_s hs 13 rfl (by kernel_rfl) rfl rfl rfl (.inr rfl) rfl rfl hC fun a hs => ?_
    refine h_s hs 14 rfl (by kernel_rfl) rfl rfl rfl (.inr rfl) rfl rfl hC fun a hs => ?_
    refine h_s hs 15 rfl (by kernel_rfl) rfl rfl rfl (.inr rfl) rfl rfl hC fun a hs => ?_
    refine h_s hs 16 rfl (by kernel_rfl) rfl rfl rfl (.inl rfl) rfl rfl hC fun a hs => ?_
    refine h_g hs 17 rfl (by kernel_rfl) rfl rfl hC rfl (fun w hC => y_pickTE (v := .bool c246) rfl rfl (vbs h249)) fun a hs => ?_
    refine h_done (by kernel_rfl) ?_
    exact ⟨Sv157, (hs.wk rfl), (hw.ft [] [1] (by decide) rfl rfl)⟩
   ·have h255 := ite_f hc246 h248
    obtain ⟨c264, hc264, h255⟩ := bind_t h255
    rcases Bool.eq_false_or_eq_true (decide (0 < sv97)) with h265 | h265
    ·have h266 := ite_t hc264 h265
     obtain ⟨x269, h267, h266⟩ := bind_t h266
     obtain ⟨q273, c274, h270, h271, h272, h268⟩ := hw.elemK 1 rfl h267
     obtain ⟨_, _, rfl, rfl, rfl⟩ := h268
     have hw := hw.addE h272
     refine h_b (C := Cls [.box b234 [.int .i64 x223.From, .int .i64 x223.To] 34] [CeA b229 q273 [.int .i64 x269.From, .int .i64 x269.To], CeA b229 q227 [.int .i64 x223.From, .int .i64 x223.To]]) (by kernel_rfl) rfl (hw.drew.cs [0] [0, 1] rfl rfl) fun hC => ?_
     have hw := hw.drew
     refine h_g hs 0 rfl (by kernel_rfl) rfl rfl hC rfl (fun w hC => y_loadBA (hC.ownAt 0 rfl) rfl Try.isAgg34 Try.sizeOf34 rfl rfl) fun a hs => ?_
     refine h_one (i := 1) (by kernel_rfl) rfl ?_
     refine st_callR hs (span_some_ok h235 hw.bdom) (do_call Try.call37 rfl) trivial rfl rfl ?_
     intro v278 Sv275 w a h276 h277 hs
     subst h277
     have hw := hw.callB h276
     refine h_nx (hw.cs [0] [0, 1] rfl rfl) fun hC => ?_
     refine h_g hs 2 rfl (by kernel_rfl) rfl rfl hC rfl (fun w hC => y_not rfl) fun a hs => ?_
     refine h_g hs 3 rfl (by kernel_rfl) rfl rfl hC rfl (fun w hC => y_move rfl) fun a hs => ?_
     have hs := hs.fix 15 (.bool false) rfl (vb h248)
     refine h_t hs 4 rfl (by kernel_rfl) ⟨_, rfl, rfl⟩ rfl rfl hC (fun w hC => y_move rfl) fun a hs => ?_
     refine h_t hs 5 rfl (by kernel_rfl) ⟨_, rfl, rfl⟩ rfl rfl hC (fun w hC => y_gtr rfl rfl) fun a hs => ?_
     refine h_t hs 6 rfl (by kernel_rfl) ⟨_, rfl, rfl⟩ rfl rfl hC (fun w hC => y_move rfl) fun a hs => ?_
     have hs := hs.fix 18 (.bool true) rfl (vb h265)
     refine h_t hs 7 rfl (by kernel_rfl) ⟨_, rfl, rfl⟩ rfl rfl hC (fun w hC => y_fieldAddr (o' := 0) Try.runUnderlying34 rfl Try.sizeOf3 rfl rfl rfl) fun a hs => ?_
     refine h_t hs 8 rfl (by kernel_rfl) ⟨_, rfl, rfl⟩ rfl rfl hC (fun w hC => y_loadB1 (hC.ownAt 0 rfl) rfl Try.isAgg3 rfl) fun a hs => ?_
     refine h_t hs 9 rfl (by kernel_rfl) ⟨_, rfl, rfl⟩ rfl rfl hC (fun w hC => y_move rfl) fun a hs => ?_
     refine h_t hs 10 rfl (by kernel_rfl) ⟨_, rfl, rfl⟩ rfl rfl hC (fun w hC => y_move rfl) fun a hs => ?_
     refine h_t hs 11 rfl (by kernel_rfl) ⟨_, rfl, rfl⟩ rfl rfl hC (fun w hC => y_sub rfl rfl) fun a hs => ?_
     refine h_t hs 12 rfl (by kernel_rfl) ⟨_, rfl, rfl⟩ rfl rfl hC (fun w hC => y_indexAt Try.runUnderlying25 Try.sizeOf34 rfl rfl h270.1 h270.2 h271) fun a hs => ?_
     refine h_t hs 13 rfl (by kernel_rfl) ⟨_, rfl, rfl⟩ rfl rfl hC (fun w hC => y_fieldAddr (o' := q273 + 1) Try.runUnderlying34 rfl Try.sizeOf3 rfl rfl rfl) fun a hs => ?_
     refine h_t hs 14 rfl (by kernel_rfl) ⟨_, rfl, rfl⟩ rfl rfl hC (fun w hC => y_loadE1 (j := 1) (hC.ceAt 0 rfl) rfl Try.isAgg3 rfl) fun a hs => ?_
     refine h_t hs 15 rfl (by kernel_rfl) ⟨_, rfl, rfl⟩ rfl rfl hC (fun w hC => y_leq rfl rfl) fun a hs => ?_
     refine h_t hs 16 rfl (by kernel_rfl) ⟨_, rfl, rfl⟩ rfl rfl hC (fun w hC => y_pickTE (v := .bool c264) rfl rfl (vbs h266)) fun a hs => ?_
     refine h_g hs 17 rfl (by kernel_rfl) rfl rfl hC rfl (fun w hC => y_pickFE (v := .bool c246) rfl rfl (vbs h255)) fun a hs => ?_
     refine h_done (by kernel_rfl) ?_
     exact ⟨Sv157, (hs.wk rfl), (hw.ft [] [2] (by decide) rfl rfl)⟩
    ·have h280 := ite_f hc264 h265
     refine h_b (C := Cls [.box b234 [.int .i64 x223.From, .int .i64 x223.To] 34] [CeA b229 q227 [.int .i64 x223.From, .int .i64 x223.To]]) (by kernel_rfl) rfl (hw.drew.cs [0] [0] rfl rfl) fun hC => ?_
     have hw := hw.drew
     refine h_g hs 0 rfl (by kernel_rfl) rfl rfl hC rfl (fun w hC => y_loadBA (hC.ownAt 0 rfl) rfl Try.isAgg34 Try.sizeOf34 rfl rfl) fun a hs => ?_
     refine h_one (i := 1) (by kernel_rfl) rfl ?_
     refine st_callR hs (span_some_ok h235 hw.bdom) (do_call Try.call37 rfl) trivial rfl rfl ?_
     intro v284 Sv281 w a h282 h283 hs
     subst h283
     have hw := hw.callB h282
     refine h_nx (hw.cs [0] [0] rfl rfl) fun hC => ?_
     refine h_g hs 2 rfl (by kernel_rfl) rfl rfl hC rfl (fun w hC => y_not rfl) fun a hs => ?_
     refine h_g hs 3 rfl (by kernel_rfl) rfl rfl hC rfl (fun w hC => y_move rfl) fun a hs => ?_
     have hs := hs.fix 15 (.bool false) rfl (vb h248)
     refine h_t hs 4 rfl (by kernel_rfl) ⟨_, rfl, rfl⟩ rfl rfl hC (fun w hC => y_move rfl) fun a hs => ?_
     refine h_t hs 5 rfl (by kernel_rfl) ⟨_, rfl, rfl⟩ rfl rfl hC (fun w hC => y_gtr rfl rfl) fun a hs => ?_
     refine h_t hs 6 rfl (by kernel_rfl) ⟨_, rfl, rfl⟩ rfl rfl hC (fun w hC => y_move rfl) fun a hs => ?_
     have hs := hs.fix 18 (.bool false) rfl (vb h265)
     refine h_s hs 7 rfl (by kernel_rfl) rfl rfl rfl (.inl rfl) rfl rfl hC fun a hs => ?_
     refine h_s hs 8 rfl (by kernel_rfl) rfl rfl rfl (.inl rfl) rfl rfl hC fun a hs => ?_
     refine h_s hs 9 rfl (by kernel_rfl) rfl rfl rfl (.inl rfl) rfl rfl hC fun a hs => ?_
     refine h_s hs 10 rfl (by kernel_rfl) rfl rfl rfl (.inl rfl) rfl rfl hC fun a hs => ?_
     refine h_s hs 11 rfl (by kernel_rfl) rfl rfl rfl (.inl rfl) rfl rfl hC fun a hs => ?_
     refine h_s hs 12 rfl (by kernel_rfl) rfl rfl rfl (.inl rfl) rfl rfl hC fun a hs => ?_
     refine h_s hs 13 rfl (by kernel_rfl) rfl rfl rfl (.inl rfl) rfl rfl hC fun a hs => ?_
     refine h_s hs 14 rfl (by kernel_rfl) rfl rfl rfl (.inl rfl) rfl rfl hC fun a hs => ?_
     refine h_s hs 15 rfl (by kernel_rfl) rfl rfl rfl (.inl rfl) rfl rfl hC fun a hs => ?_
     refine h_t hs 16 rfl (by kernel_rfl) ⟨_, rfl, rfl⟩ rfl rfl hC (fun w hC => y_pickFE (v := .bool c264) rfl rfl (vbs h280)) fun a hs => ?_
     refine h_g hs 17 rfl (by kernel_rfl) rfl rfl hC rfl (fun w hC => y_pickFE (v := .bool c246) rfl rfl (vbs h255)) fun a hs => ?_
     refine h_done (by kernel_rfl) ?_
     exact ⟨Sv157, (hs.wk rfl), (hw.ft [] [1] (by decide) rfl rfl)⟩
  ·rintro a w ⟨Sv247, hs, hw⟩
   refine then_normal ?_
   refine wp_cond_split (hs.ev rfl) (fun h287 => ?_) (fun h287 => ?_)
   ·have hsh := ite_t hsh h287
    refine wp_seq ?_
    refine wp_region_lit ?_
    refine st_val hs (y_assign rfl) trivial rfl rfl fun a hs => ?_
    refine wpList_nil ?_
    refine then_normal ?_
    have hsh := Option.some.inj hsh
    subst hsh
    have h288 := hd187 _ rfl
    subst h288
    refine wp_ret ?_
    refine blk_ret ?_
    refine then_ret ?_
    refine then_ret ?_
    refine blk_ret ?_
    refine then_ret ?_
    exact ret1 hs rfl (rv_tmp rfl) (hw.ret rfl)
   ·have hsh := ite_f hsh h287
    refine wp_skip ?_
    refine blk_normal ?_
    refine then_normal ?_
    refine wp_region_lit ?_
    refine st_val hs (y_add rfl rfl) trivial rfl rfl fun a hs => ?_
    refine st_val hs (y_move rfl) trivial rfl rfl fun a hs => ?_
    refine wpList_nil ?_
    refine then_normal ?_
    exact ⟨_, (Option.some.inj hsh).symm, Sv247, (hs.wk rfl), (hw.ft [] [0] (by decide) rfl rfl)⟩
 ·have hsh := ite_f hsh h192
  obtain ⟨rv289, hsh, h290⟩ := map_t hsh
  have h290 := (hd187 _ h290.symm).symm
  subst h290
  refine wp_exit ?_
  refine then_exit ?_
  refine then_exit ?_
  refine blk_exit ?_
  refine then_normal ?_
  refine wp_seq ?_
  refine wp_region_lit ?_
  refine st_val hs (y_assign rfl) trivial rfl rfl fun a hs => ?_
  refine wpList_nil ?_
  refine then_normal ?_
  have hsh := Option.some.inj hsh
  subst hsh
  refine wp_ret ?_
  exact ret1 hs rfl (rv_tmp rfl) (hw.ret rfl)

abbrev law08_sane_rd (w0 : World) (X : List Nat) (r : Bool) : (Nat → Prop) → World → Value → Prop := fun S w v => v = .bool r
set_option maxHeartbeats 4000000 in
set_option maxRecDepth 100000 in
theorem law08_sane_ok {w0 : World} {S0 : Nat → Prop} {r : Bool} (hsh : law08_sane = some r) (hS : ∀ b, S0 b → b < w0.heap.size) : Calls Try.prog 8 #[] w0 (Ret ([]) w0 S0 (law08_sane_rd w0 ([]) r)) := by
 refine calls_of_wp Try.func8 rfl ?_
 have hs := Sl.enter #[] 25 [] rfl trivial
 have hw := Wd.enter (E := []) hS (fun _ h => (by cases h))
 delta law08_sane at hsh
 refine wp_seq ?_
 refine wp_region_lit ?_
 refine st_val hs (y_assign rfl) trivial rfl rfl fun a hs => ?_
 refine wpList_nil ?_
 refine then_normal ?_
 refine wp_seq ?_
 refine wp_region_lit ?_
 refine st_val hs (y_build (vs := [(0, .int .i64 5), (1, .int .i64 7)]) Bld34 rfl rfl) trivial rfl rfl fun a hs => ?_
 refine st_val hs (y_build (vs := [(0, .int .i64 1), (1, .int .i64 3)]) Bld34 rfl rfl) trivial rfl rfl fun a hs => ?_
 refine st_val hs (y_build (vs := [(0, .int .i64 3), (1, .int .i64 4)]) Bld34 rfl rfl) trivial rfl rfl fun a hs => ?_
 refine st_val hs (y_build (vs := [(0, .int .i64 9), (1, .int .i64 9)]) Bld34 rfl rfl) trivial rfl rfl fun a hs => ?_
 refine w_litSlice (α := Span) (vs := [.agg #[.int .i64 5, .int .i64 7], .agg #[.int .i64 1, .int .i64 3], .agg #[.int .i64 3, .int .i64 4], .agg #[.int .i64 9, .int .i64 9]]) (cs := [.int .i64 5, .int .i64 7, .int .i64 1, .int .i64 3, .int .i64 3, .int .i64 4, .int .i64 9, .int .i64 9]) (xs := ([(⟨5, 7⟩ : Span), (⟨1, 3⟩ : Span), (⟨3, 4⟩ : Span), (⟨9, 9⟩ : Span)] : List Span)) hs hw El25 rfl rfl rfl rfl rfl rfl ⟨⟨_, _, rfl, rfl, rfl⟩, ⟨⟨_, _, rfl, rfl, rfl⟩, ⟨⟨_, _, rfl, rfl, rfl⟩, ⟨⟨_, _, rfl, rfl, rfl⟩, rfl⟩⟩⟩⟩ rfl trivial rfl fun b2 a w hs hw => ?_
 obtain ⟨rv4, h3, hsh⟩ := bind_t hsh
 obtain ⟨Sv9, hw⟩ := w_share (α := Span) hw 0 rfl 0 rfl
 refine st_callR hs (span_Normal_ok h3 hw.dom (hw.envAt 0 rfl)) (do_call Try.call16 rfl) trivial rfl rfl ?_
 intro v13 Sv10 w a h11 h12 hs
 obtain ⟨p5, k6, c8, rfl, h14, h7⟩ := h12
 have hw := hw.callN h11 h14
 have hw := hw.addE (e := RowA c8 rv4) h7
 refine st_val hs (y_assign rfl) trivial rfl rfl fun a hs => ?_
 refine wpList_nil ?_
 refine then_normal ?_
 refine wp_seq ?_
 refine wp_region_lit ?_
 refine st_val hs (y_move rfl) trivial rfl rfl fun a hs => ?_
 refine st_val hs (y_build (vs := [(0, .int .i64 1), (1, .int .i64 4)]) Bld34 rfl rfl) trivial rfl rfl fun a hs => ?_
 refine st_val hs (y_build (vs := [(0, .int .i64 5), (1, .int .i64 7)]) Bld34 rfl rfl) trivial rfl rfl fun a hs => ?_
 refine w_litSlice (α := Span) (vs := [.agg #[.int .i64 1, .int .i64 4], .agg #[.int .i64 5, .int .i64 7]]) (cs := [.int .i64 1, .int .i64 4, .int .i64 5, .int .i64 7]) (xs := ([(⟨1, 4⟩ : Span), (⟨5, 7⟩ : Span)] : List Span)) hs hw El25 rfl rfl rfl rfl rfl rfl ⟨⟨_, _, rfl, rfl, rfl⟩, ⟨⟨_, _, rfl, rfl, rfl⟩, rfl⟩⟩ rfl trivial rfl fun b16 a w hs hw => ?_
 obtain ⟨rv18, h17, hsh⟩ := bind_t hsh
 refine st_callR hs (ref08_Same_ok h17 hw.bdom (hw.bRow 1 rfl 1 rfl) (hw.bRow 0 rfl 0 rfl)) (do_call Try.call15 rfl) trivial rfl rfl ?_
 intro v22 Sv19 w a h20 h21 hs
 subst h21
 have hw := hw.callB h20
 refine st_val hs (y_move rfl) trivial rfl rfl fun a hs => ?_
 obtain ⟨c46, hc46, hsh⟩ := bind_t hsh
 refine wpl_join 7 (fun a w => ∃ (Sv47 : Nat → Prop), Sl 25 [(1, .slice p5 rv4.length k6), (20, .bool c46)] a ∧ Wd ⟨w0, S0, []⟩ Sv47 [] [SlA p5 rv4.length k6 rv4] w) ?_ ?_
 ·rcases Bool.eq_false_or_eq_true rv18 with h45 | h45
  ·have hs := hs.fix 13 (.bool true) rfl (vb h45)
   have hsh := ite_t hc46 h45
   refine st_val hs (y_move rfl) ⟨_, rfl, rfl⟩ rfl rfl fun a hs => ?_
   obtain ⟨rv49, h48, hsh⟩ := bind_t hsh
   obtain ⟨Sv54, hw⟩ := w_share (α := Span) hw 1 rfl 1 rfl
   refine st_callR hs (span_First_ok h48 hw.dom (hw.envAt 0 rfl)) (do_call Try.call12 rfl) ⟨_, rfl, rfl⟩ rfl rfl ?_
   intro v58 Sv55 w a h56 h57 hs
   obtain ⟨p50, k51, c53, rfl, h59, h52⟩ := h57
   have hw := hw.callN h56 h59
   have hw := hw.addE (e := RowA c53 rv49) h52
   refine st_val hs (y_build (vs := [(0, .int .i64 1), (1, .int .i64 4)]) Bld34 rfl rfl) ⟨_, rfl, rfl⟩ rfl rfl fun a hs => ?_
   refine st_val hs (y_build (vs := [(0, .int .i64 5), (1, .int .i64 6)]) Bld34 rfl rfl) ⟨_, rfl, rfl⟩ rfl rfl fun a hs => ?_
   refine w_litSlice (α := Span) (vs := [.agg #[.int .i64 1, .int .i64 4], .agg #[.int .i64 5, .int .i64 6]]) (cs := [.int .i64 1, .int .i64 4, .int .i64 5, .int .i64 6]) (xs := ([(⟨1, 4⟩ : Span), (⟨5, 6⟩ : Span)] : List Span)) hs hw El25 rfl rfl rfl rfl rfl rfl ⟨⟨_, _, rfl, rfl, rfl⟩, ⟨⟨_, _, rfl, rfl, rfl⟩, rfl⟩⟩ rfl ⟨_, rfl, rfl⟩ rfl fun b61 a w hs hw => ?_
   obtain ⟨rv63, h62, hsh⟩ := bind_t hsh
   refine st_callR hs (ref08_Same_ok h62 hw.bdom (hw.bRow 1 rfl 1 rfl) (hw.bRow 0 rfl 0 rfl)) (do_call Try.call15 rfl) ⟨_, rfl, rfl⟩ rfl rfl ?_
   intro v67 Sv64 w a h65 h66 hs
   subst h66
   have hw := hw.callB h65
   refine st_val hs (y_pickT rfl rfl) trivial rfl rfl fun a hs => ?_
   refine wpList_nil ?_
   have hsh := Option.some.inj hsh
   subst hsh
   refine then_normal ?_
   exact ⟨Sv55, (hs.wk rfl), (hw.ft [] [2] (by decide) rfl rfl)⟩
  ·have hs := hs.fix 13 (.bool false) rfl (vb h45)
   have hsh := ite_f hc46 h45
   refine st_skip hs rfl rfl rfl rfl rfl fun a hs => ?_
   refine st_skip hs rfl rfl rfl rfl rfl fun a hs => ?_
   refine st_skip hs rfl rfl rfl rfl rfl fun a hs => ?_
   refine st_skip hs rfl rfl rfl rfl rfl fun a hs => ?_
   refine st_skip hs rfl rfl rfl rfl rfl fun a hs => ?_
   refine st_skip hs rfl rfl rfl rfl rfl fun a hs => ?_
   refine st_val hs (y_pickF rfl rfl) trivial rfl rfl fun a hs => ?_
   refine wpList_nil ?_
   obtain ⟨Sv69, hw⟩ := w_share (α := Span) hw 1 rfl 1 rfl
   have hsh := Option.some.inj hsh
   subst hsh
   refine then_normal ?_
   exact ⟨Sv69, (hs.wk rfl), (hw.ft [] [0] (by decide) rfl rfl)⟩
 ·rintro a w ⟨Sv47, hs, hw⟩
  refine st_val hs (y_move rfl) trivial rfl rfl fun a hs => ?_
  obtain ⟨c78, hc78, hsh⟩ := bind_t hsh
  refine wpl_join 3 (fun a w => ∃ (Sv79 : Nat → Prop), Sl 25 [(24, .bool c78)] a ∧ Wd ⟨w0, S0, []⟩ Sv79 [] [] w) ?_ ?_
  ·rcases Bool.eq_false_or_eq_true c46 with h77 | h77
   ·have hs := hs.fix 21 (.bool true) rfl (vb h77)
    have hsh := ite_t hc78 h77
    refine st_val hs (y_move rfl) ⟨_, rfl, rfl⟩ rfl rfl fun a hs => ?_
    obtain ⟨rv81, h80, hsh⟩ := bind_t hsh
    refine st_callR hs (span_Valid_ok h80 hw.bdom (hw.bE 0 rfl)) (do_call Try.call21 rfl) ⟨_, rfl, rfl⟩ rfl rfl ?_
    intro v85 Sv82 w a h83 h84 hs
    subst h84
    have hw := hw.callB h83
    refine st_val hs (y_pickT rfl rfl) trivial rfl rfl fun a hs => ?_
    refine wpList_nil ?_
    have hsh := Option.some.inj hsh
    subst hsh
    refine then_normal ?_
    exact ⟨Sv47, (hs.wk rfl), (hw.ft [] [] (by decide) rfl rfl)⟩
   ·have hs := hs.fix 21 (.bool false) rfl (vb h77)
    have hsh := ite_f hc78 h77
    refine st_skip hs rfl rfl rfl rfl rfl fun a hs => ?_
    refine st_skip hs rfl rfl rfl rfl rfl fun a hs => ?_
    refine st_val hs (y_pickF rfl rfl) trivial rfl rfl fun a hs => ?_
    refine wpList_nil ?_
    have hsh := Option.some.inj hsh
    subst hsh
    refine then_normal ?_
    exact ⟨Sv47, (hs.wk rfl), (hw.ft [] [] (by decide) rfl rfl)⟩
  ·rintro a w ⟨Sv79, hs, hw⟩
   refine st_val hs (y_assign rfl) trivial rfl rfl fun a hs => ?_
   refine wpList_nil ?_
   refine then_normal ?_
   have hsh := Option.some.inj hsh
   subst hsh
   refine wp_ret ?_
   exact ret1 hs rfl (rv_tmp rfl) (hw.ret rfl)

abbrev made_Roll_rd (w0 : World) (X : List Nat) (r : Dice) : (Nat → Prop) → World → Value → Prop := fun S w v => ∃ (b_0 : Nat) (p0_0 : Option Addr) (k0_0 : Nat), v = .pointer (some ⟨b_0, 0, none⟩) ∧ Outs X w0 S w [.box b_0 [.slice p0_0 r.L.length k0_0, .int .i64 r.At] 50] ∧ (SlA p0_0 r.L.length k0_0 r.L).p S w
set_option maxHeartbeats 4000000 in
set_option maxRecDepth 100000 in
theorem made_Roll_ok {w0 : World} {S0 : Nat → Prop} {p2 : Option Addr} {k3 : Nat} {l1 : (List Int)} {r : Dice} (hsh : made_Roll l1 = some r) (hS : ∀ b, S0 b → b < w0.heap.size) (h4 : (SlA p2 l1.length k3 l1).p S0 w0) : Calls Try.prog 9 #[.slice p2 l1.length k3] w0 (Ret ([]) w0 S0 (made_Roll_rd w0 ([]) r)) := by
 refine calls_of_wp Try.func9 rfl ?_
 have hs := Sl.enter #[.slice p2 l1.length k3] 6 [(0, .slice p2 l1.length k3)] rfl ⟨rfl, trivial⟩
 have hw := Wd.enter (E := []) hS (fun _ h => (by cases h))
 have hw := hw.addE h4
 delta made_Roll at hsh
 refine wp_seq ?_
 refine wp_region_lit ?_
 refine st_val hs (y_assign rfl) trivial rfl rfl fun a hs => ?_
 refine wpList_nil ?_
 refine then_normal ?_
 refine wp_seq ?_
 refine wp_region_lit ?_
 refine st_val hs (y_move rfl) trivial rfl rfl fun a hs => ?_
 refine st_val hs (y_build (vs := [(0, .slice p2 l1.length k3)]) Bld50 rfl rfl) trivial rfl rfl fun a hs => ?_
 refine w_box (cs := [.slice p2 l1.length k3, .int .i64 0]) hs hw rfl rfl rfl trivial ?_
 intro b5 a w hs hw
 refine st_val hs (y_assign rfl) trivial rfl rfl fun a hs => ?_
 refine wpList_nil ?_
 refine then_normal ?_
 have hsh := Option.some.inj hsh
 subst hsh
 refine wp_ret ?_
 exact ret1 hs rfl (rv_tmp rfl) (hw.ret ⟨b5, p2, k3, rfl, (hw.outs [0] (by decide) rfl), (hw.envAt 0 rfl)⟩)

abbrev made_Dice_Next_rd (w0 : World) (X : List Nat) (b2 : Nat) (r : (Int × Dice)) : (Nat → Prop) → World → Value → Prop := fun S w v => ∃ (pq0_0 : Option Addr) (kq0_0 : Nat), v = .int .i64 r.1 ∧ Outs X w0 S w [.box b2 [.slice pq0_0 r.2.L.length kq0_0, .int .i64 r.2.At] 50] ∧ (SlA pq0_0 r.2.L.length kq0_0 r.2.L).p S w
set_option maxHeartbeats 4000000 in
set_option maxRecDepth 100000 in
theorem made_Dice_Next_ok {w0 : World} {S0 : Nat → Prop} {b2 : Nat} {p3 : Option Addr} {k4 : Nat} {d1 : Dice} {n6 : Int} {r : (Int × Dice)} (hsh : made_Dice_Next d1 n6 = some r) (hS : ∀ b, S0 b → b < w0.heap.size) (hin : Ins S0 w0 [.box b2 [.slice p3 d1.L.length k4, .int .i64 d1.At] 50]) (h5 : (SlA p3 d1.L.length k4 d1.L).p S0 w0) : Calls Try.prog 28 #[.pointer (some ⟨b2, 0, none⟩), .int .i64 n6] w0 (Ret (blks [.box b2 [.slice p3 d1.L.length k4, .int .i64 d1.At] 50]) w0 S0 (made_Dice_Next_rd w0 (blks [.box b2 [.slice p3 d1.L.length k4, .int .i64 d1.At] 50]) b2 r)) := by
 refine calls_of_wp Try.func28 rfl ?_
 have hs := Sl.enter #[.pointer (some ⟨b2, 0, none⟩), .int .i64 n6] 45 [(0, .pointer (some ⟨b2, 0, none⟩)), (1, .int .i64 n6)] rfl ⟨rfl, rfl, trivial⟩
 have hw := Wd.enterI hS hin
 have hw := hw.addE h5
 delta made_Dice_Next at hsh
 refine wp_seq ?_
 refine wp_region_lit ?_
 refine st_val hs (y_assign rfl) trivial rfl rfl fun a hs => ?_
 refine wpList_nil ?_
 refine then_normal ?_
 refine wp_seq ?_
 refine wp_seq ?_
 refine wp_only (fun a w => ∃ (Sv7 : Nat → Prop), Sl 45 [(0, .pointer (some ⟨b2, 0, none⟩)), (1, .int .i64 n6), (19, .bool ((decide ((d1.L.length : Int) ≤ d1.At)) || (decide (n6 < 1))))] a ∧ Wd ⟨w0, S0, blks [.box b2 [.slice p3 d1.L.length k4, .int .i64 d1.At] 50]⟩ Sv7 [.box b2 [.slice p3 d1.L.length k4, .int .i64 d1.At] 50] [SlA p3 d1.L.length k4 d1.L] w) ?_ ?_
 ·rcases Bool.eq_false_or_eq_true (decide ((d1.L.length : Int) ≤ d1.At)) with h8 | h8
  ·refine h_b (C := Cls [.box b2 [.slice p3 d1.L.length k4, .int .i64 d1.At] 50] []) (by kernel_rfl) rfl (hw.drew.cs [0] [] rfl rfl) fun hC => ?_
   have hw := hw.drew
   refine h_g hs 0 rfl (by kernel_rfl) rfl rfl hC rfl (fun w hC => y_move rfl) fun a hs => ?_
   refine h_g hs 1 rfl (by kernel_rfl) rfl rfl hC rfl (fun w hC => y_nilCheck rfl) fun a hs => ?_
   refine h_g hs 2 rfl (by kernel_rfl) rfl rfl hC rfl (fun w hC => y_fieldAddr (o' := 1) Try.runUnderlying50 rfl Try.sizeOf3 rfl rfl rfl) fun a hs => ?_
   refine h_g hs 3 rfl (by kernel_rfl) rfl rfl hC rfl (fun w hC => y_loadB1 (hC.ownAt 0 rfl) rfl Try.isAgg3 rfl) fun a hs => ?_
   refine h_g hs 4 rfl (by kernel_rfl) rfl rfl hC rfl (fun w hC => y_move rfl) fun a hs => ?_
   refine h_g hs 5 rfl (by kernel_rfl) rfl rfl hC rfl (fun w hC => y_nilCheck rfl) fun a hs => ?_
   refine h_g hs 6 rfl (by kernel_rfl) rfl rfl hC rfl (fun w hC => y_fieldAddr (o' := 0) Try.runUnderlying50 rfl Try.sizeOf22 rfl rfl rfl) fun a hs => ?_
   refine h_g hs 7 rfl (by kernel_rfl) rfl rfl hC rfl (fun w hC => y_loadB1 (hC.ownAt 0 rfl) rfl Try.isAgg22 rfl) fun a hs => ?_
   refine h_g hs 8 rfl (by kernel_rfl) rfl rfl hC rfl (fun w hC => y_len Try.runUnderlying22 rfl) fun a hs => ?_
   refine h_g hs 9 rfl (by kernel_rfl) rfl rfl hC rfl (fun w hC => y_geq rfl rfl) fun a hs => ?_
   refine h_g hs 10 rfl (by kernel_rfl) rfl rfl hC rfl (fun w hC => y_move rfl) fun a hs => ?_
   have hs := hs.fix 16 (.bool true) rfl (vb h8)
   refine h_s hs 11 rfl (by kernel_rfl) rfl rfl rfl (.inl rfl) rfl rfl hC fun a hs => ?_
   refine h_s hs 12 rfl (by kernel_rfl) rfl rfl rfl (.inl rfl) rfl rfl hC fun a hs => ?_
   refine h_g hs 13 rfl (by kernel_rfl) rfl rfl hC rfl (fun w hC => y_pickTE (v := .bool ((decide ((d1.L.length : Int) ≤ d1.At)) || (decide (n6 < 1)))) rfl rfl (or_t h8)) fun a hs => ?_
   refine h_done (by kernel_rfl) ?_
   exact ⟨S0, (hs.wk rfl), (hw.ft [0] [0] (by decide) rfl rfl)⟩
  ·refine h_b (C := Cls [.box b2 [.slice p3 d1.L.length k4, .int .i64 d1.At] 50] []) (by kernel_rfl) rfl (hw.drew.cs [0] [] rfl rfl) fun hC => ?_
   have hw := hw.drew
   refine h_g hs 0 rfl (by kernel_rfl) rfl rfl hC rfl (fun w hC => y_move rfl) fun a hs => ?_
   refine h_g hs 1 rfl (by kernel_rfl) rfl rfl hC rfl (fun w hC => y_nilCheck rfl) fun a hs => ?_
   refine h_g hs 2 rfl (by kernel_rfl) rfl rfl hC rfl (fun w hC => y_fieldAddr (o' := 1) Try.runUnderlying50 rfl Try.sizeOf3 rfl rfl rfl) fun a hs => ?_
   refine h_g hs 3 rfl (by kernel_rfl) rfl rfl hC rfl (fun w hC => y_loadB1 (hC.ownAt 0 rfl) rfl Try.isAgg3 rfl) fun a hs => ?_
   refine h_g hs 4 rfl (by kernel_rfl) rfl rfl hC rfl (fun w hC => y_move rfl) fun a hs => ?_
   refine h_g hs 5 rfl (by kernel_rfl) rfl rfl hC rfl (fun w hC => y_nilCheck rfl) fun a hs => ?_
   refine h_g hs 6 rfl (by kernel_rfl) rfl rfl hC rfl (fun w hC => y_fieldAddr (o' := 0) Try.runUnderlying50 rfl Try.sizeOf22 rfl rfl rfl) fun a hs => ?_
   refine h_g hs 7 rfl (by kernel_rfl) rfl rfl hC rfl (fun w hC => y_loadB1 (hC.ownAt 0 rfl) rfl Try.isAgg22 rfl) fun a hs => ?_
   refine h_g hs 8 rfl (by kernel_rfl) rfl rfl hC rfl (fun w hC => y_len Try.runUnderlying22 rfl) fun a hs => ?_
   refine h_g hs 9 rfl (by kernel_rfl) rfl rfl hC rfl (fun w hC => y_geq rfl rfl) fun a hs => ?_
   refine h_g hs 10 rfl (by kernel_rfl) rfl rfl hC rfl (fun w hC => y_move rfl) fun a hs => ?_
   have hs := hs.fix 16 (.bool false) rfl (vb h8)
   refine h_t hs 11 rfl (by kernel_rfl) ⟨_, rfl, rfl⟩ rfl rfl hC (fun w hC => y_move rfl) fun a hs => ?_
   refine h_t hs 12 rfl (by kernel_rfl) ⟨_, rfl, rfl⟩ rfl rfl hC (fun w hC => y_lss rfl rfl) fun a hs => ?_
   refine h_g hs 13 rfl (by kernel_rfl) rfl rfl hC rfl (fun w hC => y_pickFE (v := .bool ((decide ((d1.L.length : Int) ≤ d1.At)) || (decide (n6 < 1)))) rfl rfl (or_f h8)) fun a hs => ?_
   refine h_done (by kernel_rfl) ?_
   exact ⟨S0, (hs.wk rfl), (hw.ft [0] [0] (by decide) rfl rfl)⟩
 ·rintro a w ⟨Sv7, hs, hw⟩
  refine then_normal ?_
  refine wp_cond_split (hs.ev rfl) (fun h12 => ?_) (fun h12 => ?_)
  ·have hsh := ite_t hsh h12
   refine wp_seq ?_
   refine wp_region_lit ?_
   refine st_val hs (y_assign rfl) trivial rfl rfl fun a hs => ?_
   refine wpList_nil ?_
   refine then_normal ?_
   have hsh := Option.some.inj hsh
   subst hsh
   refine wp_ret ?_
   refine then_ret ?_
   exact ret1 hs rfl (rv_tmp rfl) (hw.ret ⟨p3, k4, rfl, (hw.outs [0] (by decide) rfl), (hw.envAt 0 rfl)⟩)
  ·have hsh := ite_f hsh h12
   refine wp_skip ?_
   refine then_normal ?_
   refine wp_seq ?_
   obtain ⟨x15, h13, hsh⟩ := bind_t hsh
   obtain ⟨b21, o22, q19, c20, h23, h16, h17, h18, h14⟩ := hw.elemV 0 rfl h13
   have hsv24 := hs
   have hwv25 := hw
   subst h23
   have hs := hsv24
   have hw := hwv25
   obtain ⟨_, rfl, rfl⟩ := h14
   have hw := hw.addE h18
   obtain ⟨rem27, h26, hsh⟩ := bind_t hsh
   refine wp_only (fun a w => ∃ (Sv28 : Nat → Prop), Sl 45 [(0, .pointer (some ⟨b2, 0, none⟩)), (1, .int .i64 n6), (5, .int .i64 rem27)] a ∧ Wd ⟨w0, S0, blks [.box b2 [.slice (some ⟨b21, o22, none⟩) d1.L.length k4, .int .i64 d1.At] 50]⟩ Sv28 [.box b2 [.slice (some ⟨b21, o22, none⟩) d1.L.length k4, .int .i64 d1.At] 50] [SlA (some ⟨b21, o22, none⟩) d1.L.length k4 d1.L] w) ?_ ?_
   ·refine h_b (C := Cls [.box b2 [.slice (some ⟨b21, o22, none⟩) d1.L.length k4, .int .i64 d1.At] 50] [CeA b21 q19 [.int .i64 x15]]) (by kernel_rfl) rfl (hw.drew.cs [0] [0] rfl rfl) fun hC => ?_
    have hw := hw.drew
    refine h_g hs 0 rfl (by kernel_rfl) rfl rfl hC rfl (fun w hC => y_move rfl) fun a hs => ?_
    refine h_g hs 1 rfl (by kernel_rfl) rfl rfl hC rfl (fun w hC => y_nilCheck rfl) fun a hs => ?_
    refine h_g hs 2 rfl (by kernel_rfl) rfl rfl hC rfl (fun w hC => y_fieldAddr (o' := 0) Try.runUnderlying50 rfl Try.sizeOf22 rfl rfl rfl) fun a hs => ?_
    refine h_g hs 3 rfl (by kernel_rfl) rfl rfl hC rfl (fun w hC => y_loadB1 (hC.ownAt 0 rfl) rfl Try.isAgg22 rfl) fun a hs => ?_
    refine h_g hs 4 rfl (by kernel_rfl) rfl rfl hC rfl (fun w hC => y_move rfl) fun a hs => ?_
    refine h_g hs 5 rfl (by kernel_rfl) rfl rfl hC rfl (fun w hC => y_nilCheck rfl) fun a hs => ?_
    refine h_g hs 6 rfl (by kernel_rfl) rfl rfl hC rfl (fun w hC => y_fieldAddr (o' := 1) Try.runUnderlying50 rfl Try.sizeOf3 rfl rfl rfl) fun a hs => ?_
    refine h_g hs 7 rfl (by kernel_rfl) rfl rfl hC rfl (fun w hC => y_loadB1 (hC.ownAt 0 rfl) rfl Try.isAgg3 rfl) fun a hs => ?_
    refine h_g hs 8 rfl (by kernel_rfl) rfl rfl hC rfl (fun w hC => y_indexAt Try.runUnderlying22 Try.sizeOf3 rfl rfl h16.1 h16.2 h17) fun a hs => ?_
    refine h_g hs 9 rfl (by kernel_rfl) rfl rfl hC rfl (fun w hC => y_loadE1 (j := 0) (hC.ceAt 0 rfl) rfl Try.isAgg3 rfl) fun a hs => ?_
    refine h_g hs 10 rfl (by kernel_rfl) rfl rfl hC rfl (fun w hC => y_move rfl) fun a hs => ?_
    refine h_g hs 11 rfl (by kernel_rfl) rfl rfl hC rfl (fun w hC => y_remM rfl rfl h26) fun a hs => ?_
    refine h_g hs 12 rfl (by kernel_rfl) rfl rfl hC rfl (fun w hC => y_assign rfl) fun a hs => ?_
    refine h_done (by kernel_rfl) ?_
    exact ⟨Sv7, (hs.wk rfl), (hw.ft [0] [1] (by decide) rfl rfl)⟩
   ·rintro a w ⟨Sv28, hs, hw⟩
    refine then_normal ?_
    refine wp_seq ?_
    refine wp_region_lit ?_
    refine st_val hs (y_move rfl) trivial rfl rfl fun a hs => ?_
    refine st_val hs (y_nilCheck rfl) trivial rfl rfl fun a hs => ?_
    refine st_val hs (y_fieldAddr (o' := 1) Try.runUnderlying50 rfl Try.sizeOf3 rfl rfl rfl) trivial rfl rfl fun a hs => ?_
    refine st_val hs (y_loadB1 (hw.ownAt 0 rfl) rfl Try.isAgg3 rfl) trivial rfl rfl fun a hs => ?_
    refine st_val hs (y_add rfl rfl) trivial rfl rfl fun a hs => ?_
    refine st_val hs (y_nilCheck rfl) trivial rfl rfl fun a hs => ?_
    refine st_val hs (y_fieldAddr (o' := 1) Try.runUnderlying50 rfl Try.sizeOf3 rfl rfl rfl) trivial rfl rfl fun a hs => ?_
    refine w_store (m := 1) (cs' := [.slice (some ⟨b21, o22, none⟩) d1.L.length k4, .int .i64 (w64 (d1.At + 1))]) hs hw 0 rfl rfl rfl Try.sizeOf3 rfl rfl rfl rfl trivial ?_
    intro a w hs hw
    refine wpList_nil ?_
    refine then_normal ?_
    refine wp_seq ?_
    refine wp_seq ?_
    refine wp_region_lit ?_
    refine st_val hs (y_move rfl) trivial rfl rfl fun a hs => ?_
    refine st_val hs (y_lss rfl rfl) trivial rfl rfl fun a hs => ?_
    refine wpList_nil ?_
    refine then_normal ?_
    refine wp_join (fun a w => ∃ (x33 : Int) (Sv32 : Nat → Prop), made_Dice_Next_j1 d1 x33 = some r ∧ Sl 45 [(5, .int .i64 x33)] a ∧ Wd ⟨w0, S0, blks [.box b2 [.slice (some ⟨b21, o22, none⟩) d1.L.length k4, .int .i64 d1.At] 50]⟩ Sv32 [.box b2 [.slice (some ⟨b21, o22, none⟩) d1.L.length k4, .int .i64 (w64 (d1.At + 1))] 50] [SlA (some ⟨b21, o22, none⟩) d1.L.length k4 d1.L] w) ?_ ?_
    ·refine wp_cond_split (hs.ev rfl) (fun h34 => ?_) (fun h34 => ?_)
     ·have hsh := ite_t hsh h34
      refine wp_region_lit ?_
      refine st_val hs (y_move rfl) trivial rfl rfl fun a hs => ?_
      refine st_val hs (y_move rfl) trivial rfl rfl fun a hs => ?_
      refine st_val hs (y_add rfl rfl) trivial rfl rfl fun a hs => ?_
      obtain ⟨x36, h35, hsh⟩ := bind_t hsh
      refine st_val hs (y_assignI rfl h35) trivial rfl rfl fun a hs => ?_
      refine wpList_nil ?_
      refine then_normal ?_
      exact ⟨x36, Sv28, hsh, (hs.wk rfl), (hw.ft [0] [0] (by decide) rfl rfl)⟩
     ·have hsh := ite_f hsh h34
      refine wp_skip ?_
      refine then_normal ?_
      exact ⟨rem27, Sv28, hsh, (hs.wk rfl), (hw.ft [0] [0] (by decide) rfl rfl)⟩
    ·rintro a w ⟨x33, Sv32, hsh, hs, hw⟩
     delta made_Dice_Next_j1 at hsh
     refine then_normal ?_
     refine wp_seq ?_
     refine wp_region_lit ?_
     refine st_val hs (y_move rfl) trivial rfl rfl fun a hs => ?_
     refine st_val hs (y_assign rfl) trivial rfl rfl fun a hs => ?_
     refine wpList_nil ?_
     refine then_normal ?_
     have hsh := Option.some.inj hsh
     subst hsh
     refine wp_ret ?_
     exact ret1 hs rfl (rv_tmp rfl) (hw.ret ⟨(some ⟨b21, o22, none⟩), k4, rfl, (hw.outs [0] (by decide) rfl), (hw.envAt 0 rfl)⟩)

abbrev made_Dice_Spans_rd (w0 : World) (X : List Nat) (b2 : Nat) (r : ((List Span) × Dice)) : (Nat → Prop) → World → Value → Prop := fun S w v => ∃ (p0_0 : Option Addr) (k0_0 : Nat) (c0_0 : List Value) (pq0_0 : Option Addr) (kq0_0 : Nat), v = .slice p0_0 r.1.length k0_0 ∧ Outs X w0 S w [.row p0_0 r.1.length k0_0 c0_0 34 2, .box b2 [.slice pq0_0 r.2.L.length kq0_0, .int .i64 r.2.At] 50] ∧ (RowA c0_0 r.1).p S w ∧ (SlA pq0_0 r.2.L.length kq0_0 r.2.L).p S w
set_option maxHeartbeats 4000000 in
set_option maxRecDepth 100000 in
theorem made_Dice_Spans_ok {w0 : World} {S0 : Nat → Prop} {b2 : Nat} {p3 : Option Addr} {k4 : Nat} {d1 : Dice} {r : ((List Span) × Dice)} (hsh : made_Dice_Spans d1 = some r) (hS : ∀ b, S0 b → b < w0.heap.size) (hin : Ins S0 w0 [.box b2 [.slice p3 d1.L.length k4, .int .i64 d1.At] 50]) (h5 : (SlA p3 d1.L.length k4 d1.L).p S0 w0) : Calls Try.prog 10 #[.pointer (some ⟨b2, 0, none⟩)] w0 (Ret (blks [.box b2 [.slice p3 d1.L.length k4, .int .i64 d1.At] 50]) w0 S0 (made_Dice_Spans_rd w0 (blks [.box b2 [.slice p3 d1.L.length k4, .int .i64 d1.At] 50]) b2 r)) := by
 refine calls_of_wp Try.func10 rfl ?_
 have hs := Sl.enter #[.pointer (some ⟨b2, 0, none⟩)] 25 [(0, .pointer (some ⟨b2, 0, none⟩))] rfl ⟨rfl, trivial⟩
 have hw := Wd.enterI hS hin
 have hw := hw.addE h5
 delta made_Dice_Spans at hsh
 refine wp_seq ?_
 refine wp_region_lit ?_
 refine st_val hs (y_assign rfl) trivial rfl rfl fun a hs => ?_
 refine wpList_nil ?_
 refine then_normal ?_
 refine wp_seq ?_
 refine wp_region_lit ?_
 refine st_val hs (y_assign rfl) trivial rfl rfl fun a hs => ?_
 refine wpList_nil ?_
 refine then_normal ?_
 refine wp_seq ?_
 refine wp_seq ?_
 refine wp_region_lit ?_
 refine st_val hs (y_move rfl) trivial rfl rfl fun a hs => ?_
 obtain ⟨rv7, h6, hsh⟩ := bind_t hsh
 refine st_callR hs (made_Dice_Next_ok h6 hw.dom (hw.ins [0] (by decide) rfl) (hw.envAt 0 rfl)) (do_call Try.call28 rfl) trivial rfl rfl ?_
 intro v14 Sv11 w a h12 h13 hs
 obtain ⟨p8, k9, rfl, h15, h10⟩ := h13
 have hw := hw.callO [0] [] (by decide) rfl h12 h15
 have hw := hw.addE (e := SlA p8 rv7.2.L.length k9 rv7.2.L) h10
 refine st_val hs (y_assign rfl) trivial rfl rfl fun a hs => ?_
 refine wpList_nil ?_
 refine then_normal ?_
 obtain ⟨e122, h188, hsh⟩ := bind_t hsh
 refine wp_join (fun a w => ∃ (p123 : Option Addr) (k124 : Nat) (c125 : List Value) (p126 : Option Addr) (k127 : Nat) (Sv128 : Nat → Prop), Sl 25 [(3, .slice p126 e122.2.2.length k127)] a ∧ Wd ⟨w0, S0, blks [.box b2 [.slice p3 d1.L.length k4, .int .i64 d1.At] 50]⟩ Sv128 [.box b2 [.slice p123 e122.1.length k124, .int .i64 e122.2.1] 50, .row p126 e122.2.2.length k127 c125 34 2] [SlA p123 e122.1.length k124 e122.1, RowA c125 e122.2.2] w) ?_ ?_
 ·refine wp_block ?_
  have hw := hw.nilRow Span 34
  refine wp_while (fun sv16 a w => ∃ (p83 : Option Addr) (k84 : Nat) (c85 : List Value) (p86 : Option Addr) (k87 : Nat) (Sv88 : Nat → Prop), Sl 25 [(0, .pointer (some ⟨b2, 0, none⟩)), (3, .slice p86 sv16.2.2.1.length k87), (4, .int .i64 sv16.2.2.2)] a ∧ Wd ⟨w0, S0, blks [.box b2 [.slice p3 d1.L.length k4, .int .i64 d1.At] 50]⟩ Sv88 [.box b2 [.slice p83 sv16.1.length k84, .int .i64 sv16.2.1] 50, .row p86 sv16.2.2.1.length k87 c85 34 2] [SlA p83 sv16.1.length k84 sv16.1, RowA c85 sv16.2.2.1] w) (rv7.2.L, rv7.2.At, ([] : List Span), rv7.1) h188 ⟨p8, k9, [], none, 0, Sv11, (hs.wk rfl), (hw.ft [1, 0] [1, 0] (by decide) rfl rfl)⟩ ?_
  clear h188
  repeat clear hsh
  rintro sv16 a w tv120 ⟨p83, k84, c85, p86, k87, Sv88, hs, hw⟩ hsh hd119
  delta made_Dice_Spans_l1 at hsh
  refine wp_seq ?_
  refine wp_seq ?_
  refine wp_region_lit ?_
  refine st_val hs (y_move rfl) trivial rfl rfl fun a hs => ?_
  refine st_val hs (y_gtr rfl rfl) trivial rfl rfl fun a hs => ?_
  refine wpList_nil ?_
  refine then_normal ?_
  refine wp_cond_split (hs.ev rfl) (fun h130 => ?_) (fun h130 => ?_)
  ·have hsh := ite_t hsh h130
   refine wp_skip ?_
   refine then_normal ?_
   refine wp_seq ?_
   refine wp_block ?_
   refine wp_seq ?_
   refine wp_region_lit ?_
   refine st_val hs (y_move rfl) trivial rfl rfl fun a hs => ?_
   obtain ⟨rv159, h158, hsh⟩ := bind_t hsh
   refine st_callR hs (made_Dice_Next_ok h158 hw.dom (hw.ins [0] (by decide) rfl) (hw.envAt 0 rfl)) (do_call Try.call28 rfl) trivial rfl rfl ?_
   intro v166 Sv163 w a h164 h165 hs
   obtain ⟨p160, k161, rfl, h167, h162⟩ := h165
   have hw := hw.callO [0] [1] (by decide) rfl h164 h167
   have hw := hw.addE (e := SlA p160 rv159.2.L.length k161 rv159.2.L) h162
   refine st_val hs (y_assign rfl) trivial rfl rfl fun a hs => ?_
   refine wpList_nil ?_
   refine then_normal ?_
   refine wp_region_lit ?_
   refine st_val hs (y_move rfl) trivial rfl rfl fun a hs => ?_
   refine st_val hs (y_move rfl) trivial rfl rfl fun a hs => ?_
   refine st_val hs (y_move rfl) trivial rfl rfl fun a hs => ?_
   refine st_val hs (y_move rfl) trivial rfl rfl fun a hs => ?_
   obtain ⟨rv169, h168, hsh⟩ := bind_t hsh
   refine st_callR hs (made_Dice_Next_ok h168 hw.dom (hw.ins [0] (by decide) rfl) (hw.envAt 0 rfl)) (do_call Try.call28 rfl) trivial rfl rfl ?_
   intro v176 Sv173 w a h174 h175 hs
   obtain ⟨p170, k171, rfl, h177, h172⟩ := h175
   have hw := hw.callO [0] [1] (by decide) rfl h174 h177
   have hw := hw.addE (e := SlA p170 rv169.2.L.length k171 rv169.2.L) h172
   refine st_val hs (y_add rfl rfl) trivial rfl rfl fun a hs => ?_
   refine st_val hs (y_sub rfl rfl) trivial rfl rfl fun a hs => ?_
   refine st_val hs (y_build (vs := [(0, .int .i64 rv159.1), (1, .int .i64 (w64 ((w64 (rv159.1 + rv169.1)) - 1)))]) Bld34 rfl rfl) trivial rfl rfl fun a hs => ?_
   refine w_litSlice (α := Span) (vs := [.agg #[.int .i64 rv159.1, .int .i64 (w64 ((w64 (rv159.1 + rv169.1)) - 1))]]) (cs := [.int .i64 rv159.1, .int .i64 (w64 ((w64 (rv159.1 + rv169.1)) - 1))]) (xs := ([(⟨rv159.1, (w64 ((w64 (rv159.1 + rv169.1)) - 1))⟩ : Span)] : List Span)) hs hw El25 rfl rfl rfl rfl rfl rfl ⟨⟨_, _, rfl, rfl, rfl⟩, rfl⟩ rfl trivial rfl fun b179 a w hs hw => ?_
   obtain ⟨l181, h180, hsh⟩ := bind_t hsh
   refine w_appendR (α := Span) hs hw El25 2 rfl rfl rfl 4 rfl 0 rfl 0 rfl h180 rfl trivial ?_
   intro p182 k183 c184 a w hs hw
   refine st_val hs (y_assign rfl) trivial rfl rfl fun a hs => ?_
   refine wpList_nil ?_
   refine blk_normal ?_
   refine then_normal ?_
   refine wp_region_lit ?_
   refine st_val hs (y_move rfl) trivial rfl rfl fun a hs => ?_
   refine st_val hs (y_sub rfl rfl) trivial rfl rfl fun a hs => ?_
   obtain ⟨i186, h185, hsh⟩ := bind_t hsh
   refine st_val hs (y_assignI rfl h185) trivial rfl rfl fun a hs => ?_
   refine wpList_nil ?_
   refine then_normal ?_
   exact ⟨_, (Option.some.inj hsh).symm, p170, k171, c184, p182, k183, Sv173, (hs.wk rfl), (hw.ft [1, 2] [2, 0] (by decide) rfl rfl)⟩
  ·have hsh := ite_f hsh h130
   refine wp_exit ?_
   refine then_exit ?_
   refine then_exit ?_
   refine blk_exit ?_
   have hsh := Option.some.inj hsh
   subst hsh
   have h187 := hd119 _ rfl
   subst h187
   refine then_normal ?_
   exact ⟨p83, k84, c85, p86, k87, Sv88, (hs.wk rfl), (hw.ft [0, 1] [0, 1] (by decide) rfl rfl)⟩
 ·rintro a w ⟨p123, k124, c125, p126, k127, Sv128, hs, hw⟩
  refine then_normal ?_
  refine wp_seq ?_
  refine wp_region_lit ?_
  refine st_val hs (y_move rfl) trivial rfl rfl fun a hs => ?_
  refine st_val hs (y_assign rfl) trivial rfl rfl fun a hs => ?_
  refine wpList_nil ?_
  refine then_normal ?_
  have hsh := Option.some.inj hsh
  subst hsh
  refine wp_ret ?_
  exact ret1 hs rfl (rv_tmp rfl) (hw.ret ⟨p126, k127, c125, p123, k124, rfl, (hw.outs [1, 0] (by decide) rfl), (hw.envAt 1 rfl), (hw.envAt 0 rfl)⟩)

abbrev span_near_rd (w0 : World) (X : List Nat) (r : Bool) : (Nat → Prop) → World → Value → Prop := fun S w v => v = .bool r
set_option maxHeartbeats 4000000 in
set_option maxRecDepth 100000 in
theorem span_near_ok {w0 : World} {S0 : Nat → Prop} {p2 : Option Addr} {k3 : Nat} {l1 : (List Span)} {r : Bool} (hsh : span_near l1 = some r) (hS : ∀ b, S0 b → b < w0.heap.size) (h4 : (SlA p2 l1.length k3 l1).p S0 w0) : Calls Try.prog 33 #[.slice p2 l1.length k3] w0 (Ret ([]) w0 S0 (span_near_rd w0 ([]) r)) := by
 refine calls_of_wp Try.func33 rfl ?_
 have hs := Sl.enter #[.slice p2 l1.length k3] 23 [(0, .slice p2 l1.length k3)] rfl ⟨rfl, trivial⟩
 have hw := Wd.enter (E := []) hS (fun _ h => (by cases h))
 have hw := hw.addE h4
 delta span_near at hsh
 refine wp_seq ?_
 refine wp_region_lit ?_
 refine st_val hs (y_assign rfl) trivial rfl rfl fun a hs => ?_
 refine wpList_nil ?_
 refine then_normal ?_
 refine wp_seq ?_
 refine wp_region_lit ?_
 refine st_val hs (y_move rfl) trivial rfl rfl fun a hs => ?_
 refine st_val hs (y_len Try.runUnderlying25 rfl) trivial rfl rfl fun a hs => ?_
 refine st_val hs (y_eql rfl rfl) trivial rfl rfl fun a hs => ?_
 refine st_val hs (y_move rfl) trivial rfl rfl fun a hs => ?_
 obtain ⟨c38, hc38, hsh⟩ := bind_t hsh
 refine wpl_join 16 (fun a w => ∃ (Sv39 : Nat → Prop), Sl 23 [(22, .bool c38)] a ∧ Wd ⟨w0, S0, []⟩ Sv39 [] [] w) ?_ ?_
 ·rcases Bool.eq_false_or_eq_true ((l1.length : Int) == 0) with h37 | h37
  ·have hs := hs.fix 6 (.bool true) rfl (vb h37)
   have hsh := ite_t hc38 h37
   refine st_skip hs rfl rfl rfl rfl rfl fun a hs => ?_
   refine st_skip hs rfl rfl rfl rfl rfl fun a hs => ?_
   refine st_skip hs rfl rfl rfl rfl rfl fun a hs => ?_
   refine st_skip hs rfl rfl rfl rfl rfl fun a hs => ?_
   refine st_skip hs rfl rfl rfl rfl rfl fun a hs => ?_
   refine st_skip hs rfl rfl rfl rfl rfl fun a hs => ?_
   refine st_skipU hs rfl rfl rfl rfl rfl fun a hs => ?_
   refine st_skipU hs rfl rfl rfl rfl rfl fun a hs => ?_
   refine st_skipU hs rfl rfl rfl rfl rfl fun a hs => ?_
   refine st_skipU hs rfl rfl rfl rfl rfl fun a hs => ?_
   refine st_skipU hs rfl rfl rfl rfl rfl fun a hs => ?_
   refine st_skipU hs rfl rfl rfl rfl rfl fun a hs => ?_
   refine st_skipU hs rfl rfl rfl rfl rfl fun a hs => ?_
   refine st_skipU hs rfl rfl rfl rfl rfl fun a hs => ?_
   refine st_skip hs rfl rfl rfl rfl rfl fun a hs => ?_
   refine st_val hs (y_pickT rfl rfl) trivial rfl rfl fun a hs => ?_
   refine wpList_nil ?_
   have hsh := Option.some.inj hsh
   subst hsh
   refine then_normal ?_
   exact ⟨S0, (hs.wk rfl), (hw.ft [] [] (by decide) rfl rfl)⟩
  ·have hs := hs.fix 6 (.bool false) rfl (vb h37)
   have hsh := ite_f hc38 h37
   refine st_val hs (y_move rfl) ⟨_, rfl, rfl⟩ rfl rfl fun a hs => ?_
   obtain ⟨x42, h40, hsh⟩ := bind_t hsh
   obtain ⟨b48, o49, q46, c47, h50, h43, h44, h45, h41⟩ := hw.elemV 0 rfl h40
   have hsv51 := hs
   have hwv52 := hw
   subst h50
   have hs := hsv51
   have hw := hwv52
   obtain ⟨_, _, rfl, rfl, rfl⟩ := h41
   have hw := hw.addE h45
   refine st_val hs (y_indexAt Try.runUnderlying25 Try.sizeOf34 rfl rfl h43.1 h43.2 h44) ⟨_, rfl, rfl⟩ rfl rfl fun a hs => ?_
   refine st_val hs (y_fieldAddr (o' := q46 + 0) Try.runUnderlying34 rfl Try.sizeOf3 rfl rfl rfl) ⟨_, rfl, rfl⟩ rfl rfl fun a hs => ?_
   refine st_val hs (y_loadE1 (j := 0) (hw.ceAt 0 rfl) rfl Try.isAgg3 rfl) ⟨_, rfl, rfl⟩ rfl rfl fun a hs => ?_
   refine st_val hs (y_geq rfl rfl) ⟨_, rfl, rfl⟩ rfl rfl fun a hs => ?_
   refine st_val hs (y_move rfl) ⟨_, rfl, rfl⟩ rfl rfl fun a hs => ?_
   obtain ⟨c62, hc62, hsh⟩ := bind_t hsh
   refine wpl_join 9 (fun a w => ∃ (Sv63 : Nat → Prop), Sl 23 [(6, .bool false), (21, .bool c62)] a ∧ Wd ⟨w0, S0, []⟩ Sv63 [] [] w) ?_ ?_
   ·rcases Bool.eq_false_or_eq_true (decide ((-1152921504606846976) ≤ x42.From)) with h61 | h61
    ·have hs := hs.fix 12 (.bool true) rfl (vb h61)
     have hsh := ite_t hc62 h61
     refine st_val hs (y_move rfl) ⟨_, rfl, rfl⟩ rfl rfl fun a hs => ?_
     refine st_val hs (y_move rfl) ⟨_, rfl, rfl⟩ rfl rfl fun a hs => ?_
     refine st_val hs (y_len Try.runUnderlying25 rfl) ⟨_, rfl, rfl⟩ rfl rfl fun a hs => ?_
     refine st_val hs (y_sub rfl rfl) ⟨_, rfl, rfl⟩ rfl rfl fun a hs => ?_
     obtain ⟨x66, h64, hsh⟩ := bind_t hsh
     obtain ⟨q70, c71, h67, h68, h69, h65⟩ := hw.elemK 1 rfl h64
     obtain ⟨_, _, rfl, rfl, rfl⟩ := h65
     have hw := hw.addE h69
     refine st_val hs (y_indexAt Try.runUnderlying25 Try.sizeOf34 rfl rfl h67.1 h67.2 h68) ⟨_, rfl, rfl⟩ rfl rfl fun a hs => ?_
     refine st_val hs (y_fieldAddr (o' := q70 + 1) Try.runUnderlying34 rfl Try.sizeOf3 rfl rfl rfl) ⟨_, rfl, rfl⟩ rfl rfl fun a hs => ?_
     refine st_val hs (y_loadE1 (j := 1) (hw.ceAt 0 rfl) rfl Try.isAgg3 rfl) ⟨_, rfl, rfl⟩ rfl rfl fun a hs => ?_
     refine st_val hs (y_leq rfl rfl) ⟨_, rfl, rfl⟩ rfl rfl fun a hs => ?_
     refine st_val hs (y_pickT rfl rfl) ⟨_, rfl, rfl⟩ rfl rfl fun a hs => ?_
     refine wpList_nil ?_
     have hsh := Option.some.inj hsh
     subst hsh
     refine then_normal ?_
     exact ⟨S0, (hs.wk rfl), (hw.ft [] [] (by decide) rfl rfl)⟩
    ·have hs := hs.fix 12 (.bool false) rfl (vb h61)
     have hsh := ite_f hc62 h61
     refine st_skip hs rfl rfl rfl rfl rfl fun a hs => ?_
     refine st_skip hs rfl rfl rfl rfl rfl fun a hs => ?_
     refine st_skip hs rfl rfl rfl rfl rfl fun a hs => ?_
     refine st_skip hs rfl rfl rfl rfl rfl fun a hs => ?_
     refine st_skip hs rfl rfl rfl rfl rfl fun a hs => ?_
     refine st_skip hs rfl rfl rfl rfl rfl fun a hs => ?_
     refine st_skip hs rfl rfl rfl rfl rfl fun a hs => ?_
     refine st_skip hs rfl rfl rfl rfl rfl fun a hs => ?_
     refine st_val hs (y_pickF rfl rfl) ⟨_, rfl, rfl⟩ rfl rfl fun a hs => ?_
     refine wpList_nil ?_
     have hsh := Option.some.inj hsh
     subst hsh
     refine then_normal ?_
     exact ⟨S0, (hs.wk rfl), (hw.ft [] [] (by decide) rfl rfl)⟩
   ·rintro a w ⟨Sv63, hs, hw⟩
    refine st_val hs (y_pickF rfl rfl) trivial rfl rfl fun a hs => ?_
    refine wpList_nil ?_
    have hsh := Option.some.inj hsh
    subst hsh
    refine then_normal ?_
    exact ⟨Sv63, (hs.wk rfl), (hw.ft [] [] (by decide) rfl rfl)⟩
 ·rintro a w ⟨Sv39, hs, hw⟩
  refine st_val hs (y_assign rfl) trivial rfl rfl fun a hs => ?_
  refine wpList_nil ?_
  refine then_normal ?_
  have hsh := Option.some.inj hsh
  subst hsh
  refine wp_ret ?_
  exact ret1 hs rfl (rv_tmp rfl) (hw.ret rfl)

abbrev span_Length_rd (w0 : World) (X : List Nat) (r : (Int × Bool)) : (Nat → Prop) → World → Value → Prop := fun S w v => v = .tuple #[.int .i64 r.1, .bool r.2]
set_option maxHeartbeats 4000000 in
set_option maxRecDepth 100000 in
theorem span_Length_ok {w0 : World} {S0 : Nat → Prop} {p2 : Option Addr} {k3 : Nat} {l1 : (List Span)} {r : (Int × Bool)} (hsh : span_Length l1 = some r) (hS : ∀ b, S0 b → b < w0.heap.size) (h4 : (SlA p2 l1.length k3 l1).p S0 w0) : Calls Try.prog 11 #[.slice p2 l1.length k3] w0 (Ret ([]) w0 S0 (span_Length_rd w0 ([]) r)) := by
 refine calls_of_wp Try.func11 rfl ?_
 have hs := Sl.enter #[.slice p2 l1.length k3] 27 [(0, .slice p2 l1.length k3)] rfl ⟨rfl, trivial⟩
 have hw := Wd.enter (E := []) hS (fun _ h => (by cases h))
 have hw := hw.addE h4
 delta span_Length at hsh
 refine wp_seq ?_
 refine wp_region_lit ?_
 refine st_val hs (y_assign rfl) trivial rfl rfl fun a hs => ?_
 refine st_val hs (y_assign rfl) trivial rfl rfl fun a hs => ?_
 refine wpList_nil ?_
 refine then_normal ?_
 refine wp_seq ?_
 refine wp_region_lit ?_
 refine st_val hs (y_move rfl) trivial rfl rfl fun a hs => ?_
 obtain ⟨rv6, h5, hsh⟩ := bind_t hsh
 refine st_callR hs (span_Normal_ok h5 hw.dom (hw.envAt 0 rfl)) (do_call Try.call16 rfl) trivial rfl rfl ?_
 intro v14 Sv11 w a h12 h13 hs
 obtain ⟨p7, k8, c10, rfl, h15, h9⟩ := h13
 have hw := hw.callN h12 h15
 have hw := hw.addE (e := RowA c10 rv6) h9
 refine st_val hs (y_assign rfl) trivial rfl rfl fun a hs => ?_
 refine wpList_nil ?_
 refine then_normal ?_
 refine wp_seq ?_
 refine wp_seq ?_
 refine wp_region_lit ?_
 refine st_val hs (y_move rfl) trivial rfl rfl fun a hs => ?_
 obtain ⟨rv17, h16, hsh⟩ := bind_t hsh
 refine st_callR hs (span_near_ok h16 hw.bdom (hw.bRow 0 rfl 0 rfl)) (do_call Try.call33 rfl) trivial rfl rfl ?_
 intro v21 Sv18 w a h19 h20 hs
 subst h20
 have hw := hw.callB h19
 refine st_val hs (y_not rfl) trivial rfl rfl fun a hs => ?_
 refine wpList_nil ?_
 refine then_normal ?_
 refine wp_cond_split (hs.ev rfl) (fun h24 => ?_) (fun h24 => ?_)
 ·have hsh := ite_t hsh h24
  refine wp_seq ?_
  refine wp_region_lit ?_
  refine st_val hs (y_assign rfl) trivial rfl rfl fun a hs => ?_
  refine st_val hs (y_assign rfl) trivial rfl rfl fun a hs => ?_
  refine wpList_nil ?_
  refine then_normal ?_
  have hsh := Option.some.inj hsh
  subst hsh
  refine wp_ret ?_
  refine then_ret ?_
  exact ret2 hs rfl (rv_tmp rfl) (rv_tmp rfl) (hw.ret rfl)
 ·have hsh := ite_f hsh h24
  refine wp_skip ?_
  refine then_normal ?_
  refine wp_seq ?_
  refine wp_region_lit ?_
  refine st_val hs (y_assign rfl) trivial rfl rfl fun a hs => ?_
  refine wpList_nil ?_
  refine then_normal ?_
  refine wp_seq ?_
  refine wp_seq ?_
  refine wp_region_lit ?_
  refine st_val hs (y_move rfl) trivial rfl rfl fun a hs => ?_
  refine st_val hs (y_len Try.runUnderlying25 rfl) trivial rfl rfl fun a hs => ?_
  refine st_val hs (y_move rfl) trivial rfl rfl fun a hs => ?_
  refine wpList_nil ?_
  refine then_normal ?_
  obtain ⟨e82, h119, hsh⟩ := bind_t hsh
  refine wp_join (fun a w => ∃ (Sv83 : Nat → Prop), Sl 27 [(4, .int .i64 e82)] a ∧ Wd ⟨w0, S0, []⟩ Sv83 [] [] w) ?_ ?_
  ·refine wp_block ?_
   refine wp_while (fun sv25 a w => ∃ (Sv61 : Nat → Prop), Sl 27 [(4, .int .i64 sv25.1), (12, .slice p7 rv6.length k8), (13, .int .i64 (rv6.length : Int)), (14, .int .i64 sv25.2)] a ∧ Wd ⟨w0, S0, []⟩ Sv61 [.row p7 rv6.length k8 c10 34 2] [RowA c10 rv6] w) (0, 0) h119 ⟨Sv11, (hs.wk rfl), (hw.ft [0] [0] (by decide) rfl rfl)⟩ ?_
   clear h119
   repeat clear hsh
   rintro sv25 a w tv80 ⟨Sv61, hs, hw⟩ hsh hd79
   delta span_Length_l1 at hsh
   refine wp_seq ?_
   refine wp_region_lit ?_
   refine st_val hs (y_lss rfl rfl) trivial rfl rfl fun a hs => ?_
   refine wpList_nil ?_
   refine then_normal ?_
   refine wp_seq ?_
   refine wp_cond_split (hs.ev rfl) (fun h85 => ?_) (fun h85 => ?_)
   ·have hsh := ite_t hsh h85
    refine wp_skip ?_
    refine then_normal ?_
    refine wp_seq ?_
    refine wp_block ?_
    refine wp_seq ?_
    refine wp_region_lit ?_
    obtain ⟨x104, h102, hsh⟩ := bind_t hsh
    obtain ⟨b111, q108, c109, h112, h105, h106, h110, h103⟩ := hw.elemRV (α := Span) 0 rfl 0 rfl h102
    have hsv113 := hs
    have hwv114 := hw
    subst h112
    have hs := hsv113
    have hw := hwv114
    obtain ⟨_, _, rfl, rfl, rfl⟩ := h103
    refine st_val hs (y_indexAt Try.runUnderlying25 Try.sizeOf34 rfl rfl h105.1 h105.2 h106) trivial rfl rfl fun a hs => ?_
    refine st_val hs (y_loadQA (j := 0) (hw.ownAt 0 rfl) rfl Try.isAgg34 Try.sizeOf34 h110 rfl rfl) trivial rfl rfl fun a hs => ?_
    refine w_alloc (cs := [.int .i64 0, .int .i64 0]) hs hw Try.zeroValue34 rfl rfl trivial ?_
    intro b115 a w hs hw
    refine w_store (m := 2) (cs' := [.int .i64 x104.From, .int .i64 x104.To]) hs hw 0 rfl rfl rfl Try.sizeOf34 rfl rfl rfl rfl trivial ?_
    intro a w hs hw
    refine wpList_nil ?_
    refine then_normal ?_
    refine wp_region_lit ?_
    refine st_val hs (y_move rfl) trivial rfl rfl fun a hs => ?_
    refine st_val hs (y_fieldAddr (o' := 1) Try.runUnderlying34 rfl Try.sizeOf3 rfl rfl rfl) trivial rfl rfl fun a hs => ?_
    refine st_val hs (y_loadB1 (hw.ownAt 0 rfl) rfl Try.isAgg3 rfl) trivial rfl rfl fun a hs => ?_
    refine st_val hs (y_fieldAddr (o' := 0) Try.runUnderlying34 rfl Try.sizeOf3 rfl rfl rfl) trivial rfl rfl fun a hs => ?_
    refine st_val hs (y_loadB1 (hw.ownAt 0 rfl) rfl Try.isAgg3 rfl) trivial rfl rfl fun a hs => ?_
    refine st_val hs (y_sub rfl rfl) trivial rfl rfl fun a hs => ?_
    refine st_val hs (y_add rfl rfl) trivial rfl rfl fun a hs => ?_
    obtain ⟨n117, h116, hsh⟩ := bind_t hsh
    refine st_val hs (y_assignI rfl h116) trivial rfl rfl fun a hs => ?_
    refine wpList_nil ?_
    refine blk_normal ?_
    refine then_normal ?_
    refine wp_region_lit ?_
    refine st_val hs (y_add rfl rfl) trivial rfl rfl fun a hs => ?_
    refine st_val hs (y_move rfl) trivial rfl rfl fun a hs => ?_
    refine wpList_nil ?_
    refine then_normal ?_
    exact ⟨_, (Option.some.inj hsh).symm, Sv61, (hs.wk rfl), (hw.ft [1] [0] (by decide) rfl rfl)⟩
   ·have hsh := ite_f hsh h85
    refine wp_exit ?_
    refine then_exit ?_
    refine then_exit ?_
    refine blk_exit ?_
    have hsh := Option.some.inj hsh
    subst hsh
    have h118 := hd79 _ rfl
    subst h118
    refine then_normal ?_
    exact ⟨Sv61, (hs.wk rfl), (hw.ft [] [] (by decide) rfl rfl)⟩
  ·rintro a w ⟨Sv83, hs, hw⟩
   refine then_normal ?_
   refine wp_seq ?_
   refine wp_region_lit ?_
   refine st_val hs (y_move rfl) trivial rfl rfl fun a hs => ?_
   refine st_val hs (y_assign rfl) trivial rfl rfl fun a hs => ?_
   refine st_val hs (y_assign rfl) trivial rfl rfl fun a hs => ?_
   refine wpList_nil ?_
   refine then_normal ?_
   have hsh := Option.some.inj hsh
   subst hsh
   refine wp_ret ?_
   exact ret2 hs rfl (rv_tmp rfl) (rv_tmp rfl) (hw.ret rfl)

abbrev span_Minus_rd (w0 : World) (X : List Nat) (r : (List Span)) : (Nat → Prop) → World → Value → Prop := fun S w v => ∃ (p0_0 : Option Addr) (k0_0 : Nat) (c0_0 : List Value), v = .slice p0_0 r.length k0_0 ∧ Outs X w0 S w [.row p0_0 r.length k0_0 c0_0 34 2] ∧ (RowA c0_0 r).p S w
set_option maxHeartbeats 4000000 in
set_option maxRecDepth 100000 in
theorem span_Minus_ok {w0 : World} {S0 : Nat → Prop} {p2 : Option Addr} {k3 : Nat} {p6 : Option Addr} {k7 : Nat} {a1 : (List Span)} {b5 : (List Span)} {r : (List Span)} (hsh : span_Minus a1 b5 = some r) (hS : ∀ b, S0 b → b < w0.heap.size) (h4 : (SlA p2 a1.length k3 a1).p S0 w0) (h8 : (SlA p6 b5.length k7 b5).p S0 w0) : Calls Try.prog 13 #[.slice p2 a1.length k3, .slice p6 b5.length k7] w0 (Ret ([]) w0 S0 (span_Minus_rd w0 ([]) r)) := by
 refine calls_of_wp Try.func13 rfl ?_
 have hs := Sl.enter #[.slice p2 a1.length k3, .slice p6 b5.length k7] 68 [(0, .slice p2 a1.length k3), (1, .slice p6 b5.length k7)] rfl ⟨rfl, rfl, trivial⟩
 have hw := Wd.enter (E := []) hS (fun _ h => (by cases h))
 have hw := hw.addE h4
 have hw := hw.addE h8
 delta span_Minus at hsh
 refine wp_seq ?_
 refine wp_region_lit ?_
 refine st_val hs (y_assign rfl) trivial rfl rfl fun a hs => ?_
 refine wpList_nil ?_
 refine then_normal ?_
 refine wp_seq ?_
 refine wp_region_lit ?_
 refine st_val hs (y_move rfl) trivial rfl rfl fun a hs => ?_
 obtain ⟨rv10, h9, hsh⟩ := bind_t hsh
 refine st_callR hs (span_Normal_ok h9 hw.dom (hw.envAt 0 rfl)) (do_call Try.call16 rfl) trivial rfl rfl ?_
 intro v18 Sv15 w a h16 h17 hs
 obtain ⟨p11, k12, c14, rfl, h19, h13⟩ := h17
 have hw := hw.callN h16 h19
 have hw := hw.addE (e := RowA c14 rv10) h13
 refine st_val hs (y_assign rfl) trivial rfl rfl fun a hs => ?_
 refine wpList_nil ?_
 refine then_normal ?_
 refine wp_seq ?_
 refine wp_region_lit ?_
 refine st_val hs (y_assign rfl) trivial rfl rfl fun a hs => ?_
 refine wpList_nil ?_
 refine then_normal ?_
 refine wp_seq ?_
 refine wp_seq ?_
 refine wp_region_lit ?_
 refine st_val hs (y_move rfl) trivial rfl rfl fun a hs => ?_
 obtain ⟨rv21, h20, hsh⟩ := bind_t hsh
 refine st_callR hs (span_Normal_ok h20 hw.dom (hw.envAt 2 rfl)) (do_call Try.call16 rfl) trivial rfl rfl ?_
 intro v29 Sv26 w a h27 h28 hs
 obtain ⟨p22, k23, c25, rfl, h30, h24⟩ := h28
 have hw := hw.callN h27 h30
 have hw := hw.addE (e := RowA c25 rv21) h24
 refine st_val hs (y_len Try.runUnderlying25 rfl) trivial rfl rfl fun a hs => ?_
 refine st_val hs (y_move rfl) trivial rfl rfl fun a hs => ?_
 refine wpList_nil ?_
 refine then_normal ?_
 obtain ⟨e529, h950, hsh⟩ := bind_t hsh
 refine wp_join (fun a w => ∃ (c530 : List Value) (p531 : Option Addr) (k532 : Nat) (Sv533 : Nat → Prop), Sl 68 [(5, .slice p531 e529.length k532)] a ∧ Wd ⟨w0, S0, []⟩ Sv533 [.row p531 e529.length k532 c530 34 2] [RowA c530 e529] w) ?_ ?_
 ·refine wp_block ?_
  have hw := hw.nilRow Span 34
  refine wp_while (fun sv31 a w => ∃ (c360 : List Value) (p361 : Option Addr) (k362 : Nat) (Sv363 : Nat → Prop), Sl 68 [(1, .slice p11 rv10.length k12), (5, .slice p361 sv31.1.length k362), (14, .slice p22 rv21.length k23), (15, .int .i64 (rv21.length : Int)), (16, .int .i64 sv31.2)] a ∧ Wd ⟨w0, S0, []⟩ Sv363 [.row p11 rv10.length k12 c14 34 2, .row p361 sv31.1.length k362 c360 34 2, .row p22 rv21.length k23 c25 34 2] [RowA c14 rv10, RowA c360 sv31.1, RowA c25 rv21] w) (([] : List Span), 0) h950 ⟨[], none, 0, Sv26, (hs.wk rfl), (hw.ft [2, 0, 1] [2, 0, 1] (by decide) rfl rfl)⟩ ?_
  clear h950
  repeat clear hsh
  rintro sv31 a w tv527 ⟨c360, p361, k362, Sv363, hs, hw⟩ hsh hd526
  delta span_Minus_l3 at hsh
  refine wp_seq ?_
  refine wp_region_lit ?_
  refine st_val hs (y_lss rfl rfl) trivial rfl rfl fun a hs => ?_
  refine wpList_nil ?_
  refine then_normal ?_
  refine wp_seq ?_
  refine wp_cond_split (hs.ev rfl) (fun h535 => ?_) (fun h535 => ?_)
  ·have hsh := ite_t hsh h535
   refine wp_skip ?_
   refine then_normal ?_
   refine wp_seq ?_
   refine wp_block ?_
   refine wp_seq ?_
   refine wp_region_lit ?_
   obtain ⟨x699, h697, hsh⟩ := bind_t hsh
   obtain ⟨b706, q703, c704, h707, h700, h701, h705, h698⟩ := hw.elemRV (α := Span) 2 rfl 2 rfl h697
   have hsv708 := hs
   have hwv709 := hw
   subst h707
   have hs := hsv708
   have hw := hwv709
   obtain ⟨_, _, rfl, rfl, rfl⟩ := h698
   refine st_val hs (y_indexAt Try.runUnderlying25 Try.sizeOf34 rfl rfl h700.1 h700.2 h701) trivial rfl rfl fun a hs => ?_
   refine st_val hs (y_loadQA (j := 0) (hw.ownAt 2 rfl) rfl Try.isAgg34 Try.sizeOf34 h705 rfl rfl) trivial rfl rfl fun a hs => ?_
   refine w_alloc (cs := [.int .i64 0, .int .i64 0]) hs hw Try.zeroValue34 rfl rfl trivial ?_
   intro b710 a w hs hw
   refine w_store (m := 2) (cs' := [.int .i64 x699.From, .int .i64 x699.To]) hs hw 0 rfl rfl rfl Try.sizeOf34 rfl rfl rfl rfl trivial ?_
   intro a w hs hw
   refine wpList_nil ?_
   refine then_normal ?_
   refine wp_seq ?_
   refine wp_region_lit ?_
   refine st_val hs (y_fieldAddr (o' := 0) Try.runUnderlying34 rfl Try.sizeOf3 rfl rfl rfl) trivial rfl rfl fun a hs => ?_
   refine st_val hs (y_loadB1 (hw.ownAt 0 rfl) rfl Try.isAgg3 rfl) trivial rfl rfl fun a hs => ?_
   refine st_val hs (y_assign rfl) trivial rfl rfl fun a hs => ?_
   refine wpList_nil ?_
   refine then_normal ?_
   refine wp_seq ?_
   refine wp_seq ?_
   refine wp_region_lit ?_
   refine st_val hs (y_move rfl) trivial rfl rfl fun a hs => ?_
   refine st_val hs (y_len Try.runUnderlying25 rfl) trivial rfl rfl fun a hs => ?_
   refine st_val hs (y_move rfl) trivial rfl rfl fun a hs => ?_
   refine wpList_nil ?_
   refine then_normal ?_
   obtain ⟨e840, h948, hsh⟩ := bind_t hsh
   refine wp_join (fun a w => ∃ (c841 : List Value) (p842 : Option Addr) (k843 : Nat) (Sv844 : Nat → Prop), Sl 68 [(1, .slice p11 rv10.length k12), (5, .slice p842 e840.1.length k843), (7, .pointer (some ⟨b710, 0, none⟩)), (8, .int .i64 e840.2), (14, .slice (some ⟨b706, 0, none⟩) rv21.length k23), (15, .int .i64 (rv21.length : Int)), (16, .int .i64 sv31.2)] a ∧ Wd ⟨w0, S0, []⟩ Sv844 [.box b710 [.int .i64 x699.From, .int .i64 x699.To] 34, .row p11 rv10.length k12 c14 34 2, .row p842 e840.1.length k843 c841 34 2, .row (some ⟨b706, 0, none⟩) rv21.length k23 c25 34 2] [RowA c14 rv10, RowA c841 e840.1, RowA c25 rv21] w) ?_ ?_
   ·refine wp_block ?_
    refine wp_while (fun sv711 a w => ∃ (c794 : List Value) (p795 : Option Addr) (k796 : Nat) (Sv797 : Nat → Prop), Sl 68 [(1, .slice p11 rv10.length k12), (5, .slice p795 sv711.1.length k796), (7, .pointer (some ⟨b710, 0, none⟩)), (8, .int .i64 sv711.2.1), (14, .slice (some ⟨b706, 0, none⟩) rv21.length k23), (15, .int .i64 (rv21.length : Int)), (16, .int .i64 sv31.2), (22, .slice p11 rv10.length k12), (23, .int .i64 (rv10.length : Int)), (24, .int .i64 sv711.2.2)] a ∧ Wd ⟨w0, S0, []⟩ Sv797 [.box b710 [.int .i64 x699.From, .int .i64 x699.To] 34, .row p11 rv10.length k12 c14 34 2, .row p795 sv711.1.length k796 c794 34 2, .row (some ⟨b706, 0, none⟩) rv21.length k23 c25 34 2] [RowA c14 rv10, RowA c794 sv711.1, RowA c25 rv21] w) (sv31.1, x699.From, 0) h948 ⟨c360, p361, k362, Sv363, (hs.wk rfl), (hw.ft [0, 1, 2, 3] [0, 1, 2] (by decide) rfl rfl)⟩ ?_
    clear h948
    repeat clear hsh
    rintro sv711 a w tv838 ⟨c794, p795, k796, Sv797, hs, hw⟩ hsh hd837
    delta span_Minus_l6 at hsh
    refine wp_seq ?_
    refine wp_region_lit ?_
    refine st_val hs (y_lss rfl rfl) trivial rfl rfl fun a hs => ?_
    refine wpList_nil ?_
    refine then_normal ?_
    refine wp_seq ?_
    refine wp_cond_split (hs.ev rfl) (fun h846 => ?_) (fun h846 => ?_)
    ·have hsh := ite_t hsh h846
     refine wp_skip ?_
     refine then_normal ?_
     refine wp_seq ?_
     refine wp_join (fun a w => ∃ (out883 : (List Span)) (atv884 : Int) (c879 : List Value) (p880 : Option Addr) (k881 : Nat) (Sv882 : Nat → Prop), span_Minus_j1 sv711 out883 atv884 = some tv838 ∧ Sl 68 [(1, .slice p11 rv10.length k12), (5, .slice p880 out883.length k881), (7, .pointer (some ⟨b710, 0, none⟩)), (8, .int .i64 atv884), (14, .slice (some ⟨b706, 0, none⟩) rv21.length k23), (15, .int .i64 (rv21.length : Int)), (16, .int .i64 sv31.2), (22, .slice p11 rv10.length k12), (23, .int .i64 (rv10.length : Int)), (24, .int .i64 sv711.2.2)] a ∧ Wd ⟨w0, S0, []⟩ Sv882 [.box b710 [.int .i64 x699.From, .int .i64 x699.To] 34, .row p11 rv10.length k12 c14 34 2, .row p880 out883.length k881 c879 34 2, .row (some ⟨b706, 0, none⟩) rv21.length k23 c25 34 2] [RowA c14 rv10, RowA c879 out883, RowA c25 rv21] w) ?_ ?_
     ·refine wp_block ?_
      refine wp_seq ?_
      refine wp_region_lit ?_
      obtain ⟨x887, h885, hsh⟩ := bind_t hsh
      obtain ⟨b894, q891, c892, h895, h888, h889, h893, h886⟩ := hw.elemRV (α := Span) 1 rfl 0 rfl h885
      have hsv896 := hs
      have hwv897 := hw
      subst h895
      have hs := hsv896
      have hw := hwv897
      obtain ⟨_, _, rfl, rfl, rfl⟩ := h886
      refine st_val hs (y_indexAt Try.runUnderlying25 Try.sizeOf34 rfl rfl h888.1 h888.2 h889) trivial rfl rfl fun a hs => ?_
      refine st_val hs (y_loadQA (j := 0) (hw.ownAt 1 rfl) rfl Try.isAgg34 Try.sizeOf34 h893 rfl rfl) trivial rfl rfl fun a hs => ?_
      refine w_alloc (cs := [.int .i64 0, .int .i64 0]) hs hw Try.zeroValue34 rfl rfl trivial ?_
      intro b898 a w hs hw
      refine w_store (m := 2) (cs' := [.int .i64 x887.From, .int .i64 x887.To]) hs hw 0 rfl rfl rfl Try.sizeOf34 rfl rfl rfl rfl trivial ?_
      intro a w hs hw
      refine wpList_nil ?_
      refine then_normal ?_
      refine wp_seq ?_
      refine wp_seq ?_
      refine wp_region_lit ?_
      refine st_val hs (y_fieldAddr (o' := 1) Try.runUnderlying34 rfl Try.sizeOf3 rfl rfl rfl) trivial rfl rfl fun a hs => ?_
      refine st_val hs (y_loadB1 (hw.ownAt 0 rfl) rfl Try.isAgg3 rfl) trivial rfl rfl fun a hs => ?_
      refine st_val hs (y_move rfl) trivial rfl rfl fun a hs => ?_
      refine st_val hs (y_leq rfl rfl) trivial rfl rfl fun a hs => ?_
      refine st_val hs (y_move rfl) trivial rfl rfl fun a hs => ?_
      refine wpl_join 6 (fun a w1 => w = w1 ∧ Sl 68 [(1, .slice (some ⟨b894, 0, none⟩) rv10.length k12), (5, .slice p795 sv711.1.length k796), (7, .pointer (some ⟨b710, 0, none⟩)), (8, .int .i64 sv711.2.1), (10, .pointer (some ⟨b898, 0, none⟩)), (14, .slice (some ⟨b706, 0, none⟩) rv21.length k23), (15, .int .i64 (rv21.length : Int)), (16, .int .i64 sv31.2), (22, .slice (some ⟨b894, 0, none⟩) rv10.length k12), (23, .int .i64 (rv10.length : Int)), (24, .int .i64 sv711.2.2), (38, .bool ((decide (x887.To ≤ sv711.2.1)) || (decide (x699.To ≤ x887.From))))] a) ?_ ?_
      ·rcases Bool.eq_false_or_eq_true (decide (x887.To ≤ sv711.2.1)) with h899 | h899
       ·have hs := hs.fix 32 (.bool true) rfl (vb h899)
        refine st_skip hs rfl rfl rfl rfl rfl fun a hs => ?_
        refine st_skip hs rfl rfl rfl rfl rfl fun a hs => ?_
        refine st_skip hs rfl rfl rfl rfl rfl fun a hs => ?_
        refine st_skip hs rfl rfl rfl rfl rfl fun a hs => ?_
        refine st_skip hs rfl rfl rfl rfl rfl fun a hs => ?_
        refine st_val hs (y_pickT rfl rfl) trivial rfl rfl fun a hs => ?_
        refine wpList_nil ?_
        refine then_normal ?_
        exact ⟨rfl, (hs.fix 38 (.bool ((decide (x887.To ≤ sv711.2.1)) || (decide (x699.To ≤ x887.From)))) rfl (or_t h899)).weaken _ ⟨rfl, rfl, rfl, rfl, rfl, rfl, rfl, rfl, rfl, rfl, rfl, rfl, trivial⟩⟩
       ·have hs := hs.fix 32 (.bool false) rfl (vb h899)
        refine st_val hs (y_fieldAddr (o' := 0) Try.runUnderlying34 rfl Try.sizeOf3 rfl rfl rfl) ⟨_, rfl, rfl⟩ rfl rfl fun a hs => ?_
        refine st_val hs (y_loadB1 (hw.ownAt 0 rfl) rfl Try.isAgg3 rfl) ⟨_, rfl, rfl⟩ rfl rfl fun a hs => ?_
        refine st_val hs (y_fieldAddr (o' := 1) Try.runUnderlying34 rfl Try.sizeOf3 rfl rfl rfl) ⟨_, rfl, rfl⟩ rfl rfl fun a hs => ?_
        refine st_val hs (y_loadB1 (hw.ownAt 1 rfl) rfl Try.isAgg3 rfl) ⟨_, rfl, rfl⟩ rfl rfl fun a hs => ?_
        refine st_val hs (y_geq rfl rfl) ⟨_, rfl, rfl⟩ rfl rfl fun a hs => ?_
        refine st_val hs (y_pickF rfl rfl) trivial rfl rfl fun a hs => ?_
        refine wpList_nil ?_
        refine then_normal ?_
        exact ⟨rfl, (hs.fix 38 (.bool ((decide (x887.To ≤ sv711.2.1)) || (decide (x699.To ≤ x887.From)))) rfl (or_f h899)).weaken _ ⟨rfl, rfl, rfl, rfl, rfl, rfl, rfl, rfl, rfl, rfl, rfl, rfl, trivial⟩⟩
      ·rintro a w1 ⟨h925, hs⟩
       subst h925
       refine wpList_nil ?_
       refine then_normal ?_
       refine wp_cond_split (hs.ev rfl) (fun h901 => ?_) (fun h901 => ?_)
       ·have hsh := ite_t hsh h901
        refine wp_exit ?_
        refine then_exit ?_
        refine blk_exit ?_
        refine then_normal ?_
        exact ⟨sv711.1, sv711.2.1, c794, p795, k796, Sv797, hsh, (hs.wk rfl), (hw.ft [1, 2, 3, 4] [0, 1, 2] (by decide) rfl rfl)⟩
       ·have hsh := ite_f hsh h901
        refine wp_skip ?_
        refine then_normal ?_
        refine wp_seq ?_
        refine wp_seq ?_
        refine wp_region_lit ?_
        refine st_val hs (y_move rfl) trivial rfl rfl fun a hs => ?_
        refine st_val hs (y_fieldAddr (o' := 0) Try.runUnderlying34 rfl Try.sizeOf3 rfl rfl rfl) trivial rfl rfl fun a hs => ?_
        refine st_val hs (y_loadB1 (hw.ownAt 0 rfl) rfl Try.isAgg3 rfl) trivial rfl rfl fun a hs => ?_
        refine st_val hs (y_lss rfl rfl) trivial rfl rfl fun a hs => ?_
        refine wpList_nil ?_
        refine then_normal ?_
        refine wp_join (fun a w => ∃ (out914 : (List Span)) (c910 : List Value) (p911 : Option Addr) (k912 : Nat) (Sv913 : Nat → Prop), span_Minus_j2 sv711 x887 out914 = some tv838 ∧ Sl 68 [(1, .slice (some ⟨b894, 0, none⟩) rv10.length k12), (5, .slice p911 out914.length k912), (7, .pointer (some ⟨b710, 0, none⟩)), (8, .int .i64 sv711.2.1), (10, .pointer (some ⟨b898, 0, none⟩)), (14, .slice (some ⟨b706, 0, none⟩) rv21.length k23), (15, .int .i64 (rv21.length : Int)), (16, .int .i64 sv31.2), (22, .slice (some ⟨b894, 0, none⟩) rv10.length k12), (23, .int .i64 (rv10.length : Int)), (24, .int .i64 sv711.2.2)] a ∧ Wd ⟨w0, S0, []⟩ Sv913 [.box b710 [.int .i64 x699.From, .int .i64 x699.To] 34, .box b898 [.int .i64 x887.From, .int .i64 x887.To] 34, .row (some ⟨b894, 0, none⟩) rv10.length k12 c14 34 2, .row p911 out914.length k912 c910 34 2, .row (some ⟨b706, 0, none⟩) rv21.length k23 c25 34 2] [RowA c14 rv10, RowA c910 out914, RowA c25 rv21] w) ?_ ?_
        ·refine wp_cond_split (hs.ev rfl) (fun h917 => ?_) (fun h917 => ?_)
         ·have hsh := ite_t hsh h917
          refine wp_region_lit ?_
          refine st_val hs (y_move rfl) trivial rfl rfl fun a hs => ?_
          refine st_val hs (y_move rfl) trivial rfl rfl fun a hs => ?_
          refine st_val hs (y_fieldAddr (o' := 0) Try.runUnderlying34 rfl Try.sizeOf3 rfl rfl rfl) trivial rfl rfl fun a hs => ?_
          refine st_val hs (y_loadB1 (hw.ownAt 0 rfl) rfl Try.isAgg3 rfl) trivial rfl rfl fun a hs => ?_
          refine st_val hs (y_build (vs := [(0, .int .i64 sv711.2.1), (1, .int .i64 x887.From)]) Bld34 rfl rfl) trivial rfl rfl fun a hs => ?_
          refine w_litSlice (α := Span) (vs := [.agg #[.int .i64 sv711.2.1, .int .i64 x887.From]]) (cs := [.int .i64 sv711.2.1, .int .i64 x887.From]) (xs := ([(⟨sv711.2.1, x887.From⟩ : Span)] : List Span)) hs hw El25 rfl rfl rfl rfl rfl rfl ⟨⟨_, _, rfl, rfl, rfl⟩, rfl⟩ rfl trivial rfl fun b919 a w hs hw => ?_
          obtain ⟨l921, h920, hsh⟩ := bind_t hsh
          refine w_appendR (α := Span) hs hw El25 4 rfl rfl rfl 2 rfl 0 rfl 0 rfl h920 rfl trivial ?_
          intro p922 k923 c924 a w hs hw
          refine st_val hs (y_assign rfl) trivial rfl rfl fun a hs => ?_
          refine wpList_nil ?_
          refine then_normal ?_
          exact ⟨l921, c924, p922, k923, Sv797, hsh, (hs.wk rfl), (hw.ft [2, 1, 3, 4, 5] [2, 0, 4] (by decide) rfl rfl)⟩
         ·have hsh := ite_f hsh h917
          refine wp_skip ?_
          refine then_normal ?_
          exact ⟨sv711.1, c794, p795, k796, Sv797, hsh, (hs.wk rfl), (hw.ft [1, 0, 2, 3, 4] [0, 1, 2] (by decide) rfl rfl)⟩
        ·rintro a w ⟨out914, c910, p911, k912, Sv913, hsh, hs, hw⟩
         delta span_Minus_j2 at hsh
         refine then_normal ?_
         refine wp_region_lit ?_
         refine st_val hs (y_move rfl) trivial rfl rfl fun a hs => ?_
         refine st_val hs (y_fieldAddr (o' := 1) Try.runUnderlying34 rfl Try.sizeOf3 rfl rfl rfl) trivial rfl rfl fun a hs => ?_
         refine st_val hs (y_loadB1 (hw.ownAt 1 rfl) rfl Try.isAgg3 rfl) trivial rfl rfl fun a hs => ?_
         refine st_val hs (y_max rfl rfl) trivial rfl rfl fun a hs => ?_
         obtain ⟨atv916, h915, hsh⟩ := bind_t hsh
         refine st_val hs (y_assignI rfl h915) trivial rfl rfl fun a hs => ?_
         refine wpList_nil ?_
         refine blk_normal ?_
         refine then_normal ?_
         exact ⟨out914, atv916, c910, p911, k912, Sv913, hsh, (hs.wk rfl), (hw.ft [0, 2, 3, 4] [0, 1, 2] (by decide) rfl rfl)⟩
     ·rintro a w ⟨out883, atv884, c879, p880, k881, Sv882, hsh, hs, hw⟩
      delta span_Minus_j1 at hsh
      refine then_normal ?_
      refine wp_region_lit ?_
      refine st_val hs (y_add rfl rfl) trivial rfl rfl fun a hs => ?_
      refine st_val hs (y_move rfl) trivial rfl rfl fun a hs => ?_
      refine wpList_nil ?_
      refine then_normal ?_
      exact ⟨_, (Option.some.inj hsh).symm, c879, p880, k881, Sv882, (hs.wk rfl), (hw.ft [0, 1, 2, 3] [0, 1, 2] (by decide) rfl rfl)⟩
    ·have hsh := ite_f hsh h846
     refine wp_exit ?_
     refine then_exit ?_
     refine then_exit ?_
     refine blk_exit ?_
     have hsh := Option.some.inj hsh
     subst hsh
     have h926 := hd837 _ rfl
     subst h926
     refine then_normal ?_
     exact ⟨c794, p795, k796, Sv797, (hs.wk rfl), (hw.ft [0, 1, 2, 3] [0, 1, 2] (by decide) rfl rfl)⟩
   ·rintro a w ⟨c841, p842, k843, Sv844, hs, hw⟩
    refine then_normal ?_
    refine wp_seq ?_
    refine wp_region_lit ?_
    refine st_val hs (y_move rfl) trivial rfl rfl fun a hs => ?_
    refine st_val hs (y_fieldAddr (o' := 1) Try.runUnderlying34 rfl Try.sizeOf3 rfl rfl rfl) trivial rfl rfl fun a hs => ?_
    refine st_val hs (y_loadB1 (hw.ownAt 0 rfl) rfl Try.isAgg3 rfl) trivial rfl rfl fun a hs => ?_
    refine st_val hs (y_lss rfl rfl) trivial rfl rfl fun a hs => ?_
    refine wpList_nil ?_
    refine then_normal ?_
    refine wp_join (fun a w => ∃ (out939 : (List Span)) (c935 : List Value) (p936 : Option Addr) (k937 : Nat) (Sv938 : Nat → Prop), span_Minus_j4 sv31 out939 = some tv527 ∧ Sl 68 [(1, .slice p11 rv10.length k12), (5, .slice p936 out939.length k937), (14, .slice (some ⟨b706, 0, none⟩) rv21.length k23), (15, .int .i64 (rv21.length : Int)), (16, .int .i64 sv31.2)] a ∧ Wd ⟨w0, S0, []⟩ Sv938 [.row p11 rv10.length k12 c14 34 2, .row p936 out939.length k937 c935 34 2, .row (some ⟨b706, 0, none⟩) rv21.length k23 c25 34 2] [RowA c14 rv10, RowA c935 out939, RowA c25 rv21] w) ?_ ?_
    ·refine wp_cond_split (hs.ev rfl) (fun h940 => ?_) (fun h940 => ?_)
     ·have hsh := ite_t hsh h940
      refine wp_region_lit ?_
      refine st_val hs (y_move rfl) trivial rfl rfl fun a hs => ?_
      refine st_val hs (y_move rfl) trivial rfl rfl fun a hs => ?_
      refine st_val hs (y_fieldAddr (o' := 1) Try.runUnderlying34 rfl Try.sizeOf3 rfl rfl rfl) trivial rfl rfl fun a hs => ?_
      refine st_val hs (y_loadB1 (hw.ownAt 0 rfl) rfl Try.isAgg3 rfl) trivial rfl rfl fun a hs => ?_
      refine st_val hs (y_build (vs := [(0, .int .i64 e840.2), (1, .int .i64 x699.To)]) Bld34 rfl rfl) trivial rfl rfl fun a hs => ?_
      refine w_litSlice (α := Span) (vs := [.agg #[.int .i64 e840.2, .int .i64 x699.To]]) (cs := [.int .i64 e840.2, .int .i64 x699.To]) (xs := ([(⟨e840.2, x699.To⟩ : Span)] : List Span)) hs hw El25 rfl rfl rfl rfl rfl rfl ⟨⟨_, _, rfl, rfl, rfl⟩, rfl⟩ rfl trivial rfl fun b942 a w hs hw => ?_
      obtain ⟨l944, h943, hsh⟩ := bind_t hsh
      refine w_appendR (α := Span) hs hw El25 3 rfl rfl rfl 2 rfl 0 rfl 0 rfl h943 rfl trivial ?_
      intro p945 k946 c947 a w hs hw
      refine st_val hs (y_assign rfl) trivial rfl rfl fun a hs => ?_
      refine wpList_nil ?_
      refine then_normal ?_
      exact ⟨l944, c947, p945, k946, Sv844, hsh, (hs.wk rfl), (hw.ft [2, 3, 4] [2, 0, 4] (by decide) rfl rfl)⟩
     ·have hsh := ite_f hsh h940
      refine wp_skip ?_
      refine then_normal ?_
      exact ⟨e840.1, c841, p842, k843, Sv844, hsh, (hs.wk rfl), (hw.ft [1, 2, 3] [0, 1, 2] (by decide) rfl rfl)⟩
    ·rintro a w ⟨out939, c935, p936, k937, Sv938, hsh, hs, hw⟩
     delta span_Minus_j4 at hsh
     refine blk_normal ?_
     refine then_normal ?_
     refine wp_region_lit ?_
     refine st_val hs (y_add rfl rfl) trivial rfl rfl fun a hs => ?_
     refine st_val hs (y_move rfl) trivial rfl rfl fun a hs => ?_
     refine wpList_nil ?_
     refine then_normal ?_
     exact ⟨_, (Option.some.inj hsh).symm, c935, p936, k937, Sv938, (hs.wk rfl), (hw.ft [0, 1, 2] [0, 1, 2] (by decide) rfl rfl)⟩
  ·have hsh := ite_f hsh h535
   refine wp_exit ?_
   refine then_exit ?_
   refine then_exit ?_
   refine blk_exit ?_
   have hsh := Option.some.inj hsh
   subst hsh
   have h949 := hd526 _ rfl
   subst h949
   refine then_normal ?_
   exact ⟨c360, p361, k362, Sv363, (hs.wk rfl), (hw.ft [1] [1] (by decide) rfl rfl)⟩
 ·rintro a w ⟨c530, p531, k532, Sv533, hs, hw⟩
  refine then_normal ?_
  refine wp_seq ?_
  refine wp_region_lit ?_
  refine st_val hs (y_move rfl) trivial rfl rfl fun a hs => ?_
  refine st_val hs (y_assign rfl) trivial rfl rfl fun a hs => ?_
  refine wpList_nil ?_
  refine then_normal ?_
  have hsh := Option.some.inj hsh
  subst hsh
  refine wp_ret ?_
  exact ret1 hs rfl (rv_tmp rfl) (hw.ret ⟨p531, k532, c530, rfl, (hw.outs [0] (by decide) rfl), (hw.envAt 0 rfl)⟩)

abbrev span_Shift_rd (w0 : World) (X : List Nat) (r : ((List Span) × Int)) : (Nat → Prop) → World → Value → Prop := fun S w v => ∃ (p0_0 : Option Addr) (k0_0 : Nat) (c0_0 : List Value), v = .tuple #[.slice p0_0 r.1.length k0_0, .int .i64 r.2] ∧ Outs X w0 S w [.row p0_0 r.1.length k0_0 c0_0 34 2] ∧ (RowA c0_0 r.1).p S w
set_option maxHeartbeats 4000000 in
set_option maxRecDepth 100000 in
theorem span_Shift_ok {w0 : World} {S0 : Nat → Prop} {p2 : Option Addr} {k3 : Nat} {l1 : (List Span)} {by5 : Int} {r : ((List Span) × Int)} (hsh : span_Shift l1 by5 = some r) (hS : ∀ b, S0 b → b < w0.heap.size) (h4 : (SlA p2 l1.length k3 l1).p S0 w0) : Calls Try.prog 14 #[.slice p2 l1.length k3, .int .i64 by5] w0 (Ret ([]) w0 S0 (span_Shift_rd w0 ([]) r)) := by
 refine calls_of_wp Try.func14 rfl ?_
 have hs := Sl.enter #[.slice p2 l1.length k3, .int .i64 by5] 46 [(0, .slice p2 l1.length k3), (1, .int .i64 by5)] rfl ⟨rfl, rfl, trivial⟩
 have hw := Wd.enter (E := []) hS (fun _ h => (by cases h))
 have hw := hw.addE h4
 delta span_Shift at hsh
 refine wp_seq ?_
 refine wp_region_lit ?_
 refine st_val hs (y_assign rfl) trivial rfl rfl fun a hs => ?_
 refine st_val hs (y_assign rfl) trivial rfl rfl fun a hs => ?_
 refine wpList_nil ?_
 refine then_normal ?_
 refine wp_seq ?_
 refine wp_region_lit ?_
 refine st_val hs (y_move rfl) trivial rfl rfl fun a hs => ?_
 obtain ⟨rv7, h6, hsh⟩ := bind_t hsh
 refine st_callR hs (span_Normal_ok h6 hw.dom (hw.envAt 0 rfl)) (do_call Try.call16 rfl) trivial rfl rfl ?_
 intro v15 Sv12 w a h13 h14 hs
 obtain ⟨p8, k9, c11, rfl, h16, h10⟩ := h14
 have hw := hw.callN h13 h16
 have hw := hw.addE (e := RowA c11 rv7) h10
 refine st_val hs (y_assign rfl) trivial rfl rfl fun a hs => ?_
 refine wpList_nil ?_
 refine then_normal ?_
 refine wp_seq ?_
 refine wp_seq ?_
 refine wp_region_lit ?_
 refine st_val hs (y_move rfl) trivial rfl rfl fun a hs => ?_
 refine st_val hs (y_lss rfl rfl) trivial rfl rfl fun a hs => ?_
 refine st_val hs (y_move rfl) trivial rfl rfl fun a hs => ?_
 refine wpl_join 3 (fun a w1 => w = w1 ∧ Sl 46 [(1, .int .i64 by5), (6, .slice p8 rv7.length k9), (15, .bool ((decide (by5 < (-1152921504606846976))) || (decide (1152921504606846976 < by5))))] a) ?_ ?_
 ·rcases Bool.eq_false_or_eq_true (decide (by5 < (-1152921504606846976))) with h17 | h17
  ·have hs := hs.fix 12 (.bool true) rfl (vb h17)
   refine st_skip hs rfl rfl rfl rfl rfl fun a hs => ?_
   refine st_skip hs rfl rfl rfl rfl rfl fun a hs => ?_
   refine st_val hs (y_pickT rfl rfl) trivial rfl rfl fun a hs => ?_
   refine wpList_nil ?_
   refine then_normal ?_
   exact ⟨rfl, (hs.fix 15 (.bool ((decide (by5 < (-1152921504606846976))) || (decide (1152921504606846976 < by5)))) rfl (or_t h17)).weaken _ ⟨rfl, rfl, rfl, trivial⟩⟩
  ·have hs := hs.fix 12 (.bool false) rfl (vb h17)
   refine st_val hs (y_move rfl) ⟨_, rfl, rfl⟩ rfl rfl fun a hs => ?_
   refine st_val hs (y_gtr rfl rfl) ⟨_, rfl, rfl⟩ rfl rfl fun a hs => ?_
   refine st_val hs (y_pickF rfl rfl) trivial rfl rfl fun a hs => ?_
   refine wpList_nil ?_
   refine then_normal ?_
   exact ⟨rfl, (hs.fix 15 (.bool ((decide (by5 < (-1152921504606846976))) || (decide (1152921504606846976 < by5)))) rfl (or_f h17)).weaken _ ⟨rfl, rfl, rfl, trivial⟩⟩
 ·rintro a w1 ⟨h301, hs⟩
  subst h301
  refine st_val hs (y_move rfl) trivial rfl rfl fun a hs => ?_
  obtain ⟨c26, hc26, hsh⟩ := bind_t hsh
  refine wpl_join 4 (fun a w => ∃ (Sv27 : Nat → Prop), Sl 46 [(1, .int .i64 by5), (6, .slice p8 rv7.length k9), (20, .bool c26)] a ∧ Wd ⟨w0, S0, []⟩ Sv27 [.row p8 rv7.length k9 c11 34 2] [RowA c11 rv7] w) ?_ ?_
  ·rcases Bool.eq_false_or_eq_true ((decide (by5 < (-1152921504606846976))) || (decide (1152921504606846976 < by5))) with h25 | h25
   ·have hs := hs.fix 16 (.bool true) rfl (vb h25)
    have hsh := ite_t hc26 h25
    refine st_skip hs rfl rfl rfl rfl rfl fun a hs => ?_
    refine st_skip hs rfl rfl rfl rfl rfl fun a hs => ?_
    refine st_skip hs rfl rfl rfl rfl rfl fun a hs => ?_
    refine st_val hs (y_pickT rfl rfl) trivial rfl rfl fun a hs => ?_
    refine wpList_nil ?_
    have hsh := Option.some.inj hsh
    subst hsh
    refine then_normal ?_
    exact ⟨Sv12, (hs.wk rfl), (hw.ft [0] [0] (by decide) rfl rfl)⟩
   ·have hs := hs.fix 16 (.bool false) rfl (vb h25)
    have hsh := ite_f hc26 h25
    refine st_val hs (y_move rfl) ⟨_, rfl, rfl⟩ rfl rfl fun a hs => ?_
    obtain ⟨rv29, h28, hsh⟩ := bind_t hsh
    refine st_callR hs (span_near_ok h28 hw.bdom (hw.bRow 0 rfl 0 rfl)) (do_call Try.call33 rfl) ⟨_, rfl, rfl⟩ rfl rfl ?_
    intro v33 Sv30 w a h31 h32 hs
    subst h32
    have hw := hw.callB h31
    refine st_val hs (y_not rfl) ⟨_, rfl, rfl⟩ rfl rfl fun a hs => ?_
    refine st_val hs (y_pickF rfl rfl) trivial rfl rfl fun a hs => ?_
    refine wpList_nil ?_
    have hsh := Option.some.inj hsh
    subst hsh
    refine then_normal ?_
    exact ⟨Sv12, (hs.wk rfl), (hw.ft [0] [0] (by decide) rfl rfl)⟩
  ·rintro a w ⟨Sv27, hs, hw⟩
   refine wpList_nil ?_
   refine then_normal ?_
   refine wp_cond_split (hs.ev rfl) (fun h36 => ?_) (fun h36 => ?_)
   ·have hsh := ite_t hsh h36
    refine wp_seq ?_
    refine wp_region_lit ?_
    refine st_val hs (y_assign rfl) trivial rfl rfl fun a hs => ?_
    refine st_val hs (y_assign rfl) trivial rfl rfl fun a hs => ?_
    refine wpList_nil ?_
    refine then_normal ?_
    have hsh := Option.some.inj hsh
    subst hsh
    have hw := hw.nilRow Span 34
    refine wp_ret ?_
    refine then_ret ?_
    exact ret2 hs rfl (rv_tmp rfl) (rv_tmp rfl) (hw.ret ⟨none, 0, [], rfl, (hw.outs [0] (by decide) rfl), (hw.envAt 0 rfl)⟩)
   ·have hsh := ite_f hsh h36
    refine wp_skip ?_
    refine then_normal ?_
    refine wp_seq ?_
    refine wp_seq ?_
    refine wp_region_lit ?_
    refine st_val hs (y_move rfl) trivial rfl rfl fun a hs => ?_
    refine st_val hs (y_len Try.runUnderlying25 rfl) trivial rfl rfl fun a hs => ?_
    refine st_val hs (y_move rfl) trivial rfl rfl fun a hs => ?_
    refine wpList_nil ?_
    refine then_normal ?_
    obtain ⟨e196, h300, hsh⟩ := bind_t hsh
    refine wp_join (fun a w => ∃ (c197 : List Value) (p198 : Option Addr) (k199 : Nat) (Sv200 : Nat → Prop), Sl 46 [(6, .slice p198 e196.length k199)] a ∧ Wd ⟨w0, S0, []⟩ Sv200 [.row p198 e196.length k199 c197 34 2] [RowA c197 e196] w) ?_ ?_
    ·refine wp_block ?_
     refine wp_while (fun sv37 a w => ∃ (c140 : List Value) (p141 : Option Addr) (k142 : Nat) (Sv143 : Nat → Prop), Sl 46 [(1, .int .i64 by5), (6, .slice p141 sv37.1.length k142), (22, .int .i64 (rv7.length : Int)), (23, .int .i64 sv37.2)] a ∧ Wd ⟨w0, S0, []⟩ Sv143 [.row p141 sv37.1.length k142 c140 34 2] [RowA c140 sv37.1] w) (rv7, 0) h300 ⟨c11, p8, k9, Sv27, (hs.wk rfl), (hw.ft [0] [0] (by decide) rfl rfl)⟩ ?_
     clear h300
     repeat clear hsh
     rintro sv37 a w tv194 ⟨c140, p141, k142, Sv143, hs, hw⟩ hsh hd193
     delta span_Shift_l1 at hsh
     refine wp_seq ?_
     refine wp_region_lit ?_
     refine st_val hs (y_lss rfl rfl) trivial rfl rfl fun a hs => ?_
     refine wpList_nil ?_
     refine then_normal ?_
     refine wp_seq ?_
     refine wp_cond_split (hs.ev rfl) (fun h202 => ?_) (fun h202 => ?_)
     ·have hsh := ite_t hsh h202
      refine wp_skip ?_
      refine then_normal ?_
      refine wp_seq ?_
      refine wp_block ?_
      refine wp_seq ?_
      refine wp_region_lit ?_
      refine st_val hs (y_move rfl) trivial rfl rfl fun a hs => ?_
      refine st_val hs (y_assign rfl) trivial rfl rfl fun a hs => ?_
      refine wpList_nil ?_
      refine then_normal ?_
      refine wp_seq ?_
      refine wp_region_lit ?_
      refine st_val hs (y_move rfl) trivial rfl rfl fun a hs => ?_
      refine st_val hs (y_move rfl) trivial rfl rfl fun a hs => ?_
      obtain ⟨x253, h251, hsh⟩ := bind_t hsh
      obtain ⟨b260, q257, c258, h261, h254, h255, h259, h252⟩ := hw.elemRV (α := Span) 0 rfl 0 rfl h251
      have hsv262 := hs
      have hwv263 := hw
      subst h261
      have hs := hsv262
      have hw := hwv263
      obtain ⟨_, _, rfl, rfl, rfl⟩ := h252
      refine st_val hs (y_indexAt Try.runUnderlying25 Try.sizeOf34 rfl rfl h254.1 h254.2 h255) trivial rfl rfl fun a hs => ?_
      refine st_val hs (y_fieldAddr (o' := q257 + 0) Try.runUnderlying34 rfl Try.sizeOf3 rfl rfl rfl) trivial rfl rfl fun a hs => ?_
      refine st_val hs (y_loadQ1 (j := 0) (hw.ownAt 0 rfl) rfl Try.isAgg3 h259 rfl) trivial rfl rfl fun a hs => ?_
      refine st_val hs (y_move rfl) trivial rfl rfl fun a hs => ?_
      refine st_val hs (y_add rfl rfl) trivial rfl rfl fun a hs => ?_
      obtain ⟨x266, h264, hsh⟩ := bind_t hsh
      obtain ⟨q270, c271, h267, h268, h272, h265⟩ := hw.elemRK (α := Span) 0 rfl 0 rfl h264
      obtain ⟨_, _, rfl, rfl, rfl⟩ := h265
      refine st_val hs (y_indexAt Try.runUnderlying25 Try.sizeOf34 rfl rfl h267.1 h267.2 h268) trivial rfl rfl fun a hs => ?_
      refine st_val hs (y_fieldAddr (o' := q270 + 0) Try.runUnderlying34 rfl Try.sizeOf3 rfl rfl rfl) trivial rfl rfl fun a hs => ?_
      obtain ⟨l274, h273, hsh⟩ := bind_t hsh
      refine w_storeR (α := Span) (f := 0) (m := 1) hs hw 0 rfl 0 rfl h268 rfl rfl Try.sizeOf3 rfl rfl rfl h273 (fun es he => by rw [h272] at he; subst he; exact ⟨_, _, rfl, rfl, rfl⟩) trivial ?_
      intro c275 a w hs hw
      have h276 := setM_len h273
      try have hs := hs.fix 6 (.slice (some ⟨b260, 0, none⟩) l274.length k142) rfl (by rw [h276])
      try have hs := hs.fix 26 (.slice (some ⟨b260, 0, none⟩) l274.length k142) rfl (by rw [h276])
      refine wpList_nil ?_
      refine then_normal ?_
      refine wp_region_lit ?_
      refine st_val hs (y_move rfl) trivial rfl rfl fun a hs => ?_
      refine st_val hs (y_move rfl) trivial rfl rfl fun a hs => ?_
      obtain ⟨x279, h277, hsh⟩ := bind_t hsh
      obtain ⟨q283, c284, h280, h281, h285, h278⟩ := hw.elemRK (α := Span) 0 rfl 0 rfl h277
      obtain ⟨_, _, rfl, rfl, rfl⟩ := h278
      refine st_val hs (y_indexAt Try.runUnderlying25 Try.sizeOf34 rfl rfl h280.1 h280.2 h281) trivial rfl rfl fun a hs => ?_
      refine st_val hs (y_fieldAddr (o' := q283 + 1) Try.runUnderlying34 rfl Try.sizeOf3 rfl rfl rfl) trivial rfl rfl fun a hs => ?_
      refine st_val hs (y_loadQ1 (j := 1) (hw.ownAt 0 rfl) rfl Try.isAgg3 h285 rfl) trivial rfl rfl fun a hs => ?_
      refine st_val hs (y_move rfl) trivial rfl rfl fun a hs => ?_
      refine st_val hs (y_add rfl rfl) trivial rfl rfl fun a hs => ?_
      obtain ⟨x288, h286, hsh⟩ := bind_t hsh
      obtain ⟨q292, c293, h289, h290, h294, h287⟩ := hw.elemRK (α := Span) 0 rfl 0 rfl h286
      obtain ⟨_, _, rfl, rfl, rfl⟩ := h287
      refine st_val hs (y_indexAt Try.runUnderlying25 Try.sizeOf34 rfl rfl h289.1 h289.2 h290) trivial rfl rfl fun a hs => ?_
      refine st_val hs (y_fieldAddr (o' := q292 + 1) Try.runUnderlying34 rfl Try.sizeOf3 rfl rfl rfl) trivial rfl rfl fun a hs => ?_
      obtain ⟨l296, h295, hsh⟩ := bind_t hsh
      refine w_storeR (α := Span) (f := 1) (m := 1) hs hw 0 rfl 0 rfl h290 rfl rfl Try.sizeOf3 rfl rfl rfl h295 (fun es he => by rw [h294] at he; subst he; exact ⟨_, _, rfl, rfl, rfl⟩) trivial ?_
      intro c297 a w hs hw
      have h298 := setM_len h295
      try have hs := hs.fix 6 (.slice (some ⟨b260, 0, none⟩) l296.length k142) rfl (by rw [h298])
      try have hs := hs.fix 35 (.slice (some ⟨b260, 0, none⟩) l296.length k142) rfl (by rw [h298])
      refine wpList_nil ?_
      refine blk_normal ?_
      refine then_normal ?_
      refine wp_region_lit ?_
      refine st_val hs (y_add rfl rfl) trivial rfl rfl fun a hs => ?_
      refine st_val hs (y_move rfl) trivial rfl rfl fun a hs => ?_
      refine wpList_nil ?_
      refine then_normal ?_
      exact ⟨_, (Option.some.inj hsh).symm, c297, (some ⟨b260, 0, none⟩), k142, Sv143, (hs.wk rfl), (hw.ft [0] [0] (by decide) rfl rfl)⟩
     ·have hsh := ite_f hsh h202
      refine wp_exit ?_
      refine then_exit ?_
      refine then_exit ?_
      refine blk_exit ?_
      have hsh := Option.some.inj hsh
      subst hsh
      have h299 := hd193 _ rfl
      subst h299
      refine then_normal ?_
      exact ⟨c140, p141, k142, Sv143, (hs.wk rfl), (hw.ft [0] [0] (by decide) rfl rfl)⟩
    ·rintro a w ⟨c197, p198, k199, Sv200, hs, hw⟩
     refine then_normal ?_
     refine wp_seq ?_
     refine wp_region_lit ?_
     refine st_val hs (y_move rfl) trivial rfl rfl fun a hs => ?_
     refine st_val hs (y_assign rfl) trivial rfl rfl fun a hs => ?_
     refine st_val hs (y_assign rfl) trivial rfl rfl fun a hs => ?_
     refine wpList_nil ?_
     refine then_normal ?_
     have hsh := Option.some.inj hsh
     subst hsh
     refine wp_ret ?_
     exact ret2 hs rfl (rv_tmp rfl) (rv_tmp rfl) (hw.ret ⟨p198, k199, c197, rfl, (hw.outs [0] (by decide) rfl), (hw.envAt 0 rfl)⟩)

abbrev law08_SpanNumbers_rd (w0 : World) (X : List Nat) (r : Bool) : (Nat → Prop) → World → Value → Prop := fun S w v => v = .bool r
set_option maxHeartbeats 4000000 in
set_option maxRecDepth 100000 in
theorem law08_SpanNumbers_ok {w0 : World} {S0 : Nat → Prop} {p2 : Option Addr} {k3 : Nat} {t1 : (List Int)} {n5 : Int} {by6 : Int} {r : Bool} (hsh : law08_SpanNumbers t1 n5 by6 = some r) (hS : ∀ b, S0 b → b < w0.heap.size) (h4 : (SlA p2 t1.length k3 t1).p S0 w0) : Calls Try.prog 3 #[.slice p2 t1.length k3, .int .u8 n5, .int .i32 by6] w0 (Ret ([]) w0 S0 (law08_SpanNumbers_rd w0 ([]) r)) := by
 refine calls_of_wp Try.func3 rfl ?_
 have hs := Sl.enter #[.slice p2 t1.length k3, .int .u8 n5, .int .i32 by6] 146 [(0, .slice p2 t1.length k3), (1, .int .u8 n5), (2, .int .i32 by6)] rfl ⟨rfl, rfl, rfl, trivial⟩
 have hw := Wd.enter (E := []) hS (fun _ h => (by cases h))
 have hw := hw.addE h4
 delta law08_SpanNumbers at hsh
 refine wp_seq ?_
 refine wp_region_lit ?_
 refine st_val hs (y_assign rfl) trivial rfl rfl fun a hs => ?_
 refine wpList_nil ?_
 refine then_normal ?_
 refine wp_seq ?_
 refine wp_seq ?_
 refine wp_region_lit ?_
 refine st_val hs (y_move rfl) trivial rfl rfl fun a hs => ?_
 obtain ⟨rv8, h7, hsh⟩ := bind_t hsh
 refine st_callR hs (made_Light_ok h7 hw.bdom (hw.bE 0 rfl)) (do_call Try.call7 rfl) trivial rfl rfl ?_
 intro v12 Sv9 w a h10 h11 hs
 subst h11
 have hw := hw.callB h10
 refine st_val hs (y_not rfl) trivial rfl rfl fun a hs => ?_
 refine wpList_nil ?_
 refine then_normal ?_
 refine wp_cond_split (hs.ev rfl) (fun h22 => ?_) (fun h22 => ?_)
 ·have hsh := ite_t hsh h22
  refine wp_seq ?_
  refine wp_region_lit ?_
  obtain ⟨rv24, h23, hsh⟩ := bind_t hsh
  refine st_callR hs (law08_sane_ok h23 hw.bdom) (do_call Try.call8 rfl) trivial rfl rfl ?_
  intro v28 Sv25 w a h26 h27 hs
  subst h27
  have hw := hw.callB h26
  refine st_val hs (y_assign rfl) trivial rfl rfl fun a hs => ?_
  refine wpList_nil ?_
  refine then_normal ?_
  have hsh := Option.some.inj hsh
  subst hsh
  refine wp_ret ?_
  refine then_ret ?_
  exact ret1 hs rfl (rv_tmp rfl) (hw.ret rfl)
 ·have hsh := ite_f hsh h22
  refine wp_skip ?_
  refine then_normal ?_
  refine wp_seq ?_
  refine wp_region_lit ?_
  refine st_val hs (y_move rfl) trivial rfl rfl fun a hs => ?_
  obtain ⟨rv31, h30, hsh⟩ := bind_t hsh
  refine st_callR hs (made_Roll_ok h30 hw.dom (hw.envAt 0 rfl)) (do_call Try.call9 rfl) trivial rfl rfl ?_
  intro v39 Sv36 w a h37 h38 hs
  obtain ⟨b32, p33, k34, rfl, h40, h35⟩ := h38
  have hw := hw.callN h37 h40
  have hw := hw.addE (e := SlA p33 rv31.L.length k34 rv31.L) h35
  obtain ⟨rv42, h41, hsh⟩ := bind_t hsh
  refine st_callR hs (made_Dice_Spans_ok h41 hw.dom (hw.ins [0] (by decide) rfl) (hw.envAt 0 rfl)) (do_call Try.call10 rfl) trivial rfl rfl ?_
  intro v53 Sv50 w a h51 h52 hs
  obtain ⟨p43, k44, c46, p47, k48, rfl, h54, h45, h49⟩ := h52
  have hw := hw.callO [0] [] (by decide) rfl h51 h54
  have hw := hw.addE (e := RowA c46 rv42.1) h45
  have hw := hw.addE (e := SlA p47 rv42.2.L.length k48 rv42.2.L) h49
  refine st_val hs (y_assign rfl) trivial rfl rfl fun a hs => ?_
  refine wpList_nil ?_
  refine then_normal ?_
  refine wp_seq ?_
  refine wp_region_lit ?_
  refine st_val hs (y_move rfl) trivial rfl rfl fun a hs => ?_
  obtain ⟨rv56, h55, hsh⟩ := bind_t hsh
  refine st_callR hs (span_Length_ok h55 hw.bdom (hw.bRow 0 rfl 1 rfl)) (do_call Try.call11 rfl) trivial rfl rfl ?_
  intro v60 Sv57 w a h58 h59 hs
  subst h59
  have hw := hw.callB h58
  refine st_val hs (y_move rfl) trivial rfl rfl fun a hs => ?_
  refine st_val hs (y_extract rfl rfl) trivial rfl rfl fun a hs => ?_
  refine st_val hs (y_extract rfl rfl) trivial rfl rfl fun a hs => ?_
  refine st_val hs (y_assign rfl) trivial rfl rfl fun a hs => ?_
  refine st_val hs (y_assign rfl) trivial rfl rfl fun a hs => ?_
  refine wpList_nil ?_
  refine then_normal ?_
  refine wp_seq ?_
  refine wp_region_lit ?_
  refine st_val hs (y_move rfl) trivial rfl rfl fun a hs => ?_
  refine st_val hs (y_move rfl) trivial rfl rfl fun a hs => ?_
  refine st_val hs (y_convert Try.runUnderlying5 Try.runUnderlying3 rfl) trivial rfl rfl fun a hs => ?_
  refine st_val hs (y_rem rfl rfl (by decide)) trivial rfl rfl fun a hs => ?_
  obtain ⟨rv63, h62, hsh⟩ := bind_t hsh
  obtain ⟨Sv68, hw⟩ := w_share (α := Span) hw 0 rfl 1 rfl
  refine st_callR hs (span_First_ok h62 hw.dom (hw.envAt 0 rfl)) (do_call Try.call12 rfl) trivial rfl rfl ?_
  intro v72 Sv69 w a h70 h71 hs
  obtain ⟨p64, k65, c67, rfl, h73, h66⟩ := h71
  have hw := hw.callN h70 h73
  have hw := hw.addE (e := RowA c67 rv63) h66
  refine st_val hs (y_assign rfl) trivial rfl rfl fun a hs => ?_
  refine wpList_nil ?_
  refine then_normal ?_
  refine wp_seq ?_
  refine wp_region_lit ?_
  refine st_val hs (y_move rfl) trivial rfl rfl fun a hs => ?_
  obtain ⟨rv75, h74, hsh⟩ := bind_t hsh
  refine st_callR hs (span_Length_ok h74 hw.bdom (hw.bRow 0 rfl 0 rfl)) (do_call Try.call11 rfl) trivial rfl rfl ?_
  intro v79 Sv76 w a h77 h78 hs
  subst h78
  have hw := hw.callB h77
  refine st_val hs (y_move rfl) trivial rfl rfl fun a hs => ?_
  refine st_val hs (y_extract rfl rfl) trivial rfl rfl fun a hs => ?_
  refine st_val hs (y_extract rfl rfl) trivial rfl rfl fun a hs => ?_
  refine st_val hs (y_assign rfl) trivial rfl rfl fun a hs => ?_
  refine st_val hs (y_assign rfl) trivial rfl rfl fun a hs => ?_
  refine wpList_nil ?_
  refine then_normal ?_
  refine wp_seq ?_
  refine wp_region_lit ?_
  refine st_val hs (y_move rfl) trivial rfl rfl fun a hs => ?_
  refine st_val hs (y_move rfl) trivial rfl rfl fun a hs => ?_
  obtain ⟨rv82, h81, hsh⟩ := bind_t hsh
  obtain ⟨Sv87, hw⟩ := w_share (α := Span) hw 0 rfl 0 rfl
  refine st_callR hs (span_Minus_ok h81 hw.dom (hw.envAt 2 rfl) (hw.envAt 0 rfl)) (do_call Try.call13 rfl) trivial rfl rfl ?_
  intro v91 Sv88 w a h89 h90 hs
  obtain ⟨p83, k84, c86, rfl, h92, h85⟩ := h90
  have hw := hw.callN h89 h92
  have hw := hw.addE (e := RowA c86 rv82) h85
  refine st_val hs (y_assign rfl) trivial rfl rfl fun a hs => ?_
  refine wpList_nil ?_
  refine then_normal ?_
  refine wp_seq ?_
  refine wp_seq ?_
  obtain ⟨c120, hc120, hsh⟩ := bind_t hsh
  refine wp_only (fun a w => ∃ (Sv121 : Nat → Prop), Sl 146 [(2, .int .i32 by6), (7, .slice p43 rv42.1.length k44), (8, .int .i64 rv56.1), (83, .bool c120)] a ∧ Wd ⟨w0, S0, []⟩ Sv121 [] [SlA p43 rv42.1.length k44 rv42.1] w) ?_ ?_
  ·rcases Bool.eq_false_or_eq_true (!rv56.2) with h122 | h122
   ·have h124 : ((!rv56.2) || (!rv75.2)) = true := by rw [h122]; rfl
    have h126 : (((!rv56.2) || (!rv75.2)) || (rv75.1 != (min (Int.tmod (w64 n5) 20) rv56.1))) = true := by rw [h124]; rfl
    have h127 := ite_t hc120 h126
    refine h_b (C := Cls [.row p83 rv82.length k84 c86 34 2, .box b32 [.slice p47 rv42.2.L.length k48, .int .i64 rv42.2.At] 50] []) (by kernel_rfl) rfl (hw.drew.cs [0, 1] [] rfl rfl) fun hC => ?_
    have hw := hw.drew
    refine h_g hs 0 rfl (by kernel_rfl) rfl rfl hC rfl (fun w hC => y_move rfl) fun a hs => ?_
    refine h_g hs 1 rfl (by kernel_rfl) rfl rfl hC rfl (fun w hC => y_not rfl) fun a hs => ?_
    refine h_g hs 2 rfl (by kernel_rfl) rfl rfl hC rfl (fun w hC => y_move rfl) fun a hs => ?_
    have hs := hs.fix 47 (.bool true) rfl (vb h122)
    refine h_s hs 3 rfl (by kernel_rfl) rfl rfl rfl (.inl rfl) rfl rfl hC fun a hs => ?_
    refine h_s hs 4 rfl (by kernel_rfl) rfl rfl rfl (.inl rfl) rfl rfl hC fun a hs => ?_
    refine h_g hs 5 rfl (by kernel_rfl) rfl rfl hC rfl (fun w hC => y_pickTE (v := .bool ((!rv56.2) || (!rv75.2))) rfl rfl (or_t h122)) fun a hs => ?_
    refine h_g hs 6 rfl (by kernel_rfl) rfl rfl hC rfl (fun w hC => y_move rfl) fun a hs => ?_
    have hs := hs.fix 51 (.bool true) rfl (vb h124)
    refine h_s hs 7 rfl (by kernel_rfl) rfl rfl rfl (.inl rfl) rfl rfl hC fun a hs => ?_
    refine h_s hs 8 rfl (by kernel_rfl) rfl rfl rfl (.inl rfl) rfl rfl hC fun a hs => ?_
    refine h_s hs 9 rfl (by kernel_rfl) rfl rfl rfl (.inl rfl) rfl rfl hC fun a hs => ?_
    refine h_s hs 10 rfl (by kernel_rfl) rfl rfl rfl (.inl rfl) rfl rfl hC fun a hs => ?_
    refine h_s hs 11 rfl (by kernel_rfl) rfl rfl rfl (.inl rfl) rfl rfl hC fun a hs => ?_
    refine h_s hs 12 rfl (by kernel_rfl) rfl rfl rfl (.inl rfl) rfl rfl hC fun a hs => ?_
    refine h_s hs 13 rfl (by kernel_rfl) rfl rfl rfl (.inl rfl) rfl rfl hC fun a hs => ?_
    refine h_g hs 14 rfl (by kernel_rfl) rfl rfl hC rfl (fun w hC => y_pickTE (v := .bool (((!rv56.2) || (!rv75.2)) || (rv75.1 != (min (Int.tmod (w64 n5) 20) rv56.1)))) rfl rfl (or_t h124)) fun a hs => ?_
    refine h_g hs 15 rfl (by kernel_rfl) rfl rfl hC rfl (fun w hC => y_move rfl) fun a hs => ?_
    have hs := hs.fix 60 (.bool true) rfl (vb h126)
    refine h_s hs 16 rfl (by kernel_rfl) rfl rfl rfl (.inl rfl) rfl rfl hC fun a hs => ?_
    refine h_s hs 17 rfl (by kernel_rfl) rfl rfl rfl (.inl rfl) rfl rfl hC fun a hs => ?_
    refine h_s hs 18 rfl (by kernel_rfl) rfl rfl rfl (.inl rfl) rfl rfl hC fun a hs => ?_
    refine h_s hs 19 rfl (by kernel_rfl) rfl rfl rfl (.inl rfl) rfl rfl hC fun a hs => ?_
    refine h_s hs 20 rfl (by kernel_rfl) rfl rfl rfl (.inr rfl) rfl rfl hC fun a hs => ?_
    refine h_s hs 21 rfl (by kernel_rfl) rfl rfl rfl (.inr rfl) rfl rfl hC fun a hs => ?_
    refine h_s hs 22 rfl (by kernel_rfl) rfl rfl rfl (.inr rfl) rfl rfl hC fun a hs => ?_
    refine h_s hs 23 rfl (by kernel_rfl) rfl rfl rfl (.inl rfl) rfl rfl hC fun a hs => ?_
    refine h_s hs 24 rfl (by kernel_rfl) rfl rfl rfl (.inl rfl) rfl rfl hC fun a hs => ?_
    refine h_s hs 25 rfl (by kernel_rfl) rfl rfl rfl (.inr rfl) rfl rfl hC fun a hs => ?_
    refine h_s hs 26 rfl (by kernel_rfl) rfl rfl rfl (.inr rfl) rfl rfl hC fun a hs => ?_
    refine h_s hs 27 rfl (by kernel_rfl) rfl rfl rfl (.inr rfl) rfl rfl hC fun a hs => ?_
    refine h_s hs 28 rfl (by kernel_rfl) rfl rfl rfl (.inr rfl) rfl rfl hC fun a hs => ?_
    refine h_s hs 29 rfl (by kernel_rfl) rfl rfl rfl (.inr rfl) rfl rfl hC fun a hs => ?_
    refine h_s hs 30 rfl (by kernel_rfl) rfl rfl rfl (.inr rfl) rfl rfl hC fun a hs => ?_
    refine h_s hs 31 rfl (by kernel_rfl) rfl rfl rfl (.inr rfl) rfl rfl hC fun a hs => ?_
    refine h_s hs 32 rfl (by kernel_rfl) rfl rfl rfl (.inr rfl) rfl rfl hC fun a hs => ?_
    refine h_s hs 33 rfl (by kernel_rfl) rfl rfl rfl (.inr rfl) rfl rfl hC fun a hs => ?_
    refine h_s hs 34 rfl (by kernel_rfl) rfl rfl rfl (.inr rfl) rfl rfl hC fun a hs => ?_
    refine h_s hs 35 rfl (by kernel_rfl) rfl rfl rfl (.inr rfl) rfl rfl hC fun a hs => ?_
    refine h_s hs 36 rfl (by kernel_rfl) rfl rfl rfl (.inr rfl) rfl rfl hC fun a hs => ?_
    refine h_s hs 37 rfl (by kernel_rfl) rfl rfl rfl (.inl rfl) rfl rfl hC fun a hs => ?_
    refine h_g hs 38 rfl (by kernel_rfl) rfl rfl hC rfl (fun w hC => y_pickTE (v := .bool c120) rfl rfl (vbs h127)) fun a hs => ?_
    refine h_done (by kernel_rfl) ?_
    exact ⟨Sv88, (hs.wk rfl), (hw.ft [] [3] (by decide) rfl rfl)⟩
   ·rcases Bool.eq_false_or_eq_true ((!rv56.2) || (!rv75.2)) with h129 | h129
    ·have h131 : (((!rv56.2) || (!rv75.2)) || (rv75.1 != (min (Int.tmod (w64 n5) 20) rv56.1))) = true := by rw [h129]; rfl
     have h132 := ite_t hc120 h131
     refine h_b (C := Cls [.row p83 rv82.length k84 c86 34 2, .box b32 [.slice p47 rv42.2.L.length k48, .int .i64 rv42.2.At] 50] []) (by kernel_rfl) rfl (hw.drew.cs [0, 1] [] rfl rfl) fun hC => ?_
     have hw := hw.drew
     refine h_g hs 0 rfl (by kernel_rfl) rfl rfl hC rfl (fun w hC => y_move rfl) fun a hs => ?_
     refine h_g hs 1 rfl (by kernel_rfl) rfl rfl hC rfl (fun w hC => y_not rfl) fun a hs => ?_
     refine h_g hs 2 rfl (by kernel_rfl) rfl rfl hC rfl (fun w hC => y_move rfl) fun a hs => ?_
     have hs := hs.fix 47 (.bool false) rfl (vb h122)
     refine h_t hs 3 rfl (by kernel_rfl) ⟨_, rfl, rfl⟩ rfl rfl hC (fun w hC => y_move rfl) fun a hs => ?_
     refine h_t hs 4 rfl (by kernel_rfl) ⟨_, rfl, rfl⟩ rfl rfl hC (fun w hC => y_not rfl) fun a hs => ?_
     refine h_g hs 5 rfl (by kernel_rfl) rfl rfl hC rfl (fun w hC => y_pickFE (v := .bool ((!rv56.2) || (!rv75.2))) rfl rfl (or_f h122)) fun a hs => ?_
     refine h_g hs 6 rfl (by kernel_rfl) rfl rfl hC rfl (fun w hC => y_move rfl) fun a hs => ?_
     have hs := hs.fix 51 (.bool true) rfl (vb h129)
     refine h_s hs 7 rfl (by kernel_rfl) rfl rfl rfl (.inl rfl) rfl rfl hC fun a hs => ?_
     refine h_s hs 8 rfl (by kernel_rfl) rfl rfl rfl (.inl rfl) rfl rfl hC fun a hs => ?_
     refine h_s hs 9 rfl (by kernel_rfl) rfl rfl rfl (.inl rfl) rfl rfl hC fun a hs => ?_
     refine h_s hs 10 rfl (by kernel_rfl) rfl rfl rfl (.inl rfl) rfl rfl hC fun a hs => ?_
     refine h_s hs 11 rfl (by kernel_rfl) rfl rfl rfl (.inl rfl) rfl rfl hC fun a hs => ?_
     refine h_s hs 12 rfl (by kernel_rfl) rfl rfl rfl (.inl rfl) rfl rfl hC fun a hs => ?_
     refine h_s hs 13 rfl (by kernel_rfl) rfl rfl rfl (.inl rfl) rfl rfl hC fun a hs => ?_
     refine h_g hs 14 rfl (by kernel_rfl) rfl rfl hC rfl (fun w hC => y_pickTE (v := .bool (((!rv56.2) || (!rv75.2)) || (rv75.1 != (min (Int.tmod (w64 n5) 20) rv56.1)))) rfl rfl (or_t h129)) fun a hs => ?_
     refine h_g hs 15 rfl (by kernel_rfl) rfl rfl hC rfl (fun w hC => y_move rfl) fun a hs => ?_
     have hs := hs.fix 60 (.bool true) rfl (vb h131)
     refine h_s hs 16 rfl (by kernel_rfl) rfl rfl rfl (.inl rfl) rfl rfl hC fun a hs => ?_
     refine h_s hs 17 rfl (by kernel_rfl) rfl rfl rfl (.inl rfl) rfl rfl hC fun a hs => ?_
     refine h_s hs 18 rfl (by kernel_rfl) rfl rfl rfl (.inl rfl) rfl rfl hC fun a hs => ?_
     refine h_s hs 19 rfl (by kernel_rfl) rfl rfl rfl (.inl rfl) rfl rfl hC fun a hs => ?_
     refine h_s hs 20 rfl (by kernel_rfl) rfl rfl rfl (.inr rfl) rfl rfl hC fun a hs => ?_
     refine h_s hs 21 rfl (by kernel_rfl) rfl rfl rfl (.inr rfl) rfl rfl hC fun a hs => ?_
     refine h_s hs 22 rfl (by kernel_rfl) rfl rfl rfl (.inr rfl) rfl rfl hC fun a hs => ?_
     refine h_s hs 23 rfl (by kernel_rfl) rfl rfl rfl (.inl rfl) rfl rfl hC fun a hs => ?_
     refine h_s hs 24 rfl (by kernel_rfl) rfl rfl rfl (.inl rfl) rfl rfl hC fun a hs => ?_
     refine h_s hs 25 rfl (by kernel_rfl) rfl rfl rfl (.inr rfl) rfl rfl hC fun a hs => ?_
     refine h_s hs 26 rfl (by kernel_rfl) rfl rfl rfl (.inr rfl) rfl rfl hC fun a hs => ?_
     refine h_s hs 27 rfl (by kernel_rfl) rfl rfl rfl (.inr rfl) rfl rfl hC fun a hs => ?_
     refine h_s hs 28 rfl (by kernel_rfl) rfl rfl rfl (.inr rfl) rfl rfl hC fun a hs => ?_
     refine h_s hs 29 rfl (by kernel_rfl) rfl rfl rfl (.inr rfl) rfl rfl hC fun a hs => ?_
     refine h_s hs 30 rfl (by kernel_rfl) rfl rfl rfl (.inr rfl) rfl rfl hC fun a hs => ?_
     refine h_s hs 31 rfl (by kernel_rfl) rfl rfl rfl (.inr rfl) rfl rfl hC fun a hs => ?_
     refine h_s hs 32 rfl (by kernel_rfl) rfl rfl rfl (.inr rfl) rfl rfl hC fun a hs => ?_
     refine h_s hs 33 rfl (by kernel_rfl) rfl rfl rfl (.inr rfl) rfl rfl hC fun a hs => ?_
     refine h_s hs 34 rfl (by kernel_rfl) rfl rfl rfl (.inr rfl) rfl rfl hC fun a hs => ?_
     refine h_s hs 35 rfl (by kernel_rfl) rfl rfl rfl (.inr rfl) rfl rfl hC fun a hs => ?_
     refine h_s hs 36 rfl (by kernel_rfl) rfl rfl rfl (.inr rfl) rfl rfl hC fun a hs => ?_
     refine h_s hs 37 rfl (by kernel_rfl) rfl rfl rfl (.inl rfl) rfl rfl hC fun a hs => ?_
     refine h_g hs 38 rfl (by kernel_rfl) rfl rfl hC rfl (fun w hC => y_pickTE (v := .bool c120) rfl rfl (vbs h132)) fun a hs => ?_
     refine h_done (by kernel_rfl) ?_
     exact ⟨Sv88, (hs.wk rfl), (hw.ft [] [3] (by decide) rfl rfl)⟩
    ·rcases Bool.eq_false_or_eq_true (((!rv56.2) || (!rv75.2)) || (rv75.1 != (min (Int.tmod (w64 n5) 20) rv56.1))) with h134 | h134
     ·have h135 := ite_t hc120 h134
      refine h_b (C := Cls [.row p83 rv82.length k84 c86 34 2, .box b32 [.slice p47 rv42.2.L.length k48, .int .i64 rv42.2.At] 50] []) (by kernel_rfl) rfl (hw.drew.cs [0, 1] [] rfl rfl) fun hC => ?_
      have hw := hw.drew
      refine h_g hs 0 rfl (by kernel_rfl) rfl rfl hC rfl (fun w hC => y_move rfl) fun a hs => ?_
      refine h_g hs 1 rfl (by kernel_rfl) rfl rfl hC rfl (fun w hC => y_not rfl) fun a hs => ?_
      refine h_g hs 2 rfl (by kernel_rfl) rfl rfl hC rfl (fun w hC => y_move rfl) fun a hs => ?_
      have hs := hs.fix 47 (.bool false) rfl (vb h122)
      refine h_t hs 3 rfl (by kernel_rfl) ⟨_, rfl, rfl⟩ rfl rfl hC (fun w hC => y_move rfl) fun a hs => ?_
      refine h_t hs 4 rfl (by kernel_rfl) ⟨_, rfl, rfl⟩ rfl rfl hC (fun w hC => y_not rfl) fun a hs => ?_
      refine h_g hs 5 rfl (by kernel_rfl) rfl rfl hC rfl (fun w hC => y_pickFE (v := .bool ((!rv56.2) || (!rv75.2))) rfl rfl (or_f h122)) fun a hs => ?_
      refine h_g hs 6 rfl (by kernel_rfl) rfl rfl hC rfl (fun w hC => y_move rfl) fun a hs => ?_
      have hs := hs.fix 51 (.bool false) rfl (vb h129)
      refine h_t hs 7 rfl (by kernel_rfl) ⟨_, rfl, rfl⟩ rfl rfl hC (fun w hC => y_move rfl) fun a hs => ?_
      refine h_t hs 8 rfl (by kernel_rfl) ⟨_, rfl, rfl⟩ rfl rfl hC (fun w hC => y_move rfl) fun a hs => ?_
      refine h_t hs 9 rfl (by kernel_rfl) ⟨_, rfl, rfl⟩ rfl rfl hC (fun w hC => y_convert Try.runUnderlying5 Try.runUnderlying3 rfl) fun a hs => ?_
      refine h_t hs 10 rfl (by kernel_rfl) ⟨_, rfl, rfl⟩ rfl rfl hC (fun w hC => y_rem rfl rfl (by decide)) fun a hs => ?_
      refine h_t hs 11 rfl (by kernel_rfl) ⟨_, rfl, rfl⟩ rfl rfl hC (fun w hC => y_move rfl) fun a hs => ?_
      refine h_t hs 12 rfl (by kernel_rfl) ⟨_, rfl, rfl⟩ rfl rfl hC (fun w hC => y_min rfl rfl) fun a hs => ?_
      refine h_t hs 13 rfl (by kernel_rfl) ⟨_, rfl, rfl⟩ rfl rfl hC (fun w hC => y_neq rfl rfl) fun a hs => ?_
      refine h_g hs 14 rfl (by kernel_rfl) rfl rfl hC rfl (fun w hC => y_pickFE (v := .bool (((!rv56.2) || (!rv75.2)) || (rv75.1 != (min (Int.tmod (w64 n5) 20) rv56.1)))) rfl rfl (or_f h129)) fun a hs => ?_
      refine h_g hs 15 rfl (by kernel_rfl) rfl rfl hC rfl (fun w hC => y_move rfl) fun a hs => ?_
      have hs := hs.fix 60 (.bool true) rfl (vb h134)
      refine h_s hs 16 rfl (by kernel_rfl) rfl rfl rfl (.inl rfl) rfl rfl hC fun a hs => ?_
      refine h_s hs 17 rfl (by kernel_rfl) rfl rfl rfl (.inl rfl) rfl rfl hC fun a hs => ?_
      refine h_s hs 18 rfl (by kernel_rfl) rfl rfl rfl (.inl rfl) rfl rfl hC fun a hs => ?_
      refine h_s hs 19 rfl (by kernel_rfl) rfl rfl rfl (.inl rfl) rfl rfl hC fun a hs => ?_
      refine h_s hs 20 rfl (by kernel_rfl) rfl rfl rfl (.inr rfl) rfl rfl hC fun a hs => ?_
      refine h_s hs 21 rfl (by kernel_rfl) rfl rfl rfl (.inr rfl) rfl rfl hC fun a hs => ?_
      refine h_s hs 22 rfl (by kernel_rfl) rfl rfl rfl (.inr rfl) rfl rfl hC fun a hs => ?_
      refine h_s hs 23 rfl (by kernel_rfl) rfl rfl rfl (.inl rfl) rfl rfl hC fun a hs => ?_
      refine h_s hs 24 rfl (by kernel_rfl) rfl rfl rfl (.inl rfl) rfl rfl hC fun a hs => ?_
      refine h_s hs 25 rfl (by kernel_rfl) rfl rfl rfl (.inr rfl) rfl rfl hC fun a hs => ?_
      refine h_s hs 26 rfl (by kernel_rfl) rfl rfl rfl (.inr rfl) rfl rfl hC fun a hs => ?_
      refine h_s hs 27 rfl (by kernel_rfl) rfl rfl rfl (.inr rfl) rfl rfl hC fun a hs => ?_
      refine h_s hs 28 rfl (by kernel_rfl) rfl rfl rfl (.inr rfl) rfl rfl hC fun a hs => ?_
      refine h_s hs 29 rfl (by kernel_rfl) rfl rfl rfl (.inr rfl) rfl rfl hC fun a hs => ?_
      refine h_s hs 30 rfl (by kernel_rfl) rfl rfl rfl (.inr rfl) rfl rfl hC fun a hs => ?_
      refine h_s hs 31 rfl (by kernel_rfl) rfl rfl rfl (.inr rfl) rfl rfl hC fun a hs => ?_
      refine h_s hs 32 rfl (by kernel_rfl) rfl rfl rfl (.inr rfl) rfl rfl hC fun a hs => ?_
      refine h_s hs 33 rfl (by kernel_rfl) rfl rfl rfl (.inr rfl) rfl rfl hC fun a hs => ?_
      refine h_s hs 34 rfl (by kernel_rfl) rfl rfl rfl (.inr rfl) rfl rfl hC fun a hs => ?_
      refine h_s hs 35 rfl (by kernel_rfl) rfl rfl rfl (.inr rfl) rfl rfl hC fun a hs => ?_
      refine h_s hs 36 rfl (by kernel_rfl) rfl rfl rfl (.inr rfl) rfl rfl hC fun a hs => ?_
      refine h_s hs 37 rfl (by kernel_rfl) rfl rfl rfl (.inl rfl) rfl rfl hC fun a hs => ?_
      refine h_g hs 38 rfl (by kernel_rfl) rfl rfl hC rfl (fun w hC => y_pickTE (v := .bool c120) rfl rfl (vbs h135)) fun a hs => ?_
      refine h_done (by kernel_rfl) ?_
      exact ⟨Sv88, (hs.wk rfl), (hw.ft [] [3] (by decide) rfl rfl)⟩
     ·have h136 := ite_f hc120 h134
      obtain ⟨c163, hc163, h136⟩ := bind_t h136
      rcases Bool.eq_false_or_eq_true (decide (0 < (rv63.length : Int))) with h164 | h164
      ·rcases Bool.eq_false_or_eq_true ((decide (0 < (rv63.length : Int))) && (decide (0 < (rv82.length : Int)))) with h166 | h166
       ·have h167 := ite_t hc163 h166
        obtain ⟨x170, h168, h167⟩ := bind_t h167
        obtain ⟨b176, o177, q174, c175, h178, h171, h172, h173, h169⟩ := hw.elemV 1 rfl h168
        have hsv179 := hs
        have hwv180 := hw
        subst h178
        have hs := hsv179
        have hw := hwv180
        obtain ⟨_, _, rfl, rfl, rfl⟩ := h169
        have hw := hw.addE h173
        obtain ⟨x183, h181, h167⟩ := bind_t h167
        obtain ⟨b190, q187, c188, h191, h184, h185, h189, h182⟩ := hw.elemRV (α := Span) 0 rfl 1 rfl h181
        have hsv192 := hs
        have hwv193 := hw
        subst h191
        have hs := hsv192
        have hw := hwv193
        obtain ⟨_, _, rfl, rfl, rfl⟩ := h182
        refine h_b (C := Cls [.row (some ⟨b190, 0, none⟩) rv82.length k84 c86 34 2, .box b32 [.slice p47 rv42.2.L.length k48, .int .i64 rv42.2.At] 50] [CeA b176 q174 [.int .i64 x170.From, .int .i64 x170.To]]) (by kernel_rfl) rfl (hw.drew.cs [0, 1] [0] rfl rfl) fun hC => ?_
        have hw := hw.drew
        refine h_g hs 0 rfl (by kernel_rfl) rfl rfl hC rfl (fun w hC => y_move rfl) fun a hs => ?_
        refine h_g hs 1 rfl (by kernel_rfl) rfl rfl hC rfl (fun w hC => y_not rfl) fun a hs => ?_
        refine h_g hs 2 rfl (by kernel_rfl) rfl rfl hC rfl (fun w hC => y_move rfl) fun a hs => ?_
        have hs := hs.fix 47 (.bool false) rfl (vb h122)
        refine h_t hs 3 rfl (by kernel_rfl) ⟨_, rfl, rfl⟩ rfl rfl hC (fun w hC => y_move rfl) fun a hs => ?_
        refine h_t hs 4 rfl (by kernel_rfl) ⟨_, rfl, rfl⟩ rfl rfl hC (fun w hC => y_not rfl) fun a hs => ?_
        refine h_g hs 5 rfl (by kernel_rfl) rfl rfl hC rfl (fun w hC => y_pickFE (v := .bool ((!rv56.2) || (!rv75.2))) rfl rfl (or_f h122)) fun a hs => ?_
        refine h_g hs 6 rfl (by kernel_rfl) rfl rfl hC rfl (fun w hC => y_move rfl) fun a hs => ?_
        have hs := hs.fix 51 (.bool false) rfl (vb h129)
        refine h_t hs 7 rfl (by kernel_rfl) ⟨_, rfl, rfl⟩ rfl rfl hC (fun w hC => y_move rfl) fun a hs => ?_
        refine h_t hs 8 rfl (by kernel_rfl) ⟨_, rfl, rfl⟩ rfl rfl hC (fun w hC => y_move rfl) fun a hs => ?_
        refine h_t hs 9 rfl (by kernel_rfl) ⟨_, rfl, rfl⟩ rfl rfl hC (fun w hC => y_convert Try.runUnderlying5 Try.runUnderlying3 rfl) fun a hs => ?_
        refine h_t hs 10 rfl (by kernel_rfl) ⟨_, rfl, rfl⟩ rfl rfl hC (fun w hC => y_rem rfl rfl (by decide)) fun a hs => ?_
        refine h_t hs 11 rfl (by kernel_rfl) ⟨_, rfl, rfl⟩ rfl rfl hC (fun w hC => y_move rfl) fun a hs => ?_
        refine h_t hs 12 rfl (by kernel_rfl) ⟨_, rfl, rfl⟩ rfl rfl hC (fun w hC => y_min rfl rfl) fun a hs => ?_
        refine h_t hs 13 rfl (by kernel_rfl) ⟨_, rfl, rfl⟩ rfl rfl hC (fun w hC => y_neq rfl rfl) fun a hs => ?_
        refine h_g hs 14 rfl (by kernel_rfl) rfl rfl hC rfl (fun w hC => y_pickFE (v := .bool (((!rv56.2) || (!rv75.2)) || (rv75.1 != (min (Int.tmod (w64 n5) 20) rv56.1)))) rfl rfl (or_f h129)) fun a hs => ?_
        refine h_g hs 15 rfl (by kernel_rfl) rfl rfl hC rfl (fun w hC => y_move rfl) fun a hs => ?_
        have hs := hs.fix 60 (.bool false) rfl (vb h134)
        refine h_t hs 16 rfl (by kernel_rfl) ⟨_, rfl, rfl⟩ rfl rfl hC (fun w hC => y_move rfl) fun a hs => ?_
        refine h_t hs 17 rfl (by kernel_rfl) ⟨_, rfl, rfl⟩ rfl rfl hC (fun w hC => y_len Try.runUnderlying25 rfl) fun a hs => ?_
        refine h_t hs 18 rfl (by kernel_rfl) ⟨_, rfl, rfl⟩ rfl rfl hC (fun w hC => y_gtr rfl rfl) fun a hs => ?_
        refine h_t hs 19 rfl (by kernel_rfl) ⟨_, rfl, rfl⟩ rfl rfl hC (fun w hC => y_move rfl) fun a hs => ?_
        have hs := hs.fix 64 (.bool true) rfl (vb h164)
        refine h_t hs 20 rfl (by kernel_rfl) ⟨_, rfl, rfl⟩ rfl rfl hC (fun w hC => y_move rfl) fun a hs => ?_
        refine h_t hs 21 rfl (by kernel_rfl) ⟨_, rfl, rfl⟩ rfl rfl hC (fun w hC => y_len Try.runUnderlying25 rfl) fun a hs => ?_
        refine h_t hs 22 rfl (by kernel_rfl) ⟨_, rfl, rfl⟩ rfl rfl hC (fun w hC => y_gtr rfl rfl) fun a hs => ?_
        refine h_t hs 23 rfl (by kernel_rfl) ⟨_, rfl, rfl⟩ rfl rfl hC (fun w hC => y_pickTE (v := .bool ((decide (0 < (rv63.length : Int))) && (decide (0 < (rv82.length : Int))))) rfl rfl (and_t h164)) fun a hs => ?_
        refine h_t hs 24 rfl (by kernel_rfl) ⟨_, rfl, rfl⟩ rfl rfl hC (fun w hC => y_move rfl) fun a hs => ?_
        have hs := hs.fix 69 (.bool true) rfl (vb h166)
        refine h_t hs 25 rfl (by kernel_rfl) ⟨_, rfl, rfl⟩ rfl rfl hC (fun w hC => y_move rfl) fun a hs => ?_
        refine h_t hs 26 rfl (by kernel_rfl) ⟨_, rfl, rfl⟩ rfl rfl hC (fun w hC => y_move rfl) fun a hs => ?_
        refine h_t hs 27 rfl (by kernel_rfl) ⟨_, rfl, rfl⟩ rfl rfl hC (fun w hC => y_len Try.runUnderlying25 rfl) fun a hs => ?_
        refine h_t hs 28 rfl (by kernel_rfl) ⟨_, rfl, rfl⟩ rfl rfl hC (fun w hC => y_sub rfl rfl) fun a hs => ?_
        refine h_t hs 29 rfl (by kernel_rfl) ⟨_, rfl, rfl⟩ rfl rfl hC (fun w hC => y_indexAt Try.runUnderlying25 Try.sizeOf34 rfl rfl h171.1 h171.2 h172) fun a hs => ?_
        refine h_t hs 30 rfl (by kernel_rfl) ⟨_, rfl, rfl⟩ rfl rfl hC (fun w hC => y_fieldAddr (o' := q174 + 1) Try.runUnderlying34 rfl Try.sizeOf3 rfl rfl rfl) fun a hs => ?_
        refine h_t hs 31 rfl (by kernel_rfl) ⟨_, rfl, rfl⟩ rfl rfl hC (fun w hC => y_loadE1 (j := 1) (hC.ceAt 0 rfl) rfl Try.isAgg3 rfl) fun a hs => ?_
        refine h_t hs 32 rfl (by kernel_rfl) ⟨_, rfl, rfl⟩ rfl rfl hC (fun w hC => y_move rfl) fun a hs => ?_
        refine h_t hs 33 rfl (by kernel_rfl) ⟨_, rfl, rfl⟩ rfl rfl hC (fun w hC => y_indexAt Try.runUnderlying25 Try.sizeOf34 rfl rfl h184.1 h184.2 h185) fun a hs => ?_
        refine h_t hs 34 rfl (by kernel_rfl) ⟨_, rfl, rfl⟩ rfl rfl hC (fun w hC => y_fieldAddr (o' := q187 + 0) Try.runUnderlying34 rfl Try.sizeOf3 rfl rfl rfl) fun a hs => ?_
        refine h_t hs 35 rfl (by kernel_rfl) ⟨_, rfl, rfl⟩ rfl rfl hC (fun w hC => y_loadQ1 (j := 0) (hC.ownAt 0 rfl) rfl Try.isAgg3 h189 rfl) fun a hs => ?_
        refine h_t hs 36 rfl (by kernel_rfl) ⟨_, rfl, rfl⟩ rfl rfl hC (fun w hC => y_gtr rfl rfl) fun a hs => ?_
        refine h_t hs 37 rfl (by kernel_rfl) ⟨_, rfl, rfl⟩ rfl rfl hC (fun w hC => y_pickTE (v := .bool c163) rfl rfl (vbs h167)) fun a hs => ?_
        refine h_g hs 38 rfl (by kernel_rfl) rfl rfl hC rfl (fun w hC => y_pickFE (v := .bool c120) rfl rfl (vbs h136)) fun a hs => ?_
        refine h_done (by kernel_rfl) ?_
        exact ⟨Sv88, (hs.wk rfl), (hw.ft [] [4] (by decide) rfl rfl)⟩
       ·have h194 := ite_f hc163 h166
        refine h_b (C := Cls [.row p83 rv82.length k84 c86 34 2, .box b32 [.slice p47 rv42.2.L.length k48, .int .i64 rv42.2.At] 50] []) (by kernel_rfl) rfl (hw.drew.cs [0, 1] [] rfl rfl) fun hC => ?_
        have hw := hw.drew
        refine h_g hs 0 rfl (by kernel_rfl) rfl rfl hC rfl (fun w hC => y_move rfl) fun a hs => ?_
        refine h_g hs 1 rfl (by kernel_rfl) rfl rfl hC rfl (fun w hC => y_not rfl) fun a hs => ?_
        refine h_g hs 2 rfl (by kernel_rfl) rfl rfl hC rfl (fun w hC => y_move rfl) fun a hs => ?_
        have hs := hs.fix 47 (.bool false) rfl (vb h122)
        refine h_t hs 3 rfl (by kernel_rfl) ⟨_, rfl, rfl⟩ rfl rfl hC (fun w hC => y_move rfl) fun a hs => ?_
        refine h_t hs 4 rfl (by kernel_rfl) ⟨_, rfl, rfl⟩ rfl rfl hC (fun w hC => y_not rfl) fun a hs => ?_
        refine h_g hs 5 rfl (by kernel_rfl) rfl rfl hC rfl (fun w hC => y_pickFE (v := .bool ((!rv56.2) || (!rv75.2))) rfl rfl (or_f h122)) fun a hs => ?_
        refine h_g hs 6 rfl (by kernel_rfl) rfl rfl hC rfl (fun w hC => y_move rfl) fun a hs => ?_
        have hs := hs.fix 51 (.bool false) rfl (vb h129)
        refine h_t hs 7 rfl (by kernel_rfl) ⟨_, rfl, rfl⟩ rfl rfl hC (fun w hC => y_move rfl) fun a hs => ?_
        refine h_t hs 8 rfl (by kernel_rfl) ⟨_, rfl, rfl⟩ rfl rfl hC (fun w hC => y_move rfl) fun a hs => ?_
        refine h_t hs 9 rfl (by kernel_rfl) ⟨_, rfl, rfl⟩ rfl rfl hC (fun w hC => y_convert Try.runUnderlying5 Try.runUnderlying3 rfl) fun a hs => ?_
        refine h_t hs 10 rfl (by kernel_rfl) ⟨_, rfl, rfl⟩ rfl rfl hC (fun w hC => y_rem rfl rfl (by decide)) fun a hs => ?_
        refine h_t hs 11 rfl (by kernel_rfl) ⟨_, rfl, rfl⟩ rfl rfl hC (fun w hC => y_move rfl) fun a hs => ?_
        refine h_t hs 12 rfl (by kernel_rfl) ⟨_, rfl, rfl⟩ rfl rfl hC (fun w hC => y_min rfl rfl) fun a hs => ?_
        refine h_t hs 13 rfl (by kernel_rfl) ⟨_, rfl, rfl⟩ rfl rfl hC (fun w hC => y_neq rfl rfl) fun a hs => ?_
        refine h_g hs 14 rfl (by kernel_rfl) rfl rfl hC rfl (fun w hC => y_pickFE (v := .bool (((!rv56.2) || (!rv75.2)) || (rv75.1 != (min (Int.tmod (w64 n5) 20) rv56.1)))) rfl rfl (or_f h129)) fun a hs => ?_
        refine h_g hs 15 rfl (by kernel_rfl) rfl rfl hC rfl (fun w hC => y_move rfl) fun a hs => ?_
        have hs := hs.fix 60 (.bool false) rfl (vb h134)
        refine h_t hs 16 rfl (by kernel_rfl) ⟨_, rfl, rfl⟩ rfl rfl hC (fun w hC => y_move rfl) fun a hs => ?_
        refine h_t hs 17 rfl (by kernel_rfl) ⟨_, rfl, rfl⟩ rfl rfl hC (fun w hC => y_len Try.runUnderlying25 rfl) fun a hs => ?_
        refine h_t hs 18 rfl (by kernel_rfl) ⟨_, rfl, rfl⟩ rfl rfl hC (fun w hC => y_gtr rfl rfl) fun a hs => ?_
        refine h_t hs 19 rfl (by kernel_rfl) ⟨_, rfl, rfl⟩ rfl rfl hC (fun w hC => y_move rfl) fun a hs => ?_
        have hs := hs.fix 64 (.bool true) rfl (vb h164)
        refine h_t hs 20 rfl (by kernel_rfl) ⟨_, rfl, rfl⟩ rfl rfl hC (fun w hC => y_move rfl) fun a hs => ?_
        refine h_t hs 21 rfl (by kernel_rfl) ⟨_, rfl, rfl⟩ rfl rfl hC (fun w hC => y_len Try.runUnderlying25 rfl) fun a hs => ?_
        refine h_t hs 22 rfl (by kernel_rfl) ⟨_, rfl, rfl⟩ rfl rfl hC (fun w hC => y_gtr rfl rfl) fun a hs => ?_
        refine h_t hs 23 rfl (by kernel_rfl) ⟨_, rfl, rfl⟩ rfl rfl hC (fun w hC => y_pickTE (v := .bool ((decide (0 < (rv63.length : Int))) && (decide (0 < (rv82.length : Int))))) rfl rfl (and_t h164)) fun a hs => ?_
        refine h_t hs 24 rfl (by kernel_rfl) ⟨_, rfl, rfl⟩ rfl rfl hC (fun w hC => y_move rfl) fun a hs => ?_
        have hs := hs.fix 69 (.bool false) rfl (vb h166)
        refine h_s hs 25 rfl (by kernel_rfl) rfl rfl rfl (.inl rfl) rfl rfl hC fun a hs => ?_
        refine h_s hs 26 rfl (by kernel_rfl) rfl rfl rfl (.inl rfl) rfl rfl hC fun a hs => ?_
        refine h_s hs 27 rfl (by kernel_rfl) rfl rfl rfl (.inl rfl) rfl rfl hC fun a hs => ?_
        refine h_s hs 28 rfl (by kernel_rfl) rfl rfl rfl (.inl rfl) rfl rfl hC fun a hs => ?_
        refine h_s hs 29 rfl (by kernel_rfl) rfl rfl rfl (.inl rfl) rfl rfl hC fun a hs => ?_
        refine h_s hs 30 rfl (by kernel_rfl) rfl rfl rfl (.inl rfl) rfl rfl hC fun a hs => ?_
        refine h_s hs 31 rfl (by kernel_rfl) rfl rfl rfl (.inl rfl) rfl rfl hC fun a hs => ?_
        refine h_s hs 32 rfl (by kernel_rfl) rfl rfl rfl (.inl rfl) rfl rfl hC fun a hs => ?_
        refine h_s hs 33 rfl (by kernel_rfl) rfl rfl rfl (.inl rfl) rfl rfl hC fun a hs => ?_
        refine h_s hs 34 rfl (by kernel_rfl) rfl rfl rfl (.inl rfl) rfl rfl hC fun a hs => ?_
        refine h_s hs 35 rfl (by kernel_rfl) rfl rfl rfl (.inl rfl) rfl rfl hC fun a hs => ?_
        refine h_s hs 36 rfl (by kernel_rfl) rfl rfl rfl (.inl rfl) rfl rfl hC fun a hs => ?_
        refine h_t hs 37 rfl (by kernel_rfl) ⟨_, rfl, rfl⟩ rfl rfl hC (fun w hC => y_pickFE (v := .bool c163) rfl rfl (vbs h194)) fun a hs => ?_
        refine h_g hs 38 rfl (by kernel_rfl) rfl rfl hC rfl (fun w hC => y_pickFE (v := .bool c120) rfl rfl (vbs h136)) fun a hs => ?_
        refine h_done (by kernel_rfl) ?_
        exact ⟨Sv88, (hs.wk rfl), (hw.ft [] [3] (by decide) rfl rfl)⟩
      ·have h196 : ((decide (0 < (rv63.length : Int))) && (decide (0 < (rv82.length : Int)))) = false := by rw [h164]; rfl
       have h197 := ite_f hc163 h196
       refine h_b (C := Cls [.row p83 rv82.length k84 c86 34 2, .box b32 [.slice p47 rv42.2.L.length k48, .int .i64 rv42.2.At] 50] []) (by kernel_rfl) rfl (hw.drew.cs [0, 1] [] rfl rfl) fun hC => ?_
       have hw := hw.drew
       refine h_g hs 0 rfl (by kernel_rfl) rfl rfl hC rfl (fun w hC => y_move rfl) fun a hs => ?_
       refine h_g hs 1 rfl (by kernel_rfl) rfl rfl hC rfl (fun w hC => y_not rfl) fun a hs => ?_
       refine h_g hs 2 rfl (by kernel_rfl) rfl rfl hC rfl (fun w hC => y_move rfl) fun a hs => ?_
       have hs := hs.fix 47 (.bool false) rfl (vb h122)
       refine h_t hs 3 rfl (by kernel_rfl) ⟨_, rfl, rfl⟩ rfl rfl hC (fun w hC => y_move rfl) fun a hs => ?_
       refine h_t hs 4 rfl (by kernel_rfl) ⟨_, rfl, rfl⟩ rfl rfl hC (fun w hC => y_not rfl) fun a hs => ?_
       refine h_g hs 5 rfl (by kernel_rfl) rfl rfl hC rfl (fun w hC => y_pickFE (v := .bool ((!rv56.2) || (!rv75.2))) rfl rfl (or_f h122)) fun a hs => ?_
       refine h_g hs 6 rfl (by kernel_rfl) rfl rfl hC rfl (fun w hC => y_move rfl) fun a hs => ?_
       have hs := hs.fix 51 (.bool false) rfl (vb h129)
       refine h_t hs 7 rfl (by kernel_rfl) ⟨_, rfl, rfl⟩ rfl rfl hC (fun w hC => y_move rfl) fun a hs => ?_
       refine h_t hs 8 rfl (by kernel_rfl) ⟨_, rfl, rfl⟩ rfl rfl hC (fun w hC => y_move rfl) fun a hs => ?_
       refine h_t hs 9 rfl (by kernel_rfl) ⟨_, rfl, rfl⟩ rfl rfl hC (fun w hC => y_convert Try.runUnderlying5 Try.runUnderlying3 rfl) fun a hs => ?_
       refine h_t hs 10 rfl (by kernel_rfl) ⟨_, rfl, rfl⟩ rfl rfl hC (fun w hC => y_rem rfl rfl (by decide)) fun a hs => ?_
       refine h_t hs 11 rfl (by kernel_rfl) ⟨_, rfl, rfl⟩ rfl rfl hC (fun w hC => y_move rfl) fun a hs => ?_
       refine h_t hs 12 rfl (by kernel_rfl) ⟨_, rfl, rfl⟩ rfl rfl hC (fun w hC => y_min rfl rfl) fun a hs => ?_
       refine h_t hs 13 rfl (by kernel_rfl) ⟨_, rfl, rfl⟩ rfl rfl hC (fun w hC => y_neq rfl rfl) fun a hs => ?_
       refine h_g hs 14 rfl (by kernel_rfl) rfl rfl hC rfl (fun w hC => y_pickFE (v := .bool (((!rv56.2) || (!rv75.2)) || (rv75.1 != (min (Int.tmod (w64 n5) 20) rv56.1)))) rfl rfl (or_f h129)) fun a hs => ?_
       refine h_g hs 15 rfl (by kernel_rfl) rfl rfl hC rfl (fun w hC => y_move rfl) fun a hs => ?_
       have hs := hs.fix 60 (.bool false) rfl (vb h134)
       refine h_t hs 16 rfl (by kernel_rfl) ⟨_, rfl, rfl⟩ rfl rfl hC (fun w hC => y_move rfl) fun a hs => ?_
       refine h_t hs 17 rfl (by kernel_rfl) ⟨_, rfl, rfl⟩ rfl rfl hC (fun w hC => y_len Try.runUnderlying25 rfl) fun a hs => ?_
       refine h_t hs 18 rfl (by kernel_rfl) ⟨_, rfl, rfl⟩ rfl rfl hC (fun w hC => y_gtr rfl rfl) fun a hs => ?_
       refine h_t hs 19 rfl (by kernel_rfl) ⟨_, rfl, rfl⟩ rfl rfl hC (fun w hC => y_move rfl) fun a hs => ?_
       have hs := hs.fix 64 (.bool false) rfl (vb h164)
       refine h_s hs 20 rfl (by kernel_rfl) rfl rfl rfl (.inl rfl) rfl rfl hC fun a hs => ?_
       refine h_s hs 21 rfl (by kernel_rfl) rfl rfl rfl (.inl rfl) rfl rfl hC fun a hs => ?_
       refine h_s hs 22 rfl (by kernel_rfl) rfl rfl rfl (.inl rfl) rfl rfl hC fun a hs => ?_
       refine h_t hs 23 rfl (by kernel_rfl) ⟨_, rfl, rfl⟩ rfl rfl hC (fun w hC => y_pickFE (v := .bool ((decide (0 < (rv63.length : Int))) && (decide (0 < (rv82.length : Int))))) rfl rfl (and_f h164)) fun a hs => ?_
       refine h_t hs 24 rfl (by kernel_rfl) ⟨_, rfl, rfl⟩ rfl rfl hC (fun w hC => y_move rfl) fun a hs => ?_
       have hs := hs.fix 69 (.bool false) rfl (vb h196)
       refine h_s hs 25 rfl (by kernel_rfl) rfl rfl rfl (.inl rfl) rfl rfl hC fun a hs => ?_
       refine h_s hs 26 rfl (by kernel_rfl) rfl rfl rfl (.inl rfl) rfl rfl hC fun a hs => ?_
       refine h_s hs 27 rfl (by kernel_rfl) rfl rfl rfl (.inl rfl) rfl rfl hC fun a hs => ?_
       refine h_s hs 28 rfl (by kernel_rfl) rfl rfl rfl (.inl rfl) rfl rfl hC fun a hs => ?_
       refine h_s hs 29 rfl (by kernel_rfl) rfl rfl rfl (.inl rfl) rfl rfl hC fun a hs => ?_
       refine h_s hs 30 rfl (by kernel_rfl) rfl rfl rfl (.inl rfl) rfl rfl hC fun a hs => ?_
       refine h_s hs 31 rfl (by kernel_rfl) rfl rfl rfl (.inl rfl) rfl rfl hC fun a hs => ?_
       refine h_s hs 32 rfl (by kernel_rfl) rfl rfl rfl (.inl rfl) rfl rfl hC fun a hs => ?_
       refine h_s hs 33 rfl (by kernel_rfl) rfl rfl rfl (.inl rfl) rfl rfl hC fun a hs => ?_
       refine h_s hs 34 rfl (by kernel_rfl) rfl rfl rfl (.inl rfl) rfl rfl hC fun a hs => ?_
       refine h_s hs 35 rfl (by kernel_rfl) rfl rfl rfl (.inl rfl) rfl rfl hC fun a hs => ?_
       refine h_s hs 36 rfl (by kernel_rfl) rfl rfl rfl (.inl rfl) rfl rfl hC fun a hs => ?_
       refine h_t hs 37 rfl (by kernel_rfl) ⟨_, rfl, rfl⟩ rfl rfl hC (fun w hC => y_pickFE (v := .bool c163) rfl rfl (vbs h197)) fun a hs => ?_
       refine h_g hs 38 rfl (by kernel_rfl) rfl rfl hC rfl (fun w hC => y_pickFE (v := .bool c120) rfl rfl (vbs h136)) fun a hs => ?_
       refine h_done (by kernel_rfl) ?_
       exact ⟨Sv88, (hs.wk rfl), (hw.ft [] [3] (by decide) rfl rfl)⟩
  ·rintro a w ⟨Sv121, hs, hw⟩
   refine then_normal ?_
   refine wp_cond_split (hs.ev rfl) (fun h199 => ?_) (fun h199 => ?_)
   ·have hsh := ite_t hsh h199
    refine wp_seq ?_
    refine wp_region_lit ?_
    refine st_val hs (y_assign rfl) trivial rfl rfl fun a hs => ?_
    refine wpList_nil ?_
    refine then_normal ?_
    have hsh := Option.some.inj hsh
    subst hsh
    refine wp_ret ?_
    refine then_ret ?_
    exact ret1 hs rfl (rv_tmp rfl) (hw.ret rfl)
   ·have hsh := ite_f hsh h199
    refine wp_skip ?_
    refine then_normal ?_
    refine wp_seq ?_
    refine wp_region_lit ?_
    refine st_val hs (y_move rfl) trivial rfl rfl fun a hs => ?_
    refine st_val hs (y_move rfl) trivial rfl rfl fun a hs => ?_
    refine st_val hs (y_convert Try.runUnderlying21 Try.runUnderlying3 rfl) trivial rfl rfl fun a hs => ?_
    obtain ⟨rv201, h200, hsh⟩ := bind_t hsh
    refine st_callR hs (span_Shift_ok h200 hw.dom (hw.envAt 0 rfl)) (do_call Try.call14 rfl) trivial rfl rfl ?_
    intro v209 Sv206 w a h207 h208 hs
    obtain ⟨p202, k203, c205, rfl, h210, h204⟩ := h208
    have hw := hw.callN h207 h210
    have hw := hw.addE (e := RowA c205 rv201.1) h204
    refine st_val hs (y_move rfl) trivial rfl rfl fun a hs => ?_
    refine st_val hs (y_extract rfl rfl) trivial rfl rfl fun a hs => ?_
    refine st_val hs (y_extract rfl rfl) trivial rfl rfl fun a hs => ?_
    refine st_val hs (y_assign rfl) trivial rfl rfl fun a hs => ?_
    refine st_val hs (y_assign rfl) trivial rfl rfl fun a hs => ?_
    refine wpList_nil ?_
    refine then_normal ?_
    refine wp_seq ?_
    refine wp_region_lit ?_
    refine st_val hs (y_move rfl) trivial rfl rfl fun a hs => ?_
    refine st_val hs (y_move rfl) trivial rfl rfl fun a hs => ?_
    refine st_val hs (y_convert Try.runUnderlying21 Try.runUnderlying3 rfl) trivial rfl rfl fun a hs => ?_
    refine st_val hs (y_neg rfl) trivial rfl rfl fun a hs => ?_
    obtain ⟨rv212, h211, hsh⟩ := bind_t hsh
    obtain ⟨Sv217, hw⟩ := w_share (α := Span) hw 0 rfl 0 rfl
    refine st_callR hs (span_Shift_ok h211 hw.dom (hw.envAt 0 rfl)) (do_call Try.call14 rfl) trivial rfl rfl ?_
    intro v221 Sv218 w a h219 h220 hs
    obtain ⟨p213, k214, c216, rfl, h222, h215⟩ := h220
    have hw := hw.callN h219 h222
    have hw := hw.addE (e := RowA c216 rv212.1) h215
    refine st_val hs (y_move rfl) trivial rfl rfl fun a hs => ?_
    refine st_val hs (y_extract rfl rfl) trivial rfl rfl fun a hs => ?_
    refine st_val hs (y_extract rfl rfl) trivial rfl rfl fun a hs => ?_
    refine st_val hs (y_assign rfl) trivial rfl rfl fun a hs => ?_
    refine st_val hs (y_assign rfl) trivial rfl rfl fun a hs => ?_
    refine wpList_nil ?_
    refine then_normal ?_
    refine wp_seq ?_
    refine wp_region_lit ?_
    refine st_val hs (y_move rfl) trivial rfl rfl fun a hs => ?_
    obtain ⟨rv224, h223, hsh⟩ := bind_t hsh
    refine st_callR hs (span_Length_ok h223 hw.bdom (hw.bE 1 rfl)) (do_call Try.call11 rfl) trivial rfl rfl ?_
    intro v228 Sv225 w a h226 h227 hs
    subst h227
    have hw := hw.callB h226
    refine st_val hs (y_move rfl) trivial rfl rfl fun a hs => ?_
    refine st_val hs (y_extract rfl rfl) trivial rfl rfl fun a hs => ?_
    refine st_val hs (y_extract rfl rfl) trivial rfl rfl fun a hs => ?_
    refine st_val hs (y_assign rfl) trivial rfl rfl fun a hs => ?_
    refine st_val hs (y_assign rfl) trivial rfl rfl fun a hs => ?_
    refine wpList_nil ?_
    refine then_normal ?_
    refine wp_seq ?_
    obtain ⟨c238, hc238, hsh⟩ := bind_t hsh
    obtain ⟨c266, hc266, hsh⟩ := bind_t hsh
    obtain ⟨c269, hc269, hsh⟩ := bind_t hsh
    refine wp_only (fun a w => ∃ (Sv270 : Nat → Prop), Sl 146 [(6, .bool c269)] a ∧ Wd ⟨w0, S0, []⟩ Sv270 [] [] w) ?_ ?_
    ·rcases Bool.eq_false_or_eq_true (rv201.2 == 0) with h271 | h271
     ·rcases Bool.eq_false_or_eq_true ((rv201.2 == 0) && (rv212.2 == 0)) with h273 | h273
      ·rcases Bool.eq_false_or_eq_true (((rv201.2 == 0) && (rv212.2 == 0)) && rv224.2) with h275 | h275
       ·rcases Bool.eq_false_or_eq_true ((((rv201.2 == 0) && (rv212.2 == 0)) && rv224.2) && (rv224.1 == rv56.1)) with h277 | h277
        ·have h278 := ite_t hc238 h277
         obtain ⟨rv280, h279, h278⟩ := bind_t h278
         obtain ⟨rv286, h285, h278⟩ := bind_t h278
         rcases Bool.eq_false_or_eq_true c238 with h287 | h287
         ·have h288 := ite_t hc266 h287
          obtain ⟨c315, hc315, h288⟩ := bind_t h288
          rcases Bool.eq_false_or_eq_true ((rv201.1.length : Int) == 0) with h316 | h316
          ·have h317 := ite_t hc315 h316
           rcases Bool.eq_false_or_eq_true c266 with h318 | h318
           ·have h319 := ite_t hc269 h318
            obtain ⟨rv321, h320, h319⟩ := bind_t h319
            refine h_b (C := Cls [.row p213 rv212.1.length k214 c216 34 2] []) (by kernel_rfl) rfl (hw.drew.cs [0] [] rfl rfl) fun hC => ?_
            have hw := hw.drew
            refine h_g hs 0 rfl (by kernel_rfl) rfl rfl hC rfl (fun w hC => y_move rfl) fun a hs => ?_
            refine h_g hs 1 rfl (by kernel_rfl) rfl rfl hC rfl (fun w hC => y_eql rfl rfl) fun a hs => ?_
            refine h_g hs 2 rfl (by kernel_rfl) rfl rfl hC rfl (fun w hC => y_move rfl) fun a hs => ?_
            have hs := hs.fix 106 (.bool true) rfl (vb h271)
            refine h_t hs 3 rfl (by kernel_rfl) ⟨_, rfl, rfl⟩ rfl rfl hC (fun w hC => y_move rfl) fun a hs => ?_
            refine h_t hs 4 rfl (by kernel_rfl) ⟨_, rfl, rfl⟩ rfl rfl hC (fun w hC => y_eql rfl rfl) fun a hs => ?_
            refine h_g hs 5 rfl (by kernel_rfl) rfl rfl hC rfl (fun w hC => y_pickTE (v := .bool ((rv201.2 == 0) && (rv212.2 == 0))) rfl rfl (and_t h271)) fun a hs => ?_
            refine h_g hs 6 rfl (by kernel_rfl) rfl rfl hC rfl (fun w hC => y_move rfl) fun a hs => ?_
            have hs := hs.fix 110 (.bool true) rfl (vb h273)
            refine h_t hs 7 rfl (by kernel_rfl) ⟨_, rfl, rfl⟩ rfl rfl hC (fun w hC => y_move rfl) fun a hs => ?_
            refine h_g hs 8 rfl (by kernel_rfl) rfl rfl hC rfl (fun w hC => y_pickTE (v := .bool (((rv201.2 == 0) && (rv212.2 == 0)) && rv224.2)) rfl rfl (and_t h273)) fun a hs => ?_
            refine h_g hs 9 rfl (by kernel_rfl) rfl rfl hC rfl (fun w hC => y_move rfl) fun a hs => ?_
            have hs := hs.fix 113 (.bool true) rfl (vb h275)
            refine h_t hs 10 rfl (by kernel_rfl) ⟨_, rfl, rfl⟩ rfl rfl hC (fun w hC => y_move rfl) fun a hs => ?_
            refine h_t hs 11 rfl (by kernel_rfl) ⟨_, rfl, rfl⟩ rfl rfl hC (fun w hC => y_move rfl) fun a hs => ?_
            refine h_t hs 12 rfl (by kernel_rfl) ⟨_, rfl, rfl⟩ rfl rfl hC (fun w hC => y_eql rfl rfl) fun a hs => ?_
            refine h_g hs 13 rfl (by kernel_rfl) rfl rfl hC rfl (fun w hC => y_pickTE (v := .bool ((((rv201.2 == 0) && (rv212.2 == 0)) && rv224.2) && (rv224.1 == rv56.1))) rfl rfl (and_t h275)) fun a hs => ?_
            refine h_g hs 14 rfl (by kernel_rfl) rfl rfl hC rfl (fun w hC => y_move rfl) fun a hs => ?_
            have hs := hs.fix 118 (.bool true) rfl (vb h277)
            refine h_t hs 15 rfl (by kernel_rfl) ⟨_, rfl, rfl⟩ rfl rfl hC (fun w hC => y_move rfl) fun a hs => ?_
            refine h_t hs 16 rfl (by kernel_rfl) ⟨_, rfl, rfl⟩ rfl rfl hC (fun w hC => y_move rfl) fun a hs => ?_
            refine h_one (i := 17) (by kernel_rfl) rfl ?_
            refine st_callR hs (span_Normal_ok h279 hw.dom (hw.envAt 3 rfl)) (do_call Try.call16 rfl) ⟨_, rfl, rfl⟩ rfl rfl ?_
            intro v325 Sv322 w a h323 h324 hs
            obtain ⟨p281, k282, c284, rfl, h326, h283⟩ := h324
            have hw := hw.callN h323 h326
            have hw := hw.addE (e := RowA c284 rv280) h283
            refine h_nx (hw.cs [1] [] rfl rfl) fun hC => ?_
            refine h_st (C' := Cls [.row p213 rv212.1.length k214 c216 34 2, .row p281 rv280.length k282 c284 34 2] []) (fun _ h => by exact h.sub [0] (Sel.of rfl) (AllIn.of [] rfl)) (hw.cs [1, 0] [] rfl rfl) fun hC => ?_
            refine h_one (i := 18) (by kernel_rfl) rfl ?_
            refine st_callR hs (ref08_Same_ok h285 hw.bdom (hw.bRow 1 rfl 1 rfl) (hw.bRow 0 rfl 0 rfl)) (do_call Try.call15 rfl) ⟨_, rfl, rfl⟩ rfl rfl ?_
            intro v330 Sv327 w a h328 h329 hs
            subst h329
            have hw := hw.callB h328
            refine h_nx (hw.cs [1, 0] [] rfl rfl) fun hC => ?_
            refine h_g hs 19 rfl (by kernel_rfl) rfl rfl hC rfl (fun w hC => y_pickTE (v := .bool c238) rfl rfl (vbs h278)) fun a hs => ?_
            refine h_g hs 20 rfl (by kernel_rfl) rfl rfl hC rfl (fun w hC => y_move rfl) fun a hs => ?_
            have hs := hs.fix 124 (.bool true) rfl (vb h287)
            refine h_t hs 21 rfl (by kernel_rfl) ⟨_, rfl, rfl⟩ rfl rfl hC (fun w hC => y_move rfl) fun a hs => ?_
            refine h_t hs 22 rfl (by kernel_rfl) ⟨_, rfl, rfl⟩ rfl rfl hC (fun w hC => y_len Try.runUnderlying25 rfl) fun a hs => ?_
            refine h_t hs 23 rfl (by kernel_rfl) ⟨_, rfl, rfl⟩ rfl rfl hC (fun w hC => y_eql rfl rfl) fun a hs => ?_
            refine h_t hs 24 rfl (by kernel_rfl) ⟨_, rfl, rfl⟩ rfl rfl hC (fun w hC => y_move rfl) fun a hs => ?_
            have hs := hs.fix 128 (.bool true) rfl (vb h316)
            refine h_s hs 25 rfl (by kernel_rfl) rfl rfl rfl (.inl rfl) rfl rfl hC fun a hs => ?_
            refine h_s hs 26 rfl (by kernel_rfl) rfl rfl rfl (.inl rfl) rfl rfl hC fun a hs => ?_
            refine h_s hs 27 rfl (by kernel_rfl) rfl rfl rfl (.inl rfl) rfl rfl hC fun a hs => ?_
            refine h_s hs 28 rfl (by kernel_rfl) rfl rfl rfl (.inl rfl) rfl rfl hC fun a hs => ?_
            refine h_s hs 29 rfl (by kernel_rfl) rfl rfl rfl (.inl rfl) rfl rfl hC fun a hs => ?_
            refine h_s hs 30 rfl (by kernel_rfl) rfl rfl rfl (.inl rfl) rfl rfl hC fun a hs => ?_
            refine h_s hs 31 rfl (by kernel_rfl) rfl rfl rfl (.inl rfl) rfl rfl hC fun a hs => ?_
            refine h_s hs 32 rfl (by kernel_rfl) rfl rfl rfl (.inl rfl) rfl rfl hC fun a hs => ?_
            refine h_s hs 33 rfl (by kernel_rfl) rfl rfl rfl (.inl rfl) rfl rfl hC fun a hs => ?_
            refine h_s hs 34 rfl (by kernel_rfl) rfl rfl rfl (.inl rfl) rfl rfl hC fun a hs => ?_
            refine h_s hs 35 rfl (by kernel_rfl) rfl rfl rfl (.inl rfl) rfl rfl hC fun a hs => ?_
            refine h_s hs 36 rfl (by kernel_rfl) rfl rfl rfl (.inl rfl) rfl rfl hC fun a hs => ?_
            refine h_t hs 37 rfl (by kernel_rfl) ⟨_, rfl, rfl⟩ rfl rfl hC (fun w hC => y_pickTE (v := .bool c315) rfl rfl (vbs h317)) fun a hs => ?_
            refine h_g hs 38 rfl (by kernel_rfl) rfl rfl hC rfl (fun w hC => y_pickTE (v := .bool c266) rfl rfl (vbs h288)) fun a hs => ?_
            refine h_g hs 39 rfl (by kernel_rfl) rfl rfl hC rfl (fun w hC => y_move rfl) fun a hs => ?_
            have hs := hs.fix 143 (.bool true) rfl (vb h318)
            refine h_one (i := 40) (by kernel_rfl) rfl ?_
            refine st_callR hs (law08_sane_ok h320 hw.bdom) (do_call Try.call8 rfl) ⟨_, rfl, rfl⟩ rfl rfl ?_
            intro v335 Sv332 w a h333 h334 hs
            subst h334
            have hw := hw.callB h333
            refine h_nx (hw.cs [1, 0] [] rfl rfl) fun hC => ?_
            refine h_g hs 41 rfl (by kernel_rfl) rfl rfl hC rfl (fun w hC => y_pickTE (v := .bool c269) rfl rfl (vbs h319)) fun a hs => ?_
            refine h_g hs 42 rfl (by kernel_rfl) rfl rfl hC rfl (fun w hC => y_assign rfl) fun a hs => ?_
            refine h_done (by kernel_rfl) ?_
            exact ⟨Sv322, (hs.wk rfl), (hw.ft [] [] (by decide) rfl rfl)⟩
           ·have h337 := ite_f hc269 h318
            refine h_b (C := Cls [.row p213 rv212.1.length k214 c216 34 2] []) (by kernel_rfl) rfl (hw.drew.cs [0] [] rfl rfl) fun hC => ?_
            have hw := hw.drew
            refine h_g hs 0 rfl (by kernel_rfl) rfl rfl hC rfl (fun w hC => y_move rfl) fun a hs => ?_
            refine h_g hs 1 rfl (by kernel_rfl) rfl rfl hC rfl (fun w hC => y_eql rfl rfl) fun a hs => ?_
            refine h_g hs 2 rfl (by kernel_rfl) rfl rfl hC rfl (fun w hC => y_move rfl) fun a hs => ?_
            have hs := hs.fix 106 (.bool true) rfl (vb h271)
            refine h_t hs 3 rfl (by kernel_rfl) ⟨_, rfl, rfl⟩ rfl rfl hC (fun w hC => y_move rfl) fun a hs => ?_
            refine h_t hs 4 rfl (by kernel_rfl) ⟨_, rfl, rfl⟩ rfl rfl hC (fun w hC => y_eql rfl rfl) fun a hs => ?_
            refine h_g hs 5 rfl (by kernel_rfl) rfl rfl hC rfl (fun w hC => y_pickTE (v := .bool ((rv201.2 == 0) && (rv212.2 == 0))) rfl rfl (and_t h271)) fun a hs => ?_
            refine h_g hs 6 rfl (by kernel_rfl) rfl rfl hC rfl (fun w hC => y_move rfl) fun a hs => ?_
            have hs := hs.fix 110 (.bool true) rfl (vb h273)
            refine h_t hs 7 rfl (by kernel_rfl) ⟨_, rfl, rfl⟩ rfl rfl hC (fun w hC => y_move rfl) fun a hs => ?_
            refine h_g hs 8 rfl (by kernel_rfl) rfl rfl hC rfl (fun w hC => y_pickTE (v := .bool (((rv201.2 == 0) && (rv212.2 == 0)) && rv224.2)) rfl rfl (and_t h273)) fun a hs => ?_
            refine h_g hs 9 rfl (by kernel_rfl) rfl rfl hC rfl (fun w hC => y_move rfl) fun a hs => ?_
            have hs := hs.fix 113 (.bool true) rfl (vb h275)
            refine h_t hs 10 rfl (by kernel_rfl) ⟨_, rfl, rfl⟩ rfl rfl hC (fun w hC => y_move rfl) fun a hs => ?_
            refine h_t hs 11 rfl (by kernel_rfl) ⟨_, rfl, rfl⟩ rfl rfl hC (fun w hC => y_move rfl) fun a hs => ?_
            refine h_t hs 12 rfl (by kernel_rfl) ⟨_, rfl, rfl⟩ rfl rfl hC (fun w hC => y_eql rfl rfl) fun a hs => ?_
            refine h_g hs 13 rfl (by kernel_rfl) rfl rfl hC rfl (fun w hC => y_pickTE (v := .bool ((((rv201.2 == 0) && (rv212.2 == 0)) && rv224.2) && (rv224.1 == rv56.1))) rfl rfl (and_t h275)) fun a hs => ?_
            refine h_g hs 14 rfl (by kernel_rfl) rfl rfl hC rfl (fun w hC => y_move rfl) fun a hs => ?_
            have hs := hs.fix 118 (.bool true) rfl (vb h277)
            refine h_t hs 15 rfl (by kernel_rfl) ⟨_, rfl, rfl⟩ rfl rfl hC (fun w hC => y_move rfl) fun a hs => ?_
            refine h_t hs 16 rfl (by kernel_rfl) ⟨_, rfl, rfl⟩ rfl rfl hC (fun w hC => y_move rfl) fun a hs => ?_
            refine h_one (i := 17) (by kernel_rfl) rfl ?_
            refine st_callR hs (span_Normal_ok h279 hw.dom (hw.envAt 3 rfl)) (do_call Try.call16 rfl) ⟨_, rfl, rfl⟩ rfl rfl ?_
            intro v341 Sv338 w a h339 h340 hs
            obtain ⟨p281, k282, c284, rfl, h342, h283⟩ := h340
            have hw := hw.callN h339 h342
            have hw := hw.addE (e := RowA c284 rv280) h283
            refine h_nx (hw.cs [1] [] rfl rfl) fun hC => ?_
            refine h_st (C' := Cls [.row p213 rv212.1.length k214 c216 34 2, .row p281 rv280.length k282 c284 34 2] []) (fun _ h => by exact h.sub [0] (Sel.of rfl) (AllIn.of [] rfl)) (hw.cs [1, 0] [] rfl rfl) fun hC => ?_
            refine h_one (i := 18) (by kernel_rfl) rfl ?_
            refine st_callR hs (ref08_Same_ok h285 hw.bdom (hw.bRow 1 rfl 1 rfl) (hw.bRow 0 rfl 0 rfl)) (do_call Try.call15 rfl) ⟨_, rfl, rfl⟩ rfl rfl ?_
            intro v346 Sv343 w a h344 h345 hs
            subst h345
            have hw := hw.callB h344
            refine h_nx (hw.cs [1, 0] [] rfl rfl) fun hC => ?_
            refine h_g hs 19 rfl (by kernel_rfl) rfl rfl hC rfl (fun w hC => y_pickTE (v := .bool c238) rfl rfl (vbs h278)) fun a hs => ?_
            refine h_g hs 20 rfl (by kernel_rfl) rfl rfl hC rfl (fun w hC => y_move rfl) fun a hs => ?_
            have hs := hs.fix 124 (.bool true) rfl (vb h287)
            refine h_t hs 21 rfl (by kernel_rfl) ⟨_, rfl, rfl⟩ rfl rfl hC (fun w hC => y_move rfl) fun a hs => ?_
            refine h_t hs 22 rfl (by kernel_rfl) ⟨_, rfl, rfl⟩ rfl rfl hC (fun w hC => y_len Try.runUnderlying25 rfl) fun a hs => ?_
            refine h_t hs 23 rfl (by kernel_rfl) ⟨_, rfl, rfl⟩ rfl rfl hC (fun w hC => y_eql rfl rfl) fun a hs => ?_
            refine h_t hs 24 rfl (by kernel_rfl) ⟨_, rfl, rfl⟩ rfl rfl hC (fun w hC => y_move rfl) fun a hs => ?_
            have hs := hs.fix 128 (.bool true) rfl (vb h316)
            refine h_s hs 25 rfl (by kernel_rfl) rfl rfl rfl (.inl rfl) rfl rfl hC fun a hs => ?_
            refine h_s hs 26 rfl (by kernel_rfl) rfl rfl rfl (.inl rfl) rfl rfl hC fun a hs => ?_
            refine h_s hs 27 rfl (by kernel_rfl) rfl rfl rfl (.inl rfl) rfl rfl hC fun a hs => ?_
            refine h_s hs 28 rfl (by kernel_rfl) rfl rfl rfl (.inl rfl) rfl rfl hC fun a hs => ?_
            refine h_s hs 29 rfl (by kernel_rfl) rfl rfl rfl (.inl rfl) rfl rfl hC fun a hs => ?_
            refine h_s hs 30 rfl (by kernel_rfl) rfl rfl rfl (.inl rfl) rfl rfl hC fun a hs => ?_
            refine h_s hs 31 rfl (by kernel_rfl) rfl rfl rfl (.inl rfl) rfl rfl hC fun a hs => ?_
            refine h_s hs 32 rfl (by kernel_rfl) rfl rfl rfl (.inl rfl) rfl rfl hC fun a hs => ?_
            refine h_s hs 33 rfl (by kernel_rfl) rfl rfl rfl (.inl rfl) rfl rfl hC fun a hs => ?_
            refine h_s hs 34 rfl (by kernel_rfl) rfl rfl rfl (.inl rfl) rfl rfl hC fun a hs => ?_
            refine h_s hs 35 rfl (by kernel_rfl) rfl rfl rfl (.inl rfl) rfl rfl hC fun a hs => ?_
            refine h_s hs 36 rfl (by kernel_rfl) rfl rfl rfl (.inl rfl) rfl rfl hC fun a hs => ?_
            refine h_t hs 37 rfl (by kernel_rfl) ⟨_, rfl, rfl⟩ rfl rfl hC (fun w hC => y_pickTE (v := .bool c315) rfl rfl (vbs h317)) fun a hs => ?_
            refine h_g hs 38 rfl (by kernel_rfl) rfl rfl hC rfl (fun w hC => y_pickTE (v := .bool c266) rfl rfl (vbs h288)) fun a hs => ?_
            refine h_g hs 39 rfl (by kernel_rfl) rfl rfl hC rfl (fun w hC => y_move rfl) fun a hs => ?_
            have hs := hs.fix 143 (.bool false) rfl (vb h318)
            refine h_s hs 40 rfl (by kernel_rfl) rfl rfl rfl (.inl rfl) rfl rfl hC fun a hs => ?_
            refine h_g hs 41 rfl (by kernel_rfl) rfl rfl hC rfl (fun w hC => y_pickFE (v := .bool c269) rfl rfl (vbs h337)) fun a hs => ?_
            refine h_g hs 42 rfl (by kernel_rfl) rfl rfl hC rfl (fun w hC => y_assign rfl) fun a hs => ?_
            refine h_done (by kernel_rfl) ?_
            exact ⟨Sv338, (hs.wk rfl), (hw.ft [] [] (by decide) rfl rfl)⟩
          ·have h348 := ite_f hc315 h316
           obtain ⟨x351, h349, h348⟩ := bind_t h348
           obtain ⟨b357, o358, q355, c356, h359, h352, h353, h354, h350⟩ := hw.elemV 1 rfl h349
           have hsv360 := hs
           have hwv361 := hw
           subst h359
           have hs := hsv360
           have hw := hwv361
           obtain ⟨_, _, rfl, rfl, rfl⟩ := h350
           have hw := hw.addE h354
           obtain ⟨x364, h362, h348⟩ := bind_t h348
           obtain ⟨b371, q368, c369, h372, h365, h366, h370, h363⟩ := hw.elemRV (α := Span) 0 rfl 1 rfl h362
           have hsv373 := hs
           have hwv374 := hw
           subst h372
           have hs := hsv373
           have hw := hwv374
           obtain ⟨_, _, rfl, rfl, rfl⟩ := h363
           rcases Bool.eq_false_or_eq_true c266 with h375 | h375
           ·have h376 := ite_t hc269 h375
            obtain ⟨rv378, h377, h376⟩ := bind_t h376
            refine h_b (C := Cls [.row (some ⟨b371, 0, none⟩) rv212.1.length k214 c216 34 2] [CeA b357 q355 [.int .i64 x351.From, .int .i64 x351.To]]) (by kernel_rfl) rfl (hw.drew.cs [0] [0] rfl rfl) fun hC => ?_
            have hw := hw.drew
            refine h_g hs 0 rfl (by kernel_rfl) rfl rfl hC rfl (fun w hC => y_move rfl) fun a hs => ?_
            refine h_g hs 1 rfl (by kernel_rfl) rfl rfl hC rfl (fun w hC => y_eql rfl rfl) fun a hs => ?_
            refine h_g hs 2 rfl (by kernel_rfl) rfl rfl hC rfl (fun w hC => y_move rfl) fun a hs => ?_
            have hs := hs.fix 106 (.bool true) rfl (vb h271)
            refine h_t hs 3 rfl (by kernel_rfl) ⟨_, rfl, rfl⟩ rfl rfl hC (fun w hC => y_move rfl) fun a hs => ?_
            refine h_t hs 4 rfl (by kernel_rfl) ⟨_, rfl, rfl⟩ rfl rfl hC (fun w hC => y_eql rfl rfl) fun a hs => ?_
            refine h_g hs 5 rfl (by kernel_rfl) rfl rfl hC rfl (fun w hC => y_pickTE (v := .bool ((rv201.2 == 0) && (rv212.2 == 0))) rfl rfl (and_t h271)) fun a hs => ?_
            refine h_g hs 6 rfl (by kernel_rfl) rfl rfl hC rfl (fun w hC => y_move rfl) fun a hs => ?_
            have hs := hs.fix 110 (.bool true) rfl (vb h273)
            refine h_t hs 7 rfl (by kernel_rfl) ⟨_, rfl, rfl⟩ rfl rfl hC (fun w hC => y_move rfl) fun a hs => ?_
            refine h_g hs 8 rfl (by kernel_rfl) rfl rfl hC rfl (fun w hC => y_pickTE (v := .bool (((rv201.2 == 0) && (rv212.2 == 0)) && rv224.2)) rfl rfl (and_t h273)) fun a hs => ?_
            refine h_g hs 9 rfl (by kernel_rfl) rfl rfl hC rfl (fun w hC => y_move rfl) fun a hs => ?_
            have hs := hs.fix 113 (.bool true) rfl (vb h275)
            refine h_t hs 10 rfl (by kernel_rfl) ⟨_, rfl, rfl⟩ rfl rfl hC (fun w hC => y_move rfl) fun a hs => ?_
            refine h_t hs 11 rfl (by kernel_rfl) ⟨_, rfl, rfl⟩ rfl rfl hC (fun w hC => y_move rfl) fun a hs => ?_
            refine h_t hs 12 rfl (by kernel_rfl) ⟨_, rfl, rfl⟩ rfl rfl hC (fun w hC => y_eql rfl rfl) fun a hs => ?_
            refine h_g hs 13 rfl (by kernel_rfl) rfl rfl hC rfl (fun w hC => y_pickTE (v := .bool ((((rv201.2 == 0) && (rv212.2 == 0)) && rv224.2) && (rv224.1 == rv56.1))) rfl rfl (and_t h275)) fun a hs => ?_
            refine h_g hs 14 rfl (by kernel_rfl) rfl rfl hC rfl (fun w hC => y_move rfl) fun a hs => ?_
            have hs := hs.fix 118 (.bool true) rfl (vb h277)
            refine h_t hs 15 rfl (by kernel_rfl) ⟨_, rfl, rfl⟩ rfl rfl hC (fun w hC => y_move rfl) fun a hs => ?_
            refine h_t hs 16 rfl (by kernel_rfl) ⟨_, rfl, rfl⟩ rfl rfl hC (fun w hC => y_move rfl) fun a hs => ?_
            refine h_one (i := 17) (by kernel_rfl) rfl ?_
            refine st_callR hs (span_Normal_ok h279 hw.dom (hw.envAt 4 rfl)) (do_call Try.call16 rfl) ⟨_, rfl, rfl⟩ rfl rfl ?_
            intro v382 Sv379 w a h380 h381 hs
            obtain ⟨p281, k282, c284, rfl, h383, h283⟩ := h381
            have hw := hw.callN h380 h383
            have hw := hw.addE (e := RowA c284 rv280) h283
            refine h_nx (hw.cs [1] [1] rfl rfl) fun hC => ?_
            refine h_st (C' := Cls [.row (some ⟨b371, 0, none⟩) rv212.1.length k214 c216 34 2, .row p281 rv280.length k282 c284 34 2] [CeA b357 q355 [.int .i64 x351.From, .int .i64 x351.To]]) (fun _ h => by exact h.sub [0] (Sel.of rfl) (AllIn.of [0] rfl)) (hw.cs [1, 0] [1] rfl rfl) fun hC => ?_
            refine h_one (i := 18) (by kernel_rfl) rfl ?_
            refine st_callR hs (ref08_Same_ok h285 hw.bdom (hw.bRow 1 rfl 2 rfl) (hw.bRow 0 rfl 0 rfl)) (do_call Try.call15 rfl) ⟨_, rfl, rfl⟩ rfl rfl ?_
            intro v387 Sv384 w a h385 h386 hs
            subst h386
            have hw := hw.callB h385
            refine h_nx (hw.cs [1, 0] [1] rfl rfl) fun hC => ?_
            refine h_g hs 19 rfl (by kernel_rfl) rfl rfl hC rfl (fun w hC => y_pickTE (v := .bool c238) rfl rfl (vbs h278)) fun a hs => ?_
            refine h_g hs 20 rfl (by kernel_rfl) rfl rfl hC rfl (fun w hC => y_move rfl) fun a hs => ?_
            have hs := hs.fix 124 (.bool true) rfl (vb h287)
            refine h_t hs 21 rfl (by kernel_rfl) ⟨_, rfl, rfl⟩ rfl rfl hC (fun w hC => y_move rfl) fun a hs => ?_
            refine h_t hs 22 rfl (by kernel_rfl) ⟨_, rfl, rfl⟩ rfl rfl hC (fun w hC => y_len Try.runUnderlying25 rfl) fun a hs => ?_
            refine h_t hs 23 rfl (by kernel_rfl) ⟨_, rfl, rfl⟩ rfl rfl hC (fun w hC => y_eql rfl rfl) fun a hs => ?_
            refine h_t hs 24 rfl (by kernel_rfl) ⟨_, rfl, rfl⟩ rfl rfl hC (fun w hC => y_move rfl) fun a hs => ?_
            have hs := hs.fix 128 (.bool false) rfl (vb h316)
            refine h_t hs 25 rfl (by kernel_rfl) ⟨_, rfl, rfl⟩ rfl rfl hC (fun w hC => y_move rfl) fun a hs => ?_
            refine h_t hs 26 rfl (by kernel_rfl) ⟨_, rfl, rfl⟩ rfl rfl hC (fun w hC => y_indexAt Try.runUnderlying25 Try.sizeOf34 rfl rfl h352.1 h352.2 h353) fun a hs => ?_
            refine h_t hs 27 rfl (by kernel_rfl) ⟨_, rfl, rfl⟩ rfl rfl hC (fun w hC => y_fieldAddr (o' := q355 + 0) Try.runUnderlying34 rfl Try.sizeOf3 rfl rfl rfl) fun a hs => ?_
            refine h_t hs 28 rfl (by kernel_rfl) ⟨_, rfl, rfl⟩ rfl rfl hC (fun w hC => y_loadE1 (j := 0) (hC.ceAt 0 rfl) rfl Try.isAgg3 rfl) fun a hs => ?_
            refine h_t hs 29 rfl (by kernel_rfl) ⟨_, rfl, rfl⟩ rfl rfl hC (fun w hC => y_move rfl) fun a hs => ?_
            refine h_t hs 30 rfl (by kernel_rfl) ⟨_, rfl, rfl⟩ rfl rfl hC (fun w hC => y_indexAt Try.runUnderlying25 Try.sizeOf34 rfl rfl h365.1 h365.2 h366) fun a hs => ?_
            refine h_t hs 31 rfl (by kernel_rfl) ⟨_, rfl, rfl⟩ rfl rfl hC (fun w hC => y_fieldAddr (o' := q368 + 0) Try.runUnderlying34 rfl Try.sizeOf3 rfl rfl rfl) fun a hs => ?_
            refine h_t hs 32 rfl (by kernel_rfl) ⟨_, rfl, rfl⟩ rfl rfl hC (fun w hC => y_loadQ1 (j := 0) (hC.ownAt 0 rfl) rfl Try.isAgg3 h370 rfl) fun a hs => ?_
            refine h_t hs 33 rfl (by kernel_rfl) ⟨_, rfl, rfl⟩ rfl rfl hC (fun w hC => y_move rfl) fun a hs => ?_
            refine h_t hs 34 rfl (by kernel_rfl) ⟨_, rfl, rfl⟩ rfl rfl hC (fun w hC => y_convert Try.runUnderlying21 Try.runUnderlying3 rfl) fun a hs => ?_
            refine h_t hs 35 rfl (by kernel_rfl) ⟨_, rfl, rfl⟩ rfl rfl hC (fun w hC => y_add rfl rfl) fun a hs => ?_
            refine h_t hs 36 rfl (by kernel_rfl) ⟨_, rfl, rfl⟩ rfl rfl hC (fun w hC => y_eql rfl rfl) fun a hs => ?_
            refine h_t hs 37 rfl (by kernel_rfl) ⟨_, rfl, rfl⟩ rfl rfl hC (fun w hC => y_pickFE (v := .bool c315) rfl rfl (vbs h348)) fun a hs => ?_
            refine h_g hs 38 rfl (by kernel_rfl) rfl rfl hC rfl (fun w hC => y_pickTE (v := .bool c266) rfl rfl (vbs h288)) fun a hs => ?_
            refine h_g hs 39 rfl (by kernel_rfl) rfl rfl hC rfl (fun w hC => y_move rfl) fun a hs => ?_
            have hs := hs.fix 143 (.bool true) rfl (vb h375)
            refine h_one (i := 40) (by kernel_rfl) rfl ?_
            refine st_callR hs (law08_sane_ok h377 hw.bdom) (do_call Try.call8 rfl) ⟨_, rfl, rfl⟩ rfl rfl ?_
            intro v392 Sv389 w a h390 h391 hs
            subst h391
            have hw := hw.callB h390
            refine h_nx (hw.cs [1, 0] [1] rfl rfl) fun hC => ?_
            refine h_g hs 41 rfl (by kernel_rfl) rfl rfl hC rfl (fun w hC => y_pickTE (v := .bool c269) rfl rfl (vbs h376)) fun a hs => ?_
            refine h_g hs 42 rfl (by kernel_rfl) rfl rfl hC rfl (fun w hC => y_assign rfl) fun a hs => ?_
            refine h_done (by kernel_rfl) ?_
            exact ⟨Sv379, (hs.wk rfl), (hw.ft [] [] (by decide) rfl rfl)⟩
           ·have h394 := ite_f hc269 h375
            refine h_b (C := Cls [.row (some ⟨b371, 0, none⟩) rv212.1.length k214 c216 34 2] [CeA b357 q355 [.int .i64 x351.From, .int .i64 x351.To]]) (by kernel_rfl) rfl (hw.drew.cs [0] [0] rfl rfl) fun hC => ?_
            have hw := hw.drew
            refine h_g hs 0 rfl (by kernel_rfl) rfl rfl hC rfl (fun w hC => y_move rfl) fun a hs => ?_
            refine h_g hs 1 rfl (by kernel_rfl) rfl rfl hC rfl (fun w hC => y_eql rfl rfl) fun a hs => ?_
            refine h_g hs 2 rfl (by kernel_rfl) rfl rfl hC rfl (fun w hC => y_move rfl) fun a hs => ?_
            have hs := hs.fix 106 (.bool true) rfl (vb h271)
            refine h_t hs 3 rfl (by kernel_rfl) ⟨_, rfl, rfl⟩ rfl rfl hC (fun w hC => y_move rfl) fun a hs => ?_
            refine h_t hs 4 rfl (by kernel_rfl) ⟨_, rfl, rfl⟩ rfl rfl hC (fun w hC => y_eql rfl rfl) fun a hs => ?_
            refine h_g hs 5 rfl (by kernel_rfl) rfl rfl hC rfl (fun w hC => y_pickTE (v := .bool ((rv201.2 == 0) && (rv212.2 == 0))) rfl rfl (and_t h271)) fun a hs => ?_
            refine h_g hs 6 rfl (by kernel_rfl) rfl rfl hC rfl (fun w hC => y_move rfl) fun a hs => ?_
            have hs := hs.fix 110 (.bool true) rfl (vb h273)
            refine h_t hs 7 rfl (by kernel_rfl) ⟨_, rfl, rfl⟩ rfl rfl hC (fun w hC => y_move rfl) fun a hs => ?_
            refine h_g hs 8 rfl (by kernel_rfl) rfl rfl hC rfl (fun w hC => y_pickTE (v := .bool (((rv201.2 == 0) && (rv212.2 == 0)) && rv224.2)) rfl rfl (and_t h273)) fun a hs => ?_
            refine h_g hs 9 rfl (by kernel_rfl) rfl rfl hC rfl (fun w hC => y_move rfl) fun a hs => ?_
            have hs := hs.fix 113 (.bool true) rfl (vb h275)
            refine h_t hs 10 rfl (by kernel_rfl) ⟨_, rfl, rfl⟩ rfl rfl hC (fun w hC => y_move rfl) fun a hs => ?_
            refine h_t hs 11 rfl (by kernel_rfl) ⟨_, rfl, rfl⟩ rfl rfl hC (fun w hC => y_move rfl) fun a hs => ?_
            refine h_t hs 12 rfl (by kernel_rfl) ⟨_, rfl, rfl⟩ rfl rfl hC (fun w hC => y_eql rfl rfl) fun a hs => ?_
            refine h_g hs 13 rfl (by kernel_rfl) rfl rfl hC rfl (fun w hC => y_pickTE (v := .bool ((((rv201.2 == 0) && (rv212.2 == 0)) && rv224.2) && (rv224.1 == rv56.1))) rfl rfl (and_t h275)) fun a hs => ?_
            refine h_g hs 14 rfl (by kernel_rfl) rfl rfl hC rfl (fun w hC => y_move rfl) fun a hs => ?_
            have hs := hs.fix 118 (.bool true) rfl (vb h277)
            refine h_t hs 15 rfl (by kernel_rfl) ⟨_, rfl, rfl⟩ rfl rfl hC (fun w hC => y_move rfl) fun a hs => ?_
            refine h_t hs 16 rfl (by kernel_rfl) ⟨_, rfl, rfl⟩ rfl rfl hC (fun w hC => y_move rfl) fun a hs => ?_
            refine h_one (i := 17) (by kernel_rfl) rfl ?_
            refine st_callR hs (span_Normal_ok h279 hw.dom (hw.envAt 4 rfl)) (do_call Try.call16 rfl) ⟨_, rfl, rfl⟩ rfl rfl ?_
            intro v398 Sv395 w a h396 h397 hs
            obtain ⟨p281, k282, c284, rfl, h399, h283⟩ := h397
            have hw := hw.callN h396 h399
            have hw := hw.addE (e := RowA c284 rv280) h283
            refine h_nx (hw.cs [1] [1] rfl rfl) fun hC => ?_
            refine h_st (C' := Cls [.row (some ⟨b371, 0, none⟩) rv212.1.length k214 c216 34 2, .row p281 rv280.length k282 c284 34 2] [CeA b357 q355 [.int .i64 x351.From, .int .i64 x351.To]]) (fun _ h => by exact h.sub [0] (Sel.of rfl) (AllIn.of [0] rfl)) (hw.cs [1, 0] [1] rfl rfl) fun hC => ?_
            refine h_one (i := 18) (by kernel_rfl) rfl ?_
            refine st_callR hs (ref08_Same_ok h285 hw.bdom (hw.bRow 1 rfl 2 rfl) (hw.bRow 0 rfl 0 rfl)) (do_call Try.call15 rfl) ⟨_, rfl, rfl⟩ rfl rfl ?_
            intro v403 Sv400 w a h401 h402 hs
            subst h402
            have hw := hw.callB h401
            refine h_nx (hw.cs [1, 0] [1] rfl rfl) fun hC => ?_
            refine h_g hs 19 rfl (by kernel_rfl) rfl rfl hC rfl (fun w hC => y_pickTE (v := .bool c238) rfl rfl (vbs h278)) fun a hs => ?_
            refine h_g hs 20 rfl (by kernel_rfl) rfl rfl hC rfl (fun w hC => y_move rfl) fun a hs => ?_
            have hs := hs.fix 124 (.bool true) rfl (vb h287)
            refine h_t hs 21 rfl (by kernel_rfl) ⟨_, rfl, rfl⟩ rfl rfl hC (fun w hC => y_move rfl) fun a hs => ?_
            refine h_t hs 22 rfl (by kernel_rfl) ⟨_, rfl, rfl⟩ rfl rfl hC (fun w hC => y_len Try.runUnderlying25 rfl) fun a hs => ?_
            refine h_t hs 23 rfl (by kernel_rfl) ⟨_, rfl, rfl⟩ rfl rfl hC (fun w hC => y_eql rfl rfl) fun a hs => ?_
            refine h_t hs 24 rfl (by kernel_rfl) ⟨_, rfl, rfl⟩ rfl rfl hC (fun w hC => y_move rfl) fun a hs => ?_
            have hs := hs.fix 128 (.bool false) rfl (vb h316)
            refine h_t hs 25 rfl (by kernel_rfl) ⟨_, rfl, rfl⟩ rfl rfl hC (fun w hC => y_move rfl) fun a hs => ?_
            refine h_t hs 26 rfl (by kernel_rfl) ⟨_, rfl, rfl⟩ rfl rfl hC (fun w hC => y_indexAt Try.runUnderlying25 Try.sizeOf34 rfl rfl h352.1 h352.2 h353) fun a hs => ?_
            refine h_t hs 27 rfl (by kernel_rfl) ⟨_, rfl, rfl⟩ rfl rfl hC (fun w hC => y_fieldAddr (o' := q355 + 0) Try.runUnderlying34 rfl Try.sizeOf3 rfl rfl rfl) fun a hs => ?_
            refine h_t hs 28 rfl (by kernel_rfl) ⟨_, rfl, rfl⟩ rfl rfl hC (fun w hC => y_loadE1 (j := 0) (hC.ceAt 0 rfl) rfl Try.isAgg3 rfl) fun a hs => ?_
            refine h_t hs 29 rfl (by kernel_rfl) ⟨_, rfl, rfl⟩ rfl rfl hC (fun w hC => y_move rfl) fun a hs => ?_
            refine h_t hs 30 rfl (by kernel_rfl) ⟨_, rfl, rfl⟩ rfl rfl hC (fun w hC => y_indexAt Try.runUnderlying25 Try.sizeOf34 rfl rfl h365.1 h365.2 h366) fun a hs => ?_
            refine h_t hs 31 rfl (by kernel_rfl) ⟨_, rfl, rfl⟩ rfl rfl hC (fun w hC => y_fieldAddr (o' := q368 + 0) Try.runUnderlying34 rfl Try.sizeOf3 rfl rfl rfl) fun a hs => ?_
            refine h_t hs 32 rfl (by kernel_rfl) ⟨_, rfl, rfl⟩ rfl rfl hC (fun w hC => y_loadQ1 (j := 0) (hC.ownAt 0 rfl) rfl Try.isAgg3 h370 rfl) fun a hs => ?_
            refine h_t hs 33 rfl (by kernel_rfl) ⟨_, rfl, rfl⟩ rfl rfl hC (fun w hC => y_move rfl) fun a hs => ?_
            refine h_t hs 34 rfl (by kernel_rfl) ⟨_, rfl, rfl⟩ rfl rfl hC (fun w hC => y_convert Try.runUnderlying21 Try.runUnderlying3 rfl) fun a hs => ?_
            refine h_t hs 35 rfl (by kernel_rfl) ⟨_, rfl, rfl⟩ rfl rfl hC (fun w hC => y_add rfl rfl) fun a hs => ?_
            refine h_t hs 36 rfl (by kernel_rfl) ⟨_, rfl, rfl⟩ rfl rfl hC (fun w hC => y_eql rfl rfl) fun a hs => ?_
            refine h_t hs 37 rfl (by kernel_rfl) ⟨_, rfl, rfl⟩ rfl rfl hC (fun w hC => y_pickFE (v := .bool c315) rfl rfl (vbs h348)) fun a hs => ?_
            refine h_g hs 38 rfl (by kernel_rfl) rfl rfl hC rfl (fun w hC => y_pickTE (v := .bool c266) rfl rfl (vbs h288)) fun a hs => ?_
            refine h_g hs 39 rfl (by kernel_rfl) rfl rfl hC rfl (fun w hC => y_move rfl) fun a hs => ?_
            have hs := hs.fix 143 (.bool false) rfl (vb h375)
            refine h_s hs 40 rfl (by kernel_rfl) rfl rfl rfl (.inl rfl) rfl rfl hC fun a hs => ?_
            refine h_g hs 41 rfl (by kernel_rfl) rfl rfl hC rfl (fun w hC => y_pickFE (v := .bool c269) rfl rfl (vbs h394)) fun a hs => ?_
            refine h_g hs 42 rfl (by kernel_rfl) rfl rfl hC rfl (fun w hC => y_assign rfl) fun a hs => ?_
            refine h_done (by kernel_rfl) ?_
            exact ⟨Sv395, (hs.wk rfl), (hw.ft [] [] (by decide) rfl rfl)⟩
         ·have h405 := ite_f hc266 h287
          have h406 : c266 = false := (Option.some.inj h405).symm
          have h407 := ite_f hc269 h406
          refine h_b (C := Cls [.row p213 rv212.1.length k214 c216 34 2] []) (by kernel_rfl) rfl (hw.drew.cs [0] [] rfl rfl) fun hC => ?_
          have hw := hw.drew
          refine h_g hs 0 rfl (by kernel_rfl) rfl rfl hC rfl (fun w hC => y_move rfl) fun a hs => ?_
          refine h_g hs 1 rfl (by kernel_rfl) rfl rfl hC rfl (fun w hC => y_eql rfl rfl) fun a hs => ?_
          refine h_g hs 2 rfl (by kernel_rfl) rfl rfl hC rfl (fun w hC => y_move rfl) fun a hs => ?_
          have hs := hs.fix 106 (.bool true) rfl (vb h271)
          refine h_t hs 3 rfl (by kernel_rfl) ⟨_, rfl, rfl⟩ rfl rfl hC (fun w hC => y_move rfl) fun a hs => ?_
          refine h_t hs 4 rfl (by kernel_rfl) ⟨_, rfl, rfl⟩ rfl rfl hC (fun w hC => y_eql rfl rfl) fun a hs => ?_
          refine h_g hs 5 rfl (by kernel_rfl) rfl rfl hC rfl (fun w hC => y_pickTE (v := .bool ((rv201.2 == 0) && (rv212.2 == 0))) rfl rfl (and_t h271)) fun a hs => ?_
          refine h_g hs 6 rfl (by kernel_rfl) rfl rfl hC rfl (fun w hC => y_move rfl) fun a hs => ?_
          have hs := hs.fix 110 (.bool true) rfl (vb h273)
          refine h_t hs 7 rfl (by kernel_rfl) ⟨_, rfl, rfl⟩ rfl rfl hC (fun w hC => y_move rfl) fun a hs => ?_
          refine h_g hs 8 rfl (by kernel_rfl) rfl rfl hC rfl (fun w hC => y_pickTE (v := .bool (((rv201.2 == 0) && (rv212.2 == 0)) && rv224.2)) rfl rfl (and_t h273)) fun a hs => ?_
          refine h_g hs 9 rfl (by kernel_rfl) rfl rfl hC rfl (fun w hC => y_move rfl) fun a hs => ?_
          have hs := hs.fix 113 (.bool true) rfl (vb h275)
          refine h_t hs 10 rfl (by kernel_rfl) ⟨_, rfl, rfl⟩ rfl rfl hC (fun w hC => y_move rfl) fun a hs => ?_
          refine h_t hs 11 rfl (by kernel_rfl) ⟨_, rfl, rfl⟩ rfl rfl hC (fun w hC => y_move rfl) fun a hs => ?_
          refine h_t hs 12 rfl (by kernel_rfl) ⟨_, rfl, rfl⟩ rfl rfl hC (fun w hC => y_eql rfl rfl) fun a hs => ?_
          refine h_g hs 13 rfl (by kernel_rfl) rfl rfl hC rfl (fun w hC => y_pickTE (v := .bool ((((rv201.2 == 0) && (rv212.2 == 0)) && rv224.2) && (rv224.1 == rv56.1))) rfl rfl (and_t h275)) fun a hs => ?_
          refine h_g hs 14 rfl (by kernel_rfl) rfl rfl hC rfl (fun w hC => y_move rfl) fun a hs => ?_
          have hs := hs.fix 118 (.bool true) rfl (vb h277)
          refine h_t hs 15 rfl (by kernel_rfl) ⟨_, rfl, rfl⟩ rfl rfl hC (fun w hC => y_move rfl) fun a hs => ?_
          refine h_t hs 16 rfl (by kernel_rfl) ⟨_, rfl, rfl⟩ rfl rfl hC (fun w hC => y_move rfl) fun a hs => ?_
          refine h_one (i := 17) (by kernel_rfl) rfl ?_
          refine st_callR hs (span_Normal_ok h279 hw.dom (hw.envAt 3 rfl)) (do_call Try.call16 rfl) ⟨_, rfl, rfl⟩ rfl rfl ?_
          intro v411 Sv408 w a h409 h410 hs
          obtain ⟨p281, k282, c284, rfl, h412, h283⟩ := h410
          have hw := hw.callN h409 h412
          have hw := hw.addE (e := RowA c284 rv280) h283
          refine h_nx (hw.cs [1] [] rfl rfl) fun hC => ?_
          refine h_st (C' := Cls [.row p213 rv212.1.length k214 c216 34 2, .row p281 rv280.length k282 c284 34 2] []) (fun _ h => by exact h.sub [0] (Sel.of rfl) (AllIn.of [] rfl)) (hw.cs [1, 0] [] rfl rfl) fun hC => ?_
          refine h_one (i := 18) (by kernel_rfl) rfl ?_
          refine st_callR hs (ref08_Same_ok h285 hw.bdom (hw.bRow 1 rfl 1 rfl) (hw.bRow 0 rfl 0 rfl)) (do_call Try.call15 rfl) ⟨_, rfl, rfl⟩ rfl rfl ?_
          intro v416 Sv413 w a h414 h415 hs
          subst h415
          have hw := hw.callB h414
          refine h_nx (hw.cs [1, 0] [] rfl rfl) fun hC => ?_
          refine h_g hs 19 rfl (by kernel_rfl) rfl rfl hC rfl (fun w hC => y_pickTE (v := .bool c238) rfl rfl (vbs h278)) fun a hs => ?_
          refine h_g hs 20 rfl (by kernel_rfl) rfl rfl hC rfl (fun w hC => y_move rfl) fun a hs => ?_
          have hs := hs.fix 124 (.bool false) rfl (vb h287)
          refine h_s hs 21 rfl (by kernel_rfl) rfl rfl rfl (.inl rfl) rfl rfl hC fun a hs => ?_
          refine h_s hs 22 rfl (by kernel_rfl) rfl rfl rfl (.inl rfl) rfl rfl hC fun a hs => ?_
          refine h_s hs 23 rfl (by kernel_rfl) rfl rfl rfl (.inl rfl) rfl rfl hC fun a hs => ?_
          refine h_s hs 24 rfl (by kernel_rfl) rfl rfl rfl (.inl rfl) rfl rfl hC fun a hs => ?_
          refine h_s hs 25 rfl (by kernel_rfl) rfl rfl rfl (.inr rfl) rfl rfl hC fun a hs => ?_
          refine h_s hs 26 rfl (by kernel_rfl) rfl rfl rfl (.inr rfl) rfl rfl hC fun a hs => ?_
          refine h_s hs 27 rfl (by kernel_rfl) rfl rfl rfl (.inr rfl) rfl rfl hC fun a hs => ?_
          refine h_s hs 28 rfl (by kernel_rfl) rfl rfl rfl (.inr rfl) rfl rfl hC fun a hs => ?_
          refine h_s hs 29 rfl (by kernel_rfl) rfl rfl rfl (.inr rfl) rfl rfl hC fun a hs => ?_
          refine h_s hs 30 rfl (by kernel_rfl) rfl rfl rfl (.inr rfl) rfl rfl hC fun a hs => ?_
          refine h_s hs 31 rfl (by kernel_rfl) rfl rfl rfl (.inr rfl) rfl rfl hC fun a hs => ?_
          refine h_s hs 32 rfl (by kernel_rfl) rfl rfl rfl (.inr rfl) rfl rfl hC fun a hs => ?_
          refine h_s hs 33 rfl (by kernel_rfl) rfl rfl rfl (.inr rfl) rfl rfl hC fun a hs => ?_
          refine h_s hs 34 rfl (by kernel_rfl) rfl rfl rfl (.inr rfl) rfl rfl hC fun a hs => ?_
          refine h_s hs 35 rfl (by kernel_rfl) rfl rfl rfl (.inr rfl) rfl rfl hC fun a hs => ?_
          refine h_s hs 36 rfl (by kernel_rfl) rfl rfl rfl (.inr rfl) rfl rfl hC fun a hs => ?_
          refine h_s hs 37 rfl (by kernel_rfl) rfl rfl rfl (.inl rfl) rfl rfl hC fun a hs => ?_
          refine h_g hs 38 rfl (by kernel_rfl) rfl rfl hC rfl (fun w hC => y_pickFE (v := .bool c266) rfl rfl (vbs h405)) fun a hs => ?_
          refine h_g hs 39 rfl (by kernel_rfl) rfl rfl hC rfl (fun w hC => y_move rfl) fun a hs => ?_
          have hs := hs.fix 143 (.bool false) rfl (vb h406)
          refine h_s hs 40 rfl (by kernel_rfl) rfl rfl rfl (.inl rfl) rfl rfl hC fun a hs => ?_
          refine h_g hs 41 rfl (by kernel_rfl) rfl rfl hC rfl (fun w hC => y_pickFE (v := .bool c269) rfl rfl (vbs h407)) fun a hs => ?_
          refine h_g hs 42 rfl (by kernel_rfl) rfl rfl hC rfl (fun w hC => y_assign rfl) fun a hs => ?_
          refine h_done (by kernel_rfl) ?_
          exact ⟨Sv408, (hs.wk rfl), (hw.ft [] [] (by decide) rfl rfl)⟩
        ·have h418 := ite_f hc238 h277
         have h419 : c238 = false := (Option.some.inj h418).symm
         have h420 := ite_f hc266 h419
         have h421 : c266 = false := (Option.some.inj h420).symm
         have h422 := ite_f hc269 h421
         refine h_b (C := Cls [.row p213 rv212.1.length k214 c216 34 2] []) (by kernel_rfl) rfl (hw.drew.cs [0] [] rfl rfl) fun hC => ?_
         have hw := hw.drew
         refine h_g hs 0 rfl (by kernel_rfl) rfl rfl hC rfl (fun w hC => y_move rfl) fun a hs => ?_
         refine h_g hs 1 rfl (by kernel_rfl) rfl rfl hC rfl (fun w hC => y_eql rfl rfl) fun a hs => ?_
         refine h_g hs 2 rfl (by kernel_rfl) rfl rfl hC rfl (fun w hC => y_move rfl) fun a hs => ?_
         have hs := hs.fix 106 (.bool true) rfl (vb h271)
         refine h_t hs 3 rfl (by kernel_rfl) ⟨_, rfl, rfl⟩ rfl rfl hC (fun w hC => y_move rfl) fun a hs => ?_
         refine h_t hs 4 rfl (by kernel_rfl) ⟨_, rfl, rfl⟩ rfl rfl hC (fun w hC => y_eql rfl rfl) fun a hs => ?_
         refine h_g hs 5 rfl (by kernel_rfl) rfl rfl hC rfl (fun w hC => y_pickTE (v := .bool ((rv201.2 == 0) && (rv212.2 == 0))) rfl rfl (and_t h271)) fun a hs => ?_
         refine h_g hs 6 rfl (by kernel_rfl) rfl rfl hC rfl (fun w hC => y_move rfl) fun a hs => ?_
         have hs := hs.fix 110 (.bool true) rfl (vb h273)
         refine h_t hs 7 rfl (by kernel_rfl) ⟨_, rfl, rfl⟩ rfl rfl hC (fun w hC => y_move rfl) fun a hs => ?_
         refine h_g hs 8 rfl (by kernel_rfl) rfl rfl hC rfl (fun w hC => y_pickTE (v := .bool (((rv201.2 == 0) && (rv212.2 == 0)) && rv224.2)) rfl rfl (and_t h273)) fun a hs => ?_
         refine h_g hs 9 rfl (by kernel_rfl) rfl rfl hC rfl (fun w hC => y_move rfl) fun a hs => ?_
         have hs := hs.fix 113 (.bool true) rfl (vb h275)
         refine h_t hs 10 rfl (by kernel_rfl) ⟨_, rfl, rfl⟩ rfl rfl hC (fun w hC => y_move rfl) fun a hs => ?_
         refine h_t hs 11 rfl (by kernel_rfl) ⟨_, rfl, rfl⟩ rfl rfl hC (fun w hC => y_move rfl) fun a hs => ?_
         refine h_t hs 12 rfl (by kernel_rfl) ⟨_, rfl, rfl⟩ rfl rfl hC (fun w hC => y_eql rfl rfl) fun a hs => ?_
         refine h_g hs 13 rfl (by kernel_rfl) rfl rfl hC rfl (fun w hC => y_pickTE (v := .bool ((((rv201.2 == 0) && (rv212.2 == 0)) && rv224.2) && (rv224.1 == rv56.1))) rfl rfl (and_t h275)) fun a hs => ?_
         refine h_g hs 14 rfl (by kernel_rfl) rfl rfl hC rfl (fun w hC => y_move rfl) fun a hs => ?_
         have hs := hs.fix 118 (.bool false) rfl (vb h277)
         refine h_s hs 15 rfl (by kernel_rfl) rfl rfl rfl (.inl rfl) rfl rfl hC fun a hs => ?_
         refine h_s hs 16 rfl (by kernel_rfl) rfl rfl rfl (.inl rfl) rfl rfl hC fun a hs => ?_
         refine h_s hs 17 rfl (by kernel_rfl) rfl rfl rfl (.inl rfl) rfl rfl hC fun a hs => ?_
         refine h_s hs 18 rfl (by kernel_rfl) rfl rfl rfl (.inl rfl) rfl rfl hC fun a hs => ?_
         refine h_g hs 19 rfl (by kernel_rfl) rfl rfl hC rfl (fun w hC => y_pickFE (v := .bool c238) rfl rfl (vbs h418)) fun a hs => ?_
         refine h_g hs 20 rfl (by kernel_rfl) rfl rfl hC rfl (fun w hC => y_move rfl) fun a hs => ?_
         have hs := hs.fix 124 (.bool false) rfl (vb h419)
         refine h_s hs 21 rfl (by kernel_rfl) rfl rfl rfl (.inl rfl) rfl rfl hC fun a hs => ?_
         refine h_s hs 22 rfl (by kernel_rfl) rfl rfl rfl (.inl rfl) rfl rfl hC fun a hs => ?_
         refine h_s hs 23 rfl (by kernel_rfl) rfl rfl rfl (.inl rfl) rfl rfl hC fun a hs => ?_
         refine h_s hs 24 rfl (by kernel_rfl) rfl rfl rfl (.inl rfl) rfl rfl hC fun a hs => ?_
         refine h_s hs 25 rfl (by kernel_rfl) rfl rfl rfl (.inr rfl) rfl rfl hC fun a hs => ?_
         refine h_s hs 26 rfl (by kernel_rfl) rfl rfl rfl (.inr rfl) rfl rfl hC fun a hs => ?_
         refine h_s hs 27 rfl (by kernel_rfl) rfl rfl rfl (.inr rfl) rfl rfl hC fun a hs => ?_
         refine h_s hs 28 rfl (by kernel_rfl) rfl rfl rfl (.inr rfl) rfl rfl hC fun a hs => ?_
         refine h_s hs 29 rfl (by kernel_rfl) rfl rfl rfl (.inr rfl) rfl rfl hC fun a hs => ?_
         refine h_s hs 30 rfl (by kernel_rfl) rfl rfl rfl (.inr rfl) rfl rfl hC fun a hs => ?_
         refine h_s hs 31 rfl (by kernel_rfl) rfl rfl rfl (.inr rfl) rfl rfl hC fun a hs => ?_
         refine h_s hs 32 rfl (by kernel_rfl) rfl rfl rfl (.inr rfl) rfl rfl hC fun a hs => ?_
         refine h_s hs 33 rfl (by kernel_rfl) rfl rfl rfl (.inr rfl) rfl rfl hC fun a hs => ?_
         refine h_s hs 34 rfl (by kernel_rfl) rfl rfl rfl (.inr rfl) rfl rfl hC fun a hs => ?_
         refine h_s hs 35 rfl (by kernel_rfl) rfl rfl rfl (.inr rfl) rfl rfl hC fun a hs => ?_
         refine h_s hs 36 rfl (by kernel_rfl) rfl rfl rfl (.inr rfl) rfl rfl hC fun a hs => ?_
         refine h_s hs 37 rfl (by kernel_rfl) rfl rfl rfl (.inl rfl) rfl rfl hC fun a hs => ?_
         refine h_g hs 38 rfl (by kernel_rfl) rfl rfl hC rfl (fun w hC => y_pickFE (v := .bool c266) rfl rfl (vbs h420)) fun a hs => ?_
         refine h_g hs 39 rfl (by kernel_rfl) rfl rfl hC rfl (fun w hC => y_move rfl) fun a hs => ?_
         have hs := hs.fix 143 (.bool false) rfl (vb h421)
         refine h_s hs 40 rfl (by kernel_rfl) rfl rfl rfl (.inl rfl) rfl rfl hC fun a hs => ?_
         refine h_g hs 41 rfl (by kernel_rfl) rfl rfl hC rfl (fun w hC => y_pickFE (v := .bool c269) rfl rfl (vbs h422)) fun a hs => ?_
         refine h_g hs 42 rfl (by kernel_rfl) rfl rfl hC rfl (fun w hC => y_assign rfl) fun a hs => ?_
         refine h_done (by kernel_rfl) ?_
         exact ⟨Sv218, (hs.wk rfl), (hw.ft [] [] (by decide) rfl rfl)⟩
       ·have h424 : ((((rv201.2 == 0) && (rv212.2 == 0)) && rv224.2) && (rv224.1 == rv56.1)) = false := by rw [h275]; rfl
        have h425 := ite_f hc238 h424
        have h426 : c238 = false := (Option.some.inj h425).symm
        have h427 := ite_f hc266 h426
        have h428 : c266 = false := (Option.some.inj h427).symm
        have h429 := ite_f hc269 h428
        refine h_b (C := Cls [.row p213 rv212.1.length k214 c216 34 2] []) (by kernel_rfl) rfl (hw.drew.cs [0] [] rfl rfl) fun hC => ?_
        have hw := hw.drew
        refine h_g hs 0 rfl (by kernel_rfl) rfl rfl hC rfl (fun w hC => y_move rfl) fun a hs => ?_
        refine h_g hs 1 rfl (by kernel_rfl) rfl rfl hC rfl (fun w hC => y_eql rfl rfl) fun a hs => ?_
        refine h_g hs 2 rfl (by kernel_rfl) rfl rfl hC rfl (fun w hC => y_move rfl) fun a hs => ?_
        have hs := hs.fix 106 (.bool true) rfl (vb h271)
        refine h_t hs 3 rfl (by kernel_rfl) ⟨_, rfl, rfl⟩ rfl rfl hC (fun w hC => y_move rfl) fun a hs => ?_
        refine h_t hs 4 rfl (by kernel_rfl) ⟨_, rfl, rfl⟩ rfl rfl hC (fun w hC => y_eql rfl rfl) fun a hs => ?_
        refine h_g hs 5 rfl (by kernel_rfl) rfl rfl hC rfl (fun w hC => y_pickTE (v := .bool ((rv201.2 == 0) && (rv212.2 == 0))) rfl rfl (and_t h271)) fun a hs => ?_
        refine h_g hs 6 rfl (by kernel_rfl) rfl rfl hC rfl (fun w hC => y_move rfl) fun a hs => ?_
        have hs := hs.fix 110 (.bool true) rfl (vb h273)
        refine h_t hs 7 rfl (by kernel_rfl) ⟨_, rfl, rfl⟩ rfl rfl hC (fun w hC => y_move rfl) fun a hs => ?_
        refine h_g hs 8 rfl (by kernel_rfl) rfl rfl hC rfl (fun w hC => y_pickTE (v := .bool (((rv201.2 == 0) && (rv212.2 == 0)) && rv224.2)) rfl rfl (and_t h273)) fun a hs => ?_
        refine h_g hs 9 rfl (by kernel_rfl) rfl rfl hC rfl (fun w hC => y_move rfl) fun a hs => ?_
        have hs := hs.fix 113 (.bool false) rfl (vb h275)
        refine h_s hs 10 rfl (by kernel_rfl) rfl rfl rfl (.inl rfl) rfl rfl hC fun a hs => ?_
        refine h_s hs 11 rfl (by kernel_rfl) rfl rfl rfl (.inl rfl) rfl rfl hC fun a hs => ?_
        refine h_s hs 12 rfl (by kernel_rfl) rfl rfl rfl (.inl rfl) rfl rfl hC fun a hs => ?_
        refine h_g hs 13 rfl (by kernel_rfl) rfl rfl hC rfl (fun w hC => y_pickFE (v := .bool ((((rv201.2 == 0) && (rv212.2 == 0)) && rv224.2) && (rv224.1 == rv56.1))) rfl rfl (and_f h275)) fun a hs => ?_
        refine h_g hs 14 rfl (by kernel_rfl) rfl rfl hC rfl (fun w hC => y_move rfl) fun a hs => ?_
        have hs := hs.fix 118 (.bool false) rfl (vb h424)
        refine h_s hs 15 rfl (by kernel_rfl) rfl rfl rfl (.inl rfl) rfl rfl hC fun a hs => ?_
        refine h_s hs 16 rfl (by kernel_rfl) rfl rfl rfl (.inl rfl) rfl rfl hC fun a hs => ?_
        refine h_s hs 17 rfl (by kernel_rfl) rfl rfl rfl (.inl rfl) rfl rfl hC fun a hs => ?_
        refine h_s hs 18 rfl (by kernel_rfl) rfl rfl rfl (.inl rfl) rfl rfl hC fun a hs => ?_
        refine h_g hs 19 rfl (by kernel_rfl) rfl rfl hC rfl (fun w hC => y_pickFE (v := .bool c238) rfl rfl (vbs h425)) fun a hs => ?_
        refine h_g hs 20 rfl (by kernel_rfl) rfl rfl hC rfl (fun w hC => y_move rfl) fun a hs => ?_
        have hs := hs.fix 124 (.bool false) rfl (vb h426)
        refine h_s hs 21 rfl (by kernel_rfl) rfl rfl rfl (.inl rfl) rfl rfl hC fun a hs => ?_
        refine h_s hs 22 rfl (by kernel_rfl) rfl rfl rfl (.inl rfl) rfl rfl hC fun a hs => ?_
        refine h_s hs 23 rfl (by kernel_rfl) rfl rfl rfl (.inl rfl) rfl rfl hC fun a hs => ?_
        refine h_s hs 24 rfl (by kernel_rfl) rfl rfl rfl (.inl rfl) rfl rfl hC fun a hs => ?_
        refine h_s hs 25 rfl (by kernel_rfl) rfl rfl rfl (.inr rfl) rfl rfl hC fun a hs => ?_
        refine h_s hs 26 rfl (by kernel_rfl) rfl rfl rfl (.inr rfl) rfl rfl hC fun a hs => ?_
        refine h_s hs 27 rfl (by kernel_rfl) rfl rfl rfl (.inr rfl) rfl rfl hC fun a hs => ?_
        refine h_s hs 28 rfl (by kernel_rfl) rfl rfl rfl (.inr rfl) rfl rfl hC fun a hs => ?_
        refine h_s hs 29 rfl (by kernel_rfl) rfl rfl rfl (.inr rfl) rfl rfl hC fun a hs => ?_
        refine h_s hs 30 rfl (by kernel_rfl) rfl rfl rfl (.inr rfl) rfl rfl hC fun a hs => ?_
        refine h_s hs 31 rfl (by kernel_rfl) rfl rfl rfl (.inr rfl) rfl rfl hC fun a hs => ?_
        refine h_s hs 32 rfl (by kernel_rfl) rfl rfl rfl (.inr rfl) rfl rfl hC fun a hs => ?_
        refine h_s hs 33 rfl (by kernel_rfl) rfl rfl rfl (.inr rfl) rfl rfl hC fun a hs => ?_
        refine h_s hs 34 rfl (by kernel_rfl) rfl rfl rfl (.inr rfl) rfl rfl hC fun a hs => ?_
        refine h_s hs 35 rfl (by kernel_rfl) rfl rfl rfl (.inr rfl) rfl rfl hC fun a hs => ?_
        refine h_s hs 36 rfl (by kernel_rfl) rfl rfl rfl (.inr rfl) rfl rfl hC fun a hs => ?_
        refine h_s hs 37 rfl (by kernel_rfl) rfl rfl rfl (.inl rfl) rfl rfl hC fun a hs => ?_
        refine h_g hs 38 rfl (by kernel_rfl) rfl rfl hC rfl (fun w hC => y_pickFE (v := .bool c266) rfl rfl (vbs h427)) fun a hs => ?_
        refine h_g hs 39 rfl (by kernel_rfl) rfl rfl hC rfl (fun w hC => y_move rfl) fun a hs => ?_
        have hs := hs.fix 143 (.bool false) rfl (vb h428)
        refine h_s hs 40 rfl (by kernel_rfl) rfl rfl rfl (.inl rfl) rfl rfl hC fun a hs => ?_
        refine h_g hs 41 rfl (by kernel_rfl) rfl rfl hC rfl (fun w hC => y_pickFE (v := .bool c269) rfl rfl (vbs h429)) fun a hs => ?_
        refine h_g hs 42 rfl (by kernel_rfl) rfl rfl hC rfl (fun w hC => y_assign rfl) fun a hs => ?_
        refine h_done (by kernel_rfl) ?_
        exact ⟨Sv218, (hs.wk rfl), (hw.ft [] [] (by decide) rfl rfl)⟩
      ·have h431 : (((rv201.2 == 0) && (rv212.2 == 0)) && rv224.2) = false := by rw [h273]; rfl
       have h433 : ((((rv201.2 == 0) && (rv212.2 == 0)) && rv224.2) && (rv224.1 == rv56.1)) = false := by rw [h431]; rfl
       have h434 := ite_f hc238 h433
       have h435 : c238 = false := (Option.some.inj h434).symm
       have h436 := ite_f hc266 h435
       have h437 : c266 = false := (Option.some.inj h436).symm
       have h438 := ite_f hc269 h437
       refine h_b (C := Cls [.row p213 rv212.1.length k214 c216 34 2] []) (by kernel_rfl) rfl (hw.drew.cs [0] [] rfl rfl) fun hC => ?_
       have hw := hw.drew
       refine h_g hs 0 rfl (by kernel_rfl) rfl rfl hC rfl (fun w hC => y_move rfl) fun a hs => ?_
       refine h_g hs 1 rfl (by kernel_rfl) rfl rfl hC rfl (fun w hC => y_eql rfl rfl) fun a hs => ?_
       refine h_g hs 2 rfl (by kernel_rfl) rfl rfl hC rfl (fun w hC => y_move rfl) fun a hs => ?_
       have hs := hs.fix 106 (.bool true) rfl (vb h271)
       refine h_t hs 3 rfl (by kernel_rfl) ⟨_, rfl, rfl⟩ rfl rfl hC (fun w hC => y_move rfl) fun a hs => ?_
       refine h_t hs 4 rfl (by kernel_rfl) ⟨_, rfl, rfl⟩ rfl rfl hC (fun w hC => y_eql rfl rfl) fun a hs => ?_
       refine h_g hs 5 rfl (by kernel_rfl) rfl rfl hC rfl (fun w hC => y_pickTE (v := .bool ((rv201.2 == 0) && (rv212.2 == 0))) rfl rfl (and_t h271)) fun a hs => ?_
       refine h_g hs 6 rfl (by kernel_rfl) rfl rfl hC rfl (fun w hC => y_move rfl) fun a hs => ?_
       have hs := hs.fix 110 (.bool false) rfl (vb h273)
       refine h_s hs 7 rfl (by kernel_rfl) rfl rfl rfl (.inl rfl) rfl rfl hC fun a hs => ?_
       refine h_g hs 8 rfl (by kernel_rfl) rfl rfl hC rfl (fun w hC => y_pickFE (v := .bool (((rv201.2 == 0) && (rv212.2 == 0)) && rv224.2)) rfl rfl (and_f h273)) fun a hs => ?_
       refine h_g hs 9 rfl (by kernel_rfl) rfl rfl hC rfl (fun w hC => y_move rfl) fun a hs => ?_
       have hs := hs.fix 113 (.bool false) rfl (vb h431)
       refine h_s hs 10 rfl (by kernel_rfl) rfl rfl rfl (.inl rfl) rfl rfl hC fun a hs => ?_
       refine h_s hs 11 rfl (by kernel_rfl) rfl rfl rfl (.inl rfl) rfl rfl hC fun a hs => ?_
       refine h_s hs 12 rfl (by kernel_rfl) rfl rfl rfl (.inl rfl) rfl rfl hC fun a hs => ?_
       refine h_g hs 13 rfl (by kernel_rfl) rfl rfl hC rfl (fun w hC => y_pickFE (v := .bool ((((rv201.2 == 0) && (rv212.2 == 0)) && rv224.2) && (rv224.1 == rv56.1))) rfl rfl (and_f h431)) fun a hs => ?_
       refine h_g hs 14 rfl (by kernel_rfl) rfl rfl hC rfl (fun w hC => y_move rfl) fun a hs => ?_
       have hs := hs.fix 118 (.bool false) rfl (vb h433)
       refine h_s hs 15 rfl (by kernel_rfl) rfl rfl rfl (.inl rfl) rfl rfl hC fun a hs => ?_
       refine h_s hs 16 rfl (by kernel_rfl) rfl rfl rfl (.inl rfl) rfl rfl hC fun a hs => ?_
       refine h_s hs 17 rfl (by kernel_rfl) rfl rfl rfl (.inl rfl) rfl rfl hC fun a hs => ?_
       refine h_s hs 18 rfl (by kernel_rfl) rfl rfl rfl (.inl rfl) rfl rfl hC fun a hs => ?_
       refine h_g hs 19 rfl (by kernel_rfl) rfl rfl hC rfl (fun w hC => y_pickFE (v := .bool c238) rfl rfl (vbs h434)) fun a hs => ?_
       refine h_g hs 20 rfl (by kernel_rfl) rfl rfl hC rfl (fun w hC => y_move rfl) fun a hs => ?_
       have hs := hs.fix 124 (.bool false) rfl (vb h435)
       refine h_s hs 21 rfl (by kernel_rfl) rfl rfl rfl (.inl rfl) rfl rfl hC fun a hs => ?_
       refine h_s hs 22 rfl (by kernel_rfl) rfl rfl rfl (.inl rfl) rfl rfl hC fun a hs => ?_
       refine h_s hs 23 rfl (by kernel_rfl) rfl rfl rfl (.inl rfl) rfl rfl hC fun a hs => ?_
       refine h_s hs 24 rfl (by kernel_rfl) rfl rfl rfl (.inl rfl) rfl rfl hC fun a hs => ?_
       refine h_s hs 25 rfl (by kernel_rfl) rfl rfl rfl (.inr rfl) rfl rfl hC fun a hs => ?_
       refine h_s hs 26 rfl (by kernel_rfl) rfl rfl rfl (.inr rfl) rfl rfl hC fun a hs => ?_
       refine h_s hs 27 rfl (by kernel_rfl) rfl rfl rfl (.inr rfl) rfl rfl hC fun a hs => ?_
       refine h_s hs 28 rfl (by kernel_rfl) rfl rfl rfl (.inr rfl) rfl rfl hC fun a hs => ?_
       refine h_s hs 29 rfl (by kernel_rfl) rfl rfl rfl (.inr rfl) rfl rfl hC fun a hs => ?_
       refine h_s hs 30 rfl (by kernel_rfl) rfl rfl rfl (.inr rfl) rfl rfl hC fun a hs => ?_
       refine h_s hs 31 rfl (by kernel_rfl) rfl rfl rfl (.inr rfl) rfl rfl hC fun a hs => ?_
       refine h_s hs 32 rfl (by kernel_rfl) rfl rfl rfl (.inr rfl) rfl rfl hC fun a hs => ?_
       refine h_s hs 33 rfl (by kernel_rfl) rfl rfl rfl (.inr rfl) rfl rfl hC fun a hs => ?_
       refine h_s hs 34 rfl (by kernel_rfl) rfl rfl rfl (.inr rfl) rfl rfl hC fun a hs => ?_
       refine h_s hs 35 rfl (by kernel_rfl) rfl rfl rfl (.inr rfl) rfl rfl hC fun a hs => ?_
       refine h_s hs 36 rfl (by kernel_rfl) rfl rfl rfl (.inr rfl) rfl rfl hC fun a hs => ?_
       refine h_s hs 37 rfl (by kernel_rfl) rfl rfl rfl (.inl rfl) rfl rfl hC fun a hs => ?_
       refine h_g hs 38 rfl (by kernel_rfl) rfl rfl hC rfl (fun w hC => y_pickFE (v := .bool c266) rfl rfl (vbs h436)) fun a hs => ?_
       refine h_g hs 39 rfl (by kernel_rfl) rfl rfl hC rfl (fun w hC => y_move rfl) fun a hs => ?_
       have hs := hs.fix 143 (.bool false) rfl (vb h437)
       refine h_s hs 40 rfl (by kernel_rfl) rfl rfl rfl (.inl rfl) rfl rfl hC fun a hs => ?_
       refine h_g hs 41 rfl (by kernel_rfl) rfl rfl hC rfl (fun w hC => y_pickFE (v := .bool c269) rfl rfl (vbs h438)) fun a hs => ?_
       refine h_g hs 42 rfl (by kernel_rfl) rfl rfl hC rfl (fun w hC => y_assign rfl) fun a hs => ?_
       refine h_done (by kernel_rfl) ?_
       exact ⟨Sv218, (hs.wk rfl), (hw.ft [] [] (by decide) rfl rfl)⟩
     ·have h440 : ((rv201.2 == 0) && (rv212.2 == 0)) = false := by rw [h271]; rfl
      have h442 : (((rv201.2 == 0) && (rv212.2 == 0)) && rv224.2) = false := by rw [h440]; rfl
      have h444 : ((((rv201.2 == 0) && (rv212.2 == 0)) && rv224.2) && (rv224.1 == rv56.1)) = false := by rw [h442]; rfl
      have h445 := ite_f hc238 h444
      have h446 : c238 = false := (Option.some.inj h445).symm
      have h447 := ite_f hc266 h446
      have h448 : c266 = false := (Option.some.inj h447).symm
      have h449 := ite_f hc269 h448
      refine h_b (C := Cls [.row p213 rv212.1.length k214 c216 34 2] []) (by kernel_rfl) rfl (hw.drew.cs [0] [] rfl rfl) fun hC => ?_
      have hw := hw.drew
      refine h_g hs 0 rfl (by kernel_rfl) rfl rfl hC rfl (fun w hC => y_move rfl) fun a hs => ?_
      refine h_g hs 1 rfl (by kernel_rfl) rfl rfl hC rfl (fun w hC => y_eql rfl rfl) fun a hs => ?_
      refine h_g hs 2 rfl (by kernel_rfl) rfl rfl hC rfl (fun w hC => y_move rfl) fun a hs => ?_
      have hs := hs.fix 106 (.bool false) rfl (vb h271)
      refine h_s hs 3 rfl (by kernel_rfl) rfl rfl rfl (.inl rfl) rfl rfl hC fun a hs => ?_
      refine h_s hs 4 rfl (by kernel_rfl) rfl rfl rfl (.inl rfl) rfl rfl hC fun a hs => ?_
      refine h_g hs 5 rfl (by kernel_rfl) rfl rfl hC rfl (fun w hC => y_pickFE (v := .bool ((rv201.2 == 0) && (rv212.2 == 0))) rfl rfl (and_f h271)) fun a hs => ?_
      refine h_g hs 6 rfl (by kernel_rfl) rfl rfl hC rfl (fun w hC => y_move rfl) fun a hs => ?_
      have hs := hs.fix 110 (.bool false) rfl (vb h440)
      refine h_s hs 7 rfl (by kernel_rfl) rfl rfl rfl (.inl rfl) rfl rfl hC fun a hs => ?_
      refine h_g hs 8 rfl (by kernel_rfl) rfl rfl hC rfl (fun w hC => y_pickFE (v := .bool (((rv201.2 == 0) && (rv212.2 == 0)) && rv224.2)) rfl rfl (and_f h440)) fun a hs => ?_
      refine h_g hs 9 rfl (by kernel_rfl) rfl rfl hC rfl (fun w hC => y_move rfl) fun a hs => ?_
      have hs := hs.fix 113 (.bool false) rfl (vb h442)
      refine h_s hs 10 rfl (by kernel_rfl) rfl rfl rfl (.inl rfl) rfl rfl hC fun a hs => ?_
      refine h_s hs 11 rfl (by kernel_rfl) rfl rfl rfl (.inl rfl) rfl rfl hC fun a hs => ?_
      refine h_s hs 12 rfl (by kernel_rfl) rfl rfl rfl (.inl rfl) rfl rfl hC fun a hs => ?_
      refine h_g hs 13 rfl (by kernel_rfl) rfl rfl hC rfl (fun w hC => y_pickFE (v := .bool ((((rv201.2 == 0) && (rv212.2 == 0)) && rv224.2) && (rv224.1 == rv56.1))) rfl rfl (and_f h442)) fun a hs => ?_
      refine h_g hs 14 rfl (by kernel_rfl) rfl rfl hC rfl (fun w hC => y_move rfl) fun a hs => ?_
      have hs := hs.fix 118 (.bool false) rfl (vb h444)
      refine h_s hs 15 rfl (by kernel_rfl) rfl rfl rfl (.inl rfl) rfl rfl hC fun a hs => ?_
      refine h_s hs 16 rfl (by kernel_rfl) rfl rfl rfl (.inl rfl) rfl rfl hC fun a hs => ?_
      refine h_s hs 17 rfl (by kernel_rfl) rfl rfl rfl (.inl rfl) rfl rfl hC fun a hs => ?_
      refine h_s hs 18 rfl (by kernel_rfl) rfl rfl rfl (.inl rfl) rfl rfl hC fun a hs => ?_
      refine h_g hs 19 rfl (by kernel_rfl) rfl rfl hC rfl (fun w hC => y_pickFE (v := .bool c238) rfl rfl (vbs h445)) fun a hs => ?_
      refine h_g hs 20 rfl (by kernel_rfl) rfl rfl hC rfl (fun w hC => y_move rfl) fun a hs => ?_
      have hs := hs.fix 124 (.bool false) rfl (vb h446)
      refine h_s hs 21 rfl (by kernel_rfl) rfl rfl rfl (.inl rfl) rfl rfl hC fun a hs => ?_
      refine h_s hs 22 rfl (by kernel_rfl) rfl rfl rfl (.inl rfl) rfl rfl hC fun a hs => ?_
      refine h_s hs 23 rfl (by kernel_rfl) rfl rfl rfl (.inl rfl) rfl rfl hC fun a hs => ?_
      refine h_s hs 24 rfl (by kernel_rfl) rfl rfl rfl (.inl rfl) rfl rfl hC fun a hs => ?_
      refine h_s hs 25 rfl (by kernel_rfl) rfl rfl rfl (.inr rfl) rfl rfl hC fun a hs => ?_
      refine h_s hs 26 rfl (by kernel_rfl) rfl rfl rfl (.inr rfl) rfl rfl hC fun a hs => ?_
      refine h_s hs 27 rfl (by kernel_rfl) rfl rfl rfl (.inr rfl) rfl rfl hC fun a hs => ?_
      refine h_s hs 28 rfl (by kernel_rfl) rfl rfl rfl (.inr rfl) rfl rfl hC fun a hs => ?_
      refine h_s hs 29 rfl (by kernel_rfl) rfl rfl rfl (.inr rfl) rfl rfl hC fun a hs => ?_
      refine h_s hs 30 rfl (by kernel_rfl) rfl rfl rfl (.inr rfl) rfl rfl hC fun a hs => ?_
      refine h_s hs 31 rfl (by kernel_rfl) rfl rfl rfl (.inr rfl) rfl rfl hC fun a hs => ?_
      refine h_s hs 32 rfl (by kernel_rfl) rfl rfl rfl (.inr rfl) rfl rfl hC fun a hs => ?_
      refine h_s hs 33 rfl (by kernel_rfl) rfl rfl rfl (.inr rfl) rfl rfl hC fun a hs => ?_
      refine h_s hs 34 rfl (by kernel_rfl) rfl rfl rfl (.inr rfl) rfl rfl hC fun a hs => ?_
      refine h_s hs 35 rfl (by kernel_rfl) rfl rfl rfl (.inr rfl) rfl rfl hC fun a hs => ?_
      refine h_s hs 36 rfl (by kernel_rfl) rfl rfl rfl (.inr rfl) rfl rfl hC fun a hs => ?_
      refine h_s hs 37 rfl (by kernel_rfl) rfl rfl rfl (.inl rfl) rfl rfl hC fun a hs => ?_
      refine h_g hs 38 rfl (by kernel_rfl) rfl rfl hC rfl (fun w hC => y_pickFE (v := .bool c266) rfl rfl (vbs h447)) fun a hs => ?_
      refine h_g hs 39 rfl (by kernel_rfl) rfl rfl hC rfl (fun w hC => y_move rfl) fun a hs => ?_
      have hs := hs.fix 143 (.bool false) rfl (vb h448)
      refine h_s hs 40 rfl (by kernel_rfl) rfl rfl rfl (.inl rfl) rfl rfl hC fun a hs => ?_
      refine h_g hs 41 rfl (by kernel_rfl) rfl rfl hC rfl (fun w hC => y_pickFE (v := .bool c269) rfl rfl (vbs h449)) fun a hs => ?_
      refine h_g hs 42 rfl (by kernel_rfl) rfl rfl hC rfl (fun w hC => y_assign rfl) fun a hs => ?_
      refine h_done (by kernel_rfl) ?_
      exact ⟨Sv218, (hs.wk rfl), (hw.ft [] [] (by decide) rfl rfl)⟩
    ·rintro a w ⟨Sv270, hs, hw⟩
     refine then_normal ?_
     have hsh := Option.some.inj hsh
     subst hsh
     refine wp_ret ?_
     exact ret1 hs rfl (rv_tmp rfl) (hw.ret rfl)

end Go.Proofs.Ytmdnhgjpkdainaa.Wk

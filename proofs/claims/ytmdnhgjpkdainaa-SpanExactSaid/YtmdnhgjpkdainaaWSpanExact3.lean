/- The walks of SpanExact, part 3: each Go function computes what its plain program computes. Printed by a program of ours. -/
import Derived.Test.YtmdnhgjpkdainaaProg
import Derived.Test.YtmdnhgjpkdainaaDat
import Derived.Test.YtmdnhgjpkdainaaSh
import Derived.Test.YtmdnhgjpkdainaaLibL
import Derived.KernelRfl
import Derived.Test.YtmdnhgjpkdainaaWSpanExact2
namespace Go.Proofs.Ytmdnhgjpkdainaa.Wk
open Go Go.RowKit Go.Proofs Go.Proofs.Ytmdnhgjpkdainaa.Sh
set_option linter.unusedVariables false
set_option linter.unusedSimpArgs false

abbrev span_Normal_rd (w0 : World) (X : List Nat) (r : (List Span)) : (Nat → Prop) → World → Value → Prop := fun S w v => ∃ (p0_0 : Option Addr) (k0_0 : Nat) (c0_0 : List Value), v = .slice p0_0 r.length k0_0 ∧ Outs X w0 S w [.row p0_0 r.length k0_0 c0_0 34 2] ∧ (RowA c0_0 r).p S w
set_option maxHeartbeats 4000000 in
set_option maxRecDepth 100000 in
theorem span_Normal_ok {w0 : World} {S0 : Nat → Prop} {p2 : Option Addr} {k3 : Nat} {l1 : (List Span)} {r : (List Span)} (hsh : span_Normal l1 = some r) (hS : ∀ b, S0 b → b < w0.heap.size) (h4 : (SlA p2 l1.length k3 l1).p S0 w0) : Calls Try.prog 16 #[.slice p2 l1.length k3] w0 (Ret ([]) w0 S0 (span_Normal_rd w0 ([]) r)) := by
 refine calls_of_wp Try.func16 rfl ?_
 have hs := Sl.enter #[.slice p2 l1.length k3] 54 [(0, .slice p2 l1.length k3)] rfl ⟨rfl, trivial⟩
 have hw := Wd.enter (E := []) hS (fun _ h => (by cases h))
 have hw := hw.addE h4
 delta span_Normal at hsh
 refine wp_seq ?_
 refine wp_region_lit ?_
 refine st_val hs (y_assign rfl) trivial rfl rfl fun a hs => ?_
 refine wpList_nil ?_
 refine then_normal ?_
 refine wp_seq ?_
 refine wp_region_lit ?_
 refine st_val hs (y_move rfl) trivial rfl rfl fun a hs => ?_
 obtain ⟨rv6, h5, hsh⟩ := bind_t hsh
 refine st_callR hs (slices_Clone_Lapi_Span_api_Span_ok h5 hw.dom (hw.envAt 0 rfl)) (do_call Try.call35 rfl) trivial rfl rfl ?_
 intro v14 Sv11 w a h12 h13 hs
 obtain ⟨p7, k8, c10, rfl, h15, h9⟩ := h13
 have hw := hw.callN h12 h15
 have hw := hw.addE (e := RowA c10 rv6) h9
 obtain ⟨rv17, h16, hsh⟩ := bind_t hsh
 refine st_callR hs (slices_DeleteFunc_Lapi_Span_api_Span_ok h16 hw.dom (hw.ins [0] (by decide) rfl) (hw.envAt 0 rfl) (span_Normal_fn1_fn _ _)) (do_call Try.call34 rfl) trivial rfl rfl ?_
 intro v25 Sv22 w a h23 h24 hs
 obtain ⟨p18, k19, c21, rfl, h26, h20⟩ := h24
 have hw := hw.callO [0] [] (by decide) rfl h23 h26
 have hw := hw.addE (e := RowA c21 rv17) h20
 refine st_val hs (y_assign rfl) trivial rfl rfl fun a hs => ?_
 refine wpList_nil ?_
 refine then_normal ?_
 refine wp_seq ?_
 refine wp_region_lit ?_
 refine st_val hs (y_move rfl) trivial rfl rfl fun a hs => ?_
 obtain ⟨rv28, h27, hsh⟩ := bind_t hsh
 refine st_callR hs (slices_SortFunc_Lapi_Span_api_Span_ok h27 hw.dom (hw.ins [0] (by decide) rfl) (hw.envAt 0 rfl) (span_Normal_fn2_fn _ _)) (do_call Try.call38 rfl) trivial rfl rfl ?_
 intro v35 Sv32 w a h33 h34 hs
 obtain ⟨c29, rfl, h36, h30, h31⟩ := h34
 have hw := hw.callO [0] [] (by decide) rfl h33 h36
 have hw := hw.addE (e := RowA c29 rv28) h30
 have h37 := h31
 have h38 := Eq.symm h37
 try have hs := hs.fix 3 (.slice p18 rv28.length k19) rfl (by rw [h38])
 try have hs := hs.fix 11 (.slice p18 rv28.length k19) rfl (by rw [h38])
 refine wpList_nil ?_
 refine then_normal ?_
 refine wp_seq ?_
 refine wp_region_lit ?_
 refine st_val hs (y_assign rfl) trivial rfl rfl fun a hs => ?_
 refine wpList_nil ?_
 refine then_normal ?_
 refine wp_seq ?_
 refine wp_seq ?_
 refine wp_region_lit ?_
 refine st_val hs (y_move rfl) trivial rfl rfl fun a hs => ?_
 refine st_val hs (y_len Try.runUnderlying25 rfl) trivial rfl rfl fun a hs => ?_
 refine st_val hs (y_move rfl) trivial rfl rfl fun a hs => ?_
 refine wpList_nil ?_
 refine then_normal ?_
 obtain ⟨e261, h462, hsh⟩ := bind_t hsh
 refine wp_join (fun a w => ∃ (c262 : List Value) (p263 : Option Addr) (k264 : Nat) (Sv265 : Nat → Prop), Sl 54 [(4, .slice p263 e261.length k264)] a ∧ Wd ⟨w0, S0, []⟩ Sv265 [.row p263 e261.length k264 c262 34 2] [RowA c262 e261] w) ?_ ?_
 ·refine wp_block ?_
  have hw := hw.nilRow Span 34
  refine wp_while (fun sv39 a w => ∃ (c182 : List Value) (p183 : Option Addr) (k184 : Nat) (Sv185 : Nat → Prop), Sl 54 [(4, .slice p183 sv39.1.length k184), (13, .slice p18 rv28.length k19), (14, .int .i64 (rv28.length : Int)), (15, .int .i64 sv39.2)] a ∧ Wd ⟨w0, S0, []⟩ Sv185 [.row p183 sv39.1.length k184 c182 34 2, .row p18 rv28.length k19 c29 34 2] [RowA c182 sv39.1, RowA c29 rv28] w) (([] : List Span), 0) h462 ⟨[], none, 0, Sv32, (hs.wk rfl), (hw.ft [0, 1] [0, 1] (by decide) rfl rfl)⟩ ?_
  clear h462
  repeat clear hsh
  rintro sv39 a w tv259 ⟨c182, p183, k184, Sv185, hs, hw⟩ hsh hd258
  delta span_Normal_l1 at hsh
  refine wp_seq ?_
  refine wp_region_lit ?_
  refine st_val hs (y_lss rfl rfl) trivial rfl rfl fun a hs => ?_
  refine wpList_nil ?_
  refine then_normal ?_
  refine wp_seq ?_
  refine wp_cond_split (hs.ev rfl) (fun h267 => ?_) (fun h267 => ?_)
  ·have hsh := ite_t hsh h267
   refine wp_skip ?_
   refine then_normal ?_
   refine wp_seq ?_
   refine wp_block ?_
   refine wp_seq ?_
   refine wp_region_lit ?_
   obtain ⟨x341, h339, hsh⟩ := bind_t hsh
   obtain ⟨b348, q345, c346, h349, h342, h343, h347, h340⟩ := hw.elemRV (α := Span) 1 rfl 1 rfl h339
   have hsv350 := hs
   have hwv351 := hw
   subst h349
   have hs := hsv350
   have hw := hwv351
   obtain ⟨_, _, rfl, rfl, rfl⟩ := h340
   refine st_val hs (y_indexAt Try.runUnderlying25 Try.sizeOf34 rfl rfl h342.1 h342.2 h343) trivial rfl rfl fun a hs => ?_
   refine st_val hs (y_loadQA (j := 0) (hw.ownAt 1 rfl) rfl Try.isAgg34 Try.sizeOf34 h347 rfl rfl) trivial rfl rfl fun a hs => ?_
   refine w_alloc (cs := [.int .i64 0, .int .i64 0]) hs hw Try.zeroValue34 rfl rfl trivial ?_
   intro b352 a w hs hw
   refine w_store (m := 2) (cs' := [.int .i64 x341.From, .int .i64 x341.To]) hs hw 0 rfl rfl rfl Try.sizeOf34 rfl rfl rfl rfl trivial ?_
   intro a w hs hw
   refine wpList_nil ?_
   refine then_normal ?_
   refine wp_seq ?_
   refine wp_region_lit ?_
   refine st_val hs (y_move rfl) trivial rfl rfl fun a hs => ?_
   refine st_val hs (y_len Try.runUnderlying25 rfl) trivial rfl rfl fun a hs => ?_
   obtain ⟨n354, h353, hsh⟩ := bind_t hsh
   refine st_val hs (y_assignI rfl h353) trivial rfl rfl fun a hs => ?_
   refine wpList_nil ?_
   refine then_normal ?_
   refine wp_seq ?_
   obtain ⟨c368, hc368, hsh⟩ := bind_t hsh
   refine wp_only (fun a w => ∃ (Sv369 : Nat → Prop), Sl 54 [(4, .slice p183 sv39.1.length k184), (6, .pointer (some ⟨b352, 0, none⟩)), (7, .int .i64 n354), (13, .slice (some ⟨b348, 0, none⟩) rv28.length k19), (14, .int .i64 (rv28.length : Int)), (15, .int .i64 sv39.2), (33, .bool c368)] a ∧ Wd ⟨w0, S0, []⟩ Sv369 [.box b352 [.int .i64 x341.From, .int .i64 x341.To] 34, .row p183 sv39.1.length k184 c182 34 2, .row (some ⟨b348, 0, none⟩) rv28.length k19 c29 34 2] [RowA c182 sv39.1, RowA c29 rv28] w) ?_ ?_
   ·rcases Bool.eq_false_or_eq_true (decide (0 < n354)) with h370 | h370
    ·have h371 := ite_t hc368 h370
     obtain ⟨x374, h372, h371⟩ := bind_t h371
     obtain ⟨b381, q378, c379, h382, h375, h376, h380, h373⟩ := hw.elemRV (α := Span) 1 rfl 0 rfl h372
     have hsv383 := hs
     have hwv384 := hw
     subst h382
     have hs := hsv383
     have hw := hwv384
     obtain ⟨_, _, rfl, rfl, rfl⟩ := h373
     refine h_b (C := Cls [.box b352 [.int .i64 x341.From, .int .i64 x341.To] 34, .row (some ⟨b381, 0, none⟩) sv39.1.length k184 c182 34 2, .row (some ⟨b348, 0, none⟩) rv28.length k19 c29 34 2] []) (by kernel_rfl) rfl (hw.drew.cs [0, 1, 2] [] rfl rfl) fun hC => ?_
     have hw := hw.drew
     refine h_g hs 0 rfl (by kernel_rfl) rfl rfl hC rfl (fun w hC => y_move rfl) fun a hs => ?_
     refine h_g hs 1 rfl (by kernel_rfl) rfl rfl hC rfl (fun w hC => y_gtr rfl rfl) fun a hs => ?_
     refine h_g hs 2 rfl (by kernel_rfl) rfl rfl hC rfl (fun w hC => y_move rfl) fun a hs => ?_
     have hs := hs.fix 23 (.bool true) rfl (vb h370)
     refine h_t hs 3 rfl (by kernel_rfl) ⟨_, rfl, rfl⟩ rfl rfl hC (fun w hC => y_fieldAddr (o' := 0) Try.runUnderlying34 rfl Try.sizeOf3 rfl rfl rfl) fun a hs => ?_
     refine h_t hs 4 rfl (by kernel_rfl) ⟨_, rfl, rfl⟩ rfl rfl hC (fun w hC => y_loadB1 (hC.ownAt 0 rfl) rfl Try.isAgg3 rfl) fun a hs => ?_
     refine h_t hs 5 rfl (by kernel_rfl) ⟨_, rfl, rfl⟩ rfl rfl hC (fun w hC => y_move rfl) fun a hs => ?_
     refine h_t hs 6 rfl (by kernel_rfl) ⟨_, rfl, rfl⟩ rfl rfl hC (fun w hC => y_move rfl) fun a hs => ?_
     refine h_t hs 7 rfl (by kernel_rfl) ⟨_, rfl, rfl⟩ rfl rfl hC (fun w hC => y_sub rfl rfl) fun a hs => ?_
     refine h_t hs 8 rfl (by kernel_rfl) ⟨_, rfl, rfl⟩ rfl rfl hC (fun w hC => y_indexAt Try.runUnderlying25 Try.sizeOf34 rfl rfl h375.1 h375.2 h376) fun a hs => ?_
     refine h_t hs 9 rfl (by kernel_rfl) ⟨_, rfl, rfl⟩ rfl rfl hC (fun w hC => y_fieldAddr (o' := q378 + 1) Try.runUnderlying34 rfl Try.sizeOf3 rfl rfl rfl) fun a hs => ?_
     refine h_t hs 10 rfl (by kernel_rfl) ⟨_, rfl, rfl⟩ rfl rfl hC (fun w hC => y_loadQ1 (j := 1) (hC.ownAt 1 rfl) rfl Try.isAgg3 h380 rfl) fun a hs => ?_
     refine h_t hs 11 rfl (by kernel_rfl) ⟨_, rfl, rfl⟩ rfl rfl hC (fun w hC => y_leq rfl rfl) fun a hs => ?_
     refine h_g hs 12 rfl (by kernel_rfl) rfl rfl hC rfl (fun w hC => y_pickTE (v := .bool c368) rfl rfl (vbs h371)) fun a hs => ?_
     refine h_done (by kernel_rfl) ?_
     exact ⟨Sv185, (hs.wk rfl), (hw.ft [0, 1, 2] [0, 1] (by decide) rfl rfl)⟩
    ·have h385 := ite_f hc368 h370
     refine h_b (C := Cls [.box b352 [.int .i64 x341.From, .int .i64 x341.To] 34, .row p183 sv39.1.length k184 c182 34 2, .row (some ⟨b348, 0, none⟩) rv28.length k19 c29 34 2] []) (by kernel_rfl) rfl (hw.drew.cs [0, 1, 2] [] rfl rfl) fun hC => ?_
     have hw := hw.drew
     refine h_g hs 0 rfl (by kernel_rfl) rfl rfl hC rfl (fun w hC => y_move rfl) fun a hs => ?_
     refine h_g hs 1 rfl (by kernel_rfl) rfl rfl hC rfl (fun w hC => y_gtr rfl rfl) fun a hs => ?_
     refine h_g hs 2 rfl (by kernel_rfl) rfl rfl hC rfl (fun w hC => y_move rfl) fun a hs => ?_
     have hs := hs.fix 23 (.bool false) rfl (vb h370)
     refine h_s hs 3 rfl (by kernel_rfl) rfl rfl rfl (.inl rfl) rfl rfl hC fun a hs => ?_
     refine h_s hs 4 rfl (by kernel_rfl) rfl rfl rfl (.inl rfl) rfl rfl hC fun a hs => ?_
     refine h_s hs 5 rfl (by kernel_rfl) rfl rfl rfl (.inl rfl) rfl rfl hC fun a hs => ?_
     refine h_s hs 6 rfl (by kernel_rfl) rfl rfl rfl (.inl rfl) rfl rfl hC fun a hs => ?_
     refine h_s hs 7 rfl (by kernel_rfl) rfl rfl rfl (.inl rfl) rfl rfl hC fun a hs => ?_
     refine h_s hs 8 rfl (by kernel_rfl) rfl rfl rfl (.inl rfl) rfl rfl hC fun a hs => ?_
     refine h_s hs 9 rfl (by kernel_rfl) rfl rfl rfl (.inl rfl) rfl rfl hC fun a hs => ?_
     refine h_s hs 10 rfl (by kernel_rfl) rfl rfl rfl (.inl rfl) rfl rfl hC fun a hs => ?_
     refine h_s hs 11 rfl (by kernel_rfl) rfl rfl rfl (.inl rfl) rfl rfl hC fun a hs => ?_
     refine h_g hs 12 rfl (by kernel_rfl) rfl rfl hC rfl (fun w hC => y_pickFE (v := .bool c368) rfl rfl (vbs h385)) fun a hs => ?_
     refine h_done (by kernel_rfl) ?_
     exact ⟨Sv185, (hs.wk rfl), (hw.ft [0, 1, 2] [0, 1] (by decide) rfl rfl)⟩
   ·rintro a w ⟨Sv369, hs, hw⟩
    refine then_normal ?_
    refine wp_join (fun a w => ∃ (out425 : (List Span)) (c421 : List Value) (p422 : Option Addr) (k423 : Nat) (Sv424 : Nat → Prop), span_Normal_j1 sv39 out425 = some tv259 ∧ Sl 54 [(4, .slice p422 out425.length k423), (13, .slice (some ⟨b348, 0, none⟩) rv28.length k19), (14, .int .i64 (rv28.length : Int)), (15, .int .i64 sv39.2)] a ∧ Wd ⟨w0, S0, []⟩ Sv424 [.row p422 out425.length k423 c421 34 2, .row (some ⟨b348, 0, none⟩) rv28.length k19 c29 34 2] [RowA c421 out425, RowA c29 rv28] w) ?_ ?_
    ·refine wp_cond_split (hs.ev rfl) (fun h426 => ?_) (fun h426 => ?_)
     ·have hsh := ite_t hsh h426
      obtain ⟨x429, h427, hsh⟩ := bind_t hsh
      obtain ⟨b436, q433, c434, h437, h430, h431, h435, h428⟩ := hw.elemRV (α := Span) 1 rfl 0 rfl h427
      have hsv438 := hs
      have hwv439 := hw
      subst h437
      have hs := hsv438
      have hw := hwv439
      obtain ⟨_, _, rfl, rfl, rfl⟩ := h428
      obtain ⟨x442, h440, hsh⟩ := bind_t hsh
      obtain ⟨q446, c447, h443, h444, h448, h441⟩ := hw.elemRK (α := Span) 1 rfl 0 rfl h440
      obtain ⟨_, _, rfl, rfl, rfl⟩ := h441
      obtain ⟨l450, h449, hsh⟩ := bind_t hsh
      refine wp_only (fun a w => ∃ (Sv453 : Nat → Prop) (c451 : List Value), Sl 54 [(4, .slice (some ⟨b436, 0, none⟩) l450.length k184), (13, .slice (some ⟨b348, 0, none⟩) rv28.length k19), (14, .int .i64 (rv28.length : Int)), (15, .int .i64 sv39.2)] a ∧ Wd ⟨w0, S0, []⟩ Sv453 [.row (some ⟨b436, 0, none⟩) l450.length k184 c451 34 2, .row (some ⟨b348, 0, none⟩) rv28.length k19 c29 34 2] [RowA c451 l450, RowA c29 rv28] w) ?_ ?_
      ·refine h_b (C := Cls [.box b352 [.int .i64 x341.From, .int .i64 x341.To] 34, .row (some ⟨b348, 0, none⟩) rv28.length k19 c29 34 2] []) (by kernel_rfl) rfl (hw.drew.cs [0, 2] [] rfl rfl) fun hC => ?_
       have hw := hw.drew
       refine h_g hs 0 rfl (by kernel_rfl) rfl rfl hC rfl (fun w hC => y_move rfl) fun a hs => ?_
       refine h_g hs 1 rfl (by kernel_rfl) rfl rfl hC rfl (fun w hC => y_move rfl) fun a hs => ?_
       refine h_g hs 2 rfl (by kernel_rfl) rfl rfl hC rfl (fun w hC => y_sub rfl rfl) fun a hs => ?_
       refine h_g hs 3 rfl (by kernel_rfl) rfl rfl hC rfl (fun w hC => y_move rfl) fun a hs => ?_
       refine h_g hs 4 rfl (by kernel_rfl) rfl rfl hC rfl (fun w hC => y_move rfl) fun a hs => ?_
       refine h_g hs 5 rfl (by kernel_rfl) rfl rfl hC rfl (fun w hC => y_sub rfl rfl) fun a hs => ?_
       refine h_g hs 6 rfl (by kernel_rfl) rfl rfl hC rfl (fun w hC => y_indexAt Try.runUnderlying25 Try.sizeOf34 rfl rfl h430.1 h430.2 h431) fun a hs => ?_
       refine h_g hs 7 rfl (by kernel_rfl) rfl rfl hC rfl (fun w hC => y_fieldAddr (o' := q433 + 1) Try.runUnderlying34 rfl Try.sizeOf3 rfl rfl rfl) fun a hs => ?_
       refine h_g hs 9 rfl (by kernel_rfl) rfl rfl hC rfl (fun w hC => y_fieldAddr (o' := 1) Try.runUnderlying34 rfl Try.sizeOf3 rfl rfl rfl) fun a hs => ?_
       refine h_g hs 10 rfl (by kernel_rfl) rfl rfl hC rfl (fun w hC => y_loadB1 (hC.ownAt 0 rfl) rfl Try.isAgg3 rfl) fun a hs => ?_
       refine h_one (i := 8) (by kernel_rfl) rfl ?_
       refine st_val hs (y_loadQ1 (j := 1) (hw.ownAt 1 rfl) rfl Try.isAgg3 h435 rfl) trivial rfl rfl fun a hs => ?_
       refine h_nx (hw.cs [0, 2] [] rfl rfl) fun hC => ?_
       refine h_g hs 11 rfl (by kernel_rfl) rfl rfl hC rfl (fun w hC => y_max rfl rfl) fun a hs => ?_
       refine h_g hs 12 rfl (by kernel_rfl) rfl rfl hC rfl (fun w hC => y_indexAt Try.runUnderlying25 Try.sizeOf34 rfl rfl h443.1 h443.2 h444) fun a hs => ?_
       refine h_g hs 13 rfl (by kernel_rfl) rfl rfl hC rfl (fun w hC => y_fieldAddr (o' := q446 + 1) Try.runUnderlying34 rfl Try.sizeOf3 rfl rfl rfl) fun a hs => ?_
       refine h_one (i := 14) (by kernel_rfl) rfl ?_
       refine w_storeR (α := Span) (f := 1) (m := 1) hs hw 1 rfl 0 rfl h444 rfl rfl Try.sizeOf3 rfl rfl rfl h449 (fun es he => by rw [h448] at he; subst he; exact ⟨_, _, rfl, rfl, rfl⟩) trivial ?_
       intro c451 a w hs hw
       have h452 := setM_len h449
       try have hs := hs.fix 4 (.slice (some ⟨b436, 0, none⟩) l450.length k184) rfl (by rw [h452])
       try have hs := hs.fix 34 (.slice (some ⟨b436, 0, none⟩) l450.length k184) rfl (by rw [h452])
       try have hs := hs.fix 37 (.slice (some ⟨b436, 0, none⟩) l450.length k184) rfl (by rw [h452])
       refine h_nx (hw.cs [0, 2] [] rfl rfl) fun hC => ?_
       refine h_done (by kernel_rfl) ?_
       exact ⟨Sv369, c451, (hs.wk rfl), (hw.ft [1, 2] [0, 2] (by decide) rfl rfl)⟩
      ·rintro a w ⟨Sv453, c451, hs, hw⟩
       refine then_normal ?_
       exact ⟨l450, c451, (some ⟨b436, 0, none⟩), k184, Sv453, hsh, (hs.wk rfl), (hw.ft [0, 1] [0, 1] (by decide) rfl rfl)⟩
     ·have hsh := ite_f hsh h426
      refine wp_region_lit ?_
      refine st_val hs (y_move rfl) trivial rfl rfl fun a hs => ?_
      refine st_val hs (y_loadBA (hw.ownAt 0 rfl) rfl Try.isAgg34 Try.sizeOf34 rfl rfl) trivial rfl rfl fun a hs => ?_
      refine w_litSlice (α := Span) (vs := [.agg #[.int .i64 x341.From, .int .i64 x341.To]]) (cs := [.int .i64 x341.From, .int .i64 x341.To]) (xs := ([x341] : List Span)) hs hw El25 rfl rfl rfl rfl rfl rfl ⟨⟨_, _, rfl, rfl, rfl⟩, rfl⟩ rfl trivial rfl fun b455 a w hs hw => ?_
      obtain ⟨l457, h456, hsh⟩ := bind_t hsh
      refine w_appendR (α := Span) hs hw El25 2 rfl rfl rfl 1 rfl 0 rfl 0 rfl h456 rfl trivial ?_
      intro p458 k459 c460 a w hs hw
      refine st_val hs (y_assign rfl) trivial rfl rfl fun a hs => ?_
      refine wpList_nil ?_
      refine then_normal ?_
      exact ⟨l457, c460, p458, k459, Sv369, hsh, (hs.wk rfl), (hw.ft [2, 3] [0, 3] (by decide) rfl rfl)⟩
    ·rintro a w ⟨out425, c421, p422, k423, Sv424, hsh, hs, hw⟩
     delta span_Normal_j1 at hsh
     refine blk_normal ?_
     refine then_normal ?_
     refine wp_region_lit ?_
     refine st_val hs (y_add rfl rfl) trivial rfl rfl fun a hs => ?_
     refine st_val hs (y_move rfl) trivial rfl rfl fun a hs => ?_
     refine wpList_nil ?_
     refine then_normal ?_
     exact ⟨_, (Option.some.inj hsh).symm, c421, p422, k423, Sv424, (hs.wk rfl), (hw.ft [0, 1] [0, 1] (by decide) rfl rfl)⟩
  ·have hsh := ite_f hsh h267
   refine wp_exit ?_
   refine then_exit ?_
   refine then_exit ?_
   refine blk_exit ?_
   have hsh := Option.some.inj hsh
   subst hsh
   have h461 := hd258 _ rfl
   subst h461
   refine then_normal ?_
   exact ⟨c182, p183, k184, Sv185, (hs.wk rfl), (hw.ft [0] [0] (by decide) rfl rfl)⟩
 ·rintro a w ⟨c262, p263, k264, Sv265, hs, hw⟩
  refine then_normal ?_
  refine wp_seq ?_
  refine wp_region_lit ?_
  refine st_val hs (y_move rfl) trivial rfl rfl fun a hs => ?_
  refine st_val hs (y_assign rfl) trivial rfl rfl fun a hs => ?_
  refine wpList_nil ?_
  refine then_normal ?_
  have hsh := Option.some.inj hsh
  subst hsh
  refine wp_ret ?_
  exact ret1 hs rfl (rv_tmp rfl) (hw.ret ⟨p263, k264, c262, rfl, (hw.outs [0] (by decide) rfl), (hw.envAt 0 rfl)⟩)

abbrev ref08_Same_rd (w0 : World) (X : List Nat) (r : Bool) : (Nat → Prop) → World → Value → Prop := fun S w v => v = .bool r
set_option maxHeartbeats 4000000 in
set_option maxRecDepth 100000 in
theorem ref08_Same_ok {w0 : World} {S0 : Nat → Prop} {p2 : Option Addr} {k3 : Nat} {p6 : Option Addr} {k7 : Nat} {a1 : (List Span)} {b5 : (List Span)} {r : Bool} (hsh : ref08_Same a1 b5 = some r) (hS : ∀ b, S0 b → b < w0.heap.size) (h4 : (SlA p2 a1.length k3 a1).p S0 w0) (h8 : (SlA p6 b5.length k7 b5).p S0 w0) : Calls Try.prog 15 #[.slice p2 a1.length k3, .slice p6 b5.length k7] w0 (Ret ([]) w0 S0 (ref08_Same_rd w0 ([]) r)) := by
 refine calls_of_wp Try.func15 rfl ?_
 have hs := Sl.enter #[.slice p2 a1.length k3, .slice p6 b5.length k7] 26 [(0, .slice p2 a1.length k3), (1, .slice p6 b5.length k7)] rfl ⟨rfl, rfl, trivial⟩
 have hw := Wd.enter (E := []) hS (fun _ h => (by cases h))
 have hw := hw.addE h4
 have hw := hw.addE h8
 delta ref08_Same at hsh
 refine wp_seq ?_
 refine wp_region_lit ?_
 refine st_val hs (y_assign rfl) trivial rfl rfl fun a hs => ?_
 refine wpList_nil ?_
 refine then_normal ?_
 refine wp_seq ?_
 refine wp_seq ?_
 refine wp_region_lit ?_
 refine st_val hs (y_move rfl) trivial rfl rfl fun a hs => ?_
 refine st_val hs (y_len Try.runUnderlying25 rfl) trivial rfl rfl fun a hs => ?_
 refine st_val hs (y_move rfl) trivial rfl rfl fun a hs => ?_
 refine st_val hs (y_len Try.runUnderlying25 rfl) trivial rfl rfl fun a hs => ?_
 refine st_val hs (y_neq rfl rfl) trivial rfl rfl fun a hs => ?_
 refine wpList_nil ?_
 refine then_normal ?_
 refine wp_cond_split (hs.ev rfl) (fun h10 => ?_) (fun h10 => ?_)
 ·have hsh := ite_t hsh h10
  refine wp_seq ?_
  refine wp_region_lit ?_
  refine st_val hs (y_assign rfl) trivial rfl rfl fun a hs => ?_
  refine wpList_nil ?_
  refine then_normal ?_
  have hsh := Option.some.inj hsh
  subst hsh
  refine wp_ret ?_
  refine then_ret ?_
  exact ret1 hs rfl (rv_tmp rfl) (hw.ret rfl)
 ·have hsh := ite_f hsh h10
  refine wp_skip ?_
  refine then_normal ?_
  refine wp_seq ?_
  refine wp_seq ?_
  refine wp_region_lit ?_
  refine st_val hs (y_assign rfl) trivial rfl rfl fun a hs => ?_
  refine wpList_nil ?_
  refine then_normal ?_
  refine wp_block ?_
  refine wp_while (fun sv109 a w => ∃ (Sv173 : Nat → Prop), Sl 26 [(0, .slice p2 a1.length k3), (1, .slice p6 b5.length k7), (5, .int .i64 sv109)] a ∧ Wd ⟨w0, S0, []⟩ Sv173 [] [SlA p2 a1.length k3 a1, SlA p6 b5.length k7 b5] w) 0 hsh ⟨S0, (hs.wk rfl), (hw.ft [] [1, 0] (by decide) rfl rfl)⟩ ?_
  repeat clear hsh
  rintro sv109 a w tv206 ⟨Sv173, hs, hw⟩ hsh hd205
  delta ref08_Same_l2 at hsh
  refine wp_seq ?_
  refine wp_seq ?_
  refine wp_region_lit ?_
  refine st_val hs (y_move rfl) trivial rfl rfl fun a hs => ?_
  refine st_val hs (y_move rfl) trivial rfl rfl fun a hs => ?_
  refine st_val hs (y_len Try.runUnderlying25 rfl) trivial rfl rfl fun a hs => ?_
  refine st_val hs (y_lss rfl rfl) trivial rfl rfl fun a hs => ?_
  refine wpList_nil ?_
  refine then_normal ?_
  refine wp_cond_split (hs.ev rfl) (fun h210 => ?_) (fun h210 => ?_)
  ·have hsh := ite_t hsh h210
   refine wp_skip ?_
   refine then_normal ?_
   refine wp_seq ?_
   refine wp_block ?_
   refine wp_seq ?_
   obtain ⟨x241, h239, hsh⟩ := bind_t hsh
   obtain ⟨b247, o248, q245, c246, h249, h242, h243, h244, h240⟩ := hw.elemV 0 rfl h239
   have hsv250 := hs
   have hwv251 := hw
   subst h249
   have hs := hsv250
   have hw := hwv251
   obtain ⟨_, _, rfl, rfl, rfl⟩ := h240
   have hw := hw.addE h244
   obtain ⟨x254, h252, hsh⟩ := bind_t hsh
   obtain ⟨b260, o261, q258, c259, h262, h255, h256, h257, h253⟩ := hw.elemV 2 rfl h252
   have hsv263 := hs
   have hwv264 := hw
   subst h262
   have hs := hsv263
   have hw := hwv264
   obtain ⟨_, _, rfl, rfl, rfl⟩ := h253
   have hw := hw.addE h257
   refine wp_only (fun a w => ∃ (Sv265 : Nat → Prop), Sl 26 [(0, .slice (some ⟨b247, o248, none⟩) a1.length k3), (1, .slice (some ⟨b260, o261, none⟩) b5.length k7), (5, .int .i64 sv109), (25, .bool (!((x241.From == x254.From) && ((x241.To == x254.To) && true))))] a ∧ Wd ⟨w0, S0, []⟩ Sv265 [] [SlA (some ⟨b247, o248, none⟩) a1.length k3 a1, SlA (some ⟨b260, o261, none⟩) b5.length k7 b5] w) ?_ ?_
   ·refine h_b (C := Cls [] [CeA b260 q258 [.int .i64 x254.From, .int .i64 x254.To], CeA b247 q245 [.int .i64 x241.From, .int .i64 x241.To]]) (by kernel_rfl) rfl (hw.drew.cs [] [0, 1] rfl rfl) fun hC => ?_
    have hw := hw.drew
    refine h_g hs 0 rfl (by kernel_rfl) rfl rfl hC rfl (fun w hC => y_move rfl) fun a hs => ?_
    refine h_g hs 1 rfl (by kernel_rfl) rfl rfl hC rfl (fun w hC => y_move rfl) fun a hs => ?_
    refine h_g hs 2 rfl (by kernel_rfl) rfl rfl hC rfl (fun w hC => y_indexAt Try.runUnderlying25 Try.sizeOf34 rfl rfl h242.1 h242.2 h243) fun a hs => ?_
    refine h_g hs 3 rfl (by kernel_rfl) rfl rfl hC rfl (fun w hC => y_loadEA (j := 0) (hC.ceAt 1 rfl) rfl Try.isAgg34 Try.sizeOf34 rfl rfl) fun a hs => ?_
    refine h_g hs 4 rfl (by kernel_rfl) rfl rfl hC rfl (fun w hC => y_move rfl) fun a hs => ?_
    refine h_g hs 5 rfl (by kernel_rfl) rfl rfl hC rfl (fun w hC => y_move rfl) fun a hs => ?_
    refine h_g hs 6 rfl (by kernel_rfl) rfl rfl hC rfl (fun w hC => y_indexAt Try.runUnderlying25 Try.sizeOf34 rfl rfl h255.1 h255.2 h256) fun a hs => ?_
    refine h_g hs 7 rfl (by kernel_rfl) rfl rfl hC rfl (fun w hC => y_loadEA (j := 0) (hC.ceAt 0 rfl) rfl Try.isAgg34 Try.sizeOf34 rfl rfl) fun a hs => ?_
    refine h_g hs 8 rfl (by kernel_rfl) rfl rfl hC rfl (fun w hC => y_neqA (by kernel_rfl) rfl rfl (eqv_struct Try.runUnderlying34 (by kernel_rfl) (EqF.cons1 rfl Try.isAgg3 rfl rfl (eqv_int Try.runUnderlying3) (EqF.cons1 rfl Try.isAgg3 rfl rfl (eqv_int Try.runUnderlying3) EqF.nil)))) fun a hs => ?_
    refine h_done (by kernel_rfl) ?_
    exact ⟨Sv173, (hs.wk rfl), (hw.ft [] [2, 3] (by decide) rfl rfl)⟩
   ·rintro a w ⟨Sv265, hs, hw⟩
    refine then_normal ?_
    refine wp_cond_split (hs.ev rfl) (fun h267 => ?_) (fun h267 => ?_)
    ·have hsh := ite_t hsh h267
     refine wp_seq ?_
     refine wp_region_lit ?_
     refine st_val hs (y_assign rfl) trivial rfl rfl fun a hs => ?_
     refine wpList_nil ?_
     refine then_normal ?_
     have hsh := Option.some.inj hsh
     subst hsh
     have h268 := hd205 _ rfl
     subst h268
     refine wp_ret ?_
     refine blk_ret ?_
     refine then_ret ?_
     refine then_ret ?_
     refine blk_ret ?_
     refine then_ret ?_
     exact ret1 hs rfl (rv_tmp rfl) (hw.ret rfl)
    ·have hsh := ite_f hsh h267
     refine wp_skip ?_
     refine blk_normal ?_
     refine then_normal ?_
     refine wp_region_lit ?_
     refine st_val hs (y_move rfl) trivial rfl rfl fun a hs => ?_
     refine st_val hs (y_add rfl rfl) trivial rfl rfl fun a hs => ?_
     obtain ⟨i270, h269, hsh⟩ := bind_t hsh
     refine st_val hs (y_assignI rfl h269) trivial rfl rfl fun a hs => ?_
     refine wpList_nil ?_
     refine then_normal ?_
     exact ⟨_, (Option.some.inj hsh).symm, Sv265, (hs.wk rfl), (hw.ft [] [0, 1] (by decide) rfl rfl)⟩
  ·have hsh := ite_f hsh h210
   obtain ⟨rv271, hsh, h272⟩ := map_t hsh
   have h272 := (hd205 _ h272.symm).symm
   subst h272
   refine wp_exit ?_
   refine then_exit ?_
   refine then_exit ?_
   refine blk_exit ?_
   refine then_normal ?_
   refine wp_seq ?_
   refine wp_region_lit ?_
   refine st_val hs (y_assign rfl) trivial rfl rfl fun a hs => ?_
   refine wpList_nil ?_
   refine then_normal ?_
   have hsh := Option.some.inj hsh
   subst hsh
   refine wp_ret ?_
   exact ret1 hs rfl (rv_tmp rfl) (hw.ret rfl)

abbrev span_First_rd (w0 : World) (X : List Nat) (r : (List Span)) : (Nat → Prop) → World → Value → Prop := fun S w v => ∃ (p0_0 : Option Addr) (k0_0 : Nat) (c0_0 : List Value), v = .slice p0_0 r.length k0_0 ∧ Outs X w0 S w [.row p0_0 r.length k0_0 c0_0 34 2] ∧ (RowA c0_0 r).p S w
set_option maxHeartbeats 4000000 in
set_option maxRecDepth 100000 in
theorem span_First_ok {w0 : World} {S0 : Nat → Prop} {p2 : Option Addr} {k3 : Nat} {l1 : (List Span)} {n5 : Int} {r : (List Span)} (hsh : span_First l1 n5 = some r) (hS : ∀ b, S0 b → b < w0.heap.size) (h4 : (SlA p2 l1.length k3 l1).p S0 w0) : Calls Try.prog 12 #[.slice p2 l1.length k3, .int .i64 n5] w0 (Ret ([]) w0 S0 (span_First_rd w0 ([]) r)) := by
 refine calls_of_wp Try.func12 rfl ?_
 have hs := Sl.enter #[.slice p2 l1.length k3, .int .i64 n5] 44 [(0, .slice p2 l1.length k3), (1, .int .i64 n5)] rfl ⟨rfl, rfl, trivial⟩
 have hw := Wd.enter (E := []) hS (fun _ h => (by cases h))
 have hw := hw.addE h4
 delta span_First at hsh
 refine wp_seq ?_
 refine wp_region_lit ?_
 refine st_val hs (y_assign rfl) trivial rfl rfl fun a hs => ?_
 refine wpList_nil ?_
 refine then_normal ?_
 refine wp_seq ?_
 refine wp_region_lit ?_
 refine st_val hs (y_assign rfl) trivial rfl rfl fun a hs => ?_
 refine wpList_nil ?_
 refine then_normal ?_
 refine wp_seq ?_
 refine wp_seq ?_
 refine wp_region_lit ?_
 refine st_val hs (y_move rfl) trivial rfl rfl fun a hs => ?_
 obtain ⟨rv7, h6, hsh⟩ := bind_t hsh
 refine st_callR hs (span_Normal_ok h6 hw.dom (hw.envAt 0 rfl)) (do_call Try.call16 rfl) trivial rfl rfl ?_
 intro v15 Sv12 w a h13 h14 hs
 obtain ⟨p8, k9, c11, rfl, h16, h10⟩ := h14
 have hw := hw.callN h13 h16
 have hw := hw.addE (e := RowA c11 rv7) h10
 refine st_val hs (y_len Try.runUnderlying25 rfl) trivial rfl rfl fun a hs => ?_
 refine st_val hs (y_move rfl) trivial rfl rfl fun a hs => ?_
 refine wpList_nil ?_
 refine then_normal ?_
 obtain ⟨e122, h195, hsh⟩ := bind_t hsh
 refine wp_join (fun a w => ∃ (c123 : List Value) (p124 : Option Addr) (k125 : Nat) (Sv126 : Nat → Prop), Sl 44 [(5, .slice p124 e122.length k125)] a ∧ Wd ⟨w0, S0, []⟩ Sv126 [.row p124 e122.length k125 c123 34 2] [RowA c123 e122] w) ?_ ?_
 ·refine wp_block ?_
  have hw := hw.nilRow Span 34
  refine wp_while (fun sv17 a w => ∃ (c84 : List Value) (p85 : Option Addr) (k86 : Nat) (Sv87 : Nat → Prop), Sl 44 [(1, .int .i64 sv17.1), (5, .slice p85 sv17.2.1.length k86), (10, .slice p8 rv7.length k9), (11, .int .i64 (rv7.length : Int)), (12, .int .i64 sv17.2.2)] a ∧ Wd ⟨w0, S0, []⟩ Sv87 [.row p85 sv17.2.1.length k86 c84 34 2, .row p8 rv7.length k9 c11 34 2] [RowA c84 sv17.2.1, RowA c11 rv7] w) (n5, ([] : List Span), 0) h195 ⟨[], none, 0, Sv12, (hs.wk rfl), (hw.ft [0, 1] [0, 1] (by decide) rfl rfl)⟩ ?_
  clear h195
  repeat clear hsh
  rintro sv17 a w tv120 ⟨c84, p85, k86, Sv87, hs, hw⟩ hsh hd119
  delta span_First_l1 at hsh
  refine wp_seq ?_
  refine wp_region_lit ?_
  refine st_val hs (y_lss rfl rfl) trivial rfl rfl fun a hs => ?_
  refine wpList_nil ?_
  refine then_normal ?_
  refine wp_seq ?_
  refine wp_cond_split (hs.ev rfl) (fun h128 => ?_) (fun h128 => ?_)
  ·have hsh := ite_t hsh h128
   refine wp_skip ?_
   refine then_normal ?_
   refine wp_seq ?_
   refine wp_block ?_
   refine wp_seq ?_
   refine wp_region_lit ?_
   obtain ⟨x161, h159, hsh⟩ := bind_t hsh
   obtain ⟨b168, q165, c166, h169, h162, h163, h167, h160⟩ := hw.elemRV (α := Span) 1 rfl 1 rfl h159
   have hsv170 := hs
   have hwv171 := hw
   subst h169
   have hs := hsv170
   have hw := hwv171
   obtain ⟨_, _, rfl, rfl, rfl⟩ := h160
   refine st_val hs (y_indexAt Try.runUnderlying25 Try.sizeOf34 rfl rfl h162.1 h162.2 h163) trivial rfl rfl fun a hs => ?_
   refine st_val hs (y_loadQA (j := 0) (hw.ownAt 1 rfl) rfl Try.isAgg34 Try.sizeOf34 h167 rfl rfl) trivial rfl rfl fun a hs => ?_
   refine w_alloc (cs := [.int .i64 0, .int .i64 0]) hs hw Try.zeroValue34 rfl rfl trivial ?_
   intro b172 a w hs hw
   refine w_store (m := 2) (cs' := [.int .i64 x161.From, .int .i64 x161.To]) hs hw 0 rfl rfl rfl Try.sizeOf34 rfl rfl rfl rfl trivial ?_
   intro a w hs hw
   refine wpList_nil ?_
   refine then_normal ?_
   refine wp_seq ?_
   refine wp_seq ?_
   refine wp_region_lit ?_
   refine st_val hs (y_move rfl) trivial rfl rfl fun a hs => ?_
   refine st_val hs (y_lss rfl rfl) trivial rfl rfl fun a hs => ?_
   refine wpList_nil ?_
   refine then_normal ?_
   refine wp_cond_split (hs.ev rfl) (fun h174 => ?_) (fun h174 => ?_)
   ·have hsh := ite_t hsh h174
    refine wp_exit ?_
    refine then_exit ?_
    refine blk_other rfl ?_
    refine then_exit ?_
    refine then_exit ?_
    refine blk_exit ?_
    have hsh := Option.some.inj hsh
    subst hsh
    have h175 := hd119 _ rfl
    subst h175
    refine then_normal ?_
    exact ⟨c84, p85, k86, Sv87, (hs.wk rfl), (hw.ft [1] [0] (by decide) rfl rfl)⟩
   ·have hsh := ite_f hsh h174
    refine wp_skip ?_
    refine then_normal ?_
    refine wp_seq ?_
    refine wp_seq ?_
    refine wp_region_lit ?_
    refine st_val hs (y_fieldAddr (o' := 1) Try.runUnderlying34 rfl Try.sizeOf3 rfl rfl rfl) trivial rfl rfl fun a hs => ?_
    refine st_val hs (y_loadB1 (hw.ownAt 0 rfl) rfl Try.isAgg3 rfl) trivial rfl rfl fun a hs => ?_
    refine st_val hs (y_convert Try.runUnderlying3 Try.runUnderlying51 rfl) trivial rfl rfl fun a hs => ?_
    refine st_val hs (y_fieldAddr (o' := 0) Try.runUnderlying34 rfl Try.sizeOf3 rfl rfl rfl) trivial rfl rfl fun a hs => ?_
    refine st_val hs (y_loadB1 (hw.ownAt 0 rfl) rfl Try.isAgg3 rfl) trivial rfl rfl fun a hs => ?_
    refine st_val hs (y_convert Try.runUnderlying3 Try.runUnderlying51 rfl) trivial rfl rfl fun a hs => ?_
    refine st_val hs (y_sub rfl rfl) trivial rfl rfl fun a hs => ?_
    obtain ⟨size177, h176, hsh⟩ := bind_t hsh
    refine st_val hs (y_assignI rfl h176) trivial rfl rfl fun a hs => ?_
    refine wpList_nil ?_
    refine then_normal ?_
    refine wp_seq ?_
    refine wp_region_lit ?_
    refine st_val hs (y_move rfl) trivial rfl rfl fun a hs => ?_
    refine st_val hs (y_move rfl) trivial rfl rfl fun a hs => ?_
    refine st_val hs (y_convert Try.runUnderlying3 Try.runUnderlying51 rfl) trivial rfl rfl fun a hs => ?_
    refine st_val hs (y_gtr rfl rfl) trivial rfl rfl fun a hs => ?_
    refine wpList_nil ?_
    refine then_normal ?_
    refine wp_join (fun a w => ∃ (x182 : Int) (n183 : Int) (Sv181 : Nat → Prop), span_First_j1 sv17 x161 x182 n183 = some tv120 ∧ Sl 44 [(1, .int .i64 n183), (5, .slice p85 sv17.2.1.length k86), (7, .pointer (some ⟨b172, 0, none⟩)), (10, .slice (some ⟨b168, 0, none⟩) rv7.length k9), (11, .int .i64 (rv7.length : Int)), (12, .int .i64 sv17.2.2)] a ∧ Wd ⟨w0, S0, []⟩ Sv181 [.box b172 [.int .i64 x161.From, .int .i64 x182] 34, .row p85 sv17.2.1.length k86 c84 34 2, .row (some ⟨b168, 0, none⟩) rv7.length k9 c11 34 2] [RowA c84 sv17.2.1, RowA c11 rv7] w) ?_ ?_
    ·refine wp_cond_split (hs.ev rfl) (fun h191 => ?_) (fun h191 => ?_)
     ·have hsh := ite_t hsh h191
      refine wp_region_lit ?_
      refine st_val hs (y_fieldAddr (o' := 0) Try.runUnderlying34 rfl Try.sizeOf3 rfl rfl rfl) trivial rfl rfl fun a hs => ?_
      refine st_val hs (y_loadB1 (hw.ownAt 0 rfl) rfl Try.isAgg3 rfl) trivial rfl rfl fun a hs => ?_
      refine st_val hs (y_move rfl) trivial rfl rfl fun a hs => ?_
      refine st_val hs (y_add rfl rfl) trivial rfl rfl fun a hs => ?_
      refine st_val hs (y_fieldAddr (o' := 1) Try.runUnderlying34 rfl Try.sizeOf3 rfl rfl rfl) trivial rfl rfl fun a hs => ?_
      refine w_store (m := 1) (cs' := [.int .i64 x161.From, .int .i64 (w64 (x161.From + sv17.1))]) hs hw 0 rfl rfl rfl Try.sizeOf3 rfl rfl rfl rfl trivial ?_
      intro a w hs hw
      refine st_val hs (y_assign rfl) trivial rfl rfl fun a hs => ?_
      refine wpList_nil ?_
      refine then_normal ?_
      exact ⟨(w64 (x161.From + sv17.1)), 0, Sv87, hsh, (hs.wk rfl), (hw.ft [0, 1, 2] [0, 1] (by decide) rfl rfl)⟩
     ·have hsh := ite_f hsh h191
      refine wp_region_lit ?_
      refine st_val hs (y_move rfl) trivial rfl rfl fun a hs => ?_
      refine st_val hs (y_move rfl) trivial rfl rfl fun a hs => ?_
      refine st_val hs (y_convert Try.runUnderlying51 Try.runUnderlying3 rfl) trivial rfl rfl fun a hs => ?_
      refine st_val hs (y_sub rfl rfl) trivial rfl rfl fun a hs => ?_
      obtain ⟨n193, h192, hsh⟩ := bind_t hsh
      refine st_val hs (y_assignI rfl h192) trivial rfl rfl fun a hs => ?_
      refine wpList_nil ?_
      refine then_normal ?_
      exact ⟨x161.To, n193, Sv87, hsh, (hs.wk rfl), (hw.ft [0, 1, 2] [0, 1] (by decide) rfl rfl)⟩
    ·rintro a w ⟨x182, n183, Sv181, hsh, hs, hw⟩
     delta span_First_j1 at hsh
     refine then_normal ?_
     refine wp_region_lit ?_
     refine st_val hs (y_move rfl) trivial rfl rfl fun a hs => ?_
     refine st_val hs (y_loadBA (hw.ownAt 0 rfl) rfl Try.isAgg34 Try.sizeOf34 rfl rfl) trivial rfl rfl fun a hs => ?_
     refine w_litSlice (α := Span) (vs := [.agg #[.int .i64 x161.From, .int .i64 x182]]) (cs := [.int .i64 x161.From, .int .i64 x182]) (xs := ([(⟨x161.From, x182⟩ : Span)] : List Span)) hs hw El25 rfl rfl rfl rfl rfl rfl ⟨⟨_, _, rfl, rfl, rfl⟩, rfl⟩ rfl trivial rfl fun b185 a w hs hw => ?_
     obtain ⟨l187, h186, hsh⟩ := bind_t hsh
     refine w_appendR (α := Span) hs hw El25 2 rfl rfl rfl 1 rfl 0 rfl 0 rfl h186 rfl trivial ?_
     intro p188 k189 c190 a w hs hw
     refine st_val hs (y_assign rfl) trivial rfl rfl fun a hs => ?_
     refine wpList_nil ?_
     refine blk_normal ?_
     refine then_normal ?_
     refine wp_region_lit ?_
     refine st_val hs (y_add rfl rfl) trivial rfl rfl fun a hs => ?_
     refine st_val hs (y_move rfl) trivial rfl rfl fun a hs => ?_
     refine wpList_nil ?_
     refine then_normal ?_
     exact ⟨_, (Option.some.inj hsh).symm, c190, p188, k189, Sv181, (hs.wk rfl), (hw.ft [2, 3] [0, 3] (by decide) rfl rfl)⟩
  ·have hsh := ite_f hsh h128
   refine wp_exit ?_
   refine then_exit ?_
   refine then_exit ?_
   refine blk_exit ?_
   have hsh := Option.some.inj hsh
   subst hsh
   have h194 := hd119 _ rfl
   subst h194
   refine then_normal ?_
   exact ⟨c84, p85, k86, Sv87, (hs.wk rfl), (hw.ft [0] [0] (by decide) rfl rfl)⟩
 ·rintro a w ⟨c123, p124, k125, Sv126, hs, hw⟩
  refine then_normal ?_
  refine wp_seq ?_
  refine wp_region_lit ?_
  refine st_val hs (y_move rfl) trivial rfl rfl fun a hs => ?_
  refine st_val hs (y_assign rfl) trivial rfl rfl fun a hs => ?_
  refine wpList_nil ?_
  refine then_normal ?_
  have hsh := Option.some.inj hsh
  subst hsh
  refine wp_ret ?_
  exact ret1 hs rfl (rv_tmp rfl) (hw.ret ⟨p124, k125, c123, rfl, (hw.outs [0] (by decide) rfl), (hw.envAt 0 rfl)⟩)

abbrev span_Valid_rd (w0 : World) (X : List Nat) (r : Bool) : (Nat → Prop) → World → Value → Prop := fun S w v => v = .bool r
set_option maxHeartbeats 4000000 in
set_option maxRecDepth 100000 in
theorem span_Valid_ok {w0 : World} {S0 : Nat → Prop} {p2 : Option Addr} {k3 : Nat} {l1 : (List Span)} {r : Bool} (hsh : span_Valid l1 = some r) (hS : ∀ b, S0 b → b < w0.heap.size) (h4 : (SlA p2 l1.length k3 l1).p S0 w0) : Calls Try.prog 21 #[.slice p2 l1.length k3] w0 (Ret ([]) w0 S0 (span_Valid_rd w0 ([]) r)) := by
 refine calls_of_wp Try.func21 rfl ?_
 have hs := Sl.enter #[.slice p2 l1.length k3] 31 [(0, .slice p2 l1.length k3)] rfl ⟨rfl, trivial⟩
 have hw := Wd.enter (E := []) hS (fun _ h => (by cases h))
 have hw := hw.addE h4
 delta span_Valid at hsh
 refine wp_seq ?_
 refine wp_region_lit ?_
 refine st_val hs (y_assign rfl) trivial rfl rfl fun a hs => ?_
 refine wpList_nil ?_
 refine then_normal ?_
 refine wp_seq ?_
 refine wp_seq ?_
 refine wp_region_lit ?_
 refine st_val hs (y_move rfl) trivial rfl rfl fun a hs => ?_
 refine st_val hs (y_len Try.runUnderlying25 rfl) trivial rfl rfl fun a hs => ?_
 refine st_val hs (y_move rfl) trivial rfl rfl fun a hs => ?_
 refine wpList_nil ?_
 refine then_normal ?_
 refine wp_block ?_
 refine wp_while (fun sv97 a w => ∃ (Sv157 : Nat → Prop), Sl 31 [(0, .slice p2 l1.length k3), (5, .slice p2 l1.length k3), (6, .int .i64 (l1.length : Int)), (7, .int .i64 sv97)] a ∧ Wd ⟨w0, S0, []⟩ Sv157 [] [SlA p2 l1.length k3 l1] w) 0 hsh ⟨S0, (hs.wk rfl), (hw.ft [] [0] (by decide) rfl rfl)⟩ ?_
 repeat clear hsh
 rintro sv97 a w tv188 ⟨Sv157, hs, hw⟩ hsh hd187
 delta span_Valid_l2 at hsh
 refine wp_seq ?_
 refine wp_region_lit ?_
 refine st_val hs (y_lss rfl rfl) trivial rfl rfl fun a hs => ?_
 refine wpList_nil ?_
 refine then_normal ?_
 refine wp_seq ?_
 refine wp_cond_split (hs.ev rfl) (fun h192 => ?_) (fun h192 => ?_)
 ·have hsh := ite_t hsh h192
  refine wp_skip ?_
  refine then_normal ?_
  refine wp_seq ?_
  refine wp_block ?_
  refine wp_seq ?_
  refine wp_region_lit ?_
  refine st_val hs (y_move rfl) trivial rfl rfl fun a hs => ?_
  obtain ⟨x223, h221, hsh⟩ := bind_t hsh
  obtain ⟨b229, o230, q227, c228, h231, h224, h225, h226, h222⟩ := hw.elemV 0 rfl h221
  have hsv232 := hs
  have hwv233 := hw
  subst h231
  have hs := hsv232
  have hw := hwv233
  obtain ⟨_, _, rfl, rfl, rfl⟩ := h222
  have hw := hw.addE h226
  refine st_val hs (y_indexAt Try.runUnderlying25 Try.sizeOf34 rfl rfl h224.1 h224.2 h225) trivial rfl rfl fun a hs => ?_
  refine st_val hs (y_loadEA (j := 0) (hw.ceAt 0 rfl) rfl Try.isAgg34 Try.sizeOf34 rfl rfl) trivial rfl rfl fun a hs => ?_
  refine w_alloc (cs := [.int .i64 0, .int .i64 0]) hs hw Try.zeroValue34 rfl rfl trivial ?_
  intro b234 a w hs hw
  refine st_val hs (y_assign rfl) trivial rfl rfl fun a hs => ?_
  refine w_store (m := 2) (cs' := [.int .i64 x223.From, .int .i64 x223.To]) hs hw 0 rfl rfl rfl Try.sizeOf34 rfl rfl rfl rfl trivial ?_
  intro a w hs hw
  refine wpList_nil ?_
  refine then_normal ?_
  refine wp_seq ?_
  obtain ⟨rv236, h235, hsh⟩ := bind_t hsh
  obtain ⟨c246, hc246, hsh⟩ := bind_t hsh
  refine wp_only (fun a w => ∃ (Sv247 : Nat → Prop), Sl 31 [(0, .slice (some ⟨b229, o230, none⟩) l1.length k3), (5, .slice (some ⟨b229, o230, none⟩) l1.length k3), (6, .int .i64 (l1.length : Int)), (7, .int .i64 sv97), (29, .bool c246)] a ∧ Wd ⟨w0, S0, []⟩ Sv247 [] [SlA (some ⟨b229, o230, none⟩) l1.length k3 l1] w) ?_ ?_
  ·rcases Bool.eq_false_or_eq_true (!rv236) with h248 | h248
   ·have h249 := ite_t hc246 h248
    refine h_b (C := Cls [.box b234 [.int .i64 x223.From, .int .i64 x223.To] 34] [CeA b229 q227 [.int .i64 x223.From, .int .i64 x223.To]]) (by kernel_rfl) rfl (hw.drew.cs [0] [0] rfl rfl) fun hC => ?_
    have hw := hw.drew
    refine h_g hs 0 rfl (by kernel_rfl) rfl rfl hC rfl (fun w hC => y_loadBA (hC.ownAt 0 rfl) rfl Try.isAgg34 Try.sizeOf34 rfl rfl) fun a hs => ?_
    refine h_one (i := 1) (by kernel_rfl) rfl ?_
    refine st_callR hs (span_some_ok h235 hw.bdom) (do_call Try.call37 rfl) trivial rfl rfl ?_
    intro v253 Sv250 w a h251 h252 hs
    subst h252
    have hw := hw.callB h251
    refine h_nx (hw.cs [0] [0] rfl rfl) fun hC => ?_
    refine h_g hs 2 rfl (by kernel_rfl) rfl rfl hC rfl (fun w hC => y_not rfl) fun a hs => ?_
    refine h_g hs 3 rfl (by kernel_rfl) rfl rfl hC rfl (fun w hC => y_move rfl) fun a hs => ?_
    have hs := hs.fix 15 (.bool true) rfl (vb h248)
    refine h_s hs 4 rfl (by kernel_rfl) rfl rfl rfl (.inl rfl) rfl rfl hC fun a hs => ?_
    refine h_s hs 5 rfl (by kernel_rfl) rfl rfl rfl (.inl rfl) rfl rfl hC fun a hs => ?_
    refine h_s hs 6 rfl (by kernel_rfl) rfl rfl rfl (.inl rfl) rfl rfl hC fun a hs => ?_
    refine h_s hs 7 rfl (by kernel_rfl) rfl rfl rfl (.inr rfl) rfl rfl hC fun a hs => ?_
    refine h_s hs 8 rfl (by kernel_rfl) rfl rfl rfl (.inr rfl) rfl rfl hC fun a hs => ?_
    refine h_s hs 9 rfl (by kernel_rfl) rfl rfl rfl (.inr rfl) rfl rfl hC fun a hs => ?_
    refine h_s hs 10 rfl (by kernel_rfl) rfl rfl rfl (.inr rfl) rfl rfl hC fun a hs => ?_
    refine h_s hs 11 rfl (by kernel_rfl) rfl rfl rfl (.inr rfl) rfl rfl hC fun a hs => ?_
    refine h_s hs 12 rfl (by kernel_rfl) rfl rfl rfl (.inr rfl) rfl rfl hC fun a hs => ?_
    refine h_s hs 13 rfl (by kernel_rfl) rfl rfl rfl (.inr rfl) rfl rfl hC fun a hs => ?_
    refine h_s hs 14 rfl (by kernel_rfl) rfl rfl rfl (.inr rfl) rfl rfl hC fun a hs => ?_
    refine h_s hs 15 rfl (by kernel_rfl) rfl rfl rfl (.inr rfl) rfl rfl hC fun a hs => ?_
    refine h_s hs 16 rfl (by kernel_rfl) rfl rfl rfl (.inl rfl) rfl rfl hC fun a hs => ?_
    refine h_g hs 17 rfl (by kernel_rfl) rfl rfl hC rfl (fun w hC => y_pickTE (v := .bool c246) rfl rfl (vbs h249)) fun a hs => ?_
    refine h_done (by kernel_rfl) ?_
    exact ⟨Sv157, (hs.wk rfl), (hw.ft [] [1] (by decide) rfl rfl)⟩
   ·have h255 := ite_f hc246 h248
    obtain ⟨c264, hc264, h255⟩ := bind_t h255
    rcases Bool.eq_false_or_eq_true (decide (0 < sv97)) with h265 | h265
    ·have h266 := ite_t hc264 h265
     obtain ⟨x269, h267, h266⟩ := bind_t h266
     obtain ⟨q273, c274, h270, h271, h272, h268⟩ := hw.elemK 1 rfl h267
     obtain ⟨_, _, rfl, rfl, rfl⟩ := h268
     have hw := hw.addE h272
     refine h_b (C := Cls [.box b234 [.int .i64 x223.From, .int .i64 x223.To] 34] [CeA b229 q273 [.int .i64 x269.From, .int .i64 x269.To], CeA b229 q227 [.int .i64 x223.From, .int .i64 x223.To]]) (by kernel_rfl) rfl (hw.drew.cs [0] [0, 1] rfl rfl) fun hC => ?_
     have hw := hw.drew
     refine h_g hs 0 rfl (by kernel_rfl) rfl rfl hC rfl (fun w hC => y_loadBA (hC.ownAt 0 rfl) rfl Try.isAgg34 Try.sizeOf34 rfl rfl) fun a hs => ?_
     refine h_one (i := 1) (by kernel_rfl) rfl ?_
     refine st_callR hs (span_some_ok h235 hw.bdom) (do_call Try.call37 rfl) trivial rfl rfl ?_
     intro v278 Sv275 w a h276 h277 hs
     subst h277
     have hw := hw.callB h276
     refine h_nx (hw.cs [0] [0, 1] rfl rfl) fun hC => ?_
     refine h_g hs 2 rfl (by kernel_rfl) rfl rfl hC rfl (fun w hC => y_not rfl) fun a hs => ?_
     refine h_g hs 3 rfl (by kernel_rfl) rfl rfl hC rfl (fun w hC => y_move rfl) fun a hs => ?_
     have hs := hs.fix 15 (.bool false) rfl (vb h248)
     refine h_t hs 4 rfl (by kernel_rfl) ⟨_, rfl, rfl⟩ rfl rfl hC (fun w hC => y_move rfl) fun a hs => ?_
     refine h_t hs 5 rfl (by kernel_rfl) ⟨_, rfl, rfl⟩ rfl rfl hC (fun w hC => y_gtr rfl rfl) fun a hs => ?_
     refine h_t hs 6 rfl (by kernel_rfl) ⟨_, rfl, rfl⟩ rfl rfl hC (fun w hC => y_move rfl) fun a hs => ?_
     have hs := hs.fix 18 (.bool true) rfl (vb h265)
     refine h_t hs 7 rfl (by kernel_rfl) ⟨_, rfl, rfl⟩ rfl rfl hC (fun w hC => y_fieldAddr (o' := 0) Try.runUnderlying34 rfl Try.sizeOf3 rfl rfl rfl) fun a hs => ?_
     refine h_t hs 8 rfl (by kernel_rfl) ⟨_, rfl, rfl⟩ rfl rfl hC (fun w hC => y_loadB1 (hC.ownAt 0 rfl) rfl Try.isAgg3 rfl) fun a hs => ?_
     refine h_t hs 9 rfl (by kernel_rfl) ⟨_, rfl, rfl⟩ rfl rfl hC (fun w hC => y_move rfl) fun a hs => ?_
     refine h_t hs 10 rfl (by kernel_rfl) ⟨_, rfl, rfl⟩ rfl rfl hC (fun w hC => y_move rfl) fun a hs => ?_
     refine h_t hs 11 rfl (by kernel_rfl) ⟨_, rfl, rfl⟩ rfl rfl hC (fun w hC => y_sub rfl rfl) fun a hs => ?_
     refine h_t hs 12 rfl (by kernel_rfl) ⟨_, rfl, rfl⟩ rfl rfl hC (fun w hC => y_indexAt Try.runUnderlying25 Try.sizeOf34 rfl rfl h270.1 h270.2 h271) fun a hs => ?_
     refine h_t hs 13 rfl (by kernel_rfl) ⟨_, rfl, rfl⟩ rfl rfl hC (fun w hC => y_fieldAddr (o' := q273 + 1) Try.runUnderlying34 rfl Try.sizeOf3 rfl rfl rfl) fun a hs => ?_
     refine h_t hs 14 rfl (by kernel_rfl) ⟨_, rfl, rfl⟩ rfl rfl hC (fun w hC => y_loadE1 (j := 1) (hC.ceAt 0 rfl) rfl Try.isAgg3 rfl) fun a hs => ?_
     refine h_t hs 15 rfl (by kernel_rfl) ⟨_, rfl, rfl⟩ rfl rfl hC (fun w hC => y_leq rfl rfl) fun a hs => ?_
     refine h_t hs 16 rfl (by kernel_rfl) ⟨_, rfl, rfl⟩ rfl rfl hC (fun w hC => y_pickTE (v := .bool c264) rfl rfl (vbs h266)) fun a hs => ?_
     refine h_g hs 17 rfl (by kernel_rfl) rfl rfl hC rfl (fun w hC => y_pickFE (v := .bool c246) rfl rfl (vbs h255)) fun a hs => ?_
     refine h_done (by kernel_rfl) ?_
     exact ⟨Sv157, (hs.wk rfl), (hw.ft [] [2] (by decide) rfl rfl)⟩
    ·have h280 := ite_f hc264 h265
     refine h_b (C := Cls [.box b234 [.int .i64 x223.From, .int .i64 x223.To] 34] [CeA b229 q227 [.int .i64 x223.From, .int .i64 x223.To]]) (by kernel_rfl) rfl (hw.drew.cs [0] [0] rfl rfl) fun hC => ?_
     have hw := hw.drew
     refine h_g hs 0 rfl (by kernel_rfl) rfl rfl hC rfl (fun w hC => y_loadBA (hC.ownAt 0 rfl) rfl Try.isAgg34 Try.sizeOf34 rfl rfl) fun a hs => ?_
     refine h_one (i := 1) (by kernel_rfl) rfl ?_
     refine st_callR hs (span_some_ok h235 hw.bdom) (do_call Try.call37 rfl) trivial rfl rfl ?_
     intro v284 Sv281 w a h282 h283 hs
     subst h283
     have hw := hw.callB h282
     refine h_nx (hw.cs [0] [0] rfl rfl) fun hC => ?_
     refine h_g hs 2 rfl (by kernel_rfl) rfl rfl hC rfl (fun w hC => y_not rfl) fun a hs => ?_
     refine h_g hs 3 rfl (by kernel_rfl) rfl rfl hC rfl (fun w hC => y_move rfl) fun a hs => ?_
     have hs := hs.fix 15 (.bool false) rfl (vb h248)
     refine h_t hs 4 rfl (by kernel_rfl) ⟨_, rfl, rfl⟩ rfl rfl hC (fun w hC => y_move rfl) fun a hs => ?_
     refine h_t hs 5 rfl (by kernel_rfl) ⟨_, rfl, rfl⟩ rfl rfl hC (fun w hC => y_gtr rfl rfl) fun a hs => ?_
     refine h_t hs 6 rfl (by kernel_rfl) ⟨_, rfl, rfl⟩ rfl rfl hC (fun w hC => y_move rfl) fun a hs => ?_
     have hs := hs.fix 18 (.bool false) rfl (vb h265)
     refine h_s hs 7 rfl (by kernel_rfl) rfl rfl rfl (.inl rfl) rfl rfl hC fun a hs => ?_
     refine h_s hs 8 rfl (by kernel_rfl) rfl rfl rfl (.inl rfl) rfl rfl hC fun a hs => ?_
     refine h_s hs 9 rfl (by kernel_rfl) rfl rfl rfl (.inl rfl) rfl rfl hC fun a hs => ?_
     refine h_s hs 10 rfl (by kernel_rfl) rfl rfl rfl (.inl rfl) rfl rfl hC fun a hs => ?_
     refine h_s hs 11 rfl (by kernel_rfl) rfl rfl rfl (.inl rfl) rfl rfl hC fun a hs => ?_
     refine h_s hs 12 rfl (by kernel_rfl) rfl rfl rfl (.inl rfl) rfl rfl hC fun a hs => ?_
     refine h_s hs 13 rfl (by kernel_rfl) rfl rfl rfl (.inl rfl) rfl rfl hC fun a hs => ?_
     refine h_s hs 14 rfl (by kernel_rfl) rfl rfl rfl (.inl rfl) rfl rfl hC fun a hs => ?_
     refine h_s hs 15 rfl (by kernel_rfl) rfl rfl rfl (.inl rfl) rfl rfl hC fun a hs => ?_
     refine h_t hs 16 rfl (by kernel_rfl) ⟨_, rfl, rfl⟩ rfl rfl hC (fun w hC => y_pickFE (v := .bool c264) rfl rfl (vbs h280)) fun a hs => ?_
     refine h_g hs 17 rfl (by kernel_rfl) rfl rfl hC rfl (fun w hC => y_pickFE (v := .bool c246) rfl rfl (vbs h255)) fun a hs => ?_
     refine h_done (by kernel_rfl) ?_
     exact ⟨Sv157, (hs.wk rfl), (hw.ft [] [1] (by decide) rfl rfl)⟩
  ·rintro a w ⟨Sv247, hs, hw⟩
   refine then_normal ?_
   refine wp_cond_split (hs.ev rfl) (fun h287 => ?_) (fun h287 => ?_)
   ·have hsh := ite_t hsh h287
    refine wp_seq ?_
    refine wp_region_lit ?_
    refine st_val hs (y_assign rfl) trivial rfl rfl fun a hs => ?_
    refine wpList_nil ?_
    refine then_normal ?_
    have hsh := Option.some.inj hsh
    subst hsh
    have h288 := hd187 _ rfl
    subst h288
    refine wp_ret ?_
    refine blk_ret ?_
    refine then_ret ?_
    refine then_ret ?_
    refine blk_ret ?_
    refine then_ret ?_
    exact ret1 hs rfl (rv_tmp rfl) (hw.ret rfl)
   ·have hsh := ite_f hsh h287
    refine wp_skip ?_
    refine blk_normal ?_
    refine then_normal ?_
    refine wp_region_lit ?_
    refine st_val hs (y_add rfl rfl) trivial rfl rfl fun a hs => ?_
    refine st_val hs (y_move rfl) trivial rfl rfl fun a hs => ?_
    refine wpList_nil ?_
    refine then_normal ?_
    exact ⟨_, (Option.some.inj hsh).symm, Sv247, (hs.wk rfl), (hw.ft [] [0] (by decide) rfl rfl)⟩
 ·have hsh := ite_f hsh h192
  obtain ⟨rv289, hsh, h290⟩ := map_t hsh
  have h290 := (hd187 _ h290.symm).symm
  subst h290
  refine wp_exit ?_
  refine then_exit ?_
  refine then_exit ?_
  refine blk_exit ?_
  refine then_normal ?_
  refine wp_seq ?_
  refine wp_region_lit ?_
  refine st_val hs (y_assign rfl) trivial rfl rfl fun a hs => ?_
  refine wpList_nil ?_
  refine then_normal ?_
  have hsh := Option.some.inj hsh
  subst hsh
  refine wp_ret ?_
  exact ret1 hs rfl (rv_tmp rfl) (hw.ret rfl)

abbrev law08_sane_rd (w0 : World) (X : List Nat) (r : Bool) : (Nat → Prop) → World → Value → Prop := fun S w v => v = .bool r
set_option maxHeartbeats 4000000 in
set_option maxRecDepth 100000 in
theorem law08_sane_ok {w0 : World} {S0 : Nat → Prop} {r : Bool} (hsh : law08_sane = some r) (hS : ∀ b, S0 b → b < w0.heap.size) : Calls Try.prog 8 #[] w0 (Ret ([]) w0 S0 (law08_sane_rd w0 ([]) r)) := by
 refine calls_of_wp Try.func8 rfl ?_
 have hs := Sl.enter #[] 25 [] rfl trivial
 have hw := Wd.enter (E := []) hS (fun _ h => (by cases h))
 delta law08_sane at hsh
 refine wp_seq ?_
 refine wp_region_lit ?_
 refine st_val hs (y_assign rfl) trivial rfl rfl fun a hs => ?_
 refine wpList_nil ?_
 refine then_normal ?_
 refine wp_seq ?_
 refine wp_region_lit ?_
 refine st_val hs (y_build (vs := [(0, .int .i64 5), (1, .int .i64 7)]) Bld34 rfl rfl) trivial rfl rfl fun a hs => ?_
 refine st_val hs (y_build (vs := [(0, .int .i64 1), (1, .int .i64 3)]) Bld34 rfl rfl) trivial rfl rfl fun a hs => ?_
 refine st_val hs (y_build (vs := [(0, .int .i64 3), (1, .int .i64 4)]) Bld34 rfl rfl) trivial rfl rfl fun a hs => ?_
 refine st_val hs (y_build (vs := [(0, .int .i64 9), (1, .int .i64 9)]) Bld34 rfl rfl) trivial rfl rfl fun a hs => ?_
 refine w_litSlice (α := Span) (vs := [.agg #[.int .i64 5, .int .i64 7], .agg #[.int .i64 1, .int .i64 3], .agg #[.int .i64 3, .int .i64 4], .agg #[.int .i64 9, .int .i64 9]]) (cs := [.int .i64 5, .int .i64 7, .int .i64 1, .int .i64 3, .int .i64 3, .int .i64 4, .int .i64 9, .int .i64 9]) (xs := ([(⟨5, 7⟩ : Span), (⟨1, 3⟩ : Span), (⟨3, 4⟩ : Span), (⟨9, 9⟩ : Span)] : List Span)) hs hw El25 rfl rfl rfl rfl rfl rfl ⟨⟨_, _, rfl, rfl, rfl⟩, ⟨⟨_, _, rfl, rfl, rfl⟩, ⟨⟨_, _, rfl, rfl, rfl⟩, ⟨⟨_, _, rfl, rfl, rfl⟩, rfl⟩⟩⟩⟩ rfl trivial rfl fun b2 a w hs hw => ?_
 obtain ⟨rv4, h3, hsh⟩ := bind_t hsh
 obtain ⟨Sv9, hw⟩ := w_share (α := Span) hw 0 rfl 0 rfl
 refine st_callR hs (span_Normal_ok h3 hw.dom (hw.envAt 0 rfl)) (do_call Try.call16 rfl) trivial rfl rfl ?_
 intro v13 Sv10 w a h11 h12 hs
 obtain ⟨p5, k6, c8, rfl, h14, h7⟩ := h12
 have hw := hw.callN h11 h14
 have hw := hw.addE (e := RowA c8 rv4) h7
 refine st_val hs (y_assign rfl) trivial rfl rfl fun a hs => ?_
 refine wpList_nil ?_
 refine then_normal ?_
 refine wp_seq ?_
 refine wp_region_lit ?_
 refine st_val hs (y_move rfl) trivial rfl rfl fun a hs => ?_
 refine st_val hs (y_build (vs := [(0, .int .i64 1), (1, .int .i64 4)]) Bld34 rfl rfl) trivial rfl rfl fun a hs => ?_
 refine st_val hs (y_build (vs := [(0, .int .i64 5), (1, .int .i64 7)]) Bld34 rfl rfl) trivial rfl rfl fun a hs => ?_
 refine w_litSlice (α := Span) (vs := [.agg #[.int .i64 1, .int .i64 4], .agg #[.int .i64 5, .int .i64 7]]) (cs := [.int .i64 1, .int .i64 4, .int .i64 5, .int .i64 7]) (xs := ([(⟨1, 4⟩ : Span), (⟨5, 7⟩ : Span)] : List Span)) hs hw El25 rfl rfl rfl rfl rfl rfl ⟨⟨_, _, rfl, rfl, rfl⟩, ⟨⟨_, _, rfl, rfl, rfl⟩, rfl⟩⟩ rfl trivial rfl fun b16 a w hs hw => ?_
 obtain ⟨rv18, h17, hsh⟩ := bind_t hsh
 refine st_callR hs (ref08_Same_ok h17 hw.bdom (hw.bRow 1 rfl 1 rfl) (hw.bRow 0 rfl 0 rfl)) (do_call Try.call15 rfl) trivial rfl rfl ?_
 intro v22 Sv19 w a h20 h21 hs
 subst h21
 have hw := hw.callB h20
 refine st_val hs (y_move rfl) trivial rfl rfl fun a hs => ?_
 obtain ⟨c46, hc46, hsh⟩ := bind_t hsh
 refine wpl_join 7 (fun a w => ∃ (Sv47 : Nat → Prop), Sl 25 [(1, .slice p5 rv4.length k6), (20, .bool c46)] a ∧ Wd ⟨w0, S0, []⟩ Sv47 [] [SlA p5 rv4.length k6 rv4] w) ?_ ?_
 ·rcases Bool.eq_false_or_eq_true rv18 with h45 | h45
  ·have hs := hs.fix 13 (.bool true) rfl (vb h45)
   have hsh := ite_t hc46 h45
   refine st_val hs (y_move rfl) ⟨_, rfl, rfl⟩ rfl rfl fun a hs => ?_
   obtain ⟨rv49, h48, hsh⟩ := bind_t hsh
   obtain ⟨Sv54, hw⟩ := w_share (α := Span) hw 1 rfl 1 rfl
   refine st_callR hs (span_First_ok h48 hw.dom (hw.envAt 0 rfl)) (do_call Try.call12 rfl) ⟨_, rfl, rfl⟩ rfl rfl ?_
   intro v58 Sv55 w a h56 h57 hs
   obtain ⟨p50, k51, c53, rfl, h59, h52⟩ := h57
   have hw := hw.callN h56 h59
   have hw := hw.addE (e := RowA c53 rv49) h52
   refine st_val hs (y_build (vs := [(0, .int .i64 1), (1, .int .i64 4)]) Bld34 rfl rfl) ⟨_, rfl, rfl⟩ rfl rfl fun a hs => ?_
   refine st_val hs (y_build (vs := [(0, .int .i64 5), (1, .int .i64 6)]) Bld34 rfl rfl) ⟨_, rfl, rfl⟩ rfl rfl fun a hs => ?_
   refine w_litSlice (α := Span) (vs := [.agg #[.int .i64 1, .int .i64 4], .agg #[.int .i64 5, .int .i64 6]]) (cs := [.int .i64 1, .int .i64 4, .int .i64 5, .int .i64 6]) (xs := ([(⟨1, 4⟩ : Span), (⟨5, 6⟩ : Span)] : List Span)) hs hw El25 rfl rfl rfl rfl rfl rfl ⟨⟨_, _, rfl, rfl, rfl⟩, ⟨⟨_, _, rfl, rfl, rfl⟩, rfl⟩⟩ rfl ⟨_, rfl, rfl⟩ rfl fun b61 a w hs hw => ?_
   obtain ⟨rv63, h62, hsh⟩ := bind_t hsh
   refine st_callR hs (ref08_Same_ok h62 hw.bdom (hw.bRow 1 rfl 1 rfl) (hw.bRow 0 rfl 0 rfl)) (do_call Try.call15 rfl) ⟨_, rfl, rfl⟩ rfl rfl ?_
   intro v67 Sv64 w a h65 h66 hs
   subst h66
   have hw := hw.callB h65
   refine st_val hs (y_pickT rfl rfl) trivial rfl rfl fun a hs => ?_
   refine wpList_nil ?_
   have hsh := Option.some.inj hsh
   subst hsh
   refine then_normal ?_
   exact ⟨Sv55, (hs.wk rfl), (hw.ft [] [2] (by decide) rfl rfl)⟩
  ·have hs := hs.fix 13 (.bool false) rfl (vb h45)
   have hsh := ite_f hc46 h45
   refine st_skip hs rfl rfl rfl rfl rfl fun a hs => ?_
   refine st_skip hs rfl rfl rfl rfl rfl fun a hs => ?_
   refine st_skip hs rfl rfl rfl rfl rfl fun a hs => ?_
   refine st_skip hs rfl rfl rfl rfl rfl fun a hs => ?_
   refine st_skip hs rfl rfl rfl rfl rfl fun a hs => ?_
   refine st_skip hs rfl rfl rfl rfl rfl fun a hs => ?_
   refine st_val hs (y_pickF rfl rfl) trivial rfl rfl fun a hs => ?_
   refine wpList_nil ?_
   obtain ⟨Sv69, hw⟩ := w_share (α := Span) hw 1 rfl 1 rfl
   have hsh := Option.some.inj hsh
   subst hsh
   refine then_normal ?_
   exact ⟨Sv69, (hs.wk rfl), (hw.ft [] [0] (by decide) rfl rfl)⟩
 ·rintro a w ⟨Sv47, hs, hw⟩
  refine st_val hs (y_move rfl) trivial rfl rfl fun a hs => ?_
  obtain ⟨c78, hc78, hsh⟩ := bind_t hsh
  refine wpl_join 3 (fun a w => ∃ (Sv79 : Nat → Prop), Sl 25 [(24, .bool c78)] a ∧ Wd ⟨w0, S0, []⟩ Sv79 [] [] w) ?_ ?_
  ·rcases Bool.eq_false_or_eq_true c46 with h77 | h77
   ·have hs := hs.fix 21 (.bool true) rfl (vb h77)
    have hsh := ite_t hc78 h77
    refine st_val hs (y_move rfl) ⟨_, rfl, rfl⟩ rfl rfl fun a hs => ?_
    obtain ⟨rv81, h80, hsh⟩ := bind_t hsh
    refine st_callR hs (span_Valid_ok h80 hw.bdom (hw.bE 0 rfl)) (do_call Try.call21 rfl) ⟨_, rfl, rfl⟩ rfl rfl ?_
    intro v85 Sv82 w a h83 h84 hs
    subst h84
    have hw := hw.callB h83
    refine st_val hs (y_pickT rfl rfl) trivial rfl rfl fun a hs => ?_
    refine wpList_nil ?_
    have hsh := Option.some.inj hsh
    subst hsh
    refine then_normal ?_
    exact ⟨Sv47, (hs.wk rfl), (hw.ft [] [] (by decide) rfl rfl)⟩
   ·have hs := hs.fix 21 (.bool false) rfl (vb h77)
    have hsh := ite_f hc78 h77
    refine st_skip hs rfl rfl rfl rfl rfl fun a hs => ?_
    refine st_skip hs rfl rfl rfl rfl rfl fun a hs => ?_
    refine st_val hs (y_pickF rfl rfl) trivial rfl rfl fun a hs => ?_
    refine wpList_nil ?_
    have hsh := Option.some.inj hsh
    subst hsh
    refine then_normal ?_
    exact ⟨Sv47, (hs.wk rfl), (hw.ft [] [] (by decide) rfl rfl)⟩
  ·rintro a w ⟨Sv79, hs, hw⟩
   refine st_val hs (y_assign rfl) trivial rfl rfl fun a hs => ?_
   refine wpList_nil ?_
   refine then_normal ?_
   have hsh := Option.some.inj hsh
   subst hsh
   refine wp_ret ?_
   exact ret1 hs rfl (rv_tmp rfl) (hw.ret rfl)

abbrev made_Roll_rd (w0 : World) (X : List Nat) (r : Dice) : (Nat → Prop) → World → Value → Prop := fun S w v => ∃ (b_0 : Nat) (p0_0 : Option Addr) (k0_0 : Nat), v = .pointer (some ⟨b_0, 0, none⟩) ∧ Outs X w0 S w [.box b_0 [.slice p0_0 r.L.length k0_0, .int .i64 r.At] 50] ∧ (SlA p0_0 r.L.length k0_0 r.L).p S w
set_option maxHeartbeats 4000000 in
set_option maxRecDepth 100000 in
theorem made_Roll_ok {w0 : World} {S0 : Nat → Prop} {p2 : Option Addr} {k3 : Nat} {l1 : (List Int)} {r : Dice} (hsh : made_Roll l1 = some r) (hS : ∀ b, S0 b → b < w0.heap.size) (h4 : (SlA p2 l1.length k3 l1).p S0 w0) : Calls Try.prog 9 #[.slice p2 l1.length k3] w0 (Ret ([]) w0 S0 (made_Roll_rd w0 ([]) r)) := by
 refine calls_of_wp Try.func9 rfl ?_
 have hs := Sl.enter #[.slice p2 l1.length k3] 6 [(0, .slice p2 l1.length k3)] rfl ⟨rfl, trivial⟩
 have hw := Wd.enter (E := []) hS (fun _ h => (by cases h))
 have hw := hw.addE h4
 delta made_Roll at hsh
 refine wp_seq ?_
 refine wp_region_lit ?_
 refine st_val hs (y_assign rfl) trivial rfl rfl fun a hs => ?_
 refine wpList_nil ?_
 refine then_normal ?_
 refine wp_seq ?_
 refine wp_region_lit ?_
 refine st_val hs (y_move rfl) trivial rfl rfl fun a hs => ?_
 refine st_val hs (y_build (vs := [(0, .slice p2 l1.length k3)]) Bld50 rfl rfl) trivial rfl rfl fun a hs => ?_
 refine w_box (cs := [.slice p2 l1.length k3, .int .i64 0]) hs hw rfl rfl rfl trivial ?_
 intro b5 a w hs hw
 refine st_val hs (y_assign rfl) trivial rfl rfl fun a hs => ?_
 refine wpList_nil ?_
 refine then_normal ?_
 have hsh := Option.some.inj hsh
 subst hsh
 refine wp_ret ?_
 exact ret1 hs rfl (rv_tmp rfl) (hw.ret ⟨b5, p2, k3, rfl, (hw.outs [0] (by decide) rfl), (hw.envAt 0 rfl)⟩)

abbrev made_Dice_Next_rd (w0 : World) (X : List Nat) (b2 : Nat) (r : (Int × Dice)) : (Nat → Prop) → World → Value → Prop := fun S w v => ∃ (pq0_0 : Option Addr) (kq0_0 : Nat), v = .int .i64 r.1 ∧ Outs X w0 S w [.box b2 [.slice pq0_0 r.2.L.length kq0_0, .int .i64 r.2.At] 50] ∧ (SlA pq0_0 r.2.L.length kq0_0 r.2.L).p S w
set_option maxHeartbeats 4000000 in
set_option maxRecDepth 100000 in
theorem made_Dice_Next_ok {w0 : World} {S0 : Nat → Prop} {b2 : Nat} {p3 : Option Addr} {k4 : Nat} {d1 : Dice} {n6 : Int} {r : (Int × Dice)} (hsh : made_Dice_Next d1 n6 = some r) (hS : ∀ b, S0 b → b < w0.heap.size) (hin : Ins S0 w0 [.box b2 [.slice p3 d1.L.length k4, .int .i64 d1.At] 50]) (h5 : (SlA p3 d1.L.length k4 d1.L).p S0 w0) : Calls Try.prog 28 #[.pointer (some ⟨b2, 0, none⟩), .int .i64 n6] w0 (Ret (blks [.box b2 [.slice p3 d1.L.length k4, .int .i64 d1.At] 50]) w0 S0 (made_Dice_Next_rd w0 (blks [.box b2 [.slice p3 d1.L.length k4, .int .i64 d1.At] 50]) b2 r)) := by
 refine calls_of_wp Try.func28 rfl ?_
 have hs := Sl.enter #[.pointer (some ⟨b2, 0, none⟩), .int .i64 n6] 45 [(0, .pointer (some ⟨b2, 0, none⟩)), (1, .int .i64 n6)] rfl ⟨rfl, rfl, trivial⟩
 have hw := Wd.enterI hS hin
 have hw := hw.addE h5
 delta made_Dice_Next at hsh
 refine wp_seq ?_
 refine wp_region_lit ?_
 refine st_val hs (y_assign rfl) trivial rfl rfl fun a hs => ?_
 refine wpList_nil ?_
 refine then_normal ?_
 refine wp_seq ?_
 refine wp_seq ?_
 refine wp_only (fun a w => ∃ (Sv7 : Nat → Prop), Sl 45 [(0, .pointer (some ⟨b2, 0, none⟩)), (1, .int .i64 n6), (19, .bool ((decide ((d1.L.length : Int) ≤ d1.At)) || (decide (n6 < 1))))] a ∧ Wd ⟨w0, S0, blks [.box b2 [.slice p3 d1.L.length k4, .int .i64 d1.At] 50]⟩ Sv7 [.box b2 [.slice p3 d1.L.length k4, .int .i64 d1.At] 50] [SlA p3 d1.L.length k4 d1.L] w) ?_ ?_
 ·rcases Bool.eq_false_or_eq_true (decide ((d1.L.length : Int) ≤ d1.At)) with h8 | h8
  ·refine h_b (C := Cls [.box b2 [.slice p3 d1.L.length k4, .int .i64 d1.At] 50] []) (by kernel_rfl) rfl (hw.drew.cs [0] [] rfl rfl) fun hC => ?_
   have hw := hw.drew
   refine h_g hs 0 rfl (by kernel_rfl) rfl rfl hC rfl (fun w hC => y_move rfl) fun a hs => ?_
   refine h_g hs 1 rfl (by kernel_rfl) rfl rfl hC rfl (fun w hC => y_nilCheck rfl) fun a hs => ?_
   refine h_g hs 2 rfl (by kernel_rfl) rfl rfl hC rfl (fun w hC => y_fieldAddr (o' := 1) Try.runUnderlying50 rfl Try.sizeOf3 rfl rfl rfl) fun a hs => ?_
   refine h_g hs 3 rfl (by kernel_rfl) rfl rfl hC rfl (fun w hC => y_loadB1 (hC.ownAt 0 rfl) rfl Try.isAgg3 rfl) fun a hs => ?_
   refine h_g hs 4 rfl (by kernel_rfl) rfl rfl hC rfl (fun w hC => y_move rfl) fun a hs => ?_
   refine h_g hs 5 rfl (by kernel_rfl) rfl rfl hC rfl (fun w hC => y_nilCheck rfl) fun a hs => ?_
   refine h_g hs 6 rfl (by kernel_rfl) rfl rfl hC rfl (fun w hC => y_fieldAddr (o' := 0) Try.runUnderlying50 rfl Try.sizeOf22 rfl rfl rfl) fun a hs => ?_
   refine h_g hs 7 rfl (by kernel_rfl) rfl rfl hC rfl (fun w hC => y_loadB1 (hC.ownAt 0 rfl) rfl Try.isAgg22 rfl) fun a hs => ?_
   refine h_g hs 8 rfl (by kernel_rfl) rfl rfl hC rfl (fun w hC => y_len Try.runUnderlying22 rfl) fun a hs => ?_
   refine h_g hs 9 rfl (by kernel_rfl) rfl rfl hC rfl (fun w hC => y_geq rfl rfl) fun a hs => ?_
   refine h_g hs 10 rfl (by kernel_rfl) rfl rfl hC rfl (fun w hC => y_move rfl) fun a hs => ?_
   have hs := hs.fix 16 (.bool true) rfl (vb h8)
   refine h_s hs 11 rfl (by kernel_rfl) rfl rfl rfl (.inl rfl) rfl rfl hC fun a hs => ?_
   refine h_s hs 12 rfl (by kernel_rfl) rfl rfl rfl (.inl rfl) rfl rfl hC fun a hs => ?_
   refine h_g hs 13 rfl (by kernel_rfl) rfl rfl hC rfl (fun w hC => y_pickTE (v := .bool ((decide ((d1.L.length : Int) ≤ d1.At)) || (decide (n6 < 1)))) rfl rfl (or_t h8)) fun a hs => ?_
   refine h_done (by kernel_rfl) ?_
   exact ⟨S0, (hs.wk rfl), (hw.ft [0] [0] (by decide) rfl rfl)⟩
  ·refine h_b (C := Cls [.box b2 [.slice p3 d1.L.length k4, .int .i64 d1.At] 50] []) (by kernel_rfl) rfl (hw.drew.cs [0] [] rfl rfl) fun hC => ?_
   have hw := hw.drew
   refine h_g hs 0 rfl (by kernel_rfl) rfl rfl hC rfl (fun w hC => y_move rfl) fun a hs => ?_
   refine h_g hs 1 rfl (by kernel_rfl) rfl rfl hC rfl (fun w hC => y_nilCheck rfl) fun a hs => ?_
   refine h_g hs 2 rfl (by kernel_rfl) rfl rfl hC rfl (fun w hC => y_fieldAddr (o' := 1) Try.runUnderlying50 rfl Try.sizeOf3 rfl rfl rfl) fun a hs => ?_
   refine h_g hs 3 rfl (by kernel_rfl) rfl rfl hC rfl (fun w hC => y_loadB1 (hC.ownAt 0 rfl) rfl Try.isAgg3 rfl) fun a hs => ?_
   refine h_g hs 4 rfl (by kernel_rfl) rfl rfl hC rfl (fun w hC => y_move rfl) fun a hs => ?_
   refine h_g hs 5 rfl (by kernel_rfl) rfl rfl hC rfl (fun w hC => y_nilCheck rfl) fun a hs => ?_
   refine h_g hs 6 rfl (by kernel_rfl) rfl rfl hC rfl (fun w hC => y_fieldAddr (o' := 0) Try.runUnderlying50 rfl Try.sizeOf22 rfl rfl rfl) fun a hs => ?_
   refine h_g hs 7 rfl (by kernel_rfl) rfl rfl hC rfl (fun w hC => y_loadB1 (hC.ownAt 0 rfl) rfl Try.isAgg22 rfl) fun a hs => ?_
   refine h_g hs 8 rfl (by kernel_rfl) rfl rfl hC rfl (fun w hC => y_len Try.runUnderlying22 rfl) fun a hs => ?_
   refine h_g hs 9 rfl (by kernel_rfl) rfl rfl hC rfl (fun w hC => y_geq rfl rfl) fun a hs => ?_
   refine h_g hs 10 rfl (by kernel_rfl) rfl rfl hC rfl (fun w hC => y_move rfl) fun a hs => ?_
   have hs := hs.fix 16 (.bool false) rfl (vb h8)
   refine h_t hs 11 rfl (by kernel_rfl) ⟨_, rfl, rfl⟩ rfl rfl hC (fun w hC => y_move rfl) fun a hs => ?_
   refine h_t hs 12 rfl (by kernel_rfl) ⟨_, rfl, rfl⟩ rfl rfl hC (fun w hC => y_lss rfl rfl) fun a hs => ?_
   refine h_g hs 13 rfl (by kernel_rfl) rfl rfl hC rfl (fun w hC => y_pickFE (v := .bool ((decide ((d1.L.length : Int) ≤ d1.At)) || (decide (n6 < 1)))) rfl rfl (or_f h8)) fun a hs => ?_
   refine h_done (by kernel_rfl) ?_
   exact ⟨S0, (hs.wk rfl), (hw.ft [0] [0] (by decide) rfl rfl)⟩
 ·rintro a w ⟨Sv7, hs, hw⟩
  refine then_normal ?_
  refine wp_cond_split (hs.ev rfl) (fun h12 => ?_) (fun h12 => ?_)
  ·have hsh := ite_t hsh h12
   refine wp_seq ?_
   refine wp_region_lit ?_
   refine st_val hs (y_assign rfl) trivial rfl rfl fun a hs => ?_
   refine wpList_nil ?_
   refine then_normal ?_
   have hsh := Option.some.inj hsh
   subst hsh
   refine wp_ret ?_
   refine then_ret ?_
   exact ret1 hs rfl (rv_tmp rfl) (hw.ret ⟨p3, k4, rfl, (hw.outs [0] (by decide) rfl), (hw.envAt 0 rfl)⟩)
  ·have hsh := ite_f hsh h12
   refine wp_skip ?_
   refine then_normal ?_
   refine wp_seq ?_
   obtain ⟨x15, h13, hsh⟩ := bind_t hsh
   obtain ⟨b21, o22, q19, c20, h23, h16, h17, h18, h14⟩ := hw.elemV 0 rfl h13
   have hsv24 := hs
   have hwv25 := hw
   subst h23
   have hs := hsv24
   have hw := hwv25
   obtain ⟨_, rfl, rfl⟩ := h14
   have hw := hw.addE h18
   obtain ⟨rem27, h26, hsh⟩ := bind_t hsh
   refine wp_only (fun a w => ∃ (Sv28 : Nat → Prop), Sl 45 [(0, .pointer (some ⟨b2, 0, none⟩)), (1, .int .i64 n6), (5, .int .i64 rem27)] a ∧ Wd ⟨w0, S0, blks [.box b2 [.slice (some ⟨b21, o22, none⟩) d1.L.length k4, .int .i64 d1.At] 50]⟩ Sv28 [.box b2 [.slice (some ⟨b21, o22, none⟩) d1.L.length k4, .int .i64 d1.At] 50] [SlA (some ⟨b21, o22, none⟩) d1.L.length k4 d1.L] w) ?_ ?_
   ·refine h_b (C := Cls [.box b2 [.slice (some ⟨b21, o22, none⟩) d1.L.length k4, .int .i64 d1.At] 50] [CeA b21 q19 [.int .i64 x15]]) (by kernel_rfl) rfl (hw.drew.cs [0] [0] rfl rfl) fun hC => ?_
    have hw := hw.drew
    refine h_g hs 0 rfl (by kernel_rfl) rfl rfl hC rfl (fun w hC => y_move rfl) fun a hs => ?_
    refine h_g hs 1 rfl (by kernel_rfl) rfl rfl hC rfl (fun w hC => y_nilCheck rfl) fun a hs => ?_
    refine h_g hs 2 rfl (by kernel_rfl) rfl rfl hC rfl (fun w hC => y_fieldAddr (o' := 0) Try.runUnderlying50 rfl Try.sizeOf22 rfl rfl rfl) fun a hs => ?_
    refine h_g hs 3 rfl (by kernel_rfl) rfl rfl hC rfl (fun w hC => y_loadB1 (hC.ownAt 0 rfl) rfl Try.isAgg22 rfl) fun a hs => ?_
    refine h_g hs 4 rfl (by kernel_rfl) rfl rfl hC rfl (fun w hC => y_move rfl) fun a hs => ?_
    refine h_g hs 5 rfl (by kernel_rfl) rfl rfl hC rfl (fun w hC => y_nilCheck rfl) fun a hs => ?_
    refine h_g hs 6 rfl (by kernel_rfl) rfl rfl hC rfl (fun w hC => y_fieldAddr (o' := 1) Try.runUnderlying50 rfl Try.sizeOf3 rfl rfl rfl) fun a hs => ?_
    refine h_g hs 7 rfl (by kernel_rfl) rfl rfl hC rfl (fun w hC => y_loadB1 (hC.ownAt 0 rfl) rfl Try.isAgg3 rfl) fun a hs => ?_
    refine h_g hs 8 rfl (by kernel_rfl) rfl rfl hC rfl (fun w hC => y_indexAt Try.runUnderlying22 Try.sizeOf3 rfl rfl h16.1 h16.2 h17) fun a hs => ?_
    refine h_g hs 9 rfl (by kernel_rfl) rfl rfl hC rfl (fun w hC => y_loadE1 (j := 0) (hC.ceAt 0 rfl) rfl Try.isAgg3 rfl) fun a hs => ?_
    refine h_g hs 10 rfl (by kernel_rfl) rfl rfl hC rfl (fun w hC => y_move rfl) fun a hs => ?_
    refine h_g hs 11 rfl (by kernel_rfl) rfl rfl hC rfl (fun w hC => y_remM rfl rfl h26) fun a hs => ?_
    refine h_g hs 12 rfl (by kernel_rfl) rfl rfl hC rfl (fun w hC => y_assign rfl) fun a hs => ?_
    refine h_done (by kernel_rfl) ?_
    exact ⟨Sv7, (hs.wk rfl), (hw.ft [0] [1] (by decide) rfl rfl)⟩
   ·rintro a w ⟨Sv28, hs, hw⟩
    refine then_normal ?_
    refine wp_seq ?_
    refine wp_region_lit ?_
    refine st_val hs (y_move rfl) trivial rfl rfl fun a hs => ?_
    refine st_val hs (y_nilCheck rfl) trivial rfl rfl fun a hs => ?_
    refine st_val hs (y_fieldAddr (o' := 1) Try.runUnderlying50 rfl Try.sizeOf3 rfl rfl rfl) trivial rfl rfl fun a hs => ?_
    refine st_val hs (y_loadB1 (hw.ownAt 0 rfl) rfl Try.isAgg3 rfl) trivial rfl rfl fun a hs => ?_
    refine st_val hs (y_add rfl rfl) trivial rfl rfl fun a hs => ?_
    refine st_val hs (y_nilCheck rfl) trivial rfl rfl fun a hs => ?_
    refine st_val hs (y_fieldAddr (o' := 1) Try.runUnderlying50 rfl Try.sizeOf3 rfl rfl rfl) trivial rfl rfl fun a hs => ?_
    refine w_store (m := 1) (cs' := [.slice (some ⟨b21, o22, none⟩) d1.L.length k4, .int .i64 (w64 (d1.At + 1))]) hs hw 0 rfl rfl rfl Try.sizeOf3 rfl rfl rfl rfl trivial ?_
    intro a w hs hw
    refine wpList_nil ?_
    refine then_normal ?_
    refine wp_seq ?_
    refine wp_seq ?_
    refine wp_region_lit ?_
    refine st_val hs (y_move rfl) trivial rfl rfl fun a hs => ?_
    refine st_val hs (y_lss rfl rfl) trivial rfl rfl fun a hs => ?_
    refine wpList_nil ?_
    refine then_normal ?_
    refine wp_join (fun a w => ∃ (x33 : Int) (Sv32 : Nat → Prop), made_Dice_Next_j1 d1 x33 = some r ∧ Sl 45 [(5, .int .i64 x33)] a ∧ Wd ⟨w0, S0, blks [.box b2 [.slice (some ⟨b21, o22, none⟩) d1.L.length k4, .int .i64 d1.At] 50]⟩ Sv32 [.box b2 [.slice (some ⟨b21, o22, none⟩) d1.L.length k4, .int .i64 (w64 (d1.At + 1))] 50] [SlA (some ⟨b21, o22, none⟩) d1.L.length k4 d1.L] w) ?_ ?_
    ·refine wp_cond_split (hs.ev rfl) (fun h34 => ?_) (fun h34 => ?_)
     ·have hsh := ite_t hsh h34
      refine wp_region_lit ?_
      refine st_val hs (y_move rfl) trivial rfl rfl fun a hs => ?_
      refine st_val hs (y_move rfl) trivial rfl rfl fun a hs => ?_
      refine st_val hs (y_add rfl rfl) trivial rfl rfl fun a hs => ?_
      obtain ⟨x36, h35, hsh⟩ := bind_t hsh
      refine st_val hs (y_assignI rfl h35) trivial rfl rfl fun a hs => ?_
      refine wpList_nil ?_
      refine then_normal ?_
      exact ⟨x36, Sv28, hsh, (hs.wk rfl), (hw.ft [0] [0] (by decide) rfl rfl)⟩
     ·have hsh := ite_f hsh h34
      refine wp_skip ?_
      refine then_normal ?_
      exact ⟨rem27, Sv28, hsh, (hs.wk rfl), (hw.ft [0] [0] (by decide) rfl rfl)⟩
    ·rintro a w ⟨x33, Sv32, hsh, hs, hw⟩
     delta made_Dice_Next_j1 at hsh
     refine then_normal ?_
     refine wp_seq ?_
     refine wp_region_lit ?_
     refine st_val hs (y_move rfl) trivial rfl rfl fun a hs => ?_
     refine st_val hs (y_assign rfl) trivial rfl rfl fun a hs => ?_
     refine wpList_nil ?_
     refine then_normal ?_
     have hsh := Option.some.inj hsh
     subst hsh
     refine wp_ret ?_
     exact ret1 hs rfl (rv_tmp rfl) (hw.ret ⟨(some ⟨b21, o22, none⟩), k4, rfl, (hw.outs [0] (by decide) rfl), (hw.envAt 0 rfl)⟩)

abbrev made_Dice_Spans_rd (w0 : World) (X : List Nat) (b2 : Nat) (r : ((List Span) × Dice)) : (Nat → Prop) → World → Value → Prop := fun S w v => ∃ (p0_0 : Option Addr) (k0_0 : Nat) (c0_0 : List Value) (pq0_0 : Option Addr) (kq0_0 : Nat), v = .slice p0_0 r.1.length k0_0 ∧ Outs X w0 S w [.row p0_0 r.1.length k0_0 c0_0 34 2, .box b2 [.slice pq0_0 r.2.L.length kq0_0, .int .i64 r.2.At] 50] ∧ (RowA c0_0 r.1).p S w ∧ (SlA pq0_0 r.2.L.length kq0_0 r.2.L).p S w
set_option maxHeartbeats 4000000 in
set_option maxRecDepth 100000 in
theorem made_Dice_Spans_ok {w0 : World} {S0 : Nat → Prop} {b2 : Nat} {p3 : Option Addr} {k4 : Nat} {d1 : Dice} {r : ((List Span) × Dice)} (hsh : made_Dice_Spans d1 = some r) (hS : ∀ b, S0 b → b < w0.heap.size) (hin : Ins S0 w0 [.box b2 [.slice p3 d1.L.length k4, .int .i64 d1.At] 50]) (h5 : (SlA p3 d1.L.length k4 d1.L).p S0 w0) : Calls Try.prog 10 #[.pointer (some ⟨b2, 0, none⟩)] w0 (Ret (blks [.box b2 [.slice p3 d1.L.length k4, .int .i64 d1.At] 50]) w0 S0 (made_Dice_Spans_rd w0 (blks [.box b2 [.slice p3 d1.L.length k4, .int .i64 d1.At] 50]) b2 r)) := by
 refine calls_of_wp Try.func10 rfl ?_
 have hs := Sl.enter #[.pointer (some ⟨b2, 0, none⟩)] 25 [(0, .pointer (some ⟨b2, 0, none⟩))] rfl ⟨rfl, trivial⟩
 have hw := Wd.enterI hS hin
 have hw := hw.addE h5
 delta made_Dice_Spans at hsh
 refine wp_seq ?_
 refine wp_region_lit ?_
 refine st_val hs (y_assign rfl) trivial rfl rfl fun a hs => ?_
 refine wpList_nil ?_
 refine then_normal ?_
 refine wp_seq ?_
 refine wp_region_lit ?_
 refine st_val hs (y_assign rfl) trivial rfl rfl fun a hs => ?_
 refine wpList_nil ?_
 refine then_normal ?_
 refine wp_seq ?_
 refine wp_seq ?_
 refine wp_region_lit ?_
 refine st_val hs (y_move rfl) trivial rfl rfl fun a hs => ?_
 obtain ⟨rv7, h6, hsh⟩ := bind_t hsh
 refine st_callR hs (made_Dice_Next_ok h6 hw.dom (hw.ins [0] (by decide) rfl) (hw.envAt 0 rfl)) (do_call Try.call28 rfl) trivial rfl rfl ?_
 intro v14 Sv11 w a h12 h13 hs
 obtain ⟨p8, k9, rfl, h15, h10⟩ := h13
 have hw := hw.callO [0] [] (by decide) rfl h12 h15
 have hw := hw.addE (e := SlA p8 rv7.2.L.length k9 rv7.2.L) h10
 refine st_val hs (y_assign rfl) trivial rfl rfl fun a hs => ?_
 refine wpList_nil ?_
 refine then_normal ?_
 obtain ⟨e122, h188, hsh⟩ := bind_t hsh
 refine wp_join (fun a w => ∃ (p123 : Option Addr) (k124 : Nat) (c125 : List Value) (p126 : Option Addr) (k127 : Nat) (Sv128 : Nat → Prop), Sl 25 [(3, .slice p126 e122.2.2.length k127)] a ∧ Wd ⟨w0, S0, blks [.box b2 [.slice p3 d1.L.length k4, .int .i64 d1.At] 50]⟩ Sv128 [.box b2 [.slice p123 e122.1.length k124, .int .i64 e122.2.1] 50, .row p126 e122.2.2.length k127 c125 34 2] [SlA p123 e122.1.length k124 e122.1, RowA c125 e122.2.2] w) ?_ ?_
 ·refine wp_block ?_
  have hw := hw.nilRow Span 34
  refine wp_while (fun sv16 a w => ∃ (p83 : Option Addr) (k84 : Nat) (c85 : List Value) (p86 : Option Addr) (k87 : Nat) (Sv88 : Nat → Prop), Sl 25 [(0, .pointer (some ⟨b2, 0, none⟩)), (3, .slice p86 sv16.2.2.1.length k87), (4, .int .i64 sv16.2.2.2)] a ∧ Wd ⟨w0, S0, blks [.box b2 [.slice p3 d1.L.length k4, .int .i64 d1.At] 50]⟩ Sv88 [.box b2 [.slice p83 sv16.1.length k84, .int .i64 sv16.2.1] 50, .row p86 sv16.2.2.1.length k87 c85 34 2] [SlA p83 sv16.1.length k84 sv16.1, RowA c85 sv16.2.2.1] w) (rv7.2.L, rv7.2.At, ([] : List Span), rv7.1) h188 ⟨p8, k9, [], none, 0, Sv11, (hs.wk rfl), (hw.ft [1, 0] [1, 0] (by decide) rfl rfl)⟩ ?_
  clear h188
  repeat clear hsh
  rintro sv16 a w tv120 ⟨p83, k84, c85, p86, k87, Sv88, hs, hw⟩ hsh hd119
  delta made_Dice_Spans_l1 at hsh
  refine wp_seq ?_
  refine wp_seq ?_
  refine wp_region_lit ?_
  refine st_val hs (y_move rfl) trivial rfl rfl fun a hs => ?_
  refine st_val hs (y_gtr rfl rfl) trivial rfl rfl fun a hs => ?_
  refine wpList_nil ?_
  refine then_normal ?_
  refine wp_cond_split (hs.ev rfl) (fun h130 => ?_) (fun h130 => ?_)
  ·have hsh := ite_t hsh h130
   refine wp_skip ?_
   refine then_normal ?_
   refine wp_seq ?_
   refine wp_block ?_
   refine wp_seq ?_
   refine wp_region_lit ?_
   refine st_val hs (y_move rfl) trivial rfl rfl fun a hs => ?_
   obtain ⟨rv159, h158, hsh⟩ := bind_t hsh
   refine st_callR hs (made_Dice_Next_ok h158 hw.dom (hw.ins [0] (by decide) rfl) (hw.envAt 0 rfl)) (do_call Try.call28 rfl) trivial rfl rfl ?_
   intro v166 Sv163 w a h164 h165 hs
   obtain ⟨p160, k161, rfl, h167, h162⟩ := h165
   have hw := hw.callO [0] [1] (by decide) rfl h164 h167
   have hw := hw.addE (e := SlA p160 rv159.2.L.length k161 rv159.2.L) h162
   refine st_val hs (y_assign rfl) trivial rfl rfl fun a hs => ?_
   refine wpList_nil ?_
   refine then_normal ?_
   refine wp_region_lit ?_
   refine st_val hs (y_move rfl) trivial rfl rfl fun a hs => ?_
   refine st_val hs (y_move rfl) trivial rfl rfl fun a hs => ?_
   refine st_val hs (y_move rfl) trivial rfl rfl fun a hs => ?_
   refine st_val hs (y_move rfl) trivial rfl rfl fun a hs => ?_
   obtain ⟨rv169, h168, hsh⟩ := bind_t hsh
   refine st_callR hs (made_Dice_Next_ok h168 hw.dom (hw.ins [0] (by decide) rfl) (hw.envAt 0 rfl)) (do_call Try.call28 rfl) trivial rfl rfl ?_
   intro v176 Sv173 w a h174 h175 hs
   obtain ⟨p170, k171, rfl, h177, h172⟩ := h175
   have hw := hw.callO [0] [1] (by decide) rfl h174 h177
   have hw := hw.addE (e := SlA p170 rv169.2.L.length k171 rv169.2.L) h172
   refine st_val hs (y_add rfl rfl) trivial rfl rfl fun a hs => ?_
   refine st_val hs (y_sub rfl rfl) trivial rfl rfl fun a hs => ?_
   refine st_val hs (y_build (vs := [(0, .int .i64 rv159.1), (1, .int .i64 (w64 ((w64 (rv159.1 + rv169.1)) - 1)))]) Bld34 rfl rfl) trivial rfl rfl fun a hs => ?_
   refine w_litSlice (α := Span) (vs := [.agg #[.int .i64 rv159.1, .int .i64 (w64 ((w64 (rv159.1 + rv169.1)) - 1))]]) (cs := [.int .i64 rv159.1, .int .i64 (w64 ((w64 (rv159.1 + rv169.1)) - 1))]) (xs := ([(⟨rv159.1, (w64 ((w64 (rv159.1 + rv169.1)) - 1))⟩ : Span)] : List Span)) hs hw El25 rfl rfl rfl rfl rfl rfl ⟨⟨_, _, rfl, rfl, rfl⟩, rfl⟩ rfl trivial rfl fun b179 a w hs hw => ?_
   obtain ⟨l181, h180, hsh⟩ := bind_t hsh
   refine w_appendR (α := Span) hs hw El25 2 rfl rfl rfl 4 rfl 0 rfl 0 rfl h180 rfl trivial ?_
   intro p182 k183 c184 a w hs hw
   refine st_val hs (y_assign rfl) trivial rfl rfl fun a hs => ?_
   refine wpList_nil ?_
   refine blk_normal ?_
   refine then_normal ?_
   refine wp_region_lit ?_
   refine st_val hs (y_move rfl) trivial rfl rfl fun a hs => ?_
   refine st_val hs (y_sub rfl rfl) trivial rfl rfl fun a hs => ?_
   obtain ⟨i186, h185, hsh⟩ := bind_t hsh
   refine st_val hs (y_assignI rfl h185) trivial rfl rfl fun a hs => ?_
   refine wpList_nil ?_
   refine then_normal ?_
   exact ⟨_, (Option.some.inj hsh).symm, p170, k171, c184, p182, k183, Sv173, (hs.wk rfl), (hw.ft [1, 2] [2, 0] (by decide) rfl rfl)⟩
  ·have hsh := ite_f hsh h130
   refine wp_exit ?_
   refine then_exit ?_
   refine then_exit ?_
   refine blk_exit ?_
   have hsh := Option.some.inj hsh
   subst hsh
   have h187 := hd119 _ rfl
   subst h187
   refine then_normal ?_
   exact ⟨p83, k84, c85, p86, k87, Sv88, (hs.wk rfl), (hw.ft [0, 1] [0, 1] (by decide) rfl rfl)⟩
 ·rintro a w ⟨p123, k124, c125, p126, k127, Sv128, hs, hw⟩
  refine then_normal ?_
  refine wp_seq ?_
  refine wp_region_lit ?_
  refine st_val hs (y_move rfl) trivial rfl rfl fun a hs => ?_
  refine st_val hs (y_assign rfl) trivial rfl rfl fun a hs => ?_
  refine wpList_nil ?_
  refine then_normal ?_
  have hsh := Option.some.inj hsh
  subst hsh
  refine wp_ret ?_
  exact ret1 hs rfl (rv_tmp rfl) (hw.ret ⟨p126, k127, c125, p123, k124, rfl, (hw.outs [1, 0] (by decide) rfl), (hw.envAt 1 rfl), (hw.envAt 0 rfl)⟩)

abbrev slices_Grow_Lapi_Span_api_Span_n_rd (w0 : World) (X : List Nat) (r : (List Span)) : (Nat → Prop) → World → Value → Prop := fun S w v => ∃ (p0_0 : Option Addr) (k0_0 : Nat) (c0_0 : List Value), v = .slice p0_0 r.length k0_0 ∧ Outs X w0 S w [.row p0_0 r.length k0_0 c0_0 34 2] ∧ (RowA c0_0 r).p S w
set_option maxHeartbeats 4000000 in
set_option maxRecDepth 100000 in
theorem slices_Grow_Lapi_Span_api_Span_n_ok {w0 : World} {S0 : Nat → Prop} {n1 : Int} {r : (List Span)} (hsh : slices_Grow_Lapi_Span_api_Span_n n1 = some r) (hS : ∀ b, S0 b → b < w0.heap.size) : Calls Try.prog 50 #[.slice none 0 0, .int .i64 n1] w0 (Ret ([]) w0 S0 (slices_Grow_Lapi_Span_api_Span_n_rd w0 ([]) r)) := by
 refine calls_of_wp Try.func50 rfl ?_
 have hs := Sl.enter #[.slice none 0 0, .int .i64 n1] 27 [(0, .slice none 0 0), (1, .int .i64 n1)] rfl ⟨rfl, rfl, trivial⟩
 have hw := Wd.enter (E := []) hS (fun _ h => (by cases h))
 delta slices_Grow_Lapi_Span_api_Span_n at hsh
 refine wp_seq ?_
 refine wp_region_lit ?_
 refine st_val hs (y_assign rfl) trivial rfl rfl fun a hs => ?_
 refine wpList_nil ?_
 refine then_normal ?_
 refine wp_seq ?_
 refine wp_seq ?_
 refine wp_region_lit ?_
 refine st_val hs (y_move rfl) trivial rfl rfl fun a hs => ?_
 refine st_val hs (y_lss rfl rfl) trivial rfl rfl fun a hs => ?_
 refine wpList_nil ?_
 refine then_normal ?_
 refine wp_cond_split (hs.ev rfl) (fun h3 => ?_) (fun h3 => ?_)
 ·have hsh := ite_t hsh h3
  cases hsh
 ·have hsh := ite_f hsh h3
  refine wp_skip ?_
  refine then_normal ?_
  refine wp_seq ?_
  refine wp_seq ?_
  refine wp_region_lit ?_
  refine st_val hs (y_move rfl) trivial rfl rfl fun a hs => ?_
  refine st_val hs (y_move rfl) trivial rfl rfl fun a hs => ?_
  refine st_val hs (y_cap Try.runUnderlying25 rfl) trivial rfl rfl fun a hs => ?_
  refine st_val hs (y_move rfl) trivial rfl rfl fun a hs => ?_
  refine st_val hs (y_len Try.runUnderlying25 rfl) trivial rfl rfl fun a hs => ?_
  refine st_val hs (y_sub rfl rfl) trivial rfl rfl fun a hs => ?_
  refine st_val hs (y_sub rfl rfl) trivial rfl rfl fun a hs => ?_
  obtain ⟨n5, h4, hsh⟩ := bind_t hsh
  refine st_val hs (y_assignI rfl h4) trivial rfl rfl fun a hs => ?_
  refine wpList_nil ?_
  refine then_normal ?_
  refine wp_seq ?_
  refine wp_region_lit ?_
  refine st_val hs (y_move rfl) trivial rfl rfl fun a hs => ?_
  refine st_val hs (y_gtr rfl rfl) trivial rfl rfl fun a hs => ?_
  refine wpList_nil ?_
  refine then_normal ?_
  refine wp_join (fun a w => ∃ (sv23 : (List Span)) (c19 : List Value) (p20 : Option Addr) (k21 : Nat) (Sv22 : Nat → Prop), slices_Grow_Lapi_Span_api_Span_n_j1 sv23 = some r ∧ Sl 27 [(0, .slice p20 sv23.length k21)] a ∧ Wd ⟨w0, S0, []⟩ Sv22 [.row p20 sv23.length k21 c19 34 2] [RowA c19 sv23] w) ?_ ?_
  ·refine wp_cond_split (hs.ev rfl) (fun h24 => ?_) (fun h24 => ?_)
   ·have hsh := ite_t hsh h24
    refine wp_region_lit ?_
    refine st_val hs (y_move rfl) trivial rfl rfl fun a hs => ?_
    refine st_val hs (y_move rfl) trivial rfl rfl fun a hs => ?_
    refine st_val hs (y_cap Try.runUnderlying25 rfl) trivial rfl rfl fun a hs => ?_
    obtain ⟨l28, h25, hsh⟩ := bind_t hsh
    obtain ⟨h26, h27⟩ := sub_nil 2 h25
    subst h26
    refine st_val hs (y_slc Try.runUnderlying25 Try.sizeOf34 rfl (by exact rfl) ⟨_, rfl⟩ h27) trivial rfl rfl fun a hs => ?_
    refine st_val hs (y_move rfl) trivial rfl rfl fun a hs => ?_
    obtain ⟨l30, h29, hsh⟩ := bind_t hsh
    refine w_appendMk (α := Span) hs hw El25 ⟨_, _, rfl, rfl, rfl⟩ Try.underlying3 rfl rfl h29 rfl rfl trivial ?_
    intro p31 k32 c33 a w hs hw
    refine st_val hs (y_move rfl) trivial rfl rfl fun a hs => ?_
    refine st_val hs (y_len Try.runUnderlying25 rfl) trivial rfl rfl fun a hs => ?_
    obtain ⟨l36, h34, hsh⟩ := bind_t hsh
    obtain ⟨hw, h35⟩ := w_cut hw 0 rfl 0 rfl h34
    refine st_val hs (y_slc Try.runUnderlying25 Try.sizeOf34 rfl (by exact rfl) ⟨_, rfl⟩ h35) trivial rfl rfl fun a hs => ?_
    refine st_val hs (y_assign rfl) trivial rfl rfl fun a hs => ?_
    refine wpList_nil ?_
    refine then_normal ?_
    exact ⟨l36, (c33.take (l36.length * 2)), p31, k32, S0, hsh, (hs.wk rfl), (hw.ft [0] [0] (by decide) rfl rfl)⟩
   ·have hsh := ite_f hsh h24
    refine wp_skip ?_
    refine then_normal ?_
    have hw := hw.nilRow Span 34
    exact ⟨([] : List Span), [], none, 0, S0, hsh, (hs.wk rfl), (hw.ft [0] [0] (by decide) rfl rfl)⟩
  ·rintro a w ⟨sv23, c19, p20, k21, Sv22, hsh, hs, hw⟩
   delta slices_Grow_Lapi_Span_api_Span_n_j1 at hsh
   refine then_normal ?_
   refine wp_seq ?_
   refine wp_region_lit ?_
   refine st_val hs (y_move rfl) trivial rfl rfl fun a hs => ?_
   refine st_val hs (y_assign rfl) trivial rfl rfl fun a hs => ?_
   refine wpList_nil ?_
   refine then_normal ?_
   have hsh := Option.some.inj hsh
   subst hsh
   refine wp_ret ?_
   exact ret1 hs rfl (rv_tmp rfl) (hw.ret ⟨p20, k21, c19, rfl, (hw.outs [0] (by decide) rfl), (hw.envAt 0 rfl)⟩)

abbrev slices_Concat_Lapi_Span_api_Span_rd (w0 : World) (X : List Nat) (r : (List Span)) : (Nat → Prop) → World → Value → Prop := fun S w v => ∃ (p0_0 : Option Addr) (k0_0 : Nat) (c0_0 : List Value), v = .slice p0_0 r.length k0_0 ∧ Outs X w0 S w [.row p0_0 r.length k0_0 c0_0 34 2] ∧ (RowA c0_0 r).p S w
set_option maxHeartbeats 4000000 in
set_option maxRecDepth 100000 in
theorem slices_Concat_Lapi_Span_api_Span_ok {w0 : World} {S0 : Nat → Prop} {p2 : Option Addr} {k3 : Nat} {slices1 : (List (List Span))} {r : (List Span)} (hsh : slices_Concat_Lapi_Span_api_Span slices1 = some r) (hS : ∀ b, S0 b → b < w0.heap.size) (h4 : (SlA p2 slices1.length k3 slices1).p S0 w0) : Calls Try.prog 41 #[.slice p2 slices1.length k3] w0 (Ret ([]) w0 S0 (slices_Concat_Lapi_Span_api_Span_rd w0 ([]) r)) := by
 refine calls_of_wp Try.func41 rfl ?_
 have hs := Sl.enter #[.slice p2 slices1.length k3] 36 [(0, .slice p2 slices1.length k3)] rfl ⟨rfl, trivial⟩
 have hw := Wd.enter (E := []) hS (fun _ h => (by cases h))
 have hw := hw.addE h4
 delta slices_Concat_Lapi_Span_api_Span at hsh
 refine wp_seq ?_
 refine wp_region_lit ?_
 refine st_val hs (y_assign rfl) trivial rfl rfl fun a hs => ?_
 refine wpList_nil ?_
 refine then_normal ?_
 refine wp_seq ?_
 refine wp_region_lit ?_
 refine st_val hs (y_assign rfl) trivial rfl rfl fun a hs => ?_
 refine wpList_nil ?_
 refine then_normal ?_
 refine wp_seq ?_
 refine wp_seq ?_
 refine wp_region_lit ?_
 refine st_val hs (y_move rfl) trivial rfl rfl fun a hs => ?_
 refine st_val hs (y_len Try.runUnderlying65 rfl) trivial rfl rfl fun a hs => ?_
 refine st_val hs (y_move rfl) trivial rfl rfl fun a hs => ?_
 refine wpList_nil ?_
 refine then_normal ?_
 obtain ⟨e74, h265, hsh⟩ := bind_t hsh
 refine wp_join (fun a w => ∃ (Sv75 : Nat → Prop), Sl 36 [(0, .slice p2 slices1.length k3), (3, .int .i64 e74)] a ∧ Wd ⟨w0, S0, []⟩ Sv75 [] [SlA p2 slices1.length k3 slices1] w) ?_ ?_
 ·refine wp_block ?_
  refine wp_while (fun sv5 a w => ∃ (Sv49 : Nat → Prop), Sl 36 [(0, .slice p2 slices1.length k3), (3, .int .i64 sv5.1), (9, .slice p2 slices1.length k3), (10, .int .i64 (slices1.length : Int)), (11, .int .i64 sv5.2)] a ∧ Wd ⟨w0, S0, []⟩ Sv49 [] [SlA p2 slices1.length k3 slices1] w) (0, 0) h265 ⟨S0, (hs.wk rfl), (hw.ft [] [0] (by decide) rfl rfl)⟩ ?_
  clear h265
  repeat clear hsh
  rintro sv5 a w tv72 ⟨Sv49, hs, hw⟩ hsh hd71
  delta slices_Concat_Lapi_Span_api_Span_l1 at hsh
  refine wp_seq ?_
  refine wp_region_lit ?_
  refine st_val hs (y_lss rfl rfl) trivial rfl rfl fun a hs => ?_
  refine wpList_nil ?_
  refine then_normal ?_
  refine wp_seq ?_
  refine wp_cond_split (hs.ev rfl) (fun h77 => ?_) (fun h77 => ?_)
  ·have hsh := ite_t hsh h77
   refine wp_skip ?_
   refine then_normal ?_
   refine wp_seq ?_
   refine wp_block ?_
   refine wp_seq ?_
   refine wp_region_lit ?_
   obtain ⟨x100, h98, hsh⟩ := bind_t hsh
   obtain ⟨b106, o107, q104, c105, h108, h101, h102, h103, h99⟩ := hw.elemV 0 rfl h98
   have hsv109 := hs
   have hwv110 := hw
   subst h108
   have hs := hsv109
   have hw := hwv110
   obtain ⟨_, rfl, ⟨p111, n112, k113, rfl, h114⟩⟩ := h99
   obtain rfl := h114.1
   have hw := hw.addE (e := SlA p111 _ k113 x100) h114
   have hw := hw.addE h103
   refine st_val hs (y_indexAt Try.runUnderlying65 Try.sizeOf25 rfl rfl h101.1 h101.2 h102) trivial rfl rfl fun a hs => ?_
   refine st_val hs (y_loadE1 (j := 0) (hw.ceAt 0 rfl) rfl Try.isAgg25 rfl) trivial rfl rfl fun a hs => ?_
   refine st_val hs (y_assign rfl) trivial rfl rfl fun a hs => ?_
   refine wpList_nil ?_
   refine then_normal ?_
   refine wp_seq ?_
   refine wp_region_lit ?_
   refine st_val hs (y_move rfl) trivial rfl rfl fun a hs => ?_
   refine st_val hs (y_move rfl) trivial rfl rfl fun a hs => ?_
   refine st_val hs (y_len Try.runUnderlying25 rfl) trivial rfl rfl fun a hs => ?_
   refine st_val hs (y_add rfl rfl) trivial rfl rfl fun a hs => ?_
   obtain ⟨size116, h115, hsh⟩ := bind_t hsh
   refine st_val hs (y_assignI rfl h115) trivial rfl rfl fun a hs => ?_
   refine wpList_nil ?_
   refine then_normal ?_
   refine wp_seq ?_
   refine wp_region_lit ?_
   refine st_val hs (y_move rfl) trivial rfl rfl fun a hs => ?_
   refine st_val hs (y_lss rfl rfl) trivial rfl rfl fun a hs => ?_
   refine wpList_nil ?_
   refine then_normal ?_
   refine wp_cond_split (hs.ev rfl) (fun h118 => ?_) (fun h118 => ?_)
   ·have hsh := ite_t hsh h118
    cases hsh
   ·have hsh := ite_f hsh h118
    refine wp_skip ?_
    refine blk_normal ?_
    refine then_normal ?_
    refine wp_region_lit ?_
    refine st_val hs (y_add rfl rfl) trivial rfl rfl fun a hs => ?_
    refine st_val hs (y_move rfl) trivial rfl rfl fun a hs => ?_
    refine wpList_nil ?_
    refine then_normal ?_
    exact ⟨_, (Option.some.inj hsh).symm, Sv49, (hs.wk rfl), (hw.ft [] [2] (by decide) rfl rfl)⟩
  ·have hsh := ite_f hsh h77
   refine wp_exit ?_
   refine then_exit ?_
   refine then_exit ?_
   refine blk_exit ?_
   have hsh := Option.some.inj hsh
   subst hsh
   have h119 := hd71 _ rfl
   subst h119
   refine then_normal ?_
   exact ⟨Sv49, (hs.wk rfl), (hw.ft [] [0] (by decide) rfl rfl)⟩
 ·rintro a w ⟨Sv75, hs, hw⟩
  refine then_normal ?_
  refine wp_seq ?_
  refine wp_region_lit ?_
  refine st_val hs (y_move rfl) trivial rfl rfl fun a hs => ?_
  obtain ⟨rv121, h120, hsh⟩ := bind_t hsh
  refine st_callR hs (slices_Grow_Lapi_Span_api_Span_n_ok h120 hw.dom) (do_call Try.call50 rfl) trivial rfl rfl ?_
  intro v129 Sv126 w a h127 h128 hs
  obtain ⟨p122, k123, c125, rfl, h130, h124⟩ := h128
  have hw := hw.callN h127 h130
  have hw := hw.addE (e := RowA c125 rv121) h124
  refine st_val hs (y_assign rfl) trivial rfl rfl fun a hs => ?_
  refine wpList_nil ?_
  refine then_normal ?_
  refine wp_seq ?_
  refine wp_seq ?_
  refine wp_region_lit ?_
  refine st_val hs (y_move rfl) trivial rfl rfl fun a hs => ?_
  refine st_val hs (y_len Try.runUnderlying65 rfl) trivial rfl rfl fun a hs => ?_
  refine st_val hs (y_move rfl) trivial rfl rfl fun a hs => ?_
  refine wpList_nil ?_
  refine then_normal ?_
  obtain ⟨e212, h264, hsh⟩ := bind_t hsh
  refine wp_join (fun a w => ∃ (c213 : List Value) (p214 : Option Addr) (k215 : Nat) (Sv216 : Nat → Prop), Sl 36 [(6, .slice p214 e212.length k215)] a ∧ Wd ⟨w0, S0, []⟩ Sv216 [.row p214 e212.length k215 c213 34 2] [RowA c213 e212] w) ?_ ?_
  ·refine wp_block ?_
   refine wp_while (fun sv131 a w => ∃ (c182 : List Value) (p183 : Option Addr) (k184 : Nat) (Sv185 : Nat → Prop), Sl 36 [(6, .slice p183 sv131.1.length k184), (25, .slice p2 slices1.length k3), (26, .int .i64 (slices1.length : Int)), (27, .int .i64 sv131.2)] a ∧ Wd ⟨w0, S0, []⟩ Sv185 [.row p183 sv131.1.length k184 c182 34 2] [SlA p2 slices1.length k3 slices1, RowA c182 sv131.1] w) (rv121, 0) h264 ⟨c125, p122, k123, Sv126, (hs.wk rfl), (hw.ft [0] [1, 0] (by decide) rfl rfl)⟩ ?_
   clear h264
   repeat clear hsh
   rintro sv131 a w tv210 ⟨c182, p183, k184, Sv185, hs, hw⟩ hsh hd209
   delta slices_Concat_Lapi_Span_api_Span_l2 at hsh
   refine wp_seq ?_
   refine wp_region_lit ?_
   refine st_val hs (y_lss rfl rfl) trivial rfl rfl fun a hs => ?_
   refine wpList_nil ?_
   refine then_normal ?_
   refine wp_seq ?_
   refine wp_cond_split (hs.ev rfl) (fun h218 => ?_) (fun h218 => ?_)
   ·have hsh := ite_t hsh h218
    refine wp_skip ?_
    refine then_normal ?_
    refine wp_seq ?_
    refine wp_block ?_
    refine wp_seq ?_
    refine wp_region_lit ?_
    obtain ⟨x243, h241, hsh⟩ := bind_t hsh
    obtain ⟨b249, o250, q247, c248, h251, h244, h245, h246, h242⟩ := hw.elemV 0 rfl h241
    have hsv252 := hs
    have hwv253 := hw
    subst h251
    have hs := hsv252
    have hw := hwv253
    obtain ⟨_, rfl, ⟨p254, n255, k256, rfl, h257⟩⟩ := h242
    obtain rfl := h257.1
    have hw := hw.addE (e := SlA p254 _ k256 x243) h257
    have hw := hw.addE h246
    refine st_val hs (y_indexAt Try.runUnderlying65 Try.sizeOf25 rfl rfl h244.1 h244.2 h245) trivial rfl rfl fun a hs => ?_
    refine st_val hs (y_loadE1 (j := 0) (hw.ceAt 0 rfl) rfl Try.isAgg25 rfl) trivial rfl rfl fun a hs => ?_
    refine st_val hs (y_assign rfl) trivial rfl rfl fun a hs => ?_
    refine wpList_nil ?_
    refine then_normal ?_
    refine wp_region_lit ?_
    refine st_val hs (y_move rfl) trivial rfl rfl fun a hs => ?_
    refine st_val hs (y_move rfl) trivial rfl rfl fun a hs => ?_
    obtain ⟨l259, h258, hsh⟩ := bind_t hsh
    refine w_appendE (α := Span) hs hw El25 0 rfl rfl rfl 3 rfl 1 rfl h258 rfl trivial ?_
    intro p260 k261 c262 a w hs hw
    refine st_val hs (y_assign rfl) trivial rfl rfl fun a hs => ?_
    refine wpList_nil ?_
    refine blk_normal ?_
    refine then_normal ?_
    refine wp_region_lit ?_
    refine st_val hs (y_add rfl rfl) trivial rfl rfl fun a hs => ?_
    refine st_val hs (y_move rfl) trivial rfl rfl fun a hs => ?_
    refine wpList_nil ?_
    refine then_normal ?_
    exact ⟨_, (Option.some.inj hsh).symm, c262, p260, k261, Sv185, (hs.wk rfl), (hw.ft [0] [3, 0] (by decide) rfl rfl)⟩
   ·have hsh := ite_f hsh h218
    refine wp_exit ?_
    refine then_exit ?_
    refine then_exit ?_
    refine blk_exit ?_
    have hsh := Option.some.inj hsh
    subst hsh
    have h263 := hd209 _ rfl
    subst h263
    refine then_normal ?_
    exact ⟨c182, p183, k184, Sv185, (hs.wk rfl), (hw.ft [0] [1] (by decide) rfl rfl)⟩
  ·rintro a w ⟨c213, p214, k215, Sv216, hs, hw⟩
   refine then_normal ?_
   refine wp_seq ?_
   refine wp_region_lit ?_
   refine st_val hs (y_move rfl) trivial rfl rfl fun a hs => ?_
   refine st_val hs (y_assign rfl) trivial rfl rfl fun a hs => ?_
   refine wpList_nil ?_
   refine then_normal ?_
   have hsh := Option.some.inj hsh
   subst hsh
   refine wp_ret ?_
   exact ret1 hs rfl (rv_tmp rfl) (hw.ret ⟨p214, k215, c213, rfl, (hw.outs [0] (by decide) rfl), (hw.envAt 0 rfl)⟩)

abbrev span_Union_rd (w0 : World) (X : List Nat) (r : (List Span)) : (Nat → Prop) → World → Value → Prop := fun S w v => ∃ (p0_0 : Option Addr) (k0_0 : Nat) (c0_0 : List Value), v = .slice p0_0 r.length k0_0 ∧ Outs X w0 S w [.row p0_0 r.length k0_0 c0_0 34 2] ∧ (RowA c0_0 r).p S w
set_option maxHeartbeats 4000000 in
set_option maxRecDepth 100000 in
theorem span_Union_ok {w0 : World} {S0 : Nat → Prop} {p2 : Option Addr} {k3 : Nat} {p6 : Option Addr} {k7 : Nat} {a1 : (List Span)} {b5 : (List Span)} {r : (List Span)} (hsh : span_Union a1 b5 = some r) (hS : ∀ b, S0 b → b < w0.heap.size) (h4 : (SlA p2 a1.length k3 a1).p S0 w0) (h8 : (SlA p6 b5.length k7 b5).p S0 w0) : Calls Try.prog 18 #[.slice p2 a1.length k3, .slice p6 b5.length k7] w0 (Ret ([]) w0 S0 (span_Union_rd w0 ([]) r)) := by
 refine calls_of_wp Try.func18 rfl ?_
 have hs := Sl.enter #[.slice p2 a1.length k3, .slice p6 b5.length k7] 10 [(0, .slice p2 a1.length k3), (1, .slice p6 b5.length k7)] rfl ⟨rfl, rfl, trivial⟩
 have hw := Wd.enter (E := []) hS (fun _ h => (by cases h))
 have hw := hw.addE h4
 have hw := hw.addE h8
 delta span_Union at hsh
 refine wp_seq ?_
 refine wp_region_lit ?_
 refine st_val hs (y_assign rfl) trivial rfl rfl fun a hs => ?_
 refine wpList_nil ?_
 refine then_normal ?_
 refine wp_seq ?_
 refine wp_region_lit ?_
 refine st_val hs (y_move rfl) trivial rfl rfl fun a hs => ?_
 refine st_val hs (y_move rfl) trivial rfl rfl fun a hs => ?_
 refine w_litSlice (α := (List Span)) (vs := [.slice p2 a1.length k3, .slice p6 b5.length k7]) (cs := [.slice p2 a1.length k3, .slice p6 b5.length k7]) (xs := ([a1, b5] : List (List Span))) hs hw El65 rfl rfl rfl rfl rfl rfl ⟨⟨_, rfl, ⟨_, _, _, rfl, hw.envAt 1 rfl⟩⟩, ⟨⟨_, rfl, ⟨_, _, _, rfl, hw.envAt 0 rfl⟩⟩, rfl⟩⟩ rfl trivial rfl fun b10 a w hs hw => ?_
 obtain ⟨rv12, h11, hsh⟩ := bind_t hsh
 obtain ⟨Sv17, hw⟩ := w_share (α := (List Span)) hw 0 rfl 0 rfl
 refine st_callR hs (slices_Concat_Lapi_Span_api_Span_ok h11 hw.dom (hw.envAt 0 rfl)) (do_call Try.call41 rfl) trivial rfl rfl ?_
 intro v21 Sv18 w a h19 h20 hs
 obtain ⟨p13, k14, c16, rfl, h22, h15⟩ := h20
 have hw := hw.callN h19 h22
 have hw := hw.addE (e := RowA c16 rv12) h15
 obtain ⟨rv24, h23, hsh⟩ := bind_t hsh
 obtain ⟨Sv29, hw⟩ := w_share (α := Span) hw 0 rfl 0 rfl
 refine st_callR hs (span_Normal_ok h23 hw.dom (hw.envAt 0 rfl)) (do_call Try.call16 rfl) trivial rfl rfl ?_
 intro v33 Sv30 w a h31 h32 hs
 obtain ⟨p25, k26, c28, rfl, h34, h27⟩ := h32
 have hw := hw.callN h31 h34
 have hw := hw.addE (e := RowA c28 rv24) h27
 refine st_val hs (y_assign rfl) trivial rfl rfl fun a hs => ?_
 refine wpList_nil ?_
 refine then_normal ?_
 have hsh := Option.some.inj hsh
 subst hsh
 refine wp_ret ?_
 exact ret1 hs rfl (rv_tmp rfl) (hw.ret ⟨p25, k26, c28, rfl, (hw.outs [0] (by decide) rfl), (hw.envAt 0 rfl)⟩)

abbrev ref08_Normal_rd (w0 : World) (X : List Nat) (r : (List Span)) : (Nat → Prop) → World → Value → Prop := fun S w v => ∃ (p0_0 : Option Addr) (k0_0 : Nat) (c0_0 : List Value), v = .slice p0_0 r.length k0_0 ∧ Outs X w0 S w [.row p0_0 r.length k0_0 c0_0 34 2] ∧ (RowA c0_0 r).p S w
set_option maxHeartbeats 4000000 in
set_option maxRecDepth 100000 in
theorem ref08_Normal_ok {w0 : World} {S0 : Nat → Prop} {p2 : Option Addr} {k3 : Nat} {l1 : (List Span)} {r : (List Span)} (hsh : ref08_Normal l1 = some r) (hS : ∀ b, S0 b → b < w0.heap.size) (h4 : (SlA p2 l1.length k3 l1).p S0 w0) : Calls Try.prog 26 #[.slice p2 l1.length k3] w0 (Ret ([]) w0 S0 (ref08_Normal_rd w0 ([]) r)) := by
 refine calls_of_wp Try.func26 rfl ?_
 have hs := Sl.enter #[.slice p2 l1.length k3] 117 [(0, .slice p2 l1.length k3)] rfl ⟨rfl, trivial⟩
 have hw := Wd.enter (E := []) hS (fun _ h => (by cases h))
 have hw := hw.addE h4
 delta ref08_Normal at hsh
 refine wp_seq ?_
 refine wp_region_lit ?_
 refine st_val hs (y_assign rfl) trivial rfl rfl fun a hs => ?_
 refine wpList_nil ?_
 refine then_normal ?_
 refine wp_seq ?_
 refine wp_region_lit ?_
 refine st_val hs (y_assign rfl) trivial rfl rfl fun a hs => ?_
 refine wpList_nil ?_
 refine then_normal ?_
 refine wp_seq ?_
 refine wp_seq ?_
 refine wp_region_lit ?_
 refine st_val hs (y_assign rfl) trivial rfl rfl fun a hs => ?_
 refine wpList_nil ?_
 refine then_normal ?_
 obtain ⟨e539, h1541, hsh⟩ := bind_t hsh
 refine wp_join (fun a w => ∃ (c540 : List Value) (p541 : Option Addr) (k542 : Nat) (Sv543 : Nat → Prop), Sl 117 [(3, .slice p541 e539.length k542)] a ∧ Wd ⟨w0, S0, []⟩ Sv543 [.row p541 e539.length k542 c540 34 2] [RowA c540 e539] w) ?_ ?_
 ·refine wp_block ?_
  have hw := hw.nilRow Span 34
  refine wp_while (fun sv5 a w => ∃ (c358 : List Value) (p359 : Option Addr) (k360 : Nat) (Sv361 : Nat → Prop), Sl 117 [(0, .slice p2 l1.length k3), (3, .slice p359 sv5.1.length k360), (4, .int .i64 sv5.2)] a ∧ Wd ⟨w0, S0, []⟩ Sv361 [.row p359 sv5.1.length k360 c358 34 2] [SlA p2 l1.length k3 l1, RowA c358 sv5.1] w) (([] : List Span), 0) h1541 ⟨[], none, 0, S0, (hs.wk rfl), (hw.ft [0] [1, 0] (by decide) rfl rfl)⟩ ?_
  clear h1541
  repeat clear hsh
  rintro sv5 a w tv537 ⟨c358, p359, k360, Sv361, hs, hw⟩ hsh hd536
  delta ref08_Normal_l3 at hsh
  refine wp_seq ?_
  refine wp_seq ?_
  refine wp_region_lit ?_
  refine st_val hs (y_move rfl) trivial rfl rfl fun a hs => ?_
  refine st_val hs (y_move rfl) trivial rfl rfl fun a hs => ?_
  refine st_val hs (y_len Try.runUnderlying25 rfl) trivial rfl rfl fun a hs => ?_
  refine st_val hs (y_lss rfl rfl) trivial rfl rfl fun a hs => ?_
  refine wpList_nil ?_
  refine then_normal ?_
  refine wp_cond_split (hs.ev rfl) (fun h545 => ?_) (fun h545 => ?_)
  ·have hsh := ite_t hsh h545
   refine wp_skip ?_
   refine then_normal ?_
   refine wp_seq ?_
   refine wp_join (fun a w => ∃ (sorted716 : (List Span)) (c712 : List Value) (p713 : Option Addr) (k714 : Nat) (Sv715 : Nat → Prop), ref08_Normal_j1 sv5 sorted716 = some tv537 ∧ Sl 117 [(0, .slice p2 l1.length k3), (3, .slice p713 sorted716.length k714), (4, .int .i64 sv5.2)] a ∧ Wd ⟨w0, S0, []⟩ Sv715 [.row p713 sorted716.length k714 c712 34 2] [SlA p2 l1.length k3 l1, RowA c712 sorted716] w) ?_ ?_
   ·refine wp_block ?_
    refine wp_seq ?_
    refine wp_seq ?_
    obtain ⟨x721, h719, hsh⟩ := bind_t hsh
    obtain ⟨b727, o728, q725, c726, h729, h722, h723, h724, h720⟩ := hw.elemV 0 rfl h719
    have hsv730 := hs
    have hwv731 := hw
    subst h729
    have hs := hsv730
    have hw := hwv731
    obtain ⟨_, _, rfl, rfl, rfl⟩ := h720
    have hw := hw.addE h724
    obtain ⟨x734, h732, hsh⟩ := bind_t hsh
    obtain ⟨q738, c739, h735, h736, h737, h733⟩ := hw.elemK 1 rfl h732
    obtain ⟨_, _, rfl, rfl, rfl⟩ := h733
    have hw := hw.addE h737
    refine wp_only (fun a w => ∃ (Sv740 : Nat → Prop), Sl 117 [(0, .slice (some ⟨b727, o728, none⟩) l1.length k3), (3, .slice p359 sv5.1.length k360), (4, .int .i64 sv5.2), (25, .bool (decide (x734.To ≤ x721.From)))] a ∧ Wd ⟨w0, S0, []⟩ Sv740 [.row p359 sv5.1.length k360 c358 34 2] [SlA (some ⟨b727, o728, none⟩) l1.length k3 l1, RowA c358 sv5.1] w) ?_ ?_
    ·refine h_b (C := Cls [.row p359 sv5.1.length k360 c358 34 2] [CeA b727 q738 [.int .i64 x734.From, .int .i64 x734.To], CeA b727 q725 [.int .i64 x721.From, .int .i64 x721.To]]) (by kernel_rfl) rfl (hw.drew.cs [0] [0, 1] rfl rfl) fun hC => ?_
     have hw := hw.drew
     refine h_g hs 0 rfl (by kernel_rfl) rfl rfl hC rfl (fun w hC => y_move rfl) fun a hs => ?_
     refine h_g hs 1 rfl (by kernel_rfl) rfl rfl hC rfl (fun w hC => y_move rfl) fun a hs => ?_
     refine h_g hs 2 rfl (by kernel_rfl) rfl rfl hC rfl (fun w hC => y_indexAt Try.runUnderlying25 Try.sizeOf34 rfl rfl h722.1 h722.2 h723) fun a hs => ?_
     refine h_g hs 3 rfl (by kernel_rfl) rfl rfl hC rfl (fun w hC => y_fieldAddr (o' := q725 + 0) Try.runUnderlying34 rfl Try.sizeOf3 rfl rfl rfl) fun a hs => ?_
     refine h_g hs 4 rfl (by kernel_rfl) rfl rfl hC rfl (fun w hC => y_loadE1 (j := 0) (hC.ceAt 1 rfl) rfl Try.isAgg3 rfl) fun a hs => ?_
     refine h_g hs 5 rfl (by kernel_rfl) rfl rfl hC rfl (fun w hC => y_move rfl) fun a hs => ?_
     refine h_g hs 6 rfl (by kernel_rfl) rfl rfl hC rfl (fun w hC => y_move rfl) fun a hs => ?_
     refine h_g hs 7 rfl (by kernel_rfl) rfl rfl hC rfl (fun w hC => y_indexAt Try.runUnderlying25 Try.sizeOf34 rfl rfl h735.1 h735.2 h736) fun a hs => ?_
     refine h_g hs 8 rfl (by kernel_rfl) rfl rfl hC rfl (fun w hC => y_fieldAddr (o' := q738 + 1) Try.runUnderlying34 rfl Try.sizeOf3 rfl rfl rfl) fun a hs => ?_
     refine h_g hs 9 rfl (by kernel_rfl) rfl rfl hC rfl (fun w hC => y_loadE1 (j := 1) (hC.ceAt 0 rfl) rfl Try.isAgg3 rfl) fun a hs => ?_
     refine h_g hs 10 rfl (by kernel_rfl) rfl rfl hC rfl (fun w hC => y_geq rfl rfl) fun a hs => ?_
     refine h_done (by kernel_rfl) ?_
     exact ⟨Sv361, (hs.wk rfl), (hw.ft [0] [2, 3] (by decide) rfl rfl)⟩
    ·rintro a w ⟨Sv740, hs, hw⟩
     refine then_normal ?_
     refine wp_cond_split (hs.ev rfl) (fun h742 => ?_) (fun h742 => ?_)
     ·have hsh := ite_t hsh h742
      refine wp_exit ?_
      refine then_exit ?_
      refine blk_exit ?_
      refine then_normal ?_
      exact ⟨sv5.1, c358, p359, k360, Sv740, hsh, (hs.wk rfl), (hw.ft [0] [0, 1] (by decide) rfl rfl)⟩
     ·have hsh := ite_f hsh h742
      refine wp_skip ?_
      refine then_normal ?_
      refine wp_seq ?_
      refine wp_region_lit ?_
      refine st_val hs (y_move rfl) trivial rfl rfl fun a hs => ?_
      refine st_val hs (y_len Try.runUnderlying25 rfl) trivial rfl rfl fun a hs => ?_
      obtain ⟨k744, h743, hsh⟩ := bind_t hsh
      refine st_val hs (y_assignI rfl h743) trivial rfl rfl fun a hs => ?_
      refine wpList_nil ?_
      refine then_normal ?_
      refine wp_seq ?_
      obtain ⟨e829, h943, hsh⟩ := bind_t hsh
      refine wp_join (fun a w => ∃ (Sv830 : Nat → Prop), Sl 117 [(0, .slice (some ⟨b727, o728, none⟩) l1.length k3), (3, .slice p359 sv5.1.length k360), (4, .int .i64 sv5.2), (5, .int .i64 e829)] a ∧ Wd ⟨w0, S0, []⟩ Sv830 [.row p359 sv5.1.length k360 c358 34 2] [SlA (some ⟨b727, o728, none⟩) l1.length k3 l1, RowA c358 sv5.1] w) ?_ ?_
      ·refine wp_block ?_
       refine wp_while (fun sv745 a w => ∃ (Sv799 : Nat → Prop), Sl 117 [(0, .slice (some ⟨b727, o728, none⟩) l1.length k3), (3, .slice p359 sv5.1.length k360), (4, .int .i64 sv5.2), (5, .int .i64 sv745)] a ∧ Wd ⟨w0, S0, []⟩ Sv799 [.row p359 sv5.1.length k360 c358 34 2] [SlA (some ⟨b727, o728, none⟩) l1.length k3 l1, RowA c358 sv5.1] w) k744 h943 ⟨Sv740, (hs.wk rfl), (hw.ft [0] [0, 1] (by decide) rfl rfl)⟩ ?_
       clear h943
       repeat clear hsh
       rintro sv745 a w tv827 ⟨Sv799, hs, hw⟩ hsh hd826
       delta ref08_Normal_l6 at hsh
       refine wp_seq ?_
       refine wp_seq ?_
       obtain ⟨c852, hc852, hsh⟩ := bind_t hsh
       refine wp_only (fun a w => ∃ (Sv853 : Nat → Prop), Sl 117 [(0, .slice (some ⟨b727, o728, none⟩) l1.length k3), (3, .slice p359 sv5.1.length k360), (4, .int .i64 sv5.2), (5, .int .i64 sv745), (43, .bool c852)] a ∧ Wd ⟨w0, S0, []⟩ Sv853 [.row p359 sv5.1.length k360 c358 34 2] [SlA (some ⟨b727, o728, none⟩) l1.length k3 l1, RowA c358 sv5.1] w) ?_ ?_
       ·rcases Bool.eq_false_or_eq_true (decide (0 < sv745)) with h854 | h854
        ·have h855 := ite_t hc852 h854
         obtain ⟨x858, h856, h855⟩ := bind_t h855
         obtain ⟨b865, q862, c863, h866, h859, h860, h864, h857⟩ := hw.elemRV (α := Span) 0 rfl 1 rfl h856
         have hsv867 := hs
         have hwv868 := hw
         subst h866
         have hs := hsv867
         have hw := hwv868
         obtain ⟨_, _, rfl, rfl, rfl⟩ := h857
         obtain ⟨x871, h869, h855⟩ := bind_t h855
         obtain ⟨q875, c876, h872, h873, h874, h870⟩ := hw.elemK 0 rfl h869
         obtain ⟨_, _, rfl, rfl, rfl⟩ := h870
         have hw := hw.addE h874
         refine h_b (C := Cls [.row (some ⟨b865, 0, none⟩) sv5.1.length k360 c358 34 2] [CeA b727 q875 [.int .i64 x871.From, .int .i64 x871.To]]) (by kernel_rfl) rfl (hw.drew.cs [0] [0] rfl rfl) fun hC => ?_
         have hw := hw.drew
         refine h_g hs 0 rfl (by kernel_rfl) rfl rfl hC rfl (fun w hC => y_move rfl) fun a hs => ?_
         refine h_g hs 1 rfl (by kernel_rfl) rfl rfl hC rfl (fun w hC => y_gtr rfl rfl) fun a hs => ?_
         refine h_g hs 2 rfl (by kernel_rfl) rfl rfl hC rfl (fun w hC => y_move rfl) fun a hs => ?_
         have hs := hs.fix 30 (.bool true) rfl (vb h854)
         refine h_t hs 3 rfl (by kernel_rfl) ⟨_, rfl, rfl⟩ rfl rfl hC (fun w hC => y_move rfl) fun a hs => ?_
         refine h_t hs 4 rfl (by kernel_rfl) ⟨_, rfl, rfl⟩ rfl rfl hC (fun w hC => y_move rfl) fun a hs => ?_
         refine h_t hs 5 rfl (by kernel_rfl) ⟨_, rfl, rfl⟩ rfl rfl hC (fun w hC => y_sub rfl rfl) fun a hs => ?_
         refine h_t hs 6 rfl (by kernel_rfl) ⟨_, rfl, rfl⟩ rfl rfl hC (fun w hC => y_indexAt Try.runUnderlying25 Try.sizeOf34 rfl rfl h859.1 h859.2 h860) fun a hs => ?_
         refine h_t hs 7 rfl (by kernel_rfl) ⟨_, rfl, rfl⟩ rfl rfl hC (fun w hC => y_fieldAddr (o' := q862 + 0) Try.runUnderlying34 rfl Try.sizeOf3 rfl rfl rfl) fun a hs => ?_
         refine h_t hs 8 rfl (by kernel_rfl) ⟨_, rfl, rfl⟩ rfl rfl hC (fun w hC => y_loadQ1 (j := 0) (hC.ownAt 0 rfl) rfl Try.isAgg3 h864 rfl) fun a hs => ?_
         refine h_t hs 9 rfl (by kernel_rfl) ⟨_, rfl, rfl⟩ rfl rfl hC (fun w hC => y_move rfl) fun a hs => ?_
         refine h_t hs 10 rfl (by kernel_rfl) ⟨_, rfl, rfl⟩ rfl rfl hC (fun w hC => y_move rfl) fun a hs => ?_
         refine h_t hs 11 rfl (by kernel_rfl) ⟨_, rfl, rfl⟩ rfl rfl hC (fun w hC => y_indexAt Try.runUnderlying25 Try.sizeOf34 rfl rfl h872.1 h872.2 h873) fun a hs => ?_
         refine h_t hs 12 rfl (by kernel_rfl) ⟨_, rfl, rfl⟩ rfl rfl hC (fun w hC => y_fieldAddr (o' := q875 + 0) Try.runUnderlying34 rfl Try.sizeOf3 rfl rfl rfl) fun a hs => ?_
         refine h_t hs 13 rfl (by kernel_rfl) ⟨_, rfl, rfl⟩ rfl rfl hC (fun w hC => y_loadE1 (j := 0) (hC.ceAt 0 rfl) rfl Try.isAgg3 rfl) fun a hs => ?_
         refine h_t hs 14 rfl (by kernel_rfl) ⟨_, rfl, rfl⟩ rfl rfl hC (fun w hC => y_gtr rfl rfl) fun a hs => ?_
         refine h_g hs 15 rfl (by kernel_rfl) rfl rfl hC rfl (fun w hC => y_pickTE (v := .bool c852) rfl rfl (vbs h855)) fun a hs => ?_
         refine h_done (by kernel_rfl) ?_
         exact ⟨Sv799, (hs.wk rfl), (hw.ft [0] [1, 2] (by decide) rfl rfl)⟩
        ·have h877 := ite_f hc852 h854
         refine h_b (C := Cls [.row p359 sv5.1.length k360 c358 34 2] []) (by kernel_rfl) rfl (hw.drew.cs [0] [] rfl rfl) fun hC => ?_
         have hw := hw.drew
         refine h_g hs 0 rfl (by kernel_rfl) rfl rfl hC rfl (fun w hC => y_move rfl) fun a hs => ?_
         refine h_g hs 1 rfl (by kernel_rfl) rfl rfl hC rfl (fun w hC => y_gtr rfl rfl) fun a hs => ?_
         refine h_g hs 2 rfl (by kernel_rfl) rfl rfl hC rfl (fun w hC => y_move rfl) fun a hs => ?_
         have hs := hs.fix 30 (.bool false) rfl (vb h854)
         refine h_s hs 3 rfl (by kernel_rfl) rfl rfl rfl (.inl rfl) rfl rfl hC fun a hs => ?_
         refine h_s hs 4 rfl (by kernel_rfl) rfl rfl rfl (.inl rfl) rfl rfl hC fun a hs => ?_
         refine h_s hs 5 rfl (by kernel_rfl) rfl rfl rfl (.inl rfl) rfl rfl hC fun a hs => ?_
         refine h_s hs 6 rfl (by kernel_rfl) rfl rfl rfl (.inl rfl) rfl rfl hC fun a hs => ?_
         refine h_s hs 7 rfl (by kernel_rfl) rfl rfl rfl (.inl rfl) rfl rfl hC fun a hs => ?_
         refine h_s hs 8 rfl (by kernel_rfl) rfl rfl rfl (.inl rfl) rfl rfl hC fun a hs => ?_
         refine h_s hs 9 rfl (by kernel_rfl) rfl rfl rfl (.inl rfl) rfl rfl hC fun a hs => ?_
         refine h_s hs 10 rfl (by kernel_rfl) rfl rfl rfl (.inl rfl) rfl rfl hC fun a hs => ?_
         refine h_s hs 11 rfl (by kernel_rfl) rfl rfl rfl (.inl rfl) rfl rfl hC fun a hs => ?_
         refine h_s hs 12 rfl (by kernel_rfl) rfl rfl rfl (.inl rfl) rfl rfl hC fun a hs => ?_
         refine h_s hs 13 rfl (by kernel_rfl) rfl rfl rfl (.inl rfl) rfl rfl hC fun a hs => ?_
         refine h_s hs 14 rfl (by kernel_rfl) rfl rfl rfl (.inl rfl) rfl rfl hC fun a hs => ?_
         refine h_g hs 15 rfl (by kernel_rfl) rfl rfl hC rfl (fun w hC => y_pickFE (v := .bool c852) rfl rfl (vbs h877)) fun a hs => ?_
         refine h_done (by kernel_rfl) ?_
         exact ⟨Sv799, (hs.wk rfl), (hw.ft [0] [0, 1] (by decide) rfl rfl)⟩
       ·rintro a w ⟨Sv853, hs, hw⟩
        refine then_normal ?_
        refine wp_cond_split (hs.ev rfl) (fun h879 => ?_) (fun h879 => ?_)
        ·have hsh := ite_t hsh h879
         refine wp_skip ?_
         refine then_normal ?_
         refine wp_block ?_
         refine wp_region_lit ?_
         refine st_val hs (y_move rfl) trivial rfl rfl fun a hs => ?_
         refine st_val hs (y_sub rfl rfl) trivial rfl rfl fun a hs => ?_
         obtain ⟨k883, h882, hsh⟩ := bind_t hsh
         refine st_val hs (y_assignI rfl h882) trivial rfl rfl fun a hs => ?_
         refine wpList_nil ?_
         refine blk_normal ?_
         refine then_normal ?_
         exact ⟨_, (Option.some.inj hsh).symm, Sv853, (hs.wk rfl), (hw.ft [0] [0, 1] (by decide) rfl rfl)⟩
        ·have hsh := ite_f hsh h879
         refine wp_exit ?_
         refine then_exit ?_
         refine then_exit ?_
         refine blk_exit ?_
         have hsh := Option.some.inj hsh
         subst hsh
         have h884 := hd826 _ rfl
         subst h884
         refine then_normal ?_
         exact ⟨Sv853, (hs.wk rfl), (hw.ft [0] [0, 1] (by decide) rfl rfl)⟩
      ·rintro a w ⟨Sv830, hs, hw⟩
       refine then_normal ?_
       refine wp_seq ?_
       refine wp_region_lit ?_
       refine st_val hs (y_move rfl) trivial rfl rfl fun a hs => ?_
       refine st_val hs (y_move rfl) trivial rfl rfl fun a hs => ?_
       refine st_val hs (y_move rfl) trivial rfl rfl fun a hs => ?_
       obtain ⟨x887, h885, hsh⟩ := bind_t hsh
       obtain ⟨q891, c892, h888, h889, h890, h886⟩ := hw.elemK 0 rfl h885
       obtain ⟨_, _, rfl, rfl, rfl⟩ := h886
       have hw := hw.addE h890
       refine st_val hs (y_indexAt Try.runUnderlying25 Try.sizeOf34 rfl rfl h888.1 h888.2 h889) trivial rfl rfl fun a hs => ?_
       refine st_val hs (y_loadEA (j := 0) (hw.ceAt 0 rfl) rfl Try.isAgg34 Try.sizeOf34 rfl rfl) trivial rfl rfl fun a hs => ?_
       refine w_litSlice (α := Span) (vs := [.agg #[.int .i64 x887.From, .int .i64 x887.To]]) (cs := [.int .i64 x887.From, .int .i64 x887.To]) (xs := ([x887] : List Span)) hs hw El25 rfl rfl rfl rfl rfl rfl ⟨⟨_, _, rfl, rfl, rfl⟩, rfl⟩ rfl trivial rfl fun b894 a w hs hw => ?_
       obtain ⟨l896, h895, hsh⟩ := bind_t hsh
       refine w_appendR (α := Span) hs hw El25 1 rfl rfl rfl 3 rfl 0 rfl 0 rfl h895 rfl trivial ?_
       intro p897 k898 c899 a w hs hw
       refine st_val hs (y_assign rfl) trivial rfl rfl fun a hs => ?_
       refine wpList_nil ?_
       refine then_normal ?_
       refine wp_seq ?_
       obtain ⟨l904, h900, hsh⟩ := bind_t hsh
       obtain ⟨p902, k903, h901⟩ := row_sub (α := Span) hw 1 rfl h900
       obtain ⟨l909, h905, hsh⟩ := bind_t hsh
       obtain ⟨p907, k908, h906⟩ := row_sub (α := Span) hw 1 rfl h905
       obtain ⟨l910, h911, hsh⟩ := bind_t hsh
       refine wp_only (fun a w => ∃ (Sv914 : Nat → Prop) (c912 : List Value), Sl 117 [(0, .slice (some ⟨b727, o728, none⟩) l1.length k3), (3, .slice p897 l910.length k898), (4, .int .i64 sv5.2), (5, .int .i64 e829)] a ∧ Wd ⟨w0, S0, []⟩ Sv914 [.row p897 l910.length k898 c912 34 2] [SlA (some ⟨b727, o728, none⟩) l1.length k3 l1, RowA c912 l910] w) ?_ ?_
       ·refine h_b (C := Cls [.row (some ⟨b894, 0, none⟩) ([x887] : List Span).length ([x887] : List Span).length [.int .i64 x887.From, .int .i64 x887.To] 34 2] [CeA b727 q891 [.int .i64 x887.From, .int .i64 x887.To]]) (by kernel_rfl) rfl (hw.drew.cs [0] [2] rfl rfl) fun hC => ?_
        have hw := hw.drew
        refine h_g hs 0 rfl (by kernel_rfl) rfl rfl hC rfl (fun w hC => y_move rfl) fun a hs => ?_
        refine h_g hs 1 rfl (by kernel_rfl) rfl rfl hC rfl (fun w hC => y_move rfl) fun a hs => ?_
        refine h_g hs 2 rfl (by kernel_rfl) rfl rfl hC rfl (fun w hC => y_add rfl rfl) fun a hs => ?_
        refine h_g hs 3 rfl (by kernel_rfl) rfl rfl hC rfl (fun w hC => y_slc Try.runUnderlying25 Try.sizeOf34 rfl ⟨_, rfl⟩ (by exact rfl) h901) fun a hs => ?_
        refine h_g hs 4 rfl (by kernel_rfl) rfl rfl hC rfl (fun w hC => y_move rfl) fun a hs => ?_
        refine h_g hs 5 rfl (by kernel_rfl) rfl rfl hC rfl (fun w hC => y_move rfl) fun a hs => ?_
        refine h_g hs 6 rfl (by kernel_rfl) rfl rfl hC rfl (fun w hC => y_slc Try.runUnderlying25 Try.sizeOf34 rfl ⟨_, rfl⟩ (by exact rfl) h906) fun a hs => ?_
        refine h_one (i := 7) (by kernel_rfl) rfl ?_
        obtain ⟨ds_, h917⟩ := src_vw (hw.ownAt 1 rfl) (hw.envAt 0 rfl) h905 h906
        refine w_copyC (α := Span) hs hw 1 rfl 0 rfl Try.runUnderlying25 Try.runUnderlying25 Try.sizeOf34 (by decide) h900 h901 rfl rfl rfl h917.1 h917.2.1 h917.2.2 rfl trivial ?_
        intro c912 a w hs hw
        rw [Option.some.inj h911] at hw
        have h913 := (copy_lenS h900 h911)
        try have hs := hs.fix 3 (.slice p897 l910.length k898) rfl (by rw [h913])
        try have hs := hs.fix 53 (.slice p897 l910.length k898) rfl (by rw [h913])
        try have hs := hs.fix 57 (.slice p897 l910.length k898) rfl (by rw [h913])
        refine h_nx (hw.cs [0] [3] rfl rfl) fun hC => ?_
        refine h_done (by kernel_rfl) ?_
        exact ⟨Sv830, c912, (hs.wk rfl), (hw.ft [1] [4, 0] (by decide) rfl rfl)⟩
       ·rintro a w ⟨Sv914, c912, hs, hw⟩
        refine then_normal ?_
        refine wp_region_lit ?_
        refine st_val hs (y_move rfl) trivial rfl rfl fun a hs => ?_
        refine st_val hs (y_move rfl) trivial rfl rfl fun a hs => ?_
        refine st_val hs (y_move rfl) trivial rfl rfl fun a hs => ?_
        refine st_val hs (y_move rfl) trivial rfl rfl fun a hs => ?_
        obtain ⟨x920, h918, hsh⟩ := bind_t hsh
        obtain ⟨q924, c925, h921, h922, h923, h919⟩ := hw.elemK 0 rfl h918
        obtain ⟨_, _, rfl, rfl, rfl⟩ := h919
        have hw := hw.addE h923
        refine st_val hs (y_indexAt Try.runUnderlying25 Try.sizeOf34 rfl rfl h921.1 h921.2 h922) trivial rfl rfl fun a hs => ?_
        refine st_val hs (y_loadEA (j := 0) (hw.ceAt 0 rfl) rfl Try.isAgg34 Try.sizeOf34 rfl rfl) trivial rfl rfl fun a hs => ?_
        obtain ⟨x928, h926, hsh⟩ := bind_t hsh
        obtain ⟨b935, q932, c933, h936, h929, h930, h934, h927⟩ := hw.elemRV (α := Span) 0 rfl 2 rfl h926
        have hsv937 := hs
        have hwv938 := hw
        subst h936
        have hs := hsv937
        have hw := hwv938
        obtain ⟨_, _, rfl, rfl, rfl⟩ := h927
        refine st_val hs (y_indexAt Try.runUnderlying25 Try.sizeOf34 rfl rfl h929.1 h929.2 h930) trivial rfl rfl fun a hs => ?_
        obtain ⟨l940, h939, hsh⟩ := bind_t hsh
        refine w_storeF (α := Span) hs hw 0 rfl 2 rfl h930 rfl rfl Try.sizeOf34 rfl h939 ⟨_, _, rfl, rfl, rfl⟩ trivial ?_
        intro c941 a w hs hw
        have h942 := setM_len h939
        try have hs := hs.fix 3 (.slice (some ⟨b935, 0, none⟩) l940.length k898) rfl (by rw [h942])
        try have hs := hs.fix 61 (.slice (some ⟨b935, 0, none⟩) l940.length k898) rfl (by rw [h942])
        refine wpList_nil ?_
        refine blk_normal ?_
        refine then_normal ?_
        exact ⟨l940, c941, (some ⟨b935, 0, none⟩), k898, Sv914, hsh, (hs.wk rfl), (hw.ft [0] [2, 0] (by decide) rfl rfl)⟩
   ·rintro a w ⟨sorted716, c712, p713, k714, Sv715, hsh, hs, hw⟩
    delta ref08_Normal_j1 at hsh
    refine then_normal ?_
    refine wp_region_lit ?_
    refine st_val hs (y_move rfl) trivial rfl rfl fun a hs => ?_
    refine st_val hs (y_add rfl rfl) trivial rfl rfl fun a hs => ?_
    obtain ⟨i718, h717, hsh⟩ := bind_t hsh
    refine st_val hs (y_assignI rfl h717) trivial rfl rfl fun a hs => ?_
    refine wpList_nil ?_
    refine then_normal ?_
    exact ⟨_, (Option.some.inj hsh).symm, c712, p713, k714, Sv715, (hs.wk rfl), (hw.ft [0] [0, 1] (by decide) rfl rfl)⟩
  ·have hsh := ite_f hsh h545
   refine wp_exit ?_
   refine then_exit ?_
   refine then_exit ?_
   refine blk_exit ?_
   have hsh := Option.some.inj hsh
   subst hsh
   have h944 := hd536 _ rfl
   subst h944
   refine then_normal ?_
   exact ⟨c358, p359, k360, Sv361, (hs.wk rfl), (hw.ft [0] [1] (by decide) rfl rfl)⟩
 ·rintro a w ⟨c540, p541, k542, Sv543, hs, hw⟩
  refine then_normal ?_
  refine wp_seq ?_
  refine wp_region_lit ?_
  refine st_val hs (y_assign rfl) trivial rfl rfl fun a hs => ?_
  refine wpList_nil ?_
  refine then_normal ?_
  refine wp_seq ?_
  refine wp_seq ?_
  refine wp_region_lit ?_
  refine st_val hs (y_assign rfl) trivial rfl rfl fun a hs => ?_
  refine wpList_nil ?_
  refine then_normal ?_
  obtain ⟨e1248, h1540, hsh⟩ := bind_t hsh
  refine wp_join (fun a w => ∃ (c1249 : List Value) (p1250 : Option Addr) (k1251 : Nat) (Sv1252 : Nat → Prop), Sl 117 [(6, .slice p1250 e1248.length k1251)] a ∧ Wd ⟨w0, S0, []⟩ Sv1252 [.row p1250 e1248.length k1251 c1249 34 2] [RowA c1249 e1248] w) ?_ ?_
  ·refine wp_block ?_
   have hw := hw.nilRow Span 34
   refine wp_while (fun sv945 a w => ∃ (c1142 : List Value) (p1143 : Option Addr) (k1144 : Nat) (Sv1145 : Nat → Prop), Sl 117 [(3, .slice p541 e539.length k542), (6, .slice p1143 sv945.1.length k1144), (7, .int .i64 sv945.2)] a ∧ Wd ⟨w0, S0, []⟩ Sv1145 [.row p541 e539.length k542 c540 34 2, .row p1143 sv945.1.length k1144 c1142 34 2] [RowA c540 e539, RowA c1142 sv945.1] w) (([] : List Span), 0) h1540 ⟨[], none, 0, Sv543, (hs.wk rfl), (hw.ft [1, 0] [1, 0] (by decide) rfl rfl)⟩ ?_
   clear h1540
   repeat clear hsh
   rintro sv945 a w tv1246 ⟨c1142, p1143, k1144, Sv1145, hs, hw⟩ hsh hd1245
   delta ref08_Normal_l7 at hsh
   refine wp_seq ?_
   refine wp_seq ?_
   refine wp_region_lit ?_
   refine st_val hs (y_move rfl) trivial rfl rfl fun a hs => ?_
   refine st_val hs (y_move rfl) trivial rfl rfl fun a hs => ?_
   refine st_val hs (y_len Try.runUnderlying25 rfl) trivial rfl rfl fun a hs => ?_
   refine st_val hs (y_lss rfl rfl) trivial rfl rfl fun a hs => ?_
   refine wpList_nil ?_
   refine then_normal ?_
   refine wp_cond_split (hs.ev rfl) (fun h1254 => ?_) (fun h1254 => ?_)
   ·have hsh := ite_t hsh h1254
    refine wp_skip ?_
    refine then_normal ?_
    refine wp_seq ?_
    refine wp_block ?_
    refine wp_seq ?_
    refine wp_region_lit ?_
    refine st_val hs (y_move rfl) trivial rfl rfl fun a hs => ?_
    refine st_val hs (y_len Try.runUnderlying25 rfl) trivial rfl rfl fun a hs => ?_
    obtain ⟨n1352, h1351, hsh⟩ := bind_t hsh
    refine st_val hs (y_assignI rfl h1351) trivial rfl rfl fun a hs => ?_
    refine wpList_nil ?_
    refine then_normal ?_
    refine wp_seq ?_
    obtain ⟨c1379, hc1379, hsh⟩ := bind_t hsh
    refine wp_only (fun a w => ∃ (Sv1380 : Nat → Prop), Sl 117 [(3, .slice p541 e539.length k542), (6, .slice p1143 sv945.1.length k1144), (7, .int .i64 sv945.2), (8, .int .i64 n1352), (91, .bool c1379)] a ∧ Wd ⟨w0, S0, []⟩ Sv1380 [.row p541 e539.length k542 c540 34 2, .row p1143 sv945.1.length k1144 c1142 34 2] [RowA c540 e539, RowA c1142 sv945.1] w) ?_ ?_
    ·rcases Bool.eq_false_or_eq_true (decide (0 < n1352)) with h1381 | h1381
     ·have h1382 := ite_t hc1379 h1381
      obtain ⟨x1385, h1383, h1382⟩ := bind_t h1382
      obtain ⟨b1392, q1389, c1390, h1393, h1386, h1387, h1391, h1384⟩ := hw.elemRV (α := Span) 0 rfl 0 rfl h1383
      have hsv1394 := hs
      have hwv1395 := hw
      subst h1393
      have hs := hsv1394
      have hw := hwv1395
      obtain ⟨_, _, rfl, rfl, rfl⟩ := h1384
      obtain ⟨x1398, h1396, h1382⟩ := bind_t h1382
      obtain ⟨b1405, q1402, c1403, h1406, h1399, h1400, h1404, h1397⟩ := hw.elemRV (α := Span) 1 rfl 1 rfl h1396
      have hsv1407 := hs
      have hwv1408 := hw
      subst h1406
      have hs := hsv1407
      have hw := hwv1408
      obtain ⟨_, _, rfl, rfl, rfl⟩ := h1397
      refine h_b (C := Cls [.row (some ⟨b1392, 0, none⟩) e539.length k542 c540 34 2, .row (some ⟨b1405, 0, none⟩) sv945.1.length k1144 c1142 34 2] []) (by kernel_rfl) rfl (hw.drew.cs [0, 1] [] rfl rfl) fun hC => ?_
      have hw := hw.drew
      refine h_g hs 0 rfl (by kernel_rfl) rfl rfl hC rfl (fun w hC => y_move rfl) fun a hs => ?_
      refine h_g hs 1 rfl (by kernel_rfl) rfl rfl hC rfl (fun w hC => y_gtr rfl rfl) fun a hs => ?_
      refine h_g hs 2 rfl (by kernel_rfl) rfl rfl hC rfl (fun w hC => y_move rfl) fun a hs => ?_
      have hs := hs.fix 78 (.bool true) rfl (vb h1381)
      refine h_t hs 3 rfl (by kernel_rfl) ⟨_, rfl, rfl⟩ rfl rfl hC (fun w hC => y_move rfl) fun a hs => ?_
      refine h_t hs 4 rfl (by kernel_rfl) ⟨_, rfl, rfl⟩ rfl rfl hC (fun w hC => y_move rfl) fun a hs => ?_
      refine h_t hs 5 rfl (by kernel_rfl) ⟨_, rfl, rfl⟩ rfl rfl hC (fun w hC => y_indexAt Try.runUnderlying25 Try.sizeOf34 rfl rfl h1386.1 h1386.2 h1387) fun a hs => ?_
      refine h_t hs 6 rfl (by kernel_rfl) ⟨_, rfl, rfl⟩ rfl rfl hC (fun w hC => y_fieldAddr (o' := q1389 + 0) Try.runUnderlying34 rfl Try.sizeOf3 rfl rfl rfl) fun a hs => ?_
      refine h_t hs 7 rfl (by kernel_rfl) ⟨_, rfl, rfl⟩ rfl rfl hC (fun w hC => y_loadQ1 (j := 0) (hC.ownAt 0 rfl) rfl Try.isAgg3 h1391 rfl) fun a hs => ?_
      refine h_t hs 8 rfl (by kernel_rfl) ⟨_, rfl, rfl⟩ rfl rfl hC (fun w hC => y_move rfl) fun a hs => ?_
      refine h_t hs 9 rfl (by kernel_rfl) ⟨_, rfl, rfl⟩ rfl rfl hC (fun w hC => y_move rfl) fun a hs => ?_
      refine h_t hs 10 rfl (by kernel_rfl) ⟨_, rfl, rfl⟩ rfl rfl hC (fun w hC => y_sub rfl rfl) fun a hs => ?_
      refine h_t hs 11 rfl (by kernel_rfl) ⟨_, rfl, rfl⟩ rfl rfl hC (fun w hC => y_indexAt Try.runUnderlying25 Try.sizeOf34 rfl rfl h1399.1 h1399.2 h1400) fun a hs => ?_
      refine h_t hs 12 rfl (by kernel_rfl) ⟨_, rfl, rfl⟩ rfl rfl hC (fun w hC => y_fieldAddr (o' := q1402 + 1) Try.runUnderlying34 rfl Try.sizeOf3 rfl rfl rfl) fun a hs => ?_
      refine h_t hs 13 rfl (by kernel_rfl) ⟨_, rfl, rfl⟩ rfl rfl hC (fun w hC => y_loadQ1 (j := 1) (hC.ownAt 1 rfl) rfl Try.isAgg3 h1404 rfl) fun a hs => ?_
      refine h_t hs 14 rfl (by kernel_rfl) ⟨_, rfl, rfl⟩ rfl rfl hC (fun w hC => y_leq rfl rfl) fun a hs => ?_
      refine h_g hs 15 rfl (by kernel_rfl) rfl rfl hC rfl (fun w hC => y_pickTE (v := .bool c1379) rfl rfl (vbs h1382)) fun a hs => ?_
      refine h_done (by kernel_rfl) ?_
      exact ⟨Sv1145, (hs.wk rfl), (hw.ft [0, 1] [0, 1] (by decide) rfl rfl)⟩
     ·have h1409 := ite_f hc1379 h1381
      refine h_b (C := Cls [.row p541 e539.length k542 c540 34 2, .row p1143 sv945.1.length k1144 c1142 34 2] []) (by kernel_rfl) rfl (hw.drew.cs [0, 1] [] rfl rfl) fun hC => ?_
      have hw := hw.drew
      refine h_g hs 0 rfl (by kernel_rfl) rfl rfl hC rfl (fun w hC => y_move rfl) fun a hs => ?_
      refine h_g hs 1 rfl (by kernel_rfl) rfl rfl hC rfl (fun w hC => y_gtr rfl rfl) fun a hs => ?_
      refine h_g hs 2 rfl (by kernel_rfl) rfl rfl hC rfl (fun w hC => y_move rfl) fun a hs => ?_
      have hs := hs.fix 78 (.bool false) rfl (vb h1381)
      refine h_s hs 3 rfl (by kernel_rfl) rfl rfl rfl (.inl rfl) rfl rfl hC fun a hs => ?_
      refine h_s hs 4 rfl (by kernel_rfl) rfl rfl rfl (.inl rfl) rfl rfl hC fun a hs => ?_
      refine h_s hs 5 rfl (by kernel_rfl) rfl rfl rfl (.inl rfl) rfl rfl hC fun a hs => ?_
      refine h_s hs 6 rfl (by kernel_rfl) rfl rfl rfl (.inl rfl) rfl rfl hC fun a hs => ?_
      refine h_s hs 7 rfl (by kernel_rfl) rfl rfl rfl (.inl rfl) rfl rfl hC fun a hs => ?_
      refine h_s hs 8 rfl (by kernel_rfl) rfl rfl rfl (.inl rfl) rfl rfl hC fun a hs => ?_
      refine h_s hs 9 rfl (by kernel_rfl) rfl rfl rfl (.inl rfl) rfl rfl hC fun a hs => ?_
      refine h_s hs 10 rfl (by kernel_rfl) rfl rfl rfl (.inl rfl) rfl rfl hC fun a hs => ?_
      refine h_s hs 11 rfl (by kernel_rfl) rfl rfl rfl (.inl rfl) rfl rfl hC fun a hs => ?_
      refine h_s hs 12 rfl (by kernel_rfl) rfl rfl rfl (.inl rfl) rfl rfl hC fun a hs => ?_
      refine h_s hs 13 rfl (by kernel_rfl) rfl rfl rfl (.inl rfl) rfl rfl hC fun a hs => ?_
      refine h_s hs 14 rfl (by kernel_rfl) rfl rfl rfl (.inl rfl) rfl rfl hC fun a hs => ?_
      refine h_g hs 15 rfl (by kernel_rfl) rfl rfl hC rfl (fun w hC => y_pickFE (v := .bool c1379) rfl rfl (vbs h1409)) fun a hs => ?_
      refine h_done (by kernel_rfl) ?_
      exact ⟨Sv1145, (hs.wk rfl), (hw.ft [0, 1] [0, 1] (by decide) rfl rfl)⟩
    ·rintro a w ⟨Sv1380, hs, hw⟩
     refine then_normal ?_
     refine wp_join (fun a w => ∃ (out1475 : (List Span)) (c1471 : List Value) (p1472 : Option Addr) (k1473 : Nat) (Sv1474 : Nat → Prop), ref08_Normal_j4 sv945 out1475 = some tv1246 ∧ Sl 117 [(3, .slice p541 e539.length k542), (6, .slice p1472 out1475.length k1473), (7, .int .i64 sv945.2)] a ∧ Wd ⟨w0, S0, []⟩ Sv1474 [.row p541 e539.length k542 c540 34 2, .row p1472 out1475.length k1473 c1471 34 2] [RowA c540 e539, RowA c1471 out1475] w) ?_ ?_
     ·refine wp_cond_split (hs.ev rfl) (fun h1478 => ?_) (fun h1478 => ?_)
      ·have hsh := ite_t hsh h1478
       obtain ⟨x1481, h1479, hsh⟩ := bind_t hsh
       obtain ⟨b1488, q1485, c1486, h1489, h1482, h1483, h1487, h1480⟩ := hw.elemRV (α := Span) 1 rfl 1 rfl h1479
       have hsv1490 := hs
       have hwv1491 := hw
       subst h1489
       have hs := hsv1490
       have hw := hwv1491
       obtain ⟨_, _, rfl, rfl, rfl⟩ := h1480
       obtain ⟨x1494, h1492, hsh⟩ := bind_t hsh
       obtain ⟨b1501, q1498, c1499, h1502, h1495, h1496, h1500, h1493⟩ := hw.elemRV (α := Span) 0 rfl 0 rfl h1492
       have hsv1503 := hs
       have hwv1504 := hw
       subst h1502
       have hs := hsv1503
       have hw := hwv1504
       obtain ⟨_, _, rfl, rfl, rfl⟩ := h1493
       obtain ⟨x1507, h1505, hsh⟩ := bind_t hsh
       obtain ⟨q1511, c1512, h1508, h1509, h1513, h1506⟩ := hw.elemRK (α := Span) 1 rfl 1 rfl h1505
       obtain ⟨_, _, rfl, rfl, rfl⟩ := h1506
       obtain ⟨l1515, h1514, hsh⟩ := bind_t hsh
       refine wp_only (fun a w => ∃ (Sv1518 : Nat → Prop) (c1516 : List Value), Sl 117 [(3, .slice (some ⟨b1501, 0, none⟩) e539.length k542), (6, .slice (some ⟨b1488, 0, none⟩) l1515.length k1144), (7, .int .i64 sv945.2)] a ∧ Wd ⟨w0, S0, []⟩ Sv1518 [.row (some ⟨b1501, 0, none⟩) e539.length k542 c540 34 2, .row (some ⟨b1488, 0, none⟩) l1515.length k1144 c1516 34 2] [RowA c540 e539, RowA c1516 l1515] w) ?_ ?_
       ·refine h_b (C := Cls [.row (some ⟨b1501, 0, none⟩) e539.length k542 c540 34 2] []) (by kernel_rfl) rfl (hw.drew.cs [0] [] rfl rfl) fun hC => ?_
        have hw := hw.drew
        refine h_g hs 0 rfl (by kernel_rfl) rfl rfl hC rfl (fun w hC => y_move rfl) fun a hs => ?_
        refine h_g hs 1 rfl (by kernel_rfl) rfl rfl hC rfl (fun w hC => y_move rfl) fun a hs => ?_
        refine h_g hs 2 rfl (by kernel_rfl) rfl rfl hC rfl (fun w hC => y_sub rfl rfl) fun a hs => ?_
        refine h_g hs 3 rfl (by kernel_rfl) rfl rfl hC rfl (fun w hC => y_move rfl) fun a hs => ?_
        refine h_g hs 4 rfl (by kernel_rfl) rfl rfl hC rfl (fun w hC => y_move rfl) fun a hs => ?_
        refine h_g hs 5 rfl (by kernel_rfl) rfl rfl hC rfl (fun w hC => y_sub rfl rfl) fun a hs => ?_
        refine h_g hs 6 rfl (by kernel_rfl) rfl rfl hC rfl (fun w hC => y_indexAt Try.runUnderlying25 Try.sizeOf34 rfl rfl h1482.1 h1482.2 h1483) fun a hs => ?_
        refine h_g hs 7 rfl (by kernel_rfl) rfl rfl hC rfl (fun w hC => y_fieldAddr (o' := q1485 + 1) Try.runUnderlying34 rfl Try.sizeOf3 rfl rfl rfl) fun a hs => ?_
        refine h_g hs 9 rfl (by kernel_rfl) rfl rfl hC rfl (fun w hC => y_move rfl) fun a hs => ?_
        refine h_g hs 10 rfl (by kernel_rfl) rfl rfl hC rfl (fun w hC => y_move rfl) fun a hs => ?_
        refine h_g hs 11 rfl (by kernel_rfl) rfl rfl hC rfl (fun w hC => y_indexAt Try.runUnderlying25 Try.sizeOf34 rfl rfl h1495.1 h1495.2 h1496) fun a hs => ?_
        refine h_g hs 12 rfl (by kernel_rfl) rfl rfl hC rfl (fun w hC => y_fieldAddr (o' := q1498 + 1) Try.runUnderlying34 rfl Try.sizeOf3 rfl rfl rfl) fun a hs => ?_
        refine h_g hs 13 rfl (by kernel_rfl) rfl rfl hC rfl (fun w hC => y_loadQ1 (j := 1) (hC.ownAt 0 rfl) rfl Try.isAgg3 h1500 rfl) fun a hs => ?_
        refine h_one (i := 8) (by kernel_rfl) rfl ?_
        refine st_val hs (y_loadQ1 (j := 1) (hw.ownAt 1 rfl) rfl Try.isAgg3 h1487 rfl) trivial rfl rfl fun a hs => ?_
        refine h_nx (hw.cs [0] [] rfl rfl) fun hC => ?_
        refine h_g hs 14 rfl (by kernel_rfl) rfl rfl hC rfl (fun w hC => y_max rfl rfl) fun a hs => ?_
        refine h_g hs 15 rfl (by kernel_rfl) rfl rfl hC rfl (fun w hC => y_indexAt Try.runUnderlying25 Try.sizeOf34 rfl rfl h1508.1 h1508.2 h1509) fun a hs => ?_
        refine h_g hs 16 rfl (by kernel_rfl) rfl rfl hC rfl (fun w hC => y_fieldAddr (o' := q1511 + 1) Try.runUnderlying34 rfl Try.sizeOf3 rfl rfl rfl) fun a hs => ?_
        refine h_one (i := 17) (by kernel_rfl) rfl ?_
        refine w_storeR (α := Span) (f := 1) (m := 1) hs hw 1 rfl 1 rfl h1509 rfl rfl Try.sizeOf3 rfl rfl rfl h1514 (fun es he => by rw [h1513] at he; subst he; exact ⟨_, _, rfl, rfl, rfl⟩) trivial ?_
        intro c1516 a w hs hw
        have h1517 := setM_len h1514
        try have hs := hs.fix 6 (.slice (some ⟨b1488, 0, none⟩) l1515.length k1144) rfl (by rw [h1517])
        try have hs := hs.fix 92 (.slice (some ⟨b1488, 0, none⟩) l1515.length k1144) rfl (by rw [h1517])
        try have hs := hs.fix 95 (.slice (some ⟨b1488, 0, none⟩) l1515.length k1144) rfl (by rw [h1517])
        refine h_nx (hw.cs [0] [] rfl rfl) fun hC => ?_
        refine h_done (by kernel_rfl) ?_
        exact ⟨Sv1380, c1516, (hs.wk rfl), (hw.ft [0, 1] [1, 0] (by decide) rfl rfl)⟩
       ·rintro a w ⟨Sv1518, c1516, hs, hw⟩
        refine then_normal ?_
        exact ⟨l1515, c1516, (some ⟨b1488, 0, none⟩), k1144, Sv1518, hsh, (hs.wk rfl), (hw.ft [0, 1] [0, 1] (by decide) rfl rfl)⟩
      ·have hsh := ite_f hsh h1478
       refine wp_region_lit ?_
       refine st_val hs (y_move rfl) trivial rfl rfl fun a hs => ?_
       refine st_val hs (y_move rfl) trivial rfl rfl fun a hs => ?_
       refine st_val hs (y_move rfl) trivial rfl rfl fun a hs => ?_
       obtain ⟨x1521, h1519, hsh⟩ := bind_t hsh
       obtain ⟨b1528, q1525, c1526, h1529, h1522, h1523, h1527, h1520⟩ := hw.elemRV (α := Span) 0 rfl 0 rfl h1519
       have hsv1530 := hs
       have hwv1531 := hw
       subst h1529
       have hs := hsv1530
       have hw := hwv1531
       obtain ⟨_, _, rfl, rfl, rfl⟩ := h1520
       refine st_val hs (y_indexAt Try.runUnderlying25 Try.sizeOf34 rfl rfl h1522.1 h1522.2 h1523) trivial rfl rfl fun a hs => ?_
       refine st_val hs (y_loadQA (j := 0) (hw.ownAt 0 rfl) rfl Try.isAgg34 Try.sizeOf34 h1527 rfl rfl) trivial rfl rfl fun a hs => ?_
       refine w_litSlice (α := Span) (vs := [.agg #[.int .i64 x1521.From, .int .i64 x1521.To]]) (cs := [.int .i64 x1521.From, .int .i64 x1521.To]) (xs := ([x1521] : List Span)) hs hw El25 rfl rfl rfl rfl rfl rfl ⟨⟨_, _, rfl, rfl, rfl⟩, rfl⟩ rfl trivial rfl fun b1533 a w hs hw => ?_
       obtain ⟨l1535, h1534, hsh⟩ := bind_t hsh
       refine w_appendR (α := Span) hs hw El25 2 rfl rfl rfl 2 rfl 0 rfl 0 rfl h1534 rfl trivial ?_
       intro p1536 k1537 c1538 a w hs hw
       refine st_val hs (y_assign rfl) trivial rfl rfl fun a hs => ?_
       refine wpList_nil ?_
       refine then_normal ?_
       exact ⟨l1535, c1538, p1536, k1537, Sv1380, hsh, (hs.wk rfl), (hw.ft [1, 2] [2, 0] (by decide) rfl rfl)⟩
     ·rintro a w ⟨out1475, c1471, p1472, k1473, Sv1474, hsh, hs, hw⟩
      delta ref08_Normal_j4 at hsh
      refine blk_normal ?_
      refine then_normal ?_
      refine wp_region_lit ?_
      refine st_val hs (y_move rfl) trivial rfl rfl fun a hs => ?_
      refine st_val hs (y_add rfl rfl) trivial rfl rfl fun a hs => ?_
      obtain ⟨i1477, h1476, hsh⟩ := bind_t hsh
      refine st_val hs (y_assignI rfl h1476) trivial rfl rfl fun a hs => ?_
      refine wpList_nil ?_
      refine then_normal ?_
      exact ⟨_, (Option.some.inj hsh).symm, c1471, p1472, k1473, Sv1474, (hs.wk rfl), (hw.ft [0, 1] [0, 1] (by decide) rfl rfl)⟩
   ·have hsh := ite_f hsh h1254
    refine wp_exit ?_
    refine then_exit ?_
    refine then_exit ?_
    refine blk_exit ?_
    have hsh := Option.some.inj hsh
    subst hsh
    have h1539 := hd1245 _ rfl
    subst h1539
    refine then_normal ?_
    exact ⟨c1142, p1143, k1144, Sv1145, (hs.wk rfl), (hw.ft [1] [1] (by decide) rfl rfl)⟩
  ·rintro a w ⟨c1249, p1250, k1251, Sv1252, hs, hw⟩
   refine then_normal ?_
   refine wp_seq ?_
   refine wp_region_lit ?_
   refine st_val hs (y_move rfl) trivial rfl rfl fun a hs => ?_
   refine st_val hs (y_assign rfl) trivial rfl rfl fun a hs => ?_
   refine wpList_nil ?_
   refine then_normal ?_
   have hsh := Option.some.inj hsh
   subst hsh
   refine wp_ret ?_
   exact ret1 hs rfl (rv_tmp rfl) (hw.ret ⟨p1250, k1251, c1249, rfl, (hw.outs [0] (by decide) rfl), (hw.envAt 0 rfl)⟩)

abbrev ref08_Union_rd (w0 : World) (X : List Nat) (r : (List Span)) : (Nat → Prop) → World → Value → Prop := fun S w v => ∃ (p0_0 : Option Addr) (k0_0 : Nat) (c0_0 : List Value), v = .slice p0_0 r.length k0_0 ∧ Outs X w0 S w [.row p0_0 r.length k0_0 c0_0 34 2] ∧ (RowA c0_0 r).p S w
set_option maxHeartbeats 4000000 in
set_option maxRecDepth 100000 in
theorem ref08_Union_ok {w0 : World} {S0 : Nat → Prop} {p2 : Option Addr} {k3 : Nat} {p6 : Option Addr} {k7 : Nat} {a1 : (List Span)} {b5 : (List Span)} {r : (List Span)} (hsh : ref08_Union a1 b5 = some r) (hS : ∀ b, S0 b → b < w0.heap.size) (h4 : (SlA p2 a1.length k3 a1).p S0 w0) (h8 : (SlA p6 b5.length k7 b5).p S0 w0) : Calls Try.prog 23 #[.slice p2 a1.length k3, .slice p6 b5.length k7] w0 (Ret ([]) w0 S0 (ref08_Union_rd w0 ([]) r)) := by
 refine calls_of_wp Try.func23 rfl ?_
 have hs := Sl.enter #[.slice p2 a1.length k3, .slice p6 b5.length k7] 10 [(0, .slice p2 a1.length k3), (1, .slice p6 b5.length k7)] rfl ⟨rfl, rfl, trivial⟩
 have hw := Wd.enter (E := []) hS (fun _ h => (by cases h))
 have hw := hw.addE h4
 have hw := hw.addE h8
 delta ref08_Union at hsh
 refine wp_seq ?_
 refine wp_region_lit ?_
 refine st_val hs (y_assign rfl) trivial rfl rfl fun a hs => ?_
 refine wpList_nil ?_
 refine then_normal ?_
 refine wp_seq ?_
 refine wp_region_lit ?_
 refine st_val hs (y_move rfl) trivial rfl rfl fun a hs => ?_
 obtain ⟨l10, h9, hsh⟩ := bind_t hsh
 have hw := hw.nilRow Span 34
 refine w_appendE (α := Span) hs hw El25 0 rfl rfl rfl 0 rfl 2 rfl h9 rfl trivial ?_
 intro p11 k12 c13 a w hs hw
 refine st_val hs (y_move rfl) trivial rfl rfl fun a hs => ?_
 obtain ⟨l15, h14, hsh⟩ := bind_t hsh
 refine w_appendE (α := Span) hs hw El25 0 rfl rfl rfl 0 rfl 2 rfl h14 rfl trivial ?_
 intro p16 k17 c18 a w hs hw
 obtain ⟨rv20, h19, hsh⟩ := bind_t hsh
 obtain ⟨Sv25, hw⟩ := w_share (α := Span) hw 0 rfl 0 rfl
 refine st_callR hs (ref08_Normal_ok h19 hw.dom (hw.envAt 0 rfl)) (do_call Try.call26 rfl) trivial rfl rfl ?_
 intro v29 Sv26 w a h27 h28 hs
 obtain ⟨p21, k22, c24, rfl, h30, h23⟩ := h28
 have hw := hw.callN h27 h30
 have hw := hw.addE (e := RowA c24 rv20) h23
 refine st_val hs (y_assign rfl) trivial rfl rfl fun a hs => ?_
 refine wpList_nil ?_
 refine then_normal ?_
 have hsh := Option.some.inj hsh
 subst hsh
 refine wp_ret ?_
 exact ret1 hs rfl (rv_tmp rfl) (hw.ret ⟨p21, k22, c24, rfl, (hw.outs [0] (by decide) rfl), (hw.envAt 0 rfl)⟩)

abbrev span_Meet_rd (w0 : World) (X : List Nat) (r : (List Span)) : (Nat → Prop) → World → Value → Prop := fun S w v => ∃ (p0_0 : Option Addr) (k0_0 : Nat) (c0_0 : List Value), v = .slice p0_0 r.length k0_0 ∧ Outs X w0 S w [.row p0_0 r.length k0_0 c0_0 34 2] ∧ (RowA c0_0 r).p S w
set_option maxHeartbeats 4000000 in
set_option maxRecDepth 100000 in
theorem span_Meet_ok {w0 : World} {S0 : Nat → Prop} {p2 : Option Addr} {k3 : Nat} {p6 : Option Addr} {k7 : Nat} {a1 : (List Span)} {b5 : (List Span)} {r : (List Span)} (hsh : span_Meet a1 b5 = some r) (hS : ∀ b, S0 b → b < w0.heap.size) (h4 : (SlA p2 a1.length k3 a1).p S0 w0) (h8 : (SlA p6 b5.length k7 b5).p S0 w0) : Calls Try.prog 19 #[.slice p2 a1.length k3, .slice p6 b5.length k7] w0 (Ret ([]) w0 S0 (span_Meet_rd w0 ([]) r)) := by
 refine calls_of_wp Try.func19 rfl ?_
 have hs := Sl.enter #[.slice p2 a1.length k3, .slice p6 b5.length k7] 68 [(0, .slice p2 a1.length k3), (1, .slice p6 b5.length k7)] rfl ⟨rfl, rfl, trivial⟩
 have hw := Wd.enter (E := []) hS (fun _ h => (by cases h))
 have hw := hw.addE h4
 have hw := hw.addE h8
 delta span_Meet at hsh
 refine wp_seq ?_
 refine wp_region_lit ?_
 refine st_val hs (y_assign rfl) trivial rfl rfl fun a hs => ?_
 refine wpList_nil ?_
 refine then_normal ?_
 refine wp_seq ?_
 refine wp_region_lit ?_
 refine st_val hs (y_move rfl) trivial rfl rfl fun a hs => ?_
 obtain ⟨rv10, h9, hsh⟩ := bind_t hsh
 refine st_callR hs (span_Normal_ok h9 hw.dom (hw.envAt 1 rfl)) (do_call Try.call16 rfl) trivial rfl rfl ?_
 intro v18 Sv15 w a h16 h17 hs
 obtain ⟨p11, k12, c14, rfl, h19, h13⟩ := h17
 have hw := hw.callN h16 h19
 have hw := hw.addE (e := RowA c14 rv10) h13
 refine st_val hs (y_move rfl) trivial rfl rfl fun a hs => ?_
 obtain ⟨rv21, h20, hsh⟩ := bind_t hsh
 refine st_callR hs (span_Normal_ok h20 hw.dom (hw.envAt 1 rfl)) (do_call Try.call16 rfl) trivial rfl rfl ?_
 intro v29 Sv26 w a h27 h28 hs
 obtain ⟨p22, k23, c25, rfl, h30, h24⟩ := h28
 have hw := hw.callN h27 h30
 have hw := hw.addE (e := RowA c25 rv21) h24
 refine st_val hs (y_assign rfl) trivial rfl rfl fun a hs => ?_
 refine st_val hs (y_assign rfl) trivial rfl rfl fun a hs => ?_
 refine wpList_nil ?_
 refine then_normal ?_
 refine wp_seq ?_
 refine wp_region_lit ?_
 refine st_val hs (y_assign rfl) trivial rfl rfl fun a hs => ?_
 refine wpList_nil ?_
 refine then_normal ?_
 refine wp_seq ?_
 refine wp_seq ?_
 refine wp_region_lit ?_
 refine st_val hs (y_assign rfl) trivial rfl rfl fun a hs => ?_
 refine st_val hs (y_assign rfl) trivial rfl rfl fun a hs => ?_
 refine wpList_nil ?_
 refine then_normal ?_
 obtain ⟨e331, h540, hsh⟩ := bind_t hsh
 refine wp_join (fun a w => ∃ (c332 : List Value) (p333 : Option Addr) (k334 : Nat) (Sv335 : Nat → Prop), Sl 68 [(5, .slice p333 e331.length k334)] a ∧ Wd ⟨w0, S0, []⟩ Sv335 [.row p333 e331.length k334 c332 34 2] [RowA c332 e331] w) ?_ ?_
 ·refine wp_block ?_
  have hw := hw.nilRow Span 34
  refine wp_while (fun sv31 a w => ∃ (c228 : List Value) (p229 : Option Addr) (k230 : Nat) (Sv231 : Nat → Prop), Sl 68 [(0, .slice p11 rv10.length k12), (1, .slice p22 rv21.length k23), (5, .slice p229 sv31.1.length k230), (6, .int .i64 sv31.2.1), (7, .int .i64 sv31.2.2)] a ∧ Wd ⟨w0, S0, []⟩ Sv231 [.row p11 rv10.length k12 c14 34 2, .row p22 rv21.length k23 c25 34 2, .row p229 sv31.1.length k230 c228 34 2] [RowA c14 rv10, RowA c25 rv21, RowA c228 sv31.1] w) (([] : List Span), 0, 0) h540 ⟨[], none, 0, Sv26, (hs.wk rfl), (hw.ft [2, 1, 0] [2, 1, 0] (by decide) rfl rfl)⟩ ?_
  clear h540
  repeat clear hsh
  rintro sv31 a w tv329 ⟨c228, p229, k230, Sv231, hs, hw⟩ hsh hd328
  delta span_Meet_l1 at hsh
  refine wp_seq ?_
  refine wp_seq ?_
  refine wp_region_lit ?_
  refine st_val hs (y_move rfl) trivial rfl rfl fun a hs => ?_
  refine st_val hs (y_move rfl) trivial rfl rfl fun a hs => ?_
  refine st_val hs (y_len Try.runUnderlying25 rfl) trivial rfl rfl fun a hs => ?_
  refine st_val hs (y_lss rfl rfl) trivial rfl rfl fun a hs => ?_
  refine st_val hs (y_move rfl) trivial rfl rfl fun a hs => ?_
  refine wpl_join 5 (fun a w1 => w = w1 ∧ Sl 68 [(0, .slice p11 rv10.length k12), (1, .slice p22 rv21.length k23), (5, .slice p229 sv31.1.length k230), (6, .int .i64 sv31.2.1), (7, .int .i64 sv31.2.2), (22, .bool ((decide (sv31.2.1 < (rv10.length : Int))) && (decide (sv31.2.2 < (rv21.length : Int)))))] a) ?_ ?_
  ·rcases Bool.eq_false_or_eq_true (decide (sv31.2.1 < (rv10.length : Int))) with h336 | h336
   ·have hs := hs.fix 17 (.bool true) rfl (vb h336)
    refine st_val hs (y_move rfl) ⟨_, rfl, rfl⟩ rfl rfl fun a hs => ?_
    refine st_val hs (y_move rfl) ⟨_, rfl, rfl⟩ rfl rfl fun a hs => ?_
    refine st_val hs (y_len Try.runUnderlying25 rfl) ⟨_, rfl, rfl⟩ rfl rfl fun a hs => ?_
    refine st_val hs (y_lss rfl rfl) ⟨_, rfl, rfl⟩ rfl rfl fun a hs => ?_
    refine st_val hs (y_pickT rfl rfl) trivial rfl rfl fun a hs => ?_
    refine wpList_nil ?_
    refine then_normal ?_
    exact ⟨rfl, (hs.fix 22 (.bool ((decide (sv31.2.1 < (rv10.length : Int))) && (decide (sv31.2.2 < (rv21.length : Int))))) rfl (and_t h336)).weaken _ ⟨rfl, rfl, rfl, rfl, rfl, rfl, trivial⟩⟩
   ·have hs := hs.fix 17 (.bool false) rfl (vb h336)
    refine st_skip hs rfl rfl rfl rfl rfl fun a hs => ?_
    refine st_skip hs rfl rfl rfl rfl rfl fun a hs => ?_
    refine st_skip hs rfl rfl rfl rfl rfl fun a hs => ?_
    refine st_skip hs rfl rfl rfl rfl rfl fun a hs => ?_
    refine st_val hs (y_pickF rfl rfl) trivial rfl rfl fun a hs => ?_
    refine wpList_nil ?_
    refine then_normal ?_
    exact ⟨rfl, (hs.fix 22 (.bool ((decide (sv31.2.1 < (rv10.length : Int))) && (decide (sv31.2.2 < (rv21.length : Int))))) rfl (and_f h336)).weaken _ ⟨rfl, rfl, rfl, rfl, rfl, rfl, trivial⟩⟩
  ·rintro a w1 ⟨h539, hs⟩
   subst h539
   refine wpList_nil ?_
   refine then_normal ?_
   refine wp_cond_split (hs.ev rfl) (fun h338 => ?_) (fun h338 => ?_)
   ·have hsh := ite_t hsh h338
    refine wp_skip ?_
    refine then_normal ?_
    refine wp_block ?_
    refine wp_seq ?_
    refine wp_seq ?_
    obtain ⟨x434, h432, hsh⟩ := bind_t hsh
    obtain ⟨b441, q438, c439, h442, h435, h436, h440, h433⟩ := hw.elemRV (α := Span) 0 rfl 0 rfl h432
    have hsv443 := hs
    have hwv444 := hw
    subst h442
    have hs := hsv443
    have hw := hwv444
    obtain ⟨_, _, rfl, rfl, rfl⟩ := h433
    obtain ⟨x447, h445, hsh⟩ := bind_t hsh
    obtain ⟨b454, q451, c452, h455, h448, h449, h453, h446⟩ := hw.elemRV (α := Span) 1 rfl 1 rfl h445
    have hsv456 := hs
    have hwv457 := hw
    subst h455
    have hs := hsv456
    have hw := hwv457
    obtain ⟨_, _, rfl, rfl, rfl⟩ := h446
    obtain ⟨x460, h458, hsh⟩ := bind_t hsh
    obtain ⟨q464, c465, h461, h462, h466, h459⟩ := hw.elemRK (α := Span) 0 rfl 0 rfl h458
    obtain ⟨_, _, rfl, rfl, rfl⟩ := h459
    obtain ⟨x469, h467, hsh⟩ := bind_t hsh
    obtain ⟨q473, c474, h470, h471, h475, h468⟩ := hw.elemRK (α := Span) 1 rfl 1 rfl h467
    obtain ⟨_, _, rfl, rfl, rfl⟩ := h468
    refine wp_only (fun a w => ∃ (Sv477 : Nat → Prop) (b476 : Nat), Sl 68 [(0, .slice (some ⟨b441, 0, none⟩) rv10.length k12), (1, .slice (some ⟨b454, 0, none⟩) rv21.length k23), (5, .slice p229 sv31.1.length k230), (6, .int .i64 sv31.2.1), (7, .int .i64 sv31.2.2), (8, .pointer (some ⟨b476, 0, none⟩))] a ∧ Wd ⟨w0, S0, []⟩ Sv477 [.box b476 [.int .i64 (max x434.From x447.From), .int .i64 (min x460.To x469.To)] 34, .row (some ⟨b441, 0, none⟩) rv10.length k12 c14 34 2, .row (some ⟨b454, 0, none⟩) rv21.length k23 c25 34 2, .row p229 sv31.1.length k230 c228 34 2] [RowA c14 rv10, RowA c25 rv21, RowA c228 sv31.1] w) ?_ ?_
    ·refine h_b (C := Cls [.row (some ⟨b441, 0, none⟩) rv10.length k12 c14 34 2, .row (some ⟨b454, 0, none⟩) rv21.length k23 c25 34 2, .row p229 sv31.1.length k230 c228 34 2] []) (by kernel_rfl) rfl (hw.drew.cs [0, 1, 2] [] rfl rfl) fun hC => ?_
     have hw := hw.drew
     refine h_g hs 0 rfl (by kernel_rfl) rfl rfl hC rfl (fun w hC => y_move rfl) fun a hs => ?_
     refine h_g hs 1 rfl (by kernel_rfl) rfl rfl hC rfl (fun w hC => y_move rfl) fun a hs => ?_
     refine h_g hs 2 rfl (by kernel_rfl) rfl rfl hC rfl (fun w hC => y_indexAt Try.runUnderlying25 Try.sizeOf34 rfl rfl h435.1 h435.2 h436) fun a hs => ?_
     refine h_g hs 3 rfl (by kernel_rfl) rfl rfl hC rfl (fun w hC => y_fieldAddr (o' := q438 + 0) Try.runUnderlying34 rfl Try.sizeOf3 rfl rfl rfl) fun a hs => ?_
     refine h_g hs 4 rfl (by kernel_rfl) rfl rfl hC rfl (fun w hC => y_loadQ1 (j := 0) (hC.ownAt 0 rfl) rfl Try.isAgg3 h440 rfl) fun a hs => ?_
     refine h_g hs 5 rfl (by kernel_rfl) rfl rfl hC rfl (fun w hC => y_move rfl) fun a hs => ?_
     refine h_g hs 6 rfl (by kernel_rfl) rfl rfl hC rfl (fun w hC => y_move rfl) fun a hs => ?_
     refine h_g hs 7 rfl (by kernel_rfl) rfl rfl hC rfl (fun w hC => y_indexAt Try.runUnderlying25 Try.sizeOf34 rfl rfl h448.1 h448.2 h449) fun a hs => ?_
     refine h_g hs 8 rfl (by kernel_rfl) rfl rfl hC rfl (fun w hC => y_fieldAddr (o' := q451 + 0) Try.runUnderlying34 rfl Try.sizeOf3 rfl rfl rfl) fun a hs => ?_
     refine h_g hs 9 rfl (by kernel_rfl) rfl rfl hC rfl (fun w hC => y_loadQ1 (j := 0) (hC.ownAt 1 rfl) rfl Try.isAgg3 h453 rfl) fun a hs => ?_
     refine h_g hs 10 rfl (by kernel_rfl) rfl rfl hC rfl (fun w hC => y_max rfl rfl) fun a hs => ?_
     refine h_g hs 11 rfl (by kernel_rfl) rfl rfl hC rfl (fun w hC => y_move rfl) fun a hs => ?_
     refine h_g hs 12 rfl (by kernel_rfl) rfl rfl hC rfl (fun w hC => y_move rfl) fun a hs => ?_
     refine h_g hs 13 rfl (by kernel_rfl) rfl rfl hC rfl (fun w hC => y_indexAt Try.runUnderlying25 Try.sizeOf34 rfl rfl h461.1 h461.2 h462) fun a hs => ?_
     refine h_g hs 14 rfl (by kernel_rfl) rfl rfl hC rfl (fun w hC => y_fieldAddr (o' := q464 + 1) Try.runUnderlying34 rfl Try.sizeOf3 rfl rfl rfl) fun a hs => ?_
     refine h_g hs 15 rfl (by kernel_rfl) rfl rfl hC rfl (fun w hC => y_loadQ1 (j := 1) (hC.ownAt 0 rfl) rfl Try.isAgg3 h466 rfl) fun a hs => ?_
     refine h_g hs 16 rfl (by kernel_rfl) rfl rfl hC rfl (fun w hC => y_move rfl) fun a hs => ?_
     refine h_g hs 17 rfl (by kernel_rfl) rfl rfl hC rfl (fun w hC => y_move rfl) fun a hs => ?_
     refine h_g hs 18 rfl (by kernel_rfl) rfl rfl hC rfl (fun w hC => y_indexAt Try.runUnderlying25 Try.sizeOf34 rfl rfl h470.1 h470.2 h471) fun a hs => ?_
     refine h_g hs 19 rfl (by kernel_rfl) rfl rfl hC rfl (fun w hC => y_fieldAddr (o' := q473 + 1) Try.runUnderlying34 rfl Try.sizeOf3 rfl rfl rfl) fun a hs => ?_
     refine h_g hs 20 rfl (by kernel_rfl) rfl rfl hC rfl (fun w hC => y_loadQ1 (j := 1) (hC.ownAt 1 rfl) rfl Try.isAgg3 h475 rfl) fun a hs => ?_
     refine h_g hs 21 rfl (by kernel_rfl) rfl rfl hC rfl (fun w hC => y_min rfl rfl) fun a hs => ?_
     refine h_g hs 22 rfl (by kernel_rfl) rfl rfl hC rfl (fun w hC => y_build (vs := [(0, .int .i64 (max x434.From x447.From)), (1, .int .i64 (min x460.To x469.To))]) Bld34 rfl rfl) fun a hs => ?_
     refine h_one (i := 23) (by kernel_rfl) rfl ?_
     refine w_alloc (cs := [.int .i64 0, .int .i64 0]) hs hw Try.zeroValue34 rfl rfl trivial ?_
     intro b476 a w hs hw
     refine h_nx (hw.cs [1, 2, 3] [] rfl rfl) fun hC => ?_
     refine h_one (i := 24) (by kernel_rfl) rfl ?_
     refine w_store (m := 2) (cs' := [.int .i64 (max x434.From x447.From), .int .i64 (min x460.To x469.To)]) hs hw 0 rfl rfl rfl Try.sizeOf34 rfl rfl rfl rfl trivial ?_
     intro a w hs hw
     refine h_nx (hw.cs [1, 2, 3] [] rfl rfl) fun hC => ?_
     refine h_done (by kernel_rfl) ?_
     exact ⟨Sv231, b476, (hs.wk rfl), (hw.ft [0, 1, 2, 3] [0, 1, 2] (by decide) rfl rfl)⟩
    ·rintro a w ⟨Sv477, b476, hs, hw⟩
     refine then_normal ?_
     refine wp_seq ?_
     refine wp_region_lit ?_
     refine st_val hs (y_loadBA (hw.ownAt 0 rfl) rfl Try.isAgg34 Try.sizeOf34 rfl rfl) trivial rfl rfl fun a hs => ?_
     obtain ⟨rv479, h478, hsh⟩ := bind_t hsh
     refine st_callR hs (span_some_ok h478 hw.bdom) (do_call Try.call37 rfl) trivial rfl rfl ?_
     intro v483 Sv480 w a h481 h482 hs
     subst h482
     have hw := hw.callB h481
     refine wpList_nil ?_
     refine then_normal ?_
     refine wp_join (fun a w => ∃ (out497 : (List Span)) (c493 : List Value) (p494 : Option Addr) (k495 : Nat) (Sv496 : Nat → Prop), span_Meet_j1 rv10 rv21 sv31 out497 = some tv329 ∧ Sl 68 [(0, .slice (some ⟨b441, 0, none⟩) rv10.length k12), (1, .slice (some ⟨b454, 0, none⟩) rv21.length k23), (5, .slice p494 out497.length k495), (6, .int .i64 sv31.2.1), (7, .int .i64 sv31.2.2)] a ∧ Wd ⟨w0, S0, []⟩ Sv496 [.row (some ⟨b441, 0, none⟩) rv10.length k12 c14 34 2, .row (some ⟨b454, 0, none⟩) rv21.length k23 c25 34 2, .row p494 out497.length k495 c493 34 2] [RowA c14 rv10, RowA c25 rv21, RowA c493 out497] w) ?_ ?_
     ·refine wp_cond_split (hs.ev rfl) (fun h530 => ?_) (fun h530 => ?_)
      ·have hsh := ite_t hsh h530
       refine wp_region_lit ?_
       refine st_val hs (y_move rfl) trivial rfl rfl fun a hs => ?_
       refine st_val hs (y_loadBA (hw.ownAt 0 rfl) rfl Try.isAgg34 Try.sizeOf34 rfl rfl) trivial rfl rfl fun a hs => ?_
       refine w_litSlice (α := Span) (vs := [.agg #[.int .i64 (max x434.From x447.From), .int .i64 (min x460.To x469.To)]]) (cs := [.int .i64 (max x434.From x447.From), .int .i64 (min x460.To x469.To)]) (xs := ([(⟨(max x434.From x447.From), (min x460.To x469.To)⟩ : Span)] : List Span)) hs hw El25 rfl rfl rfl rfl rfl rfl ⟨⟨_, _, rfl, rfl, rfl⟩, rfl⟩ rfl trivial rfl fun b532 a w hs hw => ?_
       obtain ⟨l534, h533, hsh⟩ := bind_t hsh
       refine w_appendR (α := Span) hs hw El25 4 rfl rfl rfl 3 rfl 0 rfl 0 rfl h533 rfl trivial ?_
       intro p535 k536 c537 a w hs hw
       refine st_val hs (y_assign rfl) trivial rfl rfl fun a hs => ?_
       refine wpList_nil ?_
       refine then_normal ?_
       exact ⟨l534, c537, p535, k536, Sv477, hsh, (hs.wk rfl), (hw.ft [2, 3, 4] [2, 3, 0] (by decide) rfl rfl)⟩
      ·have hsh := ite_f hsh h530
       refine wp_skip ?_
       refine then_normal ?_
       exact ⟨sv31.1, c228, p229, k230, Sv477, hsh, (hs.wk rfl), (hw.ft [1, 2, 3] [0, 1, 2] (by decide) rfl rfl)⟩
     ·rintro a w ⟨out497, c493, p494, k495, Sv496, hsh, hs, hw⟩
      delta span_Meet_j1 at hsh
      refine then_normal ?_
      refine wp_seq ?_
      obtain ⟨x500, h498, hsh⟩ := bind_t hsh
      obtain ⟨q504, c505, h501, h502, h506, h499⟩ := hw.elemRK (α := Span) 0 rfl 0 rfl h498
      obtain ⟨_, _, rfl, rfl, rfl⟩ := h499
      obtain ⟨x509, h507, hsh⟩ := bind_t hsh
      obtain ⟨q513, c514, h510, h511, h515, h508⟩ := hw.elemRK (α := Span) 1 rfl 1 rfl h507
      obtain ⟨_, _, rfl, rfl, rfl⟩ := h508
      refine wp_only (fun a w => ∃ (Sv516 : Nat → Prop), Sl 68 [(0, .slice (some ⟨b441, 0, none⟩) rv10.length k12), (1, .slice (some ⟨b454, 0, none⟩) rv21.length k23), (5, .slice p494 out497.length k495), (6, .int .i64 sv31.2.1), (7, .int .i64 sv31.2.2), (62, .bool (decide (x500.To < x509.To)))] a ∧ Wd ⟨w0, S0, []⟩ Sv516 [.row (some ⟨b441, 0, none⟩) rv10.length k12 c14 34 2, .row (some ⟨b454, 0, none⟩) rv21.length k23 c25 34 2, .row p494 out497.length k495 c493 34 2] [RowA c14 rv10, RowA c25 rv21, RowA c493 out497] w) ?_ ?_
      ·refine h_b (C := Cls [.row (some ⟨b441, 0, none⟩) rv10.length k12 c14 34 2, .row (some ⟨b454, 0, none⟩) rv21.length k23 c25 34 2, .row p494 out497.length k495 c493 34 2] []) (by kernel_rfl) rfl (hw.drew.cs [0, 1, 2] [] rfl rfl) fun hC => ?_
       have hw := hw.drew
       refine h_g hs 0 rfl (by kernel_rfl) rfl rfl hC rfl (fun w hC => y_move rfl) fun a hs => ?_
       refine h_g hs 1 rfl (by kernel_rfl) rfl rfl hC rfl (fun w hC => y_move rfl) fun a hs => ?_
       refine h_g hs 2 rfl (by kernel_rfl) rfl rfl hC rfl (fun w hC => y_indexAt Try.runUnderlying25 Try.sizeOf34 rfl rfl h501.1 h501.2 h502) fun a hs => ?_
       refine h_g hs 3 rfl (by kernel_rfl) rfl rfl hC rfl (fun w hC => y_fieldAddr (o' := q504 + 1) Try.runUnderlying34 rfl Try.sizeOf3 rfl rfl rfl) fun a hs => ?_
       refine h_g hs 4 rfl (by kernel_rfl) rfl rfl hC rfl (fun w hC => y_loadQ1 (j := 1) (hC.ownAt 0 rfl) rfl Try.isAgg3 h506 rfl) fun a hs => ?_
       refine h_g hs 5 rfl (by kernel_rfl) rfl rfl hC rfl (fun w hC => y_move rfl) fun a hs => ?_
       refine h_g hs 6 rfl (by kernel_rfl) rfl rfl hC rfl (fun w hC => y_move rfl) fun a hs => ?_
       refine h_g hs 7 rfl (by kernel_rfl) rfl rfl hC rfl (fun w hC => y_indexAt Try.runUnderlying25 Try.sizeOf34 rfl rfl h510.1 h510.2 h511) fun a hs => ?_
       refine h_g hs 8 rfl (by kernel_rfl) rfl rfl hC rfl (fun w hC => y_fieldAddr (o' := q513 + 1) Try.runUnderlying34 rfl Try.sizeOf3 rfl rfl rfl) fun a hs => ?_
       refine h_g hs 9 rfl (by kernel_rfl) rfl rfl hC rfl (fun w hC => y_loadQ1 (j := 1) (hC.ownAt 1 rfl) rfl Try.isAgg3 h515 rfl) fun a hs => ?_
       refine h_g hs 10 rfl (by kernel_rfl) rfl rfl hC rfl (fun w hC => y_lss rfl rfl) fun a hs => ?_
       refine h_done (by kernel_rfl) ?_
       exact ⟨Sv496, (hs.wk rfl), (hw.ft [0, 1, 2] [0, 1, 2] (by decide) rfl rfl)⟩
      ·rintro a w ⟨Sv516, hs, hw⟩
       refine then_normal ?_
       refine wp_join (fun a w => ∃ (i523 : Int) (k524 : Int) (Sv522 : Nat → Prop), span_Meet_j2 out497 i523 k524 = some tv329 ∧ Sl 68 [(0, .slice (some ⟨b441, 0, none⟩) rv10.length k12), (1, .slice (some ⟨b454, 0, none⟩) rv21.length k23), (5, .slice p494 out497.length k495), (6, .int .i64 i523), (7, .int .i64 k524)] a ∧ Wd ⟨w0, S0, []⟩ Sv522 [.row (some ⟨b441, 0, none⟩) rv10.length k12 c14 34 2, .row (some ⟨b454, 0, none⟩) rv21.length k23 c25 34 2, .row p494 out497.length k495 c493 34 2] [RowA c14 rv10, RowA c25 rv21, RowA c493 out497] w) ?_ ?_
       ·refine wp_cond_split (hs.ev rfl) (fun h525 => ?_) (fun h525 => ?_)
        ·have hsh := ite_t hsh h525
         refine wp_region_lit ?_
         refine st_val hs (y_move rfl) trivial rfl rfl fun a hs => ?_
         refine st_val hs (y_add rfl rfl) trivial rfl rfl fun a hs => ?_
         obtain ⟨i527, h526, hsh⟩ := bind_t hsh
         refine st_val hs (y_assignI rfl h526) trivial rfl rfl fun a hs => ?_
         refine wpList_nil ?_
         refine then_normal ?_
         exact ⟨i527, sv31.2.2, Sv516, hsh, (hs.wk rfl), (hw.ft [0, 1, 2] [0, 1, 2] (by decide) rfl rfl)⟩
        ·have hsh := ite_f hsh h525
         refine wp_region_lit ?_
         refine st_val hs (y_move rfl) trivial rfl rfl fun a hs => ?_
         refine st_val hs (y_add rfl rfl) trivial rfl rfl fun a hs => ?_
         obtain ⟨k529, h528, hsh⟩ := bind_t hsh
         refine st_val hs (y_assignI rfl h528) trivial rfl rfl fun a hs => ?_
         refine wpList_nil ?_
         refine then_normal ?_
         exact ⟨sv31.2.1, k529, Sv516, hsh, (hs.wk rfl), (hw.ft [0, 1, 2] [0, 1, 2] (by decide) rfl rfl)⟩
       ·rintro a w ⟨i523, k524, Sv522, hsh, hs, hw⟩
        delta span_Meet_j2 at hsh
        refine blk_normal ?_
        refine then_normal ?_
        exact ⟨_, (Option.some.inj hsh).symm, c493, p494, k495, Sv522, (hs.wk rfl), (hw.ft [0, 1, 2] [0, 1, 2] (by decide) rfl rfl)⟩
   ·have hsh := ite_f hsh h338
    refine wp_exit ?_
    refine then_exit ?_
    refine then_exit ?_
    refine blk_exit ?_
    have hsh := Option.some.inj hsh
    subst hsh
    have h538 := hd328 _ rfl
    subst h538
    refine then_normal ?_
    exact ⟨c228, p229, k230, Sv231, (hs.wk rfl), (hw.ft [2] [2] (by decide) rfl rfl)⟩
 ·rintro a w ⟨c332, p333, k334, Sv335, hs, hw⟩
  refine then_normal ?_
  refine wp_seq ?_
  refine wp_region_lit ?_
  refine st_val hs (y_move rfl) trivial rfl rfl fun a hs => ?_
  refine st_val hs (y_assign rfl) trivial rfl rfl fun a hs => ?_
  refine wpList_nil ?_
  refine then_normal ?_
  have hsh := Option.some.inj hsh
  subst hsh
  refine wp_ret ?_
  exact ret1 hs rfl (rv_tmp rfl) (hw.ret ⟨p333, k334, c332, rfl, (hw.outs [0] (by decide) rfl), (hw.envAt 0 rfl)⟩)

abbrev ref08_Meet_rd (w0 : World) (X : List Nat) (r : (List Span)) : (Nat → Prop) → World → Value → Prop := fun S w v => ∃ (p0_0 : Option Addr) (k0_0 : Nat) (c0_0 : List Value), v = .slice p0_0 r.length k0_0 ∧ Outs X w0 S w [.row p0_0 r.length k0_0 c0_0 34 2] ∧ (RowA c0_0 r).p S w
set_option maxHeartbeats 4000000 in
set_option maxRecDepth 100000 in
theorem ref08_Meet_ok {w0 : World} {S0 : Nat → Prop} {p2 : Option Addr} {k3 : Nat} {p6 : Option Addr} {k7 : Nat} {a1 : (List Span)} {b5 : (List Span)} {r : (List Span)} (hsh : ref08_Meet a1 b5 = some r) (hS : ∀ b, S0 b → b < w0.heap.size) (h4 : (SlA p2 a1.length k3 a1).p S0 w0) (h8 : (SlA p6 b5.length k7 b5).p S0 w0) : Calls Try.prog 24 #[.slice p2 a1.length k3, .slice p6 b5.length k7] w0 (Ret ([]) w0 S0 (ref08_Meet_rd w0 ([]) r)) := by
 refine calls_of_wp Try.func24 rfl ?_
 have hs := Sl.enter #[.slice p2 a1.length k3, .slice p6 b5.length k7] 61 [(0, .slice p2 a1.length k3), (1, .slice p6 b5.length k7)] rfl ⟨rfl, rfl, trivial⟩
 have hw := Wd.enter (E := []) hS (fun _ h => (by cases h))
 have hw := hw.addE h4
 have hw := hw.addE h8
 delta ref08_Meet at hsh
 refine wp_seq ?_
 refine wp_region_lit ?_
 refine st_val hs (y_assign rfl) trivial rfl rfl fun a hs => ?_
 refine wpList_nil ?_
 refine then_normal ?_
 refine wp_seq ?_
 refine wp_region_lit ?_
 refine st_val hs (y_move rfl) trivial rfl rfl fun a hs => ?_
 obtain ⟨rv10, h9, hsh⟩ := bind_t hsh
 refine st_callR hs (ref08_Normal_ok h9 hw.dom (hw.envAt 1 rfl)) (do_call Try.call26 rfl) trivial rfl rfl ?_
 intro v18 Sv15 w a h16 h17 hs
 obtain ⟨p11, k12, c14, rfl, h19, h13⟩ := h17
 have hw := hw.callN h16 h19
 have hw := hw.addE (e := RowA c14 rv10) h13
 refine st_val hs (y_move rfl) trivial rfl rfl fun a hs => ?_
 obtain ⟨rv21, h20, hsh⟩ := bind_t hsh
 refine st_callR hs (ref08_Normal_ok h20 hw.dom (hw.envAt 1 rfl)) (do_call Try.call26 rfl) trivial rfl rfl ?_
 intro v29 Sv26 w a h27 h28 hs
 obtain ⟨p22, k23, c25, rfl, h30, h24⟩ := h28
 have hw := hw.callN h27 h30
 have hw := hw.addE (e := RowA c25 rv21) h24
 refine st_val hs (y_assign rfl) trivial rfl rfl fun a hs => ?_
 refine st_val hs (y_assign rfl) trivial rfl rfl fun a hs => ?_
 refine wpList_nil ?_
 refine then_normal ?_
 refine wp_seq ?_
 refine wp_region_lit ?_
 refine st_val hs (y_assign rfl) trivial rfl rfl fun a hs => ?_
 refine wpList_nil ?_
 refine then_normal ?_
 refine wp_seq ?_
 refine wp_seq ?_
 refine wp_region_lit ?_
 refine st_val hs (y_assign rfl) trivial rfl rfl fun a hs => ?_
 refine wpList_nil ?_
 refine then_normal ?_
 obtain ⟨e661, h1221, hsh⟩ := bind_t hsh
 refine wp_join (fun a w => ∃ (c662 : List Value) (p663 : Option Addr) (k664 : Nat) (Sv665 : Nat → Prop), Sl 61 [(7, .slice p663 e661.length k664)] a ∧ Wd ⟨w0, S0, []⟩ Sv665 [.row p663 e661.length k664 c662 34 2] [RowA c662 e661] w) ?_ ?_
 ·refine wp_block ?_
  have hw := hw.nilRow Span 34
  refine wp_while (fun sv31 a w => ∃ (c448 : List Value) (p449 : Option Addr) (k450 : Nat) (Sv451 : Nat → Prop), Sl 61 [(5, .slice p11 rv10.length k12), (6, .slice p22 rv21.length k23), (7, .slice p449 sv31.1.length k450), (8, .int .i64 sv31.2)] a ∧ Wd ⟨w0, S0, []⟩ Sv451 [.row p11 rv10.length k12 c14 34 2, .row p22 rv21.length k23 c25 34 2, .row p449 sv31.1.length k450 c448 34 2] [RowA c14 rv10, RowA c25 rv21, RowA c448 sv31.1] w) (([] : List Span), 0) h1221 ⟨[], none, 0, Sv26, (hs.wk rfl), (hw.ft [2, 1, 0] [2, 1, 0] (by decide) rfl rfl)⟩ ?_
  clear h1221
  repeat clear hsh
  rintro sv31 a w tv659 ⟨c448, p449, k450, Sv451, hs, hw⟩ hsh hd658
  delta ref08_Meet_l3 at hsh
  refine wp_seq ?_
  refine wp_seq ?_
  refine wp_region_lit ?_
  refine st_val hs (y_move rfl) trivial rfl rfl fun a hs => ?_
  refine st_val hs (y_move rfl) trivial rfl rfl fun a hs => ?_
  refine st_val hs (y_len Try.runUnderlying25 rfl) trivial rfl rfl fun a hs => ?_
  refine st_val hs (y_lss rfl rfl) trivial rfl rfl fun a hs => ?_
  refine wpList_nil ?_
  refine then_normal ?_
  refine wp_cond_split (hs.ev rfl) (fun h667 => ?_) (fun h667 => ?_)
  ·have hsh := ite_t hsh h667
   refine wp_skip ?_
   refine then_normal ?_
   refine wp_seq ?_
   refine wp_block ?_
   refine wp_seq ?_
   refine wp_region_lit ?_
   refine st_val hs (y_assign rfl) trivial rfl rfl fun a hs => ?_
   refine wpList_nil ?_
   refine then_normal ?_
   obtain ⟨e1069, h1207, hsh⟩ := bind_t hsh
   refine wp_join (fun a w => ∃ (c1070 : List Value) (p1071 : Option Addr) (k1072 : Nat) (Sv1073 : Nat → Prop), Sl 61 [(5, .slice p11 rv10.length k12), (6, .slice p22 rv21.length k23), (7, .slice p1071 e1069.length k1072), (8, .int .i64 sv31.2)] a ∧ Wd ⟨w0, S0, []⟩ Sv1073 [.row p11 rv10.length k12 c14 34 2, .row p22 rv21.length k23 c25 34 2, .row p1071 e1069.length k1072 c1070 34 2] [RowA c14 rv10, RowA c25 rv21, RowA c1070 e1069] w) ?_ ?_
   ·refine wp_block ?_
    refine wp_while (fun sv871 a w => ∃ (c1000 : List Value) (p1001 : Option Addr) (k1002 : Nat) (Sv1003 : Nat → Prop), Sl 61 [(5, .slice p11 rv10.length k12), (6, .slice p22 rv21.length k23), (7, .slice p1001 sv871.1.length k1002), (8, .int .i64 sv31.2), (9, .int .i64 sv871.2)] a ∧ Wd ⟨w0, S0, []⟩ Sv1003 [.row p11 rv10.length k12 c14 34 2, .row p22 rv21.length k23 c25 34 2, .row p1001 sv871.1.length k1002 c1000 34 2] [RowA c14 rv10, RowA c25 rv21, RowA c1000 sv871.1] w) (sv31.1, 0) h1207 ⟨c448, p449, k450, Sv451, (hs.wk rfl), (hw.ft [0, 1, 2] [0, 1, 2] (by decide) rfl rfl)⟩ ?_
    clear h1207
    repeat clear hsh
    rintro sv871 a w tv1067 ⟨c1000, p1001, k1002, Sv1003, hs, hw⟩ hsh hd1066
    delta ref08_Meet_l6 at hsh
    refine wp_seq ?_
    refine wp_seq ?_
    refine wp_region_lit ?_
    refine st_val hs (y_move rfl) trivial rfl rfl fun a hs => ?_
    refine st_val hs (y_move rfl) trivial rfl rfl fun a hs => ?_
    refine st_val hs (y_len Try.runUnderlying25 rfl) trivial rfl rfl fun a hs => ?_
    refine st_val hs (y_lss rfl rfl) trivial rfl rfl fun a hs => ?_
    refine wpList_nil ?_
    refine then_normal ?_
    refine wp_cond_split (hs.ev rfl) (fun h1075 => ?_) (fun h1075 => ?_)
    ·have hsh := ite_t hsh h1075
     refine wp_skip ?_
     refine then_normal ?_
     refine wp_seq ?_
     refine wp_block ?_
     refine wp_seq ?_
     obtain ⟨x1137, h1135, hsh⟩ := bind_t hsh
     obtain ⟨b1144, q1141, c1142, h1145, h1138, h1139, h1143, h1136⟩ := hw.elemRV (α := Span) 0 rfl 0 rfl h1135
     have hsv1146 := hs
     have hwv1147 := hw
     subst h1145
     have hs := hsv1146
     have hw := hwv1147
     obtain ⟨_, _, rfl, rfl, rfl⟩ := h1136
     obtain ⟨x1150, h1148, hsh⟩ := bind_t hsh
     obtain ⟨b1157, q1154, c1155, h1158, h1151, h1152, h1156, h1149⟩ := hw.elemRV (α := Span) 1 rfl 1 rfl h1148
     have hsv1159 := hs
     have hwv1160 := hw
     subst h1158
     have hs := hsv1159
     have hw := hwv1160
     obtain ⟨_, _, rfl, rfl, rfl⟩ := h1149
     obtain ⟨x1163, h1161, hsh⟩ := bind_t hsh
     obtain ⟨q1167, c1168, h1164, h1165, h1169, h1162⟩ := hw.elemRK (α := Span) 0 rfl 0 rfl h1161
     obtain ⟨_, _, rfl, rfl, rfl⟩ := h1162
     obtain ⟨x1172, h1170, hsh⟩ := bind_t hsh
     obtain ⟨q1176, c1177, h1173, h1174, h1178, h1171⟩ := hw.elemRK (α := Span) 1 rfl 1 rfl h1170
     obtain ⟨_, _, rfl, rfl, rfl⟩ := h1171
     refine wp_only (fun a w => ∃ (Sv1180 : Nat → Prop) (b1179 : Nat), Sl 61 [(5, .slice (some ⟨b1144, 0, none⟩) rv10.length k12), (6, .slice (some ⟨b1157, 0, none⟩) rv21.length k23), (7, .slice p1001 sv871.1.length k1002), (8, .int .i64 sv31.2), (9, .int .i64 sv871.2), (10, .pointer (some ⟨b1179, 0, none⟩))] a ∧ Wd ⟨w0, S0, []⟩ Sv1180 [.box b1179 [.int .i64 (max x1137.From x1150.From), .int .i64 (min x1163.To x1172.To)] 34, .row (some ⟨b1144, 0, none⟩) rv10.length k12 c14 34 2, .row (some ⟨b1157, 0, none⟩) rv21.length k23 c25 34 2, .row p1001 sv871.1.length k1002 c1000 34 2] [RowA c14 rv10, RowA c25 rv21, RowA c1000 sv871.1] w) ?_ ?_
     ·refine h_b (C := Cls [.row (some ⟨b1144, 0, none⟩) rv10.length k12 c14 34 2, .row (some ⟨b1157, 0, none⟩) rv21.length k23 c25 34 2, .row p1001 sv871.1.length k1002 c1000 34 2] []) (by kernel_rfl) rfl (hw.drew.cs [0, 1, 2] [] rfl rfl) fun hC => ?_
      have hw := hw.drew
      refine h_g hs 0 rfl (by kernel_rfl) rfl rfl hC rfl (fun w hC => y_move rfl) fun a hs => ?_
      refine h_g hs 1 rfl (by kernel_rfl) rfl rfl hC rfl (fun w hC => y_move rfl) fun a hs => ?_
      refine h_g hs 2 rfl (by kernel_rfl) rfl rfl hC rfl (fun w hC => y_indexAt Try.runUnderlying25 Try.sizeOf34 rfl rfl h1138.1 h1138.2 h1139) fun a hs => ?_
      refine h_g hs 3 rfl (by kernel_rfl) rfl rfl hC rfl (fun w hC => y_fieldAddr (o' := q1141 + 0) Try.runUnderlying34 rfl Try.sizeOf3 rfl rfl rfl) fun a hs => ?_
      refine h_g hs 4 rfl (by kernel_rfl) rfl rfl hC rfl (fun w hC => y_loadQ1 (j := 0) (hC.ownAt 0 rfl) rfl Try.isAgg3 h1143 rfl) fun a hs => ?_
      refine h_g hs 5 rfl (by kernel_rfl) rfl rfl hC rfl (fun w hC => y_move rfl) fun a hs => ?_
      refine h_g hs 6 rfl (by kernel_rfl) rfl rfl hC rfl (fun w hC => y_move rfl) fun a hs => ?_
      refine h_g hs 7 rfl (by kernel_rfl) rfl rfl hC rfl (fun w hC => y_indexAt Try.runUnderlying25 Try.sizeOf34 rfl rfl h1151.1 h1151.2 h1152) fun a hs => ?_
      refine h_g hs 8 rfl (by kernel_rfl) rfl rfl hC rfl (fun w hC => y_fieldAddr (o' := q1154 + 0) Try.runUnderlying34 rfl Try.sizeOf3 rfl rfl rfl) fun a hs => ?_
      refine h_g hs 9 rfl (by kernel_rfl) rfl rfl hC rfl (fun w hC => y_loadQ1 (j := 0) (hC.ownAt 1 rfl) rfl Try.isAgg3 h1156 rfl) fun a hs => ?_
      refine h_g hs 10 rfl (by kernel_rfl) rfl rfl hC rfl (fun w hC => y_max rfl rfl) fun a hs => ?_
      refine h_g hs 11 rfl (by kernel_rfl) rfl rfl hC rfl (fun w hC => y_move rfl) fun a hs => ?_
      refine h_g hs 12 rfl (by kernel_rfl) rfl rfl hC rfl (fun w hC => y_move rfl) fun a hs => ?_
      refine h_g hs 13 rfl (by kernel_rfl) rfl rfl hC rfl (fun w hC => y_indexAt Try.runUnderlying25 Try.sizeOf34 rfl rfl h1164.1 h1164.2 h1165) fun a hs => ?_
      refine h_g hs 14 rfl (by kernel_rfl) rfl rfl hC rfl (fun w hC => y_fieldAddr (o' := q1167 + 1) Try.runUnderlying34 rfl Try.sizeOf3 rfl rfl rfl) fun a hs => ?_
      refine h_g hs 15 rfl (by kernel_rfl) rfl rfl hC rfl (fun w hC => y_loadQ1 (j := 1) (hC.ownAt 0 rfl) rfl Try.isAgg3 h1169 rfl) fun a hs => ?_
      refine h_g hs 16 rfl (by kernel_rfl) rfl rfl hC rfl (fun w hC => y_move rfl) fun a hs => ?_
      refine h_g hs 17 rfl (by kernel_rfl) rfl rfl hC rfl (fun w hC => y_move rfl) fun a hs => ?_
      refine h_g hs 18 rfl (by kernel_rfl) rfl rfl hC rfl (fun w hC => y_indexAt Try.runUnderlying25 Try.sizeOf34 rfl rfl h1173.1 h1173.2 h1174) fun a hs => ?_
      refine h_g hs 19 rfl (by kernel_rfl) rfl rfl hC rfl (fun w hC => y_fieldAddr (o' := q1176 + 1) Try.runUnderlying34 rfl Try.sizeOf3 rfl rfl rfl) fun a hs => ?_
      refine h_g hs 20 rfl (by kernel_rfl) rfl rfl hC rfl (fun w hC => y_loadQ1 (j := 1) (hC.ownAt 1 rfl) rfl Try.isAgg3 h1178 rfl) fun a hs => ?_
      refine h_g hs 21 rfl (by kernel_rfl) rfl rfl hC rfl (fun w hC => y_min rfl rfl) fun a hs => ?_
      refine h_g hs 22 rfl (by kernel_rfl) rfl rfl hC rfl (fun w hC => y_build (vs := [(0, .int .i64 (max x1137.From x1150.From)), (1, .int .i64 (min x1163.To x1172.To))]) Bld34 rfl rfl) fun a hs => ?_
      refine h_one (i := 23) (by kernel_rfl) rfl ?_
      refine w_alloc (cs := [.int .i64 0, .int .i64 0]) hs hw Try.zeroValue34 rfl rfl trivial ?_
      intro b1179 a w hs hw
      refine h_nx (hw.cs [1, 2, 3] [] rfl rfl) fun hC => ?_
      refine h_one (i := 24) (by kernel_rfl) rfl ?_
      refine w_store (m := 2) (cs' := [.int .i64 (max x1137.From x1150.From), .int .i64 (min x1163.To x1172.To)]) hs hw 0 rfl rfl rfl Try.sizeOf34 rfl rfl rfl rfl trivial ?_
      intro a w hs hw
      refine h_nx (hw.cs [1, 2, 3] [] rfl rfl) fun hC => ?_
      refine h_done (by kernel_rfl) ?_
      exact ⟨Sv1003, b1179, (hs.wk rfl), (hw.ft [0, 1, 2, 3] [0, 1, 2] (by decide) rfl rfl)⟩
     ·rintro a w ⟨Sv1180, b1179, hs, hw⟩
      refine then_normal ?_
      refine wp_seq ?_
      refine wp_region_lit ?_
      refine st_val hs (y_fieldAddr (o' := 0) Try.runUnderlying34 rfl Try.sizeOf3 rfl rfl rfl) trivial rfl rfl fun a hs => ?_
      refine st_val hs (y_loadB1 (hw.ownAt 0 rfl) rfl Try.isAgg3 rfl) trivial rfl rfl fun a hs => ?_
      refine st_val hs (y_fieldAddr (o' := 1) Try.runUnderlying34 rfl Try.sizeOf3 rfl rfl rfl) trivial rfl rfl fun a hs => ?_
      refine st_val hs (y_loadB1 (hw.ownAt 0 rfl) rfl Try.isAgg3 rfl) trivial rfl rfl fun a hs => ?_
      refine st_val hs (y_lss rfl rfl) trivial rfl rfl fun a hs => ?_
      refine wpList_nil ?_
      refine then_normal ?_
      refine wp_join (fun a w => ∃ (out1193 : (List Span)) (c1189 : List Value) (p1190 : Option Addr) (k1191 : Nat) (Sv1192 : Nat → Prop), ref08_Meet_j1 sv871 out1193 = some tv1067 ∧ Sl 61 [(5, .slice (some ⟨b1144, 0, none⟩) rv10.length k12), (6, .slice (some ⟨b1157, 0, none⟩) rv21.length k23), (7, .slice p1190 out1193.length k1191), (8, .int .i64 sv31.2), (9, .int .i64 sv871.2)] a ∧ Wd ⟨w0, S0, []⟩ Sv1192 [.row (some ⟨b1144, 0, none⟩) rv10.length k12 c14 34 2, .row (some ⟨b1157, 0, none⟩) rv21.length k23 c25 34 2, .row p1190 out1193.length k1191 c1189 34 2] [RowA c14 rv10, RowA c25 rv21, RowA c1189 out1193] w) ?_ ?_
      ·refine wp_cond_split (hs.ev rfl) (fun h1196 => ?_) (fun h1196 => ?_)
       ·have hsh := ite_t hsh h1196
        refine wp_region_lit ?_
        refine st_val hs (y_move rfl) trivial rfl rfl fun a hs => ?_
        refine st_val hs (y_loadBA (hw.ownAt 0 rfl) rfl Try.isAgg34 Try.sizeOf34 rfl rfl) trivial rfl rfl fun a hs => ?_
        refine w_litSlice (α := Span) (vs := [.agg #[.int .i64 (max x1137.From x1150.From), .int .i64 (min x1163.To x1172.To)]]) (cs := [.int .i64 (max x1137.From x1150.From), .int .i64 (min x1163.To x1172.To)]) (xs := ([(⟨(max x1137.From x1150.From), (min x1163.To x1172.To)⟩ : Span)] : List Span)) hs hw El25 rfl rfl rfl rfl rfl rfl ⟨⟨_, _, rfl, rfl, rfl⟩, rfl⟩ rfl trivial rfl fun b1198 a w hs hw => ?_
        obtain ⟨l1200, h1199, hsh⟩ := bind_t hsh
        refine w_appendR (α := Span) hs hw El25 4 rfl rfl rfl 3 rfl 0 rfl 0 rfl h1199 rfl trivial ?_
        intro p1201 k1202 c1203 a w hs hw
        refine st_val hs (y_assign rfl) trivial rfl rfl fun a hs => ?_
        refine wpList_nil ?_
        refine then_normal ?_
        exact ⟨l1200, c1203, p1201, k1202, Sv1180, hsh, (hs.wk rfl), (hw.ft [2, 3, 4] [2, 3, 0] (by decide) rfl rfl)⟩
       ·have hsh := ite_f hsh h1196
        refine wp_skip ?_
        refine then_normal ?_
        exact ⟨sv871.1, c1000, p1001, k1002, Sv1180, hsh, (hs.wk rfl), (hw.ft [1, 2, 3] [0, 1, 2] (by decide) rfl rfl)⟩
      ·rintro a w ⟨out1193, c1189, p1190, k1191, Sv1192, hsh, hs, hw⟩
       delta ref08_Meet_j1 at hsh
       refine blk_normal ?_
       refine then_normal ?_
       refine wp_region_lit ?_
       refine st_val hs (y_move rfl) trivial rfl rfl fun a hs => ?_
       refine st_val hs (y_add rfl rfl) trivial rfl rfl fun a hs => ?_
       obtain ⟨k1195, h1194, hsh⟩ := bind_t hsh
       refine st_val hs (y_assignI rfl h1194) trivial rfl rfl fun a hs => ?_
       refine wpList_nil ?_
       refine then_normal ?_
       exact ⟨_, (Option.some.inj hsh).symm, c1189, p1190, k1191, Sv1192, (hs.wk rfl), (hw.ft [0, 1, 2] [0, 1, 2] (by decide) rfl rfl)⟩
    ·have hsh := ite_f hsh h1075
     refine wp_exit ?_
     refine then_exit ?_
     refine then_exit ?_
     refine blk_exit ?_
     have hsh := Option.some.inj hsh
     subst hsh
     have h1204 := hd1066 _ rfl
     subst h1204
     refine then_normal ?_
     exact ⟨c1000, p1001, k1002, Sv1003, (hs.wk rfl), (hw.ft [0, 1, 2] [0, 1, 2] (by decide) rfl rfl)⟩
   ·rintro a w ⟨c1070, p1071, k1072, Sv1073, hs, hw⟩
    refine blk_normal ?_
    refine then_normal ?_
    refine wp_region_lit ?_
    refine st_val hs (y_move rfl) trivial rfl rfl fun a hs => ?_
    refine st_val hs (y_add rfl rfl) trivial rfl rfl fun a hs => ?_
    obtain ⟨i1206, h1205, hsh⟩ := bind_t hsh
    refine st_val hs (y_assignI rfl h1205) trivial rfl rfl fun a hs => ?_
    refine wpList_nil ?_
    refine then_normal ?_
    exact ⟨_, (Option.some.inj hsh).symm, c1070, p1071, k1072, Sv1073, (hs.wk rfl), (hw.ft [0, 1, 2] [0, 1, 2] (by decide) rfl rfl)⟩
  ·have hsh := ite_f hsh h667
   refine wp_exit ?_
   refine then_exit ?_
   refine then_exit ?_
   refine blk_exit ?_
   have hsh := Option.some.inj hsh
   subst hsh
   have h1208 := hd658 _ rfl
   subst h1208
   refine then_normal ?_
   exact ⟨c448, p449, k450, Sv451, (hs.wk rfl), (hw.ft [2] [2] (by decide) rfl rfl)⟩
 ·rintro a w ⟨c662, p663, k664, Sv665, hs, hw⟩
  refine then_normal ?_
  refine wp_seq ?_
  refine wp_region_lit ?_
  refine st_val hs (y_move rfl) trivial rfl rfl fun a hs => ?_
  obtain ⟨rv1210, h1209, hsh⟩ := bind_t hsh
  obtain ⟨Sv1215, hw⟩ := w_share (α := Span) hw 0 rfl 0 rfl
  refine st_callR hs (ref08_Normal_ok h1209 hw.dom (hw.envAt 0 rfl)) (do_call Try.call26 rfl) trivial rfl rfl ?_
  intro v1219 Sv1216 w a h1217 h1218 hs
  obtain ⟨p1211, k1212, c1214, rfl, h1220, h1213⟩ := h1218
  have hw := hw.callN h1217 h1220
  have hw := hw.addE (e := RowA c1214 rv1210) h1213
  refine st_val hs (y_assign rfl) trivial rfl rfl fun a hs => ?_
  refine wpList_nil ?_
  refine then_normal ?_
  have hsh := Option.some.inj hsh
  subst hsh
  refine wp_ret ?_
  exact ret1 hs rfl (rv_tmp rfl) (hw.ret ⟨p1211, k1212, c1214, rfl, (hw.outs [0] (by decide) rfl), (hw.envAt 0 rfl)⟩)

abbrev span_Minus_rd (w0 : World) (X : List Nat) (r : (List Span)) : (Nat → Prop) → World → Value → Prop := fun S w v => ∃ (p0_0 : Option Addr) (k0_0 : Nat) (c0_0 : List Value), v = .slice p0_0 r.length k0_0 ∧ Outs X w0 S w [.row p0_0 r.length k0_0 c0_0 34 2] ∧ (RowA c0_0 r).p S w
set_option maxHeartbeats 4000000 in
set_option maxRecDepth 100000 in
theorem span_Minus_ok {w0 : World} {S0 : Nat → Prop} {p2 : Option Addr} {k3 : Nat} {p6 : Option Addr} {k7 : Nat} {a1 : (List Span)} {b5 : (List Span)} {r : (List Span)} (hsh : span_Minus a1 b5 = some r) (hS : ∀ b, S0 b → b < w0.heap.size) (h4 : (SlA p2 a1.length k3 a1).p S0 w0) (h8 : (SlA p6 b5.length k7 b5).p S0 w0) : Calls Try.prog 13 #[.slice p2 a1.length k3, .slice p6 b5.length k7] w0 (Ret ([]) w0 S0 (span_Minus_rd w0 ([]) r)) := by
 refine calls_of_wp Try.func13 rfl ?_
 have hs := Sl.enter #[.slice p2 a1.length k3, .slice p6 b5.length k7] 68 [(0, .slice p2 a1.length k3), (1, .slice p6 b5.length k7)] rfl ⟨rfl, rfl, trivial⟩
 have hw := Wd.enter (E := []) hS (fun _ h => (by cases h))
 have hw := hw.addE h4
 have hw := hw.addE h8
 delta span_Minus at hsh
 refine wp_seq ?_
 refine wp_region_lit ?_
 refine st_val hs (y_assign rfl) trivial rfl rfl fun a hs => ?_
 refine wpList_nil ?_
 refine then_normal ?_
 refine wp_seq ?_
 refine wp_region_lit ?_
 refine st_val hs (y_move rfl) trivial rfl rfl fun a hs => ?_
 obtain ⟨rv10, h9, hsh⟩ := bind_t hsh
 refine st_callR hs (span_Normal_ok h9 hw.dom (hw.envAt 0 rfl)) (do_call Try.call16 rfl) trivial rfl rfl ?_
 intro v18 Sv15 w a h16 h17 hs
 obtain ⟨p11, k12, c14, rfl, h19, h13⟩ := h17
 have hw := hw.callN h16 h19
 have hw := hw.addE (e := RowA c14 rv10) h13
 refine st_val hs (y_assign rfl) trivial rfl rfl fun a hs => ?_
 refine wpList_nil ?_
 refine then_normal ?_
 refine wp_seq ?_
 refine wp_region_lit ?_
 refine st_val hs (y_assign rfl) trivial rfl rfl fun a hs => ?_
 refine wpList_nil ?_
 refine then_normal ?_
 refine wp_seq ?_
 refine wp_seq ?_
 refine wp_region_lit ?_
 refine st_val hs (y_move rfl) trivial rfl rfl fun a hs => ?_
 obtain ⟨rv21, h20, hsh⟩ := bind_t hsh
 refine st_callR hs (span_Normal_ok h20 hw.dom (hw.envAt 2 rfl)) (do_call Try.call16 rfl) trivial rfl rfl ?_
 intro v29 Sv26 w a h27 h28 hs
 obtain ⟨p22, k23, c25, rfl, h30, h24⟩ := h28
 have hw := hw.callN h27 h30
 have hw := hw.addE (e := RowA c25 rv21) h24
 refine st_val hs (y_len Try.runUnderlying25 rfl) trivial rfl rfl fun a hs => ?_
 refine st_val hs (y_move rfl) trivial rfl rfl fun a hs => ?_
 refine wpList_nil ?_
 refine then_normal ?_
 obtain ⟨e529, h950, hsh⟩ := bind_t hsh
 refine wp_join (fun a w => ∃ (c530 : List Value) (p531 : Option Addr) (k532 : Nat) (Sv533 : Nat → Prop), Sl 68 [(5, .slice p531 e529.length k532)] a ∧ Wd ⟨w0, S0, []⟩ Sv533 [.row p531 e529.length k532 c530 34 2] [RowA c530 e529] w) ?_ ?_
 ·refine wp_block ?_
  have hw := hw.nilRow Span 34
  refine wp_while (fun sv31 a w => ∃ (c360 : List Value) (p361 : Option Addr) (k362 : Nat) (Sv363 : Nat → Prop), Sl 68 [(1, .slice p11 rv10.length k12), (5, .slice p361 sv31.1.length k362), (14, .slice p22 rv21.length k23), (15, .int .i64 (rv21.length : Int)), (16, .int .i64 sv31.2)] a ∧ Wd ⟨w0, S0, []⟩ Sv363 [.row p11 rv10.length k12 c14 34 2, .row p361 sv31.1.length k362 c360 34 2, .row p22 rv21.length k23 c25 34 2] [RowA c14 rv10, RowA c360 sv31.1, RowA c25 rv21] w) (([] : List Span), 0) h950 ⟨[], none, 0, Sv26, (hs.wk rfl), (hw.ft [2, 0, 1] [2, 0, 1] (by decide) rfl rfl)⟩ ?_
  clear h950
  repeat clear hsh
  rintro sv31 a w tv527 ⟨c360, p361, k362, Sv363, hs, hw⟩ hsh hd526
  delta span_Minus_l3 at hsh
  refine wp_seq ?_
  refine wp_region_lit ?_
  refine st_val hs (y_lss rfl rfl) trivial rfl rfl fun a hs => ?_
  refine wpList_nil ?_
  refine then_normal ?_
  refine wp_seq ?_
  refine wp_cond_split (hs.ev rfl) (fun h535 => ?_) (fun h535 => ?_)
  ·have hsh := ite_t hsh h535
   refine wp_skip ?_
   refine then_normal ?_
   refine wp_seq ?_
   refine wp_block ?_
   refine wp_seq ?_
   refine wp_region_lit ?_
   obtain ⟨x699, h697, hsh⟩ := bind_t hsh
   obtain ⟨b706, q703, c704, h707, h700, h701, h705, h698⟩ := hw.elemRV (α := Span) 2 rfl 2 rfl h697
   have hsv708 := hs
   have hwv709 := hw
   subst h707
   have hs := hsv708
   have hw := hwv709
   obtain ⟨_, _, rfl, rfl, rfl⟩ := h698
   refine st_val hs (y_indexAt Try.runUnderlying25 Try.sizeOf34 rfl rfl h700.1 h700.2 h701) trivial rfl rfl fun a hs => ?_
   refine st_val hs (y_loadQA (j := 0) (hw.ownAt 2 rfl) rfl Try.isAgg34 Try.sizeOf34 h705 rfl rfl) trivial rfl rfl fun a hs => ?_
   refine w_alloc (cs := [.int .i64 0, .int .i64 0]) hs hw Try.zeroValue34 rfl rfl trivial ?_
   intro b710 a w hs hw
   refine w_store (m := 2) (cs' := [.int .i64 x699.From, .int .i64 x699.To]) hs hw 0 rfl rfl rfl Try.sizeOf34 rfl rfl rfl rfl trivial ?_
   intro a w hs hw
   refine wpList_nil ?_
   refine then_normal ?_
   refine wp_seq ?_
   refine wp_region_lit ?_
   refine st_val hs (y_fieldAddr (o' := 0) Try.runUnderlying34 rfl Try.sizeOf3 rfl rfl rfl) trivial rfl rfl fun a hs => ?_
   refine st_val hs (y_loadB1 (hw.ownAt 0 rfl) rfl Try.isAgg3 rfl) trivial rfl rfl fun a hs => ?_
   refine st_val hs (y_assign rfl) trivial rfl rfl fun a hs => ?_
   refine wpList_nil ?_
   refine then_normal ?_
   refine wp_seq ?_
   refine wp_seq ?_
   refine wp_region_lit ?_
   refine st_val hs (y_move rfl) trivial rfl rfl fun a hs => ?_
   refine st_val hs (y_len Try.runUnderlying25 rfl) trivial rfl rfl fun a hs => ?_
   refine st_val hs (y_move rfl) trivial rfl rfl fun a hs => ?_
   refine wpList_nil ?_
   refine then_normal ?_
   obtain ⟨e840, h948, hsh⟩ := bind_t hsh
   refine wp_join (fun a w => ∃ (c841 : List Value) (p842 : Option Addr) (k843 : Nat) (Sv844 : Nat → Prop), Sl 68 [(1, .slice p11 rv10.length k12), (5, .slice p842 e840.1.length k843), (7, .pointer (some ⟨b710, 0, none⟩)), (8, .int .i64 e840.2), (14, .slice (some ⟨b706, 0, none⟩) rv21.length k23), (15, .int .i64 (rv21.length : Int)), (16, .int .i64 sv31.2)] a ∧ Wd ⟨w0, S0, []⟩ Sv844 [.box b710 [.int .i64 x699.From, .int .i64 x699.To] 34, .row p11 rv10.length k12 c14 34 2, .row p842 e840.1.length k843 c841 34 2, .row (some ⟨b706, 0, none⟩) rv21.length k23 c25 34 2] [RowA c14 rv10, RowA c841 e840.1, RowA c25 rv21] w) ?_ ?_
   ·refine wp_block ?_
    refine wp_while (fun sv711 a w => ∃ (c794 : List Value) (p795 : Option Addr) (k796 : Nat) (Sv797 : Nat → Prop), Sl 68 [(1, .slice p11 rv10.length k12), (5, .slice p795 sv711.1.length k796), (7, .pointer (some ⟨b710, 0, none⟩)), (8, .int .i64 sv711.2.1), (14, .slice (some ⟨b706, 0, none⟩) rv21.length k23), (15, .int .i64 (rv21.length : Int)), (16, .int .i64 sv31.2), (22, .slice p11 rv10.length k12), (23, .int .i64 (rv10.length : Int)), (24, .int .i64 sv711.2.2)] a ∧ Wd ⟨w0, S0, []⟩ Sv797 [.box b710 [.int .i64 x699.From, .int .i64 x699.To] 34, .row p11 rv10.length k12 c14 34 2, .row p795 sv711.1.length k796 c794 34 2, .row (some ⟨b706, 0, none⟩) rv21.length k23 c25 34 2] [RowA c14 rv10, RowA c794 sv711.1, RowA c25 rv21] w) (sv31.1, x699.From, 0) h948 ⟨c360, p361, k362, Sv363, (hs.wk rfl), (hw.ft [0, 1, 2, 3] [0, 1, 2] (by decide) rfl rfl)⟩ ?_
    clear h948
    repeat clear hsh
    rintro sv711 a w tv838 ⟨c794, p795, k796, Sv797, hs, hw⟩ hsh hd837
    delta span_Minus_l6 at hsh
    refine wp_seq ?_
    refine wp_region_lit ?_
    refine st_val hs (y_lss rfl rfl) trivial rfl rfl fun a hs => ?_
    refine wpList_nil ?_
    refine then_normal ?_
    refine wp_seq ?_
    refine wp_cond_split (hs.ev rfl) (fun h846 => ?_) (fun h846 => ?_)
    ·have hsh := ite_t hsh h846
     refine wp_skip ?_
     refine then_normal ?_
     refine wp_seq ?_
     refine wp_join (fun a w => ∃ (out883 : (List Span)) (atv884 : Int) (c879 : List Value) (p880 : Option Addr) (k881 : Nat) (Sv882 : Nat → Prop), span_Minus_j1 sv711 out883 atv884 = some tv838 ∧ Sl 68 [(1, .slice p11 rv10.length k12), (5, .slice p880 out883.length k881), (7, .pointer (some ⟨b710, 0, none⟩)), (8, .int .i64 atv884), (14, .slice (some ⟨b706, 0, none⟩) rv21.length k23), (15, .int .i64 (rv21.length : Int)), (16, .int .i64 sv31.2), (22, .slice p11 rv10.length k12), (23, .int .i64 (rv10.length : Int)), (24, .int .i64 sv711.2.2)] a ∧ Wd ⟨w0, S0, []⟩ Sv882 [.box b710 [.int .i64 x699.From, .int .i64 x699.To] 34, .row p11 rv10.length k12 c14 34 2, .row p880 out883.length k881 c879 34 2, .row (some ⟨b706, 0, none⟩) rv21.length k23 c25 34 2] [RowA c14 rv10, RowA c879 out883, RowA c25 rv21] w) ?_ ?_
     ·refine wp_block ?_
      refine wp_seq ?_
      refine wp_region_lit ?_
      obtain ⟨x887, h885, hsh⟩ := bind_t hsh
      obtain ⟨b894, q891, c892, h895, h888, h889, h893, h886⟩ := hw.elemRV (α := Span) 1 rfl 0 rfl h885
      have hsv896 := hs
      have hwv897 := hw
      subst h895
      have hs := hsv896
      have hw := hwv897
      obtain ⟨_, _, rfl, rfl, rfl⟩ := h886
      refine st_val hs (y_indexAt Try.runUnderlying25 Try.sizeOf34 rfl rfl h888.1 h888.2 h889) trivial rfl rfl fun a hs => ?_
      refine st_val hs (y_loadQA (j := 0) (hw.ownAt 1 rfl) rfl Try.isAgg34 Try.sizeOf34 h893 rfl rfl) trivial rfl rfl fun a hs => ?_
      refine w_alloc (cs := [.int .i64 0, .int .i64 0]) hs hw Try.zeroValue34 rfl rfl trivial ?_
      intro b898 a w hs hw
      refine w_store (m := 2) (cs' := [.int .i64 x887.From, .int .i64 x887.To]) hs hw 0 rfl rfl rfl Try.sizeOf34 rfl rfl rfl rfl trivial ?_
      intro a w hs hw
      refine wpList_nil ?_
      refine then_normal ?_
      refine wp_seq ?_
      refine wp_seq ?_
      refine wp_region_lit ?_
      refine st_val hs (y_fieldAddr (o' := 1) Try.runUnderlying34 rfl Try.sizeOf3 rfl rfl rfl) trivial rfl rfl fun a hs => ?_
      refine st_val hs (y_loadB1 (hw.ownAt 0 rfl) rfl Try.isAgg3 rfl) trivial rfl rfl fun a hs => ?_
      refine st_val hs (y_move rfl) trivial rfl rfl fun a hs => ?_
      refine st_val hs (y_leq rfl rfl) trivial rfl rfl fun a hs => ?_
      refine st_val hs (y_move rfl) trivial rfl rfl fun a hs => ?_
      refine wpl_join 6 (fun a w1 => w = w1 ∧ Sl 68 [(1, .slice (some ⟨b894, 0, none⟩) rv10.length k12), (5, .slice p795 sv711.1.length k796), (7, .pointer (some ⟨b710, 0, none⟩)), (8, .int .i64 sv711.2.1), (10, .pointer (some ⟨b898, 0, none⟩)), (14, .slice (some ⟨b706, 0, none⟩) rv21.length k23), (15, .int .i64 (rv21.length : Int)), (16, .int .i64 sv31.2), (22, .slice (some ⟨b894, 0, none⟩) rv10.length k12), (23, .int .i64 (rv10.length : Int)), (24, .int .i64 sv711.2.2), (38, .bool ((decide (x887.To ≤ sv711.2.1)) || (decide (x699.To ≤ x887.From))))] a) ?_ ?_
      ·rcases Bool.eq_false_or_eq_true (decide (x887.To ≤ sv711.2.1)) with h899 | h899
       ·have hs := hs.fix 32 (.bool true) rfl (vb h899)
        refine st_skip hs rfl rfl rfl rfl rfl fun a hs => ?_
        refine st_skip hs rfl rfl rfl rfl rfl fun a hs => ?_
        refine st_skip hs rfl rfl rfl rfl rfl fun a hs => ?_
        refine st_skip hs rfl rfl rfl rfl rfl fun a hs => ?_
        refine st_skip hs rfl rfl rfl rfl rfl fun a hs => ?_
        refine st_val hs (y_pickT rfl rfl) trivial rfl rfl fun a hs => ?_
        refine wpList_nil ?_
        refine then_normal ?_
        exact ⟨rfl, (hs.fix 38 (.bool ((decide (x887.To ≤ sv711.2.1)) || (decide (x699.To ≤ x887.From)))) rfl (or_t h899)).weaken _ ⟨rfl, rfl, rfl, rfl, rfl, rfl, rfl, rfl, rfl, rfl, rfl, rfl, trivial⟩⟩
       ·have hs := hs.fix 32 (.bool false) rfl (vb h899)
        refine st_val hs (y_fieldAddr (o' := 0) Try.runUnderlying34 rfl Try.sizeOf3 rfl rfl rfl) ⟨_, rfl, rfl⟩ rfl rfl fun a hs => ?_
        refine st_val hs (y_loadB1 (hw.ownAt 0 rfl) rfl Try.isAgg3 rfl) ⟨_, rfl, rfl⟩ rfl rfl fun a hs => ?_
        refine st_val hs (y_fieldAddr (o' := 1) Try.runUnderlying34 rfl Try.sizeOf3 rfl rfl rfl) ⟨_, rfl, rfl⟩ rfl rfl fun a hs => ?_
        refine st_val hs (y_loadB1 (hw.ownAt 1 rfl) rfl Try.isAgg3 rfl) ⟨_, rfl, rfl⟩ rfl rfl fun a hs => ?_
        refine st_val hs (y_geq rfl rfl) ⟨_, rfl, rfl⟩ rfl rfl fun a hs => ?_
        refine st_val hs (y_pickF rfl rfl) trivial rfl rfl fun a hs => ?_
        refine wpList_nil ?_
        refine then_normal ?_
        exact ⟨rfl, (hs.fix 38 (.bool ((decide (x887.To ≤ sv711.2.1)) || (decide (x699.To ≤ x887.From)))) rfl (or_f h899)).weaken _ ⟨rfl, rfl, rfl, rfl, rfl, rfl, rfl, rfl, rfl, rfl, rfl, rfl, trivial⟩⟩
      ·rintro a w1 ⟨h925, hs⟩
       subst h925
       refine wpList_nil ?_
       refine then_normal ?_
       refine wp_cond_split (hs.ev rfl) (fun h901 => ?_) (fun h901 => ?_)
       ·have hsh := ite_t hsh h901
        refine wp_exit ?_
        refine then_exit ?_
        refine blk_exit ?_
        refine then_normal ?_
        exact ⟨sv711.1, sv711.2.1, c794, p795, k796, Sv797, hsh, (hs.wk rfl), (hw.ft [1, 2, 3, 4] [0, 1, 2] (by decide) rfl rfl)⟩
       ·have hsh := ite_f hsh h901
        refine wp_skip ?_
        refine then_normal ?_
        refine wp_seq ?_
        refine wp_seq ?_
        refine wp_region_lit ?_
        refine st_val hs (y_move rfl) trivial rfl rfl fun a hs => ?_
        refine st_val hs (y_fieldAddr (o' := 0) Try.runUnderlying34 rfl Try.sizeOf3 rfl rfl rfl) trivial rfl rfl fun a hs => ?_
        refine st_val hs (y_loadB1 (hw.ownAt 0 rfl) rfl Try.isAgg3 rfl) trivial rfl rfl fun a hs => ?_
        refine st_val hs (y_lss rfl rfl) trivial rfl rfl fun a hs => ?_
        refine wpList_nil ?_
        refine then_normal ?_
        refine wp_join (fun a w => ∃ (out914 : (List Span)) (c910 : List Value) (p911 : Option Addr) (k912 : Nat) (Sv913 : Nat → Prop), span_Minus_j2 sv711 x887 out914 = some tv838 ∧ Sl 68 [(1, .slice (some ⟨b894, 0, none⟩) rv10.length k12), (5, .slice p911 out914.length k912), (7, .pointer (some ⟨b710, 0, none⟩)), (8, .int .i64 sv711.2.1), (10, .pointer (some ⟨b898, 0, none⟩)), (14, .slice (some ⟨b706, 0, none⟩) rv21.length k23), (15, .int .i64 (rv21.length : Int)), (16, .int .i64 sv31.2), (22, .slice (some ⟨b894, 0, none⟩) rv10.length k12), (23, .int .i64 (rv10.length : Int)), (24, .int .i64 sv711.2.2)] a ∧ Wd ⟨w0, S0, []⟩ Sv913 [.box b710 [.int .i64 x699.From, .int .i64 x699.To] 34, .box b898 [.int .i64 x887.From, .int .i64 x887.To] 34, .row (some ⟨b894, 0, none⟩) rv10.length k12 c14 34 2, .row p911 out914.length k912 c910 34 2, .row (some ⟨b706, 0, none⟩) rv21.length k23 c25 34 2] [RowA c14 rv10, RowA c910 out914, RowA c25 rv21] w) ?_ ?_
        ·refine wp_cond_split (hs.ev rfl) (fun h917 => ?_) (fun h917 => ?_)
         ·have hsh := ite_t hsh h917
          refine wp_region_lit ?_
          refine st_val hs (y_move rfl) trivial rfl rfl fun a hs => ?_
          refine st_val hs (y_move rfl) trivial rfl rfl fun a hs => ?_
          refine st_val hs (y_fieldAddr (o' := 0) Try.runUnderlying34 rfl Try.sizeOf3 rfl rfl rfl) trivial rfl rfl fun a hs => ?_
          refine st_val hs (y_loadB1 (hw.ownAt 0 rfl) rfl Try.isAgg3 rfl) trivial rfl rfl fun a hs => ?_
          refine st_val hs (y_build (vs := [(0, .int .i64 sv711.2.1), (1, .int .i64 x887.From)]) Bld34 rfl rfl) trivial rfl rfl fun a hs => ?_
          refine w_litSlice (α := Span) (vs := [.agg #[.int .i64 sv711.2.1, .int .i64 x887.From]]) (cs := [.int .i64 sv711.2.1, .int .i64 x887.From]) (xs := ([(⟨sv711.2.1, x887.From⟩ : Span)] : List Span)) hs hw El25 rfl rfl rfl rfl rfl rfl ⟨⟨_, _, rfl, rfl, rfl⟩, rfl⟩ rfl trivial rfl fun b919 a w hs hw => ?_
          obtain ⟨l921, h920, hsh⟩ := bind_t hsh
          refine w_appendR (α := Span) hs hw El25 4 rfl rfl rfl 2 rfl 0 rfl 0 rfl h920 rfl trivial ?_
          intro p922 k923 c924 a w hs hw
          refine st_val hs (y_assign rfl) trivial rfl rfl fun a hs => ?_
          refine wpList_nil ?_
          refine then_normal ?_
          exact ⟨l921, c924, p922, k923, Sv797, hsh, (hs.wk rfl), (hw.ft [2, 1, 3, 4, 5] [2, 0, 4] (by decide) rfl rfl)⟩
         ·have hsh := ite_f hsh h917
          refine wp_skip ?_
          refine then_normal ?_
          exact ⟨sv711.1, c794, p795, k796, Sv797, hsh, (hs.wk rfl), (hw.ft [1, 0, 2, 3, 4] [0, 1, 2] (by decide) rfl rfl)⟩
        ·rintro a w ⟨out914, c910, p911, k912, Sv913, hsh, hs, hw⟩
         delta span_Minus_j2 at hsh
         refine then_normal ?_
         refine wp_region_lit ?_
         refine st_val hs (y_move rfl) trivial rfl rfl fun a hs => ?_
         refine st_val hs (y_fieldAddr (o' := 1) Try.runUnderlying34 rfl Try.sizeOf3 rfl rfl rfl) trivial rfl rfl fun a hs => ?_
         refine st_val hs (y_loadB1 (hw.ownAt 1 rfl) rfl Try.isAgg3 rfl) trivial rfl rfl fun a hs => ?_
         refine st_val hs (y_max rfl rfl) trivial rfl rfl fun a hs => ?_
         obtain ⟨atv916, h915, hsh⟩ := bind_t hsh
         refine st_val hs (y_assignI rfl h915) trivial rfl rfl fun a hs => ?_
         refine wpList_nil ?_
         refine blk_normal ?_
         refine then_normal ?_
         exact ⟨out914, atv916, c910, p911, k912, Sv913, hsh, (hs.wk rfl), (hw.ft [0, 2, 3, 4] [0, 1, 2] (by decide) rfl rfl)⟩
     ·rintro a w ⟨out883, atv884, c879, p880, k881, Sv882, hsh, hs, hw⟩
      delta span_Minus_j1 at hsh
      refine then_normal ?_
      refine wp_region_lit ?_
      refine st_val hs (y_add rfl rfl) trivial rfl rfl fun a hs => ?_
      refine st_val hs (y_move rfl) trivial rfl rfl fun a hs => ?_
      refine wpList_nil ?_
      refine then_normal ?_
      exact ⟨_, (Option.some.inj hsh).symm, c879, p880, k881, Sv882, (hs.wk rfl), (hw.ft [0, 1, 2, 3] [0, 1, 2] (by decide) rfl rfl)⟩
    ·have hsh := ite_f hsh h846
     refine wp_exit ?_
     refine then_exit ?_
     refine then_exit ?_
     refine blk_exit ?_
     have hsh := Option.some.inj hsh
     subst hsh
     have h926 := hd837 _ rfl
     subst h926
     refine then_normal ?_
     exact ⟨c794, p795, k796, Sv797, (hs.wk rfl), (hw.ft [0, 1, 2, 3] [0, 1, 2] (by decide) rfl rfl)⟩
   ·rintro a w ⟨c841, p842, k843, Sv844, hs, hw⟩
    refine then_normal ?_
    refine wp_seq ?_
    refine wp_region_lit ?_
    refine st_val hs (y_move rfl) trivial rfl rfl fun a hs => ?_
    refine st_val hs (y_fieldAddr (o' := 1) Try.runUnderlying34 rfl Try.sizeOf3 rfl rfl rfl) trivial rfl rfl fun a hs => ?_
    refine st_val hs (y_loadB1 (hw.ownAt 0 rfl) rfl Try.isAgg3 rfl) trivial rfl rfl fun a hs => ?_
    refine st_val hs (y_lss rfl rfl) trivial rfl rfl fun a hs => ?_
    refine wpList_nil ?_
    refine then_normal ?_
    refine wp_join (fun a w => ∃ (out939 : (List Span)) (c935 : List Value) (p936 : Option Addr) (k937 : Nat) (Sv938 : Nat → Prop), span_Minus_j4 sv31 out939 = some tv527 ∧ Sl 68 [(1, .slice p11 rv10.length k12), (5, .slice p936 out939.length k937), (14, .slice (some ⟨b706, 0, none⟩) rv21.length k23), (15, .int .i64 (rv21.length : Int)), (16, .int .i64 sv31.2)] a ∧ Wd ⟨w0, S0, []⟩ Sv938 [.row p11 rv10.length k12 c14 34 2, .row p936 out939.length k937 c935 34 2, .row (some ⟨b706, 0, none⟩) rv21.length k23 c25 34 2] [RowA c14 rv10, RowA c935 out939, RowA c25 rv21] w) ?_ ?_
    ·refine wp_cond_split (hs.ev rfl) (fun h940 => ?_) (fun h940 => ?_)
     ·have hsh := ite_t hsh h940
      refine wp_region_lit ?_
      refine st_val hs (y_move rfl) trivial rfl rfl fun a hs => ?_
      refine st_val hs (y_move rfl) trivial rfl rfl fun a hs => ?_
      refine st_val hs (y_fieldAddr (o' := 1) Try.runUnderlying34 rfl Try.sizeOf3 rfl rfl rfl) trivial rfl rfl fun a hs => ?_
      refine st_val hs (y_loadB1 (hw.ownAt 0 rfl) rfl Try.isAgg3 rfl) trivial rfl rfl fun a hs => ?_
      refine st_val hs (y_build (vs := [(0, .int .i64 e840.2), (1, .int .i64 x699.To)]) Bld34 rfl rfl) trivial rfl rfl fun a hs => ?_
      refine w_litSlice (α := Span) (vs := [.agg #[.int .i64 e840.2, .int .i64 x699.To]]) (cs := [.int .i64 e840.2, .int .i64 x699.To]) (xs := ([(⟨e840.2, x699.To⟩ : Span)] : List Span)) hs hw El25 rfl rfl rfl rfl rfl rfl ⟨⟨_, _, rfl, rfl, rfl⟩, rfl⟩ rfl trivial rfl fun b942 a w hs hw => ?_
      obtain ⟨l944, h943, hsh⟩ := bind_t hsh
      refine w_appendR (α := Span) hs hw El25 3 rfl rfl rfl 2 rfl 0 rfl 0 rfl h943 rfl trivial ?_
      intro p945 k946 c947 a w hs hw
      refine st_val hs (y_assign rfl) trivial rfl rfl fun a hs => ?_
      refine wpList_nil ?_
      refine then_normal ?_
      exact ⟨l944, c947, p945, k946, Sv844, hsh, (hs.wk rfl), (hw.ft [2, 3, 4] [2, 0, 4] (by decide) rfl rfl)⟩
     ·have hsh := ite_f hsh h940
      refine wp_skip ?_
      refine then_normal ?_
      exact ⟨e840.1, c841, p842, k843, Sv844, hsh, (hs.wk rfl), (hw.ft [1, 2, 3] [0, 1, 2] (by decide) rfl rfl)⟩
    ·rintro a w ⟨out939, c935, p936, k937, Sv938, hsh, hs, hw⟩
     delta span_Minus_j4 at hsh
     refine blk_normal ?_
     refine then_normal ?_
     refine wp_region_lit ?_
     refine st_val hs (y_add rfl rfl) trivial rfl rfl fun a hs => ?_
     refine st_val hs (y_move rfl) trivial rfl rfl fun a hs => ?_
     refine wpList_nil ?_
     refine then_normal ?_
     exact ⟨_, (Option.some.inj hsh).symm, c935, p936, k937, Sv938, (hs.wk rfl), (hw.ft [0, 1, 2] [0, 1, 2] (by decide) rfl rfl)⟩
  ·have hsh := ite_f hsh h535
   refine wp_exit ?_
   refine then_exit ?_
   refine then_exit ?_
   refine blk_exit ?_
   have hsh := Option.some.inj hsh
   subst hsh
   have h949 := hd526 _ rfl
   subst h949
   refine then_normal ?_
   exact ⟨c360, p361, k362, Sv363, (hs.wk rfl), (hw.ft [1] [1] (by decide) rfl rfl)⟩
 ·rintro a w ⟨c530, p531, k532, Sv533, hs, hw⟩
  refine then_normal ?_
  refine wp_seq ?_
  refine wp_region_lit ?_
  refine st_val hs (y_move rfl) trivial rfl rfl fun a hs => ?_
  refine st_val hs (y_assign rfl) trivial rfl rfl fun a hs => ?_
  refine wpList_nil ?_
  refine then_normal ?_
  have hsh := Option.some.inj hsh
  subst hsh
  refine wp_ret ?_
  exact ret1 hs rfl (rv_tmp rfl) (hw.ret ⟨p531, k532, c530, rfl, (hw.outs [0] (by decide) rfl), (hw.envAt 0 rfl)⟩)

abbrev ref08_Minus_rd (w0 : World) (X : List Nat) (r : (List Span)) : (Nat → Prop) → World → Value → Prop := fun S w v => ∃ (p0_0 : Option Addr) (k0_0 : Nat) (c0_0 : List Value), v = .slice p0_0 r.length k0_0 ∧ Outs X w0 S w [.row p0_0 r.length k0_0 c0_0 34 2] ∧ (RowA c0_0 r).p S w
set_option maxHeartbeats 4000000 in
set_option maxRecDepth 100000 in
theorem ref08_Minus_ok {w0 : World} {S0 : Nat → Prop} {p2 : Option Addr} {k3 : Nat} {p6 : Option Addr} {k7 : Nat} {a1 : (List Span)} {b5 : (List Span)} {r : (List Span)} (hsh : ref08_Minus a1 b5 = some r) (hS : ∀ b, S0 b → b < w0.heap.size) (h4 : (SlA p2 a1.length k3 a1).p S0 w0) (h8 : (SlA p6 b5.length k7 b5).p S0 w0) : Calls Try.prog 25 #[.slice p2 a1.length k3, .slice p6 b5.length k7] w0 (Ret ([]) w0 S0 (ref08_Minus_rd w0 ([]) r)) := by
 refine calls_of_wp Try.func25 rfl ?_
 have hs := Sl.enter #[.slice p2 a1.length k3, .slice p6 b5.length k7] 94 [(0, .slice p2 a1.length k3), (1, .slice p6 b5.length k7)] rfl ⟨rfl, rfl, trivial⟩
 have hw := Wd.enter (E := []) hS (fun _ h => (by cases h))
 have hw := hw.addE h4
 have hw := hw.addE h8
 delta ref08_Minus at hsh
 refine wp_seq ?_
 refine wp_region_lit ?_
 refine st_val hs (y_assign rfl) trivial rfl rfl fun a hs => ?_
 refine wpList_nil ?_
 refine then_normal ?_
 refine wp_seq ?_
 refine wp_region_lit ?_
 refine st_val hs (y_move rfl) trivial rfl rfl fun a hs => ?_
 obtain ⟨rv10, h9, hsh⟩ := bind_t hsh
 refine st_callR hs (ref08_Normal_ok h9 hw.dom (hw.envAt 1 rfl)) (do_call Try.call26 rfl) trivial rfl rfl ?_
 intro v18 Sv15 w a h16 h17 hs
 obtain ⟨p11, k12, c14, rfl, h19, h13⟩ := h17
 have hw := hw.callN h16 h19
 have hw := hw.addE (e := RowA c14 rv10) h13
 refine st_val hs (y_move rfl) trivial rfl rfl fun a hs => ?_
 obtain ⟨rv21, h20, hsh⟩ := bind_t hsh
 refine st_callR hs (ref08_Normal_ok h20 hw.dom (hw.envAt 1 rfl)) (do_call Try.call26 rfl) trivial rfl rfl ?_
 intro v29 Sv26 w a h27 h28 hs
 obtain ⟨p22, k23, c25, rfl, h30, h24⟩ := h28
 have hw := hw.callN h27 h30
 have hw := hw.addE (e := RowA c25 rv21) h24
 refine st_val hs (y_assign rfl) trivial rfl rfl fun a hs => ?_
 refine st_val hs (y_assign rfl) trivial rfl rfl fun a hs => ?_
 refine wpList_nil ?_
 refine then_normal ?_
 refine wp_seq ?_
 refine wp_region_lit ?_
 refine st_val hs (y_assign rfl) trivial rfl rfl fun a hs => ?_
 refine wpList_nil ?_
 refine then_normal ?_
 refine wp_seq ?_
 refine wp_seq ?_
 refine wp_region_lit ?_
 refine st_val hs (y_assign rfl) trivial rfl rfl fun a hs => ?_
 refine wpList_nil ?_
 refine then_normal ?_
 obtain ⟨e1000, h1862, hsh⟩ := bind_t hsh
 refine wp_join (fun a w => ∃ (c1001 : List Value) (p1002 : Option Addr) (k1003 : Nat) (Sv1004 : Nat → Prop), Sl 94 [(7, .slice p1002 e1000.length k1003)] a ∧ Wd ⟨w0, S0, []⟩ Sv1004 [.row p1002 e1000.length k1003 c1001 34 2] [RowA c1001 e1000] w) ?_ ?_
 ·refine wp_block ?_
  have hw := hw.nilRow Span 34
  refine wp_while (fun sv31 a w => ∃ (c674 : List Value) (p675 : Option Addr) (k676 : Nat) (Sv677 : Nat → Prop), Sl 94 [(5, .slice p11 rv10.length k12), (6, .slice p22 rv21.length k23), (7, .slice p675 sv31.1.length k676), (8, .int .i64 sv31.2)] a ∧ Wd ⟨w0, S0, []⟩ Sv677 [.row p11 rv10.length k12 c14 34 2, .row p22 rv21.length k23 c25 34 2, .row p675 sv31.1.length k676 c674 34 2] [RowA c14 rv10, RowA c25 rv21, RowA c674 sv31.1] w) (([] : List Span), 0) h1862 ⟨[], none, 0, Sv26, (hs.wk rfl), (hw.ft [2, 1, 0] [2, 1, 0] (by decide) rfl rfl)⟩ ?_
  clear h1862
  repeat clear hsh
  rintro sv31 a w tv998 ⟨c674, p675, k676, Sv677, hs, hw⟩ hsh hd997
  delta ref08_Minus_l3 at hsh
  refine wp_seq ?_
  refine wp_seq ?_
  refine wp_region_lit ?_
  refine st_val hs (y_move rfl) trivial rfl rfl fun a hs => ?_
  refine st_val hs (y_move rfl) trivial rfl rfl fun a hs => ?_
  refine st_val hs (y_len Try.runUnderlying25 rfl) trivial rfl rfl fun a hs => ?_
  refine st_val hs (y_lss rfl rfl) trivial rfl rfl fun a hs => ?_
  refine wpList_nil ?_
  refine then_normal ?_
  refine wp_cond_split (hs.ev rfl) (fun h1006 => ?_) (fun h1006 => ?_)
  ·have hsh := ite_t hsh h1006
   refine wp_skip ?_
   refine then_normal ?_
   refine wp_seq ?_
   refine wp_block ?_
   refine wp_seq ?_
   refine wp_region_lit ?_
   refine st_val hs (y_move rfl) trivial rfl rfl fun a hs => ?_
   refine st_val hs (y_move rfl) trivial rfl rfl fun a hs => ?_
   obtain ⟨x1325, h1323, hsh⟩ := bind_t hsh
   obtain ⟨b1332, q1329, c1330, h1333, h1326, h1327, h1331, h1324⟩ := hw.elemRV (α := Span) 0 rfl 0 rfl h1323
   have hsv1334 := hs
   have hwv1335 := hw
   subst h1333
   have hs := hsv1334
   have hw := hwv1335
   obtain ⟨_, _, rfl, rfl, rfl⟩ := h1324
   refine st_val hs (y_indexAt Try.runUnderlying25 Try.sizeOf34 rfl rfl h1326.1 h1326.2 h1327) trivial rfl rfl fun a hs => ?_
   refine st_val hs (y_fieldAddr (o' := q1329 + 0) Try.runUnderlying34 rfl Try.sizeOf3 rfl rfl rfl) trivial rfl rfl fun a hs => ?_
   refine st_val hs (y_loadQ1 (j := 0) (hw.ownAt 0 rfl) rfl Try.isAgg3 h1331 rfl) trivial rfl rfl fun a hs => ?_
   refine st_val hs (y_assign rfl) trivial rfl rfl fun a hs => ?_
   refine wpList_nil ?_
   refine then_normal ?_
   refine wp_seq ?_
   refine wp_seq ?_
   refine wp_region_lit ?_
   refine st_val hs (y_assign rfl) trivial rfl rfl fun a hs => ?_
   refine wpList_nil ?_
   refine then_normal ?_
   obtain ⟨e1603, h1860, hsh⟩ := bind_t hsh
   refine wp_join (fun a w => ∃ (c1604 : List Value) (p1605 : Option Addr) (k1606 : Nat) (Sv1607 : Nat → Prop), Sl 94 [(5, .slice (some ⟨b1332, 0, none⟩) rv10.length k12), (6, .slice p22 rv21.length k23), (7, .slice p1605 e1603.1.length k1606), (8, .int .i64 sv31.2), (9, .int .i64 e1603.2)] a ∧ Wd ⟨w0, S0, []⟩ Sv1607 [.row (some ⟨b1332, 0, none⟩) rv10.length k12 c14 34 2, .row p22 rv21.length k23 c25 34 2, .row p1605 e1603.1.length k1606 c1604 34 2] [RowA c14 rv10, RowA c25 rv21, RowA c1604 e1603.1] w) ?_ ?_
   ·refine wp_block ?_
    refine wp_while (fun sv1336 a w => ∃ (c1511 : List Value) (p1512 : Option Addr) (k1513 : Nat) (Sv1514 : Nat → Prop), Sl 94 [(5, .slice (some ⟨b1332, 0, none⟩) rv10.length k12), (6, .slice p22 rv21.length k23), (7, .slice p1512 sv1336.1.length k1513), (8, .int .i64 sv31.2), (9, .int .i64 sv1336.2.1), (10, .int .i64 sv1336.2.2)] a ∧ Wd ⟨w0, S0, []⟩ Sv1514 [.row (some ⟨b1332, 0, none⟩) rv10.length k12 c14 34 2, .row p22 rv21.length k23 c25 34 2, .row p1512 sv1336.1.length k1513 c1511 34 2] [RowA c14 rv10, RowA c25 rv21, RowA c1511 sv1336.1] w) (sv31.1, x1325.From, 0) h1860 ⟨c674, p675, k676, Sv677, (hs.wk rfl), (hw.ft [0, 1, 2] [0, 1, 2] (by decide) rfl rfl)⟩ ?_
    clear h1860
    repeat clear hsh
    rintro sv1336 a w tv1601 ⟨c1511, p1512, k1513, Sv1514, hs, hw⟩ hsh hd1600
    delta ref08_Minus_l6 at hsh
    refine wp_seq ?_
    refine wp_seq ?_
    refine wp_region_lit ?_
    refine st_val hs (y_move rfl) trivial rfl rfl fun a hs => ?_
    refine st_val hs (y_move rfl) trivial rfl rfl fun a hs => ?_
    refine st_val hs (y_len Try.runUnderlying25 rfl) trivial rfl rfl fun a hs => ?_
    refine st_val hs (y_lss rfl rfl) trivial rfl rfl fun a hs => ?_
    refine wpList_nil ?_
    refine then_normal ?_
    refine wp_cond_split (hs.ev rfl) (fun h1609 => ?_) (fun h1609 => ?_)
    ·have hsh := ite_t hsh h1609
     refine wp_skip ?_
     refine then_normal ?_
     refine wp_seq ?_
     refine wp_join (fun a w => ∃ (out1690 : (List Span)) (fromv1691 : Int) (c1686 : List Value) (p1687 : Option Addr) (k1688 : Nat) (Sv1689 : Nat → Prop), ref08_Minus_j1 sv1336 out1690 fromv1691 = some tv1601 ∧ Sl 94 [(5, .slice (some ⟨b1332, 0, none⟩) rv10.length k12), (6, .slice p22 rv21.length k23), (7, .slice p1687 out1690.length k1688), (8, .int .i64 sv31.2), (9, .int .i64 fromv1691), (10, .int .i64 sv1336.2.2)] a ∧ Wd ⟨w0, S0, []⟩ Sv1689 [.row (some ⟨b1332, 0, none⟩) rv10.length k12 c14 34 2, .row p22 rv21.length k23 c25 34 2, .row p1687 out1690.length k1688 c1686 34 2] [RowA c14 rv10, RowA c25 rv21, RowA c1686 out1690] w) ?_ ?_
     ·refine wp_block ?_
      refine wp_seq ?_
      refine wp_seq ?_
      obtain ⟨x1696, h1694, hsh⟩ := bind_t hsh
      obtain ⟨b1703, q1700, c1701, h1704, h1697, h1698, h1702, h1695⟩ := hw.elemRV (α := Span) 1 rfl 1 rfl h1694
      have hsv1705 := hs
      have hwv1706 := hw
      subst h1704
      have hs := hsv1705
      have hw := hwv1706
      obtain ⟨_, _, rfl, rfl, rfl⟩ := h1695
      obtain ⟨c1725, hc1725, hsh⟩ := bind_t hsh
      refine wp_only (fun a w => ∃ (Sv1726 : Nat → Prop), Sl 94 [(5, .slice (some ⟨b1332, 0, none⟩) rv10.length k12), (6, .slice (some ⟨b1703, 0, none⟩) rv21.length k23), (7, .slice p1512 sv1336.1.length k1513), (8, .int .i64 sv31.2), (9, .int .i64 sv1336.2.1), (10, .int .i64 sv1336.2.2), (51, .bool c1725)] a ∧ Wd ⟨w0, S0, []⟩ Sv1726 [.row (some ⟨b1332, 0, none⟩) rv10.length k12 c14 34 2, .row (some ⟨b1703, 0, none⟩) rv21.length k23 c25 34 2, .row p1512 sv1336.1.length k1513 c1511 34 2] [RowA c14 rv10, RowA c25 rv21, RowA c1511 sv1336.1] w) ?_ ?_
      ·rcases Bool.eq_false_or_eq_true (decide (x1696.To ≤ sv1336.2.1)) with h1727 | h1727
       ·have h1728 := ite_t hc1725 h1727
        refine h_b (C := Cls [.row (some ⟨b1332, 0, none⟩) rv10.length k12 c14 34 2, .row (some ⟨b1703, 0, none⟩) rv21.length k23 c25 34 2, .row p1512 sv1336.1.length k1513 c1511 34 2] []) (by kernel_rfl) rfl (hw.drew.cs [0, 1, 2] [] rfl rfl) fun hC => ?_
        have hw := hw.drew
        refine h_g hs 0 rfl (by kernel_rfl) rfl rfl hC rfl (fun w hC => y_move rfl) fun a hs => ?_
        refine h_g hs 1 rfl (by kernel_rfl) rfl rfl hC rfl (fun w hC => y_move rfl) fun a hs => ?_
        refine h_g hs 2 rfl (by kernel_rfl) rfl rfl hC rfl (fun w hC => y_indexAt Try.runUnderlying25 Try.sizeOf34 rfl rfl h1697.1 h1697.2 h1698) fun a hs => ?_
        refine h_g hs 3 rfl (by kernel_rfl) rfl rfl hC rfl (fun w hC => y_fieldAddr (o' := q1700 + 1) Try.runUnderlying34 rfl Try.sizeOf3 rfl rfl rfl) fun a hs => ?_
        refine h_g hs 4 rfl (by kernel_rfl) rfl rfl hC rfl (fun w hC => y_loadQ1 (j := 1) (hC.ownAt 1 rfl) rfl Try.isAgg3 h1702 rfl) fun a hs => ?_
        refine h_g hs 5 rfl (by kernel_rfl) rfl rfl hC rfl (fun w hC => y_move rfl) fun a hs => ?_
        refine h_g hs 6 rfl (by kernel_rfl) rfl rfl hC rfl (fun w hC => y_leq rfl rfl) fun a hs => ?_
        refine h_g hs 7 rfl (by kernel_rfl) rfl rfl hC rfl (fun w hC => y_move rfl) fun a hs => ?_
        have hs := hs.fix 39 (.bool true) rfl (vb h1727)
        refine h_s hs 8 rfl (by kernel_rfl) rfl rfl rfl (.inl rfl) rfl rfl hC fun a hs => ?_
        refine h_s hs 9 rfl (by kernel_rfl) rfl rfl rfl (.inl rfl) rfl rfl hC fun a hs => ?_
        refine h_s hs 10 rfl (by kernel_rfl) rfl rfl rfl (.inl rfl) rfl rfl hC fun a hs => ?_
        refine h_s hs 11 rfl (by kernel_rfl) rfl rfl rfl (.inl rfl) rfl rfl hC fun a hs => ?_
        refine h_s hs 12 rfl (by kernel_rfl) rfl rfl rfl (.inl rfl) rfl rfl hC fun a hs => ?_
        refine h_s hs 13 rfl (by kernel_rfl) rfl rfl rfl (.inl rfl) rfl rfl hC fun a hs => ?_
        refine h_s hs 14 rfl (by kernel_rfl) rfl rfl rfl (.inl rfl) rfl rfl hC fun a hs => ?_
        refine h_s hs 15 rfl (by kernel_rfl) rfl rfl rfl (.inl rfl) rfl rfl hC fun a hs => ?_
        refine h_s hs 16 rfl (by kernel_rfl) rfl rfl rfl (.inl rfl) rfl rfl hC fun a hs => ?_
        refine h_s hs 17 rfl (by kernel_rfl) rfl rfl rfl (.inl rfl) rfl rfl hC fun a hs => ?_
        refine h_s hs 18 rfl (by kernel_rfl) rfl rfl rfl (.inl rfl) rfl rfl hC fun a hs => ?_
        refine h_g hs 19 rfl (by kernel_rfl) rfl rfl hC rfl (fun w hC => y_pickTE (v := .bool c1725) rfl rfl (vbs h1728)) fun a hs => ?_
        refine h_done (by kernel_rfl) ?_
        exact ⟨Sv1514, (hs.wk rfl), (hw.ft [0, 1, 2] [0, 1, 2] (by decide) rfl rfl)⟩
       ·have h1729 := ite_f hc1725 h1727
        obtain ⟨x1732, h1730, h1729⟩ := bind_t h1729
        obtain ⟨q1736, c1737, h1733, h1734, h1738, h1731⟩ := hw.elemRK (α := Span) 1 rfl 1 rfl h1730
        obtain ⟨_, _, rfl, rfl, rfl⟩ := h1731
        obtain ⟨x1741, h1739, h1729⟩ := bind_t h1729
        obtain ⟨q1745, c1746, h1742, h1743, h1747, h1740⟩ := hw.elemRK (α := Span) 0 rfl 0 rfl h1739
        obtain ⟨_, _, rfl, rfl, rfl⟩ := h1740
        refine h_b (C := Cls [.row (some ⟨b1332, 0, none⟩) rv10.length k12 c14 34 2, .row (some ⟨b1703, 0, none⟩) rv21.length k23 c25 34 2, .row p1512 sv1336.1.length k1513 c1511 34 2] []) (by kernel_rfl) rfl (hw.drew.cs [0, 1, 2] [] rfl rfl) fun hC => ?_
        have hw := hw.drew
        refine h_g hs 0 rfl (by kernel_rfl) rfl rfl hC rfl (fun w hC => y_move rfl) fun a hs => ?_
        refine h_g hs 1 rfl (by kernel_rfl) rfl rfl hC rfl (fun w hC => y_move rfl) fun a hs => ?_
        refine h_g hs 2 rfl (by kernel_rfl) rfl rfl hC rfl (fun w hC => y_indexAt Try.runUnderlying25 Try.sizeOf34 rfl rfl h1697.1 h1697.2 h1698) fun a hs => ?_
        refine h_g hs 3 rfl (by kernel_rfl) rfl rfl hC rfl (fun w hC => y_fieldAddr (o' := q1700 + 1) Try.runUnderlying34 rfl Try.sizeOf3 rfl rfl rfl) fun a hs => ?_
        refine h_g hs 4 rfl (by kernel_rfl) rfl rfl hC rfl (fun w hC => y_loadQ1 (j := 1) (hC.ownAt 1 rfl) rfl Try.isAgg3 h1702 rfl) fun a hs => ?_
        refine h_g hs 5 rfl (by kernel_rfl) rfl rfl hC rfl (fun w hC => y_move rfl) fun a hs => ?_
        refine h_g hs 6 rfl (by kernel_rfl) rfl rfl hC rfl (fun w hC => y_leq rfl rfl) fun a hs => ?_
        refine h_g hs 7 rfl (by kernel_rfl) rfl rfl hC rfl (fun w hC => y_move rfl) fun a hs => ?_
        have hs := hs.fix 39 (.bool false) rfl (vb h1727)
        refine h_t hs 8 rfl (by kernel_rfl) ⟨_, rfl, rfl⟩ rfl rfl hC (fun w hC => y_move rfl) fun a hs => ?_
        refine h_t hs 9 rfl (by kernel_rfl) ⟨_, rfl, rfl⟩ rfl rfl hC (fun w hC => y_move rfl) fun a hs => ?_
        refine h_t hs 10 rfl (by kernel_rfl) ⟨_, rfl, rfl⟩ rfl rfl hC (fun w hC => y_indexAt Try.runUnderlying25 Try.sizeOf34 rfl rfl h1733.1 h1733.2 h1734) fun a hs => ?_
        refine h_t hs 11 rfl (by kernel_rfl) ⟨_, rfl, rfl⟩ rfl rfl hC (fun w hC => y_fieldAddr (o' := q1736 + 0) Try.runUnderlying34 rfl Try.sizeOf3 rfl rfl rfl) fun a hs => ?_
        refine h_t hs 12 rfl (by kernel_rfl) ⟨_, rfl, rfl⟩ rfl rfl hC (fun w hC => y_loadQ1 (j := 0) (hC.ownAt 1 rfl) rfl Try.isAgg3 h1738 rfl) fun a hs => ?_
        refine h_t hs 13 rfl (by kernel_rfl) ⟨_, rfl, rfl⟩ rfl rfl hC (fun w hC => y_move rfl) fun a hs => ?_
        refine h_t hs 14 rfl (by kernel_rfl) ⟨_, rfl, rfl⟩ rfl rfl hC (fun w hC => y_move rfl) fun a hs => ?_
        refine h_t hs 15 rfl (by kernel_rfl) ⟨_, rfl, rfl⟩ rfl rfl hC (fun w hC => y_indexAt Try.runUnderlying25 Try.sizeOf34 rfl rfl h1742.1 h1742.2 h1743) fun a hs => ?_
        refine h_t hs 16 rfl (by kernel_rfl) ⟨_, rfl, rfl⟩ rfl rfl hC (fun w hC => y_fieldAddr (o' := q1745 + 1) Try.runUnderlying34 rfl Try.sizeOf3 rfl rfl rfl) fun a hs => ?_
        refine h_t hs 17 rfl (by kernel_rfl) ⟨_, rfl, rfl⟩ rfl rfl hC (fun w hC => y_loadQ1 (j := 1) (hC.ownAt 0 rfl) rfl Try.isAgg3 h1747 rfl) fun a hs => ?_
        refine h_t hs 18 rfl (by kernel_rfl) ⟨_, rfl, rfl⟩ rfl rfl hC (fun w hC => y_geq rfl rfl) fun a hs => ?_
        refine h_g hs 19 rfl (by kernel_rfl) rfl rfl hC rfl (fun w hC => y_pickFE (v := .bool c1725) rfl rfl (vbs h1729)) fun a hs => ?_
        refine h_done (by kernel_rfl) ?_
        exact ⟨Sv1514, (hs.wk rfl), (hw.ft [0, 1, 2] [0, 1, 2] (by decide) rfl rfl)⟩
      ·rintro a w ⟨Sv1726, hs, hw⟩
       refine then_normal ?_
       refine wp_cond_split (hs.ev rfl) (fun h1749 => ?_) (fun h1749 => ?_)
       ·have hsh := ite_t hsh h1749
        refine wp_exit ?_
        refine then_exit ?_
        refine blk_exit ?_
        refine then_normal ?_
        exact ⟨sv1336.1, sv1336.2.1, c1511, p1512, k1513, Sv1726, hsh, (hs.wk rfl), (hw.ft [0, 1, 2] [0, 1, 2] (by decide) rfl rfl)⟩
       ·have hsh := ite_f hsh h1749
        refine wp_skip ?_
        refine then_normal ?_
        refine wp_seq ?_
        refine wp_seq ?_
        refine wp_region_lit ?_
        refine st_val hs (y_move rfl) trivial rfl rfl fun a hs => ?_
        refine st_val hs (y_move rfl) trivial rfl rfl fun a hs => ?_
        obtain ⟨x1752, h1750, hsh⟩ := bind_t hsh
        obtain ⟨q1756, c1757, h1753, h1754, h1758, h1751⟩ := hw.elemRK (α := Span) 1 rfl 1 rfl h1750
        obtain ⟨_, _, rfl, rfl, rfl⟩ := h1751
        refine st_val hs (y_indexAt Try.runUnderlying25 Try.sizeOf34 rfl rfl h1753.1 h1753.2 h1754) trivial rfl rfl fun a hs => ?_
        refine st_val hs (y_fieldAddr (o' := q1756 + 0) Try.runUnderlying34 rfl Try.sizeOf3 rfl rfl rfl) trivial rfl rfl fun a hs => ?_
        refine st_val hs (y_loadQ1 (j := 0) (hw.ownAt 1 rfl) rfl Try.isAgg3 h1758 rfl) trivial rfl rfl fun a hs => ?_
        refine st_val hs (y_move rfl) trivial rfl rfl fun a hs => ?_
        refine st_val hs (y_gtr rfl rfl) trivial rfl rfl fun a hs => ?_
        refine wpList_nil ?_
        refine then_normal ?_
        refine wp_join (fun a w => ∃ (out1780 : (List Span)) (c1776 : List Value) (p1777 : Option Addr) (k1778 : Nat) (Sv1779 : Nat → Prop), ref08_Minus_j2 rv21 sv1336 out1780 = some tv1601 ∧ Sl 94 [(5, .slice (some ⟨b1332, 0, none⟩) rv10.length k12), (6, .slice (some ⟨b1703, 0, none⟩) rv21.length k23), (7, .slice p1777 out1780.length k1778), (8, .int .i64 sv31.2), (9, .int .i64 sv1336.2.1), (10, .int .i64 sv1336.2.2)] a ∧ Wd ⟨w0, S0, []⟩ Sv1779 [.row (some ⟨b1332, 0, none⟩) rv10.length k12 c14 34 2, .row (some ⟨b1703, 0, none⟩) rv21.length k23 c25 34 2, .row p1777 out1780.length k1778 c1776 34 2] [RowA c14 rv10, RowA c25 rv21, RowA c1776 out1780] w) ?_ ?_
        ·refine wp_cond_split (hs.ev rfl) (fun h1792 => ?_) (fun h1792 => ?_)
         ·have hsh := ite_t hsh h1792
          refine wp_region_lit ?_
          refine st_val hs (y_move rfl) trivial rfl rfl fun a hs => ?_
          refine st_val hs (y_move rfl) trivial rfl rfl fun a hs => ?_
          refine st_val hs (y_move rfl) trivial rfl rfl fun a hs => ?_
          refine st_val hs (y_move rfl) trivial rfl rfl fun a hs => ?_
          obtain ⟨x1795, h1793, hsh⟩ := bind_t hsh
          obtain ⟨q1799, c1800, h1796, h1797, h1801, h1794⟩ := hw.elemRK (α := Span) 1 rfl 1 rfl h1793
          obtain ⟨_, _, rfl, rfl, rfl⟩ := h1794
          refine st_val hs (y_indexAt Try.runUnderlying25 Try.sizeOf34 rfl rfl h1796.1 h1796.2 h1797) trivial rfl rfl fun a hs => ?_
          refine st_val hs (y_fieldAddr (o' := q1799 + 0) Try.runUnderlying34 rfl Try.sizeOf3 rfl rfl rfl) trivial rfl rfl fun a hs => ?_
          refine st_val hs (y_loadQ1 (j := 0) (hw.ownAt 1 rfl) rfl Try.isAgg3 h1801 rfl) trivial rfl rfl fun a hs => ?_
          refine st_val hs (y_build (vs := [(0, .int .i64 sv1336.2.1), (1, .int .i64 x1795.From)]) Bld34 rfl rfl) trivial rfl rfl fun a hs => ?_
          refine w_litSlice (α := Span) (vs := [.agg #[.int .i64 sv1336.2.1, .int .i64 x1795.From]]) (cs := [.int .i64 sv1336.2.1, .int .i64 x1795.From]) (xs := ([(⟨sv1336.2.1, x1795.From⟩ : Span)] : List Span)) hs hw El25 rfl rfl rfl rfl rfl rfl ⟨⟨_, _, rfl, rfl, rfl⟩, rfl⟩ rfl trivial rfl fun b1803 a w hs hw => ?_
          obtain ⟨l1805, h1804, hsh⟩ := bind_t hsh
          refine w_appendR (α := Span) hs hw El25 3 rfl rfl rfl 3 rfl 0 rfl 0 rfl h1804 rfl trivial ?_
          intro p1806 k1807 c1808 a w hs hw
          refine st_val hs (y_assign rfl) trivial rfl rfl fun a hs => ?_
          refine wpList_nil ?_
          refine then_normal ?_
          exact ⟨l1805, c1808, p1806, k1807, Sv1726, hsh, (hs.wk rfl), (hw.ft [1, 2, 3] [2, 3, 0] (by decide) rfl rfl)⟩
         ·have hsh := ite_f hsh h1792
          refine wp_skip ?_
          refine then_normal ?_
          exact ⟨sv1336.1, c1511, p1512, k1513, Sv1726, hsh, (hs.wk rfl), (hw.ft [0, 1, 2] [0, 1, 2] (by decide) rfl rfl)⟩
        ·rintro a w ⟨out1780, c1776, p1777, k1778, Sv1779, hsh, hs, hw⟩
         delta ref08_Minus_j2 at hsh
         refine then_normal ?_
         refine wp_region_lit ?_
         refine st_val hs (y_move rfl) trivial rfl rfl fun a hs => ?_
         refine st_val hs (y_move rfl) trivial rfl rfl fun a hs => ?_
         refine st_val hs (y_move rfl) trivial rfl rfl fun a hs => ?_
         obtain ⟨x1783, h1781, hsh⟩ := bind_t hsh
         obtain ⟨q1787, c1788, h1784, h1785, h1789, h1782⟩ := hw.elemRK (α := Span) 1 rfl 1 rfl h1781
         obtain ⟨_, _, rfl, rfl, rfl⟩ := h1782
         refine st_val hs (y_indexAt Try.runUnderlying25 Try.sizeOf34 rfl rfl h1784.1 h1784.2 h1785) trivial rfl rfl fun a hs => ?_
         refine st_val hs (y_fieldAddr (o' := q1787 + 1) Try.runUnderlying34 rfl Try.sizeOf3 rfl rfl rfl) trivial rfl rfl fun a hs => ?_
         refine st_val hs (y_loadQ1 (j := 1) (hw.ownAt 1 rfl) rfl Try.isAgg3 h1789 rfl) trivial rfl rfl fun a hs => ?_
         refine st_val hs (y_max rfl rfl) trivial rfl rfl fun a hs => ?_
         obtain ⟨fromv1791, h1790, hsh⟩ := bind_t hsh
         refine st_val hs (y_assignI rfl h1790) trivial rfl rfl fun a hs => ?_
         refine wpList_nil ?_
         refine blk_normal ?_
         refine then_normal ?_
         exact ⟨out1780, fromv1791, c1776, p1777, k1778, Sv1779, hsh, (hs.wk rfl), (hw.ft [0, 1, 2] [0, 1, 2] (by decide) rfl rfl)⟩
     ·rintro a w ⟨out1690, fromv1691, c1686, p1687, k1688, Sv1689, hsh, hs, hw⟩
      delta ref08_Minus_j1 at hsh
      refine then_normal ?_
      refine wp_region_lit ?_
      refine st_val hs (y_move rfl) trivial rfl rfl fun a hs => ?_
      refine st_val hs (y_add rfl rfl) trivial rfl rfl fun a hs => ?_
      obtain ⟨k1693, h1692, hsh⟩ := bind_t hsh
      refine st_val hs (y_assignI rfl h1692) trivial rfl rfl fun a hs => ?_
      refine wpList_nil ?_
      refine then_normal ?_
      exact ⟨_, (Option.some.inj hsh).symm, c1686, p1687, k1688, Sv1689, (hs.wk rfl), (hw.ft [0, 1, 2] [0, 1, 2] (by decide) rfl rfl)⟩
    ·have hsh := ite_f hsh h1609
     refine wp_exit ?_
     refine then_exit ?_
     refine then_exit ?_
     refine blk_exit ?_
     have hsh := Option.some.inj hsh
     subst hsh
     have h1809 := hd1600 _ rfl
     subst h1809
     refine then_normal ?_
     exact ⟨c1511, p1512, k1513, Sv1514, (hs.wk rfl), (hw.ft [0, 1, 2] [0, 1, 2] (by decide) rfl rfl)⟩
   ·rintro a w ⟨c1604, p1605, k1606, Sv1607, hs, hw⟩
    refine then_normal ?_
    refine wp_seq ?_
    refine wp_region_lit ?_
    refine st_val hs (y_move rfl) trivial rfl rfl fun a hs => ?_
    refine st_val hs (y_move rfl) trivial rfl rfl fun a hs => ?_
    refine st_val hs (y_move rfl) trivial rfl rfl fun a hs => ?_
    obtain ⟨x1812, h1810, hsh⟩ := bind_t hsh
    obtain ⟨q1816, c1817, h1813, h1814, h1818, h1811⟩ := hw.elemRK (α := Span) 0 rfl 0 rfl h1810
    obtain ⟨_, _, rfl, rfl, rfl⟩ := h1811
    refine st_val hs (y_indexAt Try.runUnderlying25 Try.sizeOf34 rfl rfl h1813.1 h1813.2 h1814) trivial rfl rfl fun a hs => ?_
    refine st_val hs (y_fieldAddr (o' := q1816 + 1) Try.runUnderlying34 rfl Try.sizeOf3 rfl rfl rfl) trivial rfl rfl fun a hs => ?_
    refine st_val hs (y_loadQ1 (j := 1) (hw.ownAt 0 rfl) rfl Try.isAgg3 h1818 rfl) trivial rfl rfl fun a hs => ?_
    refine st_val hs (y_lss rfl rfl) trivial rfl rfl fun a hs => ?_
    refine wpList_nil ?_
    refine then_normal ?_
    refine wp_join (fun a w => ∃ (out1840 : (List Span)) (c1836 : List Value) (p1837 : Option Addr) (k1838 : Nat) (Sv1839 : Nat → Prop), ref08_Minus_j4 sv31 out1840 = some tv998 ∧ Sl 94 [(5, .slice (some ⟨b1332, 0, none⟩) rv10.length k12), (6, .slice p22 rv21.length k23), (7, .slice p1837 out1840.length k1838), (8, .int .i64 sv31.2)] a ∧ Wd ⟨w0, S0, []⟩ Sv1839 [.row (some ⟨b1332, 0, none⟩) rv10.length k12 c14 34 2, .row p22 rv21.length k23 c25 34 2, .row p1837 out1840.length k1838 c1836 34 2] [RowA c14 rv10, RowA c25 rv21, RowA c1836 out1840] w) ?_ ?_
    ·refine wp_cond_split (hs.ev rfl) (fun h1843 => ?_) (fun h1843 => ?_)
     ·have hsh := ite_t hsh h1843
      refine wp_region_lit ?_
      refine st_val hs (y_move rfl) trivial rfl rfl fun a hs => ?_
      refine st_val hs (y_move rfl) trivial rfl rfl fun a hs => ?_
      refine st_val hs (y_move rfl) trivial rfl rfl fun a hs => ?_
      refine st_val hs (y_move rfl) trivial rfl rfl fun a hs => ?_
      obtain ⟨x1846, h1844, hsh⟩ := bind_t hsh
      obtain ⟨q1850, c1851, h1847, h1848, h1852, h1845⟩ := hw.elemRK (α := Span) 0 rfl 0 rfl h1844
      obtain ⟨_, _, rfl, rfl, rfl⟩ := h1845
      refine st_val hs (y_indexAt Try.runUnderlying25 Try.sizeOf34 rfl rfl h1847.1 h1847.2 h1848) trivial rfl rfl fun a hs => ?_
      refine st_val hs (y_fieldAddr (o' := q1850 + 1) Try.runUnderlying34 rfl Try.sizeOf3 rfl rfl rfl) trivial rfl rfl fun a hs => ?_
      refine st_val hs (y_loadQ1 (j := 1) (hw.ownAt 0 rfl) rfl Try.isAgg3 h1852 rfl) trivial rfl rfl fun a hs => ?_
      refine st_val hs (y_build (vs := [(0, .int .i64 e1603.2), (1, .int .i64 x1846.To)]) Bld34 rfl rfl) trivial rfl rfl fun a hs => ?_
      refine w_litSlice (α := Span) (vs := [.agg #[.int .i64 e1603.2, .int .i64 x1846.To]]) (cs := [.int .i64 e1603.2, .int .i64 x1846.To]) (xs := ([(⟨e1603.2, x1846.To⟩ : Span)] : List Span)) hs hw El25 rfl rfl rfl rfl rfl rfl ⟨⟨_, _, rfl, rfl, rfl⟩, rfl⟩ rfl trivial rfl fun b1854 a w hs hw => ?_
      obtain ⟨l1856, h1855, hsh⟩ := bind_t hsh
      refine w_appendR (α := Span) hs hw El25 3 rfl rfl rfl 3 rfl 0 rfl 0 rfl h1855 rfl trivial ?_
      intro p1857 k1858 c1859 a w hs hw
      refine st_val hs (y_assign rfl) trivial rfl rfl fun a hs => ?_
      refine wpList_nil ?_
      refine then_normal ?_
      exact ⟨l1856, c1859, p1857, k1858, Sv1607, hsh, (hs.wk rfl), (hw.ft [1, 2, 3] [2, 3, 0] (by decide) rfl rfl)⟩
     ·have hsh := ite_f hsh h1843
      refine wp_skip ?_
      refine then_normal ?_
      exact ⟨e1603.1, c1604, p1605, k1606, Sv1607, hsh, (hs.wk rfl), (hw.ft [0, 1, 2] [0, 1, 2] (by decide) rfl rfl)⟩
    ·rintro a w ⟨out1840, c1836, p1837, k1838, Sv1839, hsh, hs, hw⟩
     delta ref08_Minus_j4 at hsh
     refine blk_normal ?_
     refine then_normal ?_
     refine wp_region_lit ?_
     refine st_val hs (y_move rfl) trivial rfl rfl fun a hs => ?_
     refine st_val hs (y_add rfl rfl) trivial rfl rfl fun a hs => ?_
     obtain ⟨i1842, h1841, hsh⟩ := bind_t hsh
     refine st_val hs (y_assignI rfl h1841) trivial rfl rfl fun a hs => ?_
     refine wpList_nil ?_
     refine then_normal ?_
     exact ⟨_, (Option.some.inj hsh).symm, c1836, p1837, k1838, Sv1839, (hs.wk rfl), (hw.ft [0, 1, 2] [0, 1, 2] (by decide) rfl rfl)⟩
  ·have hsh := ite_f hsh h1006
   refine wp_exit ?_
   refine then_exit ?_
   refine then_exit ?_
   refine blk_exit ?_
   have hsh := Option.some.inj hsh
   subst hsh
   have h1861 := hd997 _ rfl
   subst h1861
   refine then_normal ?_
   exact ⟨c674, p675, k676, Sv677, (hs.wk rfl), (hw.ft [2] [2] (by decide) rfl rfl)⟩
 ·rintro a w ⟨c1001, p1002, k1003, Sv1004, hs, hw⟩
  refine then_normal ?_
  refine wp_seq ?_
  refine wp_region_lit ?_
  refine st_val hs (y_move rfl) trivial rfl rfl fun a hs => ?_
  refine st_val hs (y_assign rfl) trivial rfl rfl fun a hs => ?_
  refine wpList_nil ?_
  refine then_normal ?_
  have hsh := Option.some.inj hsh
  subst hsh
  refine wp_ret ?_
  exact ret1 hs rfl (rv_tmp rfl) (hw.ret ⟨p1002, k1003, c1001, rfl, (hw.outs [0] (by decide) rfl), (hw.envAt 0 rfl)⟩)

end Go.Proofs.Ytmdnhgjpkdainaa.Wk

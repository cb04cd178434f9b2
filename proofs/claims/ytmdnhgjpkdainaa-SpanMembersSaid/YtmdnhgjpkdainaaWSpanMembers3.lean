/- The walks of SpanMembers, part 3: each Go function computes what its plain program computes. Printed by a program of ours. -/
import Derived.Test.YtmdnhgjpkdainaaProg
import Derived.Test.YtmdnhgjpkdainaaDat
import Derived.Test.YtmdnhgjpkdainaaSh
import Derived.Test.YtmdnhgjpkdainaaLibL
import Derived.KernelRfl
import Derived.Test.YtmdnhgjpkdainaaWSpanMembers2
namespace Go.Proofs.Ytmdnhgjpkdainaa.Wk
open Go Go.RowKit Go.Proofs Go.Proofs.Ytmdnhgjpkdainaa.Sh
set_option linter.unusedVariables false
set_option linter.unusedSimpArgs false

abbrev span_Normal_rd (w0 : World) (X : List Nat) (r : (List Span)) : (Nat → Prop) → World → Value → Prop := fun S w v => ∃ (p0_0 : Option Addr) (k0_0 : Nat) (c0_0 : List Value), v = .slice p0_0 r.length k0_0 ∧ Outs X w0 S w [.row p0_0 r.length k0_0 c0_0 34 2] ∧ (RowA c0_0 r).p S w
set_option maxHeartbeats 4000000 in
set_option maxRecDepth 100000 in
theorem span_Normal_ok {w0 : World} {S0 : Nat → Prop} {p2 : Option Addr} {k3 : Nat} {l1 : (List Span)} {r : (List Span)} (hsh : span_Normal l1 = some r) (hS : ∀ b, S0 b → b < w0.heap.size) (h4 : (SlA p2 l1.length k3 l1).p S0 w0) : Calls Try.prog 16 #[.slice p2 l1.length k3] w0 (Ret ([]) w0 S0 (span_Normal_rd w0 ([]) r)) := by
 refine calls_of_wp Try.func16 rfl ?_
 have hs := Sl.enter #[.slice p2 l1.length k3] 54 [(0, .slice p2 l1.length k3)] rfl ⟨rfl, trivial⟩
 have hw := Wd.enter (E := []) hS (fun _ h => (by cases h))
 have hw := hw.addE h4
 delta span_Normal at hsh
 refine wp_seq ?_
 refine wp_region_lit ?_
 refine st_val hs (y_assign rfl) trivial rfl rfl fun a hs => ?_
 refine wpList_nil ?_
 refine then_normal ?_
 refine wp_seq ?_
 refine wp_region_lit ?_
 refine st_val hs (y_move rfl) trivial rfl rfl fun a hs => ?_
 obtain ⟨rv6, h5, hsh⟩ := bind_t hsh
 refine st_callR hs (slices_Clone_Lapi_Span_api_Span_ok h5 hw.dom (hw.envAt 0 rfl)) (do_call Try.call35 rfl) trivial rfl rfl ?_
 intro v14 Sv11 w a h12 h13 hs
 obtain ⟨p7, k8, c10, rfl, h15, h9⟩ := h13
 have hw := hw.callN h12 h15
 have hw := hw.addE (e := RowA c10 rv6) h9
 obtain ⟨rv17, h16, hsh⟩ := bind_t hsh
 refine st_callR hs (slices_DeleteFunc_Lapi_Span_api_Span_ok h16 hw.dom (hw.ins [0] (by decide) rfl) (hw.envAt 0 rfl) (span_Normal_fn1_fn _ _)) (do_call Try.call34 rfl) trivial rfl rfl ?_
 intro v25 Sv22 w a h23 h24 hs
 obtain ⟨p18, k19, c21, rfl, h26, h20⟩ := h24
 have hw := hw.callO [0] [] (by decide) rfl h23 h26
 have hw := hw.addE (e := RowA c21 rv17) h20
 refine st_val hs (y_assign rfl) trivial rfl rfl fun a hs => ?_
 refine wpList_nil ?_
 refine then_normal ?_
 refine wp_seq ?_
 refine wp_region_lit ?_
 refine st_val hs (y_move rfl) trivial rfl rfl fun a hs => ?_
 obtain ⟨rv28, h27, hsh⟩ := bind_t hsh
 refine st_callR hs (slices_SortFunc_Lapi_Span_api_Span_ok h27 hw.dom (hw.ins [0] (by decide) rfl) (hw.envAt 0 rfl) (span_Normal_fn2_fn _ _)) (do_call Try.call38 rfl) trivial rfl rfl ?_
 intro v35 Sv32 w a h33 h34 hs
 obtain ⟨c29, rfl, h36, h30, h31⟩ := h34
 have hw := hw.callO [0] [] (by decide) rfl h33 h36
 have hw := hw.addE (e := RowA c29 rv28) h30
 have h37 := h31
 have h38 := Eq.symm h37
 try have hs := hs.fix 3 (.slice p18 rv28.length k19) rfl (by rw [h38])
 try have hs := hs.fix 11 (.slice p18 rv28.length k19) rfl (by rw [h38])
 refine wpList_nil ?_
 refine then_normal ?_
 refine wp_seq ?_
 refine wp_region_lit ?_
 refine st_val hs (y_assign rfl) trivial rfl rfl fun a hs => ?_
 refine wpList_nil ?_
 refine then_normal ?_
 refine wp_seq ?_
 refine wp_seq ?_
 refine wp_region_lit ?_
 refine st_val hs (y_move rfl) trivial rfl rfl fun a hs => ?_
 refine st_val hs (y_len Try.runUnderlying25 rfl) trivial rfl rfl fun a hs => ?_
 refine st_val hs (y_move rfl) trivial rfl rfl fun a hs => ?_
 refine wpList_nil ?_
 refine then_normal ?_
 obtain ⟨e261, h462, hsh⟩ := bind_t hsh
 refine wp_join (fun a w => ∃ (c262 : List Value) (p263 : Option Addr) (k264 : Nat) (Sv265 : Nat → Prop), Sl 54 [(4, .slice p263 e261.length k264)] a ∧ Wd ⟨w0, S0, []⟩ Sv265 [.row p263 e261.length k264 c262 34 2] [RowA c262 e261] w) ?_ ?_
 ·refine wp_block ?_
  have hw := hw.nilRow Span 34
  refine wp_while (fun sv39 a w => ∃ (c182 : List Value) (p183 : Option Addr) (k184 : Nat) (Sv185 : Nat → Prop), Sl 54 [(4, .slice p183 sv39.1.length k184), (13, .slice p18 rv28.length k19), (14, .int .i64 (rv28.length : Int)), (15, .int .i64 sv39.2)] a ∧ Wd ⟨w0, S0, []⟩ Sv185 [.row p183 sv39.1.length k184 c182 34 2, .row p18 rv28.length k19 c29 34 2] [RowA c182 sv39.1, RowA c29 rv28] w) (([] : List Span), 0) h462 ⟨[], none, 0, Sv32, (hs.wk rfl), (hw.ft [0, 1] [0, 1] (by decide) rfl rfl)⟩ ?_
  clear h462
  repeat clear hsh
  rintro sv39 a w tv259 ⟨c182, p183, k184, Sv185, hs, hw⟩ hsh hd258
  delta span_Normal_l1 at hsh
  refine wp_seq ?_
  refine wp_region_lit ?_
  refine st_val hs (y_lss rfl rfl) trivial rfl rfl fun a hs => ?_
  refine wpList_nil ?_
  refine then_normal ?_
  refine wp_seq ?_
  refine wp_cond_split (hs.ev rfl) (fun h267 => ?_) (fun h267 => ?_)
  ·have hsh := ite_t hsh h267
   refine wp_skip ?_
   refine then_normal ?_
   refine wp_seq ?_
   refine wp_block ?_
   refine wp_seq ?_
   refine wp_region_lit ?_
   obtain ⟨x341, h339, hsh⟩ := bind_t hsh
   obtain ⟨b348, q345, c346, h349, h342, h343, h347, h340⟩ := hw.elemRV (α := Span) 1 rfl 1 rfl h339
   have hsv350 := hs
   have hwv351 := hw
   subst h349
   have hs := hsv350
   have hw := hwv351
   obtain ⟨_, _, rfl, rfl, rfl⟩ := h340
   refine st_val hs (y_indexAt Try.runUnderlying25 Try.sizeOf34 rfl rfl h342.1 h342.2 h343) trivial rfl rfl fun a hs => ?_
   refine st_val hs (y_loadQA (j := 0) (hw.ownAt 1 rfl) rfl Try.isAgg34 Try.sizeOf34 h347 rfl rfl) trivial rfl rfl fun a hs => ?_
   refine w_alloc (cs := [.int .i64 0, .int .i64 0]) hs hw Try.zeroValue34 rfl rfl trivial ?_
   intro b352 a w hs hw
   refine w_store (m := 2) (cs' := [.int .i64 x341.From, .int .i64 x341.To]) hs hw 0 rfl rfl rfl Try.sizeOf34 rfl rfl rfl rfl trivial ?_
   intro a w hs hw
   refine wpList_nil ?_
   refine then_normal ?_
   refine wp_seq ?_
   refine wp_region_lit ?_
   refine st_val hs (y_move rfl) trivial rfl rfl fun a hs => ?_
   refine st_val hs (y_len Try.runUnderlying25 rfl) trivial rfl rfl fun a hs => ?_
   obtain ⟨n354, h353, hsh⟩ := bind_t hsh
   refine st_val hs (y_assignI rfl h353) trivial rfl rfl fun a hs => ?_
   refine wpList_nil ?_
   refine then_normal ?_
   refine wp_seq ?_
   obtain ⟨c368, hc368, hsh⟩ := bind_t hsh
   refine wp_only (fun a w => ∃ (Sv369 : Nat → Prop), Sl 54 [(4, .slice p183 sv39.1.length k184), (6, .pointer (some ⟨b352, 0, none⟩)), (7, .int .i64 n354), (13, .slice (some ⟨b348, 0, none⟩) rv28.length k19), (14, .int .i64 (rv28.length : Int)), (15, .int .i64 sv39.2), (33, .bool c368)] a ∧ Wd ⟨w0, S0, []⟩ Sv369 [.box b352 [.int .i64 x341.From, .int .i64 x341.To] 34, .row p183 sv39.1.length k184 c182 34 2, .row (some ⟨b348, 0, none⟩) rv28.length k19 c29 34 2] [RowA c182 sv39.1, RowA c29 rv28] w) ?_ ?_
   ·rcases Bool.eq_false_or_eq_true (decide (0 < n354)) with h370 | h370
    ·have h371 := ite_t hc368 h370
     obtain ⟨x374, h372, h371⟩ := bind_t h371
     obtain ⟨b381, q378, c379, h382, h375, h376, h380, h373⟩ := hw.elemRV (α := Span) 1 rfl 0 rfl h372
     have hsv383 := hs
     have hwv384 := hw
     subst h382
     have hs := hsv383
     have hw := hwv384
     obtain ⟨_, _, rfl, rfl, rfl⟩ := h373
     refine h_b (C := Cls [.box b352 [.int .i64 x341.From, .int .i64 x341.To] 34, .row (some ⟨b381, 0, none⟩) sv39.1.length k184 c182 34 2, .row (some ⟨b348, 0, none⟩) rv28.length k19 c29 34 2] []) (by kernel_rfl) rfl (hw.drew.cs [0, 1, 2] [] rfl rfl) fun hC => ?_
     have hw := hw.drew
     refine h_g hs 0 rfl (by kernel_rfl) rfl rfl hC rfl (fun w hC => y_move rfl) fun a hs => ?_
     refine h_g hs 1 rfl (by kernel_rfl) rfl rfl hC rfl (fun w hC => y_gtr rfl rfl) fun a hs => ?_
     refine h_g hs 2 rfl (by kernel_rfl) rfl rfl hC rfl (fun w hC => y_move rfl) fun a hs => ?_
     have hs := hs.fix 23 (.bool true) rfl (vb h370)
     refine h_t hs 3 rfl (by kernel_rfl) ⟨_, rfl, rfl⟩ rfl rfl hC (fun w hC => y_fieldAddr (o' := 0) Try.runUnderlying34 rfl Try.sizeOf3 rfl rfl rfl) fun a hs => ?_
     refine h_t hs 4 rfl (by kernel_rfl) ⟨_, rfl, rfl⟩ rfl rfl hC (fun w hC => y_loadB1 (hC.ownAt 0 rfl) rfl Try.isAgg3 rfl) fun a hs => ?_
     refine h_t hs 5 rfl (by kernel_rfl) ⟨_, rfl, rfl⟩ rfl rfl hC (fun w hC => y_move rfl) fun a hs => ?_
     refine h_t hs 6 rfl (by kernel_rfl) ⟨_, rfl, rfl⟩ rfl rfl hC (fun w hC => y_move rfl) fun a hs => ?_
     refine h_t hs 7 rfl (by kernel_rfl) ⟨_, rfl, rfl⟩ rfl rfl hC (fun w hC => y_sub rfl rfl) fun a hs => ?_
     refine h_t hs 8 rfl (by kernel_rfl) ⟨_, rfl, rfl⟩ rfl rfl hC (fun w hC => y_indexAt Try.runUnderlying25 Try.sizeOf34 rfl rfl h375.1 h375.2 h376) fun a hs => ?_
     refine h_t hs 9 rfl (by kernel_rfl) ⟨_, rfl, rfl⟩ rfl rfl hC (fun w hC => y_fieldAddr (o' := q378 + 1) Try.runUnderlying34 rfl Try.sizeOf3 rfl rfl rfl) fun a hs => ?_
     refine h_t hs 10 rfl (by kernel_rfl) ⟨_, rfl, rfl⟩ rfl rfl hC (fun w hC => y_loadQ1 (j := 1) (hC.ownAt 1 rfl) rfl Try.isAgg3 h380 rfl) fun a hs => ?_
     refine h_t hs 11 rfl (by kernel_rfl) ⟨_, rfl, rfl⟩ rfl rfl hC (fun w hC => y_leq rfl rfl) fun a hs => ?_
     refine h_g hs 12 rfl (by kernel_rfl) rfl rfl hC rfl (fun w hC => y_pickTE (v := .bool c368) rfl rfl (vbs h371)) fun a hs => ?_
     refine h_done (by kernel_rfl) ?_
     exact ⟨Sv185, (hs.wk rfl), (hw.ft [0, 1, 2] [0, 1] (by decide) rfl rfl)⟩
    ·have h385 := ite_f hc368 h370
     refine h_b (C := Cls [.box b352 [.int .i64 x341.From, .int .i64 x341.To] 34, .row p183 sv39.1.length k184 c182 34 2, .row (some ⟨b348, 0, none⟩) rv28.length k19 c29 34 2] []) (by kernel_rfl) rfl (hw.drew.cs [0, 1, 2] [] rfl rfl) fun hC => ?_
     have hw := hw.drew
     refine h_g hs 0 rfl (by kernel_rfl) rfl rfl hC rfl (fun w hC => y_move rfl) fun a hs => ?_
     refine h_g hs 1 rfl (by kernel_rfl) rfl rfl hC rfl (fun w hC => y_gtr rfl rfl) fun a hs => ?_
     refine h_g hs 2 rfl (by kernel_rfl) rfl rfl hC rfl (fun w hC => y_move rfl) fun a hs => ?_
     have hs := hs.fix 23 (.bool false) rfl (vb h370)
     refine h_s hs 3 rfl (by kernel_rfl) rfl rfl rfl (.inl rfl) rfl rfl hC fun a hs => ?_
     refine h_s hs 4 rfl (by kernel_rfl) rfl rfl rfl (.inl rfl) rfl rfl hC fun a hs => ?_
     refine h_s hs 5 rfl (by kernel_rfl) rfl rfl rfl (.inl rfl) rfl rfl hC fun a hs => ?_
     refine h_s hs 6 rfl (by kernel_rfl) rfl rfl rfl (.inl rfl) rfl rfl hC fun a hs => ?_
     refine h_s hs 7 rfl (by kernel_rfl) rfl rfl rfl (.inl rfl) rfl rfl hC fun a hs => ?_
     refine h_s hs 8 rfl (by kernel_rfl) rfl rfl rfl (.inl rfl) rfl rfl hC fun a hs => ?_
     refine h_s hs 9 rfl (by kernel_rfl) rfl rfl rfl (.inl rfl) rfl rfl hC fun a hs => ?_
     refine h_s hs 10 rfl (by kernel_rfl) rfl rfl rfl (.inl rfl) rfl rfl hC fun a hs => ?_
     refine h_s hs 11 rfl (by kernel_rfl) rfl rfl rfl (.inl rfl) rfl rfl hC fun a hs => ?_
     refine h_g hs 12 rfl (by kernel_rfl) rfl rfl hC rfl (fun w hC => y_pickFE (v := .bool c368) rfl rfl (vbs h385)) fun a hs => ?_
     refine h_done (by kernel_rfl) ?_
     exact ⟨Sv185, (hs.wk rfl), (hw.ft [0, 1, 2] [0, 1] (by decide) rfl rfl)⟩
   ·rintro a w ⟨Sv369, hs, hw⟩
    refine then_normal ?_
    refine wp_join (fun a w => ∃ (out425 : (List Span)) (c421 : List Value) (p422 : Option Addr) (k423 : Nat) (Sv424 : Nat → Prop), span_Normal_j1 sv39 out425 = some tv259 ∧ Sl 54 [(4, .slice p422 out425.length k423), (13, .slice (some ⟨b348, 0, none⟩) rv28.length k19), (14, .int .i64 (rv28.length : Int)), (15, .int .i64 sv39.2)] a ∧ Wd ⟨w0, S0, []⟩ Sv424 [.row p422 out425.length k423 c421 34 2, .row (some ⟨b348, 0, none⟩) rv28.length k19 c29 34 2] [RowA c421 out425, RowA c29 rv28] w) ?_ ?_
    ·refine wp_cond_split (hs.ev rfl) (fun h426 => ?_) (fun h426 => ?_)
     ·have hsh := ite_t hsh h426
      obtain ⟨x429, h427, hsh⟩ := bind_t hsh
      obtain ⟨b436, q433, c434, h437, h430, h431, h435, h428⟩ := hw.elemRV (α := Span) 1 rfl 0 rfl h427
      have hsv438 := hs
      have hwv439 := hw
      subst h437
      have hs := hsv438
      have hw := hwv439
      obtain ⟨_, _, rfl, rfl, rfl⟩ := h428
      obtain ⟨x442, h440, hsh⟩ := bind_t hsh
      obtain ⟨q446, c447, h443, h444, h448, h441⟩ := hw.elemRK (α := Span) 1 rfl 0 rfl h440
      obtain ⟨_, _, rfl, rfl, rfl⟩ := h441
      obtain ⟨l450, h449, hsh⟩ := bind_t hsh
      refine wp_only (fun a w => ∃ (Sv453 : Nat → Prop) (c451 : List Value), Sl 54 [(4, .slice (some ⟨b436, 0, none⟩) l450.length k184), (13, .slice (some ⟨b348, 0, none⟩) rv28.length k19), (14, .int .i64 (rv28.length : Int)), (15, .int .i64 sv39.2)] a ∧ Wd ⟨w0, S0, []⟩ Sv453 [.row (some ⟨b436, 0, none⟩) l450.length k184 c451 34 2, .row (some ⟨b348, 0, none⟩) rv28.length k19 c29 34 2] [RowA c451 l450, RowA c29 rv28] w) ?_ ?_
      ·refine h_b (C := Cls [.box b352 [.int .i64 x341.From, .int .i64 x341.To] 34, .row (some ⟨b348, 0, none⟩) rv28.length k19 c29 34 2] []) (by kernel_rfl) rfl (hw.drew.cs [0, 2] [] rfl rfl) fun hC => ?_
       have hw := hw.drew
       refine h_g hs 0 rfl (by kernel_rfl) rfl rfl hC rfl (fun w hC => y_move rfl) fun a hs => ?_
       refine h_g hs 1 rfl (by kernel_rfl) rfl rfl hC rfl (fun w hC => y_move rfl) fun a hs => ?_
       refine h_g hs 2 rfl (by kernel_rfl) rfl rfl hC rfl (fun w hC => y_sub rfl rfl) fun a hs => ?_
       refine h_g hs 3 rfl (by kernel_rfl) rfl rfl hC rfl (fun w hC => y_move rfl) fun a hs => ?_
       refine h_g hs 4 rfl (by kernel_rfl) rfl rfl hC rfl (fun w hC => y_move rfl) fun a hs => ?_
       refine h_g hs 5 rfl (by kernel_rfl) rfl rfl hC rfl (fun w hC => y_sub rfl rfl) fun a hs => ?_
       refine h_g hs 6 rfl (by kernel_rfl) rfl rfl hC rfl (fun w hC => y_indexAt Try.runUnderlying25 Try.sizeOf34 rfl rfl h430.1 h430.2 h431) fun a hs => ?_
       refine h_g hs 7 rfl (by kernel_rfl) rfl rfl hC rfl (fun w hC => y_fieldAddr (o' := q433 + 1) Try.runUnderlying34 rfl Try.sizeOf3 rfl rfl rfl) fun a hs => ?_
       refine h_g hs 9 rfl (by kernel_rfl) rfl rfl hC rfl (fun w hC => y_fieldAddr (o' := 1) Try.runUnderlying34 rfl Try.sizeOf3 rfl rfl rfl) fun a hs => ?_
       refine h_g hs 10 rfl (by kernel_rfl) rfl rfl hC rfl (fun w hC => y_loadB1 (hC.ownAt 0 rfl) rfl Try.isAgg3 rfl) fun a hs => ?_
       refine h_one (i := 8) (by kernel_rfl) rfl ?_
       refine st_val hs (y_loadQ1 (j := 1) (hw.ownAt 1 rfl) rfl Try.isAgg3 h435 rfl) trivial rfl rfl fun a hs => ?_
       refine h_nx (hw.cs [0, 2] [] rfl rfl) fun hC => ?_
       refine h_g hs 11 rfl (by kernel_rfl) rfl rfl hC rfl (fun w hC => y_max rfl rfl) fun a hs => ?_
       refine h_g hs 12 rfl (by kernel_rfl) rfl rfl hC rfl (fun w hC => y_indexAt Try.runUnderlying25 Try.sizeOf34 rfl rfl h443.1 h443.2 h444) fun a hs => ?_
       refine h_g hs 13 rfl (by kernel_rfl) rfl rfl hC rfl (fun w hC => y_fieldAddr (o' := q446 + 1) Try.runUnderlying34 rfl Try.sizeOf3 rfl rfl rfl) fun a hs => ?_
       refine h_one (i := 14) (by kernel_rfl) rfl ?_
       refine w_storeR (α := Span) (f := 1) (m := 1) hs hw 1 rfl 0 rfl h444 rfl rfl Try.sizeOf3 rfl rfl rfl h449 (fun es he => by rw [h448] at he; subst he; exact ⟨_, _, rfl, rfl, rfl⟩) trivial ?_
       intro c451 a w hs hw
       have h452 := setM_len h449
       try have hs := hs.fix 4 (.slice (some ⟨b436, 0, none⟩) l450.length k184) rfl (by rw [h452])
       try have hs := hs.fix 34 (.slice (some ⟨b436, 0, none⟩) l450.length k184) rfl (by rw [h452])
       try have hs := hs.fix 37 (.slice (some ⟨b436, 0, none⟩) l450.length k184) rfl (by rw [h452])
       refine h_nx (hw.cs [0, 2] [] rfl rfl) fun hC => ?_
       refine h_done (by kernel_rfl) ?_
       exact ⟨Sv369, c451, (hs.wk rfl), (hw.ft [1, 2] [0, 2] (by decide) rfl rfl)⟩
      ·rintro a w ⟨Sv453, c451, hs, hw⟩
       refine then_normal ?_
       exact ⟨l450, c451, (some ⟨b436, 0, none⟩), k184, Sv453, hsh, (hs.wk rfl), (hw.ft [0, 1] [0, 1] (by decide) rfl rfl)⟩
     ·have hsh := ite_f hsh h426
      refine wp_region_lit ?_
      refine st_val hs (y_move rfl) trivial rfl rfl fun a hs => ?_
      refine st_val hs (y_loadBA (hw.ownAt 0 rfl) rfl Try.isAgg34 Try.sizeOf34 rfl rfl) trivial rfl rfl fun a hs => ?_
      refine w_litSlice (α := Span) (vs := [.agg #[.int .i64 x341.From, .int .i64 x341.To]]) (cs := [.int .i64 x341.From, .int .i64 x341.To]) (xs := ([x341] : List Span)) hs hw El25 rfl rfl rfl rfl rfl rfl ⟨⟨_, _, rfl, rfl, rfl⟩, rfl⟩ rfl trivial rfl fun b455 a w hs hw => ?_
      obtain ⟨l457, h456, hsh⟩ := bind_t hsh
      refine w_appendR (α := Span) hs hw El25 2 rfl rfl rfl 1 rfl 0 rfl 0 rfl h456 rfl trivial ?_
      intro p458 k459 c460 a w hs hw
      refine st_val hs (y_assign rfl) trivial rfl rfl fun a hs => ?_
      refine wpList_nil ?_
      refine then_normal ?_
      exact ⟨l457, c460, p458, k459, Sv369, hsh, (hs.wk rfl), (hw.ft [2, 3] [0, 3] (by decide) rfl rfl)⟩
    ·rintro a w ⟨out425, c421, p422, k423, Sv424, hsh, hs, hw⟩
     delta span_Normal_j1 at hsh
     refine blk_normal ?_
     refine then_normal ?_
     refine wp_region_lit ?_
     refine st_val hs (y_add rfl rfl) trivial rfl rfl fun a hs => ?_
     refine st_val hs (y_move rfl) trivial rfl rfl fun a hs => ?_
     refine wpList_nil ?_
     refine then_normal ?_
     exact ⟨_, (Option.some.inj hsh).symm, c421, p422, k423, Sv424, (hs.wk rfl), (hw.ft [0, 1] [0, 1] (by decide) rfl rfl)⟩
  ·have hsh := ite_f hsh h267
   refine wp_exit ?_
   refine then_exit ?_
   refine then_exit ?_
   refine blk_exit ?_
   have hsh := Option.some.inj hsh
   subst hsh
   have h461 := hd258 _ rfl
   subst h461
   refine then_normal ?_
   exact ⟨c182, p183, k184, Sv185, (hs.wk rfl), (hw.ft [0] [0] (by decide) rfl rfl)⟩
 ·rintro a w ⟨c262, p263, k264, Sv265, hs, hw⟩
  refine then_normal ?_
  refine wp_seq ?_
  refine wp_region_lit ?_
  refine st_val hs (y_move rfl) trivial rfl rfl fun a hs => ?_
  refine st_val hs (y_assign rfl) trivial rfl rfl fun a hs => ?_
  refine wpList_nil ?_
  refine then_normal ?_
  have hsh := Option.some.inj hsh
  subst hsh
  refine wp_ret ?_
  exact ret1 hs rfl (rv_tmp rfl) (hw.ret ⟨p263, k264, c262, rfl, (hw.outs [0] (by decide) rfl), (hw.envAt 0 rfl)⟩)

abbrev ref08_Same_rd (w0 : World) (X : List Nat) (r : Bool) : (Nat → Prop) → World → Value → Prop := fun S w v => v = .bool r
set_option maxHeartbeats 4000000 in
set_option maxRecDepth 100000 in
theorem ref08_Same_ok {w0 : World} {S0 : Nat → Prop} {p2 : Option Addr} {k3 : Nat} {p6 : Option Addr} {k7 : Nat} {a1 : (List Span)} {b5 : (List Span)} {r : Bool} (hsh : ref08_Same a1 b5 = some r) (hS : ∀ b, S0 b → b < w0.heap.size) (h4 : (SlA p2 a1.length k3 a1).p S0 w0) (h8 : (SlA p6 b5.length k7 b5).p S0 w0) : Calls Try.prog 15 #[.slice p2 a1.length k3, .slice p6 b5.length k7] w0 (Ret ([]) w0 S0 (ref08_Same_rd w0 ([]) r)) := by
 refine calls_of_wp Try.func15 rfl ?_
 have hs := Sl.enter #[.slice p2 a1.length k3, .slice p6 b5.length k7] 26 [(0, .slice p2 a1.length k3), (1, .slice p6 b5.length k7)] rfl ⟨rfl, rfl, trivial⟩
 have hw := Wd.enter (E := []) hS (fun _ h => (by cases h))
 have hw := hw.addE h4
 have hw := hw.addE h8
 delta ref08_Same at hsh
 refine wp_seq ?_
 refine wp_region_lit ?_
 refine st_val hs (y_assign rfl) trivial rfl rfl fun a hs => ?_
 refine wpList_nil ?_
 refine then_normal ?_
 refine wp_seq ?_
 refine wp_seq ?_
 refine wp_region_lit ?_
 refine st_val hs (y_move rfl) trivial rfl rfl fun a hs => ?_
 refine st_val hs (y_len Try.runUnderlying25 rfl) trivial rfl rfl fun a hs => ?_
 refine st_val hs (y_move rfl) trivial rfl rfl fun a hs => ?_
 refine st_val hs (y_len Try.runUnderlying25 rfl) trivial rfl rfl fun a hs => ?_
 refine st_val hs (y_neq rfl rfl) trivial rfl rfl fun a hs => ?_
 refine wpList_nil ?_
 refine then_normal ?_
 refine wp_cond_split (hs.ev rfl) (fun h10 => ?_) (fun h10 => ?_)
 ·have hsh := ite_t hsh h10
  refine wp_seq ?_
  refine wp_region_lit ?_
  refine st_val hs (y_assign rfl) trivial rfl rfl fun a hs => ?_
  refine wpList_nil ?_
  refine then_normal ?_
  have hsh := Option.some.inj hsh
  subst hsh
  refine wp_ret ?_
  refine then_ret ?_
  exact ret1 hs rfl (rv_tmp rfl) (hw.ret rfl)
 ·have hsh := ite_f hsh h10
  refine wp_skip ?_
  refine then_normal ?_
  refine wp_seq ?_
  refine wp_seq ?_
  refine wp_region_lit ?_
  refine st_val hs (y_assign rfl) trivial rfl rfl fun a hs => ?_
  refine wpList_nil ?_
  refine then_normal ?_
  refine wp_block ?_
  refine wp_while (fun sv109 a w => ∃ (Sv173 : Nat → Prop), Sl 26 [(0, .slice p2 a1.length k3), (1, .slice p6 b5.length k7), (5, .int .i64 sv109)] a ∧ Wd ⟨w0, S0, []⟩ Sv173 [] [SlA p2 a1.length k3 a1, SlA p6 b5.length k7 b5] w) 0 hsh ⟨S0, (hs.wk rfl), (hw.ft [] [1, 0] (by decide) rfl rfl)⟩ ?_
  repeat clear hsh
  rintro sv109 a w tv206 ⟨Sv173, hs, hw⟩ hsh hd205
  delta ref08_Same_l2 at hsh
  refine wp_seq ?_
  refine wp_seq ?_
  refine wp_region_lit ?_
  refine st_val hs (y_move rfl) trivial rfl rfl fun a hs => ?_
  refine st_val hs (y_move rfl) trivial rfl rfl fun a hs => ?_
  refine st_val hs (y_len Try.runUnderlying25 rfl) trivial rfl rfl fun a hs => ?_
  refine st_val hs (y_lss rfl rfl) trivial rfl rfl fun a hs => ?_
  refine wpList_nil ?_
  refine then_normal ?_
  refine wp_cond_split (hs.ev rfl) (fun h210 => ?_) (fun h210 => ?_)
  ·have hsh := ite_t hsh h210
   refine wp_skip ?_
   refine then_normal ?_
   refine wp_seq ?_
   refine wp_block ?_
   refine wp_seq ?_
   obtain ⟨x241, h239, hsh⟩ := bind_t hsh
   obtain ⟨b247, o248, q245, c246, h249, h242, h243, h244, h240⟩ := hw.elemV 0 rfl h239
   have hsv250 := hs
   have hwv251 := hw
   subst h249
   have hs := hsv250
   have hw := hwv251
   obtain ⟨_, _, rfl, rfl, rfl⟩ := h240
   have hw := hw.addE h244
   obtain ⟨x254, h252, hsh⟩ := bind_t hsh
   obtain ⟨b260, o261, q258, c259, h262, h255, h256, h257, h253⟩ := hw.elemV 2 rfl h252
   have hsv263 := hs
   have hwv264 := hw
   subst h262
   have hs := hsv263
   have hw := hwv264
   obtain ⟨_, _, rfl, rfl, rfl⟩ := h253
   have hw := hw.addE h257
   refine wp_only (fun a w => ∃ (Sv265 : Nat → Prop), Sl 26 [(0, .slice (some ⟨b247, o248, none⟩) a1.length k3), (1, .slice (some ⟨b260, o261, none⟩) b5.length k7), (5, .int .i64 sv109), (25, .bool (!((x241.From == x254.From) && ((x241.To == x254.To) && true))))] a ∧ Wd ⟨w0, S0, []⟩ Sv265 [] [SlA (some ⟨b247, o248, none⟩) a1.length k3 a1, SlA (some ⟨b260, o261, none⟩) b5.length k7 b5] w) ?_ ?_
   ·refine h_b (C := Cls [] [CeA b260 q258 [.int .i64 x254.From, .int .i64 x254.To], CeA b247 q245 [.int .i64 x241.From, .int .i64 x241.To]]) (by kernel_rfl) rfl (hw.drew.cs [] [0, 1] rfl rfl) fun hC => ?_
    have hw := hw.drew
    refine h_g hs 0 rfl (by kernel_rfl) rfl rfl hC rfl (fun w hC => y_move rfl) fun a hs => ?_
    refine h_g hs 1 rfl (by kernel_rfl) rfl rfl hC rfl (fun w hC => y_move rfl) fun a hs => ?_
    refine h_g hs 2 rfl (by kernel_rfl) rfl rfl hC rfl (fun w hC => y_indexAt Try.runUnderlying25 Try.sizeOf34 rfl rfl h242.1 h242.2 h243) fun a hs => ?_
    refine h_g hs 3 rfl (by kernel_rfl) rfl rfl hC rfl (fun w hC => y_loadEA (j := 0) (hC.ceAt 1 rfl) rfl Try.isAgg34 Try.sizeOf34 rfl rfl) fun a hs => ?_
    refine h_g hs 4 rfl (by kernel_rfl) rfl rfl hC rfl (fun w hC => y_move rfl) fun a hs => ?_
    refine h_g hs 5 rfl (by kernel_rfl) rfl rfl hC rfl (fun w hC => y_move rfl) fun a hs => ?_
    refine h_g hs 6 rfl (by kernel_rfl) rfl rfl hC rfl (fun w hC => y_indexAt Try.runUnderlying25 Try.sizeOf34 rfl rfl h255.1 h255.2 h256) fun a hs => ?_
    refine h_g hs 7 rfl (by kernel_rfl) rfl rfl hC rfl (fun w hC => y_loadEA (j := 0) (hC.ceAt 0 rfl) rfl Try.isAgg34 Try.sizeOf34 rfl rfl) fun a hs => ?_
    refine h_g hs 8 rfl (by kernel_rfl) rfl rfl hC rfl (fun w hC => y_neqA (by kernel_rfl) rfl rfl (eqv_struct Try.runUnderlying34 (by kernel_rfl) (EqF.cons1 rfl Try.isAgg3 rfl rfl (eqv_int Try.runUnderlying3) (EqF.cons1 rfl Try.isAgg3 rfl rfl (eqv_int Try.runUnderlying3) EqF.nil)))) fun a hs => ?_
    refine h_done (by kernel_rfl) ?_
    exact ⟨Sv173, (hs.wk rfl), (hw.ft [] [2, 3] (by decide) rfl rfl)⟩
   ·rintro a w ⟨Sv265, hs, hw⟩
    refine then_normal ?_
    refine wp_cond_split (hs.ev rfl) (fun h267 => ?_) (fun h267 => ?_)
    ·have hsh := ite_t hsh h267
     refine wp_seq ?_
     refine wp_region_lit ?_
     refine st_val hs (y_assign rfl) trivial rfl rfl fun a hs => ?_
     refine wpList_nil ?_
     refine then_normal ?_
     have hsh := Option.some.inj hsh
     subst hsh
     have h268 := hd205 _ rfl
     subst h268
     refine wp_ret ?_
     refine blk_ret ?_
     refine then_ret ?_
     refine then_ret ?_
     refine blk_ret ?_
     refine then_ret ?_
     exact ret1 hs rfl (rv_tmp rfl) (hw.ret rfl)
    ·have hsh := ite_f hsh h267
     refine wp_skip ?_
     refine blk_normal ?_
     refine then_normal ?_
     refine wp_region_lit ?_
     refine st_val hs (y_move rfl) trivial rfl rfl fun a hs => ?_
     refine st_val hs (y_add rfl rfl) trivial rfl rfl fun a hs => ?_
     obtain ⟨i270, h269, hsh⟩ := bind_t hsh
     refine st_val hs (y_assignI rfl h269) trivial rfl rfl fun a hs => ?_
     refine wpList_nil ?_
     refine then_normal ?_
     exact ⟨_, (Option.some.inj hsh).symm, Sv265, (hs.wk rfl), (hw.ft [] [0, 1] (by decide) rfl rfl)⟩
  ·have hsh := ite_f hsh h210
   obtain ⟨rv271, hsh, h272⟩ := map_t hsh
   have h272 := (hd205 _ h272.symm).symm
   subst h272
   refine wp_exit ?_
   refine then_exit ?_
   refine then_exit ?_
   refine blk_exit ?_
   refine then_normal ?_
   refine wp_seq ?_
   refine wp_region_lit ?_
   refine st_val hs (y_assign rfl) trivial rfl rfl fun a hs => ?_
   refine wpList_nil ?_
   refine then_normal ?_
   have hsh := Option.some.inj hsh
   subst hsh
   refine wp_ret ?_
   exact ret1 hs rfl (rv_tmp rfl) (hw.ret rfl)

abbrev span_First_rd (w0 : World) (X : List Nat) (r : (List Span)) : (Nat → Prop) → World → Value → Prop := fun S w v => ∃ (p0_0 : Option Addr) (k0_0 : Nat) (c0_0 : List Value), v = .slice p0_0 r.length k0_0 ∧ Outs X w0 S w [.row p0_0 r.length k0_0 c0_0 34 2] ∧ (RowA c0_0 r).p S w
set_option maxHeartbeats 4000000 in
set_option maxRecDepth 100000 in
theorem span_First_ok {w0 : World} {S0 : Nat → Prop} {p2 : Option Addr} {k3 : Nat} {l1 : (List Span)} {n5 : Int} {r : (List Span)} (hsh : span_First l1 n5 = some r) (hS : ∀ b, S0 b → b < w0.heap.size) (h4 : (SlA p2 l1.length k3 l1).p S0 w0) : Calls Try.prog 12 #[.slice p2 l1.length k3, .int .i64 n5] w0 (Ret ([]) w0 S0 (span_First_rd w0 ([]) r)) := by
 refine calls_of_wp Try.func12 rfl ?_
 have hs := Sl.enter #[.slice p2 l1.length k3, .int .i64 n5] 44 [(0, .slice p2 l1.length k3), (1, .int .i64 n5)] rfl ⟨rfl, rfl, trivial⟩
 have hw := Wd.enter (E := []) hS (fun _ h => (by cases h))
 have hw := hw.addE h4
 delta span_First at hsh
 refine wp_seq ?_
 refine wp_region_lit ?_
 refine st_val hs (y_assign rfl) trivial rfl rfl fun a hs => ?_
 refine wpList_nil ?_
 refine then_normal ?_
 refine wp_seq ?_
 refine wp_region_lit ?_
 refine st_val hs (y_assign rfl) trivial rfl rfl fun a hs => ?_
 refine wpList_nil ?_
 refine then_normal ?_
 refine wp_seq ?_
 refine wp_seq ?_
 refine wp_region_lit ?_
 refine st_val hs (y_move rfl) trivial rfl rfl fun a hs => ?_
 obtain ⟨rv7, h6, hsh⟩ := bind_t hsh
 refine st_callR hs (span_Normal_ok h6 hw.dom (hw.envAt 0 rfl)) (do_call Try.call16 rfl) trivial rfl rfl ?_
 intro v15 Sv12 w a h13 h14 hs
 obtain ⟨p8, k9, c11, rfl, h16, h10⟩ := h14
 have hw := hw.callN h13 h16
 have hw := hw.addE (e := RowA c11 rv7) h10
 refine st_val hs (y_len Try.runUnderlying25 rfl) trivial rfl rfl fun a hs => ?_
 refine st_val hs (y_move rfl) trivial rfl rfl fun a hs => ?_
 refine wpList_nil ?_
 refine then_normal ?_
 obtain ⟨e122, h195, hsh⟩ := bind_t hsh
 refine wp_join (fun a w => ∃ (c123 : List Value) (p124 : Option Addr) (k125 : Nat) (Sv126 : Nat → Prop), Sl 44 [(5, .slice p124 e122.length k125)] a ∧ Wd ⟨w0, S0, []⟩ Sv126 [.row p124 e122.length k125 c123 34 2] [RowA c123 e122] w) ?_ ?_
 ·refine wp_block ?_
  have hw := hw.nilRow Span 34
  refine wp_while (fun sv17 a w => ∃ (c84 : List Value) (p85 : Option Addr) (k86 : Nat) (Sv87 : Nat → Prop), Sl 44 [(1, .int .i64 sv17.1), (5, .slice p85 sv17.2.1.length k86), (10, .slice p8 rv7.length k9), (11, .int .i64 (rv7.length : Int)), (12, .int .i64 sv17.2.2)] a ∧ Wd ⟨w0, S0, []⟩ Sv87 [.row p85 sv17.2.1.length k86 c84 34 2, .row p8 rv7.length k9 c11 34 2] [RowA c84 sv17.2.1, RowA c11 rv7] w) (n5, ([] : List Span), 0) h195 ⟨[], none, 0, Sv12, (hs.wk rfl), (hw.ft [0, 1] [0, 1] (by decide) rfl rfl)⟩ ?_
  clear h195
  repeat clear hsh
  rintro sv17 a w tv120 ⟨c84, p85, k86, Sv87, hs, hw⟩ hsh hd119
  delta span_First_l1 at hsh
  refine wp_seq ?_
  refine wp_region_lit ?_
  refine st_val hs (y_lss rfl rfl) trivial rfl rfl fun a hs => ?_
  refine wpList_nil ?_
  refine then_normal ?_
  refine wp_seq ?_
  refine wp_cond_split (hs.ev rfl) (fun h128 => ?_) (fun h128 => ?_)
  ·have hsh := ite_t hsh h128
   refine wp_skip ?_
   refine then_normal ?_
   refine wp_seq ?_
   refine wp_block ?_
   refine wp_seq ?_
   refine wp_region_lit ?_
   obtain ⟨x161, h159, hsh⟩ := bind_t hsh
   obtain ⟨b168, q165, c166, h169, h162, h163, h167, h160⟩ := hw.elemRV (α := Span) 1 rfl 1 rfl h159
   have hsv170 := hs
   have hwv171 := hw
   subst h169
   have hs := hsv170
   have hw := hwv171
   obtain ⟨_, _, rfl, rfl, rfl⟩ := h160
   refine st_val hs (y_indexAt Try.runUnderlying25 Try.sizeOf34 rfl rfl h162.1 h162.2 h163) trivial rfl rfl fun a hs => ?_
   refine st_val hs (y_loadQA (j := 0) (hw.ownAt 1 rfl) rfl Try.isAgg34 Try.sizeOf34 h167 rfl rfl) trivial rfl rfl fun a hs => ?_
   refine w_alloc (cs := [.int .i64 0, .int .i64 0]) hs hw Try.zeroValue34 rfl rfl trivial ?_
   intro b172 a w hs hw
   refine w_store (m := 2) (cs' := [.int .i64 x161.From, .int .i64 x161.To]) hs hw 0 rfl rfl rfl Try.sizeOf34 rfl rfl rfl rfl trivial ?_
   intro a w hs hw
   refine wpList_nil ?_
   refine then_normal ?_
   refine wp_seq ?_
   refine wp_seq ?_
   refine wp_region_lit ?_
   refine st_val hs (y_move rfl) trivial rfl rfl fun a hs => ?_
   refine st_val hs (y_lss rfl rfl) trivial rfl rfl fun a hs => ?_
   refine wpList_nil ?_
   refine then_normal ?_
   refine wp_cond_split (hs.ev rfl) (fun h174 => ?_) (fun h174 => ?_)
   ·have hsh := ite_t hsh h174
    refine wp_exit ?_
    refine then_exit ?_
    refine blk_other rfl ?_
    refine then_exit ?_
    refine then_exit ?_
    refine blk_exit ?_
    have hsh := Option.some.inj hsh
    subst hsh
    have h175 := hd119 _ rfl
    subst h175
    refine then_normal ?_
    exact ⟨c84, p85, k86, Sv87, (hs.wk rfl), (hw.ft [1] [0] (by decide) rfl rfl)⟩
   ·have hsh := ite_f hsh h174
    refine wp_skip ?_
    refine then_normal ?_
    refine wp_seq ?_
    refine wp_seq ?_
    refine wp_region_lit ?_
    refine st_val hs (y_fieldAddr (o' := 1) Try.runUnderlying34 rfl Try.sizeOf3 rfl rfl rfl) trivial rfl rfl fun a hs => ?_
    refine st_val hs (y_loadB1 (hw.ownAt 0 rfl) rfl Try.isAgg3 rfl) trivial rfl rfl fun a hs => ?_
    refine st_val hs (y_convert Try.runUnderlying3 Try.runUnderlying51 rfl) trivial rfl rfl fun a hs => ?_
    refine st_val hs (y_fieldAddr (o' := 0) Try.runUnderlying34 rfl Try.sizeOf3 rfl rfl rfl) trivial rfl rfl fun a hs => ?_
    refine st_val hs (y_loadB1 (hw.ownAt 0 rfl) rfl Try.isAgg3 rfl) trivial rfl rfl fun a hs => ?_
    refine st_val hs (y_convert Try.runUnderlying3 Try.runUnderlying51 rfl) trivial rfl rfl fun a hs => ?_
    refine st_val hs (y_sub rfl rfl) trivial rfl rfl fun a hs => ?_
    obtain ⟨size177, h176, hsh⟩ := bind_t hsh
    refine st_val hs (y_assignI rfl h176) trivial rfl rfl fun a hs => ?_
    refine wpList_nil ?_
    refine then_normal ?_
    refine wp_seq ?_
    refine wp_region_lit ?_
    refine st_val hs (y_move rfl) trivial rfl rfl fun a hs => ?_
    refine st_val hs (y_move rfl) trivial rfl rfl fun a hs => ?_
    refine st_val hs (y_convert Try.runUnderlying3 Try.runUnderlying51 rfl) trivial rfl rfl fun a hs => ?_
    refine st_val hs (y_gtr rfl rfl) trivial rfl rfl fun a hs => ?_
    refine wpList_nil ?_
    refine then_normal ?_
    refine wp_join (fun a w => ∃ (x182 : Int) (n183 : Int) (Sv181 : Nat → Prop), span_First_j1 sv17 x161 x182 n183 = some tv120 ∧ Sl 44 [(1, .int .i64 n183), (5, .slice p85 sv17.2.1.length k86), (7, .pointer (some ⟨b172, 0, none⟩)), (10, .slice (some ⟨b168, 0, none⟩) rv7.length k9), (11, .int .i64 (rv7.length : Int)), (12, .int .i64 sv17.2.2)] a ∧ Wd ⟨w0, S0, []⟩ Sv181 [.box b172 [.int .i64 x161.From, .int .i64 x182] 34, .row p85 sv17.2.1.length k86 c84 34 2, .row (some ⟨b168, 0, none⟩) rv7.length k9 c11 34 2] [RowA c84 sv17.2.1, RowA c11 rv7] w) ?_ ?_
    ·refine wp_cond_split (hs.ev rfl) (fun h191 => ?_) (fun h191 => ?_)
     ·have hsh := ite_t hsh h191
      refine wp_region_lit ?_
      refine st_val hs (y_fieldAddr (o' := 0) Try.runUnderlying34 rfl Try.sizeOf3 rfl rfl rfl) trivial rfl rfl fun a hs => ?_
      refine st_val hs (y_loadB1 (hw.ownAt 0 rfl) rfl Try.isAgg3 rfl) trivial rfl rfl fun a hs => ?_
      refine st_val hs (y_move rfl) trivial rfl rfl fun a hs => ?_
      refine st_val hs (y_add rfl rfl) trivial rfl rfl fun a hs => ?_
      refine st_val hs (y_fieldAddr (o' := 1) Try.runUnderlying34 rfl Try.sizeOf3 rfl rfl rfl) trivial rfl rfl fun a hs => ?_
      refine w_store (m := 1) (cs' := [.int .i64 x161.From, .int .i64 (w64 (x161.From + sv17.1))]) hs hw 0 rfl rfl rfl Try.sizeOf3 rfl rfl rfl rfl trivial ?_
      intro a w hs hw
      refine st_val hs (y_assign rfl) trivial rfl rfl fun a hs => ?_
      refine wpList_nil ?_
      refine then_normal ?_
      exact ⟨(w64 (x161.From + sv17.1)), 0, Sv87, hsh, (hs.wk rfl), (hw.ft [0, 1, 2] [0, 1] (by decide) rfl rfl)⟩
     ·have hsh := ite_f hsh h191
      refine wp_region_lit ?_
      refine st_val hs (y_move rfl) trivial rfl rfl fun a hs => ?_
      refine st_val hs (y_move rfl) trivial rfl rfl fun a hs => ?_
      refine st_val hs (y_convert Try.runUnderlying51 Try.runUnderlying3 rfl) trivial rfl rfl fun a hs => ?_
      refine st_val hs (y_sub rfl rfl) trivial rfl rfl fun a hs => ?_
      obtain ⟨n193, h192, hsh⟩ := bind_t hsh
      refine st_val hs (y_assignI rfl h192) trivial rfl rfl fun a hs => ?_
      refine wpList_nil ?_
      refine then_normal ?_
      exact ⟨x161.To, n193, Sv87, hsh, (hs.wk rfl), (hw.ft [0, 1, 2] [0, 1] (by decide) rfl rfl)⟩
    ·rintro a w ⟨x182, n183, Sv181, hsh, hs, hw⟩
     delta span_First_j1 at hsh
     refine then_normal ?_
     refine wp_region_lit ?_
     refine st_val hs (y_move rfl) trivial rfl rfl fun a hs => ?_
     refine st_val hs (y_loadBA (hw.ownAt 0 rfl) rfl Try.isAgg34 Try.sizeOf34 rfl rfl) trivial rfl rfl fun a hs => ?_
     refine w_litSlice (α := Span) (vs := [.agg #[.int .i64 x161.From, .int .i64 x182]]) (cs := [.int .i64 x161.From, .int .i64 x182]) (xs := ([(⟨x161.From, x182⟩ : Span)] : List Span)) hs hw El25 rfl rfl rfl rfl rfl rfl ⟨⟨_, _, rfl, rfl, rfl⟩, rfl⟩ rfl trivial rfl fun b185 a w hs hw => ?_
     obtain ⟨l187, h186, hsh⟩ := bind_t hsh
     refine w_appendR (α := Span) hs hw El25 2 rfl rfl rfl 1 rfl 0 rfl 0 rfl h186 rfl trivial ?_
     intro p188 k189 c190 a w hs hw
     refine st_val hs (y_assign rfl) trivial rfl rfl fun a hs => ?_
     refine wpList_nil ?_
     refine blk_normal ?_
     refine then_normal ?_
     refine wp_region_lit ?_
     refine st_val hs (y_add rfl rfl) trivial rfl rfl fun a hs => ?_
     refine st_val hs (y_move rfl) trivial rfl rfl fun a hs => ?_
     refine wpList_nil ?_
     refine then_normal ?_
     exact ⟨_, (Option.some.inj hsh).symm, c190, p188, k189, Sv181, (hs.wk rfl), (hw.ft [2, 3] [0, 3] (by decide) rfl rfl)⟩
  ·have hsh := ite_f hsh h128
   refine wp_exit ?_
   refine then_exit ?_
   refine then_exit ?_
   refine blk_exit ?_
   have hsh := Option.some.inj hsh
   subst hsh
   have h194 := hd119 _ rfl
   subst h194
   refine then_normal ?_
   exact ⟨c84, p85, k86, Sv87, (hs.wk rfl), (hw.ft [0] [0] (by decide) rfl rfl)⟩
 ·rintro a w ⟨c123, p124, k125, Sv126, hs, hw⟩
  refine then_normal ?_
  refine wp_seq ?_
  refine wp_region_lit ?_
  refine st_val hs (y_move rfl) trivial rfl rfl fun a hs => ?_
  refine st_val hs (y_assign rfl) trivial rfl rfl fun a hs => ?_
  refine wpList_nil ?_
  refine then_normal ?_
  have hsh := Option.some.inj hsh
  subst hsh
  refine wp_ret ?_
  exact ret1 hs rfl (rv_tmp rfl) (hw.ret ⟨p124, k125, c123, rfl, (hw.outs [0] (by decide) rfl), (hw.envAt 0 rfl)⟩)

abbrev span_Valid_rd (w0 : World) (X : List Nat) (r : Bool) : (Nat → Prop) → World → Value → Prop := fun S w v => v = .bool r
set_option maxHeartbeats 4000000 in
set_option maxRecDepth 100000 in
theorem span_Valid_ok {w0 : World} {S0 : Nat → Prop} {p2 : Option Addr} {k3 : Nat} {l1 : (List Span)} {r : Bool} (hsh : span_Valid l1 = some r) (hS : ∀ b, S0 b → b < w0.heap.size) (h4 : (SlA p2 l1.length k3 l1).p S0 w0) : Calls Try.prog 21 #[.slice p2 l1.length k3] w0 (Ret ([]) w0 S0 (span_Valid_rd w0 ([]) r)) := by
 refine calls_of_wp Try.func21 rfl ?_
 have hs := Sl.enter #[.slice p2 l1.length k3] 31 [(0, .slice p2 l1.length k3)] rfl ⟨rfl, trivial⟩
 have hw := Wd.enter (E := []) hS (fun _ h => (by cases h))
 have hw := hw.addE h4
 delta span_Valid at hsh
 refine wp_seq ?_
 refine wp_region_lit ?_
 refine st_val hs (y_assign rfl) trivial rfl rfl fun a hs => ?_
 refine wpList_nil ?_
 refine then_normal ?_
 refine wp_seq ?_
 refine wp_seq ?_
 refine wp_region_lit ?_
 refine st_val hs (y_move rfl) trivial rfl rfl fun a hs => ?_
 refine st_val hs (y_len Try.runUnderlying25 rfl) trivial rfl rfl fun a hs => ?_
 refine st_val hs (y_move rfl) trivial rfl rfl fun a hs => ?_
 refine wpList_nil ?_
 refine then_normal ?_
 refine wp_block ?_
 refine wp_while (fun sv97 a w => ∃ (Sv157 : Nat → Prop), Sl 31 [(0, .slice p2 l1.length k3), (5, .slice p2 l1.length k3), (6, .int .i64 (l1.length : Int)), (7, .int .i64 sv97)] a ∧ Wd ⟨w0, S0, []⟩ Sv157 [] [SlA p2 l1.length k3 l1] w) 0 hsh ⟨S0, (hs.wk rfl), (hw.ft [] [0] (by decide) rfl rfl)⟩ ?_
 repeat clear hsh
 rintro sv97 a w tv188 ⟨Sv157, hs, hw⟩ hsh hd187
 delta span_Valid_l2 at hsh
 refine wp_seq ?_
 refine wp_region_lit ?_
 refine st_val hs (y_lss rfl rfl) trivial rfl rfl fun a hs => ?_
 refine wpList_nil ?_
 refine then_normal ?_
 refine wp_seq ?_
 refine wp_cond_split (hs.ev rfl) (fun h192 => ?_) (fun h192 => ?_)
 ·have hsh := ite_t hsh h192
  refine wp_skip ?_
  refine then_normal ?_
  refine wp_seq ?_
  refine wp_block ?_
  refine wp_seq ?_
  refine wp_region_lit ?_
  refine st_val hs (y_move rfl) trivial rfl rfl fun a hs => ?_
  obtain ⟨x223, h221, hsh⟩ := bind_t hsh
  obtain ⟨b229, o230, q227, c228, h231, h224, h225, h226, h222⟩ := hw.elemV 0 rfl h221
  have hsv232 := hs
  have hwv233 := hw
  subst h231
  have hs := hsv232
  have hw := hwv233
  obtain ⟨_, _, rfl, rfl, rfl⟩ := h222
  have hw := hw.addE h226
  refine st_val hs (y_indexAt Try.runUnderlying25 Try.sizeOf34 rfl rfl h224.1 h224.2 h225) trivial rfl rfl fun a hs => ?_
  refine st_val hs (y_loadEA (j := 0) (hw.ceAt 0 rfl) rfl Try.isAgg34 Try.sizeOf34 rfl rfl) trivial rfl rfl fun a hs => ?_
  refine w_alloc (cs := [.int .i64 0, .int .i64 0]) hs hw Try.zeroValue34 rfl rfl trivial ?_
  intro b234 a w hs hw
  refine st_val hs (y_assign rfl) trivial rfl rfl fun a hs => ?_
  refine w_store (m := 2) (cs' := [.int .i64 x223.From, .int .i64 x223.To]) hs hw 0 rfl rfl rfl Try.sizeOf34 rfl rfl rfl rfl trivial ?_
  intro a w hs hw
  refine wpList_nil ?_
  refine then_normal ?_
  refine wp_seq ?_
  obtain ⟨rv236, h235, hsh⟩ := bind_t hsh
  obtain ⟨c246, hc246, hsh⟩ := bind_t hsh
  refine wp_only (fun a w => ∃ (Sv247 : Nat → Prop), Sl 31 [(0, .slice (some ⟨b229, o230, none⟩) l1.length k3), (5, .slice (some ⟨b229, o230, none⟩) l1.length k3), (6, .int .i64 (l1.length : Int)), (7, .int .i64 sv97), (29, .bool c246)] a ∧ Wd ⟨w0, S0, []⟩ Sv247 [] [SlA (some ⟨b229, o230, none⟩) l1.length k3 l1] w) ?_ ?_
  ·rcases Bool.eq_false_or_eq_true (!rv236) with h248 | h248
   ·have h249 := ite_t hc246 h248
    refine h_b (C := Cls [.box b234 [.int .i64 x223.From, .int .i64 x223.To] 34] [CeA b229 q227 [.int .i64 x223.From, .int .i64 x223.To]]) (by kernel_rfl) rfl (hw.drew.cs [0] [0] rfl rfl) fun hC => ?_
    have hw := hw.drew
    refine h_g hs 0 rfl (by kernel_rfl) rfl rfl hC rfl (fun w hC => y_loadBA (hC.ownAt 0 rfl) rfl Try.isAgg34 Try.sizeOf34 rfl rfl) fun a hs => ?_
    refine h_one (i := 1) (by kernel_rfl) rfl ?_
    refine st_callR hs (span_some_ok h235 hw.bdom) (do_call Try.call37 rfl) trivial rfl rfl ?_
    intro v253 Sv250 w a h251 h252 hs
    subst h252
    have hw := hw.callB h251
    refine h_nx (hw.cs [0] [0] rfl rfl) fun hC => ?_
    refine h_g hs 2 rfl (by kernel_rfl) rfl rfl hC rfl (fun w hC => y_not rfl) fun a hs => ?_
    refine h_g hs 3 rfl (by kernel_rfl) rfl rfl hC rfl (fun w hC => y_move rfl) fun a hs => ?_
    have hs := hs.fix 15 (.bool true) rfl (vb h248)
    refine h_s hs 4 rfl (by kernel_rfl) rfl rfl rfl (.inl rfl) rfl rfl hC fun a hs => ?_
    refine h_s hs 5 rfl (by kernel_rfl) rfl rfl rfl (.inl rfl) rfl rfl hC fun a hs => ?_
    refine h_s hs 6 rfl (by kernel_rfl) rfl rfl rfl (.inl rfl) rfl rfl hC fun a hs => ?_
    refine h_s hs 7 rfl (by kernel_rfl) rfl rfl rfl (.inr rfl) rfl rfl hC fun a hs => ?_
    refine h_s hs 8 rfl (by kernel_rfl) rfl rfl rfl (.inr rfl) rfl rfl hC fun a hs => ?_
    refine h_s hs 9 rfl (by kernel_rfl) rfl rfl rfl (.inr rfl) rfl rfl hC fun a hs => ?_
    refine h_s hs 10 rfl (by kernel_rfl) rfl rfl rfl (.inr rfl) rfl rfl hC fun a hs => ?_
    refine h_s hs 11 rfl (by kernel_rfl) rfl rfl rfl (.inr rfl) rfl rfl hC fun a hs => ?_
    refine h_s hs 12 rfl (by kernel_rfl) rfl rfl rfl (.inr rfl) rfl rfl hC fun a hs => ?_
    refine h_s hs 13 rfl (by kernel_rfl) rfl rfl rfl (.inr rfl) rfl rfl hC fun a hs => ?_
    refine h_s hs 14 rfl (by kernel_rfl) rfl rfl rfl (.inr rfl) rfl rfl hC fun a hs => ?_
    refine h_s hs 15 rfl (by kernel_rfl) rfl rfl rfl (.inr rfl) rfl rfl hC fun a hs => ?_
    refine h_s hs 16 rfl (by kernel_rfl) rfl rfl rfl (.inl rfl) rfl rfl hC fun a hs => ?_
    refine h_g hs 17 rfl (by kernel_rfl) rfl rfl hC rfl (fun w hC => y_pickTE (v := .bool c246) rfl rfl (vbs h249)) fun a hs => ?_
    refine h_done (by kernel_rfl) ?_
    exact ⟨Sv157, (hs.wk rfl), (hw.ft [] [1] (by decide) rfl rfl)⟩
   ·have h255 := ite_f hc246 h248
    obtain ⟨c264, hc264, h255⟩ := bind_t h255
    rcases Bool.eq_false_or_eq_true (decide (0 < sv97)) with h265 | h265
    ·have h266 := ite_t hc264 h265
     obtain ⟨x269, h267, h266⟩ := bind_t h266
     obtain ⟨q273, c274, h270, h271, h272, h268⟩ := hw.elemK 1 rfl h267
     obtain ⟨_, _, rfl, rfl, rfl⟩ := h268
     have hw := hw.addE h272
     refine h_b (C := Cls [.box b234 [.int .i64 x223.From, .int .i64 x223.To] 34] [CeA b229 q273 [.int .i64 x269.From, .int .i64 x269.To], CeA b229 q227 [.int .i64 x223.From, .int .i64 x223.To]]) (by kernel_rfl) rfl (hw.drew.cs [0] [0, 1] rfl rfl) fun hC => ?_
     have hw := hw.drew
     refine h_g hs 0 rfl (by kernel_rfl) rfl rfl hC rfl (fun w hC => y_loadBA (hC.ownAt 0 rfl) rfl Try.isAgg34 Try.sizeOf34 rfl rfl) fun a hs => ?_
     refine h_one (i := 1) (by kernel_rfl) rfl ?_
     refine st_callR hs (span_some_ok h235 hw.bdom) (do_call Try.call37 rfl) trivial rfl rfl ?_
     intro v278 Sv275 w a h276 h277 hs
     subst h277
     have hw := hw.callB h276
     refine h_nx (hw.cs [0] [0, 1] rfl rfl) fun hC => ?_
     refine h_g hs 2 rfl (by kernel_rfl) rfl rfl hC rfl (fun w hC => y_not rfl) fun a hs => ?_
     refine h_g hs 3 rfl (by kernel_rfl) rfl rfl hC rfl (fun w hC => y_move rfl) fun a hs => ?_
     have hs := hs.fix 15 (.bool false) rfl (vb h248)
     refine h_t hs 4 rfl (by kernel_rfl) ⟨_, rfl, rfl⟩ rfl rfl hC (fun w hC => y_move rfl) fun a hs => ?_
     refine h_t hs 5 rfl (by kernel_rfl) ⟨_, rfl, rfl⟩ rfl rfl hC (fun w hC => y_gtr rfl rfl) fun a hs => ?_
     refine h_t hs 6 rfl (by kernel_rfl) ⟨_, rfl, rfl⟩ rfl rfl hC (fun w hC => y_move rfl) fun a hs => ?_
     have hs := hs.fix 18 (.bool true) rfl (vb h265)
     refine h_t hs 7 rfl (by kernel_rfl) ⟨_, rfl, rfl⟩ rfl rfl hC (fun w hC => y_fieldAddr (o' := 0) Try.runUnderlying34 rfl Try.sizeOf3 rfl rfl rfl) fun a hs => ?_
     refine h_t hs 8 rfl (by kernel_rfl) ⟨_, rfl, rfl⟩ rfl rfl hC (fun w hC => y_loadB1 (hC.ownAt 0 rfl) rfl Try.isAgg3 rfl) fun a hs => ?_
     refine h_t hs 9 rfl (by kernel_rfl) ⟨_, rfl, rfl⟩ rfl rfl hC (fun w hC => y_move rfl) fun a hs => ?_
     refine h_t hs 10 rfl (by kernel_rfl) ⟨_, rfl, rfl⟩ rfl rfl hC (fun w hC => y_move rfl) fun a hs => ?_
     refine h_t hs 11 rfl (by kernel_rfl) ⟨_, rfl, rfl⟩ rfl rfl hC (fun w hC => y_sub rfl rfl) fun a hs => ?_
     refine h_t hs 12 rfl (by kernel_rfl) ⟨_, rfl, rfl⟩ rfl rfl hC (fun w hC => y_indexAt Try.runUnderlying25 Try.sizeOf34 rfl rfl h270.1 h270.2 h271) fun a hs => ?_
     refine h_t hs 13 rfl (by kernel_rfl) ⟨_, rfl, rfl⟩ rfl rfl hC (fun w hC => y_fieldAddr (o' := q273 + 1) Try.runUnderlying34 rfl Try.sizeOf3 rfl rfl rfl) fun a hs => ?_
     refine h_t hs 14 rfl (by kernel_rfl) ⟨_, rfl, rfl⟩ rfl rfl hC (fun w hC => y_loadE1 (j := 1) (hC.ceAt 0 rfl) rfl Try.isAgg3 rfl) fun a hs => ?_
     refine h_t hs 15 rfl (by kernel_rfl) ⟨_, rfl, rfl⟩ rfl rfl hC (fun w hC => y_leq rfl rfl) fun a hs => ?_
     refine h_t hs 16 rfl (by kernel_rfl) ⟨_, rfl, rfl⟩ rfl rfl hC (fun w hC => y_pickTE (v := .bool c264) rfl rfl (vbs h266)) fun a hs => ?_
     refine h_g hs 17 rfl (by kernel_rfl) rfl rfl hC rfl (fun w hC => y_pickFE (v := .bool c246) rfl rfl (vbs h255)) fun a hs => ?_
     refine h_done (by kernel_rfl) ?_
     exact ⟨Sv157, (hs.wk rfl), (hw.ft [] [2] (by decide) rfl rfl)⟩
    ·have h280 := ite_f hc264 h265
     refine h_b (C := Cls [.box b234 [.int .i64 x223.From, .int .i64 x223.To] 34] [CeA b229 q227 [.int .i64 x223.From, .int .i64 x223.To]]) (by kernel_rfl) rfl (hw.drew.cs [0] [0] rfl rfl) fun hC => ?_
     have hw := hw.drew
     refine h_g hs 0 rfl (by kernel_rfl) rfl rfl hC rfl (fun w hC => y_loadBA (hC.ownAt 0 rfl) rfl Try.isAgg34 Try.sizeOf34 rfl rfl) fun a hs => ?_
     refine h_one (i := 1) (by kernel_rfl) rfl ?_
     refine st_callR hs (span_some_ok h235 hw.bdom) (do_call Try.call37 rfl) trivial rfl rfl ?_
     intro v284 Sv281 w a h282 h283 hs
     subst h283
     have hw := hw.callB h282
     refine h_nx (hw.cs [0] [0] rfl rfl) fun hC => ?_
     refine h_g hs 2 rfl (by kernel_rfl) rfl rfl hC rfl (fun w hC => y_not rfl) fun a hs => ?_
     refine h_g hs 3 rfl (by kernel_rfl) rfl rfl hC rfl (fun w hC => y_move rfl) fun a hs => ?_
     have hs := hs.fix 15 (.bool false) rfl (vb h248)
     refine h_t hs 4 rfl (by kernel_rfl) ⟨_, rfl, rfl⟩ rfl rfl hC (fun w hC => y_move rfl) fun a hs => ?_
     refine h_t hs 5 rfl (by kernel_rfl) ⟨_, rfl, rfl⟩ rfl rfl hC (fun w hC => y_gtr rfl rfl) fun a hs => ?_
     refine h_t hs 6 rfl (by kernel_rfl) ⟨_, rfl, rfl⟩ rfl rfl hC (fun w hC => y_move rfl) fun a hs => ?_
     have hs := hs.fix 18 (.bool false) rfl (vb h265)
     refine h_s hs 7 rfl (by kernel_rfl) rfl rfl rfl (.inl rfl) rfl rfl hC fun a hs => ?_
     refine h_s hs 8 rfl (by kernel_rfl) rfl rfl rfl (.inl rfl) rfl rfl hC fun a hs => ?_
     refine h_s hs 9 rfl (by kernel_rfl) rfl rfl rfl (.inl rfl) rfl rfl hC fun a hs => ?_
     refine h_s hs 10 rfl (by kernel_rfl) rfl rfl rfl (.inl rfl) rfl rfl hC fun a hs => ?_
     refine h_s hs 11 rfl (by kernel_rfl) rfl rfl rfl (.inl rfl) rfl rfl hC fun a hs => ?_
     refine h_s hs 12 rfl (by kernel_rfl) rfl rfl rfl (.inl rfl) rfl rfl hC fun a hs => ?_
     refine h_s hs 13 rfl (by kernel_rfl) rfl rfl rfl (.inl rfl) rfl rfl hC fun a hs => ?_
     refine h_s hs 14 rfl (by kernel_rfl) rfl rfl rfl (.inl rfl) rfl rfl hC fun a hs => ?_
     refine h_s hs 15 rfl (by kernel_rfl) rfl rfl rfl (.inl rfl) rfl rfl hC fun a hs => ?_
     refine h_t hs 16 rfl (by kernel_rfl) ⟨_, rfl, rfl⟩ rfl rfl hC (fun w hC => y_pickFE (v := .bool c264) rfl rfl (vbs h280)) fun a hs => ?_
     refine h_g hs 17 rfl (by kernel_rfl) rfl rfl hC rfl (fun w hC => y_pickFE (v := .bool c246) rfl rfl (vbs h255)) fun a hs => ?_
     refine h_done (by kernel_rfl) ?_
     exact ⟨Sv157, (hs.wk rfl), (hw.ft [] [1] (by decide) rfl rfl)⟩
  ·rintro a w ⟨Sv247, hs, hw⟩
   refine then_normal ?_
   refine wp_cond_split (hs.ev rfl) (fun h287 => ?_) (fun h287 => ?_)
   ·have hsh := ite_t hsh h287
    refine wp_seq ?_
    refine wp_region_lit ?_
    refine st_val hs (y_assign rfl) trivial rfl rfl fun a hs => ?_
    refine wpList_nil ?_
    refine then_normal ?_
    have hsh := Option.some.inj hsh
    subst hsh
    have h288 := hd187 _ rfl
    subst h288
    refine wp_ret ?_
    refine blk_ret ?_
    refine then_ret ?_
    refine then_ret ?_
    refine blk_ret ?_
    refine then_ret ?_
    exact ret1 hs rfl (rv_tmp rfl) (hw.ret rfl)
   ·have hsh := ite_f hsh h287
    refine wp_skip ?_
    refine blk_normal ?_
    refine then_normal ?_
    refine wp_region_lit ?_
    refine st_val hs (y_add rfl rfl) trivial rfl rfl fun a hs => ?_
    refine st_val hs (y_move rfl) trivial rfl rfl fun a hs => ?_
    refine wpList_nil ?_
    refine then_normal ?_
    exact ⟨_, (Option.some.inj hsh).symm, Sv247, (hs.wk rfl), (hw.ft [] [0] (by decide) rfl rfl)⟩
 ·have hsh := ite_f hsh h192
  obtain ⟨rv289, hsh, h290⟩ := map_t hsh
  have h290 := (hd187 _ h290.symm).symm
  subst h290
  refine wp_exit ?_
  refine then_exit ?_
  refine then_exit ?_
  refine blk_exit ?_
  refine then_normal ?_
  refine wp_seq ?_
  refine wp_region_lit ?_
  refine st_val hs (y_assign rfl) trivial rfl rfl fun a hs => ?_
  refine wpList_nil ?_
  refine then_normal ?_
  have hsh := Option.some.inj hsh
  subst hsh
  refine wp_ret ?_
  exact ret1 hs rfl (rv_tmp rfl) (hw.ret rfl)

abbrev law08_sane_rd (w0 : World) (X : List Nat) (r : Bool) : (Nat → Prop) → World → Value → Prop := fun S w v => v = .bool r
set_option maxHeartbeats 4000000 in
set_option maxRecDepth 100000 in
theorem law08_sane_ok {w0 : World} {S0 : Nat → Prop} {r : Bool} (hsh : law08_sane = some r) (hS : ∀ b, S0 b → b < w0.heap.size) : Calls Try.prog 8 #[] w0 (Ret ([]) w0 S0 (law08_sane_rd w0 ([]) r)) := by
 refine calls_of_wp Try.func8 rfl ?_
 have hs := Sl.enter #[] 25 [] rfl trivial
 have hw := Wd.enter (E := []) hS (fun _ h => (by cases h))
 delta law08_sane at hsh
 refine wp_seq ?_
 refine wp_region_lit ?_
 refine st_val hs (y_assign rfl) trivial rfl rfl fun a hs => ?_
 refine wpList_nil ?_
 refine then_normal ?_
 refine wp_seq ?_
 refine wp_region_lit ?_
 refine st_val hs (y_build (vs := [(0, .int .i64 5), (1, .int .i64 7)]) Bld34 rfl rfl) trivial rfl rfl fun a hs => ?_
 refine st_val hs (y_build (vs := [(0, .int .i64 1), (1, .int .i64 3)]) Bld34 rfl rfl) trivial rfl rfl fun a hs => ?_
 refine st_val hs (y_build (vs := [(0, .int .i64 3), (1, .int .i64 4)]) Bld34 rfl rfl) trivial rfl rfl fun a hs => ?_
 refine st_val hs (y_build (vs := [(0, .int .i64 9), (1, .int .i64 9)]) Bld34 rfl rfl) trivial rfl rfl fun a hs => ?_
 refine w_litSlice (α := Span) (vs := [.agg #[.int .i64 5, .int .i64 7], .agg #[.int .i64 1, .int .i64 3], .agg #[.int .i64 3, .int .i64 4], .agg #[.int .i64 9, .int .i64 9]]) (cs := [.int .i64 5, .int .i64 7, .int .i64 1, .int .i64 3, .int .i64 3, .int .i64 4, .int .i64 9, .int .i64 9]) (xs := ([(⟨5, 7⟩ : Span), (⟨1, 3⟩ : Span), (⟨3, 4⟩ : Span), (⟨9, 9⟩ : Span)] : List Span)) hs hw El25 rfl rfl rfl rfl rfl rfl ⟨⟨_, _, rfl, rfl, rfl⟩, ⟨⟨_, _, rfl, rfl, rfl⟩, ⟨⟨_, _, rfl, rfl, rfl⟩, ⟨⟨_, _, rfl, rfl, rfl⟩, rfl⟩⟩⟩⟩ rfl trivial rfl fun b2 a w hs hw => ?_
 obtain ⟨rv4, h3, hsh⟩ := bind_t hsh
 obtain ⟨Sv9, hw⟩ := w_share (α := Span) hw 0 rfl 0 rfl
 refine st_callR hs (span_Normal_ok h3 hw.dom (hw.envAt 0 rfl)) (do_call Try.call16 rfl) trivial rfl rfl ?_
 intro v13 Sv10 w a h11 h12 hs
 obtain ⟨p5, k6, c8, rfl, h14, h7⟩ := h12
 have hw := hw.callN h11 h14
 have hw := hw.addE (e := RowA c8 rv4) h7
 refine st_val hs (y_assign rfl) trivial rfl rfl fun a hs => ?_
 refine wpList_nil ?_
 refine then_normal ?_
 refine wp_seq ?_
 refine wp_region_lit ?_
 refine st_val hs (y_move rfl) trivial rfl rfl fun a hs => ?_
 refine st_val hs (y_build (vs := [(0, .int .i64 1), (1, .int .i64 4)]) Bld34 rfl rfl) trivial rfl rfl fun a hs => ?_
 refine st_val hs (y_build (vs := [(0, .int .i64 5), (1, .int .i64 7)]) Bld34 rfl rfl) trivial rfl rfl fun a hs => ?_
 refine w_litSlice (α := Span) (vs := [.agg #[.int .i64 1, .int .i64 4], .agg #[.int .i64 5, .int .i64 7]]) (cs := [.int .i64 1, .int .i64 4, .int .i64 5, .int .i64 7]) (xs := ([(⟨1, 4⟩ : Span), (⟨5, 7⟩ : Span)] : List Span)) hs hw El25 rfl rfl rfl rfl rfl rfl ⟨⟨_, _, rfl, rfl, rfl⟩, ⟨⟨_, _, rfl, rfl, rfl⟩, rfl⟩⟩ rfl trivial rfl fun b16 a w hs hw => ?_
 obtain ⟨rv18, h17, hsh⟩ := bind_t hsh
 refine st_callR hs (ref08_Same_ok h17 hw.bdom (hw.bRow 1 rfl 1 rfl) (hw.bRow 0 rfl 0 rfl)) (do_call Try.call15 rfl) trivial rfl rfl ?_
 intro v22 Sv19 w a h20 h21 hs
 subst h21
 have hw := hw.callB h20
 refine st_val hs (y_move rfl) trivial rfl rfl fun a hs => ?_
 obtain ⟨c46, hc46, hsh⟩ := bind_t hsh
 refine wpl_join 7 (fun a w => ∃ (Sv47 : Nat → Prop), Sl 25 [(1, .slice p5 rv4.length k6), (20, .bool c46)] a ∧ Wd ⟨w0, S0, []⟩ Sv47 [] [SlA p5 rv4.length k6 rv4] w) ?_ ?_
 ·rcases Bool.eq_false_or_eq_true rv18 with h45 | h45
  ·have hs := hs.fix 13 (.bool true) rfl (vb h45)
   have hsh := ite_t hc46 h45
   refine st_val hs (y_move rfl) ⟨_, rfl, rfl⟩ rfl rfl fun a hs => ?_
   obtain ⟨rv49, h48, hsh⟩ := bind_t hsh
   obtain ⟨Sv54, hw⟩ := w_share (α := Span) hw 1 rfl 1 rfl
   refine st_callR hs (span_First_ok h48 hw.dom (hw.envAt 0 rfl)) (do_call Try.call12 rfl) ⟨_, rfl, rfl⟩ rfl rfl ?_
   intro v58 Sv55 w a h56 h57 hs
   obtain ⟨p50, k51, c53, rfl, h59, h52⟩ := h57
   have hw := hw.callN h56 h59
   have hw := hw.addE (e := RowA c53 rv49) h52
   refine st_val hs (y_build (vs := [(0, .int .i64 1), (1, .int .i64 4)]) Bld34 rfl rfl) ⟨_, rfl, rfl⟩ rfl rfl fun a hs => ?_
   refine st_val hs (y_build (vs := [(0, .int .i64 5), (1, .int .i64 6)]) Bld34 rfl rfl) ⟨_, rfl, rfl⟩ rfl rfl fun a hs => ?_
   refine w_litSlice (α := Span) (vs := [.agg #[.int .i64 1, .int .i64 4], .agg #[.int .i64 5, .int .i64 6]]) (cs := [.int .i64 1, .int .i64 4, .int .i64 5, .int .i64 6]) (xs := ([(⟨1, 4⟩ : Span), (⟨5, 6⟩ : Span)] : List Span)) hs hw El25 rfl rfl rfl rfl rfl rfl ⟨⟨_, _, rfl, rfl, rfl⟩, ⟨⟨_, _, rfl, rfl, rfl⟩, rfl⟩⟩ rfl ⟨_, rfl, rfl⟩ rfl fun b61 a w hs hw => ?_
   obtain ⟨rv63, h62, hsh⟩ := bind_t hsh
   refine st_callR hs (ref08_Same_ok h62 hw.bdom (hw.bRow 1 rfl 1 rfl) (hw.bRow 0 rfl 0 rfl)) (do_call Try.call15 rfl) ⟨_, rfl, rfl⟩ rfl rfl ?_
   intro v67 Sv64 w a h65 h66 hs
   subst h66
   have hw := hw.callB h65
   refine st_val hs (y_pickT rfl rfl) trivial rfl rfl fun a hs => ?_
   refine wpList_nil ?_
   have hsh := Option.some.inj hsh
   subst hsh
   refine then_normal ?_
   exact ⟨Sv55, (hs.wk rfl), (hw.ft [] [2] (by decide) rfl rfl)⟩
  ·have hs := hs.fix 13 (.bool false) rfl (vb h45)
   have hsh := ite_f hc46 h45
   refine st_skip hs rfl rfl rfl rfl rfl fun a hs => ?_
   refine st_skip hs rfl rfl rfl rfl rfl fun a hs => ?_
   refine st_skip hs rfl rfl rfl rfl rfl fun a hs => ?_
   refine st_skip hs rfl rfl rfl rfl rfl fun a hs => ?_
   refine st_skip hs rfl rfl rfl rfl rfl fun a hs => ?_
   refine st_skip hs rfl rfl rfl rfl rfl fun a hs => ?_
   refine st_val hs (y_pickF rfl rfl) trivial rfl rfl fun a hs => ?_
   refine wpList_nil ?_
   obtain ⟨Sv69, hw⟩ := w_share (α := Span) hw 1 rfl 1 rfl
   have hsh := Option.some.inj hsh
   subst hsh
   refine then_normal ?_
   exact ⟨Sv69, (hs.wk rfl), (hw.ft [] [0] (by decide) rfl rfl)⟩
 ·rintro a w ⟨Sv47, hs, hw⟩
  refine st_val hs (y_move rfl) trivial rfl rfl fun a hs => ?_
  obtain ⟨c78, hc78, hsh⟩ := bind_t hsh
  refine wpl_join 3 (fun a w => ∃ (Sv79 : Nat → Prop), Sl 25 [(24, .bool c78)] a ∧ Wd ⟨w0, S0, []⟩ Sv79 [] [] w) ?_ ?_
  ·rcases Bool.eq_false_or_eq_true c46 with h77 | h77
   ·have hs := hs.fix 21 (.bool true) rfl (vb h77)
    have hsh := ite_t hc78 h77
    refine st_val hs (y_move rfl) ⟨_, rfl, rfl⟩ rfl rfl fun a hs => ?_
    obtain ⟨rv81, h80, hsh⟩ := bind_t hsh
    refine st_callR hs (span_Valid_ok h80 hw.bdom (hw.bE 0 rfl)) (do_call Try.call21 rfl) ⟨_, rfl, rfl⟩ rfl rfl ?_
    intro v85 Sv82 w a h83 h84 hs
    subst h84
    have hw := hw.callB h83
    refine st_val hs (y_pickT rfl rfl) trivial rfl rfl fun a hs => ?_
    refine wpList_nil ?_
    have hsh := Option.some.inj hsh
    subst hsh
    refine then_normal ?_
    exact ⟨Sv47, (hs.wk rfl), (hw.ft [] [] (by decide) rfl rfl)⟩
   ·have hs := hs.fix 21 (.bool false) rfl (vb h77)
    have hsh := ite_f hc78 h77
    refine st_skip hs rfl rfl rfl rfl rfl fun a hs => ?_
    refine st_skip hs rfl rfl rfl rfl rfl fun a hs => ?_
    refine st_val hs (y_pickF rfl rfl) trivial rfl rfl fun a hs => ?_
    refine wpList_nil ?_
    have hsh := Option.some.inj hsh
    subst hsh
    refine then_normal ?_
    exact ⟨Sv47, (hs.wk rfl), (hw.ft [] [] (by decide) rfl rfl)⟩
  ·rintro a w ⟨Sv79, hs, hw⟩
   refine st_val hs (y_assign rfl) trivial rfl rfl fun a hs => ?_
   refine wpList_nil ?_
   refine then_normal ?_
   have hsh := Option.some.inj hsh
   subst hsh
   refine wp_ret ?_
   exact ret1 hs rfl (rv_tmp rfl) (hw.ret rfl)

abbrev made_Roll_rd (w0 : World) (X : List Nat) (r : Dice) : (Nat → Prop) → World → Value → Prop := fun S w v => ∃ (b_0 : Nat) (p0_0 : Option Addr) (k0_0 : Nat), v = .pointer (some ⟨b_0, 0, none⟩) ∧ Outs X w0 S w [.box b_0 [.slice p0_0 r.L.length k0_0, .int .i64 r.At] 50] ∧ (SlA p0_0 r.L.length k0_0 r.L).p S w
set_option maxHeartbeats 4000000 in
set_option maxRecDepth 100000 in
theorem made_Roll_ok {w0 : World} {S0 : Nat → Prop} {p2 : Option Addr} {k3 : Nat} {l1 : (List Int)} {r : Dice} (hsh : made_Roll l1 = some r) (hS : ∀ b, S0 b → b < w0.heap.size) (h4 : (SlA p2 l1.length k3 l1).p S0 w0) : Calls Try.prog 9 #[.slice p2 l1.length k3] w0 (Ret ([]) w0 S0 (made_Roll_rd w0 ([]) r)) := by
 refine calls_of_wp Try.func9 rfl ?_
 have hs := Sl.enter #[.slice p2 l1.length k3] 6 [(0, .slice p2 l1.length k3)] rfl ⟨rfl, trivial⟩
 have hw := Wd.enter (E := []) hS (fun _ h => (by cases h))
 have hw := hw.addE h4
 delta made_Roll at hsh
 refine wp_seq ?_
 refine wp_region_lit ?_
 refine st_val hs (y_assign rfl) trivial rfl rfl fun a hs => ?_
 refine wpList_nil ?_
 refine then_normal ?_
 refine wp_seq ?_
 refine wp_region_lit ?_
 refine st_val hs (y_move rfl) trivial rfl rfl fun a hs => ?_
 refine st_val hs (y_build (vs := [(0, .slice p2 l1.length k3)]) Bld50 rfl rfl) trivial rfl rfl fun a hs => ?_
 refine w_box (cs := [.slice p2 l1.length k3, .int .i64 0]) hs hw rfl rfl rfl trivial ?_
 intro b5 a w hs hw
 refine st_val hs (y_assign rfl) trivial rfl rfl fun a hs => ?_
 refine wpList_nil ?_
 refine then_normal ?_
 have hsh := Option.some.inj hsh
 subst hsh
 refine wp_ret ?_
 exact ret1 hs rfl (rv_tmp rfl) (hw.ret ⟨b5, p2, k3, rfl, (hw.outs [0] (by decide) rfl), (hw.envAt 0 rfl)⟩)

abbrev made_Dice_Next_rd (w0 : World) (X : List Nat) (b2 : Nat) (r : (Int × Dice)) : (Nat → Prop) → World → Value → Prop := fun S w v => ∃ (pq0_0 : Option Addr) (kq0_0 : Nat), v = .int .i64 r.1 ∧ Outs X w0 S w [.box b2 [.slice pq0_0 r.2.L.length kq0_0, .int .i64 r.2.At] 50] ∧ (SlA pq0_0 r.2.L.length kq0_0 r.2.L).p S w
set_option maxHeartbeats 4000000 in
set_option maxRecDepth 100000 in
theorem made_Dice_Next_ok {w0 : World} {S0 : Nat → Prop} {b2 : Nat} {p3 : Option Addr} {k4 : Nat} {d1 : Dice} {n6 : Int} {r : (Int × Dice)} (hsh : made_Dice_Next d1 n6 = some r) (hS : ∀ b, S0 b → b < w0.heap.size) (hin : Ins S0 w0 [.box b2 [.slice p3 d1.L.length k4, .int .i64 d1.At] 50]) (h5 : (SlA p3 d1.L.length k4 d1.L).p S0 w0) : Calls Try.prog 28 #[.pointer (some ⟨b2, 0, none⟩), .int .i64 n6] w0 (Ret (blks [.box b2 [.slice p3 d1.L.length k4, .int .i64 d1.At] 50]) w0 S0 (made_Dice_Next_rd w0 (blks [.box b2 [.slice p3 d1.L.length k4, .int .i64 d1.At] 50]) b2 r)) := by
 refine calls_of_wp Try.func28 rfl ?_
 have hs := Sl.enter #[.pointer (some ⟨b2, 0, none⟩), .int .i64 n6] 45 [(0, .pointer (some ⟨b2, 0, none⟩)), (1, .int .i64 n6)] rfl ⟨rfl, rfl, trivial⟩
 have hw := Wd.enterI hS hin
 have hw := hw.addE h5
 delta made_Dice_Next at hsh
 refine wp_seq ?_
 refine wp_region_lit ?_
 refine st_val hs (y_assign rfl) trivial rfl rfl fun a hs => ?_
 refine wpList_nil ?_
 refine then_normal ?_
 refine wp_seq ?_
 refine wp_seq ?_
 refine wp_only (fun a w => ∃ (Sv7 : Nat → Prop), Sl 45 [(0, .pointer (some ⟨b2, 0, none⟩)), (1, .int .i64 n6), (19, .bool ((decide ((d1.L.length : Int) ≤ d1.At)) || (decide (n6 < 1))))] a ∧ Wd ⟨w0, S0, blks [.box b2 [.slice p3 d1.L.length k4, .int .i64 d1.At] 50]⟩ Sv7 [.box b2 [.slice p3 d1.L.length k4, .int .i64 d1.At] 50] [SlA p3 d1.L.length k4 d1.L] w) ?_ ?_
 ·rcases Bool.eq_false_or_eq_true (decide ((d1.L.length : Int) ≤ d1.At)) with h8 | h8
  ·refine h_b (C := Cls [.box b2 [.slice p3 d1.L.length k4, .int .i64 d1.At] 50] []) (by kernel_rfl) rfl (hw.drew.cs [0] [] rfl rfl) fun hC => ?_
   have hw := hw.drew
   refine h_g hs 0 rfl (by kernel_rfl) rfl rfl hC rfl (fun w hC => y_move rfl) fun a hs => ?_
   refine h_g hs 1 rfl (by kernel_rfl) rfl rfl hC rfl (fun w hC => y_nilCheck rfl) fun a hs => ?_
   refine h_g hs 2 rfl (by kernel_rfl) rfl rfl hC rfl (fun w hC => y_fieldAddr (o' := 1) Try.runUnderlying50 rfl Try.sizeOf3 rfl rfl rfl) fun a hs => ?_
   refine h_g hs 3 rfl (by kernel_rfl) rfl rfl hC rfl (fun w hC => y_loadB1 (hC.ownAt 0 rfl) rfl Try.isAgg3 rfl) fun a hs => ?_
   refine h_g hs 4 rfl (by kernel_rfl) rfl rfl hC rfl (fun w hC => y_move rfl) fun a hs => ?_
   refine h_g hs 5 rfl (by kernel_rfl) rfl rfl hC rfl (fun w hC => y_nilCheck rfl) fun a hs => ?_
   refine h_g hs 6 rfl (by kernel_rfl) rfl rfl hC rfl (fun w hC => y_fieldAddr (o' := 0) Try.runUnderlying50 rfl Try.sizeOf22 rfl rfl rfl) fun a hs => ?_
   refine h_g hs 7 rfl (by kernel_rfl) rfl rfl hC rfl (fun w hC => y_loadB1 (hC.ownAt 0 rfl) rfl Try.isAgg22 rfl) fun a hs => ?_
   refine h_g hs 8 rfl (by kernel_rfl) rfl rfl hC rfl (fun w hC => y_len Try.runUnderlying22 rfl) fun a hs => ?_
   refine h_g hs 9 rfl (by kernel_rfl) rfl rfl hC rfl (fun w hC => y_geq rfl rfl) fun a hs => ?_
   refine h_g hs 10 rfl (by kernel_rfl) rfl rfl hC rfl (fun w hC => y_move rfl) fun a hs => ?_
   have hs := hs.fix 16 (.bool true) rfl (vb h8)
   refine h_s hs 11 rfl (by kernel_rfl) rfl rfl rfl (.inl rfl) rfl rfl hC fun a hs => ?_
   refine h_s hs 12 rfl (by kernel_rfl) rfl rfl rfl (.inl rfl) rfl rfl hC fun a hs => ?_
   refine h_g hs 13 rfl (by kernel_rfl) rfl rfl hC rfl (fun w hC => y_pickTE (v := .bool ((decide ((d1.L.length : Int) ≤ d1.At)) || (decide (n6 < 1)))) rfl rfl (or_t h8)) fun a hs => ?_
   refine h_done (by kernel_rfl) ?_
   exact ⟨S0, (hs.wk rfl), (hw.ft [0] [0] (by decide) rfl rfl)⟩
  ·refine h_b (C := Cls [.box b2 [.slice p3 d1.L.length k4, .int .i64 d1.At] 50] []) (by kernel_rfl) rfl (hw.drew.cs [0] [] rfl rfl) fun hC => ?_
   have hw := hw.drew
   refine h_g hs 0 rfl (by kernel_rfl) rfl rfl hC rfl (fun w hC => y_move rfl) fun a hs => ?_
   refine h_g hs 1 rfl (by kernel_rfl) rfl rfl hC rfl (fun w hC => y_nilCheck rfl) fun a hs => ?_
   refine h_g hs 2 rfl (by kernel_rfl) rfl rfl hC rfl (fun w hC => y_fieldAddr (o' := 1) Try.runUnderlying50 rfl Try.sizeOf3 rfl rfl rfl) fun a hs => ?_
   refine h_g hs 3 rfl (by kernel_rfl) rfl rfl hC rfl (fun w hC => y_loadB1 (hC.ownAt 0 rfl) rfl Try.isAgg3 rfl) fun a hs => ?_
   refine h_g hs 4 rfl (by kernel_rfl) rfl rfl hC rfl (fun w hC => y_move rfl) fun a hs => ?_
   refine h_g hs 5 rfl (by kernel_rfl) rfl rfl hC rfl (fun w hC => y_nilCheck rfl) fun a hs => ?_
   refine h_g hs 6 rfl (by kernel_rfl) rfl rfl hC rfl (fun w hC => y_fieldAddr (o' := 0) Try.runUnderlying50 rfl Try.sizeOf22 rfl rfl rfl) fun a hs => ?_
   refine h_g hs 7 rfl (by kernel_rfl) rfl rfl hC rfl (fun w hC => y_loadB1 (hC.ownAt 0 rfl) rfl Try.isAgg22 rfl) fun a hs => ?_
   refine h_g hs 8 rfl (by kernel_rfl) rfl rfl hC rfl (fun w hC => y_len Try.runUnderlying22 rfl) fun a hs => ?_
   refine h_g hs 9 rfl (by kernel_rfl) rfl rfl hC rfl (fun w hC => y_geq rfl rfl) fun a hs => ?_
   refine h_g hs 10 rfl (by kernel_rfl) rfl rfl hC rfl (fun w hC => y_move rfl) fun a hs => ?_
   have hs := hs.fix 16 (.bool false) rfl (vb h8)
   refine h_t hs 11 rfl (by kernel_rfl) ⟨_, rfl, rfl⟩ rfl rfl hC (fun w hC => y_move rfl) fun a hs => ?_
   refine h_t hs 12 rfl (by kernel_rfl) ⟨_, rfl, rfl⟩ rfl rfl hC (fun w hC => y_lss rfl rfl) fun a hs => ?_
   refine h_g hs 13 rfl (by kernel_rfl) rfl rfl hC rfl (fun w hC => y_pickFE (v := .bool ((decide ((d1.L.length : Int) ≤ d1.At)) || (decide (n6 < 1)))) rfl rfl (or_f h8)) fun a hs => ?_
   refine h_done (by kernel_rfl) ?_
   exact ⟨S0, (hs.wk rfl), (hw.ft [0] [0] (by decide) rfl rfl)⟩
 ·rintro a w ⟨Sv7, hs, hw⟩
  refine then_normal ?_
  refine wp_cond_split (hs.ev rfl) (fun h12 => ?_) (fun h12 => ?_)
  ·have hsh := ite_t hsh h12
   refine wp_seq ?_
   refine wp_region_lit ?_
   refine st_val hs (y_assign rfl) trivial rfl rfl fun a hs => ?_
   refine wpList_nil ?_
   refine then_normal ?_
   have hsh := Option.some.inj hsh
   subst hsh
   refine wp_ret ?_
   refine then_ret ?_
   exact ret1 hs rfl (rv_tmp rfl) (hw.ret ⟨p3, k4, rfl, (hw.outs [0] (by decide) rfl), (hw.envAt 0 rfl)⟩)
  ·have hsh := ite_f hsh h12
   refine wp_skip ?_
   refine then_normal ?_
   refine wp_seq ?_
   obtain ⟨x15, h13, hsh⟩ := bind_t hsh
   obtain ⟨b21, o22, q19, c20, h23, h16, h17, h18, h14⟩ := hw.elemV 0 rfl h13
   have hsv24 := hs
   have hwv25 := hw
   subst h23
   have hs := hsv24
   have hw := hwv25
   obtain ⟨_, rfl, rfl⟩ := h14
   have hw := hw.addE h18
   obtain ⟨rem27, h26, hsh⟩ := bind_t hsh
   refine wp_only (fun a w => ∃ (Sv28 : Nat → Prop), Sl 45 [(0, .pointer (some ⟨b2, 0, none⟩)), (1, .int .i64 n6), (5, .int .i64 rem27)] a ∧ Wd ⟨w0, S0, blks [.box b2 [.slice (some ⟨b21, o22, none⟩) d1.L.length k4, .int .i64 d1.At] 50]⟩ Sv28 [.box b2 [.slice (some ⟨b21, o22, none⟩) d1.L.length k4, .int .i64 d1.At] 50] [SlA (some ⟨b21, o22, none⟩) d1.L.length k4 d1.L] w) ?_ ?_
   ·refine h_b (C := Cls [.box b2 [.slice (some ⟨b21, o22, none⟩) d1.L.length k4, .int .i64 d1.At] 50] [CeA b21 q19 [.int .i64 x15]]) (by kernel_rfl) rfl (hw.drew.cs [0] [0] rfl rfl) fun hC => ?_
    have hw := hw.drew
    refine h_g hs 0 rfl (by kernel_rfl) rfl rfl hC rfl (fun w hC => y_move rfl) fun a hs => ?_
    refine h_g hs 1 rfl (by kernel_rfl) rfl rfl hC rfl (fun w hC => y_nilCheck rfl) fun a hs => ?_
    refine h_g hs 2 rfl (by kernel_rfl) rfl rfl hC rfl (fun w hC => y_fieldAddr (o' := 0) Try.runUnderlying50 rfl Try.sizeOf22 rfl rfl rfl) fun a hs => ?_
    refine h_g hs 3 rfl (by kernel_rfl) rfl rfl hC rfl (fun w hC => y_loadB1 (hC.ownAt 0 rfl) rfl Try.isAgg22 rfl) fun a hs => ?_
    refine h_g hs 4 rfl (by kernel_rfl) rfl rfl hC rfl (fun w hC => y_move rfl) fun a hs => ?_
    refine h_g hs 5 rfl (by kernel_rfl) rfl rfl hC rfl (fun w hC => y_nilCheck rfl) fun a hs => ?_
    refine h_g hs 6 rfl (by kernel_rfl) rfl rfl hC rfl (fun w hC => y_fieldAddr (o' := 1) Try.runUnderlying50 rfl Try.sizeOf3 rfl rfl rfl) fun a hs => ?_
    refine h_g hs 7 rfl (by kernel_rfl) rfl rfl hC rfl (fun w hC => y_loadB1 (hC.ownAt 0 rfl) rfl Try.isAgg3 rfl) fun a hs => ?_
    refine h_g hs 8 rfl (by kernel_rfl) rfl rfl hC rfl (fun w hC => y_indexAt Try.runUnderlying22 Try.sizeOf3 rfl rfl h16.1 h16.2 h17) fun a hs => ?_
    refine h_g hs 9 rfl (by kernel_rfl) rfl rfl hC rfl (fun w hC => y_loadE1 (j := 0) (hC.ceAt 0 rfl) rfl Try.isAgg3 rfl) fun a hs => ?_
    refine h_g hs 10 rfl (by kernel_rfl) rfl rfl hC rfl (fun w hC => y_move rfl) fun a hs => ?_
    refine h_g hs 11 rfl (by kernel_rfl) rfl rfl hC rfl (fun w hC => y_remM rfl rfl h26) fun a hs => ?_
    refine h_g hs 12 rfl (by kernel_rfl) rfl rfl hC rfl (fun w hC => y_assign rfl) fun a hs => ?_
    refine h_done (by kernel_rfl) ?_
    exact ⟨Sv7, (hs.wk rfl), (hw.ft [0] [1] (by decide) rfl rfl)⟩
   ·rintro a w ⟨Sv28, hs, hw⟩
    refine then_normal ?_
    refine wp_seq ?_
    refine wp_region_lit ?_
    refine st_val hs (y_move rfl) trivial rfl rfl fun a hs => ?_
    refine st_val hs (y_nilCheck rfl) trivial rfl rfl fun a hs => ?_
    refine st_val hs (y_fieldAddr (o' := 1) Try.runUnderlying50 rfl Try.sizeOf3 rfl rfl rfl) trivial rfl rfl fun a hs => ?_
    refine st_val hs (y_loadB1 (hw.ownAt 0 rfl) rfl Try.isAgg3 rfl) trivial rfl rfl fun a hs => ?_
    refine st_val hs (y_add rfl rfl) trivial rfl rfl fun a hs => ?_
    refine st_val hs (y_nilCheck rfl) trivial rfl rfl fun a hs => ?_
    refine st_val hs (y_fieldAddr (o' := 1) Try.runUnderlying50 rfl Try.sizeOf3 rfl rfl rfl) trivial rfl rfl fun a hs => ?_
    refine w_store (m := 1) (cs' := [.slice (some ⟨b21, o22, none⟩) d1.L.length k4, .int .i64 (w64 (d1.At + 1))]) hs hw 0 rfl rfl rfl Try.sizeOf3 rfl rfl rfl rfl trivial ?_
    intro a w hs hw
    refine wpList_nil ?_
    refine then_normal ?_
    refine wp_seq ?_
    refine wp_seq ?_
    refine wp_region_lit ?_
    refine st_val hs (y_move rfl) trivial rfl rfl fun a hs => ?_
    refine st_val hs (y_lss rfl rfl) trivial rfl rfl fun a hs => ?_
    refine wpList_nil ?_
    refine then_normal ?_
    refine wp_join (fun a w => ∃ (x33 : Int) (Sv32 : Nat → Prop), made_Dice_Next_j1 d1 x33 = some r ∧ Sl 45 [(5, .int .i64 x33)] a ∧ Wd ⟨w0, S0, blks [.box b2 [.slice (some ⟨b21, o22, none⟩) d1.L.length k4, .int .i64 d1.At] 50]⟩ Sv32 [.box b2 [.slice (some ⟨b21, o22, none⟩) d1.L.length k4, .int .i64 (w64 (d1.At + 1))] 50] [SlA (some ⟨b21, o22, none⟩) d1.L.length k4 d1.L] w) ?_ ?_
    ·refine wp_cond_split (hs.ev rfl) (fun h34 => ?_) (fun h34 => ?_)
     ·have hsh := ite_t hsh h34
      refine wp_region_lit ?_
      refine st_val hs (y_move rfl) trivial rfl rfl fun a hs => ?_
      refine st_val hs (y_move rfl) trivial rfl rfl fun a hs => ?_
      refine st_val hs (y_add rfl rfl) trivial rfl rfl fun a hs => ?_
      obtain ⟨x36, h35, hsh⟩ := bind_t hsh
      refine st_val hs (y_assignI rfl h35) trivial rfl rfl fun a hs => ?_
      refine wpList_nil ?_
      refine then_normal ?_
      exact ⟨x36, Sv28, hsh, (hs.wk rfl), (hw.ft [0] [0] (by decide) rfl rfl)⟩
     ·have hsh := ite_f hsh h34
      refine wp_skip ?_
      refine then_normal ?_
      exact ⟨rem27, Sv28, hsh, (hs.wk rfl), (hw.ft [0] [0] (by decide) rfl rfl)⟩
    ·rintro a w ⟨x33, Sv32, hsh, hs, hw⟩
     delta made_Dice_Next_j1 at hsh
     refine then_normal ?_
     refine wp_seq ?_
     refine wp_region_lit ?_
     refine st_val hs (y_move rfl) trivial rfl rfl fun a hs => ?_
     refine st_val hs (y_assign rfl) trivial rfl rfl fun a hs => ?_
     refine wpList_nil ?_
     refine then_normal ?_
     have hsh := Option.some.inj hsh
     subst hsh
     refine wp_ret ?_
     exact ret1 hs rfl (rv_tmp rfl) (hw.ret ⟨(some ⟨b21, o22, none⟩), k4, rfl, (hw.outs [0] (by decide) rfl), (hw.envAt 0 rfl)⟩)

abbrev made_Dice_Spans_rd (w0 : World) (X : List Nat) (b2 : Nat) (r : ((List Span) × Dice)) : (Nat → Prop) → World → Value → Prop := fun S w v => ∃ (p0_0 : Option Addr) (k0_0 : Nat) (c0_0 : List Value) (pq0_0 : Option Addr) (kq0_0 : Nat), v = .slice p0_0 r.1.length k0_0 ∧ Outs X w0 S w [.row p0_0 r.1.length k0_0 c0_0 34 2, .box b2 [.slice pq0_0 r.2.L.length kq0_0, .int .i64 r.2.At] 50] ∧ (RowA c0_0 r.1).p S w ∧ (SlA pq0_0 r.2.L.length kq0_0 r.2.L).p S w
set_option maxHeartbeats 4000000 in
set_option maxRecDepth 100000 in
theorem made_Dice_Spans_ok {w0 : World} {S0 : Nat → Prop} {b2 : Nat} {p3 : Option Addr} {k4 : Nat} {d1 : Dice} {r : ((List Span) × Dice)} (hsh : made_Dice_Spans d1 = some r) (hS : ∀ b, S0 b → b < w0.heap.size) (hin : Ins S0 w0 [.box b2 [.slice p3 d1.L.length k4, .int .i64 d1.At] 50]) (h5 : (SlA p3 d1.L.length k4 d1.L).p S0 w0) : Calls Try.prog 10 #[.pointer (some ⟨b2, 0, none⟩)] w0 (Ret (blks [.box b2 [.slice p3 d1.L.length k4, .int .i64 d1.At] 50]) w0 S0 (made_Dice_Spans_rd w0 (blks [.box b2 [.slice p3 d1.L.length k4, .int .i64 d1.At] 50]) b2 r)) := by
 refine calls_of_wp Try.func10 rfl ?_
 have hs := Sl.enter #[.pointer (some ⟨b2, 0, none⟩)] 25 [(0, .pointer (some ⟨b2, 0, none⟩))] rfl ⟨rfl, trivial⟩
 have hw := Wd.enterI hS hin
 have hw := hw.addE h5
 delta made_Dice_Spans at hsh
 refine wp_seq ?_
 refine wp_region_lit ?_
 refine st_val hs (y_assign rfl) trivial rfl rfl fun a hs => ?_
 refine wpList_nil ?_
 refine then_normal ?_
 refine wp_seq ?_
 refine wp_region_lit ?_
 refine st_val hs (y_assign rfl) trivial rfl rfl fun a hs => ?_
 refine wpList_nil ?_
 refine then_normal ?_
 refine wp_seq ?_
 refine wp_seq ?_
 refine wp_region_lit ?_
 refine st_val hs (y_move rfl) trivial rfl rfl fun a hs => ?_
 obtain ⟨rv7, h6, hsh⟩ := bind_t hsh
 refine st_callR hs (made_Dice_Next_ok h6 hw.dom (hw.ins [0] (by decide) rfl) (hw.envAt 0 rfl)) (do_call Try.call28 rfl) trivial rfl rfl ?_
 intro v14 Sv11 w a h12 h13 hs
 obtain ⟨p8, k9, rfl, h15, h10⟩ := h13
 have hw := hw.callO [0] [] (by decide) rfl h12 h15
 have hw := hw.addE (e := SlA p8 rv7.2.L.length k9 rv7.2.L) h10
 refine st_val hs (y_assign rfl) trivial rfl rfl fun a hs => ?_
 refine wpList_nil ?_
 refine then_normal ?_
 obtain ⟨e122, h188, hsh⟩ := bind_t hsh
 refine wp_join (fun a w => ∃ (p123 : Option Addr) (k124 : Nat) (c125 : List Value) (p126 : Option Addr) (k127 : Nat) (Sv128 : Nat → Prop), Sl 25 [(3, .slice p126 e122.2.2.length k127)] a ∧ Wd ⟨w0, S0, blks [.box b2 [.slice p3 d1.L.length k4, .int .i64 d1.At] 50]⟩ Sv128 [.box b2 [.slice p123 e122.1.length k124, .int .i64 e122.2.1] 50, .row p126 e122.2.2.length k127 c125 34 2] [SlA p123 e122.1.length k124 e122.1, RowA c125 e122.2.2] w) ?_ ?_
 ·refine wp_block ?_
  have hw := hw.nilRow Span 34
  refine wp_while (fun sv16 a w => ∃ (p83 : Option Addr) (k84 : Nat) (c85 : List Value) (p86 : Option Addr) (k87 : Nat) (Sv88 : Nat → Prop), Sl 25 [(0, .pointer (some ⟨b2, 0, none⟩)), (3, .slice p86 sv16.2.2.1.length k87), (4, .int .i64 sv16.2.2.2)] a ∧ Wd ⟨w0, S0, blks [.box b2 [.slice p3 d1.L.length k4, .int .i64 d1.At] 50]⟩ Sv88 [.box b2 [.slice p83 sv16.1.length k84, .int .i64 sv16.2.1] 50, .row p86 sv16.2.2.1.length k87 c85 34 2] [SlA p83 sv16.1.length k84 sv16.1, RowA c85 sv16.2.2.1] w) (rv7.2.L, rv7.2.At, ([] : List Span), rv7.1) h188 ⟨p8, k9, [], none, 0, Sv11, (hs.wk rfl), (hw.ft [1, 0] [1, 0] (by decide) rfl rfl)⟩ ?_
  clear h188
  repeat clear hsh
  rintro sv16 a w tv120 ⟨p83, k84, c85, p86, k87, Sv88, hs, hw⟩ hsh hd119
  delta made_Dice_Spans_l1 at hsh
  refine wp_seq ?_
  refine wp_seq ?_
  refine wp_region_lit ?_
  refine st_val hs (y_move rfl) trivial rfl rfl fun a hs => ?_
  refine st_val hs (y_gtr rfl rfl) trivial rfl rfl fun a hs => ?_
  refine wpList_nil ?_
  refine then_normal ?_
  refine wp_cond_split (hs.ev rfl) (fun h130 => ?_) (fun h130 => ?_)
  ·have hsh := ite_t hsh h130
   refine wp_skip ?_
   refine then_normal ?_
   refine wp_seq ?_
   refine wp_block ?_
   refine wp_seq ?_
   refine wp_region_lit ?_
   refine st_val hs (y_move rfl) trivial rfl rfl fun a hs => ?_
   obtain ⟨rv159, h158, hsh⟩ := bind_t hsh
   refine st_callR hs (made_Dice_Next_ok h158 hw.dom (hw.ins [0] (by decide) rfl) (hw.envAt 0 rfl)) (do_call Try.call28 rfl) trivial rfl rfl ?_
   intro v166 Sv163 w a h164 h165 hs
   obtain ⟨p160, k161, rfl, h167, h162⟩ := h165
   have hw := hw.callO [0] [1] (by decide) rfl h164 h167
   have hw := hw.addE (e := SlA p160 rv159.2.L.length k161 rv159.2.L) h162
   refine st_val hs (y_assign rfl) trivial rfl rfl fun a hs => ?_
   refine wpList_nil ?_
   refine then_normal ?_
   refine wp_region_lit ?_
   refine st_val hs (y_move rfl) trivial rfl rfl fun a hs => ?_
   refine st_val hs (y_move rfl) trivial rfl rfl fun a hs => ?_
   refine st_val hs (y_move rfl) trivial rfl rfl fun a hs => ?_
   refine st_val hs (y_move rfl) trivial rfl rfl fun a hs => ?_
   obtain ⟨rv169, h168, hsh⟩ := bind_t hsh
   refine st_callR hs (made_Dice_Next_ok h168 hw.dom (hw.ins [0] (by decide) rfl) (hw.envAt 0 rfl)) (do_call Try.call28 rfl) trivial rfl rfl ?_
   intro v176 Sv173 w a h174 h175 hs
   obtain ⟨p170, k171, rfl, h177, h172⟩ := h175
   have hw := hw.callO [0] [1] (by decide) rfl h174 h177
   have hw := hw.addE (e := SlA p170 rv169.2.L.length k171 rv169.2.L) h172
   refine st_val hs (y_add rfl rfl) trivial rfl rfl fun a hs => ?_
   refine st_val hs (y_sub rfl rfl) trivial rfl rfl fun a hs => ?_
   refine st_val hs (y_build (vs := [(0, .int .i64 rv159.1), (1, .int .i64 (w64 ((w64 (rv159.1 + rv169.1)) - 1)))]) Bld34 rfl rfl) trivial rfl rfl fun a hs => ?_
   refine w_litSlice (α := Span) (vs := [.agg #[.int .i64 rv159.1, .int .i64 (w64 ((w64 (rv159.1 + rv169.1)) - 1))]]) (cs := [.int .i64 rv159.1, .int .i64 (w64 ((w64 (rv159.1 + rv169.1)) - 1))]) (xs := ([(⟨rv159.1, (w64 ((w64 (rv159.1 + rv169.1)) - 1))⟩ : Span)] : List Span)) hs hw El25 rfl rfl rfl rfl rfl rfl ⟨⟨_, _, rfl, rfl, rfl⟩, rfl⟩ rfl trivial rfl fun b179 a w hs hw => ?_
   obtain ⟨l181, h180, hsh⟩ := bind_t hsh
   refine w_appendR (α := Span) hs hw El25 2 rfl rfl rfl 4 rfl 0 rfl 0 rfl h180 rfl trivial ?_
   intro p182 k183 c184 a w hs hw
   refine st_val hs (y_assign rfl) trivial rfl rfl fun a hs => ?_
   refine wpList_nil ?_
   refine blk_normal ?_
   refine then_normal ?_
   refine wp_region_lit ?_
   refine st_val hs (y_move rfl) trivial rfl rfl fun a hs => ?_
   refine st_val hs (y_sub rfl rfl) trivial rfl rfl fun a hs => ?_
   obtain ⟨i186, h185, hsh⟩ := bind_t hsh
   refine st_val hs (y_assignI rfl h185) trivial rfl rfl fun a hs => ?_
   refine wpList_nil ?_
   refine then_normal ?_
   exact ⟨_, (Option.some.inj hsh).symm, p170, k171, c184, p182, k183, Sv173, (hs.wk rfl), (hw.ft [1, 2] [2, 0] (by decide) rfl rfl)⟩
  ·have hsh := ite_f hsh h130
   refine wp_exit ?_
   refine then_exit ?_
   refine then_exit ?_
   refine blk_exit ?_
   have hsh := Option.some.inj hsh
   subst hsh
   have h187 := hd119 _ rfl
   subst h187
   refine then_normal ?_
   exact ⟨p83, k84, c85, p86, k87, Sv88, (hs.wk rfl), (hw.ft [0, 1] [0, 1] (by decide) rfl rfl)⟩
 ·rintro a w ⟨p123, k124, c125, p126, k127, Sv128, hs, hw⟩
  refine then_normal ?_
  refine wp_seq ?_
  refine wp_region_lit ?_
  refine st_val hs (y_move rfl) trivial rfl rfl fun a hs => ?_
  refine st_val hs (y_assign rfl) trivial rfl rfl fun a hs => ?_
  refine wpList_nil ?_
  refine then_normal ?_
  have hsh := Option.some.inj hsh
  subst hsh
  refine wp_ret ?_
  exact ret1 hs rfl (rv_tmp rfl) (hw.ret ⟨p126, k127, c125, p123, k124, rfl, (hw.outs [1, 0] (by decide) rfl), (hw.envAt 1 rfl), (hw.envAt 0 rfl)⟩)

abbrev ref08_Has_rd (w0 : World) (X : List Nat) (r : Bool) : (Nat → Prop) → World → Value → Prop := fun S w v => v = .bool r
set_option maxHeartbeats 4000000 in
set_option maxRecDepth 100000 in
theorem ref08_Has_ok {w0 : World} {S0 : Nat → Prop} {p2 : Option Addr} {k3 : Nat} {l1 : (List Span)} {x5 : Int} {r : Bool} (hsh : ref08_Has l1 x5 = some r) (hS : ∀ b, S0 b → b < w0.heap.size) (h4 : (SlA p2 l1.length k3 l1).p S0 w0) : Calls Try.prog 17 #[.slice p2 l1.length k3, .int .i64 x5] w0 (Ret ([]) w0 S0 (ref08_Has_rd w0 ([]) r)) := by
 refine calls_of_wp Try.func17 rfl ?_
 have hs := Sl.enter #[.slice p2 l1.length k3, .int .i64 x5] 28 [(0, .slice p2 l1.length k3), (1, .int .i64 x5)] rfl ⟨rfl, rfl, trivial⟩
 have hw := Wd.enter (E := []) hS (fun _ h => (by cases h))
 have hw := hw.addE h4
 delta ref08_Has at hsh
 refine wp_seq ?_
 refine wp_region_lit ?_
 refine st_val hs (y_assign rfl) trivial rfl rfl fun a hs => ?_
 refine wpList_nil ?_
 refine then_normal ?_
 refine wp_seq ?_
 refine wp_seq ?_
 refine wp_region_lit ?_
 refine st_val hs (y_assign rfl) trivial rfl rfl fun a hs => ?_
 refine wpList_nil ?_
 refine then_normal ?_
 refine wp_block ?_
 refine wp_while (fun sv119 a w => ∃ (Sv193 : Nat → Prop), Sl 28 [(0, .slice p2 l1.length k3), (1, .int .i64 x5), (5, .int .i64 sv119)] a ∧ Wd ⟨w0, S0, []⟩ Sv193 [] [SlA p2 l1.length k3 l1] w) 0 hsh ⟨S0, (hs.wk rfl), (hw.ft [] [0] (by decide) rfl rfl)⟩ ?_
 repeat clear hsh
 rintro sv119 a w tv231 ⟨Sv193, hs, hw⟩ hsh hd230
 delta ref08_Has_l2 at hsh
 refine wp_seq ?_
 refine wp_seq ?_
 refine wp_region_lit ?_
 refine st_val hs (y_move rfl) trivial rfl rfl fun a hs => ?_
 refine st_val hs (y_move rfl) trivial rfl rfl fun a hs => ?_
 refine st_val hs (y_len Try.runUnderlying25 rfl) trivial rfl rfl fun a hs => ?_
 refine st_val hs (y_lss rfl rfl) trivial rfl rfl fun a hs => ?_
 refine wpList_nil ?_
 refine then_normal ?_
 refine wp_cond_split (hs.ev rfl) (fun h235 => ?_) (fun h235 => ?_)
 ·have hsh := ite_t hsh h235
  refine wp_skip ?_
  refine then_normal ?_
  refine wp_seq ?_
  refine wp_block ?_
  refine wp_seq ?_
  refine wp_region_lit ?_
  refine st_val hs (y_move rfl) trivial rfl rfl fun a hs => ?_
  refine st_val hs (y_move rfl) trivial rfl rfl fun a hs => ?_
  obtain ⟨x271, h269, hsh⟩ := bind_t hsh
  obtain ⟨b277, o278, q275, c276, h279, h272, h273, h274, h270⟩ := hw.elemV 0 rfl h269
  have hsv280 := hs
  have hwv281 := hw
  subst h279
  have hs := hsv280
  have hw := hwv281
  obtain ⟨_, _, rfl, rfl, rfl⟩ := h270
  have hw := hw.addE h274
  refine st_val hs (y_indexAt Try.runUnderlying25 Try.sizeOf34 rfl rfl h272.1 h272.2 h273) trivial rfl rfl fun a hs => ?_
  refine st_val hs (y_fieldAddr (o' := q275 + 0) Try.runUnderlying34 rfl Try.sizeOf3 rfl rfl rfl) trivial rfl rfl fun a hs => ?_
  refine st_val hs (y_loadE1 (j := 0) (hw.ceAt 0 rfl) rfl Try.isAgg3 rfl) trivial rfl rfl fun a hs => ?_
  refine st_val hs (y_move rfl) trivial rfl rfl fun a hs => ?_
  refine st_val hs (y_leq rfl rfl) trivial rfl rfl fun a hs => ?_
  refine st_val hs (y_move rfl) trivial rfl rfl fun a hs => ?_
  obtain ⟨c291, hc291, hsh⟩ := bind_t hsh
  refine wpl_join 8 (fun a w => ∃ (Sv292 : Nat → Prop), Sl 28 [(0, .slice (some ⟨b277, o278, none⟩) l1.length k3), (1, .int .i64 x5), (5, .int .i64 sv119), (27, .bool c291)] a ∧ Wd ⟨w0, S0, []⟩ Sv292 [] [SlA (some ⟨b277, o278, none⟩) l1.length k3 l1] w) ?_ ?_
  ·rcases Bool.eq_false_or_eq_true (decide (x271.From ≤ x5)) with h290 | h290
   ·have hs := hs.fix 19 (.bool true) rfl (vb h290)
    have hsh := ite_t hc291 h290
    refine st_val hs (y_move rfl) ⟨_, rfl, rfl⟩ rfl rfl fun a hs => ?_
    refine st_val hs (y_move rfl) ⟨_, rfl, rfl⟩ rfl rfl fun a hs => ?_
    refine st_val hs (y_move rfl) ⟨_, rfl, rfl⟩ rfl rfl fun a hs => ?_
    obtain ⟨x295, h293, hsh⟩ := bind_t hsh
    obtain ⟨q299, c300, h296, h297, h298, h294⟩ := hw.elemK 1 rfl h293
    obtain ⟨_, _, rfl, rfl, rfl⟩ := h294
    have hw := hw.addE h298
    refine st_val hs (y_indexAt Try.runUnderlying25 Try.sizeOf34 rfl rfl h296.1 h296.2 h297) ⟨_, rfl, rfl⟩ rfl rfl fun a hs => ?_
    refine st_val hs (y_fieldAddr (o' := q299 + 1) Try.runUnderlying34 rfl Try.sizeOf3 rfl rfl rfl) ⟨_, rfl, rfl⟩ rfl rfl fun a hs => ?_
    refine st_val hs (y_loadE1 (j := 1) (hw.ceAt 0 rfl) rfl Try.isAgg3 rfl) ⟨_, rfl, rfl⟩ rfl rfl fun a hs => ?_
    refine st_val hs (y_lss rfl rfl) ⟨_, rfl, rfl⟩ rfl rfl fun a hs => ?_
    refine st_val hs (y_pickT rfl rfl) trivial rfl rfl fun a hs => ?_
    refine wpList_nil ?_
    have hsh := Option.some.inj hsh
    subst hsh
    refine then_normal ?_
    exact ⟨Sv193, (hs.wk rfl), (hw.ft [] [2] (by decide) rfl rfl)⟩
   ·have hs := hs.fix 19 (.bool false) rfl (vb h290)
    have hsh := ite_f hc291 h290
    refine st_skip hs rfl rfl rfl rfl rfl fun a hs => ?_
    refine st_skip hs rfl rfl rfl rfl rfl fun a hs => ?_
    refine st_skip hs rfl rfl rfl rfl rfl fun a hs => ?_
    refine st_skip hs rfl rfl rfl rfl rfl fun a hs => ?_
    refine st_skip hs rfl rfl rfl rfl rfl fun a hs => ?_
    refine st_skip hs rfl rfl rfl rfl rfl fun a hs => ?_
    refine st_skip hs rfl rfl rfl rfl rfl fun a hs => ?_
    refine st_val hs (y_pickF rfl rfl) trivial rfl rfl fun a hs => ?_
    refine wpList_nil ?_
    have hsh := Option.some.inj hsh
    subst hsh
    refine then_normal ?_
    exact ⟨Sv193, (hs.wk rfl), (hw.ft [] [1] (by decide) rfl rfl)⟩
  ·rintro a w ⟨Sv292, hs, hw⟩
   refine wpList_nil ?_
   refine then_normal ?_
   refine wp_cond_split (hs.ev rfl) (fun h302 => ?_) (fun h302 => ?_)
   ·have hsh := ite_t hsh h302
    refine wp_seq ?_
    refine wp_region_lit ?_
    refine st_val hs (y_assign rfl) trivial rfl rfl fun a hs => ?_
    refine wpList_nil ?_
    refine then_normal ?_
    have hsh := Option.some.inj hsh
    subst hsh
    have h303 := hd230 _ rfl
    subst h303
    refine wp_ret ?_
    refine blk_ret ?_
    refine then_ret ?_
    refine then_ret ?_
    refine blk_ret ?_
    refine then_ret ?_
    exact ret1 hs rfl (rv_tmp rfl) (hw.ret rfl)
   ·have hsh := ite_f hsh h302
    refine wp_skip ?_
    refine blk_normal ?_
    refine then_normal ?_
    refine wp_region_lit ?_
    refine st_val hs (y_move rfl) trivial rfl rfl fun a hs => ?_
    refine st_val hs (y_add rfl rfl) trivial rfl rfl fun a hs => ?_
    obtain ⟨i305, h304, hsh⟩ := bind_t hsh
    refine st_val hs (y_assignI rfl h304) trivial rfl rfl fun a hs => ?_
    refine wpList_nil ?_
    refine then_normal ?_
    exact ⟨_, (Option.some.inj hsh).symm, Sv292, (hs.wk rfl), (hw.ft [] [0] (by decide) rfl rfl)⟩
 ·have hsh := ite_f hsh h235
  obtain ⟨rv306, hsh, h307⟩ := map_t hsh
  have h307 := (hd230 _ h307.symm).symm
  subst h307
  refine wp_exit ?_
  refine then_exit ?_
  refine then_exit ?_
  refine blk_exit ?_
  refine then_normal ?_
  refine wp_seq ?_
  refine wp_region_lit ?_
  refine st_val hs (y_assign rfl) trivial rfl rfl fun a hs => ?_
  refine wpList_nil ?_
  refine then_normal ?_
  have hsh := Option.some.inj hsh
  subst hsh
  refine wp_ret ?_
  exact ret1 hs rfl (rv_tmp rfl) (hw.ret rfl)

abbrev slices_Grow_Lapi_Span_api_Span_n_rd (w0 : World) (X : List Nat) (r : (List Span)) : (Nat → Prop) → World → Value → Prop := fun S w v => ∃ (p0_0 : Option Addr) (k0_0 : Nat) (c0_0 : List Value), v = .slice p0_0 r.length k0_0 ∧ Outs X w0 S w [.row p0_0 r.length k0_0 c0_0 34 2] ∧ (RowA c0_0 r).p S w
set_option maxHeartbeats 4000000 in
set_option maxRecDepth 100000 in
theorem slices_Grow_Lapi_Span_api_Span_n_ok {w0 : World} {S0 : Nat → Prop} {n1 : Int} {r : (List Span)} (hsh : slices_Grow_Lapi_Span_api_Span_n n1 = some r) (hS : ∀ b, S0 b → b < w0.heap.size) : Calls Try.prog 50 #[.slice none 0 0, .int .i64 n1] w0 (Ret ([]) w0 S0 (slices_Grow_Lapi_Span_api_Span_n_rd w0 ([]) r)) := by
 refine calls_of_wp Try.func50 rfl ?_
 have hs := Sl.enter #[.slice none 0 0, .int .i64 n1] 27 [(0, .slice none 0 0), (1, .int .i64 n1)] rfl ⟨rfl, rfl, trivial⟩
 have hw := Wd.enter (E := []) hS (fun _ h => (by cases h))
 delta slices_Grow_Lapi_Span_api_Span_n at hsh
 refine wp_seq ?_
 refine wp_region_lit ?_
 refine st_val hs (y_assign rfl) trivial rfl rfl fun a hs => ?_
 refine wpList_nil ?_
 refine then_normal ?_
 refine wp_seq ?_
 refine wp_seq ?_
 refine wp_region_lit ?_
 refine st_val hs (y_move rfl) trivial rfl rfl fun a hs => ?_
 refine st_val hs (y_lss rfl rfl) trivial rfl rfl fun a hs => ?_
 refine wpList_nil ?_
 refine then_normal ?_
 refine wp_cond_split (hs.ev rfl) (fun h3 => ?_) (fun h3 => ?_)
 ·have hsh := ite_t hsh h3
  cases hsh
 ·have hsh := ite_f hsh h3
  refine wp_skip ?_
  refine then_normal ?_
  refine wp_seq ?_
  refine wp_seq ?_
  refine wp_region_lit ?_
  refine st_val hs (y_move rfl) trivial rfl rfl fun a hs => ?_
  refine st_val hs (y_move rfl) trivial rfl rfl fun a hs => ?_
  refine st_val hs (y_cap Try.runUnderlying25 rfl) trivial rfl rfl fun a hs => ?_
  refine st_val hs (y_move rfl) trivial rfl rfl fun a hs => ?_
  refine st_val hs (y_len Try.runUnderlying25 rfl) trivial rfl rfl fun a hs => ?_
  refine st_val hs (y_sub rfl rfl) trivial rfl rfl fun a hs => ?_
  refine st_val hs (y_sub rfl rfl) trivial rfl rfl fun a hs => ?_
  obtain ⟨n5, h4, hsh⟩ := bind_t hsh
  refine st_val hs (y_assignI rfl h4) trivial rfl rfl fun a hs => ?_
  refine wpList_nil ?_
  refine then_normal ?_
  refine wp_seq ?_
  refine wp_region_lit ?_
  refine st_val hs (y_move rfl) trivial rfl rfl fun a hs => ?_
  refine st_val hs (y_gtr rfl rfl) trivial rfl rfl fun a hs => ?_
  refine wpList_nil ?_
  refine then_normal ?_
  refine wp_join (fun a w => ∃ (sv23 : (List Span)) (c19 : List Value) (p20 : Option Addr) (k21 : Nat) (Sv22 : Nat → Prop), slices_Grow_Lapi_Span_api_Span_n_j1 sv23 = some r ∧ Sl 27 [(0, .slice p20 sv23.length k21)] a ∧ Wd ⟨w0, S0, []⟩ Sv22 [.row p20 sv23.length k21 c19 34 2] [RowA c19 sv23] w) ?_ ?_
  ·refine wp_cond_split (hs.ev rfl) (fun h24 => ?_) (fun h24 => ?_)
   ·have hsh := ite_t hsh h24
    refine wp_region_lit ?_
    refine st_val hs (y_move rfl) trivial rfl rfl fun a hs => ?_
    refine st_val hs (y_move rfl) trivial rfl rfl fun a hs => ?_
    refine st_val hs (y_cap Try.runUnderlying25 rfl) trivial rfl rfl fun a hs => ?_
    obtain ⟨l28, h25, hsh⟩ := bind_t hsh
    obtain ⟨h26, h27⟩ := sub_nil 2 h25
    subst h26
    refine st_val hs (y_slc Try.runUnderlying25 Try.sizeOf34 rfl (by exact rfl) ⟨_, rfl⟩ h27) trivial rfl rfl fun a hs => ?_
    refine st_val hs (y_move rfl) trivial rfl rfl fun a hs => ?_
    obtain ⟨l30, h29, hsh⟩ := bind_t hsh
    refine w_appendMk (α := Span) hs hw El25 ⟨_, _, rfl, rfl, rfl⟩ Try.underlying3 rfl rfl h29 rfl rfl trivial ?_
    intro p31 k32 c33 a w hs hw
    refine st_val hs (y_move rfl) trivial rfl rfl fun a hs => ?_
    refine st_val hs (y_len Try.runUnderlying25 rfl) trivial rfl rfl fun a hs => ?_
    obtain ⟨l36, h34, hsh⟩ := bind_t hsh
    obtain ⟨hw, h35⟩ := w_cut hw 0 rfl 0 rfl h34
    refine st_val hs (y_slc Try.runUnderlying25 Try.sizeOf34 rfl (by exact rfl) ⟨_, rfl⟩ h35) trivial rfl rfl fun a hs => ?_
    refine st_val hs (y_assign rfl) trivial rfl rfl fun a hs => ?_
    refine wpList_nil ?_
    refine then_normal ?_
    exact ⟨l36, (c33.take (l36.length * 2)), p31, k32, S0, hsh, (hs.wk rfl), (hw.ft [0] [0] (by decide) rfl rfl)⟩
   ·have hsh := ite_f hsh h24
    refine wp_skip ?_
    refine then_normal ?_
    have hw := hw.nilRow Span 34
    exact ⟨([] : List Span), [], none, 0, S0, hsh, (hs.wk rfl), (hw.ft [0] [0] (by decide) rfl rfl)⟩
  ·rintro a w ⟨sv23, c19, p20, k21, Sv22, hsh, hs, hw⟩
   delta slices_Grow_Lapi_Span_api_Span_n_j1 at hsh
   refine then_normal ?_
   refine wp_seq ?_
   refine wp_region_lit ?_
   refine st_val hs (y_move rfl) trivial rfl rfl fun a hs => ?_
   refine st_val hs (y_assign rfl) trivial rfl rfl fun a hs => ?_
   refine wpList_nil ?_
   refine then_normal ?_
   have hsh := Option.some.inj hsh
   subst hsh
   refine wp_ret ?_
   exact ret1 hs rfl (rv_tmp rfl) (hw.ret ⟨p20, k21, c19, rfl, (hw.outs [0] (by decide) rfl), (hw.envAt 0 rfl)⟩)

abbrev slices_Concat_Lapi_Span_api_Span_rd (w0 : World) (X : List Nat) (r : (List Span)) : (Nat → Prop) → World → Value → Prop := fun S w v => ∃ (p0_0 : Option Addr) (k0_0 : Nat) (c0_0 : List Value), v = .slice p0_0 r.length k0_0 ∧ Outs X w0 S w [.row p0_0 r.length k0_0 c0_0 34 2] ∧ (RowA c0_0 r).p S w
set_option maxHeartbeats 4000000 in
set_option maxRecDepth 100000 in
theorem slices_Concat_Lapi_Span_api_Span_ok {w0 : World} {S0 : Nat → Prop} {p2 : Option Addr} {k3 : Nat} {slices1 : (List (List Span))} {r : (List Span)} (hsh : slices_Concat_Lapi_Span_api_Span slices1 = some r) (hS : ∀ b, S0 b → b < w0.heap.size) (h4 : (SlA p2 slices1.length k3 slices1).p S0 w0) : Calls Try.prog 41 #[.slice p2 slices1.length k3] w0 (Ret ([]) w0 S0 (slices_Concat_Lapi_Span_api_Span_rd w0 ([]) r)) := by
 refine calls_of_wp Try.func41 rfl ?_
 have hs := Sl.enter #[.slice p2 slices1.length k3] 36 [(0, .slice p2 slices1.length k3)] rfl ⟨rfl, trivial⟩
 have hw := Wd.enter (E := []) hS (fun _ h => (by cases h))
 have hw := hw.addE h4
 delta slices_Concat_Lapi_Span_api_Span at hsh
 refine wp_seq ?_
 refine wp_region_lit ?_
 refine st_val hs (y_assign rfl) trivial rfl rfl fun a hs => ?_
 refine wpList_nil ?_
 refine then_normal ?_
 refine wp_seq ?_
 refine wp_region_lit ?_
 refine st_val hs (y_assign rfl) trivial rfl rfl fun a hs => ?_
 refine wpList_nil ?_
 refine then_normal ?_
 refine wp_seq ?_
 refine wp_seq ?_
 refine wp_region_lit ?_
 refine st_val hs (y_move rfl) trivial rfl rfl fun a hs => ?_
 refine st_val hs (y_len Try.runUnderlying65 rfl) trivial rfl rfl fun a hs => ?_
 refine st_val hs (y_move rfl) trivial rfl rfl fun a hs => ?_
 refine wpList_nil ?_
 refine then_normal ?_
 obtain ⟨e74, h265, hsh⟩ := bind_t hsh
 refine wp_join (fun a w => ∃ (Sv75 : Nat → Prop), Sl 36 [(0, .slice p2 slices1.length k3), (3, .int .i64 e74)] a ∧ Wd ⟨w0, S0, []⟩ Sv75 [] [SlA p2 slices1.length k3 slices1] w) ?_ ?_
 ·refine wp_block ?_
  refine wp_while (fun sv5 a w => ∃ (Sv49 : Nat → Prop), Sl 36 [(0, .slice p2 slices1.length k3), (3, .int .i64 sv5.1), (9, .slice p2 slices1.length k3), (10, .int .i64 (slices1.length : Int)), (11, .int .i64 sv5.2)] a ∧ Wd ⟨w0, S0, []⟩ Sv49 [] [SlA p2 slices1.length k3 slices1] w) (0, 0) h265 ⟨S0, (hs.wk rfl), (hw.ft [] [0] (by decide) rfl rfl)⟩ ?_
  clear h265
  repeat clear hsh
  rintro sv5 a w tv72 ⟨Sv49, hs, hw⟩ hsh hd71
  delta slices_Concat_Lapi_Span_api_Span_l1 at hsh
  refine wp_seq ?_
  refine wp_region_lit ?_
  refine st_val hs (y_lss rfl rfl) trivial rfl rfl fun a hs => ?_
  refine wpList_nil ?_
  refine then_normal ?_
  refine wp_seq ?_
  refine wp_cond_split (hs.ev rfl) (fun h77 => ?_) (fun h77 => ?_)
  ·have hsh := ite_t hsh h77
   refine wp_skip ?_
   refine then_normal ?_
   refine wp_seq ?_
   refine wp_block ?_
   refine wp_seq ?_
   refine wp_region_lit ?_
   obtain ⟨x100, h98, hsh⟩ := bind_t hsh
   obtain ⟨b106, o107, q104, c105, h108, h101, h102, h103, h99⟩ := hw.elemV 0 rfl h98
   have hsv109 := hs
   have hwv110 := hw
   subst h108
   have hs := hsv109
   have hw := hwv110
   obtain ⟨_, rfl, ⟨p111, n112, k113, rfl, h114⟩⟩ := h99
   obtain rfl := h114.1
   have hw := hw.addE (e := SlA p111 _ k113 x100) h114
   have hw := hw.addE h103
   refine st_val hs (y_indexAt Try.runUnderlying65 Try.sizeOf25 rfl rfl h101.1 h101.2 h102) trivial rfl rfl fun a hs => ?_
   refine st_val hs (y_loadE1 (j := 0) (hw.ceAt 0 rfl) rfl Try.isAgg25 rfl) trivial rfl rfl fun a hs => ?_
   refine st_val hs (y_assign rfl) trivial rfl rfl fun a hs => ?_
   refine wpList_nil ?_
   refine then_normal ?_
   refine wp_seq ?_
   refine wp_region_lit ?_
   refine st_val hs (y_move rfl) trivial rfl rfl fun a hs => ?_
   refine st_val hs (y_move rfl) trivial rfl rfl fun a hs => ?_
   refine st_val hs (y_len Try.runUnderlying25 rfl) trivial rfl rfl fun a hs => ?_
   refine st_val hs (y_add rfl rfl) trivial rfl rfl fun a hs => ?_
   obtain ⟨size116, h115, hsh⟩ := bind_t hsh
   refine st_val hs (y_assignI rfl h115) trivial rfl rfl fun a hs => ?_
   refine wpList_nil ?_
   refine then_normal ?_
   refine wp_seq ?_
   refine wp_region_lit ?_
   refine st_val hs (y_move rfl) trivial rfl rfl fun a hs => ?_
   refine st_val hs (y_lss rfl rfl) trivial rfl rfl fun a hs => ?_
   refine wpList_nil ?_
   refine then_normal ?_
   refine wp_cond_split (hs.ev rfl) (fun h118 => ?_) (fun h118 => ?_)
   ·have hsh := ite_t hsh h118
    cases hsh
   ·have hsh := ite_f hsh h118
    refine wp_skip ?_
    refine blk_normal ?_
    refine then_normal ?_
    refine wp_region_lit ?_
    refine st_val hs (y_add rfl rfl) trivial rfl rfl fun a hs => ?_
    refine st_val hs (y_move rfl) trivial rfl rfl fun a hs => ?_
    refine wpList_nil ?_
    refine then_normal ?_
    exact ⟨_, (Option.some.inj hsh).symm, Sv49, (hs.wk rfl), (hw.ft [] [2] (by decide) rfl rfl)⟩
  ·have hsh := ite_f hsh h77
   refine wp_exit ?_
   refine then_exit ?_
   refine then_exit ?_
   refine blk_exit ?_
   have hsh := Option.some.inj hsh
   subst hsh
   have h119 := hd71 _ rfl
   subst h119
   refine then_normal ?_
   exact ⟨Sv49, (hs.wk rfl), (hw.ft [] [0] (by decide) rfl rfl)⟩
 ·rintro a w ⟨Sv75, hs, hw⟩
  refine then_normal ?_
  refine wp_seq ?_
  refine wp_region_lit ?_
  refine st_val hs (y_move rfl) trivial rfl rfl fun a hs => ?_
  obtain ⟨rv121, h120, hsh⟩ := bind_t hsh
  refine st_callR hs (slices_Grow_Lapi_Span_api_Span_n_ok h120 hw.dom) (do_call Try.call50 rfl) trivial rfl rfl ?_
  intro v129 Sv126 w a h127 h128 hs
  obtain ⟨p122, k123, c125, rfl, h130, h124⟩ := h128
  have hw := hw.callN h127 h130
  have hw := hw.addE (e := RowA c125 rv121) h124
  refine st_val hs (y_assign rfl) trivial rfl rfl fun a hs => ?_
  refine wpList_nil ?_
  refine then_normal ?_
  refine wp_seq ?_
  refine wp_seq ?_
  refine wp_region_lit ?_
  refine st_val hs (y_move rfl) trivial rfl rfl fun a hs => ?_
  refine st_val hs (y_len Try.runUnderlying65 rfl) trivial rfl rfl fun a hs => ?_
  refine st_val hs (y_move rfl) trivial rfl rfl fun a hs => ?_
  refine wpList_nil ?_
  refine then_normal ?_
  obtain ⟨e212, h264, hsh⟩ := bind_t hsh
  refine wp_join (fun a w => ∃ (c213 : List Value) (p214 : Option Addr) (k215 : Nat) (Sv216 : Nat → Prop), Sl 36 [(6, .slice p214 e212.length k215)] a ∧ Wd ⟨w0, S0, []⟩ Sv216 [.row p214 e212.length k215 c213 34 2] [RowA c213 e212] w) ?_ ?_
  ·refine wp_block ?_
   refine wp_while (fun sv131 a w => ∃ (c182 : List Value) (p183 : Option Addr) (k184 : Nat) (Sv185 : Nat → Prop), Sl 36 [(6, .slice p183 sv131.1.length k184), (25, .slice p2 slices1.length k3), (26, .int .i64 (slices1.length : Int)), (27, .int .i64 sv131.2)] a ∧ Wd ⟨w0, S0, []⟩ Sv185 [.row p183 sv131.1.length k184 c182 34 2] [SlA p2 slices1.length k3 slices1, RowA c182 sv131.1] w) (rv121, 0) h264 ⟨c125, p122, k123, Sv126, (hs.wk rfl), (hw.ft [0] [1, 0] (by decide) rfl rfl)⟩ ?_
   clear h264
   repeat clear hsh
   rintro sv131 a w tv210 ⟨c182, p183, k184, Sv185, hs, hw⟩ hsh hd209
   delta slices_Concat_Lapi_Span_api_Span_l2 at hsh
   refine wp_seq ?_
   refine wp_region_lit ?_
   refine st_val hs (y_lss rfl rfl) trivial rfl rfl fun a hs => ?_
   refine wpList_nil ?_
   refine then_normal ?_
   refine wp_seq ?_
   refine wp_cond_split (hs.ev rfl) (fun h218 => ?_) (fun h218 => ?_)
   ·have hsh := ite_t hsh h218
    refine wp_skip ?_
    refine then_normal ?_
    refine wp_seq ?_
    refine wp_block ?_
    refine wp_seq ?_
    refine wp_region_lit ?_
    obtain ⟨x243, h241, hsh⟩ := bind_t hsh
    obtain ⟨b249, o250, q247, c248, h251, h244, h245, h246, h242⟩ := hw.elemV 0 rfl h241
    have hsv252 := hs
    have hwv253 := hw
    subst h251
    have hs := hsv252
    have hw := hwv253
    obtain ⟨_, rfl, ⟨p254, n255, k256, rfl, h257⟩⟩ := h242
    obtain rfl := h257.1
    have hw := hw.addE (e := SlA p254 _ k256 x243) h257
    have hw := hw.addE h246
    refine st_val hs (y_indexAt Try.runUnderlying65 Try.sizeOf25 rfl rfl h244.1 h244.2 h245) trivial rfl rfl fun a hs => ?_
    refine st_val hs (y_loadE1 (j := 0) (hw.ceAt 0 rfl) rfl Try.isAgg25 rfl) trivial rfl rfl fun a hs => ?_
    refine st_val hs (y_assign rfl) trivial rfl rfl fun a hs => ?_
    refine wpList_nil ?_
    refine then_normal ?_
    refine wp_region_lit ?_
    refine st_val hs (y_move rfl) trivial rfl rfl fun a hs => ?_
    refine st_val hs (y_move rfl) trivial rfl rfl fun a hs => ?_
    obtain ⟨l259, h258, hsh⟩ := bind_t hsh
    refine w_appendE (α := Span) hs hw El25 0 rfl rfl rfl 3 rfl 1 rfl h258 rfl trivial ?_
    intro p260 k261 c262 a w hs hw
    refine st_val hs (y_assign rfl) trivial rfl rfl fun a hs => ?_
    refine wpList_nil ?_
    refine blk_normal ?_
    refine then_normal ?_
    refine wp_region_lit ?_
    refine st_val hs (y_add rfl rfl) trivial rfl rfl fun a hs => ?_
    refine st_val hs (y_move rfl) trivial rfl rfl fun a hs => ?_
    refine wpList_nil ?_
    refine then_normal ?_
    exact ⟨_, (Option.some.inj hsh).symm, c262, p260, k261, Sv185, (hs.wk rfl), (hw.ft [0] [3, 0] (by decide) rfl rfl)⟩
   ·have hsh := ite_f hsh h218
    refine wp_exit ?_
    refine then_exit ?_
    refine then_exit ?_
    refine blk_exit ?_
    have hsh := Option.some.inj hsh
    subst hsh
    have h263 := hd209 _ rfl
    subst h263
    refine then_normal ?_
    exact ⟨c182, p183, k184, Sv185, (hs.wk rfl), (hw.ft [0] [1] (by decide) rfl rfl)⟩
  ·rintro a w ⟨c213, p214, k215, Sv216, hs, hw⟩
   refine then_normal ?_
   refine wp_seq ?_
   refine wp_region_lit ?_
   refine st_val hs (y_move rfl) trivial rfl rfl fun a hs => ?_
   refine st_val hs (y_assign rfl) trivial rfl rfl fun a hs => ?_
   refine wpList_nil ?_
   refine then_normal ?_
   have hsh := Option.some.inj hsh
   subst hsh
   refine wp_ret ?_
   exact ret1 hs rfl (rv_tmp rfl) (hw.ret ⟨p214, k215, c213, rfl, (hw.outs [0] (by decide) rfl), (hw.envAt 0 rfl)⟩)

abbrev span_Union_rd (w0 : World) (X : List Nat) (r : (List Span)) : (Nat → Prop) → World → Value → Prop := fun S w v => ∃ (p0_0 : Option Addr) (k0_0 : Nat) (c0_0 : List Value), v = .slice p0_0 r.length k0_0 ∧ Outs X w0 S w [.row p0_0 r.length k0_0 c0_0 34 2] ∧ (RowA c0_0 r).p S w
set_option maxHeartbeats 4000000 in
set_option maxRecDepth 100000 in
theorem span_Union_ok {w0 : World} {S0 : Nat → Prop} {p2 : Option Addr} {k3 : Nat} {p6 : Option Addr} {k7 : Nat} {a1 : (List Span)} {b5 : (List Span)} {r : (List Span)} (hsh : span_Union a1 b5 = some r) (hS : ∀ b, S0 b → b < w0.heap.size) (h4 : (SlA p2 a1.length k3 a1).p S0 w0) (h8 : (SlA p6 b5.length k7 b5).p S0 w0) : Calls Try.prog 18 #[.slice p2 a1.length k3, .slice p6 b5.length k7] w0 (Ret ([]) w0 S0 (span_Union_rd w0 ([]) r)) := by
 refine calls_of_wp Try.func18 rfl ?_
 have hs := Sl.enter #[.slice p2 a1.length k3, .slice p6 b5.length k7] 10 [(0, .slice p2 a1.length k3), (1, .slice p6 b5.length k7)] rfl ⟨rfl, rfl, trivial⟩
 have hw := Wd.enter (E := []) hS (fun _ h => (by cases h))
 have hw := hw.addE h4
 have hw := hw.addE h8
 delta span_Union at hsh
 refine wp_seq ?_
 refine wp_region_lit ?_
 refine st_val hs (y_assign rfl) trivial rfl rfl fun a hs => ?_
 refine wpList_nil ?_
 refine then_normal ?_
 refine wp_seq ?_
 refine wp_region_lit ?_
 refine st_val hs (y_move rfl) trivial rfl rfl fun a hs => ?_
 refine st_val hs (y_move rfl) trivial rfl rfl fun a hs => ?_
 refine w_litSlice (α := (List Span)) (vs := [.slice p2 a1.length k3, .slice p6 b5.length k7]) (cs := [.slice p2 a1.length k3, .slice p6 b5.length k7]) (xs := ([a1, b5] : List (List Span))) hs hw El65 rfl rfl rfl rfl rfl rfl ⟨⟨_, rfl, ⟨_, _, _, rfl, hw.envAt 1 rfl⟩⟩, ⟨⟨_, rfl, ⟨_, _, _, rfl, hw.envAt 0 rfl⟩⟩, rfl⟩⟩ rfl trivial rfl fun b10 a w hs hw => ?_
 obtain ⟨rv12, h11, hsh⟩ := bind_t hsh
 obtain ⟨Sv17, hw⟩ := w_share (α := (List Span)) hw 0 rfl 0 rfl
 refine st_callR hs (slices_Concat_Lapi_Span_api_Span_ok h11 hw.dom (hw.envAt 0 rfl)) (do_call Try.call41 rfl) trivial rfl rfl ?_
 intro v21 Sv18 w a h19 h20 hs
 obtain ⟨p13, k14, c16, rfl, h22, h15⟩ := h20
 have hw := hw.callN h19 h22
 have hw := hw.addE (e := RowA c16 rv12) h15
 obtain ⟨rv24, h23, hsh⟩ := bind_t hsh
 obtain ⟨Sv29, hw⟩ := w_share (α := Span) hw 0 rfl 0 rfl
 refine st_callR hs (span_Normal_ok h23 hw.dom (hw.envAt 0 rfl)) (do_call Try.call16 rfl) trivial rfl rfl ?_
 intro v33 Sv30 w a h31 h32 hs
 obtain ⟨p25, k26, c28, rfl, h34, h27⟩ := h32
 have hw := hw.callN h31 h34
 have hw := hw.addE (e := RowA c28 rv24) h27
 refine st_val hs (y_assign rfl) trivial rfl rfl fun a hs => ?_
 refine wpList_nil ?_
 refine then_normal ?_
 have hsh := Option.some.inj hsh
 subst hsh
 refine wp_ret ?_
 exact ret1 hs rfl (rv_tmp rfl) (hw.ret ⟨p25, k26, c28, rfl, (hw.outs [0] (by decide) rfl), (hw.envAt 0 rfl)⟩)

abbrev span_Meet_rd (w0 : World) (X : List Nat) (r : (List Span)) : (Nat → Prop) → World → Value → Prop := fun S w v => ∃ (p0_0 : Option Addr) (k0_0 : Nat) (c0_0 : List Value), v = .slice p0_0 r.length k0_0 ∧ Outs X w0 S w [.row p0_0 r.length k0_0 c0_0 34 2] ∧ (RowA c0_0 r).p S w
set_option maxHeartbeats 4000000 in
set_option maxRecDepth 100000 in
theorem span_Meet_ok {w0 : World} {S0 : Nat → Prop} {p2 : Option Addr} {k3 : Nat} {p6 : Option Addr} {k7 : Nat} {a1 : (List Span)} {b5 : (List Span)} {r : (List Span)} (hsh : span_Meet a1 b5 = some r) (hS : ∀ b, S0 b → b < w0.heap.size) (h4 : (SlA p2 a1.length k3 a1).p S0 w0) (h8 : (SlA p6 b5.length k7 b5).p S0 w0) : Calls Try.prog 19 #[.slice p2 a1.length k3, .slice p6 b5.length k7] w0 (Ret ([]) w0 S0 (span_Meet_rd w0 ([]) r)) := by
 refine calls_of_wp Try.func19 rfl ?_
 have hs := Sl.enter #[.slice p2 a1.length k3, .slice p6 b5.length k7] 68 [(0, .slice p2 a1.length k3), (1, .slice p6 b5.length k7)] rfl ⟨rfl, rfl, trivial⟩
 have hw := Wd.enter (E := []) hS (fun _ h => (by cases h))
 have hw := hw.addE h4
 have hw := hw.addE h8
 delta span_Meet at hsh
 refine wp_seq ?_
 refine wp_region_lit ?_
 refine st_val hs (y_assign rfl) trivial rfl rfl fun a hs => ?_
 refine wpList_nil ?_
 refine then_normal ?_
 refine wp_seq ?_
 refine wp_region_lit ?_
 refine st_val hs (y_move rfl) trivial rfl rfl fun a hs => ?_
 obtain ⟨rv10, h9, hsh⟩ := bind_t hsh
 refine st_callR hs (span_Normal_ok h9 hw.dom (hw.envAt 1 rfl)) (do_call Try.call16 rfl) trivial rfl rfl ?_
 intro v18 Sv15 w a h16 h17 hs
 obtain ⟨p11, k12, c14, rfl, h19, h13⟩ := h17
 have hw := hw.callN h16 h19
 have hw := hw.addE (e := RowA c14 rv10) h13
 refine st_val hs (y_move rfl) trivial rfl rfl fun a hs => ?_
 obtain ⟨rv21, h20, hsh⟩ := bind_t hsh
 refine st_callR hs (span_Normal_ok h20 hw.dom (hw.envAt 1 rfl)) (do_call Try.call16 rfl) trivial rfl rfl ?_
 intro v29 Sv26 w a h27 h28 hs
 obtain ⟨p22, k23, c25, rfl, h30, h24⟩ := h28
 have hw := hw.callN h27 h30
 have hw := hw.addE (e := RowA c25 rv21) h24
 refine st_val hs (y_assign rfl) trivial rfl rfl fun a hs => ?_
 refine st_val hs (y_assign rfl) trivial rfl rfl fun a hs => ?_
 refine wpList_nil ?_
 refine then_normal ?_
 refine wp_seq ?_
 refine wp_region_lit ?_
 refine st_val hs (y_assign rfl) trivial rfl rfl fun a hs => ?_
 refine wpList_nil ?_
 refine then_normal ?_
 refine wp_seq ?_
 refine wp_seq ?_
 refine wp_region_lit ?_
 refine st_val hs (y_assign rfl) trivial rfl rfl fun a hs => ?_
 refine st_val hs (y_assign rfl) trivial rfl rfl fun a hs => ?_
 refine wpList_nil ?_
 refine then_normal ?_
 obtain ⟨e331, h540, hsh⟩ := bind_t hsh
 refine wp_join (fun a w => ∃ (c332 : List Value) (p333 : Option Addr) (k334 : Nat) (Sv335 : Nat → Prop), Sl 68 [(5, .slice p333 e331.length k334)] a ∧ Wd ⟨w0, S0, []⟩ Sv335 [.row p333 e331.length k334 c332 34 2] [RowA c332 e331] w) ?_ ?_
 ·refine wp_block ?_
  have hw := hw.nilRow Span 34
  refine wp_while (fun sv31 a w => ∃ (c228 : List Value) (p229 : Option Addr) (k230 : Nat) (Sv231 : Nat → Prop), Sl 68 [(0, .slice p11 rv10.length k12), (1, .slice p22 rv21.length k23), (5, .slice p229 sv31.1.length k230), (6, .int .i64 sv31.2.1), (7, .int .i64 sv31.2.2)] a ∧ Wd ⟨w0, S0, []⟩ Sv231 [.row p11 rv10.length k12 c14 34 2, .row p22 rv21.length k23 c25 34 2, .row p229 sv31.1.length k230 c228 34 2] [RowA c14 rv10, RowA c25 rv21, RowA c228 sv31.1] w) (([] : List Span), 0, 0) h540 ⟨[], none, 0, Sv26, (hs.wk rfl), (hw.ft [2, 1, 0] [2, 1, 0] (by decide) rfl rfl)⟩ ?_
  clear h540
  repeat clear hsh
  rintro sv31 a w tv329 ⟨c228, p229, k230, Sv231, hs, hw⟩ hsh hd328
  delta span_Meet_l1 at hsh
  refine wp_seq ?_
  refine wp_seq ?_
  refine wp_region_lit ?_
  refine st_val hs (y_move rfl) trivial rfl rfl fun a hs => ?_
  refine st_val hs (y_move rfl) trivial rfl rfl fun a hs => ?_
  refine st_val hs (y_len Try.runUnderlying25 rfl) trivial rfl rfl fun a hs => ?_
  refine st_val hs (y_lss rfl rfl) trivial rfl rfl fun a hs => ?_
  refine st_val hs (y_move rfl) trivial rfl rfl fun a hs => ?_
  refine wpl_join 5 (fun a w1 => w = w1 ∧ Sl 68 [(0, .slice p11 rv10.length k12), (1, .slice p22 rv21.length k23), (5, .slice p229 sv31.1.length k230), (6, .int .i64 sv31.2.1), (7, .int .i64 sv31.2.2), (22, .bool ((decide (sv31.2.1 < (rv10.length : Int))) && (decide (sv31.2.2 < (rv21.length : Int)))))] a) ?_ ?_
  ·rcases Bool.eq_false_or_eq_true (decide (sv31.2.1 < (rv10.length : Int))) with h336 | h336
   ·have hs := hs.fix 17 (.bool true) rfl (vb h336)
    refine st_val hs (y_move rfl) ⟨_, rfl, rfl⟩ rfl rfl fun a hs => ?_
    refine st_val hs (y_move rfl) ⟨_, rfl, rfl⟩ rfl rfl fun a hs => ?_
    refine st_val hs (y_len Try.runUnderlying25 rfl) ⟨_, rfl, rfl⟩ rfl rfl fun a hs => ?_
    refine st_val hs (y_lss rfl rfl) ⟨_, rfl, rfl⟩ rfl rfl fun a hs => ?_
    refine st_val hs (y_pickT rfl rfl) trivial rfl rfl fun a hs => ?_
    refine wpList_nil ?_
    refine then_normal ?_
    exact ⟨rfl, (hs.fix 22 (.bool ((decide (sv31.2.1 < (rv10.length : Int))) && (decide (sv31.2.2 < (rv21.length : Int))))) rfl (and_t h336)).weaken _ ⟨rfl, rfl, rfl, rfl, rfl, rfl, trivial⟩⟩
   ·have hs := hs.fix 17 (.bool false) rfl (vb h336)
    refine st_skip hs rfl rfl rfl rfl rfl fun a hs => ?_
    refine st_skip hs rfl rfl rfl rfl rfl fun a hs => ?_
    refine st_skip hs rfl rfl rfl rfl rfl fun a hs => ?_
    refine st_skip hs rfl rfl rfl rfl rfl fun a hs => ?_
    refine st_val hs (y_pickF rfl rfl) trivial rfl rfl fun a hs => ?_
    refine wpList_nil ?_
    refine then_normal ?_
    exact ⟨rfl, (hs.fix 22 (.bool ((decide (sv31.2.1 < (rv10.length : Int))) && (decide (sv31.2.2 < (rv21.length : Int))))) rfl (and_f h336)).weaken _ ⟨rfl, rfl, rfl, rfl, rfl, rfl, trivial⟩⟩
  ·rintro a w1 ⟨h539, hs⟩
   subst h539
   refine wpList_nil ?_
   refine then_normal ?_
   refine wp_cond_split (hs.ev rfl) (fun h338 => ?_) (fun h338 => ?_)
   ·have hsh := ite_t hsh h338
    refine wp_skip ?_
    refine then_normal ?_
    refine wp_block ?_
    refine wp_seq ?_
    refine wp_seq ?_
    obtain ⟨x434, h432, hsh⟩ := bind_t hsh
    obtain ⟨b441, q438, c439, h442, h435, h436, h440, h433⟩ := hw.elemRV (α := Span) 0 rfl 0 rfl h432
    have hsv443 := hs
    have hwv444 := hw
    subst h442
    have hs := hsv443
    have hw := hwv444
    obtain ⟨_, _, rfl, rfl, rfl⟩ := h433
    obtain ⟨x447, h445, hsh⟩ := bind_t hsh
    obtain ⟨b454, q451, c452, h455, h448, h449, h453, h446⟩ := hw.elemRV (α := Span) 1 rfl 1 rfl h445
    have hsv456 := hs
    have hwv457 := hw
    subst h455
    have hs := hsv456
    have hw := hwv457
    obtain ⟨_, _, rfl, rfl, rfl⟩ := h446
    obtain ⟨x460, h458, hsh⟩ := bind_t hsh
    obtain ⟨q464, c465, h461, h462, h466, h459⟩ := hw.elemRK (α := Span) 0 rfl 0 rfl h458
    obtain ⟨_, _, rfl, rfl, rfl⟩ := h459
    obtain ⟨x469, h467, hsh⟩ := bind_t hsh
    obtain ⟨q473, c474, h470, h471, h475, h468⟩ := hw.elemRK (α := Span) 1 rfl 1 rfl h467
    obtain ⟨_, _, rfl, rfl, rfl⟩ := h468
    refine wp_only (fun a w => ∃ (Sv477 : Nat → Prop) (b476 : Nat), Sl 68 [(0, .slice (some ⟨b441, 0, none⟩) rv10.length k12), (1, .slice (some ⟨b454, 0, none⟩) rv21.length k23), (5, .slice p229 sv31.1.length k230), (6, .int .i64 sv31.2.1), (7, .int .i64 sv31.2.2), (8, .pointer (some ⟨b476, 0, none⟩))] a ∧ Wd ⟨w0, S0, []⟩ Sv477 [.box b476 [.int .i64 (max x434.From x447.From), .int .i64 (min x460.To x469.To)] 34, .row (some ⟨b441, 0, none⟩) rv10.length k12 c14 34 2, .row (some ⟨b454, 0, none⟩) rv21.length k23 c25 34 2, .row p229 sv31.1.length k230 c228 34 2] [RowA c14 rv10, RowA c25 rv21, RowA c228 sv31.1] w) ?_ ?_
    ·refine h_b (C := Cls [.row (some ⟨b441, 0, none⟩) rv10.length k12 c14 34 2, .row (some ⟨b454, 0, none⟩) rv21.length k23 c25 34 2, .row p229 sv31.1.length k230 c228 34 2] []) (by kernel_rfl) rfl (hw.drew.cs [0, 1, 2] [] rfl rfl) fun hC => ?_
     have hw := hw.drew
     refine h_g hs 0 rfl (by kernel_rfl) rfl rfl hC rfl (fun w hC => y_move rfl) fun a hs => ?_
     refine h_g hs 1 rfl (by kernel_rfl) rfl rfl hC rfl (fun w hC => y_move rfl) fun a hs => ?_
     refine h_g hs 2 rfl (by kernel_rfl) rfl rfl hC rfl (fun w hC => y_indexAt Try.runUnderlying25 Try.sizeOf34 rfl rfl h435.1 h435.2 h436) fun a hs => ?_
     refine h_g hs 3 rfl (by kernel_rfl) rfl rfl hC rfl (fun w hC => y_fieldAddr (o' := q438 + 0) Try.runUnderlying34 rfl Try.sizeOf3 rfl rfl rfl) fun a hs => ?_
     refine h_g hs 4 rfl (by kernel_rfl) rfl rfl hC rfl (fun w hC => y_loadQ1 (j := 0) (hC.ownAt 0 rfl) rfl Try.isAgg3 h440 rfl) fun a hs => ?_
     refine h_g hs 5 rfl (by kernel_rfl) rfl rfl hC rfl (fun w hC => y_move rfl) fun a hs => ?_
     refine h_g hs 6 rfl (by kernel_rfl) rfl rfl hC rfl (fun w hC => y_move rfl) fun a hs => ?_
     refine h_g hs 7 rfl (by kernel_rfl) rfl rfl hC rfl (fun w hC => y_indexAt Try.runUnderlying25 Try.sizeOf34 rfl rfl h448.1 h448.2 h449) fun a hs => ?_
     refine h_g hs 8 rfl (by kernel_rfl) rfl rfl hC rfl (fun w hC => y_fieldAddr (o' := q451 + 0) Try.runUnderlying34 rfl Try.sizeOf3 rfl rfl rfl) fun a hs => ?_
     refine h_g hs 9 rfl (by kernel_rfl) rfl rfl hC rfl (fun w hC => y_loadQ1 (j := 0) (hC.ownAt 1 rfl) rfl Try.isAgg3 h453 rfl) fun a hs => ?_
     refine h_g hs 10 rfl (by kernel_rfl) rfl rfl hC rfl (fun w hC => y_max rfl rfl) fun a hs => ?_
     refine h_g hs 11 rfl (by kernel_rfl) rfl rfl hC rfl (fun w hC => y_move rfl) fun a hs => ?_
     refine h_g hs 12 rfl (by kernel_rfl) rfl rfl hC rfl (fun w hC => y_move rfl) fun a hs => ?_
     refine h_g hs 13 rfl (by kernel_rfl) rfl rfl hC rfl (fun w hC => y_indexAt Try.runUnderlying25 Try.sizeOf34 rfl rfl h461.1 h461.2 h462) fun a hs => ?_
     refine h_g hs 14 rfl (by kernel_rfl) rfl rfl hC rfl (fun w hC => y_fieldAddr (o' := q464 + 1) Try.runUnderlying34 rfl Try.sizeOf3 rfl rfl rfl) fun a hs => ?_
     refine h_g hs 15 rfl (by kernel_rfl) rfl rfl hC rfl (fun w hC => y_loadQ1 (j := 1) (hC.ownAt 0 rfl) rfl Try.isAgg3 h466 rfl) fun a hs => ?_
     refine h_g hs 16 rfl (by kernel_rfl) rfl rfl hC rfl (fun w hC => y_move rfl) fun a hs => ?_
     refine h_g hs 17 rfl (by kernel_rfl) rfl rfl hC rfl (fun w hC => y_move rfl) fun a hs => ?_
     refine h_g hs 18 rfl (by kernel_rfl) rfl rfl hC rfl (fun w hC => y_indexAt Try.runUnderlying25 Try.sizeOf34 rfl rfl h470.1 h470.2 h471) fun a hs => ?_
     refine h_g hs 19 rfl (by kernel_rfl) rfl rfl hC rfl (fun w hC => y_fieldAddr (o' := q473 + 1) Try.runUnderlying34 rfl Try.sizeOf3 rfl rfl rfl) fun a hs => ?_
     refine h_g hs 20 rfl (by kernel_rfl) rfl rfl hC rfl (fun w hC => y_loadQ1 (j := 1) (hC.ownAt 1 rfl) rfl Try.isAgg3 h475 rfl) fun a hs => ?_
     refine h_g hs 21 rfl (by kernel_rfl) rfl rfl hC rfl (fun w hC => y_min rfl rfl) fun a hs => ?_
     refine h_g hs 22 rfl (by kernel_rfl) rfl rfl hC rfl (fun w hC => y_build (vs := [(0, .int .i64 (max x434.From x447.From)), (1, .int .i64 (min x460.To x469.To))]) Bld34 rfl rfl) fun a hs => ?_
     refine h_one (i := 23) (by kernel_rfl) rfl ?_
     refine w_alloc (cs := [.int .i64 0, .int .i64 0]) hs hw Try.zeroValue34 rfl rfl trivial ?_
     intro b476 a w hs hw
     refine h_nx (hw.cs [1, 2, 3] [] rfl rfl) fun hC => ?_
     refine h_one (i := 24) (by kernel_rfl) rfl ?_
     refine w_store (m := 2) (cs' := [.int .i64 (max x434.From x447.From), .int .i64 (min x460.To x469.To)]) hs hw 0 rfl rfl rfl Try.sizeOf34 rfl rfl rfl rfl trivial ?_
     intro a w hs hw
     refine h_nx (hw.cs [1, 2, 3] [] rfl rfl) fun hC => ?_
     refine h_done (by kernel_rfl) ?_
     exact ⟨Sv231, b476, (hs.wk rfl), (hw.ft [0, 1, 2, 3] [0, 1, 2] (by decide) rfl rfl)⟩
    ·rintro a w ⟨Sv477, b476, hs, hw⟩
     refine then_normal ?_
     refine wp_seq ?_
     refine wp_region_lit ?_
     refine st_val hs (y_loadBA (hw.ownAt 0 rfl) rfl Try.isAgg34 Try.sizeOf34 rfl rfl) trivial rfl rfl fun a hs => ?_
     obtain ⟨rv479, h478, hsh⟩ := bind_t hsh
     refine st_callR hs (span_some_ok h478 hw.bdom) (do_call Try.call37 rfl) trivial rfl rfl ?_
     intro v483 Sv480 w a h481 h482 hs
     subst h482
     have hw := hw.callB h481
     refine wpList_nil ?_
     refine then_normal ?_
     refine wp_join (fun a w => ∃ (out497 : (List Span)) (c493 : List Value) (p494 : Option Addr) (k495 : Nat) (Sv496 : Nat → Prop), span_Meet_j1 rv10 rv21 sv31 out497 = some tv329 ∧ Sl 68 [(0, .slice (some ⟨b441, 0, none⟩) rv10.length k12), (1, .slice (some ⟨b454, 0, none⟩) rv21.length k23), (5, .slice p494 out497.length k495), (6, .int .i64 sv31.2.1), (7, .int .i64 sv31.2.2)] a ∧ Wd ⟨w0, S0, []⟩ Sv496 [.row (some ⟨b441, 0, none⟩) rv10.length k12 c14 34 2, .row (some ⟨b454, 0, none⟩) rv21.length k23 c25 34 2, .row p494 out497.length k495 c493 34 2] [RowA c14 rv10, RowA c25 rv21, RowA c493 out497] w) ?_ ?_
     ·refine wp_cond_split (hs.ev rfl) (fun h530 => ?_) (fun h530 => ?_)
      ·have hsh := ite_t hsh h530
       refine wp_region_lit ?_
       refine st_val hs (y_move rfl) trivial rfl rfl fun a hs => ?_
       refine st_val hs (y_loadBA (hw.ownAt 0 rfl) rfl Try.isAgg34 Try.sizeOf34 rfl rfl) trivial rfl rfl fun a hs => ?_
       refine w_litSlice (α := Span) (vs := [.agg #[.int .i64 (max x434.From x447.From), .int .i64 (min x460.To x469.To)]]) (cs := [.int .i64 (max x434.From x447.From), .int .i64 (min x460.To x469.To)]) (xs := ([(⟨(max x434.From x447.From), (min x460.To x469.To)⟩ : Span)] : List Span)) hs hw El25 rfl rfl rfl rfl rfl rfl ⟨⟨_, _, rfl, rfl, rfl⟩, rfl⟩ rfl trivial rfl fun b532 a w hs hw => ?_
       obtain ⟨l534, h533, hsh⟩ := bind_t hsh
       refine w_appendR (α := Span) hs hw El25 4 rfl rfl rfl 3 rfl 0 rfl 0 rfl h533 rfl trivial ?_
       intro p535 k536 c537 a w hs hw
       refine st_val hs (y_assign rfl) trivial rfl rfl fun a hs => ?_
       refine wpList_nil ?_
       refine then_normal ?_
       exact ⟨l534, c537, p535, k536, Sv477, hsh, (hs.wk rfl), (hw.ft [2, 3, 4] [2, 3, 0] (by decide) rfl rfl)⟩
      ·have hsh := ite_f hsh h530
       refine wp_skip ?_
       refine then_normal ?_
       exact ⟨sv31.1, c228, p229, k230, Sv477, hsh, (hs.wk rfl), (hw.ft [1, 2, 3] [0, 1, 2] (by decide) rfl rfl)⟩
     ·rintro a w ⟨out497, c493, p494, k495, Sv496, hsh, hs, hw⟩
      delta span_Meet_j1 at hsh
      refine then_normal ?_
      refine wp_seq ?_
      obtain ⟨x500, h498, hsh⟩ := bind_t hsh
      obtain ⟨q504, c505, h501, h502, h506, h499⟩ := hw.elemRK (α := Span) 0 rfl 0 rfl h498
      obtain ⟨_, _, rfl, rfl, rfl⟩ := h499
      obtain ⟨x509, h507, hsh⟩ := bind_t hsh
      obtain ⟨q513, c514, h510, h511, h515, h508⟩ := hw.elemRK (α := Span) 1 rfl 1 rfl h507
      obtain ⟨_, _, rfl, rfl, rfl⟩ := h508
      refine wp_only (fun a w => ∃ (Sv516 : Nat → Prop), Sl 68 [(0, .slice (some ⟨b441, 0, none⟩) rv10.length k12), (1, .slice (some ⟨b454, 0, none⟩) rv21.length k23), (5, .slice p494 out497.length k495), (6, .int .i64 sv31.2.1), (7, .int .i64 sv31.2.2), (62, .bool (decide (x500.To < x509.To)))] a ∧ Wd ⟨w0, S0, []⟩ Sv516 [.row (some ⟨b441, 0, none⟩) rv10.length k12 c14 34 2, .row (some ⟨b454, 0, none⟩) rv21.length k23 c25 34 2, .row p494 out497.length k495 c493 34 2] [RowA c14 rv10, RowA c25 rv21, RowA c493 out497] w) ?_ ?_
      ·refine h_b (C := Cls [.row (some ⟨b441, 0, none⟩) rv10.length k12 c14 34 2, .row (some ⟨b454, 0, none⟩) rv21.length k23 c25 34 2, .row p494 out497.length k495 c493 34 2] []) (by kernel_rfl) rfl (hw.drew.cs [0, 1, 2] [] rfl rfl) fun hC => ?_
       have hw := hw.drew
       refine h_g hs 0 rfl (by kernel_rfl) rfl rfl hC rfl (fun w hC => y_move rfl) fun a hs => ?_
       refine h_g hs 1 rfl (by kernel_rfl) rfl rfl hC rfl (fun w hC => y_move rfl) fun a hs => ?_
       refine h_g hs 2 rfl (by kernel_rfl) rfl rfl hC rfl (fun w hC => y_indexAt Try.runUnderlying25 Try.sizeOf34 rfl rfl h501.1 h501.2 h502) fun a hs => ?_
       refine h_g hs 3 rfl (by kernel_rfl) rfl rfl hC rfl (fun w hC => y_fieldAddr (o' := q504 + 1) Try.runUnderlying34 rfl Try.sizeOf3 rfl rfl rfl) fun a hs => ?_
       refine h_g hs 4 rfl (by kernel_rfl) rfl rfl hC rfl (fun w hC => y_loadQ1 (j := 1) (hC.ownAt 0 rfl) rfl Try.isAgg3 h506 rfl) fun a hs => ?_
       refine h_g hs 5 rfl (by kernel_rfl) rfl rfl hC rfl (fun w hC => y_move rfl) fun a hs => ?_
       refine h_g hs 6 rfl (by kernel_rfl) rfl rfl hC rfl (fun w hC => y_move rfl) fun a hs => ?_
       refine h_g hs 7 rfl (by kernel_rfl) rfl rfl hC rfl (fun w hC => y_indexAt Try.runUnderlying25 Try.sizeOf34 rfl rfl h510.1 h510.2 h511) fun a hs => ?_
       refine h_g hs 8 rfl (by kernel_rfl) rfl rfl hC rfl (fun w hC => y_fieldAddr (o' := q513 + 1) Try.runUnderlying34 rfl Try.sizeOf3 rfl rfl rfl) fun a hs => ?_
       refine h_g hs 9 rfl (by kernel_rfl) rfl rfl hC rfl (fun w hC => y_loadQ1 (j := 1) (hC.ownAt 1 rfl) rfl Try.isAgg3 h515 rfl) fun a hs => ?_
       refine h_g hs 10 rfl (by kernel_rfl) rfl rfl hC rfl (fun w hC => y_lss rfl rfl) fun a hs => ?_
       refine h_done (by kernel_rfl) ?_
       exact ⟨Sv496, (hs.wk rfl), (hw.ft [0, 1, 2] [0, 1, 2] (by decide) rfl rfl)⟩
      ·rintro a w ⟨Sv516, hs, hw⟩
       refine then_normal ?_
       refine wp_join (fun a w => ∃ (i523 : Int) (k524 : Int) (Sv522 : Nat → Prop), span_Meet_j2 out497 i523 k524 = some tv329 ∧ Sl 68 [(0, .slice (some ⟨b441, 0, none⟩) rv10.length k12), (1, .slice (some ⟨b454, 0, none⟩) rv21.length k23), (5, .slice p494 out497.length k495), (6, .int .i64 i523), (7, .int .i64 k524)] a ∧ Wd ⟨w0, S0, []⟩ Sv522 [.row (some ⟨b441, 0, none⟩) rv10.length k12 c14 34 2, .row (some ⟨b454, 0, none⟩) rv21.length k23 c25 34 2, .row p494 out497.length k495 c493 34 2] [RowA c14 rv10, RowA c25 rv21, RowA c493 out497] w) ?_ ?_
       ·refine wp_cond_split (hs.ev rfl) (fun h525 => ?_) (fun h525 => ?_)
        ·have hsh := ite_t hsh h525
         refine wp_region_lit ?_
         refine st_val hs (y_move rfl) trivial rfl rfl fun a hs => ?_
         refine st_val hs (y_add rfl rfl) trivial rfl rfl fun a hs => ?_
         obtain ⟨i527, h526, hsh⟩ := bind_t hsh
         refine st_val hs (y_assignI rfl h526) trivial rfl rfl fun a hs => ?_
         refine wpList_nil ?_
         refine then_normal ?_
         exact ⟨i527, sv31.2.2, Sv516, hsh, (hs.wk rfl), (hw.ft [0, 1, 2] [0, 1, 2] (by decide) rfl rfl)⟩
        ·have hsh := ite_f hsh h525
         refine wp_region_lit ?_
         refine st_val hs (y_move rfl) trivial rfl rfl fun a hs => ?_
         refine st_val hs (y_add rfl rfl) trivial rfl rfl fun a hs => ?_
         obtain ⟨k529, h528, hsh⟩ := bind_t hsh
         refine st_val hs (y_assignI rfl h528) trivial rfl rfl fun a hs => ?_
         refine wpList_nil ?_
         refine then_normal ?_
         exact ⟨sv31.2.1, k529, Sv516, hsh, (hs.wk rfl), (hw.ft [0, 1, 2] [0, 1, 2] (by decide) rfl rfl)⟩
       ·rintro a w ⟨i523, k524, Sv522, hsh, hs, hw⟩
        delta span_Meet_j2 at hsh
        refine blk_normal ?_
        refine then_normal ?_
        exact ⟨_, (Option.some.inj hsh).symm, c493, p494, k495, Sv522, (hs.wk rfl), (hw.ft [0, 1, 2] [0, 1, 2] (by decide) rfl rfl)⟩
   ·have hsh := ite_f hsh h338
    refine wp_exit ?_
    refine then_exit ?_
    refine then_exit ?_
    refine blk_exit ?_
    have hsh := Option.some.inj hsh
    subst hsh
    have h538 := hd328 _ rfl
    subst h538
    refine then_normal ?_
    exact ⟨c228, p229, k230, Sv231, (hs.wk rfl), (hw.ft [2] [2] (by decide) rfl rfl)⟩
 ·rintro a w ⟨c332, p333, k334, Sv335, hs, hw⟩
  refine then_normal ?_
  refine wp_seq ?_
  refine wp_region_lit ?_
  refine st_val hs (y_move rfl) trivial rfl rfl fun a hs => ?_
  refine st_val hs (y_assign rfl) trivial rfl rfl fun a hs => ?_
  refine wpList_nil ?_
  refine then_normal ?_
  have hsh := Option.some.inj hsh
  subst hsh
  refine wp_ret ?_
  exact ret1 hs rfl (rv_tmp rfl) (hw.ret ⟨p333, k334, c332, rfl, (hw.outs [0] (by decide) rfl), (hw.envAt 0 rfl)⟩)

abbrev span_Minus_rd (w0 : World) (X : List Nat) (r : (List Span)) : (Nat → Prop) → World → Value → Prop := fun S w v => ∃ (p0_0 : Option Addr) (k0_0 : Nat) (c0_0 : List Value), v = .slice p0_0 r.length k0_0 ∧ Outs X w0 S w [.row p0_0 r.length k0_0 c0_0 34 2] ∧ (RowA c0_0 r).p S w
set_option maxHeartbeats 4000000 in
set_option maxRecDepth 100000 in
theorem span_Minus_ok {w0 : World} {S0 : Nat → Prop} {p2 : Option Addr} {k3 : Nat} {p6 : Option Addr} {k7 : Nat} {a1 : (List Span)} {b5 : (List Span)} {r : (List Span)} (hsh : span_Minus a1 b5 = some r) (hS : ∀ b, S0 b → b < w0.heap.size) (h4 : (SlA p2 a1.length k3 a1).p S0 w0) (h8 : (SlA p6 b5.length k7 b5).p S0 w0) : Calls Try.prog 13 #[.slice p2 a1.length k3, .slice p6 b5.length k7] w0 (Ret ([]) w0 S0 (span_Minus_rd w0 ([]) r)) := by
 refine calls_of_wp Try.func13 rfl ?_
 have hs := Sl.enter #[.slice p2 a1.length k3, .slice p6 b5.length k7] 68 [(0, .slice p2 a1.length k3), (1, .slice p6 b5.length k7)] rfl ⟨rfl, rfl, trivial⟩
 have hw := Wd.enter (E := []) hS (fun _ h => (by cases h))
 have hw := hw.addE h4
 have hw := hw.addE h8
 delta span_Minus at hsh
 refine wp_seq ?_
 refine wp_region_lit ?_
 refine st_val hs (y_assign rfl) trivial rfl rfl fun a hs => ?_
 refine wpList_nil ?_
 refine then_normal ?_
 refine wp_seq ?_
 refine wp_region_lit ?_
 refine st_val hs (y_move rfl) trivial rfl rfl fun a hs => ?_
 obtain ⟨rv10, h9, hsh⟩ := bind_t hsh
 refine st_callR hs (span_Normal_ok h9 hw.dom (hw.envAt 0 rfl)) (do_call Try.call16 rfl) trivial rfl rfl ?_
 intro v18 Sv15 w a h16 h17 hs
 obtain ⟨p11, k12, c14, rfl, h19, h13⟩ := h17
 have hw := hw.callN h16 h19
 have hw := hw.addE (e := RowA c14 rv10) h13
 refine st_val hs (y_assign rfl) trivial rfl rfl fun a hs => ?_
 refine wpList_nil ?_
 refine then_normal ?_
 refine wp_seq ?_
 refine wp_region_lit ?_
 refine st_val hs (y_assign rfl) trivial rfl rfl fun a hs => ?_
 refine wpList_nil ?_
 refine then_normal ?_
 refine wp_seq ?_
 refine wp_seq ?_
 refine wp_region_lit ?_
 refine st_val hs (y_move rfl) trivial rfl rfl fun a hs => ?_
 obtain ⟨rv21, h20, hsh⟩ := bind_t hsh
 refine st_callR hs (span_Normal_ok h20 hw.dom (hw.envAt 2 rfl)) (do_call Try.call16 rfl) trivial rfl rfl ?_
 intro v29 Sv26 w a h27 h28 hs
 obtain ⟨p22, k23, c25, rfl, h30, h24⟩ := h28
 have hw := hw.callN h27 h30
 have hw := hw.addE (e := RowA c25 rv21) h24
 refine st_val hs (y_len Try.runUnderlying25 rfl) trivial rfl rfl fun a hs => ?_
 refine st_val hs (y_move rfl) trivial rfl rfl fun a hs => ?_
 refine wpList_nil ?_
 refine then_normal ?_
 obtain ⟨e529, h950, hsh⟩ := bind_t hsh
 refine wp_join (fun a w => ∃ (c530 : List Value) (p531 : Option Addr) (k532 : Nat) (Sv533 : Nat → Prop), Sl 68 [(5, .slice p531 e529.length k532)] a ∧ Wd ⟨w0, S0, []⟩ Sv533 [.row p531 e529.length k532 c530 34 2] [RowA c530 e529] w) ?_ ?_
 ·refine wp_block ?_
  have hw := hw.nilRow Span 34
  refine wp_while (fun sv31 a w => ∃ (c360 : List Value) (p361 : Option Addr) (k362 : Nat) (Sv363 : Nat → Prop), Sl 68 [(1, .slice p11 rv10.length k12), (5, .slice p361 sv31.1.length k362), (14, .slice p22 rv21.length k23), (15, .int .i64 (rv21.length : Int)), (16, .int .i64 sv31.2)] a ∧ Wd ⟨w0, S0, []⟩ Sv363 [.row p11 rv10.length k12 c14 34 2, .row p361 sv31.1.length k362 c360 34 2, .row p22 rv21.length k23 c25 34 2] [RowA c14 rv10, RowA c360 sv31.1, RowA c25 rv21] w) (([] : List Span), 0) h950 ⟨[], none, 0, Sv26, (hs.wk rfl), (hw.ft [2, 0, 1] [2, 0, 1] (by decide) rfl rfl)⟩ ?_
  clear h950
  repeat clear hsh
  rintro sv31 a w tv527 ⟨c360, p361, k362, Sv363, hs, hw⟩ hsh hd526
  delta span_Minus_l3 at hsh
  refine wp_seq ?_
  refine wp_region_lit ?_
  refine st_val hs (y_lss rfl rfl) trivial rfl rfl fun a hs => ?_
  refine wpList_nil ?_
  refine then_normal ?_
  refine wp_seq ?_
  refine wp_cond_split (hs.ev rfl) (fun h535 => ?_) (fun h535 => ?_)
  ·have hsh := ite_t hsh h535
   refine wp_skip ?_
   refine then_normal ?_
   refine wp_seq ?_
   refine wp_block ?_
   refine wp_seq ?_
   refine wp_region_lit ?_
   obtain ⟨x699, h697, hsh⟩ := bind_t hsh
   obtain ⟨b706, q703, c704, h707, h700, h701, h705, h698⟩ := hw.elemRV (α := Span) 2 rfl 2 rfl h697
   have hsv708 := hs
   have hwv709 := hw
   subst h707
   have hs := hsv708
   have hw := hwv709
   obtain ⟨_, _, rfl, rfl, rfl⟩ := h698
   refine st_val hs (y_indexAt Try.runUnderlying25 Try.sizeOf34 rfl rfl h700.1 h700.2 h701) trivial rfl rfl fun a hs => ?_
   refine st_val hs (y_loadQA (j := 0) (hw.ownAt 2 rfl) rfl Try.isAgg34 Try.sizeOf34 h705 rfl rfl) trivial rfl rfl fun a hs => ?_
   refine w_alloc (cs := [.int .i64 0, .int .i64 0]) hs hw Try.zeroValue34 rfl rfl trivial ?_
   intro b710 a w hs hw
   refine w_store (m := 2) (cs' := [.int .i64 x699.From, .int .i64 x699.To]) hs hw 0 rfl rfl rfl Try.sizeOf34 rfl rfl rfl rfl trivial ?_
   intro a w hs hw
   refine wpList_nil ?_
   refine then_normal ?_
   refine wp_seq ?_
   refine wp_region_lit ?_
   refine st_val hs (y_fieldAddr (o' := 0) Try.runUnderlying34 rfl Try.sizeOf3 rfl rfl rfl) trivial rfl rfl fun a hs => ?_
   refine st_val hs (y_loadB1 (hw.ownAt 0 rfl) rfl Try.isAgg3 rfl) trivial rfl rfl fun a hs => ?_
   refine st_val hs (y_assign rfl) trivial rfl rfl fun a hs => ?_
   refine wpList_nil ?_
   refine then_normal ?_
   refine wp_seq ?_
   refine wp_seq ?_
   refine wp_region_lit ?_
   refine st_val hs (y_move rfl) trivial rfl rfl fun a hs => ?_
   refine st_val hs (y_len Try.runUnderlying25 rfl) trivial rfl rfl fun a hs => ?_
   refine st_val hs (y_move rfl) trivial rfl rfl fun a hs => ?_
   refine wpList_nil ?_
   refine then_normal ?_
   obtain ⟨e840, h948, hsh⟩ := bind_t hsh
   refine wp_join (fun a w => ∃ (c841 : List Value) (p842 : Option Addr) (k843 : Nat) (Sv844 : Nat → Prop), Sl 68 [(1, .slice p11 rv10.length k12), (5, .slice p842 e840.1.length k843), (7, .pointer (some ⟨b710, 0, none⟩)), (8, .int .i64 e840.2), (14, .slice (some ⟨b706, 0, none⟩) rv21.length k23), (15, .int .i64 (rv21.length : Int)), (16, .int .i64 sv31.2)] a ∧ Wd ⟨w0, S0, []⟩ Sv844 [.box b710 [.int .i64 x699.From, .int .i64 x699.To] 34, .row p11 rv10.length k12 c14 34 2, .row p842 e840.1.length k843 c841 34 2, .row (some ⟨b706, 0, none⟩) rv21.length k23 c25 34 2] [RowA c14 rv10, RowA c841 e840.1, RowA c25 rv21] w) ?_ ?_
   ·refine wp_block ?_
    refine wp_while (fun sv711 a w => ∃ (c794 : List Value) (p795 : Option Addr) (k796 : Nat) (Sv797 : Nat → Prop), Sl 68 [(1, .slice p11 rv10.length k12), (5, .slice p795 sv711.1.length k796), (7, .pointer (some ⟨b710, 0, none⟩)), (8, .int .i64 sv711.2.1), (14, .slice (some ⟨b706, 0, none⟩) rv21.length k23), (15, .int .i64 (rv21.length : Int)), (16, .int .i64 sv31.2), (22, .slice p11 rv10.length k12), (23, .int .i64 (rv10.length : Int)), (24, .int .i64 sv711.2.2)] a ∧ Wd ⟨w0, S0, []⟩ Sv797 [.box b710 [.int .i64 x699.From, .int .i64 x699.To] 34, .row p11 rv10.length k12 c14 34 2, .row p795 sv711.1.length k796 c794 34 2, .row (some ⟨b706, 0, none⟩) rv21.length k23 c25 34 2] [RowA c14 rv10, RowA c794 sv711.1, RowA c25 rv21] w) (sv31.1, x699.From, 0) h948 ⟨c360, p361, k362, Sv363, (hs.wk rfl), (hw.ft [0, 1, 2, 3] [0, 1, 2] (by decide) rfl rfl)⟩ ?_
    clear h948
    repeat clear hsh
    rintro sv711 a w tv838 ⟨c794, p795, k796, Sv797, hs, hw⟩ hsh hd837
    delta span_Minus_l6 at hsh
    refine wp_seq ?_
    refine wp_region_lit ?_
    refine st_val hs (y_lss rfl rfl) trivial rfl rfl fun a hs => ?_
    refine wpList_nil ?_
    refine then_normal ?_
    refine wp_seq ?_
    refine wp_cond_split (hs.ev rfl) (fun h846 => ?_) (fun h846 => ?_)
    ·have hsh := ite_t hsh h846
     refine wp_skip ?_
     refine then_normal ?_
     refine wp_seq ?_
     refine wp_join (fun a w => ∃ (out883 : (List Span)) (atv884 : Int) (c879 : List Value) (p880 : Option Addr) (k881 : Nat) (Sv882 : Nat → Prop), span_Minus_j1 sv711 out883 atv884 = some tv838 ∧ Sl 68 [(1, .slice p11 rv10.length k12), (5, .slice p880 out883.length k881), (7, .pointer (some ⟨b710, 0, none⟩)), (8, .int .i64 atv884), (14, .slice (some ⟨b706, 0, none⟩) rv21.length k23), (15, .int .i64 (rv21.length : Int)), (16, .int .i64 sv31.2), (22, .slice p11 rv10.length k12), (23, .int .i64 (rv10.length : Int)), (24, .int .i64 sv711.2.2)] a ∧ Wd ⟨w0, S0, []⟩ Sv882 [.box b710 [.int .i64 x699.From, .int .i64 x699.To] 34, .row p11 rv10.length k12 c14 34 2, .row p880 out883.length k881 c879 34 2, .row (some ⟨b706, 0, none⟩) rv21.length k23 c25 34 2] [RowA c14 rv10, RowA c879 out883, RowA c25 rv21] w) ?_ ?_
     ·refine wp_block ?_
      refine wp_seq ?_
      refine wp_region_lit ?_
      obtain ⟨x887, h885, hsh⟩ := bind_t hsh
      obtain ⟨b894, q891, c892, h895, h888, h889, h893, h886⟩ := hw.elemRV (α := Span) 1 rfl 0 rfl h885
      have hsv896 := hs
      have hwv897 := hw
      subst h895
      have hs := hsv896
      have hw := hwv897
      obtain ⟨_, _, rfl, rfl, rfl⟩ := h886
      refine st_val hs (y_indexAt Try.runUnderlying25 Try.sizeOf34 rfl rfl h888.1 h888.2 h889) trivial rfl rfl fun a hs => ?_
      refine st_val hs (y_loadQA (j := 0) (hw.ownAt 1 rfl) rfl Try.isAgg34 Try.sizeOf34 h893 rfl rfl) trivial rfl rfl fun a hs => ?_
      refine w_alloc (cs := [.int .i64 0, .int .i64 0]) hs hw Try.zeroValue34 rfl rfl trivial ?_
      intro b898 a w hs hw
      refine w_store (m := 2) (cs' := [.int .i64 x887.From, .int .i64 x887.To]) hs hw 0 rfl rfl rfl Try.sizeOf34 rfl rfl rfl rfl trivial ?_
      intro a w hs hw
      refine wpList_nil ?_
      refine then_normal ?_
      refine wp_seq ?_
      refine wp_seq ?_
      refine wp_region_lit ?_
      refine st_val hs (y_fieldAddr (o' := 1) Try.runUnderlying34 rfl Try.sizeOf3 rfl rfl rfl) trivial rfl rfl fun a hs => ?_
      refine st_val hs (y_loadB1 (hw.ownAt 0 rfl) rfl Try.isAgg3 rfl) trivial rfl rfl fun a hs => ?_
      refine st_val hs (y_move rfl) trivial rfl rfl fun a hs => ?_
      refine st_val hs (y_leq rfl rfl) trivial rfl rfl fun a hs => ?_
      refine st_val hs (y_move rfl) trivial rfl rfl fun a hs => ?_
      refine wpl_join 6 (fun a w1 => w = w1 ∧ Sl 68 [(1, .slice (some ⟨b894, 0, none⟩) rv10.length k12), (5, .slice p795 sv711.1.length k796), (7, .pointer (some ⟨b710, 0, none⟩)), (8, .int .i64 sv711.2.1), (10, .pointer (some ⟨b898, 0, none⟩)), (14, .slice (some ⟨b706, 0, none⟩) rv21.length k23), (15, .int .i64 (rv21.length : Int)), (16, .int .i64 sv31.2), (22, .slice (some ⟨b894, 0, none⟩) rv10.length k12), (23, .int .i64 (rv10.length : Int)), (24, .int .i64 sv711.2.2), (38, .bool ((decide (x887.To ≤ sv711.2.1)) || (decide (x699.To ≤ x887.From))))] a) ?_ ?_
      ·rcases Bool.eq_false_or_eq_true (decide (x887.To ≤ sv711.2.1)) with h899 | h899
       ·have hs := hs.fix 32 (.bool true) rfl (vb h899)
        refine st_skip hs rfl rfl rfl rfl rfl fun a hs => ?_
        refine st_skip hs rfl rfl rfl rfl rfl fun a hs => ?_
        refine st_skip hs rfl rfl rfl rfl rfl fun a hs => ?_
        refine st_skip hs rfl rfl rfl rfl rfl fun a hs => ?_
        refine st_skip hs rfl rfl rfl rfl rfl fun a hs => ?_
        refine st_val hs (y_pickT rfl rfl) trivial rfl rfl fun a hs => ?_
        refine wpList_nil ?_
        refine then_normal ?_
        exact ⟨rfl, (hs.fix 38 (.bool ((decide (x887.To ≤ sv711.2.1)) || (decide (x699.To ≤ x887.From)))) rfl (or_t h899)).weaken _ ⟨rfl, rfl, rfl, rfl, rfl, rfl, rfl, rfl, rfl, rfl, rfl, rfl, trivial⟩⟩
       ·have hs := hs.fix 32 (.bool false) rfl (vb h899)
        refine st_val hs (y_fieldAddr (o' := 0) Try.runUnderlying34 rfl Try.sizeOf3 rfl rfl rfl) ⟨_, rfl, rfl⟩ rfl rfl fun a hs => ?_
        refine st_val hs (y_loadB1 (hw.ownAt 0 rfl) rfl Try.isAgg3 rfl) ⟨_, rfl, rfl⟩ rfl rfl fun a hs => ?_
        refine st_val hs (y_fieldAddr (o' := 1) Try.runUnderlying34 rfl Try.sizeOf3 rfl rfl rfl) ⟨_, rfl, rfl⟩ rfl rfl fun a hs => ?_
        refine st_val hs (y_loadB1 (hw.ownAt 1 rfl) rfl Try.isAgg3 rfl) ⟨_, rfl, rfl⟩ rfl rfl fun a hs => ?_
        refine st_val hs (y_geq rfl rfl) ⟨_, rfl, rfl⟩ rfl rfl fun a hs => ?_
        refine st_val hs (y_pickF rfl rfl) trivial rfl rfl fun a hs => ?_
        refine wpList_nil ?_
        refine then_normal ?_
        exact ⟨rfl, (hs.fix 38 (.bool ((decide (x887.To ≤ sv711.2.1)) || (decide (x699.To ≤ x887.From)))) rfl (or_f h899)).weaken _ ⟨rfl, rfl, rfl, rfl, rfl, rfl, rfl, rfl, rfl, rfl, rfl, rfl, trivial⟩⟩
      ·rintro a w1 ⟨h925, hs⟩
       subst h925
       refine wpList_nil ?_
       refine then_normal ?_
       refine wp_cond_split (hs.ev rfl) (fun h901 => ?_) (fun h901 => ?_)
       ·have hsh := ite_t hsh h901
        refine wp_exit ?_
        refine then_exit ?_
        refine blk_exit ?_
        refine then_normal ?_
        exact ⟨sv711.1, sv711.2.1, c794, p795, k796, Sv797, hsh, (hs.wk rfl), (hw.ft [1, 2, 3, 4] [0, 1, 2] (by decide) rfl rfl)⟩
       ·have hsh := ite_f hsh h901
        refine wp_skip ?_
        refine then_normal ?_
        refine wp_seq ?_
        refine wp_seq ?_
        refine wp_region_lit ?_
        refine st_val hs (y_move rfl) trivial rfl rfl fun a hs => ?_
        refine st_val hs (y_fieldAddr (o' := 0) Try.runUnderlying34 rfl Try.sizeOf3 rfl rfl rfl) trivial rfl rfl fun a hs => ?_
        refine st_val hs (y_loadB1 (hw.ownAt 0 rfl) rfl Try.isAgg3 rfl) trivial rfl rfl fun a hs => ?_
        refine st_val hs (y_lss rfl rfl) trivial rfl rfl fun a hs => ?_
        refine wpList_nil ?_
        refine then_normal ?_
        refine wp_join (fun a w => ∃ (out914 : (List Span)) (c910 : List Value) (p911 : Option Addr) (k912 : Nat) (Sv913 : Nat → Prop), span_Minus_j2 sv711 x887 out914 = some tv838 ∧ Sl 68 [(1, .slice (some ⟨b894, 0, none⟩) rv10.length k12), (5, .slice p911 out914.length k912), (7, .pointer (some ⟨b710, 0, none⟩)), (8, .int .i64 sv711.2.1), (10, .pointer (some ⟨b898, 0, none⟩)), (14, .slice (some ⟨b706, 0, none⟩) rv21.length k23), (15, .int .i64 (rv21.length : Int)), (16, .int .i64 sv31.2), (22, .slice (some ⟨b894, 0, none⟩) rv10.length k12), (23, .int .i64 (rv10.length : Int)), (24, .int .i64 sv711.2.2)] a ∧ Wd ⟨w0, S0, []⟩ Sv913 [.box b710 [.int .i64 x699.From, .int .i64 x699.To] 34, .box b898 [.int .i64 x887.From, .int .i64 x887.To] 34, .row (some ⟨b894, 0, none⟩) rv10.length k12 c14 34 2, .row p911 out914.length k912 c910 34 2, .row (some ⟨b706, 0, none⟩) rv21.length k23 c25 34 2] [RowA c14 rv10, RowA c910 out914, RowA c25 rv21] w) ?_ ?_
        ·refine wp_cond_split (hs.ev rfl) (fun h917 => ?_) (fun h917 => ?_)
         ·have hsh := ite_t hsh h917
          refine wp_region_lit ?_
          refine st_val hs (y_move rfl) trivial rfl rfl fun a hs => ?_
          refine st_val hs (y_move rfl) trivial rfl rfl fun a hs => ?_
          refine st_val hs (y_fieldAddr (o' := 0) Try.runUnderlying34 rfl Try.sizeOf3 rfl rfl rfl) trivial rfl rfl fun a hs => ?_
          refine st_val hs (y_loadB1 (hw.ownAt 0 rfl) rfl Try.isAgg3 rfl) trivial rfl rfl fun a hs => ?_
          refine st_val hs (y_build (vs := [(0, .int .i64 sv711.2.1), (1, .int .i64 x887.From)]) Bld34 rfl rfl) trivial rfl rfl fun a hs => ?_
          refine w_litSlice (α := Span) (vs := [.agg #[.int .i64 sv711.2.1, .int .i64 x887.From]]) (cs := [.int .i64 sv711.2.1, .int .i64 x887.From]) (xs := ([(⟨sv711.2.1, x887.From⟩ : Span)] : List Span)) hs hw El25 rfl rfl rfl rfl rfl rfl ⟨⟨_, _, rfl, rfl, rfl⟩, rfl⟩ rfl trivial rfl fun b919 a w hs hw => ?_
          obtain ⟨l921, h920, hsh⟩ := bind_t hsh
          refine w_appendR (α := Span) hs hw El25 4 rfl rfl rfl 2 rfl 0 rfl 0 rfl h920 rfl trivial ?_
          intro p922 k923 c924 a w hs hw
          refine st_val hs (y_assign rfl) trivial rfl rfl fun a hs => ?_
          refine wpList_nil ?_
          refine then_normal ?_
          exact ⟨l921, c924, p922, k923, Sv797, hsh, (hs.wk rfl), (hw.ft [2, 1, 3, 4, 5] [2, 0, 4] (by decide) rfl rfl)⟩
         ·have hsh := ite_f hsh h917
          refine wp_skip ?_
          refine then_normal ?_
          exact ⟨sv711.1, c794, p795, k796, Sv797, hsh, (hs.wk rfl), (hw.ft [1, 0, 2, 3, 4] [0, 1, 2] (by decide) rfl rfl)⟩
        ·rintro a w ⟨out914, c910, p911, k912, Sv913, hsh, hs, hw⟩
         delta span_Minus_j2 at hsh
         refine then_normal ?_
         refine wp_region_lit ?_
         refine st_val hs (y_move rfl) trivial rfl rfl fun a hs => ?_
         refine st_val hs (y_fieldAddr (o' := 1) Try.runUnderlying34 rfl Try.sizeOf3 rfl rfl rfl) trivial rfl rfl fun a hs => ?_
         refine st_val hs (y_loadB1 (hw.ownAt 1 rfl) rfl Try.isAgg3 rfl) trivial rfl rfl fun a hs => ?_
         refine st_val hs (y_max rfl rfl) trivial rfl rfl fun a hs => ?_
         obtain ⟨atv916, h915, hsh⟩ := bind_t hsh
         refine st_val hs (y_assignI rfl h915) trivial rfl rfl fun a hs => ?_
         refine wpList_nil ?_
         refine blk_normal ?_
         refine then_normal ?_
         exact ⟨out914, atv916, c910, p911, k912, Sv913, hsh, (hs.wk rfl), (hw.ft [0, 2, 3, 4] [0, 1, 2] (by decide) rfl rfl)⟩
     ·rintro a w ⟨out883, atv884, c879, p880, k881, Sv882, hsh, hs, hw⟩
      delta span_Minus_j1 at hsh
      refine then_normal ?_
      refine wp_region_lit ?_
      refine st_val hs (y_add rfl rfl) trivial rfl rfl fun a hs => ?_
      refine st_val hs (y_move rfl) trivial rfl rfl fun a hs => ?_
      refine wpList_nil ?_
      refine then_normal ?_
      exact ⟨_, (Option.some.inj hsh).symm, c879, p880, k881, Sv882, (hs.wk rfl), (hw.ft [0, 1, 2, 3] [0, 1, 2] (by decide) rfl rfl)⟩
    ·have hsh := ite_f hsh h846
     refine wp_exit ?_
     refine then_exit ?_
     refine then_exit ?_
     refine blk_exit ?_
     have hsh := Option.some.inj hsh
     subst hsh
     have h926 := hd837 _ rfl
     subst h926
     refine then_normal ?_
     exact ⟨c794, p795, k796, Sv797, (hs.wk rfl), (hw.ft [0, 1, 2, 3] [0, 1, 2] (by decide) rfl rfl)⟩
   ·rintro a w ⟨c841, p842, k843, Sv844, hs, hw⟩
    refine then_normal ?_
    refine wp_seq ?_
    refine wp_region_lit ?_
    refine st_val hs (y_move rfl) trivial rfl rfl fun a hs => ?_
    refine st_val hs (y_fieldAddr (o' := 1) Try.runUnderlying34 rfl Try.sizeOf3 rfl rfl rfl) trivial rfl rfl fun a hs => ?_
    refine st_val hs (y_loadB1 (hw.ownAt 0 rfl) rfl Try.isAgg3 rfl) trivial rfl rfl fun a hs => ?_
    refine st_val hs (y_lss rfl rfl) trivial rfl rfl fun a hs => ?_
    refine wpList_nil ?_
    refine then_normal ?_
    refine wp_join (fun a w => ∃ (out939 : (List Span)) (c935 : List Value) (p936 : Option Addr) (k937 : Nat) (Sv938 : Nat → Prop), span_Minus_j4 sv31 out939 = some tv527 ∧ Sl 68 [(1, .slice p11 rv10.length k12), (5, .slice p936 out939.length k937), (14, .slice (some ⟨b706, 0, none⟩) rv21.length k23), (15, .int .i64 (rv21.length : Int)), (16, .int .i64 sv31.2)] a ∧ Wd ⟨w0, S0, []⟩ Sv938 [.row p11 rv10.length k12 c14 34 2, .row p936 out939.length k937 c935 34 2, .row (some ⟨b706, 0, none⟩) rv21.length k23 c25 34 2] [RowA c14 rv10, RowA c935 out939, RowA c25 rv21] w) ?_ ?_
    ·refine wp_cond_split (hs.ev rfl) (fun h940 => ?_) (fun h940 => ?_)
     ·have hsh := ite_t hsh h940
      refine wp_region_lit ?_
      refine st_val hs (y_move rfl) trivial rfl rfl fun a hs => ?_
      refine st_val hs (y_move rfl) trivial rfl rfl fun a hs => ?_
      refine st_val hs (y_fieldAddr (o' := 1) Try.runUnderlying34 rfl Try.sizeOf3 rfl rfl rfl) trivial rfl rfl fun a hs => ?_
      refine st_val hs (y_loadB1 (hw.ownAt 0 rfl) rfl Try.isAgg3 rfl) trivial rfl rfl fun a hs => ?_
      refine st_val hs (y_build (vs := [(0, .int .i64 e840.2), (1, .int .i64 x699.To)]) Bld34 rfl rfl) trivial rfl rfl fun a hs => ?_
      refine w_litSlice (α := Span) (vs := [.agg #[.int .i64 e840.2, .int .i64 x699.To]]) (cs := [.int .i64 e840.2, .int .i64 x699.To]) (xs := ([(⟨e840.2, x699.To⟩ : Span)] : List Span)) hs hw El25 rfl rfl rfl rfl rfl rfl ⟨⟨_, _, rfl, rfl, rfl⟩, rfl⟩ rfl trivial rfl fun b942 a w hs hw => ?_
      obtain ⟨l944, h943, hsh⟩ := bind_t hsh
      refine w_appendR (α := Span) hs hw El25 3 rfl rfl rfl 2 rfl 0 rfl 0 rfl h943 rfl trivial ?_
      intro p945 k946 c947 a w hs hw
      refine st_val hs (y_assign rfl) trivial rfl rfl fun a hs => ?_
      refine wpList_nil ?_
      refine then_normal ?_
      exact ⟨l944, c947, p945, k946, Sv844, hsh, (hs.wk rfl), (hw.ft [2, 3, 4] [2, 0, 4] (by decide) rfl rfl)⟩
     ·have hsh := ite_f hsh h940
      refine wp_skip ?_
      refine then_normal ?_
      exact ⟨e840.1, c841, p842, k843, Sv844, hsh, (hs.wk rfl), (hw.ft [1, 2, 3] [0, 1, 2] (by decide) rfl rfl)⟩
    ·rintro a w ⟨out939, c935, p936, k937, Sv938, hsh, hs, hw⟩
     delta span_Minus_j4 at hsh
     refine blk_normal ?_
     refine then_normal ?_
     refine wp_region_lit ?_
     refine st_val hs (y_add rfl rfl) trivial rfl rfl fun a hs => ?_
     refine st_val hs (y_move rfl) trivial rfl rfl fun a hs => ?_
     refine wpList_nil ?_
     refine then_normal ?_
     exact ⟨_, (Option.some.inj hsh).symm, c935, p936, k937, Sv938, (hs.wk rfl), (hw.ft [0, 1, 2] [0, 1, 2] (by decide) rfl rfl)⟩
  ·have hsh := ite_f hsh h535
   refine wp_exit ?_
   refine then_exit ?_
   refine then_exit ?_
   refine blk_exit ?_
   have hsh := Option.some.inj hsh
   subst hsh
   have h949 := hd526 _ rfl
   subst h949
   refine then_normal ?_
   exact ⟨c360, p361, k362, Sv363, (hs.wk rfl), (hw.ft [1] [1] (by decide) rfl rfl)⟩
 ·rintro a w ⟨c530, p531, k532, Sv533, hs, hw⟩
  refine then_normal ?_
  refine wp_seq ?_
  refine wp_region_lit ?_
  refine st_val hs (y_move rfl) trivial rfl rfl fun a hs => ?_
  refine st_val hs (y_assign rfl) trivial rfl rfl fun a hs => ?_
  refine wpList_nil ?_
  refine then_normal ?_
  have hsh := Option.some.inj hsh
  subst hsh
  refine wp_ret ?_
  exact ret1 hs rfl (rv_tmp rfl) (hw.ret ⟨p531, k532, c530, rfl, (hw.outs [0] (by decide) rfl), (hw.envAt 0 rfl)⟩)

abbrev span_Cut_rd (w0 : World) (X : List Nat) (r : (List Span)) : (Nat → Prop) → World → Value → Prop := fun S w v => ∃ (p0_0 : Option Addr) (k0_0 : Nat) (c0_0 : List Value), v = .slice p0_0 r.length k0_0 ∧ Outs X w0 S w [.row p0_0 r.length k0_0 c0_0 34 2] ∧ (RowA c0_0 r).p S w
set_option maxHeartbeats 4000000 in
set_option maxRecDepth 100000 in
theorem span_Cut_ok {w0 : World} {S0 : Nat → Prop} {p2 : Option Addr} {k3 : Nat} {l1 : (List Span)} {from5 : Int} {to6 : Int} {r : (List Span)} (hsh : span_Cut l1 from5 to6 = some r) (hS : ∀ b, S0 b → b < w0.heap.size) (h4 : (SlA p2 l1.length k3 l1).p S0 w0) : Calls Try.prog 20 #[.slice p2 l1.length k3, .int .i64 from5, .int .i64 to6] w0 (Ret ([]) w0 S0 (span_Cut_rd w0 ([]) r)) := by
 refine calls_of_wp Try.func20 rfl ?_
 have hs := Sl.enter #[.slice p2 l1.length k3, .int .i64 from5, .int .i64 to6] 13 [(0, .slice p2 l1.length k3), (1, .int .i64 from5), (2, .int .i64 to6)] rfl ⟨rfl, rfl, rfl, trivial⟩
 have hw := Wd.enter (E := []) hS (fun _ h => (by cases h))
 have hw := hw.addE h4
 delta span_Cut at hsh
 refine wp_seq ?_
 refine wp_region_lit ?_
 refine st_val hs (y_assign rfl) trivial rfl rfl fun a hs => ?_
 refine wpList_nil ?_
 refine then_normal ?_
 refine wp_seq ?_
 refine wp_region_lit ?_
 refine st_val hs (y_move rfl) trivial rfl rfl fun a hs => ?_
 refine st_val hs (y_move rfl) trivial rfl rfl fun a hs => ?_
 refine st_val hs (y_move rfl) trivial rfl rfl fun a hs => ?_
 refine st_val hs (y_build (vs := [(0, .int .i64 from5), (1, .int .i64 to6)]) Bld34 rfl rfl) trivial rfl rfl fun a hs => ?_
 refine w_litSlice (α := Span) (vs := [.agg #[.int .i64 from5, .int .i64 to6]]) (cs := [.int .i64 from5, .int .i64 to6]) (xs := ([(⟨from5, to6⟩ : Span)] : List Span)) hs hw El25 rfl rfl rfl rfl rfl rfl ⟨⟨_, _, rfl, rfl, rfl⟩, rfl⟩ rfl trivial rfl fun b8 a w hs hw => ?_
 obtain ⟨rv10, h9, hsh⟩ := bind_t hsh
 obtain ⟨Sv15, hw⟩ := w_share (α := Span) hw 0 rfl 0 rfl
 refine st_callR hs (span_Meet_ok h9 hw.dom (hw.envAt 2 rfl) (hw.envAt 0 rfl)) (do_call Try.call19 rfl) trivial rfl rfl ?_
 intro v19 Sv16 w a h17 h18 hs
 obtain ⟨p11, k12, c14, rfl, h20, h13⟩ := h18
 have hw := hw.callN h17 h20
 have hw := hw.addE (e := RowA c14 rv10) h13
 refine st_val hs (y_assign rfl) trivial rfl rfl fun a hs => ?_
 refine wpList_nil ?_
 refine then_normal ?_
 have hsh := Option.some.inj hsh
 subst hsh
 refine wp_ret ?_
 exact ret1 hs rfl (rv_tmp rfl) (hw.ret ⟨p11, k12, c14, rfl, (hw.outs [0] (by decide) rfl), (hw.envAt 0 rfl)⟩)

abbrev slices_ContainsFunc_Lapi_Span_api_Span_rd (w0 : World) (X : List Nat) (r : Bool) : (Nat → Prop) → World → Value → Prop := fun S w v => v = .bool r
set_option maxHeartbeats 4000000 in
set_option maxRecDepth 100000 in
theorem slices_ContainsFunc_Lapi_Span_api_Span_ok {w0 : World} {S0 : Nat → Prop} {p2 : Option Addr} {k3 : Nat} {g6 : Nat} {f7 : List Value} {cp8 : List Value} {s1 : (List Span)} {f5 : Span → Option Bool} {r : Bool} (hsh : slices_ContainsFunc_Lapi_Span_api_Span s1 f5 = some r) (hS : ∀ b, S0 b → b < w0.heap.size) (h4 : (SlA p2 s1.length k3 s1).p S0 w0) (h9 : (FnA1 Try.prog g6 f7 cp8 f5).p S0 w0) : Calls Try.prog 42 #[.slice p2 s1.length k3, .func (.func g6) f7.toArray cp8.toArray] w0 (Ret ([]) w0 S0 (slices_ContainsFunc_Lapi_Span_api_Span_rd w0 ([]) r)) := by
 refine calls_of_wp Try.func42 rfl ?_
 have hs := Sl.enter #[.slice p2 s1.length k3, .func (.func g6) f7.toArray cp8.toArray] 9 [(0, .slice p2 s1.length k3), (1, .func (.func g6) f7.toArray cp8.toArray)] rfl ⟨rfl, rfl, trivial⟩
 have hw := Wd.enter (E := []) hS (fun _ h => (by cases h))
 have hw := hw.addE h4
 have hw := hw.addE h9
 delta slices_ContainsFunc_Lapi_Span_api_Span at hsh
 refine wp_seq ?_
 refine wp_region_lit ?_
 refine st_val hs (y_assign rfl) trivial rfl rfl fun a hs => ?_
 refine wpList_nil ?_
 refine then_normal ?_
 refine wp_seq ?_
 refine wp_region_lit ?_
 refine st_val hs (y_move rfl) trivial rfl rfl fun a hs => ?_
 refine st_val hs (y_move rfl) trivial rfl rfl fun a hs => ?_
 obtain ⟨rv11, h10, hsh⟩ := bind_t hsh
 refine st_callR hs (slices_IndexFunc_Lapi_Span_api_Span_ok h10 hw.bdom (hw.bE 1 rfl) (hw.bE 0 rfl)) (do_call Try.call46 rfl) trivial rfl rfl ?_
 intro v15 Sv12 w a h13 h14 hs
 subst h14
 have hw := hw.callB h13
 refine st_val hs (y_geq rfl rfl) trivial rfl rfl fun a hs => ?_
 refine st_val hs (y_assign rfl) trivial rfl rfl fun a hs => ?_
 refine wpList_nil ?_
 refine then_normal ?_
 have hsh := Option.some.inj hsh
 subst hsh
 refine wp_ret ?_
 exact ret1 hs rfl (rv_tmp rfl) (hw.ret rfl)

abbrev span_Has_fn1_rd (w0 : World) (X : List Nat) (r : Bool) : (Nat → Prop) → World → Value → Prop := fun S w v => v = .bool r
set_option maxHeartbeats 4000000 in
set_option maxRecDepth 100000 in
theorem span_Has_fn1_ok {w0 : World} {S0 : Nat → Prop} {b3 : Nat} {s1 : Span} {x2 : Int} {r : Bool} (hsh : span_Has_fn1 s1 x2 = some r) (hS : ∀ b, S0 b → b < w0.heap.size) (h4 : (CeA b3 0 [.int .i64 x2]).p S0 w0) : Calls Try.prog 43 #[.agg #[.int .i64 s1.From, .int .i64 s1.To], .pointer (some ⟨b3, 0, none⟩)] w0 (Ret ([]) w0 S0 (span_Has_fn1_rd w0 ([]) r)) := by
 refine calls_of_wp Try.func43 rfl ?_
 have hs := Sl.enter #[.agg #[.int .i64 s1.From, .int .i64 s1.To], .pointer (some ⟨b3, 0, none⟩)] 14 [(0, .agg #[.int .i64 s1.From, .int .i64 s1.To]), (1, .pointer (some ⟨b3, 0, none⟩))] rfl ⟨rfl, rfl, trivial⟩
 have hw := Wd.enter (E := []) hS (fun _ h => (by cases h))
 have hw := hw.addE h4
 delta span_Has_fn1 at hsh
 refine wp_seq ?_
 refine wp_region_lit ?_
 refine w_box (cs := [.int .i64 s1.From, .int .i64 s1.To]) hs hw rfl rfl rfl trivial ?_
 intro b5 a w hs hw
 refine st_val hs (y_assign rfl) trivial rfl rfl fun a hs => ?_
 refine wpList_nil ?_
 refine then_normal ?_
 refine wp_seq ?_
 refine wp_region_lit ?_
 refine st_val hs (y_fieldAddr (o' := 0) Try.runUnderlying34 rfl Try.sizeOf3 rfl rfl rfl) trivial rfl rfl fun a hs => ?_
 refine st_val hs (y_loadB1 (hw.ownAt 0 rfl) rfl Try.isAgg3 rfl) trivial rfl rfl fun a hs => ?_
 refine st_val hs (y_loadE1 (j := 0) (hw.ceAt 0 rfl) rfl Try.isAgg3 rfl) trivial rfl rfl fun a hs => ?_
 refine st_val hs (y_leq rfl rfl) trivial rfl rfl fun a hs => ?_
 refine st_val hs (y_move rfl) trivial rfl rfl fun a hs => ?_
 refine wpl_join 5 (fun a w1 => w = w1 ∧ Sl 14 [(13, .bool ((decide (s1.From ≤ x2)) && (decide (x2 < s1.To))))] a) ?_ ?_
 ·rcases Bool.eq_false_or_eq_true (decide (s1.From ≤ x2)) with h6 | h6
  ·have hs := hs.fix 8 (.bool true) rfl (vb h6)
   refine st_val hs (y_loadE1 (j := 0) (hw.ceAt 0 rfl) rfl Try.isAgg3 rfl) ⟨_, rfl, rfl⟩ rfl rfl fun a hs => ?_
   refine st_val hs (y_fieldAddr (o' := 1) Try.runUnderlying34 rfl Try.sizeOf3 rfl rfl rfl) ⟨_, rfl, rfl⟩ rfl rfl fun a hs => ?_
   refine st_val hs (y_loadB1 (hw.ownAt 0 rfl) rfl Try.isAgg3 rfl) ⟨_, rfl, rfl⟩ rfl rfl fun a hs => ?_
   refine st_val hs (y_lss rfl rfl) ⟨_, rfl, rfl⟩ rfl rfl fun a hs => ?_
   refine st_val hs (y_pickT rfl rfl) trivial rfl rfl fun a hs => ?_
   refine wpList_nil ?_
   refine then_normal ?_
   exact ⟨rfl, (hs.fix 13 (.bool ((decide (s1.From ≤ x2)) && (decide (x2 < s1.To)))) rfl (and_t h6)).weaken _ ⟨rfl, trivial⟩⟩
  ·have hs := hs.fix 8 (.bool false) rfl (vb h6)
   refine st_skip hs rfl rfl rfl rfl rfl fun a hs => ?_
   refine st_skip hs rfl rfl rfl rfl rfl fun a hs => ?_
   refine st_skip hs rfl rfl rfl rfl rfl fun a hs => ?_
   refine st_skip hs rfl rfl rfl rfl rfl fun a hs => ?_
   refine st_val hs (y_pickF rfl rfl) trivial rfl rfl fun a hs => ?_
   refine wpList_nil ?_
   refine then_normal ?_
   exact ⟨rfl, (hs.fix 13 (.bool ((decide (s1.From ≤ x2)) && (decide (x2 < s1.To)))) rfl (and_f h6)).weaken _ ⟨rfl, trivial⟩⟩
 ·rintro a w1 ⟨h7, hs⟩
  subst h7
  refine st_val hs (y_assign rfl) trivial rfl rfl fun a hs => ?_
  refine wpList_nil ?_
  refine then_normal ?_
  have hsh := Option.some.inj hsh
  subst hsh
  refine wp_ret ?_
  exact ret1 hs rfl (rv_tmp rfl) (hw.ret rfl)

theorem span_Has_fn1_fn {S0 : Nat → Prop} {w0 : World} {b3 : Nat} {x2 : Int} (h4 : (CeA b3 0 [.int .i64 x2]).p S0 w0) : (FnA1 Try.prog 43 [] [.pointer (some ⟨b3, 0, none⟩)] (fun y0 => span_Has_fn1 y0 x2)).p S0 w0 := by
  refine ⟨Try.call43, ?_⟩
  intro S1 w1 hk hS c0 x0 r1 h0 hf
  obtain ⟨_, _, rfl, rfl, rfl⟩ := h0
  exact span_Has_fn1_ok hf hS  (Asrt.mono _ hk h4)

abbrev span_Has_rd (w0 : World) (X : List Nat) (r : Bool) : (Nat → Prop) → World → Value → Prop := fun S w v => v = .bool r
set_option maxHeartbeats 4000000 in
set_option maxRecDepth 100000 in
theorem span_Has_ok {w0 : World} {S0 : Nat → Prop} {p2 : Option Addr} {k3 : Nat} {l1 : (List Span)} {x5 : Int} {r : Bool} (hsh : span_Has l1 x5 = some r) (hS : ∀ b, S0 b → b < w0.heap.size) (h4 : (SlA p2 l1.length k3 l1).p S0 w0) : Calls Try.prog 22 #[.slice p2 l1.length k3, .int .i64 x5] w0 (Ret ([]) w0 S0 (span_Has_rd w0 ([]) r)) := by
 refine calls_of_wp Try.func22 rfl ?_
 have hs := Sl.enter #[.slice p2 l1.length k3, .int .i64 x5] 8 [(0, .slice p2 l1.length k3), (1, .int .i64 x5)] rfl ⟨rfl, rfl, trivial⟩
 have hw := Wd.enter (E := []) hS (fun _ h => (by cases h))
 have hw := hw.addE h4
 delta span_Has at hsh
 refine wp_seq ?_
 refine wp_region_lit ?_
 refine w_box (cs := [.int .i64 x5]) hs hw rfl rfl rfl trivial ?_
 intro b6 a w hs hw
 refine st_val hs (y_assign rfl) trivial rfl rfl fun a hs => ?_
 refine wpList_nil ?_
 refine then_normal ?_
 refine wp_seq ?_
 refine wp_region_lit ?_
 refine st_val hs (y_move rfl) trivial rfl rfl fun a hs => ?_
 refine st_val hs (y_makeFunc (vs := #[]) (us := #[.pointer (some ⟨b6, 0, none⟩)]) rfl rfl) trivial rfl rfl fun a hs => ?_
 obtain ⟨rv8, h7, hsh⟩ := bind_t hsh
 refine st_callR hs (slices_ContainsFunc_Lapi_Span_api_Span_ok h7 hw.bdom (hw.bE 0 rfl) (span_Has_fn1_fn (hw.bBox 0 rfl))) (do_call Try.call42 rfl) trivial rfl rfl ?_
 intro v12 Sv9 w a h10 h11 hs
 subst h11
 have hw := hw.callB h10
 refine st_val hs (y_assign rfl) trivial rfl rfl fun a hs => ?_
 refine wpList_nil ?_
 refine then_normal ?_
 have hsh := Option.some.inj hsh
 subst hsh
 refine wp_ret ?_
 exact ret1 hs rfl (rv_tmp rfl) (hw.ret rfl)

abbrev law08_SpanMembers_rd (w0 : World) (X : List Nat) (r : Bool) : (Nat → Prop) → World → Value → Prop := fun S w v => v = .bool r
set_option maxHeartbeats 4000000 in
set_option maxRecDepth 100000 in
theorem law08_SpanMembers_ok {w0 : World} {S0 : Nat → Prop} {p2 : Option Addr} {k3 : Nat} {t1 : (List Int)} {n5 : Int} {r : Bool} (hsh : law08_SpanMembers t1 n5 = some r) (hS : ∀ b, S0 b → b < w0.heap.size) (h4 : (SlA p2 t1.length k3 t1).p S0 w0) : Calls Try.prog 4 #[.slice p2 t1.length k3, .int .u8 n5] w0 (Ret ([]) w0 S0 (law08_SpanMembers_rd w0 ([]) r)) := by
 refine calls_of_wp Try.func4 rfl ?_
 have hs := Sl.enter #[.slice p2 t1.length k3, .int .u8 n5] 127 [(0, .slice p2 t1.length k3), (1, .int .u8 n5)] rfl ⟨rfl, rfl, trivial⟩
 have hw := Wd.enter (E := []) hS (fun _ h => (by cases h))
 have hw := hw.addE h4
 delta law08_SpanMembers at hsh
 refine wp_seq ?_
 refine wp_region_lit ?_
 refine st_val hs (y_assign rfl) trivial rfl rfl fun a hs => ?_
 refine wpList_nil ?_
 refine then_normal ?_
 refine wp_seq ?_
 refine wp_seq ?_
 refine wp_region_lit ?_
 refine st_val hs (y_move rfl) trivial rfl rfl fun a hs => ?_
 obtain ⟨rv7, h6, hsh⟩ := bind_t hsh
 refine st_callR hs (made_Light_ok h6 hw.bdom (hw.bE 0 rfl)) (do_call Try.call7 rfl) trivial rfl rfl ?_
 intro v11 Sv8 w a h9 h10 hs
 subst h10
 have hw := hw.callB h9
 refine st_val hs (y_not rfl) trivial rfl rfl fun a hs => ?_
 refine wpList_nil ?_
 refine then_normal ?_
 refine wp_cond_split (hs.ev rfl) (fun h21 => ?_) (fun h21 => ?_)
 ·have hsh := ite_t hsh h21
  refine wp_seq ?_
  refine wp_region_lit ?_
  obtain ⟨rv23, h22, hsh⟩ := bind_t hsh
  refine st_callR hs (law08_sane_ok h22 hw.bdom) (do_call Try.call8 rfl) trivial rfl rfl ?_
  intro v27 Sv24 w a h25 h26 hs
  subst h26
  have hw := hw.callB h25
  refine st_val hs (y_assign rfl) trivial rfl rfl fun a hs => ?_
  refine wpList_nil ?_
  refine then_normal ?_
  have hsh := Option.some.inj hsh
  subst hsh
  refine wp_ret ?_
  refine then_ret ?_
  exact ret1 hs rfl (rv_tmp rfl) (hw.ret rfl)
 ·have hsh := ite_f hsh h21
  refine wp_skip ?_
  refine then_normal ?_
  refine wp_seq ?_
  refine wp_region_lit ?_
  refine st_val hs (y_move rfl) trivial rfl rfl fun a hs => ?_
  obtain ⟨rv30, h29, hsh⟩ := bind_t hsh
  refine st_callR hs (made_Roll_ok h29 hw.dom (hw.envAt 0 rfl)) (do_call Try.call9 rfl) trivial rfl rfl ?_
  intro v38 Sv35 w a h36 h37 hs
  obtain ⟨b31, p32, k33, rfl, h39, h34⟩ := h37
  have hw := hw.callN h36 h39
  have hw := hw.addE (e := SlA p32 rv30.L.length k33 rv30.L) h34
  refine st_val hs (y_assign rfl) trivial rfl rfl fun a hs => ?_
  refine wpList_nil ?_
  refine then_normal ?_
  refine wp_seq ?_
  refine wp_region_lit ?_
  refine st_val hs (y_move rfl) trivial rfl rfl fun a hs => ?_
  obtain ⟨rv41, h40, hsh⟩ := bind_t hsh
  refine st_callR hs (made_Dice_Spans_ok h40 hw.dom (hw.ins [0] (by decide) rfl) (hw.envAt 0 rfl)) (do_call Try.call10 rfl) trivial rfl rfl ?_
  intro v52 Sv49 w a h50 h51 hs
  obtain ⟨p42, k43, c45, p46, k47, rfl, h53, h44, h48⟩ := h51
  have hw := hw.callO [0] [] (by decide) rfl h50 h53
  have hw := hw.addE (e := RowA c45 rv41.1) h44
  have hw := hw.addE (e := SlA p46 rv41.2.L.length k47 rv41.2.L) h48
  refine st_val hs (y_move rfl) trivial rfl rfl fun a hs => ?_
  obtain ⟨rv55, h54, hsh⟩ := bind_t hsh
  refine st_callR hs (made_Dice_Spans_ok h54 hw.dom (hw.ins [1] (by decide) rfl) (hw.envAt 0 rfl)) (do_call Try.call10 rfl) trivial rfl rfl ?_
  intro v66 Sv63 w a h64 h65 hs
  obtain ⟨p56, k57, c59, p60, k61, rfl, h67, h58, h62⟩ := h65
  have hw := hw.callO [1] [0] (by decide) rfl h64 h67
  have hw := hw.addE (e := RowA c59 rv55.1) h58
  have hw := hw.addE (e := SlA p60 rv55.2.L.length k61 rv55.2.L) h62
  refine st_val hs (y_assign rfl) trivial rfl rfl fun a hs => ?_
  refine st_val hs (y_assign rfl) trivial rfl rfl fun a hs => ?_
  refine wpList_nil ?_
  refine then_normal ?_
  refine wp_seq ?_
  refine wp_region_lit ?_
  refine st_val hs (y_move rfl) trivial rfl rfl fun a hs => ?_
  refine st_val hs (y_convert Try.runUnderlying5 Try.runUnderlying3 rfl) trivial rfl rfl fun a hs => ?_
  refine st_val hs (y_rem rfl rfl (by decide)) trivial rfl rfl fun a hs => ?_
  obtain ⟨x69, h68, hsh⟩ := bind_t hsh
  refine st_val hs (y_assignI rfl h68) trivial rfl rfl fun a hs => ?_
  refine wpList_nil ?_
  refine then_normal ?_
  refine wp_seq ?_
  refine wp_region_lit ?_
  refine st_val hs (y_move rfl) trivial rfl rfl fun a hs => ?_
  refine st_val hs (y_move rfl) trivial rfl rfl fun a hs => ?_
  obtain ⟨rv71, h70, hsh⟩ := bind_t hsh
  refine st_callR hs (ref08_Has_ok h70 hw.bdom (hw.bRow 2 rfl 3 rfl)) (do_call Try.call17 rfl) trivial rfl rfl ?_
  intro v75 Sv72 w a h73 h74 hs
  subst h74
  have hw := hw.callB h73
  refine st_val hs (y_move rfl) trivial rfl rfl fun a hs => ?_
  refine st_val hs (y_move rfl) trivial rfl rfl fun a hs => ?_
  obtain ⟨rv78, h77, hsh⟩ := bind_t hsh
  refine st_callR hs (ref08_Has_ok h77 hw.bdom (hw.bRow 0 rfl 1 rfl)) (do_call Try.call17 rfl) trivial rfl rfl ?_
  intro v82 Sv79 w a h80 h81 hs
  subst h81
  have hw := hw.callB h80
  refine st_val hs (y_assign rfl) trivial rfl rfl fun a hs => ?_
  refine st_val hs (y_assign rfl) trivial rfl rfl fun a hs => ?_
  refine wpList_nil ?_
  refine then_normal ?_
  refine wp_seq ?_
  refine wp_region_lit ?_
  refine st_val hs (y_move rfl) trivial rfl rfl fun a hs => ?_
  refine st_val hs (y_move rfl) trivial rfl rfl fun a hs => ?_
  obtain ⟨rv85, h84, hsh⟩ := bind_t hsh
  obtain ⟨Sv90, hw⟩ := w_share (α := Span) hw 2 rfl 3 rfl
  obtain ⟨Sv91, hw⟩ := w_share (α := Span) hw 0 rfl 2 rfl
  refine st_callR hs (span_Union_ok h84 hw.dom (hw.envAt 1 rfl) (hw.envAt 0 rfl)) (do_call Try.call18 rfl) trivial rfl rfl ?_
  intro v95 Sv92 w a h93 h94 hs
  obtain ⟨p86, k87, c89, rfl, h96, h88⟩ := h94
  have hw := hw.callN h93 h96
  have hw := hw.addE (e := RowA c89 rv85) h88
  refine st_val hs (y_move rfl) trivial rfl rfl fun a hs => ?_
  refine st_val hs (y_move rfl) trivial rfl rfl fun a hs => ?_
  obtain ⟨rv98, h97, hsh⟩ := bind_t hsh
  refine st_callR hs (span_Meet_ok h97 hw.dom (hw.envAt 2 rfl) (hw.envAt 1 rfl)) (do_call Try.call19 rfl) trivial rfl rfl ?_
  intro v106 Sv103 w a h104 h105 hs
  obtain ⟨p99, k100, c102, rfl, h107, h101⟩ := h105
  have hw := hw.callN h104 h107
  have hw := hw.addE (e := RowA c102 rv98) h101
  refine st_val hs (y_move rfl) trivial rfl rfl fun a hs => ?_
  refine st_val hs (y_move rfl) trivial rfl rfl fun a hs => ?_
  obtain ⟨rv109, h108, hsh⟩ := bind_t hsh
  refine st_callR hs (span_Minus_ok h108 hw.dom (hw.envAt 3 rfl) (hw.envAt 2 rfl)) (do_call Try.call13 rfl) trivial rfl rfl ?_
  intro v117 Sv114 w a h115 h116 hs
  obtain ⟨p110, k111, c113, rfl, h118, h112⟩ := h116
  have hw := hw.callN h115 h118
  have hw := hw.addE (e := RowA c113 rv109) h112
  refine st_val hs (y_move rfl) trivial rfl rfl fun a hs => ?_
  obtain ⟨rv120, h119, hsh⟩ := bind_t hsh
  refine st_callR hs (span_Normal_ok h119 hw.dom (hw.envAt 4 rfl)) (do_call Try.call16 rfl) trivial rfl rfl ?_
  intro v128 Sv125 w a h126 h127 hs
  obtain ⟨p121, k122, c124, rfl, h129, h123⟩ := h127
  have hw := hw.callN h126 h129
  have hw := hw.addE (e := RowA c124 rv120) h123
  refine st_val hs (y_assign rfl) trivial rfl rfl fun a hs => ?_
  refine st_val hs (y_assign rfl) trivial rfl rfl fun a hs => ?_
  refine st_val hs (y_assign rfl) trivial rfl rfl fun a hs => ?_
  refine st_val hs (y_assign rfl) trivial rfl rfl fun a hs => ?_
  refine wpList_nil ?_
  refine then_normal ?_
  refine wp_seq ?_
  refine wp_region_lit ?_
  refine st_val hs (y_move rfl) trivial rfl rfl fun a hs => ?_
  refine st_val hs (y_move rfl) trivial rfl rfl fun a hs => ?_
  refine st_val hs (y_add rfl rfl) trivial rfl rfl fun a hs => ?_
  obtain ⟨rv131, h130, hsh⟩ := bind_t hsh
  refine st_callR hs (span_Cut_ok h130 hw.dom (hw.envAt 5 rfl)) (do_call Try.call20 rfl) trivial rfl rfl ?_
  intro v139 Sv136 w a h137 h138 hs
  obtain ⟨p132, k133, c135, rfl, h140, h134⟩ := h138
  have hw := hw.callN h137 h140
  have hw := hw.addE (e := RowA c135 rv131) h134
  refine st_val hs (y_assign rfl) trivial rfl rfl fun a hs => ?_
  refine wpList_nil ?_
  refine then_normal ?_
  refine wp_seq ?_
  refine wp_region_lit ?_
  refine st_val hs (y_move rfl) trivial rfl rfl fun a hs => ?_
  obtain ⟨rv142, h141, hsh⟩ := bind_t hsh
  refine st_callR hs (span_Valid_ok h141 hw.bdom (hw.bRow 4 rfl 4 rfl)) (do_call Try.call21 rfl) trivial rfl rfl ?_
  intro v146 Sv143 w a h144 h145 hs
  subst h145
  have hw := hw.callB h144
  refine st_val hs (y_move rfl) trivial rfl rfl fun a hs => ?_
  obtain ⟨c156, hc156, hsh⟩ := bind_t hsh
  refine wpl_join 3 (fun a w => ∃ (Sv157 : Nat → Prop), Sl 127 [(8, .int .i64 x69), (9, .bool rv71), (10, .bool rv78), (11, .slice p86 rv85.length k87), (12, .slice p99 rv98.length k100), (13, .slice p110 rv109.length k111), (14, .slice p121 rv120.length k122), (15, .slice p132 rv131.length k133), (55, .bool c156)] a ∧ Wd ⟨w0, S0, []⟩ Sv157 [.row p86 rv85.length k87 c89 34 2, .row p99 rv98.length k100 c102 34 2, .row p110 rv109.length k111 c113 34 2, .row p121 rv120.length k122 c124 34 2, .row p132 rv131.length k133 c135 34 2] [RowA c89 rv85, RowA c102 rv98, RowA c113 rv109, RowA c124 rv120, RowA c135 rv131] w) ?_ ?_
  ·rcases Bool.eq_false_or_eq_true rv142 with h155 | h155
   ·have hs := hs.fix 52 (.bool true) rfl (vb h155)
    have hsh := ite_t hc156 h155
    refine st_val hs (y_move rfl) ⟨_, rfl, rfl⟩ rfl rfl fun a hs => ?_
    obtain ⟨rv159, h158, hsh⟩ := bind_t hsh
    refine st_callR hs (span_Valid_ok h158 hw.bdom (hw.bRow 3 rfl 3 rfl)) (do_call Try.call21 rfl) ⟨_, rfl, rfl⟩ rfl rfl ?_
    intro v163 Sv160 w a h161 h162 hs
    subst h162
    have hw := hw.callB h161
    refine st_val hs (y_pickT rfl rfl) trivial rfl rfl fun a hs => ?_
    refine wpList_nil ?_
    have hsh := Option.some.inj hsh
    subst hsh
    refine then_normal ?_
    exact ⟨Sv136, (hs.wk rfl), (hw.ft [4, 3, 2, 1, 0] [4, 3, 2, 1, 0] (by decide) rfl rfl)⟩
   ·have hs := hs.fix 52 (.bool false) rfl (vb h155)
    have hsh := ite_f hc156 h155
    refine st_skip hs rfl rfl rfl rfl rfl fun a hs => ?_
    refine st_skip hs rfl rfl rfl rfl rfl fun a hs => ?_
    refine st_val hs (y_pickF rfl rfl) trivial rfl rfl fun a hs => ?_
    refine wpList_nil ?_
    have hsh := Option.some.inj hsh
    subst hsh
    refine then_normal ?_
    exact ⟨Sv136, (hs.wk rfl), (hw.ft [4, 3, 2, 1, 0] [4, 3, 2, 1, 0] (by decide) rfl rfl)⟩
  ·rintro a w ⟨Sv157, hs, hw⟩
   refine st_val hs (y_move rfl) trivial rfl rfl fun a hs => ?_
   obtain ⟨c173, hc173, hsh⟩ := bind_t hsh
   refine wpl_join 3 (fun a w => ∃ (Sv174 : Nat → Prop), Sl 127 [(8, .int .i64 x69), (9, .bool rv71), (10, .bool rv78), (11, .slice p86 rv85.length k87), (12, .slice p99 rv98.length k100), (13, .slice p110 rv109.length k111), (14, .slice p121 rv120.length k122), (15, .slice p132 rv131.length k133), (59, .bool c173)] a ∧ Wd ⟨w0, S0, []⟩ Sv174 [.row p86 rv85.length k87 c89 34 2, .row p99 rv98.length k100 c102 34 2, .row p110 rv109.length k111 c113 34 2, .row p121 rv120.length k122 c124 34 2, .row p132 rv131.length k133 c135 34 2] [RowA c89 rv85, RowA c102 rv98, RowA c113 rv109, RowA c124 rv120, RowA c135 rv131] w) ?_ ?_
   ·rcases Bool.eq_false_or_eq_true c156 with h172 | h172
    ·have hs := hs.fix 56 (.bool true) rfl (vb h172)
     have hsh := ite_t hc173 h172
     refine st_val hs (y_move rfl) ⟨_, rfl, rfl⟩ rfl rfl fun a hs => ?_
     obtain ⟨rv176, h175, hsh⟩ := bind_t hsh
     refine st_callR hs (span_Valid_ok h175 hw.bdom (hw.bRow 2 rfl 2 rfl)) (do_call Try.call21 rfl) ⟨_, rfl, rfl⟩ rfl rfl ?_
     intro v180 Sv177 w a h178 h179 hs
     subst h179
     have hw := hw.callB h178
     refine st_val hs (y_pickT rfl rfl) trivial rfl rfl fun a hs => ?_
     refine wpList_nil ?_
     have hsh := Option.some.inj hsh
     subst hsh
     refine then_normal ?_
     exact ⟨Sv157, (hs.wk rfl), (hw.ft [0, 1, 2, 3, 4] [0, 1, 2, 3, 4] (by decide) rfl rfl)⟩
    ·have hs := hs.fix 56 (.bool false) rfl (vb h172)
     have hsh := ite_f hc173 h172
     refine st_skip hs rfl rfl rfl rfl rfl fun a hs => ?_
     refine st_skip hs rfl rfl rfl rfl rfl fun a hs => ?_
     refine st_val hs (y_pickF rfl rfl) trivial rfl rfl fun a hs => ?_
     refine wpList_nil ?_
     have hsh := Option.some.inj hsh
     subst hsh
     refine then_normal ?_
     exact ⟨Sv157, (hs.wk rfl), (hw.ft [0, 1, 2, 3, 4] [0, 1, 2, 3, 4] (by decide) rfl rfl)⟩
   ·rintro a w ⟨Sv174, hs, hw⟩
    refine st_val hs (y_move rfl) trivial rfl rfl fun a hs => ?_
    obtain ⟨c190, hc190, hsh⟩ := bind_t hsh
    refine wpl_join 3 (fun a w => ∃ (Sv191 : Nat → Prop), Sl 127 [(8, .int .i64 x69), (9, .bool rv71), (10, .bool rv78), (11, .slice p86 rv85.length k87), (12, .slice p99 rv98.length k100), (13, .slice p110 rv109.length k111), (14, .slice p121 rv120.length k122), (15, .slice p132 rv131.length k133), (63, .bool c190)] a ∧ Wd ⟨w0, S0, []⟩ Sv191 [.row p86 rv85.length k87 c89 34 2, .row p99 rv98.length k100 c102 34 2, .row p110 rv109.length k111 c113 34 2, .row p121 rv120.length k122 c124 34 2, .row p132 rv131.length k133 c135 34 2] [RowA c89 rv85, RowA c102 rv98, RowA c113 rv109, RowA c124 rv120, RowA c135 rv131] w) ?_ ?_
    ·rcases Bool.eq_false_or_eq_true c173 with h189 | h189
     ·have hs := hs.fix 60 (.bool true) rfl (vb h189)
      have hsh := ite_t hc190 h189
      refine st_val hs (y_move rfl) ⟨_, rfl, rfl⟩ rfl rfl fun a hs => ?_
      obtain ⟨rv193, h192, hsh⟩ := bind_t hsh
      refine st_callR hs (span_Valid_ok h192 hw.bdom (hw.bRow 3 rfl 3 rfl)) (do_call Try.call21 rfl) ⟨_, rfl, rfl⟩ rfl rfl ?_
      intro v197 Sv194 w a h195 h196 hs
      subst h196
      have hw := hw.callB h195
      refine st_val hs (y_pickT rfl rfl) trivial rfl rfl fun a hs => ?_
      refine wpList_nil ?_
      have hsh := Option.some.inj hsh
      subst hsh
      refine then_normal ?_
      exact ⟨Sv174, (hs.wk rfl), (hw.ft [0, 1, 2, 3, 4] [0, 1, 2, 3, 4] (by decide) rfl rfl)⟩
     ·have hs := hs.fix 60 (.bool false) rfl (vb h189)
      have hsh := ite_f hc190 h189
      refine st_skip hs rfl rfl rfl rfl rfl fun a hs => ?_
      refine st_skip hs rfl rfl rfl rfl rfl fun a hs => ?_
      refine st_val hs (y_pickF rfl rfl) trivial rfl rfl fun a hs => ?_
      refine wpList_nil ?_
      have hsh := Option.some.inj hsh
      subst hsh
      refine then_normal ?_
      exact ⟨Sv174, (hs.wk rfl), (hw.ft [0, 1, 2, 3, 4] [0, 1, 2, 3, 4] (by decide) rfl rfl)⟩
    ·rintro a w ⟨Sv191, hs, hw⟩
     refine st_val hs (y_move rfl) trivial rfl rfl fun a hs => ?_
     obtain ⟨c207, hc207, hsh⟩ := bind_t hsh
     refine wpl_join 3 (fun a w => ∃ (Sv208 : Nat → Prop), Sl 127 [(8, .int .i64 x69), (9, .bool rv71), (10, .bool rv78), (11, .slice p86 rv85.length k87), (12, .slice p99 rv98.length k100), (13, .slice p110 rv109.length k111), (14, .slice p121 rv120.length k122), (15, .slice p132 rv131.length k133), (67, .bool c207)] a ∧ Wd ⟨w0, S0, []⟩ Sv208 [.row p86 rv85.length k87 c89 34 2, .row p99 rv98.length k100 c102 34 2, .row p110 rv109.length k111 c113 34 2, .row p121 rv120.length k122 c124 34 2, .row p132 rv131.length k133 c135 34 2] [RowA c89 rv85, RowA c102 rv98, RowA c113 rv109, RowA c124 rv120, RowA c135 rv131] w) ?_ ?_
     ·rcases Bool.eq_false_or_eq_true c190 with h206 | h206
      ·have hs := hs.fix 64 (.bool true) rfl (vb h206)
       have hsh := ite_t hc207 h206
       refine st_val hs (y_move rfl) ⟨_, rfl, rfl⟩ rfl rfl fun a hs => ?_
       obtain ⟨rv210, h209, hsh⟩ := bind_t hsh
       refine st_callR hs (span_Valid_ok h209 hw.bdom (hw.bRow 4 rfl 4 rfl)) (do_call Try.call21 rfl) ⟨_, rfl, rfl⟩ rfl rfl ?_
       intro v214 Sv211 w a h212 h213 hs
       subst h213
       have hw := hw.callB h212
       refine st_val hs (y_pickT rfl rfl) trivial rfl rfl fun a hs => ?_
       refine wpList_nil ?_
       have hsh := Option.some.inj hsh
       subst hsh
       refine then_normal ?_
       exact ⟨Sv191, (hs.wk rfl), (hw.ft [0, 1, 2, 3, 4] [0, 1, 2, 3, 4] (by decide) rfl rfl)⟩
      ·have hs := hs.fix 64 (.bool false) rfl (vb h206)
       have hsh := ite_f hc207 h206
       refine st_skip hs rfl rfl rfl rfl rfl fun a hs => ?_
       refine st_skip hs rfl rfl rfl rfl rfl fun a hs => ?_
       refine st_val hs (y_pickF rfl rfl) trivial rfl rfl fun a hs => ?_
       refine wpList_nil ?_
       have hsh := Option.some.inj hsh
       subst hsh
       refine then_normal ?_
       exact ⟨Sv191, (hs.wk rfl), (hw.ft [0, 1, 2, 3, 4] [0, 1, 2, 3, 4] (by decide) rfl rfl)⟩
     ·rintro a w ⟨Sv208, hs, hw⟩
      refine st_val hs (y_move rfl) trivial rfl rfl fun a hs => ?_
      obtain ⟨c226, hc226, hsh⟩ := bind_t hsh
      refine wpl_join 9 (fun a w => ∃ (Sv227 : Nat → Prop), Sl 127 [(8, .int .i64 x69), (9, .bool rv71), (10, .bool rv78), (12, .slice p99 rv98.length k100), (13, .slice p110 rv109.length k111), (14, .slice p121 rv120.length k122), (15, .slice p132 rv131.length k133), (77, .bool c226)] a ∧ Wd ⟨w0, S0, []⟩ Sv227 [.row p99 rv98.length k100 c102 34 2, .row p110 rv109.length k111 c113 34 2, .row p121 rv120.length k122 c124 34 2, .row p132 rv131.length k133 c135 34 2] [RowA c102 rv98, RowA c113 rv109, RowA c124 rv120, RowA c135 rv131] w) ?_ ?_
      ·rcases Bool.eq_false_or_eq_true c207 with h225 | h225
       ·have hs := hs.fix 68 (.bool true) rfl (vb h225)
        have hsh := ite_t hc226 h225
        refine st_val hs (y_move rfl) ⟨_, rfl, rfl⟩ rfl rfl fun a hs => ?_
        refine st_val hs (y_move rfl) ⟨_, rfl, rfl⟩ rfl rfl fun a hs => ?_
        obtain ⟨rv229, h228, hsh⟩ := bind_t hsh
        refine st_callR hs (span_Has_ok h228 hw.bdom (hw.bRow 0 rfl 0 rfl)) (do_call Try.call22 rfl) ⟨_, rfl, rfl⟩ rfl rfl ?_
        intro v233 Sv230 w a h231 h232 hs
        subst h232
        have hw := hw.callB h231
        refine st_val hs (y_move rfl) ⟨_, rfl, rfl⟩ rfl rfl fun a hs => ?_
        refine st_val hs (y_move rfl) ⟨_, rfl, rfl⟩ rfl rfl fun a hs => ?_
        refine wpl_join 2 (fun a w1 => w = w1 ∧ Sl 127 [(8, .int .i64 x69), (9, .bool rv71), (10, .bool rv78), (12, .slice p99 rv98.length k100), (13, .slice p110 rv109.length k111), (14, .slice p121 rv120.length k122), (15, .slice p132 rv131.length k133), (68, .bool true), (71, .bool rv229), (75, .bool (rv71 || rv78))] a) ?_ ?_
        ·rcases Bool.eq_false_or_eq_true rv71 with h235 | h235
         ·have hs := hs.fix 73 (.bool true) rfl (vb h235)
          refine st_skip hs rfl rfl rfl rfl rfl fun a hs => ?_
          refine st_val hs (y_pickT rfl rfl) ⟨_, rfl, rfl⟩ rfl rfl fun a hs => ?_
          refine wpList_nil ?_
          refine then_normal ?_
          exact ⟨rfl, (hs.fix 75 (.bool (rv71 || rv78)) rfl (or_t h235)).weaken _ ⟨rfl, rfl, rfl, rfl, rfl, rfl, rfl, rfl, rfl, rfl, trivial⟩⟩
         ·have hs := hs.fix 73 (.bool false) rfl (vb h235)
          refine st_val hs (y_move rfl) ⟨_, rfl, rfl⟩ rfl rfl fun a hs => ?_
          refine st_val hs (y_pickF rfl rfl) ⟨_, rfl, rfl⟩ rfl rfl fun a hs => ?_
          refine wpList_nil ?_
          refine then_normal ?_
          exact ⟨rfl, (hs.fix 75 (.bool (rv71 || rv78)) rfl (or_f h235)).weaken _ ⟨rfl, rfl, rfl, rfl, rfl, rfl, rfl, rfl, rfl, rfl, trivial⟩⟩
        ·rintro a w1 ⟨h236, hs⟩
         subst h236
         refine st_val hs (y_eqlB Try.runUnderlying4 rfl rfl) ⟨_, rfl, rfl⟩ rfl rfl fun a hs => ?_
         refine st_val hs (y_pickT rfl rfl) trivial rfl rfl fun a hs => ?_
         refine wpList_nil ?_
         have hsh := Option.some.inj hsh
         subst hsh
         refine then_normal ?_
         exact ⟨Sv208, (hs.wk rfl), (hw.ft [1, 2, 3, 4] [1, 2, 3, 4] (by decide) rfl rfl)⟩
       ·have hs := hs.fix 68 (.bool false) rfl (vb h225)
        have hsh := ite_f hc226 h225
        refine st_skip hs rfl rfl rfl rfl rfl fun a hs => ?_
        refine st_skip hs rfl rfl rfl rfl rfl fun a hs => ?_
        refine st_skip hs rfl rfl rfl rfl rfl fun a hs => ?_
        refine st_skip hs rfl rfl rfl rfl rfl fun a hs => ?_
        refine st_skip hs rfl rfl rfl rfl rfl fun a hs => ?_
        refine st_skipU hs rfl rfl rfl rfl rfl fun a hs => ?_
        refine st_skip hs rfl rfl rfl rfl rfl fun a hs => ?_
        refine st_skip hs rfl rfl rfl rfl rfl fun a hs => ?_
        refine st_val hs (y_pickF rfl rfl) trivial rfl rfl fun a hs => ?_
        refine wpList_nil ?_
        have hsh := Option.some.inj hsh
        subst hsh
        refine then_normal ?_
        exact ⟨Sv208, (hs.wk rfl), (hw.ft [1, 2, 3, 4] [1, 2, 3, 4] (by decide) rfl rfl)⟩
      ·rintro a w ⟨Sv227, hs, hw⟩
       refine st_val hs (y_move rfl) trivial rfl rfl fun a hs => ?_
       obtain ⟨c247, hc247, hsh⟩ := bind_t hsh
       refine wpl_join 9 (fun a w => ∃ (Sv248 : Nat → Prop), Sl 127 [(8, .int .i64 x69), (9, .bool rv71), (10, .bool rv78), (13, .slice p110 rv109.length k111), (14, .slice p121 rv120.length k122), (15, .slice p132 rv131.length k133), (87, .bool c247)] a ∧ Wd ⟨w0, S0, []⟩ Sv248 [.row p110 rv109.length k111 c113 34 2, .row p121 rv120.length k122 c124 34 2, .row p132 rv131.length k133 c135 34 2] [RowA c113 rv109, RowA c124 rv120, RowA c135 rv131] w) ?_ ?_
       ·rcases Bool.eq_false_or_eq_true c226 with h246 | h246
        ·have hs := hs.fix 78 (.bool true) rfl (vb h246)
         have hsh := ite_t hc247 h246
         refine st_val hs (y_move rfl) ⟨_, rfl, rfl⟩ rfl rfl fun a hs => ?_
         refine st_val hs (y_move rfl) ⟨_, rfl, rfl⟩ rfl rfl fun a hs => ?_
         obtain ⟨rv250, h249, hsh⟩ := bind_t hsh
         refine st_callR hs (span_Has_ok h249 hw.bdom (hw.bRow 0 rfl 0 rfl)) (do_call Try.call22 rfl) ⟨_, rfl, rfl⟩ rfl rfl ?_
         intro v254 Sv251 w a h252 h253 hs
         subst h253
         have hw := hw.callB h252
         refine st_val hs (y_move rfl) ⟨_, rfl, rfl⟩ rfl rfl fun a hs => ?_
         refine st_val hs (y_move rfl) ⟨_, rfl, rfl⟩ rfl rfl fun a hs => ?_
         refine wpl_join 2 (fun a w1 => w = w1 ∧ Sl 127 [(8, .int .i64 x69), (9, .bool rv71), (10, .bool rv78), (13, .slice p110 rv109.length k111), (14, .slice p121 rv120.length k122), (15, .slice p132 rv131.length k133), (78, .bool true), (81, .bool rv250), (85, .bool (rv71 && rv78))] a) ?_ ?_
         ·rcases Bool.eq_false_or_eq_true rv71 with h256 | h256
          ·have hs := hs.fix 83 (.bool true) rfl (vb h256)
           refine st_val hs (y_move rfl) ⟨_, rfl, rfl⟩ rfl rfl fun a hs => ?_
           refine st_val hs (y_pickT rfl rfl) ⟨_, rfl, rfl⟩ rfl rfl fun a hs => ?_
           refine wpList_nil ?_
           refine then_normal ?_
           exact ⟨rfl, (hs.fix 85 (.bool (rv71 && rv78)) rfl (and_t h256)).weaken _ ⟨rfl, rfl, rfl, rfl, rfl, rfl, rfl, rfl, rfl, trivial⟩⟩
          ·have hs := hs.fix 83 (.bool false) rfl (vb h256)
           refine st_skip hs rfl rfl rfl rfl rfl fun a hs => ?_
           refine st_val hs (y_pickF rfl rfl) ⟨_, rfl, rfl⟩ rfl rfl fun a hs => ?_
           refine wpList_nil ?_
           refine then_normal ?_
           exact ⟨rfl, (hs.fix 85 (.bool (rv71 && rv78)) rfl (and_f h256)).weaken _ ⟨rfl, rfl, rfl, rfl, rfl, rfl, rfl, rfl, rfl, trivial⟩⟩
         ·rintro a w1 ⟨h257, hs⟩
          subst h257
          refine st_val hs (y_eqlB Try.runUnderlying4 rfl rfl) ⟨_, rfl, rfl⟩ rfl rfl fun a hs => ?_
          refine st_val hs (y_pickT rfl rfl) trivial rfl rfl fun a hs => ?_
          refine wpList_nil ?_
          have hsh := Option.some.inj hsh
          subst hsh
          refine then_normal ?_
          exact ⟨Sv227, (hs.wk rfl), (hw.ft [1, 2, 3] [1, 2, 3] (by decide) rfl rfl)⟩
        ·have hs := hs.fix 78 (.bool false) rfl (vb h246)
         have hsh := ite_f hc247 h246
         refine st_skip hs rfl rfl rfl rfl rfl fun a hs => ?_
         refine st_skip hs rfl rfl rfl rfl rfl fun a hs => ?_
         refine st_skip hs rfl rfl rfl rfl rfl fun a hs => ?_
         refine st_skip hs rfl rfl rfl rfl rfl fun a hs => ?_
         refine st_skip hs rfl rfl rfl rfl rfl fun a hs => ?_
         refine st_skipU hs rfl rfl rfl rfl rfl fun a hs => ?_
         refine st_skip hs rfl rfl rfl rfl rfl fun a hs => ?_
         refine st_skip hs rfl rfl rfl rfl rfl fun a hs => ?_
         refine st_val hs (y_pickF rfl rfl) trivial rfl rfl fun a hs => ?_
         refine wpList_nil ?_
         have hsh := Option.some.inj hsh
         subst hsh
         refine then_normal ?_
         exact ⟨Sv227, (hs.wk rfl), (hw.ft [1, 2, 3] [1, 2, 3] (by decide) rfl rfl)⟩
       ·rintro a w ⟨Sv248, hs, hw⟩
        refine st_val hs (y_move rfl) trivial rfl rfl fun a hs => ?_
        obtain ⟨c268, hc268, hsh⟩ := bind_t hsh
        refine wpl_join 10 (fun a w => ∃ (Sv269 : Nat → Prop), Sl 127 [(8, .int .i64 x69), (9, .bool rv71), (14, .slice p121 rv120.length k122), (15, .slice p132 rv131.length k133), (98, .bool c268)] a ∧ Wd ⟨w0, S0, []⟩ Sv269 [.row p121 rv120.length k122 c124 34 2, .row p132 rv131.length k133 c135 34 2] [RowA c124 rv120, RowA c135 rv131] w) ?_ ?_
        ·rcases Bool.eq_false_or_eq_true c247 with h267 | h267
         ·have hs := hs.fix 88 (.bool true) rfl (vb h267)
          have hsh := ite_t hc268 h267
          refine st_val hs (y_move rfl) ⟨_, rfl, rfl⟩ rfl rfl fun a hs => ?_
          refine st_val hs (y_move rfl) ⟨_, rfl, rfl⟩ rfl rfl fun a hs => ?_
          obtain ⟨rv271, h270, hsh⟩ := bind_t hsh
          refine st_callR hs (span_Has_ok h270 hw.bdom (hw.bRow 0 rfl 0 rfl)) (do_call Try.call22 rfl) ⟨_, rfl, rfl⟩ rfl rfl ?_
          intro v275 Sv272 w a h273 h274 hs
          subst h274
          have hw := hw.callB h273
          refine st_val hs (y_move rfl) ⟨_, rfl, rfl⟩ rfl rfl fun a hs => ?_
          refine st_val hs (y_move rfl) ⟨_, rfl, rfl⟩ rfl rfl fun a hs => ?_
          refine wpl_join 3 (fun a w1 => w = w1 ∧ Sl 127 [(8, .int .i64 x69), (9, .bool rv71), (14, .slice p121 rv120.length k122), (15, .slice p132 rv131.length k133), (88, .bool true), (91, .bool rv271), (96, .bool (rv71 && (!rv78)))] a) ?_ ?_
          ·rcases Bool.eq_false_or_eq_true rv71 with h277 | h277
           ·have hs := hs.fix 93 (.bool true) rfl (vb h277)
            refine st_val hs (y_move rfl) ⟨_, rfl, rfl⟩ rfl rfl fun a hs => ?_
            refine st_val hs (y_not rfl) ⟨_, rfl, rfl⟩ rfl rfl fun a hs => ?_
            refine st_val hs (y_pickT rfl rfl) ⟨_, rfl, rfl⟩ rfl rfl fun a hs => ?_
            refine wpList_nil ?_
            refine then_normal ?_
            exact ⟨rfl, (hs.fix 96 (.bool (rv71 && (!rv78))) rfl (and_t h277)).weaken _ ⟨rfl, rfl, rfl, rfl, rfl, rfl, rfl, trivial⟩⟩
           ·have hs := hs.fix 93 (.bool false) rfl (vb h277)
            refine st_skip hs rfl rfl rfl rfl rfl fun a hs => ?_
            refine st_skip hs rfl rfl rfl rfl rfl fun a hs => ?_
            refine st_val hs (y_pickF rfl rfl) ⟨_, rfl, rfl⟩ rfl rfl fun a hs => ?_
            refine wpList_nil ?_
            refine then_normal ?_
            exact ⟨rfl, (hs.fix 96 (.bool (rv71 && (!rv78))) rfl (and_f h277)).weaken _ ⟨rfl, rfl, rfl, rfl, rfl, rfl, rfl, trivial⟩⟩
          ·rintro a w1 ⟨h278, hs⟩
           subst h278
           refine st_val hs (y_eqlB Try.runUnderlying4 rfl rfl) ⟨_, rfl, rfl⟩ rfl rfl fun a hs => ?_
           refine st_val hs (y_pickT rfl rfl) trivial rfl rfl fun a hs => ?_
           refine wpList_nil ?_
           have hsh := Option.some.inj hsh
           subst hsh
           refine then_normal ?_
           exact ⟨Sv248, (hs.wk rfl), (hw.ft [1, 2] [1, 2] (by decide) rfl rfl)⟩
         ·have hs := hs.fix 88 (.bool false) rfl (vb h267)
          have hsh := ite_f hc268 h267
          refine st_skip hs rfl rfl rfl rfl rfl fun a hs => ?_
          refine st_skip hs rfl rfl rfl rfl rfl fun a hs => ?_
          refine st_skip hs rfl rfl rfl rfl rfl fun a hs => ?_
          refine st_skip hs rfl rfl rfl rfl rfl fun a hs => ?_
          refine st_skip hs rfl rfl rfl rfl rfl fun a hs => ?_
          refine st_skipU hs rfl rfl rfl rfl rfl fun a hs => ?_
          refine st_skipU hs rfl rfl rfl rfl rfl fun a hs => ?_
          refine st_skip hs rfl rfl rfl rfl rfl fun a hs => ?_
          refine st_skip hs rfl rfl rfl rfl rfl fun a hs => ?_
          refine st_val hs (y_pickF rfl rfl) trivial rfl rfl fun a hs => ?_
          refine wpList_nil ?_
          have hsh := Option.some.inj hsh
          subst hsh
          refine then_normal ?_
          exact ⟨Sv248, (hs.wk rfl), (hw.ft [1, 2] [1, 2] (by decide) rfl rfl)⟩
        ·rintro a w ⟨Sv269, hs, hw⟩
         refine st_val hs (y_move rfl) trivial rfl rfl fun a hs => ?_
         obtain ⟨c287, hc287, hsh⟩ := bind_t hsh
         refine wpl_join 6 (fun a w => ∃ (Sv288 : Nat → Prop), Sl 127 [(8, .int .i64 x69), (9, .bool rv71), (15, .slice p132 rv131.length k133), (105, .bool c287)] a ∧ Wd ⟨w0, S0, []⟩ Sv288 [.row p132 rv131.length k133 c135 34 2] [RowA c135 rv131] w) ?_ ?_
         ·rcases Bool.eq_false_or_eq_true c268 with h286 | h286
          ·have hs := hs.fix 99 (.bool true) rfl (vb h286)
           have hsh := ite_t hc287 h286
           refine st_val hs (y_move rfl) ⟨_, rfl, rfl⟩ rfl rfl fun a hs => ?_
           refine st_val hs (y_move rfl) ⟨_, rfl, rfl⟩ rfl rfl fun a hs => ?_
           obtain ⟨rv290, h289, hsh⟩ := bind_t hsh
           refine st_callR hs (span_Has_ok h289 hw.bdom (hw.bRow 0 rfl 0 rfl)) (do_call Try.call22 rfl) ⟨_, rfl, rfl⟩ rfl rfl ?_
           intro v294 Sv291 w a h292 h293 hs
           subst h293
           have hw := hw.callB h292
           refine st_val hs (y_move rfl) ⟨_, rfl, rfl⟩ rfl rfl fun a hs => ?_
           refine st_val hs (y_eqlB Try.runUnderlying4 rfl rfl) ⟨_, rfl, rfl⟩ rfl rfl fun a hs => ?_
           refine st_val hs (y_pickT rfl rfl) trivial rfl rfl fun a hs => ?_
           refine wpList_nil ?_
           have hsh := Option.some.inj hsh
           subst hsh
           refine then_normal ?_
           exact ⟨Sv269, (hs.wk rfl), (hw.ft [1] [1] (by decide) rfl rfl)⟩
          ·have hs := hs.fix 99 (.bool false) rfl (vb h286)
           have hsh := ite_f hc287 h286
           refine st_skip hs rfl rfl rfl rfl rfl fun a hs => ?_
           refine st_skip hs rfl rfl rfl rfl rfl fun a hs => ?_
           refine st_skip hs rfl rfl rfl rfl rfl fun a hs => ?_
           refine st_skip hs rfl rfl rfl rfl rfl fun a hs => ?_
           refine st_skip hs rfl rfl rfl rfl rfl fun a hs => ?_
           refine st_val hs (y_pickF rfl rfl) trivial rfl rfl fun a hs => ?_
           refine wpList_nil ?_
           have hsh := Option.some.inj hsh
           subst hsh
           refine then_normal ?_
           exact ⟨Sv269, (hs.wk rfl), (hw.ft [1] [1] (by decide) rfl rfl)⟩
         ·rintro a w ⟨Sv288, hs, hw⟩
          refine st_val hs (y_move rfl) trivial rfl rfl fun a hs => ?_
          obtain ⟨c306, hc306, hsh⟩ := bind_t hsh
          refine wpl_join 10 (fun a w => ∃ (Sv307 : Nat → Prop), Sl 127 [(8, .int .i64 x69), (15, .slice p132 rv131.length k133), (116, .bool c306)] a ∧ Wd ⟨w0, S0, []⟩ Sv307 [.row p132 rv131.length k133 c135 34 2] [RowA c135 rv131] w) ?_ ?_
          ·rcases Bool.eq_false_or_eq_true c287 with h305 | h305
           ·have hs := hs.fix 106 (.bool true) rfl (vb h305)
            have hsh := ite_t hc306 h305
            refine st_val hs (y_move rfl) ⟨_, rfl, rfl⟩ rfl rfl fun a hs => ?_
            refine st_val hs (y_move rfl) ⟨_, rfl, rfl⟩ rfl rfl fun a hs => ?_
            obtain ⟨rv309, h308, hsh⟩ := bind_t hsh
            refine st_callR hs (span_Has_ok h308 hw.bdom (hw.bRow 0 rfl 0 rfl)) (do_call Try.call22 rfl) ⟨_, rfl, rfl⟩ rfl rfl ?_
            intro v313 Sv310 w a h311 h312 hs
            subst h312
            have hw := hw.callB h311
            refine st_val hs (y_move rfl) ⟨_, rfl, rfl⟩ rfl rfl fun a hs => ?_
            refine st_val hs (y_move rfl) ⟨_, rfl, rfl⟩ rfl rfl fun a hs => ?_
            refine wpl_join 3 (fun a w1 => w = w1 ∧ Sl 127 [(8, .int .i64 x69), (15, .slice p132 rv131.length k133), (106, .bool true), (109, .bool rv309), (114, .bool (rv71 && (decide (3 ≤ x69))))] a) ?_ ?_
            ·rcases Bool.eq_false_or_eq_true rv71 with h315 | h315
             ·have hs := hs.fix 111 (.bool true) rfl (vb h315)
              refine st_val hs (y_move rfl) ⟨_, rfl, rfl⟩ rfl rfl fun a hs => ?_
              refine st_val hs (y_geq rfl rfl) ⟨_, rfl, rfl⟩ rfl rfl fun a hs => ?_
              refine st_val hs (y_pickT rfl rfl) ⟨_, rfl, rfl⟩ rfl rfl fun a hs => ?_
              refine wpList_nil ?_
              refine then_normal ?_
              exact ⟨rfl, (hs.fix 114 (.bool (rv71 && (decide (3 ≤ x69)))) rfl (and_t h315)).weaken _ ⟨rfl, rfl, rfl, rfl, rfl, trivial⟩⟩
             ·have hs := hs.fix 111 (.bool false) rfl (vb h315)
              refine st_skip hs rfl rfl rfl rfl rfl fun a hs => ?_
              refine st_skip hs rfl rfl rfl rfl rfl fun a hs => ?_
              refine st_val hs (y_pickF rfl rfl) ⟨_, rfl, rfl⟩ rfl rfl fun a hs => ?_
              refine wpList_nil ?_
              refine then_normal ?_
              exact ⟨rfl, (hs.fix 114 (.bool (rv71 && (decide (3 ≤ x69)))) rfl (and_f h315)).weaken _ ⟨rfl, rfl, rfl, rfl, rfl, trivial⟩⟩
            ·rintro a w1 ⟨h316, hs⟩
             subst h316
             refine st_val hs (y_eqlB Try.runUnderlying4 rfl rfl) ⟨_, rfl, rfl⟩ rfl rfl fun a hs => ?_
             refine st_val hs (y_pickT rfl rfl) trivial rfl rfl fun a hs => ?_
             refine wpList_nil ?_
             have hsh := Option.some.inj hsh
             subst hsh
             refine then_normal ?_
             exact ⟨Sv288, (hs.wk rfl), (hw.ft [0] [0] (by decide) rfl rfl)⟩
           ·have hs := hs.fix 106 (.bool false) rfl (vb h305)
            have hsh := ite_f hc306 h305
            refine st_skip hs rfl rfl rfl rfl rfl fun a hs => ?_
            refine st_skip hs rfl rfl rfl rfl rfl fun a hs => ?_
            refine st_skip hs rfl rfl rfl rfl rfl fun a hs => ?_
            refine st_skip hs rfl rfl rfl rfl rfl fun a hs => ?_
            refine st_skip hs rfl rfl rfl rfl rfl fun a hs => ?_
            refine st_skipU hs rfl rfl rfl rfl rfl fun a hs => ?_
            refine st_skipU hs rfl rfl rfl rfl rfl fun a hs => ?_
            refine st_skip hs rfl rfl rfl rfl rfl fun a hs => ?_
            refine st_skip hs rfl rfl rfl rfl rfl fun a hs => ?_
            refine st_val hs (y_pickF rfl rfl) trivial rfl rfl fun a hs => ?_
            refine wpList_nil ?_
            have hsh := Option.some.inj hsh
            subst hsh
            refine then_normal ?_
            exact ⟨Sv288, (hs.wk rfl), (hw.ft [0] [0] (by decide) rfl rfl)⟩
          ·rintro a w ⟨Sv307, hs, hw⟩
           refine st_val hs (y_move rfl) trivial rfl rfl fun a hs => ?_
           obtain ⟨c325, hc325, hsh⟩ := bind_t hsh
           refine wpl_join 6 (fun a w => ∃ (Sv326 : Nat → Prop), Sl 127 [(123, .bool c325)] a ∧ Wd ⟨w0, S0, []⟩ Sv326 [] [] w) ?_ ?_
           ·rcases Bool.eq_false_or_eq_true c306 with h324 | h324
            ·have hs := hs.fix 117 (.bool true) rfl (vb h324)
             have hsh := ite_t hc325 h324
             refine st_val hs (y_move rfl) ⟨_, rfl, rfl⟩ rfl rfl fun a hs => ?_
             refine st_val hs (y_move rfl) ⟨_, rfl, rfl⟩ rfl rfl fun a hs => ?_
             refine st_val hs (y_add rfl rfl) ⟨_, rfl, rfl⟩ rfl rfl fun a hs => ?_
             obtain ⟨rv328, h327, hsh⟩ := bind_t hsh
             refine st_callR hs (span_Has_ok h327 hw.bdom (hw.bRow 0 rfl 0 rfl)) (do_call Try.call22 rfl) ⟨_, rfl, rfl⟩ rfl rfl ?_
             intro v332 Sv329 w a h330 h331 hs
             subst h331
             have hw := hw.callB h330
             refine st_val hs (y_not rfl) ⟨_, rfl, rfl⟩ rfl rfl fun a hs => ?_
             refine st_val hs (y_pickT rfl rfl) trivial rfl rfl fun a hs => ?_
             refine wpList_nil ?_
             have hsh := Option.some.inj hsh
             subst hsh
             refine then_normal ?_
             exact ⟨Sv307, (hs.wk rfl), (hw.ft [] [] (by decide) rfl rfl)⟩
            ·have hs := hs.fix 117 (.bool false) rfl (vb h324)
             have hsh := ite_f hc325 h324
             refine st_skip hs rfl rfl rfl rfl rfl fun a hs => ?_
             refine st_skip hs rfl rfl rfl rfl rfl fun a hs => ?_
             refine st_skip hs rfl rfl rfl rfl rfl fun a hs => ?_
             refine st_skip hs rfl rfl rfl rfl rfl fun a hs => ?_
             refine st_skip hs rfl rfl rfl rfl rfl fun a hs => ?_
             refine st_val hs (y_pickF rfl rfl) trivial rfl rfl fun a hs => ?_
             refine wpList_nil ?_
             have hsh := Option.some.inj hsh
             subst hsh
             refine then_normal ?_
             exact ⟨Sv307, (hs.wk rfl), (hw.ft [] [] (by decide) rfl rfl)⟩
           ·rintro a w ⟨Sv326, hs, hw⟩
            refine st_val hs (y_move rfl) trivial rfl rfl fun a hs => ?_
            obtain ⟨c342, hc342, hsh⟩ := bind_t hsh
            refine wpl_join 2 (fun a w => ∃ (Sv343 : Nat → Prop), Sl 127 [(126, .bool c342)] a ∧ Wd ⟨w0, S0, []⟩ Sv343 [] [] w) ?_ ?_
            ·rcases Bool.eq_false_or_eq_true c325 with h341 | h341
             ·have hs := hs.fix 124 (.bool true) rfl (vb h341)
              have hsh := ite_t hc342 h341
              obtain ⟨rv345, h344, hsh⟩ := bind_t hsh
              refine st_callR hs (law08_sane_ok h344 hw.bdom) (do_call Try.call8 rfl) ⟨_, rfl, rfl⟩ rfl rfl ?_
              intro v349 Sv346 w a h347 h348 hs
              subst h348
              have hw := hw.callB h347
              refine st_val hs (y_pickT rfl rfl) trivial rfl rfl fun a hs => ?_
              refine wpList_nil ?_
              have hsh := Option.some.inj hsh
              subst hsh
              refine then_normal ?_
              exact ⟨Sv326, (hs.wk rfl), (hw.ft [] [] (by decide) rfl rfl)⟩
             ·have hs := hs.fix 124 (.bool false) rfl (vb h341)
              have hsh := ite_f hc342 h341
              refine st_skip hs rfl rfl rfl rfl rfl fun a hs => ?_
              refine st_val hs (y_pickF rfl rfl) trivial rfl rfl fun a hs => ?_
              refine wpList_nil ?_
              have hsh := Option.some.inj hsh
              subst hsh
              refine then_normal ?_
              exact ⟨Sv326, (hs.wk rfl), (hw.ft [] [] (by decide) rfl rfl)⟩
            ·rintro a w ⟨Sv343, hs, hw⟩
             refine st_val hs (y_assign rfl) trivial rfl rfl fun a hs => ?_
             refine wpList_nil ?_
             refine then_normal ?_
             have hsh := Option.some.inj hsh
             subst hsh
             refine wp_ret ?_
             exact ret1 hs rfl (rv_tmp rfl) (hw.ret rfl)

end Go.Proofs.Ytmdnhgjpkdainaa.Wk

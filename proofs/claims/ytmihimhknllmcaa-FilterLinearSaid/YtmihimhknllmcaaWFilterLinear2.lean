/- The walks of FilterLinear, part 2: each Go function computes what its plain program computes. Printed by a program of ours. -/
import Derived.Test.YtmihimhknllmcaaProg
import Derived.Test.YtmihimhknllmcaaDat
import Derived.Test.YtmihimhknllmcaaSh
import Derived.Test.YtmihimhknllmcaaLibI
import Derived.KernelRfl
import Derived.Test.YtmihimhknllmcaaWFilterLinear1
namespace Go.Proofs.Ytmihimhknllmcaa.Wk
open Go Go.RowKit Go.Proofs Go.Proofs.Ytmihimhknllmcaa.Sh
set_option linter.unusedVariables false
set_option linter.unusedSimpArgs false

abbrev law21_FilterLinear_rd (w0 : World) (r : Bool) : (Nat → Prop) → World → Value → Prop := fun S w v => v = .bool r
set_option maxHeartbeats 4000000 in
set_option maxRecDepth 100000 in
theorem law21_FilterLinear_ok {w0 : World} {S0 : Nat → Prop} {p2 : Option Addr} {k3 : Nat} {t1 : (List Int)} {n5 : Int} {by6 : Int} {r : Bool} (hsh : law21_FilterLinear t1 n5 by6 = some r) (hS : ∀ b, S0 b → b < w0.heap.size) (h4 : (SlA p2 t1.length k3 t1).p S0 w0) : Calls Try.prog 4 #[.slice p2 t1.length k3, .int .u8 n5, .int .i8 by6] w0 (Ret [] w0 S0 (law21_FilterLinear_rd w0 r)) := by
  refine calls_of_wp Try.func4 rfl ?_
  have hs := Sl.enter #[.slice p2 t1.length k3, .int .u8 n5, .int .i8 by6] 263 [(0, .slice p2 t1.length k3), (1, .int .u8 n5), (2, .int .i8 by6)] rfl ⟨rfl, rfl, rfl, trivial⟩
  have hw := Wd.enter (E := []) hS (fun _ h => (by cases h))
  have hw := hw.addE h4
  delta law21_FilterLinear at hsh
  refine wp_seq ?_
  refine wp_region_lit ?_
  refine st_val hs (y_assign rfl) trivial rfl rfl fun a hs => ?_
  refine wpList_nil ?_
  refine then_normal ?_
  refine wp_seq ?_
  refine wp_seq ?_
  refine wp_region_lit ?_
  refine st_val hs (y_move rfl) trivial rfl rfl fun a hs => ?_
  obtain ⟨rv8, h7, hsh⟩ := bind_t hsh
  refine st_callR hs (made_Light_ok h7 hw.dom (hw.envAt 0 rfl)) (do_call Try.call10 rfl) trivial rfl rfl ?_
  intro v12 Sv9 w a h10 h11 hs
  subst h11
  have hw := hw.call h10
  refine st_val hs (y_not rfl) trivial rfl rfl fun a hs => ?_
  refine wpList_nil ?_
  refine then_normal ?_
  refine wp_cond_split (hs.ev rfl) (fun h20 => ?_) (fun h20 => ?_)
  · have hsh := ite_t hsh h20
    refine wp_seq ?_
    refine wp_region_lit ?_
    obtain ⟨rv22, h21, hsh⟩ := bind_t hsh
    refine st_callR hs (law21_sane_ok h21 hw.dom) (do_call Try.call11 rfl) trivial rfl rfl ?_
    intro v26 Sv23 w a h24 h25 hs
    subst h25
    have hw := hw.call h24
    refine st_val hs (y_assign rfl) trivial rfl rfl fun a hs => ?_
    refine wpList_nil ?_
    refine then_normal ?_
    have hsh := Option.some.inj hsh
    subst hsh
    refine wp_ret ?_
    refine then_ret ?_
    exact ret1 hs rfl (rv_tmp rfl) (hw.ret rfl)
  · have hsh := ite_f hsh h20
    refine wp_skip ?_
    refine then_normal ?_
    refine wp_seq ?_
    refine wp_region_lit ?_
    refine st_val hs (y_move rfl) trivial rfl rfl fun a hs => ?_
    obtain ⟨rv28, h27, hsh⟩ := bind_t hsh
    refine st_callR hs (made_Roll_ok h27 hw.dom (hw.envAt 0 rfl)) (do_call Try.call12 rfl) trivial rfl rfl ?_
    intro v37 Sv34 w a h35 h36 hs
    obtain ⟨b29, p31, k32, rfl, h30, h33⟩ := h36
    have hw := hw.callF h35 h30
    have hw := hw.addE (e := SlA p31 rv28.L.length k32 rv28.L) h33
    refine st_val hs (y_assign rfl) trivial rfl rfl fun a hs => ?_
    refine wpList_nil ?_
    refine then_normal ?_
    refine wp_seq ?_
    refine wp_region_lit ?_
    refine st_val hs (y_move rfl) trivial rfl rfl fun a hs => ?_
    obtain ⟨rv39, h38, hsh⟩ := bind_t hsh
    refine st_callR hs (made_Dice_Filter_ok h38 hw.dom (hw.ownAt 0 rfl) (hw.boxS 0 rfl) (hw.envAt 0 rfl)) (do_call Try.call13 rfl) trivial rfl rfl ?_
    intro v52 Sv49 w a h50 h51 hs
    obtain ⟨p40, k41, c42, p46, k47, rfl, h43, h44, h45, h48⟩ := h51
    have hw := hw.call1F 0 rfl h50 h45 h43
    have hw := hw.addE (e := RowA c42 rv39.1.Taps) h44
    have hw := hw.addE (e := SlA p46 rv39.2.L.length k47 rv39.2.L) h48
    refine w_alloc (cs := [.slice none ([] : List Int).length 0, .int .i64 0, .int .i64 0]) hs hw Try.zeroValue28 rfl rfl trivial ?_
    intro b53 a w hs hw
    refine w_store (m := 3) (cs' := [.slice p40 rv39.1.Taps.length k41, .int .i64 rv39.1.Factor, .int .i64 rv39.1.Shift]) hs hw 0 rfl rfl rfl Try.sizeOf28 rfl rfl rfl rfl trivial ?_
    intro a w hs hw
    refine wpList_nil ?_
    refine then_normal ?_
    refine wp_seq ?_
    refine wp_region_lit ?_
    refine st_val hs (y_fieldAddr (o' := 1) Try.runUnderlying28 rfl Try.sizeOf3 rfl rfl rfl) trivial rfl rfl fun a hs => ?_
    refine w_store (m := 1) (cs' := [.slice p40 rv39.1.Taps.length k41, .int .i64 1, .int .i64 rv39.1.Shift]) hs hw 0 rfl rfl rfl Try.sizeOf3 rfl rfl rfl rfl trivial ?_
    intro a w hs hw
    refine wpList_nil ?_
    refine then_normal ?_
    refine wp_seq ?_
    refine wp_region_lit ?_
    refine st_val hs (y_assign rfl) trivial rfl rfl fun a hs => ?_
    refine st_val hs (y_assign rfl) trivial rfl rfl fun a hs => ?_
    refine st_val hs (y_assign rfl) trivial rfl rfl fun a hs => ?_
    refine wpList_nil ?_
    refine then_normal ?_
    refine wp_seq ?_
    refine wp_seq ?_
    refine wp_region_lit ?_
    refine st_val hs (y_assign rfl) trivial rfl rfl fun a hs => ?_
    refine wpList_nil ?_
    refine then_normal ?_
    obtain ⟨e304, h2366, hsh⟩ := bind_t hsh
    refine wp_join (fun a w => ∃ (p305 : Option Addr) (k306 : Nat) (p307 : Option Addr) (k308 : Nat) (c309 : List Value) (p310 : Option Addr) (k311 : Nat) (c312 : List Value) (p313 : Option Addr) (k314 : Nat) (c315 : List Value) (Sv316 : Nat → Prop), Sl 263 [(1, .int .u8 n5), (2, .int .i8 by6), (7, .pointer (some ⟨b29, 0, none⟩)), (8, .pointer (some ⟨b53, 0, none⟩)), (9, .slice p307 e304.2.2.1.length k308), (10, .slice p310 e304.2.2.2.1.length k311), (11, .slice p313 e304.2.2.2.2.length k314)] a ∧ Wd ⟨w0, S0, []⟩ Sv316 [.box b29 [.slice p305 e304.1.length k306, .int .i64 e304.2.1] 75, .box b53 [.slice p40 rv39.1.Taps.length k41, .int .i64 1, .int .i64 rv39.1.Shift] 28, .row p40 rv39.1.Taps.length k41 c42 3 1, .row p307 e304.2.2.1.length k308 c309 3 1, .row p310 e304.2.2.2.1.length k311 c312 3 1, .row p313 e304.2.2.2.2.length k314 c315 3 1] [SlA p305 e304.1.length k306 e304.1, RowA c42 rv39.1.Taps, RowA c309 e304.2.2.1, RowA c312 e304.2.2.2.1, RowA c315 e304.2.2.2.2] w) ?_ ?_
    · refine wp_block ?_
      have hw := hw.nilRow Int 3
      have hw := hw.nilRow Int 3
      have hw := hw.nilRow Int 3
      refine wp_while (fun sv54 a w => ∃ (p215 : Option Addr) (k216 : Nat) (p217 : Option Addr) (k218 : Nat) (c219 : List Value) (p220 : Option Addr) (k221 : Nat) (c222 : List Value) (p223 : Option Addr) (k224 : Nat) (c225 : List Value) (Sv226 : Nat → Prop), Sl 263 [(1, .int .u8 n5), (2, .int .i8 by6), (7, .pointer (some ⟨b29, 0, none⟩)), (8, .pointer (some ⟨b53, 0, none⟩)), (9, .slice p217 sv54.2.2.1.length k218), (10, .slice p220 sv54.2.2.2.1.length k221), (11, .slice p223 sv54.2.2.2.2.1.length k224), (12, .int .i64 sv54.2.2.2.2.2)] a ∧ Wd ⟨w0, S0, []⟩ Sv226 [.box b29 [.slice p215 sv54.1.length k216, .int .i64 sv54.2.1] 75, .box b53 [.slice p40 rv39.1.Taps.length k41, .int .i64 1, .int .i64 rv39.1.Shift] 28, .row p40 rv39.1.Taps.length k41 c42 3 1, .row p217 sv54.2.2.1.length k218 c219 3 1, .row p220 sv54.2.2.2.1.length k221 c222 3 1, .row p223 sv54.2.2.2.2.1.length k224 c225 3 1] [SlA p215 sv54.1.length k216 sv54.1, RowA c42 rv39.1.Taps, RowA c219 sv54.2.2.1, RowA c222 sv54.2.2.2.1, RowA c225 sv54.2.2.2.2.1] w) (rv39.2.L, rv39.2.At, ([] : List Int), ([] : List Int), ([] : List Int), 0) h2366 ⟨p46, k47, none, 0, [], none, 0, [], none, 0, [], Sv49, (hs.weaken _ ⟨rfl, rfl, rfl, rfl, rfl, rfl, rfl, rfl, trivial⟩), (hw.fit [5, 3, 4, 2, 1, 0] (by decide) ⟨rfl, rfl, rfl, rfl, rfl, rfl, trivial⟩ ⟨⟨3, rfl⟩, ⟨4, rfl⟩, ⟨0, rfl⟩, ⟨0, rfl⟩, ⟨0, rfl⟩, trivial⟩)⟩ ?_
      clear h2366
      repeat clear hsh
      rintro sv54 a w tv302 ⟨p215, k216, p217, k218, c219, p220, k221, c222, p223, k224, c225, Sv226, hs, hw⟩ hsh hd301
      delta law21_FilterLinear_l1 at hsh
      refine wp_seq ?_
      refine wp_seq ?_
      refine wp_region_lit ?_
      refine st_val hs (y_move rfl) trivial rfl rfl fun a hs => ?_
      refine st_val hs (y_lss rfl rfl) trivial rfl rfl fun a hs => ?_
      refine wpList_nil ?_
      refine then_normal ?_
      refine wp_cond_split (hs.ev rfl) (fun h318 => ?_) (fun h318 => ?_)
      · have hsh := ite_t hsh h318
        refine wp_skip ?_
        refine then_normal ?_
        refine wp_seq ?_
        refine wp_block ?_
        refine wp_seq ?_
        obtain ⟨rv355, h354, hsh⟩ := bind_t hsh
        obtain ⟨shl361, h360, hsh⟩ := bind_t hsh
        obtain ⟨rv363, h362, hsh⟩ := bind_t hsh
        obtain ⟨shl369, h368, hsh⟩ := bind_t hsh
        refine wp_only (fun a w => ∃ (Sv370 : Nat → Prop) (k366 : Nat) (p365 : Option Addr), Sl 263 [(1, .int .u8 n5), (2, .int .i8 by6), (7, .pointer (some ⟨b29, 0, none⟩)), (8, .pointer (some ⟨b53, 0, none⟩)), (9, .slice p217 sv54.2.2.1.length k218), (10, .slice p220 sv54.2.2.2.1.length k221), (11, .slice p223 sv54.2.2.2.2.1.length k224), (12, .int .i64 sv54.2.2.2.2.2), (13, .int .i64 shl361), (14, .int .i64 shl369)] a ∧ Wd ⟨w0, S0, []⟩ Sv370 [.box b29 [.slice p365 rv363.2.L.length k366, .int .i64 rv363.2.At] 75, .box b53 [.slice p40 rv39.1.Taps.length k41, .int .i64 1, .int .i64 rv39.1.Shift] 28, .row p40 rv39.1.Taps.length k41 c42 3 1, .row p217 sv54.2.2.1.length k218 c219 3 1, .row p220 sv54.2.2.2.1.length k221 c222 3 1, .row p223 sv54.2.2.2.2.1.length k224 c225 3 1] [SlA p365 rv363.2.L.length k366 rv363.2.L, RowA c42 rv39.1.Taps, RowA c219 sv54.2.2.1, RowA c222 sv54.2.2.2.1, RowA c225 sv54.2.2.2.2.1] w) ?_ ?_
        · refine h_begin (C := Cls [.box b53 [.slice p40 rv39.1.Taps.length k41, .int .i64 1, .int .i64 rv39.1.Shift] 28, .row p40 rv39.1.Taps.length k41 c42 3 1, .row p217 sv54.2.2.1.length k218 c219 3 1, .row p220 sv54.2.2.2.1.length k221 c222 3 1, .row p223 sv54.2.2.2.2.1.length k224 c225 3 1] []) (by kernel_rfl) rfl ?_
          have hw := hw.drew
          have hC : Cls [.box b53 [.slice p40 rv39.1.Taps.length k41, .int .i64 1, .int .i64 rv39.1.Shift] 28, .row p40 rv39.1.Taps.length k41 c42 3 1, .row p217 sv54.2.2.1.length k218 c219 3 1, .row p220 sv54.2.2.2.1.length k221 c222 3 1, .row p223 sv54.2.2.2.2.1.length k224 c225 3 1] [] _ := hw.cls [1, 2, 3, 4, 5] ⟨rfl, rfl, rfl, rfl, rfl, trivial⟩ trivial
          refine h_take hs (i := 0) rfl (by kernel_rfl) (by kernel_rfl) (by kernel_rfl) trivial rfl rfl hC (fun w hC => y_move rfl) fun a hs => ?_
          refine h_take hs (i := 3) rfl (by kernel_rfl) (by kernel_rfl) (by kernel_rfl) trivial rfl rfl hC (fun w hC => y_fieldAddr (o' := 2) Try.runUnderlying28 rfl Try.sizeOf3 rfl rfl rfl) fun a hs => ?_
          refine h_take hs (i := 4) rfl (by kernel_rfl) (by kernel_rfl) (by kernel_rfl) trivial rfl rfl hC (fun w hC => y_loadB1 (hC.ownAt 0 rfl) rfl Try.isAgg3 rfl) fun a hs => ?_
          refine h_take hs (i := 5) rfl (by kernel_rfl) (by kernel_rfl) (by kernel_rfl) trivial rfl rfl hC (fun w hC => y_convert Try.runUnderlying3 Try.runUnderlying30 rfl) fun a hs => ?_
          refine h_take hs (i := 7) rfl (by kernel_rfl) (by kernel_rfl) (by kernel_rfl) trivial rfl rfl hC (fun w hC => y_move rfl) fun a hs => ?_
          refine h_take hs (i := 10) rfl (by kernel_rfl) (by kernel_rfl) (by kernel_rfl) trivial rfl rfl hC (fun w hC => y_fieldAddr (o' := 2) Try.runUnderlying28 rfl Try.sizeOf3 rfl rfl rfl) fun a hs => ?_
          refine h_take hs (i := 11) rfl (by kernel_rfl) (by kernel_rfl) (by kernel_rfl) trivial rfl rfl hC (fun w hC => y_loadB1 (hC.ownAt 0 rfl) rfl Try.isAgg3 rfl) fun a hs => ?_
          refine h_take hs (i := 12) rfl (by kernel_rfl) (by kernel_rfl) (by kernel_rfl) trivial rfl rfl hC (fun w hC => y_convert Try.runUnderlying3 Try.runUnderlying30 rfl) fun a hs => ?_
          refine h_all (rs := [1]) (by kernel_rfl) rfl ?_
          refine AllH.cons rfl ?_ ?_
          · refine st_callR hs (made_Dice_Next_ok h354 hw.dom (hw.ownAt 0 rfl) (hw.boxS 0 rfl) (hw.envAt 0 rfl)) (do_call Try.call15 rfl) trivial rfl rfl ?_
            intro v374 Sv371 w a h372 h373 hs
            obtain ⟨p357, k358, rfl, h356, h359⟩ := h373
            have hw := hw.call1 0 rfl h372 h356
            have hw := hw.addE (e := SlA p357 rv355.2.L.length k358 rv355.2.L) h359
            refine wpList_nil ?_
            refine then_normal ?_
            have hC : Cls [.box b53 [.slice p40 rv39.1.Taps.length k41, .int .i64 1, .int .i64 rv39.1.Shift] 28, .row p40 rv39.1.Taps.length k41 c42 3 1, .row p217 sv54.2.2.1.length k218 c219 3 1, .row p220 sv54.2.2.2.1.length k221 c222 3 1, .row p223 sv54.2.2.2.2.1.length k224 c225 3 1] [] _ := hw.cls [1, 2, 3, 4, 5] ⟨rfl, rfl, rfl, rfl, rfl, trivial⟩ trivial
            refine ⟨hC, ?_⟩
            refine h_take hs (i := 2) rfl (by kernel_rfl) (by kernel_rfl) (by kernel_rfl) trivial rfl rfl hC (fun w hC => y_sub rfl rfl) fun a hs => ?_
            refine h_take hs (i := 6) rfl (by kernel_rfl) (by kernel_rfl) (by kernel_rfl) trivial rfl rfl hC (fun w hC => y_shlM rfl rfl h360) fun a hs => ?_
            refine h_all (rs := [8]) (by kernel_rfl) rfl ?_
            refine AllH.cons rfl ?_ ?_
            · refine st_callR hs (made_Dice_Next_ok h362 hw.dom (hw.ownAt 0 rfl) (hw.boxS 0 rfl) (hw.envAt 0 rfl)) (do_call Try.call15 rfl) trivial rfl rfl ?_
              intro v378 Sv375 w a h376 h377 hs
              obtain ⟨p365, k366, rfl, h364, h367⟩ := h377
              have hw := hw.call1 0 rfl h376 h364
              have hw := hw.addE (e := SlA p365 rv363.2.L.length k366 rv363.2.L) h367
              refine wpList_nil ?_
              refine then_normal ?_
              have hC : Cls [.box b53 [.slice p40 rv39.1.Taps.length k41, .int .i64 1, .int .i64 rv39.1.Shift] 28, .row p40 rv39.1.Taps.length k41 c42 3 1, .row p217 sv54.2.2.1.length k218 c219 3 1, .row p220 sv54.2.2.2.1.length k221 c222 3 1, .row p223 sv54.2.2.2.2.1.length k224 c225 3 1] [] _ := hw.cls [1, 2, 3, 4, 5] ⟨rfl, rfl, rfl, rfl, rfl, trivial⟩ trivial
              refine ⟨hC, ?_⟩
              refine h_take hs (i := 9) rfl (by kernel_rfl) (by kernel_rfl) (by kernel_rfl) trivial rfl rfl hC (fun w hC => y_sub rfl rfl) fun a hs => ?_
              refine h_take hs (i := 13) rfl (by kernel_rfl) (by kernel_rfl) (by kernel_rfl) trivial rfl rfl hC (fun w hC => y_shlM rfl rfl h368) fun a hs => ?_
              refine h_take hs (i := 14) rfl (by kernel_rfl) (by kernel_rfl) (by kernel_rfl) trivial rfl rfl hC (fun w hC => y_assign rfl) fun a hs => ?_
              refine h_take hs (i := 15) rfl (by kernel_rfl) (by kernel_rfl) (by kernel_rfl) trivial rfl rfl hC (fun w hC => y_assign rfl) fun a hs => ?_
              refine h_done (by kernel_rfl) ?_
              exact ⟨Sv375, k366, p365, (hs.weaken _ ⟨rfl, rfl, rfl, rfl, rfl, rfl, rfl, rfl, rfl, rfl, trivial⟩), (hw.fit [0, 1, 2, 3, 4, 5] (by decide) ⟨rfl, rfl, rfl, rfl, rfl, rfl, trivial⟩ ⟨⟨0, rfl⟩, ⟨3, rfl⟩, ⟨4, rfl⟩, ⟨5, rfl⟩, ⟨6, rfl⟩, trivial⟩)⟩
            exact AllH.nil
          exact AllH.nil
        · rintro a w ⟨Sv370, k366, p365, hs, hw⟩
          refine then_normal ?_
          refine wp_region_lit ?_
          refine st_val hs (y_move rfl) trivial rfl rfl fun a hs => ?_
          refine st_val hs (y_move rfl) trivial rfl rfl fun a hs => ?_
          refine w_buildSlice (α := Int) (vs := [.int .i64 shl361]) (cs := [.int .i64 shl361]) (xs := ([shl361] : List Int)) hs hw El22 rfl rfl rfl rfl rfl rfl ⟨⟨_, rfl, rfl⟩, rfl⟩ rfl trivial ?_
          intro p379 a w hs hw
          obtain ⟨l381, h380, hsh⟩ := bind_t hsh
          refine w_appendR (α := Int) hs hw El22 4 rfl rfl rfl 3 rfl 0 rfl 0 rfl h380 rfl trivial ?_
          intro p382 k383 c384 a w hs hw
          refine st_val hs (y_move rfl) trivial rfl rfl fun a hs => ?_
          refine st_val hs (y_move rfl) trivial rfl rfl fun a hs => ?_
          refine w_buildSlice (α := Int) (vs := [.int .i64 shl369]) (cs := [.int .i64 shl369]) (xs := ([shl369] : List Int)) hs hw El22 rfl rfl rfl rfl rfl rfl ⟨⟨_, rfl, rfl⟩, rfl⟩ rfl trivial ?_
          intro p385 a w hs hw
          obtain ⟨l387, h386, hsh⟩ := bind_t hsh
          refine w_appendR (α := Int) hs hw El22 6 rfl rfl rfl 6 rfl 0 rfl 0 rfl h386 rfl trivial ?_
          intro p388 k389 c390 a w hs hw
          refine st_val hs (y_move rfl) trivial rfl rfl fun a hs => ?_
          refine st_val hs (y_move rfl) trivial rfl rfl fun a hs => ?_
          refine st_val hs (y_move rfl) trivial rfl rfl fun a hs => ?_
          refine st_val hs (y_convert Try.runUnderlying35 Try.runUnderlying3 rfl) trivial rfl rfl fun a hs => ?_
          refine st_val hs (y_move rfl) trivial rfl rfl fun a hs => ?_
          refine st_val hs (y_mul rfl rfl) trivial rfl rfl fun a hs => ?_
          refine st_val hs (y_add rfl rfl) trivial rfl rfl fun a hs => ?_
          refine w_buildSlice (α := Int) (vs := [.int .i64 (w64 (shl361 + (w64 ((w64 by6) * shl369))))]) (cs := [.int .i64 (w64 (shl361 + (w64 ((w64 by6) * shl369))))]) (xs := ([(w64 (shl361 + (w64 ((w64 by6) * shl369))))] : List Int)) hs hw El22 rfl rfl rfl rfl rfl rfl ⟨⟨_, rfl, rfl⟩, rfl⟩ rfl trivial ?_
          intro p391 a w hs hw
          obtain ⟨l393, h392, hsh⟩ := bind_t hsh
          refine w_appendR (α := Int) hs hw El22 8 rfl rfl rfl 9 rfl 0 rfl 0 rfl h392 rfl trivial ?_
          intro p394 k395 c396 a w hs hw
          refine st_val hs (y_assign rfl) trivial rfl rfl fun a hs => ?_
          refine st_val hs (y_assign rfl) trivial rfl rfl fun a hs => ?_
          refine st_val hs (y_assign rfl) trivial rfl rfl fun a hs => ?_
          refine wpList_nil ?_
          refine blk_normal ?_
          refine then_normal ?_
          refine wp_region_lit ?_
          refine st_val hs (y_move rfl) trivial rfl rfl fun a hs => ?_
          refine st_val hs (y_add rfl rfl) trivial rfl rfl fun a hs => ?_
          obtain ⟨i398, h397, hsh⟩ := bind_t hsh
          refine st_val hs (y_assignI rfl h397) trivial rfl rfl fun a hs => ?_
          refine wpList_nil ?_
          refine then_normal ?_
          exact ⟨_, (Option.some.inj hsh).symm, p365, k366, p382, k383, c384, p388, k389, c390, p394, k395, c396, Sv370, (hs.weaken _ ⟨rfl, rfl, rfl, rfl, rfl, rfl, rfl, rfl, trivial⟩), (hw.fit [3, 4, 5, 6, 7, 8] (by decide) ⟨rfl, rfl, rfl, rfl, rfl, rfl, trivial⟩ ⟨⟨6, rfl⟩, ⟨7, rfl⟩, ⟨4, rfl⟩, ⟨2, rfl⟩, ⟨0, rfl⟩, trivial⟩)⟩
      · have hsh := ite_f hsh h318
        refine wp_exit ?_
        refine then_exit ?_
        refine then_exit ?_
        refine blk_exit ?_
        have hsh := Option.some.inj hsh
        subst hsh
        have h399 := hd301 _ rfl
        subst h399
        refine then_normal ?_
        exact ⟨p215, k216, p217, k218, c219, p220, k221, c222, p223, k224, c225, Sv226, (hs.weaken _ ⟨rfl, rfl, rfl, rfl, rfl, rfl, rfl, trivial⟩), (hw.fit [0, 1, 2, 3, 4, 5] (by decide) ⟨rfl, rfl, rfl, rfl, rfl, rfl, trivial⟩ ⟨⟨0, rfl⟩, ⟨1, rfl⟩, ⟨2, rfl⟩, ⟨3, rfl⟩, ⟨4, rfl⟩, trivial⟩)⟩
    · rintro a w ⟨p305, k306, p307, k308, c309, p310, k311, c312, p313, k314, c315, Sv316, hs, hw⟩
      refine then_normal ?_
      refine wp_seq ?_
      refine wp_region_lit ?_
      refine st_val hs (y_loadBA (hw.ownAt 1 rfl) rfl Try.isAgg28 Try.sizeOf28 rfl rfl) trivial rfl rfl fun a hs => ?_
      refine st_val hs (y_move rfl) trivial rfl rfl fun a hs => ?_
      obtain ⟨rv401, h400, hsh⟩ := bind_t hsh
      obtain ⟨Sv407, hw⟩ := w_share (α := Int) hw 2 rfl 1 rfl (.inl rfl)
      obtain ⟨Sv408, hw⟩ := w_share (α := Int) hw 2 rfl 3 rfl (.inl rfl)
      refine st_callR hs (filter_Apply_ok h400 hw.dom (hw.envAt 1 rfl) (hw.envAt 0 rfl)) (do_call Try.call14 rfl) trivial rfl rfl ?_
      intro v412 Sv409 w a h410 h411 hs
      obtain ⟨p402, k403, c404, rfl, h405, h406⟩ := h411
      have hw := hw.callF h410 h405
      have hw := hw.addE (e := RowA c404 rv401.1) h406
      refine st_val hs (y_move rfl) trivial rfl rfl fun a hs => ?_
      refine st_val hs (y_extract rfl rfl) trivial rfl rfl fun a hs => ?_
      refine st_val hs (y_extract rfl rfl) trivial rfl rfl fun a hs => ?_
      refine st_val hs (y_assign rfl) trivial rfl rfl fun a hs => ?_
      refine st_val hs (y_assign rfl) trivial rfl rfl fun a hs => ?_
      refine wpList_nil ?_
      refine then_normal ?_
      refine wp_seq ?_
      refine wp_region_lit ?_
      refine st_val hs (y_loadBA (hw.ownAt 2 rfl) rfl Try.isAgg28 Try.sizeOf28 rfl rfl) trivial rfl rfl fun a hs => ?_
      refine st_val hs (y_move rfl) trivial rfl rfl fun a hs => ?_
      obtain ⟨rv414, h413, hsh⟩ := bind_t hsh
      obtain ⟨Sv420, hw⟩ := w_share (α := Int) hw 3 rfl 6 rfl (.inl rfl)
      refine st_callR hs (filter_Apply_ok h413 hw.dom (hw.envAt 3 rfl) (hw.envAt 0 rfl)) (do_call Try.call14 rfl) trivial rfl rfl ?_
      intro v424 Sv421 w a h422 h423 hs
      obtain ⟨p415, k416, c417, rfl, h418, h419⟩ := h423
      have hw := hw.callF h422 h418
      have hw := hw.addE (e := RowA c417 rv414.1) h419
      refine st_val hs (y_move rfl) trivial rfl rfl fun a hs => ?_
      refine st_val hs (y_extract rfl rfl) trivial rfl rfl fun a hs => ?_
      refine st_val hs (y_extract rfl rfl) trivial rfl rfl fun a hs => ?_
      refine st_val hs (y_assign rfl) trivial rfl rfl fun a hs => ?_
      refine st_val hs (y_assign rfl) trivial rfl rfl fun a hs => ?_
      refine wpList_nil ?_
      refine then_normal ?_
      refine wp_seq ?_
      refine wp_region_lit ?_
      refine st_val hs (y_loadBA (hw.ownAt 3 rfl) rfl Try.isAgg28 Try.sizeOf28 rfl rfl) trivial rfl rfl fun a hs => ?_
      refine st_val hs (y_move rfl) trivial rfl rfl fun a hs => ?_
      refine st_val hs (y_move rfl) trivial rfl rfl fun a hs => ?_
      refine st_val hs (y_convert Try.runUnderlying5 Try.runUnderlying3 rfl) trivial rfl rfl fun a hs => ?_
      obtain ⟨rv426, h425, hsh⟩ := bind_t hsh
      obtain ⟨Sv432, hw⟩ := w_share (α := Int) hw 4 rfl 9 rfl (.inl rfl)
      refine st_callR hs (filter_Apply_ok h425 hw.dom (hw.envAt 5 rfl) (hw.envAt 0 rfl)) (do_call Try.call14 rfl) trivial rfl rfl ?_
      intro v436 Sv433 w a h434 h435 hs
      obtain ⟨p427, k428, c429, rfl, h430, h431⟩ := h435
      have hw := hw.callF h434 h430
      have hw := hw.addE (e := RowA c429 rv426.1) h431
      refine st_val hs (y_move rfl) trivial rfl rfl fun a hs => ?_
      refine st_val hs (y_extract rfl rfl) trivial rfl rfl fun a hs => ?_
      refine st_val hs (y_extract rfl rfl) trivial rfl rfl fun a hs => ?_
      refine st_val hs (y_assign rfl) trivial rfl rfl fun a hs => ?_
      refine st_val hs (y_assign rfl) trivial rfl rfl fun a hs => ?_
      refine wpList_nil ?_
      refine then_normal ?_
      refine wp_seq ?_
      obtain ⟨l442, h437, hsh⟩ := bind_t hsh
      obtain ⟨p440, k441, h438, h439⟩ := sub_env (hw.envAt 5 rfl) h437
      have hw := hw.addE h438
      obtain ⟨rv444, h443, hsh⟩ := bind_t hsh
      refine wp_only (fun a w => ∃ (Sv450 : Nat → Prop) (c447 : List Value) (k446 : Nat) (p445 : Option Addr), Sl 263 [(1, .int .u8 n5), (2, .int .i8 by6), (7, .pointer (some ⟨b29, 0, none⟩)), (8, .pointer (some ⟨b53, 0, none⟩)), (15, .slice p402 rv401.1.length k403), (16, .int .i64 rv401.2), (17, .slice p415 rv414.1.length k416), (18, .int .i64 rv414.2), (19, .slice p427 rv426.1.length k428), (20, .int .i64 rv426.2), (21, .slice p445 rv444.1.length k446), (22, .int .i64 rv444.2)] a ∧ Wd ⟨w0, S0, []⟩ Sv450 [.box b29 [.slice p305 e304.1.length k306, .int .i64 e304.2.1] 75, .box b53 [.slice p40 rv39.1.Taps.length k41, .int .i64 1, .int .i64 rv39.1.Shift] 28, .row p402 rv401.1.length k403 c404 3 1, .row p415 rv414.1.length k416 c417 3 1, .row p427 rv426.1.length k428 c429 3 1, .row p445 rv444.1.length k446 c447 3 1] [SlA p305 e304.1.length k306 e304.1, SlA p40 rv39.1.Taps.length k41 rv39.1.Taps, RowA c404 rv401.1, RowA c417 rv414.1, RowA c429 rv426.1, RowA c447 rv444.1] w) ?_ ?_
      · refine h_begin (C := Cls [.row p427 rv426.1.length k428 c429 3 1, .row p415 rv414.1.length k416 c417 3 1, .row p402 rv401.1.length k403 c404 3 1, .box b29 [.slice p305 e304.1.length k306, .int .i64 e304.2.1] 75, .box b53 [.slice p40 rv39.1.Taps.length k41, .int .i64 1, .int .i64 rv39.1.Shift] 28] []) (by kernel_rfl) rfl ?_
        have hw := hw.drew
        have hC : Cls [.row p427 rv426.1.length k428 c429 3 1, .row p415 rv414.1.length k416 c417 3 1, .row p402 rv401.1.length k403 c404 3 1, .box b29 [.slice p305 e304.1.length k306, .int .i64 e304.2.1] 75, .box b53 [.slice p40 rv39.1.Taps.length k41, .int .i64 1, .int .i64 rv39.1.Shift] 28] [] _ := hw.cls [0, 1, 2, 3, 4] ⟨rfl, rfl, rfl, rfl, rfl, trivial⟩ trivial
        refine h_take hs (i := 0) rfl (by kernel_rfl) (by kernel_rfl) (by kernel_rfl) trivial rfl rfl hC (fun w hC => y_loadBA (hC.ownAt 4 rfl) rfl Try.isAgg28 Try.sizeOf28 rfl rfl) fun a hs => ?_
        refine h_take hs (i := 1) rfl (by kernel_rfl) (by kernel_rfl) (by kernel_rfl) trivial rfl rfl hC (fun w hC => y_move rfl) fun a hs => ?_
        refine h_take hs (i := 2) rfl (by kernel_rfl) (by kernel_rfl) (by kernel_rfl) trivial rfl rfl hC (fun w hC => y_slc Try.runUnderlying22 Try.sizeOf3 rfl ⟨_, rfl⟩ (by exact rfl) h439) fun a hs => ?_
        refine h_all (rs := [3]) (by kernel_rfl) rfl ?_
        refine AllH.cons rfl ?_ ?_
        · refine st_callR hs (filter_Apply_ok h443 hw.dom (hw.envAt 7 rfl) (hw.envAt 0 rfl)) (do_call Try.call14 rfl) trivial rfl rfl ?_
          intro v454 Sv451 w a h452 h453 hs
          obtain ⟨p445, k446, c447, rfl, h448, h449⟩ := h453
          have hw := hw.callF h452 h448
          have hw := hw.addE (e := RowA c447 rv444.1) h449
          refine wpList_nil ?_
          refine then_normal ?_
          have hC : Cls [.row p427 rv426.1.length k428 c429 3 1, .row p415 rv414.1.length k416 c417 3 1, .row p402 rv401.1.length k403 c404 3 1, .box b29 [.slice p305 e304.1.length k306, .int .i64 e304.2.1] 75, .box b53 [.slice p40 rv39.1.Taps.length k41, .int .i64 1, .int .i64 rv39.1.Shift] 28] [] _ := hw.cls [1, 2, 3, 4, 5] ⟨rfl, rfl, rfl, rfl, rfl, trivial⟩ trivial
          refine ⟨hC, ?_⟩
          refine h_take hs (i := 4) rfl (by kernel_rfl) (by kernel_rfl) (by kernel_rfl) trivial rfl rfl hC (fun w hC => y_move rfl) fun a hs => ?_
          refine h_take hs (i := 5) rfl (by kernel_rfl) (by kernel_rfl) (by kernel_rfl) trivial rfl rfl hC (fun w hC => y_extract rfl rfl) fun a hs => ?_
          refine h_take hs (i := 6) rfl (by kernel_rfl) (by kernel_rfl) (by kernel_rfl) trivial rfl rfl hC (fun w hC => y_extract rfl rfl) fun a hs => ?_
          refine h_take hs (i := 7) rfl (by kernel_rfl) (by kernel_rfl) (by kernel_rfl) trivial rfl rfl hC (fun w hC => y_assign rfl) fun a hs => ?_
          refine h_take hs (i := 8) rfl (by kernel_rfl) (by kernel_rfl) (by kernel_rfl) trivial rfl rfl hC (fun w hC => y_assign rfl) fun a hs => ?_
          refine h_done (by kernel_rfl) ?_
          exact ⟨Sv451, c447, k446, p445, (hs.weaken _ ⟨rfl, rfl, rfl, rfl, rfl, rfl, rfl, rfl, rfl, rfl, rfl, rfl, trivial⟩), (hw.fit [4, 5, 3, 2, 1, 0] (by decide) ⟨rfl, rfl, rfl, rfl, rfl, rfl, trivial⟩ ⟨⟨9, rfl⟩, ⟨8, rfl⟩, ⟨6, rfl⟩, ⟨4, rfl⟩, ⟨2, rfl⟩, ⟨0, rfl⟩, trivial⟩)⟩
        exact AllH.nil
      · rintro a w ⟨Sv450, c447, k446, p445, hs, hw⟩
        refine then_normal ?_
        refine wp_seq ?_
        refine wp_seq ?_
        refine wp_region_lit ?_
        refine st_val hs (y_move rfl) trivial rfl rfl fun a hs => ?_
        refine st_val hs (y_neq rfl rfl) trivial rfl rfl fun a hs => ?_
        refine st_val hs (y_move rfl) trivial rfl rfl fun a hs => ?_
        refine wpl_join 3 (fun a w1 => w = w1 ∧ Sl 263 [(1, .int .u8 n5), (2, .int .i8 by6), (7, .pointer (some ⟨b29, 0, none⟩)), (8, .pointer (some ⟨b53, 0, none⟩)), (15, .slice p402 rv401.1.length k403), (17, .slice p415 rv414.1.length k416), (19, .slice p427 rv426.1.length k428), (20, .int .i64 rv426.2), (21, .slice p445 rv444.1.length k446), (22, .int .i64 rv444.2), (107, .bool ((rv401.2 != 0) || (rv414.2 != 0)))] a) ?_ ?_
        · rcases Bool.eq_false_or_eq_true (rv401.2 != 0) with h455 | h455
          · have hs := hs.fix 104 (.bool true) rfl (vb h455)
            refine st_skip hs rfl rfl rfl rfl rfl fun a hs => ?_
            refine st_skip hs rfl rfl rfl rfl rfl fun a hs => ?_
            refine st_val hs (y_pickT rfl rfl) trivial rfl rfl fun a hs => ?_
            refine wpList_nil ?_
            refine then_normal ?_
            exact ⟨rfl, (hs.fix 107 (.bool ((rv401.2 != 0) || (rv414.2 != 0))) rfl (or_t h455)).weaken _ ⟨rfl, rfl, rfl, rfl, rfl, rfl, rfl, rfl, rfl, rfl, rfl, trivial⟩⟩
          · have hs := hs.fix 104 (.bool false) rfl (vb h455)
            refine st_val hs (y_move rfl) ⟨_, rfl, rfl⟩ rfl rfl fun a hs => ?_
            refine st_val hs (y_neq rfl rfl) ⟨_, rfl, rfl⟩ rfl rfl fun a hs => ?_
            refine st_val hs (y_pickF rfl rfl) trivial rfl rfl fun a hs => ?_
            refine wpList_nil ?_
            refine then_normal ?_
            exact ⟨rfl, (hs.fix 107 (.bool ((rv401.2 != 0) || (rv414.2 != 0))) rfl (or_f h455)).weaken _ ⟨rfl, rfl, rfl, rfl, rfl, rfl, rfl, rfl, rfl, rfl, rfl, trivial⟩⟩
        · rintro a w1 ⟨h2365, hs⟩
          subst h2365
          refine st_val hs (y_move rfl) trivial rfl rfl fun a hs => ?_
          refine wpl_join 3 (fun a w1 => w = w1 ∧ Sl 263 [(1, .int .u8 n5), (2, .int .i8 by6), (7, .pointer (some ⟨b29, 0, none⟩)), (8, .pointer (some ⟨b53, 0, none⟩)), (15, .slice p402 rv401.1.length k403), (17, .slice p415 rv414.1.length k416), (19, .slice p427 rv426.1.length k428), (21, .slice p445 rv444.1.length k446), (22, .int .i64 rv444.2), (111, .bool (((rv401.2 != 0) || (rv414.2 != 0)) || (rv426.2 != 0)))] a) ?_ ?_
          · rcases Bool.eq_false_or_eq_true ((rv401.2 != 0) || (rv414.2 != 0)) with h456 | h456
            · have hs := hs.fix 108 (.bool true) rfl (vb h456)
              refine st_skip hs rfl rfl rfl rfl rfl fun a hs => ?_
              refine st_skip hs rfl rfl rfl rfl rfl fun a hs => ?_
              refine st_val hs (y_pickT rfl rfl) trivial rfl rfl fun a hs => ?_
              refine wpList_nil ?_
              refine then_normal ?_
              exact ⟨rfl, (hs.fix 111 (.bool (((rv401.2 != 0) || (rv414.2 != 0)) || (rv426.2 != 0))) rfl (or_t h456)).weaken _ ⟨rfl, rfl, rfl, rfl, rfl, rfl, rfl, rfl, rfl, rfl, trivial⟩⟩
            · have hs := hs.fix 108 (.bool false) rfl (vb h456)
              refine st_val hs (y_move rfl) ⟨_, rfl, rfl⟩ rfl rfl fun a hs => ?_
              refine st_val hs (y_neq rfl rfl) ⟨_, rfl, rfl⟩ rfl rfl fun a hs => ?_
              refine st_val hs (y_pickF rfl rfl) trivial rfl rfl fun a hs => ?_
              refine wpList_nil ?_
              refine then_normal ?_
              exact ⟨rfl, (hs.fix 111 (.bool (((rv401.2 != 0) || (rv414.2 != 0)) || (rv426.2 != 0))) rfl (or_f h456)).weaken _ ⟨rfl, rfl, rfl, rfl, rfl, rfl, rfl, rfl, rfl, rfl, trivial⟩⟩
          · rintro a w1 ⟨h2364, hs⟩
            subst h2364
            refine st_val hs (y_move rfl) trivial rfl rfl fun a hs => ?_
            refine wpl_join 3 (fun a w1 => w = w1 ∧ Sl 263 [(1, .int .u8 n5), (2, .int .i8 by6), (7, .pointer (some ⟨b29, 0, none⟩)), (8, .pointer (some ⟨b53, 0, none⟩)), (15, .slice p402 rv401.1.length k403), (17, .slice p415 rv414.1.length k416), (19, .slice p427 rv426.1.length k428), (21, .slice p445 rv444.1.length k446), (115, .bool ((((rv401.2 != 0) || (rv414.2 != 0)) || (rv426.2 != 0)) || (rv444.2 != 0)))] a) ?_ ?_
            · rcases Bool.eq_false_or_eq_true (((rv401.2 != 0) || (rv414.2 != 0)) || (rv426.2 != 0)) with h457 | h457
              · have hs := hs.fix 112 (.bool true) rfl (vb h457)
                refine st_skip hs rfl rfl rfl rfl rfl fun a hs => ?_
                refine st_skip hs rfl rfl rfl rfl rfl fun a hs => ?_
                refine st_val hs (y_pickT rfl rfl) trivial rfl rfl fun a hs => ?_
                refine wpList_nil ?_
                refine then_normal ?_
                exact ⟨rfl, (hs.fix 115 (.bool ((((rv401.2 != 0) || (rv414.2 != 0)) || (rv426.2 != 0)) || (rv444.2 != 0))) rfl (or_t h457)).weaken _ ⟨rfl, rfl, rfl, rfl, rfl, rfl, rfl, rfl, rfl, trivial⟩⟩
              · have hs := hs.fix 112 (.bool false) rfl (vb h457)
                refine st_val hs (y_move rfl) ⟨_, rfl, rfl⟩ rfl rfl fun a hs => ?_
                refine st_val hs (y_neq rfl rfl) ⟨_, rfl, rfl⟩ rfl rfl fun a hs => ?_
                refine st_val hs (y_pickF rfl rfl) trivial rfl rfl fun a hs => ?_
                refine wpList_nil ?_
                refine then_normal ?_
                exact ⟨rfl, (hs.fix 115 (.bool ((((rv401.2 != 0) || (rv414.2 != 0)) || (rv426.2 != 0)) || (rv444.2 != 0))) rfl (or_f h457)).weaken _ ⟨rfl, rfl, rfl, rfl, rfl, rfl, rfl, rfl, rfl, trivial⟩⟩
            · rintro a w1 ⟨h2363, hs⟩
              subst h2363
              refine st_val hs (y_move rfl) trivial rfl rfl fun a hs => ?_
              refine wpl_join 8 (fun a w1 => w = w1 ∧ Sl 263 [(1, .int .u8 n5), (2, .int .i8 by6), (7, .pointer (some ⟨b29, 0, none⟩)), (8, .pointer (some ⟨b53, 0, none⟩)), (15, .slice p402 rv401.1.length k403), (17, .slice p415 rv414.1.length k416), (19, .slice p427 rv426.1.length k428), (21, .slice p445 rv444.1.length k446), (124, .bool (((((rv401.2 != 0) || (rv414.2 != 0)) || (rv426.2 != 0)) || (rv444.2 != 0)) || ((rv401.1.length : Int) != (w64 (15 - (rv39.1.Taps.length : Int))))))] a) ?_ ?_
              · rcases Bool.eq_false_or_eq_true ((((rv401.2 != 0) || (rv414.2 != 0)) || (rv426.2 != 0)) || (rv444.2 != 0)) with h458 | h458
                · have hs := hs.fix 116 (.bool true) rfl (vb h458)
                  refine st_skip hs rfl rfl rfl rfl rfl fun a hs => ?_
                  refine st_skip hs rfl rfl rfl rfl rfl fun a hs => ?_
                  refine st_skip hs rfl rfl rfl rfl rfl fun a hs => ?_
                  refine st_skip hs rfl rfl rfl rfl rfl fun a hs => ?_
                  refine st_skip hs rfl rfl rfl rfl rfl fun a hs => ?_
                  refine st_skip hs rfl rfl rfl rfl rfl fun a hs => ?_
                  refine st_skip hs rfl rfl rfl rfl rfl fun a hs => ?_
                  refine st_val hs (y_pickT rfl rfl) trivial rfl rfl fun a hs => ?_
                  refine wpList_nil ?_
                  refine then_normal ?_
                  exact ⟨rfl, (hs.fix 124 (.bool (((((rv401.2 != 0) || (rv414.2 != 0)) || (rv426.2 != 0)) || (rv444.2 != 0)) || ((rv401.1.length : Int) != (w64 (15 - (rv39.1.Taps.length : Int)))))) rfl (or_t h458)).weaken _ ⟨rfl, rfl, rfl, rfl, rfl, rfl, rfl, rfl, rfl, trivial⟩⟩
                · have hs := hs.fix 116 (.bool false) rfl (vb h458)
                  refine st_val hs (y_move rfl) ⟨_, rfl, rfl⟩ rfl rfl fun a hs => ?_
                  refine st_val hs (y_len Try.runUnderlying22 rfl) ⟨_, rfl, rfl⟩ rfl rfl fun a hs => ?_
                  refine st_val hs (y_fieldAddr (o' := 0) Try.runUnderlying28 rfl Try.sizeOf22 rfl rfl rfl) ⟨_, rfl, rfl⟩ rfl rfl fun a hs => ?_
                  refine st_val hs (y_loadB1 (hw.ownAt 1 rfl) rfl Try.isAgg22 rfl) ⟨_, rfl, rfl⟩ rfl rfl fun a hs => ?_
                  refine st_val hs (y_len Try.runUnderlying22 rfl) ⟨_, rfl, rfl⟩ rfl rfl fun a hs => ?_
                  refine st_val hs (y_sub rfl rfl) ⟨_, rfl, rfl⟩ rfl rfl fun a hs => ?_
                  refine st_val hs (y_neq rfl rfl) ⟨_, rfl, rfl⟩ rfl rfl fun a hs => ?_
                  refine st_val hs (y_pickF rfl rfl) trivial rfl rfl fun a hs => ?_
                  refine wpList_nil ?_
                  refine then_normal ?_
                  exact ⟨rfl, (hs.fix 124 (.bool (((((rv401.2 != 0) || (rv414.2 != 0)) || (rv426.2 != 0)) || (rv444.2 != 0)) || ((rv401.1.length : Int) != (w64 (15 - (rv39.1.Taps.length : Int)))))) rfl (or_f h458)).weaken _ ⟨rfl, rfl, rfl, rfl, rfl, rfl, rfl, rfl, rfl, trivial⟩⟩
              · rintro a w1 ⟨h2362, hs⟩
                subst h2362
                refine st_val hs (y_move rfl) trivial rfl rfl fun a hs => ?_
                refine wpl_join 6 (fun a w1 => w = w1 ∧ Sl 263 [(1, .int .u8 n5), (2, .int .i8 by6), (7, .pointer (some ⟨b29, 0, none⟩)), (8, .pointer (some ⟨b53, 0, none⟩)), (15, .slice p402 rv401.1.length k403), (17, .slice p415 rv414.1.length k416), (19, .slice p427 rv426.1.length k428), (21, .slice p445 rv444.1.length k446), (131, .bool ((((((rv401.2 != 0) || (rv414.2 != 0)) || (rv426.2 != 0)) || (rv444.2 != 0)) || ((rv401.1.length : Int) != (w64 (15 - (rv39.1.Taps.length : Int))))) || ((rv414.1.length : Int) != (rv401.1.length : Int))))] a) ?_ ?_
                · rcases Bool.eq_false_or_eq_true (((((rv401.2 != 0) || (rv414.2 != 0)) || (rv426.2 != 0)) || (rv444.2 != 0)) || ((rv401.1.length : Int) != (w64 (15 - (rv39.1.Taps.length : Int))))) with h459 | h459
                  · have hs := hs.fix 125 (.bool true) rfl (vb h459)
                    refine st_skip hs rfl rfl rfl rfl rfl fun a hs => ?_
                    refine st_skip hs rfl rfl rfl rfl rfl fun a hs => ?_
                    refine st_skip hs rfl rfl rfl rfl rfl fun a hs => ?_
                    refine st_skip hs rfl rfl rfl rfl rfl fun a hs => ?_
                    refine st_skip hs rfl rfl rfl rfl rfl fun a hs => ?_
                    refine st_val hs (y_pickT rfl rfl) trivial rfl rfl fun a hs => ?_
                    refine wpList_nil ?_
                    refine then_normal ?_
                    exact ⟨rfl, (hs.fix 131 (.bool ((((((rv401.2 != 0) || (rv414.2 != 0)) || (rv426.2 != 0)) || (rv444.2 != 0)) || ((rv401.1.length : Int) != (w64 (15 - (rv39.1.Taps.length : Int))))) || ((rv414.1.length : Int) != (rv401.1.length : Int)))) rfl (or_t h459)).weaken _ ⟨rfl, rfl, rfl, rfl, rfl, rfl, rfl, rfl, rfl, trivial⟩⟩
                  · have hs := hs.fix 125 (.bool false) rfl (vb h459)
                    refine st_val hs (y_move rfl) ⟨_, rfl, rfl⟩ rfl rfl fun a hs => ?_
                    refine st_val hs (y_len Try.runUnderlying22 rfl) ⟨_, rfl, rfl⟩ rfl rfl fun a hs => ?_
                    refine st_val hs (y_move rfl) ⟨_, rfl, rfl⟩ rfl rfl fun a hs => ?_
                    refine st_val hs (y_len Try.runUnderlying22 rfl) ⟨_, rfl, rfl⟩ rfl rfl fun a hs => ?_
                    refine st_val hs (y_neq rfl rfl) ⟨_, rfl, rfl⟩ rfl rfl fun a hs => ?_
                    refine st_val hs (y_pickF rfl rfl) trivial rfl rfl fun a hs => ?_
                    refine wpList_nil ?_
                    refine then_normal ?_
                    exact ⟨rfl, (hs.fix 131 (.bool ((((((rv401.2 != 0) || (rv414.2 != 0)) || (rv426.2 != 0)) || (rv444.2 != 0)) || ((rv401.1.length : Int) != (w64 (15 - (rv39.1.Taps.length : Int))))) || ((rv414.1.length : Int) != (rv401.1.length : Int)))) rfl (or_f h459)).weaken _ ⟨rfl, rfl, rfl, rfl, rfl, rfl, rfl, rfl, rfl, trivial⟩⟩
                · rintro a w1 ⟨h2361, hs⟩
                  subst h2361
                  refine st_val hs (y_move rfl) trivial rfl rfl fun a hs => ?_
                  refine wpl_join 6 (fun a w1 => w = w1 ∧ Sl 263 [(1, .int .u8 n5), (2, .int .i8 by6), (7, .pointer (some ⟨b29, 0, none⟩)), (8, .pointer (some ⟨b53, 0, none⟩)), (15, .slice p402 rv401.1.length k403), (17, .slice p415 rv414.1.length k416), (19, .slice p427 rv426.1.length k428), (21, .slice p445 rv444.1.length k446), (138, .bool (((((((rv401.2 != 0) || (rv414.2 != 0)) || (rv426.2 != 0)) || (rv444.2 != 0)) || ((rv401.1.length : Int) != (w64 (15 - (rv39.1.Taps.length : Int))))) || ((rv414.1.length : Int) != (rv401.1.length : Int))) || ((rv426.1.length : Int) != (rv401.1.length : Int))))] a) ?_ ?_
                  · rcases Bool.eq_false_or_eq_true ((((((rv401.2 != 0) || (rv414.2 != 0)) || (rv426.2 != 0)) || (rv444.2 != 0)) || ((rv401.1.length : Int) != (w64 (15 - (rv39.1.Taps.length : Int))))) || ((rv414.1.length : Int) != (rv401.1.length : Int))) with h460 | h460
                    · have hs := hs.fix 132 (.bool true) rfl (vb h460)
                      refine st_skip hs rfl rfl rfl rfl rfl fun a hs => ?_
                      refine st_skip hs rfl rfl rfl rfl rfl fun a hs => ?_
                      refine st_skip hs rfl rfl rfl rfl rfl fun a hs => ?_
                      refine st_skip hs rfl rfl rfl rfl rfl fun a hs => ?_
                      refine st_skip hs rfl rfl rfl rfl rfl fun a hs => ?_
                      refine st_val hs (y_pickT rfl rfl) trivial rfl rfl fun a hs => ?_
                      refine wpList_nil ?_
                      refine then_normal ?_
                      exact ⟨rfl, (hs.fix 138 (.bool (((((((rv401.2 != 0) || (rv414.2 != 0)) || (rv426.2 != 0)) || (rv444.2 != 0)) || ((rv401.1.length : Int) != (w64 (15 - (rv39.1.Taps.length : Int))))) || ((rv414.1.length : Int) != (rv401.1.length : Int))) || ((rv426.1.length : Int) != (rv401.1.length : Int)))) rfl (or_t h460)).weaken _ ⟨rfl, rfl, rfl, rfl, rfl, rfl, rfl, rfl, rfl, trivial⟩⟩
                    · have hs := hs.fix 132 (.bool false) rfl (vb h460)
                      refine st_val hs (y_move rfl) ⟨_, rfl, rfl⟩ rfl rfl fun a hs => ?_
                      refine st_val hs (y_len Try.runUnderlying22 rfl) ⟨_, rfl, rfl⟩ rfl rfl fun a hs => ?_
                      refine st_val hs (y_move rfl) ⟨_, rfl, rfl⟩ rfl rfl fun a hs => ?_
                      refine st_val hs (y_len Try.runUnderlying22 rfl) ⟨_, rfl, rfl⟩ rfl rfl fun a hs => ?_
                      refine st_val hs (y_neq rfl rfl) ⟨_, rfl, rfl⟩ rfl rfl fun a hs => ?_
                      refine st_val hs (y_pickF rfl rfl) trivial rfl rfl fun a hs => ?_
                      refine wpList_nil ?_
                      refine then_normal ?_
                      exact ⟨rfl, (hs.fix 138 (.bool (((((((rv401.2 != 0) || (rv414.2 != 0)) || (rv426.2 != 0)) || (rv444.2 != 0)) || ((rv401.1.length : Int) != (w64 (15 - (rv39.1.Taps.length : Int))))) || ((rv414.1.length : Int) != (rv401.1.length : Int))) || ((rv426.1.length : Int) != (rv401.1.length : Int)))) rfl (or_f h460)).weaken _ ⟨rfl, rfl, rfl, rfl, rfl, rfl, rfl, rfl, rfl, trivial⟩⟩
                  · rintro a w1 ⟨h2360, hs⟩
                    subst h2360
                    refine st_val hs (y_move rfl) trivial rfl rfl fun a hs => ?_
                    refine wpl_join 8 (fun a w1 => w = w1 ∧ Sl 263 [(1, .int .u8 n5), (2, .int .i8 by6), (7, .pointer (some ⟨b29, 0, none⟩)), (8, .pointer (some ⟨b53, 0, none⟩)), (15, .slice p402 rv401.1.length k403), (17, .slice p415 rv414.1.length k416), (19, .slice p427 rv426.1.length k428), (21, .slice p445 rv444.1.length k446), (147, .bool ((((((((rv401.2 != 0) || (rv414.2 != 0)) || (rv426.2 != 0)) || (rv444.2 != 0)) || ((rv401.1.length : Int) != (w64 (15 - (rv39.1.Taps.length : Int))))) || ((rv414.1.length : Int) != (rv401.1.length : Int))) || ((rv426.1.length : Int) != (rv401.1.length : Int))) || ((rv444.1.length : Int) != (max (w64 ((rv401.1.length : Int) - 3)) 0))))] a) ?_ ?_
                    · rcases Bool.eq_false_or_eq_true (((((((rv401.2 != 0) || (rv414.2 != 0)) || (rv426.2 != 0)) || (rv444.2 != 0)) || ((rv401.1.length : Int) != (w64 (15 - (rv39.1.Taps.length : Int))))) || ((rv414.1.length : Int) != (rv401.1.length : Int))) || ((rv426.1.length : Int) != (rv401.1.length : Int))) with h461 | h461
                      · have hs := hs.fix 139 (.bool true) rfl (vb h461)
                        refine st_skip hs rfl rfl rfl rfl rfl fun a hs => ?_
                        refine st_skip hs rfl rfl rfl rfl rfl fun a hs => ?_
                        refine st_skip hs rfl rfl rfl rfl rfl fun a hs => ?_
                        refine st_skip hs rfl rfl rfl rfl rfl fun a hs => ?_
                        refine st_skip hs rfl rfl rfl rfl rfl fun a hs => ?_
                        refine st_skip hs rfl rfl rfl rfl rfl fun a hs => ?_
                        refine st_skip hs rfl rfl rfl rfl rfl fun a hs => ?_
                        refine st_val hs (y_pickT rfl rfl) trivial rfl rfl fun a hs => ?_
                        refine wpList_nil ?_
                        refine then_normal ?_
                        exact ⟨rfl, (hs.fix 147 (.bool ((((((((rv401.2 != 0) || (rv414.2 != 0)) || (rv426.2 != 0)) || (rv444.2 != 0)) || ((rv401.1.length : Int) != (w64 (15 - (rv39.1.Taps.length : Int))))) || ((rv414.1.length : Int) != (rv401.1.length : Int))) || ((rv426.1.length : Int) != (rv401.1.length : Int))) || ((rv444.1.length : Int) != (max (w64 ((rv401.1.length : Int) - 3)) 0)))) rfl (or_t h461)).weaken _ ⟨rfl, rfl, rfl, rfl, rfl, rfl, rfl, rfl, rfl, trivial⟩⟩
                      · have hs := hs.fix 139 (.bool false) rfl (vb h461)
                        refine st_val hs (y_move rfl) ⟨_, rfl, rfl⟩ rfl rfl fun a hs => ?_
                        refine st_val hs (y_len Try.runUnderlying22 rfl) ⟨_, rfl, rfl⟩ rfl rfl fun a hs => ?_
                        refine st_val hs (y_move rfl) ⟨_, rfl, rfl⟩ rfl rfl fun a hs => ?_
                        refine st_val hs (y_len Try.runUnderlying22 rfl) ⟨_, rfl, rfl⟩ rfl rfl fun a hs => ?_
                        refine st_val hs (y_sub rfl rfl) ⟨_, rfl, rfl⟩ rfl rfl fun a hs => ?_
                        refine st_val hs (y_max rfl rfl) ⟨_, rfl, rfl⟩ rfl rfl fun a hs => ?_
                        refine st_val hs (y_neq rfl rfl) ⟨_, rfl, rfl⟩ rfl rfl fun a hs => ?_
                        refine st_val hs (y_pickF rfl rfl) trivial rfl rfl fun a hs => ?_
                        refine wpList_nil ?_
                        refine then_normal ?_
                        exact ⟨rfl, (hs.fix 147 (.bool ((((((((rv401.2 != 0) || (rv414.2 != 0)) || (rv426.2 != 0)) || (rv444.2 != 0)) || ((rv401.1.length : Int) != (w64 (15 - (rv39.1.Taps.length : Int))))) || ((rv414.1.length : Int) != (rv401.1.length : Int))) || ((rv426.1.length : Int) != (rv401.1.length : Int))) || ((rv444.1.length : Int) != (max (w64 ((rv401.1.length : Int) - 3)) 0)))) rfl (or_f h461)).weaken _ ⟨rfl, rfl, rfl, rfl, rfl, rfl, rfl, rfl, rfl, trivial⟩⟩
                    · rintro a w1 ⟨h2359, hs⟩
                      subst h2359
                      refine wpList_nil ?_
                      refine then_normal ?_
                      refine wp_cond_split (hs.ev rfl) (fun h463 => ?_) (fun h463 => ?_)
                      · have hsh := ite_t hsh h463
                        refine wp_seq ?_
                        refine wp_region_lit ?_
                        refine st_val hs (y_assign rfl) trivial rfl rfl fun a hs => ?_
                        refine wpList_nil ?_
                        refine then_normal ?_
                        have hsh := Option.some.inj hsh
                        subst hsh
                        refine wp_ret ?_
                        refine then_ret ?_
                        exact ret1 hs rfl (rv_tmp rfl) (hw.ret rfl)
                      · have hsh := ite_f hsh h463
                        refine wp_skip ?_
                        refine then_normal ?_
                        refine wp_seq ?_
                        refine wp_seq ?_
                        refine wp_region_lit ?_
                        refine st_val hs (y_move rfl) trivial rfl rfl fun a hs => ?_
                        refine st_val hs (y_len Try.runUnderlying22 rfl) trivial rfl rfl fun a hs => ?_
                        refine st_val hs (y_move rfl) trivial rfl rfl fun a hs => ?_
                        refine wpList_nil ?_
                        refine then_normal ?_
                        refine wp_block ?_
                        refine wp_while (fun sv823 a w => ∃ (Sv1061 : Nat → Prop), Sl 263 [(1, .int .u8 n5), (2, .int .i8 by6), (7, .pointer (some ⟨b29, 0, none⟩)), (8, .pointer (some ⟨b53, 0, none⟩)), (15, .slice p402 rv401.1.length k403), (17, .slice p415 rv414.1.length k416), (19, .slice p427 rv426.1.length k428), (21, .slice p445 rv444.1.length k446), (149, .int .i64 (rv401.1.length : Int)), (150, .int .i64 sv823)] a ∧ Wd ⟨w0, S0, []⟩ Sv1061 [.box b29 [.slice p305 e304.1.length k306, .int .i64 e304.2.1] 75, .box b53 [.slice p40 rv39.1.Taps.length k41, .int .i64 1, .int .i64 rv39.1.Shift] 28, .row p402 rv401.1.length k403 c404 3 1, .row p415 rv414.1.length k416 c417 3 1, .row p427 rv426.1.length k428 c429 3 1, .row p445 rv444.1.length k446 c447 3 1] [SlA p305 e304.1.length k306 e304.1, SlA p40 rv39.1.Taps.length k41 rv39.1.Taps, RowA c404 rv401.1, RowA c417 rv414.1, RowA c429 rv426.1, RowA c447 rv444.1] w) 0 hsh ⟨Sv450, (hs.weaken _ ⟨rfl, rfl, rfl, rfl, rfl, rfl, rfl, rfl, rfl, rfl, trivial⟩), (hw.fit [0, 1, 2, 3, 4, 5] (by decide) ⟨rfl, rfl, rfl, rfl, rfl, rfl, trivial⟩ ⟨⟨0, rfl⟩, ⟨1, rfl⟩, ⟨2, rfl⟩, ⟨3, rfl⟩, ⟨4, rfl⟩, ⟨5, rfl⟩, trivial⟩)⟩ ?_
                        repeat clear hsh
                        rintro sv823 a w tv1181 ⟨Sv1061, hs, hw⟩ hsh hd1180
                        delta law21_FilterLinear_l3 at hsh
                        refine wp_seq ?_
                        refine wp_region_lit ?_
                        refine st_val hs (y_lss rfl rfl) trivial rfl rfl fun a hs => ?_
                        refine wpList_nil ?_
                        refine then_normal ?_
                        refine wp_seq ?_
                        refine wp_cond_split (hs.ev rfl) (fun h1185 => ?_) (fun h1185 => ?_)
                        · have hsh := ite_t hsh h1185
                          refine wp_skip ?_
                          refine then_normal ?_
                          refine wp_seq ?_
                          refine wp_block ?_
                          refine wp_seq ?_
                          refine wp_region_lit ?_
                          refine st_val hs (y_move rfl) trivial rfl rfl fun a hs => ?_
                          refine st_val hs (y_assign rfl) trivial rfl rfl fun a hs => ?_
                          refine wpList_nil ?_
                          refine then_normal ?_
                          refine wp_seq ?_
                          obtain ⟨x1246, h1244, hsh⟩ := bind_t hsh
                          obtain ⟨b1253, q1250, c1251, h1254, h1247, h1248, h1252, h1245⟩ := hw.elemRV (α := Int) 4 rfl 4 rfl h1244
                          subst h1254
                          obtain ⟨_, rfl, rfl⟩ := h1245
                          obtain ⟨x1257, h1255, hsh⟩ := bind_t hsh
                          obtain ⟨b1264, q1261, c1262, h1265, h1258, h1259, h1263, h1256⟩ := hw.elemRV (α := Int) 2 rfl 2 rfl h1255
                          subst h1265
                          obtain ⟨_, rfl, rfl⟩ := h1256
                          obtain ⟨x1268, h1266, hsh⟩ := bind_t hsh
                          obtain ⟨b1275, q1272, c1273, h1276, h1269, h1270, h1274, h1267⟩ := hw.elemRV (α := Int) 3 rfl 3 rfl h1266
                          subst h1276
                          obtain ⟨_, rfl, rfl⟩ := h1267
                          obtain ⟨c1298, hc1298, hsh⟩ := bind_t hsh
                          refine wp_only (fun a w => ∃ (Sv1299 : Nat → Prop), Sl 263 [(1, .int .u8 n5), (2, .int .i8 by6), (7, .pointer (some ⟨b29, 0, none⟩)), (8, .pointer (some ⟨b53, 0, none⟩)), (15, .slice (some ⟨b1264, 0, none⟩) rv401.1.length k403), (17, .slice (some ⟨b1275, 0, none⟩) rv414.1.length k416), (19, .slice (some ⟨b1253, 0, none⟩) rv426.1.length k428), (21, .slice p445 rv444.1.length k446), (149, .int .i64 (rv401.1.length : Int)), (150, .int .i64 sv823), (185, .bool c1298)] a ∧ Wd ⟨w0, S0, []⟩ Sv1299 [.box b29 [.slice p305 e304.1.length k306, .int .i64 e304.2.1] 75, .box b53 [.slice p40 rv39.1.Taps.length k41, .int .i64 1, .int .i64 rv39.1.Shift] 28, .row (some ⟨b1264, 0, none⟩) rv401.1.length k403 c404 3 1, .row (some ⟨b1275, 0, none⟩) rv414.1.length k416 c417 3 1, .row (some ⟨b1253, 0, none⟩) rv426.1.length k428 c429 3 1, .row p445 rv444.1.length k446 c447 3 1] [SlA p305 e304.1.length k306 e304.1, SlA p40 rv39.1.Taps.length k41 rv39.1.Taps, RowA c404 rv401.1, RowA c417 rv414.1, RowA c429 rv426.1, RowA c447 rv444.1] w) ?_ ?_
                          · rcases Bool.eq_false_or_eq_true (x1246 != (w64 (x1257 + (w64 ((w64 by6) * x1268))))) with h1300 | h1300
                            · have h1301 := ite_t hc1298 h1300
                              refine h_begin (C := Cls [.box b29 [.slice p305 e304.1.length k306, .int .i64 e304.2.1] 75, .box b53 [.slice p40 rv39.1.Taps.length k41, .int .i64 1, .int .i64 rv39.1.Shift] 28, .row (some ⟨b1264, 0, none⟩) rv401.1.length k403 c404 3 1, .row (some ⟨b1275, 0, none⟩) rv414.1.length k416 c417 3 1, .row (some ⟨b1253, 0, none⟩) rv426.1.length k428 c429 3 1, .row p445 rv444.1.length k446 c447 3 1] []) (by kernel_rfl) rfl ?_
                              have hw := hw.drew
                              have hC : Cls [.box b29 [.slice p305 e304.1.length k306, .int .i64 e304.2.1] 75, .box b53 [.slice p40 rv39.1.Taps.length k41, .int .i64 1, .int .i64 rv39.1.Shift] 28, .row (some ⟨b1264, 0, none⟩) rv401.1.length k403 c404 3 1, .row (some ⟨b1275, 0, none⟩) rv414.1.length k416 c417 3 1, .row (some ⟨b1253, 0, none⟩) rv426.1.length k428 c429 3 1, .row p445 rv444.1.length k446 c447 3 1] [] _ := hw.cls [0, 1, 2, 3, 4, 5] ⟨rfl, rfl, rfl, rfl, rfl, rfl, trivial⟩ trivial
                              refine h_take hs (i := 0) rfl (by kernel_rfl) (by kernel_rfl) (by kernel_rfl) trivial rfl rfl hC (fun w hC => y_move rfl) fun a hs => ?_
                              refine h_take hs (i := 1) rfl (by kernel_rfl) (by kernel_rfl) (by kernel_rfl) trivial rfl rfl hC (fun w hC => y_move rfl) fun a hs => ?_
                              refine h_take hs (i := 2) rfl (by kernel_rfl) (by kernel_rfl) (by kernel_rfl) trivial rfl rfl hC (fun w hC => y_indexAt Try.runUnderlying22 Try.sizeOf3 rfl rfl h1247.1 h1247.2 h1248) fun a hs => ?_
                              refine h_take hs (i := 3) rfl (by kernel_rfl) (by kernel_rfl) (by kernel_rfl) trivial rfl rfl hC (fun w hC => y_loadQ1 (j := 0) (hC.ownAt 4 rfl) rfl Try.isAgg3 h1252 rfl) fun a hs => ?_
                              refine h_take hs (i := 4) rfl (by kernel_rfl) (by kernel_rfl) (by kernel_rfl) trivial rfl rfl hC (fun w hC => y_move rfl) fun a hs => ?_
                              refine h_take hs (i := 5) rfl (by kernel_rfl) (by kernel_rfl) (by kernel_rfl) trivial rfl rfl hC (fun w hC => y_move rfl) fun a hs => ?_
                              refine h_take hs (i := 6) rfl (by kernel_rfl) (by kernel_rfl) (by kernel_rfl) trivial rfl rfl hC (fun w hC => y_indexAt Try.runUnderlying22 Try.sizeOf3 rfl rfl h1258.1 h1258.2 h1259) fun a hs => ?_
                              refine h_take hs (i := 7) rfl (by kernel_rfl) (by kernel_rfl) (by kernel_rfl) trivial rfl rfl hC (fun w hC => y_loadQ1 (j := 0) (hC.ownAt 2 rfl) rfl Try.isAgg3 h1263 rfl) fun a hs => ?_
                              refine h_take hs (i := 8) rfl (by kernel_rfl) (by kernel_rfl) (by kernel_rfl) trivial rfl rfl hC (fun w hC => y_move rfl) fun a hs => ?_
                              refine h_take hs (i := 9) rfl (by kernel_rfl) (by kernel_rfl) (by kernel_rfl) trivial rfl rfl hC (fun w hC => y_convert Try.runUnderlying35 Try.runUnderlying3 rfl) fun a hs => ?_
                              refine h_take hs (i := 10) rfl (by kernel_rfl) (by kernel_rfl) (by kernel_rfl) trivial rfl rfl hC (fun w hC => y_move rfl) fun a hs => ?_
                              refine h_take hs (i := 11) rfl (by kernel_rfl) (by kernel_rfl) (by kernel_rfl) trivial rfl rfl hC (fun w hC => y_move rfl) fun a hs => ?_
                              refine h_take hs (i := 12) rfl (by kernel_rfl) (by kernel_rfl) (by kernel_rfl) trivial rfl rfl hC (fun w hC => y_indexAt Try.runUnderlying22 Try.sizeOf3 rfl rfl h1269.1 h1269.2 h1270) fun a hs => ?_
                              refine h_take hs (i := 13) rfl (by kernel_rfl) (by kernel_rfl) (by kernel_rfl) trivial rfl rfl hC (fun w hC => y_loadQ1 (j := 0) (hC.ownAt 3 rfl) rfl Try.isAgg3 h1274 rfl) fun a hs => ?_
                              refine h_take hs (i := 14) rfl (by kernel_rfl) (by kernel_rfl) (by kernel_rfl) trivial rfl rfl hC (fun w hC => y_mul rfl rfl) fun a hs => ?_
                              refine h_take hs (i := 15) rfl (by kernel_rfl) (by kernel_rfl) (by kernel_rfl) trivial rfl rfl hC (fun w hC => y_add rfl rfl) fun a hs => ?_
                              refine h_take hs (i := 16) rfl (by kernel_rfl) (by kernel_rfl) (by kernel_rfl) trivial rfl rfl hC (fun w hC => y_neq rfl rfl) fun a hs => ?_
                              refine h_take hs (i := 17) rfl (by kernel_rfl) (by kernel_rfl) (by kernel_rfl) trivial rfl rfl hC (fun w hC => y_move rfl) fun a hs => ?_
                              have hs := hs.fix 170 (.bool true) rfl (vb h1300)
                              refine h_skip hs (i := 18) rfl (by kernel_rfl) (by kernel_rfl) (by kernel_rfl) rfl rfl rfl (by first | exact .inl rfl | exact .inr rfl) rfl rfl hC fun a hs => ?_
                              refine h_skip hs (i := 19) rfl (by kernel_rfl) (by kernel_rfl) (by kernel_rfl) rfl rfl rfl (by first | exact .inl rfl | exact .inr rfl) rfl rfl hC fun a hs => ?_
                              refine h_skip hs (i := 20) rfl (by kernel_rfl) (by kernel_rfl) (by kernel_rfl) rfl rfl rfl (by first | exact .inl rfl | exact .inr rfl) rfl rfl hC fun a hs => ?_
                              refine h_skip hs (i := 21) rfl (by kernel_rfl) (by kernel_rfl) (by kernel_rfl) rfl rfl rfl (by first | exact .inl rfl | exact .inr rfl) rfl rfl hC fun a hs => ?_
                              refine h_skip hs (i := 22) rfl (by kernel_rfl) (by kernel_rfl) (by kernel_rfl) rfl rfl rfl (by first | exact .inl rfl | exact .inr rfl) rfl rfl hC fun a hs => ?_
                              refine h_skip hs (i := 23) rfl (by kernel_rfl) (by kernel_rfl) (by kernel_rfl) rfl rfl rfl (by first | exact .inl rfl | exact .inr rfl) rfl rfl hC fun a hs => ?_
                              refine h_skip hs (i := 24) rfl (by kernel_rfl) (by kernel_rfl) (by kernel_rfl) rfl rfl rfl (by first | exact .inl rfl | exact .inr rfl) rfl rfl hC fun a hs => ?_
                              refine h_skip hs (i := 25) rfl (by kernel_rfl) (by kernel_rfl) (by kernel_rfl) rfl rfl rfl (by first | exact .inl rfl | exact .inr rfl) rfl rfl hC fun a hs => ?_
                              refine h_skip hs (i := 26) rfl (by kernel_rfl) (by kernel_rfl) (by kernel_rfl) rfl rfl rfl (by first | exact .inl rfl | exact .inr rfl) rfl rfl hC fun a hs => ?_
                              refine h_skip hs (i := 27) rfl (by kernel_rfl) (by kernel_rfl) (by kernel_rfl) rfl rfl rfl (by first | exact .inl rfl | exact .inr rfl) rfl rfl hC fun a hs => ?_
                              refine h_skip hs (i := 28) rfl (by kernel_rfl) (by kernel_rfl) (by kernel_rfl) rfl rfl rfl (by first | exact .inl rfl | exact .inr rfl) rfl rfl hC fun a hs => ?_
                              refine h_skip hs (i := 29) rfl (by kernel_rfl) (by kernel_rfl) (by kernel_rfl) rfl rfl rfl (by first | exact .inl rfl | exact .inr rfl) rfl rfl hC fun a hs => ?_
                              refine h_skip hs (i := 30) rfl (by kernel_rfl) (by kernel_rfl) (by kernel_rfl) rfl rfl rfl (by first | exact .inl rfl | exact .inr rfl) rfl rfl hC fun a hs => ?_
                              refine h_skip hs (i := 31) rfl (by kernel_rfl) (by kernel_rfl) (by kernel_rfl) rfl rfl rfl (by first | exact .inl rfl | exact .inr rfl) rfl rfl hC fun a hs => ?_
                              refine h_take hs (i := 32) rfl (by kernel_rfl) (by kernel_rfl) (by kernel_rfl) trivial rfl rfl hC (fun w hC => y_pickTE (v := .bool c1298) rfl rfl (vbs h1301)) fun a hs => ?_
                              refine h_done (by kernel_rfl) ?_
                              exact ⟨Sv1061, (hs.weaken _ ⟨rfl, rfl, rfl, rfl, rfl, rfl, rfl, rfl, rfl, rfl, rfl, trivial⟩), (hw.fit [0, 1, 2, 3, 4, 5] (by decide) ⟨rfl, rfl, rfl, rfl, rfl, rfl, trivial⟩ ⟨⟨0, rfl⟩, ⟨1, rfl⟩, ⟨2, rfl⟩, ⟨3, rfl⟩, ⟨4, rfl⟩, ⟨5, rfl⟩, trivial⟩)⟩
                            · have h1302 := ite_f hc1298 h1300
                              obtain ⟨c1323, hc1323, h1302⟩ := bind_t h1302
                              rcases Bool.eq_false_or_eq_true (decide (3 ≤ sv823)) with h1324 | h1324
                              · have h1325 := ite_t hc1323 h1324
                                obtain ⟨x1328, h1326, h1325⟩ := bind_t h1325
                                obtain ⟨b1335, q1332, c1333, h1336, h1329, h1330, h1334, h1327⟩ := hw.elemRV (α := Int) 5 rfl 5 rfl h1326
                                subst h1336
                                obtain ⟨_, rfl, rfl⟩ := h1327
                                obtain ⟨x1339, h1337, h1325⟩ := bind_t h1325
                                obtain ⟨q1343, c1344, h1340, h1341, h1345, h1338⟩ := hw.elemRK (α := Int) 2 rfl 2 rfl h1337
                                obtain ⟨_, rfl, rfl⟩ := h1338
                                refine h_begin (C := Cls [.box b29 [.slice p305 e304.1.length k306, .int .i64 e304.2.1] 75, .box b53 [.slice p40 rv39.1.Taps.length k41, .int .i64 1, .int .i64 rv39.1.Shift] 28, .row (some ⟨b1264, 0, none⟩) rv401.1.length k403 c404 3 1, .row (some ⟨b1275, 0, none⟩) rv414.1.length k416 c417 3 1, .row (some ⟨b1253, 0, none⟩) rv426.1.length k428 c429 3 1, .row (some ⟨b1335, 0, none⟩) rv444.1.length k446 c447 3 1] []) (by kernel_rfl) rfl ?_
                                have hw := hw.drew
                                have hC : Cls [.box b29 [.slice p305 e304.1.length k306, .int .i64 e304.2.1] 75, .box b53 [.slice p40 rv39.1.Taps.length k41, .int .i64 1, .int .i64 rv39.1.Shift] 28, .row (some ⟨b1264, 0, none⟩) rv401.1.length k403 c404 3 1, .row (some ⟨b1275, 0, none⟩) rv414.1.length k416 c417 3 1, .row (some ⟨b1253, 0, none⟩) rv426.1.length k428 c429 3 1, .row (some ⟨b1335, 0, none⟩) rv444.1.length k446 c447 3 1] [] _ := hw.cls [0, 1, 2, 3, 4, 5] ⟨rfl, rfl, rfl, rfl, rfl, rfl, trivial⟩ trivial
                                refine h_take hs (i := 0) rfl (by kernel_rfl) (by kernel_rfl) (by kernel_rfl) trivial rfl rfl hC (fun w hC => y_move rfl) fun a hs => ?_
                                refine h_take hs (i := 1) rfl (by kernel_rfl) (by kernel_rfl) (by kernel_rfl) trivial rfl rfl hC (fun w hC => y_move rfl) fun a hs => ?_
                                refine h_take hs (i := 2) rfl (by kernel_rfl) (by kernel_rfl) (by kernel_rfl) trivial rfl rfl hC (fun w hC => y_indexAt Try.runUnderlying22 Try.sizeOf3 rfl rfl h1247.1 h1247.2 h1248) fun a hs => ?_
                                refine h_take hs (i := 3) rfl (by kernel_rfl) (by kernel_rfl) (by kernel_rfl) trivial rfl rfl hC (fun w hC => y_loadQ1 (j := 0) (hC.ownAt 4 rfl) rfl Try.isAgg3 h1252 rfl) fun a hs => ?_
                                refine h_take hs (i := 4) rfl (by kernel_rfl) (by kernel_rfl) (by kernel_rfl) trivial rfl rfl hC (fun w hC => y_move rfl) fun a hs => ?_
                                refine h_take hs (i := 5) rfl (by kernel_rfl) (by kernel_rfl) (by kernel_rfl) trivial rfl rfl hC (fun w hC => y_move rfl) fun a hs => ?_
                                refine h_take hs (i := 6) rfl (by kernel_rfl) (by kernel_rfl) (by kernel_rfl) trivial rfl rfl hC (fun w hC => y_indexAt Try.runUnderlying22 Try.sizeOf3 rfl rfl h1258.1 h1258.2 h1259) fun a hs => ?_
                                refine h_take hs (i := 7) rfl (by kernel_rfl) (by kernel_rfl) (by kernel_rfl) trivial rfl rfl hC (fun w hC => y_loadQ1 (j := 0) (hC.ownAt 2 rfl) rfl Try.isAgg3 h1263 rfl) fun a hs => ?_
                                refine h_take hs (i := 8) rfl (by kernel_rfl) (by kernel_rfl) (by kernel_rfl) trivial rfl rfl hC (fun w hC => y_move rfl) fun a hs => ?_
                                refine h_take hs (i := 9) rfl (by kernel_rfl) (by kernel_rfl) (by kernel_rfl) trivial rfl rfl hC (fun w hC => y_convert Try.runUnderlying35 Try.runUnderlying3 rfl) fun a hs => ?_
                                refine h_take hs (i := 10) rfl (by kernel_rfl) (by kernel_rfl) (by kernel_rfl) trivial rfl rfl hC (fun w hC => y_move rfl) fun a hs => ?_
                                refine h_take hs (i := 11) rfl (by kernel_rfl) (by kernel_rfl) (by kernel_rfl) trivial rfl rfl hC (fun w hC => y_move rfl) fun a hs => ?_
                                refine h_take hs (i := 12) rfl (by kernel_rfl) (by kernel_rfl) (by kernel_rfl) trivial rfl rfl hC (fun w hC => y_indexAt Try.runUnderlying22 Try.sizeOf3 rfl rfl h1269.1 h1269.2 h1270) fun a hs => ?_
                                refine h_take hs (i := 13) rfl (by kernel_rfl) (by kernel_rfl) (by kernel_rfl) trivial rfl rfl hC (fun w hC => y_loadQ1 (j := 0) (hC.ownAt 3 rfl) rfl Try.isAgg3 h1274 rfl) fun a hs => ?_
                                refine h_take hs (i := 14) rfl (by kernel_rfl) (by kernel_rfl) (by kernel_rfl) trivial rfl rfl hC (fun w hC => y_mul rfl rfl) fun a hs => ?_
                                refine h_take hs (i := 15) rfl (by kernel_rfl) (by kernel_rfl) (by kernel_rfl) trivial rfl rfl hC (fun w hC => y_add rfl rfl) fun a hs => ?_
                                refine h_take hs (i := 16) rfl (by kernel_rfl) (by kernel_rfl) (by kernel_rfl) trivial rfl rfl hC (fun w hC => y_neq rfl rfl) fun a hs => ?_
                                refine h_take hs (i := 17) rfl (by kernel_rfl) (by kernel_rfl) (by kernel_rfl) trivial rfl rfl hC (fun w hC => y_move rfl) fun a hs => ?_
                                have hs := hs.fix 170 (.bool false) rfl (vb h1300)
                                refine h_take hs (i := 18) rfl (by kernel_rfl) (by kernel_rfl) (by kernel_rfl) ⟨_, rfl, rfl⟩ rfl rfl hC (fun w hC => y_move rfl) fun a hs => ?_
                                refine h_take hs (i := 19) rfl (by kernel_rfl) (by kernel_rfl) (by kernel_rfl) ⟨_, rfl, rfl⟩ rfl rfl hC (fun w hC => y_geq rfl rfl) fun a hs => ?_
                                refine h_take hs (i := 20) rfl (by kernel_rfl) (by kernel_rfl) (by kernel_rfl) ⟨_, rfl, rfl⟩ rfl rfl hC (fun w hC => y_move rfl) fun a hs => ?_
                                have hs := hs.fix 173 (.bool true) rfl (vb h1324)
                                refine h_take hs (i := 21) rfl (by kernel_rfl) (by kernel_rfl) (by kernel_rfl) ⟨_, rfl, rfl⟩ rfl rfl hC (fun w hC => y_move rfl) fun a hs => ?_
                                refine h_take hs (i := 22) rfl (by kernel_rfl) (by kernel_rfl) (by kernel_rfl) ⟨_, rfl, rfl⟩ rfl rfl hC (fun w hC => y_move rfl) fun a hs => ?_
                                refine h_take hs (i := 23) rfl (by kernel_rfl) (by kernel_rfl) (by kernel_rfl) ⟨_, rfl, rfl⟩ rfl rfl hC (fun w hC => y_sub rfl rfl) fun a hs => ?_
                                refine h_take hs (i := 24) rfl (by kernel_rfl) (by kernel_rfl) (by kernel_rfl) ⟨_, rfl, rfl⟩ rfl rfl hC (fun w hC => y_indexAt Try.runUnderlying22 Try.sizeOf3 rfl rfl h1329.1 h1329.2 h1330) fun a hs => ?_
                                refine h_take hs (i := 25) rfl (by kernel_rfl) (by kernel_rfl) (by kernel_rfl) ⟨_, rfl, rfl⟩ rfl rfl hC (fun w hC => y_loadQ1 (j := 0) (hC.ownAt 5 rfl) rfl Try.isAgg3 h1334 rfl) fun a hs => ?_
                                refine h_take hs (i := 26) rfl (by kernel_rfl) (by kernel_rfl) (by kernel_rfl) ⟨_, rfl, rfl⟩ rfl rfl hC (fun w hC => y_move rfl) fun a hs => ?_
                                refine h_take hs (i := 27) rfl (by kernel_rfl) (by kernel_rfl) (by kernel_rfl) ⟨_, rfl, rfl⟩ rfl rfl hC (fun w hC => y_move rfl) fun a hs => ?_
                                refine h_take hs (i := 28) rfl (by kernel_rfl) (by kernel_rfl) (by kernel_rfl) ⟨_, rfl, rfl⟩ rfl rfl hC (fun w hC => y_indexAt Try.runUnderlying22 Try.sizeOf3 rfl rfl h1340.1 h1340.2 h1341) fun a hs => ?_
                                refine h_take hs (i := 29) rfl (by kernel_rfl) (by kernel_rfl) (by kernel_rfl) ⟨_, rfl, rfl⟩ rfl rfl hC (fun w hC => y_loadQ1 (j := 0) (hC.ownAt 2 rfl) rfl Try.isAgg3 h1345 rfl) fun a hs => ?_
                                refine h_take hs (i := 30) rfl (by kernel_rfl) (by kernel_rfl) (by kernel_rfl) ⟨_, rfl, rfl⟩ rfl rfl hC (fun w hC => y_neq rfl rfl) fun a hs => ?_
                                refine h_take hs (i := 31) rfl (by kernel_rfl) (by kernel_rfl) (by kernel_rfl) ⟨_, rfl, rfl⟩ rfl rfl hC (fun w hC => y_pickTE (v := .bool c1323) rfl rfl (vbs h1325)) fun a hs => ?_
                                refine h_take hs (i := 32) rfl (by kernel_rfl) (by kernel_rfl) (by kernel_rfl) trivial rfl rfl hC (fun w hC => y_pickFE (v := .bool c1298) rfl rfl (vbs h1302)) fun a hs => ?_
                                refine h_done (by kernel_rfl) ?_
                                exact ⟨Sv1061, (hs.weaken _ ⟨rfl, rfl, rfl, rfl, rfl, rfl, rfl, rfl, rfl, rfl, rfl, trivial⟩), (hw.fit [0, 1, 2, 3, 4, 5] (by decide) ⟨rfl, rfl, rfl, rfl, rfl, rfl, trivial⟩ ⟨⟨0, rfl⟩, ⟨1, rfl⟩, ⟨2, rfl⟩, ⟨3, rfl⟩, ⟨4, rfl⟩, ⟨5, rfl⟩, trivial⟩)⟩
                              · have h1346 := ite_f hc1323 h1324
                                refine h_begin (C := Cls [.box b29 [.slice p305 e304.1.length k306, .int .i64 e304.2.1] 75, .box b53 [.slice p40 rv39.1.Taps.length k41, .int .i64 1, .int .i64 rv39.1.Shift] 28, .row (some ⟨b1264, 0, none⟩) rv401.1.length k403 c404 3 1, .row (some ⟨b1275, 0, none⟩) rv414.1.length k416 c417 3 1, .row (some ⟨b1253, 0, none⟩) rv426.1.length k428 c429 3 1, .row p445 rv444.1.length k446 c447 3 1] []) (by kernel_rfl) rfl ?_
                                have hw := hw.drew
                                have hC : Cls [.box b29 [.slice p305 e304.1.length k306, .int .i64 e304.2.1] 75, .box b53 [.slice p40 rv39.1.Taps.length k41, .int .i64 1, .int .i64 rv39.1.Shift] 28, .row (some ⟨b1264, 0, none⟩) rv401.1.length k403 c404 3 1, .row (some ⟨b1275, 0, none⟩) rv414.1.length k416 c417 3 1, .row (some ⟨b1253, 0, none⟩) rv426.1.length k428 c429 3 1, .row p445 rv444.1.length k446 c447 3 1] [] _ := hw.cls [0, 1, 2, 3, 4, 5] ⟨rfl, rfl, rfl, rfl, rfl, rfl, trivial⟩ trivial
                                refine h_take hs (i := 0) rfl (by kernel_rfl) (by kernel_rfl) (by kernel_rfl) trivial rfl rfl hC (fun w hC => y_move rfl) fun a hs => ?_
                                refine h_take hs (i := 1) rfl (by kernel_rfl) (by kernel_rfl) (by kernel_rfl) trivial rfl rfl hC (fun w hC => y_move rfl) fun a hs => ?_
                                refine h_take hs (i := 2) rfl (by kernel_rfl) (by kernel_rfl) (by kernel_rfl) trivial rfl rfl hC (fun w hC => y_indexAt Try.runUnderlying22 Try.sizeOf3 rfl rfl h1247.1 h1247.2 h1248) fun a hs => ?_
                                refine h_take hs (i := 3) rfl (by kernel_rfl) (by kernel_rfl) (by kernel_rfl) trivial rfl rfl hC (fun w hC => y_loadQ1 (j := 0) (hC.ownAt 4 rfl) rfl Try.isAgg3 h1252 rfl) fun a hs => ?_
                                refine h_take hs (i := 4) rfl (by kernel_rfl) (by kernel_rfl) (by kernel_rfl) trivial rfl rfl hC (fun w hC => y_move rfl) fun a hs => ?_
                                refine h_take hs (i := 5) rfl (by kernel_rfl) (by kernel_rfl) (by kernel_rfl) trivial rfl rfl hC (fun w hC => y_move rfl) fun a hs => ?_
                                refine h_take hs (i := 6) rfl (by kernel_rfl) (by kernel_rfl) (by kernel_rfl) trivial rfl rfl hC (fun w hC => y_indexAt Try.runUnderlying22 Try.sizeOf3 rfl rfl h1258.1 h1258.2 h1259) fun a hs => ?_
                                refine h_take hs (i := 7) rfl (by kernel_rfl) (by kernel_rfl) (by kernel_rfl) trivial rfl rfl hC (fun w hC => y_loadQ1 (j := 0) (hC.ownAt 2 rfl) rfl Try.isAgg3 h1263 rfl) fun a hs => ?_
                                refine h_take hs (i := 8) rfl (by kernel_rfl) (by kernel_rfl) (by kernel_rfl) trivial rfl rfl hC (fun w hC => y_move rfl) fun a hs => ?_
                                refine h_take hs (i := 9) rfl (by kernel_rfl) (by kernel_rfl) (by kernel_rfl) trivial rfl rfl hC (fun w hC => y_convert Try.runUnderlying35 Try.runUnderlying3 rfl) fun a hs => ?_
                                refine h_take hs (i := 10) rfl (by kernel_rfl) (by kernel_rfl) (by kernel_rfl) trivial rfl rfl hC (fun w hC => y_move rfl) fun a hs => ?_
                                refine h_take hs (i := 11) rfl (by kernel_rfl) (by kernel_rfl) (by kernel_rfl) trivial rfl rfl hC (fun w hC => y_move rfl) fun a hs => ?_
                                refine h_take hs (i := 12) rfl (by kernel_rfl) (by kernel_rfl) (by kernel_rfl) trivial rfl rfl hC (fun w hC => y_indexAt Try.runUnderlying22 Try.sizeOf3 rfl rfl h1269.1 h1269.2 h1270) fun a hs => ?_
                                refine h_take hs (i := 13) rfl (by kernel_rfl) (by kernel_rfl) (by kernel_rfl) trivial rfl rfl hC (fun w hC => y_loadQ1 (j := 0) (hC.ownAt 3 rfl) rfl Try.isAgg3 h1274 rfl) fun a hs => ?_
                                refine h_take hs (i := 14) rfl (by kernel_rfl) (by kernel_rfl) (by kernel_rfl) trivial rfl rfl hC (fun w hC => y_mul rfl rfl) fun a hs => ?_
                                refine h_take hs (i := 15) rfl (by kernel_rfl) (by kernel_rfl) (by kernel_rfl) trivial rfl rfl hC (fun w hC => y_add rfl rfl) fun a hs => ?_
                                refine h_take hs (i := 16) rfl (by kernel_rfl) (by kernel_rfl) (by kernel_rfl) trivial rfl rfl hC (fun w hC => y_neq rfl rfl) fun a hs => ?_
                                refine h_take hs (i := 17) rfl (by kernel_rfl) (by kernel_rfl) (by kernel_rfl) trivial rfl rfl hC (fun w hC => y_move rfl) fun a hs => ?_
                                have hs := hs.fix 170 (.bool false) rfl (vb h1300)
                                refine h_take hs (i := 18) rfl (by kernel_rfl) (by kernel_rfl) (by kernel_rfl) ⟨_, rfl, rfl⟩ rfl rfl hC (fun w hC => y_move rfl) fun a hs => ?_
                                refine h_take hs (i := 19) rfl (by kernel_rfl) (by kernel_rfl) (by kernel_rfl) ⟨_, rfl, rfl⟩ rfl rfl hC (fun w hC => y_geq rfl rfl) fun a hs => ?_
                                refine h_take hs (i := 20) rfl (by kernel_rfl) (by kernel_rfl) (by kernel_rfl) ⟨_, rfl, rfl⟩ rfl rfl hC (fun w hC => y_move rfl) fun a hs => ?_
                                have hs := hs.fix 173 (.bool false) rfl (vb h1324)
                                refine h_skip hs (i := 21) rfl (by kernel_rfl) (by kernel_rfl) (by kernel_rfl) rfl rfl rfl (by first | exact .inl rfl | exact .inr rfl) rfl rfl hC fun a hs => ?_
                                refine h_skip hs (i := 22) rfl (by kernel_rfl) (by kernel_rfl) (by kernel_rfl) rfl rfl rfl (by first | exact .inl rfl | exact .inr rfl) rfl rfl hC fun a hs => ?_
                                refine h_skip hs (i := 23) rfl (by kernel_rfl) (by kernel_rfl) (by kernel_rfl) rfl rfl rfl (by first | exact .inl rfl | exact .inr rfl) rfl rfl hC fun a hs => ?_
                                refine h_skip hs (i := 24) rfl (by kernel_rfl) (by kernel_rfl) (by kernel_rfl) rfl rfl rfl (by first | exact .inl rfl | exact .inr rfl) rfl rfl hC fun a hs => ?_
                                refine h_skip hs (i := 25) rfl (by kernel_rfl) (by kernel_rfl) (by kernel_rfl) rfl rfl rfl (by first | exact .inl rfl | exact .inr rfl) rfl rfl hC fun a hs => ?_
                                refine h_skip hs (i := 26) rfl (by kernel_rfl) (by kernel_rfl) (by kernel_rfl) rfl rfl rfl (by first | exact .inl rfl | exact .inr rfl) rfl rfl hC fun a hs => ?_
                                refine h_skip hs (i := 27) rfl (by kernel_rfl) (by kernel_rfl) (by kernel_rfl) rfl rfl rfl (by first | exact .inl rfl | exact .inr rfl) rfl rfl hC fun a hs => ?_
                                refine h_skip hs (i := 28) rfl (by kernel_rfl) (by kernel_rfl) (by kernel_rfl) rfl rfl rfl (by first | exact .inl rfl | exact .inr rfl) rfl rfl hC fun a hs => ?_
                                refine h_skip hs (i := 29) rfl (by kernel_rfl) (by kernel_rfl) (by kernel_rfl) rfl rfl rfl (by first | exact .inl rfl | exact .inr rfl) rfl rfl hC fun a hs => ?_
                                refine h_skip hs (i := 30) rfl (by kernel_rfl) (by kernel_rfl) (by kernel_rfl) rfl rfl rfl (by first | exact .inl rfl | exact .inr rfl) rfl rfl hC fun a hs => ?_
                                refine h_take hs (i := 31) rfl (by kernel_rfl) (by kernel_rfl) (by kernel_rfl) ⟨_, rfl, rfl⟩ rfl rfl hC (fun w hC => y_pickFE (v := .bool c1323) rfl rfl (vbs h1346)) fun a hs => ?_
                                refine h_take hs (i := 32) rfl (by kernel_rfl) (by kernel_rfl) (by kernel_rfl) trivial rfl rfl hC (fun w hC => y_pickFE (v := .bool c1298) rfl rfl (vbs h1302)) fun a hs => ?_
                                refine h_done (by kernel_rfl) ?_
                                exact ⟨Sv1061, (hs.weaken _ ⟨rfl, rfl, rfl, rfl, rfl, rfl, rfl, rfl, rfl, rfl, rfl, trivial⟩), (hw.fit [0, 1, 2, 3, 4, 5] (by decide) ⟨rfl, rfl, rfl, rfl, rfl, rfl, trivial⟩ ⟨⟨0, rfl⟩, ⟨1, rfl⟩, ⟨2, rfl⟩, ⟨3, rfl⟩, ⟨4, rfl⟩, ⟨5, rfl⟩, trivial⟩)⟩
                          · rintro a w ⟨Sv1299, hs, hw⟩
                            refine then_normal ?_
                            refine wp_cond_split (hs.ev rfl) (fun h1348 => ?_) (fun h1348 => ?_)
                            · have hsh := ite_t hsh h1348
                              refine wp_seq ?_
                              refine wp_region_lit ?_
                              refine st_val hs (y_assign rfl) trivial rfl rfl fun a hs => ?_
                              refine wpList_nil ?_
                              refine then_normal ?_
                              have hsh := Option.some.inj hsh
                              subst hsh
                              have h1349 := hd1180 _ rfl
                              subst h1349
                              refine wp_ret ?_
                              refine blk_ret ?_
                              refine then_ret ?_
                              refine then_ret ?_
                              refine blk_ret ?_
                              refine then_ret ?_
                              exact ret1 hs rfl (rv_tmp rfl) (hw.ret rfl)
                            · have hsh := ite_f hsh h1348
                              refine wp_skip ?_
                              refine blk_normal ?_
                              refine then_normal ?_
                              refine wp_region_lit ?_
                              refine st_val hs (y_add rfl rfl) trivial rfl rfl fun a hs => ?_
                              refine st_val hs (y_move rfl) trivial rfl rfl fun a hs => ?_
                              refine wpList_nil ?_
                              refine then_normal ?_
                              exact ⟨_, (Option.some.inj hsh).symm, Sv1299, (hs.weaken _ ⟨rfl, rfl, rfl, rfl, rfl, rfl, rfl, rfl, rfl, rfl, trivial⟩), (hw.fit [0, 1, 2, 3, 4, 5] (by decide) ⟨rfl, rfl, rfl, rfl, rfl, rfl, trivial⟩ ⟨⟨0, rfl⟩, ⟨1, rfl⟩, ⟨2, rfl⟩, ⟨3, rfl⟩, ⟨4, rfl⟩, ⟨5, rfl⟩, trivial⟩)⟩
                        · have hsh := ite_f hsh h1185
                          obtain ⟨rv2357, hsh, h2358⟩ := map_t hsh
                          have h2358 := hd1180 _ h2358.symm
                          subst h2358
                          refine wp_exit ?_
                          refine then_exit ?_
                          refine then_exit ?_
                          refine blk_exit ?_
                          refine then_normal ?_
                          refine wp_seq ?_
                          refine wp_region_lit ?_
                          refine st_val hs (y_move rfl) trivial rfl rfl fun a hs => ?_
                          obtain ⟨rv1351, h1350, hsh⟩ := bind_t hsh
                          refine st_callR hs (made_Dice_Samples_ok h1350 hw.dom (hw.ownAt 0 rfl) (hw.boxS 0 rfl) (hw.envAt 0 rfl)) (do_call Try.call16 rfl) trivial rfl rfl ?_
                          intro v1364 Sv1361 w a h1362 h1363 hs
                          obtain ⟨p1352, k1353, c1354, p1358, k1359, rfl, h1355, h1356, h1357, h1360⟩ := h1363
                          have hw := hw.call1F 0 rfl h1362 h1357 h1355
                          have hw := hw.addE (e := RowA c1354 rv1351.1) h1356
                          have hw := hw.addE (e := SlA p1358 rv1351.2.L.length k1359 rv1351.2.L) h1360
                          refine st_val hs (y_assign rfl) trivial rfl rfl fun a hs => ?_
                          refine wpList_nil ?_
                          refine then_normal ?_
                          refine wp_seq ?_
                          refine wp_region_lit ?_
                          refine st_val hs (y_loadBA (hw.ownAt 2 rfl) rfl Try.isAgg28 Try.sizeOf28 rfl rfl) trivial rfl rfl fun a hs => ?_
                          refine st_val hs (y_move rfl) trivial rfl rfl fun a hs => ?_
                          refine st_val hs (y_move rfl) trivial rfl rfl fun a hs => ?_
                          refine st_val hs (y_convert Try.runUnderlying5 Try.runUnderlying3 rfl) trivial rfl rfl fun a hs => ?_
                          obtain ⟨rv1366, h1365, hsh⟩ := bind_t hsh
                          obtain ⟨Sv1372, hw⟩ := w_share (α := Int) hw 0 rfl 1 rfl (.inl rfl)
                          refine st_callR hs (filter_Apply_ok h1365 hw.dom (hw.envAt 4 rfl) (hw.envAt 0 rfl)) (do_call Try.call14 rfl) trivial rfl rfl ?_
                          intro v1376 Sv1373 w a h1374 h1375 hs
                          obtain ⟨p1367, k1368, c1369, rfl, h1370, h1371⟩ := h1375
                          have hw := hw.callF h1374 h1370
                          have hw := hw.addE (e := RowA c1369 rv1366.1) h1371
                          refine st_val hs (y_move rfl) trivial rfl rfl fun a hs => ?_
                          refine st_val hs (y_extract rfl rfl) trivial rfl rfl fun a hs => ?_
                          refine st_val hs (y_extract rfl rfl) trivial rfl rfl fun a hs => ?_
                          refine st_val hs (y_assign rfl) trivial rfl rfl fun a hs => ?_
                          refine st_val hs (y_assign rfl) trivial rfl rfl fun a hs => ?_
                          refine wpList_nil ?_
                          refine then_normal ?_
                          refine wp_seq ?_
                          refine wp_region_lit ?_
                          refine st_val hs (y_move rfl) trivial rfl rfl fun a hs => ?_
                          obtain ⟨rv1378, h1377, hsh⟩ := bind_t hsh
                          refine st_callR hs (made_Dice_Next_ok h1377 hw.dom (hw.ownAt 1 rfl) (hw.boxS 1 rfl) (hw.envAt 2 rfl)) (do_call Try.call15 rfl) trivial rfl rfl ?_
                          intro v1386 Sv1383 w a h1384 h1385 hs
                          obtain ⟨p1380, k1381, rfl, h1379, h1382⟩ := h1385
                          have hw := hw.call1 1 rfl h1384 h1379
                          have hw := hw.addE (e := SlA p1380 rv1378.2.L.length k1381 rv1378.2.L) h1382
                          refine st_val hs (y_add rfl rfl) trivial rfl rfl fun a hs => ?_
                          refine st_val hs (y_fieldAddr (o' := 1) Try.runUnderlying28 rfl Try.sizeOf3 rfl rfl rfl) trivial rfl rfl fun a hs => ?_
                          refine w_store (m := 1) (cs' := [.slice p40 rv39.1.Taps.length k41, .int .i64 (w64 (1 + rv1378.1)), .int .i64 rv39.1.Shift]) hs hw 2 rfl rfl rfl Try.sizeOf3 rfl rfl rfl rfl trivial ?_
                          intro a w hs hw
                          refine wpList_nil ?_
                          refine then_normal ?_
                          refine wp_seq ?_
                          refine wp_region_lit ?_
                          refine st_val hs (y_loadBA (hw.ownAt 2 rfl) rfl Try.isAgg28 Try.sizeOf28 rfl rfl) trivial rfl rfl fun a hs => ?_
                          refine st_val hs (y_move rfl) trivial rfl rfl fun a hs => ?_
                          refine st_val hs (y_move rfl) trivial rfl rfl fun a hs => ?_
                          refine st_val hs (y_convert Try.runUnderlying5 Try.runUnderlying3 rfl) trivial rfl rfl fun a hs => ?_
                          obtain ⟨rv1388, h1387, hsh⟩ := bind_t hsh
                          refine st_callR hs (filter_Apply_ok h1387 hw.dom (hw.envAt 6 rfl) (hw.envAt 2 rfl)) (do_call Try.call14 rfl) trivial rfl rfl ?_
                          intro v1397 Sv1394 w a h1395 h1396 hs
                          obtain ⟨p1389, k1390, c1391, rfl, h1392, h1393⟩ := h1396
                          have hw := hw.callF h1395 h1392
                          have hw := hw.addE (e := RowA c1391 rv1388.1) h1393
                          refine st_val hs (y_move rfl) trivial rfl rfl fun a hs => ?_
                          refine st_val hs (y_extract rfl rfl) trivial rfl rfl fun a hs => ?_
                          refine st_val hs (y_extract rfl rfl) trivial rfl rfl fun a hs => ?_
                          refine st_val hs (y_assign rfl) trivial rfl rfl fun a hs => ?_
                          refine st_val hs (y_assign rfl) trivial rfl rfl fun a hs => ?_
                          refine wpList_nil ?_
                          refine then_normal ?_
                          refine wp_seq ?_
                          refine wp_seq ?_
                          refine wp_region_lit ?_
                          refine st_val hs (y_move rfl) trivial rfl rfl fun a hs => ?_
                          refine st_val hs (y_neq rfl rfl) trivial rfl rfl fun a hs => ?_
                          refine st_val hs (y_move rfl) trivial rfl rfl fun a hs => ?_
                          refine wpl_join 3 (fun a w1 => w = w1 ∧ Sl 263 [(1, .int .u8 n5), (8, .pointer (some ⟨b53, 0, none⟩)), (25, .slice p1367 rv1366.1.length k1368), (27, .slice p1389 rv1388.1.length k1390), (214, .bool ((rv1366.2 != 0) || (rv1388.2 != 0)))] a) ?_ ?_
                          · rcases Bool.eq_false_or_eq_true (rv1366.2 != 0) with h1398 | h1398
                            · have hs := hs.fix 211 (.bool true) rfl (vb h1398)
                              refine st_skip hs rfl rfl rfl rfl rfl fun a hs => ?_
                              refine st_skip hs rfl rfl rfl rfl rfl fun a hs => ?_
                              refine st_val hs (y_pickT rfl rfl) trivial rfl rfl fun a hs => ?_
                              refine wpList_nil ?_
                              refine then_normal ?_
                              exact ⟨rfl, (hs.fix 214 (.bool ((rv1366.2 != 0) || (rv1388.2 != 0))) rfl (or_t h1398)).weaken _ ⟨rfl, rfl, rfl, rfl, rfl, trivial⟩⟩
                            · have hs := hs.fix 211 (.bool false) rfl (vb h1398)
                              refine st_val hs (y_move rfl) ⟨_, rfl, rfl⟩ rfl rfl fun a hs => ?_
                              refine st_val hs (y_neq rfl rfl) ⟨_, rfl, rfl⟩ rfl rfl fun a hs => ?_
                              refine st_val hs (y_pickF rfl rfl) trivial rfl rfl fun a hs => ?_
                              refine wpList_nil ?_
                              refine then_normal ?_
                              exact ⟨rfl, (hs.fix 214 (.bool ((rv1366.2 != 0) || (rv1388.2 != 0))) rfl (or_f h1398)).weaken _ ⟨rfl, rfl, rfl, rfl, rfl, trivial⟩⟩
                          · rintro a w1 ⟨h2356, hs⟩
                            subst h2356
                            refine st_val hs (y_move rfl) trivial rfl rfl fun a hs => ?_
                            obtain ⟨c1407, hc1407, hsh⟩ := bind_t hsh
                            refine wpl_join 4 (fun a w => ∃ (Sv1408 : Nat → Prop), Sl 263 [(1, .int .u8 n5), (8, .pointer (some ⟨b53, 0, none⟩)), (25, .slice p1367 rv1366.1.length k1368), (27, .slice p1389 rv1388.1.length k1390), (219, .bool c1407)] a ∧ Wd ⟨w0, S0, []⟩ Sv1408 [.box b53 [.slice p40 rv39.1.Taps.length k41, .int .i64 (w64 (1 + rv1378.1)), .int .i64 rv39.1.Shift] 28, .row p1389 rv1388.1.length k1390 c1391 3 1] [SlA p1367 rv1366.1.length k1368 rv1366.1, SlA p40 rv39.1.Taps.length k41 rv39.1.Taps, RowA c1391 rv1388.1] w) ?_ ?_
                            · rcases Bool.eq_false_or_eq_true ((rv1366.2 != 0) || (rv1388.2 != 0)) with h1406 | h1406
                              · have hs := hs.fix 215 (.bool true) rfl (vb h1406)
                                have hsh := ite_t hc1407 h1406
                                refine st_skip hs rfl rfl rfl rfl rfl fun a hs => ?_
                                refine st_skip hs rfl rfl rfl rfl rfl fun a hs => ?_
                                refine st_skip hs rfl rfl rfl rfl rfl fun a hs => ?_
                                refine st_val hs (y_pickT rfl rfl) trivial rfl rfl fun a hs => ?_
                                refine wpList_nil ?_
                                obtain ⟨Sv1409, hw⟩ := w_share (α := Int) hw 1 rfl 2 rfl (.inl rfl)
                                have hsh := Option.some.inj hsh
                                subst hsh
                                refine then_normal ?_
                                exact ⟨Sv1409, (hs.weaken _ ⟨rfl, rfl, rfl, rfl, rfl, trivial⟩), (hw.fit [2, 0] (by decide) ⟨rfl, rfl, trivial⟩ ⟨⟨0, rfl⟩, ⟨8, rfl⟩, ⟨1, rfl⟩, trivial⟩)⟩
                              · have hs := hs.fix 215 (.bool false) rfl (vb h1406)
                                have hsh := ite_f hc1407 h1406
                                refine st_val hs (y_move rfl) ⟨_, rfl, rfl⟩ rfl rfl fun a hs => ?_
                                obtain ⟨rv1411, h1410, hsh⟩ := bind_t hsh
                                obtain ⟨Sv1412, hw⟩ := w_share (α := Int) hw 1 rfl 2 rfl (.inl rfl)
                                refine st_callR hs (ref05_InRange_ok h1410 hw.dom (hw.envAt 0 rfl)) (do_call Try.call17 rfl) ⟨_, rfl, rfl⟩ rfl rfl ?_
                                intro v1416 Sv1413 w a h1414 h1415 hs
                                subst h1415
                                have hw := hw.call h1414
                                refine st_val hs (y_not rfl) ⟨_, rfl, rfl⟩ rfl rfl fun a hs => ?_
                                refine st_val hs (y_pickF rfl rfl) trivial rfl rfl fun a hs => ?_
                                refine wpList_nil ?_
                                have hsh := Option.some.inj hsh
                                subst hsh
                                refine then_normal ?_
                                exact ⟨Sv1413, (hs.weaken _ ⟨rfl, rfl, rfl, rfl, rfl, trivial⟩), (hw.fit [2, 0] (by decide) ⟨rfl, rfl, trivial⟩ ⟨⟨0, rfl⟩, ⟨8, rfl⟩, ⟨1, rfl⟩, trivial⟩)⟩
                            · rintro a w ⟨Sv1408, hs, hw⟩
                              refine wpList_nil ?_
                              refine then_normal ?_
                              refine wp_cond_split (hs.ev rfl) (fun h1418 => ?_) (fun h1418 => ?_)
                              · have hsh := ite_t hsh h1418
                                refine wp_seq ?_
                                refine wp_region_lit ?_
                                refine st_val hs (y_assign rfl) trivial rfl rfl fun a hs => ?_
                                refine wpList_nil ?_
                                refine then_normal ?_
                                have hsh := Option.some.inj hsh
                                subst hsh
                                refine wp_ret ?_
                                refine then_ret ?_
                                exact ret1 hs rfl (rv_tmp rfl) (hw.ret rfl)
                              · have hsh := ite_f hsh h1418
                                refine wp_skip ?_
                                refine then_normal ?_
                                refine wp_seq ?_
                                refine wp_region_lit ?_
                                refine st_val hs (y_assign rfl) trivial rfl rfl fun a hs => ?_
                                refine wpList_nil ?_
                                refine then_normal ?_
                                refine wp_seq ?_
                                refine wp_seq ?_
                                refine wp_region_lit ?_
                                refine st_val hs (y_move rfl) trivial rfl rfl fun a hs => ?_
                                refine st_val hs (y_len Try.runUnderlying22 rfl) trivial rfl rfl fun a hs => ?_
                                refine st_val hs (y_move rfl) trivial rfl rfl fun a hs => ?_
                                refine wpList_nil ?_
                                refine then_normal ?_
                                refine wp_block ?_
                                refine wp_while (fun sv1802 a w => ∃ (Sv2056 : Nat → Prop), Sl 263 [(1, .int .u8 n5), (8, .pointer (some ⟨b53, 0, none⟩)), (25, .slice p1367 rv1366.1.length k1368), (27, .slice p1389 rv1388.1.length k1390), (29, .int .i64 sv1802.1), (221, .int .i64 (rv1366.1.length : Int)), (222, .int .i64 sv1802.2)] a ∧ Wd ⟨w0, S0, []⟩ Sv2056 [.box b53 [.slice p40 rv39.1.Taps.length k41, .int .i64 (w64 (1 + rv1378.1)), .int .i64 rv39.1.Shift] 28, .row p1389 rv1388.1.length k1390 c1391 3 1] [SlA p1367 rv1366.1.length k1368 rv1366.1, SlA p40 rv39.1.Taps.length k41 rv39.1.Taps, RowA c1391 rv1388.1] w) (0, 0) hsh ⟨Sv1408, (hs.weaken _ ⟨rfl, rfl, rfl, rfl, rfl, rfl, rfl, trivial⟩), (hw.fit [0, 1] (by decide) ⟨rfl, rfl, trivial⟩ ⟨⟨0, rfl⟩, ⟨1, rfl⟩, ⟨2, rfl⟩, trivial⟩)⟩ ?_
                                repeat clear hsh
                                rintro sv1802 a w tv2184 ⟨Sv2056, hs, hw⟩ hsh hd2183
                                delta law21_FilterLinear_l5 at hsh
                                refine wp_seq ?_
                                refine wp_region_lit ?_
                                refine st_val hs (y_lss rfl rfl) trivial rfl rfl fun a hs => ?_
                                refine wpList_nil ?_
                                refine then_normal ?_
                                refine wp_seq ?_
                                refine wp_cond_split (hs.ev rfl) (fun h2188 => ?_) (fun h2188 => ?_)
                                · have hsh := ite_t hsh h2188
                                  refine wp_skip ?_
                                  refine then_normal ?_
                                  refine wp_seq ?_
                                  refine wp_block ?_
                                  refine wp_seq ?_
                                  refine wp_region_lit ?_
                                  refine st_val hs (y_move rfl) trivial rfl rfl fun a hs => ?_
                                  refine st_val hs (y_assign rfl) trivial rfl rfl fun a hs => ?_
                                  refine wpList_nil ?_
                                  refine then_normal ?_
                                  refine wp_seq ?_
                                  refine wp_region_lit ?_
                                  refine st_val hs (y_move rfl) trivial rfl rfl fun a hs => ?_
                                  refine st_val hs (y_convert Try.runUnderlying5 Try.runUnderlying3 rfl) trivial rfl rfl fun a hs => ?_
                                  refine st_val hs (y_fieldAddr (o' := 0) Try.runUnderlying28 rfl Try.sizeOf22 rfl rfl rfl) trivial rfl rfl fun a hs => ?_
                                  refine st_val hs (y_loadB1 (hw.ownAt 0 rfl) rfl Try.isAgg22 rfl) trivial rfl rfl fun a hs => ?_
                                  refine st_val hs (y_len Try.runUnderlying22 rfl) trivial rfl rfl fun a hs => ?_
                                  refine st_val hs (y_add rfl rfl) trivial rfl rfl fun a hs => ?_
                                  refine st_val hs (y_sub rfl rfl) trivial rfl rfl fun a hs => ?_
                                  refine st_val hs (y_move rfl) trivial rfl rfl fun a hs => ?_
                                  refine st_val hs (y_add rfl rfl) trivial rfl rfl fun a hs => ?_
                                  refine st_val hs (y_fieldAddr (o' := 1) Try.runUnderlying28 rfl Try.sizeOf3 rfl rfl rfl) trivial rfl rfl fun a hs => ?_
                                  refine st_val hs (y_loadB1 (hw.ownAt 0 rfl) rfl Try.isAgg3 rfl) trivial rfl rfl fun a hs => ?_
                                  obtain ⟨rem2252, h2251, hsh⟩ := bind_t hsh
                                  refine st_val hs (y_remM rfl rfl h2251) trivial rfl rfl fun a hs => ?_
                                  refine st_val hs (y_eql rfl rfl) trivial rfl rfl fun a hs => ?_
                                  refine wpList_nil ?_
                                  refine then_normal ?_
                                  refine wp_join (fun a w => ∃ (j2283 : Int) (Sv2282 : Nat → Prop), law21_FilterLinear_j2 sv1802 j2283 = some tv2184 ∧ Sl 263 [(1, .int .u8 n5), (8, .pointer (some ⟨b53, 0, none⟩)), (25, .slice p1367 rv1366.1.length k1368), (27, .slice p1389 rv1388.1.length k1390), (29, .int .i64 j2283), (221, .int .i64 (rv1366.1.length : Int)), (222, .int .i64 sv1802.2)] a ∧ Wd ⟨w0, S0, []⟩ Sv2282 [.box b53 [.slice p40 rv39.1.Taps.length k41, .int .i64 (w64 (1 + rv1378.1)), .int .i64 rv39.1.Shift] 28, .row p1389 rv1388.1.length k1390 c1391 3 1] [SlA p1367 rv1366.1.length k1368 rv1366.1, SlA p40 rv39.1.Taps.length k41 rv39.1.Taps, RowA c1391 rv1388.1] w) ?_ ?_
                                  · refine wp_cond_split (hs.ev rfl) (fun h2284 => ?_) (fun h2284 => ?_)
                                    · have hsh := ite_t hsh h2284
                                      refine wp_seq ?_
                                      refine wp_seq ?_
                                      obtain ⟨c2307, hc2307, hsh⟩ := bind_t hsh
                                      refine wp_only (fun a w => ∃ (Sv2308 : Nat → Prop), Sl 263 [(1, .int .u8 n5), (8, .pointer (some ⟨b53, 0, none⟩)), (25, .slice p1367 rv1366.1.length k1368), (27, .slice p1389 rv1388.1.length k1390), (29, .int .i64 sv1802.1), (221, .int .i64 (rv1366.1.length : Int)), (222, .int .i64 sv1802.2), (252, .bool c2307)] a ∧ Wd ⟨w0, S0, []⟩ Sv2308 [.box b53 [.slice p40 rv39.1.Taps.length k41, .int .i64 (w64 (1 + rv1378.1)), .int .i64 rv39.1.Shift] 28, .row p1389 rv1388.1.length k1390 c1391 3 1] [SlA p1367 rv1366.1.length k1368 rv1366.1, SlA p40 rv39.1.Taps.length k41 rv39.1.Taps, RowA c1391 rv1388.1] w) ?_ ?_
                                      · rcases Bool.eq_false_or_eq_true (decide ((rv1388.1.length : Int) ≤ sv1802.1)) with h2309 | h2309
                                        · have h2310 := ite_t hc2307 h2309
                                          refine h_begin (C := Cls [.box b53 [.slice p40 rv39.1.Taps.length k41, .int .i64 (w64 (1 + rv1378.1)), .int .i64 rv39.1.Shift] 28, .row p1389 rv1388.1.length k1390 c1391 3 1] []) (by kernel_rfl) rfl ?_
                                          have hw := hw.drew
                                          have hC : Cls [.box b53 [.slice p40 rv39.1.Taps.length k41, .int .i64 (w64 (1 + rv1378.1)), .int .i64 rv39.1.Shift] 28, .row p1389 rv1388.1.length k1390 c1391 3 1] [] _ := hw.cls [0, 1] ⟨rfl, rfl, trivial⟩ trivial
                                          refine h_take hs (i := 0) rfl (by kernel_rfl) (by kernel_rfl) (by kernel_rfl) trivial rfl rfl hC (fun w hC => y_move rfl) fun a hs => ?_
                                          refine h_take hs (i := 1) rfl (by kernel_rfl) (by kernel_rfl) (by kernel_rfl) trivial rfl rfl hC (fun w hC => y_move rfl) fun a hs => ?_
                                          refine h_take hs (i := 2) rfl (by kernel_rfl) (by kernel_rfl) (by kernel_rfl) trivial rfl rfl hC (fun w hC => y_len Try.runUnderlying22 rfl) fun a hs => ?_
                                          refine h_take hs (i := 3) rfl (by kernel_rfl) (by kernel_rfl) (by kernel_rfl) trivial rfl rfl hC (fun w hC => y_geq rfl rfl) fun a hs => ?_
                                          refine h_take hs (i := 4) rfl (by kernel_rfl) (by kernel_rfl) (by kernel_rfl) trivial rfl rfl hC (fun w hC => y_move rfl) fun a hs => ?_
                                          have hs := hs.fix 242 (.bool true) rfl (vb h2309)
                                          refine h_skip hs (i := 5) rfl (by kernel_rfl) (by kernel_rfl) (by kernel_rfl) rfl rfl rfl (by first | exact .inl rfl | exact .inr rfl) rfl rfl hC fun a hs => ?_
                                          refine h_skip hs (i := 6) rfl (by kernel_rfl) (by kernel_rfl) (by kernel_rfl) rfl rfl rfl (by first | exact .inl rfl | exact .inr rfl) rfl rfl hC fun a hs => ?_
                                          refine h_skip hs (i := 7) rfl (by kernel_rfl) (by kernel_rfl) (by kernel_rfl) rfl rfl rfl (by first | exact .inl rfl | exact .inr rfl) rfl rfl hC fun a hs => ?_
                                          refine h_skip hs (i := 8) rfl (by kernel_rfl) (by kernel_rfl) (by kernel_rfl) rfl rfl rfl (by first | exact .inl rfl | exact .inr rfl) rfl rfl hC fun a hs => ?_
                                          refine h_skip hs (i := 9) rfl (by kernel_rfl) (by kernel_rfl) (by kernel_rfl) rfl rfl rfl (by first | exact .inl rfl | exact .inr rfl) rfl rfl hC fun a hs => ?_
                                          refine h_skip hs (i := 10) rfl (by kernel_rfl) (by kernel_rfl) (by kernel_rfl) rfl rfl rfl (by first | exact .inl rfl | exact .inr rfl) rfl rfl hC fun a hs => ?_
                                          refine h_skip hs (i := 11) rfl (by kernel_rfl) (by kernel_rfl) (by kernel_rfl) rfl rfl rfl (by first | exact .inl rfl | exact .inr rfl) rfl rfl hC fun a hs => ?_
                                          refine h_skip hs (i := 12) rfl (by kernel_rfl) (by kernel_rfl) (by kernel_rfl) rfl rfl rfl (by first | exact .inl rfl | exact .inr rfl) rfl rfl hC fun a hs => ?_
                                          refine h_skip hs (i := 13) rfl (by kernel_rfl) (by kernel_rfl) (by kernel_rfl) rfl rfl rfl (by first | exact .inl rfl | exact .inr rfl) rfl rfl hC fun a hs => ?_
                                          refine h_take hs (i := 14) rfl (by kernel_rfl) (by kernel_rfl) (by kernel_rfl) trivial rfl rfl hC (fun w hC => y_pickTE (v := .bool c2307) rfl rfl (vbs h2310)) fun a hs => ?_
                                          refine h_done (by kernel_rfl) ?_
                                          exact ⟨Sv2056, (hs.weaken _ ⟨rfl, rfl, rfl, rfl, rfl, rfl, rfl, rfl, trivial⟩), (hw.fit [0, 1] (by decide) ⟨rfl, rfl, trivial⟩ ⟨⟨0, rfl⟩, ⟨1, rfl⟩, ⟨2, rfl⟩, trivial⟩)⟩
                                        · have h2311 := ite_f hc2307 h2309
                                          obtain ⟨x2314, h2312, h2311⟩ := bind_t h2311
                                          obtain ⟨b2321, q2318, c2319, h2322, h2315, h2316, h2320, h2313⟩ := hw.elemRV (α := Int) 1 rfl 2 rfl h2312
                                          subst h2322
                                          obtain ⟨_, rfl, rfl⟩ := h2313
                                          obtain ⟨x2325, h2323, h2311⟩ := bind_t h2311
                                          obtain ⟨b2331, o2332, q2329, c2330, h2333, h2326, h2327, h2328, h2324⟩ := hw.elemV 0 rfl h2323
                                          subst h2333
                                          obtain ⟨_, rfl, rfl⟩ := h2324
                                          have hw := hw.addE h2328
                                          refine h_begin (C := Cls [.box b53 [.slice p40 rv39.1.Taps.length k41, .int .i64 (w64 (1 + rv1378.1)), .int .i64 rv39.1.Shift] 28, .row (some ⟨b2321, 0, none⟩) rv1388.1.length k1390 c1391 3 1] [CeA b2331 q2329 [.int .i64 x2325]]) (by kernel_rfl) rfl ?_
                                          have hw := hw.drew
                                          have hC : Cls [.box b53 [.slice p40 rv39.1.Taps.length k41, .int .i64 (w64 (1 + rv1378.1)), .int .i64 rv39.1.Shift] 28, .row (some ⟨b2321, 0, none⟩) rv1388.1.length k1390 c1391 3 1] [CeA b2331 q2329 [.int .i64 x2325]] _ := hw.cls [0, 1] ⟨rfl, rfl, trivial⟩ ⟨⟨0, rfl⟩, trivial⟩
                                          refine h_take hs (i := 0) rfl (by kernel_rfl) (by kernel_rfl) (by kernel_rfl) trivial rfl rfl hC (fun w hC => y_move rfl) fun a hs => ?_
                                          refine h_take hs (i := 1) rfl (by kernel_rfl) (by kernel_rfl) (by kernel_rfl) trivial rfl rfl hC (fun w hC => y_move rfl) fun a hs => ?_
                                          refine h_take hs (i := 2) rfl (by kernel_rfl) (by kernel_rfl) (by kernel_rfl) trivial rfl rfl hC (fun w hC => y_len Try.runUnderlying22 rfl) fun a hs => ?_
                                          refine h_take hs (i := 3) rfl (by kernel_rfl) (by kernel_rfl) (by kernel_rfl) trivial rfl rfl hC (fun w hC => y_geq rfl rfl) fun a hs => ?_
                                          refine h_take hs (i := 4) rfl (by kernel_rfl) (by kernel_rfl) (by kernel_rfl) trivial rfl rfl hC (fun w hC => y_move rfl) fun a hs => ?_
                                          have hs := hs.fix 242 (.bool false) rfl (vb h2309)
                                          refine h_take hs (i := 5) rfl (by kernel_rfl) (by kernel_rfl) (by kernel_rfl) ⟨_, rfl, rfl⟩ rfl rfl hC (fun w hC => y_move rfl) fun a hs => ?_
                                          refine h_take hs (i := 6) rfl (by kernel_rfl) (by kernel_rfl) (by kernel_rfl) ⟨_, rfl, rfl⟩ rfl rfl hC (fun w hC => y_move rfl) fun a hs => ?_
                                          refine h_take hs (i := 7) rfl (by kernel_rfl) (by kernel_rfl) (by kernel_rfl) ⟨_, rfl, rfl⟩ rfl rfl hC (fun w hC => y_indexAt Try.runUnderlying22 Try.sizeOf3 rfl rfl h2315.1 h2315.2 h2316) fun a hs => ?_
                                          refine h_take hs (i := 8) rfl (by kernel_rfl) (by kernel_rfl) (by kernel_rfl) ⟨_, rfl, rfl⟩ rfl rfl hC (fun w hC => y_loadQ1 (j := 0) (hC.ownAt 1 rfl) rfl Try.isAgg3 h2320 rfl) fun a hs => ?_
                                          refine h_take hs (i := 9) rfl (by kernel_rfl) (by kernel_rfl) (by kernel_rfl) ⟨_, rfl, rfl⟩ rfl rfl hC (fun w hC => y_move rfl) fun a hs => ?_
                                          refine h_take hs (i := 10) rfl (by kernel_rfl) (by kernel_rfl) (by kernel_rfl) ⟨_, rfl, rfl⟩ rfl rfl hC (fun w hC => y_move rfl) fun a hs => ?_
                                          refine h_take hs (i := 11) rfl (by kernel_rfl) (by kernel_rfl) (by kernel_rfl) ⟨_, rfl, rfl⟩ rfl rfl hC (fun w hC => y_indexAt Try.runUnderlying22 Try.sizeOf3 rfl rfl h2326.1 h2326.2 h2327) fun a hs => ?_
                                          refine h_take hs (i := 12) rfl (by kernel_rfl) (by kernel_rfl) (by kernel_rfl) ⟨_, rfl, rfl⟩ rfl rfl hC (fun w hC => y_loadE1 (j := 0) (hC.ceAt 0 rfl) rfl Try.isAgg3 rfl) fun a hs => ?_
                                          refine h_take hs (i := 13) rfl (by kernel_rfl) (by kernel_rfl) (by kernel_rfl) ⟨_, rfl, rfl⟩ rfl rfl hC (fun w hC => y_neq rfl rfl) fun a hs => ?_
                                          refine h_take hs (i := 14) rfl (by kernel_rfl) (by kernel_rfl) (by kernel_rfl) trivial rfl rfl hC (fun w hC => y_pickFE (v := .bool c2307) rfl rfl (vbs h2311)) fun a hs => ?_
                                          refine h_done (by kernel_rfl) ?_
                                          exact ⟨Sv2056, (hs.weaken _ ⟨rfl, rfl, rfl, rfl, rfl, rfl, rfl, rfl, trivial⟩), (hw.fit [0, 1] (by decide) ⟨rfl, rfl, trivial⟩ ⟨⟨1, rfl⟩, ⟨2, rfl⟩, ⟨3, rfl⟩, trivial⟩)⟩
                                      · rintro a w ⟨Sv2308, hs, hw⟩
                                        refine then_normal ?_
                                        refine wp_cond_split (hs.ev rfl) (fun h2335 => ?_) (fun h2335 => ?_)
                                        · have hsh := ite_t hsh h2335
                                          refine wp_seq ?_
                                          refine wp_region_lit ?_
                                          refine st_val hs (y_assign rfl) trivial rfl rfl fun a hs => ?_
                                          refine wpList_nil ?_
                                          refine then_normal ?_
                                          have hsh := Option.some.inj hsh
                                          subst hsh
                                          have h2336 := hd2183 _ rfl
                                          subst h2336
                                          refine wp_ret ?_
                                          refine then_ret ?_
                                          refine then_ret ?_
                                          refine blk_ret ?_
                                          refine then_ret ?_
                                          refine then_ret ?_
                                          refine blk_ret ?_
                                          refine then_ret ?_
                                          exact ret1 hs rfl (rv_tmp rfl) (hw.ret rfl)
                                        · have hsh := ite_f hsh h2335
                                          refine wp_skip ?_
                                          refine then_normal ?_
                                          refine wp_region_lit ?_
                                          refine st_val hs (y_move rfl) trivial rfl rfl fun a hs => ?_
                                          refine st_val hs (y_add rfl rfl) trivial rfl rfl fun a hs => ?_
                                          obtain ⟨j2338, h2337, hsh⟩ := bind_t hsh
                                          refine st_val hs (y_assignI rfl h2337) trivial rfl rfl fun a hs => ?_
                                          refine wpList_nil ?_
                                          refine then_normal ?_
                                          exact ⟨j2338, Sv2308, hsh, (hs.weaken _ ⟨rfl, rfl, rfl, rfl, rfl, rfl, rfl, trivial⟩), (hw.fit [0, 1] (by decide) ⟨rfl, rfl, trivial⟩ ⟨⟨0, rfl⟩, ⟨1, rfl⟩, ⟨2, rfl⟩, trivial⟩)⟩
                                    · have hsh := ite_f hsh h2284
                                      refine wp_skip ?_
                                      refine then_normal ?_
                                      exact ⟨sv1802.1, Sv2056, hsh, (hs.weaken _ ⟨rfl, rfl, rfl, rfl, rfl, rfl, rfl, trivial⟩), (hw.fit [0, 1] (by decide) ⟨rfl, rfl, trivial⟩ ⟨⟨0, rfl⟩, ⟨1, rfl⟩, ⟨2, rfl⟩, trivial⟩)⟩
                                  · rintro a w ⟨j2283, Sv2282, hsh, hs, hw⟩
                                    delta law21_FilterLinear_j2 at hsh
                                    refine blk_normal ?_
                                    refine then_normal ?_
                                    refine wp_region_lit ?_
                                    refine st_val hs (y_add rfl rfl) trivial rfl rfl fun a hs => ?_
                                    refine st_val hs (y_move rfl) trivial rfl rfl fun a hs => ?_
                                    refine wpList_nil ?_
                                    refine then_normal ?_
                                    exact ⟨_, (Option.some.inj hsh).symm, Sv2282, (hs.weaken _ ⟨rfl, rfl, rfl, rfl, rfl, rfl, rfl, trivial⟩), (hw.fit [0, 1] (by decide) ⟨rfl, rfl, trivial⟩ ⟨⟨0, rfl⟩, ⟨1, rfl⟩, ⟨2, rfl⟩, trivial⟩)⟩
                                · have hsh := ite_f hsh h2188
                                  obtain ⟨rv2354, hsh, h2355⟩ := map_t hsh
                                  have h2355 := hd2183 _ h2355.symm
                                  subst h2355
                                  refine wp_exit ?_
                                  refine then_exit ?_
                                  refine then_exit ?_
                                  refine blk_exit ?_
                                  refine then_normal ?_
                                  refine wp_seq ?_
                                  refine wp_region_lit ?_
                                  refine st_val hs (y_move rfl) trivial rfl rfl fun a hs => ?_
                                  refine st_val hs (y_move rfl) trivial rfl rfl fun a hs => ?_
                                  refine st_val hs (y_len Try.runUnderlying22 rfl) trivial rfl rfl fun a hs => ?_
                                  refine st_val hs (y_eql rfl rfl) trivial rfl rfl fun a hs => ?_
                                  refine st_val hs (y_move rfl) trivial rfl rfl fun a hs => ?_
                                  obtain ⟨c2346, hc2346, hsh⟩ := bind_t hsh
                                  refine wpl_join 2 (fun a w => ∃ (Sv2347 : Nat → Prop), Sl 263 [(262, .bool c2346)] a ∧ Wd ⟨w0, S0, []⟩ Sv2347 [] [] w) ?_ ?_
                                  · rcases Bool.eq_false_or_eq_true (sv1802.1 == (rv1388.1.length : Int)) with h2345 | h2345
                                    · have hs := hs.fix 260 (.bool true) rfl (vb h2345)
                                      have hsh := ite_t hc2346 h2345
                                      obtain ⟨rv2349, h2348, hsh⟩ := bind_t hsh
                                      refine st_callR hs (law21_sane_ok h2348 hw.dom) (do_call Try.call11 rfl) ⟨_, rfl, rfl⟩ rfl rfl ?_
                                      intro v2353 Sv2350 w a h2351 h2352 hs
                                      subst h2352
                                      have hw := hw.call h2351
                                      refine st_val hs (y_pickT rfl rfl) trivial rfl rfl fun a hs => ?_
                                      refine wpList_nil ?_
                                      have hsh := Option.some.inj hsh
                                      subst hsh
                                      refine then_normal ?_
                                      exact ⟨Sv2350, (hs.weaken _ ⟨rfl, trivial⟩), (hw.fit [] (by decide) trivial trivial)⟩
                                    · have hs := hs.fix 260 (.bool false) rfl (vb h2345)
                                      have hsh := ite_f hc2346 h2345
                                      refine st_skip hs rfl rfl rfl rfl rfl fun a hs => ?_
                                      refine st_val hs (y_pickF rfl rfl) trivial rfl rfl fun a hs => ?_
                                      refine wpList_nil ?_
                                      have hsh := Option.some.inj hsh
                                      subst hsh
                                      refine then_normal ?_
                                      exact ⟨Sv2056, (hs.weaken _ ⟨rfl, trivial⟩), (hw.fit [] (by decide) trivial trivial)⟩
                                  · rintro a w ⟨Sv2347, hs, hw⟩
                                    refine st_val hs (y_assign rfl) trivial rfl rfl fun a hs => ?_
                                    refine wpList_nil ?_
                                    refine then_normal ?_
                                    have hsh := Option.some.inj hsh
                                    subst hsh
                                    refine wp_ret ?_
                                    exact ret1 hs rfl (rv_tmp rfl) (hw.ret rfl)

end Go.Proofs.Ytmihimhknllmcaa.Wk

/- The walks of FilterLate, part 2: each Go function computes what its plain program computes. Printed by a program of ours. -/
import Derived.Test.YtmihimhknllmcaaProg
import Derived.Test.YtmihimhknllmcaaDat
import Derived.Test.YtmihimhknllmcaaSh
import Derived.Test.YtmihimhknllmcaaLibJ
import Derived.KernelRfl
import Derived.Test.YtmihimhknllmcaaWFilterLate1
namespace Go.Proofs.Ytmihimhknllmcaa.Wk
open Go Go.RowKit Go.Proofs Go.Proofs.Ytmihimhknllmcaa.Sh
set_option linter.unusedVariables false
set_option linter.unusedSimpArgs false

abbrev filter_Segment_rd (w0 : World) (r : (Segment × Bool × Int)) : (Nat → Prop) → World → Value → Prop := fun S w v => ∃ (p0_5 : Option Addr) (k0_5 : Nat) (c0_5 : List Value), v = .tuple #[.agg #[.int .i64 r.1.Start, .int .i64 r.1.First, .int .i64 r.1.Rate.Num, .int .i64 r.1.Rate.Den, .int .i64 r.1.Error, .slice p0_5 r.1.Samples.length k0_5], .bool r.2.1, .int .i64 r.2.2] ∧ Fresh w0 S w (.row p0_5 r.1.Samples.length k0_5 c0_5 3 1) ∧ (RowA c0_5 r.1.Samples).p S w
set_option maxHeartbeats 4000000 in
set_option maxRecDepth 100000 in
theorem filter_Segment_ok {w0 : World} {S0 : Nat → Prop} {p2 : Option Addr} {k3 : Nat} {p6 : Option Addr} {k7 : Nat} {f1 : Filter} {s5 : Segment} {r : (Segment × Bool × Int)} (hsh : filter_Segment f1 s5 = some r) (hS : ∀ b, S0 b → b < w0.heap.size) (h4 : (SlA p2 f1.Taps.length k3 f1.Taps).p S0 w0) (h8 : (SlA p6 s5.Samples.length k7 s5.Samples).p S0 w0) : Calls Try.prog 29 #[.agg #[.slice p2 f1.Taps.length k3, .int .i64 f1.Factor, .int .i64 f1.Shift], .agg #[.int .i64 s5.Start, .int .i64 s5.First, .int .i64 s5.Rate.Num, .int .i64 s5.Rate.Den, .int .i64 s5.Error, .slice p6 s5.Samples.length k7]] w0 (Ret [] w0 S0 (filter_Segment_rd w0 r)) := by
  refine calls_of_wp Try.func29 rfl ?_
  have hs := Sl.enter #[.agg #[.slice p2 f1.Taps.length k3, .int .i64 f1.Factor, .int .i64 f1.Shift], .agg #[.int .i64 s5.Start, .int .i64 s5.First, .int .i64 s5.Rate.Num, .int .i64 s5.Rate.Den, .int .i64 s5.Error, .slice p6 s5.Samples.length k7]] 96 [(0, .agg #[.slice p2 f1.Taps.length k3, .int .i64 f1.Factor, .int .i64 f1.Shift]), (1, .agg #[.int .i64 s5.Start, .int .i64 s5.First, .int .i64 s5.Rate.Num, .int .i64 s5.Rate.Den, .int .i64 s5.Error, .slice p6 s5.Samples.length k7])] rfl ⟨rfl, rfl, trivial⟩
  have hw := Wd.enter (E := []) hS (fun _ h => (by cases h))
  have hw := hw.addE h4
  have hw := hw.addE h8
  delta filter_Segment at hsh
  refine wp_seq ?_
  refine wp_region_lit ?_
  refine w_box (cs := [.slice p2 f1.Taps.length k3, .int .i64 f1.Factor, .int .i64 f1.Shift]) hs hw rfl rfl rfl trivial ?_
  intro b9 a w hs hw
  refine w_box (cs := [.int .i64 s5.Start, .int .i64 s5.First, .int .i64 s5.Rate.Num, .int .i64 s5.Rate.Den, .int .i64 s5.Error, .slice p6 s5.Samples.length k7]) hs hw rfl rfl rfl trivial ?_
  intro b10 a w hs hw
  refine w_alloc (cs := [.int .i64 0, .int .i64 0, .int .i64 0, .int .i64 0, .int .i64 0, .slice none ([] : List Int).length 0]) hs hw Try.zeroValue62 rfl rfl trivial ?_
  intro b11 a w hs hw
  refine st_val hs (y_assign rfl) trivial rfl rfl fun a hs => ?_
  refine st_val hs (y_assign rfl) trivial rfl rfl fun a hs => ?_
  refine wpList_nil ?_
  refine then_normal ?_
  refine wp_seq ?_
  refine wp_seq ?_
  refine wp_region_lit ?_
  refine st_val hs (y_loadBA (hw.ownAt 2 rfl) rfl Try.isAgg28 Try.sizeOf28 rfl rfl) trivial rfl rfl fun a hs => ?_
  obtain ⟨rv13, h12, hsh⟩ := bind_t hsh
  refine st_callR hs (filter_Valid_ok h12 hw.dom (hw.envAt 1 rfl)) (do_call Try.call32 rfl) trivial rfl rfl ?_
  intro v17 Sv14 w a h15 h16 hs
  subst h16
  have hw := hw.call h15
  refine st_val hs (y_not rfl) trivial rfl rfl fun a hs => ?_
  refine st_val hs (y_move rfl) trivial rfl rfl fun a hs => ?_
  obtain ⟨c25, hc25, hsh⟩ := bind_t hsh
  refine wpl_join 4 (fun a w => ∃ (Sv26 : Nat → Prop), Sl 96 [(2, .pointer (some ⟨b9, 0, none⟩)), (3, .pointer (some ⟨b10, 0, none⟩)), (4, .pointer (some ⟨b11, 0, none⟩)), (24, .bool c25)] a ∧ Wd ⟨w0, S0, []⟩ Sv26 [.box b9 [.slice p2 f1.Taps.length k3, .int .i64 f1.Factor, .int .i64 f1.Shift] 28, .box b10 [.int .i64 s5.Start, .int .i64 s5.First, .int .i64 s5.Rate.Num, .int .i64 s5.Rate.Den, .int .i64 s5.Error, .slice p6 s5.Samples.length k7] 62, .box b11 [.int .i64 0, .int .i64 0, .int .i64 0, .int .i64 0, .int .i64 0, .slice none ([] : List Int).length 0] 62] [SlA p2 f1.Taps.length k3 f1.Taps, SlA p6 s5.Samples.length k7 s5.Samples, SlA none ([] : List Int).length 0 ([] : List Int)] w) ?_ ?_
  · rcases Bool.eq_false_or_eq_true (!rv13) with h24 | h24
    · have hs := hs.fix 20 (.bool true) rfl (vb h24)
      have hsh := ite_t hc25 h24
      refine st_skip hs rfl rfl rfl rfl rfl fun a hs => ?_
      refine st_skip hs rfl rfl rfl rfl rfl fun a hs => ?_
      refine st_skip hs rfl rfl rfl rfl rfl fun a hs => ?_
      refine st_val hs (y_pickT rfl rfl) trivial rfl rfl fun a hs => ?_
      refine wpList_nil ?_
      have hw := hw.addE (e := SlA (α := Int) none 0 0 []) nil_sl
      have hsh := Option.some.inj hsh
      subst hsh
      refine then_normal ?_
      exact ⟨Sv14, (hs.wk rfl), (hw.ft [2, 1, 0] [2, 1, 0] (by decide) rfl rfl)⟩
    · have hs := hs.fix 20 (.bool false) rfl (vb h24)
      have hsh := ite_f hc25 h24
      refine st_val hs (y_loadBA (hw.ownAt 1 rfl) rfl Try.isAgg62 Try.sizeOf62 rfl rfl) ⟨_, rfl, rfl⟩ rfl rfl fun a hs => ?_
      obtain ⟨rv28, h27, hsh⟩ := bind_t hsh
      refine st_callR hs (continuity_ValidSegment_ok h27 hw.dom (hw.envAt 0 rfl)) (do_call Try.call48 rfl) ⟨_, rfl, rfl⟩ rfl rfl ?_
      intro v32 Sv29 w a h30 h31 hs
      subst h31
      have hw := hw.call h30
      refine st_val hs (y_not rfl) ⟨_, rfl, rfl⟩ rfl rfl fun a hs => ?_
      refine st_val hs (y_pickF rfl rfl) trivial rfl rfl fun a hs => ?_
      refine wpList_nil ?_
      have hw := hw.addE (e := SlA (α := Int) none 0 0 []) nil_sl
      have hsh := Option.some.inj hsh
      subst hsh
      refine then_normal ?_
      exact ⟨Sv29, (hs.wk rfl), (hw.ft [2, 1, 0] [2, 1, 0] (by decide) rfl rfl)⟩
  · rintro a w ⟨Sv26, hs, hw⟩
    refine wpList_nil ?_
    refine then_normal ?_
    refine wp_cond_split (hs.ev rfl) (fun h34 => ?_) (fun h34 => ?_)
    · have hsh := ite_t hsh h34
      refine wp_seq ?_
      refine wp_region_lit ?_
      refine st_val hs (y_build (vs := []) Bld62 rfl rfl) trivial rfl rfl fun a hs => ?_
      refine w_store (m := 6) (cs' := [.int .i64 0, .int .i64 0, .int .i64 0, .int .i64 0, .int .i64 0, .slice none ([] : List Int).length 0]) hs hw 2 rfl rfl rfl Try.sizeOf62 rfl rfl rfl rfl trivial ?_
      intro a w hs hw
      refine st_val hs (y_assign rfl) trivial rfl rfl fun a hs => ?_
      refine st_val hs (y_assign rfl) trivial rfl rfl fun a hs => ?_
      refine wpList_nil ?_
      refine then_normal ?_
      have hsh := Option.some.inj hsh
      subst hsh
      have hw := hw.nilRow Int 3
      refine wp_ret ?_
      refine then_ret ?_
      exact ret3 hs rfl (rv_cell hw 3 rfl rfl Try.isAgg62 Try.sizeOf62 rfl) (rv_tmp rfl) (rv_tmp rfl) (hw.ret ⟨none, 0, [], rfl, (hw.freshOf 0 rfl (.inl rfl)), (hw.envAt 0 rfl)⟩)
    · have hsh := ite_f hsh h34
      refine wp_skip ?_
      refine then_normal ?_
      refine wp_seq ?_
      refine wp_region_lit ?_
      refine st_val hs (y_fieldAddr (o' := 2) Try.runUnderlying62 rfl Try.sizeOf60 rfl rfl rfl) trivial rfl rfl fun a hs => ?_
      refine st_val hs (y_loadBA (hw.ownAt 1 rfl) rfl Try.isAgg60 Try.sizeOf60 rfl rfl) trivial rfl rfl fun a hs => ?_
      refine st_val hs (y_fieldAddr (o' := 1) Try.runUnderlying28 rfl Try.sizeOf3 rfl rfl rfl) trivial rfl rfl fun a hs => ?_
      refine st_val hs (y_loadB1 (hw.ownAt 0 rfl) rfl Try.isAgg3 rfl) trivial rfl rfl fun a hs => ?_
      obtain ⟨rv36, h35, hsh⟩ := bind_t hsh
      refine st_callR hs (rate_Slower_ok h35 hw.dom) (do_call Try.call49 rfl) trivial rfl rfl ?_
      intro v40 Sv37 w a h38 h39 hs
      subst h39
      have hw := hw.call h38
      refine st_val hs (y_move rfl) trivial rfl rfl fun a hs => ?_
      refine st_val hs (y_extract rfl rfl) trivial rfl rfl fun a hs => ?_
      refine st_val hs (y_extract rfl rfl) trivial rfl rfl fun a hs => ?_
      refine w_alloc (cs := [.int .i64 0, .int .i64 0]) hs hw Try.zeroValue60 rfl rfl trivial ?_
      intro b41 a w hs hw
      refine w_store (m := 2) (cs' := [.int .i64 rv36.1.Num, .int .i64 rv36.1.Den]) hs hw 0 rfl rfl rfl Try.sizeOf60 rfl rfl rfl rfl trivial ?_
      intro a w hs hw
      refine st_val hs (y_assign rfl) trivial rfl rfl fun a hs => ?_
      refine wpList_nil ?_
      refine then_normal ?_
      refine wp_seq ?_
      refine wp_seq ?_
      refine wp_region_lit ?_
      refine st_val hs (y_move rfl) trivial rfl rfl fun a hs => ?_
      refine st_val hs (y_neq rfl rfl) trivial rfl rfl fun a hs => ?_
      refine wpList_nil ?_
      refine then_normal ?_
      refine wp_cond_split (hs.ev rfl) (fun h43 => ?_) (fun h43 => ?_)
      · have hsh := ite_t hsh h43
        refine wp_seq ?_
        refine wp_region_lit ?_
        refine st_val hs (y_build (vs := []) Bld62 rfl rfl) trivial rfl rfl fun a hs => ?_
        refine w_store (m := 6) (cs' := [.int .i64 0, .int .i64 0, .int .i64 0, .int .i64 0, .int .i64 0, .slice none ([] : List Int).length 0]) hs hw 3 rfl rfl rfl Try.sizeOf62 rfl rfl rfl rfl trivial ?_
        intro a w hs hw
        refine st_val hs (y_assign rfl) trivial rfl rfl fun a hs => ?_
        refine st_val hs (y_assign rfl) trivial rfl rfl fun a hs => ?_
        refine wpList_nil ?_
        refine then_normal ?_
        have hsh := Option.some.inj hsh
        subst hsh
        have hw := hw.nilRow Int 3
        refine wp_ret ?_
        refine then_ret ?_
        exact ret3 hs rfl (rv_cell hw 4 rfl rfl Try.isAgg62 Try.sizeOf62 rfl) (rv_tmp rfl) (rv_tmp rfl) (hw.ret ⟨none, 0, [], rfl, (hw.freshOf 0 rfl (.inl rfl)), (hw.envAt 0 rfl)⟩)
      · have hsh := ite_f hsh h43
        refine wp_skip ?_
        refine then_normal ?_
        refine wp_seq ?_
        refine wp_region_lit ?_
        refine st_val hs (y_fieldAddr (o' := 0) Try.runUnderlying62 rfl Try.sizeOf3 rfl rfl rfl) trivial rfl rfl fun a hs => ?_
        refine st_val hs (y_loadB1 (hw.ownAt 2 rfl) rfl Try.isAgg3 rfl) trivial rfl rfl fun a hs => ?_
        refine st_val hs (y_fieldAddr (o' := 2) Try.runUnderlying62 rfl Try.sizeOf60 rfl rfl rfl) trivial rfl rfl fun a hs => ?_
        refine st_val hs (y_loadBA (hw.ownAt 2 rfl) rfl Try.isAgg60 Try.sizeOf60 rfl rfl) trivial rfl rfl fun a hs => ?_
        refine st_val hs (y_fieldAddr (o' := 1) Try.runUnderlying62 rfl Try.sizeOf3 rfl rfl rfl) trivial rfl rfl fun a hs => ?_
        refine st_val hs (y_loadB1 (hw.ownAt 2 rfl) rfl Try.isAgg3 rfl) trivial rfl rfl fun a hs => ?_
        obtain ⟨rv45, h44, hsh⟩ := bind_t hsh
        refine st_callR hs (rate_Time_ok h44 hw.dom) (do_call Try.call50 rfl) trivial rfl rfl ?_
        intro v49 Sv46 w a h47 h48 hs
        subst h48
        have hw := hw.call h47
        refine st_val hs (y_move rfl) trivial rfl rfl fun a hs => ?_
        refine st_val hs (y_extract rfl rfl) trivial rfl rfl fun a hs => ?_
        refine st_val hs (y_extract rfl rfl) trivial rfl rfl fun a hs => ?_
        refine st_val hs (y_assign rfl) trivial rfl rfl fun a hs => ?_
        refine st_val hs (y_assign rfl) trivial rfl rfl fun a hs => ?_
        refine wpList_nil ?_
        refine then_normal ?_
        refine wp_seq ?_
        refine wp_region_lit ?_
        refine st_val hs (y_fieldAddr (o' := 2) Try.runUnderlying62 rfl Try.sizeOf60 rfl rfl rfl) trivial rfl rfl fun a hs => ?_
        refine st_val hs (y_loadBA (hw.ownAt 2 rfl) rfl Try.isAgg60 Try.sizeOf60 rfl rfl) trivial rfl rfl fun a hs => ?_
        refine st_val hs (y_move rfl) trivial rfl rfl fun a hs => ?_
        obtain ⟨rv51, h50, hsh⟩ := bind_t hsh
        refine st_callR hs (rate_Number_ok h50 hw.dom) (do_call Try.call51 rfl) trivial rfl rfl ?_
        intro v55 Sv52 w a h53 h54 hs
        subst h54
        have hw := hw.call h53
        refine st_val hs (y_move rfl) trivial rfl rfl fun a hs => ?_
        refine st_val hs (y_extract rfl rfl) trivial rfl rfl fun a hs => ?_
        refine st_val hs (y_extract rfl rfl) trivial rfl rfl fun a hs => ?_
        refine st_val hs (y_assign rfl) trivial rfl rfl fun a hs => ?_
        refine st_val hs (y_assign rfl) trivial rfl rfl fun a hs => ?_
        refine wpList_nil ?_
        refine then_normal ?_
        refine wp_seq ?_
        refine wp_region_lit ?_
        refine st_val hs (y_loadBA (hw.ownAt 1 rfl) rfl Try.isAgg28 Try.sizeOf28 rfl rfl) trivial rfl rfl fun a hs => ?_
        refine st_val hs (y_fieldAddr (o' := 5) Try.runUnderlying62 rfl Try.sizeOf22 rfl rfl rfl) trivial rfl rfl fun a hs => ?_
        refine st_val hs (y_loadB1 (hw.ownAt 2 rfl) rfl Try.isAgg22 rfl) trivial rfl rfl fun a hs => ?_
        refine st_val hs (y_move rfl) trivial rfl rfl fun a hs => ?_
        obtain ⟨rv57, h56, hsh⟩ := bind_t hsh
        refine st_callR hs (filter_outputs_ok h56 hw.dom (hw.envAt 0 rfl) (hw.envAt 1 rfl)) (do_call Try.call41 rfl) trivial rfl rfl ?_
        intro v66 Sv63 w a h64 h65 hs
        obtain ⟨p58, k59, c60, rfl, h61, h62⟩ := h65
        have hw := hw.callF h64 h61
        have hw := hw.addE (e := RowA c60 rv57) h62
        refine st_val hs (y_assign rfl) trivial rfl rfl fun a hs => ?_
        refine wpList_nil ?_
        refine then_normal ?_
        refine wp_seq ?_
        refine wp_seq ?_
        refine wp_region_lit ?_
        refine st_val hs (y_move rfl) trivial rfl rfl fun a hs => ?_
        refine st_val hs (y_len Try.runUnderlying22 rfl) trivial rfl rfl fun a hs => ?_
        refine st_val hs (y_eql rfl rfl) trivial rfl rfl fun a hs => ?_
        refine wpList_nil ?_
        refine then_normal ?_
        refine wp_cond_split (hs.ev rfl) (fun h68 => ?_) (fun h68 => ?_)
        · have hsh := ite_t hsh h68
          refine wp_seq ?_
          refine wp_region_lit ?_
          refine st_val hs (y_build (vs := []) Bld62 rfl rfl) trivial rfl rfl fun a hs => ?_
          refine w_store (m := 6) (cs' := [.int .i64 0, .int .i64 0, .int .i64 0, .int .i64 0, .int .i64 0, .slice none ([] : List Int).length 0]) hs hw 4 rfl rfl rfl Try.sizeOf62 rfl rfl rfl rfl trivial ?_
          intro a w hs hw
          refine st_val hs (y_assign rfl) trivial rfl rfl fun a hs => ?_
          refine st_val hs (y_assign rfl) trivial rfl rfl fun a hs => ?_
          refine wpList_nil ?_
          refine then_normal ?_
          have hsh := Option.some.inj hsh
          subst hsh
          have hw := hw.nilRow Int 3
          refine wp_ret ?_
          refine then_ret ?_
          exact ret3 hs rfl (rv_cell hw 5 rfl rfl Try.isAgg62 Try.sizeOf62 rfl) (rv_tmp rfl) (rv_tmp rfl) (hw.ret ⟨none, 0, [], rfl, (hw.freshOf 0 rfl (.inl rfl)), (hw.envAt 0 rfl)⟩)
        · have hsh := ite_f hsh h68
          refine wp_skip ?_
          refine then_normal ?_
          refine wp_seq ?_
          refine wp_region_lit ?_
          refine st_val hs (y_fieldAddr (o' := 0) Try.runUnderlying28 rfl Try.sizeOf22 rfl rfl rfl) trivial rfl rfl fun a hs => ?_
          refine st_val hs (y_loadB1 (hw.ownAt 2 rfl) rfl Try.isAgg22 rfl) trivial rfl rfl fun a hs => ?_
          refine st_val hs (y_len Try.runUnderlying22 rfl) trivial rfl rfl fun a hs => ?_
          refine st_val hs (y_sub rfl rfl) trivial rfl rfl fun a hs => ?_
          obtain ⟨i70, h69, hsh⟩ := bind_t hsh
          refine st_val hs (y_assignI rfl h69) trivial rfl rfl fun a hs => ?_
          refine wpList_nil ?_
          refine then_normal ?_
          refine wp_seq ?_
          obtain ⟨e101, h118, hsh⟩ := bind_t hsh
          refine wp_join (fun a w => ∃ (Sv102 : Nat → Prop), Sl 96 [(3, .pointer (some ⟨b10, 0, none⟩)), (4, .pointer (some ⟨b11, 0, none⟩)), (7, .pointer (some ⟨b41, 0, none⟩)), (13, .slice p58 rv57.length k59), (14, .int .i64 e101)] a ∧ Wd ⟨w0, S0, []⟩ Sv102 [.box b10 [.int .i64 s5.Start, .int .i64 s5.First, .int .i64 s5.Rate.Num, .int .i64 s5.Rate.Den, .int .i64 s5.Error, .slice p6 s5.Samples.length k7] 62, .box b11 [.int .i64 0, .int .i64 0, .int .i64 0, .int .i64 0, .int .i64 0, .slice none ([] : List Int).length 0] 62, .box b41 [.int .i64 rv36.1.Num, .int .i64 rv36.1.Den] 60, .row p58 rv57.length k59 c60 3 1] [SlA p6 s5.Samples.length k7 s5.Samples, SlA none ([] : List Int).length 0 ([] : List Int), RowA c60 rv57] w) ?_ ?_
          · refine wp_block ?_
            refine wp_while (fun sv71 a w => ∃ (Sv89 : Nat → Prop), Sl 96 [(2, .pointer (some ⟨b9, 0, none⟩)), (3, .pointer (some ⟨b10, 0, none⟩)), (4, .pointer (some ⟨b11, 0, none⟩)), (7, .pointer (some ⟨b41, 0, none⟩)), (11, .int .i64 rv51.1), (13, .slice p58 rv57.length k59), (14, .int .i64 sv71)] a ∧ Wd ⟨w0, S0, []⟩ Sv89 [.box b9 [.slice p2 f1.Taps.length k3, .int .i64 f1.Factor, .int .i64 f1.Shift] 28, .box b10 [.int .i64 s5.Start, .int .i64 s5.First, .int .i64 s5.Rate.Num, .int .i64 s5.Rate.Den, .int .i64 s5.Error, .slice p6 s5.Samples.length k7] 62, .box b11 [.int .i64 0, .int .i64 0, .int .i64 0, .int .i64 0, .int .i64 0, .slice none ([] : List Int).length 0] 62, .box b41 [.int .i64 rv36.1.Num, .int .i64 rv36.1.Den] 60, .row p58 rv57.length k59 c60 3 1] [SlA p2 f1.Taps.length k3 f1.Taps, SlA p6 s5.Samples.length k7 s5.Samples, SlA none ([] : List Int).length 0 ([] : List Int), RowA c60 rv57] w) i70 h118 ⟨Sv63, (hs.wk rfl), (hw.ft [2, 3, 4, 1, 0] [1, 2, 3, 0] (by decide) rfl rfl)⟩ ?_
            clear h118
            repeat clear hsh
            rintro sv71 a w tv99 ⟨Sv89, hs, hw⟩ hsh hd98
            delta filter_Segment_l1 at hsh
            refine wp_seq ?_
            refine wp_seq ?_
            refine wp_region_lit ?_
            refine st_val hs (y_move rfl) trivial rfl rfl fun a hs => ?_
            refine st_val hs (y_move rfl) trivial rfl rfl fun a hs => ?_
            refine st_val hs (y_add rfl rfl) trivial rfl rfl fun a hs => ?_
            refine st_val hs (y_fieldAddr (o' := 1) Try.runUnderlying28 rfl Try.sizeOf3 rfl rfl rfl) trivial rfl rfl fun a hs => ?_
            refine st_val hs (y_loadB1 (hw.ownAt 0 rfl) rfl Try.isAgg3 rfl) trivial rfl rfl fun a hs => ?_
            obtain ⟨rem104, h103, hsh⟩ := bind_t hsh
            refine st_val hs (y_remM rfl rfl h103) trivial rfl rfl fun a hs => ?_
            refine st_val hs (y_neq rfl rfl) trivial rfl rfl fun a hs => ?_
            refine wpList_nil ?_
            refine then_normal ?_
            refine wp_cond_split (hs.ev rfl) (fun h106 => ?_) (fun h106 => ?_)
            · have hsh := ite_t hsh h106
              refine wp_skip ?_
              refine then_normal ?_
              refine wp_block ?_
              refine wp_region_lit ?_
              refine st_val hs (y_move rfl) trivial rfl rfl fun a hs => ?_
              refine st_val hs (y_add rfl rfl) trivial rfl rfl fun a hs => ?_
              obtain ⟨i110, h109, hsh⟩ := bind_t hsh
              refine st_val hs (y_assignI rfl h109) trivial rfl rfl fun a hs => ?_
              refine wpList_nil ?_
              refine blk_normal ?_
              refine then_normal ?_
              exact ⟨_, (Option.some.inj hsh).symm, Sv89, (hs.wk rfl), (hw.ft [0, 1, 2, 3, 4] [0, 1, 2, 3] (by decide) rfl rfl)⟩
            · have hsh := ite_f hsh h106
              refine wp_exit ?_
              refine then_exit ?_
              refine then_exit ?_
              refine blk_exit ?_
              have hsh := Option.some.inj hsh
              subst hsh
              have h111 := hd98 _ rfl
              subst h111
              refine then_normal ?_
              exact ⟨Sv89, (hs.wk rfl), (hw.ft [1, 2, 3, 4] [1, 2, 3] (by decide) rfl rfl)⟩
          · rintro a w ⟨Sv102, hs, hw⟩
            refine then_normal ?_
            refine wp_seq ?_
            refine wp_region_lit ?_
            refine st_val hs (y_fieldAddr (o' := 0) Try.runUnderlying62 rfl Try.sizeOf3 rfl rfl rfl) trivial rfl rfl fun a hs => ?_
            refine st_val hs (y_loadB1 (hw.ownAt 0 rfl) rfl Try.isAgg3 rfl) trivial rfl rfl fun a hs => ?_
            refine st_val hs (y_fieldAddr (o' := 2) Try.runUnderlying62 rfl Try.sizeOf60 rfl rfl rfl) trivial rfl rfl fun a hs => ?_
            refine st_val hs (y_loadBA (hw.ownAt 0 rfl) rfl Try.isAgg60 Try.sizeOf60 rfl rfl) trivial rfl rfl fun a hs => ?_
            refine st_val hs (y_fieldAddr (o' := 1) Try.runUnderlying62 rfl Try.sizeOf3 rfl rfl rfl) trivial rfl rfl fun a hs => ?_
            refine st_val hs (y_loadB1 (hw.ownAt 0 rfl) rfl Try.isAgg3 rfl) trivial rfl rfl fun a hs => ?_
            refine st_val hs (y_move rfl) trivial rfl rfl fun a hs => ?_
            refine st_val hs (y_add rfl rfl) trivial rfl rfl fun a hs => ?_
            obtain ⟨rv113, h112, hsh⟩ := bind_t hsh
            refine st_callR hs (rate_Time_ok h112 hw.dom) (do_call Try.call50 rfl) trivial rfl rfl ?_
            intro v117 Sv114 w a h115 h116 hs
            subst h116
            have hw := hw.call h115
            refine st_val hs (y_move rfl) trivial rfl rfl fun a hs => ?_
            refine st_val hs (y_extract rfl rfl) trivial rfl rfl fun a hs => ?_
            refine st_val hs (y_extract rfl rfl) trivial rfl rfl fun a hs => ?_
            refine st_val hs (y_assign rfl) trivial rfl rfl fun a hs => ?_
            refine st_val hs (y_assign rfl) trivial rfl rfl fun a hs => ?_
            refine wpList_nil ?_
            refine then_normal ?_
            refine wp_seq ?_
            refine wp_region_lit ?_
            refine st_val hs (y_move rfl) trivial rfl rfl fun a hs => ?_
            refine st_val hs (y_loadBA (hw.ownAt 2 rfl) rfl Try.isAgg60 Try.sizeOf60 rfl rfl) trivial rfl rfl fun a hs => ?_
            refine st_val hs (y_fieldAddr (o' := 4) Try.runUnderlying62 rfl Try.sizeOf3 rfl rfl rfl) trivial rfl rfl fun a hs => ?_
            refine st_val hs (y_loadB1 (hw.ownAt 0 rfl) rfl Try.isAgg3 rfl) trivial rfl rfl fun a hs => ?_
            refine st_val hs (y_add rfl rfl) trivial rfl rfl fun a hs => ?_
            refine st_val hs (y_min rfl rfl) trivial rfl rfl fun a hs => ?_
            refine st_val hs (y_move rfl) trivial rfl rfl fun a hs => ?_
            refine st_val hs (y_build (vs := [(0, .int .i64 rv113.1), (2, .agg #[.int .i64 rv36.1.Num, .int .i64 rv36.1.Den]), (3, .int .i64 (min (w64 (s5.Error + 1)) 1099511627776)), (4, .slice p58 rv57.length k59)]) Bld62 rfl rfl) trivial rfl rfl fun a hs => ?_
            refine w_store (m := 6) (cs' := [.int .i64 rv113.1, .int .i64 0, .int .i64 rv36.1.Num, .int .i64 rv36.1.Den, .int .i64 (min (w64 (s5.Error + 1)) 1099511627776), .slice p58 rv57.length k59]) hs hw 1 rfl rfl rfl Try.sizeOf62 rfl rfl rfl rfl trivial ?_
            intro a w hs hw
            refine st_val hs (y_assign rfl) trivial rfl rfl fun a hs => ?_
            refine st_val hs (y_assign rfl) trivial rfl rfl fun a hs => ?_
            refine wpList_nil ?_
            refine then_normal ?_
            have hsh := Option.some.inj hsh
            subst hsh
            refine wp_ret ?_
            exact ret3 hs rfl (rv_cell hw 1 rfl rfl Try.isAgg62 Try.sizeOf62 rfl) (rv_tmp rfl) (rv_tmp rfl) (hw.ret ⟨p58, k59, c60, rfl, (hw.freshOf 3 rfl (.inl rfl)), (hw.envAt 2 rfl)⟩)

abbrev ref01_In_rd (w0 : World) (r : Bool) : (Nat → Prop) → World → Value → Prop := fun S w v => v = .bool r
set_option maxHeartbeats 4000000 in
set_option maxRecDepth 100000 in
theorem ref01_In_ok {w0 : World} {S0 : Nat → Prop} {n1 : Int} {lo2 : Int} {hi3 : Int} {r : Bool} (hsh : ref01_In n1 lo2 hi3 = some r) (hS : ∀ b, S0 b → b < w0.heap.size) : Calls Try.prog 43 #[.int .i64 n1, .int .i64 lo2, .int .i64 hi3] w0 (Ret [] w0 S0 (ref01_In_rd w0 r)) := by
  refine calls_of_wp Try.func43 rfl ?_
  have hs := Sl.enter #[.int .i64 n1, .int .i64 lo2, .int .i64 hi3] 15 [(0, .int .i64 n1), (1, .int .i64 lo2), (2, .int .i64 hi3)] rfl ⟨rfl, rfl, rfl, trivial⟩
  have hw := Wd.enter (E := []) hS (fun _ h => (by cases h))
  delta ref01_In at hsh
  refine wp_seq ?_
  refine wp_region_lit ?_
  refine st_val hs (y_assign rfl) trivial rfl rfl fun a hs => ?_
  refine wpList_nil ?_
  refine then_normal ?_
  refine wp_seq ?_
  refine wp_region_lit ?_
  refine st_val hs (y_move rfl) trivial rfl rfl fun a hs => ?_
  refine st_val hs (y_move rfl) trivial rfl rfl fun a hs => ?_
  refine st_val hs (y_geq rfl rfl) trivial rfl rfl fun a hs => ?_
  refine st_val hs (y_move rfl) trivial rfl rfl fun a hs => ?_
  refine wpl_join 4 (fun a w1 => w0 = w1 ∧ Sl 15 [(14, .bool ((decide (lo2 ≤ n1)) && (decide (n1 ≤ hi3))))] a) ?_ ?_
  · rcases Bool.eq_false_or_eq_true (decide (lo2 ≤ n1)) with h4 | h4
    · have hs := hs.fix 10 (.bool true) rfl (vb h4)
      refine st_val hs (y_move rfl) ⟨_, rfl, rfl⟩ rfl rfl fun a hs => ?_
      refine st_val hs (y_move rfl) ⟨_, rfl, rfl⟩ rfl rfl fun a hs => ?_
      refine st_val hs (y_leq rfl rfl) ⟨_, rfl, rfl⟩ rfl rfl fun a hs => ?_
      refine st_val hs (y_pickT rfl rfl) trivial rfl rfl fun a hs => ?_
      refine wpList_nil ?_
      refine then_normal ?_
      exact ⟨rfl, (hs.fix 14 (.bool ((decide (lo2 ≤ n1)) && (decide (n1 ≤ hi3)))) rfl (and_t h4)).weaken _ ⟨rfl, trivial⟩⟩
    · have hs := hs.fix 10 (.bool false) rfl (vb h4)
      refine st_skip hs rfl rfl rfl rfl rfl fun a hs => ?_
      refine st_skip hs rfl rfl rfl rfl rfl fun a hs => ?_
      refine st_skip hs rfl rfl rfl rfl rfl fun a hs => ?_
      refine st_val hs (y_pickF rfl rfl) trivial rfl rfl fun a hs => ?_
      refine wpList_nil ?_
      refine then_normal ?_
      exact ⟨rfl, (hs.fix 14 (.bool ((decide (lo2 ≤ n1)) && (decide (n1 ≤ hi3)))) rfl (and_f h4)).weaken _ ⟨rfl, trivial⟩⟩
  · rintro a w1 ⟨h5, hs⟩
    subst h5
    refine st_val hs (y_assign rfl) trivial rfl rfl fun a hs => ?_
    refine wpList_nil ?_
    refine then_normal ?_
    have hsh := Option.some.inj hsh
    subst hsh
    refine wp_ret ?_
    exact ret1 hs rfl (rv_tmp rfl) (hw.ret rfl)

abbrev ref02_gcd_rd (w0 : World) (r : Int) : (Nat → Prop) → World → Value → Prop := fun S w v => v = .int .i64 r
set_option maxHeartbeats 4000000 in
set_option maxRecDepth 100000 in
theorem ref02_gcd_ok {w0 : World} {S0 : Nat → Prop} {a1 : Int} {b2 : Int} {r : Int} (hsh : ref02_gcd a1 b2 = some r) (hS : ∀ b, S0 b → b < w0.heap.size) : Calls Try.prog 70 #[.int .i64 a1, .int .i64 b2] w0 (Ret [] w0 S0 (ref02_gcd_rd w0 r)) := by
  refine calls_of_wp Try.func70 rfl ?_
  have hs := Sl.enter #[.int .i64 a1, .int .i64 b2] 12 [(0, .int .i64 a1), (1, .int .i64 b2)] rfl ⟨rfl, rfl, trivial⟩
  have hw := Wd.enter (E := []) hS (fun _ h => (by cases h))
  delta ref02_gcd at hsh
  refine wp_seq ?_
  refine wp_region_lit ?_
  refine st_val hs (y_assign rfl) trivial rfl rfl fun a hs => ?_
  refine wpList_nil ?_
  refine then_normal ?_
  refine wp_seq ?_
  obtain ⟨e33, h44, hsh⟩ := bind_t hsh
  refine wp_join (fun a w => ∃ (Sv34 : Nat → Prop), Sl 12 [(0, .int .i64 e33)] a ∧ Wd ⟨w0, S0, []⟩ Sv34 [] [] w) ?_ ?_
  · refine wp_block ?_
    refine wp_while (fun sv3 a w => ∃ (Sv21 : Nat → Prop), Sl 12 [(0, .int .i64 sv3.1), (1, .int .i64 sv3.2)] a ∧ Wd ⟨w0, S0, []⟩ Sv21 [] [] w) (a1, b2) h44 ⟨S0, (hs.wk rfl), (hw.ft [] [] (by decide) rfl rfl)⟩ ?_
    clear h44
    repeat clear hsh
    rintro sv3 a w tv31 ⟨Sv21, hs, hw⟩ hsh hd30
    delta ref02_gcd_l1 at hsh
    refine wp_seq ?_
    refine wp_seq ?_
    refine wp_region_lit ?_
    refine st_val hs (y_move rfl) trivial rfl rfl fun a hs => ?_
    refine st_val hs (y_neq rfl rfl) trivial rfl rfl fun a hs => ?_
    refine wpList_nil ?_
    refine then_normal ?_
    refine wp_cond_split (hs.ev rfl) (fun h36 => ?_) (fun h36 => ?_)
    · have hsh := ite_t hsh h36
      refine wp_skip ?_
      refine then_normal ?_
      refine wp_block ?_
      obtain ⟨rem41, h40, hsh⟩ := bind_t hsh
      refine wp_only (fun a w => ∃ (Sv42 : Nat → Prop), Sl 12 [(0, .int .i64 sv3.2), (1, .int .i64 rem41)] a ∧ Wd ⟨w0, S0, []⟩ Sv42 [] [] w) ?_ ?_
      · refine h_begin (C := Cls [] []) (by kernel_rfl) rfl ?_
        have hw := hw.drew
        have hC : Cls [] [] _ := hw.cs [] [] rfl rfl
        refine h_get hs (i := 0) rfl (by kernel_rfl) rfl rfl hC rfl (fun w hC => y_move rfl) fun a hs => ?_
        refine h_get hs (i := 1) rfl (by kernel_rfl) rfl rfl hC rfl (fun w hC => y_move rfl) fun a hs => ?_
        refine h_get hs (i := 2) rfl (by kernel_rfl) rfl rfl hC rfl (fun w hC => y_move rfl) fun a hs => ?_
        refine h_get hs (i := 3) rfl (by kernel_rfl) rfl rfl hC rfl (fun w hC => y_remM rfl rfl h40) fun a hs => ?_
        refine h_get hs (i := 4) rfl (by kernel_rfl) rfl rfl hC rfl (fun w hC => y_assign rfl) fun a hs => ?_
        refine h_get hs (i := 5) rfl (by kernel_rfl) rfl rfl hC rfl (fun w hC => y_assign rfl) fun a hs => ?_
        refine h_done (by kernel_rfl) ?_
        exact ⟨Sv21, (hs.wk rfl), (hw.ft [] [] (by decide) rfl rfl)⟩
      · rintro a w ⟨Sv42, hs, hw⟩
        refine blk_normal ?_
        refine then_normal ?_
        exact ⟨_, (Option.some.inj hsh).symm, Sv42, (hs.wk rfl), (hw.ft [] [] (by decide) rfl rfl)⟩
    · have hsh := ite_f hsh h36
      refine wp_exit ?_
      refine then_exit ?_
      refine then_exit ?_
      refine blk_exit ?_
      have hsh := Option.some.inj hsh
      subst hsh
      have h43 := hd30 _ rfl
      subst h43
      refine then_normal ?_
      exact ⟨Sv21, (hs.wk rfl), (hw.ft [] [] (by decide) rfl rfl)⟩
  · rintro a w ⟨Sv34, hs, hw⟩
    refine then_normal ?_
    refine wp_seq ?_
    refine wp_region_lit ?_
    refine st_val hs (y_move rfl) trivial rfl rfl fun a hs => ?_
    refine st_val hs (y_assign rfl) trivial rfl rfl fun a hs => ?_
    refine wpList_nil ?_
    refine then_normal ?_
    have hsh := Option.some.inj hsh
    subst hsh
    refine wp_ret ?_
    exact ret1 hs rfl (rv_tmp rfl) (hw.ret rfl)

abbrev ref02_Valid_rd (w0 : World) (r : Bool) : (Nat → Prop) → World → Value → Prop := fun S w v => v = .bool r
set_option maxHeartbeats 4000000 in
set_option maxRecDepth 100000 in
theorem ref02_Valid_ok {w0 : World} {S0 : Nat → Prop} {r1 : Rate} {r : Bool} (hsh : ref02_Valid r1 = some r) (hS : ∀ b, S0 b → b < w0.heap.size) : Calls Try.prog 52 #[.agg #[.int .i64 r1.Num, .int .i64 r1.Den]] w0 (Ret [] w0 S0 (ref02_Valid_rd w0 r)) := by
  refine calls_of_wp Try.func52 rfl ?_
  have hs := Sl.enter #[.agg #[.int .i64 r1.Num, .int .i64 r1.Den]] 19 [(0, .agg #[.int .i64 r1.Num, .int .i64 r1.Den])] rfl ⟨rfl, trivial⟩
  have hw := Wd.enter (E := []) hS (fun _ h => (by cases h))
  delta ref02_Valid at hsh
  refine wp_seq ?_
  refine wp_region_lit ?_
  refine w_box (cs := [.int .i64 r1.Num, .int .i64 r1.Den]) hs hw rfl rfl rfl trivial ?_
  intro b2 a w hs hw
  refine st_val hs (y_assign rfl) trivial rfl rfl fun a hs => ?_
  refine wpList_nil ?_
  refine then_normal ?_
  refine wp_seq ?_
  refine wp_region_lit ?_
  refine st_val hs (y_fieldAddr (o' := 0) Try.runUnderlying60 rfl Try.sizeOf3 rfl rfl rfl) trivial rfl rfl fun a hs => ?_
  refine st_val hs (y_loadB1 (hw.ownAt 0 rfl) rfl Try.isAgg3 rfl) trivial rfl rfl fun a hs => ?_
  obtain ⟨rv4, h3, hsh⟩ := bind_t hsh
  refine st_callR hs (ref01_In_ok h3 hw.dom) (do_call Try.call43 rfl) trivial rfl rfl ?_
  intro v8 Sv5 w a h6 h7 hs
  subst h7
  have hw := hw.call h6
  refine st_val hs (y_move rfl) trivial rfl rfl fun a hs => ?_
  obtain ⟨c16, hc16, hsh⟩ := bind_t hsh
  refine wpl_join 4 (fun a w => ∃ (Sv17 : Nat → Prop), Sl 19 [(1, .pointer (some ⟨b2, 0, none⟩)), (10, .bool c16)] a ∧ Wd ⟨w0, S0, []⟩ Sv17 [.box b2 [.int .i64 r1.Num, .int .i64 r1.Den] 60] [] w) ?_ ?_
  · rcases Bool.eq_false_or_eq_true rv4 with h15 | h15
    · have hs := hs.fix 6 (.bool true) rfl (vb h15)
      have hsh := ite_t hc16 h15
      refine st_val hs (y_fieldAddr (o' := 1) Try.runUnderlying60 rfl Try.sizeOf3 rfl rfl rfl) ⟨_, rfl, rfl⟩ rfl rfl fun a hs => ?_
      refine st_val hs (y_loadB1 (hw.ownAt 0 rfl) rfl Try.isAgg3 rfl) ⟨_, rfl, rfl⟩ rfl rfl fun a hs => ?_
      obtain ⟨rv19, h18, hsh⟩ := bind_t hsh
      refine st_callR hs (ref01_In_ok h18 hw.dom) (do_call Try.call43 rfl) ⟨_, rfl, rfl⟩ rfl rfl ?_
      intro v23 Sv20 w a h21 h22 hs
      subst h22
      have hw := hw.call h21
      refine st_val hs (y_pickT rfl rfl) trivial rfl rfl fun a hs => ?_
      refine wpList_nil ?_
      have hsh := Option.some.inj hsh
      subst hsh
      refine then_normal ?_
      exact ⟨Sv20, (hs.wk rfl), (hw.ft [0] [] (by decide) rfl rfl)⟩
    · have hs := hs.fix 6 (.bool false) rfl (vb h15)
      have hsh := ite_f hc16 h15
      refine st_skip hs rfl rfl rfl rfl rfl fun a hs => ?_
      refine st_skip hs rfl rfl rfl rfl rfl fun a hs => ?_
      refine st_skip hs rfl rfl rfl rfl rfl fun a hs => ?_
      refine st_val hs (y_pickF rfl rfl) trivial rfl rfl fun a hs => ?_
      refine wpList_nil ?_
      have hsh := Option.some.inj hsh
      subst hsh
      refine then_normal ?_
      exact ⟨Sv5, (hs.wk rfl), (hw.ft [0] [] (by decide) rfl rfl)⟩
  · rintro a w ⟨Sv17, hs, hw⟩
    refine st_val hs (y_move rfl) trivial rfl rfl fun a hs => ?_
    obtain ⟨c31, hc31, hsh⟩ := bind_t hsh
    refine wpl_join 7 (fun a w => ∃ (Sv32 : Nat → Prop), Sl 19 [(18, .bool c31)] a ∧ Wd ⟨w0, S0, []⟩ Sv32 [] [] w) ?_ ?_
    · rcases Bool.eq_false_or_eq_true c16 with h30 | h30
      · have hs := hs.fix 11 (.bool true) rfl (vb h30)
        have hsh := ite_t hc31 h30
        refine st_val hs (y_fieldAddr (o' := 0) Try.runUnderlying60 rfl Try.sizeOf3 rfl rfl rfl) ⟨_, rfl, rfl⟩ rfl rfl fun a hs => ?_
        refine st_val hs (y_loadB1 (hw.ownAt 0 rfl) rfl Try.isAgg3 rfl) ⟨_, rfl, rfl⟩ rfl rfl fun a hs => ?_
        refine st_val hs (y_fieldAddr (o' := 1) Try.runUnderlying60 rfl Try.sizeOf3 rfl rfl rfl) ⟨_, rfl, rfl⟩ rfl rfl fun a hs => ?_
        refine st_val hs (y_loadB1 (hw.ownAt 0 rfl) rfl Try.isAgg3 rfl) ⟨_, rfl, rfl⟩ rfl rfl fun a hs => ?_
        obtain ⟨rv34, h33, hsh⟩ := bind_t hsh
        refine st_callR hs (ref02_gcd_ok h33 hw.dom) (do_call Try.call70 rfl) ⟨_, rfl, rfl⟩ rfl rfl ?_
        intro v38 Sv35 w a h36 h37 hs
        subst h37
        have hw := hw.call h36
        refine st_val hs (y_eql rfl rfl) ⟨_, rfl, rfl⟩ rfl rfl fun a hs => ?_
        refine st_val hs (y_pickT rfl rfl) trivial rfl rfl fun a hs => ?_
        refine wpList_nil ?_
        have hsh := Option.some.inj hsh
        subst hsh
        refine then_normal ?_
        exact ⟨Sv35, (hs.wk rfl), (hw.ft [] [] (by decide) rfl rfl)⟩
      · have hs := hs.fix 11 (.bool false) rfl (vb h30)
        have hsh := ite_f hc31 h30
        refine st_skip hs rfl rfl rfl rfl rfl fun a hs => ?_
        refine st_skip hs rfl rfl rfl rfl rfl fun a hs => ?_
        refine st_skip hs rfl rfl rfl rfl rfl fun a hs => ?_
        refine st_skip hs rfl rfl rfl rfl rfl fun a hs => ?_
        refine st_skip hs rfl rfl rfl rfl rfl fun a hs => ?_
        refine st_skip hs rfl rfl rfl rfl rfl fun a hs => ?_
        refine st_val hs (y_pickF rfl rfl) trivial rfl rfl fun a hs => ?_
        refine wpList_nil ?_
        have hsh := Option.some.inj hsh
        subst hsh
        refine then_normal ?_
        exact ⟨Sv17, (hs.wk rfl), (hw.ft [] [] (by decide) rfl rfl)⟩
    · rintro a w ⟨Sv32, hs, hw⟩
      refine st_val hs (y_assign rfl) trivial rfl rfl fun a hs => ?_
      refine wpList_nil ?_
      refine then_normal ?_
      have hsh := Option.some.inj hsh
      subst hsh
      refine wp_ret ?_
      exact ret1 hs rfl (rv_tmp rfl) (hw.ret rfl)

abbrev ref02_Time_rd (w0 : World) (r : (Int × Int)) : (Nat → Prop) → World → Value → Prop := fun S w v => v = .tuple #[.int .i64 r.1, .int .i64 r.2]
set_option maxHeartbeats 4000000 in
set_option maxRecDepth 100000 in
theorem ref02_Time_ok {w0 : World} {S0 : Nat → Prop} {start1 : Int} {r2 : Rate} {k3 : Int} {r : (Int × Int)} (hsh : ref02_Time start1 r2 k3 = some r) (hS : ∀ b, S0 b → b < w0.heap.size) : Calls Try.prog 30 #[.int .i64 start1, .agg #[.int .i64 r2.Num, .int .i64 r2.Den], .int .i64 k3] w0 (Ret [] w0 S0 (ref02_Time_rd w0 r)) := by
  refine calls_of_wp Try.func30 rfl ?_
  have hs := Sl.enter #[.int .i64 start1, .agg #[.int .i64 r2.Num, .int .i64 r2.Den], .int .i64 k3] 29 [(0, .int .i64 start1), (1, .agg #[.int .i64 r2.Num, .int .i64 r2.Den]), (2, .int .i64 k3)] rfl ⟨rfl, rfl, rfl, trivial⟩
  have hw := Wd.enter (E := []) hS (fun _ h => (by cases h))
  delta ref02_Time at hsh
  refine wp_seq ?_
  refine wp_region_lit ?_
  refine w_box (cs := [.int .i64 r2.Num, .int .i64 r2.Den]) hs hw rfl rfl rfl trivial ?_
  intro b4 a w hs hw
  refine st_val hs (y_assign rfl) trivial rfl rfl fun a hs => ?_
  refine st_val hs (y_assign rfl) trivial rfl rfl fun a hs => ?_
  refine wpList_nil ?_
  refine then_normal ?_
  refine wp_seq ?_
  refine wp_seq ?_
  refine wp_region_lit ?_
  refine st_val hs (y_loadBA (hw.ownAt 0 rfl) rfl Try.isAgg60 Try.sizeOf60 rfl rfl) trivial rfl rfl fun a hs => ?_
  obtain ⟨rv6, h5, hsh⟩ := bind_t hsh
  refine st_callR hs (ref02_Valid_ok h5 hw.dom) (do_call Try.call52 rfl) trivial rfl rfl ?_
  intro v10 Sv7 w a h8 h9 hs
  subst h9
  have hw := hw.call h8
  refine st_val hs (y_not rfl) trivial rfl rfl fun a hs => ?_
  refine wpList_nil ?_
  refine then_normal ?_
  refine wp_cond_split (hs.ev rfl) (fun h12 => ?_) (fun h12 => ?_)
  · have hsh := ite_t hsh h12
    refine wp_seq ?_
    refine wp_region_lit ?_
    refine st_val hs (y_assign rfl) trivial rfl rfl fun a hs => ?_
    refine st_val hs (y_assign rfl) trivial rfl rfl fun a hs => ?_
    refine wpList_nil ?_
    refine then_normal ?_
    have hsh := Option.some.inj hsh
    subst hsh
    refine wp_ret ?_
    refine then_ret ?_
    exact ret2 hs rfl (rv_tmp rfl) (rv_tmp rfl) (hw.ret rfl)
  · have hsh := ite_f hsh h12
    refine wp_skip ?_
    refine then_normal ?_
    refine wp_seq ?_
    refine wp_seq ?_
    refine wp_region_lit ?_
    refine st_val hs (y_move rfl) trivial rfl rfl fun a hs => ?_
    obtain ⟨rv14, h13, hsh⟩ := bind_t hsh
    refine st_callR hs (ref01_In_ok h13 hw.dom) (do_call Try.call43 rfl) trivial rfl rfl ?_
    intro v18 Sv15 w a h16 h17 hs
    subst h17
    have hw := hw.call h16
    refine st_val hs (y_not rfl) trivial rfl rfl fun a hs => ?_
    refine st_val hs (y_move rfl) trivial rfl rfl fun a hs => ?_
    obtain ⟨c26, hc26, hsh⟩ := bind_t hsh
    refine wpl_join 4 (fun a w => ∃ (Sv27 : Nat → Prop), Sl 29 [(0, .int .i64 start1), (2, .int .i64 k3), (4, .pointer (some ⟨b4, 0, none⟩)), (18, .bool c26)] a ∧ Wd ⟨w0, S0, []⟩ Sv27 [.box b4 [.int .i64 r2.Num, .int .i64 r2.Den] 60] [] w) ?_ ?_
    · rcases Bool.eq_false_or_eq_true (!rv14) with h25 | h25
      · have hs := hs.fix 14 (.bool true) rfl (vb h25)
        have hsh := ite_t hc26 h25
        refine st_skip hs rfl rfl rfl rfl rfl fun a hs => ?_
        refine st_skip hs rfl rfl rfl rfl rfl fun a hs => ?_
        refine st_skip hs rfl rfl rfl rfl rfl fun a hs => ?_
        refine st_val hs (y_pickT rfl rfl) trivial rfl rfl fun a hs => ?_
        refine wpList_nil ?_
        have hsh := Option.some.inj hsh
        subst hsh
        refine then_normal ?_
        exact ⟨Sv15, (hs.wk rfl), (hw.ft [0] [] (by decide) rfl rfl)⟩
      · have hs := hs.fix 14 (.bool false) rfl (vb h25)
        have hsh := ite_f hc26 h25
        refine st_val hs (y_move rfl) ⟨_, rfl, rfl⟩ rfl rfl fun a hs => ?_
        obtain ⟨rv29, h28, hsh⟩ := bind_t hsh
        refine st_callR hs (ref01_In_ok h28 hw.dom) (do_call Try.call43 rfl) ⟨_, rfl, rfl⟩ rfl rfl ?_
        intro v33 Sv30 w a h31 h32 hs
        subst h32
        have hw := hw.call h31
        refine st_val hs (y_not rfl) ⟨_, rfl, rfl⟩ rfl rfl fun a hs => ?_
        refine st_val hs (y_pickF rfl rfl) trivial rfl rfl fun a hs => ?_
        refine wpList_nil ?_
        have hsh := Option.some.inj hsh
        subst hsh
        refine then_normal ?_
        exact ⟨Sv30, (hs.wk rfl), (hw.ft [0] [] (by decide) rfl rfl)⟩
    · rintro a w ⟨Sv27, hs, hw⟩
      refine wpList_nil ?_
      refine then_normal ?_
      refine wp_cond_split (hs.ev rfl) (fun h35 => ?_) (fun h35 => ?_)
      · have hsh := ite_t hsh h35
        refine wp_seq ?_
        refine wp_region_lit ?_
        refine st_val hs (y_assign rfl) trivial rfl rfl fun a hs => ?_
        refine st_val hs (y_assign rfl) trivial rfl rfl fun a hs => ?_
        refine wpList_nil ?_
        refine then_normal ?_
        have hsh := Option.some.inj hsh
        subst hsh
        refine wp_ret ?_
        refine then_ret ?_
        exact ret2 hs rfl (rv_tmp rfl) (rv_tmp rfl) (hw.ret rfl)
      · have hsh := ite_f hsh h35
        refine wp_skip ?_
        refine then_normal ?_
        refine wp_seq ?_
        refine wp_region_lit ?_
        refine st_val hs (y_move rfl) trivial rfl rfl fun a hs => ?_
        refine st_val hs (y_move rfl) trivial rfl rfl fun a hs => ?_
        refine st_val hs (y_fieldAddr (o' := 1) Try.runUnderlying60 rfl Try.sizeOf3 rfl rfl rfl) trivial rfl rfl fun a hs => ?_
        refine st_val hs (y_loadB1 (hw.ownAt 0 rfl) rfl Try.isAgg3 rfl) trivial rfl rfl fun a hs => ?_
        refine st_val hs (y_mul rfl rfl) trivial rfl rfl fun a hs => ?_
        refine st_val hs (y_mul rfl rfl) trivial rfl rfl fun a hs => ?_
        refine st_val hs (y_fieldAddr (o' := 0) Try.runUnderlying60 rfl Try.sizeOf3 rfl rfl rfl) trivial rfl rfl fun a hs => ?_
        refine st_val hs (y_loadB1 (hw.ownAt 0 rfl) rfl Try.isAgg3 rfl) trivial rfl rfl fun a hs => ?_
        obtain ⟨quo37, h36, hsh⟩ := bind_t hsh
        refine st_val hs (y_quoM rfl rfl h36) trivial rfl rfl fun a hs => ?_
        refine st_val hs (y_add rfl rfl) trivial rfl rfl fun a hs => ?_
        obtain ⟨x39, h38, hsh⟩ := bind_t hsh
        refine st_val hs (y_assignI rfl h38) trivial rfl rfl fun a hs => ?_
        refine st_val hs (y_assign rfl) trivial rfl rfl fun a hs => ?_
        refine wpList_nil ?_
        refine then_normal ?_
        have hsh := Option.some.inj hsh
        subst hsh
        refine wp_ret ?_
        exact ret2 hs rfl (rv_tmp rfl) (rv_tmp rfl) (hw.ret rfl)

abbrev law21_FilterLate_rd (w0 : World) (r : Bool) : (Nat → Prop) → World → Value → Prop := fun S w v => v = .bool r
set_option maxHeartbeats 4000000 in
set_option maxRecDepth 100000 in
theorem law21_FilterLate_ok {w0 : World} {S0 : Nat → Prop} {p2 : Option Addr} {k3 : Nat} {t1 : (List Int)} {n5 : Int} {r : Bool} (hsh : law21_FilterLate t1 n5 = some r) (hS : ∀ b, S0 b → b < w0.heap.size) (h4 : (SlA p2 t1.length k3 t1).p S0 w0) : Calls Try.prog 8 #[.slice p2 t1.length k3, .int .u8 n5] w0 (Ret [] w0 S0 (law21_FilterLate_rd w0 r)) := by
  refine calls_of_wp Try.func8 rfl ?_
  have hs := Sl.enter #[.slice p2 t1.length k3, .int .u8 n5] 174 [(0, .slice p2 t1.length k3), (1, .int .u8 n5)] rfl ⟨rfl, rfl, trivial⟩
  have hw := Wd.enter (E := []) hS (fun _ h => (by cases h))
  have hw := hw.addE h4
  delta law21_FilterLate at hsh
  refine wp_seq ?_
  refine wp_region_lit ?_
  refine st_val hs (y_assign rfl) trivial rfl rfl fun a hs => ?_
  refine wpList_nil ?_
  refine then_normal ?_
  refine wp_seq ?_
  refine wp_seq ?_
  refine wp_region_lit ?_
  refine st_val hs (y_move rfl) trivial rfl rfl fun a hs => ?_
  obtain ⟨rv7, h6, hsh⟩ := bind_t hsh
  refine st_callR hs (made_Light_ok h6 hw.dom (hw.envAt 0 rfl)) (do_call Try.call10 rfl) trivial rfl rfl ?_
  intro v11 Sv8 w a h9 h10 hs
  subst h10
  have hw := hw.call h9
  refine st_val hs (y_not rfl) trivial rfl rfl fun a hs => ?_
  refine wpList_nil ?_
  refine then_normal ?_
  refine wp_cond_split (hs.ev rfl) (fun h19 => ?_) (fun h19 => ?_)
  · have hsh := ite_t hsh h19
    refine wp_seq ?_
    refine wp_region_lit ?_
    obtain ⟨rv21, h20, hsh⟩ := bind_t hsh
    refine st_callR hs (law21_sane_ok h20 hw.dom) (do_call Try.call11 rfl) trivial rfl rfl ?_
    intro v25 Sv22 w a h23 h24 hs
    subst h24
    have hw := hw.call h23
    refine st_val hs (y_assign rfl) trivial rfl rfl fun a hs => ?_
    refine wpList_nil ?_
    refine then_normal ?_
    have hsh := Option.some.inj hsh
    subst hsh
    refine wp_ret ?_
    refine then_ret ?_
    exact ret1 hs rfl (rv_tmp rfl) (hw.ret rfl)
  · have hsh := ite_f hsh h19
    refine wp_skip ?_
    refine then_normal ?_
    refine wp_seq ?_
    refine wp_region_lit ?_
    refine st_val hs (y_move rfl) trivial rfl rfl fun a hs => ?_
    obtain ⟨rv27, h26, hsh⟩ := bind_t hsh
    refine st_callR hs (made_Roll_ok h26 hw.dom (hw.envAt 0 rfl)) (do_call Try.call12 rfl) trivial rfl rfl ?_
    intro v36 Sv33 w a h34 h35 hs
    obtain ⟨b28, p30, k31, rfl, h29, h32⟩ := h35
    have hw := hw.callF h34 h29
    have hw := hw.addE (e := SlA p30 rv27.L.length k31 rv27.L) h32
    refine st_val hs (y_assign rfl) trivial rfl rfl fun a hs => ?_
    refine wpList_nil ?_
    refine then_normal ?_
    refine wp_seq ?_
    refine wp_region_lit ?_
    refine st_val hs (y_move rfl) trivial rfl rfl fun a hs => ?_
    obtain ⟨rv38, h37, hsh⟩ := bind_t hsh
    refine st_callR hs (made_Dice_Filter_ok h37 hw.dom (hw.ownAt 0 rfl) (hw.boxS 0 rfl) (hw.envAt 0 rfl)) (do_call Try.call13 rfl) trivial rfl rfl ?_
    intro v51 Sv48 w a h49 h50 hs
    obtain ⟨p39, k40, c41, p45, k46, rfl, h42, h43, h44, h47⟩ := h50
    have hw := hw.call1F 0 rfl h49 h44 h42
    have hw := hw.addE (e := RowA c41 rv38.1.Taps) h43
    have hw := hw.addE (e := SlA p45 rv38.2.L.length k46 rv38.2.L) h47
    refine w_alloc (cs := [.slice none ([] : List Int).length 0, .int .i64 0, .int .i64 0]) hs hw Try.zeroValue28 rfl rfl trivial ?_
    intro b52 a w hs hw
    refine w_store (m := 3) (cs' := [.slice p39 rv38.1.Taps.length k40, .int .i64 rv38.1.Factor, .int .i64 rv38.1.Shift]) hs hw 0 rfl rfl rfl Try.sizeOf28 rfl rfl rfl rfl trivial ?_
    intro a w hs hw
    refine wpList_nil ?_
    refine then_normal ?_
    refine wp_seq ?_
    refine wp_region_lit ?_
    refine st_val hs (y_move rfl) trivial rfl rfl fun a hs => ?_
    refine w_litSlice (α := Int) (vs := [.int .i64 1, .int .i64 2, .int .i64 4, .int .i64 20]) (cs := [.int .i64 1, .int .i64 2, .int .i64 4, .int .i64 20]) (xs := ([1, 2, 4, 20] : List Int)) hs hw El22 rfl rfl rfl rfl rfl rfl ⟨⟨_, rfl, rfl⟩, ⟨⟨_, rfl, rfl⟩, ⟨⟨_, rfl, rfl⟩, ⟨⟨_, rfl, rfl⟩, rfl⟩⟩⟩⟩ rfl trivial rfl fun b54 a w hs hw => ?_
    obtain ⟨rv56, h55, hsh⟩ := bind_t hsh
    obtain ⟨Sv61, hw⟩ := w_share (α := Int) hw 0 rfl 0 rfl (.inl rfl)
    refine st_callR hs (made_Dice_Pick_ok h55 hw.dom (hw.ownAt 2 rfl) (hw.boxS 2 rfl) (hw.envAt 2 rfl) (hw.envAt 0 rfl)) (do_call Try.call27 rfl) trivial rfl rfl ?_
    intro v65 Sv62 w a h63 h64 hs
    obtain ⟨p58, k59, rfl, h57, h60⟩ := h64
    have hw := hw.call1 2 rfl h63 h57
    have hw := hw.addE (e := SlA p58 rv56.2.L.length k59 rv56.2.L) h60
    refine st_val hs (y_build (vs := [(0, .int .i64 rv56.1), (1, .int .i64 1)]) Bld60 rfl rfl) trivial rfl rfl fun a hs => ?_
    refine st_val hs (y_move rfl) trivial rfl rfl fun a hs => ?_
    obtain ⟨rv67, h66, hsh⟩ := bind_t hsh
    refine st_callR hs (made_Dice_Wave_ok h66 hw.dom (hw.ownAt 2 rfl) (hw.boxS 2 rfl) (hw.envAt 0 rfl)) (do_call Try.call28 rfl) trivial rfl rfl ?_
    intro v80 Sv77 w a h78 h79 hs
    obtain ⟨p68, k69, c70, p74, k75, rfl, h71, h72, h73, h76⟩ := h79
    have hw := hw.call1F 2 rfl h78 h73 h71
    have hw := hw.addE (e := RowA c70 rv67.1) h72
    have hw := hw.addE (e := SlA p74 rv67.2.L.length k75 rv67.2.L) h76
    refine st_val hs (y_build (vs := [(0, .int .i64 1000000000000), (2, .agg #[.int .i64 rv56.1, .int .i64 1]), (4, .slice p68 rv67.1.length k69)]) Bld62 rfl rfl) trivial rfl rfl fun a hs => ?_
    refine w_alloc (cs := [.int .i64 0, .int .i64 0, .int .i64 0, .int .i64 0, .int .i64 0, .slice none ([] : List Int).length 0]) hs hw Try.zeroValue62 rfl rfl trivial ?_
    intro b81 a w hs hw
    refine w_store (m := 6) (cs' := [.int .i64 1000000000000, .int .i64 0, .int .i64 rv56.1, .int .i64 1, .int .i64 0, .slice p68 rv67.1.length k69]) hs hw 0 rfl rfl rfl Try.sizeOf62 rfl rfl rfl rfl trivial ?_
    intro a w hs hw
    refine wpList_nil ?_
    refine then_normal ?_
    refine wp_seq ?_
    refine wp_region_lit ?_
    refine st_val hs (y_move rfl) trivial rfl rfl fun a hs => ?_
    refine st_val hs (y_convert Try.runUnderlying5 Try.runUnderlying3 rfl) trivial rfl rfl fun a hs => ?_
    refine st_val hs (y_fieldAddr (o' := 5) Try.runUnderlying62 rfl Try.sizeOf22 rfl rfl rfl) trivial rfl rfl fun a hs => ?_
    refine st_val hs (y_loadB1 (hw.ownAt 0 rfl) rfl Try.isAgg22 rfl) trivial rfl rfl fun a hs => ?_
    refine st_val hs (y_len Try.runUnderlying22 rfl) trivial rfl rfl fun a hs => ?_
    obtain ⟨rem83, h82, hsh⟩ := bind_t hsh
    refine st_val hs (y_remM rfl rfl h82) trivial rfl rfl fun a hs => ?_
    refine st_val hs (y_assign rfl) trivial rfl rfl fun a hs => ?_
    refine wpList_nil ?_
    refine then_normal ?_
    refine wp_seq ?_
    refine wp_region_lit ?_
    refine st_val hs (y_loadBA (hw.ownAt 0 rfl) rfl Try.isAgg62 Try.sizeOf62 rfl rfl) trivial rfl rfl fun a hs => ?_
    refine w_alloc (cs := [.int .i64 0, .int .i64 0, .int .i64 0, .int .i64 0, .int .i64 0, .slice none ([] : List Int).length 0]) hs hw Try.zeroValue62 rfl rfl trivial ?_
    intro b84 a w hs hw
    refine w_store (m := 6) (cs' := [.int .i64 1000000000000, .int .i64 0, .int .i64 rv56.1, .int .i64 1, .int .i64 0, .slice p68 rv67.1.length k69]) hs hw 0 rfl rfl rfl Try.sizeOf62 rfl rfl rfl rfl trivial ?_
    intro a w hs hw
    refine wpList_nil ?_
    refine then_normal ?_
    refine wp_seq ?_
    obtain ⟨Sv85, hw⟩ := w_share (α := Int) hw 2 rfl 1 rfl (.inl rfl)
    obtain ⟨l91, h86, hsh⟩ := bind_t hsh
    obtain ⟨p89, k90, h87, h88⟩ := sub_env (hw.envAt 0 rfl) h86
    have hw := hw.addE h87
    refine wp_only (fun a w => ∃ (Sv92 : Nat → Prop) (k90 : Nat) (p89 : Option Addr), Sl 174 [(6, .pointer (some ⟨b52, 0, none⟩)), (7, .pointer (some ⟨b81, 0, none⟩)), (8, .int .i64 rem83), (9, .pointer (some ⟨b84, 0, none⟩))] a ∧ Wd ⟨w0, S0, []⟩ Sv92 [.box b52 [.slice p39 rv38.1.Taps.length k40, .int .i64 rv38.1.Factor, .int .i64 rv38.1.Shift] 28, .box b81 [.int .i64 1000000000000, .int .i64 0, .int .i64 rv56.1, .int .i64 1, .int .i64 0, .slice p68 rv67.1.length k69] 62, .box b84 [.int .i64 1000000000000, .int .i64 rem83, .int .i64 rv56.1, .int .i64 1, .int .i64 0, .slice p89 l91.length k90] 62, .row p39 rv38.1.Taps.length k40 c41 3 1] [SlA p68 rv67.1.length k69 rv67.1, SlA p89 l91.length k90 l91, RowA c41 rv38.1.Taps] w) ?_ ?_
    · refine h_begin (C := Cls [.box b81 [.int .i64 1000000000000, .int .i64 0, .int .i64 rv56.1, .int .i64 1, .int .i64 0, .slice p68 rv67.1.length k69] 62, .box b52 [.slice p39 rv38.1.Taps.length k40, .int .i64 rv38.1.Factor, .int .i64 rv38.1.Shift] 28, .row p39 rv38.1.Taps.length k40 c41 3 1, .box b28 [.slice p74 rv67.2.L.length k75, .int .i64 rv67.2.At] 75] []) (by kernel_rfl) rfl ?_
      have hw := hw.drew
      have hC : Cls [.box b81 [.int .i64 1000000000000, .int .i64 0, .int .i64 rv56.1, .int .i64 1, .int .i64 0, .slice p68 rv67.1.length k69] 62, .box b52 [.slice p39 rv38.1.Taps.length k40, .int .i64 rv38.1.Factor, .int .i64 rv38.1.Shift] 28, .row p39 rv38.1.Taps.length k40 c41 3 1, .box b28 [.slice p74 rv67.2.L.length k75, .int .i64 rv67.2.At] 75] [] _ := hw.cs [1, 2, 3, 4] [] rfl rfl
      refine h_get hs (i := 0) rfl (by kernel_rfl) rfl rfl hC rfl (fun w hC => y_move rfl) fun a hs => ?_
      refine h_get hs (i := 1) rfl (by kernel_rfl) rfl rfl hC rfl (fun w hC => y_fieldAddr (o' := 5) Try.runUnderlying62 rfl Try.sizeOf22 rfl rfl rfl) fun a hs => ?_
      refine h_get hs (i := 2) rfl (by kernel_rfl) rfl rfl hC rfl (fun w hC => y_loadB1 (hC.ownAt 0 rfl) rfl Try.isAgg22 rfl) fun a hs => ?_
      refine h_get hs (i := 3) rfl (by kernel_rfl) rfl rfl hC rfl (fun w hC => y_move rfl) fun a hs => ?_
      refine h_get hs (i := 4) rfl (by kernel_rfl) rfl rfl hC rfl (fun w hC => y_slc Try.runUnderlying22 Try.sizeOf3 rfl ⟨_, rfl⟩ (by exact rfl) h88) fun a hs => ?_
      refine h_get hs (i := 5) rfl (by kernel_rfl) rfl rfl hC rfl (fun w hC => y_fieldAddr (o' := 1) Try.runUnderlying62 rfl Try.sizeOf3 rfl rfl rfl) fun a hs => ?_
      refine h_all (rs := [6]) (by kernel_rfl) rfl ?_
      refine AllH.cons rfl ?_ ?_
      · refine w_store (m := 1) (cs' := [.int .i64 1000000000000, .int .i64 rem83, .int .i64 rv56.1, .int .i64 1, .int .i64 0, .slice p68 rv67.1.length k69]) hs hw 0 rfl rfl rfl Try.sizeOf3 rfl rfl rfl rfl trivial ?_
        intro a w hs hw
        refine wpList_nil ?_
        refine then_normal ?_
        have hC : Cls [.box b81 [.int .i64 1000000000000, .int .i64 0, .int .i64 rv56.1, .int .i64 1, .int .i64 0, .slice p68 rv67.1.length k69] 62, .box b52 [.slice p39 rv38.1.Taps.length k40, .int .i64 rv38.1.Factor, .int .i64 rv38.1.Shift] 28, .row p39 rv38.1.Taps.length k40 c41 3 1, .box b28 [.slice p74 rv67.2.L.length k75, .int .i64 rv67.2.At] 75] [] _ := hw.cs [1, 2, 3, 4] [] rfl rfl
        refine ⟨hC, ?_⟩
        refine h_get hs (i := 7) rfl (by kernel_rfl) rfl rfl hC rfl (fun w hC => y_fieldAddr (o' := 5) Try.runUnderlying62 rfl Try.sizeOf22 rfl rfl rfl) fun a hs => ?_
        refine h_all (rs := [8]) (by kernel_rfl) rfl ?_
        refine AllH.cons rfl ?_ ?_
        · refine w_store (m := 1) (cs' := [.int .i64 1000000000000, .int .i64 rem83, .int .i64 rv56.1, .int .i64 1, .int .i64 0, .slice p89 l91.length k90]) hs hw 0 rfl rfl rfl Try.sizeOf22 rfl rfl rfl rfl trivial ?_
          intro a w hs hw
          refine wpList_nil ?_
          refine then_normal ?_
          have hC : Cls [.box b81 [.int .i64 1000000000000, .int .i64 0, .int .i64 rv56.1, .int .i64 1, .int .i64 0, .slice p68 rv67.1.length k69] 62, .box b52 [.slice p39 rv38.1.Taps.length k40, .int .i64 rv38.1.Factor, .int .i64 rv38.1.Shift] 28, .row p39 rv38.1.Taps.length k40 c41 3 1, .box b28 [.slice p74 rv67.2.L.length k75, .int .i64 rv67.2.At] 75] [] _ := hw.cs [1, 2, 3, 4] [] rfl rfl
          refine ⟨hC, ?_⟩
          refine h_done (by kernel_rfl) ?_
          exact ⟨Sv85, k90, p89, (hs.wk rfl), (hw.ft [2, 1, 0, 3] [1, 0, 8] (by decide) rfl rfl)⟩
        exact AllH.nil
      exact AllH.nil
    · rintro a w ⟨Sv92, k90, p89, hs, hw⟩
      refine then_normal ?_
      refine wp_seq ?_
      refine wp_region_lit ?_
      refine st_val hs (y_loadBA (hw.ownAt 0 rfl) rfl Try.isAgg28 Try.sizeOf28 rfl rfl) trivial rfl rfl fun a hs => ?_
      refine st_val hs (y_loadBA (hw.ownAt 1 rfl) rfl Try.isAgg62 Try.sizeOf62 rfl rfl) trivial rfl rfl fun a hs => ?_
      obtain ⟨rv94, h93, hsh⟩ := bind_t hsh
      obtain ⟨Sv100, hw⟩ := w_share (α := Int) hw 3 rfl 2 rfl (.inl rfl)
      refine st_callR hs (filter_Segment_ok h93 hw.dom (hw.envAt 0 rfl) (hw.envAt 1 rfl)) (do_call Try.call29 rfl) trivial rfl rfl ?_
      intro v104 Sv101 w a h102 h103 hs
      obtain ⟨p95, k96, c97, rfl, h98, h99⟩ := h103
      have hw := hw.callF h102 h98
      have hw := hw.addE (e := RowA c97 rv94.1.Samples) h99
      refine st_val hs (y_move rfl) trivial rfl rfl fun a hs => ?_
      refine st_val hs (y_extract rfl rfl) trivial rfl rfl fun a hs => ?_
      refine st_val hs (y_extract rfl rfl) trivial rfl rfl fun a hs => ?_
      refine st_val hs (y_extract rfl rfl) trivial rfl rfl fun a hs => ?_
      refine w_alloc (cs := [.int .i64 0, .int .i64 0, .int .i64 0, .int .i64 0, .int .i64 0, .slice none ([] : List Int).length 0]) hs hw Try.zeroValue62 rfl rfl trivial ?_
      intro b105 a w hs hw
      refine w_store (m := 6) (cs' := [.int .i64 rv94.1.Start, .int .i64 rv94.1.First, .int .i64 rv94.1.Rate.Num, .int .i64 rv94.1.Rate.Den, .int .i64 rv94.1.Error, .slice p95 rv94.1.Samples.length k96]) hs hw 0 rfl rfl rfl Try.sizeOf62 rfl rfl rfl rfl trivial ?_
      intro a w hs hw
      refine st_val hs (y_assign rfl) trivial rfl rfl fun a hs => ?_
      refine st_val hs (y_assign rfl) trivial rfl rfl fun a hs => ?_
      refine wpList_nil ?_
      refine then_normal ?_
      refine wp_seq ?_
      refine wp_region_lit ?_
      refine st_val hs (y_loadBA (hw.ownAt 2 rfl) rfl Try.isAgg28 Try.sizeOf28 rfl rfl) trivial rfl rfl fun a hs => ?_
      refine st_val hs (y_loadBA (hw.ownAt 4 rfl) rfl Try.isAgg62 Try.sizeOf62 rfl rfl) trivial rfl rfl fun a hs => ?_
      obtain ⟨rv107, h106, hsh⟩ := bind_t hsh
      refine st_callR hs (filter_Segment_ok h106 hw.dom (hw.envAt 1 rfl) (hw.envAt 3 rfl)) (do_call Try.call29 rfl) trivial rfl rfl ?_
      intro v116 Sv113 w a h114 h115 hs
      obtain ⟨p108, k109, c110, rfl, h111, h112⟩ := h115
      have hw := hw.callF h114 h111
      have hw := hw.addE (e := RowA c110 rv107.1.Samples) h112
      refine st_val hs (y_move rfl) trivial rfl rfl fun a hs => ?_
      refine st_val hs (y_extract rfl rfl) trivial rfl rfl fun a hs => ?_
      refine st_val hs (y_extract rfl rfl) trivial rfl rfl fun a hs => ?_
      refine st_val hs (y_extract rfl rfl) trivial rfl rfl fun a hs => ?_
      refine w_alloc (cs := [.int .i64 0, .int .i64 0, .int .i64 0, .int .i64 0, .int .i64 0, .slice none ([] : List Int).length 0]) hs hw Try.zeroValue62 rfl rfl trivial ?_
      intro b117 a w hs hw
      refine w_store (m := 6) (cs' := [.int .i64 rv107.1.Start, .int .i64 rv107.1.First, .int .i64 rv107.1.Rate.Num, .int .i64 rv107.1.Rate.Den, .int .i64 rv107.1.Error, .slice p108 rv107.1.Samples.length k109]) hs hw 0 rfl rfl rfl Try.sizeOf62 rfl rfl rfl rfl trivial ?_
      intro a w hs hw
      refine st_val hs (y_assign rfl) trivial rfl rfl fun a hs => ?_
      refine st_val hs (y_assign rfl) trivial rfl rfl fun a hs => ?_
      refine wpList_nil ?_
      refine then_normal ?_
      refine wp_seq ?_
      refine wp_seq ?_
      refine wp_region_lit ?_
      refine st_val hs (y_move rfl) trivial rfl rfl fun a hs => ?_
      refine st_val hs (y_neq rfl rfl) trivial rfl rfl fun a hs => ?_
      refine st_val hs (y_move rfl) trivial rfl rfl fun a hs => ?_
      refine wpl_join 3 (fun a w1 => w = w1 ∧ Sl 174 [(6, .pointer (some ⟨b52, 0, none⟩)), (7, .pointer (some ⟨b81, 0, none⟩)), (8, .int .i64 rem83), (9, .pointer (some ⟨b84, 0, none⟩)), (10, .pointer (some ⟨b105, 0, none⟩)), (11, .bool rv94.2.1), (13, .pointer (some ⟨b117, 0, none⟩)), (14, .bool rv107.2.1), (72, .bool ((rv94.2.2 != 0) || (rv107.2.2 != 0)))] a) ?_ ?_
      · rcases Bool.eq_false_or_eq_true (rv94.2.2 != 0) with h118 | h118
        · have hs := hs.fix 69 (.bool true) rfl (vb h118)
          refine st_skip hs rfl rfl rfl rfl rfl fun a hs => ?_
          refine st_skip hs rfl rfl rfl rfl rfl fun a hs => ?_
          refine st_val hs (y_pickT rfl rfl) trivial rfl rfl fun a hs => ?_
          refine wpList_nil ?_
          refine then_normal ?_
          exact ⟨rfl, (hs.fix 72 (.bool ((rv94.2.2 != 0) || (rv107.2.2 != 0))) rfl (or_t h118)).weaken _ ⟨rfl, rfl, rfl, rfl, rfl, rfl, rfl, rfl, rfl, trivial⟩⟩
        · have hs := hs.fix 69 (.bool false) rfl (vb h118)
          refine st_val hs (y_move rfl) ⟨_, rfl, rfl⟩ rfl rfl fun a hs => ?_
          refine st_val hs (y_neq rfl rfl) ⟨_, rfl, rfl⟩ rfl rfl fun a hs => ?_
          refine st_val hs (y_pickF rfl rfl) trivial rfl rfl fun a hs => ?_
          refine wpList_nil ?_
          refine then_normal ?_
          exact ⟨rfl, (hs.fix 72 (.bool ((rv94.2.2 != 0) || (rv107.2.2 != 0))) rfl (or_f h118)).weaken _ ⟨rfl, rfl, rfl, rfl, rfl, rfl, rfl, rfl, rfl, trivial⟩⟩
      · rintro a w1 ⟨h732, hs⟩
        subst h732
        refine wpList_nil ?_
        refine then_normal ?_
        refine wp_cond_split (hs.ev rfl) (fun h120 => ?_) (fun h120 => ?_)
        · have hsh := ite_t hsh h120
          refine wp_seq ?_
          refine wp_region_lit ?_
          refine st_val hs (y_assign rfl) trivial rfl rfl fun a hs => ?_
          refine wpList_nil ?_
          refine then_normal ?_
          have hsh := Option.some.inj hsh
          subst hsh
          refine wp_ret ?_
          refine then_ret ?_
          exact ret1 hs rfl (rv_tmp rfl) (hw.ret rfl)
        · have hsh := ite_f hsh h120
          refine wp_skip ?_
          refine then_normal ?_
          refine wp_seq ?_
          refine wp_seq ?_
          refine wp_region_lit ?_
          refine st_val hs (y_move rfl) trivial rfl rfl fun a hs => ?_
          refine st_val hs (y_not rfl) trivial rfl rfl fun a hs => ?_
          refine wpList_nil ?_
          refine then_normal ?_
          refine wp_cond_split (hs.ev rfl) (fun h137 => ?_) (fun h137 => ?_)
          · have hsh := ite_t hsh h137
            refine wp_seq ?_
            refine wp_region_lit ?_
            refine st_val hs (y_fieldAddr (o' := 5) Try.runUnderlying62 rfl Try.sizeOf22 rfl rfl rfl) trivial rfl rfl fun a hs => ?_
            refine st_val hs (y_loadB1 (hw.ownAt 6 rfl) rfl Try.isAgg22 rfl) trivial rfl rfl fun a hs => ?_
            refine st_val hs (y_len Try.runUnderlying22 rfl) trivial rfl rfl fun a hs => ?_
            refine st_val hs (y_fieldAddr (o' := 0) Try.runUnderlying28 rfl Try.sizeOf22 rfl rfl rfl) trivial rfl rfl fun a hs => ?_
            refine st_val hs (y_loadB1 (hw.ownAt 4 rfl) rfl Try.isAgg22 rfl) trivial rfl rfl fun a hs => ?_
            refine st_val hs (y_len Try.runUnderlying22 rfl) trivial rfl rfl fun a hs => ?_
            refine st_val hs (y_fieldAddr (o' := 1) Try.runUnderlying28 rfl Try.sizeOf3 rfl rfl rfl) trivial rfl rfl fun a hs => ?_
            refine st_val hs (y_loadB1 (hw.ownAt 4 rfl) rfl Try.isAgg3 rfl) trivial rfl rfl fun a hs => ?_
            refine st_val hs (y_add rfl rfl) trivial rfl rfl fun a hs => ?_
            refine st_val hs (y_lss rfl rfl) trivial rfl rfl fun a hs => ?_
            refine st_val hs (y_move rfl) trivial rfl rfl fun a hs => ?_
            obtain ⟨c145, hc145, hsh⟩ := bind_t hsh
            refine wpl_join 2 (fun a w => ∃ (Sv146 : Nat → Prop), Sl 174 [(87, .bool c145)] a ∧ Wd ⟨w0, S0, []⟩ Sv146 [] [] w) ?_ ?_
            · rcases Bool.eq_false_or_eq_true (decide ((l91.length : Int) < (w64 ((rv38.1.Taps.length : Int) + rv38.1.Factor)))) with h144 | h144
              · have hs := hs.fix 85 (.bool true) rfl (vb h144)
                have hsh := ite_t hc145 h144
                obtain ⟨rv148, h147, hsh⟩ := bind_t hsh
                refine st_callR hs (law21_sane_ok h147 hw.dom) (do_call Try.call11 rfl) ⟨_, rfl, rfl⟩ rfl rfl ?_
                intro v152 Sv149 w a h150 h151 hs
                subst h151
                have hw := hw.call h150
                refine st_val hs (y_pickT rfl rfl) trivial rfl rfl fun a hs => ?_
                refine wpList_nil ?_
                have hsh := Option.some.inj hsh
                subst hsh
                refine then_normal ?_
                exact ⟨Sv149, (hs.wk rfl), (hw.ft [] [] (by decide) rfl rfl)⟩
              · have hs := hs.fix 85 (.bool false) rfl (vb h144)
                have hsh := ite_f hc145 h144
                refine st_skip hs rfl rfl rfl rfl rfl fun a hs => ?_
                refine st_val hs (y_pickF rfl rfl) trivial rfl rfl fun a hs => ?_
                refine wpList_nil ?_
                have hsh := Option.some.inj hsh
                subst hsh
                refine then_normal ?_
                exact ⟨Sv113, (hs.wk rfl), (hw.ft [] [] (by decide) rfl rfl)⟩
            · rintro a w ⟨Sv146, hs, hw⟩
              refine st_val hs (y_assign rfl) trivial rfl rfl fun a hs => ?_
              refine wpList_nil ?_
              refine then_normal ?_
              have hsh := Option.some.inj hsh
              subst hsh
              refine wp_ret ?_
              refine then_ret ?_
              exact ret1 hs rfl (rv_tmp rfl) (hw.ret rfl)
          · have hsh := ite_f hsh h137
            refine wp_skip ?_
            refine then_normal ?_
            refine wp_seq ?_
            refine wp_region_lit ?_
            refine st_val hs (y_fieldAddr (o' := 5) Try.runUnderlying62 rfl Try.sizeOf22 rfl rfl rfl) trivial rfl rfl fun a hs => ?_
            refine st_val hs (y_loadB1 (hw.ownAt 2 rfl) rfl Try.isAgg22 rfl) trivial rfl rfl fun a hs => ?_
            refine st_val hs (y_len Try.runUnderlying22 rfl) trivial rfl rfl fun a hs => ?_
            refine st_val hs (y_fieldAddr (o' := 5) Try.runUnderlying62 rfl Try.sizeOf22 rfl rfl rfl) trivial rfl rfl fun a hs => ?_
            refine st_val hs (y_loadB1 (hw.ownAt 0 rfl) rfl Try.isAgg22 rfl) trivial rfl rfl fun a hs => ?_
            refine st_val hs (y_len Try.runUnderlying22 rfl) trivial rfl rfl fun a hs => ?_
            refine st_val hs (y_sub rfl rfl) trivial rfl rfl fun a hs => ?_
            obtain ⟨off154, h153, hsh⟩ := bind_t hsh
            refine st_val hs (y_assignI rfl h153) trivial rfl rfl fun a hs => ?_
            refine wpList_nil ?_
            refine then_normal ?_
            refine wp_seq ?_
            refine wp_seq ?_
            refine wp_region_lit ?_
            refine st_val hs (y_move rfl) trivial rfl rfl fun a hs => ?_
            refine st_val hs (y_not rfl) trivial rfl rfl fun a hs => ?_
            refine st_val hs (y_move rfl) trivial rfl rfl fun a hs => ?_
            refine wpl_join 3 (fun a w1 => w = w1 ∧ Sl 174 [(6, .pointer (some ⟨b52, 0, none⟩)), (7, .pointer (some ⟨b81, 0, none⟩)), (8, .int .i64 rem83), (10, .pointer (some ⟨b105, 0, none⟩)), (13, .pointer (some ⟨b117, 0, none⟩)), (16, .int .i64 off154), (100, .bool ((!rv94.2.1) || (decide (off154 < 0))))] a) ?_ ?_
            · rcases Bool.eq_false_or_eq_true (!rv94.2.1) with h155 | h155
              · have hs := hs.fix 97 (.bool true) rfl (vb h155)
                refine st_skip hs rfl rfl rfl rfl rfl fun a hs => ?_
                refine st_skip hs rfl rfl rfl rfl rfl fun a hs => ?_
                refine st_val hs (y_pickT rfl rfl) trivial rfl rfl fun a hs => ?_
                refine wpList_nil ?_
                refine then_normal ?_
                exact ⟨rfl, (hs.fix 100 (.bool ((!rv94.2.1) || (decide (off154 < 0)))) rfl (or_t h155)).weaken _ ⟨rfl, rfl, rfl, rfl, rfl, rfl, rfl, trivial⟩⟩
              · have hs := hs.fix 97 (.bool false) rfl (vb h155)
                refine st_val hs (y_move rfl) ⟨_, rfl, rfl⟩ rfl rfl fun a hs => ?_
                refine st_val hs (y_lss rfl rfl) ⟨_, rfl, rfl⟩ rfl rfl fun a hs => ?_
                refine st_val hs (y_pickF rfl rfl) trivial rfl rfl fun a hs => ?_
                refine wpList_nil ?_
                refine then_normal ?_
                exact ⟨rfl, (hs.fix 100 (.bool ((!rv94.2.1) || (decide (off154 < 0)))) rfl (or_f h155)).weaken _ ⟨rfl, rfl, rfl, rfl, rfl, rfl, rfl, trivial⟩⟩
            · rintro a w1 ⟨h731, hs⟩
              subst h731
              refine st_val hs (y_move rfl) trivial rfl rfl fun a hs => ?_
              refine wpl_join 6 (fun a w1 => w = w1 ∧ Sl 174 [(6, .pointer (some ⟨b52, 0, none⟩)), (7, .pointer (some ⟨b81, 0, none⟩)), (8, .int .i64 rem83), (10, .pointer (some ⟨b105, 0, none⟩)), (13, .pointer (some ⟨b117, 0, none⟩)), (16, .int .i64 off154), (107, .bool (((!rv94.2.1) || (decide (off154 < 0))) || (!((rv94.1.Rate.Num == rv107.1.Rate.Num) && ((rv94.1.Rate.Den == rv107.1.Rate.Den) && true)))))] a) ?_ ?_
              · rcases Bool.eq_false_or_eq_true ((!rv94.2.1) || (decide (off154 < 0))) with h156 | h156
                · have hs := hs.fix 101 (.bool true) rfl (vb h156)
                  refine st_skip hs rfl rfl rfl rfl rfl fun a hs => ?_
                  refine st_skip hs rfl rfl rfl rfl rfl fun a hs => ?_
                  refine st_skip hs rfl rfl rfl rfl rfl fun a hs => ?_
                  refine st_skip hs rfl rfl rfl rfl rfl fun a hs => ?_
                  refine st_skip hs rfl rfl rfl rfl rfl fun a hs => ?_
                  refine st_val hs (y_pickT rfl rfl) trivial rfl rfl fun a hs => ?_
                  refine wpList_nil ?_
                  refine then_normal ?_
                  exact ⟨rfl, (hs.fix 107 (.bool (((!rv94.2.1) || (decide (off154 < 0))) || (!((rv94.1.Rate.Num == rv107.1.Rate.Num) && ((rv94.1.Rate.Den == rv107.1.Rate.Den) && true))))) rfl (or_t h156)).weaken _ ⟨rfl, rfl, rfl, rfl, rfl, rfl, rfl, trivial⟩⟩
                · have hs := hs.fix 101 (.bool false) rfl (vb h156)
                  refine st_val hs (y_fieldAddr (o' := 2) Try.runUnderlying62 rfl Try.sizeOf60 rfl rfl rfl) ⟨_, rfl, rfl⟩ rfl rfl fun a hs => ?_
                  refine st_val hs (y_loadBA (hw.ownAt 2 rfl) rfl Try.isAgg60 Try.sizeOf60 rfl rfl) ⟨_, rfl, rfl⟩ rfl rfl fun a hs => ?_
                  refine st_val hs (y_fieldAddr (o' := 2) Try.runUnderlying62 rfl Try.sizeOf60 rfl rfl rfl) ⟨_, rfl, rfl⟩ rfl rfl fun a hs => ?_
                  refine st_val hs (y_loadBA (hw.ownAt 0 rfl) rfl Try.isAgg60 Try.sizeOf60 rfl rfl) ⟨_, rfl, rfl⟩ rfl rfl fun a hs => ?_
                  refine st_val hs (y_neqA (by kernel_rfl) rfl rfl (eqv_struct Try.runUnderlying60 (by kernel_rfl) (EqF.cons1 rfl Try.isAgg3 rfl rfl (eqv_int Try.runUnderlying3) (EqF.cons1 rfl Try.isAgg3 rfl rfl (eqv_int Try.runUnderlying3) EqF.nil)))) ⟨_, rfl, rfl⟩ rfl rfl fun a hs => ?_
                  refine st_val hs (y_pickF rfl rfl) trivial rfl rfl fun a hs => ?_
                  refine wpList_nil ?_
                  refine then_normal ?_
                  exact ⟨rfl, (hs.fix 107 (.bool (((!rv94.2.1) || (decide (off154 < 0))) || (!((rv94.1.Rate.Num == rv107.1.Rate.Num) && ((rv94.1.Rate.Den == rv107.1.Rate.Den) && true))))) rfl (or_f h156)).weaken _ ⟨rfl, rfl, rfl, rfl, rfl, rfl, rfl, trivial⟩⟩
              · rintro a w1 ⟨h730, hs⟩
                subst h730
                refine wpList_nil ?_
                refine then_normal ?_
                refine wp_cond_split (hs.ev rfl) (fun h158 => ?_) (fun h158 => ?_)
                · have hsh := ite_t hsh h158
                  refine wp_seq ?_
                  refine wp_region_lit ?_
                  refine st_val hs (y_assign rfl) trivial rfl rfl fun a hs => ?_
                  refine wpList_nil ?_
                  refine then_normal ?_
                  have hsh := Option.some.inj hsh
                  subst hsh
                  refine wp_ret ?_
                  refine then_ret ?_
                  exact ret1 hs rfl (rv_tmp rfl) (hw.ret rfl)
                · have hsh := ite_f hsh h158
                  refine wp_skip ?_
                  refine then_normal ?_
                  refine wp_seq ?_
                  refine wp_seq ?_
                  refine wp_region_lit ?_
                  refine st_val hs (y_fieldAddr (o' := 5) Try.runUnderlying62 rfl Try.sizeOf22 rfl rfl rfl) trivial rfl rfl fun a hs => ?_
                  refine st_val hs (y_loadB1 (hw.ownAt 0 rfl) rfl Try.isAgg22 rfl) trivial rfl rfl fun a hs => ?_
                  refine st_val hs (y_len Try.runUnderlying22 rfl) trivial rfl rfl fun a hs => ?_
                  refine st_val hs (y_move rfl) trivial rfl rfl fun a hs => ?_
                  refine wpList_nil ?_
                  refine then_normal ?_
                  refine wp_block ?_
                  refine wp_while (fun sv392 a w => ∃ (Sv546 : Nat → Prop), Sl 174 [(6, .pointer (some ⟨b52, 0, none⟩)), (7, .pointer (some ⟨b81, 0, none⟩)), (8, .int .i64 rem83), (10, .pointer (some ⟨b105, 0, none⟩)), (13, .pointer (some ⟨b117, 0, none⟩)), (16, .int .i64 off154), (110, .int .i64 (rv107.1.Samples.length : Int)), (111, .int .i64 sv392)] a ∧ Wd ⟨w0, S0, []⟩ Sv546 [.box b52 [.slice p39 rv38.1.Taps.length k40, .int .i64 rv38.1.Factor, .int .i64 rv38.1.Shift] 28, .box b81 [.int .i64 1000000000000, .int .i64 0, .int .i64 rv56.1, .int .i64 1, .int .i64 0, .slice p68 rv67.1.length k69] 62, .box b105 [.int .i64 rv94.1.Start, .int .i64 rv94.1.First, .int .i64 rv94.1.Rate.Num, .int .i64 rv94.1.Rate.Den, .int .i64 rv94.1.Error, .slice p95 rv94.1.Samples.length k96] 62, .box b117 [.int .i64 rv107.1.Start, .int .i64 rv107.1.First, .int .i64 rv107.1.Rate.Num, .int .i64 rv107.1.Rate.Den, .int .i64 rv107.1.Error, .slice p108 rv107.1.Samples.length k109] 62, .row p95 rv94.1.Samples.length k96 c97 3 1, .row p108 rv107.1.Samples.length k109 c110 3 1] [SlA p39 rv38.1.Taps.length k40 rv38.1.Taps, SlA p68 rv67.1.length k69 rv67.1, RowA c97 rv94.1.Samples, RowA c110 rv107.1.Samples] w) 0 hsh ⟨Sv113, (hs.wk rfl), (hw.ft [4, 5, 2, 0, 3, 1] [2, 3, 1, 0] (by decide) rfl rfl)⟩ ?_
                  repeat clear hsh
                  rintro sv392 a w tv624 ⟨Sv546, hs, hw⟩ hsh hd623
                  delta law21_FilterLate_l2 at hsh
                  refine wp_seq ?_
                  refine wp_region_lit ?_
                  refine st_val hs (y_lss rfl rfl) trivial rfl rfl fun a hs => ?_
                  refine wpList_nil ?_
                  refine then_normal ?_
                  refine wp_seq ?_
                  refine wp_cond_split (hs.ev rfl) (fun h628 => ?_) (fun h628 => ?_)
                  · have hsh := ite_t hsh h628
                    refine wp_skip ?_
                    refine then_normal ?_
                    refine wp_seq ?_
                    refine wp_block ?_
                    refine wp_seq ?_
                    refine wp_region_lit ?_
                    refine st_val hs (y_move rfl) trivial rfl rfl fun a hs => ?_
                    refine st_val hs (y_assign rfl) trivial rfl rfl fun a hs => ?_
                    refine wpList_nil ?_
                    refine then_normal ?_
                    refine wp_seq ?_
                    refine wp_region_lit ?_
                    refine st_val hs (y_fieldAddr (o' := 0) Try.runUnderlying62 rfl Try.sizeOf3 rfl rfl rfl) trivial rfl rfl fun a hs => ?_
                    refine st_val hs (y_loadB1 (hw.ownAt 2 rfl) rfl Try.isAgg3 rfl) trivial rfl rfl fun a hs => ?_
                    refine st_val hs (y_fieldAddr (o' := 2) Try.runUnderlying62 rfl Try.sizeOf60 rfl rfl rfl) trivial rfl rfl fun a hs => ?_
                    refine st_val hs (y_loadBA (hw.ownAt 2 rfl) rfl Try.isAgg60 Try.sizeOf60 rfl rfl) trivial rfl rfl fun a hs => ?_
                    refine st_val hs (y_move rfl) trivial rfl rfl fun a hs => ?_
                    refine st_val hs (y_move rfl) trivial rfl rfl fun a hs => ?_
                    refine st_val hs (y_add rfl rfl) trivial rfl rfl fun a hs => ?_
                    obtain ⟨rv667, h666, hsh⟩ := bind_t hsh
                    refine st_callR hs (ref02_Time_ok h666 hw.dom) (do_call Try.call30 rfl) trivial rfl rfl ?_
                    intro v671 Sv668 w a h669 h670 hs
                    subst h670
                    have hw := hw.call h669
                    refine st_val hs (y_move rfl) trivial rfl rfl fun a hs => ?_
                    refine st_val hs (y_extract rfl rfl) trivial rfl rfl fun a hs => ?_
                    refine st_val hs (y_extract rfl rfl) trivial rfl rfl fun a hs => ?_
                    refine st_val hs (y_assign rfl) trivial rfl rfl fun a hs => ?_
                    refine st_val hs (y_assign rfl) trivial rfl rfl fun a hs => ?_
                    refine wpList_nil ?_
                    refine then_normal ?_
                    refine wp_seq ?_
                    refine wp_region_lit ?_
                    refine st_val hs (y_fieldAddr (o' := 0) Try.runUnderlying62 rfl Try.sizeOf3 rfl rfl rfl) trivial rfl rfl fun a hs => ?_
                    refine st_val hs (y_loadB1 (hw.ownAt 3 rfl) rfl Try.isAgg3 rfl) trivial rfl rfl fun a hs => ?_
                    refine st_val hs (y_fieldAddr (o' := 2) Try.runUnderlying62 rfl Try.sizeOf60 rfl rfl rfl) trivial rfl rfl fun a hs => ?_
                    refine st_val hs (y_loadBA (hw.ownAt 3 rfl) rfl Try.isAgg60 Try.sizeOf60 rfl rfl) trivial rfl rfl fun a hs => ?_
                    refine st_val hs (y_move rfl) trivial rfl rfl fun a hs => ?_
                    obtain ⟨rv673, h672, hsh⟩ := bind_t hsh
                    refine st_callR hs (ref02_Time_ok h672 hw.dom) (do_call Try.call30 rfl) trivial rfl rfl ?_
                    intro v677 Sv674 w a h675 h676 hs
                    subst h676
                    have hw := hw.call h675
                    refine st_val hs (y_move rfl) trivial rfl rfl fun a hs => ?_
                    refine st_val hs (y_extract rfl rfl) trivial rfl rfl fun a hs => ?_
                    refine st_val hs (y_extract rfl rfl) trivial rfl rfl fun a hs => ?_
                    refine st_val hs (y_assign rfl) trivial rfl rfl fun a hs => ?_
                    refine st_val hs (y_assign rfl) trivial rfl rfl fun a hs => ?_
                    refine wpList_nil ?_
                    refine then_normal ?_
                    refine wp_seq ?_
                    obtain ⟨x680, h678, hsh⟩ := bind_t hsh
                    obtain ⟨b687, q684, c685, h688, h681, h682, h686, h679⟩ := hw.elemRV (α := Int) 4 rfl 2 rfl h678
                    subst h688
                    obtain ⟨_, rfl, rfl⟩ := h679
                    obtain ⟨x691, h689, hsh⟩ := bind_t hsh
                    obtain ⟨b698, q695, c696, h699, h692, h693, h697, h690⟩ := hw.elemRV (α := Int) 5 rfl 3 rfl h689
                    subst h699
                    obtain ⟨_, rfl, rfl⟩ := h690
                    refine wp_only (fun a w => ∃ (Sv700 : Nat → Prop), Sl 174 [(6, .pointer (some ⟨b52, 0, none⟩)), (7, .pointer (some ⟨b81, 0, none⟩)), (8, .int .i64 rem83), (10, .pointer (some ⟨b105, 0, none⟩)), (13, .pointer (some ⟨b117, 0, none⟩)), (16, .int .i64 off154), (110, .int .i64 (rv107.1.Samples.length : Int)), (111, .int .i64 sv392), (151, .bool ((x680 != x691) || (rv667.1 != rv673.1)))] a ∧ Wd ⟨w0, S0, []⟩ Sv700 [.box b52 [.slice p39 rv38.1.Taps.length k40, .int .i64 rv38.1.Factor, .int .i64 rv38.1.Shift] 28, .box b81 [.int .i64 1000000000000, .int .i64 0, .int .i64 rv56.1, .int .i64 1, .int .i64 0, .slice p68 rv67.1.length k69] 62, .box b105 [.int .i64 rv94.1.Start, .int .i64 rv94.1.First, .int .i64 rv94.1.Rate.Num, .int .i64 rv94.1.Rate.Den, .int .i64 rv94.1.Error, .slice (some ⟨b687, 0, none⟩) rv94.1.Samples.length k96] 62, .box b117 [.int .i64 rv107.1.Start, .int .i64 rv107.1.First, .int .i64 rv107.1.Rate.Num, .int .i64 rv107.1.Rate.Den, .int .i64 rv107.1.Error, .slice (some ⟨b698, 0, none⟩) rv107.1.Samples.length k109] 62, .row (some ⟨b687, 0, none⟩) rv94.1.Samples.length k96 c97 3 1, .row (some ⟨b698, 0, none⟩) rv107.1.Samples.length k109 c110 3 1] [SlA p39 rv38.1.Taps.length k40 rv38.1.Taps, SlA p68 rv67.1.length k69 rv67.1, RowA c97 rv94.1.Samples, RowA c110 rv107.1.Samples] w) ?_ ?_
                    · rcases Bool.eq_false_or_eq_true (x680 != x691) with h701 | h701
                      · refine h_begin (C := Cls [.box b52 [.slice p39 rv38.1.Taps.length k40, .int .i64 rv38.1.Factor, .int .i64 rv38.1.Shift] 28, .box b81 [.int .i64 1000000000000, .int .i64 0, .int .i64 rv56.1, .int .i64 1, .int .i64 0, .slice p68 rv67.1.length k69] 62, .box b105 [.int .i64 rv94.1.Start, .int .i64 rv94.1.First, .int .i64 rv94.1.Rate.Num, .int .i64 rv94.1.Rate.Den, .int .i64 rv94.1.Error, .slice (some ⟨b687, 0, none⟩) rv94.1.Samples.length k96] 62, .box b117 [.int .i64 rv107.1.Start, .int .i64 rv107.1.First, .int .i64 rv107.1.Rate.Num, .int .i64 rv107.1.Rate.Den, .int .i64 rv107.1.Error, .slice (some ⟨b698, 0, none⟩) rv107.1.Samples.length k109] 62, .row (some ⟨b687, 0, none⟩) rv94.1.Samples.length k96 c97 3 1, .row (some ⟨b698, 0, none⟩) rv107.1.Samples.length k109 c110 3 1] []) (by kernel_rfl) rfl ?_
                        have hw := hw.drew
                        have hC : Cls [.box b52 [.slice p39 rv38.1.Taps.length k40, .int .i64 rv38.1.Factor, .int .i64 rv38.1.Shift] 28, .box b81 [.int .i64 1000000000000, .int .i64 0, .int .i64 rv56.1, .int .i64 1, .int .i64 0, .slice p68 rv67.1.length k69] 62, .box b105 [.int .i64 rv94.1.Start, .int .i64 rv94.1.First, .int .i64 rv94.1.Rate.Num, .int .i64 rv94.1.Rate.Den, .int .i64 rv94.1.Error, .slice (some ⟨b687, 0, none⟩) rv94.1.Samples.length k96] 62, .box b117 [.int .i64 rv107.1.Start, .int .i64 rv107.1.First, .int .i64 rv107.1.Rate.Num, .int .i64 rv107.1.Rate.Den, .int .i64 rv107.1.Error, .slice (some ⟨b698, 0, none⟩) rv107.1.Samples.length k109] 62, .row (some ⟨b687, 0, none⟩) rv94.1.Samples.length k96 c97 3 1, .row (some ⟨b698, 0, none⟩) rv107.1.Samples.length k109 c110 3 1] [] _ := hw.cs [0, 1, 2, 3, 4, 5] [] rfl rfl
                        refine h_get hs (i := 0) rfl (by kernel_rfl) rfl rfl hC rfl (fun w hC => y_fieldAddr (o' := 5) Try.runUnderlying62 rfl Try.sizeOf22 rfl rfl rfl) fun a hs => ?_
                        refine h_get hs (i := 1) rfl (by kernel_rfl) rfl rfl hC rfl (fun w hC => y_loadB1 (hC.ownAt 2 rfl) rfl Try.isAgg22 rfl) fun a hs => ?_
                        refine h_get hs (i := 2) rfl (by kernel_rfl) rfl rfl hC rfl (fun w hC => y_move rfl) fun a hs => ?_
                        refine h_get hs (i := 3) rfl (by kernel_rfl) rfl rfl hC rfl (fun w hC => y_move rfl) fun a hs => ?_
                        refine h_get hs (i := 4) rfl (by kernel_rfl) rfl rfl hC rfl (fun w hC => y_add rfl rfl) fun a hs => ?_
                        refine h_get hs (i := 5) rfl (by kernel_rfl) rfl rfl hC rfl (fun w hC => y_indexAt Try.runUnderlying22 Try.sizeOf3 rfl rfl h681.1 h681.2 h682) fun a hs => ?_
                        refine h_get hs (i := 6) rfl (by kernel_rfl) rfl rfl hC rfl (fun w hC => y_loadQ1 (j := 0) (hC.ownAt 4 rfl) rfl Try.isAgg3 h686 rfl) fun a hs => ?_
                        refine h_get hs (i := 7) rfl (by kernel_rfl) rfl rfl hC rfl (fun w hC => y_fieldAddr (o' := 5) Try.runUnderlying62 rfl Try.sizeOf22 rfl rfl rfl) fun a hs => ?_
                        refine h_get hs (i := 8) rfl (by kernel_rfl) rfl rfl hC rfl (fun w hC => y_loadB1 (hC.ownAt 3 rfl) rfl Try.isAgg22 rfl) fun a hs => ?_
                        refine h_get hs (i := 9) rfl (by kernel_rfl) rfl rfl hC rfl (fun w hC => y_move rfl) fun a hs => ?_
                        refine h_get hs (i := 10) rfl (by kernel_rfl) rfl rfl hC rfl (fun w hC => y_indexAt Try.runUnderlying22 Try.sizeOf3 rfl rfl h692.1 h692.2 h693) fun a hs => ?_
                        refine h_get hs (i := 11) rfl (by kernel_rfl) rfl rfl hC rfl (fun w hC => y_loadQ1 (j := 0) (hC.ownAt 5 rfl) rfl Try.isAgg3 h697 rfl) fun a hs => ?_
                        refine h_get hs (i := 12) rfl (by kernel_rfl) rfl rfl hC rfl (fun w hC => y_neq rfl rfl) fun a hs => ?_
                        refine h_get hs (i := 13) rfl (by kernel_rfl) rfl rfl hC rfl (fun w hC => y_move rfl) fun a hs => ?_
                        have hs := hs.fix 147 (.bool true) rfl (vb h701)
                        refine h_skip hs (i := 14) rfl (by kernel_rfl) (by kernel_rfl) (by kernel_rfl) rfl rfl rfl (by first | exact .inl rfl | exact .inr rfl) rfl rfl hC fun a hs => ?_
                        refine h_skip hs (i := 15) rfl (by kernel_rfl) (by kernel_rfl) (by kernel_rfl) rfl rfl rfl (by first | exact .inl rfl | exact .inr rfl) rfl rfl hC fun a hs => ?_
                        refine h_skip hs (i := 16) rfl (by kernel_rfl) (by kernel_rfl) (by kernel_rfl) rfl rfl rfl (by first | exact .inl rfl | exact .inr rfl) rfl rfl hC fun a hs => ?_
                        refine h_get hs (i := 17) rfl (by kernel_rfl) rfl rfl hC rfl (fun w hC => y_pickTE (v := .bool ((x680 != x691) || (rv667.1 != rv673.1))) rfl rfl (or_t h701)) fun a hs => ?_
                        refine h_done (by kernel_rfl) ?_
                        exact ⟨Sv674, (hs.wk rfl), (hw.ft [0, 1, 2, 3, 4, 5] [0, 1, 2, 3] (by decide) rfl rfl)⟩
                      · refine h_begin (C := Cls [.box b52 [.slice p39 rv38.1.Taps.length k40, .int .i64 rv38.1.Factor, .int .i64 rv38.1.Shift] 28, .box b81 [.int .i64 1000000000000, .int .i64 0, .int .i64 rv56.1, .int .i64 1, .int .i64 0, .slice p68 rv67.1.length k69] 62, .box b105 [.int .i64 rv94.1.Start, .int .i64 rv94.1.First, .int .i64 rv94.1.Rate.Num, .int .i64 rv94.1.Rate.Den, .int .i64 rv94.1.Error, .slice (some ⟨b687, 0, none⟩) rv94.1.Samples.length k96] 62, .box b117 [.int .i64 rv107.1.Start, .int .i64 rv107.1.First, .int .i64 rv107.1.Rate.Num, .int .i64 rv107.1.Rate.Den, .int .i64 rv107.1.Error, .slice (some ⟨b698, 0, none⟩) rv107.1.Samples.length k109] 62, .row (some ⟨b687, 0, none⟩) rv94.1.Samples.length k96 c97 3 1, .row (some ⟨b698, 0, none⟩) rv107.1.Samples.length k109 c110 3 1] []) (by kernel_rfl) rfl ?_
                        have hw := hw.drew
                        have hC : Cls [.box b52 [.slice p39 rv38.1.Taps.length k40, .int .i64 rv38.1.Factor, .int .i64 rv38.1.Shift] 28, .box b81 [.int .i64 1000000000000, .int .i64 0, .int .i64 rv56.1, .int .i64 1, .int .i64 0, .slice p68 rv67.1.length k69] 62, .box b105 [.int .i64 rv94.1.Start, .int .i64 rv94.1.First, .int .i64 rv94.1.Rate.Num, .int .i64 rv94.1.Rate.Den, .int .i64 rv94.1.Error, .slice (some ⟨b687, 0, none⟩) rv94.1.Samples.length k96] 62, .box b117 [.int .i64 rv107.1.Start, .int .i64 rv107.1.First, .int .i64 rv107.1.Rate.Num, .int .i64 rv107.1.Rate.Den, .int .i64 rv107.1.Error, .slice (some ⟨b698, 0, none⟩) rv107.1.Samples.length k109] 62, .row (some ⟨b687, 0, none⟩) rv94.1.Samples.length k96 c97 3 1, .row (some ⟨b698, 0, none⟩) rv107.1.Samples.length k109 c110 3 1] [] _ := hw.cs [0, 1, 2, 3, 4, 5] [] rfl rfl
                        refine h_get hs (i := 0) rfl (by kernel_rfl) rfl rfl hC rfl (fun w hC => y_fieldAddr (o' := 5) Try.runUnderlying62 rfl Try.sizeOf22 rfl rfl rfl) fun a hs => ?_
                        refine h_get hs (i := 1) rfl (by kernel_rfl) rfl rfl hC rfl (fun w hC => y_loadB1 (hC.ownAt 2 rfl) rfl Try.isAgg22 rfl) fun a hs => ?_
                        refine h_get hs (i := 2) rfl (by kernel_rfl) rfl rfl hC rfl (fun w hC => y_move rfl) fun a hs => ?_
                        refine h_get hs (i := 3) rfl (by kernel_rfl) rfl rfl hC rfl (fun w hC => y_move rfl) fun a hs => ?_
                        refine h_get hs (i := 4) rfl (by kernel_rfl) rfl rfl hC rfl (fun w hC => y_add rfl rfl) fun a hs => ?_
                        refine h_get hs (i := 5) rfl (by kernel_rfl) rfl rfl hC rfl (fun w hC => y_indexAt Try.runUnderlying22 Try.sizeOf3 rfl rfl h681.1 h681.2 h682) fun a hs => ?_
                        refine h_get hs (i := 6) rfl (by kernel_rfl) rfl rfl hC rfl (fun w hC => y_loadQ1 (j := 0) (hC.ownAt 4 rfl) rfl Try.isAgg3 h686 rfl) fun a hs => ?_
                        refine h_get hs (i := 7) rfl (by kernel_rfl) rfl rfl hC rfl (fun w hC => y_fieldAddr (o' := 5) Try.runUnderlying62 rfl Try.sizeOf22 rfl rfl rfl) fun a hs => ?_
                        refine h_get hs (i := 8) rfl (by kernel_rfl) rfl rfl hC rfl (fun w hC => y_loadB1 (hC.ownAt 3 rfl) rfl Try.isAgg22 rfl) fun a hs => ?_
                        refine h_get hs (i := 9) rfl (by kernel_rfl) rfl rfl hC rfl (fun w hC => y_move rfl) fun a hs => ?_
                        refine h_get hs (i := 10) rfl (by kernel_rfl) rfl rfl hC rfl (fun w hC => y_indexAt Try.runUnderlying22 Try.sizeOf3 rfl rfl h692.1 h692.2 h693) fun a hs => ?_
                        refine h_get hs (i := 11) rfl (by kernel_rfl) rfl rfl hC rfl (fun w hC => y_loadQ1 (j := 0) (hC.ownAt 5 rfl) rfl Try.isAgg3 h697 rfl) fun a hs => ?_
                        refine h_get hs (i := 12) rfl (by kernel_rfl) rfl rfl hC rfl (fun w hC => y_neq rfl rfl) fun a hs => ?_
                        refine h_get hs (i := 13) rfl (by kernel_rfl) rfl rfl hC rfl (fun w hC => y_move rfl) fun a hs => ?_
                        have hs := hs.fix 147 (.bool false) rfl (vb h701)
                        refine h_take hs (i := 14) rfl (by kernel_rfl) (by kernel_rfl) (by kernel_rfl) ⟨_, rfl, rfl⟩ rfl rfl hC (fun w hC => y_move rfl) fun a hs => ?_
                        refine h_take hs (i := 15) rfl (by kernel_rfl) (by kernel_rfl) (by kernel_rfl) ⟨_, rfl, rfl⟩ rfl rfl hC (fun w hC => y_move rfl) fun a hs => ?_
                        refine h_take hs (i := 16) rfl (by kernel_rfl) (by kernel_rfl) (by kernel_rfl) ⟨_, rfl, rfl⟩ rfl rfl hC (fun w hC => y_neq rfl rfl) fun a hs => ?_
                        refine h_get hs (i := 17) rfl (by kernel_rfl) rfl rfl hC rfl (fun w hC => y_pickFE (v := .bool ((x680 != x691) || (rv667.1 != rv673.1))) rfl rfl (or_f h701)) fun a hs => ?_
                        refine h_done (by kernel_rfl) ?_
                        exact ⟨Sv674, (hs.wk rfl), (hw.ft [0, 1, 2, 3, 4, 5] [0, 1, 2, 3] (by decide) rfl rfl)⟩
                    · rintro a w ⟨Sv700, hs, hw⟩
                      refine then_normal ?_
                      refine wp_cond_split (hs.ev rfl) (fun h705 => ?_) (fun h705 => ?_)
                      · have hsh := ite_t hsh h705
                        refine wp_seq ?_
                        refine wp_region_lit ?_
                        refine st_val hs (y_assign rfl) trivial rfl rfl fun a hs => ?_
                        refine wpList_nil ?_
                        refine then_normal ?_
                        have hsh := Option.some.inj hsh
                        subst hsh
                        have h706 := hd623 _ rfl
                        subst h706
                        refine wp_ret ?_
                        refine blk_ret ?_
                        refine then_ret ?_
                        refine then_ret ?_
                        refine blk_ret ?_
                        refine then_ret ?_
                        exact ret1 hs rfl (rv_tmp rfl) (hw.ret rfl)
                      · have hsh := ite_f hsh h705
                        refine wp_skip ?_
                        refine blk_normal ?_
                        refine then_normal ?_
                        refine wp_region_lit ?_
                        refine st_val hs (y_add rfl rfl) trivial rfl rfl fun a hs => ?_
                        refine st_val hs (y_move rfl) trivial rfl rfl fun a hs => ?_
                        refine wpList_nil ?_
                        refine then_normal ?_
                        exact ⟨_, (Option.some.inj hsh).symm, Sv700, (hs.wk rfl), (hw.ft [0, 1, 2, 3, 4, 5] [0, 1, 2, 3] (by decide) rfl rfl)⟩
                  · have hsh := ite_f hsh h628
                    obtain ⟨rv728, hsh, h729⟩ := map_t hsh
                    have h729 := hd623 _ h729.symm
                    subst h729
                    refine wp_exit ?_
                    refine then_exit ?_
                    refine then_exit ?_
                    refine blk_exit ?_
                    refine then_normal ?_
                    refine wp_seq ?_
                    refine wp_region_lit ?_
                    refine st_val hs (y_fieldAddr (o' := 0) Try.runUnderlying62 rfl Try.sizeOf3 rfl rfl rfl) trivial rfl rfl fun a hs => ?_
                    refine st_val hs (y_loadB1 (hw.ownAt 1 rfl) rfl Try.isAgg3 rfl) trivial rfl rfl fun a hs => ?_
                    refine st_val hs (y_fieldAddr (o' := 2) Try.runUnderlying62 rfl Try.sizeOf60 rfl rfl rfl) trivial rfl rfl fun a hs => ?_
                    refine st_val hs (y_loadBA (hw.ownAt 1 rfl) rfl Try.isAgg60 Try.sizeOf60 rfl rfl) trivial rfl rfl fun a hs => ?_
                    refine st_val hs (y_move rfl) trivial rfl rfl fun a hs => ?_
                    refine st_val hs (y_fieldAddr (o' := 0) Try.runUnderlying28 rfl Try.sizeOf22 rfl rfl rfl) trivial rfl rfl fun a hs => ?_
                    refine st_val hs (y_loadB1 (hw.ownAt 0 rfl) rfl Try.isAgg22 rfl) trivial rfl rfl fun a hs => ?_
                    refine st_val hs (y_len Try.runUnderlying22 rfl) trivial rfl rfl fun a hs => ?_
                    refine st_val hs (y_add rfl rfl) trivial rfl rfl fun a hs => ?_
                    refine st_val hs (y_sub rfl rfl) trivial rfl rfl fun a hs => ?_
                    obtain ⟨rv708, h707, hsh⟩ := bind_t hsh
                    refine st_callR hs (ref02_Time_ok h707 hw.dom) (do_call Try.call30 rfl) trivial rfl rfl ?_
                    intro v712 Sv709 w a h710 h711 hs
                    subst h711
                    have hw := hw.call h710
                    refine st_val hs (y_move rfl) trivial rfl rfl fun a hs => ?_
                    refine st_val hs (y_extract rfl rfl) trivial rfl rfl fun a hs => ?_
                    refine st_val hs (y_extract rfl rfl) trivial rfl rfl fun a hs => ?_
                    refine st_val hs (y_assign rfl) trivial rfl rfl fun a hs => ?_
                    refine st_val hs (y_assign rfl) trivial rfl rfl fun a hs => ?_
                    refine wpList_nil ?_
                    refine then_normal ?_
                    refine wp_seq ?_
                    refine wp_region_lit ?_
                    refine st_val hs (y_fieldAddr (o' := 0) Try.runUnderlying62 rfl Try.sizeOf3 rfl rfl rfl) trivial rfl rfl fun a hs => ?_
                    refine st_val hs (y_loadB1 (hw.ownAt 3 rfl) rfl Try.isAgg3 rfl) trivial rfl rfl fun a hs => ?_
                    refine st_val hs (y_move rfl) trivial rfl rfl fun a hs => ?_
                    refine st_val hs (y_geq rfl rfl) trivial rfl rfl fun a hs => ?_
                    refine st_val hs (y_move rfl) trivial rfl rfl fun a hs => ?_
                    obtain ⟨c720, hc720, hsh⟩ := bind_t hsh
                    refine wpl_join 2 (fun a w => ∃ (Sv721 : Nat → Prop), Sl 174 [(173, .bool c720)] a ∧ Wd ⟨w0, S0, []⟩ Sv721 [] [] w) ?_ ?_
                    · rcases Bool.eq_false_or_eq_true (decide (rv708.1 ≤ rv107.1.Start)) with h719 | h719
                      · have hs := hs.fix 171 (.bool true) rfl (vb h719)
                        have hsh := ite_t hc720 h719
                        obtain ⟨rv723, h722, hsh⟩ := bind_t hsh
                        refine st_callR hs (law21_sane_ok h722 hw.dom) (do_call Try.call11 rfl) ⟨_, rfl, rfl⟩ rfl rfl ?_
                        intro v727 Sv724 w a h725 h726 hs
                        subst h726
                        have hw := hw.call h725
                        refine st_val hs (y_pickT rfl rfl) trivial rfl rfl fun a hs => ?_
                        refine wpList_nil ?_
                        have hsh := Option.some.inj hsh
                        subst hsh
                        refine then_normal ?_
                        exact ⟨Sv724, (hs.wk rfl), (hw.ft [] [] (by decide) rfl rfl)⟩
                      · have hs := hs.fix 171 (.bool false) rfl (vb h719)
                        have hsh := ite_f hc720 h719
                        refine st_skip hs rfl rfl rfl rfl rfl fun a hs => ?_
                        refine st_val hs (y_pickF rfl rfl) trivial rfl rfl fun a hs => ?_
                        refine wpList_nil ?_
                        have hsh := Option.some.inj hsh
                        subst hsh
                        refine then_normal ?_
                        exact ⟨Sv709, (hs.wk rfl), (hw.ft [] [] (by decide) rfl rfl)⟩
                    · rintro a w ⟨Sv721, hs, hw⟩
                      refine st_val hs (y_assign rfl) trivial rfl rfl fun a hs => ?_
                      refine wpList_nil ?_
                      refine then_normal ?_
                      have hsh := Option.some.inj hsh
                      subst hsh
                      refine wp_ret ?_
                      exact ret1 hs rfl (rv_tmp rfl) (hw.ret rfl)

end Go.Proofs.Ytmihimhknllmcaa.Wk

/- The walks of FilterStream, part 2: each Go function computes what its plain program computes. Printed by a program of ours. -/
import Derived.Test.YtmihimhknllmcaaProg
import Derived.Test.YtmihimhknllmcaaDat
import Derived.Test.YtmihimhknllmcaaSh
import Derived.Test.YtmihimhknllmcaaLibJ
import Derived.KernelRfl
import Derived.Test.YtmihimhknllmcaaWFilterStream1
namespace Go.Proofs.Ytmihimhknllmcaa.Wk
open Go Go.RowKit Go.Proofs Go.Proofs.Ytmihimhknllmcaa.Sh
set_option linter.unusedVariables false
set_option linter.unusedSimpArgs false

abbrev law21_FilterStream_rd (w0 : World) (r : Bool) : (Nat → Prop) → World → Value → Prop := fun S w v => v = .bool r
set_option maxHeartbeats 4000000 in
set_option maxRecDepth 100000 in
theorem law21_FilterStream_ok {w0 : World} {S0 : Nat → Prop} {p2 : Option Addr} {k3 : Nat} {t1 : (List Int)} {n5 : Int} {r : Bool} (hsh : law21_FilterStream t1 n5 = some r) (hS : ∀ b, S0 b → b < w0.heap.size) (h4 : (SlA p2 t1.length k3 t1).p S0 w0) : Calls Try.prog 7 #[.slice p2 t1.length k3, .int .u16 n5] w0 (Ret [] w0 S0 (law21_FilterStream_rd w0 r)) := by
  refine calls_of_wp Try.func7 rfl ?_
  have hs := Sl.enter #[.slice p2 t1.length k3, .int .u16 n5] 114 [(0, .slice p2 t1.length k3), (1, .int .u16 n5)] rfl ⟨rfl, rfl, trivial⟩
  have hw := Wd.enter (E := []) hS (fun _ h => (by cases h))
  have hw := hw.addE h4
  delta law21_FilterStream at hsh
  refine wp_seq ?_
  refine wp_region_lit ?_
  refine st_val hs (y_assign rfl) trivial rfl rfl fun a hs => ?_
  refine wpList_nil ?_
  refine then_normal ?_
  refine wp_seq ?_
  refine wp_seq ?_
  refine wp_region_lit ?_
  refine st_val hs (y_move rfl) trivial rfl rfl fun a hs => ?_
  obtain ⟨rv7, h6, hsh⟩ := bind_t hsh
  refine st_callR hs (made_Light_ok h6 hw.dom (hw.envAt 0 rfl)) (do_call Try.call10 rfl) trivial rfl rfl ?_
  intro v11 Sv8 w a h9 h10 hs
  subst h10
  have hw := hw.call h9
  refine st_val hs (y_not rfl) trivial rfl rfl fun a hs => ?_
  refine wpList_nil ?_
  refine then_normal ?_
  refine wp_cond_split (hs.ev rfl) (fun h19 => ?_) (fun h19 => ?_)
  · have hsh := ite_t hsh h19
    refine wp_seq ?_
    refine wp_region_lit ?_
    obtain ⟨rv21, h20, hsh⟩ := bind_t hsh
    refine st_callR hs (law21_sane_ok h20 hw.dom) (do_call Try.call11 rfl) trivial rfl rfl ?_
    intro v25 Sv22 w a h23 h24 hs
    subst h24
    have hw := hw.call h23
    refine st_val hs (y_assign rfl) trivial rfl rfl fun a hs => ?_
    refine wpList_nil ?_
    refine then_normal ?_
    have hsh := Option.some.inj hsh
    subst hsh
    refine wp_ret ?_
    refine then_ret ?_
    exact ret1 hs rfl (rv_tmp rfl) (hw.ret rfl)
  · have hsh := ite_f hsh h19
    refine wp_skip ?_
    refine then_normal ?_
    refine wp_seq ?_
    refine wp_region_lit ?_
    refine st_val hs (y_move rfl) trivial rfl rfl fun a hs => ?_
    obtain ⟨rv27, h26, hsh⟩ := bind_t hsh
    refine st_callR hs (made_Roll_ok h26 hw.dom (hw.envAt 0 rfl)) (do_call Try.call12 rfl) trivial rfl rfl ?_
    intro v36 Sv33 w a h34 h35 hs
    obtain ⟨b28, p30, k31, rfl, h29, h32⟩ := h35
    have hw := hw.callF h34 h29
    have hw := hw.addE (e := SlA p30 rv27.L.length k31 rv27.L) h32
    refine st_val hs (y_assign rfl) trivial rfl rfl fun a hs => ?_
    refine wpList_nil ?_
    refine then_normal ?_
    refine wp_seq ?_
    refine wp_region_lit ?_
    refine st_val hs (y_move rfl) trivial rfl rfl fun a hs => ?_
    obtain ⟨rv38, h37, hsh⟩ := bind_t hsh
    refine st_callR hs (made_Dice_Filter_ok h37 hw.dom (hw.ownAt 0 rfl) (hw.boxS 0 rfl) (hw.envAt 0 rfl)) (do_call Try.call13 rfl) trivial rfl rfl ?_
    intro v51 Sv48 w a h49 h50 hs
    obtain ⟨p39, k40, c41, p45, k46, rfl, h42, h43, h44, h47⟩ := h50
    have hw := hw.call1F 0 rfl h49 h44 h42
    have hw := hw.addE (e := RowA c41 rv38.1.Taps) h43
    have hw := hw.addE (e := SlA p45 rv38.2.L.length k46 rv38.2.L) h47
    refine st_val hs (y_move rfl) trivial rfl rfl fun a hs => ?_
    obtain ⟨rv53, h52, hsh⟩ := bind_t hsh
    refine st_callR hs (made_Dice_Samples_ok h52 hw.dom (hw.ownAt 1 rfl) (hw.boxS 1 rfl) (hw.envAt 0 rfl)) (do_call Try.call16 rfl) trivial rfl rfl ?_
    intro v66 Sv63 w a h64 h65 hs
    obtain ⟨p54, k55, c56, p60, k61, rfl, h57, h58, h59, h62⟩ := h65
    have hw := hw.call1F 1 rfl h64 h59 h57
    have hw := hw.addE (e := RowA c56 rv53.1) h58
    have hw := hw.addE (e := SlA p60 rv53.2.L.length k61 rv53.2.L) h62
    refine w_alloc (cs := [.slice none ([] : List Int).length 0, .int .i64 0, .int .i64 0]) hs hw Try.zeroValue28 rfl rfl trivial ?_
    intro b67 a w hs hw
    refine w_store (m := 3) (cs' := [.slice p39 rv38.1.Taps.length k40, .int .i64 rv38.1.Factor, .int .i64 rv38.1.Shift]) hs hw 0 rfl rfl rfl Try.sizeOf28 rfl rfl rfl rfl trivial ?_
    intro a w hs hw
    refine st_val hs (y_assign rfl) trivial rfl rfl fun a hs => ?_
    refine wpList_nil ?_
    refine then_normal ?_
    refine wp_seq ?_
    refine wp_region_lit ?_
    refine st_val hs (y_loadBA (hw.ownAt 0 rfl) rfl Try.isAgg28 Try.sizeOf28 rfl rfl) trivial rfl rfl fun a hs => ?_
    refine st_val hs (y_move rfl) trivial rfl rfl fun a hs => ?_
    refine st_val hs (y_convert Try.runUnderlying49 Try.runUnderlying3 rfl) trivial rfl rfl fun a hs => ?_
    obtain ⟨rv69, h68, hsh⟩ := bind_t hsh
    obtain ⟨Sv78, hw⟩ := w_share (α := Int) hw 2 rfl 3 rfl (.inl rfl)
    refine st_callR hs (filter_Start_ok h68 hw.dom (hw.envAt 0 rfl)) (do_call Try.call24 rfl) trivial rfl rfl ?_
    intro v82 Sv79 w a h80 h81 hs
    obtain ⟨p70, k71, c72, p75, k76, rfl, h73, h74, h77⟩ := h81
    have hw := hw.callF h80 h73
    have hw := hw.addE (e := RowA c72 rv69.1.Filter.Taps) h74
    have hw := hw.addE (e := SlA p75 rv69.1.Past.length k76 rv69.1.Past) h77
    refine st_val hs (y_move rfl) trivial rfl rfl fun a hs => ?_
    refine st_val hs (y_extract rfl rfl) trivial rfl rfl fun a hs => ?_
    refine st_val hs (y_extract rfl rfl) trivial rfl rfl fun a hs => ?_
    refine w_alloc (cs := [.slice none ([] : List Int).length 0, .int .i64 0, .int .i64 0, .slice none ([] : List Int).length 0, .int .i64 0]) hs hw Try.zeroValue51 rfl rfl trivial ?_
    intro b83 a w hs hw
    refine w_store (m := 5) (cs' := [.slice p70 rv69.1.Filter.Taps.length k71, .int .i64 rv69.1.Filter.Factor, .int .i64 rv69.1.Filter.Shift, .slice p75 rv69.1.Past.length k76, .int .i64 rv69.1.Number]) hs hw 0 rfl rfl rfl Try.sizeOf51 rfl rfl rfl rfl trivial ?_
    intro a w hs hw
    refine st_val hs (y_assign rfl) trivial rfl rfl fun a hs => ?_
    refine wpList_nil ?_
    refine then_normal ?_
    refine wp_seq ?_
    refine wp_region_lit ?_
    refine st_val hs (y_loadBA (hw.ownAt 0 rfl) rfl Try.isAgg51 Try.sizeOf51 rfl rfl) trivial rfl rfl fun a hs => ?_
    refine st_val hs (y_move rfl) trivial rfl rfl fun a hs => ?_
    obtain ⟨rv85, h84, hsh⟩ := bind_t hsh
    obtain ⟨Sv97, hw⟩ := w_share (α := Int) hw 1 rfl 1 rfl (.inl rfl)
    obtain ⟨Sv98, hw⟩ := w_share (α := Int) hw 2 rfl 5 rfl (.inl rfl)
    refine st_callR hs (filter_Push_ok h84 hw.dom (hw.envAt 1 rfl) (hw.envAt 2 rfl) (hw.envAt 0 rfl)) (do_call Try.call25 rfl) trivial rfl rfl ?_
    intro v102 Sv99 w a h100 h101 hs
    obtain ⟨p86, k87, c88, p91, k92, p94, k95, rfl, h89, h90, h93, h96⟩ := h101
    have hw := hw.callF h100 h89
    have hw := hw.addE (e := RowA c88 rv85.1.Filter.Taps) h90
    have hw := hw.addE (e := SlA p91 rv85.1.Past.length k92 rv85.1.Past) h93
    have hw := hw.addE (e := SlA p94 rv85.2.1.length k95 rv85.2.1) h96
    refine st_val hs (y_move rfl) trivial rfl rfl fun a hs => ?_
    refine st_val hs (y_extract rfl rfl) trivial rfl rfl fun a hs => ?_
    refine st_val hs (y_extract rfl rfl) trivial rfl rfl fun a hs => ?_
    refine st_val hs (y_extract rfl rfl) trivial rfl rfl fun a hs => ?_
    refine w_alloc (cs := [.slice none ([] : List Int).length 0, .int .i64 0, .int .i64 0, .slice none ([] : List Int).length 0, .int .i64 0]) hs hw Try.zeroValue51 rfl rfl trivial ?_
    intro b103 a w hs hw
    refine w_store (m := 5) (cs' := [.slice p86 rv85.1.Filter.Taps.length k87, .int .i64 rv85.1.Filter.Factor, .int .i64 rv85.1.Filter.Shift, .slice p91 rv85.1.Past.length k92, .int .i64 rv85.1.Number]) hs hw 0 rfl rfl rfl Try.sizeOf51 rfl rfl rfl rfl trivial ?_
    intro a w hs hw
    refine st_val hs (y_assign rfl) trivial rfl rfl fun a hs => ?_
    refine st_val hs (y_assign rfl) trivial rfl rfl fun a hs => ?_
    refine wpList_nil ?_
    refine then_normal ?_
    refine wp_seq ?_
    refine wp_region_lit ?_
    refine st_val hs (y_loadBA (hw.ownAt 3 rfl) rfl Try.isAgg28 Try.sizeOf28 rfl rfl) trivial rfl rfl fun a hs => ?_
    refine st_val hs (y_move rfl) trivial rfl rfl fun a hs => ?_
    refine st_val hs (y_move rfl) trivial rfl rfl fun a hs => ?_
    refine st_val hs (y_convert Try.runUnderlying49 Try.runUnderlying3 rfl) trivial rfl rfl fun a hs => ?_
    obtain ⟨rv105, h104, hsh⟩ := bind_t hsh
    refine st_callR hs (filter_Apply_ok h104 hw.dom (hw.envAt 7 rfl) (hw.envAt 3 rfl)) (do_call Try.call14 rfl) trivial rfl rfl ?_
    intro v114 Sv111 w a h112 h113 hs
    obtain ⟨p106, k107, c108, rfl, h109, h110⟩ := h113
    have hw := hw.callF h112 h109
    have hw := hw.addE (e := RowA c108 rv105.1) h110
    refine st_val hs (y_move rfl) trivial rfl rfl fun a hs => ?_
    refine st_val hs (y_extract rfl rfl) trivial rfl rfl fun a hs => ?_
    refine st_val hs (y_extract rfl rfl) trivial rfl rfl fun a hs => ?_
    refine st_val hs (y_assign rfl) trivial rfl rfl fun a hs => ?_
    refine st_val hs (y_assign rfl) trivial rfl rfl fun a hs => ?_
    refine wpList_nil ?_
    refine then_normal ?_
    refine wp_seq ?_
    refine wp_region_lit ?_
    refine st_val hs (y_assign rfl) trivial rfl rfl fun a hs => ?_
    refine wpList_nil ?_
    refine then_normal ?_
    refine wp_seq ?_
    refine wp_seq ?_
    refine wp_region_lit ?_
    refine st_val hs (y_assign rfl) trivial rfl rfl fun a hs => ?_
    refine wpList_nil ?_
    refine then_normal ?_
    refine wp_block ?_
    have hw := hw.nilRow Int 3
    refine wp_while (fun sv396 a w => ∃ (p579 : Option Addr) (k580 : Nat) (p581 : Option Addr) (k582 : Nat) (p583 : Option Addr) (k584 : Nat) (p585 : Option Addr) (k586 : Nat) (c587 : List Value) (Sv588 : Nat → Prop), Sl 114 [(5, .pointer (some ⟨b28, 0, none⟩)), (7, .slice p54 rv53.1.length k55), (8, .pointer (some ⟨b83, 0, none⟩)), (9, .int .i64 rv69.2), (10, .pointer (some ⟨b103, 0, none⟩)), (11, .slice p94 rv85.2.1.length k95), (12, .int .i64 rv85.2.2), (13, .slice p106 rv105.1.length k107), (14, .int .i64 rv105.2), (15, .slice p585 sv396.2.2.2.2.2.2.2.1.length k586), (16, .int .i64 sv396.2.2.2.2.2.2.2.2)] a ∧ Wd ⟨w0, S0, []⟩ Sv588 [.box b28 [.slice p579 sv396.1.length k580, .int .i64 sv396.2.1] 75, .box b83 [.slice p581 sv396.2.2.1.length k582, .int .i64 sv396.2.2.2.1, .int .i64 sv396.2.2.2.2.1, .slice p583 sv396.2.2.2.2.2.1.length k584, .int .i64 sv396.2.2.2.2.2.2.1] 51, .box b103 [.slice p86 rv85.1.Filter.Taps.length k87, .int .i64 rv85.1.Filter.Factor, .int .i64 rv85.1.Filter.Shift, .slice p91 rv85.1.Past.length k92, .int .i64 rv85.1.Number] 51, .row p86 rv85.1.Filter.Taps.length k87 c88 3 1, .row p106 rv105.1.length k107 c108 3 1, .row p585 sv396.2.2.2.2.2.2.2.1.length k586 c587 3 1] [SlA p54 rv53.1.length k55 rv53.1, SlA p94 rv85.2.1.length k95 rv85.2.1, SlA p579 sv396.1.length k580 sv396.1, SlA p581 sv396.2.2.1.length k582 sv396.2.2.1, SlA p583 sv396.2.2.2.2.2.1.length k584 sv396.2.2.2.2.2.1, SlA p91 rv85.1.Past.length k92 rv85.1.Past, RowA c88 rv85.1.Filter.Taps, RowA c108 rv105.1, RowA c587 sv396.2.2.2.2.2.2.2.1] w) (rv53.2.L, rv53.2.At, rv69.1.Filter.Taps, rv69.1.Filter.Factor, rv69.1.Filter.Shift, rv69.1.Past, rv69.1.Number, ([] : List Int), 0) hsh ⟨p60, k61, p70, k71, p75, k76, none, 0, [], Sv111, (hs.weaken _ ⟨rfl, rfl, rfl, rfl, rfl, rfl, rfl, rfl, rfl, rfl, rfl, trivial⟩), (hw.fit [6, 4, 2, 3, 1, 0] (by decide) ⟨rfl, rfl, rfl, rfl, rfl, rfl, trivial⟩ ⟨⟨5, rfl⟩, ⟨2, rfl⟩, ⟨10, rfl⟩, ⟨6, rfl⟩, ⟨7, rfl⟩, ⟨3, rfl⟩, ⟨4, rfl⟩, ⟨1, rfl⟩, ⟨0, rfl⟩, trivial⟩)⟩ ?_
    repeat clear hsh
    rintro sv396 a w tv676 ⟨p579, k580, p581, k582, p583, k584, p585, k586, c587, Sv588, hs, hw⟩ hsh hd675
    delta law21_FilterStream_l2 at hsh
    refine wp_seq ?_
    refine wp_seq ?_
    refine wp_region_lit ?_
    refine st_val hs (y_move rfl) trivial rfl rfl fun a hs => ?_
    refine st_val hs (y_move rfl) trivial rfl rfl fun a hs => ?_
    refine st_val hs (y_len Try.runUnderlying22 rfl) trivial rfl rfl fun a hs => ?_
    refine st_val hs (y_lss rfl rfl) trivial rfl rfl fun a hs => ?_
    refine st_val hs (y_move rfl) trivial rfl rfl fun a hs => ?_
    refine wpl_join 3 (fun a w1 => w = w1 ∧ Sl 114 [(5, .pointer (some ⟨b28, 0, none⟩)), (7, .slice p54 rv53.1.length k55), (8, .pointer (some ⟨b83, 0, none⟩)), (9, .int .i64 rv69.2), (10, .pointer (some ⟨b103, 0, none⟩)), (11, .slice p94 rv85.2.1.length k95), (12, .int .i64 rv85.2.2), (13, .slice p106 rv105.1.length k107), (14, .int .i64 rv105.2), (15, .slice p585 sv396.2.2.2.2.2.2.2.1.length k586), (16, .int .i64 sv396.2.2.2.2.2.2.2.2), (60, .bool ((decide (sv396.2.2.2.2.2.2.2.2 < (rv53.1.length : Int))) && (rv69.2 == 0)))] a) ?_ ?_
    · rcases Bool.eq_false_or_eq_true (decide (sv396.2.2.2.2.2.2.2.2 < (rv53.1.length : Int))) with h677 | h677
      · have hs := hs.fix 57 (.bool true) rfl (vb h677)
        refine st_val hs (y_move rfl) ⟨_, rfl, rfl⟩ rfl rfl fun a hs => ?_
        refine st_val hs (y_eql rfl rfl) ⟨_, rfl, rfl⟩ rfl rfl fun a hs => ?_
        refine st_val hs (y_pickT rfl rfl) trivial rfl rfl fun a hs => ?_
        refine wpList_nil ?_
        refine then_normal ?_
        exact ⟨rfl, (hs.fix 60 (.bool ((decide (sv396.2.2.2.2.2.2.2.2 < (rv53.1.length : Int))) && (rv69.2 == 0))) rfl (and_t h677)).weaken _ ⟨rfl, rfl, rfl, rfl, rfl, rfl, rfl, rfl, rfl, rfl, rfl, rfl, trivial⟩⟩
      · have hs := hs.fix 57 (.bool false) rfl (vb h677)
        refine st_skip hs rfl rfl rfl rfl rfl fun a hs => ?_
        refine st_skip hs rfl rfl rfl rfl rfl fun a hs => ?_
        refine st_val hs (y_pickF rfl rfl) trivial rfl rfl fun a hs => ?_
        refine wpList_nil ?_
        refine then_normal ?_
        exact ⟨rfl, (hs.fix 60 (.bool ((decide (sv396.2.2.2.2.2.2.2.2 < (rv53.1.length : Int))) && (rv69.2 == 0))) rfl (and_f h677)).weaken _ ⟨rfl, rfl, rfl, rfl, rfl, rfl, rfl, rfl, rfl, rfl, rfl, rfl, trivial⟩⟩
    · rintro a w1 ⟨h847, hs⟩
      subst h847
      refine wpList_nil ?_
      refine then_normal ?_
      refine wp_cond_split (hs.ev rfl) (fun h681 => ?_) (fun h681 => ?_)
      · have hsh := ite_t hsh h681
        refine wp_skip ?_
        refine then_normal ?_
        refine wp_block ?_
        refine wp_seq ?_
        refine wp_region_lit ?_
        refine st_val hs (y_move rfl) trivial rfl rfl fun a hs => ?_
        refine st_val hs (y_add rfl rfl) trivial rfl rfl fun a hs => ?_
        refine st_val hs (y_move rfl) trivial rfl rfl fun a hs => ?_
        obtain ⟨rv724, h723, hsh⟩ := bind_t hsh
        refine st_callR hs (made_Dice_Next_ok h723 hw.dom (hw.ownAt 0 rfl) (hw.boxS 0 rfl) (hw.envAt 2 rfl)) (do_call Try.call15 rfl) trivial rfl rfl ?_
        intro v732 Sv729 w a h730 h731 hs
        obtain ⟨p726, k727, rfl, h725, h728⟩ := h731
        have hw := hw.call1 0 rfl h730 h725
        have hw := hw.addE (e := SlA p726 rv724.2.L.length k727 rv724.2.L) h728
        refine st_val hs (y_add rfl rfl) trivial rfl rfl fun a hs => ?_
        refine st_val hs (y_move rfl) trivial rfl rfl fun a hs => ?_
        refine st_val hs (y_len Try.runUnderlying22 rfl) trivial rfl rfl fun a hs => ?_
        refine st_val hs (y_min rfl rfl) trivial rfl rfl fun a hs => ?_
        obtain ⟨to734, h733, hsh⟩ := bind_t hsh
        refine st_val hs (y_assignI rfl h733) trivial rfl rfl fun a hs => ?_
        refine wpList_nil ?_
        refine then_normal ?_
        refine wp_seq ?_
        obtain ⟨l740, h735, hsh⟩ := bind_t hsh
        obtain ⟨p738, k739, h736, h737⟩ := sub_env (hw.envAt 1 rfl) h735
        have hw := hw.addE h736
        obtain ⟨rv742, h741, hsh⟩ := bind_t hsh
        refine wp_only (fun a w => ∃ (Sv755 : Nat → Prop) (b754 : Nat) (c745 : List Value) (k744 : Nat) (k749 : Nat) (k752 : Nat) (p743 : Option Addr) (p748 : Option Addr) (p751 : Option Addr), Sl 114 [(5, .pointer (some ⟨b28, 0, none⟩)), (7, .slice p54 rv53.1.length k55), (8, .pointer (some ⟨b83, 0, none⟩)), (9, .int .i64 rv69.2), (10, .pointer (some ⟨b103, 0, none⟩)), (11, .slice p94 rv85.2.1.length k95), (12, .int .i64 rv85.2.2), (13, .slice p106 rv105.1.length k107), (14, .int .i64 rv105.2), (15, .slice p585 sv396.2.2.2.2.2.2.2.1.length k586), (17, .int .i64 to734), (18, .pointer (some ⟨b754, 0, none⟩)), (19, .slice p751 rv742.2.1.length k752), (20, .int .i64 rv742.2.2)] a ∧ Wd ⟨w0, S0, []⟩ Sv755 [.box b28 [.slice p726 rv724.2.L.length k727, .int .i64 rv724.2.At] 75, .box b83 [.slice p581 sv396.2.2.1.length k582, .int .i64 sv396.2.2.2.1, .int .i64 sv396.2.2.2.2.1, .slice p583 sv396.2.2.2.2.2.1.length k584, .int .i64 sv396.2.2.2.2.2.2.1] 51, .box b103 [.slice p86 rv85.1.Filter.Taps.length k87, .int .i64 rv85.1.Filter.Factor, .int .i64 rv85.1.Filter.Shift, .slice p91 rv85.1.Past.length k92, .int .i64 rv85.1.Number] 51, .box b754 [.slice p743 rv742.1.Filter.Taps.length k744, .int .i64 rv742.1.Filter.Factor, .int .i64 rv742.1.Filter.Shift, .slice p748 rv742.1.Past.length k749, .int .i64 rv742.1.Number] 51, .row p86 rv85.1.Filter.Taps.length k87 c88 3 1, .row p106 rv105.1.length k107 c108 3 1, .row p585 sv396.2.2.2.2.2.2.2.1.length k586 c587 3 1, .row p743 rv742.1.Filter.Taps.length k744 c745 3 1] [SlA p54 rv53.1.length k55 rv53.1, SlA p94 rv85.2.1.length k95 rv85.2.1, SlA p751 rv742.2.1.length k752 rv742.2.1, SlA p726 rv724.2.L.length k727 rv724.2.L, SlA p581 sv396.2.2.1.length k582 sv396.2.2.1, SlA p583 sv396.2.2.2.2.2.1.length k584 sv396.2.2.2.2.2.1, SlA p91 rv85.1.Past.length k92 rv85.1.Past, SlA p748 rv742.1.Past.length k749 rv742.1.Past, RowA c88 rv85.1.Filter.Taps, RowA c108 rv105.1, RowA c587 sv396.2.2.2.2.2.2.2.1, RowA c745 rv742.1.Filter.Taps] w) ?_ ?_
        · refine h_begin (C := Cls [.box b28 [.slice p726 rv724.2.L.length k727, .int .i64 rv724.2.At] 75, .box b83 [.slice p581 sv396.2.2.1.length k582, .int .i64 sv396.2.2.2.1, .int .i64 sv396.2.2.2.2.1, .slice p583 sv396.2.2.2.2.2.1.length k584, .int .i64 sv396.2.2.2.2.2.2.1] 51, .box b103 [.slice p86 rv85.1.Filter.Taps.length k87, .int .i64 rv85.1.Filter.Factor, .int .i64 rv85.1.Filter.Shift, .slice p91 rv85.1.Past.length k92, .int .i64 rv85.1.Number] 51, .row p86 rv85.1.Filter.Taps.length k87 c88 3 1, .row p106 rv105.1.length k107 c108 3 1, .row p585 sv396.2.2.2.2.2.2.2.1.length k586 c587 3 1] []) (by kernel_rfl) rfl ?_
          have hw := hw.drew
          have hC : Cls [.box b28 [.slice p726 rv724.2.L.length k727, .int .i64 rv724.2.At] 75, .box b83 [.slice p581 sv396.2.2.1.length k582, .int .i64 sv396.2.2.2.1, .int .i64 sv396.2.2.2.2.1, .slice p583 sv396.2.2.2.2.2.1.length k584, .int .i64 sv396.2.2.2.2.2.2.1] 51, .box b103 [.slice p86 rv85.1.Filter.Taps.length k87, .int .i64 rv85.1.Filter.Factor, .int .i64 rv85.1.Filter.Shift, .slice p91 rv85.1.Past.length k92, .int .i64 rv85.1.Number] 51, .row p86 rv85.1.Filter.Taps.length k87 c88 3 1, .row p106 rv105.1.length k107 c108 3 1, .row p585 sv396.2.2.2.2.2.2.2.1.length k586 c587 3 1] [] _ := hw.cls [0, 1, 2, 3, 4, 5] ⟨rfl, rfl, rfl, rfl, rfl, rfl, trivial⟩ trivial
          refine h_take hs (i := 0) rfl (by kernel_rfl) (by kernel_rfl) (by kernel_rfl) trivial rfl rfl hC (fun w hC => y_loadBA (hC.ownAt 1 rfl) rfl Try.isAgg51 Try.sizeOf51 rfl rfl) fun a hs => ?_
          refine h_take hs (i := 1) rfl (by kernel_rfl) (by kernel_rfl) (by kernel_rfl) trivial rfl rfl hC (fun w hC => y_move rfl) fun a hs => ?_
          refine h_take hs (i := 2) rfl (by kernel_rfl) (by kernel_rfl) (by kernel_rfl) trivial rfl rfl hC (fun w hC => y_move rfl) fun a hs => ?_
          refine h_take hs (i := 3) rfl (by kernel_rfl) (by kernel_rfl) (by kernel_rfl) trivial rfl rfl hC (fun w hC => y_move rfl) fun a hs => ?_
          refine h_take hs (i := 4) rfl (by kernel_rfl) (by kernel_rfl) (by kernel_rfl) trivial rfl rfl hC (fun w hC => y_slc Try.runUnderlying22 Try.sizeOf3 rfl ⟨_, rfl⟩ ⟨_, rfl⟩ h737) fun a hs => ?_
          refine h_all (rs := [5, 10]) (by kernel_rfl) rfl ?_
          refine AllH.cons rfl ?_ ?_
          · refine st_callR hs (filter_Push_ok h741 hw.dom (hw.envAt 5 rfl) (hw.envAt 6 rfl) (hw.envAt 0 rfl)) (do_call Try.call25 rfl) trivial rfl rfl ?_
            intro v759 Sv756 w a h757 h758 hs
            obtain ⟨p743, k744, c745, p748, k749, p751, k752, rfl, h746, h747, h750, h753⟩ := h758
            have hw := hw.callF h757 h746
            have hw := hw.addE (e := RowA c745 rv742.1.Filter.Taps) h747
            have hw := hw.addE (e := SlA p748 rv742.1.Past.length k749 rv742.1.Past) h750
            have hw := hw.addE (e := SlA p751 rv742.2.1.length k752 rv742.2.1) h753
            refine wpList_nil ?_
            refine then_normal ?_
            have hC : Cls [.box b28 [.slice p726 rv724.2.L.length k727, .int .i64 rv724.2.At] 75, .box b83 [.slice p581 sv396.2.2.1.length k582, .int .i64 sv396.2.2.2.1, .int .i64 sv396.2.2.2.2.1, .slice p583 sv396.2.2.2.2.2.1.length k584, .int .i64 sv396.2.2.2.2.2.2.1] 51, .box b103 [.slice p86 rv85.1.Filter.Taps.length k87, .int .i64 rv85.1.Filter.Factor, .int .i64 rv85.1.Filter.Shift, .slice p91 rv85.1.Past.length k92, .int .i64 rv85.1.Number] 51, .row p86 rv85.1.Filter.Taps.length k87 c88 3 1, .row p106 rv105.1.length k107 c108 3 1, .row p585 sv396.2.2.2.2.2.2.2.1.length k586 c587 3 1] [] _ := hw.cls [1, 2, 3, 4, 5, 6] ⟨rfl, rfl, rfl, rfl, rfl, rfl, trivial⟩ trivial
            refine ⟨hC, ?_⟩
            refine h_strong (C' := Cls [.box b28 [.slice p726 rv724.2.L.length k727, .int .i64 rv724.2.At] 75, .box b83 [.slice p581 sv396.2.2.1.length k582, .int .i64 sv396.2.2.2.1, .int .i64 sv396.2.2.2.2.1, .slice p583 sv396.2.2.2.2.2.1.length k584, .int .i64 sv396.2.2.2.2.2.2.1] 51, .box b103 [.slice p86 rv85.1.Filter.Taps.length k87, .int .i64 rv85.1.Filter.Factor, .int .i64 rv85.1.Filter.Shift, .slice p91 rv85.1.Past.length k92, .int .i64 rv85.1.Number] 51, .row p86 rv85.1.Filter.Taps.length k87 c88 3 1, .row p106 rv105.1.length k107 c108 3 1, .row p585 sv396.2.2.2.2.2.2.2.1.length k586 c587 3 1, .row p743 rv742.1.Filter.Taps.length k744 c745 3 1] []) (fun _ h => by exact h.sub [0, 1, 2, 3, 4, 5] ⟨rfl, rfl, rfl, rfl, rfl, rfl, trivial⟩ trivial) ?_
            have hC : Cls [.box b28 [.slice p726 rv724.2.L.length k727, .int .i64 rv724.2.At] 75, .box b83 [.slice p581 sv396.2.2.1.length k582, .int .i64 sv396.2.2.2.1, .int .i64 sv396.2.2.2.2.1, .slice p583 sv396.2.2.2.2.2.1.length k584, .int .i64 sv396.2.2.2.2.2.2.1] 51, .box b103 [.slice p86 rv85.1.Filter.Taps.length k87, .int .i64 rv85.1.Filter.Factor, .int .i64 rv85.1.Filter.Shift, .slice p91 rv85.1.Past.length k92, .int .i64 rv85.1.Number] 51, .row p86 rv85.1.Filter.Taps.length k87 c88 3 1, .row p106 rv105.1.length k107 c108 3 1, .row p585 sv396.2.2.2.2.2.2.2.1.length k586 c587 3 1, .row p743 rv742.1.Filter.Taps.length k744 c745 3 1] [] _ := hw.cls [1, 2, 3, 4, 5, 6, 0] ⟨rfl, rfl, rfl, rfl, rfl, rfl, rfl, trivial⟩ trivial
            refine h_take hs (i := 6) rfl (by kernel_rfl) (by kernel_rfl) (by kernel_rfl) trivial rfl rfl hC (fun w hC => y_move rfl) fun a hs => ?_
            refine h_take hs (i := 7) rfl (by kernel_rfl) (by kernel_rfl) (by kernel_rfl) trivial rfl rfl hC (fun w hC => y_extract rfl rfl) fun a hs => ?_
            refine h_take hs (i := 8) rfl (by kernel_rfl) (by kernel_rfl) (by kernel_rfl) trivial rfl rfl hC (fun w hC => y_extract rfl rfl) fun a hs => ?_
            refine h_take hs (i := 9) rfl (by kernel_rfl) (by kernel_rfl) (by kernel_rfl) trivial rfl rfl hC (fun w hC => y_extract rfl rfl) fun a hs => ?_
            refine h_all (rs := [10]) (by kernel_rfl) rfl ?_
            refine AllH.cons rfl ?_ ?_
            · refine w_alloc (cs := [.slice none ([] : List Int).length 0, .int .i64 0, .int .i64 0, .slice none ([] : List Int).length 0, .int .i64 0]) hs hw Try.zeroValue51 rfl rfl trivial ?_
              intro b754 a w hs hw
              refine wpList_nil ?_
              refine then_normal ?_
              have hC : Cls [.box b28 [.slice p726 rv724.2.L.length k727, .int .i64 rv724.2.At] 75, .box b83 [.slice p581 sv396.2.2.1.length k582, .int .i64 sv396.2.2.2.1, .int .i64 sv396.2.2.2.2.1, .slice p583 sv396.2.2.2.2.2.1.length k584, .int .i64 sv396.2.2.2.2.2.2.1] 51, .box b103 [.slice p86 rv85.1.Filter.Taps.length k87, .int .i64 rv85.1.Filter.Factor, .int .i64 rv85.1.Filter.Shift, .slice p91 rv85.1.Past.length k92, .int .i64 rv85.1.Number] 51, .row p86 rv85.1.Filter.Taps.length k87 c88 3 1, .row p106 rv105.1.length k107 c108 3 1, .row p585 sv396.2.2.2.2.2.2.2.1.length k586 c587 3 1, .row p743 rv742.1.Filter.Taps.length k744 c745 3 1] [] _ := hw.cls [2, 3, 4, 5, 6, 7, 1] ⟨rfl, rfl, rfl, rfl, rfl, rfl, rfl, trivial⟩ trivial
              refine ⟨hC, ?_⟩
              refine h_all (rs := [11]) (by kernel_rfl) rfl ?_
              refine AllH.cons rfl ?_ ?_
              · refine w_store (m := 5) (cs' := [.slice p743 rv742.1.Filter.Taps.length k744, .int .i64 rv742.1.Filter.Factor, .int .i64 rv742.1.Filter.Shift, .slice p748 rv742.1.Past.length k749, .int .i64 rv742.1.Number]) hs hw 0 rfl rfl rfl Try.sizeOf51 rfl rfl rfl rfl trivial ?_
                intro a w hs hw
                refine wpList_nil ?_
                refine then_normal ?_
                have hC : Cls [.box b28 [.slice p726 rv724.2.L.length k727, .int .i64 rv724.2.At] 75, .box b83 [.slice p581 sv396.2.2.1.length k582, .int .i64 sv396.2.2.2.1, .int .i64 sv396.2.2.2.2.1, .slice p583 sv396.2.2.2.2.2.1.length k584, .int .i64 sv396.2.2.2.2.2.2.1] 51, .box b103 [.slice p86 rv85.1.Filter.Taps.length k87, .int .i64 rv85.1.Filter.Factor, .int .i64 rv85.1.Filter.Shift, .slice p91 rv85.1.Past.length k92, .int .i64 rv85.1.Number] 51, .row p86 rv85.1.Filter.Taps.length k87 c88 3 1, .row p106 rv105.1.length k107 c108 3 1, .row p585 sv396.2.2.2.2.2.2.2.1.length k586 c587 3 1, .row p743 rv742.1.Filter.Taps.length k744 c745 3 1] [] _ := hw.cls [2, 3, 4, 5, 6, 7, 1] ⟨rfl, rfl, rfl, rfl, rfl, rfl, rfl, trivial⟩ trivial
                refine ⟨hC, ?_⟩
                refine h_take hs (i := 12) rfl (by kernel_rfl) (by kernel_rfl) (by kernel_rfl) trivial rfl rfl hC (fun w hC => y_assign rfl) fun a hs => ?_
                refine h_take hs (i := 13) rfl (by kernel_rfl) (by kernel_rfl) (by kernel_rfl) trivial rfl rfl hC (fun w hC => y_assign rfl) fun a hs => ?_
                refine h_done (by kernel_rfl) ?_
                exact ⟨Sv756, b754, c745, k744, k749, k752, p743, p748, p751, (hs.weaken _ ⟨rfl, rfl, rfl, rfl, rfl, rfl, rfl, rfl, rfl, rfl, rfl, rfl, rfl, rfl, trivial⟩), (hw.fit [2, 3, 4, 0, 5, 6, 7, 1] (by decide) ⟨rfl, rfl, rfl, rfl, rfl, rfl, rfl, rfl, trivial⟩ ⟨⟨5, rfl⟩, ⟨6, rfl⟩, ⟨0, rfl⟩, ⟨4, rfl⟩, ⟨8, rfl⟩, ⟨9, rfl⟩, ⟨10, rfl⟩, ⟨1, rfl⟩, ⟨11, rfl⟩, ⟨12, rfl⟩, ⟨13, rfl⟩, ⟨2, rfl⟩, trivial⟩)⟩
              exact AllH.nil
            exact AllH.nil
          refine AllH.cons rfl ?_ ?_
          · refine w_alloc (cs := [.slice none ([] : List Int).length 0, .int .i64 0, .int .i64 0, .slice none ([] : List Int).length 0, .int .i64 0]) hs hw Try.zeroValue51 rfl rfl trivial ?_
            intro b754 a w hs hw
            refine wpList_nil ?_
            refine then_normal ?_
            have hC : Cls [.box b28 [.slice p726 rv724.2.L.length k727, .int .i64 rv724.2.At] 75, .box b83 [.slice p581 sv396.2.2.1.length k582, .int .i64 sv396.2.2.2.1, .int .i64 sv396.2.2.2.2.1, .slice p583 sv396.2.2.2.2.2.1.length k584, .int .i64 sv396.2.2.2.2.2.2.1] 51, .box b103 [.slice p86 rv85.1.Filter.Taps.length k87, .int .i64 rv85.1.Filter.Factor, .int .i64 rv85.1.Filter.Shift, .slice p91 rv85.1.Past.length k92, .int .i64 rv85.1.Number] 51, .row p86 rv85.1.Filter.Taps.length k87 c88 3 1, .row p106 rv105.1.length k107 c108 3 1, .row p585 sv396.2.2.2.2.2.2.2.1.length k586 c587 3 1] [] _ := hw.cls [1, 2, 3, 4, 5, 6] ⟨rfl, rfl, rfl, rfl, rfl, rfl, trivial⟩ trivial
            refine ⟨hC, ?_⟩
            refine h_all (rs := [5]) (by kernel_rfl) rfl ?_
            refine AllH.cons rfl ?_ ?_
            · refine st_callR hs (filter_Push_ok h741 hw.dom (hw.envAt 5 rfl) (hw.envAt 6 rfl) (hw.envAt 0 rfl)) (do_call Try.call25 rfl) trivial rfl rfl ?_
              intro v763 Sv760 w a h761 h762 hs
              obtain ⟨p743, k744, c745, p748, k749, p751, k752, rfl, h746, h747, h750, h753⟩ := h762
              have hw := hw.callF h761 h746
              have hw := hw.addE (e := RowA c745 rv742.1.Filter.Taps) h747
              have hw := hw.addE (e := SlA p748 rv742.1.Past.length k749 rv742.1.Past) h750
              have hw := hw.addE (e := SlA p751 rv742.2.1.length k752 rv742.2.1) h753
              refine wpList_nil ?_
              refine then_normal ?_
              have hC : Cls [.box b28 [.slice p726 rv724.2.L.length k727, .int .i64 rv724.2.At] 75, .box b83 [.slice p581 sv396.2.2.1.length k582, .int .i64 sv396.2.2.2.1, .int .i64 sv396.2.2.2.2.1, .slice p583 sv396.2.2.2.2.2.1.length k584, .int .i64 sv396.2.2.2.2.2.2.1] 51, .box b103 [.slice p86 rv85.1.Filter.Taps.length k87, .int .i64 rv85.1.Filter.Factor, .int .i64 rv85.1.Filter.Shift, .slice p91 rv85.1.Past.length k92, .int .i64 rv85.1.Number] 51, .row p86 rv85.1.Filter.Taps.length k87 c88 3 1, .row p106 rv105.1.length k107 c108 3 1, .row p585 sv396.2.2.2.2.2.2.2.1.length k586 c587 3 1] [] _ := hw.cls [2, 3, 4, 5, 6, 7] ⟨rfl, rfl, rfl, rfl, rfl, rfl, trivial⟩ trivial
              refine ⟨hC, ?_⟩
              refine h_strong (C' := Cls [.box b28 [.slice p726 rv724.2.L.length k727, .int .i64 rv724.2.At] 75, .box b83 [.slice p581 sv396.2.2.1.length k582, .int .i64 sv396.2.2.2.1, .int .i64 sv396.2.2.2.2.1, .slice p583 sv396.2.2.2.2.2.1.length k584, .int .i64 sv396.2.2.2.2.2.2.1] 51, .box b103 [.slice p86 rv85.1.Filter.Taps.length k87, .int .i64 rv85.1.Filter.Factor, .int .i64 rv85.1.Filter.Shift, .slice p91 rv85.1.Past.length k92, .int .i64 rv85.1.Number] 51, .row p86 rv85.1.Filter.Taps.length k87 c88 3 1, .row p106 rv105.1.length k107 c108 3 1, .row p585 sv396.2.2.2.2.2.2.2.1.length k586 c587 3 1, .row p743 rv742.1.Filter.Taps.length k744 c745 3 1] []) (fun _ h => by exact h.sub [0, 1, 2, 3, 4, 5] ⟨rfl, rfl, rfl, rfl, rfl, rfl, trivial⟩ trivial) ?_
              have hC : Cls [.box b28 [.slice p726 rv724.2.L.length k727, .int .i64 rv724.2.At] 75, .box b83 [.slice p581 sv396.2.2.1.length k582, .int .i64 sv396.2.2.2.1, .int .i64 sv396.2.2.2.2.1, .slice p583 sv396.2.2.2.2.2.1.length k584, .int .i64 sv396.2.2.2.2.2.2.1] 51, .box b103 [.slice p86 rv85.1.Filter.Taps.length k87, .int .i64 rv85.1.Filter.Factor, .int .i64 rv85.1.Filter.Shift, .slice p91 rv85.1.Past.length k92, .int .i64 rv85.1.Number] 51, .row p86 rv85.1.Filter.Taps.length k87 c88 3 1, .row p106 rv105.1.length k107 c108 3 1, .row p585 sv396.2.2.2.2.2.2.2.1.length k586 c587 3 1, .row p743 rv742.1.Filter.Taps.length k744 c745 3 1] [] _ := hw.cls [2, 3, 4, 5, 6, 7, 0] ⟨rfl, rfl, rfl, rfl, rfl, rfl, rfl, trivial⟩ trivial
              refine h_take hs (i := 6) rfl (by kernel_rfl) (by kernel_rfl) (by kernel_rfl) trivial rfl rfl hC (fun w hC => y_move rfl) fun a hs => ?_
              refine h_take hs (i := 7) rfl (by kernel_rfl) (by kernel_rfl) (by kernel_rfl) trivial rfl rfl hC (fun w hC => y_extract rfl rfl) fun a hs => ?_
              refine h_take hs (i := 8) rfl (by kernel_rfl) (by kernel_rfl) (by kernel_rfl) trivial rfl rfl hC (fun w hC => y_extract rfl rfl) fun a hs => ?_
              refine h_take hs (i := 9) rfl (by kernel_rfl) (by kernel_rfl) (by kernel_rfl) trivial rfl rfl hC (fun w hC => y_extract rfl rfl) fun a hs => ?_
              refine h_all (rs := [11]) (by kernel_rfl) rfl ?_
              refine AllH.cons rfl ?_ ?_
              · refine w_store (m := 5) (cs' := [.slice p743 rv742.1.Filter.Taps.length k744, .int .i64 rv742.1.Filter.Factor, .int .i64 rv742.1.Filter.Shift, .slice p748 rv742.1.Past.length k749, .int .i64 rv742.1.Number]) hs hw 1 rfl rfl rfl Try.sizeOf51 rfl rfl rfl rfl trivial ?_
                intro a w hs hw
                refine wpList_nil ?_
                refine then_normal ?_
                have hC : Cls [.box b28 [.slice p726 rv724.2.L.length k727, .int .i64 rv724.2.At] 75, .box b83 [.slice p581 sv396.2.2.1.length k582, .int .i64 sv396.2.2.2.1, .int .i64 sv396.2.2.2.2.1, .slice p583 sv396.2.2.2.2.2.1.length k584, .int .i64 sv396.2.2.2.2.2.2.1] 51, .box b103 [.slice p86 rv85.1.Filter.Taps.length k87, .int .i64 rv85.1.Filter.Factor, .int .i64 rv85.1.Filter.Shift, .slice p91 rv85.1.Past.length k92, .int .i64 rv85.1.Number] 51, .row p86 rv85.1.Filter.Taps.length k87 c88 3 1, .row p106 rv105.1.length k107 c108 3 1, .row p585 sv396.2.2.2.2.2.2.2.1.length k586 c587 3 1, .row p743 rv742.1.Filter.Taps.length k744 c745 3 1] [] _ := hw.cls [2, 3, 4, 5, 6, 7, 0] ⟨rfl, rfl, rfl, rfl, rfl, rfl, rfl, trivial⟩ trivial
                refine ⟨hC, ?_⟩
                refine h_take hs (i := 12) rfl (by kernel_rfl) (by kernel_rfl) (by kernel_rfl) trivial rfl rfl hC (fun w hC => y_assign rfl) fun a hs => ?_
                refine h_take hs (i := 13) rfl (by kernel_rfl) (by kernel_rfl) (by kernel_rfl) trivial rfl rfl hC (fun w hC => y_assign rfl) fun a hs => ?_
                refine h_done (by kernel_rfl) ?_
                exact ⟨Sv760, b754, c745, k744, k749, k752, p743, p748, p751, (hs.weaken _ ⟨rfl, rfl, rfl, rfl, rfl, rfl, rfl, rfl, rfl, rfl, rfl, rfl, rfl, rfl, trivial⟩), (hw.fit [2, 3, 4, 1, 5, 6, 7, 0] (by decide) ⟨rfl, rfl, rfl, rfl, rfl, rfl, rfl, rfl, trivial⟩ ⟨⟨5, rfl⟩, ⟨6, rfl⟩, ⟨0, rfl⟩, ⟨4, rfl⟩, ⟨8, rfl⟩, ⟨9, rfl⟩, ⟨10, rfl⟩, ⟨1, rfl⟩, ⟨11, rfl⟩, ⟨12, rfl⟩, ⟨13, rfl⟩, ⟨2, rfl⟩, trivial⟩)⟩
              exact AllH.nil
            exact AllH.nil
          exact AllH.nil
        · rintro a w ⟨Sv755, b754, c745, k744, k749, k752, p743, p748, p751, hs, hw⟩
          refine then_normal ?_
          refine wp_seq ?_
          refine wp_seq ?_
          refine wp_region_lit ?_
          refine st_val hs (y_move rfl) trivial rfl rfl fun a hs => ?_
          refine st_val hs (y_neq rfl rfl) trivial rfl rfl fun a hs => ?_
          refine wpList_nil ?_
          refine then_normal ?_
          refine wp_cond_split (hs.ev rfl) (fun h765 => ?_) (fun h765 => ?_)
          · have hsh := ite_t hsh h765
            refine wp_seq ?_
            refine wp_region_lit ?_
            refine st_val hs (y_assign rfl) trivial rfl rfl fun a hs => ?_
            refine wpList_nil ?_
            refine then_normal ?_
            have hsh := Option.some.inj hsh
            subst hsh
            have h766 := hd675 _ rfl
            subst h766
            refine wp_ret ?_
            refine then_ret ?_
            refine blk_ret ?_
            refine then_ret ?_
            refine blk_ret ?_
            refine then_ret ?_
            exact ret1 hs rfl (rv_tmp rfl) (hw.ret rfl)
          · have hsh := ite_f hsh h765
            refine wp_skip ?_
            refine then_normal ?_
            obtain ⟨l768, h767, hsh⟩ := bind_t hsh
            refine wp_only (fun a w => ∃ (Sv772 : Nat → Prop) (c771 : List Value) (k770 : Nat) (p769 : Option Addr), Sl 114 [(5, .pointer (some ⟨b28, 0, none⟩)), (7, .slice p54 rv53.1.length k55), (8, .pointer (some ⟨b83, 0, none⟩)), (9, .int .i64 rv69.2), (10, .pointer (some ⟨b103, 0, none⟩)), (11, .slice p94 rv85.2.1.length k95), (12, .int .i64 rv85.2.2), (13, .slice p106 rv105.1.length k107), (14, .int .i64 rv105.2), (15, .slice p769 l768.length k770), (16, .int .i64 to734)] a ∧ Wd ⟨w0, S0, []⟩ Sv772 [.box b28 [.slice p726 rv724.2.L.length k727, .int .i64 rv724.2.At] 75, .box b83 [.slice p743 rv742.1.Filter.Taps.length k744, .int .i64 rv742.1.Filter.Factor, .int .i64 rv742.1.Filter.Shift, .slice p748 rv742.1.Past.length k749, .int .i64 rv742.1.Number] 51, .box b103 [.slice p86 rv85.1.Filter.Taps.length k87, .int .i64 rv85.1.Filter.Factor, .int .i64 rv85.1.Filter.Shift, .slice p91 rv85.1.Past.length k92, .int .i64 rv85.1.Number] 51, .row p86 rv85.1.Filter.Taps.length k87 c88 3 1, .row p106 rv105.1.length k107 c108 3 1, .row p769 l768.length k770 c771 3 1, .row p743 rv742.1.Filter.Taps.length k744 c745 3 1] [SlA p54 rv53.1.length k55 rv53.1, SlA p94 rv85.2.1.length k95 rv85.2.1, SlA p726 rv724.2.L.length k727 rv724.2.L, SlA p748 rv742.1.Past.length k749 rv742.1.Past, SlA p91 rv85.1.Past.length k92 rv85.1.Past, RowA c88 rv85.1.Filter.Taps, RowA c108 rv105.1, RowA c771 l768, RowA c745 rv742.1.Filter.Taps] w) ?_ ?_
            · refine h_begin (C := Cls [.box b28 [.slice p726 rv724.2.L.length k727, .int .i64 rv724.2.At] 75, .box b103 [.slice p86 rv85.1.Filter.Taps.length k87, .int .i64 rv85.1.Filter.Factor, .int .i64 rv85.1.Filter.Shift, .slice p91 rv85.1.Past.length k92, .int .i64 rv85.1.Number] 51, .box b754 [.slice p743 rv742.1.Filter.Taps.length k744, .int .i64 rv742.1.Filter.Factor, .int .i64 rv742.1.Filter.Shift, .slice p748 rv742.1.Past.length k749, .int .i64 rv742.1.Number] 51, .row p86 rv85.1.Filter.Taps.length k87 c88 3 1, .row p106 rv105.1.length k107 c108 3 1, .row p743 rv742.1.Filter.Taps.length k744 c745 3 1] []) (by kernel_rfl) rfl ?_
              have hw := hw.drew
              have hC : Cls [.box b28 [.slice p726 rv724.2.L.length k727, .int .i64 rv724.2.At] 75, .box b103 [.slice p86 rv85.1.Filter.Taps.length k87, .int .i64 rv85.1.Filter.Factor, .int .i64 rv85.1.Filter.Shift, .slice p91 rv85.1.Past.length k92, .int .i64 rv85.1.Number] 51, .box b754 [.slice p743 rv742.1.Filter.Taps.length k744, .int .i64 rv742.1.Filter.Factor, .int .i64 rv742.1.Filter.Shift, .slice p748 rv742.1.Past.length k749, .int .i64 rv742.1.Number] 51, .row p86 rv85.1.Filter.Taps.length k87 c88 3 1, .row p106 rv105.1.length k107 c108 3 1, .row p743 rv742.1.Filter.Taps.length k744 c745 3 1] [] _ := hw.cls [0, 2, 3, 4, 5, 7] ⟨rfl, rfl, rfl, rfl, rfl, rfl, trivial⟩ trivial
              refine h_take hs (i := 0) rfl (by kernel_rfl) (by kernel_rfl) (by kernel_rfl) trivial rfl rfl hC (fun w hC => y_loadBA (hC.ownAt 2 rfl) rfl Try.isAgg51 Try.sizeOf51 rfl rfl) fun a hs => ?_
              refine h_take hs (i := 1) rfl (by kernel_rfl) (by kernel_rfl) (by kernel_rfl) trivial rfl rfl hC (fun w hC => y_move rfl) fun a hs => ?_
              refine h_take hs (i := 2) rfl (by kernel_rfl) (by kernel_rfl) (by kernel_rfl) trivial rfl rfl hC (fun w hC => y_move rfl) fun a hs => ?_
              refine h_take hs (i := 4) rfl (by kernel_rfl) (by kernel_rfl) (by kernel_rfl) trivial rfl rfl hC (fun w hC => y_move rfl) fun a hs => ?_
              refine h_all (rs := [3]) (by kernel_rfl) rfl ?_
              refine AllH.cons rfl ?_ ?_
              · refine w_appendE (α := Int) hs hw El22 6 rfl rfl rfl 10 rfl 2 rfl h767 rfl trivial ?_
                intro p769 k770 c771 a w hs hw
                refine wpList_nil ?_
                refine then_normal ?_
                have hC : Cls [.box b28 [.slice p726 rv724.2.L.length k727, .int .i64 rv724.2.At] 75, .box b103 [.slice p86 rv85.1.Filter.Taps.length k87, .int .i64 rv85.1.Filter.Factor, .int .i64 rv85.1.Filter.Shift, .slice p91 rv85.1.Past.length k92, .int .i64 rv85.1.Number] 51, .box b754 [.slice p743 rv742.1.Filter.Taps.length k744, .int .i64 rv742.1.Filter.Factor, .int .i64 rv742.1.Filter.Shift, .slice p748 rv742.1.Past.length k749, .int .i64 rv742.1.Number] 51, .row p86 rv85.1.Filter.Taps.length k87 c88 3 1, .row p106 rv105.1.length k107 c108 3 1, .row p743 rv742.1.Filter.Taps.length k744 c745 3 1] [] _ := hw.cls [0, 2, 3, 4, 5, 7] ⟨rfl, rfl, rfl, rfl, rfl, rfl, trivial⟩ trivial
                refine ⟨hC, ?_⟩
                refine h_all (rs := [5]) (by kernel_rfl) rfl ?_
                refine AllH.cons rfl ?_ ?_
                · refine w_store (m := 5) (cs' := [.slice p743 rv742.1.Filter.Taps.length k744, .int .i64 rv742.1.Filter.Factor, .int .i64 rv742.1.Filter.Shift, .slice p748 rv742.1.Past.length k749, .int .i64 rv742.1.Number]) hs hw 1 rfl rfl rfl Try.sizeOf51 rfl rfl rfl rfl trivial ?_
                  intro a w hs hw
                  refine wpList_nil ?_
                  refine then_normal ?_
                  have hC : Cls [.box b28 [.slice p726 rv724.2.L.length k727, .int .i64 rv724.2.At] 75, .box b103 [.slice p86 rv85.1.Filter.Taps.length k87, .int .i64 rv85.1.Filter.Factor, .int .i64 rv85.1.Filter.Shift, .slice p91 rv85.1.Past.length k92, .int .i64 rv85.1.Number] 51, .box b754 [.slice p743 rv742.1.Filter.Taps.length k744, .int .i64 rv742.1.Filter.Factor, .int .i64 rv742.1.Filter.Shift, .slice p748 rv742.1.Past.length k749, .int .i64 rv742.1.Number] 51, .row p86 rv85.1.Filter.Taps.length k87 c88 3 1, .row p106 rv105.1.length k107 c108 3 1, .row p743 rv742.1.Filter.Taps.length k744 c745 3 1] [] _ := hw.cls [0, 2, 3, 4, 5, 7] ⟨rfl, rfl, rfl, rfl, rfl, rfl, trivial⟩ trivial
                  refine ⟨hC, ?_⟩
                  refine h_take hs (i := 6) rfl (by kernel_rfl) (by kernel_rfl) (by kernel_rfl) trivial rfl rfl hC (fun w hC => y_assign rfl) fun a hs => ?_
                  refine h_take hs (i := 7) rfl (by kernel_rfl) (by kernel_rfl) (by kernel_rfl) trivial rfl rfl hC (fun w hC => y_assign rfl) fun a hs => ?_
                  refine h_done (by kernel_rfl) ?_
                  exact ⟨Sv755, c771, k770, p769, (hs.weaken _ ⟨rfl, rfl, rfl, rfl, rfl, rfl, rfl, rfl, rfl, rfl, rfl, trivial⟩), (hw.fit [0, 1, 2, 4, 5, 6, 7] (by decide) ⟨rfl, rfl, rfl, rfl, rfl, rfl, rfl, trivial⟩ ⟨⟨1, rfl⟩, ⟨2, rfl⟩, ⟨4, rfl⟩, ⟨8, rfl⟩, ⟨7, rfl⟩, ⟨9, rfl⟩, ⟨10, rfl⟩, ⟨0, rfl⟩, ⟨12, rfl⟩, trivial⟩)⟩
                exact AllH.nil
              exact AllH.nil
            · rintro a w ⟨Sv772, c771, k770, p769, hs, hw⟩
              refine blk_normal ?_
              refine then_normal ?_
              obtain ⟨Sv773, hw⟩ := w_share (α := Int) hw 6 rfl 8 rfl (.inl rfl)
              exact ⟨_, (Option.some.inj hsh).symm, p726, k727, p743, k744, p748, k749, p769, k770, c771, Sv773, (hs.weaken _ ⟨rfl, rfl, rfl, rfl, rfl, rfl, rfl, rfl, rfl, rfl, rfl, trivial⟩), (hw.fit [0, 1, 2, 3, 4, 5] (by decide) ⟨rfl, rfl, rfl, rfl, rfl, rfl, trivial⟩ ⟨⟨1, rfl⟩, ⟨2, rfl⟩, ⟨3, rfl⟩, ⟨0, rfl⟩, ⟨4, rfl⟩, ⟨5, rfl⟩, ⟨6, rfl⟩, ⟨7, rfl⟩, ⟨8, rfl⟩, trivial⟩)⟩
      · have hsh := ite_f hsh h681
        obtain ⟨rv845, hsh, h846⟩ := map_t hsh
        have h846 := hd675 _ h846.symm
        subst h846
        refine wp_exit ?_
        refine then_exit ?_
        refine then_exit ?_
        refine blk_exit ?_
        refine then_normal ?_
        refine wp_seq ?_
        refine wp_region_lit ?_
        refine st_val hs (y_move rfl) trivial rfl rfl fun a hs => ?_
        refine st_val hs (y_eql rfl rfl) trivial rfl rfl fun a hs => ?_
        refine st_val hs (y_move rfl) trivial rfl rfl fun a hs => ?_
        refine wpl_join 3 (fun a w1 => w = w1 ∧ Sl 114 [(8, .pointer (some ⟨b83, 0, none⟩)), (10, .pointer (some ⟨b103, 0, none⟩)), (11, .slice p94 rv85.2.1.length k95), (13, .slice p106 rv105.1.length k107), (14, .int .i64 rv105.2), (15, .slice p585 sv396.2.2.2.2.2.2.2.1.length k586), (91, .bool ((rv69.2 == 0) && (rv85.2.2 == 0)))] a) ?_ ?_
        · rcases Bool.eq_false_or_eq_true (rv69.2 == 0) with h774 | h774
          · have hs := hs.fix 88 (.bool true) rfl (vb h774)
            refine st_val hs (y_move rfl) ⟨_, rfl, rfl⟩ rfl rfl fun a hs => ?_
            refine st_val hs (y_eql rfl rfl) ⟨_, rfl, rfl⟩ rfl rfl fun a hs => ?_
            refine st_val hs (y_pickT rfl rfl) trivial rfl rfl fun a hs => ?_
            refine wpList_nil ?_
            refine then_normal ?_
            exact ⟨rfl, (hs.fix 91 (.bool ((rv69.2 == 0) && (rv85.2.2 == 0))) rfl (and_t h774)).weaken _ ⟨rfl, rfl, rfl, rfl, rfl, rfl, rfl, trivial⟩⟩
          · have hs := hs.fix 88 (.bool false) rfl (vb h774)
            refine st_skip hs rfl rfl rfl rfl rfl fun a hs => ?_
            refine st_skip hs rfl rfl rfl rfl rfl fun a hs => ?_
            refine st_val hs (y_pickF rfl rfl) trivial rfl rfl fun a hs => ?_
            refine wpList_nil ?_
            refine then_normal ?_
            exact ⟨rfl, (hs.fix 91 (.bool ((rv69.2 == 0) && (rv85.2.2 == 0))) rfl (and_f h774)).weaken _ ⟨rfl, rfl, rfl, rfl, rfl, rfl, rfl, trivial⟩⟩
        · rintro a w1 ⟨h844, hs⟩
          subst h844
          refine st_val hs (y_move rfl) trivial rfl rfl fun a hs => ?_
          refine wpl_join 3 (fun a w1 => w = w1 ∧ Sl 114 [(8, .pointer (some ⟨b83, 0, none⟩)), (10, .pointer (some ⟨b103, 0, none⟩)), (11, .slice p94 rv85.2.1.length k95), (13, .slice p106 rv105.1.length k107), (15, .slice p585 sv396.2.2.2.2.2.2.2.1.length k586), (95, .bool (((rv69.2 == 0) && (rv85.2.2 == 0)) && (rv105.2 == 0)))] a) ?_ ?_
          · rcases Bool.eq_false_or_eq_true ((rv69.2 == 0) && (rv85.2.2 == 0)) with h775 | h775
            · have hs := hs.fix 92 (.bool true) rfl (vb h775)
              refine st_val hs (y_move rfl) ⟨_, rfl, rfl⟩ rfl rfl fun a hs => ?_
              refine st_val hs (y_eql rfl rfl) ⟨_, rfl, rfl⟩ rfl rfl fun a hs => ?_
              refine st_val hs (y_pickT rfl rfl) trivial rfl rfl fun a hs => ?_
              refine wpList_nil ?_
              refine then_normal ?_
              exact ⟨rfl, (hs.fix 95 (.bool (((rv69.2 == 0) && (rv85.2.2 == 0)) && (rv105.2 == 0))) rfl (and_t h775)).weaken _ ⟨rfl, rfl, rfl, rfl, rfl, rfl, trivial⟩⟩
            · have hs := hs.fix 92 (.bool false) rfl (vb h775)
              refine st_skip hs rfl rfl rfl rfl rfl fun a hs => ?_
              refine st_skip hs rfl rfl rfl rfl rfl fun a hs => ?_
              refine st_val hs (y_pickF rfl rfl) trivial rfl rfl fun a hs => ?_
              refine wpList_nil ?_
              refine then_normal ?_
              exact ⟨rfl, (hs.fix 95 (.bool (((rv69.2 == 0) && (rv85.2.2 == 0)) && (rv105.2 == 0))) rfl (and_f h775)).weaken _ ⟨rfl, rfl, rfl, rfl, rfl, rfl, trivial⟩⟩
          · rintro a w1 ⟨h843, hs⟩
            subst h843
            refine st_val hs (y_move rfl) trivial rfl rfl fun a hs => ?_
            obtain ⟨c785, hc785, hsh⟩ := bind_t hsh
            refine wpl_join 4 (fun a w => ∃ (Sv786 : Nat → Prop), Sl 114 [(8, .pointer (some ⟨b83, 0, none⟩)), (10, .pointer (some ⟨b103, 0, none⟩)), (11, .slice p94 rv85.2.1.length k95), (13, .slice p106 rv105.1.length k107), (100, .bool c785)] a ∧ Wd ⟨w0, S0, []⟩ Sv786 [.box b83 [.slice p581 sv396.2.2.1.length k582, .int .i64 sv396.2.2.2.1, .int .i64 sv396.2.2.2.2.1, .slice p583 sv396.2.2.2.2.2.1.length k584, .int .i64 sv396.2.2.2.2.2.2.1] 51, .box b103 [.slice p86 rv85.1.Filter.Taps.length k87, .int .i64 rv85.1.Filter.Factor, .int .i64 rv85.1.Filter.Shift, .slice p91 rv85.1.Past.length k92, .int .i64 rv85.1.Number] 51, .row p86 rv85.1.Filter.Taps.length k87 c88 3 1] [SlA p94 rv85.2.1.length k95 rv85.2.1, SlA p106 rv105.1.length k107 rv105.1, SlA p581 sv396.2.2.1.length k582 sv396.2.2.1, SlA p583 sv396.2.2.2.2.2.1.length k584 sv396.2.2.2.2.2.1, SlA p91 rv85.1.Past.length k92 rv85.1.Past, RowA c88 rv85.1.Filter.Taps] w) ?_ ?_
            · rcases Bool.eq_false_or_eq_true (((rv69.2 == 0) && (rv85.2.2 == 0)) && (rv105.2 == 0)) with h784 | h784
              · have hs := hs.fix 96 (.bool true) rfl (vb h784)
                have hsh := ite_t hc785 h784
                refine st_val hs (y_move rfl) ⟨_, rfl, rfl⟩ rfl rfl fun a hs => ?_
                refine st_val hs (y_move rfl) ⟨_, rfl, rfl⟩ rfl rfl fun a hs => ?_
                obtain ⟨rv788, h787, hsh⟩ := bind_t hsh
                obtain ⟨Sv789, hw⟩ := w_share (α := Int) hw 5 rfl 8 rfl (.inl rfl)
                obtain ⟨Sv790, hw⟩ := w_share (α := Int) hw 4 rfl 8 rfl (.inl rfl)
                refine st_callR hs (ref05_Same_ok h787 hw.dom (hw.envAt 1 rfl) (hw.envAt 0 rfl)) (do_call Try.call23 rfl) ⟨_, rfl, rfl⟩ rfl rfl ?_
                intro v794 Sv791 w a h792 h793 hs
                subst h793
                have hw := hw.call h792
                refine st_val hs (y_pickT rfl rfl) trivial rfl rfl fun a hs => ?_
                refine wpList_nil ?_
                have hsh := Option.some.inj hsh
                subst hsh
                refine then_normal ?_
                exact ⟨Sv791, (hs.weaken _ ⟨rfl, rfl, rfl, rfl, rfl, trivial⟩), (hw.fit [1, 2, 3] (by decide) ⟨rfl, rfl, rfl, trivial⟩ ⟨⟨3, rfl⟩, ⟨0, rfl⟩, ⟨5, rfl⟩, ⟨6, rfl⟩, ⟨7, rfl⟩, ⟨8, rfl⟩, trivial⟩)⟩
              · have hs := hs.fix 96 (.bool false) rfl (vb h784)
                have hsh := ite_f hc785 h784
                refine st_skip hs rfl rfl rfl rfl rfl fun a hs => ?_
                refine st_skip hs rfl rfl rfl rfl rfl fun a hs => ?_
                refine st_skip hs rfl rfl rfl rfl rfl fun a hs => ?_
                refine st_val hs (y_pickF rfl rfl) trivial rfl rfl fun a hs => ?_
                refine wpList_nil ?_
                obtain ⟨Sv795, hw⟩ := w_share (α := Int) hw 4 rfl 7 rfl (.inl rfl)
                have hsh := Option.some.inj hsh
                subst hsh
                refine then_normal ?_
                exact ⟨Sv795, (hs.weaken _ ⟨rfl, rfl, rfl, rfl, rfl, trivial⟩), (hw.fit [1, 2, 3] (by decide) ⟨rfl, rfl, rfl, trivial⟩ ⟨⟨2, rfl⟩, ⟨0, rfl⟩, ⟨4, rfl⟩, ⟨5, rfl⟩, ⟨6, rfl⟩, ⟨7, rfl⟩, trivial⟩)⟩
            · rintro a w ⟨Sv786, hs, hw⟩
              refine st_val hs (y_move rfl) trivial rfl rfl fun a hs => ?_
              obtain ⟨c803, hc803, hsh⟩ := bind_t hsh
              refine wpl_join 4 (fun a w => ∃ (Sv804 : Nat → Prop), Sl 114 [(8, .pointer (some ⟨b83, 0, none⟩)), (10, .pointer (some ⟨b103, 0, none⟩)), (105, .bool c803)] a ∧ Wd ⟨w0, S0, []⟩ Sv804 [.box b83 [.slice p581 sv396.2.2.1.length k582, .int .i64 sv396.2.2.2.1, .int .i64 sv396.2.2.2.2.1, .slice p583 sv396.2.2.2.2.2.1.length k584, .int .i64 sv396.2.2.2.2.2.2.1] 51, .box b103 [.slice p86 rv85.1.Filter.Taps.length k87, .int .i64 rv85.1.Filter.Factor, .int .i64 rv85.1.Filter.Shift, .slice p91 rv85.1.Past.length k92, .int .i64 rv85.1.Number] 51, .row p86 rv85.1.Filter.Taps.length k87 c88 3 1] [SlA p581 sv396.2.2.1.length k582 sv396.2.2.1, SlA p583 sv396.2.2.2.2.2.1.length k584 sv396.2.2.2.2.2.1, SlA p91 rv85.1.Past.length k92 rv85.1.Past, RowA c88 rv85.1.Filter.Taps] w) ?_ ?_
              · rcases Bool.eq_false_or_eq_true c785 with h802 | h802
                · have hs := hs.fix 101 (.bool true) rfl (vb h802)
                  have hsh := ite_t hc803 h802
                  refine st_val hs (y_move rfl) ⟨_, rfl, rfl⟩ rfl rfl fun a hs => ?_
                  refine st_val hs (y_move rfl) ⟨_, rfl, rfl⟩ rfl rfl fun a hs => ?_
                  obtain ⟨rv806, h805, hsh⟩ := bind_t hsh
                  refine st_callR hs (ref05_Same_ok h805 hw.dom (hw.envAt 0 rfl) (hw.envAt 1 rfl)) (do_call Try.call23 rfl) ⟨_, rfl, rfl⟩ rfl rfl ?_
                  intro v810 Sv807 w a h808 h809 hs
                  subst h809
                  have hw := hw.call h808
                  refine st_val hs (y_pickT rfl rfl) trivial rfl rfl fun a hs => ?_
                  refine wpList_nil ?_
                  have hsh := Option.some.inj hsh
                  subst hsh
                  refine then_normal ?_
                  exact ⟨Sv807, (hs.weaken _ ⟨rfl, rfl, rfl, trivial⟩), (hw.fit [0, 1, 2] (by decide) ⟨rfl, rfl, rfl, trivial⟩ ⟨⟨2, rfl⟩, ⟨3, rfl⟩, ⟨4, rfl⟩, ⟨5, rfl⟩, trivial⟩)⟩
                · have hs := hs.fix 101 (.bool false) rfl (vb h802)
                  have hsh := ite_f hc803 h802
                  refine st_skip hs rfl rfl rfl rfl rfl fun a hs => ?_
                  refine st_skip hs rfl rfl rfl rfl rfl fun a hs => ?_
                  refine st_skip hs rfl rfl rfl rfl rfl fun a hs => ?_
                  refine st_val hs (y_pickF rfl rfl) trivial rfl rfl fun a hs => ?_
                  refine wpList_nil ?_
                  have hsh := Option.some.inj hsh
                  subst hsh
                  refine then_normal ?_
                  exact ⟨Sv786, (hs.weaken _ ⟨rfl, rfl, rfl, trivial⟩), (hw.fit [0, 1, 2] (by decide) ⟨rfl, rfl, rfl, trivial⟩ ⟨⟨2, rfl⟩, ⟨3, rfl⟩, ⟨4, rfl⟩, ⟨5, rfl⟩, trivial⟩)⟩
              · rintro a w ⟨Sv804, hs, hw⟩
                refine st_val hs (y_move rfl) trivial rfl rfl fun a hs => ?_
                obtain ⟨c819, hc819, hsh⟩ := bind_t hsh
                refine wpl_join 4 (fun a w => ∃ (Sv820 : Nat → Prop), Sl 114 [(110, .bool c819)] a ∧ Wd ⟨w0, S0, []⟩ Sv820 [] [] w) ?_ ?_
                · rcases Bool.eq_false_or_eq_true c803 with h818 | h818
                  · have hs := hs.fix 106 (.bool true) rfl (vb h818)
                    have hsh := ite_t hc819 h818
                    refine st_val hs (y_loadBA (hw.ownAt 0 rfl) rfl Try.isAgg51 Try.sizeOf51 rfl rfl) ⟨_, rfl, rfl⟩ rfl rfl fun a hs => ?_
                    refine st_val hs (y_loadBA (hw.ownAt 1 rfl) rfl Try.isAgg51 Try.sizeOf51 rfl rfl) ⟨_, rfl, rfl⟩ rfl rfl fun a hs => ?_
                    obtain ⟨rv822, h821, hsh⟩ := bind_t hsh
                    obtain ⟨Sv823, hw⟩ := w_share (α := Int) hw 2 rfl 3 rfl (.inl rfl)
                    refine st_callR hs (ref21_SameFeed_ok h821 hw.dom (hw.envAt 1 rfl) (hw.envAt 2 rfl) (hw.envAt 0 rfl) (hw.envAt 3 rfl)) (do_call Try.call26 rfl) ⟨_, rfl, rfl⟩ rfl rfl ?_
                    intro v827 Sv824 w a h825 h826 hs
                    subst h826
                    have hw := hw.call h825
                    refine st_val hs (y_pickT rfl rfl) trivial rfl rfl fun a hs => ?_
                    refine wpList_nil ?_
                    have hsh := Option.some.inj hsh
                    subst hsh
                    refine then_normal ?_
                    exact ⟨Sv824, (hs.weaken _ ⟨rfl, trivial⟩), (hw.fit [] (by decide) trivial trivial)⟩
                  · have hs := hs.fix 106 (.bool false) rfl (vb h818)
                    have hsh := ite_f hc819 h818
                    refine st_skip hs rfl rfl rfl rfl rfl fun a hs => ?_
                    refine st_skip hs rfl rfl rfl rfl rfl fun a hs => ?_
                    refine st_skip hs rfl rfl rfl rfl rfl fun a hs => ?_
                    refine st_val hs (y_pickF rfl rfl) trivial rfl rfl fun a hs => ?_
                    refine wpList_nil ?_
                    have hsh := Option.some.inj hsh
                    subst hsh
                    refine then_normal ?_
                    exact ⟨Sv804, (hs.weaken _ ⟨rfl, trivial⟩), (hw.fit [] (by decide) trivial trivial)⟩
                · rintro a w ⟨Sv820, hs, hw⟩
                  refine st_val hs (y_move rfl) trivial rfl rfl fun a hs => ?_
                  obtain ⟨c835, hc835, hsh⟩ := bind_t hsh
                  refine wpl_join 2 (fun a w => ∃ (Sv836 : Nat → Prop), Sl 114 [(113, .bool c835)] a ∧ Wd ⟨w0, S0, []⟩ Sv836 [] [] w) ?_ ?_
                  · rcases Bool.eq_false_or_eq_true c819 with h834 | h834
                    · have hs := hs.fix 111 (.bool true) rfl (vb h834)
                      have hsh := ite_t hc835 h834
                      obtain ⟨rv838, h837, hsh⟩ := bind_t hsh
                      refine st_callR hs (law21_sane_ok h837 hw.dom) (do_call Try.call11 rfl) ⟨_, rfl, rfl⟩ rfl rfl ?_
                      intro v842 Sv839 w a h840 h841 hs
                      subst h841
                      have hw := hw.call h840
                      refine st_val hs (y_pickT rfl rfl) trivial rfl rfl fun a hs => ?_
                      refine wpList_nil ?_
                      have hsh := Option.some.inj hsh
                      subst hsh
                      refine then_normal ?_
                      exact ⟨Sv839, (hs.weaken _ ⟨rfl, trivial⟩), (hw.fit [] (by decide) trivial trivial)⟩
                    · have hs := hs.fix 111 (.bool false) rfl (vb h834)
                      have hsh := ite_f hc835 h834
                      refine st_skip hs rfl rfl rfl rfl rfl fun a hs => ?_
                      refine st_val hs (y_pickF rfl rfl) trivial rfl rfl fun a hs => ?_
                      refine wpList_nil ?_
                      have hsh := Option.some.inj hsh
                      subst hsh
                      refine then_normal ?_
                      exact ⟨Sv820, (hs.weaken _ ⟨rfl, trivial⟩), (hw.fit [] (by decide) trivial trivial)⟩
                  · rintro a w ⟨Sv836, hs, hw⟩
                    refine st_val hs (y_assign rfl) trivial rfl rfl fun a hs => ?_
                    refine wpList_nil ?_
                    refine then_normal ?_
                    have hsh := Option.some.inj hsh
                    subst hsh
                    refine wp_ret ?_
                    exact ret1 hs rfl (rv_tmp rfl) (hw.ret rfl)

end Go.Proofs.Ytmihimhknllmcaa.Wk

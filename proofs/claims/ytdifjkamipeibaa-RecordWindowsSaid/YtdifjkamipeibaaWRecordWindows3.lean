/- The walks of RecordWindows, part 3: each Go function computes what its plain program computes. Printed by a program of ours. -/
import Derived.Test.YtdifjkamipeibaaProg
import Derived.Test.YtdifjkamipeibaaDat
import Derived.Test.YtdifjkamipeibaaSh
import Derived.Test.YtdifjkamipeibaaLibL
import Derived.KernelRfl
import Derived.Test.YtdifjkamipeibaaWRecordWindows2
namespace Go.Proofs.Ytdifjkamipeibaa.Wk
open Go Go.RowKit Go.Proofs Go.Proofs.Ytdifjkamipeibaa.Sh
set_option linter.unusedVariables false
set_option linter.unusedSimpArgs false

abbrev law14_RecordWindows_rd (w0 : World) (r : Bool) : (Nat → Prop) → World → Value → Prop := fun S w v => v = .bool r
set_option maxHeartbeats 4000000 in
set_option maxRecDepth 100000 in
theorem law14_RecordWindows_ok {w0 : World} {S0 : Nat → Prop} {p2 : Option Addr} {k3 : Nat} {t1 : (List Int)} {n5 : Int} {m6 : Int} {r : Bool} (hsh : law14_RecordWindows t1 n5 m6 = some r) (hS : ∀ b, S0 b → b < w0.heap.size) (h4 : (SlA p2 t1.length k3 t1).p S0 w0) : Calls Try.prog 4 #[.slice p2 t1.length k3, .int .u8 n5, .int .u8 m6] w0 (Ret [] w0 S0 (law14_RecordWindows_rd w0 r)) := by
  refine calls_of_wp Try.func4 rfl ?_
  have hs := Sl.enter #[.slice p2 t1.length k3, .int .u8 n5, .int .u8 m6] 238 [(0, .slice p2 t1.length k3), (1, .int .u8 n5), (2, .int .u8 m6)] rfl ⟨rfl, rfl, rfl, trivial⟩
  have hw := Wd.enter (E := []) hS (fun _ h => (by cases h))
  have hw := hw.addE h4
  delta law14_RecordWindows at hsh
  refine wp_seq ?_
  refine wp_region_lit ?_
  refine st_val hs (y_assign rfl) trivial rfl rfl fun a hs => ?_
  refine wpList_nil ?_
  refine then_normal ?_
  refine wp_seq ?_
  refine wp_seq ?_
  refine wp_region_lit ?_
  refine st_val hs (y_move rfl) trivial rfl rfl fun a hs => ?_
  obtain ⟨rv8, h7, hsh⟩ := bind_t hsh
  refine st_callR hs (made_Light_ok h7 hw.dom (hw.envAt 0 rfl)) (do_call Try.call7 rfl) trivial rfl rfl ?_
  intro v12 Sv9 w a h10 h11 hs
  subst h11
  have hw := hw.call h10
  refine st_val hs (y_not rfl) trivial rfl rfl fun a hs => ?_
  refine wpList_nil ?_
  refine then_normal ?_
  refine wp_cond_split (hs.ev rfl) (fun h20 => ?_) (fun h20 => ?_)
  · have hsh := ite_t hsh h20
    refine wp_seq ?_
    refine wp_region_lit ?_
    obtain ⟨rv22, h21, hsh⟩ := bind_t hsh
    refine st_callR hs (law14_sane_ok h21 hw.dom) (do_call Try.call8 rfl) trivial rfl rfl ?_
    intro v26 Sv23 w a h24 h25 hs
    subst h25
    have hw := hw.call h24
    refine st_val hs (y_assign rfl) trivial rfl rfl fun a hs => ?_
    refine wpList_nil ?_
    refine then_normal ?_
    have hsh := Option.some.inj hsh
    subst hsh
    refine wp_ret ?_
    refine then_ret ?_
    exact ret1 hs rfl (rv_tmp rfl) (hw.ret rfl)
  · have hsh := ite_f hsh h20
    refine wp_skip ?_
    refine then_normal ?_
    refine wp_seq ?_
    refine wp_region_lit ?_
    refine st_val hs (y_move rfl) trivial rfl rfl fun a hs => ?_
    obtain ⟨rv28, h27, hsh⟩ := bind_t hsh
    refine st_callR hs (made_Roll_ok h27 hw.dom (hw.envAt 0 rfl)) (do_call Try.call9 rfl) trivial rfl rfl ?_
    intro v37 Sv34 w a h35 h36 hs
    obtain ⟨b29, p31, k32, rfl, h30, h33⟩ := h36
    have hw := hw.callF h35 h30
    have hw := hw.addE (e := SlA p31 rv28.L.length k32 rv28.L) h33
    refine st_val hs (y_assign rfl) trivial rfl rfl fun a hs => ?_
    refine wpList_nil ?_
    refine then_normal ?_
    refine wp_seq ?_
    refine wp_region_lit ?_
    refine st_val hs (y_move rfl) trivial rfl rfl fun a hs => ?_
    refine st_val hs (y_move rfl) trivial rfl rfl fun a hs => ?_
    obtain ⟨rv39, h38, hsh⟩ := bind_t hsh
    refine st_callR hs (made_Dice_Source_ok h38 hw.dom (hw.ownAt 0 rfl) (hw.boxS 0 rfl) (hw.envAt 0 rfl)) (do_call Try.call11 rfl) trivial rfl rfl ?_
    intro v47 Sv44 w a h45 h46 hs
    obtain ⟨p41, k42, rfl, h40, h43⟩ := h46
    have hw := hw.call1 0 rfl h45 h40
    have hw := hw.addE (e := SlA p41 rv39.2.L.length k42 rv39.2.L) h43
    obtain ⟨rv49, h48, hsh⟩ := bind_t hsh
    refine st_callR hs (made_Dice_Record_ok h48 hw.dom (hw.ownAt 0 rfl) (hw.boxS 0 rfl) (hw.envAt 0 rfl)) (do_call Try.call10 rfl) trivial rfl rfl ?_
    intro v62 Sv59 w a h60 h61 hs
    obtain ⟨p50, k51, c52, p56, k57, rfl, h53, h54, h55, h58⟩ := h61
    have hw := hw.call1F 0 rfl h60 h55 h53
    have hw := hw.addE (e := RowA c52 rv49.1.Samples) h54
    have hw := hw.addE (e := SlA p56 rv49.2.L.length k57 rv49.2.L) h58
    refine w_alloc (cs := [.string ByteArray.empty, .string ByteArray.empty, .string ByteArray.empty, .string ByteArray.empty, .int .i64 0, .int .i64 0, .int .i64 0, .int .i64 0, .int .i64 0, .int .i64 0, .int .i64 0, .slice none ([] : List Int).length 0]) hs hw Try.zeroValue32 rfl rfl trivial ?_
    intro b63 a w hs hw
    refine w_store (m := 12) (cs' := [.string rv49.1.Source.Network, .string rv49.1.Source.Station, .string rv49.1.Source.Location, .string rv49.1.Source.Channel, .int .i64 rv49.1.Start, .int .i64 rv49.1.First, .int .i64 rv49.1.Rate.Num, .int .i64 rv49.1.Rate.Den, .int .i64 rv49.1.Error, .int .i64 rv49.1.Run, .int .i64 rv49.1.Seq, .slice p50 rv49.1.Samples.length k51]) hs hw 0 rfl rfl rfl Try.sizeOf32 rfl rfl rfl rfl trivial ?_
    intro a w hs hw
    refine wpList_nil ?_
    refine then_normal ?_
    refine wp_seq ?_
    refine wp_region_lit ?_
    refine st_val hs (y_loadBA (hw.ownAt 0 rfl) rfl Try.isAgg32 Try.sizeOf32 rfl rfl) trivial rfl rfl fun a hs => ?_
    obtain ⟨rv65, h64, hsh⟩ := bind_t hsh
    obtain ⟨Sv66, hw⟩ := w_share (α := Int) hw 1 rfl 1 rfl (.inl rfl)
    refine st_callR hs (ref14_Span_ok h64 hw.dom (hw.envAt 0 rfl)) (do_call Try.call18 rfl) trivial rfl rfl ?_
    intro v70 Sv67 w a h68 h69 hs
    subst h69
    have hw := hw.call h68
    refine st_val hs (y_move rfl) trivial rfl rfl fun a hs => ?_
    refine st_val hs (y_extract rfl rfl) trivial rfl rfl fun a hs => ?_
    refine st_val hs (y_extract rfl rfl) trivial rfl rfl fun a hs => ?_
    refine w_alloc (cs := [.int .i64 0, .int .i64 0]) hs hw Try.zeroValue39 rfl rfl trivial ?_
    intro b71 a w hs hw
    refine w_store (m := 2) (cs' := [.int .i64 rv65.1.From, .int .i64 rv65.1.To]) hs hw 0 rfl rfl rfl Try.sizeOf39 rfl rfl rfl rfl trivial ?_
    intro a w hs hw
    refine st_val hs (y_assign rfl) trivial rfl rfl fun a hs => ?_
    refine wpList_nil ?_
    refine then_normal ?_
    refine wp_seq ?_
    refine wp_region_lit ?_
    refine st_val hs (y_fieldAddr (o' := 0) Try.runUnderlying39 rfl Try.sizeOf3 rfl rfl rfl) trivial rfl rfl fun a hs => ?_
    refine st_val hs (y_loadB1 (hw.ownAt 0 rfl) rfl Try.isAgg3 rfl) trivial rfl rfl fun a hs => ?_
    refine st_val hs (y_move rfl) trivial rfl rfl fun a hs => ?_
    refine st_val hs (y_convert Try.runUnderlying5 Try.runUnderlying3 rfl) trivial rfl rfl fun a hs => ?_
    refine st_val hs (y_rem rfl rfl (by decide)) trivial rfl rfl fun a hs => ?_
    refine st_val hs (y_mul rfl rfl) trivial rfl rfl fun a hs => ?_
    refine st_val hs (y_add rfl rfl) trivial rfl rfl fun a hs => ?_
    refine st_val hs (y_sub rfl rfl) trivial rfl rfl fun a hs => ?_
    obtain ⟨fromv73, h72, hsh⟩ := bind_t hsh
    refine st_val hs (y_assignI rfl h72) trivial rfl rfl fun a hs => ?_
    refine wpList_nil ?_
    refine then_normal ?_
    refine wp_seq ?_
    refine wp_region_lit ?_
    refine st_val hs (y_move rfl) trivial rfl rfl fun a hs => ?_
    refine st_val hs (y_move rfl) trivial rfl rfl fun a hs => ?_
    refine st_val hs (y_convert Try.runUnderlying5 Try.runUnderlying3 rfl) trivial rfl rfl fun a hs => ?_
    refine st_val hs (y_rem rfl rfl (by decide)) trivial rfl rfl fun a hs => ?_
    refine st_val hs (y_mul rfl rfl) trivial rfl rfl fun a hs => ?_
    refine st_val hs (y_add rfl rfl) trivial rfl rfl fun a hs => ?_
    obtain ⟨to75, h74, hsh⟩ := bind_t hsh
    refine st_val hs (y_assignI rfl h74) trivial rfl rfl fun a hs => ?_
    refine wpList_nil ?_
    refine then_normal ?_
    refine wp_seq ?_
    refine wp_region_lit ?_
    refine st_val hs (y_loadBA (hw.ownAt 1 rfl) rfl Try.isAgg32 Try.sizeOf32 rfl rfl) trivial rfl rfl fun a hs => ?_
    refine st_val hs (y_move rfl) trivial rfl rfl fun a hs => ?_
    refine st_val hs (y_move rfl) trivial rfl rfl fun a hs => ?_
    obtain ⟨rv77, h76, hsh⟩ := bind_t hsh
    refine st_callR hs (record_Cut_ok h76 hw.dom (hw.envAt 0 rfl)) (do_call Try.call19 rfl) trivial rfl rfl ?_
    intro v86 Sv83 w a h84 h85 hs
    obtain ⟨p78, k79, c80, rfl, h81, h82⟩ := h85
    have hw := hw.callF h84 h81
    have hw := hw.addE (e := RowA c80 rv77.1.Samples) h82
    refine st_val hs (y_move rfl) trivial rfl rfl fun a hs => ?_
    refine st_val hs (y_extract rfl rfl) trivial rfl rfl fun a hs => ?_
    refine st_val hs (y_extract rfl rfl) trivial rfl rfl fun a hs => ?_
    refine st_val hs (y_extract rfl rfl) trivial rfl rfl fun a hs => ?_
    refine w_alloc (cs := [.string ByteArray.empty, .string ByteArray.empty, .string ByteArray.empty, .string ByteArray.empty, .int .i64 0, .int .i64 0, .int .i64 0, .int .i64 0, .int .i64 0, .int .i64 0, .int .i64 0, .slice none ([] : List Int).length 0]) hs hw Try.zeroValue32 rfl rfl trivial ?_
    intro b87 a w hs hw
    refine w_store (m := 12) (cs' := [.string rv77.1.Source.Network, .string rv77.1.Source.Station, .string rv77.1.Source.Location, .string rv77.1.Source.Channel, .int .i64 rv77.1.Start, .int .i64 rv77.1.First, .int .i64 rv77.1.Rate.Num, .int .i64 rv77.1.Rate.Den, .int .i64 rv77.1.Error, .int .i64 rv77.1.Run, .int .i64 rv77.1.Seq, .slice p78 rv77.1.Samples.length k79]) hs hw 0 rfl rfl rfl Try.sizeOf32 rfl rfl rfl rfl trivial ?_
    intro a w hs hw
    refine st_val hs (y_assign rfl) trivial rfl rfl fun a hs => ?_
    refine st_val hs (y_assign rfl) trivial rfl rfl fun a hs => ?_
    refine wpList_nil ?_
    refine then_normal ?_
    refine wp_seq ?_
    refine wp_region_lit ?_
    refine st_val hs (y_loadBA (hw.ownAt 3 rfl) rfl Try.isAgg32 Try.sizeOf32 rfl rfl) trivial rfl rfl fun a hs => ?_
    refine st_val hs (y_move rfl) trivial rfl rfl fun a hs => ?_
    refine st_val hs (y_move rfl) trivial rfl rfl fun a hs => ?_
    obtain ⟨rv89, h88, hsh⟩ := bind_t hsh
    refine st_callR hs (record_Inside_ok h88 hw.dom (hw.envAt 1 rfl)) (do_call Try.call20 rfl) trivial rfl rfl ?_
    intro v98 Sv95 w a h96 h97 hs
    obtain ⟨p90, k91, c92, rfl, h93, h94⟩ := h97
    have hw := hw.callF h96 h93
    have hw := hw.addE (e := RowA c92 rv89.1.Samples) h94
    refine st_val hs (y_move rfl) trivial rfl rfl fun a hs => ?_
    refine st_val hs (y_extract rfl rfl) trivial rfl rfl fun a hs => ?_
    refine st_val hs (y_extract rfl rfl) trivial rfl rfl fun a hs => ?_
    refine st_val hs (y_extract rfl rfl) trivial rfl rfl fun a hs => ?_
    refine w_alloc (cs := [.string ByteArray.empty, .string ByteArray.empty, .string ByteArray.empty, .string ByteArray.empty, .int .i64 0, .int .i64 0, .int .i64 0, .int .i64 0, .int .i64 0, .int .i64 0, .int .i64 0, .slice none ([] : List Int).length 0]) hs hw Try.zeroValue32 rfl rfl trivial ?_
    intro b99 a w hs hw
    refine w_store (m := 12) (cs' := [.string rv89.1.Source.Network, .string rv89.1.Source.Station, .string rv89.1.Source.Location, .string rv89.1.Source.Channel, .int .i64 rv89.1.Start, .int .i64 rv89.1.First, .int .i64 rv89.1.Rate.Num, .int .i64 rv89.1.Rate.Den, .int .i64 rv89.1.Error, .int .i64 rv89.1.Run, .int .i64 rv89.1.Seq, .slice p90 rv89.1.Samples.length k91]) hs hw 0 rfl rfl rfl Try.sizeOf32 rfl rfl rfl rfl trivial ?_
    intro a w hs hw
    refine st_val hs (y_assign rfl) trivial rfl rfl fun a hs => ?_
    refine st_val hs (y_assign rfl) trivial rfl rfl fun a hs => ?_
    refine wpList_nil ?_
    refine then_normal ?_
    refine wp_seq ?_
    refine wp_seq ?_
    refine wp_region_lit ?_
    refine st_val hs (y_move rfl) trivial rfl rfl fun a hs => ?_
    refine st_val hs (y_neq rfl rfl) trivial rfl rfl fun a hs => ?_
    refine st_val hs (y_move rfl) trivial rfl rfl fun a hs => ?_
    refine wpl_join 3 (fun a w1 => w = w1 ∧ Sl 238 [(8, .pointer (some ⟨b63, 0, none⟩)), (11, .int .i64 fromv73), (12, .int .i64 to75), (13, .pointer (some ⟨b87, 0, none⟩)), (14, .bool rv77.2.1), (16, .pointer (some ⟨b99, 0, none⟩)), (17, .bool rv89.2.1), (83, .bool ((rv77.2.2 != 0) || (rv89.2.2 != 0)))] a) ?_ ?_
    · rcases Bool.eq_false_or_eq_true (rv77.2.2 != 0) with h100 | h100
      · have hs := hs.fix 80 (.bool true) rfl (vb h100)
        refine st_skip hs rfl rfl rfl rfl rfl fun a hs => ?_
        refine st_skip hs rfl rfl rfl rfl rfl fun a hs => ?_
        refine st_val hs (y_pickT rfl rfl) trivial rfl rfl fun a hs => ?_
        refine wpList_nil ?_
        refine then_normal ?_
        exact ⟨rfl, (hs.fix 83 (.bool ((rv77.2.2 != 0) || (rv89.2.2 != 0))) rfl (or_t h100)).weaken _ ⟨rfl, rfl, rfl, rfl, rfl, rfl, rfl, rfl, trivial⟩⟩
      · have hs := hs.fix 80 (.bool false) rfl (vb h100)
        refine st_val hs (y_move rfl) ⟨_, rfl, rfl⟩ rfl rfl fun a hs => ?_
        refine st_val hs (y_neq rfl rfl) ⟨_, rfl, rfl⟩ rfl rfl fun a hs => ?_
        refine st_val hs (y_pickF rfl rfl) trivial rfl rfl fun a hs => ?_
        refine wpList_nil ?_
        refine then_normal ?_
        exact ⟨rfl, (hs.fix 83 (.bool ((rv77.2.2 != 0) || (rv89.2.2 != 0))) rfl (or_f h100)).weaken _ ⟨rfl, rfl, rfl, rfl, rfl, rfl, rfl, rfl, trivial⟩⟩
    · rintro a w1 ⟨h1054, hs⟩
      subst h1054
      refine wpList_nil ?_
      refine then_normal ?_
      refine wp_cond_split (hs.ev rfl) (fun h102 => ?_) (fun h102 => ?_)
      · have hsh := ite_t hsh h102
        refine wp_seq ?_
        refine wp_region_lit ?_
        refine st_val hs (y_assign rfl) trivial rfl rfl fun a hs => ?_
        refine wpList_nil ?_
        refine then_normal ?_
        have hsh := Option.some.inj hsh
        subst hsh
        refine wp_ret ?_
        refine then_ret ?_
        exact ret1 hs rfl (rv_tmp rfl) (hw.ret rfl)
      · have hsh := ite_f hsh h102
        refine wp_skip ?_
        refine then_normal ?_
        refine wp_seq ?_
        refine wp_region_lit ?_
        refine st_val hs (y_assign rfl) trivial rfl rfl fun a hs => ?_
        refine st_val hs (y_assign rfl) trivial rfl rfl fun a hs => ?_
        refine wpList_nil ?_
        refine then_normal ?_
        refine wp_seq ?_
        refine wp_seq ?_
        refine wp_region_lit ?_
        refine st_val hs (y_fieldAddr (o' := 11) Try.runUnderlying32 rfl Try.sizeOf22 rfl rfl rfl) trivial rfl rfl fun a hs => ?_
        refine st_val hs (y_loadB1 (hw.ownAt 5 rfl) rfl Try.isAgg22 rfl) trivial rfl rfl fun a hs => ?_
        refine st_val hs (y_len Try.runUnderlying22 rfl) trivial rfl rfl fun a hs => ?_
        refine st_val hs (y_move rfl) trivial rfl rfl fun a hs => ?_
        refine wpList_nil ?_
        refine then_normal ?_
        refine wp_block ?_
        refine wp_while (fun sv363 a w => ∃ (Sv535 : Nat → Prop), Sl 238 [(8, .pointer (some ⟨b63, 0, none⟩)), (11, .int .i64 fromv73), (12, .int .i64 to75), (13, .pointer (some ⟨b87, 0, none⟩)), (14, .bool rv77.2.1), (16, .pointer (some ⟨b99, 0, none⟩)), (17, .bool rv89.2.1), (19, .int .i64 sv363.1), (20, .int .i64 sv363.2.1), (86, .int .i64 (rv49.1.Samples.length : Int)), (87, .int .i64 sv363.2.2)] a ∧ Wd ⟨w0, S0, []⟩ Sv535 [.box b63 [.string rv49.1.Source.Network, .string rv49.1.Source.Station, .string rv49.1.Source.Location, .string rv49.1.Source.Channel, .int .i64 rv49.1.Start, .int .i64 rv49.1.First, .int .i64 rv49.1.Rate.Num, .int .i64 rv49.1.Rate.Den, .int .i64 rv49.1.Error, .int .i64 rv49.1.Run, .int .i64 rv49.1.Seq, .slice p50 rv49.1.Samples.length k51] 32, .box b87 [.string rv77.1.Source.Network, .string rv77.1.Source.Station, .string rv77.1.Source.Location, .string rv77.1.Source.Channel, .int .i64 rv77.1.Start, .int .i64 rv77.1.First, .int .i64 rv77.1.Rate.Num, .int .i64 rv77.1.Rate.Den, .int .i64 rv77.1.Error, .int .i64 rv77.1.Run, .int .i64 rv77.1.Seq, .slice p78 rv77.1.Samples.length k79] 32, .box b99 [.string rv89.1.Source.Network, .string rv89.1.Source.Station, .string rv89.1.Source.Location, .string rv89.1.Source.Channel, .int .i64 rv89.1.Start, .int .i64 rv89.1.First, .int .i64 rv89.1.Rate.Num, .int .i64 rv89.1.Rate.Den, .int .i64 rv89.1.Error, .int .i64 rv89.1.Run, .int .i64 rv89.1.Seq, .slice p90 rv89.1.Samples.length k91] 32, .row p78 rv77.1.Samples.length k79 c80 3 1, .row p90 rv89.1.Samples.length k91 c92 3 1] [SlA p50 rv49.1.Samples.length k51 rv49.1.Samples, RowA c80 rv77.1.Samples, RowA c92 rv89.1.Samples] w) (0, 0, 0) hsh ⟨Sv95, (hs.wk rfl), (hw.ft [5, 2, 0, 3, 1] [2, 1, 0] (by decide) rfl rfl)⟩ ?_
        repeat clear hsh
        rintro sv363 a w tv622 ⟨Sv535, hs, hw⟩ hsh hd621
        delta law14_RecordWindows_l2 at hsh
        refine wp_seq ?_
        refine wp_region_lit ?_
        refine st_val hs (y_lss rfl rfl) trivial rfl rfl fun a hs => ?_
        refine wpList_nil ?_
        refine then_normal ?_
        refine wp_seq ?_
        refine wp_cond_split (hs.ev rfl) (fun h626 => ?_) (fun h626 => ?_)
        · have hsh := ite_t hsh h626
          refine wp_skip ?_
          refine then_normal ?_
          refine wp_seq ?_
          refine wp_block ?_
          refine wp_seq ?_
          refine wp_region_lit ?_
          refine st_val hs (y_move rfl) trivial rfl rfl fun a hs => ?_
          refine st_val hs (y_assign rfl) trivial rfl rfl fun a hs => ?_
          refine wpList_nil ?_
          refine then_normal ?_
          refine wp_seq ?_
          refine wp_region_lit ?_
          refine st_val hs (y_loadBA (hw.ownAt 0 rfl) rfl Try.isAgg32 Try.sizeOf32 rfl rfl) trivial rfl rfl fun a hs => ?_
          refine st_val hs (y_move rfl) trivial rfl rfl fun a hs => ?_
          obtain ⟨rv712, h711, hsh⟩ := bind_t hsh
          refine st_callR hs (ref14_At_ok h711 hw.dom (hw.envAt 0 rfl)) (do_call Try.call21 rfl) trivial rfl rfl ?_
          intro v716 Sv713 w a h714 h715 hs
          subst h715
          have hw := hw.call h714
          refine st_val hs (y_move rfl) trivial rfl rfl fun a hs => ?_
          refine st_val hs (y_extract rfl rfl) trivial rfl rfl fun a hs => ?_
          refine st_val hs (y_extract rfl rfl) trivial rfl rfl fun a hs => ?_
          refine st_val hs (y_assign rfl) trivial rfl rfl fun a hs => ?_
          refine st_val hs (y_assign rfl) trivial rfl rfl fun a hs => ?_
          refine wpList_nil ?_
          refine then_normal ?_
          refine wp_seq ?_
          refine wp_region_lit ?_
          refine st_val hs (y_loadBA (hw.ownAt 0 rfl) rfl Try.isAgg32 Try.sizeOf32 rfl rfl) trivial rfl rfl fun a hs => ?_
          refine st_val hs (y_move rfl) trivial rfl rfl fun a hs => ?_
          refine st_val hs (y_add rfl rfl) trivial rfl rfl fun a hs => ?_
          obtain ⟨rv718, h717, hsh⟩ := bind_t hsh
          refine st_callR hs (ref14_At_ok h717 hw.dom (hw.envAt 0 rfl)) (do_call Try.call21 rfl) trivial rfl rfl ?_
          intro v722 Sv719 w a h720 h721 hs
          subst h721
          have hw := hw.call h720
          refine st_val hs (y_move rfl) trivial rfl rfl fun a hs => ?_
          refine st_val hs (y_extract rfl rfl) trivial rfl rfl fun a hs => ?_
          refine st_val hs (y_extract rfl rfl) trivial rfl rfl fun a hs => ?_
          refine st_val hs (y_assign rfl) trivial rfl rfl fun a hs => ?_
          refine st_val hs (y_assign rfl) trivial rfl rfl fun a hs => ?_
          refine wpList_nil ?_
          refine then_normal ?_
          refine wp_seq ?_
          refine wp_seq ?_
          refine wp_region_lit ?_
          refine st_val hs (y_move rfl) trivial rfl rfl fun a hs => ?_
          refine st_val hs (y_move rfl) trivial rfl rfl fun a hs => ?_
          refine st_val hs (y_geq rfl rfl) trivial rfl rfl fun a hs => ?_
          refine st_val hs (y_move rfl) trivial rfl rfl fun a hs => ?_
          refine wpl_join 4 (fun a w1 => w = w1 ∧ Sl 238 [(8, .pointer (some ⟨b63, 0, none⟩)), (11, .int .i64 fromv73), (12, .int .i64 to75), (13, .pointer (some ⟨b87, 0, none⟩)), (14, .bool rv77.2.1), (16, .pointer (some ⟨b99, 0, none⟩)), (17, .bool rv89.2.1), (19, .int .i64 sv363.1), (20, .int .i64 sv363.2.1), (21, .int .i64 sv363.2.2), (22, .int .i64 rv712.1), (24, .int .i64 rv718.1), (86, .int .i64 (rv49.1.Samples.length : Int)), (87, .int .i64 sv363.2.2), (110, .bool ((decide (fromv73 ≤ rv712.1)) && (decide (rv712.1 < to75))))] a) ?_ ?_
          · rcases Bool.eq_false_or_eq_true (decide (fromv73 ≤ rv712.1)) with h723 | h723
            · have hs := hs.fix 106 (.bool true) rfl (vb h723)
              refine st_val hs (y_move rfl) ⟨_, rfl, rfl⟩ rfl rfl fun a hs => ?_
              refine st_val hs (y_move rfl) ⟨_, rfl, rfl⟩ rfl rfl fun a hs => ?_
              refine st_val hs (y_lss rfl rfl) ⟨_, rfl, rfl⟩ rfl rfl fun a hs => ?_
              refine st_val hs (y_pickT rfl rfl) trivial rfl rfl fun a hs => ?_
              refine wpList_nil ?_
              refine then_normal ?_
              exact ⟨rfl, (hs.fix 110 (.bool ((decide (fromv73 ≤ rv712.1)) && (decide (rv712.1 < to75)))) rfl (and_t h723)).weaken _ ⟨rfl, rfl, rfl, rfl, rfl, rfl, rfl, rfl, rfl, rfl, rfl, rfl, rfl, rfl, rfl, trivial⟩⟩
            · have hs := hs.fix 106 (.bool false) rfl (vb h723)
              refine st_skip hs rfl rfl rfl rfl rfl fun a hs => ?_
              refine st_skip hs rfl rfl rfl rfl rfl fun a hs => ?_
              refine st_skip hs rfl rfl rfl rfl rfl fun a hs => ?_
              refine st_val hs (y_pickF rfl rfl) trivial rfl rfl fun a hs => ?_
              refine wpList_nil ?_
              refine then_normal ?_
              exact ⟨rfl, (hs.fix 110 (.bool ((decide (fromv73 ≤ rv712.1)) && (decide (rv712.1 < to75)))) rfl (and_f h723)).weaken _ ⟨rfl, rfl, rfl, rfl, rfl, rfl, rfl, rfl, rfl, rfl, rfl, rfl, rfl, rfl, rfl, trivial⟩⟩
          · rintro a w1 ⟨h984, hs⟩
            subst h984
            refine wpList_nil ?_
            refine then_normal ?_
            refine wp_join (fun a w => ∃ (cut757 : Int) (Sv756 : Nat → Prop), law14_RecordWindows_j1 rv49 fromv73 to75 rv89 sv363 rv712 rv718 cut757 = some tv622 ∧ Sl 238 [(8, .pointer (some ⟨b63, 0, none⟩)), (11, .int .i64 fromv73), (12, .int .i64 to75), (13, .pointer (some ⟨b87, 0, none⟩)), (14, .bool rv77.2.1), (16, .pointer (some ⟨b99, 0, none⟩)), (17, .bool rv89.2.1), (19, .int .i64 cut757), (20, .int .i64 sv363.2.1), (21, .int .i64 sv363.2.2), (22, .int .i64 rv712.1), (24, .int .i64 rv718.1), (86, .int .i64 (rv49.1.Samples.length : Int)), (87, .int .i64 sv363.2.2)] a ∧ Wd ⟨w0, S0, []⟩ Sv756 [.box b63 [.string rv49.1.Source.Network, .string rv49.1.Source.Station, .string rv49.1.Source.Location, .string rv49.1.Source.Channel, .int .i64 rv49.1.Start, .int .i64 rv49.1.First, .int .i64 rv49.1.Rate.Num, .int .i64 rv49.1.Rate.Den, .int .i64 rv49.1.Error, .int .i64 rv49.1.Run, .int .i64 rv49.1.Seq, .slice p50 rv49.1.Samples.length k51] 32, .box b87 [.string rv77.1.Source.Network, .string rv77.1.Source.Station, .string rv77.1.Source.Location, .string rv77.1.Source.Channel, .int .i64 rv77.1.Start, .int .i64 rv77.1.First, .int .i64 rv77.1.Rate.Num, .int .i64 rv77.1.Rate.Den, .int .i64 rv77.1.Error, .int .i64 rv77.1.Run, .int .i64 rv77.1.Seq, .slice p78 rv77.1.Samples.length k79] 32, .box b99 [.string rv89.1.Source.Network, .string rv89.1.Source.Station, .string rv89.1.Source.Location, .string rv89.1.Source.Channel, .int .i64 rv89.1.Start, .int .i64 rv89.1.First, .int .i64 rv89.1.Rate.Num, .int .i64 rv89.1.Rate.Den, .int .i64 rv89.1.Error, .int .i64 rv89.1.Run, .int .i64 rv89.1.Seq, .slice p90 rv89.1.Samples.length k91] 32, .row p78 rv77.1.Samples.length k79 c80 3 1, .row p90 rv89.1.Samples.length k91 c92 3 1] [SlA p50 rv49.1.Samples.length k51 rv49.1.Samples, RowA c80 rv77.1.Samples, RowA c92 rv89.1.Samples] w) ?_ ?_
            · refine wp_cond_split (hs.ev rfl) (fun h889 => ?_) (fun h889 => ?_)
              · have hsh := ite_t hsh h889
                refine wp_seq ?_
                refine wp_seq ?_
                obtain ⟨c916, hc916, hsh⟩ := bind_t hsh
                refine wp_only (fun a w => ∃ (Sv917 : Nat → Prop), Sl 238 [(8, .pointer (some ⟨b63, 0, none⟩)), (11, .int .i64 fromv73), (12, .int .i64 to75), (13, .pointer (some ⟨b87, 0, none⟩)), (14, .bool rv77.2.1), (16, .pointer (some ⟨b99, 0, none⟩)), (17, .bool rv89.2.1), (19, .int .i64 sv363.1), (20, .int .i64 sv363.2.1), (21, .int .i64 sv363.2.2), (22, .int .i64 rv712.1), (24, .int .i64 rv718.1), (86, .int .i64 (rv49.1.Samples.length : Int)), (87, .int .i64 sv363.2.2), (132, .bool c916)] a ∧ Wd ⟨w0, S0, []⟩ Sv917 [.box b63 [.string rv49.1.Source.Network, .string rv49.1.Source.Station, .string rv49.1.Source.Location, .string rv49.1.Source.Channel, .int .i64 rv49.1.Start, .int .i64 rv49.1.First, .int .i64 rv49.1.Rate.Num, .int .i64 rv49.1.Rate.Den, .int .i64 rv49.1.Error, .int .i64 rv49.1.Run, .int .i64 rv49.1.Seq, .slice p50 rv49.1.Samples.length k51] 32, .box b87 [.string rv77.1.Source.Network, .string rv77.1.Source.Station, .string rv77.1.Source.Location, .string rv77.1.Source.Channel, .int .i64 rv77.1.Start, .int .i64 rv77.1.First, .int .i64 rv77.1.Rate.Num, .int .i64 rv77.1.Rate.Den, .int .i64 rv77.1.Error, .int .i64 rv77.1.Run, .int .i64 rv77.1.Seq, .slice p78 rv77.1.Samples.length k79] 32, .box b99 [.string rv89.1.Source.Network, .string rv89.1.Source.Station, .string rv89.1.Source.Location, .string rv89.1.Source.Channel, .int .i64 rv89.1.Start, .int .i64 rv89.1.First, .int .i64 rv89.1.Rate.Num, .int .i64 rv89.1.Rate.Den, .int .i64 rv89.1.Error, .int .i64 rv89.1.Run, .int .i64 rv89.1.Seq, .slice p90 rv89.1.Samples.length k91] 32, .row p78 rv77.1.Samples.length k79 c80 3 1, .row p90 rv89.1.Samples.length k91 c92 3 1] [SlA p50 rv49.1.Samples.length k51 rv49.1.Samples, RowA c80 rv77.1.Samples, RowA c92 rv89.1.Samples] w) ?_ ?_
                · rcases Bool.eq_false_or_eq_true (!rv77.2.1) with h918 | h918
                  · rcases Bool.eq_false_or_eq_true ((!rv77.2.1) || (decide ((rv77.1.Samples.length : Int) ≤ sv363.1))) with h920 | h920
                    · have h921 := ite_t hc916 h920
                      refine h_begin (C := Cls [.box b63 [.string rv49.1.Source.Network, .string rv49.1.Source.Station, .string rv49.1.Source.Location, .string rv49.1.Source.Channel, .int .i64 rv49.1.Start, .int .i64 rv49.1.First, .int .i64 rv49.1.Rate.Num, .int .i64 rv49.1.Rate.Den, .int .i64 rv49.1.Error, .int .i64 rv49.1.Run, .int .i64 rv49.1.Seq, .slice p50 rv49.1.Samples.length k51] 32, .box b87 [.string rv77.1.Source.Network, .string rv77.1.Source.Station, .string rv77.1.Source.Location, .string rv77.1.Source.Channel, .int .i64 rv77.1.Start, .int .i64 rv77.1.First, .int .i64 rv77.1.Rate.Num, .int .i64 rv77.1.Rate.Den, .int .i64 rv77.1.Error, .int .i64 rv77.1.Run, .int .i64 rv77.1.Seq, .slice p78 rv77.1.Samples.length k79] 32, .box b99 [.string rv89.1.Source.Network, .string rv89.1.Source.Station, .string rv89.1.Source.Location, .string rv89.1.Source.Channel, .int .i64 rv89.1.Start, .int .i64 rv89.1.First, .int .i64 rv89.1.Rate.Num, .int .i64 rv89.1.Rate.Den, .int .i64 rv89.1.Error, .int .i64 rv89.1.Run, .int .i64 rv89.1.Seq, .slice p90 rv89.1.Samples.length k91] 32, .row p78 rv77.1.Samples.length k79 c80 3 1, .row p90 rv89.1.Samples.length k91 c92 3 1] []) (by kernel_rfl) rfl ?_
                      have hw := hw.drew
                      have hC : Cls [.box b63 [.string rv49.1.Source.Network, .string rv49.1.Source.Station, .string rv49.1.Source.Location, .string rv49.1.Source.Channel, .int .i64 rv49.1.Start, .int .i64 rv49.1.First, .int .i64 rv49.1.Rate.Num, .int .i64 rv49.1.Rate.Den, .int .i64 rv49.1.Error, .int .i64 rv49.1.Run, .int .i64 rv49.1.Seq, .slice p50 rv49.1.Samples.length k51] 32, .box b87 [.string rv77.1.Source.Network, .string rv77.1.Source.Station, .string rv77.1.Source.Location, .string rv77.1.Source.Channel, .int .i64 rv77.1.Start, .int .i64 rv77.1.First, .int .i64 rv77.1.Rate.Num, .int .i64 rv77.1.Rate.Den, .int .i64 rv77.1.Error, .int .i64 rv77.1.Run, .int .i64 rv77.1.Seq, .slice p78 rv77.1.Samples.length k79] 32, .box b99 [.string rv89.1.Source.Network, .string rv89.1.Source.Station, .string rv89.1.Source.Location, .string rv89.1.Source.Channel, .int .i64 rv89.1.Start, .int .i64 rv89.1.First, .int .i64 rv89.1.Rate.Num, .int .i64 rv89.1.Rate.Den, .int .i64 rv89.1.Error, .int .i64 rv89.1.Run, .int .i64 rv89.1.Seq, .slice p90 rv89.1.Samples.length k91] 32, .row p78 rv77.1.Samples.length k79 c80 3 1, .row p90 rv89.1.Samples.length k91 c92 3 1] [] _ := hw.cs [0, 1, 2, 3, 4] [] rfl rfl
                      refine h_get hs (i := 0) rfl (by kernel_rfl) rfl rfl hC rfl (fun w hC => y_move rfl) fun a hs => ?_
                      refine h_get hs (i := 1) rfl (by kernel_rfl) rfl rfl hC rfl (fun w hC => y_not rfl) fun a hs => ?_
                      refine h_get hs (i := 2) rfl (by kernel_rfl) rfl rfl hC rfl (fun w hC => y_move rfl) fun a hs => ?_
                      have hs := hs.fix 113 (.bool true) rfl (vb h918)
                      refine h_skip hs (i := 3) rfl (by kernel_rfl) (by kernel_rfl) (by kernel_rfl) rfl rfl rfl (by first | exact .inl rfl | exact .inr rfl) rfl rfl hC fun a hs => ?_
                      refine h_skip hs (i := 4) rfl (by kernel_rfl) (by kernel_rfl) (by kernel_rfl) rfl rfl rfl (by first | exact .inl rfl | exact .inr rfl) rfl rfl hC fun a hs => ?_
                      refine h_skip hs (i := 5) rfl (by kernel_rfl) (by kernel_rfl) (by kernel_rfl) rfl rfl rfl (by first | exact .inl rfl | exact .inr rfl) rfl rfl hC fun a hs => ?_
                      refine h_skip hs (i := 6) rfl (by kernel_rfl) (by kernel_rfl) (by kernel_rfl) rfl rfl rfl (by first | exact .inl rfl | exact .inr rfl) rfl rfl hC fun a hs => ?_
                      refine h_skip hs (i := 7) rfl (by kernel_rfl) (by kernel_rfl) (by kernel_rfl) rfl rfl rfl (by first | exact .inl rfl | exact .inr rfl) rfl rfl hC fun a hs => ?_
                      refine h_get hs (i := 8) rfl (by kernel_rfl) rfl rfl hC rfl (fun w hC => y_pickTE (v := .bool ((!rv77.2.1) || (decide ((rv77.1.Samples.length : Int) ≤ sv363.1)))) rfl rfl (or_t h918)) fun a hs => ?_
                      refine h_get hs (i := 9) rfl (by kernel_rfl) rfl rfl hC rfl (fun w hC => y_move rfl) fun a hs => ?_
                      have hs := hs.fix 120 (.bool true) rfl (vb h920)
                      refine h_skip hs (i := 10) rfl (by kernel_rfl) (by kernel_rfl) (by kernel_rfl) rfl rfl rfl (by first | exact .inl rfl | exact .inr rfl) rfl rfl hC fun a hs => ?_
                      refine h_skip hs (i := 11) rfl (by kernel_rfl) (by kernel_rfl) (by kernel_rfl) rfl rfl rfl (by first | exact .inl rfl | exact .inr rfl) rfl rfl hC fun a hs => ?_
                      refine h_skip hs (i := 12) rfl (by kernel_rfl) (by kernel_rfl) (by kernel_rfl) rfl rfl rfl (by first | exact .inl rfl | exact .inr rfl) rfl rfl hC fun a hs => ?_
                      refine h_skip hs (i := 13) rfl (by kernel_rfl) (by kernel_rfl) (by kernel_rfl) rfl rfl rfl (by first | exact .inl rfl | exact .inr rfl) rfl rfl hC fun a hs => ?_
                      refine h_skip hs (i := 14) rfl (by kernel_rfl) (by kernel_rfl) (by kernel_rfl) rfl rfl rfl (by first | exact .inl rfl | exact .inr rfl) rfl rfl hC fun a hs => ?_
                      refine h_skip hs (i := 15) rfl (by kernel_rfl) (by kernel_rfl) (by kernel_rfl) rfl rfl rfl (by first | exact .inl rfl | exact .inr rfl) rfl rfl hC fun a hs => ?_
                      refine h_skip hs (i := 16) rfl (by kernel_rfl) (by kernel_rfl) (by kernel_rfl) rfl rfl rfl (by first | exact .inl rfl | exact .inr rfl) rfl rfl hC fun a hs => ?_
                      refine h_skip hs (i := 17) rfl (by kernel_rfl) (by kernel_rfl) (by kernel_rfl) rfl rfl rfl (by first | exact .inl rfl | exact .inr rfl) rfl rfl hC fun a hs => ?_
                      refine h_skip hs (i := 18) rfl (by kernel_rfl) (by kernel_rfl) (by kernel_rfl) rfl rfl rfl (by first | exact .inl rfl | exact .inr rfl) rfl rfl hC fun a hs => ?_
                      refine h_skip hs (i := 19) rfl (by kernel_rfl) (by kernel_rfl) (by kernel_rfl) rfl rfl rfl (by first | exact .inl rfl | exact .inr rfl) rfl rfl hC fun a hs => ?_
                      refine h_skip hs (i := 20) rfl (by kernel_rfl) (by kernel_rfl) (by kernel_rfl) rfl rfl rfl (by first | exact .inl rfl | exact .inr rfl) rfl rfl hC fun a hs => ?_
                      refine h_get hs (i := 21) rfl (by kernel_rfl) rfl rfl hC rfl (fun w hC => y_pickTE (v := .bool c916) rfl rfl (vbs h921)) fun a hs => ?_
                      refine h_done (by kernel_rfl) ?_
                      exact ⟨Sv719, (hs.wk rfl), (hw.ft [0, 1, 2, 3, 4] [0, 1, 2] (by decide) rfl rfl)⟩
                    · have h922 := ite_f hc916 h920
                      obtain ⟨x925, h923, h922⟩ := bind_t h922
                      obtain ⟨b932, q929, c930, h933, h926, h927, h931, h924⟩ := hw.elemRV (α := Int) 3 rfl 1 rfl h923
                      have hsv934 := hs
                      have hwv935 := hw
                      subst h933
                      have hs := hsv934
                      have hw := hwv935
                      obtain ⟨_, rfl, rfl⟩ := h924
                      obtain ⟨x938, h936, h922⟩ := bind_t h922
                      obtain ⟨b944, o945, q942, c943, h946, h939, h940, h941, h937⟩ := hw.elemV 0 rfl h936
                      have hsv947 := hs
                      have hwv948 := hw
                      subst h946
                      have hs := hsv947
                      have hw := hwv948
                      obtain ⟨_, rfl, rfl⟩ := h937
                      have hw := hw.addE h941
                      refine h_begin (C := Cls [.box b63 [.string rv49.1.Source.Network, .string rv49.1.Source.Station, .string rv49.1.Source.Location, .string rv49.1.Source.Channel, .int .i64 rv49.1.Start, .int .i64 rv49.1.First, .int .i64 rv49.1.Rate.Num, .int .i64 rv49.1.Rate.Den, .int .i64 rv49.1.Error, .int .i64 rv49.1.Run, .int .i64 rv49.1.Seq, .slice (some ⟨b944, o945, none⟩) rv49.1.Samples.length k51] 32, .box b87 [.string rv77.1.Source.Network, .string rv77.1.Source.Station, .string rv77.1.Source.Location, .string rv77.1.Source.Channel, .int .i64 rv77.1.Start, .int .i64 rv77.1.First, .int .i64 rv77.1.Rate.Num, .int .i64 rv77.1.Rate.Den, .int .i64 rv77.1.Error, .int .i64 rv77.1.Run, .int .i64 rv77.1.Seq, .slice (some ⟨b932, 0, none⟩) rv77.1.Samples.length k79] 32, .box b99 [.string rv89.1.Source.Network, .string rv89.1.Source.Station, .string rv89.1.Source.Location, .string rv89.1.Source.Channel, .int .i64 rv89.1.Start, .int .i64 rv89.1.First, .int .i64 rv89.1.Rate.Num, .int .i64 rv89.1.Rate.Den, .int .i64 rv89.1.Error, .int .i64 rv89.1.Run, .int .i64 rv89.1.Seq, .slice p90 rv89.1.Samples.length k91] 32, .row (some ⟨b932, 0, none⟩) rv77.1.Samples.length k79 c80 3 1, .row p90 rv89.1.Samples.length k91 c92 3 1] [CeA b944 q942 [.int .i64 x938]]) (by kernel_rfl) rfl ?_
                      have hw := hw.drew
                      have hC : Cls [.box b63 [.string rv49.1.Source.Network, .string rv49.1.Source.Station, .string rv49.1.Source.Location, .string rv49.1.Source.Channel, .int .i64 rv49.1.Start, .int .i64 rv49.1.First, .int .i64 rv49.1.Rate.Num, .int .i64 rv49.1.Rate.Den, .int .i64 rv49.1.Error, .int .i64 rv49.1.Run, .int .i64 rv49.1.Seq, .slice (some ⟨b944, o945, none⟩) rv49.1.Samples.length k51] 32, .box b87 [.string rv77.1.Source.Network, .string rv77.1.Source.Station, .string rv77.1.Source.Location, .string rv77.1.Source.Channel, .int .i64 rv77.1.Start, .int .i64 rv77.1.First, .int .i64 rv77.1.Rate.Num, .int .i64 rv77.1.Rate.Den, .int .i64 rv77.1.Error, .int .i64 rv77.1.Run, .int .i64 rv77.1.Seq, .slice (some ⟨b932, 0, none⟩) rv77.1.Samples.length k79] 32, .box b99 [.string rv89.1.Source.Network, .string rv89.1.Source.Station, .string rv89.1.Source.Location, .string rv89.1.Source.Channel, .int .i64 rv89.1.Start, .int .i64 rv89.1.First, .int .i64 rv89.1.Rate.Num, .int .i64 rv89.1.Rate.Den, .int .i64 rv89.1.Error, .int .i64 rv89.1.Run, .int .i64 rv89.1.Seq, .slice p90 rv89.1.Samples.length k91] 32, .row (some ⟨b932, 0, none⟩) rv77.1.Samples.length k79 c80 3 1, .row p90 rv89.1.Samples.length k91 c92 3 1] [CeA b944 q942 [.int .i64 x938]] _ := hw.cs [0, 1, 2, 3, 4] [0] rfl rfl
                      refine h_get hs (i := 0) rfl (by kernel_rfl) rfl rfl hC rfl (fun w hC => y_move rfl) fun a hs => ?_
                      refine h_get hs (i := 1) rfl (by kernel_rfl) rfl rfl hC rfl (fun w hC => y_not rfl) fun a hs => ?_
                      refine h_get hs (i := 2) rfl (by kernel_rfl) rfl rfl hC rfl (fun w hC => y_move rfl) fun a hs => ?_
                      have hs := hs.fix 113 (.bool true) rfl (vb h918)
                      refine h_skip hs (i := 3) rfl (by kernel_rfl) (by kernel_rfl) (by kernel_rfl) rfl rfl rfl (by first | exact .inl rfl | exact .inr rfl) rfl rfl hC fun a hs => ?_
                      refine h_skip hs (i := 4) rfl (by kernel_rfl) (by kernel_rfl) (by kernel_rfl) rfl rfl rfl (by first | exact .inl rfl | exact .inr rfl) rfl rfl hC fun a hs => ?_
                      refine h_skip hs (i := 5) rfl (by kernel_rfl) (by kernel_rfl) (by kernel_rfl) rfl rfl rfl (by first | exact .inl rfl | exact .inr rfl) rfl rfl hC fun a hs => ?_
                      refine h_skip hs (i := 6) rfl (by kernel_rfl) (by kernel_rfl) (by kernel_rfl) rfl rfl rfl (by first | exact .inl rfl | exact .inr rfl) rfl rfl hC fun a hs => ?_
                      refine h_skip hs (i := 7) rfl (by kernel_rfl) (by kernel_rfl) (by kernel_rfl) rfl rfl rfl (by first | exact .inl rfl | exact .inr rfl) rfl rfl hC fun a hs => ?_
                      refine h_get hs (i := 8) rfl (by kernel_rfl) rfl rfl hC rfl (fun w hC => y_pickTE (v := .bool ((!rv77.2.1) || (decide ((rv77.1.Samples.length : Int) ≤ sv363.1)))) rfl rfl (or_t h918)) fun a hs => ?_
                      refine h_get hs (i := 9) rfl (by kernel_rfl) rfl rfl hC rfl (fun w hC => y_move rfl) fun a hs => ?_
                      have hs := hs.fix 120 (.bool false) rfl (vb h920)
                      refine h_take hs (i := 10) rfl (by kernel_rfl) (by kernel_rfl) (by kernel_rfl) ⟨_, rfl, rfl⟩ rfl rfl hC (fun w hC => y_fieldAddr (o' := 11) Try.runUnderlying32 rfl Try.sizeOf22 rfl rfl rfl) fun a hs => ?_
                      refine h_take hs (i := 11) rfl (by kernel_rfl) (by kernel_rfl) (by kernel_rfl) ⟨_, rfl, rfl⟩ rfl rfl hC (fun w hC => y_loadB1 (hC.ownAt 1 rfl) rfl Try.isAgg22 rfl) fun a hs => ?_
                      refine h_take hs (i := 12) rfl (by kernel_rfl) (by kernel_rfl) (by kernel_rfl) ⟨_, rfl, rfl⟩ rfl rfl hC (fun w hC => y_move rfl) fun a hs => ?_
                      refine h_take hs (i := 13) rfl (by kernel_rfl) (by kernel_rfl) (by kernel_rfl) ⟨_, rfl, rfl⟩ rfl rfl hC (fun w hC => y_indexAt Try.runUnderlying22 Try.sizeOf3 rfl rfl h926.1 h926.2 h927) fun a hs => ?_
                      refine h_take hs (i := 14) rfl (by kernel_rfl) (by kernel_rfl) (by kernel_rfl) ⟨_, rfl, rfl⟩ rfl rfl hC (fun w hC => y_loadQ1 (j := 0) (hC.ownAt 3 rfl) rfl Try.isAgg3 h931 rfl) fun a hs => ?_
                      refine h_take hs (i := 15) rfl (by kernel_rfl) (by kernel_rfl) (by kernel_rfl) ⟨_, rfl, rfl⟩ rfl rfl hC (fun w hC => y_fieldAddr (o' := 11) Try.runUnderlying32 rfl Try.sizeOf22 rfl rfl rfl) fun a hs => ?_
                      refine h_take hs (i := 16) rfl (by kernel_rfl) (by kernel_rfl) (by kernel_rfl) ⟨_, rfl, rfl⟩ rfl rfl hC (fun w hC => y_loadB1 (hC.ownAt 0 rfl) rfl Try.isAgg22 rfl) fun a hs => ?_
                      refine h_take hs (i := 17) rfl (by kernel_rfl) (by kernel_rfl) (by kernel_rfl) ⟨_, rfl, rfl⟩ rfl rfl hC (fun w hC => y_move rfl) fun a hs => ?_
                      refine h_take hs (i := 18) rfl (by kernel_rfl) (by kernel_rfl) (by kernel_rfl) ⟨_, rfl, rfl⟩ rfl rfl hC (fun w hC => y_indexAt Try.runUnderlying22 Try.sizeOf3 rfl rfl h939.1 h939.2 h940) fun a hs => ?_
                      refine h_take hs (i := 19) rfl (by kernel_rfl) (by kernel_rfl) (by kernel_rfl) ⟨_, rfl, rfl⟩ rfl rfl hC (fun w hC => y_loadE1 (j := 0) (hC.ceAt 0 rfl) rfl Try.isAgg3 rfl) fun a hs => ?_
                      refine h_take hs (i := 20) rfl (by kernel_rfl) (by kernel_rfl) (by kernel_rfl) ⟨_, rfl, rfl⟩ rfl rfl hC (fun w hC => y_neq rfl rfl) fun a hs => ?_
                      refine h_get hs (i := 21) rfl (by kernel_rfl) rfl rfl hC rfl (fun w hC => y_pickFE (v := .bool c916) rfl rfl (vbs h922)) fun a hs => ?_
                      refine h_done (by kernel_rfl) ?_
                      exact ⟨Sv719, (hs.wk rfl), (hw.ft [0, 1, 2, 3, 4] [1, 2, 3] (by decide) rfl rfl)⟩
                  · rcases Bool.eq_false_or_eq_true ((!rv77.2.1) || (decide ((rv77.1.Samples.length : Int) ≤ sv363.1))) with h950 | h950
                    · have h951 := ite_t hc916 h950
                      refine h_begin (C := Cls [.box b63 [.string rv49.1.Source.Network, .string rv49.1.Source.Station, .string rv49.1.Source.Location, .string rv49.1.Source.Channel, .int .i64 rv49.1.Start, .int .i64 rv49.1.First, .int .i64 rv49.1.Rate.Num, .int .i64 rv49.1.Rate.Den, .int .i64 rv49.1.Error, .int .i64 rv49.1.Run, .int .i64 rv49.1.Seq, .slice p50 rv49.1.Samples.length k51] 32, .box b87 [.string rv77.1.Source.Network, .string rv77.1.Source.Station, .string rv77.1.Source.Location, .string rv77.1.Source.Channel, .int .i64 rv77.1.Start, .int .i64 rv77.1.First, .int .i64 rv77.1.Rate.Num, .int .i64 rv77.1.Rate.Den, .int .i64 rv77.1.Error, .int .i64 rv77.1.Run, .int .i64 rv77.1.Seq, .slice p78 rv77.1.Samples.length k79] 32, .box b99 [.string rv89.1.Source.Network, .string rv89.1.Source.Station, .string rv89.1.Source.Location, .string rv89.1.Source.Channel, .int .i64 rv89.1.Start, .int .i64 rv89.1.First, .int .i64 rv89.1.Rate.Num, .int .i64 rv89.1.Rate.Den, .int .i64 rv89.1.Error, .int .i64 rv89.1.Run, .int .i64 rv89.1.Seq, .slice p90 rv89.1.Samples.length k91] 32, .row p78 rv77.1.Samples.length k79 c80 3 1, .row p90 rv89.1.Samples.length k91 c92 3 1] []) (by kernel_rfl) rfl ?_
                      have hw := hw.drew
                      have hC : Cls [.box b63 [.string rv49.1.Source.Network, .string rv49.1.Source.Station, .string rv49.1.Source.Location, .string rv49.1.Source.Channel, .int .i64 rv49.1.Start, .int .i64 rv49.1.First, .int .i64 rv49.1.Rate.Num, .int .i64 rv49.1.Rate.Den, .int .i64 rv49.1.Error, .int .i64 rv49.1.Run, .int .i64 rv49.1.Seq, .slice p50 rv49.1.Samples.length k51] 32, .box b87 [.string rv77.1.Source.Network, .string rv77.1.Source.Station, .string rv77.1.Source.Location, .string rv77.1.Source.Channel, .int .i64 rv77.1.Start, .int .i64 rv77.1.First, .int .i64 rv77.1.Rate.Num, .int .i64 rv77.1.Rate.Den, .int .i64 rv77.1.Error, .int .i64 rv77.1.Run, .int .i64 rv77.1.Seq, .slice p78 rv77.1.Samples.length k79] 32, .box b99 [.string rv89.1.Source.Network, .string rv89.1.Source.Station, .string rv89.1.Source.Location, .string rv89.1.Source.Channel, .int .i64 rv89.1.Start, .int .i64 rv89.1.First, .int .i64 rv89.1.Rate.Num, .int .i64 rv89.1.Rate.Den, .int .i64 rv89.1.Error, .int .i64 rv89.1.Run, .int .i64 rv89.1.Seq, .slice p90 rv89.1.Samples.length k91] 32, .row p78 rv77.1.Samples.length k79 c80 3 1, .row p90 rv89.1.Samples.length k91 c92 3 1] [] _ := hw.cs [0, 1, 2, 3, 4] [] rfl rfl
                      refine h_get hs (i := 0) rfl (by kernel_rfl) rfl rfl hC rfl (fun w hC => y_move rfl) fun a hs => ?_
                      refine h_get hs (i := 1) rfl (by kernel_rfl) rfl rfl hC rfl (fun w hC => y_not rfl) fun a hs => ?_
                      refine h_get hs (i := 2) rfl (by kernel_rfl) rfl rfl hC rfl (fun w hC => y_move rfl) fun a hs => ?_
                      have hs := hs.fix 113 (.bool false) rfl (vb h918)
                      refine h_take hs (i := 3) rfl (by kernel_rfl) (by kernel_rfl) (by kernel_rfl) ⟨_, rfl, rfl⟩ rfl rfl hC (fun w hC => y_move rfl) fun a hs => ?_
                      refine h_take hs (i := 4) rfl (by kernel_rfl) (by kernel_rfl) (by kernel_rfl) ⟨_, rfl, rfl⟩ rfl rfl hC (fun w hC => y_fieldAddr (o' := 11) Try.runUnderlying32 rfl Try.sizeOf22 rfl rfl rfl) fun a hs => ?_
                      refine h_take hs (i := 5) rfl (by kernel_rfl) (by kernel_rfl) (by kernel_rfl) ⟨_, rfl, rfl⟩ rfl rfl hC (fun w hC => y_loadB1 (hC.ownAt 1 rfl) rfl Try.isAgg22 rfl) fun a hs => ?_
                      refine h_take hs (i := 6) rfl (by kernel_rfl) (by kernel_rfl) (by kernel_rfl) ⟨_, rfl, rfl⟩ rfl rfl hC (fun w hC => y_len Try.runUnderlying22 rfl) fun a hs => ?_
                      refine h_take hs (i := 7) rfl (by kernel_rfl) (by kernel_rfl) (by kernel_rfl) ⟨_, rfl, rfl⟩ rfl rfl hC (fun w hC => y_geq rfl rfl) fun a hs => ?_
                      refine h_get hs (i := 8) rfl (by kernel_rfl) rfl rfl hC rfl (fun w hC => y_pickFE (v := .bool ((!rv77.2.1) || (decide ((rv77.1.Samples.length : Int) ≤ sv363.1)))) rfl rfl (or_f h918)) fun a hs => ?_
                      refine h_get hs (i := 9) rfl (by kernel_rfl) rfl rfl hC rfl (fun w hC => y_move rfl) fun a hs => ?_
                      have hs := hs.fix 120 (.bool true) rfl (vb h950)
                      refine h_skip hs (i := 10) rfl (by kernel_rfl) (by kernel_rfl) (by kernel_rfl) rfl rfl rfl (by first | exact .inl rfl | exact .inr rfl) rfl rfl hC fun a hs => ?_
                      refine h_skip hs (i := 11) rfl (by kernel_rfl) (by kernel_rfl) (by kernel_rfl) rfl rfl rfl (by first | exact .inl rfl | exact .inr rfl) rfl rfl hC fun a hs => ?_
                      refine h_skip hs (i := 12) rfl (by kernel_rfl) (by kernel_rfl) (by kernel_rfl) rfl rfl rfl (by first | exact .inl rfl | exact .inr rfl) rfl rfl hC fun a hs => ?_
                      refine h_skip hs (i := 13) rfl (by kernel_rfl) (by kernel_rfl) (by kernel_rfl) rfl rfl rfl (by first | exact .inl rfl | exact .inr rfl) rfl rfl hC fun a hs => ?_
                      refine h_skip hs (i := 14) rfl (by kernel_rfl) (by kernel_rfl) (by kernel_rfl) rfl rfl rfl (by first | exact .inl rfl | exact .inr rfl) rfl rfl hC fun a hs => ?_
                      refine h_skip hs (i := 15) rfl (by kernel_rfl) (by kernel_rfl) (by kernel_rfl) rfl rfl rfl (by first | exact .inl rfl | exact .inr rfl) rfl rfl hC fun a hs => ?_
                      refine h_skip hs (i := 16) rfl (by kernel_rfl) (by kernel_rfl) (by kernel_rfl) rfl rfl rfl (by first | exact .inl rfl | exact .inr rfl) rfl rfl hC fun a hs => ?_
                      refine h_skip hs (i := 17) rfl (by kernel_rfl) (by kernel_rfl) (by kernel_rfl) rfl rfl rfl (by first | exact .inl rfl | exact .inr rfl) rfl rfl hC fun a hs => ?_
                      refine h_skip hs (i := 18) rfl (by kernel_rfl) (by kernel_rfl) (by kernel_rfl) rfl rfl rfl (by first | exact .inl rfl | exact .inr rfl) rfl rfl hC fun a hs => ?_
                      refine h_skip hs (i := 19) rfl (by kernel_rfl) (by kernel_rfl) (by kernel_rfl) rfl rfl rfl (by first | exact .inl rfl | exact .inr rfl) rfl rfl hC fun a hs => ?_
                      refine h_skip hs (i := 20) rfl (by kernel_rfl) (by kernel_rfl) (by kernel_rfl) rfl rfl rfl (by first | exact .inl rfl | exact .inr rfl) rfl rfl hC fun a hs => ?_
                      refine h_get hs (i := 21) rfl (by kernel_rfl) rfl rfl hC rfl (fun w hC => y_pickTE (v := .bool c916) rfl rfl (vbs h951)) fun a hs => ?_
                      refine h_done (by kernel_rfl) ?_
                      exact ⟨Sv719, (hs.wk rfl), (hw.ft [0, 1, 2, 3, 4] [0, 1, 2] (by decide) rfl rfl)⟩
                    · have h952 := ite_f hc916 h950
                      obtain ⟨x955, h953, h952⟩ := bind_t h952
                      obtain ⟨b962, q959, c960, h963, h956, h957, h961, h954⟩ := hw.elemRV (α := Int) 3 rfl 1 rfl h953
                      have hsv964 := hs
                      have hwv965 := hw
                      subst h963
                      have hs := hsv964
                      have hw := hwv965
                      obtain ⟨_, rfl, rfl⟩ := h954
                      obtain ⟨x968, h966, h952⟩ := bind_t h952
                      obtain ⟨b974, o975, q972, c973, h976, h969, h970, h971, h967⟩ := hw.elemV 0 rfl h966
                      have hsv977 := hs
                      have hwv978 := hw
                      subst h976
                      have hs := hsv977
                      have hw := hwv978
                      obtain ⟨_, rfl, rfl⟩ := h967
                      have hw := hw.addE h971
                      refine h_begin (C := Cls [.box b63 [.string rv49.1.Source.Network, .string rv49.1.Source.Station, .string rv49.1.Source.Location, .string rv49.1.Source.Channel, .int .i64 rv49.1.Start, .int .i64 rv49.1.First, .int .i64 rv49.1.Rate.Num, .int .i64 rv49.1.Rate.Den, .int .i64 rv49.1.Error, .int .i64 rv49.1.Run, .int .i64 rv49.1.Seq, .slice (some ⟨b974, o975, none⟩) rv49.1.Samples.length k51] 32, .box b87 [.string rv77.1.Source.Network, .string rv77.1.Source.Station, .string rv77.1.Source.Location, .string rv77.1.Source.Channel, .int .i64 rv77.1.Start, .int .i64 rv77.1.First, .int .i64 rv77.1.Rate.Num, .int .i64 rv77.1.Rate.Den, .int .i64 rv77.1.Error, .int .i64 rv77.1.Run, .int .i64 rv77.1.Seq, .slice (some ⟨b962, 0, none⟩) rv77.1.Samples.length k79] 32, .box b99 [.string rv89.1.Source.Network, .string rv89.1.Source.Station, .string rv89.1.Source.Location, .string rv89.1.Source.Channel, .int .i64 rv89.1.Start, .int .i64 rv89.1.First, .int .i64 rv89.1.Rate.Num, .int .i64 rv89.1.Rate.Den, .int .i64 rv89.1.Error, .int .i64 rv89.1.Run, .int .i64 rv89.1.Seq, .slice p90 rv89.1.Samples.length k91] 32, .row (some ⟨b962, 0, none⟩) rv77.1.Samples.length k79 c80 3 1, .row p90 rv89.1.Samples.length k91 c92 3 1] [CeA b974 q972 [.int .i64 x968]]) (by kernel_rfl) rfl ?_
                      have hw := hw.drew
                      have hC : Cls [.box b63 [.string rv49.1.Source.Network, .string rv49.1.Source.Station, .string rv49.1.Source.Location, .string rv49.1.Source.Channel, .int .i64 rv49.1.Start, .int .i64 rv49.1.First, .int .i64 rv49.1.Rate.Num, .int .i64 rv49.1.Rate.Den, .int .i64 rv49.1.Error, .int .i64 rv49.1.Run, .int .i64 rv49.1.Seq, .slice (some ⟨b974, o975, none⟩) rv49.1.Samples.length k51] 32, .box b87 [.string rv77.1.Source.Network, .string rv77.1.Source.Station, .string rv77.1.Source.Location, .string rv77.1.Source.Channel, .int .i64 rv77.1.Start, .int .i64 rv77.1.First, .int .i64 rv77.1.Rate.Num, .int .i64 rv77.1.Rate.Den, .int .i64 rv77.1.Error, .int .i64 rv77.1.Run, .int .i64 rv77.1.Seq, .slice (some ⟨b962, 0, none⟩) rv77.1.Samples.length k79] 32, .box b99 [.string rv89.1.Source.Network, .string rv89.1.Source.Station, .string rv89.1.Source.Location, .string rv89.1.Source.Channel, .int .i64 rv89.1.Start, .int .i64 rv89.1.First, .int .i64 rv89.1.Rate.Num, .int .i64 rv89.1.Rate.Den, .int .i64 rv89.1.Error, .int .i64 rv89.1.Run, .int .i64 rv89.1.Seq, .slice p90 rv89.1.Samples.length k91] 32, .row (some ⟨b962, 0, none⟩) rv77.1.Samples.length k79 c80 3 1, .row p90 rv89.1.Samples.length k91 c92 3 1] [CeA b974 q972 [.int .i64 x968]] _ := hw.cs [0, 1, 2, 3, 4] [0] rfl rfl
                      refine h_get hs (i := 0) rfl (by kernel_rfl) rfl rfl hC rfl (fun w hC => y_move rfl) fun a hs => ?_
                      refine h_get hs (i := 1) rfl (by kernel_rfl) rfl rfl hC rfl (fun w hC => y_not rfl) fun a hs => ?_
                      refine h_get hs (i := 2) rfl (by kernel_rfl) rfl rfl hC rfl (fun w hC => y_move rfl) fun a hs => ?_
                      have hs := hs.fix 113 (.bool false) rfl (vb h918)
                      refine h_take hs (i := 3) rfl (by kernel_rfl) (by kernel_rfl) (by kernel_rfl) ⟨_, rfl, rfl⟩ rfl rfl hC (fun w hC => y_move rfl) fun a hs => ?_
                      refine h_take hs (i := 4) rfl (by kernel_rfl) (by kernel_rfl) (by kernel_rfl) ⟨_, rfl, rfl⟩ rfl rfl hC (fun w hC => y_fieldAddr (o' := 11) Try.runUnderlying32 rfl Try.sizeOf22 rfl rfl rfl) fun a hs => ?_
                      refine h_take hs (i := 5) rfl (by kernel_rfl) (by kernel_rfl) (by kernel_rfl) ⟨_, rfl, rfl⟩ rfl rfl hC (fun w hC => y_loadB1 (hC.ownAt 1 rfl) rfl Try.isAgg22 rfl) fun a hs => ?_
                      refine h_take hs (i := 6) rfl (by kernel_rfl) (by kernel_rfl) (by kernel_rfl) ⟨_, rfl, rfl⟩ rfl rfl hC (fun w hC => y_len Try.runUnderlying22 rfl) fun a hs => ?_
                      refine h_take hs (i := 7) rfl (by kernel_rfl) (by kernel_rfl) (by kernel_rfl) ⟨_, rfl, rfl⟩ rfl rfl hC (fun w hC => y_geq rfl rfl) fun a hs => ?_
                      refine h_get hs (i := 8) rfl (by kernel_rfl) rfl rfl hC rfl (fun w hC => y_pickFE (v := .bool ((!rv77.2.1) || (decide ((rv77.1.Samples.length : Int) ≤ sv363.1)))) rfl rfl (or_f h918)) fun a hs => ?_
                      refine h_get hs (i := 9) rfl (by kernel_rfl) rfl rfl hC rfl (fun w hC => y_move rfl) fun a hs => ?_
                      have hs := hs.fix 120 (.bool false) rfl (vb h950)
                      refine h_take hs (i := 10) rfl (by kernel_rfl) (by kernel_rfl) (by kernel_rfl) ⟨_, rfl, rfl⟩ rfl rfl hC (fun w hC => y_fieldAddr (o' := 11) Try.runUnderlying32 rfl Try.sizeOf22 rfl rfl rfl) fun a hs => ?_
                      refine h_take hs (i := 11) rfl (by kernel_rfl) (by kernel_rfl) (by kernel_rfl) ⟨_, rfl, rfl⟩ rfl rfl hC (fun w hC => y_loadB1 (hC.ownAt 1 rfl) rfl Try.isAgg22 rfl) fun a hs => ?_
                      refine h_take hs (i := 12) rfl (by kernel_rfl) (by kernel_rfl) (by kernel_rfl) ⟨_, rfl, rfl⟩ rfl rfl hC (fun w hC => y_move rfl) fun a hs => ?_
                      refine h_take hs (i := 13) rfl (by kernel_rfl) (by kernel_rfl) (by kernel_rfl) ⟨_, rfl, rfl⟩ rfl rfl hC (fun w hC => y_indexAt Try.runUnderlying22 Try.sizeOf3 rfl rfl h956.1 h956.2 h957) fun a hs => ?_
                      refine h_take hs (i := 14) rfl (by kernel_rfl) (by kernel_rfl) (by kernel_rfl) ⟨_, rfl, rfl⟩ rfl rfl hC (fun w hC => y_loadQ1 (j := 0) (hC.ownAt 3 rfl) rfl Try.isAgg3 h961 rfl) fun a hs => ?_
                      refine h_take hs (i := 15) rfl (by kernel_rfl) (by kernel_rfl) (by kernel_rfl) ⟨_, rfl, rfl⟩ rfl rfl hC (fun w hC => y_fieldAddr (o' := 11) Try.runUnderlying32 rfl Try.sizeOf22 rfl rfl rfl) fun a hs => ?_
                      refine h_take hs (i := 16) rfl (by kernel_rfl) (by kernel_rfl) (by kernel_rfl) ⟨_, rfl, rfl⟩ rfl rfl hC (fun w hC => y_loadB1 (hC.ownAt 0 rfl) rfl Try.isAgg22 rfl) fun a hs => ?_
                      refine h_take hs (i := 17) rfl (by kernel_rfl) (by kernel_rfl) (by kernel_rfl) ⟨_, rfl, rfl⟩ rfl rfl hC (fun w hC => y_move rfl) fun a hs => ?_
                      refine h_take hs (i := 18) rfl (by kernel_rfl) (by kernel_rfl) (by kernel_rfl) ⟨_, rfl, rfl⟩ rfl rfl hC (fun w hC => y_indexAt Try.runUnderlying22 Try.sizeOf3 rfl rfl h969.1 h969.2 h970) fun a hs => ?_
                      refine h_take hs (i := 19) rfl (by kernel_rfl) (by kernel_rfl) (by kernel_rfl) ⟨_, rfl, rfl⟩ rfl rfl hC (fun w hC => y_loadE1 (j := 0) (hC.ceAt 0 rfl) rfl Try.isAgg3 rfl) fun a hs => ?_
                      refine h_take hs (i := 20) rfl (by kernel_rfl) (by kernel_rfl) (by kernel_rfl) ⟨_, rfl, rfl⟩ rfl rfl hC (fun w hC => y_neq rfl rfl) fun a hs => ?_
                      refine h_get hs (i := 21) rfl (by kernel_rfl) rfl rfl hC rfl (fun w hC => y_pickFE (v := .bool c916) rfl rfl (vbs h952)) fun a hs => ?_
                      refine h_done (by kernel_rfl) ?_
                      exact ⟨Sv719, (hs.wk rfl), (hw.ft [0, 1, 2, 3, 4] [1, 2, 3] (by decide) rfl rfl)⟩
                · rintro a w ⟨Sv917, hs, hw⟩
                  refine then_normal ?_
                  refine wp_cond_split (hs.ev rfl) (fun h980 => ?_) (fun h980 => ?_)
                  · have hsh := ite_t hsh h980
                    refine wp_seq ?_
                    refine wp_region_lit ?_
                    refine st_val hs (y_assign rfl) trivial rfl rfl fun a hs => ?_
                    refine wpList_nil ?_
                    refine then_normal ?_
                    have hsh := Option.some.inj hsh
                    subst hsh
                    have h981 := hd621 _ rfl
                    subst h981
                    refine wp_ret ?_
                    refine then_ret ?_
                    refine then_ret ?_
                    refine then_ret ?_
                    refine blk_ret ?_
                    refine then_ret ?_
                    refine then_ret ?_
                    refine blk_ret ?_
                    refine then_ret ?_
                    exact ret1 hs rfl (rv_tmp rfl) (hw.ret rfl)
                  · have hsh := ite_f hsh h980
                    refine wp_skip ?_
                    refine then_normal ?_
                    refine wp_region_lit ?_
                    refine st_val hs (y_move rfl) trivial rfl rfl fun a hs => ?_
                    refine st_val hs (y_add rfl rfl) trivial rfl rfl fun a hs => ?_
                    obtain ⟨cut983, h982, hsh⟩ := bind_t hsh
                    refine st_val hs (y_assignI rfl h982) trivial rfl rfl fun a hs => ?_
                    refine wpList_nil ?_
                    refine then_normal ?_
                    exact ⟨cut983, Sv917, hsh, (hs.wk rfl), (hw.ft [0, 1, 2, 3, 4] [0, 1, 2] (by decide) rfl rfl)⟩
              · have hsh := ite_f hsh h889
                refine wp_skip ?_
                refine then_normal ?_
                exact ⟨sv363.1, Sv719, hsh, (hs.wk rfl), (hw.ft [0, 1, 2, 3, 4] [0, 1, 2] (by decide) rfl rfl)⟩
            · rintro a w ⟨cut757, Sv756, hsh, hs, hw⟩
              delta law14_RecordWindows_j1 at hsh
              refine then_normal ?_
              refine wp_seq ?_
              refine wp_region_lit ?_
              refine st_val hs (y_move rfl) trivial rfl rfl fun a hs => ?_
              refine st_val hs (y_move rfl) trivial rfl rfl fun a hs => ?_
              refine st_val hs (y_geq rfl rfl) trivial rfl rfl fun a hs => ?_
              refine st_val hs (y_move rfl) trivial rfl rfl fun a hs => ?_
              refine wpl_join 4 (fun a w1 => w = w1 ∧ Sl 238 [(8, .pointer (some ⟨b63, 0, none⟩)), (11, .int .i64 fromv73), (12, .int .i64 to75), (13, .pointer (some ⟨b87, 0, none⟩)), (14, .bool rv77.2.1), (16, .pointer (some ⟨b99, 0, none⟩)), (17, .bool rv89.2.1), (19, .int .i64 cut757), (20, .int .i64 sv363.2.1), (21, .int .i64 sv363.2.2), (86, .int .i64 (rv49.1.Samples.length : Int)), (87, .int .i64 sv363.2.2), (142, .bool ((decide (fromv73 ≤ rv712.1)) && (decide (rv718.1 ≤ to75))))] a) ?_ ?_
              · rcases Bool.eq_false_or_eq_true (decide (fromv73 ≤ rv712.1)) with h758 | h758
                · have hs := hs.fix 138 (.bool true) rfl (vb h758)
                  refine st_val hs (y_move rfl) ⟨_, rfl, rfl⟩ rfl rfl fun a hs => ?_
                  refine st_val hs (y_move rfl) ⟨_, rfl, rfl⟩ rfl rfl fun a hs => ?_
                  refine st_val hs (y_leq rfl rfl) ⟨_, rfl, rfl⟩ rfl rfl fun a hs => ?_
                  refine st_val hs (y_pickT rfl rfl) trivial rfl rfl fun a hs => ?_
                  refine wpList_nil ?_
                  refine then_normal ?_
                  exact ⟨rfl, (hs.fix 142 (.bool ((decide (fromv73 ≤ rv712.1)) && (decide (rv718.1 ≤ to75)))) rfl (and_t h758)).weaken _ ⟨rfl, rfl, rfl, rfl, rfl, rfl, rfl, rfl, rfl, rfl, rfl, rfl, rfl, trivial⟩⟩
                · have hs := hs.fix 138 (.bool false) rfl (vb h758)
                  refine st_skip hs rfl rfl rfl rfl rfl fun a hs => ?_
                  refine st_skip hs rfl rfl rfl rfl rfl fun a hs => ?_
                  refine st_skip hs rfl rfl rfl rfl rfl fun a hs => ?_
                  refine st_val hs (y_pickF rfl rfl) trivial rfl rfl fun a hs => ?_
                  refine wpList_nil ?_
                  refine then_normal ?_
                  exact ⟨rfl, (hs.fix 142 (.bool ((decide (fromv73 ≤ rv712.1)) && (decide (rv718.1 ≤ to75)))) rfl (and_f h758)).weaken _ ⟨rfl, rfl, rfl, rfl, rfl, rfl, rfl, rfl, rfl, rfl, rfl, rfl, rfl, trivial⟩⟩
              · rintro a w1 ⟨h888, hs⟩
                subst h888
                refine wpList_nil ?_
                refine then_normal ?_
                refine wp_join (fun a w => ∃ (inv792 : Int) (Sv791 : Nat → Prop), law14_RecordWindows_j2 sv363 cut757 inv792 = some tv622 ∧ Sl 238 [(8, .pointer (some ⟨b63, 0, none⟩)), (11, .int .i64 fromv73), (12, .int .i64 to75), (13, .pointer (some ⟨b87, 0, none⟩)), (14, .bool rv77.2.1), (16, .pointer (some ⟨b99, 0, none⟩)), (17, .bool rv89.2.1), (19, .int .i64 cut757), (20, .int .i64 inv792), (86, .int .i64 (rv49.1.Samples.length : Int)), (87, .int .i64 sv363.2.2)] a ∧ Wd ⟨w0, S0, []⟩ Sv791 [.box b63 [.string rv49.1.Source.Network, .string rv49.1.Source.Station, .string rv49.1.Source.Location, .string rv49.1.Source.Channel, .int .i64 rv49.1.Start, .int .i64 rv49.1.First, .int .i64 rv49.1.Rate.Num, .int .i64 rv49.1.Rate.Den, .int .i64 rv49.1.Error, .int .i64 rv49.1.Run, .int .i64 rv49.1.Seq, .slice p50 rv49.1.Samples.length k51] 32, .box b87 [.string rv77.1.Source.Network, .string rv77.1.Source.Station, .string rv77.1.Source.Location, .string rv77.1.Source.Channel, .int .i64 rv77.1.Start, .int .i64 rv77.1.First, .int .i64 rv77.1.Rate.Num, .int .i64 rv77.1.Rate.Den, .int .i64 rv77.1.Error, .int .i64 rv77.1.Run, .int .i64 rv77.1.Seq, .slice p78 rv77.1.Samples.length k79] 32, .box b99 [.string rv89.1.Source.Network, .string rv89.1.Source.Station, .string rv89.1.Source.Location, .string rv89.1.Source.Channel, .int .i64 rv89.1.Start, .int .i64 rv89.1.First, .int .i64 rv89.1.Rate.Num, .int .i64 rv89.1.Rate.Den, .int .i64 rv89.1.Error, .int .i64 rv89.1.Run, .int .i64 rv89.1.Seq, .slice p90 rv89.1.Samples.length k91] 32, .row p78 rv77.1.Samples.length k79 c80 3 1, .row p90 rv89.1.Samples.length k91 c92 3 1] [SlA p50 rv49.1.Samples.length k51 rv49.1.Samples, RowA c80 rv77.1.Samples, RowA c92 rv89.1.Samples] w) ?_ ?_
                · refine wp_cond_split (hs.ev rfl) (fun h793 => ?_) (fun h793 => ?_)
                  · have hsh := ite_t hsh h793
                    refine wp_seq ?_
                    refine wp_seq ?_
                    obtain ⟨c820, hc820, hsh⟩ := bind_t hsh
                    refine wp_only (fun a w => ∃ (Sv821 : Nat → Prop), Sl 238 [(8, .pointer (some ⟨b63, 0, none⟩)), (11, .int .i64 fromv73), (12, .int .i64 to75), (13, .pointer (some ⟨b87, 0, none⟩)), (14, .bool rv77.2.1), (16, .pointer (some ⟨b99, 0, none⟩)), (17, .bool rv89.2.1), (19, .int .i64 cut757), (20, .int .i64 sv363.2.1), (86, .int .i64 (rv49.1.Samples.length : Int)), (87, .int .i64 sv363.2.2), (164, .bool c820)] a ∧ Wd ⟨w0, S0, []⟩ Sv821 [.box b63 [.string rv49.1.Source.Network, .string rv49.1.Source.Station, .string rv49.1.Source.Location, .string rv49.1.Source.Channel, .int .i64 rv49.1.Start, .int .i64 rv49.1.First, .int .i64 rv49.1.Rate.Num, .int .i64 rv49.1.Rate.Den, .int .i64 rv49.1.Error, .int .i64 rv49.1.Run, .int .i64 rv49.1.Seq, .slice p50 rv49.1.Samples.length k51] 32, .box b87 [.string rv77.1.Source.Network, .string rv77.1.Source.Station, .string rv77.1.Source.Location, .string rv77.1.Source.Channel, .int .i64 rv77.1.Start, .int .i64 rv77.1.First, .int .i64 rv77.1.Rate.Num, .int .i64 rv77.1.Rate.Den, .int .i64 rv77.1.Error, .int .i64 rv77.1.Run, .int .i64 rv77.1.Seq, .slice p78 rv77.1.Samples.length k79] 32, .box b99 [.string rv89.1.Source.Network, .string rv89.1.Source.Station, .string rv89.1.Source.Location, .string rv89.1.Source.Channel, .int .i64 rv89.1.Start, .int .i64 rv89.1.First, .int .i64 rv89.1.Rate.Num, .int .i64 rv89.1.Rate.Den, .int .i64 rv89.1.Error, .int .i64 rv89.1.Run, .int .i64 rv89.1.Seq, .slice p90 rv89.1.Samples.length k91] 32, .row p78 rv77.1.Samples.length k79 c80 3 1, .row p90 rv89.1.Samples.length k91 c92 3 1] [SlA p50 rv49.1.Samples.length k51 rv49.1.Samples, RowA c80 rv77.1.Samples, RowA c92 rv89.1.Samples] w) ?_ ?_
                    · rcases Bool.eq_false_or_eq_true (!rv89.2.1) with h822 | h822
                      · rcases Bool.eq_false_or_eq_true ((!rv89.2.1) || (decide ((rv89.1.Samples.length : Int) ≤ sv363.2.1))) with h824 | h824
                        · have h825 := ite_t hc820 h824
                          refine h_begin (C := Cls [.box b63 [.string rv49.1.Source.Network, .string rv49.1.Source.Station, .string rv49.1.Source.Location, .string rv49.1.Source.Channel, .int .i64 rv49.1.Start, .int .i64 rv49.1.First, .int .i64 rv49.1.Rate.Num, .int .i64 rv49.1.Rate.Den, .int .i64 rv49.1.Error, .int .i64 rv49.1.Run, .int .i64 rv49.1.Seq, .slice p50 rv49.1.Samples.length k51] 32, .box b87 [.string rv77.1.Source.Network, .string rv77.1.Source.Station, .string rv77.1.Source.Location, .string rv77.1.Source.Channel, .int .i64 rv77.1.Start, .int .i64 rv77.1.First, .int .i64 rv77.1.Rate.Num, .int .i64 rv77.1.Rate.Den, .int .i64 rv77.1.Error, .int .i64 rv77.1.Run, .int .i64 rv77.1.Seq, .slice p78 rv77.1.Samples.length k79] 32, .box b99 [.string rv89.1.Source.Network, .string rv89.1.Source.Station, .string rv89.1.Source.Location, .string rv89.1.Source.Channel, .int .i64 rv89.1.Start, .int .i64 rv89.1.First, .int .i64 rv89.1.Rate.Num, .int .i64 rv89.1.Rate.Den, .int .i64 rv89.1.Error, .int .i64 rv89.1.Run, .int .i64 rv89.1.Seq, .slice p90 rv89.1.Samples.length k91] 32, .row p78 rv77.1.Samples.length k79 c80 3 1, .row p90 rv89.1.Samples.length k91 c92 3 1] []) (by kernel_rfl) rfl ?_
                          have hw := hw.drew
                          have hC : Cls [.box b63 [.string rv49.1.Source.Network, .string rv49.1.Source.Station, .string rv49.1.Source.Location, .string rv49.1.Source.Channel, .int .i64 rv49.1.Start, .int .i64 rv49.1.First, .int .i64 rv49.1.Rate.Num, .int .i64 rv49.1.Rate.Den, .int .i64 rv49.1.Error, .int .i64 rv49.1.Run, .int .i64 rv49.1.Seq, .slice p50 rv49.1.Samples.length k51] 32, .box b87 [.string rv77.1.Source.Network, .string rv77.1.Source.Station, .string rv77.1.Source.Location, .string rv77.1.Source.Channel, .int .i64 rv77.1.Start, .int .i64 rv77.1.First, .int .i64 rv77.1.Rate.Num, .int .i64 rv77.1.Rate.Den, .int .i64 rv77.1.Error, .int .i64 rv77.1.Run, .int .i64 rv77.1.Seq, .slice p78 rv77.1.Samples.length k79] 32, .box b99 [.string rv89.1.Source.Network, .string rv89.1.Source.Station, .string rv89.1.Source.Location, .string rv89.1.Source.Channel, .int .i64 rv89.1.Start, .int .i64 rv89.1.First, .int .i64 rv89.1.Rate.Num, .int .i64 rv89.1.Rate.Den, .int .i64 rv89.1.Error, .int .i64 rv89.1.Run, .int .i64 rv89.1.Seq, .slice p90 rv89.1.Samples.length k91] 32, .row p78 rv77.1.Samples.length k79 c80 3 1, .row p90 rv89.1.Samples.length k91 c92 3 1] [] _ := hw.cs [0, 1, 2, 3, 4] [] rfl rfl
                          refine h_get hs (i := 0) rfl (by kernel_rfl) rfl rfl hC rfl (fun w hC => y_move rfl) fun a hs => ?_
                          refine h_get hs (i := 1) rfl (by kernel_rfl) rfl rfl hC rfl (fun w hC => y_not rfl) fun a hs => ?_
                          refine h_get hs (i := 2) rfl (by kernel_rfl) rfl rfl hC rfl (fun w hC => y_move rfl) fun a hs => ?_
                          have hs := hs.fix 145 (.bool true) rfl (vb h822)
                          refine h_skip hs (i := 3) rfl (by kernel_rfl) (by kernel_rfl) (by kernel_rfl) rfl rfl rfl (by first | exact .inl rfl | exact .inr rfl) rfl rfl hC fun a hs => ?_
                          refine h_skip hs (i := 4) rfl (by kernel_rfl) (by kernel_rfl) (by kernel_rfl) rfl rfl rfl (by first | exact .inl rfl | exact .inr rfl) rfl rfl hC fun a hs => ?_
                          refine h_skip hs (i := 5) rfl (by kernel_rfl) (by kernel_rfl) (by kernel_rfl) rfl rfl rfl (by first | exact .inl rfl | exact .inr rfl) rfl rfl hC fun a hs => ?_
                          refine h_skip hs (i := 6) rfl (by kernel_rfl) (by kernel_rfl) (by kernel_rfl) rfl rfl rfl (by first | exact .inl rfl | exact .inr rfl) rfl rfl hC fun a hs => ?_
                          refine h_skip hs (i := 7) rfl (by kernel_rfl) (by kernel_rfl) (by kernel_rfl) rfl rfl rfl (by first | exact .inl rfl | exact .inr rfl) rfl rfl hC fun a hs => ?_
                          refine h_get hs (i := 8) rfl (by kernel_rfl) rfl rfl hC rfl (fun w hC => y_pickTE (v := .bool ((!rv89.2.1) || (decide ((rv89.1.Samples.length : Int) ≤ sv363.2.1)))) rfl rfl (or_t h822)) fun a hs => ?_
                          refine h_get hs (i := 9) rfl (by kernel_rfl) rfl rfl hC rfl (fun w hC => y_move rfl) fun a hs => ?_
                          have hs := hs.fix 152 (.bool true) rfl (vb h824)
                          refine h_skip hs (i := 10) rfl (by kernel_rfl) (by kernel_rfl) (by kernel_rfl) rfl rfl rfl (by first | exact .inl rfl | exact .inr rfl) rfl rfl hC fun a hs => ?_
                          refine h_skip hs (i := 11) rfl (by kernel_rfl) (by kernel_rfl) (by kernel_rfl) rfl rfl rfl (by first | exact .inl rfl | exact .inr rfl) rfl rfl hC fun a hs => ?_
                          refine h_skip hs (i := 12) rfl (by kernel_rfl) (by kernel_rfl) (by kernel_rfl) rfl rfl rfl (by first | exact .inl rfl | exact .inr rfl) rfl rfl hC fun a hs => ?_
                          refine h_skip hs (i := 13) rfl (by kernel_rfl) (by kernel_rfl) (by kernel_rfl) rfl rfl rfl (by first | exact .inl rfl | exact .inr rfl) rfl rfl hC fun a hs => ?_
                          refine h_skip hs (i := 14) rfl (by kernel_rfl) (by kernel_rfl) (by kernel_rfl) rfl rfl rfl (by first | exact .inl rfl | exact .inr rfl) rfl rfl hC fun a hs => ?_
                          refine h_skip hs (i := 15) rfl (by kernel_rfl) (by kernel_rfl) (by kernel_rfl) rfl rfl rfl (by first | exact .inl rfl | exact .inr rfl) rfl rfl hC fun a hs => ?_
                          refine h_skip hs (i := 16) rfl (by kernel_rfl) (by kernel_rfl) (by kernel_rfl) rfl rfl rfl (by first | exact .inl rfl | exact .inr rfl) rfl rfl hC fun a hs => ?_
                          refine h_skip hs (i := 17) rfl (by kernel_rfl) (by kernel_rfl) (by kernel_rfl) rfl rfl rfl (by first | exact .inl rfl | exact .inr rfl) rfl rfl hC fun a hs => ?_
                          refine h_skip hs (i := 18) rfl (by kernel_rfl) (by kernel_rfl) (by kernel_rfl) rfl rfl rfl (by first | exact .inl rfl | exact .inr rfl) rfl rfl hC fun a hs => ?_
                          refine h_skip hs (i := 19) rfl (by kernel_rfl) (by kernel_rfl) (by kernel_rfl) rfl rfl rfl (by first | exact .inl rfl | exact .inr rfl) rfl rfl hC fun a hs => ?_
                          refine h_skip hs (i := 20) rfl (by kernel_rfl) (by kernel_rfl) (by kernel_rfl) rfl rfl rfl (by first | exact .inl rfl | exact .inr rfl) rfl rfl hC fun a hs => ?_
                          refine h_get hs (i := 21) rfl (by kernel_rfl) rfl rfl hC rfl (fun w hC => y_pickTE (v := .bool c820) rfl rfl (vbs h825)) fun a hs => ?_
                          refine h_done (by kernel_rfl) ?_
                          exact ⟨Sv756, (hs.wk rfl), (hw.ft [0, 1, 2, 3, 4] [0, 1, 2] (by decide) rfl rfl)⟩
                        · have h826 := ite_f hc820 h824
                          obtain ⟨x829, h827, h826⟩ := bind_t h826
                          obtain ⟨b836, q833, c834, h837, h830, h831, h835, h828⟩ := hw.elemRV (α := Int) 4 rfl 2 rfl h827
                          have hsv838 := hs
                          have hwv839 := hw
                          subst h837
                          have hs := hsv838
                          have hw := hwv839
                          obtain ⟨_, rfl, rfl⟩ := h828
                          obtain ⟨x842, h840, h826⟩ := bind_t h826
                          obtain ⟨b848, o849, q846, c847, h850, h843, h844, h845, h841⟩ := hw.elemV 0 rfl h840
                          have hsv851 := hs
                          have hwv852 := hw
                          subst h850
                          have hs := hsv851
                          have hw := hwv852
                          obtain ⟨_, rfl, rfl⟩ := h841
                          have hw := hw.addE h845
                          refine h_begin (C := Cls [.box b63 [.string rv49.1.Source.Network, .string rv49.1.Source.Station, .string rv49.1.Source.Location, .string rv49.1.Source.Channel, .int .i64 rv49.1.Start, .int .i64 rv49.1.First, .int .i64 rv49.1.Rate.Num, .int .i64 rv49.1.Rate.Den, .int .i64 rv49.1.Error, .int .i64 rv49.1.Run, .int .i64 rv49.1.Seq, .slice (some ⟨b848, o849, none⟩) rv49.1.Samples.length k51] 32, .box b87 [.string rv77.1.Source.Network, .string rv77.1.Source.Station, .string rv77.1.Source.Location, .string rv77.1.Source.Channel, .int .i64 rv77.1.Start, .int .i64 rv77.1.First, .int .i64 rv77.1.Rate.Num, .int .i64 rv77.1.Rate.Den, .int .i64 rv77.1.Error, .int .i64 rv77.1.Run, .int .i64 rv77.1.Seq, .slice p78 rv77.1.Samples.length k79] 32, .box b99 [.string rv89.1.Source.Network, .string rv89.1.Source.Station, .string rv89.1.Source.Location, .string rv89.1.Source.Channel, .int .i64 rv89.1.Start, .int .i64 rv89.1.First, .int .i64 rv89.1.Rate.Num, .int .i64 rv89.1.Rate.Den, .int .i64 rv89.1.Error, .int .i64 rv89.1.Run, .int .i64 rv89.1.Seq, .slice (some ⟨b836, 0, none⟩) rv89.1.Samples.length k91] 32, .row p78 rv77.1.Samples.length k79 c80 3 1, .row (some ⟨b836, 0, none⟩) rv89.1.Samples.length k91 c92 3 1] [CeA b848 q846 [.int .i64 x842]]) (by kernel_rfl) rfl ?_
                          have hw := hw.drew
                          have hC : Cls [.box b63 [.string rv49.1.Source.Network, .string rv49.1.Source.Station, .string rv49.1.Source.Location, .string rv49.1.Source.Channel, .int .i64 rv49.1.Start, .int .i64 rv49.1.First, .int .i64 rv49.1.Rate.Num, .int .i64 rv49.1.Rate.Den, .int .i64 rv49.1.Error, .int .i64 rv49.1.Run, .int .i64 rv49.1.Seq, .slice (some ⟨b848, o849, none⟩) rv49.1.Samples.length k51] 32, .box b87 [.string rv77.1.Source.Network, .string rv77.1.Source.Station, .string rv77.1.Source.Location, .string rv77.1.Source.Channel, .int .i64 rv77.1.Start, .int .i64 rv77.1.First, .int .i64 rv77.1.Rate.Num, .int .i64 rv77.1.Rate.Den, .int .i64 rv77.1.Error, .int .i64 rv77.1.Run, .int .i64 rv77.1.Seq, .slice p78 rv77.1.Samples.length k79] 32, .box b99 [.string rv89.1.Source.Network, .string rv89.1.Source.Station, .string rv89.1.Source.Location, .string rv89.1.Source.Channel, .int .i64 rv89.1.Start, .int .i64 rv89.1.First, .int .i64 rv89.1.Rate.Num, .int .i64 rv89.1.Rate.Den, .int .i64 rv89.1.Error, .int .i64 rv89.1.Run, .int .i64 rv89.1.Seq, .slice (some ⟨b836, 0, none⟩) rv89.1.Samples.length k91] 32, .row p78 rv77.1.Samples.length k79 c80 3 1, .row (some ⟨b836, 0, none⟩) rv89.1.Samples.length k91 c92 3 1] [CeA b848 q846 [.int .i64 x842]] _ := hw.cs [0, 1, 2, 3, 4] [0] rfl rfl
                          refine h_get hs (i := 0) rfl (by kernel_rfl) rfl rfl hC rfl (fun w hC => y_move rfl) fun a hs => ?_
                          refine h_get hs (i := 1) rfl (by kernel_rfl) rfl rfl hC rfl (fun w hC => y_not rfl) fun a hs => ?_
                          refine h_get hs (i := 2) rfl (by kernel_rfl) rfl rfl hC rfl (fun w hC => y_move rfl) fun a hs => ?_
                          have hs := hs.fix 145 (.bool true) rfl (vb h822)
                          refine h_skip hs (i := 3) rfl (by kernel_rfl) (by kernel_rfl) (by kernel_rfl) rfl rfl rfl (by first | exact .inl rfl | exact .inr rfl) rfl rfl hC fun a hs => ?_
                          refine h_skip hs (i := 4) rfl (by kernel_rfl) (by kernel_rfl) (by kernel_rfl) rfl rfl rfl (by first | exact .inl rfl | exact .inr rfl) rfl rfl hC fun a hs => ?_
                          refine h_skip hs (i := 5) rfl (by kernel_rfl) (by kernel_rfl) (by kernel_rfl) rfl rfl rfl (by first | exact .inl rfl | exact .inr rfl) rfl rfl hC fun a hs => ?_
                          refine h_skip hs (i := 6) rfl (by kernel_rfl) (by kernel_rfl) (by kernel_rfl) rfl rfl rfl (by first | exact .inl rfl | exact .inr rfl) rfl rfl hC fun a hs => ?_
                          refine h_skip hs (i := 7) rfl (by kernel_rfl) (by kernel_rfl) (by kernel_rfl) rfl rfl rfl (by first | exact .inl rfl | exact .inr rfl) rfl rfl hC fun a hs => ?_
                          refine h_get hs (i := 8) rfl (by kernel_rfl) rfl rfl hC rfl (fun w hC => y_pickTE (v := .bool ((!rv89.2.1) || (decide ((rv89.1.Samples.length : Int) ≤ sv363.2.1)))) rfl rfl (or_t h822)) fun a hs => ?_
                          refine h_get hs (i := 9) rfl (by kernel_rfl) rfl rfl hC rfl (fun w hC => y_move rfl) fun a hs => ?_
                          have hs := hs.fix 152 (.bool false) rfl (vb h824)
                          refine h_take hs (i := 10) rfl (by kernel_rfl) (by kernel_rfl) (by kernel_rfl) ⟨_, rfl, rfl⟩ rfl rfl hC (fun w hC => y_fieldAddr (o' := 11) Try.runUnderlying32 rfl Try.sizeOf22 rfl rfl rfl) fun a hs => ?_
                          refine h_take hs (i := 11) rfl (by kernel_rfl) (by kernel_rfl) (by kernel_rfl) ⟨_, rfl, rfl⟩ rfl rfl hC (fun w hC => y_loadB1 (hC.ownAt 2 rfl) rfl Try.isAgg22 rfl) fun a hs => ?_
                          refine h_take hs (i := 12) rfl (by kernel_rfl) (by kernel_rfl) (by kernel_rfl) ⟨_, rfl, rfl⟩ rfl rfl hC (fun w hC => y_move rfl) fun a hs => ?_
                          refine h_take hs (i := 13) rfl (by kernel_rfl) (by kernel_rfl) (by kernel_rfl) ⟨_, rfl, rfl⟩ rfl rfl hC (fun w hC => y_indexAt Try.runUnderlying22 Try.sizeOf3 rfl rfl h830.1 h830.2 h831) fun a hs => ?_
                          refine h_take hs (i := 14) rfl (by kernel_rfl) (by kernel_rfl) (by kernel_rfl) ⟨_, rfl, rfl⟩ rfl rfl hC (fun w hC => y_loadQ1 (j := 0) (hC.ownAt 4 rfl) rfl Try.isAgg3 h835 rfl) fun a hs => ?_
                          refine h_take hs (i := 15) rfl (by kernel_rfl) (by kernel_rfl) (by kernel_rfl) ⟨_, rfl, rfl⟩ rfl rfl hC (fun w hC => y_fieldAddr (o' := 11) Try.runUnderlying32 rfl Try.sizeOf22 rfl rfl rfl) fun a hs => ?_
                          refine h_take hs (i := 16) rfl (by kernel_rfl) (by kernel_rfl) (by kernel_rfl) ⟨_, rfl, rfl⟩ rfl rfl hC (fun w hC => y_loadB1 (hC.ownAt 0 rfl) rfl Try.isAgg22 rfl) fun a hs => ?_
                          refine h_take hs (i := 17) rfl (by kernel_rfl) (by kernel_rfl) (by kernel_rfl) ⟨_, rfl, rfl⟩ rfl rfl hC (fun w hC => y_move rfl) fun a hs => ?_
                          refine h_take hs (i := 18) rfl (by kernel_rfl) (by kernel_rfl) (by kernel_rfl) ⟨_, rfl, rfl⟩ rfl rfl hC (fun w hC => y_indexAt Try.runUnderlying22 Try.sizeOf3 rfl rfl h843.1 h843.2 h844) fun a hs => ?_
                          refine h_take hs (i := 19) rfl (by kernel_rfl) (by kernel_rfl) (by kernel_rfl) ⟨_, rfl, rfl⟩ rfl rfl hC (fun w hC => y_loadE1 (j := 0) (hC.ceAt 0 rfl) rfl Try.isAgg3 rfl) fun a hs => ?_
                          refine h_take hs (i := 20) rfl (by kernel_rfl) (by kernel_rfl) (by kernel_rfl) ⟨_, rfl, rfl⟩ rfl rfl hC (fun w hC => y_neq rfl rfl) fun a hs => ?_
                          refine h_get hs (i := 21) rfl (by kernel_rfl) rfl rfl hC rfl (fun w hC => y_pickFE (v := .bool c820) rfl rfl (vbs h826)) fun a hs => ?_
                          refine h_done (by kernel_rfl) ?_
                          exact ⟨Sv756, (hs.wk rfl), (hw.ft [0, 1, 2, 3, 4] [1, 2, 3] (by decide) rfl rfl)⟩
                      · rcases Bool.eq_false_or_eq_true ((!rv89.2.1) || (decide ((rv89.1.Samples.length : Int) ≤ sv363.2.1))) with h854 | h854
                        · have h855 := ite_t hc820 h854
                          refine h_begin (C := Cls [.box b63 [.string rv49.1.Source.Network, .string rv49.1.Source.Station, .string rv49.1.Source.Location, .string rv49.1.Source.Channel, .int .i64 rv49.1.Start, .int .i64 rv49.1.First, .int .i64 rv49.1.Rate.Num, .int .i64 rv49.1.Rate.Den, .int .i64 rv49.1.Error, .int .i64 rv49.1.Run, .int .i64 rv49.1.Seq, .slice p50 rv49.1.Samples.length k51] 32, .box b87 [.string rv77.1.Source.Network, .string rv77.1.Source.Station, .string rv77.1.Source.Location, .string rv77.1.Source.Channel, .int .i64 rv77.1.Start, .int .i64 rv77.1.First, .int .i64 rv77.1.Rate.Num, .int .i64 rv77.1.Rate.Den, .int .i64 rv77.1.Error, .int .i64 rv77.1.Run, .int .i64 rv77.1.Seq, .slice p78 rv77.1.Samples.length k79] 32, .box b99 [.string rv89.1.Source.Network, .string rv89.1.Source.Station, .string rv89.1.Source.Location, .string rv89.1.Source.Channel, .int .i64 rv89.1.Start, .int .i64 rv89.1.First, .int .i64 rv89.1.Rate.Num, .int .i64 rv89.1.Rate.Den, .int .i64 rv89.1.Error, .int .i64 rv89.1.Run, .int .i64 rv89.1.Seq, .slice p90 rv89.1.Samples.length k91] 32, .row p78 rv77.1.Samples.length k79 c80 3 1, .row p90 rv89.1.Samples.length k91 c92 3 1] []) (by kernel_rfl) rfl ?_
                          have hw := hw.drew
                          have hC : Cls [.box b63 [.string rv49.1.Source.Network, .string rv49.1.Source.Station, .string rv49.1.Source.Location, .string rv49.1.Source.Channel, .int .i64 rv49.1.Start, .int .i64 rv49.1.First, .int .i64 rv49.1.Rate.Num, .int .i64 rv49.1.Rate.Den, .int .i64 rv49.1.Error, .int .i64 rv49.1.Run, .int .i64 rv49.1.Seq, .slice p50 rv49.1.Samples.length k51] 32, .box b87 [.string rv77.1.Source.Network, .string rv77.1.Source.Station, .string rv77.1.Source.Location, .string rv77.1.Source.Channel, .int .i64 rv77.1.Start, .int .i64 rv77.1.First, .int .i64 rv77.1.Rate.Num, .int .i64 rv77.1.Rate.Den, .int .i64 rv77.1.Error, .int .i64 rv77.1.Run, .int .i64 rv77.1.Seq, .slice p78 rv77.1.Samples.length k79] 32, .box b99 [.string rv89.1.Source.Network, .string rv89.1.Source.Station, .string rv89.1.Source.Location, .string rv89.1.Source.Channel, .int .i64 rv89.1.Start, .int .i64 rv89.1.First, .int .i64 rv89.1.Rate.Num, .int .i64 rv89.1.Rate.Den, .int .i64 rv89.1.Error, .int .i64 rv89.1.Run, .int .i64 rv89.1.Seq, .slice p90 rv89.1.Samples.length k91] 32, .row p78 rv77.1.Samples.length k79 c80 3 1, .row p90 rv89.1.Samples.length k91 c92 3 1] [] _ := hw.cs [0, 1, 2, 3, 4] [] rfl rfl
                          refine h_get hs (i := 0) rfl (by kernel_rfl) rfl rfl hC rfl (fun w hC => y_move rfl) fun a hs => ?_
                          refine h_get hs (i := 1) rfl (by kernel_rfl) rfl rfl hC rfl (fun w hC => y_not rfl) fun a hs => ?_
                          refine h_get hs (i := 2) rfl (by kernel_rfl) rfl rfl hC rfl (fun w hC => y_move rfl) fun a hs => ?_
                          have hs := hs.fix 145 (.bool false) rfl (vb h822)
                          refine h_take hs (i := 3) rfl (by kernel_rfl) (by kernel_rfl) (by kernel_rfl) ⟨_, rfl, rfl⟩ rfl rfl hC (fun w hC => y_move rfl) fun a hs => ?_
                          refine h_take hs (i := 4) rfl (by kernel_rfl) (by kernel_rfl) (by kernel_rfl) ⟨_, rfl, rfl⟩ rfl rfl hC (fun w hC => y_fieldAddr (o' := 11) Try.runUnderlying32 rfl Try.sizeOf22 rfl rfl rfl) fun a hs => ?_
                          refine h_take hs (i := 5) rfl (by kernel_rfl) (by kernel_rfl) (by kernel_rfl) ⟨_, rfl, rfl⟩ rfl rfl hC (fun w hC => y_loadB1 (hC.ownAt 2 rfl) rfl Try.isAgg22 rfl) fun a hs => ?_
                          refine h_take hs (i := 6) rfl (by kernel_rfl) (by kernel_rfl) (by kernel_rfl) ⟨_, rfl, rfl⟩ rfl rfl hC (fun w hC => y_len Try.runUnderlying22 rfl) fun a hs => ?_
                          refine h_take hs (i := 7) rfl (by kernel_rfl) (by kernel_rfl) (by kernel_rfl) ⟨_, rfl, rfl⟩ rfl rfl hC (fun w hC => y_geq rfl rfl) fun a hs => ?_
                          refine h_get hs (i := 8) rfl (by kernel_rfl) rfl rfl hC rfl (fun w hC => y_pickFE (v := .bool ((!rv89.2.1) || (decide ((rv89.1.Samples.length : Int) ≤ sv363.2.1)))) rfl rfl (or_f h822)) fun a hs => ?_
                          refine h_get hs (i := 9) rfl (by kernel_rfl) rfl rfl hC rfl (fun w hC => y_move rfl) fun a hs => ?_
                          have hs := hs.fix 152 (.bool true) rfl (vb h854)
                          refine h_skip hs (i := 10) rfl (by kernel_rfl) (by kernel_rfl) (by kernel_rfl) rfl rfl rfl (by first | exact .inl rfl | exact .inr rfl) rfl rfl hC fun a hs => ?_
                          refine h_skip hs (i := 11) rfl (by kernel_rfl) (by kernel_rfl) (by kernel_rfl) rfl rfl rfl (by first | exact .inl rfl | exact .inr rfl) rfl rfl hC fun a hs => ?_
                          refine h_skip hs (i := 12) rfl (by kernel_rfl) (by kernel_rfl) (by kernel_rfl) rfl rfl rfl (by first | exact .inl rfl | exact .inr rfl) rfl rfl hC fun a hs => ?_
                          refine h_skip hs (i := 13) rfl (by kernel_rfl) (by kernel_rfl) (by kernel_rfl) rfl rfl rfl (by first | exact .inl rfl | exact .inr rfl) rfl rfl hC fun a hs => ?_
                          refine h_skip hs (i := 14) rfl (by kernel_rfl) (by kernel_rfl) (by kernel_rfl) rfl rfl rfl (by first | exact .inl rfl | exact .inr rfl) rfl rfl hC fun a hs => ?_
                          refine h_skip hs (i := 15) rfl (by kernel_rfl) (by kernel_rfl) (by kernel_rfl) rfl rfl rfl (by first | exact .inl rfl | exact .inr rfl) rfl rfl hC fun a hs => ?_
                          refine h_skip hs (i := 16) rfl (by kernel_rfl) (by kernel_rfl) (by kernel_rfl) rfl rfl rfl (by first | exact .inl rfl | exact .inr rfl) rfl rfl hC fun a hs => ?_
                          refine h_skip hs (i := 17) rfl (by kernel_rfl) (by kernel_rfl) (by kernel_rfl) rfl rfl rfl (by first | exact .inl rfl | exact .inr rfl) rfl rfl hC fun a hs => ?_
                          refine h_skip hs (i := 18) rfl (by kernel_rfl) (by kernel_rfl) (by kernel_rfl) rfl rfl rfl (by first | exact .inl rfl | exact .inr rfl) rfl rfl hC fun a hs => ?_
                          refine h_skip hs (i := 19) rfl (by kernel_rfl) (by kernel_rfl) (by kernel_rfl) rfl rfl rfl (by first | exact .inl rfl | exact .inr rfl) rfl rfl hC fun a hs => ?_
                          refine h_skip hs (i := 20) rfl (by kernel_rfl) (by kernel_rfl) (by kernel_rfl) rfl rfl rfl (by first | exact .inl rfl | exact .inr rfl) rfl rfl hC fun a hs => ?_
                          refine h_get hs (i := 21) rfl (by kernel_rfl) rfl rfl hC rfl (fun w hC => y_pickTE (v := .bool c820) rfl rfl (vbs h855)) fun a hs => ?_
                          refine h_done (by kernel_rfl) ?_
                          exact ⟨Sv756, (hs.wk rfl), (hw.ft [0, 1, 2, 3, 4] [0, 1, 2] (by decide) rfl rfl)⟩
                        · have h856 := ite_f hc820 h854
                          obtain ⟨x859, h857, h856⟩ := bind_t h856
                          obtain ⟨b866, q863, c864, h867, h860, h861, h865, h858⟩ := hw.elemRV (α := Int) 4 rfl 2 rfl h857
                          have hsv868 := hs
                          have hwv869 := hw
                          subst h867
                          have hs := hsv868
                          have hw := hwv869
                          obtain ⟨_, rfl, rfl⟩ := h858
                          obtain ⟨x872, h870, h856⟩ := bind_t h856
                          obtain ⟨b878, o879, q876, c877, h880, h873, h874, h875, h871⟩ := hw.elemV 0 rfl h870
                          have hsv881 := hs
                          have hwv882 := hw
                          subst h880
                          have hs := hsv881
                          have hw := hwv882
                          obtain ⟨_, rfl, rfl⟩ := h871
                          have hw := hw.addE h875
                          refine h_begin (C := Cls [.box b63 [.string rv49.1.Source.Network, .string rv49.1.Source.Station, .string rv49.1.Source.Location, .string rv49.1.Source.Channel, .int .i64 rv49.1.Start, .int .i64 rv49.1.First, .int .i64 rv49.1.Rate.Num, .int .i64 rv49.1.Rate.Den, .int .i64 rv49.1.Error, .int .i64 rv49.1.Run, .int .i64 rv49.1.Seq, .slice (some ⟨b878, o879, none⟩) rv49.1.Samples.length k51] 32, .box b87 [.string rv77.1.Source.Network, .string rv77.1.Source.Station, .string rv77.1.Source.Location, .string rv77.1.Source.Channel, .int .i64 rv77.1.Start, .int .i64 rv77.1.First, .int .i64 rv77.1.Rate.Num, .int .i64 rv77.1.Rate.Den, .int .i64 rv77.1.Error, .int .i64 rv77.1.Run, .int .i64 rv77.1.Seq, .slice p78 rv77.1.Samples.length k79] 32, .box b99 [.string rv89.1.Source.Network, .string rv89.1.Source.Station, .string rv89.1.Source.Location, .string rv89.1.Source.Channel, .int .i64 rv89.1.Start, .int .i64 rv89.1.First, .int .i64 rv89.1.Rate.Num, .int .i64 rv89.1.Rate.Den, .int .i64 rv89.1.Error, .int .i64 rv89.1.Run, .int .i64 rv89.1.Seq, .slice (some ⟨b866, 0, none⟩) rv89.1.Samples.length k91] 32, .row p78 rv77.1.Samples.length k79 c80 3 1, .row (some ⟨b866, 0, none⟩) rv89.1.Samples.length k91 c92 3 1] [CeA b878 q876 [.int .i64 x872]]) (by kernel_rfl) rfl ?_
                          have hw := hw.drew
                          have hC : Cls [.box b63 [.string rv49.1.Source.Network, .string rv49.1.Source.Station, .string rv49.1.Source.Location, .string rv49.1.Source.Channel, .int .i64 rv49.1.Start, .int .i64 rv49.1.First, .int .i64 rv49.1.Rate.Num, .int .i64 rv49.1.Rate.Den, .int .i64 rv49.1.Error, .int .i64 rv49.1.Run, .int .i64 rv49.1.Seq, .slice (some ⟨b878, o879, none⟩) rv49.1.Samples.length k51] 32, .box b87 [.string rv77.1.Source.Network, .string rv77.1.Source.Station, .string rv77.1.Source.Location, .string rv77.1.Source.Channel, .int .i64 rv77.1.Start, .int .i64 rv77.1.First, .int .i64 rv77.1.Rate.Num, .int .i64 rv77.1.Rate.Den, .int .i64 rv77.1.Error, .int .i64 rv77.1.Run, .int .i64 rv77.1.Seq, .slice p78 rv77.1.Samples.length k79] 32, .box b99 [.string rv89.1.Source.Network, .string rv89.1.Source.Station, .string rv89.1.Source.Location, .string rv89.1.Source.Channel, .int .i64 rv89.1.Start, .int .i64 rv89.1.First, .int .i64 rv89.1.Rate.Num, .int .i64 rv89.1.Rate.Den, .int .i64 rv89.1.Error, .int .i64 rv89.1.Run, .int .i64 rv89.1.Seq, .slice (some ⟨b866, 0, none⟩) rv89.1.Samples.length k91] 32, .row p78 rv77.1.Samples.length k79 c80 3 1, .row (some ⟨b866, 0, none⟩) rv89.1.Samples.length k91 c92 3 1] [CeA b878 q876 [.int .i64 x872]] _ := hw.cs [0, 1, 2, 3, 4] [0] rfl rfl
                          refine h_get hs (i := 0) rfl (by kernel_rfl) rfl rfl hC rfl (fun w hC => y_move rfl) fun a hs => ?_
                          refine h_get hs (i := 1) rfl (by kernel_rfl) rfl rfl hC rfl (fun w hC => y_not rfl) fun a hs => ?_
                          refine h_get hs (i := 2) rfl (by kernel_rfl) rfl rfl hC rfl (fun w hC => y_move rfl) fun a hs => ?_
                          have hs := hs.fix 145 (.bool false) rfl (vb h822)
                          refine h_take hs (i := 3) rfl (by kernel_rfl) (by kernel_rfl) (by kernel_rfl) ⟨_, rfl, rfl⟩ rfl rfl hC (fun w hC => y_move rfl) fun a hs => ?_
                          refine h_take hs (i := 4) rfl (by kernel_rfl) (by kernel_rfl) (by kernel_rfl) ⟨_, rfl, rfl⟩ rfl rfl hC (fun w hC => y_fieldAddr (o' := 11) Try.runUnderlying32 rfl Try.sizeOf22 rfl rfl rfl) fun a hs => ?_
                          refine h_take hs (i := 5) rfl (by kernel_rfl) (by kernel_rfl) (by kernel_rfl) ⟨_, rfl, rfl⟩ rfl rfl hC (fun w hC => y_loadB1 (hC.ownAt 2 rfl) rfl Try.isAgg22 rfl) fun a hs => ?_
                          refine h_take hs (i := 6) rfl (by kernel_rfl) (by kernel_rfl) (by kernel_rfl) ⟨_, rfl, rfl⟩ rfl rfl hC (fun w hC => y_len Try.runUnderlying22 rfl) fun a hs => ?_
                          refine h_take hs (i := 7) rfl (by kernel_rfl) (by kernel_rfl) (by kernel_rfl) ⟨_, rfl, rfl⟩ rfl rfl hC (fun w hC => y_geq rfl rfl) fun a hs => ?_
                          refine h_get hs (i := 8) rfl (by kernel_rfl) rfl rfl hC rfl (fun w hC => y_pickFE (v := .bool ((!rv89.2.1) || (decide ((rv89.1.Samples.length : Int) ≤ sv363.2.1)))) rfl rfl (or_f h822)) fun a hs => ?_
                          refine h_get hs (i := 9) rfl (by kernel_rfl) rfl rfl hC rfl (fun w hC => y_move rfl) fun a hs => ?_
                          have hs := hs.fix 152 (.bool false) rfl (vb h854)
                          refine h_take hs (i := 10) rfl (by kernel_rfl) (by kernel_rfl) (by kernel_rfl) ⟨_, rfl, rfl⟩ rfl rfl hC (fun w hC => y_fieldAddr (o' := 11) Try.runUnderlying32 rfl Try.sizeOf22 rfl rfl rfl) fun a hs => ?_
                          refine h_take hs (i := 11) rfl (by kernel_rfl) (by kernel_rfl) (by kernel_rfl) ⟨_, rfl, rfl⟩ rfl rfl hC (fun w hC => y_loadB1 (hC.ownAt 2 rfl) rfl Try.isAgg22 rfl) fun a hs => ?_
                          refine h_take hs (i := 12) rfl (by kernel_rfl) (by kernel_rfl) (by kernel_rfl) ⟨_, rfl, rfl⟩ rfl rfl hC (fun w hC => y_move rfl) fun a hs => ?_
                          refine h_take hs (i := 13) rfl (by kernel_rfl) (by kernel_rfl) (by kernel_rfl) ⟨_, rfl, rfl⟩ rfl rfl hC (fun w hC => y_indexAt Try.runUnderlying22 Try.sizeOf3 rfl rfl h860.1 h860.2 h861) fun a hs => ?_
                          refine h_take hs (i := 14) rfl (by kernel_rfl) (by kernel_rfl) (by kernel_rfl) ⟨_, rfl, rfl⟩ rfl rfl hC (fun w hC => y_loadQ1 (j := 0) (hC.ownAt 4 rfl) rfl Try.isAgg3 h865 rfl) fun a hs => ?_
                          refine h_take hs (i := 15) rfl (by kernel_rfl) (by kernel_rfl) (by kernel_rfl) ⟨_, rfl, rfl⟩ rfl rfl hC (fun w hC => y_fieldAddr (o' := 11) Try.runUnderlying32 rfl Try.sizeOf22 rfl rfl rfl) fun a hs => ?_
                          refine h_take hs (i := 16) rfl (by kernel_rfl) (by kernel_rfl) (by kernel_rfl) ⟨_, rfl, rfl⟩ rfl rfl hC (fun w hC => y_loadB1 (hC.ownAt 0 rfl) rfl Try.isAgg22 rfl) fun a hs => ?_
                          refine h_take hs (i := 17) rfl (by kernel_rfl) (by kernel_rfl) (by kernel_rfl) ⟨_, rfl, rfl⟩ rfl rfl hC (fun w hC => y_move rfl) fun a hs => ?_
                          refine h_take hs (i := 18) rfl (by kernel_rfl) (by kernel_rfl) (by kernel_rfl) ⟨_, rfl, rfl⟩ rfl rfl hC (fun w hC => y_indexAt Try.runUnderlying22 Try.sizeOf3 rfl rfl h873.1 h873.2 h874) fun a hs => ?_
                          refine h_take hs (i := 19) rfl (by kernel_rfl) (by kernel_rfl) (by kernel_rfl) ⟨_, rfl, rfl⟩ rfl rfl hC (fun w hC => y_loadE1 (j := 0) (hC.ceAt 0 rfl) rfl Try.isAgg3 rfl) fun a hs => ?_
                          refine h_take hs (i := 20) rfl (by kernel_rfl) (by kernel_rfl) (by kernel_rfl) ⟨_, rfl, rfl⟩ rfl rfl hC (fun w hC => y_neq rfl rfl) fun a hs => ?_
                          refine h_get hs (i := 21) rfl (by kernel_rfl) rfl rfl hC rfl (fun w hC => y_pickFE (v := .bool c820) rfl rfl (vbs h856)) fun a hs => ?_
                          refine h_done (by kernel_rfl) ?_
                          exact ⟨Sv756, (hs.wk rfl), (hw.ft [0, 1, 2, 3, 4] [1, 2, 3] (by decide) rfl rfl)⟩
                    · rintro a w ⟨Sv821, hs, hw⟩
                      refine then_normal ?_
                      refine wp_cond_split (hs.ev rfl) (fun h884 => ?_) (fun h884 => ?_)
                      · have hsh := ite_t hsh h884
                        refine wp_seq ?_
                        refine wp_region_lit ?_
                        refine st_val hs (y_assign rfl) trivial rfl rfl fun a hs => ?_
                        refine wpList_nil ?_
                        refine then_normal ?_
                        have hsh := Option.some.inj hsh
                        subst hsh
                        have h885 := hd621 _ rfl
                        subst h885
                        refine wp_ret ?_
                        refine then_ret ?_
                        refine then_ret ?_
                        refine blk_ret ?_
                        refine then_ret ?_
                        refine then_ret ?_
                        refine blk_ret ?_
                        refine then_ret ?_
                        exact ret1 hs rfl (rv_tmp rfl) (hw.ret rfl)
                      · have hsh := ite_f hsh h884
                        refine wp_skip ?_
                        refine then_normal ?_
                        refine wp_region_lit ?_
                        refine st_val hs (y_move rfl) trivial rfl rfl fun a hs => ?_
                        refine st_val hs (y_add rfl rfl) trivial rfl rfl fun a hs => ?_
                        obtain ⟨inv887, h886, hsh⟩ := bind_t hsh
                        refine st_val hs (y_assignI rfl h886) trivial rfl rfl fun a hs => ?_
                        refine wpList_nil ?_
                        refine then_normal ?_
                        exact ⟨inv887, Sv821, hsh, (hs.wk rfl), (hw.ft [0, 1, 2, 3, 4] [0, 1, 2] (by decide) rfl rfl)⟩
                  · have hsh := ite_f hsh h793
                    refine wp_skip ?_
                    refine then_normal ?_
                    exact ⟨sv363.2.1, Sv756, hsh, (hs.wk rfl), (hw.ft [0, 1, 2, 3, 4] [0, 1, 2] (by decide) rfl rfl)⟩
                · rintro a w ⟨inv792, Sv791, hsh, hs, hw⟩
                  delta law14_RecordWindows_j2 at hsh
                  refine blk_normal ?_
                  refine then_normal ?_
                  refine wp_region_lit ?_
                  refine st_val hs (y_add rfl rfl) trivial rfl rfl fun a hs => ?_
                  refine st_val hs (y_move rfl) trivial rfl rfl fun a hs => ?_
                  refine wpList_nil ?_
                  refine then_normal ?_
                  exact ⟨_, (Option.some.inj hsh).symm, Sv791, (hs.wk rfl), (hw.ft [0, 1, 2, 3, 4] [0, 1, 2] (by decide) rfl rfl)⟩
        · have hsh := ite_f hsh h626
          obtain ⟨rv1052, hsh, h1053⟩ := map_t hsh
          have h1053 := (hd621 _ h1053.symm).symm
          subst h1053
          refine wp_exit ?_
          refine then_exit ?_
          refine then_exit ?_
          refine blk_exit ?_
          refine then_normal ?_
          refine wp_seq ?_
          refine wp_region_lit ?_
          refine st_val hs (y_loadBA (hw.ownAt 0 rfl) rfl Try.isAgg32 Try.sizeOf32 rfl rfl) trivial rfl rfl fun a hs => ?_
          refine st_val hs (y_move rfl) trivial rfl rfl fun a hs => ?_
          obtain ⟨rv986, h985, hsh⟩ := bind_t hsh
          refine st_callR hs (record_Cut_ok h985 hw.dom (hw.envAt 0 rfl)) (do_call Try.call19 rfl) trivial rfl rfl ?_
          intro v995 Sv992 w a h993 h994 hs
          obtain ⟨p987, k988, c989, rfl, h990, h991⟩ := h994
          have hw := hw.callF h993 h990
          have hw := hw.addE (e := RowA c989 rv986.1.Samples) h991
          refine st_val hs (y_move rfl) trivial rfl rfl fun a hs => ?_
          refine st_val hs (y_extract rfl rfl) trivial rfl rfl fun a hs => ?_
          refine st_val hs (y_extract rfl rfl) trivial rfl rfl fun a hs => ?_
          refine st_val hs (y_extract rfl rfl) trivial rfl rfl fun a hs => ?_
          refine w_alloc (cs := [.string ByteArray.empty, .string ByteArray.empty, .string ByteArray.empty, .string ByteArray.empty, .int .i64 0, .int .i64 0, .int .i64 0, .int .i64 0, .int .i64 0, .int .i64 0, .int .i64 0, .slice none ([] : List Int).length 0]) hs hw Try.zeroValue32 rfl rfl trivial ?_
          intro b996 a w hs hw
          refine w_store (m := 12) (cs' := [.string rv986.1.Source.Network, .string rv986.1.Source.Station, .string rv986.1.Source.Location, .string rv986.1.Source.Channel, .int .i64 rv986.1.Start, .int .i64 rv986.1.First, .int .i64 rv986.1.Rate.Num, .int .i64 rv986.1.Rate.Den, .int .i64 rv986.1.Error, .int .i64 rv986.1.Run, .int .i64 rv986.1.Seq, .slice p987 rv986.1.Samples.length k988]) hs hw 0 rfl rfl rfl Try.sizeOf32 rfl rfl rfl rfl trivial ?_
          intro a w hs hw
          refine st_val hs (y_assign rfl) trivial rfl rfl fun a hs => ?_
          refine st_val hs (y_assign rfl) trivial rfl rfl fun a hs => ?_
          refine wpList_nil ?_
          refine then_normal ?_
          refine wp_seq ?_
          refine wp_region_lit ?_
          refine st_val hs (y_loadBA (hw.ownAt 2 rfl) rfl Try.isAgg32 Try.sizeOf32 rfl rfl) trivial rfl rfl fun a hs => ?_
          refine st_val hs (y_move rfl) trivial rfl rfl fun a hs => ?_
          obtain ⟨rv998, h997, hsh⟩ := bind_t hsh
          refine st_callR hs (record_Cut_ok h997 hw.dom (hw.envAt 1 rfl)) (do_call Try.call19 rfl) trivial rfl rfl ?_
          intro v1007 Sv1004 w a h1005 h1006 hs
          obtain ⟨p999, k1000, c1001, rfl, h1002, h1003⟩ := h1006
          have hw := hw.callF h1005 h1002
          have hw := hw.addE (e := RowA c1001 rv998.1.Samples) h1003
          refine st_val hs (y_move rfl) trivial rfl rfl fun a hs => ?_
          refine st_val hs (y_extract rfl rfl) trivial rfl rfl fun a hs => ?_
          refine st_val hs (y_extract rfl rfl) trivial rfl rfl fun a hs => ?_
          refine st_val hs (y_extract rfl rfl) trivial rfl rfl fun a hs => ?_
          refine w_alloc (cs := [.string ByteArray.empty, .string ByteArray.empty, .string ByteArray.empty, .string ByteArray.empty, .int .i64 0, .int .i64 0, .int .i64 0, .int .i64 0, .int .i64 0, .int .i64 0, .int .i64 0, .slice none ([] : List Int).length 0]) hs hw Try.zeroValue32 rfl rfl trivial ?_
          intro b1008 a w hs hw
          refine w_store (m := 12) (cs' := [.string rv998.1.Source.Network, .string rv998.1.Source.Station, .string rv998.1.Source.Location, .string rv998.1.Source.Channel, .int .i64 rv998.1.Start, .int .i64 rv998.1.First, .int .i64 rv998.1.Rate.Num, .int .i64 rv998.1.Rate.Den, .int .i64 rv998.1.Error, .int .i64 rv998.1.Run, .int .i64 rv998.1.Seq, .slice p999 rv998.1.Samples.length k1000]) hs hw 0 rfl rfl rfl Try.sizeOf32 rfl rfl rfl rfl trivial ?_
          intro a w hs hw
          refine st_val hs (y_assign rfl) trivial rfl rfl fun a hs => ?_
          refine st_val hs (y_assign rfl) trivial rfl rfl fun a hs => ?_
          refine wpList_nil ?_
          refine then_normal ?_
          refine wp_seq ?_
          refine wp_region_lit ?_
          refine st_val hs (y_assign rfl) trivial rfl rfl fun a hs => ?_
          refine wpList_nil ?_
          refine then_normal ?_
          refine wp_seq ?_
          refine wp_seq ?_
          refine wp_region_lit ?_
          refine st_val hs (y_move rfl) trivial rfl rfl fun a hs => ?_
          refine wpList_nil ?_
          refine then_normal ?_
          refine wp_join (fun a w => ∃ (k1013 : Int) (Sv1012 : Nat → Prop), law14_RecordWindows_j3 rv49 rv77 rv89 sv363 rv986 rv998 k1013 = some r ∧ Sl 238 [(8, .pointer (some ⟨b63, 0, none⟩)), (13, .pointer (some ⟨b87, 0, none⟩)), (14, .bool rv77.2.1), (16, .pointer (some ⟨b99, 0, none⟩)), (17, .bool rv89.2.1), (19, .int .i64 sv363.1), (20, .int .i64 sv363.2.1), (28, .int .i64 rv986.2.2), (29, .pointer (some ⟨b1008, 0, none⟩)), (30, .bool rv998.2.1), (31, .int .i64 rv998.2.2), (32, .int .i64 k1013)] a ∧ Wd ⟨w0, S0, []⟩ Sv1012 [.box b63 [.string rv49.1.Source.Network, .string rv49.1.Source.Station, .string rv49.1.Source.Location, .string rv49.1.Source.Channel, .int .i64 rv49.1.Start, .int .i64 rv49.1.First, .int .i64 rv49.1.Rate.Num, .int .i64 rv49.1.Rate.Den, .int .i64 rv49.1.Error, .int .i64 rv49.1.Run, .int .i64 rv49.1.Seq, .slice p50 rv49.1.Samples.length k51] 32, .box b87 [.string rv77.1.Source.Network, .string rv77.1.Source.Station, .string rv77.1.Source.Location, .string rv77.1.Source.Channel, .int .i64 rv77.1.Start, .int .i64 rv77.1.First, .int .i64 rv77.1.Rate.Num, .int .i64 rv77.1.Rate.Den, .int .i64 rv77.1.Error, .int .i64 rv77.1.Run, .int .i64 rv77.1.Seq, .slice p78 rv77.1.Samples.length k79] 32, .box b99 [.string rv89.1.Source.Network, .string rv89.1.Source.Station, .string rv89.1.Source.Location, .string rv89.1.Source.Channel, .int .i64 rv89.1.Start, .int .i64 rv89.1.First, .int .i64 rv89.1.Rate.Num, .int .i64 rv89.1.Rate.Den, .int .i64 rv89.1.Error, .int .i64 rv89.1.Run, .int .i64 rv89.1.Seq, .slice p90 rv89.1.Samples.length k91] 32, .box b1008 [.string rv998.1.Source.Network, .string rv998.1.Source.Station, .string rv998.1.Source.Location, .string rv998.1.Source.Channel, .int .i64 rv998.1.Start, .int .i64 rv998.1.First, .int .i64 rv998.1.Rate.Num, .int .i64 rv998.1.Rate.Den, .int .i64 rv998.1.Error, .int .i64 rv998.1.Run, .int .i64 rv998.1.Seq, .slice p999 rv998.1.Samples.length k1000] 32, .row p78 rv77.1.Samples.length k79 c80 3 1, .row p90 rv89.1.Samples.length k91 c92 3 1, .row p999 rv998.1.Samples.length k1000 c1001 3 1] [SlA p50 rv49.1.Samples.length k51 rv49.1.Samples, RowA c80 rv77.1.Samples, RowA c92 rv89.1.Samples, RowA c1001 rv998.1.Samples] w) ?_ ?_
          · refine wp_cond_split (hs.ev rfl) (fun h1049 => ?_) (fun h1049 => ?_)
            · have hsh := ite_t hsh h1049
              refine wp_region_lit ?_
              refine st_val hs (y_move rfl) trivial rfl rfl fun a hs => ?_
              refine st_val hs (y_fieldAddr (o' := 11) Try.runUnderlying32 rfl Try.sizeOf22 rfl rfl rfl) trivial rfl rfl fun a hs => ?_
              refine st_val hs (y_loadB1 (hw.ownAt 2 rfl) rfl Try.isAgg22 rfl) trivial rfl rfl fun a hs => ?_
              refine st_val hs (y_len Try.runUnderlying22 rfl) trivial rfl rfl fun a hs => ?_
              refine st_val hs (y_add rfl rfl) trivial rfl rfl fun a hs => ?_
              obtain ⟨k1051, h1050, hsh⟩ := bind_t hsh
              refine st_val hs (y_assignI rfl h1050) trivial rfl rfl fun a hs => ?_
              refine wpList_nil ?_
              refine then_normal ?_
              exact ⟨k1051, Sv1004, hsh, (hs.wk rfl), (hw.ft [4, 5, 6, 0, 7, 8, 1] [2, 3, 4, 0] (by decide) rfl rfl)⟩
            · have hsh := ite_f hsh h1049
              refine wp_skip ?_
              refine then_normal ?_
              exact ⟨0, Sv1004, hsh, (hs.wk rfl), (hw.ft [4, 5, 6, 0, 7, 8, 1] [2, 3, 4, 0] (by decide) rfl rfl)⟩
          · rintro a w ⟨k1013, Sv1012, hsh, hs, hw⟩
            delta law14_RecordWindows_j3 at hsh
            refine then_normal ?_
            refine wp_seq ?_
            refine wp_seq ?_
            refine wp_region_lit ?_
            refine st_val hs (y_move rfl) trivial rfl rfl fun a hs => ?_
            refine wpList_nil ?_
            refine then_normal ?_
            refine wp_join (fun a w => ∃ (k1018 : Int) (Sv1017 : Nat → Prop), law14_RecordWindows_j4 rv49 rv77 rv89 sv363 rv986 rv998 k1018 = some r ∧ Sl 238 [(8, .pointer (some ⟨b63, 0, none⟩)), (13, .pointer (some ⟨b87, 0, none⟩)), (14, .bool rv77.2.1), (16, .pointer (some ⟨b99, 0, none⟩)), (17, .bool rv89.2.1), (19, .int .i64 sv363.1), (20, .int .i64 sv363.2.1), (28, .int .i64 rv986.2.2), (31, .int .i64 rv998.2.2), (32, .int .i64 k1018)] a ∧ Wd ⟨w0, S0, []⟩ Sv1017 [.box b63 [.string rv49.1.Source.Network, .string rv49.1.Source.Station, .string rv49.1.Source.Location, .string rv49.1.Source.Channel, .int .i64 rv49.1.Start, .int .i64 rv49.1.First, .int .i64 rv49.1.Rate.Num, .int .i64 rv49.1.Rate.Den, .int .i64 rv49.1.Error, .int .i64 rv49.1.Run, .int .i64 rv49.1.Seq, .slice p50 rv49.1.Samples.length k51] 32, .box b87 [.string rv77.1.Source.Network, .string rv77.1.Source.Station, .string rv77.1.Source.Location, .string rv77.1.Source.Channel, .int .i64 rv77.1.Start, .int .i64 rv77.1.First, .int .i64 rv77.1.Rate.Num, .int .i64 rv77.1.Rate.Den, .int .i64 rv77.1.Error, .int .i64 rv77.1.Run, .int .i64 rv77.1.Seq, .slice p78 rv77.1.Samples.length k79] 32, .box b99 [.string rv89.1.Source.Network, .string rv89.1.Source.Station, .string rv89.1.Source.Location, .string rv89.1.Source.Channel, .int .i64 rv89.1.Start, .int .i64 rv89.1.First, .int .i64 rv89.1.Rate.Num, .int .i64 rv89.1.Rate.Den, .int .i64 rv89.1.Error, .int .i64 rv89.1.Run, .int .i64 rv89.1.Seq, .slice p90 rv89.1.Samples.length k91] 32, .row p78 rv77.1.Samples.length k79 c80 3 1, .row p90 rv89.1.Samples.length k91 c92 3 1] [SlA p50 rv49.1.Samples.length k51 rv49.1.Samples, RowA c80 rv77.1.Samples, RowA c92 rv89.1.Samples] w) ?_ ?_
            · refine wp_cond_split (hs.ev rfl) (fun h1046 => ?_) (fun h1046 => ?_)
              · have hsh := ite_t hsh h1046
                refine wp_region_lit ?_
                refine st_val hs (y_move rfl) trivial rfl rfl fun a hs => ?_
                refine st_val hs (y_fieldAddr (o' := 11) Try.runUnderlying32 rfl Try.sizeOf22 rfl rfl rfl) trivial rfl rfl fun a hs => ?_
                refine st_val hs (y_loadB1 (hw.ownAt 3 rfl) rfl Try.isAgg22 rfl) trivial rfl rfl fun a hs => ?_
                refine st_val hs (y_len Try.runUnderlying22 rfl) trivial rfl rfl fun a hs => ?_
                refine st_val hs (y_add rfl rfl) trivial rfl rfl fun a hs => ?_
                obtain ⟨k1048, h1047, hsh⟩ := bind_t hsh
                refine st_val hs (y_assignI rfl h1047) trivial rfl rfl fun a hs => ?_
                refine wpList_nil ?_
                refine then_normal ?_
                exact ⟨k1048, Sv1012, hsh, (hs.wk rfl), (hw.ft [0, 1, 2, 4, 5] [0, 1, 2] (by decide) rfl rfl)⟩
              · have hsh := ite_f hsh h1046
                refine wp_skip ?_
                refine then_normal ?_
                exact ⟨k1013, Sv1012, hsh, (hs.wk rfl), (hw.ft [0, 1, 2, 4, 5] [0, 1, 2] (by decide) rfl rfl)⟩
            · rintro a w ⟨k1018, Sv1017, hsh, hs, hw⟩
              delta law14_RecordWindows_j4 at hsh
              refine then_normal ?_
              refine wp_seq ?_
              refine wp_region_lit ?_
              refine st_val hs (y_move rfl) trivial rfl rfl fun a hs => ?_
              refine st_val hs (y_eql rfl rfl) trivial rfl rfl fun a hs => ?_
              refine st_val hs (y_move rfl) trivial rfl rfl fun a hs => ?_
              refine wpl_join 3 (fun a w1 => w = w1 ∧ Sl 238 [(8, .pointer (some ⟨b63, 0, none⟩)), (13, .pointer (some ⟨b87, 0, none⟩)), (14, .bool rv77.2.1), (16, .pointer (some ⟨b99, 0, none⟩)), (17, .bool rv89.2.1), (19, .int .i64 sv363.1), (20, .int .i64 sv363.2.1), (32, .int .i64 k1018), (199, .bool ((rv986.2.2 == 0) && (rv998.2.2 == 0)))] a) ?_ ?_
              · rcases Bool.eq_false_or_eq_true (rv986.2.2 == 0) with h1019 | h1019
                · have hs := hs.fix 196 (.bool true) rfl (vb h1019)
                  refine st_val hs (y_move rfl) ⟨_, rfl, rfl⟩ rfl rfl fun a hs => ?_
                  refine st_val hs (y_eql rfl rfl) ⟨_, rfl, rfl⟩ rfl rfl fun a hs => ?_
                  refine st_val hs (y_pickT rfl rfl) trivial rfl rfl fun a hs => ?_
                  refine wpList_nil ?_
                  refine then_normal ?_
                  exact ⟨rfl, (hs.fix 199 (.bool ((rv986.2.2 == 0) && (rv998.2.2 == 0))) rfl (and_t h1019)).weaken _ ⟨rfl, rfl, rfl, rfl, rfl, rfl, rfl, rfl, rfl, trivial⟩⟩
                · have hs := hs.fix 196 (.bool false) rfl (vb h1019)
                  refine st_skip hs rfl rfl rfl rfl rfl fun a hs => ?_
                  refine st_skip hs rfl rfl rfl rfl rfl fun a hs => ?_
                  refine st_val hs (y_pickF rfl rfl) trivial rfl rfl fun a hs => ?_
                  refine wpList_nil ?_
                  refine then_normal ?_
                  exact ⟨rfl, (hs.fix 199 (.bool ((rv986.2.2 == 0) && (rv998.2.2 == 0))) rfl (and_f h1019)).weaken _ ⟨rfl, rfl, rfl, rfl, rfl, rfl, rfl, rfl, rfl, trivial⟩⟩
              · rintro a w1 ⟨h1045, hs⟩
                subst h1045
                refine st_val hs (y_move rfl) trivial rfl rfl fun a hs => ?_
                refine wpl_join 6 (fun a w1 => w = w1 ∧ Sl 238 [(8, .pointer (some ⟨b63, 0, none⟩)), (14, .bool rv77.2.1), (16, .pointer (some ⟨b99, 0, none⟩)), (17, .bool rv89.2.1), (19, .int .i64 sv363.1), (20, .int .i64 sv363.2.1), (32, .int .i64 k1018), (206, .bool (((rv986.2.2 == 0) && (rv998.2.2 == 0)) && (sv363.1 == (rv77.1.Samples.length : Int))))] a) ?_ ?_
                · rcases Bool.eq_false_or_eq_true ((rv986.2.2 == 0) && (rv998.2.2 == 0)) with h1020 | h1020
                  · have hs := hs.fix 200 (.bool true) rfl (vb h1020)
                    refine st_val hs (y_move rfl) ⟨_, rfl, rfl⟩ rfl rfl fun a hs => ?_
                    refine st_val hs (y_fieldAddr (o' := 11) Try.runUnderlying32 rfl Try.sizeOf22 rfl rfl rfl) ⟨_, rfl, rfl⟩ rfl rfl fun a hs => ?_
                    refine st_val hs (y_loadB1 (hw.ownAt 1 rfl) rfl Try.isAgg22 rfl) ⟨_, rfl, rfl⟩ rfl rfl fun a hs => ?_
                    refine st_val hs (y_len Try.runUnderlying22 rfl) ⟨_, rfl, rfl⟩ rfl rfl fun a hs => ?_
                    refine st_val hs (y_eql rfl rfl) ⟨_, rfl, rfl⟩ rfl rfl fun a hs => ?_
                    refine st_val hs (y_pickT rfl rfl) trivial rfl rfl fun a hs => ?_
                    refine wpList_nil ?_
                    refine then_normal ?_
                    exact ⟨rfl, (hs.fix 206 (.bool (((rv986.2.2 == 0) && (rv998.2.2 == 0)) && (sv363.1 == (rv77.1.Samples.length : Int)))) rfl (and_t h1020)).weaken _ ⟨rfl, rfl, rfl, rfl, rfl, rfl, rfl, rfl, trivial⟩⟩
                  · have hs := hs.fix 200 (.bool false) rfl (vb h1020)
                    refine st_skip hs rfl rfl rfl rfl rfl fun a hs => ?_
                    refine st_skip hs rfl rfl rfl rfl rfl fun a hs => ?_
                    refine st_skip hs rfl rfl rfl rfl rfl fun a hs => ?_
                    refine st_skip hs rfl rfl rfl rfl rfl fun a hs => ?_
                    refine st_skip hs rfl rfl rfl rfl rfl fun a hs => ?_
                    refine st_val hs (y_pickF rfl rfl) trivial rfl rfl fun a hs => ?_
                    refine wpList_nil ?_
                    refine then_normal ?_
                    exact ⟨rfl, (hs.fix 206 (.bool (((rv986.2.2 == 0) && (rv998.2.2 == 0)) && (sv363.1 == (rv77.1.Samples.length : Int)))) rfl (and_f h1020)).weaken _ ⟨rfl, rfl, rfl, rfl, rfl, rfl, rfl, rfl, trivial⟩⟩
                · rintro a w1 ⟨h1044, hs⟩
                  subst h1044
                  refine st_val hs (y_move rfl) trivial rfl rfl fun a hs => ?_
                  refine wpl_join 6 (fun a w1 => w = w1 ∧ Sl 238 [(8, .pointer (some ⟨b63, 0, none⟩)), (14, .bool rv77.2.1), (17, .bool rv89.2.1), (19, .int .i64 sv363.1), (20, .int .i64 sv363.2.1), (32, .int .i64 k1018), (213, .bool ((((rv986.2.2 == 0) && (rv998.2.2 == 0)) && (sv363.1 == (rv77.1.Samples.length : Int))) && (sv363.2.1 == (rv89.1.Samples.length : Int))))] a) ?_ ?_
                  · rcases Bool.eq_false_or_eq_true (((rv986.2.2 == 0) && (rv998.2.2 == 0)) && (sv363.1 == (rv77.1.Samples.length : Int))) with h1021 | h1021
                    · have hs := hs.fix 207 (.bool true) rfl (vb h1021)
                      refine st_val hs (y_move rfl) ⟨_, rfl, rfl⟩ rfl rfl fun a hs => ?_
                      refine st_val hs (y_fieldAddr (o' := 11) Try.runUnderlying32 rfl Try.sizeOf22 rfl rfl rfl) ⟨_, rfl, rfl⟩ rfl rfl fun a hs => ?_
                      refine st_val hs (y_loadB1 (hw.ownAt 2 rfl) rfl Try.isAgg22 rfl) ⟨_, rfl, rfl⟩ rfl rfl fun a hs => ?_
                      refine st_val hs (y_len Try.runUnderlying22 rfl) ⟨_, rfl, rfl⟩ rfl rfl fun a hs => ?_
                      refine st_val hs (y_eql rfl rfl) ⟨_, rfl, rfl⟩ rfl rfl fun a hs => ?_
                      refine st_val hs (y_pickT rfl rfl) trivial rfl rfl fun a hs => ?_
                      refine wpList_nil ?_
                      refine then_normal ?_
                      exact ⟨rfl, (hs.fix 213 (.bool ((((rv986.2.2 == 0) && (rv998.2.2 == 0)) && (sv363.1 == (rv77.1.Samples.length : Int))) && (sv363.2.1 == (rv89.1.Samples.length : Int)))) rfl (and_t h1021)).weaken _ ⟨rfl, rfl, rfl, rfl, rfl, rfl, rfl, trivial⟩⟩
                    · have hs := hs.fix 207 (.bool false) rfl (vb h1021)
                      refine st_skip hs rfl rfl rfl rfl rfl fun a hs => ?_
                      refine st_skip hs rfl rfl rfl rfl rfl fun a hs => ?_
                      refine st_skip hs rfl rfl rfl rfl rfl fun a hs => ?_
                      refine st_skip hs rfl rfl rfl rfl rfl fun a hs => ?_
                      refine st_skip hs rfl rfl rfl rfl rfl fun a hs => ?_
                      refine st_val hs (y_pickF rfl rfl) trivial rfl rfl fun a hs => ?_
                      refine wpList_nil ?_
                      refine then_normal ?_
                      exact ⟨rfl, (hs.fix 213 (.bool ((((rv986.2.2 == 0) && (rv998.2.2 == 0)) && (sv363.1 == (rv77.1.Samples.length : Int))) && (sv363.2.1 == (rv89.1.Samples.length : Int)))) rfl (and_f h1021)).weaken _ ⟨rfl, rfl, rfl, rfl, rfl, rfl, rfl, trivial⟩⟩
                  · rintro a w1 ⟨h1043, hs⟩
                    subst h1043
                    refine st_val hs (y_move rfl) trivial rfl rfl fun a hs => ?_
                    refine wpl_join 5 (fun a w1 => w = w1 ∧ Sl 238 [(8, .pointer (some ⟨b63, 0, none⟩)), (17, .bool rv89.2.1), (19, .int .i64 sv363.1), (20, .int .i64 sv363.2.1), (32, .int .i64 k1018), (219, .bool (((((rv986.2.2 == 0) && (rv998.2.2 == 0)) && (sv363.1 == (rv77.1.Samples.length : Int))) && (sv363.2.1 == (rv89.1.Samples.length : Int))) && ((decide (0 < sv363.1)) == rv77.2.1)))] a) ?_ ?_
                    · rcases Bool.eq_false_or_eq_true ((((rv986.2.2 == 0) && (rv998.2.2 == 0)) && (sv363.1 == (rv77.1.Samples.length : Int))) && (sv363.2.1 == (rv89.1.Samples.length : Int))) with h1022 | h1022
                      · have hs := hs.fix 214 (.bool true) rfl (vb h1022)
                        refine st_val hs (y_move rfl) ⟨_, rfl, rfl⟩ rfl rfl fun a hs => ?_
                        refine st_val hs (y_gtr rfl rfl) ⟨_, rfl, rfl⟩ rfl rfl fun a hs => ?_
                        refine st_val hs (y_move rfl) ⟨_, rfl, rfl⟩ rfl rfl fun a hs => ?_
                        refine st_val hs (y_eqlB Try.runUnderlying4 rfl rfl) ⟨_, rfl, rfl⟩ rfl rfl fun a hs => ?_
                        refine st_val hs (y_pickT rfl rfl) trivial rfl rfl fun a hs => ?_
                        refine wpList_nil ?_
                        refine then_normal ?_
                        exact ⟨rfl, (hs.fix 219 (.bool (((((rv986.2.2 == 0) && (rv998.2.2 == 0)) && (sv363.1 == (rv77.1.Samples.length : Int))) && (sv363.2.1 == (rv89.1.Samples.length : Int))) && ((decide (0 < sv363.1)) == rv77.2.1))) rfl (and_t h1022)).weaken _ ⟨rfl, rfl, rfl, rfl, rfl, rfl, trivial⟩⟩
                      · have hs := hs.fix 214 (.bool false) rfl (vb h1022)
                        refine st_skip hs rfl rfl rfl rfl rfl fun a hs => ?_
                        refine st_skip hs rfl rfl rfl rfl rfl fun a hs => ?_
                        refine st_skip hs rfl rfl rfl rfl rfl fun a hs => ?_
                        refine st_skip hs rfl rfl rfl rfl rfl fun a hs => ?_
                        refine st_val hs (y_pickF rfl rfl) trivial rfl rfl fun a hs => ?_
                        refine wpList_nil ?_
                        refine then_normal ?_
                        exact ⟨rfl, (hs.fix 219 (.bool (((((rv986.2.2 == 0) && (rv998.2.2 == 0)) && (sv363.1 == (rv77.1.Samples.length : Int))) && (sv363.2.1 == (rv89.1.Samples.length : Int))) && ((decide (0 < sv363.1)) == rv77.2.1))) rfl (and_f h1022)).weaken _ ⟨rfl, rfl, rfl, rfl, rfl, rfl, trivial⟩⟩
                    · rintro a w1 ⟨h1042, hs⟩
                      subst h1042
                      refine st_val hs (y_move rfl) trivial rfl rfl fun a hs => ?_
                      refine wpl_join 5 (fun a w1 => w = w1 ∧ Sl 238 [(8, .pointer (some ⟨b63, 0, none⟩)), (19, .int .i64 sv363.1), (32, .int .i64 k1018), (225, .bool ((((((rv986.2.2 == 0) && (rv998.2.2 == 0)) && (sv363.1 == (rv77.1.Samples.length : Int))) && (sv363.2.1 == (rv89.1.Samples.length : Int))) && ((decide (0 < sv363.1)) == rv77.2.1)) && ((decide (0 < sv363.2.1)) == rv89.2.1)))] a) ?_ ?_
                      · rcases Bool.eq_false_or_eq_true (((((rv986.2.2 == 0) && (rv998.2.2 == 0)) && (sv363.1 == (rv77.1.Samples.length : Int))) && (sv363.2.1 == (rv89.1.Samples.length : Int))) && ((decide (0 < sv363.1)) == rv77.2.1)) with h1023 | h1023
                        · have hs := hs.fix 220 (.bool true) rfl (vb h1023)
                          refine st_val hs (y_move rfl) ⟨_, rfl, rfl⟩ rfl rfl fun a hs => ?_
                          refine st_val hs (y_gtr rfl rfl) ⟨_, rfl, rfl⟩ rfl rfl fun a hs => ?_
                          refine st_val hs (y_move rfl) ⟨_, rfl, rfl⟩ rfl rfl fun a hs => ?_
                          refine st_val hs (y_eqlB Try.runUnderlying4 rfl rfl) ⟨_, rfl, rfl⟩ rfl rfl fun a hs => ?_
                          refine st_val hs (y_pickT rfl rfl) trivial rfl rfl fun a hs => ?_
                          refine wpList_nil ?_
                          refine then_normal ?_
                          exact ⟨rfl, (hs.fix 225 (.bool ((((((rv986.2.2 == 0) && (rv998.2.2 == 0)) && (sv363.1 == (rv77.1.Samples.length : Int))) && (sv363.2.1 == (rv89.1.Samples.length : Int))) && ((decide (0 < sv363.1)) == rv77.2.1)) && ((decide (0 < sv363.2.1)) == rv89.2.1))) rfl (and_t h1023)).weaken _ ⟨rfl, rfl, rfl, rfl, trivial⟩⟩
                        · have hs := hs.fix 220 (.bool false) rfl (vb h1023)
                          refine st_skip hs rfl rfl rfl rfl rfl fun a hs => ?_
                          refine st_skip hs rfl rfl rfl rfl rfl fun a hs => ?_
                          refine st_skip hs rfl rfl rfl rfl rfl fun a hs => ?_
                          refine st_skip hs rfl rfl rfl rfl rfl fun a hs => ?_
                          refine st_val hs (y_pickF rfl rfl) trivial rfl rfl fun a hs => ?_
                          refine wpList_nil ?_
                          refine then_normal ?_
                          exact ⟨rfl, (hs.fix 225 (.bool ((((((rv986.2.2 == 0) && (rv998.2.2 == 0)) && (sv363.1 == (rv77.1.Samples.length : Int))) && (sv363.2.1 == (rv89.1.Samples.length : Int))) && ((decide (0 < sv363.1)) == rv77.2.1)) && ((decide (0 < sv363.2.1)) == rv89.2.1))) rfl (and_f h1023)).weaken _ ⟨rfl, rfl, rfl, rfl, trivial⟩⟩
                      · rintro a w1 ⟨h1041, hs⟩
                        subst h1041
                        refine st_val hs (y_move rfl) trivial rfl rfl fun a hs => ?_
                        refine wpl_join 8 (fun a w1 => w = w1 ∧ Sl 238 [(234, .bool (((((((rv986.2.2 == 0) && (rv998.2.2 == 0)) && (sv363.1 == (rv77.1.Samples.length : Int))) && (sv363.2.1 == (rv89.1.Samples.length : Int))) && ((decide (0 < sv363.1)) == rv77.2.1)) && ((decide (0 < sv363.2.1)) == rv89.2.1)) && ((w64 (k1018 + sv363.1)) == (rv49.1.Samples.length : Int))))] a) ?_ ?_
                        · rcases Bool.eq_false_or_eq_true ((((((rv986.2.2 == 0) && (rv998.2.2 == 0)) && (sv363.1 == (rv77.1.Samples.length : Int))) && (sv363.2.1 == (rv89.1.Samples.length : Int))) && ((decide (0 < sv363.1)) == rv77.2.1)) && ((decide (0 < sv363.2.1)) == rv89.2.1)) with h1024 | h1024
                          · have hs := hs.fix 226 (.bool true) rfl (vb h1024)
                            refine st_val hs (y_move rfl) ⟨_, rfl, rfl⟩ rfl rfl fun a hs => ?_
                            refine st_val hs (y_move rfl) ⟨_, rfl, rfl⟩ rfl rfl fun a hs => ?_
                            refine st_val hs (y_add rfl rfl) ⟨_, rfl, rfl⟩ rfl rfl fun a hs => ?_
                            refine st_val hs (y_fieldAddr (o' := 11) Try.runUnderlying32 rfl Try.sizeOf22 rfl rfl rfl) ⟨_, rfl, rfl⟩ rfl rfl fun a hs => ?_
                            refine st_val hs (y_loadB1 (hw.ownAt 0 rfl) rfl Try.isAgg22 rfl) ⟨_, rfl, rfl⟩ rfl rfl fun a hs => ?_
                            refine st_val hs (y_len Try.runUnderlying22 rfl) ⟨_, rfl, rfl⟩ rfl rfl fun a hs => ?_
                            refine st_val hs (y_eql rfl rfl) ⟨_, rfl, rfl⟩ rfl rfl fun a hs => ?_
                            refine st_val hs (y_pickT rfl rfl) trivial rfl rfl fun a hs => ?_
                            refine wpList_nil ?_
                            refine then_normal ?_
                            exact ⟨rfl, (hs.fix 234 (.bool (((((((rv986.2.2 == 0) && (rv998.2.2 == 0)) && (sv363.1 == (rv77.1.Samples.length : Int))) && (sv363.2.1 == (rv89.1.Samples.length : Int))) && ((decide (0 < sv363.1)) == rv77.2.1)) && ((decide (0 < sv363.2.1)) == rv89.2.1)) && ((w64 (k1018 + sv363.1)) == (rv49.1.Samples.length : Int)))) rfl (and_t h1024)).weaken _ ⟨rfl, trivial⟩⟩
                          · have hs := hs.fix 226 (.bool false) rfl (vb h1024)
                            refine st_skip hs rfl rfl rfl rfl rfl fun a hs => ?_
                            refine st_skip hs rfl rfl rfl rfl rfl fun a hs => ?_
                            refine st_skip hs rfl rfl rfl rfl rfl fun a hs => ?_
                            refine st_skip hs rfl rfl rfl rfl rfl fun a hs => ?_
                            refine st_skip hs rfl rfl rfl rfl rfl fun a hs => ?_
                            refine st_skip hs rfl rfl rfl rfl rfl fun a hs => ?_
                            refine st_skip hs rfl rfl rfl rfl rfl fun a hs => ?_
                            refine st_val hs (y_pickF rfl rfl) trivial rfl rfl fun a hs => ?_
                            refine wpList_nil ?_
                            refine then_normal ?_
                            exact ⟨rfl, (hs.fix 234 (.bool (((((((rv986.2.2 == 0) && (rv998.2.2 == 0)) && (sv363.1 == (rv77.1.Samples.length : Int))) && (sv363.2.1 == (rv89.1.Samples.length : Int))) && ((decide (0 < sv363.1)) == rv77.2.1)) && ((decide (0 < sv363.2.1)) == rv89.2.1)) && ((w64 (k1018 + sv363.1)) == (rv49.1.Samples.length : Int)))) rfl (and_f h1024)).weaken _ ⟨rfl, trivial⟩⟩
                        · rintro a w1 ⟨h1040, hs⟩
                          subst h1040
                          refine st_val hs (y_move rfl) trivial rfl rfl fun a hs => ?_
                          obtain ⟨c1032, hc1032, hsh⟩ := bind_t hsh
                          refine wpl_join 2 (fun a w => ∃ (Sv1033 : Nat → Prop), Sl 238 [(237, .bool c1032)] a ∧ Wd ⟨w0, S0, []⟩ Sv1033 [] [] w) ?_ ?_
                          · rcases Bool.eq_false_or_eq_true (((((((rv986.2.2 == 0) && (rv998.2.2 == 0)) && (sv363.1 == (rv77.1.Samples.length : Int))) && (sv363.2.1 == (rv89.1.Samples.length : Int))) && ((decide (0 < sv363.1)) == rv77.2.1)) && ((decide (0 < sv363.2.1)) == rv89.2.1)) && ((w64 (k1018 + sv363.1)) == (rv49.1.Samples.length : Int))) with h1031 | h1031
                            · have hs := hs.fix 235 (.bool true) rfl (vb h1031)
                              have hsh := ite_t hc1032 h1031
                              obtain ⟨rv1035, h1034, hsh⟩ := bind_t hsh
                              refine st_callR hs (law14_sane_ok h1034 hw.dom) (do_call Try.call8 rfl) ⟨_, rfl, rfl⟩ rfl rfl ?_
                              intro v1039 Sv1036 w a h1037 h1038 hs
                              subst h1038
                              have hw := hw.call h1037
                              refine st_val hs (y_pickT rfl rfl) trivial rfl rfl fun a hs => ?_
                              refine wpList_nil ?_
                              have hsh := Option.some.inj hsh
                              subst hsh
                              refine then_normal ?_
                              exact ⟨Sv1036, (hs.wk rfl), (hw.ft [] [] (by decide) rfl rfl)⟩
                            · have hs := hs.fix 235 (.bool false) rfl (vb h1031)
                              have hsh := ite_f hc1032 h1031
                              refine st_skip hs rfl rfl rfl rfl rfl fun a hs => ?_
                              refine st_val hs (y_pickF rfl rfl) trivial rfl rfl fun a hs => ?_
                              refine wpList_nil ?_
                              have hsh := Option.some.inj hsh
                              subst hsh
                              refine then_normal ?_
                              exact ⟨Sv1017, (hs.wk rfl), (hw.ft [] [] (by decide) rfl rfl)⟩
                          · rintro a w ⟨Sv1033, hs, hw⟩
                            refine st_val hs (y_assign rfl) trivial rfl rfl fun a hs => ?_
                            refine wpList_nil ?_
                            refine then_normal ?_
                            have hsh := Option.some.inj hsh
                            subst hsh
                            refine wp_ret ?_
                            exact ret1 hs rfl (rv_tmp rfl) (hw.ret rfl)

end Go.Proofs.Ytdifjkamipeibaa.Wk

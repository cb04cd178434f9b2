/- The walks of RecordParts, part 3: each Go function computes what its plain program computes. Printed by a program of ours. -/
import Derived.Test.YtdifjkamipeibaaProg
import Derived.Test.YtdifjkamipeibaaDat
import Derived.Test.YtdifjkamipeibaaSh
import Derived.Test.YtdifjkamipeibaaLibL
import Derived.KernelRfl
import Derived.Test.YtdifjkamipeibaaWRecordParts2
namespace Go.Proofs.Ytdifjkamipeibaa.Wk
open Go Go.RowKit Go.Proofs Go.Proofs.Ytdifjkamipeibaa.Sh
set_option linter.unusedVariables false
set_option linter.unusedSimpArgs false

abbrev law14_RecordParts_rd (w0 : World) (r : Bool) : (Nat → Prop) → World → Value → Prop := fun S w v => v = .bool r
set_option maxHeartbeats 4000000 in
set_option maxRecDepth 100000 in
theorem law14_RecordParts_ok {w0 : World} {S0 : Nat → Prop} {p2 : Option Addr} {k3 : Nat} {t1 : (List Int)} {n5 : Int} {r : Bool} (hsh : law14_RecordParts t1 n5 = some r) (hS : ∀ b, S0 b → b < w0.heap.size) (h4 : (SlA p2 t1.length k3 t1).p S0 w0) : Calls Try.prog 3 #[.slice p2 t1.length k3, .int .u8 n5] w0 (Ret [] w0 S0 (law14_RecordParts_rd w0 r)) := by
  refine calls_of_wp Try.func3 rfl ?_
  have hs := Sl.enter #[.slice p2 t1.length k3, .int .u8 n5] 219 [(0, .slice p2 t1.length k3), (1, .int .u8 n5)] rfl ⟨rfl, rfl, trivial⟩
  have hw := Wd.enter (E := []) hS (fun _ h => (by cases h))
  have hw := hw.addE h4
  delta law14_RecordParts at hsh
  refine wp_seq ?_
  refine wp_region_lit ?_
  refine st_val hs (y_assign rfl) trivial rfl rfl fun a hs => ?_
  refine wpList_nil ?_
  refine then_normal ?_
  refine wp_seq ?_
  refine wp_seq ?_
  refine wp_region_lit ?_
  refine st_val hs (y_move rfl) trivial rfl rfl fun a hs => ?_
  obtain ⟨rv7, h6, hsh⟩ := bind_t hsh
  refine st_callR hs (made_Light_ok h6 hw.dom (hw.envAt 0 rfl)) (do_call Try.call7 rfl) trivial rfl rfl ?_
  intro v11 Sv8 w a h9 h10 hs
  subst h10
  have hw := hw.call h9
  refine st_val hs (y_not rfl) trivial rfl rfl fun a hs => ?_
  refine wpList_nil ?_
  refine then_normal ?_
  refine wp_cond_split (hs.ev rfl) (fun h19 => ?_) (fun h19 => ?_)
  · have hsh := ite_t hsh h19
    refine wp_seq ?_
    refine wp_region_lit ?_
    obtain ⟨rv21, h20, hsh⟩ := bind_t hsh
    refine st_callR hs (law14_sane_ok h20 hw.dom) (do_call Try.call8 rfl) trivial rfl rfl ?_
    intro v25 Sv22 w a h23 h24 hs
    subst h24
    have hw := hw.call h23
    refine st_val hs (y_assign rfl) trivial rfl rfl fun a hs => ?_
    refine wpList_nil ?_
    refine then_normal ?_
    have hsh := Option.some.inj hsh
    subst hsh
    refine wp_ret ?_
    refine then_ret ?_
    exact ret1 hs rfl (rv_tmp rfl) (hw.ret rfl)
  · have hsh := ite_f hsh h19
    refine wp_skip ?_
    refine then_normal ?_
    refine wp_seq ?_
    refine wp_region_lit ?_
    refine st_val hs (y_move rfl) trivial rfl rfl fun a hs => ?_
    obtain ⟨rv27, h26, hsh⟩ := bind_t hsh
    refine st_callR hs (made_Roll_ok h26 hw.dom (hw.envAt 0 rfl)) (do_call Try.call9 rfl) trivial rfl rfl ?_
    intro v36 Sv33 w a h34 h35 hs
    obtain ⟨b28, p30, k31, rfl, h29, h32⟩ := h35
    have hw := hw.callF h34 h29
    have hw := hw.addE (e := SlA p30 rv27.L.length k31 rv27.L) h32
    refine st_val hs (y_assign rfl) trivial rfl rfl fun a hs => ?_
    refine wpList_nil ?_
    refine then_normal ?_
    refine wp_seq ?_
    refine wp_region_lit ?_
    refine st_val hs (y_move rfl) trivial rfl rfl fun a hs => ?_
    refine st_val hs (y_move rfl) trivial rfl rfl fun a hs => ?_
    obtain ⟨rv38, h37, hsh⟩ := bind_t hsh
    refine st_callR hs (made_Dice_Source_ok h37 hw.dom (hw.ownAt 0 rfl) (hw.boxS 0 rfl) (hw.envAt 0 rfl)) (do_call Try.call11 rfl) trivial rfl rfl ?_
    intro v46 Sv43 w a h44 h45 hs
    obtain ⟨p40, k41, rfl, h39, h42⟩ := h45
    have hw := hw.call1 0 rfl h44 h39
    have hw := hw.addE (e := SlA p40 rv38.2.L.length k41 rv38.2.L) h42
    obtain ⟨rv48, h47, hsh⟩ := bind_t hsh
    refine st_callR hs (made_Dice_Record_ok h47 hw.dom (hw.ownAt 0 rfl) (hw.boxS 0 rfl) (hw.envAt 0 rfl)) (do_call Try.call10 rfl) trivial rfl rfl ?_
    intro v61 Sv58 w a h59 h60 hs
    obtain ⟨p49, k50, c51, p55, k56, rfl, h52, h53, h54, h57⟩ := h60
    have hw := hw.call1F 0 rfl h59 h54 h52
    have hw := hw.addE (e := RowA c51 rv48.1.Samples) h53
    have hw := hw.addE (e := SlA p55 rv48.2.L.length k56 rv48.2.L) h57
    refine w_alloc (cs := [.string ByteArray.empty, .string ByteArray.empty, .string ByteArray.empty, .string ByteArray.empty, .int .i64 0, .int .i64 0, .int .i64 0, .int .i64 0, .int .i64 0, .int .i64 0, .int .i64 0, .slice none ([] : List Int).length 0]) hs hw Try.zeroValue32 rfl rfl trivial ?_
    intro b62 a w hs hw
    refine w_store (m := 12) (cs' := [.string rv48.1.Source.Network, .string rv48.1.Source.Station, .string rv48.1.Source.Location, .string rv48.1.Source.Channel, .int .i64 rv48.1.Start, .int .i64 rv48.1.First, .int .i64 rv48.1.Rate.Num, .int .i64 rv48.1.Rate.Den, .int .i64 rv48.1.Error, .int .i64 rv48.1.Run, .int .i64 rv48.1.Seq, .slice p49 rv48.1.Samples.length k50]) hs hw 0 rfl rfl rfl Try.sizeOf32 rfl rfl rfl rfl trivial ?_
    intro a w hs hw
    refine wpList_nil ?_
    refine then_normal ?_
    refine wp_seq ?_
    refine wp_seq ?_
    refine wp_region_lit ?_
    refine st_val hs (y_fieldAddr (o' := 11) Try.runUnderlying32 rfl Try.sizeOf22 rfl rfl rfl) trivial rfl rfl fun a hs => ?_
    refine st_val hs (y_loadB1 (hw.ownAt 0 rfl) rfl Try.isAgg22 rfl) trivial rfl rfl fun a hs => ?_
    refine st_val hs (y_len Try.runUnderlying22 rfl) trivial rfl rfl fun a hs => ?_
    refine st_val hs (y_lss rfl rfl) trivial rfl rfl fun a hs => ?_
    refine wpList_nil ?_
    refine then_normal ?_
    refine wp_cond_split (hs.ev rfl) (fun h70 => ?_) (fun h70 => ?_)
    · have hsh := ite_t hsh h70
      refine wp_seq ?_
      refine wp_region_lit ?_
      obtain ⟨rv72, h71, hsh⟩ := bind_t hsh
      refine st_callR hs (law14_sane_ok h71 hw.dom) (do_call Try.call8 rfl) trivial rfl rfl ?_
      intro v76 Sv73 w a h74 h75 hs
      subst h75
      have hw := hw.call h74
      refine st_val hs (y_assign rfl) trivial rfl rfl fun a hs => ?_
      refine wpList_nil ?_
      refine then_normal ?_
      have hsh := Option.some.inj hsh
      subst hsh
      refine wp_ret ?_
      refine then_ret ?_
      exact ret1 hs rfl (rv_tmp rfl) (hw.ret rfl)
    · have hsh := ite_f hsh h70
      refine wp_skip ?_
      refine then_normal ?_
      refine wp_seq ?_
      refine wp_region_lit ?_
      refine st_val hs (y_move rfl) trivial rfl rfl fun a hs => ?_
      refine st_val hs (y_convert Try.runUnderlying5 Try.runUnderlying3 rfl) trivial rfl rfl fun a hs => ?_
      refine st_val hs (y_fieldAddr (o' := 11) Try.runUnderlying32 rfl Try.sizeOf22 rfl rfl rfl) trivial rfl rfl fun a hs => ?_
      refine st_val hs (y_loadB1 (hw.ownAt 0 rfl) rfl Try.isAgg22 rfl) trivial rfl rfl fun a hs => ?_
      refine st_val hs (y_len Try.runUnderlying22 rfl) trivial rfl rfl fun a hs => ?_
      refine st_val hs (y_sub rfl rfl) trivial rfl rfl fun a hs => ?_
      obtain ⟨rem78, h77, hsh⟩ := bind_t hsh
      refine st_val hs (y_remM rfl rfl h77) trivial rfl rfl fun a hs => ?_
      refine st_val hs (y_add rfl rfl) trivial rfl rfl fun a hs => ?_
      obtain ⟨k80, h79, hsh⟩ := bind_t hsh
      refine st_val hs (y_assignI rfl h79) trivial rfl rfl fun a hs => ?_
      refine wpList_nil ?_
      refine then_normal ?_
      refine wp_seq ?_
      refine wp_region_lit ?_
      refine st_val hs (y_loadBA (hw.ownAt 0 rfl) rfl Try.isAgg32 Try.sizeOf32 rfl rfl) trivial rfl rfl fun a hs => ?_
      refine st_val hs (y_move rfl) trivial rfl rfl fun a hs => ?_
      obtain ⟨rv82, h81, hsh⟩ := bind_t hsh
      obtain ⟨Sv88, hw⟩ := w_share (α := Int) hw 1 rfl 1 rfl (.inl rfl)
      refine st_callR hs (record_Sub_ok h81 hw.dom (hw.envAt 0 rfl)) (do_call Try.call12 rfl) trivial rfl rfl ?_
      intro v92 Sv89 w a h90 h91 hs
      obtain ⟨p83, k84, c85, rfl, h86, h87⟩ := h91
      have hw := hw.callF h90 h86
      have hw := hw.addE (e := RowA c85 rv82.1.Samples) h87
      refine st_val hs (y_move rfl) trivial rfl rfl fun a hs => ?_
      refine st_val hs (y_extract rfl rfl) trivial rfl rfl fun a hs => ?_
      refine st_val hs (y_extract rfl rfl) trivial rfl rfl fun a hs => ?_
      refine w_alloc (cs := [.string ByteArray.empty, .string ByteArray.empty, .string ByteArray.empty, .string ByteArray.empty, .int .i64 0, .int .i64 0, .int .i64 0, .int .i64 0, .int .i64 0, .int .i64 0, .int .i64 0, .slice none ([] : List Int).length 0]) hs hw Try.zeroValue32 rfl rfl trivial ?_
      intro b93 a w hs hw
      refine w_store (m := 12) (cs' := [.string rv82.1.Source.Network, .string rv82.1.Source.Station, .string rv82.1.Source.Location, .string rv82.1.Source.Channel, .int .i64 rv82.1.Start, .int .i64 rv82.1.First, .int .i64 rv82.1.Rate.Num, .int .i64 rv82.1.Rate.Den, .int .i64 rv82.1.Error, .int .i64 rv82.1.Run, .int .i64 rv82.1.Seq, .slice p83 rv82.1.Samples.length k84]) hs hw 0 rfl rfl rfl Try.sizeOf32 rfl rfl rfl rfl trivial ?_
      intro a w hs hw
      refine st_val hs (y_assign rfl) trivial rfl rfl fun a hs => ?_
      refine wpList_nil ?_
      refine then_normal ?_
      refine wp_seq ?_
      refine wp_region_lit ?_
      refine st_val hs (y_loadBA (hw.ownAt 2 rfl) rfl Try.isAgg32 Try.sizeOf32 rfl rfl) trivial rfl rfl fun a hs => ?_
      refine st_val hs (y_move rfl) trivial rfl rfl fun a hs => ?_
      refine st_val hs (y_fieldAddr (o' := 11) Try.runUnderlying32 rfl Try.sizeOf22 rfl rfl rfl) trivial rfl rfl fun a hs => ?_
      refine st_val hs (y_loadB1 (hw.ownAt 2 rfl) rfl Try.isAgg22 rfl) trivial rfl rfl fun a hs => ?_
      refine st_val hs (y_len Try.runUnderlying22 rfl) trivial rfl rfl fun a hs => ?_
      obtain ⟨rv95, h94, hsh⟩ := bind_t hsh
      refine st_callR hs (record_Sub_ok h94 hw.dom (hw.envAt 1 rfl)) (do_call Try.call12 rfl) trivial rfl rfl ?_
      intro v104 Sv101 w a h102 h103 hs
      obtain ⟨p96, k97, c98, rfl, h99, h100⟩ := h103
      have hw := hw.callF h102 h99
      have hw := hw.addE (e := RowA c98 rv95.1.Samples) h100
      refine st_val hs (y_move rfl) trivial rfl rfl fun a hs => ?_
      refine st_val hs (y_extract rfl rfl) trivial rfl rfl fun a hs => ?_
      refine st_val hs (y_extract rfl rfl) trivial rfl rfl fun a hs => ?_
      refine w_alloc (cs := [.string ByteArray.empty, .string ByteArray.empty, .string ByteArray.empty, .string ByteArray.empty, .int .i64 0, .int .i64 0, .int .i64 0, .int .i64 0, .int .i64 0, .int .i64 0, .int .i64 0, .slice none ([] : List Int).length 0]) hs hw Try.zeroValue32 rfl rfl trivial ?_
      intro b105 a w hs hw
      refine w_store (m := 12) (cs' := [.string rv95.1.Source.Network, .string rv95.1.Source.Station, .string rv95.1.Source.Location, .string rv95.1.Source.Channel, .int .i64 rv95.1.Start, .int .i64 rv95.1.First, .int .i64 rv95.1.Rate.Num, .int .i64 rv95.1.Rate.Den, .int .i64 rv95.1.Error, .int .i64 rv95.1.Run, .int .i64 rv95.1.Seq, .slice p96 rv95.1.Samples.length k97]) hs hw 0 rfl rfl rfl Try.sizeOf32 rfl rfl rfl rfl trivial ?_
      intro a w hs hw
      refine st_val hs (y_assign rfl) trivial rfl rfl fun a hs => ?_
      refine wpList_nil ?_
      refine then_normal ?_
      refine wp_seq ?_
      refine wp_region_lit ?_
      refine st_val hs (y_loadBA (hw.ownAt 2 rfl) rfl Try.isAgg32 Try.sizeOf32 rfl rfl) trivial rfl rfl fun a hs => ?_
      obtain ⟨rv107, h106, hsh⟩ := bind_t hsh
      obtain ⟨Sv108, hw⟩ := w_share (α := Int) hw 3 rfl 1 rfl (.inl rfl)
      refine st_callR hs (record_Span_ok h106 hw.dom (hw.envAt 0 rfl)) (do_call Try.call13 rfl) trivial rfl rfl ?_
      intro v112 Sv109 w a h110 h111 hs
      subst h111
      have hw := hw.call h110
      refine st_val hs (y_move rfl) trivial rfl rfl fun a hs => ?_
      refine st_val hs (y_extract rfl rfl) trivial rfl rfl fun a hs => ?_
      refine st_val hs (y_extract rfl rfl) trivial rfl rfl fun a hs => ?_
      refine w_alloc (cs := [.int .i64 0, .int .i64 0]) hs hw Try.zeroValue39 rfl rfl trivial ?_
      intro b113 a w hs hw
      refine w_store (m := 2) (cs' := [.int .i64 rv107.1.From, .int .i64 rv107.1.To]) hs hw 0 rfl rfl rfl Try.sizeOf39 rfl rfl rfl rfl trivial ?_
      intro a w hs hw
      refine st_val hs (y_assign rfl) trivial rfl rfl fun a hs => ?_
      refine wpList_nil ?_
      refine then_normal ?_
      refine wp_seq ?_
      refine wp_region_lit ?_
      refine st_val hs (y_loadBA (hw.ownAt 1 rfl) rfl Try.isAgg32 Try.sizeOf32 rfl rfl) trivial rfl rfl fun a hs => ?_
      obtain ⟨rv115, h114, hsh⟩ := bind_t hsh
      obtain ⟨Sv116, hw⟩ := w_share (α := Int) hw 2 rfl 1 rfl (.inl rfl)
      refine st_callR hs (record_Span_ok h114 hw.dom (hw.envAt 0 rfl)) (do_call Try.call13 rfl) trivial rfl rfl ?_
      intro v120 Sv117 w a h118 h119 hs
      subst h119
      have hw := hw.call h118
      refine st_val hs (y_move rfl) trivial rfl rfl fun a hs => ?_
      refine st_val hs (y_extract rfl rfl) trivial rfl rfl fun a hs => ?_
      refine st_val hs (y_extract rfl rfl) trivial rfl rfl fun a hs => ?_
      refine w_alloc (cs := [.int .i64 0, .int .i64 0]) hs hw Try.zeroValue39 rfl rfl trivial ?_
      intro b121 a w hs hw
      refine w_store (m := 2) (cs' := [.int .i64 rv115.1.From, .int .i64 rv115.1.To]) hs hw 0 rfl rfl rfl Try.sizeOf39 rfl rfl rfl rfl trivial ?_
      intro a w hs hw
      refine st_val hs (y_assign rfl) trivial rfl rfl fun a hs => ?_
      refine wpList_nil ?_
      refine then_normal ?_
      refine wp_seq ?_
      refine wp_region_lit ?_
      refine st_val hs (y_loadBA (hw.ownAt 4 rfl) rfl Try.isAgg32 Try.sizeOf32 rfl rfl) trivial rfl rfl fun a hs => ?_
      obtain ⟨rv123, h122, hsh⟩ := bind_t hsh
      refine st_callR hs (record_Span_ok h122 hw.dom (hw.envAt 4 rfl)) (do_call Try.call13 rfl) trivial rfl rfl ?_
      intro v127 Sv124 w a h125 h126 hs
      subst h126
      have hw := hw.call h125
      refine st_val hs (y_move rfl) trivial rfl rfl fun a hs => ?_
      refine st_val hs (y_extract rfl rfl) trivial rfl rfl fun a hs => ?_
      refine st_val hs (y_extract rfl rfl) trivial rfl rfl fun a hs => ?_
      refine w_alloc (cs := [.int .i64 0, .int .i64 0]) hs hw Try.zeroValue39 rfl rfl trivial ?_
      intro b128 a w hs hw
      refine w_store (m := 2) (cs' := [.int .i64 rv123.1.From, .int .i64 rv123.1.To]) hs hw 0 rfl rfl rfl Try.sizeOf39 rfl rfl rfl rfl trivial ?_
      intro a w hs hw
      refine st_val hs (y_assign rfl) trivial rfl rfl fun a hs => ?_
      refine wpList_nil ?_
      refine then_normal ?_
      refine wp_seq ?_
      refine wp_seq ?_
      refine wp_region_lit ?_
      refine st_val hs (y_move rfl) trivial rfl rfl fun a hs => ?_
      refine st_val hs (y_neq rfl rfl) trivial rfl rfl fun a hs => ?_
      refine st_val hs (y_move rfl) trivial rfl rfl fun a hs => ?_
      refine wpl_join 3 (fun a w1 => w = w1 ∧ Sl 219 [(5, .pointer (some ⟨b28, 0, none⟩)), (6, .pointer (some ⟨b62, 0, none⟩)), (7, .int .i64 k80), (8, .pointer (some ⟨b93, 0, none⟩)), (10, .pointer (some ⟨b105, 0, none⟩)), (12, .pointer (some ⟨b113, 0, none⟩)), (13, .int .i64 rv107.2), (14, .pointer (some ⟨b121, 0, none⟩)), (15, .int .i64 rv115.2), (16, .pointer (some ⟨b128, 0, none⟩)), (17, .int .i64 rv123.2), (88, .bool ((rv82.2 != 0) || (rv95.2 != 0)))] a) ?_ ?_
      · rcases Bool.eq_false_or_eq_true (rv82.2 != 0) with h129 | h129
        · have hs := hs.fix 85 (.bool true) rfl (vb h129)
          refine st_skip hs rfl rfl rfl rfl rfl fun a hs => ?_
          refine st_skip hs rfl rfl rfl rfl rfl fun a hs => ?_
          refine st_val hs (y_pickT rfl rfl) trivial rfl rfl fun a hs => ?_
          refine wpList_nil ?_
          refine then_normal ?_
          exact ⟨rfl, (hs.fix 88 (.bool ((rv82.2 != 0) || (rv95.2 != 0))) rfl (or_t h129)).weaken _ ⟨rfl, rfl, rfl, rfl, rfl, rfl, rfl, rfl, rfl, rfl, rfl, rfl, trivial⟩⟩
        · have hs := hs.fix 85 (.bool false) rfl (vb h129)
          refine st_val hs (y_move rfl) ⟨_, rfl, rfl⟩ rfl rfl fun a hs => ?_
          refine st_val hs (y_neq rfl rfl) ⟨_, rfl, rfl⟩ rfl rfl fun a hs => ?_
          refine st_val hs (y_pickF rfl rfl) trivial rfl rfl fun a hs => ?_
          refine wpList_nil ?_
          refine then_normal ?_
          exact ⟨rfl, (hs.fix 88 (.bool ((rv82.2 != 0) || (rv95.2 != 0))) rfl (or_f h129)).weaken _ ⟨rfl, rfl, rfl, rfl, rfl, rfl, rfl, rfl, rfl, rfl, rfl, rfl, trivial⟩⟩
      · rintro a w1 ⟨h869, hs⟩
        subst h869
        refine st_val hs (y_move rfl) trivial rfl rfl fun a hs => ?_
        refine wpl_join 3 (fun a w1 => w = w1 ∧ Sl 219 [(5, .pointer (some ⟨b28, 0, none⟩)), (6, .pointer (some ⟨b62, 0, none⟩)), (7, .int .i64 k80), (8, .pointer (some ⟨b93, 0, none⟩)), (10, .pointer (some ⟨b105, 0, none⟩)), (12, .pointer (some ⟨b113, 0, none⟩)), (14, .pointer (some ⟨b121, 0, none⟩)), (15, .int .i64 rv115.2), (16, .pointer (some ⟨b128, 0, none⟩)), (17, .int .i64 rv123.2), (92, .bool (((rv82.2 != 0) || (rv95.2 != 0)) || (rv107.2 != 0)))] a) ?_ ?_
        · rcases Bool.eq_false_or_eq_true ((rv82.2 != 0) || (rv95.2 != 0)) with h130 | h130
          · have hs := hs.fix 89 (.bool true) rfl (vb h130)
            refine st_skip hs rfl rfl rfl rfl rfl fun a hs => ?_
            refine st_skip hs rfl rfl rfl rfl rfl fun a hs => ?_
            refine st_val hs (y_pickT rfl rfl) trivial rfl rfl fun a hs => ?_
            refine wpList_nil ?_
            refine then_normal ?_
            exact ⟨rfl, (hs.fix 92 (.bool (((rv82.2 != 0) || (rv95.2 != 0)) || (rv107.2 != 0))) rfl (or_t h130)).weaken _ ⟨rfl, rfl, rfl, rfl, rfl, rfl, rfl, rfl, rfl, rfl, rfl, trivial⟩⟩
          · have hs := hs.fix 89 (.bool false) rfl (vb h130)
            refine st_val hs (y_move rfl) ⟨_, rfl, rfl⟩ rfl rfl fun a hs => ?_
            refine st_val hs (y_neq rfl rfl) ⟨_, rfl, rfl⟩ rfl rfl fun a hs => ?_
            refine st_val hs (y_pickF rfl rfl) trivial rfl rfl fun a hs => ?_
            refine wpList_nil ?_
            refine then_normal ?_
            exact ⟨rfl, (hs.fix 92 (.bool (((rv82.2 != 0) || (rv95.2 != 0)) || (rv107.2 != 0))) rfl (or_f h130)).weaken _ ⟨rfl, rfl, rfl, rfl, rfl, rfl, rfl, rfl, rfl, rfl, rfl, trivial⟩⟩
        · rintro a w1 ⟨h868, hs⟩
          subst h868
          refine st_val hs (y_move rfl) trivial rfl rfl fun a hs => ?_
          refine wpl_join 3 (fun a w1 => w = w1 ∧ Sl 219 [(5, .pointer (some ⟨b28, 0, none⟩)), (6, .pointer (some ⟨b62, 0, none⟩)), (7, .int .i64 k80), (8, .pointer (some ⟨b93, 0, none⟩)), (10, .pointer (some ⟨b105, 0, none⟩)), (12, .pointer (some ⟨b113, 0, none⟩)), (14, .pointer (some ⟨b121, 0, none⟩)), (16, .pointer (some ⟨b128, 0, none⟩)), (17, .int .i64 rv123.2), (96, .bool ((((rv82.2 != 0) || (rv95.2 != 0)) || (rv107.2 != 0)) || (rv115.2 != 0)))] a) ?_ ?_
          · rcases Bool.eq_false_or_eq_true (((rv82.2 != 0) || (rv95.2 != 0)) || (rv107.2 != 0)) with h131 | h131
            · have hs := hs.fix 93 (.bool true) rfl (vb h131)
              refine st_skip hs rfl rfl rfl rfl rfl fun a hs => ?_
              refine st_skip hs rfl rfl rfl rfl rfl fun a hs => ?_
              refine st_val hs (y_pickT rfl rfl) trivial rfl rfl fun a hs => ?_
              refine wpList_nil ?_
              refine then_normal ?_
              exact ⟨rfl, (hs.fix 96 (.bool ((((rv82.2 != 0) || (rv95.2 != 0)) || (rv107.2 != 0)) || (rv115.2 != 0))) rfl (or_t h131)).weaken _ ⟨rfl, rfl, rfl, rfl, rfl, rfl, rfl, rfl, rfl, rfl, trivial⟩⟩
            · have hs := hs.fix 93 (.bool false) rfl (vb h131)
              refine st_val hs (y_move rfl) ⟨_, rfl, rfl⟩ rfl rfl fun a hs => ?_
              refine st_val hs (y_neq rfl rfl) ⟨_, rfl, rfl⟩ rfl rfl fun a hs => ?_
              refine st_val hs (y_pickF rfl rfl) trivial rfl rfl fun a hs => ?_
              refine wpList_nil ?_
              refine then_normal ?_
              exact ⟨rfl, (hs.fix 96 (.bool ((((rv82.2 != 0) || (rv95.2 != 0)) || (rv107.2 != 0)) || (rv115.2 != 0))) rfl (or_f h131)).weaken _ ⟨rfl, rfl, rfl, rfl, rfl, rfl, rfl, rfl, rfl, rfl, trivial⟩⟩
          · rintro a w1 ⟨h867, hs⟩
            subst h867
            refine st_val hs (y_move rfl) trivial rfl rfl fun a hs => ?_
            refine wpl_join 3 (fun a w1 => w = w1 ∧ Sl 219 [(5, .pointer (some ⟨b28, 0, none⟩)), (6, .pointer (some ⟨b62, 0, none⟩)), (7, .int .i64 k80), (8, .pointer (some ⟨b93, 0, none⟩)), (10, .pointer (some ⟨b105, 0, none⟩)), (12, .pointer (some ⟨b113, 0, none⟩)), (14, .pointer (some ⟨b121, 0, none⟩)), (16, .pointer (some ⟨b128, 0, none⟩)), (100, .bool (((((rv82.2 != 0) || (rv95.2 != 0)) || (rv107.2 != 0)) || (rv115.2 != 0)) || (rv123.2 != 0)))] a) ?_ ?_
            · rcases Bool.eq_false_or_eq_true ((((rv82.2 != 0) || (rv95.2 != 0)) || (rv107.2 != 0)) || (rv115.2 != 0)) with h132 | h132
              · have hs := hs.fix 97 (.bool true) rfl (vb h132)
                refine st_skip hs rfl rfl rfl rfl rfl fun a hs => ?_
                refine st_skip hs rfl rfl rfl rfl rfl fun a hs => ?_
                refine st_val hs (y_pickT rfl rfl) trivial rfl rfl fun a hs => ?_
                refine wpList_nil ?_
                refine then_normal ?_
                exact ⟨rfl, (hs.fix 100 (.bool (((((rv82.2 != 0) || (rv95.2 != 0)) || (rv107.2 != 0)) || (rv115.2 != 0)) || (rv123.2 != 0))) rfl (or_t h132)).weaken _ ⟨rfl, rfl, rfl, rfl, rfl, rfl, rfl, rfl, rfl, trivial⟩⟩
              · have hs := hs.fix 97 (.bool false) rfl (vb h132)
                refine st_val hs (y_move rfl) ⟨_, rfl, rfl⟩ rfl rfl fun a hs => ?_
                refine st_val hs (y_neq rfl rfl) ⟨_, rfl, rfl⟩ rfl rfl fun a hs => ?_
                refine st_val hs (y_pickF rfl rfl) trivial rfl rfl fun a hs => ?_
                refine wpList_nil ?_
                refine then_normal ?_
                exact ⟨rfl, (hs.fix 100 (.bool (((((rv82.2 != 0) || (rv95.2 != 0)) || (rv107.2 != 0)) || (rv115.2 != 0)) || (rv123.2 != 0))) rfl (or_f h132)).weaken _ ⟨rfl, rfl, rfl, rfl, rfl, rfl, rfl, rfl, rfl, trivial⟩⟩
            · rintro a w1 ⟨h866, hs⟩
              subst h866
              refine st_val hs (y_move rfl) trivial rfl rfl fun a hs => ?_
              refine wpl_join 6 (fun a w1 => w = w1 ∧ Sl 219 [(5, .pointer (some ⟨b28, 0, none⟩)), (6, .pointer (some ⟨b62, 0, none⟩)), (7, .int .i64 k80), (8, .pointer (some ⟨b93, 0, none⟩)), (10, .pointer (some ⟨b105, 0, none⟩)), (12, .pointer (some ⟨b113, 0, none⟩)), (14, .pointer (some ⟨b121, 0, none⟩)), (16, .pointer (some ⟨b128, 0, none⟩)), (107, .bool ((((((rv82.2 != 0) || (rv95.2 != 0)) || (rv107.2 != 0)) || (rv115.2 != 0)) || (rv123.2 != 0)) || (rv107.1.From != rv123.1.From)))] a) ?_ ?_
              · rcases Bool.eq_false_or_eq_true (((((rv82.2 != 0) || (rv95.2 != 0)) || (rv107.2 != 0)) || (rv115.2 != 0)) || (rv123.2 != 0)) with h133 | h133
                · have hs := hs.fix 101 (.bool true) rfl (vb h133)
                  refine st_skip hs rfl rfl rfl rfl rfl fun a hs => ?_
                  refine st_skip hs rfl rfl rfl rfl rfl fun a hs => ?_
                  refine st_skip hs rfl rfl rfl rfl rfl fun a hs => ?_
                  refine st_skip hs rfl rfl rfl rfl rfl fun a hs => ?_
                  refine st_skip hs rfl rfl rfl rfl rfl fun a hs => ?_
                  refine st_val hs (y_pickT rfl rfl) trivial rfl rfl fun a hs => ?_
                  refine wpList_nil ?_
                  refine then_normal ?_
                  exact ⟨rfl, (hs.fix 107 (.bool ((((((rv82.2 != 0) || (rv95.2 != 0)) || (rv107.2 != 0)) || (rv115.2 != 0)) || (rv123.2 != 0)) || (rv107.1.From != rv123.1.From))) rfl (or_t h133)).weaken _ ⟨rfl, rfl, rfl, rfl, rfl, rfl, rfl, rfl, rfl, trivial⟩⟩
                · have hs := hs.fix 101 (.bool false) rfl (vb h133)
                  refine st_val hs (y_fieldAddr (o' := 0) Try.runUnderlying39 rfl Try.sizeOf3 rfl rfl rfl) ⟨_, rfl, rfl⟩ rfl rfl fun a hs => ?_
                  refine st_val hs (y_loadB1 (hw.ownAt 2 rfl) rfl Try.isAgg3 rfl) ⟨_, rfl, rfl⟩ rfl rfl fun a hs => ?_
                  refine st_val hs (y_fieldAddr (o' := 0) Try.runUnderlying39 rfl Try.sizeOf3 rfl rfl rfl) ⟨_, rfl, rfl⟩ rfl rfl fun a hs => ?_
                  refine st_val hs (y_loadB1 (hw.ownAt 0 rfl) rfl Try.isAgg3 rfl) ⟨_, rfl, rfl⟩ rfl rfl fun a hs => ?_
                  refine st_val hs (y_neq rfl rfl) ⟨_, rfl, rfl⟩ rfl rfl fun a hs => ?_
                  refine st_val hs (y_pickF rfl rfl) trivial rfl rfl fun a hs => ?_
                  refine wpList_nil ?_
                  refine then_normal ?_
                  exact ⟨rfl, (hs.fix 107 (.bool ((((((rv82.2 != 0) || (rv95.2 != 0)) || (rv107.2 != 0)) || (rv115.2 != 0)) || (rv123.2 != 0)) || (rv107.1.From != rv123.1.From))) rfl (or_f h133)).weaken _ ⟨rfl, rfl, rfl, rfl, rfl, rfl, rfl, rfl, rfl, trivial⟩⟩
              · rintro a w1 ⟨h865, hs⟩
                subst h865
                refine st_val hs (y_move rfl) trivial rfl rfl fun a hs => ?_
                refine wpl_join 6 (fun a w1 => w = w1 ∧ Sl 219 [(5, .pointer (some ⟨b28, 0, none⟩)), (6, .pointer (some ⟨b62, 0, none⟩)), (7, .int .i64 k80), (8, .pointer (some ⟨b93, 0, none⟩)), (10, .pointer (some ⟨b105, 0, none⟩)), (14, .pointer (some ⟨b121, 0, none⟩)), (16, .pointer (some ⟨b128, 0, none⟩)), (114, .bool (((((((rv82.2 != 0) || (rv95.2 != 0)) || (rv107.2 != 0)) || (rv115.2 != 0)) || (rv123.2 != 0)) || (rv107.1.From != rv123.1.From)) || (rv107.1.To != rv115.1.From)))] a) ?_ ?_
                · rcases Bool.eq_false_or_eq_true ((((((rv82.2 != 0) || (rv95.2 != 0)) || (rv107.2 != 0)) || (rv115.2 != 0)) || (rv123.2 != 0)) || (rv107.1.From != rv123.1.From)) with h134 | h134
                  · have hs := hs.fix 108 (.bool true) rfl (vb h134)
                    refine st_skip hs rfl rfl rfl rfl rfl fun a hs => ?_
                    refine st_skip hs rfl rfl rfl rfl rfl fun a hs => ?_
                    refine st_skip hs rfl rfl rfl rfl rfl fun a hs => ?_
                    refine st_skip hs rfl rfl rfl rfl rfl fun a hs => ?_
                    refine st_skip hs rfl rfl rfl rfl rfl fun a hs => ?_
                    refine st_val hs (y_pickT rfl rfl) trivial rfl rfl fun a hs => ?_
                    refine wpList_nil ?_
                    refine then_normal ?_
                    exact ⟨rfl, (hs.fix 114 (.bool (((((((rv82.2 != 0) || (rv95.2 != 0)) || (rv107.2 != 0)) || (rv115.2 != 0)) || (rv123.2 != 0)) || (rv107.1.From != rv123.1.From)) || (rv107.1.To != rv115.1.From))) rfl (or_t h134)).weaken _ ⟨rfl, rfl, rfl, rfl, rfl, rfl, rfl, rfl, trivial⟩⟩
                  · have hs := hs.fix 108 (.bool false) rfl (vb h134)
                    refine st_val hs (y_fieldAddr (o' := 1) Try.runUnderlying39 rfl Try.sizeOf3 rfl rfl rfl) ⟨_, rfl, rfl⟩ rfl rfl fun a hs => ?_
                    refine st_val hs (y_loadB1 (hw.ownAt 2 rfl) rfl Try.isAgg3 rfl) ⟨_, rfl, rfl⟩ rfl rfl fun a hs => ?_
                    refine st_val hs (y_fieldAddr (o' := 0) Try.runUnderlying39 rfl Try.sizeOf3 rfl rfl rfl) ⟨_, rfl, rfl⟩ rfl rfl fun a hs => ?_
                    refine st_val hs (y_loadB1 (hw.ownAt 1 rfl) rfl Try.isAgg3 rfl) ⟨_, rfl, rfl⟩ rfl rfl fun a hs => ?_
                    refine st_val hs (y_neq rfl rfl) ⟨_, rfl, rfl⟩ rfl rfl fun a hs => ?_
                    refine st_val hs (y_pickF rfl rfl) trivial rfl rfl fun a hs => ?_
                    refine wpList_nil ?_
                    refine then_normal ?_
                    exact ⟨rfl, (hs.fix 114 (.bool (((((((rv82.2 != 0) || (rv95.2 != 0)) || (rv107.2 != 0)) || (rv115.2 != 0)) || (rv123.2 != 0)) || (rv107.1.From != rv123.1.From)) || (rv107.1.To != rv115.1.From))) rfl (or_f h134)).weaken _ ⟨rfl, rfl, rfl, rfl, rfl, rfl, rfl, rfl, trivial⟩⟩
                · rintro a w1 ⟨h864, hs⟩
                  subst h864
                  refine st_val hs (y_move rfl) trivial rfl rfl fun a hs => ?_
                  refine wpl_join 6 (fun a w1 => w = w1 ∧ Sl 219 [(5, .pointer (some ⟨b28, 0, none⟩)), (6, .pointer (some ⟨b62, 0, none⟩)), (7, .int .i64 k80), (8, .pointer (some ⟨b93, 0, none⟩)), (10, .pointer (some ⟨b105, 0, none⟩)), (121, .bool ((((((((rv82.2 != 0) || (rv95.2 != 0)) || (rv107.2 != 0)) || (rv115.2 != 0)) || (rv123.2 != 0)) || (rv107.1.From != rv123.1.From)) || (rv107.1.To != rv115.1.From)) || (rv115.1.To != rv123.1.To)))] a) ?_ ?_
                  · rcases Bool.eq_false_or_eq_true (((((((rv82.2 != 0) || (rv95.2 != 0)) || (rv107.2 != 0)) || (rv115.2 != 0)) || (rv123.2 != 0)) || (rv107.1.From != rv123.1.From)) || (rv107.1.To != rv115.1.From)) with h135 | h135
                    · have hs := hs.fix 115 (.bool true) rfl (vb h135)
                      refine st_skip hs rfl rfl rfl rfl rfl fun a hs => ?_
                      refine st_skip hs rfl rfl rfl rfl rfl fun a hs => ?_
                      refine st_skip hs rfl rfl rfl rfl rfl fun a hs => ?_
                      refine st_skip hs rfl rfl rfl rfl rfl fun a hs => ?_
                      refine st_skip hs rfl rfl rfl rfl rfl fun a hs => ?_
                      refine st_val hs (y_pickT rfl rfl) trivial rfl rfl fun a hs => ?_
                      refine wpList_nil ?_
                      refine then_normal ?_
                      exact ⟨rfl, (hs.fix 121 (.bool ((((((((rv82.2 != 0) || (rv95.2 != 0)) || (rv107.2 != 0)) || (rv115.2 != 0)) || (rv123.2 != 0)) || (rv107.1.From != rv123.1.From)) || (rv107.1.To != rv115.1.From)) || (rv115.1.To != rv123.1.To))) rfl (or_t h135)).weaken _ ⟨rfl, rfl, rfl, rfl, rfl, rfl, trivial⟩⟩
                    · have hs := hs.fix 115 (.bool false) rfl (vb h135)
                      refine st_val hs (y_fieldAddr (o' := 1) Try.runUnderlying39 rfl Try.sizeOf3 rfl rfl rfl) ⟨_, rfl, rfl⟩ rfl rfl fun a hs => ?_
                      refine st_val hs (y_loadB1 (hw.ownAt 1 rfl) rfl Try.isAgg3 rfl) ⟨_, rfl, rfl⟩ rfl rfl fun a hs => ?_
                      refine st_val hs (y_fieldAddr (o' := 1) Try.runUnderlying39 rfl Try.sizeOf3 rfl rfl rfl) ⟨_, rfl, rfl⟩ rfl rfl fun a hs => ?_
                      refine st_val hs (y_loadB1 (hw.ownAt 0 rfl) rfl Try.isAgg3 rfl) ⟨_, rfl, rfl⟩ rfl rfl fun a hs => ?_
                      refine st_val hs (y_neq rfl rfl) ⟨_, rfl, rfl⟩ rfl rfl fun a hs => ?_
                      refine st_val hs (y_pickF rfl rfl) trivial rfl rfl fun a hs => ?_
                      refine wpList_nil ?_
                      refine then_normal ?_
                      exact ⟨rfl, (hs.fix 121 (.bool ((((((((rv82.2 != 0) || (rv95.2 != 0)) || (rv107.2 != 0)) || (rv115.2 != 0)) || (rv123.2 != 0)) || (rv107.1.From != rv123.1.From)) || (rv107.1.To != rv115.1.From)) || (rv115.1.To != rv123.1.To))) rfl (or_f h135)).weaken _ ⟨rfl, rfl, rfl, rfl, rfl, rfl, trivial⟩⟩
                  · rintro a w1 ⟨h863, hs⟩
                    subst h863
                    refine st_val hs (y_move rfl) trivial rfl rfl fun a hs => ?_
                    obtain ⟨c143, hc143, hsh⟩ := bind_t hsh
                    refine wpl_join 5 (fun a w => ∃ (Sv144 : Nat → Prop), Sl 219 [(5, .pointer (some ⟨b28, 0, none⟩)), (6, .pointer (some ⟨b62, 0, none⟩)), (7, .int .i64 k80), (8, .pointer (some ⟨b93, 0, none⟩)), (10, .pointer (some ⟨b105, 0, none⟩)), (127, .bool c143)] a ∧ Wd ⟨w0, S0, []⟩ Sv144 [.box b28 [.slice p55 rv48.2.L.length k56, .int .i64 rv48.2.At] 60, .box b62 [.string rv48.1.Source.Network, .string rv48.1.Source.Station, .string rv48.1.Source.Location, .string rv48.1.Source.Channel, .int .i64 rv48.1.Start, .int .i64 rv48.1.First, .int .i64 rv48.1.Rate.Num, .int .i64 rv48.1.Rate.Den, .int .i64 rv48.1.Error, .int .i64 rv48.1.Run, .int .i64 rv48.1.Seq, .slice p49 rv48.1.Samples.length k50] 32, .box b93 [.string rv82.1.Source.Network, .string rv82.1.Source.Station, .string rv82.1.Source.Location, .string rv82.1.Source.Channel, .int .i64 rv82.1.Start, .int .i64 rv82.1.First, .int .i64 rv82.1.Rate.Num, .int .i64 rv82.1.Rate.Den, .int .i64 rv82.1.Error, .int .i64 rv82.1.Run, .int .i64 rv82.1.Seq, .slice p83 rv82.1.Samples.length k84] 32, .box b105 [.string rv95.1.Source.Network, .string rv95.1.Source.Station, .string rv95.1.Source.Location, .string rv95.1.Source.Channel, .int .i64 rv95.1.Start, .int .i64 rv95.1.First, .int .i64 rv95.1.Rate.Num, .int .i64 rv95.1.Rate.Den, .int .i64 rv95.1.Error, .int .i64 rv95.1.Run, .int .i64 rv95.1.Seq, .slice p96 rv95.1.Samples.length k97] 32] [SlA p55 rv48.2.L.length k56 rv48.2.L, SlA p49 rv48.1.Samples.length k50 rv48.1.Samples, SlA p83 rv82.1.Samples.length k84 rv82.1.Samples, SlA p96 rv95.1.Samples.length k97 rv95.1.Samples] w) ?_ ?_
                    · rcases Bool.eq_false_or_eq_true ((((((((rv82.2 != 0) || (rv95.2 != 0)) || (rv107.2 != 0)) || (rv115.2 != 0)) || (rv123.2 != 0)) || (rv107.1.From != rv123.1.From)) || (rv107.1.To != rv115.1.From)) || (rv115.1.To != rv123.1.To)) with h142 | h142
                      · have hs := hs.fix 122 (.bool true) rfl (vb h142)
                        have hsh := ite_t hc143 h142
                        refine st_skip hs rfl rfl rfl rfl rfl fun a hs => ?_
                        refine st_skip hs rfl rfl rfl rfl rfl fun a hs => ?_
                        refine st_skip hs rfl rfl rfl rfl rfl fun a hs => ?_
                        refine st_skip hs rfl rfl rfl rfl rfl fun a hs => ?_
                        refine st_val hs (y_pickT rfl rfl) trivial rfl rfl fun a hs => ?_
                        refine wpList_nil ?_
                        have hsh := Option.some.inj hsh
                        subst hsh
                        refine then_normal ?_
                        exact ⟨Sv124, (hs.wk rfl), (hw.ft [6, 5, 4, 3] [5, 4, 1, 0] (by decide) rfl rfl)⟩
                      · have hs := hs.fix 122 (.bool false) rfl (vb h142)
                        have hsh := ite_f hc143 h142
                        refine st_val hs (y_loadBA (hw.ownAt 4 rfl) rfl Try.isAgg32 Try.sizeOf32 rfl rfl) ⟨_, rfl, rfl⟩ rfl rfl fun a hs => ?_
                        refine st_val hs (y_loadBA (hw.ownAt 3 rfl) rfl Try.isAgg32 Try.sizeOf32 rfl rfl) ⟨_, rfl, rfl⟩ rfl rfl fun a hs => ?_
                        obtain ⟨rv146, h145, hsh⟩ := bind_t hsh
                        refine st_callR hs (record_Follows_ok h145 hw.dom (hw.envAt 1 rfl) (hw.envAt 0 rfl)) (do_call Try.call14 rfl) ⟨_, rfl, rfl⟩ rfl rfl ?_
                        intro v150 Sv147 w a h148 h149 hs
                        subst h149
                        have hw := hw.call h148
                        refine st_val hs (y_not rfl) ⟨_, rfl, rfl⟩ rfl rfl fun a hs => ?_
                        refine st_val hs (y_pickF rfl rfl) trivial rfl rfl fun a hs => ?_
                        refine wpList_nil ?_
                        have hsh := Option.some.inj hsh
                        subst hsh
                        refine then_normal ?_
                        exact ⟨Sv147, (hs.wk rfl), (hw.ft [6, 5, 4, 3] [5, 4, 1, 0] (by decide) rfl rfl)⟩
                    · rintro a w ⟨Sv144, hs, hw⟩
                      refine wpList_nil ?_
                      refine then_normal ?_
                      refine wp_cond_split (hs.ev rfl) (fun h152 => ?_) (fun h152 => ?_)
                      · have hsh := ite_t hsh h152
                        refine wp_seq ?_
                        refine wp_region_lit ?_
                        refine st_val hs (y_assign rfl) trivial rfl rfl fun a hs => ?_
                        refine wpList_nil ?_
                        refine then_normal ?_
                        have hsh := Option.some.inj hsh
                        subst hsh
                        refine wp_ret ?_
                        refine then_ret ?_
                        exact ret1 hs rfl (rv_tmp rfl) (hw.ret rfl)
                      · have hsh := ite_f hsh h152
                        refine wp_skip ?_
                        refine then_normal ?_
                        refine wp_seq ?_
                        refine wp_seq ?_
                        refine wp_region_lit ?_
                        refine st_val hs (y_fieldAddr (o' := 11) Try.runUnderlying32 rfl Try.sizeOf22 rfl rfl rfl) trivial rfl rfl fun a hs => ?_
                        refine st_val hs (y_loadB1 (hw.ownAt 1 rfl) rfl Try.isAgg22 rfl) trivial rfl rfl fun a hs => ?_
                        refine st_val hs (y_len Try.runUnderlying22 rfl) trivial rfl rfl fun a hs => ?_
                        refine st_val hs (y_move rfl) trivial rfl rfl fun a hs => ?_
                        refine wpList_nil ?_
                        refine then_normal ?_
                        refine wp_block ?_
                        refine wp_while (fun sv344 a w => ∃ (Sv470 : Nat → Prop), Sl 219 [(5, .pointer (some ⟨b28, 0, none⟩)), (6, .pointer (some ⟨b62, 0, none⟩)), (7, .int .i64 k80), (8, .pointer (some ⟨b93, 0, none⟩)), (10, .pointer (some ⟨b105, 0, none⟩)), (130, .int .i64 (rv48.1.Samples.length : Int)), (131, .int .i64 sv344)] a ∧ Wd ⟨w0, S0, []⟩ Sv470 [.box b28 [.slice p55 rv48.2.L.length k56, .int .i64 rv48.2.At] 60, .box b62 [.string rv48.1.Source.Network, .string rv48.1.Source.Station, .string rv48.1.Source.Location, .string rv48.1.Source.Channel, .int .i64 rv48.1.Start, .int .i64 rv48.1.First, .int .i64 rv48.1.Rate.Num, .int .i64 rv48.1.Rate.Den, .int .i64 rv48.1.Error, .int .i64 rv48.1.Run, .int .i64 rv48.1.Seq, .slice p49 rv48.1.Samples.length k50] 32, .box b93 [.string rv82.1.Source.Network, .string rv82.1.Source.Station, .string rv82.1.Source.Location, .string rv82.1.Source.Channel, .int .i64 rv82.1.Start, .int .i64 rv82.1.First, .int .i64 rv82.1.Rate.Num, .int .i64 rv82.1.Rate.Den, .int .i64 rv82.1.Error, .int .i64 rv82.1.Run, .int .i64 rv82.1.Seq, .slice p83 rv82.1.Samples.length k84] 32, .box b105 [.string rv95.1.Source.Network, .string rv95.1.Source.Station, .string rv95.1.Source.Location, .string rv95.1.Source.Channel, .int .i64 rv95.1.Start, .int .i64 rv95.1.First, .int .i64 rv95.1.Rate.Num, .int .i64 rv95.1.Rate.Den, .int .i64 rv95.1.Error, .int .i64 rv95.1.Run, .int .i64 rv95.1.Seq, .slice p96 rv95.1.Samples.length k97] 32] [SlA p55 rv48.2.L.length k56 rv48.2.L, SlA p49 rv48.1.Samples.length k50 rv48.1.Samples, SlA p83 rv82.1.Samples.length k84 rv82.1.Samples, SlA p96 rv95.1.Samples.length k97 rv95.1.Samples] w) 0 hsh ⟨Sv144, (hs.wk rfl), (hw.ft [0, 1, 2, 3] [0, 1, 2, 3] (by decide) rfl rfl)⟩ ?_
                        repeat clear hsh
                        rintro sv344 a w tv534 ⟨Sv470, hs, hw⟩ hsh hd533
                        delta law14_RecordParts_l2 at hsh
                        refine wp_seq ?_
                        refine wp_region_lit ?_
                        refine st_val hs (y_lss rfl rfl) trivial rfl rfl fun a hs => ?_
                        refine wpList_nil ?_
                        refine then_normal ?_
                        refine wp_seq ?_
                        refine wp_cond_split (hs.ev rfl) (fun h538 => ?_) (fun h538 => ?_)
                        · have hsh := ite_t hsh h538
                          refine wp_skip ?_
                          refine then_normal ?_
                          refine wp_seq ?_
                          refine wp_block ?_
                          refine wp_seq ?_
                          refine wp_region_lit ?_
                          refine st_val hs (y_move rfl) trivial rfl rfl fun a hs => ?_
                          refine st_val hs (y_assign rfl) trivial rfl rfl fun a hs => ?_
                          refine wpList_nil ?_
                          refine then_normal ?_
                          refine wp_seq ?_
                          refine wp_region_lit ?_
                          refine st_val hs (y_loadBA (hw.ownAt 1 rfl) rfl Try.isAgg32 Try.sizeOf32 rfl rfl) trivial rfl rfl fun a hs => ?_
                          refine st_val hs (y_move rfl) trivial rfl rfl fun a hs => ?_
                          obtain ⟨rv601, h600, hsh⟩ := bind_t hsh
                          refine st_callR hs (record_At_ok h600 hw.dom (hw.envAt 1 rfl)) (do_call Try.call15 rfl) trivial rfl rfl ?_
                          intro v605 Sv602 w a h603 h604 hs
                          subst h604
                          have hw := hw.call h603
                          refine st_val hs (y_move rfl) trivial rfl rfl fun a hs => ?_
                          refine st_val hs (y_extract rfl rfl) trivial rfl rfl fun a hs => ?_
                          refine st_val hs (y_extract rfl rfl) trivial rfl rfl fun a hs => ?_
                          refine st_val hs (y_assign rfl) trivial rfl rfl fun a hs => ?_
                          refine st_val hs (y_assign rfl) trivial rfl rfl fun a hs => ?_
                          refine wpList_nil ?_
                          refine then_normal ?_
                          refine wp_seq ?_
                          refine wp_region_lit ?_
                          refine st_val hs (y_loadBA (hw.ownAt 2 rfl) rfl Try.isAgg32 Try.sizeOf32 rfl rfl) trivial rfl rfl fun a hs => ?_
                          refine st_val hs (y_move rfl) trivial rfl rfl fun a hs => ?_
                          refine w_alloc (cs := [.string ByteArray.empty, .string ByteArray.empty, .string ByteArray.empty, .string ByteArray.empty, .int .i64 0, .int .i64 0, .int .i64 0, .int .i64 0, .int .i64 0, .int .i64 0, .int .i64 0, .slice none ([] : List Int).length 0]) hs hw Try.zeroValue32 rfl rfl trivial ?_
                          intro b606 a w hs hw
                          refine w_store (m := 12) (cs' := [.string rv82.1.Source.Network, .string rv82.1.Source.Station, .string rv82.1.Source.Location, .string rv82.1.Source.Channel, .int .i64 rv82.1.Start, .int .i64 rv82.1.First, .int .i64 rv82.1.Rate.Num, .int .i64 rv82.1.Rate.Den, .int .i64 rv82.1.Error, .int .i64 rv82.1.Run, .int .i64 rv82.1.Seq, .slice p83 rv82.1.Samples.length k84]) hs hw 0 rfl rfl rfl Try.sizeOf32 rfl rfl rfl rfl trivial ?_
                          intro a w hs hw
                          refine st_val hs (y_assign rfl) trivial rfl rfl fun a hs => ?_
                          refine wpList_nil ?_
                          refine then_normal ?_
                          refine wp_seq ?_
                          refine wp_seq ?_
                          refine wp_region_lit ?_
                          refine st_val hs (y_move rfl) trivial rfl rfl fun a hs => ?_
                          refine st_val hs (y_move rfl) trivial rfl rfl fun a hs => ?_
                          refine st_val hs (y_geq rfl rfl) trivial rfl rfl fun a hs => ?_
                          refine wpList_nil ?_
                          refine then_normal ?_
                          refine wp_join (fun a w => ∃ (x613 : ByteArray) (x614 : ByteArray) (x615 : ByteArray) (x616 : ByteArray) (x617 : Int) (x618 : Int) (x619 : Int) (x620 : Int) (x621 : Int) (x622 : Int) (x623 : Int) (x624 : (List Int)) (q625 : Int) (p610 : Option Addr) (k611 : Nat) (Sv612 : Nat → Prop), law14_RecordParts_j1 rv48 sv344 rv601 x613 x614 x615 x616 x617 x618 x619 x620 x621 x622 x623 x624 q625 = some tv534 ∧ Sl 219 [(5, .pointer (some ⟨b28, 0, none⟩)), (6, .pointer (some ⟨b62, 0, none⟩)), (7, .int .i64 k80), (8, .pointer (some ⟨b93, 0, none⟩)), (10, .pointer (some ⟨b105, 0, none⟩)), (18, .int .i64 sv344), (19, .int .i64 rv601.1), (20, .int .i64 rv601.2), (21, .pointer (some ⟨b606, 0, none⟩)), (22, .int .i64 q625), (130, .int .i64 (rv48.1.Samples.length : Int)), (131, .int .i64 sv344)] a ∧ Wd ⟨w0, S0, []⟩ Sv612 [.box b28 [.slice p55 rv48.2.L.length k56, .int .i64 rv48.2.At] 60, .box b62 [.string rv48.1.Source.Network, .string rv48.1.Source.Station, .string rv48.1.Source.Location, .string rv48.1.Source.Channel, .int .i64 rv48.1.Start, .int .i64 rv48.1.First, .int .i64 rv48.1.Rate.Num, .int .i64 rv48.1.Rate.Den, .int .i64 rv48.1.Error, .int .i64 rv48.1.Run, .int .i64 rv48.1.Seq, .slice p49 rv48.1.Samples.length k50] 32, .box b93 [.string rv82.1.Source.Network, .string rv82.1.Source.Station, .string rv82.1.Source.Location, .string rv82.1.Source.Channel, .int .i64 rv82.1.Start, .int .i64 rv82.1.First, .int .i64 rv82.1.Rate.Num, .int .i64 rv82.1.Rate.Den, .int .i64 rv82.1.Error, .int .i64 rv82.1.Run, .int .i64 rv82.1.Seq, .slice p83 rv82.1.Samples.length k84] 32, .box b105 [.string rv95.1.Source.Network, .string rv95.1.Source.Station, .string rv95.1.Source.Location, .string rv95.1.Source.Channel, .int .i64 rv95.1.Start, .int .i64 rv95.1.First, .int .i64 rv95.1.Rate.Num, .int .i64 rv95.1.Rate.Den, .int .i64 rv95.1.Error, .int .i64 rv95.1.Run, .int .i64 rv95.1.Seq, .slice p96 rv95.1.Samples.length k97] 32, .box b606 [.string x613, .string x614, .string x615, .string x616, .int .i64 x617, .int .i64 x618, .int .i64 x619, .int .i64 x620, .int .i64 x621, .int .i64 x622, .int .i64 x623, .slice p610 x624.length k611] 32] [SlA p55 rv48.2.L.length k56 rv48.2.L, SlA p49 rv48.1.Samples.length k50 rv48.1.Samples, SlA p83 rv82.1.Samples.length k84 rv82.1.Samples, SlA p96 rv95.1.Samples.length k97 rv95.1.Samples, SlA p610 x624.length k611 x624] w) ?_ ?_
                          · refine wp_cond_split (hs.ev rfl) (fun h788 => ?_) (fun h788 => ?_)
                            · have hsh := ite_t hsh h788
                              refine wp_region_lit ?_
                              refine st_val hs (y_loadBA (hw.ownAt 4 rfl) rfl Try.isAgg32 Try.sizeOf32 rfl rfl) trivial rfl rfl fun a hs => ?_
                              refine st_val hs (y_move rfl) trivial rfl rfl fun a hs => ?_
                              refine st_val hs (y_move rfl) trivial rfl rfl fun a hs => ?_
                              refine st_val hs (y_sub rfl rfl) trivial rfl rfl fun a hs => ?_
                              refine w_store (m := 12) (cs' := [.string rv95.1.Source.Network, .string rv95.1.Source.Station, .string rv95.1.Source.Location, .string rv95.1.Source.Channel, .int .i64 rv95.1.Start, .int .i64 rv95.1.First, .int .i64 rv95.1.Rate.Num, .int .i64 rv95.1.Rate.Den, .int .i64 rv95.1.Error, .int .i64 rv95.1.Run, .int .i64 rv95.1.Seq, .slice p96 rv95.1.Samples.length k97]) hs hw 0 rfl rfl rfl Try.sizeOf32 rfl rfl rfl rfl trivial ?_
                              intro a w hs hw
                              obtain ⟨q790, h789, hsh⟩ := bind_t hsh
                              refine st_val hs (y_assignI rfl h789) trivial rfl rfl fun a hs => ?_
                              refine wpList_nil ?_
                              refine then_normal ?_
                              exact ⟨rv95.1.Source.Network, rv95.1.Source.Station, rv95.1.Source.Location, rv95.1.Source.Channel, rv95.1.Start, rv95.1.First, rv95.1.Rate.Num, rv95.1.Rate.Den, rv95.1.Error, rv95.1.Run, rv95.1.Seq, rv95.1.Samples, q790, p96, k97, Sv602, hsh, (hs.wk rfl), (hw.ft [1, 2, 3, 4, 0] [0, 1, 2, 3, 3] (by decide) rfl rfl)⟩
                            · have hsh := ite_f hsh h788
                              refine wp_skip ?_
                              refine then_normal ?_
                              exact ⟨rv82.1.Source.Network, rv82.1.Source.Station, rv82.1.Source.Location, rv82.1.Source.Channel, rv82.1.Start, rv82.1.First, rv82.1.Rate.Num, rv82.1.Rate.Den, rv82.1.Error, rv82.1.Run, rv82.1.Seq, rv82.1.Samples, sv344, p83, k84, Sv602, hsh, (hs.wk rfl), (hw.ft [1, 2, 3, 4, 0] [0, 1, 2, 3, 2] (by decide) rfl rfl)⟩
                          · rintro a w ⟨x613, x614, x615, x616, x617, x618, x619, x620, x621, x622, x623, x624, q625, p610, k611, Sv612, hsh, hs, hw⟩
                            delta law14_RecordParts_j1 at hsh
                            refine then_normal ?_
                            refine wp_seq ?_
                            refine wp_region_lit ?_
                            refine st_val hs (y_loadBA (hw.ownAt 4 rfl) rfl Try.isAgg32 Try.sizeOf32 rfl rfl) trivial rfl rfl fun a hs => ?_
                            refine st_val hs (y_move rfl) trivial rfl rfl fun a hs => ?_
                            obtain ⟨rv627, h626, hsh⟩ := bind_t hsh
                            refine st_callR hs (record_At_ok h626 hw.dom (hw.envAt 4 rfl)) (do_call Try.call15 rfl) trivial rfl rfl ?_
                            intro v631 Sv628 w a h629 h630 hs
                            subst h630
                            have hw := hw.call h629
                            refine st_val hs (y_move rfl) trivial rfl rfl fun a hs => ?_
                            refine st_val hs (y_extract rfl rfl) trivial rfl rfl fun a hs => ?_
                            refine st_val hs (y_extract rfl rfl) trivial rfl rfl fun a hs => ?_
                            refine st_val hs (y_assign rfl) trivial rfl rfl fun a hs => ?_
                            refine st_val hs (y_assign rfl) trivial rfl rfl fun a hs => ?_
                            refine wpList_nil ?_
                            refine then_normal ?_
                            refine wp_seq ?_
                            obtain ⟨c658, hc658, hsh⟩ := bind_t hsh
                            refine wp_only (fun a w => ∃ (Sv659 : Nat → Prop), Sl 219 [(5, .pointer (some ⟨b28, 0, none⟩)), (6, .pointer (some ⟨b62, 0, none⟩)), (7, .int .i64 k80), (8, .pointer (some ⟨b93, 0, none⟩)), (10, .pointer (some ⟨b105, 0, none⟩)), (130, .int .i64 (rv48.1.Samples.length : Int)), (131, .int .i64 sv344), (178, .bool c658)] a ∧ Wd ⟨w0, S0, []⟩ Sv659 [.box b28 [.slice p55 rv48.2.L.length k56, .int .i64 rv48.2.At] 60, .box b62 [.string rv48.1.Source.Network, .string rv48.1.Source.Station, .string rv48.1.Source.Location, .string rv48.1.Source.Channel, .int .i64 rv48.1.Start, .int .i64 rv48.1.First, .int .i64 rv48.1.Rate.Num, .int .i64 rv48.1.Rate.Den, .int .i64 rv48.1.Error, .int .i64 rv48.1.Run, .int .i64 rv48.1.Seq, .slice p49 rv48.1.Samples.length k50] 32, .box b93 [.string rv82.1.Source.Network, .string rv82.1.Source.Station, .string rv82.1.Source.Location, .string rv82.1.Source.Channel, .int .i64 rv82.1.Start, .int .i64 rv82.1.First, .int .i64 rv82.1.Rate.Num, .int .i64 rv82.1.Rate.Den, .int .i64 rv82.1.Error, .int .i64 rv82.1.Run, .int .i64 rv82.1.Seq, .slice p83 rv82.1.Samples.length k84] 32, .box b105 [.string rv95.1.Source.Network, .string rv95.1.Source.Station, .string rv95.1.Source.Location, .string rv95.1.Source.Channel, .int .i64 rv95.1.Start, .int .i64 rv95.1.First, .int .i64 rv95.1.Rate.Num, .int .i64 rv95.1.Rate.Den, .int .i64 rv95.1.Error, .int .i64 rv95.1.Run, .int .i64 rv95.1.Seq, .slice p96 rv95.1.Samples.length k97] 32] [SlA p55 rv48.2.L.length k56 rv48.2.L, SlA p49 rv48.1.Samples.length k50 rv48.1.Samples, SlA p83 rv82.1.Samples.length k84 rv82.1.Samples, SlA p96 rv95.1.Samples.length k97 rv95.1.Samples] w) ?_ ?_
                            · rcases Bool.eq_false_or_eq_true (rv601.2 != 0) with h660 | h660
                              · rcases Bool.eq_false_or_eq_true ((rv601.2 != 0) || (rv627.2 != 0)) with h662 | h662
                                · rcases Bool.eq_false_or_eq_true (((rv601.2 != 0) || (rv627.2 != 0)) || (rv601.1 != rv627.1)) with h664 | h664
                                  · have h665 := ite_t hc658 h664
                                    refine h_begin (C := Cls [.box b28 [.slice p55 rv48.2.L.length k56, .int .i64 rv48.2.At] 60, .box b62 [.string rv48.1.Source.Network, .string rv48.1.Source.Station, .string rv48.1.Source.Location, .string rv48.1.Source.Channel, .int .i64 rv48.1.Start, .int .i64 rv48.1.First, .int .i64 rv48.1.Rate.Num, .int .i64 rv48.1.Rate.Den, .int .i64 rv48.1.Error, .int .i64 rv48.1.Run, .int .i64 rv48.1.Seq, .slice p49 rv48.1.Samples.length k50] 32, .box b93 [.string rv82.1.Source.Network, .string rv82.1.Source.Station, .string rv82.1.Source.Location, .string rv82.1.Source.Channel, .int .i64 rv82.1.Start, .int .i64 rv82.1.First, .int .i64 rv82.1.Rate.Num, .int .i64 rv82.1.Rate.Den, .int .i64 rv82.1.Error, .int .i64 rv82.1.Run, .int .i64 rv82.1.Seq, .slice p83 rv82.1.Samples.length k84] 32, .box b105 [.string rv95.1.Source.Network, .string rv95.1.Source.Station, .string rv95.1.Source.Location, .string rv95.1.Source.Channel, .int .i64 rv95.1.Start, .int .i64 rv95.1.First, .int .i64 rv95.1.Rate.Num, .int .i64 rv95.1.Rate.Den, .int .i64 rv95.1.Error, .int .i64 rv95.1.Run, .int .i64 rv95.1.Seq, .slice p96 rv95.1.Samples.length k97] 32, .box b606 [.string x613, .string x614, .string x615, .string x616, .int .i64 x617, .int .i64 x618, .int .i64 x619, .int .i64 x620, .int .i64 x621, .int .i64 x622, .int .i64 x623, .slice p610 x624.length k611] 32] []) (by kernel_rfl) rfl ?_
                                    have hw := hw.drew
                                    have hC : Cls [.box b28 [.slice p55 rv48.2.L.length k56, .int .i64 rv48.2.At] 60, .box b62 [.string rv48.1.Source.Network, .string rv48.1.Source.Station, .string rv48.1.Source.Location, .string rv48.1.Source.Channel, .int .i64 rv48.1.Start, .int .i64 rv48.1.First, .int .i64 rv48.1.Rate.Num, .int .i64 rv48.1.Rate.Den, .int .i64 rv48.1.Error, .int .i64 rv48.1.Run, .int .i64 rv48.1.Seq, .slice p49 rv48.1.Samples.length k50] 32, .box b93 [.string rv82.1.Source.Network, .string rv82.1.Source.Station, .string rv82.1.Source.Location, .string rv82.1.Source.Channel, .int .i64 rv82.1.Start, .int .i64 rv82.1.First, .int .i64 rv82.1.Rate.Num, .int .i64 rv82.1.Rate.Den, .int .i64 rv82.1.Error, .int .i64 rv82.1.Run, .int .i64 rv82.1.Seq, .slice p83 rv82.1.Samples.length k84] 32, .box b105 [.string rv95.1.Source.Network, .string rv95.1.Source.Station, .string rv95.1.Source.Location, .string rv95.1.Source.Channel, .int .i64 rv95.1.Start, .int .i64 rv95.1.First, .int .i64 rv95.1.Rate.Num, .int .i64 rv95.1.Rate.Den, .int .i64 rv95.1.Error, .int .i64 rv95.1.Run, .int .i64 rv95.1.Seq, .slice p96 rv95.1.Samples.length k97] 32, .box b606 [.string x613, .string x614, .string x615, .string x616, .int .i64 x617, .int .i64 x618, .int .i64 x619, .int .i64 x620, .int .i64 x621, .int .i64 x622, .int .i64 x623, .slice p610 x624.length k611] 32] [] _ := hw.cs [0, 1, 2, 3, 4] [] rfl rfl
                                    refine h_get hs (i := 0) rfl (by kernel_rfl) rfl rfl hC rfl (fun w hC => y_move rfl) fun a hs => ?_
                                    refine h_get hs (i := 1) rfl (by kernel_rfl) rfl rfl hC rfl (fun w hC => y_neq rfl rfl) fun a hs => ?_
                                    refine h_get hs (i := 2) rfl (by kernel_rfl) rfl rfl hC rfl (fun w hC => y_move rfl) fun a hs => ?_
                                    have hs := hs.fix 157 (.bool true) rfl (vb h660)
                                    refine h_skip hs (i := 3) rfl (by kernel_rfl) (by kernel_rfl) (by kernel_rfl) rfl rfl rfl (by first | exact .inl rfl | exact .inr rfl) rfl rfl hC fun a hs => ?_
                                    refine h_skip hs (i := 4) rfl (by kernel_rfl) (by kernel_rfl) (by kernel_rfl) rfl rfl rfl (by first | exact .inl rfl | exact .inr rfl) rfl rfl hC fun a hs => ?_
                                    refine h_get hs (i := 5) rfl (by kernel_rfl) rfl rfl hC rfl (fun w hC => y_pickTE (v := .bool ((rv601.2 != 0) || (rv627.2 != 0))) rfl rfl (or_t h660)) fun a hs => ?_
                                    refine h_get hs (i := 6) rfl (by kernel_rfl) rfl rfl hC rfl (fun w hC => y_move rfl) fun a hs => ?_
                                    have hs := hs.fix 161 (.bool true) rfl (vb h662)
                                    refine h_skip hs (i := 7) rfl (by kernel_rfl) (by kernel_rfl) (by kernel_rfl) rfl rfl rfl (by first | exact .inl rfl | exact .inr rfl) rfl rfl hC fun a hs => ?_
                                    refine h_skip hs (i := 8) rfl (by kernel_rfl) (by kernel_rfl) (by kernel_rfl) rfl rfl rfl (by first | exact .inl rfl | exact .inr rfl) rfl rfl hC fun a hs => ?_
                                    refine h_skip hs (i := 9) rfl (by kernel_rfl) (by kernel_rfl) (by kernel_rfl) rfl rfl rfl (by first | exact .inl rfl | exact .inr rfl) rfl rfl hC fun a hs => ?_
                                    refine h_get hs (i := 10) rfl (by kernel_rfl) rfl rfl hC rfl (fun w hC => y_pickTE (v := .bool (((rv601.2 != 0) || (rv627.2 != 0)) || (rv601.1 != rv627.1))) rfl rfl (or_t h662)) fun a hs => ?_
                                    refine h_get hs (i := 11) rfl (by kernel_rfl) rfl rfl hC rfl (fun w hC => y_move rfl) fun a hs => ?_
                                    have hs := hs.fix 166 (.bool true) rfl (vb h664)
                                    refine h_skip hs (i := 12) rfl (by kernel_rfl) (by kernel_rfl) (by kernel_rfl) rfl rfl rfl (by first | exact .inl rfl | exact .inr rfl) rfl rfl hC fun a hs => ?_
                                    refine h_skip hs (i := 13) rfl (by kernel_rfl) (by kernel_rfl) (by kernel_rfl) rfl rfl rfl (by first | exact .inl rfl | exact .inr rfl) rfl rfl hC fun a hs => ?_
                                    refine h_skip hs (i := 14) rfl (by kernel_rfl) (by kernel_rfl) (by kernel_rfl) rfl rfl rfl (by first | exact .inl rfl | exact .inr rfl) rfl rfl hC fun a hs => ?_
                                    refine h_skip hs (i := 15) rfl (by kernel_rfl) (by kernel_rfl) (by kernel_rfl) rfl rfl rfl (by first | exact .inl rfl | exact .inr rfl) rfl rfl hC fun a hs => ?_
                                    refine h_skip hs (i := 16) rfl (by kernel_rfl) (by kernel_rfl) (by kernel_rfl) rfl rfl rfl (by first | exact .inl rfl | exact .inr rfl) rfl rfl hC fun a hs => ?_
                                    refine h_skip hs (i := 17) rfl (by kernel_rfl) (by kernel_rfl) (by kernel_rfl) rfl rfl rfl (by first | exact .inl rfl | exact .inr rfl) rfl rfl hC fun a hs => ?_
                                    refine h_skip hs (i := 18) rfl (by kernel_rfl) (by kernel_rfl) (by kernel_rfl) rfl rfl rfl (by first | exact .inl rfl | exact .inr rfl) rfl rfl hC fun a hs => ?_
                                    refine h_skip hs (i := 19) rfl (by kernel_rfl) (by kernel_rfl) (by kernel_rfl) rfl rfl rfl (by first | exact .inl rfl | exact .inr rfl) rfl rfl hC fun a hs => ?_
                                    refine h_skip hs (i := 20) rfl (by kernel_rfl) (by kernel_rfl) (by kernel_rfl) rfl rfl rfl (by first | exact .inl rfl | exact .inr rfl) rfl rfl hC fun a hs => ?_
                                    refine h_skip hs (i := 21) rfl (by kernel_rfl) (by kernel_rfl) (by kernel_rfl) rfl rfl rfl (by first | exact .inl rfl | exact .inr rfl) rfl rfl hC fun a hs => ?_
                                    refine h_skip hs (i := 22) rfl (by kernel_rfl) (by kernel_rfl) (by kernel_rfl) rfl rfl rfl (by first | exact .inl rfl | exact .inr rfl) rfl rfl hC fun a hs => ?_
                                    refine h_get hs (i := 23) rfl (by kernel_rfl) rfl rfl hC rfl (fun w hC => y_pickTE (v := .bool c658) rfl rfl (vbs h665)) fun a hs => ?_
                                    refine h_done (by kernel_rfl) ?_
                                    exact ⟨Sv628, (hs.wk rfl), (hw.ft [0, 1, 2, 3] [0, 1, 2, 3] (by decide) rfl rfl)⟩
                                  · have h666 := ite_f hc658 h664
                                    obtain ⟨x669, h667, h666⟩ := bind_t h666
                                    obtain ⟨b675, o676, q673, c674, h677, h670, h671, h672, h668⟩ := hw.elemV 4 rfl h667
                                    have hsv678 := hs
                                    have hwv679 := hw
                                    subst h677
                                    have hs := hsv678
                                    have hw := hwv679
                                    obtain ⟨_, rfl, rfl⟩ := h668
                                    have hw := hw.addE h672
                                    obtain ⟨x682, h680, h666⟩ := bind_t h666
                                    obtain ⟨b688, o689, q686, c687, h690, h683, h684, h685, h681⟩ := hw.elemV 2 rfl h680
                                    have hsv691 := hs
                                    have hwv692 := hw
                                    subst h690
                                    have hs := hsv691
                                    have hw := hwv692
                                    obtain ⟨_, rfl, rfl⟩ := h681
                                    have hw := hw.addE h685
                                    refine h_begin (C := Cls [.box b28 [.slice p55 rv48.2.L.length k56, .int .i64 rv48.2.At] 60, .box b62 [.string rv48.1.Source.Network, .string rv48.1.Source.Station, .string rv48.1.Source.Location, .string rv48.1.Source.Channel, .int .i64 rv48.1.Start, .int .i64 rv48.1.First, .int .i64 rv48.1.Rate.Num, .int .i64 rv48.1.Rate.Den, .int .i64 rv48.1.Error, .int .i64 rv48.1.Run, .int .i64 rv48.1.Seq, .slice (some ⟨b688, o689, none⟩) rv48.1.Samples.length k50] 32, .box b93 [.string rv82.1.Source.Network, .string rv82.1.Source.Station, .string rv82.1.Source.Location, .string rv82.1.Source.Channel, .int .i64 rv82.1.Start, .int .i64 rv82.1.First, .int .i64 rv82.1.Rate.Num, .int .i64 rv82.1.Rate.Den, .int .i64 rv82.1.Error, .int .i64 rv82.1.Run, .int .i64 rv82.1.Seq, .slice p83 rv82.1.Samples.length k84] 32, .box b105 [.string rv95.1.Source.Network, .string rv95.1.Source.Station, .string rv95.1.Source.Location, .string rv95.1.Source.Channel, .int .i64 rv95.1.Start, .int .i64 rv95.1.First, .int .i64 rv95.1.Rate.Num, .int .i64 rv95.1.Rate.Den, .int .i64 rv95.1.Error, .int .i64 rv95.1.Run, .int .i64 rv95.1.Seq, .slice p96 rv95.1.Samples.length k97] 32, .box b606 [.string x613, .string x614, .string x615, .string x616, .int .i64 x617, .int .i64 x618, .int .i64 x619, .int .i64 x620, .int .i64 x621, .int .i64 x622, .int .i64 x623, .slice (some ⟨b675, o676, none⟩) x624.length k611] 32] [CeA b688 q686 [.int .i64 x682], CeA b675 q673 [.int .i64 x669]]) (by kernel_rfl) rfl ?_
                                    have hw := hw.drew
                                    have hC : Cls [.box b28 [.slice p55 rv48.2.L.length k56, .int .i64 rv48.2.At] 60, .box b62 [.string rv48.1.Source.Network, .string rv48.1.Source.Station, .string rv48.1.Source.Location, .string rv48.1.Source.Channel, .int .i64 rv48.1.Start, .int .i64 rv48.1.First, .int .i64 rv48.1.Rate.Num, .int .i64 rv48.1.Rate.Den, .int .i64 rv48.1.Error, .int .i64 rv48.1.Run, .int .i64 rv48.1.Seq, .slice (some ⟨b688, o689, none⟩) rv48.1.Samples.length k50] 32, .box b93 [.string rv82.1.Source.Network, .string rv82.1.Source.Station, .string rv82.1.Source.Location, .string rv82.1.Source.Channel, .int .i64 rv82.1.Start, .int .i64 rv82.1.First, .int .i64 rv82.1.Rate.Num, .int .i64 rv82.1.Rate.Den, .int .i64 rv82.1.Error, .int .i64 rv82.1.Run, .int .i64 rv82.1.Seq, .slice p83 rv82.1.Samples.length k84] 32, .box b105 [.string rv95.1.Source.Network, .string rv95.1.Source.Station, .string rv95.1.Source.Location, .string rv95.1.Source.Channel, .int .i64 rv95.1.Start, .int .i64 rv95.1.First, .int .i64 rv95.1.Rate.Num, .int .i64 rv95.1.Rate.Den, .int .i64 rv95.1.Error, .int .i64 rv95.1.Run, .int .i64 rv95.1.Seq, .slice p96 rv95.1.Samples.length k97] 32, .box b606 [.string x613, .string x614, .string x615, .string x616, .int .i64 x617, .int .i64 x618, .int .i64 x619, .int .i64 x620, .int .i64 x621, .int .i64 x622, .int .i64 x623, .slice (some ⟨b675, o676, none⟩) x624.length k611] 32] [CeA b688 q686 [.int .i64 x682], CeA b675 q673 [.int .i64 x669]] _ := hw.cs [0, 1, 2, 3, 4] [0, 1] rfl rfl
                                    refine h_get hs (i := 0) rfl (by kernel_rfl) rfl rfl hC rfl (fun w hC => y_move rfl) fun a hs => ?_
                                    refine h_get hs (i := 1) rfl (by kernel_rfl) rfl rfl hC rfl (fun w hC => y_neq rfl rfl) fun a hs => ?_
                                    refine h_get hs (i := 2) rfl (by kernel_rfl) rfl rfl hC rfl (fun w hC => y_move rfl) fun a hs => ?_
                                    have hs := hs.fix 157 (.bool true) rfl (vb h660)
                                    refine h_skip hs (i := 3) rfl (by kernel_rfl) (by kernel_rfl) (by kernel_rfl) rfl rfl rfl (by first | exact .inl rfl | exact .inr rfl) rfl rfl hC fun a hs => ?_
                                    refine h_skip hs (i := 4) rfl (by kernel_rfl) (by kernel_rfl) (by kernel_rfl) rfl rfl rfl (by first | exact .inl rfl | exact .inr rfl) rfl rfl hC fun a hs => ?_
                                    refine h_get hs (i := 5) rfl (by kernel_rfl) rfl rfl hC rfl (fun w hC => y_pickTE (v := .bool ((rv601.2 != 0) || (rv627.2 != 0))) rfl rfl (or_t h660)) fun a hs => ?_
                                    refine h_get hs (i := 6) rfl (by kernel_rfl) rfl rfl hC rfl (fun w hC => y_move rfl) fun a hs => ?_
                                    have hs := hs.fix 161 (.bool true) rfl (vb h662)
                                    refine h_skip hs (i := 7) rfl (by kernel_rfl) (by kernel_rfl) (by kernel_rfl) rfl rfl rfl (by first | exact .inl rfl | exact .inr rfl) rfl rfl hC fun a hs => ?_
                                    refine h_skip hs (i := 8) rfl (by kernel_rfl) (by kernel_rfl) (by kernel_rfl) rfl rfl rfl (by first | exact .inl rfl | exact .inr rfl) rfl rfl hC fun a hs => ?_
                                    refine h_skip hs (i := 9) rfl (by kernel_rfl) (by kernel_rfl) (by kernel_rfl) rfl rfl rfl (by first | exact .inl rfl | exact .inr rfl) rfl rfl hC fun a hs => ?_
                                    refine h_get hs (i := 10) rfl (by kernel_rfl) rfl rfl hC rfl (fun w hC => y_pickTE (v := .bool (((rv601.2 != 0) || (rv627.2 != 0)) || (rv601.1 != rv627.1))) rfl rfl (or_t h662)) fun a hs => ?_
                                    refine h_get hs (i := 11) rfl (by kernel_rfl) rfl rfl hC rfl (fun w hC => y_move rfl) fun a hs => ?_
                                    have hs := hs.fix 166 (.bool false) rfl (vb h664)
                                    refine h_take hs (i := 12) rfl (by kernel_rfl) (by kernel_rfl) (by kernel_rfl) ⟨_, rfl, rfl⟩ rfl rfl hC (fun w hC => y_fieldAddr (o' := 11) Try.runUnderlying32 rfl Try.sizeOf22 rfl rfl rfl) fun a hs => ?_
                                    refine h_take hs (i := 13) rfl (by kernel_rfl) (by kernel_rfl) (by kernel_rfl) ⟨_, rfl, rfl⟩ rfl rfl hC (fun w hC => y_loadB1 (hC.ownAt 4 rfl) rfl Try.isAgg22 rfl) fun a hs => ?_
                                    refine h_take hs (i := 14) rfl (by kernel_rfl) (by kernel_rfl) (by kernel_rfl) ⟨_, rfl, rfl⟩ rfl rfl hC (fun w hC => y_move rfl) fun a hs => ?_
                                    refine h_take hs (i := 15) rfl (by kernel_rfl) (by kernel_rfl) (by kernel_rfl) ⟨_, rfl, rfl⟩ rfl rfl hC (fun w hC => y_indexAt Try.runUnderlying22 Try.sizeOf3 rfl rfl h670.1 h670.2 h671) fun a hs => ?_
                                    refine h_take hs (i := 16) rfl (by kernel_rfl) (by kernel_rfl) (by kernel_rfl) ⟨_, rfl, rfl⟩ rfl rfl hC (fun w hC => y_loadE1 (j := 0) (hC.ceAt 1 rfl) rfl Try.isAgg3 rfl) fun a hs => ?_
                                    refine h_take hs (i := 17) rfl (by kernel_rfl) (by kernel_rfl) (by kernel_rfl) ⟨_, rfl, rfl⟩ rfl rfl hC (fun w hC => y_fieldAddr (o' := 11) Try.runUnderlying32 rfl Try.sizeOf22 rfl rfl rfl) fun a hs => ?_
                                    refine h_take hs (i := 18) rfl (by kernel_rfl) (by kernel_rfl) (by kernel_rfl) ⟨_, rfl, rfl⟩ rfl rfl hC (fun w hC => y_loadB1 (hC.ownAt 1 rfl) rfl Try.isAgg22 rfl) fun a hs => ?_
                                    refine h_take hs (i := 19) rfl (by kernel_rfl) (by kernel_rfl) (by kernel_rfl) ⟨_, rfl, rfl⟩ rfl rfl hC (fun w hC => y_move rfl) fun a hs => ?_
                                    refine h_take hs (i := 20) rfl (by kernel_rfl) (by kernel_rfl) (by kernel_rfl) ⟨_, rfl, rfl⟩ rfl rfl hC (fun w hC => y_indexAt Try.runUnderlying22 Try.sizeOf3 rfl rfl h683.1 h683.2 h684) fun a hs => ?_
                                    refine h_take hs (i := 21) rfl (by kernel_rfl) (by kernel_rfl) (by kernel_rfl) ⟨_, rfl, rfl⟩ rfl rfl hC (fun w hC => y_loadE1 (j := 0) (hC.ceAt 0 rfl) rfl Try.isAgg3 rfl) fun a hs => ?_
                                    refine h_take hs (i := 22) rfl (by kernel_rfl) (by kernel_rfl) (by kernel_rfl) ⟨_, rfl, rfl⟩ rfl rfl hC (fun w hC => y_neq rfl rfl) fun a hs => ?_
                                    refine h_get hs (i := 23) rfl (by kernel_rfl) rfl rfl hC rfl (fun w hC => y_pickFE (v := .bool c658) rfl rfl (vbs h666)) fun a hs => ?_
                                    refine h_done (by kernel_rfl) ?_
                                    exact ⟨Sv628, (hs.wk rfl), (hw.ft [0, 1, 2, 3] [2, 3, 4, 5] (by decide) rfl rfl)⟩
                                · rcases Bool.eq_false_or_eq_true (((rv601.2 != 0) || (rv627.2 != 0)) || (rv601.1 != rv627.1)) with h694 | h694
                                  · have h695 := ite_t hc658 h694
                                    refine h_begin (C := Cls [.box b28 [.slice p55 rv48.2.L.length k56, .int .i64 rv48.2.At] 60, .box b62 [.string rv48.1.Source.Network, .string rv48.1.Source.Station, .string rv48.1.Source.Location, .string rv48.1.Source.Channel, .int .i64 rv48.1.Start, .int .i64 rv48.1.First, .int .i64 rv48.1.Rate.Num, .int .i64 rv48.1.Rate.Den, .int .i64 rv48.1.Error, .int .i64 rv48.1.Run, .int .i64 rv48.1.Seq, .slice p49 rv48.1.Samples.length k50] 32, .box b93 [.string rv82.1.Source.Network, .string rv82.1.Source.Station, .string rv82.1.Source.Location, .string rv82.1.Source.Channel, .int .i64 rv82.1.Start, .int .i64 rv82.1.First, .int .i64 rv82.1.Rate.Num, .int .i64 rv82.1.Rate.Den, .int .i64 rv82.1.Error, .int .i64 rv82.1.Run, .int .i64 rv82.1.Seq, .slice p83 rv82.1.Samples.length k84] 32, .box b105 [.string rv95.1.Source.Network, .string rv95.1.Source.Station, .string rv95.1.Source.Location, .string rv95.1.Source.Channel, .int .i64 rv95.1.Start, .int .i64 rv95.1.First, .int .i64 rv95.1.Rate.Num, .int .i64 rv95.1.Rate.Den, .int .i64 rv95.1.Error, .int .i64 rv95.1.Run, .int .i64 rv95.1.Seq, .slice p96 rv95.1.Samples.length k97] 32, .box b606 [.string x613, .string x614, .string x615, .string x616, .int .i64 x617, .int .i64 x618, .int .i64 x619, .int .i64 x620, .int .i64 x621, .int .i64 x622, .int .i64 x623, .slice p610 x624.length k611] 32] []) (by kernel_rfl) rfl ?_
                                    have hw := hw.drew
                                    have hC : Cls [.box b28 [.slice p55 rv48.2.L.length k56, .int .i64 rv48.2.At] 60, .box b62 [.string rv48.1.Source.Network, .string rv48.1.Source.Station, .string rv48.1.Source.Location, .string rv48.1.Source.Channel, .int .i64 rv48.1.Start, .int .i64 rv48.1.First, .int .i64 rv48.1.Rate.Num, .int .i64 rv48.1.Rate.Den, .int .i64 rv48.1.Error, .int .i64 rv48.1.Run, .int .i64 rv48.1.Seq, .slice p49 rv48.1.Samples.length k50] 32, .box b93 [.string rv82.1.Source.Network, .string rv82.1.Source.Station, .string rv82.1.Source.Location, .string rv82.1.Source.Channel, .int .i64 rv82.1.Start, .int .i64 rv82.1.First, .int .i64 rv82.1.Rate.Num, .int .i64 rv82.1.Rate.Den, .int .i64 rv82.1.Error, .int .i64 rv82.1.Run, .int .i64 rv82.1.Seq, .slice p83 rv82.1.Samples.length k84] 32, .box b105 [.string rv95.1.Source.Network, .string rv95.1.Source.Station, .string rv95.1.Source.Location, .string rv95.1.Source.Channel, .int .i64 rv95.1.Start, .int .i64 rv95.1.First, .int .i64 rv95.1.Rate.Num, .int .i64 rv95.1.Rate.Den, .int .i64 rv95.1.Error, .int .i64 rv95.1.Run, .int .i64 rv95.1.Seq, .slice p96 rv95.1.Samples.length k97] 32, .box b606 [.string x613, .string x614, .string x615, .string x616, .int .i64 x617, .int .i64 x618, .int .i64 x619, .int .i64 x620, .int .i64 x621, .int .i64 x622, .int .i64 x623, .slice p610 x624.length k611] 32] [] _ := hw.cs [0, 1, 2, 3, 4] [] rfl rfl
                                    refine h_get hs (i := 0) rfl (by kernel_rfl) rfl rfl hC rfl (fun w hC => y_move rfl) fun a hs => ?_
                                    refine h_get hs (i := 1) rfl (by kernel_rfl) rfl rfl hC rfl (fun w hC => y_neq rfl rfl) fun a hs => ?_
                                    refine h_get hs (i := 2) rfl (by kernel_rfl) rfl rfl hC rfl (fun w hC => y_move rfl) fun a hs => ?_
                                    have hs := hs.fix 157 (.bool true) rfl (vb h660)
                                    refine h_skip hs (i := 3) rfl (by kernel_rfl) (by kernel_rfl) (by kernel_rfl) rfl rfl rfl (by first | exact .inl rfl | exact .inr rfl) rfl rfl hC fun a hs => ?_
                                    refine h_skip hs (i := 4) rfl (by kernel_rfl) (by kernel_rfl) (by kernel_rfl) rfl rfl rfl (by first | exact .inl rfl | exact .inr rfl) rfl rfl hC fun a hs => ?_
                                    refine h_get hs (i := 5) rfl (by kernel_rfl) rfl rfl hC rfl (fun w hC => y_pickTE (v := .bool ((rv601.2 != 0) || (rv627.2 != 0))) rfl rfl (or_t h660)) fun a hs => ?_
                                    refine h_get hs (i := 6) rfl (by kernel_rfl) rfl rfl hC rfl (fun w hC => y_move rfl) fun a hs => ?_
                                    have hs := hs.fix 161 (.bool false) rfl (vb h662)
                                    refine h_take hs (i := 7) rfl (by kernel_rfl) (by kernel_rfl) (by kernel_rfl) ⟨_, rfl, rfl⟩ rfl rfl hC (fun w hC => y_move rfl) fun a hs => ?_
                                    refine h_take hs (i := 8) rfl (by kernel_rfl) (by kernel_rfl) (by kernel_rfl) ⟨_, rfl, rfl⟩ rfl rfl hC (fun w hC => y_move rfl) fun a hs => ?_
                                    refine h_take hs (i := 9) rfl (by kernel_rfl) (by kernel_rfl) (by kernel_rfl) ⟨_, rfl, rfl⟩ rfl rfl hC (fun w hC => y_neq rfl rfl) fun a hs => ?_
                                    refine h_get hs (i := 10) rfl (by kernel_rfl) rfl rfl hC rfl (fun w hC => y_pickFE (v := .bool (((rv601.2 != 0) || (rv627.2 != 0)) || (rv601.1 != rv627.1))) rfl rfl (or_f h662)) fun a hs => ?_
                                    refine h_get hs (i := 11) rfl (by kernel_rfl) rfl rfl hC rfl (fun w hC => y_move rfl) fun a hs => ?_
                                    have hs := hs.fix 166 (.bool true) rfl (vb h694)
                                    refine h_skip hs (i := 12) rfl (by kernel_rfl) (by kernel_rfl) (by kernel_rfl) rfl rfl rfl (by first | exact .inl rfl | exact .inr rfl) rfl rfl hC fun a hs => ?_
                                    refine h_skip hs (i := 13) rfl (by kernel_rfl) (by kernel_rfl) (by kernel_rfl) rfl rfl rfl (by first | exact .inl rfl | exact .inr rfl) rfl rfl hC fun a hs => ?_
                                    refine h_skip hs (i := 14) rfl (by kernel_rfl) (by kernel_rfl) (by kernel_rfl) rfl rfl rfl (by first | exact .inl rfl | exact .inr rfl) rfl rfl hC fun a hs => ?_
                                    refine h_skip hs (i := 15) rfl (by kernel_rfl) (by kernel_rfl) (by kernel_rfl) rfl rfl rfl (by first | exact .inl rfl | exact .inr rfl) rfl rfl hC fun a hs => ?_
                                    refine h_skip hs (i := 16) rfl (by kernel_rfl) (by kernel_rfl) (by kernel_rfl) rfl rfl rfl (by first | exact .inl rfl | exact .inr rfl) rfl rfl hC fun a hs => ?_
                                    refine h_skip hs (i := 17) rfl (by kernel_rfl) (by kernel_rfl) (by kernel_rfl) rfl rfl rfl (by first | exact .inl rfl | exact .inr rfl) rfl rfl hC fun a hs => ?_
                                    refine h_skip hs (i := 18) rfl (by kernel_rfl) (by kernel_rfl) (by kernel_rfl) rfl rfl rfl (by first | exact .inl rfl | exact .inr rfl) rfl rfl hC fun a hs => ?_
                                    refine h_skip hs (i := 19) rfl (by kernel_rfl) (by kernel_rfl) (by kernel_rfl) rfl rfl rfl (by first | exact .inl rfl | exact .inr rfl) rfl rfl hC fun a hs => ?_
                                    refine h_skip hs (i := 20) rfl (by kernel_rfl) (by kernel_rfl) (by kernel_rfl) rfl rfl rfl (by first | exact .inl rfl | exact .inr rfl) rfl rfl hC fun a hs => ?_
                                    refine h_skip hs (i := 21) rfl (by kernel_rfl) (by kernel_rfl) (by kernel_rfl) rfl rfl rfl (by first | exact .inl rfl | exact .inr rfl) rfl rfl hC fun a hs => ?_
                                    refine h_skip hs (i := 22) rfl (by kernel_rfl) (by kernel_rfl) (by kernel_rfl) rfl rfl rfl (by first | exact .inl rfl | exact .inr rfl) rfl rfl hC fun a hs => ?_
                                    refine h_get hs (i := 23) rfl (by kernel_rfl) rfl rfl hC rfl (fun w hC => y_pickTE (v := .bool c658) rfl rfl (vbs h695)) fun a hs => ?_
                                    refine h_done (by kernel_rfl) ?_
                                    exact ⟨Sv628, (hs.wk rfl), (hw.ft [0, 1, 2, 3] [0, 1, 2, 3] (by decide) rfl rfl)⟩
                                  · have h696 := ite_f hc658 h694
                                    obtain ⟨x699, h697, h696⟩ := bind_t h696
                                    obtain ⟨b705, o706, q703, c704, h707, h700, h701, h702, h698⟩ := hw.elemV 4 rfl h697
                                    have hsv708 := hs
                                    have hwv709 := hw
                                    subst h707
                                    have hs := hsv708
                                    have hw := hwv709
                                    obtain ⟨_, rfl, rfl⟩ := h698
                                    have hw := hw.addE h702
                                    obtain ⟨x712, h710, h696⟩ := bind_t h696
                                    obtain ⟨b718, o719, q716, c717, h720, h713, h714, h715, h711⟩ := hw.elemV 2 rfl h710
                                    have hsv721 := hs
                                    have hwv722 := hw
                                    subst h720
                                    have hs := hsv721
                                    have hw := hwv722
                                    obtain ⟨_, rfl, rfl⟩ := h711
                                    have hw := hw.addE h715
                                    refine h_begin (C := Cls [.box b28 [.slice p55 rv48.2.L.length k56, .int .i64 rv48.2.At] 60, .box b62 [.string rv48.1.Source.Network, .string rv48.1.Source.Station, .string rv48.1.Source.Location, .string rv48.1.Source.Channel, .int .i64 rv48.1.Start, .int .i64 rv48.1.First, .int .i64 rv48.1.Rate.Num, .int .i64 rv48.1.Rate.Den, .int .i64 rv48.1.Error, .int .i64 rv48.1.Run, .int .i64 rv48.1.Seq, .slice (some ⟨b718, o719, none⟩) rv48.1.Samples.length k50] 32, .box b93 [.string rv82.1.Source.Network, .string rv82.1.Source.Station, .string rv82.1.Source.Location, .string rv82.1.Source.Channel, .int .i64 rv82.1.Start, .int .i64 rv82.1.First, .int .i64 rv82.1.Rate.Num, .int .i64 rv82.1.Rate.Den, .int .i64 rv82.1.Error, .int .i64 rv82.1.Run, .int .i64 rv82.1.Seq, .slice p83 rv82.1.Samples.length k84] 32, .box b105 [.string rv95.1.Source.Network, .string rv95.1.Source.Station, .string rv95.1.Source.Location, .string rv95.1.Source.Channel, .int .i64 rv95.1.Start, .int .i64 rv95.1.First, .int .i64 rv95.1.Rate.Num, .int .i64 rv95.1.Rate.Den, .int .i64 rv95.1.Error, .int .i64 rv95.1.Run, .int .i64 rv95.1.Seq, .slice p96 rv95.1.Samples.length k97] 32, .box b606 [.string x613, .string x614, .string x615, .string x616, .int .i64 x617, .int .i64 x618, .int .i64 x619, .int .i64 x620, .int .i64 x621, .int .i64 x622, .int .i64 x623, .slice (some ⟨b705, o706, none⟩) x624.length k611] 32] [CeA b718 q716 [.int .i64 x712], CeA b705 q703 [.int .i64 x699]]) (by kernel_rfl) rfl ?_
                                    have hw := hw.drew
                                    have hC : Cls [.box b28 [.slice p55 rv48.2.L.length k56, .int .i64 rv48.2.At] 60, .box b62 [.string rv48.1.Source.Network, .string rv48.1.Source.Station, .string rv48.1.Source.Location, .string rv48.1.Source.Channel, .int .i64 rv48.1.Start, .int .i64 rv48.1.First, .int .i64 rv48.1.Rate.Num, .int .i64 rv48.1.Rate.Den, .int .i64 rv48.1.Error, .int .i64 rv48.1.Run, .int .i64 rv48.1.Seq, .slice (some ⟨b718, o719, none⟩) rv48.1.Samples.length k50] 32, .box b93 [.string rv82.1.Source.Network, .string rv82.1.Source.Station, .string rv82.1.Source.Location, .string rv82.1.Source.Channel, .int .i64 rv82.1.Start, .int .i64 rv82.1.First, .int .i64 rv82.1.Rate.Num, .int .i64 rv82.1.Rate.Den, .int .i64 rv82.1.Error, .int .i64 rv82.1.Run, .int .i64 rv82.1.Seq, .slice p83 rv82.1.Samples.length k84] 32, .box b105 [.string rv95.1.Source.Network, .string rv95.1.Source.Station, .string rv95.1.Source.Location, .string rv95.1.Source.Channel, .int .i64 rv95.1.Start, .int .i64 rv95.1.First, .int .i64 rv95.1.Rate.Num, .int .i64 rv95.1.Rate.Den, .int .i64 rv95.1.Error, .int .i64 rv95.1.Run, .int .i64 rv95.1.Seq, .slice p96 rv95.1.Samples.length k97] 32, .box b606 [.string x613, .string x614, .string x615, .string x616, .int .i64 x617, .int .i64 x618, .int .i64 x619, .int .i64 x620, .int .i64 x621, .int .i64 x622, .int .i64 x623, .slice (some ⟨b705, o706, none⟩) x624.length k611] 32] [CeA b718 q716 [.int .i64 x712], CeA b705 q703 [.int .i64 x699]] _ := hw.cs [0, 1, 2, 3, 4] [0, 1] rfl rfl
                                    refine h_get hs (i := 0) rfl (by kernel_rfl) rfl rfl hC rfl (fun w hC => y_move rfl) fun a hs => ?_
                                    refine h_get hs (i := 1) rfl (by kernel_rfl) rfl rfl hC rfl (fun w hC => y_neq rfl rfl) fun a hs => ?_
                                    refine h_get hs (i := 2) rfl (by kernel_rfl) rfl rfl hC rfl (fun w hC => y_move rfl) fun a hs => ?_
                                    have hs := hs.fix 157 (.bool true) rfl (vb h660)
                                    refine h_skip hs (i := 3) rfl (by kernel_rfl) (by kernel_rfl) (by kernel_rfl) rfl rfl rfl (by first | exact .inl rfl | exact .inr rfl) rfl rfl hC fun a hs => ?_
                                    refine h_skip hs (i := 4) rfl (by kernel_rfl) (by kernel_rfl) (by kernel_rfl) rfl rfl rfl (by first | exact .inl rfl | exact .inr rfl) rfl rfl hC fun a hs => ?_
                                    refine h_get hs (i := 5) rfl (by kernel_rfl) rfl rfl hC rfl (fun w hC => y_pickTE (v := .bool ((rv601.2 != 0) || (rv627.2 != 0))) rfl rfl (or_t h660)) fun a hs => ?_
                                    refine h_get hs (i := 6) rfl (by kernel_rfl) rfl rfl hC rfl (fun w hC => y_move rfl) fun a hs => ?_
                                    have hs := hs.fix 161 (.bool false) rfl (vb h662)
                                    refine h_take hs (i := 7) rfl (by kernel_rfl) (by kernel_rfl) (by kernel_rfl) ⟨_, rfl, rfl⟩ rfl rfl hC (fun w hC => y_move rfl) fun a hs => ?_
                                    refine h_take hs (i := 8) rfl (by kernel_rfl) (by kernel_rfl) (by kernel_rfl) ⟨_, rfl, rfl⟩ rfl rfl hC (fun w hC => y_move rfl) fun a hs => ?_
                                    refine h_take hs (i := 9) rfl (by kernel_rfl) (by kernel_rfl) (by kernel_rfl) ⟨_, rfl, rfl⟩ rfl rfl hC (fun w hC => y_neq rfl rfl) fun a hs => ?_
                                    refine h_get hs (i := 10) rfl (by kernel_rfl) rfl rfl hC rfl (fun w hC => y_pickFE (v := .bool (((rv601.2 != 0) || (rv627.2 != 0)) || (rv601.1 != rv627.1))) rfl rfl (or_f h662)) fun a hs => ?_
                                    refine h_get hs (i := 11) rfl (by kernel_rfl) rfl rfl hC rfl (fun w hC => y_move rfl) fun a hs => ?_
                                    have hs := hs.fix 166 (.bool false) rfl (vb h694)
                                    refine h_take hs (i := 12) rfl (by kernel_rfl) (by kernel_rfl) (by kernel_rfl) ⟨_, rfl, rfl⟩ rfl rfl hC (fun w hC => y_fieldAddr (o' := 11) Try.runUnderlying32 rfl Try.sizeOf22 rfl rfl rfl) fun a hs => ?_
                                    refine h_take hs (i := 13) rfl (by kernel_rfl) (by kernel_rfl) (by kernel_rfl) ⟨_, rfl, rfl⟩ rfl rfl hC (fun w hC => y_loadB1 (hC.ownAt 4 rfl) rfl Try.isAgg22 rfl) fun a hs => ?_
                                    refine h_take hs (i := 14) rfl (by kernel_rfl) (by kernel_rfl) (by kernel_rfl) ⟨_, rfl, rfl⟩ rfl rfl hC (fun w hC => y_move rfl) fun a hs => ?_
                                    refine h_take hs (i := 15) rfl (by kernel_rfl) (by kernel_rfl) (by kernel_rfl) ⟨_, rfl, rfl⟩ rfl rfl hC (fun w hC => y_indexAt Try.runUnderlying22 Try.sizeOf3 rfl rfl h700.1 h700.2 h701) fun a hs => ?_
                                    refine h_take hs (i := 16) rfl (by kernel_rfl) (by kernel_rfl) (by kernel_rfl) ⟨_, rfl, rfl⟩ rfl rfl hC (fun w hC => y_loadE1 (j := 0) (hC.ceAt 1 rfl) rfl Try.isAgg3 rfl) fun a hs => ?_
                                    refine h_take hs (i := 17) rfl (by kernel_rfl) (by kernel_rfl) (by kernel_rfl) ⟨_, rfl, rfl⟩ rfl rfl hC (fun w hC => y_fieldAddr (o' := 11) Try.runUnderlying32 rfl Try.sizeOf22 rfl rfl rfl) fun a hs => ?_
                                    refine h_take hs (i := 18) rfl (by kernel_rfl) (by kernel_rfl) (by kernel_rfl) ⟨_, rfl, rfl⟩ rfl rfl hC (fun w hC => y_loadB1 (hC.ownAt 1 rfl) rfl Try.isAgg22 rfl) fun a hs => ?_
                                    refine h_take hs (i := 19) rfl (by kernel_rfl) (by kernel_rfl) (by kernel_rfl) ⟨_, rfl, rfl⟩ rfl rfl hC (fun w hC => y_move rfl) fun a hs => ?_
                                    refine h_take hs (i := 20) rfl (by kernel_rfl) (by kernel_rfl) (by kernel_rfl) ⟨_, rfl, rfl⟩ rfl rfl hC (fun w hC => y_indexAt Try.runUnderlying22 Try.sizeOf3 rfl rfl h713.1 h713.2 h714) fun a hs => ?_
                                    refine h_take hs (i := 21) rfl (by kernel_rfl) (by kernel_rfl) (by kernel_rfl) ⟨_, rfl, rfl⟩ rfl rfl hC (fun w hC => y_loadE1 (j := 0) (hC.ceAt 0 rfl) rfl Try.isAgg3 rfl) fun a hs => ?_
                                    refine h_take hs (i := 22) rfl (by kernel_rfl) (by kernel_rfl) (by kernel_rfl) ⟨_, rfl, rfl⟩ rfl rfl hC (fun w hC => y_neq rfl rfl) fun a hs => ?_
                                    refine h_get hs (i := 23) rfl (by kernel_rfl) rfl rfl hC rfl (fun w hC => y_pickFE (v := .bool c658) rfl rfl (vbs h696)) fun a hs => ?_
                                    refine h_done (by kernel_rfl) ?_
                                    exact ⟨Sv628, (hs.wk rfl), (hw.ft [0, 1, 2, 3] [2, 3, 4, 5] (by decide) rfl rfl)⟩
                              · rcases Bool.eq_false_or_eq_true ((rv601.2 != 0) || (rv627.2 != 0)) with h724 | h724
                                · rcases Bool.eq_false_or_eq_true (((rv601.2 != 0) || (rv627.2 != 0)) || (rv601.1 != rv627.1)) with h726 | h726
                                  · have h727 := ite_t hc658 h726
                                    refine h_begin (C := Cls [.box b28 [.slice p55 rv48.2.L.length k56, .int .i64 rv48.2.At] 60, .box b62 [.string rv48.1.Source.Network, .string rv48.1.Source.Station, .string rv48.1.Source.Location, .string rv48.1.Source.Channel, .int .i64 rv48.1.Start, .int .i64 rv48.1.First, .int .i64 rv48.1.Rate.Num, .int .i64 rv48.1.Rate.Den, .int .i64 rv48.1.Error, .int .i64 rv48.1.Run, .int .i64 rv48.1.Seq, .slice p49 rv48.1.Samples.length k50] 32, .box b93 [.string rv82.1.Source.Network, .string rv82.1.Source.Station, .string rv82.1.Source.Location, .string rv82.1.Source.Channel, .int .i64 rv82.1.Start, .int .i64 rv82.1.First, .int .i64 rv82.1.Rate.Num, .int .i64 rv82.1.Rate.Den, .int .i64 rv82.1.Error, .int .i64 rv82.1.Run, .int .i64 rv82.1.Seq, .slice p83 rv82.1.Samples.length k84] 32, .box b105 [.string rv95.1.Source.Network, .string rv95.1.Source.Station, .string rv95.1.Source.Location, .string rv95.1.Source.Channel, .int .i64 rv95.1.Start, .int .i64 rv95.1.First, .int .i64 rv95.1.Rate.Num, .int .i64 rv95.1.Rate.Den, .int .i64 rv95.1.Error, .int .i64 rv95.1.Run, .int .i64 rv95.1.Seq, .slice p96 rv95.1.Samples.length k97] 32, .box b606 [.string x613, .string x614, .string x615, .string x616, .int .i64 x617, .int .i64 x618, .int .i64 x619, .int .i64 x620, .int .i64 x621, .int .i64 x622, .int .i64 x623, .slice p610 x624.length k611] 32] []) (by kernel_rfl) rfl ?_
                                    have hw := hw.drew
                                    have hC : Cls [.box b28 [.slice p55 rv48.2.L.length k56, .int .i64 rv48.2.At] 60, .box b62 [.string rv48.1.Source.Network, .string rv48.1.Source.Station, .string rv48.1.Source.Location, .string rv48.1.Source.Channel, .int .i64 rv48.1.Start, .int .i64 rv48.1.First, .int .i64 rv48.1.Rate.Num, .int .i64 rv48.1.Rate.Den, .int .i64 rv48.1.Error, .int .i64 rv48.1.Run, .int .i64 rv48.1.Seq, .slice p49 rv48.1.Samples.length k50] 32, .box b93 [.string rv82.1.Source.Network, .string rv82.1.Source.Station, .string rv82.1.Source.Location, .string rv82.1.Source.Channel, .int .i64 rv82.1.Start, .int .i64 rv82.1.First, .int .i64 rv82.1.Rate.Num, .int .i64 rv82.1.Rate.Den, .int .i64 rv82.1.Error, .int .i64 rv82.1.Run, .int .i64 rv82.1.Seq, .slice p83 rv82.1.Samples.length k84] 32, .box b105 [.string rv95.1.Source.Network, .string rv95.1.Source.Station, .string rv95.1.Source.Location, .string rv95.1.Source.Channel, .int .i64 rv95.1.Start, .int .i64 rv95.1.First, .int .i64 rv95.1.Rate.Num, .int .i64 rv95.1.Rate.Den, .int .i64 rv95.1.Error, .int .i64 rv95.1.Run, .int .i64 rv95.1.Seq, .slice p96 rv95.1.Samples.length k97] 32, .box b606 [.string x613, .string x614, .string x615, .string x616, .int .i64 x617, .int .i64 x618, .int .i64 x619, .int .i64 x620, .int .i64 x621, .int .i64 x622, .int .i64 x623, .slice p610 x624.length k611] 32] [] _ := hw.cs [0, 1, 2, 3, 4] [] rfl rfl
                                    refine h_get hs (i := 0) rfl (by kernel_rfl) rfl rfl hC rfl (fun w hC => y_move rfl) fun a hs => ?_
                                    refine h_get hs (i := 1) rfl (by kernel_rfl) rfl rfl hC rfl (fun w hC => y_neq rfl rfl) fun a hs => ?_
                                    refine h_get hs (i := 2) rfl (by kernel_rfl) rfl rfl hC rfl (fun w hC => y_move rfl) fun a hs => ?_
                                    have hs := hs.fix 157 (.bool false) rfl (vb h660)
                                    refine h_take hs (i := 3) rfl (by kernel_rfl) (by kernel_rfl) (by kernel_rfl) ⟨_, rfl, rfl⟩ rfl rfl hC (fun w hC => y_move rfl) fun a hs => ?_
                                    refine h_take hs (i := 4) rfl (by kernel_rfl) (by kernel_rfl) (by kernel_rfl) ⟨_, rfl, rfl⟩ rfl rfl hC (fun w hC => y_neq rfl rfl) fun a hs => ?_
                                    refine h_get hs (i := 5) rfl (by kernel_rfl) rfl rfl hC rfl (fun w hC => y_pickFE (v := .bool ((rv601.2 != 0) || (rv627.2 != 0))) rfl rfl (or_f h660)) fun a hs => ?_
                                    refine h_get hs (i := 6) rfl (by kernel_rfl) rfl rfl hC rfl (fun w hC => y_move rfl) fun a hs => ?_
                                    have hs := hs.fix 161 (.bool true) rfl (vb h724)
                                    refine h_skip hs (i := 7) rfl (by kernel_rfl) (by kernel_rfl) (by kernel_rfl) rfl rfl rfl (by first | exact .inl rfl | exact .inr rfl) rfl rfl hC fun a hs => ?_
                                    refine h_skip hs (i := 8) rfl (by kernel_rfl) (by kernel_rfl) (by kernel_rfl) rfl rfl rfl (by first | exact .inl rfl | exact .inr rfl) rfl rfl hC fun a hs => ?_
                                    refine h_skip hs (i := 9) rfl (by kernel_rfl) (by kernel_rfl) (by kernel_rfl) rfl rfl rfl (by first | exact .inl rfl | exact .inr rfl) rfl rfl hC fun a hs => ?_
                                    refine h_get hs (i := 10) rfl (by kernel_rfl) rfl rfl hC rfl (fun w hC => y_pickTE (v := .bool (((rv601.2 != 0) || (rv627.2 != 0)) || (rv601.1 != rv627.1))) rfl rfl (or_t h724)) fun a hs => ?_
                                    refine h_get hs (i := 11) rfl (by kernel_rfl) rfl rfl hC rfl (fun w hC => y_move rfl) fun a hs => ?_
                                    have hs := hs.fix 166 (.bool true) rfl (vb h726)
                                    refine h_skip hs (i := 12) rfl (by kernel_rfl) (by kernel_rfl) (by kernel_rfl) rfl rfl rfl (by first | exact .inl rfl | exact .inr rfl) rfl rfl hC fun a hs => ?_
                                    refine h_skip hs (i := 13) rfl (by kernel_rfl) (by kernel_rfl) (by kernel_rfl) rfl rfl rfl (by first | exact .inl rfl | exact .inr rfl) rfl rfl hC fun a hs => ?_
                                    refine h_skip hs (i := 14) rfl (by kernel_rfl) (by kernel_rfl) (by kernel_rfl) rfl rfl rfl (by first | exact .inl rfl | exact .inr rfl) rfl rfl hC fun a hs => ?_
                                    refine h_skip hs (i := 15) rfl (by kernel_rfl) (by kernel_rfl) (by kernel_rfl) rfl rfl rfl (by first | exact .inl rfl | exact .inr rfl) rfl rfl hC fun a hs => ?_
                                    refine h_skip hs (i := 16) rfl (by kernel_rfl) (by kernel_rfl) (by kernel_rfl) rfl rfl rfl (by first | exact .inl rfl | exact .inr rfl) rfl rfl hC fun a hs => ?_
                                    refine h_skip hs (i := 17) rfl (by kernel_rfl) (by kernel_rfl) (by kernel_rfl) rfl rfl rfl (by first | exact .inl rfl | exact .inr rfl) rfl rfl hC fun a hs => ?_
                                    refine h_skip hs (i := 18) rfl (by kernel_rfl) (by kernel_rfl) (by kernel_rfl) rfl rfl rfl (by first | exact .inl rfl | exact .inr rfl) rfl rfl hC fun a hs => ?_
                                    refine h_skip hs (i := 19) rfl (by kernel_rfl) (by kernel_rfl) (by kernel_rfl) rfl rfl rfl (by first | exact .inl rfl | exact .inr rfl) rfl rfl hC fun a hs => ?_
                                    refine h_skip hs (i := 20) rfl (by kernel_rfl) (by kernel_rfl) (by kernel_rfl) rfl rfl rfl (by first | exact .inl rfl | exact .inr rfl) rfl rfl hC fun a hs => ?_
                                    refine h_skip hs (i := 21) rfl (by kernel_rfl) (by kernel_rfl) (by kernel_rfl) rfl rfl rfl (by first | exact .inl rfl | exact .inr rfl) rfl rfl hC fun a hs => ?_
                                    refine h_skip hs (i := 22) rfl (by kernel_rfl) (by kernel_rfl) (by kernel_rfl) rfl rfl rfl (by first | exact .inl rfl | exact .inr rfl) rfl rfl hC fun a hs => ?_
                                    refine h_get hs (i := 23) rfl (by kernel_rfl) rfl rfl hC rfl (fun w hC => y_pickTE (v := .bool c658) rfl rfl (vbs h727)) fun a hs => ?_
                                    refine h_done (by kernel_rfl) ?_
                                    exact ⟨Sv628, (hs.wk rfl), (hw.ft [0, 1, 2, 3] [0, 1, 2, 3] (by decide) rfl rfl)⟩
                                  · have h728 := ite_f hc658 h726
                                    obtain ⟨x731, h729, h728⟩ := bind_t h728
                                    obtain ⟨b737, o738, q735, c736, h739, h732, h733, h734, h730⟩ := hw.elemV 4 rfl h729
                                    have hsv740 := hs
                                    have hwv741 := hw
                                    subst h739
                                    have hs := hsv740
                                    have hw := hwv741
                                    obtain ⟨_, rfl, rfl⟩ := h730
                                    have hw := hw.addE h734
                                    obtain ⟨x744, h742, h728⟩ := bind_t h728
                                    obtain ⟨b750, o751, q748, c749, h752, h745, h746, h747, h743⟩ := hw.elemV 2 rfl h742
                                    have hsv753 := hs
                                    have hwv754 := hw
                                    subst h752
                                    have hs := hsv753
                                    have hw := hwv754
                                    obtain ⟨_, rfl, rfl⟩ := h743
                                    have hw := hw.addE h747
                                    refine h_begin (C := Cls [.box b28 [.slice p55 rv48.2.L.length k56, .int .i64 rv48.2.At] 60, .box b62 [.string rv48.1.Source.Network, .string rv48.1.Source.Station, .string rv48.1.Source.Location, .string rv48.1.Source.Channel, .int .i64 rv48.1.Start, .int .i64 rv48.1.First, .int .i64 rv48.1.Rate.Num, .int .i64 rv48.1.Rate.Den, .int .i64 rv48.1.Error, .int .i64 rv48.1.Run, .int .i64 rv48.1.Seq, .slice (some ⟨b750, o751, none⟩) rv48.1.Samples.length k50] 32, .box b93 [.string rv82.1.Source.Network, .string rv82.1.Source.Station, .string rv82.1.Source.Location, .string rv82.1.Source.Channel, .int .i64 rv82.1.Start, .int .i64 rv82.1.First, .int .i64 rv82.1.Rate.Num, .int .i64 rv82.1.Rate.Den, .int .i64 rv82.1.Error, .int .i64 rv82.1.Run, .int .i64 rv82.1.Seq, .slice p83 rv82.1.Samples.length k84] 32, .box b105 [.string rv95.1.Source.Network, .string rv95.1.Source.Station, .string rv95.1.Source.Location, .string rv95.1.Source.Channel, .int .i64 rv95.1.Start, .int .i64 rv95.1.First, .int .i64 rv95.1.Rate.Num, .int .i64 rv95.1.Rate.Den, .int .i64 rv95.1.Error, .int .i64 rv95.1.Run, .int .i64 rv95.1.Seq, .slice p96 rv95.1.Samples.length k97] 32, .box b606 [.string x613, .string x614, .string x615, .string x616, .int .i64 x617, .int .i64 x618, .int .i64 x619, .int .i64 x620, .int .i64 x621, .int .i64 x622, .int .i64 x623, .slice (some ⟨b737, o738, none⟩) x624.length k611] 32] [CeA b750 q748 [.int .i64 x744], CeA b737 q735 [.int .i64 x731]]) (by kernel_rfl) rfl ?_
                                    have hw := hw.drew
                                    have hC : Cls [.box b28 [.slice p55 rv48.2.L.length k56, .int .i64 rv48.2.At] 60, .box b62 [.string rv48.1.Source.Network, .string rv48.1.Source.Station, .string rv48.1.Source.Location, .string rv48.1.Source.Channel, .int .i64 rv48.1.Start, .int .i64 rv48.1.First, .int .i64 rv48.1.Rate.Num, .int .i64 rv48.1.Rate.Den, .int .i64 rv48.1.Error, .int .i64 rv48.1.Run, .int .i64 rv48.1.Seq, .slice (some ⟨b750, o751, none⟩) rv48.1.Samples.length k50] 32, .box b93 [.string rv82.1.Source.Network, .string rv82.1.Source.Station, .string rv82.1.Source.Location, .string rv82.1.Source.Channel, .int .i64 rv82.1.Start, .int .i64 rv82.1.First, .int .i64 rv82.1.Rate.Num, .int .i64 rv82.1.Rate.Den, .int .i64 rv82.1.Error, .int .i64 rv82.1.Run, .int .i64 rv82.1.Seq, .slice p83 rv82.1.Samples.length k84] 32, .box b105 [.string rv95.1.Source.Network, .string rv95.1.Source.Station, .string rv95.1.Source.Location, .string rv95.1.Source.Channel, .int .i64 rv95.1.Start, .int .i64 rv95.1.First, .int .i64 rv95.1.Rate.Num, .int .i64 rv95.1.Rate.Den, .int .i64 rv95.1.Error, .int .i64 rv95.1.Run, .int .i64 rv95.1.Seq, .slice p96 rv95.1.Samples.length k97] 32, .box b606 [.string x613, .string x614, .string x615, .string x616, .int .i64 x617, .int .i64 x618, .int .i64 x619, .int .i64 x620, .int .i64 x621, .int .i64 x622, .int .i64 x623, .slice (some ⟨b737, o738, none⟩) x624.length k611] 32] [CeA b750 q748 [.int .i64 x744], CeA b737 q735 [.int .i64 x731]] _ := hw.cs [0, 1, 2, 3, 4] [0, 1] rfl rfl
                                    refine h_get hs (i := 0) rfl (by kernel_rfl) rfl rfl hC rfl (fun w hC => y_move rfl) fun a hs => ?_
                                    refine h_get hs (i := 1) rfl (by kernel_rfl) rfl rfl hC rfl (fun w hC => y_neq rfl rfl) fun a hs => ?_
                                    refine h_get hs (i := 2) rfl (by kernel_rfl) rfl rfl hC rfl (fun w hC => y_move rfl) fun a hs => ?_
                                    have hs := hs.fix 157 (.bool false) rfl (vb h660)
                                    refine h_take hs (i := 3) rfl (by kernel_rfl) (by kernel_rfl) (by kernel_rfl) ⟨_, rfl, rfl⟩ rfl rfl hC (fun w hC => y_move rfl) fun a hs => ?_
                                    refine h_take hs (i := 4) rfl (by kernel_rfl) (by kernel_rfl) (by kernel_rfl) ⟨_, rfl, rfl⟩ rfl rfl hC (fun w hC => y_neq rfl rfl) fun a hs => ?_
                                    refine h_get hs (i := 5) rfl (by kernel_rfl) rfl rfl hC rfl (fun w hC => y_pickFE (v := .bool ((rv601.2 != 0) || (rv627.2 != 0))) rfl rfl (or_f h660)) fun a hs => ?_
                                    refine h_get hs (i := 6) rfl (by kernel_rfl) rfl rfl hC rfl (fun w hC => y_move rfl) fun a hs => ?_
                                    have hs := hs.fix 161 (.bool true) rfl (vb h724)
                                    refine h_skip hs (i := 7) rfl (by kernel_rfl) (by kernel_rfl) (by kernel_rfl) rfl rfl rfl (by first | exact .inl rfl | exact .inr rfl) rfl rfl hC fun a hs => ?_
                                    refine h_skip hs (i := 8) rfl (by kernel_rfl) (by kernel_rfl) (by kernel_rfl) rfl rfl rfl (by first | exact .inl rfl | exact .inr rfl) rfl rfl hC fun a hs => ?_
                                    refine h_skip hs (i := 9) rfl (by kernel_rfl) (by kernel_rfl) (by kernel_rfl) rfl rfl rfl (by first | exact .inl rfl | exact .inr rfl) rfl rfl hC fun a hs => ?_
                                    refine h_get hs (i := 10) rfl (by kernel_rfl) rfl rfl hC rfl (fun w hC => y_pickTE (v := .bool (((rv601.2 != 0) || (rv627.2 != 0)) || (rv601.1 != rv627.1))) rfl rfl (or_t h724)) fun a hs => ?_
                                    refine h_get hs (i := 11) rfl (by kernel_rfl) rfl rfl hC rfl (fun w hC => y_move rfl) fun a hs => ?_
                                    have hs := hs.fix 166 (.bool false) rfl (vb h726)
                                    refine h_take hs (i := 12) rfl (by kernel_rfl) (by kernel_rfl) (by kernel_rfl) ⟨_, rfl, rfl⟩ rfl rfl hC (fun w hC => y_fieldAddr (o' := 11) Try.runUnderlying32 rfl Try.sizeOf22 rfl rfl rfl) fun a hs => ?_
                                    refine h_take hs (i := 13) rfl (by kernel_rfl) (by kernel_rfl) (by kernel_rfl) ⟨_, rfl, rfl⟩ rfl rfl hC (fun w hC => y_loadB1 (hC.ownAt 4 rfl) rfl Try.isAgg22 rfl) fun a hs => ?_
                                    refine h_take hs (i := 14) rfl (by kernel_rfl) (by kernel_rfl) (by kernel_rfl) ⟨_, rfl, rfl⟩ rfl rfl hC (fun w hC => y_move rfl) fun a hs => ?_
                                    refine h_take hs (i := 15) rfl (by kernel_rfl) (by kernel_rfl) (by kernel_rfl) ⟨_, rfl, rfl⟩ rfl rfl hC (fun w hC => y_indexAt Try.runUnderlying22 Try.sizeOf3 rfl rfl h732.1 h732.2 h733) fun a hs => ?_
                                    refine h_take hs (i := 16) rfl (by kernel_rfl) (by kernel_rfl) (by kernel_rfl) ⟨_, rfl, rfl⟩ rfl rfl hC (fun w hC => y_loadE1 (j := 0) (hC.ceAt 1 rfl) rfl Try.isAgg3 rfl) fun a hs => ?_
                                    refine h_take hs (i := 17) rfl (by kernel_rfl) (by kernel_rfl) (by kernel_rfl) ⟨_, rfl, rfl⟩ rfl rfl hC (fun w hC => y_fieldAddr (o' := 11) Try.runUnderlying32 rfl Try.sizeOf22 rfl rfl rfl) fun a hs => ?_
                                    refine h_take hs (i := 18) rfl (by kernel_rfl) (by kernel_rfl) (by kernel_rfl) ⟨_, rfl, rfl⟩ rfl rfl hC (fun w hC => y_loadB1 (hC.ownAt 1 rfl) rfl Try.isAgg22 rfl) fun a hs => ?_
                                    refine h_take hs (i := 19) rfl (by kernel_rfl) (by kernel_rfl) (by kernel_rfl) ⟨_, rfl, rfl⟩ rfl rfl hC (fun w hC => y_move rfl) fun a hs => ?_
                                    refine h_take hs (i := 20) rfl (by kernel_rfl) (by kernel_rfl) (by kernel_rfl) ⟨_, rfl, rfl⟩ rfl rfl hC (fun w hC => y_indexAt Try.runUnderlying22 Try.sizeOf3 rfl rfl h745.1 h745.2 h746) fun a hs => ?_
                                    refine h_take hs (i := 21) rfl (by kernel_rfl) (by kernel_rfl) (by kernel_rfl) ⟨_, rfl, rfl⟩ rfl rfl hC (fun w hC => y_loadE1 (j := 0) (hC.ceAt 0 rfl) rfl Try.isAgg3 rfl) fun a hs => ?_
                                    refine h_take hs (i := 22) rfl (by kernel_rfl) (by kernel_rfl) (by kernel_rfl) ⟨_, rfl, rfl⟩ rfl rfl hC (fun w hC => y_neq rfl rfl) fun a hs => ?_
                                    refine h_get hs (i := 23) rfl (by kernel_rfl) rfl rfl hC rfl (fun w hC => y_pickFE (v := .bool c658) rfl rfl (vbs h728)) fun a hs => ?_
                                    refine h_done (by kernel_rfl) ?_
                                    exact ⟨Sv628, (hs.wk rfl), (hw.ft [0, 1, 2, 3] [2, 3, 4, 5] (by decide) rfl rfl)⟩
                                · rcases Bool.eq_false_or_eq_true (((rv601.2 != 0) || (rv627.2 != 0)) || (rv601.1 != rv627.1)) with h756 | h756
                                  · have h757 := ite_t hc658 h756
                                    refine h_begin (C := Cls [.box b28 [.slice p55 rv48.2.L.length k56, .int .i64 rv48.2.At] 60, .box b62 [.string rv48.1.Source.Network, .string rv48.1.Source.Station, .string rv48.1.Source.Location, .string rv48.1.Source.Channel, .int .i64 rv48.1.Start, .int .i64 rv48.1.First, .int .i64 rv48.1.Rate.Num, .int .i64 rv48.1.Rate.Den, .int .i64 rv48.1.Error, .int .i64 rv48.1.Run, .int .i64 rv48.1.Seq, .slice p49 rv48.1.Samples.length k50] 32, .box b93 [.string rv82.1.Source.Network, .string rv82.1.Source.Station, .string rv82.1.Source.Location, .string rv82.1.Source.Channel, .int .i64 rv82.1.Start, .int .i64 rv82.1.First, .int .i64 rv82.1.Rate.Num, .int .i64 rv82.1.Rate.Den, .int .i64 rv82.1.Error, .int .i64 rv82.1.Run, .int .i64 rv82.1.Seq, .slice p83 rv82.1.Samples.length k84] 32, .box b105 [.string rv95.1.Source.Network, .string rv95.1.Source.Station, .string rv95.1.Source.Location, .string rv95.1.Source.Channel, .int .i64 rv95.1.Start, .int .i64 rv95.1.First, .int .i64 rv95.1.Rate.Num, .int .i64 rv95.1.Rate.Den, .int .i64 rv95.1.Error, .int .i64 rv95.1.Run, .int .i64 rv95.1.Seq, .slice p96 rv95.1.Samples.length k97] 32, .box b606 [.string x613, .string x614, .string x615, .string x616, .int .i64 x617, .int .i64 x618, .int .i64 x619, .int .i64 x620, .int .i64 x621, .int .i64 x622, .int .i64 x623, .slice p610 x624.length k611] 32] []) (by kernel_rfl) rfl ?_
                                    have hw := hw.drew
                                    have hC : Cls [.box b28 [.slice p55 rv48.2.L.length k56, .int .i64 rv48.2.At] 60, .box b62 [.string rv48.1.Source.Network, .string rv48.1.Source.Station, .string rv48.1.Source.Location, .string rv48.1.Source.Channel, .int .i64 rv48.1.Start, .int .i64 rv48.1.First, .int .i64 rv48.1.Rate.Num, .int .i64 rv48.1.Rate.Den, .int .i64 rv48.1.Error, .int .i64 rv48.1.Run, .int .i64 rv48.1.Seq, .slice p49 rv48.1.Samples.length k50] 32, .box b93 [.string rv82.1.Source.Network, .string rv82.1.Source.Station, .string rv82.1.Source.Location, .string rv82.1.Source.Channel, .int .i64 rv82.1.Start, .int .i64 rv82.1.First, .int .i64 rv82.1.Rate.Num, .int .i64 rv82.1.Rate.Den, .int .i64 rv82.1.Error, .int .i64 rv82.1.Run, .int .i64 rv82.1.Seq, .slice p83 rv82.1.Samples.length k84] 32, .box b105 [.string rv95.1.Source.Network, .string rv95.1.Source.Station, .string rv95.1.Source.Location, .string rv95.1.Source.Channel, .int .i64 rv95.1.Start, .int .i64 rv95.1.First, .int .i64 rv95.1.Rate.Num, .int .i64 rv95.1.Rate.Den, .int .i64 rv95.1.Error, .int .i64 rv95.1.Run, .int .i64 rv95.1.Seq, .slice p96 rv95.1.Samples.length k97] 32, .box b606 [.string x613, .string x614, .string x615, .string x616, .int .i64 x617, .int .i64 x618, .int .i64 x619, .int .i64 x620, .int .i64 x621, .int .i64 x622, .int .i64 x623, .slice p610 x624.length k611] 32] [] _ := hw.cs [0, 1, 2, 3, 4] [] rfl rfl
                                    refine h_get hs (i := 0) rfl (by kernel_rfl) rfl rfl hC rfl (fun w hC => y_move rfl) fun a hs => ?_
                                    refine h_get hs (i := 1) rfl (by kernel_rfl) rfl rfl hC rfl (fun w hC => y_neq rfl rfl) fun a hs => ?_
                                    refine h_get hs (i := 2) rfl (by kernel_rfl) rfl rfl hC rfl (fun w hC => y_move rfl) fun a hs => ?_
                                    have hs := hs.fix 157 (.bool false) rfl (vb h660)
                                    refine h_take hs (i := 3) rfl (by kernel_rfl) (by kernel_rfl) (by kernel_rfl) ⟨_, rfl, rfl⟩ rfl rfl hC (fun w hC => y_move rfl) fun a hs => ?_
                                    refine h_take hs (i := 4) rfl (by kernel_rfl) (by kernel_rfl) (by kernel_rfl) ⟨_, rfl, rfl⟩ rfl rfl hC (fun w hC => y_neq rfl rfl) fun a hs => ?_
                                    refine h_get hs (i := 5) rfl (by kernel_rfl) rfl rfl hC rfl (fun w hC => y_pickFE (v := .bool ((rv601.2 != 0) || (rv627.2 != 0))) rfl rfl (or_f h660)) fun a hs => ?_
                                    refine h_get hs (i := 6) rfl (by kernel_rfl) rfl rfl hC rfl (fun w hC => y_move rfl) fun a hs => ?_
                                    have hs := hs.fix 161 (.bool false) rfl (vb h724)
                                    refine h_take hs (i := 7) rfl (by kernel_rfl) (by kernel_rfl) (by kernel_rfl) ⟨_, rfl, rfl⟩ rfl rfl hC (fun w hC => y_move rfl) fun a hs => ?_
                                    refine h_take hs (i := 8) rfl (by kernel_rfl) (by kernel_rfl) (by kernel_rfl) ⟨_, rfl, rfl⟩ rfl rfl hC (fun w hC => y_move rfl) fun a hs => ?_
                                    refine h_take hs (i := 9) rfl (by kernel_rfl) (by kernel_rfl) (by kernel_rfl) ⟨_, rfl, rfl⟩ rfl rfl hC (fun w hC => y_neq rfl rfl) fun a hs => ?_
                                    refine h_get hs (i := 10) rfl (by kernel_rfl) rfl rfl hC rfl (fun w hC => y_pickFE (v := .bool (((rv601.2 != 0) || (rv627.2 != 0)) || (rv601.1 != rv627.1))) rfl rfl (or_f h724)) fun a hs => ?_
                                    refine h_get hs (i := 11) rfl (by kernel_rfl) rfl rfl hC rfl (fun w hC => y_move rfl) fun a hs => ?_
                                    have hs := hs.fix 166 (.bool true) rfl (vb h756)
                                    refine h_skip hs (i := 12) rfl (by kernel_rfl) (by kernel_rfl) (by kernel_rfl) rfl rfl rfl (by first | exact .inl rfl | exact .inr rfl) rfl rfl hC fun a hs => ?_
                                    refine h_skip hs (i := 13) rfl (by kernel_rfl) (by kernel_rfl) (by kernel_rfl) rfl rfl rfl (by first | exact .inl rfl | exact .inr rfl) rfl rfl hC fun a hs => ?_
                                    refine h_skip hs (i := 14) rfl (by kernel_rfl) (by kernel_rfl) (by kernel_rfl) rfl rfl rfl (by first | exact .inl rfl | exact .inr rfl) rfl rfl hC fun a hs => ?_
                                    refine h_skip hs (i := 15) rfl (by kernel_rfl) (by kernel_rfl) (by kernel_rfl) rfl rfl rfl (by first | exact .inl rfl | exact .inr rfl) rfl rfl hC fun a hs => ?_
                                    refine h_skip hs (i := 16) rfl (by kernel_rfl) (by kernel_rfl) (by kernel_rfl) rfl rfl rfl (by first | exact .inl rfl | exact .inr rfl) rfl rfl hC fun a hs => ?_
                                    refine h_skip hs (i := 17) rfl (by kernel_rfl) (by kernel_rfl) (by kernel_rfl) rfl rfl rfl (by first | exact .inl rfl | exact .inr rfl) rfl rfl hC fun a hs => ?_
                                    refine h_skip hs (i := 18) rfl (by kernel_rfl) (by kernel_rfl) (by kernel_rfl) rfl rfl rfl (by first | exact .inl rfl | exact .inr rfl) rfl rfl hC fun a hs => ?_
                                    refine h_skip hs (i := 19) rfl (by kernel_rfl) (by kernel_rfl) (by kernel_rfl) rfl rfl rfl (by first | exact .inl rfl | exact .inr rfl) rfl rfl hC fun a hs => ?_
                                    refine h_skip hs (i := 20) rfl (by kernel_rfl) (by kernel_rfl) (by kernel_rfl) rfl rfl rfl (by first | exact .inl rfl | exact .inr rfl) rfl rfl hC fun a hs => ?_
                                    refine h_skip hs (i := 21) rfl (by kernel_rfl) (by kernel_rfl) (by kernel_rfl) rfl rfl rfl (by first | exact .inl rfl | exact .inr rfl) rfl rfl hC fun a hs => ?_
                                    refine h_skip hs (i := 22) rfl (by kernel_rfl) (by kernel_rfl) (by kernel_rfl) rfl rfl rfl (by first | exact .inl rfl | exact .inr rfl) rfl rfl hC fun a hs => ?_
                                    refine h_get hs (i := 23) rfl (by kernel_rfl) rfl rfl hC rfl (fun w hC => y_pickTE (v := .bool c658) rfl rfl (vbs h757)) fun a hs => ?_
                                    refine h_done (by kernel_rfl) ?_
                                    exact ⟨Sv628, (hs.wk rfl), (hw.ft [0, 1, 2, 3] [0, 1, 2, 3] (by decide) rfl rfl)⟩
                                  · have h758 := ite_f hc658 h756
                                    obtain ⟨x761, h759, h758⟩ := bind_t h758
                                    obtain ⟨b767, o768, q765, c766, h769, h762, h763, h764, h760⟩ := hw.elemV 4 rfl h759
                                    have hsv770 := hs
                                    have hwv771 := hw
                                    subst h769
                                    have hs := hsv770
                                    have hw := hwv771
                                    obtain ⟨_, rfl, rfl⟩ := h760
                                    have hw := hw.addE h764
                                    obtain ⟨x774, h772, h758⟩ := bind_t h758
                                    obtain ⟨b780, o781, q778, c779, h782, h775, h776, h777, h773⟩ := hw.elemV 2 rfl h772
                                    have hsv783 := hs
                                    have hwv784 := hw
                                    subst h782
                                    have hs := hsv783
                                    have hw := hwv784
                                    obtain ⟨_, rfl, rfl⟩ := h773
                                    have hw := hw.addE h777
                                    refine h_begin (C := Cls [.box b28 [.slice p55 rv48.2.L.length k56, .int .i64 rv48.2.At] 60, .box b62 [.string rv48.1.Source.Network, .string rv48.1.Source.Station, .string rv48.1.Source.Location, .string rv48.1.Source.Channel, .int .i64 rv48.1.Start, .int .i64 rv48.1.First, .int .i64 rv48.1.Rate.Num, .int .i64 rv48.1.Rate.Den, .int .i64 rv48.1.Error, .int .i64 rv48.1.Run, .int .i64 rv48.1.Seq, .slice (some ⟨b780, o781, none⟩) rv48.1.Samples.length k50] 32, .box b93 [.string rv82.1.Source.Network, .string rv82.1.Source.Station, .string rv82.1.Source.Location, .string rv82.1.Source.Channel, .int .i64 rv82.1.Start, .int .i64 rv82.1.First, .int .i64 rv82.1.Rate.Num, .int .i64 rv82.1.Rate.Den, .int .i64 rv82.1.Error, .int .i64 rv82.1.Run, .int .i64 rv82.1.Seq, .slice p83 rv82.1.Samples.length k84] 32, .box b105 [.string rv95.1.Source.Network, .string rv95.1.Source.Station, .string rv95.1.Source.Location, .string rv95.1.Source.Channel, .int .i64 rv95.1.Start, .int .i64 rv95.1.First, .int .i64 rv95.1.Rate.Num, .int .i64 rv95.1.Rate.Den, .int .i64 rv95.1.Error, .int .i64 rv95.1.Run, .int .i64 rv95.1.Seq, .slice p96 rv95.1.Samples.length k97] 32, .box b606 [.string x613, .string x614, .string x615, .string x616, .int .i64 x617, .int .i64 x618, .int .i64 x619, .int .i64 x620, .int .i64 x621, .int .i64 x622, .int .i64 x623, .slice (some ⟨b767, o768, none⟩) x624.length k611] 32] [CeA b780 q778 [.int .i64 x774], CeA b767 q765 [.int .i64 x761]]) (by kernel_rfl) rfl ?_
                                    have hw := hw.drew
                                    have hC : Cls [.box b28 [.slice p55 rv48.2.L.length k56, .int .i64 rv48.2.At] 60, .box b62 [.string rv48.1.Source.Network, .string rv48.1.Source.Station, .string rv48.1.Source.Location, .string rv48.1.Source.Channel, .int .i64 rv48.1.Start, .int .i64 rv48.1.First, .int .i64 rv48.1.Rate.Num, .int .i64 rv48.1.Rate.Den, .int .i64 rv48.1.Error, .int .i64 rv48.1.Run, .int .i64 rv48.1.Seq, .slice (some ⟨b780, o781, none⟩) rv48.1.Samples.length k50] 32, .box b93 [.string rv82.1.Source.Network, .string rv82.1.Source.Station, .string rv82.1.Source.Location, .string rv82.1.Source.Channel, .int .i64 rv82.1.Start, .int .i64 rv82.1.First, .int .i64 rv82.1.Rate.Num, .int .i64 rv82.1.Rate.Den, .int .i64 rv82.1.Error, .int .i64 rv82.1.Run, .int .i64 rv82.1.Seq, .slice p83 rv82.1.Samples.length k84] 32, .box b105 [.string rv95.1.Source.Network, .string rv95.1.Source.Station, .string rv95.1.Source.Location, .string rv95.1.Source.Channel, .int .i64 rv95.1.Start, .int .i64 rv95.1.First, .int .i64 rv95.1.Rate.Num, .int .i64 rv95.1.Rate.Den, .int .i64 rv95.1.Error, .int .i64 rv95.1.Run, .int .i64 rv95.1.Seq, .slice p96 rv95.1.Samples.length k97] 32, .box b606 [.string x613, .string x614, .string x615, .string x616, .int .i64 x617, .int .i64 x618, .int .i64 x619, .int .i64 x620, .int .i64 x621, .int .i64 x622, .int .i64 x623, .slice (some ⟨b767, o768, none⟩) x624.length k611] 32] [CeA b780 q778 [.int .i64 x774], CeA b767 q765 [.int .i64 x761]] _ := hw.cs [0, 1, 2, 3, 4] [0, 1] rfl rfl
                                    refine h_get hs (i := 0) rfl (by kernel_rfl) rfl rfl hC rfl (fun w hC => y_move rfl) fun a hs => ?_
                                    refine h_get hs (i := 1) rfl (by kernel_rfl) rfl rfl hC rfl (fun w hC => y_neq rfl rfl) fun a hs => ?_
                                    refine h_get hs (i := 2) rfl (by kernel_rfl) rfl rfl hC rfl (fun w hC => y_move rfl) fun a hs => ?_
                                    have hs := hs.fix 157 (.bool false) rfl (vb h660)
                                    refine h_take hs (i := 3) rfl (by kernel_rfl) (by kernel_rfl) (by kernel_rfl) ⟨_, rfl, rfl⟩ rfl rfl hC (fun w hC => y_move rfl) fun a hs => ?_
                                    refine h_take hs (i := 4) rfl (by kernel_rfl) (by kernel_rfl) (by kernel_rfl) ⟨_, rfl, rfl⟩ rfl rfl hC (fun w hC => y_neq rfl rfl) fun a hs => ?_
                                    refine h_get hs (i := 5) rfl (by kernel_rfl) rfl rfl hC rfl (fun w hC => y_pickFE (v := .bool ((rv601.2 != 0) || (rv627.2 != 0))) rfl rfl (or_f h660)) fun a hs => ?_
                                    refine h_get hs (i := 6) rfl (by kernel_rfl) rfl rfl hC rfl (fun w hC => y_move rfl) fun a hs => ?_
                                    have hs := hs.fix 161 (.bool false) rfl (vb h724)
                                    refine h_take hs (i := 7) rfl (by kernel_rfl) (by kernel_rfl) (by kernel_rfl) ⟨_, rfl, rfl⟩ rfl rfl hC (fun w hC => y_move rfl) fun a hs => ?_
                                    refine h_take hs (i := 8) rfl (by kernel_rfl) (by kernel_rfl) (by kernel_rfl) ⟨_, rfl, rfl⟩ rfl rfl hC (fun w hC => y_move rfl) fun a hs => ?_
                                    refine h_take hs (i := 9) rfl (by kernel_rfl) (by kernel_rfl) (by kernel_rfl) ⟨_, rfl, rfl⟩ rfl rfl hC (fun w hC => y_neq rfl rfl) fun a hs => ?_
                                    refine h_get hs (i := 10) rfl (by kernel_rfl) rfl rfl hC rfl (fun w hC => y_pickFE (v := .bool (((rv601.2 != 0) || (rv627.2 != 0)) || (rv601.1 != rv627.1))) rfl rfl (or_f h724)) fun a hs => ?_
                                    refine h_get hs (i := 11) rfl (by kernel_rfl) rfl rfl hC rfl (fun w hC => y_move rfl) fun a hs => ?_
                                    have hs := hs.fix 166 (.bool false) rfl (vb h756)
                                    refine h_take hs (i := 12) rfl (by kernel_rfl) (by kernel_rfl) (by kernel_rfl) ⟨_, rfl, rfl⟩ rfl rfl hC (fun w hC => y_fieldAddr (o' := 11) Try.runUnderlying32 rfl Try.sizeOf22 rfl rfl rfl) fun a hs => ?_
                                    refine h_take hs (i := 13) rfl (by kernel_rfl) (by kernel_rfl) (by kernel_rfl) ⟨_, rfl, rfl⟩ rfl rfl hC (fun w hC => y_loadB1 (hC.ownAt 4 rfl) rfl Try.isAgg22 rfl) fun a hs => ?_
                                    refine h_take hs (i := 14) rfl (by kernel_rfl) (by kernel_rfl) (by kernel_rfl) ⟨_, rfl, rfl⟩ rfl rfl hC (fun w hC => y_move rfl) fun a hs => ?_
                                    refine h_take hs (i := 15) rfl (by kernel_rfl) (by kernel_rfl) (by kernel_rfl) ⟨_, rfl, rfl⟩ rfl rfl hC (fun w hC => y_indexAt Try.runUnderlying22 Try.sizeOf3 rfl rfl h762.1 h762.2 h763) fun a hs => ?_
                                    refine h_take hs (i := 16) rfl (by kernel_rfl) (by kernel_rfl) (by kernel_rfl) ⟨_, rfl, rfl⟩ rfl rfl hC (fun w hC => y_loadE1 (j := 0) (hC.ceAt 1 rfl) rfl Try.isAgg3 rfl) fun a hs => ?_
                                    refine h_take hs (i := 17) rfl (by kernel_rfl) (by kernel_rfl) (by kernel_rfl) ⟨_, rfl, rfl⟩ rfl rfl hC (fun w hC => y_fieldAddr (o' := 11) Try.runUnderlying32 rfl Try.sizeOf22 rfl rfl rfl) fun a hs => ?_
                                    refine h_take hs (i := 18) rfl (by kernel_rfl) (by kernel_rfl) (by kernel_rfl) ⟨_, rfl, rfl⟩ rfl rfl hC (fun w hC => y_loadB1 (hC.ownAt 1 rfl) rfl Try.isAgg22 rfl) fun a hs => ?_
                                    refine h_take hs (i := 19) rfl (by kernel_rfl) (by kernel_rfl) (by kernel_rfl) ⟨_, rfl, rfl⟩ rfl rfl hC (fun w hC => y_move rfl) fun a hs => ?_
                                    refine h_take hs (i := 20) rfl (by kernel_rfl) (by kernel_rfl) (by kernel_rfl) ⟨_, rfl, rfl⟩ rfl rfl hC (fun w hC => y_indexAt Try.runUnderlying22 Try.sizeOf3 rfl rfl h775.1 h775.2 h776) fun a hs => ?_
                                    refine h_take hs (i := 21) rfl (by kernel_rfl) (by kernel_rfl) (by kernel_rfl) ⟨_, rfl, rfl⟩ rfl rfl hC (fun w hC => y_loadE1 (j := 0) (hC.ceAt 0 rfl) rfl Try.isAgg3 rfl) fun a hs => ?_
                                    refine h_take hs (i := 22) rfl (by kernel_rfl) (by kernel_rfl) (by kernel_rfl) ⟨_, rfl, rfl⟩ rfl rfl hC (fun w hC => y_neq rfl rfl) fun a hs => ?_
                                    refine h_get hs (i := 23) rfl (by kernel_rfl) rfl rfl hC rfl (fun w hC => y_pickFE (v := .bool c658) rfl rfl (vbs h758)) fun a hs => ?_
                                    refine h_done (by kernel_rfl) ?_
                                    exact ⟨Sv628, (hs.wk rfl), (hw.ft [0, 1, 2, 3] [2, 3, 4, 5] (by decide) rfl rfl)⟩
                            · rintro a w ⟨Sv659, hs, hw⟩
                              refine then_normal ?_
                              refine wp_cond_split (hs.ev rfl) (fun h786 => ?_) (fun h786 => ?_)
                              · have hsh := ite_t hsh h786
                                refine wp_seq ?_
                                refine wp_region_lit ?_
                                refine st_val hs (y_assign rfl) trivial rfl rfl fun a hs => ?_
                                refine wpList_nil ?_
                                refine then_normal ?_
                                have hsh := Option.some.inj hsh
                                subst hsh
                                have h787 := hd533 _ rfl
                                subst h787
                                refine wp_ret ?_
                                refine blk_ret ?_
                                refine then_ret ?_
                                refine then_ret ?_
                                refine blk_ret ?_
                                refine then_ret ?_
                                exact ret1 hs rfl (rv_tmp rfl) (hw.ret rfl)
                              · have hsh := ite_f hsh h786
                                refine wp_skip ?_
                                refine blk_normal ?_
                                refine then_normal ?_
                                refine wp_region_lit ?_
                                refine st_val hs (y_add rfl rfl) trivial rfl rfl fun a hs => ?_
                                refine st_val hs (y_move rfl) trivial rfl rfl fun a hs => ?_
                                refine wpList_nil ?_
                                refine then_normal ?_
                                exact ⟨_, (Option.some.inj hsh).symm, Sv659, (hs.wk rfl), (hw.ft [0, 1, 2, 3] [0, 1, 2, 3] (by decide) rfl rfl)⟩
                        · have hsh := ite_f hsh h538
                          obtain ⟨rv861, hsh, h862⟩ := map_t hsh
                          have h862 := hd533 _ h862.symm
                          subst h862
                          refine wp_exit ?_
                          refine then_exit ?_
                          refine then_exit ?_
                          refine blk_exit ?_
                          refine then_normal ?_
                          refine wp_seq ?_
                          refine wp_region_lit ?_
                          refine st_val hs (y_move rfl) trivial rfl rfl fun a hs => ?_
                          refine st_val hs (y_fieldAddr (o' := 11) Try.runUnderlying32 rfl Try.sizeOf22 rfl rfl rfl) trivial rfl rfl fun a hs => ?_
                          refine st_val hs (y_loadB1 (hw.ownAt 3 rfl) rfl Try.isAgg22 rfl) trivial rfl rfl fun a hs => ?_
                          refine st_val hs (y_len Try.runUnderlying22 rfl) trivial rfl rfl fun a hs => ?_
                          obtain ⟨rv792, h791, hsh⟩ := bind_t hsh
                          refine st_callR hs (made_Dice_Next_ok h791 hw.dom (hw.ownAt 0 rfl) (hw.boxS 0 rfl) (hw.envAt 0 rfl)) (do_call Try.call16 rfl) trivial rfl rfl ?_
                          intro v800 Sv797 w a h798 h799 hs
                          obtain ⟨p794, k795, rfl, h793, h796⟩ := h799
                          have hw := hw.call1 0 rfl h798 h793
                          have hw := hw.addE (e := SlA p794 rv792.2.L.length k795 rv792.2.L) h796
                          refine st_val hs (y_assign rfl) trivial rfl rfl fun a hs => ?_
                          refine wpList_nil ?_
                          refine then_normal ?_
                          refine wp_seq ?_
                          refine wp_region_lit ?_
                          refine st_val hs (y_loadBA (hw.ownAt 3 rfl) rfl Try.isAgg32 Try.sizeOf32 rfl rfl) trivial rfl rfl fun a hs => ?_
                          refine st_val hs (y_move rfl) trivial rfl rfl fun a hs => ?_
                          refine st_val hs (y_fieldAddr (o' := 11) Try.runUnderlying32 rfl Try.sizeOf22 rfl rfl rfl) trivial rfl rfl fun a hs => ?_
                          refine st_val hs (y_loadB1 (hw.ownAt 3 rfl) rfl Try.isAgg22 rfl) trivial rfl rfl fun a hs => ?_
                          refine st_val hs (y_len Try.runUnderlying22 rfl) trivial rfl rfl fun a hs => ?_
                          obtain ⟨rv802, h801, hsh⟩ := bind_t hsh
                          refine st_callR hs (record_Sub_ok h801 hw.dom (hw.envAt 4 rfl)) (do_call Try.call12 rfl) trivial rfl rfl ?_
                          intro v811 Sv808 w a h809 h810 hs
                          obtain ⟨p803, k804, c805, rfl, h806, h807⟩ := h810
                          have hw := hw.callF h809 h806
                          have hw := hw.addE (e := RowA c805 rv802.1.Samples) h807
                          refine st_val hs (y_move rfl) trivial rfl rfl fun a hs => ?_
                          refine st_val hs (y_extract rfl rfl) trivial rfl rfl fun a hs => ?_
                          refine st_val hs (y_extract rfl rfl) trivial rfl rfl fun a hs => ?_
                          refine w_alloc (cs := [.string ByteArray.empty, .string ByteArray.empty, .string ByteArray.empty, .string ByteArray.empty, .int .i64 0, .int .i64 0, .int .i64 0, .int .i64 0, .int .i64 0, .int .i64 0, .int .i64 0, .slice none ([] : List Int).length 0]) hs hw Try.zeroValue32 rfl rfl trivial ?_
                          intro b812 a w hs hw
                          refine w_store (m := 12) (cs' := [.string rv802.1.Source.Network, .string rv802.1.Source.Station, .string rv802.1.Source.Location, .string rv802.1.Source.Channel, .int .i64 rv802.1.Start, .int .i64 rv802.1.First, .int .i64 rv802.1.Rate.Num, .int .i64 rv802.1.Rate.Den, .int .i64 rv802.1.Error, .int .i64 rv802.1.Run, .int .i64 rv802.1.Seq, .slice p803 rv802.1.Samples.length k804]) hs hw 0 rfl rfl rfl Try.sizeOf32 rfl rfl rfl rfl trivial ?_
                          intro a w hs hw
                          refine st_val hs (y_assign rfl) trivial rfl rfl fun a hs => ?_
                          refine wpList_nil ?_
                          refine then_normal ?_
                          refine wp_seq ?_
                          refine wp_region_lit ?_
                          refine st_val hs (y_loadBA (hw.ownAt 3 rfl) rfl Try.isAgg32 Try.sizeOf32 rfl rfl) trivial rfl rfl fun a hs => ?_
                          refine st_val hs (y_move rfl) trivial rfl rfl fun a hs => ?_
                          refine st_val hs (y_move rfl) trivial rfl rfl fun a hs => ?_
                          refine st_val hs (y_add rfl rfl) trivial rfl rfl fun a hs => ?_
                          refine st_val hs (y_fieldAddr (o' := 11) Try.runUnderlying32 rfl Try.sizeOf22 rfl rfl rfl) trivial rfl rfl fun a hs => ?_
                          refine st_val hs (y_loadB1 (hw.ownAt 3 rfl) rfl Try.isAgg22 rfl) trivial rfl rfl fun a hs => ?_
                          refine st_val hs (y_len Try.runUnderlying22 rfl) trivial rfl rfl fun a hs => ?_
                          obtain ⟨rv814, h813, hsh⟩ := bind_t hsh
                          refine st_callR hs (record_Sub_ok h813 hw.dom (hw.envAt 3 rfl)) (do_call Try.call12 rfl) trivial rfl rfl ?_
                          intro v823 Sv820 w a h821 h822 hs
                          obtain ⟨p815, k816, c817, rfl, h818, h819⟩ := h822
                          have hw := hw.callF h821 h818
                          have hw := hw.addE (e := RowA c817 rv814.1.Samples) h819
                          refine st_val hs (y_move rfl) trivial rfl rfl fun a hs => ?_
                          refine st_val hs (y_extract rfl rfl) trivial rfl rfl fun a hs => ?_
                          refine st_val hs (y_extract rfl rfl) trivial rfl rfl fun a hs => ?_
                          refine w_alloc (cs := [.string ByteArray.empty, .string ByteArray.empty, .string ByteArray.empty, .string ByteArray.empty, .int .i64 0, .int .i64 0, .int .i64 0, .int .i64 0, .int .i64 0, .int .i64 0, .int .i64 0, .slice none ([] : List Int).length 0]) hs hw Try.zeroValue32 rfl rfl trivial ?_
                          intro b824 a w hs hw
                          refine w_store (m := 12) (cs' := [.string rv814.1.Source.Network, .string rv814.1.Source.Station, .string rv814.1.Source.Location, .string rv814.1.Source.Channel, .int .i64 rv814.1.Start, .int .i64 rv814.1.First, .int .i64 rv814.1.Rate.Num, .int .i64 rv814.1.Rate.Den, .int .i64 rv814.1.Error, .int .i64 rv814.1.Run, .int .i64 rv814.1.Seq, .slice p815 rv814.1.Samples.length k816]) hs hw 0 rfl rfl rfl Try.sizeOf32 rfl rfl rfl rfl trivial ?_
                          intro a w hs hw
                          refine st_val hs (y_assign rfl) trivial rfl rfl fun a hs => ?_
                          refine wpList_nil ?_
                          refine then_normal ?_
                          refine wp_seq ?_
                          refine wp_region_lit ?_
                          refine st_val hs (y_move rfl) trivial rfl rfl fun a hs => ?_
                          refine st_val hs (y_eql rfl rfl) trivial rfl rfl fun a hs => ?_
                          refine st_val hs (y_move rfl) trivial rfl rfl fun a hs => ?_
                          refine wpl_join 3 (fun a w1 => w = w1 ∧ Sl 219 [(26, .pointer (some ⟨b812, 0, none⟩)), (28, .pointer (some ⟨b824, 0, none⟩)), (210, .bool ((rv802.2 == 0) && (rv814.2 == 0)))] a) ?_ ?_
                          · rcases Bool.eq_false_or_eq_true (rv802.2 == 0) with h825 | h825
                            · have hs := hs.fix 207 (.bool true) rfl (vb h825)
                              refine st_val hs (y_move rfl) ⟨_, rfl, rfl⟩ rfl rfl fun a hs => ?_
                              refine st_val hs (y_eql rfl rfl) ⟨_, rfl, rfl⟩ rfl rfl fun a hs => ?_
                              refine st_val hs (y_pickT rfl rfl) trivial rfl rfl fun a hs => ?_
                              refine wpList_nil ?_
                              refine then_normal ?_
                              exact ⟨rfl, (hs.fix 210 (.bool ((rv802.2 == 0) && (rv814.2 == 0))) rfl (and_t h825)).weaken _ ⟨rfl, rfl, rfl, trivial⟩⟩
                            · have hs := hs.fix 207 (.bool false) rfl (vb h825)
                              refine st_skip hs rfl rfl rfl rfl rfl fun a hs => ?_
                              refine st_skip hs rfl rfl rfl rfl rfl fun a hs => ?_
                              refine st_val hs (y_pickF rfl rfl) trivial rfl rfl fun a hs => ?_
                              refine wpList_nil ?_
                              refine then_normal ?_
                              exact ⟨rfl, (hs.fix 210 (.bool ((rv802.2 == 0) && (rv814.2 == 0))) rfl (and_f h825)).weaken _ ⟨rfl, rfl, rfl, trivial⟩⟩
                          · rintro a w1 ⟨h860, hs⟩
                            subst h860
                            refine st_val hs (y_move rfl) trivial rfl rfl fun a hs => ?_
                            obtain ⟨c835, hc835, hsh⟩ := bind_t hsh
                            refine wpl_join 4 (fun a w => ∃ (Sv836 : Nat → Prop), Sl 219 [(215, .bool c835)] a ∧ Wd ⟨w0, S0, []⟩ Sv836 [] [] w) ?_ ?_
                            · rcases Bool.eq_false_or_eq_true ((rv802.2 == 0) && (rv814.2 == 0)) with h834 | h834
                              · have hs := hs.fix 211 (.bool true) rfl (vb h834)
                                have hsh := ite_t hc835 h834
                                refine st_val hs (y_loadBA (hw.ownAt 2 rfl) rfl Try.isAgg32 Try.sizeOf32 rfl rfl) ⟨_, rfl, rfl⟩ rfl rfl fun a hs => ?_
                                refine st_val hs (y_loadBA (hw.ownAt 0 rfl) rfl Try.isAgg32 Try.sizeOf32 rfl rfl) ⟨_, rfl, rfl⟩ rfl rfl fun a hs => ?_
                                obtain ⟨rv838, h837, hsh⟩ := bind_t hsh
                                obtain ⟨Sv839, hw⟩ := w_share (α := Int) hw 3 rfl 1 rfl (.inl rfl)
                                obtain ⟨Sv840, hw⟩ := w_share (α := Int) hw 1 rfl 1 rfl (.inl rfl)
                                refine st_callR hs (record_Same_ok h837 hw.dom (hw.envAt 1 rfl) (hw.envAt 0 rfl)) (do_call Try.call17 rfl) ⟨_, rfl, rfl⟩ rfl rfl ?_
                                intro v844 Sv841 w a h842 h843 hs
                                subst h843
                                have hw := hw.call h842
                                refine st_val hs (y_pickT rfl rfl) trivial rfl rfl fun a hs => ?_
                                refine wpList_nil ?_
                                have hsh := Option.some.inj hsh
                                subst hsh
                                refine then_normal ?_
                                exact ⟨Sv841, (hs.wk rfl), (hw.ft [] [] (by decide) rfl rfl)⟩
                              · have hs := hs.fix 211 (.bool false) rfl (vb h834)
                                have hsh := ite_f hc835 h834
                                refine st_skip hs rfl rfl rfl rfl rfl fun a hs => ?_
                                refine st_skip hs rfl rfl rfl rfl rfl fun a hs => ?_
                                refine st_skip hs rfl rfl rfl rfl rfl fun a hs => ?_
                                refine st_val hs (y_pickF rfl rfl) trivial rfl rfl fun a hs => ?_
                                refine wpList_nil ?_
                                have hsh := Option.some.inj hsh
                                subst hsh
                                refine then_normal ?_
                                exact ⟨Sv820, (hs.wk rfl), (hw.ft [] [] (by decide) rfl rfl)⟩
                            · rintro a w ⟨Sv836, hs, hw⟩
                              refine st_val hs (y_move rfl) trivial rfl rfl fun a hs => ?_
                              obtain ⟨c852, hc852, hsh⟩ := bind_t hsh
                              refine wpl_join 2 (fun a w => ∃ (Sv853 : Nat → Prop), Sl 219 [(218, .bool c852)] a ∧ Wd ⟨w0, S0, []⟩ Sv853 [] [] w) ?_ ?_
                              · rcases Bool.eq_false_or_eq_true c835 with h851 | h851
                                · have hs := hs.fix 216 (.bool true) rfl (vb h851)
                                  have hsh := ite_t hc852 h851
                                  obtain ⟨rv855, h854, hsh⟩ := bind_t hsh
                                  refine st_callR hs (law14_sane_ok h854 hw.dom) (do_call Try.call8 rfl) ⟨_, rfl, rfl⟩ rfl rfl ?_
                                  intro v859 Sv856 w a h857 h858 hs
                                  subst h858
                                  have hw := hw.call h857
                                  refine st_val hs (y_pickT rfl rfl) trivial rfl rfl fun a hs => ?_
                                  refine wpList_nil ?_
                                  have hsh := Option.some.inj hsh
                                  subst hsh
                                  refine then_normal ?_
                                  exact ⟨Sv856, (hs.wk rfl), (hw.ft [] [] (by decide) rfl rfl)⟩
                                · have hs := hs.fix 216 (.bool false) rfl (vb h851)
                                  have hsh := ite_f hc852 h851
                                  refine st_skip hs rfl rfl rfl rfl rfl fun a hs => ?_
                                  refine st_val hs (y_pickF rfl rfl) trivial rfl rfl fun a hs => ?_
                                  refine wpList_nil ?_
                                  have hsh := Option.some.inj hsh
                                  subst hsh
                                  refine then_normal ?_
                                  exact ⟨Sv836, (hs.wk rfl), (hw.ft [] [] (by decide) rfl rfl)⟩
                              · rintro a w ⟨Sv853, hs, hw⟩
                                refine st_val hs (y_assign rfl) trivial rfl rfl fun a hs => ?_
                                refine wpList_nil ?_
                                refine then_normal ?_
                                have hsh := Option.some.inj hsh
                                subst hsh
                                refine wp_ret ?_
                                exact ret1 hs rfl (rv_tmp rfl) (hw.ret rfl)

end Go.Proofs.Ytdifjkamipeibaa.Wk

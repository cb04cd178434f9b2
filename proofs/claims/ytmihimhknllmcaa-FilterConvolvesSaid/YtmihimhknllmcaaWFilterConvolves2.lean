/- The walks of FilterConvolves, part 2: each Go function computes what its plain program computes. Printed by a program of ours. -/
import Derived.Test.YtmihimhknllmcaaProg
import Derived.Test.YtmihimhknllmcaaDat
import Derived.Test.YtmihimhknllmcaaSh
import Derived.Test.YtmihimhknllmcaaLibI
import Derived.KernelRfl
import Derived.Test.YtmihimhknllmcaaWFilterConvolves1
namespace Go.Proofs.Ytmihimhknllmcaa.Wk
open Go Go.RowKit Go.Proofs Go.Proofs.Ytmihimhknllmcaa.Sh
set_option linter.unusedVariables false
set_option linter.unusedSimpArgs false

abbrev law21_FilterConvolves_rd (w0 : World) (r : Bool) : (Nat → Prop) → World → Value → Prop := fun S w v => v = .bool r
set_option maxHeartbeats 4000000 in
set_option maxRecDepth 100000 in
theorem law21_FilterConvolves_ok {w0 : World} {S0 : Nat → Prop} {p2 : Option Addr} {k3 : Nat} {t1 : (List Int)} {r : Bool} (hsh : law21_FilterConvolves t1 = some r) (hS : ∀ b, S0 b → b < w0.heap.size) (h4 : (SlA p2 t1.length k3 t1).p S0 w0) : Calls Try.prog 5 #[.slice p2 t1.length k3] w0 (Ret [] w0 S0 (law21_FilterConvolves_rd w0 r)) := by
  refine calls_of_wp Try.func5 rfl ?_
  have hs := Sl.enter #[.slice p2 t1.length k3] 133 [(0, .slice p2 t1.length k3)] rfl ⟨rfl, trivial⟩
  have hw := Wd.enter (E := []) hS (fun _ h => (by cases h))
  have hw := hw.addE h4
  delta law21_FilterConvolves at hsh
  refine wp_seq ?_
  refine wp_region_lit ?_
  refine st_val hs (y_assign rfl) trivial rfl rfl fun a hs => ?_
  refine wpList_nil ?_
  refine then_normal ?_
  refine wp_seq ?_
  refine wp_seq ?_
  refine wp_region_lit ?_
  refine st_val hs (y_move rfl) trivial rfl rfl fun a hs => ?_
  obtain ⟨rv6, h5, hsh⟩ := bind_t hsh
  refine st_callR hs (made_Light_ok h5 hw.dom (hw.envAt 0 rfl)) (do_call Try.call10 rfl) trivial rfl rfl ?_
  intro v10 Sv7 w a h8 h9 hs
  subst h9
  have hw := hw.call h8
  refine st_val hs (y_not rfl) trivial rfl rfl fun a hs => ?_
  refine wpList_nil ?_
  refine then_normal ?_
  refine wp_cond_split (hs.ev rfl) (fun h18 => ?_) (fun h18 => ?_)
  · have hsh := ite_t hsh h18
    refine wp_seq ?_
    refine wp_region_lit ?_
    obtain ⟨rv20, h19, hsh⟩ := bind_t hsh
    refine st_callR hs (law21_sane_ok h19 hw.dom) (do_call Try.call11 rfl) trivial rfl rfl ?_
    intro v24 Sv21 w a h22 h23 hs
    subst h23
    have hw := hw.call h22
    refine st_val hs (y_assign rfl) trivial rfl rfl fun a hs => ?_
    refine wpList_nil ?_
    refine then_normal ?_
    have hsh := Option.some.inj hsh
    subst hsh
    refine wp_ret ?_
    refine then_ret ?_
    exact ret1 hs rfl (rv_tmp rfl) (hw.ret rfl)
  · have hsh := ite_f hsh h18
    refine wp_skip ?_
    refine then_normal ?_
    refine wp_seq ?_
    refine wp_region_lit ?_
    refine st_val hs (y_move rfl) trivial rfl rfl fun a hs => ?_
    obtain ⟨rv26, h25, hsh⟩ := bind_t hsh
    refine st_callR hs (made_Roll_ok h25 hw.dom (hw.envAt 0 rfl)) (do_call Try.call12 rfl) trivial rfl rfl ?_
    intro v35 Sv32 w a h33 h34 hs
    obtain ⟨b27, p29, k30, rfl, h28, h31⟩ := h34
    have hw := hw.callF h33 h28
    have hw := hw.addE (e := SlA p29 rv26.L.length k30 rv26.L) h31
    refine st_val hs (y_assign rfl) trivial rfl rfl fun a hs => ?_
    refine wpList_nil ?_
    refine then_normal ?_
    refine wp_seq ?_
    refine wp_region_lit ?_
    refine st_val hs (y_move rfl) trivial rfl rfl fun a hs => ?_
    obtain ⟨rv37, h36, hsh⟩ := bind_t hsh
    refine st_callR hs (made_Dice_Filter_ok h36 hw.dom (hw.ownAt 0 rfl) (hw.boxS 0 rfl) (hw.envAt 0 rfl)) (do_call Try.call13 rfl) trivial rfl rfl ?_
    intro v50 Sv47 w a h48 h49 hs
    obtain ⟨p38, k39, c40, p44, k45, rfl, h41, h42, h43, h46⟩ := h49
    have hw := hw.call1F 0 rfl h48 h43 h41
    have hw := hw.addE (e := RowA c40 rv37.1.Taps) h42
    have hw := hw.addE (e := SlA p44 rv37.2.L.length k45 rv37.2.L) h46
    refine st_val hs (y_move rfl) trivial rfl rfl fun a hs => ?_
    obtain ⟨rv52, h51, hsh⟩ := bind_t hsh
    refine st_callR hs (made_Dice_Filter_ok h51 hw.dom (hw.ownAt 1 rfl) (hw.boxS 1 rfl) (hw.envAt 0 rfl)) (do_call Try.call13 rfl) trivial rfl rfl ?_
    intro v65 Sv62 w a h63 h64 hs
    obtain ⟨p53, k54, c55, p59, k60, rfl, h56, h57, h58, h61⟩ := h64
    have hw := hw.call1F 1 rfl h63 h58 h56
    have hw := hw.addE (e := RowA c55 rv52.1.Taps) h57
    have hw := hw.addE (e := SlA p59 rv52.2.L.length k60 rv52.2.L) h61
    refine w_alloc (cs := [.slice none ([] : List Int).length 0, .int .i64 0, .int .i64 0]) hs hw Try.zeroValue28 rfl rfl trivial ?_
    intro b66 a w hs hw
    refine w_alloc (cs := [.slice none ([] : List Int).length 0, .int .i64 0, .int .i64 0]) hs hw Try.zeroValue28 rfl rfl trivial ?_
    intro b67 a w hs hw
    refine w_store (m := 3) (cs' := [.slice p38 rv37.1.Taps.length k39, .int .i64 rv37.1.Factor, .int .i64 rv37.1.Shift]) hs hw 1 rfl rfl rfl Try.sizeOf28 rfl rfl rfl rfl trivial ?_
    intro a w hs hw
    refine w_store (m := 3) (cs' := [.slice p53 rv52.1.Taps.length k54, .int .i64 rv52.1.Factor, .int .i64 rv52.1.Shift]) hs hw 0 rfl rfl rfl Try.sizeOf28 rfl rfl rfl rfl trivial ?_
    intro a w hs hw
    refine wpList_nil ?_
    refine then_normal ?_
    refine wp_seq ?_
    refine wp_region_lit ?_
    refine st_val hs (y_fieldAddr (o' := 1) Try.runUnderlying28 rfl Try.sizeOf3 rfl rfl rfl) trivial rfl rfl fun a hs => ?_
    refine w_store (m := 1) (cs' := [.slice p38 rv37.1.Taps.length k39, .int .i64 1, .int .i64 rv37.1.Shift]) hs hw 1 rfl rfl rfl Try.sizeOf3 rfl rfl rfl rfl trivial ?_
    intro a w hs hw
    refine st_val hs (y_fieldAddr (o' := 1) Try.runUnderlying28 rfl Try.sizeOf3 rfl rfl rfl) trivial rfl rfl fun a hs => ?_
    refine w_store (m := 1) (cs' := [.slice p53 rv52.1.Taps.length k54, .int .i64 1, .int .i64 rv52.1.Shift]) hs hw 0 rfl rfl rfl Try.sizeOf3 rfl rfl rfl rfl trivial ?_
    intro a w hs hw
    refine wpList_nil ?_
    refine then_normal ?_
    refine wp_seq ?_
    refine wp_region_lit ?_
    refine st_val hs (y_loadBA (hw.ownAt 1 rfl) rfl Try.isAgg28 Try.sizeOf28 rfl rfl) trivial rfl rfl fun a hs => ?_
    refine st_val hs (y_loadBA (hw.ownAt 0 rfl) rfl Try.isAgg28 Try.sizeOf28 rfl rfl) trivial rfl rfl fun a hs => ?_
    obtain ⟨rv69, h68, hsh⟩ := bind_t hsh
    obtain ⟨Sv75, hw⟩ := w_share (α := Int) hw 3 rfl 3 rfl (.inl rfl)
    obtain ⟨Sv76, hw⟩ := w_share (α := Int) hw 2 rfl 2 rfl (.inl rfl)
    refine st_callR hs (filter_Convolve_ok h68 hw.dom (hw.envAt 1 rfl) (hw.envAt 0 rfl)) (do_call Try.call18 rfl) trivial rfl rfl ?_
    intro v80 Sv77 w a h78 h79 hs
    obtain ⟨p70, k71, c72, rfl, h73, h74⟩ := h79
    have hw := hw.callF h78 h73
    have hw := hw.addE (e := RowA c72 rv69.1.Taps) h74
    refine st_val hs (y_move rfl) trivial rfl rfl fun a hs => ?_
    refine st_val hs (y_extract rfl rfl) trivial rfl rfl fun a hs => ?_
    refine st_val hs (y_extract rfl rfl) trivial rfl rfl fun a hs => ?_
    refine w_alloc (cs := [.slice none ([] : List Int).length 0, .int .i64 0, .int .i64 0]) hs hw Try.zeroValue28 rfl rfl trivial ?_
    intro b81 a w hs hw
    refine w_store (m := 3) (cs' := [.slice p70 rv69.1.Taps.length k71, .int .i64 rv69.1.Factor, .int .i64 rv69.1.Shift]) hs hw 0 rfl rfl rfl Try.sizeOf28 rfl rfl rfl rfl trivial ?_
    intro a w hs hw
    refine st_val hs (y_assign rfl) trivial rfl rfl fun a hs => ?_
    refine wpList_nil ?_
    refine then_normal ?_
    refine wp_seq ?_
    refine wp_region_lit ?_
    refine st_val hs (y_loadBA (hw.ownAt 2 rfl) rfl Try.isAgg28 Try.sizeOf28 rfl rfl) trivial rfl rfl fun a hs => ?_
    refine st_val hs (y_loadBA (hw.ownAt 3 rfl) rfl Try.isAgg28 Try.sizeOf28 rfl rfl) trivial rfl rfl fun a hs => ?_
    obtain ⟨rv83, h82, hsh⟩ := bind_t hsh
    refine st_callR hs (filter_Convolve_ok h82 hw.dom (hw.envAt 1 rfl) (hw.envAt 2 rfl)) (do_call Try.call18 rfl) trivial rfl rfl ?_
    intro v92 Sv89 w a h90 h91 hs
    obtain ⟨p84, k85, c86, rfl, h87, h88⟩ := h91
    have hw := hw.callF h90 h87
    have hw := hw.addE (e := RowA c86 rv83.1.Taps) h88
    refine st_val hs (y_move rfl) trivial rfl rfl fun a hs => ?_
    refine st_val hs (y_extract rfl rfl) trivial rfl rfl fun a hs => ?_
    refine st_val hs (y_extract rfl rfl) trivial rfl rfl fun a hs => ?_
    refine w_alloc (cs := [.slice none ([] : List Int).length 0, .int .i64 0, .int .i64 0]) hs hw Try.zeroValue28 rfl rfl trivial ?_
    intro b93 a w hs hw
    refine w_store (m := 3) (cs' := [.slice p84 rv83.1.Taps.length k85, .int .i64 rv83.1.Factor, .int .i64 rv83.1.Shift]) hs hw 0 rfl rfl rfl Try.sizeOf28 rfl rfl rfl rfl trivial ?_
    intro a w hs hw
    refine st_val hs (y_assign rfl) trivial rfl rfl fun a hs => ?_
    refine wpList_nil ?_
    refine then_normal ?_
    refine wp_seq ?_
    refine wp_region_lit ?_
    refine st_val hs (y_move rfl) trivial rfl rfl fun a hs => ?_
    obtain ⟨rv95, h94, hsh⟩ := bind_t hsh
    refine st_callR hs (made_Dice_Samples_ok h94 hw.dom (hw.ownAt 6 rfl) (hw.boxS 6 rfl) (hw.envAt 4 rfl)) (do_call Try.call16 rfl) trivial rfl rfl ?_
    intro v108 Sv105 w a h106 h107 hs
    obtain ⟨p96, k97, c98, p102, k103, rfl, h99, h100, h101, h104⟩ := h107
    have hw := hw.call1F 6 rfl h106 h101 h99
    have hw := hw.addE (e := RowA c98 rv95.1) h100
    have hw := hw.addE (e := SlA p102 rv95.2.L.length k103 rv95.2.L) h104
    refine st_val hs (y_assign rfl) trivial rfl rfl fun a hs => ?_
    refine wpList_nil ?_
    refine then_normal ?_
    refine wp_seq ?_
    refine wp_region_lit ?_
    refine st_val hs (y_loadBA (hw.ownAt 6 rfl) rfl Try.isAgg28 Try.sizeOf28 rfl rfl) trivial rfl rfl fun a hs => ?_
    refine st_val hs (y_move rfl) trivial rfl rfl fun a hs => ?_
    obtain ⟨rv110, h109, hsh⟩ := bind_t hsh
    obtain ⟨Sv116, hw⟩ := w_share (α := Int) hw 0 rfl 1 rfl (.inl rfl)
    refine st_callR hs (filter_Apply_ok h109 hw.dom (hw.envAt 6 rfl) (hw.envAt 0 rfl)) (do_call Try.call14 rfl) trivial rfl rfl ?_
    intro v120 Sv117 w a h118 h119 hs
    obtain ⟨p111, k112, c113, rfl, h114, h115⟩ := h119
    have hw := hw.callF h118 h114
    have hw := hw.addE (e := RowA c113 rv110.1) h115
    refine st_val hs (y_move rfl) trivial rfl rfl fun a hs => ?_
    refine st_val hs (y_extract rfl rfl) trivial rfl rfl fun a hs => ?_
    refine st_val hs (y_extract rfl rfl) trivial rfl rfl fun a hs => ?_
    refine st_val hs (y_assign rfl) trivial rfl rfl fun a hs => ?_
    refine st_val hs (y_assign rfl) trivial rfl rfl fun a hs => ?_
    refine wpList_nil ?_
    refine then_normal ?_
    refine wp_seq ?_
    refine wp_region_lit ?_
    refine st_val hs (y_loadBA (hw.ownAt 5 rfl) rfl Try.isAgg28 Try.sizeOf28 rfl rfl) trivial rfl rfl fun a hs => ?_
    refine st_val hs (y_move rfl) trivial rfl rfl fun a hs => ?_
    obtain ⟨rv122, h121, hsh⟩ := bind_t hsh
    obtain ⟨Sv128, hw⟩ := w_share (α := Int) hw 0 rfl 0 rfl (.inl rfl)
    refine st_callR hs (filter_Apply_ok h121 hw.dom (hw.envAt 7 rfl) (hw.envAt 0 rfl)) (do_call Try.call14 rfl) trivial rfl rfl ?_
    intro v132 Sv129 w a h130 h131 hs
    obtain ⟨p123, k124, c125, rfl, h126, h127⟩ := h131
    have hw := hw.callF h130 h126
    have hw := hw.addE (e := RowA c125 rv122.1) h127
    refine st_val hs (y_move rfl) trivial rfl rfl fun a hs => ?_
    refine st_val hs (y_extract rfl rfl) trivial rfl rfl fun a hs => ?_
    refine st_val hs (y_extract rfl rfl) trivial rfl rfl fun a hs => ?_
    refine st_val hs (y_assign rfl) trivial rfl rfl fun a hs => ?_
    refine st_val hs (y_assign rfl) trivial rfl rfl fun a hs => ?_
    refine wpList_nil ?_
    refine then_normal ?_
    refine wp_seq ?_
    refine wp_region_lit ?_
    refine st_val hs (y_loadBA (hw.ownAt 3 rfl) rfl Try.isAgg28 Try.sizeOf28 rfl rfl) trivial rfl rfl fun a hs => ?_
    refine st_val hs (y_move rfl) trivial rfl rfl fun a hs => ?_
    obtain ⟨rv134, h133, hsh⟩ := bind_t hsh
    obtain ⟨Sv140, hw⟩ := w_share (α := Int) hw 4 rfl 7 rfl (.inl rfl)
    refine st_callR hs (filter_Apply_ok h133 hw.dom (hw.envAt 0 rfl) (hw.envAt 4 rfl)) (do_call Try.call14 rfl) trivial rfl rfl ?_
    intro v144 Sv141 w a h142 h143 hs
    obtain ⟨p135, k136, c137, rfl, h138, h139⟩ := h143
    have hw := hw.callF h142 h138
    have hw := hw.addE (e := RowA c137 rv134.1) h139
    refine st_val hs (y_move rfl) trivial rfl rfl fun a hs => ?_
    refine st_val hs (y_extract rfl rfl) trivial rfl rfl fun a hs => ?_
    refine st_val hs (y_extract rfl rfl) trivial rfl rfl fun a hs => ?_
    refine st_val hs (y_assign rfl) trivial rfl rfl fun a hs => ?_
    refine st_val hs (y_assign rfl) trivial rfl rfl fun a hs => ?_
    refine wpList_nil ?_
    refine then_normal ?_
    refine wp_seq ?_
    refine wp_seq ?_
    refine wp_region_lit ?_
    refine st_val hs (y_move rfl) trivial rfl rfl fun a hs => ?_
    refine st_val hs (y_neq rfl rfl) trivial rfl rfl fun a hs => ?_
    refine st_val hs (y_move rfl) trivial rfl rfl fun a hs => ?_
    refine wpl_join 3 (fun a w1 => w = w1 ∧ Sl 133 [(4, .pointer (some ⟨b66, 0, none⟩)), (5, .pointer (some ⟨b67, 0, none⟩)), (6, .pointer (some ⟨b81, 0, none⟩)), (8, .pointer (some ⟨b93, 0, none⟩)), (12, .int .i64 rv110.2), (13, .slice p123 rv122.1.length k124), (14, .int .i64 rv122.2), (15, .slice p135 rv134.1.length k136), (16, .int .i64 rv134.2), (68, .bool ((rv69.2 != 0) || (rv83.2 != 0)))] a) ?_ ?_
    · rcases Bool.eq_false_or_eq_true (rv69.2 != 0) with h145 | h145
      · have hs := hs.fix 65 (.bool true) rfl (vb h145)
        refine st_skip hs rfl rfl rfl rfl rfl fun a hs => ?_
        refine st_skip hs rfl rfl rfl rfl rfl fun a hs => ?_
        refine st_val hs (y_pickT rfl rfl) trivial rfl rfl fun a hs => ?_
        refine wpList_nil ?_
        refine then_normal ?_
        exact ⟨rfl, (hs.fix 68 (.bool ((rv69.2 != 0) || (rv83.2 != 0))) rfl (or_t h145)).weaken _ ⟨rfl, rfl, rfl, rfl, rfl, rfl, rfl, rfl, rfl, rfl, trivial⟩⟩
      · have hs := hs.fix 65 (.bool false) rfl (vb h145)
        refine st_val hs (y_move rfl) ⟨_, rfl, rfl⟩ rfl rfl fun a hs => ?_
        refine st_val hs (y_neq rfl rfl) ⟨_, rfl, rfl⟩ rfl rfl fun a hs => ?_
        refine st_val hs (y_pickF rfl rfl) trivial rfl rfl fun a hs => ?_
        refine wpList_nil ?_
        refine then_normal ?_
        exact ⟨rfl, (hs.fix 68 (.bool ((rv69.2 != 0) || (rv83.2 != 0))) rfl (or_f h145)).weaken _ ⟨rfl, rfl, rfl, rfl, rfl, rfl, rfl, rfl, rfl, rfl, trivial⟩⟩
    · rintro a w1 ⟨h713, hs⟩
      subst h713
      refine st_val hs (y_move rfl) trivial rfl rfl fun a hs => ?_
      refine wpl_join 3 (fun a w1 => w = w1 ∧ Sl 133 [(4, .pointer (some ⟨b66, 0, none⟩)), (5, .pointer (some ⟨b67, 0, none⟩)), (6, .pointer (some ⟨b81, 0, none⟩)), (8, .pointer (some ⟨b93, 0, none⟩)), (13, .slice p123 rv122.1.length k124), (14, .int .i64 rv122.2), (15, .slice p135 rv134.1.length k136), (16, .int .i64 rv134.2), (72, .bool (((rv69.2 != 0) || (rv83.2 != 0)) || (rv110.2 != 0)))] a) ?_ ?_
      · rcases Bool.eq_false_or_eq_true ((rv69.2 != 0) || (rv83.2 != 0)) with h146 | h146
        · have hs := hs.fix 69 (.bool true) rfl (vb h146)
          refine st_skip hs rfl rfl rfl rfl rfl fun a hs => ?_
          refine st_skip hs rfl rfl rfl rfl rfl fun a hs => ?_
          refine st_val hs (y_pickT rfl rfl) trivial rfl rfl fun a hs => ?_
          refine wpList_nil ?_
          refine then_normal ?_
          exact ⟨rfl, (hs.fix 72 (.bool (((rv69.2 != 0) || (rv83.2 != 0)) || (rv110.2 != 0))) rfl (or_t h146)).weaken _ ⟨rfl, rfl, rfl, rfl, rfl, rfl, rfl, rfl, rfl, trivial⟩⟩
        · have hs := hs.fix 69 (.bool false) rfl (vb h146)
          refine st_val hs (y_move rfl) ⟨_, rfl, rfl⟩ rfl rfl fun a hs => ?_
          refine st_val hs (y_neq rfl rfl) ⟨_, rfl, rfl⟩ rfl rfl fun a hs => ?_
          refine st_val hs (y_pickF rfl rfl) trivial rfl rfl fun a hs => ?_
          refine wpList_nil ?_
          refine then_normal ?_
          exact ⟨rfl, (hs.fix 72 (.bool (((rv69.2 != 0) || (rv83.2 != 0)) || (rv110.2 != 0))) rfl (or_f h146)).weaken _ ⟨rfl, rfl, rfl, rfl, rfl, rfl, rfl, rfl, rfl, trivial⟩⟩
      · rintro a w1 ⟨h712, hs⟩
        subst h712
        refine st_val hs (y_move rfl) trivial rfl rfl fun a hs => ?_
        refine wpl_join 3 (fun a w1 => w = w1 ∧ Sl 133 [(4, .pointer (some ⟨b66, 0, none⟩)), (5, .pointer (some ⟨b67, 0, none⟩)), (6, .pointer (some ⟨b81, 0, none⟩)), (8, .pointer (some ⟨b93, 0, none⟩)), (13, .slice p123 rv122.1.length k124), (15, .slice p135 rv134.1.length k136), (16, .int .i64 rv134.2), (76, .bool ((((rv69.2 != 0) || (rv83.2 != 0)) || (rv110.2 != 0)) || (rv122.2 != 0)))] a) ?_ ?_
        · rcases Bool.eq_false_or_eq_true (((rv69.2 != 0) || (rv83.2 != 0)) || (rv110.2 != 0)) with h147 | h147
          · have hs := hs.fix 73 (.bool true) rfl (vb h147)
            refine st_skip hs rfl rfl rfl rfl rfl fun a hs => ?_
            refine st_skip hs rfl rfl rfl rfl rfl fun a hs => ?_
            refine st_val hs (y_pickT rfl rfl) trivial rfl rfl fun a hs => ?_
            refine wpList_nil ?_
            refine then_normal ?_
            exact ⟨rfl, (hs.fix 76 (.bool ((((rv69.2 != 0) || (rv83.2 != 0)) || (rv110.2 != 0)) || (rv122.2 != 0))) rfl (or_t h147)).weaken _ ⟨rfl, rfl, rfl, rfl, rfl, rfl, rfl, rfl, trivial⟩⟩
          · have hs := hs.fix 73 (.bool false) rfl (vb h147)
            refine st_val hs (y_move rfl) ⟨_, rfl, rfl⟩ rfl rfl fun a hs => ?_
            refine st_val hs (y_neq rfl rfl) ⟨_, rfl, rfl⟩ rfl rfl fun a hs => ?_
            refine st_val hs (y_pickF rfl rfl) trivial rfl rfl fun a hs => ?_
            refine wpList_nil ?_
            refine then_normal ?_
            exact ⟨rfl, (hs.fix 76 (.bool ((((rv69.2 != 0) || (rv83.2 != 0)) || (rv110.2 != 0)) || (rv122.2 != 0))) rfl (or_f h147)).weaken _ ⟨rfl, rfl, rfl, rfl, rfl, rfl, rfl, rfl, trivial⟩⟩
        · rintro a w1 ⟨h711, hs⟩
          subst h711
          refine st_val hs (y_move rfl) trivial rfl rfl fun a hs => ?_
          refine wpl_join 3 (fun a w1 => w = w1 ∧ Sl 133 [(4, .pointer (some ⟨b66, 0, none⟩)), (5, .pointer (some ⟨b67, 0, none⟩)), (6, .pointer (some ⟨b81, 0, none⟩)), (8, .pointer (some ⟨b93, 0, none⟩)), (13, .slice p123 rv122.1.length k124), (15, .slice p135 rv134.1.length k136), (80, .bool (((((rv69.2 != 0) || (rv83.2 != 0)) || (rv110.2 != 0)) || (rv122.2 != 0)) || (rv134.2 != 0)))] a) ?_ ?_
          · rcases Bool.eq_false_or_eq_true ((((rv69.2 != 0) || (rv83.2 != 0)) || (rv110.2 != 0)) || (rv122.2 != 0)) with h148 | h148
            · have hs := hs.fix 77 (.bool true) rfl (vb h148)
              refine st_skip hs rfl rfl rfl rfl rfl fun a hs => ?_
              refine st_skip hs rfl rfl rfl rfl rfl fun a hs => ?_
              refine st_val hs (y_pickT rfl rfl) trivial rfl rfl fun a hs => ?_
              refine wpList_nil ?_
              refine then_normal ?_
              exact ⟨rfl, (hs.fix 80 (.bool (((((rv69.2 != 0) || (rv83.2 != 0)) || (rv110.2 != 0)) || (rv122.2 != 0)) || (rv134.2 != 0))) rfl (or_t h148)).weaken _ ⟨rfl, rfl, rfl, rfl, rfl, rfl, rfl, trivial⟩⟩
            · have hs := hs.fix 77 (.bool false) rfl (vb h148)
              refine st_val hs (y_move rfl) ⟨_, rfl, rfl⟩ rfl rfl fun a hs => ?_
              refine st_val hs (y_neq rfl rfl) ⟨_, rfl, rfl⟩ rfl rfl fun a hs => ?_
              refine st_val hs (y_pickF rfl rfl) trivial rfl rfl fun a hs => ?_
              refine wpList_nil ?_
              refine then_normal ?_
              exact ⟨rfl, (hs.fix 80 (.bool (((((rv69.2 != 0) || (rv83.2 != 0)) || (rv110.2 != 0)) || (rv122.2 != 0)) || (rv134.2 != 0))) rfl (or_f h148)).weaken _ ⟨rfl, rfl, rfl, rfl, rfl, rfl, rfl, trivial⟩⟩
          · rintro a w1 ⟨h710, hs⟩
            subst h710
            refine st_val hs (y_move rfl) trivial rfl rfl fun a hs => ?_
            obtain ⟨c157, hc157, hsh⟩ := bind_t hsh
            refine wpl_join 5 (fun a w => ∃ (Sv158 : Nat → Prop), Sl 133 [(4, .pointer (some ⟨b66, 0, none⟩)), (5, .pointer (some ⟨b67, 0, none⟩)), (6, .pointer (some ⟨b81, 0, none⟩)), (13, .slice p123 rv122.1.length k124), (15, .slice p135 rv134.1.length k136), (86, .bool c157)] a ∧ Wd ⟨w0, S0, []⟩ Sv158 [.box b66 [.slice p38 rv37.1.Taps.length k39, .int .i64 1, .int .i64 rv37.1.Shift] 28, .box b67 [.slice p53 rv52.1.Taps.length k54, .int .i64 1, .int .i64 rv52.1.Shift] 28, .box b81 [.slice p70 rv69.1.Taps.length k71, .int .i64 rv69.1.Factor, .int .i64 rv69.1.Shift] 28, .row p123 rv122.1.length k124 c125 3 1, .row p135 rv134.1.length k136 c137 3 1] [SlA p38 rv37.1.Taps.length k39 rv37.1.Taps, SlA p53 rv52.1.Taps.length k54 rv52.1.Taps, SlA p70 rv69.1.Taps.length k71 rv69.1.Taps, RowA c125 rv122.1, RowA c137 rv134.1] w) ?_ ?_
            · rcases Bool.eq_false_or_eq_true (((((rv69.2 != 0) || (rv83.2 != 0)) || (rv110.2 != 0)) || (rv122.2 != 0)) || (rv134.2 != 0)) with h156 | h156
              · have hs := hs.fix 81 (.bool true) rfl (vb h156)
                have hsh := ite_t hc157 h156
                refine st_skip hs rfl rfl rfl rfl rfl fun a hs => ?_
                refine st_skip hs rfl rfl rfl rfl rfl fun a hs => ?_
                refine st_skip hs rfl rfl rfl rfl rfl fun a hs => ?_
                refine st_skip hs rfl rfl rfl rfl rfl fun a hs => ?_
                refine st_val hs (y_pickT rfl rfl) trivial rfl rfl fun a hs => ?_
                refine wpList_nil ?_
                have hsh := Option.some.inj hsh
                subst hsh
                refine then_normal ?_
                exact ⟨Sv141, (hs.weaken _ ⟨rfl, rfl, rfl, rfl, rfl, rfl, trivial⟩), (hw.fit [6, 5, 4, 1, 0] (by decide) ⟨rfl, rfl, rfl, rfl, rfl, trivial⟩ ⟨⟨11, rfl⟩, ⟨10, rfl⟩, ⟨1, rfl⟩, ⟨2, rfl⟩, ⟨0, rfl⟩, trivial⟩)⟩
              · have hs := hs.fix 81 (.bool false) rfl (vb h156)
                have hsh := ite_f hc157 h156
                refine st_val hs (y_loadBA (hw.ownAt 4 rfl) rfl Try.isAgg28 Try.sizeOf28 rfl rfl) ⟨_, rfl, rfl⟩ rfl rfl fun a hs => ?_
                refine st_val hs (y_loadBA (hw.ownAt 2 rfl) rfl Try.isAgg28 Try.sizeOf28 rfl rfl) ⟨_, rfl, rfl⟩ rfl rfl fun a hs => ?_
                obtain ⟨rv160, h159, hsh⟩ := bind_t hsh
                obtain ⟨Sv161, hw⟩ := w_share (α := Int) hw 3 rfl 8 rfl (.inl rfl)
                refine st_callR hs (ref21_Same_ok h159 hw.dom (hw.envAt 2 rfl) (hw.envAt 0 rfl)) (do_call Try.call19 rfl) ⟨_, rfl, rfl⟩ rfl rfl ?_
                intro v165 Sv162 w a h163 h164 hs
                subst h164
                have hw := hw.call h163
                refine st_val hs (y_not rfl) ⟨_, rfl, rfl⟩ rfl rfl fun a hs => ?_
                refine st_val hs (y_pickF rfl rfl) trivial rfl rfl fun a hs => ?_
                refine wpList_nil ?_
                have hsh := Option.some.inj hsh
                subst hsh
                refine then_normal ?_
                exact ⟨Sv162, (hs.weaken _ ⟨rfl, rfl, rfl, rfl, rfl, rfl, trivial⟩), (hw.fit [5, 4, 3, 1, 0] (by decide) ⟨rfl, rfl, rfl, rfl, rfl, trivial⟩ ⟨⟨12, rfl⟩, ⟨11, rfl⟩, ⟨2, rfl⟩, ⟨3, rfl⟩, ⟨1, rfl⟩, trivial⟩)⟩
            · rintro a w ⟨Sv158, hs, hw⟩
              refine st_val hs (y_move rfl) trivial rfl rfl fun a hs => ?_
              obtain ⟨c173, hc173, hsh⟩ := bind_t hsh
              refine wpl_join 4 (fun a w => ∃ (Sv174 : Nat → Prop), Sl 133 [(4, .pointer (some ⟨b66, 0, none⟩)), (5, .pointer (some ⟨b67, 0, none⟩)), (13, .slice p123 rv122.1.length k124), (15, .slice p135 rv134.1.length k136), (91, .bool c173)] a ∧ Wd ⟨w0, S0, []⟩ Sv174 [.box b66 [.slice p38 rv37.1.Taps.length k39, .int .i64 1, .int .i64 rv37.1.Shift] 28, .box b67 [.slice p53 rv52.1.Taps.length k54, .int .i64 1, .int .i64 rv52.1.Shift] 28, .row p123 rv122.1.length k124 c125 3 1, .row p135 rv134.1.length k136 c137 3 1] [SlA p38 rv37.1.Taps.length k39 rv37.1.Taps, SlA p53 rv52.1.Taps.length k54 rv52.1.Taps, RowA c125 rv122.1, RowA c137 rv134.1] w) ?_ ?_
              · rcases Bool.eq_false_or_eq_true c157 with h172 | h172
                · have hs := hs.fix 87 (.bool true) rfl (vb h172)
                  have hsh := ite_t hc173 h172
                  refine st_skip hs rfl rfl rfl rfl rfl fun a hs => ?_
                  refine st_skip hs rfl rfl rfl rfl rfl fun a hs => ?_
                  refine st_skip hs rfl rfl rfl rfl rfl fun a hs => ?_
                  refine st_val hs (y_pickT rfl rfl) trivial rfl rfl fun a hs => ?_
                  refine wpList_nil ?_
                  have hsh := Option.some.inj hsh
                  subst hsh
                  refine then_normal ?_
                  exact ⟨Sv158, (hs.weaken _ ⟨rfl, rfl, rfl, rfl, rfl, trivial⟩), (hw.fit [0, 1, 3, 4] (by decide) ⟨rfl, rfl, rfl, rfl, trivial⟩ ⟨⟨0, rfl⟩, ⟨1, rfl⟩, ⟨3, rfl⟩, ⟨4, rfl⟩, trivial⟩)⟩
                · have hs := hs.fix 87 (.bool false) rfl (vb h172)
                  have hsh := ite_f hc173 h172
                  refine st_val hs (y_loadBA (hw.ownAt 2 rfl) rfl Try.isAgg28 Try.sizeOf28 rfl rfl) ⟨_, rfl, rfl⟩ rfl rfl fun a hs => ?_
                  obtain ⟨rv176, h175, hsh⟩ := bind_t hsh
                  refine st_callR hs (ref21_Valid_ok h175 hw.dom (hw.envAt 2 rfl)) (do_call Try.call20 rfl) ⟨_, rfl, rfl⟩ rfl rfl ?_
                  intro v180 Sv177 w a h178 h179 hs
                  subst h179
                  have hw := hw.call h178
                  refine st_val hs (y_not rfl) ⟨_, rfl, rfl⟩ rfl rfl fun a hs => ?_
                  refine st_val hs (y_pickF rfl rfl) trivial rfl rfl fun a hs => ?_
                  refine wpList_nil ?_
                  have hsh := Option.some.inj hsh
                  subst hsh
                  refine then_normal ?_
                  exact ⟨Sv177, (hs.weaken _ ⟨rfl, rfl, rfl, rfl, rfl, trivial⟩), (hw.fit [0, 1, 3, 4] (by decide) ⟨rfl, rfl, rfl, rfl, trivial⟩ ⟨⟨0, rfl⟩, ⟨1, rfl⟩, ⟨3, rfl⟩, ⟨4, rfl⟩, trivial⟩)⟩
              · rintro a w ⟨Sv174, hs, hw⟩
                refine st_val hs (y_move rfl) trivial rfl rfl fun a hs => ?_
                refine wpl_join 6 (fun a w1 => w = w1 ∧ Sl 133 [(4, .pointer (some ⟨b66, 0, none⟩)), (5, .pointer (some ⟨b67, 0, none⟩)), (13, .slice p123 rv122.1.length k124), (15, .slice p135 rv134.1.length k136), (98, .bool (c173 || ((rv134.1.length : Int) != (rv122.1.length : Int))))] a) ?_ ?_
                · rcases Bool.eq_false_or_eq_true c173 with h181 | h181
                  · have hs := hs.fix 92 (.bool true) rfl (vb h181)
                    refine st_skip hs rfl rfl rfl rfl rfl fun a hs => ?_
                    refine st_skip hs rfl rfl rfl rfl rfl fun a hs => ?_
                    refine st_skip hs rfl rfl rfl rfl rfl fun a hs => ?_
                    refine st_skip hs rfl rfl rfl rfl rfl fun a hs => ?_
                    refine st_skip hs rfl rfl rfl rfl rfl fun a hs => ?_
                    refine st_val hs (y_pickT rfl rfl) trivial rfl rfl fun a hs => ?_
                    refine wpList_nil ?_
                    refine then_normal ?_
                    exact ⟨rfl, (hs.fix 98 (.bool (c173 || ((rv134.1.length : Int) != (rv122.1.length : Int)))) rfl (or_t h181)).weaken _ ⟨rfl, rfl, rfl, rfl, rfl, trivial⟩⟩
                  · have hs := hs.fix 92 (.bool false) rfl (vb h181)
                    refine st_val hs (y_move rfl) ⟨_, rfl, rfl⟩ rfl rfl fun a hs => ?_
                    refine st_val hs (y_len Try.runUnderlying22 rfl) ⟨_, rfl, rfl⟩ rfl rfl fun a hs => ?_
                    refine st_val hs (y_move rfl) ⟨_, rfl, rfl⟩ rfl rfl fun a hs => ?_
                    refine st_val hs (y_len Try.runUnderlying22 rfl) ⟨_, rfl, rfl⟩ rfl rfl fun a hs => ?_
                    refine st_val hs (y_neq rfl rfl) ⟨_, rfl, rfl⟩ rfl rfl fun a hs => ?_
                    refine st_val hs (y_pickF rfl rfl) trivial rfl rfl fun a hs => ?_
                    refine wpList_nil ?_
                    refine then_normal ?_
                    exact ⟨rfl, (hs.fix 98 (.bool (c173 || ((rv134.1.length : Int) != (rv122.1.length : Int)))) rfl (or_f h181)).weaken _ ⟨rfl, rfl, rfl, rfl, rfl, trivial⟩⟩
                · rintro a w1 ⟨h709, hs⟩
                  subst h709
                  refine wpList_nil ?_
                  refine then_normal ?_
                  refine wp_cond_split (hs.ev rfl) (fun h183 => ?_) (fun h183 => ?_)
                  · have hsh := ite_t hsh h183
                    refine wp_seq ?_
                    refine wp_region_lit ?_
                    refine st_val hs (y_assign rfl) trivial rfl rfl fun a hs => ?_
                    refine wpList_nil ?_
                    refine then_normal ?_
                    have hsh := Option.some.inj hsh
                    subst hsh
                    refine wp_ret ?_
                    refine then_ret ?_
                    exact ret1 hs rfl (rv_tmp rfl) (hw.ret rfl)
                  · have hsh := ite_f hsh h183
                    refine wp_skip ?_
                    refine then_normal ?_
                    refine wp_seq ?_
                    refine wp_seq ?_
                    refine wp_region_lit ?_
                    refine st_val hs (y_move rfl) trivial rfl rfl fun a hs => ?_
                    refine st_val hs (y_len Try.runUnderlying22 rfl) trivial rfl rfl fun a hs => ?_
                    refine st_val hs (y_move rfl) trivial rfl rfl fun a hs => ?_
                    refine wpList_nil ?_
                    refine then_normal ?_
                    refine wp_block ?_
                    refine wp_while (fun sv405 a w => ∃ (Sv551 : Nat → Prop), Sl 133 [(4, .pointer (some ⟨b66, 0, none⟩)), (5, .pointer (some ⟨b67, 0, none⟩)), (13, .slice p123 rv122.1.length k124), (15, .slice p135 rv134.1.length k136), (100, .int .i64 (rv134.1.length : Int)), (101, .int .i64 sv405)] a ∧ Wd ⟨w0, S0, []⟩ Sv551 [.box b66 [.slice p38 rv37.1.Taps.length k39, .int .i64 1, .int .i64 rv37.1.Shift] 28, .box b67 [.slice p53 rv52.1.Taps.length k54, .int .i64 1, .int .i64 rv52.1.Shift] 28, .row p123 rv122.1.length k124 c125 3 1, .row p135 rv134.1.length k136 c137 3 1] [SlA p38 rv37.1.Taps.length k39 rv37.1.Taps, SlA p53 rv52.1.Taps.length k54 rv52.1.Taps, RowA c125 rv122.1, RowA c137 rv134.1] w) 0 hsh ⟨Sv174, (hs.weaken _ ⟨rfl, rfl, rfl, rfl, rfl, rfl, trivial⟩), (hw.fit [0, 1, 2, 3] (by decide) ⟨rfl, rfl, rfl, rfl, trivial⟩ ⟨⟨0, rfl⟩, ⟨1, rfl⟩, ⟨2, rfl⟩, ⟨3, rfl⟩, trivial⟩)⟩ ?_
                    repeat clear hsh
                    rintro sv405 a w tv625 ⟨Sv551, hs, hw⟩ hsh hd624
                    delta law21_FilterConvolves_l2 at hsh
                    refine wp_seq ?_
                    refine wp_region_lit ?_
                    refine st_val hs (y_lss rfl rfl) trivial rfl rfl fun a hs => ?_
                    refine wpList_nil ?_
                    refine then_normal ?_
                    refine wp_seq ?_
                    refine wp_cond_split (hs.ev rfl) (fun h629 => ?_) (fun h629 => ?_)
                    · have hsh := ite_t hsh h629
                      refine wp_skip ?_
                      refine then_normal ?_
                      refine wp_seq ?_
                      refine wp_block ?_
                      refine wp_seq ?_
                      refine wp_region_lit ?_
                      refine st_val hs (y_move rfl) trivial rfl rfl fun a hs => ?_
                      refine st_val hs (y_assign rfl) trivial rfl rfl fun a hs => ?_
                      refine wpList_nil ?_
                      refine then_normal ?_
                      refine wp_seq ?_
                      obtain ⟨x667, h665, hsh⟩ := bind_t hsh
                      obtain ⟨b674, q671, c672, h675, h668, h669, h673, h666⟩ := hw.elemRV (α := Int) 3 rfl 3 rfl h665
                      subst h675
                      obtain ⟨_, rfl, rfl⟩ := h666
                      obtain ⟨x678, h676, hsh⟩ := bind_t hsh
                      obtain ⟨b685, q682, c683, h686, h679, h680, h684, h677⟩ := hw.elemRV (α := Int) 2 rfl 2 rfl h676
                      subst h686
                      obtain ⟨_, rfl, rfl⟩ := h677
                      obtain ⟨sv688, h687, hsh⟩ := bind_t hsh
                      refine wp_only (fun a w => ∃ (Sv689 : Nat → Prop), Sl 133 [(4, .pointer (some ⟨b66, 0, none⟩)), (5, .pointer (some ⟨b67, 0, none⟩)), (13, .slice (some ⟨b685, 0, none⟩) rv122.1.length k124), (15, .slice (some ⟨b674, 0, none⟩) rv134.1.length k136), (18, .int .i64 sv688), (100, .int .i64 (rv134.1.length : Int)), (101, .int .i64 sv405)] a ∧ Wd ⟨w0, S0, []⟩ Sv689 [.box b66 [.slice p38 rv37.1.Taps.length k39, .int .i64 1, .int .i64 rv37.1.Shift] 28, .box b67 [.slice p53 rv52.1.Taps.length k54, .int .i64 1, .int .i64 rv52.1.Shift] 28, .row (some ⟨b685, 0, none⟩) rv122.1.length k124 c125 3 1, .row (some ⟨b674, 0, none⟩) rv134.1.length k136 c137 3 1] [SlA p38 rv37.1.Taps.length k39 rv37.1.Taps, SlA p53 rv52.1.Taps.length k54 rv52.1.Taps, RowA c125 rv122.1, RowA c137 rv134.1] w) ?_ ?_
                      · refine h_begin (C := Cls [.box b66 [.slice p38 rv37.1.Taps.length k39, .int .i64 1, .int .i64 rv37.1.Shift] 28, .box b67 [.slice p53 rv52.1.Taps.length k54, .int .i64 1, .int .i64 rv52.1.Shift] 28, .row (some ⟨b685, 0, none⟩) rv122.1.length k124 c125 3 1, .row (some ⟨b674, 0, none⟩) rv134.1.length k136 c137 3 1] []) (by kernel_rfl) rfl ?_
                        have hw := hw.drew
                        have hC : Cls [.box b66 [.slice p38 rv37.1.Taps.length k39, .int .i64 1, .int .i64 rv37.1.Shift] 28, .box b67 [.slice p53 rv52.1.Taps.length k54, .int .i64 1, .int .i64 rv52.1.Shift] 28, .row (some ⟨b685, 0, none⟩) rv122.1.length k124 c125 3 1, .row (some ⟨b674, 0, none⟩) rv134.1.length k136 c137 3 1] [] _ := hw.cls [0, 1, 2, 3] ⟨rfl, rfl, rfl, rfl, trivial⟩ trivial
                        refine h_take hs (i := 0) rfl (by kernel_rfl) (by kernel_rfl) (by kernel_rfl) trivial rfl rfl hC (fun w hC => y_move rfl) fun a hs => ?_
                        refine h_take hs (i := 1) rfl (by kernel_rfl) (by kernel_rfl) (by kernel_rfl) trivial rfl rfl hC (fun w hC => y_move rfl) fun a hs => ?_
                        refine h_take hs (i := 2) rfl (by kernel_rfl) (by kernel_rfl) (by kernel_rfl) trivial rfl rfl hC (fun w hC => y_indexAt Try.runUnderlying22 Try.sizeOf3 rfl rfl h668.1 h668.2 h669) fun a hs => ?_
                        refine h_take hs (i := 3) rfl (by kernel_rfl) (by kernel_rfl) (by kernel_rfl) trivial rfl rfl hC (fun w hC => y_loadQ1 (j := 0) (hC.ownAt 3 rfl) rfl Try.isAgg3 h673 rfl) fun a hs => ?_
                        refine h_take hs (i := 4) rfl (by kernel_rfl) (by kernel_rfl) (by kernel_rfl) trivial rfl rfl hC (fun w hC => y_move rfl) fun a hs => ?_
                        refine h_take hs (i := 5) rfl (by kernel_rfl) (by kernel_rfl) (by kernel_rfl) trivial rfl rfl hC (fun w hC => y_move rfl) fun a hs => ?_
                        refine h_take hs (i := 6) rfl (by kernel_rfl) (by kernel_rfl) (by kernel_rfl) trivial rfl rfl hC (fun w hC => y_indexAt Try.runUnderlying22 Try.sizeOf3 rfl rfl h679.1 h679.2 h680) fun a hs => ?_
                        refine h_take hs (i := 7) rfl (by kernel_rfl) (by kernel_rfl) (by kernel_rfl) trivial rfl rfl hC (fun w hC => y_loadQ1 (j := 0) (hC.ownAt 2 rfl) rfl Try.isAgg3 h684 rfl) fun a hs => ?_
                        refine h_take hs (i := 8) rfl (by kernel_rfl) (by kernel_rfl) (by kernel_rfl) trivial rfl rfl hC (fun w hC => y_sub rfl rfl) fun a hs => ?_
                        refine h_take hs (i := 9) rfl (by kernel_rfl) (by kernel_rfl) (by kernel_rfl) trivial rfl rfl hC (fun w hC => y_assignI rfl h687) fun a hs => ?_
                        refine h_done (by kernel_rfl) ?_
                        exact ⟨Sv551, (hs.weaken _ ⟨rfl, rfl, rfl, rfl, rfl, rfl, rfl, trivial⟩), (hw.fit [0, 1, 2, 3] (by decide) ⟨rfl, rfl, rfl, rfl, trivial⟩ ⟨⟨0, rfl⟩, ⟨1, rfl⟩, ⟨2, rfl⟩, ⟨3, rfl⟩, trivial⟩)⟩
                      · rintro a w ⟨Sv689, hs, hw⟩
                        refine then_normal ?_
                        refine wp_seq ?_
                        refine wp_region_lit ?_
                        refine st_val hs (y_move rfl) trivial rfl rfl fun a hs => ?_
                        refine st_val hs (y_lss rfl rfl) trivial rfl rfl fun a hs => ?_
                        refine st_val hs (y_move rfl) trivial rfl rfl fun a hs => ?_
                        refine wpl_join 3 (fun a w1 => w = w1 ∧ Sl 133 [(4, .pointer (some ⟨b66, 0, none⟩)), (5, .pointer (some ⟨b67, 0, none⟩)), (13, .slice (some ⟨b685, 0, none⟩) rv122.1.length k124), (15, .slice (some ⟨b674, 0, none⟩) rv134.1.length k136), (18, .int .i64 sv688), (100, .int .i64 (rv134.1.length : Int)), (101, .int .i64 sv405), (118, .bool ((decide (sv688 < (-1))) || (decide (1 < sv688))))] a) ?_ ?_
                        · rcases Bool.eq_false_or_eq_true (decide (sv688 < (-1))) with h690 | h690
                          · have hs := hs.fix 115 (.bool true) rfl (vb h690)
                            refine st_skip hs rfl rfl rfl rfl rfl fun a hs => ?_
                            refine st_skip hs rfl rfl rfl rfl rfl fun a hs => ?_
                            refine st_val hs (y_pickT rfl rfl) trivial rfl rfl fun a hs => ?_
                            refine wpList_nil ?_
                            refine then_normal ?_
                            exact ⟨rfl, (hs.fix 118 (.bool ((decide (sv688 < (-1))) || (decide (1 < sv688)))) rfl (or_t h690)).weaken _ ⟨rfl, rfl, rfl, rfl, rfl, rfl, rfl, rfl, trivial⟩⟩
                          · have hs := hs.fix 115 (.bool false) rfl (vb h690)
                            refine st_val hs (y_move rfl) ⟨_, rfl, rfl⟩ rfl rfl fun a hs => ?_
                            refine st_val hs (y_gtr rfl rfl) ⟨_, rfl, rfl⟩ rfl rfl fun a hs => ?_
                            refine st_val hs (y_pickF rfl rfl) trivial rfl rfl fun a hs => ?_
                            refine wpList_nil ?_
                            refine then_normal ?_
                            exact ⟨rfl, (hs.fix 118 (.bool ((decide (sv688 < (-1))) || (decide (1 < sv688)))) rfl (or_f h690)).weaken _ ⟨rfl, rfl, rfl, rfl, rfl, rfl, rfl, rfl, trivial⟩⟩
                        · rintro a w1 ⟨h700, hs⟩
                          subst h700
                          refine st_val hs (y_move rfl) trivial rfl rfl fun a hs => ?_
                          refine wpl_join 11 (fun a w1 => w = w1 ∧ Sl 133 [(4, .pointer (some ⟨b66, 0, none⟩)), (5, .pointer (some ⟨b67, 0, none⟩)), (13, .slice (some ⟨b685, 0, none⟩) rv122.1.length k124), (15, .slice (some ⟨b674, 0, none⟩) rv134.1.length k136), (100, .int .i64 (rv134.1.length : Int)), (101, .int .i64 sv405), (130, .bool (((decide (sv688 < (-1))) || (decide (1 < sv688))) || ((sv688 != 0) && ((w64 (rv37.1.Shift + rv52.1.Shift)) == 0))))] a) ?_ ?_
                          · rcases Bool.eq_false_or_eq_true ((decide (sv688 < (-1))) || (decide (1 < sv688))) with h693 | h693
                            · have hs := hs.fix 119 (.bool true) rfl (vb h693)
                              refine st_skip hs rfl rfl rfl rfl rfl fun a hs => ?_
                              refine st_skip hs rfl rfl rfl rfl rfl fun a hs => ?_
                              refine st_skip hs rfl rfl rfl rfl rfl fun a hs => ?_
                              refine st_skipU hs rfl rfl rfl rfl rfl fun a hs => ?_
                              refine st_skipU hs rfl rfl rfl rfl rfl fun a hs => ?_
                              refine st_skipU hs rfl rfl rfl rfl rfl fun a hs => ?_
                              refine st_skipU hs rfl rfl rfl rfl rfl fun a hs => ?_
                              refine st_skipU hs rfl rfl rfl rfl rfl fun a hs => ?_
                              refine st_skipU hs rfl rfl rfl rfl rfl fun a hs => ?_
                              refine st_skip hs rfl rfl rfl rfl rfl fun a hs => ?_
                              refine st_val hs (y_pickT rfl rfl) trivial rfl rfl fun a hs => ?_
                              refine wpList_nil ?_
                              refine then_normal ?_
                              exact ⟨rfl, (hs.fix 130 (.bool (((decide (sv688 < (-1))) || (decide (1 < sv688))) || ((sv688 != 0) && ((w64 (rv37.1.Shift + rv52.1.Shift)) == 0)))) rfl (or_t h693)).weaken _ ⟨rfl, rfl, rfl, rfl, rfl, rfl, rfl, trivial⟩⟩
                            · have hs := hs.fix 119 (.bool false) rfl (vb h693)
                              refine st_val hs (y_move rfl) ⟨_, rfl, rfl⟩ rfl rfl fun a hs => ?_
                              refine st_val hs (y_neq rfl rfl) ⟨_, rfl, rfl⟩ rfl rfl fun a hs => ?_
                              refine st_val hs (y_move rfl) ⟨_, rfl, rfl⟩ rfl rfl fun a hs => ?_
                              refine wpl_join 7 (fun a w1 => w = w1 ∧ Sl 133 [(4, .pointer (some ⟨b66, 0, none⟩)), (5, .pointer (some ⟨b67, 0, none⟩)), (13, .slice (some ⟨b685, 0, none⟩) rv122.1.length k124), (15, .slice (some ⟨b674, 0, none⟩) rv134.1.length k136), (100, .int .i64 (rv134.1.length : Int)), (101, .int .i64 sv405), (119, .bool false), (120, .int .i64 sv688), (121, .bool (sv688 != 0)), (122, .bool (sv688 != 0)), (129, .bool ((sv688 != 0) && ((w64 (rv37.1.Shift + rv52.1.Shift)) == 0)))] a) ?_ ?_
                              · rcases Bool.eq_false_or_eq_true (sv688 != 0) with h694 | h694
                                · have hs := hs.fix 122 (.bool true) rfl (vb h694)
                                  refine st_val hs (y_fieldAddr (o' := 2) Try.runUnderlying28 rfl Try.sizeOf3 rfl rfl rfl) ⟨_, rfl, rfl⟩ rfl rfl fun a hs => ?_
                                  refine st_val hs (y_loadB1 (hw.ownAt 0 rfl) rfl Try.isAgg3 rfl) ⟨_, rfl, rfl⟩ rfl rfl fun a hs => ?_
                                  refine st_val hs (y_fieldAddr (o' := 2) Try.runUnderlying28 rfl Try.sizeOf3 rfl rfl rfl) ⟨_, rfl, rfl⟩ rfl rfl fun a hs => ?_
                                  refine st_val hs (y_loadB1 (hw.ownAt 1 rfl) rfl Try.isAgg3 rfl) ⟨_, rfl, rfl⟩ rfl rfl fun a hs => ?_
                                  refine st_val hs (y_add rfl rfl) ⟨_, rfl, rfl⟩ rfl rfl fun a hs => ?_
                                  refine st_val hs (y_eql rfl rfl) ⟨_, rfl, rfl⟩ rfl rfl fun a hs => ?_
                                  refine st_val hs (y_pickT rfl rfl) ⟨_, rfl, rfl⟩ rfl rfl fun a hs => ?_
                                  refine wpList_nil ?_
                                  refine then_normal ?_
                                  have hs := hs.fix 122 (.bool (sv688 != 0)) rfl (vb h694.symm)
                                  exact ⟨rfl, (hs.fix 129 (.bool ((sv688 != 0) && ((w64 (rv37.1.Shift + rv52.1.Shift)) == 0))) rfl (and_t h694)).weaken _ ⟨rfl, rfl, rfl, rfl, rfl, rfl, rfl, rfl, rfl, rfl, rfl, trivial⟩⟩
                                · have hs := hs.fix 122 (.bool false) rfl (vb h694)
                                  refine st_skip hs rfl rfl rfl rfl rfl fun a hs => ?_
                                  refine st_skip hs rfl rfl rfl rfl rfl fun a hs => ?_
                                  refine st_skip hs rfl rfl rfl rfl rfl fun a hs => ?_
                                  refine st_skip hs rfl rfl rfl rfl rfl fun a hs => ?_
                                  refine st_skip hs rfl rfl rfl rfl rfl fun a hs => ?_
                                  refine st_skip hs rfl rfl rfl rfl rfl fun a hs => ?_
                                  refine st_val hs (y_pickF rfl rfl) ⟨_, rfl, rfl⟩ rfl rfl fun a hs => ?_
                                  refine wpList_nil ?_
                                  refine then_normal ?_
                                  have hs := hs.fix 122 (.bool (sv688 != 0)) rfl (vb h694.symm)
                                  exact ⟨rfl, (hs.fix 129 (.bool ((sv688 != 0) && ((w64 (rv37.1.Shift + rv52.1.Shift)) == 0))) rfl (and_f h694)).weaken _ ⟨rfl, rfl, rfl, rfl, rfl, rfl, rfl, rfl, rfl, rfl, rfl, trivial⟩⟩
                              · rintro a w1 ⟨h695, hs⟩
                                subst h695
                                refine st_val hs (y_pickF rfl rfl) trivial rfl rfl fun a hs => ?_
                                refine wpList_nil ?_
                                refine then_normal ?_
                                exact ⟨rfl, (hs.fix 130 (.bool (((decide (sv688 < (-1))) || (decide (1 < sv688))) || ((sv688 != 0) && ((w64 (rv37.1.Shift + rv52.1.Shift)) == 0)))) rfl (or_f h693)).weaken _ ⟨rfl, rfl, rfl, rfl, rfl, rfl, rfl, trivial⟩⟩
                          · rintro a w1 ⟨h699, hs⟩
                            subst h699
                            refine wpList_nil ?_
                            refine then_normal ?_
                            refine wp_cond_split (hs.ev rfl) (fun h697 => ?_) (fun h697 => ?_)
                            · have hsh := ite_t hsh h697
                              refine wp_seq ?_
                              refine wp_region_lit ?_
                              refine st_val hs (y_assign rfl) trivial rfl rfl fun a hs => ?_
                              refine wpList_nil ?_
                              refine then_normal ?_
                              have hsh := Option.some.inj hsh
                              subst hsh
                              have h698 := hd624 _ rfl
                              subst h698
                              refine wp_ret ?_
                              refine blk_ret ?_
                              refine then_ret ?_
                              refine then_ret ?_
                              refine blk_ret ?_
                              refine then_ret ?_
                              exact ret1 hs rfl (rv_tmp rfl) (hw.ret rfl)
                            · have hsh := ite_f hsh h697
                              refine wp_skip ?_
                              refine blk_normal ?_
                              refine then_normal ?_
                              refine wp_region_lit ?_
                              refine st_val hs (y_add rfl rfl) trivial rfl rfl fun a hs => ?_
                              refine st_val hs (y_move rfl) trivial rfl rfl fun a hs => ?_
                              refine wpList_nil ?_
                              refine then_normal ?_
                              exact ⟨_, (Option.some.inj hsh).symm, Sv689, (hs.weaken _ ⟨rfl, rfl, rfl, rfl, rfl, rfl, trivial⟩), (hw.fit [0, 1, 2, 3] (by decide) ⟨rfl, rfl, rfl, rfl, trivial⟩ ⟨⟨0, rfl⟩, ⟨1, rfl⟩, ⟨2, rfl⟩, ⟨3, rfl⟩, trivial⟩)⟩
                    · have hsh := ite_f hsh h629
                      obtain ⟨rv707, hsh, h708⟩ := map_t hsh
                      have h708 := hd624 _ h708.symm
                      subst h708
                      refine wp_exit ?_
                      refine then_exit ?_
                      refine then_exit ?_
                      refine blk_exit ?_
                      refine then_normal ?_
                      refine wp_seq ?_
                      refine wp_region_lit ?_
                      obtain ⟨rv702, h701, hsh⟩ := bind_t hsh
                      refine st_callR hs (law21_sane_ok h701 hw.dom) (do_call Try.call11 rfl) trivial rfl rfl ?_
                      intro v706 Sv703 w a h704 h705 hs
                      subst h705
                      have hw := hw.call h704
                      refine st_val hs (y_assign rfl) trivial rfl rfl fun a hs => ?_
                      refine wpList_nil ?_
                      refine then_normal ?_
                      have hsh := Option.some.inj hsh
                      subst hsh
                      refine wp_ret ?_
                      exact ret1 hs rfl (rv_tmp rfl) (hw.ret rfl)

end Go.Proofs.Ytmihimhknllmcaa.Wk

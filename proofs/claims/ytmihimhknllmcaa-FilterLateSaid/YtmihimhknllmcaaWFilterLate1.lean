/- The walks of FilterLate, part 1: each Go function computes what its plain program computes. Printed by a program of ours. -/
import Derived.Test.YtmihimhknllmcaaProg
import Derived.Test.YtmihimhknllmcaaDat
import Derived.Test.YtmihimhknllmcaaSh
import Derived.Test.YtmihimhknllmcaaLibJ
import Derived.KernelRfl
namespace Go.Proofs.Ytmihimhknllmcaa.Wk
open Go Go.RowKit Go.Proofs Go.Proofs.Ytmihimhknllmcaa.Sh
set_option linter.unusedVariables false
set_option linter.unusedSimpArgs false

theorem El22 : ElT Try.prog 22 3 1 8 (.int .i64 0) := ⟨Try.underlying22, ⟨Try.t3, info_of Try.type3, rfl, rfl, rfl⟩, rfl, by decide⟩
theorem Bld28 : BldT Try.prog 28 ((#[(0, 1), (1, 1), (2, 1)] : Array (Nat × Nat))[·]?) [.slice none ([] : List Int).length 0, .int .i64 0, .int .i64 0] := bld_of Try.zeroValue28 rfl Try.runUnderlying28 (fun w => by simp [Try.sizeOf3, Try.sizeOf22])
theorem Bld60 : BldT Try.prog 60 ((#[(0, 1), (1, 1)] : Array (Nat × Nat))[·]?) [.int .i64 0, .int .i64 0] := bld_of Try.zeroValue60 rfl Try.runUnderlying60 (fun w => by simp [Try.sizeOf3])
theorem Bld62 : BldT Try.prog 62 ((#[(0, 1), (1, 1), (2, 2), (4, 1), (5, 1)] : Array (Nat × Nat))[·]?) [.int .i64 0, .int .i64 0, .int .i64 0, .int .i64 0, .int .i64 0, .slice none ([] : List Int).length 0] := bld_of Try.zeroValue62 rfl Try.runUnderlying62 (fun w => by simp [Try.sizeOf3, Try.sizeOf22, Try.sizeOf60])
theorem Bld75 : BldT Try.prog 75 ((#[(0, 1), (1, 1)] : Array (Nat × Nat))[·]?) [.slice none ([] : List Int).length 0, .int .i64 0] := bld_of Try.zeroValue75 rfl Try.runUnderlying75 (fun w => by simp [Try.sizeOf3, Try.sizeOf22])
theorem Bld96 : BldT Try.prog 96 ((#[(0, 1), (1, 1), (2, 1), (3, 1)] : Array (Nat × Nat))[·]?) [.string ByteArray.empty, .string ByteArray.empty, .string ByteArray.empty, .string ByteArray.empty] := bld_of Try.zeroValue96 rfl Try.runUnderlying96 (fun w => by simp [Try.sizeOf9])
theorem Bld98 : BldT Try.prog 98 ((#[(0, 4), (4, 1), (5, 1), (6, 2), (8, 1), (9, 1), (10, 1), (11, 1)] : Array (Nat × Nat))[·]?) [.string ByteArray.empty, .string ByteArray.empty, .string ByteArray.empty, .string ByteArray.empty, .int .i64 0, .int .i64 0, .int .i64 0, .int .i64 0, .int .i64 0, .int .i64 0, .int .i64 0, .slice none ([] : List Int).length 0] := bld_of Try.zeroValue98 rfl Try.runUnderlying98 (fun w => by simp [Try.sizeOf3, Try.sizeOf22, Try.sizeOf60, Try.sizeOf96])

abbrev made_Light_rd (w0 : World) (r : Bool) : (Nat → Prop) → World → Value → Prop := fun S w v => v = .bool r
set_option maxHeartbeats 4000000 in
set_option maxRecDepth 100000 in
theorem made_Light_ok {w0 : World} {S0 : Nat → Prop} {p2 : Option Addr} {k3 : Nat} {l1 : (List Int)} {r : Bool} (hsh : made_Light l1 = some r) (hS : ∀ b, S0 b → b < w0.heap.size) (h4 : (SlA p2 l1.length k3 l1).p S0 w0) : Calls Try.prog 10 #[.slice p2 l1.length k3] w0 (Ret [] w0 S0 (made_Light_rd w0 r)) := by
  refine calls_of_wp Try.func10 rfl ?_
  have hs := Sl.enter #[.slice p2 l1.length k3] 6 [(0, .slice p2 l1.length k3)] rfl ⟨rfl, trivial⟩
  have hw := Wd.enter (E := []) hS (fun _ h => (by cases h))
  have hw := hw.addE h4
  delta made_Light at hsh
  refine wp_seq ?_
  refine wp_region_lit ?_
  refine st_val hs (y_assign rfl) trivial rfl rfl fun a hs => ?_
  refine wpList_nil ?_
  refine then_normal ?_
  refine wp_seq ?_
  refine wp_region_lit ?_
  refine st_val hs (y_move rfl) trivial rfl rfl fun a hs => ?_
  refine st_val hs (y_len Try.runUnderlying22 rfl) trivial rfl rfl fun a hs => ?_
  refine st_val hs (y_leq rfl rfl) trivial rfl rfl fun a hs => ?_
  refine st_val hs (y_assign rfl) trivial rfl rfl fun a hs => ?_
  refine wpList_nil ?_
  refine then_normal ?_
  have hsh := Option.some.inj hsh
  subst hsh
  refine wp_ret ?_
  exact ret1 hs rfl (rv_tmp rfl) (hw.ret rfl)

abbrev filter_in_rd (w0 : World) (r : Bool) : (Nat → Prop) → World → Value → Prop := fun S w v => v = .bool r
set_option maxHeartbeats 4000000 in
set_option maxRecDepth 100000 in
theorem filter_in_ok {w0 : World} {S0 : Nat → Prop} {n1 : Int} {low2 : Int} {high3 : Int} {r : Bool} (hsh : filter_in n1 low2 high3 = some r) (hS : ∀ b, S0 b → b < w0.heap.size) : Calls Try.prog 46 #[.int .i64 n1, .int .i64 low2, .int .i64 high3] w0 (Ret [] w0 S0 (filter_in_rd w0 r)) := by
  refine calls_of_wp Try.func46 rfl ?_
  have hs := Sl.enter #[.int .i64 n1, .int .i64 low2, .int .i64 high3] 15 [(0, .int .i64 n1), (1, .int .i64 low2), (2, .int .i64 high3)] rfl ⟨rfl, rfl, rfl, trivial⟩
  have hw := Wd.enter (E := []) hS (fun _ h => (by cases h))
  delta filter_in at hsh
  refine wp_seq ?_
  refine wp_region_lit ?_
  refine st_val hs (y_assign rfl) trivial rfl rfl fun a hs => ?_
  refine wpList_nil ?_
  refine then_normal ?_
  refine wp_seq ?_
  refine wp_region_lit ?_
  refine st_val hs (y_move rfl) trivial rfl rfl fun a hs => ?_
  refine st_val hs (y_move rfl) trivial rfl rfl fun a hs => ?_
  refine st_val hs (y_geq rfl rfl) trivial rfl rfl fun a hs => ?_
  refine st_val hs (y_move rfl) trivial rfl rfl fun a hs => ?_
  refine wpl_join 4 (fun a w1 => w0 = w1 ∧ Sl 15 [(14, .bool ((decide (low2 ≤ n1)) && (decide (n1 ≤ high3))))] a) ?_ ?_
  · rcases Bool.eq_false_or_eq_true (decide (low2 ≤ n1)) with h4 | h4
    · have hs := hs.fix 10 (.bool true) rfl (vb h4)
      refine st_val hs (y_move rfl) ⟨_, rfl, rfl⟩ rfl rfl fun a hs => ?_
      refine st_val hs (y_move rfl) ⟨_, rfl, rfl⟩ rfl rfl fun a hs => ?_
      refine st_val hs (y_leq rfl rfl) ⟨_, rfl, rfl⟩ rfl rfl fun a hs => ?_
      refine st_val hs (y_pickT rfl rfl) trivial rfl rfl fun a hs => ?_
      refine wpList_nil ?_
      refine then_normal ?_
      exact ⟨rfl, (hs.fix 14 (.bool ((decide (low2 ≤ n1)) && (decide (n1 ≤ high3)))) rfl (and_t h4)).weaken _ ⟨rfl, trivial⟩⟩
    · have hs := hs.fix 10 (.bool false) rfl (vb h4)
      refine st_skip hs rfl rfl rfl rfl rfl fun a hs => ?_
      refine st_skip hs rfl rfl rfl rfl rfl fun a hs => ?_
      refine st_skip hs rfl rfl rfl rfl rfl fun a hs => ?_
      refine st_val hs (y_pickF rfl rfl) trivial rfl rfl fun a hs => ?_
      refine wpList_nil ?_
      refine then_normal ?_
      exact ⟨rfl, (hs.fix 14 (.bool ((decide (low2 ≤ n1)) && (decide (n1 ≤ high3)))) rfl (and_f h4)).weaken _ ⟨rfl, trivial⟩⟩
  · rintro a w1 ⟨h5, hs⟩
    subst h5
    refine st_val hs (y_assign rfl) trivial rfl rfl fun a hs => ?_
    refine wpList_nil ?_
    refine then_normal ?_
    have hsh := Option.some.inj hsh
    subst hsh
    refine wp_ret ?_
    exact ret1 hs rfl (rv_tmp rfl) (hw.ret rfl)

abbrev filter_Valid_rd (w0 : World) (r : Bool) : (Nat → Prop) → World → Value → Prop := fun S w v => v = .bool r
set_option maxHeartbeats 4000000 in
set_option maxRecDepth 100000 in
theorem filter_Valid_ok {w0 : World} {S0 : Nat → Prop} {p2 : Option Addr} {k3 : Nat} {f1 : Filter} {r : Bool} (hsh : filter_Valid f1 = some r) (hS : ∀ b, S0 b → b < w0.heap.size) (h4 : (SlA p2 f1.Taps.length k3 f1.Taps).p S0 w0) : Calls Try.prog 32 #[.agg #[.slice p2 f1.Taps.length k3, .int .i64 f1.Factor, .int .i64 f1.Shift]] w0 (Ret [] w0 S0 (filter_Valid_rd w0 r)) := by
  refine calls_of_wp Try.func32 rfl ?_
  have hs := Sl.enter #[.agg #[.slice p2 f1.Taps.length k3, .int .i64 f1.Factor, .int .i64 f1.Shift]] 45 [(0, .agg #[.slice p2 f1.Taps.length k3, .int .i64 f1.Factor, .int .i64 f1.Shift])] rfl ⟨rfl, trivial⟩
  have hw := Wd.enter (E := []) hS (fun _ h => (by cases h))
  have hw := hw.addE h4
  delta filter_Valid at hsh
  refine wp_seq ?_
  refine wp_region_lit ?_
  refine w_box (cs := [.slice p2 f1.Taps.length k3, .int .i64 f1.Factor, .int .i64 f1.Shift]) hs hw rfl rfl rfl trivial ?_
  intro b5 a w hs hw
  refine st_val hs (y_assign rfl) trivial rfl rfl fun a hs => ?_
  refine wpList_nil ?_
  refine then_normal ?_
  refine wp_seq ?_
  refine wp_seq ?_
  refine wp_region_lit ?_
  refine st_val hs (y_fieldAddr (o' := 0) Try.runUnderlying28 rfl Try.sizeOf22 rfl rfl rfl) trivial rfl rfl fun a hs => ?_
  refine st_val hs (y_loadB1 (hw.ownAt 0 rfl) rfl Try.isAgg22 rfl) trivial rfl rfl fun a hs => ?_
  refine st_val hs (y_len Try.runUnderlying22 rfl) trivial rfl rfl fun a hs => ?_
  obtain ⟨rv7, h6, hsh⟩ := bind_t hsh
  refine st_callR hs (filter_in_ok h6 hw.dom) (do_call Try.call46 rfl) trivial rfl rfl ?_
  intro v11 Sv8 w a h9 h10 hs
  subst h10
  have hw := hw.call h9
  refine st_val hs (y_not rfl) trivial rfl rfl fun a hs => ?_
  refine st_val hs (y_move rfl) trivial rfl rfl fun a hs => ?_
  obtain ⟨c19, hc19, hsh⟩ := bind_t hsh
  refine wpl_join 5 (fun a w => ∃ (Sv20 : Nat → Prop), Sl 45 [(1, .pointer (some ⟨b5, 0, none⟩)), (16, .bool c19)] a ∧ Wd ⟨w0, S0, []⟩ Sv20 [.box b5 [.slice p2 f1.Taps.length k3, .int .i64 f1.Factor, .int .i64 f1.Shift] 28] [SlA p2 f1.Taps.length k3 f1.Taps] w) ?_ ?_
  · rcases Bool.eq_false_or_eq_true (!rv7) with h18 | h18
    · have hs := hs.fix 11 (.bool true) rfl (vb h18)
      have hsh := ite_t hc19 h18
      refine st_skip hs rfl rfl rfl rfl rfl fun a hs => ?_
      refine st_skip hs rfl rfl rfl rfl rfl fun a hs => ?_
      refine st_skip hs rfl rfl rfl rfl rfl fun a hs => ?_
      refine st_skip hs rfl rfl rfl rfl rfl fun a hs => ?_
      refine st_val hs (y_pickT rfl rfl) trivial rfl rfl fun a hs => ?_
      refine wpList_nil ?_
      have hsh := Option.some.inj hsh
      subst hsh
      refine then_normal ?_
      exact ⟨Sv8, (hs.wk rfl), (hw.ft [0] [0] (by decide) rfl rfl)⟩
    · have hs := hs.fix 11 (.bool false) rfl (vb h18)
      have hsh := ite_f hc19 h18
      refine st_val hs (y_fieldAddr (o' := 2) Try.runUnderlying28 rfl Try.sizeOf3 rfl rfl rfl) ⟨_, rfl, rfl⟩ rfl rfl fun a hs => ?_
      refine st_val hs (y_loadB1 (hw.ownAt 0 rfl) rfl Try.isAgg3 rfl) ⟨_, rfl, rfl⟩ rfl rfl fun a hs => ?_
      obtain ⟨rv22, h21, hsh⟩ := bind_t hsh
      refine st_callR hs (filter_in_ok h21 hw.dom) (do_call Try.call46 rfl) ⟨_, rfl, rfl⟩ rfl rfl ?_
      intro v26 Sv23 w a h24 h25 hs
      subst h25
      have hw := hw.call h24
      refine st_val hs (y_not rfl) ⟨_, rfl, rfl⟩ rfl rfl fun a hs => ?_
      refine st_val hs (y_pickF rfl rfl) trivial rfl rfl fun a hs => ?_
      refine wpList_nil ?_
      have hsh := Option.some.inj hsh
      subst hsh
      refine then_normal ?_
      exact ⟨Sv23, (hs.wk rfl), (hw.ft [0] [0] (by decide) rfl rfl)⟩
  · rintro a w ⟨Sv20, hs, hw⟩
    refine st_val hs (y_move rfl) trivial rfl rfl fun a hs => ?_
    obtain ⟨c34, hc34, hsh⟩ := bind_t hsh
    refine wpl_join 5 (fun a w => ∃ (Sv35 : Nat → Prop), Sl 45 [(1, .pointer (some ⟨b5, 0, none⟩)), (22, .bool c34)] a ∧ Wd ⟨w0, S0, []⟩ Sv35 [.box b5 [.slice p2 f1.Taps.length k3, .int .i64 f1.Factor, .int .i64 f1.Shift] 28] [SlA p2 f1.Taps.length k3 f1.Taps] w) ?_ ?_
    · rcases Bool.eq_false_or_eq_true c19 with h33 | h33
      · have hs := hs.fix 17 (.bool true) rfl (vb h33)
        have hsh := ite_t hc34 h33
        refine st_skip hs rfl rfl rfl rfl rfl fun a hs => ?_
        refine st_skip hs rfl rfl rfl rfl rfl fun a hs => ?_
        refine st_skip hs rfl rfl rfl rfl rfl fun a hs => ?_
        refine st_skip hs rfl rfl rfl rfl rfl fun a hs => ?_
        refine st_val hs (y_pickT rfl rfl) trivial rfl rfl fun a hs => ?_
        refine wpList_nil ?_
        have hsh := Option.some.inj hsh
        subst hsh
        refine then_normal ?_
        exact ⟨Sv20, (hs.wk rfl), (hw.ft [0] [0] (by decide) rfl rfl)⟩
      · have hs := hs.fix 17 (.bool false) rfl (vb h33)
        have hsh := ite_f hc34 h33
        refine st_val hs (y_fieldAddr (o' := 1) Try.runUnderlying28 rfl Try.sizeOf3 rfl rfl rfl) ⟨_, rfl, rfl⟩ rfl rfl fun a hs => ?_
        refine st_val hs (y_loadB1 (hw.ownAt 0 rfl) rfl Try.isAgg3 rfl) ⟨_, rfl, rfl⟩ rfl rfl fun a hs => ?_
        obtain ⟨rv37, h36, hsh⟩ := bind_t hsh
        refine st_callR hs (filter_in_ok h36 hw.dom) (do_call Try.call46 rfl) ⟨_, rfl, rfl⟩ rfl rfl ?_
        intro v41 Sv38 w a h39 h40 hs
        subst h40
        have hw := hw.call h39
        refine st_val hs (y_not rfl) ⟨_, rfl, rfl⟩ rfl rfl fun a hs => ?_
        refine st_val hs (y_pickF rfl rfl) trivial rfl rfl fun a hs => ?_
        refine wpList_nil ?_
        have hsh := Option.some.inj hsh
        subst hsh
        refine then_normal ?_
        exact ⟨Sv38, (hs.wk rfl), (hw.ft [0] [0] (by decide) rfl rfl)⟩
    · rintro a w ⟨Sv35, hs, hw⟩
      refine wpList_nil ?_
      refine then_normal ?_
      refine wp_cond_split (hs.ev rfl) (fun h43 => ?_) (fun h43 => ?_)
      · have hsh := ite_t hsh h43
        refine wp_seq ?_
        refine wp_region_lit ?_
        refine st_val hs (y_assign rfl) trivial rfl rfl fun a hs => ?_
        refine wpList_nil ?_
        refine then_normal ?_
        have hsh := Option.some.inj hsh
        subst hsh
        refine wp_ret ?_
        refine then_ret ?_
        exact ret1 hs rfl (rv_tmp rfl) (hw.ret rfl)
      · have hsh := ite_f hsh h43
        refine wp_skip ?_
        refine then_normal ?_
        refine wp_seq ?_
        refine wp_region_lit ?_
        refine st_val hs (y_assign rfl) trivial rfl rfl fun a hs => ?_
        refine wpList_nil ?_
        refine then_normal ?_
        refine wp_seq ?_
        refine wp_seq ?_
        refine wp_region_lit ?_
        refine st_val hs (y_fieldAddr (o' := 0) Try.runUnderlying28 rfl Try.sizeOf22 rfl rfl rfl) trivial rfl rfl fun a hs => ?_
        refine st_val hs (y_loadB1 (hw.ownAt 0 rfl) rfl Try.isAgg22 rfl) trivial rfl rfl fun a hs => ?_
        refine st_val hs (y_len Try.runUnderlying22 rfl) trivial rfl rfl fun a hs => ?_
        refine st_val hs (y_move rfl) trivial rfl rfl fun a hs => ?_
        refine wpList_nil ?_
        refine then_normal ?_
        refine wp_block ?_
        refine wp_while (fun sv181 a w => ∃ (Sv271 : Nat → Prop), Sl 45 [(1, .pointer (some ⟨b5, 0, none⟩)), (3, .int .i64 sv181.1), (24, .slice p2 f1.Taps.length k3), (25, .int .i64 (f1.Taps.length : Int)), (26, .int .i64 sv181.2)] a ∧ Wd ⟨w0, S0, []⟩ Sv271 [.box b5 [.slice p2 f1.Taps.length k3, .int .i64 f1.Factor, .int .i64 f1.Shift] 28] [SlA p2 f1.Taps.length k3 f1.Taps] w) (0, 0) hsh ⟨Sv35, (hs.wk rfl), (hw.ft [0] [0] (by decide) rfl rfl)⟩ ?_
        repeat clear hsh
        rintro sv181 a w tv317 ⟨Sv271, hs, hw⟩ hsh hd316
        delta filter_Valid_l2 at hsh
        refine wp_seq ?_
        refine wp_region_lit ?_
        refine st_val hs (y_lss rfl rfl) trivial rfl rfl fun a hs => ?_
        refine wpList_nil ?_
        refine then_normal ?_
        refine wp_seq ?_
        refine wp_cond_split (hs.ev rfl) (fun h321 => ?_) (fun h321 => ?_)
        · have hsh := ite_t hsh h321
          refine wp_skip ?_
          refine then_normal ?_
          refine wp_seq ?_
          refine wp_block ?_
          refine wp_seq ?_
          refine wp_region_lit ?_
          obtain ⟨x345, h343, hsh⟩ := bind_t hsh
          obtain ⟨b351, o352, q349, c350, h353, h346, h347, h348, h344⟩ := hw.elemV 0 rfl h343
          subst h353
          obtain ⟨_, rfl, rfl⟩ := h344
          have hw := hw.addE h348
          refine st_val hs (y_indexAt Try.runUnderlying22 Try.sizeOf3 rfl rfl h346.1 h346.2 h347) trivial rfl rfl fun a hs => ?_
          refine st_val hs (y_loadE1 (j := 0) (hw.ceAt 0 rfl) rfl Try.isAgg3 rfl) trivial rfl rfl fun a hs => ?_
          refine st_val hs (y_assign rfl) trivial rfl rfl fun a hs => ?_
          refine wpList_nil ?_
          refine then_normal ?_
          refine wp_seq ?_
          refine wp_seq ?_
          refine wp_region_lit ?_
          refine st_val hs (y_move rfl) trivial rfl rfl fun a hs => ?_
          obtain ⟨rv355, h354, hsh⟩ := bind_t hsh
          refine st_callR hs (filter_in_ok h354 hw.dom) (do_call Try.call46 rfl) trivial rfl rfl ?_
          intro v359 Sv356 w a h357 h358 hs
          subst h358
          have hw := hw.call h357
          refine st_val hs (y_not rfl) trivial rfl rfl fun a hs => ?_
          refine wpList_nil ?_
          refine then_normal ?_
          refine wp_cond_split (hs.ev rfl) (fun h361 => ?_) (fun h361 => ?_)
          · have hsh := ite_t hsh h361
            refine wp_seq ?_
            refine wp_region_lit ?_
            refine st_val hs (y_assign rfl) trivial rfl rfl fun a hs => ?_
            refine wpList_nil ?_
            refine then_normal ?_
            have hsh := Option.some.inj hsh
            subst hsh
            have h362 := hd316 _ rfl
            subst h362
            refine wp_ret ?_
            refine then_ret ?_
            refine blk_ret ?_
            refine then_ret ?_
            refine then_ret ?_
            refine blk_ret ?_
            refine then_ret ?_
            exact ret1 hs rfl (rv_tmp rfl) (hw.ret rfl)
          · have hsh := ite_f hsh h361
            refine wp_skip ?_
            refine then_normal ?_
            refine wp_region_lit ?_
            refine st_val hs (y_move rfl) trivial rfl rfl fun a hs => ?_
            refine st_val hs (y_move rfl) trivial rfl rfl fun a hs => ?_
            refine st_val hs (y_move rfl) trivial rfl rfl fun a hs => ?_
            refine st_val hs (y_neg rfl) trivial rfl rfl fun a hs => ?_
            refine st_val hs (y_max rfl rfl) trivial rfl rfl fun a hs => ?_
            refine st_val hs (y_add rfl rfl) trivial rfl rfl fun a hs => ?_
            obtain ⟨sum364, h363, hsh⟩ := bind_t hsh
            refine st_val hs (y_assignI rfl h363) trivial rfl rfl fun a hs => ?_
            refine wpList_nil ?_
            refine blk_normal ?_
            refine then_normal ?_
            refine wp_region_lit ?_
            refine st_val hs (y_add rfl rfl) trivial rfl rfl fun a hs => ?_
            refine st_val hs (y_move rfl) trivial rfl rfl fun a hs => ?_
            refine wpList_nil ?_
            refine then_normal ?_
            exact ⟨_, (Option.some.inj hsh).symm, Sv356, (hs.wk rfl), (hw.ft [0] [1] (by decide) rfl rfl)⟩
        · have hsh := ite_f hsh h321
          obtain ⟨rv367, hsh, h368⟩ := map_t hsh
          have h368 := hd316 _ h368.symm
          subst h368
          refine wp_exit ?_
          refine then_exit ?_
          refine then_exit ?_
          refine blk_exit ?_
          refine then_normal ?_
          refine wp_seq ?_
          refine wp_region_lit ?_
          refine st_val hs (y_move rfl) trivial rfl rfl fun a hs => ?_
          refine st_val hs (y_fieldAddr (o' := 2) Try.runUnderlying28 rfl Try.sizeOf3 rfl rfl rfl) trivial rfl rfl fun a hs => ?_
          refine st_val hs (y_loadB1 (hw.ownAt 0 rfl) rfl Try.isAgg3 rfl) trivial rfl rfl fun a hs => ?_
          obtain ⟨shl366, h365, hsh⟩ := bind_t hsh
          refine st_val hs (y_shlM rfl rfl h365) trivial rfl rfl fun a hs => ?_
          refine st_val hs (y_leq rfl rfl) trivial rfl rfl fun a hs => ?_
          refine st_val hs (y_assign rfl) trivial rfl rfl fun a hs => ?_
          refine wpList_nil ?_
          refine then_normal ?_
          have hsh := Option.some.inj hsh
          subst hsh
          refine wp_ret ?_
          exact ret1 hs rfl (rv_tmp rfl) (hw.ret rfl)

abbrev slices_IndexFunc_Lint_int_rd (w0 : World) (r : Int) : (Nat → Prop) → World → Value → Prop := fun S w v => v = .int .i64 r
set_option maxHeartbeats 4000000 in
set_option maxRecDepth 100000 in
theorem slices_IndexFunc_Lint_int_ok {w0 : World} {S0 : Nat → Prop} {p2 : Option Addr} {k3 : Nat} {g6 : Nat} {f7 : List Value} {cp8 : List Value} {s1 : (List Int)} {f5 : Int → Option Bool} {r : Int} (hsh : slices_IndexFunc_Lint_int s1 f5 = some r) (hS : ∀ b, S0 b → b < w0.heap.size) (h4 : (SlA p2 s1.length k3 s1).p S0 w0) (h9 : FnOk1 Try.prog g6 f7 cp8 f5) : Calls Try.prog 72 #[.slice p2 s1.length k3, .func (.func g6) f7.toArray cp8.toArray] w0 (Ret [] w0 S0 (slices_IndexFunc_Lint_int_rd w0 r)) := by
  refine calls_of_wp Try.func72 rfl ?_
  have hs := Sl.enter #[.slice p2 s1.length k3, .func (.func g6) f7.toArray cp8.toArray] 19 [(0, .slice p2 s1.length k3), (1, .func (.func g6) f7.toArray cp8.toArray)] rfl ⟨rfl, rfl, trivial⟩
  have hw := Wd.enter (E := []) hS (fun _ h => (by cases h))
  have hw := hw.addE h4
  delta slices_IndexFunc_Lint_int at hsh
  refine wp_seq ?_
  refine wp_region_lit ?_
  refine st_val hs (y_assign rfl) trivial rfl rfl fun a hs => ?_
  refine wpList_nil ?_
  refine then_normal ?_
  refine wp_seq ?_
  refine wp_seq ?_
  refine wp_region_lit ?_
  refine st_val hs (y_move rfl) trivial rfl rfl fun a hs => ?_
  refine st_val hs (y_len Try.runUnderlying22 rfl) trivial rfl rfl fun a hs => ?_
  refine st_val hs (y_move rfl) trivial rfl rfl fun a hs => ?_
  refine wpList_nil ?_
  refine then_normal ?_
  refine wp_block ?_
  refine wp_while (fun sv135 a w => ∃ (Sv217 : Nat → Prop), Sl 19 [(0, .slice p2 s1.length k3), (1, .func (.func g6) f7.toArray cp8.toArray), (7, .int .i64 (s1.length : Int)), (8, .int .i64 sv135)] a ∧ Wd ⟨w0, S0, []⟩ Sv217 [] [SlA p2 s1.length k3 s1] w) 0 hsh ⟨S0, (hs.wk rfl), (hw.ft [] [0] (by decide) rfl rfl)⟩ ?_
  repeat clear hsh
  rintro sv135 a w tv259 ⟨Sv217, hs, hw⟩ hsh hd258
  delta slices_IndexFunc_Lint_int_l2 at hsh
  refine wp_seq ?_
  refine wp_region_lit ?_
  refine st_val hs (y_lss rfl rfl) trivial rfl rfl fun a hs => ?_
  refine wpList_nil ?_
  refine then_normal ?_
  refine wp_seq ?_
  refine wp_cond_split (hs.ev rfl) (fun h263 => ?_) (fun h263 => ?_)
  · have hsh := ite_t hsh h263
    refine wp_skip ?_
    refine then_normal ?_
    refine wp_seq ?_
    refine wp_block ?_
    refine wp_seq ?_
    refine wp_region_lit ?_
    refine st_val hs (y_move rfl) trivial rfl rfl fun a hs => ?_
    refine st_val hs (y_assign rfl) trivial rfl rfl fun a hs => ?_
    refine wpList_nil ?_
    refine then_normal ?_
    refine wp_seq ?_
    refine wp_region_lit ?_
    refine st_val hs (y_move rfl) trivial rfl rfl fun a hs => ?_
    refine st_val hs (y_move rfl) trivial rfl rfl fun a hs => ?_
    refine st_val hs (y_move rfl) trivial rfl rfl fun a hs => ?_
    obtain ⟨x285, h283, hsh⟩ := bind_t hsh
    obtain ⟨b291, o292, q289, c290, h293, h286, h287, h288, h284⟩ := hw.elemV 0 rfl h283
    subst h293
    obtain ⟨_, rfl, rfl⟩ := h284
    have hw := hw.addE h288
    refine st_val hs (y_indexAt Try.runUnderlying22 Try.sizeOf3 rfl rfl h286.1 h286.2 h287) trivial rfl rfl fun a hs => ?_
    refine st_val hs (y_loadE1 (j := 0) (hw.ceAt 0 rfl) rfl Try.isAgg3 rfl) trivial rfl rfl fun a hs => ?_
    obtain ⟨rv295, h294, hsh⟩ := bind_t hsh
    refine st_callR hs (h9.2 hw.dom ⟨_, rfl, rfl⟩ h294) (do_callF h9.1 rfl rfl) trivial rfl rfl ?_
    intro v299 Sv296 w a h297 h298 hs
    subst h298
    have hw := hw.call h297
    refine wpList_nil ?_
    refine then_normal ?_
    refine wp_cond_split (hs.ev rfl) (fun h301 => ?_) (fun h301 => ?_)
    · have hsh := ite_t hsh h301
      refine wp_seq ?_
      refine wp_region_lit ?_
      refine st_val hs (y_move rfl) trivial rfl rfl fun a hs => ?_
      refine st_val hs (y_assign rfl) trivial rfl rfl fun a hs => ?_
      refine wpList_nil ?_
      refine then_normal ?_
      have hsh := Option.some.inj hsh
      subst hsh
      have h302 := hd258 _ rfl
      subst h302
      refine wp_ret ?_
      refine blk_ret ?_
      refine then_ret ?_
      refine then_ret ?_
      refine blk_ret ?_
      refine then_ret ?_
      exact ret1 hs rfl (rv_tmp rfl) (hw.ret rfl)
    · have hsh := ite_f hsh h301
      refine wp_skip ?_
      refine blk_normal ?_
      refine then_normal ?_
      refine wp_region_lit ?_
      refine st_val hs (y_add rfl rfl) trivial rfl rfl fun a hs => ?_
      refine st_val hs (y_move rfl) trivial rfl rfl fun a hs => ?_
      refine wpList_nil ?_
      refine then_normal ?_
      exact ⟨_, (Option.some.inj hsh).symm, Sv296, (hs.wk rfl), (hw.ft [] [1] (by decide) rfl rfl)⟩
  · have hsh := ite_f hsh h263
    obtain ⟨rv303, hsh, h304⟩ := map_t hsh
    have h304 := hd258 _ h304.symm
    subst h304
    refine wp_exit ?_
    refine then_exit ?_
    refine then_exit ?_
    refine blk_exit ?_
    refine then_normal ?_
    refine wp_seq ?_
    refine wp_region_lit ?_
    refine st_val hs (y_assign rfl) trivial rfl rfl fun a hs => ?_
    refine wpList_nil ?_
    refine then_normal ?_
    have hsh := Option.some.inj hsh
    subst hsh
    refine wp_ret ?_
    exact ret1 hs rfl (rv_tmp rfl) (hw.ret rfl)

abbrev slices_ContainsFunc_Lint_int_rd (w0 : World) (r : Bool) : (Nat → Prop) → World → Value → Prop := fun S w v => v = .bool r
set_option maxHeartbeats 4000000 in
set_option maxRecDepth 100000 in
theorem slices_ContainsFunc_Lint_int_ok {w0 : World} {S0 : Nat → Prop} {p2 : Option Addr} {k3 : Nat} {g6 : Nat} {f7 : List Value} {cp8 : List Value} {s1 : (List Int)} {f5 : Int → Option Bool} {r : Bool} (hsh : slices_ContainsFunc_Lint_int s1 f5 = some r) (hS : ∀ b, S0 b → b < w0.heap.size) (h4 : (SlA p2 s1.length k3 s1).p S0 w0) (h9 : FnOk1 Try.prog g6 f7 cp8 f5) : Calls Try.prog 55 #[.slice p2 s1.length k3, .func (.func g6) f7.toArray cp8.toArray] w0 (Ret [] w0 S0 (slices_ContainsFunc_Lint_int_rd w0 r)) := by
  refine calls_of_wp Try.func55 rfl ?_
  have hs := Sl.enter #[.slice p2 s1.length k3, .func (.func g6) f7.toArray cp8.toArray] 9 [(0, .slice p2 s1.length k3), (1, .func (.func g6) f7.toArray cp8.toArray)] rfl ⟨rfl, rfl, trivial⟩
  have hw := Wd.enter (E := []) hS (fun _ h => (by cases h))
  have hw := hw.addE h4
  delta slices_ContainsFunc_Lint_int at hsh
  refine wp_seq ?_
  refine wp_region_lit ?_
  refine st_val hs (y_assign rfl) trivial rfl rfl fun a hs => ?_
  refine wpList_nil ?_
  refine then_normal ?_
  refine wp_seq ?_
  refine wp_region_lit ?_
  refine st_val hs (y_move rfl) trivial rfl rfl fun a hs => ?_
  refine st_val hs (y_move rfl) trivial rfl rfl fun a hs => ?_
  obtain ⟨rv11, h10, hsh⟩ := bind_t hsh
  refine st_callR hs (slices_IndexFunc_Lint_int_ok h10 hw.dom (hw.envAt 0 rfl) h9) (do_call Try.call72 rfl) trivial rfl rfl ?_
  intro v15 Sv12 w a h13 h14 hs
  subst h14
  have hw := hw.call h13
  refine st_val hs (y_geq rfl rfl) trivial rfl rfl fun a hs => ?_
  refine st_val hs (y_assign rfl) trivial rfl rfl fun a hs => ?_
  refine wpList_nil ?_
  refine then_normal ?_
  have hsh := Option.some.inj hsh
  subst hsh
  refine wp_ret ?_
  exact ret1 hs rfl (rv_tmp rfl) (hw.ret rfl)

abbrev filter_wrong_rd (w0 : World) (r : Bool) : (Nat → Prop) → World → Value → Prop := fun S w v => v = .bool r
set_option maxHeartbeats 4000000 in
set_option maxRecDepth 100000 in
theorem filter_wrong_ok {w0 : World} {S0 : Nat → Prop} {n1 : Int} {r : Bool} (hsh : filter_wrong n1 = some r) (hS : ∀ b, S0 b → b < w0.heap.size) : Calls Try.prog 56 #[.int .i64 n1] w0 (Ret [] w0 S0 (filter_wrong_rd w0 r)) := by
  refine calls_of_wp Try.func56 rfl ?_
  have hs := Sl.enter #[.int .i64 n1] 6 [(0, .int .i64 n1)] rfl ⟨rfl, trivial⟩
  have hw := Wd.enter (E := []) hS (fun _ h => (by cases h))
  delta filter_wrong at hsh
  refine wp_seq ?_
  refine wp_region_lit ?_
  refine st_val hs (y_assign rfl) trivial rfl rfl fun a hs => ?_
  refine wpList_nil ?_
  refine then_normal ?_
  refine wp_seq ?_
  refine wp_region_lit ?_
  refine st_val hs (y_move rfl) trivial rfl rfl fun a hs => ?_
  obtain ⟨rv3, h2, hsh⟩ := bind_t hsh
  refine st_callR hs (filter_in_ok h2 hw.dom) (do_call Try.call46 rfl) trivial rfl rfl ?_
  intro v7 Sv4 w a h5 h6 hs
  subst h6
  have hw := hw.call h5
  refine st_val hs (y_not rfl) trivial rfl rfl fun a hs => ?_
  refine st_val hs (y_assign rfl) trivial rfl rfl fun a hs => ?_
  refine wpList_nil ?_
  refine then_normal ?_
  have hsh := Option.some.inj hsh
  subst hsh
  refine wp_ret ?_
  exact ret1 hs rfl (rv_tmp rfl) (hw.ret rfl)

theorem filter_wrong_fn : FnOk1 Try.prog 56 [] [] filter_wrong := by
  refine ⟨Try.call56, fun hS h0 hf => ?_⟩
  obtain ⟨_, rfl, rfl⟩ := h0
  exact filter_wrong_ok hf hS 

abbrev filter_check_rd (w0 : World) (r : Int) : (Nat → Prop) → World → Value → Prop := fun S w v => v = .int .i64 r
set_option maxHeartbeats 4000000 in
set_option maxRecDepth 100000 in
theorem filter_check_ok {w0 : World} {S0 : Nat → Prop} {p2 : Option Addr} {k3 : Nat} {samples1 : (List Int)} {number5 : Int} {most6 : Int} {r : Int} (hsh : filter_check samples1 number5 most6 = some r) (hS : ∀ b, S0 b → b < w0.heap.size) (h4 : (SlA p2 samples1.length k3 samples1).p S0 w0) : Calls Try.prog 40 #[.slice p2 samples1.length k3, .int .i64 number5, .int .i64 most6] w0 (Ret [] w0 S0 (filter_check_rd w0 r)) := by
  refine calls_of_wp Try.func40 rfl ?_
  have hs := Sl.enter #[.slice p2 samples1.length k3, .int .i64 number5, .int .i64 most6] 18 [(0, .slice p2 samples1.length k3), (1, .int .i64 number5), (2, .int .i64 most6)] rfl ⟨rfl, rfl, rfl, trivial⟩
  have hw := Wd.enter (E := []) hS (fun _ h => (by cases h))
  have hw := hw.addE h4
  delta filter_check at hsh
  refine wp_seq ?_
  refine wp_region_lit ?_
  refine st_val hs (y_assign rfl) trivial rfl rfl fun a hs => ?_
  refine wpList_nil ?_
  refine then_normal ?_
  refine wp_seq ?_
  refine wp_seq ?_
  refine wp_region_lit ?_
  refine st_val hs (y_move rfl) trivial rfl rfl fun a hs => ?_
  refine st_val hs (y_move rfl) trivial rfl rfl fun a hs => ?_
  obtain ⟨rv8, h7, hsh⟩ := bind_t hsh
  refine st_callR hs (filter_in_ok h7 hw.dom) (do_call Try.call46 rfl) trivial rfl rfl ?_
  intro v12 Sv9 w a h10 h11 hs
  subst h11
  have hw := hw.call h10
  refine st_val hs (y_not rfl) trivial rfl rfl fun a hs => ?_
  refine st_val hs (y_move rfl) trivial rfl rfl fun a hs => ?_
  obtain ⟨c20, hc20, hsh⟩ := bind_t hsh
  refine wpl_join 3 (fun a w => ∃ (Sv21 : Nat → Prop), Sl 18 [(0, .slice p2 samples1.length k3), (14, .bool c20)] a ∧ Wd ⟨w0, S0, []⟩ Sv21 [] [SlA p2 samples1.length k3 samples1] w) ?_ ?_
  · rcases Bool.eq_false_or_eq_true (!rv8) with h19 | h19
    · have hs := hs.fix 11 (.bool true) rfl (vb h19)
      have hsh := ite_t hc20 h19
      refine st_skip hs rfl rfl rfl rfl rfl fun a hs => ?_
      refine st_skip hs rfl rfl rfl rfl rfl fun a hs => ?_
      refine st_val hs (y_pickT rfl rfl) trivial rfl rfl fun a hs => ?_
      refine wpList_nil ?_
      have hsh := Option.some.inj hsh
      subst hsh
      refine then_normal ?_
      exact ⟨Sv9, (hs.wk rfl), (hw.ft [] [0] (by decide) rfl rfl)⟩
    · have hs := hs.fix 11 (.bool false) rfl (vb h19)
      have hsh := ite_f hc20 h19
      refine st_val hs (y_move rfl) ⟨_, rfl, rfl⟩ rfl rfl fun a hs => ?_
      obtain ⟨rv23, h22, hsh⟩ := bind_t hsh
      refine st_callR hs (slices_ContainsFunc_Lint_int_ok h22 hw.dom (hw.envAt 0 rfl) filter_wrong_fn) (do_call Try.call55 rfl) ⟨_, rfl, rfl⟩ rfl rfl ?_
      intro v27 Sv24 w a h25 h26 hs
      subst h26
      have hw := hw.call h25
      refine st_val hs (y_pickF rfl rfl) trivial rfl rfl fun a hs => ?_
      refine wpList_nil ?_
      have hsh := Option.some.inj hsh
      subst hsh
      refine then_normal ?_
      exact ⟨Sv24, (hs.wk rfl), (hw.ft [] [0] (by decide) rfl rfl)⟩
  · rintro a w ⟨Sv21, hs, hw⟩
    refine wpList_nil ?_
    refine then_normal ?_
    refine wp_cond_split (hs.ev rfl) (fun h29 => ?_) (fun h29 => ?_)
    · have hsh := ite_t hsh h29
      refine wp_seq ?_
      refine wp_region_lit ?_
      refine st_val hs (y_assign rfl) trivial rfl rfl fun a hs => ?_
      refine wpList_nil ?_
      refine then_normal ?_
      have hsh := Option.some.inj hsh
      subst hsh
      refine wp_ret ?_
      refine then_ret ?_
      exact ret1 hs rfl (rv_tmp rfl) (hw.ret rfl)
    · have hsh := ite_f hsh h29
      refine wp_skip ?_
      refine then_normal ?_
      refine wp_seq ?_
      refine wp_seq ?_
      refine wp_region_lit ?_
      refine st_val hs (y_move rfl) trivial rfl rfl fun a hs => ?_
      refine st_val hs (y_len Try.runUnderlying22 rfl) trivial rfl rfl fun a hs => ?_
      refine st_val hs (y_gtr rfl rfl) trivial rfl rfl fun a hs => ?_
      refine wpList_nil ?_
      refine then_normal ?_
      refine wp_cond_split (hs.ev rfl) (fun h31 => ?_) (fun h31 => ?_)
      · have hsh := ite_t hsh h31
        refine wp_seq ?_
        refine wp_region_lit ?_
        refine st_val hs (y_assign rfl) trivial rfl rfl fun a hs => ?_
        refine wpList_nil ?_
        refine then_normal ?_
        have hsh := Option.some.inj hsh
        subst hsh
        refine wp_ret ?_
        refine then_ret ?_
        exact ret1 hs rfl (rv_tmp rfl) (hw.ret rfl)
      · have hsh := ite_f hsh h31
        refine wp_skip ?_
        refine then_normal ?_
        refine wp_seq ?_
        refine wp_region_lit ?_
        refine st_val hs (y_assign rfl) trivial rfl rfl fun a hs => ?_
        refine wpList_nil ?_
        refine then_normal ?_
        have hsh := Option.some.inj hsh
        subst hsh
        refine wp_ret ?_
        exact ret1 hs rfl (rv_tmp rfl) (hw.ret rfl)

abbrev filter_output_rd (w0 : World) (r : Int) : (Nat → Prop) → World → Value → Prop := fun S w v => v = .int .i64 r
set_option maxHeartbeats 4000000 in
set_option maxRecDepth 100000 in
theorem filter_output_ok {w0 : World} {S0 : Nat → Prop} {p2 : Option Addr} {k3 : Nat} {p6 : Option Addr} {k7 : Nat} {f1 : Filter} {samples5 : (List Int)} {i9 : Int} {r : Int} (hsh : filter_output f1 samples5 i9 = some r) (hS : ∀ b, S0 b → b < w0.heap.size) (h4 : (SlA p2 f1.Taps.length k3 f1.Taps).p S0 w0) (h8 : (SlA p6 samples5.length k7 samples5).p S0 w0) : Calls Try.prog 58 #[.agg #[.slice p2 f1.Taps.length k3, .int .i64 f1.Factor, .int .i64 f1.Shift], .slice p6 samples5.length k7, .int .i64 i9] w0 (Ret [] w0 S0 (filter_output_rd w0 r)) := by
  refine calls_of_wp Try.func58 rfl ?_
  have hs := Sl.enter #[.agg #[.slice p2 f1.Taps.length k3, .int .i64 f1.Factor, .int .i64 f1.Shift], .slice p6 samples5.length k7, .int .i64 i9] 33 [(0, .agg #[.slice p2 f1.Taps.length k3, .int .i64 f1.Factor, .int .i64 f1.Shift]), (1, .slice p6 samples5.length k7), (2, .int .i64 i9)] rfl ⟨rfl, rfl, rfl, trivial⟩
  have hw := Wd.enter (E := []) hS (fun _ h => (by cases h))
  have hw := hw.addE h4
  have hw := hw.addE h8
  delta filter_output at hsh
  refine wp_seq ?_
  refine wp_region_lit ?_
  refine w_box (cs := [.slice p2 f1.Taps.length k3, .int .i64 f1.Factor, .int .i64 f1.Shift]) hs hw rfl rfl rfl trivial ?_
  intro b10 a w hs hw
  refine st_val hs (y_assign rfl) trivial rfl rfl fun a hs => ?_
  refine wpList_nil ?_
  refine then_normal ?_
  refine wp_seq ?_
  refine wp_region_lit ?_
  refine st_val hs (y_assign rfl) trivial rfl rfl fun a hs => ?_
  refine wpList_nil ?_
  refine then_normal ?_
  refine wp_seq ?_
  refine wp_seq ?_
  refine wp_region_lit ?_
  refine st_val hs (y_fieldAddr (o' := 0) Try.runUnderlying28 rfl Try.sizeOf22 rfl rfl rfl) trivial rfl rfl fun a hs => ?_
  refine st_val hs (y_loadB1 (hw.ownAt 0 rfl) rfl Try.isAgg22 rfl) trivial rfl rfl fun a hs => ?_
  refine st_val hs (y_len Try.runUnderlying22 rfl) trivial rfl rfl fun a hs => ?_
  refine st_val hs (y_move rfl) trivial rfl rfl fun a hs => ?_
  refine wpList_nil ?_
  refine then_normal ?_
  obtain ⟨e167, h222, hsh⟩ := bind_t hsh
  refine wp_join (fun a w => ∃ (Sv168 : Nat → Prop), Sl 33 [(3, .pointer (some ⟨b10, 0, none⟩)), (7, .int .i64 e167)] a ∧ Wd ⟨w0, S0, []⟩ Sv168 [.box b10 [.slice p2 f1.Taps.length k3, .int .i64 f1.Factor, .int .i64 f1.Shift] 28] [SlA p2 f1.Taps.length k3 f1.Taps] w) ?_ ?_
  · refine wp_block ?_
    refine wp_while (fun sv11 a w => ∃ (Sv113 : Nat → Prop), Sl 33 [(1, .slice p6 samples5.length k7), (2, .int .i64 i9), (3, .pointer (some ⟨b10, 0, none⟩)), (7, .int .i64 sv11.1), (11, .slice p2 f1.Taps.length k3), (12, .int .i64 (f1.Taps.length : Int)), (13, .int .i64 sv11.2)] a ∧ Wd ⟨w0, S0, []⟩ Sv113 [.box b10 [.slice p2 f1.Taps.length k3, .int .i64 f1.Factor, .int .i64 f1.Shift] 28] [SlA p6 samples5.length k7 samples5, SlA p2 f1.Taps.length k3 f1.Taps] w) (0, 0) h222 ⟨S0, (hs.wk rfl), (hw.ft [0] [0, 1] (by decide) rfl rfl)⟩ ?_
    clear h222
    repeat clear hsh
    rintro sv11 a w tv165 ⟨Sv113, hs, hw⟩ hsh hd164
    delta filter_output_l1 at hsh
    refine wp_seq ?_
    refine wp_region_lit ?_
    refine st_val hs (y_lss rfl rfl) trivial rfl rfl fun a hs => ?_
    refine wpList_nil ?_
    refine then_normal ?_
    refine wp_seq ?_
    refine wp_cond_split (hs.ev rfl) (fun h170 => ?_) (fun h170 => ?_)
    · have hsh := ite_t hsh h170
      refine wp_skip ?_
      refine then_normal ?_
      refine wp_seq ?_
      refine wp_block ?_
      refine wp_seq ?_
      refine wp_region_lit ?_
      refine st_val hs (y_move rfl) trivial rfl rfl fun a hs => ?_
      obtain ⟨x197, h195, hsh⟩ := bind_t hsh
      obtain ⟨b203, o204, q201, c202, h205, h198, h199, h200, h196⟩ := hw.elemV 1 rfl h195
      subst h205
      obtain ⟨_, rfl, rfl⟩ := h196
      have hw := hw.addE h200
      refine st_val hs (y_indexAt Try.runUnderlying22 Try.sizeOf3 rfl rfl h198.1 h198.2 h199) trivial rfl rfl fun a hs => ?_
      refine st_val hs (y_loadE1 (j := 0) (hw.ceAt 0 rfl) rfl Try.isAgg3 rfl) trivial rfl rfl fun a hs => ?_
      refine st_val hs (y_assign rfl) trivial rfl rfl fun a hs => ?_
      refine st_val hs (y_assign rfl) trivial rfl rfl fun a hs => ?_
      refine wpList_nil ?_
      refine then_normal ?_
      refine wp_region_lit ?_
      refine st_val hs (y_move rfl) trivial rfl rfl fun a hs => ?_
      refine st_val hs (y_move rfl) trivial rfl rfl fun a hs => ?_
      refine st_val hs (y_move rfl) trivial rfl rfl fun a hs => ?_
      refine st_val hs (y_move rfl) trivial rfl rfl fun a hs => ?_
      refine st_val hs (y_move rfl) trivial rfl rfl fun a hs => ?_
      refine st_val hs (y_sub rfl rfl) trivial rfl rfl fun a hs => ?_
      obtain ⟨x208, h206, hsh⟩ := bind_t hsh
      obtain ⟨b214, o215, q212, c213, h216, h209, h210, h211, h207⟩ := hw.elemV 1 rfl h206
      subst h216
      obtain ⟨_, rfl, rfl⟩ := h207
      have hw := hw.addE h211
      refine st_val hs (y_indexAt Try.runUnderlying22 Try.sizeOf3 rfl rfl h209.1 h209.2 h210) trivial rfl rfl fun a hs => ?_
      refine st_val hs (y_loadE1 (j := 0) (hw.ceAt 0 rfl) rfl Try.isAgg3 rfl) trivial rfl rfl fun a hs => ?_
      refine st_val hs (y_mul rfl rfl) trivial rfl rfl fun a hs => ?_
      refine st_val hs (y_add rfl rfl) trivial rfl rfl fun a hs => ?_
      obtain ⟨sum218, h217, hsh⟩ := bind_t hsh
      refine st_val hs (y_assignI rfl h217) trivial rfl rfl fun a hs => ?_
      refine wpList_nil ?_
      refine blk_normal ?_
      refine then_normal ?_
      refine wp_region_lit ?_
      refine st_val hs (y_add rfl rfl) trivial rfl rfl fun a hs => ?_
      refine st_val hs (y_move rfl) trivial rfl rfl fun a hs => ?_
      refine wpList_nil ?_
      refine then_normal ?_
      exact ⟨_, (Option.some.inj hsh).symm, Sv113, (hs.wk rfl), (hw.ft [0] [2, 3] (by decide) rfl rfl)⟩
    · have hsh := ite_f hsh h170
      refine wp_exit ?_
      refine then_exit ?_
      refine then_exit ?_
      refine blk_exit ?_
      have hsh := Option.some.inj hsh
      subst hsh
      have h219 := hd164 _ rfl
      subst h219
      refine then_normal ?_
      exact ⟨Sv113, (hs.wk rfl), (hw.ft [0] [1] (by decide) rfl rfl)⟩
  · rintro a w ⟨Sv168, hs, hw⟩
    refine then_normal ?_
    refine wp_seq ?_
    refine wp_region_lit ?_
    refine st_val hs (y_move rfl) trivial rfl rfl fun a hs => ?_
    refine st_val hs (y_fieldAddr (o' := 2) Try.runUnderlying28 rfl Try.sizeOf3 rfl rfl rfl) trivial rfl rfl fun a hs => ?_
    refine st_val hs (y_loadB1 (hw.ownAt 0 rfl) rfl Try.isAgg3 rfl) trivial rfl rfl fun a hs => ?_
    obtain ⟨shr221, h220, hsh⟩ := bind_t hsh
    refine st_val hs (y_shrM rfl rfl h220) trivial rfl rfl fun a hs => ?_
    refine st_val hs (y_assign rfl) trivial rfl rfl fun a hs => ?_
    refine wpList_nil ?_
    refine then_normal ?_
    have hsh := Option.some.inj hsh
    subst hsh
    refine wp_ret ?_
    exact ret1 hs rfl (rv_tmp rfl) (hw.ret rfl)

abbrev filter_outputs_rd (w0 : World) (r : (List Int)) : (Nat → Prop) → World → Value → Prop := fun S w v => ∃ (p0_0 : Option Addr) (k0_0 : Nat) (c0_0 : List Value), v = .slice p0_0 r.length k0_0 ∧ Fresh w0 S w (.row p0_0 r.length k0_0 c0_0 3 1) ∧ (RowA c0_0 r).p S w
set_option maxHeartbeats 4000000 in
set_option maxRecDepth 100000 in
theorem filter_outputs_ok {w0 : World} {S0 : Nat → Prop} {p2 : Option Addr} {k3 : Nat} {p6 : Option Addr} {k7 : Nat} {f1 : Filter} {samples5 : (List Int)} {number9 : Int} {from10 : Int} {r : (List Int)} (hsh : filter_outputs f1 samples5 number9 from10 = some r) (hS : ∀ b, S0 b → b < w0.heap.size) (h4 : (SlA p2 f1.Taps.length k3 f1.Taps).p S0 w0) (h8 : (SlA p6 samples5.length k7 samples5).p S0 w0) : Calls Try.prog 41 #[.agg #[.slice p2 f1.Taps.length k3, .int .i64 f1.Factor, .int .i64 f1.Shift], .slice p6 samples5.length k7, .int .i64 number9, .int .i64 from10] w0 (Ret [] w0 S0 (filter_outputs_rd w0 r)) := by
  refine calls_of_wp Try.func41 rfl ?_
  have hs := Sl.enter #[.agg #[.slice p2 f1.Taps.length k3, .int .i64 f1.Factor, .int .i64 f1.Shift], .slice p6 samples5.length k7, .int .i64 number9, .int .i64 from10] 38 [(0, .agg #[.slice p2 f1.Taps.length k3, .int .i64 f1.Factor, .int .i64 f1.Shift]), (1, .slice p6 samples5.length k7), (2, .int .i64 number9), (3, .int .i64 from10)] rfl ⟨rfl, rfl, rfl, rfl, trivial⟩
  have hw := Wd.enter (E := []) hS (fun _ h => (by cases h))
  have hw := hw.addE h4
  have hw := hw.addE h8
  delta filter_outputs at hsh
  refine wp_seq ?_
  refine wp_region_lit ?_
  refine w_box (cs := [.slice p2 f1.Taps.length k3, .int .i64 f1.Factor, .int .i64 f1.Shift]) hs hw rfl rfl rfl trivial ?_
  intro b11 a w hs hw
  refine st_val hs (y_assign rfl) trivial rfl rfl fun a hs => ?_
  refine wpList_nil ?_
  refine then_normal ?_
  refine wp_seq ?_
  refine wp_region_lit ?_
  refine st_val hs (y_assign rfl) trivial rfl rfl fun a hs => ?_
  refine wpList_nil ?_
  refine then_normal ?_
  refine wp_seq ?_
  refine wp_seq ?_
  refine wp_region_lit ?_
  refine st_val hs (y_move rfl) trivial rfl rfl fun a hs => ?_
  refine st_val hs (y_fieldAddr (o' := 0) Try.runUnderlying28 rfl Try.sizeOf22 rfl rfl rfl) trivial rfl rfl fun a hs => ?_
  refine st_val hs (y_loadB1 (hw.ownAt 0 rfl) rfl Try.isAgg22 rfl) trivial rfl rfl fun a hs => ?_
  refine st_val hs (y_len Try.runUnderlying22 rfl) trivial rfl rfl fun a hs => ?_
  refine st_val hs (y_sub rfl rfl) trivial rfl rfl fun a hs => ?_
  refine st_val hs (y_max rfl rfl) trivial rfl rfl fun a hs => ?_
  obtain ⟨i13, h12, hsh⟩ := bind_t hsh
  refine st_val hs (y_assignI rfl h12) trivial rfl rfl fun a hs => ?_
  refine wpList_nil ?_
  refine then_normal ?_
  obtain ⟨e248, h328, hsh⟩ := bind_t hsh
  refine wp_join (fun a w => ∃ (p249 : Option Addr) (k250 : Nat) (c251 : List Value) (Sv252 : Nat → Prop), Sl 38 [(9, .slice p249 e248.length k250)] a ∧ Wd ⟨w0, S0, []⟩ Sv252 [.row p249 e248.length k250 c251 3 1] [RowA c251 e248] w) ?_ ?_
  · refine wp_block ?_
    have hw := hw.nilRow Int 3
    refine wp_while (fun sv14 a w => ∃ (p167 : Option Addr) (k168 : Nat) (c169 : List Value) (Sv170 : Nat → Prop), Sl 38 [(1, .slice p6 samples5.length k7), (2, .int .i64 number9), (4, .pointer (some ⟨b11, 0, none⟩)), (9, .slice p167 sv14.1.length k168), (10, .int .i64 sv14.2)] a ∧ Wd ⟨w0, S0, []⟩ Sv170 [.box b11 [.slice p2 f1.Taps.length k3, .int .i64 f1.Factor, .int .i64 f1.Shift] 28, .row p167 sv14.1.length k168 c169 3 1] [SlA p6 samples5.length k7 samples5, SlA p2 f1.Taps.length k3 f1.Taps, RowA c169 sv14.1] w) (([] : List Int), i13) h328 ⟨none, 0, [], S0, (hs.wk rfl), (hw.ft [1, 0] [1, 2, 0] (by decide) rfl rfl)⟩ ?_
    clear h328
    repeat clear hsh
    rintro sv14 a w tv246 ⟨p167, k168, c169, Sv170, hs, hw⟩ hsh hd245
    delta filter_outputs_l1 at hsh
    refine wp_seq ?_
    refine wp_seq ?_
    refine wp_region_lit ?_
    refine st_val hs (y_move rfl) trivial rfl rfl fun a hs => ?_
    refine st_val hs (y_move rfl) trivial rfl rfl fun a hs => ?_
    refine st_val hs (y_len Try.runUnderlying22 rfl) trivial rfl rfl fun a hs => ?_
    refine st_val hs (y_lss rfl rfl) trivial rfl rfl fun a hs => ?_
    refine wpList_nil ?_
    refine then_normal ?_
    refine wp_cond_split (hs.ev rfl) (fun h254 => ?_) (fun h254 => ?_)
    · have hsh := ite_t hsh h254
      refine wp_skip ?_
      refine then_normal ?_
      refine wp_seq ?_
      refine wp_block ?_
      refine wp_seq ?_
      refine wp_region_lit ?_
      refine st_val hs (y_move rfl) trivial rfl rfl fun a hs => ?_
      refine st_val hs (y_move rfl) trivial rfl rfl fun a hs => ?_
      refine st_val hs (y_add rfl rfl) trivial rfl rfl fun a hs => ?_
      refine st_val hs (y_fieldAddr (o' := 1) Try.runUnderlying28 rfl Try.sizeOf3 rfl rfl rfl) trivial rfl rfl fun a hs => ?_
      refine st_val hs (y_loadB1 (hw.ownAt 0 rfl) rfl Try.isAgg3 rfl) trivial rfl rfl fun a hs => ?_
      obtain ⟨rem291, h290, hsh⟩ := bind_t hsh
      refine st_val hs (y_remM rfl rfl h290) trivial rfl rfl fun a hs => ?_
      refine st_val hs (y_eql rfl rfl) trivial rfl rfl fun a hs => ?_
      refine wpList_nil ?_
      refine then_normal ?_
      refine wp_join (fun a w => ∃ (out310 : (List Int)) (p306 : Option Addr) (k307 : Nat) (c308 : List Value) (Sv309 : Nat → Prop), filter_outputs_j1 sv14 out310 = some tv246 ∧ Sl 38 [(1, .slice p6 samples5.length k7), (2, .int .i64 number9), (4, .pointer (some ⟨b11, 0, none⟩)), (9, .slice p306 out310.length k307), (10, .int .i64 sv14.2)] a ∧ Wd ⟨w0, S0, []⟩ Sv309 [.box b11 [.slice p2 f1.Taps.length k3, .int .i64 f1.Factor, .int .i64 f1.Shift] 28, .row p306 out310.length k307 c308 3 1] [SlA p6 samples5.length k7 samples5, SlA p2 f1.Taps.length k3 f1.Taps, RowA c308 out310] w) ?_ ?_
      · refine wp_cond_split (hs.ev rfl) (fun h313 => ?_) (fun h313 => ?_)
        · have hsh := ite_t hsh h313
          refine wp_region_lit ?_
          refine st_val hs (y_move rfl) trivial rfl rfl fun a hs => ?_
          refine st_val hs (y_loadBA (hw.ownAt 0 rfl) rfl Try.isAgg28 Try.sizeOf28 rfl rfl) trivial rfl rfl fun a hs => ?_
          refine st_val hs (y_move rfl) trivial rfl rfl fun a hs => ?_
          refine st_val hs (y_move rfl) trivial rfl rfl fun a hs => ?_
          obtain ⟨rv315, h314, hsh⟩ := bind_t hsh
          refine st_callR hs (filter_output_ok h314 hw.dom (hw.envAt 1 rfl) (hw.envAt 0 rfl)) (do_call Try.call58 rfl) trivial rfl rfl ?_
          intro v319 Sv316 w a h317 h318 hs
          subst h318
          have hw := hw.call h317
          refine w_litSlice (α := Int) (vs := [.int .i64 rv315]) (cs := [.int .i64 rv315]) (xs := ([rv315] : List Int)) hs hw El22 rfl rfl rfl rfl rfl rfl ⟨⟨_, rfl, rfl⟩, rfl⟩ rfl trivial rfl fun b321 a w hs hw => ?_
          obtain ⟨l323, h322, hsh⟩ := bind_t hsh
          refine w_appendR (α := Int) hs hw El22 2 rfl rfl rfl 3 rfl 0 rfl 0 rfl h322 rfl trivial ?_
          intro p324 k325 c326 a w hs hw
          refine st_val hs (y_assign rfl) trivial rfl rfl fun a hs => ?_
          refine wpList_nil ?_
          refine then_normal ?_
          exact ⟨l323, p324, k325, c326, Sv316, hsh, (hs.wk rfl), (hw.ft [1, 2] [2, 3, 0] (by decide) rfl rfl)⟩
        · have hsh := ite_f hsh h313
          refine wp_skip ?_
          refine then_normal ?_
          exact ⟨sv14.1, p167, k168, c169, Sv170, hsh, (hs.wk rfl), (hw.ft [0, 1] [0, 1, 2] (by decide) rfl rfl)⟩
      · rintro a w ⟨out310, p306, k307, c308, Sv309, hsh, hs, hw⟩
        delta filter_outputs_j1 at hsh
        refine blk_normal ?_
        refine then_normal ?_
        refine wp_region_lit ?_
        refine st_val hs (y_move rfl) trivial rfl rfl fun a hs => ?_
        refine st_val hs (y_add rfl rfl) trivial rfl rfl fun a hs => ?_
        obtain ⟨i312, h311, hsh⟩ := bind_t hsh
        refine st_val hs (y_assignI rfl h311) trivial rfl rfl fun a hs => ?_
        refine wpList_nil ?_
        refine then_normal ?_
        exact ⟨_, (Option.some.inj hsh).symm, p306, k307, c308, Sv309, (hs.wk rfl), (hw.ft [0, 1] [0, 1, 2] (by decide) rfl rfl)⟩
    · have hsh := ite_f hsh h254
      refine wp_exit ?_
      refine then_exit ?_
      refine then_exit ?_
      refine blk_exit ?_
      have hsh := Option.some.inj hsh
      subst hsh
      have h327 := hd245 _ rfl
      subst h327
      refine then_normal ?_
      exact ⟨p167, k168, c169, Sv170, (hs.wk rfl), (hw.ft [1] [2] (by decide) rfl rfl)⟩
  · rintro a w ⟨p249, k250, c251, Sv252, hs, hw⟩
    refine then_normal ?_
    refine wp_seq ?_
    refine wp_region_lit ?_
    refine st_val hs (y_move rfl) trivial rfl rfl fun a hs => ?_
    refine st_val hs (y_assign rfl) trivial rfl rfl fun a hs => ?_
    refine wpList_nil ?_
    refine then_normal ?_
    have hsh := Option.some.inj hsh
    subst hsh
    refine wp_ret ?_
    exact ret1 hs rfl (rv_tmp rfl) (hw.ret ⟨p249, k250, c251, rfl, (hw.freshOf 0 rfl (.inl rfl)), (hw.envAt 0 rfl)⟩)

abbrev filter_Apply_rd (w0 : World) (r : ((List Int) × Int)) : (Nat → Prop) → World → Value → Prop := fun S w v => ∃ (p0_0 : Option Addr) (k0_0 : Nat) (c0_0 : List Value), v = .tuple #[.slice p0_0 r.1.length k0_0, .int .i64 r.2] ∧ Fresh w0 S w (.row p0_0 r.1.length k0_0 c0_0 3 1) ∧ (RowA c0_0 r.1).p S w
set_option maxHeartbeats 4000000 in
set_option maxRecDepth 100000 in
theorem filter_Apply_ok {w0 : World} {S0 : Nat → Prop} {p2 : Option Addr} {k3 : Nat} {p6 : Option Addr} {k7 : Nat} {f1 : Filter} {samples5 : (List Int)} {number9 : Int} {r : ((List Int) × Int)} (hsh : filter_Apply f1 samples5 number9 = some r) (hS : ∀ b, S0 b → b < w0.heap.size) (h4 : (SlA p2 f1.Taps.length k3 f1.Taps).p S0 w0) (h8 : (SlA p6 samples5.length k7 samples5).p S0 w0) : Calls Try.prog 14 #[.agg #[.slice p2 f1.Taps.length k3, .int .i64 f1.Factor, .int .i64 f1.Shift], .slice p6 samples5.length k7, .int .i64 number9] w0 (Ret [] w0 S0 (filter_Apply_rd w0 r)) := by
  refine calls_of_wp Try.func14 rfl ?_
  have hs := Sl.enter #[.agg #[.slice p2 f1.Taps.length k3, .int .i64 f1.Factor, .int .i64 f1.Shift], .slice p6 samples5.length k7, .int .i64 number9] 22 [(0, .agg #[.slice p2 f1.Taps.length k3, .int .i64 f1.Factor, .int .i64 f1.Shift]), (1, .slice p6 samples5.length k7), (2, .int .i64 number9)] rfl ⟨rfl, rfl, rfl, trivial⟩
  have hw := Wd.enter (E := []) hS (fun _ h => (by cases h))
  have hw := hw.addE h4
  have hw := hw.addE h8
  delta filter_Apply at hsh
  refine wp_seq ?_
  refine wp_region_lit ?_
  refine w_box (cs := [.slice p2 f1.Taps.length k3, .int .i64 f1.Factor, .int .i64 f1.Shift]) hs hw rfl rfl rfl trivial ?_
  intro b10 a w hs hw
  refine st_val hs (y_assign rfl) trivial rfl rfl fun a hs => ?_
  refine st_val hs (y_assign rfl) trivial rfl rfl fun a hs => ?_
  refine wpList_nil ?_
  refine then_normal ?_
  refine wp_seq ?_
  refine wp_seq ?_
  refine wp_region_lit ?_
  refine st_val hs (y_loadBA (hw.ownAt 0 rfl) rfl Try.isAgg28 Try.sizeOf28 rfl rfl) trivial rfl rfl fun a hs => ?_
  obtain ⟨rv12, h11, hsh⟩ := bind_t hsh
  refine st_callR hs (filter_Valid_ok h11 hw.dom (hw.envAt 1 rfl)) (do_call Try.call32 rfl) trivial rfl rfl ?_
  intro v16 Sv13 w a h14 h15 hs
  subst h15
  have hw := hw.call h14
  refine st_val hs (y_not rfl) trivial rfl rfl fun a hs => ?_
  refine wpList_nil ?_
  refine then_normal ?_
  refine wp_cond_split (hs.ev rfl) (fun h18 => ?_) (fun h18 => ?_)
  · have hsh := ite_t hsh h18
    refine wp_seq ?_
    refine wp_region_lit ?_
    refine st_val hs (y_assign rfl) trivial rfl rfl fun a hs => ?_
    refine st_val hs (y_assign rfl) trivial rfl rfl fun a hs => ?_
    refine wpList_nil ?_
    refine then_normal ?_
    have hsh := Option.some.inj hsh
    subst hsh
    have hw := hw.nilRow Int 3
    refine wp_ret ?_
    refine then_ret ?_
    exact ret2 hs rfl (rv_tmp rfl) (rv_tmp rfl) (hw.ret ⟨none, 0, [], rfl, (hw.freshOf 0 rfl (.inl rfl)), (hw.envAt 0 rfl)⟩)
  · have hsh := ite_f hsh h18
    refine wp_skip ?_
    refine then_normal ?_
    refine wp_seq ?_
    refine wp_seq ?_
    refine wp_region_lit ?_
    refine st_val hs (y_move rfl) trivial rfl rfl fun a hs => ?_
    refine st_val hs (y_move rfl) trivial rfl rfl fun a hs => ?_
    obtain ⟨rv20, h19, hsh⟩ := bind_t hsh
    refine st_callR hs (filter_check_ok h19 hw.dom (hw.envAt 0 rfl)) (do_call Try.call40 rfl) trivial rfl rfl ?_
    intro v24 Sv21 w a h22 h23 hs
    subst h23
    have hw := hw.call h22
    refine st_val hs (y_assign rfl) trivial rfl rfl fun a hs => ?_
    refine wpList_nil ?_
    refine then_normal ?_
    refine wp_seq ?_
    refine wp_region_lit ?_
    refine st_val hs (y_move rfl) trivial rfl rfl fun a hs => ?_
    refine st_val hs (y_neq rfl rfl) trivial rfl rfl fun a hs => ?_
    refine wpList_nil ?_
    refine then_normal ?_
    refine wp_cond_split (hs.ev rfl) (fun h26 => ?_) (fun h26 => ?_)
    · have hsh := ite_t hsh h26
      refine wp_seq ?_
      refine wp_region_lit ?_
      refine st_val hs (y_move rfl) trivial rfl rfl fun a hs => ?_
      refine st_val hs (y_assign rfl) trivial rfl rfl fun a hs => ?_
      refine st_val hs (y_assign rfl) trivial rfl rfl fun a hs => ?_
      refine wpList_nil ?_
      refine then_normal ?_
      have hsh := Option.some.inj hsh
      subst hsh
      have hw := hw.nilRow Int 3
      refine wp_ret ?_
      refine then_ret ?_
      exact ret2 hs rfl (rv_tmp rfl) (rv_tmp rfl) (hw.ret ⟨none, 0, [], rfl, (hw.freshOf 0 rfl (.inl rfl)), (hw.envAt 0 rfl)⟩)
    · have hsh := ite_f hsh h26
      refine wp_skip ?_
      refine then_normal ?_
      refine wp_seq ?_
      refine wp_region_lit ?_
      refine st_val hs (y_loadBA (hw.ownAt 0 rfl) rfl Try.isAgg28 Try.sizeOf28 rfl rfl) trivial rfl rfl fun a hs => ?_
      refine st_val hs (y_move rfl) trivial rfl rfl fun a hs => ?_
      refine st_val hs (y_move rfl) trivial rfl rfl fun a hs => ?_
      obtain ⟨rv28, h27, hsh⟩ := bind_t hsh
      refine st_callR hs (filter_outputs_ok h27 hw.dom (hw.envAt 1 rfl) (hw.envAt 0 rfl)) (do_call Try.call41 rfl) trivial rfl rfl ?_
      intro v37 Sv34 w a h35 h36 hs
      obtain ⟨p29, k30, c31, rfl, h32, h33⟩ := h36
      have hw := hw.callF h35 h32
      have hw := hw.addE (e := RowA c31 rv28) h33
      refine st_val hs (y_assign rfl) trivial rfl rfl fun a hs => ?_
      refine st_val hs (y_assign rfl) trivial rfl rfl fun a hs => ?_
      refine wpList_nil ?_
      refine then_normal ?_
      have hsh := Option.some.inj hsh
      subst hsh
      refine wp_ret ?_
      exact ret2 hs rfl (rv_tmp rfl) (rv_tmp rfl) (hw.ret ⟨p29, k30, c31, rfl, (hw.freshOf 0 rfl (.inl rfl)), (hw.envAt 0 rfl)⟩)

abbrev ref05_Same_rd (w0 : World) (r : Bool) : (Nat → Prop) → World → Value → Prop := fun S w v => v = .bool r
set_option maxHeartbeats 4000000 in
set_option maxRecDepth 100000 in
theorem ref05_Same_ok {w0 : World} {S0 : Nat → Prop} {p2 : Option Addr} {k3 : Nat} {p6 : Option Addr} {k7 : Nat} {a1 : (List Int)} {b5 : (List Int)} {r : Bool} (hsh : ref05_Same a1 b5 = some r) (hS : ∀ b, S0 b → b < w0.heap.size) (h4 : (SlA p2 a1.length k3 a1).p S0 w0) (h8 : (SlA p6 b5.length k7 b5).p S0 w0) : Calls Try.prog 23 #[.slice p2 a1.length k3, .slice p6 b5.length k7] w0 (Ret [] w0 S0 (ref05_Same_rd w0 r)) := by
  refine calls_of_wp Try.func23 rfl ?_
  have hs := Sl.enter #[.slice p2 a1.length k3, .slice p6 b5.length k7] 26 [(0, .slice p2 a1.length k3), (1, .slice p6 b5.length k7)] rfl ⟨rfl, rfl, trivial⟩
  have hw := Wd.enter (E := []) hS (fun _ h => (by cases h))
  have hw := hw.addE h4
  have hw := hw.addE h8
  delta ref05_Same at hsh
  refine wp_seq ?_
  refine wp_region_lit ?_
  refine st_val hs (y_assign rfl) trivial rfl rfl fun a hs => ?_
  refine wpList_nil ?_
  refine then_normal ?_
  refine wp_seq ?_
  refine wp_seq ?_
  refine wp_region_lit ?_
  refine st_val hs (y_move rfl) trivial rfl rfl fun a hs => ?_
  refine st_val hs (y_len Try.runUnderlying22 rfl) trivial rfl rfl fun a hs => ?_
  refine st_val hs (y_move rfl) trivial rfl rfl fun a hs => ?_
  refine st_val hs (y_len Try.runUnderlying22 rfl) trivial rfl rfl fun a hs => ?_
  refine st_val hs (y_neq rfl rfl) trivial rfl rfl fun a hs => ?_
  refine wpList_nil ?_
  refine then_normal ?_
  refine wp_cond_split (hs.ev rfl) (fun h10 => ?_) (fun h10 => ?_)
  · have hsh := ite_t hsh h10
    refine wp_seq ?_
    refine wp_region_lit ?_
    refine st_val hs (y_assign rfl) trivial rfl rfl fun a hs => ?_
    refine wpList_nil ?_
    refine then_normal ?_
    have hsh := Option.some.inj hsh
    subst hsh
    refine wp_ret ?_
    refine then_ret ?_
    exact ret1 hs rfl (rv_tmp rfl) (hw.ret rfl)
  · have hsh := ite_f hsh h10
    refine wp_skip ?_
    refine then_normal ?_
    refine wp_seq ?_
    refine wp_seq ?_
    refine wp_region_lit ?_
    refine st_val hs (y_assign rfl) trivial rfl rfl fun a hs => ?_
    refine wpList_nil ?_
    refine then_normal ?_
    refine wp_block ?_
    refine wp_while (fun sv178 a w => ∃ (Sv288 : Nat → Prop), Sl 26 [(0, .slice p2 a1.length k3), (1, .slice p6 b5.length k7), (5, .int .i64 sv178)] a ∧ Wd ⟨w0, S0, []⟩ Sv288 [] [SlA p2 a1.length k3 a1, SlA p6 b5.length k7 b5] w) 0 hsh ⟨S0, (hs.wk rfl), (hw.ft [] [1, 0] (by decide) rfl rfl)⟩ ?_
    repeat clear hsh
    rintro sv178 a w tv344 ⟨Sv288, hs, hw⟩ hsh hd343
    delta ref05_Same_l2 at hsh
    refine wp_seq ?_
    refine wp_seq ?_
    refine wp_region_lit ?_
    refine st_val hs (y_move rfl) trivial rfl rfl fun a hs => ?_
    refine st_val hs (y_move rfl) trivial rfl rfl fun a hs => ?_
    refine st_val hs (y_len Try.runUnderlying22 rfl) trivial rfl rfl fun a hs => ?_
    refine st_val hs (y_lss rfl rfl) trivial rfl rfl fun a hs => ?_
    refine wpList_nil ?_
    refine then_normal ?_
    refine wp_cond_split (hs.ev rfl) (fun h348 => ?_) (fun h348 => ?_)
    · have hsh := ite_t hsh h348
      refine wp_skip ?_
      refine then_normal ?_
      refine wp_seq ?_
      refine wp_block ?_
      refine wp_seq ?_
      obtain ⟨x376, h374, hsh⟩ := bind_t hsh
      obtain ⟨b382, o383, q380, c381, h384, h377, h378, h379, h375⟩ := hw.elemV 0 rfl h374
      subst h384
      obtain ⟨_, rfl, rfl⟩ := h375
      have hw := hw.addE h379
      obtain ⟨x387, h385, hsh⟩ := bind_t hsh
      obtain ⟨b393, o394, q391, c392, h395, h388, h389, h390, h386⟩ := hw.elemV 2 rfl h385
      subst h395
      obtain ⟨_, rfl, rfl⟩ := h386
      have hw := hw.addE h390
      refine wp_only (fun a w => ∃ (Sv396 : Nat → Prop), Sl 26 [(0, .slice (some ⟨b382, o383, none⟩) a1.length k3), (1, .slice (some ⟨b393, o394, none⟩) b5.length k7), (5, .int .i64 sv178), (25, .bool (x376 != x387))] a ∧ Wd ⟨w0, S0, []⟩ Sv396 [] [SlA (some ⟨b382, o383, none⟩) a1.length k3 a1, SlA (some ⟨b393, o394, none⟩) b5.length k7 b5] w) ?_ ?_
      · refine h_begin (C := Cls [] [CeA b393 q391 [.int .i64 x387], CeA b382 q380 [.int .i64 x376]]) (by kernel_rfl) rfl ?_
        have hw := hw.drew
        have hC : Cls [] [CeA b393 q391 [.int .i64 x387], CeA b382 q380 [.int .i64 x376]] _ := hw.cs [] [0, 1] rfl rfl
        refine h_get hs (i := 0) rfl (by kernel_rfl) rfl rfl hC rfl (fun w hC => y_move rfl) fun a hs => ?_
        refine h_get hs (i := 1) rfl (by kernel_rfl) rfl rfl hC rfl (fun w hC => y_move rfl) fun a hs => ?_
        refine h_get hs (i := 2) rfl (by kernel_rfl) rfl rfl hC rfl (fun w hC => y_indexAt Try.runUnderlying22 Try.sizeOf3 rfl rfl h377.1 h377.2 h378) fun a hs => ?_
        refine h_get hs (i := 3) rfl (by kernel_rfl) rfl rfl hC rfl (fun w hC => y_loadE1 (j := 0) (hC.ceAt 1 rfl) rfl Try.isAgg3 rfl) fun a hs => ?_
        refine h_get hs (i := 4) rfl (by kernel_rfl) rfl rfl hC rfl (fun w hC => y_move rfl) fun a hs => ?_
        refine h_get hs (i := 5) rfl (by kernel_rfl) rfl rfl hC rfl (fun w hC => y_move rfl) fun a hs => ?_
        refine h_get hs (i := 6) rfl (by kernel_rfl) rfl rfl hC rfl (fun w hC => y_indexAt Try.runUnderlying22 Try.sizeOf3 rfl rfl h388.1 h388.2 h389) fun a hs => ?_
        refine h_get hs (i := 7) rfl (by kernel_rfl) rfl rfl hC rfl (fun w hC => y_loadE1 (j := 0) (hC.ceAt 0 rfl) rfl Try.isAgg3 rfl) fun a hs => ?_
        refine h_get hs (i := 8) rfl (by kernel_rfl) rfl rfl hC rfl (fun w hC => y_neq rfl rfl) fun a hs => ?_
        refine h_done (by kernel_rfl) ?_
        exact ⟨Sv288, (hs.wk rfl), (hw.ft [] [2, 3] (by decide) rfl rfl)⟩
      · rintro a w ⟨Sv396, hs, hw⟩
        refine then_normal ?_
        refine wp_cond_split (hs.ev rfl) (fun h398 => ?_) (fun h398 => ?_)
        · have hsh := ite_t hsh h398
          refine wp_seq ?_
          refine wp_region_lit ?_
          refine st_val hs (y_assign rfl) trivial rfl rfl fun a hs => ?_
          refine wpList_nil ?_
          refine then_normal ?_
          have hsh := Option.some.inj hsh
          subst hsh
          have h399 := hd343 _ rfl
          subst h399
          refine wp_ret ?_
          refine blk_ret ?_
          refine then_ret ?_
          refine then_ret ?_
          refine blk_ret ?_
          refine then_ret ?_
          exact ret1 hs rfl (rv_tmp rfl) (hw.ret rfl)
        · have hsh := ite_f hsh h398
          refine wp_skip ?_
          refine blk_normal ?_
          refine then_normal ?_
          refine wp_region_lit ?_
          refine st_val hs (y_move rfl) trivial rfl rfl fun a hs => ?_
          refine st_val hs (y_add rfl rfl) trivial rfl rfl fun a hs => ?_
          obtain ⟨i401, h400, hsh⟩ := bind_t hsh
          refine st_val hs (y_assignI rfl h400) trivial rfl rfl fun a hs => ?_
          refine wpList_nil ?_
          refine then_normal ?_
          exact ⟨_, (Option.some.inj hsh).symm, Sv396, (hs.wk rfl), (hw.ft [] [0, 1] (by decide) rfl rfl)⟩
    · have hsh := ite_f hsh h348
      obtain ⟨rv402, hsh, h403⟩ := map_t hsh
      have h403 := hd343 _ h403.symm
      subst h403
      refine wp_exit ?_
      refine then_exit ?_
      refine then_exit ?_
      refine blk_exit ?_
      refine then_normal ?_
      refine wp_seq ?_
      refine wp_region_lit ?_
      refine st_val hs (y_assign rfl) trivial rfl rfl fun a hs => ?_
      refine wpList_nil ?_
      refine then_normal ?_
      have hsh := Option.some.inj hsh
      subst hsh
      refine wp_ret ?_
      exact ret1 hs rfl (rv_tmp rfl) (hw.ret rfl)

abbrev law21_sane_rd (w0 : World) (r : Bool) : (Nat → Prop) → World → Value → Prop := fun S w v => v = .bool r
set_option maxHeartbeats 4000000 in
set_option maxRecDepth 100000 in
theorem law21_sane_ok {w0 : World} {S0 : Nat → Prop} {r : Bool} (hsh : law21_sane = some r) (hS : ∀ b, S0 b → b < w0.heap.size) : Calls Try.prog 11 #[] w0 (Ret [] w0 S0 (law21_sane_rd w0 r)) := by
  refine calls_of_wp Try.func11 rfl ?_
  have hs := Sl.enter #[] 41 [] rfl trivial
  have hw := Wd.enter (E := []) hS (fun _ h => (by cases h))
  delta law21_sane at hsh
  refine wp_seq ?_
  refine wp_region_lit ?_
  refine st_val hs (y_assign rfl) trivial rfl rfl fun a hs => ?_
  refine wpList_nil ?_
  refine then_normal ?_
  refine wp_seq ?_
  refine wp_region_lit ?_
  refine w_litSlice (α := Int) (vs := [.int .i64 1, .int .i64 1]) (cs := [.int .i64 1, .int .i64 1]) (xs := ([1, 1] : List Int)) hs hw El22 rfl rfl rfl rfl rfl rfl ⟨⟨_, rfl, rfl⟩, ⟨⟨_, rfl, rfl⟩, rfl⟩⟩ rfl trivial rfl fun b2 a w hs hw => ?_
  refine st_val hs (y_build (vs := [(0, .slice (some ⟨b2, 0, none⟩) ([1, 1] : List Int).length ([1, 1] : List Int).length), (1, .int .i64 1), (2, .int .i64 1)]) Bld28 rfl rfl) trivial rfl rfl fun a hs => ?_
  refine w_alloc (cs := [.slice none ([] : List Int).length 0, .int .i64 0, .int .i64 0]) hs hw Try.zeroValue28 rfl rfl trivial ?_
  intro b3 a w hs hw
  refine w_store (m := 3) (cs' := [.slice (some ⟨b2, 0, none⟩) ([1, 1] : List Int).length ([1, 1] : List Int).length, .int .i64 1, .int .i64 1]) hs hw 0 rfl rfl rfl Try.sizeOf28 rfl rfl rfl rfl trivial ?_
  intro a w hs hw
  refine wpList_nil ?_
  refine then_normal ?_
  refine wp_seq ?_
  refine wp_region_lit ?_
  refine st_val hs (y_loadBA (hw.ownAt 0 rfl) rfl Try.isAgg28 Try.sizeOf28 rfl rfl) trivial rfl rfl fun a hs => ?_
  refine w_litSlice (α := Int) (vs := [.int .i64 4, .int .i64 6, .int .i64 9]) (cs := [.int .i64 4, .int .i64 6, .int .i64 9]) (xs := ([4, 6, 9] : List Int)) hs hw El22 rfl rfl rfl rfl rfl rfl ⟨⟨_, rfl, rfl⟩, ⟨⟨_, rfl, rfl⟩, ⟨⟨_, rfl, rfl⟩, rfl⟩⟩⟩ rfl trivial rfl fun b5 a w hs hw => ?_
  obtain ⟨rv7, h6, hsh⟩ := bind_t hsh
  obtain ⟨Sv13, hw⟩ := w_share (α := Int) hw 2 rfl 1 rfl (.inl rfl)
  obtain ⟨Sv14, hw⟩ := w_share (α := Int) hw 0 rfl 1 rfl (.inl rfl)
  refine st_callR hs (filter_Apply_ok h6 hw.dom (hw.envAt 1 rfl) (hw.envAt 0 rfl)) (do_call Try.call14 rfl) trivial rfl rfl ?_
  intro v18 Sv15 w a h16 h17 hs
  obtain ⟨p8, k9, c10, rfl, h11, h12⟩ := h17
  have hw := hw.callF h16 h11
  have hw := hw.addE (e := RowA c10 rv7.1) h12
  refine st_val hs (y_move rfl) trivial rfl rfl fun a hs => ?_
  refine st_val hs (y_extract rfl rfl) trivial rfl rfl fun a hs => ?_
  refine st_val hs (y_extract rfl rfl) trivial rfl rfl fun a hs => ?_
  refine st_val hs (y_assign rfl) trivial rfl rfl fun a hs => ?_
  refine st_val hs (y_assign rfl) trivial rfl rfl fun a hs => ?_
  refine wpList_nil ?_
  refine then_normal ?_
  refine wp_seq ?_
  refine wp_region_lit ?_
  refine st_val hs (y_fieldAddr (o' := 1) Try.runUnderlying28 rfl Try.sizeOf3 rfl rfl rfl) trivial rfl rfl fun a hs => ?_
  refine w_store (m := 1) (cs' := [.slice (some ⟨b2, 0, none⟩) ([1, 1] : List Int).length ([1, 1] : List Int).length, .int .i64 2, .int .i64 1]) hs hw 1 rfl rfl rfl Try.sizeOf3 rfl rfl rfl rfl trivial ?_
  intro a w hs hw
  refine wpList_nil ?_
  refine then_normal ?_
  refine wp_seq ?_
  refine wp_region_lit ?_
  refine st_val hs (y_loadBA (hw.ownAt 1 rfl) rfl Try.isAgg28 Try.sizeOf28 rfl rfl) trivial rfl rfl fun a hs => ?_
  refine w_litSlice (α := Int) (vs := [.int .i64 4, .int .i64 6, .int .i64 9]) (cs := [.int .i64 4, .int .i64 6, .int .i64 9]) (xs := ([4, 6, 9] : List Int)) hs hw El22 rfl rfl rfl rfl rfl rfl ⟨⟨_, rfl, rfl⟩, ⟨⟨_, rfl, rfl⟩, ⟨⟨_, rfl, rfl⟩, rfl⟩⟩⟩ rfl trivial rfl fun b20 a w hs hw => ?_
  obtain ⟨rv22, h21, hsh⟩ := bind_t hsh
  obtain ⟨Sv28, hw⟩ := w_share (α := Int) hw 0 rfl 0 rfl (.inl rfl)
  refine st_callR hs (filter_Apply_ok h21 hw.dom (hw.envAt 4 rfl) (hw.envAt 0 rfl)) (do_call Try.call14 rfl) trivial rfl rfl ?_
  intro v32 Sv29 w a h30 h31 hs
  obtain ⟨p23, k24, c25, rfl, h26, h27⟩ := h31
  have hw := hw.callF h30 h26
  have hw := hw.addE (e := RowA c25 rv22.1) h27
  refine st_val hs (y_move rfl) trivial rfl rfl fun a hs => ?_
  refine st_val hs (y_extract rfl rfl) trivial rfl rfl fun a hs => ?_
  refine st_val hs (y_extract rfl rfl) trivial rfl rfl fun a hs => ?_
  refine st_val hs (y_assign rfl) trivial rfl rfl fun a hs => ?_
  refine st_val hs (y_assign rfl) trivial rfl rfl fun a hs => ?_
  refine wpList_nil ?_
  refine then_normal ?_
  refine wp_seq ?_
  refine wp_region_lit ?_
  refine st_val hs (y_move rfl) trivial rfl rfl fun a hs => ?_
  refine st_val hs (y_eql rfl rfl) trivial rfl rfl fun a hs => ?_
  refine st_val hs (y_move rfl) trivial rfl rfl fun a hs => ?_
  refine wpl_join 3 (fun a w1 => w = w1 ∧ Sl 41 [(1, .pointer (some ⟨b3, 0, none⟩)), (2, .slice p8 rv7.1.length k9), (4, .slice p23 rv22.1.length k24), (26, .bool ((rv7.2 == 0) && (rv22.2 == 0)))] a) ?_ ?_
  · rcases Bool.eq_false_or_eq_true (rv7.2 == 0) with h33 | h33
    · have hs := hs.fix 23 (.bool true) rfl (vb h33)
      refine st_val hs (y_move rfl) ⟨_, rfl, rfl⟩ rfl rfl fun a hs => ?_
      refine st_val hs (y_eql rfl rfl) ⟨_, rfl, rfl⟩ rfl rfl fun a hs => ?_
      refine st_val hs (y_pickT rfl rfl) trivial rfl rfl fun a hs => ?_
      refine wpList_nil ?_
      refine then_normal ?_
      exact ⟨rfl, (hs.fix 26 (.bool ((rv7.2 == 0) && (rv22.2 == 0))) rfl (and_t h33)).weaken _ ⟨rfl, rfl, rfl, rfl, trivial⟩⟩
    · have hs := hs.fix 23 (.bool false) rfl (vb h33)
      refine st_skip hs rfl rfl rfl rfl rfl fun a hs => ?_
      refine st_skip hs rfl rfl rfl rfl rfl fun a hs => ?_
      refine st_val hs (y_pickF rfl rfl) trivial rfl rfl fun a hs => ?_
      refine wpList_nil ?_
      refine then_normal ?_
      exact ⟨rfl, (hs.fix 26 (.bool ((rv7.2 == 0) && (rv22.2 == 0))) rfl (and_f h33)).weaken _ ⟨rfl, rfl, rfl, rfl, trivial⟩⟩
  · rintro a w1 ⟨h95, hs⟩
    subst h95
    refine st_val hs (y_move rfl) trivial rfl rfl fun a hs => ?_
    obtain ⟨c45, hc45, hsh⟩ := bind_t hsh
    refine wpl_join 4 (fun a w => ∃ (Sv46 : Nat → Prop), Sl 41 [(1, .pointer (some ⟨b3, 0, none⟩)), (4, .slice p23 rv22.1.length k24), (31, .bool c45)] a ∧ Wd ⟨w0, S0, []⟩ Sv46 [.box b3 [.slice (some ⟨b2, 0, none⟩) ([1, 1] : List Int).length ([1, 1] : List Int).length, .int .i64 2, .int .i64 1] 28, .row p23 rv22.1.length k24 c25 3 1] [SlA (some ⟨b2, 0, none⟩) ([1, 1] : List Int).length ([1, 1] : List Int).length ([1, 1] : List Int), RowA c25 rv22.1] w) ?_ ?_
    · rcases Bool.eq_false_or_eq_true ((rv7.2 == 0) && (rv22.2 == 0)) with h44 | h44
      · have hs := hs.fix 27 (.bool true) rfl (vb h44)
        have hsh := ite_t hc45 h44
        refine st_val hs (y_move rfl) ⟨_, rfl, rfl⟩ rfl rfl fun a hs => ?_
        refine w_litSlice (α := Int) (vs := [.int .i64 5, .int .i64 7]) (cs := [.int .i64 5, .int .i64 7]) (xs := ([5, 7] : List Int)) hs hw El22 rfl rfl rfl rfl rfl rfl ⟨⟨_, rfl, rfl⟩, ⟨⟨_, rfl, rfl⟩, rfl⟩⟩ rfl ⟨_, rfl, rfl⟩ rfl fun b48 a w hs hw => ?_
        obtain ⟨rv50, h49, hsh⟩ := bind_t hsh
        obtain ⟨Sv51, hw⟩ := w_share (α := Int) hw 2 rfl 4 rfl (.inl rfl)
        obtain ⟨Sv52, hw⟩ := w_share (α := Int) hw 0 rfl 1 rfl (.inl rfl)
        refine st_callR hs (ref05_Same_ok h49 hw.dom (hw.envAt 1 rfl) (hw.envAt 0 rfl)) (do_call Try.call23 rfl) ⟨_, rfl, rfl⟩ rfl rfl ?_
        intro v56 Sv53 w a h54 h55 hs
        subst h55
        have hw := hw.call h54
        refine st_val hs (y_pickT rfl rfl) trivial rfl rfl fun a hs => ?_
        refine wpList_nil ?_
        have hsh := Option.some.inj hsh
        subst hsh
        refine then_normal ?_
        exact ⟨Sv53, (hs.wk rfl), (hw.ft [1, 0] [8, 3] (by decide) rfl rfl)⟩
      · have hs := hs.fix 27 (.bool false) rfl (vb h44)
        have hsh := ite_f hc45 h44
        refine st_skip hs rfl rfl rfl rfl rfl fun a hs => ?_
        refine st_skip hs rfl rfl rfl rfl rfl fun a hs => ?_
        refine st_skip hs rfl rfl rfl rfl rfl fun a hs => ?_
        refine st_val hs (y_pickF rfl rfl) trivial rfl rfl fun a hs => ?_
        refine wpList_nil ?_
        have hsh := Option.some.inj hsh
        subst hsh
        refine then_normal ?_
        exact ⟨Sv29, (hs.wk rfl), (hw.ft [2, 0] [5, 0] (by decide) rfl rfl)⟩
    · rintro a w ⟨Sv46, hs, hw⟩
      refine st_val hs (y_move rfl) trivial rfl rfl fun a hs => ?_
      obtain ⟨c68, hc68, hsh⟩ := bind_t hsh
      refine wpl_join 4 (fun a w => ∃ (Sv69 : Nat → Prop), Sl 41 [(1, .pointer (some ⟨b3, 0, none⟩)), (36, .bool c68)] a ∧ Wd ⟨w0, S0, []⟩ Sv69 [.box b3 [.slice (some ⟨b2, 0, none⟩) ([1, 1] : List Int).length ([1, 1] : List Int).length, .int .i64 2, .int .i64 1] 28] [SlA (some ⟨b2, 0, none⟩) ([1, 1] : List Int).length ([1, 1] : List Int).length ([1, 1] : List Int)] w) ?_ ?_
      · rcases Bool.eq_false_or_eq_true c45 with h67 | h67
        · have hs := hs.fix 32 (.bool true) rfl (vb h67)
          have hsh := ite_t hc68 h67
          refine st_val hs (y_move rfl) ⟨_, rfl, rfl⟩ rfl rfl fun a hs => ?_
          refine w_litSlice (α := Int) (vs := [.int .i64 7]) (cs := [.int .i64 7]) (xs := ([7] : List Int)) hs hw El22 rfl rfl rfl rfl rfl rfl ⟨⟨_, rfl, rfl⟩, rfl⟩ rfl ⟨_, rfl, rfl⟩ rfl fun b71 a w hs hw => ?_
          obtain ⟨rv73, h72, hsh⟩ := bind_t hsh
          obtain ⟨Sv74, hw⟩ := w_share (α := Int) hw 2 rfl 2 rfl (.inl rfl)
          obtain ⟨Sv75, hw⟩ := w_share (α := Int) hw 0 rfl 1 rfl (.inl rfl)
          refine st_callR hs (ref05_Same_ok h72 hw.dom (hw.envAt 1 rfl) (hw.envAt 0 rfl)) (do_call Try.call23 rfl) ⟨_, rfl, rfl⟩ rfl rfl ?_
          intro v79 Sv76 w a h77 h78 hs
          subst h78
          have hw := hw.call h77
          refine st_val hs (y_pickT rfl rfl) trivial rfl rfl fun a hs => ?_
          refine wpList_nil ?_
          have hsh := Option.some.inj hsh
          subst hsh
          refine then_normal ?_
          exact ⟨Sv76, (hs.wk rfl), (hw.ft [0] [3] (by decide) rfl rfl)⟩
        · have hs := hs.fix 32 (.bool false) rfl (vb h67)
          have hsh := ite_f hc68 h67
          refine st_skip hs rfl rfl rfl rfl rfl fun a hs => ?_
          refine st_skip hs rfl rfl rfl rfl rfl fun a hs => ?_
          refine st_skip hs rfl rfl rfl rfl rfl fun a hs => ?_
          refine st_val hs (y_pickF rfl rfl) trivial rfl rfl fun a hs => ?_
          refine wpList_nil ?_
          have hsh := Option.some.inj hsh
          subst hsh
          refine then_normal ?_
          exact ⟨Sv46, (hs.wk rfl), (hw.ft [0] [0] (by decide) rfl rfl)⟩
      · rintro a w ⟨Sv69, hs, hw⟩
        refine st_val hs (y_move rfl) trivial rfl rfl fun a hs => ?_
        obtain ⟨c87, hc87, hsh⟩ := bind_t hsh
        refine wpl_join 3 (fun a w => ∃ (Sv88 : Nat → Prop), Sl 41 [(40, .bool c87)] a ∧ Wd ⟨w0, S0, []⟩ Sv88 [] [] w) ?_ ?_
        · rcases Bool.eq_false_or_eq_true c68 with h86 | h86
          · have hs := hs.fix 37 (.bool true) rfl (vb h86)
            have hsh := ite_t hc87 h86
            refine st_val hs (y_loadBA (hw.ownAt 0 rfl) rfl Try.isAgg28 Try.sizeOf28 rfl rfl) ⟨_, rfl, rfl⟩ rfl rfl fun a hs => ?_
            obtain ⟨rv90, h89, hsh⟩ := bind_t hsh
            refine st_callR hs (filter_Valid_ok h89 hw.dom (hw.envAt 0 rfl)) (do_call Try.call32 rfl) ⟨_, rfl, rfl⟩ rfl rfl ?_
            intro v94 Sv91 w a h92 h93 hs
            subst h93
            have hw := hw.call h92
            refine st_val hs (y_pickT rfl rfl) trivial rfl rfl fun a hs => ?_
            refine wpList_nil ?_
            have hsh := Option.some.inj hsh
            subst hsh
            refine then_normal ?_
            exact ⟨Sv91, (hs.wk rfl), (hw.ft [] [] (by decide) rfl rfl)⟩
          · have hs := hs.fix 37 (.bool false) rfl (vb h86)
            have hsh := ite_f hc87 h86
            refine st_skip hs rfl rfl rfl rfl rfl fun a hs => ?_
            refine st_skip hs rfl rfl rfl rfl rfl fun a hs => ?_
            refine st_val hs (y_pickF rfl rfl) trivial rfl rfl fun a hs => ?_
            refine wpList_nil ?_
            have hsh := Option.some.inj hsh
            subst hsh
            refine then_normal ?_
            exact ⟨Sv69, (hs.wk rfl), (hw.ft [] [] (by decide) rfl rfl)⟩
        · rintro a w ⟨Sv88, hs, hw⟩
          refine st_val hs (y_assign rfl) trivial rfl rfl fun a hs => ?_
          refine wpList_nil ?_
          refine then_normal ?_
          have hsh := Option.some.inj hsh
          subst hsh
          refine wp_ret ?_
          exact ret1 hs rfl (rv_tmp rfl) (hw.ret rfl)

abbrev made_Roll_rd (w0 : World) (r : Dice) : (Nat → Prop) → World → Value → Prop := fun S w v => ∃ (b_0 : Nat) (p0_0 : Option Addr) (k0_0 : Nat), v = .pointer (some ⟨b_0, 0, none⟩) ∧ Fresh w0 S w (.box b_0 [.slice p0_0 r.L.length k0_0, .int .i64 r.At] 75) ∧ (SlA p0_0 r.L.length k0_0 r.L).p S w
set_option maxHeartbeats 4000000 in
set_option maxRecDepth 100000 in
theorem made_Roll_ok {w0 : World} {S0 : Nat → Prop} {p2 : Option Addr} {k3 : Nat} {l1 : (List Int)} {r : Dice} (hsh : made_Roll l1 = some r) (hS : ∀ b, S0 b → b < w0.heap.size) (h4 : (SlA p2 l1.length k3 l1).p S0 w0) : Calls Try.prog 12 #[.slice p2 l1.length k3] w0 (Ret [] w0 S0 (made_Roll_rd w0 r)) := by
  refine calls_of_wp Try.func12 rfl ?_
  have hs := Sl.enter #[.slice p2 l1.length k3] 6 [(0, .slice p2 l1.length k3)] rfl ⟨rfl, trivial⟩
  have hw := Wd.enter (E := []) hS (fun _ h => (by cases h))
  have hw := hw.addE h4
  delta made_Roll at hsh
  refine wp_seq ?_
  refine wp_region_lit ?_
  refine st_val hs (y_assign rfl) trivial rfl rfl fun a hs => ?_
  refine wpList_nil ?_
  refine then_normal ?_
  refine wp_seq ?_
  refine wp_region_lit ?_
  refine st_val hs (y_move rfl) trivial rfl rfl fun a hs => ?_
  refine st_val hs (y_build (vs := [(0, .slice p2 l1.length k3)]) Bld75 rfl rfl) trivial rfl rfl fun a hs => ?_
  refine w_box (cs := [.slice p2 l1.length k3, .int .i64 0]) hs hw rfl rfl rfl trivial ?_
  intro b5 a w hs hw
  refine st_val hs (y_assign rfl) trivial rfl rfl fun a hs => ?_
  refine wpList_nil ?_
  refine then_normal ?_
  have hsh := Option.some.inj hsh
  subst hsh
  refine wp_ret ?_
  exact ret1 hs rfl (rv_tmp rfl) (hw.ret ⟨b5, p2, k3, rfl, (hw.freshOf 0 rfl (.inl rfl)), (hw.envAt 0 rfl)⟩)

abbrev made_Dice_Next_rd (w0 : World) (bd : Nat) (r : (Int × Dice)) : (Nat → Prop) → World → Value → Prop := fun S w v => ∃ (q0_0 : Option Addr) (m0_0 : Nat), v = .int .i64 r.1 ∧ w.heap[bd]? = some (.cells #[.slice q0_0 r.2.L.length m0_0, .int .i64 r.2.At] 75 (0, 0)) ∧ (SlA q0_0 r.2.L.length m0_0 r.2.L).p S w
set_option maxHeartbeats 4000000 in
set_option maxRecDepth 100000 in
theorem made_Dice_Next_ok {w0 : World} {S0 : Nat → Prop} {b2 : Nat} {p3 : Option Addr} {k4 : Nat} {d1 : Dice} {n8 : Int} {r : (Int × Dice)} (hsh : made_Dice_Next d1 n8 = some r) (hS : ∀ b, S0 b → b < w0.heap.size) (h5 : w0.heap[b2]? = some (.cells #[.slice p3 d1.L.length k4, .int .i64 d1.At] 75 (0, 0))) (h6 : ¬ S0 b2) (h7 : (SlA p3 d1.L.length k4 d1.L).p S0 w0) : Calls Try.prog 15 #[.pointer (some ⟨b2, 0, none⟩), .int .i64 n8] w0 (Ret [b2] w0 S0 (made_Dice_Next_rd w0 b2 r)) := by
  refine calls_of_wp Try.func15 rfl ?_
  have hs := Sl.enter #[.pointer (some ⟨b2, 0, none⟩), .int .i64 n8] 45 [(0, .pointer (some ⟨b2, 0, none⟩)), (1, .int .i64 n8)] rfl ⟨rfl, rfl, trivial⟩
  have hw := Wd.enter1 (E := []) hS h5 h6 (fun _ h => (by cases h))
  have hw := hw.addE h7
  delta made_Dice_Next at hsh
  refine wp_seq ?_
  refine wp_region_lit ?_
  refine st_val hs (y_assign rfl) trivial rfl rfl fun a hs => ?_
  refine wpList_nil ?_
  refine then_normal ?_
  refine wp_seq ?_
  refine wp_seq ?_
  refine wp_only (fun a w => ∃ (Sv9 : Nat → Prop), Sl 45 [(0, .pointer (some ⟨b2, 0, none⟩)), (1, .int .i64 n8), (19, .bool ((decide ((d1.L.length : Int) ≤ d1.At)) || (decide (n8 < 1))))] a ∧ Wd ⟨w0, S0, [b2]⟩ Sv9 [.box b2 [.slice p3 d1.L.length k4, .int .i64 d1.At] 75] [SlA p3 d1.L.length k4 d1.L] w) ?_ ?_
  · rcases Bool.eq_false_or_eq_true (decide ((d1.L.length : Int) ≤ d1.At)) with h10 | h10
    · refine h_begin (C := Cls [.box b2 [.slice p3 d1.L.length k4, .int .i64 d1.At] 75] []) (by kernel_rfl) rfl ?_
      have hw := hw.drew
      have hC : Cls [.box b2 [.slice p3 d1.L.length k4, .int .i64 d1.At] 75] [] _ := hw.cs [0] [] rfl rfl
      refine h_get hs (i := 0) rfl (by kernel_rfl) rfl rfl hC rfl (fun w hC => y_move rfl) fun a hs => ?_
      refine h_get hs (i := 1) rfl (by kernel_rfl) rfl rfl hC rfl (fun w hC => y_nilCheck rfl) fun a hs => ?_
      refine h_get hs (i := 2) rfl (by kernel_rfl) rfl rfl hC rfl (fun w hC => y_fieldAddr (o' := 1) Try.runUnderlying75 rfl Try.sizeOf3 rfl rfl rfl) fun a hs => ?_
      refine h_get hs (i := 3) rfl (by kernel_rfl) rfl rfl hC rfl (fun w hC => y_loadB1 (hC.ownAt 0 rfl) rfl Try.isAgg3 rfl) fun a hs => ?_
      refine h_get hs (i := 4) rfl (by kernel_rfl) rfl rfl hC rfl (fun w hC => y_move rfl) fun a hs => ?_
      refine h_get hs (i := 5) rfl (by kernel_rfl) rfl rfl hC rfl (fun w hC => y_nilCheck rfl) fun a hs => ?_
      refine h_get hs (i := 6) rfl (by kernel_rfl) rfl rfl hC rfl (fun w hC => y_fieldAddr (o' := 0) Try.runUnderlying75 rfl Try.sizeOf22 rfl rfl rfl) fun a hs => ?_
      refine h_get hs (i := 7) rfl (by kernel_rfl) rfl rfl hC rfl (fun w hC => y_loadB1 (hC.ownAt 0 rfl) rfl Try.isAgg22 rfl) fun a hs => ?_
      refine h_get hs (i := 8) rfl (by kernel_rfl) rfl rfl hC rfl (fun w hC => y_len Try.runUnderlying22 rfl) fun a hs => ?_
      refine h_get hs (i := 9) rfl (by kernel_rfl) rfl rfl hC rfl (fun w hC => y_geq rfl rfl) fun a hs => ?_
      refine h_get hs (i := 10) rfl (by kernel_rfl) rfl rfl hC rfl (fun w hC => y_move rfl) fun a hs => ?_
      have hs := hs.fix 16 (.bool true) rfl (vb h10)
      refine h_skip hs (i := 11) rfl (by kernel_rfl) (by kernel_rfl) (by kernel_rfl) rfl rfl rfl (by first | exact .inl rfl | exact .inr rfl) rfl rfl hC fun a hs => ?_
      refine h_skip hs (i := 12) rfl (by kernel_rfl) (by kernel_rfl) (by kernel_rfl) rfl rfl rfl (by first | exact .inl rfl | exact .inr rfl) rfl rfl hC fun a hs => ?_
      refine h_get hs (i := 13) rfl (by kernel_rfl) rfl rfl hC rfl (fun w hC => y_pickTE (v := .bool ((decide ((d1.L.length : Int) ≤ d1.At)) || (decide (n8 < 1)))) rfl rfl (or_t h10)) fun a hs => ?_
      refine h_done (by kernel_rfl) ?_
      exact ⟨S0, (hs.wk rfl), (hw.ft [0] [0] (by decide) rfl rfl)⟩
    · refine h_begin (C := Cls [.box b2 [.slice p3 d1.L.length k4, .int .i64 d1.At] 75] []) (by kernel_rfl) rfl ?_
      have hw := hw.drew
      have hC : Cls [.box b2 [.slice p3 d1.L.length k4, .int .i64 d1.At] 75] [] _ := hw.cs [0] [] rfl rfl
      refine h_get hs (i := 0) rfl (by kernel_rfl) rfl rfl hC rfl (fun w hC => y_move rfl) fun a hs => ?_
      refine h_get hs (i := 1) rfl (by kernel_rfl) rfl rfl hC rfl (fun w hC => y_nilCheck rfl) fun a hs => ?_
      refine h_get hs (i := 2) rfl (by kernel_rfl) rfl rfl hC rfl (fun w hC => y_fieldAddr (o' := 1) Try.runUnderlying75 rfl Try.sizeOf3 rfl rfl rfl) fun a hs => ?_
      refine h_get hs (i := 3) rfl (by kernel_rfl) rfl rfl hC rfl (fun w hC => y_loadB1 (hC.ownAt 0 rfl) rfl Try.isAgg3 rfl) fun a hs => ?_
      refine h_get hs (i := 4) rfl (by kernel_rfl) rfl rfl hC rfl (fun w hC => y_move rfl) fun a hs => ?_
      refine h_get hs (i := 5) rfl (by kernel_rfl) rfl rfl hC rfl (fun w hC => y_nilCheck rfl) fun a hs => ?_
      refine h_get hs (i := 6) rfl (by kernel_rfl) rfl rfl hC rfl (fun w hC => y_fieldAddr (o' := 0) Try.runUnderlying75 rfl Try.sizeOf22 rfl rfl rfl) fun a hs => ?_
      refine h_get hs (i := 7) rfl (by kernel_rfl) rfl rfl hC rfl (fun w hC => y_loadB1 (hC.ownAt 0 rfl) rfl Try.isAgg22 rfl) fun a hs => ?_
      refine h_get hs (i := 8) rfl (by kernel_rfl) rfl rfl hC rfl (fun w hC => y_len Try.runUnderlying22 rfl) fun a hs => ?_
      refine h_get hs (i := 9) rfl (by kernel_rfl) rfl rfl hC rfl (fun w hC => y_geq rfl rfl) fun a hs => ?_
      refine h_get hs (i := 10) rfl (by kernel_rfl) rfl rfl hC rfl (fun w hC => y_move rfl) fun a hs => ?_
      have hs := hs.fix 16 (.bool false) rfl (vb h10)
      refine h_take hs (i := 11) rfl (by kernel_rfl) (by kernel_rfl) (by kernel_rfl) ⟨_, rfl, rfl⟩ rfl rfl hC (fun w hC => y_move rfl) fun a hs => ?_
      refine h_take hs (i := 12) rfl (by kernel_rfl) (by kernel_rfl) (by kernel_rfl) ⟨_, rfl, rfl⟩ rfl rfl hC (fun w hC => y_lss rfl rfl) fun a hs => ?_
      refine h_get hs (i := 13) rfl (by kernel_rfl) rfl rfl hC rfl (fun w hC => y_pickFE (v := .bool ((decide ((d1.L.length : Int) ≤ d1.At)) || (decide (n8 < 1)))) rfl rfl (or_f h10)) fun a hs => ?_
      refine h_done (by kernel_rfl) ?_
      exact ⟨S0, (hs.wk rfl), (hw.ft [0] [0] (by decide) rfl rfl)⟩
  · rintro a w ⟨Sv9, hs, hw⟩
    refine then_normal ?_
    refine wp_cond_split (hs.ev rfl) (fun h14 => ?_) (fun h14 => ?_)
    · have hsh := ite_t hsh h14
      refine wp_seq ?_
      refine wp_region_lit ?_
      refine st_val hs (y_assign rfl) trivial rfl rfl fun a hs => ?_
      refine wpList_nil ?_
      refine then_normal ?_
      have hsh := Option.some.inj hsh
      subst hsh
      refine wp_ret ?_
      refine then_ret ?_
      exact ret1 hs rfl (rv_tmp rfl) (hw.ret ⟨p3, k4, rfl, (hw.ownAt 0 rfl), (hw.envAt 0 rfl)⟩)
    · have hsh := ite_f hsh h14
      refine wp_skip ?_
      refine then_normal ?_
      refine wp_seq ?_
      obtain ⟨x17, h15, hsh⟩ := bind_t hsh
      obtain ⟨b23, o24, q21, c22, h25, h18, h19, h20, h16⟩ := hw.elemV 0 rfl h15
      subst h25
      obtain ⟨_, rfl, rfl⟩ := h16
      have hw := hw.addE h20
      obtain ⟨rem27, h26, hsh⟩ := bind_t hsh
      refine wp_only (fun a w => ∃ (Sv28 : Nat → Prop), Sl 45 [(0, .pointer (some ⟨b2, 0, none⟩)), (1, .int .i64 n8), (5, .int .i64 rem27)] a ∧ Wd ⟨w0, S0, [b2]⟩ Sv28 [.box b2 [.slice (some ⟨b23, o24, none⟩) d1.L.length k4, .int .i64 d1.At] 75] [SlA (some ⟨b23, o24, none⟩) d1.L.length k4 d1.L] w) ?_ ?_
      · refine h_begin (C := Cls [.box b2 [.slice (some ⟨b23, o24, none⟩) d1.L.length k4, .int .i64 d1.At] 75] [CeA b23 q21 [.int .i64 x17]]) (by kernel_rfl) rfl ?_
        have hw := hw.drew
        have hC : Cls [.box b2 [.slice (some ⟨b23, o24, none⟩) d1.L.length k4, .int .i64 d1.At] 75] [CeA b23 q21 [.int .i64 x17]] _ := hw.cs [0] [0] rfl rfl
        refine h_get hs (i := 0) rfl (by kernel_rfl) rfl rfl hC rfl (fun w hC => y_move rfl) fun a hs => ?_
        refine h_get hs (i := 1) rfl (by kernel_rfl) rfl rfl hC rfl (fun w hC => y_nilCheck rfl) fun a hs => ?_
        refine h_get hs (i := 2) rfl (by kernel_rfl) rfl rfl hC rfl (fun w hC => y_fieldAddr (o' := 0) Try.runUnderlying75 rfl Try.sizeOf22 rfl rfl rfl) fun a hs => ?_
        refine h_get hs (i := 3) rfl (by kernel_rfl) rfl rfl hC rfl (fun w hC => y_loadB1 (hC.ownAt 0 rfl) rfl Try.isAgg22 rfl) fun a hs => ?_
        refine h_get hs (i := 4) rfl (by kernel_rfl) rfl rfl hC rfl (fun w hC => y_move rfl) fun a hs => ?_
        refine h_get hs (i := 5) rfl (by kernel_rfl) rfl rfl hC rfl (fun w hC => y_nilCheck rfl) fun a hs => ?_
        refine h_get hs (i := 6) rfl (by kernel_rfl) rfl rfl hC rfl (fun w hC => y_fieldAddr (o' := 1) Try.runUnderlying75 rfl Try.sizeOf3 rfl rfl rfl) fun a hs => ?_
        refine h_get hs (i := 7) rfl (by kernel_rfl) rfl rfl hC rfl (fun w hC => y_loadB1 (hC.ownAt 0 rfl) rfl Try.isAgg3 rfl) fun a hs => ?_
        refine h_get hs (i := 8) rfl (by kernel_rfl) rfl rfl hC rfl (fun w hC => y_indexAt Try.runUnderlying22 Try.sizeOf3 rfl rfl h18.1 h18.2 h19) fun a hs => ?_
        refine h_get hs (i := 9) rfl (by kernel_rfl) rfl rfl hC rfl (fun w hC => y_loadE1 (j := 0) (hC.ceAt 0 rfl) rfl Try.isAgg3 rfl) fun a hs => ?_
        refine h_get hs (i := 10) rfl (by kernel_rfl) rfl rfl hC rfl (fun w hC => y_move rfl) fun a hs => ?_
        refine h_get hs (i := 11) rfl (by kernel_rfl) rfl rfl hC rfl (fun w hC => y_remM rfl rfl h26) fun a hs => ?_
        refine h_get hs (i := 12) rfl (by kernel_rfl) rfl rfl hC rfl (fun w hC => y_assign rfl) fun a hs => ?_
        refine h_done (by kernel_rfl) ?_
        exact ⟨Sv9, (hs.wk rfl), (hw.ft [0] [1] (by decide) rfl rfl)⟩
      · rintro a w ⟨Sv28, hs, hw⟩
        refine then_normal ?_
        refine wp_seq ?_
        refine wp_region_lit ?_
        refine st_val hs (y_move rfl) trivial rfl rfl fun a hs => ?_
        refine st_val hs (y_nilCheck rfl) trivial rfl rfl fun a hs => ?_
        refine st_val hs (y_fieldAddr (o' := 1) Try.runUnderlying75 rfl Try.sizeOf3 rfl rfl rfl) trivial rfl rfl fun a hs => ?_
        refine st_val hs (y_loadB1 (hw.ownAt 0 rfl) rfl Try.isAgg3 rfl) trivial rfl rfl fun a hs => ?_
        refine st_val hs (y_add rfl rfl) trivial rfl rfl fun a hs => ?_
        refine st_val hs (y_nilCheck rfl) trivial rfl rfl fun a hs => ?_
        refine st_val hs (y_fieldAddr (o' := 1) Try.runUnderlying75 rfl Try.sizeOf3 rfl rfl rfl) trivial rfl rfl fun a hs => ?_
        refine w_store (m := 1) (cs' := [.slice (some ⟨b23, o24, none⟩) d1.L.length k4, .int .i64 (w64 (d1.At + 1))]) hs hw 0 rfl rfl rfl Try.sizeOf3 rfl rfl rfl rfl trivial ?_
        intro a w hs hw
        refine wpList_nil ?_
        refine then_normal ?_
        refine wp_seq ?_
        refine wp_seq ?_
        refine wp_region_lit ?_
        refine st_val hs (y_move rfl) trivial rfl rfl fun a hs => ?_
        refine st_val hs (y_lss rfl rfl) trivial rfl rfl fun a hs => ?_
        refine wpList_nil ?_
        refine then_normal ?_
        refine wp_join (fun a w => ∃ (x33 : Int) (Sv32 : Nat → Prop), made_Dice_Next_j1 d1 x33 = some r ∧ Sl 45 [(5, .int .i64 x33)] a ∧ Wd ⟨w0, S0, [b2]⟩ Sv32 [.box b2 [.slice (some ⟨b23, o24, none⟩) d1.L.length k4, .int .i64 (w64 (d1.At + 1))] 75] [SlA (some ⟨b23, o24, none⟩) d1.L.length k4 d1.L] w) ?_ ?_
        · refine wp_cond_split (hs.ev rfl) (fun h34 => ?_) (fun h34 => ?_)
          · have hsh := ite_t hsh h34
            refine wp_region_lit ?_
            refine st_val hs (y_move rfl) trivial rfl rfl fun a hs => ?_
            refine st_val hs (y_move rfl) trivial rfl rfl fun a hs => ?_
            refine st_val hs (y_add rfl rfl) trivial rfl rfl fun a hs => ?_
            obtain ⟨x36, h35, hsh⟩ := bind_t hsh
            refine st_val hs (y_assignI rfl h35) trivial rfl rfl fun a hs => ?_
            refine wpList_nil ?_
            refine then_normal ?_
            exact ⟨x36, Sv28, hsh, (hs.wk rfl), (hw.ft [0] [0] (by decide) rfl rfl)⟩
          · have hsh := ite_f hsh h34
            refine wp_skip ?_
            refine then_normal ?_
            exact ⟨rem27, Sv28, hsh, (hs.wk rfl), (hw.ft [0] [0] (by decide) rfl rfl)⟩
        · rintro a w ⟨x33, Sv32, hsh, hs, hw⟩
          delta made_Dice_Next_j1 at hsh
          refine then_normal ?_
          refine wp_seq ?_
          refine wp_region_lit ?_
          refine st_val hs (y_move rfl) trivial rfl rfl fun a hs => ?_
          refine st_val hs (y_assign rfl) trivial rfl rfl fun a hs => ?_
          refine wpList_nil ?_
          refine then_normal ?_
          have hsh := Option.some.inj hsh
          subst hsh
          refine wp_ret ?_
          exact ret1 hs rfl (rv_tmp rfl) (hw.ret ⟨(some ⟨b23, o24, none⟩), k4, rfl, (hw.ownAt 0 rfl), (hw.envAt 0 rfl)⟩)

abbrev made_Dice_Pick_rd (w0 : World) (bd : Nat) (r : (Int × Dice)) : (Nat → Prop) → World → Value → Prop := fun S w v => ∃ (q0_0 : Option Addr) (m0_0 : Nat), v = .int .i64 r.1 ∧ w.heap[bd]? = some (.cells #[.slice q0_0 r.2.L.length m0_0, .int .i64 r.2.At] 75 (0, 0)) ∧ (SlA q0_0 r.2.L.length m0_0 r.2.L).p S w
set_option maxHeartbeats 4000000 in
set_option maxRecDepth 100000 in
theorem made_Dice_Pick_ok {w0 : World} {S0 : Nat → Prop} {b2 : Nat} {p3 : Option Addr} {k4 : Nat} {p9 : Option Addr} {k10 : Nat} {d1 : Dice} {l8 : (List Int)} {r : (Int × Dice)} (hsh : made_Dice_Pick d1 l8 = some r) (hS : ∀ b, S0 b → b < w0.heap.size) (h5 : w0.heap[b2]? = some (.cells #[.slice p3 d1.L.length k4, .int .i64 d1.At] 75 (0, 0))) (h6 : ¬ S0 b2) (h7 : (SlA p3 d1.L.length k4 d1.L).p S0 w0) (h11 : (SlA p9 l8.length k10 l8).p S0 w0) : Calls Try.prog 27 #[.pointer (some ⟨b2, 0, none⟩), .slice p9 l8.length k10] w0 (Ret [b2] w0 S0 (made_Dice_Pick_rd w0 b2 r)) := by
  refine calls_of_wp Try.func27 rfl ?_
  have hs := Sl.enter #[.pointer (some ⟨b2, 0, none⟩), .slice p9 l8.length k10] 12 [(0, .pointer (some ⟨b2, 0, none⟩)), (1, .slice p9 l8.length k10)] rfl ⟨rfl, rfl, trivial⟩
  have hw := Wd.enter1 (E := []) hS h5 h6 (fun _ h => (by cases h))
  have hw := hw.addE h7
  have hw := hw.addE h11
  delta made_Dice_Pick at hsh
  refine wp_seq ?_
  refine wp_region_lit ?_
  refine st_val hs (y_assign rfl) trivial rfl rfl fun a hs => ?_
  refine wpList_nil ?_
  refine then_normal ?_
  refine wp_seq ?_
  refine wp_region_lit ?_
  refine st_val hs (y_move rfl) trivial rfl rfl fun a hs => ?_
  refine st_val hs (y_move rfl) trivial rfl rfl fun a hs => ?_
  refine st_val hs (y_move rfl) trivial rfl rfl fun a hs => ?_
  refine st_val hs (y_len Try.runUnderlying22 rfl) trivial rfl rfl fun a hs => ?_
  obtain ⟨rv13, h12, hsh⟩ := bind_t hsh
  refine st_callR hs (made_Dice_Next_ok h12 hw.dom (hw.ownAt 0 rfl) (hw.boxS 0 rfl) (hw.envAt 1 rfl)) (do_call Try.call15 rfl) trivial rfl rfl ?_
  intro v21 Sv18 w a h19 h20 hs
  obtain ⟨p15, k16, rfl, h14, h17⟩ := h20
  have hw := hw.call1 0 rfl h19 h14
  have hw := hw.addE (e := SlA p15 rv13.2.L.length k16 rv13.2.L) h17
  obtain ⟨x24, h22, hsh⟩ := bind_t hsh
  obtain ⟨b30, o31, q28, c29, h32, h25, h26, h27, h23⟩ := hw.elemV 1 rfl h22
  subst h32
  obtain ⟨_, rfl, rfl⟩ := h23
  have hw := hw.addE h27
  refine st_val hs (y_indexAt Try.runUnderlying22 Try.sizeOf3 rfl rfl h25.1 h25.2 h26) trivial rfl rfl fun a hs => ?_
  refine st_val hs (y_loadE1 (j := 0) (hw.ceAt 0 rfl) rfl Try.isAgg3 rfl) trivial rfl rfl fun a hs => ?_
  refine st_val hs (y_assign rfl) trivial rfl rfl fun a hs => ?_
  refine wpList_nil ?_
  refine then_normal ?_
  have hsh := Option.some.inj hsh
  subst hsh
  refine wp_ret ?_
  exact ret1 hs rfl (rv_tmp rfl) (hw.ret ⟨p15, k16, rfl, (hw.ownAt 0 rfl), (hw.envAt 1 rfl)⟩)

abbrev made_Dice_Filter_rd (w0 : World) (bd : Nat) (r : (Filter × Dice)) : (Nat → Prop) → World → Value → Prop := fun S w v => ∃ (p0_0 : Option Addr) (k0_0 : Nat) (c0_0 : List Value) (q0_0 : Option Addr) (m0_0 : Nat), v = .agg #[.slice p0_0 r.1.Taps.length k0_0, .int .i64 r.1.Factor, .int .i64 r.1.Shift] ∧ Fresh w0 S w (.row p0_0 r.1.Taps.length k0_0 c0_0 3 1) ∧ (RowA c0_0 r.1.Taps).p S w ∧ w.heap[bd]? = some (.cells #[.slice q0_0 r.2.L.length m0_0, .int .i64 r.2.At] 75 (0, 0)) ∧ (SlA q0_0 r.2.L.length m0_0 r.2.L).p S w
set_option maxHeartbeats 4000000 in
set_option maxRecDepth 100000 in
theorem made_Dice_Filter_ok {w0 : World} {S0 : Nat → Prop} {b2 : Nat} {p3 : Option Addr} {k4 : Nat} {d1 : Dice} {r : (Filter × Dice)} (hsh : made_Dice_Filter d1 = some r) (hS : ∀ b, S0 b → b < w0.heap.size) (h5 : w0.heap[b2]? = some (.cells #[.slice p3 d1.L.length k4, .int .i64 d1.At] 75 (0, 0))) (h6 : ¬ S0 b2) (h7 : (SlA p3 d1.L.length k4 d1.L).p S0 w0) : Calls Try.prog 13 #[.pointer (some ⟨b2, 0, none⟩)] w0 (Ret [b2] w0 S0 (made_Dice_Filter_rd w0 b2 r)) := by
  refine calls_of_wp Try.func13 rfl ?_
  have hs := Sl.enter #[.pointer (some ⟨b2, 0, none⟩)] 45 [(0, .pointer (some ⟨b2, 0, none⟩))] rfl ⟨rfl, trivial⟩
  have hw := Wd.enter1 (E := []) hS h5 h6 (fun _ h => (by cases h))
  have hw := hw.addE h7
  delta made_Dice_Filter at hsh
  refine wp_seq ?_
  refine wp_region_lit ?_
  refine w_alloc (cs := [.slice none ([] : List Int).length 0, .int .i64 0, .int .i64 0]) hs hw Try.zeroValue28 rfl rfl trivial ?_
  intro b8 a w hs hw
  refine wpList_nil ?_
  refine then_normal ?_
  refine wp_seq ?_
  refine wp_region_lit ?_
  refine st_val hs (y_move rfl) trivial rfl rfl fun a hs => ?_
  refine w_litSlice (α := Int) (vs := [.int .i64 1, .int .i64 1, .int .i64 2, .int .i64 3]) (cs := [.int .i64 1, .int .i64 1, .int .i64 2, .int .i64 3]) (xs := ([1, 1, 2, 3] : List Int)) hs hw El22 rfl rfl rfl rfl rfl rfl ⟨⟨_, rfl, rfl⟩, ⟨⟨_, rfl, rfl⟩, ⟨⟨_, rfl, rfl⟩, ⟨⟨_, rfl, rfl⟩, rfl⟩⟩⟩⟩ rfl trivial rfl fun b10 a w hs hw => ?_
  obtain ⟨rv12, h11, hsh⟩ := bind_t hsh
  obtain ⟨Sv17, hw⟩ := w_share (α := Int) hw 0 rfl 0 rfl (.inr ⟨2, _, _, _, rfl, rfl, rfl⟩)
  refine st_callR hs (made_Dice_Pick_ok h11 hw.dom (hw.ownAt 1 rfl) (hw.boxS 1 rfl) (hw.envAt 2 rfl) (hw.envAt 0 rfl)) (do_call Try.call27 rfl) trivial rfl rfl ?_
  intro v21 Sv18 w a h19 h20 hs
  obtain ⟨p14, k15, rfl, h13, h16⟩ := h20
  have hw := hw.call1 1 rfl h19 h13
  have hw := hw.addE (e := SlA p14 rv12.2.L.length k15 rv12.2.L) h16
  refine st_val hs (y_move rfl) trivial rfl rfl fun a hs => ?_
  refine w_litSlice (α := Int) (vs := [.int .i64 0, .int .i64 2, .int .i64 4, .int .i64 6]) (cs := [.int .i64 0, .int .i64 2, .int .i64 4, .int .i64 6]) (xs := ([0, 2, 4, 6] : List Int)) hs hw El22 rfl rfl rfl rfl rfl rfl ⟨⟨_, rfl, rfl⟩, ⟨⟨_, rfl, rfl⟩, ⟨⟨_, rfl, rfl⟩, ⟨⟨_, rfl, rfl⟩, rfl⟩⟩⟩⟩ rfl trivial rfl fun b23 a w hs hw => ?_
  obtain ⟨rv25, h24, hsh⟩ := bind_t hsh
  obtain ⟨Sv30, hw⟩ := w_share (α := Int) hw 0 rfl 0 rfl (.inr ⟨2, _, _, _, rfl, rfl, rfl⟩)
  refine st_callR hs (made_Dice_Pick_ok h24 hw.dom (hw.ownAt 1 rfl) (hw.boxS 1 rfl) (hw.envAt 2 rfl) (hw.envAt 0 rfl)) (do_call Try.call27 rfl) trivial rfl rfl ?_
  intro v34 Sv31 w a h32 h33 hs
  obtain ⟨p27, k28, rfl, h26, h29⟩ := h33
  have hw := hw.call1 1 rfl h32 h26
  have hw := hw.addE (e := SlA p27 rv25.2.L.length k28 rv25.2.L) h29
  refine st_val hs (y_build (vs := [(1, .int .i64 rv12.1), (2, .int .i64 rv25.1)]) Bld28 rfl rfl) trivial rfl rfl fun a hs => ?_
  refine w_alloc (cs := [.slice none ([] : List Int).length 0, .int .i64 0, .int .i64 0]) hs hw Try.zeroValue28 rfl rfl trivial ?_
  intro b35 a w hs hw
  refine w_store (m := 3) (cs' := [.slice none ([] : List Int).length 0, .int .i64 rv12.1, .int .i64 rv25.1]) hs hw 0 rfl rfl rfl Try.sizeOf28 rfl rfl rfl rfl trivial ?_
  intro a w hs hw
  refine wpList_nil ?_
  refine then_normal ?_
  refine wp_seq ?_
  refine wp_region_lit ?_
  refine st_val hs (y_fieldAddr (o' := 2) Try.runUnderlying28 rfl Try.sizeOf3 rfl rfl rfl) trivial rfl rfl fun a hs => ?_
  refine st_val hs (y_loadB1 (hw.ownAt 0 rfl) rfl Try.isAgg3 rfl) trivial rfl rfl fun a hs => ?_
  refine st_val hs (y_convert Try.runUnderlying3 Try.runUnderlying30 rfl) trivial rfl rfl fun a hs => ?_
  obtain ⟨shl37, h36, hsh⟩ := bind_t hsh
  refine st_val hs (y_shlM rfl rfl h36) trivial rfl rfl fun a hs => ?_
  refine st_val hs (y_assign rfl) trivial rfl rfl fun a hs => ?_
  refine wpList_nil ?_
  refine then_normal ?_
  refine wp_seq ?_
  refine wp_seq ?_
  refine wp_region_lit ?_
  refine st_val hs (y_move rfl) trivial rfl rfl fun a hs => ?_
  obtain ⟨rv39, h38, hsh⟩ := bind_t hsh
  refine st_callR hs (made_Dice_Next_ok h38 hw.dom (hw.ownAt 2 rfl) (hw.boxS 2 rfl) (hw.envAt 0 rfl)) (do_call Try.call15 rfl) trivial rfl rfl ?_
  intro v47 Sv44 w a h45 h46 hs
  obtain ⟨p41, k42, rfl, h40, h43⟩ := h46
  have hw := hw.call1 2 rfl h45 h40
  have hw := hw.addE (e := SlA p41 rv39.2.L.length k42 rv39.2.L) h43
  refine st_val hs (y_add rfl rfl) trivial rfl rfl fun a hs => ?_
  obtain ⟨i49, h48, hsh⟩ := bind_t hsh
  refine st_val hs (y_assignI rfl h48) trivial rfl rfl fun a hs => ?_
  refine wpList_nil ?_
  refine then_normal ?_
  obtain ⟨e204, h258, hsh⟩ := bind_t hsh
  refine wp_join (fun a w => ∃ (p205 : Option Addr) (k206 : Nat) (p207 : Option Addr) (k208 : Nat) (c209 : List Value) (Sv210 : Nat → Prop), Sl 45 [(2, .pointer (some ⟨b8, 0, none⟩)), (3, .pointer (some ⟨b35, 0, none⟩))] a ∧ Wd ⟨w0, S0, [b2]⟩ Sv210 [.box b2 [.slice p205 e204.1.length k206, .int .i64 e204.2.1] 75, .box b8 [.slice none ([] : List Int).length 0, .int .i64 0, .int .i64 0] 28, .box b35 [.slice p207 e204.2.2.length k208, .int .i64 rv12.1, .int .i64 rv25.1] 28, .row p207 e204.2.2.length k208 c209 3 1] [SlA p205 e204.1.length k206 e204.1, SlA none ([] : List Int).length 0 ([] : List Int), RowA c209 e204.2.2] w) ?_ ?_
  · refine wp_block ?_
    have hw := hw.nilRow Int 3
    have hw := hw.addE (e := SlA (α := Int) none 0 0 []) nil_sl
    refine wp_while (fun sv50 a w => ∃ (p149 : Option Addr) (k150 : Nat) (p151 : Option Addr) (k152 : Nat) (c153 : List Value) (Sv154 : Nat → Prop), Sl 45 [(0, .pointer (some ⟨b2, 0, none⟩)), (2, .pointer (some ⟨b8, 0, none⟩)), (3, .pointer (some ⟨b35, 0, none⟩)), (4, .int .i64 sv50.2.2.2.1), (5, .int .i64 sv50.2.2.2.2)] a ∧ Wd ⟨w0, S0, [b2]⟩ Sv154 [.box b2 [.slice p149 sv50.1.length k150, .int .i64 sv50.2.1] 75, .box b8 [.slice none ([] : List Int).length 0, .int .i64 0, .int .i64 0] 28, .box b35 [.slice p151 sv50.2.2.1.length k152, .int .i64 rv12.1, .int .i64 rv25.1] 28, .row p151 sv50.2.2.1.length k152 c153 3 1] [SlA p149 sv50.1.length k150 sv50.1, SlA none ([] : List Int).length 0 ([] : List Int), RowA c153 sv50.2.2.1] w) (rv39.2.L, rv39.2.At, ([] : List Int), shl37, i49) h258 ⟨p41, k42, none, 0, [], Sv44, (hs.wk rfl), (hw.ft [3, 2, 1, 0] [2, 0, 1] (by decide) rfl rfl)⟩ ?_
    clear h258
    repeat clear hsh
    rintro sv50 a w tv202 ⟨p149, k150, p151, k152, c153, Sv154, hs, hw⟩ hsh hd201
    delta made_Dice_Filter_l1 at hsh
    refine wp_seq ?_
    refine wp_seq ?_
    refine wp_region_lit ?_
    refine st_val hs (y_move rfl) trivial rfl rfl fun a hs => ?_
    refine st_val hs (y_gtr rfl rfl) trivial rfl rfl fun a hs => ?_
    refine wpList_nil ?_
    refine then_normal ?_
    refine wp_cond_split (hs.ev rfl) (fun h212 => ?_) (fun h212 => ?_)
    · have hsh := ite_t hsh h212
      refine wp_skip ?_
      refine then_normal ?_
      refine wp_seq ?_
      refine wp_block ?_
      refine wp_seq ?_
      refine wp_region_lit ?_
      refine st_val hs (y_move rfl) trivial rfl rfl fun a hs => ?_
      refine st_val hs (y_move rfl) trivial rfl rfl fun a hs => ?_
      refine st_val hs (y_mul rfl rfl) trivial rfl rfl fun a hs => ?_
      refine st_val hs (y_add rfl rfl) trivial rfl rfl fun a hs => ?_
      obtain ⟨rv235, h234, hsh⟩ := bind_t hsh
      refine st_callR hs (made_Dice_Next_ok h234 hw.dom (hw.ownAt 0 rfl) (hw.boxS 0 rfl) (hw.envAt 0 rfl)) (do_call Try.call15 rfl) trivial rfl rfl ?_
      intro v243 Sv240 w a h241 h242 hs
      obtain ⟨p237, k238, rfl, h236, h239⟩ := h242
      have hw := hw.call1 0 rfl h241 h236
      have hw := hw.addE (e := SlA p237 rv235.2.L.length k238 rv235.2.L) h239
      refine st_val hs (y_move rfl) trivial rfl rfl fun a hs => ?_
      refine st_val hs (y_sub rfl rfl) trivial rfl rfl fun a hs => ?_
      obtain ⟨x245, h244, hsh⟩ := bind_t hsh
      refine st_val hs (y_assignI rfl h244) trivial rfl rfl fun a hs => ?_
      refine wpList_nil ?_
      refine then_normal ?_
      refine wp_seq ?_
      refine wp_region_lit ?_
      refine st_val hs (y_move rfl) trivial rfl rfl fun a hs => ?_
      refine st_val hs (y_move rfl) trivial rfl rfl fun a hs => ?_
      refine st_val hs (y_move rfl) trivial rfl rfl fun a hs => ?_
      refine st_val hs (y_neg rfl) trivial rfl rfl fun a hs => ?_
      refine st_val hs (y_max rfl rfl) trivial rfl rfl fun a hs => ?_
      refine st_val hs (y_sub rfl rfl) trivial rfl rfl fun a hs => ?_
      obtain ⟨left247, h246, hsh⟩ := bind_t hsh
      refine st_val hs (y_assignI rfl h246) trivial rfl rfl fun a hs => ?_
      refine wpList_nil ?_
      refine then_normal ?_
      refine wp_region_lit ?_
      refine st_val hs (y_fieldAddr (o' := 0) Try.runUnderlying28 rfl Try.sizeOf22 rfl rfl rfl) trivial rfl rfl fun a hs => ?_
      refine st_val hs (y_loadB1 (hw.ownAt 2 rfl) rfl Try.isAgg22 rfl) trivial rfl rfl fun a hs => ?_
      refine st_val hs (y_move rfl) trivial rfl rfl fun a hs => ?_
      refine w_litSlice (α := Int) (vs := [.int .i64 x245]) (cs := [.int .i64 x245]) (xs := ([x245] : List Int)) hs hw El22 rfl rfl rfl rfl rfl rfl ⟨⟨_, rfl, rfl⟩, rfl⟩ rfl trivial rfl fun b249 a w hs hw => ?_
      obtain ⟨l251, h250, hsh⟩ := bind_t hsh
      refine w_appendR (α := Int) hs hw El22 4 rfl rfl rfl 4 rfl 0 rfl 0 rfl h250 rfl trivial ?_
      intro p252 k253 c254 a w hs hw
      refine st_val hs (y_fieldAddr (o' := 0) Try.runUnderlying28 rfl Try.sizeOf22 rfl rfl rfl) trivial rfl rfl fun a hs => ?_
      refine w_store (m := 1) (cs' := [.slice p252 l251.length k253, .int .i64 rv12.1, .int .i64 rv25.1]) hs hw 3 rfl rfl rfl Try.sizeOf22 rfl rfl rfl rfl trivial ?_
      intro a w hs hw
      refine wpList_nil ?_
      refine blk_normal ?_
      refine then_normal ?_
      refine wp_region_lit ?_
      refine st_val hs (y_move rfl) trivial rfl rfl fun a hs => ?_
      refine st_val hs (y_sub rfl rfl) trivial rfl rfl fun a hs => ?_
      obtain ⟨i256, h255, hsh⟩ := bind_t hsh
      refine st_val hs (y_assignI rfl h255) trivial rfl rfl fun a hs => ?_
      refine wpList_nil ?_
      refine then_normal ?_
      exact ⟨_, (Option.some.inj hsh).symm, p237, k238, p252, k253, c254, Sv240, (hs.wk rfl), (hw.ft [1, 2, 3, 4] [2, 4, 0] (by decide) rfl rfl)⟩
    · have hsh := ite_f hsh h212
      refine wp_exit ?_
      refine then_exit ?_
      refine then_exit ?_
      refine blk_exit ?_
      have hsh := Option.some.inj hsh
      subst hsh
      have h257 := hd201 _ rfl
      subst h257
      refine then_normal ?_
      exact ⟨p149, k150, p151, k152, c153, Sv154, (hs.wk rfl), (hw.ft [0, 1, 2, 3] [0, 1, 2] (by decide) rfl rfl)⟩
  · rintro a w ⟨p205, k206, p207, k208, c209, Sv210, hs, hw⟩
    refine then_normal ?_
    refine wp_seq ?_
    refine wp_region_lit ?_
    refine st_val hs (y_loadBA (hw.ownAt 2 rfl) rfl Try.isAgg28 Try.sizeOf28 rfl rfl) trivial rfl rfl fun a hs => ?_
    refine w_store (m := 3) (cs' := [.slice p207 e204.2.2.length k208, .int .i64 rv12.1, .int .i64 rv25.1]) hs hw 1 rfl rfl rfl Try.sizeOf28 rfl rfl rfl rfl trivial ?_
    intro a w hs hw
    refine wpList_nil ?_
    refine then_normal ?_
    have hsh := Option.some.inj hsh
    subst hsh
    refine wp_ret ?_
    exact ret1 hs rfl (rv_cell hw 1 rfl rfl Try.isAgg28 Try.sizeOf28 rfl) (hw.ret ⟨p207, k208, c209, p205, k206, rfl, (hw.freshOf 3 rfl (.inr ⟨0, _, _, _, rfl, rfl, rfl⟩)), (hw.envAt 2 rfl), (hw.ownAt 0 rfl), (hw.envAt 0 rfl)⟩)

abbrev made_Dice_Wave_rd (w0 : World) (bd : Nat) (r : ((List Int) × Dice)) : (Nat → Prop) → World → Value → Prop := fun S w v => ∃ (p0_0 : Option Addr) (k0_0 : Nat) (c0_0 : List Value) (q0_0 : Option Addr) (m0_0 : Nat), v = .slice p0_0 r.1.length k0_0 ∧ Fresh w0 S w (.row p0_0 r.1.length k0_0 c0_0 3 1) ∧ (RowA c0_0 r.1).p S w ∧ w.heap[bd]? = some (.cells #[.slice q0_0 r.2.L.length m0_0, .int .i64 r.2.At] 75 (0, 0)) ∧ (SlA q0_0 r.2.L.length m0_0 r.2.L).p S w
set_option maxHeartbeats 4000000 in
set_option maxRecDepth 100000 in
theorem made_Dice_Wave_ok {w0 : World} {S0 : Nat → Prop} {b2 : Nat} {p3 : Option Addr} {k4 : Nat} {d1 : Dice} {n8 : Int} {r : ((List Int) × Dice)} (hsh : made_Dice_Wave d1 n8 = some r) (hS : ∀ b, S0 b → b < w0.heap.size) (h5 : w0.heap[b2]? = some (.cells #[.slice p3 d1.L.length k4, .int .i64 d1.At] 75 (0, 0))) (h6 : ¬ S0 b2) (h7 : (SlA p3 d1.L.length k4 d1.L).p S0 w0) : Calls Try.prog 28 #[.pointer (some ⟨b2, 0, none⟩), .int .i64 n8] w0 (Ret [b2] w0 S0 (made_Dice_Wave_rd w0 b2 r)) := by
  refine calls_of_wp Try.func28 rfl ?_
  have hs := Sl.enter #[.pointer (some ⟨b2, 0, none⟩), .int .i64 n8] 47 [(0, .pointer (some ⟨b2, 0, none⟩)), (1, .int .i64 n8)] rfl ⟨rfl, rfl, trivial⟩
  have hw := Wd.enter1 (E := []) hS h5 h6 (fun _ h => (by cases h))
  have hw := hw.addE h7
  delta made_Dice_Wave at hsh
  refine wp_seq ?_
  refine wp_region_lit ?_
  refine st_val hs (y_assign rfl) trivial rfl rfl fun a hs => ?_
  refine wpList_nil ?_
  refine then_normal ?_
  refine wp_seq ?_
  refine wp_region_lit ?_
  refine st_val hs (y_assign rfl) trivial rfl rfl fun a hs => ?_
  refine wpList_nil ?_
  refine then_normal ?_
  refine wp_seq ?_
  refine wp_region_lit ?_
  refine st_val hs (y_assign rfl) trivial rfl rfl fun a hs => ?_
  refine wpList_nil ?_
  refine then_normal ?_
  refine wp_seq ?_
  refine wp_seq ?_
  refine wp_region_lit ?_
  refine st_val hs (y_move rfl) trivial rfl rfl fun a hs => ?_
  refine st_val hs (y_move rfl) trivial rfl rfl fun a hs => ?_
  obtain ⟨rv10, h9, hsh⟩ := bind_t hsh
  refine st_callR hs (made_Dice_Next_ok h9 hw.dom (hw.ownAt 0 rfl) (hw.boxS 0 rfl) (hw.envAt 0 rfl)) (do_call Try.call15 rfl) trivial rfl rfl ?_
  intro v18 Sv15 w a h16 h17 hs
  obtain ⟨p12, k13, rfl, h11, h14⟩ := h17
  have hw := hw.call1 0 rfl h16 h11
  have hw := hw.addE (e := SlA p12 rv10.2.L.length k13 rv10.2.L) h14
  refine st_val hs (y_add rfl rfl) trivial rfl rfl fun a hs => ?_
  obtain ⟨i20, h19, hsh⟩ := bind_t hsh
  refine st_val hs (y_assignI rfl h19) trivial rfl rfl fun a hs => ?_
  refine wpList_nil ?_
  refine then_normal ?_
  obtain ⟨e847, h1125, hsh⟩ := bind_t hsh
  refine wp_join (fun a w => ∃ (p848 : Option Addr) (k849 : Nat) (p850 : Option Addr) (k851 : Nat) (c852 : List Value) (Sv853 : Nat → Prop), Sl 47 [(5, .slice p850 e847.2.2.length k851)] a ∧ Wd ⟨w0, S0, [b2]⟩ Sv853 [.box b2 [.slice p848 e847.1.length k849, .int .i64 e847.2.1] 75, .row p850 e847.2.2.length k851 c852 3 1] [SlA p848 e847.1.length k849 e847.1, RowA c852 e847.2.2] w) ?_ ?_
  · refine wp_block ?_
    have hw := hw.nilRow Int 3
    refine wp_while (fun sv21 a w => ∃ (p568 : Option Addr) (k569 : Nat) (p570 : Option Addr) (k571 : Nat) (c572 : List Value) (Sv573 : Nat → Prop), Sl 47 [(0, .pointer (some ⟨b2, 0, none⟩)), (5, .slice p570 sv21.2.2.1.length k571), (6, .int .i64 sv21.2.2.2.1), (7, .int .i64 sv21.2.2.2.2)] a ∧ Wd ⟨w0, S0, [b2]⟩ Sv573 [.box b2 [.slice p568 sv21.1.length k569, .int .i64 sv21.2.1] 75, .row p570 sv21.2.2.1.length k571 c572 3 1] [SlA p568 sv21.1.length k569 sv21.1, RowA c572 sv21.2.2.1] w) (rv10.2.L, rv10.2.At, ([] : List Int), 0, i20) h1125 ⟨p12, k13, none, 0, [], Sv15, (hs.wk rfl), (hw.ft [1, 0] [1, 0] (by decide) rfl rfl)⟩ ?_
    clear h1125
    repeat clear hsh
    rintro sv21 a w tv845 ⟨p568, k569, p570, k571, c572, Sv573, hs, hw⟩ hsh hd844
    delta made_Dice_Wave_l1 at hsh
    refine wp_seq ?_
    refine wp_seq ?_
    refine wp_region_lit ?_
    refine st_val hs (y_move rfl) trivial rfl rfl fun a hs => ?_
    refine st_val hs (y_gtr rfl rfl) trivial rfl rfl fun a hs => ?_
    refine wpList_nil ?_
    refine then_normal ?_
    refine wp_cond_split (hs.ev rfl) (fun h855 => ?_) (fun h855 => ?_)
    · have hsh := ite_t hsh h855
      refine wp_skip ?_
      refine then_normal ?_
      refine wp_seq ?_
      refine wp_block ?_
      refine wp_seq ?_
      refine wp_seq ?_
      refine wp_region_lit ?_
      refine st_val hs (y_move rfl) trivial rfl rfl fun a hs => ?_
      refine st_val hs (y_eql rfl rfl) trivial rfl rfl fun a hs => ?_
      refine st_val hs (y_move rfl) trivial rfl rfl fun a hs => ?_
      obtain ⟨c1000, hc1000, hsh⟩ := bind_t hsh
      refine wpl_join 4 (fun a w => ∃ (p1001 : Option Addr) (k1002 : Nat) (Sv1003 : Nat → Prop), Sl 47 [(0, .pointer (some ⟨b2, 0, none⟩)), (5, .slice p570 sv21.2.2.1.length k571), (6, .int .i64 sv21.2.2.2.1), (7, .int .i64 sv21.2.2.2.2), (23, .bool c1000.2.2)] a ∧ Wd ⟨w0, S0, [b2]⟩ Sv1003 [.box b2 [.slice p1001 c1000.1.length k1002, .int .i64 c1000.2.1] 75, .row p570 sv21.2.2.1.length k571 c572 3 1] [SlA p1001 c1000.1.length k1002 c1000.1, RowA c572 sv21.2.2.1] w) ?_ ?_
      · rcases Bool.eq_false_or_eq_true (sv21.2.2.2.1 == 0) with h999 | h999
        · have hs := hs.fix 19 (.bool true) rfl (vb h999)
          have hsh := ite_t hc1000 h999
          refine st_val hs (y_move rfl) ⟨_, rfl, rfl⟩ rfl rfl fun a hs => ?_
          obtain ⟨rv1005, h1004, hsh⟩ := bind_t hsh
          refine st_callR hs (made_Dice_Next_ok h1004 hw.dom (hw.ownAt 0 rfl) (hw.boxS 0 rfl) (hw.envAt 0 rfl)) (do_call Try.call15 rfl) ⟨_, rfl, rfl⟩ rfl rfl ?_
          intro v1013 Sv1010 w a h1011 h1012 hs
          obtain ⟨p1007, k1008, rfl, h1006, h1009⟩ := h1012
          have hw := hw.call1 0 rfl h1011 h1006
          have hw := hw.addE (e := SlA p1007 rv1005.2.L.length k1008 rv1005.2.L) h1009
          refine st_val hs (y_eql rfl rfl) ⟨_, rfl, rfl⟩ rfl rfl fun a hs => ?_
          refine st_val hs (y_pickT rfl rfl) trivial rfl rfl fun a hs => ?_
          refine wpList_nil ?_
          have hsh := Option.some.inj hsh
          subst hsh
          refine then_normal ?_
          exact ⟨p1007, k1008, Sv1010, (hs.wk rfl), (hw.ft [0, 1] [0, 2] (by decide) rfl rfl)⟩
        · have hs := hs.fix 19 (.bool false) rfl (vb h999)
          have hsh := ite_f hc1000 h999
          refine st_skip hs rfl rfl rfl rfl rfl fun a hs => ?_
          refine st_skip hs rfl rfl rfl rfl rfl fun a hs => ?_
          refine st_skip hs rfl rfl rfl rfl rfl fun a hs => ?_
          refine st_val hs (y_pickF rfl rfl) trivial rfl rfl fun a hs => ?_
          refine wpList_nil ?_
          have hsh := Option.some.inj hsh
          subst hsh
          refine then_normal ?_
          exact ⟨p568, k569, Sv573, (hs.wk rfl), (hw.ft [0, 1] [0, 1] (by decide) rfl rfl)⟩
      · rintro a w ⟨p1001, k1002, Sv1003, hs, hw⟩
        refine wpList_nil ?_
        refine then_normal ?_
        refine wp_join (fun a w => ∃ (x1030 : (List Int)) (x1031 : Int) (loud1032 : Int) (p1027 : Option Addr) (k1028 : Nat) (Sv1029 : Nat → Prop), made_Dice_Wave_j1 sv21 x1030 x1031 loud1032 = some tv845 ∧ Sl 47 [(0, .pointer (some ⟨b2, 0, none⟩)), (5, .slice p570 sv21.2.2.1.length k571), (6, .int .i64 loud1032), (7, .int .i64 sv21.2.2.2.2)] a ∧ Wd ⟨w0, S0, [b2]⟩ Sv1029 [.box b2 [.slice p1027 x1030.length k1028, .int .i64 x1031] 75, .row p570 sv21.2.2.1.length k571 c572 3 1] [SlA p1027 x1030.length k1028 x1030, RowA c572 sv21.2.2.1] w) ?_ ?_
        · refine wp_cond_split (hs.ev rfl) (fun h1111 => ?_) (fun h1111 => ?_)
          · have hsh := ite_t hsh h1111
            refine wp_region_lit ?_
            refine st_val hs (y_move rfl) trivial rfl rfl fun a hs => ?_
            obtain ⟨rv1113, h1112, hsh⟩ := bind_t hsh
            refine st_callR hs (made_Dice_Next_ok h1112 hw.dom (hw.ownAt 0 rfl) (hw.boxS 0 rfl) (hw.envAt 0 rfl)) (do_call Try.call15 rfl) trivial rfl rfl ?_
            intro v1121 Sv1118 w a h1119 h1120 hs
            obtain ⟨p1115, k1116, rfl, h1114, h1117⟩ := h1120
            have hw := hw.call1 0 rfl h1119 h1114
            have hw := hw.addE (e := SlA p1115 rv1113.2.L.length k1116 rv1113.2.L) h1117
            refine st_val hs (y_add rfl rfl) trivial rfl rfl fun a hs => ?_
            obtain ⟨loud1123, h1122, hsh⟩ := bind_t hsh
            refine st_val hs (y_assignI rfl h1122) trivial rfl rfl fun a hs => ?_
            refine wpList_nil ?_
            refine then_normal ?_
            exact ⟨rv1113.2.L, rv1113.2.At, loud1123, p1115, k1116, Sv1118, hsh, (hs.wk rfl), (hw.ft [0, 1] [0, 2] (by decide) rfl rfl)⟩
          · have hsh := ite_f hsh h1111
            refine wp_skip ?_
            refine then_normal ?_
            exact ⟨c1000.1, c1000.2.1, sv21.2.2.2.1, p1001, k1002, Sv1003, hsh, (hs.wk rfl), (hw.ft [0, 1] [0, 1] (by decide) rfl rfl)⟩
        · rintro a w ⟨x1030, x1031, loud1032, p1027, k1028, Sv1029, hsh, hs, hw⟩
          delta made_Dice_Wave_j1 at hsh
          refine then_normal ?_
          refine wp_seq ?_
          refine wp_region_lit ?_
          refine st_val hs (y_move rfl) trivial rfl rfl fun a hs => ?_
          obtain ⟨rv1034, h1033, hsh⟩ := bind_t hsh
          refine st_callR hs (made_Dice_Next_ok h1033 hw.dom (hw.ownAt 0 rfl) (hw.boxS 0 rfl) (hw.envAt 0 rfl)) (do_call Try.call15 rfl) trivial rfl rfl ?_
          intro v1042 Sv1039 w a h1040 h1041 hs
          obtain ⟨p1036, k1037, rfl, h1035, h1038⟩ := h1041
          have hw := hw.call1 0 rfl h1040 h1035
          have hw := hw.addE (e := SlA p1036 rv1034.2.L.length k1037 rv1034.2.L) h1038
          refine st_val hs (y_sub rfl rfl) trivial rfl rfl fun a hs => ?_
          obtain ⟨x1044, h1043, hsh⟩ := bind_t hsh
          refine st_val hs (y_assignI rfl h1043) trivial rfl rfl fun a hs => ?_
          refine wpList_nil ?_
          refine then_normal ?_
          refine wp_seq ?_
          refine wp_seq ?_
          refine wp_region_lit ?_
          refine st_val hs (y_move rfl) trivial rfl rfl fun a hs => ?_
          refine st_val hs (y_gtr rfl rfl) trivial rfl rfl fun a hs => ?_
          refine wpList_nil ?_
          refine then_normal ?_
          refine wp_join (fun a w => ∃ (x1073 : (List Int)) (x1074 : Int) (loud1075 : Int) (x1076 : Int) (p1070 : Option Addr) (k1071 : Nat) (Sv1072 : Nat → Prop), made_Dice_Wave_j2 sv21 x1073 x1074 loud1075 x1076 = some tv845 ∧ Sl 47 [(0, .pointer (some ⟨b2, 0, none⟩)), (5, .slice p570 sv21.2.2.1.length k571), (6, .int .i64 loud1075), (7, .int .i64 sv21.2.2.2.2), (8, .int .i64 x1076)] a ∧ Wd ⟨w0, S0, [b2]⟩ Sv1072 [.box b2 [.slice p1070 x1073.length k1071, .int .i64 x1074] 75, .row p570 sv21.2.2.1.length k571 c572 3 1] [SlA p1070 x1073.length k1071 x1073, RowA c572 sv21.2.2.1] w) ?_ ?_
          · refine wp_cond_split (hs.ev rfl) (fun h1086 => ?_) (fun h1086 => ?_)
            · have hsh := ite_t hsh h1086
              refine wp_seq ?_
              refine wp_region_lit ?_
              refine st_val hs (y_move rfl) trivial rfl rfl fun a hs => ?_
              obtain ⟨rv1088, h1087, hsh⟩ := bind_t hsh
              refine st_callR hs (made_Dice_Next_ok h1087 hw.dom (hw.ownAt 0 rfl) (hw.boxS 0 rfl) (hw.envAt 0 rfl)) (do_call Try.call15 rfl) trivial rfl rfl ?_
              intro v1096 Sv1093 w a h1094 h1095 hs
              obtain ⟨p1090, k1091, rfl, h1089, h1092⟩ := h1095
              have hw := hw.call1 0 rfl h1094 h1089
              have hw := hw.addE (e := SlA p1090 rv1088.2.L.length k1091 rv1088.2.L) h1092
              refine st_val hs (y_add rfl rfl) trivial rfl rfl fun a hs => ?_
              refine st_val hs (y_move rfl) trivial rfl rfl fun a hs => ?_
              obtain ⟨rv1098, h1097, hsh⟩ := bind_t hsh
              refine st_callR hs (made_Dice_Next_ok h1097 hw.dom (hw.ownAt 0 rfl) (hw.boxS 0 rfl) (hw.envAt 0 rfl)) (do_call Try.call15 rfl) trivial rfl rfl ?_
              intro v1106 Sv1103 w a h1104 h1105 hs
              obtain ⟨p1100, k1101, rfl, h1099, h1102⟩ := h1105
              have hw := hw.call1 0 rfl h1104 h1099
              have hw := hw.addE (e := SlA p1100 rv1098.2.L.length k1101 rv1098.2.L) h1102
              refine st_val hs (y_mul rfl rfl) trivial rfl rfl fun a hs => ?_
              refine st_val hs (y_sub rfl rfl) trivial rfl rfl fun a hs => ?_
              refine st_val hs (y_mul rfl rfl) trivial rfl rfl fun a hs => ?_
              obtain ⟨x1108, h1107, hsh⟩ := bind_t hsh
              refine st_val hs (y_assignI rfl h1107) trivial rfl rfl fun a hs => ?_
              refine wpList_nil ?_
              refine then_normal ?_
              refine wp_region_lit ?_
              refine st_val hs (y_move rfl) trivial rfl rfl fun a hs => ?_
              refine st_val hs (y_sub rfl rfl) trivial rfl rfl fun a hs => ?_
              obtain ⟨loud1110, h1109, hsh⟩ := bind_t hsh
              refine st_val hs (y_assignI rfl h1109) trivial rfl rfl fun a hs => ?_
              refine wpList_nil ?_
              refine then_normal ?_
              exact ⟨rv1098.2.L, rv1098.2.At, loud1110, x1108, p1100, k1101, Sv1103, hsh, (hs.wk rfl), (hw.ft [0, 1] [0, 4] (by decide) rfl rfl)⟩
            · have hsh := ite_f hsh h1086
              refine wp_skip ?_
              refine then_normal ?_
              exact ⟨rv1034.2.L, rv1034.2.At, loud1032, x1044, p1036, k1037, Sv1039, hsh, (hs.wk rfl), (hw.ft [0, 1] [0, 2] (by decide) rfl rfl)⟩
          · rintro a w ⟨x1073, x1074, loud1075, x1076, p1070, k1071, Sv1072, hsh, hs, hw⟩
            delta made_Dice_Wave_j2 at hsh
            refine then_normal ?_
            refine wp_region_lit ?_
            refine st_val hs (y_move rfl) trivial rfl rfl fun a hs => ?_
            refine st_val hs (y_move rfl) trivial rfl rfl fun a hs => ?_
            refine w_litSlice (α := Int) (vs := [.int .i64 x1076]) (cs := [.int .i64 x1076]) (xs := ([x1076] : List Int)) hs hw El22 rfl rfl rfl rfl rfl rfl ⟨⟨_, rfl, rfl⟩, rfl⟩ rfl trivial rfl fun b1078 a w hs hw => ?_
            obtain ⟨l1080, h1079, hsh⟩ := bind_t hsh
            refine w_appendR (α := Int) hs hw El22 2 rfl rfl rfl 2 rfl 0 rfl 0 rfl h1079 rfl trivial ?_
            intro p1081 k1082 c1083 a w hs hw
            refine st_val hs (y_assign rfl) trivial rfl rfl fun a hs => ?_
            refine wpList_nil ?_
            refine blk_normal ?_
            refine then_normal ?_
            refine wp_region_lit ?_
            refine st_val hs (y_move rfl) trivial rfl rfl fun a hs => ?_
            refine st_val hs (y_sub rfl rfl) trivial rfl rfl fun a hs => ?_
            obtain ⟨i1085, h1084, hsh⟩ := bind_t hsh
            refine st_val hs (y_assignI rfl h1084) trivial rfl rfl fun a hs => ?_
            refine wpList_nil ?_
            refine then_normal ?_
            exact ⟨_, (Option.some.inj hsh).symm, p1070, k1071, p1081, k1082, c1083, Sv1072, (hs.wk rfl), (hw.ft [1, 2] [2, 0] (by decide) rfl rfl)⟩
    · have hsh := ite_f hsh h855
      refine wp_exit ?_
      refine then_exit ?_
      refine then_exit ?_
      refine blk_exit ?_
      have hsh := Option.some.inj hsh
      subst hsh
      have h1124 := hd844 _ rfl
      subst h1124
      refine then_normal ?_
      exact ⟨p568, k569, p570, k571, c572, Sv573, (hs.wk rfl), (hw.ft [0, 1] [0, 1] (by decide) rfl rfl)⟩
  · rintro a w ⟨p848, k849, p850, k851, c852, Sv853, hs, hw⟩
    refine then_normal ?_
    refine wp_seq ?_
    refine wp_region_lit ?_
    refine st_val hs (y_move rfl) trivial rfl rfl fun a hs => ?_
    refine st_val hs (y_assign rfl) trivial rfl rfl fun a hs => ?_
    refine wpList_nil ?_
    refine then_normal ?_
    have hsh := Option.some.inj hsh
    subst hsh
    refine wp_ret ?_
    exact ret1 hs rfl (rv_tmp rfl) (hw.ret ⟨p850, k851, c852, p848, k849, rfl, (hw.freshOf 1 rfl (.inr ⟨0, _, _, _, rfl, rfl, rfl⟩)), (hw.envAt 1 rfl), (hw.ownAt 0 rfl), (hw.envAt 0 rfl)⟩)

abbrev continuity_body_rd (w0 : World) (r : Record) : (Nat → Prop) → World → Value → Prop := fun S w v => ∃ (p0_11 : Option Addr) (k0_11 : Nat), v = .agg #[.string r.Source.Network, .string r.Source.Station, .string r.Source.Location, .string r.Source.Channel, .int .i64 r.Start, .int .i64 r.First, .int .i64 r.Rate.Num, .int .i64 r.Rate.Den, .int .i64 r.Error, .int .i64 r.Run, .int .i64 r.Seq, .slice p0_11 r.Samples.length k0_11] ∧ (SlA p0_11 r.Samples.length k0_11 r.Samples).p S w
set_option maxHeartbeats 4000000 in
set_option maxRecDepth 100000 in
theorem continuity_body_ok {w0 : World} {S0 : Nat → Prop} {p2 : Option Addr} {k3 : Nat} {s1 : Segment} {r : Record} (hsh : continuity_body s1 = some r) (hS : ∀ b, S0 b → b < w0.heap.size) (h4 : (SlA p2 s1.Samples.length k3 s1.Samples).p S0 w0) : Calls Try.prog 64 #[.agg #[.int .i64 s1.Start, .int .i64 s1.First, .int .i64 s1.Rate.Num, .int .i64 s1.Rate.Den, .int .i64 s1.Error, .slice p2 s1.Samples.length k3]] w0 (Ret [] w0 S0 (continuity_body_rd w0 r)) := by
  refine calls_of_wp Try.func64 rfl ?_
  have hs := Sl.enter #[.agg #[.int .i64 s1.Start, .int .i64 s1.First, .int .i64 s1.Rate.Num, .int .i64 s1.Rate.Den, .int .i64 s1.Error, .slice p2 s1.Samples.length k3]] 15 [(0, .agg #[.int .i64 s1.Start, .int .i64 s1.First, .int .i64 s1.Rate.Num, .int .i64 s1.Rate.Den, .int .i64 s1.Error, .slice p2 s1.Samples.length k3])] rfl ⟨rfl, trivial⟩
  have hw := Wd.enter (E := []) hS (fun _ h => (by cases h))
  have hw := hw.addE h4
  delta continuity_body at hsh
  refine wp_seq ?_
  refine wp_region_lit ?_
  refine w_box (cs := [.int .i64 s1.Start, .int .i64 s1.First, .int .i64 s1.Rate.Num, .int .i64 s1.Rate.Den, .int .i64 s1.Error, .slice p2 s1.Samples.length k3]) hs hw rfl rfl rfl trivial ?_
  intro b5 a w hs hw
  refine w_alloc (cs := [.string ByteArray.empty, .string ByteArray.empty, .string ByteArray.empty, .string ByteArray.empty, .int .i64 0, .int .i64 0, .int .i64 0, .int .i64 0, .int .i64 0, .int .i64 0, .int .i64 0, .slice none ([] : List Int).length 0]) hs hw Try.zeroValue98 rfl rfl trivial ?_
  intro b6 a w hs hw
  refine wpList_nil ?_
  refine then_normal ?_
  refine wp_seq ?_
  refine wp_region_lit ?_
  refine st_val hs (y_build (vs := [(0, .string ⟨#[78]⟩), (1, .string ⟨#[83]⟩), (3, .string ⟨#[67, 72, 65]⟩)]) Bld96 rfl rfl) trivial rfl rfl fun a hs => ?_
  refine st_val hs (y_fieldAddr (o' := 0) Try.runUnderlying62 rfl Try.sizeOf3 rfl rfl rfl) trivial rfl rfl fun a hs => ?_
  refine st_val hs (y_loadB1 (hw.ownAt 1 rfl) rfl Try.isAgg3 rfl) trivial rfl rfl fun a hs => ?_
  refine st_val hs (y_fieldAddr (o' := 1) Try.runUnderlying62 rfl Try.sizeOf3 rfl rfl rfl) trivial rfl rfl fun a hs => ?_
  refine st_val hs (y_loadB1 (hw.ownAt 1 rfl) rfl Try.isAgg3 rfl) trivial rfl rfl fun a hs => ?_
  refine st_val hs (y_fieldAddr (o' := 2) Try.runUnderlying62 rfl Try.sizeOf60 rfl rfl rfl) trivial rfl rfl fun a hs => ?_
  refine st_val hs (y_loadBA (hw.ownAt 1 rfl) rfl Try.isAgg60 Try.sizeOf60 rfl rfl) trivial rfl rfl fun a hs => ?_
  refine st_val hs (y_fieldAddr (o' := 4) Try.runUnderlying62 rfl Try.sizeOf3 rfl rfl rfl) trivial rfl rfl fun a hs => ?_
  refine st_val hs (y_loadB1 (hw.ownAt 1 rfl) rfl Try.isAgg3 rfl) trivial rfl rfl fun a hs => ?_
  refine st_val hs (y_fieldAddr (o' := 5) Try.runUnderlying62 rfl Try.sizeOf22 rfl rfl rfl) trivial rfl rfl fun a hs => ?_
  refine st_val hs (y_loadB1 (hw.ownAt 1 rfl) rfl Try.isAgg22 rfl) trivial rfl rfl fun a hs => ?_
  refine st_val hs (y_build (vs := [(0, .agg #[.string ⟨#[78]⟩, .string ⟨#[83]⟩, .string ByteArray.empty, .string ⟨#[67, 72, 65]⟩]), (1, .int .i64 s1.Start), (2, .int .i64 s1.First), (3, .agg #[.int .i64 s1.Rate.Num, .int .i64 s1.Rate.Den]), (4, .int .i64 s1.Error), (7, .slice p2 s1.Samples.length k3)]) Bld98 rfl rfl) trivial rfl rfl fun a hs => ?_
  refine w_store (m := 12) (cs' := [.string ⟨#[78]⟩, .string ⟨#[83]⟩, .string ByteArray.empty, .string ⟨#[67, 72, 65]⟩, .int .i64 s1.Start, .int .i64 s1.First, .int .i64 s1.Rate.Num, .int .i64 s1.Rate.Den, .int .i64 s1.Error, .int .i64 0, .int .i64 0, .slice p2 s1.Samples.length k3]) hs hw 0 rfl rfl rfl Try.sizeOf98 rfl rfl rfl rfl trivial ?_
  intro a w hs hw
  refine wpList_nil ?_
  refine then_normal ?_
  have hsh := Option.some.inj hsh
  subst hsh
  refine wp_ret ?_
  exact ret1 hs rfl (rv_cell hw 0 rfl rfl Try.isAgg98 Try.sizeOf98 rfl) (hw.ret ⟨p2, k3, rfl, (hw.envAt 0 rfl)⟩)

abbrev source_plain_rd (w0 : World) (r : Bool) : (Nat → Prop) → World → Value → Prop := fun S w v => v = .bool r
set_option maxHeartbeats 4000000 in
set_option maxRecDepth 100000 in
theorem source_plain_ok {w0 : World} {S0 : Nat → Prop} {c1 : Int} {r : Bool} (hsh : source_plain c1 = some r) (hS : ∀ b, S0 b → b < w0.heap.size) : Calls Try.prog 80 #[.int .u8 c1] w0 (Ret [] w0 S0 (source_plain_rd w0 r)) := by
  refine calls_of_wp Try.func80 rfl ?_
  have hs := Sl.enter #[.int .u8 c1] 17 [(0, .int .u8 c1)] rfl ⟨rfl, trivial⟩
  have hw := Wd.enter (E := []) hS (fun _ h => (by cases h))
  delta source_plain at hsh
  refine wp_seq ?_
  refine wp_region_lit ?_
  refine st_val hs (y_assign rfl) trivial rfl rfl fun a hs => ?_
  refine wpList_nil ?_
  refine then_normal ?_
  refine wp_seq ?_
  refine wp_region_lit ?_
  refine st_val hs (y_move rfl) trivial rfl rfl fun a hs => ?_
  refine st_val hs (y_geq rfl rfl) trivial rfl rfl fun a hs => ?_
  refine st_val hs (y_move rfl) trivial rfl rfl fun a hs => ?_
  refine wpl_join 3 (fun a w1 => w0 = w1 ∧ Sl 17 [(0, .int .u8 c1), (8, .bool ((decide (65 ≤ c1)) && (decide (c1 ≤ 90))))] a) ?_ ?_
  · rcases Bool.eq_false_or_eq_true (decide (65 ≤ c1)) with h2 | h2
    · have hs := hs.fix 5 (.bool true) rfl (vb h2)
      refine st_val hs (y_move rfl) ⟨_, rfl, rfl⟩ rfl rfl fun a hs => ?_
      refine st_val hs (y_leq rfl rfl) ⟨_, rfl, rfl⟩ rfl rfl fun a hs => ?_
      refine st_val hs (y_pickT rfl rfl) trivial rfl rfl fun a hs => ?_
      refine wpList_nil ?_
      refine then_normal ?_
      exact ⟨rfl, (hs.fix 8 (.bool ((decide (65 ≤ c1)) && (decide (c1 ≤ 90)))) rfl (and_t h2)).weaken _ ⟨rfl, rfl, trivial⟩⟩
    · have hs := hs.fix 5 (.bool false) rfl (vb h2)
      refine st_skip hs rfl rfl rfl rfl rfl fun a hs => ?_
      refine st_skip hs rfl rfl rfl rfl rfl fun a hs => ?_
      refine st_val hs (y_pickF rfl rfl) trivial rfl rfl fun a hs => ?_
      refine wpList_nil ?_
      refine then_normal ?_
      exact ⟨rfl, (hs.fix 8 (.bool ((decide (65 ≤ c1)) && (decide (c1 ≤ 90)))) rfl (and_f h2)).weaken _ ⟨rfl, rfl, trivial⟩⟩
  · rintro a w1 ⟨h9, hs⟩
    subst h9
    refine st_val hs (y_move rfl) trivial rfl rfl fun a hs => ?_
    refine wpl_join 7 (fun a w1 => w0 = w1 ∧ Sl 17 [(16, .bool (((decide (65 ≤ c1)) && (decide (c1 ≤ 90))) || ((decide (48 ≤ c1)) && (decide (c1 ≤ 57)))))] a) ?_ ?_
    · rcases Bool.eq_false_or_eq_true ((decide (65 ≤ c1)) && (decide (c1 ≤ 90))) with h5 | h5
      · have hs := hs.fix 9 (.bool true) rfl (vb h5)
        refine st_skip hs rfl rfl rfl rfl rfl fun a hs => ?_
        refine st_skip hs rfl rfl rfl rfl rfl fun a hs => ?_
        refine st_skip hs rfl rfl rfl rfl rfl fun a hs => ?_
        refine st_skipU hs rfl rfl rfl rfl rfl fun a hs => ?_
        refine st_skipU hs rfl rfl rfl rfl rfl fun a hs => ?_
        refine st_skip hs rfl rfl rfl rfl rfl fun a hs => ?_
        refine st_val hs (y_pickT rfl rfl) trivial rfl rfl fun a hs => ?_
        refine wpList_nil ?_
        refine then_normal ?_
        exact ⟨rfl, (hs.fix 16 (.bool (((decide (65 ≤ c1)) && (decide (c1 ≤ 90))) || ((decide (48 ≤ c1)) && (decide (c1 ≤ 57))))) rfl (or_t h5)).weaken _ ⟨rfl, trivial⟩⟩
      · have hs := hs.fix 9 (.bool false) rfl (vb h5)
        refine st_val hs (y_move rfl) ⟨_, rfl, rfl⟩ rfl rfl fun a hs => ?_
        refine st_val hs (y_geq rfl rfl) ⟨_, rfl, rfl⟩ rfl rfl fun a hs => ?_
        refine st_val hs (y_move rfl) ⟨_, rfl, rfl⟩ rfl rfl fun a hs => ?_
        refine wpl_join 3 (fun a w1 => w0 = w1 ∧ Sl 17 [(9, .bool false), (15, .bool ((decide (48 ≤ c1)) && (decide (c1 ≤ 57))))] a) ?_ ?_
        · rcases Bool.eq_false_or_eq_true (decide (48 ≤ c1)) with h6 | h6
          · have hs := hs.fix 12 (.bool true) rfl (vb h6)
            refine st_val hs (y_move rfl) ⟨_, rfl, rfl⟩ rfl rfl fun a hs => ?_
            refine st_val hs (y_leq rfl rfl) ⟨_, rfl, rfl⟩ rfl rfl fun a hs => ?_
            refine st_val hs (y_pickT rfl rfl) ⟨_, rfl, rfl⟩ rfl rfl fun a hs => ?_
            refine wpList_nil ?_
            refine then_normal ?_
            exact ⟨rfl, (hs.fix 15 (.bool ((decide (48 ≤ c1)) && (decide (c1 ≤ 57)))) rfl (and_t h6)).weaken _ ⟨rfl, rfl, trivial⟩⟩
          · have hs := hs.fix 12 (.bool false) rfl (vb h6)
            refine st_skip hs rfl rfl rfl rfl rfl fun a hs => ?_
            refine st_skip hs rfl rfl rfl rfl rfl fun a hs => ?_
            refine st_val hs (y_pickF rfl rfl) ⟨_, rfl, rfl⟩ rfl rfl fun a hs => ?_
            refine wpList_nil ?_
            refine then_normal ?_
            exact ⟨rfl, (hs.fix 15 (.bool ((decide (48 ≤ c1)) && (decide (c1 ≤ 57)))) rfl (and_f h6)).weaken _ ⟨rfl, rfl, trivial⟩⟩
        · rintro a w1 ⟨h7, hs⟩
          subst h7
          refine st_val hs (y_pickF rfl rfl) trivial rfl rfl fun a hs => ?_
          refine wpList_nil ?_
          refine then_normal ?_
          exact ⟨rfl, (hs.fix 16 (.bool (((decide (65 ≤ c1)) && (decide (c1 ≤ 90))) || ((decide (48 ≤ c1)) && (decide (c1 ≤ 57))))) rfl (or_f h5)).weaken _ ⟨rfl, trivial⟩⟩
    · rintro a w1 ⟨h8, hs⟩
      subst h8
      refine st_val hs (y_assign rfl) trivial rfl rfl fun a hs => ?_
      refine wpList_nil ?_
      refine then_normal ?_
      have hsh := Option.some.inj hsh
      subst hsh
      refine wp_ret ?_
      exact ret1 hs rfl (rv_tmp rfl) (hw.ret rfl)

abbrev source_code_rd (w0 : World) (r : Bool) : (Nat → Prop) → World → Value → Prop := fun S w v => v = .bool r
set_option maxHeartbeats 4000000 in
set_option maxRecDepth 100000 in
theorem source_code_ok {w0 : World} {S0 : Nat → Prop} {s1 : ByteArray} {low2 : Int} {high3 : Int} {r : Bool} (hsh : source_code s1 low2 high3 = some r) (hS : ∀ b, S0 b → b < w0.heap.size) : Calls Try.prog 79 #[.string s1, .int .i64 low2, .int .i64 high3] w0 (Ret [] w0 S0 (source_code_rd w0 r)) := by
  refine calls_of_wp Try.func79 rfl ?_
  have hs := Sl.enter #[.string s1, .int .i64 low2, .int .i64 high3] 29 [(0, .string s1), (1, .int .i64 low2), (2, .int .i64 high3)] rfl ⟨rfl, rfl, rfl, trivial⟩
  have hw := Wd.enter (E := []) hS (fun _ h => (by cases h))
  delta source_code at hsh
  refine wp_seq ?_
  refine wp_region_lit ?_
  refine st_val hs (y_assign rfl) trivial rfl rfl fun a hs => ?_
  refine wpList_nil ?_
  refine then_normal ?_
  refine wp_seq ?_
  refine wp_seq ?_
  refine wp_region_lit ?_
  refine st_val hs (y_move rfl) trivial rfl rfl fun a hs => ?_
  refine st_val hs (y_lenS Try.runUnderlying9 rfl) trivial rfl rfl fun a hs => ?_
  refine st_val hs (y_move rfl) trivial rfl rfl fun a hs => ?_
  refine wpList_nil ?_
  refine then_normal ?_
  refine wp_block ?_
  refine wp_while (fun sv75 a w => ∃ (Sv121 : Nat → Prop), Sl 29 [(0, .string s1), (1, .int .i64 low2), (2, .int .i64 high3), (9, .int .i64 (s1.size : Int)), (10, .int .i64 sv75)] a ∧ Wd ⟨w0, S0, []⟩ Sv121 [] [] w) 0 hsh ⟨S0, (hs.wk rfl), (hw.ft [] [] (by decide) rfl rfl)⟩ ?_
  repeat clear hsh
  rintro sv75 a w tv145 ⟨Sv121, hs, hw⟩ hsh hd144
  delta source_code_l2 at hsh
  refine wp_seq ?_
  refine wp_region_lit ?_
  refine st_val hs (y_lss rfl rfl) trivial rfl rfl fun a hs => ?_
  refine wpList_nil ?_
  refine then_normal ?_
  refine wp_seq ?_
  refine wp_cond_split (hs.ev rfl) (fun h149 => ?_) (fun h149 => ?_)
  · have hsh := ite_t hsh h149
    refine wp_skip ?_
    refine then_normal ?_
    refine wp_seq ?_
    refine wp_block ?_
    refine wp_seq ?_
    refine wp_region_lit ?_
    refine st_val hs (y_move rfl) trivial rfl rfl fun a hs => ?_
    refine st_val hs (y_assign rfl) trivial rfl rfl fun a hs => ?_
    refine wpList_nil ?_
    refine then_normal ?_
    refine wp_seq ?_
    refine wp_region_lit ?_
    refine st_val hs (y_move rfl) trivial rfl rfl fun a hs => ?_
    refine st_val hs (y_move rfl) trivial rfl rfl fun a hs => ?_
    obtain ⟨c161, h160, hsh⟩ := bind_t hsh
    refine st_val hs (y_indexSM Try.runUnderlying9 rfl rfl h160) trivial rfl rfl fun a hs => ?_
    obtain ⟨rv163, h162, hsh⟩ := bind_t hsh
    refine st_callR hs (source_plain_ok h162 hw.dom) (do_call Try.call80 rfl) trivial rfl rfl ?_
    intro v167 Sv164 w a h165 h166 hs
    subst h166
    have hw := hw.call h165
    refine st_val hs (y_not rfl) trivial rfl rfl fun a hs => ?_
    refine wpList_nil ?_
    refine then_normal ?_
    refine wp_cond_split (hs.ev rfl) (fun h169 => ?_) (fun h169 => ?_)
    · have hsh := ite_t hsh h169
      refine wp_seq ?_
      refine wp_region_lit ?_
      refine st_val hs (y_assign rfl) trivial rfl rfl fun a hs => ?_
      refine wpList_nil ?_
      refine then_normal ?_
      have hsh := Option.some.inj hsh
      subst hsh
      have h170 := hd144 _ rfl
      subst h170
      refine wp_ret ?_
      refine blk_ret ?_
      refine then_ret ?_
      refine then_ret ?_
      refine blk_ret ?_
      refine then_ret ?_
      exact ret1 hs rfl (rv_tmp rfl) (hw.ret rfl)
    · have hsh := ite_f hsh h169
      refine wp_skip ?_
      refine blk_normal ?_
      refine then_normal ?_
      refine wp_region_lit ?_
      refine st_val hs (y_add rfl rfl) trivial rfl rfl fun a hs => ?_
      refine st_val hs (y_move rfl) trivial rfl rfl fun a hs => ?_
      refine wpList_nil ?_
      refine then_normal ?_
      exact ⟨_, (Option.some.inj hsh).symm, Sv164, (hs.wk rfl), (hw.ft [] [] (by decide) rfl rfl)⟩
  · have hsh := ite_f hsh h149
    obtain ⟨rv173, hsh, h174⟩ := map_t hsh
    have h174 := hd144 _ h174.symm
    subst h174
    refine wp_exit ?_
    refine then_exit ?_
    refine then_exit ?_
    refine blk_exit ?_
    refine then_normal ?_
    refine wp_seq ?_
    refine wp_region_lit ?_
    refine st_val hs (y_move rfl) trivial rfl rfl fun a hs => ?_
    refine st_val hs (y_lenS Try.runUnderlying9 rfl) trivial rfl rfl fun a hs => ?_
    refine st_val hs (y_move rfl) trivial rfl rfl fun a hs => ?_
    refine st_val hs (y_geq rfl rfl) trivial rfl rfl fun a hs => ?_
    refine st_val hs (y_move rfl) trivial rfl rfl fun a hs => ?_
    refine wpl_join 5 (fun a w1 => w = w1 ∧ Sl 29 [(28, .bool ((decide (low2 ≤ (s1.size : Int))) && (decide ((s1.size : Int) ≤ high3))))] a) ?_ ?_
    · rcases Bool.eq_false_or_eq_true (decide (low2 ≤ (s1.size : Int))) with h171 | h171
      · have hs := hs.fix 23 (.bool true) rfl (vb h171)
        refine st_val hs (y_move rfl) ⟨_, rfl, rfl⟩ rfl rfl fun a hs => ?_
        refine st_val hs (y_lenS Try.runUnderlying9 rfl) ⟨_, rfl, rfl⟩ rfl rfl fun a hs => ?_
        refine st_val hs (y_move rfl) ⟨_, rfl, rfl⟩ rfl rfl fun a hs => ?_
        refine st_val hs (y_leq rfl rfl) ⟨_, rfl, rfl⟩ rfl rfl fun a hs => ?_
        refine st_val hs (y_pickT rfl rfl) trivial rfl rfl fun a hs => ?_
        refine wpList_nil ?_
        refine then_normal ?_
        exact ⟨rfl, (hs.fix 28 (.bool ((decide (low2 ≤ (s1.size : Int))) && (decide ((s1.size : Int) ≤ high3)))) rfl (and_t h171)).weaken _ ⟨rfl, trivial⟩⟩
      · have hs := hs.fix 23 (.bool false) rfl (vb h171)
        refine st_skip hs rfl rfl rfl rfl rfl fun a hs => ?_
        refine st_skip hs rfl rfl rfl rfl rfl fun a hs => ?_
        refine st_skip hs rfl rfl rfl rfl rfl fun a hs => ?_
        refine st_skip hs rfl rfl rfl rfl rfl fun a hs => ?_
        refine st_val hs (y_pickF rfl rfl) trivial rfl rfl fun a hs => ?_
        refine wpList_nil ?_
        refine then_normal ?_
        exact ⟨rfl, (hs.fix 28 (.bool ((decide (low2 ≤ (s1.size : Int))) && (decide ((s1.size : Int) ≤ high3)))) rfl (and_f h171)).weaken _ ⟨rfl, trivial⟩⟩
    · rintro a w1 ⟨h172, hs⟩
      subst h172
      refine st_val hs (y_assign rfl) trivial rfl rfl fun a hs => ?_
      refine wpList_nil ?_
      refine then_normal ?_
      have hsh := Option.some.inj hsh
      subst hsh
      refine wp_ret ?_
      exact ret1 hs rfl (rv_tmp rfl) (hw.ret rfl)

abbrev source_Valid_rd (w0 : World) (r : Bool) : (Nat → Prop) → World → Value → Prop := fun S w v => v = .bool r
set_option maxHeartbeats 4000000 in
set_option maxRecDepth 100000 in
theorem source_Valid_ok {w0 : World} {S0 : Nat → Prop} {s1 : SourceID} {r : Bool} (hsh : source_Valid s1 = some r) (hS : ∀ b, S0 b → b < w0.heap.size) : Calls Try.prog 76 #[.agg #[.string s1.Network, .string s1.Station, .string s1.Location, .string s1.Channel]] w0 (Ret [] w0 S0 (source_Valid_rd w0 r)) := by
  refine calls_of_wp Try.func76 rfl ?_
  have hs := Sl.enter #[.agg #[.string s1.Network, .string s1.Station, .string s1.Location, .string s1.Channel]] 27 [(0, .agg #[.string s1.Network, .string s1.Station, .string s1.Location, .string s1.Channel])] rfl ⟨rfl, trivial⟩
  have hw := Wd.enter (E := []) hS (fun _ h => (by cases h))
  delta source_Valid at hsh
  refine wp_seq ?_
  refine wp_region_lit ?_
  refine w_box (cs := [.string s1.Network, .string s1.Station, .string s1.Location, .string s1.Channel]) hs hw rfl rfl rfl trivial ?_
  intro b2 a w hs hw
  refine st_val hs (y_assign rfl) trivial rfl rfl fun a hs => ?_
  refine wpList_nil ?_
  refine then_normal ?_
  refine wp_seq ?_
  refine wp_region_lit ?_
  refine st_val hs (y_fieldAddr (o' := 0) Try.runUnderlying96 rfl Try.sizeOf9 rfl rfl rfl) trivial rfl rfl fun a hs => ?_
  refine st_val hs (y_loadB1 (hw.ownAt 0 rfl) rfl Try.isAgg9 rfl) trivial rfl rfl fun a hs => ?_
  obtain ⟨rv4, h3, hsh⟩ := bind_t hsh
  refine st_callR hs (source_code_ok h3 hw.dom) (do_call Try.call79 rfl) trivial rfl rfl ?_
  intro v8 Sv5 w a h6 h7 hs
  subst h7
  have hw := hw.call h6
  refine st_val hs (y_move rfl) trivial rfl rfl fun a hs => ?_
  obtain ⟨c16, hc16, hsh⟩ := bind_t hsh
  refine wpl_join 4 (fun a w => ∃ (Sv17 : Nat → Prop), Sl 27 [(1, .pointer (some ⟨b2, 0, none⟩)), (10, .bool c16)] a ∧ Wd ⟨w0, S0, []⟩ Sv17 [.box b2 [.string s1.Network, .string s1.Station, .string s1.Location, .string s1.Channel] 96] [] w) ?_ ?_
  · rcases Bool.eq_false_or_eq_true rv4 with h15 | h15
    · have hs := hs.fix 6 (.bool true) rfl (vb h15)
      have hsh := ite_t hc16 h15
      refine st_val hs (y_fieldAddr (o' := 1) Try.runUnderlying96 rfl Try.sizeOf9 rfl rfl rfl) ⟨_, rfl, rfl⟩ rfl rfl fun a hs => ?_
      refine st_val hs (y_loadB1 (hw.ownAt 0 rfl) rfl Try.isAgg9 rfl) ⟨_, rfl, rfl⟩ rfl rfl fun a hs => ?_
      obtain ⟨rv19, h18, hsh⟩ := bind_t hsh
      refine st_callR hs (source_code_ok h18 hw.dom) (do_call Try.call79 rfl) ⟨_, rfl, rfl⟩ rfl rfl ?_
      intro v23 Sv20 w a h21 h22 hs
      subst h22
      have hw := hw.call h21
      refine st_val hs (y_pickT rfl rfl) trivial rfl rfl fun a hs => ?_
      refine wpList_nil ?_
      have hsh := Option.some.inj hsh
      subst hsh
      refine then_normal ?_
      exact ⟨Sv20, (hs.wk rfl), (hw.ft [0] [] (by decide) rfl rfl)⟩
    · have hs := hs.fix 6 (.bool false) rfl (vb h15)
      have hsh := ite_f hc16 h15
      refine st_skip hs rfl rfl rfl rfl rfl fun a hs => ?_
      refine st_skip hs rfl rfl rfl rfl rfl fun a hs => ?_
      refine st_skip hs rfl rfl rfl rfl rfl fun a hs => ?_
      refine st_val hs (y_pickF rfl rfl) trivial rfl rfl fun a hs => ?_
      refine wpList_nil ?_
      have hsh := Option.some.inj hsh
      subst hsh
      refine then_normal ?_
      exact ⟨Sv5, (hs.wk rfl), (hw.ft [0] [] (by decide) rfl rfl)⟩
  · rintro a w ⟨Sv17, hs, hw⟩
    refine st_val hs (y_move rfl) trivial rfl rfl fun a hs => ?_
    obtain ⟨c31, hc31, hsh⟩ := bind_t hsh
    refine wpl_join 4 (fun a w => ∃ (Sv32 : Nat → Prop), Sl 27 [(1, .pointer (some ⟨b2, 0, none⟩)), (15, .bool c31)] a ∧ Wd ⟨w0, S0, []⟩ Sv32 [.box b2 [.string s1.Network, .string s1.Station, .string s1.Location, .string s1.Channel] 96] [] w) ?_ ?_
    · rcases Bool.eq_false_or_eq_true c16 with h30 | h30
      · have hs := hs.fix 11 (.bool true) rfl (vb h30)
        have hsh := ite_t hc31 h30
        refine st_val hs (y_fieldAddr (o' := 2) Try.runUnderlying96 rfl Try.sizeOf9 rfl rfl rfl) ⟨_, rfl, rfl⟩ rfl rfl fun a hs => ?_
        refine st_val hs (y_loadB1 (hw.ownAt 0 rfl) rfl Try.isAgg9 rfl) ⟨_, rfl, rfl⟩ rfl rfl fun a hs => ?_
        obtain ⟨rv34, h33, hsh⟩ := bind_t hsh
        refine st_callR hs (source_code_ok h33 hw.dom) (do_call Try.call79 rfl) ⟨_, rfl, rfl⟩ rfl rfl ?_
        intro v38 Sv35 w a h36 h37 hs
        subst h37
        have hw := hw.call h36
        refine st_val hs (y_pickT rfl rfl) trivial rfl rfl fun a hs => ?_
        refine wpList_nil ?_
        have hsh := Option.some.inj hsh
        subst hsh
        refine then_normal ?_
        exact ⟨Sv35, (hs.wk rfl), (hw.ft [0] [] (by decide) rfl rfl)⟩
      · have hs := hs.fix 11 (.bool false) rfl (vb h30)
        have hsh := ite_f hc31 h30
        refine st_skip hs rfl rfl rfl rfl rfl fun a hs => ?_
        refine st_skip hs rfl rfl rfl rfl rfl fun a hs => ?_
        refine st_skip hs rfl rfl rfl rfl rfl fun a hs => ?_
        refine st_val hs (y_pickF rfl rfl) trivial rfl rfl fun a hs => ?_
        refine wpList_nil ?_
        have hsh := Option.some.inj hsh
        subst hsh
        refine then_normal ?_
        exact ⟨Sv17, (hs.wk rfl), (hw.ft [0] [] (by decide) rfl rfl)⟩
    · rintro a w ⟨Sv32, hs, hw⟩
      refine st_val hs (y_move rfl) trivial rfl rfl fun a hs => ?_
      refine wpl_join 5 (fun a w1 => w = w1 ∧ Sl 27 [(1, .pointer (some ⟨b2, 0, none⟩)), (21, .bool (c31 && ((s1.Location.size : Int) != 1)))] a) ?_ ?_
      · rcases Bool.eq_false_or_eq_true c31 with h39 | h39
        · have hs := hs.fix 16 (.bool true) rfl (vb h39)
          refine st_val hs (y_fieldAddr (o' := 2) Try.runUnderlying96 rfl Try.sizeOf9 rfl rfl rfl) ⟨_, rfl, rfl⟩ rfl rfl fun a hs => ?_
          refine st_val hs (y_loadB1 (hw.ownAt 0 rfl) rfl Try.isAgg9 rfl) ⟨_, rfl, rfl⟩ rfl rfl fun a hs => ?_
          refine st_val hs (y_lenS Try.runUnderlying9 rfl) ⟨_, rfl, rfl⟩ rfl rfl fun a hs => ?_
          refine st_val hs (y_neq rfl rfl) ⟨_, rfl, rfl⟩ rfl rfl fun a hs => ?_
          refine st_val hs (y_pickT rfl rfl) trivial rfl rfl fun a hs => ?_
          refine wpList_nil ?_
          refine then_normal ?_
          exact ⟨rfl, (hs.fix 21 (.bool (c31 && ((s1.Location.size : Int) != 1))) rfl (and_t h39)).weaken _ ⟨rfl, rfl, trivial⟩⟩
        · have hs := hs.fix 16 (.bool false) rfl (vb h39)
          refine st_skip hs rfl rfl rfl rfl rfl fun a hs => ?_
          refine st_skip hs rfl rfl rfl rfl rfl fun a hs => ?_
          refine st_skip hs rfl rfl rfl rfl rfl fun a hs => ?_
          refine st_skip hs rfl rfl rfl rfl rfl fun a hs => ?_
          refine st_val hs (y_pickF rfl rfl) trivial rfl rfl fun a hs => ?_
          refine wpList_nil ?_
          refine then_normal ?_
          exact ⟨rfl, (hs.fix 21 (.bool (c31 && ((s1.Location.size : Int) != 1))) rfl (and_f h39)).weaken _ ⟨rfl, rfl, trivial⟩⟩
      · rintro a w1 ⟨h55, hs⟩
        subst h55
        refine st_val hs (y_move rfl) trivial rfl rfl fun a hs => ?_
        obtain ⟨c47, hc47, hsh⟩ := bind_t hsh
        refine wpl_join 4 (fun a w => ∃ (Sv48 : Nat → Prop), Sl 27 [(26, .bool c47)] a ∧ Wd ⟨w0, S0, []⟩ Sv48 [] [] w) ?_ ?_
        · rcases Bool.eq_false_or_eq_true (c31 && ((s1.Location.size : Int) != 1)) with h46 | h46
          · have hs := hs.fix 22 (.bool true) rfl (vb h46)
            have hsh := ite_t hc47 h46
            refine st_val hs (y_fieldAddr (o' := 3) Try.runUnderlying96 rfl Try.sizeOf9 rfl rfl rfl) ⟨_, rfl, rfl⟩ rfl rfl fun a hs => ?_
            refine st_val hs (y_loadB1 (hw.ownAt 0 rfl) rfl Try.isAgg9 rfl) ⟨_, rfl, rfl⟩ rfl rfl fun a hs => ?_
            obtain ⟨rv50, h49, hsh⟩ := bind_t hsh
            refine st_callR hs (source_code_ok h49 hw.dom) (do_call Try.call79 rfl) ⟨_, rfl, rfl⟩ rfl rfl ?_
            intro v54 Sv51 w a h52 h53 hs
            subst h53
            have hw := hw.call h52
            refine st_val hs (y_pickT rfl rfl) trivial rfl rfl fun a hs => ?_
            refine wpList_nil ?_
            have hsh := Option.some.inj hsh
            subst hsh
            refine then_normal ?_
            exact ⟨Sv51, (hs.wk rfl), (hw.ft [] [] (by decide) rfl rfl)⟩
          · have hs := hs.fix 22 (.bool false) rfl (vb h46)
            have hsh := ite_f hc47 h46
            refine st_skip hs rfl rfl rfl rfl rfl fun a hs => ?_
            refine st_skip hs rfl rfl rfl rfl rfl fun a hs => ?_
            refine st_skip hs rfl rfl rfl rfl rfl fun a hs => ?_
            refine st_val hs (y_pickF rfl rfl) trivial rfl rfl fun a hs => ?_
            refine wpList_nil ?_
            have hsh := Option.some.inj hsh
            subst hsh
            refine then_normal ?_
            exact ⟨Sv32, (hs.wk rfl), (hw.ft [] [] (by decide) rfl rfl)⟩
        · rintro a w ⟨Sv48, hs, hw⟩
          refine st_val hs (y_assign rfl) trivial rfl rfl fun a hs => ?_
          refine wpList_nil ?_
          refine then_normal ?_
          have hsh := Option.some.inj hsh
          subst hsh
          refine wp_ret ?_
          exact ret1 hs rfl (rv_tmp rfl) (hw.ret rfl)

abbrev record_in_rd (w0 : World) (r : Bool) : (Nat → Prop) → World → Value → Prop := fun S w v => v = .bool r
set_option maxHeartbeats 4000000 in
set_option maxRecDepth 100000 in
theorem record_in_ok {w0 : World} {S0 : Nat → Prop} {n1 : Int} {low2 : Int} {high3 : Int} {r : Bool} (hsh : record_in n1 low2 high3 = some r) (hS : ∀ b, S0 b → b < w0.heap.size) : Calls Try.prog 77 #[.int .i64 n1, .int .i64 low2, .int .i64 high3] w0 (Ret [] w0 S0 (record_in_rd w0 r)) := by
  refine calls_of_wp Try.func77 rfl ?_
  have hs := Sl.enter #[.int .i64 n1, .int .i64 low2, .int .i64 high3] 15 [(0, .int .i64 n1), (1, .int .i64 low2), (2, .int .i64 high3)] rfl ⟨rfl, rfl, rfl, trivial⟩
  have hw := Wd.enter (E := []) hS (fun _ h => (by cases h))
  delta record_in at hsh
  refine wp_seq ?_
  refine wp_region_lit ?_
  refine st_val hs (y_assign rfl) trivial rfl rfl fun a hs => ?_
  refine wpList_nil ?_
  refine then_normal ?_
  refine wp_seq ?_
  refine wp_region_lit ?_
  refine st_val hs (y_move rfl) trivial rfl rfl fun a hs => ?_
  refine st_val hs (y_move rfl) trivial rfl rfl fun a hs => ?_
  refine st_val hs (y_geq rfl rfl) trivial rfl rfl fun a hs => ?_
  refine st_val hs (y_move rfl) trivial rfl rfl fun a hs => ?_
  refine wpl_join 4 (fun a w1 => w0 = w1 ∧ Sl 15 [(14, .bool ((decide (low2 ≤ n1)) && (decide (n1 ≤ high3))))] a) ?_ ?_
  · rcases Bool.eq_false_or_eq_true (decide (low2 ≤ n1)) with h4 | h4
    · have hs := hs.fix 10 (.bool true) rfl (vb h4)
      refine st_val hs (y_move rfl) ⟨_, rfl, rfl⟩ rfl rfl fun a hs => ?_
      refine st_val hs (y_move rfl) ⟨_, rfl, rfl⟩ rfl rfl fun a hs => ?_
      refine st_val hs (y_leq rfl rfl) ⟨_, rfl, rfl⟩ rfl rfl fun a hs => ?_
      refine st_val hs (y_pickT rfl rfl) trivial rfl rfl fun a hs => ?_
      refine wpList_nil ?_
      refine then_normal ?_
      exact ⟨rfl, (hs.fix 14 (.bool ((decide (low2 ≤ n1)) && (decide (n1 ≤ high3)))) rfl (and_t h4)).weaken _ ⟨rfl, trivial⟩⟩
    · have hs := hs.fix 10 (.bool false) rfl (vb h4)
      refine st_skip hs rfl rfl rfl rfl rfl fun a hs => ?_
      refine st_skip hs rfl rfl rfl rfl rfl fun a hs => ?_
      refine st_skip hs rfl rfl rfl rfl rfl fun a hs => ?_
      refine st_val hs (y_pickF rfl rfl) trivial rfl rfl fun a hs => ?_
      refine wpList_nil ?_
      refine then_normal ?_
      exact ⟨rfl, (hs.fix 14 (.bool ((decide (low2 ≤ n1)) && (decide (n1 ≤ high3)))) rfl (and_f h4)).weaken _ ⟨rfl, trivial⟩⟩
  · rintro a w1 ⟨h5, hs⟩
    subst h5
    refine st_val hs (y_assign rfl) trivial rfl rfl fun a hs => ?_
    refine wpList_nil ?_
    refine then_normal ?_
    have hsh := Option.some.inj hsh
    subst hsh
    refine wp_ret ?_
    exact ret1 hs rfl (rv_tmp rfl) (hw.ret rfl)

abbrev rate_in_rd (w0 : World) (r : Bool) : (Nat → Prop) → World → Value → Prop := fun S w v => v = .bool r
set_option maxHeartbeats 4000000 in
set_option maxRecDepth 100000 in
theorem rate_in_ok {w0 : World} {S0 : Nat → Prop} {n1 : Int} {low2 : Int} {high3 : Int} {r : Bool} (hsh : rate_in n1 low2 high3 = some r) (hS : ∀ b, S0 b → b < w0.heap.size) : Calls Try.prog 66 #[.int .i64 n1, .int .i64 low2, .int .i64 high3] w0 (Ret [] w0 S0 (rate_in_rd w0 r)) := by
  refine calls_of_wp Try.func66 rfl ?_
  have hs := Sl.enter #[.int .i64 n1, .int .i64 low2, .int .i64 high3] 15 [(0, .int .i64 n1), (1, .int .i64 low2), (2, .int .i64 high3)] rfl ⟨rfl, rfl, rfl, trivial⟩
  have hw := Wd.enter (E := []) hS (fun _ h => (by cases h))
  delta rate_in at hsh
  refine wp_seq ?_
  refine wp_region_lit ?_
  refine st_val hs (y_assign rfl) trivial rfl rfl fun a hs => ?_
  refine wpList_nil ?_
  refine then_normal ?_
  refine wp_seq ?_
  refine wp_region_lit ?_
  refine st_val hs (y_move rfl) trivial rfl rfl fun a hs => ?_
  refine st_val hs (y_move rfl) trivial rfl rfl fun a hs => ?_
  refine st_val hs (y_geq rfl rfl) trivial rfl rfl fun a hs => ?_
  refine st_val hs (y_move rfl) trivial rfl rfl fun a hs => ?_
  refine wpl_join 4 (fun a w1 => w0 = w1 ∧ Sl 15 [(14, .bool ((decide (low2 ≤ n1)) && (decide (n1 ≤ high3))))] a) ?_ ?_
  · rcases Bool.eq_false_or_eq_true (decide (low2 ≤ n1)) with h4 | h4
    · have hs := hs.fix 10 (.bool true) rfl (vb h4)
      refine st_val hs (y_move rfl) ⟨_, rfl, rfl⟩ rfl rfl fun a hs => ?_
      refine st_val hs (y_move rfl) ⟨_, rfl, rfl⟩ rfl rfl fun a hs => ?_
      refine st_val hs (y_leq rfl rfl) ⟨_, rfl, rfl⟩ rfl rfl fun a hs => ?_
      refine st_val hs (y_pickT rfl rfl) trivial rfl rfl fun a hs => ?_
      refine wpList_nil ?_
      refine then_normal ?_
      exact ⟨rfl, (hs.fix 14 (.bool ((decide (low2 ≤ n1)) && (decide (n1 ≤ high3)))) rfl (and_t h4)).weaken _ ⟨rfl, trivial⟩⟩
    · have hs := hs.fix 10 (.bool false) rfl (vb h4)
      refine st_skip hs rfl rfl rfl rfl rfl fun a hs => ?_
      refine st_skip hs rfl rfl rfl rfl rfl fun a hs => ?_
      refine st_skip hs rfl rfl rfl rfl rfl fun a hs => ?_
      refine st_val hs (y_pickF rfl rfl) trivial rfl rfl fun a hs => ?_
      refine wpList_nil ?_
      refine then_normal ?_
      exact ⟨rfl, (hs.fix 14 (.bool ((decide (low2 ≤ n1)) && (decide (n1 ≤ high3)))) rfl (and_f h4)).weaken _ ⟨rfl, trivial⟩⟩
  · rintro a w1 ⟨h5, hs⟩
    subst h5
    refine st_val hs (y_assign rfl) trivial rfl rfl fun a hs => ?_
    refine wpList_nil ?_
    refine then_normal ?_
    have hsh := Option.some.inj hsh
    subst hsh
    refine wp_ret ?_
    exact ret1 hs rfl (rv_tmp rfl) (hw.ret rfl)

abbrev rate_gcd_rd (w0 : World) (r : Int) : (Nat → Prop) → World → Value → Prop := fun S w v => v = .int .i64 r
set_option maxHeartbeats 4000000 in
set_option maxRecDepth 100000 in
theorem rate_gcd_ok {w0 : World} {S0 : Nat → Prop} {a1 : Int} {b2 : Int} {r : Int} (hsh : rate_gcd a1 b2 = some r) (hS : ∀ b, S0 b → b < w0.heap.size) : Calls Try.prog 67 #[.int .i64 a1, .int .i64 b2] w0 (Ret [] w0 S0 (rate_gcd_rd w0 r)) := by
  refine calls_of_wp Try.func67 rfl ?_
  have hs := Sl.enter #[.int .i64 a1, .int .i64 b2] 12 [(0, .int .i64 a1), (1, .int .i64 b2)] rfl ⟨rfl, rfl, trivial⟩
  have hw := Wd.enter (E := []) hS (fun _ h => (by cases h))
  delta rate_gcd at hsh
  refine wp_seq ?_
  refine wp_region_lit ?_
  refine st_val hs (y_assign rfl) trivial rfl rfl fun a hs => ?_
  refine wpList_nil ?_
  refine then_normal ?_
  refine wp_seq ?_
  obtain ⟨e33, h44, hsh⟩ := bind_t hsh
  refine wp_join (fun a w => ∃ (Sv34 : Nat → Prop), Sl 12 [(0, .int .i64 e33)] a ∧ Wd ⟨w0, S0, []⟩ Sv34 [] [] w) ?_ ?_
  · refine wp_block ?_
    refine wp_while (fun sv3 a w => ∃ (Sv21 : Nat → Prop), Sl 12 [(0, .int .i64 sv3.1), (1, .int .i64 sv3.2)] a ∧ Wd ⟨w0, S0, []⟩ Sv21 [] [] w) (a1, b2) h44 ⟨S0, (hs.wk rfl), (hw.ft [] [] (by decide) rfl rfl)⟩ ?_
    clear h44
    repeat clear hsh
    rintro sv3 a w tv31 ⟨Sv21, hs, hw⟩ hsh hd30
    delta rate_gcd_l1 at hsh
    refine wp_seq ?_
    refine wp_seq ?_
    refine wp_region_lit ?_
    refine st_val hs (y_move rfl) trivial rfl rfl fun a hs => ?_
    refine st_val hs (y_neq rfl rfl) trivial rfl rfl fun a hs => ?_
    refine wpList_nil ?_
    refine then_normal ?_
    refine wp_cond_split (hs.ev rfl) (fun h36 => ?_) (fun h36 => ?_)
    · have hsh := ite_t hsh h36
      refine wp_skip ?_
      refine then_normal ?_
      refine wp_block ?_
      obtain ⟨rem41, h40, hsh⟩ := bind_t hsh
      refine wp_only (fun a w => ∃ (Sv42 : Nat → Prop), Sl 12 [(0, .int .i64 sv3.2), (1, .int .i64 rem41)] a ∧ Wd ⟨w0, S0, []⟩ Sv42 [] [] w) ?_ ?_
      · refine h_begin (C := Cls [] []) (by kernel_rfl) rfl ?_
        have hw := hw.drew
        have hC : Cls [] [] _ := hw.cs [] [] rfl rfl
        refine h_get hs (i := 0) rfl (by kernel_rfl) rfl rfl hC rfl (fun w hC => y_move rfl) fun a hs => ?_
        refine h_get hs (i := 1) rfl (by kernel_rfl) rfl rfl hC rfl (fun w hC => y_move rfl) fun a hs => ?_
        refine h_get hs (i := 2) rfl (by kernel_rfl) rfl rfl hC rfl (fun w hC => y_move rfl) fun a hs => ?_
        refine h_get hs (i := 3) rfl (by kernel_rfl) rfl rfl hC rfl (fun w hC => y_remM rfl rfl h40) fun a hs => ?_
        refine h_get hs (i := 4) rfl (by kernel_rfl) rfl rfl hC rfl (fun w hC => y_assign rfl) fun a hs => ?_
        refine h_get hs (i := 5) rfl (by kernel_rfl) rfl rfl hC rfl (fun w hC => y_assign rfl) fun a hs => ?_
        refine h_done (by kernel_rfl) ?_
        exact ⟨Sv21, (hs.wk rfl), (hw.ft [] [] (by decide) rfl rfl)⟩
      · rintro a w ⟨Sv42, hs, hw⟩
        refine blk_normal ?_
        refine then_normal ?_
        exact ⟨_, (Option.some.inj hsh).symm, Sv42, (hs.wk rfl), (hw.ft [] [] (by decide) rfl rfl)⟩
    · have hsh := ite_f hsh h36
      refine wp_exit ?_
      refine then_exit ?_
      refine then_exit ?_
      refine blk_exit ?_
      have hsh := Option.some.inj hsh
      subst hsh
      have h43 := hd30 _ rfl
      subst h43
      refine then_normal ?_
      exact ⟨Sv21, (hs.wk rfl), (hw.ft [] [] (by decide) rfl rfl)⟩
  · rintro a w ⟨Sv34, hs, hw⟩
    refine then_normal ?_
    refine wp_seq ?_
    refine wp_region_lit ?_
    refine st_val hs (y_move rfl) trivial rfl rfl fun a hs => ?_
    refine st_val hs (y_assign rfl) trivial rfl rfl fun a hs => ?_
    refine wpList_nil ?_
    refine then_normal ?_
    have hsh := Option.some.inj hsh
    subst hsh
    refine wp_ret ?_
    exact ret1 hs rfl (rv_tmp rfl) (hw.ret rfl)

abbrev rate_Valid_rd (w0 : World) (r : Bool) : (Nat → Prop) → World → Value → Prop := fun S w v => v = .bool r
set_option maxHeartbeats 4000000 in
set_option maxRecDepth 100000 in
theorem rate_Valid_ok {w0 : World} {S0 : Nat → Prop} {r1 : Rate} {r : Bool} (hsh : rate_Valid r1 = some r) (hS : ∀ b, S0 b → b < w0.heap.size) : Calls Try.prog 65 #[.agg #[.int .i64 r1.Num, .int .i64 r1.Den]] w0 (Ret [] w0 S0 (rate_Valid_rd w0 r)) := by
  refine calls_of_wp Try.func65 rfl ?_
  have hs := Sl.enter #[.agg #[.int .i64 r1.Num, .int .i64 r1.Den]] 19 [(0, .agg #[.int .i64 r1.Num, .int .i64 r1.Den])] rfl ⟨rfl, trivial⟩
  have hw := Wd.enter (E := []) hS (fun _ h => (by cases h))
  delta rate_Valid at hsh
  refine wp_seq ?_
  refine wp_region_lit ?_
  refine w_box (cs := [.int .i64 r1.Num, .int .i64 r1.Den]) hs hw rfl rfl rfl trivial ?_
  intro b2 a w hs hw
  refine st_val hs (y_assign rfl) trivial rfl rfl fun a hs => ?_
  refine wpList_nil ?_
  refine then_normal ?_
  refine wp_seq ?_
  refine wp_region_lit ?_
  refine st_val hs (y_fieldAddr (o' := 0) Try.runUnderlying60 rfl Try.sizeOf3 rfl rfl rfl) trivial rfl rfl fun a hs => ?_
  refine st_val hs (y_loadB1 (hw.ownAt 0 rfl) rfl Try.isAgg3 rfl) trivial rfl rfl fun a hs => ?_
  obtain ⟨rv4, h3, hsh⟩ := bind_t hsh
  refine st_callR hs (rate_in_ok h3 hw.dom) (do_call Try.call66 rfl) trivial rfl rfl ?_
  intro v8 Sv5 w a h6 h7 hs
  subst h7
  have hw := hw.call h6
  refine st_val hs (y_move rfl) trivial rfl rfl fun a hs => ?_
  obtain ⟨c16, hc16, hsh⟩ := bind_t hsh
  refine wpl_join 4 (fun a w => ∃ (Sv17 : Nat → Prop), Sl 19 [(1, .pointer (some ⟨b2, 0, none⟩)), (10, .bool c16)] a ∧ Wd ⟨w0, S0, []⟩ Sv17 [.box b2 [.int .i64 r1.Num, .int .i64 r1.Den] 60] [] w) ?_ ?_
  · rcases Bool.eq_false_or_eq_true rv4 with h15 | h15
    · have hs := hs.fix 6 (.bool true) rfl (vb h15)
      have hsh := ite_t hc16 h15
      refine st_val hs (y_fieldAddr (o' := 1) Try.runUnderlying60 rfl Try.sizeOf3 rfl rfl rfl) ⟨_, rfl, rfl⟩ rfl rfl fun a hs => ?_
      refine st_val hs (y_loadB1 (hw.ownAt 0 rfl) rfl Try.isAgg3 rfl) ⟨_, rfl, rfl⟩ rfl rfl fun a hs => ?_
      obtain ⟨rv19, h18, hsh⟩ := bind_t hsh
      refine st_callR hs (rate_in_ok h18 hw.dom) (do_call Try.call66 rfl) ⟨_, rfl, rfl⟩ rfl rfl ?_
      intro v23 Sv20 w a h21 h22 hs
      subst h22
      have hw := hw.call h21
      refine st_val hs (y_pickT rfl rfl) trivial rfl rfl fun a hs => ?_
      refine wpList_nil ?_
      have hsh := Option.some.inj hsh
      subst hsh
      refine then_normal ?_
      exact ⟨Sv20, (hs.wk rfl), (hw.ft [0] [] (by decide) rfl rfl)⟩
    · have hs := hs.fix 6 (.bool false) rfl (vb h15)
      have hsh := ite_f hc16 h15
      refine st_skip hs rfl rfl rfl rfl rfl fun a hs => ?_
      refine st_skip hs rfl rfl rfl rfl rfl fun a hs => ?_
      refine st_skip hs rfl rfl rfl rfl rfl fun a hs => ?_
      refine st_val hs (y_pickF rfl rfl) trivial rfl rfl fun a hs => ?_
      refine wpList_nil ?_
      have hsh := Option.some.inj hsh
      subst hsh
      refine then_normal ?_
      exact ⟨Sv5, (hs.wk rfl), (hw.ft [0] [] (by decide) rfl rfl)⟩
  · rintro a w ⟨Sv17, hs, hw⟩
    refine st_val hs (y_move rfl) trivial rfl rfl fun a hs => ?_
    obtain ⟨c31, hc31, hsh⟩ := bind_t hsh
    refine wpl_join 7 (fun a w => ∃ (Sv32 : Nat → Prop), Sl 19 [(18, .bool c31)] a ∧ Wd ⟨w0, S0, []⟩ Sv32 [] [] w) ?_ ?_
    · rcases Bool.eq_false_or_eq_true c16 with h30 | h30
      · have hs := hs.fix 11 (.bool true) rfl (vb h30)
        have hsh := ite_t hc31 h30
        refine st_val hs (y_fieldAddr (o' := 0) Try.runUnderlying60 rfl Try.sizeOf3 rfl rfl rfl) ⟨_, rfl, rfl⟩ rfl rfl fun a hs => ?_
        refine st_val hs (y_loadB1 (hw.ownAt 0 rfl) rfl Try.isAgg3 rfl) ⟨_, rfl, rfl⟩ rfl rfl fun a hs => ?_
        refine st_val hs (y_fieldAddr (o' := 1) Try.runUnderlying60 rfl Try.sizeOf3 rfl rfl rfl) ⟨_, rfl, rfl⟩ rfl rfl fun a hs => ?_
        refine st_val hs (y_loadB1 (hw.ownAt 0 rfl) rfl Try.isAgg3 rfl) ⟨_, rfl, rfl⟩ rfl rfl fun a hs => ?_
        obtain ⟨rv34, h33, hsh⟩ := bind_t hsh
        refine st_callR hs (rate_gcd_ok h33 hw.dom) (do_call Try.call67 rfl) ⟨_, rfl, rfl⟩ rfl rfl ?_
        intro v38 Sv35 w a h36 h37 hs
        subst h37
        have hw := hw.call h36
        refine st_val hs (y_eql rfl rfl) ⟨_, rfl, rfl⟩ rfl rfl fun a hs => ?_
        refine st_val hs (y_pickT rfl rfl) trivial rfl rfl fun a hs => ?_
        refine wpList_nil ?_
        have hsh := Option.some.inj hsh
        subst hsh
        refine then_normal ?_
        exact ⟨Sv35, (hs.wk rfl), (hw.ft [] [] (by decide) rfl rfl)⟩
      · have hs := hs.fix 11 (.bool false) rfl (vb h30)
        have hsh := ite_f hc31 h30
        refine st_skip hs rfl rfl rfl rfl rfl fun a hs => ?_
        refine st_skip hs rfl rfl rfl rfl rfl fun a hs => ?_
        refine st_skip hs rfl rfl rfl rfl rfl fun a hs => ?_
        refine st_skip hs rfl rfl rfl rfl rfl fun a hs => ?_
        refine st_skip hs rfl rfl rfl rfl rfl fun a hs => ?_
        refine st_skip hs rfl rfl rfl rfl rfl fun a hs => ?_
        refine st_val hs (y_pickF rfl rfl) trivial rfl rfl fun a hs => ?_
        refine wpList_nil ?_
        have hsh := Option.some.inj hsh
        subst hsh
        refine then_normal ?_
        exact ⟨Sv17, (hs.wk rfl), (hw.ft [] [] (by decide) rfl rfl)⟩
    · rintro a w ⟨Sv32, hs, hw⟩
      refine st_val hs (y_assign rfl) trivial rfl rfl fun a hs => ?_
      refine wpList_nil ?_
      refine then_normal ?_
      have hsh := Option.some.inj hsh
      subst hsh
      refine wp_ret ?_
      exact ret1 hs rfl (rv_tmp rfl) (hw.ret rfl)

abbrev rate_micros_rd (w0 : World) (r : Int) : (Nat → Prop) → World → Value → Prop := fun S w v => v = .int .i64 r
set_option maxHeartbeats 4000000 in
set_option maxRecDepth 100000 in
theorem rate_micros_ok {w0 : World} {S0 : Nat → Prop} {r1 : Rate} {r : Int} (hsh : rate_micros r1 = some r) (hS : ∀ b, S0 b → b < w0.heap.size) : Calls Try.prog 69 #[.agg #[.int .i64 r1.Num, .int .i64 r1.Den]] w0 (Ret [] w0 S0 (rate_micros_rd w0 r)) := by
  refine calls_of_wp Try.func69 rfl ?_
  have hs := Sl.enter #[.agg #[.int .i64 r1.Num, .int .i64 r1.Den]] 6 [(0, .agg #[.int .i64 r1.Num, .int .i64 r1.Den])] rfl ⟨rfl, trivial⟩
  have hw := Wd.enter (E := []) hS (fun _ h => (by cases h))
  delta rate_micros at hsh
  refine wp_seq ?_
  refine wp_region_lit ?_
  refine w_box (cs := [.int .i64 r1.Num, .int .i64 r1.Den]) hs hw rfl rfl rfl trivial ?_
  intro b2 a w hs hw
  refine st_val hs (y_assign rfl) trivial rfl rfl fun a hs => ?_
  refine wpList_nil ?_
  refine then_normal ?_
  refine wp_seq ?_
  refine wp_region_lit ?_
  refine st_val hs (y_fieldAddr (o' := 1) Try.runUnderlying60 rfl Try.sizeOf3 rfl rfl rfl) trivial rfl rfl fun a hs => ?_
  refine st_val hs (y_loadB1 (hw.ownAt 0 rfl) rfl Try.isAgg3 rfl) trivial rfl rfl fun a hs => ?_
  refine st_val hs (y_mul rfl rfl) trivial rfl rfl fun a hs => ?_
  obtain ⟨x4, h3, hsh⟩ := bind_t hsh
  refine st_val hs (y_assignI rfl h3) trivial rfl rfl fun a hs => ?_
  refine wpList_nil ?_
  refine then_normal ?_
  have hsh := Option.some.inj hsh
  subst hsh
  refine wp_ret ?_
  exact ret1 hs rfl (rv_tmp rfl) (hw.ret rfl)

abbrev rate_after_rd (w0 : World) (r : Int) : (Nat → Prop) → World → Value → Prop := fun S w v => v = .int .i64 r
set_option maxHeartbeats 4000000 in
set_option maxRecDepth 100000 in
theorem rate_after_ok {w0 : World} {S0 : Nat → Prop} {r1 : Rate} {k2 : Int} {r : Int} (hsh : rate_after r1 k2 = some r) (hS : ∀ b, S0 b → b < w0.heap.size) : Calls Try.prog 68 #[.agg #[.int .i64 r1.Num, .int .i64 r1.Den], .int .i64 k2] w0 (Ret [] w0 S0 (rate_after_rd w0 r)) := by
  refine calls_of_wp Try.func68 rfl ?_
  have hs := Sl.enter #[.agg #[.int .i64 r1.Num, .int .i64 r1.Den], .int .i64 k2] 12 [(0, .agg #[.int .i64 r1.Num, .int .i64 r1.Den]), (1, .int .i64 k2)] rfl ⟨rfl, rfl, trivial⟩
  have hw := Wd.enter (E := []) hS (fun _ h => (by cases h))
  delta rate_after at hsh
  refine wp_seq ?_
  refine wp_region_lit ?_
  refine w_box (cs := [.int .i64 r1.Num, .int .i64 r1.Den]) hs hw rfl rfl rfl trivial ?_
  intro b3 a w hs hw
  refine st_val hs (y_assign rfl) trivial rfl rfl fun a hs => ?_
  refine wpList_nil ?_
  refine then_normal ?_
  refine wp_seq ?_
  obtain ⟨rv5, h4, hsh⟩ := bind_t hsh
  obtain ⟨quo7, h6, hsh⟩ := bind_t hsh
  refine wp_only (fun a w => ∃ (Sv8 : Nat → Prop), Sl 12 [(4, .int .i64 quo7)] a ∧ Wd ⟨w0, S0, []⟩ Sv8 [] [] w) ?_ ?_
  · refine h_begin (C := Cls [.box b3 [.int .i64 r1.Num, .int .i64 r1.Den] 60] []) (by kernel_rfl) rfl ?_
    have hw := hw.drew
    have hC : Cls [.box b3 [.int .i64 r1.Num, .int .i64 r1.Den] 60] [] _ := hw.cs [0] [] rfl rfl
    refine h_get hs (i := 0) rfl (by kernel_rfl) rfl rfl hC rfl (fun w hC => y_move rfl) fun a hs => ?_
    refine h_get hs (i := 1) rfl (by kernel_rfl) rfl rfl hC rfl (fun w hC => y_loadBA (hC.ownAt 0 rfl) rfl Try.isAgg60 Try.sizeOf60 rfl rfl) fun a hs => ?_
    refine h_get hs (i := 4) rfl (by kernel_rfl) rfl rfl hC rfl (fun w hC => y_fieldAddr (o' := 0) Try.runUnderlying60 rfl Try.sizeOf3 rfl rfl rfl) fun a hs => ?_
    refine h_get hs (i := 5) rfl (by kernel_rfl) rfl rfl hC rfl (fun w hC => y_loadB1 (hC.ownAt 0 rfl) rfl Try.isAgg3 rfl) fun a hs => ?_
    refine h_all (rs := [2]) (by kernel_rfl) rfl ?_
    refine AllH.cons rfl ?_ ?_
    · refine st_callR hs (rate_micros_ok h4 hw.dom) (do_call Try.call69 rfl) trivial rfl rfl ?_
      intro v12 Sv9 w a h10 h11 hs
      subst h11
      have hw := hw.call h10
      refine wpList_nil ?_
      refine then_normal ?_
      have hC : Cls [.box b3 [.int .i64 r1.Num, .int .i64 r1.Den] 60] [] _ := hw.cs [0] [] rfl rfl
      refine ⟨hC, ?_⟩
      refine h_get hs (i := 3) rfl (by kernel_rfl) rfl rfl hC rfl (fun w hC => y_mul rfl rfl) fun a hs => ?_
      refine h_get hs (i := 6) rfl (by kernel_rfl) rfl rfl hC rfl (fun w hC => y_quoM rfl rfl h6) fun a hs => ?_
      refine h_get hs (i := 7) rfl (by kernel_rfl) rfl rfl hC rfl (fun w hC => y_assign rfl) fun a hs => ?_
      refine h_done (by kernel_rfl) ?_
      exact ⟨Sv9, (hs.wk rfl), (hw.ft [] [] (by decide) rfl rfl)⟩
    exact AllH.nil
  · rintro a w ⟨Sv8, hs, hw⟩
    refine then_normal ?_
    have hsh := Option.some.inj hsh
    subst hsh
    refine wp_ret ?_
    exact ret1 hs rfl (rv_tmp rfl) (hw.ret rfl)

abbrev rate_Time_rd (w0 : World) (r : (Int × Int)) : (Nat → Prop) → World → Value → Prop := fun S w v => v = .tuple #[.int .i64 r.1, .int .i64 r.2]
set_option maxHeartbeats 4000000 in
set_option maxRecDepth 100000 in
theorem rate_Time_ok {w0 : World} {S0 : Nat → Prop} {start1 : Int} {r2 : Rate} {k3 : Int} {r : (Int × Int)} (hsh : rate_Time start1 r2 k3 = some r) (hS : ∀ b, S0 b → b < w0.heap.size) : Calls Try.prog 50 #[.int .i64 start1, .agg #[.int .i64 r2.Num, .int .i64 r2.Den], .int .i64 k3] w0 (Ret [] w0 S0 (rate_Time_rd w0 r)) := by
  refine calls_of_wp Try.func50 rfl ?_
  have hs := Sl.enter #[.int .i64 start1, .agg #[.int .i64 r2.Num, .int .i64 r2.Den], .int .i64 k3] 24 [(0, .int .i64 start1), (1, .agg #[.int .i64 r2.Num, .int .i64 r2.Den]), (2, .int .i64 k3)] rfl ⟨rfl, rfl, rfl, trivial⟩
  have hw := Wd.enter (E := []) hS (fun _ h => (by cases h))
  delta rate_Time at hsh
  refine wp_seq ?_
  refine wp_region_lit ?_
  refine w_box (cs := [.int .i64 r2.Num, .int .i64 r2.Den]) hs hw rfl rfl rfl trivial ?_
  intro b4 a w hs hw
  refine st_val hs (y_assign rfl) trivial rfl rfl fun a hs => ?_
  refine st_val hs (y_assign rfl) trivial rfl rfl fun a hs => ?_
  refine wpList_nil ?_
  refine then_normal ?_
  refine wp_seq ?_
  refine wp_seq ?_
  refine wp_region_lit ?_
  refine st_val hs (y_loadBA (hw.ownAt 0 rfl) rfl Try.isAgg60 Try.sizeOf60 rfl rfl) trivial rfl rfl fun a hs => ?_
  obtain ⟨rv6, h5, hsh⟩ := bind_t hsh
  refine st_callR hs (rate_Valid_ok h5 hw.dom) (do_call Try.call65 rfl) trivial rfl rfl ?_
  intro v10 Sv7 w a h8 h9 hs
  subst h9
  have hw := hw.call h8
  refine st_val hs (y_not rfl) trivial rfl rfl fun a hs => ?_
  refine wpList_nil ?_
  refine then_normal ?_
  refine wp_cond_split (hs.ev rfl) (fun h12 => ?_) (fun h12 => ?_)
  · have hsh := ite_t hsh h12
    refine wp_seq ?_
    refine wp_region_lit ?_
    refine st_val hs (y_assign rfl) trivial rfl rfl fun a hs => ?_
    refine st_val hs (y_assign rfl) trivial rfl rfl fun a hs => ?_
    refine wpList_nil ?_
    refine then_normal ?_
    have hsh := Option.some.inj hsh
    subst hsh
    refine wp_ret ?_
    refine then_ret ?_
    exact ret2 hs rfl (rv_tmp rfl) (rv_tmp rfl) (hw.ret rfl)
  · have hsh := ite_f hsh h12
    refine wp_skip ?_
    refine then_normal ?_
    refine wp_seq ?_
    refine wp_seq ?_
    refine wp_region_lit ?_
    refine st_val hs (y_move rfl) trivial rfl rfl fun a hs => ?_
    obtain ⟨rv14, h13, hsh⟩ := bind_t hsh
    refine st_callR hs (rate_in_ok h13 hw.dom) (do_call Try.call66 rfl) trivial rfl rfl ?_
    intro v18 Sv15 w a h16 h17 hs
    subst h17
    have hw := hw.call h16
    refine st_val hs (y_not rfl) trivial rfl rfl fun a hs => ?_
    refine st_val hs (y_move rfl) trivial rfl rfl fun a hs => ?_
    obtain ⟨c26, hc26, hsh⟩ := bind_t hsh
    refine wpl_join 4 (fun a w => ∃ (Sv27 : Nat → Prop), Sl 24 [(0, .int .i64 start1), (2, .int .i64 k3), (4, .pointer (some ⟨b4, 0, none⟩)), (18, .bool c26)] a ∧ Wd ⟨w0, S0, []⟩ Sv27 [.box b4 [.int .i64 r2.Num, .int .i64 r2.Den] 60] [] w) ?_ ?_
    · rcases Bool.eq_false_or_eq_true (!rv14) with h25 | h25
      · have hs := hs.fix 14 (.bool true) rfl (vb h25)
        have hsh := ite_t hc26 h25
        refine st_skip hs rfl rfl rfl rfl rfl fun a hs => ?_
        refine st_skip hs rfl rfl rfl rfl rfl fun a hs => ?_
        refine st_skip hs rfl rfl rfl rfl rfl fun a hs => ?_
        refine st_val hs (y_pickT rfl rfl) trivial rfl rfl fun a hs => ?_
        refine wpList_nil ?_
        have hsh := Option.some.inj hsh
        subst hsh
        refine then_normal ?_
        exact ⟨Sv15, (hs.wk rfl), (hw.ft [0] [] (by decide) rfl rfl)⟩
      · have hs := hs.fix 14 (.bool false) rfl (vb h25)
        have hsh := ite_f hc26 h25
        refine st_val hs (y_move rfl) ⟨_, rfl, rfl⟩ rfl rfl fun a hs => ?_
        obtain ⟨rv29, h28, hsh⟩ := bind_t hsh
        refine st_callR hs (rate_in_ok h28 hw.dom) (do_call Try.call66 rfl) ⟨_, rfl, rfl⟩ rfl rfl ?_
        intro v33 Sv30 w a h31 h32 hs
        subst h32
        have hw := hw.call h31
        refine st_val hs (y_not rfl) ⟨_, rfl, rfl⟩ rfl rfl fun a hs => ?_
        refine st_val hs (y_pickF rfl rfl) trivial rfl rfl fun a hs => ?_
        refine wpList_nil ?_
        have hsh := Option.some.inj hsh
        subst hsh
        refine then_normal ?_
        exact ⟨Sv30, (hs.wk rfl), (hw.ft [0] [] (by decide) rfl rfl)⟩
    · rintro a w ⟨Sv27, hs, hw⟩
      refine wpList_nil ?_
      refine then_normal ?_
      refine wp_cond_split (hs.ev rfl) (fun h35 => ?_) (fun h35 => ?_)
      · have hsh := ite_t hsh h35
        refine wp_seq ?_
        refine wp_region_lit ?_
        refine st_val hs (y_assign rfl) trivial rfl rfl fun a hs => ?_
        refine st_val hs (y_assign rfl) trivial rfl rfl fun a hs => ?_
        refine wpList_nil ?_
        refine then_normal ?_
        have hsh := Option.some.inj hsh
        subst hsh
        refine wp_ret ?_
        refine then_ret ?_
        exact ret2 hs rfl (rv_tmp rfl) (rv_tmp rfl) (hw.ret rfl)
      · have hsh := ite_f hsh h35
        refine wp_skip ?_
        refine then_normal ?_
        refine wp_seq ?_
        refine wp_region_lit ?_
        refine st_val hs (y_move rfl) trivial rfl rfl fun a hs => ?_
        refine st_val hs (y_loadBA (hw.ownAt 0 rfl) rfl Try.isAgg60 Try.sizeOf60 rfl rfl) trivial rfl rfl fun a hs => ?_
        refine st_val hs (y_move rfl) trivial rfl rfl fun a hs => ?_
        obtain ⟨rv37, h36, hsh⟩ := bind_t hsh
        refine st_callR hs (rate_after_ok h36 hw.dom) (do_call Try.call68 rfl) trivial rfl rfl ?_
        intro v41 Sv38 w a h39 h40 hs
        subst h40
        have hw := hw.call h39
        refine st_val hs (y_add rfl rfl) trivial rfl rfl fun a hs => ?_
        obtain ⟨x43, h42, hsh⟩ := bind_t hsh
        refine st_val hs (y_assignI rfl h42) trivial rfl rfl fun a hs => ?_
        refine st_val hs (y_assign rfl) trivial rfl rfl fun a hs => ?_
        refine wpList_nil ?_
        refine then_normal ?_
        have hsh := Option.some.inj hsh
        subst hsh
        refine wp_ret ?_
        exact ret2 hs rfl (rv_tmp rfl) (rv_tmp rfl) (hw.ret rfl)

abbrev record_Valid_fn1_rd (w0 : World) (r : Bool) : (Nat → Prop) → World → Value → Prop := fun S w v => v = .bool r
set_option maxHeartbeats 4000000 in
set_option maxRecDepth 100000 in
theorem record_Valid_fn1_ok {w0 : World} {S0 : Nat → Prop} {x1 : Int} {r : Bool} (hsh : record_Valid_fn1 x1 = some r) (hS : ∀ b, S0 b → b < w0.heap.size) : Calls Try.prog 78 #[.int .i64 x1] w0 (Ret [] w0 S0 (record_Valid_fn1_rd w0 r)) := by
  refine calls_of_wp Try.func78 rfl ?_
  have hs := Sl.enter #[.int .i64 x1] 6 [(0, .int .i64 x1)] rfl ⟨rfl, trivial⟩
  have hw := Wd.enter (E := []) hS (fun _ h => (by cases h))
  delta record_Valid_fn1 at hsh
  refine wp_seq ?_
  refine wp_region_lit ?_
  refine st_val hs (y_assign rfl) trivial rfl rfl fun a hs => ?_
  refine wpList_nil ?_
  refine then_normal ?_
  refine wp_seq ?_
  refine wp_region_lit ?_
  refine st_val hs (y_move rfl) trivial rfl rfl fun a hs => ?_
  obtain ⟨rv3, h2, hsh⟩ := bind_t hsh
  refine st_callR hs (record_in_ok h2 hw.dom) (do_call Try.call77 rfl) trivial rfl rfl ?_
  intro v7 Sv4 w a h5 h6 hs
  subst h6
  have hw := hw.call h5
  refine st_val hs (y_not rfl) trivial rfl rfl fun a hs => ?_
  refine st_val hs (y_assign rfl) trivial rfl rfl fun a hs => ?_
  refine wpList_nil ?_
  refine then_normal ?_
  have hsh := Option.some.inj hsh
  subst hsh
  refine wp_ret ?_
  exact ret1 hs rfl (rv_tmp rfl) (hw.ret rfl)

theorem record_Valid_fn1_fn : FnOk1 Try.prog 78 [] [] record_Valid_fn1 := by
  refine ⟨Try.call78, fun hS h0 hf => ?_⟩
  obtain ⟨_, rfl, rfl⟩ := h0
  exact record_Valid_fn1_ok hf hS 

abbrev record_Valid_rd (w0 : World) (r : Bool) : (Nat → Prop) → World → Value → Prop := fun S w v => v = .bool r
set_option maxHeartbeats 4000000 in
set_option maxRecDepth 100000 in
theorem record_Valid_ok {w0 : World} {S0 : Nat → Prop} {p2 : Option Addr} {k3 : Nat} {r1 : Record} {r : Bool} (hsh : record_Valid r1 = some r) (hS : ∀ b, S0 b → b < w0.heap.size) (h4 : (SlA p2 r1.Samples.length k3 r1.Samples).p S0 w0) : Calls Try.prog 63 #[.agg #[.string r1.Source.Network, .string r1.Source.Station, .string r1.Source.Location, .string r1.Source.Channel, .int .i64 r1.Start, .int .i64 r1.First, .int .i64 r1.Rate.Num, .int .i64 r1.Rate.Den, .int .i64 r1.Error, .int .i64 r1.Run, .int .i64 r1.Seq, .slice p2 r1.Samples.length k3]] w0 (Ret [] w0 S0 (record_Valid_rd w0 r)) := by
  refine calls_of_wp Try.func63 rfl ?_
  have hs := Sl.enter #[.agg #[.string r1.Source.Network, .string r1.Source.Station, .string r1.Source.Location, .string r1.Source.Channel, .int .i64 r1.Start, .int .i64 r1.First, .int .i64 r1.Rate.Num, .int .i64 r1.Rate.Den, .int .i64 r1.Error, .int .i64 r1.Run, .int .i64 r1.Seq, .slice p2 r1.Samples.length k3]] 68 [(0, .agg #[.string r1.Source.Network, .string r1.Source.Station, .string r1.Source.Location, .string r1.Source.Channel, .int .i64 r1.Start, .int .i64 r1.First, .int .i64 r1.Rate.Num, .int .i64 r1.Rate.Den, .int .i64 r1.Error, .int .i64 r1.Run, .int .i64 r1.Seq, .slice p2 r1.Samples.length k3])] rfl ⟨rfl, trivial⟩
  have hw := Wd.enter (E := []) hS (fun _ h => (by cases h))
  have hw := hw.addE h4
  delta record_Valid at hsh
  refine wp_seq ?_
  refine wp_region_lit ?_
  refine w_box (cs := [.string r1.Source.Network, .string r1.Source.Station, .string r1.Source.Location, .string r1.Source.Channel, .int .i64 r1.Start, .int .i64 r1.First, .int .i64 r1.Rate.Num, .int .i64 r1.Rate.Den, .int .i64 r1.Error, .int .i64 r1.Run, .int .i64 r1.Seq, .slice p2 r1.Samples.length k3]) hs hw rfl rfl rfl trivial ?_
  intro b5 a w hs hw
  refine st_val hs (y_assign rfl) trivial rfl rfl fun a hs => ?_
  refine wpList_nil ?_
  refine then_normal ?_
  refine wp_seq ?_
  refine wp_region_lit ?_
  refine st_val hs (y_fieldAddr (o' := 11) Try.runUnderlying98 rfl Try.sizeOf22 rfl rfl rfl) trivial rfl rfl fun a hs => ?_
  refine st_val hs (y_loadB1 (hw.ownAt 0 rfl) rfl Try.isAgg22 rfl) trivial rfl rfl fun a hs => ?_
  refine st_val hs (y_len Try.runUnderlying22 rfl) trivial rfl rfl fun a hs => ?_
  obtain ⟨n7, h6, hsh⟩ := bind_t hsh
  refine st_val hs (y_assignI rfl h6) trivial rfl rfl fun a hs => ?_
  refine wpList_nil ?_
  refine then_normal ?_
  refine wp_seq ?_
  refine wp_seq ?_
  refine wp_region_lit ?_
  refine st_val hs (y_fieldAddr (o' := 0) Try.runUnderlying98 rfl Try.sizeOf96 rfl rfl rfl) trivial rfl rfl fun a hs => ?_
  refine st_val hs (y_loadBA (hw.ownAt 0 rfl) rfl Try.isAgg96 Try.sizeOf96 rfl rfl) trivial rfl rfl fun a hs => ?_
  obtain ⟨rv9, h8, hsh⟩ := bind_t hsh
  refine st_callR hs (source_Valid_ok h8 hw.dom) (do_call Try.call76 rfl) trivial rfl rfl ?_
  intro v13 Sv10 w a h11 h12 hs
  subst h12
  have hw := hw.call h11
  refine st_val hs (y_not rfl) trivial rfl rfl fun a hs => ?_
  refine st_val hs (y_move rfl) trivial rfl rfl fun a hs => ?_
  obtain ⟨c21, hc21, hsh⟩ := bind_t hsh
  refine wpl_join 4 (fun a w => ∃ (Sv22 : Nat → Prop), Sl 68 [(1, .pointer (some ⟨b5, 0, none⟩)), (3, .int .i64 n7), (17, .bool c21)] a ∧ Wd ⟨w0, S0, []⟩ Sv22 [.box b5 [.string r1.Source.Network, .string r1.Source.Station, .string r1.Source.Location, .string r1.Source.Channel, .int .i64 r1.Start, .int .i64 r1.First, .int .i64 r1.Rate.Num, .int .i64 r1.Rate.Den, .int .i64 r1.Error, .int .i64 r1.Run, .int .i64 r1.Seq, .slice p2 r1.Samples.length k3] 98] [SlA p2 r1.Samples.length k3 r1.Samples] w) ?_ ?_
  · rcases Bool.eq_false_or_eq_true (!rv9) with h20 | h20
    · have hs := hs.fix 13 (.bool true) rfl (vb h20)
      have hsh := ite_t hc21 h20
      refine st_skip hs rfl rfl rfl rfl rfl fun a hs => ?_
      refine st_skip hs rfl rfl rfl rfl rfl fun a hs => ?_
      refine st_skip hs rfl rfl rfl rfl rfl fun a hs => ?_
      refine st_val hs (y_pickT rfl rfl) trivial rfl rfl fun a hs => ?_
      refine wpList_nil ?_
      have hsh := Option.some.inj hsh
      subst hsh
      refine then_normal ?_
      exact ⟨Sv10, (hs.wk rfl), (hw.ft [0] [0] (by decide) rfl rfl)⟩
    · have hs := hs.fix 13 (.bool false) rfl (vb h20)
      have hsh := ite_f hc21 h20
      refine st_val hs (y_move rfl) ⟨_, rfl, rfl⟩ rfl rfl fun a hs => ?_
      obtain ⟨rv24, h23, hsh⟩ := bind_t hsh
      refine st_callR hs (record_in_ok h23 hw.dom) (do_call Try.call77 rfl) ⟨_, rfl, rfl⟩ rfl rfl ?_
      intro v28 Sv25 w a h26 h27 hs
      subst h27
      have hw := hw.call h26
      refine st_val hs (y_not rfl) ⟨_, rfl, rfl⟩ rfl rfl fun a hs => ?_
      refine st_val hs (y_pickF rfl rfl) trivial rfl rfl fun a hs => ?_
      refine wpList_nil ?_
      have hsh := Option.some.inj hsh
      subst hsh
      refine then_normal ?_
      exact ⟨Sv25, (hs.wk rfl), (hw.ft [0] [0] (by decide) rfl rfl)⟩
  · rintro a w ⟨Sv22, hs, hw⟩
    refine st_val hs (y_move rfl) trivial rfl rfl fun a hs => ?_
    obtain ⟨c36, hc36, hsh⟩ := bind_t hsh
    refine wpl_join 7 (fun a w => ∃ (Sv37 : Nat → Prop), Sl 68 [(1, .pointer (some ⟨b5, 0, none⟩)), (3, .int .i64 n7), (25, .bool c36)] a ∧ Wd ⟨w0, S0, []⟩ Sv37 [.box b5 [.string r1.Source.Network, .string r1.Source.Station, .string r1.Source.Location, .string r1.Source.Channel, .int .i64 r1.Start, .int .i64 r1.First, .int .i64 r1.Rate.Num, .int .i64 r1.Rate.Den, .int .i64 r1.Error, .int .i64 r1.Run, .int .i64 r1.Seq, .slice p2 r1.Samples.length k3] 98] [SlA p2 r1.Samples.length k3 r1.Samples] w) ?_ ?_
    · rcases Bool.eq_false_or_eq_true c21 with h35 | h35
      · have hs := hs.fix 18 (.bool true) rfl (vb h35)
        have hsh := ite_t hc36 h35
        refine st_skip hs rfl rfl rfl rfl rfl fun a hs => ?_
        refine st_skip hs rfl rfl rfl rfl rfl fun a hs => ?_
        refine st_skip hs rfl rfl rfl rfl rfl fun a hs => ?_
        refine st_skip hs rfl rfl rfl rfl rfl fun a hs => ?_
        refine st_skip hs rfl rfl rfl rfl rfl fun a hs => ?_
        refine st_skip hs rfl rfl rfl rfl rfl fun a hs => ?_
        refine st_val hs (y_pickT rfl rfl) trivial rfl rfl fun a hs => ?_
        refine wpList_nil ?_
        have hsh := Option.some.inj hsh
        subst hsh
        refine then_normal ?_
        exact ⟨Sv22, (hs.wk rfl), (hw.ft [0] [0] (by decide) rfl rfl)⟩
      · have hs := hs.fix 18 (.bool false) rfl (vb h35)
        have hsh := ite_f hc36 h35
        refine st_val hs (y_fieldAddr (o' := 5) Try.runUnderlying98 rfl Try.sizeOf3 rfl rfl rfl) ⟨_, rfl, rfl⟩ rfl rfl fun a hs => ?_
        refine st_val hs (y_loadB1 (hw.ownAt 0 rfl) rfl Try.isAgg3 rfl) ⟨_, rfl, rfl⟩ rfl rfl fun a hs => ?_
        refine st_val hs (y_move rfl) ⟨_, rfl, rfl⟩ rfl rfl fun a hs => ?_
        refine st_val hs (y_sub rfl rfl) ⟨_, rfl, rfl⟩ rfl rfl fun a hs => ?_
        obtain ⟨rv39, h38, hsh⟩ := bind_t hsh
        refine st_callR hs (record_in_ok h38 hw.dom) (do_call Try.call77 rfl) ⟨_, rfl, rfl⟩ rfl rfl ?_
        intro v43 Sv40 w a h41 h42 hs
        subst h42
        have hw := hw.call h41
        refine st_val hs (y_not rfl) ⟨_, rfl, rfl⟩ rfl rfl fun a hs => ?_
        refine st_val hs (y_pickF rfl rfl) trivial rfl rfl fun a hs => ?_
        refine wpList_nil ?_
        have hsh := Option.some.inj hsh
        subst hsh
        refine then_normal ?_
        exact ⟨Sv40, (hs.wk rfl), (hw.ft [0] [0] (by decide) rfl rfl)⟩
    · rintro a w ⟨Sv37, hs, hw⟩
      refine st_val hs (y_move rfl) trivial rfl rfl fun a hs => ?_
      obtain ⟨c51, hc51, hsh⟩ := bind_t hsh
      refine wpl_join 5 (fun a w => ∃ (Sv52 : Nat → Prop), Sl 68 [(1, .pointer (some ⟨b5, 0, none⟩)), (3, .int .i64 n7), (31, .bool c51)] a ∧ Wd ⟨w0, S0, []⟩ Sv52 [.box b5 [.string r1.Source.Network, .string r1.Source.Station, .string r1.Source.Location, .string r1.Source.Channel, .int .i64 r1.Start, .int .i64 r1.First, .int .i64 r1.Rate.Num, .int .i64 r1.Rate.Den, .int .i64 r1.Error, .int .i64 r1.Run, .int .i64 r1.Seq, .slice p2 r1.Samples.length k3] 98] [SlA p2 r1.Samples.length k3 r1.Samples] w) ?_ ?_
      · rcases Bool.eq_false_or_eq_true c36 with h50 | h50
        · have hs := hs.fix 26 (.bool true) rfl (vb h50)
          have hsh := ite_t hc51 h50
          refine st_skip hs rfl rfl rfl rfl rfl fun a hs => ?_
          refine st_skip hs rfl rfl rfl rfl rfl fun a hs => ?_
          refine st_skip hs rfl rfl rfl rfl rfl fun a hs => ?_
          refine st_skip hs rfl rfl rfl rfl rfl fun a hs => ?_
          refine st_val hs (y_pickT rfl rfl) trivial rfl rfl fun a hs => ?_
          refine wpList_nil ?_
          have hsh := Option.some.inj hsh
          subst hsh
          refine then_normal ?_
          exact ⟨Sv37, (hs.wk rfl), (hw.ft [0] [0] (by decide) rfl rfl)⟩
        · have hs := hs.fix 26 (.bool false) rfl (vb h50)
          have hsh := ite_f hc51 h50
          refine st_val hs (y_fieldAddr (o' := 8) Try.runUnderlying98 rfl Try.sizeOf3 rfl rfl rfl) ⟨_, rfl, rfl⟩ rfl rfl fun a hs => ?_
          refine st_val hs (y_loadB1 (hw.ownAt 0 rfl) rfl Try.isAgg3 rfl) ⟨_, rfl, rfl⟩ rfl rfl fun a hs => ?_
          obtain ⟨rv54, h53, hsh⟩ := bind_t hsh
          refine st_callR hs (record_in_ok h53 hw.dom) (do_call Try.call77 rfl) ⟨_, rfl, rfl⟩ rfl rfl ?_
          intro v58 Sv55 w a h56 h57 hs
          subst h57
          have hw := hw.call h56
          refine st_val hs (y_not rfl) ⟨_, rfl, rfl⟩ rfl rfl fun a hs => ?_
          refine st_val hs (y_pickF rfl rfl) trivial rfl rfl fun a hs => ?_
          refine wpList_nil ?_
          have hsh := Option.some.inj hsh
          subst hsh
          refine then_normal ?_
          exact ⟨Sv55, (hs.wk rfl), (hw.ft [0] [0] (by decide) rfl rfl)⟩
      · rintro a w ⟨Sv52, hs, hw⟩
        refine st_val hs (y_move rfl) trivial rfl rfl fun a hs => ?_
        obtain ⟨c66, hc66, hsh⟩ := bind_t hsh
        refine wpl_join 5 (fun a w => ∃ (Sv67 : Nat → Prop), Sl 68 [(1, .pointer (some ⟨b5, 0, none⟩)), (3, .int .i64 n7), (37, .bool c66)] a ∧ Wd ⟨w0, S0, []⟩ Sv67 [.box b5 [.string r1.Source.Network, .string r1.Source.Station, .string r1.Source.Location, .string r1.Source.Channel, .int .i64 r1.Start, .int .i64 r1.First, .int .i64 r1.Rate.Num, .int .i64 r1.Rate.Den, .int .i64 r1.Error, .int .i64 r1.Run, .int .i64 r1.Seq, .slice p2 r1.Samples.length k3] 98] [SlA p2 r1.Samples.length k3 r1.Samples] w) ?_ ?_
        · rcases Bool.eq_false_or_eq_true c51 with h65 | h65
          · have hs := hs.fix 32 (.bool true) rfl (vb h65)
            have hsh := ite_t hc66 h65
            refine st_skip hs rfl rfl rfl rfl rfl fun a hs => ?_
            refine st_skip hs rfl rfl rfl rfl rfl fun a hs => ?_
            refine st_skip hs rfl rfl rfl rfl rfl fun a hs => ?_
            refine st_skip hs rfl rfl rfl rfl rfl fun a hs => ?_
            refine st_val hs (y_pickT rfl rfl) trivial rfl rfl fun a hs => ?_
            refine wpList_nil ?_
            have hsh := Option.some.inj hsh
            subst hsh
            refine then_normal ?_
            exact ⟨Sv52, (hs.wk rfl), (hw.ft [0] [0] (by decide) rfl rfl)⟩
          · have hs := hs.fix 32 (.bool false) rfl (vb h65)
            have hsh := ite_f hc66 h65
            refine st_val hs (y_fieldAddr (o' := 9) Try.runUnderlying98 rfl Try.sizeOf3 rfl rfl rfl) ⟨_, rfl, rfl⟩ rfl rfl fun a hs => ?_
            refine st_val hs (y_loadB1 (hw.ownAt 0 rfl) rfl Try.isAgg3 rfl) ⟨_, rfl, rfl⟩ rfl rfl fun a hs => ?_
            obtain ⟨rv69, h68, hsh⟩ := bind_t hsh
            refine st_callR hs (record_in_ok h68 hw.dom) (do_call Try.call77 rfl) ⟨_, rfl, rfl⟩ rfl rfl ?_
            intro v73 Sv70 w a h71 h72 hs
            subst h72
            have hw := hw.call h71
            refine st_val hs (y_not rfl) ⟨_, rfl, rfl⟩ rfl rfl fun a hs => ?_
            refine st_val hs (y_pickF rfl rfl) trivial rfl rfl fun a hs => ?_
            refine wpList_nil ?_
            have hsh := Option.some.inj hsh
            subst hsh
            refine then_normal ?_
            exact ⟨Sv70, (hs.wk rfl), (hw.ft [0] [0] (by decide) rfl rfl)⟩
        · rintro a w ⟨Sv67, hs, hw⟩
          refine st_val hs (y_move rfl) trivial rfl rfl fun a hs => ?_
          obtain ⟨c81, hc81, hsh⟩ := bind_t hsh
          refine wpl_join 5 (fun a w => ∃ (Sv82 : Nat → Prop), Sl 68 [(1, .pointer (some ⟨b5, 0, none⟩)), (3, .int .i64 n7), (43, .bool c81)] a ∧ Wd ⟨w0, S0, []⟩ Sv82 [.box b5 [.string r1.Source.Network, .string r1.Source.Station, .string r1.Source.Location, .string r1.Source.Channel, .int .i64 r1.Start, .int .i64 r1.First, .int .i64 r1.Rate.Num, .int .i64 r1.Rate.Den, .int .i64 r1.Error, .int .i64 r1.Run, .int .i64 r1.Seq, .slice p2 r1.Samples.length k3] 98] [SlA p2 r1.Samples.length k3 r1.Samples] w) ?_ ?_
          · rcases Bool.eq_false_or_eq_true c66 with h80 | h80
            · have hs := hs.fix 38 (.bool true) rfl (vb h80)
              have hsh := ite_t hc81 h80
              refine st_skip hs rfl rfl rfl rfl rfl fun a hs => ?_
              refine st_skip hs rfl rfl rfl rfl rfl fun a hs => ?_
              refine st_skip hs rfl rfl rfl rfl rfl fun a hs => ?_
              refine st_skip hs rfl rfl rfl rfl rfl fun a hs => ?_
              refine st_val hs (y_pickT rfl rfl) trivial rfl rfl fun a hs => ?_
              refine wpList_nil ?_
              have hsh := Option.some.inj hsh
              subst hsh
              refine then_normal ?_
              exact ⟨Sv67, (hs.wk rfl), (hw.ft [0] [0] (by decide) rfl rfl)⟩
            · have hs := hs.fix 38 (.bool false) rfl (vb h80)
              have hsh := ite_f hc81 h80
              refine st_val hs (y_fieldAddr (o' := 10) Try.runUnderlying98 rfl Try.sizeOf3 rfl rfl rfl) ⟨_, rfl, rfl⟩ rfl rfl fun a hs => ?_
              refine st_val hs (y_loadB1 (hw.ownAt 0 rfl) rfl Try.isAgg3 rfl) ⟨_, rfl, rfl⟩ rfl rfl fun a hs => ?_
              obtain ⟨rv84, h83, hsh⟩ := bind_t hsh
              refine st_callR hs (record_in_ok h83 hw.dom) (do_call Try.call77 rfl) ⟨_, rfl, rfl⟩ rfl rfl ?_
              intro v88 Sv85 w a h86 h87 hs
              subst h87
              have hw := hw.call h86
              refine st_val hs (y_not rfl) ⟨_, rfl, rfl⟩ rfl rfl fun a hs => ?_
              refine st_val hs (y_pickF rfl rfl) trivial rfl rfl fun a hs => ?_
              refine wpList_nil ?_
              have hsh := Option.some.inj hsh
              subst hsh
              refine then_normal ?_
              exact ⟨Sv85, (hs.wk rfl), (hw.ft [0] [0] (by decide) rfl rfl)⟩
          · rintro a w ⟨Sv82, hs, hw⟩
            refine wpList_nil ?_
            refine then_normal ?_
            refine wp_cond_split (hs.ev rfl) (fun h90 => ?_) (fun h90 => ?_)
            · have hsh := ite_t hsh h90
              refine wp_seq ?_
              refine wp_region_lit ?_
              refine st_val hs (y_assign rfl) trivial rfl rfl fun a hs => ?_
              refine wpList_nil ?_
              refine then_normal ?_
              have hsh := Option.some.inj hsh
              subst hsh
              refine wp_ret ?_
              refine then_ret ?_
              exact ret1 hs rfl (rv_tmp rfl) (hw.ret rfl)
            · have hsh := ite_f hsh h90
              refine wp_skip ?_
              refine then_normal ?_
              refine wp_seq ?_
              refine wp_region_lit ?_
              refine st_val hs (y_fieldAddr (o' := 4) Try.runUnderlying98 rfl Try.sizeOf3 rfl rfl rfl) trivial rfl rfl fun a hs => ?_
              refine st_val hs (y_loadB1 (hw.ownAt 0 rfl) rfl Try.isAgg3 rfl) trivial rfl rfl fun a hs => ?_
              refine st_val hs (y_fieldAddr (o' := 6) Try.runUnderlying98 rfl Try.sizeOf60 rfl rfl rfl) trivial rfl rfl fun a hs => ?_
              refine st_val hs (y_loadBA (hw.ownAt 0 rfl) rfl Try.isAgg60 Try.sizeOf60 rfl rfl) trivial rfl rfl fun a hs => ?_
              refine st_val hs (y_fieldAddr (o' := 5) Try.runUnderlying98 rfl Try.sizeOf3 rfl rfl rfl) trivial rfl rfl fun a hs => ?_
              refine st_val hs (y_loadB1 (hw.ownAt 0 rfl) rfl Try.isAgg3 rfl) trivial rfl rfl fun a hs => ?_
              refine st_val hs (y_move rfl) trivial rfl rfl fun a hs => ?_
              refine st_val hs (y_add rfl rfl) trivial rfl rfl fun a hs => ?_
              obtain ⟨rv92, h91, hsh⟩ := bind_t hsh
              refine st_callR hs (rate_Time_ok h91 hw.dom) (do_call Try.call50 rfl) trivial rfl rfl ?_
              intro v96 Sv93 w a h94 h95 hs
              subst h95
              have hw := hw.call h94
              refine st_val hs (y_move rfl) trivial rfl rfl fun a hs => ?_
              refine st_val hs (y_extract rfl rfl) trivial rfl rfl fun a hs => ?_
              refine st_val hs (y_extract rfl rfl) trivial rfl rfl fun a hs => ?_
              refine st_val hs (y_assign rfl) trivial rfl rfl fun a hs => ?_
              refine st_val hs (y_assign rfl) trivial rfl rfl fun a hs => ?_
              refine wpList_nil ?_
              refine then_normal ?_
              refine wp_seq ?_
              refine wp_region_lit ?_
              refine st_val hs (y_move rfl) trivial rfl rfl fun a hs => ?_
              refine st_val hs (y_eql rfl rfl) trivial rfl rfl fun a hs => ?_
              refine st_val hs (y_move rfl) trivial rfl rfl fun a hs => ?_
              refine wpl_join 3 (fun a w1 => w = w1 ∧ Sl 68 [(1, .pointer (some ⟨b5, 0, none⟩)), (61, .bool ((rv92.2 == 0) && (decide (rv92.1 ≤ 9007199254740992))))] a) ?_ ?_
              · rcases Bool.eq_false_or_eq_true (rv92.2 == 0) with h97 | h97
                · have hs := hs.fix 58 (.bool true) rfl (vb h97)
                  refine st_val hs (y_move rfl) ⟨_, rfl, rfl⟩ rfl rfl fun a hs => ?_
                  refine st_val hs (y_leq rfl rfl) ⟨_, rfl, rfl⟩ rfl rfl fun a hs => ?_
                  refine st_val hs (y_pickT rfl rfl) trivial rfl rfl fun a hs => ?_
                  refine wpList_nil ?_
                  refine then_normal ?_
                  exact ⟨rfl, (hs.fix 61 (.bool ((rv92.2 == 0) && (decide (rv92.1 ≤ 9007199254740992)))) rfl (and_t h97)).weaken _ ⟨rfl, rfl, trivial⟩⟩
                · have hs := hs.fix 58 (.bool false) rfl (vb h97)
                  refine st_skip hs rfl rfl rfl rfl rfl fun a hs => ?_
                  refine st_skip hs rfl rfl rfl rfl rfl fun a hs => ?_
                  refine st_val hs (y_pickF rfl rfl) trivial rfl rfl fun a hs => ?_
                  refine wpList_nil ?_
                  refine then_normal ?_
                  exact ⟨rfl, (hs.fix 61 (.bool ((rv92.2 == 0) && (decide (rv92.1 ≤ 9007199254740992)))) rfl (and_f h97)).weaken _ ⟨rfl, rfl, trivial⟩⟩
              · rintro a w1 ⟨h113, hs⟩
                subst h113
                refine st_val hs (y_move rfl) trivial rfl rfl fun a hs => ?_
                obtain ⟨c105, hc105, hsh⟩ := bind_t hsh
                refine wpl_join 5 (fun a w => ∃ (Sv106 : Nat → Prop), Sl 68 [(67, .bool c105)] a ∧ Wd ⟨w0, S0, []⟩ Sv106 [] [] w) ?_ ?_
                · rcases Bool.eq_false_or_eq_true ((rv92.2 == 0) && (decide (rv92.1 ≤ 9007199254740992))) with h104 | h104
                  · have hs := hs.fix 62 (.bool true) rfl (vb h104)
                    have hsh := ite_t hc105 h104
                    refine st_val hs (y_fieldAddr (o' := 11) Try.runUnderlying98 rfl Try.sizeOf22 rfl rfl rfl) ⟨_, rfl, rfl⟩ rfl rfl fun a hs => ?_
                    refine st_val hs (y_loadB1 (hw.ownAt 0 rfl) rfl Try.isAgg22 rfl) ⟨_, rfl, rfl⟩ rfl rfl fun a hs => ?_
                    obtain ⟨rv108, h107, hsh⟩ := bind_t hsh
                    refine st_callR hs (slices_ContainsFunc_Lint_int_ok h107 hw.dom (hw.envAt 0 rfl) record_Valid_fn1_fn) (do_call Try.call55 rfl) ⟨_, rfl, rfl⟩ rfl rfl ?_
                    intro v112 Sv109 w a h110 h111 hs
                    subst h111
                    have hw := hw.call h110
                    refine st_val hs (y_not rfl) ⟨_, rfl, rfl⟩ rfl rfl fun a hs => ?_
                    refine st_val hs (y_pickT rfl rfl) trivial rfl rfl fun a hs => ?_
                    refine wpList_nil ?_
                    have hsh := Option.some.inj hsh
                    subst hsh
                    refine then_normal ?_
                    exact ⟨Sv109, (hs.wk rfl), (hw.ft [] [] (by decide) rfl rfl)⟩
                  · have hs := hs.fix 62 (.bool false) rfl (vb h104)
                    have hsh := ite_f hc105 h104
                    refine st_skip hs rfl rfl rfl rfl rfl fun a hs => ?_
                    refine st_skip hs rfl rfl rfl rfl rfl fun a hs => ?_
                    refine st_skip hs rfl rfl rfl rfl rfl fun a hs => ?_
                    refine st_skip hs rfl rfl rfl rfl rfl fun a hs => ?_
                    refine st_val hs (y_pickF rfl rfl) trivial rfl rfl fun a hs => ?_
                    refine wpList_nil ?_
                    have hsh := Option.some.inj hsh
                    subst hsh
                    refine then_normal ?_
                    exact ⟨Sv93, (hs.wk rfl), (hw.ft [] [] (by decide) rfl rfl)⟩
                · rintro a w ⟨Sv106, hs, hw⟩
                  refine st_val hs (y_assign rfl) trivial rfl rfl fun a hs => ?_
                  refine wpList_nil ?_
                  refine then_normal ?_
                  have hsh := Option.some.inj hsh
                  subst hsh
                  refine wp_ret ?_
                  exact ret1 hs rfl (rv_tmp rfl) (hw.ret rfl)

abbrev continuity_ValidSegment_rd (w0 : World) (r : Bool) : (Nat → Prop) → World → Value → Prop := fun S w v => v = .bool r
set_option maxHeartbeats 4000000 in
set_option maxRecDepth 100000 in
theorem continuity_ValidSegment_ok {w0 : World} {S0 : Nat → Prop} {p2 : Option Addr} {k3 : Nat} {s1 : Segment} {r : Bool} (hsh : continuity_ValidSegment s1 = some r) (hS : ∀ b, S0 b → b < w0.heap.size) (h4 : (SlA p2 s1.Samples.length k3 s1.Samples).p S0 w0) : Calls Try.prog 48 #[.agg #[.int .i64 s1.Start, .int .i64 s1.First, .int .i64 s1.Rate.Num, .int .i64 s1.Rate.Den, .int .i64 s1.Error, .slice p2 s1.Samples.length k3]] w0 (Ret [] w0 S0 (continuity_ValidSegment_rd w0 r)) := by
  refine calls_of_wp Try.func48 rfl ?_
  have hs := Sl.enter #[.agg #[.int .i64 s1.Start, .int .i64 s1.First, .int .i64 s1.Rate.Num, .int .i64 s1.Rate.Den, .int .i64 s1.Error, .slice p2 s1.Samples.length k3]] 6 [(0, .agg #[.int .i64 s1.Start, .int .i64 s1.First, .int .i64 s1.Rate.Num, .int .i64 s1.Rate.Den, .int .i64 s1.Error, .slice p2 s1.Samples.length k3])] rfl ⟨rfl, trivial⟩
  have hw := Wd.enter (E := []) hS (fun _ h => (by cases h))
  have hw := hw.addE h4
  delta continuity_ValidSegment at hsh
  refine wp_seq ?_
  refine wp_region_lit ?_
  refine w_box (cs := [.int .i64 s1.Start, .int .i64 s1.First, .int .i64 s1.Rate.Num, .int .i64 s1.Rate.Den, .int .i64 s1.Error, .slice p2 s1.Samples.length k3]) hs hw rfl rfl rfl trivial ?_
  intro b5 a w hs hw
  refine st_val hs (y_assign rfl) trivial rfl rfl fun a hs => ?_
  refine wpList_nil ?_
  refine then_normal ?_
  refine wp_seq ?_
  refine wp_region_lit ?_
  refine st_val hs (y_loadBA (hw.ownAt 0 rfl) rfl Try.isAgg62 Try.sizeOf62 rfl rfl) trivial rfl rfl fun a hs => ?_
  obtain ⟨rv7, h6, hsh⟩ := bind_t hsh
  refine st_callR hs (continuity_body_ok h6 hw.dom (hw.envAt 0 rfl)) (do_call Try.call64 rfl) trivial rfl rfl ?_
  intro v14 Sv11 w a h12 h13 hs
  obtain ⟨p8, k9, rfl, h10⟩ := h13
  have hw := hw.call h12
  have hw := hw.addE (e := SlA p8 rv7.Samples.length k9 rv7.Samples) h10
  obtain ⟨rv16, h15, hsh⟩ := bind_t hsh
  refine st_callR hs (record_Valid_ok h15 hw.dom (hw.envAt 0 rfl)) (do_call Try.call63 rfl) trivial rfl rfl ?_
  intro v20 Sv17 w a h18 h19 hs
  subst h19
  have hw := hw.call h18
  refine st_val hs (y_assign rfl) trivial rfl rfl fun a hs => ?_
  refine wpList_nil ?_
  refine then_normal ?_
  have hsh := Option.some.inj hsh
  subst hsh
  refine wp_ret ?_
  exact ret1 hs rfl (rv_tmp rfl) (hw.ret rfl)

abbrev rate_Slower_rd (w0 : World) (r : (Rate × Int)) : (Nat → Prop) → World → Value → Prop := fun S w v => v = .tuple #[.agg #[.int .i64 r.1.Num, .int .i64 r.1.Den], .int .i64 r.2]
set_option maxHeartbeats 4000000 in
set_option maxRecDepth 100000 in
theorem rate_Slower_ok {w0 : World} {S0 : Nat → Prop} {r1 : Rate} {factor2 : Int} {r : (Rate × Int)} (hsh : rate_Slower r1 factor2 = some r) (hS : ∀ b, S0 b → b < w0.heap.size) : Calls Try.prog 49 #[.agg #[.int .i64 r1.Num, .int .i64 r1.Den], .int .i64 factor2] w0 (Ret [] w0 S0 (rate_Slower_rd w0 r)) := by
  refine calls_of_wp Try.func49 rfl ?_
  have hs := Sl.enter #[.agg #[.int .i64 r1.Num, .int .i64 r1.Den], .int .i64 factor2] 36 [(0, .agg #[.int .i64 r1.Num, .int .i64 r1.Den]), (1, .int .i64 factor2)] rfl ⟨rfl, rfl, trivial⟩
  have hw := Wd.enter (E := []) hS (fun _ h => (by cases h))
  delta rate_Slower at hsh
  refine wp_seq ?_
  refine wp_region_lit ?_
  refine w_box (cs := [.int .i64 r1.Num, .int .i64 r1.Den]) hs hw rfl rfl rfl trivial ?_
  intro b3 a w hs hw
  refine w_alloc (cs := [.int .i64 0, .int .i64 0]) hs hw Try.zeroValue60 rfl rfl trivial ?_
  intro b4 a w hs hw
  refine st_val hs (y_assign rfl) trivial rfl rfl fun a hs => ?_
  refine wpList_nil ?_
  refine then_normal ?_
  refine wp_seq ?_
  refine wp_seq ?_
  refine wp_region_lit ?_
  refine st_val hs (y_loadBA (hw.ownAt 1 rfl) rfl Try.isAgg60 Try.sizeOf60 rfl rfl) trivial rfl rfl fun a hs => ?_
  obtain ⟨rv6, h5, hsh⟩ := bind_t hsh
  refine st_callR hs (rate_Valid_ok h5 hw.dom) (do_call Try.call65 rfl) trivial rfl rfl ?_
  intro v10 Sv7 w a h8 h9 hs
  subst h9
  have hw := hw.call h8
  refine st_val hs (y_not rfl) trivial rfl rfl fun a hs => ?_
  refine wpList_nil ?_
  refine then_normal ?_
  refine wp_cond_split (hs.ev rfl) (fun h12 => ?_) (fun h12 => ?_)
  · have hsh := ite_t hsh h12
    refine wp_seq ?_
    refine wp_region_lit ?_
    refine st_val hs (y_build (vs := []) Bld60 rfl rfl) trivial rfl rfl fun a hs => ?_
    refine w_store (m := 2) (cs' := [.int .i64 0, .int .i64 0]) hs hw 0 rfl rfl rfl Try.sizeOf60 rfl rfl rfl rfl trivial ?_
    intro a w hs hw
    refine st_val hs (y_assign rfl) trivial rfl rfl fun a hs => ?_
    refine wpList_nil ?_
    refine then_normal ?_
    have hsh := Option.some.inj hsh
    subst hsh
    refine wp_ret ?_
    refine then_ret ?_
    exact ret2 hs rfl (rv_cell hw 0 rfl rfl Try.isAgg60 Try.sizeOf60 rfl) (rv_tmp rfl) (hw.ret rfl)
  · have hsh := ite_f hsh h12
    refine wp_skip ?_
    refine then_normal ?_
    refine wp_seq ?_
    refine wp_seq ?_
    refine wp_region_lit ?_
    refine st_val hs (y_move rfl) trivial rfl rfl fun a hs => ?_
    obtain ⟨rv14, h13, hsh⟩ := bind_t hsh
    refine st_callR hs (rate_in_ok h13 hw.dom) (do_call Try.call66 rfl) trivial rfl rfl ?_
    intro v18 Sv15 w a h16 h17 hs
    subst h17
    have hw := hw.call h16
    refine st_val hs (y_not rfl) trivial rfl rfl fun a hs => ?_
    refine wpList_nil ?_
    refine then_normal ?_
    refine wp_cond_split (hs.ev rfl) (fun h20 => ?_) (fun h20 => ?_)
    · have hsh := ite_t hsh h20
      refine wp_seq ?_
      refine wp_region_lit ?_
      refine st_val hs (y_build (vs := []) Bld60 rfl rfl) trivial rfl rfl fun a hs => ?_
      refine w_store (m := 2) (cs' := [.int .i64 0, .int .i64 0]) hs hw 0 rfl rfl rfl Try.sizeOf60 rfl rfl rfl rfl trivial ?_
      intro a w hs hw
      refine st_val hs (y_assign rfl) trivial rfl rfl fun a hs => ?_
      refine wpList_nil ?_
      refine then_normal ?_
      have hsh := Option.some.inj hsh
      subst hsh
      refine wp_ret ?_
      refine then_ret ?_
      exact ret2 hs rfl (rv_cell hw 0 rfl rfl Try.isAgg60 Try.sizeOf60 rfl) (rv_tmp rfl) (hw.ret rfl)
    · have hsh := ite_f hsh h20
      refine wp_skip ?_
      refine then_normal ?_
      refine wp_seq ?_
      refine wp_region_lit ?_
      refine st_val hs (y_fieldAddr (o' := 0) Try.runUnderlying60 rfl Try.sizeOf3 rfl rfl rfl) trivial rfl rfl fun a hs => ?_
      refine st_val hs (y_loadB1 (hw.ownAt 1 rfl) rfl Try.isAgg3 rfl) trivial rfl rfl fun a hs => ?_
      refine st_val hs (y_move rfl) trivial rfl rfl fun a hs => ?_
      obtain ⟨rv22, h21, hsh⟩ := bind_t hsh
      refine st_callR hs (rate_gcd_ok h21 hw.dom) (do_call Try.call67 rfl) trivial rfl rfl ?_
      intro v26 Sv23 w a h24 h25 hs
      subst h25
      have hw := hw.call h24
      refine st_val hs (y_assign rfl) trivial rfl rfl fun a hs => ?_
      refine wpList_nil ?_
      refine then_normal ?_
      refine wp_seq ?_
      obtain ⟨quo28, h27, hsh⟩ := bind_t hsh
      obtain ⟨quo30, h29, hsh⟩ := bind_t hsh
      refine wp_only (fun a w => ∃ (Sv32 : Nat → Prop) (b31 : Nat), Sl 36 [(4, .pointer (some ⟨b4, 0, none⟩)), (7, .pointer (some ⟨b31, 0, none⟩))] a ∧ Wd ⟨w0, S0, []⟩ Sv32 [.box b4 [.int .i64 0, .int .i64 0] 60, .box b31 [.int .i64 quo28, .int .i64 (w64 (r1.Den * quo30))] 60] [] w) ?_ ?_
      · refine h_begin (C := Cls [.box b4 [.int .i64 0, .int .i64 0] 60, .box b3 [.int .i64 r1.Num, .int .i64 r1.Den] 60] []) (by kernel_rfl) rfl ?_
        have hw := hw.drew
        have hC : Cls [.box b4 [.int .i64 0, .int .i64 0] 60, .box b3 [.int .i64 r1.Num, .int .i64 r1.Den] 60] [] _ := hw.cs [0, 1] [] rfl rfl
        refine h_get hs (i := 0) rfl (by kernel_rfl) rfl rfl hC rfl (fun w hC => y_fieldAddr (o' := 0) Try.runUnderlying60 rfl Try.sizeOf3 rfl rfl rfl) fun a hs => ?_
        refine h_get hs (i := 1) rfl (by kernel_rfl) rfl rfl hC rfl (fun w hC => y_loadB1 (hC.ownAt 1 rfl) rfl Try.isAgg3 rfl) fun a hs => ?_
        refine h_get hs (i := 2) rfl (by kernel_rfl) rfl rfl hC rfl (fun w hC => y_move rfl) fun a hs => ?_
        refine h_get hs (i := 3) rfl (by kernel_rfl) rfl rfl hC rfl (fun w hC => y_quoM rfl rfl h27) fun a hs => ?_
        refine h_get hs (i := 4) rfl (by kernel_rfl) rfl rfl hC rfl (fun w hC => y_fieldAddr (o' := 1) Try.runUnderlying60 rfl Try.sizeOf3 rfl rfl rfl) fun a hs => ?_
        refine h_get hs (i := 5) rfl (by kernel_rfl) rfl rfl hC rfl (fun w hC => y_loadB1 (hC.ownAt 1 rfl) rfl Try.isAgg3 rfl) fun a hs => ?_
        refine h_get hs (i := 6) rfl (by kernel_rfl) rfl rfl hC rfl (fun w hC => y_move rfl) fun a hs => ?_
        refine h_get hs (i := 7) rfl (by kernel_rfl) rfl rfl hC rfl (fun w hC => y_move rfl) fun a hs => ?_
        refine h_get hs (i := 8) rfl (by kernel_rfl) rfl rfl hC rfl (fun w hC => y_quoM rfl rfl h29) fun a hs => ?_
        refine h_get hs (i := 9) rfl (by kernel_rfl) rfl rfl hC rfl (fun w hC => y_mul rfl rfl) fun a hs => ?_
        refine h_get hs (i := 10) rfl (by kernel_rfl) rfl rfl hC rfl (fun w hC => y_build (vs := [(0, .int .i64 quo28), (1, .int .i64 (w64 (r1.Den * quo30)))]) Bld60 rfl rfl) fun a hs => ?_
        refine h_all (rs := [11]) (by kernel_rfl) rfl ?_
        refine AllH.cons rfl ?_ ?_
        · refine w_alloc (cs := [.int .i64 0, .int .i64 0]) hs hw Try.zeroValue60 rfl rfl trivial ?_
          intro b31 a w hs hw
          refine wpList_nil ?_
          refine then_normal ?_
          have hC : Cls [.box b4 [.int .i64 0, .int .i64 0] 60, .box b3 [.int .i64 r1.Num, .int .i64 r1.Den] 60] [] _ := hw.cs [1, 2] [] rfl rfl
          refine ⟨hC, ?_⟩
          refine h_all (rs := [12]) (by kernel_rfl) rfl ?_
          refine AllH.cons rfl ?_ ?_
          · refine w_store (m := 2) (cs' := [.int .i64 quo28, .int .i64 (w64 (r1.Den * quo30))]) hs hw 0 rfl rfl rfl Try.sizeOf60 rfl rfl rfl rfl trivial ?_
            intro a w hs hw
            refine wpList_nil ?_
            refine then_normal ?_
            have hC : Cls [.box b4 [.int .i64 0, .int .i64 0] 60, .box b3 [.int .i64 r1.Num, .int .i64 r1.Den] 60] [] _ := hw.cs [1, 2] [] rfl rfl
            refine ⟨hC, ?_⟩
            refine h_done (by kernel_rfl) ?_
            exact ⟨Sv23, b31, (hs.wk rfl), (hw.ft [1, 0] [] (by decide) rfl rfl)⟩
          exact AllH.nil
        exact AllH.nil
      · rintro a w ⟨Sv32, b31, hs, hw⟩
        refine then_normal ?_
        refine wp_seq ?_
        refine wp_seq ?_
        refine wp_region_lit ?_
        refine st_val hs (y_loadBA (hw.ownAt 1 rfl) rfl Try.isAgg60 Try.sizeOf60 rfl rfl) trivial rfl rfl fun a hs => ?_
        obtain ⟨rv34, h33, hsh⟩ := bind_t hsh
        refine st_callR hs (rate_Valid_ok h33 hw.dom) (do_call Try.call65 rfl) trivial rfl rfl ?_
        intro v38 Sv35 w a h36 h37 hs
        subst h37
        have hw := hw.call h36
        refine st_val hs (y_not rfl) trivial rfl rfl fun a hs => ?_
        refine wpList_nil ?_
        refine then_normal ?_
        refine wp_cond_split (hs.ev rfl) (fun h40 => ?_) (fun h40 => ?_)
        · have hsh := ite_t hsh h40
          refine wp_seq ?_
          refine wp_region_lit ?_
          refine st_val hs (y_build (vs := []) Bld60 rfl rfl) trivial rfl rfl fun a hs => ?_
          refine w_store (m := 2) (cs' := [.int .i64 0, .int .i64 0]) hs hw 0 rfl rfl rfl Try.sizeOf60 rfl rfl rfl rfl trivial ?_
          intro a w hs hw
          refine st_val hs (y_assign rfl) trivial rfl rfl fun a hs => ?_
          refine wpList_nil ?_
          refine then_normal ?_
          have hsh := Option.some.inj hsh
          subst hsh
          refine wp_ret ?_
          refine then_ret ?_
          exact ret2 hs rfl (rv_cell hw 0 rfl rfl Try.isAgg60 Try.sizeOf60 rfl) (rv_tmp rfl) (hw.ret rfl)
        · have hsh := ite_f hsh h40
          refine wp_skip ?_
          refine then_normal ?_
          refine wp_seq ?_
          refine wp_region_lit ?_
          refine st_val hs (y_loadBA (hw.ownAt 1 rfl) rfl Try.isAgg60 Try.sizeOf60 rfl rfl) trivial rfl rfl fun a hs => ?_
          refine w_store (m := 2) (cs' := [.int .i64 quo28, .int .i64 (w64 (r1.Den * quo30))]) hs hw 0 rfl rfl rfl Try.sizeOf60 rfl rfl rfl rfl trivial ?_
          intro a w hs hw
          refine st_val hs (y_assign rfl) trivial rfl rfl fun a hs => ?_
          refine wpList_nil ?_
          refine then_normal ?_
          have hsh := Option.some.inj hsh
          subst hsh
          refine wp_ret ?_
          exact ret2 hs rfl (rv_cell hw 0 rfl rfl Try.isAgg60 Try.sizeOf60 rfl) (rv_tmp rfl) (hw.ret rfl)

abbrev rate_Number_rd (w0 : World) (r : (Int × Int)) : (Nat → Prop) → World → Value → Prop := fun S w v => v = .tuple #[.int .i64 r.1, .int .i64 r.2]
set_option maxHeartbeats 4000000 in
set_option maxRecDepth 100000 in
theorem rate_Number_ok {w0 : World} {S0 : Nat → Prop} {r1 : Rate} {t2 : Int} {r : (Int × Int)} (hsh : rate_Number r1 t2 = some r) (hS : ∀ b, S0 b → b < w0.heap.size) : Calls Try.prog 51 #[.agg #[.int .i64 r1.Num, .int .i64 r1.Den], .int .i64 t2] w0 (Ret [] w0 S0 (rate_Number_rd w0 r)) := by
  refine calls_of_wp Try.func51 rfl ?_
  have hs := Sl.enter #[.agg #[.int .i64 r1.Num, .int .i64 r1.Den], .int .i64 t2] 34 [(0, .agg #[.int .i64 r1.Num, .int .i64 r1.Den]), (1, .int .i64 t2)] rfl ⟨rfl, rfl, trivial⟩
  have hw := Wd.enter (E := []) hS (fun _ h => (by cases h))
  delta rate_Number at hsh
  refine wp_seq ?_
  refine wp_region_lit ?_
  refine w_box (cs := [.int .i64 r1.Num, .int .i64 r1.Den]) hs hw rfl rfl rfl trivial ?_
  intro b3 a w hs hw
  refine st_val hs (y_assign rfl) trivial rfl rfl fun a hs => ?_
  refine st_val hs (y_assign rfl) trivial rfl rfl fun a hs => ?_
  refine wpList_nil ?_
  refine then_normal ?_
  refine wp_seq ?_
  refine wp_seq ?_
  refine wp_region_lit ?_
  refine st_val hs (y_loadBA (hw.ownAt 0 rfl) rfl Try.isAgg60 Try.sizeOf60 rfl rfl) trivial rfl rfl fun a hs => ?_
  obtain ⟨rv5, h4, hsh⟩ := bind_t hsh
  refine st_callR hs (rate_Valid_ok h4 hw.dom) (do_call Try.call65 rfl) trivial rfl rfl ?_
  intro v9 Sv6 w a h7 h8 hs
  subst h8
  have hw := hw.call h7
  refine st_val hs (y_not rfl) trivial rfl rfl fun a hs => ?_
  refine wpList_nil ?_
  refine then_normal ?_
  refine wp_cond_split (hs.ev rfl) (fun h11 => ?_) (fun h11 => ?_)
  · have hsh := ite_t hsh h11
    refine wp_seq ?_
    refine wp_region_lit ?_
    refine st_val hs (y_assign rfl) trivial rfl rfl fun a hs => ?_
    refine st_val hs (y_assign rfl) trivial rfl rfl fun a hs => ?_
    refine wpList_nil ?_
    refine then_normal ?_
    have hsh := Option.some.inj hsh
    subst hsh
    refine wp_ret ?_
    refine then_ret ?_
    exact ret2 hs rfl (rv_tmp rfl) (rv_tmp rfl) (hw.ret rfl)
  · have hsh := ite_f hsh h11
    refine wp_skip ?_
    refine then_normal ?_
    refine wp_seq ?_
    refine wp_seq ?_
    refine wp_region_lit ?_
    refine st_val hs (y_move rfl) trivial rfl rfl fun a hs => ?_
    obtain ⟨rv13, h12, hsh⟩ := bind_t hsh
    refine st_callR hs (rate_in_ok h12 hw.dom) (do_call Try.call66 rfl) trivial rfl rfl ?_
    intro v17 Sv14 w a h15 h16 hs
    subst h16
    have hw := hw.call h15
    refine st_val hs (y_not rfl) trivial rfl rfl fun a hs => ?_
    refine wpList_nil ?_
    refine then_normal ?_
    refine wp_cond_split (hs.ev rfl) (fun h19 => ?_) (fun h19 => ?_)
    · have hsh := ite_t hsh h19
      refine wp_seq ?_
      refine wp_region_lit ?_
      refine st_val hs (y_assign rfl) trivial rfl rfl fun a hs => ?_
      refine st_val hs (y_assign rfl) trivial rfl rfl fun a hs => ?_
      refine wpList_nil ?_
      refine then_normal ?_
      have hsh := Option.some.inj hsh
      subst hsh
      refine wp_ret ?_
      refine then_ret ?_
      exact ret2 hs rfl (rv_tmp rfl) (rv_tmp rfl) (hw.ret rfl)
    · have hsh := ite_f hsh h19
      refine wp_skip ?_
      refine then_normal ?_
      refine wp_seq ?_
      refine wp_region_lit ?_
      refine st_val hs (y_loadBA (hw.ownAt 0 rfl) rfl Try.isAgg60 Try.sizeOf60 rfl rfl) trivial rfl rfl fun a hs => ?_
      obtain ⟨rv21, h20, hsh⟩ := bind_t hsh
      refine st_callR hs (rate_micros_ok h20 hw.dom) (do_call Try.call69 rfl) trivial rfl rfl ?_
      intro v25 Sv22 w a h23 h24 hs
      subst h24
      have hw := hw.call h23
      refine st_val hs (y_assign rfl) trivial rfl rfl fun a hs => ?_
      refine wpList_nil ?_
      refine then_normal ?_
      refine wp_seq ?_
      obtain ⟨quo27, h26, hsh⟩ := bind_t hsh
      obtain ⟨rem29, h28, hsh⟩ := bind_t hsh
      obtain ⟨quo31, h30, hsh⟩ := bind_t hsh
      obtain ⟨x33, h32, hsh⟩ := bind_t hsh
      refine wp_only (fun a w => ∃ (Sv34 : Nat → Prop), Sl 34 [(4, .int .i64 x33), (5, .int .i64 0)] a ∧ Wd ⟨w0, S0, []⟩ Sv34 [] [] w) ?_ ?_
      · refine h_begin (C := Cls [.box b3 [.int .i64 r1.Num, .int .i64 r1.Den] 60] []) (by kernel_rfl) rfl ?_
        have hw := hw.drew
        have hC : Cls [.box b3 [.int .i64 r1.Num, .int .i64 r1.Den] 60] [] _ := hw.cs [0] [] rfl rfl
        refine h_get hs (i := 0) rfl (by kernel_rfl) rfl rfl hC rfl (fun w hC => y_move rfl) fun a hs => ?_
        refine h_get hs (i := 1) rfl (by kernel_rfl) rfl rfl hC rfl (fun w hC => y_move rfl) fun a hs => ?_
        refine h_get hs (i := 2) rfl (by kernel_rfl) rfl rfl hC rfl (fun w hC => y_quoM rfl rfl h26) fun a hs => ?_
        refine h_get hs (i := 3) rfl (by kernel_rfl) rfl rfl hC rfl (fun w hC => y_fieldAddr (o' := 0) Try.runUnderlying60 rfl Try.sizeOf3 rfl rfl rfl) fun a hs => ?_
        refine h_get hs (i := 4) rfl (by kernel_rfl) rfl rfl hC rfl (fun w hC => y_loadB1 (hC.ownAt 0 rfl) rfl Try.isAgg3 rfl) fun a hs => ?_
        refine h_get hs (i := 5) rfl (by kernel_rfl) rfl rfl hC rfl (fun w hC => y_mul rfl rfl) fun a hs => ?_
        refine h_get hs (i := 6) rfl (by kernel_rfl) rfl rfl hC rfl (fun w hC => y_move rfl) fun a hs => ?_
        refine h_get hs (i := 7) rfl (by kernel_rfl) rfl rfl hC rfl (fun w hC => y_move rfl) fun a hs => ?_
        refine h_get hs (i := 8) rfl (by kernel_rfl) rfl rfl hC rfl (fun w hC => y_remM rfl rfl h28) fun a hs => ?_
        refine h_get hs (i := 9) rfl (by kernel_rfl) rfl rfl hC rfl (fun w hC => y_mul rfl rfl) fun a hs => ?_
        refine h_get hs (i := 10) rfl (by kernel_rfl) rfl rfl hC rfl (fun w hC => y_fieldAddr (o' := 0) Try.runUnderlying60 rfl Try.sizeOf3 rfl rfl rfl) fun a hs => ?_
        refine h_get hs (i := 11) rfl (by kernel_rfl) rfl rfl hC rfl (fun w hC => y_loadB1 (hC.ownAt 0 rfl) rfl Try.isAgg3 rfl) fun a hs => ?_
        refine h_get hs (i := 12) rfl (by kernel_rfl) rfl rfl hC rfl (fun w hC => y_mul rfl rfl) fun a hs => ?_
        refine h_get hs (i := 13) rfl (by kernel_rfl) rfl rfl hC rfl (fun w hC => y_move rfl) fun a hs => ?_
        refine h_get hs (i := 14) rfl (by kernel_rfl) rfl rfl hC rfl (fun w hC => y_add rfl rfl) fun a hs => ?_
        refine h_get hs (i := 15) rfl (by kernel_rfl) rfl rfl hC rfl (fun w hC => y_move rfl) fun a hs => ?_
        refine h_get hs (i := 16) rfl (by kernel_rfl) rfl rfl hC rfl (fun w hC => y_mul rfl rfl) fun a hs => ?_
        refine h_get hs (i := 17) rfl (by kernel_rfl) rfl rfl hC rfl (fun w hC => y_quoM rfl rfl h30) fun a hs => ?_
        refine h_get hs (i := 18) rfl (by kernel_rfl) rfl rfl hC rfl (fun w hC => y_add rfl rfl) fun a hs => ?_
        refine h_get hs (i := 19) rfl (by kernel_rfl) rfl rfl hC rfl (fun w hC => y_assignI rfl h32) fun a hs => ?_
        refine h_get hs (i := 20) rfl (by kernel_rfl) rfl rfl hC rfl (fun w hC => y_assign rfl) fun a hs => ?_
        refine h_done (by kernel_rfl) ?_
        exact ⟨Sv22, (hs.wk rfl), (hw.ft [] [] (by decide) rfl rfl)⟩
      · rintro a w ⟨Sv34, hs, hw⟩
        refine then_normal ?_
        have hsh := Option.some.inj hsh
        subst hsh
        refine wp_ret ?_
        exact ret2 hs rfl (rv_tmp rfl) (rv_tmp rfl) (hw.ret rfl)

end Go.Proofs.Ytmihimhknllmcaa.Wk

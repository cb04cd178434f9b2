/- The walks of FilterConvolves, part 1: each Go function computes what its plain program computes. Printed by a program of ours. -/
import Derived.Test.YtmihimhknllmcaaProg
import Derived.Test.YtmihimhknllmcaaDat
import Derived.Test.YtmihimhknllmcaaSh
import Derived.Test.YtmihimhknllmcaaLibI
import Derived.KernelRfl
namespace Go.Proofs.Ytmihimhknllmcaa.Wk
open Go Go.RowKit Go.Proofs Go.Proofs.Ytmihimhknllmcaa.Sh
set_option linter.unusedVariables false
set_option linter.unusedSimpArgs false

theorem El22 : ElT Try.prog 22 3 1 8 (.int .i64 0) := ⟨Try.underlying22, ⟨Try.t3, info_of Try.type3, rfl, rfl, rfl⟩, rfl, by decide⟩
theorem Bld28 : BldT Try.prog 28 ((#[(0, 1), (1, 1), (2, 1)] : Array (Nat × Nat))[·]?) [.slice none ([] : List Int).length 0, .int .i64 0, .int .i64 0] := bld_of Try.zeroValue28 rfl Try.runUnderlying28 (fun w => by simp [Try.sizeOf3, Try.sizeOf22])
theorem Bld75 : BldT Try.prog 75 ((#[(0, 1), (1, 1)] : Array (Nat × Nat))[·]?) [.slice none ([] : List Int).length 0, .int .i64 0] := bld_of Try.zeroValue75 rfl Try.runUnderlying75 (fun w => by simp [Try.sizeOf3, Try.sizeOf22])

abbrev made_Light_rd (w0 : World) (r : Bool) : (Nat → Prop) → World → Value → Prop := fun S w v => v = .bool r
set_option maxHeartbeats 4000000 in
set_option maxRecDepth 100000 in
theorem made_Light_ok {w0 : World} {S0 : Nat → Prop} {p2 : Option Addr} {k3 : Nat} {l1 : (List Int)} {r : Bool} (hsh : made_Light l1 = some r) (hS : ∀ b, S0 b → b < w0.heap.size) (h4 : (SlA p2 l1.length k3 l1).p S0 w0) : Calls Try.prog 10 #[.slice p2 l1.length k3] w0 (Ret [] w0 S0 (made_Light_rd w0 r)) := by
  refine calls_of_wp Try.func10 rfl ?_
  have hs := Sl.enter #[.slice p2 l1.length k3] 6 [(0, .slice p2 l1.length k3)] rfl ⟨rfl, trivial⟩
  have hw := Wd.enter (E := []) hS (fun _ h => (by cases h))
  have hw := hw.addE h4
  delta made_Light at hsh
  refine wp_seq ?_
  refine wp_region_lit ?_
  refine st_val hs (y_assign rfl) trivial rfl rfl fun a hs => ?_
  refine wpList_nil ?_
  refine then_normal ?_
  refine wp_seq ?_
  refine wp_region_lit ?_
  refine st_val hs (y_move rfl) trivial rfl rfl fun a hs => ?_
  refine st_val hs (y_len Try.runUnderlying22 rfl) trivial rfl rfl fun a hs => ?_
  refine st_val hs (y_leq rfl rfl) trivial rfl rfl fun a hs => ?_
  refine st_val hs (y_assign rfl) trivial rfl rfl fun a hs => ?_
  refine wpList_nil ?_
  refine then_normal ?_
  have hsh := Option.some.inj hsh
  subst hsh
  refine wp_ret ?_
  exact ret1 hs rfl (rv_tmp rfl) (hw.ret rfl)

abbrev filter_in_rd (w0 : World) (r : Bool) : (Nat → Prop) → World → Value → Prop := fun S w v => v = .bool r
set_option maxHeartbeats 4000000 in
set_option maxRecDepth 100000 in
theorem filter_in_ok {w0 : World} {S0 : Nat → Prop} {n1 : Int} {low2 : Int} {high3 : Int} {r : Bool} (hsh : filter_in n1 low2 high3 = some r) (hS : ∀ b, S0 b → b < w0.heap.size) : Calls Try.prog 46 #[.int .i64 n1, .int .i64 low2, .int .i64 high3] w0 (Ret [] w0 S0 (filter_in_rd w0 r)) := by
  refine calls_of_wp Try.func46 rfl ?_
  have hs := Sl.enter #[.int .i64 n1, .int .i64 low2, .int .i64 high3] 15 [(0, .int .i64 n1), (1, .int .i64 low2), (2, .int .i64 high3)] rfl ⟨rfl, rfl, rfl, trivial⟩
  have hw := Wd.enter (E := []) hS (fun _ h => (by cases h))
  delta filter_in at hsh
  refine wp_seq ?_
  refine wp_region_lit ?_
  refine st_val hs (y_assign rfl) trivial rfl rfl fun a hs => ?_
  refine wpList_nil ?_
  refine then_normal ?_
  refine wp_seq ?_
  refine wp_region_lit ?_
  refine st_val hs (y_move rfl) trivial rfl rfl fun a hs => ?_
  refine st_val hs (y_move rfl) trivial rfl rfl fun a hs => ?_
  refine st_val hs (y_geq rfl rfl) trivial rfl rfl fun a hs => ?_
  refine st_val hs (y_move rfl) trivial rfl rfl fun a hs => ?_
  refine wpl_join 4 (fun a w1 => w0 = w1 ∧ Sl 15 [(14, .bool ((decide (low2 ≤ n1)) && (decide (n1 ≤ high3))))] a) ?_ ?_
  · rcases Bool.eq_false_or_eq_true (decide (low2 ≤ n1)) with h4 | h4
    · have hs := hs.fix 10 (.bool true) rfl (vb h4)
      refine st_val hs (y_move rfl) ⟨_, rfl, rfl⟩ rfl rfl fun a hs => ?_
      refine st_val hs (y_move rfl) ⟨_, rfl, rfl⟩ rfl rfl fun a hs => ?_
      refine st_val hs (y_leq rfl rfl) ⟨_, rfl, rfl⟩ rfl rfl fun a hs => ?_
      refine st_val hs (y_pickT rfl rfl) trivial rfl rfl fun a hs => ?_
      refine wpList_nil ?_
      refine then_normal ?_
      exact ⟨rfl, (hs.fix 14 (.bool ((decide (low2 ≤ n1)) && (decide (n1 ≤ high3)))) rfl (and_t h4)).weaken _ ⟨rfl, trivial⟩⟩
    · have hs := hs.fix 10 (.bool false) rfl (vb h4)
      refine st_skip hs rfl rfl rfl rfl rfl fun a hs => ?_
      refine st_skip hs rfl rfl rfl rfl rfl fun a hs => ?_
      refine st_skip hs rfl rfl rfl rfl rfl fun a hs => ?_
      refine st_val hs (y_pickF rfl rfl) trivial rfl rfl fun a hs => ?_
      refine wpList_nil ?_
      refine then_normal ?_
      exact ⟨rfl, (hs.fix 14 (.bool ((decide (low2 ≤ n1)) && (decide (n1 ≤ high3)))) rfl (and_f h4)).weaken _ ⟨rfl, trivial⟩⟩
  · rintro a w1 ⟨h5, hs⟩
    subst h5
    refine st_val hs (y_assign rfl) trivial rfl rfl fun a hs => ?_
    refine wpList_nil ?_
    refine then_normal ?_
    have hsh := Option.some.inj hsh
    subst hsh
    refine wp_ret ?_
    exact ret1 hs rfl (rv_tmp rfl) (hw.ret rfl)

abbrev filter_Valid_rd (w0 : World) (r : Bool) : (Nat → Prop) → World → Value → Prop := fun S w v => v = .bool r
set_option maxHeartbeats 4000000 in
set_option maxRecDepth 100000 in
theorem filter_Valid_ok {w0 : World} {S0 : Nat → Prop} {p2 : Option Addr} {k3 : Nat} {f1 : Filter} {r : Bool} (hsh : filter_Valid f1 = some r) (hS : ∀ b, S0 b → b < w0.heap.size) (h4 : (SlA p2 f1.Taps.length k3 f1.Taps).p S0 w0) : Calls Try.prog 32 #[.agg #[.slice p2 f1.Taps.length k3, .int .i64 f1.Factor, .int .i64 f1.Shift]] w0 (Ret [] w0 S0 (filter_Valid_rd w0 r)) := by
  refine calls_of_wp Try.func32 rfl ?_
  have hs := Sl.enter #[.agg #[.slice p2 f1.Taps.length k3, .int .i64 f1.Factor, .int .i64 f1.Shift]] 45 [(0, .agg #[.slice p2 f1.Taps.length k3, .int .i64 f1.Factor, .int .i64 f1.Shift])] rfl ⟨rfl, trivial⟩
  have hw := Wd.enter (E := []) hS (fun _ h => (by cases h))
  have hw := hw.addE h4
  delta filter_Valid at hsh
  refine wp_seq ?_
  refine wp_region_lit ?_
  refine w_box (cs := [.slice p2 f1.Taps.length k3, .int .i64 f1.Factor, .int .i64 f1.Shift]) hs hw rfl rfl rfl trivial ?_
  intro b5 a w hs hw
  refine st_val hs (y_assign rfl) trivial rfl rfl fun a hs => ?_
  refine wpList_nil ?_
  refine then_normal ?_
  refine wp_seq ?_
  refine wp_seq ?_
  refine wp_region_lit ?_
  refine st_val hs (y_fieldAddr (o' := 0) Try.runUnderlying28 rfl Try.sizeOf22 rfl rfl rfl) trivial rfl rfl fun a hs => ?_
  refine st_val hs (y_loadB1 (hw.ownAt 0 rfl) rfl Try.isAgg22 rfl) trivial rfl rfl fun a hs => ?_
  refine st_val hs (y_len Try.runUnderlying22 rfl) trivial rfl rfl fun a hs => ?_
  obtain ⟨rv7, h6, hsh⟩ := bind_t hsh
  refine st_callR hs (filter_in_ok h6 hw.dom) (do_call Try.call46 rfl) trivial rfl rfl ?_
  intro v11 Sv8 w a h9 h10 hs
  subst h10
  have hw := hw.call h9
  refine st_val hs (y_not rfl) trivial rfl rfl fun a hs => ?_
  refine st_val hs (y_move rfl) trivial rfl rfl fun a hs => ?_
  obtain ⟨c19, hc19, hsh⟩ := bind_t hsh
  refine wpl_join 5 (fun a w => ∃ (Sv20 : Nat → Prop), Sl 45 [(1, .pointer (some ⟨b5, 0, none⟩)), (16, .bool c19)] a ∧ Wd ⟨w0, S0, []⟩ Sv20 [.box b5 [.slice p2 f1.Taps.length k3, .int .i64 f1.Factor, .int .i64 f1.Shift] 28] [SlA p2 f1.Taps.length k3 f1.Taps] w) ?_ ?_
  · rcases Bool.eq_false_or_eq_true (!rv7) with h18 | h18
    · have hs := hs.fix 11 (.bool true) rfl (vb h18)
      have hsh := ite_t hc19 h18
      refine st_skip hs rfl rfl rfl rfl rfl fun a hs => ?_
      refine st_skip hs rfl rfl rfl rfl rfl fun a hs => ?_
      refine st_skip hs rfl rfl rfl rfl rfl fun a hs => ?_
      refine st_skip hs rfl rfl rfl rfl rfl fun a hs => ?_
      refine st_val hs (y_pickT rfl rfl) trivial rfl rfl fun a hs => ?_
      refine wpList_nil ?_
      have hsh := Option.some.inj hsh
      subst hsh
      refine then_normal ?_
      exact ⟨Sv8, (hs.weaken _ ⟨rfl, rfl, trivial⟩), (hw.fit [0] (by decide) ⟨rfl, trivial⟩ ⟨⟨0, rfl⟩, trivial⟩)⟩
    · have hs := hs.fix 11 (.bool false) rfl (vb h18)
      have hsh := ite_f hc19 h18
      refine st_val hs (y_fieldAddr (o' := 2) Try.runUnderlying28 rfl Try.sizeOf3 rfl rfl rfl) ⟨_, rfl, rfl⟩ rfl rfl fun a hs => ?_
      refine st_val hs (y_loadB1 (hw.ownAt 0 rfl) rfl Try.isAgg3 rfl) ⟨_, rfl, rfl⟩ rfl rfl fun a hs => ?_
      obtain ⟨rv22, h21, hsh⟩ := bind_t hsh
      refine st_callR hs (filter_in_ok h21 hw.dom) (do_call Try.call46 rfl) ⟨_, rfl, rfl⟩ rfl rfl ?_
      intro v26 Sv23 w a h24 h25 hs
      subst h25
      have hw := hw.call h24
      refine st_val hs (y_not rfl) ⟨_, rfl, rfl⟩ rfl rfl fun a hs => ?_
      refine st_val hs (y_pickF rfl rfl) trivial rfl rfl fun a hs => ?_
      refine wpList_nil ?_
      have hsh := Option.some.inj hsh
      subst hsh
      refine then_normal ?_
      exact ⟨Sv23, (hs.weaken _ ⟨rfl, rfl, trivial⟩), (hw.fit [0] (by decide) ⟨rfl, trivial⟩ ⟨⟨0, rfl⟩, trivial⟩)⟩
  · rintro a w ⟨Sv20, hs, hw⟩
    refine st_val hs (y_move rfl) trivial rfl rfl fun a hs => ?_
    obtain ⟨c34, hc34, hsh⟩ := bind_t hsh
    refine wpl_join 5 (fun a w => ∃ (Sv35 : Nat → Prop), Sl 45 [(1, .pointer (some ⟨b5, 0, none⟩)), (22, .bool c34)] a ∧ Wd ⟨w0, S0, []⟩ Sv35 [.box b5 [.slice p2 f1.Taps.length k3, .int .i64 f1.Factor, .int .i64 f1.Shift] 28] [SlA p2 f1.Taps.length k3 f1.Taps] w) ?_ ?_
    · rcases Bool.eq_false_or_eq_true c19 with h33 | h33
      · have hs := hs.fix 17 (.bool true) rfl (vb h33)
        have hsh := ite_t hc34 h33
        refine st_skip hs rfl rfl rfl rfl rfl fun a hs => ?_
        refine st_skip hs rfl rfl rfl rfl rfl fun a hs => ?_
        refine st_skip hs rfl rfl rfl rfl rfl fun a hs => ?_
        refine st_skip hs rfl rfl rfl rfl rfl fun a hs => ?_
        refine st_val hs (y_pickT rfl rfl) trivial rfl rfl fun a hs => ?_
        refine wpList_nil ?_
        have hsh := Option.some.inj hsh
        subst hsh
        refine then_normal ?_
        exact ⟨Sv20, (hs.weaken _ ⟨rfl, rfl, trivial⟩), (hw.fit [0] (by decide) ⟨rfl, trivial⟩ ⟨⟨0, rfl⟩, trivial⟩)⟩
      · have hs := hs.fix 17 (.bool false) rfl (vb h33)
        have hsh := ite_f hc34 h33
        refine st_val hs (y_fieldAddr (o' := 1) Try.runUnderlying28 rfl Try.sizeOf3 rfl rfl rfl) ⟨_, rfl, rfl⟩ rfl rfl fun a hs => ?_
        refine st_val hs (y_loadB1 (hw.ownAt 0 rfl) rfl Try.isAgg3 rfl) ⟨_, rfl, rfl⟩ rfl rfl fun a hs => ?_
        obtain ⟨rv37, h36, hsh⟩ := bind_t hsh
        refine st_callR hs (filter_in_ok h36 hw.dom) (do_call Try.call46 rfl) ⟨_, rfl, rfl⟩ rfl rfl ?_
        intro v41 Sv38 w a h39 h40 hs
        subst h40
        have hw := hw.call h39
        refine st_val hs (y_not rfl) ⟨_, rfl, rfl⟩ rfl rfl fun a hs => ?_
        refine st_val hs (y_pickF rfl rfl) trivial rfl rfl fun a hs => ?_
        refine wpList_nil ?_
        have hsh := Option.some.inj hsh
        subst hsh
        refine then_normal ?_
        exact ⟨Sv38, (hs.weaken _ ⟨rfl, rfl, trivial⟩), (hw.fit [0] (by decide) ⟨rfl, trivial⟩ ⟨⟨0, rfl⟩, trivial⟩)⟩
    · rintro a w ⟨Sv35, hs, hw⟩
      refine wpList_nil ?_
      refine then_normal ?_
      refine wp_cond_split (hs.ev rfl) (fun h43 => ?_) (fun h43 => ?_)
      · have hsh := ite_t hsh h43
        refine wp_seq ?_
        refine wp_region_lit ?_
        refine st_val hs (y_assign rfl) trivial rfl rfl fun a hs => ?_
        refine wpList_nil ?_
        refine then_normal ?_
        have hsh := Option.some.inj hsh
        subst hsh
        refine wp_ret ?_
        refine then_ret ?_
        exact ret1 hs rfl (rv_tmp rfl) (hw.ret rfl)
      · have hsh := ite_f hsh h43
        refine wp_skip ?_
        refine then_normal ?_
        refine wp_seq ?_
        refine wp_region_lit ?_
        refine st_val hs (y_assign rfl) trivial rfl rfl fun a hs => ?_
        refine wpList_nil ?_
        refine then_normal ?_
        refine wp_seq ?_
        refine wp_seq ?_
        refine wp_region_lit ?_
        refine st_val hs (y_fieldAddr (o' := 0) Try.runUnderlying28 rfl Try.sizeOf22 rfl rfl rfl) trivial rfl rfl fun a hs => ?_
        refine st_val hs (y_loadB1 (hw.ownAt 0 rfl) rfl Try.isAgg22 rfl) trivial rfl rfl fun a hs => ?_
        refine st_val hs (y_len Try.runUnderlying22 rfl) trivial rfl rfl fun a hs => ?_
        refine st_val hs (y_move rfl) trivial rfl rfl fun a hs => ?_
        refine wpList_nil ?_
        refine then_normal ?_
        refine wp_block ?_
        refine wp_while (fun sv181 a w => ∃ (Sv271 : Nat → Prop), Sl 45 [(1, .pointer (some ⟨b5, 0, none⟩)), (3, .int .i64 sv181.1), (24, .slice p2 f1.Taps.length k3), (25, .int .i64 (f1.Taps.length : Int)), (26, .int .i64 sv181.2)] a ∧ Wd ⟨w0, S0, []⟩ Sv271 [.box b5 [.slice p2 f1.Taps.length k3, .int .i64 f1.Factor, .int .i64 f1.Shift] 28] [SlA p2 f1.Taps.length k3 f1.Taps] w) (0, 0) hsh ⟨Sv35, (hs.weaken _ ⟨rfl, rfl, rfl, rfl, rfl, trivial⟩), (hw.fit [0] (by decide) ⟨rfl, trivial⟩ ⟨⟨0, rfl⟩, trivial⟩)⟩ ?_
        repeat clear hsh
        rintro sv181 a w tv317 ⟨Sv271, hs, hw⟩ hsh hd316
        delta filter_Valid_l2 at hsh
        refine wp_seq ?_
        refine wp_region_lit ?_
        refine st_val hs (y_lss rfl rfl) trivial rfl rfl fun a hs => ?_
        refine wpList_nil ?_
        refine then_normal ?_
        refine wp_seq ?_
        refine wp_cond_split (hs.ev rfl) (fun h321 => ?_) (fun h321 => ?_)
        · have hsh := ite_t hsh h321
          refine wp_skip ?_
          refine then_normal ?_
          refine wp_seq ?_
          refine wp_block ?_
          refine wp_seq ?_
          refine wp_region_lit ?_
          obtain ⟨x345, h343, hsh⟩ := bind_t hsh
          obtain ⟨b351, o352, q349, c350, h353, h346, h347, h348, h344⟩ := hw.elemV 0 rfl h343
          subst h353
          obtain ⟨_, rfl, rfl⟩ := h344
          have hw := hw.addE h348
          refine st_val hs (y_indexAt Try.runUnderlying22 Try.sizeOf3 rfl rfl h346.1 h346.2 h347) trivial rfl rfl fun a hs => ?_
          refine st_val hs (y_loadE1 (j := 0) (hw.ceAt 0 rfl) rfl Try.isAgg3 rfl) trivial rfl rfl fun a hs => ?_
          refine st_val hs (y_assign rfl) trivial rfl rfl fun a hs => ?_
          refine wpList_nil ?_
          refine then_normal ?_
          refine wp_seq ?_
          refine wp_seq ?_
          refine wp_region_lit ?_
          refine st_val hs (y_move rfl) trivial rfl rfl fun a hs => ?_
          obtain ⟨rv355, h354, hsh⟩ := bind_t hsh
          refine st_callR hs (filter_in_ok h354 hw.dom) (do_call Try.call46 rfl) trivial rfl rfl ?_
          intro v359 Sv356 w a h357 h358 hs
          subst h358
          have hw := hw.call h357
          refine st_val hs (y_not rfl) trivial rfl rfl fun a hs => ?_
          refine wpList_nil ?_
          refine then_normal ?_
          refine wp_cond_split (hs.ev rfl) (fun h361 => ?_) (fun h361 => ?_)
          · have hsh := ite_t hsh h361
            refine wp_seq ?_
            refine wp_region_lit ?_
            refine st_val hs (y_assign rfl) trivial rfl rfl fun a hs => ?_
            refine wpList_nil ?_
            refine then_normal ?_
            have hsh := Option.some.inj hsh
            subst hsh
            have h362 := hd316 _ rfl
            subst h362
            refine wp_ret ?_
            refine then_ret ?_
            refine blk_ret ?_
            refine then_ret ?_
            refine then_ret ?_
            refine blk_ret ?_
            refine then_ret ?_
            exact ret1 hs rfl (rv_tmp rfl) (hw.ret rfl)
          · have hsh := ite_f hsh h361
            refine wp_skip ?_
            refine then_normal ?_
            refine wp_region_lit ?_
            refine st_val hs (y_move rfl) trivial rfl rfl fun a hs => ?_
            refine st_val hs (y_move rfl) trivial rfl rfl fun a hs => ?_
            refine st_val hs (y_move rfl) trivial rfl rfl fun a hs => ?_
            refine st_val hs (y_neg rfl) trivial rfl rfl fun a hs => ?_
            refine st_val hs (y_max rfl rfl) trivial rfl rfl fun a hs => ?_
            refine st_val hs (y_add rfl rfl) trivial rfl rfl fun a hs => ?_
            obtain ⟨sum364, h363, hsh⟩ := bind_t hsh
            refine st_val hs (y_assignI rfl h363) trivial rfl rfl fun a hs => ?_
            refine wpList_nil ?_
            refine blk_normal ?_
            refine then_normal ?_
            refine wp_region_lit ?_
            refine st_val hs (y_add rfl rfl) trivial rfl rfl fun a hs => ?_
            refine st_val hs (y_move rfl) trivial rfl rfl fun a hs => ?_
            refine wpList_nil ?_
            refine then_normal ?_
            exact ⟨_, (Option.some.inj hsh).symm, Sv356, (hs.weaken _ ⟨rfl, rfl, rfl, rfl, rfl, trivial⟩), (hw.fit [0] (by decide) ⟨rfl, trivial⟩ ⟨⟨1, rfl⟩, trivial⟩)⟩
        · have hsh := ite_f hsh h321
          obtain ⟨rv367, hsh, h368⟩ := map_t hsh
          have h368 := hd316 _ h368.symm
          subst h368
          refine wp_exit ?_
          refine then_exit ?_
          refine then_exit ?_
          refine blk_exit ?_
          refine then_normal ?_
          refine wp_seq ?_
          refine wp_region_lit ?_
          refine st_val hs (y_move rfl) trivial rfl rfl fun a hs => ?_
          refine st_val hs (y_fieldAddr (o' := 2) Try.runUnderlying28 rfl Try.sizeOf3 rfl rfl rfl) trivial rfl rfl fun a hs => ?_
          refine st_val hs (y_loadB1 (hw.ownAt 0 rfl) rfl Try.isAgg3 rfl) trivial rfl rfl fun a hs => ?_
          obtain ⟨shl366, h365, hsh⟩ := bind_t hsh
          refine st_val hs (y_shlM rfl rfl h365) trivial rfl rfl fun a hs => ?_
          refine st_val hs (y_leq rfl rfl) trivial rfl rfl fun a hs => ?_
          refine st_val hs (y_assign rfl) trivial rfl rfl fun a hs => ?_
          refine wpList_nil ?_
          refine then_normal ?_
          have hsh := Option.some.inj hsh
          subst hsh
          refine wp_ret ?_
          exact ret1 hs rfl (rv_tmp rfl) (hw.ret rfl)

abbrev slices_IndexFunc_Lint_int_rd (w0 : World) (r : Int) : (Nat → Prop) → World → Value → Prop := fun S w v => v = .int .i64 r
set_option maxHeartbeats 4000000 in
set_option maxRecDepth 100000 in
theorem slices_IndexFunc_Lint_int_ok {w0 : World} {S0 : Nat → Prop} {p2 : Option Addr} {k3 : Nat} {g6 : Nat} {f7 : List Value} {cp8 : List Value} {s1 : (List Int)} {f5 : Int → Option Bool} {r : Int} (hsh : slices_IndexFunc_Lint_int s1 f5 = some r) (hS : ∀ b, S0 b → b < w0.heap.size) (h4 : (SlA p2 s1.length k3 s1).p S0 w0) (h9 : FnOk1 Try.prog g6 f7 cp8 f5) : Calls Try.prog 72 #[.slice p2 s1.length k3, .func (.func g6) f7.toArray cp8.toArray] w0 (Ret [] w0 S0 (slices_IndexFunc_Lint_int_rd w0 r)) := by
  refine calls_of_wp Try.func72 rfl ?_
  have hs := Sl.enter #[.slice p2 s1.length k3, .func (.func g6) f7.toArray cp8.toArray] 19 [(0, .slice p2 s1.length k3), (1, .func (.func g6) f7.toArray cp8.toArray)] rfl ⟨rfl, rfl, trivial⟩
  have hw := Wd.enter (E := []) hS (fun _ h => (by cases h))
  have hw := hw.addE h4
  delta slices_IndexFunc_Lint_int at hsh
  refine wp_seq ?_
  refine wp_region_lit ?_
  refine st_val hs (y_assign rfl) trivial rfl rfl fun a hs => ?_
  refine wpList_nil ?_
  refine then_normal ?_
  refine wp_seq ?_
  refine wp_seq ?_
  refine wp_region_lit ?_
  refine st_val hs (y_move rfl) trivial rfl rfl fun a hs => ?_
  refine st_val hs (y_len Try.runUnderlying22 rfl) trivial rfl rfl fun a hs => ?_
  refine st_val hs (y_move rfl) trivial rfl rfl fun a hs => ?_
  refine wpList_nil ?_
  refine then_normal ?_
  refine wp_block ?_
  refine wp_while (fun sv135 a w => ∃ (Sv217 : Nat → Prop), Sl 19 [(0, .slice p2 s1.length k3), (1, .func (.func g6) f7.toArray cp8.toArray), (7, .int .i64 (s1.length : Int)), (8, .int .i64 sv135)] a ∧ Wd ⟨w0, S0, []⟩ Sv217 [] [SlA p2 s1.length k3 s1] w) 0 hsh ⟨S0, (hs.weaken _ ⟨rfl, rfl, rfl, rfl, trivial⟩), (hw.fit [] (by decide) trivial ⟨⟨0, rfl⟩, trivial⟩)⟩ ?_
  repeat clear hsh
  rintro sv135 a w tv259 ⟨Sv217, hs, hw⟩ hsh hd258
  delta slices_IndexFunc_Lint_int_l2 at hsh
  refine wp_seq ?_
  refine wp_region_lit ?_
  refine st_val hs (y_lss rfl rfl) trivial rfl rfl fun a hs => ?_
  refine wpList_nil ?_
  refine then_normal ?_
  refine wp_seq ?_
  refine wp_cond_split (hs.ev rfl) (fun h263 => ?_) (fun h263 => ?_)
  · have hsh := ite_t hsh h263
    refine wp_skip ?_
    refine then_normal ?_
    refine wp_seq ?_
    refine wp_block ?_
    refine wp_seq ?_
    refine wp_region_lit ?_
    refine st_val hs (y_move rfl) trivial rfl rfl fun a hs => ?_
    refine st_val hs (y_assign rfl) trivial rfl rfl fun a hs => ?_
    refine wpList_nil ?_
    refine then_normal ?_
    refine wp_seq ?_
    refine wp_region_lit ?_
    refine st_val hs (y_move rfl) trivial rfl rfl fun a hs => ?_
    refine st_val hs (y_move rfl) trivial rfl rfl fun a hs => ?_
    refine st_val hs (y_move rfl) trivial rfl rfl fun a hs => ?_
    obtain ⟨x285, h283, hsh⟩ := bind_t hsh
    obtain ⟨b291, o292, q289, c290, h293, h286, h287, h288, h284⟩ := hw.elemV 0 rfl h283
    subst h293
    obtain ⟨_, rfl, rfl⟩ := h284
    have hw := hw.addE h288
    refine st_val hs (y_indexAt Try.runUnderlying22 Try.sizeOf3 rfl rfl h286.1 h286.2 h287) trivial rfl rfl fun a hs => ?_
    refine st_val hs (y_loadE1 (j := 0) (hw.ceAt 0 rfl) rfl Try.isAgg3 rfl) trivial rfl rfl fun a hs => ?_
    obtain ⟨rv295, h294, hsh⟩ := bind_t hsh
    refine st_callR hs (h9.2 hw.dom ⟨_, rfl, rfl⟩ h294) (do_callF h9.1 rfl rfl) trivial rfl rfl ?_
    intro v299 Sv296 w a h297 h298 hs
    subst h298
    have hw := hw.call h297
    refine wpList_nil ?_
    refine then_normal ?_
    refine wp_cond_split (hs.ev rfl) (fun h301 => ?_) (fun h301 => ?_)
    · have hsh := ite_t hsh h301
      refine wp_seq ?_
      refine wp_region_lit ?_
      refine st_val hs (y_move rfl) trivial rfl rfl fun a hs => ?_
      refine st_val hs (y_assign rfl) trivial rfl rfl fun a hs => ?_
      refine wpList_nil ?_
      refine then_normal ?_
      have hsh := Option.some.inj hsh
      subst hsh
      have h302 := hd258 _ rfl
      subst h302
      refine wp_ret ?_
      refine blk_ret ?_
      refine then_ret ?_
      refine then_ret ?_
      refine blk_ret ?_
      refine then_ret ?_
      exact ret1 hs rfl (rv_tmp rfl) (hw.ret rfl)
    · have hsh := ite_f hsh h301
      refine wp_skip ?_
      refine blk_normal ?_
      refine then_normal ?_
      refine wp_region_lit ?_
      refine st_val hs (y_add rfl rfl) trivial rfl rfl fun a hs => ?_
      refine st_val hs (y_move rfl) trivial rfl rfl fun a hs => ?_
      refine wpList_nil ?_
      refine then_normal ?_
      exact ⟨_, (Option.some.inj hsh).symm, Sv296, (hs.weaken _ ⟨rfl, rfl, rfl, rfl, trivial⟩), (hw.fit [] (by decide) trivial ⟨⟨1, rfl⟩, trivial⟩)⟩
  · have hsh := ite_f hsh h263
    obtain ⟨rv303, hsh, h304⟩ := map_t hsh
    have h304 := hd258 _ h304.symm
    subst h304
    refine wp_exit ?_
    refine then_exit ?_
    refine then_exit ?_
    refine blk_exit ?_
    refine then_normal ?_
    refine wp_seq ?_
    refine wp_region_lit ?_
    refine st_val hs (y_assign rfl) trivial rfl rfl fun a hs => ?_
    refine wpList_nil ?_
    refine then_normal ?_
    have hsh := Option.some.inj hsh
    subst hsh
    refine wp_ret ?_
    exact ret1 hs rfl (rv_tmp rfl) (hw.ret rfl)

abbrev slices_ContainsFunc_Lint_int_rd (w0 : World) (r : Bool) : (Nat → Prop) → World → Value → Prop := fun S w v => v = .bool r
set_option maxHeartbeats 4000000 in
set_option maxRecDepth 100000 in
theorem slices_ContainsFunc_Lint_int_ok {w0 : World} {S0 : Nat → Prop} {p2 : Option Addr} {k3 : Nat} {g6 : Nat} {f7 : List Value} {cp8 : List Value} {s1 : (List Int)} {f5 : Int → Option Bool} {r : Bool} (hsh : slices_ContainsFunc_Lint_int s1 f5 = some r) (hS : ∀ b, S0 b → b < w0.heap.size) (h4 : (SlA p2 s1.length k3 s1).p S0 w0) (h9 : FnOk1 Try.prog g6 f7 cp8 f5) : Calls Try.prog 55 #[.slice p2 s1.length k3, .func (.func g6) f7.toArray cp8.toArray] w0 (Ret [] w0 S0 (slices_ContainsFunc_Lint_int_rd w0 r)) := by
  refine calls_of_wp Try.func55 rfl ?_
  have hs := Sl.enter #[.slice p2 s1.length k3, .func (.func g6) f7.toArray cp8.toArray] 9 [(0, .slice p2 s1.length k3), (1, .func (.func g6) f7.toArray cp8.toArray)] rfl ⟨rfl, rfl, trivial⟩
  have hw := Wd.enter (E := []) hS (fun _ h => (by cases h))
  have hw := hw.addE h4
  delta slices_ContainsFunc_Lint_int at hsh
  refine wp_seq ?_
  refine wp_region_lit ?_
  refine st_val hs (y_assign rfl) trivial rfl rfl fun a hs => ?_
  refine wpList_nil ?_
  refine then_normal ?_
  refine wp_seq ?_
  refine wp_region_lit ?_
  refine st_val hs (y_move rfl) trivial rfl rfl fun a hs => ?_
  refine st_val hs (y_move rfl) trivial rfl rfl fun a hs => ?_
  obtain ⟨rv11, h10, hsh⟩ := bind_t hsh
  refine st_callR hs (slices_IndexFunc_Lint_int_ok h10 hw.dom (hw.envAt 0 rfl) h9) (do_call Try.call72 rfl) trivial rfl rfl ?_
  intro v15 Sv12 w a h13 h14 hs
  subst h14
  have hw := hw.call h13
  refine st_val hs (y_geq rfl rfl) trivial rfl rfl fun a hs => ?_
  refine st_val hs (y_assign rfl) trivial rfl rfl fun a hs => ?_
  refine wpList_nil ?_
  refine then_normal ?_
  have hsh := Option.some.inj hsh
  subst hsh
  refine wp_ret ?_
  exact ret1 hs rfl (rv_tmp rfl) (hw.ret rfl)

abbrev filter_wrong_rd (w0 : World) (r : Bool) : (Nat → Prop) → World → Value → Prop := fun S w v => v = .bool r
set_option maxHeartbeats 4000000 in
set_option maxRecDepth 100000 in
theorem filter_wrong_ok {w0 : World} {S0 : Nat → Prop} {n1 : Int} {r : Bool} (hsh : filter_wrong n1 = some r) (hS : ∀ b, S0 b → b < w0.heap.size) : Calls Try.prog 56 #[.int .i64 n1] w0 (Ret [] w0 S0 (filter_wrong_rd w0 r)) := by
  refine calls_of_wp Try.func56 rfl ?_
  have hs := Sl.enter #[.int .i64 n1] 6 [(0, .int .i64 n1)] rfl ⟨rfl, trivial⟩
  have hw := Wd.enter (E := []) hS (fun _ h => (by cases h))
  delta filter_wrong at hsh
  refine wp_seq ?_
  refine wp_region_lit ?_
  refine st_val hs (y_assign rfl) trivial rfl rfl fun a hs => ?_
  refine wpList_nil ?_
  refine then_normal ?_
  refine wp_seq ?_
  refine wp_region_lit ?_
  refine st_val hs (y_move rfl) trivial rfl rfl fun a hs => ?_
  obtain ⟨rv3, h2, hsh⟩ := bind_t hsh
  refine st_callR hs (filter_in_ok h2 hw.dom) (do_call Try.call46 rfl) trivial rfl rfl ?_
  intro v7 Sv4 w a h5 h6 hs
  subst h6
  have hw := hw.call h5
  refine st_val hs (y_not rfl) trivial rfl rfl fun a hs => ?_
  refine st_val hs (y_assign rfl) trivial rfl rfl fun a hs => ?_
  refine wpList_nil ?_
  refine then_normal ?_
  have hsh := Option.some.inj hsh
  subst hsh
  refine wp_ret ?_
  exact ret1 hs rfl (rv_tmp rfl) (hw.ret rfl)

theorem filter_wrong_fn : FnOk1 Try.prog 56 [] [] filter_wrong := by
  refine ⟨Try.call56, fun hS h0 hf => ?_⟩
  obtain ⟨_, rfl, rfl⟩ := h0
  exact filter_wrong_ok hf hS 

abbrev filter_check_rd (w0 : World) (r : Int) : (Nat → Prop) → World → Value → Prop := fun S w v => v = .int .i64 r
set_option maxHeartbeats 4000000 in
set_option maxRecDepth 100000 in
theorem filter_check_ok {w0 : World} {S0 : Nat → Prop} {p2 : Option Addr} {k3 : Nat} {samples1 : (List Int)} {number5 : Int} {most6 : Int} {r : Int} (hsh : filter_check samples1 number5 most6 = some r) (hS : ∀ b, S0 b → b < w0.heap.size) (h4 : (SlA p2 samples1.length k3 samples1).p S0 w0) : Calls Try.prog 40 #[.slice p2 samples1.length k3, .int .i64 number5, .int .i64 most6] w0 (Ret [] w0 S0 (filter_check_rd w0 r)) := by
  refine calls_of_wp Try.func40 rfl ?_
  have hs := Sl.enter #[.slice p2 samples1.length k3, .int .i64 number5, .int .i64 most6] 18 [(0, .slice p2 samples1.length k3), (1, .int .i64 number5), (2, .int .i64 most6)] rfl ⟨rfl, rfl, rfl, trivial⟩
  have hw := Wd.enter (E := []) hS (fun _ h => (by cases h))
  have hw := hw.addE h4
  delta filter_check at hsh
  refine wp_seq ?_
  refine wp_region_lit ?_
  refine st_val hs (y_assign rfl) trivial rfl rfl fun a hs => ?_
  refine wpList_nil ?_
  refine then_normal ?_
  refine wp_seq ?_
  refine wp_seq ?_
  refine wp_region_lit ?_
  refine st_val hs (y_move rfl) trivial rfl rfl fun a hs => ?_
  refine st_val hs (y_move rfl) trivial rfl rfl fun a hs => ?_
  obtain ⟨rv8, h7, hsh⟩ := bind_t hsh
  refine st_callR hs (filter_in_ok h7 hw.dom) (do_call Try.call46 rfl) trivial rfl rfl ?_
  intro v12 Sv9 w a h10 h11 hs
  subst h11
  have hw := hw.call h10
  refine st_val hs (y_not rfl) trivial rfl rfl fun a hs => ?_
  refine st_val hs (y_move rfl) trivial rfl rfl fun a hs => ?_
  obtain ⟨c20, hc20, hsh⟩ := bind_t hsh
  refine wpl_join 3 (fun a w => ∃ (Sv21 : Nat → Prop), Sl 18 [(0, .slice p2 samples1.length k3), (14, .bool c20)] a ∧ Wd ⟨w0, S0, []⟩ Sv21 [] [SlA p2 samples1.length k3 samples1] w) ?_ ?_
  · rcases Bool.eq_false_or_eq_true (!rv8) with h19 | h19
    · have hs := hs.fix 11 (.bool true) rfl (vb h19)
      have hsh := ite_t hc20 h19
      refine st_skip hs rfl rfl rfl rfl rfl fun a hs => ?_
      refine st_skip hs rfl rfl rfl rfl rfl fun a hs => ?_
      refine st_val hs (y_pickT rfl rfl) trivial rfl rfl fun a hs => ?_
      refine wpList_nil ?_
      have hsh := Option.some.inj hsh
      subst hsh
      refine then_normal ?_
      exact ⟨Sv9, (hs.weaken _ ⟨rfl, rfl, trivial⟩), (hw.fit [] (by decide) trivial ⟨⟨0, rfl⟩, trivial⟩)⟩
    · have hs := hs.fix 11 (.bool false) rfl (vb h19)
      have hsh := ite_f hc20 h19
      refine st_val hs (y_move rfl) ⟨_, rfl, rfl⟩ rfl rfl fun a hs => ?_
      obtain ⟨rv23, h22, hsh⟩ := bind_t hsh
      refine st_callR hs (slices_ContainsFunc_Lint_int_ok h22 hw.dom (hw.envAt 0 rfl) filter_wrong_fn) (do_call Try.call55 rfl) ⟨_, rfl, rfl⟩ rfl rfl ?_
      intro v27 Sv24 w a h25 h26 hs
      subst h26
      have hw := hw.call h25
      refine st_val hs (y_pickF rfl rfl) trivial rfl rfl fun a hs => ?_
      refine wpList_nil ?_
      have hsh := Option.some.inj hsh
      subst hsh
      refine then_normal ?_
      exact ⟨Sv24, (hs.weaken _ ⟨rfl, rfl, trivial⟩), (hw.fit [] (by decide) trivial ⟨⟨0, rfl⟩, trivial⟩)⟩
  · rintro a w ⟨Sv21, hs, hw⟩
    refine wpList_nil ?_
    refine then_normal ?_
    refine wp_cond_split (hs.ev rfl) (fun h29 => ?_) (fun h29 => ?_)
    · have hsh := ite_t hsh h29
      refine wp_seq ?_
      refine wp_region_lit ?_
      refine st_val hs (y_assign rfl) trivial rfl rfl fun a hs => ?_
      refine wpList_nil ?_
      refine then_normal ?_
      have hsh := Option.some.inj hsh
      subst hsh
      refine wp_ret ?_
      refine then_ret ?_
      exact ret1 hs rfl (rv_tmp rfl) (hw.ret rfl)
    · have hsh := ite_f hsh h29
      refine wp_skip ?_
      refine then_normal ?_
      refine wp_seq ?_
      refine wp_seq ?_
      refine wp_region_lit ?_
      refine st_val hs (y_move rfl) trivial rfl rfl fun a hs => ?_
      refine st_val hs (y_len Try.runUnderlying22 rfl) trivial rfl rfl fun a hs => ?_
      refine st_val hs (y_gtr rfl rfl) trivial rfl rfl fun a hs => ?_
      refine wpList_nil ?_
      refine then_normal ?_
      refine wp_cond_split (hs.ev rfl) (fun h31 => ?_) (fun h31 => ?_)
      · have hsh := ite_t hsh h31
        refine wp_seq ?_
        refine wp_region_lit ?_
        refine st_val hs (y_assign rfl) trivial rfl rfl fun a hs => ?_
        refine wpList_nil ?_
        refine then_normal ?_
        have hsh := Option.some.inj hsh
        subst hsh
        refine wp_ret ?_
        refine then_ret ?_
        exact ret1 hs rfl (rv_tmp rfl) (hw.ret rfl)
      · have hsh := ite_f hsh h31
        refine wp_skip ?_
        refine then_normal ?_
        refine wp_seq ?_
        refine wp_region_lit ?_
        refine st_val hs (y_assign rfl) trivial rfl rfl fun a hs => ?_
        refine wpList_nil ?_
        refine then_normal ?_
        have hsh := Option.some.inj hsh
        subst hsh
        refine wp_ret ?_
        exact ret1 hs rfl (rv_tmp rfl) (hw.ret rfl)

abbrev filter_output_rd (w0 : World) (r : Int) : (Nat → Prop) → World → Value → Prop := fun S w v => v = .int .i64 r
set_option maxHeartbeats 4000000 in
set_option maxRecDepth 100000 in
theorem filter_output_ok {w0 : World} {S0 : Nat → Prop} {p2 : Option Addr} {k3 : Nat} {p6 : Option Addr} {k7 : Nat} {f1 : Filter} {samples5 : (List Int)} {i9 : Int} {r : Int} (hsh : filter_output f1 samples5 i9 = some r) (hS : ∀ b, S0 b → b < w0.heap.size) (h4 : (SlA p2 f1.Taps.length k3 f1.Taps).p S0 w0) (h8 : (SlA p6 samples5.length k7 samples5).p S0 w0) : Calls Try.prog 58 #[.agg #[.slice p2 f1.Taps.length k3, .int .i64 f1.Factor, .int .i64 f1.Shift], .slice p6 samples5.length k7, .int .i64 i9] w0 (Ret [] w0 S0 (filter_output_rd w0 r)) := by
  refine calls_of_wp Try.func58 rfl ?_
  have hs := Sl.enter #[.agg #[.slice p2 f1.Taps.length k3, .int .i64 f1.Factor, .int .i64 f1.Shift], .slice p6 samples5.length k7, .int .i64 i9] 33 [(0, .agg #[.slice p2 f1.Taps.length k3, .int .i64 f1.Factor, .int .i64 f1.Shift]), (1, .slice p6 samples5.length k7), (2, .int .i64 i9)] rfl ⟨rfl, rfl, rfl, trivial⟩
  have hw := Wd.enter (E := []) hS (fun _ h => (by cases h))
  have hw := hw.addE h4
  have hw := hw.addE h8
  delta filter_output at hsh
  refine wp_seq ?_
  refine wp_region_lit ?_
  refine w_box (cs := [.slice p2 f1.Taps.length k3, .int .i64 f1.Factor, .int .i64 f1.Shift]) hs hw rfl rfl rfl trivial ?_
  intro b10 a w hs hw
  refine st_val hs (y_assign rfl) trivial rfl rfl fun a hs => ?_
  refine wpList_nil ?_
  refine then_normal ?_
  refine wp_seq ?_
  refine wp_region_lit ?_
  refine st_val hs (y_assign rfl) trivial rfl rfl fun a hs => ?_
  refine wpList_nil ?_
  refine then_normal ?_
  refine wp_seq ?_
  refine wp_seq ?_
  refine wp_region_lit ?_
  refine st_val hs (y_fieldAddr (o' := 0) Try.runUnderlying28 rfl Try.sizeOf22 rfl rfl rfl) trivial rfl rfl fun a hs => ?_
  refine st_val hs (y_loadB1 (hw.ownAt 0 rfl) rfl Try.isAgg22 rfl) trivial rfl rfl fun a hs => ?_
  refine st_val hs (y_len Try.runUnderlying22 rfl) trivial rfl rfl fun a hs => ?_
  refine st_val hs (y_move rfl) trivial rfl rfl fun a hs => ?_
  refine wpList_nil ?_
  refine then_normal ?_
  obtain ⟨e167, h222, hsh⟩ := bind_t hsh
  refine wp_join (fun a w => ∃ (Sv168 : Nat → Prop), Sl 33 [(3, .pointer (some ⟨b10, 0, none⟩)), (7, .int .i64 e167)] a ∧ Wd ⟨w0, S0, []⟩ Sv168 [.box b10 [.slice p2 f1.Taps.length k3, .int .i64 f1.Factor, .int .i64 f1.Shift] 28] [SlA p2 f1.Taps.length k3 f1.Taps] w) ?_ ?_
  · refine wp_block ?_
    refine wp_while (fun sv11 a w => ∃ (Sv113 : Nat → Prop), Sl 33 [(1, .slice p6 samples5.length k7), (2, .int .i64 i9), (3, .pointer (some ⟨b10, 0, none⟩)), (7, .int .i64 sv11.1), (11, .slice p2 f1.Taps.length k3), (12, .int .i64 (f1.Taps.length : Int)), (13, .int .i64 sv11.2)] a ∧ Wd ⟨w0, S0, []⟩ Sv113 [.box b10 [.slice p2 f1.Taps.length k3, .int .i64 f1.Factor, .int .i64 f1.Shift] 28] [SlA p6 samples5.length k7 samples5, SlA p2 f1.Taps.length k3 f1.Taps] w) (0, 0) h222 ⟨S0, (hs.weaken _ ⟨rfl, rfl, rfl, rfl, rfl, rfl, rfl, trivial⟩), (hw.fit [0] (by decide) ⟨rfl, trivial⟩ ⟨⟨0, rfl⟩, ⟨1, rfl⟩, trivial⟩)⟩ ?_
    clear h222
    repeat clear hsh
    rintro sv11 a w tv165 ⟨Sv113, hs, hw⟩ hsh hd164
    delta filter_output_l1 at hsh
    refine wp_seq ?_
    refine wp_region_lit ?_
    refine st_val hs (y_lss rfl rfl) trivial rfl rfl fun a hs => ?_
    refine wpList_nil ?_
    refine then_normal ?_
    refine wp_seq ?_
    refine wp_cond_split (hs.ev rfl) (fun h170 => ?_) (fun h170 => ?_)
    · have hsh := ite_t hsh h170
      refine wp_skip ?_
      refine then_normal ?_
      refine wp_seq ?_
      refine wp_block ?_
      refine wp_seq ?_
      refine wp_region_lit ?_
      refine st_val hs (y_move rfl) trivial rfl rfl fun a hs => ?_
      obtain ⟨x197, h195, hsh⟩ := bind_t hsh
      obtain ⟨b203, o204, q201, c202, h205, h198, h199, h200, h196⟩ := hw.elemV 1 rfl h195
      subst h205
      obtain ⟨_, rfl, rfl⟩ := h196
      have hw := hw.addE h200
      refine st_val hs (y_indexAt Try.runUnderlying22 Try.sizeOf3 rfl rfl h198.1 h198.2 h199) trivial rfl rfl fun a hs => ?_
      refine st_val hs (y_loadE1 (j := 0) (hw.ceAt 0 rfl) rfl Try.isAgg3 rfl) trivial rfl rfl fun a hs => ?_
      refine st_val hs (y_assign rfl) trivial rfl rfl fun a hs => ?_
      refine st_val hs (y_assign rfl) trivial rfl rfl fun a hs => ?_
      refine wpList_nil ?_
      refine then_normal ?_
      refine wp_region_lit ?_
      refine st_val hs (y_move rfl) trivial rfl rfl fun a hs => ?_
      refine st_val hs (y_move rfl) trivial rfl rfl fun a hs => ?_
      refine st_val hs (y_move rfl) trivial rfl rfl fun a hs => ?_
      refine st_val hs (y_move rfl) trivial rfl rfl fun a hs => ?_
      refine st_val hs (y_move rfl) trivial rfl rfl fun a hs => ?_
      refine st_val hs (y_sub rfl rfl) trivial rfl rfl fun a hs => ?_
      obtain ⟨x208, h206, hsh⟩ := bind_t hsh
      obtain ⟨b214, o215, q212, c213, h216, h209, h210, h211, h207⟩ := hw.elemV 1 rfl h206
      subst h216
      obtain ⟨_, rfl, rfl⟩ := h207
      have hw := hw.addE h211
      refine st_val hs (y_indexAt Try.runUnderlying22 Try.sizeOf3 rfl rfl h209.1 h209.2 h210) trivial rfl rfl fun a hs => ?_
      refine st_val hs (y_loadE1 (j := 0) (hw.ceAt 0 rfl) rfl Try.isAgg3 rfl) trivial rfl rfl fun a hs => ?_
      refine st_val hs (y_mul rfl rfl) trivial rfl rfl fun a hs => ?_
      refine st_val hs (y_add rfl rfl) trivial rfl rfl fun a hs => ?_
      obtain ⟨sum218, h217, hsh⟩ := bind_t hsh
      refine st_val hs (y_assignI rfl h217) trivial rfl rfl fun a hs => ?_
      refine wpList_nil ?_
      refine blk_normal ?_
      refine then_normal ?_
      refine wp_region_lit ?_
      refine st_val hs (y_add rfl rfl) trivial rfl rfl fun a hs => ?_
      refine st_val hs (y_move rfl) trivial rfl rfl fun a hs => ?_
      refine wpList_nil ?_
      refine then_normal ?_
      exact ⟨_, (Option.some.inj hsh).symm, Sv113, (hs.weaken _ ⟨rfl, rfl, rfl, rfl, rfl, rfl, rfl, trivial⟩), (hw.fit [0] (by decide) ⟨rfl, trivial⟩ ⟨⟨2, rfl⟩, ⟨3, rfl⟩, trivial⟩)⟩
    · have hsh := ite_f hsh h170
      refine wp_exit ?_
      refine then_exit ?_
      refine then_exit ?_
      refine blk_exit ?_
      have hsh := Option.some.inj hsh
      subst hsh
      have h219 := hd164 _ rfl
      subst h219
      refine then_normal ?_
      exact ⟨Sv113, (hs.weaken _ ⟨rfl, rfl, trivial⟩), (hw.fit [0] (by decide) ⟨rfl, trivial⟩ ⟨⟨1, rfl⟩, trivial⟩)⟩
  · rintro a w ⟨Sv168, hs, hw⟩
    refine then_normal ?_
    refine wp_seq ?_
    refine wp_region_lit ?_
    refine st_val hs (y_move rfl) trivial rfl rfl fun a hs => ?_
    refine st_val hs (y_fieldAddr (o' := 2) Try.runUnderlying28 rfl Try.sizeOf3 rfl rfl rfl) trivial rfl rfl fun a hs => ?_
    refine st_val hs (y_loadB1 (hw.ownAt 0 rfl) rfl Try.isAgg3 rfl) trivial rfl rfl fun a hs => ?_
    obtain ⟨shr221, h220, hsh⟩ := bind_t hsh
    refine st_val hs (y_shrM rfl rfl h220) trivial rfl rfl fun a hs => ?_
    refine st_val hs (y_assign rfl) trivial rfl rfl fun a hs => ?_
    refine wpList_nil ?_
    refine then_normal ?_
    have hsh := Option.some.inj hsh
    subst hsh
    refine wp_ret ?_
    exact ret1 hs rfl (rv_tmp rfl) (hw.ret rfl)

abbrev filter_outputs_rd (w0 : World) (r : (List Int)) : (Nat → Prop) → World → Value → Prop := fun S w v => ∃ (p0_0 : Option Addr) (k0_0 : Nat) (c0_0 : List Value), v = .slice p0_0 r.length k0_0 ∧ Fresh w0 S w (.row p0_0 r.length k0_0 c0_0 3 1) ∧ (RowA c0_0 r).p S w
set_option maxHeartbeats 4000000 in
set_option maxRecDepth 100000 in
theorem filter_outputs_ok {w0 : World} {S0 : Nat → Prop} {p2 : Option Addr} {k3 : Nat} {p6 : Option Addr} {k7 : Nat} {f1 : Filter} {samples5 : (List Int)} {number9 : Int} {from10 : Int} {r : (List Int)} (hsh : filter_outputs f1 samples5 number9 from10 = some r) (hS : ∀ b, S0 b → b < w0.heap.size) (h4 : (SlA p2 f1.Taps.length k3 f1.Taps).p S0 w0) (h8 : (SlA p6 samples5.length k7 samples5).p S0 w0) : Calls Try.prog 41 #[.agg #[.slice p2 f1.Taps.length k3, .int .i64 f1.Factor, .int .i64 f1.Shift], .slice p6 samples5.length k7, .int .i64 number9, .int .i64 from10] w0 (Ret [] w0 S0 (filter_outputs_rd w0 r)) := by
  refine calls_of_wp Try.func41 rfl ?_
  have hs := Sl.enter #[.agg #[.slice p2 f1.Taps.length k3, .int .i64 f1.Factor, .int .i64 f1.Shift], .slice p6 samples5.length k7, .int .i64 number9, .int .i64 from10] 38 [(0, .agg #[.slice p2 f1.Taps.length k3, .int .i64 f1.Factor, .int .i64 f1.Shift]), (1, .slice p6 samples5.length k7), (2, .int .i64 number9), (3, .int .i64 from10)] rfl ⟨rfl, rfl, rfl, rfl, trivial⟩
  have hw := Wd.enter (E := []) hS (fun _ h => (by cases h))
  have hw := hw.addE h4
  have hw := hw.addE h8
  delta filter_outputs at hsh
  refine wp_seq ?_
  refine wp_region_lit ?_
  refine w_box (cs := [.slice p2 f1.Taps.length k3, .int .i64 f1.Factor, .int .i64 f1.Shift]) hs hw rfl rfl rfl trivial ?_
  intro b11 a w hs hw
  refine st_val hs (y_assign rfl) trivial rfl rfl fun a hs => ?_
  refine wpList_nil ?_
  refine then_normal ?_
  refine wp_seq ?_
  refine wp_region_lit ?_
  refine st_val hs (y_assign rfl) trivial rfl rfl fun a hs => ?_
  refine wpList_nil ?_
  refine then_normal ?_
  refine wp_seq ?_
  refine wp_seq ?_
  refine wp_region_lit ?_
  refine st_val hs (y_move rfl) trivial rfl rfl fun a hs => ?_
  refine st_val hs (y_fieldAddr (o' := 0) Try.runUnderlying28 rfl Try.sizeOf22 rfl rfl rfl) trivial rfl rfl fun a hs => ?_
  refine st_val hs (y_loadB1 (hw.ownAt 0 rfl) rfl Try.isAgg22 rfl) trivial rfl rfl fun a hs => ?_
  refine st_val hs (y_len Try.runUnderlying22 rfl) trivial rfl rfl fun a hs => ?_
  refine st_val hs (y_sub rfl rfl) trivial rfl rfl fun a hs => ?_
  refine st_val hs (y_max rfl rfl) trivial rfl rfl fun a hs => ?_
  obtain ⟨i13, h12, hsh⟩ := bind_t hsh
  refine st_val hs (y_assignI rfl h12) trivial rfl rfl fun a hs => ?_
  refine wpList_nil ?_
  refine then_normal ?_
  obtain ⟨e236, h312, hsh⟩ := bind_t hsh
  refine wp_join (fun a w => ∃ (p237 : Option Addr) (k238 : Nat) (c239 : List Value) (Sv240 : Nat → Prop), Sl 38 [(9, .slice p237 e236.length k238)] a ∧ Wd ⟨w0, S0, []⟩ Sv240 [.row p237 e236.length k238 c239 3 1] [RowA c239 e236] w) ?_ ?_
  · refine wp_block ?_
    have hw := hw.nilRow Int 3
    refine wp_while (fun sv14 a w => ∃ (p159 : Option Addr) (k160 : Nat) (c161 : List Value) (Sv162 : Nat → Prop), Sl 38 [(1, .slice p6 samples5.length k7), (2, .int .i64 number9), (4, .pointer (some ⟨b11, 0, none⟩)), (9, .slice p159 sv14.1.length k160), (10, .int .i64 sv14.2)] a ∧ Wd ⟨w0, S0, []⟩ Sv162 [.box b11 [.slice p2 f1.Taps.length k3, .int .i64 f1.Factor, .int .i64 f1.Shift] 28, .row p159 sv14.1.length k160 c161 3 1] [SlA p6 samples5.length k7 samples5, SlA p2 f1.Taps.length k3 f1.Taps, RowA c161 sv14.1] w) (([] : List Int), i13) h312 ⟨none, 0, [], S0, (hs.weaken _ ⟨rfl, rfl, rfl, rfl, rfl, trivial⟩), (hw.fit [1, 0] (by decide) ⟨rfl, rfl, trivial⟩ ⟨⟨1, rfl⟩, ⟨2, rfl⟩, ⟨0, rfl⟩, trivial⟩)⟩ ?_
    clear h312
    repeat clear hsh
    rintro sv14 a w tv234 ⟨p159, k160, c161, Sv162, hs, hw⟩ hsh hd233
    delta filter_outputs_l1 at hsh
    refine wp_seq ?_
    refine wp_seq ?_
    refine wp_region_lit ?_
    refine st_val hs (y_move rfl) trivial rfl rfl fun a hs => ?_
    refine st_val hs (y_move rfl) trivial rfl rfl fun a hs => ?_
    refine st_val hs (y_len Try.runUnderlying22 rfl) trivial rfl rfl fun a hs => ?_
    refine st_val hs (y_lss rfl rfl) trivial rfl rfl fun a hs => ?_
    refine wpList_nil ?_
    refine then_normal ?_
    refine wp_cond_split (hs.ev rfl) (fun h242 => ?_) (fun h242 => ?_)
    · have hsh := ite_t hsh h242
      refine wp_skip ?_
      refine then_normal ?_
      refine wp_seq ?_
      refine wp_block ?_
      refine wp_seq ?_
      refine wp_region_lit ?_
      refine st_val hs (y_move rfl) trivial rfl rfl fun a hs => ?_
      refine st_val hs (y_move rfl) trivial rfl rfl fun a hs => ?_
      refine st_val hs (y_add rfl rfl) trivial rfl rfl fun a hs => ?_
      refine st_val hs (y_fieldAddr (o' := 1) Try.runUnderlying28 rfl Try.sizeOf3 rfl rfl rfl) trivial rfl rfl fun a hs => ?_
      refine st_val hs (y_loadB1 (hw.ownAt 0 rfl) rfl Try.isAgg3 rfl) trivial rfl rfl fun a hs => ?_
      obtain ⟨rem277, h276, hsh⟩ := bind_t hsh
      refine st_val hs (y_remM rfl rfl h276) trivial rfl rfl fun a hs => ?_
      refine st_val hs (y_eql rfl rfl) trivial rfl rfl fun a hs => ?_
      refine wpList_nil ?_
      refine then_normal ?_
      refine wp_join (fun a w => ∃ (out295 : (List Int)) (p291 : Option Addr) (k292 : Nat) (c293 : List Value) (Sv294 : Nat → Prop), filter_outputs_j1 sv14 out295 = some tv234 ∧ Sl 38 [(1, .slice p6 samples5.length k7), (2, .int .i64 number9), (4, .pointer (some ⟨b11, 0, none⟩)), (9, .slice p291 out295.length k292), (10, .int .i64 sv14.2)] a ∧ Wd ⟨w0, S0, []⟩ Sv294 [.box b11 [.slice p2 f1.Taps.length k3, .int .i64 f1.Factor, .int .i64 f1.Shift] 28, .row p291 out295.length k292 c293 3 1] [SlA p6 samples5.length k7 samples5, SlA p2 f1.Taps.length k3 f1.Taps, RowA c293 out295] w) ?_ ?_
      · refine wp_cond_split (hs.ev rfl) (fun h298 => ?_) (fun h298 => ?_)
        · have hsh := ite_t hsh h298
          refine wp_region_lit ?_
          refine st_val hs (y_move rfl) trivial rfl rfl fun a hs => ?_
          refine st_val hs (y_loadBA (hw.ownAt 0 rfl) rfl Try.isAgg28 Try.sizeOf28 rfl rfl) trivial rfl rfl fun a hs => ?_
          refine st_val hs (y_move rfl) trivial rfl rfl fun a hs => ?_
          refine st_val hs (y_move rfl) trivial rfl rfl fun a hs => ?_
          obtain ⟨rv300, h299, hsh⟩ := bind_t hsh
          refine st_callR hs (filter_output_ok h299 hw.dom (hw.envAt 1 rfl) (hw.envAt 0 rfl)) (do_call Try.call58 rfl) trivial rfl rfl ?_
          intro v304 Sv301 w a h302 h303 hs
          subst h303
          have hw := hw.call h302
          refine w_buildSlice (α := Int) (vs := [.int .i64 rv300]) (cs := [.int .i64 rv300]) (xs := ([rv300] : List Int)) hs hw El22 rfl rfl rfl rfl rfl rfl ⟨⟨_, rfl, rfl⟩, rfl⟩ rfl trivial ?_
          intro p305 a w hs hw
          obtain ⟨l307, h306, hsh⟩ := bind_t hsh
          refine w_appendR (α := Int) hs hw El22 2 rfl rfl rfl 3 rfl 0 rfl 0 rfl h306 rfl trivial ?_
          intro p308 k309 c310 a w hs hw
          refine st_val hs (y_assign rfl) trivial rfl rfl fun a hs => ?_
          refine wpList_nil ?_
          refine then_normal ?_
          exact ⟨l307, p308, k309, c310, Sv301, hsh, (hs.weaken _ ⟨rfl, rfl, rfl, rfl, rfl, trivial⟩), (hw.fit [1, 2] (by decide) ⟨rfl, rfl, trivial⟩ ⟨⟨2, rfl⟩, ⟨3, rfl⟩, ⟨0, rfl⟩, trivial⟩)⟩
        · have hsh := ite_f hsh h298
          refine wp_skip ?_
          refine then_normal ?_
          exact ⟨sv14.1, p159, k160, c161, Sv162, hsh, (hs.weaken _ ⟨rfl, rfl, rfl, rfl, rfl, trivial⟩), (hw.fit [0, 1] (by decide) ⟨rfl, rfl, trivial⟩ ⟨⟨0, rfl⟩, ⟨1, rfl⟩, ⟨2, rfl⟩, trivial⟩)⟩
      · rintro a w ⟨out295, p291, k292, c293, Sv294, hsh, hs, hw⟩
        delta filter_outputs_j1 at hsh
        refine blk_normal ?_
        refine then_normal ?_
        refine wp_region_lit ?_
        refine st_val hs (y_move rfl) trivial rfl rfl fun a hs => ?_
        refine st_val hs (y_add rfl rfl) trivial rfl rfl fun a hs => ?_
        obtain ⟨i297, h296, hsh⟩ := bind_t hsh
        refine st_val hs (y_assignI rfl h296) trivial rfl rfl fun a hs => ?_
        refine wpList_nil ?_
        refine then_normal ?_
        exact ⟨_, (Option.some.inj hsh).symm, p291, k292, c293, Sv294, (hs.weaken _ ⟨rfl, rfl, rfl, rfl, rfl, trivial⟩), (hw.fit [0, 1] (by decide) ⟨rfl, rfl, trivial⟩ ⟨⟨0, rfl⟩, ⟨1, rfl⟩, ⟨2, rfl⟩, trivial⟩)⟩
    · have hsh := ite_f hsh h242
      refine wp_exit ?_
      refine then_exit ?_
      refine then_exit ?_
      refine blk_exit ?_
      have hsh := Option.some.inj hsh
      subst hsh
      have h311 := hd233 _ rfl
      subst h311
      refine then_normal ?_
      exact ⟨p159, k160, c161, Sv162, (hs.weaken _ ⟨rfl, trivial⟩), (hw.fit [1] (by decide) ⟨rfl, trivial⟩ ⟨⟨2, rfl⟩, trivial⟩)⟩
  · rintro a w ⟨p237, k238, c239, Sv240, hs, hw⟩
    refine then_normal ?_
    refine wp_seq ?_
    refine wp_region_lit ?_
    refine st_val hs (y_move rfl) trivial rfl rfl fun a hs => ?_
    refine st_val hs (y_assign rfl) trivial rfl rfl fun a hs => ?_
    refine wpList_nil ?_
    refine then_normal ?_
    have hsh := Option.some.inj hsh
    subst hsh
    refine wp_ret ?_
    exact ret1 hs rfl (rv_tmp rfl) (hw.ret ⟨p237, k238, c239, rfl, (hw.freshOf 0 rfl (.inl rfl)), (hw.envAt 0 rfl)⟩)

abbrev filter_Apply_rd (w0 : World) (r : ((List Int) × Int)) : (Nat → Prop) → World → Value → Prop := fun S w v => ∃ (p0_0 : Option Addr) (k0_0 : Nat) (c0_0 : List Value), v = .tuple #[.slice p0_0 r.1.length k0_0, .int .i64 r.2] ∧ Fresh w0 S w (.row p0_0 r.1.length k0_0 c0_0 3 1) ∧ (RowA c0_0 r.1).p S w
set_option maxHeartbeats 4000000 in
set_option maxRecDepth 100000 in
theorem filter_Apply_ok {w0 : World} {S0 : Nat → Prop} {p2 : Option Addr} {k3 : Nat} {p6 : Option Addr} {k7 : Nat} {f1 : Filter} {samples5 : (List Int)} {number9 : Int} {r : ((List Int) × Int)} (hsh : filter_Apply f1 samples5 number9 = some r) (hS : ∀ b, S0 b → b < w0.heap.size) (h4 : (SlA p2 f1.Taps.length k3 f1.Taps).p S0 w0) (h8 : (SlA p6 samples5.length k7 samples5).p S0 w0) : Calls Try.prog 14 #[.agg #[.slice p2 f1.Taps.length k3, .int .i64 f1.Factor, .int .i64 f1.Shift], .slice p6 samples5.length k7, .int .i64 number9] w0 (Ret [] w0 S0 (filter_Apply_rd w0 r)) := by
  refine calls_of_wp Try.func14 rfl ?_
  have hs := Sl.enter #[.agg #[.slice p2 f1.Taps.length k3, .int .i64 f1.Factor, .int .i64 f1.Shift], .slice p6 samples5.length k7, .int .i64 number9] 22 [(0, .agg #[.slice p2 f1.Taps.length k3, .int .i64 f1.Factor, .int .i64 f1.Shift]), (1, .slice p6 samples5.length k7), (2, .int .i64 number9)] rfl ⟨rfl, rfl, rfl, trivial⟩
  have hw := Wd.enter (E := []) hS (fun _ h => (by cases h))
  have hw := hw.addE h4
  have hw := hw.addE h8
  delta filter_Apply at hsh
  refine wp_seq ?_
  refine wp_region_lit ?_
  refine w_box (cs := [.slice p2 f1.Taps.length k3, .int .i64 f1.Factor, .int .i64 f1.Shift]) hs hw rfl rfl rfl trivial ?_
  intro b10 a w hs hw
  refine st_val hs (y_assign rfl) trivial rfl rfl fun a hs => ?_
  refine st_val hs (y_assign rfl) trivial rfl rfl fun a hs => ?_
  refine wpList_nil ?_
  refine then_normal ?_
  refine wp_seq ?_
  refine wp_seq ?_
  refine wp_region_lit ?_
  refine st_val hs (y_loadBA (hw.ownAt 0 rfl) rfl Try.isAgg28 Try.sizeOf28 rfl rfl) trivial rfl rfl fun a hs => ?_
  obtain ⟨rv12, h11, hsh⟩ := bind_t hsh
  refine st_callR hs (filter_Valid_ok h11 hw.dom (hw.envAt 1 rfl)) (do_call Try.call32 rfl) trivial rfl rfl ?_
  intro v16 Sv13 w a h14 h15 hs
  subst h15
  have hw := hw.call h14
  refine st_val hs (y_not rfl) trivial rfl rfl fun a hs => ?_
  refine wpList_nil ?_
  refine then_normal ?_
  refine wp_cond_split (hs.ev rfl) (fun h18 => ?_) (fun h18 => ?_)
  · have hsh := ite_t hsh h18
    refine wp_seq ?_
    refine wp_region_lit ?_
    refine st_val hs (y_assign rfl) trivial rfl rfl fun a hs => ?_
    refine st_val hs (y_assign rfl) trivial rfl rfl fun a hs => ?_
    refine wpList_nil ?_
    refine then_normal ?_
    have hsh := Option.some.inj hsh
    subst hsh
    have hw := hw.nilRow Int 3
    refine wp_ret ?_
    refine then_ret ?_
    exact ret2 hs rfl (rv_tmp rfl) (rv_tmp rfl) (hw.ret ⟨none, 0, [], rfl, (hw.freshOf 0 rfl (.inl rfl)), (hw.envAt 0 rfl)⟩)
  · have hsh := ite_f hsh h18
    refine wp_skip ?_
    refine then_normal ?_
    refine wp_seq ?_
    refine wp_seq ?_
    refine wp_region_lit ?_
    refine st_val hs (y_move rfl) trivial rfl rfl fun a hs => ?_
    refine st_val hs (y_move rfl) trivial rfl rfl fun a hs => ?_
    obtain ⟨rv20, h19, hsh⟩ := bind_t hsh
    refine st_callR hs (filter_check_ok h19 hw.dom (hw.envAt 0 rfl)) (do_call Try.call40 rfl) trivial rfl rfl ?_
    intro v24 Sv21 w a h22 h23 hs
    subst h23
    have hw := hw.call h22
    refine st_val hs (y_assign rfl) trivial rfl rfl fun a hs => ?_
    refine wpList_nil ?_
    refine then_normal ?_
    refine wp_seq ?_
    refine wp_region_lit ?_
    refine st_val hs (y_move rfl) trivial rfl rfl fun a hs => ?_
    refine st_val hs (y_neq rfl rfl) trivial rfl rfl fun a hs => ?_
    refine wpList_nil ?_
    refine then_normal ?_
    refine wp_cond_split (hs.ev rfl) (fun h26 => ?_) (fun h26 => ?_)
    · have hsh := ite_t hsh h26
      refine wp_seq ?_
      refine wp_region_lit ?_
      refine st_val hs (y_move rfl) trivial rfl rfl fun a hs => ?_
      refine st_val hs (y_assign rfl) trivial rfl rfl fun a hs => ?_
      refine st_val hs (y_assign rfl) trivial rfl rfl fun a hs => ?_
      refine wpList_nil ?_
      refine then_normal ?_
      have hsh := Option.some.inj hsh
      subst hsh
      have hw := hw.nilRow Int 3
      refine wp_ret ?_
      refine then_ret ?_
      exact ret2 hs rfl (rv_tmp rfl) (rv_tmp rfl) (hw.ret ⟨none, 0, [], rfl, (hw.freshOf 0 rfl (.inl rfl)), (hw.envAt 0 rfl)⟩)
    · have hsh := ite_f hsh h26
      refine wp_skip ?_
      refine then_normal ?_
      refine wp_seq ?_
      refine wp_region_lit ?_
      refine st_val hs (y_loadBA (hw.ownAt 0 rfl) rfl Try.isAgg28 Try.sizeOf28 rfl rfl) trivial rfl rfl fun a hs => ?_
      refine st_val hs (y_move rfl) trivial rfl rfl fun a hs => ?_
      refine st_val hs (y_move rfl) trivial rfl rfl fun a hs => ?_
      obtain ⟨rv28, h27, hsh⟩ := bind_t hsh
      refine st_callR hs (filter_outputs_ok h27 hw.dom (hw.envAt 1 rfl) (hw.envAt 0 rfl)) (do_call Try.call41 rfl) trivial rfl rfl ?_
      intro v37 Sv34 w a h35 h36 hs
      obtain ⟨p29, k30, c31, rfl, h32, h33⟩ := h36
      have hw := hw.callF h35 h32
      have hw := hw.addE (e := RowA c31 rv28) h33
      refine st_val hs (y_assign rfl) trivial rfl rfl fun a hs => ?_
      refine st_val hs (y_assign rfl) trivial rfl rfl fun a hs => ?_
      refine wpList_nil ?_
      refine then_normal ?_
      have hsh := Option.some.inj hsh
      subst hsh
      refine wp_ret ?_
      exact ret2 hs rfl (rv_tmp rfl) (rv_tmp rfl) (hw.ret ⟨p29, k30, c31, rfl, (hw.freshOf 0 rfl (.inl rfl)), (hw.envAt 0 rfl)⟩)

abbrev ref05_Same_rd (w0 : World) (r : Bool) : (Nat → Prop) → World → Value → Prop := fun S w v => v = .bool r
set_option maxHeartbeats 4000000 in
set_option maxRecDepth 100000 in
theorem ref05_Same_ok {w0 : World} {S0 : Nat → Prop} {p2 : Option Addr} {k3 : Nat} {p6 : Option Addr} {k7 : Nat} {a1 : (List Int)} {b5 : (List Int)} {r : Bool} (hsh : ref05_Same a1 b5 = some r) (hS : ∀ b, S0 b → b < w0.heap.size) (h4 : (SlA p2 a1.length k3 a1).p S0 w0) (h8 : (SlA p6 b5.length k7 b5).p S0 w0) : Calls Try.prog 23 #[.slice p2 a1.length k3, .slice p6 b5.length k7] w0 (Ret [] w0 S0 (ref05_Same_rd w0 r)) := by
  refine calls_of_wp Try.func23 rfl ?_
  have hs := Sl.enter #[.slice p2 a1.length k3, .slice p6 b5.length k7] 26 [(0, .slice p2 a1.length k3), (1, .slice p6 b5.length k7)] rfl ⟨rfl, rfl, trivial⟩
  have hw := Wd.enter (E := []) hS (fun _ h => (by cases h))
  have hw := hw.addE h4
  have hw := hw.addE h8
  delta ref05_Same at hsh
  refine wp_seq ?_
  refine wp_region_lit ?_
  refine st_val hs (y_assign rfl) trivial rfl rfl fun a hs => ?_
  refine wpList_nil ?_
  refine then_normal ?_
  refine wp_seq ?_
  refine wp_seq ?_
  refine wp_region_lit ?_
  refine st_val hs (y_move rfl) trivial rfl rfl fun a hs => ?_
  refine st_val hs (y_len Try.runUnderlying22 rfl) trivial rfl rfl fun a hs => ?_
  refine st_val hs (y_move rfl) trivial rfl rfl fun a hs => ?_
  refine st_val hs (y_len Try.runUnderlying22 rfl) trivial rfl rfl fun a hs => ?_
  refine st_val hs (y_neq rfl rfl) trivial rfl rfl fun a hs => ?_
  refine wpList_nil ?_
  refine then_normal ?_
  refine wp_cond_split (hs.ev rfl) (fun h10 => ?_) (fun h10 => ?_)
  · have hsh := ite_t hsh h10
    refine wp_seq ?_
    refine wp_region_lit ?_
    refine st_val hs (y_assign rfl) trivial rfl rfl fun a hs => ?_
    refine wpList_nil ?_
    refine then_normal ?_
    have hsh := Option.some.inj hsh
    subst hsh
    refine wp_ret ?_
    refine then_ret ?_
    exact ret1 hs rfl (rv_tmp rfl) (hw.ret rfl)
  · have hsh := ite_f hsh h10
    refine wp_skip ?_
    refine then_normal ?_
    refine wp_seq ?_
    refine wp_seq ?_
    refine wp_region_lit ?_
    refine st_val hs (y_assign rfl) trivial rfl rfl fun a hs => ?_
    refine wpList_nil ?_
    refine then_normal ?_
    refine wp_block ?_
    refine wp_while (fun sv178 a w => ∃ (Sv288 : Nat → Prop), Sl 26 [(0, .slice p2 a1.length k3), (1, .slice p6 b5.length k7), (5, .int .i64 sv178)] a ∧ Wd ⟨w0, S0, []⟩ Sv288 [] [SlA p2 a1.length k3 a1, SlA p6 b5.length k7 b5] w) 0 hsh ⟨S0, (hs.weaken _ ⟨rfl, rfl, rfl, trivial⟩), (hw.fit [] (by decide) trivial ⟨⟨1, rfl⟩, ⟨0, rfl⟩, trivial⟩)⟩ ?_
    repeat clear hsh
    rintro sv178 a w tv344 ⟨Sv288, hs, hw⟩ hsh hd343
    delta ref05_Same_l2 at hsh
    refine wp_seq ?_
    refine wp_seq ?_
    refine wp_region_lit ?_
    refine st_val hs (y_move rfl) trivial rfl rfl fun a hs => ?_
    refine st_val hs (y_move rfl) trivial rfl rfl fun a hs => ?_
    refine st_val hs (y_len Try.runUnderlying22 rfl) trivial rfl rfl fun a hs => ?_
    refine st_val hs (y_lss rfl rfl) trivial rfl rfl fun a hs => ?_
    refine wpList_nil ?_
    refine then_normal ?_
    refine wp_cond_split (hs.ev rfl) (fun h348 => ?_) (fun h348 => ?_)
    · have hsh := ite_t hsh h348
      refine wp_skip ?_
      refine then_normal ?_
      refine wp_seq ?_
      refine wp_block ?_
      refine wp_seq ?_
      obtain ⟨x376, h374, hsh⟩ := bind_t hsh
      obtain ⟨b382, o383, q380, c381, h384, h377, h378, h379, h375⟩ := hw.elemV 0 rfl h374
      subst h384
      obtain ⟨_, rfl, rfl⟩ := h375
      have hw := hw.addE h379
      obtain ⟨x387, h385, hsh⟩ := bind_t hsh
      obtain ⟨b393, o394, q391, c392, h395, h388, h389, h390, h386⟩ := hw.elemV 2 rfl h385
      subst h395
      obtain ⟨_, rfl, rfl⟩ := h386
      have hw := hw.addE h390
      refine wp_only (fun a w => ∃ (Sv396 : Nat → Prop), Sl 26 [(0, .slice (some ⟨b382, o383, none⟩) a1.length k3), (1, .slice (some ⟨b393, o394, none⟩) b5.length k7), (5, .int .i64 sv178), (25, .bool (x376 != x387))] a ∧ Wd ⟨w0, S0, []⟩ Sv396 [] [SlA (some ⟨b382, o383, none⟩) a1.length k3 a1, SlA (some ⟨b393, o394, none⟩) b5.length k7 b5] w) ?_ ?_
      · refine h_begin (C := Cls [] [CeA b393 q391 [.int .i64 x387], CeA b382 q380 [.int .i64 x376]]) (by kernel_rfl) rfl ?_
        have hw := hw.drew
        have hC : Cls [] [CeA b393 q391 [.int .i64 x387], CeA b382 q380 [.int .i64 x376]] _ := hw.cls [] trivial ⟨⟨0, rfl⟩, ⟨1, rfl⟩, trivial⟩
        refine h_take hs (i := 0) rfl (by kernel_rfl) (by kernel_rfl) (by kernel_rfl) trivial rfl rfl hC (fun w hC => y_move rfl) fun a hs => ?_
        refine h_take hs (i := 1) rfl (by kernel_rfl) (by kernel_rfl) (by kernel_rfl) trivial rfl rfl hC (fun w hC => y_move rfl) fun a hs => ?_
        refine h_take hs (i := 2) rfl (by kernel_rfl) (by kernel_rfl) (by kernel_rfl) trivial rfl rfl hC (fun w hC => y_indexAt Try.runUnderlying22 Try.sizeOf3 rfl rfl h377.1 h377.2 h378) fun a hs => ?_
        refine h_take hs (i := 3) rfl (by kernel_rfl) (by kernel_rfl) (by kernel_rfl) trivial rfl rfl hC (fun w hC => y_loadE1 (j := 0) (hC.ceAt 1 rfl) rfl Try.isAgg3 rfl) fun a hs => ?_
        refine h_take hs (i := 4) rfl (by kernel_rfl) (by kernel_rfl) (by kernel_rfl) trivial rfl rfl hC (fun w hC => y_move rfl) fun a hs => ?_
        refine h_take hs (i := 5) rfl (by kernel_rfl) (by kernel_rfl) (by kernel_rfl) trivial rfl rfl hC (fun w hC => y_move rfl) fun a hs => ?_
        refine h_take hs (i := 6) rfl (by kernel_rfl) (by kernel_rfl) (by kernel_rfl) trivial rfl rfl hC (fun w hC => y_indexAt Try.runUnderlying22 Try.sizeOf3 rfl rfl h388.1 h388.2 h389) fun a hs => ?_
        refine h_take hs (i := 7) rfl (by kernel_rfl) (by kernel_rfl) (by kernel_rfl) trivial rfl rfl hC (fun w hC => y_loadE1 (j := 0) (hC.ceAt 0 rfl) rfl Try.isAgg3 rfl) fun a hs => ?_
        refine h_take hs (i := 8) rfl (by kernel_rfl) (by kernel_rfl) (by kernel_rfl) trivial rfl rfl hC (fun w hC => y_neq rfl rfl) fun a hs => ?_
        refine h_done (by kernel_rfl) ?_
        exact ⟨Sv288, (hs.weaken _ ⟨rfl, rfl, rfl, rfl, trivial⟩), (hw.fit [] (by decide) trivial ⟨⟨2, rfl⟩, ⟨3, rfl⟩, trivial⟩)⟩
      · rintro a w ⟨Sv396, hs, hw⟩
        refine then_normal ?_
        refine wp_cond_split (hs.ev rfl) (fun h398 => ?_) (fun h398 => ?_)
        · have hsh := ite_t hsh h398
          refine wp_seq ?_
          refine wp_region_lit ?_
          refine st_val hs (y_assign rfl) trivial rfl rfl fun a hs => ?_
          refine wpList_nil ?_
          refine then_normal ?_
          have hsh := Option.some.inj hsh
          subst hsh
          have h399 := hd343 _ rfl
          subst h399
          refine wp_ret ?_
          refine blk_ret ?_
          refine then_ret ?_
          refine then_ret ?_
          refine blk_ret ?_
          refine then_ret ?_
          exact ret1 hs rfl (rv_tmp rfl) (hw.ret rfl)
        · have hsh := ite_f hsh h398
          refine wp_skip ?_
          refine blk_normal ?_
          refine then_normal ?_
          refine wp_region_lit ?_
          refine st_val hs (y_move rfl) trivial rfl rfl fun a hs => ?_
          refine st_val hs (y_add rfl rfl) trivial rfl rfl fun a hs => ?_
          obtain ⟨i401, h400, hsh⟩ := bind_t hsh
          refine st_val hs (y_assignI rfl h400) trivial rfl rfl fun a hs => ?_
          refine wpList_nil ?_
          refine then_normal ?_
          exact ⟨_, (Option.some.inj hsh).symm, Sv396, (hs.weaken _ ⟨rfl, rfl, rfl, trivial⟩), (hw.fit [] (by decide) trivial ⟨⟨0, rfl⟩, ⟨1, rfl⟩, trivial⟩)⟩
    · have hsh := ite_f hsh h348
      obtain ⟨rv402, hsh, h403⟩ := map_t hsh
      have h403 := hd343 _ h403.symm
      subst h403
      refine wp_exit ?_
      refine then_exit ?_
      refine then_exit ?_
      refine blk_exit ?_
      refine then_normal ?_
      refine wp_seq ?_
      refine wp_region_lit ?_
      refine st_val hs (y_assign rfl) trivial rfl rfl fun a hs => ?_
      refine wpList_nil ?_
      refine then_normal ?_
      have hsh := Option.some.inj hsh
      subst hsh
      refine wp_ret ?_
      exact ret1 hs rfl (rv_tmp rfl) (hw.ret rfl)

abbrev law21_sane_rd (w0 : World) (r : Bool) : (Nat → Prop) → World → Value → Prop := fun S w v => v = .bool r
set_option maxHeartbeats 4000000 in
set_option maxRecDepth 100000 in
theorem law21_sane_ok {w0 : World} {S0 : Nat → Prop} {r : Bool} (hsh : law21_sane = some r) (hS : ∀ b, S0 b → b < w0.heap.size) : Calls Try.prog 11 #[] w0 (Ret [] w0 S0 (law21_sane_rd w0 r)) := by
  refine calls_of_wp Try.func11 rfl ?_
  have hs := Sl.enter #[] 41 [] rfl trivial
  have hw := Wd.enter (E := []) hS (fun _ h => (by cases h))
  delta law21_sane at hsh
  refine wp_seq ?_
  refine wp_region_lit ?_
  refine st_val hs (y_assign rfl) trivial rfl rfl fun a hs => ?_
  refine wpList_nil ?_
  refine then_normal ?_
  refine wp_seq ?_
  refine wp_region_lit ?_
  refine w_buildSlice (α := Int) (vs := [.int .i64 1, .int .i64 1]) (cs := [.int .i64 1, .int .i64 1]) (xs := ([1, 1] : List Int)) hs hw El22 rfl rfl rfl rfl rfl rfl ⟨⟨_, rfl, rfl⟩, ⟨⟨_, rfl, rfl⟩, rfl⟩⟩ rfl trivial ?_
  intro p1 a w hs hw
  refine st_val hs (y_build (vs := [(0, .slice p1 ([1, 1] : List Int).length ([1, 1] : List Int).length), (1, .int .i64 1), (2, .int .i64 1)]) Bld28 rfl rfl) trivial rfl rfl fun a hs => ?_
  refine w_alloc (cs := [.slice none ([] : List Int).length 0, .int .i64 0, .int .i64 0]) hs hw Try.zeroValue28 rfl rfl trivial ?_
  intro b2 a w hs hw
  refine w_store (m := 3) (cs' := [.slice p1 ([1, 1] : List Int).length ([1, 1] : List Int).length, .int .i64 1, .int .i64 1]) hs hw 0 rfl rfl rfl Try.sizeOf28 rfl rfl rfl rfl trivial ?_
  intro a w hs hw
  refine wpList_nil ?_
  refine then_normal ?_
  refine wp_seq ?_
  refine wp_region_lit ?_
  refine st_val hs (y_loadBA (hw.ownAt 0 rfl) rfl Try.isAgg28 Try.sizeOf28 rfl rfl) trivial rfl rfl fun a hs => ?_
  refine w_buildSlice (α := Int) (vs := [.int .i64 4, .int .i64 6, .int .i64 9]) (cs := [.int .i64 4, .int .i64 6, .int .i64 9]) (xs := ([4, 6, 9] : List Int)) hs hw El22 rfl rfl rfl rfl rfl rfl ⟨⟨_, rfl, rfl⟩, ⟨⟨_, rfl, rfl⟩, ⟨⟨_, rfl, rfl⟩, rfl⟩⟩⟩ rfl trivial ?_
  intro p3 a w hs hw
  obtain ⟨rv5, h4, hsh⟩ := bind_t hsh
  obtain ⟨Sv11, hw⟩ := w_share (α := Int) hw 2 rfl 1 rfl (.inl rfl)
  obtain ⟨Sv12, hw⟩ := w_share (α := Int) hw 0 rfl 1 rfl (.inl rfl)
  refine st_callR hs (filter_Apply_ok h4 hw.dom (hw.envAt 1 rfl) (hw.envAt 0 rfl)) (do_call Try.call14 rfl) trivial rfl rfl ?_
  intro v16 Sv13 w a h14 h15 hs
  obtain ⟨p6, k7, c8, rfl, h9, h10⟩ := h15
  have hw := hw.callF h14 h9
  have hw := hw.addE (e := RowA c8 rv5.1) h10
  refine st_val hs (y_move rfl) trivial rfl rfl fun a hs => ?_
  refine st_val hs (y_extract rfl rfl) trivial rfl rfl fun a hs => ?_
  refine st_val hs (y_extract rfl rfl) trivial rfl rfl fun a hs => ?_
  refine st_val hs (y_assign rfl) trivial rfl rfl fun a hs => ?_
  refine st_val hs (y_assign rfl) trivial rfl rfl fun a hs => ?_
  refine wpList_nil ?_
  refine then_normal ?_
  refine wp_seq ?_
  refine wp_region_lit ?_
  refine st_val hs (y_fieldAddr (o' := 1) Try.runUnderlying28 rfl Try.sizeOf3 rfl rfl rfl) trivial rfl rfl fun a hs => ?_
  refine w_store (m := 1) (cs' := [.slice p1 ([1, 1] : List Int).length ([1, 1] : List Int).length, .int .i64 2, .int .i64 1]) hs hw 1 rfl rfl rfl Try.sizeOf3 rfl rfl rfl rfl trivial ?_
  intro a w hs hw
  refine wpList_nil ?_
  refine then_normal ?_
  refine wp_seq ?_
  refine wp_region_lit ?_
  refine st_val hs (y_loadBA (hw.ownAt 1 rfl) rfl Try.isAgg28 Try.sizeOf28 rfl rfl) trivial rfl rfl fun a hs => ?_
  refine w_buildSlice (α := Int) (vs := [.int .i64 4, .int .i64 6, .int .i64 9]) (cs := [.int .i64 4, .int .i64 6, .int .i64 9]) (xs := ([4, 6, 9] : List Int)) hs hw El22 rfl rfl rfl rfl rfl rfl ⟨⟨_, rfl, rfl⟩, ⟨⟨_, rfl, rfl⟩, ⟨⟨_, rfl, rfl⟩, rfl⟩⟩⟩ rfl trivial ?_
  intro p17 a w hs hw
  obtain ⟨rv19, h18, hsh⟩ := bind_t hsh
  obtain ⟨Sv25, hw⟩ := w_share (α := Int) hw 0 rfl 0 rfl (.inl rfl)
  refine st_callR hs (filter_Apply_ok h18 hw.dom (hw.envAt 4 rfl) (hw.envAt 0 rfl)) (do_call Try.call14 rfl) trivial rfl rfl ?_
  intro v29 Sv26 w a h27 h28 hs
  obtain ⟨p20, k21, c22, rfl, h23, h24⟩ := h28
  have hw := hw.callF h27 h23
  have hw := hw.addE (e := RowA c22 rv19.1) h24
  refine st_val hs (y_move rfl) trivial rfl rfl fun a hs => ?_
  refine st_val hs (y_extract rfl rfl) trivial rfl rfl fun a hs => ?_
  refine st_val hs (y_extract rfl rfl) trivial rfl rfl fun a hs => ?_
  refine st_val hs (y_assign rfl) trivial rfl rfl fun a hs => ?_
  refine st_val hs (y_assign rfl) trivial rfl rfl fun a hs => ?_
  refine wpList_nil ?_
  refine then_normal ?_
  refine wp_seq ?_
  refine wp_region_lit ?_
  refine st_val hs (y_move rfl) trivial rfl rfl fun a hs => ?_
  refine st_val hs (y_eql rfl rfl) trivial rfl rfl fun a hs => ?_
  refine st_val hs (y_move rfl) trivial rfl rfl fun a hs => ?_
  refine wpl_join 3 (fun a w1 => w = w1 ∧ Sl 41 [(1, .pointer (some ⟨b2, 0, none⟩)), (2, .slice p6 rv5.1.length k7), (4, .slice p20 rv19.1.length k21), (26, .bool ((rv5.2 == 0) && (rv19.2 == 0)))] a) ?_ ?_
  · rcases Bool.eq_false_or_eq_true (rv5.2 == 0) with h30 | h30
    · have hs := hs.fix 23 (.bool true) rfl (vb h30)
      refine st_val hs (y_move rfl) ⟨_, rfl, rfl⟩ rfl rfl fun a hs => ?_
      refine st_val hs (y_eql rfl rfl) ⟨_, rfl, rfl⟩ rfl rfl fun a hs => ?_
      refine st_val hs (y_pickT rfl rfl) trivial rfl rfl fun a hs => ?_
      refine wpList_nil ?_
      refine then_normal ?_
      exact ⟨rfl, (hs.fix 26 (.bool ((rv5.2 == 0) && (rv19.2 == 0))) rfl (and_t h30)).weaken _ ⟨rfl, rfl, rfl, rfl, trivial⟩⟩
    · have hs := hs.fix 23 (.bool false) rfl (vb h30)
      refine st_skip hs rfl rfl rfl rfl rfl fun a hs => ?_
      refine st_skip hs rfl rfl rfl rfl rfl fun a hs => ?_
      refine st_val hs (y_pickF rfl rfl) trivial rfl rfl fun a hs => ?_
      refine wpList_nil ?_
      refine then_normal ?_
      exact ⟨rfl, (hs.fix 26 (.bool ((rv5.2 == 0) && (rv19.2 == 0))) rfl (and_f h30)).weaken _ ⟨rfl, rfl, rfl, rfl, trivial⟩⟩
  · rintro a w1 ⟨h88, hs⟩
    subst h88
    refine st_val hs (y_move rfl) trivial rfl rfl fun a hs => ?_
    obtain ⟨c41, hc41, hsh⟩ := bind_t hsh
    refine wpl_join 4 (fun a w => ∃ (Sv42 : Nat → Prop), Sl 41 [(1, .pointer (some ⟨b2, 0, none⟩)), (4, .slice p20 rv19.1.length k21), (31, .bool c41)] a ∧ Wd ⟨w0, S0, []⟩ Sv42 [.box b2 [.slice p1 ([1, 1] : List Int).length ([1, 1] : List Int).length, .int .i64 2, .int .i64 1] 28, .row p20 rv19.1.length k21 c22 3 1] [SlA p1 ([1, 1] : List Int).length ([1, 1] : List Int).length ([1, 1] : List Int), RowA c22 rv19.1] w) ?_ ?_
    · rcases Bool.eq_false_or_eq_true ((rv5.2 == 0) && (rv19.2 == 0)) with h40 | h40
      · have hs := hs.fix 27 (.bool true) rfl (vb h40)
        have hsh := ite_t hc41 h40
        refine st_val hs (y_move rfl) ⟨_, rfl, rfl⟩ rfl rfl fun a hs => ?_
        refine w_buildSlice (α := Int) (vs := [.int .i64 5, .int .i64 7]) (cs := [.int .i64 5, .int .i64 7]) (xs := ([5, 7] : List Int)) hs hw El22 rfl rfl rfl rfl rfl rfl ⟨⟨_, rfl, rfl⟩, ⟨⟨_, rfl, rfl⟩, rfl⟩⟩ rfl ⟨_, rfl, rfl⟩ ?_
        intro p43 a w hs hw
        obtain ⟨rv45, h44, hsh⟩ := bind_t hsh
        obtain ⟨Sv46, hw⟩ := w_share (α := Int) hw 2 rfl 4 rfl (.inl rfl)
        obtain ⟨Sv47, hw⟩ := w_share (α := Int) hw 0 rfl 1 rfl (.inl rfl)
        refine st_callR hs (ref05_Same_ok h44 hw.dom (hw.envAt 1 rfl) (hw.envAt 0 rfl)) (do_call Try.call23 rfl) ⟨_, rfl, rfl⟩ rfl rfl ?_
        intro v51 Sv48 w a h49 h50 hs
        subst h50
        have hw := hw.call h49
        refine st_val hs (y_pickT rfl rfl) trivial rfl rfl fun a hs => ?_
        refine wpList_nil ?_
        have hsh := Option.some.inj hsh
        subst hsh
        refine then_normal ?_
        exact ⟨Sv48, (hs.weaken _ ⟨rfl, rfl, rfl, trivial⟩), (hw.fit [1, 0] (by decide) ⟨rfl, rfl, trivial⟩ ⟨⟨8, rfl⟩, ⟨3, rfl⟩, trivial⟩)⟩
      · have hs := hs.fix 27 (.bool false) rfl (vb h40)
        have hsh := ite_f hc41 h40
        refine st_skip hs rfl rfl rfl rfl rfl fun a hs => ?_
        refine st_skip hs rfl rfl rfl rfl rfl fun a hs => ?_
        refine st_skip hs rfl rfl rfl rfl rfl fun a hs => ?_
        refine st_val hs (y_pickF rfl rfl) trivial rfl rfl fun a hs => ?_
        refine wpList_nil ?_
        have hsh := Option.some.inj hsh
        subst hsh
        refine then_normal ?_
        exact ⟨Sv26, (hs.weaken _ ⟨rfl, rfl, rfl, trivial⟩), (hw.fit [2, 0] (by decide) ⟨rfl, rfl, trivial⟩ ⟨⟨5, rfl⟩, ⟨0, rfl⟩, trivial⟩)⟩
    · rintro a w ⟨Sv42, hs, hw⟩
      refine st_val hs (y_move rfl) trivial rfl rfl fun a hs => ?_
      obtain ⟨c62, hc62, hsh⟩ := bind_t hsh
      refine wpl_join 4 (fun a w => ∃ (Sv63 : Nat → Prop), Sl 41 [(1, .pointer (some ⟨b2, 0, none⟩)), (36, .bool c62)] a ∧ Wd ⟨w0, S0, []⟩ Sv63 [.box b2 [.slice p1 ([1, 1] : List Int).length ([1, 1] : List Int).length, .int .i64 2, .int .i64 1] 28] [SlA p1 ([1, 1] : List Int).length ([1, 1] : List Int).length ([1, 1] : List Int)] w) ?_ ?_
      · rcases Bool.eq_false_or_eq_true c41 with h61 | h61
        · have hs := hs.fix 32 (.bool true) rfl (vb h61)
          have hsh := ite_t hc62 h61
          refine st_val hs (y_move rfl) ⟨_, rfl, rfl⟩ rfl rfl fun a hs => ?_
          refine w_buildSlice (α := Int) (vs := [.int .i64 7]) (cs := [.int .i64 7]) (xs := ([7] : List Int)) hs hw El22 rfl rfl rfl rfl rfl rfl ⟨⟨_, rfl, rfl⟩, rfl⟩ rfl ⟨_, rfl, rfl⟩ ?_
          intro p64 a w hs hw
          obtain ⟨rv66, h65, hsh⟩ := bind_t hsh
          obtain ⟨Sv67, hw⟩ := w_share (α := Int) hw 2 rfl 2 rfl (.inl rfl)
          obtain ⟨Sv68, hw⟩ := w_share (α := Int) hw 0 rfl 1 rfl (.inl rfl)
          refine st_callR hs (ref05_Same_ok h65 hw.dom (hw.envAt 1 rfl) (hw.envAt 0 rfl)) (do_call Try.call23 rfl) ⟨_, rfl, rfl⟩ rfl rfl ?_
          intro v72 Sv69 w a h70 h71 hs
          subst h71
          have hw := hw.call h70
          refine st_val hs (y_pickT rfl rfl) trivial rfl rfl fun a hs => ?_
          refine wpList_nil ?_
          have hsh := Option.some.inj hsh
          subst hsh
          refine then_normal ?_
          exact ⟨Sv69, (hs.weaken _ ⟨rfl, rfl, trivial⟩), (hw.fit [0] (by decide) ⟨rfl, trivial⟩ ⟨⟨3, rfl⟩, trivial⟩)⟩
        · have hs := hs.fix 32 (.bool false) rfl (vb h61)
          have hsh := ite_f hc62 h61
          refine st_skip hs rfl rfl rfl rfl rfl fun a hs => ?_
          refine st_skip hs rfl rfl rfl rfl rfl fun a hs => ?_
          refine st_skip hs rfl rfl rfl rfl rfl fun a hs => ?_
          refine st_val hs (y_pickF rfl rfl) trivial rfl rfl fun a hs => ?_
          refine wpList_nil ?_
          have hsh := Option.some.inj hsh
          subst hsh
          refine then_normal ?_
          exact ⟨Sv42, (hs.weaken _ ⟨rfl, rfl, trivial⟩), (hw.fit [0] (by decide) ⟨rfl, trivial⟩ ⟨⟨0, rfl⟩, trivial⟩)⟩
      · rintro a w ⟨Sv63, hs, hw⟩
        refine st_val hs (y_move rfl) trivial rfl rfl fun a hs => ?_
        obtain ⟨c80, hc80, hsh⟩ := bind_t hsh
        refine wpl_join 3 (fun a w => ∃ (Sv81 : Nat → Prop), Sl 41 [(40, .bool c80)] a ∧ Wd ⟨w0, S0, []⟩ Sv81 [] [] w) ?_ ?_
        · rcases Bool.eq_false_or_eq_true c62 with h79 | h79
          · have hs := hs.fix 37 (.bool true) rfl (vb h79)
            have hsh := ite_t hc80 h79
            refine st_val hs (y_loadBA (hw.ownAt 0 rfl) rfl Try.isAgg28 Try.sizeOf28 rfl rfl) ⟨_, rfl, rfl⟩ rfl rfl fun a hs => ?_
            obtain ⟨rv83, h82, hsh⟩ := bind_t hsh
            refine st_callR hs (filter_Valid_ok h82 hw.dom (hw.envAt 0 rfl)) (do_call Try.call32 rfl) ⟨_, rfl, rfl⟩ rfl rfl ?_
            intro v87 Sv84 w a h85 h86 hs
            subst h86
            have hw := hw.call h85
            refine st_val hs (y_pickT rfl rfl) trivial rfl rfl fun a hs => ?_
            refine wpList_nil ?_
            have hsh := Option.some.inj hsh
            subst hsh
            refine then_normal ?_
            exact ⟨Sv84, (hs.weaken _ ⟨rfl, trivial⟩), (hw.fit [] (by decide) trivial trivial)⟩
          · have hs := hs.fix 37 (.bool false) rfl (vb h79)
            have hsh := ite_f hc80 h79
            refine st_skip hs rfl rfl rfl rfl rfl fun a hs => ?_
            refine st_skip hs rfl rfl rfl rfl rfl fun a hs => ?_
            refine st_val hs (y_pickF rfl rfl) trivial rfl rfl fun a hs => ?_
            refine wpList_nil ?_
            have hsh := Option.some.inj hsh
            subst hsh
            refine then_normal ?_
            exact ⟨Sv63, (hs.weaken _ ⟨rfl, trivial⟩), (hw.fit [] (by decide) trivial trivial)⟩
        · rintro a w ⟨Sv81, hs, hw⟩
          refine st_val hs (y_assign rfl) trivial rfl rfl fun a hs => ?_
          refine wpList_nil ?_
          refine then_normal ?_
          have hsh := Option.some.inj hsh
          subst hsh
          refine wp_ret ?_
          exact ret1 hs rfl (rv_tmp rfl) (hw.ret rfl)

abbrev made_Roll_rd (w0 : World) (r : Dice) : (Nat → Prop) → World → Value → Prop := fun S w v => ∃ (b_0 : Nat) (p0_0 : Option Addr) (k0_0 : Nat), v = .pointer (some ⟨b_0, 0, none⟩) ∧ Fresh w0 S w (.box b_0 [.slice p0_0 r.L.length k0_0, .int .i64 r.At] 75) ∧ (SlA p0_0 r.L.length k0_0 r.L).p S w
set_option maxHeartbeats 4000000 in
set_option maxRecDepth 100000 in
theorem made_Roll_ok {w0 : World} {S0 : Nat → Prop} {p2 : Option Addr} {k3 : Nat} {l1 : (List Int)} {r : Dice} (hsh : made_Roll l1 = some r) (hS : ∀ b, S0 b → b < w0.heap.size) (h4 : (SlA p2 l1.length k3 l1).p S0 w0) : Calls Try.prog 12 #[.slice p2 l1.length k3] w0 (Ret [] w0 S0 (made_Roll_rd w0 r)) := by
  refine calls_of_wp Try.func12 rfl ?_
  have hs := Sl.enter #[.slice p2 l1.length k3] 6 [(0, .slice p2 l1.length k3)] rfl ⟨rfl, trivial⟩
  have hw := Wd.enter (E := []) hS (fun _ h => (by cases h))
  have hw := hw.addE h4
  delta made_Roll at hsh
  refine wp_seq ?_
  refine wp_region_lit ?_
  refine st_val hs (y_assign rfl) trivial rfl rfl fun a hs => ?_
  refine wpList_nil ?_
  refine then_normal ?_
  refine wp_seq ?_
  refine wp_region_lit ?_
  refine st_val hs (y_move rfl) trivial rfl rfl fun a hs => ?_
  refine st_val hs (y_build (vs := [(0, .slice p2 l1.length k3)]) Bld75 rfl rfl) trivial rfl rfl fun a hs => ?_
  refine w_box (cs := [.slice p2 l1.length k3, .int .i64 0]) hs hw rfl rfl rfl trivial ?_
  intro b5 a w hs hw
  refine st_val hs (y_assign rfl) trivial rfl rfl fun a hs => ?_
  refine wpList_nil ?_
  refine then_normal ?_
  have hsh := Option.some.inj hsh
  subst hsh
  refine wp_ret ?_
  exact ret1 hs rfl (rv_tmp rfl) (hw.ret ⟨b5, p2, k3, rfl, (hw.freshOf 0 rfl (.inl rfl)), (hw.envAt 0 rfl)⟩)

abbrev made_Dice_Next_rd (w0 : World) (bd : Nat) (r : (Int × Dice)) : (Nat → Prop) → World → Value → Prop := fun S w v => ∃ (q0_0 : Option Addr) (m0_0 : Nat), v = .int .i64 r.1 ∧ w.heap[bd]? = some (.cells #[.slice q0_0 r.2.L.length m0_0, .int .i64 r.2.At] 75 (0, 0)) ∧ (SlA q0_0 r.2.L.length m0_0 r.2.L).p S w
set_option maxHeartbeats 4000000 in
set_option maxRecDepth 100000 in
theorem made_Dice_Next_ok {w0 : World} {S0 : Nat → Prop} {b2 : Nat} {p3 : Option Addr} {k4 : Nat} {d1 : Dice} {n8 : Int} {r : (Int × Dice)} (hsh : made_Dice_Next d1 n8 = some r) (hS : ∀ b, S0 b → b < w0.heap.size) (h5 : w0.heap[b2]? = some (.cells #[.slice p3 d1.L.length k4, .int .i64 d1.At] 75 (0, 0))) (h6 : ¬ S0 b2) (h7 : (SlA p3 d1.L.length k4 d1.L).p S0 w0) : Calls Try.prog 15 #[.pointer (some ⟨b2, 0, none⟩), .int .i64 n8] w0 (Ret [b2] w0 S0 (made_Dice_Next_rd w0 b2 r)) := by
  refine calls_of_wp Try.func15 rfl ?_
  have hs := Sl.enter #[.pointer (some ⟨b2, 0, none⟩), .int .i64 n8] 45 [(0, .pointer (some ⟨b2, 0, none⟩)), (1, .int .i64 n8)] rfl ⟨rfl, rfl, trivial⟩
  have hw := Wd.enter1 (E := []) hS h5 h6 (fun _ h => (by cases h))
  have hw := hw.addE h7
  delta made_Dice_Next at hsh
  refine wp_seq ?_
  refine wp_region_lit ?_
  refine st_val hs (y_assign rfl) trivial rfl rfl fun a hs => ?_
  refine wpList_nil ?_
  refine then_normal ?_
  refine wp_seq ?_
  refine wp_seq ?_
  refine wp_only (fun a w => ∃ (Sv9 : Nat → Prop), Sl 45 [(0, .pointer (some ⟨b2, 0, none⟩)), (1, .int .i64 n8), (19, .bool ((decide ((d1.L.length : Int) ≤ d1.At)) || (decide (n8 < 1))))] a ∧ Wd ⟨w0, S0, [b2]⟩ Sv9 [.box b2 [.slice p3 d1.L.length k4, .int .i64 d1.At] 75] [SlA p3 d1.L.length k4 d1.L] w) ?_ ?_
  · rcases Bool.eq_false_or_eq_true (decide ((d1.L.length : Int) ≤ d1.At)) with h10 | h10
    · refine h_begin (C := Cls [.box b2 [.slice p3 d1.L.length k4, .int .i64 d1.At] 75] []) (by kernel_rfl) rfl ?_
      have hw := hw.drew
      have hC : Cls [.box b2 [.slice p3 d1.L.length k4, .int .i64 d1.At] 75] [] _ := hw.cls [0] ⟨rfl, trivial⟩ trivial
      refine h_take hs (i := 0) rfl (by kernel_rfl) (by kernel_rfl) (by kernel_rfl) trivial rfl rfl hC (fun w hC => y_move rfl) fun a hs => ?_
      refine h_take hs (i := 1) rfl (by kernel_rfl) (by kernel_rfl) (by kernel_rfl) trivial rfl rfl hC (fun w hC => y_nilCheck rfl) fun a hs => ?_
      refine h_take hs (i := 2) rfl (by kernel_rfl) (by kernel_rfl) (by kernel_rfl) trivial rfl rfl hC (fun w hC => y_fieldAddr (o' := 1) Try.runUnderlying75 rfl Try.sizeOf3 rfl rfl rfl) fun a hs => ?_
      refine h_take hs (i := 3) rfl (by kernel_rfl) (by kernel_rfl) (by kernel_rfl) trivial rfl rfl hC (fun w hC => y_loadB1 (hC.ownAt 0 rfl) rfl Try.isAgg3 rfl) fun a hs => ?_
      refine h_take hs (i := 4) rfl (by kernel_rfl) (by kernel_rfl) (by kernel_rfl) trivial rfl rfl hC (fun w hC => y_move rfl) fun a hs => ?_
      refine h_take hs (i := 5) rfl (by kernel_rfl) (by kernel_rfl) (by kernel_rfl) trivial rfl rfl hC (fun w hC => y_nilCheck rfl) fun a hs => ?_
      refine h_take hs (i := 6) rfl (by kernel_rfl) (by kernel_rfl) (by kernel_rfl) trivial rfl rfl hC (fun w hC => y_fieldAddr (o' := 0) Try.runUnderlying75 rfl Try.sizeOf22 rfl rfl rfl) fun a hs => ?_
      refine h_take hs (i := 7) rfl (by kernel_rfl) (by kernel_rfl) (by kernel_rfl) trivial rfl rfl hC (fun w hC => y_loadB1 (hC.ownAt 0 rfl) rfl Try.isAgg22 rfl) fun a hs => ?_
      refine h_take hs (i := 8) rfl (by kernel_rfl) (by kernel_rfl) (by kernel_rfl) trivial rfl rfl hC (fun w hC => y_len Try.runUnderlying22 rfl) fun a hs => ?_
      refine h_take hs (i := 9) rfl (by kernel_rfl) (by kernel_rfl) (by kernel_rfl) trivial rfl rfl hC (fun w hC => y_geq rfl rfl) fun a hs => ?_
      refine h_take hs (i := 10) rfl (by kernel_rfl) (by kernel_rfl) (by kernel_rfl) trivial rfl rfl hC (fun w hC => y_move rfl) fun a hs => ?_
      have hs := hs.fix 16 (.bool true) rfl (vb h10)
      refine h_skip hs (i := 11) rfl (by kernel_rfl) (by kernel_rfl) (by kernel_rfl) rfl rfl rfl (by first | exact .inl rfl | exact .inr rfl) rfl rfl hC fun a hs => ?_
      refine h_skip hs (i := 12) rfl (by kernel_rfl) (by kernel_rfl) (by kernel_rfl) rfl rfl rfl (by first | exact .inl rfl | exact .inr rfl) rfl rfl hC fun a hs => ?_
      refine h_take hs (i := 13) rfl (by kernel_rfl) (by kernel_rfl) (by kernel_rfl) trivial rfl rfl hC (fun w hC => y_pickTE (v := .bool ((decide ((d1.L.length : Int) ≤ d1.At)) || (decide (n8 < 1)))) rfl rfl (or_t h10)) fun a hs => ?_
      refine h_done (by kernel_rfl) ?_
      exact ⟨S0, (hs.weaken _ ⟨rfl, rfl, rfl, trivial⟩), (hw.fit [0] (by decide) ⟨rfl, trivial⟩ ⟨⟨0, rfl⟩, trivial⟩)⟩
    · refine h_begin (C := Cls [.box b2 [.slice p3 d1.L.length k4, .int .i64 d1.At] 75] []) (by kernel_rfl) rfl ?_
      have hw := hw.drew
      have hC : Cls [.box b2 [.slice p3 d1.L.length k4, .int .i64 d1.At] 75] [] _ := hw.cls [0] ⟨rfl, trivial⟩ trivial
      refine h_take hs (i := 0) rfl (by kernel_rfl) (by kernel_rfl) (by kernel_rfl) trivial rfl rfl hC (fun w hC => y_move rfl) fun a hs => ?_
      refine h_take hs (i := 1) rfl (by kernel_rfl) (by kernel_rfl) (by kernel_rfl) trivial rfl rfl hC (fun w hC => y_nilCheck rfl) fun a hs => ?_
      refine h_take hs (i := 2) rfl (by kernel_rfl) (by kernel_rfl) (by kernel_rfl) trivial rfl rfl hC (fun w hC => y_fieldAddr (o' := 1) Try.runUnderlying75 rfl Try.sizeOf3 rfl rfl rfl) fun a hs => ?_
      refine h_take hs (i := 3) rfl (by kernel_rfl) (by kernel_rfl) (by kernel_rfl) trivial rfl rfl hC (fun w hC => y_loadB1 (hC.ownAt 0 rfl) rfl Try.isAgg3 rfl) fun a hs => ?_
      refine h_take hs (i := 4) rfl (by kernel_rfl) (by kernel_rfl) (by kernel_rfl) trivial rfl rfl hC (fun w hC => y_move rfl) fun a hs => ?_
      refine h_take hs (i := 5) rfl (by kernel_rfl) (by kernel_rfl) (by kernel_rfl) trivial rfl rfl hC (fun w hC => y_nilCheck rfl) fun a hs => ?_
      refine h_take hs (i := 6) rfl (by kernel_rfl) (by kernel_rfl) (by kernel_rfl) trivial rfl rfl hC (fun w hC => y_fieldAddr (o' := 0) Try.runUnderlying75 rfl Try.sizeOf22 rfl rfl rfl) fun a hs => ?_
      refine h_take hs (i := 7) rfl (by kernel_rfl) (by kernel_rfl) (by kernel_rfl) trivial rfl rfl hC (fun w hC => y_loadB1 (hC.ownAt 0 rfl) rfl Try.isAgg22 rfl) fun a hs => ?_
      refine h_take hs (i := 8) rfl (by kernel_rfl) (by kernel_rfl) (by kernel_rfl) trivial rfl rfl hC (fun w hC => y_len Try.runUnderlying22 rfl) fun a hs => ?_
      refine h_take hs (i := 9) rfl (by kernel_rfl) (by kernel_rfl) (by kernel_rfl) trivial rfl rfl hC (fun w hC => y_geq rfl rfl) fun a hs => ?_
      refine h_take hs (i := 10) rfl (by kernel_rfl) (by kernel_rfl) (by kernel_rfl) trivial rfl rfl hC (fun w hC => y_move rfl) fun a hs => ?_
      have hs := hs.fix 16 (.bool false) rfl (vb h10)
      refine h_take hs (i := 11) rfl (by kernel_rfl) (by kernel_rfl) (by kernel_rfl) ⟨_, rfl, rfl⟩ rfl rfl hC (fun w hC => y_move rfl) fun a hs => ?_
      refine h_take hs (i := 12) rfl (by kernel_rfl) (by kernel_rfl) (by kernel_rfl) ⟨_, rfl, rfl⟩ rfl rfl hC (fun w hC => y_lss rfl rfl) fun a hs => ?_
      refine h_take hs (i := 13) rfl (by kernel_rfl) (by kernel_rfl) (by kernel_rfl) trivial rfl rfl hC (fun w hC => y_pickFE (v := .bool ((decide ((d1.L.length : Int) ≤ d1.At)) || (decide (n8 < 1)))) rfl rfl (or_f h10)) fun a hs => ?_
      refine h_done (by kernel_rfl) ?_
      exact ⟨S0, (hs.weaken _ ⟨rfl, rfl, rfl, trivial⟩), (hw.fit [0] (by decide) ⟨rfl, trivial⟩ ⟨⟨0, rfl⟩, trivial⟩)⟩
  · rintro a w ⟨Sv9, hs, hw⟩
    refine then_normal ?_
    refine wp_cond_split (hs.ev rfl) (fun h14 => ?_) (fun h14 => ?_)
    · have hsh := ite_t hsh h14
      refine wp_seq ?_
      refine wp_region_lit ?_
      refine st_val hs (y_assign rfl) trivial rfl rfl fun a hs => ?_
      refine wpList_nil ?_
      refine then_normal ?_
      have hsh := Option.some.inj hsh
      subst hsh
      refine wp_ret ?_
      refine then_ret ?_
      exact ret1 hs rfl (rv_tmp rfl) (hw.ret ⟨p3, k4, rfl, (hw.ownAt 0 rfl), (hw.envAt 0 rfl)⟩)
    · have hsh := ite_f hsh h14
      refine wp_skip ?_
      refine then_normal ?_
      refine wp_seq ?_
      obtain ⟨x17, h15, hsh⟩ := bind_t hsh
      obtain ⟨b23, o24, q21, c22, h25, h18, h19, h20, h16⟩ := hw.elemV 0 rfl h15
      subst h25
      obtain ⟨_, rfl, rfl⟩ := h16
      have hw := hw.addE h20
      obtain ⟨rem27, h26, hsh⟩ := bind_t hsh
      refine wp_only (fun a w => ∃ (Sv28 : Nat → Prop), Sl 45 [(0, .pointer (some ⟨b2, 0, none⟩)), (1, .int .i64 n8), (5, .int .i64 rem27)] a ∧ Wd ⟨w0, S0, [b2]⟩ Sv28 [.box b2 [.slice (some ⟨b23, o24, none⟩) d1.L.length k4, .int .i64 d1.At] 75] [SlA (some ⟨b23, o24, none⟩) d1.L.length k4 d1.L] w) ?_ ?_
      · refine h_begin (C := Cls [.box b2 [.slice (some ⟨b23, o24, none⟩) d1.L.length k4, .int .i64 d1.At] 75] [CeA b23 q21 [.int .i64 x17]]) (by kernel_rfl) rfl ?_
        have hw := hw.drew
        have hC : Cls [.box b2 [.slice (some ⟨b23, o24, none⟩) d1.L.length k4, .int .i64 d1.At] 75] [CeA b23 q21 [.int .i64 x17]] _ := hw.cls [0] ⟨rfl, trivial⟩ ⟨⟨0, rfl⟩, trivial⟩
        refine h_take hs (i := 0) rfl (by kernel_rfl) (by kernel_rfl) (by kernel_rfl) trivial rfl rfl hC (fun w hC => y_move rfl) fun a hs => ?_
        refine h_take hs (i := 1) rfl (by kernel_rfl) (by kernel_rfl) (by kernel_rfl) trivial rfl rfl hC (fun w hC => y_nilCheck rfl) fun a hs => ?_
        refine h_take hs (i := 2) rfl (by kernel_rfl) (by kernel_rfl) (by kernel_rfl) trivial rfl rfl hC (fun w hC => y_fieldAddr (o' := 0) Try.runUnderlying75 rfl Try.sizeOf22 rfl rfl rfl) fun a hs => ?_
        refine h_take hs (i := 3) rfl (by kernel_rfl) (by kernel_rfl) (by kernel_rfl) trivial rfl rfl hC (fun w hC => y_loadB1 (hC.ownAt 0 rfl) rfl Try.isAgg22 rfl) fun a hs => ?_
        refine h_take hs (i := 4) rfl (by kernel_rfl) (by kernel_rfl) (by kernel_rfl) trivial rfl rfl hC (fun w hC => y_move rfl) fun a hs => ?_
        refine h_take hs (i := 5) rfl (by kernel_rfl) (by kernel_rfl) (by kernel_rfl) trivial rfl rfl hC (fun w hC => y_nilCheck rfl) fun a hs => ?_
        refine h_take hs (i := 6) rfl (by kernel_rfl) (by kernel_rfl) (by kernel_rfl) trivial rfl rfl hC (fun w hC => y_fieldAddr (o' := 1) Try.runUnderlying75 rfl Try.sizeOf3 rfl rfl rfl) fun a hs => ?_
        refine h_take hs (i := 7) rfl (by kernel_rfl) (by kernel_rfl) (by kernel_rfl) trivial rfl rfl hC (fun w hC => y_loadB1 (hC.ownAt 0 rfl) rfl Try.isAgg3 rfl) fun a hs => ?_
        refine h_take hs (i := 8) rfl (by kernel_rfl) (by kernel_rfl) (by kernel_rfl) trivial rfl rfl hC (fun w hC => y_indexAt Try.runUnderlying22 Try.sizeOf3 rfl rfl h18.1 h18.2 h19) fun a hs => ?_
        refine h_take hs (i := 9) rfl (by kernel_rfl) (by kernel_rfl) (by kernel_rfl) trivial rfl rfl hC (fun w hC => y_loadE1 (j := 0) (hC.ceAt 0 rfl) rfl Try.isAgg3 rfl) fun a hs => ?_
        refine h_take hs (i := 10) rfl (by kernel_rfl) (by kernel_rfl) (by kernel_rfl) trivial rfl rfl hC (fun w hC => y_move rfl) fun a hs => ?_
        refine h_take hs (i := 11) rfl (by kernel_rfl) (by kernel_rfl) (by kernel_rfl) trivial rfl rfl hC (fun w hC => y_remM rfl rfl h26) fun a hs => ?_
        refine h_take hs (i := 12) rfl (by kernel_rfl) (by kernel_rfl) (by kernel_rfl) trivial rfl rfl hC (fun w hC => y_assign rfl) fun a hs => ?_
        refine h_done (by kernel_rfl) ?_
        exact ⟨Sv9, (hs.weaken _ ⟨rfl, rfl, rfl, trivial⟩), (hw.fit [0] (by decide) ⟨rfl, trivial⟩ ⟨⟨1, rfl⟩, trivial⟩)⟩
      · rintro a w ⟨Sv28, hs, hw⟩
        refine then_normal ?_
        refine wp_seq ?_
        refine wp_region_lit ?_
        refine st_val hs (y_move rfl) trivial rfl rfl fun a hs => ?_
        refine st_val hs (y_nilCheck rfl) trivial rfl rfl fun a hs => ?_
        refine st_val hs (y_fieldAddr (o' := 1) Try.runUnderlying75 rfl Try.sizeOf3 rfl rfl rfl) trivial rfl rfl fun a hs => ?_
        refine st_val hs (y_loadB1 (hw.ownAt 0 rfl) rfl Try.isAgg3 rfl) trivial rfl rfl fun a hs => ?_
        refine st_val hs (y_add rfl rfl) trivial rfl rfl fun a hs => ?_
        refine st_val hs (y_nilCheck rfl) trivial rfl rfl fun a hs => ?_
        refine st_val hs (y_fieldAddr (o' := 1) Try.runUnderlying75 rfl Try.sizeOf3 rfl rfl rfl) trivial rfl rfl fun a hs => ?_
        refine w_store (m := 1) (cs' := [.slice (some ⟨b23, o24, none⟩) d1.L.length k4, .int .i64 (w64 (d1.At + 1))]) hs hw 0 rfl rfl rfl Try.sizeOf3 rfl rfl rfl rfl trivial ?_
        intro a w hs hw
        refine wpList_nil ?_
        refine then_normal ?_
        refine wp_seq ?_
        refine wp_seq ?_
        refine wp_region_lit ?_
        refine st_val hs (y_move rfl) trivial rfl rfl fun a hs => ?_
        refine st_val hs (y_lss rfl rfl) trivial rfl rfl fun a hs => ?_
        refine wpList_nil ?_
        refine then_normal ?_
        refine wp_join (fun a w => ∃ (x33 : Int) (Sv32 : Nat → Prop), made_Dice_Next_j1 d1 x33 = some r ∧ Sl 45 [(5, .int .i64 x33)] a ∧ Wd ⟨w0, S0, [b2]⟩ Sv32 [.box b2 [.slice (some ⟨b23, o24, none⟩) d1.L.length k4, .int .i64 (w64 (d1.At + 1))] 75] [SlA (some ⟨b23, o24, none⟩) d1.L.length k4 d1.L] w) ?_ ?_
        · refine wp_cond_split (hs.ev rfl) (fun h34 => ?_) (fun h34 => ?_)
          · have hsh := ite_t hsh h34
            refine wp_region_lit ?_
            refine st_val hs (y_move rfl) trivial rfl rfl fun a hs => ?_
            refine st_val hs (y_move rfl) trivial rfl rfl fun a hs => ?_
            refine st_val hs (y_add rfl rfl) trivial rfl rfl fun a hs => ?_
            obtain ⟨x36, h35, hsh⟩ := bind_t hsh
            refine st_val hs (y_assignI rfl h35) trivial rfl rfl fun a hs => ?_
            refine wpList_nil ?_
            refine then_normal ?_
            exact ⟨x36, Sv28, hsh, (hs.weaken _ ⟨rfl, trivial⟩), (hw.fit [0] (by decide) ⟨rfl, trivial⟩ ⟨⟨0, rfl⟩, trivial⟩)⟩
          · have hsh := ite_f hsh h34
            refine wp_skip ?_
            refine then_normal ?_
            exact ⟨rem27, Sv28, hsh, (hs.weaken _ ⟨rfl, trivial⟩), (hw.fit [0] (by decide) ⟨rfl, trivial⟩ ⟨⟨0, rfl⟩, trivial⟩)⟩
        · rintro a w ⟨x33, Sv32, hsh, hs, hw⟩
          delta made_Dice_Next_j1 at hsh
          refine then_normal ?_
          refine wp_seq ?_
          refine wp_region_lit ?_
          refine st_val hs (y_move rfl) trivial rfl rfl fun a hs => ?_
          refine st_val hs (y_assign rfl) trivial rfl rfl fun a hs => ?_
          refine wpList_nil ?_
          refine then_normal ?_
          have hsh := Option.some.inj hsh
          subst hsh
          refine wp_ret ?_
          exact ret1 hs rfl (rv_tmp rfl) (hw.ret ⟨(some ⟨b23, o24, none⟩), k4, rfl, (hw.ownAt 0 rfl), (hw.envAt 0 rfl)⟩)

abbrev made_Dice_Pick_rd (w0 : World) (bd : Nat) (r : (Int × Dice)) : (Nat → Prop) → World → Value → Prop := fun S w v => ∃ (q0_0 : Option Addr) (m0_0 : Nat), v = .int .i64 r.1 ∧ w.heap[bd]? = some (.cells #[.slice q0_0 r.2.L.length m0_0, .int .i64 r.2.At] 75 (0, 0)) ∧ (SlA q0_0 r.2.L.length m0_0 r.2.L).p S w
set_option maxHeartbeats 4000000 in
set_option maxRecDepth 100000 in
theorem made_Dice_Pick_ok {w0 : World} {S0 : Nat → Prop} {b2 : Nat} {p3 : Option Addr} {k4 : Nat} {p9 : Option Addr} {k10 : Nat} {d1 : Dice} {l8 : (List Int)} {r : (Int × Dice)} (hsh : made_Dice_Pick d1 l8 = some r) (hS : ∀ b, S0 b → b < w0.heap.size) (h5 : w0.heap[b2]? = some (.cells #[.slice p3 d1.L.length k4, .int .i64 d1.At] 75 (0, 0))) (h6 : ¬ S0 b2) (h7 : (SlA p3 d1.L.length k4 d1.L).p S0 w0) (h11 : (SlA p9 l8.length k10 l8).p S0 w0) : Calls Try.prog 27 #[.pointer (some ⟨b2, 0, none⟩), .slice p9 l8.length k10] w0 (Ret [b2] w0 S0 (made_Dice_Pick_rd w0 b2 r)) := by
  refine calls_of_wp Try.func27 rfl ?_
  have hs := Sl.enter #[.pointer (some ⟨b2, 0, none⟩), .slice p9 l8.length k10] 12 [(0, .pointer (some ⟨b2, 0, none⟩)), (1, .slice p9 l8.length k10)] rfl ⟨rfl, rfl, trivial⟩
  have hw := Wd.enter1 (E := []) hS h5 h6 (fun _ h => (by cases h))
  have hw := hw.addE h7
  have hw := hw.addE h11
  delta made_Dice_Pick at hsh
  refine wp_seq ?_
  refine wp_region_lit ?_
  refine st_val hs (y_assign rfl) trivial rfl rfl fun a hs => ?_
  refine wpList_nil ?_
  refine then_normal ?_
  refine wp_seq ?_
  refine wp_region_lit ?_
  refine st_val hs (y_move rfl) trivial rfl rfl fun a hs => ?_
  refine st_val hs (y_move rfl) trivial rfl rfl fun a hs => ?_
  refine st_val hs (y_move rfl) trivial rfl rfl fun a hs => ?_
  refine st_val hs (y_len Try.runUnderlying22 rfl) trivial rfl rfl fun a hs => ?_
  obtain ⟨rv13, h12, hsh⟩ := bind_t hsh
  refine st_callR hs (made_Dice_Next_ok h12 hw.dom (hw.ownAt 0 rfl) (hw.boxS 0 rfl) (hw.envAt 1 rfl)) (do_call Try.call15 rfl) trivial rfl rfl ?_
  intro v21 Sv18 w a h19 h20 hs
  obtain ⟨p15, k16, rfl, h14, h17⟩ := h20
  have hw := hw.call1 0 rfl h19 h14
  have hw := hw.addE (e := SlA p15 rv13.2.L.length k16 rv13.2.L) h17
  obtain ⟨x24, h22, hsh⟩ := bind_t hsh
  obtain ⟨b30, o31, q28, c29, h32, h25, h26, h27, h23⟩ := hw.elemV 1 rfl h22
  subst h32
  obtain ⟨_, rfl, rfl⟩ := h23
  have hw := hw.addE h27
  refine st_val hs (y_indexAt Try.runUnderlying22 Try.sizeOf3 rfl rfl h25.1 h25.2 h26) trivial rfl rfl fun a hs => ?_
  refine st_val hs (y_loadE1 (j := 0) (hw.ceAt 0 rfl) rfl Try.isAgg3 rfl) trivial rfl rfl fun a hs => ?_
  refine st_val hs (y_assign rfl) trivial rfl rfl fun a hs => ?_
  refine wpList_nil ?_
  refine then_normal ?_
  have hsh := Option.some.inj hsh
  subst hsh
  refine wp_ret ?_
  exact ret1 hs rfl (rv_tmp rfl) (hw.ret ⟨p15, k16, rfl, (hw.ownAt 0 rfl), (hw.envAt 1 rfl)⟩)

abbrev made_Dice_Filter_rd (w0 : World) (bd : Nat) (r : (Filter × Dice)) : (Nat → Prop) → World → Value → Prop := fun S w v => ∃ (p0_0 : Option Addr) (k0_0 : Nat) (c0_0 : List Value) (q0_0 : Option Addr) (m0_0 : Nat), v = .agg #[.slice p0_0 r.1.Taps.length k0_0, .int .i64 r.1.Factor, .int .i64 r.1.Shift] ∧ Fresh w0 S w (.row p0_0 r.1.Taps.length k0_0 c0_0 3 1) ∧ (RowA c0_0 r.1.Taps).p S w ∧ w.heap[bd]? = some (.cells #[.slice q0_0 r.2.L.length m0_0, .int .i64 r.2.At] 75 (0, 0)) ∧ (SlA q0_0 r.2.L.length m0_0 r.2.L).p S w
set_option maxHeartbeats 4000000 in
set_option maxRecDepth 100000 in
theorem made_Dice_Filter_ok {w0 : World} {S0 : Nat → Prop} {b2 : Nat} {p3 : Option Addr} {k4 : Nat} {d1 : Dice} {r : (Filter × Dice)} (hsh : made_Dice_Filter d1 = some r) (hS : ∀ b, S0 b → b < w0.heap.size) (h5 : w0.heap[b2]? = some (.cells #[.slice p3 d1.L.length k4, .int .i64 d1.At] 75 (0, 0))) (h6 : ¬ S0 b2) (h7 : (SlA p3 d1.L.length k4 d1.L).p S0 w0) : Calls Try.prog 13 #[.pointer (some ⟨b2, 0, none⟩)] w0 (Ret [b2] w0 S0 (made_Dice_Filter_rd w0 b2 r)) := by
  refine calls_of_wp Try.func13 rfl ?_
  have hs := Sl.enter #[.pointer (some ⟨b2, 0, none⟩)] 45 [(0, .pointer (some ⟨b2, 0, none⟩))] rfl ⟨rfl, trivial⟩
  have hw := Wd.enter1 (E := []) hS h5 h6 (fun _ h => (by cases h))
  have hw := hw.addE h7
  delta made_Dice_Filter at hsh
  refine wp_seq ?_
  refine wp_region_lit ?_
  refine w_alloc (cs := [.slice none ([] : List Int).length 0, .int .i64 0, .int .i64 0]) hs hw Try.zeroValue28 rfl rfl trivial ?_
  intro b8 a w hs hw
  refine wpList_nil ?_
  refine then_normal ?_
  refine wp_seq ?_
  refine wp_region_lit ?_
  refine st_val hs (y_move rfl) trivial rfl rfl fun a hs => ?_
  refine w_buildSlice (α := Int) (vs := [.int .i64 1, .int .i64 1, .int .i64 2, .int .i64 3]) (cs := [.int .i64 1, .int .i64 1, .int .i64 2, .int .i64 3]) (xs := ([1, 1, 2, 3] : List Int)) hs hw El22 rfl rfl rfl rfl rfl rfl ⟨⟨_, rfl, rfl⟩, ⟨⟨_, rfl, rfl⟩, ⟨⟨_, rfl, rfl⟩, ⟨⟨_, rfl, rfl⟩, rfl⟩⟩⟩⟩ rfl trivial ?_
  intro p9 a w hs hw
  obtain ⟨rv11, h10, hsh⟩ := bind_t hsh
  obtain ⟨Sv16, hw⟩ := w_share (α := Int) hw 0 rfl 0 rfl (.inr ⟨2, _, _, _, rfl, rfl, rfl⟩)
  refine st_callR hs (made_Dice_Pick_ok h10 hw.dom (hw.ownAt 1 rfl) (hw.boxS 1 rfl) (hw.envAt 2 rfl) (hw.envAt 0 rfl)) (do_call Try.call27 rfl) trivial rfl rfl ?_
  intro v20 Sv17 w a h18 h19 hs
  obtain ⟨p13, k14, rfl, h12, h15⟩ := h19
  have hw := hw.call1 1 rfl h18 h12
  have hw := hw.addE (e := SlA p13 rv11.2.L.length k14 rv11.2.L) h15
  refine st_val hs (y_move rfl) trivial rfl rfl fun a hs => ?_
  refine w_buildSlice (α := Int) (vs := [.int .i64 0, .int .i64 2, .int .i64 4, .int .i64 6]) (cs := [.int .i64 0, .int .i64 2, .int .i64 4, .int .i64 6]) (xs := ([0, 2, 4, 6] : List Int)) hs hw El22 rfl rfl rfl rfl rfl rfl ⟨⟨_, rfl, rfl⟩, ⟨⟨_, rfl, rfl⟩, ⟨⟨_, rfl, rfl⟩, ⟨⟨_, rfl, rfl⟩, rfl⟩⟩⟩⟩ rfl trivial ?_
  intro p21 a w hs hw
  obtain ⟨rv23, h22, hsh⟩ := bind_t hsh
  obtain ⟨Sv28, hw⟩ := w_share (α := Int) hw 0 rfl 0 rfl (.inr ⟨2, _, _, _, rfl, rfl, rfl⟩)
  refine st_callR hs (made_Dice_Pick_ok h22 hw.dom (hw.ownAt 1 rfl) (hw.boxS 1 rfl) (hw.envAt 2 rfl) (hw.envAt 0 rfl)) (do_call Try.call27 rfl) trivial rfl rfl ?_
  intro v32 Sv29 w a h30 h31 hs
  obtain ⟨p25, k26, rfl, h24, h27⟩ := h31
  have hw := hw.call1 1 rfl h30 h24
  have hw := hw.addE (e := SlA p25 rv23.2.L.length k26 rv23.2.L) h27
  refine st_val hs (y_build (vs := [(1, .int .i64 rv11.1), (2, .int .i64 rv23.1)]) Bld28 rfl rfl) trivial rfl rfl fun a hs => ?_
  refine w_alloc (cs := [.slice none ([] : List Int).length 0, .int .i64 0, .int .i64 0]) hs hw Try.zeroValue28 rfl rfl trivial ?_
  intro b33 a w hs hw
  refine w_store (m := 3) (cs' := [.slice none ([] : List Int).length 0, .int .i64 rv11.1, .int .i64 rv23.1]) hs hw 0 rfl rfl rfl Try.sizeOf28 rfl rfl rfl rfl trivial ?_
  intro a w hs hw
  refine wpList_nil ?_
  refine then_normal ?_
  refine wp_seq ?_
  refine wp_region_lit ?_
  refine st_val hs (y_fieldAddr (o' := 2) Try.runUnderlying28 rfl Try.sizeOf3 rfl rfl rfl) trivial rfl rfl fun a hs => ?_
  refine st_val hs (y_loadB1 (hw.ownAt 0 rfl) rfl Try.isAgg3 rfl) trivial rfl rfl fun a hs => ?_
  refine st_val hs (y_convert Try.runUnderlying3 Try.runUnderlying30 rfl) trivial rfl rfl fun a hs => ?_
  obtain ⟨shl35, h34, hsh⟩ := bind_t hsh
  refine st_val hs (y_shlM rfl rfl h34) trivial rfl rfl fun a hs => ?_
  refine st_val hs (y_assign rfl) trivial rfl rfl fun a hs => ?_
  refine wpList_nil ?_
  refine then_normal ?_
  refine wp_seq ?_
  refine wp_seq ?_
  refine wp_region_lit ?_
  refine st_val hs (y_move rfl) trivial rfl rfl fun a hs => ?_
  obtain ⟨rv37, h36, hsh⟩ := bind_t hsh
  refine st_callR hs (made_Dice_Next_ok h36 hw.dom (hw.ownAt 2 rfl) (hw.boxS 2 rfl) (hw.envAt 0 rfl)) (do_call Try.call15 rfl) trivial rfl rfl ?_
  intro v45 Sv42 w a h43 h44 hs
  obtain ⟨p39, k40, rfl, h38, h41⟩ := h44
  have hw := hw.call1 2 rfl h43 h38
  have hw := hw.addE (e := SlA p39 rv37.2.L.length k40 rv37.2.L) h41
  refine st_val hs (y_add rfl rfl) trivial rfl rfl fun a hs => ?_
  obtain ⟨i47, h46, hsh⟩ := bind_t hsh
  refine st_val hs (y_assignI rfl h46) trivial rfl rfl fun a hs => ?_
  refine wpList_nil ?_
  refine then_normal ?_
  obtain ⟨e196, h248, hsh⟩ := bind_t hsh
  refine wp_join (fun a w => ∃ (p197 : Option Addr) (k198 : Nat) (p199 : Option Addr) (k200 : Nat) (c201 : List Value) (Sv202 : Nat → Prop), Sl 45 [(2, .pointer (some ⟨b8, 0, none⟩)), (3, .pointer (some ⟨b33, 0, none⟩))] a ∧ Wd ⟨w0, S0, [b2]⟩ Sv202 [.box b2 [.slice p197 e196.1.length k198, .int .i64 e196.2.1] 75, .box b8 [.slice none ([] : List Int).length 0, .int .i64 0, .int .i64 0] 28, .box b33 [.slice p199 e196.2.2.length k200, .int .i64 rv11.1, .int .i64 rv23.1] 28, .row p199 e196.2.2.length k200 c201 3 1] [SlA p197 e196.1.length k198 e196.1, SlA none ([] : List Int).length 0 ([] : List Int), RowA c201 e196.2.2] w) ?_ ?_
  · refine wp_block ?_
    have hw := hw.nilRow Int 3
    have hw := hw.addE (e := SlA (α := Int) none 0 0 []) nil_sl
    refine wp_while (fun sv48 a w => ∃ (p143 : Option Addr) (k144 : Nat) (p145 : Option Addr) (k146 : Nat) (c147 : List Value) (Sv148 : Nat → Prop), Sl 45 [(0, .pointer (some ⟨b2, 0, none⟩)), (2, .pointer (some ⟨b8, 0, none⟩)), (3, .pointer (some ⟨b33, 0, none⟩)), (4, .int .i64 sv48.2.2.2.1), (5, .int .i64 sv48.2.2.2.2)] a ∧ Wd ⟨w0, S0, [b2]⟩ Sv148 [.box b2 [.slice p143 sv48.1.length k144, .int .i64 sv48.2.1] 75, .box b8 [.slice none ([] : List Int).length 0, .int .i64 0, .int .i64 0] 28, .box b33 [.slice p145 sv48.2.2.1.length k146, .int .i64 rv11.1, .int .i64 rv23.1] 28, .row p145 sv48.2.2.1.length k146 c147 3 1] [SlA p143 sv48.1.length k144 sv48.1, SlA none ([] : List Int).length 0 ([] : List Int), RowA c147 sv48.2.2.1] w) (rv37.2.L, rv37.2.At, ([] : List Int), shl35, i47) h248 ⟨p39, k40, none, 0, [], Sv42, (hs.weaken _ ⟨rfl, rfl, rfl, rfl, rfl, trivial⟩), (hw.fit [3, 2, 1, 0] (by decide) ⟨rfl, rfl, rfl, rfl, trivial⟩ ⟨⟨2, rfl⟩, ⟨0, rfl⟩, ⟨1, rfl⟩, trivial⟩)⟩ ?_
    clear h248
    repeat clear hsh
    rintro sv48 a w tv194 ⟨p143, k144, p145, k146, c147, Sv148, hs, hw⟩ hsh hd193
    delta made_Dice_Filter_l1 at hsh
    refine wp_seq ?_
    refine wp_seq ?_
    refine wp_region_lit ?_
    refine st_val hs (y_move rfl) trivial rfl rfl fun a hs => ?_
    refine st_val hs (y_gtr rfl rfl) trivial rfl rfl fun a hs => ?_
    refine wpList_nil ?_
    refine then_normal ?_
    refine wp_cond_split (hs.ev rfl) (fun h204 => ?_) (fun h204 => ?_)
    · have hsh := ite_t hsh h204
      refine wp_skip ?_
      refine then_normal ?_
      refine wp_seq ?_
      refine wp_block ?_
      refine wp_seq ?_
      refine wp_region_lit ?_
      refine st_val hs (y_move rfl) trivial rfl rfl fun a hs => ?_
      refine st_val hs (y_move rfl) trivial rfl rfl fun a hs => ?_
      refine st_val hs (y_mul rfl rfl) trivial rfl rfl fun a hs => ?_
      refine st_val hs (y_add rfl rfl) trivial rfl rfl fun a hs => ?_
      obtain ⟨rv226, h225, hsh⟩ := bind_t hsh
      refine st_callR hs (made_Dice_Next_ok h225 hw.dom (hw.ownAt 0 rfl) (hw.boxS 0 rfl) (hw.envAt 0 rfl)) (do_call Try.call15 rfl) trivial rfl rfl ?_
      intro v234 Sv231 w a h232 h233 hs
      obtain ⟨p228, k229, rfl, h227, h230⟩ := h233
      have hw := hw.call1 0 rfl h232 h227
      have hw := hw.addE (e := SlA p228 rv226.2.L.length k229 rv226.2.L) h230
      refine st_val hs (y_move rfl) trivial rfl rfl fun a hs => ?_
      refine st_val hs (y_sub rfl rfl) trivial rfl rfl fun a hs => ?_
      obtain ⟨x236, h235, hsh⟩ := bind_t hsh
      refine st_val hs (y_assignI rfl h235) trivial rfl rfl fun a hs => ?_
      refine wpList_nil ?_
      refine then_normal ?_
      refine wp_seq ?_
      refine wp_region_lit ?_
      refine st_val hs (y_move rfl) trivial rfl rfl fun a hs => ?_
      refine st_val hs (y_move rfl) trivial rfl rfl fun a hs => ?_
      refine st_val hs (y_move rfl) trivial rfl rfl fun a hs => ?_
      refine st_val hs (y_neg rfl) trivial rfl rfl fun a hs => ?_
      refine st_val hs (y_max rfl rfl) trivial rfl rfl fun a hs => ?_
      refine st_val hs (y_sub rfl rfl) trivial rfl rfl fun a hs => ?_
      obtain ⟨left238, h237, hsh⟩ := bind_t hsh
      refine st_val hs (y_assignI rfl h237) trivial rfl rfl fun a hs => ?_
      refine wpList_nil ?_
      refine then_normal ?_
      refine wp_region_lit ?_
      refine st_val hs (y_fieldAddr (o' := 0) Try.runUnderlying28 rfl Try.sizeOf22 rfl rfl rfl) trivial rfl rfl fun a hs => ?_
      refine st_val hs (y_loadB1 (hw.ownAt 2 rfl) rfl Try.isAgg22 rfl) trivial rfl rfl fun a hs => ?_
      refine st_val hs (y_move rfl) trivial rfl rfl fun a hs => ?_
      refine w_buildSlice (α := Int) (vs := [.int .i64 x236]) (cs := [.int .i64 x236]) (xs := ([x236] : List Int)) hs hw El22 rfl rfl rfl rfl rfl rfl ⟨⟨_, rfl, rfl⟩, rfl⟩ rfl trivial ?_
      intro p239 a w hs hw
      obtain ⟨l241, h240, hsh⟩ := bind_t hsh
      refine w_appendR (α := Int) hs hw El22 4 rfl rfl rfl 4 rfl 0 rfl 0 rfl h240 rfl trivial ?_
      intro p242 k243 c244 a w hs hw
      refine st_val hs (y_fieldAddr (o' := 0) Try.runUnderlying28 rfl Try.sizeOf22 rfl rfl rfl) trivial rfl rfl fun a hs => ?_
      refine w_store (m := 1) (cs' := [.slice p242 l241.length k243, .int .i64 rv11.1, .int .i64 rv23.1]) hs hw 3 rfl rfl rfl Try.sizeOf22 rfl rfl rfl rfl trivial ?_
      intro a w hs hw
      refine wpList_nil ?_
      refine blk_normal ?_
      refine then_normal ?_
      refine wp_region_lit ?_
      refine st_val hs (y_move rfl) trivial rfl rfl fun a hs => ?_
      refine st_val hs (y_sub rfl rfl) trivial rfl rfl fun a hs => ?_
      obtain ⟨i246, h245, hsh⟩ := bind_t hsh
      refine st_val hs (y_assignI rfl h245) trivial rfl rfl fun a hs => ?_
      refine wpList_nil ?_
      refine then_normal ?_
      exact ⟨_, (Option.some.inj hsh).symm, p228, k229, p242, k243, c244, Sv231, (hs.weaken _ ⟨rfl, rfl, rfl, rfl, rfl, trivial⟩), (hw.fit [1, 2, 3, 4] (by decide) ⟨rfl, rfl, rfl, rfl, trivial⟩ ⟨⟨2, rfl⟩, ⟨4, rfl⟩, ⟨0, rfl⟩, trivial⟩)⟩
    · have hsh := ite_f hsh h204
      refine wp_exit ?_
      refine then_exit ?_
      refine then_exit ?_
      refine blk_exit ?_
      have hsh := Option.some.inj hsh
      subst hsh
      have h247 := hd193 _ rfl
      subst h247
      refine then_normal ?_
      exact ⟨p143, k144, p145, k146, c147, Sv148, (hs.weaken _ ⟨rfl, rfl, trivial⟩), (hw.fit [0, 1, 2, 3] (by decide) ⟨rfl, rfl, rfl, rfl, trivial⟩ ⟨⟨0, rfl⟩, ⟨1, rfl⟩, ⟨2, rfl⟩, trivial⟩)⟩
  · rintro a w ⟨p197, k198, p199, k200, c201, Sv202, hs, hw⟩
    refine then_normal ?_
    refine wp_seq ?_
    refine wp_region_lit ?_
    refine st_val hs (y_loadBA (hw.ownAt 2 rfl) rfl Try.isAgg28 Try.sizeOf28 rfl rfl) trivial rfl rfl fun a hs => ?_
    refine w_store (m := 3) (cs' := [.slice p199 e196.2.2.length k200, .int .i64 rv11.1, .int .i64 rv23.1]) hs hw 1 rfl rfl rfl Try.sizeOf28 rfl rfl rfl rfl trivial ?_
    intro a w hs hw
    refine wpList_nil ?_
    refine then_normal ?_
    have hsh := Option.some.inj hsh
    subst hsh
    refine wp_ret ?_
    exact ret1 hs rfl (rv_cell hw 1 rfl rfl Try.isAgg28 Try.sizeOf28 rfl) (hw.ret ⟨p199, k200, c201, p197, k198, rfl, (hw.freshOf 3 rfl (.inr ⟨0, _, _, _, rfl, rfl, rfl⟩)), (hw.envAt 2 rfl), (hw.ownAt 0 rfl), (hw.envAt 0 rfl)⟩)

abbrev filter_Convolve_rd (w0 : World) (r : (Filter × Int)) : (Nat → Prop) → World → Value → Prop := fun S w v => ∃ (p0_0 : Option Addr) (k0_0 : Nat) (c0_0 : List Value), v = .tuple #[.agg #[.slice p0_0 r.1.Taps.length k0_0, .int .i64 r.1.Factor, .int .i64 r.1.Shift], .int .i64 r.2] ∧ Fresh w0 S w (.row p0_0 r.1.Taps.length k0_0 c0_0 3 1) ∧ (RowA c0_0 r.1.Taps).p S w
set_option maxHeartbeats 4000000 in
set_option maxRecDepth 100000 in
theorem filter_Convolve_ok {w0 : World} {S0 : Nat → Prop} {p2 : Option Addr} {k3 : Nat} {p6 : Option Addr} {k7 : Nat} {a1 : Filter} {b5 : Filter} {r : (Filter × Int)} (hsh : filter_Convolve a1 b5 = some r) (hS : ∀ b, S0 b → b < w0.heap.size) (h4 : (SlA p2 a1.Taps.length k3 a1.Taps).p S0 w0) (h8 : (SlA p6 b5.Taps.length k7 b5.Taps).p S0 w0) : Calls Try.prog 18 #[.agg #[.slice p2 a1.Taps.length k3, .int .i64 a1.Factor, .int .i64 a1.Shift], .agg #[.slice p6 b5.Taps.length k7, .int .i64 b5.Factor, .int .i64 b5.Shift]] w0 (Ret [] w0 S0 (filter_Convolve_rd w0 r)) := by
  refine calls_of_wp Try.func18 rfl ?_
  have hs := Sl.enter #[.agg #[.slice p2 a1.Taps.length k3, .int .i64 a1.Factor, .int .i64 a1.Shift], .agg #[.slice p6 b5.Taps.length k7, .int .i64 b5.Factor, .int .i64 b5.Shift]] 87 [(0, .agg #[.slice p2 a1.Taps.length k3, .int .i64 a1.Factor, .int .i64 a1.Shift]), (1, .agg #[.slice p6 b5.Taps.length k7, .int .i64 b5.Factor, .int .i64 b5.Shift])] rfl ⟨rfl, rfl, trivial⟩
  have hw := Wd.enter (E := []) hS (fun _ h => (by cases h))
  have hw := hw.addE h4
  have hw := hw.addE h8
  delta filter_Convolve at hsh
  refine wp_seq ?_
  refine wp_region_lit ?_
  refine w_box (cs := [.slice p2 a1.Taps.length k3, .int .i64 a1.Factor, .int .i64 a1.Shift]) hs hw rfl rfl rfl trivial ?_
  intro b9 a w hs hw
  refine w_box (cs := [.slice p6 b5.Taps.length k7, .int .i64 b5.Factor, .int .i64 b5.Shift]) hs hw rfl rfl rfl trivial ?_
  intro b10 a w hs hw
  refine w_alloc (cs := [.slice none ([] : List Int).length 0, .int .i64 0, .int .i64 0]) hs hw Try.zeroValue28 rfl rfl trivial ?_
  intro b11 a w hs hw
  refine st_val hs (y_assign rfl) trivial rfl rfl fun a hs => ?_
  refine wpList_nil ?_
  refine then_normal ?_
  refine wp_seq ?_
  refine wp_block ?_
  refine wp_seq ?_
  refine wp_region_lit ?_
  refine st_val hs (y_loadBA (hw.ownAt 2 rfl) rfl Try.isAgg28 Try.sizeOf28 rfl rfl) trivial rfl rfl fun a hs => ?_
  obtain ⟨rv44, h43, hsh⟩ := bind_t hsh
  refine st_callR hs (filter_Valid_ok h43 hw.dom (hw.envAt 1 rfl)) (do_call Try.call32 rfl) trivial rfl rfl ?_
  intro v48 Sv45 w a h46 h47 hs
  subst h47
  have hw := hw.call h46
  refine st_val hs (y_not rfl) trivial rfl rfl fun a hs => ?_
  refine st_val hs (y_move rfl) trivial rfl rfl fun a hs => ?_
  obtain ⟨c56, hc56, hsh⟩ := bind_t hsh
  refine wpl_join 4 (fun a w => ∃ (Sv57 : Nat → Prop), Sl 87 [(2, .pointer (some ⟨b9, 0, none⟩)), (3, .pointer (some ⟨b10, 0, none⟩)), (4, .pointer (some ⟨b11, 0, none⟩)), (19, .bool c56)] a ∧ Wd ⟨w0, S0, []⟩ Sv57 [.box b9 [.slice p2 a1.Taps.length k3, .int .i64 a1.Factor, .int .i64 a1.Shift] 28, .box b10 [.slice p6 b5.Taps.length k7, .int .i64 b5.Factor, .int .i64 b5.Shift] 28, .box b11 [.slice none ([] : List Int).length 0, .int .i64 0, .int .i64 0] 28] [SlA p2 a1.Taps.length k3 a1.Taps, SlA p6 b5.Taps.length k7 b5.Taps, SlA none ([] : List Int).length 0 ([] : List Int)] w) ?_ ?_
  · rcases Bool.eq_false_or_eq_true (!rv44) with h55 | h55
    · have hs := hs.fix 15 (.bool true) rfl (vb h55)
      have hsh := ite_t hc56 h55
      refine st_skip hs rfl rfl rfl rfl rfl fun a hs => ?_
      refine st_skip hs rfl rfl rfl rfl rfl fun a hs => ?_
      refine st_skip hs rfl rfl rfl rfl rfl fun a hs => ?_
      refine st_val hs (y_pickT rfl rfl) trivial rfl rfl fun a hs => ?_
      refine wpList_nil ?_
      have hw := hw.addE (e := SlA (α := Int) none 0 0 []) nil_sl
      have hsh := Option.some.inj hsh
      subst hsh
      refine then_normal ?_
      exact ⟨Sv45, (hs.weaken _ ⟨rfl, rfl, rfl, rfl, trivial⟩), (hw.fit [2, 1, 0] (by decide) ⟨rfl, rfl, rfl, trivial⟩ ⟨⟨2, rfl⟩, ⟨1, rfl⟩, ⟨0, rfl⟩, trivial⟩)⟩
    · have hs := hs.fix 15 (.bool false) rfl (vb h55)
      have hsh := ite_f hc56 h55
      refine st_val hs (y_loadBA (hw.ownAt 1 rfl) rfl Try.isAgg28 Try.sizeOf28 rfl rfl) ⟨_, rfl, rfl⟩ rfl rfl fun a hs => ?_
      obtain ⟨rv59, h58, hsh⟩ := bind_t hsh
      refine st_callR hs (filter_Valid_ok h58 hw.dom (hw.envAt 0 rfl)) (do_call Try.call32 rfl) ⟨_, rfl, rfl⟩ rfl rfl ?_
      intro v63 Sv60 w a h61 h62 hs
      subst h62
      have hw := hw.call h61
      refine st_val hs (y_not rfl) ⟨_, rfl, rfl⟩ rfl rfl fun a hs => ?_
      refine st_val hs (y_pickF rfl rfl) trivial rfl rfl fun a hs => ?_
      refine wpList_nil ?_
      have hw := hw.addE (e := SlA (α := Int) none 0 0 []) nil_sl
      have hsh := Option.some.inj hsh
      subst hsh
      refine then_normal ?_
      exact ⟨Sv60, (hs.weaken _ ⟨rfl, rfl, rfl, rfl, trivial⟩), (hw.fit [2, 1, 0] (by decide) ⟨rfl, rfl, rfl, trivial⟩ ⟨⟨2, rfl⟩, ⟨1, rfl⟩, ⟨0, rfl⟩, trivial⟩)⟩
  · rintro a w ⟨Sv57, hs, hw⟩
    refine st_val hs (y_assign rfl) trivial rfl rfl fun a hs => ?_
    refine wpList_nil ?_
    refine then_normal ?_
    refine wp_cond_split (hs.ev rfl) (fun h69 => ?_) (fun h69 => ?_)
    · have hsh := ite_t hsh h69
      refine wp_seq ?_
      refine wp_region_lit ?_
      refine st_val hs (y_build (vs := []) Bld28 rfl rfl) trivial rfl rfl fun a hs => ?_
      refine w_store (m := 3) (cs' := [.slice none ([] : List Int).length 0, .int .i64 0, .int .i64 0]) hs hw 2 rfl rfl rfl Try.sizeOf28 rfl rfl rfl rfl trivial ?_
      intro a w hs hw
      refine st_val hs (y_assign rfl) trivial rfl rfl fun a hs => ?_
      refine wpList_nil ?_
      refine then_normal ?_
      have hsh := Option.some.inj hsh
      subst hsh
      have hw := hw.nilRow Int 3
      refine wp_ret ?_
      refine blk_ret ?_
      refine then_ret ?_
      exact ret2 hs rfl (rv_cell hw 3 rfl rfl Try.isAgg28 Try.sizeOf28 rfl) (rv_tmp rfl) (hw.ret ⟨none, 0, [], rfl, (hw.freshOf 0 rfl (.inl rfl)), (hw.envAt 0 rfl)⟩)
    · have hsh := ite_f hsh h69
      refine wp_seq ?_
      refine wp_region_lit ?_
      refine st_val hs (y_fieldAddr (o' := 1) Try.runUnderlying28 rfl Try.sizeOf3 rfl rfl rfl) trivial rfl rfl fun a hs => ?_
      refine st_val hs (y_loadB1 (hw.ownAt 0 rfl) rfl Try.isAgg3 rfl) trivial rfl rfl fun a hs => ?_
      refine st_val hs (y_neq rfl rfl) trivial rfl rfl fun a hs => ?_
      refine st_val hs (y_move rfl) trivial rfl rfl fun a hs => ?_
      refine wpl_join 4 (fun a w1 => w = w1 ∧ Sl 87 [(2, .pointer (some ⟨b9, 0, none⟩)), (3, .pointer (some ⟨b10, 0, none⟩)), (4, .pointer (some ⟨b11, 0, none⟩)), (29, .bool ((a1.Factor != 1) || (b5.Factor != 1)))] a) ?_ ?_
      · rcases Bool.eq_false_or_eq_true (a1.Factor != 1) with h70 | h70
        · have hs := hs.fix 25 (.bool true) rfl (vb h70)
          refine st_skip hs rfl rfl rfl rfl rfl fun a hs => ?_
          refine st_skip hs rfl rfl rfl rfl rfl fun a hs => ?_
          refine st_skip hs rfl rfl rfl rfl rfl fun a hs => ?_
          refine st_val hs (y_pickT rfl rfl) trivial rfl rfl fun a hs => ?_
          refine wpList_nil ?_
          refine then_normal ?_
          exact ⟨rfl, (hs.fix 29 (.bool ((a1.Factor != 1) || (b5.Factor != 1))) rfl (or_t h70)).weaken _ ⟨rfl, rfl, rfl, rfl, trivial⟩⟩
        · have hs := hs.fix 25 (.bool false) rfl (vb h70)
          refine st_val hs (y_fieldAddr (o' := 1) Try.runUnderlying28 rfl Try.sizeOf3 rfl rfl rfl) ⟨_, rfl, rfl⟩ rfl rfl fun a hs => ?_
          refine st_val hs (y_loadB1 (hw.ownAt 1 rfl) rfl Try.isAgg3 rfl) ⟨_, rfl, rfl⟩ rfl rfl fun a hs => ?_
          refine st_val hs (y_neq rfl rfl) ⟨_, rfl, rfl⟩ rfl rfl fun a hs => ?_
          refine st_val hs (y_pickF rfl rfl) trivial rfl rfl fun a hs => ?_
          refine wpList_nil ?_
          refine then_normal ?_
          exact ⟨rfl, (hs.fix 29 (.bool ((a1.Factor != 1) || (b5.Factor != 1))) rfl (or_f h70)).weaken _ ⟨rfl, rfl, rfl, rfl, trivial⟩⟩
      · rintro a w1 ⟨h2136, hs⟩
        subst h2136
        refine st_val hs (y_assign rfl) trivial rfl rfl fun a hs => ?_
        refine wpList_nil ?_
        refine then_normal ?_
        refine wp_cond_split (hs.ev rfl) (fun h72 => ?_) (fun h72 => ?_)
        · have hsh := ite_t hsh h72
          refine wp_seq ?_
          refine wp_region_lit ?_
          refine st_val hs (y_build (vs := []) Bld28 rfl rfl) trivial rfl rfl fun a hs => ?_
          refine w_store (m := 3) (cs' := [.slice none ([] : List Int).length 0, .int .i64 0, .int .i64 0]) hs hw 2 rfl rfl rfl Try.sizeOf28 rfl rfl rfl rfl trivial ?_
          intro a w hs hw
          refine st_val hs (y_assign rfl) trivial rfl rfl fun a hs => ?_
          refine wpList_nil ?_
          refine then_normal ?_
          have hsh := Option.some.inj hsh
          subst hsh
          have hw := hw.nilRow Int 3
          refine wp_ret ?_
          refine blk_ret ?_
          refine then_ret ?_
          exact ret2 hs rfl (rv_cell hw 3 rfl rfl Try.isAgg28 Try.sizeOf28 rfl) (rv_tmp rfl) (hw.ret ⟨none, 0, [], rfl, (hw.freshOf 0 rfl (.inl rfl)), (hw.envAt 0 rfl)⟩)
        · have hsh := ite_f hsh h72
          refine wp_skip ?_
          refine blk_normal ?_
          refine then_normal ?_
          refine wp_seq ?_
          obtain ⟨l74, h73, hsh⟩ := bind_t hsh
          refine wp_only (fun a w => ∃ (Sv78 : Nat → Prop) (b77 : Nat) (c76 : List Value) (p75 : Option Addr), Sl 87 [(2, .pointer (some ⟨b9, 0, none⟩)), (3, .pointer (some ⟨b10, 0, none⟩)), (4, .pointer (some ⟨b11, 0, none⟩)), (6, .pointer (some ⟨b77, 0, none⟩))] a ∧ Wd ⟨w0, S0, []⟩ Sv78 [.box b9 [.slice p2 a1.Taps.length k3, .int .i64 a1.Factor, .int .i64 a1.Shift] 28, .box b10 [.slice p6 b5.Taps.length k7, .int .i64 b5.Factor, .int .i64 b5.Shift] 28, .box b11 [.slice none ([] : List Int).length 0, .int .i64 0, .int .i64 0] 28, .box b77 [.slice p75 l74.length l74.length, .int .i64 1, .int .i64 (w64 (a1.Shift + b5.Shift))] 28, .row p75 l74.length l74.length c76 3 1] [SlA p2 a1.Taps.length k3 a1.Taps, SlA p6 b5.Taps.length k7 b5.Taps, SlA none ([] : List Int).length 0 ([] : List Int), RowA c76 l74] w) ?_ ?_
          · refine h_begin (C := Cls [.box b9 [.slice p2 a1.Taps.length k3, .int .i64 a1.Factor, .int .i64 a1.Shift] 28, .box b10 [.slice p6 b5.Taps.length k7, .int .i64 b5.Factor, .int .i64 b5.Shift] 28, .box b11 [.slice none ([] : List Int).length 0, .int .i64 0, .int .i64 0] 28] []) (by kernel_rfl) rfl ?_
            have hw := hw.drew
            have hC : Cls [.box b9 [.slice p2 a1.Taps.length k3, .int .i64 a1.Factor, .int .i64 a1.Shift] 28, .box b10 [.slice p6 b5.Taps.length k7, .int .i64 b5.Factor, .int .i64 b5.Shift] 28, .box b11 [.slice none ([] : List Int).length 0, .int .i64 0, .int .i64 0] 28] [] _ := hw.cls [0, 1, 2] ⟨rfl, rfl, rfl, trivial⟩ trivial
            refine h_take hs (i := 0) rfl (by kernel_rfl) (by kernel_rfl) (by kernel_rfl) trivial rfl rfl hC (fun w hC => y_fieldAddr (o' := 0) Try.runUnderlying28 rfl Try.sizeOf22 rfl rfl rfl) fun a hs => ?_
            refine h_take hs (i := 1) rfl (by kernel_rfl) (by kernel_rfl) (by kernel_rfl) trivial rfl rfl hC (fun w hC => y_loadB1 (hC.ownAt 0 rfl) rfl Try.isAgg22 rfl) fun a hs => ?_
            refine h_take hs (i := 2) rfl (by kernel_rfl) (by kernel_rfl) (by kernel_rfl) trivial rfl rfl hC (fun w hC => y_len Try.runUnderlying22 rfl) fun a hs => ?_
            refine h_take hs (i := 3) rfl (by kernel_rfl) (by kernel_rfl) (by kernel_rfl) trivial rfl rfl hC (fun w hC => y_fieldAddr (o' := 0) Try.runUnderlying28 rfl Try.sizeOf22 rfl rfl rfl) fun a hs => ?_
            refine h_take hs (i := 4) rfl (by kernel_rfl) (by kernel_rfl) (by kernel_rfl) trivial rfl rfl hC (fun w hC => y_loadB1 (hC.ownAt 1 rfl) rfl Try.isAgg22 rfl) fun a hs => ?_
            refine h_take hs (i := 5) rfl (by kernel_rfl) (by kernel_rfl) (by kernel_rfl) trivial rfl rfl hC (fun w hC => y_len Try.runUnderlying22 rfl) fun a hs => ?_
            refine h_take hs (i := 6) rfl (by kernel_rfl) (by kernel_rfl) (by kernel_rfl) trivial rfl rfl hC (fun w hC => y_add rfl rfl) fun a hs => ?_
            refine h_take hs (i := 7) rfl (by kernel_rfl) (by kernel_rfl) (by kernel_rfl) trivial rfl rfl hC (fun w hC => y_sub rfl rfl) fun a hs => ?_
            refine h_take hs (i := 9) rfl (by kernel_rfl) (by kernel_rfl) (by kernel_rfl) trivial rfl rfl hC (fun w hC => y_fieldAddr (o' := 2) Try.runUnderlying28 rfl Try.sizeOf3 rfl rfl rfl) fun a hs => ?_
            refine h_take hs (i := 10) rfl (by kernel_rfl) (by kernel_rfl) (by kernel_rfl) trivial rfl rfl hC (fun w hC => y_loadB1 (hC.ownAt 0 rfl) rfl Try.isAgg3 rfl) fun a hs => ?_
            refine h_take hs (i := 11) rfl (by kernel_rfl) (by kernel_rfl) (by kernel_rfl) trivial rfl rfl hC (fun w hC => y_fieldAddr (o' := 2) Try.runUnderlying28 rfl Try.sizeOf3 rfl rfl rfl) fun a hs => ?_
            refine h_take hs (i := 12) rfl (by kernel_rfl) (by kernel_rfl) (by kernel_rfl) trivial rfl rfl hC (fun w hC => y_loadB1 (hC.ownAt 1 rfl) rfl Try.isAgg3 rfl) fun a hs => ?_
            refine h_take hs (i := 13) rfl (by kernel_rfl) (by kernel_rfl) (by kernel_rfl) trivial rfl rfl hC (fun w hC => y_add rfl rfl) fun a hs => ?_
            refine h_all (rs := [8, 15]) (by kernel_rfl) rfl ?_
            refine AllH.cons rfl ?_ ?_
            · refine w_make (α := Int) hs hw El22 ⟨_, rfl, rfl⟩ rfl rfl h73 rfl trivial ?_
              intro p75 c76 a w hs hw
              refine wpList_nil ?_
              refine then_normal ?_
              have hC : Cls [.box b9 [.slice p2 a1.Taps.length k3, .int .i64 a1.Factor, .int .i64 a1.Shift] 28, .box b10 [.slice p6 b5.Taps.length k7, .int .i64 b5.Factor, .int .i64 b5.Shift] 28, .box b11 [.slice none ([] : List Int).length 0, .int .i64 0, .int .i64 0] 28] [] _ := hw.cls [1, 2, 3] ⟨rfl, rfl, rfl, trivial⟩ trivial
              refine ⟨hC, ?_⟩
              refine h_take hs (i := 14) rfl (by kernel_rfl) (by kernel_rfl) (by kernel_rfl) trivial rfl rfl hC (fun w hC => y_build (vs := [(0, .slice p75 l74.length l74.length), (1, .int .i64 1), (2, .int .i64 (w64 (a1.Shift + b5.Shift)))]) Bld28 rfl rfl) fun a hs => ?_
              refine h_all (rs := [15]) (by kernel_rfl) rfl ?_
              refine AllH.cons rfl ?_ ?_
              · refine w_alloc (cs := [.slice none ([] : List Int).length 0, .int .i64 0, .int .i64 0]) hs hw Try.zeroValue28 rfl rfl trivial ?_
                intro b77 a w hs hw
                refine wpList_nil ?_
                refine then_normal ?_
                have hC : Cls [.box b9 [.slice p2 a1.Taps.length k3, .int .i64 a1.Factor, .int .i64 a1.Shift] 28, .box b10 [.slice p6 b5.Taps.length k7, .int .i64 b5.Factor, .int .i64 b5.Shift] 28, .box b11 [.slice none ([] : List Int).length 0, .int .i64 0, .int .i64 0] 28] [] _ := hw.cls [2, 3, 4] ⟨rfl, rfl, rfl, trivial⟩ trivial
                refine ⟨hC, ?_⟩
                refine h_all (rs := [16]) (by kernel_rfl) rfl ?_
                refine AllH.cons rfl ?_ ?_
                · refine w_store (m := 3) (cs' := [.slice p75 l74.length l74.length, .int .i64 1, .int .i64 (w64 (a1.Shift + b5.Shift))]) hs hw 0 rfl rfl rfl Try.sizeOf28 rfl rfl rfl rfl trivial ?_
                  intro a w hs hw
                  refine wpList_nil ?_
                  refine then_normal ?_
                  have hC : Cls [.box b9 [.slice p2 a1.Taps.length k3, .int .i64 a1.Factor, .int .i64 a1.Shift] 28, .box b10 [.slice p6 b5.Taps.length k7, .int .i64 b5.Factor, .int .i64 b5.Shift] 28, .box b11 [.slice none ([] : List Int).length 0, .int .i64 0, .int .i64 0] 28] [] _ := hw.cls [2, 3, 4] ⟨rfl, rfl, rfl, trivial⟩ trivial
                  refine ⟨hC, ?_⟩
                  refine h_done (by kernel_rfl) ?_
                  exact ⟨Sv57, b77, c76, p75, (hs.weaken _ ⟨rfl, rfl, rfl, rfl, trivial⟩), (hw.fit [2, 3, 4, 0, 1] (by decide) ⟨rfl, rfl, rfl, rfl, rfl, trivial⟩ ⟨⟨1, rfl⟩, ⟨2, rfl⟩, ⟨3, rfl⟩, ⟨0, rfl⟩, trivial⟩)⟩
                exact AllH.nil
              exact AllH.nil
            refine AllH.cons rfl ?_ ?_
            · refine w_alloc (cs := [.slice none ([] : List Int).length 0, .int .i64 0, .int .i64 0]) hs hw Try.zeroValue28 rfl rfl trivial ?_
              intro b77 a w hs hw
              refine wpList_nil ?_
              refine then_normal ?_
              have hC : Cls [.box b9 [.slice p2 a1.Taps.length k3, .int .i64 a1.Factor, .int .i64 a1.Shift] 28, .box b10 [.slice p6 b5.Taps.length k7, .int .i64 b5.Factor, .int .i64 b5.Shift] 28, .box b11 [.slice none ([] : List Int).length 0, .int .i64 0, .int .i64 0] 28] [] _ := hw.cls [1, 2, 3] ⟨rfl, rfl, rfl, trivial⟩ trivial
              refine ⟨hC, ?_⟩
              refine h_all (rs := [8]) (by kernel_rfl) rfl ?_
              refine AllH.cons rfl ?_ ?_
              · refine w_make (α := Int) hs hw El22 ⟨_, rfl, rfl⟩ rfl rfl h73 rfl trivial ?_
                intro p75 c76 a w hs hw
                refine wpList_nil ?_
                refine then_normal ?_
                have hC : Cls [.box b9 [.slice p2 a1.Taps.length k3, .int .i64 a1.Factor, .int .i64 a1.Shift] 28, .box b10 [.slice p6 b5.Taps.length k7, .int .i64 b5.Factor, .int .i64 b5.Shift] 28, .box b11 [.slice none ([] : List Int).length 0, .int .i64 0, .int .i64 0] 28] [] _ := hw.cls [2, 3, 4] ⟨rfl, rfl, rfl, trivial⟩ trivial
                refine ⟨hC, ?_⟩
                refine h_take hs (i := 14) rfl (by kernel_rfl) (by kernel_rfl) (by kernel_rfl) trivial rfl rfl hC (fun w hC => y_build (vs := [(0, .slice p75 l74.length l74.length), (1, .int .i64 1), (2, .int .i64 (w64 (a1.Shift + b5.Shift)))]) Bld28 rfl rfl) fun a hs => ?_
                refine h_all (rs := [16]) (by kernel_rfl) rfl ?_
                refine AllH.cons rfl ?_ ?_
                · refine w_store (m := 3) (cs' := [.slice p75 l74.length l74.length, .int .i64 1, .int .i64 (w64 (a1.Shift + b5.Shift))]) hs hw 1 rfl rfl rfl Try.sizeOf28 rfl rfl rfl rfl trivial ?_
                  intro a w hs hw
                  refine wpList_nil ?_
                  refine then_normal ?_
                  have hC : Cls [.box b9 [.slice p2 a1.Taps.length k3, .int .i64 a1.Factor, .int .i64 a1.Shift] 28, .box b10 [.slice p6 b5.Taps.length k7, .int .i64 b5.Factor, .int .i64 b5.Shift] 28, .box b11 [.slice none ([] : List Int).length 0, .int .i64 0, .int .i64 0] 28] [] _ := hw.cls [2, 3, 4] ⟨rfl, rfl, rfl, trivial⟩ trivial
                  refine ⟨hC, ?_⟩
                  refine h_done (by kernel_rfl) ?_
                  exact ⟨Sv57, b77, c76, p75, (hs.weaken _ ⟨rfl, rfl, rfl, rfl, trivial⟩), (hw.fit [2, 3, 4, 1, 0] (by decide) ⟨rfl, rfl, rfl, rfl, rfl, trivial⟩ ⟨⟨1, rfl⟩, ⟨2, rfl⟩, ⟨3, rfl⟩, ⟨0, rfl⟩, trivial⟩)⟩
                exact AllH.nil
              exact AllH.nil
            exact AllH.nil
          · rintro a w ⟨Sv78, b77, c76, p75, hs, hw⟩
            refine then_normal ?_
            refine wp_seq ?_
            refine wp_seq ?_
            refine wp_region_lit ?_
            refine st_val hs (y_fieldAddr (o' := 0) Try.runUnderlying28 rfl Try.sizeOf22 rfl rfl rfl) trivial rfl rfl fun a hs => ?_
            refine st_val hs (y_loadB1 (hw.ownAt 3 rfl) rfl Try.isAgg22 rfl) trivial rfl rfl fun a hs => ?_
            refine st_val hs (y_len Try.runUnderlying22 rfl) trivial rfl rfl fun a hs => ?_
            refine st_val hs (y_gtr rfl rfl) trivial rfl rfl fun a hs => ?_
            refine st_val hs (y_move rfl) trivial rfl rfl fun a hs => ?_
            refine wpl_join 4 (fun a w1 => w = w1 ∧ Sl 87 [(2, .pointer (some ⟨b9, 0, none⟩)), (3, .pointer (some ⟨b10, 0, none⟩)), (4, .pointer (some ⟨b11, 0, none⟩)), (6, .pointer (some ⟨b77, 0, none⟩)), (54, .bool ((decide (128 < (l74.length : Int))) || (decide (30 < (w64 (a1.Shift + b5.Shift))))))] a) ?_ ?_
            · rcases Bool.eq_false_or_eq_true (decide (128 < (l74.length : Int))) with h79 | h79
              · have hs := hs.fix 50 (.bool true) rfl (vb h79)
                refine st_skip hs rfl rfl rfl rfl rfl fun a hs => ?_
                refine st_skip hs rfl rfl rfl rfl rfl fun a hs => ?_
                refine st_skip hs rfl rfl rfl rfl rfl fun a hs => ?_
                refine st_val hs (y_pickT rfl rfl) trivial rfl rfl fun a hs => ?_
                refine wpList_nil ?_
                refine then_normal ?_
                exact ⟨rfl, (hs.fix 54 (.bool ((decide (128 < (l74.length : Int))) || (decide (30 < (w64 (a1.Shift + b5.Shift)))))) rfl (or_t h79)).weaken _ ⟨rfl, rfl, rfl, rfl, rfl, trivial⟩⟩
              · have hs := hs.fix 50 (.bool false) rfl (vb h79)
                refine st_val hs (y_fieldAddr (o' := 2) Try.runUnderlying28 rfl Try.sizeOf3 rfl rfl rfl) ⟨_, rfl, rfl⟩ rfl rfl fun a hs => ?_
                refine st_val hs (y_loadB1 (hw.ownAt 3 rfl) rfl Try.isAgg3 rfl) ⟨_, rfl, rfl⟩ rfl rfl fun a hs => ?_
                refine st_val hs (y_gtr rfl rfl) ⟨_, rfl, rfl⟩ rfl rfl fun a hs => ?_
                refine st_val hs (y_pickF rfl rfl) trivial rfl rfl fun a hs => ?_
                refine wpList_nil ?_
                refine then_normal ?_
                exact ⟨rfl, (hs.fix 54 (.bool ((decide (128 < (l74.length : Int))) || (decide (30 < (w64 (a1.Shift + b5.Shift)))))) rfl (or_f h79)).weaken _ ⟨rfl, rfl, rfl, rfl, rfl, trivial⟩⟩
            · rintro a w1 ⟨h2135, hs⟩
              subst h2135
              refine wpList_nil ?_
              refine then_normal ?_
              refine wp_cond_split (hs.ev rfl) (fun h81 => ?_) (fun h81 => ?_)
              · have hsh := ite_t hsh h81
                refine wp_seq ?_
                refine wp_region_lit ?_
                refine st_val hs (y_build (vs := []) Bld28 rfl rfl) trivial rfl rfl fun a hs => ?_
                refine w_store (m := 3) (cs' := [.slice none ([] : List Int).length 0, .int .i64 0, .int .i64 0]) hs hw 2 rfl rfl rfl Try.sizeOf28 rfl rfl rfl rfl trivial ?_
                intro a w hs hw
                refine st_val hs (y_assign rfl) trivial rfl rfl fun a hs => ?_
                refine wpList_nil ?_
                refine then_normal ?_
                have hsh := Option.some.inj hsh
                subst hsh
                have hw := hw.nilRow Int 3
                refine wp_ret ?_
                refine then_ret ?_
                exact ret2 hs rfl (rv_cell hw 3 rfl rfl Try.isAgg28 Try.sizeOf28 rfl) (rv_tmp rfl) (hw.ret ⟨none, 0, [], rfl, (hw.freshOf 0 rfl (.inl rfl)), (hw.envAt 0 rfl)⟩)
              · have hsh := ite_f hsh h81
                refine wp_skip ?_
                refine then_normal ?_
                refine wp_seq ?_
                refine wp_seq ?_
                refine wp_region_lit ?_
                refine st_val hs (y_fieldAddr (o' := 0) Try.runUnderlying28 rfl Try.sizeOf22 rfl rfl rfl) trivial rfl rfl fun a hs => ?_
                refine st_val hs (y_loadB1 (hw.ownAt 0 rfl) rfl Try.isAgg22 rfl) trivial rfl rfl fun a hs => ?_
                refine st_val hs (y_len Try.runUnderlying22 rfl) trivial rfl rfl fun a hs => ?_
                refine st_val hs (y_move rfl) trivial rfl rfl fun a hs => ?_
                refine wpList_nil ?_
                refine then_normal ?_
                obtain ⟨e1564, h2134, hsh⟩ := bind_t hsh
                refine wp_join (fun a w => ∃ (p1565 : Option Addr) (k1566 : Nat) (c1567 : List Value) (Sv1568 : Nat → Prop), Sl 87 [(4, .pointer (some ⟨b11, 0, none⟩)), (6, .pointer (some ⟨b77, 0, none⟩))] a ∧ Wd ⟨w0, S0, []⟩ Sv1568 [.box b11 [.slice none ([] : List Int).length 0, .int .i64 0, .int .i64 0] 28, .box b77 [.slice p1565 e1564.length k1566, .int .i64 1, .int .i64 (w64 (a1.Shift + b5.Shift))] 28, .row p1565 e1564.length k1566 c1567 3 1] [SlA none ([] : List Int).length 0 ([] : List Int), RowA c1567 e1564] w) ?_ ?_
                · refine wp_block ?_
                  refine wp_while (fun sv82 a w => ∃ (p1067 : Option Addr) (k1068 : Nat) (c1069 : List Value) (Sv1070 : Nat → Prop), Sl 87 [(3, .pointer (some ⟨b10, 0, none⟩)), (4, .pointer (some ⟨b11, 0, none⟩)), (6, .pointer (some ⟨b77, 0, none⟩)), (57, .slice p2 a1.Taps.length k3), (58, .int .i64 (a1.Taps.length : Int)), (59, .int .i64 sv82.2)] a ∧ Wd ⟨w0, S0, []⟩ Sv1070 [.box b10 [.slice p6 b5.Taps.length k7, .int .i64 b5.Factor, .int .i64 b5.Shift] 28, .box b11 [.slice none ([] : List Int).length 0, .int .i64 0, .int .i64 0] 28, .box b77 [.slice p1067 sv82.1.length k1068, .int .i64 1, .int .i64 (w64 (a1.Shift + b5.Shift))] 28, .row p1067 sv82.1.length k1068 c1069 3 1] [SlA p2 a1.Taps.length k3 a1.Taps, SlA p6 b5.Taps.length k7 b5.Taps, SlA none ([] : List Int).length 0 ([] : List Int), RowA c1069 sv82.1] w) (l74, 0) h2134 ⟨p75, l74.length, c76, Sv78, (hs.weaken _ ⟨rfl, rfl, rfl, rfl, rfl, rfl, trivial⟩), (hw.fit [1, 2, 3, 4] (by decide) ⟨rfl, rfl, rfl, rfl, trivial⟩ ⟨⟨0, rfl⟩, ⟨1, rfl⟩, ⟨2, rfl⟩, ⟨3, rfl⟩, trivial⟩)⟩ ?_
                  clear h2134
                  repeat clear hsh
                  rintro sv82 a w tv1562 ⟨p1067, k1068, c1069, Sv1070, hs, hw⟩ hsh hd1561
                  delta filter_Convolve_l5 at hsh
                  refine wp_seq ?_
                  refine wp_region_lit ?_
                  refine st_val hs (y_lss rfl rfl) trivial rfl rfl fun a hs => ?_
                  refine wpList_nil ?_
                  refine then_normal ?_
                  refine wp_seq ?_
                  refine wp_cond_split (hs.ev rfl) (fun h1570 => ?_) (fun h1570 => ?_)
                  · have hsh := ite_t hsh h1570
                    refine wp_skip ?_
                    refine then_normal ?_
                    refine wp_seq ?_
                    refine wp_block ?_
                    refine wp_seq ?_
                    refine wp_region_lit ?_
                    refine st_val hs (y_move rfl) trivial rfl rfl fun a hs => ?_
                    obtain ⟨x1817, h1815, hsh⟩ := bind_t hsh
                    obtain ⟨b1823, o1824, q1821, c1822, h1825, h1818, h1819, h1820, h1816⟩ := hw.elemV 0 rfl h1815
                    subst h1825
                    obtain ⟨_, rfl, rfl⟩ := h1816
                    have hw := hw.addE h1820
                    refine st_val hs (y_indexAt Try.runUnderlying22 Try.sizeOf3 rfl rfl h1818.1 h1818.2 h1819) trivial rfl rfl fun a hs => ?_
                    refine st_val hs (y_loadE1 (j := 0) (hw.ceAt 0 rfl) rfl Try.isAgg3 rfl) trivial rfl rfl fun a hs => ?_
                    refine st_val hs (y_assign rfl) trivial rfl rfl fun a hs => ?_
                    refine st_val hs (y_assign rfl) trivial rfl rfl fun a hs => ?_
                    refine wpList_nil ?_
                    refine then_normal ?_
                    refine wp_seq ?_
                    refine wp_region_lit ?_
                    refine st_val hs (y_fieldAddr (o' := 0) Try.runUnderlying28 rfl Try.sizeOf22 rfl rfl rfl) trivial rfl rfl fun a hs => ?_
                    refine st_val hs (y_loadB1 (hw.ownAt 0 rfl) rfl Try.isAgg22 rfl) trivial rfl rfl fun a hs => ?_
                    refine st_val hs (y_len Try.runUnderlying22 rfl) trivial rfl rfl fun a hs => ?_
                    refine st_val hs (y_move rfl) trivial rfl rfl fun a hs => ?_
                    refine wpList_nil ?_
                    refine then_normal ?_
                    obtain ⟨e2054, h2132, hsh⟩ := bind_t hsh
                    refine wp_join (fun a w => ∃ (p2055 : Option Addr) (k2056 : Nat) (c2057 : List Value) (Sv2058 : Nat → Prop), Sl 87 [(3, .pointer (some ⟨b10, 0, none⟩)), (4, .pointer (some ⟨b11, 0, none⟩)), (6, .pointer (some ⟨b77, 0, none⟩)), (57, .slice (some ⟨b1823, o1824, none⟩) a1.Taps.length k3), (58, .int .i64 (a1.Taps.length : Int)), (59, .int .i64 sv82.2)] a ∧ Wd ⟨w0, S0, []⟩ Sv2058 [.box b10 [.slice p6 b5.Taps.length k7, .int .i64 b5.Factor, .int .i64 b5.Shift] 28, .box b11 [.slice none ([] : List Int).length 0, .int .i64 0, .int .i64 0] 28, .box b77 [.slice p2055 e2054.length k2056, .int .i64 1, .int .i64 (w64 (a1.Shift + b5.Shift))] 28, .row p2055 e2054.length k2056 c2057 3 1] [SlA (some ⟨b1823, o1824, none⟩) a1.Taps.length k3 a1.Taps, SlA p6 b5.Taps.length k7 b5.Taps, SlA none ([] : List Int).length 0 ([] : List Int), RowA c2057 e2054] w) ?_ ?_
                    · refine wp_block ?_
                      refine wp_while (fun sv1826 a w => ∃ (p1975 : Option Addr) (k1976 : Nat) (c1977 : List Value) (Sv1978 : Nat → Prop), Sl 87 [(3, .pointer (some ⟨b10, 0, none⟩)), (4, .pointer (some ⟨b11, 0, none⟩)), (6, .pointer (some ⟨b77, 0, none⟩)), (7, .int .i64 sv82.2), (8, .int .i64 x1817), (57, .slice (some ⟨b1823, o1824, none⟩) a1.Taps.length k3), (58, .int .i64 (a1.Taps.length : Int)), (59, .int .i64 sv82.2), (65, .slice p6 b5.Taps.length k7), (66, .int .i64 (b5.Taps.length : Int)), (67, .int .i64 sv1826.2)] a ∧ Wd ⟨w0, S0, []⟩ Sv1978 [.box b10 [.slice p6 b5.Taps.length k7, .int .i64 b5.Factor, .int .i64 b5.Shift] 28, .box b11 [.slice none ([] : List Int).length 0, .int .i64 0, .int .i64 0] 28, .box b77 [.slice p1975 sv1826.1.length k1976, .int .i64 1, .int .i64 (w64 (a1.Shift + b5.Shift))] 28, .row p1975 sv1826.1.length k1976 c1977 3 1] [SlA (some ⟨b1823, o1824, none⟩) a1.Taps.length k3 a1.Taps, SlA p6 b5.Taps.length k7 b5.Taps, SlA none ([] : List Int).length 0 ([] : List Int), RowA c1977 sv1826.1] w) (sv82.1, 0) h2132 ⟨p1067, k1068, c1069, Sv1070, (hs.weaken _ ⟨rfl, rfl, rfl, rfl, rfl, rfl, rfl, rfl, rfl, rfl, rfl, trivial⟩), (hw.fit [0, 1, 2, 3] (by decide) ⟨rfl, rfl, rfl, rfl, trivial⟩ ⟨⟨1, rfl⟩, ⟨2, rfl⟩, ⟨3, rfl⟩, ⟨4, rfl⟩, trivial⟩)⟩ ?_
                      clear h2132
                      repeat clear hsh
                      rintro sv1826 a w tv2052 ⟨p1975, k1976, c1977, Sv1978, hs, hw⟩ hsh hd2051
                      delta filter_Convolve_l9 at hsh
                      refine wp_seq ?_
                      refine wp_region_lit ?_
                      refine st_val hs (y_lss rfl rfl) trivial rfl rfl fun a hs => ?_
                      refine wpList_nil ?_
                      refine then_normal ?_
                      refine wp_seq ?_
                      refine wp_cond_split (hs.ev rfl) (fun h2060 => ?_) (fun h2060 => ?_)
                      · have hsh := ite_t hsh h2060
                        refine wp_skip ?_
                        refine then_normal ?_
                        refine wp_seq ?_
                        refine wp_block ?_
                        refine wp_seq ?_
                        refine wp_region_lit ?_
                        refine st_val hs (y_move rfl) trivial rfl rfl fun a hs => ?_
                        obtain ⟨x2098, h2096, hsh⟩ := bind_t hsh
                        obtain ⟨b2104, o2105, q2102, c2103, h2106, h2099, h2100, h2101, h2097⟩ := hw.elemV 1 rfl h2096
                        subst h2106
                        obtain ⟨_, rfl, rfl⟩ := h2097
                        have hw := hw.addE h2101
                        refine st_val hs (y_indexAt Try.runUnderlying22 Try.sizeOf3 rfl rfl h2099.1 h2099.2 h2100) trivial rfl rfl fun a hs => ?_
                        refine st_val hs (y_loadE1 (j := 0) (hw.ceAt 0 rfl) rfl Try.isAgg3 rfl) trivial rfl rfl fun a hs => ?_
                        refine st_val hs (y_assign rfl) trivial rfl rfl fun a hs => ?_
                        refine st_val hs (y_assign rfl) trivial rfl rfl fun a hs => ?_
                        refine wpList_nil ?_
                        refine then_normal ?_
                        refine wp_region_lit ?_
                        refine st_val hs (y_fieldAddr (o' := 0) Try.runUnderlying28 rfl Try.sizeOf22 rfl rfl rfl) trivial rfl rfl fun a hs => ?_
                        refine st_val hs (y_loadB1 (hw.ownAt 2 rfl) rfl Try.isAgg22 rfl) trivial rfl rfl fun a hs => ?_
                        refine st_val hs (y_move rfl) trivial rfl rfl fun a hs => ?_
                        refine st_val hs (y_move rfl) trivial rfl rfl fun a hs => ?_
                        refine st_val hs (y_add rfl rfl) trivial rfl rfl fun a hs => ?_
                        obtain ⟨x2109, h2107, hsh⟩ := bind_t hsh
                        obtain ⟨b2116, q2113, c2114, h2117, h2110, h2111, h2115, h2108⟩ := hw.elemRV (α := Int) 3 rfl 4 rfl h2107
                        subst h2117
                        obtain ⟨_, rfl, rfl⟩ := h2108
                        refine st_val hs (y_indexAt Try.runUnderlying22 Try.sizeOf3 rfl rfl h2110.1 h2110.2 h2111) trivial rfl rfl fun a hs => ?_
                        refine st_val hs (y_loadQ1 (j := 0) (hw.ownAt 3 rfl) rfl Try.isAgg3 h2115 rfl) trivial rfl rfl fun a hs => ?_
                        refine st_val hs (y_move rfl) trivial rfl rfl fun a hs => ?_
                        refine st_val hs (y_move rfl) trivial rfl rfl fun a hs => ?_
                        refine st_val hs (y_mul rfl rfl) trivial rfl rfl fun a hs => ?_
                        refine st_val hs (y_add rfl rfl) trivial rfl rfl fun a hs => ?_
                        obtain ⟨x2120, h2118, hsh⟩ := bind_t hsh
                        obtain ⟨q2124, c2125, h2121, h2122, h2126, h2119⟩ := hw.elemRK (α := Int) 3 rfl 4 rfl h2118
                        obtain ⟨_, rfl, rfl⟩ := h2119
                        refine st_val hs (y_indexAt Try.runUnderlying22 Try.sizeOf3 rfl rfl h2121.1 h2121.2 h2122) trivial rfl rfl fun a hs => ?_
                        obtain ⟨l2128, h2127, hsh⟩ := bind_t hsh
                        refine w_storeR (α := Int) (f := 0) (m := 1) hs hw 3 rfl 4 rfl h2122 rfl rfl Try.sizeOf3 rfl rfl rfl h2127 (fun es he => by have he := he.symm.trans h2126; subst he; exact ⟨_, rfl, rfl⟩) trivial ?_
                        intro c2129 a w hs hw
                        have h2130 := setM_len h2127
                        try have hs := hs.fix 73 (.slice (some ⟨b2116, 0, none⟩) l2128.length k1976) rfl (by rw [h2130])
                        have hw := hw.fixR 2 (r' := .box b77 [.slice (some ⟨b2116, 0, none⟩) l2128.length k1976, .int .i64 1, .int .i64 (w64 (a1.Shift + b5.Shift))] 28) rfl (by rw [h2130])
                        refine wpList_nil ?_
                        refine blk_normal ?_
                        refine then_normal ?_
                        refine wp_region_lit ?_
                        refine st_val hs (y_add rfl rfl) trivial rfl rfl fun a hs => ?_
                        refine st_val hs (y_move rfl) trivial rfl rfl fun a hs => ?_
                        refine wpList_nil ?_
                        refine then_normal ?_
                        exact ⟨_, (Option.some.inj hsh).symm, (some ⟨b2116, 0, none⟩), k1976, c2129, Sv1978, (hs.weaken _ ⟨rfl, rfl, rfl, rfl, rfl, rfl, rfl, rfl, rfl, rfl, rfl, trivial⟩), (hw.fit [0, 1, 2, 3] (by decide) ⟨rfl, rfl, rfl, rfl, trivial⟩ ⟨⟨2, rfl⟩, ⟨3, rfl⟩, ⟨4, rfl⟩, ⟨0, rfl⟩, trivial⟩)⟩
                      · have hsh := ite_f hsh h2060
                        refine wp_exit ?_
                        refine then_exit ?_
                        refine then_exit ?_
                        refine blk_exit ?_
                        have hsh := Option.some.inj hsh
                        subst hsh
                        have h2131 := hd2051 _ rfl
                        subst h2131
                        refine then_normal ?_
                        exact ⟨p1975, k1976, c1977, Sv1978, (hs.weaken _ ⟨rfl, rfl, rfl, rfl, rfl, rfl, trivial⟩), (hw.fit [0, 1, 2, 3] (by decide) ⟨rfl, rfl, rfl, rfl, trivial⟩ ⟨⟨0, rfl⟩, ⟨1, rfl⟩, ⟨2, rfl⟩, ⟨3, rfl⟩, trivial⟩)⟩
                    · rintro a w ⟨p2055, k2056, c2057, Sv2058, hs, hw⟩
                      refine blk_normal ?_
                      refine then_normal ?_
                      refine wp_region_lit ?_
                      refine st_val hs (y_add rfl rfl) trivial rfl rfl fun a hs => ?_
                      refine st_val hs (y_move rfl) trivial rfl rfl fun a hs => ?_
                      refine wpList_nil ?_
                      refine then_normal ?_
                      exact ⟨_, (Option.some.inj hsh).symm, p2055, k2056, c2057, Sv2058, (hs.weaken _ ⟨rfl, rfl, rfl, rfl, rfl, rfl, trivial⟩), (hw.fit [0, 1, 2, 3] (by decide) ⟨rfl, rfl, rfl, rfl, trivial⟩ ⟨⟨0, rfl⟩, ⟨1, rfl⟩, ⟨2, rfl⟩, ⟨3, rfl⟩, trivial⟩)⟩
                  · have hsh := ite_f hsh h1570
                    refine wp_exit ?_
                    refine then_exit ?_
                    refine then_exit ?_
                    refine blk_exit ?_
                    have hsh := Option.some.inj hsh
                    subst hsh
                    have h2133 := hd1561 _ rfl
                    subst h2133
                    refine then_normal ?_
                    exact ⟨p1067, k1068, c1069, Sv1070, (hs.weaken _ ⟨rfl, rfl, trivial⟩), (hw.fit [1, 2, 3] (by decide) ⟨rfl, rfl, rfl, trivial⟩ ⟨⟨2, rfl⟩, ⟨3, rfl⟩, trivial⟩)⟩
                · rintro a w ⟨p1565, k1566, c1567, Sv1568, hs, hw⟩
                  refine then_normal ?_
                  refine wp_seq ?_
                  refine wp_region_lit ?_
                  refine st_val hs (y_loadBA (hw.ownAt 1 rfl) rfl Try.isAgg28 Try.sizeOf28 rfl rfl) trivial rfl rfl fun a hs => ?_
                  refine w_store (m := 3) (cs' := [.slice p1565 e1564.length k1566, .int .i64 1, .int .i64 (w64 (a1.Shift + b5.Shift))]) hs hw 0 rfl rfl rfl Try.sizeOf28 rfl rfl rfl rfl trivial ?_
                  intro a w hs hw
                  refine st_val hs (y_assign rfl) trivial rfl rfl fun a hs => ?_
                  refine wpList_nil ?_
                  refine then_normal ?_
                  have hsh := Option.some.inj hsh
                  subst hsh
                  refine wp_ret ?_
                  exact ret2 hs rfl (rv_cell hw 0 rfl rfl Try.isAgg28 Try.sizeOf28 rfl) (rv_tmp rfl) (hw.ret ⟨p1565, k1566, c1567, rfl, (hw.freshOf 2 rfl (.inl rfl)), (hw.envAt 1 rfl)⟩)

abbrev made_Dice_Samples_rd (w0 : World) (bd : Nat) (r : ((List Int) × Dice)) : (Nat → Prop) → World → Value → Prop := fun S w v => ∃ (p0_0 : Option Addr) (k0_0 : Nat) (c0_0 : List Value) (q0_0 : Option Addr) (m0_0 : Nat), v = .slice p0_0 r.1.length k0_0 ∧ Fresh w0 S w (.row p0_0 r.1.length k0_0 c0_0 3 1) ∧ (RowA c0_0 r.1).p S w ∧ w.heap[bd]? = some (.cells #[.slice q0_0 r.2.L.length m0_0, .int .i64 r.2.At] 75 (0, 0)) ∧ (SlA q0_0 r.2.L.length m0_0 r.2.L).p S w
set_option maxHeartbeats 4000000 in
set_option maxRecDepth 100000 in
theorem made_Dice_Samples_ok {w0 : World} {S0 : Nat → Prop} {b2 : Nat} {p3 : Option Addr} {k4 : Nat} {d1 : Dice} {n8 : Int} {r : ((List Int) × Dice)} (hsh : made_Dice_Samples d1 n8 = some r) (hS : ∀ b, S0 b → b < w0.heap.size) (h5 : w0.heap[b2]? = some (.cells #[.slice p3 d1.L.length k4, .int .i64 d1.At] 75 (0, 0))) (h6 : ¬ S0 b2) (h7 : (SlA p3 d1.L.length k4 d1.L).p S0 w0) : Calls Try.prog 16 #[.pointer (some ⟨b2, 0, none⟩), .int .i64 n8] w0 (Ret [b2] w0 S0 (made_Dice_Samples_rd w0 b2 r)) := by
  refine calls_of_wp Try.func16 rfl ?_
  have hs := Sl.enter #[.pointer (some ⟨b2, 0, none⟩), .int .i64 n8] 53 [(0, .pointer (some ⟨b2, 0, none⟩)), (1, .int .i64 n8)] rfl ⟨rfl, rfl, trivial⟩
  have hw := Wd.enter1 (E := []) hS h5 h6 (fun _ h => (by cases h))
  have hw := hw.addE h7
  delta made_Dice_Samples at hsh
  refine wp_seq ?_
  refine wp_region_lit ?_
  refine st_val hs (y_assign rfl) trivial rfl rfl fun a hs => ?_
  refine wpList_nil ?_
  refine then_normal ?_
  refine wp_seq ?_
  refine wp_region_lit ?_
  refine st_val hs (y_assign rfl) trivial rfl rfl fun a hs => ?_
  refine wpList_nil ?_
  refine then_normal ?_
  refine wp_seq ?_
  refine wp_region_lit ?_
  refine st_val hs (y_move rfl) trivial rfl rfl fun a hs => ?_
  refine w_buildSlice (α := Int) (vs := [.int .i64 0, .int .i64 5, .int .i64 (-100), .int .i64 1000]) (cs := [.int .i64 0, .int .i64 5, .int .i64 (-100), .int .i64 1000]) (xs := ([0, 5, (-100), 1000] : List Int)) hs hw El22 rfl rfl rfl rfl rfl rfl ⟨⟨_, rfl, rfl⟩, ⟨⟨_, rfl, rfl⟩, ⟨⟨_, rfl, rfl⟩, ⟨⟨_, rfl, rfl⟩, rfl⟩⟩⟩⟩ rfl trivial ?_
  intro p9 a w hs hw
  obtain ⟨rv11, h10, hsh⟩ := bind_t hsh
  obtain ⟨Sv16, hw⟩ := w_share (α := Int) hw 0 rfl 0 rfl (.inr ⟨1, _, _, _, rfl, rfl, rfl⟩)
  refine st_callR hs (made_Dice_Pick_ok h10 hw.dom (hw.ownAt 0 rfl) (hw.boxS 0 rfl) (hw.envAt 2 rfl) (hw.envAt 0 rfl)) (do_call Try.call27 rfl) trivial rfl rfl ?_
  intro v20 Sv17 w a h18 h19 hs
  obtain ⟨p13, k14, rfl, h12, h15⟩ := h19
  have hw := hw.call1 0 rfl h18 h12
  have hw := hw.addE (e := SlA p13 rv11.2.L.length k14 rv11.2.L) h15
  refine st_val hs (y_assign rfl) trivial rfl rfl fun a hs => ?_
  refine wpList_nil ?_
  refine then_normal ?_
  refine wp_seq ?_
  refine wp_seq ?_
  refine wp_region_lit ?_
  refine st_val hs (y_move rfl) trivial rfl rfl fun a hs => ?_
  refine st_val hs (y_move rfl) trivial rfl rfl fun a hs => ?_
  obtain ⟨rv22, h21, hsh⟩ := bind_t hsh
  refine st_callR hs (made_Dice_Next_ok h21 hw.dom (hw.ownAt 0 rfl) (hw.boxS 0 rfl) (hw.envAt 0 rfl)) (do_call Try.call15 rfl) trivial rfl rfl ?_
  intro v30 Sv27 w a h28 h29 hs
  obtain ⟨p24, k25, rfl, h23, h26⟩ := h29
  have hw := hw.call1 0 rfl h28 h23
  have hw := hw.addE (e := SlA p24 rv22.2.L.length k25 rv22.2.L) h26
  refine st_val hs (y_add rfl rfl) trivial rfl rfl fun a hs => ?_
  obtain ⟨i32, h31, hsh⟩ := bind_t hsh
  refine st_val hs (y_assignI rfl h31) trivial rfl rfl fun a hs => ?_
  refine wpList_nil ?_
  refine then_normal ?_
  obtain ⟨e4153, h5529, hsh⟩ := bind_t hsh
  refine wp_join (fun a w => ∃ (p4154 : Option Addr) (k4155 : Nat) (p4156 : Option Addr) (k4157 : Nat) (c4158 : List Value) (Sv4159 : Nat → Prop), Sl 53 [(5, .slice p4156 e4153.2.2.length k4157)] a ∧ Wd ⟨w0, S0, [b2]⟩ Sv4159 [.box b2 [.slice p4154 e4153.1.length k4155, .int .i64 e4153.2.1] 75, .row p4156 e4153.2.2.length k4157 c4158 3 1] [SlA p4154 e4153.1.length k4155 e4153.1, RowA c4158 e4153.2.2] w) ?_ ?_
  · refine wp_block ?_
    have hw := hw.nilRow Int 3
    refine wp_while (fun sv33 a w => ∃ (p2776 : Option Addr) (k2777 : Nat) (p2778 : Option Addr) (k2779 : Nat) (c2780 : List Value) (Sv2781 : Nat → Prop), Sl 53 [(0, .pointer (some ⟨b2, 0, none⟩)), (5, .slice p2778 sv33.2.2.1.length k2779), (6, .int .i64 sv33.2.2.2.1), (7, .int .i64 sv33.2.2.2.2)] a ∧ Wd ⟨w0, S0, [b2]⟩ Sv2781 [.box b2 [.slice p2776 sv33.1.length k2777, .int .i64 sv33.2.1] 75, .row p2778 sv33.2.2.1.length k2779 c2780 3 1] [SlA p2776 sv33.1.length k2777 sv33.1, RowA c2780 sv33.2.2.1] w) (rv22.2.L, rv22.2.At, ([] : List Int), rv11.1, i32) h5529 ⟨p24, k25, none, 0, [], Sv27, (hs.weaken _ ⟨rfl, rfl, rfl, rfl, trivial⟩), (hw.fit [1, 0] (by decide) ⟨rfl, rfl, trivial⟩ ⟨⟨1, rfl⟩, ⟨0, rfl⟩, trivial⟩)⟩ ?_
    clear h5529
    repeat clear hsh
    rintro sv33 a w tv4151 ⟨p2776, k2777, p2778, k2779, c2780, Sv2781, hs, hw⟩ hsh hd4150
    delta made_Dice_Samples_l1 at hsh
    refine wp_seq ?_
    refine wp_seq ?_
    refine wp_region_lit ?_
    refine st_val hs (y_move rfl) trivial rfl rfl fun a hs => ?_
    refine st_val hs (y_gtr rfl rfl) trivial rfl rfl fun a hs => ?_
    refine wpList_nil ?_
    refine then_normal ?_
    refine wp_cond_split (hs.ev rfl) (fun h4161 => ?_) (fun h4161 => ?_)
    · have hsh := ite_t hsh h4161
      refine wp_skip ?_
      refine then_normal ?_
      refine wp_seq ?_
      refine wp_block ?_
      refine wp_seq ?_
      refine wp_seq ?_
      refine wp_region_lit ?_
      refine st_val hs (y_move rfl) trivial rfl rfl fun a hs => ?_
      obtain ⟨rv4845, h4844, hsh⟩ := bind_t hsh
      refine st_callR hs (made_Dice_Next_ok h4844 hw.dom (hw.ownAt 0 rfl) (hw.boxS 0 rfl) (hw.envAt 0 rfl)) (do_call Try.call15 rfl) trivial rfl rfl ?_
      intro v4853 Sv4850 w a h4851 h4852 hs
      obtain ⟨p4847, k4848, rfl, h4846, h4849⟩ := h4852
      have hw := hw.call1 0 rfl h4851 h4846
      have hw := hw.addE (e := SlA p4847 rv4845.2.L.length k4848 rv4845.2.L) h4849
      refine wpList_nil ?_
      refine then_normal ?_
      refine wp_block ?_
      refine wp_seq ?_
      refine wp_region_lit ?_
      refine st_val hs (y_eql rfl rfl) trivial rfl rfl fun a hs => ?_
      refine st_val hs (y_assign rfl) trivial rfl rfl fun a hs => ?_
      refine wpList_nil ?_
      refine then_normal ?_
      refine wp_join (fun a w => ∃ (x5352 : (List Int)) (x5353 : Int) (x5354 : Int) (p5349 : Option Addr) (k5350 : Nat) (Sv5351 : Nat → Prop), made_Dice_Samples_j1 sv33 x5352 x5353 x5354 = some tv4151 ∧ Sl 53 [(0, .pointer (some ⟨b2, 0, none⟩)), (5, .slice p2778 sv33.2.2.1.length k2779), (6, .int .i64 x5354), (7, .int .i64 sv33.2.2.2.2)] a ∧ Wd ⟨w0, S0, [b2]⟩ Sv5351 [.box b2 [.slice p5349 x5352.length k5350, .int .i64 x5353] 75, .row p2778 sv33.2.2.1.length k2779 c2780 3 1] [SlA p5349 x5352.length k5350 x5352, RowA c2780 sv33.2.2.1] w) ?_ ?_
      · refine wp_cond_split (hs.ev rfl) (fun h5365 => ?_) (fun h5365 => ?_)
        · have hsh := ite_t hsh h5365
          refine wp_region_lit ?_
          refine st_val hs (y_move rfl) trivial rfl rfl fun a hs => ?_
          refine st_val hs (y_move rfl) trivial rfl rfl fun a hs => ?_
          refine w_buildSlice (α := Int) (vs := [.int .i64 127, .int .i64 128, .int .i64 (-128), .int .i64 (-129), .int .i64 300]) (cs := [.int .i64 127, .int .i64 128, .int .i64 (-128), .int .i64 (-129), .int .i64 300]) (xs := ([127, 128, (-128), (-129), 300] : List Int)) hs hw El22 rfl rfl rfl rfl rfl rfl ⟨⟨_, rfl, rfl⟩, ⟨⟨_, rfl, rfl⟩, ⟨⟨_, rfl, rfl⟩, ⟨⟨_, rfl, rfl⟩, ⟨⟨_, rfl, rfl⟩, rfl⟩⟩⟩⟩⟩ rfl trivial ?_
          intro p5366 a w hs hw
          obtain ⟨rv5368, h5367, hsh⟩ := bind_t hsh
          obtain ⟨Sv5373, hw⟩ := w_share (α := Int) hw 0 rfl 0 rfl (.inr ⟨1, _, _, _, rfl, rfl, rfl⟩)
          refine st_callR hs (made_Dice_Pick_ok h5367 hw.dom (hw.ownAt 0 rfl) (hw.boxS 0 rfl) (hw.envAt 2 rfl) (hw.envAt 0 rfl)) (do_call Try.call27 rfl) trivial rfl rfl ?_
          intro v5377 Sv5374 w a h5375 h5376 hs
          obtain ⟨p5370, k5371, rfl, h5369, h5372⟩ := h5376
          have hw := hw.call1 0 rfl h5375 h5369
          have hw := hw.addE (e := SlA p5370 rv5368.2.L.length k5371 rv5368.2.L) h5372
          refine st_val hs (y_add rfl rfl) trivial rfl rfl fun a hs => ?_
          obtain ⟨x5379, h5378, hsh⟩ := bind_t hsh
          refine st_val hs (y_assignI rfl h5378) trivial rfl rfl fun a hs => ?_
          refine wpList_nil ?_
          refine then_normal ?_
          exact ⟨rv5368.2.L, rv5368.2.At, x5379, p5370, k5371, Sv5374, hsh, (hs.weaken _ ⟨rfl, rfl, rfl, rfl, trivial⟩), (hw.fit [0, 1] (by decide) ⟨rfl, rfl, trivial⟩ ⟨⟨0, rfl⟩, ⟨5, rfl⟩, trivial⟩)⟩
        · have hsh := ite_f hsh h5365
          refine wp_seq ?_
          refine wp_region_lit ?_
          refine st_val hs (y_eql rfl rfl) trivial rfl rfl fun a hs => ?_
          refine st_val hs (y_assign rfl) trivial rfl rfl fun a hs => ?_
          refine wpList_nil ?_
          refine then_normal ?_
          refine wp_join (fun a w => ∃ (x5454 : (List Int)) (x5455 : Int) (x5456 : Int) (p5451 : Option Addr) (k5452 : Nat) (Sv5453 : Nat → Prop), made_Dice_Samples_j2 sv33 x5454 x5455 x5456 = some tv4151 ∧ Sl 53 [(0, .pointer (some ⟨b2, 0, none⟩)), (5, .slice p2778 sv33.2.2.1.length k2779), (6, .int .i64 x5456), (7, .int .i64 sv33.2.2.2.2)] a ∧ Wd ⟨w0, S0, [b2]⟩ Sv5453 [.box b2 [.slice p5451 x5454.length k5452, .int .i64 x5455] 75, .row p2778 sv33.2.2.1.length k2779 c2780 3 1] [SlA p5451 x5454.length k5452 x5454, RowA c2780 sv33.2.2.1] w) ?_ ?_
          · refine wp_cond_split (hs.ev rfl) (fun h5457 => ?_) (fun h5457 => ?_)
            · have hsh := ite_t hsh h5457
              refine wp_region_lit ?_
              refine st_val hs (y_move rfl) trivial rfl rfl fun a hs => ?_
              refine st_val hs (y_move rfl) trivial rfl rfl fun a hs => ?_
              refine w_buildSlice (α := Int) (vs := [.int .i64 32767, .int .i64 32768, .int .i64 (-32768), .int .i64 (-32769)]) (cs := [.int .i64 32767, .int .i64 32768, .int .i64 (-32768), .int .i64 (-32769)]) (xs := ([32767, 32768, (-32768), (-32769)] : List Int)) hs hw El22 rfl rfl rfl rfl rfl rfl ⟨⟨_, rfl, rfl⟩, ⟨⟨_, rfl, rfl⟩, ⟨⟨_, rfl, rfl⟩, ⟨⟨_, rfl, rfl⟩, rfl⟩⟩⟩⟩ rfl trivial ?_
              intro p5458 a w hs hw
              obtain ⟨rv5460, h5459, hsh⟩ := bind_t hsh
              obtain ⟨Sv5465, hw⟩ := w_share (α := Int) hw 0 rfl 0 rfl (.inr ⟨1, _, _, _, rfl, rfl, rfl⟩)
              refine st_callR hs (made_Dice_Pick_ok h5459 hw.dom (hw.ownAt 0 rfl) (hw.boxS 0 rfl) (hw.envAt 2 rfl) (hw.envAt 0 rfl)) (do_call Try.call27 rfl) trivial rfl rfl ?_
              intro v5469 Sv5466 w a h5467 h5468 hs
              obtain ⟨p5462, k5463, rfl, h5461, h5464⟩ := h5468
              have hw := hw.call1 0 rfl h5467 h5461
              have hw := hw.addE (e := SlA p5462 rv5460.2.L.length k5463 rv5460.2.L) h5464
              refine st_val hs (y_add rfl rfl) trivial rfl rfl fun a hs => ?_
              obtain ⟨x5471, h5470, hsh⟩ := bind_t hsh
              refine st_val hs (y_assignI rfl h5470) trivial rfl rfl fun a hs => ?_
              refine wpList_nil ?_
              refine then_normal ?_
              exact ⟨rv5460.2.L, rv5460.2.At, x5471, p5462, k5463, Sv5466, hsh, (hs.weaken _ ⟨rfl, rfl, rfl, rfl, trivial⟩), (hw.fit [0, 1] (by decide) ⟨rfl, rfl, trivial⟩ ⟨⟨0, rfl⟩, ⟨5, rfl⟩, trivial⟩)⟩
            · have hsh := ite_f hsh h5457
              refine wp_seq ?_
              refine wp_region_lit ?_
              refine st_val hs (y_eql rfl rfl) trivial rfl rfl fun a hs => ?_
              refine st_val hs (y_assign rfl) trivial rfl rfl fun a hs => ?_
              refine wpList_nil ?_
              refine then_normal ?_
              refine wp_join (fun a w => ∃ (x5500 : (List Int)) (x5501 : Int) (x5502 : Int) (p5497 : Option Addr) (k5498 : Nat) (Sv5499 : Nat → Prop), made_Dice_Samples_j3 sv33 x5500 x5501 x5502 = some tv4151 ∧ Sl 53 [(0, .pointer (some ⟨b2, 0, none⟩)), (5, .slice p2778 sv33.2.2.1.length k2779), (6, .int .i64 x5502), (7, .int .i64 sv33.2.2.2.2)] a ∧ Wd ⟨w0, S0, [b2]⟩ Sv5499 [.box b2 [.slice p5497 x5500.length k5498, .int .i64 x5501] 75, .row p2778 sv33.2.2.1.length k2779 c2780 3 1] [SlA p5497 x5500.length k5498 x5500, RowA c2780 sv33.2.2.1] w) ?_ ?_
              · refine wp_cond_split (hs.ev rfl) (fun h5503 => ?_) (fun h5503 => ?_)
                · have hsh := ite_t hsh h5503
                  refine wp_region_lit ?_
                  refine st_val hs (y_move rfl) trivial rfl rfl fun a hs => ?_
                  refine w_buildSlice (α := Int) (vs := [.int .i64 0, .int .i64 1073741823, .int .i64 (-1073741823), .int .i64 536870912]) (cs := [.int .i64 0, .int .i64 1073741823, .int .i64 (-1073741823), .int .i64 536870912]) (xs := ([0, 1073741823, (-1073741823), 536870912] : List Int)) hs hw El22 rfl rfl rfl rfl rfl rfl ⟨⟨_, rfl, rfl⟩, ⟨⟨_, rfl, rfl⟩, ⟨⟨_, rfl, rfl⟩, ⟨⟨_, rfl, rfl⟩, rfl⟩⟩⟩⟩ rfl trivial ?_
                  intro p5504 a w hs hw
                  obtain ⟨rv5506, h5505, hsh⟩ := bind_t hsh
                  obtain ⟨Sv5511, hw⟩ := w_share (α := Int) hw 0 rfl 0 rfl (.inr ⟨1, _, _, _, rfl, rfl, rfl⟩)
                  refine st_callR hs (made_Dice_Pick_ok h5505 hw.dom (hw.ownAt 0 rfl) (hw.boxS 0 rfl) (hw.envAt 2 rfl) (hw.envAt 0 rfl)) (do_call Try.call27 rfl) trivial rfl rfl ?_
                  intro v5515 Sv5512 w a h5513 h5514 hs
                  obtain ⟨p5508, k5509, rfl, h5507, h5510⟩ := h5514
                  have hw := hw.call1 0 rfl h5513 h5507
                  have hw := hw.addE (e := SlA p5508 rv5506.2.L.length k5509 rv5506.2.L) h5510
                  refine st_val hs (y_assign rfl) trivial rfl rfl fun a hs => ?_
                  refine wpList_nil ?_
                  refine then_normal ?_
                  exact ⟨rv5506.2.L, rv5506.2.At, rv5506.1, p5508, k5509, Sv5512, hsh, (hs.weaken _ ⟨rfl, rfl, rfl, rfl, trivial⟩), (hw.fit [0, 1] (by decide) ⟨rfl, rfl, trivial⟩ ⟨⟨0, rfl⟩, ⟨5, rfl⟩, trivial⟩)⟩
                · have hsh := ite_f hsh h5503
                  refine wp_region_lit ?_
                  refine st_val hs (y_move rfl) trivial rfl rfl fun a hs => ?_
                  refine st_val hs (y_move rfl) trivial rfl rfl fun a hs => ?_
                  obtain ⟨rv5517, h5516, hsh⟩ := bind_t hsh
                  refine st_callR hs (made_Dice_Next_ok h5516 hw.dom (hw.ownAt 0 rfl) (hw.boxS 0 rfl) (hw.envAt 0 rfl)) (do_call Try.call15 rfl) trivial rfl rfl ?_
                  intro v5525 Sv5522 w a h5523 h5524 hs
                  obtain ⟨p5519, k5520, rfl, h5518, h5521⟩ := h5524
                  have hw := hw.call1 0 rfl h5523 h5518
                  have hw := hw.addE (e := SlA p5519 rv5517.2.L.length k5520 rv5517.2.L) h5521
                  refine st_val hs (y_sub rfl rfl) trivial rfl rfl fun a hs => ?_
                  refine st_val hs (y_add rfl rfl) trivial rfl rfl fun a hs => ?_
                  obtain ⟨x5527, h5526, hsh⟩ := bind_t hsh
                  refine st_val hs (y_assignI rfl h5526) trivial rfl rfl fun a hs => ?_
                  refine wpList_nil ?_
                  refine then_normal ?_
                  exact ⟨rv5517.2.L, rv5517.2.At, x5527, p5519, k5520, Sv5522, hsh, (hs.weaken _ ⟨rfl, rfl, rfl, rfl, trivial⟩), (hw.fit [0, 1] (by decide) ⟨rfl, rfl, trivial⟩ ⟨⟨0, rfl⟩, ⟨3, rfl⟩, trivial⟩)⟩
              · rintro a w ⟨x5500, x5501, x5502, p5497, k5498, Sv5499, hsh, hs, hw⟩
                delta made_Dice_Samples_j3 at hsh
                refine then_normal ?_
                exact ⟨x5500, x5501, x5502, p5497, k5498, Sv5499, hsh, (hs.weaken _ ⟨rfl, rfl, rfl, rfl, trivial⟩), (hw.fit [0, 1] (by decide) ⟨rfl, rfl, trivial⟩ ⟨⟨0, rfl⟩, ⟨1, rfl⟩, trivial⟩)⟩
          · rintro a w ⟨x5454, x5455, x5456, p5451, k5452, Sv5453, hsh, hs, hw⟩
            delta made_Dice_Samples_j2 at hsh
            refine then_normal ?_
            exact ⟨x5454, x5455, x5456, p5451, k5452, Sv5453, hsh, (hs.weaken _ ⟨rfl, rfl, rfl, rfl, trivial⟩), (hw.fit [0, 1] (by decide) ⟨rfl, rfl, trivial⟩ ⟨⟨0, rfl⟩, ⟨1, rfl⟩, trivial⟩)⟩
      · rintro a w ⟨x5352, x5353, x5354, p5349, k5350, Sv5351, hsh, hs, hw⟩
        delta made_Dice_Samples_j1 at hsh
        refine blk_normal ?_
        refine then_normal ?_
        refine wp_seq ?_
        refine wp_region_lit ?_
        refine st_val hs (y_move rfl) trivial rfl rfl fun a hs => ?_
        refine st_val hs (y_max rfl rfl) trivial rfl rfl fun a hs => ?_
        refine st_val hs (y_min rfl rfl) trivial rfl rfl fun a hs => ?_
        obtain ⟨x5356, h5355, hsh⟩ := bind_t hsh
        refine st_val hs (y_assignI rfl h5355) trivial rfl rfl fun a hs => ?_
        refine wpList_nil ?_
        refine then_normal ?_
        refine wp_region_lit ?_
        refine st_val hs (y_move rfl) trivial rfl rfl fun a hs => ?_
        refine st_val hs (y_move rfl) trivial rfl rfl fun a hs => ?_
        refine w_buildSlice (α := Int) (vs := [.int .i64 x5356]) (cs := [.int .i64 x5356]) (xs := ([x5356] : List Int)) hs hw El22 rfl rfl rfl rfl rfl rfl ⟨⟨_, rfl, rfl⟩, rfl⟩ rfl trivial ?_
        intro p5357 a w hs hw
        obtain ⟨l5359, h5358, hsh⟩ := bind_t hsh
        refine w_appendR (α := Int) hs hw El22 2 rfl rfl rfl 2 rfl 0 rfl 0 rfl h5358 rfl trivial ?_
        intro p5360 k5361 c5362 a w hs hw
        refine st_val hs (y_assign rfl) trivial rfl rfl fun a hs => ?_
        refine wpList_nil ?_
        refine blk_normal ?_
        refine then_normal ?_
        refine wp_region_lit ?_
        refine st_val hs (y_move rfl) trivial rfl rfl fun a hs => ?_
        refine st_val hs (y_sub rfl rfl) trivial rfl rfl fun a hs => ?_
        obtain ⟨i5364, h5363, hsh⟩ := bind_t hsh
        refine st_val hs (y_assignI rfl h5363) trivial rfl rfl fun a hs => ?_
        refine wpList_nil ?_
        refine then_normal ?_
        exact ⟨_, (Option.some.inj hsh).symm, p5349, k5350, p5360, k5361, c5362, Sv5351, (hs.weaken _ ⟨rfl, rfl, rfl, rfl, trivial⟩), (hw.fit [1, 2] (by decide) ⟨rfl, rfl, trivial⟩ ⟨⟨2, rfl⟩, ⟨0, rfl⟩, trivial⟩)⟩
    · have hsh := ite_f hsh h4161
      refine wp_exit ?_
      refine then_exit ?_
      refine then_exit ?_
      refine blk_exit ?_
      have hsh := Option.some.inj hsh
      subst hsh
      have h5528 := hd4150 _ rfl
      subst h5528
      refine then_normal ?_
      exact ⟨p2776, k2777, p2778, k2779, c2780, Sv2781, (hs.weaken _ ⟨rfl, trivial⟩), (hw.fit [0, 1] (by decide) ⟨rfl, rfl, trivial⟩ ⟨⟨0, rfl⟩, ⟨1, rfl⟩, trivial⟩)⟩
  · rintro a w ⟨p4154, k4155, p4156, k4157, c4158, Sv4159, hs, hw⟩
    refine then_normal ?_
    refine wp_seq ?_
    refine wp_region_lit ?_
    refine st_val hs (y_move rfl) trivial rfl rfl fun a hs => ?_
    refine st_val hs (y_assign rfl) trivial rfl rfl fun a hs => ?_
    refine wpList_nil ?_
    refine then_normal ?_
    have hsh := Option.some.inj hsh
    subst hsh
    refine wp_ret ?_
    exact ret1 hs rfl (rv_tmp rfl) (hw.ret ⟨p4156, k4157, c4158, p4154, k4155, rfl, (hw.freshOf 1 rfl (.inr ⟨0, _, _, _, rfl, rfl, rfl⟩)), (hw.envAt 1 rfl), (hw.ownAt 0 rfl), (hw.envAt 0 rfl)⟩)

abbrev ref21_Same_rd (w0 : World) (r : Bool) : (Nat → Prop) → World → Value → Prop := fun S w v => v = .bool r
set_option maxHeartbeats 4000000 in
set_option maxRecDepth 100000 in
theorem ref21_Same_ok {w0 : World} {S0 : Nat → Prop} {p2 : Option Addr} {k3 : Nat} {p6 : Option Addr} {k7 : Nat} {a1 : Filter} {b5 : Filter} {r : Bool} (hsh : ref21_Same a1 b5 = some r) (hS : ∀ b, S0 b → b < w0.heap.size) (h4 : (SlA p2 a1.Taps.length k3 a1.Taps).p S0 w0) (h8 : (SlA p6 b5.Taps.length k7 b5.Taps).p S0 w0) : Calls Try.prog 19 #[.agg #[.slice p2 a1.Taps.length k3, .int .i64 a1.Factor, .int .i64 a1.Shift], .agg #[.slice p6 b5.Taps.length k7, .int .i64 b5.Factor, .int .i64 b5.Shift]] w0 (Ret [] w0 S0 (ref21_Same_rd w0 r)) := by
  refine calls_of_wp Try.func19 rfl ?_
  have hs := Sl.enter #[.agg #[.slice p2 a1.Taps.length k3, .int .i64 a1.Factor, .int .i64 a1.Shift], .agg #[.slice p6 b5.Taps.length k7, .int .i64 b5.Factor, .int .i64 b5.Shift]] 24 [(0, .agg #[.slice p2 a1.Taps.length k3, .int .i64 a1.Factor, .int .i64 a1.Shift]), (1, .agg #[.slice p6 b5.Taps.length k7, .int .i64 b5.Factor, .int .i64 b5.Shift])] rfl ⟨rfl, rfl, trivial⟩
  have hw := Wd.enter (E := []) hS (fun _ h => (by cases h))
  have hw := hw.addE h4
  have hw := hw.addE h8
  delta ref21_Same at hsh
  refine wp_seq ?_
  refine wp_region_lit ?_
  refine w_box (cs := [.slice p2 a1.Taps.length k3, .int .i64 a1.Factor, .int .i64 a1.Shift]) hs hw rfl rfl rfl trivial ?_
  intro b9 a w hs hw
  refine w_box (cs := [.slice p6 b5.Taps.length k7, .int .i64 b5.Factor, .int .i64 b5.Shift]) hs hw rfl rfl rfl trivial ?_
  intro b10 a w hs hw
  refine st_val hs (y_assign rfl) trivial rfl rfl fun a hs => ?_
  refine wpList_nil ?_
  refine then_normal ?_
  refine wp_seq ?_
  refine wp_region_lit ?_
  refine st_val hs (y_fieldAddr (o' := 1) Try.runUnderlying28 rfl Try.sizeOf3 rfl rfl rfl) trivial rfl rfl fun a hs => ?_
  refine st_val hs (y_loadB1 (hw.ownAt 1 rfl) rfl Try.isAgg3 rfl) trivial rfl rfl fun a hs => ?_
  refine st_val hs (y_fieldAddr (o' := 1) Try.runUnderlying28 rfl Try.sizeOf3 rfl rfl rfl) trivial rfl rfl fun a hs => ?_
  refine st_val hs (y_loadB1 (hw.ownAt 0 rfl) rfl Try.isAgg3 rfl) trivial rfl rfl fun a hs => ?_
  refine st_val hs (y_eql rfl rfl) trivial rfl rfl fun a hs => ?_
  refine st_val hs (y_move rfl) trivial rfl rfl fun a hs => ?_
  refine wpl_join 6 (fun a w1 => w = w1 ∧ Sl 24 [(2, .pointer (some ⟨b9, 0, none⟩)), (3, .pointer (some ⟨b10, 0, none⟩)), (16, .bool ((a1.Factor == b5.Factor) && (a1.Shift == b5.Shift)))] a) ?_ ?_
  · rcases Bool.eq_false_or_eq_true (a1.Factor == b5.Factor) with h11 | h11
    · have hs := hs.fix 10 (.bool true) rfl (vb h11)
      refine st_val hs (y_fieldAddr (o' := 2) Try.runUnderlying28 rfl Try.sizeOf3 rfl rfl rfl) ⟨_, rfl, rfl⟩ rfl rfl fun a hs => ?_
      refine st_val hs (y_loadB1 (hw.ownAt 1 rfl) rfl Try.isAgg3 rfl) ⟨_, rfl, rfl⟩ rfl rfl fun a hs => ?_
      refine st_val hs (y_fieldAddr (o' := 2) Try.runUnderlying28 rfl Try.sizeOf3 rfl rfl rfl) ⟨_, rfl, rfl⟩ rfl rfl fun a hs => ?_
      refine st_val hs (y_loadB1 (hw.ownAt 0 rfl) rfl Try.isAgg3 rfl) ⟨_, rfl, rfl⟩ rfl rfl fun a hs => ?_
      refine st_val hs (y_eql rfl rfl) ⟨_, rfl, rfl⟩ rfl rfl fun a hs => ?_
      refine st_val hs (y_pickT rfl rfl) trivial rfl rfl fun a hs => ?_
      refine wpList_nil ?_
      refine then_normal ?_
      exact ⟨rfl, (hs.fix 16 (.bool ((a1.Factor == b5.Factor) && (a1.Shift == b5.Shift))) rfl (and_t h11)).weaken _ ⟨rfl, rfl, rfl, trivial⟩⟩
    · have hs := hs.fix 10 (.bool false) rfl (vb h11)
      refine st_skip hs rfl rfl rfl rfl rfl fun a hs => ?_
      refine st_skip hs rfl rfl rfl rfl rfl fun a hs => ?_
      refine st_skip hs rfl rfl rfl rfl rfl fun a hs => ?_
      refine st_skip hs rfl rfl rfl rfl rfl fun a hs => ?_
      refine st_skip hs rfl rfl rfl rfl rfl fun a hs => ?_
      refine st_val hs (y_pickF rfl rfl) trivial rfl rfl fun a hs => ?_
      refine wpList_nil ?_
      refine then_normal ?_
      exact ⟨rfl, (hs.fix 16 (.bool ((a1.Factor == b5.Factor) && (a1.Shift == b5.Shift))) rfl (and_f h11)).weaken _ ⟨rfl, rfl, rfl, trivial⟩⟩
  · rintro a w1 ⟨h27, hs⟩
    subst h27
    refine st_val hs (y_move rfl) trivial rfl rfl fun a hs => ?_
    obtain ⟨c19, hc19, hsh⟩ := bind_t hsh
    refine wpl_join 6 (fun a w => ∃ (Sv20 : Nat → Prop), Sl 24 [(23, .bool c19)] a ∧ Wd ⟨w0, S0, []⟩ Sv20 [] [] w) ?_ ?_
    · rcases Bool.eq_false_or_eq_true ((a1.Factor == b5.Factor) && (a1.Shift == b5.Shift)) with h18 | h18
      · have hs := hs.fix 17 (.bool true) rfl (vb h18)
        have hsh := ite_t hc19 h18
        refine st_val hs (y_fieldAddr (o' := 0) Try.runUnderlying28 rfl Try.sizeOf22 rfl rfl rfl) ⟨_, rfl, rfl⟩ rfl rfl fun a hs => ?_
        refine st_val hs (y_loadB1 (hw.ownAt 1 rfl) rfl Try.isAgg22 rfl) ⟨_, rfl, rfl⟩ rfl rfl fun a hs => ?_
        refine st_val hs (y_fieldAddr (o' := 0) Try.runUnderlying28 rfl Try.sizeOf22 rfl rfl rfl) ⟨_, rfl, rfl⟩ rfl rfl fun a hs => ?_
        refine st_val hs (y_loadB1 (hw.ownAt 0 rfl) rfl Try.isAgg22 rfl) ⟨_, rfl, rfl⟩ rfl rfl fun a hs => ?_
        obtain ⟨rv22, h21, hsh⟩ := bind_t hsh
        refine st_callR hs (ref05_Same_ok h21 hw.dom (hw.envAt 1 rfl) (hw.envAt 0 rfl)) (do_call Try.call23 rfl) ⟨_, rfl, rfl⟩ rfl rfl ?_
        intro v26 Sv23 w a h24 h25 hs
        subst h25
        have hw := hw.call h24
        refine st_val hs (y_pickT rfl rfl) trivial rfl rfl fun a hs => ?_
        refine wpList_nil ?_
        have hsh := Option.some.inj hsh
        subst hsh
        refine then_normal ?_
        exact ⟨Sv23, (hs.weaken _ ⟨rfl, trivial⟩), (hw.fit [] (by decide) trivial trivial)⟩
      · have hs := hs.fix 17 (.bool false) rfl (vb h18)
        have hsh := ite_f hc19 h18
        refine st_skip hs rfl rfl rfl rfl rfl fun a hs => ?_
        refine st_skip hs rfl rfl rfl rfl rfl fun a hs => ?_
        refine st_skip hs rfl rfl rfl rfl rfl fun a hs => ?_
        refine st_skip hs rfl rfl rfl rfl rfl fun a hs => ?_
        refine st_skip hs rfl rfl rfl rfl rfl fun a hs => ?_
        refine st_val hs (y_pickF rfl rfl) trivial rfl rfl fun a hs => ?_
        refine wpList_nil ?_
        have hsh := Option.some.inj hsh
        subst hsh
        refine then_normal ?_
        exact ⟨S0, (hs.weaken _ ⟨rfl, trivial⟩), (hw.fit [] (by decide) trivial trivial)⟩
    · rintro a w ⟨Sv20, hs, hw⟩
      refine st_val hs (y_assign rfl) trivial rfl rfl fun a hs => ?_
      refine wpList_nil ?_
      refine then_normal ?_
      have hsh := Option.some.inj hsh
      subst hsh
      refine wp_ret ?_
      exact ret1 hs rfl (rv_tmp rfl) (hw.ret rfl)

abbrev ref01_In_rd (w0 : World) (r : Bool) : (Nat → Prop) → World → Value → Prop := fun S w v => v = .bool r
set_option maxHeartbeats 4000000 in
set_option maxRecDepth 100000 in
theorem ref01_In_ok {w0 : World} {S0 : Nat → Prop} {n1 : Int} {lo2 : Int} {hi3 : Int} {r : Bool} (hsh : ref01_In n1 lo2 hi3 = some r) (hS : ∀ b, S0 b → b < w0.heap.size) : Calls Try.prog 43 #[.int .i64 n1, .int .i64 lo2, .int .i64 hi3] w0 (Ret [] w0 S0 (ref01_In_rd w0 r)) := by
  refine calls_of_wp Try.func43 rfl ?_
  have hs := Sl.enter #[.int .i64 n1, .int .i64 lo2, .int .i64 hi3] 15 [(0, .int .i64 n1), (1, .int .i64 lo2), (2, .int .i64 hi3)] rfl ⟨rfl, rfl, rfl, trivial⟩
  have hw := Wd.enter (E := []) hS (fun _ h => (by cases h))
  delta ref01_In at hsh
  refine wp_seq ?_
  refine wp_region_lit ?_
  refine st_val hs (y_assign rfl) trivial rfl rfl fun a hs => ?_
  refine wpList_nil ?_
  refine then_normal ?_
  refine wp_seq ?_
  refine wp_region_lit ?_
  refine st_val hs (y_move rfl) trivial rfl rfl fun a hs => ?_
  refine st_val hs (y_move rfl) trivial rfl rfl fun a hs => ?_
  refine st_val hs (y_geq rfl rfl) trivial rfl rfl fun a hs => ?_
  refine st_val hs (y_move rfl) trivial rfl rfl fun a hs => ?_
  refine wpl_join 4 (fun a w1 => w0 = w1 ∧ Sl 15 [(14, .bool ((decide (lo2 ≤ n1)) && (decide (n1 ≤ hi3))))] a) ?_ ?_
  · rcases Bool.eq_false_or_eq_true (decide (lo2 ≤ n1)) with h4 | h4
    · have hs := hs.fix 10 (.bool true) rfl (vb h4)
      refine st_val hs (y_move rfl) ⟨_, rfl, rfl⟩ rfl rfl fun a hs => ?_
      refine st_val hs (y_move rfl) ⟨_, rfl, rfl⟩ rfl rfl fun a hs => ?_
      refine st_val hs (y_leq rfl rfl) ⟨_, rfl, rfl⟩ rfl rfl fun a hs => ?_
      refine st_val hs (y_pickT rfl rfl) trivial rfl rfl fun a hs => ?_
      refine wpList_nil ?_
      refine then_normal ?_
      exact ⟨rfl, (hs.fix 14 (.bool ((decide (lo2 ≤ n1)) && (decide (n1 ≤ hi3)))) rfl (and_t h4)).weaken _ ⟨rfl, trivial⟩⟩
    · have hs := hs.fix 10 (.bool false) rfl (vb h4)
      refine st_skip hs rfl rfl rfl rfl rfl fun a hs => ?_
      refine st_skip hs rfl rfl rfl rfl rfl fun a hs => ?_
      refine st_skip hs rfl rfl rfl rfl rfl fun a hs => ?_
      refine st_val hs (y_pickF rfl rfl) trivial rfl rfl fun a hs => ?_
      refine wpList_nil ?_
      refine then_normal ?_
      exact ⟨rfl, (hs.fix 14 (.bool ((decide (lo2 ≤ n1)) && (decide (n1 ≤ hi3)))) rfl (and_f h4)).weaken _ ⟨rfl, trivial⟩⟩
  · rintro a w1 ⟨h5, hs⟩
    subst h5
    refine st_val hs (y_assign rfl) trivial rfl rfl fun a hs => ?_
    refine wpList_nil ?_
    refine then_normal ?_
    have hsh := Option.some.inj hsh
    subst hsh
    refine wp_ret ?_
    exact ret1 hs rfl (rv_tmp rfl) (hw.ret rfl)

abbrev ref21_Valid_rd (w0 : World) (r : Bool) : (Nat → Prop) → World → Value → Prop := fun S w v => v = .bool r
set_option maxHeartbeats 4000000 in
set_option maxRecDepth 100000 in
theorem ref21_Valid_ok {w0 : World} {S0 : Nat → Prop} {p2 : Option Addr} {k3 : Nat} {f1 : Filter} {r : Bool} (hsh : ref21_Valid f1 = some r) (hS : ∀ b, S0 b → b < w0.heap.size) (h4 : (SlA p2 f1.Taps.length k3 f1.Taps).p S0 w0) : Calls Try.prog 20 #[.agg #[.slice p2 f1.Taps.length k3, .int .i64 f1.Factor, .int .i64 f1.Shift]] w0 (Ret [] w0 S0 (ref21_Valid_rd w0 r)) := by
  refine calls_of_wp Try.func20 rfl ?_
  have hs := Sl.enter #[.agg #[.slice p2 f1.Taps.length k3, .int .i64 f1.Factor, .int .i64 f1.Shift]] 56 [(0, .agg #[.slice p2 f1.Taps.length k3, .int .i64 f1.Factor, .int .i64 f1.Shift])] rfl ⟨rfl, trivial⟩
  have hw := Wd.enter (E := []) hS (fun _ h => (by cases h))
  have hw := hw.addE h4
  delta ref21_Valid at hsh
  refine wp_seq ?_
  refine wp_region_lit ?_
  refine w_box (cs := [.slice p2 f1.Taps.length k3, .int .i64 f1.Factor, .int .i64 f1.Shift]) hs hw rfl rfl rfl trivial ?_
  intro b5 a w hs hw
  refine st_val hs (y_assign rfl) trivial rfl rfl fun a hs => ?_
  refine wpList_nil ?_
  refine then_normal ?_
  refine wp_seq ?_
  refine wp_seq ?_
  refine wp_region_lit ?_
  refine st_val hs (y_fieldAddr (o' := 0) Try.runUnderlying28 rfl Try.sizeOf22 rfl rfl rfl) trivial rfl rfl fun a hs => ?_
  refine st_val hs (y_loadB1 (hw.ownAt 0 rfl) rfl Try.isAgg22 rfl) trivial rfl rfl fun a hs => ?_
  refine st_val hs (y_len Try.runUnderlying22 rfl) trivial rfl rfl fun a hs => ?_
  obtain ⟨rv7, h6, hsh⟩ := bind_t hsh
  refine st_callR hs (ref01_In_ok h6 hw.dom) (do_call Try.call43 rfl) trivial rfl rfl ?_
  intro v11 Sv8 w a h9 h10 hs
  subst h10
  have hw := hw.call h9
  refine st_val hs (y_not rfl) trivial rfl rfl fun a hs => ?_
  refine st_val hs (y_move rfl) trivial rfl rfl fun a hs => ?_
  obtain ⟨c19, hc19, hsh⟩ := bind_t hsh
  refine wpl_join 5 (fun a w => ∃ (Sv20 : Nat → Prop), Sl 56 [(1, .pointer (some ⟨b5, 0, none⟩)), (15, .bool c19)] a ∧ Wd ⟨w0, S0, []⟩ Sv20 [.box b5 [.slice p2 f1.Taps.length k3, .int .i64 f1.Factor, .int .i64 f1.Shift] 28] [SlA p2 f1.Taps.length k3 f1.Taps] w) ?_ ?_
  · rcases Bool.eq_false_or_eq_true (!rv7) with h18 | h18
    · have hs := hs.fix 10 (.bool true) rfl (vb h18)
      have hsh := ite_t hc19 h18
      refine st_skip hs rfl rfl rfl rfl rfl fun a hs => ?_
      refine st_skip hs rfl rfl rfl rfl rfl fun a hs => ?_
      refine st_skip hs rfl rfl rfl rfl rfl fun a hs => ?_
      refine st_skip hs rfl rfl rfl rfl rfl fun a hs => ?_
      refine st_val hs (y_pickT rfl rfl) trivial rfl rfl fun a hs => ?_
      refine wpList_nil ?_
      have hsh := Option.some.inj hsh
      subst hsh
      refine then_normal ?_
      exact ⟨Sv8, (hs.weaken _ ⟨rfl, rfl, trivial⟩), (hw.fit [0] (by decide) ⟨rfl, trivial⟩ ⟨⟨0, rfl⟩, trivial⟩)⟩
    · have hs := hs.fix 10 (.bool false) rfl (vb h18)
      have hsh := ite_f hc19 h18
      refine st_val hs (y_fieldAddr (o' := 2) Try.runUnderlying28 rfl Try.sizeOf3 rfl rfl rfl) ⟨_, rfl, rfl⟩ rfl rfl fun a hs => ?_
      refine st_val hs (y_loadB1 (hw.ownAt 0 rfl) rfl Try.isAgg3 rfl) ⟨_, rfl, rfl⟩ rfl rfl fun a hs => ?_
      obtain ⟨rv22, h21, hsh⟩ := bind_t hsh
      refine st_callR hs (ref01_In_ok h21 hw.dom) (do_call Try.call43 rfl) ⟨_, rfl, rfl⟩ rfl rfl ?_
      intro v26 Sv23 w a h24 h25 hs
      subst h25
      have hw := hw.call h24
      refine st_val hs (y_not rfl) ⟨_, rfl, rfl⟩ rfl rfl fun a hs => ?_
      refine st_val hs (y_pickF rfl rfl) trivial rfl rfl fun a hs => ?_
      refine wpList_nil ?_
      have hsh := Option.some.inj hsh
      subst hsh
      refine then_normal ?_
      exact ⟨Sv23, (hs.weaken _ ⟨rfl, rfl, trivial⟩), (hw.fit [0] (by decide) ⟨rfl, trivial⟩ ⟨⟨0, rfl⟩, trivial⟩)⟩
  · rintro a w ⟨Sv20, hs, hw⟩
    refine st_val hs (y_move rfl) trivial rfl rfl fun a hs => ?_
    obtain ⟨c34, hc34, hsh⟩ := bind_t hsh
    refine wpl_join 5 (fun a w => ∃ (Sv35 : Nat → Prop), Sl 56 [(1, .pointer (some ⟨b5, 0, none⟩)), (21, .bool c34)] a ∧ Wd ⟨w0, S0, []⟩ Sv35 [.box b5 [.slice p2 f1.Taps.length k3, .int .i64 f1.Factor, .int .i64 f1.Shift] 28] [SlA p2 f1.Taps.length k3 f1.Taps] w) ?_ ?_
    · rcases Bool.eq_false_or_eq_true c19 with h33 | h33
      · have hs := hs.fix 16 (.bool true) rfl (vb h33)
        have hsh := ite_t hc34 h33
        refine st_skip hs rfl rfl rfl rfl rfl fun a hs => ?_
        refine st_skip hs rfl rfl rfl rfl rfl fun a hs => ?_
        refine st_skip hs rfl rfl rfl rfl rfl fun a hs => ?_
        refine st_skip hs rfl rfl rfl rfl rfl fun a hs => ?_
        refine st_val hs (y_pickT rfl rfl) trivial rfl rfl fun a hs => ?_
        refine wpList_nil ?_
        have hsh := Option.some.inj hsh
        subst hsh
        refine then_normal ?_
        exact ⟨Sv20, (hs.weaken _ ⟨rfl, rfl, trivial⟩), (hw.fit [0] (by decide) ⟨rfl, trivial⟩ ⟨⟨0, rfl⟩, trivial⟩)⟩
      · have hs := hs.fix 16 (.bool false) rfl (vb h33)
        have hsh := ite_f hc34 h33
        refine st_val hs (y_fieldAddr (o' := 1) Try.runUnderlying28 rfl Try.sizeOf3 rfl rfl rfl) ⟨_, rfl, rfl⟩ rfl rfl fun a hs => ?_
        refine st_val hs (y_loadB1 (hw.ownAt 0 rfl) rfl Try.isAgg3 rfl) ⟨_, rfl, rfl⟩ rfl rfl fun a hs => ?_
        obtain ⟨rv37, h36, hsh⟩ := bind_t hsh
        refine st_callR hs (ref01_In_ok h36 hw.dom) (do_call Try.call43 rfl) ⟨_, rfl, rfl⟩ rfl rfl ?_
        intro v41 Sv38 w a h39 h40 hs
        subst h40
        have hw := hw.call h39
        refine st_val hs (y_not rfl) ⟨_, rfl, rfl⟩ rfl rfl fun a hs => ?_
        refine st_val hs (y_pickF rfl rfl) trivial rfl rfl fun a hs => ?_
        refine wpList_nil ?_
        have hsh := Option.some.inj hsh
        subst hsh
        refine then_normal ?_
        exact ⟨Sv38, (hs.weaken _ ⟨rfl, rfl, trivial⟩), (hw.fit [0] (by decide) ⟨rfl, trivial⟩ ⟨⟨0, rfl⟩, trivial⟩)⟩
    · rintro a w ⟨Sv35, hs, hw⟩
      refine wpList_nil ?_
      refine then_normal ?_
      refine wp_cond_split (hs.ev rfl) (fun h43 => ?_) (fun h43 => ?_)
      · have hsh := ite_t hsh h43
        refine wp_seq ?_
        refine wp_region_lit ?_
        refine st_val hs (y_assign rfl) trivial rfl rfl fun a hs => ?_
        refine wpList_nil ?_
        refine then_normal ?_
        have hsh := Option.some.inj hsh
        subst hsh
        refine wp_ret ?_
        refine then_ret ?_
        exact ret1 hs rfl (rv_tmp rfl) (hw.ret rfl)
      · have hsh := ite_f hsh h43
        refine wp_skip ?_
        refine then_normal ?_
        refine wp_seq ?_
        refine wp_region_lit ?_
        refine st_val hs (y_assign rfl) trivial rfl rfl fun a hs => ?_
        refine wpList_nil ?_
        refine then_normal ?_
        refine wp_seq ?_
        refine wp_seq ?_
        refine wp_region_lit ?_
        refine st_val hs (y_assign rfl) trivial rfl rfl fun a hs => ?_
        refine wpList_nil ?_
        refine then_normal ?_
        refine wp_block ?_
        refine wp_while (fun sv289 a w => ∃ (Sv451 : Nat → Prop), Sl 56 [(1, .pointer (some ⟨b5, 0, none⟩)), (3, .int .i64 sv289.1), (4, .int .i64 sv289.2)] a ∧ Wd ⟨w0, S0, []⟩ Sv451 [.box b5 [.slice p2 f1.Taps.length k3, .int .i64 f1.Factor, .int .i64 f1.Shift] 28] [SlA p2 f1.Taps.length k3 f1.Taps] w) (0, 0) hsh ⟨Sv35, (hs.weaken _ ⟨rfl, rfl, rfl, trivial⟩), (hw.fit [0] (by decide) ⟨rfl, trivial⟩ ⟨⟨0, rfl⟩, trivial⟩)⟩ ?_
        repeat clear hsh
        rintro sv289 a w tv533 ⟨Sv451, hs, hw⟩ hsh hd532
        delta ref21_Valid_l2 at hsh
        refine wp_seq ?_
        refine wp_seq ?_
        refine wp_region_lit ?_
        refine st_val hs (y_move rfl) trivial rfl rfl fun a hs => ?_
        refine st_val hs (y_fieldAddr (o' := 0) Try.runUnderlying28 rfl Try.sizeOf22 rfl rfl rfl) trivial rfl rfl fun a hs => ?_
        refine st_val hs (y_loadB1 (hw.ownAt 0 rfl) rfl Try.isAgg22 rfl) trivial rfl rfl fun a hs => ?_
        refine st_val hs (y_len Try.runUnderlying22 rfl) trivial rfl rfl fun a hs => ?_
        refine st_val hs (y_lss rfl rfl) trivial rfl rfl fun a hs => ?_
        refine wpList_nil ?_
        refine then_normal ?_
        refine wp_cond_split (hs.ev rfl) (fun h537 => ?_) (fun h537 => ?_)
        · have hsh := ite_t hsh h537
          refine wp_skip ?_
          refine then_normal ?_
          refine wp_seq ?_
          refine wp_block ?_
          refine wp_seq ?_
          refine wp_seq ?_
          refine wp_region_lit ?_
          refine st_val hs (y_fieldAddr (o' := 0) Try.runUnderlying28 rfl Try.sizeOf22 rfl rfl rfl) trivial rfl rfl fun a hs => ?_
          refine st_val hs (y_loadB1 (hw.ownAt 0 rfl) rfl Try.isAgg22 rfl) trivial rfl rfl fun a hs => ?_
          refine st_val hs (y_move rfl) trivial rfl rfl fun a hs => ?_
          obtain ⟨x578, h576, hsh⟩ := bind_t hsh
          obtain ⟨b584, o585, q582, c583, h586, h579, h580, h581, h577⟩ := hw.elemV 0 rfl h576
          subst h586
          obtain ⟨_, rfl, rfl⟩ := h577
          have hw := hw.addE h581
          refine st_val hs (y_indexAt Try.runUnderlying22 Try.sizeOf3 rfl rfl h579.1 h579.2 h580) trivial rfl rfl fun a hs => ?_
          refine st_val hs (y_loadE1 (j := 0) (hw.ceAt 0 rfl) rfl Try.isAgg3 rfl) trivial rfl rfl fun a hs => ?_
          obtain ⟨rv588, h587, hsh⟩ := bind_t hsh
          refine st_callR hs (ref01_In_ok h587 hw.dom) (do_call Try.call43 rfl) trivial rfl rfl ?_
          intro v592 Sv589 w a h590 h591 hs
          subst h591
          have hw := hw.call h590
          refine st_val hs (y_not rfl) trivial rfl rfl fun a hs => ?_
          refine wpList_nil ?_
          refine then_normal ?_
          refine wp_cond_split (hs.ev rfl) (fun h594 => ?_) (fun h594 => ?_)
          · have hsh := ite_t hsh h594
            refine wp_seq ?_
            refine wp_region_lit ?_
            refine st_val hs (y_assign rfl) trivial rfl rfl fun a hs => ?_
            refine wpList_nil ?_
            refine then_normal ?_
            have hsh := Option.some.inj hsh
            subst hsh
            have h595 := hd532 _ rfl
            subst h595
            refine wp_ret ?_
            refine then_ret ?_
            refine blk_ret ?_
            refine then_ret ?_
            refine then_ret ?_
            refine blk_ret ?_
            refine then_ret ?_
            exact ret1 hs rfl (rv_tmp rfl) (hw.ret rfl)
          · have hsh := ite_f hsh h594
            refine wp_skip ?_
            refine then_normal ?_
            obtain ⟨x598, h596, hsh⟩ := bind_t hsh
            obtain ⟨q602, c603, h599, h600, h601, h597⟩ := hw.elemK 1 rfl h596
            obtain ⟨_, rfl, rfl⟩ := h597
            have hw := hw.addE h601
            obtain ⟨x606, h604, hsh⟩ := bind_t hsh
            obtain ⟨q610, c611, h607, h608, h609, h605⟩ := hw.elemK 2 rfl h604
            obtain ⟨_, rfl, rfl⟩ := h605
            have hw := hw.addE h609
            obtain ⟨sum613, h612, hsh⟩ := bind_t hsh
            refine wp_only (fun a w => ∃ (Sv614 : Nat → Prop), Sl 56 [(1, .pointer (some ⟨b5, 0, none⟩)), (3, .int .i64 sum613), (4, .int .i64 sv289.2)] a ∧ Wd ⟨w0, S0, []⟩ Sv614 [.box b5 [.slice (some ⟨b584, o585, none⟩) f1.Taps.length k3, .int .i64 f1.Factor, .int .i64 f1.Shift] 28] [SlA (some ⟨b584, o585, none⟩) f1.Taps.length k3 f1.Taps] w) ?_ ?_
            · refine h_begin (C := Cls [.box b5 [.slice (some ⟨b584, o585, none⟩) f1.Taps.length k3, .int .i64 f1.Factor, .int .i64 f1.Shift] 28] [CeA b584 q610 [.int .i64 x606], CeA b584 q602 [.int .i64 x598], CeA b584 q582 [.int .i64 x578]]) (by kernel_rfl) rfl ?_
              have hw := hw.drew
              have hC : Cls [.box b5 [.slice (some ⟨b584, o585, none⟩) f1.Taps.length k3, .int .i64 f1.Factor, .int .i64 f1.Shift] 28] [CeA b584 q610 [.int .i64 x606], CeA b584 q602 [.int .i64 x598], CeA b584 q582 [.int .i64 x578]] _ := hw.cls [0] ⟨rfl, trivial⟩ ⟨⟨0, rfl⟩, ⟨1, rfl⟩, ⟨2, rfl⟩, trivial⟩
              refine h_take hs (i := 0) rfl (by kernel_rfl) (by kernel_rfl) (by kernel_rfl) trivial rfl rfl hC (fun w hC => y_move rfl) fun a hs => ?_
              refine h_take hs (i := 1) rfl (by kernel_rfl) (by kernel_rfl) (by kernel_rfl) trivial rfl rfl hC (fun w hC => y_fieldAddr (o' := 0) Try.runUnderlying28 rfl Try.sizeOf22 rfl rfl rfl) fun a hs => ?_
              refine h_take hs (i := 2) rfl (by kernel_rfl) (by kernel_rfl) (by kernel_rfl) trivial rfl rfl hC (fun w hC => y_loadB1 (hC.ownAt 0 rfl) rfl Try.isAgg22 rfl) fun a hs => ?_
              refine h_take hs (i := 3) rfl (by kernel_rfl) (by kernel_rfl) (by kernel_rfl) trivial rfl rfl hC (fun w hC => y_move rfl) fun a hs => ?_
              refine h_take hs (i := 4) rfl (by kernel_rfl) (by kernel_rfl) (by kernel_rfl) trivial rfl rfl hC (fun w hC => y_indexAt Try.runUnderlying22 Try.sizeOf3 rfl rfl h599.1 h599.2 h600) fun a hs => ?_
              refine h_take hs (i := 5) rfl (by kernel_rfl) (by kernel_rfl) (by kernel_rfl) trivial rfl rfl hC (fun w hC => y_loadE1 (j := 0) (hC.ceAt 1 rfl) rfl Try.isAgg3 rfl) fun a hs => ?_
              refine h_take hs (i := 6) rfl (by kernel_rfl) (by kernel_rfl) (by kernel_rfl) trivial rfl rfl hC (fun w hC => y_fieldAddr (o' := 0) Try.runUnderlying28 rfl Try.sizeOf22 rfl rfl rfl) fun a hs => ?_
              refine h_take hs (i := 7) rfl (by kernel_rfl) (by kernel_rfl) (by kernel_rfl) trivial rfl rfl hC (fun w hC => y_loadB1 (hC.ownAt 0 rfl) rfl Try.isAgg22 rfl) fun a hs => ?_
              refine h_take hs (i := 8) rfl (by kernel_rfl) (by kernel_rfl) (by kernel_rfl) trivial rfl rfl hC (fun w hC => y_move rfl) fun a hs => ?_
              refine h_take hs (i := 9) rfl (by kernel_rfl) (by kernel_rfl) (by kernel_rfl) trivial rfl rfl hC (fun w hC => y_indexAt Try.runUnderlying22 Try.sizeOf3 rfl rfl h607.1 h607.2 h608) fun a hs => ?_
              refine h_take hs (i := 10) rfl (by kernel_rfl) (by kernel_rfl) (by kernel_rfl) trivial rfl rfl hC (fun w hC => y_loadE1 (j := 0) (hC.ceAt 0 rfl) rfl Try.isAgg3 rfl) fun a hs => ?_
              refine h_take hs (i := 11) rfl (by kernel_rfl) (by kernel_rfl) (by kernel_rfl) trivial rfl rfl hC (fun w hC => y_neg rfl) fun a hs => ?_
              refine h_take hs (i := 12) rfl (by kernel_rfl) (by kernel_rfl) (by kernel_rfl) trivial rfl rfl hC (fun w hC => y_max rfl rfl) fun a hs => ?_
              refine h_take hs (i := 13) rfl (by kernel_rfl) (by kernel_rfl) (by kernel_rfl) trivial rfl rfl hC (fun w hC => y_add rfl rfl) fun a hs => ?_
              refine h_take hs (i := 14) rfl (by kernel_rfl) (by kernel_rfl) (by kernel_rfl) trivial rfl rfl hC (fun w hC => y_assignI rfl h612) fun a hs => ?_
              refine h_done (by kernel_rfl) ?_
              exact ⟨Sv589, (hs.weaken _ ⟨rfl, rfl, rfl, trivial⟩), (hw.fit [0] (by decide) ⟨rfl, trivial⟩ ⟨⟨3, rfl⟩, trivial⟩)⟩
            · rintro a w ⟨Sv614, hs, hw⟩
              refine blk_normal ?_
              refine then_normal ?_
              refine wp_region_lit ?_
              refine st_val hs (y_move rfl) trivial rfl rfl fun a hs => ?_
              refine st_val hs (y_add rfl rfl) trivial rfl rfl fun a hs => ?_
              obtain ⟨i616, h615, hsh⟩ := bind_t hsh
              refine st_val hs (y_assignI rfl h615) trivial rfl rfl fun a hs => ?_
              refine wpList_nil ?_
              refine then_normal ?_
              exact ⟨_, (Option.some.inj hsh).symm, Sv614, (hs.weaken _ ⟨rfl, rfl, rfl, trivial⟩), (hw.fit [0] (by decide) ⟨rfl, trivial⟩ ⟨⟨0, rfl⟩, trivial⟩)⟩
        · have hsh := ite_f hsh h537
          obtain ⟨rv619, hsh, h620⟩ := map_t hsh
          have h620 := hd532 _ h620.symm
          subst h620
          refine wp_exit ?_
          refine then_exit ?_
          refine then_exit ?_
          refine blk_exit ?_
          refine then_normal ?_
          refine wp_seq ?_
          refine wp_region_lit ?_
          refine st_val hs (y_move rfl) trivial rfl rfl fun a hs => ?_
          refine st_val hs (y_fieldAddr (o' := 2) Try.runUnderlying28 rfl Try.sizeOf3 rfl rfl rfl) trivial rfl rfl fun a hs => ?_
          refine st_val hs (y_loadB1 (hw.ownAt 0 rfl) rfl Try.isAgg3 rfl) trivial rfl rfl fun a hs => ?_
          refine st_val hs (y_convert Try.runUnderlying3 Try.runUnderlying30 rfl) trivial rfl rfl fun a hs => ?_
          obtain ⟨shl618, h617, hsh⟩ := bind_t hsh
          refine st_val hs (y_shlM rfl rfl h617) trivial rfl rfl fun a hs => ?_
          refine st_val hs (y_leq rfl rfl) trivial rfl rfl fun a hs => ?_
          refine st_val hs (y_assign rfl) trivial rfl rfl fun a hs => ?_
          refine wpList_nil ?_
          refine then_normal ?_
          have hsh := Option.some.inj hsh
          subst hsh
          refine wp_ret ?_
          exact ret1 hs rfl (rv_tmp rfl) (hw.ret rfl)

end Go.Proofs.Ytmihimhknllmcaa.Wk

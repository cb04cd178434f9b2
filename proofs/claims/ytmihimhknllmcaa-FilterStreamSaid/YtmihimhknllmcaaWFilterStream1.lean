/- The walks of FilterStream, part 1: each Go function computes what its plain program computes. Printed by a program of ours. -/
import Derived.Test.YtmihimhknllmcaaProg
import Derived.Test.YtmihimhknllmcaaDat
import Derived.Test.YtmihimhknllmcaaSh
import Derived.Test.YtmihimhknllmcaaLibJ
import Derived.KernelRfl
namespace Go.Proofs.Ytmihimhknllmcaa.Wk
open Go Go.RowKit Go.Proofs Go.Proofs.Ytmihimhknllmcaa.Sh
set_option linter.unusedVariables false
set_option linter.unusedSimpArgs false

theorem El22 : ElT Try.prog 22 3 1 8 (.int .i64 0) := ⟨Try.underlying22, ⟨Try.t3, info_of Try.type3, rfl, rfl, rfl⟩, rfl, by decide⟩
theorem El69 : ElT Try.prog 69 22 1 24 (.slice none ([] : List Int).length 0) := ⟨Try.underlying69, ⟨Try.t22, info_of Try.type22, rfl, rfl, rfl⟩, rfl, by decide⟩
theorem Bld28 : BldT Try.prog 28 ((#[(0, 1), (1, 1), (2, 1)] : Array (Nat × Nat))[·]?) [.slice none ([] : List Int).length 0, .int .i64 0, .int .i64 0] := bld_of Try.zeroValue28 rfl Try.runUnderlying28 (fun w => by simp [Try.sizeOf3, Try.sizeOf22])
theorem Bld51 : BldT Try.prog 51 ((#[(0, 3), (3, 1), (4, 1)] : Array (Nat × Nat))[·]?) [.slice none ([] : List Int).length 0, .int .i64 0, .int .i64 0, .slice none ([] : List Int).length 0, .int .i64 0] := bld_of Try.zeroValue51 rfl Try.runUnderlying51 (fun w => by simp [Try.sizeOf3, Try.sizeOf22, Try.sizeOf28])
theorem Bld75 : BldT Try.prog 75 ((#[(0, 1), (1, 1)] : Array (Nat × Nat))[·]?) [.slice none ([] : List Int).length 0, .int .i64 0] := bld_of Try.zeroValue75 rfl Try.runUnderlying75 (fun w => by simp [Try.sizeOf3, Try.sizeOf22])

abbrev made_Light_rd (w0 : World) (r : Bool) : (Nat → Prop) → World → Value → Prop := fun S w v => v = .bool r
set_option maxHeartbeats 4000000 in
set_option maxRecDepth 100000 in
theorem made_Light_ok {w0 : World} {S0 : Nat → Prop} {p2 : Option Addr} {k3 : Nat} {l1 : (List Int)} {r : Bool} (hsh : made_Light l1 = some r) (hS : ∀ b, S0 b → b < w0.heap.size) (h4 : (SlA p2 l1.length k3 l1).p S0 w0) : Calls Try.prog 10 #[.slice p2 l1.length k3] w0 (Ret [] w0 S0 (made_Light_rd w0 r)) := by
  refine calls_of_wp Try.func10 rfl ?_
  have hs := Sl.enter #[.slice p2 l1.length k3] 6 [(0, .slice p2 l1.length k3)] rfl ⟨rfl, trivial⟩
  have hw := Wd.enter (E := []) hS (fun _ h => (by cases h))
  have hw := hw.addE h4
  delta made_Light at hsh
  refine wp_seq ?_
  refine wp_region_lit ?_
  refine st_val hs (y_assign rfl) trivial rfl rfl fun a hs => ?_
  refine wpList_nil ?_
  refine then_normal ?_
  refine wp_seq ?_
  refine wp_region_lit ?_
  refine st_val hs (y_move rfl) trivial rfl rfl fun a hs => ?_
  refine st_val hs (y_len Try.runUnderlying22 rfl) trivial rfl rfl fun a hs => ?_
  refine st_val hs (y_leq rfl rfl) trivial rfl rfl fun a hs => ?_
  refine st_val hs (y_assign rfl) trivial rfl rfl fun a hs => ?_
  refine wpList_nil ?_
  refine then_normal ?_
  have hsh := Option.some.inj hsh
  subst hsh
  refine wp_ret ?_
  exact ret1 hs rfl (rv_tmp rfl) (hw.ret rfl)

abbrev filter_in_rd (w0 : World) (r : Bool) : (Nat → Prop) → World → Value → Prop := fun S w v => v = .bool r
set_option maxHeartbeats 4000000 in
set_option maxRecDepth 100000 in
theorem filter_in_ok {w0 : World} {S0 : Nat → Prop} {n1 : Int} {low2 : Int} {high3 : Int} {r : Bool} (hsh : filter_in n1 low2 high3 = some r) (hS : ∀ b, S0 b → b < w0.heap.size) : Calls Try.prog 46 #[.int .i64 n1, .int .i64 low2, .int .i64 high3] w0 (Ret [] w0 S0 (filter_in_rd w0 r)) := by
  refine calls_of_wp Try.func46 rfl ?_
  have hs := Sl.enter #[.int .i64 n1, .int .i64 low2, .int .i64 high3] 15 [(0, .int .i64 n1), (1, .int .i64 low2), (2, .int .i64 high3)] rfl ⟨rfl, rfl, rfl, trivial⟩
  have hw := Wd.enter (E := []) hS (fun _ h => (by cases h))
  delta filter_in at hsh
  refine wp_seq ?_
  refine wp_region_lit ?_
  refine st_val hs (y_assign rfl) trivial rfl rfl fun a hs => ?_
  refine wpList_nil ?_
  refine then_normal ?_
  refine wp_seq ?_
  refine wp_region_lit ?_
  refine st_val hs (y_move rfl) trivial rfl rfl fun a hs => ?_
  refine st_val hs (y_move rfl) trivial rfl rfl fun a hs => ?_
  refine st_val hs (y_geq rfl rfl) trivial rfl rfl fun a hs => ?_
  refine st_val hs (y_move rfl) trivial rfl rfl fun a hs => ?_
  refine wpl_join 4 (fun a w1 => w0 = w1 ∧ Sl 15 [(14, .bool ((decide (low2 ≤ n1)) && (decide (n1 ≤ high3))))] a) ?_ ?_
  · rcases Bool.eq_false_or_eq_true (decide (low2 ≤ n1)) with h4 | h4
    · have hs := hs.fix 10 (.bool true) rfl (vb h4)
      refine st_val hs (y_move rfl) ⟨_, rfl, rfl⟩ rfl rfl fun a hs => ?_
      refine st_val hs (y_move rfl) ⟨_, rfl, rfl⟩ rfl rfl fun a hs => ?_
      refine st_val hs (y_leq rfl rfl) ⟨_, rfl, rfl⟩ rfl rfl fun a hs => ?_
      refine st_val hs (y_pickT rfl rfl) trivial rfl rfl fun a hs => ?_
      refine wpList_nil ?_
      refine then_normal ?_
      exact ⟨rfl, (hs.fix 14 (.bool ((decide (low2 ≤ n1)) && (decide (n1 ≤ high3)))) rfl (and_t h4)).weaken _ ⟨rfl, trivial⟩⟩
    · have hs := hs.fix 10 (.bool false) rfl (vb h4)
      refine st_skip hs rfl rfl rfl rfl rfl fun a hs => ?_
      refine st_skip hs rfl rfl rfl rfl rfl fun a hs => ?_
      refine st_skip hs rfl rfl rfl rfl rfl fun a hs => ?_
      refine st_val hs (y_pickF rfl rfl) trivial rfl rfl fun a hs => ?_
      refine wpList_nil ?_
      refine then_normal ?_
      exact ⟨rfl, (hs.fix 14 (.bool ((decide (low2 ≤ n1)) && (decide (n1 ≤ high3)))) rfl (and_f h4)).weaken _ ⟨rfl, trivial⟩⟩
  · rintro a w1 ⟨h5, hs⟩
    subst h5
    refine st_val hs (y_assign rfl) trivial rfl rfl fun a hs => ?_
    refine wpList_nil ?_
    refine then_normal ?_
    have hsh := Option.some.inj hsh
    subst hsh
    refine wp_ret ?_
    exact ret1 hs rfl (rv_tmp rfl) (hw.ret rfl)

abbrev filter_Valid_rd (w0 : World) (r : Bool) : (Nat → Prop) → World → Value → Prop := fun S w v => v = .bool r
set_option maxHeartbeats 4000000 in
set_option maxRecDepth 100000 in
theorem filter_Valid_ok {w0 : World} {S0 : Nat → Prop} {p2 : Option Addr} {k3 : Nat} {f1 : Filter} {r : Bool} (hsh : filter_Valid f1 = some r) (hS : ∀ b, S0 b → b < w0.heap.size) (h4 : (SlA p2 f1.Taps.length k3 f1.Taps).p S0 w0) : Calls Try.prog 32 #[.agg #[.slice p2 f1.Taps.length k3, .int .i64 f1.Factor, .int .i64 f1.Shift]] w0 (Ret [] w0 S0 (filter_Valid_rd w0 r)) := by
  refine calls_of_wp Try.func32 rfl ?_
  have hs := Sl.enter #[.agg #[.slice p2 f1.Taps.length k3, .int .i64 f1.Factor, .int .i64 f1.Shift]] 45 [(0, .agg #[.slice p2 f1.Taps.length k3, .int .i64 f1.Factor, .int .i64 f1.Shift])] rfl ⟨rfl, trivial⟩
  have hw := Wd.enter (E := []) hS (fun _ h => (by cases h))
  have hw := hw.addE h4
  delta filter_Valid at hsh
  refine wp_seq ?_
  refine wp_region_lit ?_
  refine w_box (cs := [.slice p2 f1.Taps.length k3, .int .i64 f1.Factor, .int .i64 f1.Shift]) hs hw rfl rfl rfl trivial ?_
  intro b5 a w hs hw
  refine st_val hs (y_assign rfl) trivial rfl rfl fun a hs => ?_
  refine wpList_nil ?_
  refine then_normal ?_
  refine wp_seq ?_
  refine wp_seq ?_
  refine wp_region_lit ?_
  refine st_val hs (y_fieldAddr (o' := 0) Try.runUnderlying28 rfl Try.sizeOf22 rfl rfl rfl) trivial rfl rfl fun a hs => ?_
  refine st_val hs (y_loadB1 (hw.ownAt 0 rfl) rfl Try.isAgg22 rfl) trivial rfl rfl fun a hs => ?_
  refine st_val hs (y_len Try.runUnderlying22 rfl) trivial rfl rfl fun a hs => ?_
  obtain ⟨rv7, h6, hsh⟩ := bind_t hsh
  refine st_callR hs (filter_in_ok h6 hw.dom) (do_call Try.call46 rfl) trivial rfl rfl ?_
  intro v11 Sv8 w a h9 h10 hs
  subst h10
  have hw := hw.call h9
  refine st_val hs (y_not rfl) trivial rfl rfl fun a hs => ?_
  refine st_val hs (y_move rfl) trivial rfl rfl fun a hs => ?_
  obtain ⟨c19, hc19, hsh⟩ := bind_t hsh
  refine wpl_join 5 (fun a w => ∃ (Sv20 : Nat → Prop), Sl 45 [(1, .pointer (some ⟨b5, 0, none⟩)), (16, .bool c19)] a ∧ Wd ⟨w0, S0, []⟩ Sv20 [.box b5 [.slice p2 f1.Taps.length k3, .int .i64 f1.Factor, .int .i64 f1.Shift] 28] [SlA p2 f1.Taps.length k3 f1.Taps] w) ?_ ?_
  · rcases Bool.eq_false_or_eq_true (!rv7) with h18 | h18
    · have hs := hs.fix 11 (.bool true) rfl (vb h18)
      have hsh := ite_t hc19 h18
      refine st_skip hs rfl rfl rfl rfl rfl fun a hs => ?_
      refine st_skip hs rfl rfl rfl rfl rfl fun a hs => ?_
      refine st_skip hs rfl rfl rfl rfl rfl fun a hs => ?_
      refine st_skip hs rfl rfl rfl rfl rfl fun a hs => ?_
      refine st_val hs (y_pickT rfl rfl) trivial rfl rfl fun a hs => ?_
      refine wpList_nil ?_
      have hsh := Option.some.inj hsh
      subst hsh
      refine then_normal ?_
      exact ⟨Sv8, (hs.weaken _ ⟨rfl, rfl, trivial⟩), (hw.fit [0] (by decide) ⟨rfl, trivial⟩ ⟨⟨0, rfl⟩, trivial⟩)⟩
    · have hs := hs.fix 11 (.bool false) rfl (vb h18)
      have hsh := ite_f hc19 h18
      refine st_val hs (y_fieldAddr (o' := 2) Try.runUnderlying28 rfl Try.sizeOf3 rfl rfl rfl) ⟨_, rfl, rfl⟩ rfl rfl fun a hs => ?_
      refine st_val hs (y_loadB1 (hw.ownAt 0 rfl) rfl Try.isAgg3 rfl) ⟨_, rfl, rfl⟩ rfl rfl fun a hs => ?_
      obtain ⟨rv22, h21, hsh⟩ := bind_t hsh
      refine st_callR hs (filter_in_ok h21 hw.dom) (do_call Try.call46 rfl) ⟨_, rfl, rfl⟩ rfl rfl ?_
      intro v26 Sv23 w a h24 h25 hs
      subst h25
      have hw := hw.call h24
      refine st_val hs (y_not rfl) ⟨_, rfl, rfl⟩ rfl rfl fun a hs => ?_
      refine st_val hs (y_pickF rfl rfl) trivial rfl rfl fun a hs => ?_
      refine wpList_nil ?_
      have hsh := Option.some.inj hsh
      subst hsh
      refine then_normal ?_
      exact ⟨Sv23, (hs.weaken _ ⟨rfl, rfl, trivial⟩), (hw.fit [0] (by decide) ⟨rfl, trivial⟩ ⟨⟨0, rfl⟩, trivial⟩)⟩
  · rintro a w ⟨Sv20, hs, hw⟩
    refine st_val hs (y_move rfl) trivial rfl rfl fun a hs => ?_
    obtain ⟨c34, hc34, hsh⟩ := bind_t hsh
    refine wpl_join 5 (fun a w => ∃ (Sv35 : Nat → Prop), Sl 45 [(1, .pointer (some ⟨b5, 0, none⟩)), (22, .bool c34)] a ∧ Wd ⟨w0, S0, []⟩ Sv35 [.box b5 [.slice p2 f1.Taps.length k3, .int .i64 f1.Factor, .int .i64 f1.Shift] 28] [SlA p2 f1.Taps.length k3 f1.Taps] w) ?_ ?_
    · rcases Bool.eq_false_or_eq_true c19 with h33 | h33
      · have hs := hs.fix 17 (.bool true) rfl (vb h33)
        have hsh := ite_t hc34 h33
        refine st_skip hs rfl rfl rfl rfl rfl fun a hs => ?_
        refine st_skip hs rfl rfl rfl rfl rfl fun a hs => ?_
        refine st_skip hs rfl rfl rfl rfl rfl fun a hs => ?_
        refine st_skip hs rfl rfl rfl rfl rfl fun a hs => ?_
        refine st_val hs (y_pickT rfl rfl) trivial rfl rfl fun a hs => ?_
        refine wpList_nil ?_
        have hsh := Option.some.inj hsh
        subst hsh
        refine then_normal ?_
        exact ⟨Sv20, (hs.weaken _ ⟨rfl, rfl, trivial⟩), (hw.fit [0] (by decide) ⟨rfl, trivial⟩ ⟨⟨0, rfl⟩, trivial⟩)⟩
      · have hs := hs.fix 17 (.bool false) rfl (vb h33)
        have hsh := ite_f hc34 h33
        refine st_val hs (y_fieldAddr (o' := 1) Try.runUnderlying28 rfl Try.sizeOf3 rfl rfl rfl) ⟨_, rfl, rfl⟩ rfl rfl fun a hs => ?_
        refine st_val hs (y_loadB1 (hw.ownAt 0 rfl) rfl Try.isAgg3 rfl) ⟨_, rfl, rfl⟩ rfl rfl fun a hs => ?_
        obtain ⟨rv37, h36, hsh⟩ := bind_t hsh
        refine st_callR hs (filter_in_ok h36 hw.dom) (do_call Try.call46 rfl) ⟨_, rfl, rfl⟩ rfl rfl ?_
        intro v41 Sv38 w a h39 h40 hs
        subst h40
        have hw := hw.call h39
        refine st_val hs (y_not rfl) ⟨_, rfl, rfl⟩ rfl rfl fun a hs => ?_
        refine st_val hs (y_pickF rfl rfl) trivial rfl rfl fun a hs => ?_
        refine wpList_nil ?_
        have hsh := Option.some.inj hsh
        subst hsh
        refine then_normal ?_
        exact ⟨Sv38, (hs.weaken _ ⟨rfl, rfl, trivial⟩), (hw.fit [0] (by decide) ⟨rfl, trivial⟩ ⟨⟨0, rfl⟩, trivial⟩)⟩
    · rintro a w ⟨Sv35, hs, hw⟩
      refine wpList_nil ?_
      refine then_normal ?_
      refine wp_cond_split (hs.ev rfl) (fun h43 => ?_) (fun h43 => ?_)
      · have hsh := ite_t hsh h43
        refine wp_seq ?_
        refine wp_region_lit ?_
        refine st_val hs (y_assign rfl) trivial rfl rfl fun a hs => ?_
        refine wpList_nil ?_
        refine then_normal ?_
        have hsh := Option.some.inj hsh
        subst hsh
        refine wp_ret ?_
        refine then_ret ?_
        exact ret1 hs rfl (rv_tmp rfl) (hw.ret rfl)
      · have hsh := ite_f hsh h43
        refine wp_skip ?_
        refine then_normal ?_
        refine wp_seq ?_
        refine wp_region_lit ?_
        refine st_val hs (y_assign rfl) trivial rfl rfl fun a hs => ?_
        refine wpList_nil ?_
        refine then_normal ?_
        refine wp_seq ?_
        refine wp_seq ?_
        refine wp_region_lit ?_
        refine st_val hs (y_fieldAddr (o' := 0) Try.runUnderlying28 rfl Try.sizeOf22 rfl rfl rfl) trivial rfl rfl fun a hs => ?_
        refine st_val hs (y_loadB1 (hw.ownAt 0 rfl) rfl Try.isAgg22 rfl) trivial rfl rfl fun a hs => ?_
        refine st_val hs (y_len Try.runUnderlying22 rfl) trivial rfl rfl fun a hs => ?_
        refine st_val hs (y_move rfl) trivial rfl rfl fun a hs => ?_
        refine wpList_nil ?_
        refine then_normal ?_
        refine wp_block ?_
        refine wp_while (fun sv181 a w => ∃ (Sv271 : Nat → Prop), Sl 45 [(1, .pointer (some ⟨b5, 0, none⟩)), (3, .int .i64 sv181.1), (24, .slice p2 f1.Taps.length k3), (25, .int .i64 (f1.Taps.length : Int)), (26, .int .i64 sv181.2)] a ∧ Wd ⟨w0, S0, []⟩ Sv271 [.box b5 [.slice p2 f1.Taps.length k3, .int .i64 f1.Factor, .int .i64 f1.Shift] 28] [SlA p2 f1.Taps.length k3 f1.Taps] w) (0, 0) hsh ⟨Sv35, (hs.weaken _ ⟨rfl, rfl, rfl, rfl, rfl, trivial⟩), (hw.fit [0] (by decide) ⟨rfl, trivial⟩ ⟨⟨0, rfl⟩, trivial⟩)⟩ ?_
        repeat clear hsh
        rintro sv181 a w tv317 ⟨Sv271, hs, hw⟩ hsh hd316
        delta filter_Valid_l2 at hsh
        refine wp_seq ?_
        refine wp_region_lit ?_
        refine st_val hs (y_lss rfl rfl) trivial rfl rfl fun a hs => ?_
        refine wpList_nil ?_
        refine then_normal ?_
        refine wp_seq ?_
        refine wp_cond_split (hs.ev rfl) (fun h321 => ?_) (fun h321 => ?_)
        · have hsh := ite_t hsh h321
          refine wp_skip ?_
          refine then_normal ?_
          refine wp_seq ?_
          refine wp_block ?_
          refine wp_seq ?_
          refine wp_region_lit ?_
          obtain ⟨x345, h343, hsh⟩ := bind_t hsh
          obtain ⟨b351, o352, q349, c350, h353, h346, h347, h348, h344⟩ := hw.elemV 0 rfl h343
          subst h353
          obtain ⟨_, rfl, rfl⟩ := h344
          have hw := hw.addE h348
          refine st_val hs (y_indexAt Try.runUnderlying22 Try.sizeOf3 rfl rfl h346.1 h346.2 h347) trivial rfl rfl fun a hs => ?_
          refine st_val hs (y_loadE1 (j := 0) (hw.ceAt 0 rfl) rfl Try.isAgg3 rfl) trivial rfl rfl fun a hs => ?_
          refine st_val hs (y_assign rfl) trivial rfl rfl fun a hs => ?_
          refine wpList_nil ?_
          refine then_normal ?_
          refine wp_seq ?_
          refine wp_seq ?_
          refine wp_region_lit ?_
          refine st_val hs (y_move rfl) trivial rfl rfl fun a hs => ?_
          obtain ⟨rv355, h354, hsh⟩ := bind_t hsh
          refine st_callR hs (filter_in_ok h354 hw.dom) (do_call Try.call46 rfl) trivial rfl rfl ?_
          intro v359 Sv356 w a h357 h358 hs
          subst h358
          have hw := hw.call h357
          refine st_val hs (y_not rfl) trivial rfl rfl fun a hs => ?_
          refine wpList_nil ?_
          refine then_normal ?_
          refine wp_cond_split (hs.ev rfl) (fun h361 => ?_) (fun h361 => ?_)
          · have hsh := ite_t hsh h361
            refine wp_seq ?_
            refine wp_region_lit ?_
            refine st_val hs (y_assign rfl) trivial rfl rfl fun a hs => ?_
            refine wpList_nil ?_
            refine then_normal ?_
            have hsh := Option.some.inj hsh
            subst hsh
            have h362 := hd316 _ rfl
            subst h362
            refine wp_ret ?_
            refine then_ret ?_
            refine blk_ret ?_
            refine then_ret ?_
            refine then_ret ?_
            refine blk_ret ?_
            refine then_ret ?_
            exact ret1 hs rfl (rv_tmp rfl) (hw.ret rfl)
          · have hsh := ite_f hsh h361
            refine wp_skip ?_
            refine then_normal ?_
            refine wp_region_lit ?_
            refine st_val hs (y_move rfl) trivial rfl rfl fun a hs => ?_
            refine st_val hs (y_move rfl) trivial rfl rfl fun a hs => ?_
            refine st_val hs (y_move rfl) trivial rfl rfl fun a hs => ?_
            refine st_val hs (y_neg rfl) trivial rfl rfl fun a hs => ?_
            refine st_val hs (y_max rfl rfl) trivial rfl rfl fun a hs => ?_
            refine st_val hs (y_add rfl rfl) trivial rfl rfl fun a hs => ?_
            obtain ⟨sum364, h363, hsh⟩ := bind_t hsh
            refine st_val hs (y_assignI rfl h363) trivial rfl rfl fun a hs => ?_
            refine wpList_nil ?_
            refine blk_normal ?_
            refine then_normal ?_
            refine wp_region_lit ?_
            refine st_val hs (y_add rfl rfl) trivial rfl rfl fun a hs => ?_
            refine st_val hs (y_move rfl) trivial rfl rfl fun a hs => ?_
            refine wpList_nil ?_
            refine then_normal ?_
            exact ⟨_, (Option.some.inj hsh).symm, Sv356, (hs.weaken _ ⟨rfl, rfl, rfl, rfl, rfl, trivial⟩), (hw.fit [0] (by decide) ⟨rfl, trivial⟩ ⟨⟨1, rfl⟩, trivial⟩)⟩
        · have hsh := ite_f hsh h321
          obtain ⟨rv367, hsh, h368⟩ := map_t hsh
          have h368 := hd316 _ h368.symm
          subst h368
          refine wp_exit ?_
          refine then_exit ?_
          refine then_exit ?_
          refine blk_exit ?_
          refine then_normal ?_
          refine wp_seq ?_
          refine wp_region_lit ?_
          refine st_val hs (y_move rfl) trivial rfl rfl fun a hs => ?_
          refine st_val hs (y_fieldAddr (o' := 2) Try.runUnderlying28 rfl Try.sizeOf3 rfl rfl rfl) trivial rfl rfl fun a hs => ?_
          refine st_val hs (y_loadB1 (hw.ownAt 0 rfl) rfl Try.isAgg3 rfl) trivial rfl rfl fun a hs => ?_
          obtain ⟨shl366, h365, hsh⟩ := bind_t hsh
          refine st_val hs (y_shlM rfl rfl h365) trivial rfl rfl fun a hs => ?_
          refine st_val hs (y_leq rfl rfl) trivial rfl rfl fun a hs => ?_
          refine st_val hs (y_assign rfl) trivial rfl rfl fun a hs => ?_
          refine wpList_nil ?_
          refine then_normal ?_
          have hsh := Option.some.inj hsh
          subst hsh
          refine wp_ret ?_
          exact ret1 hs rfl (rv_tmp rfl) (hw.ret rfl)

abbrev slices_IndexFunc_Lint_int_rd (w0 : World) (r : Int) : (Nat → Prop) → World → Value → Prop := fun S w v => v = .int .i64 r
set_option maxHeartbeats 4000000 in
set_option maxRecDepth 100000 in
theorem slices_IndexFunc_Lint_int_ok {w0 : World} {S0 : Nat → Prop} {p2 : Option Addr} {k3 : Nat} {g6 : Nat} {f7 : List Value} {cp8 : List Value} {s1 : (List Int)} {f5 : Int → Option Bool} {r : Int} (hsh : slices_IndexFunc_Lint_int s1 f5 = some r) (hS : ∀ b, S0 b → b < w0.heap.size) (h4 : (SlA p2 s1.length k3 s1).p S0 w0) (h9 : FnOk1 Try.prog g6 f7 cp8 f5) : Calls Try.prog 72 #[.slice p2 s1.length k3, .func (.func g6) f7.toArray cp8.toArray] w0 (Ret [] w0 S0 (slices_IndexFunc_Lint_int_rd w0 r)) := by
  refine calls_of_wp Try.func72 rfl ?_
  have hs := Sl.enter #[.slice p2 s1.length k3, .func (.func g6) f7.toArray cp8.toArray] 19 [(0, .slice p2 s1.length k3), (1, .func (.func g6) f7.toArray cp8.toArray)] rfl ⟨rfl, rfl, trivial⟩
  have hw := Wd.enter (E := []) hS (fun _ h => (by cases h))
  have hw := hw.addE h4
  delta slices_IndexFunc_Lint_int at hsh
  refine wp_seq ?_
  refine wp_region_lit ?_
  refine st_val hs (y_assign rfl) trivial rfl rfl fun a hs => ?_
  refine wpList_nil ?_
  refine then_normal ?_
  refine wp_seq ?_
  refine wp_seq ?_
  refine wp_region_lit ?_
  refine st_val hs (y_move rfl) trivial rfl rfl fun a hs => ?_
  refine st_val hs (y_len Try.runUnderlying22 rfl) trivial rfl rfl fun a hs => ?_
  refine st_val hs (y_move rfl) trivial rfl rfl fun a hs => ?_
  refine wpList_nil ?_
  refine then_normal ?_
  refine wp_block ?_
  refine wp_while (fun sv135 a w => ∃ (Sv217 : Nat → Prop), Sl 19 [(0, .slice p2 s1.length k3), (1, .func (.func g6) f7.toArray cp8.toArray), (7, .int .i64 (s1.length : Int)), (8, .int .i64 sv135)] a ∧ Wd ⟨w0, S0, []⟩ Sv217 [] [SlA p2 s1.length k3 s1] w) 0 hsh ⟨S0, (hs.weaken _ ⟨rfl, rfl, rfl, rfl, trivial⟩), (hw.fit [] (by decide) trivial ⟨⟨0, rfl⟩, trivial⟩)⟩ ?_
  repeat clear hsh
  rintro sv135 a w tv259 ⟨Sv217, hs, hw⟩ hsh hd258
  delta slices_IndexFunc_Lint_int_l2 at hsh
  refine wp_seq ?_
  refine wp_region_lit ?_
  refine st_val hs (y_lss rfl rfl) trivial rfl rfl fun a hs => ?_
  refine wpList_nil ?_
  refine then_normal ?_
  refine wp_seq ?_
  refine wp_cond_split (hs.ev rfl) (fun h263 => ?_) (fun h263 => ?_)
  · have hsh := ite_t hsh h263
    refine wp_skip ?_
    refine then_normal ?_
    refine wp_seq ?_
    refine wp_block ?_
    refine wp_seq ?_
    refine wp_region_lit ?_
    refine st_val hs (y_move rfl) trivial rfl rfl fun a hs => ?_
    refine st_val hs (y_assign rfl) trivial rfl rfl fun a hs => ?_
    refine wpList_nil ?_
    refine then_normal ?_
    refine wp_seq ?_
    refine wp_region_lit ?_
    refine st_val hs (y_move rfl) trivial rfl rfl fun a hs => ?_
    refine st_val hs (y_move rfl) trivial rfl rfl fun a hs => ?_
    refine st_val hs (y_move rfl) trivial rfl rfl fun a hs => ?_
    obtain ⟨x285, h283, hsh⟩ := bind_t hsh
    obtain ⟨b291, o292, q289, c290, h293, h286, h287, h288, h284⟩ := hw.elemV 0 rfl h283
    subst h293
    obtain ⟨_, rfl, rfl⟩ := h284
    have hw := hw.addE h288
    refine st_val hs (y_indexAt Try.runUnderlying22 Try.sizeOf3 rfl rfl h286.1 h286.2 h287) trivial rfl rfl fun a hs => ?_
    refine st_val hs (y_loadE1 (j := 0) (hw.ceAt 0 rfl) rfl Try.isAgg3 rfl) trivial rfl rfl fun a hs => ?_
    obtain ⟨rv295, h294, hsh⟩ := bind_t hsh
    refine st_callR hs (h9.2 hw.dom ⟨_, rfl, rfl⟩ h294) (do_callF h9.1 rfl rfl) trivial rfl rfl ?_
    intro v299 Sv296 w a h297 h298 hs
    subst h298
    have hw := hw.call h297
    refine wpList_nil ?_
    refine then_normal ?_
    refine wp_cond_split (hs.ev rfl) (fun h301 => ?_) (fun h301 => ?_)
    · have hsh := ite_t hsh h301
      refine wp_seq ?_
      refine wp_region_lit ?_
      refine st_val hs (y_move rfl) trivial rfl rfl fun a hs => ?_
      refine st_val hs (y_assign rfl) trivial rfl rfl fun a hs => ?_
      refine wpList_nil ?_
      refine then_normal ?_
      have hsh := Option.some.inj hsh
      subst hsh
      have h302 := hd258 _ rfl
      subst h302
      refine wp_ret ?_
      refine blk_ret ?_
      refine then_ret ?_
      refine then_ret ?_
      refine blk_ret ?_
      refine then_ret ?_
      exact ret1 hs rfl (rv_tmp rfl) (hw.ret rfl)
    · have hsh := ite_f hsh h301
      refine wp_skip ?_
      refine blk_normal ?_
      refine then_normal ?_
      refine wp_region_lit ?_
      refine st_val hs (y_add rfl rfl) trivial rfl rfl fun a hs => ?_
      refine st_val hs (y_move rfl) trivial rfl rfl fun a hs => ?_
      refine wpList_nil ?_
      refine then_normal ?_
      exact ⟨_, (Option.some.inj hsh).symm, Sv296, (hs.weaken _ ⟨rfl, rfl, rfl, rfl, trivial⟩), (hw.fit [] (by decide) trivial ⟨⟨1, rfl⟩, trivial⟩)⟩
  · have hsh := ite_f hsh h263
    obtain ⟨rv303, hsh, h304⟩ := map_t hsh
    have h304 := hd258 _ h304.symm
    subst h304
    refine wp_exit ?_
    refine then_exit ?_
    refine then_exit ?_
    refine blk_exit ?_
    refine then_normal ?_
    refine wp_seq ?_
    refine wp_region_lit ?_
    refine st_val hs (y_assign rfl) trivial rfl rfl fun a hs => ?_
    refine wpList_nil ?_
    refine then_normal ?_
    have hsh := Option.some.inj hsh
    subst hsh
    refine wp_ret ?_
    exact ret1 hs rfl (rv_tmp rfl) (hw.ret rfl)

abbrev slices_ContainsFunc_Lint_int_rd (w0 : World) (r : Bool) : (Nat → Prop) → World → Value → Prop := fun S w v => v = .bool r
set_option maxHeartbeats 4000000 in
set_option maxRecDepth 100000 in
theorem slices_ContainsFunc_Lint_int_ok {w0 : World} {S0 : Nat → Prop} {p2 : Option Addr} {k3 : Nat} {g6 : Nat} {f7 : List Value} {cp8 : List Value} {s1 : (List Int)} {f5 : Int → Option Bool} {r : Bool} (hsh : slices_ContainsFunc_Lint_int s1 f5 = some r) (hS : ∀ b, S0 b → b < w0.heap.size) (h4 : (SlA p2 s1.length k3 s1).p S0 w0) (h9 : FnOk1 Try.prog g6 f7 cp8 f5) : Calls Try.prog 55 #[.slice p2 s1.length k3, .func (.func g6) f7.toArray cp8.toArray] w0 (Ret [] w0 S0 (slices_ContainsFunc_Lint_int_rd w0 r)) := by
  refine calls_of_wp Try.func55 rfl ?_
  have hs := Sl.enter #[.slice p2 s1.length k3, .func (.func g6) f7.toArray cp8.toArray] 9 [(0, .slice p2 s1.length k3), (1, .func (.func g6) f7.toArray cp8.toArray)] rfl ⟨rfl, rfl, trivial⟩
  have hw := Wd.enter (E := []) hS (fun _ h => (by cases h))
  have hw := hw.addE h4
  delta slices_ContainsFunc_Lint_int at hsh
  refine wp_seq ?_
  refine wp_region_lit ?_
  refine st_val hs (y_assign rfl) trivial rfl rfl fun a hs => ?_
  refine wpList_nil ?_
  refine then_normal ?_
  refine wp_seq ?_
  refine wp_region_lit ?_
  refine st_val hs (y_move rfl) trivial rfl rfl fun a hs => ?_
  refine st_val hs (y_move rfl) trivial rfl rfl fun a hs => ?_
  obtain ⟨rv11, h10, hsh⟩ := bind_t hsh
  refine st_callR hs (slices_IndexFunc_Lint_int_ok h10 hw.dom (hw.envAt 0 rfl) h9) (do_call Try.call72 rfl) trivial rfl rfl ?_
  intro v15 Sv12 w a h13 h14 hs
  subst h14
  have hw := hw.call h13
  refine st_val hs (y_geq rfl rfl) trivial rfl rfl fun a hs => ?_
  refine st_val hs (y_assign rfl) trivial rfl rfl fun a hs => ?_
  refine wpList_nil ?_
  refine then_normal ?_
  have hsh := Option.some.inj hsh
  subst hsh
  refine wp_ret ?_
  exact ret1 hs rfl (rv_tmp rfl) (hw.ret rfl)

abbrev filter_wrong_rd (w0 : World) (r : Bool) : (Nat → Prop) → World → Value → Prop := fun S w v => v = .bool r
set_option maxHeartbeats 4000000 in
set_option maxRecDepth 100000 in
theorem filter_wrong_ok {w0 : World} {S0 : Nat → Prop} {n1 : Int} {r : Bool} (hsh : filter_wrong n1 = some r) (hS : ∀ b, S0 b → b < w0.heap.size) : Calls Try.prog 56 #[.int .i64 n1] w0 (Ret [] w0 S0 (filter_wrong_rd w0 r)) := by
  refine calls_of_wp Try.func56 rfl ?_
  have hs := Sl.enter #[.int .i64 n1] 6 [(0, .int .i64 n1)] rfl ⟨rfl, trivial⟩
  have hw := Wd.enter (E := []) hS (fun _ h => (by cases h))
  delta filter_wrong at hsh
  refine wp_seq ?_
  refine wp_region_lit ?_
  refine st_val hs (y_assign rfl) trivial rfl rfl fun a hs => ?_
  refine wpList_nil ?_
  refine then_normal ?_
  refine wp_seq ?_
  refine wp_region_lit ?_
  refine st_val hs (y_move rfl) trivial rfl rfl fun a hs => ?_
  obtain ⟨rv3, h2, hsh⟩ := bind_t hsh
  refine st_callR hs (filter_in_ok h2 hw.dom) (do_call Try.call46 rfl) trivial rfl rfl ?_
  intro v7 Sv4 w a h5 h6 hs
  subst h6
  have hw := hw.call h5
  refine st_val hs (y_not rfl) trivial rfl rfl fun a hs => ?_
  refine st_val hs (y_assign rfl) trivial rfl rfl fun a hs => ?_
  refine wpList_nil ?_
  refine then_normal ?_
  have hsh := Option.some.inj hsh
  subst hsh
  refine wp_ret ?_
  exact ret1 hs rfl (rv_tmp rfl) (hw.ret rfl)

theorem filter_wrong_fn : FnOk1 Try.prog 56 [] [] filter_wrong := by
  refine ⟨Try.call56, fun hS h0 hf => ?_⟩
  obtain ⟨_, rfl, rfl⟩ := h0
  exact filter_wrong_ok hf hS 

abbrev filter_check_rd (w0 : World) (r : Int) : (Nat → Prop) → World → Value → Prop := fun S w v => v = .int .i64 r
set_option maxHeartbeats 4000000 in
set_option maxRecDepth 100000 in
theorem filter_check_ok {w0 : World} {S0 : Nat → Prop} {p2 : Option Addr} {k3 : Nat} {samples1 : (List Int)} {number5 : Int} {most6 : Int} {r : Int} (hsh : filter_check samples1 number5 most6 = some r) (hS : ∀ b, S0 b → b < w0.heap.size) (h4 : (SlA p2 samples1.length k3 samples1).p S0 w0) : Calls Try.prog 40 #[.slice p2 samples1.length k3, .int .i64 number5, .int .i64 most6] w0 (Ret [] w0 S0 (filter_check_rd w0 r)) := by
  refine calls_of_wp Try.func40 rfl ?_
  have hs := Sl.enter #[.slice p2 samples1.length k3, .int .i64 number5, .int .i64 most6] 18 [(0, .slice p2 samples1.length k3), (1, .int .i64 number5), (2, .int .i64 most6)] rfl ⟨rfl, rfl, rfl, trivial⟩
  have hw := Wd.enter (E := []) hS (fun _ h => (by cases h))
  have hw := hw.addE h4
  delta filter_check at hsh
  refine wp_seq ?_
  refine wp_region_lit ?_
  refine st_val hs (y_assign rfl) trivial rfl rfl fun a hs => ?_
  refine wpList_nil ?_
  refine then_normal ?_
  refine wp_seq ?_
  refine wp_seq ?_
  refine wp_region_lit ?_
  refine st_val hs (y_move rfl) trivial rfl rfl fun a hs => ?_
  refine st_val hs (y_move rfl) trivial rfl rfl fun a hs => ?_
  obtain ⟨rv8, h7, hsh⟩ := bind_t hsh
  refine st_callR hs (filter_in_ok h7 hw.dom) (do_call Try.call46 rfl) trivial rfl rfl ?_
  intro v12 Sv9 w a h10 h11 hs
  subst h11
  have hw := hw.call h10
  refine st_val hs (y_not rfl) trivial rfl rfl fun a hs => ?_
  refine st_val hs (y_move rfl) trivial rfl rfl fun a hs => ?_
  obtain ⟨c20, hc20, hsh⟩ := bind_t hsh
  refine wpl_join 3 (fun a w => ∃ (Sv21 : Nat → Prop), Sl 18 [(0, .slice p2 samples1.length k3), (14, .bool c20)] a ∧ Wd ⟨w0, S0, []⟩ Sv21 [] [SlA p2 samples1.length k3 samples1] w) ?_ ?_
  · rcases Bool.eq_false_or_eq_true (!rv8) with h19 | h19
    · have hs := hs.fix 11 (.bool true) rfl (vb h19)
      have hsh := ite_t hc20 h19
      refine st_skip hs rfl rfl rfl rfl rfl fun a hs => ?_
      refine st_skip hs rfl rfl rfl rfl rfl fun a hs => ?_
      refine st_val hs (y_pickT rfl rfl) trivial rfl rfl fun a hs => ?_
      refine wpList_nil ?_
      have hsh := Option.some.inj hsh
      subst hsh
      refine then_normal ?_
      exact ⟨Sv9, (hs.weaken _ ⟨rfl, rfl, trivial⟩), (hw.fit [] (by decide) trivial ⟨⟨0, rfl⟩, trivial⟩)⟩
    · have hs := hs.fix 11 (.bool false) rfl (vb h19)
      have hsh := ite_f hc20 h19
      refine st_val hs (y_move rfl) ⟨_, rfl, rfl⟩ rfl rfl fun a hs => ?_
      obtain ⟨rv23, h22, hsh⟩ := bind_t hsh
      refine st_callR hs (slices_ContainsFunc_Lint_int_ok h22 hw.dom (hw.envAt 0 rfl) filter_wrong_fn) (do_call Try.call55 rfl) ⟨_, rfl, rfl⟩ rfl rfl ?_
      intro v27 Sv24 w a h25 h26 hs
      subst h26
      have hw := hw.call h25
      refine st_val hs (y_pickF rfl rfl) trivial rfl rfl fun a hs => ?_
      refine wpList_nil ?_
      have hsh := Option.some.inj hsh
      subst hsh
      refine then_normal ?_
      exact ⟨Sv24, (hs.weaken _ ⟨rfl, rfl, trivial⟩), (hw.fit [] (by decide) trivial ⟨⟨0, rfl⟩, trivial⟩)⟩
  · rintro a w ⟨Sv21, hs, hw⟩
    refine wpList_nil ?_
    refine then_normal ?_
    refine wp_cond_split (hs.ev rfl) (fun h29 => ?_) (fun h29 => ?_)
    · have hsh := ite_t hsh h29
      refine wp_seq ?_
      refine wp_region_lit ?_
      refine st_val hs (y_assign rfl) trivial rfl rfl fun a hs => ?_
      refine wpList_nil ?_
      refine then_normal ?_
      have hsh := Option.some.inj hsh
      subst hsh
      refine wp_ret ?_
      refine then_ret ?_
      exact ret1 hs rfl (rv_tmp rfl) (hw.ret rfl)
    · have hsh := ite_f hsh h29
      refine wp_skip ?_
      refine then_normal ?_
      refine wp_seq ?_
      refine wp_seq ?_
      refine wp_region_lit ?_
      refine st_val hs (y_move rfl) trivial rfl rfl fun a hs => ?_
      refine st_val hs (y_len Try.runUnderlying22 rfl) trivial rfl rfl fun a hs => ?_
      refine st_val hs (y_gtr rfl rfl) trivial rfl rfl fun a hs => ?_
      refine wpList_nil ?_
      refine then_normal ?_
      refine wp_cond_split (hs.ev rfl) (fun h31 => ?_) (fun h31 => ?_)
      · have hsh := ite_t hsh h31
        refine wp_seq ?_
        refine wp_region_lit ?_
        refine st_val hs (y_assign rfl) trivial rfl rfl fun a hs => ?_
        refine wpList_nil ?_
        refine then_normal ?_
        have hsh := Option.some.inj hsh
        subst hsh
        refine wp_ret ?_
        refine then_ret ?_
        exact ret1 hs rfl (rv_tmp rfl) (hw.ret rfl)
      · have hsh := ite_f hsh h31
        refine wp_skip ?_
        refine then_normal ?_
        refine wp_seq ?_
        refine wp_region_lit ?_
        refine st_val hs (y_assign rfl) trivial rfl rfl fun a hs => ?_
        refine wpList_nil ?_
        refine then_normal ?_
        have hsh := Option.some.inj hsh
        subst hsh
        refine wp_ret ?_
        exact ret1 hs rfl (rv_tmp rfl) (hw.ret rfl)

abbrev filter_output_rd (w0 : World) (r : Int) : (Nat → Prop) → World → Value → Prop := fun S w v => v = .int .i64 r
set_option maxHeartbeats 4000000 in
set_option maxRecDepth 100000 in
theorem filter_output_ok {w0 : World} {S0 : Nat → Prop} {p2 : Option Addr} {k3 : Nat} {p6 : Option Addr} {k7 : Nat} {f1 : Filter} {samples5 : (List Int)} {i9 : Int} {r : Int} (hsh : filter_output f1 samples5 i9 = some r) (hS : ∀ b, S0 b → b < w0.heap.size) (h4 : (SlA p2 f1.Taps.length k3 f1.Taps).p S0 w0) (h8 : (SlA p6 samples5.length k7 samples5).p S0 w0) : Calls Try.prog 58 #[.agg #[.slice p2 f1.Taps.length k3, .int .i64 f1.Factor, .int .i64 f1.Shift], .slice p6 samples5.length k7, .int .i64 i9] w0 (Ret [] w0 S0 (filter_output_rd w0 r)) := by
  refine calls_of_wp Try.func58 rfl ?_
  have hs := Sl.enter #[.agg #[.slice p2 f1.Taps.length k3, .int .i64 f1.Factor, .int .i64 f1.Shift], .slice p6 samples5.length k7, .int .i64 i9] 33 [(0, .agg #[.slice p2 f1.Taps.length k3, .int .i64 f1.Factor, .int .i64 f1.Shift]), (1, .slice p6 samples5.length k7), (2, .int .i64 i9)] rfl ⟨rfl, rfl, rfl, trivial⟩
  have hw := Wd.enter (E := []) hS (fun _ h => (by cases h))
  have hw := hw.addE h4
  have hw := hw.addE h8
  delta filter_output at hsh
  refine wp_seq ?_
  refine wp_region_lit ?_
  refine w_box (cs := [.slice p2 f1.Taps.length k3, .int .i64 f1.Factor, .int .i64 f1.Shift]) hs hw rfl rfl rfl trivial ?_
  intro b10 a w hs hw
  refine st_val hs (y_assign rfl) trivial rfl rfl fun a hs => ?_
  refine wpList_nil ?_
  refine then_normal ?_
  refine wp_seq ?_
  refine wp_region_lit ?_
  refine st_val hs (y_assign rfl) trivial rfl rfl fun a hs => ?_
  refine wpList_nil ?_
  refine then_normal ?_
  refine wp_seq ?_
  refine wp_seq ?_
  refine wp_region_lit ?_
  refine st_val hs (y_fieldAddr (o' := 0) Try.runUnderlying28 rfl Try.sizeOf22 rfl rfl rfl) trivial rfl rfl fun a hs => ?_
  refine st_val hs (y_loadB1 (hw.ownAt 0 rfl) rfl Try.isAgg22 rfl) trivial rfl rfl fun a hs => ?_
  refine st_val hs (y_len Try.runUnderlying22 rfl) trivial rfl rfl fun a hs => ?_
  refine st_val hs (y_move rfl) trivial rfl rfl fun a hs => ?_
  refine wpList_nil ?_
  refine then_normal ?_
  obtain ⟨e167, h222, hsh⟩ := bind_t hsh
  refine wp_join (fun a w => ∃ (Sv168 : Nat → Prop), Sl 33 [(3, .pointer (some ⟨b10, 0, none⟩)), (7, .int .i64 e167)] a ∧ Wd ⟨w0, S0, []⟩ Sv168 [.box b10 [.slice p2 f1.Taps.length k3, .int .i64 f1.Factor, .int .i64 f1.Shift] 28] [SlA p2 f1.Taps.length k3 f1.Taps] w) ?_ ?_
  · refine wp_block ?_
    refine wp_while (fun sv11 a w => ∃ (Sv113 : Nat → Prop), Sl 33 [(1, .slice p6 samples5.length k7), (2, .int .i64 i9), (3, .pointer (some ⟨b10, 0, none⟩)), (7, .int .i64 sv11.1), (11, .slice p2 f1.Taps.length k3), (12, .int .i64 (f1.Taps.length : Int)), (13, .int .i64 sv11.2)] a ∧ Wd ⟨w0, S0, []⟩ Sv113 [.box b10 [.slice p2 f1.Taps.length k3, .int .i64 f1.Factor, .int .i64 f1.Shift] 28] [SlA p6 samples5.length k7 samples5, SlA p2 f1.Taps.length k3 f1.Taps] w) (0, 0) h222 ⟨S0, (hs.weaken _ ⟨rfl, rfl, rfl, rfl, rfl, rfl, rfl, trivial⟩), (hw.fit [0] (by decide) ⟨rfl, trivial⟩ ⟨⟨0, rfl⟩, ⟨1, rfl⟩, trivial⟩)⟩ ?_
    clear h222
    repeat clear hsh
    rintro sv11 a w tv165 ⟨Sv113, hs, hw⟩ hsh hd164
    delta filter_output_l1 at hsh
    refine wp_seq ?_
    refine wp_region_lit ?_
    refine st_val hs (y_lss rfl rfl) trivial rfl rfl fun a hs => ?_
    refine wpList_nil ?_
    refine then_normal ?_
    refine wp_seq ?_
    refine wp_cond_split (hs.ev rfl) (fun h170 => ?_) (fun h170 => ?_)
    · have hsh := ite_t hsh h170
      refine wp_skip ?_
      refine then_normal ?_
      refine wp_seq ?_
      refine wp_block ?_
      refine wp_seq ?_
      refine wp_region_lit ?_
      refine st_val hs (y_move rfl) trivial rfl rfl fun a hs => ?_
      obtain ⟨x197, h195, hsh⟩ := bind_t hsh
      obtain ⟨b203, o204, q201, c202, h205, h198, h199, h200, h196⟩ := hw.elemV 1 rfl h195
      subst h205
      obtain ⟨_, rfl, rfl⟩ := h196
      have hw := hw.addE h200
      refine st_val hs (y_indexAt Try.runUnderlying22 Try.sizeOf3 rfl rfl h198.1 h198.2 h199) trivial rfl rfl fun a hs => ?_
      refine st_val hs (y_loadE1 (j := 0) (hw.ceAt 0 rfl) rfl Try.isAgg3 rfl) trivial rfl rfl fun a hs => ?_
      refine st_val hs (y_assign rfl) trivial rfl rfl fun a hs => ?_
      refine st_val hs (y_assign rfl) trivial rfl rfl fun a hs => ?_
      refine wpList_nil ?_
      refine then_normal ?_
      refine wp_region_lit ?_
      refine st_val hs (y_move rfl) trivial rfl rfl fun a hs => ?_
      refine st_val hs (y_move rfl) trivial rfl rfl fun a hs => ?_
      refine st_val hs (y_move rfl) trivial rfl rfl fun a hs => ?_
      refine st_val hs (y_move rfl) trivial rfl rfl fun a hs => ?_
      refine st_val hs (y_move rfl) trivial rfl rfl fun a hs => ?_
      refine st_val hs (y_sub rfl rfl) trivial rfl rfl fun a hs => ?_
      obtain ⟨x208, h206, hsh⟩ := bind_t hsh
      obtain ⟨b214, o215, q212, c213, h216, h209, h210, h211, h207⟩ := hw.elemV 1 rfl h206
      subst h216
      obtain ⟨_, rfl, rfl⟩ := h207
      have hw := hw.addE h211
      refine st_val hs (y_indexAt Try.runUnderlying22 Try.sizeOf3 rfl rfl h209.1 h209.2 h210) trivial rfl rfl fun a hs => ?_
      refine st_val hs (y_loadE1 (j := 0) (hw.ceAt 0 rfl) rfl Try.isAgg3 rfl) trivial rfl rfl fun a hs => ?_
      refine st_val hs (y_mul rfl rfl) trivial rfl rfl fun a hs => ?_
      refine st_val hs (y_add rfl rfl) trivial rfl rfl fun a hs => ?_
      obtain ⟨sum218, h217, hsh⟩ := bind_t hsh
      refine st_val hs (y_assignI rfl h217) trivial rfl rfl fun a hs => ?_
      refine wpList_nil ?_
      refine blk_normal ?_
      refine then_normal ?_
      refine wp_region_lit ?_
      refine st_val hs (y_add rfl rfl) trivial rfl rfl fun a hs => ?_
      refine st_val hs (y_move rfl) trivial rfl rfl fun a hs => ?_
      refine wpList_nil ?_
      refine then_normal ?_
      exact ⟨_, (Option.some.inj hsh).symm, Sv113, (hs.weaken _ ⟨rfl, rfl, rfl, rfl, rfl, rfl, rfl, trivial⟩), (hw.fit [0] (by decide) ⟨rfl, trivial⟩ ⟨⟨2, rfl⟩, ⟨3, rfl⟩, trivial⟩)⟩
    · have hsh := ite_f hsh h170
      refine wp_exit ?_
      refine then_exit ?_
      refine then_exit ?_
      refine blk_exit ?_
      have hsh := Option.some.inj hsh
      subst hsh
      have h219 := hd164 _ rfl
      subst h219
      refine then_normal ?_
      exact ⟨Sv113, (hs.weaken _ ⟨rfl, rfl, trivial⟩), (hw.fit [0] (by decide) ⟨rfl, trivial⟩ ⟨⟨1, rfl⟩, trivial⟩)⟩
  · rintro a w ⟨Sv168, hs, hw⟩
    refine then_normal ?_
    refine wp_seq ?_
    refine wp_region_lit ?_
    refine st_val hs (y_move rfl) trivial rfl rfl fun a hs => ?_
    refine st_val hs (y_fieldAddr (o' := 2) Try.runUnderlying28 rfl Try.sizeOf3 rfl rfl rfl) trivial rfl rfl fun a hs => ?_
    refine st_val hs (y_loadB1 (hw.ownAt 0 rfl) rfl Try.isAgg3 rfl) trivial rfl rfl fun a hs => ?_
    obtain ⟨shr221, h220, hsh⟩ := bind_t hsh
    refine st_val hs (y_shrM rfl rfl h220) trivial rfl rfl fun a hs => ?_
    refine st_val hs (y_assign rfl) trivial rfl rfl fun a hs => ?_
    refine wpList_nil ?_
    refine then_normal ?_
    have hsh := Option.some.inj hsh
    subst hsh
    refine wp_ret ?_
    exact ret1 hs rfl (rv_tmp rfl) (hw.ret rfl)

abbrev filter_outputs_rd (w0 : World) (r : (List Int)) : (Nat → Prop) → World → Value → Prop := fun S w v => ∃ (p0_0 : Option Addr) (k0_0 : Nat) (c0_0 : List Value), v = .slice p0_0 r.length k0_0 ∧ Fresh w0 S w (.row p0_0 r.length k0_0 c0_0 3 1) ∧ (RowA c0_0 r).p S w
set_option maxHeartbeats 4000000 in
set_option maxRecDepth 100000 in
theorem filter_outputs_ok {w0 : World} {S0 : Nat → Prop} {p2 : Option Addr} {k3 : Nat} {p6 : Option Addr} {k7 : Nat} {f1 : Filter} {samples5 : (List Int)} {number9 : Int} {from10 : Int} {r : (List Int)} (hsh : filter_outputs f1 samples5 number9 from10 = some r) (hS : ∀ b, S0 b → b < w0.heap.size) (h4 : (SlA p2 f1.Taps.length k3 f1.Taps).p S0 w0) (h8 : (SlA p6 samples5.length k7 samples5).p S0 w0) : Calls Try.prog 41 #[.agg #[.slice p2 f1.Taps.length k3, .int .i64 f1.Factor, .int .i64 f1.Shift], .slice p6 samples5.length k7, .int .i64 number9, .int .i64 from10] w0 (Ret [] w0 S0 (filter_outputs_rd w0 r)) := by
  refine calls_of_wp Try.func41 rfl ?_
  have hs := Sl.enter #[.agg #[.slice p2 f1.Taps.length k3, .int .i64 f1.Factor, .int .i64 f1.Shift], .slice p6 samples5.length k7, .int .i64 number9, .int .i64 from10] 38 [(0, .agg #[.slice p2 f1.Taps.length k3, .int .i64 f1.Factor, .int .i64 f1.Shift]), (1, .slice p6 samples5.length k7), (2, .int .i64 number9), (3, .int .i64 from10)] rfl ⟨rfl, rfl, rfl, rfl, trivial⟩
  have hw := Wd.enter (E := []) hS (fun _ h => (by cases h))
  have hw := hw.addE h4
  have hw := hw.addE h8
  delta filter_outputs at hsh
  refine wp_seq ?_
  refine wp_region_lit ?_
  refine w_box (cs := [.slice p2 f1.Taps.length k3, .int .i64 f1.Factor, .int .i64 f1.Shift]) hs hw rfl rfl rfl trivial ?_
  intro b11 a w hs hw
  refine st_val hs (y_assign rfl) trivial rfl rfl fun a hs => ?_
  refine wpList_nil ?_
  refine then_normal ?_
  refine wp_seq ?_
  refine wp_region_lit ?_
  refine st_val hs (y_assign rfl) trivial rfl rfl fun a hs => ?_
  refine wpList_nil ?_
  refine then_normal ?_
  refine wp_seq ?_
  refine wp_seq ?_
  refine wp_region_lit ?_
  refine st_val hs (y_move rfl) trivial rfl rfl fun a hs => ?_
  refine st_val hs (y_fieldAddr (o' := 0) Try.runUnderlying28 rfl Try.sizeOf22 rfl rfl rfl) trivial rfl rfl fun a hs => ?_
  refine st_val hs (y_loadB1 (hw.ownAt 0 rfl) rfl Try.isAgg22 rfl) trivial rfl rfl fun a hs => ?_
  refine st_val hs (y_len Try.runUnderlying22 rfl) trivial rfl rfl fun a hs => ?_
  refine st_val hs (y_sub rfl rfl) trivial rfl rfl fun a hs => ?_
  refine st_val hs (y_max rfl rfl) trivial rfl rfl fun a hs => ?_
  obtain ⟨i13, h12, hsh⟩ := bind_t hsh
  refine st_val hs (y_assignI rfl h12) trivial rfl rfl fun a hs => ?_
  refine wpList_nil ?_
  refine then_normal ?_
  obtain ⟨e248, h328, hsh⟩ := bind_t hsh
  refine wp_join (fun a w => ∃ (p249 : Option Addr) (k250 : Nat) (c251 : List Value) (Sv252 : Nat → Prop), Sl 38 [(9, .slice p249 e248.length k250)] a ∧ Wd ⟨w0, S0, []⟩ Sv252 [.row p249 e248.length k250 c251 3 1] [RowA c251 e248] w) ?_ ?_
  · refine wp_block ?_
    have hw := hw.nilRow Int 3
    refine wp_while (fun sv14 a w => ∃ (p167 : Option Addr) (k168 : Nat) (c169 : List Value) (Sv170 : Nat → Prop), Sl 38 [(1, .slice p6 samples5.length k7), (2, .int .i64 number9), (4, .pointer (some ⟨b11, 0, none⟩)), (9, .slice p167 sv14.1.length k168), (10, .int .i64 sv14.2)] a ∧ Wd ⟨w0, S0, []⟩ Sv170 [.box b11 [.slice p2 f1.Taps.length k3, .int .i64 f1.Factor, .int .i64 f1.Shift] 28, .row p167 sv14.1.length k168 c169 3 1] [SlA p6 samples5.length k7 samples5, SlA p2 f1.Taps.length k3 f1.Taps, RowA c169 sv14.1] w) (([] : List Int), i13) h328 ⟨none, 0, [], S0, (hs.weaken _ ⟨rfl, rfl, rfl, rfl, rfl, trivial⟩), (hw.fit [1, 0] (by decide) ⟨rfl, rfl, trivial⟩ ⟨⟨1, rfl⟩, ⟨2, rfl⟩, ⟨0, rfl⟩, trivial⟩)⟩ ?_
    clear h328
    repeat clear hsh
    rintro sv14 a w tv246 ⟨p167, k168, c169, Sv170, hs, hw⟩ hsh hd245
    delta filter_outputs_l1 at hsh
    refine wp_seq ?_
    refine wp_seq ?_
    refine wp_region_lit ?_
    refine st_val hs (y_move rfl) trivial rfl rfl fun a hs => ?_
    refine st_val hs (y_move rfl) trivial rfl rfl fun a hs => ?_
    refine st_val hs (y_len Try.runUnderlying22 rfl) trivial rfl rfl fun a hs => ?_
    refine st_val hs (y_lss rfl rfl) trivial rfl rfl fun a hs => ?_
    refine wpList_nil ?_
    refine then_normal ?_
    refine wp_cond_split (hs.ev rfl) (fun h254 => ?_) (fun h254 => ?_)
    · have hsh := ite_t hsh h254
      refine wp_skip ?_
      refine then_normal ?_
      refine wp_seq ?_
      refine wp_block ?_
      refine wp_seq ?_
      refine wp_region_lit ?_
      refine st_val hs (y_move rfl) trivial rfl rfl fun a hs => ?_
      refine st_val hs (y_move rfl) trivial rfl rfl fun a hs => ?_
      refine st_val hs (y_add rfl rfl) trivial rfl rfl fun a hs => ?_
      refine st_val hs (y_fieldAddr (o' := 1) Try.runUnderlying28 rfl Try.sizeOf3 rfl rfl rfl) trivial rfl rfl fun a hs => ?_
      refine st_val hs (y_loadB1 (hw.ownAt 0 rfl) rfl Try.isAgg3 rfl) trivial rfl rfl fun a hs => ?_
      obtain ⟨rem291, h290, hsh⟩ := bind_t hsh
      refine st_val hs (y_remM rfl rfl h290) trivial rfl rfl fun a hs => ?_
      refine st_val hs (y_eql rfl rfl) trivial rfl rfl fun a hs => ?_
      refine wpList_nil ?_
      refine then_normal ?_
      refine wp_join (fun a w => ∃ (out310 : (List Int)) (p306 : Option Addr) (k307 : Nat) (c308 : List Value) (Sv309 : Nat → Prop), filter_outputs_j1 sv14 out310 = some tv246 ∧ Sl 38 [(1, .slice p6 samples5.length k7), (2, .int .i64 number9), (4, .pointer (some ⟨b11, 0, none⟩)), (9, .slice p306 out310.length k307), (10, .int .i64 sv14.2)] a ∧ Wd ⟨w0, S0, []⟩ Sv309 [.box b11 [.slice p2 f1.Taps.length k3, .int .i64 f1.Factor, .int .i64 f1.Shift] 28, .row p306 out310.length k307 c308 3 1] [SlA p6 samples5.length k7 samples5, SlA p2 f1.Taps.length k3 f1.Taps, RowA c308 out310] w) ?_ ?_
      · refine wp_cond_split (hs.ev rfl) (fun h313 => ?_) (fun h313 => ?_)
        · have hsh := ite_t hsh h313
          refine wp_region_lit ?_
          refine st_val hs (y_move rfl) trivial rfl rfl fun a hs => ?_
          refine st_val hs (y_loadBA (hw.ownAt 0 rfl) rfl Try.isAgg28 Try.sizeOf28 rfl rfl) trivial rfl rfl fun a hs => ?_
          refine st_val hs (y_move rfl) trivial rfl rfl fun a hs => ?_
          refine st_val hs (y_move rfl) trivial rfl rfl fun a hs => ?_
          obtain ⟨rv315, h314, hsh⟩ := bind_t hsh
          refine st_callR hs (filter_output_ok h314 hw.dom (hw.envAt 1 rfl) (hw.envAt 0 rfl)) (do_call Try.call58 rfl) trivial rfl rfl ?_
          intro v319 Sv316 w a h317 h318 hs
          subst h318
          have hw := hw.call h317
          refine w_buildSlice (α := Int) (vs := [.int .i64 rv315]) (cs := [.int .i64 rv315]) (xs := ([rv315] : List Int)) hs hw El22 rfl rfl rfl rfl rfl rfl ⟨⟨_, rfl, rfl⟩, rfl⟩ rfl trivial ?_
          intro p320 a w hs hw
          obtain ⟨b321, rfl⟩ := row_some (hw.ownAt 0 rfl) (Nat.succ_pos _)
          obtain ⟨l323, h322, hsh⟩ := bind_t hsh
          refine w_appendR (α := Int) hs hw El22 2 rfl rfl rfl 3 rfl 0 rfl 0 rfl h322 rfl trivial ?_
          intro p324 k325 c326 a w hs hw
          refine st_val hs (y_assign rfl) trivial rfl rfl fun a hs => ?_
          refine wpList_nil ?_
          refine then_normal ?_
          exact ⟨l323, p324, k325, c326, Sv316, hsh, (hs.weaken _ ⟨rfl, rfl, rfl, rfl, rfl, trivial⟩), (hw.fit [1, 2] (by decide) ⟨rfl, rfl, trivial⟩ ⟨⟨2, rfl⟩, ⟨3, rfl⟩, ⟨0, rfl⟩, trivial⟩)⟩
        · have hsh := ite_f hsh h313
          refine wp_skip ?_
          refine then_normal ?_
          exact ⟨sv14.1, p167, k168, c169, Sv170, hsh, (hs.weaken _ ⟨rfl, rfl, rfl, rfl, rfl, trivial⟩), (hw.fit [0, 1] (by decide) ⟨rfl, rfl, trivial⟩ ⟨⟨0, rfl⟩, ⟨1, rfl⟩, ⟨2, rfl⟩, trivial⟩)⟩
      · rintro a w ⟨out310, p306, k307, c308, Sv309, hsh, hs, hw⟩
        delta filter_outputs_j1 at hsh
        refine blk_normal ?_
        refine then_normal ?_
        refine wp_region_lit ?_
        refine st_val hs (y_move rfl) trivial rfl rfl fun a hs => ?_
        refine st_val hs (y_add rfl rfl) trivial rfl rfl fun a hs => ?_
        obtain ⟨i312, h311, hsh⟩ := bind_t hsh
        refine st_val hs (y_assignI rfl h311) trivial rfl rfl fun a hs => ?_
        refine wpList_nil ?_
        refine then_normal ?_
        exact ⟨_, (Option.some.inj hsh).symm, p306, k307, c308, Sv309, (hs.weaken _ ⟨rfl, rfl, rfl, rfl, rfl, trivial⟩), (hw.fit [0, 1] (by decide) ⟨rfl, rfl, trivial⟩ ⟨⟨0, rfl⟩, ⟨1, rfl⟩, ⟨2, rfl⟩, trivial⟩)⟩
    · have hsh := ite_f hsh h254
      refine wp_exit ?_
      refine then_exit ?_
      refine then_exit ?_
      refine blk_exit ?_
      have hsh := Option.some.inj hsh
      subst hsh
      have h327 := hd245 _ rfl
      subst h327
      refine then_normal ?_
      exact ⟨p167, k168, c169, Sv170, (hs.weaken _ ⟨rfl, trivial⟩), (hw.fit [1] (by decide) ⟨rfl, trivial⟩ ⟨⟨2, rfl⟩, trivial⟩)⟩
  · rintro a w ⟨p249, k250, c251, Sv252, hs, hw⟩
    refine then_normal ?_
    refine wp_seq ?_
    refine wp_region_lit ?_
    refine st_val hs (y_move rfl) trivial rfl rfl fun a hs => ?_
    refine st_val hs (y_assign rfl) trivial rfl rfl fun a hs => ?_
    refine wpList_nil ?_
    refine then_normal ?_
    have hsh := Option.some.inj hsh
    subst hsh
    refine wp_ret ?_
    exact ret1 hs rfl (rv_tmp rfl) (hw.ret ⟨p249, k250, c251, rfl, (hw.freshOf 0 rfl (.inl rfl)), (hw.envAt 0 rfl)⟩)

abbrev filter_Apply_rd (w0 : World) (r : ((List Int) × Int)) : (Nat → Prop) → World → Value → Prop := fun S w v => ∃ (p0_0 : Option Addr) (k0_0 : Nat) (c0_0 : List Value), v = .tuple #[.slice p0_0 r.1.length k0_0, .int .i64 r.2] ∧ Fresh w0 S w (.row p0_0 r.1.length k0_0 c0_0 3 1) ∧ (RowA c0_0 r.1).p S w
set_option maxHeartbeats 4000000 in
set_option maxRecDepth 100000 in
theorem filter_Apply_ok {w0 : World} {S0 : Nat → Prop} {p2 : Option Addr} {k3 : Nat} {p6 : Option Addr} {k7 : Nat} {f1 : Filter} {samples5 : (List Int)} {number9 : Int} {r : ((List Int) × Int)} (hsh : filter_Apply f1 samples5 number9 = some r) (hS : ∀ b, S0 b → b < w0.heap.size) (h4 : (SlA p2 f1.Taps.length k3 f1.Taps).p S0 w0) (h8 : (SlA p6 samples5.length k7 samples5).p S0 w0) : Calls Try.prog 14 #[.agg #[.slice p2 f1.Taps.length k3, .int .i64 f1.Factor, .int .i64 f1.Shift], .slice p6 samples5.length k7, .int .i64 number9] w0 (Ret [] w0 S0 (filter_Apply_rd w0 r)) := by
  refine calls_of_wp Try.func14 rfl ?_
  have hs := Sl.enter #[.agg #[.slice p2 f1.Taps.length k3, .int .i64 f1.Factor, .int .i64 f1.Shift], .slice p6 samples5.length k7, .int .i64 number9] 22 [(0, .agg #[.slice p2 f1.Taps.length k3, .int .i64 f1.Factor, .int .i64 f1.Shift]), (1, .slice p6 samples5.length k7), (2, .int .i64 number9)] rfl ⟨rfl, rfl, rfl, trivial⟩
  have hw := Wd.enter (E := []) hS (fun _ h => (by cases h))
  have hw := hw.addE h4
  have hw := hw.addE h8
  delta filter_Apply at hsh
  refine wp_seq ?_
  refine wp_region_lit ?_
  refine w_box (cs := [.slice p2 f1.Taps.length k3, .int .i64 f1.Factor, .int .i64 f1.Shift]) hs hw rfl rfl rfl trivial ?_
  intro b10 a w hs hw
  refine st_val hs (y_assign rfl) trivial rfl rfl fun a hs => ?_
  refine st_val hs (y_assign rfl) trivial rfl rfl fun a hs => ?_
  refine wpList_nil ?_
  refine then_normal ?_
  refine wp_seq ?_
  refine wp_seq ?_
  refine wp_region_lit ?_
  refine st_val hs (y_loadBA (hw.ownAt 0 rfl) rfl Try.isAgg28 Try.sizeOf28 rfl rfl) trivial rfl rfl fun a hs => ?_
  obtain ⟨rv12, h11, hsh⟩ := bind_t hsh
  refine st_callR hs (filter_Valid_ok h11 hw.dom (hw.envAt 1 rfl)) (do_call Try.call32 rfl) trivial rfl rfl ?_
  intro v16 Sv13 w a h14 h15 hs
  subst h15
  have hw := hw.call h14
  refine st_val hs (y_not rfl) trivial rfl rfl fun a hs => ?_
  refine wpList_nil ?_
  refine then_normal ?_
  refine wp_cond_split (hs.ev rfl) (fun h18 => ?_) (fun h18 => ?_)
  · have hsh := ite_t hsh h18
    refine wp_seq ?_
    refine wp_region_lit ?_
    refine st_val hs (y_assign rfl) trivial rfl rfl fun a hs => ?_
    refine st_val hs (y_assign rfl) trivial rfl rfl fun a hs => ?_
    refine wpList_nil ?_
    refine then_normal ?_
    have hsh := Option.some.inj hsh
    subst hsh
    have hw := hw.nilRow Int 3
    refine wp_ret ?_
    refine then_ret ?_
    exact ret2 hs rfl (rv_tmp rfl) (rv_tmp rfl) (hw.ret ⟨none, 0, [], rfl, (hw.freshOf 0 rfl (.inl rfl)), (hw.envAt 0 rfl)⟩)
  · have hsh := ite_f hsh h18
    refine wp_skip ?_
    refine then_normal ?_
    refine wp_seq ?_
    refine wp_seq ?_
    refine wp_region_lit ?_
    refine st_val hs (y_move rfl) trivial rfl rfl fun a hs => ?_
    refine st_val hs (y_move rfl) trivial rfl rfl fun a hs => ?_
    obtain ⟨rv20, h19, hsh⟩ := bind_t hsh
    refine st_callR hs (filter_check_ok h19 hw.dom (hw.envAt 0 rfl)) (do_call Try.call40 rfl) trivial rfl rfl ?_
    intro v24 Sv21 w a h22 h23 hs
    subst h23
    have hw := hw.call h22
    refine st_val hs (y_assign rfl) trivial rfl rfl fun a hs => ?_
    refine wpList_nil ?_
    refine then_normal ?_
    refine wp_seq ?_
    refine wp_region_lit ?_
    refine st_val hs (y_move rfl) trivial rfl rfl fun a hs => ?_
    refine st_val hs (y_neq rfl rfl) trivial rfl rfl fun a hs => ?_
    refine wpList_nil ?_
    refine then_normal ?_
    refine wp_cond_split (hs.ev rfl) (fun h26 => ?_) (fun h26 => ?_)
    · have hsh := ite_t hsh h26
      refine wp_seq ?_
      refine wp_region_lit ?_
      refine st_val hs (y_move rfl) trivial rfl rfl fun a hs => ?_
      refine st_val hs (y_assign rfl) trivial rfl rfl fun a hs => ?_
      refine st_val hs (y_assign rfl) trivial rfl rfl fun a hs => ?_
      refine wpList_nil ?_
      refine then_normal ?_
      have hsh := Option.some.inj hsh
      subst hsh
      have hw := hw.nilRow Int 3
      refine wp_ret ?_
      refine then_ret ?_
      exact ret2 hs rfl (rv_tmp rfl) (rv_tmp rfl) (hw.ret ⟨none, 0, [], rfl, (hw.freshOf 0 rfl (.inl rfl)), (hw.envAt 0 rfl)⟩)
    · have hsh := ite_f hsh h26
      refine wp_skip ?_
      refine then_normal ?_
      refine wp_seq ?_
      refine wp_region_lit ?_
      refine st_val hs (y_loadBA (hw.ownAt 0 rfl) rfl Try.isAgg28 Try.sizeOf28 rfl rfl) trivial rfl rfl fun a hs => ?_
      refine st_val hs (y_move rfl) trivial rfl rfl fun a hs => ?_
      refine st_val hs (y_move rfl) trivial rfl rfl fun a hs => ?_
      obtain ⟨rv28, h27, hsh⟩ := bind_t hsh
      refine st_callR hs (filter_outputs_ok h27 hw.dom (hw.envAt 1 rfl) (hw.envAt 0 rfl)) (do_call Try.call41 rfl) trivial rfl rfl ?_
      intro v37 Sv34 w a h35 h36 hs
      obtain ⟨p29, k30, c31, rfl, h32, h33⟩ := h36
      have hw := hw.callF h35 h32
      have hw := hw.addE (e := RowA c31 rv28) h33
      refine st_val hs (y_assign rfl) trivial rfl rfl fun a hs => ?_
      refine st_val hs (y_assign rfl) trivial rfl rfl fun a hs => ?_
      refine wpList_nil ?_
      refine then_normal ?_
      have hsh := Option.some.inj hsh
      subst hsh
      refine wp_ret ?_
      exact ret2 hs rfl (rv_tmp rfl) (rv_tmp rfl) (hw.ret ⟨p29, k30, c31, rfl, (hw.freshOf 0 rfl (.inl rfl)), (hw.envAt 0 rfl)⟩)

abbrev ref05_Same_rd (w0 : World) (r : Bool) : (Nat → Prop) → World → Value → Prop := fun S w v => v = .bool r
set_option maxHeartbeats 4000000 in
set_option maxRecDepth 100000 in
theorem ref05_Same_ok {w0 : World} {S0 : Nat → Prop} {p2 : Option Addr} {k3 : Nat} {p6 : Option Addr} {k7 : Nat} {a1 : (List Int)} {b5 : (List Int)} {r : Bool} (hsh : ref05_Same a1 b5 = some r) (hS : ∀ b, S0 b → b < w0.heap.size) (h4 : (SlA p2 a1.length k3 a1).p S0 w0) (h8 : (SlA p6 b5.length k7 b5).p S0 w0) : Calls Try.prog 23 #[.slice p2 a1.length k3, .slice p6 b5.length k7] w0 (Ret [] w0 S0 (ref05_Same_rd w0 r)) := by
  refine calls_of_wp Try.func23 rfl ?_
  have hs := Sl.enter #[.slice p2 a1.length k3, .slice p6 b5.length k7] 26 [(0, .slice p2 a1.length k3), (1, .slice p6 b5.length k7)] rfl ⟨rfl, rfl, trivial⟩
  have hw := Wd.enter (E := []) hS (fun _ h => (by cases h))
  have hw := hw.addE h4
  have hw := hw.addE h8
  delta ref05_Same at hsh
  refine wp_seq ?_
  refine wp_region_lit ?_
  refine st_val hs (y_assign rfl) trivial rfl rfl fun a hs => ?_
  refine wpList_nil ?_
  refine then_normal ?_
  refine wp_seq ?_
  refine wp_seq ?_
  refine wp_region_lit ?_
  refine st_val hs (y_move rfl) trivial rfl rfl fun a hs => ?_
  refine st_val hs (y_len Try.runUnderlying22 rfl) trivial rfl rfl fun a hs => ?_
  refine st_val hs (y_move rfl) trivial rfl rfl fun a hs => ?_
  refine st_val hs (y_len Try.runUnderlying22 rfl) trivial rfl rfl fun a hs => ?_
  refine st_val hs (y_neq rfl rfl) trivial rfl rfl fun a hs => ?_
  refine wpList_nil ?_
  refine then_normal ?_
  refine wp_cond_split (hs.ev rfl) (fun h10 => ?_) (fun h10 => ?_)
  · have hsh := ite_t hsh h10
    refine wp_seq ?_
    refine wp_region_lit ?_
    refine st_val hs (y_assign rfl) trivial rfl rfl fun a hs => ?_
    refine wpList_nil ?_
    refine then_normal ?_
    have hsh := Option.some.inj hsh
    subst hsh
    refine wp_ret ?_
    refine then_ret ?_
    exact ret1 hs rfl (rv_tmp rfl) (hw.ret rfl)
  · have hsh := ite_f hsh h10
    refine wp_skip ?_
    refine then_normal ?_
    refine wp_seq ?_
    refine wp_seq ?_
    refine wp_region_lit ?_
    refine st_val hs (y_assign rfl) trivial rfl rfl fun a hs => ?_
    refine wpList_nil ?_
    refine then_normal ?_
    refine wp_block ?_
    refine wp_while (fun sv178 a w => ∃ (Sv288 : Nat → Prop), Sl 26 [(0, .slice p2 a1.length k3), (1, .slice p6 b5.length k7), (5, .int .i64 sv178)] a ∧ Wd ⟨w0, S0, []⟩ Sv288 [] [SlA p2 a1.length k3 a1, SlA p6 b5.length k7 b5] w) 0 hsh ⟨S0, (hs.weaken _ ⟨rfl, rfl, rfl, trivial⟩), (hw.fit [] (by decide) trivial ⟨⟨1, rfl⟩, ⟨0, rfl⟩, trivial⟩)⟩ ?_
    repeat clear hsh
    rintro sv178 a w tv344 ⟨Sv288, hs, hw⟩ hsh hd343
    delta ref05_Same_l2 at hsh
    refine wp_seq ?_
    refine wp_seq ?_
    refine wp_region_lit ?_
    refine st_val hs (y_move rfl) trivial rfl rfl fun a hs => ?_
    refine st_val hs (y_move rfl) trivial rfl rfl fun a hs => ?_
    refine st_val hs (y_len Try.runUnderlying22 rfl) trivial rfl rfl fun a hs => ?_
    refine st_val hs (y_lss rfl rfl) trivial rfl rfl fun a hs => ?_
    refine wpList_nil ?_
    refine then_normal ?_
    refine wp_cond_split (hs.ev rfl) (fun h348 => ?_) (fun h348 => ?_)
    · have hsh := ite_t hsh h348
      refine wp_skip ?_
      refine then_normal ?_
      refine wp_seq ?_
      refine wp_block ?_
      refine wp_seq ?_
      obtain ⟨x376, h374, hsh⟩ := bind_t hsh
      obtain ⟨b382, o383, q380, c381, h384, h377, h378, h379, h375⟩ := hw.elemV 0 rfl h374
      subst h384
      obtain ⟨_, rfl, rfl⟩ := h375
      have hw := hw.addE h379
      obtain ⟨x387, h385, hsh⟩ := bind_t hsh
      obtain ⟨b393, o394, q391, c392, h395, h388, h389, h390, h386⟩ := hw.elemV 2 rfl h385
      subst h395
      obtain ⟨_, rfl, rfl⟩ := h386
      have hw := hw.addE h390
      refine wp_only (fun a w => ∃ (Sv396 : Nat → Prop), Sl 26 [(0, .slice (some ⟨b382, o383, none⟩) a1.length k3), (1, .slice (some ⟨b393, o394, none⟩) b5.length k7), (5, .int .i64 sv178), (25, .bool (x376 != x387))] a ∧ Wd ⟨w0, S0, []⟩ Sv396 [] [SlA (some ⟨b382, o383, none⟩) a1.length k3 a1, SlA (some ⟨b393, o394, none⟩) b5.length k7 b5] w) ?_ ?_
      · refine h_begin (C := Cls [] [CeA b393 q391 [.int .i64 x387], CeA b382 q380 [.int .i64 x376]]) (by kernel_rfl) rfl ?_
        have hw := hw.drew
        have hC : Cls [] [CeA b393 q391 [.int .i64 x387], CeA b382 q380 [.int .i64 x376]] _ := hw.cls [] trivial ⟨⟨0, rfl⟩, ⟨1, rfl⟩, trivial⟩
        refine h_take hs (i := 0) rfl (by kernel_rfl) (by kernel_rfl) (by kernel_rfl) trivial rfl rfl hC (fun w hC => y_move rfl) fun a hs => ?_
        refine h_take hs (i := 1) rfl (by kernel_rfl) (by kernel_rfl) (by kernel_rfl) trivial rfl rfl hC (fun w hC => y_move rfl) fun a hs => ?_
        refine h_take hs (i := 2) rfl (by kernel_rfl) (by kernel_rfl) (by kernel_rfl) trivial rfl rfl hC (fun w hC => y_indexAt Try.runUnderlying22 Try.sizeOf3 rfl rfl h377.1 h377.2 h378) fun a hs => ?_
        refine h_take hs (i := 3) rfl (by kernel_rfl) (by kernel_rfl) (by kernel_rfl) trivial rfl rfl hC (fun w hC => y_loadE1 (j := 0) (hC.ceAt 1 rfl) rfl Try.isAgg3 rfl) fun a hs => ?_
        refine h_take hs (i := 4) rfl (by kernel_rfl) (by kernel_rfl) (by kernel_rfl) trivial rfl rfl hC (fun w hC => y_move rfl) fun a hs => ?_
        refine h_take hs (i := 5) rfl (by kernel_rfl) (by kernel_rfl) (by kernel_rfl) trivial rfl rfl hC (fun w hC => y_move rfl) fun a hs => ?_
        refine h_take hs (i := 6) rfl (by kernel_rfl) (by kernel_rfl) (by kernel_rfl) trivial rfl rfl hC (fun w hC => y_indexAt Try.runUnderlying22 Try.sizeOf3 rfl rfl h388.1 h388.2 h389) fun a hs => ?_
        refine h_take hs (i := 7) rfl (by kernel_rfl) (by kernel_rfl) (by kernel_rfl) trivial rfl rfl hC (fun w hC => y_loadE1 (j := 0) (hC.ceAt 0 rfl) rfl Try.isAgg3 rfl) fun a hs => ?_
        refine h_take hs (i := 8) rfl (by kernel_rfl) (by kernel_rfl) (by kernel_rfl) trivial rfl rfl hC (fun w hC => y_neq rfl rfl) fun a hs => ?_
        refine h_done (by kernel_rfl) ?_
        exact ⟨Sv288, (hs.weaken _ ⟨rfl, rfl, rfl, rfl, trivial⟩), (hw.fit [] (by decide) trivial ⟨⟨2, rfl⟩, ⟨3, rfl⟩, trivial⟩)⟩
      · rintro a w ⟨Sv396, hs, hw⟩
        refine then_normal ?_
        refine wp_cond_split (hs.ev rfl) (fun h398 => ?_) (fun h398 => ?_)
        · have hsh := ite_t hsh h398
          refine wp_seq ?_
          refine wp_region_lit ?_
          refine st_val hs (y_assign rfl) trivial rfl rfl fun a hs => ?_
          refine wpList_nil ?_
          refine then_normal ?_
          have hsh := Option.some.inj hsh
          subst hsh
          have h399 := hd343 _ rfl
          subst h399
          refine wp_ret ?_
          refine blk_ret ?_
          refine then_ret ?_
          refine then_ret ?_
          refine blk_ret ?_
          refine then_ret ?_
          exact ret1 hs rfl (rv_tmp rfl) (hw.ret rfl)
        · have hsh := ite_f hsh h398
          refine wp_skip ?_
          refine blk_normal ?_
          refine then_normal ?_
          refine wp_region_lit ?_
          refine st_val hs (y_move rfl) trivial rfl rfl fun a hs => ?_
          refine st_val hs (y_add rfl rfl) trivial rfl rfl fun a hs => ?_
          obtain ⟨i401, h400, hsh⟩ := bind_t hsh
          refine st_val hs (y_assignI rfl h400) trivial rfl rfl fun a hs => ?_
          refine wpList_nil ?_
          refine then_normal ?_
          exact ⟨_, (Option.some.inj hsh).symm, Sv396, (hs.weaken _ ⟨rfl, rfl, rfl, trivial⟩), (hw.fit [] (by decide) trivial ⟨⟨0, rfl⟩, ⟨1, rfl⟩, trivial⟩)⟩
    · have hsh := ite_f hsh h348
      obtain ⟨rv402, hsh, h403⟩ := map_t hsh
      have h403 := hd343 _ h403.symm
      subst h403
      refine wp_exit ?_
      refine then_exit ?_
      refine then_exit ?_
      refine blk_exit ?_
      refine then_normal ?_
      refine wp_seq ?_
      refine wp_region_lit ?_
      refine st_val hs (y_assign rfl) trivial rfl rfl fun a hs => ?_
      refine wpList_nil ?_
      refine then_normal ?_
      have hsh := Option.some.inj hsh
      subst hsh
      refine wp_ret ?_
      exact ret1 hs rfl (rv_tmp rfl) (hw.ret rfl)

abbrev law21_sane_rd (w0 : World) (r : Bool) : (Nat → Prop) → World → Value → Prop := fun S w v => v = .bool r
set_option maxHeartbeats 4000000 in
set_option maxRecDepth 100000 in
theorem law21_sane_ok {w0 : World} {S0 : Nat → Prop} {r : Bool} (hsh : law21_sane = some r) (hS : ∀ b, S0 b → b < w0.heap.size) : Calls Try.prog 11 #[] w0 (Ret [] w0 S0 (law21_sane_rd w0 r)) := by
  refine calls_of_wp Try.func11 rfl ?_
  have hs := Sl.enter #[] 41 [] rfl trivial
  have hw := Wd.enter (E := []) hS (fun _ h => (by cases h))
  delta law21_sane at hsh
  refine wp_seq ?_
  refine wp_region_lit ?_
  refine st_val hs (y_assign rfl) trivial rfl rfl fun a hs => ?_
  refine wpList_nil ?_
  refine then_normal ?_
  refine wp_seq ?_
  refine wp_region_lit ?_
  refine w_buildSlice (α := Int) (vs := [.int .i64 1, .int .i64 1]) (cs := [.int .i64 1, .int .i64 1]) (xs := ([1, 1] : List Int)) hs hw El22 rfl rfl rfl rfl rfl rfl ⟨⟨_, rfl, rfl⟩, ⟨⟨_, rfl, rfl⟩, rfl⟩⟩ rfl trivial ?_
  intro p1 a w hs hw
  obtain ⟨b2, rfl⟩ := row_some (hw.ownAt 0 rfl) (Nat.succ_pos _)
  refine st_val hs (y_build (vs := [(0, .slice (some ⟨b2, 0, none⟩) ([1, 1] : List Int).length ([1, 1] : List Int).length), (1, .int .i64 1), (2, .int .i64 1)]) Bld28 rfl rfl) trivial rfl rfl fun a hs => ?_
  refine w_alloc (cs := [.slice none ([] : List Int).length 0, .int .i64 0, .int .i64 0]) hs hw Try.zeroValue28 rfl rfl trivial ?_
  intro b3 a w hs hw
  refine w_store (m := 3) (cs' := [.slice (some ⟨b2, 0, none⟩) ([1, 1] : List Int).length ([1, 1] : List Int).length, .int .i64 1, .int .i64 1]) hs hw 0 rfl rfl rfl Try.sizeOf28 rfl rfl rfl rfl trivial ?_
  intro a w hs hw
  refine wpList_nil ?_
  refine then_normal ?_
  refine wp_seq ?_
  refine wp_region_lit ?_
  refine st_val hs (y_loadBA (hw.ownAt 0 rfl) rfl Try.isAgg28 Try.sizeOf28 rfl rfl) trivial rfl rfl fun a hs => ?_
  refine w_buildSlice (α := Int) (vs := [.int .i64 4, .int .i64 6, .int .i64 9]) (cs := [.int .i64 4, .int .i64 6, .int .i64 9]) (xs := ([4, 6, 9] : List Int)) hs hw El22 rfl rfl rfl rfl rfl rfl ⟨⟨_, rfl, rfl⟩, ⟨⟨_, rfl, rfl⟩, ⟨⟨_, rfl, rfl⟩, rfl⟩⟩⟩ rfl trivial ?_
  intro p4 a w hs hw
  obtain ⟨b5, rfl⟩ := row_some (hw.ownAt 0 rfl) (Nat.succ_pos _)
  obtain ⟨rv7, h6, hsh⟩ := bind_t hsh
  obtain ⟨Sv13, hw⟩ := w_share (α := Int) hw 2 rfl 1 rfl (.inl rfl)
  obtain ⟨Sv14, hw⟩ := w_share (α := Int) hw 0 rfl 1 rfl (.inl rfl)
  refine st_callR hs (filter_Apply_ok h6 hw.dom (hw.envAt 1 rfl) (hw.envAt 0 rfl)) (do_call Try.call14 rfl) trivial rfl rfl ?_
  intro v18 Sv15 w a h16 h17 hs
  obtain ⟨p8, k9, c10, rfl, h11, h12⟩ := h17
  have hw := hw.callF h16 h11
  have hw := hw.addE (e := RowA c10 rv7.1) h12
  refine st_val hs (y_move rfl) trivial rfl rfl fun a hs => ?_
  refine st_val hs (y_extract rfl rfl) trivial rfl rfl fun a hs => ?_
  refine st_val hs (y_extract rfl rfl) trivial rfl rfl fun a hs => ?_
  refine st_val hs (y_assign rfl) trivial rfl rfl fun a hs => ?_
  refine st_val hs (y_assign rfl) trivial rfl rfl fun a hs => ?_
  refine wpList_nil ?_
  refine then_normal ?_
  refine wp_seq ?_
  refine wp_region_lit ?_
  refine st_val hs (y_fieldAddr (o' := 1) Try.runUnderlying28 rfl Try.sizeOf3 rfl rfl rfl) trivial rfl rfl fun a hs => ?_
  refine w_store (m := 1) (cs' := [.slice (some ⟨b2, 0, none⟩) ([1, 1] : List Int).length ([1, 1] : List Int).length, .int .i64 2, .int .i64 1]) hs hw 1 rfl rfl rfl Try.sizeOf3 rfl rfl rfl rfl trivial ?_
  intro a w hs hw
  refine wpList_nil ?_
  refine then_normal ?_
  refine wp_seq ?_
  refine wp_region_lit ?_
  refine st_val hs (y_loadBA (hw.ownAt 1 rfl) rfl Try.isAgg28 Try.sizeOf28 rfl rfl) trivial rfl rfl fun a hs => ?_
  refine w_buildSlice (α := Int) (vs := [.int .i64 4, .int .i64 6, .int .i64 9]) (cs := [.int .i64 4, .int .i64 6, .int .i64 9]) (xs := ([4, 6, 9] : List Int)) hs hw El22 rfl rfl rfl rfl rfl rfl ⟨⟨_, rfl, rfl⟩, ⟨⟨_, rfl, rfl⟩, ⟨⟨_, rfl, rfl⟩, rfl⟩⟩⟩ rfl trivial ?_
  intro p19 a w hs hw
  obtain ⟨b20, rfl⟩ := row_some (hw.ownAt 0 rfl) (Nat.succ_pos _)
  obtain ⟨rv22, h21, hsh⟩ := bind_t hsh
  obtain ⟨Sv28, hw⟩ := w_share (α := Int) hw 0 rfl 0 rfl (.inl rfl)
  refine st_callR hs (filter_Apply_ok h21 hw.dom (hw.envAt 4 rfl) (hw.envAt 0 rfl)) (do_call Try.call14 rfl) trivial rfl rfl ?_
  intro v32 Sv29 w a h30 h31 hs
  obtain ⟨p23, k24, c25, rfl, h26, h27⟩ := h31
  have hw := hw.callF h30 h26
  have hw := hw.addE (e := RowA c25 rv22.1) h27
  refine st_val hs (y_move rfl) trivial rfl rfl fun a hs => ?_
  refine st_val hs (y_extract rfl rfl) trivial rfl rfl fun a hs => ?_
  refine st_val hs (y_extract rfl rfl) trivial rfl rfl fun a hs => ?_
  refine st_val hs (y_assign rfl) trivial rfl rfl fun a hs => ?_
  refine st_val hs (y_assign rfl) trivial rfl rfl fun a hs => ?_
  refine wpList_nil ?_
  refine then_normal ?_
  refine wp_seq ?_
  refine wp_region_lit ?_
  refine st_val hs (y_move rfl) trivial rfl rfl fun a hs => ?_
  refine st_val hs (y_eql rfl rfl) trivial rfl rfl fun a hs => ?_
  refine st_val hs (y_move rfl) trivial rfl rfl fun a hs => ?_
  refine wpl_join 3 (fun a w1 => w = w1 ∧ Sl 41 [(1, .pointer (some ⟨b3, 0, none⟩)), (2, .slice p8 rv7.1.length k9), (4, .slice p23 rv22.1.length k24), (26, .bool ((rv7.2 == 0) && (rv22.2 == 0)))] a) ?_ ?_
  · rcases Bool.eq_false_or_eq_true (rv7.2 == 0) with h33 | h33
    · have hs := hs.fix 23 (.bool true) rfl (vb h33)
      refine st_val hs (y_move rfl) ⟨_, rfl, rfl⟩ rfl rfl fun a hs => ?_
      refine st_val hs (y_eql rfl rfl) ⟨_, rfl, rfl⟩ rfl rfl fun a hs => ?_
      refine st_val hs (y_pickT rfl rfl) trivial rfl rfl fun a hs => ?_
      refine wpList_nil ?_
      refine then_normal ?_
      exact ⟨rfl, (hs.fix 26 (.bool ((rv7.2 == 0) && (rv22.2 == 0))) rfl (and_t h33)).weaken _ ⟨rfl, rfl, rfl, rfl, trivial⟩⟩
    · have hs := hs.fix 23 (.bool false) rfl (vb h33)
      refine st_skip hs rfl rfl rfl rfl rfl fun a hs => ?_
      refine st_skip hs rfl rfl rfl rfl rfl fun a hs => ?_
      refine st_val hs (y_pickF rfl rfl) trivial rfl rfl fun a hs => ?_
      refine wpList_nil ?_
      refine then_normal ?_
      exact ⟨rfl, (hs.fix 26 (.bool ((rv7.2 == 0) && (rv22.2 == 0))) rfl (and_f h33)).weaken _ ⟨rfl, rfl, rfl, rfl, trivial⟩⟩
  · rintro a w1 ⟨h95, hs⟩
    subst h95
    refine st_val hs (y_move rfl) trivial rfl rfl fun a hs => ?_
    obtain ⟨c45, hc45, hsh⟩ := bind_t hsh
    refine wpl_join 4 (fun a w => ∃ (Sv46 : Nat → Prop), Sl 41 [(1, .pointer (some ⟨b3, 0, none⟩)), (4, .slice p23 rv22.1.length k24), (31, .bool c45)] a ∧ Wd ⟨w0, S0, []⟩ Sv46 [.box b3 [.slice (some ⟨b2, 0, none⟩) ([1, 1] : List Int).length ([1, 1] : List Int).length, .int .i64 2, .int .i64 1] 28, .row p23 rv22.1.length k24 c25 3 1] [SlA (some ⟨b2, 0, none⟩) ([1, 1] : List Int).length ([1, 1] : List Int).length ([1, 1] : List Int), RowA c25 rv22.1] w) ?_ ?_
    · rcases Bool.eq_false_or_eq_true ((rv7.2 == 0) && (rv22.2 == 0)) with h44 | h44
      · have hs := hs.fix 27 (.bool true) rfl (vb h44)
        have hsh := ite_t hc45 h44
        refine st_val hs (y_move rfl) ⟨_, rfl, rfl⟩ rfl rfl fun a hs => ?_
        refine w_buildSlice (α := Int) (vs := [.int .i64 5, .int .i64 7]) (cs := [.int .i64 5, .int .i64 7]) (xs := ([5, 7] : List Int)) hs hw El22 rfl rfl rfl rfl rfl rfl ⟨⟨_, rfl, rfl⟩, ⟨⟨_, rfl, rfl⟩, rfl⟩⟩ rfl ⟨_, rfl, rfl⟩ ?_
        intro p47 a w hs hw
        obtain ⟨b48, rfl⟩ := row_some (hw.ownAt 0 rfl) (Nat.succ_pos _)
        obtain ⟨rv50, h49, hsh⟩ := bind_t hsh
        obtain ⟨Sv51, hw⟩ := w_share (α := Int) hw 2 rfl 4 rfl (.inl rfl)
        obtain ⟨Sv52, hw⟩ := w_share (α := Int) hw 0 rfl 1 rfl (.inl rfl)
        refine st_callR hs (ref05_Same_ok h49 hw.dom (hw.envAt 1 rfl) (hw.envAt 0 rfl)) (do_call Try.call23 rfl) ⟨_, rfl, rfl⟩ rfl rfl ?_
        intro v56 Sv53 w a h54 h55 hs
        subst h55
        have hw := hw.call h54
        refine st_val hs (y_pickT rfl rfl) trivial rfl rfl fun a hs => ?_
        refine wpList_nil ?_
        have hsh := Option.some.inj hsh
        subst hsh
        refine then_normal ?_
        exact ⟨Sv53, (hs.weaken _ ⟨rfl, rfl, rfl, trivial⟩), (hw.fit [1, 0] (by decide) ⟨rfl, rfl, trivial⟩ ⟨⟨8, rfl⟩, ⟨3, rfl⟩, trivial⟩)⟩
      · have hs := hs.fix 27 (.bool false) rfl (vb h44)
        have hsh := ite_f hc45 h44
        refine st_skip hs rfl rfl rfl rfl rfl fun a hs => ?_
        refine st_skip hs rfl rfl rfl rfl rfl fun a hs => ?_
        refine st_skip hs rfl rfl rfl rfl rfl fun a hs => ?_
        refine st_val hs (y_pickF rfl rfl) trivial rfl rfl fun a hs => ?_
        refine wpList_nil ?_
        have hsh := Option.some.inj hsh
        subst hsh
        refine then_normal ?_
        exact ⟨Sv29, (hs.weaken _ ⟨rfl, rfl, rfl, trivial⟩), (hw.fit [2, 0] (by decide) ⟨rfl, rfl, trivial⟩ ⟨⟨5, rfl⟩, ⟨0, rfl⟩, trivial⟩)⟩
    · rintro a w ⟨Sv46, hs, hw⟩
      refine st_val hs (y_move rfl) trivial rfl rfl fun a hs => ?_
      obtain ⟨c68, hc68, hsh⟩ := bind_t hsh
      refine wpl_join 4 (fun a w => ∃ (Sv69 : Nat → Prop), Sl 41 [(1, .pointer (some ⟨b3, 0, none⟩)), (36, .bool c68)] a ∧ Wd ⟨w0, S0, []⟩ Sv69 [.box b3 [.slice (some ⟨b2, 0, none⟩) ([1, 1] : List Int).length ([1, 1] : List Int).length, .int .i64 2, .int .i64 1] 28] [SlA (some ⟨b2, 0, none⟩) ([1, 1] : List Int).length ([1, 1] : List Int).length ([1, 1] : List Int)] w) ?_ ?_
      · rcases Bool.eq_false_or_eq_true c45 with h67 | h67
        · have hs := hs.fix 32 (.bool true) rfl (vb h67)
          have hsh := ite_t hc68 h67
          refine st_val hs (y_move rfl) ⟨_, rfl, rfl⟩ rfl rfl fun a hs => ?_
          refine w_buildSlice (α := Int) (vs := [.int .i64 7]) (cs := [.int .i64 7]) (xs := ([7] : List Int)) hs hw El22 rfl rfl rfl rfl rfl rfl ⟨⟨_, rfl, rfl⟩, rfl⟩ rfl ⟨_, rfl, rfl⟩ ?_
          intro p70 a w hs hw
          obtain ⟨b71, rfl⟩ := row_some (hw.ownAt 0 rfl) (Nat.succ_pos _)
          obtain ⟨rv73, h72, hsh⟩ := bind_t hsh
          obtain ⟨Sv74, hw⟩ := w_share (α := Int) hw 2 rfl 2 rfl (.inl rfl)
          obtain ⟨Sv75, hw⟩ := w_share (α := Int) hw 0 rfl 1 rfl (.inl rfl)
          refine st_callR hs (ref05_Same_ok h72 hw.dom (hw.envAt 1 rfl) (hw.envAt 0 rfl)) (do_call Try.call23 rfl) ⟨_, rfl, rfl⟩ rfl rfl ?_
          intro v79 Sv76 w a h77 h78 hs
          subst h78
          have hw := hw.call h77
          refine st_val hs (y_pickT rfl rfl) trivial rfl rfl fun a hs => ?_
          refine wpList_nil ?_
          have hsh := Option.some.inj hsh
          subst hsh
          refine then_normal ?_
          exact ⟨Sv76, (hs.weaken _ ⟨rfl, rfl, trivial⟩), (hw.fit [0] (by decide) ⟨rfl, trivial⟩ ⟨⟨3, rfl⟩, trivial⟩)⟩
        · have hs := hs.fix 32 (.bool false) rfl (vb h67)
          have hsh := ite_f hc68 h67
          refine st_skip hs rfl rfl rfl rfl rfl fun a hs => ?_
          refine st_skip hs rfl rfl rfl rfl rfl fun a hs => ?_
          refine st_skip hs rfl rfl rfl rfl rfl fun a hs => ?_
          refine st_val hs (y_pickF rfl rfl) trivial rfl rfl fun a hs => ?_
          refine wpList_nil ?_
          have hsh := Option.some.inj hsh
          subst hsh
          refine then_normal ?_
          exact ⟨Sv46, (hs.weaken _ ⟨rfl, rfl, trivial⟩), (hw.fit [0] (by decide) ⟨rfl, trivial⟩ ⟨⟨0, rfl⟩, trivial⟩)⟩
      · rintro a w ⟨Sv69, hs, hw⟩
        refine st_val hs (y_move rfl) trivial rfl rfl fun a hs => ?_
        obtain ⟨c87, hc87, hsh⟩ := bind_t hsh
        refine wpl_join 3 (fun a w => ∃ (Sv88 : Nat → Prop), Sl 41 [(40, .bool c87)] a ∧ Wd ⟨w0, S0, []⟩ Sv88 [] [] w) ?_ ?_
        · rcases Bool.eq_false_or_eq_true c68 with h86 | h86
          · have hs := hs.fix 37 (.bool true) rfl (vb h86)
            have hsh := ite_t hc87 h86
            refine st_val hs (y_loadBA (hw.ownAt 0 rfl) rfl Try.isAgg28 Try.sizeOf28 rfl rfl) ⟨_, rfl, rfl⟩ rfl rfl fun a hs => ?_
            obtain ⟨rv90, h89, hsh⟩ := bind_t hsh
            refine st_callR hs (filter_Valid_ok h89 hw.dom (hw.envAt 0 rfl)) (do_call Try.call32 rfl) ⟨_, rfl, rfl⟩ rfl rfl ?_
            intro v94 Sv91 w a h92 h93 hs
            subst h93
            have hw := hw.call h92
            refine st_val hs (y_pickT rfl rfl) trivial rfl rfl fun a hs => ?_
            refine wpList_nil ?_
            have hsh := Option.some.inj hsh
            subst hsh
            refine then_normal ?_
            exact ⟨Sv91, (hs.weaken _ ⟨rfl, trivial⟩), (hw.fit [] (by decide) trivial trivial)⟩
          · have hs := hs.fix 37 (.bool false) rfl (vb h86)
            have hsh := ite_f hc87 h86
            refine st_skip hs rfl rfl rfl rfl rfl fun a hs => ?_
            refine st_skip hs rfl rfl rfl rfl rfl fun a hs => ?_
            refine st_val hs (y_pickF rfl rfl) trivial rfl rfl fun a hs => ?_
            refine wpList_nil ?_
            have hsh := Option.some.inj hsh
            subst hsh
            refine then_normal ?_
            exact ⟨Sv69, (hs.weaken _ ⟨rfl, trivial⟩), (hw.fit [] (by decide) trivial trivial)⟩
        · rintro a w ⟨Sv88, hs, hw⟩
          refine st_val hs (y_assign rfl) trivial rfl rfl fun a hs => ?_
          refine wpList_nil ?_
          refine then_normal ?_
          have hsh := Option.some.inj hsh
          subst hsh
          refine wp_ret ?_
          exact ret1 hs rfl (rv_tmp rfl) (hw.ret rfl)

abbrev made_Roll_rd (w0 : World) (r : Dice) : (Nat → Prop) → World → Value → Prop := fun S w v => ∃ (b_0 : Nat) (p0_0 : Option Addr) (k0_0 : Nat), v = .pointer (some ⟨b_0, 0, none⟩) ∧ Fresh w0 S w (.box b_0 [.slice p0_0 r.L.length k0_0, .int .i64 r.At] 75) ∧ (SlA p0_0 r.L.length k0_0 r.L).p S w
set_option maxHeartbeats 4000000 in
set_option maxRecDepth 100000 in
theorem made_Roll_ok {w0 : World} {S0 : Nat → Prop} {p2 : Option Addr} {k3 : Nat} {l1 : (List Int)} {r : Dice} (hsh : made_Roll l1 = some r) (hS : ∀ b, S0 b → b < w0.heap.size) (h4 : (SlA p2 l1.length k3 l1).p S0 w0) : Calls Try.prog 12 #[.slice p2 l1.length k3] w0 (Ret [] w0 S0 (made_Roll_rd w0 r)) := by
  refine calls_of_wp Try.func12 rfl ?_
  have hs := Sl.enter #[.slice p2 l1.length k3] 6 [(0, .slice p2 l1.length k3)] rfl ⟨rfl, trivial⟩
  have hw := Wd.enter (E := []) hS (fun _ h => (by cases h))
  have hw := hw.addE h4
  delta made_Roll at hsh
  refine wp_seq ?_
  refine wp_region_lit ?_
  refine st_val hs (y_assign rfl) trivial rfl rfl fun a hs => ?_
  refine wpList_nil ?_
  refine then_normal ?_
  refine wp_seq ?_
  refine wp_region_lit ?_
  refine st_val hs (y_move rfl) trivial rfl rfl fun a hs => ?_
  refine st_val hs (y_build (vs := [(0, .slice p2 l1.length k3)]) Bld75 rfl rfl) trivial rfl rfl fun a hs => ?_
  refine w_box (cs := [.slice p2 l1.length k3, .int .i64 0]) hs hw rfl rfl rfl trivial ?_
  intro b5 a w hs hw
  refine st_val hs (y_assign rfl) trivial rfl rfl fun a hs => ?_
  refine wpList_nil ?_
  refine then_normal ?_
  have hsh := Option.some.inj hsh
  subst hsh
  refine wp_ret ?_
  exact ret1 hs rfl (rv_tmp rfl) (hw.ret ⟨b5, p2, k3, rfl, (hw.freshOf 0 rfl (.inl rfl)), (hw.envAt 0 rfl)⟩)

abbrev made_Dice_Next_rd (w0 : World) (bd : Nat) (r : (Int × Dice)) : (Nat → Prop) → World → Value → Prop := fun S w v => ∃ (q0_0 : Option Addr) (m0_0 : Nat), v = .int .i64 r.1 ∧ w.heap[bd]? = some (.cells #[.slice q0_0 r.2.L.length m0_0, .int .i64 r.2.At] 75 (0, 0)) ∧ (SlA q0_0 r.2.L.length m0_0 r.2.L).p S w
set_option maxHeartbeats 4000000 in
set_option maxRecDepth 100000 in
theorem made_Dice_Next_ok {w0 : World} {S0 : Nat → Prop} {b2 : Nat} {p3 : Option Addr} {k4 : Nat} {d1 : Dice} {n8 : Int} {r : (Int × Dice)} (hsh : made_Dice_Next d1 n8 = some r) (hS : ∀ b, S0 b → b < w0.heap.size) (h5 : w0.heap[b2]? = some (.cells #[.slice p3 d1.L.length k4, .int .i64 d1.At] 75 (0, 0))) (h6 : ¬ S0 b2) (h7 : (SlA p3 d1.L.length k4 d1.L).p S0 w0) : Calls Try.prog 15 #[.pointer (some ⟨b2, 0, none⟩), .int .i64 n8] w0 (Ret [b2] w0 S0 (made_Dice_Next_rd w0 b2 r)) := by
  refine calls_of_wp Try.func15 rfl ?_
  have hs := Sl.enter #[.pointer (some ⟨b2, 0, none⟩), .int .i64 n8] 45 [(0, .pointer (some ⟨b2, 0, none⟩)), (1, .int .i64 n8)] rfl ⟨rfl, rfl, trivial⟩
  have hw := Wd.enter1 (E := []) hS h5 h6 (fun _ h => (by cases h))
  have hw := hw.addE h7
  delta made_Dice_Next at hsh
  refine wp_seq ?_
  refine wp_region_lit ?_
  refine st_val hs (y_assign rfl) trivial rfl rfl fun a hs => ?_
  refine wpList_nil ?_
  refine then_normal ?_
  refine wp_seq ?_
  refine wp_seq ?_
  refine wp_only (fun a w => ∃ (Sv9 : Nat → Prop), Sl 45 [(0, .pointer (some ⟨b2, 0, none⟩)), (1, .int .i64 n8), (19, .bool ((decide ((d1.L.length : Int) ≤ d1.At)) || (decide (n8 < 1))))] a ∧ Wd ⟨w0, S0, [b2]⟩ Sv9 [.box b2 [.slice p3 d1.L.length k4, .int .i64 d1.At] 75] [SlA p3 d1.L.length k4 d1.L] w) ?_ ?_
  · rcases Bool.eq_false_or_eq_true (decide ((d1.L.length : Int) ≤ d1.At)) with h10 | h10
    · refine h_begin (C := Cls [.box b2 [.slice p3 d1.L.length k4, .int .i64 d1.At] 75] []) (by kernel_rfl) rfl ?_
      have hw := hw.drew
      have hC : Cls [.box b2 [.slice p3 d1.L.length k4, .int .i64 d1.At] 75] [] _ := hw.cls [0] ⟨rfl, trivial⟩ trivial
      refine h_take hs (i := 0) rfl (by kernel_rfl) (by kernel_rfl) (by kernel_rfl) trivial rfl rfl hC (fun w hC => y_move rfl) fun a hs => ?_
      refine h_take hs (i := 1) rfl (by kernel_rfl) (by kernel_rfl) (by kernel_rfl) trivial rfl rfl hC (fun w hC => y_nilCheck rfl) fun a hs => ?_
      refine h_take hs (i := 2) rfl (by kernel_rfl) (by kernel_rfl) (by kernel_rfl) trivial rfl rfl hC (fun w hC => y_fieldAddr (o' := 1) Try.runUnderlying75 rfl Try.sizeOf3 rfl rfl rfl) fun a hs => ?_
      refine h_take hs (i := 3) rfl (by kernel_rfl) (by kernel_rfl) (by kernel_rfl) trivial rfl rfl hC (fun w hC => y_loadB1 (hC.ownAt 0 rfl) rfl Try.isAgg3 rfl) fun a hs => ?_
      refine h_take hs (i := 4) rfl (by kernel_rfl) (by kernel_rfl) (by kernel_rfl) trivial rfl rfl hC (fun w hC => y_move rfl) fun a hs => ?_
      refine h_take hs (i := 5) rfl (by kernel_rfl) (by kernel_rfl) (by kernel_rfl) trivial rfl rfl hC (fun w hC => y_nilCheck rfl) fun a hs => ?_
      refine h_take hs (i := 6) rfl (by kernel_rfl) (by kernel_rfl) (by kernel_rfl) trivial rfl rfl hC (fun w hC => y_fieldAddr (o' := 0) Try.runUnderlying75 rfl Try.sizeOf22 rfl rfl rfl) fun a hs => ?_
      refine h_take hs (i := 7) rfl (by kernel_rfl) (by kernel_rfl) (by kernel_rfl) trivial rfl rfl hC (fun w hC => y_loadB1 (hC.ownAt 0 rfl) rfl Try.isAgg22 rfl) fun a hs => ?_
      refine h_take hs (i := 8) rfl (by kernel_rfl) (by kernel_rfl) (by kernel_rfl) trivial rfl rfl hC (fun w hC => y_len Try.runUnderlying22 rfl) fun a hs => ?_
      refine h_take hs (i := 9) rfl (by kernel_rfl) (by kernel_rfl) (by kernel_rfl) trivial rfl rfl hC (fun w hC => y_geq rfl rfl) fun a hs => ?_
      refine h_take hs (i := 10) rfl (by kernel_rfl) (by kernel_rfl) (by kernel_rfl) trivial rfl rfl hC (fun w hC => y_move rfl) fun a hs => ?_
      have hs := hs.fix 16 (.bool true) rfl (vb h10)
      refine h_skip hs (i := 11) rfl (by kernel_rfl) (by kernel_rfl) (by kernel_rfl) rfl rfl rfl (by first | exact .inl rfl | exact .inr rfl) rfl rfl hC fun a hs => ?_
      refine h_skip hs (i := 12) rfl (by kernel_rfl) (by kernel_rfl) (by kernel_rfl) rfl rfl rfl (by first | exact .inl rfl | exact .inr rfl) rfl rfl hC fun a hs => ?_
      refine h_take hs (i := 13) rfl (by kernel_rfl) (by kernel_rfl) (by kernel_rfl) trivial rfl rfl hC (fun w hC => y_pickTE (v := .bool ((decide ((d1.L.length : Int) ≤ d1.At)) || (decide (n8 < 1)))) rfl rfl (or_t h10)) fun a hs => ?_
      refine h_done (by kernel_rfl) ?_
      exact ⟨S0, (hs.weaken _ ⟨rfl, rfl, rfl, trivial⟩), (hw.fit [0] (by decide) ⟨rfl, trivial⟩ ⟨⟨0, rfl⟩, trivial⟩)⟩
    · refine h_begin (C := Cls [.box b2 [.slice p3 d1.L.length k4, .int .i64 d1.At] 75] []) (by kernel_rfl) rfl ?_
      have hw := hw.drew
      have hC : Cls [.box b2 [.slice p3 d1.L.length k4, .int .i64 d1.At] 75] [] _ := hw.cls [0] ⟨rfl, trivial⟩ trivial
      refine h_take hs (i := 0) rfl (by kernel_rfl) (by kernel_rfl) (by kernel_rfl) trivial rfl rfl hC (fun w hC => y_move rfl) fun a hs => ?_
      refine h_take hs (i := 1) rfl (by kernel_rfl) (by kernel_rfl) (by kernel_rfl) trivial rfl rfl hC (fun w hC => y_nilCheck rfl) fun a hs => ?_
      refine h_take hs (i := 2) rfl (by kernel_rfl) (by kernel_rfl) (by kernel_rfl) trivial rfl rfl hC (fun w hC => y_fieldAddr (o' := 1) Try.runUnderlying75 rfl Try.sizeOf3 rfl rfl rfl) fun a hs => ?_
      refine h_take hs (i := 3) rfl (by kernel_rfl) (by kernel_rfl) (by kernel_rfl) trivial rfl rfl hC (fun w hC => y_loadB1 (hC.ownAt 0 rfl) rfl Try.isAgg3 rfl) fun a hs => ?_
      refine h_take hs (i := 4) rfl (by kernel_rfl) (by kernel_rfl) (by kernel_rfl) trivial rfl rfl hC (fun w hC => y_move rfl) fun a hs => ?_
      refine h_take hs (i := 5) rfl (by kernel_rfl) (by kernel_rfl) (by kernel_rfl) trivial rfl rfl hC (fun w hC => y_nilCheck rfl) fun a hs => ?_
      refine h_take hs (i := 6) rfl (by kernel_rfl) (by kernel_rfl) (by kernel_rfl) trivial rfl rfl hC (fun w hC => y_fieldAddr (o' := 0) Try.runUnderlying75 rfl Try.sizeOf22 rfl rfl rfl) fun a hs => ?_
      refine h_take hs (i := 7) rfl (by kernel_rfl) (by kernel_rfl) (by kernel_rfl) trivial rfl rfl hC (fun w hC => y_loadB1 (hC.ownAt 0 rfl) rfl Try.isAgg22 rfl) fun a hs => ?_
      refine h_take hs (i := 8) rfl (by kernel_rfl) (by kernel_rfl) (by kernel_rfl) trivial rfl rfl hC (fun w hC => y_len Try.runUnderlying22 rfl) fun a hs => ?_
      refine h_take hs (i := 9) rfl (by kernel_rfl) (by kernel_rfl) (by kernel_rfl) trivial rfl rfl hC (fun w hC => y_geq rfl rfl) fun a hs => ?_
      refine h_take hs (i := 10) rfl (by kernel_rfl) (by kernel_rfl) (by kernel_rfl) trivial rfl rfl hC (fun w hC => y_move rfl) fun a hs => ?_
      have hs := hs.fix 16 (.bool false) rfl (vb h10)
      refine h_take hs (i := 11) rfl (by kernel_rfl) (by kernel_rfl) (by kernel_rfl) ⟨_, rfl, rfl⟩ rfl rfl hC (fun w hC => y_move rfl) fun a hs => ?_
      refine h_take hs (i := 12) rfl (by kernel_rfl) (by kernel_rfl) (by kernel_rfl) ⟨_, rfl, rfl⟩ rfl rfl hC (fun w hC => y_lss rfl rfl) fun a hs => ?_
      refine h_take hs (i := 13) rfl (by kernel_rfl) (by kernel_rfl) (by kernel_rfl) trivial rfl rfl hC (fun w hC => y_pickFE (v := .bool ((decide ((d1.L.length : Int) ≤ d1.At)) || (decide (n8 < 1)))) rfl rfl (or_f h10)) fun a hs => ?_
      refine h_done (by kernel_rfl) ?_
      exact ⟨S0, (hs.weaken _ ⟨rfl, rfl, rfl, trivial⟩), (hw.fit [0] (by decide) ⟨rfl, trivial⟩ ⟨⟨0, rfl⟩, trivial⟩)⟩
  · rintro a w ⟨Sv9, hs, hw⟩
    refine then_normal ?_
    refine wp_cond_split (hs.ev rfl) (fun h14 => ?_) (fun h14 => ?_)
    · have hsh := ite_t hsh h14
      refine wp_seq ?_
      refine wp_region_lit ?_
      refine st_val hs (y_assign rfl) trivial rfl rfl fun a hs => ?_
      refine wpList_nil ?_
      refine then_normal ?_
      have hsh := Option.some.inj hsh
      subst hsh
      refine wp_ret ?_
      refine then_ret ?_
      exact ret1 hs rfl (rv_tmp rfl) (hw.ret ⟨p3, k4, rfl, (hw.ownAt 0 rfl), (hw.envAt 0 rfl)⟩)
    · have hsh := ite_f hsh h14
      refine wp_skip ?_
      refine then_normal ?_
      refine wp_seq ?_
      obtain ⟨x17, h15, hsh⟩ := bind_t hsh
      obtain ⟨b23, o24, q21, c22, h25, h18, h19, h20, h16⟩ := hw.elemV 0 rfl h15
      subst h25
      obtain ⟨_, rfl, rfl⟩ := h16
      have hw := hw.addE h20
      obtain ⟨rem27, h26, hsh⟩ := bind_t hsh
      refine wp_only (fun a w => ∃ (Sv28 : Nat → Prop), Sl 45 [(0, .pointer (some ⟨b2, 0, none⟩)), (1, .int .i64 n8), (5, .int .i64 rem27)] a ∧ Wd ⟨w0, S0, [b2]⟩ Sv28 [.box b2 [.slice (some ⟨b23, o24, none⟩) d1.L.length k4, .int .i64 d1.At] 75] [SlA (some ⟨b23, o24, none⟩) d1.L.length k4 d1.L] w) ?_ ?_
      · refine h_begin (C := Cls [.box b2 [.slice (some ⟨b23, o24, none⟩) d1.L.length k4, .int .i64 d1.At] 75] [CeA b23 q21 [.int .i64 x17]]) (by kernel_rfl) rfl ?_
        have hw := hw.drew
        have hC : Cls [.box b2 [.slice (some ⟨b23, o24, none⟩) d1.L.length k4, .int .i64 d1.At] 75] [CeA b23 q21 [.int .i64 x17]] _ := hw.cls [0] ⟨rfl, trivial⟩ ⟨⟨0, rfl⟩, trivial⟩
        refine h_take hs (i := 0) rfl (by kernel_rfl) (by kernel_rfl) (by kernel_rfl) trivial rfl rfl hC (fun w hC => y_move rfl) fun a hs => ?_
        refine h_take hs (i := 1) rfl (by kernel_rfl) (by kernel_rfl) (by kernel_rfl) trivial rfl rfl hC (fun w hC => y_nilCheck rfl) fun a hs => ?_
        refine h_take hs (i := 2) rfl (by kernel_rfl) (by kernel_rfl) (by kernel_rfl) trivial rfl rfl hC (fun w hC => y_fieldAddr (o' := 0) Try.runUnderlying75 rfl Try.sizeOf22 rfl rfl rfl) fun a hs => ?_
        refine h_take hs (i := 3) rfl (by kernel_rfl) (by kernel_rfl) (by kernel_rfl) trivial rfl rfl hC (fun w hC => y_loadB1 (hC.ownAt 0 rfl) rfl Try.isAgg22 rfl) fun a hs => ?_
        refine h_take hs (i := 4) rfl (by kernel_rfl) (by kernel_rfl) (by kernel_rfl) trivial rfl rfl hC (fun w hC => y_move rfl) fun a hs => ?_
        refine h_take hs (i := 5) rfl (by kernel_rfl) (by kernel_rfl) (by kernel_rfl) trivial rfl rfl hC (fun w hC => y_nilCheck rfl) fun a hs => ?_
        refine h_take hs (i := 6) rfl (by kernel_rfl) (by kernel_rfl) (by kernel_rfl) trivial rfl rfl hC (fun w hC => y_fieldAddr (o' := 1) Try.runUnderlying75 rfl Try.sizeOf3 rfl rfl rfl) fun a hs => ?_
        refine h_take hs (i := 7) rfl (by kernel_rfl) (by kernel_rfl) (by kernel_rfl) trivial rfl rfl hC (fun w hC => y_loadB1 (hC.ownAt 0 rfl) rfl Try.isAgg3 rfl) fun a hs => ?_
        refine h_take hs (i := 8) rfl (by kernel_rfl) (by kernel_rfl) (by kernel_rfl) trivial rfl rfl hC (fun w hC => y_indexAt Try.runUnderlying22 Try.sizeOf3 rfl rfl h18.1 h18.2 h19) fun a hs => ?_
        refine h_take hs (i := 9) rfl (by kernel_rfl) (by kernel_rfl) (by kernel_rfl) trivial rfl rfl hC (fun w hC => y_loadE1 (j := 0) (hC.ceAt 0 rfl) rfl Try.isAgg3 rfl) fun a hs => ?_
        refine h_take hs (i := 10) rfl (by kernel_rfl) (by kernel_rfl) (by kernel_rfl) trivial rfl rfl hC (fun w hC => y_move rfl) fun a hs => ?_
        refine h_take hs (i := 11) rfl (by kernel_rfl) (by kernel_rfl) (by kernel_rfl) trivial rfl rfl hC (fun w hC => y_remM rfl rfl h26) fun a hs => ?_
        refine h_take hs (i := 12) rfl (by kernel_rfl) (by kernel_rfl) (by kernel_rfl) trivial rfl rfl hC (fun w hC => y_assign rfl) fun a hs => ?_
        refine h_done (by kernel_rfl) ?_
        exact ⟨Sv9, (hs.weaken _ ⟨rfl, rfl, rfl, trivial⟩), (hw.fit [0] (by decide) ⟨rfl, trivial⟩ ⟨⟨1, rfl⟩, trivial⟩)⟩
      · rintro a w ⟨Sv28, hs, hw⟩
        refine then_normal ?_
        refine wp_seq ?_
        refine wp_region_lit ?_
        refine st_val hs (y_move rfl) trivial rfl rfl fun a hs => ?_
        refine st_val hs (y_nilCheck rfl) trivial rfl rfl fun a hs => ?_
        refine st_val hs (y_fieldAddr (o' := 1) Try.runUnderlying75 rfl Try.sizeOf3 rfl rfl rfl) trivial rfl rfl fun a hs => ?_
        refine st_val hs (y_loadB1 (hw.ownAt 0 rfl) rfl Try.isAgg3 rfl) trivial rfl rfl fun a hs => ?_
        refine st_val hs (y_add rfl rfl) trivial rfl rfl fun a hs => ?_
        refine st_val hs (y_nilCheck rfl) trivial rfl rfl fun a hs => ?_
        refine st_val hs (y_fieldAddr (o' := 1) Try.runUnderlying75 rfl Try.sizeOf3 rfl rfl rfl) trivial rfl rfl fun a hs => ?_
        refine w_store (m := 1) (cs' := [.slice (some ⟨b23, o24, none⟩) d1.L.length k4, .int .i64 (w64 (d1.At + 1))]) hs hw 0 rfl rfl rfl Try.sizeOf3 rfl rfl rfl rfl trivial ?_
        intro a w hs hw
        refine wpList_nil ?_
        refine then_normal ?_
        refine wp_seq ?_
        refine wp_seq ?_
        refine wp_region_lit ?_
        refine st_val hs (y_move rfl) trivial rfl rfl fun a hs => ?_
        refine st_val hs (y_lss rfl rfl) trivial rfl rfl fun a hs => ?_
        refine wpList_nil ?_
        refine then_normal ?_
        refine wp_join (fun a w => ∃ (x33 : Int) (Sv32 : Nat → Prop), made_Dice_Next_j1 d1 x33 = some r ∧ Sl 45 [(5, .int .i64 x33)] a ∧ Wd ⟨w0, S0, [b2]⟩ Sv32 [.box b2 [.slice (some ⟨b23, o24, none⟩) d1.L.length k4, .int .i64 (w64 (d1.At + 1))] 75] [SlA (some ⟨b23, o24, none⟩) d1.L.length k4 d1.L] w) ?_ ?_
        · refine wp_cond_split (hs.ev rfl) (fun h34 => ?_) (fun h34 => ?_)
          · have hsh := ite_t hsh h34
            refine wp_region_lit ?_
            refine st_val hs (y_move rfl) trivial rfl rfl fun a hs => ?_
            refine st_val hs (y_move rfl) trivial rfl rfl fun a hs => ?_
            refine st_val hs (y_add rfl rfl) trivial rfl rfl fun a hs => ?_
            obtain ⟨x36, h35, hsh⟩ := bind_t hsh
            refine st_val hs (y_assignI rfl h35) trivial rfl rfl fun a hs => ?_
            refine wpList_nil ?_
            refine then_normal ?_
            exact ⟨x36, Sv28, hsh, (hs.weaken _ ⟨rfl, trivial⟩), (hw.fit [0] (by decide) ⟨rfl, trivial⟩ ⟨⟨0, rfl⟩, trivial⟩)⟩
          · have hsh := ite_f hsh h34
            refine wp_skip ?_
            refine then_normal ?_
            exact ⟨rem27, Sv28, hsh, (hs.weaken _ ⟨rfl, trivial⟩), (hw.fit [0] (by decide) ⟨rfl, trivial⟩ ⟨⟨0, rfl⟩, trivial⟩)⟩
        · rintro a w ⟨x33, Sv32, hsh, hs, hw⟩
          delta made_Dice_Next_j1 at hsh
          refine then_normal ?_
          refine wp_seq ?_
          refine wp_region_lit ?_
          refine st_val hs (y_move rfl) trivial rfl rfl fun a hs => ?_
          refine st_val hs (y_assign rfl) trivial rfl rfl fun a hs => ?_
          refine wpList_nil ?_
          refine then_normal ?_
          have hsh := Option.some.inj hsh
          subst hsh
          refine wp_ret ?_
          exact ret1 hs rfl (rv_tmp rfl) (hw.ret ⟨(some ⟨b23, o24, none⟩), k4, rfl, (hw.ownAt 0 rfl), (hw.envAt 0 rfl)⟩)

abbrev made_Dice_Pick_rd (w0 : World) (bd : Nat) (r : (Int × Dice)) : (Nat → Prop) → World → Value → Prop := fun S w v => ∃ (q0_0 : Option Addr) (m0_0 : Nat), v = .int .i64 r.1 ∧ w.heap[bd]? = some (.cells #[.slice q0_0 r.2.L.length m0_0, .int .i64 r.2.At] 75 (0, 0)) ∧ (SlA q0_0 r.2.L.length m0_0 r.2.L).p S w
set_option maxHeartbeats 4000000 in
set_option maxRecDepth 100000 in
theorem made_Dice_Pick_ok {w0 : World} {S0 : Nat → Prop} {b2 : Nat} {p3 : Option Addr} {k4 : Nat} {p9 : Option Addr} {k10 : Nat} {d1 : Dice} {l8 : (List Int)} {r : (Int × Dice)} (hsh : made_Dice_Pick d1 l8 = some r) (hS : ∀ b, S0 b → b < w0.heap.size) (h5 : w0.heap[b2]? = some (.cells #[.slice p3 d1.L.length k4, .int .i64 d1.At] 75 (0, 0))) (h6 : ¬ S0 b2) (h7 : (SlA p3 d1.L.length k4 d1.L).p S0 w0) (h11 : (SlA p9 l8.length k10 l8).p S0 w0) : Calls Try.prog 27 #[.pointer (some ⟨b2, 0, none⟩), .slice p9 l8.length k10] w0 (Ret [b2] w0 S0 (made_Dice_Pick_rd w0 b2 r)) := by
  refine calls_of_wp Try.func27 rfl ?_
  have hs := Sl.enter #[.pointer (some ⟨b2, 0, none⟩), .slice p9 l8.length k10] 12 [(0, .pointer (some ⟨b2, 0, none⟩)), (1, .slice p9 l8.length k10)] rfl ⟨rfl, rfl, trivial⟩
  have hw := Wd.enter1 (E := []) hS h5 h6 (fun _ h => (by cases h))
  have hw := hw.addE h7
  have hw := hw.addE h11
  delta made_Dice_Pick at hsh
  refine wp_seq ?_
  refine wp_region_lit ?_
  refine st_val hs (y_assign rfl) trivial rfl rfl fun a hs => ?_
  refine wpList_nil ?_
  refine then_normal ?_
  refine wp_seq ?_
  refine wp_region_lit ?_
  refine st_val hs (y_move rfl) trivial rfl rfl fun a hs => ?_
  refine st_val hs (y_move rfl) trivial rfl rfl fun a hs => ?_
  refine st_val hs (y_move rfl) trivial rfl rfl fun a hs => ?_
  refine st_val hs (y_len Try.runUnderlying22 rfl) trivial rfl rfl fun a hs => ?_
  obtain ⟨rv13, h12, hsh⟩ := bind_t hsh
  refine st_callR hs (made_Dice_Next_ok h12 hw.dom (hw.ownAt 0 rfl) (hw.boxS 0 rfl) (hw.envAt 1 rfl)) (do_call Try.call15 rfl) trivial rfl rfl ?_
  intro v21 Sv18 w a h19 h20 hs
  obtain ⟨p15, k16, rfl, h14, h17⟩ := h20
  have hw := hw.call1 0 rfl h19 h14
  have hw := hw.addE (e := SlA p15 rv13.2.L.length k16 rv13.2.L) h17
  obtain ⟨x24, h22, hsh⟩ := bind_t hsh
  obtain ⟨b30, o31, q28, c29, h32, h25, h26, h27, h23⟩ := hw.elemV 1 rfl h22
  subst h32
  obtain ⟨_, rfl, rfl⟩ := h23
  have hw := hw.addE h27
  refine st_val hs (y_indexAt Try.runUnderlying22 Try.sizeOf3 rfl rfl h25.1 h25.2 h26) trivial rfl rfl fun a hs => ?_
  refine st_val hs (y_loadE1 (j := 0) (hw.ceAt 0 rfl) rfl Try.isAgg3 rfl) trivial rfl rfl fun a hs => ?_
  refine st_val hs (y_assign rfl) trivial rfl rfl fun a hs => ?_
  refine wpList_nil ?_
  refine then_normal ?_
  have hsh := Option.some.inj hsh
  subst hsh
  refine wp_ret ?_
  exact ret1 hs rfl (rv_tmp rfl) (hw.ret ⟨p15, k16, rfl, (hw.ownAt 0 rfl), (hw.envAt 1 rfl)⟩)

abbrev made_Dice_Filter_rd (w0 : World) (bd : Nat) (r : (Filter × Dice)) : (Nat → Prop) → World → Value → Prop := fun S w v => ∃ (p0_0 : Option Addr) (k0_0 : Nat) (c0_0 : List Value) (q0_0 : Option Addr) (m0_0 : Nat), v = .agg #[.slice p0_0 r.1.Taps.length k0_0, .int .i64 r.1.Factor, .int .i64 r.1.Shift] ∧ Fresh w0 S w (.row p0_0 r.1.Taps.length k0_0 c0_0 3 1) ∧ (RowA c0_0 r.1.Taps).p S w ∧ w.heap[bd]? = some (.cells #[.slice q0_0 r.2.L.length m0_0, .int .i64 r.2.At] 75 (0, 0)) ∧ (SlA q0_0 r.2.L.length m0_0 r.2.L).p S w
set_option maxHeartbeats 4000000 in
set_option maxRecDepth 100000 in
theorem made_Dice_Filter_ok {w0 : World} {S0 : Nat → Prop} {b2 : Nat} {p3 : Option Addr} {k4 : Nat} {d1 : Dice} {r : (Filter × Dice)} (hsh : made_Dice_Filter d1 = some r) (hS : ∀ b, S0 b → b < w0.heap.size) (h5 : w0.heap[b2]? = some (.cells #[.slice p3 d1.L.length k4, .int .i64 d1.At] 75 (0, 0))) (h6 : ¬ S0 b2) (h7 : (SlA p3 d1.L.length k4 d1.L).p S0 w0) : Calls Try.prog 13 #[.pointer (some ⟨b2, 0, none⟩)] w0 (Ret [b2] w0 S0 (made_Dice_Filter_rd w0 b2 r)) := by
  refine calls_of_wp Try.func13 rfl ?_
  have hs := Sl.enter #[.pointer (some ⟨b2, 0, none⟩)] 45 [(0, .pointer (some ⟨b2, 0, none⟩))] rfl ⟨rfl, trivial⟩
  have hw := Wd.enter1 (E := []) hS h5 h6 (fun _ h => (by cases h))
  have hw := hw.addE h7
  delta made_Dice_Filter at hsh
  refine wp_seq ?_
  refine wp_region_lit ?_
  refine w_alloc (cs := [.slice none ([] : List Int).length 0, .int .i64 0, .int .i64 0]) hs hw Try.zeroValue28 rfl rfl trivial ?_
  intro b8 a w hs hw
  refine wpList_nil ?_
  refine then_normal ?_
  refine wp_seq ?_
  refine wp_region_lit ?_
  refine st_val hs (y_move rfl) trivial rfl rfl fun a hs => ?_
  refine w_buildSlice (α := Int) (vs := [.int .i64 1, .int .i64 1, .int .i64 2, .int .i64 3]) (cs := [.int .i64 1, .int .i64 1, .int .i64 2, .int .i64 3]) (xs := ([1, 1, 2, 3] : List Int)) hs hw El22 rfl rfl rfl rfl rfl rfl ⟨⟨_, rfl, rfl⟩, ⟨⟨_, rfl, rfl⟩, ⟨⟨_, rfl, rfl⟩, ⟨⟨_, rfl, rfl⟩, rfl⟩⟩⟩⟩ rfl trivial ?_
  intro p9 a w hs hw
  obtain ⟨b10, rfl⟩ := row_some (hw.ownAt 0 rfl) (Nat.succ_pos _)
  obtain ⟨rv12, h11, hsh⟩ := bind_t hsh
  obtain ⟨Sv17, hw⟩ := w_share (α := Int) hw 0 rfl 0 rfl (.inr ⟨2, _, _, _, rfl, rfl, rfl⟩)
  refine st_callR hs (made_Dice_Pick_ok h11 hw.dom (hw.ownAt 1 rfl) (hw.boxS 1 rfl) (hw.envAt 2 rfl) (hw.envAt 0 rfl)) (do_call Try.call27 rfl) trivial rfl rfl ?_
  intro v21 Sv18 w a h19 h20 hs
  obtain ⟨p14, k15, rfl, h13, h16⟩ := h20
  have hw := hw.call1 1 rfl h19 h13
  have hw := hw.addE (e := SlA p14 rv12.2.L.length k15 rv12.2.L) h16
  refine st_val hs (y_move rfl) trivial rfl rfl fun a hs => ?_
  refine w_buildSlice (α := Int) (vs := [.int .i64 0, .int .i64 2, .int .i64 4, .int .i64 6]) (cs := [.int .i64 0, .int .i64 2, .int .i64 4, .int .i64 6]) (xs := ([0, 2, 4, 6] : List Int)) hs hw El22 rfl rfl rfl rfl rfl rfl ⟨⟨_, rfl, rfl⟩, ⟨⟨_, rfl, rfl⟩, ⟨⟨_, rfl, rfl⟩, ⟨⟨_, rfl, rfl⟩, rfl⟩⟩⟩⟩ rfl trivial ?_
  intro p22 a w hs hw
  obtain ⟨b23, rfl⟩ := row_some (hw.ownAt 0 rfl) (Nat.succ_pos _)
  obtain ⟨rv25, h24, hsh⟩ := bind_t hsh
  obtain ⟨Sv30, hw⟩ := w_share (α := Int) hw 0 rfl 0 rfl (.inr ⟨2, _, _, _, rfl, rfl, rfl⟩)
  refine st_callR hs (made_Dice_Pick_ok h24 hw.dom (hw.ownAt 1 rfl) (hw.boxS 1 rfl) (hw.envAt 2 rfl) (hw.envAt 0 rfl)) (do_call Try.call27 rfl) trivial rfl rfl ?_
  intro v34 Sv31 w a h32 h33 hs
  obtain ⟨p27, k28, rfl, h26, h29⟩ := h33
  have hw := hw.call1 1 rfl h32 h26
  have hw := hw.addE (e := SlA p27 rv25.2.L.length k28 rv25.2.L) h29
  refine st_val hs (y_build (vs := [(1, .int .i64 rv12.1), (2, .int .i64 rv25.1)]) Bld28 rfl rfl) trivial rfl rfl fun a hs => ?_
  refine w_alloc (cs := [.slice none ([] : List Int).length 0, .int .i64 0, .int .i64 0]) hs hw Try.zeroValue28 rfl rfl trivial ?_
  intro b35 a w hs hw
  refine w_store (m := 3) (cs' := [.slice none ([] : List Int).length 0, .int .i64 rv12.1, .int .i64 rv25.1]) hs hw 0 rfl rfl rfl Try.sizeOf28 rfl rfl rfl rfl trivial ?_
  intro a w hs hw
  refine wpList_nil ?_
  refine then_normal ?_
  refine wp_seq ?_
  refine wp_region_lit ?_
  refine st_val hs (y_fieldAddr (o' := 2) Try.runUnderlying28 rfl Try.sizeOf3 rfl rfl rfl) trivial rfl rfl fun a hs => ?_
  refine st_val hs (y_loadB1 (hw.ownAt 0 rfl) rfl Try.isAgg3 rfl) trivial rfl rfl fun a hs => ?_
  refine st_val hs (y_convert Try.runUnderlying3 Try.runUnderlying30 rfl) trivial rfl rfl fun a hs => ?_
  obtain ⟨shl37, h36, hsh⟩ := bind_t hsh
  refine st_val hs (y_shlM rfl rfl h36) trivial rfl rfl fun a hs => ?_
  refine st_val hs (y_assign rfl) trivial rfl rfl fun a hs => ?_
  refine wpList_nil ?_
  refine then_normal ?_
  refine wp_seq ?_
  refine wp_seq ?_
  refine wp_region_lit ?_
  refine st_val hs (y_move rfl) trivial rfl rfl fun a hs => ?_
  obtain ⟨rv39, h38, hsh⟩ := bind_t hsh
  refine st_callR hs (made_Dice_Next_ok h38 hw.dom (hw.ownAt 2 rfl) (hw.boxS 2 rfl) (hw.envAt 0 rfl)) (do_call Try.call15 rfl) trivial rfl rfl ?_
  intro v47 Sv44 w a h45 h46 hs
  obtain ⟨p41, k42, rfl, h40, h43⟩ := h46
  have hw := hw.call1 2 rfl h45 h40
  have hw := hw.addE (e := SlA p41 rv39.2.L.length k42 rv39.2.L) h43
  refine st_val hs (y_add rfl rfl) trivial rfl rfl fun a hs => ?_
  obtain ⟨i49, h48, hsh⟩ := bind_t hsh
  refine st_val hs (y_assignI rfl h48) trivial rfl rfl fun a hs => ?_
  refine wpList_nil ?_
  refine then_normal ?_
  obtain ⟨e204, h258, hsh⟩ := bind_t hsh
  refine wp_join (fun a w => ∃ (p205 : Option Addr) (k206 : Nat) (p207 : Option Addr) (k208 : Nat) (c209 : List Value) (Sv210 : Nat → Prop), Sl 45 [(2, .pointer (some ⟨b8, 0, none⟩)), (3, .pointer (some ⟨b35, 0, none⟩))] a ∧ Wd ⟨w0, S0, [b2]⟩ Sv210 [.box b2 [.slice p205 e204.1.length k206, .int .i64 e204.2.1] 75, .box b8 [.slice none ([] : List Int).length 0, .int .i64 0, .int .i64 0] 28, .box b35 [.slice p207 e204.2.2.length k208, .int .i64 rv12.1, .int .i64 rv25.1] 28, .row p207 e204.2.2.length k208 c209 3 1] [SlA p205 e204.1.length k206 e204.1, SlA none ([] : List Int).length 0 ([] : List Int), RowA c209 e204.2.2] w) ?_ ?_
  · refine wp_block ?_
    have hw := hw.nilRow Int 3
    have hw := hw.addE (e := SlA (α := Int) none 0 0 []) nil_sl
    refine wp_while (fun sv50 a w => ∃ (p149 : Option Addr) (k150 : Nat) (p151 : Option Addr) (k152 : Nat) (c153 : List Value) (Sv154 : Nat → Prop), Sl 45 [(0, .pointer (some ⟨b2, 0, none⟩)), (2, .pointer (some ⟨b8, 0, none⟩)), (3, .pointer (some ⟨b35, 0, none⟩)), (4, .int .i64 sv50.2.2.2.1), (5, .int .i64 sv50.2.2.2.2)] a ∧ Wd ⟨w0, S0, [b2]⟩ Sv154 [.box b2 [.slice p149 sv50.1.length k150, .int .i64 sv50.2.1] 75, .box b8 [.slice none ([] : List Int).length 0, .int .i64 0, .int .i64 0] 28, .box b35 [.slice p151 sv50.2.2.1.length k152, .int .i64 rv12.1, .int .i64 rv25.1] 28, .row p151 sv50.2.2.1.length k152 c153 3 1] [SlA p149 sv50.1.length k150 sv50.1, SlA none ([] : List Int).length 0 ([] : List Int), RowA c153 sv50.2.2.1] w) (rv39.2.L, rv39.2.At, ([] : List Int), shl37, i49) h258 ⟨p41, k42, none, 0, [], Sv44, (hs.weaken _ ⟨rfl, rfl, rfl, rfl, rfl, trivial⟩), (hw.fit [3, 2, 1, 0] (by decide) ⟨rfl, rfl, rfl, rfl, trivial⟩ ⟨⟨2, rfl⟩, ⟨0, rfl⟩, ⟨1, rfl⟩, trivial⟩)⟩ ?_
    clear h258
    repeat clear hsh
    rintro sv50 a w tv202 ⟨p149, k150, p151, k152, c153, Sv154, hs, hw⟩ hsh hd201
    delta made_Dice_Filter_l1 at hsh
    refine wp_seq ?_
    refine wp_seq ?_
    refine wp_region_lit ?_
    refine st_val hs (y_move rfl) trivial rfl rfl fun a hs => ?_
    refine st_val hs (y_gtr rfl rfl) trivial rfl rfl fun a hs => ?_
    refine wpList_nil ?_
    refine then_normal ?_
    refine wp_cond_split (hs.ev rfl) (fun h212 => ?_) (fun h212 => ?_)
    · have hsh := ite_t hsh h212
      refine wp_skip ?_
      refine then_normal ?_
      refine wp_seq ?_
      refine wp_block ?_
      refine wp_seq ?_
      refine wp_region_lit ?_
      refine st_val hs (y_move rfl) trivial rfl rfl fun a hs => ?_
      refine st_val hs (y_move rfl) trivial rfl rfl fun a hs => ?_
      refine st_val hs (y_mul rfl rfl) trivial rfl rfl fun a hs => ?_
      refine st_val hs (y_add rfl rfl) trivial rfl rfl fun a hs => ?_
      obtain ⟨rv235, h234, hsh⟩ := bind_t hsh
      refine st_callR hs (made_Dice_Next_ok h234 hw.dom (hw.ownAt 0 rfl) (hw.boxS 0 rfl) (hw.envAt 0 rfl)) (do_call Try.call15 rfl) trivial rfl rfl ?_
      intro v243 Sv240 w a h241 h242 hs
      obtain ⟨p237, k238, rfl, h236, h239⟩ := h242
      have hw := hw.call1 0 rfl h241 h236
      have hw := hw.addE (e := SlA p237 rv235.2.L.length k238 rv235.2.L) h239
      refine st_val hs (y_move rfl) trivial rfl rfl fun a hs => ?_
      refine st_val hs (y_sub rfl rfl) trivial rfl rfl fun a hs => ?_
      obtain ⟨x245, h244, hsh⟩ := bind_t hsh
      refine st_val hs (y_assignI rfl h244) trivial rfl rfl fun a hs => ?_
      refine wpList_nil ?_
      refine then_normal ?_
      refine wp_seq ?_
      refine wp_region_lit ?_
      refine st_val hs (y_move rfl) trivial rfl rfl fun a hs => ?_
      refine st_val hs (y_move rfl) trivial rfl rfl fun a hs => ?_
      refine st_val hs (y_move rfl) trivial rfl rfl fun a hs => ?_
      refine st_val hs (y_neg rfl) trivial rfl rfl fun a hs => ?_
      refine st_val hs (y_max rfl rfl) trivial rfl rfl fun a hs => ?_
      refine st_val hs (y_sub rfl rfl) trivial rfl rfl fun a hs => ?_
      obtain ⟨left247, h246, hsh⟩ := bind_t hsh
      refine st_val hs (y_assignI rfl h246) trivial rfl rfl fun a hs => ?_
      refine wpList_nil ?_
      refine then_normal ?_
      refine wp_region_lit ?_
      refine st_val hs (y_fieldAddr (o' := 0) Try.runUnderlying28 rfl Try.sizeOf22 rfl rfl rfl) trivial rfl rfl fun a hs => ?_
      refine st_val hs (y_loadB1 (hw.ownAt 2 rfl) rfl Try.isAgg22 rfl) trivial rfl rfl fun a hs => ?_
      refine st_val hs (y_move rfl) trivial rfl rfl fun a hs => ?_
      refine w_buildSlice (α := Int) (vs := [.int .i64 x245]) (cs := [.int .i64 x245]) (xs := ([x245] : List Int)) hs hw El22 rfl rfl rfl rfl rfl rfl ⟨⟨_, rfl, rfl⟩, rfl⟩ rfl trivial ?_
      intro p248 a w hs hw
      obtain ⟨b249, rfl⟩ := row_some (hw.ownAt 0 rfl) (Nat.succ_pos _)
      obtain ⟨l251, h250, hsh⟩ := bind_t hsh
      refine w_appendR (α := Int) hs hw El22 4 rfl rfl rfl 4 rfl 0 rfl 0 rfl h250 rfl trivial ?_
      intro p252 k253 c254 a w hs hw
      refine st_val hs (y_fieldAddr (o' := 0) Try.runUnderlying28 rfl Try.sizeOf22 rfl rfl rfl) trivial rfl rfl fun a hs => ?_
      refine w_store (m := 1) (cs' := [.slice p252 l251.length k253, .int .i64 rv12.1, .int .i64 rv25.1]) hs hw 3 rfl rfl rfl Try.sizeOf22 rfl rfl rfl rfl trivial ?_
      intro a w hs hw
      refine wpList_nil ?_
      refine blk_normal ?_
      refine then_normal ?_
      refine wp_region_lit ?_
      refine st_val hs (y_move rfl) trivial rfl rfl fun a hs => ?_
      refine st_val hs (y_sub rfl rfl) trivial rfl rfl fun a hs => ?_
      obtain ⟨i256, h255, hsh⟩ := bind_t hsh
      refine st_val hs (y_assignI rfl h255) trivial rfl rfl fun a hs => ?_
      refine wpList_nil ?_
      refine then_normal ?_
      exact ⟨_, (Option.some.inj hsh).symm, p237, k238, p252, k253, c254, Sv240, (hs.weaken _ ⟨rfl, rfl, rfl, rfl, rfl, trivial⟩), (hw.fit [1, 2, 3, 4] (by decide) ⟨rfl, rfl, rfl, rfl, trivial⟩ ⟨⟨2, rfl⟩, ⟨4, rfl⟩, ⟨0, rfl⟩, trivial⟩)⟩
    · have hsh := ite_f hsh h212
      refine wp_exit ?_
      refine then_exit ?_
      refine then_exit ?_
      refine blk_exit ?_
      have hsh := Option.some.inj hsh
      subst hsh
      have h257 := hd201 _ rfl
      subst h257
      refine then_normal ?_
      exact ⟨p149, k150, p151, k152, c153, Sv154, (hs.weaken _ ⟨rfl, rfl, trivial⟩), (hw.fit [0, 1, 2, 3] (by decide) ⟨rfl, rfl, rfl, rfl, trivial⟩ ⟨⟨0, rfl⟩, ⟨1, rfl⟩, ⟨2, rfl⟩, trivial⟩)⟩
  · rintro a w ⟨p205, k206, p207, k208, c209, Sv210, hs, hw⟩
    refine then_normal ?_
    refine wp_seq ?_
    refine wp_region_lit ?_
    refine st_val hs (y_loadBA (hw.ownAt 2 rfl) rfl Try.isAgg28 Try.sizeOf28 rfl rfl) trivial rfl rfl fun a hs => ?_
    refine w_store (m := 3) (cs' := [.slice p207 e204.2.2.length k208, .int .i64 rv12.1, .int .i64 rv25.1]) hs hw 1 rfl rfl rfl Try.sizeOf28 rfl rfl rfl rfl trivial ?_
    intro a w hs hw
    refine wpList_nil ?_
    refine then_normal ?_
    have hsh := Option.some.inj hsh
    subst hsh
    refine wp_ret ?_
    exact ret1 hs rfl (rv_cell hw 1 rfl rfl Try.isAgg28 Try.sizeOf28 rfl) (hw.ret ⟨p207, k208, c209, p205, k206, rfl, (hw.freshOf 3 rfl (.inr ⟨0, _, _, _, rfl, rfl, rfl⟩)), (hw.envAt 2 rfl), (hw.ownAt 0 rfl), (hw.envAt 0 rfl)⟩)

abbrev made_Dice_Samples_rd (w0 : World) (bd : Nat) (r : ((List Int) × Dice)) : (Nat → Prop) → World → Value → Prop := fun S w v => ∃ (p0_0 : Option Addr) (k0_0 : Nat) (c0_0 : List Value) (q0_0 : Option Addr) (m0_0 : Nat), v = .slice p0_0 r.1.length k0_0 ∧ Fresh w0 S w (.row p0_0 r.1.length k0_0 c0_0 3 1) ∧ (RowA c0_0 r.1).p S w ∧ w.heap[bd]? = some (.cells #[.slice q0_0 r.2.L.length m0_0, .int .i64 r.2.At] 75 (0, 0)) ∧ (SlA q0_0 r.2.L.length m0_0 r.2.L).p S w
set_option maxHeartbeats 4000000 in
set_option maxRecDepth 100000 in
theorem made_Dice_Samples_ok {w0 : World} {S0 : Nat → Prop} {b2 : Nat} {p3 : Option Addr} {k4 : Nat} {d1 : Dice} {n8 : Int} {r : ((List Int) × Dice)} (hsh : made_Dice_Samples d1 n8 = some r) (hS : ∀ b, S0 b → b < w0.heap.size) (h5 : w0.heap[b2]? = some (.cells #[.slice p3 d1.L.length k4, .int .i64 d1.At] 75 (0, 0))) (h6 : ¬ S0 b2) (h7 : (SlA p3 d1.L.length k4 d1.L).p S0 w0) : Calls Try.prog 16 #[.pointer (some ⟨b2, 0, none⟩), .int .i64 n8] w0 (Ret [b2] w0 S0 (made_Dice_Samples_rd w0 b2 r)) := by
  refine calls_of_wp Try.func16 rfl ?_
  have hs := Sl.enter #[.pointer (some ⟨b2, 0, none⟩), .int .i64 n8] 53 [(0, .pointer (some ⟨b2, 0, none⟩)), (1, .int .i64 n8)] rfl ⟨rfl, rfl, trivial⟩
  have hw := Wd.enter1 (E := []) hS h5 h6 (fun _ h => (by cases h))
  have hw := hw.addE h7
  delta made_Dice_Samples at hsh
  refine wp_seq ?_
  refine wp_region_lit ?_
  refine st_val hs (y_assign rfl) trivial rfl rfl fun a hs => ?_
  refine wpList_nil ?_
  refine then_normal ?_
  refine wp_seq ?_
  refine wp_region_lit ?_
  refine st_val hs (y_assign rfl) trivial rfl rfl fun a hs => ?_
  refine wpList_nil ?_
  refine then_normal ?_
  refine wp_seq ?_
  refine wp_region_lit ?_
  refine st_val hs (y_move rfl) trivial rfl rfl fun a hs => ?_
  refine w_buildSlice (α := Int) (vs := [.int .i64 0, .int .i64 5, .int .i64 (-100), .int .i64 1000]) (cs := [.int .i64 0, .int .i64 5, .int .i64 (-100), .int .i64 1000]) (xs := ([0, 5, (-100), 1000] : List Int)) hs hw El22 rfl rfl rfl rfl rfl rfl ⟨⟨_, rfl, rfl⟩, ⟨⟨_, rfl, rfl⟩, ⟨⟨_, rfl, rfl⟩, ⟨⟨_, rfl, rfl⟩, rfl⟩⟩⟩⟩ rfl trivial ?_
  intro p9 a w hs hw
  obtain ⟨b10, rfl⟩ := row_some (hw.ownAt 0 rfl) (Nat.succ_pos _)
  obtain ⟨rv12, h11, hsh⟩ := bind_t hsh
  obtain ⟨Sv17, hw⟩ := w_share (α := Int) hw 0 rfl 0 rfl (.inr ⟨1, _, _, _, rfl, rfl, rfl⟩)
  refine st_callR hs (made_Dice_Pick_ok h11 hw.dom (hw.ownAt 0 rfl) (hw.boxS 0 rfl) (hw.envAt 2 rfl) (hw.envAt 0 rfl)) (do_call Try.call27 rfl) trivial rfl rfl ?_
  intro v21 Sv18 w a h19 h20 hs
  obtain ⟨p14, k15, rfl, h13, h16⟩ := h20
  have hw := hw.call1 0 rfl h19 h13
  have hw := hw.addE (e := SlA p14 rv12.2.L.length k15 rv12.2.L) h16
  refine st_val hs (y_assign rfl) trivial rfl rfl fun a hs => ?_
  refine wpList_nil ?_
  refine then_normal ?_
  refine wp_seq ?_
  refine wp_seq ?_
  refine wp_region_lit ?_
  refine st_val hs (y_move rfl) trivial rfl rfl fun a hs => ?_
  refine st_val hs (y_move rfl) trivial rfl rfl fun a hs => ?_
  obtain ⟨rv23, h22, hsh⟩ := bind_t hsh
  refine st_callR hs (made_Dice_Next_ok h22 hw.dom (hw.ownAt 0 rfl) (hw.boxS 0 rfl) (hw.envAt 0 rfl)) (do_call Try.call15 rfl) trivial rfl rfl ?_
  intro v31 Sv28 w a h29 h30 hs
  obtain ⟨p25, k26, rfl, h24, h27⟩ := h30
  have hw := hw.call1 0 rfl h29 h24
  have hw := hw.addE (e := SlA p25 rv23.2.L.length k26 rv23.2.L) h27
  refine st_val hs (y_add rfl rfl) trivial rfl rfl fun a hs => ?_
  obtain ⟨i33, h32, hsh⟩ := bind_t hsh
  refine st_val hs (y_assignI rfl h32) trivial rfl rfl fun a hs => ?_
  refine wpList_nil ?_
  refine then_normal ?_
  obtain ⟨e4328, h5762, hsh⟩ := bind_t hsh
  refine wp_join (fun a w => ∃ (p4329 : Option Addr) (k4330 : Nat) (p4331 : Option Addr) (k4332 : Nat) (c4333 : List Value) (Sv4334 : Nat → Prop), Sl 53 [(5, .slice p4331 e4328.2.2.length k4332)] a ∧ Wd ⟨w0, S0, [b2]⟩ Sv4334 [.box b2 [.slice p4329 e4328.1.length k4330, .int .i64 e4328.2.1] 75, .row p4331 e4328.2.2.length k4332 c4333 3 1] [SlA p4329 e4328.1.length k4330 e4328.1, RowA c4333 e4328.2.2] w) ?_ ?_
  · refine wp_block ?_
    have hw := hw.nilRow Int 3
    refine wp_while (fun sv34 a w => ∃ (p2893 : Option Addr) (k2894 : Nat) (p2895 : Option Addr) (k2896 : Nat) (c2897 : List Value) (Sv2898 : Nat → Prop), Sl 53 [(0, .pointer (some ⟨b2, 0, none⟩)), (5, .slice p2895 sv34.2.2.1.length k2896), (6, .int .i64 sv34.2.2.2.1), (7, .int .i64 sv34.2.2.2.2)] a ∧ Wd ⟨w0, S0, [b2]⟩ Sv2898 [.box b2 [.slice p2893 sv34.1.length k2894, .int .i64 sv34.2.1] 75, .row p2895 sv34.2.2.1.length k2896 c2897 3 1] [SlA p2893 sv34.1.length k2894 sv34.1, RowA c2897 sv34.2.2.1] w) (rv23.2.L, rv23.2.At, ([] : List Int), rv12.1, i33) h5762 ⟨p25, k26, none, 0, [], Sv28, (hs.weaken _ ⟨rfl, rfl, rfl, rfl, trivial⟩), (hw.fit [1, 0] (by decide) ⟨rfl, rfl, trivial⟩ ⟨⟨1, rfl⟩, ⟨0, rfl⟩, trivial⟩)⟩ ?_
    clear h5762
    repeat clear hsh
    rintro sv34 a w tv4326 ⟨p2893, k2894, p2895, k2896, c2897, Sv2898, hs, hw⟩ hsh hd4325
    delta made_Dice_Samples_l1 at hsh
    refine wp_seq ?_
    refine wp_seq ?_
    refine wp_region_lit ?_
    refine st_val hs (y_move rfl) trivial rfl rfl fun a hs => ?_
    refine st_val hs (y_gtr rfl rfl) trivial rfl rfl fun a hs => ?_
    refine wpList_nil ?_
    refine then_normal ?_
    refine wp_cond_split (hs.ev rfl) (fun h4336 => ?_) (fun h4336 => ?_)
    · have hsh := ite_t hsh h4336
      refine wp_skip ?_
      refine then_normal ?_
      refine wp_seq ?_
      refine wp_block ?_
      refine wp_seq ?_
      refine wp_seq ?_
      refine wp_region_lit ?_
      refine st_val hs (y_move rfl) trivial rfl rfl fun a hs => ?_
      obtain ⟨rv5049, h5048, hsh⟩ := bind_t hsh
      refine st_callR hs (made_Dice_Next_ok h5048 hw.dom (hw.ownAt 0 rfl) (hw.boxS 0 rfl) (hw.envAt 0 rfl)) (do_call Try.call15 rfl) trivial rfl rfl ?_
      intro v5057 Sv5054 w a h5055 h5056 hs
      obtain ⟨p5051, k5052, rfl, h5050, h5053⟩ := h5056
      have hw := hw.call1 0 rfl h5055 h5050
      have hw := hw.addE (e := SlA p5051 rv5049.2.L.length k5052 rv5049.2.L) h5053
      refine wpList_nil ?_
      refine then_normal ?_
      refine wp_block ?_
      refine wp_seq ?_
      refine wp_region_lit ?_
      refine st_val hs (y_eql rfl rfl) trivial rfl rfl fun a hs => ?_
      refine st_val hs (y_assign rfl) trivial rfl rfl fun a hs => ?_
      refine wpList_nil ?_
      refine then_normal ?_
      refine wp_join (fun a w => ∃ (x5577 : (List Int)) (x5578 : Int) (x5579 : Int) (p5574 : Option Addr) (k5575 : Nat) (Sv5576 : Nat → Prop), made_Dice_Samples_j1 sv34 x5577 x5578 x5579 = some tv4326 ∧ Sl 53 [(0, .pointer (some ⟨b2, 0, none⟩)), (5, .slice p2895 sv34.2.2.1.length k2896), (6, .int .i64 x5579), (7, .int .i64 sv34.2.2.2.2)] a ∧ Wd ⟨w0, S0, [b2]⟩ Sv5576 [.box b2 [.slice p5574 x5577.length k5575, .int .i64 x5578] 75, .row p2895 sv34.2.2.1.length k2896 c2897 3 1] [SlA p5574 x5577.length k5575 x5577, RowA c2897 sv34.2.2.1] w) ?_ ?_
      · refine wp_cond_split (hs.ev rfl) (fun h5591 => ?_) (fun h5591 => ?_)
        · have hsh := ite_t hsh h5591
          refine wp_region_lit ?_
          refine st_val hs (y_move rfl) trivial rfl rfl fun a hs => ?_
          refine st_val hs (y_move rfl) trivial rfl rfl fun a hs => ?_
          refine w_buildSlice (α := Int) (vs := [.int .i64 127, .int .i64 128, .int .i64 (-128), .int .i64 (-129), .int .i64 300]) (cs := [.int .i64 127, .int .i64 128, .int .i64 (-128), .int .i64 (-129), .int .i64 300]) (xs := ([127, 128, (-128), (-129), 300] : List Int)) hs hw El22 rfl rfl rfl rfl rfl rfl ⟨⟨_, rfl, rfl⟩, ⟨⟨_, rfl, rfl⟩, ⟨⟨_, rfl, rfl⟩, ⟨⟨_, rfl, rfl⟩, ⟨⟨_, rfl, rfl⟩, rfl⟩⟩⟩⟩⟩ rfl trivial ?_
          intro p5592 a w hs hw
          obtain ⟨b5593, rfl⟩ := row_some (hw.ownAt 0 rfl) (Nat.succ_pos _)
          obtain ⟨rv5595, h5594, hsh⟩ := bind_t hsh
          obtain ⟨Sv5600, hw⟩ := w_share (α := Int) hw 0 rfl 0 rfl (.inr ⟨1, _, _, _, rfl, rfl, rfl⟩)
          refine st_callR hs (made_Dice_Pick_ok h5594 hw.dom (hw.ownAt 0 rfl) (hw.boxS 0 rfl) (hw.envAt 2 rfl) (hw.envAt 0 rfl)) (do_call Try.call27 rfl) trivial rfl rfl ?_
          intro v5604 Sv5601 w a h5602 h5603 hs
          obtain ⟨p5597, k5598, rfl, h5596, h5599⟩ := h5603
          have hw := hw.call1 0 rfl h5602 h5596
          have hw := hw.addE (e := SlA p5597 rv5595.2.L.length k5598 rv5595.2.L) h5599
          refine st_val hs (y_add rfl rfl) trivial rfl rfl fun a hs => ?_
          obtain ⟨x5606, h5605, hsh⟩ := bind_t hsh
          refine st_val hs (y_assignI rfl h5605) trivial rfl rfl fun a hs => ?_
          refine wpList_nil ?_
          refine then_normal ?_
          exact ⟨rv5595.2.L, rv5595.2.At, x5606, p5597, k5598, Sv5601, hsh, (hs.weaken _ ⟨rfl, rfl, rfl, rfl, trivial⟩), (hw.fit [0, 1] (by decide) ⟨rfl, rfl, trivial⟩ ⟨⟨0, rfl⟩, ⟨5, rfl⟩, trivial⟩)⟩
        · have hsh := ite_f hsh h5591
          refine wp_seq ?_
          refine wp_region_lit ?_
          refine st_val hs (y_eql rfl rfl) trivial rfl rfl fun a hs => ?_
          refine st_val hs (y_assign rfl) trivial rfl rfl fun a hs => ?_
          refine wpList_nil ?_
          refine then_normal ?_
          refine wp_join (fun a w => ∃ (x5684 : (List Int)) (x5685 : Int) (x5686 : Int) (p5681 : Option Addr) (k5682 : Nat) (Sv5683 : Nat → Prop), made_Dice_Samples_j2 sv34 x5684 x5685 x5686 = some tv4326 ∧ Sl 53 [(0, .pointer (some ⟨b2, 0, none⟩)), (5, .slice p2895 sv34.2.2.1.length k2896), (6, .int .i64 x5686), (7, .int .i64 sv34.2.2.2.2)] a ∧ Wd ⟨w0, S0, [b2]⟩ Sv5683 [.box b2 [.slice p5681 x5684.length k5682, .int .i64 x5685] 75, .row p2895 sv34.2.2.1.length k2896 c2897 3 1] [SlA p5681 x5684.length k5682 x5684, RowA c2897 sv34.2.2.1] w) ?_ ?_
          · refine wp_cond_split (hs.ev rfl) (fun h5687 => ?_) (fun h5687 => ?_)
            · have hsh := ite_t hsh h5687
              refine wp_region_lit ?_
              refine st_val hs (y_move rfl) trivial rfl rfl fun a hs => ?_
              refine st_val hs (y_move rfl) trivial rfl rfl fun a hs => ?_
              refine w_buildSlice (α := Int) (vs := [.int .i64 32767, .int .i64 32768, .int .i64 (-32768), .int .i64 (-32769)]) (cs := [.int .i64 32767, .int .i64 32768, .int .i64 (-32768), .int .i64 (-32769)]) (xs := ([32767, 32768, (-32768), (-32769)] : List Int)) hs hw El22 rfl rfl rfl rfl rfl rfl ⟨⟨_, rfl, rfl⟩, ⟨⟨_, rfl, rfl⟩, ⟨⟨_, rfl, rfl⟩, ⟨⟨_, rfl, rfl⟩, rfl⟩⟩⟩⟩ rfl trivial ?_
              intro p5688 a w hs hw
              obtain ⟨b5689, rfl⟩ := row_some (hw.ownAt 0 rfl) (Nat.succ_pos _)
              obtain ⟨rv5691, h5690, hsh⟩ := bind_t hsh
              obtain ⟨Sv5696, hw⟩ := w_share (α := Int) hw 0 rfl 0 rfl (.inr ⟨1, _, _, _, rfl, rfl, rfl⟩)
              refine st_callR hs (made_Dice_Pick_ok h5690 hw.dom (hw.ownAt 0 rfl) (hw.boxS 0 rfl) (hw.envAt 2 rfl) (hw.envAt 0 rfl)) (do_call Try.call27 rfl) trivial rfl rfl ?_
              intro v5700 Sv5697 w a h5698 h5699 hs
              obtain ⟨p5693, k5694, rfl, h5692, h5695⟩ := h5699
              have hw := hw.call1 0 rfl h5698 h5692
              have hw := hw.addE (e := SlA p5693 rv5691.2.L.length k5694 rv5691.2.L) h5695
              refine st_val hs (y_add rfl rfl) trivial rfl rfl fun a hs => ?_
              obtain ⟨x5702, h5701, hsh⟩ := bind_t hsh
              refine st_val hs (y_assignI rfl h5701) trivial rfl rfl fun a hs => ?_
              refine wpList_nil ?_
              refine then_normal ?_
              exact ⟨rv5691.2.L, rv5691.2.At, x5702, p5693, k5694, Sv5697, hsh, (hs.weaken _ ⟨rfl, rfl, rfl, rfl, trivial⟩), (hw.fit [0, 1] (by decide) ⟨rfl, rfl, trivial⟩ ⟨⟨0, rfl⟩, ⟨5, rfl⟩, trivial⟩)⟩
            · have hsh := ite_f hsh h5687
              refine wp_seq ?_
              refine wp_region_lit ?_
              refine st_val hs (y_eql rfl rfl) trivial rfl rfl fun a hs => ?_
              refine st_val hs (y_assign rfl) trivial rfl rfl fun a hs => ?_
              refine wpList_nil ?_
              refine then_normal ?_
              refine wp_join (fun a w => ∃ (x5732 : (List Int)) (x5733 : Int) (x5734 : Int) (p5729 : Option Addr) (k5730 : Nat) (Sv5731 : Nat → Prop), made_Dice_Samples_j3 sv34 x5732 x5733 x5734 = some tv4326 ∧ Sl 53 [(0, .pointer (some ⟨b2, 0, none⟩)), (5, .slice p2895 sv34.2.2.1.length k2896), (6, .int .i64 x5734), (7, .int .i64 sv34.2.2.2.2)] a ∧ Wd ⟨w0, S0, [b2]⟩ Sv5731 [.box b2 [.slice p5729 x5732.length k5730, .int .i64 x5733] 75, .row p2895 sv34.2.2.1.length k2896 c2897 3 1] [SlA p5729 x5732.length k5730 x5732, RowA c2897 sv34.2.2.1] w) ?_ ?_
              · refine wp_cond_split (hs.ev rfl) (fun h5735 => ?_) (fun h5735 => ?_)
                · have hsh := ite_t hsh h5735
                  refine wp_region_lit ?_
                  refine st_val hs (y_move rfl) trivial rfl rfl fun a hs => ?_
                  refine w_buildSlice (α := Int) (vs := [.int .i64 0, .int .i64 1073741823, .int .i64 (-1073741823), .int .i64 536870912]) (cs := [.int .i64 0, .int .i64 1073741823, .int .i64 (-1073741823), .int .i64 536870912]) (xs := ([0, 1073741823, (-1073741823), 536870912] : List Int)) hs hw El22 rfl rfl rfl rfl rfl rfl ⟨⟨_, rfl, rfl⟩, ⟨⟨_, rfl, rfl⟩, ⟨⟨_, rfl, rfl⟩, ⟨⟨_, rfl, rfl⟩, rfl⟩⟩⟩⟩ rfl trivial ?_
                  intro p5736 a w hs hw
                  obtain ⟨b5737, rfl⟩ := row_some (hw.ownAt 0 rfl) (Nat.succ_pos _)
                  obtain ⟨rv5739, h5738, hsh⟩ := bind_t hsh
                  obtain ⟨Sv5744, hw⟩ := w_share (α := Int) hw 0 rfl 0 rfl (.inr ⟨1, _, _, _, rfl, rfl, rfl⟩)
                  refine st_callR hs (made_Dice_Pick_ok h5738 hw.dom (hw.ownAt 0 rfl) (hw.boxS 0 rfl) (hw.envAt 2 rfl) (hw.envAt 0 rfl)) (do_call Try.call27 rfl) trivial rfl rfl ?_
                  intro v5748 Sv5745 w a h5746 h5747 hs
                  obtain ⟨p5741, k5742, rfl, h5740, h5743⟩ := h5747
                  have hw := hw.call1 0 rfl h5746 h5740
                  have hw := hw.addE (e := SlA p5741 rv5739.2.L.length k5742 rv5739.2.L) h5743
                  refine st_val hs (y_assign rfl) trivial rfl rfl fun a hs => ?_
                  refine wpList_nil ?_
                  refine then_normal ?_
                  exact ⟨rv5739.2.L, rv5739.2.At, rv5739.1, p5741, k5742, Sv5745, hsh, (hs.weaken _ ⟨rfl, rfl, rfl, rfl, trivial⟩), (hw.fit [0, 1] (by decide) ⟨rfl, rfl, trivial⟩ ⟨⟨0, rfl⟩, ⟨5, rfl⟩, trivial⟩)⟩
                · have hsh := ite_f hsh h5735
                  refine wp_region_lit ?_
                  refine st_val hs (y_move rfl) trivial rfl rfl fun a hs => ?_
                  refine st_val hs (y_move rfl) trivial rfl rfl fun a hs => ?_
                  obtain ⟨rv5750, h5749, hsh⟩ := bind_t hsh
                  refine st_callR hs (made_Dice_Next_ok h5749 hw.dom (hw.ownAt 0 rfl) (hw.boxS 0 rfl) (hw.envAt 0 rfl)) (do_call Try.call15 rfl) trivial rfl rfl ?_
                  intro v5758 Sv5755 w a h5756 h5757 hs
                  obtain ⟨p5752, k5753, rfl, h5751, h5754⟩ := h5757
                  have hw := hw.call1 0 rfl h5756 h5751
                  have hw := hw.addE (e := SlA p5752 rv5750.2.L.length k5753 rv5750.2.L) h5754
                  refine st_val hs (y_sub rfl rfl) trivial rfl rfl fun a hs => ?_
                  refine st_val hs (y_add rfl rfl) trivial rfl rfl fun a hs => ?_
                  obtain ⟨x5760, h5759, hsh⟩ := bind_t hsh
                  refine st_val hs (y_assignI rfl h5759) trivial rfl rfl fun a hs => ?_
                  refine wpList_nil ?_
                  refine then_normal ?_
                  exact ⟨rv5750.2.L, rv5750.2.At, x5760, p5752, k5753, Sv5755, hsh, (hs.weaken _ ⟨rfl, rfl, rfl, rfl, trivial⟩), (hw.fit [0, 1] (by decide) ⟨rfl, rfl, trivial⟩ ⟨⟨0, rfl⟩, ⟨3, rfl⟩, trivial⟩)⟩
              · rintro a w ⟨x5732, x5733, x5734, p5729, k5730, Sv5731, hsh, hs, hw⟩
                delta made_Dice_Samples_j3 at hsh
                refine then_normal ?_
                exact ⟨x5732, x5733, x5734, p5729, k5730, Sv5731, hsh, (hs.weaken _ ⟨rfl, rfl, rfl, rfl, trivial⟩), (hw.fit [0, 1] (by decide) ⟨rfl, rfl, trivial⟩ ⟨⟨0, rfl⟩, ⟨1, rfl⟩, trivial⟩)⟩
          · rintro a w ⟨x5684, x5685, x5686, p5681, k5682, Sv5683, hsh, hs, hw⟩
            delta made_Dice_Samples_j2 at hsh
            refine then_normal ?_
            exact ⟨x5684, x5685, x5686, p5681, k5682, Sv5683, hsh, (hs.weaken _ ⟨rfl, rfl, rfl, rfl, trivial⟩), (hw.fit [0, 1] (by decide) ⟨rfl, rfl, trivial⟩ ⟨⟨0, rfl⟩, ⟨1, rfl⟩, trivial⟩)⟩
      · rintro a w ⟨x5577, x5578, x5579, p5574, k5575, Sv5576, hsh, hs, hw⟩
        delta made_Dice_Samples_j1 at hsh
        refine blk_normal ?_
        refine then_normal ?_
        refine wp_seq ?_
        refine wp_region_lit ?_
        refine st_val hs (y_move rfl) trivial rfl rfl fun a hs => ?_
        refine st_val hs (y_max rfl rfl) trivial rfl rfl fun a hs => ?_
        refine st_val hs (y_min rfl rfl) trivial rfl rfl fun a hs => ?_
        obtain ⟨x5581, h5580, hsh⟩ := bind_t hsh
        refine st_val hs (y_assignI rfl h5580) trivial rfl rfl fun a hs => ?_
        refine wpList_nil ?_
        refine then_normal ?_
        refine wp_region_lit ?_
        refine st_val hs (y_move rfl) trivial rfl rfl fun a hs => ?_
        refine st_val hs (y_move rfl) trivial rfl rfl fun a hs => ?_
        refine w_buildSlice (α := Int) (vs := [.int .i64 x5581]) (cs := [.int .i64 x5581]) (xs := ([x5581] : List Int)) hs hw El22 rfl rfl rfl rfl rfl rfl ⟨⟨_, rfl, rfl⟩, rfl⟩ rfl trivial ?_
        intro p5582 a w hs hw
        obtain ⟨b5583, rfl⟩ := row_some (hw.ownAt 0 rfl) (Nat.succ_pos _)
        obtain ⟨l5585, h5584, hsh⟩ := bind_t hsh
        refine w_appendR (α := Int) hs hw El22 2 rfl rfl rfl 2 rfl 0 rfl 0 rfl h5584 rfl trivial ?_
        intro p5586 k5587 c5588 a w hs hw
        refine st_val hs (y_assign rfl) trivial rfl rfl fun a hs => ?_
        refine wpList_nil ?_
        refine blk_normal ?_
        refine then_normal ?_
        refine wp_region_lit ?_
        refine st_val hs (y_move rfl) trivial rfl rfl fun a hs => ?_
        refine st_val hs (y_sub rfl rfl) trivial rfl rfl fun a hs => ?_
        obtain ⟨i5590, h5589, hsh⟩ := bind_t hsh
        refine st_val hs (y_assignI rfl h5589) trivial rfl rfl fun a hs => ?_
        refine wpList_nil ?_
        refine then_normal ?_
        exact ⟨_, (Option.some.inj hsh).symm, p5574, k5575, p5586, k5587, c5588, Sv5576, (hs.weaken _ ⟨rfl, rfl, rfl, rfl, trivial⟩), (hw.fit [1, 2] (by decide) ⟨rfl, rfl, trivial⟩ ⟨⟨2, rfl⟩, ⟨0, rfl⟩, trivial⟩)⟩
    · have hsh := ite_f hsh h4336
      refine wp_exit ?_
      refine then_exit ?_
      refine then_exit ?_
      refine blk_exit ?_
      have hsh := Option.some.inj hsh
      subst hsh
      have h5761 := hd4325 _ rfl
      subst h5761
      refine then_normal ?_
      exact ⟨p2893, k2894, p2895, k2896, c2897, Sv2898, (hs.weaken _ ⟨rfl, trivial⟩), (hw.fit [0, 1] (by decide) ⟨rfl, rfl, trivial⟩ ⟨⟨0, rfl⟩, ⟨1, rfl⟩, trivial⟩)⟩
  · rintro a w ⟨p4329, k4330, p4331, k4332, c4333, Sv4334, hs, hw⟩
    refine then_normal ?_
    refine wp_seq ?_
    refine wp_region_lit ?_
    refine st_val hs (y_move rfl) trivial rfl rfl fun a hs => ?_
    refine st_val hs (y_assign rfl) trivial rfl rfl fun a hs => ?_
    refine wpList_nil ?_
    refine then_normal ?_
    have hsh := Option.some.inj hsh
    subst hsh
    refine wp_ret ?_
    exact ret1 hs rfl (rv_tmp rfl) (hw.ret ⟨p4331, k4332, c4333, p4329, k4330, rfl, (hw.freshOf 1 rfl (.inr ⟨0, _, _, _, rfl, rfl, rfl⟩)), (hw.envAt 1 rfl), (hw.ownAt 0 rfl), (hw.envAt 0 rfl)⟩)

abbrev slices_Clone_Lint_int_rd (w0 : World) (r : (List Int)) : (Nat → Prop) → World → Value → Prop := fun S w v => ∃ (p0_0 : Option Addr) (k0_0 : Nat) (c0_0 : List Value), v = .slice p0_0 r.length k0_0 ∧ Fresh w0 S w (.row p0_0 r.length k0_0 c0_0 3 1) ∧ (RowA c0_0 r).p S w
set_option maxHeartbeats 4000000 in
set_option maxRecDepth 100000 in
theorem slices_Clone_Lint_int_ok {w0 : World} {S0 : Nat → Prop} {p2 : Option Addr} {k3 : Nat} {s1 : (List Int)} {r : (List Int)} (hsh : slices_Clone_Lint_int s1 = some r) (hS : ∀ b, S0 b → b < w0.heap.size) (h4 : (SlA p2 s1.length k3 s1).p S0 w0) : Calls Try.prog 45 #[.slice p2 s1.length k3] w0 (Ret [] w0 S0 (slices_Clone_Lint_int_rd w0 r)) := by
  refine calls_of_wp Try.func45 rfl ?_
  have hs := Sl.enter #[.slice p2 s1.length k3] 8 [(0, .slice p2 s1.length k3)] rfl ⟨rfl, trivial⟩
  have hw := Wd.enter (E := []) hS (fun _ h => (by cases h))
  have hw := hw.addE h4
  delta slices_Clone_Lint_int at hsh
  refine wp_seq ?_
  refine wp_region_lit ?_
  refine st_val hs (y_assign rfl) trivial rfl rfl fun a hs => ?_
  refine wpList_nil ?_
  refine then_normal ?_
  refine wp_seq ?_
  refine wp_seq ?_
  refine wp_region_lit ?_
  refine st_val hs (y_move rfl) trivial rfl rfl fun a hs => ?_
  refine st_val hs (y_eqlN Try.runUnderlying22 rfl rfl) trivial rfl rfl fun a hs => ?_
  refine wpList_nil ?_
  refine then_normal ?_
  rcases p2 with _ | av6
  · obtain rfl := slnil (hw.envAt 0 rfl)
    have hsh : some ([] : List Int) = some r := by simpa [appM, maxLen] using hsh
    refine wp_cond_true (hs.ev rfl) ?_
    refine wp_seq ?_
    refine wp_region_lit ?_
    refine st_val hs (y_assign rfl) trivial rfl rfl fun a hs => ?_
    refine wpList_nil ?_
    refine then_normal ?_
    have hsh := Option.some.inj hsh
    subst hsh
    have hw := hw.nilRow Int 3
    refine wp_ret ?_
    refine then_ret ?_
    exact ret1 hs rfl (rv_tmp rfl) (hw.ret ⟨none, 0, [], rfl, (hw.freshOf 0 rfl (.inl rfl)), (hw.envAt 0 rfl)⟩)
  · refine wp_cond_false (hs.ev rfl) ?_
    refine wp_skip ?_
    refine then_normal ?_
    refine wp_seq ?_
    refine wp_region_lit ?_
    refine w_buildSlice (α := Int) (vs := []) (cs := []) (xs := ([] : List Int)) hs hw El22 rfl rfl rfl rfl rfl rfl rfl rfl trivial ?_
    intro p7 a w hs hw
    refine st_val hs (y_move rfl) trivial rfl rfl fun a hs => ?_
    obtain ⟨l9, h8, hsh⟩ := bind_t hsh
    refine w_appendE (α := Int) hs hw El22 0 rfl rfl rfl 0 rfl 1 rfl h8 rfl trivial ?_
    intro p10 k11 c12 a w hs hw
    refine st_val hs (y_assign rfl) trivial rfl rfl fun a hs => ?_
    refine wpList_nil ?_
    refine then_normal ?_
    have hsh := Option.some.inj hsh
    subst hsh
    refine wp_ret ?_
    exact ret1 hs rfl (rv_tmp rfl) (hw.ret ⟨p10, k11, c12, rfl, (hw.freshOf 0 rfl (.inl rfl)), (hw.envAt 0 rfl)⟩)

abbrev filter_Start_rd (w0 : World) (r : (Feed × Int)) : (Nat → Prop) → World → Value → Prop := fun S w v => ∃ (p0_0 : Option Addr) (k0_0 : Nat) (c0_0 : List Value) (p0_3 : Option Addr) (k0_3 : Nat), v = .tuple #[.agg #[.slice p0_0 r.1.Filter.Taps.length k0_0, .int .i64 r.1.Filter.Factor, .int .i64 r.1.Filter.Shift, .slice p0_3 r.1.Past.length k0_3, .int .i64 r.1.Number], .int .i64 r.2] ∧ Fresh w0 S w (.row p0_0 r.1.Filter.Taps.length k0_0 c0_0 3 1) ∧ (RowA c0_0 r.1.Filter.Taps).p S w ∧ (SlA p0_3 r.1.Past.length k0_3 r.1.Past).p S w
set_option maxHeartbeats 4000000 in
set_option maxRecDepth 100000 in
theorem filter_Start_ok {w0 : World} {S0 : Nat → Prop} {p2 : Option Addr} {k3 : Nat} {f1 : Filter} {number5 : Int} {r : (Feed × Int)} (hsh : filter_Start f1 number5 = some r) (hS : ∀ b, S0 b → b < w0.heap.size) (h4 : (SlA p2 f1.Taps.length k3 f1.Taps).p S0 w0) : Calls Try.prog 24 #[.agg #[.slice p2 f1.Taps.length k3, .int .i64 f1.Factor, .int .i64 f1.Shift], .int .i64 number5] w0 (Ret [] w0 S0 (filter_Start_rd w0 r)) := by
  refine calls_of_wp Try.func24 rfl ?_
  have hs := Sl.enter #[.agg #[.slice p2 f1.Taps.length k3, .int .i64 f1.Factor, .int .i64 f1.Shift], .int .i64 number5] 21 [(0, .agg #[.slice p2 f1.Taps.length k3, .int .i64 f1.Factor, .int .i64 f1.Shift]), (1, .int .i64 number5)] rfl ⟨rfl, rfl, trivial⟩
  have hw := Wd.enter (E := []) hS (fun _ h => (by cases h))
  have hw := hw.addE h4
  delta filter_Start at hsh
  refine wp_seq ?_
  refine wp_region_lit ?_
  refine w_box (cs := [.slice p2 f1.Taps.length k3, .int .i64 f1.Factor, .int .i64 f1.Shift]) hs hw rfl rfl rfl trivial ?_
  intro b6 a w hs hw
  refine w_alloc (cs := [.slice none ([] : List Int).length 0, .int .i64 0, .int .i64 0, .slice none ([] : List Int).length 0, .int .i64 0]) hs hw Try.zeroValue51 rfl rfl trivial ?_
  intro b7 a w hs hw
  refine st_val hs (y_assign rfl) trivial rfl rfl fun a hs => ?_
  refine wpList_nil ?_
  refine then_normal ?_
  refine wp_seq ?_
  refine wp_seq ?_
  refine wp_region_lit ?_
  refine st_val hs (y_loadBA (hw.ownAt 1 rfl) rfl Try.isAgg28 Try.sizeOf28 rfl rfl) trivial rfl rfl fun a hs => ?_
  obtain ⟨rv9, h8, hsh⟩ := bind_t hsh
  refine st_callR hs (filter_Valid_ok h8 hw.dom (hw.envAt 0 rfl)) (do_call Try.call32 rfl) trivial rfl rfl ?_
  intro v13 Sv10 w a h11 h12 hs
  subst h12
  have hw := hw.call h11
  refine st_val hs (y_not rfl) trivial rfl rfl fun a hs => ?_
  refine wpList_nil ?_
  refine then_normal ?_
  refine wp_cond_split (hs.ev rfl) (fun h15 => ?_) (fun h15 => ?_)
  · have hsh := ite_t hsh h15
    refine wp_seq ?_
    refine wp_region_lit ?_
    refine st_val hs (y_build (vs := []) Bld51 rfl rfl) trivial rfl rfl fun a hs => ?_
    refine w_store (m := 5) (cs' := [.slice none ([] : List Int).length 0, .int .i64 0, .int .i64 0, .slice none ([] : List Int).length 0, .int .i64 0]) hs hw 0 rfl rfl rfl Try.sizeOf51 rfl rfl rfl rfl trivial ?_
    intro a w hs hw
    refine st_val hs (y_assign rfl) trivial rfl rfl fun a hs => ?_
    refine wpList_nil ?_
    refine then_normal ?_
    have hsh := Option.some.inj hsh
    subst hsh
    have hw := hw.nilRow Int 3
    have hw := hw.addE (e := SlA (α := Int) none 0 0 []) nil_sl
    refine wp_ret ?_
    refine then_ret ?_
    exact ret2 hs rfl (rv_cell hw 1 rfl rfl Try.isAgg51 Try.sizeOf51 rfl) (rv_tmp rfl) (hw.ret ⟨none, 0, [], none, 0, rfl, (hw.freshOf 0 rfl (.inl rfl)), (hw.envAt 1 rfl), (hw.envAt 0 rfl)⟩)
  · have hsh := ite_f hsh h15
    refine wp_skip ?_
    refine then_normal ?_
    refine wp_seq ?_
    refine wp_seq ?_
    refine wp_region_lit ?_
    refine st_val hs (y_move rfl) trivial rfl rfl fun a hs => ?_
    obtain ⟨rv17, h16, hsh⟩ := bind_t hsh
    refine st_callR hs (filter_in_ok h16 hw.dom) (do_call Try.call46 rfl) trivial rfl rfl ?_
    intro v21 Sv18 w a h19 h20 hs
    subst h20
    have hw := hw.call h19
    refine st_val hs (y_not rfl) trivial rfl rfl fun a hs => ?_
    refine wpList_nil ?_
    refine then_normal ?_
    refine wp_cond_split (hs.ev rfl) (fun h23 => ?_) (fun h23 => ?_)
    · have hsh := ite_t hsh h23
      refine wp_seq ?_
      refine wp_region_lit ?_
      refine st_val hs (y_build (vs := []) Bld51 rfl rfl) trivial rfl rfl fun a hs => ?_
      refine w_store (m := 5) (cs' := [.slice none ([] : List Int).length 0, .int .i64 0, .int .i64 0, .slice none ([] : List Int).length 0, .int .i64 0]) hs hw 0 rfl rfl rfl Try.sizeOf51 rfl rfl rfl rfl trivial ?_
      intro a w hs hw
      refine st_val hs (y_assign rfl) trivial rfl rfl fun a hs => ?_
      refine wpList_nil ?_
      refine then_normal ?_
      have hsh := Option.some.inj hsh
      subst hsh
      have hw := hw.nilRow Int 3
      have hw := hw.addE (e := SlA (α := Int) none 0 0 []) nil_sl
      refine wp_ret ?_
      refine then_ret ?_
      exact ret2 hs rfl (rv_cell hw 1 rfl rfl Try.isAgg51 Try.sizeOf51 rfl) (rv_tmp rfl) (hw.ret ⟨none, 0, [], none, 0, rfl, (hw.freshOf 0 rfl (.inl rfl)), (hw.envAt 1 rfl), (hw.envAt 0 rfl)⟩)
    · have hsh := ite_f hsh h23
      refine wp_skip ?_
      refine then_normal ?_
      refine wp_seq ?_
      refine wp_region_lit ?_
      refine st_val hs (y_fieldAddr (o' := 0) Try.runUnderlying28 rfl Try.sizeOf22 rfl rfl rfl) trivial rfl rfl fun a hs => ?_
      refine st_val hs (y_loadB1 (hw.ownAt 1 rfl) rfl Try.isAgg22 rfl) trivial rfl rfl fun a hs => ?_
      obtain ⟨rv25, h24, hsh⟩ := bind_t hsh
      refine st_callR hs (slices_Clone_Lint_int_ok h24 hw.dom (hw.envAt 0 rfl)) (do_call Try.call45 rfl) trivial rfl rfl ?_
      intro v34 Sv31 w a h32 h33 hs
      obtain ⟨p26, k27, c28, rfl, h29, h30⟩ := h33
      have hw := hw.callF h32 h29
      have hw := hw.addE (e := RowA c28 rv25) h30
      refine st_val hs (y_fieldAddr (o' := 0) Try.runUnderlying28 rfl Try.sizeOf22 rfl rfl rfl) trivial rfl rfl fun a hs => ?_
      refine w_store (m := 1) (cs' := [.slice p26 rv25.length k27, .int .i64 f1.Factor, .int .i64 f1.Shift]) hs hw 2 rfl rfl rfl Try.sizeOf22 rfl rfl rfl rfl trivial ?_
      intro a w hs hw
      refine wpList_nil ?_
      refine then_normal ?_
      refine wp_seq ?_
      refine wp_region_lit ?_
      refine st_val hs (y_loadBA (hw.ownAt 2 rfl) rfl Try.isAgg28 Try.sizeOf28 rfl rfl) trivial rfl rfl fun a hs => ?_
      refine st_val hs (y_move rfl) trivial rfl rfl fun a hs => ?_
      refine st_val hs (y_build (vs := [(0, .agg #[.slice p26 rv25.length k27, .int .i64 f1.Factor, .int .i64 f1.Shift]), (2, .int .i64 number5)]) Bld51 rfl rfl) trivial rfl rfl fun a hs => ?_
      refine w_store (m := 5) (cs' := [.slice p26 rv25.length k27, .int .i64 f1.Factor, .int .i64 f1.Shift, .slice none ([] : List Int).length 0, .int .i64 number5]) hs hw 1 rfl rfl rfl Try.sizeOf51 rfl rfl rfl rfl trivial ?_
      intro a w hs hw
      refine st_val hs (y_assign rfl) trivial rfl rfl fun a hs => ?_
      refine wpList_nil ?_
      refine then_normal ?_
      have hsh := Option.some.inj hsh
      subst hsh
      have hw := hw.addE (e := SlA (α := Int) none 0 0 []) nil_sl
      refine wp_ret ?_
      exact ret2 hs rfl (rv_cell hw 1 rfl rfl Try.isAgg51 Try.sizeOf51 rfl) (rv_tmp rfl) (hw.ret ⟨p26, k27, c28, none, 0, rfl, (hw.freshOf 0 rfl (.inl rfl)), (hw.envAt 1 rfl), (hw.envAt 0 rfl)⟩)

abbrev filter_ValidFeed_rd (w0 : World) (r : Bool) : (Nat → Prop) → World → Value → Prop := fun S w v => v = .bool r
set_option maxHeartbeats 4000000 in
set_option maxRecDepth 100000 in
theorem filter_ValidFeed_ok {w0 : World} {S0 : Nat → Prop} {p2 : Option Addr} {k3 : Nat} {p4 : Option Addr} {k5 : Nat} {d1 : Feed} {r : Bool} (hsh : filter_ValidFeed d1 = some r) (hS : ∀ b, S0 b → b < w0.heap.size) (h6 : (SlA p2 d1.Filter.Taps.length k3 d1.Filter.Taps).p S0 w0) (h7 : (SlA p4 d1.Past.length k5 d1.Past).p S0 w0) : Calls Try.prog 37 #[.agg #[.slice p2 d1.Filter.Taps.length k3, .int .i64 d1.Filter.Factor, .int .i64 d1.Filter.Shift, .slice p4 d1.Past.length k5, .int .i64 d1.Number]] w0 (Ret [] w0 S0 (filter_ValidFeed_rd w0 r)) := by
  refine calls_of_wp Try.func37 rfl ?_
  have hs := Sl.enter #[.agg #[.slice p2 d1.Filter.Taps.length k3, .int .i64 d1.Filter.Factor, .int .i64 d1.Filter.Shift, .slice p4 d1.Past.length k5, .int .i64 d1.Number]] 30 [(0, .agg #[.slice p2 d1.Filter.Taps.length k3, .int .i64 d1.Filter.Factor, .int .i64 d1.Filter.Shift, .slice p4 d1.Past.length k5, .int .i64 d1.Number])] rfl ⟨rfl, trivial⟩
  have hw := Wd.enter (E := []) hS (fun _ h => (by cases h))
  have hw := hw.addE h6
  have hw := hw.addE h7
  delta filter_ValidFeed at hsh
  refine wp_seq ?_
  refine wp_region_lit ?_
  refine w_box (cs := [.slice p2 d1.Filter.Taps.length k3, .int .i64 d1.Filter.Factor, .int .i64 d1.Filter.Shift, .slice p4 d1.Past.length k5, .int .i64 d1.Number]) hs hw rfl rfl rfl trivial ?_
  intro b8 a w hs hw
  refine st_val hs (y_assign rfl) trivial rfl rfl fun a hs => ?_
  refine wpList_nil ?_
  refine then_normal ?_
  refine wp_seq ?_
  refine wp_region_lit ?_
  refine st_val hs (y_fieldAddr (o' := 0) Try.runUnderlying51 rfl Try.sizeOf28 rfl rfl rfl) trivial rfl rfl fun a hs => ?_
  refine st_val hs (y_loadBA (hw.ownAt 0 rfl) rfl Try.isAgg28 Try.sizeOf28 rfl rfl) trivial rfl rfl fun a hs => ?_
  obtain ⟨rv10, h9, hsh⟩ := bind_t hsh
  refine st_callR hs (filter_Valid_ok h9 hw.dom (hw.envAt 1 rfl)) (do_call Try.call32 rfl) trivial rfl rfl ?_
  intro v14 Sv11 w a h12 h13 hs
  subst h13
  have hw := hw.call h12
  refine st_val hs (y_move rfl) trivial rfl rfl fun a hs => ?_
  refine wpl_join 9 (fun a w1 => w = w1 ∧ Sl 30 [(1, .pointer (some ⟨b8, 0, none⟩)), (15, .bool (rv10 && (decide ((d1.Past.length : Int) < (d1.Filter.Taps.length : Int)))))] a) ?_ ?_
  · rcases Bool.eq_false_or_eq_true rv10 with h15 | h15
    · have hs := hs.fix 6 (.bool true) rfl (vb h15)
      refine st_val hs (y_fieldAddr (o' := 3) Try.runUnderlying51 rfl Try.sizeOf22 rfl rfl rfl) ⟨_, rfl, rfl⟩ rfl rfl fun a hs => ?_
      refine st_val hs (y_loadB1 (hw.ownAt 0 rfl) rfl Try.isAgg22 rfl) ⟨_, rfl, rfl⟩ rfl rfl fun a hs => ?_
      refine st_val hs (y_len Try.runUnderlying22 rfl) ⟨_, rfl, rfl⟩ rfl rfl fun a hs => ?_
      refine st_val hs (y_fieldAddr (o' := 0) Try.runUnderlying51 rfl Try.sizeOf28 rfl rfl rfl) ⟨_, rfl, rfl⟩ rfl rfl fun a hs => ?_
      refine st_val hs (y_fieldAddr (o' := 0) Try.runUnderlying28 rfl Try.sizeOf22 rfl rfl rfl) ⟨_, rfl, rfl⟩ rfl rfl fun a hs => ?_
      refine st_val hs (y_loadB1 (hw.ownAt 0 rfl) rfl Try.isAgg22 rfl) ⟨_, rfl, rfl⟩ rfl rfl fun a hs => ?_
      refine st_val hs (y_len Try.runUnderlying22 rfl) ⟨_, rfl, rfl⟩ rfl rfl fun a hs => ?_
      refine st_val hs (y_lss rfl rfl) ⟨_, rfl, rfl⟩ rfl rfl fun a hs => ?_
      refine st_val hs (y_pickT rfl rfl) trivial rfl rfl fun a hs => ?_
      refine wpList_nil ?_
      refine then_normal ?_
      exact ⟨rfl, (hs.fix 15 (.bool (rv10 && (decide ((d1.Past.length : Int) < (d1.Filter.Taps.length : Int))))) rfl (and_t h15)).weaken _ ⟨rfl, rfl, trivial⟩⟩
    · have hs := hs.fix 6 (.bool false) rfl (vb h15)
      refine st_skip hs rfl rfl rfl rfl rfl fun a hs => ?_
      refine st_skip hs rfl rfl rfl rfl rfl fun a hs => ?_
      refine st_skip hs rfl rfl rfl rfl rfl fun a hs => ?_
      refine st_skip hs rfl rfl rfl rfl rfl fun a hs => ?_
      refine st_skip hs rfl rfl rfl rfl rfl fun a hs => ?_
      refine st_skip hs rfl rfl rfl rfl rfl fun a hs => ?_
      refine st_skip hs rfl rfl rfl rfl rfl fun a hs => ?_
      refine st_skip hs rfl rfl rfl rfl rfl fun a hs => ?_
      refine st_val hs (y_pickF rfl rfl) trivial rfl rfl fun a hs => ?_
      refine wpList_nil ?_
      refine then_normal ?_
      exact ⟨rfl, (hs.fix 15 (.bool (rv10 && (decide ((d1.Past.length : Int) < (d1.Filter.Taps.length : Int))))) rfl (and_f h15)).weaken _ ⟨rfl, rfl, trivial⟩⟩
  · rintro a w1 ⟨h46, hs⟩
    subst h46
    refine st_val hs (y_move rfl) trivial rfl rfl fun a hs => ?_
    obtain ⟨c23, hc23, hsh⟩ := bind_t hsh
    refine wpl_join 5 (fun a w => ∃ (Sv24 : Nat → Prop), Sl 30 [(1, .pointer (some ⟨b8, 0, none⟩)), (21, .bool c23)] a ∧ Wd ⟨w0, S0, []⟩ Sv24 [.box b8 [.slice p2 d1.Filter.Taps.length k3, .int .i64 d1.Filter.Factor, .int .i64 d1.Filter.Shift, .slice p4 d1.Past.length k5, .int .i64 d1.Number] 51] [SlA p2 d1.Filter.Taps.length k3 d1.Filter.Taps, SlA p4 d1.Past.length k5 d1.Past] w) ?_ ?_
    · rcases Bool.eq_false_or_eq_true (rv10 && (decide ((d1.Past.length : Int) < (d1.Filter.Taps.length : Int)))) with h22 | h22
      · have hs := hs.fix 16 (.bool true) rfl (vb h22)
        have hsh := ite_t hc23 h22
        refine st_val hs (y_fieldAddr (o' := 3) Try.runUnderlying51 rfl Try.sizeOf22 rfl rfl rfl) ⟨_, rfl, rfl⟩ rfl rfl fun a hs => ?_
        refine st_val hs (y_loadB1 (hw.ownAt 0 rfl) rfl Try.isAgg22 rfl) ⟨_, rfl, rfl⟩ rfl rfl fun a hs => ?_
        obtain ⟨rv26, h25, hsh⟩ := bind_t hsh
        refine st_callR hs (slices_ContainsFunc_Lint_int_ok h25 hw.dom (hw.envAt 0 rfl) filter_wrong_fn) (do_call Try.call55 rfl) ⟨_, rfl, rfl⟩ rfl rfl ?_
        intro v30 Sv27 w a h28 h29 hs
        subst h29
        have hw := hw.call h28
        refine st_val hs (y_not rfl) ⟨_, rfl, rfl⟩ rfl rfl fun a hs => ?_
        refine st_val hs (y_pickT rfl rfl) trivial rfl rfl fun a hs => ?_
        refine wpList_nil ?_
        have hsh := Option.some.inj hsh
        subst hsh
        refine then_normal ?_
        exact ⟨Sv27, (hs.weaken _ ⟨rfl, rfl, trivial⟩), (hw.fit [0] (by decide) ⟨rfl, trivial⟩ ⟨⟨1, rfl⟩, ⟨0, rfl⟩, trivial⟩)⟩
      · have hs := hs.fix 16 (.bool false) rfl (vb h22)
        have hsh := ite_f hc23 h22
        refine st_skip hs rfl rfl rfl rfl rfl fun a hs => ?_
        refine st_skip hs rfl rfl rfl rfl rfl fun a hs => ?_
        refine st_skip hs rfl rfl rfl rfl rfl fun a hs => ?_
        refine st_skip hs rfl rfl rfl rfl rfl fun a hs => ?_
        refine st_val hs (y_pickF rfl rfl) trivial rfl rfl fun a hs => ?_
        refine wpList_nil ?_
        have hsh := Option.some.inj hsh
        subst hsh
        refine then_normal ?_
        exact ⟨Sv11, (hs.weaken _ ⟨rfl, rfl, trivial⟩), (hw.fit [0] (by decide) ⟨rfl, trivial⟩ ⟨⟨1, rfl⟩, ⟨0, rfl⟩, trivial⟩)⟩
    · rintro a w ⟨Sv24, hs, hw⟩
      refine st_val hs (y_move rfl) trivial rfl rfl fun a hs => ?_
      obtain ⟨c38, hc38, hsh⟩ := bind_t hsh
      refine wpl_join 7 (fun a w => ∃ (Sv39 : Nat → Prop), Sl 30 [(29, .bool c38)] a ∧ Wd ⟨w0, S0, []⟩ Sv39 [] [] w) ?_ ?_
      · rcases Bool.eq_false_or_eq_true c23 with h37 | h37
        · have hs := hs.fix 22 (.bool true) rfl (vb h37)
          have hsh := ite_t hc38 h37
          refine st_val hs (y_fieldAddr (o' := 4) Try.runUnderlying51 rfl Try.sizeOf3 rfl rfl rfl) ⟨_, rfl, rfl⟩ rfl rfl fun a hs => ?_
          refine st_val hs (y_loadB1 (hw.ownAt 0 rfl) rfl Try.isAgg3 rfl) ⟨_, rfl, rfl⟩ rfl rfl fun a hs => ?_
          refine st_val hs (y_fieldAddr (o' := 3) Try.runUnderlying51 rfl Try.sizeOf22 rfl rfl rfl) ⟨_, rfl, rfl⟩ rfl rfl fun a hs => ?_
          refine st_val hs (y_loadB1 (hw.ownAt 0 rfl) rfl Try.isAgg22 rfl) ⟨_, rfl, rfl⟩ rfl rfl fun a hs => ?_
          refine st_val hs (y_len Try.runUnderlying22 rfl) ⟨_, rfl, rfl⟩ rfl rfl fun a hs => ?_
          obtain ⟨rv41, h40, hsh⟩ := bind_t hsh
          refine st_callR hs (filter_in_ok h40 hw.dom) (do_call Try.call46 rfl) ⟨_, rfl, rfl⟩ rfl rfl ?_
          intro v45 Sv42 w a h43 h44 hs
          subst h44
          have hw := hw.call h43
          refine st_val hs (y_pickT rfl rfl) trivial rfl rfl fun a hs => ?_
          refine wpList_nil ?_
          have hsh := Option.some.inj hsh
          subst hsh
          refine then_normal ?_
          exact ⟨Sv42, (hs.weaken _ ⟨rfl, trivial⟩), (hw.fit [] (by decide) trivial trivial)⟩
        · have hs := hs.fix 22 (.bool false) rfl (vb h37)
          have hsh := ite_f hc38 h37
          refine st_skip hs rfl rfl rfl rfl rfl fun a hs => ?_
          refine st_skip hs rfl rfl rfl rfl rfl fun a hs => ?_
          refine st_skip hs rfl rfl rfl rfl rfl fun a hs => ?_
          refine st_skip hs rfl rfl rfl rfl rfl fun a hs => ?_
          refine st_skip hs rfl rfl rfl rfl rfl fun a hs => ?_
          refine st_skip hs rfl rfl rfl rfl rfl fun a hs => ?_
          refine st_val hs (y_pickF rfl rfl) trivial rfl rfl fun a hs => ?_
          refine wpList_nil ?_
          have hsh := Option.some.inj hsh
          subst hsh
          refine then_normal ?_
          exact ⟨Sv24, (hs.weaken _ ⟨rfl, trivial⟩), (hw.fit [] (by decide) trivial trivial)⟩
      · rintro a w ⟨Sv39, hs, hw⟩
        refine st_val hs (y_assign rfl) trivial rfl rfl fun a hs => ?_
        refine wpList_nil ?_
        refine then_normal ?_
        have hsh := Option.some.inj hsh
        subst hsh
        refine wp_ret ?_
        exact ret1 hs rfl (rv_tmp rfl) (hw.ret rfl)

abbrev slices_Grow_Lint_int_n_rd (w0 : World) (r : (List Int)) : (Nat → Prop) → World → Value → Prop := fun S w v => ∃ (p0_0 : Option Addr) (k0_0 : Nat) (c0_0 : List Value), v = .slice p0_0 r.length k0_0 ∧ Fresh w0 S w (.row p0_0 r.length k0_0 c0_0 3 1) ∧ (RowA c0_0 r).p S w
set_option maxHeartbeats 4000000 in
set_option maxRecDepth 100000 in
theorem slices_Grow_Lint_int_n_ok {w0 : World} {S0 : Nat → Prop} {n1 : Int} {r : (List Int)} (hsh : slices_Grow_Lint_int_n n1 = some r) (hS : ∀ b, S0 b → b < w0.heap.size) : Calls Try.prog 62 #[.slice none 0 0, .int .i64 n1] w0 (Ret [] w0 S0 (slices_Grow_Lint_int_n_rd w0 r)) := by
  refine calls_of_wp Try.func62 rfl ?_
  have hs := Sl.enter #[.slice none 0 0, .int .i64 n1] 27 [(0, .slice none 0 0), (1, .int .i64 n1)] rfl ⟨rfl, rfl, trivial⟩
  have hw := Wd.enter (E := []) hS (fun _ h => (by cases h))
  delta slices_Grow_Lint_int_n at hsh
  refine wp_seq ?_
  refine wp_region_lit ?_
  refine st_val hs (y_assign rfl) trivial rfl rfl fun a hs => ?_
  refine wpList_nil ?_
  refine then_normal ?_
  refine wp_seq ?_
  refine wp_seq ?_
  refine wp_region_lit ?_
  refine st_val hs (y_move rfl) trivial rfl rfl fun a hs => ?_
  refine st_val hs (y_lss rfl rfl) trivial rfl rfl fun a hs => ?_
  refine wpList_nil ?_
  refine then_normal ?_
  refine wp_cond_split (hs.ev rfl) (fun h3 => ?_) (fun h3 => ?_)
  · have hsh := ite_t hsh h3
    cases hsh
  · have hsh := ite_f hsh h3
    refine wp_skip ?_
    refine then_normal ?_
    refine wp_seq ?_
    refine wp_seq ?_
    refine wp_region_lit ?_
    refine st_val hs (y_move rfl) trivial rfl rfl fun a hs => ?_
    refine st_val hs (y_move rfl) trivial rfl rfl fun a hs => ?_
    refine st_val hs (y_cap Try.runUnderlying22 rfl) trivial rfl rfl fun a hs => ?_
    refine st_val hs (y_move rfl) trivial rfl rfl fun a hs => ?_
    refine st_val hs (y_len Try.runUnderlying22 rfl) trivial rfl rfl fun a hs => ?_
    refine st_val hs (y_sub rfl rfl) trivial rfl rfl fun a hs => ?_
    refine st_val hs (y_sub rfl rfl) trivial rfl rfl fun a hs => ?_
    obtain ⟨n5, h4, hsh⟩ := bind_t hsh
    refine st_val hs (y_assignI rfl h4) trivial rfl rfl fun a hs => ?_
    refine wpList_nil ?_
    refine then_normal ?_
    refine wp_seq ?_
    refine wp_region_lit ?_
    refine st_val hs (y_move rfl) trivial rfl rfl fun a hs => ?_
    refine st_val hs (y_gtr rfl rfl) trivial rfl rfl fun a hs => ?_
    refine wpList_nil ?_
    refine then_normal ?_
    refine wp_join (fun a w => ∃ (sv23 : (List Int)) (p19 : Option Addr) (k20 : Nat) (c21 : List Value) (Sv22 : Nat → Prop), slices_Grow_Lint_int_n_j1 sv23 = some r ∧ Sl 27 [(0, .slice p19 sv23.length k20)] a ∧ Wd ⟨w0, S0, []⟩ Sv22 [.row p19 sv23.length k20 c21 3 1] [RowA c21 sv23] w) ?_ ?_
    · refine wp_cond_split (hs.ev rfl) (fun h24 => ?_) (fun h24 => ?_)
      · have hsh := ite_t hsh h24
        refine wp_region_lit ?_
        refine st_val hs (y_move rfl) trivial rfl rfl fun a hs => ?_
        refine st_val hs (y_move rfl) trivial rfl rfl fun a hs => ?_
        refine st_val hs (y_cap Try.runUnderlying22 rfl) trivial rfl rfl fun a hs => ?_
        obtain ⟨l28, h25, hsh⟩ := bind_t hsh
        obtain ⟨h26, h27⟩ := sub_nil 1 h25
        subst h26
        refine st_val hs (y_slc Try.runUnderlying22 Try.sizeOf3 rfl (by exact rfl) ⟨_, rfl⟩ h27) trivial rfl rfl fun a hs => ?_
        refine st_val hs (y_move rfl) trivial rfl rfl fun a hs => ?_
        obtain ⟨l30, h29, hsh⟩ := bind_t hsh
        refine w_appendMk (α := Int) hs hw El22 ⟨_, rfl, rfl⟩ Try.underlying3 rfl rfl h29 rfl rfl trivial ?_
        intro p31 k32 c33 a w hs hw
        refine st_val hs (y_move rfl) trivial rfl rfl fun a hs => ?_
        refine st_val hs (y_len Try.runUnderlying22 rfl) trivial rfl rfl fun a hs => ?_
        obtain ⟨l36, h34, hsh⟩ := bind_t hsh
        obtain ⟨hw, h35⟩ := w_cut hw 0 rfl 0 rfl h34
        refine st_val hs (y_slc Try.runUnderlying22 Try.sizeOf3 rfl (by exact rfl) ⟨_, rfl⟩ h35) trivial rfl rfl fun a hs => ?_
        refine st_val hs (y_assign rfl) trivial rfl rfl fun a hs => ?_
        refine wpList_nil ?_
        refine then_normal ?_
        exact ⟨l36, p31, k32, (c33.take (l36.length * 1)), S0, hsh, (hs.weaken _ ⟨rfl, trivial⟩), (hw.fit [0] (by decide) ⟨rfl, trivial⟩ ⟨⟨0, rfl⟩, trivial⟩)⟩
      · have hsh := ite_f hsh h24
        refine wp_skip ?_
        refine then_normal ?_
        have hw := hw.nilRow Int 3
        exact ⟨([] : List Int), none, 0, [], S0, hsh, (hs.weaken _ ⟨rfl, trivial⟩), (hw.fit [0] (by decide) ⟨rfl, trivial⟩ ⟨⟨0, rfl⟩, trivial⟩)⟩
    · rintro a w ⟨sv23, p19, k20, c21, Sv22, hsh, hs, hw⟩
      delta slices_Grow_Lint_int_n_j1 at hsh
      refine then_normal ?_
      refine wp_seq ?_
      refine wp_region_lit ?_
      refine st_val hs (y_move rfl) trivial rfl rfl fun a hs => ?_
      refine st_val hs (y_assign rfl) trivial rfl rfl fun a hs => ?_
      refine wpList_nil ?_
      refine then_normal ?_
      have hsh := Option.some.inj hsh
      subst hsh
      refine wp_ret ?_
      exact ret1 hs rfl (rv_tmp rfl) (hw.ret ⟨p19, k20, c21, rfl, (hw.freshOf 0 rfl (.inl rfl)), (hw.envAt 0 rfl)⟩)

abbrev slices_Concat_Lint_int_rd (w0 : World) (r : (List Int)) : (Nat → Prop) → World → Value → Prop := fun S w v => ∃ (p0_0 : Option Addr) (k0_0 : Nat) (c0_0 : List Value), v = .slice p0_0 r.length k0_0 ∧ Fresh w0 S w (.row p0_0 r.length k0_0 c0_0 3 1) ∧ (RowA c0_0 r).p S w
set_option maxHeartbeats 4000000 in
set_option maxRecDepth 100000 in
theorem slices_Concat_Lint_int_ok {w0 : World} {S0 : Nat → Prop} {p2 : Option Addr} {k3 : Nat} {slices1 : (List (List Int))} {r : (List Int)} (hsh : slices_Concat_Lint_int slices1 = some r) (hS : ∀ b, S0 b → b < w0.heap.size) (h4 : (SlA p2 slices1.length k3 slices1).p S0 w0) : Calls Try.prog 47 #[.slice p2 slices1.length k3] w0 (Ret [] w0 S0 (slices_Concat_Lint_int_rd w0 r)) := by
  refine calls_of_wp Try.func47 rfl ?_
  have hs := Sl.enter #[.slice p2 slices1.length k3] 36 [(0, .slice p2 slices1.length k3)] rfl ⟨rfl, trivial⟩
  have hw := Wd.enter (E := []) hS (fun _ h => (by cases h))
  have hw := hw.addE h4
  delta slices_Concat_Lint_int at hsh
  refine wp_seq ?_
  refine wp_region_lit ?_
  refine st_val hs (y_assign rfl) trivial rfl rfl fun a hs => ?_
  refine wpList_nil ?_
  refine then_normal ?_
  refine wp_seq ?_
  refine wp_region_lit ?_
  refine st_val hs (y_assign rfl) trivial rfl rfl fun a hs => ?_
  refine wpList_nil ?_
  refine then_normal ?_
  refine wp_seq ?_
  refine wp_seq ?_
  refine wp_region_lit ?_
  refine st_val hs (y_move rfl) trivial rfl rfl fun a hs => ?_
  refine st_val hs (y_len Try.runUnderlying69 rfl) trivial rfl rfl fun a hs => ?_
  refine st_val hs (y_move rfl) trivial rfl rfl fun a hs => ?_
  refine wpList_nil ?_
  refine then_normal ?_
  obtain ⟨e131, h372, hsh⟩ := bind_t hsh
  refine wp_join (fun a w => ∃ (Sv132 : Nat → Prop), Sl 36 [(0, .slice p2 slices1.length k3), (3, .int .i64 e131)] a ∧ Wd ⟨w0, S0, []⟩ Sv132 [] [SlA p2 slices1.length k3 slices1] w) ?_ ?_
  · refine wp_block ?_
    refine wp_while (fun sv5 a w => ∃ (Sv87 : Nat → Prop), Sl 36 [(0, .slice p2 slices1.length k3), (3, .int .i64 sv5.1), (9, .slice p2 slices1.length k3), (10, .int .i64 (slices1.length : Int)), (11, .int .i64 sv5.2)] a ∧ Wd ⟨w0, S0, []⟩ Sv87 [] [SlA p2 slices1.length k3 slices1] w) (0, 0) h372 ⟨S0, (hs.weaken _ ⟨rfl, rfl, rfl, rfl, rfl, trivial⟩), (hw.fit [] (by decide) trivial ⟨⟨0, rfl⟩, trivial⟩)⟩ ?_
    clear h372
    repeat clear hsh
    rintro sv5 a w tv129 ⟨Sv87, hs, hw⟩ hsh hd128
    delta slices_Concat_Lint_int_l1 at hsh
    refine wp_seq ?_
    refine wp_region_lit ?_
    refine st_val hs (y_lss rfl rfl) trivial rfl rfl fun a hs => ?_
    refine wpList_nil ?_
    refine then_normal ?_
    refine wp_seq ?_
    refine wp_cond_split (hs.ev rfl) (fun h134 => ?_) (fun h134 => ?_)
    · have hsh := ite_t hsh h134
      refine wp_skip ?_
      refine then_normal ?_
      refine wp_seq ?_
      refine wp_block ?_
      refine wp_seq ?_
      refine wp_region_lit ?_
      obtain ⟨x156, h154, hsh⟩ := bind_t hsh
      obtain ⟨b162, o163, q160, c161, h164, h157, h158, h159, h155⟩ := hw.elemV 0 rfl h154
      subst h164
      obtain ⟨_, rfl, ⟨p165, n166, k167, rfl, h168⟩⟩ := h155
      obtain rfl := h168.1
      have hw := hw.addE (e := SlA p165 _ k167 x156) h168
      have hw := hw.addE h159
      refine st_val hs (y_indexAt Try.runUnderlying69 Try.sizeOf22 rfl rfl h157.1 h157.2 h158) trivial rfl rfl fun a hs => ?_
      refine st_val hs (y_loadE1 (j := 0) (hw.ceAt 0 rfl) rfl Try.isAgg22 rfl) trivial rfl rfl fun a hs => ?_
      refine st_val hs (y_assign rfl) trivial rfl rfl fun a hs => ?_
      refine wpList_nil ?_
      refine then_normal ?_
      refine wp_seq ?_
      refine wp_region_lit ?_
      refine st_val hs (y_move rfl) trivial rfl rfl fun a hs => ?_
      refine st_val hs (y_move rfl) trivial rfl rfl fun a hs => ?_
      refine st_val hs (y_len Try.runUnderlying22 rfl) trivial rfl rfl fun a hs => ?_
      refine st_val hs (y_add rfl rfl) trivial rfl rfl fun a hs => ?_
      obtain ⟨size170, h169, hsh⟩ := bind_t hsh
      refine st_val hs (y_assignI rfl h169) trivial rfl rfl fun a hs => ?_
      refine wpList_nil ?_
      refine then_normal ?_
      refine wp_seq ?_
      refine wp_region_lit ?_
      refine st_val hs (y_move rfl) trivial rfl rfl fun a hs => ?_
      refine st_val hs (y_lss rfl rfl) trivial rfl rfl fun a hs => ?_
      refine wpList_nil ?_
      refine then_normal ?_
      refine wp_cond_split (hs.ev rfl) (fun h172 => ?_) (fun h172 => ?_)
      · have hsh := ite_t hsh h172
        cases hsh
      · have hsh := ite_f hsh h172
        refine wp_skip ?_
        refine blk_normal ?_
        refine then_normal ?_
        refine wp_region_lit ?_
        refine st_val hs (y_add rfl rfl) trivial rfl rfl fun a hs => ?_
        refine st_val hs (y_move rfl) trivial rfl rfl fun a hs => ?_
        refine wpList_nil ?_
        refine then_normal ?_
        exact ⟨_, (Option.some.inj hsh).symm, Sv87, (hs.weaken _ ⟨rfl, rfl, rfl, rfl, rfl, trivial⟩), (hw.fit [] (by decide) trivial ⟨⟨2, rfl⟩, trivial⟩)⟩
    · have hsh := ite_f hsh h134
      refine wp_exit ?_
      refine then_exit ?_
      refine then_exit ?_
      refine blk_exit ?_
      have hsh := Option.some.inj hsh
      subst hsh
      have h173 := hd128 _ rfl
      subst h173
      refine then_normal ?_
      exact ⟨Sv87, (hs.weaken _ ⟨rfl, rfl, trivial⟩), (hw.fit [] (by decide) trivial ⟨⟨0, rfl⟩, trivial⟩)⟩
  · rintro a w ⟨Sv132, hs, hw⟩
    refine then_normal ?_
    refine wp_seq ?_
    refine wp_region_lit ?_
    refine st_val hs (y_move rfl) trivial rfl rfl fun a hs => ?_
    obtain ⟨rv175, h174, hsh⟩ := bind_t hsh
    refine st_callR hs (slices_Grow_Lint_int_n_ok h174 hw.dom) (do_call Try.call62 rfl) trivial rfl rfl ?_
    intro v184 Sv181 w a h182 h183 hs
    obtain ⟨p176, k177, c178, rfl, h179, h180⟩ := h183
    have hw := hw.callF h182 h179
    have hw := hw.addE (e := RowA c178 rv175) h180
    refine st_val hs (y_assign rfl) trivial rfl rfl fun a hs => ?_
    refine wpList_nil ?_
    refine then_normal ?_
    refine wp_seq ?_
    refine wp_seq ?_
    refine wp_region_lit ?_
    refine st_val hs (y_move rfl) trivial rfl rfl fun a hs => ?_
    refine st_val hs (y_len Try.runUnderlying69 rfl) trivial rfl rfl fun a hs => ?_
    refine st_val hs (y_move rfl) trivial rfl rfl fun a hs => ?_
    refine wpList_nil ?_
    refine then_normal ?_
    obtain ⟨e323, h371, hsh⟩ := bind_t hsh
    refine wp_join (fun a w => ∃ (p324 : Option Addr) (k325 : Nat) (c326 : List Value) (Sv327 : Nat → Prop), Sl 36 [(6, .slice p324 e323.length k325)] a ∧ Wd ⟨w0, S0, []⟩ Sv327 [.row p324 e323.length k325 c326 3 1] [RowA c326 e323] w) ?_ ?_
    · refine wp_block ?_
      refine wp_while (fun sv185 a w => ∃ (p274 : Option Addr) (k275 : Nat) (c276 : List Value) (Sv277 : Nat → Prop), Sl 36 [(6, .slice p274 sv185.1.length k275), (25, .slice p2 slices1.length k3), (26, .int .i64 (slices1.length : Int)), (27, .int .i64 sv185.2)] a ∧ Wd ⟨w0, S0, []⟩ Sv277 [.row p274 sv185.1.length k275 c276 3 1] [SlA p2 slices1.length k3 slices1, RowA c276 sv185.1] w) (rv175, 0) h371 ⟨p176, k177, c178, Sv181, (hs.weaken _ ⟨rfl, rfl, rfl, rfl, trivial⟩), (hw.fit [0] (by decide) ⟨rfl, trivial⟩ ⟨⟨1, rfl⟩, ⟨0, rfl⟩, trivial⟩)⟩ ?_
      clear h371
      repeat clear hsh
      rintro sv185 a w tv321 ⟨p274, k275, c276, Sv277, hs, hw⟩ hsh hd320
      delta slices_Concat_Lint_int_l2 at hsh
      refine wp_seq ?_
      refine wp_region_lit ?_
      refine st_val hs (y_lss rfl rfl) trivial rfl rfl fun a hs => ?_
      refine wpList_nil ?_
      refine then_normal ?_
      refine wp_seq ?_
      refine wp_cond_split (hs.ev rfl) (fun h329 => ?_) (fun h329 => ?_)
      · have hsh := ite_t hsh h329
        refine wp_skip ?_
        refine then_normal ?_
        refine wp_seq ?_
        refine wp_block ?_
        refine wp_seq ?_
        refine wp_region_lit ?_
        obtain ⟨x352, h350, hsh⟩ := bind_t hsh
        obtain ⟨b358, o359, q356, c357, h360, h353, h354, h355, h351⟩ := hw.elemV 0 rfl h350
        subst h360
        obtain ⟨_, rfl, ⟨p361, n362, k363, rfl, h364⟩⟩ := h351
        obtain rfl := h364.1
        have hw := hw.addE (e := SlA p361 _ k363 x352) h364
        have hw := hw.addE h355
        refine st_val hs (y_indexAt Try.runUnderlying69 Try.sizeOf22 rfl rfl h353.1 h353.2 h354) trivial rfl rfl fun a hs => ?_
        refine st_val hs (y_loadE1 (j := 0) (hw.ceAt 0 rfl) rfl Try.isAgg22 rfl) trivial rfl rfl fun a hs => ?_
        refine st_val hs (y_assign rfl) trivial rfl rfl fun a hs => ?_
        refine wpList_nil ?_
        refine then_normal ?_
        refine wp_region_lit ?_
        refine st_val hs (y_move rfl) trivial rfl rfl fun a hs => ?_
        refine st_val hs (y_move rfl) trivial rfl rfl fun a hs => ?_
        obtain ⟨l366, h365, hsh⟩ := bind_t hsh
        refine w_appendE (α := Int) hs hw El22 0 rfl rfl rfl 3 rfl 1 rfl h365 rfl trivial ?_
        intro p367 k368 c369 a w hs hw
        refine st_val hs (y_assign rfl) trivial rfl rfl fun a hs => ?_
        refine wpList_nil ?_
        refine blk_normal ?_
        refine then_normal ?_
        refine wp_region_lit ?_
        refine st_val hs (y_add rfl rfl) trivial rfl rfl fun a hs => ?_
        refine st_val hs (y_move rfl) trivial rfl rfl fun a hs => ?_
        refine wpList_nil ?_
        refine then_normal ?_
        exact ⟨_, (Option.some.inj hsh).symm, p367, k368, c369, Sv277, (hs.weaken _ ⟨rfl, rfl, rfl, rfl, trivial⟩), (hw.fit [0] (by decide) ⟨rfl, trivial⟩ ⟨⟨3, rfl⟩, ⟨0, rfl⟩, trivial⟩)⟩
      · have hsh := ite_f hsh h329
        refine wp_exit ?_
        refine then_exit ?_
        refine then_exit ?_
        refine blk_exit ?_
        have hsh := Option.some.inj hsh
        subst hsh
        have h370 := hd320 _ rfl
        subst h370
        refine then_normal ?_
        exact ⟨p274, k275, c276, Sv277, (hs.weaken _ ⟨rfl, trivial⟩), (hw.fit [0] (by decide) ⟨rfl, trivial⟩ ⟨⟨1, rfl⟩, trivial⟩)⟩
    · rintro a w ⟨p324, k325, c326, Sv327, hs, hw⟩
      refine then_normal ?_
      refine wp_seq ?_
      refine wp_region_lit ?_
      refine st_val hs (y_move rfl) trivial rfl rfl fun a hs => ?_
      refine st_val hs (y_assign rfl) trivial rfl rfl fun a hs => ?_
      refine wpList_nil ?_
      refine then_normal ?_
      have hsh := Option.some.inj hsh
      subst hsh
      refine wp_ret ?_
      exact ret1 hs rfl (rv_tmp rfl) (hw.ret ⟨p324, k325, c326, rfl, (hw.freshOf 0 rfl (.inl rfl)), (hw.envAt 0 rfl)⟩)

abbrev filter_Push_rd (w0 : World) (r : (Feed × (List Int) × Int)) : (Nat → Prop) → World → Value → Prop := fun S w v => ∃ (p0_0 : Option Addr) (k0_0 : Nat) (c0_0 : List Value) (p0_3 : Option Addr) (k0_3 : Nat) (p1_0 : Option Addr) (k1_0 : Nat), v = .tuple #[.agg #[.slice p0_0 r.1.Filter.Taps.length k0_0, .int .i64 r.1.Filter.Factor, .int .i64 r.1.Filter.Shift, .slice p0_3 r.1.Past.length k0_3, .int .i64 r.1.Number], .slice p1_0 r.2.1.length k1_0, .int .i64 r.2.2] ∧ Fresh w0 S w (.row p0_0 r.1.Filter.Taps.length k0_0 c0_0 3 1) ∧ (RowA c0_0 r.1.Filter.Taps).p S w ∧ (SlA p0_3 r.1.Past.length k0_3 r.1.Past).p S w ∧ (SlA p1_0 r.2.1.length k1_0 r.2.1).p S w
set_option maxHeartbeats 4000000 in
set_option maxRecDepth 100000 in
theorem filter_Push_ok {w0 : World} {S0 : Nat → Prop} {p2 : Option Addr} {k3 : Nat} {p4 : Option Addr} {k5 : Nat} {p9 : Option Addr} {k10 : Nat} {d1 : Feed} {samples8 : (List Int)} {r : (Feed × (List Int) × Int)} (hsh : filter_Push d1 samples8 = some r) (hS : ∀ b, S0 b → b < w0.heap.size) (h6 : (SlA p2 d1.Filter.Taps.length k3 d1.Filter.Taps).p S0 w0) (h7 : (SlA p4 d1.Past.length k5 d1.Past).p S0 w0) (h11 : (SlA p9 samples8.length k10 samples8).p S0 w0) : Calls Try.prog 25 #[.agg #[.slice p2 d1.Filter.Taps.length k3, .int .i64 d1.Filter.Factor, .int .i64 d1.Filter.Shift, .slice p4 d1.Past.length k5, .int .i64 d1.Number], .slice p9 samples8.length k10] w0 (Ret [] w0 S0 (filter_Push_rd w0 r)) := by
  refine calls_of_wp Try.func25 rfl ?_
  have hs := Sl.enter #[.agg #[.slice p2 d1.Filter.Taps.length k3, .int .i64 d1.Filter.Factor, .int .i64 d1.Filter.Shift, .slice p4 d1.Past.length k5, .int .i64 d1.Number], .slice p9 samples8.length k10] 66 [(0, .agg #[.slice p2 d1.Filter.Taps.length k3, .int .i64 d1.Filter.Factor, .int .i64 d1.Filter.Shift, .slice p4 d1.Past.length k5, .int .i64 d1.Number]), (1, .slice p9 samples8.length k10)] rfl ⟨rfl, rfl, trivial⟩
  have hw := Wd.enter (E := []) hS (fun _ h => (by cases h))
  have hw := hw.addE h6
  have hw := hw.addE h7
  have hw := hw.addE h11
  delta filter_Push at hsh
  refine wp_seq ?_
  refine wp_region_lit ?_
  refine w_box (cs := [.slice p2 d1.Filter.Taps.length k3, .int .i64 d1.Filter.Factor, .int .i64 d1.Filter.Shift, .slice p4 d1.Past.length k5, .int .i64 d1.Number]) hs hw rfl rfl rfl trivial ?_
  intro b12 a w hs hw
  refine w_alloc (cs := [.slice none ([] : List Int).length 0, .int .i64 0, .int .i64 0, .slice none ([] : List Int).length 0, .int .i64 0]) hs hw Try.zeroValue51 rfl rfl trivial ?_
  intro b13 a w hs hw
  refine st_val hs (y_assign rfl) trivial rfl rfl fun a hs => ?_
  refine st_val hs (y_assign rfl) trivial rfl rfl fun a hs => ?_
  refine wpList_nil ?_
  refine then_normal ?_
  refine wp_seq ?_
  refine wp_seq ?_
  refine wp_region_lit ?_
  refine st_val hs (y_loadBA (hw.ownAt 1 rfl) rfl Try.isAgg51 Try.sizeOf51 rfl rfl) trivial rfl rfl fun a hs => ?_
  obtain ⟨rv15, h14, hsh⟩ := bind_t hsh
  refine st_callR hs (filter_ValidFeed_ok h14 hw.dom (hw.envAt 2 rfl) (hw.envAt 1 rfl)) (do_call Try.call37 rfl) trivial rfl rfl ?_
  intro v19 Sv16 w a h17 h18 hs
  subst h18
  have hw := hw.call h17
  refine st_val hs (y_not rfl) trivial rfl rfl fun a hs => ?_
  refine wpList_nil ?_
  refine then_normal ?_
  refine wp_cond_split (hs.ev rfl) (fun h21 => ?_) (fun h21 => ?_)
  · have hsh := ite_t hsh h21
    refine wp_seq ?_
    refine wp_region_lit ?_
    refine st_val hs (y_build (vs := []) Bld51 rfl rfl) trivial rfl rfl fun a hs => ?_
    refine w_store (m := 5) (cs' := [.slice none ([] : List Int).length 0, .int .i64 0, .int .i64 0, .slice none ([] : List Int).length 0, .int .i64 0]) hs hw 0 rfl rfl rfl Try.sizeOf51 rfl rfl rfl rfl trivial ?_
    intro a w hs hw
    refine st_val hs (y_assign rfl) trivial rfl rfl fun a hs => ?_
    refine st_val hs (y_assign rfl) trivial rfl rfl fun a hs => ?_
    refine wpList_nil ?_
    refine then_normal ?_
    have hsh := Option.some.inj hsh
    subst hsh
    have hw := hw.nilRow Int 3
    have hw := hw.addE (e := SlA (α := Int) none 0 0 []) nil_sl
    refine wp_ret ?_
    refine then_ret ?_
    exact ret3 hs rfl (rv_cell hw 1 rfl rfl Try.isAgg51 Try.sizeOf51 rfl) (rv_tmp rfl) (rv_tmp rfl) (hw.ret ⟨none, 0, [], none, 0, none, 0, rfl, (hw.freshOf 0 rfl (.inl rfl)), (hw.envAt 1 rfl), (hw.envAt 0 rfl), (hw.envAt 0 rfl)⟩)
  · have hsh := ite_f hsh h21
    refine wp_skip ?_
    refine then_normal ?_
    refine wp_seq ?_
    refine wp_seq ?_
    refine wp_region_lit ?_
    refine st_val hs (y_move rfl) trivial rfl rfl fun a hs => ?_
    refine st_val hs (y_fieldAddr (o' := 4) Try.runUnderlying51 rfl Try.sizeOf3 rfl rfl rfl) trivial rfl rfl fun a hs => ?_
    refine st_val hs (y_loadB1 (hw.ownAt 1 rfl) rfl Try.isAgg3 rfl) trivial rfl rfl fun a hs => ?_
    obtain ⟨rv23, h22, hsh⟩ := bind_t hsh
    refine st_callR hs (filter_check_ok h22 hw.dom (hw.envAt 0 rfl)) (do_call Try.call40 rfl) trivial rfl rfl ?_
    intro v27 Sv24 w a h25 h26 hs
    subst h26
    have hw := hw.call h25
    refine st_val hs (y_assign rfl) trivial rfl rfl fun a hs => ?_
    refine wpList_nil ?_
    refine then_normal ?_
    refine wp_seq ?_
    refine wp_region_lit ?_
    refine st_val hs (y_move rfl) trivial rfl rfl fun a hs => ?_
    refine st_val hs (y_neq rfl rfl) trivial rfl rfl fun a hs => ?_
    refine wpList_nil ?_
    refine then_normal ?_
    refine wp_cond_split (hs.ev rfl) (fun h29 => ?_) (fun h29 => ?_)
    · have hsh := ite_t hsh h29
      refine wp_seq ?_
      refine wp_region_lit ?_
      refine st_val hs (y_build (vs := []) Bld51 rfl rfl) trivial rfl rfl fun a hs => ?_
      refine st_val hs (y_move rfl) trivial rfl rfl fun a hs => ?_
      refine w_store (m := 5) (cs' := [.slice none ([] : List Int).length 0, .int .i64 0, .int .i64 0, .slice none ([] : List Int).length 0, .int .i64 0]) hs hw 0 rfl rfl rfl Try.sizeOf51 rfl rfl rfl rfl trivial ?_
      intro a w hs hw
      refine st_val hs (y_assign rfl) trivial rfl rfl fun a hs => ?_
      refine st_val hs (y_assign rfl) trivial rfl rfl fun a hs => ?_
      refine wpList_nil ?_
      refine then_normal ?_
      have hsh := Option.some.inj hsh
      subst hsh
      have hw := hw.nilRow Int 3
      have hw := hw.addE (e := SlA (α := Int) none 0 0 []) nil_sl
      refine wp_ret ?_
      refine then_ret ?_
      exact ret3 hs rfl (rv_cell hw 1 rfl rfl Try.isAgg51 Try.sizeOf51 rfl) (rv_tmp rfl) (rv_tmp rfl) (hw.ret ⟨none, 0, [], none, 0, none, 0, rfl, (hw.freshOf 0 rfl (.inl rfl)), (hw.envAt 1 rfl), (hw.envAt 0 rfl), (hw.envAt 0 rfl)⟩)
    · have hsh := ite_f hsh h29
      refine wp_skip ?_
      refine then_normal ?_
      refine wp_seq ?_
      refine wp_region_lit ?_
      refine st_val hs (y_fieldAddr (o' := 3) Try.runUnderlying51 rfl Try.sizeOf22 rfl rfl rfl) trivial rfl rfl fun a hs => ?_
      refine st_val hs (y_loadB1 (hw.ownAt 1 rfl) rfl Try.isAgg22 rfl) trivial rfl rfl fun a hs => ?_
      refine st_val hs (y_move rfl) trivial rfl rfl fun a hs => ?_
      refine w_buildSlice (α := (List Int)) (vs := [.slice p4 d1.Past.length k5, .slice p9 samples8.length k10]) (cs := [.slice p4 d1.Past.length k5, .slice p9 samples8.length k10]) (xs := ([d1.Past, samples8] : List (List Int))) hs hw El69 rfl rfl rfl rfl rfl rfl ⟨⟨_, rfl, ⟨_, _, _, rfl, hw.envAt 1 rfl⟩⟩, ⟨⟨_, rfl, ⟨_, _, _, rfl, hw.envAt 0 rfl⟩⟩, rfl⟩⟩ rfl trivial ?_
      intro p30 a w hs hw
      obtain ⟨b31, rfl⟩ := row_some (hw.ownAt 0 rfl) (Nat.succ_pos _)
      obtain ⟨rv33, h32, hsh⟩ := bind_t hsh
      obtain ⟨Sv39, hw⟩ := w_share (α := (List Int)) hw 0 rfl 0 rfl (.inl rfl)
      refine st_callR hs (slices_Concat_Lint_int_ok h32 hw.dom (hw.envAt 0 rfl)) (do_call Try.call47 rfl) trivial rfl rfl ?_
      intro v43 Sv40 w a h41 h42 hs
      obtain ⟨p34, k35, c36, rfl, h37, h38⟩ := h42
      have hw := hw.callF h41 h37
      have hw := hw.addE (e := RowA c36 rv33) h38
      refine st_val hs (y_assign rfl) trivial rfl rfl fun a hs => ?_
      refine wpList_nil ?_
      refine then_normal ?_
      refine wp_seq ?_
      refine wp_region_lit ?_
      refine st_val hs (y_fieldAddr (o' := 3) Try.runUnderlying51 rfl Try.sizeOf22 rfl rfl rfl) trivial rfl rfl fun a hs => ?_
      refine st_val hs (y_loadB1 (hw.ownAt 2 rfl) rfl Try.isAgg22 rfl) trivial rfl rfl fun a hs => ?_
      refine st_val hs (y_len Try.runUnderlying22 rfl) trivial rfl rfl fun a hs => ?_
      obtain ⟨n45, h44, hsh⟩ := bind_t hsh
      refine st_val hs (y_assignI rfl h44) trivial rfl rfl fun a hs => ?_
      refine wpList_nil ?_
      refine then_normal ?_
      refine wp_seq ?_
      refine wp_region_lit ?_
      refine st_val hs (y_fieldAddr (o' := 0) Try.runUnderlying51 rfl Try.sizeOf28 rfl rfl rfl) trivial rfl rfl fun a hs => ?_
      refine st_val hs (y_loadBA (hw.ownAt 2 rfl) rfl Try.isAgg28 Try.sizeOf28 rfl rfl) trivial rfl rfl fun a hs => ?_
      refine st_val hs (y_move rfl) trivial rfl rfl fun a hs => ?_
      refine st_val hs (y_fieldAddr (o' := 4) Try.runUnderlying51 rfl Try.sizeOf3 rfl rfl rfl) trivial rfl rfl fun a hs => ?_
      refine st_val hs (y_loadB1 (hw.ownAt 2 rfl) rfl Try.isAgg3 rfl) trivial rfl rfl fun a hs => ?_
      refine st_val hs (y_move rfl) trivial rfl rfl fun a hs => ?_
      refine st_val hs (y_sub rfl rfl) trivial rfl rfl fun a hs => ?_
      refine st_val hs (y_move rfl) trivial rfl rfl fun a hs => ?_
      obtain ⟨rv47, h46, hsh⟩ := bind_t hsh
      obtain ⟨Sv53, hw⟩ := w_share (α := Int) hw 0 rfl 0 rfl (.inl rfl)
      refine st_callR hs (filter_outputs_ok h46 hw.dom (hw.envAt 6 rfl) (hw.envAt 0 rfl)) (do_call Try.call41 rfl) trivial rfl rfl ?_
      intro v57 Sv54 w a h55 h56 hs
      obtain ⟨p48, k49, c50, rfl, h51, h52⟩ := h56
      have hw := hw.callF h55 h51
      have hw := hw.addE (e := RowA c50 rv47) h52
      refine st_val hs (y_assign rfl) trivial rfl rfl fun a hs => ?_
      refine wpList_nil ?_
      refine then_normal ?_
      refine wp_seq ?_
      refine wp_region_lit ?_
      refine st_val hs (y_fieldAddr (o' := 0) Try.runUnderlying51 rfl Try.sizeOf28 rfl rfl rfl) trivial rfl rfl fun a hs => ?_
      refine st_val hs (y_fieldAddr (o' := 0) Try.runUnderlying28 rfl Try.sizeOf22 rfl rfl rfl) trivial rfl rfl fun a hs => ?_
      refine st_val hs (y_loadB1 (hw.ownAt 2 rfl) rfl Try.isAgg22 rfl) trivial rfl rfl fun a hs => ?_
      obtain ⟨rv59, h58, hsh⟩ := bind_t hsh
      refine st_callR hs (slices_Clone_Lint_int_ok h58 hw.dom (hw.envAt 7 rfl)) (do_call Try.call45 rfl) trivial rfl rfl ?_
      intro v68 Sv65 w a h66 h67 hs
      obtain ⟨p60, k61, c62, rfl, h63, h64⟩ := h67
      have hw := hw.callF h66 h63
      have hw := hw.addE (e := RowA c62 rv59) h64
      refine st_val hs (y_fieldAddr (o' := 0) Try.runUnderlying51 rfl Try.sizeOf28 rfl rfl rfl) trivial rfl rfl fun a hs => ?_
      refine st_val hs (y_fieldAddr (o' := 0) Try.runUnderlying28 rfl Try.sizeOf22 rfl rfl rfl) trivial rfl rfl fun a hs => ?_
      refine w_store (m := 1) (cs' := [.slice p60 rv59.length k61, .int .i64 d1.Filter.Factor, .int .i64 d1.Filter.Shift, .slice p4 d1.Past.length k5, .int .i64 d1.Number]) hs hw 3 rfl rfl rfl Try.sizeOf22 rfl rfl rfl rfl trivial ?_
      intro a w hs hw
      refine wpList_nil ?_
      refine then_normal ?_
      refine wp_seq ?_
      obtain ⟨l74, h69, hsh⟩ := bind_t hsh
      obtain ⟨p72, k73, h70, h71⟩ := sub_env (hw.envAt 2 rfl) h69
      have hw := hw.addE h70
      refine wp_only (fun a w => ∃ (Sv75 : Nat → Prop) (k73 : Nat) (p72 : Option Addr), Sl 66 [(2, .pointer (some ⟨b12, 0, none⟩)), (4, .pointer (some ⟨b13, 0, none⟩)), (10, .slice p48 rv47.length k49)] a ∧ Wd ⟨w0, S0, []⟩ Sv75 [.box b12 [.slice p60 rv59.length k61, .int .i64 d1.Filter.Factor, .int .i64 d1.Filter.Shift, .slice p72 l74.length k73, .int .i64 (w64 (d1.Number + (samples8.length : Int)))] 51, .box b13 [.slice none ([] : List Int).length 0, .int .i64 0, .int .i64 0, .slice none ([] : List Int).length 0, .int .i64 0] 51, .row p48 rv47.length k49 c50 3 1, .row p60 rv59.length k61 c62 3 1] [SlA p72 l74.length k73 l74, SlA none ([] : List Int).length 0 ([] : List Int), RowA c50 rv47, RowA c62 rv59] w) ?_ ?_
      · refine h_begin (C := Cls [.row p60 rv59.length k61 c62 3 1, .row p48 rv47.length k49 c50 3 1, .box b13 [.slice none ([] : List Int).length 0, .int .i64 0, .int .i64 0, .slice none ([] : List Int).length 0, .int .i64 0] 51] []) (by kernel_rfl) rfl ?_
        have hw := hw.drew
        have hC : Cls [.row p60 rv59.length k61 c62 3 1, .row p48 rv47.length k49 c50 3 1, .box b13 [.slice none ([] : List Int).length 0, .int .i64 0, .int .i64 0, .slice none ([] : List Int).length 0, .int .i64 0] 51] [] _ := hw.cls [0, 1, 2] ⟨rfl, rfl, rfl, trivial⟩ trivial
        refine h_take hs (i := 0) rfl (by kernel_rfl) (by kernel_rfl) (by kernel_rfl) trivial rfl rfl hC (fun w hC => y_move rfl) fun a hs => ?_
        refine h_take hs (i := 1) rfl (by kernel_rfl) (by kernel_rfl) (by kernel_rfl) trivial rfl rfl hC (fun w hC => y_move rfl) fun a hs => ?_
        refine h_take hs (i := 2) rfl (by kernel_rfl) (by kernel_rfl) (by kernel_rfl) trivial rfl rfl hC (fun w hC => y_len Try.runUnderlying22 rfl) fun a hs => ?_
        refine h_take hs (i := 3) rfl (by kernel_rfl) (by kernel_rfl) (by kernel_rfl) trivial rfl rfl hC (fun w hC => y_fieldAddr (o' := 0) Try.runUnderlying51 rfl Try.sizeOf28 rfl rfl rfl) fun a hs => ?_
        refine h_take hs (i := 4) rfl (by kernel_rfl) (by kernel_rfl) (by kernel_rfl) trivial rfl rfl hC (fun w hC => y_fieldAddr (o' := 0) Try.runUnderlying28 rfl Try.sizeOf22 rfl rfl rfl) fun a hs => ?_
        refine h_take hs (i := 11) rfl (by kernel_rfl) (by kernel_rfl) (by kernel_rfl) trivial rfl rfl hC (fun w hC => y_fieldAddr (o' := 4) Try.runUnderlying51 rfl Try.sizeOf3 rfl rfl rfl) fun a hs => ?_
        refine h_take hs (i := 13) rfl (by kernel_rfl) (by kernel_rfl) (by kernel_rfl) trivial rfl rfl hC (fun w hC => y_move rfl) fun a hs => ?_
        refine h_take hs (i := 14) rfl (by kernel_rfl) (by kernel_rfl) (by kernel_rfl) trivial rfl rfl hC (fun w hC => y_len Try.runUnderlying22 rfl) fun a hs => ?_
        refine h_all (rs := [5, 12]) (by kernel_rfl) rfl ?_
        refine AllH.cons rfl ?_ ?_
        · refine st_val hs (y_loadB1 (hw.ownAt 3 rfl) rfl Try.isAgg22 rfl) trivial rfl rfl fun a hs => ?_
          refine wpList_nil ?_
          refine then_normal ?_
          have hC : Cls [.row p60 rv59.length k61 c62 3 1, .row p48 rv47.length k49 c50 3 1, .box b13 [.slice none ([] : List Int).length 0, .int .i64 0, .int .i64 0, .slice none ([] : List Int).length 0, .int .i64 0] 51] [] _ := hw.cls [0, 1, 2] ⟨rfl, rfl, rfl, trivial⟩ trivial
          refine ⟨hC, ?_⟩
          refine h_take hs (i := 6) rfl (by kernel_rfl) (by kernel_rfl) (by kernel_rfl) trivial rfl rfl hC (fun w hC => y_len Try.runUnderlying22 rfl) fun a hs => ?_
          refine h_take hs (i := 7) rfl (by kernel_rfl) (by kernel_rfl) (by kernel_rfl) trivial rfl rfl hC (fun w hC => y_sub rfl rfl) fun a hs => ?_
          refine h_take hs (i := 8) rfl (by kernel_rfl) (by kernel_rfl) (by kernel_rfl) trivial rfl rfl hC (fun w hC => y_add rfl rfl) fun a hs => ?_
          refine h_take hs (i := 9) rfl (by kernel_rfl) (by kernel_rfl) (by kernel_rfl) trivial rfl rfl hC (fun w hC => y_max rfl rfl) fun a hs => ?_
          refine h_take hs (i := 10) rfl (by kernel_rfl) (by kernel_rfl) (by kernel_rfl) trivial rfl rfl hC (fun w hC => y_slc Try.runUnderlying22 Try.sizeOf3 rfl ⟨_, rfl⟩ (by exact rfl) h71) fun a hs => ?_
          refine h_all (rs := [12]) (by kernel_rfl) rfl ?_
          refine AllH.cons rfl ?_ ?_
          · refine st_val hs (y_loadB1 (hw.ownAt 3 rfl) rfl Try.isAgg3 rfl) trivial rfl rfl fun a hs => ?_
            refine wpList_nil ?_
            refine then_normal ?_
            have hC : Cls [.row p60 rv59.length k61 c62 3 1, .row p48 rv47.length k49 c50 3 1, .box b13 [.slice none ([] : List Int).length 0, .int .i64 0, .int .i64 0, .slice none ([] : List Int).length 0, .int .i64 0] 51] [] _ := hw.cls [0, 1, 2] ⟨rfl, rfl, rfl, trivial⟩ trivial
            refine ⟨hC, ?_⟩
            refine h_take hs (i := 15) rfl (by kernel_rfl) (by kernel_rfl) (by kernel_rfl) trivial rfl rfl hC (fun w hC => y_add rfl rfl) fun a hs => ?_
            refine h_take hs (i := 16) rfl (by kernel_rfl) (by kernel_rfl) (by kernel_rfl) trivial rfl rfl hC (fun w hC => y_fieldAddr (o' := 3) Try.runUnderlying51 rfl Try.sizeOf22 rfl rfl rfl) fun a hs => ?_
            refine h_all (rs := [17]) (by kernel_rfl) rfl ?_
            refine AllH.cons rfl ?_ ?_
            · refine w_store (m := 1) (cs' := [.slice p60 rv59.length k61, .int .i64 d1.Filter.Factor, .int .i64 d1.Filter.Shift, .slice p72 l74.length k73, .int .i64 d1.Number]) hs hw 3 rfl rfl rfl Try.sizeOf22 rfl rfl rfl rfl trivial ?_
              intro a w hs hw
              refine wpList_nil ?_
              refine then_normal ?_
              have hC : Cls [.row p60 rv59.length k61 c62 3 1, .row p48 rv47.length k49 c50 3 1, .box b13 [.slice none ([] : List Int).length 0, .int .i64 0, .int .i64 0, .slice none ([] : List Int).length 0, .int .i64 0] 51] [] _ := hw.cls [0, 1, 2] ⟨rfl, rfl, rfl, trivial⟩ trivial
              refine ⟨hC, ?_⟩
              refine h_take hs (i := 18) rfl (by kernel_rfl) (by kernel_rfl) (by kernel_rfl) trivial rfl rfl hC (fun w hC => y_fieldAddr (o' := 4) Try.runUnderlying51 rfl Try.sizeOf3 rfl rfl rfl) fun a hs => ?_
              refine h_all (rs := [19]) (by kernel_rfl) rfl ?_
              refine AllH.cons rfl ?_ ?_
              · refine w_store (m := 1) (cs' := [.slice p60 rv59.length k61, .int .i64 d1.Filter.Factor, .int .i64 d1.Filter.Shift, .slice p72 l74.length k73, .int .i64 (w64 (d1.Number + (samples8.length : Int)))]) hs hw 3 rfl rfl rfl Try.sizeOf3 rfl rfl rfl rfl trivial ?_
                intro a w hs hw
                refine wpList_nil ?_
                refine then_normal ?_
                have hC : Cls [.row p60 rv59.length k61 c62 3 1, .row p48 rv47.length k49 c50 3 1, .box b13 [.slice none ([] : List Int).length 0, .int .i64 0, .int .i64 0, .slice none ([] : List Int).length 0, .int .i64 0] 51] [] _ := hw.cls [0, 1, 2] ⟨rfl, rfl, rfl, trivial⟩ trivial
                refine ⟨hC, ?_⟩
                refine h_done (by kernel_rfl) ?_
                have hw := hw.addE (e := SlA (α := Int) none 0 0 []) nil_sl
                exact ⟨Sv65, k73, p72, (hs.weaken _ ⟨rfl, rfl, rfl, trivial⟩), (hw.fit [3, 2, 1, 0] (by decide) ⟨rfl, rfl, rfl, rfl, trivial⟩ ⟨⟨1, rfl⟩, ⟨0, rfl⟩, ⟨3, rfl⟩, ⟨2, rfl⟩, trivial⟩)⟩
              exact AllH.nil
            exact AllH.nil
          exact AllH.nil
        refine AllH.cons rfl ?_ ?_
        · refine st_val hs (y_loadB1 (hw.ownAt 3 rfl) rfl Try.isAgg3 rfl) trivial rfl rfl fun a hs => ?_
          refine wpList_nil ?_
          refine then_normal ?_
          have hC : Cls [.row p60 rv59.length k61 c62 3 1, .row p48 rv47.length k49 c50 3 1, .box b13 [.slice none ([] : List Int).length 0, .int .i64 0, .int .i64 0, .slice none ([] : List Int).length 0, .int .i64 0] 51] [] _ := hw.cls [0, 1, 2] ⟨rfl, rfl, rfl, trivial⟩ trivial
          refine ⟨hC, ?_⟩
          refine h_take hs (i := 15) rfl (by kernel_rfl) (by kernel_rfl) (by kernel_rfl) trivial rfl rfl hC (fun w hC => y_add rfl rfl) fun a hs => ?_
          refine h_all (rs := [5]) (by kernel_rfl) rfl ?_
          refine AllH.cons rfl ?_ ?_
          · refine st_val hs (y_loadB1 (hw.ownAt 3 rfl) rfl Try.isAgg22 rfl) trivial rfl rfl fun a hs => ?_
            refine wpList_nil ?_
            refine then_normal ?_
            have hC : Cls [.row p60 rv59.length k61 c62 3 1, .row p48 rv47.length k49 c50 3 1, .box b13 [.slice none ([] : List Int).length 0, .int .i64 0, .int .i64 0, .slice none ([] : List Int).length 0, .int .i64 0] 51] [] _ := hw.cls [0, 1, 2] ⟨rfl, rfl, rfl, trivial⟩ trivial
            refine ⟨hC, ?_⟩
            refine h_take hs (i := 6) rfl (by kernel_rfl) (by kernel_rfl) (by kernel_rfl) trivial rfl rfl hC (fun w hC => y_len Try.runUnderlying22 rfl) fun a hs => ?_
            refine h_take hs (i := 7) rfl (by kernel_rfl) (by kernel_rfl) (by kernel_rfl) trivial rfl rfl hC (fun w hC => y_sub rfl rfl) fun a hs => ?_
            refine h_take hs (i := 8) rfl (by kernel_rfl) (by kernel_rfl) (by kernel_rfl) trivial rfl rfl hC (fun w hC => y_add rfl rfl) fun a hs => ?_
            refine h_take hs (i := 9) rfl (by kernel_rfl) (by kernel_rfl) (by kernel_rfl) trivial rfl rfl hC (fun w hC => y_max rfl rfl) fun a hs => ?_
            refine h_take hs (i := 10) rfl (by kernel_rfl) (by kernel_rfl) (by kernel_rfl) trivial rfl rfl hC (fun w hC => y_slc Try.runUnderlying22 Try.sizeOf3 rfl ⟨_, rfl⟩ (by exact rfl) h71) fun a hs => ?_
            refine h_take hs (i := 16) rfl (by kernel_rfl) (by kernel_rfl) (by kernel_rfl) trivial rfl rfl hC (fun w hC => y_fieldAddr (o' := 3) Try.runUnderlying51 rfl Try.sizeOf22 rfl rfl rfl) fun a hs => ?_
            refine h_all (rs := [17]) (by kernel_rfl) rfl ?_
            refine AllH.cons rfl ?_ ?_
            · refine w_store (m := 1) (cs' := [.slice p60 rv59.length k61, .int .i64 d1.Filter.Factor, .int .i64 d1.Filter.Shift, .slice p72 l74.length k73, .int .i64 d1.Number]) hs hw 3 rfl rfl rfl Try.sizeOf22 rfl rfl rfl rfl trivial ?_
              intro a w hs hw
              refine wpList_nil ?_
              refine then_normal ?_
              have hC : Cls [.row p60 rv59.length k61 c62 3 1, .row p48 rv47.length k49 c50 3 1, .box b13 [.slice none ([] : List Int).length 0, .int .i64 0, .int .i64 0, .slice none ([] : List Int).length 0, .int .i64 0] 51] [] _ := hw.cls [0, 1, 2] ⟨rfl, rfl, rfl, trivial⟩ trivial
              refine ⟨hC, ?_⟩
              refine h_take hs (i := 18) rfl (by kernel_rfl) (by kernel_rfl) (by kernel_rfl) trivial rfl rfl hC (fun w hC => y_fieldAddr (o' := 4) Try.runUnderlying51 rfl Try.sizeOf3 rfl rfl rfl) fun a hs => ?_
              refine h_all (rs := [19]) (by kernel_rfl) rfl ?_
              refine AllH.cons rfl ?_ ?_
              · refine w_store (m := 1) (cs' := [.slice p60 rv59.length k61, .int .i64 d1.Filter.Factor, .int .i64 d1.Filter.Shift, .slice p72 l74.length k73, .int .i64 (w64 (d1.Number + (samples8.length : Int)))]) hs hw 3 rfl rfl rfl Try.sizeOf3 rfl rfl rfl rfl trivial ?_
                intro a w hs hw
                refine wpList_nil ?_
                refine then_normal ?_
                have hC : Cls [.row p60 rv59.length k61 c62 3 1, .row p48 rv47.length k49 c50 3 1, .box b13 [.slice none ([] : List Int).length 0, .int .i64 0, .int .i64 0, .slice none ([] : List Int).length 0, .int .i64 0] 51] [] _ := hw.cls [0, 1, 2] ⟨rfl, rfl, rfl, trivial⟩ trivial
                refine ⟨hC, ?_⟩
                refine h_done (by kernel_rfl) ?_
                have hw := hw.addE (e := SlA (α := Int) none 0 0 []) nil_sl
                exact ⟨Sv65, k73, p72, (hs.weaken _ ⟨rfl, rfl, rfl, trivial⟩), (hw.fit [3, 2, 1, 0] (by decide) ⟨rfl, rfl, rfl, rfl, trivial⟩ ⟨⟨1, rfl⟩, ⟨0, rfl⟩, ⟨3, rfl⟩, ⟨2, rfl⟩, trivial⟩)⟩
              exact AllH.nil
            exact AllH.nil
          exact AllH.nil
        exact AllH.nil
      · rintro a w ⟨Sv75, k73, p72, hs, hw⟩
        refine then_normal ?_
        refine wp_seq ?_
        refine wp_region_lit ?_
        refine st_val hs (y_loadBA (hw.ownAt 0 rfl) rfl Try.isAgg51 Try.sizeOf51 rfl rfl) trivial rfl rfl fun a hs => ?_
        refine st_val hs (y_move rfl) trivial rfl rfl fun a hs => ?_
        refine w_store (m := 5) (cs' := [.slice p60 rv59.length k61, .int .i64 d1.Filter.Factor, .int .i64 d1.Filter.Shift, .slice p72 l74.length k73, .int .i64 (w64 (d1.Number + (samples8.length : Int)))]) hs hw 1 rfl rfl rfl Try.sizeOf51 rfl rfl rfl rfl trivial ?_
        intro a w hs hw
        refine st_val hs (y_assign rfl) trivial rfl rfl fun a hs => ?_
        refine st_val hs (y_assign rfl) trivial rfl rfl fun a hs => ?_
        refine wpList_nil ?_
        refine then_normal ?_
        have hsh := Option.some.inj hsh
        subst hsh
        obtain ⟨Sv76, hw⟩ := w_share (α := Int) hw 2 rfl 2 rfl (.inl rfl)
        refine wp_ret ?_
        exact ret3 hs rfl (rv_cell hw 1 rfl rfl Try.isAgg51 Try.sizeOf51 rfl) (rv_tmp rfl) (rv_tmp rfl) (hw.ret ⟨p60, k61, c62, p72, k73, p48, k49, rfl, (hw.freshOf 2 rfl (.inl rfl)), (hw.envAt 4 rfl), (hw.envAt 1 rfl), (hw.envAt 0 rfl)⟩)

abbrev ref21_Same_rd (w0 : World) (r : Bool) : (Nat → Prop) → World → Value → Prop := fun S w v => v = .bool r
set_option maxHeartbeats 4000000 in
set_option maxRecDepth 100000 in
theorem ref21_Same_ok {w0 : World} {S0 : Nat → Prop} {p2 : Option Addr} {k3 : Nat} {p6 : Option Addr} {k7 : Nat} {a1 : Filter} {b5 : Filter} {r : Bool} (hsh : ref21_Same a1 b5 = some r) (hS : ∀ b, S0 b → b < w0.heap.size) (h4 : (SlA p2 a1.Taps.length k3 a1.Taps).p S0 w0) (h8 : (SlA p6 b5.Taps.length k7 b5.Taps).p S0 w0) : Calls Try.prog 19 #[.agg #[.slice p2 a1.Taps.length k3, .int .i64 a1.Factor, .int .i64 a1.Shift], .agg #[.slice p6 b5.Taps.length k7, .int .i64 b5.Factor, .int .i64 b5.Shift]] w0 (Ret [] w0 S0 (ref21_Same_rd w0 r)) := by
  refine calls_of_wp Try.func19 rfl ?_
  have hs := Sl.enter #[.agg #[.slice p2 a1.Taps.length k3, .int .i64 a1.Factor, .int .i64 a1.Shift], .agg #[.slice p6 b5.Taps.length k7, .int .i64 b5.Factor, .int .i64 b5.Shift]] 24 [(0, .agg #[.slice p2 a1.Taps.length k3, .int .i64 a1.Factor, .int .i64 a1.Shift]), (1, .agg #[.slice p6 b5.Taps.length k7, .int .i64 b5.Factor, .int .i64 b5.Shift])] rfl ⟨rfl, rfl, trivial⟩
  have hw := Wd.enter (E := []) hS (fun _ h => (by cases h))
  have hw := hw.addE h4
  have hw := hw.addE h8
  delta ref21_Same at hsh
  refine wp_seq ?_
  refine wp_region_lit ?_
  refine w_box (cs := [.slice p2 a1.Taps.length k3, .int .i64 a1.Factor, .int .i64 a1.Shift]) hs hw rfl rfl rfl trivial ?_
  intro b9 a w hs hw
  refine w_box (cs := [.slice p6 b5.Taps.length k7, .int .i64 b5.Factor, .int .i64 b5.Shift]) hs hw rfl rfl rfl trivial ?_
  intro b10 a w hs hw
  refine st_val hs (y_assign rfl) trivial rfl rfl fun a hs => ?_
  refine wpList_nil ?_
  refine then_normal ?_
  refine wp_seq ?_
  refine wp_region_lit ?_
  refine st_val hs (y_fieldAddr (o' := 1) Try.runUnderlying28 rfl Try.sizeOf3 rfl rfl rfl) trivial rfl rfl fun a hs => ?_
  refine st_val hs (y_loadB1 (hw.ownAt 1 rfl) rfl Try.isAgg3 rfl) trivial rfl rfl fun a hs => ?_
  refine st_val hs (y_fieldAddr (o' := 1) Try.runUnderlying28 rfl Try.sizeOf3 rfl rfl rfl) trivial rfl rfl fun a hs => ?_
  refine st_val hs (y_loadB1 (hw.ownAt 0 rfl) rfl Try.isAgg3 rfl) trivial rfl rfl fun a hs => ?_
  refine st_val hs (y_eql rfl rfl) trivial rfl rfl fun a hs => ?_
  refine st_val hs (y_move rfl) trivial rfl rfl fun a hs => ?_
  refine wpl_join 6 (fun a w1 => w = w1 ∧ Sl 24 [(2, .pointer (some ⟨b9, 0, none⟩)), (3, .pointer (some ⟨b10, 0, none⟩)), (16, .bool ((a1.Factor == b5.Factor) && (a1.Shift == b5.Shift)))] a) ?_ ?_
  · rcases Bool.eq_false_or_eq_true (a1.Factor == b5.Factor) with h11 | h11
    · have hs := hs.fix 10 (.bool true) rfl (vb h11)
      refine st_val hs (y_fieldAddr (o' := 2) Try.runUnderlying28 rfl Try.sizeOf3 rfl rfl rfl) ⟨_, rfl, rfl⟩ rfl rfl fun a hs => ?_
      refine st_val hs (y_loadB1 (hw.ownAt 1 rfl) rfl Try.isAgg3 rfl) ⟨_, rfl, rfl⟩ rfl rfl fun a hs => ?_
      refine st_val hs (y_fieldAddr (o' := 2) Try.runUnderlying28 rfl Try.sizeOf3 rfl rfl rfl) ⟨_, rfl, rfl⟩ rfl rfl fun a hs => ?_
      refine st_val hs (y_loadB1 (hw.ownAt 0 rfl) rfl Try.isAgg3 rfl) ⟨_, rfl, rfl⟩ rfl rfl fun a hs => ?_
      refine st_val hs (y_eql rfl rfl) ⟨_, rfl, rfl⟩ rfl rfl fun a hs => ?_
      refine st_val hs (y_pickT rfl rfl) trivial rfl rfl fun a hs => ?_
      refine wpList_nil ?_
      refine then_normal ?_
      exact ⟨rfl, (hs.fix 16 (.bool ((a1.Factor == b5.Factor) && (a1.Shift == b5.Shift))) rfl (and_t h11)).weaken _ ⟨rfl, rfl, rfl, trivial⟩⟩
    · have hs := hs.fix 10 (.bool false) rfl (vb h11)
      refine st_skip hs rfl rfl rfl rfl rfl fun a hs => ?_
      refine st_skip hs rfl rfl rfl rfl rfl fun a hs => ?_
      refine st_skip hs rfl rfl rfl rfl rfl fun a hs => ?_
      refine st_skip hs rfl rfl rfl rfl rfl fun a hs => ?_
      refine st_skip hs rfl rfl rfl rfl rfl fun a hs => ?_
      refine st_val hs (y_pickF rfl rfl) trivial rfl rfl fun a hs => ?_
      refine wpList_nil ?_
      refine then_normal ?_
      exact ⟨rfl, (hs.fix 16 (.bool ((a1.Factor == b5.Factor) && (a1.Shift == b5.Shift))) rfl (and_f h11)).weaken _ ⟨rfl, rfl, rfl, trivial⟩⟩
  · rintro a w1 ⟨h27, hs⟩
    subst h27
    refine st_val hs (y_move rfl) trivial rfl rfl fun a hs => ?_
    obtain ⟨c19, hc19, hsh⟩ := bind_t hsh
    refine wpl_join 6 (fun a w => ∃ (Sv20 : Nat → Prop), Sl 24 [(23, .bool c19)] a ∧ Wd ⟨w0, S0, []⟩ Sv20 [] [] w) ?_ ?_
    · rcases Bool.eq_false_or_eq_true ((a1.Factor == b5.Factor) && (a1.Shift == b5.Shift)) with h18 | h18
      · have hs := hs.fix 17 (.bool true) rfl (vb h18)
        have hsh := ite_t hc19 h18
        refine st_val hs (y_fieldAddr (o' := 0) Try.runUnderlying28 rfl Try.sizeOf22 rfl rfl rfl) ⟨_, rfl, rfl⟩ rfl rfl fun a hs => ?_
        refine st_val hs (y_loadB1 (hw.ownAt 1 rfl) rfl Try.isAgg22 rfl) ⟨_, rfl, rfl⟩ rfl rfl fun a hs => ?_
        refine st_val hs (y_fieldAddr (o' := 0) Try.runUnderlying28 rfl Try.sizeOf22 rfl rfl rfl) ⟨_, rfl, rfl⟩ rfl rfl fun a hs => ?_
        refine st_val hs (y_loadB1 (hw.ownAt 0 rfl) rfl Try.isAgg22 rfl) ⟨_, rfl, rfl⟩ rfl rfl fun a hs => ?_
        obtain ⟨rv22, h21, hsh⟩ := bind_t hsh
        refine st_callR hs (ref05_Same_ok h21 hw.dom (hw.envAt 1 rfl) (hw.envAt 0 rfl)) (do_call Try.call23 rfl) ⟨_, rfl, rfl⟩ rfl rfl ?_
        intro v26 Sv23 w a h24 h25 hs
        subst h25
        have hw := hw.call h24
        refine st_val hs (y_pickT rfl rfl) trivial rfl rfl fun a hs => ?_
        refine wpList_nil ?_
        have hsh := Option.some.inj hsh
        subst hsh
        refine then_normal ?_
        exact ⟨Sv23, (hs.weaken _ ⟨rfl, trivial⟩), (hw.fit [] (by decide) trivial trivial)⟩
      · have hs := hs.fix 17 (.bool false) rfl (vb h18)
        have hsh := ite_f hc19 h18
        refine st_skip hs rfl rfl rfl rfl rfl fun a hs => ?_
        refine st_skip hs rfl rfl rfl rfl rfl fun a hs => ?_
        refine st_skip hs rfl rfl rfl rfl rfl fun a hs => ?_
        refine st_skip hs rfl rfl rfl rfl rfl fun a hs => ?_
        refine st_skip hs rfl rfl rfl rfl rfl fun a hs => ?_
        refine st_val hs (y_pickF rfl rfl) trivial rfl rfl fun a hs => ?_
        refine wpList_nil ?_
        have hsh := Option.some.inj hsh
        subst hsh
        refine then_normal ?_
        exact ⟨S0, (hs.weaken _ ⟨rfl, trivial⟩), (hw.fit [] (by decide) trivial trivial)⟩
    · rintro a w ⟨Sv20, hs, hw⟩
      refine st_val hs (y_assign rfl) trivial rfl rfl fun a hs => ?_
      refine wpList_nil ?_
      refine then_normal ?_
      have hsh := Option.some.inj hsh
      subst hsh
      refine wp_ret ?_
      exact ret1 hs rfl (rv_tmp rfl) (hw.ret rfl)

abbrev ref21_SameFeed_rd (w0 : World) (r : Bool) : (Nat → Prop) → World → Value → Prop := fun S w v => v = .bool r
set_option maxHeartbeats 4000000 in
set_option maxRecDepth 100000 in
theorem ref21_SameFeed_ok {w0 : World} {S0 : Nat → Prop} {p2 : Option Addr} {k3 : Nat} {p4 : Option Addr} {k5 : Nat} {p9 : Option Addr} {k10 : Nat} {p11 : Option Addr} {k12 : Nat} {a1 : Feed} {b8 : Feed} {r : Bool} (hsh : ref21_SameFeed a1 b8 = some r) (hS : ∀ b, S0 b → b < w0.heap.size) (h6 : (SlA p2 a1.Filter.Taps.length k3 a1.Filter.Taps).p S0 w0) (h7 : (SlA p4 a1.Past.length k5 a1.Past).p S0 w0) (h13 : (SlA p9 b8.Filter.Taps.length k10 b8.Filter.Taps).p S0 w0) (h14 : (SlA p11 b8.Past.length k12 b8.Past).p S0 w0) : Calls Try.prog 26 #[.agg #[.slice p2 a1.Filter.Taps.length k3, .int .i64 a1.Filter.Factor, .int .i64 a1.Filter.Shift, .slice p4 a1.Past.length k5, .int .i64 a1.Number], .agg #[.slice p9 b8.Filter.Taps.length k10, .int .i64 b8.Filter.Factor, .int .i64 b8.Filter.Shift, .slice p11 b8.Past.length k12, .int .i64 b8.Number]] w0 (Ret [] w0 S0 (ref21_SameFeed_rd w0 r)) := by
  refine calls_of_wp Try.func26 rfl ?_
  have hs := Sl.enter #[.agg #[.slice p2 a1.Filter.Taps.length k3, .int .i64 a1.Filter.Factor, .int .i64 a1.Filter.Shift, .slice p4 a1.Past.length k5, .int .i64 a1.Number], .agg #[.slice p9 b8.Filter.Taps.length k10, .int .i64 b8.Filter.Factor, .int .i64 b8.Filter.Shift, .slice p11 b8.Past.length k12, .int .i64 b8.Number]] 24 [(0, .agg #[.slice p2 a1.Filter.Taps.length k3, .int .i64 a1.Filter.Factor, .int .i64 a1.Filter.Shift, .slice p4 a1.Past.length k5, .int .i64 a1.Number]), (1, .agg #[.slice p9 b8.Filter.Taps.length k10, .int .i64 b8.Filter.Factor, .int .i64 b8.Filter.Shift, .slice p11 b8.Past.length k12, .int .i64 b8.Number])] rfl ⟨rfl, rfl, trivial⟩
  have hw := Wd.enter (E := []) hS (fun _ h => (by cases h))
  have hw := hw.addE h6
  have hw := hw.addE h7
  have hw := hw.addE h13
  have hw := hw.addE h14
  delta ref21_SameFeed at hsh
  refine wp_seq ?_
  refine wp_region_lit ?_
  refine w_box (cs := [.slice p2 a1.Filter.Taps.length k3, .int .i64 a1.Filter.Factor, .int .i64 a1.Filter.Shift, .slice p4 a1.Past.length k5, .int .i64 a1.Number]) hs hw rfl rfl rfl trivial ?_
  intro b15 a w hs hw
  refine w_box (cs := [.slice p9 b8.Filter.Taps.length k10, .int .i64 b8.Filter.Factor, .int .i64 b8.Filter.Shift, .slice p11 b8.Past.length k12, .int .i64 b8.Number]) hs hw rfl rfl rfl trivial ?_
  intro b16 a w hs hw
  refine st_val hs (y_assign rfl) trivial rfl rfl fun a hs => ?_
  refine wpList_nil ?_
  refine then_normal ?_
  refine wp_seq ?_
  refine wp_region_lit ?_
  refine st_val hs (y_fieldAddr (o' := 0) Try.runUnderlying51 rfl Try.sizeOf28 rfl rfl rfl) trivial rfl rfl fun a hs => ?_
  refine st_val hs (y_loadBA (hw.ownAt 1 rfl) rfl Try.isAgg28 Try.sizeOf28 rfl rfl) trivial rfl rfl fun a hs => ?_
  refine st_val hs (y_fieldAddr (o' := 0) Try.runUnderlying51 rfl Try.sizeOf28 rfl rfl rfl) trivial rfl rfl fun a hs => ?_
  refine st_val hs (y_loadBA (hw.ownAt 0 rfl) rfl Try.isAgg28 Try.sizeOf28 rfl rfl) trivial rfl rfl fun a hs => ?_
  obtain ⟨rv18, h17, hsh⟩ := bind_t hsh
  refine st_callR hs (ref21_Same_ok h17 hw.dom (hw.envAt 3 rfl) (hw.envAt 1 rfl)) (do_call Try.call19 rfl) trivial rfl rfl ?_
  intro v22 Sv19 w a h20 h21 hs
  subst h21
  have hw := hw.call h20
  refine st_val hs (y_move rfl) trivial rfl rfl fun a hs => ?_
  refine wpl_join 6 (fun a w1 => w = w1 ∧ Sl 24 [(2, .pointer (some ⟨b15, 0, none⟩)), (3, .pointer (some ⟨b16, 0, none⟩)), (16, .bool (rv18 && (a1.Number == b8.Number)))] a) ?_ ?_
  · rcases Bool.eq_false_or_eq_true rv18 with h23 | h23
    · have hs := hs.fix 10 (.bool true) rfl (vb h23)
      refine st_val hs (y_fieldAddr (o' := 4) Try.runUnderlying51 rfl Try.sizeOf3 rfl rfl rfl) ⟨_, rfl, rfl⟩ rfl rfl fun a hs => ?_
      refine st_val hs (y_loadB1 (hw.ownAt 1 rfl) rfl Try.isAgg3 rfl) ⟨_, rfl, rfl⟩ rfl rfl fun a hs => ?_
      refine st_val hs (y_fieldAddr (o' := 4) Try.runUnderlying51 rfl Try.sizeOf3 rfl rfl rfl) ⟨_, rfl, rfl⟩ rfl rfl fun a hs => ?_
      refine st_val hs (y_loadB1 (hw.ownAt 0 rfl) rfl Try.isAgg3 rfl) ⟨_, rfl, rfl⟩ rfl rfl fun a hs => ?_
      refine st_val hs (y_eql rfl rfl) ⟨_, rfl, rfl⟩ rfl rfl fun a hs => ?_
      refine st_val hs (y_pickT rfl rfl) trivial rfl rfl fun a hs => ?_
      refine wpList_nil ?_
      refine then_normal ?_
      exact ⟨rfl, (hs.fix 16 (.bool (rv18 && (a1.Number == b8.Number))) rfl (and_t h23)).weaken _ ⟨rfl, rfl, rfl, trivial⟩⟩
    · have hs := hs.fix 10 (.bool false) rfl (vb h23)
      refine st_skip hs rfl rfl rfl rfl rfl fun a hs => ?_
      refine st_skip hs rfl rfl rfl rfl rfl fun a hs => ?_
      refine st_skip hs rfl rfl rfl rfl rfl fun a hs => ?_
      refine st_skip hs rfl rfl rfl rfl rfl fun a hs => ?_
      refine st_skip hs rfl rfl rfl rfl rfl fun a hs => ?_
      refine st_val hs (y_pickF rfl rfl) trivial rfl rfl fun a hs => ?_
      refine wpList_nil ?_
      refine then_normal ?_
      exact ⟨rfl, (hs.fix 16 (.bool (rv18 && (a1.Number == b8.Number))) rfl (and_f h23)).weaken _ ⟨rfl, rfl, rfl, trivial⟩⟩
  · rintro a w1 ⟨h39, hs⟩
    subst h39
    refine st_val hs (y_move rfl) trivial rfl rfl fun a hs => ?_
    obtain ⟨c31, hc31, hsh⟩ := bind_t hsh
    refine wpl_join 6 (fun a w => ∃ (Sv32 : Nat → Prop), Sl 24 [(23, .bool c31)] a ∧ Wd ⟨w0, S0, []⟩ Sv32 [] [] w) ?_ ?_
    · rcases Bool.eq_false_or_eq_true (rv18 && (a1.Number == b8.Number)) with h30 | h30
      · have hs := hs.fix 17 (.bool true) rfl (vb h30)
        have hsh := ite_t hc31 h30
        refine st_val hs (y_fieldAddr (o' := 3) Try.runUnderlying51 rfl Try.sizeOf22 rfl rfl rfl) ⟨_, rfl, rfl⟩ rfl rfl fun a hs => ?_
        refine st_val hs (y_loadB1 (hw.ownAt 1 rfl) rfl Try.isAgg22 rfl) ⟨_, rfl, rfl⟩ rfl rfl fun a hs => ?_
        refine st_val hs (y_fieldAddr (o' := 3) Try.runUnderlying51 rfl Try.sizeOf22 rfl rfl rfl) ⟨_, rfl, rfl⟩ rfl rfl fun a hs => ?_
        refine st_val hs (y_loadB1 (hw.ownAt 0 rfl) rfl Try.isAgg22 rfl) ⟨_, rfl, rfl⟩ rfl rfl fun a hs => ?_
        obtain ⟨rv34, h33, hsh⟩ := bind_t hsh
        refine st_callR hs (ref05_Same_ok h33 hw.dom (hw.envAt 2 rfl) (hw.envAt 0 rfl)) (do_call Try.call23 rfl) ⟨_, rfl, rfl⟩ rfl rfl ?_
        intro v38 Sv35 w a h36 h37 hs
        subst h37
        have hw := hw.call h36
        refine st_val hs (y_pickT rfl rfl) trivial rfl rfl fun a hs => ?_
        refine wpList_nil ?_
        have hsh := Option.some.inj hsh
        subst hsh
        refine then_normal ?_
        exact ⟨Sv35, (hs.weaken _ ⟨rfl, trivial⟩), (hw.fit [] (by decide) trivial trivial)⟩
      · have hs := hs.fix 17 (.bool false) rfl (vb h30)
        have hsh := ite_f hc31 h30
        refine st_skip hs rfl rfl rfl rfl rfl fun a hs => ?_
        refine st_skip hs rfl rfl rfl rfl rfl fun a hs => ?_
        refine st_skip hs rfl rfl rfl rfl rfl fun a hs => ?_
        refine st_skip hs rfl rfl rfl rfl rfl fun a hs => ?_
        refine st_skip hs rfl rfl rfl rfl rfl fun a hs => ?_
        refine st_val hs (y_pickF rfl rfl) trivial rfl rfl fun a hs => ?_
        refine wpList_nil ?_
        have hsh := Option.some.inj hsh
        subst hsh
        refine then_normal ?_
        exact ⟨Sv19, (hs.weaken _ ⟨rfl, trivial⟩), (hw.fit [] (by decide) trivial trivial)⟩
    · rintro a w ⟨Sv32, hs, hw⟩
      refine st_val hs (y_assign rfl) trivial rfl rfl fun a hs => ?_
      refine wpList_nil ?_
      refine then_normal ?_
      have hsh := Option.some.inj hsh
      subst hsh
      refine wp_ret ?_
      exact ret1 hs rfl (rv_tmp rfl) (hw.ret rfl)

end Go.Proofs.Ytmihimhknllmcaa.Wk

/- The walks of RecordWindows, part 1: each Go function computes what its plain program computes. Printed by a program of ours. -/
import Derived.Test.YtdifjkamipeibaaProg
import Derived.Test.YtdifjkamipeibaaDat
import Derived.Test.YtdifjkamipeibaaSh
import Derived.Test.YtdifjkamipeibaaLibL
import Derived.KernelRfl
namespace Go.Proofs.Ytdifjkamipeibaa.Wk
open Go Go.RowKit Go.Proofs Go.Proofs.Ytdifjkamipeibaa.Sh
set_option linter.unusedVariables false
set_option linter.unusedSimpArgs false

theorem El22 : ElT Try.prog 22 3 1 8 (.int .i64 0) := ⟨Try.underlying22, ⟨Try.t3, info_of Try.type3, rfl, rfl, rfl⟩, rfl, by decide⟩
theorem El64 : ElT Try.prog 64 9 1 16 (.string ByteArray.empty) := ⟨Try.underlying64, ⟨Try.t9, info_of Try.type9, rfl, rfl, rfl⟩, rfl, by decide⟩
theorem Bld28 : BldT Try.prog 28 ((#[(0, 1), (1, 1), (2, 1), (3, 1)] : Array (Nat × Nat))[·]?) [.string ByteArray.empty, .string ByteArray.empty, .string ByteArray.empty, .string ByteArray.empty] := bld_of Try.zeroValue28 rfl Try.runUnderlying28 (fun w => by simp [Try.sizeOf9])
theorem Bld30 : BldT Try.prog 30 ((#[(0, 1), (1, 1)] : Array (Nat × Nat))[·]?) [.int .i64 0, .int .i64 0] := bld_of Try.zeroValue30 rfl Try.runUnderlying30 (fun w => by simp [Try.sizeOf3])
theorem Bld32 : BldT Try.prog 32 ((#[(0, 4), (4, 1), (5, 1), (6, 2), (8, 1), (9, 1), (10, 1), (11, 1)] : Array (Nat × Nat))[·]?) [.string ByteArray.empty, .string ByteArray.empty, .string ByteArray.empty, .string ByteArray.empty, .int .i64 0, .int .i64 0, .int .i64 0, .int .i64 0, .int .i64 0, .int .i64 0, .int .i64 0, .slice none ([] : List Int).length 0] := bld_of Try.zeroValue32 rfl Try.runUnderlying32 (fun w => by simp [Try.sizeOf3, Try.sizeOf22, Try.sizeOf28, Try.sizeOf30])
theorem Bld39 : BldT Try.prog 39 ((#[(0, 1), (1, 1)] : Array (Nat × Nat))[·]?) [.int .i64 0, .int .i64 0] := bld_of Try.zeroValue39 rfl Try.runUnderlying39 (fun w => by simp [Try.sizeOf3])
theorem Bld60 : BldT Try.prog 60 ((#[(0, 1), (1, 1)] : Array (Nat × Nat))[·]?) [.slice none ([] : List Int).length 0, .int .i64 0] := bld_of Try.zeroValue60 rfl Try.runUnderlying60 (fun w => by simp [Try.sizeOf3, Try.sizeOf22])

abbrev made_Light_rd (w0 : World) (r : Bool) : (Nat → Prop) → World → Value → Prop := fun S w v => v = .bool r
set_option maxHeartbeats 4000000 in
set_option maxRecDepth 100000 in
theorem made_Light_ok {w0 : World} {S0 : Nat → Prop} {p2 : Option Addr} {k3 : Nat} {l1 : (List Int)} {r : Bool} (hsh : made_Light l1 = some r) (hS : ∀ b, S0 b → b < w0.heap.size) (h4 : (SlA p2 l1.length k3 l1).p S0 w0) : Calls Try.prog 7 #[.slice p2 l1.length k3] w0 (Ret [] w0 S0 (made_Light_rd w0 r)) := by
  refine calls_of_wp Try.func7 rfl ?_
  have hs := Sl.enter #[.slice p2 l1.length k3] 6 [(0, .slice p2 l1.length k3)] rfl ⟨rfl, trivial⟩
  have hw := Wd.enter (E := []) hS (fun _ h => (by cases h))
  have hw := hw.addE h4
  delta made_Light at hsh
  refine wp_seq ?_
  refine wp_region_lit ?_
  refine st_val hs (y_assign rfl) trivial rfl rfl fun a hs => ?_
  refine wpList_nil ?_
  refine then_normal ?_
  refine wp_seq ?_
  refine wp_region_lit ?_
  refine st_val hs (y_move rfl) trivial rfl rfl fun a hs => ?_
  refine st_val hs (y_len Try.runUnderlying22 rfl) trivial rfl rfl fun a hs => ?_
  refine st_val hs (y_leq rfl rfl) trivial rfl rfl fun a hs => ?_
  refine st_val hs (y_assign rfl) trivial rfl rfl fun a hs => ?_
  refine wpList_nil ?_
  refine then_normal ?_
  have hsh := Option.some.inj hsh
  subst hsh
  refine wp_ret ?_
  exact ret1 hs rfl (rv_tmp rfl) (hw.ret rfl)

abbrev source_plain_rd (w0 : World) (r : Bool) : (Nat → Prop) → World → Value → Prop := fun S w v => v = .bool r
set_option maxHeartbeats 4000000 in
set_option maxRecDepth 100000 in
theorem source_plain_ok {w0 : World} {S0 : Nat → Prop} {c1 : Int} {r : Bool} (hsh : source_plain c1 = some r) (hS : ∀ b, S0 b → b < w0.heap.size) : Calls Try.prog 78 #[.int .u8 c1] w0 (Ret [] w0 S0 (source_plain_rd w0 r)) := by
  refine calls_of_wp Try.func78 rfl ?_
  have hs := Sl.enter #[.int .u8 c1] 17 [(0, .int .u8 c1)] rfl ⟨rfl, trivial⟩
  have hw := Wd.enter (E := []) hS (fun _ h => (by cases h))
  delta source_plain at hsh
  refine wp_seq ?_
  refine wp_region_lit ?_
  refine st_val hs (y_assign rfl) trivial rfl rfl fun a hs => ?_
  refine wpList_nil ?_
  refine then_normal ?_
  refine wp_seq ?_
  refine wp_region_lit ?_
  refine st_val hs (y_move rfl) trivial rfl rfl fun a hs => ?_
  refine st_val hs (y_geq rfl rfl) trivial rfl rfl fun a hs => ?_
  refine st_val hs (y_move rfl) trivial rfl rfl fun a hs => ?_
  refine wpl_join 3 (fun a w1 => w0 = w1 ∧ Sl 17 [(0, .int .u8 c1), (8, .bool ((decide (65 ≤ c1)) && (decide (c1 ≤ 90))))] a) ?_ ?_
  · rcases Bool.eq_false_or_eq_true (decide (65 ≤ c1)) with h2 | h2
    · have hs := hs.fix 5 (.bool true) rfl (vb h2)
      refine st_val hs (y_move rfl) ⟨_, rfl, rfl⟩ rfl rfl fun a hs => ?_
      refine st_val hs (y_leq rfl rfl) ⟨_, rfl, rfl⟩ rfl rfl fun a hs => ?_
      refine st_val hs (y_pickT rfl rfl) trivial rfl rfl fun a hs => ?_
      refine wpList_nil ?_
      refine then_normal ?_
      exact ⟨rfl, (hs.fix 8 (.bool ((decide (65 ≤ c1)) && (decide (c1 ≤ 90)))) rfl (and_t h2)).weaken _ ⟨rfl, rfl, trivial⟩⟩
    · have hs := hs.fix 5 (.bool false) rfl (vb h2)
      refine st_skip hs rfl rfl rfl rfl rfl fun a hs => ?_
      refine st_skip hs rfl rfl rfl rfl rfl fun a hs => ?_
      refine st_val hs (y_pickF rfl rfl) trivial rfl rfl fun a hs => ?_
      refine wpList_nil ?_
      refine then_normal ?_
      exact ⟨rfl, (hs.fix 8 (.bool ((decide (65 ≤ c1)) && (decide (c1 ≤ 90)))) rfl (and_f h2)).weaken _ ⟨rfl, rfl, trivial⟩⟩
  · rintro a w1 ⟨h9, hs⟩
    subst h9
    refine st_val hs (y_move rfl) trivial rfl rfl fun a hs => ?_
    refine wpl_join 7 (fun a w1 => w0 = w1 ∧ Sl 17 [(16, .bool (((decide (65 ≤ c1)) && (decide (c1 ≤ 90))) || ((decide (48 ≤ c1)) && (decide (c1 ≤ 57)))))] a) ?_ ?_
    · rcases Bool.eq_false_or_eq_true ((decide (65 ≤ c1)) && (decide (c1 ≤ 90))) with h5 | h5
      · have hs := hs.fix 9 (.bool true) rfl (vb h5)
        refine st_skip hs rfl rfl rfl rfl rfl fun a hs => ?_
        refine st_skip hs rfl rfl rfl rfl rfl fun a hs => ?_
        refine st_skip hs rfl rfl rfl rfl rfl fun a hs => ?_
        refine st_skipU hs rfl rfl rfl rfl rfl fun a hs => ?_
        refine st_skipU hs rfl rfl rfl rfl rfl fun a hs => ?_
        refine st_skip hs rfl rfl rfl rfl rfl fun a hs => ?_
        refine st_val hs (y_pickT rfl rfl) trivial rfl rfl fun a hs => ?_
        refine wpList_nil ?_
        refine then_normal ?_
        exact ⟨rfl, (hs.fix 16 (.bool (((decide (65 ≤ c1)) && (decide (c1 ≤ 90))) || ((decide (48 ≤ c1)) && (decide (c1 ≤ 57))))) rfl (or_t h5)).weaken _ ⟨rfl, trivial⟩⟩
      · have hs := hs.fix 9 (.bool false) rfl (vb h5)
        refine st_val hs (y_move rfl) ⟨_, rfl, rfl⟩ rfl rfl fun a hs => ?_
        refine st_val hs (y_geq rfl rfl) ⟨_, rfl, rfl⟩ rfl rfl fun a hs => ?_
        refine st_val hs (y_move rfl) ⟨_, rfl, rfl⟩ rfl rfl fun a hs => ?_
        refine wpl_join 3 (fun a w1 => w0 = w1 ∧ Sl 17 [(9, .bool false), (15, .bool ((decide (48 ≤ c1)) && (decide (c1 ≤ 57))))] a) ?_ ?_
        · rcases Bool.eq_false_or_eq_true (decide (48 ≤ c1)) with h6 | h6
          · have hs := hs.fix 12 (.bool true) rfl (vb h6)
            refine st_val hs (y_move rfl) ⟨_, rfl, rfl⟩ rfl rfl fun a hs => ?_
            refine st_val hs (y_leq rfl rfl) ⟨_, rfl, rfl⟩ rfl rfl fun a hs => ?_
            refine st_val hs (y_pickT rfl rfl) ⟨_, rfl, rfl⟩ rfl rfl fun a hs => ?_
            refine wpList_nil ?_
            refine then_normal ?_
            exact ⟨rfl, (hs.fix 15 (.bool ((decide (48 ≤ c1)) && (decide (c1 ≤ 57)))) rfl (and_t h6)).weaken _ ⟨rfl, rfl, trivial⟩⟩
          · have hs := hs.fix 12 (.bool false) rfl (vb h6)
            refine st_skip hs rfl rfl rfl rfl rfl fun a hs => ?_
            refine st_skip hs rfl rfl rfl rfl rfl fun a hs => ?_
            refine st_val hs (y_pickF rfl rfl) ⟨_, rfl, rfl⟩ rfl rfl fun a hs => ?_
            refine wpList_nil ?_
            refine then_normal ?_
            exact ⟨rfl, (hs.fix 15 (.bool ((decide (48 ≤ c1)) && (decide (c1 ≤ 57)))) rfl (and_f h6)).weaken _ ⟨rfl, rfl, trivial⟩⟩
        · rintro a w1 ⟨h7, hs⟩
          subst h7
          refine st_val hs (y_pickF rfl rfl) trivial rfl rfl fun a hs => ?_
          refine wpList_nil ?_
          refine then_normal ?_
          exact ⟨rfl, (hs.fix 16 (.bool (((decide (65 ≤ c1)) && (decide (c1 ≤ 90))) || ((decide (48 ≤ c1)) && (decide (c1 ≤ 57))))) rfl (or_f h5)).weaken _ ⟨rfl, trivial⟩⟩
    · rintro a w1 ⟨h8, hs⟩
      subst h8
      refine st_val hs (y_assign rfl) trivial rfl rfl fun a hs => ?_
      refine wpList_nil ?_
      refine then_normal ?_
      have hsh := Option.some.inj hsh
      subst hsh
      refine wp_ret ?_
      exact ret1 hs rfl (rv_tmp rfl) (hw.ret rfl)

abbrev source_code_rd (w0 : World) (r : Bool) : (Nat → Prop) → World → Value → Prop := fun S w v => v = .bool r
set_option maxHeartbeats 4000000 in
set_option maxRecDepth 100000 in
theorem source_code_ok {w0 : World} {S0 : Nat → Prop} {s1 : ByteArray} {low2 : Int} {high3 : Int} {r : Bool} (hsh : source_code s1 low2 high3 = some r) (hS : ∀ b, S0 b → b < w0.heap.size) : Calls Try.prog 69 #[.string s1, .int .i64 low2, .int .i64 high3] w0 (Ret [] w0 S0 (source_code_rd w0 r)) := by
  refine calls_of_wp Try.func69 rfl ?_
  have hs := Sl.enter #[.string s1, .int .i64 low2, .int .i64 high3] 29 [(0, .string s1), (1, .int .i64 low2), (2, .int .i64 high3)] rfl ⟨rfl, rfl, rfl, trivial⟩
  have hw := Wd.enter (E := []) hS (fun _ h => (by cases h))
  delta source_code at hsh
  refine wp_seq ?_
  refine wp_region_lit ?_
  refine st_val hs (y_assign rfl) trivial rfl rfl fun a hs => ?_
  refine wpList_nil ?_
  refine then_normal ?_
  refine wp_seq ?_
  refine wp_seq ?_
  refine wp_region_lit ?_
  refine st_val hs (y_move rfl) trivial rfl rfl fun a hs => ?_
  refine st_val hs (y_lenS Try.runUnderlying9 rfl) trivial rfl rfl fun a hs => ?_
  refine st_val hs (y_move rfl) trivial rfl rfl fun a hs => ?_
  refine wpList_nil ?_
  refine then_normal ?_
  refine wp_block ?_
  refine wp_while (fun sv39 a w => ∃ (Sv61 : Nat → Prop), Sl 29 [(0, .string s1), (1, .int .i64 low2), (2, .int .i64 high3), (9, .int .i64 (s1.size : Int)), (10, .int .i64 sv39)] a ∧ Wd ⟨w0, S0, []⟩ Sv61 [] [] w) 0 hsh ⟨S0, (hs.wk rfl), (hw.ft [] [] (by decide) rfl rfl)⟩ ?_
  repeat clear hsh
  rintro sv39 a w tv73 ⟨Sv61, hs, hw⟩ hsh hd72
  delta source_code_l2 at hsh
  refine wp_seq ?_
  refine wp_region_lit ?_
  refine st_val hs (y_lss rfl rfl) trivial rfl rfl fun a hs => ?_
  refine wpList_nil ?_
  refine then_normal ?_
  refine wp_seq ?_
  refine wp_cond_split (hs.ev rfl) (fun h77 => ?_) (fun h77 => ?_)
  · have hsh := ite_t hsh h77
    refine wp_skip ?_
    refine then_normal ?_
    refine wp_seq ?_
    refine wp_block ?_
    refine wp_seq ?_
    refine wp_region_lit ?_
    refine st_val hs (y_move rfl) trivial rfl rfl fun a hs => ?_
    refine st_val hs (y_assign rfl) trivial rfl rfl fun a hs => ?_
    refine wpList_nil ?_
    refine then_normal ?_
    refine wp_seq ?_
    refine wp_region_lit ?_
    refine st_val hs (y_move rfl) trivial rfl rfl fun a hs => ?_
    refine st_val hs (y_move rfl) trivial rfl rfl fun a hs => ?_
    obtain ⟨c88, h87, hsh⟩ := bind_t hsh
    refine st_val hs (y_indexSM Try.runUnderlying9 rfl rfl h87) trivial rfl rfl fun a hs => ?_
    obtain ⟨rv90, h89, hsh⟩ := bind_t hsh
    refine st_callR hs (source_plain_ok h89 hw.dom) (do_call Try.call78 rfl) trivial rfl rfl ?_
    intro v94 Sv91 w a h92 h93 hs
    subst h93
    have hw := hw.call h92
    refine st_val hs (y_not rfl) trivial rfl rfl fun a hs => ?_
    refine wpList_nil ?_
    refine then_normal ?_
    refine wp_cond_split (hs.ev rfl) (fun h96 => ?_) (fun h96 => ?_)
    · have hsh := ite_t hsh h96
      refine wp_seq ?_
      refine wp_region_lit ?_
      refine st_val hs (y_assign rfl) trivial rfl rfl fun a hs => ?_
      refine wpList_nil ?_
      refine then_normal ?_
      have hsh := Option.some.inj hsh
      subst hsh
      have h97 := hd72 _ rfl
      subst h97
      refine wp_ret ?_
      refine blk_ret ?_
      refine then_ret ?_
      refine then_ret ?_
      refine blk_ret ?_
      refine then_ret ?_
      exact ret1 hs rfl (rv_tmp rfl) (hw.ret rfl)
    · have hsh := ite_f hsh h96
      refine wp_skip ?_
      refine blk_normal ?_
      refine then_normal ?_
      refine wp_region_lit ?_
      refine st_val hs (y_add rfl rfl) trivial rfl rfl fun a hs => ?_
      refine st_val hs (y_move rfl) trivial rfl rfl fun a hs => ?_
      refine wpList_nil ?_
      refine then_normal ?_
      exact ⟨_, (Option.some.inj hsh).symm, Sv91, (hs.wk rfl), (hw.ft [] [] (by decide) rfl rfl)⟩
  · have hsh := ite_f hsh h77
    obtain ⟨rv100, hsh, h101⟩ := map_t hsh
    have h101 := hd72 _ h101.symm
    subst h101
    refine wp_exit ?_
    refine then_exit ?_
    refine then_exit ?_
    refine blk_exit ?_
    refine then_normal ?_
    refine wp_seq ?_
    refine wp_region_lit ?_
    refine st_val hs (y_move rfl) trivial rfl rfl fun a hs => ?_
    refine st_val hs (y_lenS Try.runUnderlying9 rfl) trivial rfl rfl fun a hs => ?_
    refine st_val hs (y_move rfl) trivial rfl rfl fun a hs => ?_
    refine st_val hs (y_geq rfl rfl) trivial rfl rfl fun a hs => ?_
    refine st_val hs (y_move rfl) trivial rfl rfl fun a hs => ?_
    refine wpl_join 5 (fun a w1 => w = w1 ∧ Sl 29 [(28, .bool ((decide (low2 ≤ (s1.size : Int))) && (decide ((s1.size : Int) ≤ high3))))] a) ?_ ?_
    · rcases Bool.eq_false_or_eq_true (decide (low2 ≤ (s1.size : Int))) with h98 | h98
      · have hs := hs.fix 23 (.bool true) rfl (vb h98)
        refine st_val hs (y_move rfl) ⟨_, rfl, rfl⟩ rfl rfl fun a hs => ?_
        refine st_val hs (y_lenS Try.runUnderlying9 rfl) ⟨_, rfl, rfl⟩ rfl rfl fun a hs => ?_
        refine st_val hs (y_move rfl) ⟨_, rfl, rfl⟩ rfl rfl fun a hs => ?_
        refine st_val hs (y_leq rfl rfl) ⟨_, rfl, rfl⟩ rfl rfl fun a hs => ?_
        refine st_val hs (y_pickT rfl rfl) trivial rfl rfl fun a hs => ?_
        refine wpList_nil ?_
        refine then_normal ?_
        exact ⟨rfl, (hs.fix 28 (.bool ((decide (low2 ≤ (s1.size : Int))) && (decide ((s1.size : Int) ≤ high3)))) rfl (and_t h98)).weaken _ ⟨rfl, trivial⟩⟩
      · have hs := hs.fix 23 (.bool false) rfl (vb h98)
        refine st_skip hs rfl rfl rfl rfl rfl fun a hs => ?_
        refine st_skip hs rfl rfl rfl rfl rfl fun a hs => ?_
        refine st_skip hs rfl rfl rfl rfl rfl fun a hs => ?_
        refine st_skip hs rfl rfl rfl rfl rfl fun a hs => ?_
        refine st_val hs (y_pickF rfl rfl) trivial rfl rfl fun a hs => ?_
        refine wpList_nil ?_
        refine then_normal ?_
        exact ⟨rfl, (hs.fix 28 (.bool ((decide (low2 ≤ (s1.size : Int))) && (decide ((s1.size : Int) ≤ high3)))) rfl (and_f h98)).weaken _ ⟨rfl, trivial⟩⟩
    · rintro a w1 ⟨h99, hs⟩
      subst h99
      refine st_val hs (y_assign rfl) trivial rfl rfl fun a hs => ?_
      refine wpList_nil ?_
      refine then_normal ?_
      have hsh := Option.some.inj hsh
      subst hsh
      refine wp_ret ?_
      exact ret1 hs rfl (rv_tmp rfl) (hw.ret rfl)

abbrev source_Valid_rd (w0 : World) (r : Bool) : (Nat → Prop) → World → Value → Prop := fun S w v => v = .bool r
set_option maxHeartbeats 4000000 in
set_option maxRecDepth 100000 in
theorem source_Valid_ok {w0 : World} {S0 : Nat → Prop} {s1 : SourceID} {r : Bool} (hsh : source_Valid s1 = some r) (hS : ∀ b, S0 b → b < w0.heap.size) : Calls Try.prog 52 #[.agg #[.string s1.Network, .string s1.Station, .string s1.Location, .string s1.Channel]] w0 (Ret [] w0 S0 (source_Valid_rd w0 r)) := by
  refine calls_of_wp Try.func52 rfl ?_
  have hs := Sl.enter #[.agg #[.string s1.Network, .string s1.Station, .string s1.Location, .string s1.Channel]] 27 [(0, .agg #[.string s1.Network, .string s1.Station, .string s1.Location, .string s1.Channel])] rfl ⟨rfl, trivial⟩
  have hw := Wd.enter (E := []) hS (fun _ h => (by cases h))
  delta source_Valid at hsh
  refine wp_seq ?_
  refine wp_region_lit ?_
  refine w_box (cs := [.string s1.Network, .string s1.Station, .string s1.Location, .string s1.Channel]) hs hw rfl rfl rfl trivial ?_
  intro b2 a w hs hw
  refine st_val hs (y_assign rfl) trivial rfl rfl fun a hs => ?_
  refine wpList_nil ?_
  refine then_normal ?_
  refine wp_seq ?_
  refine wp_region_lit ?_
  refine st_val hs (y_fieldAddr (o' := 0) Try.runUnderlying28 rfl Try.sizeOf9 rfl rfl rfl) trivial rfl rfl fun a hs => ?_
  refine st_val hs (y_loadB1 (hw.ownAt 0 rfl) rfl Try.isAgg9 rfl) trivial rfl rfl fun a hs => ?_
  obtain ⟨rv4, h3, hsh⟩ := bind_t hsh
  refine st_callR hs (source_code_ok h3 hw.dom) (do_call Try.call69 rfl) trivial rfl rfl ?_
  intro v8 Sv5 w a h6 h7 hs
  subst h7
  have hw := hw.call h6
  refine st_val hs (y_move rfl) trivial rfl rfl fun a hs => ?_
  obtain ⟨c16, hc16, hsh⟩ := bind_t hsh
  refine wpl_join 4 (fun a w => ∃ (Sv17 : Nat → Prop), Sl 27 [(1, .pointer (some ⟨b2, 0, none⟩)), (10, .bool c16)] a ∧ Wd ⟨w0, S0, []⟩ Sv17 [.box b2 [.string s1.Network, .string s1.Station, .string s1.Location, .string s1.Channel] 28] [] w) ?_ ?_
  · rcases Bool.eq_false_or_eq_true rv4 with h15 | h15
    · have hs := hs.fix 6 (.bool true) rfl (vb h15)
      have hsh := ite_t hc16 h15
      refine st_val hs (y_fieldAddr (o' := 1) Try.runUnderlying28 rfl Try.sizeOf9 rfl rfl rfl) ⟨_, rfl, rfl⟩ rfl rfl fun a hs => ?_
      refine st_val hs (y_loadB1 (hw.ownAt 0 rfl) rfl Try.isAgg9 rfl) ⟨_, rfl, rfl⟩ rfl rfl fun a hs => ?_
      obtain ⟨rv19, h18, hsh⟩ := bind_t hsh
      refine st_callR hs (source_code_ok h18 hw.dom) (do_call Try.call69 rfl) ⟨_, rfl, rfl⟩ rfl rfl ?_
      intro v23 Sv20 w a h21 h22 hs
      subst h22
      have hw := hw.call h21
      refine st_val hs (y_pickT rfl rfl) trivial rfl rfl fun a hs => ?_
      refine wpList_nil ?_
      have hsh := Option.some.inj hsh
      subst hsh
      refine then_normal ?_
      exact ⟨Sv20, (hs.wk rfl), (hw.ft [0] [] (by decide) rfl rfl)⟩
    · have hs := hs.fix 6 (.bool false) rfl (vb h15)
      have hsh := ite_f hc16 h15
      refine st_skip hs rfl rfl rfl rfl rfl fun a hs => ?_
      refine st_skip hs rfl rfl rfl rfl rfl fun a hs => ?_
      refine st_skip hs rfl rfl rfl rfl rfl fun a hs => ?_
      refine st_val hs (y_pickF rfl rfl) trivial rfl rfl fun a hs => ?_
      refine wpList_nil ?_
      have hsh := Option.some.inj hsh
      subst hsh
      refine then_normal ?_
      exact ⟨Sv5, (hs.wk rfl), (hw.ft [0] [] (by decide) rfl rfl)⟩
  · rintro a w ⟨Sv17, hs, hw⟩
    refine st_val hs (y_move rfl) trivial rfl rfl fun a hs => ?_
    obtain ⟨c31, hc31, hsh⟩ := bind_t hsh
    refine wpl_join 4 (fun a w => ∃ (Sv32 : Nat → Prop), Sl 27 [(1, .pointer (some ⟨b2, 0, none⟩)), (15, .bool c31)] a ∧ Wd ⟨w0, S0, []⟩ Sv32 [.box b2 [.string s1.Network, .string s1.Station, .string s1.Location, .string s1.Channel] 28] [] w) ?_ ?_
    · rcases Bool.eq_false_or_eq_true c16 with h30 | h30
      · have hs := hs.fix 11 (.bool true) rfl (vb h30)
        have hsh := ite_t hc31 h30
        refine st_val hs (y_fieldAddr (o' := 2) Try.runUnderlying28 rfl Try.sizeOf9 rfl rfl rfl) ⟨_, rfl, rfl⟩ rfl rfl fun a hs => ?_
        refine st_val hs (y_loadB1 (hw.ownAt 0 rfl) rfl Try.isAgg9 rfl) ⟨_, rfl, rfl⟩ rfl rfl fun a hs => ?_
        obtain ⟨rv34, h33, hsh⟩ := bind_t hsh
        refine st_callR hs (source_code_ok h33 hw.dom) (do_call Try.call69 rfl) ⟨_, rfl, rfl⟩ rfl rfl ?_
        intro v38 Sv35 w a h36 h37 hs
        subst h37
        have hw := hw.call h36
        refine st_val hs (y_pickT rfl rfl) trivial rfl rfl fun a hs => ?_
        refine wpList_nil ?_
        have hsh := Option.some.inj hsh
        subst hsh
        refine then_normal ?_
        exact ⟨Sv35, (hs.wk rfl), (hw.ft [0] [] (by decide) rfl rfl)⟩
      · have hs := hs.fix 11 (.bool false) rfl (vb h30)
        have hsh := ite_f hc31 h30
        refine st_skip hs rfl rfl rfl rfl rfl fun a hs => ?_
        refine st_skip hs rfl rfl rfl rfl rfl fun a hs => ?_
        refine st_skip hs rfl rfl rfl rfl rfl fun a hs => ?_
        refine st_val hs (y_pickF rfl rfl) trivial rfl rfl fun a hs => ?_
        refine wpList_nil ?_
        have hsh := Option.some.inj hsh
        subst hsh
        refine then_normal ?_
        exact ⟨Sv17, (hs.wk rfl), (hw.ft [0] [] (by decide) rfl rfl)⟩
    · rintro a w ⟨Sv32, hs, hw⟩
      refine st_val hs (y_move rfl) trivial rfl rfl fun a hs => ?_
      refine wpl_join 5 (fun a w1 => w = w1 ∧ Sl 27 [(1, .pointer (some ⟨b2, 0, none⟩)), (21, .bool (c31 && ((s1.Location.size : Int) != 1)))] a) ?_ ?_
      · rcases Bool.eq_false_or_eq_true c31 with h39 | h39
        · have hs := hs.fix 16 (.bool true) rfl (vb h39)
          refine st_val hs (y_fieldAddr (o' := 2) Try.runUnderlying28 rfl Try.sizeOf9 rfl rfl rfl) ⟨_, rfl, rfl⟩ rfl rfl fun a hs => ?_
          refine st_val hs (y_loadB1 (hw.ownAt 0 rfl) rfl Try.isAgg9 rfl) ⟨_, rfl, rfl⟩ rfl rfl fun a hs => ?_
          refine st_val hs (y_lenS Try.runUnderlying9 rfl) ⟨_, rfl, rfl⟩ rfl rfl fun a hs => ?_
          refine st_val hs (y_neq rfl rfl) ⟨_, rfl, rfl⟩ rfl rfl fun a hs => ?_
          refine st_val hs (y_pickT rfl rfl) trivial rfl rfl fun a hs => ?_
          refine wpList_nil ?_
          refine then_normal ?_
          exact ⟨rfl, (hs.fix 21 (.bool (c31 && ((s1.Location.size : Int) != 1))) rfl (and_t h39)).weaken _ ⟨rfl, rfl, trivial⟩⟩
        · have hs := hs.fix 16 (.bool false) rfl (vb h39)
          refine st_skip hs rfl rfl rfl rfl rfl fun a hs => ?_
          refine st_skip hs rfl rfl rfl rfl rfl fun a hs => ?_
          refine st_skip hs rfl rfl rfl rfl rfl fun a hs => ?_
          refine st_skip hs rfl rfl rfl rfl rfl fun a hs => ?_
          refine st_val hs (y_pickF rfl rfl) trivial rfl rfl fun a hs => ?_
          refine wpList_nil ?_
          refine then_normal ?_
          exact ⟨rfl, (hs.fix 21 (.bool (c31 && ((s1.Location.size : Int) != 1))) rfl (and_f h39)).weaken _ ⟨rfl, rfl, trivial⟩⟩
      · rintro a w1 ⟨h55, hs⟩
        subst h55
        refine st_val hs (y_move rfl) trivial rfl rfl fun a hs => ?_
        obtain ⟨c47, hc47, hsh⟩ := bind_t hsh
        refine wpl_join 4 (fun a w => ∃ (Sv48 : Nat → Prop), Sl 27 [(26, .bool c47)] a ∧ Wd ⟨w0, S0, []⟩ Sv48 [] [] w) ?_ ?_
        · rcases Bool.eq_false_or_eq_true (c31 && ((s1.Location.size : Int) != 1)) with h46 | h46
          · have hs := hs.fix 22 (.bool true) rfl (vb h46)
            have hsh := ite_t hc47 h46
            refine st_val hs (y_fieldAddr (o' := 3) Try.runUnderlying28 rfl Try.sizeOf9 rfl rfl rfl) ⟨_, rfl, rfl⟩ rfl rfl fun a hs => ?_
            refine st_val hs (y_loadB1 (hw.ownAt 0 rfl) rfl Try.isAgg9 rfl) ⟨_, rfl, rfl⟩ rfl rfl fun a hs => ?_
            obtain ⟨rv50, h49, hsh⟩ := bind_t hsh
            refine st_callR hs (source_code_ok h49 hw.dom) (do_call Try.call69 rfl) ⟨_, rfl, rfl⟩ rfl rfl ?_
            intro v54 Sv51 w a h52 h53 hs
            subst h53
            have hw := hw.call h52
            refine st_val hs (y_pickT rfl rfl) trivial rfl rfl fun a hs => ?_
            refine wpList_nil ?_
            have hsh := Option.some.inj hsh
            subst hsh
            refine then_normal ?_
            exact ⟨Sv51, (hs.wk rfl), (hw.ft [] [] (by decide) rfl rfl)⟩
          · have hs := hs.fix 22 (.bool false) rfl (vb h46)
            have hsh := ite_f hc47 h46
            refine st_skip hs rfl rfl rfl rfl rfl fun a hs => ?_
            refine st_skip hs rfl rfl rfl rfl rfl fun a hs => ?_
            refine st_skip hs rfl rfl rfl rfl rfl fun a hs => ?_
            refine st_val hs (y_pickF rfl rfl) trivial rfl rfl fun a hs => ?_
            refine wpList_nil ?_
            have hsh := Option.some.inj hsh
            subst hsh
            refine then_normal ?_
            exact ⟨Sv32, (hs.wk rfl), (hw.ft [] [] (by decide) rfl rfl)⟩
        · rintro a w ⟨Sv48, hs, hw⟩
          refine st_val hs (y_assign rfl) trivial rfl rfl fun a hs => ?_
          refine wpList_nil ?_
          refine then_normal ?_
          have hsh := Option.some.inj hsh
          subst hsh
          refine wp_ret ?_
          exact ret1 hs rfl (rv_tmp rfl) (hw.ret rfl)

abbrev record_in_rd (w0 : World) (r : Bool) : (Nat → Prop) → World → Value → Prop := fun S w v => v = .bool r
set_option maxHeartbeats 4000000 in
set_option maxRecDepth 100000 in
theorem record_in_ok {w0 : World} {S0 : Nat → Prop} {n1 : Int} {low2 : Int} {high3 : Int} {r : Bool} (hsh : record_in n1 low2 high3 = some r) (hS : ∀ b, S0 b → b < w0.heap.size) : Calls Try.prog 39 #[.int .i64 n1, .int .i64 low2, .int .i64 high3] w0 (Ret [] w0 S0 (record_in_rd w0 r)) := by
  refine calls_of_wp Try.func39 rfl ?_
  have hs := Sl.enter #[.int .i64 n1, .int .i64 low2, .int .i64 high3] 15 [(0, .int .i64 n1), (1, .int .i64 low2), (2, .int .i64 high3)] rfl ⟨rfl, rfl, rfl, trivial⟩
  have hw := Wd.enter (E := []) hS (fun _ h => (by cases h))
  delta record_in at hsh
  refine wp_seq ?_
  refine wp_region_lit ?_
  refine st_val hs (y_assign rfl) trivial rfl rfl fun a hs => ?_
  refine wpList_nil ?_
  refine then_normal ?_
  refine wp_seq ?_
  refine wp_region_lit ?_
  refine st_val hs (y_move rfl) trivial rfl rfl fun a hs => ?_
  refine st_val hs (y_move rfl) trivial rfl rfl fun a hs => ?_
  refine st_val hs (y_geq rfl rfl) trivial rfl rfl fun a hs => ?_
  refine st_val hs (y_move rfl) trivial rfl rfl fun a hs => ?_
  refine wpl_join 4 (fun a w1 => w0 = w1 ∧ Sl 15 [(14, .bool ((decide (low2 ≤ n1)) && (decide (n1 ≤ high3))))] a) ?_ ?_
  · rcases Bool.eq_false_or_eq_true (decide (low2 ≤ n1)) with h4 | h4
    · have hs := hs.fix 10 (.bool true) rfl (vb h4)
      refine st_val hs (y_move rfl) ⟨_, rfl, rfl⟩ rfl rfl fun a hs => ?_
      refine st_val hs (y_move rfl) ⟨_, rfl, rfl⟩ rfl rfl fun a hs => ?_
      refine st_val hs (y_leq rfl rfl) ⟨_, rfl, rfl⟩ rfl rfl fun a hs => ?_
      refine st_val hs (y_pickT rfl rfl) trivial rfl rfl fun a hs => ?_
      refine wpList_nil ?_
      refine then_normal ?_
      exact ⟨rfl, (hs.fix 14 (.bool ((decide (low2 ≤ n1)) && (decide (n1 ≤ high3)))) rfl (and_t h4)).weaken _ ⟨rfl, trivial⟩⟩
    · have hs := hs.fix 10 (.bool false) rfl (vb h4)
      refine st_skip hs rfl rfl rfl rfl rfl fun a hs => ?_
      refine st_skip hs rfl rfl rfl rfl rfl fun a hs => ?_
      refine st_skip hs rfl rfl rfl rfl rfl fun a hs => ?_
      refine st_val hs (y_pickF rfl rfl) trivial rfl rfl fun a hs => ?_
      refine wpList_nil ?_
      refine then_normal ?_
      exact ⟨rfl, (hs.fix 14 (.bool ((decide (low2 ≤ n1)) && (decide (n1 ≤ high3)))) rfl (and_f h4)).weaken _ ⟨rfl, trivial⟩⟩
  · rintro a w1 ⟨h5, hs⟩
    subst h5
    refine st_val hs (y_assign rfl) trivial rfl rfl fun a hs => ?_
    refine wpList_nil ?_
    refine then_normal ?_
    have hsh := Option.some.inj hsh
    subst hsh
    refine wp_ret ?_
    exact ret1 hs rfl (rv_tmp rfl) (hw.ret rfl)

abbrev rate_in_rd (w0 : World) (r : Bool) : (Nat → Prop) → World → Value → Prop := fun S w v => v = .bool r
set_option maxHeartbeats 4000000 in
set_option maxRecDepth 100000 in
theorem rate_in_ok {w0 : World} {S0 : Nat → Prop} {n1 : Int} {low2 : Int} {high3 : Int} {r : Bool} (hsh : rate_in n1 low2 high3 = some r) (hS : ∀ b, S0 b → b < w0.heap.size) : Calls Try.prog 71 #[.int .i64 n1, .int .i64 low2, .int .i64 high3] w0 (Ret [] w0 S0 (rate_in_rd w0 r)) := by
  refine calls_of_wp Try.func71 rfl ?_
  have hs := Sl.enter #[.int .i64 n1, .int .i64 low2, .int .i64 high3] 15 [(0, .int .i64 n1), (1, .int .i64 low2), (2, .int .i64 high3)] rfl ⟨rfl, rfl, rfl, trivial⟩
  have hw := Wd.enter (E := []) hS (fun _ h => (by cases h))
  delta rate_in at hsh
  refine wp_seq ?_
  refine wp_region_lit ?_
  refine st_val hs (y_assign rfl) trivial rfl rfl fun a hs => ?_
  refine wpList_nil ?_
  refine then_normal ?_
  refine wp_seq ?_
  refine wp_region_lit ?_
  refine st_val hs (y_move rfl) trivial rfl rfl fun a hs => ?_
  refine st_val hs (y_move rfl) trivial rfl rfl fun a hs => ?_
  refine st_val hs (y_geq rfl rfl) trivial rfl rfl fun a hs => ?_
  refine st_val hs (y_move rfl) trivial rfl rfl fun a hs => ?_
  refine wpl_join 4 (fun a w1 => w0 = w1 ∧ Sl 15 [(14, .bool ((decide (low2 ≤ n1)) && (decide (n1 ≤ high3))))] a) ?_ ?_
  · rcases Bool.eq_false_or_eq_true (decide (low2 ≤ n1)) with h4 | h4
    · have hs := hs.fix 10 (.bool true) rfl (vb h4)
      refine st_val hs (y_move rfl) ⟨_, rfl, rfl⟩ rfl rfl fun a hs => ?_
      refine st_val hs (y_move rfl) ⟨_, rfl, rfl⟩ rfl rfl fun a hs => ?_
      refine st_val hs (y_leq rfl rfl) ⟨_, rfl, rfl⟩ rfl rfl fun a hs => ?_
      refine st_val hs (y_pickT rfl rfl) trivial rfl rfl fun a hs => ?_
      refine wpList_nil ?_
      refine then_normal ?_
      exact ⟨rfl, (hs.fix 14 (.bool ((decide (low2 ≤ n1)) && (decide (n1 ≤ high3)))) rfl (and_t h4)).weaken _ ⟨rfl, trivial⟩⟩
    · have hs := hs.fix 10 (.bool false) rfl (vb h4)
      refine st_skip hs rfl rfl rfl rfl rfl fun a hs => ?_
      refine st_skip hs rfl rfl rfl rfl rfl fun a hs => ?_
      refine st_skip hs rfl rfl rfl rfl rfl fun a hs => ?_
      refine st_val hs (y_pickF rfl rfl) trivial rfl rfl fun a hs => ?_
      refine wpList_nil ?_
      refine then_normal ?_
      exact ⟨rfl, (hs.fix 14 (.bool ((decide (low2 ≤ n1)) && (decide (n1 ≤ high3)))) rfl (and_f h4)).weaken _ ⟨rfl, trivial⟩⟩
  · rintro a w1 ⟨h5, hs⟩
    subst h5
    refine st_val hs (y_assign rfl) trivial rfl rfl fun a hs => ?_
    refine wpList_nil ?_
    refine then_normal ?_
    have hsh := Option.some.inj hsh
    subst hsh
    refine wp_ret ?_
    exact ret1 hs rfl (rv_tmp rfl) (hw.ret rfl)

abbrev rate_gcd_rd (w0 : World) (r : Int) : (Nat → Prop) → World → Value → Prop := fun S w v => v = .int .i64 r
set_option maxHeartbeats 4000000 in
set_option maxRecDepth 100000 in
theorem rate_gcd_ok {w0 : World} {S0 : Nat → Prop} {a1 : Int} {b2 : Int} {r : Int} (hsh : rate_gcd a1 b2 = some r) (hS : ∀ b, S0 b → b < w0.heap.size) : Calls Try.prog 79 #[.int .i64 a1, .int .i64 b2] w0 (Ret [] w0 S0 (rate_gcd_rd w0 r)) := by
  refine calls_of_wp Try.func79 rfl ?_
  have hs := Sl.enter #[.int .i64 a1, .int .i64 b2] 12 [(0, .int .i64 a1), (1, .int .i64 b2)] rfl ⟨rfl, rfl, trivial⟩
  have hw := Wd.enter (E := []) hS (fun _ h => (by cases h))
  delta rate_gcd at hsh
  refine wp_seq ?_
  refine wp_region_lit ?_
  refine st_val hs (y_assign rfl) trivial rfl rfl fun a hs => ?_
  refine wpList_nil ?_
  refine then_normal ?_
  refine wp_seq ?_
  obtain ⟨e21, h32, hsh⟩ := bind_t hsh
  refine wp_join (fun a w => ∃ (Sv22 : Nat → Prop), Sl 12 [(0, .int .i64 e21)] a ∧ Wd ⟨w0, S0, []⟩ Sv22 [] [] w) ?_ ?_
  · refine wp_block ?_
    refine wp_while (fun sv3 a w => ∃ (Sv13 : Nat → Prop), Sl 12 [(0, .int .i64 sv3.1), (1, .int .i64 sv3.2)] a ∧ Wd ⟨w0, S0, []⟩ Sv13 [] [] w) (a1, b2) h32 ⟨S0, (hs.wk rfl), (hw.ft [] [] (by decide) rfl rfl)⟩ ?_
    clear h32
    repeat clear hsh
    rintro sv3 a w tv19 ⟨Sv13, hs, hw⟩ hsh hd18
    delta rate_gcd_l1 at hsh
    refine wp_seq ?_
    refine wp_seq ?_
    refine wp_region_lit ?_
    refine st_val hs (y_move rfl) trivial rfl rfl fun a hs => ?_
    refine st_val hs (y_neq rfl rfl) trivial rfl rfl fun a hs => ?_
    refine wpList_nil ?_
    refine then_normal ?_
    refine wp_cond_split (hs.ev rfl) (fun h24 => ?_) (fun h24 => ?_)
    · have hsh := ite_t hsh h24
      refine wp_skip ?_
      refine then_normal ?_
      refine wp_block ?_
      obtain ⟨rem29, h28, hsh⟩ := bind_t hsh
      refine wp_only (fun a w => ∃ (Sv30 : Nat → Prop), Sl 12 [(0, .int .i64 sv3.2), (1, .int .i64 rem29)] a ∧ Wd ⟨w0, S0, []⟩ Sv30 [] [] w) ?_ ?_
      · refine h_begin (C := Cls [] []) (by kernel_rfl) rfl ?_
        have hw := hw.drew
        have hC : Cls [] [] _ := hw.cs [] [] rfl rfl
        refine h_get hs (i := 0) rfl (by kernel_rfl) rfl rfl hC rfl (fun w hC => y_move rfl) fun a hs => ?_
        refine h_get hs (i := 1) rfl (by kernel_rfl) rfl rfl hC rfl (fun w hC => y_move rfl) fun a hs => ?_
        refine h_get hs (i := 2) rfl (by kernel_rfl) rfl rfl hC rfl (fun w hC => y_move rfl) fun a hs => ?_
        refine h_get hs (i := 3) rfl (by kernel_rfl) rfl rfl hC rfl (fun w hC => y_remM rfl rfl h28) fun a hs => ?_
        refine h_get hs (i := 4) rfl (by kernel_rfl) rfl rfl hC rfl (fun w hC => y_assign rfl) fun a hs => ?_
        refine h_get hs (i := 5) rfl (by kernel_rfl) rfl rfl hC rfl (fun w hC => y_assign rfl) fun a hs => ?_
        refine h_done (by kernel_rfl) ?_
        exact ⟨Sv13, (hs.wk rfl), (hw.ft [] [] (by decide) rfl rfl)⟩
      · rintro a w ⟨Sv30, hs, hw⟩
        refine blk_normal ?_
        refine then_normal ?_
        exact ⟨_, (Option.some.inj hsh).symm, Sv30, (hs.wk rfl), (hw.ft [] [] (by decide) rfl rfl)⟩
    · have hsh := ite_f hsh h24
      refine wp_exit ?_
      refine then_exit ?_
      refine then_exit ?_
      refine blk_exit ?_
      have hsh := Option.some.inj hsh
      subst hsh
      have h31 := hd18 _ rfl
      subst h31
      refine then_normal ?_
      exact ⟨Sv13, (hs.wk rfl), (hw.ft [] [] (by decide) rfl rfl)⟩
  · rintro a w ⟨Sv22, hs, hw⟩
    refine then_normal ?_
    refine wp_seq ?_
    refine wp_region_lit ?_
    refine st_val hs (y_move rfl) trivial rfl rfl fun a hs => ?_
    refine st_val hs (y_assign rfl) trivial rfl rfl fun a hs => ?_
    refine wpList_nil ?_
    refine then_normal ?_
    have hsh := Option.some.inj hsh
    subst hsh
    refine wp_ret ?_
    exact ret1 hs rfl (rv_tmp rfl) (hw.ret rfl)

abbrev rate_Valid_rd (w0 : World) (r : Bool) : (Nat → Prop) → World → Value → Prop := fun S w v => v = .bool r
set_option maxHeartbeats 4000000 in
set_option maxRecDepth 100000 in
theorem rate_Valid_ok {w0 : World} {S0 : Nat → Prop} {r1 : Rate} {r : Bool} (hsh : rate_Valid r1 = some r) (hS : ∀ b, S0 b → b < w0.heap.size) : Calls Try.prog 70 #[.agg #[.int .i64 r1.Num, .int .i64 r1.Den]] w0 (Ret [] w0 S0 (rate_Valid_rd w0 r)) := by
  refine calls_of_wp Try.func70 rfl ?_
  have hs := Sl.enter #[.agg #[.int .i64 r1.Num, .int .i64 r1.Den]] 19 [(0, .agg #[.int .i64 r1.Num, .int .i64 r1.Den])] rfl ⟨rfl, trivial⟩
  have hw := Wd.enter (E := []) hS (fun _ h => (by cases h))
  delta rate_Valid at hsh
  refine wp_seq ?_
  refine wp_region_lit ?_
  refine w_box (cs := [.int .i64 r1.Num, .int .i64 r1.Den]) hs hw rfl rfl rfl trivial ?_
  intro b2 a w hs hw
  refine st_val hs (y_assign rfl) trivial rfl rfl fun a hs => ?_
  refine wpList_nil ?_
  refine then_normal ?_
  refine wp_seq ?_
  refine wp_region_lit ?_
  refine st_val hs (y_fieldAddr (o' := 0) Try.runUnderlying30 rfl Try.sizeOf3 rfl rfl rfl) trivial rfl rfl fun a hs => ?_
  refine st_val hs (y_loadB1 (hw.ownAt 0 rfl) rfl Try.isAgg3 rfl) trivial rfl rfl fun a hs => ?_
  obtain ⟨rv4, h3, hsh⟩ := bind_t hsh
  refine st_callR hs (rate_in_ok h3 hw.dom) (do_call Try.call71 rfl) trivial rfl rfl ?_
  intro v8 Sv5 w a h6 h7 hs
  subst h7
  have hw := hw.call h6
  refine st_val hs (y_move rfl) trivial rfl rfl fun a hs => ?_
  obtain ⟨c16, hc16, hsh⟩ := bind_t hsh
  refine wpl_join 4 (fun a w => ∃ (Sv17 : Nat → Prop), Sl 19 [(1, .pointer (some ⟨b2, 0, none⟩)), (10, .bool c16)] a ∧ Wd ⟨w0, S0, []⟩ Sv17 [.box b2 [.int .i64 r1.Num, .int .i64 r1.Den] 30] [] w) ?_ ?_
  · rcases Bool.eq_false_or_eq_true rv4 with h15 | h15
    · have hs := hs.fix 6 (.bool true) rfl (vb h15)
      have hsh := ite_t hc16 h15
      refine st_val hs (y_fieldAddr (o' := 1) Try.runUnderlying30 rfl Try.sizeOf3 rfl rfl rfl) ⟨_, rfl, rfl⟩ rfl rfl fun a hs => ?_
      refine st_val hs (y_loadB1 (hw.ownAt 0 rfl) rfl Try.isAgg3 rfl) ⟨_, rfl, rfl⟩ rfl rfl fun a hs => ?_
      obtain ⟨rv19, h18, hsh⟩ := bind_t hsh
      refine st_callR hs (rate_in_ok h18 hw.dom) (do_call Try.call71 rfl) ⟨_, rfl, rfl⟩ rfl rfl ?_
      intro v23 Sv20 w a h21 h22 hs
      subst h22
      have hw := hw.call h21
      refine st_val hs (y_pickT rfl rfl) trivial rfl rfl fun a hs => ?_
      refine wpList_nil ?_
      have hsh := Option.some.inj hsh
      subst hsh
      refine then_normal ?_
      exact ⟨Sv20, (hs.wk rfl), (hw.ft [0] [] (by decide) rfl rfl)⟩
    · have hs := hs.fix 6 (.bool false) rfl (vb h15)
      have hsh := ite_f hc16 h15
      refine st_skip hs rfl rfl rfl rfl rfl fun a hs => ?_
      refine st_skip hs rfl rfl rfl rfl rfl fun a hs => ?_
      refine st_skip hs rfl rfl rfl rfl rfl fun a hs => ?_
      refine st_val hs (y_pickF rfl rfl) trivial rfl rfl fun a hs => ?_
      refine wpList_nil ?_
      have hsh := Option.some.inj hsh
      subst hsh
      refine then_normal ?_
      exact ⟨Sv5, (hs.wk rfl), (hw.ft [0] [] (by decide) rfl rfl)⟩
  · rintro a w ⟨Sv17, hs, hw⟩
    refine st_val hs (y_move rfl) trivial rfl rfl fun a hs => ?_
    obtain ⟨c31, hc31, hsh⟩ := bind_t hsh
    refine wpl_join 7 (fun a w => ∃ (Sv32 : Nat → Prop), Sl 19 [(18, .bool c31)] a ∧ Wd ⟨w0, S0, []⟩ Sv32 [] [] w) ?_ ?_
    · rcases Bool.eq_false_or_eq_true c16 with h30 | h30
      · have hs := hs.fix 11 (.bool true) rfl (vb h30)
        have hsh := ite_t hc31 h30
        refine st_val hs (y_fieldAddr (o' := 0) Try.runUnderlying30 rfl Try.sizeOf3 rfl rfl rfl) ⟨_, rfl, rfl⟩ rfl rfl fun a hs => ?_
        refine st_val hs (y_loadB1 (hw.ownAt 0 rfl) rfl Try.isAgg3 rfl) ⟨_, rfl, rfl⟩ rfl rfl fun a hs => ?_
        refine st_val hs (y_fieldAddr (o' := 1) Try.runUnderlying30 rfl Try.sizeOf3 rfl rfl rfl) ⟨_, rfl, rfl⟩ rfl rfl fun a hs => ?_
        refine st_val hs (y_loadB1 (hw.ownAt 0 rfl) rfl Try.isAgg3 rfl) ⟨_, rfl, rfl⟩ rfl rfl fun a hs => ?_
        obtain ⟨rv34, h33, hsh⟩ := bind_t hsh
        refine st_callR hs (rate_gcd_ok h33 hw.dom) (do_call Try.call79 rfl) ⟨_, rfl, rfl⟩ rfl rfl ?_
        intro v38 Sv35 w a h36 h37 hs
        subst h37
        have hw := hw.call h36
        refine st_val hs (y_eql rfl rfl) ⟨_, rfl, rfl⟩ rfl rfl fun a hs => ?_
        refine st_val hs (y_pickT rfl rfl) trivial rfl rfl fun a hs => ?_
        refine wpList_nil ?_
        have hsh := Option.some.inj hsh
        subst hsh
        refine then_normal ?_
        exact ⟨Sv35, (hs.wk rfl), (hw.ft [] [] (by decide) rfl rfl)⟩
      · have hs := hs.fix 11 (.bool false) rfl (vb h30)
        have hsh := ite_f hc31 h30
        refine st_skip hs rfl rfl rfl rfl rfl fun a hs => ?_
        refine st_skip hs rfl rfl rfl rfl rfl fun a hs => ?_
        refine st_skip hs rfl rfl rfl rfl rfl fun a hs => ?_
        refine st_skip hs rfl rfl rfl rfl rfl fun a hs => ?_
        refine st_skip hs rfl rfl rfl rfl rfl fun a hs => ?_
        refine st_skip hs rfl rfl rfl rfl rfl fun a hs => ?_
        refine st_val hs (y_pickF rfl rfl) trivial rfl rfl fun a hs => ?_
        refine wpList_nil ?_
        have hsh := Option.some.inj hsh
        subst hsh
        refine then_normal ?_
        exact ⟨Sv17, (hs.wk rfl), (hw.ft [] [] (by decide) rfl rfl)⟩
    · rintro a w ⟨Sv32, hs, hw⟩
      refine st_val hs (y_assign rfl) trivial rfl rfl fun a hs => ?_
      refine wpList_nil ?_
      refine then_normal ?_
      have hsh := Option.some.inj hsh
      subst hsh
      refine wp_ret ?_
      exact ret1 hs rfl (rv_tmp rfl) (hw.ret rfl)

abbrev rate_micros_rd (w0 : World) (r : Int) : (Nat → Prop) → World → Value → Prop := fun S w v => v = .int .i64 r
set_option maxHeartbeats 4000000 in
set_option maxRecDepth 100000 in
theorem rate_micros_ok {w0 : World} {S0 : Nat → Prop} {r1 : Rate} {r : Int} (hsh : rate_micros r1 = some r) (hS : ∀ b, S0 b → b < w0.heap.size) : Calls Try.prog 80 #[.agg #[.int .i64 r1.Num, .int .i64 r1.Den]] w0 (Ret [] w0 S0 (rate_micros_rd w0 r)) := by
  refine calls_of_wp Try.func80 rfl ?_
  have hs := Sl.enter #[.agg #[.int .i64 r1.Num, .int .i64 r1.Den]] 6 [(0, .agg #[.int .i64 r1.Num, .int .i64 r1.Den])] rfl ⟨rfl, trivial⟩
  have hw := Wd.enter (E := []) hS (fun _ h => (by cases h))
  delta rate_micros at hsh
  refine wp_seq ?_
  refine wp_region_lit ?_
  refine w_box (cs := [.int .i64 r1.Num, .int .i64 r1.Den]) hs hw rfl rfl rfl trivial ?_
  intro b2 a w hs hw
  refine st_val hs (y_assign rfl) trivial rfl rfl fun a hs => ?_
  refine wpList_nil ?_
  refine then_normal ?_
  refine wp_seq ?_
  refine wp_region_lit ?_
  refine st_val hs (y_fieldAddr (o' := 1) Try.runUnderlying30 rfl Try.sizeOf3 rfl rfl rfl) trivial rfl rfl fun a hs => ?_
  refine st_val hs (y_loadB1 (hw.ownAt 0 rfl) rfl Try.isAgg3 rfl) trivial rfl rfl fun a hs => ?_
  refine st_val hs (y_mul rfl rfl) trivial rfl rfl fun a hs => ?_
  obtain ⟨x4, h3, hsh⟩ := bind_t hsh
  refine st_val hs (y_assignI rfl h3) trivial rfl rfl fun a hs => ?_
  refine wpList_nil ?_
  refine then_normal ?_
  have hsh := Option.some.inj hsh
  subst hsh
  refine wp_ret ?_
  exact ret1 hs rfl (rv_tmp rfl) (hw.ret rfl)

abbrev rate_after_rd (w0 : World) (r : Int) : (Nat → Prop) → World → Value → Prop := fun S w v => v = .int .i64 r
set_option maxHeartbeats 4000000 in
set_option maxRecDepth 100000 in
theorem rate_after_ok {w0 : World} {S0 : Nat → Prop} {r1 : Rate} {k2 : Int} {r : Int} (hsh : rate_after r1 k2 = some r) (hS : ∀ b, S0 b → b < w0.heap.size) : Calls Try.prog 72 #[.agg #[.int .i64 r1.Num, .int .i64 r1.Den], .int .i64 k2] w0 (Ret [] w0 S0 (rate_after_rd w0 r)) := by
  refine calls_of_wp Try.func72 rfl ?_
  have hs := Sl.enter #[.agg #[.int .i64 r1.Num, .int .i64 r1.Den], .int .i64 k2] 12 [(0, .agg #[.int .i64 r1.Num, .int .i64 r1.Den]), (1, .int .i64 k2)] rfl ⟨rfl, rfl, trivial⟩
  have hw := Wd.enter (E := []) hS (fun _ h => (by cases h))
  delta rate_after at hsh
  refine wp_seq ?_
  refine wp_region_lit ?_
  refine w_box (cs := [.int .i64 r1.Num, .int .i64 r1.Den]) hs hw rfl rfl rfl trivial ?_
  intro b3 a w hs hw
  refine st_val hs (y_assign rfl) trivial rfl rfl fun a hs => ?_
  refine wpList_nil ?_
  refine then_normal ?_
  refine wp_seq ?_
  obtain ⟨rv5, h4, hsh⟩ := bind_t hsh
  obtain ⟨quo7, h6, hsh⟩ := bind_t hsh
  refine wp_only (fun a w => ∃ (Sv8 : Nat → Prop), Sl 12 [(4, .int .i64 quo7)] a ∧ Wd ⟨w0, S0, []⟩ Sv8 [] [] w) ?_ ?_
  · refine h_begin (C := Cls [.box b3 [.int .i64 r1.Num, .int .i64 r1.Den] 30] []) (by kernel_rfl) rfl ?_
    have hw := hw.drew
    have hC : Cls [.box b3 [.int .i64 r1.Num, .int .i64 r1.Den] 30] [] _ := hw.cs [0] [] rfl rfl
    refine h_get hs (i := 0) rfl (by kernel_rfl) rfl rfl hC rfl (fun w hC => y_move rfl) fun a hs => ?_
    refine h_get hs (i := 1) rfl (by kernel_rfl) rfl rfl hC rfl (fun w hC => y_loadBA (hC.ownAt 0 rfl) rfl Try.isAgg30 Try.sizeOf30 rfl rfl) fun a hs => ?_
    refine h_get hs (i := 4) rfl (by kernel_rfl) rfl rfl hC rfl (fun w hC => y_fieldAddr (o' := 0) Try.runUnderlying30 rfl Try.sizeOf3 rfl rfl rfl) fun a hs => ?_
    refine h_get hs (i := 5) rfl (by kernel_rfl) rfl rfl hC rfl (fun w hC => y_loadB1 (hC.ownAt 0 rfl) rfl Try.isAgg3 rfl) fun a hs => ?_
    refine h_all (rs := [2]) (by kernel_rfl) rfl ?_
    refine AllH.cons rfl ?_ ?_
    · refine st_callR hs (rate_micros_ok h4 hw.dom) (do_call Try.call80 rfl) trivial rfl rfl ?_
      intro v12 Sv9 w a h10 h11 hs
      subst h11
      have hw := hw.call h10
      refine wpList_nil ?_
      refine then_normal ?_
      have hC : Cls [.box b3 [.int .i64 r1.Num, .int .i64 r1.Den] 30] [] _ := hw.cs [0] [] rfl rfl
      refine ⟨hC, ?_⟩
      refine h_get hs (i := 3) rfl (by kernel_rfl) rfl rfl hC rfl (fun w hC => y_mul rfl rfl) fun a hs => ?_
      refine h_get hs (i := 6) rfl (by kernel_rfl) rfl rfl hC rfl (fun w hC => y_quoM rfl rfl h6) fun a hs => ?_
      refine h_get hs (i := 7) rfl (by kernel_rfl) rfl rfl hC rfl (fun w hC => y_assign rfl) fun a hs => ?_
      refine h_done (by kernel_rfl) ?_
      exact ⟨Sv9, (hs.wk rfl), (hw.ft [] [] (by decide) rfl rfl)⟩
    exact AllH.nil
  · rintro a w ⟨Sv8, hs, hw⟩
    refine then_normal ?_
    have hsh := Option.some.inj hsh
    subst hsh
    refine wp_ret ?_
    exact ret1 hs rfl (rv_tmp rfl) (hw.ret rfl)

abbrev rate_Time_rd (w0 : World) (r : (Int × Int)) : (Nat → Prop) → World → Value → Prop := fun S w v => v = .tuple #[.int .i64 r.1, .int .i64 r.2]
set_option maxHeartbeats 4000000 in
set_option maxRecDepth 100000 in
theorem rate_Time_ok {w0 : World} {S0 : Nat → Prop} {start1 : Int} {r2 : Rate} {k3 : Int} {r : (Int × Int)} (hsh : rate_Time start1 r2 k3 = some r) (hS : ∀ b, S0 b → b < w0.heap.size) : Calls Try.prog 53 #[.int .i64 start1, .agg #[.int .i64 r2.Num, .int .i64 r2.Den], .int .i64 k3] w0 (Ret [] w0 S0 (rate_Time_rd w0 r)) := by
  refine calls_of_wp Try.func53 rfl ?_
  have hs := Sl.enter #[.int .i64 start1, .agg #[.int .i64 r2.Num, .int .i64 r2.Den], .int .i64 k3] 24 [(0, .int .i64 start1), (1, .agg #[.int .i64 r2.Num, .int .i64 r2.Den]), (2, .int .i64 k3)] rfl ⟨rfl, rfl, rfl, trivial⟩
  have hw := Wd.enter (E := []) hS (fun _ h => (by cases h))
  delta rate_Time at hsh
  refine wp_seq ?_
  refine wp_region_lit ?_
  refine w_box (cs := [.int .i64 r2.Num, .int .i64 r2.Den]) hs hw rfl rfl rfl trivial ?_
  intro b4 a w hs hw
  refine st_val hs (y_assign rfl) trivial rfl rfl fun a hs => ?_
  refine st_val hs (y_assign rfl) trivial rfl rfl fun a hs => ?_
  refine wpList_nil ?_
  refine then_normal ?_
  refine wp_seq ?_
  refine wp_seq ?_
  refine wp_region_lit ?_
  refine st_val hs (y_loadBA (hw.ownAt 0 rfl) rfl Try.isAgg30 Try.sizeOf30 rfl rfl) trivial rfl rfl fun a hs => ?_
  obtain ⟨rv6, h5, hsh⟩ := bind_t hsh
  refine st_callR hs (rate_Valid_ok h5 hw.dom) (do_call Try.call70 rfl) trivial rfl rfl ?_
  intro v10 Sv7 w a h8 h9 hs
  subst h9
  have hw := hw.call h8
  refine st_val hs (y_not rfl) trivial rfl rfl fun a hs => ?_
  refine wpList_nil ?_
  refine then_normal ?_
  refine wp_cond_split (hs.ev rfl) (fun h12 => ?_) (fun h12 => ?_)
  · have hsh := ite_t hsh h12
    refine wp_seq ?_
    refine wp_region_lit ?_
    refine st_val hs (y_assign rfl) trivial rfl rfl fun a hs => ?_
    refine st_val hs (y_assign rfl) trivial rfl rfl fun a hs => ?_
    refine wpList_nil ?_
    refine then_normal ?_
    have hsh := Option.some.inj hsh
    subst hsh
    refine wp_ret ?_
    refine then_ret ?_
    exact ret2 hs rfl (rv_tmp rfl) (rv_tmp rfl) (hw.ret rfl)
  · have hsh := ite_f hsh h12
    refine wp_skip ?_
    refine then_normal ?_
    refine wp_seq ?_
    refine wp_seq ?_
    refine wp_region_lit ?_
    refine st_val hs (y_move rfl) trivial rfl rfl fun a hs => ?_
    obtain ⟨rv14, h13, hsh⟩ := bind_t hsh
    refine st_callR hs (rate_in_ok h13 hw.dom) (do_call Try.call71 rfl) trivial rfl rfl ?_
    intro v18 Sv15 w a h16 h17 hs
    subst h17
    have hw := hw.call h16
    refine st_val hs (y_not rfl) trivial rfl rfl fun a hs => ?_
    refine st_val hs (y_move rfl) trivial rfl rfl fun a hs => ?_
    obtain ⟨c26, hc26, hsh⟩ := bind_t hsh
    refine wpl_join 4 (fun a w => ∃ (Sv27 : Nat → Prop), Sl 24 [(0, .int .i64 start1), (2, .int .i64 k3), (4, .pointer (some ⟨b4, 0, none⟩)), (18, .bool c26)] a ∧ Wd ⟨w0, S0, []⟩ Sv27 [.box b4 [.int .i64 r2.Num, .int .i64 r2.Den] 30] [] w) ?_ ?_
    · rcases Bool.eq_false_or_eq_true (!rv14) with h25 | h25
      · have hs := hs.fix 14 (.bool true) rfl (vb h25)
        have hsh := ite_t hc26 h25
        refine st_skip hs rfl rfl rfl rfl rfl fun a hs => ?_
        refine st_skip hs rfl rfl rfl rfl rfl fun a hs => ?_
        refine st_skip hs rfl rfl rfl rfl rfl fun a hs => ?_
        refine st_val hs (y_pickT rfl rfl) trivial rfl rfl fun a hs => ?_
        refine wpList_nil ?_
        have hsh := Option.some.inj hsh
        subst hsh
        refine then_normal ?_
        exact ⟨Sv15, (hs.wk rfl), (hw.ft [0] [] (by decide) rfl rfl)⟩
      · have hs := hs.fix 14 (.bool false) rfl (vb h25)
        have hsh := ite_f hc26 h25
        refine st_val hs (y_move rfl) ⟨_, rfl, rfl⟩ rfl rfl fun a hs => ?_
        obtain ⟨rv29, h28, hsh⟩ := bind_t hsh
        refine st_callR hs (rate_in_ok h28 hw.dom) (do_call Try.call71 rfl) ⟨_, rfl, rfl⟩ rfl rfl ?_
        intro v33 Sv30 w a h31 h32 hs
        subst h32
        have hw := hw.call h31
        refine st_val hs (y_not rfl) ⟨_, rfl, rfl⟩ rfl rfl fun a hs => ?_
        refine st_val hs (y_pickF rfl rfl) trivial rfl rfl fun a hs => ?_
        refine wpList_nil ?_
        have hsh := Option.some.inj hsh
        subst hsh
        refine then_normal ?_
        exact ⟨Sv30, (hs.wk rfl), (hw.ft [0] [] (by decide) rfl rfl)⟩
    · rintro a w ⟨Sv27, hs, hw⟩
      refine wpList_nil ?_
      refine then_normal ?_
      refine wp_cond_split (hs.ev rfl) (fun h35 => ?_) (fun h35 => ?_)
      · have hsh := ite_t hsh h35
        refine wp_seq ?_
        refine wp_region_lit ?_
        refine st_val hs (y_assign rfl) trivial rfl rfl fun a hs => ?_
        refine st_val hs (y_assign rfl) trivial rfl rfl fun a hs => ?_
        refine wpList_nil ?_
        refine then_normal ?_
        have hsh := Option.some.inj hsh
        subst hsh
        refine wp_ret ?_
        refine then_ret ?_
        exact ret2 hs rfl (rv_tmp rfl) (rv_tmp rfl) (hw.ret rfl)
      · have hsh := ite_f hsh h35
        refine wp_skip ?_
        refine then_normal ?_
        refine wp_seq ?_
        refine wp_region_lit ?_
        refine st_val hs (y_move rfl) trivial rfl rfl fun a hs => ?_
        refine st_val hs (y_loadBA (hw.ownAt 0 rfl) rfl Try.isAgg30 Try.sizeOf30 rfl rfl) trivial rfl rfl fun a hs => ?_
        refine st_val hs (y_move rfl) trivial rfl rfl fun a hs => ?_
        obtain ⟨rv37, h36, hsh⟩ := bind_t hsh
        refine st_callR hs (rate_after_ok h36 hw.dom) (do_call Try.call72 rfl) trivial rfl rfl ?_
        intro v41 Sv38 w a h39 h40 hs
        subst h40
        have hw := hw.call h39
        refine st_val hs (y_add rfl rfl) trivial rfl rfl fun a hs => ?_
        obtain ⟨x43, h42, hsh⟩ := bind_t hsh
        refine st_val hs (y_assignI rfl h42) trivial rfl rfl fun a hs => ?_
        refine st_val hs (y_assign rfl) trivial rfl rfl fun a hs => ?_
        refine wpList_nil ?_
        refine then_normal ?_
        have hsh := Option.some.inj hsh
        subst hsh
        refine wp_ret ?_
        exact ret2 hs rfl (rv_tmp rfl) (rv_tmp rfl) (hw.ret rfl)

abbrev slices_IndexFunc_Lint_int_rd (w0 : World) (r : Int) : (Nat → Prop) → World → Value → Prop := fun S w v => v = .int .i64 r
set_option maxHeartbeats 4000000 in
set_option maxRecDepth 100000 in
theorem slices_IndexFunc_Lint_int_ok {w0 : World} {S0 : Nat → Prop} {p2 : Option Addr} {k3 : Nat} {g6 : Nat} {f7 : List Value} {cp8 : List Value} {s1 : (List Int)} {f5 : Int → Option Bool} {r : Int} (hsh : slices_IndexFunc_Lint_int s1 f5 = some r) (hS : ∀ b, S0 b → b < w0.heap.size) (h4 : (SlA p2 s1.length k3 s1).p S0 w0) (h9 : (FnA1 Try.prog g6 f7 cp8 f5).p S0 w0) : Calls Try.prog 73 #[.slice p2 s1.length k3, .func (.func g6) f7.toArray cp8.toArray] w0 (Ret [] w0 S0 (slices_IndexFunc_Lint_int_rd w0 r)) := by
  refine calls_of_wp Try.func73 rfl ?_
  have hs := Sl.enter #[.slice p2 s1.length k3, .func (.func g6) f7.toArray cp8.toArray] 19 [(0, .slice p2 s1.length k3), (1, .func (.func g6) f7.toArray cp8.toArray)] rfl ⟨rfl, rfl, trivial⟩
  have hw := Wd.enter (E := []) hS (fun _ h => (by cases h))
  have hw := hw.addE h4
  have hw := hw.addE h9
  delta slices_IndexFunc_Lint_int at hsh
  refine wp_seq ?_
  refine wp_region_lit ?_
  refine st_val hs (y_assign rfl) trivial rfl rfl fun a hs => ?_
  refine wpList_nil ?_
  refine then_normal ?_
  refine wp_seq ?_
  refine wp_seq ?_
  refine wp_region_lit ?_
  refine st_val hs (y_move rfl) trivial rfl rfl fun a hs => ?_
  refine st_val hs (y_len Try.runUnderlying22 rfl) trivial rfl rfl fun a hs => ?_
  refine st_val hs (y_move rfl) trivial rfl rfl fun a hs => ?_
  refine wpList_nil ?_
  refine then_normal ?_
  refine wp_block ?_
  refine wp_while (fun sv78 a w => ∃ (Sv122 : Nat → Prop), Sl 19 [(0, .slice p2 s1.length k3), (1, .func (.func g6) f7.toArray cp8.toArray), (7, .int .i64 (s1.length : Int)), (8, .int .i64 sv78)] a ∧ Wd ⟨w0, S0, []⟩ Sv122 [] [SlA p2 s1.length k3 s1, FnA1 Try.prog g6 f7 cp8 f5] w) 0 hsh ⟨S0, (hs.wk rfl), (hw.ft [] [1, 0] (by decide) rfl rfl)⟩ ?_
  repeat clear hsh
  rintro sv78 a w tv145 ⟨Sv122, hs, hw⟩ hsh hd144
  delta slices_IndexFunc_Lint_int_l2 at hsh
  refine wp_seq ?_
  refine wp_region_lit ?_
  refine st_val hs (y_lss rfl rfl) trivial rfl rfl fun a hs => ?_
  refine wpList_nil ?_
  refine then_normal ?_
  refine wp_seq ?_
  refine wp_cond_split (hs.ev rfl) (fun h149 => ?_) (fun h149 => ?_)
  · have hsh := ite_t hsh h149
    refine wp_skip ?_
    refine then_normal ?_
    refine wp_seq ?_
    refine wp_block ?_
    refine wp_seq ?_
    refine wp_region_lit ?_
    refine st_val hs (y_move rfl) trivial rfl rfl fun a hs => ?_
    refine st_val hs (y_assign rfl) trivial rfl rfl fun a hs => ?_
    refine wpList_nil ?_
    refine then_normal ?_
    refine wp_seq ?_
    refine wp_region_lit ?_
    refine st_val hs (y_move rfl) trivial rfl rfl fun a hs => ?_
    refine st_val hs (y_move rfl) trivial rfl rfl fun a hs => ?_
    refine st_val hs (y_move rfl) trivial rfl rfl fun a hs => ?_
    obtain ⟨x172, h170, hsh⟩ := bind_t hsh
    obtain ⟨b178, o179, q176, c177, h180, h173, h174, h175, h171⟩ := hw.elemV 0 rfl h170
    have hsv181 := hs
    have hwv182 := hw
    subst h180
    have hs := hsv181
    have hw := hwv182
    obtain ⟨_, rfl, rfl⟩ := h171
    have hw := hw.addE h175
    refine st_val hs (y_indexAt Try.runUnderlying22 Try.sizeOf3 rfl rfl h173.1 h173.2 h174) trivial rfl rfl fun a hs => ?_
    refine st_val hs (y_loadE1 (j := 0) (hw.ceAt 0 rfl) rfl Try.isAgg3 rfl) trivial rfl rfl fun a hs => ?_
    obtain ⟨rv184, h183, hsh⟩ := bind_t hsh
    refine st_callR hs ((hw.envAt 2 rfl).2 Keep.rfl' hw.dom ⟨_, rfl, rfl⟩ h183) (do_callF (hw.envAt 2 rfl).1 rfl rfl) trivial rfl rfl ?_
    intro v188 Sv185 w a h186 h187 hs
    subst h187
    have hw := hw.call h186
    refine wpList_nil ?_
    refine then_normal ?_
    refine wp_cond_split (hs.ev rfl) (fun h190 => ?_) (fun h190 => ?_)
    · have hsh := ite_t hsh h190
      refine wp_seq ?_
      refine wp_region_lit ?_
      refine st_val hs (y_move rfl) trivial rfl rfl fun a hs => ?_
      refine st_val hs (y_assign rfl) trivial rfl rfl fun a hs => ?_
      refine wpList_nil ?_
      refine then_normal ?_
      have hsh := Option.some.inj hsh
      subst hsh
      have h191 := hd144 _ rfl
      subst h191
      refine wp_ret ?_
      refine blk_ret ?_
      refine then_ret ?_
      refine then_ret ?_
      refine blk_ret ?_
      refine then_ret ?_
      exact ret1 hs rfl (rv_tmp rfl) (hw.ret rfl)
    · have hsh := ite_f hsh h190
      refine wp_skip ?_
      refine blk_normal ?_
      refine then_normal ?_
      refine wp_region_lit ?_
      refine st_val hs (y_add rfl rfl) trivial rfl rfl fun a hs => ?_
      refine st_val hs (y_move rfl) trivial rfl rfl fun a hs => ?_
      refine wpList_nil ?_
      refine then_normal ?_
      exact ⟨_, (Option.some.inj hsh).symm, Sv185, (hs.wk rfl), (hw.ft [] [1, 2] (by decide) rfl rfl)⟩
  · have hsh := ite_f hsh h149
    obtain ⟨rv192, hsh, h193⟩ := map_t hsh
    have h193 := hd144 _ h193.symm
    subst h193
    refine wp_exit ?_
    refine then_exit ?_
    refine then_exit ?_
    refine blk_exit ?_
    refine then_normal ?_
    refine wp_seq ?_
    refine wp_region_lit ?_
    refine st_val hs (y_assign rfl) trivial rfl rfl fun a hs => ?_
    refine wpList_nil ?_
    refine then_normal ?_
    have hsh := Option.some.inj hsh
    subst hsh
    refine wp_ret ?_
    exact ret1 hs rfl (rv_tmp rfl) (hw.ret rfl)

abbrev slices_ContainsFunc_Lint_int_rd (w0 : World) (r : Bool) : (Nat → Prop) → World → Value → Prop := fun S w v => v = .bool r
set_option maxHeartbeats 4000000 in
set_option maxRecDepth 100000 in
theorem slices_ContainsFunc_Lint_int_ok {w0 : World} {S0 : Nat → Prop} {p2 : Option Addr} {k3 : Nat} {g6 : Nat} {f7 : List Value} {cp8 : List Value} {s1 : (List Int)} {f5 : Int → Option Bool} {r : Bool} (hsh : slices_ContainsFunc_Lint_int s1 f5 = some r) (hS : ∀ b, S0 b → b < w0.heap.size) (h4 : (SlA p2 s1.length k3 s1).p S0 w0) (h9 : (FnA1 Try.prog g6 f7 cp8 f5).p S0 w0) : Calls Try.prog 54 #[.slice p2 s1.length k3, .func (.func g6) f7.toArray cp8.toArray] w0 (Ret [] w0 S0 (slices_ContainsFunc_Lint_int_rd w0 r)) := by
  refine calls_of_wp Try.func54 rfl ?_
  have hs := Sl.enter #[.slice p2 s1.length k3, .func (.func g6) f7.toArray cp8.toArray] 9 [(0, .slice p2 s1.length k3), (1, .func (.func g6) f7.toArray cp8.toArray)] rfl ⟨rfl, rfl, trivial⟩
  have hw := Wd.enter (E := []) hS (fun _ h => (by cases h))
  have hw := hw.addE h4
  have hw := hw.addE h9
  delta slices_ContainsFunc_Lint_int at hsh
  refine wp_seq ?_
  refine wp_region_lit ?_
  refine st_val hs (y_assign rfl) trivial rfl rfl fun a hs => ?_
  refine wpList_nil ?_
  refine then_normal ?_
  refine wp_seq ?_
  refine wp_region_lit ?_
  refine st_val hs (y_move rfl) trivial rfl rfl fun a hs => ?_
  refine st_val hs (y_move rfl) trivial rfl rfl fun a hs => ?_
  obtain ⟨rv11, h10, hsh⟩ := bind_t hsh
  refine st_callR hs (slices_IndexFunc_Lint_int_ok h10 hw.dom (hw.envAt 1 rfl) (hw.envAt 0 rfl)) (do_call Try.call73 rfl) trivial rfl rfl ?_
  intro v15 Sv12 w a h13 h14 hs
  subst h14
  have hw := hw.call h13
  refine st_val hs (y_geq rfl rfl) trivial rfl rfl fun a hs => ?_
  refine st_val hs (y_assign rfl) trivial rfl rfl fun a hs => ?_
  refine wpList_nil ?_
  refine then_normal ?_
  have hsh := Option.some.inj hsh
  subst hsh
  refine wp_ret ?_
  exact ret1 hs rfl (rv_tmp rfl) (hw.ret rfl)

abbrev record_Valid_fn1_rd (w0 : World) (r : Bool) : (Nat → Prop) → World → Value → Prop := fun S w v => v = .bool r
set_option maxHeartbeats 4000000 in
set_option maxRecDepth 100000 in
theorem record_Valid_fn1_ok {w0 : World} {S0 : Nat → Prop} {x1 : Int} {r : Bool} (hsh : record_Valid_fn1 x1 = some r) (hS : ∀ b, S0 b → b < w0.heap.size) : Calls Try.prog 55 #[.int .i64 x1] w0 (Ret [] w0 S0 (record_Valid_fn1_rd w0 r)) := by
  refine calls_of_wp Try.func55 rfl ?_
  have hs := Sl.enter #[.int .i64 x1] 6 [(0, .int .i64 x1)] rfl ⟨rfl, trivial⟩
  have hw := Wd.enter (E := []) hS (fun _ h => (by cases h))
  delta record_Valid_fn1 at hsh
  refine wp_seq ?_
  refine wp_region_lit ?_
  refine st_val hs (y_assign rfl) trivial rfl rfl fun a hs => ?_
  refine wpList_nil ?_
  refine then_normal ?_
  refine wp_seq ?_
  refine wp_region_lit ?_
  refine st_val hs (y_move rfl) trivial rfl rfl fun a hs => ?_
  obtain ⟨rv3, h2, hsh⟩ := bind_t hsh
  refine st_callR hs (record_in_ok h2 hw.dom) (do_call Try.call39 rfl) trivial rfl rfl ?_
  intro v7 Sv4 w a h5 h6 hs
  subst h6
  have hw := hw.call h5
  refine st_val hs (y_not rfl) trivial rfl rfl fun a hs => ?_
  refine st_val hs (y_assign rfl) trivial rfl rfl fun a hs => ?_
  refine wpList_nil ?_
  refine then_normal ?_
  have hsh := Option.some.inj hsh
  subst hsh
  refine wp_ret ?_
  exact ret1 hs rfl (rv_tmp rfl) (hw.ret rfl)

theorem record_Valid_fn1_fn (S0 : Nat → Prop) (w0 : World) : (FnA1 Try.prog 55 [] [] record_Valid_fn1).p S0 w0 := by
  refine ⟨Try.call55, ?_⟩
  intro S1 w1 hk hS c0 x0 r1 h0 hf
  obtain ⟨_, rfl, rfl⟩ := h0
  exact record_Valid_fn1_ok hf hS  

abbrev record_Valid_rd (w0 : World) (r : Bool) : (Nat → Prop) → World → Value → Prop := fun S w v => v = .bool r
set_option maxHeartbeats 4000000 in
set_option maxRecDepth 100000 in
theorem record_Valid_ok {w0 : World} {S0 : Nat → Prop} {p2 : Option Addr} {k3 : Nat} {r1 : Record} {r : Bool} (hsh : record_Valid r1 = some r) (hS : ∀ b, S0 b → b < w0.heap.size) (h4 : (SlA p2 r1.Samples.length k3 r1.Samples).p S0 w0) : Calls Try.prog 26 #[.agg #[.string r1.Source.Network, .string r1.Source.Station, .string r1.Source.Location, .string r1.Source.Channel, .int .i64 r1.Start, .int .i64 r1.First, .int .i64 r1.Rate.Num, .int .i64 r1.Rate.Den, .int .i64 r1.Error, .int .i64 r1.Run, .int .i64 r1.Seq, .slice p2 r1.Samples.length k3]] w0 (Ret [] w0 S0 (record_Valid_rd w0 r)) := by
  refine calls_of_wp Try.func26 rfl ?_
  have hs := Sl.enter #[.agg #[.string r1.Source.Network, .string r1.Source.Station, .string r1.Source.Location, .string r1.Source.Channel, .int .i64 r1.Start, .int .i64 r1.First, .int .i64 r1.Rate.Num, .int .i64 r1.Rate.Den, .int .i64 r1.Error, .int .i64 r1.Run, .int .i64 r1.Seq, .slice p2 r1.Samples.length k3]] 68 [(0, .agg #[.string r1.Source.Network, .string r1.Source.Station, .string r1.Source.Location, .string r1.Source.Channel, .int .i64 r1.Start, .int .i64 r1.First, .int .i64 r1.Rate.Num, .int .i64 r1.Rate.Den, .int .i64 r1.Error, .int .i64 r1.Run, .int .i64 r1.Seq, .slice p2 r1.Samples.length k3])] rfl ⟨rfl, trivial⟩
  have hw := Wd.enter (E := []) hS (fun _ h => (by cases h))
  have hw := hw.addE h4
  delta record_Valid at hsh
  refine wp_seq ?_
  refine wp_region_lit ?_
  refine w_box (cs := [.string r1.Source.Network, .string r1.Source.Station, .string r1.Source.Location, .string r1.Source.Channel, .int .i64 r1.Start, .int .i64 r1.First, .int .i64 r1.Rate.Num, .int .i64 r1.Rate.Den, .int .i64 r1.Error, .int .i64 r1.Run, .int .i64 r1.Seq, .slice p2 r1.Samples.length k3]) hs hw rfl rfl rfl trivial ?_
  intro b5 a w hs hw
  refine st_val hs (y_assign rfl) trivial rfl rfl fun a hs => ?_
  refine wpList_nil ?_
  refine then_normal ?_
  refine wp_seq ?_
  refine wp_region_lit ?_
  refine st_val hs (y_fieldAddr (o' := 11) Try.runUnderlying32 rfl Try.sizeOf22 rfl rfl rfl) trivial rfl rfl fun a hs => ?_
  refine st_val hs (y_loadB1 (hw.ownAt 0 rfl) rfl Try.isAgg22 rfl) trivial rfl rfl fun a hs => ?_
  refine st_val hs (y_len Try.runUnderlying22 rfl) trivial rfl rfl fun a hs => ?_
  obtain ⟨n7, h6, hsh⟩ := bind_t hsh
  refine st_val hs (y_assignI rfl h6) trivial rfl rfl fun a hs => ?_
  refine wpList_nil ?_
  refine then_normal ?_
  refine wp_seq ?_
  refine wp_seq ?_
  refine wp_region_lit ?_
  refine st_val hs (y_fieldAddr (o' := 0) Try.runUnderlying32 rfl Try.sizeOf28 rfl rfl rfl) trivial rfl rfl fun a hs => ?_
  refine st_val hs (y_loadBA (hw.ownAt 0 rfl) rfl Try.isAgg28 Try.sizeOf28 rfl rfl) trivial rfl rfl fun a hs => ?_
  obtain ⟨rv9, h8, hsh⟩ := bind_t hsh
  refine st_callR hs (source_Valid_ok h8 hw.dom) (do_call Try.call52 rfl) trivial rfl rfl ?_
  intro v13 Sv10 w a h11 h12 hs
  subst h12
  have hw := hw.call h11
  refine st_val hs (y_not rfl) trivial rfl rfl fun a hs => ?_
  refine st_val hs (y_move rfl) trivial rfl rfl fun a hs => ?_
  obtain ⟨c21, hc21, hsh⟩ := bind_t hsh
  refine wpl_join 4 (fun a w => ∃ (Sv22 : Nat → Prop), Sl 68 [(1, .pointer (some ⟨b5, 0, none⟩)), (3, .int .i64 n7), (17, .bool c21)] a ∧ Wd ⟨w0, S0, []⟩ Sv22 [.box b5 [.string r1.Source.Network, .string r1.Source.Station, .string r1.Source.Location, .string r1.Source.Channel, .int .i64 r1.Start, .int .i64 r1.First, .int .i64 r1.Rate.Num, .int .i64 r1.Rate.Den, .int .i64 r1.Error, .int .i64 r1.Run, .int .i64 r1.Seq, .slice p2 r1.Samples.length k3] 32] [SlA p2 r1.Samples.length k3 r1.Samples] w) ?_ ?_
  · rcases Bool.eq_false_or_eq_true (!rv9) with h20 | h20
    · have hs := hs.fix 13 (.bool true) rfl (vb h20)
      have hsh := ite_t hc21 h20
      refine st_skip hs rfl rfl rfl rfl rfl fun a hs => ?_
      refine st_skip hs rfl rfl rfl rfl rfl fun a hs => ?_
      refine st_skip hs rfl rfl rfl rfl rfl fun a hs => ?_
      refine st_val hs (y_pickT rfl rfl) trivial rfl rfl fun a hs => ?_
      refine wpList_nil ?_
      have hsh := Option.some.inj hsh
      subst hsh
      refine then_normal ?_
      exact ⟨Sv10, (hs.wk rfl), (hw.ft [0] [0] (by decide) rfl rfl)⟩
    · have hs := hs.fix 13 (.bool false) rfl (vb h20)
      have hsh := ite_f hc21 h20
      refine st_val hs (y_move rfl) ⟨_, rfl, rfl⟩ rfl rfl fun a hs => ?_
      obtain ⟨rv24, h23, hsh⟩ := bind_t hsh
      refine st_callR hs (record_in_ok h23 hw.dom) (do_call Try.call39 rfl) ⟨_, rfl, rfl⟩ rfl rfl ?_
      intro v28 Sv25 w a h26 h27 hs
      subst h27
      have hw := hw.call h26
      refine st_val hs (y_not rfl) ⟨_, rfl, rfl⟩ rfl rfl fun a hs => ?_
      refine st_val hs (y_pickF rfl rfl) trivial rfl rfl fun a hs => ?_
      refine wpList_nil ?_
      have hsh := Option.some.inj hsh
      subst hsh
      refine then_normal ?_
      exact ⟨Sv25, (hs.wk rfl), (hw.ft [0] [0] (by decide) rfl rfl)⟩
  · rintro a w ⟨Sv22, hs, hw⟩
    refine st_val hs (y_move rfl) trivial rfl rfl fun a hs => ?_
    obtain ⟨c36, hc36, hsh⟩ := bind_t hsh
    refine wpl_join 7 (fun a w => ∃ (Sv37 : Nat → Prop), Sl 68 [(1, .pointer (some ⟨b5, 0, none⟩)), (3, .int .i64 n7), (25, .bool c36)] a ∧ Wd ⟨w0, S0, []⟩ Sv37 [.box b5 [.string r1.Source.Network, .string r1.Source.Station, .string r1.Source.Location, .string r1.Source.Channel, .int .i64 r1.Start, .int .i64 r1.First, .int .i64 r1.Rate.Num, .int .i64 r1.Rate.Den, .int .i64 r1.Error, .int .i64 r1.Run, .int .i64 r1.Seq, .slice p2 r1.Samples.length k3] 32] [SlA p2 r1.Samples.length k3 r1.Samples] w) ?_ ?_
    · rcases Bool.eq_false_or_eq_true c21 with h35 | h35
      · have hs := hs.fix 18 (.bool true) rfl (vb h35)
        have hsh := ite_t hc36 h35
        refine st_skip hs rfl rfl rfl rfl rfl fun a hs => ?_
        refine st_skip hs rfl rfl rfl rfl rfl fun a hs => ?_
        refine st_skip hs rfl rfl rfl rfl rfl fun a hs => ?_
        refine st_skip hs rfl rfl rfl rfl rfl fun a hs => ?_
        refine st_skip hs rfl rfl rfl rfl rfl fun a hs => ?_
        refine st_skip hs rfl rfl rfl rfl rfl fun a hs => ?_
        refine st_val hs (y_pickT rfl rfl) trivial rfl rfl fun a hs => ?_
        refine wpList_nil ?_
        have hsh := Option.some.inj hsh
        subst hsh
        refine then_normal ?_
        exact ⟨Sv22, (hs.wk rfl), (hw.ft [0] [0] (by decide) rfl rfl)⟩
      · have hs := hs.fix 18 (.bool false) rfl (vb h35)
        have hsh := ite_f hc36 h35
        refine st_val hs (y_fieldAddr (o' := 5) Try.runUnderlying32 rfl Try.sizeOf3 rfl rfl rfl) ⟨_, rfl, rfl⟩ rfl rfl fun a hs => ?_
        refine st_val hs (y_loadB1 (hw.ownAt 0 rfl) rfl Try.isAgg3 rfl) ⟨_, rfl, rfl⟩ rfl rfl fun a hs => ?_
        refine st_val hs (y_move rfl) ⟨_, rfl, rfl⟩ rfl rfl fun a hs => ?_
        refine st_val hs (y_sub rfl rfl) ⟨_, rfl, rfl⟩ rfl rfl fun a hs => ?_
        obtain ⟨rv39, h38, hsh⟩ := bind_t hsh
        refine st_callR hs (record_in_ok h38 hw.dom) (do_call Try.call39 rfl) ⟨_, rfl, rfl⟩ rfl rfl ?_
        intro v43 Sv40 w a h41 h42 hs
        subst h42
        have hw := hw.call h41
        refine st_val hs (y_not rfl) ⟨_, rfl, rfl⟩ rfl rfl fun a hs => ?_
        refine st_val hs (y_pickF rfl rfl) trivial rfl rfl fun a hs => ?_
        refine wpList_nil ?_
        have hsh := Option.some.inj hsh
        subst hsh
        refine then_normal ?_
        exact ⟨Sv40, (hs.wk rfl), (hw.ft [0] [0] (by decide) rfl rfl)⟩
    · rintro a w ⟨Sv37, hs, hw⟩
      refine st_val hs (y_move rfl) trivial rfl rfl fun a hs => ?_
      obtain ⟨c51, hc51, hsh⟩ := bind_t hsh
      refine wpl_join 5 (fun a w => ∃ (Sv52 : Nat → Prop), Sl 68 [(1, .pointer (some ⟨b5, 0, none⟩)), (3, .int .i64 n7), (31, .bool c51)] a ∧ Wd ⟨w0, S0, []⟩ Sv52 [.box b5 [.string r1.Source.Network, .string r1.Source.Station, .string r1.Source.Location, .string r1.Source.Channel, .int .i64 r1.Start, .int .i64 r1.First, .int .i64 r1.Rate.Num, .int .i64 r1.Rate.Den, .int .i64 r1.Error, .int .i64 r1.Run, .int .i64 r1.Seq, .slice p2 r1.Samples.length k3] 32] [SlA p2 r1.Samples.length k3 r1.Samples] w) ?_ ?_
      · rcases Bool.eq_false_or_eq_true c36 with h50 | h50
        · have hs := hs.fix 26 (.bool true) rfl (vb h50)
          have hsh := ite_t hc51 h50
          refine st_skip hs rfl rfl rfl rfl rfl fun a hs => ?_
          refine st_skip hs rfl rfl rfl rfl rfl fun a hs => ?_
          refine st_skip hs rfl rfl rfl rfl rfl fun a hs => ?_
          refine st_skip hs rfl rfl rfl rfl rfl fun a hs => ?_
          refine st_val hs (y_pickT rfl rfl) trivial rfl rfl fun a hs => ?_
          refine wpList_nil ?_
          have hsh := Option.some.inj hsh
          subst hsh
          refine then_normal ?_
          exact ⟨Sv37, (hs.wk rfl), (hw.ft [0] [0] (by decide) rfl rfl)⟩
        · have hs := hs.fix 26 (.bool false) rfl (vb h50)
          have hsh := ite_f hc51 h50
          refine st_val hs (y_fieldAddr (o' := 8) Try.runUnderlying32 rfl Try.sizeOf3 rfl rfl rfl) ⟨_, rfl, rfl⟩ rfl rfl fun a hs => ?_
          refine st_val hs (y_loadB1 (hw.ownAt 0 rfl) rfl Try.isAgg3 rfl) ⟨_, rfl, rfl⟩ rfl rfl fun a hs => ?_
          obtain ⟨rv54, h53, hsh⟩ := bind_t hsh
          refine st_callR hs (record_in_ok h53 hw.dom) (do_call Try.call39 rfl) ⟨_, rfl, rfl⟩ rfl rfl ?_
          intro v58 Sv55 w a h56 h57 hs
          subst h57
          have hw := hw.call h56
          refine st_val hs (y_not rfl) ⟨_, rfl, rfl⟩ rfl rfl fun a hs => ?_
          refine st_val hs (y_pickF rfl rfl) trivial rfl rfl fun a hs => ?_
          refine wpList_nil ?_
          have hsh := Option.some.inj hsh
          subst hsh
          refine then_normal ?_
          exact ⟨Sv55, (hs.wk rfl), (hw.ft [0] [0] (by decide) rfl rfl)⟩
      · rintro a w ⟨Sv52, hs, hw⟩
        refine st_val hs (y_move rfl) trivial rfl rfl fun a hs => ?_
        obtain ⟨c66, hc66, hsh⟩ := bind_t hsh
        refine wpl_join 5 (fun a w => ∃ (Sv67 : Nat → Prop), Sl 68 [(1, .pointer (some ⟨b5, 0, none⟩)), (3, .int .i64 n7), (37, .bool c66)] a ∧ Wd ⟨w0, S0, []⟩ Sv67 [.box b5 [.string r1.Source.Network, .string r1.Source.Station, .string r1.Source.Location, .string r1.Source.Channel, .int .i64 r1.Start, .int .i64 r1.First, .int .i64 r1.Rate.Num, .int .i64 r1.Rate.Den, .int .i64 r1.Error, .int .i64 r1.Run, .int .i64 r1.Seq, .slice p2 r1.Samples.length k3] 32] [SlA p2 r1.Samples.length k3 r1.Samples] w) ?_ ?_
        · rcases Bool.eq_false_or_eq_true c51 with h65 | h65
          · have hs := hs.fix 32 (.bool true) rfl (vb h65)
            have hsh := ite_t hc66 h65
            refine st_skip hs rfl rfl rfl rfl rfl fun a hs => ?_
            refine st_skip hs rfl rfl rfl rfl rfl fun a hs => ?_
            refine st_skip hs rfl rfl rfl rfl rfl fun a hs => ?_
            refine st_skip hs rfl rfl rfl rfl rfl fun a hs => ?_
            refine st_val hs (y_pickT rfl rfl) trivial rfl rfl fun a hs => ?_
            refine wpList_nil ?_
            have hsh := Option.some.inj hsh
            subst hsh
            refine then_normal ?_
            exact ⟨Sv52, (hs.wk rfl), (hw.ft [0] [0] (by decide) rfl rfl)⟩
          · have hs := hs.fix 32 (.bool false) rfl (vb h65)
            have hsh := ite_f hc66 h65
            refine st_val hs (y_fieldAddr (o' := 9) Try.runUnderlying32 rfl Try.sizeOf3 rfl rfl rfl) ⟨_, rfl, rfl⟩ rfl rfl fun a hs => ?_
            refine st_val hs (y_loadB1 (hw.ownAt 0 rfl) rfl Try.isAgg3 rfl) ⟨_, rfl, rfl⟩ rfl rfl fun a hs => ?_
            obtain ⟨rv69, h68, hsh⟩ := bind_t hsh
            refine st_callR hs (record_in_ok h68 hw.dom) (do_call Try.call39 rfl) ⟨_, rfl, rfl⟩ rfl rfl ?_
            intro v73 Sv70 w a h71 h72 hs
            subst h72
            have hw := hw.call h71
            refine st_val hs (y_not rfl) ⟨_, rfl, rfl⟩ rfl rfl fun a hs => ?_
            refine st_val hs (y_pickF rfl rfl) trivial rfl rfl fun a hs => ?_
            refine wpList_nil ?_
            have hsh := Option.some.inj hsh
            subst hsh
            refine then_normal ?_
            exact ⟨Sv70, (hs.wk rfl), (hw.ft [0] [0] (by decide) rfl rfl)⟩
        · rintro a w ⟨Sv67, hs, hw⟩
          refine st_val hs (y_move rfl) trivial rfl rfl fun a hs => ?_
          obtain ⟨c81, hc81, hsh⟩ := bind_t hsh
          refine wpl_join 5 (fun a w => ∃ (Sv82 : Nat → Prop), Sl 68 [(1, .pointer (some ⟨b5, 0, none⟩)), (3, .int .i64 n7), (43, .bool c81)] a ∧ Wd ⟨w0, S0, []⟩ Sv82 [.box b5 [.string r1.Source.Network, .string r1.Source.Station, .string r1.Source.Location, .string r1.Source.Channel, .int .i64 r1.Start, .int .i64 r1.First, .int .i64 r1.Rate.Num, .int .i64 r1.Rate.Den, .int .i64 r1.Error, .int .i64 r1.Run, .int .i64 r1.Seq, .slice p2 r1.Samples.length k3] 32] [SlA p2 r1.Samples.length k3 r1.Samples] w) ?_ ?_
          · rcases Bool.eq_false_or_eq_true c66 with h80 | h80
            · have hs := hs.fix 38 (.bool true) rfl (vb h80)
              have hsh := ite_t hc81 h80
              refine st_skip hs rfl rfl rfl rfl rfl fun a hs => ?_
              refine st_skip hs rfl rfl rfl rfl rfl fun a hs => ?_
              refine st_skip hs rfl rfl rfl rfl rfl fun a hs => ?_
              refine st_skip hs rfl rfl rfl rfl rfl fun a hs => ?_
              refine st_val hs (y_pickT rfl rfl) trivial rfl rfl fun a hs => ?_
              refine wpList_nil ?_
              have hsh := Option.some.inj hsh
              subst hsh
              refine then_normal ?_
              exact ⟨Sv67, (hs.wk rfl), (hw.ft [0] [0] (by decide) rfl rfl)⟩
            · have hs := hs.fix 38 (.bool false) rfl (vb h80)
              have hsh := ite_f hc81 h80
              refine st_val hs (y_fieldAddr (o' := 10) Try.runUnderlying32 rfl Try.sizeOf3 rfl rfl rfl) ⟨_, rfl, rfl⟩ rfl rfl fun a hs => ?_
              refine st_val hs (y_loadB1 (hw.ownAt 0 rfl) rfl Try.isAgg3 rfl) ⟨_, rfl, rfl⟩ rfl rfl fun a hs => ?_
              obtain ⟨rv84, h83, hsh⟩ := bind_t hsh
              refine st_callR hs (record_in_ok h83 hw.dom) (do_call Try.call39 rfl) ⟨_, rfl, rfl⟩ rfl rfl ?_
              intro v88 Sv85 w a h86 h87 hs
              subst h87
              have hw := hw.call h86
              refine st_val hs (y_not rfl) ⟨_, rfl, rfl⟩ rfl rfl fun a hs => ?_
              refine st_val hs (y_pickF rfl rfl) trivial rfl rfl fun a hs => ?_
              refine wpList_nil ?_
              have hsh := Option.some.inj hsh
              subst hsh
              refine then_normal ?_
              exact ⟨Sv85, (hs.wk rfl), (hw.ft [0] [0] (by decide) rfl rfl)⟩
          · rintro a w ⟨Sv82, hs, hw⟩
            refine wpList_nil ?_
            refine then_normal ?_
            refine wp_cond_split (hs.ev rfl) (fun h90 => ?_) (fun h90 => ?_)
            · have hsh := ite_t hsh h90
              refine wp_seq ?_
              refine wp_region_lit ?_
              refine st_val hs (y_assign rfl) trivial rfl rfl fun a hs => ?_
              refine wpList_nil ?_
              refine then_normal ?_
              have hsh := Option.some.inj hsh
              subst hsh
              refine wp_ret ?_
              refine then_ret ?_
              exact ret1 hs rfl (rv_tmp rfl) (hw.ret rfl)
            · have hsh := ite_f hsh h90
              refine wp_skip ?_
              refine then_normal ?_
              refine wp_seq ?_
              refine wp_region_lit ?_
              refine st_val hs (y_fieldAddr (o' := 4) Try.runUnderlying32 rfl Try.sizeOf3 rfl rfl rfl) trivial rfl rfl fun a hs => ?_
              refine st_val hs (y_loadB1 (hw.ownAt 0 rfl) rfl Try.isAgg3 rfl) trivial rfl rfl fun a hs => ?_
              refine st_val hs (y_fieldAddr (o' := 6) Try.runUnderlying32 rfl Try.sizeOf30 rfl rfl rfl) trivial rfl rfl fun a hs => ?_
              refine st_val hs (y_loadBA (hw.ownAt 0 rfl) rfl Try.isAgg30 Try.sizeOf30 rfl rfl) trivial rfl rfl fun a hs => ?_
              refine st_val hs (y_fieldAddr (o' := 5) Try.runUnderlying32 rfl Try.sizeOf3 rfl rfl rfl) trivial rfl rfl fun a hs => ?_
              refine st_val hs (y_loadB1 (hw.ownAt 0 rfl) rfl Try.isAgg3 rfl) trivial rfl rfl fun a hs => ?_
              refine st_val hs (y_move rfl) trivial rfl rfl fun a hs => ?_
              refine st_val hs (y_add rfl rfl) trivial rfl rfl fun a hs => ?_
              obtain ⟨rv92, h91, hsh⟩ := bind_t hsh
              refine st_callR hs (rate_Time_ok h91 hw.dom) (do_call Try.call53 rfl) trivial rfl rfl ?_
              intro v96 Sv93 w a h94 h95 hs
              subst h95
              have hw := hw.call h94
              refine st_val hs (y_move rfl) trivial rfl rfl fun a hs => ?_
              refine st_val hs (y_extract rfl rfl) trivial rfl rfl fun a hs => ?_
              refine st_val hs (y_extract rfl rfl) trivial rfl rfl fun a hs => ?_
              refine st_val hs (y_assign rfl) trivial rfl rfl fun a hs => ?_
              refine st_val hs (y_assign rfl) trivial rfl rfl fun a hs => ?_
              refine wpList_nil ?_
              refine then_normal ?_
              refine wp_seq ?_
              refine wp_region_lit ?_
              refine st_val hs (y_move rfl) trivial rfl rfl fun a hs => ?_
              refine st_val hs (y_eql rfl rfl) trivial rfl rfl fun a hs => ?_
              refine st_val hs (y_move rfl) trivial rfl rfl fun a hs => ?_
              refine wpl_join 3 (fun a w1 => w = w1 ∧ Sl 68 [(1, .pointer (some ⟨b5, 0, none⟩)), (61, .bool ((rv92.2 == 0) && (decide (rv92.1 ≤ 9007199254740992))))] a) ?_ ?_
              · rcases Bool.eq_false_or_eq_true (rv92.2 == 0) with h97 | h97
                · have hs := hs.fix 58 (.bool true) rfl (vb h97)
                  refine st_val hs (y_move rfl) ⟨_, rfl, rfl⟩ rfl rfl fun a hs => ?_
                  refine st_val hs (y_leq rfl rfl) ⟨_, rfl, rfl⟩ rfl rfl fun a hs => ?_
                  refine st_val hs (y_pickT rfl rfl) trivial rfl rfl fun a hs => ?_
                  refine wpList_nil ?_
                  refine then_normal ?_
                  exact ⟨rfl, (hs.fix 61 (.bool ((rv92.2 == 0) && (decide (rv92.1 ≤ 9007199254740992)))) rfl (and_t h97)).weaken _ ⟨rfl, rfl, trivial⟩⟩
                · have hs := hs.fix 58 (.bool false) rfl (vb h97)
                  refine st_skip hs rfl rfl rfl rfl rfl fun a hs => ?_
                  refine st_skip hs rfl rfl rfl rfl rfl fun a hs => ?_
                  refine st_val hs (y_pickF rfl rfl) trivial rfl rfl fun a hs => ?_
                  refine wpList_nil ?_
                  refine then_normal ?_
                  exact ⟨rfl, (hs.fix 61 (.bool ((rv92.2 == 0) && (decide (rv92.1 ≤ 9007199254740992)))) rfl (and_f h97)).weaken _ ⟨rfl, rfl, trivial⟩⟩
              · rintro a w1 ⟨h113, hs⟩
                subst h113
                refine st_val hs (y_move rfl) trivial rfl rfl fun a hs => ?_
                obtain ⟨c105, hc105, hsh⟩ := bind_t hsh
                refine wpl_join 5 (fun a w => ∃ (Sv106 : Nat → Prop), Sl 68 [(67, .bool c105)] a ∧ Wd ⟨w0, S0, []⟩ Sv106 [] [] w) ?_ ?_
                · rcases Bool.eq_false_or_eq_true ((rv92.2 == 0) && (decide (rv92.1 ≤ 9007199254740992))) with h104 | h104
                  · have hs := hs.fix 62 (.bool true) rfl (vb h104)
                    have hsh := ite_t hc105 h104
                    refine st_val hs (y_fieldAddr (o' := 11) Try.runUnderlying32 rfl Try.sizeOf22 rfl rfl rfl) ⟨_, rfl, rfl⟩ rfl rfl fun a hs => ?_
                    refine st_val hs (y_loadB1 (hw.ownAt 0 rfl) rfl Try.isAgg22 rfl) ⟨_, rfl, rfl⟩ rfl rfl fun a hs => ?_
                    obtain ⟨rv108, h107, hsh⟩ := bind_t hsh
                    refine st_callR hs (slices_ContainsFunc_Lint_int_ok h107 hw.dom (hw.envAt 0 rfl) (record_Valid_fn1_fn _ _)) (do_call Try.call54 rfl) ⟨_, rfl, rfl⟩ rfl rfl ?_
                    intro v112 Sv109 w a h110 h111 hs
                    subst h111
                    have hw := hw.call h110
                    refine st_val hs (y_not rfl) ⟨_, rfl, rfl⟩ rfl rfl fun a hs => ?_
                    refine st_val hs (y_pickT rfl rfl) trivial rfl rfl fun a hs => ?_
                    refine wpList_nil ?_
                    have hsh := Option.some.inj hsh
                    subst hsh
                    refine then_normal ?_
                    exact ⟨Sv109, (hs.wk rfl), (hw.ft [] [] (by decide) rfl rfl)⟩
                  · have hs := hs.fix 62 (.bool false) rfl (vb h104)
                    have hsh := ite_f hc105 h104
                    refine st_skip hs rfl rfl rfl rfl rfl fun a hs => ?_
                    refine st_skip hs rfl rfl rfl rfl rfl fun a hs => ?_
                    refine st_skip hs rfl rfl rfl rfl rfl fun a hs => ?_
                    refine st_skip hs rfl rfl rfl rfl rfl fun a hs => ?_
                    refine st_val hs (y_pickF rfl rfl) trivial rfl rfl fun a hs => ?_
                    refine wpList_nil ?_
                    have hsh := Option.some.inj hsh
                    subst hsh
                    refine then_normal ?_
                    exact ⟨Sv93, (hs.wk rfl), (hw.ft [] [] (by decide) rfl rfl)⟩
                · rintro a w ⟨Sv106, hs, hw⟩
                  refine st_val hs (y_assign rfl) trivial rfl rfl fun a hs => ?_
                  refine wpList_nil ?_
                  refine then_normal ?_
                  have hsh := Option.some.inj hsh
                  subst hsh
                  refine wp_ret ?_
                  exact ret1 hs rfl (rv_tmp rfl) (hw.ret rfl)

abbrev record_time_rd (w0 : World) (r : Int) : (Nat → Prop) → World → Value → Prop := fun S w v => v = .int .i64 r
set_option maxHeartbeats 4000000 in
set_option maxRecDepth 100000 in
theorem record_time_ok {w0 : World} {S0 : Nat → Prop} {p2 : Option Addr} {k3 : Nat} {r1 : Record} {i5 : Int} {r : Int} (hsh : record_time r1 i5 = some r) (hS : ∀ b, S0 b → b < w0.heap.size) (h4 : (SlA p2 r1.Samples.length k3 r1.Samples).p S0 w0) : Calls Try.prog 38 #[.agg #[.string r1.Source.Network, .string r1.Source.Station, .string r1.Source.Location, .string r1.Source.Channel, .int .i64 r1.Start, .int .i64 r1.First, .int .i64 r1.Rate.Num, .int .i64 r1.Rate.Den, .int .i64 r1.Error, .int .i64 r1.Run, .int .i64 r1.Seq, .slice p2 r1.Samples.length k3], .int .i64 i5] w0 (Ret [] w0 S0 (record_time_rd w0 r)) := by
  refine calls_of_wp Try.func38 rfl ?_
  have hs := Sl.enter #[.agg #[.string r1.Source.Network, .string r1.Source.Station, .string r1.Source.Location, .string r1.Source.Channel, .int .i64 r1.Start, .int .i64 r1.First, .int .i64 r1.Rate.Num, .int .i64 r1.Rate.Den, .int .i64 r1.Error, .int .i64 r1.Run, .int .i64 r1.Seq, .slice p2 r1.Samples.length k3], .int .i64 i5] 20 [(0, .agg #[.string r1.Source.Network, .string r1.Source.Station, .string r1.Source.Location, .string r1.Source.Channel, .int .i64 r1.Start, .int .i64 r1.First, .int .i64 r1.Rate.Num, .int .i64 r1.Rate.Den, .int .i64 r1.Error, .int .i64 r1.Run, .int .i64 r1.Seq, .slice p2 r1.Samples.length k3]), (1, .int .i64 i5)] rfl ⟨rfl, rfl, trivial⟩
  have hw := Wd.enter (E := []) hS (fun _ h => (by cases h))
  have hw := hw.addE h4
  delta record_time at hsh
  refine wp_seq ?_
  refine wp_region_lit ?_
  refine w_box (cs := [.string r1.Source.Network, .string r1.Source.Station, .string r1.Source.Location, .string r1.Source.Channel, .int .i64 r1.Start, .int .i64 r1.First, .int .i64 r1.Rate.Num, .int .i64 r1.Rate.Den, .int .i64 r1.Error, .int .i64 r1.Run, .int .i64 r1.Seq, .slice p2 r1.Samples.length k3]) hs hw rfl rfl rfl trivial ?_
  intro b6 a w hs hw
  refine st_val hs (y_assign rfl) trivial rfl rfl fun a hs => ?_
  refine wpList_nil ?_
  refine then_normal ?_
  refine wp_seq ?_
  refine wp_region_lit ?_
  refine st_val hs (y_fieldAddr (o' := 4) Try.runUnderlying32 rfl Try.sizeOf3 rfl rfl rfl) trivial rfl rfl fun a hs => ?_
  refine st_val hs (y_loadB1 (hw.ownAt 0 rfl) rfl Try.isAgg3 rfl) trivial rfl rfl fun a hs => ?_
  refine st_val hs (y_fieldAddr (o' := 6) Try.runUnderlying32 rfl Try.sizeOf30 rfl rfl rfl) trivial rfl rfl fun a hs => ?_
  refine st_val hs (y_loadBA (hw.ownAt 0 rfl) rfl Try.isAgg30 Try.sizeOf30 rfl rfl) trivial rfl rfl fun a hs => ?_
  refine st_val hs (y_fieldAddr (o' := 5) Try.runUnderlying32 rfl Try.sizeOf3 rfl rfl rfl) trivial rfl rfl fun a hs => ?_
  refine st_val hs (y_loadB1 (hw.ownAt 0 rfl) rfl Try.isAgg3 rfl) trivial rfl rfl fun a hs => ?_
  refine st_val hs (y_move rfl) trivial rfl rfl fun a hs => ?_
  refine st_val hs (y_add rfl rfl) trivial rfl rfl fun a hs => ?_
  obtain ⟨rv8, h7, hsh⟩ := bind_t hsh
  refine st_callR hs (rate_Time_ok h7 hw.dom) (do_call Try.call53 rfl) trivial rfl rfl ?_
  intro v12 Sv9 w a h10 h11 hs
  subst h11
  have hw := hw.call h10
  refine st_val hs (y_move rfl) trivial rfl rfl fun a hs => ?_
  refine st_val hs (y_extract rfl rfl) trivial rfl rfl fun a hs => ?_
  refine st_val hs (y_extract rfl rfl) trivial rfl rfl fun a hs => ?_
  refine st_val hs (y_assign rfl) trivial rfl rfl fun a hs => ?_
  refine st_val hs (y_assign rfl) trivial rfl rfl fun a hs => ?_
  refine wpList_nil ?_
  refine then_normal ?_
  refine wp_seq ?_
  refine wp_region_lit ?_
  refine st_val hs (y_move rfl) trivial rfl rfl fun a hs => ?_
  refine st_val hs (y_assign rfl) trivial rfl rfl fun a hs => ?_
  refine wpList_nil ?_
  refine then_normal ?_
  have hsh := Option.some.inj hsh
  subst hsh
  refine wp_ret ?_
  exact ret1 hs rfl (rv_tmp rfl) (hw.ret rfl)

abbrev record_Span_rd (w0 : World) (r : (Span × Int)) : (Nat → Prop) → World → Value → Prop := fun S w v => v = .tuple #[.agg #[.int .i64 r.1.From, .int .i64 r.1.To], .int .i64 r.2]
set_option maxHeartbeats 4000000 in
set_option maxRecDepth 100000 in
theorem record_Span_ok {w0 : World} {S0 : Nat → Prop} {p2 : Option Addr} {k3 : Nat} {r1 : Record} {r : (Span × Int)} (hsh : record_Span r1 = some r) (hS : ∀ b, S0 b → b < w0.heap.size) (h4 : (SlA p2 r1.Samples.length k3 r1.Samples).p S0 w0) : Calls Try.prog 13 #[.agg #[.string r1.Source.Network, .string r1.Source.Station, .string r1.Source.Location, .string r1.Source.Channel, .int .i64 r1.Start, .int .i64 r1.First, .int .i64 r1.Rate.Num, .int .i64 r1.Rate.Den, .int .i64 r1.Error, .int .i64 r1.Run, .int .i64 r1.Seq, .slice p2 r1.Samples.length k3]] w0 (Ret [] w0 S0 (record_Span_rd w0 r)) := by
  refine calls_of_wp Try.func13 rfl ?_
  have hs := Sl.enter #[.agg #[.string r1.Source.Network, .string r1.Source.Station, .string r1.Source.Location, .string r1.Source.Channel, .int .i64 r1.Start, .int .i64 r1.First, .int .i64 r1.Rate.Num, .int .i64 r1.Rate.Den, .int .i64 r1.Error, .int .i64 r1.Run, .int .i64 r1.Seq, .slice p2 r1.Samples.length k3]] 16 [(0, .agg #[.string r1.Source.Network, .string r1.Source.Station, .string r1.Source.Location, .string r1.Source.Channel, .int .i64 r1.Start, .int .i64 r1.First, .int .i64 r1.Rate.Num, .int .i64 r1.Rate.Den, .int .i64 r1.Error, .int .i64 r1.Run, .int .i64 r1.Seq, .slice p2 r1.Samples.length k3])] rfl ⟨rfl, trivial⟩
  have hw := Wd.enter (E := []) hS (fun _ h => (by cases h))
  have hw := hw.addE h4
  delta record_Span at hsh
  refine wp_seq ?_
  refine wp_region_lit ?_
  refine w_box (cs := [.string r1.Source.Network, .string r1.Source.Station, .string r1.Source.Location, .string r1.Source.Channel, .int .i64 r1.Start, .int .i64 r1.First, .int .i64 r1.Rate.Num, .int .i64 r1.Rate.Den, .int .i64 r1.Error, .int .i64 r1.Run, .int .i64 r1.Seq, .slice p2 r1.Samples.length k3]) hs hw rfl rfl rfl trivial ?_
  intro b5 a w hs hw
  refine w_alloc (cs := [.int .i64 0, .int .i64 0]) hs hw Try.zeroValue39 rfl rfl trivial ?_
  intro b6 a w hs hw
  refine st_val hs (y_assign rfl) trivial rfl rfl fun a hs => ?_
  refine wpList_nil ?_
  refine then_normal ?_
  refine wp_seq ?_
  refine wp_seq ?_
  refine wp_region_lit ?_
  refine st_val hs (y_loadBA (hw.ownAt 1 rfl) rfl Try.isAgg32 Try.sizeOf32 rfl rfl) trivial rfl rfl fun a hs => ?_
  obtain ⟨rv8, h7, hsh⟩ := bind_t hsh
  refine st_callR hs (record_Valid_ok h7 hw.dom (hw.envAt 0 rfl)) (do_call Try.call26 rfl) trivial rfl rfl ?_
  intro v12 Sv9 w a h10 h11 hs
  subst h11
  have hw := hw.call h10
  refine st_val hs (y_not rfl) trivial rfl rfl fun a hs => ?_
  refine wpList_nil ?_
  refine then_normal ?_
  refine wp_cond_split (hs.ev rfl) (fun h14 => ?_) (fun h14 => ?_)
  · have hsh := ite_t hsh h14
    refine wp_seq ?_
    refine wp_region_lit ?_
    refine st_val hs (y_build (vs := []) Bld39 rfl rfl) trivial rfl rfl fun a hs => ?_
    refine w_store (m := 2) (cs' := [.int .i64 0, .int .i64 0]) hs hw 0 rfl rfl rfl Try.sizeOf39 rfl rfl rfl rfl trivial ?_
    intro a w hs hw
    refine st_val hs (y_assign rfl) trivial rfl rfl fun a hs => ?_
    refine wpList_nil ?_
    refine then_normal ?_
    have hsh := Option.some.inj hsh
    subst hsh
    refine wp_ret ?_
    refine then_ret ?_
    exact ret2 hs rfl (rv_cell hw 0 rfl rfl Try.isAgg39 Try.sizeOf39 rfl) (rv_tmp rfl) (hw.ret rfl)
  · have hsh := ite_f hsh h14
    refine wp_skip ?_
    refine then_normal ?_
    refine wp_seq ?_
    obtain ⟨rv16, h15, hsh⟩ := bind_t hsh
    obtain ⟨rv18, h17, hsh⟩ := bind_t hsh
    refine wp_only (fun a w => ∃ (Sv19 : Nat → Prop), Sl 16 [(2, .pointer (some ⟨b6, 0, none⟩)), (3, .int .i64 0)] a ∧ Wd ⟨w0, S0, []⟩ Sv19 [.box b6 [.int .i64 rv16, .int .i64 rv18] 39] [] w) ?_ ?_
    · refine h_begin (C := Cls [.box b5 [.string r1.Source.Network, .string r1.Source.Station, .string r1.Source.Location, .string r1.Source.Channel, .int .i64 r1.Start, .int .i64 r1.First, .int .i64 r1.Rate.Num, .int .i64 r1.Rate.Den, .int .i64 r1.Error, .int .i64 r1.Run, .int .i64 r1.Seq, .slice p2 r1.Samples.length k3] 32] []) (by kernel_rfl) rfl ?_
      have hw := hw.drew
      have hC : Cls [.box b5 [.string r1.Source.Network, .string r1.Source.Station, .string r1.Source.Location, .string r1.Source.Channel, .int .i64 r1.Start, .int .i64 r1.First, .int .i64 r1.Rate.Num, .int .i64 r1.Rate.Den, .int .i64 r1.Error, .int .i64 r1.Run, .int .i64 r1.Seq, .slice p2 r1.Samples.length k3] 32] [] _ := hw.cs [1] [] rfl rfl
      refine h_get hs (i := 0) rfl (by kernel_rfl) rfl rfl hC rfl (fun w hC => y_loadBA (hC.ownAt 0 rfl) rfl Try.isAgg32 Try.sizeOf32 rfl rfl) fun a hs => ?_
      refine h_get hs (i := 2) rfl (by kernel_rfl) rfl rfl hC rfl (fun w hC => y_loadBA (hC.ownAt 0 rfl) rfl Try.isAgg32 Try.sizeOf32 rfl rfl) fun a hs => ?_
      refine h_get hs (i := 3) rfl (by kernel_rfl) rfl rfl hC rfl (fun w hC => y_fieldAddr (o' := 11) Try.runUnderlying32 rfl Try.sizeOf22 rfl rfl rfl) fun a hs => ?_
      refine h_get hs (i := 4) rfl (by kernel_rfl) rfl rfl hC rfl (fun w hC => y_loadB1 (hC.ownAt 0 rfl) rfl Try.isAgg22 rfl) fun a hs => ?_
      refine h_get hs (i := 5) rfl (by kernel_rfl) rfl rfl hC rfl (fun w hC => y_len Try.runUnderlying22 rfl) fun a hs => ?_
      refine h_all (rs := [1]) (by kernel_rfl) rfl ?_
      refine AllH.cons rfl ?_ ?_
      · refine st_callR hs (record_time_ok h15 hw.dom (hw.envAt 0 rfl)) (do_call Try.call38 rfl) trivial rfl rfl ?_
        intro v23 Sv20 w a h21 h22 hs
        subst h22
        have hw := hw.call h21
        refine wpList_nil ?_
        refine then_normal ?_
        have hC : Cls [.box b5 [.string r1.Source.Network, .string r1.Source.Station, .string r1.Source.Location, .string r1.Source.Channel, .int .i64 r1.Start, .int .i64 r1.First, .int .i64 r1.Rate.Num, .int .i64 r1.Rate.Den, .int .i64 r1.Error, .int .i64 r1.Run, .int .i64 r1.Seq, .slice p2 r1.Samples.length k3] 32] [] _ := hw.cs [1] [] rfl rfl
        refine ⟨hC, ?_⟩
        refine h_all (rs := [6]) (by kernel_rfl) rfl ?_
        refine AllH.cons rfl ?_ ?_
        · refine st_callR hs (record_time_ok h17 hw.dom (hw.envAt 0 rfl)) (do_call Try.call38 rfl) trivial rfl rfl ?_
          intro v27 Sv24 w a h25 h26 hs
          subst h26
          have hw := hw.call h25
          refine wpList_nil ?_
          refine then_normal ?_
          have hC : Cls [.box b5 [.string r1.Source.Network, .string r1.Source.Station, .string r1.Source.Location, .string r1.Source.Channel, .int .i64 r1.Start, .int .i64 r1.First, .int .i64 r1.Rate.Num, .int .i64 r1.Rate.Den, .int .i64 r1.Error, .int .i64 r1.Run, .int .i64 r1.Seq, .slice p2 r1.Samples.length k3] 32] [] _ := hw.cs [1] [] rfl rfl
          refine ⟨hC, ?_⟩
          refine h_get hs (i := 7) rfl (by kernel_rfl) rfl rfl hC rfl (fun w hC => y_build (vs := [(0, .int .i64 rv16), (1, .int .i64 rv18)]) Bld39 rfl rfl) fun a hs => ?_
          refine h_all (rs := [8]) (by kernel_rfl) rfl ?_
          refine AllH.cons rfl ?_ ?_
          · refine w_store (m := 2) (cs' := [.int .i64 rv16, .int .i64 rv18]) hs hw 0 rfl rfl rfl Try.sizeOf39 rfl rfl rfl rfl trivial ?_
            intro a w hs hw
            refine wpList_nil ?_
            refine then_normal ?_
            have hC : Cls [.box b5 [.string r1.Source.Network, .string r1.Source.Station, .string r1.Source.Location, .string r1.Source.Channel, .int .i64 r1.Start, .int .i64 r1.First, .int .i64 r1.Rate.Num, .int .i64 r1.Rate.Den, .int .i64 r1.Error, .int .i64 r1.Run, .int .i64 r1.Seq, .slice p2 r1.Samples.length k3] 32] [] _ := hw.cs [1] [] rfl rfl
            refine ⟨hC, ?_⟩
            refine h_get hs (i := 9) rfl (by kernel_rfl) rfl rfl hC rfl (fun w hC => y_assign rfl) fun a hs => ?_
            refine h_done (by kernel_rfl) ?_
            exact ⟨Sv24, (hs.wk rfl), (hw.ft [0] [] (by decide) rfl rfl)⟩
          exact AllH.nil
        exact AllH.nil
      exact AllH.nil
    · rintro a w ⟨Sv19, hs, hw⟩
      refine then_normal ?_
      have hsh := Option.some.inj hsh
      subst hsh
      refine wp_ret ?_
      exact ret2 hs rfl (rv_cell hw 0 rfl rfl Try.isAgg39 Try.sizeOf39 rfl) (rv_tmp rfl) (hw.ret rfl)

abbrev slices_Clone_Lint_int_rd (w0 : World) (r : (List Int)) : (Nat → Prop) → World → Value → Prop := fun S w v => ∃ (p0_0 : Option Addr) (k0_0 : Nat) (c0_0 : List Value), v = .slice p0_0 r.length k0_0 ∧ Fresh w0 S w (.row p0_0 r.length k0_0 c0_0 3 1) ∧ (RowA c0_0 r).p S w
set_option maxHeartbeats 4000000 in
set_option maxRecDepth 100000 in
theorem slices_Clone_Lint_int_ok {w0 : World} {S0 : Nat → Prop} {p2 : Option Addr} {k3 : Nat} {s1 : (List Int)} {r : (List Int)} (hsh : slices_Clone_Lint_int s1 = some r) (hS : ∀ b, S0 b → b < w0.heap.size) (h4 : (SlA p2 s1.length k3 s1).p S0 w0) : Calls Try.prog 64 #[.slice p2 s1.length k3] w0 (Ret [] w0 S0 (slices_Clone_Lint_int_rd w0 r)) := by
  refine calls_of_wp Try.func64 rfl ?_
  have hs := Sl.enter #[.slice p2 s1.length k3] 8 [(0, .slice p2 s1.length k3)] rfl ⟨rfl, trivial⟩
  have hw := Wd.enter (E := []) hS (fun _ h => (by cases h))
  have hw := hw.addE h4
  delta slices_Clone_Lint_int at hsh
  refine wp_seq ?_
  refine wp_region_lit ?_
  refine st_val hs (y_assign rfl) trivial rfl rfl fun a hs => ?_
  refine wpList_nil ?_
  refine then_normal ?_
  refine wp_seq ?_
  refine wp_seq ?_
  refine wp_region_lit ?_
  refine st_val hs (y_move rfl) trivial rfl rfl fun a hs => ?_
  refine st_val hs (y_eqlN Try.runUnderlying22 rfl rfl) trivial rfl rfl fun a hs => ?_
  refine wpList_nil ?_
  refine then_normal ?_
  have hsv15 := hs
  have hwv16 := hw
  rcases p2 with _ | av8
  · have hs := hsv15
    have hw := hwv16
    obtain rfl := slnil (hw.envAt 0 rfl)
    have hsh : some ([] : List Int) = some r := by simpa [appM, maxLen] using hsh
    refine wp_cond_true (hs.ev rfl) ?_
    refine wp_seq ?_
    refine wp_region_lit ?_
    refine st_val hs (y_assign rfl) trivial rfl rfl fun a hs => ?_
    refine wpList_nil ?_
    refine then_normal ?_
    have hsh := Option.some.inj hsh
    subst hsh
    have hw := hw.nilRow Int 3
    refine wp_ret ?_
    refine then_ret ?_
    exact ret1 hs rfl (rv_tmp rfl) (hw.ret ⟨none, 0, [], rfl, (hw.freshOf 0 rfl (.inl rfl)), (hw.envAt 0 rfl)⟩)
  · have hs := hsv15
    have hw := hwv16
    refine wp_cond_false (hs.ev rfl) ?_
    refine wp_skip ?_
    refine then_normal ?_
    refine wp_seq ?_
    refine wp_region_lit ?_
    refine w_buildSlice (α := Int) (vs := []) (cs := []) (xs := ([] : List Int)) hs hw El22 rfl rfl rfl rfl rfl rfl rfl rfl trivial fun p9 a w hs hw => ?_
    refine st_val hs (y_move rfl) trivial rfl rfl fun a hs => ?_
    obtain ⟨l11, h10, hsh⟩ := bind_t hsh
    refine w_appendE (α := Int) hs hw El22 0 rfl rfl rfl 0 rfl 1 rfl h10 rfl trivial ?_
    intro p12 k13 c14 a w hs hw
    refine st_val hs (y_assign rfl) trivial rfl rfl fun a hs => ?_
    refine wpList_nil ?_
    refine then_normal ?_
    have hsh := Option.some.inj hsh
    subst hsh
    refine wp_ret ?_
    exact ret1 hs rfl (rv_tmp rfl) (hw.ret ⟨p12, k13, c14, rfl, (hw.freshOf 0 rfl (.inl rfl)), (hw.envAt 0 rfl)⟩)

abbrev record_sub_rd (w0 : World) (r : Record) : (Nat → Prop) → World → Value → Prop := fun S w v => ∃ (p0_11 : Option Addr) (k0_11 : Nat) (c0_11 : List Value), v = .agg #[.string r.Source.Network, .string r.Source.Station, .string r.Source.Location, .string r.Source.Channel, .int .i64 r.Start, .int .i64 r.First, .int .i64 r.Rate.Num, .int .i64 r.Rate.Den, .int .i64 r.Error, .int .i64 r.Run, .int .i64 r.Seq, .slice p0_11 r.Samples.length k0_11] ∧ Fresh w0 S w (.row p0_11 r.Samples.length k0_11 c0_11 3 1) ∧ (RowA c0_11 r.Samples).p S w
set_option maxHeartbeats 4000000 in
set_option maxRecDepth 100000 in
theorem record_sub_ok {w0 : World} {S0 : Nat → Prop} {p2 : Option Addr} {k3 : Nat} {r1 : Record} {from5 : Int} {to6 : Int} {r : Record} (hsh : record_sub r1 from5 to6 = some r) (hS : ∀ b, S0 b → b < w0.heap.size) (h4 : (SlA p2 r1.Samples.length k3 r1.Samples).p S0 w0) : Calls Try.prog 37 #[.agg #[.string r1.Source.Network, .string r1.Source.Station, .string r1.Source.Location, .string r1.Source.Channel, .int .i64 r1.Start, .int .i64 r1.First, .int .i64 r1.Rate.Num, .int .i64 r1.Rate.Den, .int .i64 r1.Error, .int .i64 r1.Run, .int .i64 r1.Seq, .slice p2 r1.Samples.length k3], .int .i64 from5, .int .i64 to6] w0 (Ret [] w0 S0 (record_sub_rd w0 r)) := by
  refine calls_of_wp Try.func37 rfl ?_
  have hs := Sl.enter #[.agg #[.string r1.Source.Network, .string r1.Source.Station, .string r1.Source.Location, .string r1.Source.Channel, .int .i64 r1.Start, .int .i64 r1.First, .int .i64 r1.Rate.Num, .int .i64 r1.Rate.Den, .int .i64 r1.Error, .int .i64 r1.Run, .int .i64 r1.Seq, .slice p2 r1.Samples.length k3], .int .i64 from5, .int .i64 to6] 20 [(0, .agg #[.string r1.Source.Network, .string r1.Source.Station, .string r1.Source.Location, .string r1.Source.Channel, .int .i64 r1.Start, .int .i64 r1.First, .int .i64 r1.Rate.Num, .int .i64 r1.Rate.Den, .int .i64 r1.Error, .int .i64 r1.Run, .int .i64 r1.Seq, .slice p2 r1.Samples.length k3]), (1, .int .i64 from5), (2, .int .i64 to6)] rfl ⟨rfl, rfl, rfl, trivial⟩
  have hw := Wd.enter (E := []) hS (fun _ h => (by cases h))
  have hw := hw.addE h4
  delta record_sub at hsh
  refine wp_seq ?_
  refine wp_region_lit ?_
  refine w_box (cs := [.string r1.Source.Network, .string r1.Source.Station, .string r1.Source.Location, .string r1.Source.Channel, .int .i64 r1.Start, .int .i64 r1.First, .int .i64 r1.Rate.Num, .int .i64 r1.Rate.Den, .int .i64 r1.Error, .int .i64 r1.Run, .int .i64 r1.Seq, .slice p2 r1.Samples.length k3]) hs hw rfl rfl rfl trivial ?_
  intro b7 a w hs hw
  refine w_alloc (cs := [.string ByteArray.empty, .string ByteArray.empty, .string ByteArray.empty, .string ByteArray.empty, .int .i64 0, .int .i64 0, .int .i64 0, .int .i64 0, .int .i64 0, .int .i64 0, .int .i64 0, .slice none ([] : List Int).length 0]) hs hw Try.zeroValue32 rfl rfl trivial ?_
  intro b8 a w hs hw
  refine wpList_nil ?_
  refine then_normal ?_
  refine wp_seq ?_
  refine wp_region_lit ?_
  refine st_val hs (y_fieldAddr (o' := 5) Try.runUnderlying32 rfl Try.sizeOf3 rfl rfl rfl) trivial rfl rfl fun a hs => ?_
  refine st_val hs (y_loadB1 (hw.ownAt 1 rfl) rfl Try.isAgg3 rfl) trivial rfl rfl fun a hs => ?_
  refine st_val hs (y_move rfl) trivial rfl rfl fun a hs => ?_
  refine st_val hs (y_add rfl rfl) trivial rfl rfl fun a hs => ?_
  refine st_val hs (y_fieldAddr (o' := 5) Try.runUnderlying32 rfl Try.sizeOf3 rfl rfl rfl) trivial rfl rfl fun a hs => ?_
  refine w_store (m := 1) (cs' := [.string r1.Source.Network, .string r1.Source.Station, .string r1.Source.Location, .string r1.Source.Channel, .int .i64 r1.Start, .int .i64 (w64 (r1.First + from5)), .int .i64 r1.Rate.Num, .int .i64 r1.Rate.Den, .int .i64 r1.Error, .int .i64 r1.Run, .int .i64 r1.Seq, .slice p2 r1.Samples.length k3]) hs hw 1 rfl rfl rfl Try.sizeOf3 rfl rfl rfl rfl trivial ?_
  intro a w hs hw
  refine wpList_nil ?_
  refine then_normal ?_
  refine wp_seq ?_
  refine wp_region_lit ?_
  refine st_val hs (y_fieldAddr (o' := 11) Try.runUnderlying32 rfl Try.sizeOf22 rfl rfl rfl) trivial rfl rfl fun a hs => ?_
  refine st_val hs (y_loadB1 (hw.ownAt 1 rfl) rfl Try.isAgg22 rfl) trivial rfl rfl fun a hs => ?_
  refine st_val hs (y_move rfl) trivial rfl rfl fun a hs => ?_
  refine st_val hs (y_move rfl) trivial rfl rfl fun a hs => ?_
  obtain ⟨l14, h9, hsh⟩ := bind_t hsh
  obtain ⟨p12, k13, h10, h11⟩ := sub_env (hw.envAt 0 rfl) h9
  have hw := hw.addE h10
  refine st_val hs (y_slc Try.runUnderlying22 Try.sizeOf3 rfl ⟨_, rfl⟩ ⟨_, rfl⟩ h11) trivial rfl rfl fun a hs => ?_
  obtain ⟨rv16, h15, hsh⟩ := bind_t hsh
  refine st_callR hs (slices_Clone_Lint_int_ok h15 hw.dom (hw.envAt 0 rfl)) (do_call Try.call64 rfl) trivial rfl rfl ?_
  intro v25 Sv22 w a h23 h24 hs
  obtain ⟨p17, k18, c19, rfl, h20, h21⟩ := h24
  have hw := hw.callF h23 h20
  have hw := hw.addE (e := RowA c19 rv16) h21
  refine st_val hs (y_fieldAddr (o' := 11) Try.runUnderlying32 rfl Try.sizeOf22 rfl rfl rfl) trivial rfl rfl fun a hs => ?_
  refine w_store (m := 1) (cs' := [.string r1.Source.Network, .string r1.Source.Station, .string r1.Source.Location, .string r1.Source.Channel, .int .i64 r1.Start, .int .i64 (w64 (r1.First + from5)), .int .i64 r1.Rate.Num, .int .i64 r1.Rate.Den, .int .i64 r1.Error, .int .i64 r1.Run, .int .i64 r1.Seq, .slice p17 rv16.length k18]) hs hw 2 rfl rfl rfl Try.sizeOf22 rfl rfl rfl rfl trivial ?_
  intro a w hs hw
  refine wpList_nil ?_
  refine then_normal ?_
  refine wp_seq ?_
  refine wp_region_lit ?_
  refine st_val hs (y_loadBA (hw.ownAt 2 rfl) rfl Try.isAgg32 Try.sizeOf32 rfl rfl) trivial rfl rfl fun a hs => ?_
  refine w_store (m := 12) (cs' := [.string r1.Source.Network, .string r1.Source.Station, .string r1.Source.Location, .string r1.Source.Channel, .int .i64 r1.Start, .int .i64 (w64 (r1.First + from5)), .int .i64 r1.Rate.Num, .int .i64 r1.Rate.Den, .int .i64 r1.Error, .int .i64 r1.Run, .int .i64 r1.Seq, .slice p17 rv16.length k18]) hs hw 1 rfl rfl rfl Try.sizeOf32 rfl rfl rfl rfl trivial ?_
  intro a w hs hw
  refine wpList_nil ?_
  refine then_normal ?_
  have hsh := Option.some.inj hsh
  subst hsh
  refine wp_ret ?_
  exact ret1 hs rfl (rv_cell hw 1 rfl rfl Try.isAgg32 Try.sizeOf32 rfl) (hw.ret ⟨p17, k18, c19, rfl, (hw.freshOf 0 rfl (.inl rfl)), (hw.envAt 0 rfl)⟩)

abbrev record_Sub_rd (w0 : World) (r : (Record × Int)) : (Nat → Prop) → World → Value → Prop := fun S w v => ∃ (p0_11 : Option Addr) (k0_11 : Nat) (c0_11 : List Value), v = .tuple #[.agg #[.string r.1.Source.Network, .string r.1.Source.Station, .string r.1.Source.Location, .string r.1.Source.Channel, .int .i64 r.1.Start, .int .i64 r.1.First, .int .i64 r.1.Rate.Num, .int .i64 r.1.Rate.Den, .int .i64 r.1.Error, .int .i64 r.1.Run, .int .i64 r.1.Seq, .slice p0_11 r.1.Samples.length k0_11], .int .i64 r.2] ∧ Fresh w0 S w (.row p0_11 r.1.Samples.length k0_11 c0_11 3 1) ∧ (RowA c0_11 r.1.Samples).p S w
set_option maxHeartbeats 4000000 in
set_option maxRecDepth 100000 in
theorem record_Sub_ok {w0 : World} {S0 : Nat → Prop} {p2 : Option Addr} {k3 : Nat} {r1 : Record} {from5 : Int} {to6 : Int} {r : (Record × Int)} (hsh : record_Sub r1 from5 to6 = some r) (hS : ∀ b, S0 b → b < w0.heap.size) (h4 : (SlA p2 r1.Samples.length k3 r1.Samples).p S0 w0) : Calls Try.prog 12 #[.agg #[.string r1.Source.Network, .string r1.Source.Station, .string r1.Source.Location, .string r1.Source.Channel, .int .i64 r1.Start, .int .i64 r1.First, .int .i64 r1.Rate.Num, .int .i64 r1.Rate.Den, .int .i64 r1.Error, .int .i64 r1.Run, .int .i64 r1.Seq, .slice p2 r1.Samples.length k3], .int .i64 from5, .int .i64 to6] w0 (Ret [] w0 S0 (record_Sub_rd w0 r)) := by
  refine calls_of_wp Try.func12 rfl ?_
  have hs := Sl.enter #[.agg #[.string r1.Source.Network, .string r1.Source.Station, .string r1.Source.Location, .string r1.Source.Channel, .int .i64 r1.Start, .int .i64 r1.First, .int .i64 r1.Rate.Num, .int .i64 r1.Rate.Den, .int .i64 r1.Error, .int .i64 r1.Run, .int .i64 r1.Seq, .slice p2 r1.Samples.length k3], .int .i64 from5, .int .i64 to6] 31 [(0, .agg #[.string r1.Source.Network, .string r1.Source.Station, .string r1.Source.Location, .string r1.Source.Channel, .int .i64 r1.Start, .int .i64 r1.First, .int .i64 r1.Rate.Num, .int .i64 r1.Rate.Den, .int .i64 r1.Error, .int .i64 r1.Run, .int .i64 r1.Seq, .slice p2 r1.Samples.length k3]), (1, .int .i64 from5), (2, .int .i64 to6)] rfl ⟨rfl, rfl, rfl, trivial⟩
  have hw := Wd.enter (E := []) hS (fun _ h => (by cases h))
  have hw := hw.addE h4
  delta record_Sub at hsh
  refine wp_seq ?_
  refine wp_region_lit ?_
  refine w_box (cs := [.string r1.Source.Network, .string r1.Source.Station, .string r1.Source.Location, .string r1.Source.Channel, .int .i64 r1.Start, .int .i64 r1.First, .int .i64 r1.Rate.Num, .int .i64 r1.Rate.Den, .int .i64 r1.Error, .int .i64 r1.Run, .int .i64 r1.Seq, .slice p2 r1.Samples.length k3]) hs hw rfl rfl rfl trivial ?_
  intro b7 a w hs hw
  refine w_alloc (cs := [.string ByteArray.empty, .string ByteArray.empty, .string ByteArray.empty, .string ByteArray.empty, .int .i64 0, .int .i64 0, .int .i64 0, .int .i64 0, .int .i64 0, .int .i64 0, .int .i64 0, .slice none ([] : List Int).length 0]) hs hw Try.zeroValue32 rfl rfl trivial ?_
  intro b8 a w hs hw
  refine st_val hs (y_assign rfl) trivial rfl rfl fun a hs => ?_
  refine wpList_nil ?_
  refine then_normal ?_
  refine wp_seq ?_
  refine wp_seq ?_
  refine wp_region_lit ?_
  refine st_val hs (y_loadBA (hw.ownAt 1 rfl) rfl Try.isAgg32 Try.sizeOf32 rfl rfl) trivial rfl rfl fun a hs => ?_
  obtain ⟨rv10, h9, hsh⟩ := bind_t hsh
  refine st_callR hs (record_Valid_ok h9 hw.dom (hw.envAt 0 rfl)) (do_call Try.call26 rfl) trivial rfl rfl ?_
  intro v14 Sv11 w a h12 h13 hs
  subst h13
  have hw := hw.call h12
  refine st_val hs (y_not rfl) trivial rfl rfl fun a hs => ?_
  refine wpList_nil ?_
  refine then_normal ?_
  refine wp_cond_split (hs.ev rfl) (fun h16 => ?_) (fun h16 => ?_)
  · have hsh := ite_t hsh h16
    refine wp_seq ?_
    refine wp_region_lit ?_
    refine st_val hs (y_build (vs := []) Bld32 rfl rfl) trivial rfl rfl fun a hs => ?_
    refine w_store (m := 12) (cs' := [.string ByteArray.empty, .string ByteArray.empty, .string ByteArray.empty, .string ByteArray.empty, .int .i64 0, .int .i64 0, .int .i64 0, .int .i64 0, .int .i64 0, .int .i64 0, .int .i64 0, .slice none ([] : List Int).length 0]) hs hw 0 rfl rfl rfl Try.sizeOf32 rfl rfl rfl rfl trivial ?_
    intro a w hs hw
    refine st_val hs (y_assign rfl) trivial rfl rfl fun a hs => ?_
    refine wpList_nil ?_
    refine then_normal ?_
    have hsh := Option.some.inj hsh
    subst hsh
    have hw := hw.nilRow Int 3
    refine wp_ret ?_
    refine then_ret ?_
    exact ret2 hs rfl (rv_cell hw 1 rfl rfl Try.isAgg32 Try.sizeOf32 rfl) (rv_tmp rfl) (hw.ret ⟨none, 0, [], rfl, (hw.freshOf 0 rfl (.inl rfl)), (hw.envAt 0 rfl)⟩)
  · have hsh := ite_f hsh h16
    refine wp_skip ?_
    refine then_normal ?_
    refine wp_seq ?_
    refine wp_seq ?_
    refine wp_region_lit ?_
    refine st_val hs (y_move rfl) trivial rfl rfl fun a hs => ?_
    refine st_val hs (y_lss rfl rfl) trivial rfl rfl fun a hs => ?_
    refine st_val hs (y_move rfl) trivial rfl rfl fun a hs => ?_
    refine wpl_join 4 (fun a w1 => w = w1 ∧ Sl 31 [(1, .int .i64 from5), (2, .int .i64 to6), (3, .pointer (some ⟨b7, 0, none⟩)), (6, .pointer (some ⟨b8, 0, none⟩)), (18, .bool ((decide (from5 < 0)) || (decide (to6 ≤ from5))))] a) ?_ ?_
    · rcases Bool.eq_false_or_eq_true (decide (from5 < 0)) with h17 | h17
      · have hs := hs.fix 14 (.bool true) rfl (vb h17)
        refine st_skip hs rfl rfl rfl rfl rfl fun a hs => ?_
        refine st_skip hs rfl rfl rfl rfl rfl fun a hs => ?_
        refine st_skip hs rfl rfl rfl rfl rfl fun a hs => ?_
        refine st_val hs (y_pickT rfl rfl) trivial rfl rfl fun a hs => ?_
        refine wpList_nil ?_
        refine then_normal ?_
        exact ⟨rfl, (hs.fix 18 (.bool ((decide (from5 < 0)) || (decide (to6 ≤ from5)))) rfl (or_t h17)).weaken _ ⟨rfl, rfl, rfl, rfl, rfl, trivial⟩⟩
      · have hs := hs.fix 14 (.bool false) rfl (vb h17)
        refine st_val hs (y_move rfl) ⟨_, rfl, rfl⟩ rfl rfl fun a hs => ?_
        refine st_val hs (y_move rfl) ⟨_, rfl, rfl⟩ rfl rfl fun a hs => ?_
        refine st_val hs (y_geq rfl rfl) ⟨_, rfl, rfl⟩ rfl rfl fun a hs => ?_
        refine st_val hs (y_pickF rfl rfl) trivial rfl rfl fun a hs => ?_
        refine wpList_nil ?_
        refine then_normal ?_
        exact ⟨rfl, (hs.fix 18 (.bool ((decide (from5 < 0)) || (decide (to6 ≤ from5)))) rfl (or_f h17)).weaken _ ⟨rfl, rfl, rfl, rfl, rfl, trivial⟩⟩
    · rintro a w1 ⟨h33, hs⟩
      subst h33
      refine st_val hs (y_move rfl) trivial rfl rfl fun a hs => ?_
      refine wpl_join 6 (fun a w1 => w = w1 ∧ Sl 31 [(1, .int .i64 from5), (2, .int .i64 to6), (3, .pointer (some ⟨b7, 0, none⟩)), (6, .pointer (some ⟨b8, 0, none⟩)), (25, .bool (((decide (from5 < 0)) || (decide (to6 ≤ from5))) || (decide ((r1.Samples.length : Int) < to6))))] a) ?_ ?_
      · rcases Bool.eq_false_or_eq_true ((decide (from5 < 0)) || (decide (to6 ≤ from5))) with h18 | h18
        · have hs := hs.fix 19 (.bool true) rfl (vb h18)
          refine st_skip hs rfl rfl rfl rfl rfl fun a hs => ?_
          refine st_skip hs rfl rfl rfl rfl rfl fun a hs => ?_
          refine st_skip hs rfl rfl rfl rfl rfl fun a hs => ?_
          refine st_skip hs rfl rfl rfl rfl rfl fun a hs => ?_
          refine st_skip hs rfl rfl rfl rfl rfl fun a hs => ?_
          refine st_val hs (y_pickT rfl rfl) trivial rfl rfl fun a hs => ?_
          refine wpList_nil ?_
          refine then_normal ?_
          exact ⟨rfl, (hs.fix 25 (.bool (((decide (from5 < 0)) || (decide (to6 ≤ from5))) || (decide ((r1.Samples.length : Int) < to6)))) rfl (or_t h18)).weaken _ ⟨rfl, rfl, rfl, rfl, rfl, trivial⟩⟩
        · have hs := hs.fix 19 (.bool false) rfl (vb h18)
          refine st_val hs (y_move rfl) ⟨_, rfl, rfl⟩ rfl rfl fun a hs => ?_
          refine st_val hs (y_fieldAddr (o' := 11) Try.runUnderlying32 rfl Try.sizeOf22 rfl rfl rfl) ⟨_, rfl, rfl⟩ rfl rfl fun a hs => ?_
          refine st_val hs (y_loadB1 (hw.ownAt 1 rfl) rfl Try.isAgg22 rfl) ⟨_, rfl, rfl⟩ rfl rfl fun a hs => ?_
          refine st_val hs (y_len Try.runUnderlying22 rfl) ⟨_, rfl, rfl⟩ rfl rfl fun a hs => ?_
          refine st_val hs (y_gtr rfl rfl) ⟨_, rfl, rfl⟩ rfl rfl fun a hs => ?_
          refine st_val hs (y_pickF rfl rfl) trivial rfl rfl fun a hs => ?_
          refine wpList_nil ?_
          refine then_normal ?_
          exact ⟨rfl, (hs.fix 25 (.bool (((decide (from5 < 0)) || (decide (to6 ≤ from5))) || (decide ((r1.Samples.length : Int) < to6)))) rfl (or_f h18)).weaken _ ⟨rfl, rfl, rfl, rfl, rfl, trivial⟩⟩
      · rintro a w1 ⟨h32, hs⟩
        subst h32
        refine wpList_nil ?_
        refine then_normal ?_
        refine wp_cond_split (hs.ev rfl) (fun h20 => ?_) (fun h20 => ?_)
        · have hsh := ite_t hsh h20
          refine wp_seq ?_
          refine wp_region_lit ?_
          refine st_val hs (y_build (vs := []) Bld32 rfl rfl) trivial rfl rfl fun a hs => ?_
          refine w_store (m := 12) (cs' := [.string ByteArray.empty, .string ByteArray.empty, .string ByteArray.empty, .string ByteArray.empty, .int .i64 0, .int .i64 0, .int .i64 0, .int .i64 0, .int .i64 0, .int .i64 0, .int .i64 0, .slice none ([] : List Int).length 0]) hs hw 0 rfl rfl rfl Try.sizeOf32 rfl rfl rfl rfl trivial ?_
          intro a w hs hw
          refine st_val hs (y_assign rfl) trivial rfl rfl fun a hs => ?_
          refine wpList_nil ?_
          refine then_normal ?_
          have hsh := Option.some.inj hsh
          subst hsh
          have hw := hw.nilRow Int 3
          refine wp_ret ?_
          refine then_ret ?_
          exact ret2 hs rfl (rv_cell hw 1 rfl rfl Try.isAgg32 Try.sizeOf32 rfl) (rv_tmp rfl) (hw.ret ⟨none, 0, [], rfl, (hw.freshOf 0 rfl (.inl rfl)), (hw.envAt 0 rfl)⟩)
        · have hsh := ite_f hsh h20
          refine wp_skip ?_
          refine then_normal ?_
          refine wp_seq ?_
          refine wp_region_lit ?_
          refine st_val hs (y_loadBA (hw.ownAt 1 rfl) rfl Try.isAgg32 Try.sizeOf32 rfl rfl) trivial rfl rfl fun a hs => ?_
          refine st_val hs (y_move rfl) trivial rfl rfl fun a hs => ?_
          refine st_val hs (y_move rfl) trivial rfl rfl fun a hs => ?_
          obtain ⟨rv22, h21, hsh⟩ := bind_t hsh
          refine st_callR hs (record_sub_ok h21 hw.dom (hw.envAt 0 rfl)) (do_call Try.call37 rfl) trivial rfl rfl ?_
          intro v31 Sv28 w a h29 h30 hs
          obtain ⟨p23, k24, c25, rfl, h26, h27⟩ := h30
          have hw := hw.callF h29 h26
          have hw := hw.addE (e := RowA c25 rv22.Samples) h27
          refine w_store (m := 12) (cs' := [.string rv22.Source.Network, .string rv22.Source.Station, .string rv22.Source.Location, .string rv22.Source.Channel, .int .i64 rv22.Start, .int .i64 rv22.First, .int .i64 rv22.Rate.Num, .int .i64 rv22.Rate.Den, .int .i64 rv22.Error, .int .i64 rv22.Run, .int .i64 rv22.Seq, .slice p23 rv22.Samples.length k24]) hs hw 1 rfl rfl rfl Try.sizeOf32 rfl rfl rfl rfl trivial ?_
          intro a w hs hw
          refine st_val hs (y_assign rfl) trivial rfl rfl fun a hs => ?_
          refine wpList_nil ?_
          refine then_normal ?_
          have hsh := Option.some.inj hsh
          subst hsh
          refine wp_ret ?_
          exact ret2 hs rfl (rv_cell hw 1 rfl rfl Try.isAgg32 Try.sizeOf32 rfl) (rv_tmp rfl) (hw.ret ⟨p23, k24, c25, rfl, (hw.freshOf 0 rfl (.inl rfl)), (hw.envAt 0 rfl)⟩)

abbrev record_At_rd (w0 : World) (r : (Int × Int)) : (Nat → Prop) → World → Value → Prop := fun S w v => v = .tuple #[.int .i64 r.1, .int .i64 r.2]
set_option maxHeartbeats 4000000 in
set_option maxRecDepth 100000 in
theorem record_At_ok {w0 : World} {S0 : Nat → Prop} {p2 : Option Addr} {k3 : Nat} {r1 : Record} {i5 : Int} {r : (Int × Int)} (hsh : record_At r1 i5 = some r) (hS : ∀ b, S0 b → b < w0.heap.size) (h4 : (SlA p2 r1.Samples.length k3 r1.Samples).p S0 w0) : Calls Try.prog 15 #[.agg #[.string r1.Source.Network, .string r1.Source.Station, .string r1.Source.Location, .string r1.Source.Channel, .int .i64 r1.Start, .int .i64 r1.First, .int .i64 r1.Rate.Num, .int .i64 r1.Rate.Den, .int .i64 r1.Error, .int .i64 r1.Run, .int .i64 r1.Seq, .slice p2 r1.Samples.length k3], .int .i64 i5] w0 (Ret [] w0 S0 (record_At_rd w0 r)) := by
  refine calls_of_wp Try.func15 rfl ?_
  have hs := Sl.enter #[.agg #[.string r1.Source.Network, .string r1.Source.Station, .string r1.Source.Location, .string r1.Source.Channel, .int .i64 r1.Start, .int .i64 r1.First, .int .i64 r1.Rate.Num, .int .i64 r1.Rate.Den, .int .i64 r1.Error, .int .i64 r1.Run, .int .i64 r1.Seq, .slice p2 r1.Samples.length k3], .int .i64 i5] 18 [(0, .agg #[.string r1.Source.Network, .string r1.Source.Station, .string r1.Source.Location, .string r1.Source.Channel, .int .i64 r1.Start, .int .i64 r1.First, .int .i64 r1.Rate.Num, .int .i64 r1.Rate.Den, .int .i64 r1.Error, .int .i64 r1.Run, .int .i64 r1.Seq, .slice p2 r1.Samples.length k3]), (1, .int .i64 i5)] rfl ⟨rfl, rfl, trivial⟩
  have hw := Wd.enter (E := []) hS (fun _ h => (by cases h))
  have hw := hw.addE h4
  delta record_At at hsh
  refine wp_seq ?_
  refine wp_region_lit ?_
  refine w_box (cs := [.string r1.Source.Network, .string r1.Source.Station, .string r1.Source.Location, .string r1.Source.Channel, .int .i64 r1.Start, .int .i64 r1.First, .int .i64 r1.Rate.Num, .int .i64 r1.Rate.Den, .int .i64 r1.Error, .int .i64 r1.Run, .int .i64 r1.Seq, .slice p2 r1.Samples.length k3]) hs hw rfl rfl rfl trivial ?_
  intro b6 a w hs hw
  refine st_val hs (y_assign rfl) trivial rfl rfl fun a hs => ?_
  refine st_val hs (y_assign rfl) trivial rfl rfl fun a hs => ?_
  refine wpList_nil ?_
  refine then_normal ?_
  refine wp_seq ?_
  refine wp_seq ?_
  refine wp_region_lit ?_
  refine st_val hs (y_loadBA (hw.ownAt 0 rfl) rfl Try.isAgg32 Try.sizeOf32 rfl rfl) trivial rfl rfl fun a hs => ?_
  obtain ⟨rv8, h7, hsh⟩ := bind_t hsh
  refine st_callR hs (record_Valid_ok h7 hw.dom (hw.envAt 0 rfl)) (do_call Try.call26 rfl) trivial rfl rfl ?_
  intro v12 Sv9 w a h10 h11 hs
  subst h11
  have hw := hw.call h10
  refine st_val hs (y_not rfl) trivial rfl rfl fun a hs => ?_
  refine wpList_nil ?_
  refine then_normal ?_
  refine wp_cond_split (hs.ev rfl) (fun h14 => ?_) (fun h14 => ?_)
  · have hsh := ite_t hsh h14
    refine wp_seq ?_
    refine wp_region_lit ?_
    refine st_val hs (y_assign rfl) trivial rfl rfl fun a hs => ?_
    refine st_val hs (y_assign rfl) trivial rfl rfl fun a hs => ?_
    refine wpList_nil ?_
    refine then_normal ?_
    have hsh := Option.some.inj hsh
    subst hsh
    refine wp_ret ?_
    refine then_ret ?_
    exact ret2 hs rfl (rv_tmp rfl) (rv_tmp rfl) (hw.ret rfl)
  · have hsh := ite_f hsh h14
    refine wp_skip ?_
    refine then_normal ?_
    refine wp_seq ?_
    refine wp_seq ?_
    refine wp_region_lit ?_
    refine st_val hs (y_move rfl) trivial rfl rfl fun a hs => ?_
    refine st_val hs (y_fieldAddr (o' := 11) Try.runUnderlying32 rfl Try.sizeOf22 rfl rfl rfl) trivial rfl rfl fun a hs => ?_
    refine st_val hs (y_loadB1 (hw.ownAt 0 rfl) rfl Try.isAgg22 rfl) trivial rfl rfl fun a hs => ?_
    refine st_val hs (y_len Try.runUnderlying22 rfl) trivial rfl rfl fun a hs => ?_
    obtain ⟨rv16, h15, hsh⟩ := bind_t hsh
    refine st_callR hs (record_in_ok h15 hw.dom) (do_call Try.call39 rfl) trivial rfl rfl ?_
    intro v20 Sv17 w a h18 h19 hs
    subst h19
    have hw := hw.call h18
    refine st_val hs (y_not rfl) trivial rfl rfl fun a hs => ?_
    refine wpList_nil ?_
    refine then_normal ?_
    refine wp_cond_split (hs.ev rfl) (fun h22 => ?_) (fun h22 => ?_)
    · have hsh := ite_t hsh h22
      refine wp_seq ?_
      refine wp_region_lit ?_
      refine st_val hs (y_assign rfl) trivial rfl rfl fun a hs => ?_
      refine st_val hs (y_assign rfl) trivial rfl rfl fun a hs => ?_
      refine wpList_nil ?_
      refine then_normal ?_
      have hsh := Option.some.inj hsh
      subst hsh
      refine wp_ret ?_
      refine then_ret ?_
      exact ret2 hs rfl (rv_tmp rfl) (rv_tmp rfl) (hw.ret rfl)
    · have hsh := ite_f hsh h22
      refine wp_skip ?_
      refine then_normal ?_
      refine wp_seq ?_
      refine wp_region_lit ?_
      refine st_val hs (y_loadBA (hw.ownAt 0 rfl) rfl Try.isAgg32 Try.sizeOf32 rfl rfl) trivial rfl rfl fun a hs => ?_
      refine st_val hs (y_move rfl) trivial rfl rfl fun a hs => ?_
      obtain ⟨rv24, h23, hsh⟩ := bind_t hsh
      refine st_callR hs (record_time_ok h23 hw.dom (hw.envAt 0 rfl)) (do_call Try.call38 rfl) trivial rfl rfl ?_
      intro v28 Sv25 w a h26 h27 hs
      subst h27
      have hw := hw.call h26
      refine st_val hs (y_assign rfl) trivial rfl rfl fun a hs => ?_
      refine st_val hs (y_assign rfl) trivial rfl rfl fun a hs => ?_
      refine wpList_nil ?_
      refine then_normal ?_
      have hsh := Option.some.inj hsh
      subst hsh
      refine wp_ret ?_
      exact ret2 hs rfl (rv_tmp rfl) (rv_tmp rfl) (hw.ret rfl)

abbrev law14_sane_rd (w0 : World) (r : Bool) : (Nat → Prop) → World → Value → Prop := fun S w v => v = .bool r
set_option maxHeartbeats 4000000 in
set_option maxRecDepth 100000 in
theorem law14_sane_ok {w0 : World} {S0 : Nat → Prop} {r : Bool} (hsh : law14_sane = some r) (hS : ∀ b, S0 b → b < w0.heap.size) : Calls Try.prog 8 #[] w0 (Ret [] w0 S0 (law14_sane_rd w0 r)) := by
  refine calls_of_wp Try.func8 rfl ?_
  have hs := Sl.enter #[] 65 [] rfl trivial
  have hw := Wd.enter (E := []) hS (fun _ h => (by cases h))
  delta law14_sane at hsh
  refine wp_seq ?_
  refine wp_region_lit ?_
  refine st_val hs (y_assign rfl) trivial rfl rfl fun a hs => ?_
  refine wpList_nil ?_
  refine then_normal ?_
  refine wp_seq ?_
  refine wp_region_lit ?_
  refine st_val hs (y_build (vs := [(0, .string (⟨#[65]⟩ : ByteArray)), (1, .string (⟨#[66]⟩ : ByteArray)), (3, .string (⟨#[72, 72, 90]⟩ : ByteArray))]) Bld28 rfl rfl) trivial rfl rfl fun a hs => ?_
  refine st_val hs (y_build (vs := [(0, .int .i64 3), (1, .int .i64 1)]) Bld30 rfl rfl) trivial rfl rfl fun a hs => ?_
  refine w_litSlice (α := Int) (vs := [.int .i64 1, .int .i64 2, .int .i64 3, .int .i64 4]) (cs := [.int .i64 1, .int .i64 2, .int .i64 3, .int .i64 4]) (xs := ([1, 2, 3, 4] : List Int)) hs hw El22 rfl rfl rfl rfl rfl rfl ⟨⟨_, rfl, rfl⟩, ⟨⟨_, rfl, rfl⟩, ⟨⟨_, rfl, rfl⟩, ⟨⟨_, rfl, rfl⟩, rfl⟩⟩⟩⟩ rfl trivial rfl fun b2 a w hs hw => ?_
  refine st_val hs (y_build (vs := [(0, .agg #[.string (⟨#[65]⟩ : ByteArray), .string (⟨#[66]⟩ : ByteArray), .string ByteArray.empty, .string (⟨#[72, 72, 90]⟩ : ByteArray)]), (3, .agg #[.int .i64 3, .int .i64 1]), (7, .slice (some ⟨b2, 0, none⟩) ([1, 2, 3, 4] : List Int).length ([1, 2, 3, 4] : List Int).length)]) Bld32 rfl rfl) trivial rfl rfl fun a hs => ?_
  refine w_alloc (cs := [.string ByteArray.empty, .string ByteArray.empty, .string ByteArray.empty, .string ByteArray.empty, .int .i64 0, .int .i64 0, .int .i64 0, .int .i64 0, .int .i64 0, .int .i64 0, .int .i64 0, .slice none ([] : List Int).length 0]) hs hw Try.zeroValue32 rfl rfl trivial ?_
  intro b3 a w hs hw
  refine w_store (m := 12) (cs' := [.string (⟨#[65]⟩ : ByteArray), .string (⟨#[66]⟩ : ByteArray), .string ByteArray.empty, .string (⟨#[72, 72, 90]⟩ : ByteArray), .int .i64 0, .int .i64 0, .int .i64 3, .int .i64 1, .int .i64 0, .int .i64 0, .int .i64 0, .slice (some ⟨b2, 0, none⟩) ([1, 2, 3, 4] : List Int).length ([1, 2, 3, 4] : List Int).length]) hs hw 0 rfl rfl rfl Try.sizeOf32 rfl rfl rfl rfl trivial ?_
  intro a w hs hw
  refine wpList_nil ?_
  refine then_normal ?_
  refine wp_seq ?_
  refine wp_region_lit ?_
  refine st_val hs (y_loadBA (hw.ownAt 0 rfl) rfl Try.isAgg32 Try.sizeOf32 rfl rfl) trivial rfl rfl fun a hs => ?_
  obtain ⟨rv5, h4, hsh⟩ := bind_t hsh
  obtain ⟨Sv6, hw⟩ := w_share (α := Int) hw 1 rfl 0 rfl (.inl rfl)
  refine st_callR hs (record_Span_ok h4 hw.dom (hw.envAt 0 rfl)) (do_call Try.call13 rfl) trivial rfl rfl ?_
  intro v10 Sv7 w a h8 h9 hs
  subst h9
  have hw := hw.call h8
  refine st_val hs (y_move rfl) trivial rfl rfl fun a hs => ?_
  refine st_val hs (y_extract rfl rfl) trivial rfl rfl fun a hs => ?_
  refine st_val hs (y_extract rfl rfl) trivial rfl rfl fun a hs => ?_
  refine w_alloc (cs := [.int .i64 0, .int .i64 0]) hs hw Try.zeroValue39 rfl rfl trivial ?_
  intro b11 a w hs hw
  refine w_store (m := 2) (cs' := [.int .i64 rv5.1.From, .int .i64 rv5.1.To]) hs hw 0 rfl rfl rfl Try.sizeOf39 rfl rfl rfl rfl trivial ?_
  intro a w hs hw
  refine st_val hs (y_assign rfl) trivial rfl rfl fun a hs => ?_
  refine wpList_nil ?_
  refine then_normal ?_
  refine wp_seq ?_
  refine wp_region_lit ?_
  refine st_val hs (y_loadBA (hw.ownAt 1 rfl) rfl Try.isAgg32 Try.sizeOf32 rfl rfl) trivial rfl rfl fun a hs => ?_
  obtain ⟨rv13, h12, hsh⟩ := bind_t hsh
  refine st_callR hs (record_Sub_ok h12 hw.dom (hw.envAt 0 rfl)) (do_call Try.call12 rfl) trivial rfl rfl ?_
  intro v22 Sv19 w a h20 h21 hs
  obtain ⟨p14, k15, c16, rfl, h17, h18⟩ := h21
  have hw := hw.callF h20 h17
  have hw := hw.addE (e := RowA c16 rv13.1.Samples) h18
  refine st_val hs (y_move rfl) trivial rfl rfl fun a hs => ?_
  refine st_val hs (y_extract rfl rfl) trivial rfl rfl fun a hs => ?_
  refine st_val hs (y_extract rfl rfl) trivial rfl rfl fun a hs => ?_
  refine w_alloc (cs := [.string ByteArray.empty, .string ByteArray.empty, .string ByteArray.empty, .string ByteArray.empty, .int .i64 0, .int .i64 0, .int .i64 0, .int .i64 0, .int .i64 0, .int .i64 0, .int .i64 0, .slice none ([] : List Int).length 0]) hs hw Try.zeroValue32 rfl rfl trivial ?_
  intro b23 a w hs hw
  refine w_store (m := 12) (cs' := [.string rv13.1.Source.Network, .string rv13.1.Source.Station, .string rv13.1.Source.Location, .string rv13.1.Source.Channel, .int .i64 rv13.1.Start, .int .i64 rv13.1.First, .int .i64 rv13.1.Rate.Num, .int .i64 rv13.1.Rate.Den, .int .i64 rv13.1.Error, .int .i64 rv13.1.Run, .int .i64 rv13.1.Seq, .slice p14 rv13.1.Samples.length k15]) hs hw 0 rfl rfl rfl Try.sizeOf32 rfl rfl rfl rfl trivial ?_
  intro a w hs hw
  refine st_val hs (y_assign rfl) trivial rfl rfl fun a hs => ?_
  refine wpList_nil ?_
  refine then_normal ?_
  refine wp_seq ?_
  refine wp_region_lit ?_
  refine st_val hs (y_loadBA (hw.ownAt 3 rfl) rfl Try.isAgg32 Try.sizeOf32 rfl rfl) trivial rfl rfl fun a hs => ?_
  obtain ⟨rv25, h24, hsh⟩ := bind_t hsh
  refine st_callR hs (record_At_ok h24 hw.dom (hw.envAt 1 rfl)) (do_call Try.call15 rfl) trivial rfl rfl ?_
  intro v29 Sv26 w a h27 h28 hs
  subst h28
  have hw := hw.call h27
  refine st_val hs (y_move rfl) trivial rfl rfl fun a hs => ?_
  refine st_val hs (y_extract rfl rfl) trivial rfl rfl fun a hs => ?_
  refine st_val hs (y_extract rfl rfl) trivial rfl rfl fun a hs => ?_
  refine st_val hs (y_assign rfl) trivial rfl rfl fun a hs => ?_
  refine st_val hs (y_assign rfl) trivial rfl rfl fun a hs => ?_
  refine wpList_nil ?_
  refine then_normal ?_
  refine wp_seq ?_
  refine wp_region_lit ?_
  refine st_val hs (y_loadBA (hw.ownAt 0 rfl) rfl Try.isAgg32 Try.sizeOf32 rfl rfl) trivial rfl rfl fun a hs => ?_
  obtain ⟨rv31, h30, hsh⟩ := bind_t hsh
  obtain ⟨Sv32, hw⟩ := w_share (α := Int) hw 1 rfl 0 rfl (.inl rfl)
  refine st_callR hs (record_At_ok h30 hw.dom (hw.envAt 0 rfl)) (do_call Try.call15 rfl) trivial rfl rfl ?_
  intro v36 Sv33 w a h34 h35 hs
  subst h35
  have hw := hw.call h34
  refine st_val hs (y_move rfl) trivial rfl rfl fun a hs => ?_
  refine st_val hs (y_extract rfl rfl) trivial rfl rfl fun a hs => ?_
  refine st_val hs (y_extract rfl rfl) trivial rfl rfl fun a hs => ?_
  refine st_val hs (y_assign rfl) trivial rfl rfl fun a hs => ?_
  refine st_val hs (y_assign rfl) trivial rfl rfl fun a hs => ?_
  refine wpList_nil ?_
  refine then_normal ?_
  refine wp_seq ?_
  refine wp_region_lit ?_
  refine st_val hs (y_move rfl) trivial rfl rfl fun a hs => ?_
  refine st_val hs (y_eql rfl rfl) trivial rfl rfl fun a hs => ?_
  refine st_val hs (y_move rfl) trivial rfl rfl fun a hs => ?_
  refine wpl_join 3 (fun a w1 => w = w1 ∧ Sl 65 [(1, .pointer (some ⟨b3, 0, none⟩)), (2, .pointer (some ⟨b11, 0, none⟩)), (6, .int .i64 rv25.1), (7, .int .i64 rv25.2), (8, .int .i64 rv31.1), (9, .int .i64 rv31.2), (39, .bool ((rv5.2 == 0) && (rv13.2 == 0)))] a) ?_ ?_
  · rcases Bool.eq_false_or_eq_true (rv5.2 == 0) with h37 | h37
    · have hs := hs.fix 36 (.bool true) rfl (vb h37)
      refine st_val hs (y_move rfl) ⟨_, rfl, rfl⟩ rfl rfl fun a hs => ?_
      refine st_val hs (y_eql rfl rfl) ⟨_, rfl, rfl⟩ rfl rfl fun a hs => ?_
      refine st_val hs (y_pickT rfl rfl) trivial rfl rfl fun a hs => ?_
      refine wpList_nil ?_
      refine then_normal ?_
      exact ⟨rfl, (hs.fix 39 (.bool ((rv5.2 == 0) && (rv13.2 == 0))) rfl (and_t h37)).weaken _ ⟨rfl, rfl, rfl, rfl, rfl, rfl, rfl, trivial⟩⟩
    · have hs := hs.fix 36 (.bool false) rfl (vb h37)
      refine st_skip hs rfl rfl rfl rfl rfl fun a hs => ?_
      refine st_skip hs rfl rfl rfl rfl rfl fun a hs => ?_
      refine st_val hs (y_pickF rfl rfl) trivial rfl rfl fun a hs => ?_
      refine wpList_nil ?_
      refine then_normal ?_
      exact ⟨rfl, (hs.fix 39 (.bool ((rv5.2 == 0) && (rv13.2 == 0))) rfl (and_f h37)).weaken _ ⟨rfl, rfl, rfl, rfl, rfl, rfl, rfl, trivial⟩⟩
  · rintro a w1 ⟨h63, hs⟩
    subst h63
    refine st_val hs (y_move rfl) trivial rfl rfl fun a hs => ?_
    refine wpl_join 3 (fun a w1 => w = w1 ∧ Sl 65 [(1, .pointer (some ⟨b3, 0, none⟩)), (2, .pointer (some ⟨b11, 0, none⟩)), (6, .int .i64 rv25.1), (8, .int .i64 rv31.1), (9, .int .i64 rv31.2), (43, .bool (((rv5.2 == 0) && (rv13.2 == 0)) && (rv25.2 == 0)))] a) ?_ ?_
    · rcases Bool.eq_false_or_eq_true ((rv5.2 == 0) && (rv13.2 == 0)) with h38 | h38
      · have hs := hs.fix 40 (.bool true) rfl (vb h38)
        refine st_val hs (y_move rfl) ⟨_, rfl, rfl⟩ rfl rfl fun a hs => ?_
        refine st_val hs (y_eql rfl rfl) ⟨_, rfl, rfl⟩ rfl rfl fun a hs => ?_
        refine st_val hs (y_pickT rfl rfl) trivial rfl rfl fun a hs => ?_
        refine wpList_nil ?_
        refine then_normal ?_
        exact ⟨rfl, (hs.fix 43 (.bool (((rv5.2 == 0) && (rv13.2 == 0)) && (rv25.2 == 0))) rfl (and_t h38)).weaken _ ⟨rfl, rfl, rfl, rfl, rfl, rfl, trivial⟩⟩
      · have hs := hs.fix 40 (.bool false) rfl (vb h38)
        refine st_skip hs rfl rfl rfl rfl rfl fun a hs => ?_
        refine st_skip hs rfl rfl rfl rfl rfl fun a hs => ?_
        refine st_val hs (y_pickF rfl rfl) trivial rfl rfl fun a hs => ?_
        refine wpList_nil ?_
        refine then_normal ?_
        exact ⟨rfl, (hs.fix 43 (.bool (((rv5.2 == 0) && (rv13.2 == 0)) && (rv25.2 == 0))) rfl (and_f h38)).weaken _ ⟨rfl, rfl, rfl, rfl, rfl, rfl, trivial⟩⟩
    · rintro a w1 ⟨h62, hs⟩
      subst h62
      refine st_val hs (y_move rfl) trivial rfl rfl fun a hs => ?_
      refine wpl_join 3 (fun a w1 => w = w1 ∧ Sl 65 [(1, .pointer (some ⟨b3, 0, none⟩)), (2, .pointer (some ⟨b11, 0, none⟩)), (6, .int .i64 rv25.1), (8, .int .i64 rv31.1), (47, .bool ((((rv5.2 == 0) && (rv13.2 == 0)) && (rv25.2 == 0)) && (rv31.2 == 0)))] a) ?_ ?_
      · rcases Bool.eq_false_or_eq_true (((rv5.2 == 0) && (rv13.2 == 0)) && (rv25.2 == 0)) with h39 | h39
        · have hs := hs.fix 44 (.bool true) rfl (vb h39)
          refine st_val hs (y_move rfl) ⟨_, rfl, rfl⟩ rfl rfl fun a hs => ?_
          refine st_val hs (y_eql rfl rfl) ⟨_, rfl, rfl⟩ rfl rfl fun a hs => ?_
          refine st_val hs (y_pickT rfl rfl) trivial rfl rfl fun a hs => ?_
          refine wpList_nil ?_
          refine then_normal ?_
          exact ⟨rfl, (hs.fix 47 (.bool ((((rv5.2 == 0) && (rv13.2 == 0)) && (rv25.2 == 0)) && (rv31.2 == 0))) rfl (and_t h39)).weaken _ ⟨rfl, rfl, rfl, rfl, rfl, trivial⟩⟩
        · have hs := hs.fix 44 (.bool false) rfl (vb h39)
          refine st_skip hs rfl rfl rfl rfl rfl fun a hs => ?_
          refine st_skip hs rfl rfl rfl rfl rfl fun a hs => ?_
          refine st_val hs (y_pickF rfl rfl) trivial rfl rfl fun a hs => ?_
          refine wpList_nil ?_
          refine then_normal ?_
          exact ⟨rfl, (hs.fix 47 (.bool ((((rv5.2 == 0) && (rv13.2 == 0)) && (rv25.2 == 0)) && (rv31.2 == 0))) rfl (and_f h39)).weaken _ ⟨rfl, rfl, rfl, rfl, rfl, trivial⟩⟩
      · rintro a w1 ⟨h61, hs⟩
        subst h61
        refine st_val hs (y_move rfl) trivial rfl rfl fun a hs => ?_
        refine wpl_join 4 (fun a w1 => w = w1 ∧ Sl 65 [(1, .pointer (some ⟨b3, 0, none⟩)), (6, .int .i64 rv25.1), (8, .int .i64 rv31.1), (52, .bool (((((rv5.2 == 0) && (rv13.2 == 0)) && (rv25.2 == 0)) && (rv31.2 == 0)) && ((rv5.1.From == 0) && ((rv5.1.To == 1333333) && true))))] a) ?_ ?_
        · rcases Bool.eq_false_or_eq_true ((((rv5.2 == 0) && (rv13.2 == 0)) && (rv25.2 == 0)) && (rv31.2 == 0)) with h40 | h40
          · have hs := hs.fix 48 (.bool true) rfl (vb h40)
            refine st_val hs (y_loadBA (hw.ownAt 1 rfl) rfl Try.isAgg39 Try.sizeOf39 rfl rfl) ⟨_, rfl, rfl⟩ rfl rfl fun a hs => ?_
            refine st_val hs (y_build (vs := [(1, .int .i64 1333333)]) Bld39 rfl rfl) ⟨_, rfl, rfl⟩ rfl rfl fun a hs => ?_
            refine st_val hs (y_eqlA (by kernel_rfl) rfl rfl (eqv_struct Try.runUnderlying39 (by kernel_rfl) (EqF.cons1 rfl Try.isAgg3 rfl rfl (eqv_int Try.runUnderlying3) (EqF.cons1 rfl Try.isAgg3 rfl rfl (eqv_int Try.runUnderlying3) EqF.nil)))) ⟨_, rfl, rfl⟩ rfl rfl fun a hs => ?_
            refine st_val hs (y_pickT rfl rfl) trivial rfl rfl fun a hs => ?_
            refine wpList_nil ?_
            refine then_normal ?_
            exact ⟨rfl, (hs.fix 52 (.bool (((((rv5.2 == 0) && (rv13.2 == 0)) && (rv25.2 == 0)) && (rv31.2 == 0)) && ((rv5.1.From == 0) && ((rv5.1.To == 1333333) && true)))) rfl (and_t h40)).weaken _ ⟨rfl, rfl, rfl, rfl, trivial⟩⟩
          · have hs := hs.fix 48 (.bool false) rfl (vb h40)
            refine st_skip hs rfl rfl rfl rfl rfl fun a hs => ?_
            refine st_skip hs rfl rfl rfl rfl rfl fun a hs => ?_
            refine st_skip hs rfl rfl rfl rfl rfl fun a hs => ?_
            refine st_val hs (y_pickF rfl rfl) trivial rfl rfl fun a hs => ?_
            refine wpList_nil ?_
            refine then_normal ?_
            exact ⟨rfl, (hs.fix 52 (.bool (((((rv5.2 == 0) && (rv13.2 == 0)) && (rv25.2 == 0)) && (rv31.2 == 0)) && ((rv5.1.From == 0) && ((rv5.1.To == 1333333) && true)))) rfl (and_f h40)).weaken _ ⟨rfl, rfl, rfl, rfl, trivial⟩⟩
        · rintro a w1 ⟨h60, hs⟩
          subst h60
          refine st_val hs (y_move rfl) trivial rfl rfl fun a hs => ?_
          refine wpl_join 3 (fun a w1 => w = w1 ∧ Sl 65 [(1, .pointer (some ⟨b3, 0, none⟩)), (8, .int .i64 rv31.1), (56, .bool ((((((rv5.2 == 0) && (rv13.2 == 0)) && (rv25.2 == 0)) && (rv31.2 == 0)) && ((rv5.1.From == 0) && ((rv5.1.To == 1333333) && true))) && (rv25.1 == 666666)))] a) ?_ ?_
          · rcases Bool.eq_false_or_eq_true (((((rv5.2 == 0) && (rv13.2 == 0)) && (rv25.2 == 0)) && (rv31.2 == 0)) && ((rv5.1.From == 0) && ((rv5.1.To == 1333333) && true))) with h41 | h41
            · have hs := hs.fix 53 (.bool true) rfl (vb h41)
              refine st_val hs (y_move rfl) ⟨_, rfl, rfl⟩ rfl rfl fun a hs => ?_
              refine st_val hs (y_eql rfl rfl) ⟨_, rfl, rfl⟩ rfl rfl fun a hs => ?_
              refine st_val hs (y_pickT rfl rfl) trivial rfl rfl fun a hs => ?_
              refine wpList_nil ?_
              refine then_normal ?_
              exact ⟨rfl, (hs.fix 56 (.bool ((((((rv5.2 == 0) && (rv13.2 == 0)) && (rv25.2 == 0)) && (rv31.2 == 0)) && ((rv5.1.From == 0) && ((rv5.1.To == 1333333) && true))) && (rv25.1 == 666666))) rfl (and_t h41)).weaken _ ⟨rfl, rfl, rfl, trivial⟩⟩
            · have hs := hs.fix 53 (.bool false) rfl (vb h41)
              refine st_skip hs rfl rfl rfl rfl rfl fun a hs => ?_
              refine st_skip hs rfl rfl rfl rfl rfl fun a hs => ?_
              refine st_val hs (y_pickF rfl rfl) trivial rfl rfl fun a hs => ?_
              refine wpList_nil ?_
              refine then_normal ?_
              exact ⟨rfl, (hs.fix 56 (.bool ((((((rv5.2 == 0) && (rv13.2 == 0)) && (rv25.2 == 0)) && (rv31.2 == 0)) && ((rv5.1.From == 0) && ((rv5.1.To == 1333333) && true))) && (rv25.1 == 666666))) rfl (and_f h41)).weaken _ ⟨rfl, rfl, rfl, trivial⟩⟩
          · rintro a w1 ⟨h59, hs⟩
            subst h59
            refine st_val hs (y_move rfl) trivial rfl rfl fun a hs => ?_
            refine wpl_join 3 (fun a w1 => w = w1 ∧ Sl 65 [(1, .pointer (some ⟨b3, 0, none⟩)), (60, .bool (((((((rv5.2 == 0) && (rv13.2 == 0)) && (rv25.2 == 0)) && (rv31.2 == 0)) && ((rv5.1.From == 0) && ((rv5.1.To == 1333333) && true))) && (rv25.1 == 666666)) && (rv31.1 == 666666)))] a) ?_ ?_
            · rcases Bool.eq_false_or_eq_true ((((((rv5.2 == 0) && (rv13.2 == 0)) && (rv25.2 == 0)) && (rv31.2 == 0)) && ((rv5.1.From == 0) && ((rv5.1.To == 1333333) && true))) && (rv25.1 == 666666)) with h42 | h42
              · have hs := hs.fix 57 (.bool true) rfl (vb h42)
                refine st_val hs (y_move rfl) ⟨_, rfl, rfl⟩ rfl rfl fun a hs => ?_
                refine st_val hs (y_eql rfl rfl) ⟨_, rfl, rfl⟩ rfl rfl fun a hs => ?_
                refine st_val hs (y_pickT rfl rfl) trivial rfl rfl fun a hs => ?_
                refine wpList_nil ?_
                refine then_normal ?_
                exact ⟨rfl, (hs.fix 60 (.bool (((((((rv5.2 == 0) && (rv13.2 == 0)) && (rv25.2 == 0)) && (rv31.2 == 0)) && ((rv5.1.From == 0) && ((rv5.1.To == 1333333) && true))) && (rv25.1 == 666666)) && (rv31.1 == 666666))) rfl (and_t h42)).weaken _ ⟨rfl, rfl, trivial⟩⟩
              · have hs := hs.fix 57 (.bool false) rfl (vb h42)
                refine st_skip hs rfl rfl rfl rfl rfl fun a hs => ?_
                refine st_skip hs rfl rfl rfl rfl rfl fun a hs => ?_
                refine st_val hs (y_pickF rfl rfl) trivial rfl rfl fun a hs => ?_
                refine wpList_nil ?_
                refine then_normal ?_
                exact ⟨rfl, (hs.fix 60 (.bool (((((((rv5.2 == 0) && (rv13.2 == 0)) && (rv25.2 == 0)) && (rv31.2 == 0)) && ((rv5.1.From == 0) && ((rv5.1.To == 1333333) && true))) && (rv25.1 == 666666)) && (rv31.1 == 666666))) rfl (and_f h42)).weaken _ ⟨rfl, rfl, trivial⟩⟩
            · rintro a w1 ⟨h58, hs⟩
              subst h58
              refine st_val hs (y_move rfl) trivial rfl rfl fun a hs => ?_
              obtain ⟨c50, hc50, hsh⟩ := bind_t hsh
              refine wpl_join 3 (fun a w => ∃ (Sv51 : Nat → Prop), Sl 65 [(64, .bool c50)] a ∧ Wd ⟨w0, S0, []⟩ Sv51 [] [] w) ?_ ?_
              · rcases Bool.eq_false_or_eq_true (((((((rv5.2 == 0) && (rv13.2 == 0)) && (rv25.2 == 0)) && (rv31.2 == 0)) && ((rv5.1.From == 0) && ((rv5.1.To == 1333333) && true))) && (rv25.1 == 666666)) && (rv31.1 == 666666)) with h49 | h49
                · have hs := hs.fix 61 (.bool true) rfl (vb h49)
                  have hsh := ite_t hc50 h49
                  refine st_val hs (y_loadBA (hw.ownAt 2 rfl) rfl Try.isAgg32 Try.sizeOf32 rfl rfl) ⟨_, rfl, rfl⟩ rfl rfl fun a hs => ?_
                  obtain ⟨rv53, h52, hsh⟩ := bind_t hsh
                  refine st_callR hs (record_Valid_ok h52 hw.dom (hw.envAt 2 rfl)) (do_call Try.call26 rfl) ⟨_, rfl, rfl⟩ rfl rfl ?_
                  intro v57 Sv54 w a h55 h56 hs
                  subst h56
                  have hw := hw.call h55
                  refine st_val hs (y_pickT rfl rfl) trivial rfl rfl fun a hs => ?_
                  refine wpList_nil ?_
                  have hsh := Option.some.inj hsh
                  subst hsh
                  refine then_normal ?_
                  exact ⟨Sv54, (hs.wk rfl), (hw.ft [] [] (by decide) rfl rfl)⟩
                · have hs := hs.fix 61 (.bool false) rfl (vb h49)
                  have hsh := ite_f hc50 h49
                  refine st_skip hs rfl rfl rfl rfl rfl fun a hs => ?_
                  refine st_skip hs rfl rfl rfl rfl rfl fun a hs => ?_
                  refine st_val hs (y_pickF rfl rfl) trivial rfl rfl fun a hs => ?_
                  refine wpList_nil ?_
                  have hsh := Option.some.inj hsh
                  subst hsh
                  refine then_normal ?_
                  exact ⟨Sv33, (hs.wk rfl), (hw.ft [] [] (by decide) rfl rfl)⟩
              · rintro a w ⟨Sv51, hs, hw⟩
                refine st_val hs (y_assign rfl) trivial rfl rfl fun a hs => ?_
                refine wpList_nil ?_
                refine then_normal ?_
                have hsh := Option.some.inj hsh
                subst hsh
                refine wp_ret ?_
                exact ret1 hs rfl (rv_tmp rfl) (hw.ret rfl)

abbrev made_Roll_rd (w0 : World) (r : Dice) : (Nat → Prop) → World → Value → Prop := fun S w v => ∃ (b_0 : Nat) (p0_0 : Option Addr) (k0_0 : Nat), v = .pointer (some ⟨b_0, 0, none⟩) ∧ Fresh w0 S w (.box b_0 [.slice p0_0 r.L.length k0_0, .int .i64 r.At] 60) ∧ (SlA p0_0 r.L.length k0_0 r.L).p S w
set_option maxHeartbeats 4000000 in
set_option maxRecDepth 100000 in
theorem made_Roll_ok {w0 : World} {S0 : Nat → Prop} {p2 : Option Addr} {k3 : Nat} {l1 : (List Int)} {r : Dice} (hsh : made_Roll l1 = some r) (hS : ∀ b, S0 b → b < w0.heap.size) (h4 : (SlA p2 l1.length k3 l1).p S0 w0) : Calls Try.prog 9 #[.slice p2 l1.length k3] w0 (Ret [] w0 S0 (made_Roll_rd w0 r)) := by
  refine calls_of_wp Try.func9 rfl ?_
  have hs := Sl.enter #[.slice p2 l1.length k3] 6 [(0, .slice p2 l1.length k3)] rfl ⟨rfl, trivial⟩
  have hw := Wd.enter (E := []) hS (fun _ h => (by cases h))
  have hw := hw.addE h4
  delta made_Roll at hsh
  refine wp_seq ?_
  refine wp_region_lit ?_
  refine st_val hs (y_assign rfl) trivial rfl rfl fun a hs => ?_
  refine wpList_nil ?_
  refine then_normal ?_
  refine wp_seq ?_
  refine wp_region_lit ?_
  refine st_val hs (y_move rfl) trivial rfl rfl fun a hs => ?_
  refine st_val hs (y_build (vs := [(0, .slice p2 l1.length k3)]) Bld60 rfl rfl) trivial rfl rfl fun a hs => ?_
  refine w_box (cs := [.slice p2 l1.length k3, .int .i64 0]) hs hw rfl rfl rfl trivial ?_
  intro b5 a w hs hw
  refine st_val hs (y_assign rfl) trivial rfl rfl fun a hs => ?_
  refine wpList_nil ?_
  refine then_normal ?_
  have hsh := Option.some.inj hsh
  subst hsh
  refine wp_ret ?_
  exact ret1 hs rfl (rv_tmp rfl) (hw.ret ⟨b5, p2, k3, rfl, (hw.freshOf 0 rfl (.inl rfl)), (hw.envAt 0 rfl)⟩)

abbrev made_Dice_Next_rd (w0 : World) (bd : Nat) (r : (Int × Dice)) : (Nat → Prop) → World → Value → Prop := fun S w v => ∃ (q0_0 : Option Addr) (m0_0 : Nat), v = .int .i64 r.1 ∧ w.heap[bd]? = some (.cells #[.slice q0_0 r.2.L.length m0_0, .int .i64 r.2.At] 60 (0, 0)) ∧ (SlA q0_0 r.2.L.length m0_0 r.2.L).p S w
set_option maxHeartbeats 4000000 in
set_option maxRecDepth 100000 in
theorem made_Dice_Next_ok {w0 : World} {S0 : Nat → Prop} {b2 : Nat} {p3 : Option Addr} {k4 : Nat} {d1 : Dice} {n8 : Int} {r : (Int × Dice)} (hsh : made_Dice_Next d1 n8 = some r) (hS : ∀ b, S0 b → b < w0.heap.size) (h5 : w0.heap[b2]? = some (.cells #[.slice p3 d1.L.length k4, .int .i64 d1.At] 60 (0, 0))) (h6 : ¬ S0 b2) (h7 : (SlA p3 d1.L.length k4 d1.L).p S0 w0) : Calls Try.prog 16 #[.pointer (some ⟨b2, 0, none⟩), .int .i64 n8] w0 (Ret [b2] w0 S0 (made_Dice_Next_rd w0 b2 r)) := by
  refine calls_of_wp Try.func16 rfl ?_
  have hs := Sl.enter #[.pointer (some ⟨b2, 0, none⟩), .int .i64 n8] 45 [(0, .pointer (some ⟨b2, 0, none⟩)), (1, .int .i64 n8)] rfl ⟨rfl, rfl, trivial⟩
  have hw := Wd.enter1 (E := []) hS h5 h6 (fun _ h => (by cases h))
  have hw := hw.addE h7
  delta made_Dice_Next at hsh
  refine wp_seq ?_
  refine wp_region_lit ?_
  refine st_val hs (y_assign rfl) trivial rfl rfl fun a hs => ?_
  refine wpList_nil ?_
  refine then_normal ?_
  refine wp_seq ?_
  refine wp_seq ?_
  refine wp_only (fun a w => ∃ (Sv9 : Nat → Prop), Sl 45 [(0, .pointer (some ⟨b2, 0, none⟩)), (1, .int .i64 n8), (19, .bool ((decide ((d1.L.length : Int) ≤ d1.At)) || (decide (n8 < 1))))] a ∧ Wd ⟨w0, S0, [b2]⟩ Sv9 [.box b2 [.slice p3 d1.L.length k4, .int .i64 d1.At] 60] [SlA p3 d1.L.length k4 d1.L] w) ?_ ?_
  · rcases Bool.eq_false_or_eq_true (decide ((d1.L.length : Int) ≤ d1.At)) with h10 | h10
    · refine h_begin (C := Cls [.box b2 [.slice p3 d1.L.length k4, .int .i64 d1.At] 60] []) (by kernel_rfl) rfl ?_
      have hw := hw.drew
      have hC : Cls [.box b2 [.slice p3 d1.L.length k4, .int .i64 d1.At] 60] [] _ := hw.cs [0] [] rfl rfl
      refine h_get hs (i := 0) rfl (by kernel_rfl) rfl rfl hC rfl (fun w hC => y_move rfl) fun a hs => ?_
      refine h_get hs (i := 1) rfl (by kernel_rfl) rfl rfl hC rfl (fun w hC => y_nilCheck rfl) fun a hs => ?_
      refine h_get hs (i := 2) rfl (by kernel_rfl) rfl rfl hC rfl (fun w hC => y_fieldAddr (o' := 1) Try.runUnderlying60 rfl Try.sizeOf3 rfl rfl rfl) fun a hs => ?_
      refine h_get hs (i := 3) rfl (by kernel_rfl) rfl rfl hC rfl (fun w hC => y_loadB1 (hC.ownAt 0 rfl) rfl Try.isAgg3 rfl) fun a hs => ?_
      refine h_get hs (i := 4) rfl (by kernel_rfl) rfl rfl hC rfl (fun w hC => y_move rfl) fun a hs => ?_
      refine h_get hs (i := 5) rfl (by kernel_rfl) rfl rfl hC rfl (fun w hC => y_nilCheck rfl) fun a hs => ?_
      refine h_get hs (i := 6) rfl (by kernel_rfl) rfl rfl hC rfl (fun w hC => y_fieldAddr (o' := 0) Try.runUnderlying60 rfl Try.sizeOf22 rfl rfl rfl) fun a hs => ?_
      refine h_get hs (i := 7) rfl (by kernel_rfl) rfl rfl hC rfl (fun w hC => y_loadB1 (hC.ownAt 0 rfl) rfl Try.isAgg22 rfl) fun a hs => ?_
      refine h_get hs (i := 8) rfl (by kernel_rfl) rfl rfl hC rfl (fun w hC => y_len Try.runUnderlying22 rfl) fun a hs => ?_
      refine h_get hs (i := 9) rfl (by kernel_rfl) rfl rfl hC rfl (fun w hC => y_geq rfl rfl) fun a hs => ?_
      refine h_get hs (i := 10) rfl (by kernel_rfl) rfl rfl hC rfl (fun w hC => y_move rfl) fun a hs => ?_
      have hs := hs.fix 16 (.bool true) rfl (vb h10)
      refine h_skip hs (i := 11) rfl (by kernel_rfl) (by kernel_rfl) (by kernel_rfl) rfl rfl rfl (by first | exact .inl rfl | exact .inr rfl) rfl rfl hC fun a hs => ?_
      refine h_skip hs (i := 12) rfl (by kernel_rfl) (by kernel_rfl) (by kernel_rfl) rfl rfl rfl (by first | exact .inl rfl | exact .inr rfl) rfl rfl hC fun a hs => ?_
      refine h_get hs (i := 13) rfl (by kernel_rfl) rfl rfl hC rfl (fun w hC => y_pickTE (v := .bool ((decide ((d1.L.length : Int) ≤ d1.At)) || (decide (n8 < 1)))) rfl rfl (or_t h10)) fun a hs => ?_
      refine h_done (by kernel_rfl) ?_
      exact ⟨S0, (hs.wk rfl), (hw.ft [0] [0] (by decide) rfl rfl)⟩
    · refine h_begin (C := Cls [.box b2 [.slice p3 d1.L.length k4, .int .i64 d1.At] 60] []) (by kernel_rfl) rfl ?_
      have hw := hw.drew
      have hC : Cls [.box b2 [.slice p3 d1.L.length k4, .int .i64 d1.At] 60] [] _ := hw.cs [0] [] rfl rfl
      refine h_get hs (i := 0) rfl (by kernel_rfl) rfl rfl hC rfl (fun w hC => y_move rfl) fun a hs => ?_
      refine h_get hs (i := 1) rfl (by kernel_rfl) rfl rfl hC rfl (fun w hC => y_nilCheck rfl) fun a hs => ?_
      refine h_get hs (i := 2) rfl (by kernel_rfl) rfl rfl hC rfl (fun w hC => y_fieldAddr (o' := 1) Try.runUnderlying60 rfl Try.sizeOf3 rfl rfl rfl) fun a hs => ?_
      refine h_get hs (i := 3) rfl (by kernel_rfl) rfl rfl hC rfl (fun w hC => y_loadB1 (hC.ownAt 0 rfl) rfl Try.isAgg3 rfl) fun a hs => ?_
      refine h_get hs (i := 4) rfl (by kernel_rfl) rfl rfl hC rfl (fun w hC => y_move rfl) fun a hs => ?_
      refine h_get hs (i := 5) rfl (by kernel_rfl) rfl rfl hC rfl (fun w hC => y_nilCheck rfl) fun a hs => ?_
      refine h_get hs (i := 6) rfl (by kernel_rfl) rfl rfl hC rfl (fun w hC => y_fieldAddr (o' := 0) Try.runUnderlying60 rfl Try.sizeOf22 rfl rfl rfl) fun a hs => ?_
      refine h_get hs (i := 7) rfl (by kernel_rfl) rfl rfl hC rfl (fun w hC => y_loadB1 (hC.ownAt 0 rfl) rfl Try.isAgg22 rfl) fun a hs => ?_
      refine h_get hs (i := 8) rfl (by kernel_rfl) rfl rfl hC rfl (fun w hC => y_len Try.runUnderlying22 rfl) fun a hs => ?_
      refine h_get hs (i := 9) rfl (by kernel_rfl) rfl rfl hC rfl (fun w hC => y_geq rfl rfl) fun a hs => ?_
      refine h_get hs (i := 10) rfl (by kernel_rfl) rfl rfl hC rfl (fun w hC => y_move rfl) fun a hs => ?_
      have hs := hs.fix 16 (.bool false) rfl (vb h10)
      refine h_take hs (i := 11) rfl (by kernel_rfl) (by kernel_rfl) (by kernel_rfl) ⟨_, rfl, rfl⟩ rfl rfl hC (fun w hC => y_move rfl) fun a hs => ?_
      refine h_take hs (i := 12) rfl (by kernel_rfl) (by kernel_rfl) (by kernel_rfl) ⟨_, rfl, rfl⟩ rfl rfl hC (fun w hC => y_lss rfl rfl) fun a hs => ?_
      refine h_get hs (i := 13) rfl (by kernel_rfl) rfl rfl hC rfl (fun w hC => y_pickFE (v := .bool ((decide ((d1.L.length : Int) ≤ d1.At)) || (decide (n8 < 1)))) rfl rfl (or_f h10)) fun a hs => ?_
      refine h_done (by kernel_rfl) ?_
      exact ⟨S0, (hs.wk rfl), (hw.ft [0] [0] (by decide) rfl rfl)⟩
  · rintro a w ⟨Sv9, hs, hw⟩
    refine then_normal ?_
    refine wp_cond_split (hs.ev rfl) (fun h14 => ?_) (fun h14 => ?_)
    · have hsh := ite_t hsh h14
      refine wp_seq ?_
      refine wp_region_lit ?_
      refine st_val hs (y_assign rfl) trivial rfl rfl fun a hs => ?_
      refine wpList_nil ?_
      refine then_normal ?_
      have hsh := Option.some.inj hsh
      subst hsh
      refine wp_ret ?_
      refine then_ret ?_
      exact ret1 hs rfl (rv_tmp rfl) (hw.ret ⟨p3, k4, rfl, (hw.ownAt 0 rfl), (hw.envAt 0 rfl)⟩)
    · have hsh := ite_f hsh h14
      refine wp_skip ?_
      refine then_normal ?_
      refine wp_seq ?_
      obtain ⟨x17, h15, hsh⟩ := bind_t hsh
      obtain ⟨b23, o24, q21, c22, h25, h18, h19, h20, h16⟩ := hw.elemV 0 rfl h15
      have hsv26 := hs
      have hwv27 := hw
      subst h25
      have hs := hsv26
      have hw := hwv27
      obtain ⟨_, rfl, rfl⟩ := h16
      have hw := hw.addE h20
      obtain ⟨rem29, h28, hsh⟩ := bind_t hsh
      refine wp_only (fun a w => ∃ (Sv30 : Nat → Prop), Sl 45 [(0, .pointer (some ⟨b2, 0, none⟩)), (1, .int .i64 n8), (5, .int .i64 rem29)] a ∧ Wd ⟨w0, S0, [b2]⟩ Sv30 [.box b2 [.slice (some ⟨b23, o24, none⟩) d1.L.length k4, .int .i64 d1.At] 60] [SlA (some ⟨b23, o24, none⟩) d1.L.length k4 d1.L] w) ?_ ?_
      · refine h_begin (C := Cls [.box b2 [.slice (some ⟨b23, o24, none⟩) d1.L.length k4, .int .i64 d1.At] 60] [CeA b23 q21 [.int .i64 x17]]) (by kernel_rfl) rfl ?_
        have hw := hw.drew
        have hC : Cls [.box b2 [.slice (some ⟨b23, o24, none⟩) d1.L.length k4, .int .i64 d1.At] 60] [CeA b23 q21 [.int .i64 x17]] _ := hw.cs [0] [0] rfl rfl
        refine h_get hs (i := 0) rfl (by kernel_rfl) rfl rfl hC rfl (fun w hC => y_move rfl) fun a hs => ?_
        refine h_get hs (i := 1) rfl (by kernel_rfl) rfl rfl hC rfl (fun w hC => y_nilCheck rfl) fun a hs => ?_
        refine h_get hs (i := 2) rfl (by kernel_rfl) rfl rfl hC rfl (fun w hC => y_fieldAddr (o' := 0) Try.runUnderlying60 rfl Try.sizeOf22 rfl rfl rfl) fun a hs => ?_
        refine h_get hs (i := 3) rfl (by kernel_rfl) rfl rfl hC rfl (fun w hC => y_loadB1 (hC.ownAt 0 rfl) rfl Try.isAgg22 rfl) fun a hs => ?_
        refine h_get hs (i := 4) rfl (by kernel_rfl) rfl rfl hC rfl (fun w hC => y_move rfl) fun a hs => ?_
        refine h_get hs (i := 5) rfl (by kernel_rfl) rfl rfl hC rfl (fun w hC => y_nilCheck rfl) fun a hs => ?_
        refine h_get hs (i := 6) rfl (by kernel_rfl) rfl rfl hC rfl (fun w hC => y_fieldAddr (o' := 1) Try.runUnderlying60 rfl Try.sizeOf3 rfl rfl rfl) fun a hs => ?_
        refine h_get hs (i := 7) rfl (by kernel_rfl) rfl rfl hC rfl (fun w hC => y_loadB1 (hC.ownAt 0 rfl) rfl Try.isAgg3 rfl) fun a hs => ?_
        refine h_get hs (i := 8) rfl (by kernel_rfl) rfl rfl hC rfl (fun w hC => y_indexAt Try.runUnderlying22 Try.sizeOf3 rfl rfl h18.1 h18.2 h19) fun a hs => ?_
        refine h_get hs (i := 9) rfl (by kernel_rfl) rfl rfl hC rfl (fun w hC => y_loadE1 (j := 0) (hC.ceAt 0 rfl) rfl Try.isAgg3 rfl) fun a hs => ?_
        refine h_get hs (i := 10) rfl (by kernel_rfl) rfl rfl hC rfl (fun w hC => y_move rfl) fun a hs => ?_
        refine h_get hs (i := 11) rfl (by kernel_rfl) rfl rfl hC rfl (fun w hC => y_remM rfl rfl h28) fun a hs => ?_
        refine h_get hs (i := 12) rfl (by kernel_rfl) rfl rfl hC rfl (fun w hC => y_assign rfl) fun a hs => ?_
        refine h_done (by kernel_rfl) ?_
        exact ⟨Sv9, (hs.wk rfl), (hw.ft [0] [1] (by decide) rfl rfl)⟩
      · rintro a w ⟨Sv30, hs, hw⟩
        refine then_normal ?_
        refine wp_seq ?_
        refine wp_region_lit ?_
        refine st_val hs (y_move rfl) trivial rfl rfl fun a hs => ?_
        refine st_val hs (y_nilCheck rfl) trivial rfl rfl fun a hs => ?_
        refine st_val hs (y_fieldAddr (o' := 1) Try.runUnderlying60 rfl Try.sizeOf3 rfl rfl rfl) trivial rfl rfl fun a hs => ?_
        refine st_val hs (y_loadB1 (hw.ownAt 0 rfl) rfl Try.isAgg3 rfl) trivial rfl rfl fun a hs => ?_
        refine st_val hs (y_add rfl rfl) trivial rfl rfl fun a hs => ?_
        refine st_val hs (y_nilCheck rfl) trivial rfl rfl fun a hs => ?_
        refine st_val hs (y_fieldAddr (o' := 1) Try.runUnderlying60 rfl Try.sizeOf3 rfl rfl rfl) trivial rfl rfl fun a hs => ?_
        refine w_store (m := 1) (cs' := [.slice (some ⟨b23, o24, none⟩) d1.L.length k4, .int .i64 (w64 (d1.At + 1))]) hs hw 0 rfl rfl rfl Try.sizeOf3 rfl rfl rfl rfl trivial ?_
        intro a w hs hw
        refine wpList_nil ?_
        refine then_normal ?_
        refine wp_seq ?_
        refine wp_seq ?_
        refine wp_region_lit ?_
        refine st_val hs (y_move rfl) trivial rfl rfl fun a hs => ?_
        refine st_val hs (y_lss rfl rfl) trivial rfl rfl fun a hs => ?_
        refine wpList_nil ?_
        refine then_normal ?_
        refine wp_join (fun a w => ∃ (x35 : Int) (Sv34 : Nat → Prop), made_Dice_Next_j1 d1 x35 = some r ∧ Sl 45 [(5, .int .i64 x35)] a ∧ Wd ⟨w0, S0, [b2]⟩ Sv34 [.box b2 [.slice (some ⟨b23, o24, none⟩) d1.L.length k4, .int .i64 (w64 (d1.At + 1))] 60] [SlA (some ⟨b23, o24, none⟩) d1.L.length k4 d1.L] w) ?_ ?_
        · refine wp_cond_split (hs.ev rfl) (fun h36 => ?_) (fun h36 => ?_)
          · have hsh := ite_t hsh h36
            refine wp_region_lit ?_
            refine st_val hs (y_move rfl) trivial rfl rfl fun a hs => ?_
            refine st_val hs (y_move rfl) trivial rfl rfl fun a hs => ?_
            refine st_val hs (y_add rfl rfl) trivial rfl rfl fun a hs => ?_
            obtain ⟨x38, h37, hsh⟩ := bind_t hsh
            refine st_val hs (y_assignI rfl h37) trivial rfl rfl fun a hs => ?_
            refine wpList_nil ?_
            refine then_normal ?_
            exact ⟨x38, Sv30, hsh, (hs.wk rfl), (hw.ft [0] [0] (by decide) rfl rfl)⟩
          · have hsh := ite_f hsh h36
            refine wp_skip ?_
            refine then_normal ?_
            exact ⟨rem29, Sv30, hsh, (hs.wk rfl), (hw.ft [0] [0] (by decide) rfl rfl)⟩
        · rintro a w ⟨x35, Sv34, hsh, hs, hw⟩
          delta made_Dice_Next_j1 at hsh
          refine then_normal ?_
          refine wp_seq ?_
          refine wp_region_lit ?_
          refine st_val hs (y_move rfl) trivial rfl rfl fun a hs => ?_
          refine st_val hs (y_assign rfl) trivial rfl rfl fun a hs => ?_
          refine wpList_nil ?_
          refine then_normal ?_
          have hsh := Option.some.inj hsh
          subst hsh
          refine wp_ret ?_
          exact ret1 hs rfl (rv_tmp rfl) (hw.ret ⟨(some ⟨b23, o24, none⟩), k4, rfl, (hw.ownAt 0 rfl), (hw.envAt 0 rfl)⟩)

abbrev made_Dice_Source_rd (w0 : World) (bd : Nat) (r : (SourceID × Dice)) : (Nat → Prop) → World → Value → Prop := fun S w v => ∃ (q0_0 : Option Addr) (m0_0 : Nat), v = .agg #[.string r.1.Network, .string r.1.Station, .string r.1.Location, .string r.1.Channel] ∧ w.heap[bd]? = some (.cells #[.slice q0_0 r.2.L.length m0_0, .int .i64 r.2.At] 60 (0, 0)) ∧ (SlA q0_0 r.2.L.length m0_0 r.2.L).p S w
abbrev D11t1 (b2 : Nat) (b8 : Nat) : Slots := [(0, .pointer (some ⟨b2, 0, none⟩)), (2, .pointer (some ⟨b8, 0, none⟩))]
abbrev D11t2 (b10 : Nat) (b2 : Nat) (b27 : Nat) (b44 : Nat) (b61 : Nat) (rv12 : (Int × Dice)) (rv29 : (Int × Dice)) (rv46 : (Int × Dice)) (rv63 : (Int × Dice)) (x19 : ByteArray) (x36 : ByteArray) (x53 : ByteArray) (x70 : ByteArray) : Vs := [(0, 3, .slice (some ⟨b10, 0, none⟩) ([(⟨#[71, 82]⟩ : ByteArray), (⟨#[88]⟩ : ByteArray), (⟨#[55, 65]⟩ : ByteArray)] : List ByteArray).length ([(⟨#[71, 82]⟩ : ByteArray), (⟨#[88]⟩ : ByteArray), (⟨#[55, 65]⟩ : ByteArray)] : List ByteArray).length), (1, 4, .pointer (some ⟨b2, 0, none⟩)), (2, 5, .int .i64 rv12.1), (3, 6, .pointer (some ⟨b10, (0 + (rv12.1).toNat * 1), none⟩)), (4, 7, .string x19), (5, 8, .slice (some ⟨b27, 0, none⟩) ([(⟨#[70, 85, 82]⟩ : ByteArray), (⟨#[65]⟩ : ByteArray), (⟨#[65, 66, 67, 68, 69]⟩ : ByteArray), (⟨#[70, 85]⟩ : ByteArray)] : List ByteArray).length ([(⟨#[70, 85, 82]⟩ : ByteArray), (⟨#[65]⟩ : ByteArray), (⟨#[65, 66, 67, 68, 69]⟩ : ByteArray), (⟨#[70, 85]⟩ : ByteArray)] : List ByteArray).length), (6, 9, .pointer (some ⟨b2, 0, none⟩)), (7, 10, .int .i64 rv29.1), (8, 11, .pointer (some ⟨b27, (0 + (rv29.1).toNat * 1), none⟩)), (9, 12, .string x36), (10, 13, .slice (some ⟨b44, 0, none⟩) ([(⟨#[]⟩ : ByteArray), (⟨#[48, 48]⟩ : ByteArray), (⟨#[49, 48]⟩ : ByteArray)] : List ByteArray).length ([(⟨#[]⟩ : ByteArray), (⟨#[48, 48]⟩ : ByteArray), (⟨#[49, 48]⟩ : ByteArray)] : List ByteArray).length), (11, 14, .pointer (some ⟨b2, 0, none⟩)), (12, 15, .int .i64 rv46.1), (13, 16, .pointer (some ⟨b44, (0 + (rv46.1).toNat * 1), none⟩)), (14, 17, .string x53), (15, 18, .slice (some ⟨b61, 0, none⟩) ([(⟨#[72, 72, 90]⟩ : ByteArray), (⟨#[72, 72, 78]⟩ : ByteArray), (⟨#[66, 72, 90]⟩ : ByteArray)] : List ByteArray).length ([(⟨#[72, 72, 90]⟩ : ByteArray), (⟨#[72, 72, 78]⟩ : ByteArray), (⟨#[66, 72, 90]⟩ : ByteArray)] : List ByteArray).length), (16, 19, .pointer (some ⟨b2, 0, none⟩)), (17, 20, .int .i64 rv63.1), (18, 21, .pointer (some ⟨b61, (0 + (rv63.1).toNat * 1), none⟩)), (19, 22, .string x70), (20, 23, .agg #[.string x19, .string x36, .string x53, .string x70])]
abbrev D11t3 : List Value := [.string (⟨#[71, 82]⟩ : ByteArray), .string (⟨#[88]⟩ : ByteArray), .string (⟨#[55, 65]⟩ : ByteArray)]
abbrev D11t4 : List ByteArray := ([(⟨#[71, 82]⟩ : ByteArray), (⟨#[88]⟩ : ByteArray), (⟨#[55, 65]⟩ : ByteArray)] : List ByteArray)
abbrev D11t5 : List Value := [.string (⟨#[70, 85, 82]⟩ : ByteArray), .string (⟨#[65]⟩ : ByteArray), .string (⟨#[65, 66, 67, 68, 69]⟩ : ByteArray), .string (⟨#[70, 85]⟩ : ByteArray)]
abbrev D11t6 : List ByteArray := ([(⟨#[70, 85, 82]⟩ : ByteArray), (⟨#[65]⟩ : ByteArray), (⟨#[65, 66, 67, 68, 69]⟩ : ByteArray), (⟨#[70, 85]⟩ : ByteArray)] : List ByteArray)
abbrev D11t7 : List Value := [.string (⟨#[]⟩ : ByteArray), .string (⟨#[48, 48]⟩ : ByteArray), .string (⟨#[49, 48]⟩ : ByteArray)]
abbrev D11t8 : List ByteArray := ([(⟨#[]⟩ : ByteArray), (⟨#[48, 48]⟩ : ByteArray), (⟨#[49, 48]⟩ : ByteArray)] : List ByteArray)
abbrev D11t9 : List Value := [.string (⟨#[72, 72, 90]⟩ : ByteArray), .string (⟨#[72, 72, 78]⟩ : ByteArray), .string (⟨#[66, 72, 90]⟩ : ByteArray)]
abbrev D11t10 : List ByteArray := ([(⟨#[72, 72, 90]⟩ : ByteArray), (⟨#[72, 72, 78]⟩ : ByteArray), (⟨#[66, 72, 90]⟩ : ByteArray)] : List ByteArray)
set_option maxHeartbeats 4000000 in
set_option maxRecDepth 100000 in
theorem made_Dice_Source_ok {w0 : World} {S0 : Nat → Prop} {b2 : Nat} {p3 : Option Addr} {k4 : Nat} {d1 : Dice} {r : (SourceID × Dice)} (hsh : made_Dice_Source d1 = some r) (hS : ∀ b, S0 b → b < w0.heap.size) (h5 : w0.heap[b2]? = some (.cells #[.slice p3 d1.L.length k4, .int .i64 d1.At] 60 (0, 0))) (h6 : ¬ S0 b2) (h7 : (SlA p3 d1.L.length k4 d1.L).p S0 w0) : Calls Try.prog 11 #[.pointer (some ⟨b2, 0, none⟩)] w0 (Ret [b2] w0 S0 (made_Dice_Source_rd w0 b2 r)) := by
  refine calls_of_wp Try.func11 rfl ?_
  have hs := Sl.enter #[.pointer (some ⟨b2, 0, none⟩)] 24 [(0, .pointer (some ⟨b2, 0, none⟩))] rfl ⟨rfl, trivial⟩
  have hw := Wd.enter1 (E := []) hS h5 h6 (fun _ h => (by cases h))
  have hw := hw.addE h7
  delta made_Dice_Source at hsh
  refine wp_seq ?_
  refine wp_region_lit ?_
  refine w_alloc (cs := [.string ByteArray.empty, .string ByteArray.empty, .string ByteArray.empty, .string ByteArray.empty]) hs hw Try.zeroValue28 rfl rfl trivial ?_
  intro b8 a w hs hw
  refine wpList_nil ?_
  refine then_normal ?_
  refine wp_seq ?_
  obtain ⟨rv12, h11, hsh⟩ := bind_t hsh
  obtain ⟨x19, h17, hsh⟩ := bind_t hsh
  obtain ⟨rv29, h28, hsh⟩ := bind_t hsh
  obtain ⟨x36, h34, hsh⟩ := bind_t hsh
  obtain ⟨rv46, h45, hsh⟩ := bind_t hsh
  obtain ⟨x53, h51, hsh⟩ := bind_t hsh
  obtain ⟨rv63, h62, hsh⟩ := bind_t hsh
  obtain ⟨x70, h68, hsh⟩ := bind_t hsh
  refine wp_only (fun a w => ∃ (Sv77 : Nat → Prop) (k66 : Nat) (p65 : Option Addr), Sl 24 [(2, .pointer (some ⟨b8, 0, none⟩))] a ∧ Wd ⟨w0, S0, [b2]⟩ Sv77 [.box b2 [.slice p65 rv63.2.L.length k66, .int .i64 rv63.2.At] 60, .box b8 [.string x19, .string x36, .string x53, .string x70] 28] [SlA p65 rv63.2.L.length k66 rv63.2.L] w) ?_ ?_
  · refine wp_region_phi (n := 22) (Φ := fun l a w => ∃ (b10 : Nat) (b27 : Nat) (b44 : Nat) (b61 : Nat) (k15 : Nat) (k32 : Nat) (k49 : Nat) (k66 : Nat) (p14 : Option Addr) (p31 : Option Addr) (p48 : Option Addr) (p65 : Option Addr) (S : Nat → Prop), SlF 24 (D11t1 b2 b8) (D11t2 b10 b2 b27 b44 b61 rv12 rv29 rv46 rv63 x19 x36 x53 x70) l a ∧ Wd ⟨w0, S0, [b2]⟩ S [((bif l 21 then .box b8 [.string x19, .string x36, .string x53, .string x70] 28 else .box b8 [.string ByteArray.empty, .string ByteArray.empty, .string ByteArray.empty, .string ByteArray.empty] 28) : Res), ((bif l 17 then .box b2 [.slice p65 rv63.2.L.length k66, .int .i64 rv63.2.At] 60 else (bif l 12 then .box b2 [.slice p48 rv46.2.L.length k49, .int .i64 rv46.2.At] 60 else (bif l 7 then .box b2 [.slice p31 rv29.2.L.length k32, .int .i64 rv29.2.At] 60 else (bif l 2 then .box b2 [.slice p14 rv12.2.L.length k15, .int .i64 rv12.2.At] 60 else .box b2 [.slice p3 d1.L.length k4, .int .i64 d1.At] 60)))) : Res), ((bif l 0 then .row (some ⟨b10, 0, none⟩) ([(⟨#[71, 82]⟩ : ByteArray), (⟨#[88]⟩ : ByteArray), (⟨#[55, 65]⟩ : ByteArray)] : List ByteArray).length ([(⟨#[71, 82]⟩ : ByteArray), (⟨#[88]⟩ : ByteArray), (⟨#[55, 65]⟩ : ByteArray)] : List ByteArray).length [.string (⟨#[71, 82]⟩ : ByteArray), .string (⟨#[88]⟩ : ByteArray), .string (⟨#[55, 65]⟩ : ByteArray)] 9 1 else emp) : Res), ((bif l 5 then .row (some ⟨b27, 0, none⟩) ([(⟨#[70, 85, 82]⟩ : ByteArray), (⟨#[65]⟩ : ByteArray), (⟨#[65, 66, 67, 68, 69]⟩ : ByteArray), (⟨#[70, 85]⟩ : ByteArray)] : List ByteArray).length ([(⟨#[70, 85, 82]⟩ : ByteArray), (⟨#[65]⟩ : ByteArray), (⟨#[65, 66, 67, 68, 69]⟩ : ByteArray), (⟨#[70, 85]⟩ : ByteArray)] : List ByteArray).length [.string (⟨#[70, 85, 82]⟩ : ByteArray), .string (⟨#[65]⟩ : ByteArray), .string (⟨#[65, 66, 67, 68, 69]⟩ : ByteArray), .string (⟨#[70, 85]⟩ : ByteArray)] 9 1 else emp) : Res), ((bif l 10 then .row (some ⟨b44, 0, none⟩) ([(⟨#[]⟩ : ByteArray), (⟨#[48, 48]⟩ : ByteArray), (⟨#[49, 48]⟩ : ByteArray)] : List ByteArray).length ([(⟨#[]⟩ : ByteArray), (⟨#[48, 48]⟩ : ByteArray), (⟨#[49, 48]⟩ : ByteArray)] : List ByteArray).length [.string (⟨#[]⟩ : ByteArray), .string (⟨#[48, 48]⟩ : ByteArray), .string (⟨#[49, 48]⟩ : ByteArray)] 9 1 else emp) : Res), ((bif l 15 then .row (some ⟨b61, 0, none⟩) ([(⟨#[72, 72, 90]⟩ : ByteArray), (⟨#[72, 72, 78]⟩ : ByteArray), (⟨#[66, 72, 90]⟩ : ByteArray)] : List ByteArray).length ([(⟨#[72, 72, 90]⟩ : ByteArray), (⟨#[72, 72, 78]⟩ : ByteArray), (⟨#[66, 72, 90]⟩ : ByteArray)] : List ByteArray).length [.string (⟨#[72, 72, 90]⟩ : ByteArray), .string (⟨#[72, 72, 78]⟩ : ByteArray), .string (⟨#[66, 72, 90]⟩ : ByteArray)] 9 1 else emp) : Res)] [SlA p3 d1.L.length k4 d1.L, optA (l 0) (RowA [.string (⟨#[71, 82]⟩ : ByteArray), .string (⟨#[88]⟩ : ByteArray), .string (⟨#[55, 65]⟩ : ByteArray)] ([(⟨#[71, 82]⟩ : ByteArray), (⟨#[88]⟩ : ByteArray), (⟨#[55, 65]⟩ : ByteArray)] : List ByteArray)), optA (l 2) (SlA p14 rv12.2.L.length k15 rv12.2.L), optA (l 5) (RowA [.string (⟨#[70, 85, 82]⟩ : ByteArray), .string (⟨#[65]⟩ : ByteArray), .string (⟨#[65, 66, 67, 68, 69]⟩ : ByteArray), .string (⟨#[70, 85]⟩ : ByteArray)] ([(⟨#[70, 85, 82]⟩ : ByteArray), (⟨#[65]⟩ : ByteArray), (⟨#[65, 66, 67, 68, 69]⟩ : ByteArray), (⟨#[70, 85]⟩ : ByteArray)] : List ByteArray)), optA (l 7) (SlA p31 rv29.2.L.length k32 rv29.2.L), optA (l 10) (RowA [.string (⟨#[]⟩ : ByteArray), .string (⟨#[48, 48]⟩ : ByteArray), .string (⟨#[49, 48]⟩ : ByteArray)] ([(⟨#[]⟩ : ByteArray), (⟨#[48, 48]⟩ : ByteArray), (⟨#[49, 48]⟩ : ByteArray)] : List ByteArray)), optA (l 12) (SlA p48 rv46.2.L.length k49 rv46.2.L), optA (l 15) (RowA [.string (⟨#[72, 72, 90]⟩ : ByteArray), .string (⟨#[72, 72, 78]⟩ : ByteArray), .string (⟨#[66, 72, 90]⟩ : ByteArray)] ([(⟨#[72, 72, 90]⟩ : ByteArray), (⟨#[72, 72, 78]⟩ : ByteArray), (⟨#[66, 72, 90]⟩ : ByteArray)] : List ByteArray)), optA (l 17) (SlA p65 rv63.2.L.length k66 rv63.2.L)] w) [1, 1, 2, 3, 4, 1, 1, 3, 4, 5, 1, 1, 4, 5, 6, 1, 1, 5, 6, 7, 8, 9] (by kernel_rfl) rfl (by kernel_rfl) ?_ (AllS.succ (AllS.succ (AllS.succ (AllS.succ (AllS.succ (AllS.succ (AllS.succ (AllS.succ (AllS.succ (AllS.succ (AllS.succ (AllS.succ (AllS.succ (AllS.succ (AllS.succ (AllS.succ (AllS.succ (AllS.succ (AllS.succ (AllS.succ (AllS.succ (AllS.succ AllS.zero ?_) ?_) ?_) ?_) ?_) ?_) ?_) ?_) ?_) ?_) ?_) ?_) ?_) ?_) ?_) ?_) ?_) ?_) ?_) ?_) ?_) ?_) ?_
    · obtain ⟨b10, b27, b44, b61, k15, k32, k49, k66, p14, p31, p48, p65, _⟩ : ∃ (b10 : Nat) (b27 : Nat) (b44 : Nat) (b61 : Nat) (k15 : Nat) (k32 : Nat) (k49 : Nat) (k66 : Nat) (p14 : Option Addr) (p31 : Option Addr) (p48 : Option Addr) (p65 : Option Addr), True := ⟨0, 0, 0, 0, 0, 0, 0, 0, none, none, none, none, trivial⟩
      have hw := hw.drew
      have hw := hw.emp
      have hw := hw.emp
      have hw := hw.emp
      have hw := hw.emp
      have hw := hw.noE (SlA p65 rv63.2.L.length k66 rv63.2.L)
      have hw := hw.noE (RowA [.string (⟨#[72, 72, 90]⟩ : ByteArray), .string (⟨#[72, 72, 78]⟩ : ByteArray), .string (⟨#[66, 72, 90]⟩ : ByteArray)] ([(⟨#[72, 72, 90]⟩ : ByteArray), (⟨#[72, 72, 78]⟩ : ByteArray), (⟨#[66, 72, 90]⟩ : ByteArray)] : List ByteArray))
      have hw := hw.noE (SlA p48 rv46.2.L.length k49 rv46.2.L)
      have hw := hw.noE (RowA [.string (⟨#[]⟩ : ByteArray), .string (⟨#[48, 48]⟩ : ByteArray), .string (⟨#[49, 48]⟩ : ByteArray)] ([(⟨#[]⟩ : ByteArray), (⟨#[48, 48]⟩ : ByteArray), (⟨#[49, 48]⟩ : ByteArray)] : List ByteArray))
      have hw := hw.noE (SlA p31 rv29.2.L.length k32 rv29.2.L)
      have hw := hw.noE (RowA [.string (⟨#[70, 85, 82]⟩ : ByteArray), .string (⟨#[65]⟩ : ByteArray), .string (⟨#[65, 66, 67, 68, 69]⟩ : ByteArray), .string (⟨#[70, 85]⟩ : ByteArray)] ([(⟨#[70, 85, 82]⟩ : ByteArray), (⟨#[65]⟩ : ByteArray), (⟨#[65, 66, 67, 68, 69]⟩ : ByteArray), (⟨#[70, 85]⟩ : ByteArray)] : List ByteArray))
      have hw := hw.noE (SlA p14 rv12.2.L.length k15 rv12.2.L)
      have hw := hw.noE (RowA [.string (⟨#[71, 82]⟩ : ByteArray), .string (⟨#[88]⟩ : ByteArray), .string (⟨#[55, 65]⟩ : ByteArray)] ([(⟨#[71, 82]⟩ : ByteArray), (⟨#[88]⟩ : ByteArray), (⟨#[55, 65]⟩ : ByteArray)] : List ByteArray))
      exact ⟨b10, b27, b44, b61, k15, k32, k49, k66, p14, p31, p48, p65, S0, SlF.init (hs.wk rfl) (by kernel_rfl), hw.ft [4, 5, 0, 1, 2, 3] [8, 0, 1, 2, 3, 4, 5, 6, 7] (by decide) rfl rfl⟩
    · intro l hi hp hc a w ⟨b10, b27, b44, b61, k15, k32, k49, k66, p14, p31, p48, p65, S, hS, hw⟩
      refine S_eff rfl ?_
      have hs := hS.open_ .nil
      refine w_litSlice (α := ByteArray) (vs := D11t3) (cs := D11t3) (xs := D11t4) hs hw El64 rfl rfl rfl rfl rfl rfl ⟨⟨_, rfl, rfl⟩, ⟨⟨_, rfl, rfl⟩, ⟨⟨_, rfl, rfl⟩, rfl⟩⟩⟩ rfl trivial rfl fun b10 a w hs hw => ?_
      have h_3 := l_neg hc 3 hi rfl
      have hw := hw.opt 0 rfl true
      refine wpList_nil ?_
      refine then_normal ?_
      exact ⟨b10, b27, b44, b61, k15, k32, k49, k66, p14, p31, p48, p65, S, hS.close .nil hs rfl (.here (.same (.same (.neg h_3 rfl (.same (.same (.same (.same (.same (.same (.same (.same (.same (.same (.same (.same (.same (.same (.same (.same (.same .nil))))))))))))))))))))) 0 rfl, hw.ft [1, 2, 0, 4, 5, 6] [2, 0, 4, 5, 6, 7, 8, 9, 10] (by decide) rfl rfl⟩
    · intro l hi hp hc a w ⟨b10, b27, b44, b61, k15, k32, k49, k66, p14, p31, p48, p65, S, hS, hw⟩
      refine S_val hS (.b (t := 0) rfl .nil) rfl rfl trivial (y_move rfl) (rfl) 1 rfl fun a hS => ⟨b10, b27, b44, b61, k15, k32, k49, k66, p14, p31, p48, p65, S, hS, hw⟩
    · intro l hi hp hc a w ⟨b10, b27, b44, b61, k15, k32, k49, k66, p14, p31, p48, p65, S, hS, hw⟩
      have h_7 := l_neg hc 7 hi rfl
      have h_12 := l_neg hc 12 h_7 rfl
      have h_17 := l_neg hc 17 h_12 rfl
      have hw := hw.fixR 1 (r' := .box b2 [.slice p3 d1.L.length k4, .int .i64 d1.At] 60) rfl ((bF h_17).trans ((bF h_12).trans ((bF h_7).trans ((bF hi)))))
      have h_1 := hp 1 rfl
      refine S_eff rfl ?_
      have hs := hS.open_ (.v (t := 4) 1 rfl h_1 .nil)
      refine st_callR hs (made_Dice_Next_ok h11 hw.dom (hw.ownAt 1 rfl) (hw.boxS 1 rfl) (hw.envAt 0 rfl)) (do_call Try.call16 rfl) trivial rfl rfl ?_
      intro v101 Sv98 w a h99 h100 hs
      obtain ⟨p14, k15, rfl, h13, h16⟩ := h100
      have hw := hw.call1 1 rfl h99 h13
      have hw := hw.addE (e := SlA p14 rv12.2.L.length k15 rv12.2.L) h16
      have hw := hw.fixR 1 (r' := (bif l 17 then .box b2 [.slice p65 rv63.2.L.length k66, .int .i64 rv63.2.At] 60 else (bif l 12 then .box b2 [.slice p48 rv46.2.L.length k49, .int .i64 rv46.2.At] 60 else (bif l 7 then .box b2 [.slice p31 rv29.2.L.length k32, .int .i64 rv29.2.At] 60 else .box b2 [.slice p14 rv12.2.L.length k15, .int .i64 rv12.2.At] 60)))) rfl ((bF h_17).trans ((bF h_12).trans ((bF h_7)))).symm
      have hw := hw.opt 0 rfl true
      refine wpList_nil ?_
      refine then_normal ?_
      exact ⟨b10, b27, b44, b61, k15, k32, k49, k66, p14, p31, p48, p65, Sv98, hS.close (.v (t := 4) 1 rfl h_1 .nil) hs rfl (.same (.same (.here (.same (.same (.same (.same (.same (.same (.same (.same (.same (.same (.same (.same (.same (.same (.same (.same (.same (.same .nil))))))))))))))))))))) 2 rfl, hw.ft [0, 1, 2, 3, 4, 5] [2, 3, 0, 5, 6, 7, 8, 9, 10] (by decide) rfl rfl⟩
    · intro l hi hp hc a w ⟨b10, b27, b44, b61, k15, k32, k49, k66, p14, p31, p48, p65, S, hS, hw⟩
      have hw0 := hw
      have h_0 := hp 0 rfl
      have hw := hw.fixR 2 (r' := .row (some ⟨b10, 0, none⟩) ([(⟨#[71, 82]⟩ : ByteArray), (⟨#[88]⟩ : ByteArray), (⟨#[55, 65]⟩ : ByteArray)] : List ByteArray).length ([(⟨#[71, 82]⟩ : ByteArray), (⟨#[88]⟩ : ByteArray), (⟨#[55, 65]⟩ : ByteArray)] : List ByteArray).length [.string (⟨#[71, 82]⟩ : ByteArray), .string (⟨#[88]⟩ : ByteArray), .string (⟨#[55, 65]⟩ : ByteArray)] 9 1) rfl ((bT h_0))
      have hw := hw.yes 1 rfl h_0
      have h_2 := hp 2 rfl
      obtain ⟨c24, h20, h25, h18⟩ := hw.elemRX (α := ByteArray) 2 rfl 0 rfl h17
      obtain ⟨_, rfl, rfl⟩ := h18
      refine S_val hS (.v (t := 3) 0 rfl h_0 (.v (t := 5) 2 rfl h_2 .nil)) rfl rfl trivial (y_indexAt Try.runUnderlying64 Try.sizeOf9 rfl rfl h20.1 h20.2 rfl) (rfl) 3 rfl fun a hS => ⟨b10, b27, b44, b61, k15, k32, k49, k66, p14, p31, p48, p65, S, hS, hw0⟩
    · intro l hi hp hc a w ⟨b10, b27, b44, b61, k15, k32, k49, k66, p14, p31, p48, p65, S, hS, hw⟩
      have hw0 := hw
      have h_3 := hp 3 rfl
      have h_0 := hc 3 0 rfl h_3
      have hw := hw.fixR 2 (r' := .row (some ⟨b10, 0, none⟩) ([(⟨#[71, 82]⟩ : ByteArray), (⟨#[88]⟩ : ByteArray), (⟨#[55, 65]⟩ : ByteArray)] : List ByteArray).length ([(⟨#[71, 82]⟩ : ByteArray), (⟨#[88]⟩ : ByteArray), (⟨#[55, 65]⟩ : ByteArray)] : List ByteArray).length [.string (⟨#[71, 82]⟩ : ByteArray), .string (⟨#[88]⟩ : ByteArray), .string (⟨#[55, 65]⟩ : ByteArray)] 9 1) rfl ((bT h_0))
      have hw := hw.yes 1 rfl h_0
      obtain ⟨c24, h20, h25, h18⟩ := hw.elemRX (α := ByteArray) 2 rfl 0 rfl h17
      obtain ⟨_, rfl, rfl⟩ := h18
      refine S_val hS (.v (t := 6) 3 rfl h_3 .nil) rfl rfl trivial (y_loadQ1 (j := 0) (hw.ownAt 2 rfl) rfl Try.isAgg9 h25 rfl) (rfl) 4 rfl fun a hS => ⟨b10, b27, b44, b61, k15, k32, k49, k66, p14, p31, p48, p65, S, hS, hw0⟩
    · intro l hi hp hc a w ⟨b10, b27, b44, b61, k15, k32, k49, k66, p14, p31, p48, p65, S, hS, hw⟩
      refine S_eff rfl ?_
      have hs := hS.open_ .nil
      refine w_litSlice (α := ByteArray) (vs := D11t5) (cs := D11t5) (xs := D11t6) hs hw El64 rfl rfl rfl rfl rfl rfl ⟨⟨_, rfl, rfl⟩, ⟨⟨_, rfl, rfl⟩, ⟨⟨_, rfl, rfl⟩, ⟨⟨_, rfl, rfl⟩, rfl⟩⟩⟩⟩ rfl trivial rfl fun b27 a w hs hw => ?_
      have h_8 := l_neg hc 8 hi rfl
      have hw := hw.opt 0 rfl true
      refine wpList_nil ?_
      refine then_normal ?_
      exact ⟨b10, b27, b44, b61, k15, k32, k49, k66, p14, p31, p48, p65, S, hS.close .nil hs rfl (.same (.same (.same (.same (.same (.here (.same (.same (.neg h_8 rfl (.same (.same (.same (.same (.same (.same (.same (.same (.same (.same (.same (.same .nil))))))))))))))))))))) 5 rfl, hw.ft [1, 2, 3, 0, 5, 6] [2, 3, 4, 0, 6, 7, 8, 9, 10] (by decide) rfl rfl⟩
    · intro l hi hp hc a w ⟨b10, b27, b44, b61, k15, k32, k49, k66, p14, p31, p48, p65, S, hS, hw⟩
      refine S_val hS (.b (t := 0) rfl .nil) rfl rfl trivial (y_move rfl) (rfl) 6 rfl fun a hS => ⟨b10, b27, b44, b61, k15, k32, k49, k66, p14, p31, p48, p65, S, hS, hw⟩
    · intro l hi hp hc a w ⟨b10, b27, b44, b61, k15, k32, k49, k66, p14, p31, p48, p65, S, hS, hw⟩
      have h_12 := l_neg hc 12 hi rfl
      have h_17 := l_neg hc 17 h_12 rfl
      have h_2 := hp 2 rfl
      have hw := hw.fixR 1 (r' := .box b2 [.slice p14 rv12.2.L.length k15, .int .i64 rv12.2.At] 60) rfl ((bF h_17).trans ((bF h_12).trans ((bF hi).trans ((bT h_2)))))
      have hw := hw.yes 2 rfl h_2
      have h_6 := hp 6 rfl
      refine S_eff rfl ?_
      have hs := hS.open_ (.v (t := 9) 6 rfl h_6 .nil)
      refine st_callR hs (made_Dice_Next_ok h28 hw.dom (hw.ownAt 1 rfl) (hw.boxS 1 rfl) (hw.envAt 0 rfl)) (do_call Try.call16 rfl) trivial rfl rfl ?_
      intro v109 Sv106 w a h107 h108 hs
      obtain ⟨p31, k32, rfl, h30, h33⟩ := h108
      have hw := hw.call1 1 rfl h107 h30
      have hw := hw.addE (e := SlA p31 rv29.2.L.length k32 rv29.2.L) h33
      have hw := hw.fixR 1 (r' := (bif l 17 then .box b2 [.slice p65 rv63.2.L.length k66, .int .i64 rv63.2.At] 60 else (bif l 12 then .box b2 [.slice p48 rv46.2.L.length k49, .int .i64 rv46.2.At] 60 else .box b2 [.slice p31 rv29.2.L.length k32, .int .i64 rv29.2.At] 60))) rfl ((bF h_17).trans ((bF h_12))).symm
      have hw := hw.opt 0 rfl true
      refine wpList_nil ?_
      refine then_normal ?_
      exact ⟨b10, b27, b44, b61, k15, k32, k49, k66, p14, p31, p48, p65, Sv106, hS.close (.v (t := 9) 6 rfl h_6 .nil) hs rfl (.same (.same (.same (.same (.same (.same (.same (.here (.same (.same (.same (.same (.same (.same (.same (.same (.same (.same (.same (.same (.same .nil))))))))))))))))))))) 7 rfl, hw.ft [0, 1, 2, 3, 4, 5] [3, 4, 5, 6, 0, 8, 9, 10, 11] (by decide) rfl rfl⟩
    · intro l hi hp hc a w ⟨b10, b27, b44, b61, k15, k32, k49, k66, p14, p31, p48, p65, S, hS, hw⟩
      have hw0 := hw
      have h_5 := hp 5 rfl
      have hw := hw.fixR 3 (r' := .row (some ⟨b27, 0, none⟩) ([(⟨#[70, 85, 82]⟩ : ByteArray), (⟨#[65]⟩ : ByteArray), (⟨#[65, 66, 67, 68, 69]⟩ : ByteArray), (⟨#[70, 85]⟩ : ByteArray)] : List ByteArray).length ([(⟨#[70, 85, 82]⟩ : ByteArray), (⟨#[65]⟩ : ByteArray), (⟨#[65, 66, 67, 68, 69]⟩ : ByteArray), (⟨#[70, 85]⟩ : ByteArray)] : List ByteArray).length [.string (⟨#[70, 85, 82]⟩ : ByteArray), .string (⟨#[65]⟩ : ByteArray), .string (⟨#[65, 66, 67, 68, 69]⟩ : ByteArray), .string (⟨#[70, 85]⟩ : ByteArray)] 9 1) rfl ((bT h_5))
      have hw := hw.yes 3 rfl h_5
      have h_7 := hp 7 rfl
      obtain ⟨c41, h37, h42, h35⟩ := hw.elemRX (α := ByteArray) 3 rfl 0 rfl h34
      obtain ⟨_, rfl, rfl⟩ := h35
      refine S_val hS (.v (t := 8) 5 rfl h_5 (.v (t := 10) 7 rfl h_7 .nil)) rfl rfl trivial (y_indexAt Try.runUnderlying64 Try.sizeOf9 rfl rfl h37.1 h37.2 rfl) (rfl) 8 rfl fun a hS => ⟨b10, b27, b44, b61, k15, k32, k49, k66, p14, p31, p48, p65, S, hS, hw0⟩
    · intro l hi hp hc a w ⟨b10, b27, b44, b61, k15, k32, k49, k66, p14, p31, p48, p65, S, hS, hw⟩
      have hw0 := hw
      have h_8 := hp 8 rfl
      have h_5 := hc 8 5 rfl h_8
      have hw := hw.fixR 3 (r' := .row (some ⟨b27, 0, none⟩) ([(⟨#[70, 85, 82]⟩ : ByteArray), (⟨#[65]⟩ : ByteArray), (⟨#[65, 66, 67, 68, 69]⟩ : ByteArray), (⟨#[70, 85]⟩ : ByteArray)] : List ByteArray).length ([(⟨#[70, 85, 82]⟩ : ByteArray), (⟨#[65]⟩ : ByteArray), (⟨#[65, 66, 67, 68, 69]⟩ : ByteArray), (⟨#[70, 85]⟩ : ByteArray)] : List ByteArray).length [.string (⟨#[70, 85, 82]⟩ : ByteArray), .string (⟨#[65]⟩ : ByteArray), .string (⟨#[65, 66, 67, 68, 69]⟩ : ByteArray), .string (⟨#[70, 85]⟩ : ByteArray)] 9 1) rfl ((bT h_5))
      have hw := hw.yes 3 rfl h_5
      obtain ⟨c41, h37, h42, h35⟩ := hw.elemRX (α := ByteArray) 3 rfl 0 rfl h34
      obtain ⟨_, rfl, rfl⟩ := h35
      refine S_val hS (.v (t := 11) 8 rfl h_8 .nil) rfl rfl trivial (y_loadQ1 (j := 0) (hw.ownAt 3 rfl) rfl Try.isAgg9 h42 rfl) (rfl) 9 rfl fun a hS => ⟨b10, b27, b44, b61, k15, k32, k49, k66, p14, p31, p48, p65, S, hS, hw0⟩
    · intro l hi hp hc a w ⟨b10, b27, b44, b61, k15, k32, k49, k66, p14, p31, p48, p65, S, hS, hw⟩
      refine S_eff rfl ?_
      have hs := hS.open_ .nil
      refine w_litSlice (α := ByteArray) (vs := D11t7) (cs := D11t7) (xs := D11t8) hs hw El64 rfl rfl rfl rfl rfl rfl ⟨⟨_, rfl, rfl⟩, ⟨⟨_, rfl, rfl⟩, ⟨⟨_, rfl, rfl⟩, rfl⟩⟩⟩ rfl trivial rfl fun b44 a w hs hw => ?_
      have h_13 := l_neg hc 13 hi rfl
      have hw := hw.opt 0 rfl true
      refine wpList_nil ?_
      refine then_normal ?_
      exact ⟨b10, b27, b44, b61, k15, k32, k49, k66, p14, p31, p48, p65, S, hS.close .nil hs rfl (.same (.same (.same (.same (.same (.same (.same (.same (.same (.same (.here (.same (.same (.neg h_13 rfl (.same (.same (.same (.same (.same (.same (.same .nil))))))))))))))))))))) 10 rfl, hw.ft [1, 2, 3, 4, 0, 6] [2, 3, 4, 5, 6, 0, 8, 9, 10] (by decide) rfl rfl⟩
    · intro l hi hp hc a w ⟨b10, b27, b44, b61, k15, k32, k49, k66, p14, p31, p48, p65, S, hS, hw⟩
      refine S_val hS (.b (t := 0) rfl .nil) rfl rfl trivial (y_move rfl) (rfl) 11 rfl fun a hS => ⟨b10, b27, b44, b61, k15, k32, k49, k66, p14, p31, p48, p65, S, hS, hw⟩
    · intro l hi hp hc a w ⟨b10, b27, b44, b61, k15, k32, k49, k66, p14, p31, p48, p65, S, hS, hw⟩
      have h_17 := l_neg hc 17 hi rfl
      have h_7 := hp 7 rfl
      have hw := hw.fixR 1 (r' := .box b2 [.slice p31 rv29.2.L.length k32, .int .i64 rv29.2.At] 60) rfl ((bF h_17).trans ((bF hi).trans ((bT h_7))))
      have hw := hw.yes 4 rfl h_7
      have h_11 := hp 11 rfl
      refine S_eff rfl ?_
      have hs := hS.open_ (.v (t := 14) 11 rfl h_11 .nil)
      refine st_callR hs (made_Dice_Next_ok h45 hw.dom (hw.ownAt 1 rfl) (hw.boxS 1 rfl) (hw.envAt 0 rfl)) (do_call Try.call16 rfl) trivial rfl rfl ?_
      intro v117 Sv114 w a h115 h116 hs
      obtain ⟨p48, k49, rfl, h47, h50⟩ := h116
      have hw := hw.call1 1 rfl h115 h47
      have hw := hw.addE (e := SlA p48 rv46.2.L.length k49 rv46.2.L) h50
      have hw := hw.fixR 1 (r' := (bif l 17 then .box b2 [.slice p65 rv63.2.L.length k66, .int .i64 rv63.2.At] 60 else .box b2 [.slice p48 rv46.2.L.length k49, .int .i64 rv46.2.At] 60)) rfl ((bF h_17)).symm
      have hw := hw.opt 0 rfl true
      refine wpList_nil ?_
      refine then_normal ?_
      exact ⟨b10, b27, b44, b61, k15, k32, k49, k66, p14, p31, p48, p65, Sv114, hS.close (.v (t := 14) 11 rfl h_11 .nil) hs rfl (.same (.same (.same (.same (.same (.same (.same (.same (.same (.same (.same (.same (.here (.same (.same (.same (.same (.same (.same (.same (.same .nil))))))))))))))))))))) 12 rfl, hw.ft [0, 1, 2, 3, 4, 5] [3, 4, 5, 6, 7, 8, 0, 10, 11] (by decide) rfl rfl⟩
    · intro l hi hp hc a w ⟨b10, b27, b44, b61, k15, k32, k49, k66, p14, p31, p48, p65, S, hS, hw⟩
      have hw0 := hw
      have h_10 := hp 10 rfl
      have hw := hw.fixR 4 (r' := .row (some ⟨b44, 0, none⟩) ([(⟨#[]⟩ : ByteArray), (⟨#[48, 48]⟩ : ByteArray), (⟨#[49, 48]⟩ : ByteArray)] : List ByteArray).length ([(⟨#[]⟩ : ByteArray), (⟨#[48, 48]⟩ : ByteArray), (⟨#[49, 48]⟩ : ByteArray)] : List ByteArray).length [.string (⟨#[]⟩ : ByteArray), .string (⟨#[48, 48]⟩ : ByteArray), .string (⟨#[49, 48]⟩ : ByteArray)] 9 1) rfl ((bT h_10))
      have hw := hw.yes 5 rfl h_10
      have h_12 := hp 12 rfl
      obtain ⟨c58, h54, h59, h52⟩ := hw.elemRX (α := ByteArray) 4 rfl 0 rfl h51
      obtain ⟨_, rfl, rfl⟩ := h52
      refine S_val hS (.v (t := 13) 10 rfl h_10 (.v (t := 15) 12 rfl h_12 .nil)) rfl rfl trivial (y_indexAt Try.runUnderlying64 Try.sizeOf9 rfl rfl h54.1 h54.2 rfl) (rfl) 13 rfl fun a hS => ⟨b10, b27, b44, b61, k15, k32, k49, k66, p14, p31, p48, p65, S, hS, hw0⟩
    · intro l hi hp hc a w ⟨b10, b27, b44, b61, k15, k32, k49, k66, p14, p31, p48, p65, S, hS, hw⟩
      have hw0 := hw
      have h_13 := hp 13 rfl
      have h_10 := hc 13 10 rfl h_13
      have hw := hw.fixR 4 (r' := .row (some ⟨b44, 0, none⟩) ([(⟨#[]⟩ : ByteArray), (⟨#[48, 48]⟩ : ByteArray), (⟨#[49, 48]⟩ : ByteArray)] : List ByteArray).length ([(⟨#[]⟩ : ByteArray), (⟨#[48, 48]⟩ : ByteArray), (⟨#[49, 48]⟩ : ByteArray)] : List ByteArray).length [.string (⟨#[]⟩ : ByteArray), .string (⟨#[48, 48]⟩ : ByteArray), .string (⟨#[49, 48]⟩ : ByteArray)] 9 1) rfl ((bT h_10))
      have hw := hw.yes 5 rfl h_10
      obtain ⟨c58, h54, h59, h52⟩ := hw.elemRX (α := ByteArray) 4 rfl 0 rfl h51
      obtain ⟨_, rfl, rfl⟩ := h52
      refine S_val hS (.v (t := 16) 13 rfl h_13 .nil) rfl rfl trivial (y_loadQ1 (j := 0) (hw.ownAt 4 rfl) rfl Try.isAgg9 h59 rfl) (rfl) 14 rfl fun a hS => ⟨b10, b27, b44, b61, k15, k32, k49, k66, p14, p31, p48, p65, S, hS, hw0⟩
    · intro l hi hp hc a w ⟨b10, b27, b44, b61, k15, k32, k49, k66, p14, p31, p48, p65, S, hS, hw⟩
      refine S_eff rfl ?_
      have hs := hS.open_ .nil
      refine w_litSlice (α := ByteArray) (vs := D11t9) (cs := D11t9) (xs := D11t10) hs hw El64 rfl rfl rfl rfl rfl rfl ⟨⟨_, rfl, rfl⟩, ⟨⟨_, rfl, rfl⟩, ⟨⟨_, rfl, rfl⟩, rfl⟩⟩⟩ rfl trivial rfl fun b61 a w hs hw => ?_
      have h_18 := l_neg hc 18 hi rfl
      have hw := hw.opt 0 rfl true
      refine wpList_nil ?_
      refine then_normal ?_
      exact ⟨b10, b27, b44, b61, k15, k32, k49, k66, p14, p31, p48, p65, S, hS.close .nil hs rfl (.same (.same (.same (.same (.same (.same (.same (.same (.same (.same (.same (.same (.same (.same (.same (.here (.same (.same (.neg h_18 rfl (.same (.same .nil))))))))))))))))))))) 15 rfl, hw.ft [1, 2, 3, 4, 5, 0] [2, 3, 4, 5, 6, 7, 8, 0, 10] (by decide) rfl rfl⟩
    · intro l hi hp hc a w ⟨b10, b27, b44, b61, k15, k32, k49, k66, p14, p31, p48, p65, S, hS, hw⟩
      refine S_val hS (.b (t := 0) rfl .nil) rfl rfl trivial (y_move rfl) (rfl) 16 rfl fun a hS => ⟨b10, b27, b44, b61, k15, k32, k49, k66, p14, p31, p48, p65, S, hS, hw⟩
    · intro l hi hp hc a w ⟨b10, b27, b44, b61, k15, k32, k49, k66, p14, p31, p48, p65, S, hS, hw⟩
      have h_12 := hp 12 rfl
      have hw := hw.fixR 1 (r' := .box b2 [.slice p48 rv46.2.L.length k49, .int .i64 rv46.2.At] 60) rfl ((bF hi).trans ((bT h_12)))
      have hw := hw.yes 6 rfl h_12
      have h_16 := hp 16 rfl
      refine S_eff rfl ?_
      have hs := hS.open_ (.v (t := 19) 16 rfl h_16 .nil)
      refine st_callR hs (made_Dice_Next_ok h62 hw.dom (hw.ownAt 1 rfl) (hw.boxS 1 rfl) (hw.envAt 0 rfl)) (do_call Try.call16 rfl) trivial rfl rfl ?_
      intro v125 Sv122 w a h123 h124 hs
      obtain ⟨p65, k66, rfl, h64, h67⟩ := h124
      have hw := hw.call1 1 rfl h123 h64
      have hw := hw.addE (e := SlA p65 rv63.2.L.length k66 rv63.2.L) h67
      have hw := hw.opt 0 rfl true
      refine wpList_nil ?_
      refine then_normal ?_
      exact ⟨b10, b27, b44, b61, k15, k32, k49, k66, p14, p31, p48, p65, Sv122, hS.close (.v (t := 19) 16 rfl h_16 .nil) hs rfl (.same (.same (.same (.same (.same (.same (.same (.same (.same (.same (.same (.same (.same (.same (.same (.same (.same (.here (.same (.same (.same .nil))))))))))))))))))))) 17 rfl, hw.ft [0, 1, 2, 3, 4, 5] [3, 4, 5, 6, 7, 8, 9, 10, 0] (by decide) rfl rfl⟩
    · intro l hi hp hc a w ⟨b10, b27, b44, b61, k15, k32, k49, k66, p14, p31, p48, p65, S, hS, hw⟩
      have hw0 := hw
      have h_15 := hp 15 rfl
      have hw := hw.fixR 5 (r' := .row (some ⟨b61, 0, none⟩) ([(⟨#[72, 72, 90]⟩ : ByteArray), (⟨#[72, 72, 78]⟩ : ByteArray), (⟨#[66, 72, 90]⟩ : ByteArray)] : List ByteArray).length ([(⟨#[72, 72, 90]⟩ : ByteArray), (⟨#[72, 72, 78]⟩ : ByteArray), (⟨#[66, 72, 90]⟩ : ByteArray)] : List ByteArray).length [.string (⟨#[72, 72, 90]⟩ : ByteArray), .string (⟨#[72, 72, 78]⟩ : ByteArray), .string (⟨#[66, 72, 90]⟩ : ByteArray)] 9 1) rfl ((bT h_15))
      have hw := hw.yes 7 rfl h_15
      have h_17 := hp 17 rfl
      obtain ⟨c75, h71, h76, h69⟩ := hw.elemRX (α := ByteArray) 5 rfl 0 rfl h68
      obtain ⟨_, rfl, rfl⟩ := h69
      refine S_val hS (.v (t := 18) 15 rfl h_15 (.v (t := 20) 17 rfl h_17 .nil)) rfl rfl trivial (y_indexAt Try.runUnderlying64 Try.sizeOf9 rfl rfl h71.1 h71.2 rfl) (rfl) 18 rfl fun a hS => ⟨b10, b27, b44, b61, k15, k32, k49, k66, p14, p31, p48, p65, S, hS, hw0⟩
    · intro l hi hp hc a w ⟨b10, b27, b44, b61, k15, k32, k49, k66, p14, p31, p48, p65, S, hS, hw⟩
      have hw0 := hw
      have h_18 := hp 18 rfl
      have h_15 := hc 18 15 rfl h_18
      have hw := hw.fixR 5 (r' := .row (some ⟨b61, 0, none⟩) ([(⟨#[72, 72, 90]⟩ : ByteArray), (⟨#[72, 72, 78]⟩ : ByteArray), (⟨#[66, 72, 90]⟩ : ByteArray)] : List ByteArray).length ([(⟨#[72, 72, 90]⟩ : ByteArray), (⟨#[72, 72, 78]⟩ : ByteArray), (⟨#[66, 72, 90]⟩ : ByteArray)] : List ByteArray).length [.string (⟨#[72, 72, 90]⟩ : ByteArray), .string (⟨#[72, 72, 78]⟩ : ByteArray), .string (⟨#[66, 72, 90]⟩ : ByteArray)] 9 1) rfl ((bT h_15))
      have hw := hw.yes 7 rfl h_15
      obtain ⟨c75, h71, h76, h69⟩ := hw.elemRX (α := ByteArray) 5 rfl 0 rfl h68
      obtain ⟨_, rfl, rfl⟩ := h69
      refine S_val hS (.v (t := 21) 18 rfl h_18 .nil) rfl rfl trivial (y_loadQ1 (j := 0) (hw.ownAt 5 rfl) rfl Try.isAgg9 h76 rfl) (rfl) 19 rfl fun a hS => ⟨b10, b27, b44, b61, k15, k32, k49, k66, p14, p31, p48, p65, S, hS, hw0⟩
    · intro l hi hp hc a w ⟨b10, b27, b44, b61, k15, k32, k49, k66, p14, p31, p48, p65, S, hS, hw⟩
      have h_19 := hp 19 rfl
      have h_14 := hp 14 rfl
      have h_9 := hp 9 rfl
      have h_4 := hp 4 rfl
      refine S_val hS (.v (t := 7) 4 rfl h_4 (.v (t := 12) 9 rfl h_9 (.v (t := 17) 14 rfl h_14 (.v (t := 22) 19 rfl h_19 .nil)))) rfl rfl trivial (y_build (vs := [(0, .string x19), (1, .string x36), (2, .string x53), (3, .string x70)]) Bld28 rfl rfl) (rfl) 20 rfl fun a hS => ⟨b10, b27, b44, b61, k15, k32, k49, k66, p14, p31, p48, p65, S, hS, hw⟩
    · intro l hi hp hc a w ⟨b10, b27, b44, b61, k15, k32, k49, k66, p14, p31, p48, p65, S, hS, hw⟩
      have hw := hw.fixR 0 (r' := .box b8 [.string ByteArray.empty, .string ByteArray.empty, .string ByteArray.empty, .string ByteArray.empty] 28) rfl ((bF hi))
      have h_20 := hp 20 rfl
      refine S_eff rfl ?_
      have hs := hS.open_ (.b (t := 2) rfl (.v (t := 23) 20 rfl h_20 .nil))
      refine w_store (m := 4) (cs' := [.string x19, .string x36, .string x53, .string x70]) hs hw 0 rfl rfl rfl Try.sizeOf28 rfl rfl rfl rfl trivial ?_
      intro a w hs hw
      refine wpList_nil ?_
      refine then_normal ?_
      exact ⟨b10, b27, b44, b61, k15, k32, k49, k66, p14, p31, p48, p65, S, hS.close0 (.b (t := 2) rfl (.v (t := 23) 20 rfl h_20 .nil)) hs rfl, hw.ft [0, 1, 2, 3, 4, 5] [0, 1, 2, 3, 4, 5, 6, 7, 8] (by decide) rfl rfl⟩
    · intro l a w hl ⟨b10, b27, b44, b61, k15, k32, k49, k66, p14, p31, p48, p65, S, hS, hw⟩
      have hw := hw.yes 8 rfl (hl 17 (by decide))
      have hw := hw.fixR 1 (r' := .box b2 [.slice p65 rv63.2.L.length k66, .int .i64 rv63.2.At] 60) rfl (bT (hl 17 (by decide)))
      have hw := hw.fixR 0 (r' := .box b8 [.string x19, .string x36, .string x53, .string x70] 28) rfl (bT (hl 21 (by decide)))
      have hs := hS.on (.b (t := 2) rfl .nil)
      exact ⟨S, k66, p65, (hs.wk rfl), (hw.ft [1, 0] [0] (by decide) rfl rfl)⟩
  · rintro a w ⟨Sv77, k66, p65, hs, hw⟩
    refine then_normal ?_
    have hsh := Option.some.inj hsh
    subst hsh
    refine wp_ret ?_
    exact ret1 hs rfl (rv_cell hw 1 rfl rfl Try.isAgg28 Try.sizeOf28 rfl) (hw.ret ⟨p65, k66, rfl, (hw.ownAt 0 rfl), (hw.envAt 0 rfl)⟩)

abbrev made_Dice_Pick_rd (w0 : World) (bd : Nat) (r : (Int × Dice)) : (Nat → Prop) → World → Value → Prop := fun S w v => ∃ (q0_0 : Option Addr) (m0_0 : Nat), v = .int .i64 r.1 ∧ w.heap[bd]? = some (.cells #[.slice q0_0 r.2.L.length m0_0, .int .i64 r.2.At] 60 (0, 0)) ∧ (SlA q0_0 r.2.L.length m0_0 r.2.L).p S w
set_option maxHeartbeats 4000000 in
set_option maxRecDepth 100000 in
theorem made_Dice_Pick_ok {w0 : World} {S0 : Nat → Prop} {b2 : Nat} {p3 : Option Addr} {k4 : Nat} {p9 : Option Addr} {k10 : Nat} {d1 : Dice} {l8 : (List Int)} {r : (Int × Dice)} (hsh : made_Dice_Pick d1 l8 = some r) (hS : ∀ b, S0 b → b < w0.heap.size) (h5 : w0.heap[b2]? = some (.cells #[.slice p3 d1.L.length k4, .int .i64 d1.At] 60 (0, 0))) (h6 : ¬ S0 b2) (h7 : (SlA p3 d1.L.length k4 d1.L).p S0 w0) (h11 : (SlA p9 l8.length k10 l8).p S0 w0) : Calls Try.prog 36 #[.pointer (some ⟨b2, 0, none⟩), .slice p9 l8.length k10] w0 (Ret [b2] w0 S0 (made_Dice_Pick_rd w0 b2 r)) := by
  refine calls_of_wp Try.func36 rfl ?_
  have hs := Sl.enter #[.pointer (some ⟨b2, 0, none⟩), .slice p9 l8.length k10] 12 [(0, .pointer (some ⟨b2, 0, none⟩)), (1, .slice p9 l8.length k10)] rfl ⟨rfl, rfl, trivial⟩
  have hw := Wd.enter1 (E := []) hS h5 h6 (fun _ h => (by cases h))
  have hw := hw.addE h7
  have hw := hw.addE h11
  delta made_Dice_Pick at hsh
  refine wp_seq ?_
  refine wp_region_lit ?_
  refine st_val hs (y_assign rfl) trivial rfl rfl fun a hs => ?_
  refine wpList_nil ?_
  refine then_normal ?_
  refine wp_seq ?_
  refine wp_region_lit ?_
  refine st_val hs (y_move rfl) trivial rfl rfl fun a hs => ?_
  refine st_val hs (y_move rfl) trivial rfl rfl fun a hs => ?_
  refine st_val hs (y_move rfl) trivial rfl rfl fun a hs => ?_
  refine st_val hs (y_len Try.runUnderlying22 rfl) trivial rfl rfl fun a hs => ?_
  obtain ⟨rv13, h12, hsh⟩ := bind_t hsh
  refine st_callR hs (made_Dice_Next_ok h12 hw.dom (hw.ownAt 0 rfl) (hw.boxS 0 rfl) (hw.envAt 1 rfl)) (do_call Try.call16 rfl) trivial rfl rfl ?_
  intro v21 Sv18 w a h19 h20 hs
  obtain ⟨p15, k16, rfl, h14, h17⟩ := h20
  have hw := hw.call1 0 rfl h19 h14
  have hw := hw.addE (e := SlA p15 rv13.2.L.length k16 rv13.2.L) h17
  obtain ⟨x24, h22, hsh⟩ := bind_t hsh
  obtain ⟨b30, o31, q28, c29, h32, h25, h26, h27, h23⟩ := hw.elemV 1 rfl h22
  have hsv33 := hs
  have hwv34 := hw
  subst h32
  have hs := hsv33
  have hw := hwv34
  obtain ⟨_, rfl, rfl⟩ := h23
  have hw := hw.addE h27
  refine st_val hs (y_indexAt Try.runUnderlying22 Try.sizeOf3 rfl rfl h25.1 h25.2 h26) trivial rfl rfl fun a hs => ?_
  refine st_val hs (y_loadE1 (j := 0) (hw.ceAt 0 rfl) rfl Try.isAgg3 rfl) trivial rfl rfl fun a hs => ?_
  refine st_val hs (y_assign rfl) trivial rfl rfl fun a hs => ?_
  refine wpList_nil ?_
  refine then_normal ?_
  have hsh := Option.some.inj hsh
  subst hsh
  refine wp_ret ?_
  exact ret1 hs rfl (rv_tmp rfl) (hw.ret ⟨p15, k16, rfl, (hw.ownAt 0 rfl), (hw.envAt 1 rfl)⟩)

abbrev ref01_In_rd (w0 : World) (r : Bool) : (Nat → Prop) → World → Value → Prop := fun S w v => v = .bool r
set_option maxHeartbeats 4000000 in
set_option maxRecDepth 100000 in
theorem ref01_In_ok {w0 : World} {S0 : Nat → Prop} {n1 : Int} {lo2 : Int} {hi3 : Int} {r : Bool} (hsh : ref01_In n1 lo2 hi3 = some r) (hS : ∀ b, S0 b → b < w0.heap.size) : Calls Try.prog 46 #[.int .i64 n1, .int .i64 lo2, .int .i64 hi3] w0 (Ret [] w0 S0 (ref01_In_rd w0 r)) := by
  refine calls_of_wp Try.func46 rfl ?_
  have hs := Sl.enter #[.int .i64 n1, .int .i64 lo2, .int .i64 hi3] 15 [(0, .int .i64 n1), (1, .int .i64 lo2), (2, .int .i64 hi3)] rfl ⟨rfl, rfl, rfl, trivial⟩
  have hw := Wd.enter (E := []) hS (fun _ h => (by cases h))
  delta ref01_In at hsh
  refine wp_seq ?_
  refine wp_region_lit ?_
  refine st_val hs (y_assign rfl) trivial rfl rfl fun a hs => ?_
  refine wpList_nil ?_
  refine then_normal ?_
  refine wp_seq ?_
  refine wp_region_lit ?_
  refine st_val hs (y_move rfl) trivial rfl rfl fun a hs => ?_
  refine st_val hs (y_move rfl) trivial rfl rfl fun a hs => ?_
  refine st_val hs (y_geq rfl rfl) trivial rfl rfl fun a hs => ?_
  refine st_val hs (y_move rfl) trivial rfl rfl fun a hs => ?_
  refine wpl_join 4 (fun a w1 => w0 = w1 ∧ Sl 15 [(14, .bool ((decide (lo2 ≤ n1)) && (decide (n1 ≤ hi3))))] a) ?_ ?_
  · rcases Bool.eq_false_or_eq_true (decide (lo2 ≤ n1)) with h4 | h4
    · have hs := hs.fix 10 (.bool true) rfl (vb h4)
      refine st_val hs (y_move rfl) ⟨_, rfl, rfl⟩ rfl rfl fun a hs => ?_
      refine st_val hs (y_move rfl) ⟨_, rfl, rfl⟩ rfl rfl fun a hs => ?_
      refine st_val hs (y_leq rfl rfl) ⟨_, rfl, rfl⟩ rfl rfl fun a hs => ?_
      refine st_val hs (y_pickT rfl rfl) trivial rfl rfl fun a hs => ?_
      refine wpList_nil ?_
      refine then_normal ?_
      exact ⟨rfl, (hs.fix 14 (.bool ((decide (lo2 ≤ n1)) && (decide (n1 ≤ hi3)))) rfl (and_t h4)).weaken _ ⟨rfl, trivial⟩⟩
    · have hs := hs.fix 10 (.bool false) rfl (vb h4)
      refine st_skip hs rfl rfl rfl rfl rfl fun a hs => ?_
      refine st_skip hs rfl rfl rfl rfl rfl fun a hs => ?_
      refine st_skip hs rfl rfl rfl rfl rfl fun a hs => ?_
      refine st_val hs (y_pickF rfl rfl) trivial rfl rfl fun a hs => ?_
      refine wpList_nil ?_
      refine then_normal ?_
      exact ⟨rfl, (hs.fix 14 (.bool ((decide (lo2 ≤ n1)) && (decide (n1 ≤ hi3)))) rfl (and_f h4)).weaken _ ⟨rfl, trivial⟩⟩
  · rintro a w1 ⟨h5, hs⟩
    subst h5
    refine st_val hs (y_assign rfl) trivial rfl rfl fun a hs => ?_
    refine wpList_nil ?_
    refine then_normal ?_
    have hsh := Option.some.inj hsh
    subst hsh
    refine wp_ret ?_
    exact ret1 hs rfl (rv_tmp rfl) (hw.ret rfl)

abbrev ref02_gcd_rd (w0 : World) (r : Int) : (Nat → Prop) → World → Value → Prop := fun S w v => v = .int .i64 r
set_option maxHeartbeats 4000000 in
set_option maxRecDepth 100000 in
theorem ref02_gcd_ok {w0 : World} {S0 : Nat → Prop} {a1 : Int} {b2 : Int} {r : Int} (hsh : ref02_gcd a1 b2 = some r) (hS : ∀ b, S0 b → b < w0.heap.size) : Calls Try.prog 63 #[.int .i64 a1, .int .i64 b2] w0 (Ret [] w0 S0 (ref02_gcd_rd w0 r)) := by
  refine calls_of_wp Try.func63 rfl ?_
  have hs := Sl.enter #[.int .i64 a1, .int .i64 b2] 12 [(0, .int .i64 a1), (1, .int .i64 b2)] rfl ⟨rfl, rfl, trivial⟩
  have hw := Wd.enter (E := []) hS (fun _ h => (by cases h))
  delta ref02_gcd at hsh
  refine wp_seq ?_
  refine wp_region_lit ?_
  refine st_val hs (y_assign rfl) trivial rfl rfl fun a hs => ?_
  refine wpList_nil ?_
  refine then_normal ?_
  refine wp_seq ?_
  obtain ⟨e21, h32, hsh⟩ := bind_t hsh
  refine wp_join (fun a w => ∃ (Sv22 : Nat → Prop), Sl 12 [(0, .int .i64 e21)] a ∧ Wd ⟨w0, S0, []⟩ Sv22 [] [] w) ?_ ?_
  · refine wp_block ?_
    refine wp_while (fun sv3 a w => ∃ (Sv13 : Nat → Prop), Sl 12 [(0, .int .i64 sv3.1), (1, .int .i64 sv3.2)] a ∧ Wd ⟨w0, S0, []⟩ Sv13 [] [] w) (a1, b2) h32 ⟨S0, (hs.wk rfl), (hw.ft [] [] (by decide) rfl rfl)⟩ ?_
    clear h32
    repeat clear hsh
    rintro sv3 a w tv19 ⟨Sv13, hs, hw⟩ hsh hd18
    delta ref02_gcd_l1 at hsh
    refine wp_seq ?_
    refine wp_seq ?_
    refine wp_region_lit ?_
    refine st_val hs (y_move rfl) trivial rfl rfl fun a hs => ?_
    refine st_val hs (y_neq rfl rfl) trivial rfl rfl fun a hs => ?_
    refine wpList_nil ?_
    refine then_normal ?_
    refine wp_cond_split (hs.ev rfl) (fun h24 => ?_) (fun h24 => ?_)
    · have hsh := ite_t hsh h24
      refine wp_skip ?_
      refine then_normal ?_
      refine wp_block ?_
      obtain ⟨rem29, h28, hsh⟩ := bind_t hsh
      refine wp_only (fun a w => ∃ (Sv30 : Nat → Prop), Sl 12 [(0, .int .i64 sv3.2), (1, .int .i64 rem29)] a ∧ Wd ⟨w0, S0, []⟩ Sv30 [] [] w) ?_ ?_
      · refine h_begin (C := Cls [] []) (by kernel_rfl) rfl ?_
        have hw := hw.drew
        have hC : Cls [] [] _ := hw.cs [] [] rfl rfl
        refine h_get hs (i := 0) rfl (by kernel_rfl) rfl rfl hC rfl (fun w hC => y_move rfl) fun a hs => ?_
        refine h_get hs (i := 1) rfl (by kernel_rfl) rfl rfl hC rfl (fun w hC => y_move rfl) fun a hs => ?_
        refine h_get hs (i := 2) rfl (by kernel_rfl) rfl rfl hC rfl (fun w hC => y_move rfl) fun a hs => ?_
        refine h_get hs (i := 3) rfl (by kernel_rfl) rfl rfl hC rfl (fun w hC => y_remM rfl rfl h28) fun a hs => ?_
        refine h_get hs (i := 4) rfl (by kernel_rfl) rfl rfl hC rfl (fun w hC => y_assign rfl) fun a hs => ?_
        refine h_get hs (i := 5) rfl (by kernel_rfl) rfl rfl hC rfl (fun w hC => y_assign rfl) fun a hs => ?_
        refine h_done (by kernel_rfl) ?_
        exact ⟨Sv13, (hs.wk rfl), (hw.ft [] [] (by decide) rfl rfl)⟩
      · rintro a w ⟨Sv30, hs, hw⟩
        refine blk_normal ?_
        refine then_normal ?_
        exact ⟨_, (Option.some.inj hsh).symm, Sv30, (hs.wk rfl), (hw.ft [] [] (by decide) rfl rfl)⟩
    · have hsh := ite_f hsh h24
      refine wp_exit ?_
      refine then_exit ?_
      refine then_exit ?_
      refine blk_exit ?_
      have hsh := Option.some.inj hsh
      subst hsh
      have h31 := hd18 _ rfl
      subst h31
      refine then_normal ?_
      exact ⟨Sv13, (hs.wk rfl), (hw.ft [] [] (by decide) rfl rfl)⟩
  · rintro a w ⟨Sv22, hs, hw⟩
    refine then_normal ?_
    refine wp_seq ?_
    refine wp_region_lit ?_
    refine st_val hs (y_move rfl) trivial rfl rfl fun a hs => ?_
    refine st_val hs (y_assign rfl) trivial rfl rfl fun a hs => ?_
    refine wpList_nil ?_
    refine then_normal ?_
    have hsh := Option.some.inj hsh
    subst hsh
    refine wp_ret ?_
    exact ret1 hs rfl (rv_tmp rfl) (hw.ret rfl)

abbrev ref02_New_rd (w0 : World) (r : (Rate × Int)) : (Nat → Prop) → World → Value → Prop := fun S w v => v = .tuple #[.agg #[.int .i64 r.1.Num, .int .i64 r.1.Den], .int .i64 r.2]
set_option maxHeartbeats 4000000 in
set_option maxRecDepth 100000 in
theorem ref02_New_ok {w0 : World} {S0 : Nat → Prop} {num1 : Int} {den2 : Int} {r : (Rate × Int)} (hsh : ref02_New num1 den2 = some r) (hS : ∀ b, S0 b → b < w0.heap.size) : Calls Try.prog 35 #[.int .i64 num1, .int .i64 den2] w0 (Ret [] w0 S0 (ref02_New_rd w0 r)) := by
  refine calls_of_wp Try.func35 rfl ?_
  have hs := Sl.enter #[.int .i64 num1, .int .i64 den2] 26 [(0, .int .i64 num1), (1, .int .i64 den2)] rfl ⟨rfl, rfl, trivial⟩
  have hw := Wd.enter (E := []) hS (fun _ h => (by cases h))
  delta ref02_New at hsh
  refine wp_seq ?_
  refine wp_region_lit ?_
  refine w_alloc (cs := [.int .i64 0, .int .i64 0]) hs hw Try.zeroValue30 rfl rfl trivial ?_
  intro b3 a w hs hw
  refine st_val hs (y_assign rfl) trivial rfl rfl fun a hs => ?_
  refine wpList_nil ?_
  refine then_normal ?_
  refine wp_seq ?_
  refine wp_seq ?_
  refine wp_region_lit ?_
  refine st_val hs (y_move rfl) trivial rfl rfl fun a hs => ?_
  obtain ⟨rv5, h4, hsh⟩ := bind_t hsh
  refine st_callR hs (ref01_In_ok h4 hw.dom) (do_call Try.call46 rfl) trivial rfl rfl ?_
  intro v9 Sv6 w a h7 h8 hs
  subst h8
  have hw := hw.call h7
  refine st_val hs (y_not rfl) trivial rfl rfl fun a hs => ?_
  refine st_val hs (y_move rfl) trivial rfl rfl fun a hs => ?_
  obtain ⟨c17, hc17, hsh⟩ := bind_t hsh
  refine wpl_join 4 (fun a w => ∃ (Sv18 : Nat → Prop), Sl 26 [(0, .int .i64 num1), (1, .int .i64 den2), (4, .pointer (some ⟨b3, 0, none⟩)), (14, .bool c17)] a ∧ Wd ⟨w0, S0, []⟩ Sv18 [.box b3 [.int .i64 0, .int .i64 0] 30] [] w) ?_ ?_
  · rcases Bool.eq_false_or_eq_true (!rv5) with h16 | h16
    · have hs := hs.fix 10 (.bool true) rfl (vb h16)
      have hsh := ite_t hc17 h16
      refine st_skip hs rfl rfl rfl rfl rfl fun a hs => ?_
      refine st_skip hs rfl rfl rfl rfl rfl fun a hs => ?_
      refine st_skip hs rfl rfl rfl rfl rfl fun a hs => ?_
      refine st_val hs (y_pickT rfl rfl) trivial rfl rfl fun a hs => ?_
      refine wpList_nil ?_
      have hsh := Option.some.inj hsh
      subst hsh
      refine then_normal ?_
      exact ⟨Sv6, (hs.wk rfl), (hw.ft [0] [] (by decide) rfl rfl)⟩
    · have hs := hs.fix 10 (.bool false) rfl (vb h16)
      have hsh := ite_f hc17 h16
      refine st_val hs (y_move rfl) ⟨_, rfl, rfl⟩ rfl rfl fun a hs => ?_
      obtain ⟨rv20, h19, hsh⟩ := bind_t hsh
      refine st_callR hs (ref01_In_ok h19 hw.dom) (do_call Try.call46 rfl) ⟨_, rfl, rfl⟩ rfl rfl ?_
      intro v24 Sv21 w a h22 h23 hs
      subst h23
      have hw := hw.call h22
      refine st_val hs (y_not rfl) ⟨_, rfl, rfl⟩ rfl rfl fun a hs => ?_
      refine st_val hs (y_pickF rfl rfl) trivial rfl rfl fun a hs => ?_
      refine wpList_nil ?_
      have hsh := Option.some.inj hsh
      subst hsh
      refine then_normal ?_
      exact ⟨Sv21, (hs.wk rfl), (hw.ft [0] [] (by decide) rfl rfl)⟩
  · rintro a w ⟨Sv18, hs, hw⟩
    refine wpList_nil ?_
    refine then_normal ?_
    refine wp_cond_split (hs.ev rfl) (fun h26 => ?_) (fun h26 => ?_)
    · have hsh := ite_t hsh h26
      refine wp_seq ?_
      refine wp_region_lit ?_
      refine st_val hs (y_build (vs := []) Bld30 rfl rfl) trivial rfl rfl fun a hs => ?_
      refine w_store (m := 2) (cs' := [.int .i64 0, .int .i64 0]) hs hw 0 rfl rfl rfl Try.sizeOf30 rfl rfl rfl rfl trivial ?_
      intro a w hs hw
      refine st_val hs (y_assign rfl) trivial rfl rfl fun a hs => ?_
      refine wpList_nil ?_
      refine then_normal ?_
      have hsh := Option.some.inj hsh
      subst hsh
      refine wp_ret ?_
      refine then_ret ?_
      exact ret2 hs rfl (rv_cell hw 0 rfl rfl Try.isAgg30 Try.sizeOf30 rfl) (rv_tmp rfl) (hw.ret rfl)
    · have hsh := ite_f hsh h26
      refine wp_skip ?_
      refine then_normal ?_
      refine wp_seq ?_
      refine wp_region_lit ?_
      refine st_val hs (y_move rfl) trivial rfl rfl fun a hs => ?_
      refine st_val hs (y_move rfl) trivial rfl rfl fun a hs => ?_
      obtain ⟨rv28, h27, hsh⟩ := bind_t hsh
      refine st_callR hs (ref02_gcd_ok h27 hw.dom) (do_call Try.call63 rfl) trivial rfl rfl ?_
      intro v32 Sv29 w a h30 h31 hs
      subst h31
      have hw := hw.call h30
      refine st_val hs (y_assign rfl) trivial rfl rfl fun a hs => ?_
      refine wpList_nil ?_
      refine then_normal ?_
      refine wp_seq ?_
      obtain ⟨quo34, h33, hsh⟩ := bind_t hsh
      obtain ⟨quo36, h35, hsh⟩ := bind_t hsh
      refine wp_only (fun a w => ∃ (Sv37 : Nat → Prop), Sl 26 [(4, .pointer (some ⟨b3, 0, none⟩)), (5, .int .i64 0)] a ∧ Wd ⟨w0, S0, []⟩ Sv37 [.box b3 [.int .i64 quo34, .int .i64 quo36] 30] [] w) ?_ ?_
      · refine h_begin (C := Cls [] []) (by kernel_rfl) rfl ?_
        have hw := hw.drew
        have hC : Cls [] [] _ := hw.cs [] [] rfl rfl
        refine h_get hs (i := 0) rfl (by kernel_rfl) rfl rfl hC rfl (fun w hC => y_move rfl) fun a hs => ?_
        refine h_get hs (i := 1) rfl (by kernel_rfl) rfl rfl hC rfl (fun w hC => y_move rfl) fun a hs => ?_
        refine h_get hs (i := 2) rfl (by kernel_rfl) rfl rfl hC rfl (fun w hC => y_quoM rfl rfl h33) fun a hs => ?_
        refine h_get hs (i := 3) rfl (by kernel_rfl) rfl rfl hC rfl (fun w hC => y_move rfl) fun a hs => ?_
        refine h_get hs (i := 4) rfl (by kernel_rfl) rfl rfl hC rfl (fun w hC => y_move rfl) fun a hs => ?_
        refine h_get hs (i := 5) rfl (by kernel_rfl) rfl rfl hC rfl (fun w hC => y_quoM rfl rfl h35) fun a hs => ?_
        refine h_get hs (i := 6) rfl (by kernel_rfl) rfl rfl hC rfl (fun w hC => y_build (vs := [(0, .int .i64 quo34), (1, .int .i64 quo36)]) Bld30 rfl rfl) fun a hs => ?_
        refine h_all (rs := [7]) (by kernel_rfl) rfl ?_
        refine AllH.cons rfl ?_ ?_
        · refine w_store (m := 2) (cs' := [.int .i64 quo34, .int .i64 quo36]) hs hw 0 rfl rfl rfl Try.sizeOf30 rfl rfl rfl rfl trivial ?_
          intro a w hs hw
          refine wpList_nil ?_
          refine then_normal ?_
          have hC : Cls [] [] _ := hw.cs [] [] rfl rfl
          refine ⟨hC, ?_⟩
          refine h_get hs (i := 8) rfl (by kernel_rfl) rfl rfl hC rfl (fun w hC => y_assign rfl) fun a hs => ?_
          refine h_done (by kernel_rfl) ?_
          exact ⟨Sv29, (hs.wk rfl), (hw.ft [0] [] (by decide) rfl rfl)⟩
        exact AllH.nil
      · rintro a w ⟨Sv37, hs, hw⟩
        refine then_normal ?_
        have hsh := Option.some.inj hsh
        subst hsh
        refine wp_ret ?_
        exact ret2 hs rfl (rv_cell hw 0 rfl rfl Try.isAgg30 Try.sizeOf30 rfl) (rv_tmp rfl) (hw.ret rfl)

end Go.Proofs.Ytdifjkamipeibaa.Wk

/- The walks of LinkCounts, part 1: each Go function computes what its plain program computes. Printed by a program of ours. -/
import Derived.Test.YtljdiobhmenjgaaProg
import Derived.Test.YtljdiobhmenjgaaDat
import Derived.Test.YtljdiobhmenjgaaSh
import Derived.Test.YtljdiobhmenjgaaLibL
import Derived.Test.YtljdiobhmenjgaaLibZ
import Derived.Test.YtljdiobhmenjgaaLibN
import Derived.KernelRfl
namespace Go.Proofs.Ytljdiobhmenjgaa.Wk
open Go Go.RowKit Go.Proofs Go.Proofs.Ytljdiobhmenjgaa.Sh
set_option linter.unusedVariables false
set_option linter.unusedSimpArgs false

theorem El22 : ElT Try.prog 22 3 1 8 (.int .i64 0) := ⟨Try.underlying22, ⟨Try.t3, info_of Try.type3, rfl, rfl, rfl⟩, rfl, by decide⟩
theorem El27 : ElT Try.prog 27 47 3 32 (.agg #[.int .i64 0, .int .i64 0, .string ByteArray.empty]) := ⟨Try.underlying27, ⟨Try.t47, info_of Try.type47, rfl, rfl, rfl⟩, rfl, by decide⟩
theorem El34 : ElT Try.prog 34 9 1 16 (.string ByteArray.empty) := ⟨Try.underlying34, ⟨Try.t9, info_of Try.type9, rfl, rfl, rfl⟩, rfl, by decide⟩
theorem Bld29 : BldT Try.prog 29 ((#[(0, 1), (1, 1), (2, 1)] : Array (Nat × Nat))[·]?) [.int .i64 0, .int .i64 0, .slice none ([] : List Transit).length 0] := bld_of Try.zeroValue29 rfl Try.runUnderlying29 (fun w => by simp [Try.sizeOf3, Try.sizeOf27])
theorem Bld32 : BldT Try.prog 32 ((#[(0, 1), (1, 1), (2, 1)] : Array (Nat × Nat))[·]?) [.bool false, .int .i64 0, .int .i64 0] := bld_of Try.zeroValue32 rfl Try.runUnderlying32 (fun w => by simp [Try.sizeOf3, Try.sizeOf4])
theorem Bld47 : BldT Try.prog 47 ((#[(0, 1), (1, 1), (2, 1)] : Array (Nat × Nat))[·]?) [.int .i64 0, .int .i64 0, .string ByteArray.empty] := bld_of Try.zeroValue47 rfl Try.runUnderlying47 (fun w => by simp [Try.sizeOf3, Try.sizeOf9])
theorem Bld59 : BldT Try.prog 59 ((#[(0, 1), (1, 1)] : Array (Nat × Nat))[·]?) [.slice none ([] : List Int).length 0, .int .i64 0] := bld_of Try.zeroValue59 rfl Try.runUnderlying59 (fun w => by simp [Try.sizeOf3, Try.sizeOf22])

abbrev made_Light_rd (w0 : World) (X : List Nat) (r : Bool) : (Nat → Prop) → World → Value → Prop := fun S w v => v = .bool r
set_option maxHeartbeats 4000000 in
set_option maxRecDepth 100000 in
theorem made_Light_ok {w0 : World} {S0 : Nat → Prop} {p2 : Option Addr} {k3 : Nat} {l1 : (List Int)} {r : Bool} (hsh : made_Light l1 = some r) (hS : ∀ b, S0 b → b < w0.heap.size) (h4 : (SlA p2 l1.length k3 l1).p S0 w0) : Calls Try.prog 7 #[.slice p2 l1.length k3] w0 (Ret ([]) w0 S0 (made_Light_rd w0 ([]) r)) := by
 refine calls_of_wp Try.func7 rfl ?_
 have hs := Sl.enter #[.slice p2 l1.length k3] 6 [(0, .slice p2 l1.length k3)] rfl ⟨rfl, trivial⟩
 have hw := Wd.enter (E := []) hS (fun _ h => (by cases h))
 have hw := hw.addE h4
 delta made_Light at hsh
 refine sr ?_
 refine av hs rfl rfl fun a hs => ?_
 refine nl ?_
 refine sr ?_
 refine mv hs rfl rfl fun a hs => ?_
 refine sv hs (y_len Try.runUnderlying22 rfl) rfl fun a hs => ?_
 refine sv hs (y_leq rfl rfl) rfl fun a hs => ?_
 refine av hs rfl rfl fun a hs => ?_
 refine nl ?_
 have hsh := oi hsh
 subst hsh
 refine wp_ret ?_
 exact ret1 hs rfl (rv_tmp rfl) (hw.ret rfl)

abbrev link_New_rd (w0 : World) (X : List Nat) (r : Wire) : (Nat → Prop) → World → Value → Prop := fun S w v => ∃ (p0_2 : Option Addr) (k0_2 : Nat), v = .agg #[.int .i64 r.Now, .int .i64 r.Order, .slice p0_2 r.Items.length k0_2] ∧ (SlA p0_2 r.Items.length k0_2 r.Items).p S w
set_option maxHeartbeats 4000000 in
set_option maxRecDepth 100000 in
theorem link_New_ok {w0 : World} {S0 : Nat → Prop} {r : Wire} (hsh : link_New = some r) (hS : ∀ b, S0 b → b < w0.heap.size) : Calls Try.prog 10 #[] w0 (Ret ([]) w0 S0 (link_New_rd w0 ([]) r)) := by
 refine calls_of_wp Try.func10 rfl ?_
 have hs := Sl.enter #[] 2 [] rfl trivial
 have hw := Wd.enter (E := []) hS (fun _ h => (by cases h))
 delta link_New at hsh
 refine sr ?_
 refine w_alloc (cs := [.int .i64 0, .int .i64 0, .slice none ([] : List Transit).length 0]) hs hw Try.zeroValue29 rfl rfl trivial ?_
 intro b1 a w hs hw
 refine nl ?_
 refine sr ?_
 refine sv hs (y_build (vs := []) Bld29 rfl rfl) rfl fun a hs => ?_
 refine w_store (m := 3) (cs' := [.int .i64 0, .int .i64 0, .slice none ([] : List Transit).length 0]) hs hw 0 rfl rfl rfl Try.sizeOf29 rfl rfl rfl rfl trivial ?_
 intro a w hs hw
 refine nl ?_
 have hsh := oi hsh
 subst hsh
 have hw := hw.addE (e := SlA (α := Transit) none 0 0 []) nil_sl
 refine wp_ret ?_
 exact ret1 hs rfl (rv_cell hw 0 rfl rfl Try.isAgg29 Try.sizeOf29 rfl) (hw.ret ⟨none, 0, rfl, (hw.envAt 0 rfl)⟩)

abbrev link_in_rd (w0 : World) (X : List Nat) (r : Bool) : (Nat → Prop) → World → Value → Prop := fun S w v => v = .bool r
set_option maxHeartbeats 4000000 in
set_option maxRecDepth 100000 in
theorem link_in_ok {w0 : World} {S0 : Nat → Prop} {n1 : Int} {low2 : Int} {high3 : Int} {r : Bool} (hsh : link_in n1 low2 high3 = some r) (hS : ∀ b, S0 b → b < w0.heap.size) : Calls Try.prog 36 #[.int .i64 n1, .int .i64 low2, .int .i64 high3] w0 (Ret ([]) w0 S0 (link_in_rd w0 ([]) r)) := by
 refine calls_of_wp Try.func36 rfl ?_
 have hs := Sl.enter #[.int .i64 n1, .int .i64 low2, .int .i64 high3] 15 [(0, .int .i64 n1), (1, .int .i64 low2), (2, .int .i64 high3)] rfl ⟨rfl, rfl, rfl, trivial⟩
 have hw := Wd.enter (E := []) hS (fun _ h => (by cases h))
 delta link_in at hsh
 refine sr ?_
 refine av hs rfl rfl fun a hs => ?_
 refine nl ?_
 refine sr ?_
 refine mv hs rfl rfl fun a hs => ?_
 refine mv hs rfl rfl fun a hs => ?_
 refine sv hs (y_geq rfl rfl) rfl fun a hs => ?_
 refine mv hs rfl rfl fun a hs => ?_
 refine wpl_join 4 (fun a w1 => w0 = w1 ∧ Sl 15 [(14, .bool ((decide (low2 ≤ n1)) && (decide (n1 ≤ high3))))] a) ?_ ?_
 ·rcases Bool.eq_false_or_eq_true (decide (low2 ≤ n1)) with h4 | h4
  ·have hs := hs.fix 10 (.bool true) rfl (vb h4)
   refine st_val hs (y_move rfl) ⟨_, rfl, rfl⟩ rfl rfl fun a hs => ?_
   refine st_val hs (y_move rfl) ⟨_, rfl, rfl⟩ rfl rfl fun a hs => ?_
   refine st_val hs (y_leq rfl rfl) ⟨_, rfl, rfl⟩ rfl rfl fun a hs => ?_
   refine sv hs (y_pickT rfl rfl) rfl fun a hs => ?_
   refine nl ?_
   exact ⟨rfl, (hs.fix 14 (.bool ((decide (low2 ≤ n1)) && (decide (n1 ≤ high3)))) rfl (and_t h4)).weaken _ ⟨rfl, trivial⟩⟩
  have hs := hs.fix 10 (.bool false) rfl (vb h4)
  refine st_skip hs rfl rfl rfl rfl rfl fun a hs => ?_
  refine st_skip hs rfl rfl rfl rfl rfl fun a hs => ?_
  refine st_skip hs rfl rfl rfl rfl rfl fun a hs => ?_
  refine sv hs (y_pickF rfl rfl) rfl fun a hs => ?_
  refine nl ?_
  exact ⟨rfl, (hs.fix 14 (.bool ((decide (low2 ≤ n1)) && (decide (n1 ≤ high3)))) rfl (and_f h4)).weaken _ ⟨rfl, trivial⟩⟩
 rintro a w1 ⟨h5, hs⟩
 subst h5
 refine av hs rfl rfl fun a hs => ?_
 refine nl ?_
 have hsh := oi hsh
 subst hsh
 refine wp_ret ?_
 exact ret1 hs rfl (rv_tmp rfl) (hw.ret rfl)

abbrev cmp_Or_int_rd (w0 : World) (X : List Nat) (r : Int) : (Nat → Prop) → World → Value → Prop := fun S w v => v = .int .i64 r
set_option maxHeartbeats 4000000 in
set_option maxRecDepth 100000 in
theorem cmp_Or_int_ok {w0 : World} {S0 : Nat → Prop} {p2 : Option Addr} {k3 : Nat} {vals1 : (List Int)} {r : Int} (hsh : cmp_Or_int vals1 = some r) (hS : ∀ b, S0 b → b < w0.heap.size) (h4 : (SlA p2 vals1.length k3 vals1).p S0 w0) : Calls Try.prog 37 #[.slice p2 vals1.length k3] w0 (Ret ([]) w0 S0 (cmp_Or_int_rd w0 ([]) r)) := by
 refine calls_of_wp Try.func37 rfl ?_
 have hs := Sl.enter #[.slice p2 vals1.length k3] 18 [(0, .slice p2 vals1.length k3)] rfl ⟨rfl, trivial⟩
 have hw := Wd.enter (E := []) hS (fun _ h => (by cases h))
 have hw := hw.addE h4
 delta cmp_Or_int at hsh
 refine sr ?_
 refine av hs rfl rfl fun a hs => ?_
 refine nl ?_
 refine sr ?_
 refine av hs rfl rfl fun a hs => ?_
 refine nl ?_
 refine wp_seq ?_
 refine sr ?_
 refine mv hs rfl rfl fun a hs => ?_
 refine sv hs (y_len Try.runUnderlying22 rfl) rfl fun a hs => ?_
 refine mv hs rfl rfl fun a hs => ?_
 refine nl ?_
 refine wp_block ?_
 refine wp_while (fun sv55 a w => ∃ (Sv87 : Nat → Prop), Sl 18 [(3, .int .i64 0), (6, .slice p2 vals1.length k3), (7, .int .i64 (vals1.length : Int)), (8, .int .i64 sv55)] a ∧ Wd ⟨w0, S0, []⟩ Sv87 [] [SlA p2 vals1.length k3 vals1] w) 0 hsh ⟨S0, (hs.wk rfl), (hw.ft [] [0] (by decide) rfl rfl)⟩ ?_
 repeat clear hsh
 rintro sv55 a w tv104 ⟨Sv87, hs, hw⟩ hsh hd103
 delta cmp_Or_int_l2 at hsh
 refine sr ?_
 refine sv hs (y_lss rfl rfl) rfl fun a hs => ?_
 refine nl ?_
 refine wp_seq ?_
 refine wp_cond_split (hs.ev rfl) (fun h108 => ?_) (fun h108 => ?_)
 ·have hsh := ite_t hsh h108
  refine wp_skip ?_
  refine then_normal ?_
  refine wp_seq ?_
  refine wp_block ?_
  refine sr ?_
  obtain ⟨x125, h123, hsh⟩ := bind_t hsh
  obtain ⟨b131, o132, q129, c130, h133, h126, h127, h128, h124⟩ := hw.elemV 0 rfl h123
  have hsv134 := hs
  have hwv135 := hw
  subst h133
  have hs := hsv134
  have hw := hwv135
  obtain ⟨_, rfl, rfl⟩ := h124
  have hw := hw.addE h128
  refine sv hs (y_indexAt Try.runUnderlying22 Try.sizeOf3 rfl rfl h126.1 h126.2 h127) rfl fun a hs => ?_
  refine sv hs (y_loadE1 (j := 0) (hw.ceAt 0 rfl) rfl Try.isAgg3 rfl) rfl fun a hs => ?_
  refine av hs rfl rfl fun a hs => ?_
  refine nl ?_
  refine sr ?_
  refine mv hs rfl rfl fun a hs => ?_
  refine mv hs rfl rfl fun a hs => ?_
  refine sv hs (y_neq rfl rfl) rfl fun a hs => ?_
  refine nl ?_
  refine wp_cond_split (hs.ev rfl) (fun h137 => ?_) (fun h137 => ?_)
  ·have hsh := ite_t hsh h137
   refine sr ?_
   refine mv hs rfl rfl fun a hs => ?_
   refine av hs rfl rfl fun a hs => ?_
   refine nl ?_
   have hsh := oi hsh
   subst hsh
   have h138 := hd103 _ rfl
   subst h138
   refine wp_ret ?_
   refine blk_ret ?_
   refine then_ret ?_
   refine then_ret ?_
   refine blk_ret ?_
   refine then_ret ?_
   exact ret1 hs rfl (rv_tmp rfl) (hw.ret rfl)
  have hsh := ite_f hsh h137
  refine wp_skip ?_
  refine blk_normal ?_
  refine then_normal ?_
  refine wp_region_lit ?_
  refine sv hs (y_add rfl rfl) rfl fun a hs => ?_
  refine mv hs rfl rfl fun a hs => ?_
  refine nl ?_
  exact ⟨_, (Option.some.inj hsh).symm, Sv87, (hs.wk rfl), (hw.ft [] [1] (by decide) rfl rfl)⟩
 have hsh := ite_f hsh h108
 obtain ⟨rv139, hsh, h140⟩ := map_t hsh
 have h140 := (hd103 _ h140.symm).symm
 subst h140
 refine wp_exit ?_
 refine then_exit ?_
 refine then_exit ?_
 refine blk_exit ?_
 refine then_normal ?_
 refine sr ?_
 refine mv hs rfl rfl fun a hs => ?_
 refine av hs rfl rfl fun a hs => ?_
 refine nl ?_
 have hsh := oi hsh
 subst hsh
 refine wp_ret ?_
 exact ret1 hs rfl (rv_tmp rfl) (hw.ret rfl)

abbrev link_order_rd (w0 : World) (X : List Nat) (r : Int) : (Nat → Prop) → World → Value → Prop := fun S w v => v = .int .i64 r
set_option maxHeartbeats 4000000 in
set_option maxRecDepth 100000 in
theorem link_order_ok {w0 : World} {S0 : Nat → Prop} {a1 : Transit} {b2 : Transit} {r : Int} (hsh : link_order a1 b2 = some r) (hS : ∀ b, S0 b → b < w0.heap.size) : Calls Try.prog 33 #[.agg #[.int .i64 a1.At, .int .i64 a1.Order, .string a1.Data], .agg #[.int .i64 b2.At, .int .i64 b2.Order, .string b2.Data]] w0 (Ret ([]) w0 S0 (link_order_rd w0 ([]) r)) := by
 refine calls_of_wp Try.func33 rfl ?_
 have hs := Sl.enter #[.agg #[.int .i64 a1.At, .int .i64 a1.Order, .string a1.Data], .agg #[.int .i64 b2.At, .int .i64 b2.Order, .string b2.Data]] 17 [(0, .agg #[.int .i64 a1.At, .int .i64 a1.Order, .string a1.Data]), (1, .agg #[.int .i64 b2.At, .int .i64 b2.Order, .string b2.Data])] rfl ⟨rfl, rfl, trivial⟩
 have hw := Wd.enter (E := []) hS (fun _ h => (by cases h))
 delta link_order at hsh
 refine sr ?_
 refine w_box (cs := [.int .i64 a1.At, .int .i64 a1.Order, .string a1.Data]) hs hw rfl rfl rfl trivial ?_
 intro b3 a w hs hw
 refine w_box (cs := [.int .i64 b2.At, .int .i64 b2.Order, .string b2.Data]) hs hw rfl rfl rfl trivial ?_
 intro b4 a w hs hw
 refine av hs rfl rfl fun a hs => ?_
 refine nl ?_
 refine sr ?_
 refine sv hs (y_fieldAddr (o' := 0) Try.runUnderlying47 rfl Try.sizeOf3 rfl rfl rfl) rfl fun a hs => ?_
 refine sv hs (y_loadB1 (hw.ownAt 1 rfl) rfl Try.isAgg3 rfl) rfl fun a hs => ?_
 refine sv hs (y_fieldAddr (o' := 0) Try.runUnderlying47 rfl Try.sizeOf3 rfl rfl rfl) rfl fun a hs => ?_
 refine sv hs (y_loadB1 (hw.ownAt 0 rfl) rfl Try.isAgg3 rfl) rfl fun a hs => ?_
 refine sv hs (y_sub rfl rfl) rfl fun a hs => ?_
 refine sv hs (y_fieldAddr (o' := 1) Try.runUnderlying47 rfl Try.sizeOf3 rfl rfl rfl) rfl fun a hs => ?_
 refine sv hs (y_loadB1 (hw.ownAt 1 rfl) rfl Try.isAgg3 rfl) rfl fun a hs => ?_
 refine sv hs (y_fieldAddr (o' := 1) Try.runUnderlying47 rfl Try.sizeOf3 rfl rfl rfl) rfl fun a hs => ?_
 refine sv hs (y_loadB1 (hw.ownAt 0 rfl) rfl Try.isAgg3 rfl) rfl fun a hs => ?_
 refine sv hs (y_sub rfl rfl) rfl fun a hs => ?_
 refine w_litSlice (α := Int) (vs := [.int .i64 (w64 (a1.At - b2.At)), .int .i64 (w64 (a1.Order - b2.Order))]) (cs := [.int .i64 (w64 (a1.At - b2.At)), .int .i64 (w64 (a1.Order - b2.Order))]) (xs := ([(w64 (a1.At - b2.At)), (w64 (a1.Order - b2.Order))] : List Int)) hs hw El22 rfl rfl rfl rfl rfl rfl ⟨⟨_, rfl, rfl⟩, ⟨⟨_, rfl, rfl⟩, rfl⟩⟩ rfl trivial rfl fun b6 a w hs hw => ?_
 obtain ⟨rv8, h7, hsh⟩ := bind_t hsh
 refine st_callR hs (cmp_Or_int_ok h7 hw.bdom (hw.bRow 0 rfl 0 rfl)) (do_call Try.call37 rfl) trivial rfl rfl ?_
 intro v12 Sv9 w a h10 h11 hs
 subst h11
 have hw := hw.callB h10
 refine av hs rfl rfl fun a hs => ?_
 refine nl ?_
 have hsh := oi hsh
 subst hsh
 refine wp_ret ?_
 exact ret1 hs rfl (rv_tmp rfl) (hw.ret rfl)

abbrev link_Valid_rd (w0 : World) (X : List Nat) (r : Bool) : (Nat → Prop) → World → Value → Prop := fun S w v => v = .bool r
set_option maxHeartbeats 4000000 in
set_option maxRecDepth 100000 in
theorem link_Valid_ok {w0 : World} {S0 : Nat → Prop} {p2 : Option Addr} {k3 : Nat} {wv1 : Wire} {r : Bool} (hsh : link_Valid wv1 = some r) (hS : ∀ b, S0 b → b < w0.heap.size) (h4 : (SlA p2 wv1.Items.length k3 wv1.Items).p S0 w0) : Calls Try.prog 29 #[.agg #[.int .i64 wv1.Now, .int .i64 wv1.Order, .slice p2 wv1.Items.length k3]] w0 (Ret ([]) w0 S0 (link_Valid_rd w0 ([]) r)) := by
 refine calls_of_wp Try.func29 rfl ?_
 have hs := Sl.enter #[.agg #[.int .i64 wv1.Now, .int .i64 wv1.Order, .slice p2 wv1.Items.length k3]] 67 [(0, .agg #[.int .i64 wv1.Now, .int .i64 wv1.Order, .slice p2 wv1.Items.length k3])] rfl ⟨rfl, trivial⟩
 have hw := Wd.enter (E := []) hS (fun _ h => (by cases h))
 have hw := hw.addE h4
 delta link_Valid at hsh
 refine sr ?_
 refine w_box (cs := [.int .i64 wv1.Now, .int .i64 wv1.Order, .slice p2 wv1.Items.length k3]) hs hw rfl rfl rfl trivial ?_
 intro b5 a w hs hw
 refine av hs rfl rfl fun a hs => ?_
 refine nl ?_
 refine wp_seq ?_
 refine sr ?_
 refine sv hs (y_fieldAddr (o' := 0) Try.runUnderlying29 rfl Try.sizeOf3 rfl rfl rfl) rfl fun a hs => ?_
 refine sv hs (y_loadB1 (hw.ownAt 0 rfl) rfl Try.isAgg3 rfl) rfl fun a hs => ?_
 obtain ⟨rv7, h6, hsh⟩ := bind_t hsh
 refine st_callR hs (link_in_ok h6 hw.bdom) (do_call Try.call36 rfl) trivial rfl rfl ?_
 intro v11 Sv8 w a h9 h10 hs
 subst h10
 have hw := hw.callB h9
 refine sv hs (y_not rfl) rfl fun a hs => ?_
 refine mv hs rfl rfl fun a hs => ?_
 obtain ⟨c21, hc21, hsh⟩ := bind_t hsh
 refine wpl_join 5 (fun a w => ∃ (Sv22 : Nat → Prop), Sl 67 [(1, .pointer (some ⟨b5, 0, none⟩)), (14, .bool c21)] a ∧ Wd ⟨w0, S0, []⟩ Sv22 [.box b5 [.int .i64 wv1.Now, .int .i64 wv1.Order, .slice p2 wv1.Items.length k3] 29] [SlA p2 wv1.Items.length k3 wv1.Items] w) ?_ ?_
 ·rcases Bool.eq_false_or_eq_true (!rv7) with h20 | h20
  ·have hs := hs.fix 9 (.bool true) rfl (vb h20)
   have hsh := ite_t hc21 h20
   refine st_skip hs rfl rfl rfl rfl rfl fun a hs => ?_
   refine st_skip hs rfl rfl rfl rfl rfl fun a hs => ?_
   refine st_skip hs rfl rfl rfl rfl rfl fun a hs => ?_
   refine st_skip hs rfl rfl rfl rfl rfl fun a hs => ?_
   refine sv hs (y_pickT rfl rfl) rfl fun a hs => ?_
   refine wpList_nil ?_
   have hsh := oi hsh
   subst hsh
   refine then_normal ?_
   exact ⟨S0, (hs.wk rfl), (hw.ft [0] [0] (by decide) rfl rfl)⟩
  have hs := hs.fix 9 (.bool false) rfl (vb h20)
  have hsh := ite_f hc21 h20
  refine st_val hs (y_fieldAddr (o' := 1) Try.runUnderlying29 rfl Try.sizeOf3 rfl rfl rfl) ⟨_, rfl, rfl⟩ rfl rfl fun a hs => ?_
  refine st_val hs (y_loadB1 (hw.ownAt 0 rfl) rfl Try.isAgg3 rfl) ⟨_, rfl, rfl⟩ rfl rfl fun a hs => ?_
  obtain ⟨rv24, h23, hsh⟩ := bind_t hsh
  refine st_callR hs (link_in_ok h23 hw.bdom) (do_call Try.call36 rfl) ⟨_, rfl, rfl⟩ rfl rfl ?_
  intro v28 Sv25 w a h26 h27 hs
  subst h27
  have hw := hw.callB h26
  refine st_val hs (y_not rfl) ⟨_, rfl, rfl⟩ rfl rfl fun a hs => ?_
  refine sv hs (y_pickF rfl rfl) rfl fun a hs => ?_
  refine wpList_nil ?_
  have hsh := oi hsh
  subst hsh
  refine then_normal ?_
  exact ⟨S0, (hs.wk rfl), (hw.ft [0] [0] (by decide) rfl rfl)⟩
 rintro a w ⟨Sv22, hs, hw⟩
 refine mv hs rfl rfl fun a hs => ?_
 refine wpl_join 5 (fun a w1 => w = w1 ∧ Sl 67 [(1, .pointer (some ⟨b5, 0, none⟩)), (20, .bool (c21 || (decide (1024 < (wv1.Items.length : Int)))))] a) ?_ ?_
 ·rcases Bool.eq_false_or_eq_true c21 with h30 | h30
  ·have hs := hs.fix 15 (.bool true) rfl (vb h30)
   refine st_skip hs rfl rfl rfl rfl rfl fun a hs => ?_
   refine st_skip hs rfl rfl rfl rfl rfl fun a hs => ?_
   refine st_skip hs rfl rfl rfl rfl rfl fun a hs => ?_
   refine st_skip hs rfl rfl rfl rfl rfl fun a hs => ?_
   refine sv hs (y_pickT rfl rfl) rfl fun a hs => ?_
   refine nl ?_
   exact ⟨rfl, (hs.fix 20 (.bool (c21 || (decide (1024 < (wv1.Items.length : Int))))) rfl (or_t h30)).weaken _ ⟨rfl, rfl, trivial⟩⟩
  have hs := hs.fix 15 (.bool false) rfl (vb h30)
  refine st_val hs (y_fieldAddr (o' := 2) Try.runUnderlying29 rfl Try.sizeOf27 rfl rfl rfl) ⟨_, rfl, rfl⟩ rfl rfl fun a hs => ?_
  refine st_val hs (y_loadB1 (hw.ownAt 0 rfl) rfl Try.isAgg27 rfl) ⟨_, rfl, rfl⟩ rfl rfl fun a hs => ?_
  refine st_val hs (y_len Try.runUnderlying27 rfl) ⟨_, rfl, rfl⟩ rfl rfl fun a hs => ?_
  refine st_val hs (y_gtr rfl rfl) ⟨_, rfl, rfl⟩ rfl rfl fun a hs => ?_
  refine sv hs (y_pickF rfl rfl) rfl fun a hs => ?_
  refine nl ?_
  exact ⟨rfl, (hs.fix 20 (.bool (c21 || (decide (1024 < (wv1.Items.length : Int))))) rfl (or_f h30)).weaken _ ⟨rfl, rfl, trivial⟩⟩
 rintro a w1 ⟨h412, hs⟩
 subst h412
 refine nl ?_
 refine wp_cond_split (hs.ev rfl) (fun h32 => ?_) (fun h32 => ?_)
 ·have hsh := ite_t hsh h32
  refine sr ?_
  refine av hs rfl rfl fun a hs => ?_
  refine nl ?_
  have hsh := oi hsh
  subst hsh
  refine wp_ret ?_
  refine then_ret ?_
  exact ret1 hs rfl (rv_tmp rfl) (hw.ret rfl)
 have hsh := ite_f hsh h32
 refine wp_skip ?_
 refine then_normal ?_
 refine wp_seq ?_
 refine sr ?_
 refine sv hs (y_fieldAddr (o' := 2) Try.runUnderlying29 rfl Try.sizeOf27 rfl rfl rfl) rfl fun a hs => ?_
 refine sv hs (y_loadB1 (hw.ownAt 0 rfl) rfl Try.isAgg27 rfl) rfl fun a hs => ?_
 refine sv hs (y_len Try.runUnderlying27 rfl) rfl fun a hs => ?_
 refine mv hs rfl rfl fun a hs => ?_
 refine nl ?_
 refine wp_block ?_
 refine wp_while (fun sv143 a w => ∃ (Sv215 : Nat → Prop), Sl 67 [(1, .pointer (some ⟨b5, 0, none⟩)), (22, .slice p2 wv1.Items.length k3), (23, .int .i64 (wv1.Items.length : Int)), (24, .int .i64 sv143)] a ∧ Wd ⟨w0, S0, []⟩ Sv215 [.box b5 [.int .i64 wv1.Now, .int .i64 wv1.Order, .slice p2 wv1.Items.length k3] 29] [SlA p2 wv1.Items.length k3 wv1.Items] w) 0 hsh ⟨Sv22, (hs.wk rfl), (hw.ft [0] [0] (by decide) rfl rfl)⟩ ?_
 repeat clear hsh
 rintro sv143 a w tv252 ⟨Sv215, hs, hw⟩ hsh hd251
 delta link_Valid_l2 at hsh
 refine sr ?_
 refine sv hs (y_lss rfl rfl) rfl fun a hs => ?_
 refine nl ?_
 refine wp_seq ?_
 refine wp_cond_split (hs.ev rfl) (fun h256 => ?_) (fun h256 => ?_)
 ·have hsh := ite_t hsh h256
  refine wp_skip ?_
  refine then_normal ?_
  refine wp_seq ?_
  refine wp_block ?_
  refine sr ?_
  refine mv hs rfl rfl fun a hs => ?_
  obtain ⟨x293, h291, hsh⟩ := bind_t hsh
  obtain ⟨b299, o300, q297, c298, h301, h294, h295, h296, h292⟩ := hw.elemV 0 rfl h291
  have hsv302 := hs
  have hwv303 := hw
  subst h301
  have hs := hsv302
  have hw := hwv303
  obtain ⟨_, _, _, rfl, rfl, rfl, rfl⟩ := h292
  have hw := hw.addE h296
  refine sv hs (y_indexAt Try.runUnderlying27 Try.sizeOf47 rfl rfl h294.1 h294.2 h295) rfl fun a hs => ?_
  refine sv hs (y_loadEA (j := 0) (hw.ceAt 0 rfl) rfl Try.isAgg47 Try.sizeOf47 rfl rfl) rfl fun a hs => ?_
  refine w_alloc (cs := [.int .i64 0, .int .i64 0, .string ByteArray.empty]) hs hw Try.zeroValue47 rfl rfl trivial ?_
  intro b304 a w hs hw
  refine av hs rfl rfl fun a hs => ?_
  refine w_store (m := 3) (cs' := [.int .i64 x293.At, .int .i64 x293.Order, .string x293.Data]) hs hw 0 rfl rfl rfl Try.sizeOf47 rfl rfl rfl rfl trivial ?_
  intro a w hs hw
  refine nl ?_
  refine wp_seq ?_
  obtain ⟨c307, hc307, hsh⟩ := bind_t hsh
  obtain ⟨c310, hc310, hsh⟩ := bind_t hsh
  obtain ⟨c322, hc322, hsh⟩ := bind_t hsh
  refine wp_only (fun a w => ∃ (Sv323 : Nat → Prop), Sl 67 [(1, .pointer (some ⟨b5, 0, none⟩)), (22, .slice (some ⟨b299, o300, none⟩) wv1.Items.length k3), (23, .int .i64 (wv1.Items.length : Int)), (24, .int .i64 sv143), (65, .bool c322)] a ∧ Wd ⟨w0, S0, []⟩ Sv323 [.box b5 [.int .i64 wv1.Now, .int .i64 wv1.Order, .slice (some ⟨b299, o300, none⟩) wv1.Items.length k3] 29] [SlA (some ⟨b299, o300, none⟩) wv1.Items.length k3 wv1.Items] w) ?_ ?_
  ·rcases Bool.eq_false_or_eq_true (decide (4096 < (x293.Data.size : Int))) with h324 | h324
   ·have h325 := ite_t hc307 h324
    have h326 : c307 = true := (Option.some.inj h325).symm
    have h327 := ite_t hc310 h326
    have h328 : c310 = true := (Option.some.inj h327).symm
    have h329 := ite_t hc322 h328
    refine h_b (C := Cls [.box b304 [.int .i64 x293.At, .int .i64 x293.Order, .string x293.Data] 47, .box b5 [.int .i64 wv1.Now, .int .i64 wv1.Order, .slice (some ⟨b299, o300, none⟩) wv1.Items.length k3] 29] [CeA b299 q297 [.int .i64 x293.At, .int .i64 x293.Order, .string x293.Data]]) (by kernel_rfl) rfl (hw.drew.cs [0, 1] [0] rfl rfl) fun hC => ?_
    have hw := hw.drew
    refine gv hs 0 rfl rfl hC (fun w hC => y_fieldAddr (o' := 2) Try.runUnderlying47 rfl Try.sizeOf9 rfl rfl rfl) fun a hs => ?_
    refine gv hs 1 rfl rfl hC (fun w hC => y_loadB1 (hC.ownAt 0 rfl) rfl Try.isAgg9 rfl) fun a hs => ?_
    refine gv hs 2 rfl rfl hC (fun w hC => y_lenS Try.runUnderlying9 rfl) fun a hs => ?_
    refine gv hs 3 rfl rfl hC (fun w hC => y_gtr rfl rfl) fun a hs => ?_
    refine gm hs 4 rfl rfl rfl hC fun a hs => ?_
    have hs := hs.fix 33 (.bool true) rfl (vb h324)
    refine gs hs 5 rfl rfl rfl rfl hC fun a hs => ?_
    refine gs hs 6 rfl rfl rfl rfl hC fun a hs => ?_
    refine gs hs 7 rfl rfl rfl rfl hC fun a hs => ?_
    refine gs hs 8 rfl rfl rfl rfl hC fun a hs => ?_
    refine gs hs 9 rfl rfl rfl rfl hC fun a hs => ?_
    refine gs hs 10 rfl rfl rfl rfl hC fun a hs => ?_
    refine gs hs 11 rfl rfl rfl rfl hC fun a hs => ?_
    refine gv hs 12 rfl rfl hC (fun w hC => y_pickTE (v := .bool c307) rfl rfl (vbs h325)) fun a hs => ?_
    refine gm hs 13 rfl rfl rfl hC fun a hs => ?_
    have hs := hs.fix 42 (.bool true) rfl (vb h326)
    refine gs hs 14 rfl rfl rfl rfl hC fun a hs => ?_
    refine gs hs 15 rfl rfl rfl rfl hC fun a hs => ?_
    refine gs hs 16 rfl rfl rfl rfl hC fun a hs => ?_
    refine gs hs 17 rfl rfl rfl rfl hC fun a hs => ?_
    refine gs hs 18 rfl rfl rfl rfl hC fun a hs => ?_
    refine gs hs 19 rfl rfl rfl rfl hC fun a hs => ?_
    refine gs hs 20 rfl rfl rfl rfl hC fun a hs => ?_
    refine gv hs 21 rfl rfl hC (fun w hC => y_pickTE (v := .bool c310) rfl rfl (vbs h327)) fun a hs => ?_
    refine gm hs 22 rfl rfl rfl hC fun a hs => ?_
    have hs := hs.fix 51 (.bool true) rfl (vb h328)
    refine gs hs 23 rfl rfl rfl rfl hC fun a hs => ?_
    refine gs hs 24 rfl rfl rfl rfl hC fun a hs => ?_
    refine gs hs 25 rfl rfl rfl rfl hC fun a hs => ?_
    refine h_s hs 26 rfl (by kernel_rfl) rfl rfl rfl (.inr rfl) rfl rfl hC fun a hs => ?_
    refine h_s hs 27 rfl (by kernel_rfl) rfl rfl rfl (.inr rfl) rfl rfl hC fun a hs => ?_
    refine h_s hs 28 rfl (by kernel_rfl) rfl rfl rfl (.inr rfl) rfl rfl hC fun a hs => ?_
    refine h_s hs 29 rfl (by kernel_rfl) rfl rfl rfl (.inr rfl) rfl rfl hC fun a hs => ?_
    refine h_s hs 30 rfl (by kernel_rfl) rfl rfl rfl (.inr rfl) rfl rfl hC fun a hs => ?_
    refine h_s hs 31 rfl (by kernel_rfl) rfl rfl rfl (.inr rfl) rfl rfl hC fun a hs => ?_
    refine h_s hs 32 rfl (by kernel_rfl) rfl rfl rfl (.inr rfl) rfl rfl hC fun a hs => ?_
    refine h_s hs 33 rfl (by kernel_rfl) rfl rfl rfl (.inr rfl) rfl rfl hC fun a hs => ?_
    refine h_s hs 34 rfl (by kernel_rfl) rfl rfl rfl (.inr rfl) rfl rfl hC fun a hs => ?_
    refine gs hs 35 rfl rfl rfl rfl hC fun a hs => ?_
    refine gv hs 36 rfl rfl hC (fun w hC => y_pickTE (v := .bool c322) rfl rfl (vbs h329)) fun a hs => ?_
    refine h_done (by kernel_rfl) ?_
    exact ⟨Sv215, (hs.wk rfl), (hw.ft [1] [1] (by decide) rfl rfl)⟩
   have h330 := ite_f hc307 h324
   obtain ⟨rv332, h331, h330⟩ := bind_t h330
   rcases Bool.eq_false_or_eq_true c307 with h333 | h333
   ·have h334 := ite_t hc310 h333
    have h335 : c310 = true := (Option.some.inj h334).symm
    have h336 := ite_t hc322 h335
    refine h_b (C := Cls [.box b304 [.int .i64 x293.At, .int .i64 x293.Order, .string x293.Data] 47, .box b5 [.int .i64 wv1.Now, .int .i64 wv1.Order, .slice (some ⟨b299, o300, none⟩) wv1.Items.length k3] 29] [CeA b299 q297 [.int .i64 x293.At, .int .i64 x293.Order, .string x293.Data]]) (by kernel_rfl) rfl (hw.drew.cs [0, 1] [0] rfl rfl) fun hC => ?_
    have hw := hw.drew
    refine gv hs 0 rfl rfl hC (fun w hC => y_fieldAddr (o' := 2) Try.runUnderlying47 rfl Try.sizeOf9 rfl rfl rfl) fun a hs => ?_
    refine gv hs 1 rfl rfl hC (fun w hC => y_loadB1 (hC.ownAt 0 rfl) rfl Try.isAgg9 rfl) fun a hs => ?_
    refine gv hs 2 rfl rfl hC (fun w hC => y_lenS Try.runUnderlying9 rfl) fun a hs => ?_
    refine gv hs 3 rfl rfl hC (fun w hC => y_gtr rfl rfl) fun a hs => ?_
    refine gm hs 4 rfl rfl rfl hC fun a hs => ?_
    have hs := hs.fix 33 (.bool false) rfl (vb h324)
    refine gt hs 5 rfl ⟨_, rfl, rfl⟩ rfl hC (fun w hC => y_fieldAddr (o' := 0) Try.runUnderlying47 rfl Try.sizeOf3 rfl rfl rfl) fun a hs => ?_
    refine gt hs 6 rfl ⟨_, rfl, rfl⟩ rfl hC (fun w hC => y_loadB1 (hC.ownAt 0 rfl) rfl Try.isAgg3 rfl) fun a hs => ?_
    refine gt hs 7 rfl ⟨_, rfl, rfl⟩ rfl hC (fun w hC => y_fieldAddr (o' := 0) Try.runUnderlying29 rfl Try.sizeOf3 rfl rfl rfl) fun a hs => ?_
    refine gt hs 8 rfl ⟨_, rfl, rfl⟩ rfl hC (fun w hC => y_loadB1 (hC.ownAt 1 rfl) rfl Try.isAgg3 rfl) fun a hs => ?_
    refine gt hs 9 rfl ⟨_, rfl, rfl⟩ rfl hC (fun w hC => y_add rfl rfl) fun a hs => ?_
    refine ho 10 rfl ?_
    refine st_callR hs (link_in_ok h331 hw.bdom) (do_call Try.call36 rfl) ⟨_, rfl, rfl⟩ rfl rfl ?_
    intro v340 Sv337 w a h338 h339 hs
    subst h339
    have hw := hw.callB h338
    refine h_nx (hw.cs [0, 1] [0] rfl rfl) fun hC => ?_
    refine gt hs 11 rfl ⟨_, rfl, rfl⟩ rfl hC (fun w hC => y_not rfl) fun a hs => ?_
    refine gv hs 12 rfl rfl hC (fun w hC => y_pickFE (v := .bool c307) rfl rfl (vbs h330)) fun a hs => ?_
    refine gm hs 13 rfl rfl rfl hC fun a hs => ?_
    have hs := hs.fix 42 (.bool true) rfl (vb h333)
    refine gs hs 14 rfl rfl rfl rfl hC fun a hs => ?_
    refine gs hs 15 rfl rfl rfl rfl hC fun a hs => ?_
    refine gs hs 16 rfl rfl rfl rfl hC fun a hs => ?_
    refine gs hs 17 rfl rfl rfl rfl hC fun a hs => ?_
    refine gs hs 18 rfl rfl rfl rfl hC fun a hs => ?_
    refine gs hs 19 rfl rfl rfl rfl hC fun a hs => ?_
    refine gs hs 20 rfl rfl rfl rfl hC fun a hs => ?_
    refine gv hs 21 rfl rfl hC (fun w hC => y_pickTE (v := .bool c310) rfl rfl (vbs h334)) fun a hs => ?_
    refine gm hs 22 rfl rfl rfl hC fun a hs => ?_
    have hs := hs.fix 51 (.bool true) rfl (vb h335)
    refine gs hs 23 rfl rfl rfl rfl hC fun a hs => ?_
    refine gs hs 24 rfl rfl rfl rfl hC fun a hs => ?_
    refine gs hs 25 rfl rfl rfl rfl hC fun a hs => ?_
    refine h_s hs 26 rfl (by kernel_rfl) rfl rfl rfl (.inr rfl) rfl rfl hC fun a hs => ?_
    refine h_s hs 27 rfl (by kernel_rfl) rfl rfl rfl (.inr rfl) rfl rfl hC fun a hs => ?_
    refine h_s hs 28 rfl (by kernel_rfl) rfl rfl rfl (.inr rfl) rfl rfl hC fun a hs => ?_
    refine h_s hs 29 rfl (by kernel_rfl) rfl rfl rfl (.inr rfl) rfl rfl hC fun a hs => ?_
    refine h_s hs 30 rfl (by kernel_rfl) rfl rfl rfl (.inr rfl) rfl rfl hC fun a hs => ?_
    refine h_s hs 31 rfl (by kernel_rfl) rfl rfl rfl (.inr rfl) rfl rfl hC fun a hs => ?_
    refine h_s hs 32 rfl (by kernel_rfl) rfl rfl rfl (.inr rfl) rfl rfl hC fun a hs => ?_
    refine h_s hs 33 rfl (by kernel_rfl) rfl rfl rfl (.inr rfl) rfl rfl hC fun a hs => ?_
    refine h_s hs 34 rfl (by kernel_rfl) rfl rfl rfl (.inr rfl) rfl rfl hC fun a hs => ?_
    refine gs hs 35 rfl rfl rfl rfl hC fun a hs => ?_
    refine gv hs 36 rfl rfl hC (fun w hC => y_pickTE (v := .bool c322) rfl rfl (vbs h336)) fun a hs => ?_
    refine h_done (by kernel_rfl) ?_
    exact ⟨Sv215, (hs.wk rfl), (hw.ft [1] [1] (by decide) rfl rfl)⟩
   have h342 := ite_f hc310 h333
   obtain ⟨rv344, h343, h342⟩ := bind_t h342
   rcases Bool.eq_false_or_eq_true c310 with h345 | h345
   ·have h346 := ite_t hc322 h345
    refine h_b (C := Cls [.box b304 [.int .i64 x293.At, .int .i64 x293.Order, .string x293.Data] 47, .box b5 [.int .i64 wv1.Now, .int .i64 wv1.Order, .slice (some ⟨b299, o300, none⟩) wv1.Items.length k3] 29] [CeA b299 q297 [.int .i64 x293.At, .int .i64 x293.Order, .string x293.Data]]) (by kernel_rfl) rfl (hw.drew.cs [0, 1] [0] rfl rfl) fun hC => ?_
    have hw := hw.drew
    refine gv hs 0 rfl rfl hC (fun w hC => y_fieldAddr (o' := 2) Try.runUnderlying47 rfl Try.sizeOf9 rfl rfl rfl) fun a hs => ?_
    refine gv hs 1 rfl rfl hC (fun w hC => y_loadB1 (hC.ownAt 0 rfl) rfl Try.isAgg9 rfl) fun a hs => ?_
    refine gv hs 2 rfl rfl hC (fun w hC => y_lenS Try.runUnderlying9 rfl) fun a hs => ?_
    refine gv hs 3 rfl rfl hC (fun w hC => y_gtr rfl rfl) fun a hs => ?_
    refine gm hs 4 rfl rfl rfl hC fun a hs => ?_
    have hs := hs.fix 33 (.bool false) rfl (vb h324)
    refine gt hs 5 rfl ⟨_, rfl, rfl⟩ rfl hC (fun w hC => y_fieldAddr (o' := 0) Try.runUnderlying47 rfl Try.sizeOf3 rfl rfl rfl) fun a hs => ?_
    refine gt hs 6 rfl ⟨_, rfl, rfl⟩ rfl hC (fun w hC => y_loadB1 (hC.ownAt 0 rfl) rfl Try.isAgg3 rfl) fun a hs => ?_
    refine gt hs 7 rfl ⟨_, rfl, rfl⟩ rfl hC (fun w hC => y_fieldAddr (o' := 0) Try.runUnderlying29 rfl Try.sizeOf3 rfl rfl rfl) fun a hs => ?_
    refine gt hs 8 rfl ⟨_, rfl, rfl⟩ rfl hC (fun w hC => y_loadB1 (hC.ownAt 1 rfl) rfl Try.isAgg3 rfl) fun a hs => ?_
    refine gt hs 9 rfl ⟨_, rfl, rfl⟩ rfl hC (fun w hC => y_add rfl rfl) fun a hs => ?_
    refine ho 10 rfl ?_
    refine st_callR hs (link_in_ok h331 hw.bdom) (do_call Try.call36 rfl) ⟨_, rfl, rfl⟩ rfl rfl ?_
    intro v350 Sv347 w a h348 h349 hs
    subst h349
    have hw := hw.callB h348
    refine h_nx (hw.cs [0, 1] [0] rfl rfl) fun hC => ?_
    refine gt hs 11 rfl ⟨_, rfl, rfl⟩ rfl hC (fun w hC => y_not rfl) fun a hs => ?_
    refine gv hs 12 rfl rfl hC (fun w hC => y_pickFE (v := .bool c307) rfl rfl (vbs h330)) fun a hs => ?_
    refine gm hs 13 rfl rfl rfl hC fun a hs => ?_
    have hs := hs.fix 42 (.bool false) rfl (vb h333)
    refine gt hs 14 rfl ⟨_, rfl, rfl⟩ rfl hC (fun w hC => y_fieldAddr (o' := 1) Try.runUnderlying47 rfl Try.sizeOf3 rfl rfl rfl) fun a hs => ?_
    refine gt hs 15 rfl ⟨_, rfl, rfl⟩ rfl hC (fun w hC => y_loadB1 (hC.ownAt 0 rfl) rfl Try.isAgg3 rfl) fun a hs => ?_
    refine gt hs 16 rfl ⟨_, rfl, rfl⟩ rfl hC (fun w hC => y_fieldAddr (o' := 1) Try.runUnderlying29 rfl Try.sizeOf3 rfl rfl rfl) fun a hs => ?_
    refine gt hs 17 rfl ⟨_, rfl, rfl⟩ rfl hC (fun w hC => y_loadB1 (hC.ownAt 1 rfl) rfl Try.isAgg3 rfl) fun a hs => ?_
    refine gt hs 18 rfl ⟨_, rfl, rfl⟩ rfl hC (fun w hC => y_sub rfl rfl) fun a hs => ?_
    refine ho 19 rfl ?_
    refine st_callR hs (link_in_ok h343 hw.bdom) (do_call Try.call36 rfl) ⟨_, rfl, rfl⟩ rfl rfl ?_
    intro v355 Sv352 w a h353 h354 hs
    subst h354
    have hw := hw.callB h353
    refine h_nx (hw.cs [0, 1] [0] rfl rfl) fun hC => ?_
    refine gt hs 20 rfl ⟨_, rfl, rfl⟩ rfl hC (fun w hC => y_not rfl) fun a hs => ?_
    refine gv hs 21 rfl rfl hC (fun w hC => y_pickFE (v := .bool c310) rfl rfl (vbs h342)) fun a hs => ?_
    refine gm hs 22 rfl rfl rfl hC fun a hs => ?_
    have hs := hs.fix 51 (.bool true) rfl (vb h345)
    refine gs hs 23 rfl rfl rfl rfl hC fun a hs => ?_
    refine gs hs 24 rfl rfl rfl rfl hC fun a hs => ?_
    refine gs hs 25 rfl rfl rfl rfl hC fun a hs => ?_
    refine h_s hs 26 rfl (by kernel_rfl) rfl rfl rfl (.inr rfl) rfl rfl hC fun a hs => ?_
    refine h_s hs 27 rfl (by kernel_rfl) rfl rfl rfl (.inr rfl) rfl rfl hC fun a hs => ?_
    refine h_s hs 28 rfl (by kernel_rfl) rfl rfl rfl (.inr rfl) rfl rfl hC fun a hs => ?_
    refine h_s hs 29 rfl (by kernel_rfl) rfl rfl rfl (.inr rfl) rfl rfl hC fun a hs => ?_
    refine h_s hs 30 rfl (by kernel_rfl) rfl rfl rfl (.inr rfl) rfl rfl hC fun a hs => ?_
    refine h_s hs 31 rfl (by kernel_rfl) rfl rfl rfl (.inr rfl) rfl rfl hC fun a hs => ?_
    refine h_s hs 32 rfl (by kernel_rfl) rfl rfl rfl (.inr rfl) rfl rfl hC fun a hs => ?_
    refine h_s hs 33 rfl (by kernel_rfl) rfl rfl rfl (.inr rfl) rfl rfl hC fun a hs => ?_
    refine h_s hs 34 rfl (by kernel_rfl) rfl rfl rfl (.inr rfl) rfl rfl hC fun a hs => ?_
    refine gs hs 35 rfl rfl rfl rfl hC fun a hs => ?_
    refine gv hs 36 rfl rfl hC (fun w hC => y_pickTE (v := .bool c322) rfl rfl (vbs h346)) fun a hs => ?_
    refine h_done (by kernel_rfl) ?_
    exact ⟨Sv215, (hs.wk rfl), (hw.ft [1] [1] (by decide) rfl rfl)⟩
   have h357 := ite_f hc322 h345
   obtain ⟨c368, hc368, h357⟩ := bind_t h357
   rcases Bool.eq_false_or_eq_true (decide (0 < sv143)) with h369 | h369
   ·have h370 := ite_t hc368 h369
    obtain ⟨x373, h371, h370⟩ := bind_t h370
    obtain ⟨q377, c378, h374, h375, h376, h372⟩ := hw.elemK 1 rfl h371
    obtain ⟨_, _, _, rfl, rfl, rfl, rfl⟩ := h372
    have hw := hw.addE h376
    obtain ⟨rv380, h379, h370⟩ := bind_t h370
    refine h_b (C := Cls [.box b304 [.int .i64 x293.At, .int .i64 x293.Order, .string x293.Data] 47, .box b5 [.int .i64 wv1.Now, .int .i64 wv1.Order, .slice (some ⟨b299, o300, none⟩) wv1.Items.length k3] 29] [CeA b299 q377 [.int .i64 x373.At, .int .i64 x373.Order, .string x373.Data], CeA b299 q297 [.int .i64 x293.At, .int .i64 x293.Order, .string x293.Data]]) (by kernel_rfl) rfl (hw.drew.cs [0, 1] [0, 1] rfl rfl) fun hC => ?_
    have hw := hw.drew
    refine gv hs 0 rfl rfl hC (fun w hC => y_fieldAddr (o' := 2) Try.runUnderlying47 rfl Try.sizeOf9 rfl rfl rfl) fun a hs => ?_
    refine gv hs 1 rfl rfl hC (fun w hC => y_loadB1 (hC.ownAt 0 rfl) rfl Try.isAgg9 rfl) fun a hs => ?_
    refine gv hs 2 rfl rfl hC (fun w hC => y_lenS Try.runUnderlying9 rfl) fun a hs => ?_
    refine gv hs 3 rfl rfl hC (fun w hC => y_gtr rfl rfl) fun a hs => ?_
    refine gm hs 4 rfl rfl rfl hC fun a hs => ?_
    have hs := hs.fix 33 (.bool false) rfl (vb h324)
    refine gt hs 5 rfl ⟨_, rfl, rfl⟩ rfl hC (fun w hC => y_fieldAddr (o' := 0) Try.runUnderlying47 rfl Try.sizeOf3 rfl rfl rfl) fun a hs => ?_
    refine gt hs 6 rfl ⟨_, rfl, rfl⟩ rfl hC (fun w hC => y_loadB1 (hC.ownAt 0 rfl) rfl Try.isAgg3 rfl) fun a hs => ?_
    refine gt hs 7 rfl ⟨_, rfl, rfl⟩ rfl hC (fun w hC => y_fieldAddr (o' := 0) Try.runUnderlying29 rfl Try.sizeOf3 rfl rfl rfl) fun a hs => ?_
    refine gt hs 8 rfl ⟨_, rfl, rfl⟩ rfl hC (fun w hC => y_loadB1 (hC.ownAt 1 rfl) rfl Try.isAgg3 rfl) fun a hs => ?_
    refine gt hs 9 rfl ⟨_, rfl, rfl⟩ rfl hC (fun w hC => y_add rfl rfl) fun a hs => ?_
    refine ho 10 rfl ?_
    refine st_callR hs (link_in_ok h331 hw.bdom) (do_call Try.call36 rfl) ⟨_, rfl, rfl⟩ rfl rfl ?_
    intro v384 Sv381 w a h382 h383 hs
    subst h383
    have hw := hw.callB h382
    refine h_nx (hw.cs [0, 1] [0, 1] rfl rfl) fun hC => ?_
    refine gt hs 11 rfl ⟨_, rfl, rfl⟩ rfl hC (fun w hC => y_not rfl) fun a hs => ?_
    refine gv hs 12 rfl rfl hC (fun w hC => y_pickFE (v := .bool c307) rfl rfl (vbs h330)) fun a hs => ?_
    refine gm hs 13 rfl rfl rfl hC fun a hs => ?_
    have hs := hs.fix 42 (.bool false) rfl (vb h333)
    refine gt hs 14 rfl ⟨_, rfl, rfl⟩ rfl hC (fun w hC => y_fieldAddr (o' := 1) Try.runUnderlying47 rfl Try.sizeOf3 rfl rfl rfl) fun a hs => ?_
    refine gt hs 15 rfl ⟨_, rfl, rfl⟩ rfl hC (fun w hC => y_loadB1 (hC.ownAt 0 rfl) rfl Try.isAgg3 rfl) fun a hs => ?_
    refine gt hs 16 rfl ⟨_, rfl, rfl⟩ rfl hC (fun w hC => y_fieldAddr (o' := 1) Try.runUnderlying29 rfl Try.sizeOf3 rfl rfl rfl) fun a hs => ?_
    refine gt hs 17 rfl ⟨_, rfl, rfl⟩ rfl hC (fun w hC => y_loadB1 (hC.ownAt 1 rfl) rfl Try.isAgg3 rfl) fun a hs => ?_
    refine gt hs 18 rfl ⟨_, rfl, rfl⟩ rfl hC (fun w hC => y_sub rfl rfl) fun a hs => ?_
    refine ho 19 rfl ?_
    refine st_callR hs (link_in_ok h343 hw.bdom) (do_call Try.call36 rfl) ⟨_, rfl, rfl⟩ rfl rfl ?_
    intro v389 Sv386 w a h387 h388 hs
    subst h388
    have hw := hw.callB h387
    refine h_nx (hw.cs [0, 1] [0, 1] rfl rfl) fun hC => ?_
    refine gt hs 20 rfl ⟨_, rfl, rfl⟩ rfl hC (fun w hC => y_not rfl) fun a hs => ?_
    refine gv hs 21 rfl rfl hC (fun w hC => y_pickFE (v := .bool c310) rfl rfl (vbs h342)) fun a hs => ?_
    refine gm hs 22 rfl rfl rfl hC fun a hs => ?_
    have hs := hs.fix 51 (.bool false) rfl (vb h345)
    refine gt hs 23 rfl ⟨_, rfl, rfl⟩ rfl hC (fun w hC => y_move rfl) fun a hs => ?_
    refine gt hs 24 rfl ⟨_, rfl, rfl⟩ rfl hC (fun w hC => y_gtr rfl rfl) fun a hs => ?_
    refine gt hs 25 rfl ⟨_, rfl, rfl⟩ rfl hC (fun w hC => y_move rfl) fun a hs => ?_
    have hs := hs.fix 54 (.bool true) rfl (vb h369)
    refine gt hs 26 rfl ⟨_, rfl, rfl⟩ rfl hC (fun w hC => y_fieldAddr (o' := 2) Try.runUnderlying29 rfl Try.sizeOf27 rfl rfl rfl) fun a hs => ?_
    refine gt hs 27 rfl ⟨_, rfl, rfl⟩ rfl hC (fun w hC => y_loadB1 (hC.ownAt 1 rfl) rfl Try.isAgg27 rfl) fun a hs => ?_
    refine gt hs 28 rfl ⟨_, rfl, rfl⟩ rfl hC (fun w hC => y_move rfl) fun a hs => ?_
    refine gt hs 29 rfl ⟨_, rfl, rfl⟩ rfl hC (fun w hC => y_sub rfl rfl) fun a hs => ?_
    refine gt hs 30 rfl ⟨_, rfl, rfl⟩ rfl hC (fun w hC => y_indexAt Try.runUnderlying27 Try.sizeOf47 rfl rfl h374.1 h374.2 h375) fun a hs => ?_
    refine gt hs 31 rfl ⟨_, rfl, rfl⟩ rfl hC (fun w hC => y_loadEA (j := 0) (hC.ceAt 0 rfl) rfl Try.isAgg47 Try.sizeOf47 rfl rfl) fun a hs => ?_
    refine gt hs 32 rfl ⟨_, rfl, rfl⟩ rfl hC (fun w hC => y_loadBA (hC.ownAt 0 rfl) rfl Try.isAgg47 Try.sizeOf47 rfl rfl) fun a hs => ?_
    refine ho 33 rfl ?_
    refine st_callR hs (link_order_ok h379 hw.bdom) (do_call Try.call33 rfl) ⟨_, rfl, rfl⟩ rfl rfl ?_
    intro v394 Sv391 w a h392 h393 hs
    subst h393
    have hw := hw.callB h392
    refine h_nx (hw.cs [0, 1] [0, 1] rfl rfl) fun hC => ?_
    refine gt hs 34 rfl ⟨_, rfl, rfl⟩ rfl hC (fun w hC => y_geq rfl rfl) fun a hs => ?_
    refine gt hs 35 rfl ⟨_, rfl, rfl⟩ rfl hC (fun w hC => y_pickTE (v := .bool c368) rfl rfl (vbs h370)) fun a hs => ?_
    refine gv hs 36 rfl rfl hC (fun w hC => y_pickFE (v := .bool c322) rfl rfl (vbs h357)) fun a hs => ?_
    refine h_done (by kernel_rfl) ?_
    exact ⟨Sv215, (hs.wk rfl), (hw.ft [1] [2] (by decide) rfl rfl)⟩
   have h396 := ite_f hc368 h369
   refine h_b (C := Cls [.box b304 [.int .i64 x293.At, .int .i64 x293.Order, .string x293.Data] 47, .box b5 [.int .i64 wv1.Now, .int .i64 wv1.Order, .slice (some ⟨b299, o300, none⟩) wv1.Items.length k3] 29] [CeA b299 q297 [.int .i64 x293.At, .int .i64 x293.Order, .string x293.Data]]) (by kernel_rfl) rfl (hw.drew.cs [0, 1] [0] rfl rfl) fun hC => ?_
   have hw := hw.drew
   refine gv hs 0 rfl rfl hC (fun w hC => y_fieldAddr (o' := 2) Try.runUnderlying47 rfl Try.sizeOf9 rfl rfl rfl) fun a hs => ?_
   refine gv hs 1 rfl rfl hC (fun w hC => y_loadB1 (hC.ownAt 0 rfl) rfl Try.isAgg9 rfl) fun a hs => ?_
   refine gv hs 2 rfl rfl hC (fun w hC => y_lenS Try.runUnderlying9 rfl) fun a hs => ?_
   refine gv hs 3 rfl rfl hC (fun w hC => y_gtr rfl rfl) fun a hs => ?_
   refine gm hs 4 rfl rfl rfl hC fun a hs => ?_
   have hs := hs.fix 33 (.bool false) rfl (vb h324)
   refine gt hs 5 rfl ⟨_, rfl, rfl⟩ rfl hC (fun w hC => y_fieldAddr (o' := 0) Try.runUnderlying47 rfl Try.sizeOf3 rfl rfl rfl) fun a hs => ?_
   refine gt hs 6 rfl ⟨_, rfl, rfl⟩ rfl hC (fun w hC => y_loadB1 (hC.ownAt 0 rfl) rfl Try.isAgg3 rfl) fun a hs => ?_
   refine gt hs 7 rfl ⟨_, rfl, rfl⟩ rfl hC (fun w hC => y_fieldAddr (o' := 0) Try.runUnderlying29 rfl Try.sizeOf3 rfl rfl rfl) fun a hs => ?_
   refine gt hs 8 rfl ⟨_, rfl, rfl⟩ rfl hC (fun w hC => y_loadB1 (hC.ownAt 1 rfl) rfl Try.isAgg3 rfl) fun a hs => ?_
   refine gt hs 9 rfl ⟨_, rfl, rfl⟩ rfl hC (fun w hC => y_add rfl rfl) fun a hs => ?_
   refine ho 10 rfl ?_
   refine st_callR hs (link_in_ok h331 hw.bdom) (do_call Try.call36 rfl) ⟨_, rfl, rfl⟩ rfl rfl ?_
   intro v400 Sv397 w a h398 h399 hs
   subst h399
   have hw := hw.callB h398
   refine h_nx (hw.cs [0, 1] [0] rfl rfl) fun hC => ?_
   refine gt hs 11 rfl ⟨_, rfl, rfl⟩ rfl hC (fun w hC => y_not rfl) fun a hs => ?_
   refine gv hs 12 rfl rfl hC (fun w hC => y_pickFE (v := .bool c307) rfl rfl (vbs h330)) fun a hs => ?_
   refine gm hs 13 rfl rfl rfl hC fun a hs => ?_
   have hs := hs.fix 42 (.bool false) rfl (vb h333)
   refine gt hs 14 rfl ⟨_, rfl, rfl⟩ rfl hC (fun w hC => y_fieldAddr (o' := 1) Try.runUnderlying47 rfl Try.sizeOf3 rfl rfl rfl) fun a hs => ?_
   refine gt hs 15 rfl ⟨_, rfl, rfl⟩ rfl hC (fun w hC => y_loadB1 (hC.ownAt 0 rfl) rfl Try.isAgg3 rfl) fun a hs => ?_
   refine gt hs 16 rfl ⟨_, rfl, rfl⟩ rfl hC (fun w hC => y_fieldAddr (o' := 1) Try.runUnderlying29 rfl Try.sizeOf3 rfl rfl rfl) fun a hs => ?_
   refine gt hs 17 rfl ⟨_, rfl, rfl⟩ rfl hC (fun w hC => y_loadB1 (hC.ownAt 1 rfl) rfl Try.isAgg3 rfl) fun a hs => ?_
   refine gt hs 18 rfl ⟨_, rfl, rfl⟩ rfl hC (fun w hC => y_sub rfl rfl) fun a hs => ?_
   refine ho 19 rfl ?_
   refine st_callR hs (link_in_ok h343 hw.bdom) (do_call Try.call36 rfl) ⟨_, rfl, rfl⟩ rfl rfl ?_
   intro v405 Sv402 w a h403 h404 hs
   subst h404
   have hw := hw.callB h403
   refine h_nx (hw.cs [0, 1] [0] rfl rfl) fun hC => ?_
   refine gt hs 20 rfl ⟨_, rfl, rfl⟩ rfl hC (fun w hC => y_not rfl) fun a hs => ?_
   refine gv hs 21 rfl rfl hC (fun w hC => y_pickFE (v := .bool c310) rfl rfl (vbs h342)) fun a hs => ?_
   refine gm hs 22 rfl rfl rfl hC fun a hs => ?_
   have hs := hs.fix 51 (.bool false) rfl (vb h345)
   refine gt hs 23 rfl ⟨_, rfl, rfl⟩ rfl hC (fun w hC => y_move rfl) fun a hs => ?_
   refine gt hs 24 rfl ⟨_, rfl, rfl⟩ rfl hC (fun w hC => y_gtr rfl rfl) fun a hs => ?_
   refine gt hs 25 rfl ⟨_, rfl, rfl⟩ rfl hC (fun w hC => y_move rfl) fun a hs => ?_
   have hs := hs.fix 54 (.bool false) rfl (vb h369)
   refine gs hs 26 rfl rfl rfl rfl hC fun a hs => ?_
   refine gs hs 27 rfl rfl rfl rfl hC fun a hs => ?_
   refine gs hs 28 rfl rfl rfl rfl hC fun a hs => ?_
   refine gs hs 29 rfl rfl rfl rfl hC fun a hs => ?_
   refine gs hs 30 rfl rfl rfl rfl hC fun a hs => ?_
   refine gs hs 31 rfl rfl rfl rfl hC fun a hs => ?_
   refine gs hs 32 rfl rfl rfl rfl hC fun a hs => ?_
   refine gs hs 33 rfl rfl rfl rfl hC fun a hs => ?_
   refine gs hs 34 rfl rfl rfl rfl hC fun a hs => ?_
   refine gt hs 35 rfl ⟨_, rfl, rfl⟩ rfl hC (fun w hC => y_pickFE (v := .bool c368) rfl rfl (vbs h396)) fun a hs => ?_
   refine gv hs 36 rfl rfl hC (fun w hC => y_pickFE (v := .bool c322) rfl rfl (vbs h357)) fun a hs => ?_
   refine h_done (by kernel_rfl) ?_
   exact ⟨Sv215, (hs.wk rfl), (hw.ft [1] [1] (by decide) rfl rfl)⟩
  rintro a w ⟨Sv323, hs, hw⟩
  refine then_normal ?_
  refine wp_cond_split (hs.ev rfl) (fun h408 => ?_) (fun h408 => ?_)
  ·have hsh := ite_t hsh h408
   refine sr ?_
   refine av hs rfl rfl fun a hs => ?_
   refine nl ?_
   have hsh := oi hsh
   subst hsh
   have h409 := hd251 _ rfl
   subst h409
   refine wp_ret ?_
   refine blk_ret ?_
   refine then_ret ?_
   refine then_ret ?_
   refine blk_ret ?_
   refine then_ret ?_
   exact ret1 hs rfl (rv_tmp rfl) (hw.ret rfl)
  have hsh := ite_f hsh h408
  refine wp_skip ?_
  refine blk_normal ?_
  refine then_normal ?_
  refine wp_region_lit ?_
  refine sv hs (y_add rfl rfl) rfl fun a hs => ?_
  refine mv hs rfl rfl fun a hs => ?_
  refine nl ?_
  exact ⟨_, (Option.some.inj hsh).symm, Sv323, (hs.wk rfl), (hw.ft [0] [0] (by decide) rfl rfl)⟩
 have hsh := ite_f hsh h256
 obtain ⟨rv410, hsh, h411⟩ := map_t hsh
 have h411 := (hd251 _ h411.symm).symm
 subst h411
 refine wp_exit ?_
 refine then_exit ?_
 refine then_exit ?_
 refine blk_exit ?_
 refine then_normal ?_
 refine sr ?_
 refine av hs rfl rfl fun a hs => ?_
 refine nl ?_
 have hsh := oi hsh
 subst hsh
 refine wp_ret ?_
 exact ret1 hs rfl (rv_tmp rfl) (hw.ret rfl)

abbrev link_ValidFault_rd (w0 : World) (X : List Nat) (r : Bool) : (Nat → Prop) → World → Value → Prop := fun S w v => v = .bool r
set_option maxHeartbeats 4000000 in
set_option maxRecDepth 100000 in
theorem link_ValidFault_ok {w0 : World} {S0 : Nat → Prop} {f1 : Fault} {r : Bool} (hsh : link_ValidFault f1 = some r) (hS : ∀ b, S0 b → b < w0.heap.size) : Calls Try.prog 22 #[.agg #[.bool f1.Drop, .int .i64 f1.Delay, .int .i64 f1.Copies]] w0 (Ret ([]) w0 S0 (link_ValidFault_rd w0 ([]) r)) := by
 refine calls_of_wp Try.func22 rfl ?_
 have hs := Sl.enter #[.agg #[.bool f1.Drop, .int .i64 f1.Delay, .int .i64 f1.Copies]] 11 [(0, .agg #[.bool f1.Drop, .int .i64 f1.Delay, .int .i64 f1.Copies])] rfl ⟨rfl, trivial⟩
 have hw := Wd.enter (E := []) hS (fun _ h => (by cases h))
 delta link_ValidFault at hsh
 refine sr ?_
 refine w_box (cs := [.bool f1.Drop, .int .i64 f1.Delay, .int .i64 f1.Copies]) hs hw rfl rfl rfl trivial ?_
 intro b2 a w hs hw
 refine av hs rfl rfl fun a hs => ?_
 refine nl ?_
 refine sr ?_
 refine sv hs (y_fieldAddr (o' := 1) Try.runUnderlying32 rfl Try.sizeOf3 rfl rfl rfl) rfl fun a hs => ?_
 refine sv hs (y_loadB1 (hw.ownAt 0 rfl) rfl Try.isAgg3 rfl) rfl fun a hs => ?_
 obtain ⟨rv4, h3, hsh⟩ := bind_t hsh
 refine st_callR hs (link_in_ok h3 hw.bdom) (do_call Try.call36 rfl) trivial rfl rfl ?_
 intro v8 Sv5 w a h6 h7 hs
 subst h7
 have hw := hw.callB h6
 refine mv hs rfl rfl fun a hs => ?_
 obtain ⟨c18, hc18, hsh⟩ := bind_t hsh
 refine wpl_join 4 (fun a w => ∃ (Sv19 : Nat → Prop), Sl 11 [(10, .bool c18)] a ∧ Wd ⟨w0, S0, []⟩ Sv19 [] [] w) ?_ ?_
 ·rcases Bool.eq_false_or_eq_true rv4 with h17 | h17
  ·have hs := hs.fix 6 (.bool true) rfl (vb h17)
   have hsh := ite_t hc18 h17
   refine st_val hs (y_fieldAddr (o' := 2) Try.runUnderlying32 rfl Try.sizeOf3 rfl rfl rfl) ⟨_, rfl, rfl⟩ rfl rfl fun a hs => ?_
   refine st_val hs (y_loadB1 (hw.ownAt 0 rfl) rfl Try.isAgg3 rfl) ⟨_, rfl, rfl⟩ rfl rfl fun a hs => ?_
   obtain ⟨rv21, h20, hsh⟩ := bind_t hsh
   refine st_callR hs (link_in_ok h20 hw.bdom) (do_call Try.call36 rfl) ⟨_, rfl, rfl⟩ rfl rfl ?_
   intro v25 Sv22 w a h23 h24 hs
   subst h24
   have hw := hw.callB h23
   refine sv hs (y_pickT rfl rfl) rfl fun a hs => ?_
   refine wpList_nil ?_
   have hsh := oi hsh
   subst hsh
   refine then_normal ?_
   exact ⟨S0, (hs.wk rfl), (hw.ft [] [] (by decide) rfl rfl)⟩
  have hs := hs.fix 6 (.bool false) rfl (vb h17)
  have hsh := ite_f hc18 h17
  refine st_skip hs rfl rfl rfl rfl rfl fun a hs => ?_
  refine st_skip hs rfl rfl rfl rfl rfl fun a hs => ?_
  refine st_skip hs rfl rfl rfl rfl rfl fun a hs => ?_
  refine sv hs (y_pickF rfl rfl) rfl fun a hs => ?_
  refine wpList_nil ?_
  have hsh := oi hsh
  subst hsh
  refine then_normal ?_
  exact ⟨S0, (hs.wk rfl), (hw.ft [] [] (by decide) rfl rfl)⟩
 rintro a w ⟨Sv19, hs, hw⟩
 refine av hs rfl rfl fun a hs => ?_
 refine nl ?_
 have hsh := oi hsh
 subst hsh
 refine wp_ret ?_
 exact ret1 hs rfl (rv_tmp rfl) (hw.ret rfl)

abbrev slices_Clone_Lapi_Transit_api_Transit_rd (w0 : World) (X : List Nat) (r : (List Transit)) : (Nat → Prop) → World → Value → Prop := fun S w v => ∃ (p0_0 : Option Addr) (k0_0 : Nat) (c0_0 : List Value), v = .slice p0_0 r.length k0_0 ∧ Outs X w0 S w [.row p0_0 r.length k0_0 c0_0 47 3] ∧ (RowA c0_0 r).p S w
set_option maxHeartbeats 4000000 in
set_option maxRecDepth 100000 in
theorem slices_Clone_Lapi_Transit_api_Transit_ok {w0 : World} {S0 : Nat → Prop} {p2 : Option Addr} {k3 : Nat} {s1 : (List Transit)} {r : (List Transit)} (hsh : slices_Clone_Lapi_Transit_api_Transit s1 = some r) (hS : ∀ b, S0 b → b < w0.heap.size) (h4 : (SlA p2 s1.length k3 s1).p S0 w0) : Calls Try.prog 31 #[.slice p2 s1.length k3] w0 (Ret ([]) w0 S0 (slices_Clone_Lapi_Transit_api_Transit_rd w0 ([]) r)) := by
 refine calls_of_wp Try.func31 rfl ?_
 have hs := Sl.enter #[.slice p2 s1.length k3] 8 [(0, .slice p2 s1.length k3)] rfl ⟨rfl, trivial⟩
 have hw := Wd.enter (E := []) hS (fun _ h => (by cases h))
 have hw := hw.addE h4
 delta slices_Clone_Lapi_Transit_api_Transit at hsh
 refine sr ?_
 refine av hs rfl rfl fun a hs => ?_
 refine nl ?_
 refine wp_seq ?_
 refine sr ?_
 refine mv hs rfl rfl fun a hs => ?_
 refine sv hs (y_eqlN Try.runUnderlying27 rfl rfl) rfl fun a hs => ?_
 refine nl ?_
 have hsv15 := hs
 have hwv16 := hw
 rcases p2 with _ | av8
 ·have hs := hsv15
  have hw := hwv16
  obtain rfl := slnil (hw.envAt 0 rfl)
  have hsh : some ([] : List Transit) = some r := by simpa [appM, maxLen] using hsh
  refine wp_cond_true (hs.ev rfl) ?_
  refine sr ?_
  refine av hs rfl rfl fun a hs => ?_
  refine nl ?_
  have hsh := oi hsh
  subst hsh
  have hw := hw.nilRow Transit 47
  refine wp_ret ?_
  refine then_ret ?_
  exact ret1 hs rfl (rv_tmp rfl) (hw.ret ⟨none, 0, [], rfl, (hw.outs [0] (by decide) rfl), (hw.envAt 0 rfl)⟩)
 have hs := hsv15
 have hw := hwv16
 refine wp_cond_false (hs.ev rfl) ?_
 refine wp_skip ?_
 refine then_normal ?_
 refine sr ?_
 refine w_buildSlice (α := Transit) (vs := []) (cs := []) (xs := ([] : List Transit)) hs hw El27 rfl rfl rfl rfl rfl rfl rfl rfl trivial fun p9 a w hs hw => ?_
 refine mv hs rfl rfl fun a hs => ?_
 obtain ⟨l11, h10, hsh⟩ := bind_t hsh
 refine w_appendE (α := Transit) hs hw El27 0 rfl rfl rfl 0 rfl 1 rfl h10 rfl trivial ?_
 intro p12 k13 c14 a w hs hw
 refine av hs rfl rfl fun a hs => ?_
 refine nl ?_
 have hsh := oi hsh
 subst hsh
 refine wp_ret ?_
 exact ret1 hs rfl (rv_tmp rfl) (hw.ret ⟨p12, k13, c14, rfl, (hw.outs [0] (by decide) rfl), (hw.envAt 0 rfl)⟩)

abbrev slices_BinarySearchFunc_Lapi_Transit_api_Transit_api_Transit_rd (w0 : World) (X : List Nat) (r : (Int × Bool)) : (Nat → Prop) → World → Value → Prop := fun S w v => v = .tuple #[.int .i64 r.1, .bool r.2]
set_option maxHeartbeats 4000000 in
set_option maxRecDepth 100000 in
theorem slices_BinarySearchFunc_Lapi_Transit_api_Transit_api_Transit_ok {w0 : World} {S0 : Nat → Prop} {p2 : Option Addr} {k3 : Nat} {g7 : Nat} {f8 : List Value} {cp9 : List Value} {x1 : (List Transit)} {target5 : Transit} {cmp6 : Transit → Transit → Option Int} {r : (Int × Bool)} (hsh : slices_BinarySearchFunc_Lapi_Transit_api_Transit_api_Transit x1 target5 cmp6 = some r) (hS : ∀ b, S0 b → b < w0.heap.size) (h4 : (SlA p2 x1.length k3 x1).p S0 w0) (h10 : (FnA2 Try.prog g7 f8 cp9 cmp6).p S0 w0) : Calls Try.prog 32 #[.slice p2 x1.length k3, .agg #[.int .i64 target5.At, .int .i64 target5.Order, .string target5.Data], .func (.func g7) f8.toArray cp9.toArray] w0 (Ret ([]) w0 S0 (slices_BinarySearchFunc_Lapi_Transit_api_Transit_api_Transit_rd w0 ([]) r)) := by
 refine calls_of_wp Try.func32 rfl ?_
 have hs := Sl.enter #[.slice p2 x1.length k3, .agg #[.int .i64 target5.At, .int .i64 target5.Order, .string target5.Data], .func (.func g7) f8.toArray cp9.toArray] 49 [(0, .slice p2 x1.length k3), (1, .agg #[.int .i64 target5.At, .int .i64 target5.Order, .string target5.Data]), (2, .func (.func g7) f8.toArray cp9.toArray)] rfl ⟨rfl, rfl, rfl, trivial⟩
 have hw := Wd.enter (E := []) hS (fun _ h => (by cases h))
 have hw := hw.addE h4
 have hw := hw.addE h10
 delta slices_BinarySearchFunc_Lapi_Transit_api_Transit_api_Transit at hsh
 refine sr ?_
 refine w_box (cs := [.int .i64 target5.At, .int .i64 target5.Order, .string target5.Data]) hs hw rfl rfl rfl trivial ?_
 intro b11 a w hs hw
 refine av hs rfl rfl fun a hs => ?_
 refine av hs rfl rfl fun a hs => ?_
 refine nl ?_
 refine sr ?_
 refine mv hs rfl rfl fun a hs => ?_
 refine sv hs (y_len Try.runUnderlying27 rfl) rfl fun a hs => ?_
 obtain ⟨n13, h12, hsh⟩ := bind_t hsh
 refine sv hs (y_assignI rfl h12) rfl fun a hs => ?_
 refine nl ?_
 refine sr ?_
 refine mv hs rfl rfl fun a hs => ?_
 refine av hs rfl rfl fun a hs => ?_
 refine av hs rfl rfl fun a hs => ?_
 refine nl ?_
 refine wp_seq ?_
 obtain ⟨e101, h204, hsh⟩ := bind_t hsh
 refine wp_join (fun a w => ∃ (Sv102 : Nat → Prop), Sl 49 [(0, .slice p2 x1.length k3), (2, .func (.func g7) f8.toArray cp9.toArray), (4, .pointer (some ⟨b11, 0, none⟩)), (8, .int .i64 n13), (9, .int .i64 e101)] a ∧ Wd ⟨w0, S0, []⟩ Sv102 [.box b11 [.int .i64 target5.At, .int .i64 target5.Order, .string target5.Data] 47] [SlA p2 x1.length k3 x1, FnA2 Try.prog g7 f8 cp9 cmp6] w) ?_ ?_
 ·refine wp_block ?_
  refine wp_while (fun sv14 a w => ∃ (Sv70 : Nat → Prop), Sl 49 [(0, .slice p2 x1.length k3), (2, .func (.func g7) f8.toArray cp9.toArray), (4, .pointer (some ⟨b11, 0, none⟩)), (8, .int .i64 n13), (9, .int .i64 sv14.1), (10, .int .i64 sv14.2)] a ∧ Wd ⟨w0, S0, []⟩ Sv70 [.box b11 [.int .i64 target5.At, .int .i64 target5.Order, .string target5.Data] 47] [SlA p2 x1.length k3 x1, FnA2 Try.prog g7 f8 cp9 cmp6] w) (0, n13) h204 ⟨S0, (hs.wk rfl), (hw.ft [0] [1, 0] (by decide) rfl rfl)⟩ ?_
  clear h204
  repeat clear hsh
  rintro sv14 a w tv99 ⟨Sv70, hs, hw⟩ hsh hd98
  delta slices_BinarySearchFunc_Lapi_Transit_api_Transit_api_Transit_l1 at hsh
  refine wp_seq ?_
  refine sr ?_
  refine mv hs rfl rfl fun a hs => ?_
  refine mv hs rfl rfl fun a hs => ?_
  refine sv hs (y_lss rfl rfl) rfl fun a hs => ?_
  refine nl ?_
  refine wp_cond_split (hs.ev rfl) (fun h104 => ?_) (fun h104 => ?_)
  ·have hsh := ite_t hsh h104
   refine wp_skip ?_
   refine then_normal ?_
   refine wp_block ?_
   refine sr ?_
   refine mv hs rfl rfl fun a hs => ?_
   refine mv hs rfl rfl fun a hs => ?_
   refine sv hs (y_add rfl rfl) rfl fun a hs => ?_
   refine sv hs (y_convert Try.runUnderlying3 Try.runUnderlying65 rfl) rfl fun a hs => ?_
   obtain ⟨shr132, h131, hsh⟩ := bind_t hsh
   refine sv hs (y_shrM rfl rfl h131) rfl fun a hs => ?_
   refine sv hs (y_convert Try.runUnderlying65 Try.runUnderlying3 rfl) rfl fun a hs => ?_
   obtain ⟨h134, h133, hsh⟩ := bind_t hsh
   refine sv hs (y_assignI rfl h133) rfl fun a hs => ?_
   refine nl ?_
   refine wp_seq ?_
   obtain ⟨x137, h135, hsh⟩ := bind_t hsh
   obtain ⟨b143, o144, q141, c142, h145, h138, h139, h140, h136⟩ := hw.elemV 0 rfl h135
   have hsv146 := hs
   have hwv147 := hw
   subst h145
   have hs := hsv146
   have hw := hwv147
   obtain ⟨_, _, _, rfl, rfl, rfl, rfl⟩ := h136
   have hw := hw.addE h140
   obtain ⟨rv149, h148, hsh⟩ := bind_t hsh
   refine wp_only (fun a w => ∃ (Sv150 : Nat → Prop), Sl 49 [(0, .slice (some ⟨b143, o144, none⟩) x1.length k3), (2, .func (.func g7) f8.toArray cp9.toArray), (4, .pointer (some ⟨b11, 0, none⟩)), (8, .int .i64 n13), (9, .int .i64 sv14.1), (10, .int .i64 sv14.2), (11, .int .i64 h134), (31, .bool (decide (rv149 < 0)))] a ∧ Wd ⟨w0, S0, []⟩ Sv150 [.box b11 [.int .i64 target5.At, .int .i64 target5.Order, .string target5.Data] 47] [SlA (some ⟨b143, o144, none⟩) x1.length k3 x1, FnA2 Try.prog g7 f8 cp9 cmp6] w) ?_ ?_
   ·refine h_b (C := Cls [.box b11 [.int .i64 target5.At, .int .i64 target5.Order, .string target5.Data] 47] [CeA b143 q141 [.int .i64 x137.At, .int .i64 x137.Order, .string x137.Data]]) (by kernel_rfl) rfl (hw.drew.cs [0] [0] rfl rfl) fun hC => ?_
    have hw := hw.drew
    refine gm hs 0 rfl rfl rfl hC fun a hs => ?_
    refine gm hs 1 rfl rfl rfl hC fun a hs => ?_
    refine gm hs 2 rfl rfl rfl hC fun a hs => ?_
    refine gv hs 3 rfl rfl hC (fun w hC => y_indexAt Try.runUnderlying27 Try.sizeOf47 rfl rfl h138.1 h138.2 h139) fun a hs => ?_
    refine gv hs 4 rfl rfl hC (fun w hC => y_loadEA (j := 0) (hC.ceAt 0 rfl) rfl Try.isAgg47 Try.sizeOf47 rfl rfl) fun a hs => ?_
    refine gv hs 5 rfl rfl hC (fun w hC => y_loadBA (hC.ownAt 0 rfl) rfl Try.isAgg47 Try.sizeOf47 rfl rfl) fun a hs => ?_
    refine ho 6 rfl ?_
    refine st_callR hs ((hw.bE 2 rfl).2 Keep.rfl' hw.bdom ⟨_, _, _, rfl, rfl, rfl, rfl⟩ ⟨_, _, _, rfl, rfl, rfl, rfl⟩ h148) (do_callF (hw.bE 2 rfl).1 rfl rfl) trivial rfl rfl ?_
    intro v154 Sv151 w a h152 h153 hs
    subst h153
    have hw := hw.callB h152
    refine h_nx (hw.cs [0] [0] rfl rfl) fun hC => ?_
    refine gv hs 7 rfl rfl hC (fun w hC => y_lss rfl rfl) fun a hs => ?_
    refine h_done (by kernel_rfl) ?_
    exact ⟨Sv70, (hs.wk rfl), (hw.ft [0] [1, 2] (by decide) rfl rfl)⟩
   rintro a w ⟨Sv150, hs, hw⟩
   refine then_normal ?_
   refine wp_join (fun a w => ∃ (i159 : Int) (j160 : Int) (Sv158 : Nat → Prop), slices_BinarySearchFunc_Lapi_Transit_api_Transit_api_Transit_j1 i159 j160 = some tv99 ∧ Sl 49 [(0, .slice (some ⟨b143, o144, none⟩) x1.length k3), (2, .func (.func g7) f8.toArray cp9.toArray), (4, .pointer (some ⟨b11, 0, none⟩)), (8, .int .i64 n13), (9, .int .i64 i159), (10, .int .i64 j160)] a ∧ Wd ⟨w0, S0, []⟩ Sv158 [.box b11 [.int .i64 target5.At, .int .i64 target5.Order, .string target5.Data] 47] [SlA (some ⟨b143, o144, none⟩) x1.length k3 x1, FnA2 Try.prog g7 f8 cp9 cmp6] w) ?_ ?_
   ·refine wp_cond_split (hs.ev rfl) (fun h161 => ?_) (fun h161 => ?_)
    ·have hsh := ite_t hsh h161
     refine wp_region_lit ?_
     refine mv hs rfl rfl fun a hs => ?_
     refine sv hs (y_add rfl rfl) rfl fun a hs => ?_
     obtain ⟨i163, h162, hsh⟩ := bind_t hsh
     refine sv hs (y_assignI rfl h162) rfl fun a hs => ?_
     refine nl ?_
     exact ⟨i163, sv14.2, Sv150, hsh, (hs.wk rfl), (hw.ft [0] [0, 1] (by decide) rfl rfl)⟩
    have hsh := ite_f hsh h161
    refine wp_region_lit ?_
    refine mv hs rfl rfl fun a hs => ?_
    refine av hs rfl rfl fun a hs => ?_
    refine nl ?_
    exact ⟨sv14.1, h134, Sv150, hsh, (hs.wk rfl), (hw.ft [0] [0, 1] (by decide) rfl rfl)⟩
   rintro a w ⟨i159, j160, Sv158, hsh, hs, hw⟩
   delta slices_BinarySearchFunc_Lapi_Transit_api_Transit_api_Transit_j1 at hsh
   refine blk_normal ?_
   refine then_normal ?_
   exact ⟨_, (Option.some.inj hsh).symm, Sv158, (hs.wk rfl), (hw.ft [0] [0, 1] (by decide) rfl rfl)⟩
  have hsh := ite_f hsh h104
  refine wp_exit ?_
  refine then_exit ?_
  refine then_exit ?_
  refine blk_exit ?_
  have hsh := oi hsh
  subst hsh
  have h164 := hd98 _ rfl
  subst h164
  refine then_normal ?_
  exact ⟨Sv70, (hs.wk rfl), (hw.ft [0] [0, 1] (by decide) rfl rfl)⟩
 rintro a w ⟨Sv102, hs, hw⟩
 refine then_normal ?_
 refine wp_seq ?_
 obtain ⟨c180, hc180, hsh⟩ := bind_t hsh
 refine wp_only (fun a w => ∃ (Sv181 : Nat → Prop), Sl 49 [(6, .int .i64 e101), (7, .bool c180)] a ∧ Wd ⟨w0, S0, []⟩ Sv181 [] [] w) ?_ ?_
 ·rcases Bool.eq_false_or_eq_true (decide (e101 < n13)) with h182 | h182
  ·have h183 := ite_t hc180 h182
   obtain ⟨x186, h184, h183⟩ := bind_t h183
   obtain ⟨b192, o193, q190, c191, h194, h187, h188, h189, h185⟩ := hw.elemV 0 rfl h184
   have hsv195 := hs
   have hwv196 := hw
   subst h194
   have hs := hsv195
   have hw := hwv196
   obtain ⟨_, _, _, rfl, rfl, rfl, rfl⟩ := h185
   have hw := hw.addE h189
   obtain ⟨rv198, h197, h183⟩ := bind_t h183
   refine h_b (C := Cls [.box b11 [.int .i64 target5.At, .int .i64 target5.Order, .string target5.Data] 47] [CeA b192 q190 [.int .i64 x186.At, .int .i64 x186.Order, .string x186.Data]]) (by kernel_rfl) rfl (hw.drew.cs [0] [0] rfl rfl) fun hC => ?_
   have hw := hw.drew
   refine gm hs 0 rfl rfl rfl hC fun a hs => ?_
   refine gm hs 1 rfl rfl rfl hC fun a hs => ?_
   refine gm hs 2 rfl rfl rfl hC fun a hs => ?_
   refine gv hs 3 rfl rfl hC (fun w hC => y_lss rfl rfl) fun a hs => ?_
   refine gm hs 4 rfl rfl rfl hC fun a hs => ?_
   have hs := hs.fix 39 (.bool true) rfl (vb h182)
   refine gt hs 5 rfl ⟨_, rfl, rfl⟩ rfl hC (fun w hC => y_move rfl) fun a hs => ?_
   refine gt hs 6 rfl ⟨_, rfl, rfl⟩ rfl hC (fun w hC => y_move rfl) fun a hs => ?_
   refine gt hs 7 rfl ⟨_, rfl, rfl⟩ rfl hC (fun w hC => y_move rfl) fun a hs => ?_
   refine gt hs 8 rfl ⟨_, rfl, rfl⟩ rfl hC (fun w hC => y_indexAt Try.runUnderlying27 Try.sizeOf47 rfl rfl h187.1 h187.2 h188) fun a hs => ?_
   refine gt hs 9 rfl ⟨_, rfl, rfl⟩ rfl hC (fun w hC => y_loadEA (j := 0) (hC.ceAt 0 rfl) rfl Try.isAgg47 Try.sizeOf47 rfl rfl) fun a hs => ?_
   refine gt hs 10 rfl ⟨_, rfl, rfl⟩ rfl hC (fun w hC => y_loadBA (hC.ownAt 0 rfl) rfl Try.isAgg47 Try.sizeOf47 rfl rfl) fun a hs => ?_
   refine ho 11 rfl ?_
   refine st_callR hs ((hw.bE 2 rfl).2 Keep.rfl' hw.bdom ⟨_, _, _, rfl, rfl, rfl, rfl⟩ ⟨_, _, _, rfl, rfl, rfl, rfl⟩ h197) (do_callF (hw.bE 2 rfl).1 rfl rfl) ⟨_, rfl, rfl⟩ rfl rfl ?_
   intro v202 Sv199 w a h200 h201 hs
   subst h201
   have hw := hw.callB h200
   refine h_nx (hw.cs [0] [0] rfl rfl) fun hC => ?_
   refine gt hs 12 rfl ⟨_, rfl, rfl⟩ rfl hC (fun w hC => y_eql rfl rfl) fun a hs => ?_
   refine gv hs 13 rfl rfl hC (fun w hC => y_pickTE (v := .bool c180) rfl rfl (vbs h183)) fun a hs => ?_
   refine gv hs 14 rfl rfl hC (fun w hC => y_assign rfl) fun a hs => ?_
   refine gv hs 15 rfl rfl hC (fun w hC => y_assign rfl) fun a hs => ?_
   refine h_done (by kernel_rfl) ?_
   exact ⟨Sv102, (hs.wk rfl), (hw.ft [] [] (by decide) rfl rfl)⟩
  have h203 := ite_f hc180 h182
  refine h_b (C := Cls [.box b11 [.int .i64 target5.At, .int .i64 target5.Order, .string target5.Data] 47] []) (by kernel_rfl) rfl (hw.drew.cs [0] [] rfl rfl) fun hC => ?_
  have hw := hw.drew
  refine gm hs 0 rfl rfl rfl hC fun a hs => ?_
  refine gm hs 1 rfl rfl rfl hC fun a hs => ?_
  refine gm hs 2 rfl rfl rfl hC fun a hs => ?_
  refine gv hs 3 rfl rfl hC (fun w hC => y_lss rfl rfl) fun a hs => ?_
  refine gm hs 4 rfl rfl rfl hC fun a hs => ?_
  have hs := hs.fix 39 (.bool false) rfl (vb h182)
  refine gs hs 5 rfl rfl rfl rfl hC fun a hs => ?_
  refine gs hs 6 rfl rfl rfl rfl hC fun a hs => ?_
  refine gs hs 7 rfl rfl rfl rfl hC fun a hs => ?_
  refine gs hs 8 rfl rfl rfl rfl hC fun a hs => ?_
  refine gs hs 9 rfl rfl rfl rfl hC fun a hs => ?_
  refine gs hs 10 rfl rfl rfl rfl hC fun a hs => ?_
  refine gs hs 11 rfl rfl rfl rfl hC fun a hs => ?_
  refine gs hs 12 rfl rfl rfl rfl hC fun a hs => ?_
  refine gv hs 13 rfl rfl hC (fun w hC => y_pickFE (v := .bool c180) rfl rfl (vbs h203)) fun a hs => ?_
  refine gv hs 14 rfl rfl hC (fun w hC => y_assign rfl) fun a hs => ?_
  refine gv hs 15 rfl rfl hC (fun w hC => y_assign rfl) fun a hs => ?_
  refine h_done (by kernel_rfl) ?_
  exact ⟨Sv102, (hs.wk rfl), (hw.ft [] [] (by decide) rfl rfl)⟩
 rintro a w ⟨Sv181, hs, hw⟩
 refine then_normal ?_
 have hsh := oi hsh
 subst hsh
 refine wp_ret ?_
 exact ret2 hs rfl (rv_tmp rfl) (rv_tmp rfl) (hw.ret rfl)

theorem link_order_fn (S0 : Nat → Prop) (w0 : World) : (FnA2 Try.prog 33 [] [] link_order).p S0 w0 := by
  refine ⟨Try.call33, ?_⟩
  intro S1 w1 hk hS c0 c1 x0 x1 r1 h0 h1 hf
  obtain ⟨_, _, _, rfl, rfl, rfl, rfl⟩ := h0
  obtain ⟨_, _, _, rfl, rfl, rfl, rfl⟩ := h1
  exact link_order_ok hf hS  

abbrev slices_Insert_Lapi_Transit_api_Transit_rd (w0 : World) (X : List Nat) (p8 : Option Addr) (k9 : Nat) (v7 : (List Transit)) (r : ((List Transit) × (List Transit))) : (Nat → Prop) → World → Value → Prop := fun S w v => ∃ (p0_0 : Option Addr) (k0_0 : Nat) (c0_0 : List Value) (ck_0 : List Value), v = .slice p0_0 r.1.length k0_0 ∧ Outs X w0 S w [.row p0_0 r.1.length k0_0 c0_0 47 3, .row p8 r.2.length k9 ck_0 47 3] ∧ (RowA c0_0 r.1).p S w ∧ (RowA ck_0 r.2).p S w ∧ (LenA v7.length r.2).p S w
set_option maxHeartbeats 4000000 in
set_option maxRecDepth 100000 in
theorem slices_Insert_Lapi_Transit_api_Transit_ok {w0 : World} {S0 : Nat → Prop} {p2 : Option Addr} {k3 : Nat} {c4 : List Value} {p8 : Option Addr} {k9 : Nat} {c10 : List Value} {s1 : (List Transit)} {i6 : Int} {v7 : (List Transit)} {r : ((List Transit) × (List Transit))} (hsh : slices_Insert_Lapi_Transit_api_Transit s1 i6 v7 = some r) (hS : ∀ b, S0 b → b < w0.heap.size) (hin : Ins S0 w0 [.row p2 s1.length k3 c4 47 3, .row p8 v7.length k9 c10 47 3]) (h5 : (RowA c4 s1).p S0 w0) (h11 : (RowA c10 v7).p S0 w0) : Calls Try.prog 34 #[.slice p2 s1.length k3, .int .i64 i6, .slice p8 v7.length k9] w0 (Ret (blks [.row p2 s1.length k3 c4 47 3, .row p8 v7.length k9 c10 47 3]) w0 S0 (slices_Insert_Lapi_Transit_api_Transit_rd w0 (blks [.row p2 s1.length k3 c4 47 3, .row p8 v7.length k9 c10 47 3]) p8 k9 v7 r)) := by
 refine calls_of_wp Try.func34 rfl ?_
 have hs := Sl.enter #[.slice p2 s1.length k3, .int .i64 i6, .slice p8 v7.length k9] 95 [(0, .slice p2 s1.length k3), (1, .int .i64 i6), (2, .slice p8 v7.length k9)] rfl ⟨rfl, rfl, rfl, trivial⟩
 have hw := Wd.enterI hS hin
 have hw := hw.addE h5
 have hw := hw.addE (e := LenA s1.length s1) len_rfl
 have hw := hw.addE h11
 have hw := hw.addE (e := LenA v7.length v7) len_rfl
 delta slices_Insert_Lapi_Transit_api_Transit at hsh
 refine sr ?_
 refine av hs rfl rfl fun a hs => ?_
 refine nl ?_
 refine sr ?_
 refine mv hs rfl rfl fun a hs => ?_
 refine mv hs rfl rfl fun a hs => ?_
 obtain ⟨l16, h12, hsh⟩ := bind_t hsh
 obtain ⟨p14, k15, h13⟩ := row_sub (α := Transit) hw 0 rfl h12
 refine sv hs (y_slc Try.runUnderlying27 Try.sizeOf47 rfl ⟨_, rfl⟩ (by exact rfl) h13) rfl fun a hs => ?_
 refine nl ?_
 refine sr ?_
 refine mv hs rfl rfl fun a hs => ?_
 refine sv hs (y_len Try.runUnderlying27 rfl) rfl fun a hs => ?_
 obtain ⟨m18, h17, hsh⟩ := bind_t hsh
 refine sv hs (y_assignI rfl h17) rfl fun a hs => ?_
 refine nl ?_
 refine wp_seq ?_
 refine sr ?_
 refine mv hs rfl rfl fun a hs => ?_
 refine sv hs (y_eql rfl rfl) rfl fun a hs => ?_
 refine nl ?_
 refine wp_cond_split (hs.ev rfl) (fun h20 => ?_) (fun h20 => ?_)
 ·have hsh := ite_t hsh h20
  refine sr ?_
  refine mv hs rfl rfl fun a hs => ?_
  refine av hs rfl rfl fun a hs => ?_
  refine nl ?_
  have hsh := oi hsh
  subst hsh
  refine wp_ret ?_
  refine then_ret ?_
  exact ret1 hs rfl (rv_tmp rfl) (hw.ret ⟨p2, k3, c4, c10, rfl, (hw.outs [0, 1] (by decide) rfl), (hw.envAt 3 rfl), (hw.envAt 1 rfl), (hw.envAt 0 rfl)⟩)
 have hsh := ite_f hsh h20
 refine wp_skip ?_
 refine then_normal ?_
 refine sr ?_
 refine mv hs rfl rfl fun a hs => ?_
 refine sv hs (y_len Try.runUnderlying27 rfl) rfl fun a hs => ?_
 obtain ⟨n22, h21, hsh⟩ := bind_t hsh
 refine sv hs (y_assignI rfl h21) rfl fun a hs => ?_
 refine nl ?_
 refine wp_seq ?_
 refine sr ?_
 refine mv hs rfl rfl fun a hs => ?_
 refine mv hs rfl rfl fun a hs => ?_
 refine sv hs (y_eql rfl rfl) rfl fun a hs => ?_
 refine nl ?_
 refine wp_cond_split (hs.ev rfl) (fun h29 => ?_) (fun h29 => ?_)
 ·have hsh := ite_t hsh h29
  refine sr ?_
  refine mv hs rfl rfl fun a hs => ?_
  refine mv hs rfl rfl fun a hs => ?_
  obtain ⟨l31, h30, hsh⟩ := bind_t hsh
  refine w_appendR (α := Transit) hs hw El27 0 rfl rfl rfl 3 rfl 1 rfl 1 rfl h30 rfl trivial ?_
  intro p32 k33 c34 a w hs hw
  refine av hs rfl rfl fun a hs => ?_
  refine nl ?_
  have hsh := oi hsh
  subst hsh
  refine wp_ret ?_
  refine then_ret ?_
  exact ret1 hs rfl (rv_tmp rfl) (hw.ret ⟨p32, k33, c34, c10, rfl, (hw.outs [0, 1] (by decide) rfl), (hw.envAt 0 rfl), (hw.envAt 2 rfl), (hw.envAt 1 rfl)⟩)
 have hsh := ite_f hsh h29
 refine wp_skip ?_
 refine then_normal ?_
 refine wp_seq ?_
 refine sr ?_
 refine mv hs rfl rfl fun a hs => ?_
 refine mv hs rfl rfl fun a hs => ?_
 refine sv hs (y_add rfl rfl) rfl fun a hs => ?_
 refine mv hs rfl rfl fun a hs => ?_
 refine sv hs (y_cap Try.runUnderlying27 rfl) rfl fun a hs => ?_
 refine sv hs (y_gtr rfl rfl) rfl fun a hs => ?_
 refine nl ?_
 refine wp_cond_split (hs.ev rfl) (fun h71 => ?_) (fun h71 => ?_)
 ·refine sr ?_
  refine mv hs rfl rfl fun a hs => ?_
  refine mv hs rfl rfl fun a hs => ?_
  obtain ⟨l74, h72, hsh⟩ := bind_t hsh
  have h73 := row_pre (α := Transit) hw 0 rfl h72
  refine sv hs (y_slc Try.runUnderlying27 Try.sizeOf47 rfl (by exact rfl) ⟨_, rfl⟩ h73) rfl fun a hs => ?_
  refine mv hs rfl rfl fun a hs => ?_
  refine mv hs rfl rfl fun a hs => ?_
  refine sv hs (y_add rfl rfl) rfl fun a hs => ?_
  refine mv hs rfl rfl fun a hs => ?_
  refine sv hs (y_sub rfl rfl) rfl fun a hs => ?_
  obtain ⟨l76, h75, hsh⟩ := bind_t hsh
  refine w_appendGrow (α := Transit) (z0 := ((⟨0, 0, ByteArray.empty⟩ : Transit) : Transit)) hs hw 0 rfl 3 rfl El27 ⟨_, _, _, rfl, rfl, rfl, rfl⟩ Try.underlying3 h72 rfl rfl h75 (grow_lt h71 h72 h75) rfl trivial ?_
  intro p77 k78 c79 a w hs hw
  refine av hs rfl rfl fun a hs => ?_
  refine nl ?_
  refine sr ?_
  refine mv hs rfl rfl fun a hs => ?_
  refine mv hs rfl rfl fun a hs => ?_
  obtain ⟨l84, h80, hsh⟩ := bind_t hsh
  obtain ⟨p82, k83, h81⟩ := row_sub (α := Transit) hw 0 rfl h80
  refine sv hs (y_slc Try.runUnderlying27 Try.sizeOf47 rfl ⟨_, rfl⟩ (by exact rfl) h81) rfl fun a hs => ?_
  refine mv hs rfl rfl fun a hs => ?_
  obtain ⟨l85, h86, hsh⟩ := bind_t hsh
  obtain ⟨ds_, h91⟩ := src_row (hw.ownAt 2 rfl) (hw.envAt 2 rfl)
  refine w_copyC (α := Transit) hs hw 0 rfl 0 rfl Try.runUnderlying27 Try.runUnderlying27 Try.sizeOf47 (by decide) h80 h81 rfl rfl rfl h91.1 h91.2.1 h91.2.2 rfl trivial ?_
  intro c87 a w hs hw
  rw [Option.some.inj h86] at hw
  have h88 := (copy_lenS h80 h86)
  try have hs := hs.fl 9 rfl h88
  try have hs := hs.fl 41 rfl h88
  refine nl ?_
  refine wp_seq ?_
  obtain ⟨l96, h92, hsh⟩ := bind_t hsh
  obtain ⟨p94, k95, h93⟩ := row_sub (α := Transit) hw 0 rfl h92
  obtain ⟨l101, h97, hsh⟩ := bind_t hsh
  obtain ⟨p99, k100, h98⟩ := row_sub (α := Transit) hw 1 rfl h97
  obtain ⟨l102, h103, hsh⟩ := bind_t hsh
  refine wp_only (fun a w => ∃ (Sv106 : Nat → Prop) (c104 : List Value), Sl 95 [(9, .slice p77 l102.length k78)] a ∧ Wd ⟨w0, S0, blks [.row p2 s1.length k3 c4 47 3, .row p8 v7.length k9 c10 47 3]⟩ Sv106 [.row p2 s1.length k3 c4 47 3, .row p8 v7.length k9 c10 47 3, .row p77 l102.length k78 c104 47 3] [RowA c4 s1, LenA s1.length s1, RowA c10 v7, LenA v7.length v7, RowA c104 l102] w) ?_ ?_
  ·refine h_b (C := Cls [.row p2 s1.length k3 c4 47 3, .row p8 v7.length k9 c10 47 3] []) (by kernel_rfl) rfl (hw.drew.cs [1, 2] [] rfl rfl) fun hC => ?_
   have hw := hw.drew
   refine gm hs 0 rfl rfl rfl hC fun a hs => ?_
   refine gm hs 1 rfl rfl rfl hC fun a hs => ?_
   refine gm hs 2 rfl rfl rfl hC fun a hs => ?_
   refine gv hs 3 rfl rfl hC (fun w hC => y_add rfl rfl) fun a hs => ?_
   refine gv hs 4 rfl rfl hC (fun w hC => y_slc Try.runUnderlying27 Try.sizeOf47 rfl ⟨_, rfl⟩ (by exact rfl) h93) fun a hs => ?_
   refine gm hs 5 rfl rfl rfl hC fun a hs => ?_
   refine gm hs 6 rfl rfl rfl hC fun a hs => ?_
   refine gv hs 7 rfl rfl hC (fun w hC => y_slc Try.runUnderlying27 Try.sizeOf47 rfl ⟨_, rfl⟩ (by exact rfl) h98) fun a hs => ?_
   refine ho 8 rfl ?_
   obtain ⟨ds_, h109⟩ := src_vw (hw.ownAt 1 rfl) (hw.envAt 5 rfl) h97 h98
   refine w_copyC (α := Transit) hs hw 0 rfl 0 rfl Try.runUnderlying27 Try.runUnderlying27 Try.sizeOf47 (by decide) h92 h93 rfl rfl rfl h109.1 h109.2.1 h109.2.2 rfl trivial ?_
   intro c104 a w hs hw
   rw [Option.some.inj h103] at hw
   have h105 := (copy_lenS h92 h103)
   try have hs := hs.fl 9 rfl h105
   try have hs := hs.fl 46 rfl h105
   refine h_nx (hw.cs [1, 2] [] rfl rfl) fun hC => ?_
   refine h_done (by kernel_rfl) ?_
   exact ⟨S0, c104, (hs.wk rfl), (hw.ft [1, 2, 0] [6, 5, 4, 3, 0] (by decide) rfl rfl)⟩
  rintro a w ⟨Sv106, c104, hs, hw⟩
  refine then_normal ?_
  refine sr ?_
  refine mv hs rfl rfl fun a hs => ?_
  refine av hs rfl rfl fun a hs => ?_
  refine nl ?_
  have hsh := oi hsh
  subst hsh
  refine wp_ret ?_
  refine then_ret ?_
  exact ret1 hs rfl (rv_tmp rfl) (hw.ret ⟨p77, k78, c104, c10, rfl, (hw.outs [2, 1] (by decide) rfl), (hw.envAt 4 rfl), (hw.envAt 2 rfl), (hw.envAt 3 rfl)⟩)
 obtain ⟨l110, h111, hsh⟩ := bind_t hsh
 obtain ⟨l112, h113, hsh⟩ := bind_t hsh
 obtain ⟨l114, h115, hsh⟩ := bind_t hsh
 obtain ⟨l116, h117, hsh⟩ := bind_t hsh
 obtain ⟨l118, h119, hsh⟩ := bind_t hsh
 obtain ⟨l120, h121, hsh⟩ := bind_t hsh
 obtain ⟨l122, h123, hsh⟩ := bind_t hsh
 obtain ⟨l124, l125, h126, h127, h128, h129, h130, h131, h132, h133, h134, h135, h136, h137⟩ := ins_B h21 h17 h20 h29 h71 (row_max (hw.ownAt 0 rfl)) (row_max (hw.ownAt 1 rfl)) h111 h113 h117 h119 h121 h123
 refine wp_skip ?_
 refine then_normal ?_
 refine sr ?_
 refine mv hs rfl rfl fun a hs => ?_
 refine mv hs rfl rfl fun a hs => ?_
 refine mv hs rfl rfl fun a hs => ?_
 refine sv hs (y_add rfl rfl) rfl fun a hs => ?_
 have h139 := grow_slc (p := p2) (n := s1.length) (k := k3) (sz := 3) h129.1 h129.2 h128.2
 obtain ⟨c138, hw⟩ := hw.growRow 0 rfl h128.1 h128.2
 refine sv hs (y_slc Try.runUnderlying27 Try.sizeOf47 rfl (by exact rfl) ⟨_, rfl⟩ h139) rfl fun a hs => ?_
 refine av hs rfl rfl fun a hs => ?_
 refine nl ?_
 refine wp_seq ?_
 refine sr ?_
 refine mv hs rfl rfl fun a hs => ?_
 refine mv hs rfl rfl fun a hs => ?_
 refine mv hs rfl rfl fun a hs => ?_
 refine mv hs rfl rfl fun a hs => ?_
 refine sv hs (y_add rfl rfl) rfl fun a hs => ?_
 obtain ⟨p140, k141, h142⟩ := row_sub (α := Transit) hw 0 rfl h126
 refine sv hs (y_slc Try.runUnderlying27 Try.sizeOf47 rfl ⟨_, rfl⟩ (by exact rfl) h142) rfl fun a hs => ?_
 refine sv hs (y_overlaps 1 0 hw rfl rfl rfl h142 Try.underlying27 Try.sizeOf47 (by decide) h135 h136 (run_callFunc_extern (e := Extern.SlicesOverlaps.overlaps #[27, 27] #[4]) Try.func38 (by kernel_rfl) (by kernel_rfl) (by kernel_rfl) (by kernel_rfl)) rfl rfl rfl) rfl fun a hs => ?_
 refine sv hs (y_not rfl) rfl fun a hs => ?_
 refine nl ?_
 refine wp_cond_true (hs.ev rfl) ?_
 refine wp_seq ?_
 obtain ⟨p156, k157, h158⟩ := row_sub (α := Transit) hw 0 rfl h126
 obtain ⟨p159, k160, h161⟩ := row_sub (α := Transit) hw 0 rfl h127
 refine wp_only (fun a w => ∃ (Sv163 : Nat → Prop) (c162 : List Value), Sl 95 [(0, .slice p2 l122.length k3), (1, .int .i64 i6), (2, .slice p8 v7.length k9)] a ∧ Wd ⟨w0, S0, blks [.row p2 s1.length k3 c4 47 3, .row p8 v7.length k9 c10 47 3]⟩ Sv163 [.row p2 l122.length k3 c162 47 3, .row p8 v7.length k9 c10 47 3] [RowA c4 s1, PuA (Mid c4 c162 i6.toNat v7.length 3), RowA c10 v7, LenA v7.length v7] w) ?_ ?_
 ·refine h_b (C := Cls [.row p8 v7.length k9 c10 47 3] []) (by kernel_rfl) rfl (hw.drew.cs [1] [] rfl rfl) fun hC => ?_
  have hw := hw.drew
  refine gm hs 0 rfl rfl rfl hC fun a hs => ?_
  refine gm hs 1 rfl rfl rfl hC fun a hs => ?_
  refine gm hs 2 rfl rfl rfl hC fun a hs => ?_
  refine gv hs 3 rfl rfl hC (fun w hC => y_add rfl rfl) fun a hs => ?_
  refine gv hs 4 rfl rfl hC (fun w hC => y_slc Try.runUnderlying27 Try.sizeOf47 rfl ⟨_, rfl⟩ (by exact rfl) h158) fun a hs => ?_
  refine gm hs 5 rfl rfl rfl hC fun a hs => ?_
  refine gm hs 6 rfl rfl rfl hC fun a hs => ?_
  refine gv hs 7 rfl rfl hC (fun w hC => y_slc Try.runUnderlying27 Try.sizeOf47 rfl ⟨_, rfl⟩ (by exact rfl) h161) fun a hs => ?_
  refine ho 8 rfl ?_
  refine w_shift (α := Transit) (ni := i6.toNat) (mi := v7.length) hs hw 0 rfl 0 rfl 4 rfl Try.runUnderlying27 Try.runUnderlying27 Try.sizeOf47 (by decide) h130 h131 h158 h132 h133 h161 rfl h134 rfl rfl rfl trivial ?_
  intro c162 a w hs hw
  refine h_nx (hw.cs [1] [] rfl rfl) fun hC => ?_
  refine h_done (by kernel_rfl) ?_
  exact ⟨S0, c162, (hs.wk rfl), (hw.ft [0, 1] [5, 0, 3, 2] (by decide) rfl rfl)⟩
 rintro a w ⟨Sv163, c162, hs, hw⟩
 refine then_normal ?_
 refine sr ?_
 refine mv hs rfl rfl fun a hs => ?_
 refine mv hs rfl rfl fun a hs => ?_
 obtain ⟨p164, k165, h166⟩ := row_sub (α := Transit) hw 0 rfl h127
 refine sv hs (y_slc Try.runUnderlying27 Try.sizeOf47 rfl ⟨_, rfl⟩ (by exact rfl) h166) rfl fun a hs => ?_
 refine mv hs rfl rfl fun a hs => ?_
 obtain ⟨ds_, h168⟩ := src_row (hw.ownAt 1 rfl) (hw.envAt 2 rfl)
 refine w_fill (α := Transit) (ni := i6.toNat) (mi := v7.length) hs hw 0 rfl 1 rfl 0 rfl Try.runUnderlying27 Try.runUnderlying27 Try.sizeOf47 (by decide) h130 h131 h135 h166 rfl h134 rfl rfl h168.1 h168.2.1 h168.2.2 h137 rfl rfl rfl trivial ?_
 intro c167 a w hs hw
 refine nl ?_
 refine sr ?_
 refine mv hs rfl rfl fun a hs => ?_
 refine av hs rfl rfl fun a hs => ?_
 refine nl ?_
 have hsh := oi hsh
 subst hsh
 refine wp_ret ?_
 refine then_ret ?_
 exact ret1 hs rfl (rv_tmp rfl) (hw.ret ⟨p2, k3, c167, c10, rfl, (hw.outs [0, 1] (by decide) rfl), (hw.envAt 0 rfl), (hw.envAt 3 rfl), (hw.envAt 4 rfl)⟩)

abbrev link_Send_rd (w0 : World) (X : List Nat) (r : (Wire × Int)) : (Nat → Prop) → World → Value → Prop := fun S w v => ∃ (p0_2 : Option Addr) (k0_2 : Nat) (c0_2 : List Value), v = .tuple #[.agg #[.int .i64 r.1.Now, .int .i64 r.1.Order, .slice p0_2 r.1.Items.length k0_2], .int .i64 r.2] ∧ Outs X w0 S w [.row p0_2 r.1.Items.length k0_2 c0_2 47 3] ∧ (RowA c0_2 r.1.Items).p S w
set_option maxHeartbeats 4000000 in
set_option maxRecDepth 100000 in
theorem link_Send_ok {w0 : World} {S0 : Nat → Prop} {p2 : Option Addr} {k3 : Nat} {wv1 : Wire} {data5 : ByteArray} {f6 : Fault} {r : (Wire × Int)} (hsh : link_Send wv1 data5 f6 = some r) (hS : ∀ b, S0 b → b < w0.heap.size) (h4 : (SlA p2 wv1.Items.length k3 wv1.Items).p S0 w0) : Calls Try.prog 13 #[.agg #[.int .i64 wv1.Now, .int .i64 wv1.Order, .slice p2 wv1.Items.length k3], .string data5, .agg #[.bool f6.Drop, .int .i64 f6.Delay, .int .i64 f6.Copies]] w0 (Ret ([]) w0 S0 (link_Send_rd w0 ([]) r)) := by
 refine calls_of_wp Try.func13 rfl ?_
 have hs := Sl.enter #[.agg #[.int .i64 wv1.Now, .int .i64 wv1.Order, .slice p2 wv1.Items.length k3], .string data5, .agg #[.bool f6.Drop, .int .i64 f6.Delay, .int .i64 f6.Copies]] 84 [(0, .agg #[.int .i64 wv1.Now, .int .i64 wv1.Order, .slice p2 wv1.Items.length k3]), (1, .string data5), (2, .agg #[.bool f6.Drop, .int .i64 f6.Delay, .int .i64 f6.Copies])] rfl ⟨rfl, rfl, rfl, trivial⟩
 have hw := Wd.enter (E := []) hS (fun _ h => (by cases h))
 have hw := hw.addE h4
 delta link_Send at hsh
 refine sr ?_
 refine w_box (cs := [.int .i64 wv1.Now, .int .i64 wv1.Order, .slice p2 wv1.Items.length k3]) hs hw rfl rfl rfl trivial ?_
 intro b7 a w hs hw
 refine w_box (cs := [.bool f6.Drop, .int .i64 f6.Delay, .int .i64 f6.Copies]) hs hw rfl rfl rfl trivial ?_
 intro b8 a w hs hw
 refine w_alloc (cs := [.int .i64 0, .int .i64 0, .slice none ([] : List Transit).length 0]) hs hw Try.zeroValue29 rfl rfl trivial ?_
 intro b9 a w hs hw
 refine av hs rfl rfl fun a hs => ?_
 refine nl ?_
 refine wp_seq ?_
 refine sr ?_
 refine sv hs (y_loadBA (hw.ownAt 2 rfl) rfl Try.isAgg29 Try.sizeOf29 rfl rfl) rfl fun a hs => ?_
 obtain ⟨rv11, h10, hsh⟩ := bind_t hsh
 refine st_callR hs (link_Valid_ok h10 hw.bdom (hw.bE 0 rfl)) (do_call Try.call29 rfl) trivial rfl rfl ?_
 intro v15 Sv12 w a h13 h14 hs
 subst h14
 have hw := hw.callB h13
 refine sv hs (y_not rfl) rfl fun a hs => ?_
 refine mv hs rfl rfl fun a hs => ?_
 obtain ⟨c25, hc25, hsh⟩ := bind_t hsh
 refine wpl_join 4 (fun a w => ∃ (Sv26 : Nat → Prop), Sl 84 [(1, .string data5), (3, .pointer (some ⟨b7, 0, none⟩)), (5, .pointer (some ⟨b8, 0, none⟩)), (6, .pointer (some ⟨b9, 0, none⟩)), (20, .bool c25)] a ∧ Wd ⟨w0, S0, []⟩ Sv26 [.box b7 [.int .i64 wv1.Now, .int .i64 wv1.Order, .slice p2 wv1.Items.length k3] 29, .box b8 [.bool f6.Drop, .int .i64 f6.Delay, .int .i64 f6.Copies] 32, .box b9 [.int .i64 0, .int .i64 0, .slice none ([] : List Transit).length 0] 29] [SlA p2 wv1.Items.length k3 wv1.Items, SlA none ([] : List Transit).length 0 ([] : List Transit)] w) ?_ ?_
 ·rcases Bool.eq_false_or_eq_true (!rv11) with h24 | h24
  ·have hs := hs.fix 16 (.bool true) rfl (vb h24)
   have hsh := ite_t hc25 h24
   refine st_skip hs rfl rfl rfl rfl rfl fun a hs => ?_
   refine st_skip hs rfl rfl rfl rfl rfl fun a hs => ?_
   refine st_skip hs rfl rfl rfl rfl rfl fun a hs => ?_
   refine sv hs (y_pickT rfl rfl) rfl fun a hs => ?_
   refine wpList_nil ?_
   have hw := hw.addE (e := SlA (α := Transit) none 0 0 []) nil_sl
   have hsh := oi hsh
   subst hsh
   refine then_normal ?_
   exact ⟨S0, (hs.wk rfl), (hw.ft [2, 1, 0] [1, 0] (by decide) rfl rfl)⟩
  have hs := hs.fix 16 (.bool false) rfl (vb h24)
  have hsh := ite_f hc25 h24
  refine st_val hs (y_loadBA (hw.ownAt 1 rfl) rfl Try.isAgg32 Try.sizeOf32 rfl rfl) ⟨_, rfl, rfl⟩ rfl rfl fun a hs => ?_
  obtain ⟨rv28, h27, hsh⟩ := bind_t hsh
  refine st_callR hs (link_ValidFault_ok h27 hw.bdom) (do_call Try.call22 rfl) ⟨_, rfl, rfl⟩ rfl rfl ?_
  intro v32 Sv29 w a h30 h31 hs
  subst h31
  have hw := hw.callB h30
  refine st_val hs (y_not rfl) ⟨_, rfl, rfl⟩ rfl rfl fun a hs => ?_
  refine sv hs (y_pickF rfl rfl) rfl fun a hs => ?_
  refine wpList_nil ?_
  have hw := hw.addE (e := SlA (α := Transit) none 0 0 []) nil_sl
  have hsh := oi hsh
  subst hsh
  refine then_normal ?_
  exact ⟨S0, (hs.wk rfl), (hw.ft [2, 1, 0] [1, 0] (by decide) rfl rfl)⟩
 rintro a w ⟨Sv26, hs, hw⟩
 refine nl ?_
 refine wp_cond_split (hs.ev rfl) (fun h35 => ?_) (fun h35 => ?_)
 ·have hsh := ite_t hsh h35
  refine sr ?_
  refine sv hs (y_build (vs := []) Bld29 rfl rfl) rfl fun a hs => ?_
  refine w_store (m := 3) (cs' := [.int .i64 0, .int .i64 0, .slice none ([] : List Transit).length 0]) hs hw 2 rfl rfl rfl Try.sizeOf29 rfl rfl rfl rfl trivial ?_
  intro a w hs hw
  refine av hs rfl rfl fun a hs => ?_
  refine nl ?_
  have hsh := oi hsh
  subst hsh
  have hw := hw.nilRow Transit 47
  refine wp_ret ?_
  refine then_ret ?_
  exact ret2 hs rfl (rv_cell hw 3 rfl rfl Try.isAgg29 Try.sizeOf29 rfl) (rv_tmp rfl) (hw.ret ⟨none, 0, [], rfl, (hw.outs [0] (by decide) rfl), (hw.envAt 0 rfl)⟩)
 have hsh := ite_f hsh h35
 refine wp_skip ?_
 refine then_normal ?_
 refine sr ?_
 refine sv hs (y_fieldAddr (o' := 2) Try.runUnderlying32 rfl Try.sizeOf3 rfl rfl rfl) rfl fun a hs => ?_
 refine sv hs (y_loadB1 (hw.ownAt 1 rfl) rfl Try.isAgg3 rfl) rfl fun a hs => ?_
 refine sv hs (y_add rfl rfl) rfl fun a hs => ?_
 obtain ⟨copies37, h36, hsh⟩ := bind_t hsh
 refine sv hs (y_assignI rfl h36) rfl fun a hs => ?_
 refine nl ?_
 refine wp_seq ?_
 refine sr ?_
 refine sv hs (y_fieldAddr (o' := 0) Try.runUnderlying32 rfl Try.sizeOf4 rfl rfl rfl) rfl fun a hs => ?_
 refine sv hs (y_loadB1 (hw.ownAt 1 rfl) rfl Try.isAgg4 rfl) rfl fun a hs => ?_
 refine nl ?_
 refine wp_join (fun a w => ∃ (copies40 : Int) (Sv39 : Nat → Prop), link_Send_j1 wv1 data5 f6 copies40 = some r ∧ Sl 84 [(1, .string data5), (3, .pointer (some ⟨b7, 0, none⟩)), (5, .pointer (some ⟨b8, 0, none⟩)), (6, .pointer (some ⟨b9, 0, none⟩)), (8, .int .i64 copies40)] a ∧ Wd ⟨w0, S0, []⟩ Sv39 [.box b7 [.int .i64 wv1.Now, .int .i64 wv1.Order, .slice p2 wv1.Items.length k3] 29, .box b8 [.bool f6.Drop, .int .i64 f6.Delay, .int .i64 f6.Copies] 32, .box b9 [.int .i64 0, .int .i64 0, .slice none ([] : List Transit).length 0] 29] [SlA p2 wv1.Items.length k3 wv1.Items, SlA none ([] : List Transit).length 0 ([] : List Transit)] w) ?_ ?_
 ·refine wp_cond_split (hs.ev rfl) (fun h212 => ?_) (fun h212 => ?_)
  ·have hsh := ite_t hsh h212
   refine wp_region_lit ?_
   refine av hs rfl rfl fun a hs => ?_
   refine nl ?_
   exact ⟨0, Sv26, hsh, (hs.wk rfl), (hw.ft [0, 1, 2] [0, 1] (by decide) rfl rfl)⟩
  have hsh := ite_f hsh h212
  refine wp_skip ?_
  refine then_normal ?_
  exact ⟨copies37, Sv26, hsh, (hs.wk rfl), (hw.ft [0, 1, 2] [0, 1] (by decide) rfl rfl)⟩
 rintro a w ⟨copies40, Sv39, hsh, hs, hw⟩
 delta link_Send_j1 at hsh
 refine then_normal ?_
 refine wp_seq ?_
 refine sr ?_
 refine mv hs rfl rfl fun a hs => ?_
 refine sv hs (y_lenS Try.runUnderlying9 rfl) rfl fun a hs => ?_
 refine sv hs (y_gtr rfl rfl) rfl fun a hs => ?_
 refine mv hs rfl rfl fun a hs => ?_
 refine wpl_join 4 (fun a w1 => w = w1 ∧ Sl 84 [(1, .string data5), (3, .pointer (some ⟨b7, 0, none⟩)), (5, .pointer (some ⟨b8, 0, none⟩)), (6, .pointer (some ⟨b9, 0, none⟩)), (8, .int .i64 copies40), (34, .bool ((decide (4096 < (data5.size : Int))) || (wv1.Order == 1099511627776)))] a) ?_ ?_
 ·rcases Bool.eq_false_or_eq_true (decide (4096 < (data5.size : Int))) with h41 | h41
  ·have hs := hs.fix 30 (.bool true) rfl (vb h41)
   refine st_skip hs rfl rfl rfl rfl rfl fun a hs => ?_
   refine st_skip hs rfl rfl rfl rfl rfl fun a hs => ?_
   refine st_skip hs rfl rfl rfl rfl rfl fun a hs => ?_
   refine sv hs (y_pickT rfl rfl) rfl fun a hs => ?_
   refine nl ?_
   exact ⟨rfl, (hs.fix 34 (.bool ((decide (4096 < (data5.size : Int))) || (wv1.Order == 1099511627776))) rfl (or_t h41)).weaken _ ⟨rfl, rfl, rfl, rfl, rfl, rfl, trivial⟩⟩
  have hs := hs.fix 30 (.bool false) rfl (vb h41)
  refine st_val hs (y_fieldAddr (o' := 1) Try.runUnderlying29 rfl Try.sizeOf3 rfl rfl rfl) ⟨_, rfl, rfl⟩ rfl rfl fun a hs => ?_
  refine st_val hs (y_loadB1 (hw.ownAt 0 rfl) rfl Try.isAgg3 rfl) ⟨_, rfl, rfl⟩ rfl rfl fun a hs => ?_
  refine st_val hs (y_eql rfl rfl) ⟨_, rfl, rfl⟩ rfl rfl fun a hs => ?_
  refine sv hs (y_pickF rfl rfl) rfl fun a hs => ?_
  refine nl ?_
  exact ⟨rfl, (hs.fix 34 (.bool ((decide (4096 < (data5.size : Int))) || (wv1.Order == 1099511627776))) rfl (or_f h41)).weaken _ ⟨rfl, rfl, rfl, rfl, rfl, rfl, trivial⟩⟩
 rintro a w1 ⟨h211, hs⟩
 subst h211
 refine mv hs rfl rfl fun a hs => ?_
 refine wpl_join 7 (fun a w1 => w = w1 ∧ Sl 84 [(1, .string data5), (3, .pointer (some ⟨b7, 0, none⟩)), (5, .pointer (some ⟨b8, 0, none⟩)), (6, .pointer (some ⟨b9, 0, none⟩)), (8, .int .i64 copies40), (42, .bool (((decide (4096 < (data5.size : Int))) || (wv1.Order == 1099511627776)) || (decide (1024 < (w64 ((wv1.Items.length : Int) + copies40))))))] a) ?_ ?_
 ·rcases Bool.eq_false_or_eq_true ((decide (4096 < (data5.size : Int))) || (wv1.Order == 1099511627776)) with h42 | h42
  ·have hs := hs.fix 35 (.bool true) rfl (vb h42)
   refine st_skip hs rfl rfl rfl rfl rfl fun a hs => ?_
   refine st_skip hs rfl rfl rfl rfl rfl fun a hs => ?_
   refine st_skip hs rfl rfl rfl rfl rfl fun a hs => ?_
   refine st_skip hs rfl rfl rfl rfl rfl fun a hs => ?_
   refine st_skip hs rfl rfl rfl rfl rfl fun a hs => ?_
   refine st_skip hs rfl rfl rfl rfl rfl fun a hs => ?_
   refine sv hs (y_pickT rfl rfl) rfl fun a hs => ?_
   refine nl ?_
   exact ⟨rfl, (hs.fix 42 (.bool (((decide (4096 < (data5.size : Int))) || (wv1.Order == 1099511627776)) || (decide (1024 < (w64 ((wv1.Items.length : Int) + copies40)))))) rfl (or_t h42)).weaken _ ⟨rfl, rfl, rfl, rfl, rfl, rfl, trivial⟩⟩
  have hs := hs.fix 35 (.bool false) rfl (vb h42)
  refine st_val hs (y_fieldAddr (o' := 2) Try.runUnderlying29 rfl Try.sizeOf27 rfl rfl rfl) ⟨_, rfl, rfl⟩ rfl rfl fun a hs => ?_
  refine st_val hs (y_loadB1 (hw.ownAt 0 rfl) rfl Try.isAgg27 rfl) ⟨_, rfl, rfl⟩ rfl rfl fun a hs => ?_
  refine st_val hs (y_len Try.runUnderlying27 rfl) ⟨_, rfl, rfl⟩ rfl rfl fun a hs => ?_
  refine st_val hs (y_move rfl) ⟨_, rfl, rfl⟩ rfl rfl fun a hs => ?_
  refine st_val hs (y_add rfl rfl) ⟨_, rfl, rfl⟩ rfl rfl fun a hs => ?_
  refine st_val hs (y_gtr rfl rfl) ⟨_, rfl, rfl⟩ rfl rfl fun a hs => ?_
  refine sv hs (y_pickF rfl rfl) rfl fun a hs => ?_
  refine nl ?_
  exact ⟨rfl, (hs.fix 42 (.bool (((decide (4096 < (data5.size : Int))) || (wv1.Order == 1099511627776)) || (decide (1024 < (w64 ((wv1.Items.length : Int) + copies40)))))) rfl (or_f h42)).weaken _ ⟨rfl, rfl, rfl, rfl, rfl, rfl, trivial⟩⟩
 rintro a w1 ⟨h210, hs⟩
 subst h210
 refine nl ?_
 refine wp_cond_split (hs.ev rfl) (fun h44 => ?_) (fun h44 => ?_)
 ·have hsh := ite_t hsh h44
  refine sr ?_
  refine sv hs (y_build (vs := []) Bld29 rfl rfl) rfl fun a hs => ?_
  refine w_store (m := 3) (cs' := [.int .i64 0, .int .i64 0, .slice none ([] : List Transit).length 0]) hs hw 2 rfl rfl rfl Try.sizeOf29 rfl rfl rfl rfl trivial ?_
  intro a w hs hw
  refine av hs rfl rfl fun a hs => ?_
  refine nl ?_
  have hsh := oi hsh
  subst hsh
  have hw := hw.nilRow Transit 47
  refine wp_ret ?_
  refine then_ret ?_
  exact ret2 hs rfl (rv_cell hw 3 rfl rfl Try.isAgg29 Try.sizeOf29 rfl) (rv_tmp rfl) (hw.ret ⟨none, 0, [], rfl, (hw.outs [0] (by decide) rfl), (hw.envAt 0 rfl)⟩)
 have hsh := ite_f hsh h44
 refine wp_skip ?_
 refine then_normal ?_
 refine sr ?_
 refine sv hs (y_fieldAddr (o' := 2) Try.runUnderlying29 rfl Try.sizeOf27 rfl rfl rfl) rfl fun a hs => ?_
 refine sv hs (y_loadB1 (hw.ownAt 0 rfl) rfl Try.isAgg27 rfl) rfl fun a hs => ?_
 obtain ⟨rv46, h45, hsh⟩ := bind_t hsh
 refine st_callR hs (slices_Clone_Lapi_Transit_api_Transit_ok h45 hw.dom (hw.envAt 0 rfl)) (do_call Try.call31 rfl) trivial rfl rfl ?_
 intro v54 Sv51 w a h52 h53 hs
 obtain ⟨p47, k48, c50, rfl, h55, h49⟩ := h53
 have hw := hw.callN h52 h55
 have hw := hw.addE (e := RowA c50 rv46) h49
 refine sv hs (y_fieldAddr (o' := 2) Try.runUnderlying29 rfl Try.sizeOf27 rfl rfl rfl) rfl fun a hs => ?_
 refine w_store (m := 1) (cs' := [.int .i64 wv1.Now, .int .i64 wv1.Order, .slice p47 rv46.length k48]) hs hw 1 rfl rfl rfl Try.sizeOf27 rfl rfl rfl rfl trivial ?_
 intro a w hs hw
 refine nl ?_
 refine wp_seq ?_
 refine sr ?_
 refine mv hs rfl rfl fun a hs => ?_
 refine mv hs rfl rfl fun a hs => ?_
 refine nl ?_
 obtain ⟨e149, h209, hsh⟩ := bind_t hsh
 refine wp_join (fun a w => ∃ (c150 : List Value) (p151 : Option Addr) (k152 : Nat) (Sv153 : Nat → Prop), Sl 84 [(3, .pointer (some ⟨b7, 0, none⟩)), (6, .pointer (some ⟨b9, 0, none⟩))] a ∧ Wd ⟨w0, S0, []⟩ Sv153 [.box b7 [.int .i64 wv1.Now, .int .i64 wv1.Order, .slice p151 e149.length k152] 29, .box b9 [.int .i64 0, .int .i64 0, .slice none ([] : List Transit).length 0] 29, .row p151 e149.length k152 c150 47 3] [SlA none ([] : List Transit).length 0 ([] : List Transit), RowA c150 e149] w) ?_ ?_
 ·refine wp_block ?_
  refine wp_while (fun sv56 a w => ∃ (c115 : List Value) (p116 : Option Addr) (k117 : Nat) (Sv118 : Nat → Prop), Sl 84 [(1, .string data5), (3, .pointer (some ⟨b7, 0, none⟩)), (5, .pointer (some ⟨b8, 0, none⟩)), (6, .pointer (some ⟨b9, 0, none⟩)), (48, .int .i64 copies40), (49, .int .i64 sv56.2)] a ∧ Wd ⟨w0, S0, []⟩ Sv118 [.box b7 [.int .i64 wv1.Now, .int .i64 wv1.Order, .slice p116 sv56.1.length k117] 29, .box b8 [.bool f6.Drop, .int .i64 f6.Delay, .int .i64 f6.Copies] 32, .box b9 [.int .i64 0, .int .i64 0, .slice none ([] : List Transit).length 0] 29, .row p116 sv56.1.length k117 c115 47 3] [SlA none ([] : List Transit).length 0 ([] : List Transit), RowA c115 sv56.1] w) (rv46, 0) h209 ⟨c50, p47, k48, Sv51, (hs.wk rfl), (hw.ft [1, 2, 3, 0] [2, 0] (by decide) rfl rfl)⟩ ?_
  clear h209
  repeat clear hsh
  rintro sv56 a w tv147 ⟨c115, p116, k117, Sv118, hs, hw⟩ hsh hd146
  delta link_Send_l1 at hsh
  refine sr ?_
  refine sv hs (y_lss rfl rfl) rfl fun a hs => ?_
  refine nl ?_
  refine wp_seq ?_
  refine wp_cond_split (hs.ev rfl) (fun h155 => ?_) (fun h155 => ?_)
  ·have hsh := ite_t hsh h155
   refine wp_skip ?_
   refine then_normal ?_
   refine wp_seq ?_
   refine wp_block ?_
   refine sr ?_
   refine mv hs rfl rfl fun a hs => ?_
   refine av hs rfl rfl fun a hs => ?_
   refine nl ?_
   refine sr ?_
   refine sv hs (y_fieldAddr (o' := 0) Try.runUnderlying29 rfl Try.sizeOf3 rfl rfl rfl) rfl fun a hs => ?_
   refine sv hs (y_loadB1 (hw.ownAt 0 rfl) rfl Try.isAgg3 rfl) rfl fun a hs => ?_
   refine sv hs (y_add rfl rfl) rfl fun a hs => ?_
   refine sv hs (y_fieldAddr (o' := 1) Try.runUnderlying32 rfl Try.sizeOf3 rfl rfl rfl) rfl fun a hs => ?_
   refine sv hs (y_loadB1 (hw.ownAt 1 rfl) rfl Try.isAgg3 rfl) rfl fun a hs => ?_
   refine sv hs (y_add rfl rfl) rfl fun a hs => ?_
   refine mv hs rfl rfl fun a hs => ?_
   refine sv hs (y_add rfl rfl) rfl fun a hs => ?_
   refine sv hs (y_fieldAddr (o' := 1) Try.runUnderlying29 rfl Try.sizeOf3 rfl rfl rfl) rfl fun a hs => ?_
   refine sv hs (y_loadB1 (hw.ownAt 0 rfl) rfl Try.isAgg3 rfl) rfl fun a hs => ?_
   refine mv hs rfl rfl fun a hs => ?_
   refine sv hs (y_build (vs := [(0, .int .i64 (w64 ((w64 ((w64 (wv1.Now + 1)) + f6.Delay)) + sv56.2))), (1, .int .i64 wv1.Order), (2, .string data5)]) Bld47 rfl rfl) rfl fun a hs => ?_
   refine w_alloc (cs := [.int .i64 0, .int .i64 0, .string ByteArray.empty]) hs hw Try.zeroValue47 rfl rfl trivial ?_
   intro b182 a w hs hw
   refine w_store (m := 3) (cs' := [.int .i64 (w64 ((w64 ((w64 (wv1.Now + 1)) + f6.Delay)) + sv56.2)), .int .i64 wv1.Order, .string data5]) hs hw 0 rfl rfl rfl Try.sizeOf47 rfl rfl rfl rfl trivial ?_
   intro a w hs hw
   refine nl ?_
   refine sr ?_
   refine sv hs (y_fieldAddr (o' := 2) Try.runUnderlying29 rfl Try.sizeOf27 rfl rfl rfl) rfl fun a hs => ?_
   refine sv hs (y_loadB1 (hw.ownAt 1 rfl) rfl Try.isAgg27 rfl) rfl fun a hs => ?_
   refine sv hs (y_loadBA (hw.ownAt 0 rfl) rfl Try.isAgg47 Try.sizeOf47 rfl rfl) rfl fun a hs => ?_
   obtain ⟨rv184, h183, hsh⟩ := bind_t hsh
   refine st_callR hs (slices_BinarySearchFunc_Lapi_Transit_api_Transit_api_Transit_ok h183 hw.bdom (hw.bRow 4 rfl 1 rfl) (link_order_fn _ _)) (do_call Try.call32 rfl) trivial rfl rfl ?_
   intro v188 Sv185 w a h186 h187 hs
   subst h187
   have hw := hw.callB h186
   refine mv hs rfl rfl fun a hs => ?_
   refine sv hs (y_extract rfl rfl) rfl fun a hs => ?_
   refine sv hs (y_extract rfl rfl) rfl fun a hs => ?_
   refine av hs rfl rfl fun a hs => ?_
   refine av hs rfl rfl fun a hs => ?_
   refine nl ?_
   refine wp_region_lit ?_
   refine sv hs (y_fieldAddr (o' := 2) Try.runUnderlying29 rfl Try.sizeOf27 rfl rfl rfl) rfl fun a hs => ?_
   refine sv hs (y_loadB1 (hw.ownAt 1 rfl) rfl Try.isAgg27 rfl) rfl fun a hs => ?_
   refine mv hs rfl rfl fun a hs => ?_
   refine sv hs (y_loadBA (hw.ownAt 0 rfl) rfl Try.isAgg47 Try.sizeOf47 rfl rfl) rfl fun a hs => ?_
   refine w_litSlice (α := Transit) (vs := [.agg #[.int .i64 (w64 ((w64 ((w64 (wv1.Now + 1)) + f6.Delay)) + sv56.2)), .int .i64 wv1.Order, .string data5]]) (cs := [.int .i64 (w64 ((w64 ((w64 (wv1.Now + 1)) + f6.Delay)) + sv56.2)), .int .i64 wv1.Order, .string data5]) (xs := ([(⟨(w64 ((w64 ((w64 (wv1.Now + 1)) + f6.Delay)) + sv56.2)), wv1.Order, data5⟩ : Transit)] : List Transit)) hs hw El27 rfl rfl rfl rfl rfl rfl ⟨⟨_, _, _, rfl, rfl, rfl, rfl⟩, rfl⟩ rfl trivial rfl fun b191 a w hs hw => ?_
   obtain ⟨rv193, h192, hsh⟩ := bind_t hsh
   refine st_callR hs (slices_Insert_Lapi_Transit_api_Transit_ok h192 hw.dom (hw.ins [5, 0] (by decide) rfl) (hw.envAt 2 rfl) (hw.envAt 0 rfl)) (do_call Try.call34 rfl) trivial rfl rfl ?_
   intro v204 Sv201 w a h202 h203 hs
   obtain ⟨p194, k195, c197, c198, rfl, h205, h196, h199, h200⟩ := h203
   have hw := hw.callO [5, 0] [1, 2, 3, 4] (by decide) rfl h202 h205
   have hw := hw.addE (e := RowA c197 rv193.1) h196
   have hw := hw.addE (e := RowA c198 rv193.2) h199
   have h206 := h200
   have h207 := Eq.symm h206
   try have hs := hs.fl 75 rfl h207
   refine sv hs (y_fieldAddr (o' := 2) Try.runUnderlying29 rfl Try.sizeOf27 rfl rfl rfl) rfl fun a hs => ?_
   refine w_store (m := 1) (cs' := [.int .i64 wv1.Now, .int .i64 wv1.Order, .slice p194 rv193.1.length k195]) hs hw 3 rfl rfl rfl Try.sizeOf27 rfl rfl rfl rfl trivial ?_
   intro a w hs hw
   refine wpList_nil ?_
   refine blk_normal ?_
   refine then_normal ?_
   refine wp_region_lit ?_
   refine sv hs (y_add rfl rfl) rfl fun a hs => ?_
   refine mv hs rfl rfl fun a hs => ?_
   refine nl ?_
   exact ⟨_, (Option.some.inj hsh).symm, c197, p194, k195, Sv201, (hs.wk rfl), (hw.ft [3, 4, 5, 0] [3, 1] (by decide) rfl rfl)⟩
  have hsh := ite_f hsh h155
  refine wp_exit ?_
  refine then_exit ?_
  refine then_exit ?_
  refine blk_exit ?_
  have hsh := oi hsh
  subst hsh
  have h208 := hd146 _ rfl
  subst h208
  refine then_normal ?_
  exact ⟨c115, p116, k117, Sv118, (hs.wk rfl), (hw.ft [0, 2, 3] [0, 1] (by decide) rfl rfl)⟩
 rintro a w ⟨c150, p151, k152, Sv153, hs, hw⟩
 refine then_normal ?_
 refine sr ?_
 refine sv hs (y_fieldAddr (o' := 1) Try.runUnderlying29 rfl Try.sizeOf3 rfl rfl rfl) rfl fun a hs => ?_
 refine sv hs (y_loadB1 (hw.ownAt 0 rfl) rfl Try.isAgg3 rfl) rfl fun a hs => ?_
 refine sv hs (y_add rfl rfl) rfl fun a hs => ?_
 refine sv hs (y_fieldAddr (o' := 1) Try.runUnderlying29 rfl Try.sizeOf3 rfl rfl rfl) rfl fun a hs => ?_
 refine w_store (m := 1) (cs' := [.int .i64 wv1.Now, .int .i64 (w64 (wv1.Order + 1)), .slice p151 e149.length k152]) hs hw 0 rfl rfl rfl Try.sizeOf3 rfl rfl rfl rfl trivial ?_
 intro a w hs hw
 refine nl ?_
 refine sr ?_
 refine sv hs (y_loadBA (hw.ownAt 0 rfl) rfl Try.isAgg29 Try.sizeOf29 rfl rfl) rfl fun a hs => ?_
 refine w_store (m := 3) (cs' := [.int .i64 wv1.Now, .int .i64 (w64 (wv1.Order + 1)), .slice p151 e149.length k152]) hs hw 1 rfl rfl rfl Try.sizeOf29 rfl rfl rfl rfl trivial ?_
 intro a w hs hw
 refine av hs rfl rfl fun a hs => ?_
 refine nl ?_
 have hsh := oi hsh
 subst hsh
 refine wp_ret ?_
 exact ret2 hs rfl (rv_cell hw 1 rfl rfl Try.isAgg29 Try.sizeOf29 rfl) (rv_tmp rfl) (hw.ret ⟨p151, k152, c150, rfl, (hw.outs [2] (by decide) rfl), (hw.envAt 1 rfl)⟩)

abbrev link_Tick_rd (w0 : World) (X : List Nat) (r : (Wire × (List ByteArray) × Int)) : (Nat → Prop) → World → Value → Prop := fun S w v => ∃ (p0_2 : Option Addr) (k0_2 : Nat) (c0_2 : List Value) (p1_0 : Option Addr) (k1_0 : Nat) (c1_0 : List Value), v = .tuple #[.agg #[.int .i64 r.1.Now, .int .i64 r.1.Order, .slice p0_2 r.1.Items.length k0_2], .slice p1_0 r.2.1.length k1_0, .int .i64 r.2.2] ∧ Outs X w0 S w [.row p0_2 r.1.Items.length k0_2 c0_2 47 3, .row p1_0 r.2.1.length k1_0 c1_0 9 1] ∧ (RowA c0_2 r.1.Items).p S w ∧ (RowA c1_0 r.2.1).p S w
set_option maxHeartbeats 4000000 in
set_option maxRecDepth 100000 in
theorem link_Tick_ok {w0 : World} {S0 : Nat → Prop} {p2 : Option Addr} {k3 : Nat} {wv1 : Wire} {r : (Wire × (List ByteArray) × Int)} (hsh : link_Tick wv1 = some r) (hS : ∀ b, S0 b → b < w0.heap.size) (h4 : (SlA p2 wv1.Items.length k3 wv1.Items).p S0 w0) : Calls Try.prog 14 #[.agg #[.int .i64 wv1.Now, .int .i64 wv1.Order, .slice p2 wv1.Items.length k3]] w0 (Ret ([]) w0 S0 (link_Tick_rd w0 ([]) r)) := by
 refine calls_of_wp Try.func14 rfl ?_
 have hs := Sl.enter #[.agg #[.int .i64 wv1.Now, .int .i64 wv1.Order, .slice p2 wv1.Items.length k3]] 54 [(0, .agg #[.int .i64 wv1.Now, .int .i64 wv1.Order, .slice p2 wv1.Items.length k3])] rfl ⟨rfl, trivial⟩
 have hw := Wd.enter (E := []) hS (fun _ h => (by cases h))
 have hw := hw.addE h4
 delta link_Tick at hsh
 refine sr ?_
 refine w_box (cs := [.int .i64 wv1.Now, .int .i64 wv1.Order, .slice p2 wv1.Items.length k3]) hs hw rfl rfl rfl trivial ?_
 intro b5 a w hs hw
 refine w_alloc (cs := [.int .i64 0, .int .i64 0, .slice none ([] : List Transit).length 0]) hs hw Try.zeroValue29 rfl rfl trivial ?_
 intro b6 a w hs hw
 refine av hs rfl rfl fun a hs => ?_
 refine av hs rfl rfl fun a hs => ?_
 refine nl ?_
 refine wp_seq ?_
 refine sr ?_
 refine sv hs (y_loadBA (hw.ownAt 1 rfl) rfl Try.isAgg29 Try.sizeOf29 rfl rfl) rfl fun a hs => ?_
 obtain ⟨rv8, h7, hsh⟩ := bind_t hsh
 refine st_callR hs (link_Valid_ok h7 hw.bdom (hw.bE 0 rfl)) (do_call Try.call29 rfl) trivial rfl rfl ?_
 intro v12 Sv9 w a h10 h11 hs
 subst h11
 have hw := hw.callB h10
 refine sv hs (y_not rfl) rfl fun a hs => ?_
 refine nl ?_
 refine wp_cond_split (hs.ev rfl) (fun h15 => ?_) (fun h15 => ?_)
 ·have hsh := ite_t hsh h15
  refine sr ?_
  refine sv hs (y_build (vs := []) Bld29 rfl rfl) rfl fun a hs => ?_
  refine w_store (m := 3) (cs' := [.int .i64 0, .int .i64 0, .slice none ([] : List Transit).length 0]) hs hw 0 rfl rfl rfl Try.sizeOf29 rfl rfl rfl rfl trivial ?_
  intro a w hs hw
  refine av hs rfl rfl fun a hs => ?_
  refine av hs rfl rfl fun a hs => ?_
  refine nl ?_
  have hsh := oi hsh
  subst hsh
  have hw := hw.nilRow Transit 47
  have hw := hw.nilRow ByteArray 9
  refine wp_ret ?_
  refine then_ret ?_
  exact ret3 hs rfl (rv_cell hw 2 rfl rfl Try.isAgg29 Try.sizeOf29 rfl) (rv_tmp rfl) (rv_tmp rfl) (hw.ret ⟨none, 0, [], none, 0, [], rfl, (hw.outs [1, 0] (by decide) rfl), (hw.envAt 1 rfl), (hw.envAt 0 rfl)⟩)
 have hsh := ite_f hsh h15
 refine wp_skip ?_
 refine then_normal ?_
 refine wp_seq ?_
 refine sr ?_
 refine sv hs (y_fieldAddr (o' := 0) Try.runUnderlying29 rfl Try.sizeOf3 rfl rfl rfl) rfl fun a hs => ?_
 refine sv hs (y_loadB1 (hw.ownAt 1 rfl) rfl Try.isAgg3 rfl) rfl fun a hs => ?_
 refine sv hs (y_eql rfl rfl) rfl fun a hs => ?_
 refine nl ?_
 refine wp_cond_split (hs.ev rfl) (fun h17 => ?_) (fun h17 => ?_)
 ·have hsh := ite_t hsh h17
  refine sr ?_
  refine sv hs (y_build (vs := []) Bld29 rfl rfl) rfl fun a hs => ?_
  refine w_store (m := 3) (cs' := [.int .i64 0, .int .i64 0, .slice none ([] : List Transit).length 0]) hs hw 0 rfl rfl rfl Try.sizeOf29 rfl rfl rfl rfl trivial ?_
  intro a w hs hw
  refine av hs rfl rfl fun a hs => ?_
  refine av hs rfl rfl fun a hs => ?_
  refine nl ?_
  have hsh := oi hsh
  subst hsh
  have hw := hw.nilRow Transit 47
  have hw := hw.nilRow ByteArray 9
  refine wp_ret ?_
  refine then_ret ?_
  exact ret3 hs rfl (rv_cell hw 2 rfl rfl Try.isAgg29 Try.sizeOf29 rfl) (rv_tmp rfl) (rv_tmp rfl) (hw.ret ⟨none, 0, [], none, 0, [], rfl, (hw.outs [1, 0] (by decide) rfl), (hw.envAt 1 rfl), (hw.envAt 0 rfl)⟩)
 have hsh := ite_f hsh h17
 refine wp_skip ?_
 refine then_normal ?_
 refine sr ?_
 refine sv hs (y_fieldAddr (o' := 0) Try.runUnderlying29 rfl Try.sizeOf3 rfl rfl rfl) rfl fun a hs => ?_
 refine sv hs (y_loadB1 (hw.ownAt 1 rfl) rfl Try.isAgg3 rfl) rfl fun a hs => ?_
 refine sv hs (y_add rfl rfl) rfl fun a hs => ?_
 refine sv hs (y_fieldAddr (o' := 0) Try.runUnderlying29 rfl Try.sizeOf3 rfl rfl rfl) rfl fun a hs => ?_
 refine w_store (m := 1) (cs' := [.int .i64 (w64 (wv1.Now + 1)), .int .i64 wv1.Order, .slice p2 wv1.Items.length k3]) hs hw 1 rfl rfl rfl Try.sizeOf3 rfl rfl rfl rfl trivial ?_
 intro a w hs hw
 refine nl ?_
 refine sr ?_
 refine av hs rfl rfl fun a hs => ?_
 refine nl ?_
 refine sr ?_
 refine av hs rfl rfl fun a hs => ?_
 refine nl ?_
 refine wp_seq ?_
 obtain ⟨e144, h242, hsh⟩ := bind_t hsh
 refine wp_join (fun a w => ∃ (c145 : List Value) (p146 : Option Addr) (k147 : Nat) (Sv148 : Nat → Prop), Sl 54 [(1, .pointer (some ⟨b5, 0, none⟩)), (2, .pointer (some ⟨b6, 0, none⟩)), (5, .slice p146 e144.1.length k147), (6, .int .i64 e144.2)] a ∧ Wd ⟨w0, S0, []⟩ Sv148 [.box b5 [.int .i64 (w64 (wv1.Now + 1)), .int .i64 wv1.Order, .slice p2 wv1.Items.length k3] 29, .box b6 [.int .i64 0, .int .i64 0, .slice none ([] : List Transit).length 0] 29, .row p146 e144.1.length k147 c145 9 1] [SlA p2 wv1.Items.length k3 wv1.Items, SlA none ([] : List Transit).length 0 ([] : List Transit), RowA c145 e144.1] w) ?_ ?_
 ·refine wp_block ?_
  have hw := hw.nilRow ByteArray 9
  have hw := hw.addE (e := SlA (α := Transit) none 0 0 []) nil_sl
  refine wp_while (fun sv18 a w => ∃ (c99 : List Value) (p100 : Option Addr) (k101 : Nat) (Sv102 : Nat → Prop), Sl 54 [(1, .pointer (some ⟨b5, 0, none⟩)), (2, .pointer (some ⟨b6, 0, none⟩)), (5, .slice p100 sv18.1.length k101), (6, .int .i64 sv18.2)] a ∧ Wd ⟨w0, S0, []⟩ Sv102 [.box b5 [.int .i64 (w64 (wv1.Now + 1)), .int .i64 wv1.Order, .slice p2 wv1.Items.length k3] 29, .box b6 [.int .i64 0, .int .i64 0, .slice none ([] : List Transit).length 0] 29, .row p100 sv18.1.length k101 c99 9 1] [SlA p2 wv1.Items.length k3 wv1.Items, SlA none ([] : List Transit).length 0 ([] : List Transit), RowA c99 sv18.1] w) (([] : List ByteArray), 0) h242 ⟨[], none, 0, S0, (hs.wk rfl), (hw.ft [2, 1, 0] [2, 0, 1] (by decide) rfl rfl)⟩ ?_
  clear h242
  repeat clear hsh
  rintro sv18 a w tv142 ⟨c99, p100, k101, Sv102, hs, hw⟩ hsh hd141
  delta link_Tick_l1 at hsh
  refine wp_seq ?_
  refine wp_seq ?_
  obtain ⟨c162, hc162, hsh⟩ := bind_t hsh
  refine wp_only (fun a w => ∃ (Sv163 : Nat → Prop), Sl 54 [(1, .pointer (some ⟨b5, 0, none⟩)), (2, .pointer (some ⟨b6, 0, none⟩)), (5, .slice p100 sv18.1.length k101), (6, .int .i64 sv18.2), (34, .bool c162)] a ∧ Wd ⟨w0, S0, []⟩ Sv163 [.box b5 [.int .i64 (w64 (wv1.Now + 1)), .int .i64 wv1.Order, .slice p2 wv1.Items.length k3] 29, .box b6 [.int .i64 0, .int .i64 0, .slice none ([] : List Transit).length 0] 29, .row p100 sv18.1.length k101 c99 9 1] [SlA p2 wv1.Items.length k3 wv1.Items, SlA none ([] : List Transit).length 0 ([] : List Transit), RowA c99 sv18.1] w) ?_ ?_
  ·rcases Bool.eq_false_or_eq_true (decide (sv18.2 < (wv1.Items.length : Int))) with h164 | h164
   ·have h165 := ite_t hc162 h164
    obtain ⟨x168, h166, h165⟩ := bind_t h165
    obtain ⟨b174, o175, q172, c173, h176, h169, h170, h171, h167⟩ := hw.elemV 0 rfl h166
    have hsv177 := hs
    have hwv178 := hw
    subst h176
    have hs := hsv177
    have hw := hwv178
    obtain ⟨_, _, _, rfl, rfl, rfl, rfl⟩ := h167
    have hw := hw.addE h171
    refine h_b (C := Cls [.box b5 [.int .i64 (w64 (wv1.Now + 1)), .int .i64 wv1.Order, .slice (some ⟨b174, o175, none⟩) wv1.Items.length k3] 29, .box b6 [.int .i64 0, .int .i64 0, .slice none ([] : List Transit).length 0] 29, .row p100 sv18.1.length k101 c99 9 1] [CeA b174 q172 [.int .i64 x168.At, .int .i64 x168.Order, .string x168.Data]]) (by kernel_rfl) rfl (hw.drew.cs [0, 1, 2] [0] rfl rfl) fun hC => ?_
    have hw := hw.drew
    refine gm hs 0 rfl rfl rfl hC fun a hs => ?_
    refine gv hs 1 rfl rfl hC (fun w hC => y_fieldAddr (o' := 2) Try.runUnderlying29 rfl Try.sizeOf27 rfl rfl rfl) fun a hs => ?_
    refine gv hs 2 rfl rfl hC (fun w hC => y_loadB1 (hC.ownAt 0 rfl) rfl Try.isAgg27 rfl) fun a hs => ?_
    refine gv hs 3 rfl rfl hC (fun w hC => y_len Try.runUnderlying27 rfl) fun a hs => ?_
    refine gv hs 4 rfl rfl hC (fun w hC => y_lss rfl rfl) fun a hs => ?_
    refine gm hs 5 rfl rfl rfl hC fun a hs => ?_
    have hs := hs.fix 24 (.bool true) rfl (vb h164)
    refine gt hs 6 rfl ⟨_, rfl, rfl⟩ rfl hC (fun w hC => y_fieldAddr (o' := 2) Try.runUnderlying29 rfl Try.sizeOf27 rfl rfl rfl) fun a hs => ?_
    refine gt hs 7 rfl ⟨_, rfl, rfl⟩ rfl hC (fun w hC => y_loadB1 (hC.ownAt 0 rfl) rfl Try.isAgg27 rfl) fun a hs => ?_
    refine gt hs 8 rfl ⟨_, rfl, rfl⟩ rfl hC (fun w hC => y_move rfl) fun a hs => ?_
    refine gt hs 9 rfl ⟨_, rfl, rfl⟩ rfl hC (fun w hC => y_indexAt Try.runUnderlying27 Try.sizeOf47 rfl rfl h169.1 h169.2 h170) fun a hs => ?_
    refine gt hs 10 rfl ⟨_, rfl, rfl⟩ rfl hC (fun w hC => y_fieldAddr (o' := q172 + 0) Try.runUnderlying47 rfl Try.sizeOf3 rfl rfl rfl) fun a hs => ?_
    refine gt hs 11 rfl ⟨_, rfl, rfl⟩ rfl hC (fun w hC => y_loadE1 (j := 0) (hC.ceAt 0 rfl) rfl Try.isAgg3 rfl) fun a hs => ?_
    refine gt hs 12 rfl ⟨_, rfl, rfl⟩ rfl hC (fun w hC => y_fieldAddr (o' := 0) Try.runUnderlying29 rfl Try.sizeOf3 rfl rfl rfl) fun a hs => ?_
    refine gt hs 13 rfl ⟨_, rfl, rfl⟩ rfl hC (fun w hC => y_loadB1 (hC.ownAt 0 rfl) rfl Try.isAgg3 rfl) fun a hs => ?_
    refine gt hs 14 rfl ⟨_, rfl, rfl⟩ rfl hC (fun w hC => y_eql rfl rfl) fun a hs => ?_
    refine gv hs 15 rfl rfl hC (fun w hC => y_pickTE (v := .bool c162) rfl rfl (vbs h165)) fun a hs => ?_
    refine h_done (by kernel_rfl) ?_
    exact ⟨Sv102, (hs.wk rfl), (hw.ft [0, 1, 2] [1, 2, 3] (by decide) rfl rfl)⟩
   have h179 := ite_f hc162 h164
   refine h_b (C := Cls [.box b5 [.int .i64 (w64 (wv1.Now + 1)), .int .i64 wv1.Order, .slice p2 wv1.Items.length k3] 29, .box b6 [.int .i64 0, .int .i64 0, .slice none ([] : List Transit).length 0] 29, .row p100 sv18.1.length k101 c99 9 1] []) (by kernel_rfl) rfl (hw.drew.cs [0, 1, 2] [] rfl rfl) fun hC => ?_
   have hw := hw.drew
   refine gm hs 0 rfl rfl rfl hC fun a hs => ?_
   refine gv hs 1 rfl rfl hC (fun w hC => y_fieldAddr (o' := 2) Try.runUnderlying29 rfl Try.sizeOf27 rfl rfl rfl) fun a hs => ?_
   refine gv hs 2 rfl rfl hC (fun w hC => y_loadB1 (hC.ownAt 0 rfl) rfl Try.isAgg27 rfl) fun a hs => ?_
   refine gv hs 3 rfl rfl hC (fun w hC => y_len Try.runUnderlying27 rfl) fun a hs => ?_
   refine gv hs 4 rfl rfl hC (fun w hC => y_lss rfl rfl) fun a hs => ?_
   refine gm hs 5 rfl rfl rfl hC fun a hs => ?_
   have hs := hs.fix 24 (.bool false) rfl (vb h164)
   refine gs hs 6 rfl rfl rfl rfl hC fun a hs => ?_
   refine gs hs 7 rfl rfl rfl rfl hC fun a hs => ?_
   refine gs hs 8 rfl rfl rfl rfl hC fun a hs => ?_
   refine gs hs 9 rfl rfl rfl rfl hC fun a hs => ?_
   refine gs hs 10 rfl rfl rfl rfl hC fun a hs => ?_
   refine gs hs 11 rfl rfl rfl rfl hC fun a hs => ?_
   refine gs hs 12 rfl rfl rfl rfl hC fun a hs => ?_
   refine gs hs 13 rfl rfl rfl rfl hC fun a hs => ?_
   refine gs hs 14 rfl rfl rfl rfl hC fun a hs => ?_
   refine gv hs 15 rfl rfl hC (fun w hC => y_pickFE (v := .bool c162) rfl rfl (vbs h179)) fun a hs => ?_
   refine h_done (by kernel_rfl) ?_
   exact ⟨Sv102, (hs.wk rfl), (hw.ft [0, 1, 2] [0, 1, 2] (by decide) rfl rfl)⟩
  rintro a w ⟨Sv163, hs, hw⟩
  refine then_normal ?_
  refine wp_cond_split (hs.ev rfl) (fun h181 => ?_) (fun h181 => ?_)
  ·have hsh := ite_t hsh h181
   refine wp_skip ?_
   refine then_normal ?_
   refine wp_seq ?_
   refine wp_block ?_
   refine wp_region_lit ?_
   refine mv hs rfl rfl fun a hs => ?_
   refine sv hs (y_fieldAddr (o' := 2) Try.runUnderlying29 rfl Try.sizeOf27 rfl rfl rfl) rfl fun a hs => ?_
   refine sv hs (y_loadB1 (hw.ownAt 0 rfl) rfl Try.isAgg27 rfl) rfl fun a hs => ?_
   refine mv hs rfl rfl fun a hs => ?_
   obtain ⟨x204, h202, hsh⟩ := bind_t hsh
   obtain ⟨b210, o211, q208, c209, h212, h205, h206, h207, h203⟩ := hw.elemV 0 rfl h202
   have hsv213 := hs
   have hwv214 := hw
   subst h212
   have hs := hsv213
   have hw := hwv214
   obtain ⟨_, _, _, rfl, rfl, rfl, rfl⟩ := h203
   have hw := hw.addE h207
   refine sv hs (y_indexAt Try.runUnderlying27 Try.sizeOf47 rfl rfl h205.1 h205.2 h206) rfl fun a hs => ?_
   refine sv hs (y_fieldAddr (o' := q208 + 2) Try.runUnderlying47 rfl Try.sizeOf9 rfl rfl rfl) rfl fun a hs => ?_
   refine sv hs (y_loadE1 (j := 2) (hw.ceAt 0 rfl) rfl Try.isAgg9 rfl) rfl fun a hs => ?_
   refine w_litSlice (α := ByteArray) (vs := [.string x204.Data]) (cs := [.string x204.Data]) (xs := ([x204.Data] : List ByteArray)) hs hw El34 rfl rfl rfl rfl rfl rfl ⟨⟨_, rfl, rfl⟩, rfl⟩ rfl trivial rfl fun b216 a w hs hw => ?_
   obtain ⟨l218, h217, hsh⟩ := bind_t hsh
   refine w_appendR (α := ByteArray) hs hw El34 3 rfl rfl rfl 4 rfl 0 rfl 0 rfl h217 rfl trivial ?_
   intro p219 k220 c221 a w hs hw
   refine av hs rfl rfl fun a hs => ?_
   refine wpList_nil ?_
   refine blk_normal ?_
   refine then_normal ?_
   refine wp_region_lit ?_
   refine mv hs rfl rfl fun a hs => ?_
   refine sv hs (y_add rfl rfl) rfl fun a hs => ?_
   obtain ⟨n223, h222, hsh⟩ := bind_t hsh
   refine sv hs (y_assignI rfl h222) rfl fun a hs => ?_
   refine nl ?_
   exact ⟨_, (Option.some.inj hsh).symm, c221, p219, k220, Sv163, (hs.wk rfl), (hw.ft [1, 2, 3] [3, 4, 0] (by decide) rfl rfl)⟩
  have hsh := ite_f hsh h181
  refine wp_exit ?_
  refine then_exit ?_
  refine then_exit ?_
  refine blk_exit ?_
  have hsh := oi hsh
  subst hsh
  have h224 := hd141 _ rfl
  subst h224
  refine then_normal ?_
  exact ⟨c99, p100, k101, Sv163, (hs.wk rfl), (hw.ft [0, 1, 2] [0, 1, 2] (by decide) rfl rfl)⟩
 rintro a w ⟨c145, p146, k147, Sv148, hs, hw⟩
 refine then_normal ?_
 refine sr ?_
 refine sv hs (y_fieldAddr (o' := 2) Try.runUnderlying29 rfl Try.sizeOf27 rfl rfl rfl) rfl fun a hs => ?_
 refine sv hs (y_loadB1 (hw.ownAt 0 rfl) rfl Try.isAgg27 rfl) rfl fun a hs => ?_
 refine mv hs rfl rfl fun a hs => ?_
 obtain ⟨l230, h225, hsh⟩ := bind_t hsh
 obtain ⟨p228, k229, h226, h227⟩ := sub_env (hw.envAt 0 rfl) h225
 have hw := hw.addE h226
 refine sv hs (y_slc Try.runUnderlying27 Try.sizeOf47 rfl ⟨_, rfl⟩ (by exact rfl) h227) rfl fun a hs => ?_
 obtain ⟨rv232, h231, hsh⟩ := bind_t hsh
 refine st_callR hs (slices_Clone_Lapi_Transit_api_Transit_ok h231 hw.dom (hw.envAt 0 rfl)) (do_call Try.call31 rfl) trivial rfl rfl ?_
 intro v240 Sv237 w a h238 h239 hs
 obtain ⟨p233, k234, c236, rfl, h241, h235⟩ := h239
 have hw := hw.callN h238 h241
 have hw := hw.addE (e := RowA c236 rv232) h235
 refine sv hs (y_fieldAddr (o' := 2) Try.runUnderlying29 rfl Try.sizeOf27 rfl rfl rfl) rfl fun a hs => ?_
 refine w_store (m := 1) (cs' := [.int .i64 (w64 (wv1.Now + 1)), .int .i64 wv1.Order, .slice p233 rv232.length k234]) hs hw 1 rfl rfl rfl Try.sizeOf27 rfl rfl rfl rfl trivial ?_
 intro a w hs hw
 refine nl ?_
 refine sr ?_
 refine sv hs (y_loadBA (hw.ownAt 1 rfl) rfl Try.isAgg29 Try.sizeOf29 rfl rfl) rfl fun a hs => ?_
 refine mv hs rfl rfl fun a hs => ?_
 refine w_store (m := 3) (cs' := [.int .i64 (w64 (wv1.Now + 1)), .int .i64 wv1.Order, .slice p233 rv232.length k234]) hs hw 2 rfl rfl rfl Try.sizeOf29 rfl rfl rfl rfl trivial ?_
 intro a w hs hw
 refine av hs rfl rfl fun a hs => ?_
 refine av hs rfl rfl fun a hs => ?_
 refine nl ?_
 have hsh := oi hsh
 subst hsh
 refine wp_ret ?_
 exact ret3 hs rfl (rv_cell hw 2 rfl rfl Try.isAgg29 Try.sizeOf29 rfl) (rv_tmp rfl) (rv_tmp rfl) (hw.ret ⟨p233, k234, c236, p146, k147, c145, rfl, (hw.outs [0, 3] (by decide) rfl), (hw.envAt 0 rfl), (hw.envAt 4 rfl)⟩)

abbrev law09_sane_rd (w0 : World) (X : List Nat) (r : Bool) : (Nat → Prop) → World → Value → Prop := fun S w v => v = .bool r
set_option maxHeartbeats 4000000 in
set_option maxRecDepth 100000 in
theorem law09_sane_ok {w0 : World} {S0 : Nat → Prop} {r : Bool} (hsh : law09_sane = some r) (hS : ∀ b, S0 b → b < w0.heap.size) : Calls Try.prog 8 #[] w0 (Ret ([]) w0 S0 (law09_sane_rd w0 ([]) r)) := by
 refine calls_of_wp Try.func8 rfl ?_
 have hs := Sl.enter #[] 53 [] rfl trivial
 have hw := Wd.enter (E := []) hS (fun _ h => (by cases h))
 delta law09_sane at hsh
 refine sr ?_
 refine av hs rfl rfl fun a hs => ?_
 refine nl ?_
 refine sr ?_
 obtain ⟨rv2, h1, hsh⟩ := bind_t hsh
 refine st_callR hs (link_New_ok h1 hw.dom) (do_call Try.call10 rfl) trivial rfl rfl ?_
 intro v9 Sv6 w a h7 h8 hs
 obtain ⟨p3, k4, rfl, h5⟩ := h8
 have hw := hw.call h7
 have hw := hw.addE (e := SlA p3 rv2.Items.length k4 rv2.Items) h5
 refine sv hs (y_build (vs := [(1, .int .i64 2), (2, .int .i64 1)]) Bld32 rfl rfl) rfl fun a hs => ?_
 obtain ⟨rv12, h11, hsh⟩ := bind_t hsh
 refine st_callR hs (link_Send_ok h11 hw.dom (hw.envAt 0 rfl)) (do_call Try.call13 rfl) trivial rfl rfl ?_
 intro v20 Sv17 w a h18 h19 hs
 obtain ⟨p13, k14, c16, rfl, h21, h15⟩ := h19
 have hw := hw.callN h18 h21
 have hw := hw.addE (e := RowA c16 rv12.1.Items) h15
 refine mv hs rfl rfl fun a hs => ?_
 refine sv hs (y_extract rfl rfl) rfl fun a hs => ?_
 refine sv hs (y_extract rfl rfl) rfl fun a hs => ?_
 refine w_alloc (cs := [.int .i64 0, .int .i64 0, .slice none ([] : List Transit).length 0]) hs hw Try.zeroValue29 rfl rfl trivial ?_
 intro b22 a w hs hw
 refine w_store (m := 3) (cs' := [.int .i64 rv12.1.Now, .int .i64 rv12.1.Order, .slice p13 rv12.1.Items.length k14]) hs hw 0 rfl rfl rfl Try.sizeOf29 rfl rfl rfl rfl trivial ?_
 intro a w hs hw
 refine av hs rfl rfl fun a hs => ?_
 refine nl ?_
 refine sr ?_
 refine av hs rfl rfl fun a hs => ?_
 refine nl ?_
 refine wp_seq ?_
 refine sr ?_
 refine av hs rfl rfl fun a hs => ?_
 refine nl ?_
 refine wp_block ?_
 refine wp_while (fun sv127 a w => ∃ (c194 : List Value) (p195 : Option Addr) (k196 : Nat) (Sv197 : Nat → Prop), Sl 53 [(1, .pointer (some ⟨b22, 0, none⟩)), (2, .int .i64 rv12.2), (3, .int .i64 sv127.2.2.2.1), (4, .int .i64 sv127.2.2.2.2)] a ∧ Wd ⟨w0, S0, []⟩ Sv197 [.box b22 [.int .i64 sv127.1, .int .i64 sv127.2.1, .slice p195 sv127.2.2.1.length k196] 29, .row p195 sv127.2.2.1.length k196 c194 47 3] [RowA c194 sv127.2.2.1] w) (rv12.1.Now, rv12.1.Order, rv12.1.Items, 0, 1) hsh ⟨c16, p13, k14, Sv17, (hs.wk rfl), (hw.ft [0, 1] [0] (by decide) rfl rfl)⟩ ?_
 repeat clear hsh
 rintro sv127 a w tv230 ⟨c194, p195, k196, Sv197, hs, hw⟩ hsh hd229
 delta law09_sane_l2 at hsh
 refine wp_seq ?_
 refine sr ?_
 refine mv hs rfl rfl fun a hs => ?_
 refine sv hs (y_leq rfl rfl) rfl fun a hs => ?_
 refine mv hs rfl rfl fun a hs => ?_
 refine wpl_join 3 (fun a w1 => w = w1 ∧ Sl 53 [(1, .pointer (some ⟨b22, 0, none⟩)), (2, .int .i64 rv12.2), (3, .int .i64 sv127.2.2.2.1), (4, .int .i64 sv127.2.2.2.2), (19, .bool ((decide (sv127.2.2.2.2 ≤ 5)) && (rv12.2 == 0)))] a) ?_ ?_
 ·rcases Bool.eq_false_or_eq_true (decide (sv127.2.2.2.2 ≤ 5)) with h231 | h231
  ·have hs := hs.fix 16 (.bool true) rfl (vb h231)
   refine st_val hs (y_move rfl) ⟨_, rfl, rfl⟩ rfl rfl fun a hs => ?_
   refine st_val hs (y_eql rfl rfl) ⟨_, rfl, rfl⟩ rfl rfl fun a hs => ?_
   refine sv hs (y_pickT rfl rfl) rfl fun a hs => ?_
   refine nl ?_
   exact ⟨rfl, (hs.fix 19 (.bool ((decide (sv127.2.2.2.2 ≤ 5)) && (rv12.2 == 0))) rfl (and_t h231)).weaken _ ⟨rfl, rfl, rfl, rfl, rfl, trivial⟩⟩
  have hs := hs.fix 16 (.bool false) rfl (vb h231)
  refine st_skip hs rfl rfl rfl rfl rfl fun a hs => ?_
  refine st_skip hs rfl rfl rfl rfl rfl fun a hs => ?_
  refine sv hs (y_pickF rfl rfl) rfl fun a hs => ?_
  refine nl ?_
  exact ⟨rfl, (hs.fix 19 (.bool ((decide (sv127.2.2.2.2 ≤ 5)) && (rv12.2 == 0))) rfl (and_f h231)).weaken _ ⟨rfl, rfl, rfl, rfl, rfl, trivial⟩⟩
 rintro a w1 ⟨h296, hs⟩
 subst h296
 refine nl ?_
 refine wp_cond_split (hs.ev rfl) (fun h235 => ?_) (fun h235 => ?_)
 ·have hsh := ite_t hsh h235
  refine wp_skip ?_
  refine then_normal ?_
  refine wp_seq ?_
  refine wp_block ?_
  refine sr ?_
  refine sv hs (y_loadBA (hw.ownAt 0 rfl) rfl Try.isAgg29 Try.sizeOf29 rfl rfl) rfl fun a hs => ?_
  obtain ⟨rv263, h262, hsh⟩ := bind_t hsh
  obtain ⟨Sv272, hw⟩ := w_share (α := Transit) hw 1 rfl 0 rfl
  refine st_callR hs (link_Tick_ok h262 hw.dom (hw.envAt 0 rfl)) (do_call Try.call14 rfl) trivial rfl rfl ?_
  intro v276 Sv273 w a h274 h275 hs
  obtain ⟨p264, k265, c267, p268, k269, c271, rfl, h277, h266, h270⟩ := h275
  have hw := hw.callN h274 h277
  have hw := hw.addE (e := RowA c267 rv263.1.Items) h266
  have hw := hw.addE (e := RowA c271 rv263.2.1) h270
  refine mv hs rfl rfl fun a hs => ?_
  refine sv hs (y_extract rfl rfl) rfl fun a hs => ?_
  refine sv hs (y_extract rfl rfl) rfl fun a hs => ?_
  refine sv hs (y_extract rfl rfl) rfl fun a hs => ?_
  refine w_alloc (cs := [.int .i64 0, .int .i64 0, .slice none ([] : List Transit).length 0]) hs hw Try.zeroValue29 rfl rfl trivial ?_
  intro b278 a w hs hw
  refine w_store (m := 3) (cs' := [.int .i64 rv263.1.Now, .int .i64 rv263.1.Order, .slice p264 rv263.1.Items.length k265]) hs hw 0 rfl rfl rfl Try.sizeOf29 rfl rfl rfl rfl trivial ?_
  intro a w hs hw
  refine av hs rfl rfl fun a hs => ?_
  refine av hs rfl rfl fun a hs => ?_
  refine nl ?_
  refine wp_seq ?_
  refine sr ?_
  refine mv hs rfl rfl fun a hs => ?_
  refine sv hs (y_neq rfl rfl) rfl fun a hs => ?_
  refine mv hs rfl rfl fun a hs => ?_
  refine wpl_join 11 (fun a w1 => w = w1 ∧ Sl 53 [(1, .pointer (some ⟨b22, 0, none⟩)), (2, .int .i64 rv12.2), (3, .int .i64 sv127.2.2.2.1), (4, .int .i64 sv127.2.2.2.2), (5, .pointer (some ⟨b278, 0, none⟩)), (6, .slice p268 rv263.2.1.length k269), (41, .bool ((rv263.2.2 != 0) || (!(((rv263.2.1.length : Int) == 1) == ((sv127.2.2.2.2 == 3) || (sv127.2.2.2.2 == 4))))))] a) ?_ ?_
  ·rcases Bool.eq_false_or_eq_true (rv263.2.2 != 0) with h281 | h281
   ·have hs := hs.fix 30 (.bool true) rfl (vb h281)
    refine st_skip hs rfl rfl rfl rfl rfl fun a hs => ?_
    refine st_skip hs rfl rfl rfl rfl rfl fun a hs => ?_
    refine st_skip hs rfl rfl rfl rfl rfl fun a hs => ?_
    refine st_skip hs rfl rfl rfl rfl rfl fun a hs => ?_
    refine st_skip hs rfl rfl rfl rfl rfl fun a hs => ?_
    refine st_skip hs rfl rfl rfl rfl rfl fun a hs => ?_
    refine st_skipU hs rfl rfl rfl rfl rfl fun a hs => ?_
    refine st_skipU hs rfl rfl rfl rfl rfl fun a hs => ?_
    refine st_skip hs rfl rfl rfl rfl rfl fun a hs => ?_
    refine st_skip hs rfl rfl rfl rfl rfl fun a hs => ?_
    refine sv hs (y_pickT rfl rfl) rfl fun a hs => ?_
    refine nl ?_
    exact ⟨rfl, (hs.fix 41 (.bool ((rv263.2.2 != 0) || (!(((rv263.2.1.length : Int) == 1) == ((sv127.2.2.2.2 == 3) || (sv127.2.2.2.2 == 4)))))) rfl (or_t h281)).weaken _ ⟨rfl, rfl, rfl, rfl, rfl, rfl, rfl, trivial⟩⟩
   have hs := hs.fix 30 (.bool false) rfl (vb h281)
   refine st_val hs (y_move rfl) ⟨_, rfl, rfl⟩ rfl rfl fun a hs => ?_
   refine st_val hs (y_len Try.runUnderlying34 rfl) ⟨_, rfl, rfl⟩ rfl rfl fun a hs => ?_
   refine st_val hs (y_eql rfl rfl) ⟨_, rfl, rfl⟩ rfl rfl fun a hs => ?_
   refine st_val hs (y_move rfl) ⟨_, rfl, rfl⟩ rfl rfl fun a hs => ?_
   refine st_val hs (y_eql rfl rfl) ⟨_, rfl, rfl⟩ rfl rfl fun a hs => ?_
   refine st_val hs (y_move rfl) ⟨_, rfl, rfl⟩ rfl rfl fun a hs => ?_
   refine wpl_join 3 (fun a w1 => w = w1 ∧ Sl 53 [(1, .pointer (some ⟨b22, 0, none⟩)), (2, .int .i64 rv12.2), (3, .int .i64 sv127.2.2.2.1), (4, .int .i64 sv127.2.2.2.2), (5, .pointer (some ⟨b278, 0, none⟩)), (6, .slice p268 rv263.2.1.length k269), (30, .bool false), (31, .slice p268 rv263.2.1.length k269), (32, .int .i64 (rv263.2.1.length : Int)), (33, .bool ((rv263.2.1.length : Int) == 1)), (34, .int .i64 sv127.2.2.2.2), (35, .bool (sv127.2.2.2.2 == 3)), (36, .bool (sv127.2.2.2.2 == 3)), (39, .bool ((sv127.2.2.2.2 == 3) || (sv127.2.2.2.2 == 4)))] a) ?_ ?_
   ·rcases Bool.eq_false_or_eq_true (sv127.2.2.2.2 == 3) with h282 | h282
    ·have hs := hs.fix 36 (.bool true) rfl (vb h282)
     refine st_skip hs rfl rfl rfl rfl rfl fun a hs => ?_
     refine st_skip hs rfl rfl rfl rfl rfl fun a hs => ?_
     refine st_val hs (y_pickT rfl rfl) ⟨_, rfl, rfl⟩ rfl rfl fun a hs => ?_
     refine nl ?_
     have hs := hs.fix 36 (.bool (sv127.2.2.2.2 == 3)) rfl (vb h282.symm)
     exact ⟨rfl, (hs.fix 39 (.bool ((sv127.2.2.2.2 == 3) || (sv127.2.2.2.2 == 4))) rfl (or_t h282)).weaken _ ⟨rfl, rfl, rfl, rfl, rfl, rfl, rfl, rfl, rfl, rfl, rfl, rfl, rfl, rfl, trivial⟩⟩
    have hs := hs.fix 36 (.bool false) rfl (vb h282)
    refine st_val hs (y_move rfl) ⟨_, rfl, rfl⟩ rfl rfl fun a hs => ?_
    refine st_val hs (y_eql rfl rfl) ⟨_, rfl, rfl⟩ rfl rfl fun a hs => ?_
    refine st_val hs (y_pickF rfl rfl) ⟨_, rfl, rfl⟩ rfl rfl fun a hs => ?_
    refine nl ?_
    have hs := hs.fix 36 (.bool (sv127.2.2.2.2 == 3)) rfl (vb h282.symm)
    exact ⟨rfl, (hs.fix 39 (.bool ((sv127.2.2.2.2 == 3) || (sv127.2.2.2.2 == 4))) rfl (or_f h282)).weaken _ ⟨rfl, rfl, rfl, rfl, rfl, rfl, rfl, rfl, rfl, rfl, rfl, rfl, rfl, rfl, trivial⟩⟩
   rintro a w1 ⟨h283, hs⟩
   subst h283
   refine st_val hs (y_neqB Try.runUnderlying4 rfl rfl) ⟨_, rfl, rfl⟩ rfl rfl fun a hs => ?_
   refine sv hs (y_pickF rfl rfl) rfl fun a hs => ?_
   refine nl ?_
   exact ⟨rfl, (hs.fix 41 (.bool ((rv263.2.2 != 0) || (!(((rv263.2.1.length : Int) == 1) == ((sv127.2.2.2.2 == 3) || (sv127.2.2.2.2 == 4)))))) rfl (or_f h281)).weaken _ ⟨rfl, rfl, rfl, rfl, rfl, rfl, rfl, trivial⟩⟩
  rintro a w1 ⟨h291, hs⟩
  subst h291
  refine nl ?_
  refine wp_cond_split (hs.ev rfl) (fun h285 => ?_) (fun h285 => ?_)
  ·have hsh := ite_t hsh h285
   refine sr ?_
   refine av hs rfl rfl fun a hs => ?_
   refine nl ?_
   have hsh := oi hsh
   subst hsh
   have h286 := hd229 _ rfl
   subst h286
   refine wp_ret ?_
   refine then_ret ?_
   refine blk_ret ?_
   refine then_ret ?_
   refine then_ret ?_
   refine blk_ret ?_
   refine then_ret ?_
   exact ret1 hs rfl (rv_tmp rfl) (hw.ret rfl)
  have hsh := ite_f hsh h285
  refine wp_skip ?_
  refine then_normal ?_
  refine wp_region_lit ?_
  refine sv hs (y_loadBA (hw.ownAt 0 rfl) rfl Try.isAgg29 Try.sizeOf29 rfl rfl) rfl fun a hs => ?_
  refine mv hs rfl rfl fun a hs => ?_
  refine mv hs rfl rfl fun a hs => ?_
  refine sv hs (y_len Try.runUnderlying34 rfl) rfl fun a hs => ?_
  refine sv hs (y_add rfl rfl) rfl fun a hs => ?_
  refine w_store (m := 3) (cs' := [.int .i64 rv263.1.Now, .int .i64 rv263.1.Order, .slice p264 rv263.1.Items.length k265]) hs hw 3 rfl rfl rfl Try.sizeOf29 rfl rfl rfl rfl trivial ?_
  intro a w hs hw
  obtain ⟨got288, h287, hsh⟩ := bind_t hsh
  refine sv hs (y_assignI rfl h287) rfl fun a hs => ?_
  refine wpList_nil ?_
  refine blk_normal ?_
  refine then_normal ?_
  refine wp_region_lit ?_
  refine mv hs rfl rfl fun a hs => ?_
  refine sv hs (y_add rfl rfl) rfl fun a hs => ?_
  obtain ⟨i290, h289, hsh⟩ := bind_t hsh
  refine sv hs (y_assignI rfl h289) rfl fun a hs => ?_
  refine nl ?_
  exact ⟨_, (Option.some.inj hsh).symm, c267, p264, k265, Sv273, (hs.wk rfl), (hw.ft [3, 1] [1] (by decide) rfl rfl)⟩
 have hsh := ite_f hsh h235
 obtain ⟨rv294, hsh, h295⟩ := map_t hsh
 have h295 := (hd229 _ h295.symm).symm
 subst h295
 refine wp_exit ?_
 refine then_exit ?_
 refine then_exit ?_
 refine blk_exit ?_
 refine then_normal ?_
 refine sr ?_
 refine mv hs rfl rfl fun a hs => ?_
 refine sv hs (y_eql rfl rfl) rfl fun a hs => ?_
 refine mv hs rfl rfl fun a hs => ?_
 refine wpl_join 3 (fun a w1 => w = w1 ∧ Sl 53 [(52, .bool ((rv12.2 == 0) && (sv127.2.2.2.1 == 2)))] a) ?_ ?_
 ·rcases Bool.eq_false_or_eq_true (rv12.2 == 0) with h292 | h292
  ·have hs := hs.fix 49 (.bool true) rfl (vb h292)
   refine st_val hs (y_move rfl) ⟨_, rfl, rfl⟩ rfl rfl fun a hs => ?_
   refine st_val hs (y_eql rfl rfl) ⟨_, rfl, rfl⟩ rfl rfl fun a hs => ?_
   refine sv hs (y_pickT rfl rfl) rfl fun a hs => ?_
   refine nl ?_
   exact ⟨rfl, (hs.fix 52 (.bool ((rv12.2 == 0) && (sv127.2.2.2.1 == 2))) rfl (and_t h292)).weaken _ ⟨rfl, trivial⟩⟩
  have hs := hs.fix 49 (.bool false) rfl (vb h292)
  refine st_skip hs rfl rfl rfl rfl rfl fun a hs => ?_
  refine st_skip hs rfl rfl rfl rfl rfl fun a hs => ?_
  refine sv hs (y_pickF rfl rfl) rfl fun a hs => ?_
  refine nl ?_
  exact ⟨rfl, (hs.fix 52 (.bool ((rv12.2 == 0) && (sv127.2.2.2.1 == 2))) rfl (and_f h292)).weaken _ ⟨rfl, trivial⟩⟩
 rintro a w1 ⟨h293, hs⟩
 subst h293
 refine av hs rfl rfl fun a hs => ?_
 refine nl ?_
 have hsh := oi hsh
 subst hsh
 refine wp_ret ?_
 exact ret1 hs rfl (rv_tmp rfl) (hw.ret rfl)

abbrev made_Roll_rd (w0 : World) (X : List Nat) (r : Dice) : (Nat → Prop) → World → Value → Prop := fun S w v => ∃ (b_0 : Nat) (p0_0 : Option Addr) (k0_0 : Nat), v = .pointer (some ⟨b_0, 0, none⟩) ∧ Outs X w0 S w [.box b_0 [.slice p0_0 r.L.length k0_0, .int .i64 r.At] 59] ∧ (SlA p0_0 r.L.length k0_0 r.L).p S w
set_option maxHeartbeats 4000000 in
set_option maxRecDepth 100000 in
theorem made_Roll_ok {w0 : World} {S0 : Nat → Prop} {p2 : Option Addr} {k3 : Nat} {l1 : (List Int)} {r : Dice} (hsh : made_Roll l1 = some r) (hS : ∀ b, S0 b → b < w0.heap.size) (h4 : (SlA p2 l1.length k3 l1).p S0 w0) : Calls Try.prog 9 #[.slice p2 l1.length k3] w0 (Ret ([]) w0 S0 (made_Roll_rd w0 ([]) r)) := by
 refine calls_of_wp Try.func9 rfl ?_
 have hs := Sl.enter #[.slice p2 l1.length k3] 6 [(0, .slice p2 l1.length k3)] rfl ⟨rfl, trivial⟩
 have hw := Wd.enter (E := []) hS (fun _ h => (by cases h))
 have hw := hw.addE h4
 delta made_Roll at hsh
 refine sr ?_
 refine av hs rfl rfl fun a hs => ?_
 refine nl ?_
 refine sr ?_
 refine mv hs rfl rfl fun a hs => ?_
 refine sv hs (y_build (vs := [(0, .slice p2 l1.length k3)]) Bld59 rfl rfl) rfl fun a hs => ?_
 refine w_box (cs := [.slice p2 l1.length k3, .int .i64 0]) hs hw rfl rfl rfl trivial ?_
 intro b5 a w hs hw
 refine av hs rfl rfl fun a hs => ?_
 refine nl ?_
 have hsh := oi hsh
 subst hsh
 refine wp_ret ?_
 exact ret1 hs rfl (rv_tmp rfl) (hw.ret ⟨b5, p2, k3, rfl, (hw.outs [0] (by decide) rfl), (hw.envAt 0 rfl)⟩)

abbrev made_Dice_Next_rd (w0 : World) (X : List Nat) (b2 : Nat) (r : (Int × Dice)) : (Nat → Prop) → World → Value → Prop := fun S w v => ∃ (pq0_0 : Option Addr) (kq0_0 : Nat), v = .int .i64 r.1 ∧ Outs X w0 S w [.box b2 [.slice pq0_0 r.2.L.length kq0_0, .int .i64 r.2.At] 59] ∧ (SlA pq0_0 r.2.L.length kq0_0 r.2.L).p S w
set_option maxHeartbeats 4000000 in
set_option maxRecDepth 100000 in
theorem made_Dice_Next_ok {w0 : World} {S0 : Nat → Prop} {b2 : Nat} {p3 : Option Addr} {k4 : Nat} {d1 : Dice} {n6 : Int} {r : (Int × Dice)} (hsh : made_Dice_Next d1 n6 = some r) (hS : ∀ b, S0 b → b < w0.heap.size) (hin : Ins S0 w0 [.box b2 [.slice p3 d1.L.length k4, .int .i64 d1.At] 59]) (h5 : (SlA p3 d1.L.length k4 d1.L).p S0 w0) : Calls Try.prog 12 #[.pointer (some ⟨b2, 0, none⟩), .int .i64 n6] w0 (Ret (blks [.box b2 [.slice p3 d1.L.length k4, .int .i64 d1.At] 59]) w0 S0 (made_Dice_Next_rd w0 (blks [.box b2 [.slice p3 d1.L.length k4, .int .i64 d1.At] 59]) b2 r)) := by
 refine calls_of_wp Try.func12 rfl ?_
 have hs := Sl.enter #[.pointer (some ⟨b2, 0, none⟩), .int .i64 n6] 45 [(0, .pointer (some ⟨b2, 0, none⟩)), (1, .int .i64 n6)] rfl ⟨rfl, rfl, trivial⟩
 have hw := Wd.enterI hS hin
 have hw := hw.addE h5
 delta made_Dice_Next at hsh
 refine sr ?_
 refine av hs rfl rfl fun a hs => ?_
 refine nl ?_
 refine wp_seq ?_
 refine wp_seq ?_
 refine wp_only (fun a w => ∃ (Sv7 : Nat → Prop), Sl 45 [(0, .pointer (some ⟨b2, 0, none⟩)), (1, .int .i64 n6), (19, .bool ((decide ((d1.L.length : Int) ≤ d1.At)) || (decide (n6 < 1))))] a ∧ Wd ⟨w0, S0, blks [.box b2 [.slice p3 d1.L.length k4, .int .i64 d1.At] 59]⟩ Sv7 [.box b2 [.slice p3 d1.L.length k4, .int .i64 d1.At] 59] [SlA p3 d1.L.length k4 d1.L] w) ?_ ?_
 ·rcases Bool.eq_false_or_eq_true (decide ((d1.L.length : Int) ≤ d1.At)) with h8 | h8
  ·refine h_b (C := Cls [.box b2 [.slice p3 d1.L.length k4, .int .i64 d1.At] 59] []) (by kernel_rfl) rfl (hw.drew.cs [0] [] rfl rfl) fun hC => ?_
   have hw := hw.drew
   refine gm hs 0 rfl rfl rfl hC fun a hs => ?_
   refine gv hs 1 rfl rfl hC (fun w hC => y_nilCheck rfl) fun a hs => ?_
   refine gv hs 2 rfl rfl hC (fun w hC => y_fieldAddr (o' := 1) Try.runUnderlying59 rfl Try.sizeOf3 rfl rfl rfl) fun a hs => ?_
   refine gv hs 3 rfl rfl hC (fun w hC => y_loadB1 (hC.ownAt 0 rfl) rfl Try.isAgg3 rfl) fun a hs => ?_
   refine gm hs 4 rfl rfl rfl hC fun a hs => ?_
   refine gv hs 5 rfl rfl hC (fun w hC => y_nilCheck rfl) fun a hs => ?_
   refine gv hs 6 rfl rfl hC (fun w hC => y_fieldAddr (o' := 0) Try.runUnderlying59 rfl Try.sizeOf22 rfl rfl rfl) fun a hs => ?_
   refine gv hs 7 rfl rfl hC (fun w hC => y_loadB1 (hC.ownAt 0 rfl) rfl Try.isAgg22 rfl) fun a hs => ?_
   refine gv hs 8 rfl rfl hC (fun w hC => y_len Try.runUnderlying22 rfl) fun a hs => ?_
   refine gv hs 9 rfl rfl hC (fun w hC => y_geq rfl rfl) fun a hs => ?_
   refine gm hs 10 rfl rfl rfl hC fun a hs => ?_
   have hs := hs.fix 16 (.bool true) rfl (vb h8)
   refine gs hs 11 rfl rfl rfl rfl hC fun a hs => ?_
   refine gs hs 12 rfl rfl rfl rfl hC fun a hs => ?_
   refine gv hs 13 rfl rfl hC (fun w hC => y_pickTE (v := .bool ((decide ((d1.L.length : Int) ≤ d1.At)) || (decide (n6 < 1)))) rfl rfl (or_t h8)) fun a hs => ?_
   refine h_done (by kernel_rfl) ?_
   exact ⟨S0, (hs.wk rfl), (hw.ft [0] [0] (by decide) rfl rfl)⟩
  refine h_b (C := Cls [.box b2 [.slice p3 d1.L.length k4, .int .i64 d1.At] 59] []) (by kernel_rfl) rfl (hw.drew.cs [0] [] rfl rfl) fun hC => ?_
  have hw := hw.drew
  refine gm hs 0 rfl rfl rfl hC fun a hs => ?_
  refine gv hs 1 rfl rfl hC (fun w hC => y_nilCheck rfl) fun a hs => ?_
  refine gv hs 2 rfl rfl hC (fun w hC => y_fieldAddr (o' := 1) Try.runUnderlying59 rfl Try.sizeOf3 rfl rfl rfl) fun a hs => ?_
  refine gv hs 3 rfl rfl hC (fun w hC => y_loadB1 (hC.ownAt 0 rfl) rfl Try.isAgg3 rfl) fun a hs => ?_
  refine gm hs 4 rfl rfl rfl hC fun a hs => ?_
  refine gv hs 5 rfl rfl hC (fun w hC => y_nilCheck rfl) fun a hs => ?_
  refine gv hs 6 rfl rfl hC (fun w hC => y_fieldAddr (o' := 0) Try.runUnderlying59 rfl Try.sizeOf22 rfl rfl rfl) fun a hs => ?_
  refine gv hs 7 rfl rfl hC (fun w hC => y_loadB1 (hC.ownAt 0 rfl) rfl Try.isAgg22 rfl) fun a hs => ?_
  refine gv hs 8 rfl rfl hC (fun w hC => y_len Try.runUnderlying22 rfl) fun a hs => ?_
  refine gv hs 9 rfl rfl hC (fun w hC => y_geq rfl rfl) fun a hs => ?_
  refine gm hs 10 rfl rfl rfl hC fun a hs => ?_
  have hs := hs.fix 16 (.bool false) rfl (vb h8)
  refine gt hs 11 rfl ⟨_, rfl, rfl⟩ rfl hC (fun w hC => y_move rfl) fun a hs => ?_
  refine gt hs 12 rfl ⟨_, rfl, rfl⟩ rfl hC (fun w hC => y_lss rfl rfl) fun a hs => ?_
  refine gv hs 13 rfl rfl hC (fun w hC => y_pickFE (v := .bool ((decide ((d1.L.length : Int) ≤ d1.At)) || (decide (n6 < 1)))) rfl rfl (or_f h8)) fun a hs => ?_
  refine h_done (by kernel_rfl) ?_
  exact ⟨S0, (hs.wk rfl), (hw.ft [0] [0] (by decide) rfl rfl)⟩
 rintro a w ⟨Sv7, hs, hw⟩
 refine then_normal ?_
 refine wp_cond_split (hs.ev rfl) (fun h12 => ?_) (fun h12 => ?_)
 ·have hsh := ite_t hsh h12
  refine sr ?_
  refine av hs rfl rfl fun a hs => ?_
  refine nl ?_
  have hsh := oi hsh
  subst hsh
  refine wp_ret ?_
  refine then_ret ?_
  exact ret1 hs rfl (rv_tmp rfl) (hw.ret ⟨p3, k4, rfl, (hw.outs [0] (by decide) rfl), (hw.envAt 0 rfl)⟩)
 have hsh := ite_f hsh h12
 refine wp_skip ?_
 refine then_normal ?_
 refine wp_seq ?_
 obtain ⟨x15, h13, hsh⟩ := bind_t hsh
 obtain ⟨b21, o22, q19, c20, h23, h16, h17, h18, h14⟩ := hw.elemV 0 rfl h13
 have hsv24 := hs
 have hwv25 := hw
 subst h23
 have hs := hsv24
 have hw := hwv25
 obtain ⟨_, rfl, rfl⟩ := h14
 have hw := hw.addE h18
 obtain ⟨rem27, h26, hsh⟩ := bind_t hsh
 refine wp_only (fun a w => ∃ (Sv28 : Nat → Prop), Sl 45 [(0, .pointer (some ⟨b2, 0, none⟩)), (1, .int .i64 n6), (5, .int .i64 rem27)] a ∧ Wd ⟨w0, S0, blks [.box b2 [.slice (some ⟨b21, o22, none⟩) d1.L.length k4, .int .i64 d1.At] 59]⟩ Sv28 [.box b2 [.slice (some ⟨b21, o22, none⟩) d1.L.length k4, .int .i64 d1.At] 59] [SlA (some ⟨b21, o22, none⟩) d1.L.length k4 d1.L] w) ?_ ?_
 ·refine h_b (C := Cls [.box b2 [.slice (some ⟨b21, o22, none⟩) d1.L.length k4, .int .i64 d1.At] 59] [CeA b21 q19 [.int .i64 x15]]) (by kernel_rfl) rfl (hw.drew.cs [0] [0] rfl rfl) fun hC => ?_
  have hw := hw.drew
  refine gm hs 0 rfl rfl rfl hC fun a hs => ?_
  refine gv hs 1 rfl rfl hC (fun w hC => y_nilCheck rfl) fun a hs => ?_
  refine gv hs 2 rfl rfl hC (fun w hC => y_fieldAddr (o' := 0) Try.runUnderlying59 rfl Try.sizeOf22 rfl rfl rfl) fun a hs => ?_
  refine gv hs 3 rfl rfl hC (fun w hC => y_loadB1 (hC.ownAt 0 rfl) rfl Try.isAgg22 rfl) fun a hs => ?_
  refine gm hs 4 rfl rfl rfl hC fun a hs => ?_
  refine gv hs 5 rfl rfl hC (fun w hC => y_nilCheck rfl) fun a hs => ?_
  refine gv hs 6 rfl rfl hC (fun w hC => y_fieldAddr (o' := 1) Try.runUnderlying59 rfl Try.sizeOf3 rfl rfl rfl) fun a hs => ?_
  refine gv hs 7 rfl rfl hC (fun w hC => y_loadB1 (hC.ownAt 0 rfl) rfl Try.isAgg3 rfl) fun a hs => ?_
  refine gv hs 8 rfl rfl hC (fun w hC => y_indexAt Try.runUnderlying22 Try.sizeOf3 rfl rfl h16.1 h16.2 h17) fun a hs => ?_
  refine gv hs 9 rfl rfl hC (fun w hC => y_loadE1 (j := 0) (hC.ceAt 0 rfl) rfl Try.isAgg3 rfl) fun a hs => ?_
  refine gm hs 10 rfl rfl rfl hC fun a hs => ?_
  refine gv hs 11 rfl rfl hC (fun w hC => y_remM rfl rfl h26) fun a hs => ?_
  refine gv hs 12 rfl rfl hC (fun w hC => y_assign rfl) fun a hs => ?_
  refine h_done (by kernel_rfl) ?_
  exact ⟨Sv7, (hs.wk rfl), (hw.ft [0] [1] (by decide) rfl rfl)⟩
 rintro a w ⟨Sv28, hs, hw⟩
 refine then_normal ?_
 refine sr ?_
 refine mv hs rfl rfl fun a hs => ?_
 refine sv hs (y_nilCheck rfl) rfl fun a hs => ?_
 refine sv hs (y_fieldAddr (o' := 1) Try.runUnderlying59 rfl Try.sizeOf3 rfl rfl rfl) rfl fun a hs => ?_
 refine sv hs (y_loadB1 (hw.ownAt 0 rfl) rfl Try.isAgg3 rfl) rfl fun a hs => ?_
 refine sv hs (y_add rfl rfl) rfl fun a hs => ?_
 refine sv hs (y_nilCheck rfl) rfl fun a hs => ?_
 refine sv hs (y_fieldAddr (o' := 1) Try.runUnderlying59 rfl Try.sizeOf3 rfl rfl rfl) rfl fun a hs => ?_
 refine w_store (m := 1) (cs' := [.slice (some ⟨b21, o22, none⟩) d1.L.length k4, .int .i64 (w64 (d1.At + 1))]) hs hw 0 rfl rfl rfl Try.sizeOf3 rfl rfl rfl rfl trivial ?_
 intro a w hs hw
 refine nl ?_
 refine wp_seq ?_
 refine sr ?_
 refine mv hs rfl rfl fun a hs => ?_
 refine sv hs (y_lss rfl rfl) rfl fun a hs => ?_
 refine nl ?_
 refine wp_join (fun a w => ∃ (x33 : Int) (Sv32 : Nat → Prop), made_Dice_Next_j1 d1 x33 = some r ∧ Sl 45 [(5, .int .i64 x33)] a ∧ Wd ⟨w0, S0, blks [.box b2 [.slice (some ⟨b21, o22, none⟩) d1.L.length k4, .int .i64 d1.At] 59]⟩ Sv32 [.box b2 [.slice (some ⟨b21, o22, none⟩) d1.L.length k4, .int .i64 (w64 (d1.At + 1))] 59] [SlA (some ⟨b21, o22, none⟩) d1.L.length k4 d1.L] w) ?_ ?_
 ·refine wp_cond_split (hs.ev rfl) (fun h34 => ?_) (fun h34 => ?_)
  ·have hsh := ite_t hsh h34
   refine wp_region_lit ?_
   refine mv hs rfl rfl fun a hs => ?_
   refine mv hs rfl rfl fun a hs => ?_
   refine sv hs (y_add rfl rfl) rfl fun a hs => ?_
   obtain ⟨x36, h35, hsh⟩ := bind_t hsh
   refine sv hs (y_assignI rfl h35) rfl fun a hs => ?_
   refine nl ?_
   exact ⟨x36, Sv28, hsh, (hs.wk rfl), (hw.ft [0] [0] (by decide) rfl rfl)⟩
  have hsh := ite_f hsh h34
  refine wp_skip ?_
  refine then_normal ?_
  exact ⟨rem27, Sv28, hsh, (hs.wk rfl), (hw.ft [0] [0] (by decide) rfl rfl)⟩
 rintro a w ⟨x33, Sv32, hsh, hs, hw⟩
 delta made_Dice_Next_j1 at hsh
 refine then_normal ?_
 refine sr ?_
 refine mv hs rfl rfl fun a hs => ?_
 refine av hs rfl rfl fun a hs => ?_
 refine nl ?_
 have hsh := oi hsh
 subst hsh
 refine wp_ret ?_
 exact ret1 hs rfl (rv_tmp rfl) (hw.ret ⟨(some ⟨b21, o22, none⟩), k4, rfl, (hw.outs [0] (by decide) rfl), (hw.envAt 0 rfl)⟩)

abbrev made_Dice_Pick_rd (w0 : World) (X : List Nat) (b2 : Nat) (r : (Int × Dice)) : (Nat → Prop) → World → Value → Prop := fun S w v => ∃ (pq0_0 : Option Addr) (kq0_0 : Nat), v = .int .i64 r.1 ∧ Outs X w0 S w [.box b2 [.slice pq0_0 r.2.L.length kq0_0, .int .i64 r.2.At] 59] ∧ (SlA pq0_0 r.2.L.length kq0_0 r.2.L).p S w
set_option maxHeartbeats 4000000 in
set_option maxRecDepth 100000 in
theorem made_Dice_Pick_ok {w0 : World} {S0 : Nat → Prop} {b2 : Nat} {p3 : Option Addr} {k4 : Nat} {p7 : Option Addr} {k8 : Nat} {d1 : Dice} {l6 : (List Int)} {r : (Int × Dice)} (hsh : made_Dice_Pick d1 l6 = some r) (hS : ∀ b, S0 b → b < w0.heap.size) (hin : Ins S0 w0 [.box b2 [.slice p3 d1.L.length k4, .int .i64 d1.At] 59]) (h5 : (SlA p3 d1.L.length k4 d1.L).p S0 w0) (h9 : (SlA p7 l6.length k8 l6).p S0 w0) : Calls Try.prog 19 #[.pointer (some ⟨b2, 0, none⟩), .slice p7 l6.length k8] w0 (Ret (blks [.box b2 [.slice p3 d1.L.length k4, .int .i64 d1.At] 59]) w0 S0 (made_Dice_Pick_rd w0 (blks [.box b2 [.slice p3 d1.L.length k4, .int .i64 d1.At] 59]) b2 r)) := by
 refine calls_of_wp Try.func19 rfl ?_
 have hs := Sl.enter #[.pointer (some ⟨b2, 0, none⟩), .slice p7 l6.length k8] 12 [(0, .pointer (some ⟨b2, 0, none⟩)), (1, .slice p7 l6.length k8)] rfl ⟨rfl, rfl, trivial⟩
 have hw := Wd.enterI hS hin
 have hw := hw.addE h5
 have hw := hw.addE h9
 delta made_Dice_Pick at hsh
 refine sr ?_
 refine av hs rfl rfl fun a hs => ?_
 refine nl ?_
 refine sr ?_
 refine mv hs rfl rfl fun a hs => ?_
 refine mv hs rfl rfl fun a hs => ?_
 refine mv hs rfl rfl fun a hs => ?_
 refine sv hs (y_len Try.runUnderlying22 rfl) rfl fun a hs => ?_
 obtain ⟨rv11, h10, hsh⟩ := bind_t hsh
 refine st_callR hs (made_Dice_Next_ok h10 hw.dom (hw.ins [0] (by decide) rfl) (hw.envAt 1 rfl)) (do_call Try.call12 rfl) trivial rfl rfl ?_
 intro v18 Sv15 w a h16 h17 hs
 obtain ⟨p12, k13, rfl, h19, h14⟩ := h17
 have hw := hw.callO [0] [] (by decide) rfl h16 h19
 have hw := hw.addE (e := SlA p12 rv11.2.L.length k13 rv11.2.L) h14
 obtain ⟨x22, h20, hsh⟩ := bind_t hsh
 obtain ⟨b28, o29, q26, c27, h30, h23, h24, h25, h21⟩ := hw.elemV 1 rfl h20
 have hsv31 := hs
 have hwv32 := hw
 subst h30
 have hs := hsv31
 have hw := hwv32
 obtain ⟨_, rfl, rfl⟩ := h21
 have hw := hw.addE h25
 refine sv hs (y_indexAt Try.runUnderlying22 Try.sizeOf3 rfl rfl h23.1 h23.2 h24) rfl fun a hs => ?_
 refine sv hs (y_loadE1 (j := 0) (hw.ceAt 0 rfl) rfl Try.isAgg3 rfl) rfl fun a hs => ?_
 refine av hs rfl rfl fun a hs => ?_
 refine nl ?_
 have hsh := oi hsh
 subst hsh
 refine wp_ret ?_
 exact ret1 hs rfl (rv_tmp rfl) (hw.ret ⟨p12, k13, rfl, (hw.outs [0] (by decide) rfl), (hw.envAt 1 rfl)⟩)

abbrev made_Dice_Fault_rd (w0 : World) (X : List Nat) (b2 : Nat) (r : (Fault × Dice)) : (Nat → Prop) → World → Value → Prop := fun S w v => ∃ (pq0_0 : Option Addr) (kq0_0 : Nat), v = .agg #[.bool r.1.Drop, .int .i64 r.1.Delay, .int .i64 r.1.Copies] ∧ Outs X w0 S w [.box b2 [.slice pq0_0 r.2.L.length kq0_0, .int .i64 r.2.At] 59] ∧ (SlA pq0_0 r.2.L.length kq0_0 r.2.L).p S w
set_option maxHeartbeats 4000000 in
set_option maxRecDepth 100000 in
theorem made_Dice_Fault_ok {w0 : World} {S0 : Nat → Prop} {b2 : Nat} {p3 : Option Addr} {k4 : Nat} {d1 : Dice} {r : (Fault × Dice)} (hsh : made_Dice_Fault d1 = some r) (hS : ∀ b, S0 b → b < w0.heap.size) (hin : Ins S0 w0 [.box b2 [.slice p3 d1.L.length k4, .int .i64 d1.At] 59]) (h5 : (SlA p3 d1.L.length k4 d1.L).p S0 w0) : Calls Try.prog 11 #[.pointer (some ⟨b2, 0, none⟩)] w0 (Ret (blks [.box b2 [.slice p3 d1.L.length k4, .int .i64 d1.At] 59]) w0 S0 (made_Dice_Fault_rd w0 (blks [.box b2 [.slice p3 d1.L.length k4, .int .i64 d1.At] 59]) b2 r)) := by
 refine calls_of_wp Try.func11 rfl ?_
 have hs := Sl.enter #[.pointer (some ⟨b2, 0, none⟩)] 13 [(0, .pointer (some ⟨b2, 0, none⟩))] rfl ⟨rfl, trivial⟩
 have hw := Wd.enterI hS hin
 have hw := hw.addE h5
 delta made_Dice_Fault at hsh
 refine sr ?_
 refine w_alloc (cs := [.bool false, .int .i64 0, .int .i64 0]) hs hw Try.zeroValue32 rfl rfl trivial ?_
 intro b6 a w hs hw
 refine nl ?_
 refine sr ?_
 refine mv hs rfl rfl fun a hs => ?_
 obtain ⟨rv8, h7, hsh⟩ := bind_t hsh
 refine st_callR hs (made_Dice_Next_ok h7 hw.dom (hw.ins [1] (by decide) rfl) (hw.envAt 0 rfl)) (do_call Try.call12 rfl) trivial rfl rfl ?_
 intro v15 Sv12 w a h13 h14 hs
 obtain ⟨p9, k10, rfl, h16, h11⟩ := h14
 have hw := hw.callO [1] [0] (by decide) rfl h13 h16
 have hw := hw.addE (e := SlA p9 rv8.2.L.length k10 rv8.2.L) h11
 refine sv hs (y_eql rfl rfl) rfl fun a hs => ?_
 refine mv hs rfl rfl fun a hs => ?_
 refine w_litSlice (α := Int) (vs := [.int .i64 0, .int .i64 0, .int .i64 1, .int .i64 2, .int .i64 5]) (cs := [.int .i64 0, .int .i64 0, .int .i64 1, .int .i64 2, .int .i64 5]) (xs := ([0, 0, 1, 2, 5] : List Int)) hs hw El22 rfl rfl rfl rfl rfl rfl ⟨⟨_, rfl, rfl⟩, ⟨⟨_, rfl, rfl⟩, ⟨⟨_, rfl, rfl⟩, ⟨⟨_, rfl, rfl⟩, ⟨⟨_, rfl, rfl⟩, rfl⟩⟩⟩⟩⟩ rfl trivial rfl fun b18 a w hs hw => ?_
 obtain ⟨rv20, h19, hsh⟩ := bind_t hsh
 obtain ⟨Sv24, hw⟩ := w_share (α := Int) hw 0 rfl 0 rfl
 refine st_callR hs (made_Dice_Pick_ok h19 hw.dom (hw.ins [0] (by decide) rfl) (hw.envAt 2 rfl) (hw.envAt 0 rfl)) (do_call Try.call19 rfl) trivial rfl rfl ?_
 intro v28 Sv25 w a h26 h27 hs
 obtain ⟨p21, k22, rfl, h29, h23⟩ := h27
 have hw := hw.callO [0] [1] (by decide) rfl h26 h29
 have hw := hw.addE (e := SlA p21 rv20.2.L.length k22 rv20.2.L) h23
 refine mv hs rfl rfl fun a hs => ?_
 refine w_litSlice (α := Int) (vs := [.int .i64 0, .int .i64 0, .int .i64 0, .int .i64 1, .int .i64 2]) (cs := [.int .i64 0, .int .i64 0, .int .i64 0, .int .i64 1, .int .i64 2]) (xs := ([0, 0, 0, 1, 2] : List Int)) hs hw El22 rfl rfl rfl rfl rfl rfl ⟨⟨_, rfl, rfl⟩, ⟨⟨_, rfl, rfl⟩, ⟨⟨_, rfl, rfl⟩, ⟨⟨_, rfl, rfl⟩, ⟨⟨_, rfl, rfl⟩, rfl⟩⟩⟩⟩⟩ rfl trivial rfl fun b31 a w hs hw => ?_
 obtain ⟨rv33, h32, hsh⟩ := bind_t hsh
 obtain ⟨Sv37, hw⟩ := w_share (α := Int) hw 0 rfl 0 rfl
 refine st_callR hs (made_Dice_Pick_ok h32 hw.dom (hw.ins [0] (by decide) rfl) (hw.envAt 2 rfl) (hw.envAt 0 rfl)) (do_call Try.call19 rfl) trivial rfl rfl ?_
 intro v41 Sv38 w a h39 h40 hs
 obtain ⟨p34, k35, rfl, h42, h36⟩ := h40
 have hw := hw.callO [0] [1] (by decide) rfl h39 h42
 have hw := hw.addE (e := SlA p34 rv33.2.L.length k35 rv33.2.L) h36
 refine sv hs (y_build (vs := [(0, .bool (rv8.1 == 0)), (1, .int .i64 rv20.1), (2, .int .i64 rv33.1)]) Bld32 rfl rfl) rfl fun a hs => ?_
 refine w_store (m := 3) (cs' := [.bool (rv8.1 == 0), .int .i64 rv20.1, .int .i64 rv33.1]) hs hw 1 rfl rfl rfl Try.sizeOf32 rfl rfl rfl rfl trivial ?_
 intro a w hs hw
 refine nl ?_
 have hsh := oi hsh
 subst hsh
 refine wp_ret ?_
 exact ret1 hs rfl (rv_cell hw 1 rfl rfl Try.isAgg32 Try.sizeOf32 rfl) (hw.ret ⟨p34, k35, rfl, (hw.outs [0] (by decide) rfl), (hw.envAt 0 rfl)⟩)

abbrev link_Next_rd (w0 : World) (X : List Nat) (r : (Int × Bool)) : (Nat → Prop) → World → Value → Prop := fun S w v => v = .tuple #[.int .i64 r.1, .bool r.2]
set_option maxHeartbeats 4000000 in
set_option maxRecDepth 100000 in
theorem link_Next_ok {w0 : World} {S0 : Nat → Prop} {p2 : Option Addr} {k3 : Nat} {wv1 : Wire} {r : (Int × Bool)} (hsh : link_Next wv1 = some r) (hS : ∀ b, S0 b → b < w0.heap.size) (h4 : (SlA p2 wv1.Items.length k3 wv1.Items).p S0 w0) : Calls Try.prog 25 #[.agg #[.int .i64 wv1.Now, .int .i64 wv1.Order, .slice p2 wv1.Items.length k3]] w0 (Ret ([]) w0 S0 (link_Next_rd w0 ([]) r)) := by
 refine calls_of_wp Try.func25 rfl ?_
 have hs := Sl.enter #[.agg #[.int .i64 wv1.Now, .int .i64 wv1.Order, .slice p2 wv1.Items.length k3]] 28 [(0, .agg #[.int .i64 wv1.Now, .int .i64 wv1.Order, .slice p2 wv1.Items.length k3])] rfl ⟨rfl, trivial⟩
 have hw := Wd.enter (E := []) hS (fun _ h => (by cases h))
 have hw := hw.addE h4
 delta link_Next at hsh
 refine sr ?_
 refine w_box (cs := [.int .i64 wv1.Now, .int .i64 wv1.Order, .slice p2 wv1.Items.length k3]) hs hw rfl rfl rfl trivial ?_
 intro b5 a w hs hw
 refine av hs rfl rfl fun a hs => ?_
 refine av hs rfl rfl fun a hs => ?_
 refine nl ?_
 refine sr ?_
 refine av hs rfl rfl fun a hs => ?_
 refine av hs rfl rfl fun a hs => ?_
 refine nl ?_
 refine wp_seq ?_
 refine sr ?_
 refine sv hs (y_fieldAddr (o' := 2) Try.runUnderlying29 rfl Try.sizeOf27 rfl rfl rfl) rfl fun a hs => ?_
 refine sv hs (y_loadB1 (hw.ownAt 0 rfl) rfl Try.isAgg27 rfl) rfl fun a hs => ?_
 refine sv hs (y_len Try.runUnderlying27 rfl) rfl fun a hs => ?_
 refine mv hs rfl rfl fun a hs => ?_
 refine nl ?_
 obtain ⟨e69, h115, hsh⟩ := bind_t hsh
 refine wp_join (fun a w => ∃ (Sv70 : Nat → Prop), Sl 28 [(4, .int .i64 e69.1), (5, .bool e69.2)] a ∧ Wd ⟨w0, S0, []⟩ Sv70 [] [] w) ?_ ?_
 ·refine wp_block ?_
  refine wp_while (fun sv6 a w => ∃ (Sv44 : Nat → Prop), Sl 28 [(4, .int .i64 sv6.1), (5, .bool sv6.2.1), (9, .slice p2 wv1.Items.length k3), (10, .int .i64 (wv1.Items.length : Int)), (11, .int .i64 sv6.2.2)] a ∧ Wd ⟨w0, S0, []⟩ Sv44 [] [SlA p2 wv1.Items.length k3 wv1.Items] w) (0, false, 0) h115 ⟨S0, (hs.wk rfl), (hw.ft [] [0] (by decide) rfl rfl)⟩ ?_
  clear h115
  repeat clear hsh
  rintro sv6 a w tv67 ⟨Sv44, hs, hw⟩ hsh hd66
  delta link_Next_l1 at hsh
  refine sr ?_
  refine sv hs (y_lss rfl rfl) rfl fun a hs => ?_
  refine nl ?_
  refine wp_seq ?_
  refine wp_cond_split (hs.ev rfl) (fun h72 => ?_) (fun h72 => ?_)
  ·have hsh := ite_t hsh h72
   refine wp_skip ?_
   refine then_normal ?_
   refine wp_seq ?_
   refine wp_block ?_
   refine sr ?_
   obtain ⟨x95, h93, hsh⟩ := bind_t hsh
   obtain ⟨b101, o102, q99, c100, h103, h96, h97, h98, h94⟩ := hw.elemV 0 rfl h93
   have hsv104 := hs
   have hwv105 := hw
   subst h103
   have hs := hsv104
   have hw := hwv105
   obtain ⟨_, _, _, rfl, rfl, rfl, rfl⟩ := h94
   have hw := hw.addE h98
   refine sv hs (y_indexAt Try.runUnderlying27 Try.sizeOf47 rfl rfl h96.1 h96.2 h97) rfl fun a hs => ?_
   refine sv hs (y_loadEA (j := 0) (hw.ceAt 0 rfl) rfl Try.isAgg47 Try.sizeOf47 rfl rfl) rfl fun a hs => ?_
   refine w_alloc (cs := [.int .i64 0, .int .i64 0, .string ByteArray.empty]) hs hw Try.zeroValue47 rfl rfl trivial ?_
   intro b106 a w hs hw
   refine w_store (m := 3) (cs' := [.int .i64 x95.At, .int .i64 x95.Order, .string x95.Data]) hs hw 0 rfl rfl rfl Try.sizeOf47 rfl rfl rfl rfl trivial ?_
   intro a w hs hw
   refine nl ?_
   refine sr ?_
   refine mv hs rfl rfl fun a hs => ?_
   refine sv hs (y_not rfl) rfl fun a hs => ?_
   refine mv hs rfl rfl fun a hs => ?_
   refine wpl_join 5 (fun a w1 => w = w1 ∧ Sl 28 [(4, .int .i64 sv6.1), (5, .bool sv6.2.1), (7, .pointer (some ⟨b106, 0, none⟩)), (9, .slice (some ⟨b101, o102, none⟩) wv1.Items.length k3), (10, .int .i64 (wv1.Items.length : Int)), (11, .int .i64 sv6.2.2), (22, .bool ((!sv6.2.1) || (decide (x95.At < sv6.1))))] a) ?_ ?_
   ·rcases Bool.eq_false_or_eq_true (!sv6.2.1) with h107 | h107
    ·have hs := hs.fix 17 (.bool true) rfl (vb h107)
     refine st_skip hs rfl rfl rfl rfl rfl fun a hs => ?_
     refine st_skip hs rfl rfl rfl rfl rfl fun a hs => ?_
     refine st_skip hs rfl rfl rfl rfl rfl fun a hs => ?_
     refine st_skip hs rfl rfl rfl rfl rfl fun a hs => ?_
     refine sv hs (y_pickT rfl rfl) rfl fun a hs => ?_
     refine nl ?_
     exact ⟨rfl, (hs.fix 22 (.bool ((!sv6.2.1) || (decide (x95.At < sv6.1)))) rfl (or_t h107)).weaken _ ⟨rfl, rfl, rfl, rfl, rfl, rfl, rfl, trivial⟩⟩
    have hs := hs.fix 17 (.bool false) rfl (vb h107)
    refine st_val hs (y_fieldAddr (o' := 0) Try.runUnderlying47 rfl Try.sizeOf3 rfl rfl rfl) ⟨_, rfl, rfl⟩ rfl rfl fun a hs => ?_
    refine st_val hs (y_loadB1 (hw.ownAt 0 rfl) rfl Try.isAgg3 rfl) ⟨_, rfl, rfl⟩ rfl rfl fun a hs => ?_
    refine st_val hs (y_move rfl) ⟨_, rfl, rfl⟩ rfl rfl fun a hs => ?_
    refine st_val hs (y_lss rfl rfl) ⟨_, rfl, rfl⟩ rfl rfl fun a hs => ?_
    refine sv hs (y_pickF rfl rfl) rfl fun a hs => ?_
    refine nl ?_
    exact ⟨rfl, (hs.fix 22 (.bool ((!sv6.2.1) || (decide (x95.At < sv6.1)))) rfl (or_f h107)).weaken _ ⟨rfl, rfl, rfl, rfl, rfl, rfl, rfl, trivial⟩⟩
   rintro a w1 ⟨h113, hs⟩
   subst h113
   refine nl ?_
   refine wp_join (fun a w => ∃ (least110 : Int) (found111 : Bool) (Sv109 : Nat → Prop), link_Next_j1 sv6 least110 found111 = some tv67 ∧ Sl 28 [(4, .int .i64 least110), (5, .bool found111), (9, .slice (some ⟨b101, o102, none⟩) wv1.Items.length k3), (10, .int .i64 (wv1.Items.length : Int)), (11, .int .i64 sv6.2.2)] a ∧ Wd ⟨w0, S0, []⟩ Sv109 [] [SlA (some ⟨b101, o102, none⟩) wv1.Items.length k3 wv1.Items] w) ?_ ?_
   ·refine wp_cond_split (hs.ev rfl) (fun h112 => ?_) (fun h112 => ?_)
    ·have hsh := ite_t hsh h112
     refine wp_region_lit ?_
     refine sv hs (y_fieldAddr (o' := 0) Try.runUnderlying47 rfl Try.sizeOf3 rfl rfl rfl) rfl fun a hs => ?_
     refine sv hs (y_loadB1 (hw.ownAt 0 rfl) rfl Try.isAgg3 rfl) rfl fun a hs => ?_
     refine av hs rfl rfl fun a hs => ?_
     refine av hs rfl rfl fun a hs => ?_
     refine nl ?_
     exact ⟨x95.At, true, Sv44, hsh, (hs.wk rfl), (hw.ft [] [1] (by decide) rfl rfl)⟩
    have hsh := ite_f hsh h112
    refine wp_skip ?_
    refine then_normal ?_
    exact ⟨sv6.1, sv6.2.1, Sv44, hsh, (hs.wk rfl), (hw.ft [] [1] (by decide) rfl rfl)⟩
   rintro a w ⟨least110, found111, Sv109, hsh, hs, hw⟩
   delta link_Next_j1 at hsh
   refine blk_normal ?_
   refine then_normal ?_
   refine wp_region_lit ?_
   refine sv hs (y_add rfl rfl) rfl fun a hs => ?_
   refine mv hs rfl rfl fun a hs => ?_
   refine nl ?_
   exact ⟨_, (Option.some.inj hsh).symm, Sv109, (hs.wk rfl), (hw.ft [] [0] (by decide) rfl rfl)⟩
  have hsh := ite_f hsh h72
  refine wp_exit ?_
  refine then_exit ?_
  refine then_exit ?_
  refine blk_exit ?_
  have hsh := oi hsh
  subst hsh
  have h114 := hd66 _ rfl
  subst h114
  refine then_normal ?_
  exact ⟨Sv44, (hs.wk rfl), (hw.ft [] [] (by decide) rfl rfl)⟩
 rintro a w ⟨Sv70, hs, hw⟩
 refine then_normal ?_
 refine sr ?_
 refine mv hs rfl rfl fun a hs => ?_
 refine mv hs rfl rfl fun a hs => ?_
 refine av hs rfl rfl fun a hs => ?_
 refine av hs rfl rfl fun a hs => ?_
 refine nl ?_
 have hsh := oi hsh
 subst hsh
 refine wp_ret ?_
 exact ret2 hs rfl (rv_tmp rfl) (rv_tmp rfl) (hw.ret rfl)

abbrev link_Drain_rd (w0 : World) (X : List Nat) (r : ((List Transit) × Int)) : (Nat → Prop) → World → Value → Prop := fun S w v => ∃ (p0_0 : Option Addr) (k0_0 : Nat) (c0_0 : List Value), v = .tuple #[.slice p0_0 r.1.length k0_0, .int .i64 r.2] ∧ Outs X w0 S w [.row p0_0 r.1.length k0_0 c0_0 47 3] ∧ (RowA c0_0 r.1).p S w
set_option maxHeartbeats 4000000 in
set_option maxRecDepth 100000 in
theorem link_Drain_ok {w0 : World} {S0 : Nat → Prop} {p2 : Option Addr} {k3 : Nat} {wv1 : Wire} {r : ((List Transit) × Int)} (hsh : link_Drain wv1 = some r) (hS : ∀ b, S0 b → b < w0.heap.size) (h4 : (SlA p2 wv1.Items.length k3 wv1.Items).p S0 w0) : Calls Try.prog 27 #[.agg #[.int .i64 wv1.Now, .int .i64 wv1.Order, .slice p2 wv1.Items.length k3]] w0 (Ret ([]) w0 S0 (link_Drain_rd w0 ([]) r)) := by
 refine calls_of_wp Try.func27 rfl ?_
 have hs := Sl.enter #[.agg #[.int .i64 wv1.Now, .int .i64 wv1.Order, .slice p2 wv1.Items.length k3]] 10 [(0, .agg #[.int .i64 wv1.Now, .int .i64 wv1.Order, .slice p2 wv1.Items.length k3])] rfl ⟨rfl, trivial⟩
 have hw := Wd.enter (E := []) hS (fun _ h => (by cases h))
 have hw := hw.addE h4
 delta link_Drain at hsh
 refine sr ?_
 refine w_box (cs := [.int .i64 wv1.Now, .int .i64 wv1.Order, .slice p2 wv1.Items.length k3]) hs hw rfl rfl rfl trivial ?_
 intro b5 a w hs hw
 refine av hs rfl rfl fun a hs => ?_
 refine av hs rfl rfl fun a hs => ?_
 refine nl ?_
 refine wp_seq ?_
 refine sr ?_
 refine sv hs (y_loadBA (hw.ownAt 0 rfl) rfl Try.isAgg29 Try.sizeOf29 rfl rfl) rfl fun a hs => ?_
 obtain ⟨rv7, h6, hsh⟩ := bind_t hsh
 refine st_callR hs (link_Valid_ok h6 hw.bdom (hw.bE 0 rfl)) (do_call Try.call29 rfl) trivial rfl rfl ?_
 intro v11 Sv8 w a h9 h10 hs
 subst h10
 have hw := hw.callB h9
 refine sv hs (y_not rfl) rfl fun a hs => ?_
 refine nl ?_
 refine wp_cond_split (hs.ev rfl) (fun h14 => ?_) (fun h14 => ?_)
 ·have hsh := ite_t hsh h14
  refine sr ?_
  refine av hs rfl rfl fun a hs => ?_
  refine av hs rfl rfl fun a hs => ?_
  refine nl ?_
  have hsh := oi hsh
  subst hsh
  have hw := hw.nilRow Transit 47
  refine wp_ret ?_
  refine then_ret ?_
  exact ret2 hs rfl (rv_tmp rfl) (rv_tmp rfl) (hw.ret ⟨none, 0, [], rfl, (hw.outs [0] (by decide) rfl), (hw.envAt 0 rfl)⟩)
 have hsh := ite_f hsh h14
 refine wp_skip ?_
 refine then_normal ?_
 refine sr ?_
 refine sv hs (y_fieldAddr (o' := 2) Try.runUnderlying29 rfl Try.sizeOf27 rfl rfl rfl) rfl fun a hs => ?_
 refine sv hs (y_loadB1 (hw.ownAt 0 rfl) rfl Try.isAgg27 rfl) rfl fun a hs => ?_
 obtain ⟨rv16, h15, hsh⟩ := bind_t hsh
 refine st_callR hs (slices_Clone_Lapi_Transit_api_Transit_ok h15 hw.dom (hw.envAt 0 rfl)) (do_call Try.call31 rfl) trivial rfl rfl ?_
 intro v24 Sv21 w a h22 h23 hs
 obtain ⟨p17, k18, c20, rfl, h25, h19⟩ := h23
 have hw := hw.callN h22 h25
 have hw := hw.addE (e := RowA c20 rv16) h19
 refine av hs rfl rfl fun a hs => ?_
 refine av hs rfl rfl fun a hs => ?_
 refine nl ?_
 have hsh := oi hsh
 subst hsh
 refine wp_ret ?_
 exact ret2 hs rfl (rv_tmp rfl) (rv_tmp rfl) (hw.ret ⟨p17, k18, c20, rfl, (hw.outs [0] (by decide) rfl), (hw.envAt 0 rfl)⟩)

abbrev law09_LinkCounts_rd (w0 : World) (X : List Nat) (r : Bool) : (Nat → Prop) → World → Value → Prop := fun S w v => v = .bool r
set_option maxHeartbeats 4000000 in
set_option maxRecDepth 100000 in
theorem law09_LinkCounts_ok {w0 : World} {S0 : Nat → Prop} {p2 : Option Addr} {k3 : Nat} {t1 : (List Int)} {r : Bool} (hsh : law09_LinkCounts t1 = some r) (hS : ∀ b, S0 b → b < w0.heap.size) (h4 : (SlA p2 t1.length k3 t1).p S0 w0) : Calls Try.prog 6 #[.slice p2 t1.length k3] w0 (Ret ([]) w0 S0 (law09_LinkCounts_rd w0 ([]) r)) := by
 refine calls_of_wp Try.func6 rfl ?_
 have hs := Sl.enter #[.slice p2 t1.length k3] 140 [(0, .slice p2 t1.length k3)] rfl ⟨rfl, trivial⟩
 have hw := Wd.enter (E := []) hS (fun _ h => (by cases h))
 have hw := hw.addE h4
 delta law09_LinkCounts at hsh
 refine sr ?_
 refine av hs rfl rfl fun a hs => ?_
 refine nl ?_
 refine wp_seq ?_
 refine sr ?_
 refine mv hs rfl rfl fun a hs => ?_
 obtain ⟨rv6, h5, hsh⟩ := bind_t hsh
 refine st_callR hs (made_Light_ok h5 hw.bdom (hw.bE 0 rfl)) (do_call Try.call7 rfl) trivial rfl rfl ?_
 intro v10 Sv7 w a h8 h9 hs
 subst h9
 have hw := hw.callB h8
 refine sv hs (y_not rfl) rfl fun a hs => ?_
 refine nl ?_
 refine wp_cond_split (hs.ev rfl) (fun h20 => ?_) (fun h20 => ?_)
 ·have hsh := ite_t hsh h20
  refine sr ?_
  obtain ⟨rv22, h21, hsh⟩ := bind_t hsh
  refine st_callR hs (law09_sane_ok h21 hw.bdom) (do_call Try.call8 rfl) trivial rfl rfl ?_
  intro v26 Sv23 w a h24 h25 hs
  subst h25
  have hw := hw.callB h24
  refine av hs rfl rfl fun a hs => ?_
  refine nl ?_
  have hsh := oi hsh
  subst hsh
  refine wp_ret ?_
  refine then_ret ?_
  exact ret1 hs rfl (rv_tmp rfl) (hw.ret rfl)
 have hsh := ite_f hsh h20
 refine wp_skip ?_
 refine then_normal ?_
 refine sr ?_
 refine mv hs rfl rfl fun a hs => ?_
 obtain ⟨rv29, h28, hsh⟩ := bind_t hsh
 refine st_callR hs (made_Roll_ok h28 hw.dom (hw.envAt 0 rfl)) (do_call Try.call9 rfl) trivial rfl rfl ?_
 intro v37 Sv34 w a h35 h36 hs
 obtain ⟨b30, p31, k32, rfl, h38, h33⟩ := h36
 have hw := hw.callN h35 h38
 have hw := hw.addE (e := SlA p31 rv29.L.length k32 rv29.L) h33
 refine av hs rfl rfl fun a hs => ?_
 refine nl ?_
 refine sr ?_
 obtain ⟨rv40, h39, hsh⟩ := bind_t hsh
 refine st_callR hs (link_New_ok h39 hw.dom) (do_call Try.call10 rfl) trivial rfl rfl ?_
 intro v47 Sv44 w a h45 h46 hs
 obtain ⟨p41, k42, rfl, h43⟩ := h46
 have hw := hw.call h45
 have hw := hw.addE (e := SlA p41 rv40.Items.length k42 rv40.Items) h43
 refine w_alloc (cs := [.int .i64 0, .int .i64 0, .slice none ([] : List Transit).length 0]) hs hw Try.zeroValue29 rfl rfl trivial ?_
 intro b49 a w hs hw
 refine w_store (m := 3) (cs' := [.int .i64 rv40.Now, .int .i64 rv40.Order, .slice p41 rv40.Items.length k42]) hs hw 0 rfl rfl rfl Try.sizeOf29 rfl rfl rfl rfl trivial ?_
 intro a w hs hw
 refine nl ?_
 refine sr ?_
 refine w_makeMap (α := Int) (kt := 3) (et := 3) (z := 0) hs hw rfl trivial ?_
 intro b50 a w hs hw
 refine av hs rfl rfl fun a hs => ?_
 refine nl ?_
 refine sr ?_
 refine av hs rfl rfl fun a hs => ?_
 refine av hs rfl rfl fun a hs => ?_
 refine nl ?_
 refine wp_seq ?_
 refine sr ?_
 refine av hs rfl rfl fun a hs => ?_
 refine nl ?_
 refine wp_block ?_
 refine wp_while (fun sv505 a w => ∃ (p805 : Option Addr) (k806 : Nat) (p807 : Option Addr) (k808 : Nat) (Sv809 : Nat → Prop), Sl 140 [(3, .pointer (some ⟨b30, 0, none⟩)), (4, .pointer (some ⟨b49, 0, none⟩)), (5, .map (some b50)), (6, .int .i64 sv505.2.2.2.2.2.2.1), (7, .int .i64 sv505.2.2.2.2.2.2.2.1), (8, .int .i64 sv505.2.2.2.2.2.2.2.2)] a ∧ Wd ⟨w0, S0, []⟩ Sv809 [.box b30 [.slice p805 sv505.1.length k806, .int .i64 sv505.2.1] 59, .box b49 [.int .i64 sv505.2.2.1, .int .i64 sv505.2.2.2.1, .slice p807 sv505.2.2.2.2.1.length k808] 29, mpR Try.prog 3 3 0 b50 sv505.2.2.2.2.2.1] [SlA p805 sv505.1.length k806 sv505.1, SlA p807 sv505.2.2.2.2.1.length k808 sv505.2.2.2.2.1] w) (rv29.L, rv29.At, rv40.Now, rv40.Order, rv40.Items, (⟨0, fun _ => 0⟩ : Mp Int), 0, 0, 0) hsh ⟨p31, k32, p41, k42, Sv44, (hs.wk rfl), (hw.ft [2, 1, 0] [1, 0] (by decide) rfl rfl)⟩ ?_
 repeat clear hsh
 rintro sv505 a w tv958 ⟨p805, k806, p807, k808, Sv809, hs, hw⟩ hsh hd957
 delta law09_LinkCounts_l7 at hsh
 refine wp_seq ?_
 refine sr ?_
 refine mv hs rfl rfl fun a hs => ?_
 refine sv hs (y_lss rfl rfl) rfl fun a hs => ?_
 refine nl ?_
 refine wp_cond_split (hs.ev rfl) (fun h962 => ?_) (fun h962 => ?_)
 ·have hsh := ite_t hsh h962
  refine wp_skip ?_
  refine then_normal ?_
  refine wp_seq ?_
  refine wp_block ?_
  refine wp_seq ?_
  refine sr ?_
  refine mv hs rfl rfl fun a hs => ?_
  refine sv hs (y_lss rfl rfl) rfl fun a hs => ?_
  refine mv hs rfl rfl fun a hs => ?_
  obtain ⟨c1118, hc1118, hsh⟩ := bind_t hsh
  refine wpl_join 4 (fun a w => ∃ (p1119 : Option Addr) (k1120 : Nat) (Sv1121 : Nat → Prop), Sl 140 [(3, .pointer (some ⟨b30, 0, none⟩)), (4, .pointer (some ⟨b49, 0, none⟩)), (5, .map (some b50)), (6, .int .i64 sv505.2.2.2.2.2.2.1), (7, .int .i64 sv505.2.2.2.2.2.2.2.1), (8, .int .i64 sv505.2.2.2.2.2.2.2.2), (38, .bool c1118.2.2)] a ∧ Wd ⟨w0, S0, []⟩ Sv1121 [.box b30 [.slice p1119 c1118.1.length k1120, .int .i64 c1118.2.1] 59, .box b49 [.int .i64 sv505.2.2.1, .int .i64 sv505.2.2.2.1, .slice p807 sv505.2.2.2.2.1.length k808] 29, mpR Try.prog 3 3 0 b50 sv505.2.2.2.2.2.1] [SlA p1119 c1118.1.length k1120 c1118.1, SlA p807 sv505.2.2.2.2.1.length k808 sv505.2.2.2.2.1] w) ?_ ?_
  ·rcases Bool.eq_false_or_eq_true (decide (sv505.2.2.2.2.2.2.2.2 < 14)) with h1117 | h1117
   ·have hs := hs.fix 34 (.bool true) rfl (vb h1117)
    have hsh := ite_t hc1118 h1117
    refine st_val hs (y_move rfl) ⟨_, rfl, rfl⟩ rfl rfl fun a hs => ?_
    obtain ⟨rv1123, h1122, hsh⟩ := bind_t hsh
    refine st_callR hs (made_Dice_Next_ok h1122 hw.dom (hw.ins [0] (by decide) rfl) (hw.envAt 0 rfl)) (do_call Try.call12 rfl) ⟨_, rfl, rfl⟩ rfl rfl ?_
    intro v1130 Sv1127 w a h1128 h1129 hs
    obtain ⟨p1124, k1125, rfl, h1131, h1126⟩ := h1129
    have hw := hw.callO [0] [1, 2] (by decide) rfl h1128 h1131
    have hw := hw.addE (e := SlA p1124 rv1123.2.L.length k1125 rv1123.2.L) h1126
    refine st_val hs (y_eql rfl rfl) ⟨_, rfl, rfl⟩ rfl rfl fun a hs => ?_
    refine sv hs (y_pickT rfl rfl) rfl fun a hs => ?_
    refine wpList_nil ?_
    have hsh := oi hsh
    subst hsh
    refine then_normal ?_
    exact ⟨p1124, k1125, Sv1127, (hs.wk rfl), (hw.ft [0, 1, 2] [0, 2] (by decide) rfl rfl)⟩
   have hs := hs.fix 34 (.bool false) rfl (vb h1117)
   have hsh := ite_f hc1118 h1117
   refine st_skip hs rfl rfl rfl rfl rfl fun a hs => ?_
   refine st_skip hs rfl rfl rfl rfl rfl fun a hs => ?_
   refine st_skip hs rfl rfl rfl rfl rfl fun a hs => ?_
   refine sv hs (y_pickF rfl rfl) rfl fun a hs => ?_
   refine wpList_nil ?_
   have hsh := oi hsh
   subst hsh
   refine then_normal ?_
   exact ⟨p805, k806, Sv809, (hs.wk rfl), (hw.ft [0, 1, 2] [0, 1] (by decide) rfl rfl)⟩
  rintro a w ⟨p1119, k1120, Sv1121, hs, hw⟩
  refine nl ?_
  refine wp_join (fun a w => ∃ (x1203 : (List Int)) (x1204 : Int) (x1205 : Int) (x1206 : Int) (x1207 : (List Transit)) (m1208 : (Mp Int)) (total1209 : Int) (p1198 : Option Addr) (k1199 : Nat) (p1200 : Option Addr) (k1201 : Nat) (Sv1202 : Nat → Prop), law09_LinkCounts_j1 sv505 x1203 x1204 x1205 x1206 x1207 m1208 total1209 = some tv958 ∧ Sl 140 [(3, .pointer (some ⟨b30, 0, none⟩)), (4, .pointer (some ⟨b49, 0, none⟩)), (5, .map (some b50)), (6, .int .i64 total1209), (7, .int .i64 sv505.2.2.2.2.2.2.2.1), (8, .int .i64 sv505.2.2.2.2.2.2.2.2)] a ∧ Wd ⟨w0, S0, []⟩ Sv1202 [.box b30 [.slice p1198 x1203.length k1199, .int .i64 x1204] 59, .box b49 [.int .i64 x1205, .int .i64 x1206, .slice p1200 x1207.length k1201] 29, mpR Try.prog 3 3 0 b50 m1208] [SlA p1198 x1203.length k1199 x1203, SlA p1200 x1207.length k1201 x1207] w) ?_ ?_
  ·refine wp_cond_split (hs.ev rfl) (fun h1256 => ?_) (fun h1256 => ?_)
   ·have hsh := ite_t hsh h1256
    refine sr ?_
    refine mv hs rfl rfl fun a hs => ?_
    obtain ⟨rv1258, h1257, hsh⟩ := bind_t hsh
    refine st_callR hs (made_Dice_Fault_ok h1257 hw.dom (hw.ins [0] (by decide) rfl) (hw.envAt 0 rfl)) (do_call Try.call11 rfl) trivial rfl rfl ?_
    intro v1265 Sv1262 w a h1263 h1264 hs
    obtain ⟨p1259, k1260, rfl, h1266, h1261⟩ := h1264
    have hw := hw.callO [0] [1, 2] (by decide) rfl h1263 h1266
    have hw := hw.addE (e := SlA p1259 rv1258.2.L.length k1260 rv1258.2.L) h1261
    refine w_alloc (cs := [.bool false, .int .i64 0, .int .i64 0]) hs hw Try.zeroValue32 rfl rfl trivial ?_
    intro b1267 a w hs hw
    refine w_store (m := 3) (cs' := [.bool rv1258.1.Drop, .int .i64 rv1258.1.Delay, .int .i64 rv1258.1.Copies]) hs hw 0 rfl rfl rfl Try.sizeOf32 rfl rfl rfl rfl trivial ?_
    intro a w hs hw
    refine nl ?_
    refine sr ?_
    refine sv hs (y_loadBA (hw.ownAt 2 rfl) rfl Try.isAgg29 Try.sizeOf29 rfl rfl) rfl fun a hs => ?_
    refine sv hs (y_loadBA (hw.ownAt 0 rfl) rfl Try.isAgg32 Try.sizeOf32 rfl rfl) rfl fun a hs => ?_
    obtain ⟨rv1269, h1268, hsh⟩ := bind_t hsh
    refine st_callR hs (link_Send_ok h1268 hw.dom (hw.envAt 2 rfl)) (do_call Try.call13 rfl) trivial rfl rfl ?_
    intro v1277 Sv1274 w a h1275 h1276 hs
    obtain ⟨p1270, k1271, c1273, rfl, h1278, h1272⟩ := h1276
    have hw := hw.callN h1275 h1278
    have hw := hw.addE (e := RowA c1273 rv1269.1.Items) h1272
    refine mv hs rfl rfl fun a hs => ?_
    refine sv hs (y_extract rfl rfl) rfl fun a hs => ?_
    refine sv hs (y_extract rfl rfl) rfl fun a hs => ?_
    refine w_alloc (cs := [.int .i64 0, .int .i64 0, .slice none ([] : List Transit).length 0]) hs hw Try.zeroValue29 rfl rfl trivial ?_
    intro b1279 a w hs hw
    refine w_store (m := 3) (cs' := [.int .i64 rv1269.1.Now, .int .i64 rv1269.1.Order, .slice p1270 rv1269.1.Items.length k1271]) hs hw 0 rfl rfl rfl Try.sizeOf29 rfl rfl rfl rfl trivial ?_
    intro a w hs hw
    refine av hs rfl rfl fun a hs => ?_
    refine nl ?_
    refine wp_seq ?_
    refine sr ?_
    refine mv hs rfl rfl fun a hs => ?_
    refine sv hs (y_neq rfl rfl) rfl fun a hs => ?_
    refine nl ?_
    refine wp_cond_split (hs.ev rfl) (fun h1281 => ?_) (fun h1281 => ?_)
    ·have hsh := ite_t hsh h1281
     refine sr ?_
     refine av hs rfl rfl fun a hs => ?_
     refine nl ?_
     have hsh := oi hsh
     subst hsh
     have h1282 := hd957 _ rfl
     subst h1282
     refine wp_ret ?_
     refine then_ret ?_
     refine then_ret ?_
     refine then_ret ?_
     refine blk_ret ?_
     refine then_ret ?_
     refine then_ret ?_
     refine blk_ret ?_
     refine then_ret ?_
     exact ret1 hs rfl (rv_tmp rfl) (hw.ret rfl)
    have hsh := ite_f hsh h1281
    refine wp_skip ?_
    refine then_normal ?_
    refine sr ?_
    refine sv hs (y_loadBA (hw.ownAt 0 rfl) rfl Try.isAgg29 Try.sizeOf29 rfl rfl) rfl fun a hs => ?_
    refine w_store (m := 3) (cs' := [.int .i64 rv1269.1.Now, .int .i64 rv1269.1.Order, .slice p1270 rv1269.1.Items.length k1271]) hs hw 4 rfl rfl rfl Try.sizeOf29 rfl rfl rfl rfl trivial ?_
    intro a w hs hw
    refine nl ?_
    refine sr ?_
    refine av hs rfl rfl fun a hs => ?_
    refine nl ?_
    obtain ⟨e1322, h1344, hsh⟩ := bind_t hsh
    refine wp_join (fun a w => ∃ (Sv1323 : Nat → Prop), Sl 140 [(3, .pointer (some ⟨b30, 0, none⟩)), (4, .pointer (some ⟨b49, 0, none⟩)), (5, .map (some b50)), (6, .int .i64 e1322.2), (7, .int .i64 sv505.2.2.2.2.2.2.2.1), (8, .int .i64 sv505.2.2.2.2.2.2.2.2)] a ∧ Wd ⟨w0, S0, []⟩ Sv1323 [.box b30 [.slice p1259 rv1258.2.L.length k1260, .int .i64 rv1258.2.At] 59, .box b49 [.int .i64 rv1269.1.Now, .int .i64 rv1269.1.Order, .slice p1270 rv1269.1.Items.length k1271] 29, mpR Try.prog 3 3 0 b50 e1322.1, .row p1270 rv1269.1.Items.length k1271 c1273 47 3] [SlA p1259 rv1258.2.L.length k1260 rv1258.2.L, RowA c1273 rv1269.1.Items] w) ?_ ?_
    ·refine wp_block ?_
     refine wp_while (fun sv1283 a w => ∃ (Sv1307 : Nat → Prop), Sl 140 [(3, .pointer (some ⟨b30, 0, none⟩)), (4, .pointer (some ⟨b49, 0, none⟩)), (5, .map (some b50)), (6, .int .i64 sv1283.2.1), (7, .int .i64 sv505.2.2.2.2.2.2.2.1), (8, .int .i64 sv505.2.2.2.2.2.2.2.2), (9, .pointer (some ⟨b1267, 0, none⟩)), (12, .int .i64 sv1283.2.2)] a ∧ Wd ⟨w0, S0, []⟩ Sv1307 [.box b30 [.slice p1259 rv1258.2.L.length k1260, .int .i64 rv1258.2.At] 59, .box b49 [.int .i64 rv1269.1.Now, .int .i64 rv1269.1.Order, .slice p1270 rv1269.1.Items.length k1271] 29, mpR Try.prog 3 3 0 b50 sv1283.1, .box b1267 [.bool rv1258.1.Drop, .int .i64 rv1258.1.Delay, .int .i64 rv1258.1.Copies] 32, .row p1270 rv1269.1.Items.length k1271 c1273 47 3] [SlA p1259 rv1258.2.L.length k1260 rv1258.2.L, RowA c1273 rv1269.1.Items] w) (sv505.2.2.2.2.2.1, sv505.2.2.2.2.2.2.1, 0) h1344 ⟨Sv1274, (hs.wk rfl), (hw.ft [3, 4, 5, 2, 1] [1, 0] (by decide) rfl rfl)⟩ ?_
     clear h1344
     repeat clear hsh
     rintro sv1283 a w tv1320 ⟨Sv1307, hs, hw⟩ hsh hd1319
     delta law09_LinkCounts_l11 at hsh
     refine wp_seq ?_
     refine sr ?_
     refine mv hs rfl rfl fun a hs => ?_
     refine sv hs (y_fieldAddr (o' := 2) Try.runUnderlying32 rfl Try.sizeOf3 rfl rfl rfl) rfl fun a hs => ?_
     refine sv hs (y_loadB1 (hw.ownAt 3 rfl) rfl Try.isAgg3 rfl) rfl fun a hs => ?_
     refine sv hs (y_leq rfl rfl) rfl fun a hs => ?_
     refine mv hs rfl rfl fun a hs => ?_
     refine wpl_join 4 (fun a w1 => w = w1 ∧ Sl 140 [(3, .pointer (some ⟨b30, 0, none⟩)), (4, .pointer (some ⟨b49, 0, none⟩)), (5, .map (some b50)), (6, .int .i64 sv1283.2.1), (7, .int .i64 sv505.2.2.2.2.2.2.2.1), (8, .int .i64 sv505.2.2.2.2.2.2.2.2), (9, .pointer (some ⟨b1267, 0, none⟩)), (12, .int .i64 sv1283.2.2), (58, .bool ((decide (sv1283.2.2 ≤ rv1258.1.Copies)) && (!rv1258.1.Drop)))] a) ?_ ?_
     ·rcases Bool.eq_false_or_eq_true (decide (sv1283.2.2 ≤ rv1258.1.Copies)) with h1324 | h1324
      ·have hs := hs.fix 54 (.bool true) rfl (vb h1324)
       refine st_val hs (y_fieldAddr (o' := 0) Try.runUnderlying32 rfl Try.sizeOf4 rfl rfl rfl) ⟨_, rfl, rfl⟩ rfl rfl fun a hs => ?_
       refine st_val hs (y_loadB1 (hw.ownAt 3 rfl) rfl Try.isAgg4 rfl) ⟨_, rfl, rfl⟩ rfl rfl fun a hs => ?_
       refine st_val hs (y_not rfl) ⟨_, rfl, rfl⟩ rfl rfl fun a hs => ?_
       refine sv hs (y_pickT rfl rfl) rfl fun a hs => ?_
       refine nl ?_
       exact ⟨rfl, (hs.fix 58 (.bool ((decide (sv1283.2.2 ≤ rv1258.1.Copies)) && (!rv1258.1.Drop))) rfl (and_t h1324)).weaken _ ⟨rfl, rfl, rfl, rfl, rfl, rfl, rfl, rfl, rfl, trivial⟩⟩
      have hs := hs.fix 54 (.bool false) rfl (vb h1324)
      refine st_skip hs rfl rfl rfl rfl rfl fun a hs => ?_
      refine st_skip hs rfl rfl rfl rfl rfl fun a hs => ?_
      refine st_skip hs rfl rfl rfl rfl rfl fun a hs => ?_
      refine sv hs (y_pickF rfl rfl) rfl fun a hs => ?_
      refine nl ?_
      exact ⟨rfl, (hs.fix 58 (.bool ((decide (sv1283.2.2 ≤ rv1258.1.Copies)) && (!rv1258.1.Drop))) rfl (and_f h1324)).weaken _ ⟨rfl, rfl, rfl, rfl, rfl, rfl, rfl, rfl, rfl, trivial⟩⟩
     rintro a w1 ⟨h1342, hs⟩
     subst h1342
     refine nl ?_
     refine wp_cond_split (hs.ev rfl) (fun h1326 => ?_) (fun h1326 => ?_)
     ·have hsh := ite_t hsh h1326
      refine wp_skip ?_
      refine then_normal ?_
      refine wp_seq ?_
      refine wp_block ?_
      refine sr ?_
      refine mv hs rfl rfl fun a hs => ?_
      refine mv hs rfl rfl fun a hs => ?_
      refine sv hs (y_add rfl rfl) rfl fun a hs => ?_
      refine sv hs (y_fieldAddr (o' := 1) Try.runUnderlying32 rfl Try.sizeOf3 rfl rfl rfl) rfl fun a hs => ?_
      refine sv hs (y_loadB1 (hw.ownAt 3 rfl) rfl Try.isAgg3 rfl) rfl fun a hs => ?_
      refine sv hs (y_add rfl rfl) rfl fun a hs => ?_
      refine mv hs rfl rfl fun a hs => ?_
      refine sv hs (y_add rfl rfl) rfl fun a hs => ?_
      obtain ⟨g1334, h1333, hsh⟩ := bind_t hsh
      refine sv hs (y_lookup (α := Int) (hw.ownAt 2 rfl) Try.underlying57 Try.underlying3 Try.underlying3 Try.zeroValue3 rfl rfl rfl rfl h1333) rfl fun a hs => ?_
      refine sv hs (y_add rfl rfl) rfl fun a hs => ?_
      obtain ⟨m1336, h1335, hsh⟩ := bind_t hsh
      refine w_mapUpdate (α := Int) hs hw 2 rfl Try.underlying57 Try.underlying3 Try.underlying3 rfl rfl rfl h1335 trivial ?_
      intro a w hs hw
      refine nl ?_
      refine wp_region_lit ?_
      refine mv hs rfl rfl fun a hs => ?_
      refine sv hs (y_add rfl rfl) rfl fun a hs => ?_
      obtain ⟨total1338, h1337, hsh⟩ := bind_t hsh
      refine sv hs (y_assignI rfl h1337) rfl fun a hs => ?_
      refine wpList_nil ?_
      refine blk_normal ?_
      refine then_normal ?_
      refine wp_region_lit ?_
      refine mv hs rfl rfl fun a hs => ?_
      refine sv hs (y_add rfl rfl) rfl fun a hs => ?_
      obtain ⟨i1340, h1339, hsh⟩ := bind_t hsh
      refine sv hs (y_assignI rfl h1339) rfl fun a hs => ?_
      refine nl ?_
      exact ⟨_, (Option.some.inj hsh).symm, Sv1307, (hs.wk rfl), (hw.ft [0, 1, 2, 3, 4] [0, 1] (by decide) rfl rfl)⟩
     have hsh := ite_f hsh h1326
     refine wp_exit ?_
     refine then_exit ?_
     refine then_exit ?_
     refine blk_exit ?_
     have hsh := oi hsh
     subst hsh
     have h1341 := hd1319 _ rfl
     subst h1341
     refine then_normal ?_
     exact ⟨Sv1307, (hs.wk rfl), (hw.ft [0, 1, 2, 4] [0, 1] (by decide) rfl rfl)⟩
    rintro a w ⟨Sv1323, hs, hw⟩
    refine then_normal ?_
    obtain ⟨Sv1343, hw⟩ := w_share (α := Transit) hw 3 rfl 1 rfl
    exact ⟨rv1258.2.L, rv1258.2.At, rv1269.1.Now, rv1269.1.Order, rv1269.1.Items, e1322.1, e1322.2, p1259, k1260, p1270, k1271, Sv1343, hsh, (hs.wk rfl), (hw.ft [0, 1, 2] [1, 0] (by decide) rfl rfl)⟩
   have hsh := ite_f hsh h1256
   refine wp_skip ?_
   refine then_normal ?_
   exact ⟨c1118.1, c1118.2.1, sv505.2.2.1, sv505.2.2.2.1, sv505.2.2.2.2.1, sv505.2.2.2.2.2.1, sv505.2.2.2.2.2.2.1, p1119, k1120, p807, k808, Sv1121, hsh, (hs.wk rfl), (hw.ft [0, 1, 2] [0, 1] (by decide) rfl rfl)⟩
  rintro a w ⟨x1203, x1204, x1205, x1206, x1207, m1208, total1209, p1198, k1199, p1200, k1201, Sv1202, hsh, hs, hw⟩
  delta law09_LinkCounts_j1 at hsh
  refine then_normal ?_
  refine sr ?_
  refine sv hs (y_loadBA (hw.ownAt 1 rfl) rfl Try.isAgg29 Try.sizeOf29 rfl rfl) rfl fun a hs => ?_
  obtain ⟨rv1211, h1210, hsh⟩ := bind_t hsh
  refine st_callR hs (link_Next_ok h1210 hw.bdom (hw.bE 1 rfl)) (do_call Try.call25 rfl) trivial rfl rfl ?_
  intro v1215 Sv1212 w a h1213 h1214 hs
  subst h1214
  have hw := hw.callB h1213
  refine mv hs rfl rfl fun a hs => ?_
  refine sv hs (y_extract rfl rfl) rfl fun a hs => ?_
  refine sv hs (y_extract rfl rfl) rfl fun a hs => ?_
  refine av hs rfl rfl fun a hs => ?_
  refine av hs rfl rfl fun a hs => ?_
  refine nl ?_
  refine sr ?_
  refine sv hs (y_loadBA (hw.ownAt 1 rfl) rfl Try.isAgg29 Try.sizeOf29 rfl rfl) rfl fun a hs => ?_
  obtain ⟨rv1218, h1217, hsh⟩ := bind_t hsh
  refine st_callR hs (link_Tick_ok h1217 hw.dom (hw.envAt 1 rfl)) (do_call Try.call14 rfl) trivial rfl rfl ?_
  intro v1230 Sv1227 w a h1228 h1229 hs
  obtain ⟨p1219, k1220, c1222, p1223, k1224, c1226, rfl, h1231, h1221, h1225⟩ := h1229
  have hw := hw.callN h1228 h1231
  have hw := hw.addE (e := RowA c1222 rv1218.1.Items) h1221
  have hw := hw.addE (e := RowA c1226 rv1218.2.1) h1225
  refine mv hs rfl rfl fun a hs => ?_
  refine sv hs (y_extract rfl rfl) rfl fun a hs => ?_
  refine sv hs (y_extract rfl rfl) rfl fun a hs => ?_
  refine sv hs (y_extract rfl rfl) rfl fun a hs => ?_
  refine w_alloc (cs := [.int .i64 0, .int .i64 0, .slice none ([] : List Transit).length 0]) hs hw Try.zeroValue29 rfl rfl trivial ?_
  intro b1232 a w hs hw
  refine w_store (m := 3) (cs' := [.int .i64 rv1218.1.Now, .int .i64 rv1218.1.Order, .slice p1219 rv1218.1.Items.length k1220]) hs hw 0 rfl rfl rfl Try.sizeOf29 rfl rfl rfl rfl trivial ?_
  intro a w hs hw
  refine av hs rfl rfl fun a hs => ?_
  refine av hs rfl rfl fun a hs => ?_
  refine nl ?_
  refine wp_seq ?_
  refine sr ?_
  refine mv hs rfl rfl fun a hs => ?_
  refine sv hs (y_neq rfl rfl) rfl fun a hs => ?_
  refine mv hs rfl rfl fun a hs => ?_
  refine wpl_join 6 (fun a w1 => w = w1 ∧ Sl 140 [(3, .pointer (some ⟨b30, 0, none⟩)), (4, .pointer (some ⟨b49, 0, none⟩)), (5, .map (some b50)), (6, .int .i64 total1209), (7, .int .i64 sv505.2.2.2.2.2.2.2.1), (8, .int .i64 sv505.2.2.2.2.2.2.2.2), (13, .int .i64 rv1211.1), (14, .bool rv1211.2), (15, .pointer (some ⟨b1232, 0, none⟩)), (16, .slice p1223 rv1218.2.1.length k1224), (92, .bool ((rv1218.2.2 != 0) || (rv1218.1.Now != (w64 (sv505.2.2.2.2.2.2.2.2 + 1)))))] a) ?_ ?_
  ·rcases Bool.eq_false_or_eq_true (rv1218.2.2 != 0) with h1233 | h1233
   ·have hs := hs.fix 86 (.bool true) rfl (vb h1233)
    refine st_skip hs rfl rfl rfl rfl rfl fun a hs => ?_
    refine st_skip hs rfl rfl rfl rfl rfl fun a hs => ?_
    refine st_skip hs rfl rfl rfl rfl rfl fun a hs => ?_
    refine st_skip hs rfl rfl rfl rfl rfl fun a hs => ?_
    refine st_skip hs rfl rfl rfl rfl rfl fun a hs => ?_
    refine sv hs (y_pickT rfl rfl) rfl fun a hs => ?_
    refine nl ?_
    exact ⟨rfl, (hs.fix 92 (.bool ((rv1218.2.2 != 0) || (rv1218.1.Now != (w64 (sv505.2.2.2.2.2.2.2.2 + 1))))) rfl (or_t h1233)).weaken _ ⟨rfl, rfl, rfl, rfl, rfl, rfl, rfl, rfl, rfl, rfl, rfl, trivial⟩⟩
   have hs := hs.fix 86 (.bool false) rfl (vb h1233)
   refine st_val hs (y_fieldAddr (o' := 0) Try.runUnderlying29 rfl Try.sizeOf3 rfl rfl rfl) ⟨_, rfl, rfl⟩ rfl rfl fun a hs => ?_
   refine st_val hs (y_loadB1 (hw.ownAt 0 rfl) rfl Try.isAgg3 rfl) ⟨_, rfl, rfl⟩ rfl rfl fun a hs => ?_
   refine st_val hs (y_move rfl) ⟨_, rfl, rfl⟩ rfl rfl fun a hs => ?_
   refine st_val hs (y_add rfl rfl) ⟨_, rfl, rfl⟩ rfl rfl fun a hs => ?_
   refine st_val hs (y_neq rfl rfl) ⟨_, rfl, rfl⟩ rfl rfl fun a hs => ?_
   refine sv hs (y_pickF rfl rfl) rfl fun a hs => ?_
   refine nl ?_
   exact ⟨rfl, (hs.fix 92 (.bool ((rv1218.2.2 != 0) || (rv1218.1.Now != (w64 (sv505.2.2.2.2.2.2.2.2 + 1))))) rfl (or_f h1233)).weaken _ ⟨rfl, rfl, rfl, rfl, rfl, rfl, rfl, rfl, rfl, rfl, rfl, trivial⟩⟩
  rintro a w1 ⟨h1255, hs⟩
  subst h1255
  refine mv hs rfl rfl fun a hs => ?_
  obtain ⟨c1237, hc1237, hsh⟩ := bind_t hsh
  refine wpl_join 8 (fun a w => ∃ (Sv1238 : Nat → Prop), Sl 140 [(3, .pointer (some ⟨b30, 0, none⟩)), (4, .pointer (some ⟨b49, 0, none⟩)), (5, .map (some b50)), (6, .int .i64 total1209), (7, .int .i64 sv505.2.2.2.2.2.2.2.1), (8, .int .i64 sv505.2.2.2.2.2.2.2.2), (13, .int .i64 rv1211.1), (14, .bool rv1211.2), (15, .pointer (some ⟨b1232, 0, none⟩)), (16, .slice p1223 rv1218.2.1.length k1224), (101, .bool c1237)] a ∧ Wd ⟨w0, S0, []⟩ Sv1238 [.box b30 [.slice p1198 x1203.length k1199, .int .i64 x1204] 59, .box b49 [.int .i64 x1205, .int .i64 x1206, .slice p1200 x1207.length k1201] 29, mpR Try.prog 3 3 0 b50 m1208, .box b1232 [.int .i64 rv1218.1.Now, .int .i64 rv1218.1.Order, .slice p1219 rv1218.1.Items.length k1220] 29, .row p1219 rv1218.1.Items.length k1220 c1222 47 3, .row p1223 rv1218.2.1.length k1224 c1226 9 1] [SlA p1198 x1203.length k1199 x1203, SlA p1200 x1207.length k1201 x1207, RowA c1222 rv1218.1.Items, RowA c1226 rv1218.2.1] w) ?_ ?_
  ·rcases Bool.eq_false_or_eq_true ((rv1218.2.2 != 0) || (rv1218.1.Now != (w64 (sv505.2.2.2.2.2.2.2.2 + 1)))) with h1236 | h1236
   ·have hs := hs.fix 93 (.bool true) rfl (vb h1236)
    have hsh := ite_t hc1237 h1236
    refine st_skip hs rfl rfl rfl rfl rfl fun a hs => ?_
    refine st_skip hs rfl rfl rfl rfl rfl fun a hs => ?_
    refine st_skip hs rfl rfl rfl rfl rfl fun a hs => ?_
    refine st_skip hs rfl rfl rfl rfl rfl fun a hs => ?_
    refine st_skip hs rfl rfl rfl rfl rfl fun a hs => ?_
    refine st_skip hs rfl rfl rfl rfl rfl fun a hs => ?_
    refine st_skip hs rfl rfl rfl rfl rfl fun a hs => ?_
    refine sv hs (y_pickT rfl rfl) rfl fun a hs => ?_
    refine wpList_nil ?_
    have hsh := oi hsh
    subst hsh
    refine then_normal ?_
    exact ⟨Sv1227, (hs.wk rfl), (hw.ft [3, 4, 5, 0, 1, 2] [2, 3, 1, 0] (by decide) rfl rfl)⟩
   have hs := hs.fix 93 (.bool false) rfl (vb h1236)
   have hsh := ite_f hc1237 h1236
   refine st_val hs (y_move rfl) ⟨_, rfl, rfl⟩ rfl rfl fun a hs => ?_
   refine st_val hs (y_len Try.runUnderlying34 rfl) ⟨_, rfl, rfl⟩ rfl rfl fun a hs => ?_
   refine st_val hs (y_move rfl) ⟨_, rfl, rfl⟩ rfl rfl fun a hs => ?_
   refine st_val hs (y_move rfl) ⟨_, rfl, rfl⟩ rfl rfl fun a hs => ?_
   refine st_val hs (y_add rfl rfl) ⟨_, rfl, rfl⟩ rfl rfl fun a hs => ?_
   obtain ⟨g1240, h1239, hsh⟩ := bind_t hsh
   refine st_val hs (y_lookup (α := Int) (hw.ownAt 5 rfl) Try.underlying57 Try.underlying3 Try.underlying3 Try.zeroValue3 rfl rfl rfl rfl h1239) ⟨_, rfl, rfl⟩ rfl rfl fun a hs => ?_
   refine st_val hs (y_neq rfl rfl) ⟨_, rfl, rfl⟩ rfl rfl fun a hs => ?_
   refine sv hs (y_pickF rfl rfl) rfl fun a hs => ?_
   refine wpList_nil ?_
   have hsh := oi hsh
   subst hsh
   refine then_normal ?_
   exact ⟨Sv1227, (hs.wk rfl), (hw.ft [3, 4, 5, 0, 1, 2] [2, 3, 1, 0] (by decide) rfl rfl)⟩
  rintro a w ⟨Sv1238, hs, hw⟩
  refine mv hs rfl rfl fun a hs => ?_
  refine wpl_join 12 (fun a w1 => w = w1 ∧ Sl 140 [(3, .pointer (some ⟨b30, 0, none⟩)), (4, .pointer (some ⟨b49, 0, none⟩)), (5, .map (some b50)), (6, .int .i64 total1209), (7, .int .i64 sv505.2.2.2.2.2.2.2.1), (8, .int .i64 sv505.2.2.2.2.2.2.2.2), (15, .pointer (some ⟨b1232, 0, none⟩)), (16, .slice p1223 rv1218.2.1.length k1224), (114, .bool (c1237 || (!((decide (0 < (rv1218.2.1.length : Int))) == (rv1211.2 && (rv1211.1 == (w64 (sv505.2.2.2.2.2.2.2.2 + 1))))))))] a) ?_ ?_
  ·rcases Bool.eq_false_or_eq_true c1237 with h1243 | h1243
   ·have hs := hs.fix 102 (.bool true) rfl (vb h1243)
    refine st_skip hs rfl rfl rfl rfl rfl fun a hs => ?_
    refine st_skip hs rfl rfl rfl rfl rfl fun a hs => ?_
    refine st_skip hs rfl rfl rfl rfl rfl fun a hs => ?_
    refine st_skip hs rfl rfl rfl rfl rfl fun a hs => ?_
    refine st_skip hs rfl rfl rfl rfl rfl fun a hs => ?_
    refine st_skipU hs rfl rfl rfl rfl rfl fun a hs => ?_
    refine st_skipU hs rfl rfl rfl rfl rfl fun a hs => ?_
    refine st_skipU hs rfl rfl rfl rfl rfl fun a hs => ?_
    refine st_skipU hs rfl rfl rfl rfl rfl fun a hs => ?_
    refine st_skip hs rfl rfl rfl rfl rfl fun a hs => ?_
    refine st_skip hs rfl rfl rfl rfl rfl fun a hs => ?_
    refine sv hs (y_pickT rfl rfl) rfl fun a hs => ?_
    refine nl ?_
    exact ⟨rfl, (hs.fix 114 (.bool (c1237 || (!((decide (0 < (rv1218.2.1.length : Int))) == (rv1211.2 && (rv1211.1 == (w64 (sv505.2.2.2.2.2.2.2.2 + 1)))))))) rfl (or_t h1243)).weaken _ ⟨rfl, rfl, rfl, rfl, rfl, rfl, rfl, rfl, rfl, trivial⟩⟩
   have hs := hs.fix 102 (.bool false) rfl (vb h1243)
   refine st_val hs (y_move rfl) ⟨_, rfl, rfl⟩ rfl rfl fun a hs => ?_
   refine st_val hs (y_len Try.runUnderlying34 rfl) ⟨_, rfl, rfl⟩ rfl rfl fun a hs => ?_
   refine st_val hs (y_gtr rfl rfl) ⟨_, rfl, rfl⟩ rfl rfl fun a hs => ?_
   refine st_val hs (y_move rfl) ⟨_, rfl, rfl⟩ rfl rfl fun a hs => ?_
   refine st_val hs (y_move rfl) ⟨_, rfl, rfl⟩ rfl rfl fun a hs => ?_
   refine wpl_join 5 (fun a w1 => w = w1 ∧ Sl 140 [(3, .pointer (some ⟨b30, 0, none⟩)), (4, .pointer (some ⟨b49, 0, none⟩)), (5, .map (some b50)), (6, .int .i64 total1209), (7, .int .i64 sv505.2.2.2.2.2.2.2.1), (8, .int .i64 sv505.2.2.2.2.2.2.2.2), (15, .pointer (some ⟨b1232, 0, none⟩)), (16, .slice p1223 rv1218.2.1.length k1224), (102, .bool false), (103, .slice p1223 rv1218.2.1.length k1224), (104, .int .i64 (rv1218.2.1.length : Int)), (105, .bool (decide (0 < (rv1218.2.1.length : Int)))), (106, .bool rv1211.2), (107, .bool rv1211.2), (112, .bool (rv1211.2 && (rv1211.1 == (w64 (sv505.2.2.2.2.2.2.2.2 + 1)))))] a) ?_ ?_
   ·rcases Bool.eq_false_or_eq_true rv1211.2 with h1244 | h1244
    ·have hs := hs.fix 107 (.bool true) rfl (vb h1244)
     refine st_val hs (y_move rfl) ⟨_, rfl, rfl⟩ rfl rfl fun a hs => ?_
     refine st_val hs (y_move rfl) ⟨_, rfl, rfl⟩ rfl rfl fun a hs => ?_
     refine st_val hs (y_add rfl rfl) ⟨_, rfl, rfl⟩ rfl rfl fun a hs => ?_
     refine st_val hs (y_eql rfl rfl) ⟨_, rfl, rfl⟩ rfl rfl fun a hs => ?_
     refine st_val hs (y_pickT rfl rfl) ⟨_, rfl, rfl⟩ rfl rfl fun a hs => ?_
     refine nl ?_
     have hs := hs.fix 107 (.bool rv1211.2) rfl (vb h1244.symm)
     exact ⟨rfl, (hs.fix 112 (.bool (rv1211.2 && (rv1211.1 == (w64 (sv505.2.2.2.2.2.2.2.2 + 1))))) rfl (and_t h1244)).weaken _ ⟨rfl, rfl, rfl, rfl, rfl, rfl, rfl, rfl, rfl, rfl, rfl, rfl, rfl, rfl, rfl, trivial⟩⟩
    have hs := hs.fix 107 (.bool false) rfl (vb h1244)
    refine st_skip hs rfl rfl rfl rfl rfl fun a hs => ?_
    refine st_skip hs rfl rfl rfl rfl rfl fun a hs => ?_
    refine st_skip hs rfl rfl rfl rfl rfl fun a hs => ?_
    refine st_skip hs rfl rfl rfl rfl rfl fun a hs => ?_
    refine st_val hs (y_pickF rfl rfl) ⟨_, rfl, rfl⟩ rfl rfl fun a hs => ?_
    refine nl ?_
    have hs := hs.fix 107 (.bool rv1211.2) rfl (vb h1244.symm)
    exact ⟨rfl, (hs.fix 112 (.bool (rv1211.2 && (rv1211.1 == (w64 (sv505.2.2.2.2.2.2.2.2 + 1))))) rfl (and_f h1244)).weaken _ ⟨rfl, rfl, rfl, rfl, rfl, rfl, rfl, rfl, rfl, rfl, rfl, rfl, rfl, rfl, rfl, trivial⟩⟩
   rintro a w1 ⟨h1245, hs⟩
   subst h1245
   refine st_val hs (y_neqB Try.runUnderlying4 rfl rfl) ⟨_, rfl, rfl⟩ rfl rfl fun a hs => ?_
   refine sv hs (y_pickF rfl rfl) rfl fun a hs => ?_
   refine nl ?_
   exact ⟨rfl, (hs.fix 114 (.bool (c1237 || (!((decide (0 < (rv1218.2.1.length : Int))) == (rv1211.2 && (rv1211.1 == (w64 (sv505.2.2.2.2.2.2.2.2 + 1)))))))) rfl (or_f h1243)).weaken _ ⟨rfl, rfl, rfl, rfl, rfl, rfl, rfl, rfl, rfl, trivial⟩⟩
  rintro a w1 ⟨h1254, hs⟩
  subst h1254
  refine nl ?_
  refine wp_cond_split (hs.ev rfl) (fun h1247 => ?_) (fun h1247 => ?_)
  ·have hsh := ite_t hsh h1247
   refine sr ?_
   refine av hs rfl rfl fun a hs => ?_
   refine nl ?_
   have hsh := oi hsh
   subst hsh
   have h1248 := hd957 _ rfl
   subst h1248
   refine wp_ret ?_
   refine then_ret ?_
   refine blk_ret ?_
   refine then_ret ?_
   refine then_ret ?_
   refine blk_ret ?_
   refine then_ret ?_
   exact ret1 hs rfl (rv_tmp rfl) (hw.ret rfl)
  have hsh := ite_f hsh h1247
  refine wp_skip ?_
  refine then_normal ?_
  refine wp_region_lit ?_
  refine sv hs (y_loadBA (hw.ownAt 3 rfl) rfl Try.isAgg29 Try.sizeOf29 rfl rfl) rfl fun a hs => ?_
  refine mv hs rfl rfl fun a hs => ?_
  refine mv hs rfl rfl fun a hs => ?_
  refine sv hs (y_len Try.runUnderlying34 rfl) rfl fun a hs => ?_
  refine sv hs (y_add rfl rfl) rfl fun a hs => ?_
  refine w_store (m := 3) (cs' := [.int .i64 rv1218.1.Now, .int .i64 rv1218.1.Order, .slice p1219 rv1218.1.Items.length k1220]) hs hw 1 rfl rfl rfl Try.sizeOf29 rfl rfl rfl rfl trivial ?_
  intro a w hs hw
  obtain ⟨got1250, h1249, hsh⟩ := bind_t hsh
  refine sv hs (y_assignI rfl h1249) rfl fun a hs => ?_
  refine wpList_nil ?_
  refine blk_normal ?_
  refine then_normal ?_
  refine wp_region_lit ?_
  refine mv hs rfl rfl fun a hs => ?_
  refine sv hs (y_add rfl rfl) rfl fun a hs => ?_
  obtain ⟨now1252, h1251, hsh⟩ := bind_t hsh
  refine sv hs (y_assignI rfl h1251) rfl fun a hs => ?_
  refine nl ?_
  obtain ⟨Sv1253, hw⟩ := w_share (α := Transit) hw 4 rfl 2 rfl
  exact ⟨_, (Option.some.inj hsh).symm, p1198, k1199, p1219, k1220, Sv1253, (hs.wk rfl), (hw.ft [0, 1, 2] [1, 0] (by decide) rfl rfl)⟩
 have hsh := ite_f hsh h962
 obtain ⟨rv1377, hsh, h1378⟩ := map_t hsh
 have h1378 := (hd957 _ h1378.symm).symm
 subst h1378
 refine wp_exit ?_
 refine then_exit ?_
 refine then_exit ?_
 refine blk_exit ?_
 refine then_normal ?_
 refine sr ?_
 refine sv hs (y_loadBA (hw.ownAt 1 rfl) rfl Try.isAgg29 Try.sizeOf29 rfl rfl) rfl fun a hs => ?_
 obtain ⟨rv1346, h1345, hsh⟩ := bind_t hsh
 refine st_callR hs (link_Drain_ok h1345 hw.dom (hw.envAt 1 rfl)) (do_call Try.call27 rfl) trivial rfl rfl ?_
 intro v1354 Sv1351 w a h1352 h1353 hs
 obtain ⟨p1347, k1348, c1350, rfl, h1355, h1349⟩ := h1353
 have hw := hw.callN h1352 h1355
 have hw := hw.addE (e := RowA c1350 rv1346.1) h1349
 refine mv hs rfl rfl fun a hs => ?_
 refine sv hs (y_extract rfl rfl) rfl fun a hs => ?_
 refine sv hs (y_extract rfl rfl) rfl fun a hs => ?_
 refine av hs rfl rfl fun a hs => ?_
 refine av hs rfl rfl fun a hs => ?_
 refine nl ?_
 refine sr ?_
 refine mv hs rfl rfl fun a hs => ?_
 refine sv hs (y_eql rfl rfl) rfl fun a hs => ?_
 refine mv hs rfl rfl fun a hs => ?_
 refine wpl_join 4 (fun a w1 => w = w1 ∧ Sl 140 [(6, .int .i64 sv505.2.2.2.2.2.2.1), (7, .int .i64 sv505.2.2.2.2.2.2.2.1), (131, .bool ((rv1346.2 == 0) && ((rv1346.1.length : Int) == 0)))] a) ?_ ?_
 ·rcases Bool.eq_false_or_eq_true (rv1346.2 == 0) with h1356 | h1356
  ·have hs := hs.fix 127 (.bool true) rfl (vb h1356)
   refine st_val hs (y_move rfl) ⟨_, rfl, rfl⟩ rfl rfl fun a hs => ?_
   refine st_val hs (y_len Try.runUnderlying27 rfl) ⟨_, rfl, rfl⟩ rfl rfl fun a hs => ?_
   refine st_val hs (y_eql rfl rfl) ⟨_, rfl, rfl⟩ rfl rfl fun a hs => ?_
   refine sv hs (y_pickT rfl rfl) rfl fun a hs => ?_
   refine nl ?_
   exact ⟨rfl, (hs.fix 131 (.bool ((rv1346.2 == 0) && ((rv1346.1.length : Int) == 0))) rfl (and_t h1356)).weaken _ ⟨rfl, rfl, rfl, trivial⟩⟩
  have hs := hs.fix 127 (.bool false) rfl (vb h1356)
  refine st_skip hs rfl rfl rfl rfl rfl fun a hs => ?_
  refine st_skip hs rfl rfl rfl rfl rfl fun a hs => ?_
  refine st_skip hs rfl rfl rfl rfl rfl fun a hs => ?_
  refine sv hs (y_pickF rfl rfl) rfl fun a hs => ?_
  refine nl ?_
  exact ⟨rfl, (hs.fix 131 (.bool ((rv1346.2 == 0) && ((rv1346.1.length : Int) == 0))) rfl (and_f h1356)).weaken _ ⟨rfl, rfl, rfl, trivial⟩⟩
 rintro a w1 ⟨h1376, hs⟩
 subst h1376
 refine mv hs rfl rfl fun a hs => ?_
 refine wpl_join 4 (fun a w1 => w = w1 ∧ Sl 140 [(136, .bool (((rv1346.2 == 0) && ((rv1346.1.length : Int) == 0)) && (sv505.2.2.2.2.2.2.2.1 == sv505.2.2.2.2.2.2.1)))] a) ?_ ?_
 ·rcases Bool.eq_false_or_eq_true ((rv1346.2 == 0) && ((rv1346.1.length : Int) == 0)) with h1357 | h1357
  ·have hs := hs.fix 132 (.bool true) rfl (vb h1357)
   refine st_val hs (y_move rfl) ⟨_, rfl, rfl⟩ rfl rfl fun a hs => ?_
   refine st_val hs (y_move rfl) ⟨_, rfl, rfl⟩ rfl rfl fun a hs => ?_
   refine st_val hs (y_eql rfl rfl) ⟨_, rfl, rfl⟩ rfl rfl fun a hs => ?_
   refine sv hs (y_pickT rfl rfl) rfl fun a hs => ?_
   refine nl ?_
   exact ⟨rfl, (hs.fix 136 (.bool (((rv1346.2 == 0) && ((rv1346.1.length : Int) == 0)) && (sv505.2.2.2.2.2.2.2.1 == sv505.2.2.2.2.2.2.1))) rfl (and_t h1357)).weaken _ ⟨rfl, trivial⟩⟩
  have hs := hs.fix 132 (.bool false) rfl (vb h1357)
  refine st_skip hs rfl rfl rfl rfl rfl fun a hs => ?_
  refine st_skip hs rfl rfl rfl rfl rfl fun a hs => ?_
  refine st_skip hs rfl rfl rfl rfl rfl fun a hs => ?_
  refine sv hs (y_pickF rfl rfl) rfl fun a hs => ?_
  refine nl ?_
  exact ⟨rfl, (hs.fix 136 (.bool (((rv1346.2 == 0) && ((rv1346.1.length : Int) == 0)) && (sv505.2.2.2.2.2.2.2.1 == sv505.2.2.2.2.2.2.1))) rfl (and_f h1357)).weaken _ ⟨rfl, trivial⟩⟩
 rintro a w1 ⟨h1375, hs⟩
 subst h1375
 refine mv hs rfl rfl fun a hs => ?_
 obtain ⟨c1366, hc1366, hsh⟩ := bind_t hsh
 refine wpl_join 2 (fun a w => ∃ (Sv1367 : Nat → Prop), Sl 140 [(139, .bool c1366)] a ∧ Wd ⟨w0, S0, []⟩ Sv1367 [] [] w) ?_ ?_
 ·rcases Bool.eq_false_or_eq_true (((rv1346.2 == 0) && ((rv1346.1.length : Int) == 0)) && (sv505.2.2.2.2.2.2.2.1 == sv505.2.2.2.2.2.2.1)) with h1365 | h1365
  ·have hs := hs.fix 137 (.bool true) rfl (vb h1365)
   have hsh := ite_t hc1366 h1365
   obtain ⟨rv1369, h1368, hsh⟩ := bind_t hsh
   refine st_callR hs (law09_sane_ok h1368 hw.bdom) (do_call Try.call8 rfl) ⟨_, rfl, rfl⟩ rfl rfl ?_
   intro v1373 Sv1370 w a h1371 h1372 hs
   subst h1372
   have hw := hw.callB h1371
   refine sv hs (y_pickT rfl rfl) rfl fun a hs => ?_
   refine wpList_nil ?_
   have hsh := oi hsh
   subst hsh
   refine then_normal ?_
   exact ⟨Sv1351, (hs.wk rfl), (hw.ft [] [] (by decide) rfl rfl)⟩
  have hs := hs.fix 137 (.bool false) rfl (vb h1365)
  have hsh := ite_f hc1366 h1365
  refine st_skip hs rfl rfl rfl rfl rfl fun a hs => ?_
  refine sv hs (y_pickF rfl rfl) rfl fun a hs => ?_
  refine wpList_nil ?_
  have hsh := oi hsh
  subst hsh
  refine then_normal ?_
  exact ⟨Sv1351, (hs.wk rfl), (hw.ft [] [] (by decide) rfl rfl)⟩
 rintro a w ⟨Sv1367, hs, hw⟩
 refine av hs rfl rfl fun a hs => ?_
 refine nl ?_
 have hsh := oi hsh
 subst hsh
 refine wp_ret ?_
 exact ret1 hs rfl (rv_tmp rfl) (hw.ret rfl)

end Go.Proofs.Ytljdiobhmenjgaa.Wk

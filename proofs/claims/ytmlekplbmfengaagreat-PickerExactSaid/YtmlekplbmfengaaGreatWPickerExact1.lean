/- The walks of PickerExact, part 1: each Go function computes what its plain program computes. Printed by a program of ours. -/
import Derived.Test.YtmlekplbmfengaaGreatProg
import Derived.Test.YtmlekplbmfengaaGreatDat
import Derived.Test.YtmlekplbmfengaaGreatSh
import Derived.Test.YtmlekplbmfengaaGreatLibL
import Derived.Test.YtmlekplbmfengaaGreatLibZ
import Derived.Test.YtmlekplbmfengaaGreatLibQ
import Derived.KernelRfl
import Derived.Test.YtmlekplbmfengaaGreatLibU
import Derived.Shelf.SlLaysF0
namespace Go.Proofs.YtmlekplbmfengaaGreat.Wk
open Go Go.RowKit Go.Proofs Go.Proofs.YtmlekplbmfengaaGreat.Sh
set_option linter.unusedVariables false
set_option linter.unusedSimpArgs false
theorem El22 : ElT Tryz.prog 22 3 1 8 (.int .i64 0) := ⟨Tryz.underlying22, ⟨Tryz.t3, info_of Tryz.type3, rfl, rfl, rfl⟩, rfl, by decide⟩
theorem El29 : ElT Tryz.prog 29 66 9 104 (.agg #[.string ByteArray.empty, .string ByteArray.empty, .string ByteArray.empty, .string ByteArray.empty, .int .i64 0, .int .i64 0, .int .i64 0, .int .i64 0, .int .i64 0]) := ⟨Tryz.underlying29, ⟨Tryz.t66, info_of Tryz.type66, rfl, rfl, rfl⟩, rfl, by decide⟩
theorem El30 : ElT Tryz.prog 30 36 6 64 (.agg #[.int .i64 0, .int .i64 0, .int .i64 0, .int .i64 0, .int .i64 0, .slice none ([] : List Int).length 0]) := ⟨Tryz.underlying30, ⟨Tryz.t36, info_of Tryz.type36, rfl, rfl, rfl⟩, rfl, by decide⟩
theorem El47 : ElT Tryz.prog 47 28 3 24 (.agg #[.int .i64 0, .int .i64 0, .int .i64 0]) := ⟨Tryz.underlying47, ⟨Tryz.t28, info_of Tryz.type28, rfl, rfl, rfl⟩, rfl, by decide⟩
theorem El51 : ElT Tryz.prog 51 26 7 56 (.agg #[.int .i64 0, .int .i64 0, .int .i64 0, .int .i64 0, .int .i64 0, .int .i64 0, .int .i64 0]) := ⟨Tryz.underlying51, ⟨Tryz.t26, info_of Tryz.type26, rfl, rfl, rfl⟩, rfl, by decide⟩
theorem El53 : ElT Tryz.prog 53 22 1 24 (.slice none ([] : List Int).length 0) := ⟨Tryz.underlying53, ⟨Tryz.t22, info_of Tryz.type22, rfl, rfl, rfl⟩, rfl, by decide⟩
theorem El56 : ElT Tryz.prog 56 30 1 24 (.slice none ([] : List Segment).length 0) := ⟨Tryz.underlying56, ⟨Tryz.t30, info_of Tryz.type30, rfl, rfl, rfl⟩, rfl, by decide⟩
theorem El57 : ElT Tryz.prog 57 41 4 64 (.agg #[.string ByteArray.empty, .string ByteArray.empty, .string ByteArray.empty, .string ByteArray.empty]) := ⟨Tryz.underlying57, ⟨Tryz.t41, info_of Tryz.type41, rfl, rfl, rfl⟩, rfl, by decide⟩
theorem El62 : ElT Tryz.prog 62 29 1 24 (.slice none ([] : List Pick).length 0) := ⟨Tryz.underlying62, ⟨Tryz.t29, info_of Tryz.type29, rfl, rfl, rfl⟩, rfl, by decide⟩
theorem El72 : ElT Tryz.prog 72 9 1 16 (.string ByteArray.empty) := ⟨Tryz.underlying72, ⟨Tryz.t9, info_of Tryz.type9, rfl, rfl, rfl⟩, rfl, by decide⟩
theorem Bld24 : BldT Tryz.prog 24 ((#[(0, 1), (1, 1), (2, 1), (3, 1)] : Array (Nat × Nat))[·]?) [.int .i64 0, .int .i64 0, .int .i64 0, .int .i64 0] := bld_of Tryz.zeroValue24 rfl Tryz.runUnderlying24 (fun w => by simp [Tryz.sizeOf3])
theorem Bld26 : BldT Tryz.prog 26 ((#[(0, 4), (4, 1), (5, 1), (6, 1)] : Array (Nat × Nat))[·]?) [.int .i64 0, .int .i64 0, .int .i64 0, .int .i64 0, .int .i64 0, .int .i64 0, .int .i64 0] := bld_of Tryz.zeroValue26 rfl Tryz.runUnderlying26 (fun w => by simp [Tryz.sizeOf3, Tryz.sizeOf24])
theorem Bld28 : BldT Tryz.prog 28 ((#[(0, 1), (1, 1), (2, 1)] : Array (Nat × Nat))[·]?) [.int .i64 0, .int .i64 0, .int .i64 0] := bld_of Tryz.zeroValue28 rfl Tryz.runUnderlying28 (fun w => by simp [Tryz.sizeOf3])
theorem Bld34 : BldT Tryz.prog 34 ((#[(0, 1), (1, 1)] : Array (Nat × Nat))[·]?) [.int .i64 0, .int .i64 0] := bld_of Tryz.zeroValue34 rfl Tryz.runUnderlying34 (fun w => by simp [Tryz.sizeOf3])
theorem Bld36 : BldT Tryz.prog 36 ((#[(0, 1), (1, 1), (2, 2), (4, 1), (5, 1)] : Array (Nat × Nat))[·]?) [.int .i64 0, .int .i64 0, .int .i64 0, .int .i64 0, .int .i64 0, .slice none ([] : List Int).length 0] := bld_of Tryz.zeroValue36 rfl Tryz.runUnderlying36 (fun w => by simp [Tryz.sizeOf3, Tryz.sizeOf22, Tryz.sizeOf34])
theorem Bld41 : BldT Tryz.prog 41 ((#[(0, 1), (1, 1), (2, 1), (3, 1)] : Array (Nat × Nat))[·]?) [.string ByteArray.empty, .string ByteArray.empty, .string ByteArray.empty, .string ByteArray.empty] := bld_of Tryz.zeroValue41 rfl Tryz.runUnderlying41 (fun w => by simp [Tryz.sizeOf9])
theorem Bld66 : BldT Tryz.prog 66 ((#[(0, 4), (4, 1), (5, 1), (6, 1), (7, 1), (8, 1)] : Array (Nat × Nat))[·]?) [.string ByteArray.empty, .string ByteArray.empty, .string ByteArray.empty, .string ByteArray.empty, .int .i64 0, .int .i64 0, .int .i64 0, .int .i64 0, .int .i64 0] := bld_of Tryz.zeroValue66 rfl Tryz.runUnderlying66 (fun w => by simp [Tryz.sizeOf3, Tryz.sizeOf41])
theorem Bld70 : BldT Tryz.prog 70 ((#[(0, 1), (1, 1)] : Array (Nat × Nat))[·]?) [.slice none ([] : List Int).length 0, .int .i64 0] := bld_of Tryz.zeroValue70 rfl Tryz.runUnderlying70 (fun w => by simp [Tryz.sizeOf3, Tryz.sizeOf22])
theorem Bld90 : BldT Tryz.prog 90 (fun i => some (i * 1, 1)) [.int .i64 0, .int .i64 0] := bld_arr Tryz.zeroValue90 rfl Tryz.runUnderlying90 Tryz.sizeOf3
theorem Bld91 : BldT Tryz.prog 91 (fun i => some (i * 2, 2)) [.int .i64 0, .int .i64 0, .int .i64 0, .int .i64 0, .int .i64 0, .int .i64 0, .int .i64 0, .int .i64 0, .int .i64 0, .int .i64 0] := bld_arr Tryz.zeroValue91 rfl Tryz.runUnderlying91 Tryz.sizeOf90
theorem Bld102 : BldT Tryz.prog 102 ((#[(0, 4), (4, 1), (5, 1), (6, 2), (8, 1), (9, 1), (10, 1), (11, 1)] : Array (Nat × Nat))[·]?) [.string ByteArray.empty, .string ByteArray.empty, .string ByteArray.empty, .string ByteArray.empty, .int .i64 0, .int .i64 0, .int .i64 0, .int .i64 0, .int .i64 0, .int .i64 0, .int .i64 0, .slice none ([] : List Int).length 0] := bld_of Tryz.zeroValue102 rfl Tryz.runUnderlying102 (fun w => by simp [Tryz.sizeOf3, Tryz.sizeOf22, Tryz.sizeOf34, Tryz.sizeOf41])
theorem Bld105 : BldT Tryz.prog 105 ((#[(0, 4), (4, 1), (5, 1), (6, 3)] : Array (Nat × Nat))[·]?) [.int .i64 0, .int .i64 0, .int .i64 0, .int .i64 0, .slice none ([] : List Int).length 0, .int .i64 0, .int .i64 0, .int .i64 0, .int .i64 0] := bld_of Tryz.zeroValue105 rfl Tryz.runUnderlying105 (fun w => by simp [Tryz.sizeOf3, Tryz.sizeOf22, Tryz.sizeOf24, Tryz.sizeOf28])
theorem Bld112 : BldT Tryz.prog 112 ((#[(0, 9), (9, 1), (10, 1), (11, 1)] : Array (Nat × Nat))[·]?) [.int .i64 0, .int .i64 0, .int .i64 0, .int .i64 0, .slice none ([] : List Int).length 0, .int .i64 0, .int .i64 0, .int .i64 0, .int .i64 0, .int .i64 0, .int .i64 0, .slice none ([] : List Trigger).length 0] := bld_of Tryz.zeroValue112 rfl Tryz.runUnderlying112 (fun w => by simp [Tryz.sizeOf3, Tryz.sizeOf47, Tryz.sizeOf105])
theorem Bld118 : BldT Tryz.prog 118 (fun i => some (i * 1, 1)) [.int .i64 0, .int .i64 0, .int .i64 0, .int .i64 0] := bld_arr Tryz.zeroValue118 rfl Tryz.runUnderlying118 Tryz.sizeOf3
abbrev made_Light_rd (w0 : World) (X : List Nat) (r : Bool) : (Nat → Prop) → World → Value → Prop := fun S w v => v = .bool r
set_option maxHeartbeats 4000000 in
set_option maxRecDepth 100000 in
theorem made_Light_ok {w0 : World} {S0 : Nat → Prop} {p2 : Option Addr} {k3 : Nat} {l1 : (List Int)} {r : Bool} (hsh : made_Light l1 = some r) (hS : ∀ b, S0 b → b < w0.heap.size) (h4 : (SlA p2 l1.length k3 l1).p S0 w0) : Calls Tryz.prog 4 #[.slice p2 l1.length k3] w0 (Ret ([]) w0 S0 (made_Light_rd w0 ([]) r)) := by
 refine calls_of_wp Tryz.func4 rfl ?_
 have hs := Sl.enter #[.slice p2 l1.length k3] 6 [(0, .slice p2 l1.length k3)] rfl ⟨rfl, trivial⟩
 have hw := Wd.enter (E := []) hS (fun _ h => (by cases h))
 have hw := hw.addE h4
 delta made_Light at hsh
 refine sr ?_
 refine av hs rfl rfl fun a hs => ?_
 refine nl ?_
 refine sr ?_
 refine mv hs rfl rfl fun a hs => ?_
 refine sv hs (y_len Tryz.runUnderlying22 rfl) rfl fun a hs => ?_
 refine sv hs (y_leq rfl rfl) rfl fun a hs => ?_
 refine av hs rfl rfl fun a hs => ?_
 refine nl ?_
 have hsh := oi hsh
 subst hsh
 refine wp_ret ?_
 exact ret1 hs rfl (rv_tmp rfl) (hw.ret rfl)
abbrev detector_Valid_rd (w0 : World) (X : List Nat) (r : Bool) : (Nat → Prop) → World → Value → Prop := fun S w v => v = .bool r
set_option maxHeartbeats 4000000 in
set_option maxRecDepth 100000 in
theorem detector_Valid_ok {w0 : World} {S0 : Nat → Prop} {d1 : Detector} {r : Bool} (hsh : detector_Valid d1 = some r) (hS : ∀ b, S0 b → b < w0.heap.size) : Calls Tryz.prog 35 #[.agg #[.int .i64 d1.Short, .int .i64 d1.Long, .int .i64 d1.On, .int .i64 d1.Off]] w0 (Ret ([]) w0 S0 (detector_Valid_rd w0 ([]) r)) := by
 refine calls_of_wp Tryz.func35 rfl ?_
 have hs := Sl.enter #[.agg #[.int .i64 d1.Short, .int .i64 d1.Long, .int .i64 d1.On, .int .i64 d1.Off]] 35 [(0, .agg #[.int .i64 d1.Short, .int .i64 d1.Long, .int .i64 d1.On, .int .i64 d1.Off])] rfl ⟨rfl, trivial⟩
 have hw := Wd.enter (E := []) hS (fun _ h => (by cases h))
 delta detector_Valid at hsh
 refine sr ?_
 refine w_box (cs := [.int .i64 d1.Short, .int .i64 d1.Long, .int .i64 d1.On, .int .i64 d1.Off]) hs hw rfl rfl rfl trivial ?_
 intro b2 a w hs hw
 refine av hs rfl rfl fun a hs => ?_
 refine nl ?_
 refine sr ?_
 refine sv hs (y_fieldAddr (o' := 0) Tryz.runUnderlying24 rfl Tryz.sizeOf3 rfl rfl rfl) rfl fun a hs => ?_
 refine sv hs (y_loadB1 (hw.ownAt 0 rfl) rfl Tryz.isAgg3 rfl) rfl fun a hs => ?_
 refine sv hs (y_geq rfl rfl) rfl fun a hs => ?_
 refine mv hs rfl rfl fun a hs => ?_
 refine wpl_join 6 (fun a w1 => w = w1 ∧ Sl 35 [(1, .pointer (some ⟨b2, 0, none⟩)), (12, .bool ((decide (1 ≤ d1.Short)) && (decide (d1.Short < d1.Long))))] a) ?_ ?_
 ·rcases Bool.eq_false_or_eq_true (decide (1 ≤ d1.Short)) with h3 | h3
  ·have hs := hs.fix 6 (.bool true) rfl (vb h3)
   refine st_val hs (y_fieldAddr (o' := 0) Tryz.runUnderlying24 rfl Tryz.sizeOf3 rfl rfl rfl) ⟨_, rfl, rfl⟩ rfl rfl fun a hs => ?_
   refine st_val hs (y_loadB1 (hw.ownAt 0 rfl) rfl Tryz.isAgg3 rfl) ⟨_, rfl, rfl⟩ rfl rfl fun a hs => ?_
   refine st_val hs (y_fieldAddr (o' := 1) Tryz.runUnderlying24 rfl Tryz.sizeOf3 rfl rfl rfl) ⟨_, rfl, rfl⟩ rfl rfl fun a hs => ?_
   refine st_val hs (y_loadB1 (hw.ownAt 0 rfl) rfl Tryz.isAgg3 rfl) ⟨_, rfl, rfl⟩ rfl rfl fun a hs => ?_
   refine st_val hs (y_lss rfl rfl) ⟨_, rfl, rfl⟩ rfl rfl fun a hs => ?_
   refine sv hs (y_pickT rfl rfl) rfl fun a hs => ?_
   refine nl ?_
   exact ⟨rfl, (hs.fix 12 (.bool ((decide (1 ≤ d1.Short)) && (decide (d1.Short < d1.Long)))) rfl (and_t h3)).weaken _ ⟨rfl, rfl, trivial⟩⟩
  have hs := hs.fix 6 (.bool false) rfl (vb h3)
  refine st_skip hs rfl rfl rfl rfl rfl fun a hs => ?_
  refine st_skip hs rfl rfl rfl rfl rfl fun a hs => ?_
  refine st_skip hs rfl rfl rfl rfl rfl fun a hs => ?_
  refine st_skip hs rfl rfl rfl rfl rfl fun a hs => ?_
  refine st_skip hs rfl rfl rfl rfl rfl fun a hs => ?_
  refine sv hs (y_pickF rfl rfl) rfl fun a hs => ?_
  refine nl ?_
  exact ⟨rfl, (hs.fix 12 (.bool ((decide (1 ≤ d1.Short)) && (decide (d1.Short < d1.Long)))) rfl (and_f h3)).weaken _ ⟨rfl, rfl, trivial⟩⟩
 rintro a w1 ⟨h12, hs⟩
 subst h12
 refine mv hs rfl rfl fun a hs => ?_
 refine wpl_join 4 (fun a w1 => w = w1 ∧ Sl 35 [(1, .pointer (some ⟨b2, 0, none⟩)), (17, .bool (((decide (1 ≤ d1.Short)) && (decide (d1.Short < d1.Long))) && (decide (d1.Long ≤ 512))))] a) ?_ ?_
 ·rcases Bool.eq_false_or_eq_true ((decide (1 ≤ d1.Short)) && (decide (d1.Short < d1.Long))) with h4 | h4
  ·have hs := hs.fix 13 (.bool true) rfl (vb h4)
   refine st_val hs (y_fieldAddr (o' := 1) Tryz.runUnderlying24 rfl Tryz.sizeOf3 rfl rfl rfl) ⟨_, rfl, rfl⟩ rfl rfl fun a hs => ?_
   refine st_val hs (y_loadB1 (hw.ownAt 0 rfl) rfl Tryz.isAgg3 rfl) ⟨_, rfl, rfl⟩ rfl rfl fun a hs => ?_
   refine st_val hs (y_leq rfl rfl) ⟨_, rfl, rfl⟩ rfl rfl fun a hs => ?_
   refine sv hs (y_pickT rfl rfl) rfl fun a hs => ?_
   refine nl ?_
   exact ⟨rfl, (hs.fix 17 (.bool (((decide (1 ≤ d1.Short)) && (decide (d1.Short < d1.Long))) && (decide (d1.Long ≤ 512)))) rfl (and_t h4)).weaken _ ⟨rfl, rfl, trivial⟩⟩
  have hs := hs.fix 13 (.bool false) rfl (vb h4)
  refine st_skip hs rfl rfl rfl rfl rfl fun a hs => ?_
  refine st_skip hs rfl rfl rfl rfl rfl fun a hs => ?_
  refine st_skip hs rfl rfl rfl rfl rfl fun a hs => ?_
  refine sv hs (y_pickF rfl rfl) rfl fun a hs => ?_
  refine nl ?_
  exact ⟨rfl, (hs.fix 17 (.bool (((decide (1 ≤ d1.Short)) && (decide (d1.Short < d1.Long))) && (decide (d1.Long ≤ 512)))) rfl (and_f h4)).weaken _ ⟨rfl, rfl, trivial⟩⟩
 rintro a w1 ⟨h11, hs⟩
 subst h11
 refine mv hs rfl rfl fun a hs => ?_
 refine wpl_join 4 (fun a w1 => w = w1 ∧ Sl 35 [(1, .pointer (some ⟨b2, 0, none⟩)), (22, .bool ((((decide (1 ≤ d1.Short)) && (decide (d1.Short < d1.Long))) && (decide (d1.Long ≤ 512))) && (decide (1 ≤ d1.Off))))] a) ?_ ?_
 ·rcases Bool.eq_false_or_eq_true (((decide (1 ≤ d1.Short)) && (decide (d1.Short < d1.Long))) && (decide (d1.Long ≤ 512))) with h5 | h5
  ·have hs := hs.fix 18 (.bool true) rfl (vb h5)
   refine st_val hs (y_fieldAddr (o' := 3) Tryz.runUnderlying24 rfl Tryz.sizeOf3 rfl rfl rfl) ⟨_, rfl, rfl⟩ rfl rfl fun a hs => ?_
   refine st_val hs (y_loadB1 (hw.ownAt 0 rfl) rfl Tryz.isAgg3 rfl) ⟨_, rfl, rfl⟩ rfl rfl fun a hs => ?_
   refine st_val hs (y_geq rfl rfl) ⟨_, rfl, rfl⟩ rfl rfl fun a hs => ?_
   refine sv hs (y_pickT rfl rfl) rfl fun a hs => ?_
   refine nl ?_
   exact ⟨rfl, (hs.fix 22 (.bool ((((decide (1 ≤ d1.Short)) && (decide (d1.Short < d1.Long))) && (decide (d1.Long ≤ 512))) && (decide (1 ≤ d1.Off)))) rfl (and_t h5)).weaken _ ⟨rfl, rfl, trivial⟩⟩
  have hs := hs.fix 18 (.bool false) rfl (vb h5)
  refine st_skip hs rfl rfl rfl rfl rfl fun a hs => ?_
  refine st_skip hs rfl rfl rfl rfl rfl fun a hs => ?_
  refine st_skip hs rfl rfl rfl rfl rfl fun a hs => ?_
  refine sv hs (y_pickF rfl rfl) rfl fun a hs => ?_
  refine nl ?_
  exact ⟨rfl, (hs.fix 22 (.bool ((((decide (1 ≤ d1.Short)) && (decide (d1.Short < d1.Long))) && (decide (d1.Long ≤ 512))) && (decide (1 ≤ d1.Off)))) rfl (and_f h5)).weaken _ ⟨rfl, rfl, trivial⟩⟩
 rintro a w1 ⟨h10, hs⟩
 subst h10
 refine mv hs rfl rfl fun a hs => ?_
 refine wpl_join 6 (fun a w1 => w = w1 ∧ Sl 35 [(1, .pointer (some ⟨b2, 0, none⟩)), (29, .bool (((((decide (1 ≤ d1.Short)) && (decide (d1.Short < d1.Long))) && (decide (d1.Long ≤ 512))) && (decide (1 ≤ d1.Off))) && (decide (d1.Off ≤ d1.On))))] a) ?_ ?_
 ·rcases Bool.eq_false_or_eq_true ((((decide (1 ≤ d1.Short)) && (decide (d1.Short < d1.Long))) && (decide (d1.Long ≤ 512))) && (decide (1 ≤ d1.Off))) with h6 | h6
  ·have hs := hs.fix 23 (.bool true) rfl (vb h6)
   refine st_val hs (y_fieldAddr (o' := 3) Tryz.runUnderlying24 rfl Tryz.sizeOf3 rfl rfl rfl) ⟨_, rfl, rfl⟩ rfl rfl fun a hs => ?_
   refine st_val hs (y_loadB1 (hw.ownAt 0 rfl) rfl Tryz.isAgg3 rfl) ⟨_, rfl, rfl⟩ rfl rfl fun a hs => ?_
   refine st_val hs (y_fieldAddr (o' := 2) Tryz.runUnderlying24 rfl Tryz.sizeOf3 rfl rfl rfl) ⟨_, rfl, rfl⟩ rfl rfl fun a hs => ?_
   refine st_val hs (y_loadB1 (hw.ownAt 0 rfl) rfl Tryz.isAgg3 rfl) ⟨_, rfl, rfl⟩ rfl rfl fun a hs => ?_
   refine st_val hs (y_leq rfl rfl) ⟨_, rfl, rfl⟩ rfl rfl fun a hs => ?_
   refine sv hs (y_pickT rfl rfl) rfl fun a hs => ?_
   refine nl ?_
   exact ⟨rfl, (hs.fix 29 (.bool (((((decide (1 ≤ d1.Short)) && (decide (d1.Short < d1.Long))) && (decide (d1.Long ≤ 512))) && (decide (1 ≤ d1.Off))) && (decide (d1.Off ≤ d1.On)))) rfl (and_t h6)).weaken _ ⟨rfl, rfl, trivial⟩⟩
  have hs := hs.fix 23 (.bool false) rfl (vb h6)
  refine st_skip hs rfl rfl rfl rfl rfl fun a hs => ?_
  refine st_skip hs rfl rfl rfl rfl rfl fun a hs => ?_
  refine st_skip hs rfl rfl rfl rfl rfl fun a hs => ?_
  refine st_skip hs rfl rfl rfl rfl rfl fun a hs => ?_
  refine st_skip hs rfl rfl rfl rfl rfl fun a hs => ?_
  refine sv hs (y_pickF rfl rfl) rfl fun a hs => ?_
  refine nl ?_
  exact ⟨rfl, (hs.fix 29 (.bool (((((decide (1 ≤ d1.Short)) && (decide (d1.Short < d1.Long))) && (decide (d1.Long ≤ 512))) && (decide (1 ≤ d1.Off))) && (decide (d1.Off ≤ d1.On)))) rfl (and_f h6)).weaken _ ⟨rfl, rfl, trivial⟩⟩
 rintro a w1 ⟨h9, hs⟩
 subst h9
 refine mv hs rfl rfl fun a hs => ?_
 refine wpl_join 4 (fun a w1 => w = w1 ∧ Sl 35 [(34, .bool ((((((decide (1 ≤ d1.Short)) && (decide (d1.Short < d1.Long))) && (decide (d1.Long ≤ 512))) && (decide (1 ≤ d1.Off))) && (decide (d1.Off ≤ d1.On))) && (decide (d1.On ≤ 10000))))] a) ?_ ?_
 ·rcases Bool.eq_false_or_eq_true (((((decide (1 ≤ d1.Short)) && (decide (d1.Short < d1.Long))) && (decide (d1.Long ≤ 512))) && (decide (1 ≤ d1.Off))) && (decide (d1.Off ≤ d1.On))) with h7 | h7
  ·have hs := hs.fix 30 (.bool true) rfl (vb h7)
   refine st_val hs (y_fieldAddr (o' := 2) Tryz.runUnderlying24 rfl Tryz.sizeOf3 rfl rfl rfl) ⟨_, rfl, rfl⟩ rfl rfl fun a hs => ?_
   refine st_val hs (y_loadB1 (hw.ownAt 0 rfl) rfl Tryz.isAgg3 rfl) ⟨_, rfl, rfl⟩ rfl rfl fun a hs => ?_
   refine st_val hs (y_leq rfl rfl) ⟨_, rfl, rfl⟩ rfl rfl fun a hs => ?_
   refine sv hs (y_pickT rfl rfl) rfl fun a hs => ?_
   refine nl ?_
   exact ⟨rfl, (hs.fix 34 (.bool ((((((decide (1 ≤ d1.Short)) && (decide (d1.Short < d1.Long))) && (decide (d1.Long ≤ 512))) && (decide (1 ≤ d1.Off))) && (decide (d1.Off ≤ d1.On))) && (decide (d1.On ≤ 10000)))) rfl (and_t h7)).weaken _ ⟨rfl, trivial⟩⟩
  have hs := hs.fix 30 (.bool false) rfl (vb h7)
  refine st_skip hs rfl rfl rfl rfl rfl fun a hs => ?_
  refine st_skip hs rfl rfl rfl rfl rfl fun a hs => ?_
  refine st_skip hs rfl rfl rfl rfl rfl fun a hs => ?_
  refine sv hs (y_pickF rfl rfl) rfl fun a hs => ?_
  refine nl ?_
  exact ⟨rfl, (hs.fix 34 (.bool ((((((decide (1 ≤ d1.Short)) && (decide (d1.Short < d1.Long))) && (decide (d1.Long ≤ 512))) && (decide (1 ≤ d1.Off))) && (decide (d1.Off ≤ d1.On))) && (decide (d1.On ≤ 10000)))) rfl (and_f h7)).weaken _ ⟨rfl, trivial⟩⟩
 rintro a w1 ⟨h8, hs⟩
 subst h8
 refine av hs rfl rfl fun a hs => ?_
 refine nl ?_
 have hsh := oi hsh
 subst hsh
 refine wp_ret ?_
 exact ret1 hs rfl (rv_tmp rfl) (hw.ret rfl)
abbrev picker_in_rd (w0 : World) (X : List Nat) (r : Bool) : (Nat → Prop) → World → Value → Prop := fun S w v => v = .bool r
set_option maxHeartbeats 4000000 in
set_option maxRecDepth 100000 in
theorem picker_in_ok {w0 : World} {S0 : Nat → Prop} {n1 : Int} {low2 : Int} {high3 : Int} {r : Bool} (hsh : picker_in n1 low2 high3 = some r) (hS : ∀ b, S0 b → b < w0.heap.size) : Calls Tryz.prog 36 #[.int .i64 n1, .int .i64 low2, .int .i64 high3] w0 (Ret ([]) w0 S0 (picker_in_rd w0 ([]) r)) := by
 refine calls_of_wp Tryz.func36 rfl ?_
 have hs := Sl.enter #[.int .i64 n1, .int .i64 low2, .int .i64 high3] 15 [(0, .int .i64 n1), (1, .int .i64 low2), (2, .int .i64 high3)] rfl ⟨rfl, rfl, rfl, trivial⟩
 have hw := Wd.enter (E := []) hS (fun _ h => (by cases h))
 delta picker_in at hsh
 refine sr ?_
 refine av hs rfl rfl fun a hs => ?_
 refine nl ?_
 refine sr ?_
 refine mv hs rfl rfl fun a hs => ?_
 refine mv hs rfl rfl fun a hs => ?_
 refine sv hs (y_geq rfl rfl) rfl fun a hs => ?_
 refine mv hs rfl rfl fun a hs => ?_
 refine wpl_join 4 (fun a w1 => w0 = w1 ∧ Sl 15 [(14, .bool ((decide (low2 ≤ n1)) && (decide (n1 ≤ high3))))] a) ?_ ?_
 ·rcases Bool.eq_false_or_eq_true (decide (low2 ≤ n1)) with h4 | h4
  ·have hs := hs.fix 10 (.bool true) rfl (vb h4)
   refine st_val hs (y_move rfl) ⟨_, rfl, rfl⟩ rfl rfl fun a hs => ?_
   refine st_val hs (y_move rfl) ⟨_, rfl, rfl⟩ rfl rfl fun a hs => ?_
   refine st_val hs (y_leq rfl rfl) ⟨_, rfl, rfl⟩ rfl rfl fun a hs => ?_
   refine sv hs (y_pickT rfl rfl) rfl fun a hs => ?_
   refine nl ?_
   exact ⟨rfl, (hs.fix 14 (.bool ((decide (low2 ≤ n1)) && (decide (n1 ≤ high3)))) rfl (and_t h4)).weaken _ ⟨rfl, trivial⟩⟩
  have hs := hs.fix 10 (.bool false) rfl (vb h4)
  refine st_skip hs rfl rfl rfl rfl rfl fun a hs => ?_
  refine st_skip hs rfl rfl rfl rfl rfl fun a hs => ?_
  refine st_skip hs rfl rfl rfl rfl rfl fun a hs => ?_
  refine sv hs (y_pickF rfl rfl) rfl fun a hs => ?_
  refine nl ?_
  exact ⟨rfl, (hs.fix 14 (.bool ((decide (low2 ≤ n1)) && (decide (n1 ≤ high3)))) rfl (and_f h4)).weaken _ ⟨rfl, trivial⟩⟩
 rintro a w1 ⟨h5, hs⟩
 subst h5
 refine av hs rfl rfl fun a hs => ?_
 refine nl ?_
 have hsh := oi hsh
 subst hsh
 refine wp_ret ?_
 exact ret1 hs rfl (rv_tmp rfl) (hw.ret rfl)
abbrev picker_Valid_rd (w0 : World) (X : List Nat) (r : Bool) : (Nat → Prop) → World → Value → Prop := fun S w v => v = .bool r
set_option maxHeartbeats 4000000 in
set_option maxRecDepth 100000 in
theorem picker_Valid_ok {w0 : World} {S0 : Nat → Prop} {p1 : Picking} {r : Bool} (hsh : picker_Valid p1 = some r) (hS : ∀ b, S0 b → b < w0.heap.size) : Calls Tryz.prog 14 #[.agg #[.int .i64 p1.Detector.Short, .int .i64 p1.Detector.Long, .int .i64 p1.Detector.On, .int .i64 p1.Detector.Off, .int .i64 p1.Back, .int .i64 p1.Level, .int .i64 p1.Floor]] w0 (Ret ([]) w0 S0 (picker_Valid_rd w0 ([]) r)) := by
 refine calls_of_wp Tryz.func14 rfl ?_
 have hs := Sl.enter #[.agg #[.int .i64 p1.Detector.Short, .int .i64 p1.Detector.Long, .int .i64 p1.Detector.On, .int .i64 p1.Detector.Off, .int .i64 p1.Back, .int .i64 p1.Level, .int .i64 p1.Floor]] 21 [(0, .agg #[.int .i64 p1.Detector.Short, .int .i64 p1.Detector.Long, .int .i64 p1.Detector.On, .int .i64 p1.Detector.Off, .int .i64 p1.Back, .int .i64 p1.Level, .int .i64 p1.Floor])] rfl ⟨rfl, trivial⟩
 have hw := Wd.enter (E := []) hS (fun _ h => (by cases h))
 delta picker_Valid at hsh
 refine sr ?_
 refine w_box (cs := [.int .i64 p1.Detector.Short, .int .i64 p1.Detector.Long, .int .i64 p1.Detector.On, .int .i64 p1.Detector.Off, .int .i64 p1.Back, .int .i64 p1.Level, .int .i64 p1.Floor]) hs hw rfl rfl rfl trivial ?_
 intro b2 a w hs hw
 refine av hs rfl rfl fun a hs => ?_
 refine nl ?_
 refine sr ?_
 refine sv hs (y_fieldAddr (o' := 0) Tryz.runUnderlying26 rfl Tryz.sizeOf24 rfl rfl rfl) rfl fun a hs => ?_
 refine sv hs (y_loadBA (hw.ownAt 0 rfl) rfl Tryz.isAgg24 Tryz.sizeOf24 rfl rfl) rfl fun a hs => ?_
 obtain ⟨rv4, h3, hsh⟩ := bind_t hsh
 refine st_callR hs (detector_Valid_ok h3 hw.bdom) (do_call Tryz.call35 rfl) trivial rfl rfl ?_
 intro v8 Sv5 w a h6 h7 hs
 subst h7
 have hw := hw.callB h6
 refine mv hs rfl rfl fun a hs => ?_
 obtain ⟨c18, hc18, hsh⟩ := bind_t hsh
 refine wpl_join 4 (fun a w => ∃ (Sv19 : Nat → Prop), Sl 21 [(1, .pointer (some ⟨b2, 0, none⟩)), (10, .bool c18)] a ∧ Wd ⟨w0, S0, []⟩ Sv19 [.box b2 [.int .i64 p1.Detector.Short, .int .i64 p1.Detector.Long, .int .i64 p1.Detector.On, .int .i64 p1.Detector.Off, .int .i64 p1.Back, .int .i64 p1.Level, .int .i64 p1.Floor] 26] [] w) ?_ ?_
 ·rcases Bool.eq_false_or_eq_true rv4 with h17 | h17
  ·have hs := hs.fix 6 (.bool true) rfl (vb h17)
   have hsh := ite_t hc18 h17
   refine st_val hs (y_fieldAddr (o' := 4) Tryz.runUnderlying26 rfl Tryz.sizeOf3 rfl rfl rfl) ⟨_, rfl, rfl⟩ rfl rfl fun a hs => ?_
   refine st_val hs (y_loadB1 (hw.ownAt 0 rfl) rfl Tryz.isAgg3 rfl) ⟨_, rfl, rfl⟩ rfl rfl fun a hs => ?_
   obtain ⟨rv21, h20, hsh⟩ := bind_t hsh
   refine st_callR hs (picker_in_ok h20 hw.bdom) (do_call Tryz.call36 rfl) ⟨_, rfl, rfl⟩ rfl rfl ?_
   intro v25 Sv22 w a h23 h24 hs
   subst h24
   have hw := hw.callB h23
   refine sv hs (y_pickT rfl rfl) rfl fun a hs => ?_
   refine wpList_nil ?_
   have hsh := oi hsh
   subst hsh
   refine then_normal ?_
   exact ⟨S0, (hs.wk rfl), (hw.ft [0] [] (by decide) rfl rfl)⟩
  have hs := hs.fix 6 (.bool false) rfl (vb h17)
  have hsh := ite_f hc18 h17
  refine st_skip hs rfl rfl rfl rfl rfl fun a hs => ?_
  refine st_skip hs rfl rfl rfl rfl rfl fun a hs => ?_
  refine st_skip hs rfl rfl rfl rfl rfl fun a hs => ?_
  refine sv hs (y_pickF rfl rfl) rfl fun a hs => ?_
  refine wpList_nil ?_
  have hsh := oi hsh
  subst hsh
  refine then_normal ?_
  exact ⟨S0, (hs.wk rfl), (hw.ft [0] [] (by decide) rfl rfl)⟩
 rintro a w ⟨Sv19, hs, hw⟩
 refine mv hs rfl rfl fun a hs => ?_
 obtain ⟨c35, hc35, hsh⟩ := bind_t hsh
 refine wpl_join 4 (fun a w => ∃ (Sv36 : Nat → Prop), Sl 21 [(1, .pointer (some ⟨b2, 0, none⟩)), (15, .bool c35)] a ∧ Wd ⟨w0, S0, []⟩ Sv36 [.box b2 [.int .i64 p1.Detector.Short, .int .i64 p1.Detector.Long, .int .i64 p1.Detector.On, .int .i64 p1.Detector.Off, .int .i64 p1.Back, .int .i64 p1.Level, .int .i64 p1.Floor] 26] [] w) ?_ ?_
 ·rcases Bool.eq_false_or_eq_true c18 with h34 | h34
  ·have hs := hs.fix 11 (.bool true) rfl (vb h34)
   have hsh := ite_t hc35 h34
   refine st_val hs (y_fieldAddr (o' := 5) Tryz.runUnderlying26 rfl Tryz.sizeOf3 rfl rfl rfl) ⟨_, rfl, rfl⟩ rfl rfl fun a hs => ?_
   refine st_val hs (y_loadB1 (hw.ownAt 0 rfl) rfl Tryz.isAgg3 rfl) ⟨_, rfl, rfl⟩ rfl rfl fun a hs => ?_
   obtain ⟨rv38, h37, hsh⟩ := bind_t hsh
   refine st_callR hs (picker_in_ok h37 hw.bdom) (do_call Tryz.call36 rfl) ⟨_, rfl, rfl⟩ rfl rfl ?_
   intro v42 Sv39 w a h40 h41 hs
   subst h41
   have hw := hw.callB h40
   refine sv hs (y_pickT rfl rfl) rfl fun a hs => ?_
   refine wpList_nil ?_
   have hsh := oi hsh
   subst hsh
   refine then_normal ?_
   exact ⟨Sv19, (hs.wk rfl), (hw.ft [0] [] (by decide) rfl rfl)⟩
  have hs := hs.fix 11 (.bool false) rfl (vb h34)
  have hsh := ite_f hc35 h34
  refine st_skip hs rfl rfl rfl rfl rfl fun a hs => ?_
  refine st_skip hs rfl rfl rfl rfl rfl fun a hs => ?_
  refine st_skip hs rfl rfl rfl rfl rfl fun a hs => ?_
  refine sv hs (y_pickF rfl rfl) rfl fun a hs => ?_
  refine wpList_nil ?_
  have hsh := oi hsh
  subst hsh
  refine then_normal ?_
  exact ⟨Sv19, (hs.wk rfl), (hw.ft [0] [] (by decide) rfl rfl)⟩
 rintro a w ⟨Sv36, hs, hw⟩
 refine mv hs rfl rfl fun a hs => ?_
 obtain ⟨c52, hc52, hsh⟩ := bind_t hsh
 refine wpl_join 4 (fun a w => ∃ (Sv53 : Nat → Prop), Sl 21 [(20, .bool c52)] a ∧ Wd ⟨w0, S0, []⟩ Sv53 [] [] w) ?_ ?_
 ·rcases Bool.eq_false_or_eq_true c35 with h51 | h51
  ·have hs := hs.fix 16 (.bool true) rfl (vb h51)
   have hsh := ite_t hc52 h51
   refine st_val hs (y_fieldAddr (o' := 6) Tryz.runUnderlying26 rfl Tryz.sizeOf3 rfl rfl rfl) ⟨_, rfl, rfl⟩ rfl rfl fun a hs => ?_
   refine st_val hs (y_loadB1 (hw.ownAt 0 rfl) rfl Tryz.isAgg3 rfl) ⟨_, rfl, rfl⟩ rfl rfl fun a hs => ?_
   obtain ⟨rv55, h54, hsh⟩ := bind_t hsh
   refine st_callR hs (picker_in_ok h54 hw.bdom) (do_call Tryz.call36 rfl) ⟨_, rfl, rfl⟩ rfl rfl ?_
   intro v59 Sv56 w a h57 h58 hs
   subst h58
   have hw := hw.callB h57
   refine sv hs (y_pickT rfl rfl) rfl fun a hs => ?_
   refine wpList_nil ?_
   have hsh := oi hsh
   subst hsh
   refine then_normal ?_
   exact ⟨Sv36, (hs.wk rfl), (hw.ft [] [] (by decide) rfl rfl)⟩
  have hs := hs.fix 16 (.bool false) rfl (vb h51)
  have hsh := ite_f hc52 h51
  refine st_skip hs rfl rfl rfl rfl rfl fun a hs => ?_
  refine st_skip hs rfl rfl rfl rfl rfl fun a hs => ?_
  refine st_skip hs rfl rfl rfl rfl rfl fun a hs => ?_
  refine sv hs (y_pickF rfl rfl) rfl fun a hs => ?_
  refine wpList_nil ?_
  have hsh := oi hsh
  subst hsh
  refine then_normal ?_
  exact ⟨Sv36, (hs.wk rfl), (hw.ft [] [] (by decide) rfl rfl)⟩
 rintro a w ⟨Sv53, hs, hw⟩
 refine av hs rfl rfl fun a hs => ?_
 refine nl ?_
 have hsh := oi hsh
 subst hsh
 refine wp_ret ?_
 exact ret1 hs rfl (rv_tmp rfl) (hw.ret rfl)
abbrev slices_IndexFunc_Lint_int_rd (w0 : World) (X : List Nat) (r : Int) : (Nat → Prop) → World → Value → Prop := fun S w v => v = .int .i64 r
set_option maxHeartbeats 4000000 in
set_option maxRecDepth 100000 in
theorem slices_IndexFunc_Lint_int_ok {w0 : World} {S0 : Nat → Prop} {p2 : Option Addr} {k3 : Nat} {g6 : Nat} {f7 : List Value} {cp8 : List Value} {s1 : (List Int)} {f5 : Int → Option Bool} {r : Int} (hsh : slices_IndexFunc_Lint_int s1 f5 = some r) (hS : ∀ b, S0 b → b < w0.heap.size) (h4 : (SlA p2 s1.length k3 s1).p S0 w0) (h9 : (FnA1 Tryz.prog g6 f7 cp8 f5).p S0 w0) : Calls Tryz.prog 82 #[.slice p2 s1.length k3, .func (.func g6) f7.toArray cp8.toArray] w0 (Ret ([]) w0 S0 (slices_IndexFunc_Lint_int_rd w0 ([]) r)) := by
 refine calls_of_wp Tryz.func82 rfl ?_
 have hs := Sl.enter #[.slice p2 s1.length k3, .func (.func g6) f7.toArray cp8.toArray] 19 [(0, .slice p2 s1.length k3), (1, .func (.func g6) f7.toArray cp8.toArray)] rfl ⟨rfl, rfl, trivial⟩
 have hw := Wd.enter (E := []) hS (fun _ h => (by cases h))
 have hw := hw.addE h4
 have hw := hw.addE h9
 delta slices_IndexFunc_Lint_int at hsh
 refine sr ?_
 refine av hs rfl rfl fun a hs => ?_
 refine nl ?_
 refine wp_seq ?_
 refine sr ?_
 refine mv hs rfl rfl fun a hs => ?_
 refine sv hs (y_len Tryz.runUnderlying22 rfl) rfl fun a hs => ?_
 refine mv hs rfl rfl fun a hs => ?_
 refine nl ?_
 refine wp_block ?_
 refine wp_while (fun sv78 a w => ∃ (Sv122 : Nat → Prop), Sl 19 [(0, .slice p2 s1.length k3), (1, .func (.func g6) f7.toArray cp8.toArray), (7, .int .i64 (s1.length : Int)), (8, .int .i64 sv78)] a ∧ Wd ⟨w0, S0, []⟩ Sv122 [] [SlA p2 s1.length k3 s1, FnA1 Tryz.prog g6 f7 cp8 f5] w) 0 hsh ⟨S0, (hs.wk rfl), (hw.ft [] [1, 0] (by decide) rfl rfl)⟩ ?_
 repeat clear hsh
 rintro sv78 a w tv145 ⟨Sv122, hs, hw⟩ hsh hd144
 delta slices_IndexFunc_Lint_int_l2 at hsh
 refine sr ?_
 refine sv hs (y_lss rfl rfl) rfl fun a hs => ?_
 refine nl ?_
 refine wp_seq ?_
 refine wp_cond_split (hs.ev rfl) (fun h149 => ?_) (fun h149 => ?_)
 ·have hsh := ite_t hsh h149
  refine wp_skip ?_
  refine then_normal ?_
  refine wp_seq ?_
  refine wp_block ?_
  refine sr ?_
  refine mv hs rfl rfl fun a hs => ?_
  refine av hs rfl rfl fun a hs => ?_
  refine nl ?_
  refine sr ?_
  refine mv hs rfl rfl fun a hs => ?_
  refine mv hs rfl rfl fun a hs => ?_
  refine mv hs rfl rfl fun a hs => ?_
  obtain ⟨x172, h170, hsh⟩ := bind_t hsh
  obtain ⟨b178, o179, q176, c177, h180, h173, h174, h175, h171⟩ := hw.elemV 0 rfl h170
  have hsv181 := hs
  have hwv182 := hw
  subst h180
  have hs := hsv181
  have hw := hwv182
  obtain ⟨_, rfl, rfl⟩ := h171
  have hw := hw.addE h175
  refine sv hs (y_indexAt Tryz.runUnderlying22 Tryz.sizeOf3 rfl rfl h173.1 h173.2 h174) rfl fun a hs => ?_
  refine sv hs (y_loadE1 (j := 0) (hw.ceAt 0 rfl) rfl Tryz.isAgg3 rfl) rfl fun a hs => ?_
  obtain ⟨rv184, h183, hsh⟩ := bind_t hsh
  refine st_callR hs ((hw.bE 2 rfl).2 Keep.rfl' hw.bdom ⟨_, rfl, rfl⟩ h183) (do_callF (hw.bE 2 rfl).1 rfl rfl) trivial rfl rfl ?_
  intro v188 Sv185 w a h186 h187 hs
  subst h187
  have hw := hw.callB h186
  refine nl ?_
  refine wp_cond_split (hs.ev rfl) (fun h190 => ?_) (fun h190 => ?_)
  ·have hsh := ite_t hsh h190
   refine sr ?_
   refine mv hs rfl rfl fun a hs => ?_
   refine av hs rfl rfl fun a hs => ?_
   refine nl ?_
   have hsh := oi hsh
   subst hsh
   have h191 := hd144 _ rfl
   subst h191
   refine wp_ret ?_
   refine blk_ret ?_
   refine then_ret ?_
   refine then_ret ?_
   refine blk_ret ?_
   refine then_ret ?_
   exact ret1 hs rfl (rv_tmp rfl) (hw.ret rfl)
  have hsh := ite_f hsh h190
  refine wp_skip ?_
  refine blk_normal ?_
  refine then_normal ?_
  refine wp_region_lit ?_
  refine sv hs (y_add rfl rfl) rfl fun a hs => ?_
  refine mv hs rfl rfl fun a hs => ?_
  refine nl ?_
  exact ⟨_, (Option.some.inj hsh).symm, Sv122, (hs.wk rfl), (hw.ft [] [1, 2] (by decide) rfl rfl)⟩
 have hsh := ite_f hsh h149
 obtain ⟨rv192, hsh, h193⟩ := map_t hsh
 have h193 := (hd144 _ h193.symm).symm
 subst h193
 refine wp_exit ?_
 refine then_exit ?_
 refine then_exit ?_
 refine blk_exit ?_
 refine then_normal ?_
 refine sr ?_
 refine av hs rfl rfl fun a hs => ?_
 refine nl ?_
 have hsh := oi hsh
 subst hsh
 refine wp_ret ?_
 exact ret1 hs rfl (rv_tmp rfl) (hw.ret rfl)
abbrev slices_ContainsFunc_Lint_int_rd (w0 : World) (X : List Nat) (r : Bool) : (Nat → Prop) → World → Value → Prop := fun S w v => v = .bool r
set_option maxHeartbeats 4000000 in
set_option maxRecDepth 100000 in
theorem slices_ContainsFunc_Lint_int_ok {w0 : World} {S0 : Nat → Prop} {p2 : Option Addr} {k3 : Nat} {g6 : Nat} {f7 : List Value} {cp8 : List Value} {s1 : (List Int)} {f5 : Int → Option Bool} {r : Bool} (hsh : slices_ContainsFunc_Lint_int s1 f5 = some r) (hS : ∀ b, S0 b → b < w0.heap.size) (h4 : (SlA p2 s1.length k3 s1).p S0 w0) (h9 : (FnA1 Tryz.prog g6 f7 cp8 f5).p S0 w0) : Calls Tryz.prog 60 #[.slice p2 s1.length k3, .func (.func g6) f7.toArray cp8.toArray] w0 (Ret ([]) w0 S0 (slices_ContainsFunc_Lint_int_rd w0 ([]) r)) := by
 refine calls_of_wp Tryz.func60 rfl ?_
 have hs := Sl.enter #[.slice p2 s1.length k3, .func (.func g6) f7.toArray cp8.toArray] 9 [(0, .slice p2 s1.length k3), (1, .func (.func g6) f7.toArray cp8.toArray)] rfl ⟨rfl, rfl, trivial⟩
 have hw := Wd.enter (E := []) hS (fun _ h => (by cases h))
 have hw := hw.addE h4
 have hw := hw.addE h9
 delta slices_ContainsFunc_Lint_int at hsh
 refine sr ?_
 refine av hs rfl rfl fun a hs => ?_
 refine nl ?_
 refine sr ?_
 refine mv hs rfl rfl fun a hs => ?_
 refine mv hs rfl rfl fun a hs => ?_
 obtain ⟨rv11, h10, hsh⟩ := bind_t hsh
 refine st_callR hs (slices_IndexFunc_Lint_int_ok h10 hw.bdom (hw.bE 1 rfl) (hw.bE 0 rfl)) (do_call Tryz.call82 rfl) trivial rfl rfl ?_
 intro v15 Sv12 w a h13 h14 hs
 subst h14
 have hw := hw.callB h13
 refine sv hs (y_geq rfl rfl) rfl fun a hs => ?_
 refine av hs rfl rfl fun a hs => ?_
 refine nl ?_
 have hsh := oi hsh
 subst hsh
 refine wp_ret ?_
 exact ret1 hs rfl (rv_tmp rfl) (hw.ret rfl)
abbrev detector_in_rd (w0 : World) (X : List Nat) (r : Bool) : (Nat → Prop) → World → Value → Prop := fun S w v => v = .bool r
set_option maxHeartbeats 4000000 in
set_option maxRecDepth 100000 in
theorem detector_in_ok {w0 : World} {S0 : Nat → Prop} {n1 : Int} {low2 : Int} {high3 : Int} {r : Bool} (hsh : detector_in n1 low2 high3 = some r) (hS : ∀ b, S0 b → b < w0.heap.size) : Calls Tryz.prog 62 #[.int .i64 n1, .int .i64 low2, .int .i64 high3] w0 (Ret ([]) w0 S0 (detector_in_rd w0 ([]) r)) := by
 refine calls_of_wp Tryz.func62 rfl ?_
 have hs := Sl.enter #[.int .i64 n1, .int .i64 low2, .int .i64 high3] 15 [(0, .int .i64 n1), (1, .int .i64 low2), (2, .int .i64 high3)] rfl ⟨rfl, rfl, rfl, trivial⟩
 have hw := Wd.enter (E := []) hS (fun _ h => (by cases h))
 delta detector_in at hsh
 refine sr ?_
 refine av hs rfl rfl fun a hs => ?_
 refine nl ?_
 refine sr ?_
 refine mv hs rfl rfl fun a hs => ?_
 refine mv hs rfl rfl fun a hs => ?_
 refine sv hs (y_geq rfl rfl) rfl fun a hs => ?_
 refine mv hs rfl rfl fun a hs => ?_
 refine wpl_join 4 (fun a w1 => w0 = w1 ∧ Sl 15 [(14, .bool ((decide (low2 ≤ n1)) && (decide (n1 ≤ high3))))] a) ?_ ?_
 ·rcases Bool.eq_false_or_eq_true (decide (low2 ≤ n1)) with h4 | h4
  ·have hs := hs.fix 10 (.bool true) rfl (vb h4)
   refine st_val hs (y_move rfl) ⟨_, rfl, rfl⟩ rfl rfl fun a hs => ?_
   refine st_val hs (y_move rfl) ⟨_, rfl, rfl⟩ rfl rfl fun a hs => ?_
   refine st_val hs (y_leq rfl rfl) ⟨_, rfl, rfl⟩ rfl rfl fun a hs => ?_
   refine sv hs (y_pickT rfl rfl) rfl fun a hs => ?_
   refine nl ?_
   exact ⟨rfl, (hs.fix 14 (.bool ((decide (low2 ≤ n1)) && (decide (n1 ≤ high3)))) rfl (and_t h4)).weaken _ ⟨rfl, trivial⟩⟩
  have hs := hs.fix 10 (.bool false) rfl (vb h4)
  refine st_skip hs rfl rfl rfl rfl rfl fun a hs => ?_
  refine st_skip hs rfl rfl rfl rfl rfl fun a hs => ?_
  refine st_skip hs rfl rfl rfl rfl rfl fun a hs => ?_
  refine sv hs (y_pickF rfl rfl) rfl fun a hs => ?_
  refine nl ?_
  exact ⟨rfl, (hs.fix 14 (.bool ((decide (low2 ≤ n1)) && (decide (n1 ≤ high3)))) rfl (and_f h4)).weaken _ ⟨rfl, trivial⟩⟩
 rintro a w1 ⟨h5, hs⟩
 subst h5
 refine av hs rfl rfl fun a hs => ?_
 refine nl ?_
 have hsh := oi hsh
 subst hsh
 refine wp_ret ?_
 exact ret1 hs rfl (rv_tmp rfl) (hw.ret rfl)
abbrev detector_wrong_rd (w0 : World) (X : List Nat) (r : Bool) : (Nat → Prop) → World → Value → Prop := fun S w v => v = .bool r
set_option maxHeartbeats 4000000 in
set_option maxRecDepth 100000 in
theorem detector_wrong_ok {w0 : World} {S0 : Nat → Prop} {n1 : Int} {r : Bool} (hsh : detector_wrong n1 = some r) (hS : ∀ b, S0 b → b < w0.heap.size) : Calls Tryz.prog 61 #[.int .i64 n1] w0 (Ret ([]) w0 S0 (detector_wrong_rd w0 ([]) r)) := by
 refine calls_of_wp Tryz.func61 rfl ?_
 have hs := Sl.enter #[.int .i64 n1] 6 [(0, .int .i64 n1)] rfl ⟨rfl, trivial⟩
 have hw := Wd.enter (E := []) hS (fun _ h => (by cases h))
 delta detector_wrong at hsh
 refine sr ?_
 refine av hs rfl rfl fun a hs => ?_
 refine nl ?_
 refine sr ?_
 refine mv hs rfl rfl fun a hs => ?_
 obtain ⟨rv3, h2, hsh⟩ := bind_t hsh
 refine st_callR hs (detector_in_ok h2 hw.bdom) (do_call Tryz.call62 rfl) trivial rfl rfl ?_
 intro v7 Sv4 w a h5 h6 hs
 subst h6
 have hw := hw.callB h5
 refine sv hs (y_not rfl) rfl fun a hs => ?_
 refine av hs rfl rfl fun a hs => ?_
 refine nl ?_
 have hsh := oi hsh
 subst hsh
 refine wp_ret ?_
 exact ret1 hs rfl (rv_tmp rfl) (hw.ret rfl)
theorem detector_wrong_fn (S0 : Nat → Prop) (w0 : World) : (FnA1 Tryz.prog 61 [] [] detector_wrong).p S0 w0 := by
  refine ⟨Tryz.call61, ?_⟩
  intro S1 w1 hk hS c0 x0 r1 h0 hf
  obtain ⟨_, rfl, rfl⟩ := h0
  exact detector_wrong_ok hf hS  
abbrev detector_abs_rd (w0 : World) (X : List Nat) (r : Int) : (Nat → Prop) → World → Value → Prop := fun S w v => v = .int .i64 r
set_option maxHeartbeats 4000000 in
set_option maxRecDepth 100000 in
theorem detector_abs_ok {w0 : World} {S0 : Nat → Prop} {n1 : Int} {r : Int} (hsh : detector_abs n1 = some r) (hS : ∀ b, S0 b → b < w0.heap.size) : Calls Tryz.prog 83 #[.int .i64 n1] w0 (Ret ([]) w0 S0 (detector_abs_rd w0 ([]) r)) := by
 refine calls_of_wp Tryz.func83 rfl ?_
 have hs := Sl.enter #[.int .i64 n1] 7 [(0, .int .i64 n1)] rfl ⟨rfl, trivial⟩
 have hw := Wd.enter (E := []) hS (fun _ h => (by cases h))
 delta detector_abs at hsh
 refine sr ?_
 refine av hs rfl rfl fun a hs => ?_
 refine nl ?_
 refine sr ?_
 refine mv hs rfl rfl fun a hs => ?_
 refine mv hs rfl rfl fun a hs => ?_
 refine sv hs (y_neg rfl) rfl fun a hs => ?_
 refine sv hs (y_max rfl rfl) rfl fun a hs => ?_
 obtain ⟨x3, h2, hsh⟩ := bind_t hsh
 refine sv hs (y_assignI rfl h2) rfl fun a hs => ?_
 refine nl ?_
 have hsh := oi hsh
 subst hsh
 refine wp_ret ?_
 exact ret1 hs rfl (rv_tmp rfl) (hw.ret rfl)
abbrev detector_sum_rd (w0 : World) (X : List Nat) (r : Int) : (Nat → Prop) → World → Value → Prop := fun S w v => v = .int .i64 r
set_option maxHeartbeats 4000000 in
set_option maxRecDepth 100000 in
theorem detector_sum_ok {w0 : World} {S0 : Nat → Prop} {p2 : Option Addr} {k3 : Nat} {l1 : (List Int)} {r : Int} (hsh : detector_sum l1 = some r) (hS : ∀ b, S0 b → b < w0.heap.size) (h4 : (SlA p2 l1.length k3 l1).p S0 w0) : Calls Tryz.prog 63 #[.slice p2 l1.length k3] w0 (Ret ([]) w0 S0 (detector_sum_rd w0 ([]) r)) := by
 refine calls_of_wp Tryz.func63 rfl ?_
 have hs := Sl.enter #[.slice p2 l1.length k3] 18 [(0, .slice p2 l1.length k3)] rfl ⟨rfl, trivial⟩
 have hw := Wd.enter (E := []) hS (fun _ h => (by cases h))
 have hw := hw.addE h4
 delta detector_sum at hsh
 refine sr ?_
 refine av hs rfl rfl fun a hs => ?_
 refine nl ?_
 refine sr ?_
 refine av hs rfl rfl fun a hs => ?_
 refine nl ?_
 refine wp_seq ?_
 refine sr ?_
 refine mv hs rfl rfl fun a hs => ?_
 refine sv hs (y_len Tryz.runUnderlying22 rfl) rfl fun a hs => ?_
 refine mv hs rfl rfl fun a hs => ?_
 refine nl ?_
 obtain ⟨e80, h129, hsh⟩ := bind_t hsh
 refine wp_join (fun a w => ∃ (Sv81 : Nat → Prop), Sl 18 [(3, .int .i64 e80)] a ∧ Wd ⟨w0, S0, []⟩ Sv81 [] [] w) ?_ ?_
 ·refine wp_block ?_
  refine wp_while (fun sv5 a w => ∃ (Sv53 : Nat → Prop), Sl 18 [(3, .int .i64 sv5.1), (6, .slice p2 l1.length k3), (7, .int .i64 (l1.length : Int)), (8, .int .i64 sv5.2)] a ∧ Wd ⟨w0, S0, []⟩ Sv53 [] [SlA p2 l1.length k3 l1] w) (0, 0) h129 ⟨S0, (hs.wk rfl), (hw.ft [] [0] (by decide) rfl rfl)⟩ ?_
  clear h129
  repeat clear hsh
  rintro sv5 a w tv78 ⟨Sv53, hs, hw⟩ hsh hd77
  delta detector_sum_l1 at hsh
  refine sr ?_
  refine sv hs (y_lss rfl rfl) rfl fun a hs => ?_
  refine nl ?_
  refine wp_seq ?_
  refine wp_cond_split (hs.ev rfl) (fun h83 => ?_) (fun h83 => ?_)
  ·have hsh := ite_t hsh h83
   refine wp_skip ?_
   refine then_normal ?_
   refine wp_seq ?_
   refine wp_block ?_
   refine sr ?_
   obtain ⟨x108, h106, hsh⟩ := bind_t hsh
   obtain ⟨b114, o115, q112, c113, h116, h109, h110, h111, h107⟩ := hw.elemV 0 rfl h106
   have hsv117 := hs
   have hwv118 := hw
   subst h116
   have hs := hsv117
   have hw := hwv118
   obtain ⟨_, rfl, rfl⟩ := h107
   have hw := hw.addE h111
   refine sv hs (y_indexAt Tryz.runUnderlying22 Tryz.sizeOf3 rfl rfl h109.1 h109.2 h110) rfl fun a hs => ?_
   refine sv hs (y_loadE1 (j := 0) (hw.ceAt 0 rfl) rfl Tryz.isAgg3 rfl) rfl fun a hs => ?_
   refine av hs rfl rfl fun a hs => ?_
   refine nl ?_
   refine wp_region_lit ?_
   refine mv hs rfl rfl fun a hs => ?_
   refine mv hs rfl rfl fun a hs => ?_
   obtain ⟨rv120, h119, hsh⟩ := bind_t hsh
   refine st_callR hs (detector_abs_ok h119 hw.bdom) (do_call Tryz.call83 rfl) trivial rfl rfl ?_
   intro v124 Sv121 w a h122 h123 hs
   subst h123
   have hw := hw.callB h122
   refine sv hs (y_add rfl rfl) rfl fun a hs => ?_
   obtain ⟨n127, h126, hsh⟩ := bind_t hsh
   refine sv hs (y_assignI rfl h126) rfl fun a hs => ?_
   refine wpList_nil ?_
   refine blk_normal ?_
   refine then_normal ?_
   refine wp_region_lit ?_
   refine sv hs (y_add rfl rfl) rfl fun a hs => ?_
   refine mv hs rfl rfl fun a hs => ?_
   refine nl ?_
   exact ⟨_, (Option.some.inj hsh).symm, Sv53, (hs.wk rfl), (hw.ft [] [1] (by decide) rfl rfl)⟩
  have hsh := ite_f hsh h83
  refine wp_exit ?_
  refine then_exit ?_
  refine then_exit ?_
  refine blk_exit ?_
  have hsh := oi hsh
  subst hsh
  have h128 := hd77 _ rfl
  subst h128
  refine then_normal ?_
  exact ⟨Sv53, (hs.wk rfl), (hw.ft [] [] (by decide) rfl rfl)⟩
 rintro a w ⟨Sv81, hs, hw⟩
 refine then_normal ?_
 refine sr ?_
 refine mv hs rfl rfl fun a hs => ?_
 refine av hs rfl rfl fun a hs => ?_
 refine nl ?_
 have hsh := oi hsh
 subst hsh
 refine wp_ret ?_
 exact ret1 hs rfl (rv_tmp rfl) (hw.ret rfl)
abbrev detector_Ratio_rd (w0 : World) (X : List Nat) (r : (Int × Int × Int)) : (Nat → Prop) → World → Value → Prop := fun S w v => v = .tuple #[.int .i64 r.1, .int .i64 r.2.1, .int .i64 r.2.2]
set_option maxHeartbeats 4000000 in
set_option maxRecDepth 100000 in
theorem detector_Ratio_ok {w0 : World} {S0 : Nat → Prop} {p3 : Option Addr} {k4 : Nat} {d1 : Detector} {samples2 : (List Int)} {i6 : Int} {r : (Int × Int × Int)} (hsh : detector_Ratio d1 samples2 i6 = some r) (hS : ∀ b, S0 b → b < w0.heap.size) (h5 : (SlA p3 samples2.length k4 samples2).p S0 w0) : Calls Tryz.prog 38 #[.agg #[.int .i64 d1.Short, .int .i64 d1.Long, .int .i64 d1.On, .int .i64 d1.Off], .slice p3 samples2.length k4, .int .i64 i6] w0 (Ret ([]) w0 S0 (detector_Ratio_rd w0 ([]) r)) := by
 refine calls_of_wp Tryz.func38 rfl ?_
 have hs := Sl.enter #[.agg #[.int .i64 d1.Short, .int .i64 d1.Long, .int .i64 d1.On, .int .i64 d1.Off], .slice p3 samples2.length k4, .int .i64 i6] 51 [(0, .agg #[.int .i64 d1.Short, .int .i64 d1.Long, .int .i64 d1.On, .int .i64 d1.Off]), (1, .slice p3 samples2.length k4), (2, .int .i64 i6)] rfl ⟨rfl, rfl, rfl, trivial⟩
 have hw := Wd.enter (E := []) hS (fun _ h => (by cases h))
 have hw := hw.addE h5
 delta detector_Ratio at hsh
 refine sr ?_
 refine w_box (cs := [.int .i64 d1.Short, .int .i64 d1.Long, .int .i64 d1.On, .int .i64 d1.Off]) hs hw rfl rfl rfl trivial ?_
 intro b7 a w hs hw
 refine av hs rfl rfl fun a hs => ?_
 refine av hs rfl rfl fun a hs => ?_
 refine av hs rfl rfl fun a hs => ?_
 refine nl ?_
 refine wp_seq ?_
 refine wp_block ?_
 refine sr ?_
 refine sv hs (y_loadBA (hw.ownAt 0 rfl) rfl Tryz.isAgg24 Tryz.sizeOf24 rfl rfl) rfl fun a hs => ?_
 obtain ⟨rv43, h42, hsh⟩ := bind_t hsh
 refine st_callR hs (detector_Valid_ok h42 hw.bdom) (do_call Tryz.call35 rfl) trivial rfl rfl ?_
 intro v47 Sv44 w a h45 h46 hs
 subst h46
 have hw := hw.callB h45
 refine sv hs (y_not rfl) rfl fun a hs => ?_
 refine av hs rfl rfl fun a hs => ?_
 refine nl ?_
 refine wp_cond_split (hs.ev rfl) (fun h76 => ?_) (fun h76 => ?_)
 ·have hsh := ite_t hsh h76
  refine sr ?_
  refine av hs rfl rfl fun a hs => ?_
  refine av hs rfl rfl fun a hs => ?_
  refine av hs rfl rfl fun a hs => ?_
  refine nl ?_
  have hsh := oi hsh
  subst hsh
  refine wp_ret ?_
  refine blk_ret ?_
  refine then_ret ?_
  exact ret3 hs rfl (rv_tmp rfl) (rv_tmp rfl) (rv_tmp rfl) (hw.ret rfl)
 have hsh := ite_f hsh h76
 refine sr ?_
 refine mv hs rfl rfl fun a hs => ?_
 refine sv hs (y_len Tryz.runUnderlying22 rfl) rfl fun a hs => ?_
 refine sv hs (y_gtr rfl rfl) rfl fun a hs => ?_
 refine av hs rfl rfl fun a hs => ?_
 refine nl ?_
 refine wp_cond_split (hs.ev rfl) (fun h103 => ?_) (fun h103 => ?_)
 ·have hsh := ite_t hsh h103
  refine sr ?_
  refine av hs rfl rfl fun a hs => ?_
  refine av hs rfl rfl fun a hs => ?_
  refine av hs rfl rfl fun a hs => ?_
  refine nl ?_
  have hsh := oi hsh
  subst hsh
  refine wp_ret ?_
  refine blk_ret ?_
  refine then_ret ?_
  exact ret3 hs rfl (rv_tmp rfl) (rv_tmp rfl) (rv_tmp rfl) (hw.ret rfl)
 have hsh := ite_f hsh h103
 refine sr ?_
 refine mv hs rfl rfl fun a hs => ?_
 obtain ⟨rv105, h104, hsh⟩ := bind_t hsh
 refine st_callR hs (slices_ContainsFunc_Lint_int_ok h104 hw.bdom (hw.bE 0 rfl) (detector_wrong_fn _ _)) (do_call Tryz.call60 rfl) trivial rfl rfl ?_
 intro v109 Sv106 w a h107 h108 hs
 subst h108
 have hw := hw.callB h107
 refine mv hs rfl rfl fun a hs => ?_
 obtain ⟨c119, hc119, hsh⟩ := bind_t hsh
 refine wpl_join 10 (fun a w => ∃ (Sv120 : Nat → Prop), Sl 51 [(1, .slice p3 samples2.length k4), (2, .int .i64 i6), (3, .pointer (some ⟨b7, 0, none⟩)), (30, .bool c119)] a ∧ Wd ⟨w0, S0, []⟩ Sv120 [.box b7 [.int .i64 d1.Short, .int .i64 d1.Long, .int .i64 d1.On, .int .i64 d1.Off] 24] [SlA p3 samples2.length k4 samples2] w) ?_ ?_
 ·rcases Bool.eq_false_or_eq_true rv105 with h118 | h118
  ·have hs := hs.fix 20 (.bool true) rfl (vb h118)
   have hsh := ite_t hc119 h118
   refine st_skip hs rfl rfl rfl rfl rfl fun a hs => ?_
   refine st_skip hs rfl rfl rfl rfl rfl fun a hs => ?_
   refine st_skip hs rfl rfl rfl rfl rfl fun a hs => ?_
   refine st_skip hs rfl rfl rfl rfl rfl fun a hs => ?_
   refine st_skip hs rfl rfl rfl rfl rfl fun a hs => ?_
   refine st_skip hs rfl rfl rfl rfl rfl fun a hs => ?_
   refine st_skip hs rfl rfl rfl rfl rfl fun a hs => ?_
   refine st_skip hs rfl rfl rfl rfl rfl fun a hs => ?_
   refine st_skip hs rfl rfl rfl rfl rfl fun a hs => ?_
   refine sv hs (y_pickT rfl rfl) rfl fun a hs => ?_
   refine wpList_nil ?_
   have hsh := oi hsh
   subst hsh
   refine then_normal ?_
   exact ⟨S0, (hs.wk rfl), (hw.ft [0] [0] (by decide) rfl rfl)⟩
  have hs := hs.fix 20 (.bool false) rfl (vb h118)
  have hsh := ite_f hc119 h118
  refine st_val hs (y_move rfl) ⟨_, rfl, rfl⟩ rfl rfl fun a hs => ?_
  refine st_val hs (y_fieldAddr (o' := 1) Tryz.runUnderlying24 rfl Tryz.sizeOf3 rfl rfl rfl) ⟨_, rfl, rfl⟩ rfl rfl fun a hs => ?_
  refine st_val hs (y_loadB1 (hw.ownAt 0 rfl) rfl Tryz.isAgg3 rfl) ⟨_, rfl, rfl⟩ rfl rfl fun a hs => ?_
  refine st_val hs (y_sub rfl rfl) ⟨_, rfl, rfl⟩ rfl rfl fun a hs => ?_
  refine st_val hs (y_move rfl) ⟨_, rfl, rfl⟩ rfl rfl fun a hs => ?_
  refine st_val hs (y_len Tryz.runUnderlying22 rfl) ⟨_, rfl, rfl⟩ rfl rfl fun a hs => ?_
  refine st_val hs (y_sub rfl rfl) ⟨_, rfl, rfl⟩ rfl rfl fun a hs => ?_
  obtain ⟨rv122, h121, hsh⟩ := bind_t hsh
  refine st_callR hs (detector_in_ok h121 hw.bdom) (do_call Tryz.call62 rfl) ⟨_, rfl, rfl⟩ rfl rfl ?_
  intro v126 Sv123 w a h124 h125 hs
  subst h125
  have hw := hw.callB h124
  refine st_val hs (y_not rfl) ⟨_, rfl, rfl⟩ rfl rfl fun a hs => ?_
  refine sv hs (y_pickF rfl rfl) rfl fun a hs => ?_
  refine wpList_nil ?_
  have hsh := oi hsh
  subst hsh
  refine then_normal ?_
  exact ⟨S0, (hs.wk rfl), (hw.ft [0] [0] (by decide) rfl rfl)⟩
 rintro a w ⟨Sv120, hs, hw⟩
 refine av hs rfl rfl fun a hs => ?_
 refine nl ?_
 refine wp_cond_split (hs.ev rfl) (fun h129 => ?_) (fun h129 => ?_)
 ·have hsh := ite_t hsh h129
  refine sr ?_
  refine av hs rfl rfl fun a hs => ?_
  refine av hs rfl rfl fun a hs => ?_
  refine av hs rfl rfl fun a hs => ?_
  refine nl ?_
  have hsh := oi hsh
  subst hsh
  refine wp_ret ?_
  refine blk_ret ?_
  refine then_ret ?_
  exact ret3 hs rfl (rv_tmp rfl) (rv_tmp rfl) (rv_tmp rfl) (hw.ret rfl)
 have hsh := ite_f hsh h129
 refine wp_skip ?_
 refine blk_normal ?_
 refine then_normal ?_
 refine wp_seq ?_
 obtain ⟨l135, h130, hsh⟩ := bind_t hsh
 obtain ⟨p133, k134, h131, h132⟩ := sub_env (hw.envAt 0 rfl) h130
 have hw := hw.addE h131
 obtain ⟨rv137, h136, hsh⟩ := bind_t hsh
 obtain ⟨l143, h138, hsh⟩ := bind_t hsh
 obtain ⟨p141, k142, h139, h140⟩ := sub_env (hw.envAt 1 rfl) h138
 have hw := hw.addE h139
 obtain ⟨rv145, h144, hsh⟩ := bind_t hsh
 refine wp_only (fun a w => ∃ (Sv146 : Nat → Prop), Sl 51 [(6, .int .i64 rv137), (7, .int .i64 rv145), (8, .int .i64 0)] a ∧ Wd ⟨w0, S0, []⟩ Sv146 [] [] w) ?_ ?_
 ·refine h_b (C := Cls [.box b7 [.int .i64 d1.Short, .int .i64 d1.Long, .int .i64 d1.On, .int .i64 d1.Off] 24] []) (by kernel_rfl) rfl (hw.drew.cs [0] [] rfl rfl) fun hC => ?_
  have hw := hw.drew
  refine gm hs 0 rfl rfl rfl hC fun a hs => ?_
  refine gm hs 1 rfl rfl rfl hC fun a hs => ?_
  refine gv hs 2 rfl rfl hC (fun w hC => y_fieldAddr (o' := 0) Tryz.runUnderlying24 rfl Tryz.sizeOf3 rfl rfl rfl) fun a hs => ?_
  refine gv hs 3 rfl rfl hC (fun w hC => y_loadB1 (hC.ownAt 0 rfl) rfl Tryz.isAgg3 rfl) fun a hs => ?_
  refine gv hs 4 rfl rfl hC (fun w hC => y_sub rfl rfl) fun a hs => ?_
  refine gv hs 5 rfl rfl hC (fun w hC => y_add rfl rfl) fun a hs => ?_
  refine gm hs 6 rfl rfl rfl hC fun a hs => ?_
  refine gv hs 7 rfl rfl hC (fun w hC => y_add rfl rfl) fun a hs => ?_
  refine gv hs 8 rfl rfl hC (fun w hC => y_slc Tryz.runUnderlying22 Tryz.sizeOf3 rfl ⟨_, rfl⟩ ⟨_, rfl⟩ h132) fun a hs => ?_
  refine gm hs 10 rfl rfl rfl hC fun a hs => ?_
  refine gm hs 11 rfl rfl rfl hC fun a hs => ?_
  refine gv hs 12 rfl rfl hC (fun w hC => y_fieldAddr (o' := 1) Tryz.runUnderlying24 rfl Tryz.sizeOf3 rfl rfl rfl) fun a hs => ?_
  refine gv hs 13 rfl rfl hC (fun w hC => y_loadB1 (hC.ownAt 0 rfl) rfl Tryz.isAgg3 rfl) fun a hs => ?_
  refine gv hs 14 rfl rfl hC (fun w hC => y_sub rfl rfl) fun a hs => ?_
  refine gv hs 15 rfl rfl hC (fun w hC => y_add rfl rfl) fun a hs => ?_
  refine gm hs 16 rfl rfl rfl hC fun a hs => ?_
  refine gv hs 17 rfl rfl hC (fun w hC => y_add rfl rfl) fun a hs => ?_
  refine gv hs 18 rfl rfl hC (fun w hC => y_slc Tryz.runUnderlying22 Tryz.sizeOf3 rfl ⟨_, rfl⟩ ⟨_, rfl⟩ h140) fun a hs => ?_
  refine ho 9 rfl ?_
  refine st_callR hs (detector_sum_ok h136 hw.bdom (hw.bE 1 rfl)) (do_call Tryz.call63 rfl) trivial rfl rfl ?_
  intro v150 Sv147 w a h148 h149 hs
  subst h149
  have hw := hw.callB h148
  refine h_nx (hw.cs [0] [] rfl rfl) fun hC => ?_
  refine ho 19 rfl ?_
  refine st_callR hs (detector_sum_ok h144 hw.bdom (hw.bE 0 rfl)) (do_call Tryz.call63 rfl) trivial rfl rfl ?_
  intro v155 Sv152 w a h153 h154 hs
  subst h154
  have hw := hw.callB h153
  refine h_nx (hw.cs [0] [] rfl rfl) fun hC => ?_
  refine gv hs 20 rfl rfl hC (fun w hC => y_assign rfl) fun a hs => ?_
  refine gv hs 21 rfl rfl hC (fun w hC => y_assign rfl) fun a hs => ?_
  refine gv hs 22 rfl rfl hC (fun w hC => y_assign rfl) fun a hs => ?_
  refine h_done (by kernel_rfl) ?_
  exact ⟨Sv120, (hs.wk rfl), (hw.ft [] [] (by decide) rfl rfl)⟩
 rintro a w ⟨Sv146, hs, hw⟩
 refine then_normal ?_
 have hsh := oi hsh
 subst hsh
 refine wp_ret ?_
 exact ret3 hs rfl (rv_tmp rfl) (rv_tmp rfl) (rv_tmp rfl) (hw.ret rfl)
abbrev picker_onset_rd (w0 : World) (X : List Nat) (r : Int) : (Nat → Prop) → World → Value → Prop := fun S w v => v = .int .i64 r
set_option maxHeartbeats 4000000 in
set_option maxRecDepth 100000 in
theorem picker_onset_ok {w0 : World} {S0 : Nat → Prop} {p3 : Option Addr} {k4 : Nat} {p1 : Picking} {samples2 : (List Int)} {on6 : Int} {long7 : Int} {r : Int} (hsh : picker_onset p1 samples2 on6 long7 = some r) (hS : ∀ b, S0 b → b < w0.heap.size) (h5 : (SlA p3 samples2.length k4 samples2).p S0 w0) : Calls Tryz.prog 39 #[.agg #[.int .i64 p1.Detector.Short, .int .i64 p1.Detector.Long, .int .i64 p1.Detector.On, .int .i64 p1.Detector.Off, .int .i64 p1.Back, .int .i64 p1.Level, .int .i64 p1.Floor], .slice p3 samples2.length k4, .int .i64 on6, .int .i64 long7] w0 (Ret ([]) w0 S0 (picker_onset_rd w0 ([]) r)) := by
 refine calls_of_wp Tryz.func39 rfl ?_
 have hs := Sl.enter #[.agg #[.int .i64 p1.Detector.Short, .int .i64 p1.Detector.Long, .int .i64 p1.Detector.On, .int .i64 p1.Detector.Off, .int .i64 p1.Back, .int .i64 p1.Level, .int .i64 p1.Floor], .slice p3 samples2.length k4, .int .i64 on6, .int .i64 long7] 47 [(0, .agg #[.int .i64 p1.Detector.Short, .int .i64 p1.Detector.Long, .int .i64 p1.Detector.On, .int .i64 p1.Detector.Off, .int .i64 p1.Back, .int .i64 p1.Level, .int .i64 p1.Floor]), (1, .slice p3 samples2.length k4), (2, .int .i64 on6), (3, .int .i64 long7)] rfl ⟨rfl, rfl, rfl, rfl, trivial⟩
 have hw := Wd.enter (E := []) hS (fun _ h => (by cases h))
 have hw := hw.addE h5
 delta picker_onset at hsh
 refine sr ?_
 refine w_box (cs := [.int .i64 p1.Detector.Short, .int .i64 p1.Detector.Long, .int .i64 p1.Detector.On, .int .i64 p1.Detector.Off, .int .i64 p1.Back, .int .i64 p1.Level, .int .i64 p1.Floor]) hs hw rfl rfl rfl trivial ?_
 intro b8 a w hs hw
 refine av hs rfl rfl fun a hs => ?_
 refine nl ?_
 refine sr ?_
 refine mv hs rfl rfl fun a hs => ?_
 refine sv hs (y_fieldAddr (o' := 4) Tryz.runUnderlying26 rfl Tryz.sizeOf3 rfl rfl rfl) rfl fun a hs => ?_
 refine sv hs (y_loadB1 (hw.ownAt 0 rfl) rfl Tryz.isAgg3 rfl) rfl fun a hs => ?_
 refine sv hs (y_sub rfl rfl) rfl fun a hs => ?_
 refine sv hs (y_max rfl rfl) rfl fun a hs => ?_
 obtain ⟨first10, h9, hsh⟩ := bind_t hsh
 refine sv hs (y_assignI rfl h9) rfl fun a hs => ?_
 refine nl ?_
 refine wp_seq ?_
 refine sr ?_
 refine mv hs rfl rfl fun a hs => ?_
 refine sv hs (y_sub rfl rfl) rfl fun a hs => ?_
 obtain ⟨k12, h11, hsh⟩ := bind_t hsh
 refine sv hs (y_assignI rfl h11) rfl fun a hs => ?_
 refine nl ?_
 refine wp_block ?_
 refine wp_while (fun sv75 a w => ∃ (Sv115 : Nat → Prop), Sl 47 [(1, .slice p3 samples2.length k4), (2, .int .i64 on6), (3, .int .i64 long7), (4, .pointer (some ⟨b8, 0, none⟩)), (9, .int .i64 first10), (10, .int .i64 sv75)] a ∧ Wd ⟨w0, S0, []⟩ Sv115 [.box b8 [.int .i64 p1.Detector.Short, .int .i64 p1.Detector.Long, .int .i64 p1.Detector.On, .int .i64 p1.Detector.Off, .int .i64 p1.Back, .int .i64 p1.Level, .int .i64 p1.Floor] 26] [SlA p3 samples2.length k4 samples2] w) k12 hsh ⟨S0, (hs.wk rfl), (hw.ft [0] [0] (by decide) rfl rfl)⟩ ?_
 repeat clear hsh
 rintro sv75 a w tv136 ⟨Sv115, hs, hw⟩ hsh hd135
 delta picker_onset_l2 at hsh
 refine wp_seq ?_
 refine sr ?_
 refine mv hs rfl rfl fun a hs => ?_
 refine mv hs rfl rfl fun a hs => ?_
 refine sv hs (y_geq rfl rfl) rfl fun a hs => ?_
 refine nl ?_
 refine wp_cond_split (hs.ev rfl) (fun h140 => ?_) (fun h140 => ?_)
 ·have hsh := ite_t hsh h140
  refine wp_skip ?_
  refine then_normal ?_
  refine wp_seq ?_
  refine wp_block ?_
  refine sr ?_
  refine mv hs rfl rfl fun a hs => ?_
  refine mv hs rfl rfl fun a hs => ?_
  obtain ⟨x159, h157, hsh⟩ := bind_t hsh
  obtain ⟨b165, o166, q163, c164, h167, h160, h161, h162, h158⟩ := hw.elemV 0 rfl h157
  have hsv168 := hs
  have hwv169 := hw
  subst h167
  have hs := hsv168
  have hw := hwv169
  obtain ⟨_, rfl, rfl⟩ := h158
  have hw := hw.addE h162
  refine sv hs (y_indexAt Tryz.runUnderlying22 Tryz.sizeOf3 rfl rfl h160.1 h160.2 h161) rfl fun a hs => ?_
  refine sv hs (y_loadE1 (j := 0) (hw.ceAt 0 rfl) rfl Tryz.isAgg3 rfl) rfl fun a hs => ?_
  refine av hs rfl rfl fun a hs => ?_
  refine nl ?_
  refine sr ?_
  refine sv hs (y_fieldAddr (o' := 0) Tryz.runUnderlying26 rfl Tryz.sizeOf24 rfl rfl rfl) rfl fun a hs => ?_
  refine sv hs (y_fieldAddr (o' := 1) Tryz.runUnderlying24 rfl Tryz.sizeOf3 rfl rfl rfl) rfl fun a hs => ?_
  refine sv hs (y_loadB1 (hw.ownAt 0 rfl) rfl Tryz.isAgg3 rfl) rfl fun a hs => ?_
  refine sv hs (y_mul rfl rfl) rfl fun a hs => ?_
  refine mv hs rfl rfl fun a hs => ?_
  refine mv hs rfl rfl fun a hs => ?_
  refine sv hs (y_neg rfl) rfl fun a hs => ?_
  refine sv hs (y_max rfl rfl) rfl fun a hs => ?_
  refine sv hs (y_mul rfl rfl) rfl fun a hs => ?_
  refine sv hs (y_fieldAddr (o' := 5) Tryz.runUnderlying26 rfl Tryz.sizeOf3 rfl rfl rfl) rfl fun a hs => ?_
  refine sv hs (y_loadB1 (hw.ownAt 0 rfl) rfl Tryz.isAgg3 rfl) rfl fun a hs => ?_
  refine mv hs rfl rfl fun a hs => ?_
  refine sv hs (y_mul rfl rfl) rfl fun a hs => ?_
  refine sv hs (y_leq rfl rfl) rfl fun a hs => ?_
  refine nl ?_
  refine wp_cond_split (hs.ev rfl) (fun h173 => ?_) (fun h173 => ?_)
  ·have hsh := ite_t hsh h173
   refine sr ?_
   refine mv hs rfl rfl fun a hs => ?_
   refine sv hs (y_add rfl rfl) rfl fun a hs => ?_
   obtain ⟨x175, h174, hsh⟩ := bind_t hsh
   refine sv hs (y_assignI rfl h174) rfl fun a hs => ?_
   refine nl ?_
   have hsh := oi hsh
   subst hsh
   have h176 := hd135 _ rfl
   subst h176
   refine wp_ret ?_
   refine blk_ret ?_
   refine then_ret ?_
   refine then_ret ?_
   refine blk_ret ?_
   refine then_ret ?_
   exact ret1 hs rfl (rv_tmp rfl) (hw.ret rfl)
  have hsh := ite_f hsh h173
  refine wp_skip ?_
  refine blk_normal ?_
  refine then_normal ?_
  refine wp_region_lit ?_
  refine mv hs rfl rfl fun a hs => ?_
  refine sv hs (y_sub rfl rfl) rfl fun a hs => ?_
  obtain ⟨k178, h177, hsh⟩ := bind_t hsh
  refine sv hs (y_assignI rfl h177) rfl fun a hs => ?_
  refine nl ?_
  exact ⟨_, (Option.some.inj hsh).symm, Sv115, (hs.wk rfl), (hw.ft [0] [1] (by decide) rfl rfl)⟩
 have hsh := ite_f hsh h140
 obtain ⟨rv181, hsh, h182⟩ := map_t hsh
 have h182 := (hd135 _ h182.symm).symm
 subst h182
 refine wp_exit ?_
 refine then_exit ?_
 refine then_exit ?_
 refine blk_exit ?_
 refine then_normal ?_
 refine sr ?_
 refine mv hs rfl rfl fun a hs => ?_
 refine mv hs rfl rfl fun a hs => ?_
 refine sv hs (y_min rfl rfl) rfl fun a hs => ?_
 obtain ⟨x180, h179, hsh⟩ := bind_t hsh
 refine sv hs (y_assignI rfl h179) rfl fun a hs => ?_
 refine nl ?_
 have hsh := oi hsh
 subst hsh
 refine wp_ret ?_
 exact ret1 hs rfl (rv_tmp rfl) (hw.ret rfl)
abbrev picker_Onset_rd (w0 : World) (X : List Nat) (r : (Int × Int)) : (Nat → Prop) → World → Value → Prop := fun S w v => v = .tuple #[.int .i64 r.1, .int .i64 r.2]
set_option maxHeartbeats 4000000 in
set_option maxRecDepth 100000 in
theorem picker_Onset_ok {w0 : World} {S0 : Nat → Prop} {p3 : Option Addr} {k4 : Nat} {p1 : Picking} {samples2 : (List Int)} {t6 : Trigger} {r : (Int × Int)} (hsh : picker_Onset p1 samples2 t6 = some r) (hS : ∀ b, S0 b → b < w0.heap.size) (h5 : (SlA p3 samples2.length k4 samples2).p S0 w0) : Calls Tryz.prog 16 #[.agg #[.int .i64 p1.Detector.Short, .int .i64 p1.Detector.Long, .int .i64 p1.Detector.On, .int .i64 p1.Detector.Off, .int .i64 p1.Back, .int .i64 p1.Level, .int .i64 p1.Floor], .slice p3 samples2.length k4, .agg #[.int .i64 t6.On, .int .i64 t6.Off, .int .i64 t6.Peak]] w0 (Ret ([]) w0 S0 (picker_Onset_rd w0 ([]) r)) := by
 refine calls_of_wp Tryz.func16 rfl ?_
 have hs := Sl.enter #[.agg #[.int .i64 p1.Detector.Short, .int .i64 p1.Detector.Long, .int .i64 p1.Detector.On, .int .i64 p1.Detector.Off, .int .i64 p1.Back, .int .i64 p1.Level, .int .i64 p1.Floor], .slice p3 samples2.length k4, .agg #[.int .i64 t6.On, .int .i64 t6.Off, .int .i64 t6.Peak]] 33 [(0, .agg #[.int .i64 p1.Detector.Short, .int .i64 p1.Detector.Long, .int .i64 p1.Detector.On, .int .i64 p1.Detector.Off, .int .i64 p1.Back, .int .i64 p1.Level, .int .i64 p1.Floor]), (1, .slice p3 samples2.length k4), (2, .agg #[.int .i64 t6.On, .int .i64 t6.Off, .int .i64 t6.Peak])] rfl ⟨rfl, rfl, rfl, trivial⟩
 have hw := Wd.enter (E := []) hS (fun _ h => (by cases h))
 have hw := hw.addE h5
 delta picker_Onset at hsh
 refine sr ?_
 refine w_box (cs := [.int .i64 p1.Detector.Short, .int .i64 p1.Detector.Long, .int .i64 p1.Detector.On, .int .i64 p1.Detector.Off, .int .i64 p1.Back, .int .i64 p1.Level, .int .i64 p1.Floor]) hs hw rfl rfl rfl trivial ?_
 intro b7 a w hs hw
 refine w_box (cs := [.int .i64 t6.On, .int .i64 t6.Off, .int .i64 t6.Peak]) hs hw rfl rfl rfl trivial ?_
 intro b8 a w hs hw
 refine av hs rfl rfl fun a hs => ?_
 refine av hs rfl rfl fun a hs => ?_
 refine nl ?_
 refine wp_seq ?_
 refine sr ?_
 refine sv hs (y_loadBA (hw.ownAt 1 rfl) rfl Tryz.isAgg26 Tryz.sizeOf26 rfl rfl) rfl fun a hs => ?_
 obtain ⟨rv10, h9, hsh⟩ := bind_t hsh
 refine st_callR hs (picker_Valid_ok h9 hw.bdom) (do_call Tryz.call14 rfl) trivial rfl rfl ?_
 intro v14 Sv11 w a h12 h13 hs
 subst h13
 have hw := hw.callB h12
 refine sv hs (y_not rfl) rfl fun a hs => ?_
 refine nl ?_
 refine wp_cond_split (hs.ev rfl) (fun h17 => ?_) (fun h17 => ?_)
 ·have hsh := ite_t hsh h17
  refine sr ?_
  refine av hs rfl rfl fun a hs => ?_
  refine av hs rfl rfl fun a hs => ?_
  refine nl ?_
  have hsh := oi hsh
  subst hsh
  refine wp_ret ?_
  refine then_ret ?_
  exact ret2 hs rfl (rv_tmp rfl) (rv_tmp rfl) (hw.ret rfl)
 have hsh := ite_f hsh h17
 refine wp_skip ?_
 refine then_normal ?_
 refine sr ?_
 refine sv hs (y_fieldAddr (o' := 0) Tryz.runUnderlying26 rfl Tryz.sizeOf24 rfl rfl rfl) rfl fun a hs => ?_
 refine sv hs (y_loadBA (hw.ownAt 1 rfl) rfl Tryz.isAgg24 Tryz.sizeOf24 rfl rfl) rfl fun a hs => ?_
 refine mv hs rfl rfl fun a hs => ?_
 refine sv hs (y_fieldAddr (o' := 0) Tryz.runUnderlying28 rfl Tryz.sizeOf3 rfl rfl rfl) rfl fun a hs => ?_
 refine sv hs (y_loadB1 (hw.ownAt 0 rfl) rfl Tryz.isAgg3 rfl) rfl fun a hs => ?_
 obtain ⟨rv19, h18, hsh⟩ := bind_t hsh
 refine st_callR hs (detector_Ratio_ok h18 hw.bdom (hw.bE 0 rfl)) (do_call Tryz.call38 rfl) trivial rfl rfl ?_
 intro v23 Sv20 w a h21 h22 hs
 subst h22
 have hw := hw.callB h21
 refine mv hs rfl rfl fun a hs => ?_
 refine sv hs (y_extract rfl rfl) rfl fun a hs => ?_
 refine sv hs (y_extract rfl rfl) rfl fun a hs => ?_
 refine sv hs (y_extract rfl rfl) rfl fun a hs => ?_
 refine av hs rfl rfl fun a hs => ?_
 refine av hs rfl rfl fun a hs => ?_
 refine av hs rfl rfl fun a hs => ?_
 refine nl ?_
 refine wp_seq ?_
 refine sr ?_
 refine mv hs rfl rfl fun a hs => ?_
 refine sv hs (y_neq rfl rfl) rfl fun a hs => ?_
 refine nl ?_
 refine wp_cond_split (hs.ev rfl) (fun h26 => ?_) (fun h26 => ?_)
 ·have hsh := ite_t hsh h26
  refine sr ?_
  refine mv hs rfl rfl fun a hs => ?_
  refine av hs rfl rfl fun a hs => ?_
  refine av hs rfl rfl fun a hs => ?_
  refine nl ?_
  have hsh := oi hsh
  subst hsh
  refine wp_ret ?_
  refine then_ret ?_
  exact ret2 hs rfl (rv_tmp rfl) (rv_tmp rfl) (hw.ret rfl)
 have hsh := ite_f hsh h26
 refine wp_skip ?_
 refine then_normal ?_
 refine sr ?_
 refine sv hs (y_loadBA (hw.ownAt 1 rfl) rfl Tryz.isAgg26 Tryz.sizeOf26 rfl rfl) rfl fun a hs => ?_
 refine mv hs rfl rfl fun a hs => ?_
 refine sv hs (y_fieldAddr (o' := 0) Tryz.runUnderlying28 rfl Tryz.sizeOf3 rfl rfl rfl) rfl fun a hs => ?_
 refine sv hs (y_loadB1 (hw.ownAt 0 rfl) rfl Tryz.isAgg3 rfl) rfl fun a hs => ?_
 refine mv hs rfl rfl fun a hs => ?_
 obtain ⟨rv28, h27, hsh⟩ := bind_t hsh
 refine st_callR hs (picker_onset_ok h27 hw.bdom (hw.bE 0 rfl)) (do_call Tryz.call39 rfl) trivial rfl rfl ?_
 intro v32 Sv29 w a h30 h31 hs
 subst h31
 have hw := hw.callB h30
 refine av hs rfl rfl fun a hs => ?_
 refine av hs rfl rfl fun a hs => ?_
 refine nl ?_
 have hsh := oi hsh
 subst hsh
 refine wp_ret ?_
 exact ret2 hs rfl (rv_tmp rfl) (rv_tmp rfl) (hw.ret rfl)
abbrev source_plain_rd (w0 : World) (X : List Nat) (r : Bool) : (Nat → Prop) → World → Value → Prop := fun S w v => v = .bool r
set_option maxHeartbeats 4000000 in
set_option maxRecDepth 100000 in
theorem source_plain_ok {w0 : World} {S0 : Nat → Prop} {c1 : Int} {r : Bool} (hsh : source_plain c1 = some r) (hS : ∀ b, S0 b → b < w0.heap.size) : Calls Tryz.prog 103 #[.int .u8 c1] w0 (Ret ([]) w0 S0 (source_plain_rd w0 ([]) r)) := by
 refine calls_of_wp Tryz.func103 rfl ?_
 have hs := Sl.enter #[.int .u8 c1] 17 [(0, .int .u8 c1)] rfl ⟨rfl, trivial⟩
 have hw := Wd.enter (E := []) hS (fun _ h => (by cases h))
 delta source_plain at hsh
 refine sr ?_
 refine av hs rfl rfl fun a hs => ?_
 refine nl ?_
 refine sr ?_
 refine mv hs rfl rfl fun a hs => ?_
 refine sv hs (y_geq rfl rfl) rfl fun a hs => ?_
 refine mv hs rfl rfl fun a hs => ?_
 refine wpl_join 3 (fun a w1 => w0 = w1 ∧ Sl 17 [(0, .int .u8 c1), (8, .bool ((decide (65 ≤ c1)) && (decide (c1 ≤ 90))))] a) ?_ ?_
 ·rcases Bool.eq_false_or_eq_true (decide (65 ≤ c1)) with h2 | h2
  ·have hs := hs.fix 5 (.bool true) rfl (vb h2)
   refine st_val hs (y_move rfl) ⟨_, rfl, rfl⟩ rfl rfl fun a hs => ?_
   refine st_val hs (y_leq rfl rfl) ⟨_, rfl, rfl⟩ rfl rfl fun a hs => ?_
   refine sv hs (y_pickT rfl rfl) rfl fun a hs => ?_
   refine nl ?_
   exact ⟨rfl, (hs.fix 8 (.bool ((decide (65 ≤ c1)) && (decide (c1 ≤ 90)))) rfl (and_t h2)).weaken _ ⟨rfl, rfl, trivial⟩⟩
  have hs := hs.fix 5 (.bool false) rfl (vb h2)
  refine st_skip hs rfl rfl rfl rfl rfl fun a hs => ?_
  refine st_skip hs rfl rfl rfl rfl rfl fun a hs => ?_
  refine sv hs (y_pickF rfl rfl) rfl fun a hs => ?_
  refine nl ?_
  exact ⟨rfl, (hs.fix 8 (.bool ((decide (65 ≤ c1)) && (decide (c1 ≤ 90)))) rfl (and_f h2)).weaken _ ⟨rfl, rfl, trivial⟩⟩
 rintro a w1 ⟨h9, hs⟩
 subst h9
 refine mv hs rfl rfl fun a hs => ?_
 refine wpl_join 7 (fun a w1 => w0 = w1 ∧ Sl 17 [(16, .bool (((decide (65 ≤ c1)) && (decide (c1 ≤ 90))) || ((decide (48 ≤ c1)) && (decide (c1 ≤ 57)))))] a) ?_ ?_
 ·rcases Bool.eq_false_or_eq_true ((decide (65 ≤ c1)) && (decide (c1 ≤ 90))) with h5 | h5
  ·have hs := hs.fix 9 (.bool true) rfl (vb h5)
   refine st_skip hs rfl rfl rfl rfl rfl fun a hs => ?_
   refine st_skip hs rfl rfl rfl rfl rfl fun a hs => ?_
   refine st_skip hs rfl rfl rfl rfl rfl fun a hs => ?_
   refine st_skipU hs rfl rfl rfl rfl rfl fun a hs => ?_
   refine st_skipU hs rfl rfl rfl rfl rfl fun a hs => ?_
   refine st_skip hs rfl rfl rfl rfl rfl fun a hs => ?_
   refine sv hs (y_pickT rfl rfl) rfl fun a hs => ?_
   refine nl ?_
   exact ⟨rfl, (hs.fix 16 (.bool (((decide (65 ≤ c1)) && (decide (c1 ≤ 90))) || ((decide (48 ≤ c1)) && (decide (c1 ≤ 57))))) rfl (or_t h5)).weaken _ ⟨rfl, trivial⟩⟩
  have hs := hs.fix 9 (.bool false) rfl (vb h5)
  refine st_val hs (y_move rfl) ⟨_, rfl, rfl⟩ rfl rfl fun a hs => ?_
  refine st_val hs (y_geq rfl rfl) ⟨_, rfl, rfl⟩ rfl rfl fun a hs => ?_
  refine st_val hs (y_move rfl) ⟨_, rfl, rfl⟩ rfl rfl fun a hs => ?_
  refine wpl_join 3 (fun a w1 => w0 = w1 ∧ Sl 17 [(9, .bool false), (15, .bool ((decide (48 ≤ c1)) && (decide (c1 ≤ 57))))] a) ?_ ?_
  ·rcases Bool.eq_false_or_eq_true (decide (48 ≤ c1)) with h6 | h6
   ·have hs := hs.fix 12 (.bool true) rfl (vb h6)
    refine st_val hs (y_move rfl) ⟨_, rfl, rfl⟩ rfl rfl fun a hs => ?_
    refine st_val hs (y_leq rfl rfl) ⟨_, rfl, rfl⟩ rfl rfl fun a hs => ?_
    refine st_val hs (y_pickT rfl rfl) ⟨_, rfl, rfl⟩ rfl rfl fun a hs => ?_
    refine nl ?_
    exact ⟨rfl, (hs.fix 15 (.bool ((decide (48 ≤ c1)) && (decide (c1 ≤ 57)))) rfl (and_t h6)).weaken _ ⟨rfl, rfl, trivial⟩⟩
   have hs := hs.fix 12 (.bool false) rfl (vb h6)
   refine st_skip hs rfl rfl rfl rfl rfl fun a hs => ?_
   refine st_skip hs rfl rfl rfl rfl rfl fun a hs => ?_
   refine st_val hs (y_pickF rfl rfl) ⟨_, rfl, rfl⟩ rfl rfl fun a hs => ?_
   refine nl ?_
   exact ⟨rfl, (hs.fix 15 (.bool ((decide (48 ≤ c1)) && (decide (c1 ≤ 57)))) rfl (and_f h6)).weaken _ ⟨rfl, rfl, trivial⟩⟩
  rintro a w1 ⟨h7, hs⟩
  subst h7
  refine sv hs (y_pickF rfl rfl) rfl fun a hs => ?_
  refine nl ?_
  exact ⟨rfl, (hs.fix 16 (.bool (((decide (65 ≤ c1)) && (decide (c1 ≤ 90))) || ((decide (48 ≤ c1)) && (decide (c1 ≤ 57))))) rfl (or_f h5)).weaken _ ⟨rfl, trivial⟩⟩
 rintro a w1 ⟨h8, hs⟩
 subst h8
 refine av hs rfl rfl fun a hs => ?_
 refine nl ?_
 have hsh := oi hsh
 subst hsh
 refine wp_ret ?_
 exact ret1 hs rfl (rv_tmp rfl) (hw.ret rfl)
abbrev source_code_rd (w0 : World) (X : List Nat) (r : Bool) : (Nat → Prop) → World → Value → Prop := fun S w v => v = .bool r
set_option maxHeartbeats 4000000 in
set_option maxRecDepth 100000 in
theorem source_code_ok {w0 : World} {S0 : Nat → Prop} {s1 : ByteArray} {low2 : Int} {high3 : Int} {r : Bool} (hsh : source_code s1 low2 high3 = some r) (hS : ∀ b, S0 b → b < w0.heap.size) : Calls Tryz.prog 78 #[.string s1, .int .i64 low2, .int .i64 high3] w0 (Ret ([]) w0 S0 (source_code_rd w0 ([]) r)) := by
 refine calls_of_wp Tryz.func78 rfl ?_
 have hs := Sl.enter #[.string s1, .int .i64 low2, .int .i64 high3] 29 [(0, .string s1), (1, .int .i64 low2), (2, .int .i64 high3)] rfl ⟨rfl, rfl, rfl, trivial⟩
 have hw := Wd.enter (E := []) hS (fun _ h => (by cases h))
 delta source_code at hsh
 refine sr ?_
 refine av hs rfl rfl fun a hs => ?_
 refine nl ?_
 refine wp_seq ?_
 refine sr ?_
 refine mv hs rfl rfl fun a hs => ?_
 refine sv hs (y_lenS Tryz.runUnderlying9 rfl) rfl fun a hs => ?_
 refine mv hs rfl rfl fun a hs => ?_
 refine nl ?_
 refine wp_block ?_
 refine wp_while (fun sv42 a w => ∃ (Sv66 : Nat → Prop), Sl 29 [(0, .string s1), (1, .int .i64 low2), (2, .int .i64 high3), (9, .int .i64 (s1.size : Int)), (10, .int .i64 sv42)] a ∧ Wd ⟨w0, S0, []⟩ Sv66 [] [] w) 0 hsh ⟨S0, (hs.wk rfl), (hw.ft [] [] (by decide) rfl rfl)⟩ ?_
 repeat clear hsh
 rintro sv42 a w tv79 ⟨Sv66, hs, hw⟩ hsh hd78
 delta source_code_l2 at hsh
 refine sr ?_
 refine sv hs (y_lss rfl rfl) rfl fun a hs => ?_
 refine nl ?_
 refine wp_seq ?_
 refine wp_cond_split (hs.ev rfl) (fun h83 => ?_) (fun h83 => ?_)
 ·have hsh := ite_t hsh h83
  refine wp_skip ?_
  refine then_normal ?_
  refine wp_seq ?_
  refine wp_block ?_
  refine sr ?_
  refine mv hs rfl rfl fun a hs => ?_
  refine av hs rfl rfl fun a hs => ?_
  refine nl ?_
  refine sr ?_
  refine mv hs rfl rfl fun a hs => ?_
  refine mv hs rfl rfl fun a hs => ?_
  obtain ⟨c95, h94, hsh⟩ := bind_t hsh
  refine sv hs (y_indexSM Tryz.runUnderlying9 rfl rfl h94) rfl fun a hs => ?_
  obtain ⟨rv97, h96, hsh⟩ := bind_t hsh
  refine st_callR hs (source_plain_ok h96 hw.bdom) (do_call Tryz.call103 rfl) trivial rfl rfl ?_
  intro v101 Sv98 w a h99 h100 hs
  subst h100
  have hw := hw.callB h99
  refine sv hs (y_not rfl) rfl fun a hs => ?_
  refine nl ?_
  refine wp_cond_split (hs.ev rfl) (fun h104 => ?_) (fun h104 => ?_)
  ·have hsh := ite_t hsh h104
   refine sr ?_
   refine av hs rfl rfl fun a hs => ?_
   refine nl ?_
   have hsh := oi hsh
   subst hsh
   have h105 := hd78 _ rfl
   subst h105
   refine wp_ret ?_
   refine blk_ret ?_
   refine then_ret ?_
   refine then_ret ?_
   refine blk_ret ?_
   refine then_ret ?_
   exact ret1 hs rfl (rv_tmp rfl) (hw.ret rfl)
  have hsh := ite_f hsh h104
  refine wp_skip ?_
  refine blk_normal ?_
  refine then_normal ?_
  refine wp_region_lit ?_
  refine sv hs (y_add rfl rfl) rfl fun a hs => ?_
  refine mv hs rfl rfl fun a hs => ?_
  refine nl ?_
  exact ⟨_, (Option.some.inj hsh).symm, Sv66, (hs.wk rfl), (hw.ft [] [] (by decide) rfl rfl)⟩
 have hsh := ite_f hsh h83
 obtain ⟨rv108, hsh, h109⟩ := map_t hsh
 have h109 := (hd78 _ h109.symm).symm
 subst h109
 refine wp_exit ?_
 refine then_exit ?_
 refine then_exit ?_
 refine blk_exit ?_
 refine then_normal ?_
 refine sr ?_
 refine mv hs rfl rfl fun a hs => ?_
 refine sv hs (y_lenS Tryz.runUnderlying9 rfl) rfl fun a hs => ?_
 refine mv hs rfl rfl fun a hs => ?_
 refine sv hs (y_geq rfl rfl) rfl fun a hs => ?_
 refine mv hs rfl rfl fun a hs => ?_
 refine wpl_join 5 (fun a w1 => w = w1 ∧ Sl 29 [(28, .bool ((decide (low2 ≤ (s1.size : Int))) && (decide ((s1.size : Int) ≤ high3))))] a) ?_ ?_
 ·rcases Bool.eq_false_or_eq_true (decide (low2 ≤ (s1.size : Int))) with h106 | h106
  ·have hs := hs.fix 23 (.bool true) rfl (vb h106)
   refine st_val hs (y_move rfl) ⟨_, rfl, rfl⟩ rfl rfl fun a hs => ?_
   refine st_val hs (y_lenS Tryz.runUnderlying9 rfl) ⟨_, rfl, rfl⟩ rfl rfl fun a hs => ?_
   refine st_val hs (y_move rfl) ⟨_, rfl, rfl⟩ rfl rfl fun a hs => ?_
   refine st_val hs (y_leq rfl rfl) ⟨_, rfl, rfl⟩ rfl rfl fun a hs => ?_
   refine sv hs (y_pickT rfl rfl) rfl fun a hs => ?_
   refine nl ?_
   exact ⟨rfl, (hs.fix 28 (.bool ((decide (low2 ≤ (s1.size : Int))) && (decide ((s1.size : Int) ≤ high3)))) rfl (and_t h106)).weaken _ ⟨rfl, trivial⟩⟩
  have hs := hs.fix 23 (.bool false) rfl (vb h106)
  refine st_skip hs rfl rfl rfl rfl rfl fun a hs => ?_
  refine st_skip hs rfl rfl rfl rfl rfl fun a hs => ?_
  refine st_skip hs rfl rfl rfl rfl rfl fun a hs => ?_
  refine st_skip hs rfl rfl rfl rfl rfl fun a hs => ?_
  refine sv hs (y_pickF rfl rfl) rfl fun a hs => ?_
  refine nl ?_
  exact ⟨rfl, (hs.fix 28 (.bool ((decide (low2 ≤ (s1.size : Int))) && (decide ((s1.size : Int) ≤ high3)))) rfl (and_f h106)).weaken _ ⟨rfl, trivial⟩⟩
 rintro a w1 ⟨h107, hs⟩
 subst h107
 refine av hs rfl rfl fun a hs => ?_
 refine nl ?_
 have hsh := oi hsh
 subst hsh
 refine wp_ret ?_
 exact ret1 hs rfl (rv_tmp rfl) (hw.ret rfl)
abbrev source_Valid_rd (w0 : World) (X : List Nat) (r : Bool) : (Nat → Prop) → World → Value → Prop := fun S w v => v = .bool r
set_option maxHeartbeats 4000000 in
set_option maxRecDepth 100000 in
theorem source_Valid_ok {w0 : World} {S0 : Nat → Prop} {s1 : SourceID} {r : Bool} (hsh : source_Valid s1 = some r) (hS : ∀ b, S0 b → b < w0.heap.size) : Calls Tryz.prog 52 #[.agg #[.string s1.Network, .string s1.Station, .string s1.Location, .string s1.Channel]] w0 (Ret ([]) w0 S0 (source_Valid_rd w0 ([]) r)) := by
 refine calls_of_wp Tryz.func52 rfl ?_
 have hs := Sl.enter #[.agg #[.string s1.Network, .string s1.Station, .string s1.Location, .string s1.Channel]] 27 [(0, .agg #[.string s1.Network, .string s1.Station, .string s1.Location, .string s1.Channel])] rfl ⟨rfl, trivial⟩
 have hw := Wd.enter (E := []) hS (fun _ h => (by cases h))
 delta source_Valid at hsh
 refine sr ?_
 refine w_box (cs := [.string s1.Network, .string s1.Station, .string s1.Location, .string s1.Channel]) hs hw rfl rfl rfl trivial ?_
 intro b2 a w hs hw
 refine av hs rfl rfl fun a hs => ?_
 refine nl ?_
 refine sr ?_
 refine sv hs (y_fieldAddr (o' := 0) Tryz.runUnderlying41 rfl Tryz.sizeOf9 rfl rfl rfl) rfl fun a hs => ?_
 refine sv hs (y_loadB1 (hw.ownAt 0 rfl) rfl Tryz.isAgg9 rfl) rfl fun a hs => ?_
 obtain ⟨rv4, h3, hsh⟩ := bind_t hsh
 refine st_callR hs (source_code_ok h3 hw.bdom) (do_call Tryz.call78 rfl) trivial rfl rfl ?_
 intro v8 Sv5 w a h6 h7 hs
 subst h7
 have hw := hw.callB h6
 refine mv hs rfl rfl fun a hs => ?_
 obtain ⟨c18, hc18, hsh⟩ := bind_t hsh
 refine wpl_join 4 (fun a w => ∃ (Sv19 : Nat → Prop), Sl 27 [(1, .pointer (some ⟨b2, 0, none⟩)), (10, .bool c18)] a ∧ Wd ⟨w0, S0, []⟩ Sv19 [.box b2 [.string s1.Network, .string s1.Station, .string s1.Location, .string s1.Channel] 41] [] w) ?_ ?_
 ·rcases Bool.eq_false_or_eq_true rv4 with h17 | h17
  ·have hs := hs.fix 6 (.bool true) rfl (vb h17)
   have hsh := ite_t hc18 h17
   refine st_val hs (y_fieldAddr (o' := 1) Tryz.runUnderlying41 rfl Tryz.sizeOf9 rfl rfl rfl) ⟨_, rfl, rfl⟩ rfl rfl fun a hs => ?_
   refine st_val hs (y_loadB1 (hw.ownAt 0 rfl) rfl Tryz.isAgg9 rfl) ⟨_, rfl, rfl⟩ rfl rfl fun a hs => ?_
   obtain ⟨rv21, h20, hsh⟩ := bind_t hsh
   refine st_callR hs (source_code_ok h20 hw.bdom) (do_call Tryz.call78 rfl) ⟨_, rfl, rfl⟩ rfl rfl ?_
   intro v25 Sv22 w a h23 h24 hs
   subst h24
   have hw := hw.callB h23
   refine sv hs (y_pickT rfl rfl) rfl fun a hs => ?_
   refine wpList_nil ?_
   have hsh := oi hsh
   subst hsh
   refine then_normal ?_
   exact ⟨S0, (hs.wk rfl), (hw.ft [0] [] (by decide) rfl rfl)⟩
  have hs := hs.fix 6 (.bool false) rfl (vb h17)
  have hsh := ite_f hc18 h17
  refine st_skip hs rfl rfl rfl rfl rfl fun a hs => ?_
  refine st_skip hs rfl rfl rfl rfl rfl fun a hs => ?_
  refine st_skip hs rfl rfl rfl rfl rfl fun a hs => ?_
  refine sv hs (y_pickF rfl rfl) rfl fun a hs => ?_
  refine wpList_nil ?_
  have hsh := oi hsh
  subst hsh
  refine then_normal ?_
  exact ⟨S0, (hs.wk rfl), (hw.ft [0] [] (by decide) rfl rfl)⟩
 rintro a w ⟨Sv19, hs, hw⟩
 refine mv hs rfl rfl fun a hs => ?_
 obtain ⟨c35, hc35, hsh⟩ := bind_t hsh
 refine wpl_join 4 (fun a w => ∃ (Sv36 : Nat → Prop), Sl 27 [(1, .pointer (some ⟨b2, 0, none⟩)), (15, .bool c35)] a ∧ Wd ⟨w0, S0, []⟩ Sv36 [.box b2 [.string s1.Network, .string s1.Station, .string s1.Location, .string s1.Channel] 41] [] w) ?_ ?_
 ·rcases Bool.eq_false_or_eq_true c18 with h34 | h34
  ·have hs := hs.fix 11 (.bool true) rfl (vb h34)
   have hsh := ite_t hc35 h34
   refine st_val hs (y_fieldAddr (o' := 2) Tryz.runUnderlying41 rfl Tryz.sizeOf9 rfl rfl rfl) ⟨_, rfl, rfl⟩ rfl rfl fun a hs => ?_
   refine st_val hs (y_loadB1 (hw.ownAt 0 rfl) rfl Tryz.isAgg9 rfl) ⟨_, rfl, rfl⟩ rfl rfl fun a hs => ?_
   obtain ⟨rv38, h37, hsh⟩ := bind_t hsh
   refine st_callR hs (source_code_ok h37 hw.bdom) (do_call Tryz.call78 rfl) ⟨_, rfl, rfl⟩ rfl rfl ?_
   intro v42 Sv39 w a h40 h41 hs
   subst h41
   have hw := hw.callB h40
   refine sv hs (y_pickT rfl rfl) rfl fun a hs => ?_
   refine wpList_nil ?_
   have hsh := oi hsh
   subst hsh
   refine then_normal ?_
   exact ⟨Sv19, (hs.wk rfl), (hw.ft [0] [] (by decide) rfl rfl)⟩
  have hs := hs.fix 11 (.bool false) rfl (vb h34)
  have hsh := ite_f hc35 h34
  refine st_skip hs rfl rfl rfl rfl rfl fun a hs => ?_
  refine st_skip hs rfl rfl rfl rfl rfl fun a hs => ?_
  refine st_skip hs rfl rfl rfl rfl rfl fun a hs => ?_
  refine sv hs (y_pickF rfl rfl) rfl fun a hs => ?_
  refine wpList_nil ?_
  have hsh := oi hsh
  subst hsh
  refine then_normal ?_
  exact ⟨Sv19, (hs.wk rfl), (hw.ft [0] [] (by decide) rfl rfl)⟩
 rintro a w ⟨Sv36, hs, hw⟩
 refine mv hs rfl rfl fun a hs => ?_
 refine wpl_join 5 (fun a w1 => w = w1 ∧ Sl 27 [(1, .pointer (some ⟨b2, 0, none⟩)), (21, .bool (c35 && ((s1.Location.size : Int) != 1)))] a) ?_ ?_
 ·rcases Bool.eq_false_or_eq_true c35 with h44 | h44
  ·have hs := hs.fix 16 (.bool true) rfl (vb h44)
   refine st_val hs (y_fieldAddr (o' := 2) Tryz.runUnderlying41 rfl Tryz.sizeOf9 rfl rfl rfl) ⟨_, rfl, rfl⟩ rfl rfl fun a hs => ?_
   refine st_val hs (y_loadB1 (hw.ownAt 0 rfl) rfl Tryz.isAgg9 rfl) ⟨_, rfl, rfl⟩ rfl rfl fun a hs => ?_
   refine st_val hs (y_lenS Tryz.runUnderlying9 rfl) ⟨_, rfl, rfl⟩ rfl rfl fun a hs => ?_
   refine st_val hs (y_neq rfl rfl) ⟨_, rfl, rfl⟩ rfl rfl fun a hs => ?_
   refine sv hs (y_pickT rfl rfl) rfl fun a hs => ?_
   refine nl ?_
   exact ⟨rfl, (hs.fix 21 (.bool (c35 && ((s1.Location.size : Int) != 1))) rfl (and_t h44)).weaken _ ⟨rfl, rfl, trivial⟩⟩
  have hs := hs.fix 16 (.bool false) rfl (vb h44)
  refine st_skip hs rfl rfl rfl rfl rfl fun a hs => ?_
  refine st_skip hs rfl rfl rfl rfl rfl fun a hs => ?_
  refine st_skip hs rfl rfl rfl rfl rfl fun a hs => ?_
  refine st_skip hs rfl rfl rfl rfl rfl fun a hs => ?_
  refine sv hs (y_pickF rfl rfl) rfl fun a hs => ?_
  refine nl ?_
  exact ⟨rfl, (hs.fix 21 (.bool (c35 && ((s1.Location.size : Int) != 1))) rfl (and_f h44)).weaken _ ⟨rfl, rfl, trivial⟩⟩
 rintro a w1 ⟨h62, hs⟩
 subst h62
 refine mv hs rfl rfl fun a hs => ?_
 obtain ⟨c53, hc53, hsh⟩ := bind_t hsh
 refine wpl_join 4 (fun a w => ∃ (Sv54 : Nat → Prop), Sl 27 [(26, .bool c53)] a ∧ Wd ⟨w0, S0, []⟩ Sv54 [] [] w) ?_ ?_
 ·rcases Bool.eq_false_or_eq_true (c35 && ((s1.Location.size : Int) != 1)) with h52 | h52
  ·have hs := hs.fix 22 (.bool true) rfl (vb h52)
   have hsh := ite_t hc53 h52
   refine st_val hs (y_fieldAddr (o' := 3) Tryz.runUnderlying41 rfl Tryz.sizeOf9 rfl rfl rfl) ⟨_, rfl, rfl⟩ rfl rfl fun a hs => ?_
   refine st_val hs (y_loadB1 (hw.ownAt 0 rfl) rfl Tryz.isAgg9 rfl) ⟨_, rfl, rfl⟩ rfl rfl fun a hs => ?_
   obtain ⟨rv56, h55, hsh⟩ := bind_t hsh
   refine st_callR hs (source_code_ok h55 hw.bdom) (do_call Tryz.call78 rfl) ⟨_, rfl, rfl⟩ rfl rfl ?_
   intro v60 Sv57 w a h58 h59 hs
   subst h59
   have hw := hw.callB h58
   refine sv hs (y_pickT rfl rfl) rfl fun a hs => ?_
   refine wpList_nil ?_
   have hsh := oi hsh
   subst hsh
   refine then_normal ?_
   exact ⟨Sv36, (hs.wk rfl), (hw.ft [] [] (by decide) rfl rfl)⟩
  have hs := hs.fix 22 (.bool false) rfl (vb h52)
  have hsh := ite_f hc53 h52
  refine st_skip hs rfl rfl rfl rfl rfl fun a hs => ?_
  refine st_skip hs rfl rfl rfl rfl rfl fun a hs => ?_
  refine st_skip hs rfl rfl rfl rfl rfl fun a hs => ?_
  refine sv hs (y_pickF rfl rfl) rfl fun a hs => ?_
  refine wpList_nil ?_
  have hsh := oi hsh
  subst hsh
  refine then_normal ?_
  exact ⟨Sv36, (hs.wk rfl), (hw.ft [] [] (by decide) rfl rfl)⟩
 rintro a w ⟨Sv54, hs, hw⟩
 refine av hs rfl rfl fun a hs => ?_
 refine nl ?_
 have hsh := oi hsh
 subst hsh
 refine wp_ret ?_
 exact ret1 hs rfl (rv_tmp rfl) (hw.ret rfl)
abbrev slices_IndexFunc_Lapi_Segment_api_Segment_rd (w0 : World) (X : List Nat) (r : Int) : (Nat → Prop) → World → Value → Prop := fun S w v => v = .int .i64 r
set_option maxHeartbeats 4000000 in
set_option maxRecDepth 100000 in
theorem slices_IndexFunc_Lapi_Segment_api_Segment_ok {w0 : World} {S0 : Nat → Prop} {p2 : Option Addr} {k3 : Nat} {g6 : Nat} {f7 : List Value} {cp8 : List Value} {s1 : (List Segment)} {f5 : Segment → Option Bool} {r : Int} (hsh : slices_IndexFunc_Lapi_Segment_api_Segment s1 f5 = some r) (hS : ∀ b, S0 b → b < w0.heap.size) (h4 : (SlA p2 s1.length k3 s1).p S0 w0) (h9 : (FnA1 Tryz.prog g6 f7 cp8 f5).p S0 w0) : Calls Tryz.prog 84 #[.slice p2 s1.length k3, .func (.func g6) f7.toArray cp8.toArray] w0 (Ret ([]) w0 S0 (slices_IndexFunc_Lapi_Segment_api_Segment_rd w0 ([]) r)) := by
 refine calls_of_wp Tryz.func84 rfl ?_
 have hs := Sl.enter #[.slice p2 s1.length k3, .func (.func g6) f7.toArray cp8.toArray] 19 [(0, .slice p2 s1.length k3), (1, .func (.func g6) f7.toArray cp8.toArray)] rfl ⟨rfl, rfl, trivial⟩
 have hw := Wd.enter (E := []) hS (fun _ h => (by cases h))
 have hw := hw.addE h4
 have hw := hw.addE h9
 delta slices_IndexFunc_Lapi_Segment_api_Segment at hsh
 refine sr ?_
 refine av hs rfl rfl fun a hs => ?_
 refine nl ?_
 refine wp_seq ?_
 refine sr ?_
 refine mv hs rfl rfl fun a hs => ?_
 refine sv hs (y_len Tryz.runUnderlying30 rfl) rfl fun a hs => ?_
 refine mv hs rfl rfl fun a hs => ?_
 refine nl ?_
 refine wp_block ?_
 refine wp_while (fun sv90 a w => ∃ (Sv142 : Nat → Prop), Sl 19 [(0, .slice p2 s1.length k3), (1, .func (.func g6) f7.toArray cp8.toArray), (7, .int .i64 (s1.length : Int)), (8, .int .i64 sv90)] a ∧ Wd ⟨w0, S0, []⟩ Sv142 [] [SlA p2 s1.length k3 s1, FnA1 Tryz.prog g6 f7 cp8 f5] w) 0 hsh ⟨S0, (hs.wk rfl), (hw.ft [] [1, 0] (by decide) rfl rfl)⟩ ?_
 repeat clear hsh
 rintro sv90 a w tv169 ⟨Sv142, hs, hw⟩ hsh hd168
 delta slices_IndexFunc_Lapi_Segment_api_Segment_l2 at hsh
 refine sr ?_
 refine sv hs (y_lss rfl rfl) rfl fun a hs => ?_
 refine nl ?_
 refine wp_seq ?_
 refine wp_cond_split (hs.ev rfl) (fun h173 => ?_) (fun h173 => ?_)
 ·have hsh := ite_t hsh h173
  refine wp_skip ?_
  refine then_normal ?_
  refine wp_seq ?_
  refine wp_block ?_
  refine sr ?_
  refine mv hs rfl rfl fun a hs => ?_
  refine av hs rfl rfl fun a hs => ?_
  refine nl ?_
  refine sr ?_
  refine mv hs rfl rfl fun a hs => ?_
  refine mv hs rfl rfl fun a hs => ?_
  refine mv hs rfl rfl fun a hs => ?_
  obtain ⟨x200, h198, hsh⟩ := bind_t hsh
  obtain ⟨b206, o207, q204, c205, h208, h201, h202, h203, h199⟩ := hw.elemV 0 rfl h198
  have hsv209 := hs
  have hwv210 := hw
  subst h208
  have hs := hsv209
  have hw := hwv210
  obtain ⟨_, _, _, _, _, _, rfl, rfl, rfl, rfl, rfl, rfl, ⟨p211, n212, k213, rfl, h214⟩⟩ := h199
  obtain rfl := h214.1
  have hw := hw.addE (e := SlA p211 _ k213 x200.Samples) h214
  have hw := hw.addE h203
  refine sv hs (y_indexAt Tryz.runUnderlying30 Tryz.sizeOf36 rfl rfl h201.1 h201.2 h202) rfl fun a hs => ?_
  refine sv hs (y_loadEA (j := 0) (hw.ceAt 0 rfl) rfl Tryz.isAgg36 Tryz.sizeOf36 rfl rfl) rfl fun a hs => ?_
  obtain ⟨rv216, h215, hsh⟩ := bind_t hsh
  refine st_callR hs ((hw.bE 3 rfl).2 Keep.rfl' hw.bdom ⟨_, _, _, _, _, _, rfl, rfl, rfl, rfl, rfl, rfl, ⟨_, _, _, rfl, hw.bE 1 rfl⟩⟩ h215) (do_callF (hw.bE 3 rfl).1 rfl rfl) trivial rfl rfl ?_
  intro v220 Sv217 w a h218 h219 hs
  subst h219
  have hw := hw.callB h218
  refine nl ?_
  refine wp_cond_split (hs.ev rfl) (fun h222 => ?_) (fun h222 => ?_)
  ·have hsh := ite_t hsh h222
   refine sr ?_
   refine mv hs rfl rfl fun a hs => ?_
   refine av hs rfl rfl fun a hs => ?_
   refine nl ?_
   have hsh := oi hsh
   subst hsh
   have h223 := hd168 _ rfl
   subst h223
   refine wp_ret ?_
   refine blk_ret ?_
   refine then_ret ?_
   refine then_ret ?_
   refine blk_ret ?_
   refine then_ret ?_
   exact ret1 hs rfl (rv_tmp rfl) (hw.ret rfl)
  have hsh := ite_f hsh h222
  refine wp_skip ?_
  refine blk_normal ?_
  refine then_normal ?_
  refine wp_region_lit ?_
  refine sv hs (y_add rfl rfl) rfl fun a hs => ?_
  refine mv hs rfl rfl fun a hs => ?_
  refine nl ?_
  exact ⟨_, (Option.some.inj hsh).symm, Sv142, (hs.wk rfl), (hw.ft [] [2, 3] (by decide) rfl rfl)⟩
 have hsh := ite_f hsh h173
 obtain ⟨rv224, hsh, h225⟩ := map_t hsh
 have h225 := (hd168 _ h225.symm).symm
 subst h225
 refine wp_exit ?_
 refine then_exit ?_
 refine then_exit ?_
 refine blk_exit ?_
 refine then_normal ?_
 refine sr ?_
 refine av hs rfl rfl fun a hs => ?_
 refine nl ?_
 have hsh := oi hsh
 subst hsh
 refine wp_ret ?_
 exact ret1 hs rfl (rv_tmp rfl) (hw.ret rfl)
abbrev slices_ContainsFunc_Lapi_Segment_api_Segment_rd (w0 : World) (X : List Nat) (r : Bool) : (Nat → Prop) → World → Value → Prop := fun S w v => v = .bool r
set_option maxHeartbeats 4000000 in
set_option maxRecDepth 100000 in
theorem slices_ContainsFunc_Lapi_Segment_api_Segment_ok {w0 : World} {S0 : Nat → Prop} {p2 : Option Addr} {k3 : Nat} {g6 : Nat} {f7 : List Value} {cp8 : List Value} {s1 : (List Segment)} {f5 : Segment → Option Bool} {r : Bool} (hsh : slices_ContainsFunc_Lapi_Segment_api_Segment s1 f5 = some r) (hS : ∀ b, S0 b → b < w0.heap.size) (h4 : (SlA p2 s1.length k3 s1).p S0 w0) (h9 : (FnA1 Tryz.prog g6 f7 cp8 f5).p S0 w0) : Calls Tryz.prog 64 #[.slice p2 s1.length k3, .func (.func g6) f7.toArray cp8.toArray] w0 (Ret ([]) w0 S0 (slices_ContainsFunc_Lapi_Segment_api_Segment_rd w0 ([]) r)) := by
 refine calls_of_wp Tryz.func64 rfl ?_
 have hs := Sl.enter #[.slice p2 s1.length k3, .func (.func g6) f7.toArray cp8.toArray] 9 [(0, .slice p2 s1.length k3), (1, .func (.func g6) f7.toArray cp8.toArray)] rfl ⟨rfl, rfl, trivial⟩
 have hw := Wd.enter (E := []) hS (fun _ h => (by cases h))
 have hw := hw.addE h4
 have hw := hw.addE h9
 delta slices_ContainsFunc_Lapi_Segment_api_Segment at hsh
 refine sr ?_
 refine av hs rfl rfl fun a hs => ?_
 refine nl ?_
 refine sr ?_
 refine mv hs rfl rfl fun a hs => ?_
 refine mv hs rfl rfl fun a hs => ?_
 obtain ⟨rv11, h10, hsh⟩ := bind_t hsh
 refine st_callR hs (slices_IndexFunc_Lapi_Segment_api_Segment_ok h10 hw.bdom (hw.bE 1 rfl) (hw.bE 0 rfl)) (do_call Tryz.call84 rfl) trivial rfl rfl ?_
 intro v15 Sv12 w a h13 h14 hs
 subst h14
 have hw := hw.callB h13
 refine sv hs (y_geq rfl rfl) rfl fun a hs => ?_
 refine av hs rfl rfl fun a hs => ?_
 refine nl ?_
 have hsh := oi hsh
 subst hsh
 refine wp_ret ?_
 exact ret1 hs rfl (rv_tmp rfl) (hw.ret rfl)
abbrev continuity_body_rd (w0 : World) (X : List Nat) (r : Record) : (Nat → Prop) → World → Value → Prop := fun S w v => ∃ (p0_11 : Option Addr) (k0_11 : Nat), v = .agg #[.string r.Source.Network, .string r.Source.Station, .string r.Source.Location, .string r.Source.Channel, .int .i64 r.Start, .int .i64 r.First, .int .i64 r.Rate.Num, .int .i64 r.Rate.Den, .int .i64 r.Error, .int .i64 r.Run, .int .i64 r.Seq, .slice p0_11 r.Samples.length k0_11] ∧ (SlA p0_11 r.Samples.length k0_11 r.Samples).p S w
set_option maxHeartbeats 4000000 in
set_option maxRecDepth 100000 in
theorem continuity_body_ok {w0 : World} {S0 : Nat → Prop} {p2 : Option Addr} {k3 : Nat} {s1 : Segment} {r : Record} (hsh : continuity_body s1 = some r) (hS : ∀ b, S0 b → b < w0.heap.size) (h4 : (SlA p2 s1.Samples.length k3 s1.Samples).p S0 w0) : Calls Tryz.prog 86 #[.agg #[.int .i64 s1.Start, .int .i64 s1.First, .int .i64 s1.Rate.Num, .int .i64 s1.Rate.Den, .int .i64 s1.Error, .slice p2 s1.Samples.length k3]] w0 (Ret ([]) w0 S0 (continuity_body_rd w0 ([]) r)) := by
 refine calls_of_wp Tryz.func86 rfl ?_
 have hs := Sl.enter #[.agg #[.int .i64 s1.Start, .int .i64 s1.First, .int .i64 s1.Rate.Num, .int .i64 s1.Rate.Den, .int .i64 s1.Error, .slice p2 s1.Samples.length k3]] 15 [(0, .agg #[.int .i64 s1.Start, .int .i64 s1.First, .int .i64 s1.Rate.Num, .int .i64 s1.Rate.Den, .int .i64 s1.Error, .slice p2 s1.Samples.length k3])] rfl ⟨rfl, trivial⟩
 have hw := Wd.enter (E := []) hS (fun _ h => (by cases h))
 have hw := hw.addE h4
 delta continuity_body at hsh
 refine sr ?_
 refine w_box (cs := [.int .i64 s1.Start, .int .i64 s1.First, .int .i64 s1.Rate.Num, .int .i64 s1.Rate.Den, .int .i64 s1.Error, .slice p2 s1.Samples.length k3]) hs hw rfl rfl rfl trivial ?_
 intro b5 a w hs hw
 refine w_alloc (cs := [.string ByteArray.empty, .string ByteArray.empty, .string ByteArray.empty, .string ByteArray.empty, .int .i64 0, .int .i64 0, .int .i64 0, .int .i64 0, .int .i64 0, .int .i64 0, .int .i64 0, .slice none ([] : List Int).length 0]) hs hw Tryz.zeroValue102 rfl rfl trivial ?_
 intro b6 a w hs hw
 refine nl ?_
 refine sr ?_
 refine sv hs (y_build (vs := [(0, .string (⟨#[78]⟩ : ByteArray)), (1, .string (⟨#[83]⟩ : ByteArray)), (3, .string (⟨#[67, 72, 65]⟩ : ByteArray))]) Bld41 rfl rfl) rfl fun a hs => ?_
 refine sv hs (y_fieldAddr (o' := 0) Tryz.runUnderlying36 rfl Tryz.sizeOf3 rfl rfl rfl) rfl fun a hs => ?_
 refine sv hs (y_loadB1 (hw.ownAt 1 rfl) rfl Tryz.isAgg3 rfl) rfl fun a hs => ?_
 refine sv hs (y_fieldAddr (o' := 1) Tryz.runUnderlying36 rfl Tryz.sizeOf3 rfl rfl rfl) rfl fun a hs => ?_
 refine sv hs (y_loadB1 (hw.ownAt 1 rfl) rfl Tryz.isAgg3 rfl) rfl fun a hs => ?_
 refine sv hs (y_fieldAddr (o' := 2) Tryz.runUnderlying36 rfl Tryz.sizeOf34 rfl rfl rfl) rfl fun a hs => ?_
 refine sv hs (y_loadBA (hw.ownAt 1 rfl) rfl Tryz.isAgg34 Tryz.sizeOf34 rfl rfl) rfl fun a hs => ?_
 refine sv hs (y_fieldAddr (o' := 4) Tryz.runUnderlying36 rfl Tryz.sizeOf3 rfl rfl rfl) rfl fun a hs => ?_
 refine sv hs (y_loadB1 (hw.ownAt 1 rfl) rfl Tryz.isAgg3 rfl) rfl fun a hs => ?_
 refine sv hs (y_fieldAddr (o' := 5) Tryz.runUnderlying36 rfl Tryz.sizeOf22 rfl rfl rfl) rfl fun a hs => ?_
 refine sv hs (y_loadB1 (hw.ownAt 1 rfl) rfl Tryz.isAgg22 rfl) rfl fun a hs => ?_
 refine sv hs (y_build (vs := [(0, .agg #[.string (⟨#[78]⟩ : ByteArray), .string (⟨#[83]⟩ : ByteArray), .string ByteArray.empty, .string (⟨#[67, 72, 65]⟩ : ByteArray)]), (1, .int .i64 s1.Start), (2, .int .i64 s1.First), (3, .agg #[.int .i64 s1.Rate.Num, .int .i64 s1.Rate.Den]), (4, .int .i64 s1.Error), (7, .slice p2 s1.Samples.length k3)]) Bld102 rfl rfl) rfl fun a hs => ?_
 refine w_store (m := 12) (cs' := [.string (⟨#[78]⟩ : ByteArray), .string (⟨#[83]⟩ : ByteArray), .string ByteArray.empty, .string (⟨#[67, 72, 65]⟩ : ByteArray), .int .i64 s1.Start, .int .i64 s1.First, .int .i64 s1.Rate.Num, .int .i64 s1.Rate.Den, .int .i64 s1.Error, .int .i64 0, .int .i64 0, .slice p2 s1.Samples.length k3]) hs hw 0 rfl rfl rfl Tryz.sizeOf102 rfl rfl rfl rfl trivial ?_
 intro a w hs hw
 refine nl ?_
 have hsh := oi hsh
 subst hsh
 refine wp_ret ?_
 exact ret1 hs rfl (rv_cell hw 0 rfl rfl Tryz.isAgg102 Tryz.sizeOf102 rfl) (hw.ret ⟨p2, k3, rfl, (hw.envAt 0 rfl)⟩)
abbrev record_in_rd (w0 : World) (X : List Nat) (r : Bool) : (Nat → Prop) → World → Value → Prop := fun S w v => v = .bool r
set_option maxHeartbeats 4000000 in
set_option maxRecDepth 100000 in
theorem record_in_ok {w0 : World} {S0 : Nat → Prop} {n1 : Int} {low2 : Int} {high3 : Int} {r : Bool} (hsh : record_in n1 low2 high3 = some r) (hS : ∀ b, S0 b → b < w0.heap.size) : Calls Tryz.prog 105 #[.int .i64 n1, .int .i64 low2, .int .i64 high3] w0 (Ret ([]) w0 S0 (record_in_rd w0 ([]) r)) := by
 refine calls_of_wp Tryz.func105 rfl ?_
 have hs := Sl.enter #[.int .i64 n1, .int .i64 low2, .int .i64 high3] 15 [(0, .int .i64 n1), (1, .int .i64 low2), (2, .int .i64 high3)] rfl ⟨rfl, rfl, rfl, trivial⟩
 have hw := Wd.enter (E := []) hS (fun _ h => (by cases h))
 delta record_in at hsh
 refine sr ?_
 refine av hs rfl rfl fun a hs => ?_
 refine nl ?_
 refine sr ?_
 refine mv hs rfl rfl fun a hs => ?_
 refine mv hs rfl rfl fun a hs => ?_
 refine sv hs (y_geq rfl rfl) rfl fun a hs => ?_
 refine mv hs rfl rfl fun a hs => ?_
 refine wpl_join 4 (fun a w1 => w0 = w1 ∧ Sl 15 [(14, .bool ((decide (low2 ≤ n1)) && (decide (n1 ≤ high3))))] a) ?_ ?_
 ·rcases Bool.eq_false_or_eq_true (decide (low2 ≤ n1)) with h4 | h4
  ·have hs := hs.fix 10 (.bool true) rfl (vb h4)
   refine st_val hs (y_move rfl) ⟨_, rfl, rfl⟩ rfl rfl fun a hs => ?_
   refine st_val hs (y_move rfl) ⟨_, rfl, rfl⟩ rfl rfl fun a hs => ?_
   refine st_val hs (y_leq rfl rfl) ⟨_, rfl, rfl⟩ rfl rfl fun a hs => ?_
   refine sv hs (y_pickT rfl rfl) rfl fun a hs => ?_
   refine nl ?_
   exact ⟨rfl, (hs.fix 14 (.bool ((decide (low2 ≤ n1)) && (decide (n1 ≤ high3)))) rfl (and_t h4)).weaken _ ⟨rfl, trivial⟩⟩
  have hs := hs.fix 10 (.bool false) rfl (vb h4)
  refine st_skip hs rfl rfl rfl rfl rfl fun a hs => ?_
  refine st_skip hs rfl rfl rfl rfl rfl fun a hs => ?_
  refine st_skip hs rfl rfl rfl rfl rfl fun a hs => ?_
  refine sv hs (y_pickF rfl rfl) rfl fun a hs => ?_
  refine nl ?_
  exact ⟨rfl, (hs.fix 14 (.bool ((decide (low2 ≤ n1)) && (decide (n1 ≤ high3)))) rfl (and_f h4)).weaken _ ⟨rfl, trivial⟩⟩
 rintro a w1 ⟨h5, hs⟩
 subst h5
 refine av hs rfl rfl fun a hs => ?_
 refine nl ?_
 have hsh := oi hsh
 subst hsh
 refine wp_ret ?_
 exact ret1 hs rfl (rv_tmp rfl) (hw.ret rfl)
abbrev rate_in_rd (w0 : World) (X : List Nat) (r : Bool) : (Nat → Prop) → World → Value → Prop := fun S w v => v = .bool r
set_option maxHeartbeats 4000000 in
set_option maxRecDepth 100000 in
theorem rate_in_ok {w0 : World} {S0 : Nat → Prop} {n1 : Int} {low2 : Int} {high3 : Int} {r : Bool} (hsh : rate_in n1 low2 high3 = some r) (hS : ∀ b, S0 b → b < w0.heap.size) : Calls Tryz.prog 91 #[.int .i64 n1, .int .i64 low2, .int .i64 high3] w0 (Ret ([]) w0 S0 (rate_in_rd w0 ([]) r)) := by
 refine calls_of_wp Tryz.func91 rfl ?_
 have hs := Sl.enter #[.int .i64 n1, .int .i64 low2, .int .i64 high3] 15 [(0, .int .i64 n1), (1, .int .i64 low2), (2, .int .i64 high3)] rfl ⟨rfl, rfl, rfl, trivial⟩
 have hw := Wd.enter (E := []) hS (fun _ h => (by cases h))
 delta rate_in at hsh
 refine sr ?_
 refine av hs rfl rfl fun a hs => ?_
 refine nl ?_
 refine sr ?_
 refine mv hs rfl rfl fun a hs => ?_
 refine mv hs rfl rfl fun a hs => ?_
 refine sv hs (y_geq rfl rfl) rfl fun a hs => ?_
 refine mv hs rfl rfl fun a hs => ?_
 refine wpl_join 4 (fun a w1 => w0 = w1 ∧ Sl 15 [(14, .bool ((decide (low2 ≤ n1)) && (decide (n1 ≤ high3))))] a) ?_ ?_
 ·rcases Bool.eq_false_or_eq_true (decide (low2 ≤ n1)) with h4 | h4
  ·have hs := hs.fix 10 (.bool true) rfl (vb h4)
   refine st_val hs (y_move rfl) ⟨_, rfl, rfl⟩ rfl rfl fun a hs => ?_
   refine st_val hs (y_move rfl) ⟨_, rfl, rfl⟩ rfl rfl fun a hs => ?_
   refine st_val hs (y_leq rfl rfl) ⟨_, rfl, rfl⟩ rfl rfl fun a hs => ?_
   refine sv hs (y_pickT rfl rfl) rfl fun a hs => ?_
   refine nl ?_
   exact ⟨rfl, (hs.fix 14 (.bool ((decide (low2 ≤ n1)) && (decide (n1 ≤ high3)))) rfl (and_t h4)).weaken _ ⟨rfl, trivial⟩⟩
  have hs := hs.fix 10 (.bool false) rfl (vb h4)
  refine st_skip hs rfl rfl rfl rfl rfl fun a hs => ?_
  refine st_skip hs rfl rfl rfl rfl rfl fun a hs => ?_
  refine st_skip hs rfl rfl rfl rfl rfl fun a hs => ?_
  refine sv hs (y_pickF rfl rfl) rfl fun a hs => ?_
  refine nl ?_
  exact ⟨rfl, (hs.fix 14 (.bool ((decide (low2 ≤ n1)) && (decide (n1 ≤ high3)))) rfl (and_f h4)).weaken _ ⟨rfl, trivial⟩⟩
 rintro a w1 ⟨h5, hs⟩
 subst h5
 refine av hs rfl rfl fun a hs => ?_
 refine nl ?_
 have hsh := oi hsh
 subst hsh
 refine wp_ret ?_
 exact ret1 hs rfl (rv_tmp rfl) (hw.ret rfl)
abbrev rate_gcd_rd (w0 : World) (X : List Nat) (r : Int) : (Nat → Prop) → World → Value → Prop := fun S w v => v = .int .i64 r
set_option maxHeartbeats 4000000 in
set_option maxRecDepth 100000 in
theorem rate_gcd_ok {w0 : World} {S0 : Nat → Prop} {a1 : Int} {b2 : Int} {r : Int} (hsh : rate_gcd a1 b2 = some r) (hS : ∀ b, S0 b → b < w0.heap.size) : Calls Tryz.prog 108 #[.int .i64 a1, .int .i64 b2] w0 (Ret ([]) w0 S0 (rate_gcd_rd w0 ([]) r)) := by
 refine calls_of_wp Tryz.func108 rfl ?_
 have hs := Sl.enter #[.int .i64 a1, .int .i64 b2] 12 [(0, .int .i64 a1), (1, .int .i64 b2)] rfl ⟨rfl, rfl, trivial⟩
 have hw := Wd.enter (E := []) hS (fun _ h => (by cases h))
 delta rate_gcd at hsh
 refine sr ?_
 refine av hs rfl rfl fun a hs => ?_
 refine nl ?_
 refine wp_seq ?_
 obtain ⟨e21, h32, hsh⟩ := bind_t hsh
 refine wp_join (fun a w => ∃ (Sv22 : Nat → Prop), Sl 12 [(0, .int .i64 e21)] a ∧ Wd ⟨w0, S0, []⟩ Sv22 [] [] w) ?_ ?_
 ·refine wp_block ?_
  refine wp_while (fun sv3 a w => ∃ (Sv13 : Nat → Prop), Sl 12 [(0, .int .i64 sv3.1), (1, .int .i64 sv3.2)] a ∧ Wd ⟨w0, S0, []⟩ Sv13 [] [] w) (a1, b2) h32 ⟨S0, (hs.wk rfl), (hw.ft [] [] (by decide) rfl rfl)⟩ ?_
  clear h32
  repeat clear hsh
  rintro sv3 a w tv19 ⟨Sv13, hs, hw⟩ hsh hd18
  delta rate_gcd_l1 at hsh
  refine wp_seq ?_
  refine sr ?_
  refine mv hs rfl rfl fun a hs => ?_
  refine sv hs (y_neq rfl rfl) rfl fun a hs => ?_
  refine nl ?_
  refine wp_cond_split (hs.ev rfl) (fun h24 => ?_) (fun h24 => ?_)
  ·have hsh := ite_t hsh h24
   refine wp_skip ?_
   refine then_normal ?_
   refine wp_block ?_
   obtain ⟨rem29, h28, hsh⟩ := bind_t hsh
   refine wp_only (fun a w => ∃ (Sv30 : Nat → Prop), Sl 12 [(0, .int .i64 sv3.2), (1, .int .i64 rem29)] a ∧ Wd ⟨w0, S0, []⟩ Sv30 [] [] w) ?_ ?_
   ·refine h_b (C := Cls [] []) (by kernel_rfl) rfl (hw.drew.cs [] [] rfl rfl) fun hC => ?_
    have hw := hw.drew
    refine gm hs 0 rfl rfl rfl hC fun a hs => ?_
    refine gm hs 1 rfl rfl rfl hC fun a hs => ?_
    refine gm hs 2 rfl rfl rfl hC fun a hs => ?_
    refine gv hs 3 rfl rfl hC (fun w hC => y_remM rfl rfl h28) fun a hs => ?_
    refine gv hs 4 rfl rfl hC (fun w hC => y_assign rfl) fun a hs => ?_
    refine gv hs 5 rfl rfl hC (fun w hC => y_assign rfl) fun a hs => ?_
    refine h_done (by kernel_rfl) ?_
    exact ⟨Sv13, (hs.wk rfl), (hw.ft [] [] (by decide) rfl rfl)⟩
   rintro a w ⟨Sv30, hs, hw⟩
   refine blk_normal ?_
   refine then_normal ?_
   exact ⟨_, (Option.some.inj hsh).symm, Sv30, (hs.wk rfl), (hw.ft [] [] (by decide) rfl rfl)⟩
  have hsh := ite_f hsh h24
  refine wp_exit ?_
  refine then_exit ?_
  refine then_exit ?_
  refine blk_exit ?_
  have hsh := oi hsh
  subst hsh
  have h31 := hd18 _ rfl
  subst h31
  refine then_normal ?_
  exact ⟨Sv13, (hs.wk rfl), (hw.ft [] [] (by decide) rfl rfl)⟩
 rintro a w ⟨Sv22, hs, hw⟩
 refine then_normal ?_
 refine sr ?_
 refine mv hs rfl rfl fun a hs => ?_
 refine av hs rfl rfl fun a hs => ?_
 refine nl ?_
 have hsh := oi hsh
 subst hsh
 refine wp_ret ?_
 exact ret1 hs rfl (rv_tmp rfl) (hw.ret rfl)
abbrev rate_Valid_rd (w0 : World) (X : List Nat) (r : Bool) : (Nat → Prop) → World → Value → Prop := fun S w v => v = .bool r
set_option maxHeartbeats 4000000 in
set_option maxRecDepth 100000 in
theorem rate_Valid_ok {w0 : World} {S0 : Nat → Prop} {r1 : Rate} {r : Bool} (hsh : rate_Valid r1 = some r) (hS : ∀ b, S0 b → b < w0.heap.size) : Calls Tryz.prog 90 #[.agg #[.int .i64 r1.Num, .int .i64 r1.Den]] w0 (Ret ([]) w0 S0 (rate_Valid_rd w0 ([]) r)) := by
 refine calls_of_wp Tryz.func90 rfl ?_
 have hs := Sl.enter #[.agg #[.int .i64 r1.Num, .int .i64 r1.Den]] 19 [(0, .agg #[.int .i64 r1.Num, .int .i64 r1.Den])] rfl ⟨rfl, trivial⟩
 have hw := Wd.enter (E := []) hS (fun _ h => (by cases h))
 delta rate_Valid at hsh
 refine sr ?_
 refine w_box (cs := [.int .i64 r1.Num, .int .i64 r1.Den]) hs hw rfl rfl rfl trivial ?_
 intro b2 a w hs hw
 refine av hs rfl rfl fun a hs => ?_
 refine nl ?_
 refine sr ?_
 refine sv hs (y_fieldAddr (o' := 0) Tryz.runUnderlying34 rfl Tryz.sizeOf3 rfl rfl rfl) rfl fun a hs => ?_
 refine sv hs (y_loadB1 (hw.ownAt 0 rfl) rfl Tryz.isAgg3 rfl) rfl fun a hs => ?_
 obtain ⟨rv4, h3, hsh⟩ := bind_t hsh
 refine st_callR hs (rate_in_ok h3 hw.bdom) (do_call Tryz.call91 rfl) trivial rfl rfl ?_
 intro v8 Sv5 w a h6 h7 hs
 subst h7
 have hw := hw.callB h6
 refine mv hs rfl rfl fun a hs => ?_
 obtain ⟨c18, hc18, hsh⟩ := bind_t hsh
 refine wpl_join 4 (fun a w => ∃ (Sv19 : Nat → Prop), Sl 19 [(1, .pointer (some ⟨b2, 0, none⟩)), (10, .bool c18)] a ∧ Wd ⟨w0, S0, []⟩ Sv19 [.box b2 [.int .i64 r1.Num, .int .i64 r1.Den] 34] [] w) ?_ ?_
 ·rcases Bool.eq_false_or_eq_true rv4 with h17 | h17
  ·have hs := hs.fix 6 (.bool true) rfl (vb h17)
   have hsh := ite_t hc18 h17
   refine st_val hs (y_fieldAddr (o' := 1) Tryz.runUnderlying34 rfl Tryz.sizeOf3 rfl rfl rfl) ⟨_, rfl, rfl⟩ rfl rfl fun a hs => ?_
   refine st_val hs (y_loadB1 (hw.ownAt 0 rfl) rfl Tryz.isAgg3 rfl) ⟨_, rfl, rfl⟩ rfl rfl fun a hs => ?_
   obtain ⟨rv21, h20, hsh⟩ := bind_t hsh
   refine st_callR hs (rate_in_ok h20 hw.bdom) (do_call Tryz.call91 rfl) ⟨_, rfl, rfl⟩ rfl rfl ?_
   intro v25 Sv22 w a h23 h24 hs
   subst h24
   have hw := hw.callB h23
   refine sv hs (y_pickT rfl rfl) rfl fun a hs => ?_
   refine wpList_nil ?_
   have hsh := oi hsh
   subst hsh
   refine then_normal ?_
   exact ⟨S0, (hs.wk rfl), (hw.ft [0] [] (by decide) rfl rfl)⟩
  have hs := hs.fix 6 (.bool false) rfl (vb h17)
  have hsh := ite_f hc18 h17
  refine st_skip hs rfl rfl rfl rfl rfl fun a hs => ?_
  refine st_skip hs rfl rfl rfl rfl rfl fun a hs => ?_
  refine st_skip hs rfl rfl rfl rfl rfl fun a hs => ?_
  refine sv hs (y_pickF rfl rfl) rfl fun a hs => ?_
  refine wpList_nil ?_
  have hsh := oi hsh
  subst hsh
  refine then_normal ?_
  exact ⟨S0, (hs.wk rfl), (hw.ft [0] [] (by decide) rfl rfl)⟩
 rintro a w ⟨Sv19, hs, hw⟩
 refine mv hs rfl rfl fun a hs => ?_
 obtain ⟨c35, hc35, hsh⟩ := bind_t hsh
 refine wpl_join 7 (fun a w => ∃ (Sv36 : Nat → Prop), Sl 19 [(18, .bool c35)] a ∧ Wd ⟨w0, S0, []⟩ Sv36 [] [] w) ?_ ?_
 ·rcases Bool.eq_false_or_eq_true c18 with h34 | h34
  ·have hs := hs.fix 11 (.bool true) rfl (vb h34)
   have hsh := ite_t hc35 h34
   refine st_val hs (y_fieldAddr (o' := 0) Tryz.runUnderlying34 rfl Tryz.sizeOf3 rfl rfl rfl) ⟨_, rfl, rfl⟩ rfl rfl fun a hs => ?_
   refine st_val hs (y_loadB1 (hw.ownAt 0 rfl) rfl Tryz.isAgg3 rfl) ⟨_, rfl, rfl⟩ rfl rfl fun a hs => ?_
   refine st_val hs (y_fieldAddr (o' := 1) Tryz.runUnderlying34 rfl Tryz.sizeOf3 rfl rfl rfl) ⟨_, rfl, rfl⟩ rfl rfl fun a hs => ?_
   refine st_val hs (y_loadB1 (hw.ownAt 0 rfl) rfl Tryz.isAgg3 rfl) ⟨_, rfl, rfl⟩ rfl rfl fun a hs => ?_
   obtain ⟨rv38, h37, hsh⟩ := bind_t hsh
   refine st_callR hs (rate_gcd_ok h37 hw.bdom) (do_call Tryz.call108 rfl) ⟨_, rfl, rfl⟩ rfl rfl ?_
   intro v42 Sv39 w a h40 h41 hs
   subst h41
   have hw := hw.callB h40
   refine st_val hs (y_eql rfl rfl) ⟨_, rfl, rfl⟩ rfl rfl fun a hs => ?_
   refine sv hs (y_pickT rfl rfl) rfl fun a hs => ?_
   refine wpList_nil ?_
   have hsh := oi hsh
   subst hsh
   refine then_normal ?_
   exact ⟨Sv19, (hs.wk rfl), (hw.ft [] [] (by decide) rfl rfl)⟩
  have hs := hs.fix 11 (.bool false) rfl (vb h34)
  have hsh := ite_f hc35 h34
  refine st_skip hs rfl rfl rfl rfl rfl fun a hs => ?_
  refine st_skip hs rfl rfl rfl rfl rfl fun a hs => ?_
  refine st_skip hs rfl rfl rfl rfl rfl fun a hs => ?_
  refine st_skip hs rfl rfl rfl rfl rfl fun a hs => ?_
  refine st_skip hs rfl rfl rfl rfl rfl fun a hs => ?_
  refine st_skip hs rfl rfl rfl rfl rfl fun a hs => ?_
  refine sv hs (y_pickF rfl rfl) rfl fun a hs => ?_
  refine wpList_nil ?_
  have hsh := oi hsh
  subst hsh
  refine then_normal ?_
  exact ⟨Sv19, (hs.wk rfl), (hw.ft [] [] (by decide) rfl rfl)⟩
 rintro a w ⟨Sv36, hs, hw⟩
 refine av hs rfl rfl fun a hs => ?_
 refine nl ?_
 have hsh := oi hsh
 subst hsh
 refine wp_ret ?_
 exact ret1 hs rfl (rv_tmp rfl) (hw.ret rfl)
abbrev rate_micros_rd (w0 : World) (X : List Nat) (r : Int) : (Nat → Prop) → World → Value → Prop := fun S w v => v = .int .i64 r
set_option maxHeartbeats 4000000 in
set_option maxRecDepth 100000 in
theorem rate_micros_ok {w0 : World} {S0 : Nat → Prop} {r1 : Rate} {r : Int} (hsh : rate_micros r1 = some r) (hS : ∀ b, S0 b → b < w0.heap.size) : Calls Tryz.prog 109 #[.agg #[.int .i64 r1.Num, .int .i64 r1.Den]] w0 (Ret ([]) w0 S0 (rate_micros_rd w0 ([]) r)) := by
 refine calls_of_wp Tryz.func109 rfl ?_
 have hs := Sl.enter #[.agg #[.int .i64 r1.Num, .int .i64 r1.Den]] 6 [(0, .agg #[.int .i64 r1.Num, .int .i64 r1.Den])] rfl ⟨rfl, trivial⟩
 have hw := Wd.enter (E := []) hS (fun _ h => (by cases h))
 delta rate_micros at hsh
 refine sr ?_
 refine w_box (cs := [.int .i64 r1.Num, .int .i64 r1.Den]) hs hw rfl rfl rfl trivial ?_
 intro b2 a w hs hw
 refine av hs rfl rfl fun a hs => ?_
 refine nl ?_
 refine sr ?_
 refine sv hs (y_fieldAddr (o' := 1) Tryz.runUnderlying34 rfl Tryz.sizeOf3 rfl rfl rfl) rfl fun a hs => ?_
 refine sv hs (y_loadB1 (hw.ownAt 0 rfl) rfl Tryz.isAgg3 rfl) rfl fun a hs => ?_
 refine sv hs (y_mul rfl rfl) rfl fun a hs => ?_
 obtain ⟨x4, h3, hsh⟩ := bind_t hsh
 refine sv hs (y_assignI rfl h3) rfl fun a hs => ?_
 refine nl ?_
 have hsh := oi hsh
 subst hsh
 refine wp_ret ?_
 exact ret1 hs rfl (rv_tmp rfl) (hw.ret rfl)
abbrev rate_after_rd (w0 : World) (X : List Nat) (r : Int) : (Nat → Prop) → World → Value → Prop := fun S w v => v = .int .i64 r
set_option maxHeartbeats 4000000 in
set_option maxRecDepth 100000 in
theorem rate_after_ok {w0 : World} {S0 : Nat → Prop} {r1 : Rate} {k2 : Int} {r : Int} (hsh : rate_after r1 k2 = some r) (hS : ∀ b, S0 b → b < w0.heap.size) : Calls Tryz.prog 92 #[.agg #[.int .i64 r1.Num, .int .i64 r1.Den], .int .i64 k2] w0 (Ret ([]) w0 S0 (rate_after_rd w0 ([]) r)) := by
 refine calls_of_wp Tryz.func92 rfl ?_
 have hs := Sl.enter #[.agg #[.int .i64 r1.Num, .int .i64 r1.Den], .int .i64 k2] 12 [(0, .agg #[.int .i64 r1.Num, .int .i64 r1.Den]), (1, .int .i64 k2)] rfl ⟨rfl, rfl, trivial⟩
 have hw := Wd.enter (E := []) hS (fun _ h => (by cases h))
 delta rate_after at hsh
 refine sr ?_
 refine w_box (cs := [.int .i64 r1.Num, .int .i64 r1.Den]) hs hw rfl rfl rfl trivial ?_
 intro b3 a w hs hw
 refine av hs rfl rfl fun a hs => ?_
 refine nl ?_
 refine wp_seq ?_
 obtain ⟨rv5, h4, hsh⟩ := bind_t hsh
 obtain ⟨quo7, h6, hsh⟩ := bind_t hsh
 refine wp_only (fun a w => ∃ (Sv8 : Nat → Prop), Sl 12 [(4, .int .i64 quo7)] a ∧ Wd ⟨w0, S0, []⟩ Sv8 [] [] w) ?_ ?_
 ·refine h_b (C := Cls [.box b3 [.int .i64 r1.Num, .int .i64 r1.Den] 34] []) (by kernel_rfl) rfl (hw.drew.cs [0] [] rfl rfl) fun hC => ?_
  have hw := hw.drew
  refine gm hs 0 rfl rfl rfl hC fun a hs => ?_
  refine gv hs 1 rfl rfl hC (fun w hC => y_loadBA (hC.ownAt 0 rfl) rfl Tryz.isAgg34 Tryz.sizeOf34 rfl rfl) fun a hs => ?_
  refine gv hs 4 rfl rfl hC (fun w hC => y_fieldAddr (o' := 0) Tryz.runUnderlying34 rfl Tryz.sizeOf3 rfl rfl rfl) fun a hs => ?_
  refine gv hs 5 rfl rfl hC (fun w hC => y_loadB1 (hC.ownAt 0 rfl) rfl Tryz.isAgg3 rfl) fun a hs => ?_
  refine ho 2 rfl ?_
  refine st_callR hs (rate_micros_ok h4 hw.bdom) (do_call Tryz.call109 rfl) trivial rfl rfl ?_
  intro v12 Sv9 w a h10 h11 hs
  subst h11
  have hw := hw.callB h10
  refine h_nx (hw.cs [0] [] rfl rfl) fun hC => ?_
  refine gv hs 3 rfl rfl hC (fun w hC => y_mul rfl rfl) fun a hs => ?_
  refine gv hs 6 rfl rfl hC (fun w hC => y_quoM rfl rfl h6) fun a hs => ?_
  refine gv hs 7 rfl rfl hC (fun w hC => y_assign rfl) fun a hs => ?_
  refine h_done (by kernel_rfl) ?_
  exact ⟨S0, (hs.wk rfl), (hw.ft [] [] (by decide) rfl rfl)⟩
 rintro a w ⟨Sv8, hs, hw⟩
 refine then_normal ?_
 have hsh := oi hsh
 subst hsh
 refine wp_ret ?_
 exact ret1 hs rfl (rv_tmp rfl) (hw.ret rfl)
abbrev rate_Time_rd (w0 : World) (X : List Nat) (r : (Int × Int)) : (Nat → Prop) → World → Value → Prop := fun S w v => v = .tuple #[.int .i64 r.1, .int .i64 r.2]
set_option maxHeartbeats 4000000 in
set_option maxRecDepth 100000 in
theorem rate_Time_ok {w0 : World} {S0 : Nat → Prop} {start1 : Int} {r2 : Rate} {k3 : Int} {r : (Int × Int)} (hsh : rate_Time start1 r2 k3 = some r) (hS : ∀ b, S0 b → b < w0.heap.size) : Calls Tryz.prog 74 #[.int .i64 start1, .agg #[.int .i64 r2.Num, .int .i64 r2.Den], .int .i64 k3] w0 (Ret ([]) w0 S0 (rate_Time_rd w0 ([]) r)) := by
 refine calls_of_wp Tryz.func74 rfl ?_
 have hs := Sl.enter #[.int .i64 start1, .agg #[.int .i64 r2.Num, .int .i64 r2.Den], .int .i64 k3] 24 [(0, .int .i64 start1), (1, .agg #[.int .i64 r2.Num, .int .i64 r2.Den]), (2, .int .i64 k3)] rfl ⟨rfl, rfl, rfl, trivial⟩
 have hw := Wd.enter (E := []) hS (fun _ h => (by cases h))
 delta rate_Time at hsh
 refine sr ?_
 refine w_box (cs := [.int .i64 r2.Num, .int .i64 r2.Den]) hs hw rfl rfl rfl trivial ?_
 intro b4 a w hs hw
 refine av hs rfl rfl fun a hs => ?_
 refine av hs rfl rfl fun a hs => ?_
 refine nl ?_
 refine wp_seq ?_
 refine sr ?_
 refine sv hs (y_loadBA (hw.ownAt 0 rfl) rfl Tryz.isAgg34 Tryz.sizeOf34 rfl rfl) rfl fun a hs => ?_
 obtain ⟨rv6, h5, hsh⟩ := bind_t hsh
 refine st_callR hs (rate_Valid_ok h5 hw.bdom) (do_call Tryz.call90 rfl) trivial rfl rfl ?_
 intro v10 Sv7 w a h8 h9 hs
 subst h9
 have hw := hw.callB h8
 refine sv hs (y_not rfl) rfl fun a hs => ?_
 refine nl ?_
 refine wp_cond_split (hs.ev rfl) (fun h13 => ?_) (fun h13 => ?_)
 ·have hsh := ite_t hsh h13
  refine sr ?_
  refine av hs rfl rfl fun a hs => ?_
  refine av hs rfl rfl fun a hs => ?_
  refine nl ?_
  have hsh := oi hsh
  subst hsh
  refine wp_ret ?_
  refine then_ret ?_
  exact ret2 hs rfl (rv_tmp rfl) (rv_tmp rfl) (hw.ret rfl)
 have hsh := ite_f hsh h13
 refine wp_skip ?_
 refine then_normal ?_
 refine wp_seq ?_
 refine sr ?_
 refine mv hs rfl rfl fun a hs => ?_
 obtain ⟨rv15, h14, hsh⟩ := bind_t hsh
 refine st_callR hs (rate_in_ok h14 hw.bdom) (do_call Tryz.call91 rfl) trivial rfl rfl ?_
 intro v19 Sv16 w a h17 h18 hs
 subst h18
 have hw := hw.callB h17
 refine sv hs (y_not rfl) rfl fun a hs => ?_
 refine mv hs rfl rfl fun a hs => ?_
 obtain ⟨c29, hc29, hsh⟩ := bind_t hsh
 refine wpl_join 4 (fun a w => ∃ (Sv30 : Nat → Prop), Sl 24 [(0, .int .i64 start1), (2, .int .i64 k3), (4, .pointer (some ⟨b4, 0, none⟩)), (18, .bool c29)] a ∧ Wd ⟨w0, S0, []⟩ Sv30 [.box b4 [.int .i64 r2.Num, .int .i64 r2.Den] 34] [] w) ?_ ?_
 ·rcases Bool.eq_false_or_eq_true (!rv15) with h28 | h28
  ·have hs := hs.fix 14 (.bool true) rfl (vb h28)
   have hsh := ite_t hc29 h28
   refine st_skip hs rfl rfl rfl rfl rfl fun a hs => ?_
   refine st_skip hs rfl rfl rfl rfl rfl fun a hs => ?_
   refine st_skip hs rfl rfl rfl rfl rfl fun a hs => ?_
   refine sv hs (y_pickT rfl rfl) rfl fun a hs => ?_
   refine wpList_nil ?_
   have hsh := oi hsh
   subst hsh
   refine then_normal ?_
   exact ⟨S0, (hs.wk rfl), (hw.ft [0] [] (by decide) rfl rfl)⟩
  have hs := hs.fix 14 (.bool false) rfl (vb h28)
  have hsh := ite_f hc29 h28
  refine st_val hs (y_move rfl) ⟨_, rfl, rfl⟩ rfl rfl fun a hs => ?_
  obtain ⟨rv32, h31, hsh⟩ := bind_t hsh
  refine st_callR hs (rate_in_ok h31 hw.bdom) (do_call Tryz.call91 rfl) ⟨_, rfl, rfl⟩ rfl rfl ?_
  intro v36 Sv33 w a h34 h35 hs
  subst h35
  have hw := hw.callB h34
  refine st_val hs (y_not rfl) ⟨_, rfl, rfl⟩ rfl rfl fun a hs => ?_
  refine sv hs (y_pickF rfl rfl) rfl fun a hs => ?_
  refine wpList_nil ?_
  have hsh := oi hsh
  subst hsh
  refine then_normal ?_
  exact ⟨S0, (hs.wk rfl), (hw.ft [0] [] (by decide) rfl rfl)⟩
 rintro a w ⟨Sv30, hs, hw⟩
 refine nl ?_
 refine wp_cond_split (hs.ev rfl) (fun h39 => ?_) (fun h39 => ?_)
 ·have hsh := ite_t hsh h39
  refine sr ?_
  refine av hs rfl rfl fun a hs => ?_
  refine av hs rfl rfl fun a hs => ?_
  refine nl ?_
  have hsh := oi hsh
  subst hsh
  refine wp_ret ?_
  refine then_ret ?_
  exact ret2 hs rfl (rv_tmp rfl) (rv_tmp rfl) (hw.ret rfl)
 have hsh := ite_f hsh h39
 refine wp_skip ?_
 refine then_normal ?_
 refine sr ?_
 refine mv hs rfl rfl fun a hs => ?_
 refine sv hs (y_loadBA (hw.ownAt 0 rfl) rfl Tryz.isAgg34 Tryz.sizeOf34 rfl rfl) rfl fun a hs => ?_
 refine mv hs rfl rfl fun a hs => ?_
 obtain ⟨rv41, h40, hsh⟩ := bind_t hsh
 refine st_callR hs (rate_after_ok h40 hw.bdom) (do_call Tryz.call92 rfl) trivial rfl rfl ?_
 intro v45 Sv42 w a h43 h44 hs
 subst h44
 have hw := hw.callB h43
 refine sv hs (y_add rfl rfl) rfl fun a hs => ?_
 obtain ⟨x48, h47, hsh⟩ := bind_t hsh
 refine sv hs (y_assignI rfl h47) rfl fun a hs => ?_
 refine av hs rfl rfl fun a hs => ?_
 refine nl ?_
 have hsh := oi hsh
 subst hsh
 refine wp_ret ?_
 exact ret2 hs rfl (rv_tmp rfl) (rv_tmp rfl) (hw.ret rfl)
abbrev record_Valid_fn1_rd (w0 : World) (X : List Nat) (r : Bool) : (Nat → Prop) → World → Value → Prop := fun S w v => v = .bool r
set_option maxHeartbeats 4000000 in
set_option maxRecDepth 100000 in
theorem record_Valid_fn1_ok {w0 : World} {S0 : Nat → Prop} {x1 : Int} {r : Bool} (hsh : record_Valid_fn1 x1 = some r) (hS : ∀ b, S0 b → b < w0.heap.size) : Calls Tryz.prog 106 #[.int .i64 x1] w0 (Ret ([]) w0 S0 (record_Valid_fn1_rd w0 ([]) r)) := by
 refine calls_of_wp Tryz.func106 rfl ?_
 have hs := Sl.enter #[.int .i64 x1] 6 [(0, .int .i64 x1)] rfl ⟨rfl, trivial⟩
 have hw := Wd.enter (E := []) hS (fun _ h => (by cases h))
 delta record_Valid_fn1 at hsh
 refine sr ?_
 refine av hs rfl rfl fun a hs => ?_
 refine nl ?_
 refine sr ?_
 refine mv hs rfl rfl fun a hs => ?_
 obtain ⟨rv3, h2, hsh⟩ := bind_t hsh
 refine st_callR hs (record_in_ok h2 hw.bdom) (do_call Tryz.call105 rfl) trivial rfl rfl ?_
 intro v7 Sv4 w a h5 h6 hs
 subst h6
 have hw := hw.callB h5
 refine sv hs (y_not rfl) rfl fun a hs => ?_
 refine av hs rfl rfl fun a hs => ?_
 refine nl ?_
 have hsh := oi hsh
 subst hsh
 refine wp_ret ?_
 exact ret1 hs rfl (rv_tmp rfl) (hw.ret rfl)
theorem record_Valid_fn1_fn (S0 : Nat → Prop) (w0 : World) : (FnA1 Tryz.prog 106 [] [] record_Valid_fn1).p S0 w0 := by
  refine ⟨Tryz.call106, ?_⟩
  intro S1 w1 hk hS c0 x0 r1 h0 hf
  obtain ⟨_, rfl, rfl⟩ := h0
  exact record_Valid_fn1_ok hf hS  
abbrev record_Valid_rd (w0 : World) (X : List Nat) (r : Bool) : (Nat → Prop) → World → Value → Prop := fun S w v => v = .bool r
set_option maxHeartbeats 4000000 in
set_option maxRecDepth 100000 in
theorem record_Valid_ok {w0 : World} {S0 : Nat → Prop} {p2 : Option Addr} {k3 : Nat} {r1 : Record} {r : Bool} (hsh : record_Valid r1 = some r) (hS : ∀ b, S0 b → b < w0.heap.size) (h4 : (SlA p2 r1.Samples.length k3 r1.Samples).p S0 w0) : Calls Tryz.prog 85 #[.agg #[.string r1.Source.Network, .string r1.Source.Station, .string r1.Source.Location, .string r1.Source.Channel, .int .i64 r1.Start, .int .i64 r1.First, .int .i64 r1.Rate.Num, .int .i64 r1.Rate.Den, .int .i64 r1.Error, .int .i64 r1.Run, .int .i64 r1.Seq, .slice p2 r1.Samples.length k3]] w0 (Ret ([]) w0 S0 (record_Valid_rd w0 ([]) r)) := by
 refine calls_of_wp Tryz.func85 rfl ?_
 have hs := Sl.enter #[.agg #[.string r1.Source.Network, .string r1.Source.Station, .string r1.Source.Location, .string r1.Source.Channel, .int .i64 r1.Start, .int .i64 r1.First, .int .i64 r1.Rate.Num, .int .i64 r1.Rate.Den, .int .i64 r1.Error, .int .i64 r1.Run, .int .i64 r1.Seq, .slice p2 r1.Samples.length k3]] 68 [(0, .agg #[.string r1.Source.Network, .string r1.Source.Station, .string r1.Source.Location, .string r1.Source.Channel, .int .i64 r1.Start, .int .i64 r1.First, .int .i64 r1.Rate.Num, .int .i64 r1.Rate.Den, .int .i64 r1.Error, .int .i64 r1.Run, .int .i64 r1.Seq, .slice p2 r1.Samples.length k3])] rfl ⟨rfl, trivial⟩
 have hw := Wd.enter (E := []) hS (fun _ h => (by cases h))
 have hw := hw.addE h4
 delta record_Valid at hsh
 refine sr ?_
 refine w_box (cs := [.string r1.Source.Network, .string r1.Source.Station, .string r1.Source.Location, .string r1.Source.Channel, .int .i64 r1.Start, .int .i64 r1.First, .int .i64 r1.Rate.Num, .int .i64 r1.Rate.Den, .int .i64 r1.Error, .int .i64 r1.Run, .int .i64 r1.Seq, .slice p2 r1.Samples.length k3]) hs hw rfl rfl rfl trivial ?_
 intro b5 a w hs hw
 refine av hs rfl rfl fun a hs => ?_
 refine nl ?_
 refine sr ?_
 refine sv hs (y_fieldAddr (o' := 11) Tryz.runUnderlying102 rfl Tryz.sizeOf22 rfl rfl rfl) rfl fun a hs => ?_
 refine sv hs (y_loadB1 (hw.ownAt 0 rfl) rfl Tryz.isAgg22 rfl) rfl fun a hs => ?_
 refine sv hs (y_len Tryz.runUnderlying22 rfl) rfl fun a hs => ?_
 obtain ⟨n7, h6, hsh⟩ := bind_t hsh
 refine sv hs (y_assignI rfl h6) rfl fun a hs => ?_
 refine nl ?_
 refine wp_seq ?_
 refine sr ?_
 refine sv hs (y_fieldAddr (o' := 0) Tryz.runUnderlying102 rfl Tryz.sizeOf41 rfl rfl rfl) rfl fun a hs => ?_
 refine sv hs (y_loadBA (hw.ownAt 0 rfl) rfl Tryz.isAgg41 Tryz.sizeOf41 rfl rfl) rfl fun a hs => ?_
 obtain ⟨rv9, h8, hsh⟩ := bind_t hsh
 refine st_callR hs (source_Valid_ok h8 hw.bdom) (do_call Tryz.call52 rfl) trivial rfl rfl ?_
 intro v13 Sv10 w a h11 h12 hs
 subst h12
 have hw := hw.callB h11
 refine sv hs (y_not rfl) rfl fun a hs => ?_
 refine mv hs rfl rfl fun a hs => ?_
 obtain ⟨c23, hc23, hsh⟩ := bind_t hsh
 refine wpl_join 4 (fun a w => ∃ (Sv24 : Nat → Prop), Sl 68 [(1, .pointer (some ⟨b5, 0, none⟩)), (3, .int .i64 n7), (17, .bool c23)] a ∧ Wd ⟨w0, S0, []⟩ Sv24 [.box b5 [.string r1.Source.Network, .string r1.Source.Station, .string r1.Source.Location, .string r1.Source.Channel, .int .i64 r1.Start, .int .i64 r1.First, .int .i64 r1.Rate.Num, .int .i64 r1.Rate.Den, .int .i64 r1.Error, .int .i64 r1.Run, .int .i64 r1.Seq, .slice p2 r1.Samples.length k3] 102] [SlA p2 r1.Samples.length k3 r1.Samples] w) ?_ ?_
 ·rcases Bool.eq_false_or_eq_true (!rv9) with h22 | h22
  ·have hs := hs.fix 13 (.bool true) rfl (vb h22)
   have hsh := ite_t hc23 h22
   refine st_skip hs rfl rfl rfl rfl rfl fun a hs => ?_
   refine st_skip hs rfl rfl rfl rfl rfl fun a hs => ?_
   refine st_skip hs rfl rfl rfl rfl rfl fun a hs => ?_
   refine sv hs (y_pickT rfl rfl) rfl fun a hs => ?_
   refine wpList_nil ?_
   have hsh := oi hsh
   subst hsh
   refine then_normal ?_
   exact ⟨S0, (hs.wk rfl), (hw.ft [0] [0] (by decide) rfl rfl)⟩
  have hs := hs.fix 13 (.bool false) rfl (vb h22)
  have hsh := ite_f hc23 h22
  refine st_val hs (y_move rfl) ⟨_, rfl, rfl⟩ rfl rfl fun a hs => ?_
  obtain ⟨rv26, h25, hsh⟩ := bind_t hsh
  refine st_callR hs (record_in_ok h25 hw.bdom) (do_call Tryz.call105 rfl) ⟨_, rfl, rfl⟩ rfl rfl ?_
  intro v30 Sv27 w a h28 h29 hs
  subst h29
  have hw := hw.callB h28
  refine st_val hs (y_not rfl) ⟨_, rfl, rfl⟩ rfl rfl fun a hs => ?_
  refine sv hs (y_pickF rfl rfl) rfl fun a hs => ?_
  refine wpList_nil ?_
  have hsh := oi hsh
  subst hsh
  refine then_normal ?_
  exact ⟨S0, (hs.wk rfl), (hw.ft [0] [0] (by decide) rfl rfl)⟩
 rintro a w ⟨Sv24, hs, hw⟩
 refine mv hs rfl rfl fun a hs => ?_
 obtain ⟨c40, hc40, hsh⟩ := bind_t hsh
 refine wpl_join 7 (fun a w => ∃ (Sv41 : Nat → Prop), Sl 68 [(1, .pointer (some ⟨b5, 0, none⟩)), (3, .int .i64 n7), (25, .bool c40)] a ∧ Wd ⟨w0, S0, []⟩ Sv41 [.box b5 [.string r1.Source.Network, .string r1.Source.Station, .string r1.Source.Location, .string r1.Source.Channel, .int .i64 r1.Start, .int .i64 r1.First, .int .i64 r1.Rate.Num, .int .i64 r1.Rate.Den, .int .i64 r1.Error, .int .i64 r1.Run, .int .i64 r1.Seq, .slice p2 r1.Samples.length k3] 102] [SlA p2 r1.Samples.length k3 r1.Samples] w) ?_ ?_
 ·rcases Bool.eq_false_or_eq_true c23 with h39 | h39
  ·have hs := hs.fix 18 (.bool true) rfl (vb h39)
   have hsh := ite_t hc40 h39
   refine st_skip hs rfl rfl rfl rfl rfl fun a hs => ?_
   refine st_skip hs rfl rfl rfl rfl rfl fun a hs => ?_
   refine st_skip hs rfl rfl rfl rfl rfl fun a hs => ?_
   refine st_skip hs rfl rfl rfl rfl rfl fun a hs => ?_
   refine st_skip hs rfl rfl rfl rfl rfl fun a hs => ?_
   refine st_skip hs rfl rfl rfl rfl rfl fun a hs => ?_
   refine sv hs (y_pickT rfl rfl) rfl fun a hs => ?_
   refine wpList_nil ?_
   have hsh := oi hsh
   subst hsh
   refine then_normal ?_
   exact ⟨Sv24, (hs.wk rfl), (hw.ft [0] [0] (by decide) rfl rfl)⟩
  have hs := hs.fix 18 (.bool false) rfl (vb h39)
  have hsh := ite_f hc40 h39
  refine st_val hs (y_fieldAddr (o' := 5) Tryz.runUnderlying102 rfl Tryz.sizeOf3 rfl rfl rfl) ⟨_, rfl, rfl⟩ rfl rfl fun a hs => ?_
  refine st_val hs (y_loadB1 (hw.ownAt 0 rfl) rfl Tryz.isAgg3 rfl) ⟨_, rfl, rfl⟩ rfl rfl fun a hs => ?_
  refine st_val hs (y_move rfl) ⟨_, rfl, rfl⟩ rfl rfl fun a hs => ?_
  refine st_val hs (y_sub rfl rfl) ⟨_, rfl, rfl⟩ rfl rfl fun a hs => ?_
  obtain ⟨rv43, h42, hsh⟩ := bind_t hsh
  refine st_callR hs (record_in_ok h42 hw.bdom) (do_call Tryz.call105 rfl) ⟨_, rfl, rfl⟩ rfl rfl ?_
  intro v47 Sv44 w a h45 h46 hs
  subst h46
  have hw := hw.callB h45
  refine st_val hs (y_not rfl) ⟨_, rfl, rfl⟩ rfl rfl fun a hs => ?_
  refine sv hs (y_pickF rfl rfl) rfl fun a hs => ?_
  refine wpList_nil ?_
  have hsh := oi hsh
  subst hsh
  refine then_normal ?_
  exact ⟨Sv24, (hs.wk rfl), (hw.ft [0] [0] (by decide) rfl rfl)⟩
 rintro a w ⟨Sv41, hs, hw⟩
 refine mv hs rfl rfl fun a hs => ?_
 obtain ⟨c57, hc57, hsh⟩ := bind_t hsh
 refine wpl_join 5 (fun a w => ∃ (Sv58 : Nat → Prop), Sl 68 [(1, .pointer (some ⟨b5, 0, none⟩)), (3, .int .i64 n7), (31, .bool c57)] a ∧ Wd ⟨w0, S0, []⟩ Sv58 [.box b5 [.string r1.Source.Network, .string r1.Source.Station, .string r1.Source.Location, .string r1.Source.Channel, .int .i64 r1.Start, .int .i64 r1.First, .int .i64 r1.Rate.Num, .int .i64 r1.Rate.Den, .int .i64 r1.Error, .int .i64 r1.Run, .int .i64 r1.Seq, .slice p2 r1.Samples.length k3] 102] [SlA p2 r1.Samples.length k3 r1.Samples] w) ?_ ?_
 ·rcases Bool.eq_false_or_eq_true c40 with h56 | h56
  ·have hs := hs.fix 26 (.bool true) rfl (vb h56)
   have hsh := ite_t hc57 h56
   refine st_skip hs rfl rfl rfl rfl rfl fun a hs => ?_
   refine st_skip hs rfl rfl rfl rfl rfl fun a hs => ?_
   refine st_skip hs rfl rfl rfl rfl rfl fun a hs => ?_
   refine st_skip hs rfl rfl rfl rfl rfl fun a hs => ?_
   refine sv hs (y_pickT rfl rfl) rfl fun a hs => ?_
   refine wpList_nil ?_
   have hsh := oi hsh
   subst hsh
   refine then_normal ?_
   exact ⟨Sv41, (hs.wk rfl), (hw.ft [0] [0] (by decide) rfl rfl)⟩
  have hs := hs.fix 26 (.bool false) rfl (vb h56)
  have hsh := ite_f hc57 h56
  refine st_val hs (y_fieldAddr (o' := 8) Tryz.runUnderlying102 rfl Tryz.sizeOf3 rfl rfl rfl) ⟨_, rfl, rfl⟩ rfl rfl fun a hs => ?_
  refine st_val hs (y_loadB1 (hw.ownAt 0 rfl) rfl Tryz.isAgg3 rfl) ⟨_, rfl, rfl⟩ rfl rfl fun a hs => ?_
  obtain ⟨rv60, h59, hsh⟩ := bind_t hsh
  refine st_callR hs (record_in_ok h59 hw.bdom) (do_call Tryz.call105 rfl) ⟨_, rfl, rfl⟩ rfl rfl ?_
  intro v64 Sv61 w a h62 h63 hs
  subst h63
  have hw := hw.callB h62
  refine st_val hs (y_not rfl) ⟨_, rfl, rfl⟩ rfl rfl fun a hs => ?_
  refine sv hs (y_pickF rfl rfl) rfl fun a hs => ?_
  refine wpList_nil ?_
  have hsh := oi hsh
  subst hsh
  refine then_normal ?_
  exact ⟨Sv41, (hs.wk rfl), (hw.ft [0] [0] (by decide) rfl rfl)⟩
 rintro a w ⟨Sv58, hs, hw⟩
 refine mv hs rfl rfl fun a hs => ?_
 obtain ⟨c74, hc74, hsh⟩ := bind_t hsh
 refine wpl_join 5 (fun a w => ∃ (Sv75 : Nat → Prop), Sl 68 [(1, .pointer (some ⟨b5, 0, none⟩)), (3, .int .i64 n7), (37, .bool c74)] a ∧ Wd ⟨w0, S0, []⟩ Sv75 [.box b5 [.string r1.Source.Network, .string r1.Source.Station, .string r1.Source.Location, .string r1.Source.Channel, .int .i64 r1.Start, .int .i64 r1.First, .int .i64 r1.Rate.Num, .int .i64 r1.Rate.Den, .int .i64 r1.Error, .int .i64 r1.Run, .int .i64 r1.Seq, .slice p2 r1.Samples.length k3] 102] [SlA p2 r1.Samples.length k3 r1.Samples] w) ?_ ?_
 ·rcases Bool.eq_false_or_eq_true c57 with h73 | h73
  ·have hs := hs.fix 32 (.bool true) rfl (vb h73)
   have hsh := ite_t hc74 h73
   refine st_skip hs rfl rfl rfl rfl rfl fun a hs => ?_
   refine st_skip hs rfl rfl rfl rfl rfl fun a hs => ?_
   refine st_skip hs rfl rfl rfl rfl rfl fun a hs => ?_
   refine st_skip hs rfl rfl rfl rfl rfl fun a hs => ?_
   refine sv hs (y_pickT rfl rfl) rfl fun a hs => ?_
   refine wpList_nil ?_
   have hsh := oi hsh
   subst hsh
   refine then_normal ?_
   exact ⟨Sv58, (hs.wk rfl), (hw.ft [0] [0] (by decide) rfl rfl)⟩
  have hs := hs.fix 32 (.bool false) rfl (vb h73)
  have hsh := ite_f hc74 h73
  refine st_val hs (y_fieldAddr (o' := 9) Tryz.runUnderlying102 rfl Tryz.sizeOf3 rfl rfl rfl) ⟨_, rfl, rfl⟩ rfl rfl fun a hs => ?_
  refine st_val hs (y_loadB1 (hw.ownAt 0 rfl) rfl Tryz.isAgg3 rfl) ⟨_, rfl, rfl⟩ rfl rfl fun a hs => ?_
  obtain ⟨rv77, h76, hsh⟩ := bind_t hsh
  refine st_callR hs (record_in_ok h76 hw.bdom) (do_call Tryz.call105 rfl) ⟨_, rfl, rfl⟩ rfl rfl ?_
  intro v81 Sv78 w a h79 h80 hs
  subst h80
  have hw := hw.callB h79
  refine st_val hs (y_not rfl) ⟨_, rfl, rfl⟩ rfl rfl fun a hs => ?_
  refine sv hs (y_pickF rfl rfl) rfl fun a hs => ?_
  refine wpList_nil ?_
  have hsh := oi hsh
  subst hsh
  refine then_normal ?_
  exact ⟨Sv58, (hs.wk rfl), (hw.ft [0] [0] (by decide) rfl rfl)⟩
 rintro a w ⟨Sv75, hs, hw⟩
 refine mv hs rfl rfl fun a hs => ?_
 obtain ⟨c91, hc91, hsh⟩ := bind_t hsh
 refine wpl_join 5 (fun a w => ∃ (Sv92 : Nat → Prop), Sl 68 [(1, .pointer (some ⟨b5, 0, none⟩)), (3, .int .i64 n7), (43, .bool c91)] a ∧ Wd ⟨w0, S0, []⟩ Sv92 [.box b5 [.string r1.Source.Network, .string r1.Source.Station, .string r1.Source.Location, .string r1.Source.Channel, .int .i64 r1.Start, .int .i64 r1.First, .int .i64 r1.Rate.Num, .int .i64 r1.Rate.Den, .int .i64 r1.Error, .int .i64 r1.Run, .int .i64 r1.Seq, .slice p2 r1.Samples.length k3] 102] [SlA p2 r1.Samples.length k3 r1.Samples] w) ?_ ?_
 ·rcases Bool.eq_false_or_eq_true c74 with h90 | h90
  ·have hs := hs.fix 38 (.bool true) rfl (vb h90)
   have hsh := ite_t hc91 h90
   refine st_skip hs rfl rfl rfl rfl rfl fun a hs => ?_
   refine st_skip hs rfl rfl rfl rfl rfl fun a hs => ?_
   refine st_skip hs rfl rfl rfl rfl rfl fun a hs => ?_
   refine st_skip hs rfl rfl rfl rfl rfl fun a hs => ?_
   refine sv hs (y_pickT rfl rfl) rfl fun a hs => ?_
   refine wpList_nil ?_
   have hsh := oi hsh
   subst hsh
   refine then_normal ?_
   exact ⟨Sv75, (hs.wk rfl), (hw.ft [0] [0] (by decide) rfl rfl)⟩
  have hs := hs.fix 38 (.bool false) rfl (vb h90)
  have hsh := ite_f hc91 h90
  refine st_val hs (y_fieldAddr (o' := 10) Tryz.runUnderlying102 rfl Tryz.sizeOf3 rfl rfl rfl) ⟨_, rfl, rfl⟩ rfl rfl fun a hs => ?_
  refine st_val hs (y_loadB1 (hw.ownAt 0 rfl) rfl Tryz.isAgg3 rfl) ⟨_, rfl, rfl⟩ rfl rfl fun a hs => ?_
  obtain ⟨rv94, h93, hsh⟩ := bind_t hsh
  refine st_callR hs (record_in_ok h93 hw.bdom) (do_call Tryz.call105 rfl) ⟨_, rfl, rfl⟩ rfl rfl ?_
  intro v98 Sv95 w a h96 h97 hs
  subst h97
  have hw := hw.callB h96
  refine st_val hs (y_not rfl) ⟨_, rfl, rfl⟩ rfl rfl fun a hs => ?_
  refine sv hs (y_pickF rfl rfl) rfl fun a hs => ?_
  refine wpList_nil ?_
  have hsh := oi hsh
  subst hsh
  refine then_normal ?_
  exact ⟨Sv75, (hs.wk rfl), (hw.ft [0] [0] (by decide) rfl rfl)⟩
 rintro a w ⟨Sv92, hs, hw⟩
 refine nl ?_
 refine wp_cond_split (hs.ev rfl) (fun h101 => ?_) (fun h101 => ?_)
 ·have hsh := ite_t hsh h101
  refine sr ?_
  refine av hs rfl rfl fun a hs => ?_
  refine nl ?_
  have hsh := oi hsh
  subst hsh
  refine wp_ret ?_
  refine then_ret ?_
  exact ret1 hs rfl (rv_tmp rfl) (hw.ret rfl)
 have hsh := ite_f hsh h101
 refine wp_skip ?_
 refine then_normal ?_
 refine sr ?_
 refine sv hs (y_fieldAddr (o' := 4) Tryz.runUnderlying102 rfl Tryz.sizeOf3 rfl rfl rfl) rfl fun a hs => ?_
 refine sv hs (y_loadB1 (hw.ownAt 0 rfl) rfl Tryz.isAgg3 rfl) rfl fun a hs => ?_
 refine sv hs (y_fieldAddr (o' := 6) Tryz.runUnderlying102 rfl Tryz.sizeOf34 rfl rfl rfl) rfl fun a hs => ?_
 refine sv hs (y_loadBA (hw.ownAt 0 rfl) rfl Tryz.isAgg34 Tryz.sizeOf34 rfl rfl) rfl fun a hs => ?_
 refine sv hs (y_fieldAddr (o' := 5) Tryz.runUnderlying102 rfl Tryz.sizeOf3 rfl rfl rfl) rfl fun a hs => ?_
 refine sv hs (y_loadB1 (hw.ownAt 0 rfl) rfl Tryz.isAgg3 rfl) rfl fun a hs => ?_
 refine mv hs rfl rfl fun a hs => ?_
 refine sv hs (y_add rfl rfl) rfl fun a hs => ?_
 obtain ⟨rv103, h102, hsh⟩ := bind_t hsh
 refine st_callR hs (rate_Time_ok h102 hw.bdom) (do_call Tryz.call74 rfl) trivial rfl rfl ?_
 intro v107 Sv104 w a h105 h106 hs
 subst h106
 have hw := hw.callB h105
 refine mv hs rfl rfl fun a hs => ?_
 refine sv hs (y_extract rfl rfl) rfl fun a hs => ?_
 refine sv hs (y_extract rfl rfl) rfl fun a hs => ?_
 refine av hs rfl rfl fun a hs => ?_
 refine av hs rfl rfl fun a hs => ?_
 refine nl ?_
 refine sr ?_
 refine mv hs rfl rfl fun a hs => ?_
 refine sv hs (y_eql rfl rfl) rfl fun a hs => ?_
 refine mv hs rfl rfl fun a hs => ?_
 refine wpl_join 3 (fun a w1 => w = w1 ∧ Sl 68 [(1, .pointer (some ⟨b5, 0, none⟩)), (61, .bool ((rv103.2 == 0) && (decide (rv103.1 ≤ 9007199254740992))))] a) ?_ ?_
 ·rcases Bool.eq_false_or_eq_true (rv103.2 == 0) with h109 | h109
  ·have hs := hs.fix 58 (.bool true) rfl (vb h109)
   refine st_val hs (y_move rfl) ⟨_, rfl, rfl⟩ rfl rfl fun a hs => ?_
   refine st_val hs (y_leq rfl rfl) ⟨_, rfl, rfl⟩ rfl rfl fun a hs => ?_
   refine sv hs (y_pickT rfl rfl) rfl fun a hs => ?_
   refine nl ?_
   exact ⟨rfl, (hs.fix 61 (.bool ((rv103.2 == 0) && (decide (rv103.1 ≤ 9007199254740992)))) rfl (and_t h109)).weaken _ ⟨rfl, rfl, trivial⟩⟩
  have hs := hs.fix 58 (.bool false) rfl (vb h109)
  refine st_skip hs rfl rfl rfl rfl rfl fun a hs => ?_
  refine st_skip hs rfl rfl rfl rfl rfl fun a hs => ?_
  refine sv hs (y_pickF rfl rfl) rfl fun a hs => ?_
  refine nl ?_
  exact ⟨rfl, (hs.fix 61 (.bool ((rv103.2 == 0) && (decide (rv103.1 ≤ 9007199254740992)))) rfl (and_f h109)).weaken _ ⟨rfl, rfl, trivial⟩⟩
 rintro a w1 ⟨h127, hs⟩
 subst h127
 refine mv hs rfl rfl fun a hs => ?_
 obtain ⟨c118, hc118, hsh⟩ := bind_t hsh
 refine wpl_join 5 (fun a w => ∃ (Sv119 : Nat → Prop), Sl 68 [(67, .bool c118)] a ∧ Wd ⟨w0, S0, []⟩ Sv119 [] [] w) ?_ ?_
 ·rcases Bool.eq_false_or_eq_true ((rv103.2 == 0) && (decide (rv103.1 ≤ 9007199254740992))) with h117 | h117
  ·have hs := hs.fix 62 (.bool true) rfl (vb h117)
   have hsh := ite_t hc118 h117
   refine st_val hs (y_fieldAddr (o' := 11) Tryz.runUnderlying102 rfl Tryz.sizeOf22 rfl rfl rfl) ⟨_, rfl, rfl⟩ rfl rfl fun a hs => ?_
   refine st_val hs (y_loadB1 (hw.ownAt 0 rfl) rfl Tryz.isAgg22 rfl) ⟨_, rfl, rfl⟩ rfl rfl fun a hs => ?_
   obtain ⟨rv121, h120, hsh⟩ := bind_t hsh
   refine st_callR hs (slices_ContainsFunc_Lint_int_ok h120 hw.bdom (hw.bE 0 rfl) (record_Valid_fn1_fn _ _)) (do_call Tryz.call60 rfl) ⟨_, rfl, rfl⟩ rfl rfl ?_
   intro v125 Sv122 w a h123 h124 hs
   subst h124
   have hw := hw.callB h123
   refine st_val hs (y_not rfl) ⟨_, rfl, rfl⟩ rfl rfl fun a hs => ?_
   refine sv hs (y_pickT rfl rfl) rfl fun a hs => ?_
   refine wpList_nil ?_
   have hsh := oi hsh
   subst hsh
   refine then_normal ?_
   exact ⟨Sv92, (hs.wk rfl), (hw.ft [] [] (by decide) rfl rfl)⟩
  have hs := hs.fix 62 (.bool false) rfl (vb h117)
  have hsh := ite_f hc118 h117
  refine st_skip hs rfl rfl rfl rfl rfl fun a hs => ?_
  refine st_skip hs rfl rfl rfl rfl rfl fun a hs => ?_
  refine st_skip hs rfl rfl rfl rfl rfl fun a hs => ?_
  refine st_skip hs rfl rfl rfl rfl rfl fun a hs => ?_
  refine sv hs (y_pickF rfl rfl) rfl fun a hs => ?_
  refine wpList_nil ?_
  have hsh := oi hsh
  subst hsh
  refine then_normal ?_
  exact ⟨Sv92, (hs.wk rfl), (hw.ft [] [] (by decide) rfl rfl)⟩
 rintro a w ⟨Sv119, hs, hw⟩
 refine av hs rfl rfl fun a hs => ?_
 refine nl ?_
 have hsh := oi hsh
 subst hsh
 refine wp_ret ?_
 exact ret1 hs rfl (rv_tmp rfl) (hw.ret rfl)
abbrev continuity_ValidSegment_rd (w0 : World) (X : List Nat) (r : Bool) : (Nat → Prop) → World → Value → Prop := fun S w v => v = .bool r
set_option maxHeartbeats 4000000 in
set_option maxRecDepth 100000 in
theorem continuity_ValidSegment_ok {w0 : World} {S0 : Nat → Prop} {p2 : Option Addr} {k3 : Nat} {s1 : Segment} {r : Bool} (hsh : continuity_ValidSegment s1 = some r) (hS : ∀ b, S0 b → b < w0.heap.size) (h4 : (SlA p2 s1.Samples.length k3 s1.Samples).p S0 w0) : Calls Tryz.prog 66 #[.agg #[.int .i64 s1.Start, .int .i64 s1.First, .int .i64 s1.Rate.Num, .int .i64 s1.Rate.Den, .int .i64 s1.Error, .slice p2 s1.Samples.length k3]] w0 (Ret ([]) w0 S0 (continuity_ValidSegment_rd w0 ([]) r)) := by
 refine calls_of_wp Tryz.func66 rfl ?_
 have hs := Sl.enter #[.agg #[.int .i64 s1.Start, .int .i64 s1.First, .int .i64 s1.Rate.Num, .int .i64 s1.Rate.Den, .int .i64 s1.Error, .slice p2 s1.Samples.length k3]] 6 [(0, .agg #[.int .i64 s1.Start, .int .i64 s1.First, .int .i64 s1.Rate.Num, .int .i64 s1.Rate.Den, .int .i64 s1.Error, .slice p2 s1.Samples.length k3])] rfl ⟨rfl, trivial⟩
 have hw := Wd.enter (E := []) hS (fun _ h => (by cases h))
 have hw := hw.addE h4
 delta continuity_ValidSegment at hsh
 refine sr ?_
 refine w_box (cs := [.int .i64 s1.Start, .int .i64 s1.First, .int .i64 s1.Rate.Num, .int .i64 s1.Rate.Den, .int .i64 s1.Error, .slice p2 s1.Samples.length k3]) hs hw rfl rfl rfl trivial ?_
 intro b5 a w hs hw
 refine av hs rfl rfl fun a hs => ?_
 refine nl ?_
 refine sr ?_
 refine sv hs (y_loadBA (hw.ownAt 0 rfl) rfl Tryz.isAgg36 Tryz.sizeOf36 rfl rfl) rfl fun a hs => ?_
 obtain ⟨rv7, h6, hsh⟩ := bind_t hsh
 refine st_callR hs (continuity_body_ok h6 hw.dom (hw.envAt 0 rfl)) (do_call Tryz.call86 rfl) trivial rfl rfl ?_
 intro v14 Sv11 w a h12 h13 hs
 obtain ⟨p8, k9, rfl, h10⟩ := h13
 have hw := hw.call h12
 have hw := hw.addE (e := SlA p8 rv7.Samples.length k9 rv7.Samples) h10
 obtain ⟨rv17, h16, hsh⟩ := bind_t hsh
 refine st_callR hs (record_Valid_ok h16 hw.bdom (hw.bE 0 rfl)) (do_call Tryz.call85 rfl) trivial rfl rfl ?_
 intro v21 Sv18 w a h19 h20 hs
 subst h20
 have hw := hw.callB h19
 refine av hs rfl rfl fun a hs => ?_
 refine nl ?_
 have hsh := oi hsh
 subst hsh
 refine wp_ret ?_
 exact ret1 hs rfl (rv_tmp rfl) (hw.ret rfl)
abbrev picker_valid_fn1_rd (w0 : World) (X : List Nat) (r : Bool) : (Nat → Prop) → World → Value → Prop := fun S w v => v = .bool r
set_option maxHeartbeats 4000000 in
set_option maxRecDepth 100000 in
theorem picker_valid_fn1_ok {w0 : World} {S0 : Nat → Prop} {p2 : Option Addr} {k3 : Nat} {g1 : Segment} {r : Bool} (hsh : picker_valid_fn1 g1 = some r) (hS : ∀ b, S0 b → b < w0.heap.size) (h4 : (SlA p2 g1.Samples.length k3 g1.Samples).p S0 w0) : Calls Tryz.prog 65 #[.agg #[.int .i64 g1.Start, .int .i64 g1.First, .int .i64 g1.Rate.Num, .int .i64 g1.Rate.Den, .int .i64 g1.Error, .slice p2 g1.Samples.length k3]] w0 (Ret ([]) w0 S0 (picker_valid_fn1_rd w0 ([]) r)) := by
 refine calls_of_wp Tryz.func65 rfl ?_
 have hs := Sl.enter #[.agg #[.int .i64 g1.Start, .int .i64 g1.First, .int .i64 g1.Rate.Num, .int .i64 g1.Rate.Den, .int .i64 g1.Error, .slice p2 g1.Samples.length k3]] 6 [(0, .agg #[.int .i64 g1.Start, .int .i64 g1.First, .int .i64 g1.Rate.Num, .int .i64 g1.Rate.Den, .int .i64 g1.Error, .slice p2 g1.Samples.length k3])] rfl ⟨rfl, trivial⟩
 have hw := Wd.enter (E := []) hS (fun _ h => (by cases h))
 have hw := hw.addE h4
 delta picker_valid_fn1 at hsh
 refine sr ?_
 refine w_box (cs := [.int .i64 g1.Start, .int .i64 g1.First, .int .i64 g1.Rate.Num, .int .i64 g1.Rate.Den, .int .i64 g1.Error, .slice p2 g1.Samples.length k3]) hs hw rfl rfl rfl trivial ?_
 intro b5 a w hs hw
 refine av hs rfl rfl fun a hs => ?_
 refine nl ?_
 refine sr ?_
 refine sv hs (y_loadBA (hw.ownAt 0 rfl) rfl Tryz.isAgg36 Tryz.sizeOf36 rfl rfl) rfl fun a hs => ?_
 obtain ⟨rv7, h6, hsh⟩ := bind_t hsh
 refine st_callR hs (continuity_ValidSegment_ok h6 hw.bdom (hw.bE 0 rfl)) (do_call Tryz.call66 rfl) trivial rfl rfl ?_
 intro v11 Sv8 w a h9 h10 hs
 subst h10
 have hw := hw.callB h9
 refine sv hs (y_not rfl) rfl fun a hs => ?_
 refine av hs rfl rfl fun a hs => ?_
 refine nl ?_
 have hsh := oi hsh
 subst hsh
 refine wp_ret ?_
 exact ret1 hs rfl (rv_tmp rfl) (hw.ret rfl)
theorem picker_valid_fn1_fn (S0 : Nat → Prop) (w0 : World) : (FnA1 Tryz.prog 65 [] [] picker_valid_fn1).p S0 w0 := by
  refine ⟨Tryz.call65, ?_⟩
  intro S1 w1 hk hS c0 x0 r1 h0 hf
  obtain ⟨_, _, _, _, _, _, rfl, rfl, rfl, rfl, rfl, rfl, ⟨_, _, _, rfl, e0⟩⟩ := h0
  obtain rfl := e0.1
  exact picker_valid_fn1_ok hf hS e0 
abbrev picker_valid_rd (w0 : World) (X : List Nat) (r : Bool) : (Nat → Prop) → World → Value → Prop := fun S w v => v = .bool r
set_option maxHeartbeats 4000000 in
set_option maxRecDepth 100000 in
theorem picker_valid_ok {w0 : World} {S0 : Nat → Prop} {p4 : Option Addr} {k5 : Nat} {p1 : Picking} {s2 : SourceID} {l3 : (List Segment)} {r : Bool} (hsh : picker_valid p1 s2 l3 = some r) (hS : ∀ b, S0 b → b < w0.heap.size) (h6 : (SlA p4 l3.length k5 l3).p S0 w0) : Calls Tryz.prog 42 #[.agg #[.int .i64 p1.Detector.Short, .int .i64 p1.Detector.Long, .int .i64 p1.Detector.On, .int .i64 p1.Detector.Off, .int .i64 p1.Back, .int .i64 p1.Level, .int .i64 p1.Floor], .agg #[.string s2.Network, .string s2.Station, .string s2.Location, .string s2.Channel], .slice p4 l3.length k5] w0 (Ret ([]) w0 S0 (picker_valid_rd w0 ([]) r)) := by
 refine calls_of_wp Tryz.func42 rfl ?_
 have hs := Sl.enter #[.agg #[.int .i64 p1.Detector.Short, .int .i64 p1.Detector.Long, .int .i64 p1.Detector.On, .int .i64 p1.Detector.Off, .int .i64 p1.Back, .int .i64 p1.Level, .int .i64 p1.Floor], .agg #[.string s2.Network, .string s2.Station, .string s2.Location, .string s2.Channel], .slice p4 l3.length k5] 18 [(0, .agg #[.int .i64 p1.Detector.Short, .int .i64 p1.Detector.Long, .int .i64 p1.Detector.On, .int .i64 p1.Detector.Off, .int .i64 p1.Back, .int .i64 p1.Level, .int .i64 p1.Floor]), (1, .agg #[.string s2.Network, .string s2.Station, .string s2.Location, .string s2.Channel]), (2, .slice p4 l3.length k5)] rfl ⟨rfl, rfl, rfl, trivial⟩
 have hw := Wd.enter (E := []) hS (fun _ h => (by cases h))
 have hw := hw.addE h6
 delta picker_valid at hsh
 refine sr ?_
 refine w_box (cs := [.int .i64 p1.Detector.Short, .int .i64 p1.Detector.Long, .int .i64 p1.Detector.On, .int .i64 p1.Detector.Off, .int .i64 p1.Back, .int .i64 p1.Level, .int .i64 p1.Floor]) hs hw rfl rfl rfl trivial ?_
 intro b7 a w hs hw
 refine w_box (cs := [.string s2.Network, .string s2.Station, .string s2.Location, .string s2.Channel]) hs hw rfl rfl rfl trivial ?_
 intro b8 a w hs hw
 refine av hs rfl rfl fun a hs => ?_
 refine nl ?_
 refine sr ?_
 refine sv hs (y_loadBA (hw.ownAt 1 rfl) rfl Tryz.isAgg26 Tryz.sizeOf26 rfl rfl) rfl fun a hs => ?_
 obtain ⟨rv10, h9, hsh⟩ := bind_t hsh
 refine st_callR hs (picker_Valid_ok h9 hw.bdom) (do_call Tryz.call14 rfl) trivial rfl rfl ?_
 intro v14 Sv11 w a h12 h13 hs
 subst h13
 have hw := hw.callB h12
 refine mv hs rfl rfl fun a hs => ?_
 obtain ⟨c24, hc24, hsh⟩ := bind_t hsh
 refine wpl_join 3 (fun a w => ∃ (Sv25 : Nat → Prop), Sl 18 [(2, .slice p4 l3.length k5), (12, .bool c24)] a ∧ Wd ⟨w0, S0, []⟩ Sv25 [] [SlA p4 l3.length k5 l3] w) ?_ ?_
 ·rcases Bool.eq_false_or_eq_true rv10 with h23 | h23
  ·have hs := hs.fix 9 (.bool true) rfl (vb h23)
   have hsh := ite_t hc24 h23
   refine st_val hs (y_loadBA (hw.ownAt 0 rfl) rfl Tryz.isAgg41 Tryz.sizeOf41 rfl rfl) ⟨_, rfl, rfl⟩ rfl rfl fun a hs => ?_
   obtain ⟨rv27, h26, hsh⟩ := bind_t hsh
   refine st_callR hs (source_Valid_ok h26 hw.bdom) (do_call Tryz.call52 rfl) ⟨_, rfl, rfl⟩ rfl rfl ?_
   intro v31 Sv28 w a h29 h30 hs
   subst h30
   have hw := hw.callB h29
   refine sv hs (y_pickT rfl rfl) rfl fun a hs => ?_
   refine wpList_nil ?_
   have hsh := oi hsh
   subst hsh
   refine then_normal ?_
   exact ⟨S0, (hs.wk rfl), (hw.ft [] [0] (by decide) rfl rfl)⟩
  have hs := hs.fix 9 (.bool false) rfl (vb h23)
  have hsh := ite_f hc24 h23
  refine st_skip hs rfl rfl rfl rfl rfl fun a hs => ?_
  refine st_skip hs rfl rfl rfl rfl rfl fun a hs => ?_
  refine sv hs (y_pickF rfl rfl) rfl fun a hs => ?_
  refine wpList_nil ?_
  have hsh := oi hsh
  subst hsh
  refine then_normal ?_
  exact ⟨S0, (hs.wk rfl), (hw.ft [] [0] (by decide) rfl rfl)⟩
 rintro a w ⟨Sv25, hs, hw⟩
 refine mv hs rfl rfl fun a hs => ?_
 obtain ⟨c41, hc41, hsh⟩ := bind_t hsh
 refine wpl_join 4 (fun a w => ∃ (Sv42 : Nat → Prop), Sl 18 [(17, .bool c41)] a ∧ Wd ⟨w0, S0, []⟩ Sv42 [] [] w) ?_ ?_
 ·rcases Bool.eq_false_or_eq_true c24 with h40 | h40
  ·have hs := hs.fix 13 (.bool true) rfl (vb h40)
   have hsh := ite_t hc41 h40
   refine st_val hs (y_move rfl) ⟨_, rfl, rfl⟩ rfl rfl fun a hs => ?_
   obtain ⟨rv44, h43, hsh⟩ := bind_t hsh
   refine st_callR hs (slices_ContainsFunc_Lapi_Segment_api_Segment_ok h43 hw.bdom (hw.bE 0 rfl) (picker_valid_fn1_fn _ _)) (do_call Tryz.call64 rfl) ⟨_, rfl, rfl⟩ rfl rfl ?_
   intro v48 Sv45 w a h46 h47 hs
   subst h47
   have hw := hw.callB h46
   refine st_val hs (y_not rfl) ⟨_, rfl, rfl⟩ rfl rfl fun a hs => ?_
   refine sv hs (y_pickT rfl rfl) rfl fun a hs => ?_
   refine wpList_nil ?_
   have hsh := oi hsh
   subst hsh
   refine then_normal ?_
   exact ⟨Sv25, (hs.wk rfl), (hw.ft [] [] (by decide) rfl rfl)⟩
  have hs := hs.fix 13 (.bool false) rfl (vb h40)
  have hsh := ite_f hc41 h40
  refine st_skip hs rfl rfl rfl rfl rfl fun a hs => ?_
  refine st_skip hs rfl rfl rfl rfl rfl fun a hs => ?_
  refine st_skip hs rfl rfl rfl rfl rfl fun a hs => ?_
  refine sv hs (y_pickF rfl rfl) rfl fun a hs => ?_
  refine wpList_nil ?_
  have hsh := oi hsh
  subst hsh
  refine then_normal ?_
  exact ⟨Sv25, (hs.wk rfl), (hw.ft [] [] (by decide) rfl rfl)⟩
 rintro a w ⟨Sv42, hs, hw⟩
 refine av hs rfl rfl fun a hs => ?_
 refine nl ?_
 have hsh := oi hsh
 subst hsh
 refine wp_ret ?_
 exact ret1 hs rfl (rv_tmp rfl) (hw.ret rfl)
abbrev detector_Start_rd (w0 : World) (X : List Nat) (r : (Watch × Int)) : (Nat → Prop) → World → Value → Prop := fun S w v => ∃ (p0_4 : Option Addr) (k0_4 : Nat), v = .tuple #[.agg #[.int .i64 r.1.Detector.Short, .int .i64 r.1.Detector.Long, .int .i64 r.1.Detector.On, .int .i64 r.1.Detector.Off, .slice p0_4 r.1.Past.length k0_4, .int .i64 r.1.Count, .int .i64 r.1.Open.On, .int .i64 r.1.Open.Off, .int .i64 r.1.Open.Peak], .int .i64 r.2] ∧ (SlA p0_4 r.1.Past.length k0_4 r.1.Past).p S w
set_option maxHeartbeats 4000000 in
set_option maxRecDepth 100000 in
theorem detector_Start_ok {w0 : World} {S0 : Nat → Prop} {d1 : Detector} {r : (Watch × Int)} (hsh : detector_Start d1 = some r) (hS : ∀ b, S0 b → b < w0.heap.size) : Calls Tryz.prog 70 #[.agg #[.int .i64 d1.Short, .int .i64 d1.Long, .int .i64 d1.On, .int .i64 d1.Off]] w0 (Ret ([]) w0 S0 (detector_Start_rd w0 ([]) r)) := by
 refine calls_of_wp Tryz.func70 rfl ?_
 have hs := Sl.enter #[.agg #[.int .i64 d1.Short, .int .i64 d1.Long, .int .i64 d1.On, .int .i64 d1.Off]] 11 [(0, .agg #[.int .i64 d1.Short, .int .i64 d1.Long, .int .i64 d1.On, .int .i64 d1.Off])] rfl ⟨rfl, trivial⟩
 have hw := Wd.enter (E := []) hS (fun _ h => (by cases h))
 delta detector_Start at hsh
 refine sr ?_
 refine w_box (cs := [.int .i64 d1.Short, .int .i64 d1.Long, .int .i64 d1.On, .int .i64 d1.Off]) hs hw rfl rfl rfl trivial ?_
 intro b2 a w hs hw
 refine w_alloc (cs := [.int .i64 0, .int .i64 0, .int .i64 0, .int .i64 0, .slice none ([] : List Int).length 0, .int .i64 0, .int .i64 0, .int .i64 0, .int .i64 0]) hs hw Tryz.zeroValue105 rfl rfl trivial ?_
 intro b3 a w hs hw
 refine av hs rfl rfl fun a hs => ?_
 refine nl ?_
 refine wp_seq ?_
 refine sr ?_
 refine sv hs (y_loadBA (hw.ownAt 1 rfl) rfl Tryz.isAgg24 Tryz.sizeOf24 rfl rfl) rfl fun a hs => ?_
 obtain ⟨rv5, h4, hsh⟩ := bind_t hsh
 refine st_callR hs (detector_Valid_ok h4 hw.bdom) (do_call Tryz.call35 rfl) trivial rfl rfl ?_
 intro v9 Sv6 w a h7 h8 hs
 subst h8
 have hw := hw.callB h7
 refine sv hs (y_not rfl) rfl fun a hs => ?_
 refine nl ?_
 refine wp_cond_split (hs.ev rfl) (fun h12 => ?_) (fun h12 => ?_)
 ·have hsh := ite_t hsh h12
  refine sr ?_
  refine sv hs (y_build (vs := []) Bld105 rfl rfl) rfl fun a hs => ?_
  refine w_store (m := 9) (cs' := [.int .i64 0, .int .i64 0, .int .i64 0, .int .i64 0, .slice none ([] : List Int).length 0, .int .i64 0, .int .i64 0, .int .i64 0, .int .i64 0]) hs hw 0 rfl rfl rfl Tryz.sizeOf105 rfl rfl rfl rfl trivial ?_
  intro a w hs hw
  refine av hs rfl rfl fun a hs => ?_
  refine nl ?_
  have hsh := oi hsh
  subst hsh
  have hw := hw.addE (e := SlA (α := Int) none 0 0 []) nil_sl
  refine wp_ret ?_
  refine then_ret ?_
  exact ret2 hs rfl (rv_cell hw 0 rfl rfl Tryz.isAgg105 Tryz.sizeOf105 rfl) (rv_tmp rfl) (hw.ret ⟨none, 0, rfl, (hw.envAt 0 rfl)⟩)
 have hsh := ite_f hsh h12
 refine wp_skip ?_
 refine then_normal ?_
 refine sr ?_
 refine sv hs (y_loadBA (hw.ownAt 1 rfl) rfl Tryz.isAgg24 Tryz.sizeOf24 rfl rfl) rfl fun a hs => ?_
 refine sv hs (y_build (vs := [(0, .int .i64 (-1))]) Bld28 rfl rfl) rfl fun a hs => ?_
 refine sv hs (y_build (vs := [(0, .agg #[.int .i64 d1.Short, .int .i64 d1.Long, .int .i64 d1.On, .int .i64 d1.Off]), (3, .agg #[.int .i64 (-1), .int .i64 0, .int .i64 0])]) Bld105 rfl rfl) rfl fun a hs => ?_
 refine w_store (m := 9) (cs' := [.int .i64 d1.Short, .int .i64 d1.Long, .int .i64 d1.On, .int .i64 d1.Off, .slice none ([] : List Int).length 0, .int .i64 0, .int .i64 (-1), .int .i64 0, .int .i64 0]) hs hw 0 rfl rfl rfl Tryz.sizeOf105 rfl rfl rfl rfl trivial ?_
 intro a w hs hw
 refine av hs rfl rfl fun a hs => ?_
 refine nl ?_
 have hsh := oi hsh
 subst hsh
 have hw := hw.addE (e := SlA (α := Int) none 0 0 []) nil_sl
 refine wp_ret ?_
 exact ret2 hs rfl (rv_cell hw 0 rfl rfl Tryz.isAgg105 Tryz.sizeOf105 rfl) (rv_tmp rfl) (hw.ret ⟨none, 0, rfl, (hw.envAt 0 rfl)⟩)
abbrev detector_open_rd (w0 : World) (X : List Nat) (r : Detector_window) : (Nat → Prop) → World → Value → Prop := fun S w v => ∃ (b_0 : Nat) (p0_4 : Option Addr) (k0_4 : Nat) (c0_4 : List Value) (p0_11 : Option Addr) (k0_11 : Nat) (c0_11 : List Value), v = .pointer (some ⟨b_0, 0, none⟩) ∧ Outs X w0 S w [.box b_0 [.int .i64 r.Watch.Detector.Short, .int .i64 r.Watch.Detector.Long, .int .i64 r.Watch.Detector.On, .int .i64 r.Watch.Detector.Off, .slice p0_4 r.Watch.Past.length k0_4, .int .i64 r.Watch.Count, .int .i64 r.Watch.Open.On, .int .i64 r.Watch.Open.Off, .int .i64 r.Watch.Open.Peak, .int .i64 r.short_, .int .i64 r.long_, .slice p0_11 r.ended_.length k0_11] 112, .row p0_4 r.Watch.Past.length k0_4 c0_4 3 1, .row p0_11 r.ended_.length k0_11 c0_11 28 3] ∧ (RowA c0_4 r.Watch.Past).p S w ∧ (RowA c0_11 r.ended_).p S w
set_option maxHeartbeats 4000000 in
set_option maxRecDepth 100000 in
theorem detector_open_ok {w0 : World} {S0 : Nat → Prop} {p2 : Option Addr} {k3 : Nat} {wv1 : Watch} {r : Detector_window} (hsh : detector_open wv1 = some r) (hS : ∀ b, S0 b → b < w0.heap.size) (h4 : (SlA p2 wv1.Past.length k3 wv1.Past).p S0 w0) : Calls Tryz.prog 71 #[.agg #[.int .i64 wv1.Detector.Short, .int .i64 wv1.Detector.Long, .int .i64 wv1.Detector.On, .int .i64 wv1.Detector.Off, .slice p2 wv1.Past.length k3, .int .i64 wv1.Count, .int .i64 wv1.Open.On, .int .i64 wv1.Open.Off, .int .i64 wv1.Open.Peak]] w0 (Ret ([]) w0 S0 (detector_open_rd w0 ([]) r)) := by
 refine calls_of_wp Tryz.func71 rfl ?_
 have hs := Sl.enter #[.agg #[.int .i64 wv1.Detector.Short, .int .i64 wv1.Detector.Long, .int .i64 wv1.Detector.On, .int .i64 wv1.Detector.Off, .slice p2 wv1.Past.length k3, .int .i64 wv1.Count, .int .i64 wv1.Open.On, .int .i64 wv1.Open.Off, .int .i64 wv1.Open.Peak]] 33 [(0, .agg #[.int .i64 wv1.Detector.Short, .int .i64 wv1.Detector.Long, .int .i64 wv1.Detector.On, .int .i64 wv1.Detector.Off, .slice p2 wv1.Past.length k3, .int .i64 wv1.Count, .int .i64 wv1.Open.On, .int .i64 wv1.Open.Off, .int .i64 wv1.Open.Peak])] rfl ⟨rfl, trivial⟩
 have hw := Wd.enter (E := []) hS (fun _ h => (by cases h))
 have hw := hw.addE h4
 delta detector_open at hsh
 refine sr ?_
 refine w_box (cs := [.int .i64 wv1.Detector.Short, .int .i64 wv1.Detector.Long, .int .i64 wv1.Detector.On, .int .i64 wv1.Detector.Off, .slice p2 wv1.Past.length k3, .int .i64 wv1.Count, .int .i64 wv1.Open.On, .int .i64 wv1.Open.Off, .int .i64 wv1.Open.Peak]) hs hw rfl rfl rfl trivial ?_
 intro b5 a w hs hw
 refine av hs rfl rfl fun a hs => ?_
 refine nl ?_
 refine sr ?_
 refine sv hs (y_fieldAddr (o' := 4) Tryz.runUnderlying105 rfl Tryz.sizeOf22 rfl rfl rfl) rfl fun a hs => ?_
 refine sv hs (y_loadB1 (hw.ownAt 0 rfl) rfl Tryz.isAgg22 rfl) rfl fun a hs => ?_
 refine sv hs (y_len Tryz.runUnderlying22 rfl) rfl fun a hs => ?_
 obtain ⟨n7, h6, hsh⟩ := bind_t hsh
 refine sv hs (y_assignI rfl h6) rfl fun a hs => ?_
 refine nl ?_
 refine sr ?_
 refine mv hs rfl rfl fun a hs => ?_
 refine mv hs rfl rfl fun a hs => ?_
 refine sv hs (y_add rfl rfl) rfl fun a hs => ?_
 obtain ⟨l9, h8, hsh⟩ := bind_t hsh
 refine w_makeC (α := Int) hs hw El22 ⟨_, rfl, rfl⟩ rfl rfl h8 rfl trivial ?_
 intro p10 k12 c11 a w hs hw
 refine av hs rfl rfl fun a hs => ?_
 refine nl ?_
 refine sr ?_
 refine mv hs rfl rfl fun a hs => ?_
 refine sv hs (y_fieldAddr (o' := 4) Tryz.runUnderlying105 rfl Tryz.sizeOf22 rfl rfl rfl) rfl fun a hs => ?_
 refine sv hs (y_loadB1 (hw.ownAt 1 rfl) rfl Tryz.isAgg22 rfl) rfl fun a hs => ?_
 obtain ⟨l13, h14, hsh⟩ := bind_t hsh
 have h17 := sub_full l9
 have h18 := row_full hw 0 rfl
 obtain ⟨ds_, h19⟩ := src_sl (hw.envAt 1 rfl)
 refine w_copyC (α := Int) hs hw 0 rfl 0 rfl Tryz.runUnderlying22 Tryz.runUnderlying22 Tryz.sizeOf3 (by decide) h17 h18 rfl rfl rfl h19.1 h19.2.1 h19.2.2 rfl trivial ?_
 intro c15 a w hs hw
 rw [Option.some.inj h14] at hw
 have h16 := (copy_lenS h17 h14)
 try have hs := hs.fl 4 rfl h16
 try have hs := hs.fl 12 rfl h16
 refine nl ?_
 refine sr ?_
 refine mv hs rfl rfl fun a hs => ?_
 refine sv hs (y_fieldAddr (o' := 4) Tryz.runUnderlying105 rfl Tryz.sizeOf22 rfl rfl rfl) rfl fun a hs => ?_
 refine w_store (m := 1) (cs' := [.int .i64 wv1.Detector.Short, .int .i64 wv1.Detector.Long, .int .i64 wv1.Detector.On, .int .i64 wv1.Detector.Off, .slice p10 l13.length k12, .int .i64 wv1.Count, .int .i64 wv1.Open.On, .int .i64 wv1.Open.Off, .int .i64 wv1.Open.Peak]) hs hw 1 rfl rfl rfl Tryz.sizeOf22 rfl rfl rfl rfl trivial ?_
 intro a w hs hw
 refine nl ?_
 refine wp_seq ?_
 obtain ⟨l24, h20, hsh⟩ := bind_t hsh
 obtain ⟨p22, k23, h21⟩ := row_sub (α := Int) hw 0 rfl h20
 obtain ⟨rv26, h25, hsh⟩ := bind_t hsh
 obtain ⟨rv28, h27, hsh⟩ := bind_t hsh
 refine wp_only (fun a w => ∃ (Sv30 : Nat → Prop) (b29 : Nat), Sl 33 [(2, .pointer (some ⟨b29, 0, none⟩))] a ∧ Wd ⟨w0, S0, []⟩ Sv30 [.box b29 [.int .i64 wv1.Detector.Short, .int .i64 wv1.Detector.Long, .int .i64 wv1.Detector.On, .int .i64 wv1.Detector.Off, .slice p10 l13.length k12, .int .i64 wv1.Count, .int .i64 wv1.Open.On, .int .i64 wv1.Open.Off, .int .i64 wv1.Open.Peak, .int .i64 rv26, .int .i64 rv28, .slice none ([] : List Trigger).length 0] 112, .row p10 l13.length k12 c15 3 1] [SlA none ([] : List Trigger).length 0 ([] : List Trigger), RowA c15 l13] w) ?_ ?_
 ·refine h_b (C := Cls [.row p10 l13.length k12 c15 3 1, .box b5 [.int .i64 wv1.Detector.Short, .int .i64 wv1.Detector.Long, .int .i64 wv1.Detector.On, .int .i64 wv1.Detector.Off, .slice p10 l13.length k12, .int .i64 wv1.Count, .int .i64 wv1.Open.On, .int .i64 wv1.Open.Off, .int .i64 wv1.Open.Peak] 105] []) (by kernel_rfl) rfl (hw.drew.cs [0, 1] [] rfl rfl) fun hC => ?_
  have hw := hw.drew
  refine gv hs 0 rfl rfl hC (fun w hC => y_loadBA (hC.ownAt 1 rfl) rfl Tryz.isAgg105 Tryz.sizeOf105 rfl rfl) fun a hs => ?_
  refine gm hs 1 rfl rfl rfl hC fun a hs => ?_
  refine gm hs 2 rfl rfl rfl hC fun a hs => ?_
  refine gv hs 3 rfl rfl hC (fun w hC => y_fieldAddr (o' := 0) Tryz.runUnderlying105 rfl Tryz.sizeOf24 rfl rfl rfl) fun a hs => ?_
  refine gv hs 4 rfl rfl hC (fun w hC => y_fieldAddr (o' := 0) Tryz.runUnderlying24 rfl Tryz.sizeOf3 rfl rfl rfl) fun a hs => ?_
  refine gv hs 5 rfl rfl hC (fun w hC => y_loadB1 (hC.ownAt 1 rfl) rfl Tryz.isAgg3 rfl) fun a hs => ?_
  refine gv hs 6 rfl rfl hC (fun w hC => y_sub rfl rfl) fun a hs => ?_
  refine gv hs 7 rfl rfl hC (fun w hC => y_add rfl rfl) fun a hs => ?_
  refine gv hs 8 rfl rfl hC (fun w hC => y_max rfl rfl) fun a hs => ?_
  refine gv hs 9 rfl rfl hC (fun w hC => y_slc Tryz.runUnderlying22 Tryz.sizeOf3 rfl ⟨_, rfl⟩ (by exact rfl) h21) fun a hs => ?_
  refine gm hs 11 rfl rfl rfl hC fun a hs => ?_
  refine ho 10 rfl ?_
  refine st_callR hs (detector_sum_ok h25 hw.bdom (sl_sub (hw.bRow 0 rfl 0 rfl) h20 h21)) (do_call Tryz.call63 rfl) trivial rfl rfl ?_
  intro v34 Sv31 w a h32 h33 hs
  subst h33
  have hw := hw.callB h32
  refine h_nx (hw.cs [0, 1] [] rfl rfl) fun hC => ?_
  refine ho 12 rfl ?_
  refine st_callR hs (detector_sum_ok h27 hw.bdom (hw.bRow 0 rfl 0 rfl)) (do_call Tryz.call63 rfl) trivial rfl rfl ?_
  intro v39 Sv36 w a h37 h38 hs
  subst h38
  have hw := hw.callB h37
  refine h_nx (hw.cs [0, 1] [] rfl rfl) fun hC => ?_
  refine gv hs 13 rfl rfl hC (fun w hC => y_build (vs := [(0, .agg #[.int .i64 wv1.Detector.Short, .int .i64 wv1.Detector.Long, .int .i64 wv1.Detector.On, .int .i64 wv1.Detector.Off, .slice p10 l13.length k12, .int .i64 wv1.Count, .int .i64 wv1.Open.On, .int .i64 wv1.Open.Off, .int .i64 wv1.Open.Peak]), (1, .int .i64 rv26), (2, .int .i64 rv28)]) Bld112 rfl rfl) fun a hs => ?_
  refine ho 14 rfl ?_
  refine w_box (cs := [.int .i64 wv1.Detector.Short, .int .i64 wv1.Detector.Long, .int .i64 wv1.Detector.On, .int .i64 wv1.Detector.Off, .slice p10 l13.length k12, .int .i64 wv1.Count, .int .i64 wv1.Open.On, .int .i64 wv1.Open.Off, .int .i64 wv1.Open.Peak, .int .i64 rv26, .int .i64 rv28, .slice none ([] : List Trigger).length 0]) hs hw rfl rfl rfl trivial ?_
  intro b29 a w hs hw
  refine h_nx (hw.cs [1, 2] [] rfl rfl) fun hC => ?_
  refine h_st (C' := Cls [.row p10 l13.length k12 c15 3 1, .box b5 [.int .i64 wv1.Detector.Short, .int .i64 wv1.Detector.Long, .int .i64 wv1.Detector.On, .int .i64 wv1.Detector.Off, .slice p10 l13.length k12, .int .i64 wv1.Count, .int .i64 wv1.Open.On, .int .i64 wv1.Open.Off, .int .i64 wv1.Open.Peak] 105, .box b29 [.int .i64 wv1.Detector.Short, .int .i64 wv1.Detector.Long, .int .i64 wv1.Detector.On, .int .i64 wv1.Detector.Off, .slice p10 l13.length k12, .int .i64 wv1.Count, .int .i64 wv1.Open.On, .int .i64 wv1.Open.Off, .int .i64 wv1.Open.Peak, .int .i64 rv26, .int .i64 rv28, .slice none ([] : List Trigger).length 0] 112] []) (fun _ h => by exact h.sub [0, 1] (Sel.of rfl) (AllIn.of [] rfl)) (hw.cs [1, 2, 0] [] rfl rfl) fun hC => ?_
  refine gv hs 15 rfl rfl hC (fun w hC => y_assign rfl) fun a hs => ?_
  refine h_done (by kernel_rfl) ?_
  have hw := hw.addE (e := SlA (α := Trigger) none 0 0 []) nil_sl
  exact ⟨S0, b29, (hs.wk rfl), (hw.ft [0, 1] [0, 1] (by decide) rfl rfl)⟩
 rintro a w ⟨Sv30, b29, hs, hw⟩
 refine then_normal ?_
 have hsh := oi hsh
 subst hsh
 have hw := hw.nilRow Trigger 28
 refine wp_ret ?_
 exact ret1 hs rfl (rv_tmp rfl) (hw.ret ⟨b29, p10, k12, c15, none, 0, [], rfl, (hw.outs [1, 2, 0] (by decide) rfl), (hw.envAt 2 rfl), (hw.envAt 0 rfl)⟩)
abbrev detector_reaches_rd (w0 : World) (X : List Nat) (r : Bool) : (Nat → Prop) → World → Value → Prop := fun S w v => v = .bool r
set_option maxHeartbeats 4000000 in
set_option maxRecDepth 100000 in
theorem detector_reaches_ok {w0 : World} {S0 : Nat → Prop} {d1 : Detector} {short2 : Int} {long3 : Int} {p4 : Int} {r : Bool} (hsh : detector_reaches d1 short2 long3 p4 = some r) (hS : ∀ b, S0 b → b < w0.heap.size) : Calls Tryz.prog 89 #[.agg #[.int .i64 d1.Short, .int .i64 d1.Long, .int .i64 d1.On, .int .i64 d1.Off], .int .i64 short2, .int .i64 long3, .int .i64 p4] w0 (Ret ([]) w0 S0 (detector_reaches_rd w0 ([]) r)) := by
 refine calls_of_wp Tryz.func89 rfl ?_
 have hs := Sl.enter #[.agg #[.int .i64 d1.Short, .int .i64 d1.Long, .int .i64 d1.On, .int .i64 d1.Off], .int .i64 short2, .int .i64 long3, .int .i64 p4] 25 [(0, .agg #[.int .i64 d1.Short, .int .i64 d1.Long, .int .i64 d1.On, .int .i64 d1.Off]), (1, .int .i64 short2), (2, .int .i64 long3), (3, .int .i64 p4)] rfl ⟨rfl, rfl, rfl, rfl, trivial⟩
 have hw := Wd.enter (E := []) hS (fun _ h => (by cases h))
 delta detector_reaches at hsh
 refine sr ?_
 refine w_box (cs := [.int .i64 d1.Short, .int .i64 d1.Long, .int .i64 d1.On, .int .i64 d1.Off]) hs hw rfl rfl rfl trivial ?_
 intro b5 a w hs hw
 refine av hs rfl rfl fun a hs => ?_
 refine nl ?_
 refine sr ?_
 refine mv hs rfl rfl fun a hs => ?_
 refine sv hs (y_neq rfl rfl) rfl fun a hs => ?_
 refine mv hs rfl rfl fun a hs => ?_
 refine wpl_join 13 (fun a w1 => w = w1 ∧ Sl 25 [(24, .bool ((long3 != 0) && (decide ((w64 ((w64 (p4 * d1.Short)) * long3)) ≤ (w64 ((w64 (100 * d1.Long)) * short2))))))] a) ?_ ?_
 ·rcases Bool.eq_false_or_eq_true (long3 != 0) with h6 | h6
  ·have hs := hs.fix 11 (.bool true) rfl (vb h6)
   refine st_val hs (y_fieldAddr (o' := 1) Tryz.runUnderlying24 rfl Tryz.sizeOf3 rfl rfl rfl) ⟨_, rfl, rfl⟩ rfl rfl fun a hs => ?_
   refine st_val hs (y_loadB1 (hw.ownAt 0 rfl) rfl Tryz.isAgg3 rfl) ⟨_, rfl, rfl⟩ rfl rfl fun a hs => ?_
   refine st_val hs (y_mul rfl rfl) ⟨_, rfl, rfl⟩ rfl rfl fun a hs => ?_
   refine st_val hs (y_move rfl) ⟨_, rfl, rfl⟩ rfl rfl fun a hs => ?_
   refine st_val hs (y_mul rfl rfl) ⟨_, rfl, rfl⟩ rfl rfl fun a hs => ?_
   refine st_val hs (y_move rfl) ⟨_, rfl, rfl⟩ rfl rfl fun a hs => ?_
   refine st_val hs (y_fieldAddr (o' := 0) Tryz.runUnderlying24 rfl Tryz.sizeOf3 rfl rfl rfl) ⟨_, rfl, rfl⟩ rfl rfl fun a hs => ?_
   refine st_val hs (y_loadB1 (hw.ownAt 0 rfl) rfl Tryz.isAgg3 rfl) ⟨_, rfl, rfl⟩ rfl rfl fun a hs => ?_
   refine st_val hs (y_mul rfl rfl) ⟨_, rfl, rfl⟩ rfl rfl fun a hs => ?_
   refine st_val hs (y_move rfl) ⟨_, rfl, rfl⟩ rfl rfl fun a hs => ?_
   refine st_val hs (y_mul rfl rfl) ⟨_, rfl, rfl⟩ rfl rfl fun a hs => ?_
   refine st_val hs (y_geq rfl rfl) ⟨_, rfl, rfl⟩ rfl rfl fun a hs => ?_
   refine sv hs (y_pickT rfl rfl) rfl fun a hs => ?_
   refine nl ?_
   exact ⟨rfl, (hs.fix 24 (.bool ((long3 != 0) && (decide ((w64 ((w64 (p4 * d1.Short)) * long3)) ≤ (w64 ((w64 (100 * d1.Long)) * short2)))))) rfl (and_t h6)).weaken _ ⟨rfl, trivial⟩⟩
  have hs := hs.fix 11 (.bool false) rfl (vb h6)
  refine st_skip hs rfl rfl rfl rfl rfl fun a hs => ?_
  refine st_skip hs rfl rfl rfl rfl rfl fun a hs => ?_
  refine st_skip hs rfl rfl rfl rfl rfl fun a hs => ?_
  refine st_skip hs rfl rfl rfl rfl rfl fun a hs => ?_
  refine st_skip hs rfl rfl rfl rfl rfl fun a hs => ?_
  refine st_skip hs rfl rfl rfl rfl rfl fun a hs => ?_
  refine st_skip hs rfl rfl rfl rfl rfl fun a hs => ?_
  refine st_skip hs rfl rfl rfl rfl rfl fun a hs => ?_
  refine st_skip hs rfl rfl rfl rfl rfl fun a hs => ?_
  refine st_skip hs rfl rfl rfl rfl rfl fun a hs => ?_
  refine st_skip hs rfl rfl rfl rfl rfl fun a hs => ?_
  refine st_skip hs rfl rfl rfl rfl rfl fun a hs => ?_
  refine sv hs (y_pickF rfl rfl) rfl fun a hs => ?_
  refine nl ?_
  exact ⟨rfl, (hs.fix 24 (.bool ((long3 != 0) && (decide ((w64 ((w64 (p4 * d1.Short)) * long3)) ≤ (w64 ((w64 (100 * d1.Long)) * short2)))))) rfl (and_f h6)).weaken _ ⟨rfl, trivial⟩⟩
 rintro a w1 ⟨h7, hs⟩
 subst h7
 refine av hs rfl rfl fun a hs => ?_
 refine nl ?_
 have hsh := oi hsh
 subst hsh
 refine wp_ret ?_
 exact ret1 hs rfl (rv_tmp rfl) (hw.ret rfl)
end Go.Proofs.YtmlekplbmfengaaGreat.Wk

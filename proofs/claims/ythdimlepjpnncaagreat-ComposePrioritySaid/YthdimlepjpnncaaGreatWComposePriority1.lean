/- The walks of ComposePriority, part 1: each Go function computes what its plain program computes. Printed by a program of ours. -/
import Derived.Test.YthdimlepjpnncaaGreatProg
import Derived.Test.YthdimlepjpnncaaGreatDat
import Derived.Test.YthdimlepjpnncaaGreatSh
import Derived.Test.YthdimlepjpnncaaGreatLibL
import Derived.Test.YthdimlepjpnncaaGreatLibZ
import Derived.Test.YthdimlepjpnncaaGreatLibQ
import Derived.KernelRfl
import Derived.Test.YthdimlepjpnncaaGreatLibU
import Derived.Shelf.SlLaysF0
namespace Go.Proofs.YthdimlepjpnncaaGreat.Wk
open Go Go.RowKit Go.Proofs Go.Proofs.YthdimlepjpnncaaGreat.Sh
set_option linter.unusedVariables false
set_option linter.unusedSimpArgs false

theorem El22 : ElT Tryz.prog 22 3 1 8 (.int .i64 0) := ⟨Tryz.underlying22, ⟨Tryz.t3, info_of Tryz.type3, rfl, rfl, rfl⟩, rfl, by decide⟩
theorem El27 : ElT Tryz.prog 27 35 12 144 (.agg #[.string ByteArray.empty, .string ByteArray.empty, .string ByteArray.empty, .string ByteArray.empty, .int .i64 0, .int .i64 0, .int .i64 0, .int .i64 0, .int .i64 0, .int .i64 0, .int .i64 0, .slice none ([] : List Int).length 0]) := ⟨Tryz.underlying27, ⟨Tryz.t35, info_of Tryz.type35, rfl, rfl, rfl⟩, rfl, by decide⟩
theorem El52 : ElT Tryz.prog 52 45 2 16 (.agg #[.int .i64 0, .int .i64 0]) := ⟨Tryz.underlying52, ⟨Tryz.t45, info_of Tryz.type45, rfl, rfl, rfl⟩, rfl, by decide⟩
theorem El80 : ElT Tryz.prog 80 9 1 16 (.string ByteArray.empty) := ⟨Tryz.underlying80, ⟨Tryz.t9, info_of Tryz.type9, rfl, rfl, rfl⟩, rfl, by decide⟩
theorem El101 : ElT Tryz.prog 101 4 1 1 (.bool false) := ⟨Tryz.underlying101, ⟨Tryz.t4, info_of Tryz.type4, rfl, rfl, rfl⟩, rfl, by decide⟩
theorem Bld31 : BldT Tryz.prog 31 ((#[(0, 1), (1, 1), (2, 1), (3, 1)] : Array (Nat × Nat))[·]?) [.string ByteArray.empty, .string ByteArray.empty, .string ByteArray.empty, .string ByteArray.empty] := bld_of Tryz.zeroValue31 rfl Tryz.runUnderlying31 (fun w => by simp [Tryz.sizeOf9])
theorem Bld33 : BldT Tryz.prog 33 ((#[(0, 1), (1, 1)] : Array (Nat × Nat))[·]?) [.int .i64 0, .int .i64 0] := bld_of Tryz.zeroValue33 rfl Tryz.runUnderlying33 (fun w => by simp [Tryz.sizeOf3])
theorem Bld35 : BldT Tryz.prog 35 ((#[(0, 4), (4, 1), (5, 1), (6, 2), (8, 1), (9, 1), (10, 1), (11, 1)] : Array (Nat × Nat))[·]?) [.string ByteArray.empty, .string ByteArray.empty, .string ByteArray.empty, .string ByteArray.empty, .int .i64 0, .int .i64 0, .int .i64 0, .int .i64 0, .int .i64 0, .int .i64 0, .int .i64 0, .slice none ([] : List Int).length 0] := bld_of Tryz.zeroValue35 rfl Tryz.runUnderlying35 (fun w => by simp [Tryz.sizeOf3, Tryz.sizeOf22, Tryz.sizeOf31, Tryz.sizeOf33])
theorem Bld45 : BldT Tryz.prog 45 ((#[(0, 1), (1, 1)] : Array (Nat × Nat))[·]?) [.int .i64 0, .int .i64 0] := bld_of Tryz.zeroValue45 rfl Tryz.runUnderlying45 (fun w => by simp [Tryz.sizeOf3])
theorem Bld75 : BldT Tryz.prog 75 ((#[(0, 1), (1, 1)] : Array (Nat × Nat))[·]?) [.slice none ([] : List Int).length 0, .int .i64 0] := bld_of Tryz.zeroValue75 rfl Tryz.runUnderlying75 (fun w => by simp [Tryz.sizeOf3, Tryz.sizeOf22])
theorem Bld86 : BldT Tryz.prog 86 (fun i => some (i * 1, 1)) [.int .i64 0, .int .i64 0, .int .i64 0, .int .i64 0, .int .i64 0, .int .i64 0, .int .i64 0, .int .i64 0, .int .i64 0, .int .i64 0] := bld_arr Tryz.zeroValue86 rfl Tryz.runUnderlying86 Tryz.sizeOf3
theorem Bld108 : BldT Tryz.prog 108 (fun i => some (i * 1, 1)) [.int .i64 0, .int .i64 0, .int .i64 0, .int .i64 0] := bld_arr Tryz.zeroValue108 rfl Tryz.runUnderlying108 Tryz.sizeOf3

abbrev made_Light_rd (w0 : World) (X : List Nat) (r : Bool) : (Nat → Prop) → World → Value → Prop := fun S w v => v = .bool r
set_option maxHeartbeats 4000000 in
set_option maxRecDepth 100000 in
theorem made_Light_ok {w0 : World} {S0 : Nat → Prop} {p2 : Option Addr} {k3 : Nat} {l1 : (List Int)} {r : Bool} (hsh : made_Light l1 = some r) (hS : ∀ b, S0 b → b < w0.heap.size) (h4 : (SlA p2 l1.length k3 l1).p S0 w0) : Calls Tryz.prog 11 #[.slice p2 l1.length k3] w0 (Ret ([]) w0 S0 (made_Light_rd w0 ([]) r)) := by
 refine calls_of_wp Tryz.func11 rfl ?_
 have hs := Sl.enter #[.slice p2 l1.length k3] 6 [(0, .slice p2 l1.length k3)] rfl ⟨rfl, trivial⟩
 have hw := Wd.enter (E := []) hS (fun _ h => (by cases h))
 have hw := hw.addE h4
 delta made_Light at hsh
 refine sr ?_
 refine av hs rfl rfl fun a hs => ?_
 refine nl ?_
 refine sr ?_
 refine mv hs rfl rfl fun a hs => ?_
 refine sv hs (y_len Tryz.runUnderlying22 rfl) rfl fun a hs => ?_
 refine sv hs (y_leq rfl rfl) rfl fun a hs => ?_
 refine av hs rfl rfl fun a hs => ?_
 refine nl ?_
 have hsh := oi hsh
 subst hsh
 refine wp_ret ?_
 exact ret1 hs rfl (rv_tmp rfl) (hw.ret rfl)

abbrev law15_two_rd (w0 : World) (X : List Nat) (r : (List Record)) : (Nat → Prop) → World → Value → Prop := fun S w v => ∃ (p0_0 : Option Addr) (k0_0 : Nat) (c0_0 : List Value), v = .slice p0_0 r.length k0_0 ∧ Outs X w0 S w [.row p0_0 r.length k0_0 c0_0 35 12] ∧ (RowA c0_0 r).p S w
set_option maxHeartbeats 4000000 in
set_option maxRecDepth 100000 in
theorem law15_two_ok {w0 : World} {S0 : Nat → Prop} {r : (List Record)} (hsh : law15_two = some r) (hS : ∀ b, S0 b → b < w0.heap.size) : Calls Tryz.prog 46 #[] w0 (Ret ([]) w0 S0 (law15_two_rd w0 ([]) r)) := by
 refine calls_of_wp Tryz.func46 rfl ?_
 have hs := Sl.enter #[] 14 [] rfl trivial
 have hw := Wd.enter (E := []) hS (fun _ h => (by cases h))
 delta law15_two at hsh
 refine sr ?_
 refine av hs rfl rfl fun a hs => ?_
 refine nl ?_
 refine sr ?_
 refine sv hs (y_build (vs := [(0, .string (⟨#[65]⟩ : ByteArray)), (1, .string (⟨#[66]⟩ : ByteArray)), (3, .string (⟨#[72, 72, 90]⟩ : ByteArray))]) Bld31 rfl rfl) rfl fun a hs => ?_
 refine w_alloc (cs := [.string ByteArray.empty, .string ByteArray.empty, .string ByteArray.empty, .string ByteArray.empty]) hs hw Tryz.zeroValue31 rfl rfl trivial ?_
 intro b1 a w hs hw
 refine w_store (m := 4) (cs' := [.string (⟨#[65]⟩ : ByteArray), .string (⟨#[66]⟩ : ByteArray), .string ByteArray.empty, .string (⟨#[72, 72, 90]⟩ : ByteArray)]) hs hw 0 rfl rfl rfl Tryz.sizeOf31 rfl rfl rfl rfl trivial ?_
 intro a w hs hw
 refine nl ?_
 refine sr ?_
 refine sv hs (y_build (vs := [(0, .int .i64 4), (1, .int .i64 1)]) Bld33 rfl rfl) rfl fun a hs => ?_
 refine w_alloc (cs := [.int .i64 0, .int .i64 0]) hs hw Tryz.zeroValue33 rfl rfl trivial ?_
 intro b2 a w hs hw
 refine w_store (m := 2) (cs' := [.int .i64 4, .int .i64 1]) hs hw 0 rfl rfl rfl Tryz.sizeOf33 rfl rfl rfl rfl trivial ?_
 intro a w hs hw
 refine nl ?_
 refine sr ?_
 refine sv hs (y_loadBA (hw.ownAt 1 rfl) rfl Tryz.isAgg31 Tryz.sizeOf31 rfl rfl) rfl fun a hs => ?_
 refine sv hs (y_loadBA (hw.ownAt 0 rfl) rfl Tryz.isAgg33 Tryz.sizeOf33 rfl rfl) rfl fun a hs => ?_
 refine w_litSlice (α := Int) (vs := [.int .i64 1, .int .i64 2, .int .i64 3, .int .i64 4]) (cs := [.int .i64 1, .int .i64 2, .int .i64 3, .int .i64 4]) (xs := ([1, 2, 3, 4] : List Int)) hs hw El22 rfl rfl rfl rfl rfl rfl ⟨⟨_, rfl, rfl⟩, ⟨⟨_, rfl, rfl⟩, ⟨⟨_, rfl, rfl⟩, ⟨⟨_, rfl, rfl⟩, rfl⟩⟩⟩⟩ rfl trivial rfl fun b4 a w hs hw => ?_
 refine sv hs (y_build (vs := [(0, .agg #[.string (⟨#[65]⟩ : ByteArray), .string (⟨#[66]⟩ : ByteArray), .string ByteArray.empty, .string (⟨#[72, 72, 90]⟩ : ByteArray)]), (3, .agg #[.int .i64 4, .int .i64 1]), (7, .slice (some ⟨b4, 0, none⟩) ([1, 2, 3, 4] : List Int).length ([1, 2, 3, 4] : List Int).length)]) Bld35 rfl rfl) rfl fun a hs => ?_
 refine sv hs (y_loadBA (hw.ownAt 2 rfl) rfl Tryz.isAgg31 Tryz.sizeOf31 rfl rfl) rfl fun a hs => ?_
 refine sv hs (y_loadBA (hw.ownAt 1 rfl) rfl Tryz.isAgg33 Tryz.sizeOf33 rfl rfl) rfl fun a hs => ?_
 refine w_litSlice (α := Int) (vs := [.int .i64 5, .int .i64 6, .int .i64 7, .int .i64 8]) (cs := [.int .i64 5, .int .i64 6, .int .i64 7, .int .i64 8]) (xs := ([5, 6, 7, 8] : List Int)) hs hw El22 rfl rfl rfl rfl rfl rfl ⟨⟨_, rfl, rfl⟩, ⟨⟨_, rfl, rfl⟩, ⟨⟨_, rfl, rfl⟩, ⟨⟨_, rfl, rfl⟩, rfl⟩⟩⟩⟩ rfl trivial rfl fun b6 a w hs hw => ?_
 refine sv hs (y_build (vs := [(0, .agg #[.string (⟨#[65]⟩ : ByteArray), .string (⟨#[66]⟩ : ByteArray), .string ByteArray.empty, .string (⟨#[72, 72, 90]⟩ : ByteArray)]), (1, .int .i64 500000), (3, .agg #[.int .i64 4, .int .i64 1]), (6, .int .i64 1), (7, .slice (some ⟨b6, 0, none⟩) ([5, 6, 7, 8] : List Int).length ([5, 6, 7, 8] : List Int).length)]) Bld35 rfl rfl) rfl fun a hs => ?_
 obtain ⟨Sv9, hw⟩ := w_share (α := Int) hw 1 rfl 1 rfl
 obtain ⟨Sv10, hw⟩ := w_share (α := Int) hw 0 rfl 1 rfl
 refine w_litSlice (α := Record) (vs := [.agg #[.string (⟨#[65]⟩ : ByteArray), .string (⟨#[66]⟩ : ByteArray), .string ByteArray.empty, .string (⟨#[72, 72, 90]⟩ : ByteArray), .int .i64 0, .int .i64 0, .int .i64 4, .int .i64 1, .int .i64 0, .int .i64 0, .int .i64 0, .slice (some ⟨b4, 0, none⟩) ([1, 2, 3, 4] : List Int).length ([1, 2, 3, 4] : List Int).length], .agg #[.string (⟨#[65]⟩ : ByteArray), .string (⟨#[66]⟩ : ByteArray), .string ByteArray.empty, .string (⟨#[72, 72, 90]⟩ : ByteArray), .int .i64 500000, .int .i64 0, .int .i64 4, .int .i64 1, .int .i64 0, .int .i64 0, .int .i64 1, .slice (some ⟨b6, 0, none⟩) ([5, 6, 7, 8] : List Int).length ([5, 6, 7, 8] : List Int).length]]) (cs := [.string (⟨#[65]⟩ : ByteArray), .string (⟨#[66]⟩ : ByteArray), .string ByteArray.empty, .string (⟨#[72, 72, 90]⟩ : ByteArray), .int .i64 0, .int .i64 0, .int .i64 4, .int .i64 1, .int .i64 0, .int .i64 0, .int .i64 0, .slice (some ⟨b4, 0, none⟩) ([1, 2, 3, 4] : List Int).length ([1, 2, 3, 4] : List Int).length, .string (⟨#[65]⟩ : ByteArray), .string (⟨#[66]⟩ : ByteArray), .string ByteArray.empty, .string (⟨#[72, 72, 90]⟩ : ByteArray), .int .i64 500000, .int .i64 0, .int .i64 4, .int .i64 1, .int .i64 0, .int .i64 0, .int .i64 1, .slice (some ⟨b6, 0, none⟩) ([5, 6, 7, 8] : List Int).length ([5, 6, 7, 8] : List Int).length]) (xs := ([(⟨(⟨(⟨#[65]⟩ : ByteArray), (⟨#[66]⟩ : ByteArray), ByteArray.empty, (⟨#[72, 72, 90]⟩ : ByteArray)⟩ : SourceID), 0, 0, (⟨4, 1⟩ : Rate), 0, 0, 0, ([1, 2, 3, 4] : List Int)⟩ : Record), (⟨(⟨(⟨#[65]⟩ : ByteArray), (⟨#[66]⟩ : ByteArray), ByteArray.empty, (⟨#[72, 72, 90]⟩ : ByteArray)⟩ : SourceID), 500000, 0, (⟨4, 1⟩ : Rate), 0, 0, 1, ([5, 6, 7, 8] : List Int)⟩ : Record)] : List Record)) hs hw El27 rfl rfl rfl rfl rfl rfl ⟨⟨_, _, _, _, _, _, _, _, _, _, _, _, rfl, rfl, rfl, rfl, rfl, rfl, rfl, rfl, rfl, rfl, rfl, rfl, ⟨_, _, _, rfl, hw.envAt 1 rfl⟩⟩, ⟨⟨_, _, _, _, _, _, _, _, _, _, _, _, rfl, rfl, rfl, rfl, rfl, rfl, rfl, rfl, rfl, rfl, rfl, rfl, ⟨_, _, _, rfl, hw.envAt 0 rfl⟩⟩, rfl⟩⟩ rfl trivial rfl fun b8 a w hs hw => ?_
 refine av hs rfl rfl fun a hs => ?_
 refine nl ?_
 have hsh := oi hsh
 subst hsh
 refine wp_ret ?_
 exact ret1 hs rfl (rv_tmp rfl) (hw.ret ⟨(some ⟨b8, 0, none⟩), ([(⟨(⟨(⟨#[65]⟩ : ByteArray), (⟨#[66]⟩ : ByteArray), ByteArray.empty, (⟨#[72, 72, 90]⟩ : ByteArray)⟩ : SourceID), 0, 0, (⟨4, 1⟩ : Rate), 0, 0, 0, ([1, 2, 3, 4] : List Int)⟩ : Record), (⟨(⟨(⟨#[65]⟩ : ByteArray), (⟨#[66]⟩ : ByteArray), ByteArray.empty, (⟨#[72, 72, 90]⟩ : ByteArray)⟩ : SourceID), 500000, 0, (⟨4, 1⟩ : Rate), 0, 0, 1, ([5, 6, 7, 8] : List Int)⟩ : Record)] : List Record).length, [.string (⟨#[65]⟩ : ByteArray), .string (⟨#[66]⟩ : ByteArray), .string ByteArray.empty, .string (⟨#[72, 72, 90]⟩ : ByteArray), .int .i64 0, .int .i64 0, .int .i64 4, .int .i64 1, .int .i64 0, .int .i64 0, .int .i64 0, .slice (some ⟨b4, 0, none⟩) ([1, 2, 3, 4] : List Int).length ([1, 2, 3, 4] : List Int).length, .string (⟨#[65]⟩ : ByteArray), .string (⟨#[66]⟩ : ByteArray), .string ByteArray.empty, .string (⟨#[72, 72, 90]⟩ : ByteArray), .int .i64 500000, .int .i64 0, .int .i64 4, .int .i64 1, .int .i64 0, .int .i64 0, .int .i64 1, .slice (some ⟨b6, 0, none⟩) ([5, 6, 7, 8] : List Int).length ([5, 6, 7, 8] : List Int).length], rfl, (hw.outs [0] (by decide) rfl), (hw.envAt 0 rfl)⟩)

abbrev slices_IndexFunc_Lapi_Record_api_Record_rd (w0 : World) (X : List Nat) (r : Int) : (Nat → Prop) → World → Value → Prop := fun S w v => v = .int .i64 r
set_option maxHeartbeats 4000000 in
set_option maxRecDepth 100000 in
theorem slices_IndexFunc_Lapi_Record_api_Record_ok {w0 : World} {S0 : Nat → Prop} {p2 : Option Addr} {k3 : Nat} {g6 : Nat} {f7 : List Value} {cp8 : List Value} {s1 : (List Record)} {f5 : Record → Option Bool} {r : Int} (hsh : slices_IndexFunc_Lapi_Record_api_Record s1 f5 = some r) (hS : ∀ b, S0 b → b < w0.heap.size) (h4 : (SlA p2 s1.length k3 s1).p S0 w0) (h9 : (FnA1 Tryz.prog g6 f7 cp8 f5).p S0 w0) : Calls Tryz.prog 114 #[.slice p2 s1.length k3, .func (.func g6) f7.toArray cp8.toArray] w0 (Ret ([]) w0 S0 (slices_IndexFunc_Lapi_Record_api_Record_rd w0 ([]) r)) := by
 refine calls_of_wp Tryz.func114 rfl ?_
 have hs := Sl.enter #[.slice p2 s1.length k3, .func (.func g6) f7.toArray cp8.toArray] 19 [(0, .slice p2 s1.length k3), (1, .func (.func g6) f7.toArray cp8.toArray)] rfl ⟨rfl, rfl, trivial⟩
 have hw := Wd.enter (E := []) hS (fun _ h => (by cases h))
 have hw := hw.addE h4
 have hw := hw.addE h9
 delta slices_IndexFunc_Lapi_Record_api_Record at hsh
 refine sr ?_
 refine av hs rfl rfl fun a hs => ?_
 refine nl ?_
 refine wp_seq ?_
 refine sr ?_
 refine mv hs rfl rfl fun a hs => ?_
 refine sv hs (y_len Tryz.runUnderlying27 rfl) rfl fun a hs => ?_
 refine mv hs rfl rfl fun a hs => ?_
 refine nl ?_
 refine wp_block ?_
 refine wp_while (fun sv90 a w => ∃ (Sv142 : Nat → Prop), Sl 19 [(0, .slice p2 s1.length k3), (1, .func (.func g6) f7.toArray cp8.toArray), (7, .int .i64 (s1.length : Int)), (8, .int .i64 sv90)] a ∧ Wd ⟨w0, S0, []⟩ Sv142 [] [SlA p2 s1.length k3 s1, FnA1 Tryz.prog g6 f7 cp8 f5] w) 0 hsh ⟨S0, (hs.wk rfl), (hw.ft [] [1, 0] (by decide) rfl rfl)⟩ ?_
 repeat clear hsh
 rintro sv90 a w tv169 ⟨Sv142, hs, hw⟩ hsh hd168
 delta slices_IndexFunc_Lapi_Record_api_Record_l2 at hsh
 refine sr ?_
 refine sv hs (y_lss rfl rfl) rfl fun a hs => ?_
 refine nl ?_
 refine wp_seq ?_
 refine wp_cond_split (hs.ev rfl) (fun h173 => ?_) (fun h173 => ?_)
 ·have hsh := ite_t hsh h173
  refine wp_skip ?_
  refine then_normal ?_
  refine wp_seq ?_
  refine wp_block ?_
  refine sr ?_
  refine mv hs rfl rfl fun a hs => ?_
  refine av hs rfl rfl fun a hs => ?_
  refine nl ?_
  refine sr ?_
  refine mv hs rfl rfl fun a hs => ?_
  refine mv hs rfl rfl fun a hs => ?_
  refine mv hs rfl rfl fun a hs => ?_
  obtain ⟨x200, h198, hsh⟩ := bind_t hsh
  obtain ⟨b206, o207, q204, c205, h208, h201, h202, h203, h199⟩ := hw.elemV 0 rfl h198
  have hsv209 := hs
  have hwv210 := hw
  subst h208
  have hs := hsv209
  have hw := hwv210
  obtain ⟨_, _, _, _, _, _, _, _, _, _, _, _, rfl, rfl, rfl, rfl, rfl, rfl, rfl, rfl, rfl, rfl, rfl, rfl, ⟨p211, n212, k213, rfl, h214⟩⟩ := h199
  obtain rfl := h214.1
  have hw := hw.addE (e := SlA p211 _ k213 x200.Samples) h214
  have hw := hw.addE h203
  refine sv hs (y_indexAt Tryz.runUnderlying27 Tryz.sizeOf35 rfl rfl h201.1 h201.2 h202) rfl fun a hs => ?_
  refine sv hs (y_loadEA (j := 0) (hw.ceAt 0 rfl) rfl Tryz.isAgg35 Tryz.sizeOf35 rfl rfl) rfl fun a hs => ?_
  obtain ⟨rv216, h215, hsh⟩ := bind_t hsh
  refine st_callR hs ((hw.bE 3 rfl).2 Keep.rfl' hw.bdom ⟨_, _, _, _, _, _, _, _, _, _, _, _, rfl, rfl, rfl, rfl, rfl, rfl, rfl, rfl, rfl, rfl, rfl, rfl, ⟨_, _, _, rfl, hw.bE 1 rfl⟩⟩ h215) (do_callF (hw.bE 3 rfl).1 rfl rfl) trivial rfl rfl ?_
  intro v220 Sv217 w a h218 h219 hs
  subst h219
  have hw := hw.callB h218
  refine nl ?_
  refine wp_cond_split (hs.ev rfl) (fun h222 => ?_) (fun h222 => ?_)
  ·have hsh := ite_t hsh h222
   refine sr ?_
   refine mv hs rfl rfl fun a hs => ?_
   refine av hs rfl rfl fun a hs => ?_
   refine nl ?_
   have hsh := oi hsh
   subst hsh
   have h223 := hd168 _ rfl
   subst h223
   refine wp_ret ?_
   refine blk_ret ?_
   refine then_ret ?_
   refine then_ret ?_
   refine blk_ret ?_
   refine then_ret ?_
   exact ret1 hs rfl (rv_tmp rfl) (hw.ret rfl)
  have hsh := ite_f hsh h222
  refine wp_skip ?_
  refine blk_normal ?_
  refine then_normal ?_
  refine wp_region_lit ?_
  refine sv hs (y_add rfl rfl) rfl fun a hs => ?_
  refine mv hs rfl rfl fun a hs => ?_
  refine nl ?_
  exact ⟨_, (Option.some.inj hsh).symm, Sv142, (hs.wk rfl), (hw.ft [] [2, 3] (by decide) rfl rfl)⟩
 have hsh := ite_f hsh h173
 obtain ⟨rv224, hsh, h225⟩ := map_t hsh
 have h225 := (hd168 _ h225.symm).symm
 subst h225
 refine wp_exit ?_
 refine then_exit ?_
 refine then_exit ?_
 refine blk_exit ?_
 refine then_normal ?_
 refine sr ?_
 refine av hs rfl rfl fun a hs => ?_
 refine nl ?_
 have hsh := oi hsh
 subst hsh
 refine wp_ret ?_
 exact ret1 hs rfl (rv_tmp rfl) (hw.ret rfl)

abbrev slices_ContainsFunc_Lapi_Record_api_Record_rd (w0 : World) (X : List Nat) (r : Bool) : (Nat → Prop) → World → Value → Prop := fun S w v => v = .bool r
set_option maxHeartbeats 4000000 in
set_option maxRecDepth 100000 in
theorem slices_ContainsFunc_Lapi_Record_api_Record_ok {w0 : World} {S0 : Nat → Prop} {p2 : Option Addr} {k3 : Nat} {g6 : Nat} {f7 : List Value} {cp8 : List Value} {s1 : (List Record)} {f5 : Record → Option Bool} {r : Bool} (hsh : slices_ContainsFunc_Lapi_Record_api_Record s1 f5 = some r) (hS : ∀ b, S0 b → b < w0.heap.size) (h4 : (SlA p2 s1.length k3 s1).p S0 w0) (h9 : (FnA1 Tryz.prog g6 f7 cp8 f5).p S0 w0) : Calls Tryz.prog 89 #[.slice p2 s1.length k3, .func (.func g6) f7.toArray cp8.toArray] w0 (Ret ([]) w0 S0 (slices_ContainsFunc_Lapi_Record_api_Record_rd w0 ([]) r)) := by
 refine calls_of_wp Tryz.func89 rfl ?_
 have hs := Sl.enter #[.slice p2 s1.length k3, .func (.func g6) f7.toArray cp8.toArray] 9 [(0, .slice p2 s1.length k3), (1, .func (.func g6) f7.toArray cp8.toArray)] rfl ⟨rfl, rfl, trivial⟩
 have hw := Wd.enter (E := []) hS (fun _ h => (by cases h))
 have hw := hw.addE h4
 have hw := hw.addE h9
 delta slices_ContainsFunc_Lapi_Record_api_Record at hsh
 refine sr ?_
 refine av hs rfl rfl fun a hs => ?_
 refine nl ?_
 refine sr ?_
 refine mv hs rfl rfl fun a hs => ?_
 refine mv hs rfl rfl fun a hs => ?_
 obtain ⟨rv11, h10, hsh⟩ := bind_t hsh
 refine st_callR hs (slices_IndexFunc_Lapi_Record_api_Record_ok h10 hw.bdom (hw.bE 1 rfl) (hw.bE 0 rfl)) (do_call Tryz.call114 rfl) trivial rfl rfl ?_
 intro v15 Sv12 w a h13 h14 hs
 subst h14
 have hw := hw.callB h13
 refine sv hs (y_geq rfl rfl) rfl fun a hs => ?_
 refine av hs rfl rfl fun a hs => ?_
 refine nl ?_
 have hsh := oi hsh
 subst hsh
 refine wp_ret ?_
 exact ret1 hs rfl (rv_tmp rfl) (hw.ret rfl)

abbrev source_plain_rd (w0 : World) (X : List Nat) (r : Bool) : (Nat → Prop) → World → Value → Prop := fun S w v => v = .bool r
set_option maxHeartbeats 4000000 in
set_option maxRecDepth 100000 in
theorem source_plain_ok {w0 : World} {S0 : Nat → Prop} {c1 : Int} {r : Bool} (hsh : source_plain c1 = some r) (hS : ∀ b, S0 b → b < w0.heap.size) : Calls Tryz.prog 154 #[.int .u8 c1] w0 (Ret ([]) w0 S0 (source_plain_rd w0 ([]) r)) := by
 refine calls_of_wp Tryz.func154 rfl ?_
 have hs := Sl.enter #[.int .u8 c1] 17 [(0, .int .u8 c1)] rfl ⟨rfl, trivial⟩
 have hw := Wd.enter (E := []) hS (fun _ h => (by cases h))
 delta source_plain at hsh
 refine sr ?_
 refine av hs rfl rfl fun a hs => ?_
 refine nl ?_
 refine sr ?_
 refine mv hs rfl rfl fun a hs => ?_
 refine sv hs (y_geq rfl rfl) rfl fun a hs => ?_
 refine mv hs rfl rfl fun a hs => ?_
 refine wpl_join 3 (fun a w1 => w0 = w1 ∧ Sl 17 [(0, .int .u8 c1), (8, .bool ((decide (65 ≤ c1)) && (decide (c1 ≤ 90))))] a) ?_ ?_
 ·rcases Bool.eq_false_or_eq_true (decide (65 ≤ c1)) with h2 | h2
  ·have hs := hs.fix 5 (.bool true) rfl (vb h2)
   refine st_val hs (y_move rfl) ⟨_, rfl, rfl⟩ rfl rfl fun a hs => ?_
   refine st_val hs (y_leq rfl rfl) ⟨_, rfl, rfl⟩ rfl rfl fun a hs => ?_
   refine sv hs (y_pickT rfl rfl) rfl fun a hs => ?_
   refine nl ?_
   exact ⟨rfl, (hs.fix 8 (.bool ((decide (65 ≤ c1)) && (decide (c1 ≤ 90)))) rfl (and_t h2)).weaken _ ⟨rfl, rfl, trivial⟩⟩
  have hs := hs.fix 5 (.bool false) rfl (vb h2)
  refine st_skip hs rfl rfl rfl rfl rfl fun a hs => ?_
  refine st_skip hs rfl rfl rfl rfl rfl fun a hs => ?_
  refine sv hs (y_pickF rfl rfl) rfl fun a hs => ?_
  refine nl ?_
  exact ⟨rfl, (hs.fix 8 (.bool ((decide (65 ≤ c1)) && (decide (c1 ≤ 90)))) rfl (and_f h2)).weaken _ ⟨rfl, rfl, trivial⟩⟩
 rintro a w1 ⟨h9, hs⟩
 subst h9
 refine mv hs rfl rfl fun a hs => ?_
 refine wpl_join 7 (fun a w1 => w0 = w1 ∧ Sl 17 [(16, .bool (((decide (65 ≤ c1)) && (decide (c1 ≤ 90))) || ((decide (48 ≤ c1)) && (decide (c1 ≤ 57)))))] a) ?_ ?_
 ·rcases Bool.eq_false_or_eq_true ((decide (65 ≤ c1)) && (decide (c1 ≤ 90))) with h5 | h5
  ·have hs := hs.fix 9 (.bool true) rfl (vb h5)
   refine st_skip hs rfl rfl rfl rfl rfl fun a hs => ?_
   refine st_skip hs rfl rfl rfl rfl rfl fun a hs => ?_
   refine st_skip hs rfl rfl rfl rfl rfl fun a hs => ?_
   refine st_skipU hs rfl rfl rfl rfl rfl fun a hs => ?_
   refine st_skipU hs rfl rfl rfl rfl rfl fun a hs => ?_
   refine st_skip hs rfl rfl rfl rfl rfl fun a hs => ?_
   refine sv hs (y_pickT rfl rfl) rfl fun a hs => ?_
   refine nl ?_
   exact ⟨rfl, (hs.fix 16 (.bool (((decide (65 ≤ c1)) && (decide (c1 ≤ 90))) || ((decide (48 ≤ c1)) && (decide (c1 ≤ 57))))) rfl (or_t h5)).weaken _ ⟨rfl, trivial⟩⟩
  have hs := hs.fix 9 (.bool false) rfl (vb h5)
  refine st_val hs (y_move rfl) ⟨_, rfl, rfl⟩ rfl rfl fun a hs => ?_
  refine st_val hs (y_geq rfl rfl) ⟨_, rfl, rfl⟩ rfl rfl fun a hs => ?_
  refine st_val hs (y_move rfl) ⟨_, rfl, rfl⟩ rfl rfl fun a hs => ?_
  refine wpl_join 3 (fun a w1 => w0 = w1 ∧ Sl 17 [(9, .bool false), (15, .bool ((decide (48 ≤ c1)) && (decide (c1 ≤ 57))))] a) ?_ ?_
  ·rcases Bool.eq_false_or_eq_true (decide (48 ≤ c1)) with h6 | h6
   ·have hs := hs.fix 12 (.bool true) rfl (vb h6)
    refine st_val hs (y_move rfl) ⟨_, rfl, rfl⟩ rfl rfl fun a hs => ?_
    refine st_val hs (y_leq rfl rfl) ⟨_, rfl, rfl⟩ rfl rfl fun a hs => ?_
    refine st_val hs (y_pickT rfl rfl) ⟨_, rfl, rfl⟩ rfl rfl fun a hs => ?_
    refine nl ?_
    exact ⟨rfl, (hs.fix 15 (.bool ((decide (48 ≤ c1)) && (decide (c1 ≤ 57)))) rfl (and_t h6)).weaken _ ⟨rfl, rfl, trivial⟩⟩
   have hs := hs.fix 12 (.bool false) rfl (vb h6)
   refine st_skip hs rfl rfl rfl rfl rfl fun a hs => ?_
   refine st_skip hs rfl rfl rfl rfl rfl fun a hs => ?_
   refine st_val hs (y_pickF rfl rfl) ⟨_, rfl, rfl⟩ rfl rfl fun a hs => ?_
   refine nl ?_
   exact ⟨rfl, (hs.fix 15 (.bool ((decide (48 ≤ c1)) && (decide (c1 ≤ 57)))) rfl (and_f h6)).weaken _ ⟨rfl, rfl, trivial⟩⟩
  rintro a w1 ⟨h7, hs⟩
  subst h7
  refine sv hs (y_pickF rfl rfl) rfl fun a hs => ?_
  refine nl ?_
  exact ⟨rfl, (hs.fix 16 (.bool (((decide (65 ≤ c1)) && (decide (c1 ≤ 90))) || ((decide (48 ≤ c1)) && (decide (c1 ≤ 57))))) rfl (or_f h5)).weaken _ ⟨rfl, trivial⟩⟩
 rintro a w1 ⟨h8, hs⟩
 subst h8
 refine av hs rfl rfl fun a hs => ?_
 refine nl ?_
 have hsh := oi hsh
 subst hsh
 refine wp_ret ?_
 exact ret1 hs rfl (rv_tmp rfl) (hw.ret rfl)

abbrev source_code_rd (w0 : World) (X : List Nat) (r : Bool) : (Nat → Prop) → World → Value → Prop := fun S w v => v = .bool r
set_option maxHeartbeats 4000000 in
set_option maxRecDepth 100000 in
theorem source_code_ok {w0 : World} {S0 : Nat → Prop} {s1 : ByteArray} {low2 : Int} {high3 : Int} {r : Bool} (hsh : source_code s1 low2 high3 = some r) (hS : ∀ b, S0 b → b < w0.heap.size) : Calls Tryz.prog 143 #[.string s1, .int .i64 low2, .int .i64 high3] w0 (Ret ([]) w0 S0 (source_code_rd w0 ([]) r)) := by
 refine calls_of_wp Tryz.func143 rfl ?_
 have hs := Sl.enter #[.string s1, .int .i64 low2, .int .i64 high3] 29 [(0, .string s1), (1, .int .i64 low2), (2, .int .i64 high3)] rfl ⟨rfl, rfl, rfl, trivial⟩
 have hw := Wd.enter (E := []) hS (fun _ h => (by cases h))
 delta source_code at hsh
 refine sr ?_
 refine av hs rfl rfl fun a hs => ?_
 refine nl ?_
 refine wp_seq ?_
 refine sr ?_
 refine mv hs rfl rfl fun a hs => ?_
 refine sv hs (y_lenS Tryz.runUnderlying9 rfl) rfl fun a hs => ?_
 refine mv hs rfl rfl fun a hs => ?_
 refine nl ?_
 refine wp_block ?_
 refine wp_while (fun sv42 a w => ∃ (Sv66 : Nat → Prop), Sl 29 [(0, .string s1), (1, .int .i64 low2), (2, .int .i64 high3), (9, .int .i64 (s1.size : Int)), (10, .int .i64 sv42)] a ∧ Wd ⟨w0, S0, []⟩ Sv66 [] [] w) 0 hsh ⟨S0, (hs.wk rfl), (hw.ft [] [] (by decide) rfl rfl)⟩ ?_
 repeat clear hsh
 rintro sv42 a w tv79 ⟨Sv66, hs, hw⟩ hsh hd78
 delta source_code_l2 at hsh
 refine sr ?_
 refine sv hs (y_lss rfl rfl) rfl fun a hs => ?_
 refine nl ?_
 refine wp_seq ?_
 refine wp_cond_split (hs.ev rfl) (fun h83 => ?_) (fun h83 => ?_)
 ·have hsh := ite_t hsh h83
  refine wp_skip ?_
  refine then_normal ?_
  refine wp_seq ?_
  refine wp_block ?_
  refine sr ?_
  refine mv hs rfl rfl fun a hs => ?_
  refine av hs rfl rfl fun a hs => ?_
  refine nl ?_
  refine sr ?_
  refine mv hs rfl rfl fun a hs => ?_
  refine mv hs rfl rfl fun a hs => ?_
  obtain ⟨c95, h94, hsh⟩ := bind_t hsh
  refine sv hs (y_indexSM Tryz.runUnderlying9 rfl rfl h94) rfl fun a hs => ?_
  obtain ⟨rv97, h96, hsh⟩ := bind_t hsh
  refine st_callR hs (source_plain_ok h96 hw.bdom) (do_call Tryz.call154 rfl) trivial rfl rfl ?_
  intro v101 Sv98 w a h99 h100 hs
  subst h100
  have hw := hw.callB h99
  refine sv hs (y_not rfl) rfl fun a hs => ?_
  refine nl ?_
  refine wp_cond_split (hs.ev rfl) (fun h104 => ?_) (fun h104 => ?_)
  ·have hsh := ite_t hsh h104
   refine sr ?_
   refine av hs rfl rfl fun a hs => ?_
   refine nl ?_
   have hsh := oi hsh
   subst hsh
   have h105 := hd78 _ rfl
   subst h105
   refine wp_ret ?_
   refine blk_ret ?_
   refine then_ret ?_
   refine then_ret ?_
   refine blk_ret ?_
   refine then_ret ?_
   exact ret1 hs rfl (rv_tmp rfl) (hw.ret rfl)
  have hsh := ite_f hsh h104
  refine wp_skip ?_
  refine blk_normal ?_
  refine then_normal ?_
  refine wp_region_lit ?_
  refine sv hs (y_add rfl rfl) rfl fun a hs => ?_
  refine mv hs rfl rfl fun a hs => ?_
  refine nl ?_
  exact ⟨_, (Option.some.inj hsh).symm, Sv66, (hs.wk rfl), (hw.ft [] [] (by decide) rfl rfl)⟩
 have hsh := ite_f hsh h83
 obtain ⟨rv108, hsh, h109⟩ := map_t hsh
 have h109 := (hd78 _ h109.symm).symm
 subst h109
 refine wp_exit ?_
 refine then_exit ?_
 refine then_exit ?_
 refine blk_exit ?_
 refine then_normal ?_
 refine sr ?_
 refine mv hs rfl rfl fun a hs => ?_
 refine sv hs (y_lenS Tryz.runUnderlying9 rfl) rfl fun a hs => ?_
 refine mv hs rfl rfl fun a hs => ?_
 refine sv hs (y_geq rfl rfl) rfl fun a hs => ?_
 refine mv hs rfl rfl fun a hs => ?_
 refine wpl_join 5 (fun a w1 => w = w1 ∧ Sl 29 [(28, .bool ((decide (low2 ≤ (s1.size : Int))) && (decide ((s1.size : Int) ≤ high3))))] a) ?_ ?_
 ·rcases Bool.eq_false_or_eq_true (decide (low2 ≤ (s1.size : Int))) with h106 | h106
  ·have hs := hs.fix 23 (.bool true) rfl (vb h106)
   refine st_val hs (y_move rfl) ⟨_, rfl, rfl⟩ rfl rfl fun a hs => ?_
   refine st_val hs (y_lenS Tryz.runUnderlying9 rfl) ⟨_, rfl, rfl⟩ rfl rfl fun a hs => ?_
   refine st_val hs (y_move rfl) ⟨_, rfl, rfl⟩ rfl rfl fun a hs => ?_
   refine st_val hs (y_leq rfl rfl) ⟨_, rfl, rfl⟩ rfl rfl fun a hs => ?_
   refine sv hs (y_pickT rfl rfl) rfl fun a hs => ?_
   refine nl ?_
   exact ⟨rfl, (hs.fix 28 (.bool ((decide (low2 ≤ (s1.size : Int))) && (decide ((s1.size : Int) ≤ high3)))) rfl (and_t h106)).weaken _ ⟨rfl, trivial⟩⟩
  have hs := hs.fix 23 (.bool false) rfl (vb h106)
  refine st_skip hs rfl rfl rfl rfl rfl fun a hs => ?_
  refine st_skip hs rfl rfl rfl rfl rfl fun a hs => ?_
  refine st_skip hs rfl rfl rfl rfl rfl fun a hs => ?_
  refine st_skip hs rfl rfl rfl rfl rfl fun a hs => ?_
  refine sv hs (y_pickF rfl rfl) rfl fun a hs => ?_
  refine nl ?_
  exact ⟨rfl, (hs.fix 28 (.bool ((decide (low2 ≤ (s1.size : Int))) && (decide ((s1.size : Int) ≤ high3)))) rfl (and_f h106)).weaken _ ⟨rfl, trivial⟩⟩
 rintro a w1 ⟨h107, hs⟩
 subst h107
 refine av hs rfl rfl fun a hs => ?_
 refine nl ?_
 have hsh := oi hsh
 subst hsh
 refine wp_ret ?_
 exact ret1 hs rfl (rv_tmp rfl) (hw.ret rfl)

abbrev source_Valid_rd (w0 : World) (X : List Nat) (r : Bool) : (Nat → Prop) → World → Value → Prop := fun S w v => v = .bool r
set_option maxHeartbeats 4000000 in
set_option maxRecDepth 100000 in
theorem source_Valid_ok {w0 : World} {S0 : Nat → Prop} {s1 : SourceID} {r : Bool} (hsh : source_Valid s1 = some r) (hS : ∀ b, S0 b → b < w0.heap.size) : Calls Tryz.prog 115 #[.agg #[.string s1.Network, .string s1.Station, .string s1.Location, .string s1.Channel]] w0 (Ret ([]) w0 S0 (source_Valid_rd w0 ([]) r)) := by
 refine calls_of_wp Tryz.func115 rfl ?_
 have hs := Sl.enter #[.agg #[.string s1.Network, .string s1.Station, .string s1.Location, .string s1.Channel]] 27 [(0, .agg #[.string s1.Network, .string s1.Station, .string s1.Location, .string s1.Channel])] rfl ⟨rfl, trivial⟩
 have hw := Wd.enter (E := []) hS (fun _ h => (by cases h))
 delta source_Valid at hsh
 refine sr ?_
 refine w_box (cs := [.string s1.Network, .string s1.Station, .string s1.Location, .string s1.Channel]) hs hw rfl rfl rfl trivial ?_
 intro b2 a w hs hw
 refine av hs rfl rfl fun a hs => ?_
 refine nl ?_
 refine sr ?_
 refine sv hs (y_fieldAddr (o' := 0) Tryz.runUnderlying31 rfl Tryz.sizeOf9 rfl rfl rfl) rfl fun a hs => ?_
 refine sv hs (y_loadB1 (hw.ownAt 0 rfl) rfl Tryz.isAgg9 rfl) rfl fun a hs => ?_
 obtain ⟨rv4, h3, hsh⟩ := bind_t hsh
 refine st_callR hs (source_code_ok h3 hw.bdom) (do_call Tryz.call143 rfl) trivial rfl rfl ?_
 intro v8 Sv5 w a h6 h7 hs
 subst h7
 have hw := hw.callB h6
 refine mv hs rfl rfl fun a hs => ?_
 obtain ⟨c18, hc18, hsh⟩ := bind_t hsh
 refine wpl_join 4 (fun a w => ∃ (Sv19 : Nat → Prop), Sl 27 [(1, .pointer (some ⟨b2, 0, none⟩)), (10, .bool c18)] a ∧ Wd ⟨w0, S0, []⟩ Sv19 [.box b2 [.string s1.Network, .string s1.Station, .string s1.Location, .string s1.Channel] 31] [] w) ?_ ?_
 ·rcases Bool.eq_false_or_eq_true rv4 with h17 | h17
  ·have hs := hs.fix 6 (.bool true) rfl (vb h17)
   have hsh := ite_t hc18 h17
   refine st_val hs (y_fieldAddr (o' := 1) Tryz.runUnderlying31 rfl Tryz.sizeOf9 rfl rfl rfl) ⟨_, rfl, rfl⟩ rfl rfl fun a hs => ?_
   refine st_val hs (y_loadB1 (hw.ownAt 0 rfl) rfl Tryz.isAgg9 rfl) ⟨_, rfl, rfl⟩ rfl rfl fun a hs => ?_
   obtain ⟨rv21, h20, hsh⟩ := bind_t hsh
   refine st_callR hs (source_code_ok h20 hw.bdom) (do_call Tryz.call143 rfl) ⟨_, rfl, rfl⟩ rfl rfl ?_
   intro v25 Sv22 w a h23 h24 hs
   subst h24
   have hw := hw.callB h23
   refine sv hs (y_pickT rfl rfl) rfl fun a hs => ?_
   refine wpList_nil ?_
   have hsh := oi hsh
   subst hsh
   refine then_normal ?_
   exact ⟨S0, (hs.wk rfl), (hw.ft [0] [] (by decide) rfl rfl)⟩
  have hs := hs.fix 6 (.bool false) rfl (vb h17)
  have hsh := ite_f hc18 h17
  refine st_skip hs rfl rfl rfl rfl rfl fun a hs => ?_
  refine st_skip hs rfl rfl rfl rfl rfl fun a hs => ?_
  refine st_skip hs rfl rfl rfl rfl rfl fun a hs => ?_
  refine sv hs (y_pickF rfl rfl) rfl fun a hs => ?_
  refine wpList_nil ?_
  have hsh := oi hsh
  subst hsh
  refine then_normal ?_
  exact ⟨S0, (hs.wk rfl), (hw.ft [0] [] (by decide) rfl rfl)⟩
 rintro a w ⟨Sv19, hs, hw⟩
 refine mv hs rfl rfl fun a hs => ?_
 obtain ⟨c35, hc35, hsh⟩ := bind_t hsh
 refine wpl_join 4 (fun a w => ∃ (Sv36 : Nat → Prop), Sl 27 [(1, .pointer (some ⟨b2, 0, none⟩)), (15, .bool c35)] a ∧ Wd ⟨w0, S0, []⟩ Sv36 [.box b2 [.string s1.Network, .string s1.Station, .string s1.Location, .string s1.Channel] 31] [] w) ?_ ?_
 ·rcases Bool.eq_false_or_eq_true c18 with h34 | h34
  ·have hs := hs.fix 11 (.bool true) rfl (vb h34)
   have hsh := ite_t hc35 h34
   refine st_val hs (y_fieldAddr (o' := 2) Tryz.runUnderlying31 rfl Tryz.sizeOf9 rfl rfl rfl) ⟨_, rfl, rfl⟩ rfl rfl fun a hs => ?_
   refine st_val hs (y_loadB1 (hw.ownAt 0 rfl) rfl Tryz.isAgg9 rfl) ⟨_, rfl, rfl⟩ rfl rfl fun a hs => ?_
   obtain ⟨rv38, h37, hsh⟩ := bind_t hsh
   refine st_callR hs (source_code_ok h37 hw.bdom) (do_call Tryz.call143 rfl) ⟨_, rfl, rfl⟩ rfl rfl ?_
   intro v42 Sv39 w a h40 h41 hs
   subst h41
   have hw := hw.callB h40
   refine sv hs (y_pickT rfl rfl) rfl fun a hs => ?_
   refine wpList_nil ?_
   have hsh := oi hsh
   subst hsh
   refine then_normal ?_
   exact ⟨Sv19, (hs.wk rfl), (hw.ft [0] [] (by decide) rfl rfl)⟩
  have hs := hs.fix 11 (.bool false) rfl (vb h34)
  have hsh := ite_f hc35 h34
  refine st_skip hs rfl rfl rfl rfl rfl fun a hs => ?_
  refine st_skip hs rfl rfl rfl rfl rfl fun a hs => ?_
  refine st_skip hs rfl rfl rfl rfl rfl fun a hs => ?_
  refine sv hs (y_pickF rfl rfl) rfl fun a hs => ?_
  refine wpList_nil ?_
  have hsh := oi hsh
  subst hsh
  refine then_normal ?_
  exact ⟨Sv19, (hs.wk rfl), (hw.ft [0] [] (by decide) rfl rfl)⟩
 rintro a w ⟨Sv36, hs, hw⟩
 refine mv hs rfl rfl fun a hs => ?_
 refine wpl_join 5 (fun a w1 => w = w1 ∧ Sl 27 [(1, .pointer (some ⟨b2, 0, none⟩)), (21, .bool (c35 && ((s1.Location.size : Int) != 1)))] a) ?_ ?_
 ·rcases Bool.eq_false_or_eq_true c35 with h44 | h44
  ·have hs := hs.fix 16 (.bool true) rfl (vb h44)
   refine st_val hs (y_fieldAddr (o' := 2) Tryz.runUnderlying31 rfl Tryz.sizeOf9 rfl rfl rfl) ⟨_, rfl, rfl⟩ rfl rfl fun a hs => ?_
   refine st_val hs (y_loadB1 (hw.ownAt 0 rfl) rfl Tryz.isAgg9 rfl) ⟨_, rfl, rfl⟩ rfl rfl fun a hs => ?_
   refine st_val hs (y_lenS Tryz.runUnderlying9 rfl) ⟨_, rfl, rfl⟩ rfl rfl fun a hs => ?_
   refine st_val hs (y_neq rfl rfl) ⟨_, rfl, rfl⟩ rfl rfl fun a hs => ?_
   refine sv hs (y_pickT rfl rfl) rfl fun a hs => ?_
   refine nl ?_
   exact ⟨rfl, (hs.fix 21 (.bool (c35 && ((s1.Location.size : Int) != 1))) rfl (and_t h44)).weaken _ ⟨rfl, rfl, trivial⟩⟩
  have hs := hs.fix 16 (.bool false) rfl (vb h44)
  refine st_skip hs rfl rfl rfl rfl rfl fun a hs => ?_
  refine st_skip hs rfl rfl rfl rfl rfl fun a hs => ?_
  refine st_skip hs rfl rfl rfl rfl rfl fun a hs => ?_
  refine st_skip hs rfl rfl rfl rfl rfl fun a hs => ?_
  refine sv hs (y_pickF rfl rfl) rfl fun a hs => ?_
  refine nl ?_
  exact ⟨rfl, (hs.fix 21 (.bool (c35 && ((s1.Location.size : Int) != 1))) rfl (and_f h44)).weaken _ ⟨rfl, rfl, trivial⟩⟩
 rintro a w1 ⟨h62, hs⟩
 subst h62
 refine mv hs rfl rfl fun a hs => ?_
 obtain ⟨c53, hc53, hsh⟩ := bind_t hsh
 refine wpl_join 4 (fun a w => ∃ (Sv54 : Nat → Prop), Sl 27 [(26, .bool c53)] a ∧ Wd ⟨w0, S0, []⟩ Sv54 [] [] w) ?_ ?_
 ·rcases Bool.eq_false_or_eq_true (c35 && ((s1.Location.size : Int) != 1)) with h52 | h52
  ·have hs := hs.fix 22 (.bool true) rfl (vb h52)
   have hsh := ite_t hc53 h52
   refine st_val hs (y_fieldAddr (o' := 3) Tryz.runUnderlying31 rfl Tryz.sizeOf9 rfl rfl rfl) ⟨_, rfl, rfl⟩ rfl rfl fun a hs => ?_
   refine st_val hs (y_loadB1 (hw.ownAt 0 rfl) rfl Tryz.isAgg9 rfl) ⟨_, rfl, rfl⟩ rfl rfl fun a hs => ?_
   obtain ⟨rv56, h55, hsh⟩ := bind_t hsh
   refine st_callR hs (source_code_ok h55 hw.bdom) (do_call Tryz.call143 rfl) ⟨_, rfl, rfl⟩ rfl rfl ?_
   intro v60 Sv57 w a h58 h59 hs
   subst h59
   have hw := hw.callB h58
   refine sv hs (y_pickT rfl rfl) rfl fun a hs => ?_
   refine wpList_nil ?_
   have hsh := oi hsh
   subst hsh
   refine then_normal ?_
   exact ⟨Sv36, (hs.wk rfl), (hw.ft [] [] (by decide) rfl rfl)⟩
  have hs := hs.fix 22 (.bool false) rfl (vb h52)
  have hsh := ite_f hc53 h52
  refine st_skip hs rfl rfl rfl rfl rfl fun a hs => ?_
  refine st_skip hs rfl rfl rfl rfl rfl fun a hs => ?_
  refine st_skip hs rfl rfl rfl rfl rfl fun a hs => ?_
  refine sv hs (y_pickF rfl rfl) rfl fun a hs => ?_
  refine wpList_nil ?_
  have hsh := oi hsh
  subst hsh
  refine then_normal ?_
  exact ⟨Sv36, (hs.wk rfl), (hw.ft [] [] (by decide) rfl rfl)⟩
 rintro a w ⟨Sv54, hs, hw⟩
 refine av hs rfl rfl fun a hs => ?_
 refine nl ?_
 have hsh := oi hsh
 subst hsh
 refine wp_ret ?_
 exact ret1 hs rfl (rv_tmp rfl) (hw.ret rfl)

abbrev record_in_rd (w0 : World) (X : List Nat) (r : Bool) : (Nat → Prop) → World → Value → Prop := fun S w v => v = .bool r
set_option maxHeartbeats 4000000 in
set_option maxRecDepth 100000 in
theorem record_in_ok {w0 : World} {S0 : Nat → Prop} {n1 : Int} {low2 : Int} {high3 : Int} {r : Bool} (hsh : record_in n1 low2 high3 = some r) (hS : ∀ b, S0 b → b < w0.heap.size) : Calls Tryz.prog 116 #[.int .i64 n1, .int .i64 low2, .int .i64 high3] w0 (Ret ([]) w0 S0 (record_in_rd w0 ([]) r)) := by
 refine calls_of_wp Tryz.func116 rfl ?_
 have hs := Sl.enter #[.int .i64 n1, .int .i64 low2, .int .i64 high3] 15 [(0, .int .i64 n1), (1, .int .i64 low2), (2, .int .i64 high3)] rfl ⟨rfl, rfl, rfl, trivial⟩
 have hw := Wd.enter (E := []) hS (fun _ h => (by cases h))
 delta record_in at hsh
 refine sr ?_
 refine av hs rfl rfl fun a hs => ?_
 refine nl ?_
 refine sr ?_
 refine mv hs rfl rfl fun a hs => ?_
 refine mv hs rfl rfl fun a hs => ?_
 refine sv hs (y_geq rfl rfl) rfl fun a hs => ?_
 refine mv hs rfl rfl fun a hs => ?_
 refine wpl_join 4 (fun a w1 => w0 = w1 ∧ Sl 15 [(14, .bool ((decide (low2 ≤ n1)) && (decide (n1 ≤ high3))))] a) ?_ ?_
 ·rcases Bool.eq_false_or_eq_true (decide (low2 ≤ n1)) with h4 | h4
  ·have hs := hs.fix 10 (.bool true) rfl (vb h4)
   refine st_val hs (y_move rfl) ⟨_, rfl, rfl⟩ rfl rfl fun a hs => ?_
   refine st_val hs (y_move rfl) ⟨_, rfl, rfl⟩ rfl rfl fun a hs => ?_
   refine st_val hs (y_leq rfl rfl) ⟨_, rfl, rfl⟩ rfl rfl fun a hs => ?_
   refine sv hs (y_pickT rfl rfl) rfl fun a hs => ?_
   refine nl ?_
   exact ⟨rfl, (hs.fix 14 (.bool ((decide (low2 ≤ n1)) && (decide (n1 ≤ high3)))) rfl (and_t h4)).weaken _ ⟨rfl, trivial⟩⟩
  have hs := hs.fix 10 (.bool false) rfl (vb h4)
  refine st_skip hs rfl rfl rfl rfl rfl fun a hs => ?_
  refine st_skip hs rfl rfl rfl rfl rfl fun a hs => ?_
  refine st_skip hs rfl rfl rfl rfl rfl fun a hs => ?_
  refine sv hs (y_pickF rfl rfl) rfl fun a hs => ?_
  refine nl ?_
  exact ⟨rfl, (hs.fix 14 (.bool ((decide (low2 ≤ n1)) && (decide (n1 ≤ high3)))) rfl (and_f h4)).weaken _ ⟨rfl, trivial⟩⟩
 rintro a w1 ⟨h5, hs⟩
 subst h5
 refine av hs rfl rfl fun a hs => ?_
 refine nl ?_
 have hsh := oi hsh
 subst hsh
 refine wp_ret ?_
 exact ret1 hs rfl (rv_tmp rfl) (hw.ret rfl)

abbrev rate_in_rd (w0 : World) (X : List Nat) (r : Bool) : (Nat → Prop) → World → Value → Prop := fun S w v => v = .bool r
set_option maxHeartbeats 4000000 in
set_option maxRecDepth 100000 in
theorem rate_in_ok {w0 : World} {S0 : Nat → Prop} {n1 : Int} {low2 : Int} {high3 : Int} {r : Bool} (hsh : rate_in n1 low2 high3 = some r) (hS : ∀ b, S0 b → b < w0.heap.size) : Calls Tryz.prog 109 #[.int .i64 n1, .int .i64 low2, .int .i64 high3] w0 (Ret ([]) w0 S0 (rate_in_rd w0 ([]) r)) := by
 refine calls_of_wp Tryz.func109 rfl ?_
 have hs := Sl.enter #[.int .i64 n1, .int .i64 low2, .int .i64 high3] 15 [(0, .int .i64 n1), (1, .int .i64 low2), (2, .int .i64 high3)] rfl ⟨rfl, rfl, rfl, trivial⟩
 have hw := Wd.enter (E := []) hS (fun _ h => (by cases h))
 delta rate_in at hsh
 refine sr ?_
 refine av hs rfl rfl fun a hs => ?_
 refine nl ?_
 refine sr ?_
 refine mv hs rfl rfl fun a hs => ?_
 refine mv hs rfl rfl fun a hs => ?_
 refine sv hs (y_geq rfl rfl) rfl fun a hs => ?_
 refine mv hs rfl rfl fun a hs => ?_
 refine wpl_join 4 (fun a w1 => w0 = w1 ∧ Sl 15 [(14, .bool ((decide (low2 ≤ n1)) && (decide (n1 ≤ high3))))] a) ?_ ?_
 ·rcases Bool.eq_false_or_eq_true (decide (low2 ≤ n1)) with h4 | h4
  ·have hs := hs.fix 10 (.bool true) rfl (vb h4)
   refine st_val hs (y_move rfl) ⟨_, rfl, rfl⟩ rfl rfl fun a hs => ?_
   refine st_val hs (y_move rfl) ⟨_, rfl, rfl⟩ rfl rfl fun a hs => ?_
   refine st_val hs (y_leq rfl rfl) ⟨_, rfl, rfl⟩ rfl rfl fun a hs => ?_
   refine sv hs (y_pickT rfl rfl) rfl fun a hs => ?_
   refine nl ?_
   exact ⟨rfl, (hs.fix 14 (.bool ((decide (low2 ≤ n1)) && (decide (n1 ≤ high3)))) rfl (and_t h4)).weaken _ ⟨rfl, trivial⟩⟩
  have hs := hs.fix 10 (.bool false) rfl (vb h4)
  refine st_skip hs rfl rfl rfl rfl rfl fun a hs => ?_
  refine st_skip hs rfl rfl rfl rfl rfl fun a hs => ?_
  refine st_skip hs rfl rfl rfl rfl rfl fun a hs => ?_
  refine sv hs (y_pickF rfl rfl) rfl fun a hs => ?_
  refine nl ?_
  exact ⟨rfl, (hs.fix 14 (.bool ((decide (low2 ≤ n1)) && (decide (n1 ≤ high3)))) rfl (and_f h4)).weaken _ ⟨rfl, trivial⟩⟩
 rintro a w1 ⟨h5, hs⟩
 subst h5
 refine av hs rfl rfl fun a hs => ?_
 refine nl ?_
 have hsh := oi hsh
 subst hsh
 refine wp_ret ?_
 exact ret1 hs rfl (rv_tmp rfl) (hw.ret rfl)

abbrev rate_gcd_rd (w0 : World) (X : List Nat) (r : Int) : (Nat → Prop) → World → Value → Prop := fun S w v => v = .int .i64 r
set_option maxHeartbeats 4000000 in
set_option maxRecDepth 100000 in
theorem rate_gcd_ok {w0 : World} {S0 : Nat → Prop} {a1 : Int} {b2 : Int} {r : Int} (hsh : rate_gcd a1 b2 = some r) (hS : ∀ b, S0 b → b < w0.heap.size) : Calls Tryz.prog 133 #[.int .i64 a1, .int .i64 b2] w0 (Ret ([]) w0 S0 (rate_gcd_rd w0 ([]) r)) := by
 refine calls_of_wp Tryz.func133 rfl ?_
 have hs := Sl.enter #[.int .i64 a1, .int .i64 b2] 12 [(0, .int .i64 a1), (1, .int .i64 b2)] rfl ⟨rfl, rfl, trivial⟩
 have hw := Wd.enter (E := []) hS (fun _ h => (by cases h))
 delta rate_gcd at hsh
 refine sr ?_
 refine av hs rfl rfl fun a hs => ?_
 refine nl ?_
 refine wp_seq ?_
 obtain ⟨e21, h32, hsh⟩ := bind_t hsh
 refine wp_join (fun a w => ∃ (Sv22 : Nat → Prop), Sl 12 [(0, .int .i64 e21)] a ∧ Wd ⟨w0, S0, []⟩ Sv22 [] [] w) ?_ ?_
 ·refine wp_block ?_
  refine wp_while (fun sv3 a w => ∃ (Sv13 : Nat → Prop), Sl 12 [(0, .int .i64 sv3.1), (1, .int .i64 sv3.2)] a ∧ Wd ⟨w0, S0, []⟩ Sv13 [] [] w) (a1, b2) h32 ⟨S0, (hs.wk rfl), (hw.ft [] [] (by decide) rfl rfl)⟩ ?_
  clear h32
  repeat clear hsh
  rintro sv3 a w tv19 ⟨Sv13, hs, hw⟩ hsh hd18
  delta rate_gcd_l1 at hsh
  refine wp_seq ?_
  refine sr ?_
  refine mv hs rfl rfl fun a hs => ?_
  refine sv hs (y_neq rfl rfl) rfl fun a hs => ?_
  refine nl ?_
  refine wp_cond_split (hs.ev rfl) (fun h24 => ?_) (fun h24 => ?_)
  ·have hsh := ite_t hsh h24
   refine wp_skip ?_
   refine then_normal ?_
   refine wp_block ?_
   obtain ⟨rem29, h28, hsh⟩ := bind_t hsh
   refine wp_only (fun a w => ∃ (Sv30 : Nat → Prop), Sl 12 [(0, .int .i64 sv3.2), (1, .int .i64 rem29)] a ∧ Wd ⟨w0, S0, []⟩ Sv30 [] [] w) ?_ ?_
   ·refine h_b (C := Cls [] []) (by kernel_rfl) rfl (hw.drew.cs [] [] rfl rfl) fun hC => ?_
    have hw := hw.drew
    refine gm hs 0 rfl rfl rfl hC fun a hs => ?_
    refine gm hs 1 rfl rfl rfl hC fun a hs => ?_
    refine gm hs 2 rfl rfl rfl hC fun a hs => ?_
    refine gv hs 3 rfl rfl hC (fun w hC => y_remM rfl rfl h28) fun a hs => ?_
    refine gv hs 4 rfl rfl hC (fun w hC => y_assign rfl) fun a hs => ?_
    refine gv hs 5 rfl rfl hC (fun w hC => y_assign rfl) fun a hs => ?_
    refine h_done (by kernel_rfl) ?_
    exact ⟨Sv13, (hs.wk rfl), (hw.ft [] [] (by decide) rfl rfl)⟩
   rintro a w ⟨Sv30, hs, hw⟩
   refine blk_normal ?_
   refine then_normal ?_
   exact ⟨_, (Option.some.inj hsh).symm, Sv30, (hs.wk rfl), (hw.ft [] [] (by decide) rfl rfl)⟩
  have hsh := ite_f hsh h24
  refine wp_exit ?_
  refine then_exit ?_
  refine then_exit ?_
  refine blk_exit ?_
  have hsh := oi hsh
  subst hsh
  have h31 := hd18 _ rfl
  subst h31
  refine then_normal ?_
  exact ⟨Sv13, (hs.wk rfl), (hw.ft [] [] (by decide) rfl rfl)⟩
 rintro a w ⟨Sv22, hs, hw⟩
 refine then_normal ?_
 refine sr ?_
 refine mv hs rfl rfl fun a hs => ?_
 refine av hs rfl rfl fun a hs => ?_
 refine nl ?_
 have hsh := oi hsh
 subst hsh
 refine wp_ret ?_
 exact ret1 hs rfl (rv_tmp rfl) (hw.ret rfl)

abbrev rate_Valid_rd (w0 : World) (X : List Nat) (r : Bool) : (Nat → Prop) → World → Value → Prop := fun S w v => v = .bool r
set_option maxHeartbeats 4000000 in
set_option maxRecDepth 100000 in
theorem rate_Valid_ok {w0 : World} {S0 : Nat → Prop} {r1 : Rate} {r : Bool} (hsh : rate_Valid r1 = some r) (hS : ∀ b, S0 b → b < w0.heap.size) : Calls Tryz.prog 108 #[.agg #[.int .i64 r1.Num, .int .i64 r1.Den]] w0 (Ret ([]) w0 S0 (rate_Valid_rd w0 ([]) r)) := by
 refine calls_of_wp Tryz.func108 rfl ?_
 have hs := Sl.enter #[.agg #[.int .i64 r1.Num, .int .i64 r1.Den]] 19 [(0, .agg #[.int .i64 r1.Num, .int .i64 r1.Den])] rfl ⟨rfl, trivial⟩
 have hw := Wd.enter (E := []) hS (fun _ h => (by cases h))
 delta rate_Valid at hsh
 refine sr ?_
 refine w_box (cs := [.int .i64 r1.Num, .int .i64 r1.Den]) hs hw rfl rfl rfl trivial ?_
 intro b2 a w hs hw
 refine av hs rfl rfl fun a hs => ?_
 refine nl ?_
 refine sr ?_
 refine sv hs (y_fieldAddr (o' := 0) Tryz.runUnderlying33 rfl Tryz.sizeOf3 rfl rfl rfl) rfl fun a hs => ?_
 refine sv hs (y_loadB1 (hw.ownAt 0 rfl) rfl Tryz.isAgg3 rfl) rfl fun a hs => ?_
 obtain ⟨rv4, h3, hsh⟩ := bind_t hsh
 refine st_callR hs (rate_in_ok h3 hw.bdom) (do_call Tryz.call109 rfl) trivial rfl rfl ?_
 intro v8 Sv5 w a h6 h7 hs
 subst h7
 have hw := hw.callB h6
 refine mv hs rfl rfl fun a hs => ?_
 obtain ⟨c18, hc18, hsh⟩ := bind_t hsh
 refine wpl_join 4 (fun a w => ∃ (Sv19 : Nat → Prop), Sl 19 [(1, .pointer (some ⟨b2, 0, none⟩)), (10, .bool c18)] a ∧ Wd ⟨w0, S0, []⟩ Sv19 [.box b2 [.int .i64 r1.Num, .int .i64 r1.Den] 33] [] w) ?_ ?_
 ·rcases Bool.eq_false_or_eq_true rv4 with h17 | h17
  ·have hs := hs.fix 6 (.bool true) rfl (vb h17)
   have hsh := ite_t hc18 h17
   refine st_val hs (y_fieldAddr (o' := 1) Tryz.runUnderlying33 rfl Tryz.sizeOf3 rfl rfl rfl) ⟨_, rfl, rfl⟩ rfl rfl fun a hs => ?_
   refine st_val hs (y_loadB1 (hw.ownAt 0 rfl) rfl Tryz.isAgg3 rfl) ⟨_, rfl, rfl⟩ rfl rfl fun a hs => ?_
   obtain ⟨rv21, h20, hsh⟩ := bind_t hsh
   refine st_callR hs (rate_in_ok h20 hw.bdom) (do_call Tryz.call109 rfl) ⟨_, rfl, rfl⟩ rfl rfl ?_
   intro v25 Sv22 w a h23 h24 hs
   subst h24
   have hw := hw.callB h23
   refine sv hs (y_pickT rfl rfl) rfl fun a hs => ?_
   refine wpList_nil ?_
   have hsh := oi hsh
   subst hsh
   refine then_normal ?_
   exact ⟨S0, (hs.wk rfl), (hw.ft [0] [] (by decide) rfl rfl)⟩
  have hs := hs.fix 6 (.bool false) rfl (vb h17)
  have hsh := ite_f hc18 h17
  refine st_skip hs rfl rfl rfl rfl rfl fun a hs => ?_
  refine st_skip hs rfl rfl rfl rfl rfl fun a hs => ?_
  refine st_skip hs rfl rfl rfl rfl rfl fun a hs => ?_
  refine sv hs (y_pickF rfl rfl) rfl fun a hs => ?_
  refine wpList_nil ?_
  have hsh := oi hsh
  subst hsh
  refine then_normal ?_
  exact ⟨S0, (hs.wk rfl), (hw.ft [0] [] (by decide) rfl rfl)⟩
 rintro a w ⟨Sv19, hs, hw⟩
 refine mv hs rfl rfl fun a hs => ?_
 obtain ⟨c35, hc35, hsh⟩ := bind_t hsh
 refine wpl_join 7 (fun a w => ∃ (Sv36 : Nat → Prop), Sl 19 [(18, .bool c35)] a ∧ Wd ⟨w0, S0, []⟩ Sv36 [] [] w) ?_ ?_
 ·rcases Bool.eq_false_or_eq_true c18 with h34 | h34
  ·have hs := hs.fix 11 (.bool true) rfl (vb h34)
   have hsh := ite_t hc35 h34
   refine st_val hs (y_fieldAddr (o' := 0) Tryz.runUnderlying33 rfl Tryz.sizeOf3 rfl rfl rfl) ⟨_, rfl, rfl⟩ rfl rfl fun a hs => ?_
   refine st_val hs (y_loadB1 (hw.ownAt 0 rfl) rfl Tryz.isAgg3 rfl) ⟨_, rfl, rfl⟩ rfl rfl fun a hs => ?_
   refine st_val hs (y_fieldAddr (o' := 1) Tryz.runUnderlying33 rfl Tryz.sizeOf3 rfl rfl rfl) ⟨_, rfl, rfl⟩ rfl rfl fun a hs => ?_
   refine st_val hs (y_loadB1 (hw.ownAt 0 rfl) rfl Tryz.isAgg3 rfl) ⟨_, rfl, rfl⟩ rfl rfl fun a hs => ?_
   obtain ⟨rv38, h37, hsh⟩ := bind_t hsh
   refine st_callR hs (rate_gcd_ok h37 hw.bdom) (do_call Tryz.call133 rfl) ⟨_, rfl, rfl⟩ rfl rfl ?_
   intro v42 Sv39 w a h40 h41 hs
   subst h41
   have hw := hw.callB h40
   refine st_val hs (y_eql rfl rfl) ⟨_, rfl, rfl⟩ rfl rfl fun a hs => ?_
   refine sv hs (y_pickT rfl rfl) rfl fun a hs => ?_
   refine wpList_nil ?_
   have hsh := oi hsh
   subst hsh
   refine then_normal ?_
   exact ⟨Sv19, (hs.wk rfl), (hw.ft [] [] (by decide) rfl rfl)⟩
  have hs := hs.fix 11 (.bool false) rfl (vb h34)
  have hsh := ite_f hc35 h34
  refine st_skip hs rfl rfl rfl rfl rfl fun a hs => ?_
  refine st_skip hs rfl rfl rfl rfl rfl fun a hs => ?_
  refine st_skip hs rfl rfl rfl rfl rfl fun a hs => ?_
  refine st_skip hs rfl rfl rfl rfl rfl fun a hs => ?_
  refine st_skip hs rfl rfl rfl rfl rfl fun a hs => ?_
  refine st_skip hs rfl rfl rfl rfl rfl fun a hs => ?_
  refine sv hs (y_pickF rfl rfl) rfl fun a hs => ?_
  refine wpList_nil ?_
  have hsh := oi hsh
  subst hsh
  refine then_normal ?_
  exact ⟨Sv19, (hs.wk rfl), (hw.ft [] [] (by decide) rfl rfl)⟩
 rintro a w ⟨Sv36, hs, hw⟩
 refine av hs rfl rfl fun a hs => ?_
 refine nl ?_
 have hsh := oi hsh
 subst hsh
 refine wp_ret ?_
 exact ret1 hs rfl (rv_tmp rfl) (hw.ret rfl)

abbrev rate_micros_rd (w0 : World) (X : List Nat) (r : Int) : (Nat → Prop) → World → Value → Prop := fun S w v => v = .int .i64 r
set_option maxHeartbeats 4000000 in
set_option maxRecDepth 100000 in
theorem rate_micros_ok {w0 : World} {S0 : Nat → Prop} {r1 : Rate} {r : Int} (hsh : rate_micros r1 = some r) (hS : ∀ b, S0 b → b < w0.heap.size) : Calls Tryz.prog 134 #[.agg #[.int .i64 r1.Num, .int .i64 r1.Den]] w0 (Ret ([]) w0 S0 (rate_micros_rd w0 ([]) r)) := by
 refine calls_of_wp Tryz.func134 rfl ?_
 have hs := Sl.enter #[.agg #[.int .i64 r1.Num, .int .i64 r1.Den]] 6 [(0, .agg #[.int .i64 r1.Num, .int .i64 r1.Den])] rfl ⟨rfl, trivial⟩
 have hw := Wd.enter (E := []) hS (fun _ h => (by cases h))
 delta rate_micros at hsh
 refine sr ?_
 refine w_box (cs := [.int .i64 r1.Num, .int .i64 r1.Den]) hs hw rfl rfl rfl trivial ?_
 intro b2 a w hs hw
 refine av hs rfl rfl fun a hs => ?_
 refine nl ?_
 refine sr ?_
 refine sv hs (y_fieldAddr (o' := 1) Tryz.runUnderlying33 rfl Tryz.sizeOf3 rfl rfl rfl) rfl fun a hs => ?_
 refine sv hs (y_loadB1 (hw.ownAt 0 rfl) rfl Tryz.isAgg3 rfl) rfl fun a hs => ?_
 refine sv hs (y_mul rfl rfl) rfl fun a hs => ?_
 obtain ⟨x4, h3, hsh⟩ := bind_t hsh
 refine sv hs (y_assignI rfl h3) rfl fun a hs => ?_
 refine nl ?_
 have hsh := oi hsh
 subst hsh
 refine wp_ret ?_
 exact ret1 hs rfl (rv_tmp rfl) (hw.ret rfl)

abbrev rate_after_rd (w0 : World) (X : List Nat) (r : Int) : (Nat → Prop) → World → Value → Prop := fun S w v => v = .int .i64 r
set_option maxHeartbeats 4000000 in
set_option maxRecDepth 100000 in
theorem rate_after_ok {w0 : World} {S0 : Nat → Prop} {r1 : Rate} {k2 : Int} {r : Int} (hsh : rate_after r1 k2 = some r) (hS : ∀ b, S0 b → b < w0.heap.size) : Calls Tryz.prog 110 #[.agg #[.int .i64 r1.Num, .int .i64 r1.Den], .int .i64 k2] w0 (Ret ([]) w0 S0 (rate_after_rd w0 ([]) r)) := by
 refine calls_of_wp Tryz.func110 rfl ?_
 have hs := Sl.enter #[.agg #[.int .i64 r1.Num, .int .i64 r1.Den], .int .i64 k2] 12 [(0, .agg #[.int .i64 r1.Num, .int .i64 r1.Den]), (1, .int .i64 k2)] rfl ⟨rfl, rfl, trivial⟩
 have hw := Wd.enter (E := []) hS (fun _ h => (by cases h))
 delta rate_after at hsh
 refine sr ?_
 refine w_box (cs := [.int .i64 r1.Num, .int .i64 r1.Den]) hs hw rfl rfl rfl trivial ?_
 intro b3 a w hs hw
 refine av hs rfl rfl fun a hs => ?_
 refine nl ?_
 refine wp_seq ?_
 obtain ⟨rv5, h4, hsh⟩ := bind_t hsh
 obtain ⟨quo7, h6, hsh⟩ := bind_t hsh
 refine wp_only (fun a w => ∃ (Sv8 : Nat → Prop), Sl 12 [(4, .int .i64 quo7)] a ∧ Wd ⟨w0, S0, []⟩ Sv8 [] [] w) ?_ ?_
 ·refine h_b (C := Cls [.box b3 [.int .i64 r1.Num, .int .i64 r1.Den] 33] []) (by kernel_rfl) rfl (hw.drew.cs [0] [] rfl rfl) fun hC => ?_
  have hw := hw.drew
  refine gm hs 0 rfl rfl rfl hC fun a hs => ?_
  refine gv hs 1 rfl rfl hC (fun w hC => y_loadBA (hC.ownAt 0 rfl) rfl Tryz.isAgg33 Tryz.sizeOf33 rfl rfl) fun a hs => ?_
  refine gv hs 4 rfl rfl hC (fun w hC => y_fieldAddr (o' := 0) Tryz.runUnderlying33 rfl Tryz.sizeOf3 rfl rfl rfl) fun a hs => ?_
  refine gv hs 5 rfl rfl hC (fun w hC => y_loadB1 (hC.ownAt 0 rfl) rfl Tryz.isAgg3 rfl) fun a hs => ?_
  refine ho 2 rfl ?_
  refine st_callR hs (rate_micros_ok h4 hw.bdom) (do_call Tryz.call134 rfl) trivial rfl rfl ?_
  intro v12 Sv9 w a h10 h11 hs
  subst h11
  have hw := hw.callB h10
  refine h_nx (hw.cs [0] [] rfl rfl) fun hC => ?_
  refine gv hs 3 rfl rfl hC (fun w hC => y_mul rfl rfl) fun a hs => ?_
  refine gv hs 6 rfl rfl hC (fun w hC => y_quoM rfl rfl h6) fun a hs => ?_
  refine gv hs 7 rfl rfl hC (fun w hC => y_assign rfl) fun a hs => ?_
  refine h_done (by kernel_rfl) ?_
  exact ⟨S0, (hs.wk rfl), (hw.ft [] [] (by decide) rfl rfl)⟩
 rintro a w ⟨Sv8, hs, hw⟩
 refine then_normal ?_
 have hsh := oi hsh
 subst hsh
 refine wp_ret ?_
 exact ret1 hs rfl (rv_tmp rfl) (hw.ret rfl)

abbrev rate_Time_rd (w0 : World) (X : List Nat) (r : (Int × Int)) : (Nat → Prop) → World → Value → Prop := fun S w v => v = .tuple #[.int .i64 r.1, .int .i64 r.2]
set_option maxHeartbeats 4000000 in
set_option maxRecDepth 100000 in
theorem rate_Time_ok {w0 : World} {S0 : Nat → Prop} {start1 : Int} {r2 : Rate} {k3 : Int} {r : (Int × Int)} (hsh : rate_Time start1 r2 k3 = some r) (hS : ∀ b, S0 b → b < w0.heap.size) : Calls Tryz.prog 81 #[.int .i64 start1, .agg #[.int .i64 r2.Num, .int .i64 r2.Den], .int .i64 k3] w0 (Ret ([]) w0 S0 (rate_Time_rd w0 ([]) r)) := by
 refine calls_of_wp Tryz.func81 rfl ?_
 have hs := Sl.enter #[.int .i64 start1, .agg #[.int .i64 r2.Num, .int .i64 r2.Den], .int .i64 k3] 24 [(0, .int .i64 start1), (1, .agg #[.int .i64 r2.Num, .int .i64 r2.Den]), (2, .int .i64 k3)] rfl ⟨rfl, rfl, rfl, trivial⟩
 have hw := Wd.enter (E := []) hS (fun _ h => (by cases h))
 delta rate_Time at hsh
 refine sr ?_
 refine w_box (cs := [.int .i64 r2.Num, .int .i64 r2.Den]) hs hw rfl rfl rfl trivial ?_
 intro b4 a w hs hw
 refine av hs rfl rfl fun a hs => ?_
 refine av hs rfl rfl fun a hs => ?_
 refine nl ?_
 refine wp_seq ?_
 refine sr ?_
 refine sv hs (y_loadBA (hw.ownAt 0 rfl) rfl Tryz.isAgg33 Tryz.sizeOf33 rfl rfl) rfl fun a hs => ?_
 obtain ⟨rv6, h5, hsh⟩ := bind_t hsh
 refine st_callR hs (rate_Valid_ok h5 hw.bdom) (do_call Tryz.call108 rfl) trivial rfl rfl ?_
 intro v10 Sv7 w a h8 h9 hs
 subst h9
 have hw := hw.callB h8
 refine sv hs (y_not rfl) rfl fun a hs => ?_
 refine nl ?_
 refine wp_cond_split (hs.ev rfl) (fun h13 => ?_) (fun h13 => ?_)
 ·have hsh := ite_t hsh h13
  refine sr ?_
  refine av hs rfl rfl fun a hs => ?_
  refine av hs rfl rfl fun a hs => ?_
  refine nl ?_
  have hsh := oi hsh
  subst hsh
  refine wp_ret ?_
  refine then_ret ?_
  exact ret2 hs rfl (rv_tmp rfl) (rv_tmp rfl) (hw.ret rfl)
 have hsh := ite_f hsh h13
 refine wp_skip ?_
 refine then_normal ?_
 refine wp_seq ?_
 refine sr ?_
 refine mv hs rfl rfl fun a hs => ?_
 obtain ⟨rv15, h14, hsh⟩ := bind_t hsh
 refine st_callR hs (rate_in_ok h14 hw.bdom) (do_call Tryz.call109 rfl) trivial rfl rfl ?_
 intro v19 Sv16 w a h17 h18 hs
 subst h18
 have hw := hw.callB h17
 refine sv hs (y_not rfl) rfl fun a hs => ?_
 refine mv hs rfl rfl fun a hs => ?_
 obtain ⟨c29, hc29, hsh⟩ := bind_t hsh
 refine wpl_join 4 (fun a w => ∃ (Sv30 : Nat → Prop), Sl 24 [(0, .int .i64 start1), (2, .int .i64 k3), (4, .pointer (some ⟨b4, 0, none⟩)), (18, .bool c29)] a ∧ Wd ⟨w0, S0, []⟩ Sv30 [.box b4 [.int .i64 r2.Num, .int .i64 r2.Den] 33] [] w) ?_ ?_
 ·rcases Bool.eq_false_or_eq_true (!rv15) with h28 | h28
  ·have hs := hs.fix 14 (.bool true) rfl (vb h28)
   have hsh := ite_t hc29 h28
   refine st_skip hs rfl rfl rfl rfl rfl fun a hs => ?_
   refine st_skip hs rfl rfl rfl rfl rfl fun a hs => ?_
   refine st_skip hs rfl rfl rfl rfl rfl fun a hs => ?_
   refine sv hs (y_pickT rfl rfl) rfl fun a hs => ?_
   refine wpList_nil ?_
   have hsh := oi hsh
   subst hsh
   refine then_normal ?_
   exact ⟨S0, (hs.wk rfl), (hw.ft [0] [] (by decide) rfl rfl)⟩
  have hs := hs.fix 14 (.bool false) rfl (vb h28)
  have hsh := ite_f hc29 h28
  refine st_val hs (y_move rfl) ⟨_, rfl, rfl⟩ rfl rfl fun a hs => ?_
  obtain ⟨rv32, h31, hsh⟩ := bind_t hsh
  refine st_callR hs (rate_in_ok h31 hw.bdom) (do_call Tryz.call109 rfl) ⟨_, rfl, rfl⟩ rfl rfl ?_
  intro v36 Sv33 w a h34 h35 hs
  subst h35
  have hw := hw.callB h34
  refine st_val hs (y_not rfl) ⟨_, rfl, rfl⟩ rfl rfl fun a hs => ?_
  refine sv hs (y_pickF rfl rfl) rfl fun a hs => ?_
  refine wpList_nil ?_
  have hsh := oi hsh
  subst hsh
  refine then_normal ?_
  exact ⟨S0, (hs.wk rfl), (hw.ft [0] [] (by decide) rfl rfl)⟩
 rintro a w ⟨Sv30, hs, hw⟩
 refine nl ?_
 refine wp_cond_split (hs.ev rfl) (fun h39 => ?_) (fun h39 => ?_)
 ·have hsh := ite_t hsh h39
  refine sr ?_
  refine av hs rfl rfl fun a hs => ?_
  refine av hs rfl rfl fun a hs => ?_
  refine nl ?_
  have hsh := oi hsh
  subst hsh
  refine wp_ret ?_
  refine then_ret ?_
  exact ret2 hs rfl (rv_tmp rfl) (rv_tmp rfl) (hw.ret rfl)
 have hsh := ite_f hsh h39
 refine wp_skip ?_
 refine then_normal ?_
 refine sr ?_
 refine mv hs rfl rfl fun a hs => ?_
 refine sv hs (y_loadBA (hw.ownAt 0 rfl) rfl Tryz.isAgg33 Tryz.sizeOf33 rfl rfl) rfl fun a hs => ?_
 refine mv hs rfl rfl fun a hs => ?_
 obtain ⟨rv41, h40, hsh⟩ := bind_t hsh
 refine st_callR hs (rate_after_ok h40 hw.bdom) (do_call Tryz.call110 rfl) trivial rfl rfl ?_
 intro v45 Sv42 w a h43 h44 hs
 subst h44
 have hw := hw.callB h43
 refine sv hs (y_add rfl rfl) rfl fun a hs => ?_
 obtain ⟨x48, h47, hsh⟩ := bind_t hsh
 refine sv hs (y_assignI rfl h47) rfl fun a hs => ?_
 refine av hs rfl rfl fun a hs => ?_
 refine nl ?_
 have hsh := oi hsh
 subst hsh
 refine wp_ret ?_
 exact ret2 hs rfl (rv_tmp rfl) (rv_tmp rfl) (hw.ret rfl)

abbrev slices_IndexFunc_Lint_int_rd (w0 : World) (X : List Nat) (r : Int) : (Nat → Prop) → World → Value → Prop := fun S w v => v = .int .i64 r
set_option maxHeartbeats 4000000 in
set_option maxRecDepth 100000 in
theorem slices_IndexFunc_Lint_int_ok {w0 : World} {S0 : Nat → Prop} {p2 : Option Addr} {k3 : Nat} {g6 : Nat} {f7 : List Value} {cp8 : List Value} {s1 : (List Int)} {f5 : Int → Option Bool} {r : Int} (hsh : slices_IndexFunc_Lint_int s1 f5 = some r) (hS : ∀ b, S0 b → b < w0.heap.size) (h4 : (SlA p2 s1.length k3 s1).p S0 w0) (h9 : (FnA1 Tryz.prog g6 f7 cp8 f5).p S0 w0) : Calls Tryz.prog 144 #[.slice p2 s1.length k3, .func (.func g6) f7.toArray cp8.toArray] w0 (Ret ([]) w0 S0 (slices_IndexFunc_Lint_int_rd w0 ([]) r)) := by
 refine calls_of_wp Tryz.func144 rfl ?_
 have hs := Sl.enter #[.slice p2 s1.length k3, .func (.func g6) f7.toArray cp8.toArray] 19 [(0, .slice p2 s1.length k3), (1, .func (.func g6) f7.toArray cp8.toArray)] rfl ⟨rfl, rfl, trivial⟩
 have hw := Wd.enter (E := []) hS (fun _ h => (by cases h))
 have hw := hw.addE h4
 have hw := hw.addE h9
 delta slices_IndexFunc_Lint_int at hsh
 refine sr ?_
 refine av hs rfl rfl fun a hs => ?_
 refine nl ?_
 refine wp_seq ?_
 refine sr ?_
 refine mv hs rfl rfl fun a hs => ?_
 refine sv hs (y_len Tryz.runUnderlying22 rfl) rfl fun a hs => ?_
 refine mv hs rfl rfl fun a hs => ?_
 refine nl ?_
 refine wp_block ?_
 refine wp_while (fun sv78 a w => ∃ (Sv122 : Nat → Prop), Sl 19 [(0, .slice p2 s1.length k3), (1, .func (.func g6) f7.toArray cp8.toArray), (7, .int .i64 (s1.length : Int)), (8, .int .i64 sv78)] a ∧ Wd ⟨w0, S0, []⟩ Sv122 [] [SlA p2 s1.length k3 s1, FnA1 Tryz.prog g6 f7 cp8 f5] w) 0 hsh ⟨S0, (hs.wk rfl), (hw.ft [] [1, 0] (by decide) rfl rfl)⟩ ?_
 repeat clear hsh
 rintro sv78 a w tv145 ⟨Sv122, hs, hw⟩ hsh hd144
 delta slices_IndexFunc_Lint_int_l2 at hsh
 refine sr ?_
 refine sv hs (y_lss rfl rfl) rfl fun a hs => ?_
 refine nl ?_
 refine wp_seq ?_
 refine wp_cond_split (hs.ev rfl) (fun h149 => ?_) (fun h149 => ?_)
 ·have hsh := ite_t hsh h149
  refine wp_skip ?_
  refine then_normal ?_
  refine wp_seq ?_
  refine wp_block ?_
  refine sr ?_
  refine mv hs rfl rfl fun a hs => ?_
  refine av hs rfl rfl fun a hs => ?_
  refine nl ?_
  refine sr ?_
  refine mv hs rfl rfl fun a hs => ?_
  refine mv hs rfl rfl fun a hs => ?_
  refine mv hs rfl rfl fun a hs => ?_
  obtain ⟨x172, h170, hsh⟩ := bind_t hsh
  obtain ⟨b178, o179, q176, c177, h180, h173, h174, h175, h171⟩ := hw.elemV 0 rfl h170
  have hsv181 := hs
  have hwv182 := hw
  subst h180
  have hs := hsv181
  have hw := hwv182
  obtain ⟨_, rfl, rfl⟩ := h171
  have hw := hw.addE h175
  refine sv hs (y_indexAt Tryz.runUnderlying22 Tryz.sizeOf3 rfl rfl h173.1 h173.2 h174) rfl fun a hs => ?_
  refine sv hs (y_loadE1 (j := 0) (hw.ceAt 0 rfl) rfl Tryz.isAgg3 rfl) rfl fun a hs => ?_
  obtain ⟨rv184, h183, hsh⟩ := bind_t hsh
  refine st_callR hs ((hw.bE 2 rfl).2 Keep.rfl' hw.bdom ⟨_, rfl, rfl⟩ h183) (do_callF (hw.bE 2 rfl).1 rfl rfl) trivial rfl rfl ?_
  intro v188 Sv185 w a h186 h187 hs
  subst h187
  have hw := hw.callB h186
  refine nl ?_
  refine wp_cond_split (hs.ev rfl) (fun h190 => ?_) (fun h190 => ?_)
  ·have hsh := ite_t hsh h190
   refine sr ?_
   refine mv hs rfl rfl fun a hs => ?_
   refine av hs rfl rfl fun a hs => ?_
   refine nl ?_
   have hsh := oi hsh
   subst hsh
   have h191 := hd144 _ rfl
   subst h191
   refine wp_ret ?_
   refine blk_ret ?_
   refine then_ret ?_
   refine then_ret ?_
   refine blk_ret ?_
   refine then_ret ?_
   exact ret1 hs rfl (rv_tmp rfl) (hw.ret rfl)
  have hsh := ite_f hsh h190
  refine wp_skip ?_
  refine blk_normal ?_
  refine then_normal ?_
  refine wp_region_lit ?_
  refine sv hs (y_add rfl rfl) rfl fun a hs => ?_
  refine mv hs rfl rfl fun a hs => ?_
  refine nl ?_
  exact ⟨_, (Option.some.inj hsh).symm, Sv122, (hs.wk rfl), (hw.ft [] [1, 2] (by decide) rfl rfl)⟩
 have hsh := ite_f hsh h149
 obtain ⟨rv192, hsh, h193⟩ := map_t hsh
 have h193 := (hd144 _ h193.symm).symm
 subst h193
 refine wp_exit ?_
 refine then_exit ?_
 refine then_exit ?_
 refine blk_exit ?_
 refine then_normal ?_
 refine sr ?_
 refine av hs rfl rfl fun a hs => ?_
 refine nl ?_
 have hsh := oi hsh
 subst hsh
 refine wp_ret ?_
 exact ret1 hs rfl (rv_tmp rfl) (hw.ret rfl)

abbrev slices_ContainsFunc_Lint_int_rd (w0 : World) (X : List Nat) (r : Bool) : (Nat → Prop) → World → Value → Prop := fun S w v => v = .bool r
set_option maxHeartbeats 4000000 in
set_option maxRecDepth 100000 in
theorem slices_ContainsFunc_Lint_int_ok {w0 : World} {S0 : Nat → Prop} {p2 : Option Addr} {k3 : Nat} {g6 : Nat} {f7 : List Value} {cp8 : List Value} {s1 : (List Int)} {f5 : Int → Option Bool} {r : Bool} (hsh : slices_ContainsFunc_Lint_int s1 f5 = some r) (hS : ∀ b, S0 b → b < w0.heap.size) (h4 : (SlA p2 s1.length k3 s1).p S0 w0) (h9 : (FnA1 Tryz.prog g6 f7 cp8 f5).p S0 w0) : Calls Tryz.prog 117 #[.slice p2 s1.length k3, .func (.func g6) f7.toArray cp8.toArray] w0 (Ret ([]) w0 S0 (slices_ContainsFunc_Lint_int_rd w0 ([]) r)) := by
 refine calls_of_wp Tryz.func117 rfl ?_
 have hs := Sl.enter #[.slice p2 s1.length k3, .func (.func g6) f7.toArray cp8.toArray] 9 [(0, .slice p2 s1.length k3), (1, .func (.func g6) f7.toArray cp8.toArray)] rfl ⟨rfl, rfl, trivial⟩
 have hw := Wd.enter (E := []) hS (fun _ h => (by cases h))
 have hw := hw.addE h4
 have hw := hw.addE h9
 delta slices_ContainsFunc_Lint_int at hsh
 refine sr ?_
 refine av hs rfl rfl fun a hs => ?_
 refine nl ?_
 refine sr ?_
 refine mv hs rfl rfl fun a hs => ?_
 refine mv hs rfl rfl fun a hs => ?_
 obtain ⟨rv11, h10, hsh⟩ := bind_t hsh
 refine st_callR hs (slices_IndexFunc_Lint_int_ok h10 hw.bdom (hw.bE 1 rfl) (hw.bE 0 rfl)) (do_call Tryz.call144 rfl) trivial rfl rfl ?_
 intro v15 Sv12 w a h13 h14 hs
 subst h14
 have hw := hw.callB h13
 refine sv hs (y_geq rfl rfl) rfl fun a hs => ?_
 refine av hs rfl rfl fun a hs => ?_
 refine nl ?_
 have hsh := oi hsh
 subst hsh
 refine wp_ret ?_
 exact ret1 hs rfl (rv_tmp rfl) (hw.ret rfl)

abbrev record_Valid_fn1_rd (w0 : World) (X : List Nat) (r : Bool) : (Nat → Prop) → World → Value → Prop := fun S w v => v = .bool r
set_option maxHeartbeats 4000000 in
set_option maxRecDepth 100000 in
theorem record_Valid_fn1_ok {w0 : World} {S0 : Nat → Prop} {x1 : Int} {r : Bool} (hsh : record_Valid_fn1 x1 = some r) (hS : ∀ b, S0 b → b < w0.heap.size) : Calls Tryz.prog 118 #[.int .i64 x1] w0 (Ret ([]) w0 S0 (record_Valid_fn1_rd w0 ([]) r)) := by
 refine calls_of_wp Tryz.func118 rfl ?_
 have hs := Sl.enter #[.int .i64 x1] 6 [(0, .int .i64 x1)] rfl ⟨rfl, trivial⟩
 have hw := Wd.enter (E := []) hS (fun _ h => (by cases h))
 delta record_Valid_fn1 at hsh
 refine sr ?_
 refine av hs rfl rfl fun a hs => ?_
 refine nl ?_
 refine sr ?_
 refine mv hs rfl rfl fun a hs => ?_
 obtain ⟨rv3, h2, hsh⟩ := bind_t hsh
 refine st_callR hs (record_in_ok h2 hw.bdom) (do_call Tryz.call116 rfl) trivial rfl rfl ?_
 intro v7 Sv4 w a h5 h6 hs
 subst h6
 have hw := hw.callB h5
 refine sv hs (y_not rfl) rfl fun a hs => ?_
 refine av hs rfl rfl fun a hs => ?_
 refine nl ?_
 have hsh := oi hsh
 subst hsh
 refine wp_ret ?_
 exact ret1 hs rfl (rv_tmp rfl) (hw.ret rfl)

theorem record_Valid_fn1_fn (S0 : Nat → Prop) (w0 : World) : (FnA1 Tryz.prog 118 [] [] record_Valid_fn1).p S0 w0 := by
  refine ⟨Tryz.call118, ?_⟩
  intro S1 w1 hk hS c0 x0 r1 h0 hf
  obtain ⟨_, rfl, rfl⟩ := h0
  exact record_Valid_fn1_ok hf hS  

abbrev record_Valid_rd (w0 : World) (X : List Nat) (r : Bool) : (Nat → Prop) → World → Value → Prop := fun S w v => v = .bool r
set_option maxHeartbeats 4000000 in
set_option maxRecDepth 100000 in
theorem record_Valid_ok {w0 : World} {S0 : Nat → Prop} {p2 : Option Addr} {k3 : Nat} {r1 : Record} {r : Bool} (hsh : record_Valid r1 = some r) (hS : ∀ b, S0 b → b < w0.heap.size) (h4 : (SlA p2 r1.Samples.length k3 r1.Samples).p S0 w0) : Calls Tryz.prog 91 #[.agg #[.string r1.Source.Network, .string r1.Source.Station, .string r1.Source.Location, .string r1.Source.Channel, .int .i64 r1.Start, .int .i64 r1.First, .int .i64 r1.Rate.Num, .int .i64 r1.Rate.Den, .int .i64 r1.Error, .int .i64 r1.Run, .int .i64 r1.Seq, .slice p2 r1.Samples.length k3]] w0 (Ret ([]) w0 S0 (record_Valid_rd w0 ([]) r)) := by
 refine calls_of_wp Tryz.func91 rfl ?_
 have hs := Sl.enter #[.agg #[.string r1.Source.Network, .string r1.Source.Station, .string r1.Source.Location, .string r1.Source.Channel, .int .i64 r1.Start, .int .i64 r1.First, .int .i64 r1.Rate.Num, .int .i64 r1.Rate.Den, .int .i64 r1.Error, .int .i64 r1.Run, .int .i64 r1.Seq, .slice p2 r1.Samples.length k3]] 68 [(0, .agg #[.string r1.Source.Network, .string r1.Source.Station, .string r1.Source.Location, .string r1.Source.Channel, .int .i64 r1.Start, .int .i64 r1.First, .int .i64 r1.Rate.Num, .int .i64 r1.Rate.Den, .int .i64 r1.Error, .int .i64 r1.Run, .int .i64 r1.Seq, .slice p2 r1.Samples.length k3])] rfl ⟨rfl, trivial⟩
 have hw := Wd.enter (E := []) hS (fun _ h => (by cases h))
 have hw := hw.addE h4
 delta record_Valid at hsh
 refine sr ?_
 refine w_box (cs := [.string r1.Source.Network, .string r1.Source.Station, .string r1.Source.Location, .string r1.Source.Channel, .int .i64 r1.Start, .int .i64 r1.First, .int .i64 r1.Rate.Num, .int .i64 r1.Rate.Den, .int .i64 r1.Error, .int .i64 r1.Run, .int .i64 r1.Seq, .slice p2 r1.Samples.length k3]) hs hw rfl rfl rfl trivial ?_
 intro b5 a w hs hw
 refine av hs rfl rfl fun a hs => ?_
 refine nl ?_
 refine sr ?_
 refine sv hs (y_fieldAddr (o' := 11) Tryz.runUnderlying35 rfl Tryz.sizeOf22 rfl rfl rfl) rfl fun a hs => ?_
 refine sv hs (y_loadB1 (hw.ownAt 0 rfl) rfl Tryz.isAgg22 rfl) rfl fun a hs => ?_
 refine sv hs (y_len Tryz.runUnderlying22 rfl) rfl fun a hs => ?_
 obtain ⟨n7, h6, hsh⟩ := bind_t hsh
 refine sv hs (y_assignI rfl h6) rfl fun a hs => ?_
 refine nl ?_
 refine wp_seq ?_
 refine sr ?_
 refine sv hs (y_fieldAddr (o' := 0) Tryz.runUnderlying35 rfl Tryz.sizeOf31 rfl rfl rfl) rfl fun a hs => ?_
 refine sv hs (y_loadBA (hw.ownAt 0 rfl) rfl Tryz.isAgg31 Tryz.sizeOf31 rfl rfl) rfl fun a hs => ?_
 obtain ⟨rv9, h8, hsh⟩ := bind_t hsh
 refine st_callR hs (source_Valid_ok h8 hw.bdom) (do_call Tryz.call115 rfl) trivial rfl rfl ?_
 intro v13 Sv10 w a h11 h12 hs
 subst h12
 have hw := hw.callB h11
 refine sv hs (y_not rfl) rfl fun a hs => ?_
 refine mv hs rfl rfl fun a hs => ?_
 obtain ⟨c23, hc23, hsh⟩ := bind_t hsh
 refine wpl_join 4 (fun a w => ∃ (Sv24 : Nat → Prop), Sl 68 [(1, .pointer (some ⟨b5, 0, none⟩)), (3, .int .i64 n7), (17, .bool c23)] a ∧ Wd ⟨w0, S0, []⟩ Sv24 [.box b5 [.string r1.Source.Network, .string r1.Source.Station, .string r1.Source.Location, .string r1.Source.Channel, .int .i64 r1.Start, .int .i64 r1.First, .int .i64 r1.Rate.Num, .int .i64 r1.Rate.Den, .int .i64 r1.Error, .int .i64 r1.Run, .int .i64 r1.Seq, .slice p2 r1.Samples.length k3] 35] [SlA p2 r1.Samples.length k3 r1.Samples] w) ?_ ?_
 ·rcases Bool.eq_false_or_eq_true (!rv9) with h22 | h22
  ·have hs := hs.fix 13 (.bool true) rfl (vb h22)
   have hsh := ite_t hc23 h22
   refine st_skip hs rfl rfl rfl rfl rfl fun a hs => ?_
   refine st_skip hs rfl rfl rfl rfl rfl fun a hs => ?_
   refine st_skip hs rfl rfl rfl rfl rfl fun a hs => ?_
   refine sv hs (y_pickT rfl rfl) rfl fun a hs => ?_
   refine wpList_nil ?_
   have hsh := oi hsh
   subst hsh
   refine then_normal ?_
   exact ⟨S0, (hs.wk rfl), (hw.ft [0] [0] (by decide) rfl rfl)⟩
  have hs := hs.fix 13 (.bool false) rfl (vb h22)
  have hsh := ite_f hc23 h22
  refine st_val hs (y_move rfl) ⟨_, rfl, rfl⟩ rfl rfl fun a hs => ?_
  obtain ⟨rv26, h25, hsh⟩ := bind_t hsh
  refine st_callR hs (record_in_ok h25 hw.bdom) (do_call Tryz.call116 rfl) ⟨_, rfl, rfl⟩ rfl rfl ?_
  intro v30 Sv27 w a h28 h29 hs
  subst h29
  have hw := hw.callB h28
  refine st_val hs (y_not rfl) ⟨_, rfl, rfl⟩ rfl rfl fun a hs => ?_
  refine sv hs (y_pickF rfl rfl) rfl fun a hs => ?_
  refine wpList_nil ?_
  have hsh := oi hsh
  subst hsh
  refine then_normal ?_
  exact ⟨S0, (hs.wk rfl), (hw.ft [0] [0] (by decide) rfl rfl)⟩
 rintro a w ⟨Sv24, hs, hw⟩
 refine mv hs rfl rfl fun a hs => ?_
 obtain ⟨c40, hc40, hsh⟩ := bind_t hsh
 refine wpl_join 7 (fun a w => ∃ (Sv41 : Nat → Prop), Sl 68 [(1, .pointer (some ⟨b5, 0, none⟩)), (3, .int .i64 n7), (25, .bool c40)] a ∧ Wd ⟨w0, S0, []⟩ Sv41 [.box b5 [.string r1.Source.Network, .string r1.Source.Station, .string r1.Source.Location, .string r1.Source.Channel, .int .i64 r1.Start, .int .i64 r1.First, .int .i64 r1.Rate.Num, .int .i64 r1.Rate.Den, .int .i64 r1.Error, .int .i64 r1.Run, .int .i64 r1.Seq, .slice p2 r1.Samples.length k3] 35] [SlA p2 r1.Samples.length k3 r1.Samples] w) ?_ ?_
 ·rcases Bool.eq_false_or_eq_true c23 with h39 | h39
  ·have hs := hs.fix 18 (.bool true) rfl (vb h39)
   have hsh := ite_t hc40 h39
   refine st_skip hs rfl rfl rfl rfl rfl fun a hs => ?_
   refine st_skip hs rfl rfl rfl rfl rfl fun a hs => ?_
   refine st_skip hs rfl rfl rfl rfl rfl fun a hs => ?_
   refine st_skip hs rfl rfl rfl rfl rfl fun a hs => ?_
   refine st_skip hs rfl rfl rfl rfl rfl fun a hs => ?_
   refine st_skip hs rfl rfl rfl rfl rfl fun a hs => ?_
   refine sv hs (y_pickT rfl rfl) rfl fun a hs => ?_
   refine wpList_nil ?_
   have hsh := oi hsh
   subst hsh
   refine then_normal ?_
   exact ⟨Sv24, (hs.wk rfl), (hw.ft [0] [0] (by decide) rfl rfl)⟩
  have hs := hs.fix 18 (.bool false) rfl (vb h39)
  have hsh := ite_f hc40 h39
  refine st_val hs (y_fieldAddr (o' := 5) Tryz.runUnderlying35 rfl Tryz.sizeOf3 rfl rfl rfl) ⟨_, rfl, rfl⟩ rfl rfl fun a hs => ?_
  refine st_val hs (y_loadB1 (hw.ownAt 0 rfl) rfl Tryz.isAgg3 rfl) ⟨_, rfl, rfl⟩ rfl rfl fun a hs => ?_
  refine st_val hs (y_move rfl) ⟨_, rfl, rfl⟩ rfl rfl fun a hs => ?_
  refine st_val hs (y_sub rfl rfl) ⟨_, rfl, rfl⟩ rfl rfl fun a hs => ?_
  obtain ⟨rv43, h42, hsh⟩ := bind_t hsh
  refine st_callR hs (record_in_ok h42 hw.bdom) (do_call Tryz.call116 rfl) ⟨_, rfl, rfl⟩ rfl rfl ?_
  intro v47 Sv44 w a h45 h46 hs
  subst h46
  have hw := hw.callB h45
  refine st_val hs (y_not rfl) ⟨_, rfl, rfl⟩ rfl rfl fun a hs => ?_
  refine sv hs (y_pickF rfl rfl) rfl fun a hs => ?_
  refine wpList_nil ?_
  have hsh := oi hsh
  subst hsh
  refine then_normal ?_
  exact ⟨Sv24, (hs.wk rfl), (hw.ft [0] [0] (by decide) rfl rfl)⟩
 rintro a w ⟨Sv41, hs, hw⟩
 refine mv hs rfl rfl fun a hs => ?_
 obtain ⟨c57, hc57, hsh⟩ := bind_t hsh
 refine wpl_join 5 (fun a w => ∃ (Sv58 : Nat → Prop), Sl 68 [(1, .pointer (some ⟨b5, 0, none⟩)), (3, .int .i64 n7), (31, .bool c57)] a ∧ Wd ⟨w0, S0, []⟩ Sv58 [.box b5 [.string r1.Source.Network, .string r1.Source.Station, .string r1.Source.Location, .string r1.Source.Channel, .int .i64 r1.Start, .int .i64 r1.First, .int .i64 r1.Rate.Num, .int .i64 r1.Rate.Den, .int .i64 r1.Error, .int .i64 r1.Run, .int .i64 r1.Seq, .slice p2 r1.Samples.length k3] 35] [SlA p2 r1.Samples.length k3 r1.Samples] w) ?_ ?_
 ·rcases Bool.eq_false_or_eq_true c40 with h56 | h56
  ·have hs := hs.fix 26 (.bool true) rfl (vb h56)
   have hsh := ite_t hc57 h56
   refine st_skip hs rfl rfl rfl rfl rfl fun a hs => ?_
   refine st_skip hs rfl rfl rfl rfl rfl fun a hs => ?_
   refine st_skip hs rfl rfl rfl rfl rfl fun a hs => ?_
   refine st_skip hs rfl rfl rfl rfl rfl fun a hs => ?_
   refine sv hs (y_pickT rfl rfl) rfl fun a hs => ?_
   refine wpList_nil ?_
   have hsh := oi hsh
   subst hsh
   refine then_normal ?_
   exact ⟨Sv41, (hs.wk rfl), (hw.ft [0] [0] (by decide) rfl rfl)⟩
  have hs := hs.fix 26 (.bool false) rfl (vb h56)
  have hsh := ite_f hc57 h56
  refine st_val hs (y_fieldAddr (o' := 8) Tryz.runUnderlying35 rfl Tryz.sizeOf3 rfl rfl rfl) ⟨_, rfl, rfl⟩ rfl rfl fun a hs => ?_
  refine st_val hs (y_loadB1 (hw.ownAt 0 rfl) rfl Tryz.isAgg3 rfl) ⟨_, rfl, rfl⟩ rfl rfl fun a hs => ?_
  obtain ⟨rv60, h59, hsh⟩ := bind_t hsh
  refine st_callR hs (record_in_ok h59 hw.bdom) (do_call Tryz.call116 rfl) ⟨_, rfl, rfl⟩ rfl rfl ?_
  intro v64 Sv61 w a h62 h63 hs
  subst h63
  have hw := hw.callB h62
  refine st_val hs (y_not rfl) ⟨_, rfl, rfl⟩ rfl rfl fun a hs => ?_
  refine sv hs (y_pickF rfl rfl) rfl fun a hs => ?_
  refine wpList_nil ?_
  have hsh := oi hsh
  subst hsh
  refine then_normal ?_
  exact ⟨Sv41, (hs.wk rfl), (hw.ft [0] [0] (by decide) rfl rfl)⟩
 rintro a w ⟨Sv58, hs, hw⟩
 refine mv hs rfl rfl fun a hs => ?_
 obtain ⟨c74, hc74, hsh⟩ := bind_t hsh
 refine wpl_join 5 (fun a w => ∃ (Sv75 : Nat → Prop), Sl 68 [(1, .pointer (some ⟨b5, 0, none⟩)), (3, .int .i64 n7), (37, .bool c74)] a ∧ Wd ⟨w0, S0, []⟩ Sv75 [.box b5 [.string r1.Source.Network, .string r1.Source.Station, .string r1.Source.Location, .string r1.Source.Channel, .int .i64 r1.Start, .int .i64 r1.First, .int .i64 r1.Rate.Num, .int .i64 r1.Rate.Den, .int .i64 r1.Error, .int .i64 r1.Run, .int .i64 r1.Seq, .slice p2 r1.Samples.length k3] 35] [SlA p2 r1.Samples.length k3 r1.Samples] w) ?_ ?_
 ·rcases Bool.eq_false_or_eq_true c57 with h73 | h73
  ·have hs := hs.fix 32 (.bool true) rfl (vb h73)
   have hsh := ite_t hc74 h73
   refine st_skip hs rfl rfl rfl rfl rfl fun a hs => ?_
   refine st_skip hs rfl rfl rfl rfl rfl fun a hs => ?_
   refine st_skip hs rfl rfl rfl rfl rfl fun a hs => ?_
   refine st_skip hs rfl rfl rfl rfl rfl fun a hs => ?_
   refine sv hs (y_pickT rfl rfl) rfl fun a hs => ?_
   refine wpList_nil ?_
   have hsh := oi hsh
   subst hsh
   refine then_normal ?_
   exact ⟨Sv58, (hs.wk rfl), (hw.ft [0] [0] (by decide) rfl rfl)⟩
  have hs := hs.fix 32 (.bool false) rfl (vb h73)
  have hsh := ite_f hc74 h73
  refine st_val hs (y_fieldAddr (o' := 9) Tryz.runUnderlying35 rfl Tryz.sizeOf3 rfl rfl rfl) ⟨_, rfl, rfl⟩ rfl rfl fun a hs => ?_
  refine st_val hs (y_loadB1 (hw.ownAt 0 rfl) rfl Tryz.isAgg3 rfl) ⟨_, rfl, rfl⟩ rfl rfl fun a hs => ?_
  obtain ⟨rv77, h76, hsh⟩ := bind_t hsh
  refine st_callR hs (record_in_ok h76 hw.bdom) (do_call Tryz.call116 rfl) ⟨_, rfl, rfl⟩ rfl rfl ?_
  intro v81 Sv78 w a h79 h80 hs
  subst h80
  have hw := hw.callB h79
  refine st_val hs (y_not rfl) ⟨_, rfl, rfl⟩ rfl rfl fun a hs => ?_
  refine sv hs (y_pickF rfl rfl) rfl fun a hs => ?_
  refine wpList_nil ?_
  have hsh := oi hsh
  subst hsh
  refine then_normal ?_
  exact ⟨Sv58, (hs.wk rfl), (hw.ft [0] [0] (by decide) rfl rfl)⟩
 rintro a w ⟨Sv75, hs, hw⟩
 refine mv hs rfl rfl fun a hs => ?_
 obtain ⟨c91, hc91, hsh⟩ := bind_t hsh
 refine wpl_join 5 (fun a w => ∃ (Sv92 : Nat → Prop), Sl 68 [(1, .pointer (some ⟨b5, 0, none⟩)), (3, .int .i64 n7), (43, .bool c91)] a ∧ Wd ⟨w0, S0, []⟩ Sv92 [.box b5 [.string r1.Source.Network, .string r1.Source.Station, .string r1.Source.Location, .string r1.Source.Channel, .int .i64 r1.Start, .int .i64 r1.First, .int .i64 r1.Rate.Num, .int .i64 r1.Rate.Den, .int .i64 r1.Error, .int .i64 r1.Run, .int .i64 r1.Seq, .slice p2 r1.Samples.length k3] 35] [SlA p2 r1.Samples.length k3 r1.Samples] w) ?_ ?_
 ·rcases Bool.eq_false_or_eq_true c74 with h90 | h90
  ·have hs := hs.fix 38 (.bool true) rfl (vb h90)
   have hsh := ite_t hc91 h90
   refine st_skip hs rfl rfl rfl rfl rfl fun a hs => ?_
   refine st_skip hs rfl rfl rfl rfl rfl fun a hs => ?_
   refine st_skip hs rfl rfl rfl rfl rfl fun a hs => ?_
   refine st_skip hs rfl rfl rfl rfl rfl fun a hs => ?_
   refine sv hs (y_pickT rfl rfl) rfl fun a hs => ?_
   refine wpList_nil ?_
   have hsh := oi hsh
   subst hsh
   refine then_normal ?_
   exact ⟨Sv75, (hs.wk rfl), (hw.ft [0] [0] (by decide) rfl rfl)⟩
  have hs := hs.fix 38 (.bool false) rfl (vb h90)
  have hsh := ite_f hc91 h90
  refine st_val hs (y_fieldAddr (o' := 10) Tryz.runUnderlying35 rfl Tryz.sizeOf3 rfl rfl rfl) ⟨_, rfl, rfl⟩ rfl rfl fun a hs => ?_
  refine st_val hs (y_loadB1 (hw.ownAt 0 rfl) rfl Tryz.isAgg3 rfl) ⟨_, rfl, rfl⟩ rfl rfl fun a hs => ?_
  obtain ⟨rv94, h93, hsh⟩ := bind_t hsh
  refine st_callR hs (record_in_ok h93 hw.bdom) (do_call Tryz.call116 rfl) ⟨_, rfl, rfl⟩ rfl rfl ?_
  intro v98 Sv95 w a h96 h97 hs
  subst h97
  have hw := hw.callB h96
  refine st_val hs (y_not rfl) ⟨_, rfl, rfl⟩ rfl rfl fun a hs => ?_
  refine sv hs (y_pickF rfl rfl) rfl fun a hs => ?_
  refine wpList_nil ?_
  have hsh := oi hsh
  subst hsh
  refine then_normal ?_
  exact ⟨Sv75, (hs.wk rfl), (hw.ft [0] [0] (by decide) rfl rfl)⟩
 rintro a w ⟨Sv92, hs, hw⟩
 refine nl ?_
 refine wp_cond_split (hs.ev rfl) (fun h101 => ?_) (fun h101 => ?_)
 ·have hsh := ite_t hsh h101
  refine sr ?_
  refine av hs rfl rfl fun a hs => ?_
  refine nl ?_
  have hsh := oi hsh
  subst hsh
  refine wp_ret ?_
  refine then_ret ?_
  exact ret1 hs rfl (rv_tmp rfl) (hw.ret rfl)
 have hsh := ite_f hsh h101
 refine wp_skip ?_
 refine then_normal ?_
 refine sr ?_
 refine sv hs (y_fieldAddr (o' := 4) Tryz.runUnderlying35 rfl Tryz.sizeOf3 rfl rfl rfl) rfl fun a hs => ?_
 refine sv hs (y_loadB1 (hw.ownAt 0 rfl) rfl Tryz.isAgg3 rfl) rfl fun a hs => ?_
 refine sv hs (y_fieldAddr (o' := 6) Tryz.runUnderlying35 rfl Tryz.sizeOf33 rfl rfl rfl) rfl fun a hs => ?_
 refine sv hs (y_loadBA (hw.ownAt 0 rfl) rfl Tryz.isAgg33 Tryz.sizeOf33 rfl rfl) rfl fun a hs => ?_
 refine sv hs (y_fieldAddr (o' := 5) Tryz.runUnderlying35 rfl Tryz.sizeOf3 rfl rfl rfl) rfl fun a hs => ?_
 refine sv hs (y_loadB1 (hw.ownAt 0 rfl) rfl Tryz.isAgg3 rfl) rfl fun a hs => ?_
 refine mv hs rfl rfl fun a hs => ?_
 refine sv hs (y_add rfl rfl) rfl fun a hs => ?_
 obtain ⟨rv103, h102, hsh⟩ := bind_t hsh
 refine st_callR hs (rate_Time_ok h102 hw.bdom) (do_call Tryz.call81 rfl) trivial rfl rfl ?_
 intro v107 Sv104 w a h105 h106 hs
 subst h106
 have hw := hw.callB h105
 refine mv hs rfl rfl fun a hs => ?_
 refine sv hs (y_extract rfl rfl) rfl fun a hs => ?_
 refine sv hs (y_extract rfl rfl) rfl fun a hs => ?_
 refine av hs rfl rfl fun a hs => ?_
 refine av hs rfl rfl fun a hs => ?_
 refine nl ?_
 refine sr ?_
 refine mv hs rfl rfl fun a hs => ?_
 refine sv hs (y_eql rfl rfl) rfl fun a hs => ?_
 refine mv hs rfl rfl fun a hs => ?_
 refine wpl_join 3 (fun a w1 => w = w1 ∧ Sl 68 [(1, .pointer (some ⟨b5, 0, none⟩)), (61, .bool ((rv103.2 == 0) && (decide (rv103.1 ≤ 9007199254740992))))] a) ?_ ?_
 ·rcases Bool.eq_false_or_eq_true (rv103.2 == 0) with h109 | h109
  ·have hs := hs.fix 58 (.bool true) rfl (vb h109)
   refine st_val hs (y_move rfl) ⟨_, rfl, rfl⟩ rfl rfl fun a hs => ?_
   refine st_val hs (y_leq rfl rfl) ⟨_, rfl, rfl⟩ rfl rfl fun a hs => ?_
   refine sv hs (y_pickT rfl rfl) rfl fun a hs => ?_
   refine nl ?_
   exact ⟨rfl, (hs.fix 61 (.bool ((rv103.2 == 0) && (decide (rv103.1 ≤ 9007199254740992)))) rfl (and_t h109)).weaken _ ⟨rfl, rfl, trivial⟩⟩
  have hs := hs.fix 58 (.bool false) rfl (vb h109)
  refine st_skip hs rfl rfl rfl rfl rfl fun a hs => ?_
  refine st_skip hs rfl rfl rfl rfl rfl fun a hs => ?_
  refine sv hs (y_pickF rfl rfl) rfl fun a hs => ?_
  refine nl ?_
  exact ⟨rfl, (hs.fix 61 (.bool ((rv103.2 == 0) && (decide (rv103.1 ≤ 9007199254740992)))) rfl (and_f h109)).weaken _ ⟨rfl, rfl, trivial⟩⟩
 rintro a w1 ⟨h127, hs⟩
 subst h127
 refine mv hs rfl rfl fun a hs => ?_
 obtain ⟨c118, hc118, hsh⟩ := bind_t hsh
 refine wpl_join 5 (fun a w => ∃ (Sv119 : Nat → Prop), Sl 68 [(67, .bool c118)] a ∧ Wd ⟨w0, S0, []⟩ Sv119 [] [] w) ?_ ?_
 ·rcases Bool.eq_false_or_eq_true ((rv103.2 == 0) && (decide (rv103.1 ≤ 9007199254740992))) with h117 | h117
  ·have hs := hs.fix 62 (.bool true) rfl (vb h117)
   have hsh := ite_t hc118 h117
   refine st_val hs (y_fieldAddr (o' := 11) Tryz.runUnderlying35 rfl Tryz.sizeOf22 rfl rfl rfl) ⟨_, rfl, rfl⟩ rfl rfl fun a hs => ?_
   refine st_val hs (y_loadB1 (hw.ownAt 0 rfl) rfl Tryz.isAgg22 rfl) ⟨_, rfl, rfl⟩ rfl rfl fun a hs => ?_
   obtain ⟨rv121, h120, hsh⟩ := bind_t hsh
   refine st_callR hs (slices_ContainsFunc_Lint_int_ok h120 hw.bdom (hw.bE 0 rfl) (record_Valid_fn1_fn _ _)) (do_call Tryz.call117 rfl) ⟨_, rfl, rfl⟩ rfl rfl ?_
   intro v125 Sv122 w a h123 h124 hs
   subst h124
   have hw := hw.callB h123
   refine st_val hs (y_not rfl) ⟨_, rfl, rfl⟩ rfl rfl fun a hs => ?_
   refine sv hs (y_pickT rfl rfl) rfl fun a hs => ?_
   refine wpList_nil ?_
   have hsh := oi hsh
   subst hsh
   refine then_normal ?_
   exact ⟨Sv92, (hs.wk rfl), (hw.ft [] [] (by decide) rfl rfl)⟩
  have hs := hs.fix 62 (.bool false) rfl (vb h117)
  have hsh := ite_f hc118 h117
  refine st_skip hs rfl rfl rfl rfl rfl fun a hs => ?_
  refine st_skip hs rfl rfl rfl rfl rfl fun a hs => ?_
  refine st_skip hs rfl rfl rfl rfl rfl fun a hs => ?_
  refine st_skip hs rfl rfl rfl rfl rfl fun a hs => ?_
  refine sv hs (y_pickF rfl rfl) rfl fun a hs => ?_
  refine wpList_nil ?_
  have hsh := oi hsh
  subst hsh
  refine then_normal ?_
  exact ⟨Sv92, (hs.wk rfl), (hw.ft [] [] (by decide) rfl rfl)⟩
 rintro a w ⟨Sv119, hs, hw⟩
 refine av hs rfl rfl fun a hs => ?_
 refine nl ?_
 have hsh := oi hsh
 subst hsh
 refine wp_ret ?_
 exact ret1 hs rfl (rv_tmp rfl) (hw.ret rfl)

abbrev compose_alike_fn1_rd (w0 : World) (X : List Nat) (r : Bool) : (Nat → Prop) → World → Value → Prop := fun S w v => v = .bool r
set_option maxHeartbeats 4000000 in
set_option maxRecDepth 100000 in
theorem compose_alike_fn1_ok {w0 : World} {S0 : Nat → Prop} {p2 : Option Addr} {k3 : Nat} {b6 : Nat} {p7 : Option Addr} {k8 : Nat} {r1 : Record} {x5 : (List Record)} {r : Bool} (hsh : compose_alike_fn1 r1 x5 = some r) (hS : ∀ b, S0 b → b < w0.heap.size) (h4 : (SlA p2 r1.Samples.length k3 r1.Samples).p S0 w0) (h9 : (CeA b6 0 [.slice p7 x5.length k8]).p S0 w0) (h10 : (SlA p7 x5.length k8 x5).p S0 w0) : Calls Tryz.prog 90 #[.agg #[.string r1.Source.Network, .string r1.Source.Station, .string r1.Source.Location, .string r1.Source.Channel, .int .i64 r1.Start, .int .i64 r1.First, .int .i64 r1.Rate.Num, .int .i64 r1.Rate.Den, .int .i64 r1.Error, .int .i64 r1.Run, .int .i64 r1.Seq, .slice p2 r1.Samples.length k3], .pointer (some ⟨b6, 0, none⟩)] w0 (Ret ([]) w0 S0 (compose_alike_fn1_rd w0 ([]) r)) := by
 refine calls_of_wp Tryz.func90 rfl ?_
 have hs := Sl.enter #[.agg #[.string r1.Source.Network, .string r1.Source.Station, .string r1.Source.Location, .string r1.Source.Channel, .int .i64 r1.Start, .int .i64 r1.First, .int .i64 r1.Rate.Num, .int .i64 r1.Rate.Den, .int .i64 r1.Error, .int .i64 r1.Run, .int .i64 r1.Seq, .slice p2 r1.Samples.length k3], .pointer (some ⟨b6, 0, none⟩)] 16 [(0, .agg #[.string r1.Source.Network, .string r1.Source.Station, .string r1.Source.Location, .string r1.Source.Channel, .int .i64 r1.Start, .int .i64 r1.First, .int .i64 r1.Rate.Num, .int .i64 r1.Rate.Den, .int .i64 r1.Error, .int .i64 r1.Run, .int .i64 r1.Seq, .slice p2 r1.Samples.length k3]), (1, .pointer (some ⟨b6, 0, none⟩))] rfl ⟨rfl, rfl, trivial⟩
 have hw := Wd.enter (E := []) hS (fun _ h => (by cases h))
 have hw := hw.addE h4
 have hw := hw.addE h9
 have hw := hw.addE h10
 delta compose_alike_fn1 at hsh
 refine sr ?_
 refine w_box (cs := [.string r1.Source.Network, .string r1.Source.Station, .string r1.Source.Location, .string r1.Source.Channel, .int .i64 r1.Start, .int .i64 r1.First, .int .i64 r1.Rate.Num, .int .i64 r1.Rate.Den, .int .i64 r1.Error, .int .i64 r1.Run, .int .i64 r1.Seq, .slice p2 r1.Samples.length k3]) hs hw rfl rfl rfl trivial ?_
 intro b11 a w hs hw
 refine av hs rfl rfl fun a hs => ?_
 refine nl ?_
 refine wp_seq ?_
 obtain ⟨rv13, h12, hsh⟩ := bind_t hsh
 obtain ⟨c31, hc31, hsh⟩ := bind_t hsh
 refine wp_only (fun a w => ∃ (Sv32 : Nat → Prop), Sl 16 [(3, .bool c31)] a ∧ Wd ⟨w0, S0, []⟩ Sv32 [] [] w) ?_ ?_
 ·rcases Bool.eq_false_or_eq_true (!rv13) with h33 | h33
  ·have h34 := ite_t hc31 h33
   refine h_b (C := Cls [.box b11 [.string r1.Source.Network, .string r1.Source.Station, .string r1.Source.Location, .string r1.Source.Channel, .int .i64 r1.Start, .int .i64 r1.First, .int .i64 r1.Rate.Num, .int .i64 r1.Rate.Den, .int .i64 r1.Error, .int .i64 r1.Run, .int .i64 r1.Seq, .slice p2 r1.Samples.length k3] 35] [CeA b6 0 [.slice p7 x5.length k8]]) (by kernel_rfl) rfl (hw.drew.cs [0] [1] rfl rfl) fun hC => ?_
   have hw := hw.drew
   refine gv hs 0 rfl rfl hC (fun w hC => y_loadBA (hC.ownAt 0 rfl) rfl Tryz.isAgg35 Tryz.sizeOf35 rfl rfl) fun a hs => ?_
   refine ho 1 rfl ?_
   refine st_callR hs (record_Valid_ok h12 hw.bdom (hw.bE 2 rfl)) (do_call Tryz.call91 rfl) trivial rfl rfl ?_
   intro v38 Sv35 w a h36 h37 hs
   subst h37
   have hw := hw.callB h36
   refine h_nx (hw.cs [0] [1] rfl rfl) fun hC => ?_
   refine gv hs 2 rfl rfl hC (fun w hC => y_not rfl) fun a hs => ?_
   refine gm hs 3 rfl rfl rfl hC fun a hs => ?_
   have hs := hs.fix 7 (.bool true) rfl (vb h33)
   refine gs hs 4 rfl rfl rfl rfl hC fun a hs => ?_
   refine gs hs 5 rfl rfl rfl rfl hC fun a hs => ?_
   refine gs hs 6 rfl rfl rfl rfl hC fun a hs => ?_
   refine gs hs 7 rfl rfl rfl rfl hC fun a hs => ?_
   refine gs hs 8 rfl rfl rfl rfl hC fun a hs => ?_
   refine gs hs 9 rfl rfl rfl rfl hC fun a hs => ?_
   refine gs hs 10 rfl rfl rfl rfl hC fun a hs => ?_
   refine gv hs 11 rfl rfl hC (fun w hC => y_pickTE (v := .bool c31) rfl rfl (vbs h34)) fun a hs => ?_
   refine gv hs 12 rfl rfl hC (fun w hC => y_assign rfl) fun a hs => ?_
   refine h_done (by kernel_rfl) ?_
   exact ⟨S0, (hs.wk rfl), (hw.ft [] [] (by decide) rfl rfl)⟩
  have h40 := ite_f hc31 h33
  obtain ⟨x43, h41, h40⟩ := bind_t h40
  obtain ⟨b49, o50, q47, c48, h51, h44, h45, h46, h42⟩ := hw.elemV 0 rfl h41
  have hsv52 := hs
  have hwv53 := hw
  subst h51
  have hs := hsv52
  have hw := hwv53
  obtain ⟨_, _, _, _, _, _, _, _, _, _, _, _, rfl, rfl, rfl, rfl, rfl, rfl, rfl, rfl, rfl, rfl, rfl, rfl, ⟨p54, n55, k56, rfl, h57⟩⟩ := h42
  obtain rfl := h57.1
  have hw := hw.addE (e := SlA p54 _ k56 x43.Samples) h57
  have hw := hw.addE h46
  refine h_b (C := Cls [.box b11 [.string r1.Source.Network, .string r1.Source.Station, .string r1.Source.Location, .string r1.Source.Channel, .int .i64 r1.Start, .int .i64 r1.First, .int .i64 r1.Rate.Num, .int .i64 r1.Rate.Den, .int .i64 r1.Error, .int .i64 r1.Run, .int .i64 r1.Seq, .slice p2 r1.Samples.length k3] 35] [CeA b49 q47 [.string x43.Source.Network, .string x43.Source.Station, .string x43.Source.Location, .string x43.Source.Channel, .int .i64 x43.Start, .int .i64 x43.First, .int .i64 x43.Rate.Num, .int .i64 x43.Rate.Den, .int .i64 x43.Error, .int .i64 x43.Run, .int .i64 x43.Seq, .slice p54 x43.Samples.length k56], CeA b6 0 [.slice (some ⟨b49, o50, none⟩) x5.length k8]]) (by kernel_rfl) rfl (hw.drew.cs [0] [0, 3] rfl rfl) fun hC => ?_
  have hw := hw.drew
  refine gv hs 0 rfl rfl hC (fun w hC => y_loadBA (hC.ownAt 0 rfl) rfl Tryz.isAgg35 Tryz.sizeOf35 rfl rfl) fun a hs => ?_
  refine ho 1 rfl ?_
  refine st_callR hs (record_Valid_ok h12 hw.bdom (hw.bE 4 rfl)) (do_call Tryz.call91 rfl) trivial rfl rfl ?_
  intro v61 Sv58 w a h59 h60 hs
  subst h60
  have hw := hw.callB h59
  refine h_nx (hw.cs [0] [0, 3] rfl rfl) fun hC => ?_
  refine gv hs 2 rfl rfl hC (fun w hC => y_not rfl) fun a hs => ?_
  refine gm hs 3 rfl rfl rfl hC fun a hs => ?_
  have hs := hs.fix 7 (.bool false) rfl (vb h33)
  refine gt hs 4 rfl ⟨_, rfl, rfl⟩ rfl hC (fun w hC => y_fieldAddr (o' := 0) Tryz.runUnderlying35 rfl Tryz.sizeOf31 rfl rfl rfl) fun a hs => ?_
  refine gt hs 5 rfl ⟨_, rfl, rfl⟩ rfl hC (fun w hC => y_loadBA (hC.ownAt 0 rfl) rfl Tryz.isAgg31 Tryz.sizeOf31 rfl rfl) fun a hs => ?_
  refine gt hs 6 rfl ⟨_, rfl, rfl⟩ rfl hC (fun w hC => y_loadE1 (j := 0) (hC.ceAt 1 rfl) rfl Tryz.isAgg27 rfl) fun a hs => ?_
  refine gt hs 7 rfl ⟨_, rfl, rfl⟩ rfl hC (fun w hC => y_indexAt Tryz.runUnderlying27 Tryz.sizeOf35 rfl rfl h44.1 h44.2 h45) fun a hs => ?_
  refine gt hs 8 rfl ⟨_, rfl, rfl⟩ rfl hC (fun w hC => y_fieldAddr (o' := q47 + 0) Tryz.runUnderlying35 rfl Tryz.sizeOf31 rfl rfl rfl) fun a hs => ?_
  refine gt hs 9 rfl ⟨_, rfl, rfl⟩ rfl hC (fun w hC => y_loadEA (j := 0) (hC.ceAt 0 rfl) rfl Tryz.isAgg31 Tryz.sizeOf31 rfl rfl) fun a hs => ?_
  refine gt hs 10 rfl ⟨_, rfl, rfl⟩ rfl hC (fun w hC => y_neqA (by kernel_rfl) rfl rfl (eqv_struct Tryz.runUnderlying31 (by kernel_rfl) (EqF.cons1 rfl Tryz.isAgg9 rfl rfl (eqv_str Tryz.runUnderlying9) (EqF.cons1 rfl Tryz.isAgg9 rfl rfl (eqv_str Tryz.runUnderlying9) (EqF.cons1 rfl Tryz.isAgg9 rfl rfl (eqv_str Tryz.runUnderlying9) (EqF.cons1 rfl Tryz.isAgg9 rfl rfl (eqv_str Tryz.runUnderlying9) EqF.nil)))))) fun a hs => ?_
  refine gv hs 11 rfl rfl hC (fun w hC => y_pickFE (v := .bool c31) rfl rfl (vbs h40)) fun a hs => ?_
  refine gv hs 12 rfl rfl hC (fun w hC => y_assign rfl) fun a hs => ?_
  refine h_done (by kernel_rfl) ?_
  exact ⟨S0, (hs.wk rfl), (hw.ft [] [] (by decide) rfl rfl)⟩
 rintro a w ⟨Sv32, hs, hw⟩
 refine then_normal ?_
 have hsh := oi hsh
 subst hsh
 refine wp_ret ?_
 exact ret1 hs rfl (rv_tmp rfl) (hw.ret rfl)

theorem compose_alike_fn1_fn {S0 : Nat → Prop} {w0 : World} {b6 : Nat} {p7 : Option Addr} {k8 : Nat} {x5 : (List Record)} (h9 : (CeA b6 0 [.slice p7 x5.length k8]).p S0 w0) (h10 : (SlA p7 x5.length k8 x5).p S0 w0) : (FnA1 Tryz.prog 90 [] [.pointer (some ⟨b6, 0, none⟩)] (fun y0 => compose_alike_fn1 y0 x5)).p S0 w0 := by
  refine ⟨Tryz.call90, ?_⟩
  intro S1 w1 hk hS c0 x0 r1 h0 hf
  obtain ⟨_, _, _, _, _, _, _, _, _, _, _, _, rfl, rfl, rfl, rfl, rfl, rfl, rfl, rfl, rfl, rfl, rfl, rfl, ⟨_, _, _, rfl, e0⟩⟩ := h0
  obtain rfl := e0.1
  exact compose_alike_fn1_ok hf hS e0 (Asrt.mono _ hk h9) (Asrt.mono _ hk h10)

abbrev compose_alike_rd (w0 : World) (X : List Nat) (r : Bool) : (Nat → Prop) → World → Value → Prop := fun S w v => v = .bool r
set_option maxHeartbeats 4000000 in
set_option maxRecDepth 100000 in
theorem compose_alike_ok {w0 : World} {S0 : Nat → Prop} {p2 : Option Addr} {k3 : Nat} {l1 : (List Record)} {r : Bool} (hsh : compose_alike l1 = some r) (hS : ∀ b, S0 b → b < w0.heap.size) (h4 : (SlA p2 l1.length k3 l1).p S0 w0) : Calls Tryz.prog 61 #[.slice p2 l1.length k3] w0 (Ret ([]) w0 S0 (compose_alike_rd w0 ([]) r)) := by
 refine calls_of_wp Tryz.func61 rfl ?_
 have hs := Sl.enter #[.slice p2 l1.length k3] 7 [(0, .slice p2 l1.length k3)] rfl ⟨rfl, trivial⟩
 have hw := Wd.enter (E := []) hS (fun _ h => (by cases h))
 have hw := hw.addE h4
 delta compose_alike at hsh
 refine sr ?_
 refine w_box (cs := [.slice p2 l1.length k3]) hs hw rfl rfl rfl trivial ?_
 intro b5 a w hs hw
 refine av hs rfl rfl fun a hs => ?_
 refine nl ?_
 refine sr ?_
 refine sv hs (y_loadB1 (hw.ownAt 0 rfl) rfl Tryz.isAgg27 rfl) rfl fun a hs => ?_
 refine sv hs (y_makeFunc (vs := #[]) (us := #[.pointer (some ⟨b5, 0, none⟩)]) rfl rfl) rfl fun a hs => ?_
 obtain ⟨rv7, h6, hsh⟩ := bind_t hsh
 refine st_callR hs (slices_ContainsFunc_Lapi_Record_api_Record_ok h6 hw.bdom (hw.bE 0 rfl) (compose_alike_fn1_fn (hw.bBox 0 rfl) (hw.bE 0 rfl))) (do_call Tryz.call89 rfl) trivial rfl rfl ?_
 intro v11 Sv8 w a h9 h10 hs
 subst h10
 have hw := hw.callB h9
 refine sv hs (y_not rfl) rfl fun a hs => ?_
 refine av hs rfl rfl fun a hs => ?_
 refine nl ?_
 have hsh := oi hsh
 subst hsh
 refine wp_ret ?_
 exact ret1 hs rfl (rv_tmp rfl) (hw.ret rfl)

abbrev compose_Valid_rd (w0 : World) (X : List Nat) (r : Bool) : (Nat → Prop) → World → Value → Prop := fun S w v => v = .bool r
set_option maxHeartbeats 4000000 in
set_option maxRecDepth 100000 in
theorem compose_Valid_ok {w0 : World} {S0 : Nat → Prop} {p2 : Option Addr} {k3 : Nat} {l1 : (List Record)} {r : Bool} (hsh : compose_Valid l1 = some r) (hS : ∀ b, S0 b → b < w0.heap.size) (h4 : (SlA p2 l1.length k3 l1).p S0 w0) : Calls Tryz.prog 41 #[.slice p2 l1.length k3] w0 (Ret ([]) w0 S0 (compose_Valid_rd w0 ([]) r)) := by
 refine calls_of_wp Tryz.func41 rfl ?_
 have hs := Sl.enter #[.slice p2 l1.length k3] 10 [(0, .slice p2 l1.length k3)] rfl ⟨rfl, trivial⟩
 have hw := Wd.enter (E := []) hS (fun _ h => (by cases h))
 have hw := hw.addE h4
 delta compose_Valid at hsh
 refine sr ?_
 refine av hs rfl rfl fun a hs => ?_
 refine nl ?_
 refine sr ?_
 refine mv hs rfl rfl fun a hs => ?_
 refine sv hs (y_len Tryz.runUnderlying27 rfl) rfl fun a hs => ?_
 refine sv hs (y_leq rfl rfl) rfl fun a hs => ?_
 refine mv hs rfl rfl fun a hs => ?_
 obtain ⟨c13, hc13, hsh⟩ := bind_t hsh
 refine wpl_join 3 (fun a w => ∃ (Sv14 : Nat → Prop), Sl 10 [(9, .bool c13)] a ∧ Wd ⟨w0, S0, []⟩ Sv14 [] [] w) ?_ ?_
 ·rcases Bool.eq_false_or_eq_true (decide ((l1.length : Int) ≤ 256)) with h12 | h12
  ·have hs := hs.fix 6 (.bool true) rfl (vb h12)
   have hsh := ite_t hc13 h12
   refine st_val hs (y_move rfl) ⟨_, rfl, rfl⟩ rfl rfl fun a hs => ?_
   obtain ⟨rv16, h15, hsh⟩ := bind_t hsh
   refine st_callR hs (compose_alike_ok h15 hw.bdom (hw.bE 0 rfl)) (do_call Tryz.call61 rfl) ⟨_, rfl, rfl⟩ rfl rfl ?_
   intro v20 Sv17 w a h18 h19 hs
   subst h19
   have hw := hw.callB h18
   refine sv hs (y_pickT rfl rfl) rfl fun a hs => ?_
   refine wpList_nil ?_
   have hsh := oi hsh
   subst hsh
   refine then_normal ?_
   exact ⟨S0, (hs.wk rfl), (hw.ft [] [] (by decide) rfl rfl)⟩
  have hs := hs.fix 6 (.bool false) rfl (vb h12)
  have hsh := ite_f hc13 h12
  refine st_skip hs rfl rfl rfl rfl rfl fun a hs => ?_
  refine st_skip hs rfl rfl rfl rfl rfl fun a hs => ?_
  refine sv hs (y_pickF rfl rfl) rfl fun a hs => ?_
  refine wpList_nil ?_
  have hsh := oi hsh
  subst hsh
  refine then_normal ?_
  exact ⟨S0, (hs.wk rfl), (hw.ft [] [] (by decide) rfl rfl)⟩
 rintro a w ⟨Sv14, hs, hw⟩
 refine av hs rfl rfl fun a hs => ?_
 refine nl ?_
 have hsh := oi hsh
 subst hsh
 refine wp_ret ?_
 exact ret1 hs rfl (rv_tmp rfl) (hw.ret rfl)

abbrev slices_Clone_Lapi_Record_api_Record_rd (w0 : World) (X : List Nat) (r : (List Record)) : (Nat → Prop) → World → Value → Prop := fun S w v => ∃ (p0_0 : Option Addr) (k0_0 : Nat) (c0_0 : List Value), v = .slice p0_0 r.length k0_0 ∧ Outs X w0 S w [.row p0_0 r.length k0_0 c0_0 35 12] ∧ (RowA c0_0 r).p S w
set_option maxHeartbeats 4000000 in
set_option maxRecDepth 100000 in
theorem slices_Clone_Lapi_Record_api_Record_ok {w0 : World} {S0 : Nat → Prop} {p2 : Option Addr} {k3 : Nat} {s1 : (List Record)} {r : (List Record)} (hsh : slices_Clone_Lapi_Record_api_Record s1 = some r) (hS : ∀ b, S0 b → b < w0.heap.size) (h4 : (SlA p2 s1.length k3 s1).p S0 w0) : Calls Tryz.prog 92 #[.slice p2 s1.length k3] w0 (Ret ([]) w0 S0 (slices_Clone_Lapi_Record_api_Record_rd w0 ([]) r)) := by
 refine calls_of_wp Tryz.func92 rfl ?_
 have hs := Sl.enter #[.slice p2 s1.length k3] 8 [(0, .slice p2 s1.length k3)] rfl ⟨rfl, trivial⟩
 have hw := Wd.enter (E := []) hS (fun _ h => (by cases h))
 have hw := hw.addE h4
 delta slices_Clone_Lapi_Record_api_Record at hsh
 refine sr ?_
 refine av hs rfl rfl fun a hs => ?_
 refine nl ?_
 refine wp_seq ?_
 refine sr ?_
 refine mv hs rfl rfl fun a hs => ?_
 refine sv hs (y_eqlN Tryz.runUnderlying27 rfl rfl) rfl fun a hs => ?_
 refine nl ?_
 have hsv15 := hs
 have hwv16 := hw
 rcases p2 with _ | av8
 ·have hs := hsv15
  have hw := hwv16
  obtain rfl := slnil (hw.envAt 0 rfl)
  have hsh : some ([] : List Record) = some r := by simpa [appM, maxLen] using hsh
  refine wp_cond_true (hs.ev rfl) ?_
  refine sr ?_
  refine av hs rfl rfl fun a hs => ?_
  refine nl ?_
  have hsh := oi hsh
  subst hsh
  have hw := hw.nilRow Record 35
  refine wp_ret ?_
  refine then_ret ?_
  exact ret1 hs rfl (rv_tmp rfl) (hw.ret ⟨none, 0, [], rfl, (hw.outs [0] (by decide) rfl), (hw.envAt 0 rfl)⟩)
 have hs := hsv15
 have hw := hwv16
 refine wp_cond_false (hs.ev rfl) ?_
 refine wp_skip ?_
 refine then_normal ?_
 refine sr ?_
 refine w_buildSlice (α := Record) (vs := []) (cs := []) (xs := ([] : List Record)) hs hw El27 rfl rfl rfl rfl rfl rfl rfl rfl trivial fun p9 a w hs hw => ?_
 refine mv hs rfl rfl fun a hs => ?_
 obtain ⟨l11, h10, hsh⟩ := bind_t hsh
 refine w_appendE (α := Record) hs hw El27 0 rfl rfl rfl 0 rfl 1 rfl h10 rfl trivial ?_
 intro p12 k13 c14 a w hs hw
 refine av hs rfl rfl fun a hs => ?_
 refine nl ?_
 have hsh := oi hsh
 subst hsh
 refine wp_ret ?_
 exact ret1 hs rfl (rv_tmp rfl) (hw.ret ⟨p12, k13, c14, rfl, (hw.outs [0] (by decide) rfl), (hw.envAt 0 rfl)⟩)

abbrev slices_Clone_Lint_int_rd (w0 : World) (X : List Nat) (r : (List Int)) : (Nat → Prop) → World → Value → Prop := fun S w v => ∃ (p0_0 : Option Addr) (k0_0 : Nat) (c0_0 : List Value), v = .slice p0_0 r.length k0_0 ∧ Outs X w0 S w [.row p0_0 r.length k0_0 c0_0 3 1] ∧ (RowA c0_0 r).p S w
set_option maxHeartbeats 4000000 in
set_option maxRecDepth 100000 in
theorem slices_Clone_Lint_int_ok {w0 : World} {S0 : Nat → Prop} {p2 : Option Addr} {k3 : Nat} {s1 : (List Int)} {r : (List Int)} (hsh : slices_Clone_Lint_int s1 = some r) (hS : ∀ b, S0 b → b < w0.heap.size) (h4 : (SlA p2 s1.length k3 s1).p S0 w0) : Calls Tryz.prog 93 #[.slice p2 s1.length k3] w0 (Ret ([]) w0 S0 (slices_Clone_Lint_int_rd w0 ([]) r)) := by
 refine calls_of_wp Tryz.func93 rfl ?_
 have hs := Sl.enter #[.slice p2 s1.length k3] 8 [(0, .slice p2 s1.length k3)] rfl ⟨rfl, trivial⟩
 have hw := Wd.enter (E := []) hS (fun _ h => (by cases h))
 have hw := hw.addE h4
 delta slices_Clone_Lint_int at hsh
 refine sr ?_
 refine av hs rfl rfl fun a hs => ?_
 refine nl ?_
 refine wp_seq ?_
 refine sr ?_
 refine mv hs rfl rfl fun a hs => ?_
 refine sv hs (y_eqlN Tryz.runUnderlying22 rfl rfl) rfl fun a hs => ?_
 refine nl ?_
 have hsv15 := hs
 have hwv16 := hw
 rcases p2 with _ | av8
 ·have hs := hsv15
  have hw := hwv16
  obtain rfl := slnil (hw.envAt 0 rfl)
  have hsh : some ([] : List Int) = some r := by simpa [appM, maxLen] using hsh
  refine wp_cond_true (hs.ev rfl) ?_
  refine sr ?_
  refine av hs rfl rfl fun a hs => ?_
  refine nl ?_
  have hsh := oi hsh
  subst hsh
  have hw := hw.nilRow Int 3
  refine wp_ret ?_
  refine then_ret ?_
  exact ret1 hs rfl (rv_tmp rfl) (hw.ret ⟨none, 0, [], rfl, (hw.outs [0] (by decide) rfl), (hw.envAt 0 rfl)⟩)
 have hs := hsv15
 have hw := hwv16
 refine wp_cond_false (hs.ev rfl) ?_
 refine wp_skip ?_
 refine then_normal ?_
 refine sr ?_
 refine w_buildSlice (α := Int) (vs := []) (cs := []) (xs := ([] : List Int)) hs hw El22 rfl rfl rfl rfl rfl rfl rfl rfl trivial fun p9 a w hs hw => ?_
 refine mv hs rfl rfl fun a hs => ?_
 obtain ⟨l11, h10, hsh⟩ := bind_t hsh
 refine w_appendE (α := Int) hs hw El22 0 rfl rfl rfl 0 rfl 1 rfl h10 rfl trivial ?_
 intro p12 k13 c14 a w hs hw
 refine av hs rfl rfl fun a hs => ?_
 refine nl ?_
 have hsh := oi hsh
 subst hsh
 refine wp_ret ?_
 exact ret1 hs rfl (rv_tmp rfl) (hw.ret ⟨p12, k13, c14, rfl, (hw.outs [0] (by decide) rfl), (hw.envAt 0 rfl)⟩)

end Go.Proofs.YthdimlepjpnncaaGreat.Wk
namespace Go.Proofs
open Go Go.Shelf Go.RowKit Go.Lib Go.Sort
def Tryz.sort74_ren : Go.Shelf.Ren := ⟨fun | 6 => 74 | 15 => 102 | 14 => 101 | 28 => 129 | 29 => 130 | 20 => 121 | 21 => 122 | 22 => 123 | 23 => 124 | 24 => 125 | 25 => 126 | 26 => 127 | 27 => 128 | 46 => 145 | 47 => 146 | 48 => 147 | 49 => 148 | 50 => 149 | 57 => 155 | n => n, fun | 22 => 27 | 24 => 35 | 25 => 43 | 3 => 3 | 39 => 121 | 0 => 0 | 53 => 140 | 55 => 142 | 4 => 4 | 46 => 134 | 45 => 133 | 50 => 50 | 5 => 5 | 9 => 9 | 66 => 150 | 70 => 154 | 76 => 160 | 77 => 161 | n => n, fun | n => n⟩
theorem Tryz.sort74 : Go.Proofs.SlLaysF0.n6 Tryz.prog Tryz.sort74_ren where
  mixed := by kernel_rfl
  f6 := ⟨Tryz.f74.name, by decide, Tryz.func74.trans (congrArg some (by kernel_rfl))⟩
  f14 := ⟨Tryz.f101.name, by decide, Tryz.func101.trans (congrArg some (by kernel_rfl))⟩
  f15 := Tryz.func102.trans (congrArg some (by kernel_rfl))
  f20 := ⟨Tryz.f121.name, by decide, Tryz.func121.trans (congrArg some (by kernel_rfl))⟩
  f21 := ⟨Tryz.f122.name, by decide, Tryz.func122.trans (congrArg some (by kernel_rfl))⟩
  f22 := ⟨Tryz.f123.name, by decide, Tryz.func123.trans (congrArg some (by kernel_rfl))⟩
  f23 := ⟨Tryz.f124.name, by decide, Tryz.func124.trans (congrArg some (by kernel_rfl))⟩
  f24 := ⟨Tryz.f125.name, by decide, Tryz.func125.trans (congrArg some (by kernel_rfl))⟩
  f25 := ⟨Tryz.f126.name, by decide, Tryz.func126.trans (congrArg some (by kernel_rfl))⟩
  f26 := ⟨Tryz.f127.name, by decide, Tryz.func127.trans (congrArg some (by kernel_rfl))⟩
  f27 := ⟨Tryz.f128.name, by decide, Tryz.func128.trans (congrArg some (by kernel_rfl))⟩
  f28 := Tryz.func129.trans (congrArg some (by kernel_rfl))
  f29 := Tryz.func130.trans (congrArg some (by kernel_rfl))
  f46 := ⟨Tryz.f145.name, by decide, Tryz.func145.trans (congrArg some (by kernel_rfl))⟩
  f47 := Tryz.func146.trans (congrArg some (by kernel_rfl))
  f48 := Tryz.func147.trans (congrArg some (by kernel_rfl))
  f49 := ⟨Tryz.f148.name, by decide, Tryz.func148.trans (congrArg some (by kernel_rfl))⟩
  f50 := ⟨Tryz.f149.name, by decide, Tryz.func149.trans (congrArg some (by kernel_rfl))⟩
  f57 := ⟨Tryz.f155.name, by decide, Tryz.func155.trans (congrArg some (by kernel_rfl))⟩
  t0 := Tryz.underlying0
  a0 := Tryz.isAgg0
  z0 := Tryz.sizeOf0
  v0 := Tryz.zeroValue0
  t3 := Tryz.underlying3
  a3 := Tryz.isAgg3
  z3 := Tryz.sizeOf3
  v3 := Tryz.zeroValue3
  t4 := Tryz.underlying4
  a4 := Tryz.isAgg4
  z4 := Tryz.sizeOf4
  v4 := Tryz.zeroValue4
  t5 := Tryz.underlying5
  a5 := Tryz.isAgg5
  z5 := Tryz.sizeOf5
  v5 := Tryz.zeroValue5
  t9 := Tryz.underlying9
  a9 := Tryz.isAgg9
  z9 := Tryz.sizeOf9
  v9 := Tryz.zeroValue9
  t22 := Tryz.underlying27
  a22 := Tryz.isAgg27
  z22 := Tryz.sizeOf27
  v22 := Tryz.zeroValue27
  t25 := Tryz.underlying43
  a25 := Tryz.isAgg43
  z25 := Tryz.sizeOf43
  v25 := Tryz.zeroValue43
  t39 := Tryz.underlying121
  a39 := Tryz.isAgg121
  z39 := Tryz.sizeOf121
  v39 := Tryz.zeroValue121
  t45 := Tryz.underlying133
  a45 := Tryz.isAgg133
  z45 := Tryz.sizeOf133
  v45 := Tryz.zeroValue133
  t46 := Tryz.underlying134
  a46 := Tryz.isAgg134
  z46 := Tryz.sizeOf134
  v46 := Tryz.zeroValue134
  t50 := Tryz.underlying50
  a50 := Tryz.isAgg50
  z50 := Tryz.sizeOf50
  v50 := Tryz.zeroValue50
  t53 := Tryz.underlying140
  a53 := Tryz.isAgg140
  z53 := Tryz.sizeOf140
  v53 := Tryz.zeroValue140
  t55 := Tryz.underlying142
  a55 := Tryz.isAgg142
  z55 := Tryz.sizeOf142
  v55 := Tryz.zeroValue142
  t66 := Tryz.underlying150
  a66 := Tryz.isAgg150
  z66 := Tryz.sizeOf150
  v66 := Tryz.zeroValue150
  t70 := Tryz.underlying154
  a70 := Tryz.isAgg154
  z70 := Tryz.sizeOf154
  v70 := Tryz.zeroValue154
  t76 := Tryz.underlying160
  a76 := Tryz.isAgg160
  z76 := Tryz.sizeOf160
  v76 := Tryz.zeroValue160
  t77 := Tryz.underlying161
  a77 := Tryz.isAgg161
  z77 := Tryz.sizeOf161
  v77 := Tryz.zeroValue161
end Go.Proofs
namespace Go.Proofs.YthdimlepjpnncaaGreat.Wk
open Go Go.RowKit Go.Proofs Go.Proofs.YthdimlepjpnncaaGreat.Sh
set_option linter.unusedVariables false
set_option linter.unusedSimpArgs false
abbrev slices_SortFunc_Lapi_Record_api_Record_rd (w0 : World) (X : List Nat) (p2 : Option Addr) (k3 : Nat) (x1 : (List Record)) (r : (List Record)) : (Nat → Prop) → World → Value → Prop := fun S w v => ∃ (ck_0 : List Value), v = .tuple #[] ∧ Outs X w0 S w [.row p2 r.length k3 ck_0 35 12] ∧ (RowA ck_0 r).p S w ∧ (LenA x1.length r).p S w
set_option maxHeartbeats 4000000 in
set_option maxRecDepth 100000 in
theorem slices_SortFunc_Lapi_Record_api_Record_ok {w0 : World} {S0 : Nat → Prop} {p2 : Option Addr} {k3 : Nat} {c4 : List Value} {g7 : Nat} {cp9 : List Value} {x1 : (List Record)} {cmp6 : Record → Record → Option Int} {r : (List Record)} (hsh : slices_SortFunc_Lapi_Record_api_Record x1 cmp6 = some r) (hS : ∀ b, S0 b → b < w0.heap.size) (hin : Ins S0 w0 [.row p2 x1.length k3 c4 35 12]) (h5 : (RowA c4 x1).p S0 w0) (h10 : (FnA2 Tryz.prog g7 [] cp9 cmp6).p S0 w0) : Calls Tryz.prog 74 #[.slice p2 x1.length k3, .func (.func g7) #[] cp9.toArray] w0 (Ret (blks [.row p2 x1.length k3 c4 35 12]) w0 S0 (slices_SortFunc_Lapi_Record_api_Record_rd w0 (blks [.row p2 x1.length k3 c4 35 12]) p2 k3 x1 r)) := by
 exact sort_tot (α := Record) (T := 35) Tryz.sort74 Tryz.isAgg35 Tryz.sizeOf35 (fun _ => rfl) (by decide) hsh hS hin h5 h10

abbrev cmp_isNaN_string_rd (w0 : World) (X : List Nat) (r : Bool) : (Nat → Prop) → World → Value → Prop := fun S w v => v = .bool r
set_option maxHeartbeats 4000000 in
set_option maxRecDepth 100000 in
theorem cmp_isNaN_string_ok {w0 : World} {S0 : Nat → Prop} {x1 : ByteArray} {r : Bool} (hsh : cmp_isNaN_string x1 = some r) (hS : ∀ b, S0 b → b < w0.heap.size) : Calls Tryz.prog 150 #[.string x1] w0 (Ret ([]) w0 S0 (cmp_isNaN_string_rd w0 ([]) r)) := by
 refine calls_of_wp Tryz.func150 rfl ?_
 have hs := Sl.enter #[.string x1] 6 [(0, .string x1)] rfl ⟨rfl, trivial⟩
 have hw := Wd.enter (E := []) hS (fun _ h => (by cases h))
 delta cmp_isNaN_string at hsh
 refine sr ?_
 refine av hs rfl rfl fun a hs => ?_
 refine nl ?_
 refine sr ?_
 refine mv hs rfl rfl fun a hs => ?_
 refine mv hs rfl rfl fun a hs => ?_
 refine sv hs (y_neqS rfl rfl) rfl fun a hs => ?_
 refine av hs rfl rfl fun a hs => ?_
 refine nl ?_
 have hsh := oi hsh
 subst hsh
 refine wp_ret ?_
 exact ret1 hs rfl (rv_tmp rfl) (hw.ret rfl)

abbrev cmp_Compare_string_rd (w0 : World) (X : List Nat) (r : Int) : (Nat → Prop) → World → Value → Prop := fun S w v => v = .int .i64 r
set_option maxHeartbeats 4000000 in
set_option maxRecDepth 100000 in
theorem cmp_Compare_string_ok {w0 : World} {S0 : Nat → Prop} {x1 : ByteArray} {y2 : ByteArray} {r : Int} (hsh : cmp_Compare_string x1 y2 = some r) (hS : ∀ b, S0 b → b < w0.heap.size) : Calls Tryz.prog 131 #[.string x1, .string y2] w0 (Ret ([]) w0 S0 (cmp_Compare_string_rd w0 ([]) r)) := by
 refine calls_of_wp Tryz.func131 rfl ?_
 have hs := Sl.enter #[.string x1, .string y2] 20 [(0, .string x1), (1, .string y2)] rfl ⟨rfl, rfl, trivial⟩
 have hw := Wd.enter (E := []) hS (fun _ h => (by cases h))
 delta cmp_Compare_string at hsh
 refine sr ?_
 refine av hs rfl rfl fun a hs => ?_
 refine nl ?_
 refine sr ?_
 refine mv hs rfl rfl fun a hs => ?_
 obtain ⟨rv4, h3, hsh⟩ := bind_t hsh
 refine st_callR hs (cmp_isNaN_string_ok h3 hw.bdom) (do_call Tryz.call150 rfl) trivial rfl rfl ?_
 intro v8 Sv5 w a h6 h7 hs
 subst h7
 have hw := hw.callB h6
 refine av hs rfl rfl fun a hs => ?_
 refine nl ?_
 refine sr ?_
 refine mv hs rfl rfl fun a hs => ?_
 obtain ⟨rv11, h10, hsh⟩ := bind_t hsh
 refine st_callR hs (cmp_isNaN_string_ok h10 hw.bdom) (do_call Tryz.call150 rfl) trivial rfl rfl ?_
 intro v15 Sv12 w a h13 h14 hs
 subst h14
 have hw := hw.callB h13
 refine av hs rfl rfl fun a hs => ?_
 refine nl ?_
 refine wp_seq ?_
 refine sr ?_
 refine mv hs rfl rfl fun a hs => ?_
 refine nl ?_
 refine wp_cond_split (hs.ev rfl) (fun h19 => ?_) (fun h19 => ?_)
 ·have hsh := ite_t hsh h19
  refine wp_seq ?_
  refine sr ?_
  refine mv hs rfl rfl fun a hs => ?_
  refine nl ?_
  refine wp_cond_split (hs.ev rfl) (fun h21 => ?_) (fun h21 => ?_)
  ·have hsh := ite_t hsh h21
   refine sr ?_
   refine av hs rfl rfl fun a hs => ?_
   refine nl ?_
   have hsh := oi hsh
   subst hsh
   refine wp_ret ?_
   refine then_ret ?_
   refine then_ret ?_
   exact ret1 hs rfl (rv_tmp rfl) (hw.ret rfl)
  have hsh := ite_f hsh h21
  refine wp_skip ?_
  refine then_normal ?_
  refine sr ?_
  refine av hs rfl rfl fun a hs => ?_
  refine nl ?_
  have hsh := oi hsh
  subst hsh
  refine wp_ret ?_
  refine then_ret ?_
  exact ret1 hs rfl (rv_tmp rfl) (hw.ret rfl)
 have hsh := ite_f hsh h19
 refine wp_skip ?_
 refine then_normal ?_
 refine wp_seq ?_
 refine sr ?_
 refine mv hs rfl rfl fun a hs => ?_
 refine nl ?_
 refine wp_cond_split (hs.ev rfl) (fun h23 => ?_) (fun h23 => ?_)
 ·have hsh := ite_t hsh h23
  refine sr ?_
  refine av hs rfl rfl fun a hs => ?_
  refine nl ?_
  have hsh := oi hsh
  subst hsh
  refine wp_ret ?_
  refine then_ret ?_
  exact ret1 hs rfl (rv_tmp rfl) (hw.ret rfl)
 have hsh := ite_f hsh h23
 refine wp_skip ?_
 refine then_normal ?_
 refine wp_seq ?_
 refine sr ?_
 refine mv hs rfl rfl fun a hs => ?_
 refine mv hs rfl rfl fun a hs => ?_
 refine sv hs (y_lssS rfl rfl) rfl fun a hs => ?_
 refine nl ?_
 refine wp_cond_split (hs.ev rfl) (fun h25 => ?_) (fun h25 => ?_)
 ·have hsh := ite_t hsh h25
  refine sr ?_
  refine av hs rfl rfl fun a hs => ?_
  refine nl ?_
  have hsh := oi hsh
  subst hsh
  refine wp_ret ?_
  refine then_ret ?_
  exact ret1 hs rfl (rv_tmp rfl) (hw.ret rfl)
 have hsh := ite_f hsh h25
 refine wp_skip ?_
 refine then_normal ?_
 refine wp_seq ?_
 refine sr ?_
 refine mv hs rfl rfl fun a hs => ?_
 refine mv hs rfl rfl fun a hs => ?_
 refine sv hs (y_gtrS rfl rfl) rfl fun a hs => ?_
 refine nl ?_
 refine wp_cond_split (hs.ev rfl) (fun h27 => ?_) (fun h27 => ?_)
 ·have hsh := ite_t hsh h27
  refine sr ?_
  refine av hs rfl rfl fun a hs => ?_
  refine nl ?_
  have hsh := oi hsh
  subst hsh
  refine wp_ret ?_
  refine then_ret ?_
  exact ret1 hs rfl (rv_tmp rfl) (hw.ret rfl)
 have hsh := ite_f hsh h27
 refine wp_skip ?_
 refine then_normal ?_
 refine sr ?_
 refine av hs rfl rfl fun a hs => ?_
 refine nl ?_
 have hsh := oi hsh
 subst hsh
 refine wp_ret ?_
 exact ret1 hs rfl (rv_tmp rfl) (hw.ret rfl)

abbrev cmp_Or_int_rd (w0 : World) (X : List Nat) (r : Int) : (Nat → Prop) → World → Value → Prop := fun S w v => v = .int .i64 r
set_option maxHeartbeats 4000000 in
set_option maxRecDepth 100000 in
theorem cmp_Or_int_ok {w0 : World} {S0 : Nat → Prop} {p2 : Option Addr} {k3 : Nat} {vals1 : (List Int)} {r : Int} (hsh : cmp_Or_int vals1 = some r) (hS : ∀ b, S0 b → b < w0.heap.size) (h4 : (SlA p2 vals1.length k3 vals1).p S0 w0) : Calls Tryz.prog 99 #[.slice p2 vals1.length k3] w0 (Ret ([]) w0 S0 (cmp_Or_int_rd w0 ([]) r)) := by
 refine calls_of_wp Tryz.func99 rfl ?_
 have hs := Sl.enter #[.slice p2 vals1.length k3] 18 [(0, .slice p2 vals1.length k3)] rfl ⟨rfl, trivial⟩
 have hw := Wd.enter (E := []) hS (fun _ h => (by cases h))
 have hw := hw.addE h4
 delta cmp_Or_int at hsh
 refine sr ?_
 refine av hs rfl rfl fun a hs => ?_
 refine nl ?_
 refine sr ?_
 refine av hs rfl rfl fun a hs => ?_
 refine nl ?_
 refine wp_seq ?_
 refine sr ?_
 refine mv hs rfl rfl fun a hs => ?_
 refine sv hs (y_len Tryz.runUnderlying22 rfl) rfl fun a hs => ?_
 refine mv hs rfl rfl fun a hs => ?_
 refine nl ?_
 refine wp_block ?_
 refine wp_while (fun sv55 a w => ∃ (Sv87 : Nat → Prop), Sl 18 [(3, .int .i64 0), (6, .slice p2 vals1.length k3), (7, .int .i64 (vals1.length : Int)), (8, .int .i64 sv55)] a ∧ Wd ⟨w0, S0, []⟩ Sv87 [] [SlA p2 vals1.length k3 vals1] w) 0 hsh ⟨S0, (hs.wk rfl), (hw.ft [] [0] (by decide) rfl rfl)⟩ ?_
 repeat clear hsh
 rintro sv55 a w tv104 ⟨Sv87, hs, hw⟩ hsh hd103
 delta cmp_Or_int_l2 at hsh
 refine sr ?_
 refine sv hs (y_lss rfl rfl) rfl fun a hs => ?_
 refine nl ?_
 refine wp_seq ?_
 refine wp_cond_split (hs.ev rfl) (fun h108 => ?_) (fun h108 => ?_)
 ·have hsh := ite_t hsh h108
  refine wp_skip ?_
  refine then_normal ?_
  refine wp_seq ?_
  refine wp_block ?_
  refine sr ?_
  obtain ⟨x125, h123, hsh⟩ := bind_t hsh
  obtain ⟨b131, o132, q129, c130, h133, h126, h127, h128, h124⟩ := hw.elemV 0 rfl h123
  have hsv134 := hs
  have hwv135 := hw
  subst h133
  have hs := hsv134
  have hw := hwv135
  obtain ⟨_, rfl, rfl⟩ := h124
  have hw := hw.addE h128
  refine sv hs (y_indexAt Tryz.runUnderlying22 Tryz.sizeOf3 rfl rfl h126.1 h126.2 h127) rfl fun a hs => ?_
  refine sv hs (y_loadE1 (j := 0) (hw.ceAt 0 rfl) rfl Tryz.isAgg3 rfl) rfl fun a hs => ?_
  refine av hs rfl rfl fun a hs => ?_
  refine nl ?_
  refine sr ?_
  refine mv hs rfl rfl fun a hs => ?_
  refine mv hs rfl rfl fun a hs => ?_
  refine sv hs (y_neq rfl rfl) rfl fun a hs => ?_
  refine nl ?_
  refine wp_cond_split (hs.ev rfl) (fun h137 => ?_) (fun h137 => ?_)
  ·have hsh := ite_t hsh h137
   refine sr ?_
   refine mv hs rfl rfl fun a hs => ?_
   refine av hs rfl rfl fun a hs => ?_
   refine nl ?_
   have hsh := oi hsh
   subst hsh
   have h138 := hd103 _ rfl
   subst h138
   refine wp_ret ?_
   refine blk_ret ?_
   refine then_ret ?_
   refine then_ret ?_
   refine blk_ret ?_
   refine then_ret ?_
   exact ret1 hs rfl (rv_tmp rfl) (hw.ret rfl)
  have hsh := ite_f hsh h137
  refine wp_skip ?_
  refine blk_normal ?_
  refine then_normal ?_
  refine wp_region_lit ?_
  refine sv hs (y_add rfl rfl) rfl fun a hs => ?_
  refine mv hs rfl rfl fun a hs => ?_
  refine nl ?_
  exact ⟨_, (Option.some.inj hsh).symm, Sv87, (hs.wk rfl), (hw.ft [] [1] (by decide) rfl rfl)⟩
 have hsh := ite_f hsh h108
 obtain ⟨rv139, hsh, h140⟩ := map_t hsh
 have h140 := (hd103 _ h140.symm).symm
 subst h140
 refine wp_exit ?_
 refine then_exit ?_
 refine then_exit ?_
 refine blk_exit ?_
 refine then_normal ?_
 refine sr ?_
 refine mv hs rfl rfl fun a hs => ?_
 refine av hs rfl rfl fun a hs => ?_
 refine nl ?_
 have hsh := oi hsh
 subst hsh
 refine wp_ret ?_
 exact ret1 hs rfl (rv_tmp rfl) (hw.ret rfl)

abbrev source_Compare_rd (w0 : World) (X : List Nat) (r : Int) : (Nat → Prop) → World → Value → Prop := fun S w v => v = .int .i64 r
set_option maxHeartbeats 4000000 in
set_option maxRecDepth 100000 in
theorem source_Compare_ok {w0 : World} {S0 : Nat → Prop} {a1 : SourceID} {b2 : SourceID} {r : Int} (hsh : source_Compare a1 b2 = some r) (hS : ∀ b, S0 b → b < w0.heap.size) : Calls Tryz.prog 103 #[.agg #[.string a1.Network, .string a1.Station, .string a1.Location, .string a1.Channel], .agg #[.string b2.Network, .string b2.Station, .string b2.Location, .string b2.Channel]] w0 (Ret ([]) w0 S0 (source_Compare_rd w0 ([]) r)) := by
 refine calls_of_wp Tryz.func103 rfl ?_
 have hs := Sl.enter #[.agg #[.string a1.Network, .string a1.Station, .string a1.Location, .string a1.Channel], .agg #[.string b2.Network, .string b2.Station, .string b2.Location, .string b2.Channel]] 27 [(0, .agg #[.string a1.Network, .string a1.Station, .string a1.Location, .string a1.Channel]), (1, .agg #[.string b2.Network, .string b2.Station, .string b2.Location, .string b2.Channel])] rfl ⟨rfl, rfl, trivial⟩
 have hw := Wd.enter (E := []) hS (fun _ h => (by cases h))
 delta source_Compare at hsh
 refine sr ?_
 refine w_box (cs := [.string a1.Network, .string a1.Station, .string a1.Location, .string a1.Channel]) hs hw rfl rfl rfl trivial ?_
 intro b3 a w hs hw
 refine w_box (cs := [.string b2.Network, .string b2.Station, .string b2.Location, .string b2.Channel]) hs hw rfl rfl rfl trivial ?_
 intro b4 a w hs hw
 refine av hs rfl rfl fun a hs => ?_
 refine nl ?_
 refine wp_seq ?_
 obtain ⟨rv6, h5, hsh⟩ := bind_t hsh
 obtain ⟨rv8, h7, hsh⟩ := bind_t hsh
 obtain ⟨rv10, h9, hsh⟩ := bind_t hsh
 obtain ⟨rv12, h11, hsh⟩ := bind_t hsh
 obtain ⟨rv16, h15, hsh⟩ := bind_t hsh
 refine wp_only (fun a w => ∃ (Sv17 : Nat → Prop), Sl 27 [(4, .int .i64 rv16)] a ∧ Wd ⟨w0, S0, []⟩ Sv17 [] [] w) ?_ ?_
 ·refine h_b (C := Cls [.box b4 [.string b2.Network, .string b2.Station, .string b2.Location, .string b2.Channel] 31, .box b3 [.string a1.Network, .string a1.Station, .string a1.Location, .string a1.Channel] 31] []) (by kernel_rfl) rfl (hw.drew.cs [0, 1] [] rfl rfl) fun hC => ?_
  have hw := hw.drew
  refine gv hs 0 rfl rfl hC (fun w hC => y_fieldAddr (o' := 0) Tryz.runUnderlying31 rfl Tryz.sizeOf9 rfl rfl rfl) fun a hs => ?_
  refine gv hs 1 rfl rfl hC (fun w hC => y_loadB1 (hC.ownAt 1 rfl) rfl Tryz.isAgg9 rfl) fun a hs => ?_
  refine gv hs 2 rfl rfl hC (fun w hC => y_fieldAddr (o' := 0) Tryz.runUnderlying31 rfl Tryz.sizeOf9 rfl rfl rfl) fun a hs => ?_
  refine gv hs 3 rfl rfl hC (fun w hC => y_loadB1 (hC.ownAt 0 rfl) rfl Tryz.isAgg9 rfl) fun a hs => ?_
  refine gv hs 5 rfl rfl hC (fun w hC => y_fieldAddr (o' := 1) Tryz.runUnderlying31 rfl Tryz.sizeOf9 rfl rfl rfl) fun a hs => ?_
  refine gv hs 6 rfl rfl hC (fun w hC => y_loadB1 (hC.ownAt 1 rfl) rfl Tryz.isAgg9 rfl) fun a hs => ?_
  refine gv hs 7 rfl rfl hC (fun w hC => y_fieldAddr (o' := 1) Tryz.runUnderlying31 rfl Tryz.sizeOf9 rfl rfl rfl) fun a hs => ?_
  refine gv hs 8 rfl rfl hC (fun w hC => y_loadB1 (hC.ownAt 0 rfl) rfl Tryz.isAgg9 rfl) fun a hs => ?_
  refine gv hs 10 rfl rfl hC (fun w hC => y_fieldAddr (o' := 2) Tryz.runUnderlying31 rfl Tryz.sizeOf9 rfl rfl rfl) fun a hs => ?_
  refine gv hs 11 rfl rfl hC (fun w hC => y_loadB1 (hC.ownAt 1 rfl) rfl Tryz.isAgg9 rfl) fun a hs => ?_
  refine gv hs 12 rfl rfl hC (fun w hC => y_fieldAddr (o' := 2) Tryz.runUnderlying31 rfl Tryz.sizeOf9 rfl rfl rfl) fun a hs => ?_
  refine gv hs 13 rfl rfl hC (fun w hC => y_loadB1 (hC.ownAt 0 rfl) rfl Tryz.isAgg9 rfl) fun a hs => ?_
  refine gv hs 15 rfl rfl hC (fun w hC => y_fieldAddr (o' := 3) Tryz.runUnderlying31 rfl Tryz.sizeOf9 rfl rfl rfl) fun a hs => ?_
  refine gv hs 16 rfl rfl hC (fun w hC => y_loadB1 (hC.ownAt 1 rfl) rfl Tryz.isAgg9 rfl) fun a hs => ?_
  refine gv hs 17 rfl rfl hC (fun w hC => y_fieldAddr (o' := 3) Tryz.runUnderlying31 rfl Tryz.sizeOf9 rfl rfl rfl) fun a hs => ?_
  refine gv hs 18 rfl rfl hC (fun w hC => y_loadB1 (hC.ownAt 0 rfl) rfl Tryz.isAgg9 rfl) fun a hs => ?_
  refine ho 4 rfl ?_
  refine st_callR hs (cmp_Compare_string_ok h5 hw.bdom) (do_call Tryz.call131 rfl) trivial rfl rfl ?_
  intro v21 Sv18 w a h19 h20 hs
  subst h20
  have hw := hw.callB h19
  refine h_nx (hw.cs [0, 1] [] rfl rfl) fun hC => ?_
  refine ho 9 rfl ?_
  refine st_callR hs (cmp_Compare_string_ok h7 hw.bdom) (do_call Tryz.call131 rfl) trivial rfl rfl ?_
  intro v26 Sv23 w a h24 h25 hs
  subst h25
  have hw := hw.callB h24
  refine h_nx (hw.cs [0, 1] [] rfl rfl) fun hC => ?_
  refine ho 14 rfl ?_
  refine st_callR hs (cmp_Compare_string_ok h9 hw.bdom) (do_call Tryz.call131 rfl) trivial rfl rfl ?_
  intro v31 Sv28 w a h29 h30 hs
  subst h30
  have hw := hw.callB h29
  refine h_nx (hw.cs [0, 1] [] rfl rfl) fun hC => ?_
  refine ho 19 rfl ?_
  refine st_callR hs (cmp_Compare_string_ok h11 hw.bdom) (do_call Tryz.call131 rfl) trivial rfl rfl ?_
  intro v36 Sv33 w a h34 h35 hs
  subst h35
  have hw := hw.callB h34
  refine h_nx (hw.cs [0, 1] [] rfl rfl) fun hC => ?_
  refine ho 20 rfl ?_
  refine w_litSlice (α := Int) (vs := [.int .i64 rv6, .int .i64 rv8, .int .i64 rv10, .int .i64 rv12]) (cs := [.int .i64 rv6, .int .i64 rv8, .int .i64 rv10, .int .i64 rv12]) (xs := ([rv6, rv8, rv10, rv12] : List Int)) hs hw El22 rfl rfl rfl rfl rfl rfl ⟨⟨_, rfl, rfl⟩, ⟨⟨_, rfl, rfl⟩, ⟨⟨_, rfl, rfl⟩, ⟨⟨_, rfl, rfl⟩, rfl⟩⟩⟩⟩ rfl trivial rfl fun b14 a w hs hw => ?_
  refine h_nx (hw.cs [1, 2] [] rfl rfl) fun hC => ?_
  refine h_st (C' := Cls [.box b4 [.string b2.Network, .string b2.Station, .string b2.Location, .string b2.Channel] 31, .box b3 [.string a1.Network, .string a1.Station, .string a1.Location, .string a1.Channel] 31, .row (some ⟨b14, 0, none⟩) ([rv6, rv8, rv10, rv12] : List Int).length ([rv6, rv8, rv10, rv12] : List Int).length [.int .i64 rv6, .int .i64 rv8, .int .i64 rv10, .int .i64 rv12] 3 1] []) (fun _ h => by exact h.sub [0, 1] (Sel.of rfl) (AllIn.of [] rfl)) (hw.cs [1, 2, 0] [] rfl rfl) fun hC => ?_
  refine ho 21 rfl ?_
  refine st_callR hs (cmp_Or_int_ok h15 hw.bdom (hw.bRow 0 rfl 0 rfl)) (do_call Tryz.call99 rfl) trivial rfl rfl ?_
  intro v41 Sv38 w a h39 h40 hs
  subst h40
  have hw := hw.callB h39
  refine h_nx (hw.cs [1, 2, 0] [] rfl rfl) fun hC => ?_
  refine gv hs 22 rfl rfl hC (fun w hC => y_assign rfl) fun a hs => ?_
  refine h_done (by kernel_rfl) ?_
  exact ⟨S0, (hs.wk rfl), (hw.ft [] [] (by decide) rfl rfl)⟩
 rintro a w ⟨Sv17, hs, hw⟩
 refine then_normal ?_
 have hsh := oi hsh
 subst hsh
 refine wp_ret ?_
 exact ret1 hs rfl (rv_tmp rfl) (hw.ret rfl)

abbrev record_time_rd (w0 : World) (X : List Nat) (r : Int) : (Nat → Prop) → World → Value → Prop := fun S w v => v = .int .i64 r
set_option maxHeartbeats 4000000 in
set_option maxRecDepth 100000 in
theorem record_time_ok {w0 : World} {S0 : Nat → Prop} {p2 : Option Addr} {k3 : Nat} {r1 : Record} {i5 : Int} {r : Int} (hsh : record_time r1 i5 = some r) (hS : ∀ b, S0 b → b < w0.heap.size) (h4 : (SlA p2 r1.Samples.length k3 r1.Samples).p S0 w0) : Calls Tryz.prog 132 #[.agg #[.string r1.Source.Network, .string r1.Source.Station, .string r1.Source.Location, .string r1.Source.Channel, .int .i64 r1.Start, .int .i64 r1.First, .int .i64 r1.Rate.Num, .int .i64 r1.Rate.Den, .int .i64 r1.Error, .int .i64 r1.Run, .int .i64 r1.Seq, .slice p2 r1.Samples.length k3], .int .i64 i5] w0 (Ret ([]) w0 S0 (record_time_rd w0 ([]) r)) := by
 refine calls_of_wp Tryz.func132 rfl ?_
 have hs := Sl.enter #[.agg #[.string r1.Source.Network, .string r1.Source.Station, .string r1.Source.Location, .string r1.Source.Channel, .int .i64 r1.Start, .int .i64 r1.First, .int .i64 r1.Rate.Num, .int .i64 r1.Rate.Den, .int .i64 r1.Error, .int .i64 r1.Run, .int .i64 r1.Seq, .slice p2 r1.Samples.length k3], .int .i64 i5] 20 [(0, .agg #[.string r1.Source.Network, .string r1.Source.Station, .string r1.Source.Location, .string r1.Source.Channel, .int .i64 r1.Start, .int .i64 r1.First, .int .i64 r1.Rate.Num, .int .i64 r1.Rate.Den, .int .i64 r1.Error, .int .i64 r1.Run, .int .i64 r1.Seq, .slice p2 r1.Samples.length k3]), (1, .int .i64 i5)] rfl ⟨rfl, rfl, trivial⟩
 have hw := Wd.enter (E := []) hS (fun _ h => (by cases h))
 have hw := hw.addE h4
 delta record_time at hsh
 refine sr ?_
 refine w_box (cs := [.string r1.Source.Network, .string r1.Source.Station, .string r1.Source.Location, .string r1.Source.Channel, .int .i64 r1.Start, .int .i64 r1.First, .int .i64 r1.Rate.Num, .int .i64 r1.Rate.Den, .int .i64 r1.Error, .int .i64 r1.Run, .int .i64 r1.Seq, .slice p2 r1.Samples.length k3]) hs hw rfl rfl rfl trivial ?_
 intro b6 a w hs hw
 refine av hs rfl rfl fun a hs => ?_
 refine nl ?_
 refine sr ?_
 refine sv hs (y_fieldAddr (o' := 4) Tryz.runUnderlying35 rfl Tryz.sizeOf3 rfl rfl rfl) rfl fun a hs => ?_
 refine sv hs (y_loadB1 (hw.ownAt 0 rfl) rfl Tryz.isAgg3 rfl) rfl fun a hs => ?_
 refine sv hs (y_fieldAddr (o' := 6) Tryz.runUnderlying35 rfl Tryz.sizeOf33 rfl rfl rfl) rfl fun a hs => ?_
 refine sv hs (y_loadBA (hw.ownAt 0 rfl) rfl Tryz.isAgg33 Tryz.sizeOf33 rfl rfl) rfl fun a hs => ?_
 refine sv hs (y_fieldAddr (o' := 5) Tryz.runUnderlying35 rfl Tryz.sizeOf3 rfl rfl rfl) rfl fun a hs => ?_
 refine sv hs (y_loadB1 (hw.ownAt 0 rfl) rfl Tryz.isAgg3 rfl) rfl fun a hs => ?_
 refine mv hs rfl rfl fun a hs => ?_
 refine sv hs (y_add rfl rfl) rfl fun a hs => ?_
 obtain ⟨rv8, h7, hsh⟩ := bind_t hsh
 refine st_callR hs (rate_Time_ok h7 hw.bdom) (do_call Tryz.call81 rfl) trivial rfl rfl ?_
 intro v12 Sv9 w a h10 h11 hs
 subst h11
 have hw := hw.callB h10
 refine mv hs rfl rfl fun a hs => ?_
 refine sv hs (y_extract rfl rfl) rfl fun a hs => ?_
 refine sv hs (y_extract rfl rfl) rfl fun a hs => ?_
 refine av hs rfl rfl fun a hs => ?_
 refine av hs rfl rfl fun a hs => ?_
 refine nl ?_
 refine sr ?_
 refine mv hs rfl rfl fun a hs => ?_
 refine av hs rfl rfl fun a hs => ?_
 refine nl ?_
 have hsh := oi hsh
 subst hsh
 refine wp_ret ?_
 exact ret1 hs rfl (rv_tmp rfl) (hw.ret rfl)

abbrev record_begin_rd (w0 : World) (X : List Nat) (r : Int) : (Nat → Prop) → World → Value → Prop := fun S w v => v = .int .i64 r
set_option maxHeartbeats 4000000 in
set_option maxRecDepth 100000 in
theorem record_begin_ok {w0 : World} {S0 : Nat → Prop} {p2 : Option Addr} {k3 : Nat} {r1 : Record} {r : Int} (hsh : record_begin r1 = some r) (hS : ∀ b, S0 b → b < w0.heap.size) (h4 : (SlA p2 r1.Samples.length k3 r1.Samples).p S0 w0) : Calls Tryz.prog 104 #[.agg #[.string r1.Source.Network, .string r1.Source.Station, .string r1.Source.Location, .string r1.Source.Channel, .int .i64 r1.Start, .int .i64 r1.First, .int .i64 r1.Rate.Num, .int .i64 r1.Rate.Den, .int .i64 r1.Error, .int .i64 r1.Run, .int .i64 r1.Seq, .slice p2 r1.Samples.length k3]] w0 (Ret ([]) w0 S0 (record_begin_rd w0 ([]) r)) := by
 refine calls_of_wp Tryz.func104 rfl ?_
 have hs := Sl.enter #[.agg #[.string r1.Source.Network, .string r1.Source.Station, .string r1.Source.Location, .string r1.Source.Channel, .int .i64 r1.Start, .int .i64 r1.First, .int .i64 r1.Rate.Num, .int .i64 r1.Rate.Den, .int .i64 r1.Error, .int .i64 r1.Run, .int .i64 r1.Seq, .slice p2 r1.Samples.length k3]] 8 [(0, .agg #[.string r1.Source.Network, .string r1.Source.Station, .string r1.Source.Location, .string r1.Source.Channel, .int .i64 r1.Start, .int .i64 r1.First, .int .i64 r1.Rate.Num, .int .i64 r1.Rate.Den, .int .i64 r1.Error, .int .i64 r1.Run, .int .i64 r1.Seq, .slice p2 r1.Samples.length k3])] rfl ⟨rfl, trivial⟩
 have hw := Wd.enter (E := []) hS (fun _ h => (by cases h))
 have hw := hw.addE h4
 delta record_begin at hsh
 refine sr ?_
 refine w_box (cs := [.string r1.Source.Network, .string r1.Source.Station, .string r1.Source.Location, .string r1.Source.Channel, .int .i64 r1.Start, .int .i64 r1.First, .int .i64 r1.Rate.Num, .int .i64 r1.Rate.Den, .int .i64 r1.Error, .int .i64 r1.Run, .int .i64 r1.Seq, .slice p2 r1.Samples.length k3]) hs hw rfl rfl rfl trivial ?_
 intro b5 a w hs hw
 refine av hs rfl rfl fun a hs => ?_
 refine nl ?_
 refine wp_seq ?_
 refine sr ?_
 refine sv hs (y_loadBA (hw.ownAt 0 rfl) rfl Tryz.isAgg35 Tryz.sizeOf35 rfl rfl) rfl fun a hs => ?_
 obtain ⟨rv7, h6, hsh⟩ := bind_t hsh
 refine st_callR hs (record_Valid_ok h6 hw.bdom (hw.bE 0 rfl)) (do_call Tryz.call91 rfl) trivial rfl rfl ?_
 intro v11 Sv8 w a h9 h10 hs
 subst h10
 have hw := hw.callB h9
 refine sv hs (y_not rfl) rfl fun a hs => ?_
 refine nl ?_
 refine wp_cond_split (hs.ev rfl) (fun h14 => ?_) (fun h14 => ?_)
 ·have hsh := ite_t hsh h14
  refine sr ?_
  refine av hs rfl rfl fun a hs => ?_
  refine nl ?_
  have hsh := oi hsh
  subst hsh
  refine wp_ret ?_
  refine then_ret ?_
  exact ret1 hs rfl (rv_tmp rfl) (hw.ret rfl)
 have hsh := ite_f hsh h14
 refine wp_skip ?_
 refine then_normal ?_
 refine sr ?_
 refine sv hs (y_loadBA (hw.ownAt 0 rfl) rfl Tryz.isAgg35 Tryz.sizeOf35 rfl rfl) rfl fun a hs => ?_
 obtain ⟨rv16, h15, hsh⟩ := bind_t hsh
 refine st_callR hs (record_time_ok h15 hw.bdom (hw.bE 0 rfl)) (do_call Tryz.call132 rfl) trivial rfl rfl ?_
 intro v20 Sv17 w a h18 h19 hs
 subst h19
 have hw := hw.callB h18
 refine av hs rfl rfl fun a hs => ?_
 refine nl ?_
 have hsh := oi hsh
 subst hsh
 refine wp_ret ?_
 exact ret1 hs rfl (rv_tmp rfl) (hw.ret rfl)

abbrev cmp_isNaN_int_rd (w0 : World) (X : List Nat) (r : Bool) : (Nat → Prop) → World → Value → Prop := fun S w v => v = .bool r
set_option maxHeartbeats 4000000 in
set_option maxRecDepth 100000 in
theorem cmp_isNaN_int_ok {w0 : World} {S0 : Nat → Prop} {x1 : Int} {r : Bool} (hsh : cmp_isNaN_int x1 = some r) (hS : ∀ b, S0 b → b < w0.heap.size) : Calls Tryz.prog 113 #[.int .i64 x1] w0 (Ret ([]) w0 S0 (cmp_isNaN_int_rd w0 ([]) r)) := by
 refine calls_of_wp Tryz.func113 rfl ?_
 have hs := Sl.enter #[.int .i64 x1] 6 [(0, .int .i64 x1)] rfl ⟨rfl, trivial⟩
 have hw := Wd.enter (E := []) hS (fun _ h => (by cases h))
 delta cmp_isNaN_int at hsh
 refine sr ?_
 refine av hs rfl rfl fun a hs => ?_
 refine nl ?_
 refine sr ?_
 refine mv hs rfl rfl fun a hs => ?_
 refine mv hs rfl rfl fun a hs => ?_
 refine sv hs (y_neq rfl rfl) rfl fun a hs => ?_
 refine av hs rfl rfl fun a hs => ?_
 refine nl ?_
 have hsh := oi hsh
 subst hsh
 refine wp_ret ?_
 exact ret1 hs rfl (rv_tmp rfl) (hw.ret rfl)

abbrev cmp_Compare_int_rd (w0 : World) (X : List Nat) (r : Int) : (Nat → Prop) → World → Value → Prop := fun S w v => v = .int .i64 r
set_option maxHeartbeats 4000000 in
set_option maxRecDepth 100000 in
theorem cmp_Compare_int_ok {w0 : World} {S0 : Nat → Prop} {x1 : Int} {y2 : Int} {r : Int} (hsh : cmp_Compare_int x1 y2 = some r) (hS : ∀ b, S0 b → b < w0.heap.size) : Calls Tryz.prog 88 #[.int .i64 x1, .int .i64 y2] w0 (Ret ([]) w0 S0 (cmp_Compare_int_rd w0 ([]) r)) := by
 refine calls_of_wp Tryz.func88 rfl ?_
 have hs := Sl.enter #[.int .i64 x1, .int .i64 y2] 20 [(0, .int .i64 x1), (1, .int .i64 y2)] rfl ⟨rfl, rfl, trivial⟩
 have hw := Wd.enter (E := []) hS (fun _ h => (by cases h))
 delta cmp_Compare_int at hsh
 refine sr ?_
 refine av hs rfl rfl fun a hs => ?_
 refine nl ?_
 refine sr ?_
 refine mv hs rfl rfl fun a hs => ?_
 obtain ⟨rv4, h3, hsh⟩ := bind_t hsh
 refine st_callR hs (cmp_isNaN_int_ok h3 hw.bdom) (do_call Tryz.call113 rfl) trivial rfl rfl ?_
 intro v8 Sv5 w a h6 h7 hs
 subst h7
 have hw := hw.callB h6
 refine av hs rfl rfl fun a hs => ?_
 refine nl ?_
 refine sr ?_
 refine mv hs rfl rfl fun a hs => ?_
 obtain ⟨rv11, h10, hsh⟩ := bind_t hsh
 refine st_callR hs (cmp_isNaN_int_ok h10 hw.bdom) (do_call Tryz.call113 rfl) trivial rfl rfl ?_
 intro v15 Sv12 w a h13 h14 hs
 subst h14
 have hw := hw.callB h13
 refine av hs rfl rfl fun a hs => ?_
 refine nl ?_
 refine wp_seq ?_
 refine sr ?_
 refine mv hs rfl rfl fun a hs => ?_
 refine nl ?_
 refine wp_cond_split (hs.ev rfl) (fun h19 => ?_) (fun h19 => ?_)
 ·have hsh := ite_t hsh h19
  refine wp_seq ?_
  refine sr ?_
  refine mv hs rfl rfl fun a hs => ?_
  refine nl ?_
  refine wp_cond_split (hs.ev rfl) (fun h21 => ?_) (fun h21 => ?_)
  ·have hsh := ite_t hsh h21
   refine sr ?_
   refine av hs rfl rfl fun a hs => ?_
   refine nl ?_
   have hsh := oi hsh
   subst hsh
   refine wp_ret ?_
   refine then_ret ?_
   refine then_ret ?_
   exact ret1 hs rfl (rv_tmp rfl) (hw.ret rfl)
  have hsh := ite_f hsh h21
  refine wp_skip ?_
  refine then_normal ?_
  refine sr ?_
  refine av hs rfl rfl fun a hs => ?_
  refine nl ?_
  have hsh := oi hsh
  subst hsh
  refine wp_ret ?_
  refine then_ret ?_
  exact ret1 hs rfl (rv_tmp rfl) (hw.ret rfl)
 have hsh := ite_f hsh h19
 refine wp_skip ?_
 refine then_normal ?_
 refine wp_seq ?_
 refine sr ?_
 refine mv hs rfl rfl fun a hs => ?_
 refine nl ?_
 refine wp_cond_split (hs.ev rfl) (fun h23 => ?_) (fun h23 => ?_)
 ·have hsh := ite_t hsh h23
  refine sr ?_
  refine av hs rfl rfl fun a hs => ?_
  refine nl ?_
  have hsh := oi hsh
  subst hsh
  refine wp_ret ?_
  refine then_ret ?_
  exact ret1 hs rfl (rv_tmp rfl) (hw.ret rfl)
 have hsh := ite_f hsh h23
 refine wp_skip ?_
 refine then_normal ?_
 refine wp_seq ?_
 refine sr ?_
 refine mv hs rfl rfl fun a hs => ?_
 refine mv hs rfl rfl fun a hs => ?_
 refine sv hs (y_lss rfl rfl) rfl fun a hs => ?_
 refine nl ?_
 refine wp_cond_split (hs.ev rfl) (fun h25 => ?_) (fun h25 => ?_)
 ·have hsh := ite_t hsh h25
  refine sr ?_
  refine av hs rfl rfl fun a hs => ?_
  refine nl ?_
  have hsh := oi hsh
  subst hsh
  refine wp_ret ?_
  refine then_ret ?_
  exact ret1 hs rfl (rv_tmp rfl) (hw.ret rfl)
 have hsh := ite_f hsh h25
 refine wp_skip ?_
 refine then_normal ?_
 refine wp_seq ?_
 refine sr ?_
 refine mv hs rfl rfl fun a hs => ?_
 refine mv hs rfl rfl fun a hs => ?_
 refine sv hs (y_gtr rfl rfl) rfl fun a hs => ?_
 refine nl ?_
 refine wp_cond_split (hs.ev rfl) (fun h27 => ?_) (fun h27 => ?_)
 ·have hsh := ite_t hsh h27
  refine sr ?_
  refine av hs rfl rfl fun a hs => ?_
  refine nl ?_
  have hsh := oi hsh
  subst hsh
  refine wp_ret ?_
  refine then_ret ?_
  exact ret1 hs rfl (rv_tmp rfl) (hw.ret rfl)
 have hsh := ite_f hsh h27
 refine wp_skip ?_
 refine then_normal ?_
 refine sr ?_
 refine av hs rfl rfl fun a hs => ?_
 refine nl ?_
 have hsh := oi hsh
 subst hsh
 refine wp_ret ?_
 exact ret1 hs rfl (rv_tmp rfl) (hw.ret rfl)

abbrev slices_Compare_Lint_int_rd (w0 : World) (X : List Nat) (r : Int) : (Nat → Prop) → World → Value → Prop := fun S w v => v = .int .i64 r
set_option maxHeartbeats 4000000 in
set_option maxRecDepth 100000 in
theorem slices_Compare_Lint_int_ok {w0 : World} {S0 : Nat → Prop} {p2 : Option Addr} {k3 : Nat} {p6 : Option Addr} {k7 : Nat} {s1_1 : (List Int)} {s2_5 : (List Int)} {r : Int} (hsh : slices_Compare_Lint_int s1_1 s2_5 = some r) (hS : ∀ b, S0 b → b < w0.heap.size) (h4 : (SlA p2 s1_1.length k3 s1_1).p S0 w0) (h8 : (SlA p6 s2_5.length k7 s2_5).p S0 w0) : Calls Tryz.prog 105 #[.slice p2 s1_1.length k3, .slice p6 s2_5.length k7] w0 (Ret ([]) w0 S0 (slices_Compare_Lint_int_rd w0 ([]) r)) := by
 refine calls_of_wp Tryz.func105 rfl ?_
 have hs := Sl.enter #[.slice p2 s1_1.length k3, .slice p6 s2_5.length k7] 36 [(0, .slice p2 s1_1.length k3), (1, .slice p6 s2_5.length k7)] rfl ⟨rfl, rfl, trivial⟩
 have hw := Wd.enter (E := []) hS (fun _ h => (by cases h))
 have hw := hw.addE h4
 have hw := hw.addE h8
 delta slices_Compare_Lint_int at hsh
 refine sr ?_
 refine av hs rfl rfl fun a hs => ?_
 refine nl ?_
 refine wp_seq ?_
 refine sr ?_
 refine mv hs rfl rfl fun a hs => ?_
 refine sv hs (y_len Tryz.runUnderlying22 rfl) rfl fun a hs => ?_
 refine mv hs rfl rfl fun a hs => ?_
 refine nl ?_
 refine wp_block ?_
 refine wp_while (fun sv122 a w => ∃ (Sv196 : Nat → Prop), Sl 36 [(0, .slice p2 s1_1.length k3), (1, .slice p6 s2_5.length k7), (9, .slice p2 s1_1.length k3), (10, .int .i64 (s1_1.length : Int)), (11, .int .i64 sv122)] a ∧ Wd ⟨w0, S0, []⟩ Sv196 [] [SlA p2 s1_1.length k3 s1_1, SlA p6 s2_5.length k7 s2_5] w) 0 hsh ⟨S0, (hs.wk rfl), (hw.ft [] [1, 0] (by decide) rfl rfl)⟩ ?_
 repeat clear hsh
 rintro sv122 a w tv234 ⟨Sv196, hs, hw⟩ hsh hd233
 delta slices_Compare_Lint_int_l2 at hsh
 refine sr ?_
 refine sv hs (y_lss rfl rfl) rfl fun a hs => ?_
 refine nl ?_
 refine wp_seq ?_
 refine wp_cond_split (hs.ev rfl) (fun h238 => ?_) (fun h238 => ?_)
 ·have hsh := ite_t hsh h238
  refine wp_skip ?_
  refine then_normal ?_
  refine wp_seq ?_
  refine wp_block ?_
  refine sr ?_
  refine mv hs rfl rfl fun a hs => ?_
  obtain ⟨x276, h274, hsh⟩ := bind_t hsh
  obtain ⟨b282, o283, q280, c281, h284, h277, h278, h279, h275⟩ := hw.elemV 0 rfl h274
  have hsv285 := hs
  have hwv286 := hw
  subst h284
  have hs := hsv285
  have hw := hwv286
  obtain ⟨_, rfl, rfl⟩ := h275
  have hw := hw.addE h279
  refine sv hs (y_indexAt Tryz.runUnderlying22 Tryz.sizeOf3 rfl rfl h277.1 h277.2 h278) rfl fun a hs => ?_
  refine sv hs (y_loadE1 (j := 0) (hw.ceAt 0 rfl) rfl Tryz.isAgg3 rfl) rfl fun a hs => ?_
  refine av hs rfl rfl fun a hs => ?_
  refine av hs rfl rfl fun a hs => ?_
  refine nl ?_
  refine wp_seq ?_
  refine sr ?_
  refine mv hs rfl rfl fun a hs => ?_
  refine mv hs rfl rfl fun a hs => ?_
  refine sv hs (y_len Tryz.runUnderlying22 rfl) rfl fun a hs => ?_
  refine sv hs (y_geq rfl rfl) rfl fun a hs => ?_
  refine nl ?_
  refine wp_cond_split (hs.ev rfl) (fun h288 => ?_) (fun h288 => ?_)
  ·have hsh := ite_t hsh h288
   refine sr ?_
   refine av hs rfl rfl fun a hs => ?_
   refine nl ?_
   have hsh := oi hsh
   subst hsh
   have h289 := hd233 _ rfl
   subst h289
   refine wp_ret ?_
   refine then_ret ?_
   refine blk_ret ?_
   refine then_ret ?_
   refine then_ret ?_
   refine blk_ret ?_
   refine then_ret ?_
   exact ret1 hs rfl (rv_tmp rfl) (hw.ret rfl)
  have hsh := ite_f hsh h288
  refine wp_skip ?_
  refine then_normal ?_
  refine sr ?_
  refine mv hs rfl rfl fun a hs => ?_
  refine mv hs rfl rfl fun a hs => ?_
  obtain ⟨x292, h290, hsh⟩ := bind_t hsh
  obtain ⟨b298, o299, q296, c297, h300, h293, h294, h295, h291⟩ := hw.elemV 2 rfl h290
  have hsv301 := hs
  have hwv302 := hw
  subst h300
  have hs := hsv301
  have hw := hwv302
  obtain ⟨_, rfl, rfl⟩ := h291
  have hw := hw.addE h295
  refine sv hs (y_indexAt Tryz.runUnderlying22 Tryz.sizeOf3 rfl rfl h293.1 h293.2 h294) rfl fun a hs => ?_
  refine sv hs (y_loadE1 (j := 0) (hw.ceAt 0 rfl) rfl Tryz.isAgg3 rfl) rfl fun a hs => ?_
  refine av hs rfl rfl fun a hs => ?_
  refine nl ?_
  refine sr ?_
  refine mv hs rfl rfl fun a hs => ?_
  refine mv hs rfl rfl fun a hs => ?_
  obtain ⟨rv304, h303, hsh⟩ := bind_t hsh
  refine st_callR hs (cmp_Compare_int_ok h303 hw.bdom) (do_call Tryz.call88 rfl) trivial rfl rfl ?_
  intro v308 Sv305 w a h306 h307 hs
  subst h307
  have hw := hw.callB h306
  refine av hs rfl rfl fun a hs => ?_
  refine nl ?_
  refine sr ?_
  refine mv hs rfl rfl fun a hs => ?_
  refine sv hs (y_neq rfl rfl) rfl fun a hs => ?_
  refine nl ?_
  refine wp_cond_split (hs.ev rfl) (fun h311 => ?_) (fun h311 => ?_)
  ·have hsh := ite_t hsh h311
   refine sr ?_
   refine mv hs rfl rfl fun a hs => ?_
   refine av hs rfl rfl fun a hs => ?_
   refine nl ?_
   have hsh := oi hsh
   subst hsh
   have h312 := hd233 _ rfl
   subst h312
   refine wp_ret ?_
   refine blk_ret ?_
   refine then_ret ?_
   refine then_ret ?_
   refine blk_ret ?_
   refine then_ret ?_
   exact ret1 hs rfl (rv_tmp rfl) (hw.ret rfl)
  have hsh := ite_f hsh h311
  refine wp_skip ?_
  refine blk_normal ?_
  refine then_normal ?_
  refine wp_region_lit ?_
  refine sv hs (y_add rfl rfl) rfl fun a hs => ?_
  refine mv hs rfl rfl fun a hs => ?_
  refine nl ?_
  exact ⟨_, (Option.some.inj hsh).symm, Sv196, (hs.wk rfl), (hw.ft [] [2, 3] (by decide) rfl rfl)⟩
 have hsh := ite_f hsh h238
 obtain ⟨rv315, hsh, h316⟩ := map_t hsh
 have h316 := (hd233 _ h316.symm).symm
 subst h316
 refine wp_exit ?_
 refine then_exit ?_
 refine then_exit ?_
 refine blk_exit ?_
 refine then_normal ?_
 refine wp_seq ?_
 refine sr ?_
 refine mv hs rfl rfl fun a hs => ?_
 refine sv hs (y_len Tryz.runUnderlying22 rfl) rfl fun a hs => ?_
 refine mv hs rfl rfl fun a hs => ?_
 refine sv hs (y_len Tryz.runUnderlying22 rfl) rfl fun a hs => ?_
 refine sv hs (y_lss rfl rfl) rfl fun a hs => ?_
 refine nl ?_
 refine wp_cond_split (hs.ev rfl) (fun h314 => ?_) (fun h314 => ?_)
 ·have hsh := ite_t hsh h314
  refine sr ?_
  refine av hs rfl rfl fun a hs => ?_
  refine nl ?_
  have hsh := oi hsh
  subst hsh
  refine wp_ret ?_
  refine then_ret ?_
  exact ret1 hs rfl (rv_tmp rfl) (hw.ret rfl)
 have hsh := ite_f hsh h314
 refine wp_skip ?_
 refine then_normal ?_
 refine sr ?_
 refine av hs rfl rfl fun a hs => ?_
 refine nl ?_
 have hsh := oi hsh
 subst hsh
 refine wp_ret ?_
 exact ret1 hs rfl (rv_tmp rfl) (hw.ret rfl)

abbrev record_Compare_rd (w0 : World) (X : List Nat) (r : Int) : (Nat → Prop) → World → Value → Prop := fun S w v => v = .int .i64 r
set_option maxHeartbeats 4000000 in
set_option maxRecDepth 100000 in
theorem record_Compare_ok {w0 : World} {S0 : Nat → Prop} {p2 : Option Addr} {k3 : Nat} {p6 : Option Addr} {k7 : Nat} {a1 : Record} {b5 : Record} {r : Int} (hsh : record_Compare a1 b5 = some r) (hS : ∀ b, S0 b → b < w0.heap.size) (h4 : (SlA p2 a1.Samples.length k3 a1.Samples).p S0 w0) (h8 : (SlA p6 b5.Samples.length k7 b5.Samples).p S0 w0) : Calls Tryz.prog 75 #[.agg #[.string a1.Source.Network, .string a1.Source.Station, .string a1.Source.Location, .string a1.Source.Channel, .int .i64 a1.Start, .int .i64 a1.First, .int .i64 a1.Rate.Num, .int .i64 a1.Rate.Den, .int .i64 a1.Error, .int .i64 a1.Run, .int .i64 a1.Seq, .slice p2 a1.Samples.length k3], .agg #[.string b5.Source.Network, .string b5.Source.Station, .string b5.Source.Location, .string b5.Source.Channel, .int .i64 b5.Start, .int .i64 b5.First, .int .i64 b5.Rate.Num, .int .i64 b5.Rate.Den, .int .i64 b5.Error, .int .i64 b5.Run, .int .i64 b5.Seq, .slice p6 b5.Samples.length k7]] w0 (Ret ([]) w0 S0 (record_Compare_rd w0 ([]) r)) := by
 refine calls_of_wp Tryz.func75 rfl ?_
 have hs := Sl.enter #[.agg #[.string a1.Source.Network, .string a1.Source.Station, .string a1.Source.Location, .string a1.Source.Channel, .int .i64 a1.Start, .int .i64 a1.First, .int .i64 a1.Rate.Num, .int .i64 a1.Rate.Den, .int .i64 a1.Error, .int .i64 a1.Run, .int .i64 a1.Seq, .slice p2 a1.Samples.length k3], .agg #[.string b5.Source.Network, .string b5.Source.Station, .string b5.Source.Location, .string b5.Source.Channel, .int .i64 b5.Start, .int .i64 b5.First, .int .i64 b5.Rate.Num, .int .i64 b5.Rate.Den, .int .i64 b5.Error, .int .i64 b5.Run, .int .i64 b5.Seq, .slice p6 b5.Samples.length k7]] 68 [(0, .agg #[.string a1.Source.Network, .string a1.Source.Station, .string a1.Source.Location, .string a1.Source.Channel, .int .i64 a1.Start, .int .i64 a1.First, .int .i64 a1.Rate.Num, .int .i64 a1.Rate.Den, .int .i64 a1.Error, .int .i64 a1.Run, .int .i64 a1.Seq, .slice p2 a1.Samples.length k3]), (1, .agg #[.string b5.Source.Network, .string b5.Source.Station, .string b5.Source.Location, .string b5.Source.Channel, .int .i64 b5.Start, .int .i64 b5.First, .int .i64 b5.Rate.Num, .int .i64 b5.Rate.Den, .int .i64 b5.Error, .int .i64 b5.Run, .int .i64 b5.Seq, .slice p6 b5.Samples.length k7])] rfl ⟨rfl, rfl, trivial⟩
 have hw := Wd.enter (E := []) hS (fun _ h => (by cases h))
 have hw := hw.addE h4
 have hw := hw.addE h8
 delta record_Compare at hsh
 refine sr ?_
 refine w_box (cs := [.string a1.Source.Network, .string a1.Source.Station, .string a1.Source.Location, .string a1.Source.Channel, .int .i64 a1.Start, .int .i64 a1.First, .int .i64 a1.Rate.Num, .int .i64 a1.Rate.Den, .int .i64 a1.Error, .int .i64 a1.Run, .int .i64 a1.Seq, .slice p2 a1.Samples.length k3]) hs hw rfl rfl rfl trivial ?_
 intro b9 a w hs hw
 refine w_box (cs := [.string b5.Source.Network, .string b5.Source.Station, .string b5.Source.Location, .string b5.Source.Channel, .int .i64 b5.Start, .int .i64 b5.First, .int .i64 b5.Rate.Num, .int .i64 b5.Rate.Den, .int .i64 b5.Error, .int .i64 b5.Run, .int .i64 b5.Seq, .slice p6 b5.Samples.length k7]) hs hw rfl rfl rfl trivial ?_
 intro b10 a w hs hw
 refine av hs rfl rfl fun a hs => ?_
 refine nl ?_
 refine wp_seq ?_
 obtain ⟨rv12, h11, hsh⟩ := bind_t hsh
 obtain ⟨rv14, h13, hsh⟩ := bind_t hsh
 obtain ⟨rv16, h15, hsh⟩ := bind_t hsh
 obtain ⟨rv18, h17, hsh⟩ := bind_t hsh
 obtain ⟨rv20, h19, hsh⟩ := bind_t hsh
 obtain ⟨rv22, h21, hsh⟩ := bind_t hsh
 obtain ⟨rv24, h23, hsh⟩ := bind_t hsh
 obtain ⟨rv26, h25, hsh⟩ := bind_t hsh
 obtain ⟨rv28, h27, hsh⟩ := bind_t hsh
 obtain ⟨rv30, h29, hsh⟩ := bind_t hsh
 obtain ⟨rv32, h31, hsh⟩ := bind_t hsh
 obtain ⟨rv34, h33, hsh⟩ := bind_t hsh
 obtain ⟨rv36, h35, hsh⟩ := bind_t hsh
 obtain ⟨rv40, h39, hsh⟩ := bind_t hsh
 refine wp_only (fun a w => ∃ (Sv41 : Nat → Prop), Sl 68 [(4, .int .i64 rv40)] a ∧ Wd ⟨w0, S0, []⟩ Sv41 [] [] w) ?_ ?_
 ·refine h_b (C := Cls [.box b10 [.string b5.Source.Network, .string b5.Source.Station, .string b5.Source.Location, .string b5.Source.Channel, .int .i64 b5.Start, .int .i64 b5.First, .int .i64 b5.Rate.Num, .int .i64 b5.Rate.Den, .int .i64 b5.Error, .int .i64 b5.Run, .int .i64 b5.Seq, .slice p6 b5.Samples.length k7] 35, .box b9 [.string a1.Source.Network, .string a1.Source.Station, .string a1.Source.Location, .string a1.Source.Channel, .int .i64 a1.Start, .int .i64 a1.First, .int .i64 a1.Rate.Num, .int .i64 a1.Rate.Den, .int .i64 a1.Error, .int .i64 a1.Run, .int .i64 a1.Seq, .slice p2 a1.Samples.length k3] 35] []) (by kernel_rfl) rfl (hw.drew.cs [0, 1] [] rfl rfl) fun hC => ?_
  have hw := hw.drew
  refine gv hs 0 rfl rfl hC (fun w hC => y_fieldAddr (o' := 0) Tryz.runUnderlying35 rfl Tryz.sizeOf31 rfl rfl rfl) fun a hs => ?_
  refine gv hs 1 rfl rfl hC (fun w hC => y_loadBA (hC.ownAt 1 rfl) rfl Tryz.isAgg31 Tryz.sizeOf31 rfl rfl) fun a hs => ?_
  refine gv hs 2 rfl rfl hC (fun w hC => y_fieldAddr (o' := 0) Tryz.runUnderlying35 rfl Tryz.sizeOf31 rfl rfl rfl) fun a hs => ?_
  refine gv hs 3 rfl rfl hC (fun w hC => y_loadBA (hC.ownAt 0 rfl) rfl Tryz.isAgg31 Tryz.sizeOf31 rfl rfl) fun a hs => ?_
  refine gv hs 5 rfl rfl hC (fun w hC => y_loadBA (hC.ownAt 1 rfl) rfl Tryz.isAgg35 Tryz.sizeOf35 rfl rfl) fun a hs => ?_
  refine gv hs 7 rfl rfl hC (fun w hC => y_loadBA (hC.ownAt 0 rfl) rfl Tryz.isAgg35 Tryz.sizeOf35 rfl rfl) fun a hs => ?_
  refine gv hs 10 rfl rfl hC (fun w hC => y_fieldAddr (o' := 4) Tryz.runUnderlying35 rfl Tryz.sizeOf3 rfl rfl rfl) fun a hs => ?_
  refine gv hs 11 rfl rfl hC (fun w hC => y_loadB1 (hC.ownAt 1 rfl) rfl Tryz.isAgg3 rfl) fun a hs => ?_
  refine gv hs 12 rfl rfl hC (fun w hC => y_fieldAddr (o' := 4) Tryz.runUnderlying35 rfl Tryz.sizeOf3 rfl rfl rfl) fun a hs => ?_
  refine gv hs 13 rfl rfl hC (fun w hC => y_loadB1 (hC.ownAt 0 rfl) rfl Tryz.isAgg3 rfl) fun a hs => ?_
  refine gv hs 15 rfl rfl hC (fun w hC => y_fieldAddr (o' := 5) Tryz.runUnderlying35 rfl Tryz.sizeOf3 rfl rfl rfl) fun a hs => ?_
  refine gv hs 16 rfl rfl hC (fun w hC => y_loadB1 (hC.ownAt 1 rfl) rfl Tryz.isAgg3 rfl) fun a hs => ?_
  refine gv hs 17 rfl rfl hC (fun w hC => y_fieldAddr (o' := 5) Tryz.runUnderlying35 rfl Tryz.sizeOf3 rfl rfl rfl) fun a hs => ?_
  refine gv hs 18 rfl rfl hC (fun w hC => y_loadB1 (hC.ownAt 0 rfl) rfl Tryz.isAgg3 rfl) fun a hs => ?_
  refine gv hs 20 rfl rfl hC (fun w hC => y_fieldAddr (o' := 6) Tryz.runUnderlying35 rfl Tryz.sizeOf33 rfl rfl rfl) fun a hs => ?_
  refine gv hs 21 rfl rfl hC (fun w hC => y_fieldAddr (o' := 6) Tryz.runUnderlying33 rfl Tryz.sizeOf3 rfl rfl rfl) fun a hs => ?_
  refine gv hs 22 rfl rfl hC (fun w hC => y_loadB1 (hC.ownAt 1 rfl) rfl Tryz.isAgg3 rfl) fun a hs => ?_
  refine gv hs 23 rfl rfl hC (fun w hC => y_fieldAddr (o' := 6) Tryz.runUnderlying35 rfl Tryz.sizeOf33 rfl rfl rfl) fun a hs => ?_
  refine gv hs 24 rfl rfl hC (fun w hC => y_fieldAddr (o' := 6) Tryz.runUnderlying33 rfl Tryz.sizeOf3 rfl rfl rfl) fun a hs => ?_
  refine gv hs 25 rfl rfl hC (fun w hC => y_loadB1 (hC.ownAt 0 rfl) rfl Tryz.isAgg3 rfl) fun a hs => ?_
  refine gv hs 27 rfl rfl hC (fun w hC => y_fieldAddr (o' := 6) Tryz.runUnderlying35 rfl Tryz.sizeOf33 rfl rfl rfl) fun a hs => ?_
  refine gv hs 28 rfl rfl hC (fun w hC => y_fieldAddr (o' := 7) Tryz.runUnderlying33 rfl Tryz.sizeOf3 rfl rfl rfl) fun a hs => ?_
  refine gv hs 29 rfl rfl hC (fun w hC => y_loadB1 (hC.ownAt 1 rfl) rfl Tryz.isAgg3 rfl) fun a hs => ?_
  refine gv hs 30 rfl rfl hC (fun w hC => y_fieldAddr (o' := 6) Tryz.runUnderlying35 rfl Tryz.sizeOf33 rfl rfl rfl) fun a hs => ?_
  refine gv hs 31 rfl rfl hC (fun w hC => y_fieldAddr (o' := 7) Tryz.runUnderlying33 rfl Tryz.sizeOf3 rfl rfl rfl) fun a hs => ?_
  refine gv hs 32 rfl rfl hC (fun w hC => y_loadB1 (hC.ownAt 0 rfl) rfl Tryz.isAgg3 rfl) fun a hs => ?_
  refine gv hs 34 rfl rfl hC (fun w hC => y_fieldAddr (o' := 8) Tryz.runUnderlying35 rfl Tryz.sizeOf3 rfl rfl rfl) fun a hs => ?_
  refine gv hs 35 rfl rfl hC (fun w hC => y_loadB1 (hC.ownAt 1 rfl) rfl Tryz.isAgg3 rfl) fun a hs => ?_
  refine gv hs 36 rfl rfl hC (fun w hC => y_fieldAddr (o' := 8) Tryz.runUnderlying35 rfl Tryz.sizeOf3 rfl rfl rfl) fun a hs => ?_
  refine gv hs 37 rfl rfl hC (fun w hC => y_loadB1 (hC.ownAt 0 rfl) rfl Tryz.isAgg3 rfl) fun a hs => ?_
  refine gv hs 39 rfl rfl hC (fun w hC => y_fieldAddr (o' := 9) Tryz.runUnderlying35 rfl Tryz.sizeOf3 rfl rfl rfl) fun a hs => ?_
  refine gv hs 40 rfl rfl hC (fun w hC => y_loadB1 (hC.ownAt 1 rfl) rfl Tryz.isAgg3 rfl) fun a hs => ?_
  refine gv hs 41 rfl rfl hC (fun w hC => y_fieldAddr (o' := 9) Tryz.runUnderlying35 rfl Tryz.sizeOf3 rfl rfl rfl) fun a hs => ?_
  refine gv hs 42 rfl rfl hC (fun w hC => y_loadB1 (hC.ownAt 0 rfl) rfl Tryz.isAgg3 rfl) fun a hs => ?_
  refine gv hs 44 rfl rfl hC (fun w hC => y_fieldAddr (o' := 10) Tryz.runUnderlying35 rfl Tryz.sizeOf3 rfl rfl rfl) fun a hs => ?_
  refine gv hs 45 rfl rfl hC (fun w hC => y_loadB1 (hC.ownAt 1 rfl) rfl Tryz.isAgg3 rfl) fun a hs => ?_
  refine gv hs 46 rfl rfl hC (fun w hC => y_fieldAddr (o' := 10) Tryz.runUnderlying35 rfl Tryz.sizeOf3 rfl rfl rfl) fun a hs => ?_
  refine gv hs 47 rfl rfl hC (fun w hC => y_loadB1 (hC.ownAt 0 rfl) rfl Tryz.isAgg3 rfl) fun a hs => ?_
  refine gv hs 49 rfl rfl hC (fun w hC => y_fieldAddr (o' := 11) Tryz.runUnderlying35 rfl Tryz.sizeOf22 rfl rfl rfl) fun a hs => ?_
  refine gv hs 50 rfl rfl hC (fun w hC => y_loadB1 (hC.ownAt 1 rfl) rfl Tryz.isAgg22 rfl) fun a hs => ?_
  refine gv hs 51 rfl rfl hC (fun w hC => y_len Tryz.runUnderlying22 rfl) fun a hs => ?_
  refine gv hs 52 rfl rfl hC (fun w hC => y_fieldAddr (o' := 11) Tryz.runUnderlying35 rfl Tryz.sizeOf22 rfl rfl rfl) fun a hs => ?_
  refine gv hs 53 rfl rfl hC (fun w hC => y_loadB1 (hC.ownAt 0 rfl) rfl Tryz.isAgg22 rfl) fun a hs => ?_
  refine gv hs 54 rfl rfl hC (fun w hC => y_len Tryz.runUnderlying22 rfl) fun a hs => ?_
  refine gv hs 56 rfl rfl hC (fun w hC => y_fieldAddr (o' := 11) Tryz.runUnderlying35 rfl Tryz.sizeOf22 rfl rfl rfl) fun a hs => ?_
  refine gv hs 57 rfl rfl hC (fun w hC => y_loadB1 (hC.ownAt 1 rfl) rfl Tryz.isAgg22 rfl) fun a hs => ?_
  refine gv hs 58 rfl rfl hC (fun w hC => y_fieldAddr (o' := 11) Tryz.runUnderlying35 rfl Tryz.sizeOf22 rfl rfl rfl) fun a hs => ?_
  refine gv hs 59 rfl rfl hC (fun w hC => y_loadB1 (hC.ownAt 0 rfl) rfl Tryz.isAgg22 rfl) fun a hs => ?_
  refine ho 4 rfl ?_
  refine st_callR hs (source_Compare_ok h11 hw.bdom) (do_call Tryz.call103 rfl) trivial rfl rfl ?_
  intro v45 Sv42 w a h43 h44 hs
  subst h44
  have hw := hw.callB h43
  refine h_nx (hw.cs [0, 1] [] rfl rfl) fun hC => ?_
  refine ho 6 rfl ?_
  refine st_callR hs (record_begin_ok h13 hw.bdom (hw.bE 1 rfl)) (do_call Tryz.call104 rfl) trivial rfl rfl ?_
  intro v50 Sv47 w a h48 h49 hs
  subst h49
  have hw := hw.callB h48
  refine h_nx (hw.cs [0, 1] [] rfl rfl) fun hC => ?_
  refine ho 8 rfl ?_
  refine st_callR hs (record_begin_ok h15 hw.bdom (hw.bE 0 rfl)) (do_call Tryz.call104 rfl) trivial rfl rfl ?_
  intro v55 Sv52 w a h53 h54 hs
  subst h54
  have hw := hw.callB h53
  refine h_nx (hw.cs [0, 1] [] rfl rfl) fun hC => ?_
  refine ho 9 rfl ?_
  refine st_callR hs (cmp_Compare_int_ok h17 hw.bdom) (do_call Tryz.call88 rfl) trivial rfl rfl ?_
  intro v60 Sv57 w a h58 h59 hs
  subst h59
  have hw := hw.callB h58
  refine h_nx (hw.cs [0, 1] [] rfl rfl) fun hC => ?_
  refine ho 14 rfl ?_
  refine st_callR hs (cmp_Compare_int_ok h19 hw.bdom) (do_call Tryz.call88 rfl) trivial rfl rfl ?_
  intro v65 Sv62 w a h63 h64 hs
  subst h64
  have hw := hw.callB h63
  refine h_nx (hw.cs [0, 1] [] rfl rfl) fun hC => ?_
  refine ho 19 rfl ?_
  refine st_callR hs (cmp_Compare_int_ok h21 hw.bdom) (do_call Tryz.call88 rfl) trivial rfl rfl ?_
  intro v70 Sv67 w a h68 h69 hs
  subst h69
  have hw := hw.callB h68
  refine h_nx (hw.cs [0, 1] [] rfl rfl) fun hC => ?_
  refine ho 26 rfl ?_
  refine st_callR hs (cmp_Compare_int_ok h23 hw.bdom) (do_call Tryz.call88 rfl) trivial rfl rfl ?_
  intro v75 Sv72 w a h73 h74 hs
  subst h74
  have hw := hw.callB h73
  refine h_nx (hw.cs [0, 1] [] rfl rfl) fun hC => ?_
  refine ho 33 rfl ?_
  refine st_callR hs (cmp_Compare_int_ok h25 hw.bdom) (do_call Tryz.call88 rfl) trivial rfl rfl ?_
  intro v80 Sv77 w a h78 h79 hs
  subst h79
  have hw := hw.callB h78
  refine h_nx (hw.cs [0, 1] [] rfl rfl) fun hC => ?_
  refine ho 38 rfl ?_
  refine st_callR hs (cmp_Compare_int_ok h27 hw.bdom) (do_call Tryz.call88 rfl) trivial rfl rfl ?_
  intro v85 Sv82 w a h83 h84 hs
  subst h84
  have hw := hw.callB h83
  refine h_nx (hw.cs [0, 1] [] rfl rfl) fun hC => ?_
  refine ho 43 rfl ?_
  refine st_callR hs (cmp_Compare_int_ok h29 hw.bdom) (do_call Tryz.call88 rfl) trivial rfl rfl ?_
  intro v90 Sv87 w a h88 h89 hs
  subst h89
  have hw := hw.callB h88
  refine h_nx (hw.cs [0, 1] [] rfl rfl) fun hC => ?_
  refine ho 48 rfl ?_
  refine st_callR hs (cmp_Compare_int_ok h31 hw.bdom) (do_call Tryz.call88 rfl) trivial rfl rfl ?_
  intro v95 Sv92 w a h93 h94 hs
  subst h94
  have hw := hw.callB h93
  refine h_nx (hw.cs [0, 1] [] rfl rfl) fun hC => ?_
  refine ho 55 rfl ?_
  refine st_callR hs (cmp_Compare_int_ok h33 hw.bdom) (do_call Tryz.call88 rfl) trivial rfl rfl ?_
  intro v100 Sv97 w a h98 h99 hs
  subst h99
  have hw := hw.callB h98
  refine h_nx (hw.cs [0, 1] [] rfl rfl) fun hC => ?_
  refine ho 60 rfl ?_
  refine st_callR hs (slices_Compare_Lint_int_ok h35 hw.bdom (hw.bE 1 rfl) (hw.bE 0 rfl)) (do_call Tryz.call105 rfl) trivial rfl rfl ?_
  intro v105 Sv102 w a h103 h104 hs
  subst h104
  have hw := hw.callB h103
  refine h_nx (hw.cs [0, 1] [] rfl rfl) fun hC => ?_
  refine ho 61 rfl ?_
  refine w_litSlice (α := Int) (vs := [.int .i64 rv12, .int .i64 rv18, .int .i64 rv20, .int .i64 rv22, .int .i64 rv24, .int .i64 rv26, .int .i64 rv28, .int .i64 rv30, .int .i64 rv32, .int .i64 rv34, .int .i64 rv36]) (cs := [.int .i64 rv12, .int .i64 rv18, .int .i64 rv20, .int .i64 rv22, .int .i64 rv24, .int .i64 rv26, .int .i64 rv28, .int .i64 rv30, .int .i64 rv32, .int .i64 rv34, .int .i64 rv36]) (xs := ([rv12, rv18, rv20, rv22, rv24, rv26, rv28, rv30, rv32, rv34, rv36] : List Int)) hs hw El22 rfl rfl rfl rfl rfl rfl ⟨⟨_, rfl, rfl⟩, ⟨⟨_, rfl, rfl⟩, ⟨⟨_, rfl, rfl⟩, ⟨⟨_, rfl, rfl⟩, ⟨⟨_, rfl, rfl⟩, ⟨⟨_, rfl, rfl⟩, ⟨⟨_, rfl, rfl⟩, ⟨⟨_, rfl, rfl⟩, ⟨⟨_, rfl, rfl⟩, ⟨⟨_, rfl, rfl⟩, ⟨⟨_, rfl, rfl⟩, rfl⟩⟩⟩⟩⟩⟩⟩⟩⟩⟩⟩ rfl trivial rfl fun b38 a w hs hw => ?_
  refine h_nx (hw.cs [1, 2] [] rfl rfl) fun hC => ?_
  refine h_st (C' := Cls [.box b10 [.string b5.Source.Network, .string b5.Source.Station, .string b5.Source.Location, .string b5.Source.Channel, .int .i64 b5.Start, .int .i64 b5.First, .int .i64 b5.Rate.Num, .int .i64 b5.Rate.Den, .int .i64 b5.Error, .int .i64 b5.Run, .int .i64 b5.Seq, .slice p6 b5.Samples.length k7] 35, .box b9 [.string a1.Source.Network, .string a1.Source.Station, .string a1.Source.Location, .string a1.Source.Channel, .int .i64 a1.Start, .int .i64 a1.First, .int .i64 a1.Rate.Num, .int .i64 a1.Rate.Den, .int .i64 a1.Error, .int .i64 a1.Run, .int .i64 a1.Seq, .slice p2 a1.Samples.length k3] 35, .row (some ⟨b38, 0, none⟩) ([rv12, rv18, rv20, rv22, rv24, rv26, rv28, rv30, rv32, rv34, rv36] : List Int).length ([rv12, rv18, rv20, rv22, rv24, rv26, rv28, rv30, rv32, rv34, rv36] : List Int).length [.int .i64 rv12, .int .i64 rv18, .int .i64 rv20, .int .i64 rv22, .int .i64 rv24, .int .i64 rv26, .int .i64 rv28, .int .i64 rv30, .int .i64 rv32, .int .i64 rv34, .int .i64 rv36] 3 1] []) (fun _ h => by exact h.sub [0, 1] (Sel.of rfl) (AllIn.of [] rfl)) (hw.cs [1, 2, 0] [] rfl rfl) fun hC => ?_
  refine ho 62 rfl ?_
  refine st_callR hs (cmp_Or_int_ok h39 hw.bdom (hw.bRow 0 rfl 0 rfl)) (do_call Tryz.call99 rfl) trivial rfl rfl ?_
  intro v110 Sv107 w a h108 h109 hs
  subst h109
  have hw := hw.callB h108
  refine h_nx (hw.cs [1, 2, 0] [] rfl rfl) fun hC => ?_
  refine gv hs 63 rfl rfl hC (fun w hC => y_assign rfl) fun a hs => ?_
  refine h_done (by kernel_rfl) ?_
  exact ⟨S0, (hs.wk rfl), (hw.ft [] [] (by decide) rfl rfl)⟩
 rintro a w ⟨Sv41, hs, hw⟩
 refine then_normal ?_
 have hsh := oi hsh
 subst hsh
 refine wp_ret ?_
 exact ret1 hs rfl (rv_tmp rfl) (hw.ret rfl)

theorem record_Compare_fn (S0 : Nat → Prop) (w0 : World) : (FnA2 Tryz.prog 75 [] [] record_Compare).p S0 w0 := by
  refine ⟨Tryz.call75, ?_⟩
  intro S1 w1 hk hS c0 c1 x0 x1 r1 h0 h1 hf
  obtain ⟨_, _, _, _, _, _, _, _, _, _, _, _, rfl, rfl, rfl, rfl, rfl, rfl, rfl, rfl, rfl, rfl, rfl, rfl, ⟨_, _, _, rfl, e0⟩⟩ := h0
  obtain ⟨_, _, _, _, _, _, _, _, _, _, _, _, rfl, rfl, rfl, rfl, rfl, rfl, rfl, rfl, rfl, rfl, rfl, rfl, ⟨_, _, _, rfl, e1⟩⟩ := h1
  obtain rfl := e0.1
  obtain rfl := e1.1
  exact record_Compare_ok hf hS e0 e1 

abbrev slices_CompactFunc_Lapi_Record_api_Record_rd (w0 : World) (X : List Nat) (r : (List Record)) : (Nat → Prop) → World → Value → Prop := fun S w v => ∃ (p0_0 : Option Addr) (k0_0 : Nat) (c0_0 : List Value), v = .slice p0_0 r.length k0_0 ∧ Outs X w0 S w [.row p0_0 r.length k0_0 c0_0 35 12] ∧ (RowA c0_0 r).p S w
set_option maxHeartbeats 4000000 in
set_option maxRecDepth 100000 in
theorem slices_CompactFunc_Lapi_Record_api_Record_ok {w0 : World} {S0 : Nat → Prop} {p2 : Option Addr} {k3 : Nat} {c4 : List Value} {g7 : Nat} {f8 : List Value} {cp9 : List Value} {s1 : (List Record)} {eq6 : Record → Record → Option Bool} {r : (List Record)} (hsh : slices_CompactFunc_Lapi_Record_api_Record s1 eq6 = some r) (hS : ∀ b, S0 b → b < w0.heap.size) (hin : Ins S0 w0 [.row p2 s1.length k3 c4 35 12]) (h5 : (RowA c4 s1).p S0 w0) (h10 : (FnA2 Tryz.prog g7 f8 cp9 eq6).p S0 w0) : Calls Tryz.prog 94 #[.slice p2 s1.length k3, .func (.func g7) f8.toArray cp9.toArray] w0 (Ret (blks [.row p2 s1.length k3 c4 35 12]) w0 S0 (slices_CompactFunc_Lapi_Record_api_Record_rd w0 (blks [.row p2 s1.length k3 c4 35 12]) r)) := by
 refine calls_of_wp Tryz.func94 rfl ?_
 have hs := Sl.enter #[.slice p2 s1.length k3, .func (.func g7) f8.toArray cp9.toArray] 66 [(0, .slice p2 s1.length k3), (1, .func (.func g7) f8.toArray cp9.toArray)] rfl ⟨rfl, rfl, trivial⟩
 have hw := Wd.enterI hS hin
 have hw := hw.addE h5
 have hw := hw.addE (e := LenA s1.length s1) len_rfl
 have hw := hw.addE h10
 delta slices_CompactFunc_Lapi_Record_api_Record at hsh
 refine sr ?_
 refine av hs rfl rfl fun a hs => ?_
 refine nl ?_
 refine wp_seq ?_
 refine sr ?_
 refine mv hs rfl rfl fun a hs => ?_
 refine sv hs (y_len Tryz.runUnderlying27 rfl) rfl fun a hs => ?_
 refine sv hs (y_lss rfl rfl) rfl fun a hs => ?_
 refine nl ?_
 refine wp_cond_split (hs.ev rfl) (fun h12 => ?_) (fun h12 => ?_)
 ·have hsh := ite_t hsh h12
  refine sr ?_
  refine mv hs rfl rfl fun a hs => ?_
  refine av hs rfl rfl fun a hs => ?_
  refine nl ?_
  have hsh := oi hsh
  subst hsh
  refine wp_ret ?_
  refine then_ret ?_
  exact ret1 hs rfl (rv_tmp rfl) (hw.ret ⟨p2, k3, c4, rfl, (hw.outs [0] (by decide) rfl), (hw.envAt 2 rfl)⟩)
 have hsh := ite_f hsh h12
 refine wp_skip ?_
 refine then_normal ?_
 refine wp_seq ?_
 refine sr ?_
 refine av hs rfl rfl fun a hs => ?_
 refine nl ?_
 refine wp_block ?_
 refine wp_while (fun sv825 a w => ∃ (Sv1365 : Nat → Prop), Sl 66 [(0, .slice p2 s1.length k3), (1, .func (.func g7) f8.toArray cp9.toArray), (5, .int .i64 sv825)] a ∧ Wd ⟨w0, S0, blks [.row p2 s1.length k3 c4 35 12]⟩ Sv1365 [.row p2 s1.length k3 c4 35 12] [FnA2 Tryz.prog g7 f8 cp9 eq6, RowA c4 s1, LenA s1.length s1] w) 1 hsh ⟨S0, (hs.wk rfl), (hw.ft [0] [0, 2, 1] (by decide) rfl rfl)⟩ ?_
 repeat clear hsh
 rintro sv825 a w tv1636 ⟨Sv1365, hs, hw⟩ hsh hd1635
 delta slices_CompactFunc_Lapi_Record_api_Record_l7 at hsh
 refine wp_seq ?_
 refine sr ?_
 refine mv hs rfl rfl fun a hs => ?_
 refine mv hs rfl rfl fun a hs => ?_
 refine sv hs (y_len Tryz.runUnderlying27 rfl) rfl fun a hs => ?_
 refine sv hs (y_lss rfl rfl) rfl fun a hs => ?_
 refine nl ?_
 refine wp_cond_split (hs.ev rfl) (fun h1640 => ?_) (fun h1640 => ?_)
 ·have hsh := ite_t hsh h1640
  refine wp_skip ?_
  refine then_normal ?_
  refine wp_seq ?_
  refine wp_block ?_
  refine wp_seq ?_
  obtain ⟨x1909, h1907, hsh⟩ := bind_t hsh
  obtain ⟨b1916, q1913, c1914, h1917, h1910, h1911, h1915, h1908⟩ := hw.elemRV (α := Record) 0 rfl 1 rfl h1907
  have hsv1918 := hs
  have hwv1919 := hw
  subst h1917
  have hs := hsv1918
  have hw := hwv1919
  obtain ⟨_, _, _, _, _, _, _, _, _, _, _, _, rfl, rfl, rfl, rfl, rfl, rfl, rfl, rfl, rfl, rfl, rfl, rfl, ⟨p1920, n1921, k1922, rfl, h1923⟩⟩ := h1908
  obtain rfl := h1923.1
  have hw := hw.addE (e := SlA p1920 _ k1922 x1909.Samples) h1923
  obtain ⟨x1926, h1924, hsh⟩ := bind_t hsh
  obtain ⟨q1930, c1931, h1927, h1928, h1932, h1925⟩ := hw.elemRK (α := Record) 0 rfl 2 rfl h1924
  obtain ⟨_, _, _, _, _, _, _, _, _, _, _, _, rfl, rfl, rfl, rfl, rfl, rfl, rfl, rfl, rfl, rfl, rfl, rfl, ⟨p1933, n1934, k1935, rfl, h1936⟩⟩ := h1925
  obtain rfl := h1936.1
  have hw := hw.addE (e := SlA p1933 _ k1935 x1926.Samples) h1936
  obtain ⟨rv1938, h1937, hsh⟩ := bind_t hsh
  refine wp_only (fun a w => ∃ (Sv1939 : Nat → Prop), Sl 66 [(0, .slice (some ⟨b1916, 0, none⟩) s1.length k3), (1, .func (.func g7) f8.toArray cp9.toArray), (5, .int .i64 sv825), (28, .bool rv1938)] a ∧ Wd ⟨w0, S0, blks [.row (some ⟨b1916, 0, none⟩) s1.length k3 c4 35 12]⟩ Sv1939 [.row (some ⟨b1916, 0, none⟩) s1.length k3 c4 35 12] [FnA2 Tryz.prog g7 f8 cp9 eq6, RowA c4 s1, LenA s1.length s1] w) ?_ ?_
  ·refine h_b (C := Cls [.row (some ⟨b1916, 0, none⟩) s1.length k3 c4 35 12] []) (by kernel_rfl) rfl (hw.drew.cs [0] [] rfl rfl) fun hC => ?_
   have hw := hw.drew
   refine gm hs 0 rfl rfl rfl hC fun a hs => ?_
   refine gm hs 1 rfl rfl rfl hC fun a hs => ?_
   refine gm hs 2 rfl rfl rfl hC fun a hs => ?_
   refine gv hs 3 rfl rfl hC (fun w hC => y_indexAt Tryz.runUnderlying27 Tryz.sizeOf35 rfl rfl h1910.1 h1910.2 h1911) fun a hs => ?_
   refine gv hs 4 rfl rfl hC (fun w hC => y_loadQA (j := 0) (hC.ownAt 0 rfl) rfl Tryz.isAgg35 Tryz.sizeOf35 h1915 rfl rfl) fun a hs => ?_
   refine gm hs 5 rfl rfl rfl hC fun a hs => ?_
   refine gm hs 6 rfl rfl rfl hC fun a hs => ?_
   refine gv hs 7 rfl rfl hC (fun w hC => y_sub rfl rfl) fun a hs => ?_
   refine gv hs 8 rfl rfl hC (fun w hC => y_indexAt Tryz.runUnderlying27 Tryz.sizeOf35 rfl rfl h1927.1 h1927.2 h1928) fun a hs => ?_
   refine gv hs 9 rfl rfl hC (fun w hC => y_loadQA (j := 0) (hC.ownAt 0 rfl) rfl Tryz.isAgg35 Tryz.sizeOf35 h1932 rfl rfl) fun a hs => ?_
   refine ho 10 rfl ?_
   refine st_callR hs ((hw.bE 2 rfl).2 Keep.rfl' hw.bdom ⟨_, _, _, _, _, _, _, _, _, _, _, _, rfl, rfl, rfl, rfl, rfl, rfl, rfl, rfl, rfl, rfl, rfl, rfl, ⟨_, _, _, rfl, hw.bE 1 rfl⟩⟩ ⟨_, _, _, _, _, _, _, _, _, _, _, _, rfl, rfl, rfl, rfl, rfl, rfl, rfl, rfl, rfl, rfl, rfl, rfl, ⟨_, _, _, rfl, hw.bE 0 rfl⟩⟩ h1937) (do_callF (hw.bE 2 rfl).1 rfl rfl) trivial rfl rfl ?_
   intro v1943 Sv1940 w a h1941 h1942 hs
   subst h1942
   have hw := hw.callB h1941
   refine h_nx (hw.cs [0] [] rfl rfl) fun hC => ?_
   refine h_done (by kernel_rfl) ?_
   exact ⟨Sv1365, (hs.wk rfl), (hw.ft [0] [2, 3, 4] (by decide) rfl rfl)⟩
  rintro a w ⟨Sv1939, hs, hw⟩
  refine then_normal ?_
  refine wp_cond_split (hs.ev rfl) (fun h2177 => ?_) (fun h2177 => ?_)
  ·have hsh := ite_t hsh h2177
   refine sr ?_
   refine mv hs rfl rfl fun a hs => ?_
   refine mv hs rfl rfl fun a hs => ?_
   obtain ⟨l2182, h2178, hsh⟩ := bind_t hsh
   obtain ⟨o2180, k2181, h2179⟩ := row_sub_at (α := Record) hw 0 rfl h2178
   refine sv hs (y_slc Tryz.runUnderlying27 Tryz.sizeOf35 rfl ⟨_, rfl⟩ (by exact rfl) h2179) rfl fun a hs => ?_
   refine av hs rfl rfl fun a hs => ?_
   refine nl ?_
   refine wp_seq ?_
   refine sr ?_
   refine av hs rfl rfl fun a hs => ?_
   refine nl ?_
   obtain ⟨e2392, h2581, hsh⟩ := bind_t hsh
   refine wp_join (fun a w => ∃ (c2393 : List Value) (Sv2394 : Nat → Prop), Sl 66 [(0, .slice (some ⟨b1916, 0, none⟩) e2392.1.length k3), (5, .int .i64 e2392.2)] a ∧ Wd ⟨w0, S0, blks [.row (some ⟨b1916, 0, none⟩) s1.length k3 c4 35 12]⟩ Sv2394 [.row (some ⟨b1916, 0, none⟩) e2392.1.length k3 c2393 35 12] [RowA c2393 e2392.1, LenA s1.length e2392.1] w) ?_ ?_
   ·refine wp_block ?_
    refine wp_while (fun sv2183 a w => ∃ (c2320 : List Value) (Sv2321 : Nat → Prop), Sl 66 [(0, .slice (some ⟨b1916, 0, none⟩) sv2183.1.length k3), (1, .func (.func g7) f8.toArray cp9.toArray), (5, .int .i64 sv2183.2.1), (6, .slice (some ⟨b1916, o2180, none⟩) l2182.length k2181), (7, .int .i64 sv2183.2.2)] a ∧ Wd ⟨w0, S0, blks [.row (some ⟨b1916, 0, none⟩) s1.length k3 c4 35 12]⟩ Sv2321 [.row (some ⟨b1916, 0, none⟩) sv2183.1.length k3 c2320 35 12] [FnA2 Tryz.prog g7 f8 cp9 eq6, RowA c2320 sv2183.1, LenA s1.length sv2183.1] w) (s1, sv825, 1) h2581 ⟨c4, Sv1939, (hs.wk rfl), (hw.ft [0] [0, 1, 2] (by decide) rfl rfl)⟩ ?_
    clear h2581
    repeat clear hsh
    rintro sv2183 a w tv2390 ⟨c2320, Sv2321, hs, hw⟩ hsh hd2389
    delta slices_CompactFunc_Lapi_Record_api_Record_l11 at hsh
    refine wp_seq ?_
    refine sr ?_
    refine mv hs rfl rfl fun a hs => ?_
    refine mv hs rfl rfl fun a hs => ?_
    refine sv hs (y_len Tryz.runUnderlying27 rfl) rfl fun a hs => ?_
    refine sv hs (y_lss rfl rfl) rfl fun a hs => ?_
    refine nl ?_
    refine wp_cond_split (hs.ev rfl) (fun h2396 => ?_) (fun h2396 => ?_)
    ·have hsh := ite_t hsh h2396
     refine wp_skip ?_
     refine then_normal ?_
     refine wp_seq ?_
     refine wp_block ?_
     refine wp_seq ?_
     obtain ⟨x2468, h2461, hsh⟩ := bind_t hsh
     obtain ⟨q2466, c2467, h2463, h2464, h2465, h2462⟩ := hw.elemLK (α := Record) 0 rfl 1 rfl h2179 h2461
     obtain ⟨_, _, _, _, _, _, _, _, _, _, _, _, rfl, rfl, rfl, rfl, rfl, rfl, rfl, rfl, rfl, rfl, rfl, rfl, ⟨p2469, n2470, k2471, rfl, h2472⟩⟩ := h2462
     obtain rfl := h2472.1
     have hw := hw.addE (e := SlA p2469 _ k2471 x2468.Samples) h2472
     obtain ⟨x2480, h2473, hsh⟩ := bind_t hsh
     obtain ⟨q2478, c2479, h2475, h2476, h2477, h2474⟩ := hw.elemLK (α := Record) 0 rfl 2 rfl h2179 h2473
     obtain ⟨_, _, _, _, _, _, _, _, _, _, _, _, rfl, rfl, rfl, rfl, rfl, rfl, rfl, rfl, rfl, rfl, rfl, rfl, ⟨p2481, n2482, k2483, rfl, h2484⟩⟩ := h2474
     obtain rfl := h2484.1
     have hw := hw.addE (e := SlA p2481 _ k2483 x2480.Samples) h2484
     obtain ⟨rv2486, h2485, hsh⟩ := bind_t hsh
     refine wp_only (fun a w => ∃ (Sv2487 : Nat → Prop), Sl 66 [(0, .slice (some ⟨b1916, 0, none⟩) sv2183.1.length k3), (1, .func (.func g7) f8.toArray cp9.toArray), (5, .int .i64 sv2183.2.1), (6, .slice (some ⟨b1916, o2180, none⟩) l2182.length k2181), (7, .int .i64 sv2183.2.2), (49, .bool (!rv2486))] a ∧ Wd ⟨w0, S0, blks [.row (some ⟨b1916, 0, none⟩) s1.length k3 c4 35 12]⟩ Sv2487 [.row (some ⟨b1916, 0, none⟩) sv2183.1.length k3 c2320 35 12] [FnA2 Tryz.prog g7 f8 cp9 eq6, RowA c2320 sv2183.1, LenA s1.length sv2183.1] w) ?_ ?_
     ·refine h_b (C := Cls [.row (some ⟨b1916, 0, none⟩) sv2183.1.length k3 c2320 35 12] []) (by kernel_rfl) rfl (hw.drew.cs [0] [] rfl rfl) fun hC => ?_
      have hw := hw.drew
      refine gm hs 0 rfl rfl rfl hC fun a hs => ?_
      refine gm hs 1 rfl rfl rfl hC fun a hs => ?_
      refine gm hs 2 rfl rfl rfl hC fun a hs => ?_
      refine gv hs 3 rfl rfl hC (fun w hC => y_indexAt Tryz.runUnderlying27 Tryz.sizeOf35 rfl rfl h2463.1 h2463.2 h2464) fun a hs => ?_
      refine gv hs 4 rfl rfl hC (fun w hC => y_loadQA (j := 0) (hC.ownAt 0 rfl) rfl Tryz.isAgg35 Tryz.sizeOf35 h2465 rfl rfl) fun a hs => ?_
      refine gm hs 5 rfl rfl rfl hC fun a hs => ?_
      refine gm hs 6 rfl rfl rfl hC fun a hs => ?_
      refine gv hs 7 rfl rfl hC (fun w hC => y_sub rfl rfl) fun a hs => ?_
      refine gv hs 8 rfl rfl hC (fun w hC => y_indexAt Tryz.runUnderlying27 Tryz.sizeOf35 rfl rfl h2475.1 h2475.2 h2476) fun a hs => ?_
      refine gv hs 9 rfl rfl hC (fun w hC => y_loadQA (j := 0) (hC.ownAt 0 rfl) rfl Tryz.isAgg35 Tryz.sizeOf35 h2477 rfl rfl) fun a hs => ?_
      refine ho 10 rfl ?_
      refine st_callR hs ((hw.bE 2 rfl).2 Keep.rfl' hw.bdom ⟨_, _, _, _, _, _, _, _, _, _, _, _, rfl, rfl, rfl, rfl, rfl, rfl, rfl, rfl, rfl, rfl, rfl, rfl, ⟨_, _, _, rfl, hw.bE 1 rfl⟩⟩ ⟨_, _, _, _, _, _, _, _, _, _, _, _, rfl, rfl, rfl, rfl, rfl, rfl, rfl, rfl, rfl, rfl, rfl, rfl, ⟨_, _, _, rfl, hw.bE 0 rfl⟩⟩ h2485) (do_callF (hw.bE 2 rfl).1 rfl rfl) trivial rfl rfl ?_
      intro v2491 Sv2488 w a h2489 h2490 hs
      subst h2490
      have hw := hw.callB h2489
      refine h_nx (hw.cs [0] [] rfl rfl) fun hC => ?_
      refine gv hs 11 rfl rfl hC (fun w hC => y_not rfl) fun a hs => ?_
      refine h_done (by kernel_rfl) ?_
      exact ⟨Sv2321, (hs.wk rfl), (hw.ft [0] [2, 3, 4] (by decide) rfl rfl)⟩
     rintro a w ⟨Sv2487, hs, hw⟩
     refine then_normal ?_
     refine wp_join (fun a w => ∃ (sv2527 : (List Record)) (k2528 : Int) (c2525 : List Value) (Sv2526 : Nat → Prop), slices_CompactFunc_Lapi_Record_api_Record_j1 sv2183 sv2527 k2528 = some tv2390 ∧ Sl 66 [(0, .slice (some ⟨b1916, 0, none⟩) sv2527.length k3), (1, .func (.func g7) f8.toArray cp9.toArray), (5, .int .i64 k2528), (6, .slice (some ⟨b1916, o2180, none⟩) l2182.length k2181), (7, .int .i64 sv2183.2.2)] a ∧ Wd ⟨w0, S0, blks [.row (some ⟨b1916, 0, none⟩) s1.length k3 c4 35 12]⟩ Sv2526 [.row (some ⟨b1916, 0, none⟩) sv2527.length k3 c2525 35 12] [FnA2 Tryz.prog g7 f8 cp9 eq6, RowA c2525 sv2527, LenA s1.length sv2527] w) ?_ ?_
     ·refine wp_cond_split (hs.ev rfl) (fun h2531 => ?_) (fun h2531 => ?_)
      ·have hsh := ite_t hsh h2531
       refine sr ?_
       refine mv hs rfl rfl fun a hs => ?_
       refine mv hs rfl rfl fun a hs => ?_
       refine mv hs rfl rfl fun a hs => ?_
       refine mv hs rfl rfl fun a hs => ?_
       obtain ⟨x2539, h2532, hsh⟩ := bind_t hsh
       obtain ⟨q2537, c2538, h2534, h2535, h2536, h2533⟩ := hw.elemLK (α := Record) 0 rfl 1 rfl h2179 h2532
       obtain ⟨_, _, _, _, _, _, _, _, _, _, _, _, rfl, rfl, rfl, rfl, rfl, rfl, rfl, rfl, rfl, rfl, rfl, rfl, ⟨p2540, n2541, k2542, rfl, h2543⟩⟩ := h2533
       obtain rfl := h2543.1
       have hw := hw.addE (e := SlA p2540 _ k2542 x2539.Samples) h2543
       refine sv hs (y_indexAt Tryz.runUnderlying27 Tryz.sizeOf35 rfl rfl h2534.1 h2534.2 h2535) rfl fun a hs => ?_
       refine sv hs (y_loadQA (j := 0) (hw.ownAt 0 rfl) rfl Tryz.isAgg35 Tryz.sizeOf35 h2536 rfl rfl) rfl fun a hs => ?_
       obtain ⟨x2546, h2544, hsh⟩ := bind_t hsh
       obtain ⟨q2550, c2551, h2547, h2548, h2552, h2545⟩ := hw.elemRK (α := Record) 0 rfl 2 rfl h2544
       obtain ⟨_, _, _, _, _, _, _, _, _, _, _, _, rfl, rfl, rfl, rfl, rfl, rfl, rfl, rfl, rfl, rfl, rfl, rfl, ⟨p2553, n2554, k2555, rfl, h2556⟩⟩ := h2545
       obtain rfl := h2556.1
       have hw := hw.addE (e := SlA p2553 _ k2555 x2546.Samples) h2556
       refine sv hs (y_indexAt Tryz.runUnderlying27 Tryz.sizeOf35 rfl rfl h2547.1 h2547.2 h2548) rfl fun a hs => ?_
       obtain ⟨l2558, h2557, hsh⟩ := bind_t hsh
       have h2561 := hw.envAt 4 rfl
       refine w_storeF (α := Record) hs hw 0 rfl 3 rfl h2548 rfl rfl Tryz.sizeOf35 rfl h2557 ⟨_, _, _, _, _, _, _, _, _, _, _, _, rfl, rfl, rfl, rfl, rfl, rfl, rfl, rfl, rfl, rfl, rfl, rfl, ⟨_, _, _, rfl, hw.envAt 1 rfl⟩⟩ trivial ?_
       intro c2559 a w hs hw
       have hw := hw.addE (e := LenA s1.length l2558) (len_set (w := w) (S := S0) h2561 h2557)
       have h2560 := setM_len h2557
       try have hs := hs.fl 0 rfl h2560
       try have hs := hs.fl 50 rfl h2560
       refine nl ?_
       refine wp_region_lit ?_
       refine mv hs rfl rfl fun a hs => ?_
       refine sv hs (y_add rfl rfl) rfl fun a hs => ?_
       obtain ⟨k2563, h2562, hsh⟩ := bind_t hsh
       refine sv hs (y_assignI rfl h2562) rfl fun a hs => ?_
       refine nl ?_
       exact ⟨l2558, k2563, c2559, Sv2487, hsh, (hs.wk rfl), (hw.ft [0] [4, 1, 0] (by decide) rfl rfl)⟩
      have hsh := ite_f hsh h2531
      refine wp_skip ?_
      refine then_normal ?_
      exact ⟨sv2183.1, sv2183.2.1, c2320, Sv2487, hsh, (hs.wk rfl), (hw.ft [0] [0, 1, 2] (by decide) rfl rfl)⟩
     rintro a w ⟨sv2527, k2528, c2525, Sv2526, hsh, hs, hw⟩
     delta slices_CompactFunc_Lapi_Record_api_Record_j1 at hsh
     refine blk_normal ?_
     refine then_normal ?_
     refine wp_region_lit ?_
     refine mv hs rfl rfl fun a hs => ?_
     refine sv hs (y_add rfl rfl) rfl fun a hs => ?_
     obtain ⟨k2_2530, h2529, hsh⟩ := bind_t hsh
     refine sv hs (y_assignI rfl h2529) rfl fun a hs => ?_
     refine nl ?_
     exact ⟨_, (Option.some.inj hsh).symm, c2525, Sv2526, (hs.wk rfl), (hw.ft [0] [0, 1, 2] (by decide) rfl rfl)⟩
    have hsh := ite_f hsh h2396
    refine wp_exit ?_
    refine then_exit ?_
    refine then_exit ?_
    refine blk_exit ?_
    have hsh := oi hsh
    subst hsh
    have h2564 := hd2389 _ rfl
    subst h2564
    refine then_normal ?_
    exact ⟨c2320, Sv2321, (hs.wk rfl), (hw.ft [0] [1, 2] (by decide) rfl rfl)⟩
   rintro a w ⟨c2393, Sv2394, hs, hw⟩
   refine then_normal ?_
   refine sr ?_
   refine mv hs rfl rfl fun a hs => ?_
   refine mv hs rfl rfl fun a hs => ?_
   obtain ⟨l2569, h2565, hsh⟩ := bind_t hsh
   obtain ⟨p2567, k2568, h2566⟩ := row_sub (α := Record) hw 0 rfl h2565
   refine sv hs (y_slc Tryz.runUnderlying27 Tryz.sizeOf35 rfl ⟨_, rfl⟩ (by exact rfl) h2566) rfl fun a hs => ?_
   obtain ⟨l2570, h2571, hsh⟩ := bind_t hsh
   have h2576 := hw.envAt 1 rfl
   refine w_clear (α := Record) (z0 := ((⟨(⟨ByteArray.empty, ByteArray.empty, ByteArray.empty, ByteArray.empty⟩ : SourceID), 0, 0, (⟨0, 0⟩ : Rate), 0, 0, 0, ([] : List Int)⟩ : Record) : Record)) hs hw 0 rfl 0 rfl El27 ⟨_, _, _, _, _, _, _, _, _, _, _, _, rfl, rfl, rfl, rfl, rfl, rfl, rfl, rfl, rfl, rfl, rfl, rfl, ⟨none, 0, 0, rfl, nil_sl⟩⟩ h2565 h2566 rfl trivial ?_
   intro c2572 a w hs hw
   rw [Option.some.inj h2571] at hw
   have hw := hw.addE (e := LenA s1.length l2570) (by have q := len_copy (w := w) (S := S0) (S' := S0) (w' := w) (ys := List.replicate l2569.length ((⟨(⟨ByteArray.empty, ByteArray.empty, ByteArray.empty, ByteArray.empty⟩ : SourceID), 0, 0, (⟨0, 0⟩ : Rate), 0, 0, 0, ([] : List Int)⟩ : Record) : Record)) h2576 h2565; rw [Option.some.inj h2571] at q; exact q)
   have h2573 := (copy_lenS h2565 h2571)
   try have hs := hs.fl 0 rfl h2573
   try have hs := hs.fl 59 rfl h2573
   refine nl ?_
   refine sr ?_
   refine mv hs rfl rfl fun a hs => ?_
   refine mv hs rfl rfl fun a hs => ?_
   obtain ⟨l2579, h2577, hsh⟩ := bind_t hsh
   obtain ⟨hw, h2578⟩ := w_cut hw 0 rfl 1 rfl h2577
   refine sv hs (y_slc Tryz.runUnderlying27 Tryz.sizeOf35 rfl (by exact rfl) ⟨_, rfl⟩ h2578) rfl fun a hs => ?_
   refine av hs rfl rfl fun a hs => ?_
   refine nl ?_
   have hsh := oi hsh
   subst hsh
   have h2580 := hd1635 _ rfl
   subst h2580
   refine wp_ret ?_
   refine blk_ret ?_
   refine then_ret ?_
   refine then_ret ?_
   refine blk_ret ?_
   refine then_ret ?_
   exact ret1 hs rfl (rv_tmp rfl) (hw.ret ⟨(some ⟨b1916, 0, none⟩), k3, (c2572.take (l2579.length * 12)), rfl, (hw.outs [0] (by decide) rfl), (hw.envAt 0 rfl)⟩)
  have hsh := ite_f hsh h2177
  refine wp_skip ?_
  refine blk_normal ?_
  refine then_normal ?_
  refine wp_region_lit ?_
  refine mv hs rfl rfl fun a hs => ?_
  refine sv hs (y_add rfl rfl) rfl fun a hs => ?_
  obtain ⟨k2583, h2582, hsh⟩ := bind_t hsh
  refine sv hs (y_assignI rfl h2582) rfl fun a hs => ?_
  refine nl ?_
  exact ⟨_, (Option.some.inj hsh).symm, Sv1939, (hs.wk rfl), (hw.ft [0] [0, 1, 2] (by decide) rfl rfl)⟩
 have hsh := ite_f hsh h1640
 obtain ⟨rv2584, hsh, h2585⟩ := map_t hsh
 have h2585 := (hd1635 _ h2585.symm).symm
 subst h2585
 refine wp_exit ?_
 refine then_exit ?_
 refine then_exit ?_
 refine blk_exit ?_
 refine then_normal ?_
 refine sr ?_
 refine mv hs rfl rfl fun a hs => ?_
 refine av hs rfl rfl fun a hs => ?_
 refine nl ?_
 have hsh := oi hsh
 subst hsh
 refine wp_ret ?_
 exact ret1 hs rfl (rv_tmp rfl) (hw.ret ⟨p2, k3, c4, rfl, (hw.outs [0] (by decide) rfl), (hw.envAt 1 rfl)⟩)

abbrev slices_Equal_Lint_int_rd (w0 : World) (X : List Nat) (r : Bool) : (Nat → Prop) → World → Value → Prop := fun S w v => v = .bool r
set_option maxHeartbeats 4000000 in
set_option maxRecDepth 100000 in
theorem slices_Equal_Lint_int_ok {w0 : World} {S0 : Nat → Prop} {p2 : Option Addr} {k3 : Nat} {p6 : Option Addr} {k7 : Nat} {s1_1 : (List Int)} {s2_5 : (List Int)} {r : Bool} (hsh : slices_Equal_Lint_int s1_1 s2_5 = some r) (hS : ∀ b, S0 b → b < w0.heap.size) (h4 : (SlA p2 s1_1.length k3 s1_1).p S0 w0) (h8 : (SlA p6 s2_5.length k7 s2_5).p S0 w0) : Calls Tryz.prog 119 #[.slice p2 s1_1.length k3, .slice p6 s2_5.length k7] w0 (Ret ([]) w0 S0 (slices_Equal_Lint_int_rd w0 ([]) r)) := by
 refine calls_of_wp Tryz.func119 rfl ?_
 have hs := Sl.enter #[.slice p2 s1_1.length k3, .slice p6 s2_5.length k7] 26 [(0, .slice p2 s1_1.length k3), (1, .slice p6 s2_5.length k7)] rfl ⟨rfl, rfl, trivial⟩
 have hw := Wd.enter (E := []) hS (fun _ h => (by cases h))
 have hw := hw.addE h4
 have hw := hw.addE h8
 delta slices_Equal_Lint_int at hsh
 refine sr ?_
 refine av hs rfl rfl fun a hs => ?_
 refine nl ?_
 refine wp_seq ?_
 refine sr ?_
 refine mv hs rfl rfl fun a hs => ?_
 refine sv hs (y_len Tryz.runUnderlying22 rfl) rfl fun a hs => ?_
 refine mv hs rfl rfl fun a hs => ?_
 refine sv hs (y_len Tryz.runUnderlying22 rfl) rfl fun a hs => ?_
 refine sv hs (y_neq rfl rfl) rfl fun a hs => ?_
 refine nl ?_
 refine wp_cond_split (hs.ev rfl) (fun h10 => ?_) (fun h10 => ?_)
 ·have hsh := ite_t hsh h10
  refine sr ?_
  refine av hs rfl rfl fun a hs => ?_
  refine nl ?_
  have hsh := oi hsh
  subst hsh
  refine wp_ret ?_
  refine then_ret ?_
  exact ret1 hs rfl (rv_tmp rfl) (hw.ret rfl)
 have hsh := ite_f hsh h10
 refine wp_skip ?_
 refine then_normal ?_
 refine wp_seq ?_
 refine sr ?_
 refine mv hs rfl rfl fun a hs => ?_
 refine sv hs (y_len Tryz.runUnderlying22 rfl) rfl fun a hs => ?_
 refine mv hs rfl rfl fun a hs => ?_
 refine nl ?_
 refine wp_block ?_
 refine wp_while (fun sv103 a w => ∃ (Sv163 : Nat → Prop), Sl 26 [(0, .slice p2 s1_1.length k3), (1, .slice p6 s2_5.length k7), (12, .int .i64 (s1_1.length : Int)), (13, .int .i64 sv103)] a ∧ Wd ⟨w0, S0, []⟩ Sv163 [] [SlA p2 s1_1.length k3 s1_1, SlA p6 s2_5.length k7 s2_5] w) 0 hsh ⟨S0, (hs.wk rfl), (hw.ft [] [1, 0] (by decide) rfl rfl)⟩ ?_
 repeat clear hsh
 rintro sv103 a w tv194 ⟨Sv163, hs, hw⟩ hsh hd193
 delta slices_Equal_Lint_int_l2 at hsh
 refine sr ?_
 refine sv hs (y_lss rfl rfl) rfl fun a hs => ?_
 refine nl ?_
 refine wp_seq ?_
 refine wp_cond_split (hs.ev rfl) (fun h198 => ?_) (fun h198 => ?_)
 ·have hsh := ite_t hsh h198
  refine wp_skip ?_
  refine then_normal ?_
  refine wp_seq ?_
  refine wp_block ?_
  refine sr ?_
  refine mv hs rfl rfl fun a hs => ?_
  refine av hs rfl rfl fun a hs => ?_
  refine nl ?_
  refine wp_seq ?_
  obtain ⟨x229, h227, hsh⟩ := bind_t hsh
  obtain ⟨b235, o236, q233, c234, h237, h230, h231, h232, h228⟩ := hw.elemV 0 rfl h227
  have hsv238 := hs
  have hwv239 := hw
  subst h237
  have hs := hsv238
  have hw := hwv239
  obtain ⟨_, rfl, rfl⟩ := h228
  have hw := hw.addE h232
  obtain ⟨x242, h240, hsh⟩ := bind_t hsh
  obtain ⟨b248, o249, q246, c247, h250, h243, h244, h245, h241⟩ := hw.elemV 2 rfl h240
  have hsv251 := hs
  have hwv252 := hw
  subst h250
  have hs := hsv251
  have hw := hwv252
  obtain ⟨_, rfl, rfl⟩ := h241
  have hw := hw.addE h245
  refine wp_only (fun a w => ∃ (Sv253 : Nat → Prop), Sl 26 [(0, .slice (some ⟨b235, o236, none⟩) s1_1.length k3), (1, .slice (some ⟨b248, o249, none⟩) s2_5.length k7), (12, .int .i64 (s1_1.length : Int)), (13, .int .i64 sv103), (24, .bool (x229 != x242))] a ∧ Wd ⟨w0, S0, []⟩ Sv253 [] [SlA (some ⟨b235, o236, none⟩) s1_1.length k3 s1_1, SlA (some ⟨b248, o249, none⟩) s2_5.length k7 s2_5] w) ?_ ?_
  ·refine h_b (C := Cls [] [CeA b248 q246 [.int .i64 x242], CeA b235 q233 [.int .i64 x229]]) (by kernel_rfl) rfl (hw.drew.cs [] [0, 1] rfl rfl) fun hC => ?_
   have hw := hw.drew
   refine gm hs 0 rfl rfl rfl hC fun a hs => ?_
   refine gm hs 1 rfl rfl rfl hC fun a hs => ?_
   refine gv hs 2 rfl rfl hC (fun w hC => y_indexAt Tryz.runUnderlying22 Tryz.sizeOf3 rfl rfl h230.1 h230.2 h231) fun a hs => ?_
   refine gv hs 3 rfl rfl hC (fun w hC => y_loadE1 (j := 0) (hC.ceAt 1 rfl) rfl Tryz.isAgg3 rfl) fun a hs => ?_
   refine gm hs 4 rfl rfl rfl hC fun a hs => ?_
   refine gm hs 5 rfl rfl rfl hC fun a hs => ?_
   refine gv hs 6 rfl rfl hC (fun w hC => y_indexAt Tryz.runUnderlying22 Tryz.sizeOf3 rfl rfl h243.1 h243.2 h244) fun a hs => ?_
   refine gv hs 7 rfl rfl hC (fun w hC => y_loadE1 (j := 0) (hC.ceAt 0 rfl) rfl Tryz.isAgg3 rfl) fun a hs => ?_
   refine gv hs 8 rfl rfl hC (fun w hC => y_neq rfl rfl) fun a hs => ?_
   refine h_done (by kernel_rfl) ?_
   exact ⟨Sv163, (hs.wk rfl), (hw.ft [] [2, 3] (by decide) rfl rfl)⟩
  rintro a w ⟨Sv253, hs, hw⟩
  refine then_normal ?_
  refine wp_cond_split (hs.ev rfl) (fun h255 => ?_) (fun h255 => ?_)
  ·have hsh := ite_t hsh h255
   refine sr ?_
   refine av hs rfl rfl fun a hs => ?_
   refine nl ?_
   have hsh := oi hsh
   subst hsh
   have h256 := hd193 _ rfl
   subst h256
   refine wp_ret ?_
   refine blk_ret ?_
   refine then_ret ?_
   refine then_ret ?_
   refine blk_ret ?_
   refine then_ret ?_
   exact ret1 hs rfl (rv_tmp rfl) (hw.ret rfl)
  have hsh := ite_f hsh h255
  refine wp_skip ?_
  refine blk_normal ?_
  refine then_normal ?_
  refine wp_region_lit ?_
  refine sv hs (y_add rfl rfl) rfl fun a hs => ?_
  refine mv hs rfl rfl fun a hs => ?_
  refine nl ?_
  exact ⟨_, (Option.some.inj hsh).symm, Sv253, (hs.wk rfl), (hw.ft [] [0, 1] (by decide) rfl rfl)⟩
 have hsh := ite_f hsh h198
 obtain ⟨rv257, hsh, h258⟩ := map_t hsh
 have h258 := (hd193 _ h258.symm).symm
 subst h258
 refine wp_exit ?_
 refine then_exit ?_
 refine then_exit ?_
 refine blk_exit ?_
 refine then_normal ?_
 refine sr ?_
 refine av hs rfl rfl fun a hs => ?_
 refine nl ?_
 have hsh := oi hsh
 subst hsh
 refine wp_ret ?_
 exact ret1 hs rfl (rv_tmp rfl) (hw.ret rfl)

abbrev record_Same_rd (w0 : World) (X : List Nat) (r : Bool) : (Nat → Prop) → World → Value → Prop := fun S w v => v = .bool r
set_option maxHeartbeats 4000000 in
set_option maxRecDepth 100000 in
theorem record_Same_ok {w0 : World} {S0 : Nat → Prop} {p2 : Option Addr} {k3 : Nat} {p6 : Option Addr} {k7 : Nat} {a1 : Record} {b5 : Record} {r : Bool} (hsh : record_Same a1 b5 = some r) (hS : ∀ b, S0 b → b < w0.heap.size) (h4 : (SlA p2 a1.Samples.length k3 a1.Samples).p S0 w0) (h8 : (SlA p6 b5.Samples.length k7 b5.Samples).p S0 w0) : Calls Tryz.prog 95 #[.agg #[.string a1.Source.Network, .string a1.Source.Station, .string a1.Source.Location, .string a1.Source.Channel, .int .i64 a1.Start, .int .i64 a1.First, .int .i64 a1.Rate.Num, .int .i64 a1.Rate.Den, .int .i64 a1.Error, .int .i64 a1.Run, .int .i64 a1.Seq, .slice p2 a1.Samples.length k3], .agg #[.string b5.Source.Network, .string b5.Source.Station, .string b5.Source.Location, .string b5.Source.Channel, .int .i64 b5.Start, .int .i64 b5.First, .int .i64 b5.Rate.Num, .int .i64 b5.Rate.Den, .int .i64 b5.Error, .int .i64 b5.Run, .int .i64 b5.Seq, .slice p6 b5.Samples.length k7]] w0 (Ret ([]) w0 S0 (record_Same_rd w0 ([]) r)) := by
 refine calls_of_wp Tryz.func95 rfl ?_
 have hs := Sl.enter #[.agg #[.string a1.Source.Network, .string a1.Source.Station, .string a1.Source.Location, .string a1.Source.Channel, .int .i64 a1.Start, .int .i64 a1.First, .int .i64 a1.Rate.Num, .int .i64 a1.Rate.Den, .int .i64 a1.Error, .int .i64 a1.Run, .int .i64 a1.Seq, .slice p2 a1.Samples.length k3], .agg #[.string b5.Source.Network, .string b5.Source.Station, .string b5.Source.Location, .string b5.Source.Channel, .int .i64 b5.Start, .int .i64 b5.First, .int .i64 b5.Rate.Num, .int .i64 b5.Rate.Den, .int .i64 b5.Error, .int .i64 b5.Run, .int .i64 b5.Seq, .slice p6 b5.Samples.length k7]] 59 [(0, .agg #[.string a1.Source.Network, .string a1.Source.Station, .string a1.Source.Location, .string a1.Source.Channel, .int .i64 a1.Start, .int .i64 a1.First, .int .i64 a1.Rate.Num, .int .i64 a1.Rate.Den, .int .i64 a1.Error, .int .i64 a1.Run, .int .i64 a1.Seq, .slice p2 a1.Samples.length k3]), (1, .agg #[.string b5.Source.Network, .string b5.Source.Station, .string b5.Source.Location, .string b5.Source.Channel, .int .i64 b5.Start, .int .i64 b5.First, .int .i64 b5.Rate.Num, .int .i64 b5.Rate.Den, .int .i64 b5.Error, .int .i64 b5.Run, .int .i64 b5.Seq, .slice p6 b5.Samples.length k7])] rfl ⟨rfl, rfl, trivial⟩
 have hw := Wd.enter (E := []) hS (fun _ h => (by cases h))
 have hw := hw.addE h4
 have hw := hw.addE h8
 delta record_Same at hsh
 refine sr ?_
 refine w_box (cs := [.string a1.Source.Network, .string a1.Source.Station, .string a1.Source.Location, .string a1.Source.Channel, .int .i64 a1.Start, .int .i64 a1.First, .int .i64 a1.Rate.Num, .int .i64 a1.Rate.Den, .int .i64 a1.Error, .int .i64 a1.Run, .int .i64 a1.Seq, .slice p2 a1.Samples.length k3]) hs hw rfl rfl rfl trivial ?_
 intro b9 a w hs hw
 refine w_box (cs := [.string b5.Source.Network, .string b5.Source.Station, .string b5.Source.Location, .string b5.Source.Channel, .int .i64 b5.Start, .int .i64 b5.First, .int .i64 b5.Rate.Num, .int .i64 b5.Rate.Den, .int .i64 b5.Error, .int .i64 b5.Run, .int .i64 b5.Seq, .slice p6 b5.Samples.length k7]) hs hw rfl rfl rfl trivial ?_
 intro b10 a w hs hw
 refine av hs rfl rfl fun a hs => ?_
 refine nl ?_
 refine sr ?_
 refine sv hs (y_fieldAddr (o' := 0) Tryz.runUnderlying35 rfl Tryz.sizeOf31 rfl rfl rfl) rfl fun a hs => ?_
 refine sv hs (y_loadBA (hw.ownAt 1 rfl) rfl Tryz.isAgg31 Tryz.sizeOf31 rfl rfl) rfl fun a hs => ?_
 refine sv hs (y_fieldAddr (o' := 0) Tryz.runUnderlying35 rfl Tryz.sizeOf31 rfl rfl rfl) rfl fun a hs => ?_
 refine sv hs (y_loadBA (hw.ownAt 0 rfl) rfl Tryz.isAgg31 Tryz.sizeOf31 rfl rfl) rfl fun a hs => ?_
 refine sv hs (y_eqlA (by kernel_rfl) rfl rfl (eqv_struct Tryz.runUnderlying31 (by kernel_rfl) (EqF.cons1 rfl Tryz.isAgg9 rfl rfl (eqv_str Tryz.runUnderlying9) (EqF.cons1 rfl Tryz.isAgg9 rfl rfl (eqv_str Tryz.runUnderlying9) (EqF.cons1 rfl Tryz.isAgg9 rfl rfl (eqv_str Tryz.runUnderlying9) (EqF.cons1 rfl Tryz.isAgg9 rfl rfl (eqv_str Tryz.runUnderlying9) EqF.nil)))))) rfl fun a hs => ?_
 refine mv hs rfl rfl fun a hs => ?_
 refine wpl_join 6 (fun a w1 => w = w1 ∧ Sl 59 [(2, .pointer (some ⟨b9, 0, none⟩)), (3, .pointer (some ⟨b10, 0, none⟩)), (16, .bool (((a1.Source.Network == b5.Source.Network) && ((a1.Source.Station == b5.Source.Station) && ((a1.Source.Location == b5.Source.Location) && ((a1.Source.Channel == b5.Source.Channel) && true)))) && (a1.Start == b5.Start)))] a) ?_ ?_
 ·rcases Bool.eq_false_or_eq_true ((a1.Source.Network == b5.Source.Network) && ((a1.Source.Station == b5.Source.Station) && ((a1.Source.Location == b5.Source.Location) && ((a1.Source.Channel == b5.Source.Channel) && true)))) with h11 | h11
  ·have hs := hs.fix 10 (.bool true) rfl (vb h11)
   refine st_val hs (y_fieldAddr (o' := 4) Tryz.runUnderlying35 rfl Tryz.sizeOf3 rfl rfl rfl) ⟨_, rfl, rfl⟩ rfl rfl fun a hs => ?_
   refine st_val hs (y_loadB1 (hw.ownAt 1 rfl) rfl Tryz.isAgg3 rfl) ⟨_, rfl, rfl⟩ rfl rfl fun a hs => ?_
   refine st_val hs (y_fieldAddr (o' := 4) Tryz.runUnderlying35 rfl Tryz.sizeOf3 rfl rfl rfl) ⟨_, rfl, rfl⟩ rfl rfl fun a hs => ?_
   refine st_val hs (y_loadB1 (hw.ownAt 0 rfl) rfl Tryz.isAgg3 rfl) ⟨_, rfl, rfl⟩ rfl rfl fun a hs => ?_
   refine st_val hs (y_eql rfl rfl) ⟨_, rfl, rfl⟩ rfl rfl fun a hs => ?_
   refine sv hs (y_pickT rfl rfl) rfl fun a hs => ?_
   refine nl ?_
   exact ⟨rfl, (hs.fix 16 (.bool (((a1.Source.Network == b5.Source.Network) && ((a1.Source.Station == b5.Source.Station) && ((a1.Source.Location == b5.Source.Location) && ((a1.Source.Channel == b5.Source.Channel) && true)))) && (a1.Start == b5.Start))) rfl (and_t h11)).weaken _ ⟨rfl, rfl, rfl, trivial⟩⟩
  have hs := hs.fix 10 (.bool false) rfl (vb h11)
  refine st_skip hs rfl rfl rfl rfl rfl fun a hs => ?_
  refine st_skip hs rfl rfl rfl rfl rfl fun a hs => ?_
  refine st_skip hs rfl rfl rfl rfl rfl fun a hs => ?_
  refine st_skip hs rfl rfl rfl rfl rfl fun a hs => ?_
  refine st_skip hs rfl rfl rfl rfl rfl fun a hs => ?_
  refine sv hs (y_pickF rfl rfl) rfl fun a hs => ?_
  refine nl ?_
  exact ⟨rfl, (hs.fix 16 (.bool (((a1.Source.Network == b5.Source.Network) && ((a1.Source.Station == b5.Source.Station) && ((a1.Source.Location == b5.Source.Location) && ((a1.Source.Channel == b5.Source.Channel) && true)))) && (a1.Start == b5.Start))) rfl (and_f h11)).weaken _ ⟨rfl, rfl, rfl, trivial⟩⟩
 rintro a w1 ⟨h39, hs⟩
 subst h39
 refine mv hs rfl rfl fun a hs => ?_
 refine wpl_join 6 (fun a w1 => w = w1 ∧ Sl 59 [(2, .pointer (some ⟨b9, 0, none⟩)), (3, .pointer (some ⟨b10, 0, none⟩)), (23, .bool ((((a1.Source.Network == b5.Source.Network) && ((a1.Source.Station == b5.Source.Station) && ((a1.Source.Location == b5.Source.Location) && ((a1.Source.Channel == b5.Source.Channel) && true)))) && (a1.Start == b5.Start)) && (a1.First == b5.First)))] a) ?_ ?_
 ·rcases Bool.eq_false_or_eq_true (((a1.Source.Network == b5.Source.Network) && ((a1.Source.Station == b5.Source.Station) && ((a1.Source.Location == b5.Source.Location) && ((a1.Source.Channel == b5.Source.Channel) && true)))) && (a1.Start == b5.Start)) with h12 | h12
  ·have hs := hs.fix 17 (.bool true) rfl (vb h12)
   refine st_val hs (y_fieldAddr (o' := 5) Tryz.runUnderlying35 rfl Tryz.sizeOf3 rfl rfl rfl) ⟨_, rfl, rfl⟩ rfl rfl fun a hs => ?_
   refine st_val hs (y_loadB1 (hw.ownAt 1 rfl) rfl Tryz.isAgg3 rfl) ⟨_, rfl, rfl⟩ rfl rfl fun a hs => ?_
   refine st_val hs (y_fieldAddr (o' := 5) Tryz.runUnderlying35 rfl Tryz.sizeOf3 rfl rfl rfl) ⟨_, rfl, rfl⟩ rfl rfl fun a hs => ?_
   refine st_val hs (y_loadB1 (hw.ownAt 0 rfl) rfl Tryz.isAgg3 rfl) ⟨_, rfl, rfl⟩ rfl rfl fun a hs => ?_
   refine st_val hs (y_eql rfl rfl) ⟨_, rfl, rfl⟩ rfl rfl fun a hs => ?_
   refine sv hs (y_pickT rfl rfl) rfl fun a hs => ?_
   refine nl ?_
   exact ⟨rfl, (hs.fix 23 (.bool ((((a1.Source.Network == b5.Source.Network) && ((a1.Source.Station == b5.Source.Station) && ((a1.Source.Location == b5.Source.Location) && ((a1.Source.Channel == b5.Source.Channel) && true)))) && (a1.Start == b5.Start)) && (a1.First == b5.First))) rfl (and_t h12)).weaken _ ⟨rfl, rfl, rfl, trivial⟩⟩
  have hs := hs.fix 17 (.bool false) rfl (vb h12)
  refine st_skip hs rfl rfl rfl rfl rfl fun a hs => ?_
  refine st_skip hs rfl rfl rfl rfl rfl fun a hs => ?_
  refine st_skip hs rfl rfl rfl rfl rfl fun a hs => ?_
  refine st_skip hs rfl rfl rfl rfl rfl fun a hs => ?_
  refine st_skip hs rfl rfl rfl rfl rfl fun a hs => ?_
  refine sv hs (y_pickF rfl rfl) rfl fun a hs => ?_
  refine nl ?_
  exact ⟨rfl, (hs.fix 23 (.bool ((((a1.Source.Network == b5.Source.Network) && ((a1.Source.Station == b5.Source.Station) && ((a1.Source.Location == b5.Source.Location) && ((a1.Source.Channel == b5.Source.Channel) && true)))) && (a1.Start == b5.Start)) && (a1.First == b5.First))) rfl (and_f h12)).weaken _ ⟨rfl, rfl, rfl, trivial⟩⟩
 rintro a w1 ⟨h38, hs⟩
 subst h38
 refine mv hs rfl rfl fun a hs => ?_
 refine wpl_join 6 (fun a w1 => w = w1 ∧ Sl 59 [(2, .pointer (some ⟨b9, 0, none⟩)), (3, .pointer (some ⟨b10, 0, none⟩)), (30, .bool (((((a1.Source.Network == b5.Source.Network) && ((a1.Source.Station == b5.Source.Station) && ((a1.Source.Location == b5.Source.Location) && ((a1.Source.Channel == b5.Source.Channel) && true)))) && (a1.Start == b5.Start)) && (a1.First == b5.First)) && ((a1.Rate.Num == b5.Rate.Num) && ((a1.Rate.Den == b5.Rate.Den) && true))))] a) ?_ ?_
 ·rcases Bool.eq_false_or_eq_true ((((a1.Source.Network == b5.Source.Network) && ((a1.Source.Station == b5.Source.Station) && ((a1.Source.Location == b5.Source.Location) && ((a1.Source.Channel == b5.Source.Channel) && true)))) && (a1.Start == b5.Start)) && (a1.First == b5.First)) with h13 | h13
  ·have hs := hs.fix 24 (.bool true) rfl (vb h13)
   refine st_val hs (y_fieldAddr (o' := 6) Tryz.runUnderlying35 rfl Tryz.sizeOf33 rfl rfl rfl) ⟨_, rfl, rfl⟩ rfl rfl fun a hs => ?_
   refine st_val hs (y_loadBA (hw.ownAt 1 rfl) rfl Tryz.isAgg33 Tryz.sizeOf33 rfl rfl) ⟨_, rfl, rfl⟩ rfl rfl fun a hs => ?_
   refine st_val hs (y_fieldAddr (o' := 6) Tryz.runUnderlying35 rfl Tryz.sizeOf33 rfl rfl rfl) ⟨_, rfl, rfl⟩ rfl rfl fun a hs => ?_
   refine st_val hs (y_loadBA (hw.ownAt 0 rfl) rfl Tryz.isAgg33 Tryz.sizeOf33 rfl rfl) ⟨_, rfl, rfl⟩ rfl rfl fun a hs => ?_
   refine st_val hs (y_eqlA (by kernel_rfl) rfl rfl (eqv_struct Tryz.runUnderlying33 (by kernel_rfl) (EqF.cons1 rfl Tryz.isAgg3 rfl rfl (eqv_int Tryz.runUnderlying3) (EqF.cons1 rfl Tryz.isAgg3 rfl rfl (eqv_int Tryz.runUnderlying3) EqF.nil)))) ⟨_, rfl, rfl⟩ rfl rfl fun a hs => ?_
   refine sv hs (y_pickT rfl rfl) rfl fun a hs => ?_
   refine nl ?_
   exact ⟨rfl, (hs.fix 30 (.bool (((((a1.Source.Network == b5.Source.Network) && ((a1.Source.Station == b5.Source.Station) && ((a1.Source.Location == b5.Source.Location) && ((a1.Source.Channel == b5.Source.Channel) && true)))) && (a1.Start == b5.Start)) && (a1.First == b5.First)) && ((a1.Rate.Num == b5.Rate.Num) && ((a1.Rate.Den == b5.Rate.Den) && true)))) rfl (and_t h13)).weaken _ ⟨rfl, rfl, rfl, trivial⟩⟩
  have hs := hs.fix 24 (.bool false) rfl (vb h13)
  refine st_skip hs rfl rfl rfl rfl rfl fun a hs => ?_
  refine st_skip hs rfl rfl rfl rfl rfl fun a hs => ?_
  refine st_skip hs rfl rfl rfl rfl rfl fun a hs => ?_
  refine st_skip hs rfl rfl rfl rfl rfl fun a hs => ?_
  refine st_skip hs rfl rfl rfl rfl rfl fun a hs => ?_
  refine sv hs (y_pickF rfl rfl) rfl fun a hs => ?_
  refine nl ?_
  exact ⟨rfl, (hs.fix 30 (.bool (((((a1.Source.Network == b5.Source.Network) && ((a1.Source.Station == b5.Source.Station) && ((a1.Source.Location == b5.Source.Location) && ((a1.Source.Channel == b5.Source.Channel) && true)))) && (a1.Start == b5.Start)) && (a1.First == b5.First)) && ((a1.Rate.Num == b5.Rate.Num) && ((a1.Rate.Den == b5.Rate.Den) && true)))) rfl (and_f h13)).weaken _ ⟨rfl, rfl, rfl, trivial⟩⟩
 rintro a w1 ⟨h37, hs⟩
 subst h37
 refine mv hs rfl rfl fun a hs => ?_
 refine wpl_join 6 (fun a w1 => w = w1 ∧ Sl 59 [(2, .pointer (some ⟨b9, 0, none⟩)), (3, .pointer (some ⟨b10, 0, none⟩)), (37, .bool ((((((a1.Source.Network == b5.Source.Network) && ((a1.Source.Station == b5.Source.Station) && ((a1.Source.Location == b5.Source.Location) && ((a1.Source.Channel == b5.Source.Channel) && true)))) && (a1.Start == b5.Start)) && (a1.First == b5.First)) && ((a1.Rate.Num == b5.Rate.Num) && ((a1.Rate.Den == b5.Rate.Den) && true))) && (a1.Error == b5.Error)))] a) ?_ ?_
 ·rcases Bool.eq_false_or_eq_true (((((a1.Source.Network == b5.Source.Network) && ((a1.Source.Station == b5.Source.Station) && ((a1.Source.Location == b5.Source.Location) && ((a1.Source.Channel == b5.Source.Channel) && true)))) && (a1.Start == b5.Start)) && (a1.First == b5.First)) && ((a1.Rate.Num == b5.Rate.Num) && ((a1.Rate.Den == b5.Rate.Den) && true))) with h14 | h14
  ·have hs := hs.fix 31 (.bool true) rfl (vb h14)
   refine st_val hs (y_fieldAddr (o' := 8) Tryz.runUnderlying35 rfl Tryz.sizeOf3 rfl rfl rfl) ⟨_, rfl, rfl⟩ rfl rfl fun a hs => ?_
   refine st_val hs (y_loadB1 (hw.ownAt 1 rfl) rfl Tryz.isAgg3 rfl) ⟨_, rfl, rfl⟩ rfl rfl fun a hs => ?_
   refine st_val hs (y_fieldAddr (o' := 8) Tryz.runUnderlying35 rfl Tryz.sizeOf3 rfl rfl rfl) ⟨_, rfl, rfl⟩ rfl rfl fun a hs => ?_
   refine st_val hs (y_loadB1 (hw.ownAt 0 rfl) rfl Tryz.isAgg3 rfl) ⟨_, rfl, rfl⟩ rfl rfl fun a hs => ?_
   refine st_val hs (y_eql rfl rfl) ⟨_, rfl, rfl⟩ rfl rfl fun a hs => ?_
   refine sv hs (y_pickT rfl rfl) rfl fun a hs => ?_
   refine nl ?_
   exact ⟨rfl, (hs.fix 37 (.bool ((((((a1.Source.Network == b5.Source.Network) && ((a1.Source.Station == b5.Source.Station) && ((a1.Source.Location == b5.Source.Location) && ((a1.Source.Channel == b5.Source.Channel) && true)))) && (a1.Start == b5.Start)) && (a1.First == b5.First)) && ((a1.Rate.Num == b5.Rate.Num) && ((a1.Rate.Den == b5.Rate.Den) && true))) && (a1.Error == b5.Error))) rfl (and_t h14)).weaken _ ⟨rfl, rfl, rfl, trivial⟩⟩
  have hs := hs.fix 31 (.bool false) rfl (vb h14)
  refine st_skip hs rfl rfl rfl rfl rfl fun a hs => ?_
  refine st_skip hs rfl rfl rfl rfl rfl fun a hs => ?_
  refine st_skip hs rfl rfl rfl rfl rfl fun a hs => ?_
  refine st_skip hs rfl rfl rfl rfl rfl fun a hs => ?_
  refine st_skip hs rfl rfl rfl rfl rfl fun a hs => ?_
  refine sv hs (y_pickF rfl rfl) rfl fun a hs => ?_
  refine nl ?_
  exact ⟨rfl, (hs.fix 37 (.bool ((((((a1.Source.Network == b5.Source.Network) && ((a1.Source.Station == b5.Source.Station) && ((a1.Source.Location == b5.Source.Location) && ((a1.Source.Channel == b5.Source.Channel) && true)))) && (a1.Start == b5.Start)) && (a1.First == b5.First)) && ((a1.Rate.Num == b5.Rate.Num) && ((a1.Rate.Den == b5.Rate.Den) && true))) && (a1.Error == b5.Error))) rfl (and_f h14)).weaken _ ⟨rfl, rfl, rfl, trivial⟩⟩
 rintro a w1 ⟨h36, hs⟩
 subst h36
 refine mv hs rfl rfl fun a hs => ?_
 refine wpl_join 6 (fun a w1 => w = w1 ∧ Sl 59 [(2, .pointer (some ⟨b9, 0, none⟩)), (3, .pointer (some ⟨b10, 0, none⟩)), (44, .bool (((((((a1.Source.Network == b5.Source.Network) && ((a1.Source.Station == b5.Source.Station) && ((a1.Source.Location == b5.Source.Location) && ((a1.Source.Channel == b5.Source.Channel) && true)))) && (a1.Start == b5.Start)) && (a1.First == b5.First)) && ((a1.Rate.Num == b5.Rate.Num) && ((a1.Rate.Den == b5.Rate.Den) && true))) && (a1.Error == b5.Error)) && (a1.Run == b5.Run)))] a) ?_ ?_
 ·rcases Bool.eq_false_or_eq_true ((((((a1.Source.Network == b5.Source.Network) && ((a1.Source.Station == b5.Source.Station) && ((a1.Source.Location == b5.Source.Location) && ((a1.Source.Channel == b5.Source.Channel) && true)))) && (a1.Start == b5.Start)) && (a1.First == b5.First)) && ((a1.Rate.Num == b5.Rate.Num) && ((a1.Rate.Den == b5.Rate.Den) && true))) && (a1.Error == b5.Error)) with h15 | h15
  ·have hs := hs.fix 38 (.bool true) rfl (vb h15)
   refine st_val hs (y_fieldAddr (o' := 9) Tryz.runUnderlying35 rfl Tryz.sizeOf3 rfl rfl rfl) ⟨_, rfl, rfl⟩ rfl rfl fun a hs => ?_
   refine st_val hs (y_loadB1 (hw.ownAt 1 rfl) rfl Tryz.isAgg3 rfl) ⟨_, rfl, rfl⟩ rfl rfl fun a hs => ?_
   refine st_val hs (y_fieldAddr (o' := 9) Tryz.runUnderlying35 rfl Tryz.sizeOf3 rfl rfl rfl) ⟨_, rfl, rfl⟩ rfl rfl fun a hs => ?_
   refine st_val hs (y_loadB1 (hw.ownAt 0 rfl) rfl Tryz.isAgg3 rfl) ⟨_, rfl, rfl⟩ rfl rfl fun a hs => ?_
   refine st_val hs (y_eql rfl rfl) ⟨_, rfl, rfl⟩ rfl rfl fun a hs => ?_
   refine sv hs (y_pickT rfl rfl) rfl fun a hs => ?_
   refine nl ?_
   exact ⟨rfl, (hs.fix 44 (.bool (((((((a1.Source.Network == b5.Source.Network) && ((a1.Source.Station == b5.Source.Station) && ((a1.Source.Location == b5.Source.Location) && ((a1.Source.Channel == b5.Source.Channel) && true)))) && (a1.Start == b5.Start)) && (a1.First == b5.First)) && ((a1.Rate.Num == b5.Rate.Num) && ((a1.Rate.Den == b5.Rate.Den) && true))) && (a1.Error == b5.Error)) && (a1.Run == b5.Run))) rfl (and_t h15)).weaken _ ⟨rfl, rfl, rfl, trivial⟩⟩
  have hs := hs.fix 38 (.bool false) rfl (vb h15)
  refine st_skip hs rfl rfl rfl rfl rfl fun a hs => ?_
  refine st_skip hs rfl rfl rfl rfl rfl fun a hs => ?_
  refine st_skip hs rfl rfl rfl rfl rfl fun a hs => ?_
  refine st_skip hs rfl rfl rfl rfl rfl fun a hs => ?_
  refine st_skip hs rfl rfl rfl rfl rfl fun a hs => ?_
  refine sv hs (y_pickF rfl rfl) rfl fun a hs => ?_
  refine nl ?_
  exact ⟨rfl, (hs.fix 44 (.bool (((((((a1.Source.Network == b5.Source.Network) && ((a1.Source.Station == b5.Source.Station) && ((a1.Source.Location == b5.Source.Location) && ((a1.Source.Channel == b5.Source.Channel) && true)))) && (a1.Start == b5.Start)) && (a1.First == b5.First)) && ((a1.Rate.Num == b5.Rate.Num) && ((a1.Rate.Den == b5.Rate.Den) && true))) && (a1.Error == b5.Error)) && (a1.Run == b5.Run))) rfl (and_f h15)).weaken _ ⟨rfl, rfl, rfl, trivial⟩⟩
 rintro a w1 ⟨h35, hs⟩
 subst h35
 refine mv hs rfl rfl fun a hs => ?_
 refine wpl_join 6 (fun a w1 => w = w1 ∧ Sl 59 [(2, .pointer (some ⟨b9, 0, none⟩)), (3, .pointer (some ⟨b10, 0, none⟩)), (51, .bool ((((((((a1.Source.Network == b5.Source.Network) && ((a1.Source.Station == b5.Source.Station) && ((a1.Source.Location == b5.Source.Location) && ((a1.Source.Channel == b5.Source.Channel) && true)))) && (a1.Start == b5.Start)) && (a1.First == b5.First)) && ((a1.Rate.Num == b5.Rate.Num) && ((a1.Rate.Den == b5.Rate.Den) && true))) && (a1.Error == b5.Error)) && (a1.Run == b5.Run)) && (a1.Seq == b5.Seq)))] a) ?_ ?_
 ·rcases Bool.eq_false_or_eq_true (((((((a1.Source.Network == b5.Source.Network) && ((a1.Source.Station == b5.Source.Station) && ((a1.Source.Location == b5.Source.Location) && ((a1.Source.Channel == b5.Source.Channel) && true)))) && (a1.Start == b5.Start)) && (a1.First == b5.First)) && ((a1.Rate.Num == b5.Rate.Num) && ((a1.Rate.Den == b5.Rate.Den) && true))) && (a1.Error == b5.Error)) && (a1.Run == b5.Run)) with h16 | h16
  ·have hs := hs.fix 45 (.bool true) rfl (vb h16)
   refine st_val hs (y_fieldAddr (o' := 10) Tryz.runUnderlying35 rfl Tryz.sizeOf3 rfl rfl rfl) ⟨_, rfl, rfl⟩ rfl rfl fun a hs => ?_
   refine st_val hs (y_loadB1 (hw.ownAt 1 rfl) rfl Tryz.isAgg3 rfl) ⟨_, rfl, rfl⟩ rfl rfl fun a hs => ?_
   refine st_val hs (y_fieldAddr (o' := 10) Tryz.runUnderlying35 rfl Tryz.sizeOf3 rfl rfl rfl) ⟨_, rfl, rfl⟩ rfl rfl fun a hs => ?_
   refine st_val hs (y_loadB1 (hw.ownAt 0 rfl) rfl Tryz.isAgg3 rfl) ⟨_, rfl, rfl⟩ rfl rfl fun a hs => ?_
   refine st_val hs (y_eql rfl rfl) ⟨_, rfl, rfl⟩ rfl rfl fun a hs => ?_
   refine sv hs (y_pickT rfl rfl) rfl fun a hs => ?_
   refine nl ?_
   exact ⟨rfl, (hs.fix 51 (.bool ((((((((a1.Source.Network == b5.Source.Network) && ((a1.Source.Station == b5.Source.Station) && ((a1.Source.Location == b5.Source.Location) && ((a1.Source.Channel == b5.Source.Channel) && true)))) && (a1.Start == b5.Start)) && (a1.First == b5.First)) && ((a1.Rate.Num == b5.Rate.Num) && ((a1.Rate.Den == b5.Rate.Den) && true))) && (a1.Error == b5.Error)) && (a1.Run == b5.Run)) && (a1.Seq == b5.Seq))) rfl (and_t h16)).weaken _ ⟨rfl, rfl, rfl, trivial⟩⟩
  have hs := hs.fix 45 (.bool false) rfl (vb h16)
  refine st_skip hs rfl rfl rfl rfl rfl fun a hs => ?_
  refine st_skip hs rfl rfl rfl rfl rfl fun a hs => ?_
  refine st_skip hs rfl rfl rfl rfl rfl fun a hs => ?_
  refine st_skip hs rfl rfl rfl rfl rfl fun a hs => ?_
  refine st_skip hs rfl rfl rfl rfl rfl fun a hs => ?_
  refine sv hs (y_pickF rfl rfl) rfl fun a hs => ?_
  refine nl ?_
  exact ⟨rfl, (hs.fix 51 (.bool ((((((((a1.Source.Network == b5.Source.Network) && ((a1.Source.Station == b5.Source.Station) && ((a1.Source.Location == b5.Source.Location) && ((a1.Source.Channel == b5.Source.Channel) && true)))) && (a1.Start == b5.Start)) && (a1.First == b5.First)) && ((a1.Rate.Num == b5.Rate.Num) && ((a1.Rate.Den == b5.Rate.Den) && true))) && (a1.Error == b5.Error)) && (a1.Run == b5.Run)) && (a1.Seq == b5.Seq))) rfl (and_f h16)).weaken _ ⟨rfl, rfl, rfl, trivial⟩⟩
 rintro a w1 ⟨h34, hs⟩
 subst h34
 refine mv hs rfl rfl fun a hs => ?_
 obtain ⟨c25, hc25, hsh⟩ := bind_t hsh
 refine wpl_join 6 (fun a w => ∃ (Sv26 : Nat → Prop), Sl 59 [(58, .bool c25)] a ∧ Wd ⟨w0, S0, []⟩ Sv26 [] [] w) ?_ ?_
 ·rcases Bool.eq_false_or_eq_true ((((((((a1.Source.Network == b5.Source.Network) && ((a1.Source.Station == b5.Source.Station) && ((a1.Source.Location == b5.Source.Location) && ((a1.Source.Channel == b5.Source.Channel) && true)))) && (a1.Start == b5.Start)) && (a1.First == b5.First)) && ((a1.Rate.Num == b5.Rate.Num) && ((a1.Rate.Den == b5.Rate.Den) && true))) && (a1.Error == b5.Error)) && (a1.Run == b5.Run)) && (a1.Seq == b5.Seq)) with h24 | h24
  ·have hs := hs.fix 52 (.bool true) rfl (vb h24)
   have hsh := ite_t hc25 h24
   refine st_val hs (y_fieldAddr (o' := 11) Tryz.runUnderlying35 rfl Tryz.sizeOf22 rfl rfl rfl) ⟨_, rfl, rfl⟩ rfl rfl fun a hs => ?_
   refine st_val hs (y_loadB1 (hw.ownAt 1 rfl) rfl Tryz.isAgg22 rfl) ⟨_, rfl, rfl⟩ rfl rfl fun a hs => ?_
   refine st_val hs (y_fieldAddr (o' := 11) Tryz.runUnderlying35 rfl Tryz.sizeOf22 rfl rfl rfl) ⟨_, rfl, rfl⟩ rfl rfl fun a hs => ?_
   refine st_val hs (y_loadB1 (hw.ownAt 0 rfl) rfl Tryz.isAgg22 rfl) ⟨_, rfl, rfl⟩ rfl rfl fun a hs => ?_
   obtain ⟨rv28, h27, hsh⟩ := bind_t hsh
   refine st_callR hs (slices_Equal_Lint_int_ok h27 hw.bdom (hw.bE 1 rfl) (hw.bE 0 rfl)) (do_call Tryz.call119 rfl) ⟨_, rfl, rfl⟩ rfl rfl ?_
   intro v32 Sv29 w a h30 h31 hs
   subst h31
   have hw := hw.callB h30
   refine sv hs (y_pickT rfl rfl) rfl fun a hs => ?_
   refine wpList_nil ?_
   have hsh := oi hsh
   subst hsh
   refine then_normal ?_
   exact ⟨S0, (hs.wk rfl), (hw.ft [] [] (by decide) rfl rfl)⟩
  have hs := hs.fix 52 (.bool false) rfl (vb h24)
  have hsh := ite_f hc25 h24
  refine st_skip hs rfl rfl rfl rfl rfl fun a hs => ?_
  refine st_skip hs rfl rfl rfl rfl rfl fun a hs => ?_
  refine st_skip hs rfl rfl rfl rfl rfl fun a hs => ?_
  refine st_skip hs rfl rfl rfl rfl rfl fun a hs => ?_
  refine st_skip hs rfl rfl rfl rfl rfl fun a hs => ?_
  refine sv hs (y_pickF rfl rfl) rfl fun a hs => ?_
  refine wpList_nil ?_
  have hsh := oi hsh
  subst hsh
  refine then_normal ?_
  exact ⟨S0, (hs.wk rfl), (hw.ft [] [] (by decide) rfl rfl)⟩
 rintro a w ⟨Sv26, hs, hw⟩
 refine av hs rfl rfl fun a hs => ?_
 refine nl ?_
 have hsh := oi hsh
 subst hsh
 refine wp_ret ?_
 exact ret1 hs rfl (rv_tmp rfl) (hw.ret rfl)

theorem record_Same_fn (S0 : Nat → Prop) (w0 : World) : (FnA2 Tryz.prog 95 [] [] record_Same).p S0 w0 := by
  refine ⟨Tryz.call95, ?_⟩
  intro S1 w1 hk hS c0 c1 x0 x1 r1 h0 h1 hf
  obtain ⟨_, _, _, _, _, _, _, _, _, _, _, _, rfl, rfl, rfl, rfl, rfl, rfl, rfl, rfl, rfl, rfl, rfl, rfl, ⟨_, _, _, rfl, e0⟩⟩ := h0
  obtain ⟨_, _, _, _, _, _, _, _, _, _, _, _, rfl, rfl, rfl, rfl, rfl, rfl, rfl, rfl, rfl, rfl, rfl, rfl, ⟨_, _, _, rfl, e1⟩⟩ := h1
  obtain rfl := e0.1
  obtain rfl := e1.1
  exact record_Same_ok hf hS e0 e1 

abbrev compose_order_rd (w0 : World) (X : List Nat) (r : (List Record)) : (Nat → Prop) → World → Value → Prop := fun S w v => ∃ (p0_0 : Option Addr) (k0_0 : Nat) (c0_0 : List Value), v = .slice p0_0 r.length k0_0 ∧ Outs X w0 S w [.row p0_0 r.length k0_0 c0_0 35 12] ∧ (RowA c0_0 r).p S w
set_option maxHeartbeats 4000000 in
set_option maxRecDepth 100000 in
theorem compose_order_ok {w0 : World} {S0 : Nat → Prop} {p2 : Option Addr} {k3 : Nat} {l1 : (List Record)} {r : (List Record)} (hsh : compose_order l1 = some r) (hS : ∀ b, S0 b → b < w0.heap.size) (h4 : (SlA p2 l1.length k3 l1).p S0 w0) : Calls Tryz.prog 62 #[.slice p2 l1.length k3] w0 (Ret ([]) w0 S0 (compose_order_rd w0 ([]) r)) := by
 refine calls_of_wp Tryz.func62 rfl ?_
 have hs := Sl.enter #[.slice p2 l1.length k3] 27 [(0, .slice p2 l1.length k3)] rfl ⟨rfl, trivial⟩
 have hw := Wd.enter (E := []) hS (fun _ h => (by cases h))
 have hw := hw.addE h4
 delta compose_order at hsh
 refine sr ?_
 refine av hs rfl rfl fun a hs => ?_
 refine nl ?_
 refine sr ?_
 refine mv hs rfl rfl fun a hs => ?_
 obtain ⟨rv6, h5, hsh⟩ := bind_t hsh
 refine st_callR hs (slices_Clone_Lapi_Record_api_Record_ok h5 hw.dom (hw.envAt 0 rfl)) (do_call Tryz.call92 rfl) trivial rfl rfl ?_
 intro v14 Sv11 w a h12 h13 hs
 obtain ⟨p7, k8, c10, rfl, h15, h9⟩ := h13
 have hw := hw.callN h12 h15
 have hw := hw.addE (e := RowA c10 rv6) h9
 refine av hs rfl rfl fun a hs => ?_
 refine nl ?_
 refine wp_seq ?_
 refine sr ?_
 refine mv hs rfl rfl fun a hs => ?_
 refine sv hs (y_len Tryz.runUnderlying27 rfl) rfl fun a hs => ?_
 refine mv hs rfl rfl fun a hs => ?_
 refine nl ?_
 obtain ⟨e169, h292, hsh⟩ := bind_t hsh
 refine wp_join (fun a w => ∃ (c170 : List Value) (p171 : Option Addr) (k172 : Nat) (Sv173 : Nat → Prop), Sl 27 [(3, .slice p171 e169.length k172)] a ∧ Wd ⟨w0, S0, []⟩ Sv173 [.row p171 e169.length k172 c170 35 12] [RowA c170 e169] w) ?_ ?_
 ·refine wp_block ?_
  refine wp_while (fun sv16 a w => ∃ (c115 : List Value) (p116 : Option Addr) (k117 : Nat) (Sv118 : Nat → Prop), Sl 27 [(3, .slice p116 sv16.1.length k117), (8, .int .i64 (rv6.length : Int)), (9, .int .i64 sv16.2)] a ∧ Wd ⟨w0, S0, []⟩ Sv118 [.row p116 sv16.1.length k117 c115 35 12] [RowA c115 sv16.1] w) (rv6, 0) h292 ⟨c10, p7, k8, Sv11, (hs.wk rfl), (hw.ft [0] [0] (by decide) rfl rfl)⟩ ?_
  clear h292
  repeat clear hsh
  rintro sv16 a w tv167 ⟨c115, p116, k117, Sv118, hs, hw⟩ hsh hd166
  delta compose_order_l1 at hsh
  refine sr ?_
  refine sv hs (y_lss rfl rfl) rfl fun a hs => ?_
  refine nl ?_
  refine wp_seq ?_
  refine wp_cond_split (hs.ev rfl) (fun h175 => ?_) (fun h175 => ?_)
  ·have hsh := ite_t hsh h175
   refine wp_skip ?_
   refine then_normal ?_
   refine wp_seq ?_
   refine wp_block ?_
   refine sr ?_
   refine mv hs rfl rfl fun a hs => ?_
   refine av hs rfl rfl fun a hs => ?_
   refine nl ?_
   refine wp_region_lit ?_
   refine mv hs rfl rfl fun a hs => ?_
   refine mv hs rfl rfl fun a hs => ?_
   refine mv hs rfl rfl fun a hs => ?_
   refine mv hs rfl rfl fun a hs => ?_
   obtain ⟨x224, h222, hsh⟩ := bind_t hsh
   obtain ⟨b231, q228, c229, h232, h225, h226, h230, h223⟩ := hw.elemRV (α := Record) 0 rfl 0 rfl h222
   have hsv233 := hs
   have hwv234 := hw
   subst h232
   have hs := hsv233
   have hw := hwv234
   obtain ⟨_, _, _, _, _, _, _, _, _, _, _, _, rfl, rfl, rfl, rfl, rfl, rfl, rfl, rfl, rfl, rfl, rfl, rfl, ⟨p235, n236, k237, rfl, h238⟩⟩ := h223
   obtain rfl := h238.1
   have hw := hw.addE (e := SlA p235 _ k237 x224.Samples) h238
   refine sv hs (y_indexAt Tryz.runUnderlying27 Tryz.sizeOf35 rfl rfl h225.1 h225.2 h226) rfl fun a hs => ?_
   refine sv hs (y_fieldAddr (o' := q228 + 11) Tryz.runUnderlying35 rfl Tryz.sizeOf22 rfl rfl rfl) rfl fun a hs => ?_
   refine sv hs (y_loadQ1 (j := 11) (hw.ownAt 0 rfl) rfl Tryz.isAgg22 h230 rfl) rfl fun a hs => ?_
   obtain ⟨rv240, h239, hsh⟩ := bind_t hsh
   refine st_callR hs (slices_Clone_Lint_int_ok h239 hw.dom (hw.envAt 0 rfl)) (do_call Tryz.call93 rfl) trivial rfl rfl ?_
   intro v248 Sv245 w a h246 h247 hs
   obtain ⟨p241, k242, c244, rfl, h249, h243⟩ := h247
   have hw := hw.callN h246 h249
   have hw := hw.addE (e := RowA c244 rv240) h243
   obtain ⟨x252, h250, hsh⟩ := bind_t hsh
   obtain ⟨q256, c257, h253, h254, h258, h251⟩ := hw.elemRK (α := Record) 1 rfl 2 rfl h250
   obtain ⟨_, _, _, _, _, _, _, _, _, _, _, _, rfl, rfl, rfl, rfl, rfl, rfl, rfl, rfl, rfl, rfl, rfl, rfl, ⟨p259, n260, k261, rfl, h262⟩⟩ := h251
   obtain rfl := h262.1
   have hw := hw.addE (e := SlA p259 _ k261 x252.Samples) h262
   refine sv hs (y_indexAt Tryz.runUnderlying27 Tryz.sizeOf35 rfl rfl h253.1 h253.2 h254) rfl fun a hs => ?_
   refine sv hs (y_fieldAddr (o' := q256 + 11) Tryz.runUnderlying35 rfl Tryz.sizeOf22 rfl rfl rfl) rfl fun a hs => ?_
   obtain ⟨l264, h263, hsh⟩ := bind_t hsh
   obtain ⟨Sv267, hw⟩ := w_share (α := Int) hw 0 rfl 1 rfl
   refine w_storeR (α := Record) (f := 11) (m := 1) hs hw 0 rfl 4 rfl h254 rfl rfl Tryz.sizeOf22 rfl rfl rfl h263 (fun es he => by rw [h258] at he; subst he; exact ⟨_, _, _, _, _, _, _, _, _, _, _, _, rfl, rfl, rfl, rfl, rfl, rfl, rfl, rfl, rfl, rfl, rfl, rfl, ⟨_, _, _, rfl, hw.envAt 0 rfl⟩⟩) trivial ?_
   intro c265 a w hs hw
   have h266 := setM_len h263
   try have hs := hs.fl 3 rfl h266
   try have hs := hs.fl 12 rfl h266
   try have hs := hs.fl 14 rfl h266
   refine wpList_nil ?_
   refine blk_normal ?_
   refine then_normal ?_
   refine wp_region_lit ?_
   refine sv hs (y_add rfl rfl) rfl fun a hs => ?_
   refine mv hs rfl rfl fun a hs => ?_
   refine nl ?_
   exact ⟨_, (Option.some.inj hsh).symm, c265, (some ⟨b231, 0, none⟩), k117, Sv267, (hs.wk rfl), (hw.ft [0] [0] (by decide) rfl rfl)⟩
  have hsh := ite_f hsh h175
  refine wp_exit ?_
  refine then_exit ?_
  refine then_exit ?_
  refine blk_exit ?_
  have hsh := oi hsh
  subst hsh
  have h268 := hd166 _ rfl
  subst h268
  refine then_normal ?_
  exact ⟨c115, p116, k117, Sv118, (hs.wk rfl), (hw.ft [0] [0] (by decide) rfl rfl)⟩
 rintro a w ⟨c170, p171, k172, Sv173, hs, hw⟩
 refine then_normal ?_
 refine sr ?_
 refine mv hs rfl rfl fun a hs => ?_
 obtain ⟨rv270, h269, hsh⟩ := bind_t hsh
 refine st_callR hs (slices_SortFunc_Lapi_Record_api_Record_ok h269 hw.dom (hw.ins [0] (by decide) rfl) (hw.envAt 0 rfl) (record_Compare_fn _ _)) (do_call Tryz.call74 rfl) trivial rfl rfl ?_
 intro v277 Sv274 w a h275 h276 hs
 obtain ⟨c271, rfl, h278, h272, h273⟩ := h276
 have hw := hw.callO [0] [] (by decide) rfl h275 h278
 have hw := hw.addE (e := RowA c271 rv270) h272
 have h279 := h273
 have h280 := Eq.symm h279
 try have hs := hs.fl 3 rfl h280
 try have hs := hs.fl 23 rfl h280
 refine nl ?_
 refine sr ?_
 refine mv hs rfl rfl fun a hs => ?_
 obtain ⟨rv282, h281, hsh⟩ := bind_t hsh
 refine st_callR hs (slices_CompactFunc_Lapi_Record_api_Record_ok h281 hw.dom (hw.ins [0] (by decide) rfl) (hw.envAt 0 rfl) (record_Same_fn _ _)) (do_call Tryz.call94 rfl) trivial rfl rfl ?_
 intro v290 Sv287 w a h288 h289 hs
 obtain ⟨p283, k284, c286, rfl, h291, h285⟩ := h289
 have hw := hw.callO [0] [] (by decide) rfl h288 h291
 have hw := hw.addE (e := RowA c286 rv282) h285
 refine av hs rfl rfl fun a hs => ?_
 refine nl ?_
 have hsh := oi hsh
 subst hsh
 refine wp_ret ?_
 exact ret1 hs rfl (rv_tmp rfl) (hw.ret ⟨p283, k284, c286, rfl, (hw.outs [0] (by decide) rfl), (hw.envAt 0 rfl)⟩)

abbrev record_Better_rd (w0 : World) (X : List Nat) (r : Bool) : (Nat → Prop) → World → Value → Prop := fun S w v => v = .bool r
set_option maxHeartbeats 4000000 in
set_option maxRecDepth 100000 in
theorem record_Better_ok {w0 : World} {S0 : Nat → Prop} {p2 : Option Addr} {k3 : Nat} {p6 : Option Addr} {k7 : Nat} {a1 : Record} {b5 : Record} {r : Bool} (hsh : record_Better a1 b5 = some r) (hS : ∀ b, S0 b → b < w0.heap.size) (h4 : (SlA p2 a1.Samples.length k3 a1.Samples).p S0 w0) (h8 : (SlA p6 b5.Samples.length k7 b5.Samples).p S0 w0) : Calls Tryz.prog 71 #[.agg #[.string a1.Source.Network, .string a1.Source.Station, .string a1.Source.Location, .string a1.Source.Channel, .int .i64 a1.Start, .int .i64 a1.First, .int .i64 a1.Rate.Num, .int .i64 a1.Rate.Den, .int .i64 a1.Error, .int .i64 a1.Run, .int .i64 a1.Seq, .slice p2 a1.Samples.length k3], .agg #[.string b5.Source.Network, .string b5.Source.Station, .string b5.Source.Location, .string b5.Source.Channel, .int .i64 b5.Start, .int .i64 b5.First, .int .i64 b5.Rate.Num, .int .i64 b5.Rate.Den, .int .i64 b5.Error, .int .i64 b5.Run, .int .i64 b5.Seq, .slice p6 b5.Samples.length k7]] w0 (Ret ([]) w0 S0 (record_Better_rd w0 ([]) r)) := by
 refine calls_of_wp Tryz.func71 rfl ?_
 have hs := Sl.enter #[.agg #[.string a1.Source.Network, .string a1.Source.Station, .string a1.Source.Location, .string a1.Source.Channel, .int .i64 a1.Start, .int .i64 a1.First, .int .i64 a1.Rate.Num, .int .i64 a1.Rate.Den, .int .i64 a1.Error, .int .i64 a1.Run, .int .i64 a1.Seq, .slice p2 a1.Samples.length k3], .agg #[.string b5.Source.Network, .string b5.Source.Station, .string b5.Source.Location, .string b5.Source.Channel, .int .i64 b5.Start, .int .i64 b5.First, .int .i64 b5.Rate.Num, .int .i64 b5.Rate.Den, .int .i64 b5.Error, .int .i64 b5.Run, .int .i64 b5.Seq, .slice p6 b5.Samples.length k7]] 26 [(0, .agg #[.string a1.Source.Network, .string a1.Source.Station, .string a1.Source.Location, .string a1.Source.Channel, .int .i64 a1.Start, .int .i64 a1.First, .int .i64 a1.Rate.Num, .int .i64 a1.Rate.Den, .int .i64 a1.Error, .int .i64 a1.Run, .int .i64 a1.Seq, .slice p2 a1.Samples.length k3]), (1, .agg #[.string b5.Source.Network, .string b5.Source.Station, .string b5.Source.Location, .string b5.Source.Channel, .int .i64 b5.Start, .int .i64 b5.First, .int .i64 b5.Rate.Num, .int .i64 b5.Rate.Den, .int .i64 b5.Error, .int .i64 b5.Run, .int .i64 b5.Seq, .slice p6 b5.Samples.length k7])] rfl ⟨rfl, rfl, trivial⟩
 have hw := Wd.enter (E := []) hS (fun _ h => (by cases h))
 have hw := hw.addE h4
 have hw := hw.addE h8
 delta record_Better at hsh
 refine sr ?_
 refine w_box (cs := [.string a1.Source.Network, .string a1.Source.Station, .string a1.Source.Location, .string a1.Source.Channel, .int .i64 a1.Start, .int .i64 a1.First, .int .i64 a1.Rate.Num, .int .i64 a1.Rate.Den, .int .i64 a1.Error, .int .i64 a1.Run, .int .i64 a1.Seq, .slice p2 a1.Samples.length k3]) hs hw rfl rfl rfl trivial ?_
 intro b9 a w hs hw
 refine w_box (cs := [.string b5.Source.Network, .string b5.Source.Station, .string b5.Source.Location, .string b5.Source.Channel, .int .i64 b5.Start, .int .i64 b5.First, .int .i64 b5.Rate.Num, .int .i64 b5.Rate.Den, .int .i64 b5.Error, .int .i64 b5.Run, .int .i64 b5.Seq, .slice p6 b5.Samples.length k7]) hs hw rfl rfl rfl trivial ?_
 intro b10 a w hs hw
 refine av hs rfl rfl fun a hs => ?_
 refine nl ?_
 refine wp_seq ?_
 obtain ⟨rv12, h11, hsh⟩ := bind_t hsh
 obtain ⟨rv14, h13, hsh⟩ := bind_t hsh
 obtain ⟨rv16, h15, hsh⟩ := bind_t hsh
 obtain ⟨rv18, h17, hsh⟩ := bind_t hsh
 obtain ⟨rv22, h21, hsh⟩ := bind_t hsh
 refine wp_only (fun a w => ∃ (Sv23 : Nat → Prop), Sl 26 [(4, .bool (decide (rv22 < 0)))] a ∧ Wd ⟨w0, S0, []⟩ Sv23 [] [] w) ?_ ?_
 ·refine h_b (C := Cls [.box b10 [.string b5.Source.Network, .string b5.Source.Station, .string b5.Source.Location, .string b5.Source.Channel, .int .i64 b5.Start, .int .i64 b5.First, .int .i64 b5.Rate.Num, .int .i64 b5.Rate.Den, .int .i64 b5.Error, .int .i64 b5.Run, .int .i64 b5.Seq, .slice p6 b5.Samples.length k7] 35, .box b9 [.string a1.Source.Network, .string a1.Source.Station, .string a1.Source.Location, .string a1.Source.Channel, .int .i64 a1.Start, .int .i64 a1.First, .int .i64 a1.Rate.Num, .int .i64 a1.Rate.Den, .int .i64 a1.Error, .int .i64 a1.Run, .int .i64 a1.Seq, .slice p2 a1.Samples.length k3] 35] []) (by kernel_rfl) rfl (hw.drew.cs [0, 1] [] rfl rfl) fun hC => ?_
  have hw := hw.drew
  refine gv hs 0 rfl rfl hC (fun w hC => y_fieldAddr (o' := 8) Tryz.runUnderlying35 rfl Tryz.sizeOf3 rfl rfl rfl) fun a hs => ?_
  refine gv hs 1 rfl rfl hC (fun w hC => y_loadB1 (hC.ownAt 1 rfl) rfl Tryz.isAgg3 rfl) fun a hs => ?_
  refine gv hs 2 rfl rfl hC (fun w hC => y_fieldAddr (o' := 8) Tryz.runUnderlying35 rfl Tryz.sizeOf3 rfl rfl rfl) fun a hs => ?_
  refine gv hs 3 rfl rfl hC (fun w hC => y_loadB1 (hC.ownAt 0 rfl) rfl Tryz.isAgg3 rfl) fun a hs => ?_
  refine gv hs 5 rfl rfl hC (fun w hC => y_fieldAddr (o' := 9) Tryz.runUnderlying35 rfl Tryz.sizeOf3 rfl rfl rfl) fun a hs => ?_
  refine gv hs 6 rfl rfl hC (fun w hC => y_loadB1 (hC.ownAt 0 rfl) rfl Tryz.isAgg3 rfl) fun a hs => ?_
  refine gv hs 7 rfl rfl hC (fun w hC => y_fieldAddr (o' := 9) Tryz.runUnderlying35 rfl Tryz.sizeOf3 rfl rfl rfl) fun a hs => ?_
  refine gv hs 8 rfl rfl hC (fun w hC => y_loadB1 (hC.ownAt 1 rfl) rfl Tryz.isAgg3 rfl) fun a hs => ?_
  refine gv hs 10 rfl rfl hC (fun w hC => y_fieldAddr (o' := 10) Tryz.runUnderlying35 rfl Tryz.sizeOf3 rfl rfl rfl) fun a hs => ?_
  refine gv hs 11 rfl rfl hC (fun w hC => y_loadB1 (hC.ownAt 0 rfl) rfl Tryz.isAgg3 rfl) fun a hs => ?_
  refine gv hs 12 rfl rfl hC (fun w hC => y_fieldAddr (o' := 10) Tryz.runUnderlying35 rfl Tryz.sizeOf3 rfl rfl rfl) fun a hs => ?_
  refine gv hs 13 rfl rfl hC (fun w hC => y_loadB1 (hC.ownAt 1 rfl) rfl Tryz.isAgg3 rfl) fun a hs => ?_
  refine gv hs 15 rfl rfl hC (fun w hC => y_loadBA (hC.ownAt 1 rfl) rfl Tryz.isAgg35 Tryz.sizeOf35 rfl rfl) fun a hs => ?_
  refine gv hs 16 rfl rfl hC (fun w hC => y_loadBA (hC.ownAt 0 rfl) rfl Tryz.isAgg35 Tryz.sizeOf35 rfl rfl) fun a hs => ?_
  refine ho 4 rfl ?_
  refine st_callR hs (cmp_Compare_int_ok h11 hw.bdom) (do_call Tryz.call88 rfl) trivial rfl rfl ?_
  intro v27 Sv24 w a h25 h26 hs
  subst h26
  have hw := hw.callB h25
  refine h_nx (hw.cs [0, 1] [] rfl rfl) fun hC => ?_
  refine ho 9 rfl ?_
  refine st_callR hs (cmp_Compare_int_ok h13 hw.bdom) (do_call Tryz.call88 rfl) trivial rfl rfl ?_
  intro v32 Sv29 w a h30 h31 hs
  subst h31
  have hw := hw.callB h30
  refine h_nx (hw.cs [0, 1] [] rfl rfl) fun hC => ?_
  refine ho 14 rfl ?_
  refine st_callR hs (cmp_Compare_int_ok h15 hw.bdom) (do_call Tryz.call88 rfl) trivial rfl rfl ?_
  intro v37 Sv34 w a h35 h36 hs
  subst h36
  have hw := hw.callB h35
  refine h_nx (hw.cs [0, 1] [] rfl rfl) fun hC => ?_
  refine ho 17 rfl ?_
  refine st_callR hs (record_Compare_ok h17 hw.bdom (hw.bE 1 rfl) (hw.bE 0 rfl)) (do_call Tryz.call75 rfl) trivial rfl rfl ?_
  intro v42 Sv39 w a h40 h41 hs
  subst h41
  have hw := hw.callB h40
  refine h_nx (hw.cs [0, 1] [] rfl rfl) fun hC => ?_
  refine ho 18 rfl ?_
  refine w_litSlice (α := Int) (vs := [.int .i64 rv12, .int .i64 rv14, .int .i64 rv16, .int .i64 rv18]) (cs := [.int .i64 rv12, .int .i64 rv14, .int .i64 rv16, .int .i64 rv18]) (xs := ([rv12, rv14, rv16, rv18] : List Int)) hs hw El22 rfl rfl rfl rfl rfl rfl ⟨⟨_, rfl, rfl⟩, ⟨⟨_, rfl, rfl⟩, ⟨⟨_, rfl, rfl⟩, ⟨⟨_, rfl, rfl⟩, rfl⟩⟩⟩⟩ rfl trivial rfl fun b20 a w hs hw => ?_
  refine h_nx (hw.cs [1, 2] [] rfl rfl) fun hC => ?_
  refine h_st (C' := Cls [.box b10 [.string b5.Source.Network, .string b5.Source.Station, .string b5.Source.Location, .string b5.Source.Channel, .int .i64 b5.Start, .int .i64 b5.First, .int .i64 b5.Rate.Num, .int .i64 b5.Rate.Den, .int .i64 b5.Error, .int .i64 b5.Run, .int .i64 b5.Seq, .slice p6 b5.Samples.length k7] 35, .box b9 [.string a1.Source.Network, .string a1.Source.Station, .string a1.Source.Location, .string a1.Source.Channel, .int .i64 a1.Start, .int .i64 a1.First, .int .i64 a1.Rate.Num, .int .i64 a1.Rate.Den, .int .i64 a1.Error, .int .i64 a1.Run, .int .i64 a1.Seq, .slice p2 a1.Samples.length k3] 35, .row (some ⟨b20, 0, none⟩) ([rv12, rv14, rv16, rv18] : List Int).length ([rv12, rv14, rv16, rv18] : List Int).length [.int .i64 rv12, .int .i64 rv14, .int .i64 rv16, .int .i64 rv18] 3 1] []) (fun _ h => by exact h.sub [0, 1] (Sel.of rfl) (AllIn.of [] rfl)) (hw.cs [1, 2, 0] [] rfl rfl) fun hC => ?_
  refine ho 19 rfl ?_
  refine st_callR hs (cmp_Or_int_ok h21 hw.bdom (hw.bRow 0 rfl 0 rfl)) (do_call Tryz.call99 rfl) trivial rfl rfl ?_
  intro v47 Sv44 w a h45 h46 hs
  subst h46
  have hw := hw.callB h45
  refine h_nx (hw.cs [1, 2, 0] [] rfl rfl) fun hC => ?_
  refine gv hs 20 rfl rfl hC (fun w hC => y_lss rfl rfl) fun a hs => ?_
  refine gv hs 21 rfl rfl hC (fun w hC => y_assign rfl) fun a hs => ?_
  refine h_done (by kernel_rfl) ?_
  exact ⟨S0, (hs.wk rfl), (hw.ft [] [] (by decide) rfl rfl)⟩
 rintro a w ⟨Sv23, hs, hw⟩
 refine then_normal ?_
 have hsh := oi hsh
 subst hsh
 refine wp_ret ?_
 exact ret1 hs rfl (rv_tmp rfl) (hw.ret rfl)

abbrev compose_at_rd (w0 : World) (X : List Nat) (r : Int) : (Nat → Prop) → World → Value → Prop := fun S w v => v = .int .i64 r
set_option maxHeartbeats 4000000 in
set_option maxRecDepth 100000 in
theorem compose_at_ok {w0 : World} {S0 : Nat → Prop} {p2 : Option Addr} {k3 : Nat} {r1 : Record} {i5 : Int} {r : Int} (hsh : compose_at r1 i5 = some r) (hS : ∀ b, S0 b → b < w0.heap.size) (h4 : (SlA p2 r1.Samples.length k3 r1.Samples).p S0 w0) : Calls Tryz.prog 56 #[.agg #[.string r1.Source.Network, .string r1.Source.Station, .string r1.Source.Location, .string r1.Source.Channel, .int .i64 r1.Start, .int .i64 r1.First, .int .i64 r1.Rate.Num, .int .i64 r1.Rate.Den, .int .i64 r1.Error, .int .i64 r1.Run, .int .i64 r1.Seq, .slice p2 r1.Samples.length k3], .int .i64 i5] w0 (Ret ([]) w0 S0 (compose_at_rd w0 ([]) r)) := by
 refine calls_of_wp Tryz.func56 rfl ?_
 have hs := Sl.enter #[.agg #[.string r1.Source.Network, .string r1.Source.Station, .string r1.Source.Location, .string r1.Source.Channel, .int .i64 r1.Start, .int .i64 r1.First, .int .i64 r1.Rate.Num, .int .i64 r1.Rate.Den, .int .i64 r1.Error, .int .i64 r1.Run, .int .i64 r1.Seq, .slice p2 r1.Samples.length k3], .int .i64 i5] 20 [(0, .agg #[.string r1.Source.Network, .string r1.Source.Station, .string r1.Source.Location, .string r1.Source.Channel, .int .i64 r1.Start, .int .i64 r1.First, .int .i64 r1.Rate.Num, .int .i64 r1.Rate.Den, .int .i64 r1.Error, .int .i64 r1.Run, .int .i64 r1.Seq, .slice p2 r1.Samples.length k3]), (1, .int .i64 i5)] rfl ⟨rfl, rfl, trivial⟩
 have hw := Wd.enter (E := []) hS (fun _ h => (by cases h))
 have hw := hw.addE h4
 delta compose_at at hsh
 refine sr ?_
 refine w_box (cs := [.string r1.Source.Network, .string r1.Source.Station, .string r1.Source.Location, .string r1.Source.Channel, .int .i64 r1.Start, .int .i64 r1.First, .int .i64 r1.Rate.Num, .int .i64 r1.Rate.Den, .int .i64 r1.Error, .int .i64 r1.Run, .int .i64 r1.Seq, .slice p2 r1.Samples.length k3]) hs hw rfl rfl rfl trivial ?_
 intro b6 a w hs hw
 refine av hs rfl rfl fun a hs => ?_
 refine nl ?_
 refine sr ?_
 refine sv hs (y_fieldAddr (o' := 4) Tryz.runUnderlying35 rfl Tryz.sizeOf3 rfl rfl rfl) rfl fun a hs => ?_
 refine sv hs (y_loadB1 (hw.ownAt 0 rfl) rfl Tryz.isAgg3 rfl) rfl fun a hs => ?_
 refine sv hs (y_fieldAddr (o' := 6) Tryz.runUnderlying35 rfl Tryz.sizeOf33 rfl rfl rfl) rfl fun a hs => ?_
 refine sv hs (y_loadBA (hw.ownAt 0 rfl) rfl Tryz.isAgg33 Tryz.sizeOf33 rfl rfl) rfl fun a hs => ?_
 refine sv hs (y_fieldAddr (o' := 5) Tryz.runUnderlying35 rfl Tryz.sizeOf3 rfl rfl rfl) rfl fun a hs => ?_
 refine sv hs (y_loadB1 (hw.ownAt 0 rfl) rfl Tryz.isAgg3 rfl) rfl fun a hs => ?_
 refine mv hs rfl rfl fun a hs => ?_
 refine sv hs (y_add rfl rfl) rfl fun a hs => ?_
 obtain ⟨rv8, h7, hsh⟩ := bind_t hsh
 refine st_callR hs (rate_Time_ok h7 hw.bdom) (do_call Tryz.call81 rfl) trivial rfl rfl ?_
 intro v12 Sv9 w a h10 h11 hs
 subst h11
 have hw := hw.callB h10
 refine mv hs rfl rfl fun a hs => ?_
 refine sv hs (y_extract rfl rfl) rfl fun a hs => ?_
 refine sv hs (y_extract rfl rfl) rfl fun a hs => ?_
 refine av hs rfl rfl fun a hs => ?_
 refine av hs rfl rfl fun a hs => ?_
 refine nl ?_
 refine sr ?_
 refine mv hs rfl rfl fun a hs => ?_
 refine av hs rfl rfl fun a hs => ?_
 refine nl ?_
 have hsh := oi hsh
 subst hsh
 refine wp_ret ?_
 exact ret1 hs rfl (rv_tmp rfl) (hw.ret rfl)

abbrev compose_extent_rd (w0 : World) (X : List Nat) (r : Span) : (Nat → Prop) → World → Value → Prop := fun S w v => v = .agg #[.int .i64 r.From, .int .i64 r.To]
set_option maxHeartbeats 4000000 in
set_option maxRecDepth 100000 in
theorem compose_extent_ok {w0 : World} {S0 : Nat → Prop} {p2 : Option Addr} {k3 : Nat} {r1 : Record} {r : Span} (hsh : compose_extent r1 = some r) (hS : ∀ b, S0 b → b < w0.heap.size) (h4 : (SlA p2 r1.Samples.length k3 r1.Samples).p S0 w0) : Calls Tryz.prog 59 #[.agg #[.string r1.Source.Network, .string r1.Source.Station, .string r1.Source.Location, .string r1.Source.Channel, .int .i64 r1.Start, .int .i64 r1.First, .int .i64 r1.Rate.Num, .int .i64 r1.Rate.Den, .int .i64 r1.Error, .int .i64 r1.Run, .int .i64 r1.Seq, .slice p2 r1.Samples.length k3]] w0 (Ret ([]) w0 S0 (compose_extent_rd w0 ([]) r)) := by
 refine calls_of_wp Tryz.func59 rfl ?_
 have hs := Sl.enter #[.agg #[.string r1.Source.Network, .string r1.Source.Station, .string r1.Source.Location, .string r1.Source.Channel, .int .i64 r1.Start, .int .i64 r1.First, .int .i64 r1.Rate.Num, .int .i64 r1.Rate.Den, .int .i64 r1.Error, .int .i64 r1.Run, .int .i64 r1.Seq, .slice p2 r1.Samples.length k3]] 11 [(0, .agg #[.string r1.Source.Network, .string r1.Source.Station, .string r1.Source.Location, .string r1.Source.Channel, .int .i64 r1.Start, .int .i64 r1.First, .int .i64 r1.Rate.Num, .int .i64 r1.Rate.Den, .int .i64 r1.Error, .int .i64 r1.Run, .int .i64 r1.Seq, .slice p2 r1.Samples.length k3])] rfl ⟨rfl, trivial⟩
 have hw := Wd.enter (E := []) hS (fun _ h => (by cases h))
 have hw := hw.addE h4
 delta compose_extent at hsh
 refine sr ?_
 refine w_box (cs := [.string r1.Source.Network, .string r1.Source.Station, .string r1.Source.Location, .string r1.Source.Channel, .int .i64 r1.Start, .int .i64 r1.First, .int .i64 r1.Rate.Num, .int .i64 r1.Rate.Den, .int .i64 r1.Error, .int .i64 r1.Run, .int .i64 r1.Seq, .slice p2 r1.Samples.length k3]) hs hw rfl rfl rfl trivial ?_
 intro b5 a w hs hw
 refine w_alloc (cs := [.int .i64 0, .int .i64 0]) hs hw Tryz.zeroValue45 rfl rfl trivial ?_
 intro b6 a w hs hw
 refine nl ?_
 refine wp_seq ?_
 obtain ⟨rv8, h7, hsh⟩ := bind_t hsh
 obtain ⟨rv10, h9, hsh⟩ := bind_t hsh
 refine wp_only (fun a w => ∃ (Sv11 : Nat → Prop), Sl 11 [(2, .pointer (some ⟨b6, 0, none⟩))] a ∧ Wd ⟨w0, S0, []⟩ Sv11 [.box b6 [.int .i64 rv8, .int .i64 rv10] 45] [] w) ?_ ?_
 ·refine h_b (C := Cls [.box b5 [.string r1.Source.Network, .string r1.Source.Station, .string r1.Source.Location, .string r1.Source.Channel, .int .i64 r1.Start, .int .i64 r1.First, .int .i64 r1.Rate.Num, .int .i64 r1.Rate.Den, .int .i64 r1.Error, .int .i64 r1.Run, .int .i64 r1.Seq, .slice p2 r1.Samples.length k3] 35] []) (by kernel_rfl) rfl (hw.drew.cs [1] [] rfl rfl) fun hC => ?_
  have hw := hw.drew
  refine gv hs 0 rfl rfl hC (fun w hC => y_loadBA (hC.ownAt 0 rfl) rfl Tryz.isAgg35 Tryz.sizeOf35 rfl rfl) fun a hs => ?_
  refine gv hs 2 rfl rfl hC (fun w hC => y_loadBA (hC.ownAt 0 rfl) rfl Tryz.isAgg35 Tryz.sizeOf35 rfl rfl) fun a hs => ?_
  refine gv hs 3 rfl rfl hC (fun w hC => y_fieldAddr (o' := 11) Tryz.runUnderlying35 rfl Tryz.sizeOf22 rfl rfl rfl) fun a hs => ?_
  refine gv hs 4 rfl rfl hC (fun w hC => y_loadB1 (hC.ownAt 0 rfl) rfl Tryz.isAgg22 rfl) fun a hs => ?_
  refine gv hs 5 rfl rfl hC (fun w hC => y_len Tryz.runUnderlying22 rfl) fun a hs => ?_
  refine ho 1 rfl ?_
  refine st_callR hs (compose_at_ok h7 hw.bdom (hw.bE 0 rfl)) (do_call Tryz.call56 rfl) trivial rfl rfl ?_
  intro v15 Sv12 w a h13 h14 hs
  subst h14
  have hw := hw.callB h13
  refine h_nx (hw.cs [1] [] rfl rfl) fun hC => ?_
  refine ho 6 rfl ?_
  refine st_callR hs (compose_at_ok h9 hw.bdom (hw.bE 0 rfl)) (do_call Tryz.call56 rfl) trivial rfl rfl ?_
  intro v20 Sv17 w a h18 h19 hs
  subst h19
  have hw := hw.callB h18
  refine h_nx (hw.cs [1] [] rfl rfl) fun hC => ?_
  refine gv hs 7 rfl rfl hC (fun w hC => y_build (vs := [(0, .int .i64 rv8), (1, .int .i64 rv10)]) Bld45 rfl rfl) fun a hs => ?_
  refine ho 8 rfl ?_
  refine w_store (m := 2) (cs' := [.int .i64 rv8, .int .i64 rv10]) hs hw 0 rfl rfl rfl Tryz.sizeOf45 rfl rfl rfl rfl trivial ?_
  intro a w hs hw
  refine h_nx (hw.cs [1] [] rfl rfl) fun hC => ?_
  refine h_done (by kernel_rfl) ?_
  exact ⟨S0, (hs.wk rfl), (hw.ft [0] [] (by decide) rfl rfl)⟩
 rintro a w ⟨Sv11, hs, hw⟩
 refine then_normal ?_
 have hsh := oi hsh
 subst hsh
 refine wp_ret ?_
 exact ret1 hs rfl (rv_cell hw 0 rfl rfl Tryz.isAgg45 Tryz.sizeOf45 rfl) (hw.ret rfl)

abbrev slices_Clone_Lapi_Span_api_Span_rd (w0 : World) (X : List Nat) (r : (List Span)) : (Nat → Prop) → World → Value → Prop := fun S w v => ∃ (p0_0 : Option Addr) (k0_0 : Nat) (c0_0 : List Value), v = .slice p0_0 r.length k0_0 ∧ Outs X w0 S w [.row p0_0 r.length k0_0 c0_0 45 2] ∧ (RowA c0_0 r).p S w
set_option maxHeartbeats 4000000 in
set_option maxRecDepth 100000 in
theorem slices_Clone_Lapi_Span_api_Span_ok {w0 : World} {S0 : Nat → Prop} {p2 : Option Addr} {k3 : Nat} {s1 : (List Span)} {r : (List Span)} (hsh : slices_Clone_Lapi_Span_api_Span s1 = some r) (hS : ∀ b, S0 b → b < w0.heap.size) (h4 : (SlA p2 s1.length k3 s1).p S0 w0) : Calls Tryz.prog 83 #[.slice p2 s1.length k3] w0 (Ret ([]) w0 S0 (slices_Clone_Lapi_Span_api_Span_rd w0 ([]) r)) := by
 refine calls_of_wp Tryz.func83 rfl ?_
 have hs := Sl.enter #[.slice p2 s1.length k3] 8 [(0, .slice p2 s1.length k3)] rfl ⟨rfl, trivial⟩
 have hw := Wd.enter (E := []) hS (fun _ h => (by cases h))
 have hw := hw.addE h4
 delta slices_Clone_Lapi_Span_api_Span at hsh
 refine sr ?_
 refine av hs rfl rfl fun a hs => ?_
 refine nl ?_
 refine wp_seq ?_
 refine sr ?_
 refine mv hs rfl rfl fun a hs => ?_
 refine sv hs (y_eqlN Tryz.runUnderlying52 rfl rfl) rfl fun a hs => ?_
 refine nl ?_
 have hsv15 := hs
 have hwv16 := hw
 rcases p2 with _ | av8
 ·have hs := hsv15
  have hw := hwv16
  obtain rfl := slnil (hw.envAt 0 rfl)
  have hsh : some ([] : List Span) = some r := by simpa [appM, maxLen] using hsh
  refine wp_cond_true (hs.ev rfl) ?_
  refine sr ?_
  refine av hs rfl rfl fun a hs => ?_
  refine nl ?_
  have hsh := oi hsh
  subst hsh
  have hw := hw.nilRow Span 45
  refine wp_ret ?_
  refine then_ret ?_
  exact ret1 hs rfl (rv_tmp rfl) (hw.ret ⟨none, 0, [], rfl, (hw.outs [0] (by decide) rfl), (hw.envAt 0 rfl)⟩)
 have hs := hsv15
 have hw := hwv16
 refine wp_cond_false (hs.ev rfl) ?_
 refine wp_skip ?_
 refine then_normal ?_
 refine sr ?_
 refine w_buildSlice (α := Span) (vs := []) (cs := []) (xs := ([] : List Span)) hs hw El52 rfl rfl rfl rfl rfl rfl rfl rfl trivial fun p9 a w hs hw => ?_
 refine mv hs rfl rfl fun a hs => ?_
 obtain ⟨l11, h10, hsh⟩ := bind_t hsh
 refine w_appendE (α := Span) hs hw El52 0 rfl rfl rfl 0 rfl 1 rfl h10 rfl trivial ?_
 intro p12 k13 c14 a w hs hw
 refine av hs rfl rfl fun a hs => ?_
 refine nl ?_
 have hsh := oi hsh
 subst hsh
 refine wp_ret ?_
 exact ret1 hs rfl (rv_tmp rfl) (hw.ret ⟨p12, k13, c14, rfl, (hw.outs [0] (by decide) rfl), (hw.envAt 0 rfl)⟩)

abbrev slices_IndexFunc_Lapi_Span_api_Span_rd (w0 : World) (X : List Nat) (r : Int) : (Nat → Prop) → World → Value → Prop := fun S w v => v = .int .i64 r
set_option maxHeartbeats 4000000 in
set_option maxRecDepth 100000 in
theorem slices_IndexFunc_Lapi_Span_api_Span_ok {w0 : World} {S0 : Nat → Prop} {p2 : Option Addr} {k3 : Nat} {g6 : Nat} {f7 : List Value} {cp8 : List Value} {s1 : (List Span)} {f5 : Span → Option Bool} {r : Int} (hsh : slices_IndexFunc_Lapi_Span_api_Span s1 f5 = some r) (hS : ∀ b, S0 b → b < w0.heap.size) (h4 : (SlA p2 s1.length k3 s1).p S0 w0) (h9 : (FnA1 Tryz.prog g6 f7 cp8 f5).p S0 w0) : Calls Tryz.prog 111 #[.slice p2 s1.length k3, .func (.func g6) f7.toArray cp8.toArray] w0 (Ret ([]) w0 S0 (slices_IndexFunc_Lapi_Span_api_Span_rd w0 ([]) r)) := by
 refine calls_of_wp Tryz.func111 rfl ?_
 have hs := Sl.enter #[.slice p2 s1.length k3, .func (.func g6) f7.toArray cp8.toArray] 19 [(0, .slice p2 s1.length k3), (1, .func (.func g6) f7.toArray cp8.toArray)] rfl ⟨rfl, rfl, trivial⟩
 have hw := Wd.enter (E := []) hS (fun _ h => (by cases h))
 have hw := hw.addE h4
 have hw := hw.addE h9
 delta slices_IndexFunc_Lapi_Span_api_Span at hsh
 refine sr ?_
 refine av hs rfl rfl fun a hs => ?_
 refine nl ?_
 refine wp_seq ?_
 refine sr ?_
 refine mv hs rfl rfl fun a hs => ?_
 refine sv hs (y_len Tryz.runUnderlying52 rfl) rfl fun a hs => ?_
 refine mv hs rfl rfl fun a hs => ?_
 refine nl ?_
 refine wp_block ?_
 refine wp_while (fun sv78 a w => ∃ (Sv122 : Nat → Prop), Sl 19 [(0, .slice p2 s1.length k3), (1, .func (.func g6) f7.toArray cp8.toArray), (7, .int .i64 (s1.length : Int)), (8, .int .i64 sv78)] a ∧ Wd ⟨w0, S0, []⟩ Sv122 [] [SlA p2 s1.length k3 s1, FnA1 Tryz.prog g6 f7 cp8 f5] w) 0 hsh ⟨S0, (hs.wk rfl), (hw.ft [] [1, 0] (by decide) rfl rfl)⟩ ?_
 repeat clear hsh
 rintro sv78 a w tv145 ⟨Sv122, hs, hw⟩ hsh hd144
 delta slices_IndexFunc_Lapi_Span_api_Span_l2 at hsh
 refine sr ?_
 refine sv hs (y_lss rfl rfl) rfl fun a hs => ?_
 refine nl ?_
 refine wp_seq ?_
 refine wp_cond_split (hs.ev rfl) (fun h149 => ?_) (fun h149 => ?_)
 ·have hsh := ite_t hsh h149
  refine wp_skip ?_
  refine then_normal ?_
  refine wp_seq ?_
  refine wp_block ?_
  refine sr ?_
  refine mv hs rfl rfl fun a hs => ?_
  refine av hs rfl rfl fun a hs => ?_
  refine nl ?_
  refine sr ?_
  refine mv hs rfl rfl fun a hs => ?_
  refine mv hs rfl rfl fun a hs => ?_
  refine mv hs rfl rfl fun a hs => ?_
  obtain ⟨x172, h170, hsh⟩ := bind_t hsh
  obtain ⟨b178, o179, q176, c177, h180, h173, h174, h175, h171⟩ := hw.elemV 0 rfl h170
  have hsv181 := hs
  have hwv182 := hw
  subst h180
  have hs := hsv181
  have hw := hwv182
  obtain ⟨_, _, rfl, rfl, rfl⟩ := h171
  have hw := hw.addE h175
  refine sv hs (y_indexAt Tryz.runUnderlying52 Tryz.sizeOf45 rfl rfl h173.1 h173.2 h174) rfl fun a hs => ?_
  refine sv hs (y_loadEA (j := 0) (hw.ceAt 0 rfl) rfl Tryz.isAgg45 Tryz.sizeOf45 rfl rfl) rfl fun a hs => ?_
  obtain ⟨rv184, h183, hsh⟩ := bind_t hsh
  refine st_callR hs ((hw.bE 2 rfl).2 Keep.rfl' hw.bdom ⟨_, _, rfl, rfl, rfl⟩ h183) (do_callF (hw.bE 2 rfl).1 rfl rfl) trivial rfl rfl ?_
  intro v188 Sv185 w a h186 h187 hs
  subst h187
  have hw := hw.callB h186
  refine nl ?_
  refine wp_cond_split (hs.ev rfl) (fun h190 => ?_) (fun h190 => ?_)
  ·have hsh := ite_t hsh h190
   refine sr ?_
   refine mv hs rfl rfl fun a hs => ?_
   refine av hs rfl rfl fun a hs => ?_
   refine nl ?_
   have hsh := oi hsh
   subst hsh
   have h191 := hd144 _ rfl
   subst h191
   refine wp_ret ?_
   refine blk_ret ?_
   refine then_ret ?_
   refine then_ret ?_
   refine blk_ret ?_
   refine then_ret ?_
   exact ret1 hs rfl (rv_tmp rfl) (hw.ret rfl)
  have hsh := ite_f hsh h190
  refine wp_skip ?_
  refine blk_normal ?_
  refine then_normal ?_
  refine wp_region_lit ?_
  refine sv hs (y_add rfl rfl) rfl fun a hs => ?_
  refine mv hs rfl rfl fun a hs => ?_
  refine nl ?_
  exact ⟨_, (Option.some.inj hsh).symm, Sv122, (hs.wk rfl), (hw.ft [] [1, 2] (by decide) rfl rfl)⟩
 have hsh := ite_f hsh h149
 obtain ⟨rv192, hsh, h193⟩ := map_t hsh
 have h193 := (hd144 _ h193.symm).symm
 subst h193
 refine wp_exit ?_
 refine then_exit ?_
 refine then_exit ?_
 refine blk_exit ?_
 refine then_normal ?_
 refine sr ?_
 refine av hs rfl rfl fun a hs => ?_
 refine nl ?_
 have hsh := oi hsh
 subst hsh
 refine wp_ret ?_
 exact ret1 hs rfl (rv_tmp rfl) (hw.ret rfl)

end Go.Proofs.YthdimlepjpnncaaGreat.Wk

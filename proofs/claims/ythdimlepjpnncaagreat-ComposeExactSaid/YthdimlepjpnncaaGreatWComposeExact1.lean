/- The walks of ComposeExact, part 1: each Go function computes what its plain program computes. Printed by a program of ours. -/
import Derived.Test.YthdimlepjpnncaaGreatProg
import Derived.Test.YthdimlepjpnncaaGreatDat
import Derived.Test.YthdimlepjpnncaaGreatSh
import Derived.Test.YthdimlepjpnncaaGreatLa1
import Derived.KernelRfl
import Derived.Test.YthdimlepjpnncaaGreatLb1
import Derived.Shelf.SlLaysF0
namespace Go.Proofs.YthdimlepjpnncaaGreat.Wk
open Go Go.RowKit Go.Proofs Go.Proofs.YthdimlepjpnncaaGreat.Sh Go.Proofs.Tryz
set_option linter.unusedVariables false
set_option linter.unusedSimpArgs false
set_option maxHeartbeats 4000000
set_option maxRecDepth 100000
theorem El22 : ElT Tryz.prog 22 3 1 8 (.int .i64 0) := ⟨Tryz.underlying22, ⟨Tryz.t3, info_of Tryz.type3, rfl, rfl, rfl⟩, rfl, by decide⟩
theorem El27 : ElT Tryz.prog 27 35 12 144 (.agg #[.string ByteArray.empty, .string ByteArray.empty, .string ByteArray.empty, .string ByteArray.empty, .int .i64 0, .int .i64 0, .int .i64 0, .int .i64 0, .int .i64 0, .int .i64 0, .int .i64 0, .slice none ([] : List Int).length 0]) := ⟨Tryz.underlying27, ⟨Tryz.t35, info_of Tryz.type35, rfl, rfl, rfl⟩, rfl, by decide⟩
theorem El52 : ElT Tryz.prog 52 45 2 16 (.agg #[.int .i64 0, .int .i64 0]) := ⟨Tryz.underlying52, ⟨Tryz.t45, info_of Tryz.type45, rfl, rfl, rfl⟩, rfl, by decide⟩
theorem El70 : ElT Tryz.prog 70 27 1 24 (.slice none ([] : List Record).length 0) := ⟨Tryz.underlying70, ⟨Tryz.t27, info_of Tryz.type27, rfl, rfl, rfl⟩, rfl, by decide⟩
theorem El80 : ElT Tryz.prog 80 9 1 16 (.string ByteArray.empty) := ⟨Tryz.underlying80, ⟨Tryz.t9, info_of Tryz.type9, rfl, rfl, rfl⟩, rfl, by decide⟩
theorem El101 : ElT Tryz.prog 101 4 1 1 (.bool false) := ⟨Tryz.underlying101, ⟨Tryz.t4, info_of Tryz.type4, rfl, rfl, rfl⟩, rfl, by decide⟩
theorem Bld31 : BldT Tryz.prog 31 ((#[(0, 1), (1, 1), (2, 1), (3, 1)] : Array (Nat × Nat))[·]?) [.string ByteArray.empty, .string ByteArray.empty, .string ByteArray.empty, .string ByteArray.empty] := bld_of Tryz.zeroValue31 rfl Tryz.runUnderlying31 (fun w => by simp [Tryz.sizeOf9])
theorem Bld33 : BldT Tryz.prog 33 ((#[(0, 1), (1, 1)] : Array (Nat × Nat))[·]?) [.int .i64 0, .int .i64 0] := bld_of Tryz.zeroValue33 rfl Tryz.runUnderlying33 (fun w => by simp [Tryz.sizeOf3])
theorem Bld35 : BldT Tryz.prog 35 ((#[(0, 4), (4, 1), (5, 1), (6, 2), (8, 1), (9, 1), (10, 1), (11, 1)] : Array (Nat × Nat))[·]?) [.string ByteArray.empty, .string ByteArray.empty, .string ByteArray.empty, .string ByteArray.empty, .int .i64 0, .int .i64 0, .int .i64 0, .int .i64 0, .int .i64 0, .int .i64 0, .int .i64 0, .slice none ([] : List Int).length 0] := bld_of Tryz.zeroValue35 rfl Tryz.runUnderlying35 (fun w => by simp [Tryz.sizeOf3, Tryz.sizeOf22, Tryz.sizeOf31, Tryz.sizeOf33])
theorem Bld45 : BldT Tryz.prog 45 ((#[(0, 1), (1, 1)] : Array (Nat × Nat))[·]?) [.int .i64 0, .int .i64 0] := bld_of Tryz.zeroValue45 rfl Tryz.runUnderlying45 (fun w => by simp [Tryz.sizeOf3])
theorem Bld75 : BldT Tryz.prog 75 ((#[(0, 1), (1, 1)] : Array (Nat × Nat))[·]?) [.slice none ([] : List Int).length 0, .int .i64 0] := bld_of Tryz.zeroValue75 rfl Tryz.runUnderlying75 (fun w => by simp [Tryz.sizeOf3, Tryz.sizeOf22])
theorem Bld86 : BldT Tryz.prog 86 (fun i => some (i * 1, 1)) [.int .i64 0, .int .i64 0, .int .i64 0, .int .i64 0, .int .i64 0, .int .i64 0, .int .i64 0, .int .i64 0, .int .i64 0, .int .i64 0] := bld_arr Tryz.zeroValue86 rfl Tryz.runUnderlying86 Tryz.sizeOf3
theorem Bld89 : BldT Tryz.prog 89 (fun i => some (i * 1, 1)) [.int .i64 0, .int .i64 0, .int .i64 0] := bld_arr Tryz.zeroValue89 rfl Tryz.runUnderlying89 Tryz.sizeOf3
theorem Bld95 : BldT Tryz.prog 95 ((#[(0, 1), (1, 1), (2, 1)] : Array (Nat × Nat))[·]?) [.int .i64 0, .int .i64 0, .int .i64 0] := bld_of Tryz.zeroValue95 rfl Tryz.runUnderlying95 (fun w => by simp [Tryz.sizeOf3])
theorem Bld108 : BldT Tryz.prog 108 (fun i => some (i * 1, 1)) [.int .i64 0, .int .i64 0, .int .i64 0, .int .i64 0] := bld_arr Tryz.zeroValue108 rfl Tryz.runUnderlying108 Tryz.sizeOf3
instance : TbOk Tryz.prog where
  tb := ⟨[(31, [(0, 1, false), (1, 1, false), (2, 1, false), (3, 1, false)]), (33, [(0, 1, false), (1, 1, false)]), (35, [(0, 4, true), (4, 1, false), (5, 1, false), (6, 2, true), (8, 1, false), (9, 1, false), (10, 1, false), (11, 1, false)]), (45, [(0, 1, false), (1, 1, false)]), (75, [(0, 1, false), (1, 1, false)]), (95, [(0, 1, false), (1, 1, false), (2, 1, false)])], [(3, none), (9, none), (22, none), (27, none), (31, some 4), (33, some 2), (35, some 12), (45, some 2)], [(9, false), (22, true), (27, true), (52, true), (70, true), (101, true)]⟩
  st := ⟨⟨_, Tryz.runUnderlying31, ⟨rfl, Tryz.sizeOf9, Tryz.isAgg9⟩, ⟨rfl, Tryz.sizeOf9, Tryz.isAgg9⟩, ⟨rfl, Tryz.sizeOf9, Tryz.isAgg9⟩, ⟨rfl, Tryz.sizeOf9, Tryz.isAgg9⟩, trivial⟩, ⟨_, Tryz.runUnderlying33, ⟨rfl, Tryz.sizeOf3, Tryz.isAgg3⟩, ⟨rfl, Tryz.sizeOf3, Tryz.isAgg3⟩, trivial⟩, ⟨_, Tryz.runUnderlying35, ⟨rfl, Tryz.sizeOf31, Tryz.isAgg31⟩, ⟨rfl, Tryz.sizeOf3, Tryz.isAgg3⟩, ⟨rfl, Tryz.sizeOf3, Tryz.isAgg3⟩, ⟨rfl, Tryz.sizeOf33, Tryz.isAgg33⟩, ⟨rfl, Tryz.sizeOf3, Tryz.isAgg3⟩, ⟨rfl, Tryz.sizeOf3, Tryz.isAgg3⟩, ⟨rfl, Tryz.sizeOf3, Tryz.isAgg3⟩, ⟨rfl, Tryz.sizeOf22, Tryz.isAgg22⟩, trivial⟩, ⟨_, Tryz.runUnderlying45, ⟨rfl, Tryz.sizeOf3, Tryz.isAgg3⟩, ⟨rfl, Tryz.sizeOf3, Tryz.isAgg3⟩, trivial⟩, ⟨_, Tryz.runUnderlying75, ⟨rfl, Tryz.sizeOf22, Tryz.isAgg22⟩, ⟨rfl, Tryz.sizeOf3, Tryz.isAgg3⟩, trivial⟩, ⟨_, Tryz.runUnderlying95, ⟨rfl, Tryz.sizeOf3, Tryz.isAgg3⟩, ⟨rfl, Tryz.sizeOf3, Tryz.isAgg3⟩, ⟨rfl, Tryz.sizeOf3, Tryz.isAgg3⟩, trivial⟩, trivial⟩
  ld := ⟨Tryz.isAgg3, Tryz.isAgg9, Tryz.isAgg22, Tryz.isAgg27, ⟨Tryz.isAgg31, Tryz.sizeOf31⟩, ⟨Tryz.isAgg33, Tryz.sizeOf33⟩, ⟨Tryz.isAgg35, Tryz.sizeOf35⟩, ⟨Tryz.isAgg45, Tryz.sizeOf45⟩, trivial⟩
  ln := ⟨Tryz.runUnderlying9, ⟨_, Tryz.runUnderlying22⟩, ⟨_, Tryz.runUnderlying27⟩, ⟨_, Tryz.runUnderlying52⟩, ⟨_, Tryz.runUnderlying70⟩, ⟨_, Tryz.runUnderlying101⟩, trivial⟩
abbrev C31 (d : SourceID) : List Value := [.string d.Network, .string d.Station, .string d.Location, .string d.Channel]
abbrev V31 (d : SourceID) : Value := .agg (C31 d).toArray
abbrev C33 (d : Rate) : List Value := [.int .i64 d.Num, .int .i64 d.Den]
abbrev V33 (d : Rate) : Value := .agg (C33 d).toArray
abbrev C35 (d : Record) (p11 : Option Addr) (k11 : Nat) : List Value := [.string d.Source.Network, .string d.Source.Station, .string d.Source.Location, .string d.Source.Channel, .int .i64 d.Start, .int .i64 d.First, .int .i64 d.Rate.Num, .int .i64 d.Rate.Den, .int .i64 d.Error, .int .i64 d.Run, .int .i64 d.Seq, .slice p11 d.Samples.length k11]
abbrev V35 (d : Record) (p11 : Option Addr) (k11 : Nat) : Value := .agg (C35 d p11 k11).toArray
abbrev C45 (d : Span) : List Value := [.int .i64 d.From, .int .i64 d.To]
abbrev V45 (d : Span) : Value := .agg (C45 d).toArray
abbrev C75 (d : Dice) (p0 : Option Addr) (k0 : Nat) : List Value := [.slice p0 d.L.length k0, .int .i64 d.At]
abbrev V75 (d : Dice) (p0 : Option Addr) (k0 : Nat) : Value := .agg (C75 d p0 k0).toArray
abbrev C95 (d : Compose_sample) : List Value := [.int .i64 d.from_, .int .i64 d.to_, .int .i64 d.value_]
abbrev V95 (d : Compose_sample) : Value := .agg (C95 d).toArray
abbrev Z0 : List Value := [.string ByteArray.empty, .string ByteArray.empty, .string ByteArray.empty, .string ByteArray.empty]
abbrev Z1 : List Value := [.string (⟨#[65]⟩ : ByteArray), .string (⟨#[66]⟩ : ByteArray), .string ByteArray.empty, .string (⟨#[72, 72, 90]⟩ : ByteArray)]
abbrev Z2 : List Value := [.int .i64 1, .int .i64 2, .int .i64 3, .int .i64 4]
abbrev Z3 : List Value := [.int .i64 5, .int .i64 6, .int .i64 7, .int .i64 8]
abbrev Z4 : List Value := [.string ByteArray.empty, .string ByteArray.empty, .string ByteArray.empty, .string ByteArray.empty, .int .i64 0, .int .i64 0, .int .i64 0, .int .i64 0, .int .i64 0, .int .i64 0, .int .i64 0, .slice none ([] : List Int).length 0]
abbrev Z5 : List Value := [.string (⟨#[71, 82]⟩ : ByteArray), .string (⟨#[88]⟩ : ByteArray), .string (⟨#[55, 65]⟩ : ByteArray)]
abbrev Z6 : List Value := [.string (⟨#[70, 85, 82]⟩ : ByteArray), .string (⟨#[65]⟩ : ByteArray), .string (⟨#[65, 66, 67, 68, 69]⟩ : ByteArray), .string (⟨#[70, 85]⟩ : ByteArray)]
abbrev Z7 : List Value := [.string (⟨#[]⟩ : ByteArray), .string (⟨#[48, 48]⟩ : ByteArray), .string (⟨#[49, 48]⟩ : ByteArray)]
abbrev Z8 : List Value := [.string (⟨#[72, 72, 90]⟩ : ByteArray), .string (⟨#[72, 72, 78]⟩ : ByteArray), .string (⟨#[66, 72, 90]⟩ : ByteArray)]
abbrev Z9 : List Value := [.int .i64 0, .int .i64 0, .int .i64 10, .int .i64 500]
abbrev Z10 : List Value := [.int .i64 1, .int .i64 2, .int .i64 2, .int .i64 3]
abbrev Z11 : List Value := [.int .i64 1, .int .i64 1, .int .i64 1, .int .i64 3]
abbrev Z12 : List Value := [.int .i64 (-1), .int .i64 0, .int .i64 9007199254740992, .int .i64 9007199254740993]
abbrev Z13 : List Value := [.int .i64 (-1), .int .i64 16777213, .int .i64 16777216]
abbrev Z14 : List Value := [.int .i64 (-1), .int .i64 1099511627776, .int .i64 1099511627777]
abbrev Z15 : List Value := [.int .i64 (-1), .int .i64 65535, .int .i64 65536]
abbrev Z16 : List Value := [.int .i64 (-1), .int .i64 1073741824, .int .i64 1073741825]
abbrev Z17 : List Value := [.int .i64 1073741823, .int .i64 1073741824, .int .i64 (-1073741824)]
abbrev made_Light_rd (w0 : World) (X : List Nat) (r : Bool) : Rd := fun S w v => v = .bool r
theorem made_Light_ok {w0 S0 p2 k3 l1 r} (u : made_Light l1 = some r) (hS : Dm S0 w0) (h4 : (Sq p2 k3 l1).p S0 w0) : Ck Tryz.prog 11 #[sl p2 k3 l1] w0 S0 [] made_Light_rd r := by
 refine en 6 func11 rfl hS rfl rfl rfl fun a s d => ?_
 have d := d.addE h4
 refine sz0 1 s rfl fun a s => ?_
 refine sz0 4 s rfl fun a s => ?_
 obtain rfl := oi u
 exact q1 s rfl (d.ret rfl)
abbrev law15_two_rd (w0 : World) (X : List Nat) (r : (List Record)) : Rd := fun S w v => ∃ p0_0 k0_0 c0_0, v = sl p0_0 k0_0 r ∧ Outs X w0 S w [.row p0_0 r.length k0_0 c0_0 35 12] ∧ (RowA c0_0 r).p S w
abbrev E46_1 : List Record := ([(⟨(⟨(⟨#[65]⟩ : ByteArray), (⟨#[66]⟩ : ByteArray), ByteArray.empty, (⟨#[72, 72, 90]⟩ : ByteArray)⟩ : SourceID), 0, 0, (⟨4, 1⟩ : Rate), 0, 0, 0, ([1, 2, 3, 4] : List Int)⟩ : Record), (⟨(⟨(⟨#[65]⟩ : ByteArray), (⟨#[66]⟩ : ByteArray), ByteArray.empty, (⟨#[72, 72, 90]⟩ : ByteArray)⟩ : SourceID), 500000, 0, (⟨4, 1⟩ : Rate), 0, 0, 1, ([5, 6, 7, 8] : List Int)⟩ : Record)] : List Record)
abbrev E46_0 (b4 : Nat) (b6 : Nat) : List Value := [.string (⟨#[65]⟩ : ByteArray), .string (⟨#[66]⟩ : ByteArray), .string ByteArray.empty, .string (⟨#[72, 72, 90]⟩ : ByteArray), iv 0, iv 0, iv 4, iv 1, iv 0, iv 0, iv 0, sl (ad b4) ([1, 2, 3, 4] : List Int).length ([1, 2, 3, 4] : List Int), .string (⟨#[65]⟩ : ByteArray), .string (⟨#[66]⟩ : ByteArray), .string ByteArray.empty, .string (⟨#[72, 72, 90]⟩ : ByteArray), iv 500000, iv 0, iv 4, iv 1, iv 0, iv 0, iv 1, sl (ad b6) ([5, 6, 7, 8] : List Int).length ([5, 6, 7, 8] : List Int)]
theorem law15_two_ok {w0 S0 r} (u : law15_two = some r) (hS : Dm S0 w0) : Ck Tryz.prog 46 #[] w0 S0 [] law15_two_rd r := by
 refine en 14 func46 rfl hS rfl rfl rfl fun a s d => ?_
 refine sz0 1 s rfl fun a s => ?_
 refine sr (sv s (y_build (vs := [(0, .string (⟨#[65]⟩ : ByteArray)), (1, .string (⟨#[66]⟩ : ByteArray)), (3, .string (⟨#[72, 72, 90]⟩ : ByteArray))]) Bld31 rfl rfl) rfl fun a s => ?_)
 refine wa Z0 s d zeroValue31 fun b1 a w s d => ?_
 refine ws Z1 s d 0 rfl rfl rfl sizeOf31 fun a w s d => ?_
 refine nl (sr (sv s (y_build (vs := [(0, iv 4), (1, iv 1)]) Bld33 rfl rfl) rfl fun a s => ?_))
 refine wa [iv 0, iv 0] s d zeroValue33 fun b2 a w s d => ?_
 refine ws [iv 4, iv 1] s d 0 rfl rfl rfl sizeOf33 fun a w s d => ?_
 refine nl (sn 2 [1, 0] s d rfl rfl fun a s => ?_)
 refine w_litSlice (α := Int) (vs := Z2) (cs := Z2) (xs := ([1, 2, 3, 4] : List Int)) s d El22 rfl rfl rfl rfl rfl rfl ⟨⟨_, rfl, rfl⟩, ⟨⟨_, rfl, rfl⟩, ⟨⟨_, rfl, rfl⟩, ⟨⟨_, rfl, rfl⟩, rfl⟩⟩⟩⟩ rfl trivial rfl fun b4 a w s d => ?_
 refine sv s (y_build (vs := [(0, .agg Z1.toArray), (3, .agg #[iv 4, iv 1]), (7, sl (ad b4) ([1, 2, 3, 4] : List Int).length ([1, 2, 3, 4] : List Int))]) Bld35 rfl rfl) rfl fun a s => ?_
 refine rn 2 [2, 1] s d rfl rfl fun a s => ?_
 refine w_litSlice (α := Int) (vs := Z3) (cs := Z3) (xs := ([5, 6, 7, 8] : List Int)) s d El22 rfl rfl rfl rfl rfl rfl ⟨⟨_, rfl, rfl⟩, ⟨⟨_, rfl, rfl⟩, ⟨⟨_, rfl, rfl⟩, ⟨⟨_, rfl, rfl⟩, rfl⟩⟩⟩⟩ rfl trivial rfl fun b6 a w s d => ?_
 refine sv s (y_build (vs := [(0, .agg Z1.toArray), (1, iv 500000), (3, .agg #[iv 4, iv 1]), (6, iv 1), (7, sl (ad b6) ([5, 6, 7, 8] : List Int).length ([5, 6, 7, 8] : List Int))]) Bld35 rfl rfl) rfl fun a s => ?_
 obtain ⟨Sv9, d⟩ := w_share (α := Int) d 1 rfl 1 rfl
 obtain ⟨Sv10, d⟩ := w_share (α := Int) d 0 rfl 1 rfl
 refine w_litSlice (α := Record) (vs := [.agg #[.string (⟨#[65]⟩ : ByteArray), .string (⟨#[66]⟩ : ByteArray), .string ByteArray.empty, .string (⟨#[72, 72, 90]⟩ : ByteArray), iv 0, iv 0, iv 4, iv 1, iv 0, iv 0, iv 0, sl (ad b4) ([1, 2, 3, 4] : List Int).length ([1, 2, 3, 4] : List Int)], .agg #[.string (⟨#[65]⟩ : ByteArray), .string (⟨#[66]⟩ : ByteArray), .string ByteArray.empty, .string (⟨#[72, 72, 90]⟩ : ByteArray), iv 500000, iv 0, iv 4, iv 1, iv 0, iv 0, iv 1, sl (ad b6) ([5, 6, 7, 8] : List Int).length ([5, 6, 7, 8] : List Int)]]) (cs := (E46_0 b4 b6)) (xs := E46_1) s d El27 rfl rfl rfl rfl rfl rfl ⟨⟨_, _, _, _, _, _, _, _, _, _, _, _, rfl, rfl, rfl, rfl, rfl, rfl, rfl, rfl, rfl, rfl, rfl, rfl, ⟨_, _, _, rfl, d.envAt 1 rfl⟩⟩, ⟨⟨_, _, _, _, _, _, _, _, _, _, _, _, rfl, rfl, rfl, rfl, rfl, rfl, rfl, rfl, rfl, rfl, rfl, rfl, ⟨_, _, _, rfl, d.envAt 0 rfl⟩⟩, rfl⟩⟩ rfl trivial rfl fun b8 a w s d => ?_
 refine rz0 1 s rfl fun a s => ?_
 obtain rfl := oi u
 exact q1 s rfl (d.ret ⟨(ad b8), E46_1.length, (E46_0 b4 b6), rfl, (d.outs [0] (by decide) rfl), (d.envAt 0 rfl)⟩)
abbrev slices_IndexFunc_Lapi_Record_api_Record_rd (w0 : World) (X : List Nat) (r : Int) : Rd := fun S w v => v = iv r
theorem slices_IndexFunc_Lapi_Record_api_Record_ok {w0 S0 p2 k3 g6 f7 cp8 s1} {f5 : Record → Option Bool} {r} (u : slices_IndexFunc_Lapi_Record_api_Record s1 f5 = some r) (hS : Dm S0 w0) (h4 : (Sq p2 k3 s1).p S0 w0) (h9 : (FnA1 Tryz.prog g6 f7 cp8 f5).p S0 w0) : Ck Tryz.prog 114 #[sl p2 k3 s1, .func (.func g6) f7.toArray cp8.toArray] w0 S0 [] slices_IndexFunc_Lapi_Record_api_Record_rd r := by
 refine en 19 func114 rfl hS rfl rfl rfl fun a s d => ?_
 have d := (d.addE h4).addE h9
 refine sz0 1 s rfl fun a s => ?_
 refine wp_seq (sz0 3 s rfl fun a s => ?_)
 refine wp_block (wp_while (fun sv90 a w => ∃ Sv142, Sl 19 [(0, sl p2 k3 s1), (1, .func (.func g6) f7.toArray cp8.toArray), (7, iv (s1.length : Int)), (8, iv sv90)] a ∧ Wd ⟨w0, S0, []⟩ Sv142 [] [Sq p2 k3 s1, FnA1 Tryz.prog g6 f7 cp8 f5] w) 0 u ⟨S0, wj s d [] [1, 0]⟩ ?_)
 repeat clear u
 rintro sv90 a w tv169 ⟨Sv142, s, d⟩ u hd168
 refine sz0 1 s rfl fun a s => ?_
 refine wp_seq (cd s u rfl (fun u => ?_) fun u => ?_)
 ·refine sk (wp_seq (wp_block (sz0 2 s rfl fun a s => ?_)))
  refine sn0 3 s rfl fun a s => ?_
  obtain ⟨x200, h198, u⟩ := bt u
  obtain ⟨b206, o207, q204, c205, h208, h201, h202, h203, h199⟩ := d.elemV 0 rfl h198
  have hsv209 := s
  have hwv210 := d
  subst h208
  have s := hsv209
  have d := hwv210
  obtain ⟨_, _, _, _, _, _, _, _, _, _, _, _, rfl, rfl, rfl, rfl, rfl, rfl, rfl, rfl, rfl, rfl, rfl, rfl, ⟨p211, n212, k213, rfl, h214⟩⟩ := h199
  obtain rfl := h214.1
  have d := (d.addE (e := SlA p211 _ k213 x200.Samples) h214).addE h203
  refine sv s (y_indexAt runUnderlying27 sizeOf35 rfl rfl h201.1 h201.2 h202) rfl fun a s => ?_
  refine sv s (y_loadEA (j := 0) (d.ceAt 0 rfl) rfl isAgg35 sizeOf35 rfl rfl) rfl fun a s => ?_
  obtain ⟨rv216, h215, u⟩ := bt u
  refine st_callR s ((d.bE 3 rfl).2 Keep.rfl' d.bdom ⟨_, _, _, _, _, _, _, _, _, _, _, _, rfl, rfl, rfl, rfl, rfl, rfl, rfl, rfl, rfl, rfl, rfl, rfl, ⟨_, _, _, rfl, d.bE 1 rfl⟩⟩ h215) (do_callF (d.bE 3 rfl).1 rfl rfl) trivial rfl rfl ?_
  rintro v220 Sv217 w a h218 rfl s
  have d := d.callB h218
  refine nl (cd s u rfl (fun u => ?_) fun u => ?_)
  ·refine sz0 2 s rfl fun a s => ?_
   obtain rfl := oi u
   have h223 := hd168 _ rfl
   subst h223
   exact wp_ret (blk_ret (then_ret (then_ret (blk_ret (then_ret (rt s rfl (d.ret rfl)))))))
  refine wp_skip (blk_normal (tn (wp_region_lit (rz0 2 s rfl fun a s => ?_))))
  exact ⟨_, io u, Sv142, wj s d [] [2, 3]⟩
 obtain ⟨rv224, u, h225⟩ := map_t u
 have h225 := (hd168 _ h225.symm).symm
 subst h225
 refine wp_exit (then_exit (then_exit (blk_exit (tn (sz0 1 s rfl fun a s => ?_)))))
 obtain rfl := oi u
 exact q1 s rfl (d.ret rfl)
theorem slices_ContainsFunc_Lapi_Record_api_Record_ok {w0 S0 p2 k3 g6 f7 cp8 s1} {f5 : Record → Option Bool} {r} (u : slices_ContainsFunc_Lapi_Record_api_Record s1 f5 = some r) (hS : Dm S0 w0) (h4 : (Sq p2 k3 s1).p S0 w0) (h9 : (FnA1 Tryz.prog g6 f7 cp8 f5).p S0 w0) : Ck Tryz.prog 89 #[sl p2 k3 s1, .func (.func g6) f7.toArray cp8.toArray] w0 S0 [] made_Light_rd r := by
 refine en 9 func89 rfl hS rfl rfl rfl fun a s d => ?_
 have d := (d.addE h4).addE h9
 refine sz0 1 s rfl fun a s => ?_
 refine sn0 2 s rfl fun a s => ?_
 obtain ⟨rv11, h10, u⟩ := bt u
 refine cV s d (slices_IndexFunc_Lapi_Record_api_Record_ok h10 d.bdom (d.bE 1 rfl) (d.bE 0 rfl)) (do_call call114 rfl) rfl fun a w s d => ?_
 refine rz0 2 s rfl fun a s => ?_
 obtain rfl := oi u
 exact q1 s rfl (d.ret rfl)
theorem source_plain_ok {w0 S0 c1 r} (u : source_plain c1 = some r) (hS : Dm S0 w0) : Ck Tryz.prog 154 #[.int .u8 c1] w0 S0 [] made_Light_rd r := by
 refine en 17 func154 rfl hS rfl rfl rfl fun a s d => ?_
 refine sz0 1 s rfl fun a s => ?_
 refine sn0 1 s rfl fun a s => ?_
 refine sv s (y_geq (rfl) rfl) rfl fun a s => ?_
 refine mv s rfl rfl fun a s => ?_
 refine wpl_join 3 (fun a w1 => w0 = w1 ∧ Sl 17 [(0, .int .u8 c1), (8, .bool ((decide (65 ≤ c1)) && (decide (c1 ≤ 90))))] a) ?_ ?_
 ·rcases Bool.eq_false_or_eq_true (decide (65 ≤ c1)) with h2 | h2
  ·have s := s.bT 5 rfl h2
   refine st_val s (y_move rfl) ⟨_, rfl, rfl⟩ rfl rfl fun a s => ?_
   refine st_val s (y_leq (rfl) rfl) ⟨_, rfl, rfl⟩ rfl rfl fun a s => ?_
   refine rz0 1 s rfl fun a s => ?_
   exact ⟨rfl, (s.fix 8 (.bool ((decide (65 ≤ c1)) && (decide (c1 ≤ 90)))) rfl (and_t h2)).weaken _ ⟨rfl, rfl, trivial⟩⟩
  have s := s.bF 5 rfl h2
  refine rz0 3 s rfl fun a s => ?_
  exact ⟨rfl, (s.fix 8 (.bool ((decide (65 ≤ c1)) && (decide (c1 ≤ 90)))) rfl (and_f h2)).weaken _ ⟨rfl, rfl, trivial⟩⟩
 rintro a w1 ⟨h11, s⟩
 subst h11
 refine mv s rfl rfl fun a s => ?_
 refine wpl_join 7 (fun a w1 => w0 = w1 ∧ Sl 17 [(16, .bool (((decide (65 ≤ c1)) && (decide (c1 ≤ 90))) || ((decide (48 ≤ c1)) && (decide (c1 ≤ 57)))))] a) ?_ ?_
 ·rcases Bool.eq_false_or_eq_true ((decide (65 ≤ c1)) && (decide (c1 ≤ 90))) with h5 | h5
  ·have s := s.bT 9 rfl h5
   refine rz0 7 s rfl fun a s => ?_
   exact ⟨rfl, (s.fix 16 (.bool (((decide (65 ≤ c1)) && (decide (c1 ≤ 90))) || ((decide (48 ≤ c1)) && (decide (c1 ≤ 57))))) rfl (or_t h5)).weaken _ ⟨rfl, trivial⟩⟩
  have s := s.bF 9 rfl h5
  refine st_val s (y_move rfl) ⟨_, rfl, rfl⟩ rfl rfl fun a s => ?_
  refine st_val s (y_geq (rfl) rfl) ⟨_, rfl, rfl⟩ rfl rfl fun a s => ?_
  refine st_val s (y_move rfl) ⟨_, rfl, rfl⟩ rfl rfl fun a s => ?_
  refine wpl_join 3 (fun a w1 => w0 = w1 ∧ Sl 17 [(9, .bool false), (15, .bool ((decide (48 ≤ c1)) && (decide (c1 ≤ 57))))] a) ?_ ?_
  ·rcases Bool.eq_false_or_eq_true (decide (48 ≤ c1)) with h8 | h8
   ·have s := s.bT 12 rfl h8
    refine st_val s (y_move rfl) ⟨_, rfl, rfl⟩ rfl rfl fun a s => ?_
    refine st_val s (y_leq (rfl) rfl) ⟨_, rfl, rfl⟩ rfl rfl fun a s => ?_
    refine rz0 1 s rfl fun a s => ?_
    exact ⟨rfl, (s.fix 15 (.bool ((decide (48 ≤ c1)) && (decide (c1 ≤ 57)))) rfl (and_t h8)).weaken _ ⟨rfl, rfl, trivial⟩⟩
   have s := s.bF 12 rfl h8
   refine rz0 3 s rfl fun a s => ?_
   exact ⟨rfl, (s.fix 15 (.bool ((decide (48 ≤ c1)) && (decide (c1 ≤ 57)))) rfl (and_f h8)).weaken _ ⟨rfl, rfl, trivial⟩⟩
  rintro a w1 ⟨h9, s⟩
  subst h9
  refine rz0 1 s rfl fun a s => ?_
  exact ⟨rfl, (s.fix 16 (.bool (((decide (65 ≤ c1)) && (decide (c1 ≤ 90))) || ((decide (48 ≤ c1)) && (decide (c1 ≤ 57))))) rfl (or_f h5)).weaken _ ⟨rfl, trivial⟩⟩
 rintro a w1 ⟨h10, s⟩
 subst h10
 refine rz0 1 s rfl fun a s => ?_
 obtain rfl := oi u
 exact q1 s rfl (d.ret rfl)
theorem source_code_ok {w0 S0 s1 low2 high3 r} (u : source_code s1 low2 high3 = some r) (hS : Dm S0 w0) : Ck Tryz.prog 143 #[.string s1, iv low2, iv high3] w0 S0 [] made_Light_rd r := by
 refine en 29 func143 rfl hS rfl rfl rfl fun a s d => ?_
 refine sz0 1 s rfl fun a s => ?_
 refine wp_seq (sz0 3 s rfl fun a s => ?_)
 refine wp_block (wp_while (fun sv42 a w => ∃ Sv66, Sl 29 [(0, .string s1), (1, iv low2), (2, iv high3), (9, iv (s1.size : Int)), (10, iv sv42)] a ∧ Wd ⟨w0, S0, []⟩ Sv66 [] [] w) 0 u ⟨S0, wj s d [] []⟩ ?_)
 repeat clear u
 rintro sv42 a w tv79 ⟨Sv66, s, d⟩ u hd78
 refine sz0 1 s rfl fun a s => ?_
 refine wp_seq (cd s u rfl (fun u => ?_) fun u => ?_)
 ·refine sk (wp_seq (wp_block (sz0 2 s rfl fun a s => ?_)))
  refine sn0 2 s rfl fun a s => ?_
  obtain ⟨c95, h94, u⟩ := bt u
  refine sv s (y_indexSM runUnderlying9 rfl rfl h94) rfl fun a s => ?_
  obtain ⟨rv97, h96, u⟩ := bt u
  refine cV s d (source_plain_ok h96 d.bdom) (do_call call154 rfl) rfl fun a w s d => ?_
  refine rz0 1 s rfl fun a s => ?_
  refine cd s u rfl (fun u => ?_) fun u => ?_
  ·refine sz0 1 s rfl fun a s => ?_
   obtain rfl := oi u
   have h105 := hd78 _ rfl
   subst h105
   exact wp_ret (blk_ret (then_ret (then_ret (blk_ret (then_ret (rt s rfl (d.ret rfl)))))))
  refine wp_skip (blk_normal (tn (wp_region_lit (rz0 2 s rfl fun a s => ?_))))
  exact ⟨_, io u, Sv66, wj s d [] []⟩
 obtain ⟨rv107, u, h108⟩ := map_t u
 have h108 := (hd78 _ h108.symm).symm
 subst h108
 refine wp_exit (then_exit (then_exit (blk_exit (tn (sn0 5 s rfl fun a s => ?_)))))
 refine rA 5 23 [] s d rfl rfl rfl rfl rfl fun a s => ?_
 refine rz0 1 s rfl fun a s => ?_
 obtain rfl := oi u
 exact q1 s rfl (d.ret rfl)
theorem source_Valid_ok {w0 S0 s1 r} (u : source_Valid s1 = some r) (hS : Dm S0 w0) : Ck Tryz.prog 115 #[V31 s1] w0 S0 [] made_Light_rd r := by
 refine en 27 func115 rfl hS rfl rfl rfl fun a s d => ?_
 refine sr (wb (C31 s1) s d rfl fun b2 a w s d => ?_)
 refine rz0 1 s rfl fun a s => ?_
 refine sn 2 [0] s d rfl rfl fun a s => ?_
 obtain ⟨rv4, h3, u⟩ := bt u
 refine cV s d (source_code_ok h3 d.bdom) (do_call call143 rfl) rfl fun a w s d => ?_
 refine mv s rfl rfl fun a s => ?_
 obtain ⟨c18, hc18, u⟩ := bt u
 refine wpl_join 4 (fun a w => ∃ Sv19, Sl 27 [(1, pt b2), (10, .bool c18)] a ∧ Wd ⟨w0, S0, []⟩ Sv19 [.box b2 (C31 s1) 31] [] w) ?_ ?_
 ·rcases Bool.eq_false_or_eq_true rv4 with h17 | h17
  ·have s := s.bT 6 rfl h17
   have u := ite_t hc18 h17
   refine rn 2 [0] s d rfl rfl fun a s => ?_
   obtain ⟨rv21, h20, u⟩ := bt u
   refine st_callR s (source_code_ok h20 d.bdom) (do_call call143 rfl) ⟨_, rfl, rfl⟩ rfl rfl ?_
   rintro v25 Sv22 w a h23 rfl s
   have d := d.callB h23
   refine sv s (y_pickT rfl rfl) rfl fun a s => ?_
   refine wpList_nil ?_
   obtain rfl := oi u
   exact tn ⟨S0, wj s d [0] []⟩
  have s := s.bF 6 rfl h17
  have u := ite_f hc18 h17
  refine rn0 4 s rfl fun a s => ?_
  refine wpList_nil ?_
  obtain rfl := oi u
  exact tn ⟨S0, wj s d [0] []⟩
 rintro a w ⟨Sv19, s, d⟩
 refine mv s rfl rfl fun a s => ?_
 obtain ⟨c35, hc35, u⟩ := bt u
 refine wpl_join 4 (fun a w => ∃ Sv36, Sl 27 [(1, pt b2), (15, .bool c35)] a ∧ Wd ⟨w0, S0, []⟩ Sv36 [.box b2 (C31 s1) 31] [] w) ?_ ?_
 ·rcases Bool.eq_false_or_eq_true c18 with h34 | h34
  ·have s := s.bT 11 rfl h34
   have u := ite_t hc35 h34
   refine rn 2 [0] s d rfl rfl fun a s => ?_
   obtain ⟨rv38, h37, u⟩ := bt u
   refine st_callR s (source_code_ok h37 d.bdom) (do_call call143 rfl) ⟨_, rfl, rfl⟩ rfl rfl ?_
   rintro v42 Sv39 w a h40 rfl s
   have d := d.callB h40
   refine sv s (y_pickT rfl rfl) rfl fun a s => ?_
   refine wpList_nil ?_
   obtain rfl := oi u
   exact tn ⟨Sv19, wj s d [0] []⟩
  have s := s.bF 11 rfl h34
  have u := ite_f hc35 h34
  refine rn0 4 s rfl fun a s => ?_
  refine wpList_nil ?_
  obtain rfl := oi u
  exact tn ⟨Sv19, wj s d [0] []⟩
 rintro a w ⟨Sv36, s, d⟩
 refine mv s rfl rfl fun a s => ?_
 refine rA 5 16 [0] s d rfl rfl rfl rfl rfl fun a s => ?_
 refine mv s rfl rfl fun a s => ?_
 obtain ⟨c53, hc53, u⟩ := bt u
 refine wpl_join 4 (fun a w => ∃ Sv54, Sl 27 [(26, .bool c53)] a ∧ Wd ⟨w0, S0, []⟩ Sv54 [] [] w) ?_ ?_
 ·rcases Bool.eq_false_or_eq_true (c35 && ((s1.Location.size : Int) != 1)) with h52 | h52
  ·have s := s.bT 22 rfl h52
   have u := ite_t hc53 h52
   refine rn 2 [0] s d rfl rfl fun a s => ?_
   obtain ⟨rv56, h55, u⟩ := bt u
   refine st_callR s (source_code_ok h55 d.bdom) (do_call call143 rfl) ⟨_, rfl, rfl⟩ rfl rfl ?_
   rintro v60 Sv57 w a h58 rfl s
   have d := d.callB h58
   refine sv s (y_pickT rfl rfl) rfl fun a s => ?_
   refine wpList_nil ?_
   obtain rfl := oi u
   exact tn ⟨Sv36, wj s d [] []⟩
  have s := s.bF 22 rfl h52
  have u := ite_f hc53 h52
  refine rn0 4 s rfl fun a s => ?_
  refine wpList_nil ?_
  obtain rfl := oi u
  exact tn ⟨Sv36, wj s d [] []⟩
 rintro a w ⟨Sv54, s, d⟩
 refine rz0 1 s rfl fun a s => ?_
 obtain rfl := oi u
 exact q1 s rfl (d.ret rfl)
theorem record_in_ok {w0 S0 n1 low2 high3 r} (u : record_in n1 low2 high3 = some r) (hS : Dm S0 w0) : Ck Tryz.prog 116 #[iv n1, iv low2, iv high3] w0 S0 [] made_Light_rd r := by
 refine en 15 func116 rfl hS rfl rfl rfl fun a s d => ?_
 refine sz0 1 s rfl fun a s => ?_
 refine sn0 4 s rfl fun a s => ?_
 refine rA 4 10 [] s d rfl rfl rfl rfl rfl fun a s => ?_
 refine rz0 1 s rfl fun a s => ?_
 obtain rfl := oi u
 exact q1 s rfl (d.ret rfl)
theorem rate_in_ok {w0 S0 n1 low2 high3 r} (u : rate_in n1 low2 high3 = some r) (hS : Dm S0 w0) : Ck Tryz.prog 109 #[iv n1, iv low2, iv high3] w0 S0 [] made_Light_rd r := by
 refine en 15 func109 rfl hS rfl rfl rfl fun a s d => ?_
 refine sz0 1 s rfl fun a s => ?_
 refine sn0 4 s rfl fun a s => ?_
 refine rA 4 10 [] s d rfl rfl rfl rfl rfl fun a s => ?_
 refine rz0 1 s rfl fun a s => ?_
 obtain rfl := oi u
 exact q1 s rfl (d.ret rfl)
theorem rate_gcd_ok {w0 S0 a1 b2 r} (u : rate_gcd a1 b2 = some r) (hS : Dm S0 w0) : Ck Tryz.prog 133 #[iv a1, iv b2] w0 S0 [] slices_IndexFunc_Lapi_Record_api_Record_rd r := by
 refine en 12 func133 rfl hS rfl rfl rfl fun a s d => ?_
 refine sz0 1 s rfl fun a s => ?_
 refine wp_seq ?_
 obtain ⟨e21, h32, u⟩ := bt u
 refine wp_join (fun a w => ∃ Sv22, Sl 12 [(0, iv e21)] a ∧ Wd ⟨w0, S0, []⟩ Sv22 [] [] w) ?_ ?_
 ·refine wp_block (wp_while (fun sv3 a w => ∃ Sv13, Sl 12 [(0, iv sv3.1), (1, iv sv3.2)] a ∧ Wd ⟨w0, S0, []⟩ Sv13 [] [] w) (a1, b2) h32 ⟨S0, wj s d [] []⟩ ?_)
  clear h32
  repeat clear u
  rintro sv3 a w tv19 ⟨Sv13, s, d⟩ u hd18
  refine wp_seq (sz0 2 s rfl fun a s => ?_)
  refine cd s u rfl (fun u => ?_) fun u => ?_
  ·refine sk (wp_block ?_)
   obtain ⟨rem29, h28, u⟩ := bt u
   refine wp_only (fun a w => ∃ Sv30, Sl 12 [(0, iv sv3.2), (1, iv rem29)] a ∧ Wd ⟨w0, S0, []⟩ Sv30 [] [] w) ?_ ?_
   ·refine h_c [] [] d rfl rfl (by kernel_rfl) rfl fun hC d => ?_
    refine gn 3 [0, 1, 2] [] s hC rfl rfl rfl fun a s => ?_
    refine gv s 3 rfl rfl hC (fun w hC => y_remM rfl rfl h28) fun a s => ?_
    refine gn 2 [4, 5] [] s hC rfl rfl rfl fun a s => ?_
    refine h_done (by kernel_rfl) ?_
    exact ⟨Sv13, wj s d [] []⟩
   rintro a w ⟨Sv30, s, d⟩
   exact blk_normal (tn ⟨_, io u, Sv30, wj s d [] []⟩)
  refine wp_exit (then_exit (then_exit (blk_exit ?_)))
  obtain rfl := oi u
  have h31 := hd18 _ rfl
  subst h31
  exact tn ⟨Sv13, wj s d [] []⟩
 rintro a w ⟨Sv22, s, d⟩
 refine tn (sz0 2 s rfl fun a s => ?_)
 obtain rfl := oi u
 exact q1 s rfl (d.ret rfl)
theorem rate_Valid_ok {w0 S0 r1 r} (u : rate_Valid r1 = some r) (hS : Dm S0 w0) : Ck Tryz.prog 108 #[V33 r1] w0 S0 [] made_Light_rd r := by
 refine en 19 func108 rfl hS rfl rfl rfl fun a s d => ?_
 refine sr (wb (C33 r1) s d rfl fun b2 a w s d => ?_)
 refine rz0 1 s rfl fun a s => ?_
 refine sn 2 [0] s d rfl rfl fun a s => ?_
 obtain ⟨rv4, h3, u⟩ := bt u
 refine cV s d (rate_in_ok h3 d.bdom) (do_call call109 rfl) rfl fun a w s d => ?_
 refine mv s rfl rfl fun a s => ?_
 obtain ⟨c18, hc18, u⟩ := bt u
 refine wpl_join 4 (fun a w => ∃ Sv19, Sl 19 [(1, pt b2), (10, .bool c18)] a ∧ Wd ⟨w0, S0, []⟩ Sv19 [.box b2 (C33 r1) 33] [] w) ?_ ?_
 ·rcases Bool.eq_false_or_eq_true rv4 with h17 | h17
  ·have s := s.bT 6 rfl h17
   have u := ite_t hc18 h17
   refine rn 2 [0] s d rfl rfl fun a s => ?_
   obtain ⟨rv21, h20, u⟩ := bt u
   refine st_callR s (rate_in_ok h20 d.bdom) (do_call call109 rfl) ⟨_, rfl, rfl⟩ rfl rfl ?_
   rintro v25 Sv22 w a h23 rfl s
   have d := d.callB h23
   refine sv s (y_pickT rfl rfl) rfl fun a s => ?_
   refine wpList_nil ?_
   obtain rfl := oi u
   exact tn ⟨S0, wj s d [0] []⟩
  have s := s.bF 6 rfl h17
  have u := ite_f hc18 h17
  refine rn0 4 s rfl fun a s => ?_
  refine wpList_nil ?_
  obtain rfl := oi u
  exact tn ⟨S0, wj s d [0] []⟩
 rintro a w ⟨Sv19, s, d⟩
 refine mv s rfl rfl fun a s => ?_
 obtain ⟨c35, hc35, u⟩ := bt u
 refine wpl_join 7 (fun a w => ∃ Sv36, Sl 19 [(18, .bool c35)] a ∧ Wd ⟨w0, S0, []⟩ Sv36 [] [] w) ?_ ?_
 ·rcases Bool.eq_false_or_eq_true c18 with h34 | h34
  ·have s := s.bT 11 rfl h34
   have u := ite_t hc35 h34
   refine rn 4 [0, 0] s d rfl rfl fun a s => ?_
   obtain ⟨rv38, h37, u⟩ := bt u
   refine st_callR s (rate_gcd_ok h37 d.bdom) (do_call call133 rfl) ⟨_, rfl, rfl⟩ rfl rfl ?_
   rintro v42 Sv39 w a h40 rfl s
   have d := d.callB h40
   refine rn0 2 s rfl fun a s => ?_
   refine wpList_nil ?_
   obtain rfl := oi u
   exact tn ⟨Sv19, wj s d [] []⟩
  have s := s.bF 11 rfl h34
  have u := ite_f hc35 h34
  refine rn0 7 s rfl fun a s => ?_
  refine wpList_nil ?_
  obtain rfl := oi u
  exact tn ⟨Sv19, wj s d [] []⟩
 rintro a w ⟨Sv36, s, d⟩
 refine rz0 1 s rfl fun a s => ?_
 obtain rfl := oi u
 exact q1 s rfl (d.ret rfl)
theorem rate_micros_ok {w0 S0 r1 r} (u : rate_micros r1 = some r) (hS : Dm S0 w0) : Ck Tryz.prog 134 #[V33 r1] w0 S0 [] slices_IndexFunc_Lapi_Record_api_Record_rd r := by
 refine en 6 func134 rfl hS rfl rfl rfl fun a s d => ?_
 refine sr (wb (C33 r1) s d rfl fun b2 a w s d => ?_)
 refine rz0 1 s rfl fun a s => ?_
 refine sn 3 [0] s d rfl rfl fun a s => ?_
 obtain ⟨x4, h3, u⟩ := bt u
 refine sv s (y_assignI rfl h3) rfl fun a s => ?_
 refine nl ?_
 obtain rfl := oi u
 exact q1 s rfl (d.ret rfl)
theorem rate_after_ok {w0 S0 r1 k2 r} (u : rate_after r1 k2 = some r) (hS : Dm S0 w0) : Ck Tryz.prog 110 #[V33 r1, iv k2] w0 S0 [] slices_IndexFunc_Lapi_Record_api_Record_rd r := by
 refine en 12 func110 rfl hS rfl rfl rfl fun a s d => ?_
 refine sr (wb (C33 r1) s d rfl fun b3 a w s d => ?_)
 refine rz0 1 s rfl fun a s => ?_
 refine wp_seq ?_
 obtain ⟨rv5, h4, u⟩ := bt u
 obtain ⟨quo7, h6, u⟩ := bt u
 refine wp_only (fun a w => ∃ Sv8, Sl 12 [(4, iv quo7)] a ∧ Wd ⟨w0, S0, []⟩ Sv8 [] [] w) ?_ ?_
 ·refine h_c [0] [] d rfl rfl (by kernel_rfl) rfl fun hC d => ?_
  refine gn 4 [0, 1, 4, 5] [0, 0] s hC rfl rfl rfl fun a s => ?_
  refine ho 2 rfl ?_
  refine cV s d (rate_micros_ok h4 d.bdom) (do_call call134 rfl) rfl fun a w s d => ?_
  refine h_n [0] [] d rfl rfl fun hC => ?_
  refine gv s 3 rfl rfl hC (fun w hC => y_mul rfl rfl) fun a s => ?_
  refine gv s 6 rfl rfl hC (fun w hC => y_quoM rfl rfl h6) fun a s => ?_
  refine gv s 7 rfl rfl hC (fun w hC => y_assign rfl) fun a s => ?_
  refine h_done (by kernel_rfl) ?_
  exact ⟨S0, wj s d [] []⟩
 rintro a w ⟨Sv8, s, d⟩
 refine tn ?_
 obtain rfl := oi u
 exact q1 s rfl (d.ret rfl)
abbrev rate_Time_rd (w0 : World) (X : List Nat) (r : (Int × Int)) : Rd := fun S w v => v = .tuple #[iv r.1, iv r.2]
theorem rate_Time_ok {w0 S0 start1 r2 k3 r} (u : rate_Time start1 r2 k3 = some r) (hS : Dm S0 w0) : Ck Tryz.prog 81 #[iv start1, V33 r2, iv k3] w0 S0 [] rate_Time_rd r := by
 refine en 24 func81 rfl hS rfl rfl rfl fun a s d => ?_
 refine sr (wb (C33 r2) s d rfl fun b4 a w s d => ?_)
 refine rz0 2 s rfl fun a s => ?_
 refine wp_seq (sn 1 [0] s d rfl rfl fun a s => ?_)
 obtain ⟨rv6, h5, u⟩ := bt u
 refine cV s d (rate_Valid_ok h5 d.bdom) (do_call call108 rfl) rfl fun a w s d => ?_
 refine rz0 1 s rfl fun a s => ?_
 refine cd s u rfl (fun u => ?_) fun u => ?_
 ·refine sz0 2 s rfl fun a s => ?_
  obtain rfl := oi u
  exact wp_ret (then_ret (ret2 s rfl (rv_tmp rfl) (rv_tmp rfl) (d.ret rfl)))
 refine sk (wp_seq (sn0 1 s rfl fun a s => ?_))
 obtain ⟨rv15, h14, u⟩ := bt u
 refine cV s d (rate_in_ok h14 d.bdom) (do_call call109 rfl) rfl fun a w s d => ?_
 refine rn0 2 s rfl fun a s => ?_
 obtain ⟨c29, hc29, u⟩ := bt u
 refine wpl_join 4 (fun a w => ∃ Sv30, Sl 24 [(0, iv start1), (2, iv k3), (4, pt b4), (18, .bool c29)] a ∧ Wd ⟨w0, S0, []⟩ Sv30 [.box b4 (C33 r2) 33] [] w) ?_ ?_
 ·rcases Bool.eq_false_or_eq_true (!rv15) with h28 | h28
  ·have s := s.bT 14 rfl h28
   have u := ite_t hc29 h28
   refine rn0 4 s rfl fun a s => ?_
   refine wpList_nil ?_
   obtain rfl := oi u
   exact tn ⟨S0, wj s d [0] []⟩
  have s := s.bF 14 rfl h28
  have u := ite_f hc29 h28
  refine st_val s (y_move rfl) ⟨_, rfl, rfl⟩ rfl rfl fun a s => ?_
  obtain ⟨rv32, h31, u⟩ := bt u
  refine st_callR s (rate_in_ok h31 d.bdom) (do_call call109 rfl) ⟨_, rfl, rfl⟩ rfl rfl ?_
  rintro v36 Sv33 w a h34 rfl s
  have d := d.callB h34
  refine rn0 2 s rfl fun a s => ?_
  refine wpList_nil ?_
  obtain rfl := oi u
  exact tn ⟨S0, wj s d [0] []⟩
 rintro a w ⟨Sv30, s, d⟩
 refine nl (cd s u rfl (fun u => ?_) fun u => ?_)
 ·refine sz0 2 s rfl fun a s => ?_
  obtain rfl := oi u
  exact wp_ret (then_ret (ret2 s rfl (rv_tmp rfl) (rv_tmp rfl) (d.ret rfl)))
 refine sk (sn 3 [0] s d rfl rfl fun a s => ?_)
 obtain ⟨rv41, h40, u⟩ := bt u
 refine cV s d (rate_after_ok h40 d.bdom) (do_call call110 rfl) rfl fun a w s d => ?_
 refine sv s (y_add rfl rfl) rfl fun a s => ?_
 obtain ⟨x48, h47, u⟩ := bt u
 refine sv s (y_assignI rfl h47) rfl fun a s => ?_
 refine rz0 1 s rfl fun a s => ?_
 obtain rfl := oi u
 exact wp_ret (ret2 s rfl (rv_tmp rfl) (rv_tmp rfl) (d.ret rfl))
theorem slices_IndexFunc_Lint_int_ok {w0 S0 p2 k3 g6 f7 cp8 s1} {f5 : Int → Option Bool} {r} (u : slices_IndexFunc_Lint_int s1 f5 = some r) (hS : Dm S0 w0) (h4 : (Sq p2 k3 s1).p S0 w0) (h9 : (FnA1 Tryz.prog g6 f7 cp8 f5).p S0 w0) : Ck Tryz.prog 144 #[sl p2 k3 s1, .func (.func g6) f7.toArray cp8.toArray] w0 S0 [] slices_IndexFunc_Lapi_Record_api_Record_rd r := by
 refine en 19 func144 rfl hS rfl rfl rfl fun a s d => ?_
 have d := (d.addE h4).addE h9
 refine sz0 1 s rfl fun a s => ?_
 refine wp_seq (sz0 3 s rfl fun a s => ?_)
 refine wp_block (wp_while (fun sv78 a w => ∃ Sv122, Sl 19 [(0, sl p2 k3 s1), (1, .func (.func g6) f7.toArray cp8.toArray), (7, iv (s1.length : Int)), (8, iv sv78)] a ∧ Wd ⟨w0, S0, []⟩ Sv122 [] [Sq p2 k3 s1, FnA1 Tryz.prog g6 f7 cp8 f5] w) 0 u ⟨S0, wj s d [] [1, 0]⟩ ?_)
 repeat clear u
 rintro sv78 a w tv145 ⟨Sv122, s, d⟩ u hd144
 refine sz0 1 s rfl fun a s => ?_
 refine wp_seq (cd s u rfl (fun u => ?_) fun u => ?_)
 ·refine sk (wp_seq (wp_block (sz0 2 s rfl fun a s => ?_)))
  refine sn0 3 s rfl fun a s => ?_
  obtain ⟨x172, h170, u⟩ := bt u
  obtain ⟨b178, o179, q176, c177, h180, h173, h174, h175, h171⟩ := d.elemV 0 rfl h170
  have hsv181 := s
  have hwv182 := d
  subst h180
  have s := hsv181
  have d := hwv182
  obtain ⟨_, rfl, rfl⟩ := h171
  have d := d.addE h175
  refine sv s (y_indexAt runUnderlying22 sizeOf3 rfl rfl h173.1 h173.2 h174) rfl fun a s => ?_
  refine sv s (y_loadE1 (j := 0) (d.ceAt 0 rfl) rfl isAgg3 rfl) rfl fun a s => ?_
  obtain ⟨rv184, h183, u⟩ := bt u
  refine st_callR s ((d.bE 2 rfl).2 Keep.rfl' d.bdom ⟨_, rfl, rfl⟩ h183) (do_callF (d.bE 2 rfl).1 rfl rfl) trivial rfl rfl ?_
  rintro v188 Sv185 w a h186 rfl s
  have d := d.callB h186
  refine nl (cd s u rfl (fun u => ?_) fun u => ?_)
  ·refine sz0 2 s rfl fun a s => ?_
   obtain rfl := oi u
   have h191 := hd144 _ rfl
   subst h191
   exact wp_ret (blk_ret (then_ret (then_ret (blk_ret (then_ret (rt s rfl (d.ret rfl)))))))
  refine wp_skip (blk_normal (tn (wp_region_lit (rz0 2 s rfl fun a s => ?_))))
  exact ⟨_, io u, Sv122, wj s d [] [1, 2]⟩
 obtain ⟨rv192, u, h193⟩ := map_t u
 have h193 := (hd144 _ h193.symm).symm
 subst h193
 refine wp_exit (then_exit (then_exit (blk_exit (tn (sz0 1 s rfl fun a s => ?_)))))
 obtain rfl := oi u
 exact q1 s rfl (d.ret rfl)
theorem slices_ContainsFunc_Lint_int_ok {w0 S0 p2 k3 g6 f7 cp8 s1} {f5 : Int → Option Bool} {r} (u : slices_ContainsFunc_Lint_int s1 f5 = some r) (hS : Dm S0 w0) (h4 : (Sq p2 k3 s1).p S0 w0) (h9 : (FnA1 Tryz.prog g6 f7 cp8 f5).p S0 w0) : Ck Tryz.prog 117 #[sl p2 k3 s1, .func (.func g6) f7.toArray cp8.toArray] w0 S0 [] made_Light_rd r := by
 refine en 9 func117 rfl hS rfl rfl rfl fun a s d => ?_
 have d := (d.addE h4).addE h9
 refine sz0 1 s rfl fun a s => ?_
 refine sn0 2 s rfl fun a s => ?_
 obtain ⟨rv11, h10, u⟩ := bt u
 refine cV s d (slices_IndexFunc_Lint_int_ok h10 d.bdom (d.bE 1 rfl) (d.bE 0 rfl)) (do_call call144 rfl) rfl fun a w s d => ?_
 refine rz0 2 s rfl fun a s => ?_
 obtain rfl := oi u
 exact q1 s rfl (d.ret rfl)
theorem record_Valid_fn1_ok {w0 S0 x1 r} (u : record_Valid_fn1 x1 = some r) (hS : Dm S0 w0) : Ck Tryz.prog 118 #[iv x1] w0 S0 [] made_Light_rd r := by
 refine en 6 func118 rfl hS rfl rfl rfl fun a s d => ?_
 refine sz0 1 s rfl fun a s => ?_
 refine sn0 1 s rfl fun a s => ?_
 obtain ⟨rv3, h2, u⟩ := bt u
 refine cV s d (record_in_ok h2 d.bdom) (do_call call116 rfl) rfl fun a w s d => ?_
 refine rz0 2 s rfl fun a s => ?_
 obtain rfl := oi u
 exact q1 s rfl (d.ret rfl)
theorem record_Valid_fn1_fn (S0 : Nat → Prop) (w0 : World) : (FnA1 Tryz.prog 118 [] [] record_Valid_fn1).p S0 w0 := by
  refine ⟨call118, ?_⟩
  rintro S1 w1 hk hS c0 x0 r1 ⟨_, rfl, rfl⟩ hf
  exact record_Valid_fn1_ok hf hS  
theorem record_Valid_ok {w0 S0 p2 k3 r1 r} (u : record_Valid r1 = some r) (hS : Dm S0 w0) (h4 : (Sq p2 k3 r1.Samples).p S0 w0) : Ck Tryz.prog 91 #[V35 r1 p2 k3] w0 S0 [] made_Light_rd r := by
 refine en 68 func91 rfl hS rfl rfl rfl fun a s d => ?_
 have d := d.addE h4
 refine sr (wb (C35 r1 p2 k3) s d rfl fun b5 a w s d => ?_)
 refine rz0 1 s rfl fun a s => ?_
 refine sn 3 [0] s d rfl rfl fun a s => ?_
 obtain ⟨n7, h6, u⟩ := bt u
 refine sv s (y_assignI rfl h6) rfl fun a s => ?_
 refine nl (wp_seq (sn 2 [0] s d rfl rfl fun a s => ?_))
 obtain ⟨rv9, h8, u⟩ := bt u
 refine cV s d (source_Valid_ok h8 d.bdom) (do_call call115 rfl) rfl fun a w s d => ?_
 refine rn0 2 s rfl fun a s => ?_
 obtain ⟨c23, hc23, u⟩ := bt u
 refine wpl_join 4 (fun a w => ∃ Sv24, Sl 68 [(1, pt b5), (3, iv n7), (17, .bool c23)] a ∧ Wd ⟨w0, S0, []⟩ Sv24 [.box b5 (C35 r1 p2 k3) 35] [Sq p2 k3 r1.Samples] w) ?_ ?_
 ·rcases Bool.eq_false_or_eq_true (!rv9) with h22 | h22
  ·have s := s.bT 13 rfl h22
   have u := ite_t hc23 h22
   refine rn0 4 s rfl fun a s => ?_
   refine wpList_nil ?_
   obtain rfl := oi u
   exact tn ⟨S0, wj s d [0] [0]⟩
  have s := s.bF 13 rfl h22
  have u := ite_f hc23 h22
  refine st_val s (y_move rfl) ⟨_, rfl, rfl⟩ rfl rfl fun a s => ?_
  obtain ⟨rv26, h25, u⟩ := bt u
  refine st_callR s (record_in_ok h25 d.bdom) (do_call call116 rfl) ⟨_, rfl, rfl⟩ rfl rfl ?_
  rintro v30 Sv27 w a h28 rfl s
  have d := d.callB h28
  refine rn0 2 s rfl fun a s => ?_
  refine wpList_nil ?_
  obtain rfl := oi u
  exact tn ⟨S0, wj s d [0] [0]⟩
 rintro a w ⟨Sv24, s, d⟩
 refine mv s rfl rfl fun a s => ?_
 obtain ⟨c40, hc40, u⟩ := bt u
 refine wpl_join 7 (fun a w => ∃ Sv41, Sl 68 [(1, pt b5), (3, iv n7), (25, .bool c40)] a ∧ Wd ⟨w0, S0, []⟩ Sv41 [.box b5 (C35 r1 p2 k3) 35] [Sq p2 k3 r1.Samples] w) ?_ ?_
 ·rcases Bool.eq_false_or_eq_true c23 with h39 | h39
  ·have s := s.bT 18 rfl h39
   have u := ite_t hc40 h39
   refine rn0 7 s rfl fun a s => ?_
   refine wpList_nil ?_
   obtain rfl := oi u
   exact tn ⟨Sv24, wj s d [0] [0]⟩
  have s := s.bF 18 rfl h39
  have u := ite_f hc40 h39
  refine rn 4 [0] s d rfl rfl fun a s => ?_
  obtain ⟨rv43, h42, u⟩ := bt u
  refine st_callR s (record_in_ok h42 d.bdom) (do_call call116 rfl) ⟨_, rfl, rfl⟩ rfl rfl ?_
  rintro v47 Sv44 w a h45 rfl s
  have d := d.callB h45
  refine rn0 2 s rfl fun a s => ?_
  refine wpList_nil ?_
  obtain rfl := oi u
  exact tn ⟨Sv24, wj s d [0] [0]⟩
 rintro a w ⟨Sv41, s, d⟩
 refine mv s rfl rfl fun a s => ?_
 obtain ⟨c57, hc57, u⟩ := bt u
 refine wpl_join 5 (fun a w => ∃ Sv58, Sl 68 [(1, pt b5), (3, iv n7), (31, .bool c57)] a ∧ Wd ⟨w0, S0, []⟩ Sv58 [.box b5 (C35 r1 p2 k3) 35] [Sq p2 k3 r1.Samples] w) ?_ ?_
 ·rcases Bool.eq_false_or_eq_true c40 with h56 | h56
  ·have s := s.bT 26 rfl h56
   have u := ite_t hc57 h56
   refine rn0 5 s rfl fun a s => ?_
   refine wpList_nil ?_
   obtain rfl := oi u
   exact tn ⟨Sv41, wj s d [0] [0]⟩
  have s := s.bF 26 rfl h56
  have u := ite_f hc57 h56
  refine rn 2 [0] s d rfl rfl fun a s => ?_
  obtain ⟨rv60, h59, u⟩ := bt u
  refine st_callR s (record_in_ok h59 d.bdom) (do_call call116 rfl) ⟨_, rfl, rfl⟩ rfl rfl ?_
  rintro v64 Sv61 w a h62 rfl s
  have d := d.callB h62
  refine rn0 2 s rfl fun a s => ?_
  refine wpList_nil ?_
  obtain rfl := oi u
  exact tn ⟨Sv41, wj s d [0] [0]⟩
 rintro a w ⟨Sv58, s, d⟩
 refine mv s rfl rfl fun a s => ?_
 obtain ⟨c74, hc74, u⟩ := bt u
 refine wpl_join 5 (fun a w => ∃ Sv75, Sl 68 [(1, pt b5), (3, iv n7), (37, .bool c74)] a ∧ Wd ⟨w0, S0, []⟩ Sv75 [.box b5 (C35 r1 p2 k3) 35] [Sq p2 k3 r1.Samples] w) ?_ ?_
 ·rcases Bool.eq_false_or_eq_true c57 with h73 | h73
  ·have s := s.bT 32 rfl h73
   have u := ite_t hc74 h73
   refine rn0 5 s rfl fun a s => ?_
   refine wpList_nil ?_
   obtain rfl := oi u
   exact tn ⟨Sv58, wj s d [0] [0]⟩
  have s := s.bF 32 rfl h73
  have u := ite_f hc74 h73
  refine rn 2 [0] s d rfl rfl fun a s => ?_
  obtain ⟨rv77, h76, u⟩ := bt u
  refine st_callR s (record_in_ok h76 d.bdom) (do_call call116 rfl) ⟨_, rfl, rfl⟩ rfl rfl ?_
  rintro v81 Sv78 w a h79 rfl s
  have d := d.callB h79
  refine rn0 2 s rfl fun a s => ?_
  refine wpList_nil ?_
  obtain rfl := oi u
  exact tn ⟨Sv58, wj s d [0] [0]⟩
 rintro a w ⟨Sv75, s, d⟩
 refine mv s rfl rfl fun a s => ?_
 obtain ⟨c91, hc91, u⟩ := bt u
 refine wpl_join 5 (fun a w => ∃ Sv92, Sl 68 [(1, pt b5), (3, iv n7), (43, .bool c91)] a ∧ Wd ⟨w0, S0, []⟩ Sv92 [.box b5 (C35 r1 p2 k3) 35] [Sq p2 k3 r1.Samples] w) ?_ ?_
 ·rcases Bool.eq_false_or_eq_true c74 with h90 | h90
  ·have s := s.bT 38 rfl h90
   have u := ite_t hc91 h90
   refine rn0 5 s rfl fun a s => ?_
   refine wpList_nil ?_
   obtain rfl := oi u
   exact tn ⟨Sv75, wj s d [0] [0]⟩
  have s := s.bF 38 rfl h90
  have u := ite_f hc91 h90
  refine rn 2 [0] s d rfl rfl fun a s => ?_
  obtain ⟨rv94, h93, u⟩ := bt u
  refine st_callR s (record_in_ok h93 d.bdom) (do_call call116 rfl) ⟨_, rfl, rfl⟩ rfl rfl ?_
  rintro v98 Sv95 w a h96 rfl s
  have d := d.callB h96
  refine rn0 2 s rfl fun a s => ?_
  refine wpList_nil ?_
  obtain rfl := oi u
  exact tn ⟨Sv75, wj s d [0] [0]⟩
 rintro a w ⟨Sv92, s, d⟩
 refine nl (cd s u rfl (fun u => ?_) fun u => ?_)
 ·refine sz0 1 s rfl fun a s => ?_
  obtain rfl := oi u
  exact wp_ret (then_ret (rt s rfl (d.ret rfl)))
 refine sk (sn 8 [0, 0, 0] s d rfl rfl fun a s => ?_)
 obtain ⟨rv103, h102, u⟩ := bt u
 refine cV s d (rate_Time_ok h102 d.bdom) (do_call call81 rfl) rfl fun a w s d => ?_
 refine rz0 5 s rfl fun a s => ?_
 refine sn0 3 s rfl fun a s => ?_
 refine rA 3 58 [] s d rfl rfl rfl rfl rfl fun a s => ?_
 refine mv s rfl rfl fun a s => ?_
 obtain ⟨c118, hc118, u⟩ := bt u
 refine wpl_join 5 (fun a w => ∃ Sv119, Sl 68 [(67, .bool c118)] a ∧ Wd ⟨w0, S0, []⟩ Sv119 [] [] w) ?_ ?_
 ·rcases Bool.eq_false_or_eq_true ((rv103.2 == 0) && (decide (rv103.1 ≤ 9007199254740992))) with h117 | h117
  ·have s := s.bT 62 rfl h117
   have u := ite_t hc118 h117
   refine rn 2 [0] s d rfl rfl fun a s => ?_
   obtain ⟨rv121, h120, u⟩ := bt u
   refine st_callR s (slices_ContainsFunc_Lint_int_ok h120 d.bdom (d.bE 0 rfl) (record_Valid_fn1_fn _ _)) (do_call call117 rfl) ⟨_, rfl, rfl⟩ rfl rfl ?_
   rintro v125 Sv122 w a h123 rfl s
   have d := d.callB h123
   refine rn0 2 s rfl fun a s => ?_
   refine wpList_nil ?_
   obtain rfl := oi u
   exact tn ⟨Sv92, wj s d [] []⟩
  have s := s.bF 62 rfl h117
  have u := ite_f hc118 h117
  refine rn0 5 s rfl fun a s => ?_
  refine wpList_nil ?_
  obtain rfl := oi u
  exact tn ⟨Sv92, wj s d [] []⟩
 rintro a w ⟨Sv119, s, d⟩
 refine rz0 1 s rfl fun a s => ?_
 obtain rfl := oi u
 exact q1 s rfl (d.ret rfl)
theorem compose_alike_fn1_ok {w0 S0 p2 k3 b6 p7 k8 r1 x5 r} (u : compose_alike_fn1 r1 x5 = some r) (hS : Dm S0 w0) (h4 : (Sq p2 k3 r1.Samples).p S0 w0) (h9 : (CeA b6 0 [sl p7 k8 x5]).p S0 w0) (h10 : (Sq p7 k8 x5).p S0 w0) : Ck Tryz.prog 90 #[V35 r1 p2 k3, pt b6] w0 S0 [] made_Light_rd r := by
 refine en 16 func90 rfl hS rfl rfl rfl fun a s d => ?_
 have d := ((d.addE h4).addE h9).addE h10
 refine sr (wb (C35 r1 p2 k3) s d rfl fun b11 a w s d => ?_)
 refine rz0 1 s rfl fun a s => ?_
 refine wp_seq ?_
 obtain ⟨rv13, h12, u⟩ := bt u
 obtain ⟨c31, hc31, u⟩ := bt u
 refine wp_only (fun a w => ∃ Sv32, Sl 16 [(3, .bool c31)] a ∧ Wd ⟨w0, S0, []⟩ Sv32 [] [] w) ?_ ?_
 ·rcases Bool.eq_false_or_eq_true (!rv13) with h33 | h33
  ·have h34 := ite_t hc31 h33
   refine h_c [0] [1] d rfl rfl (by kernel_rfl) rfl fun hC d => ?_
   refine gv s 0 rfl rfl hC (fun w hC => y_loadBA (hC.ownAt 0 rfl) rfl isAgg35 sizeOf35 rfl rfl) fun a s => ?_
   refine ho 1 rfl ?_
   refine cV s d (record_Valid_ok h12 d.bdom (d.bE 2 rfl)) (do_call call91 rfl) rfl fun a w s d => ?_
   refine h_n [0] [1] d rfl rfl fun hC => ?_
   refine gn 2 [2, 3] [] s hC rfl rfl rfl fun a s => ?_
   have s := s.bT 7 rfl h33
   refine gn 7 [4, 5, 6, 7, 8, 9, 10] [] s hC rfl rfl rfl fun a s => ?_
   refine gT s 11 rfl rfl hC rfl rfl h34 fun a s => ?_
   refine gv s 12 rfl rfl hC (fun w hC => y_assign rfl) fun a s => ?_
   refine h_done (by kernel_rfl) ?_
   exact ⟨S0, wj s d [] []⟩
  have h40 := ite_f hc31 h33
  obtain ⟨x43, h41, h40⟩ := bind_t h40
  obtain ⟨b49, o50, q47, c48, h51, h44, h45, h46, h42⟩ := d.elemV 0 rfl h41
  have hsv52 := s
  have hwv53 := d
  subst h51
  have s := hsv52
  have d := hwv53
  obtain ⟨_, _, _, _, _, _, _, _, _, _, _, _, rfl, rfl, rfl, rfl, rfl, rfl, rfl, rfl, rfl, rfl, rfl, rfl, ⟨p54, n55, k56, rfl, h57⟩⟩ := h42
  obtain rfl := h57.1
  have d := (d.addE (e := SlA p54 _ k56 x43.Samples) h57).addE h46
  refine h_c [0] [0, 3] d rfl rfl (by kernel_rfl) rfl fun hC d => ?_
  refine gv s 0 rfl rfl hC (fun w hC => y_loadBA (hC.ownAt 0 rfl) rfl isAgg35 sizeOf35 rfl rfl) fun a s => ?_
  refine ho 1 rfl ?_
  refine cV s d (record_Valid_ok h12 d.bdom (d.bE 4 rfl)) (do_call call91 rfl) rfl fun a w s d => ?_
  refine h_n [0] [0, 3] d rfl rfl fun hC => ?_
  refine gn 2 [2, 3] [] s hC rfl rfl rfl fun a s => ?_
  have s := s.bF 7 rfl h33
  refine gn 2 [4, 5] [0] s hC rfl rfl rfl fun a s => ?_
  refine gt s 6 rfl ⟨_, rfl, rfl⟩ rfl hC (fun w hC => y_loadE1 (j := 0) (hC.ceAt 1 rfl) rfl isAgg27 rfl) fun a s => ?_
  refine gx s 7 rfl ⟨_, rfl, rfl⟩ rfl hC runUnderlying27 sizeOf35 rfl rfl h44 h45 fun a s => ?_
  refine gt s 8 rfl ⟨_, rfl, rfl⟩ rfl hC (fun w hC => y_fieldAddr (o' := q47 + 0) runUnderlying35 rfl sizeOf31 rfl rfl rfl) fun a s => ?_
  refine gt s 9 rfl ⟨_, rfl, rfl⟩ rfl hC (fun w hC => y_loadEA (j := 0) (hC.ceAt 0 rfl) rfl isAgg31 sizeOf31 rfl rfl) fun a s => ?_
  refine gt s 10 rfl ⟨_, rfl, rfl⟩ rfl hC (fun w hC => y_neqA (by kernel_rfl) rfl rfl (eqv_struct runUnderlying31 (by kernel_rfl) (EqF.cons1 rfl isAgg9 rfl rfl (eqv_str runUnderlying9) (EqF.cons1 rfl isAgg9 rfl rfl (eqv_str runUnderlying9) (EqF.cons1 rfl isAgg9 rfl rfl (eqv_str runUnderlying9) (EqF.cons1 rfl isAgg9 rfl rfl (eqv_str runUnderlying9) EqF.nil)))))) fun a s => ?_
  refine gF s 11 rfl rfl hC rfl rfl h40 fun a s => ?_
  refine gv s 12 rfl rfl hC (fun w hC => y_assign rfl) fun a s => ?_
  refine h_done (by kernel_rfl) ?_
  exact ⟨S0, wj s d [] []⟩
 rintro a w ⟨Sv32, s, d⟩
 refine tn ?_
 obtain rfl := oi u
 exact q1 s rfl (d.ret rfl)
theorem compose_alike_fn1_fn {S0 w0 b6 p7 k8 x5} (h9 : (CeA b6 0 [sl p7 k8 x5]).p S0 w0) (h10 : (Sq p7 k8 x5).p S0 w0) : (FnA1 Tryz.prog 90 [] [pt b6] (fun y0 => compose_alike_fn1 y0 x5)).p S0 w0 := by
  refine ⟨call90, ?_⟩
  rintro S1 w1 hk hS c0 x0 r1 ⟨_, _, _, _, _, _, _, _, _, _, _, _, rfl, rfl, rfl, rfl, rfl, rfl, rfl, rfl, rfl, rfl, rfl, rfl, ⟨_, _, _, rfl, e0⟩⟩ hf
  obtain rfl := e0.1
  exact compose_alike_fn1_ok hf hS e0 (Asrt.mono _ hk h9) (Asrt.mono _ hk h10)
theorem compose_alike_ok {w0 S0 p2 k3 l1 r} (u : compose_alike l1 = some r) (hS : Dm S0 w0) (h4 : (Sq p2 k3 l1).p S0 w0) : Ck Tryz.prog 61 #[sl p2 k3 l1] w0 S0 [] made_Light_rd r := by
 refine en 7 func61 rfl hS rfl rfl rfl fun a s d => ?_
 have d := d.addE h4
 refine sr (wb [sl p2 k3 l1] s d rfl fun b5 a w s d => ?_)
 refine rz0 1 s rfl fun a s => ?_
 refine sn 1 [0] s d rfl rfl fun a s => ?_
 refine sv s (y_makeFunc (vs := #[]) (us := #[pt b5]) rfl rfl) rfl fun a s => ?_
 obtain ⟨rv7, h6, u⟩ := bt u
 refine cV s d (slices_ContainsFunc_Lapi_Record_api_Record_ok h6 d.bdom (d.bE 0 rfl) (compose_alike_fn1_fn (d.bBox 0 rfl) (d.bE 0 rfl))) (do_call call89 rfl) rfl fun a w s d => ?_
 refine rz0 2 s rfl fun a s => ?_
 obtain rfl := oi u
 exact q1 s rfl (d.ret rfl)
theorem compose_Valid_ok {w0 S0 p2 k3 l1 r} (u : compose_Valid l1 = some r) (hS : Dm S0 w0) (h4 : (Sq p2 k3 l1).p S0 w0) : Ck Tryz.prog 41 #[sl p2 k3 l1] w0 S0 [] made_Light_rd r := by
 refine en 10 func41 rfl hS rfl rfl rfl fun a s d => ?_
 have d := d.addE h4
 refine sz0 1 s rfl fun a s => ?_
 refine sn0 4 s rfl fun a s => ?_
 obtain ⟨c13, hc13, u⟩ := bt u
 refine wpl_join 3 (fun a w => ∃ Sv14, Sl 10 [(9, .bool c13)] a ∧ Wd ⟨w0, S0, []⟩ Sv14 [] [] w) ?_ ?_
 ·rcases Bool.eq_false_or_eq_true (decide ((l1.length : Int) ≤ 256)) with h12 | h12
  ·have s := s.bT 6 rfl h12
   have u := ite_t hc13 h12
   refine st_val s (y_move rfl) ⟨_, rfl, rfl⟩ rfl rfl fun a s => ?_
   obtain ⟨rv16, h15, u⟩ := bt u
   refine st_callR s (compose_alike_ok h15 d.bdom (d.bE 0 rfl)) (do_call call61 rfl) ⟨_, rfl, rfl⟩ rfl rfl ?_
   rintro v20 Sv17 w a h18 rfl s
   have d := d.callB h18
   refine sv s (y_pickT rfl rfl) rfl fun a s => ?_
   refine wpList_nil ?_
   obtain rfl := oi u
   exact tn ⟨S0, wj s d [] []⟩
  have s := s.bF 6 rfl h12
  have u := ite_f hc13 h12
  refine rn0 3 s rfl fun a s => ?_
  refine wpList_nil ?_
  obtain rfl := oi u
  exact tn ⟨S0, wj s d [] []⟩
 rintro a w ⟨Sv14, s, d⟩
 refine rz0 1 s rfl fun a s => ?_
 obtain rfl := oi u
 exact q1 s rfl (d.ret rfl)
theorem slices_Clone_Lapi_Record_api_Record_ok {w0 S0 p2 k3 s1 r} (u : slices_Clone_Lapi_Record_api_Record s1 = some r) (hS : Dm S0 w0) (h4 : (Sq p2 k3 s1).p S0 w0) : Ck Tryz.prog 92 #[sl p2 k3 s1] w0 S0 [] law15_two_rd r := by
 refine en 8 func92 rfl hS rfl rfl rfl fun a s d => ?_
 have d := d.addE h4
 delta slices_Clone_Lapi_Record_api_Record at u
 refine sz0 1 s rfl fun a s => ?_
 refine wp_seq (sn0 1 s rfl fun a s => ?_)
 refine sv s (y_eqlN runUnderlying27 rfl rfl) rfl fun a s => ?_
 refine nl ?_
 have hsv15 := s
 have hwv16 := d
 rcases p2 with _ | av8
 ·have s := hsv15
  have d := hwv16
  obtain rfl := slnil (d.envAt 0 rfl)
  have u : some ([] : List Record) = some r := by simpa [appM, maxLen] using u
  refine wp_cond_true (s.ev rfl) ?_
  refine sz0 1 s rfl fun a s => ?_
  obtain rfl := oi u
  have d := d.nilRow Record 35
  exact wp_ret (then_ret (rt s rfl (d.ret ⟨none, 0, [], rfl, (d.outs [0] (by decide) rfl), (d.envAt 0 rfl)⟩)))
 have s := hsv15
 have d := hwv16
 refine wp_cond_false (s.ev rfl) ?_
 refine sk (sr (w_buildSlice (α := Record) (vs := []) (cs := []) (xs := ([] : List Record)) s d El27 rfl rfl rfl rfl rfl rfl rfl rfl trivial fun p9 a w s d => ?_))
 refine mv s rfl rfl fun a s => ?_
 obtain ⟨l11, h10, u⟩ := bt u
 refine w_appendE (α := Record) s d El27 0 rfl rfl rfl 0 rfl 1 rfl h10 rfl trivial ?_
 intro p12 k13 c14 a w s d
 refine rz0 1 s rfl fun a s => ?_
 obtain rfl := oi u
 exact q1 s rfl (d.ret ⟨p12, k13, c14, rfl, (d.outs [0] (by decide) rfl), (d.envAt 0 rfl)⟩)
abbrev slices_Clone_Lint_int_rd (w0 : World) (X : List Nat) (r : (List Int)) : Rd := fun S w v => ∃ p0_0 k0_0 c0_0, v = sl p0_0 k0_0 r ∧ Outs X w0 S w [.row p0_0 r.length k0_0 c0_0 3 1] ∧ (RowA c0_0 r).p S w
theorem slices_Clone_Lint_int_ok {w0 S0 p2 k3 s1 r} (u : slices_Clone_Lint_int s1 = some r) (hS : Dm S0 w0) (h4 : (Sq p2 k3 s1).p S0 w0) : Ck Tryz.prog 93 #[sl p2 k3 s1] w0 S0 [] slices_Clone_Lint_int_rd r := by
 refine en 8 func93 rfl hS rfl rfl rfl fun a s d => ?_
 have d := d.addE h4
 delta slices_Clone_Lint_int at u
 refine sz0 1 s rfl fun a s => ?_
 refine wp_seq (sn0 1 s rfl fun a s => ?_)
 refine sv s (y_eqlN runUnderlying22 rfl rfl) rfl fun a s => ?_
 refine nl ?_
 have hsv15 := s
 have hwv16 := d
 rcases p2 with _ | av8
 ·have s := hsv15
  have d := hwv16
  obtain rfl := slnil (d.envAt 0 rfl)
  have u : some ([] : List Int) = some r := by simpa [appM, maxLen] using u
  refine wp_cond_true (s.ev rfl) ?_
  refine sz0 1 s rfl fun a s => ?_
  obtain rfl := oi u
  have d := d.nilRow Int 3
  exact wp_ret (then_ret (rt s rfl (d.ret ⟨none, 0, [], rfl, (d.outs [0] (by decide) rfl), (d.envAt 0 rfl)⟩)))
 have s := hsv15
 have d := hwv16
 refine wp_cond_false (s.ev rfl) ?_
 refine sk (sr (w_buildSlice (α := Int) (vs := []) (cs := []) (xs := ([] : List Int)) s d El22 rfl rfl rfl rfl rfl rfl rfl rfl trivial fun p9 a w s d => ?_))
 refine mv s rfl rfl fun a s => ?_
 obtain ⟨l11, h10, u⟩ := bt u
 refine w_appendE (α := Int) s d El22 0 rfl rfl rfl 0 rfl 1 rfl h10 rfl trivial ?_
 intro p12 k13 c14 a w s d
 refine rz0 1 s rfl fun a s => ?_
 obtain rfl := oi u
 exact q1 s rfl (d.ret ⟨p12, k13, c14, rfl, (d.outs [0] (by decide) rfl), (d.envAt 0 rfl)⟩)
end Go.Proofs.YthdimlepjpnncaaGreat.Wk
namespace Go.Proofs
open Go Go.Shelf Go.RowKit Go.Lib Go.Sort
def Tryz.sort74_ren : Go.Shelf.Ren := ⟨fun | 6 => 74 | 15 => 102 | 14 => 101 | 28 => 129 | 29 => 130 | 20 => 121 | 21 => 122 | 22 => 123 | 23 => 124 | 24 => 125 | 25 => 126 | 26 => 127 | 27 => 128 | 46 => 145 | 47 => 146 | 48 => 147 | 49 => 148 | 50 => 149 | 57 => 155 | n => n, fun | 22 => 27 | 24 => 35 | 25 => 43 | 3 => 3 | 39 => 121 | 0 => 0 | 53 => 140 | 55 => 142 | 4 => 4 | 46 => 134 | 45 => 133 | 50 => 50 | 5 => 5 | 9 => 9 | 66 => 150 | 70 => 154 | 76 => 160 | 77 => 161 | n => n, fun | n => n⟩
theorem Tryz.sort74 : Go.Proofs.SlLaysF0.n6 Tryz.prog Tryz.sort74_ren where
  mixed := by kernel_rfl
  f6 := ⟨Tryz.f74.name, by decide, Tryz.func74.trans (congrArg some (by kernel_rfl))⟩
  f14 := ⟨Tryz.f101.name, by decide, Tryz.func101.trans (congrArg some (by kernel_rfl))⟩
  f15 := Tryz.func102.trans (congrArg some (by kernel_rfl))
  f20 := ⟨Tryz.f121.name, by decide, Tryz.func121.trans (congrArg some (by kernel_rfl))⟩
  f21 := ⟨Tryz.f122.name, by decide, Tryz.func122.trans (congrArg some (by kernel_rfl))⟩
  f22 := ⟨Tryz.f123.name, by decide, Tryz.func123.trans (congrArg some (by kernel_rfl))⟩
  f23 := ⟨Tryz.f124.name, by decide, Tryz.func124.trans (congrArg some (by kernel_rfl))⟩
  f24 := ⟨Tryz.f125.name, by decide, Tryz.func125.trans (congrArg some (by kernel_rfl))⟩
  f25 := ⟨Tryz.f126.name, by decide, Tryz.func126.trans (congrArg some (by kernel_rfl))⟩
  f26 := ⟨Tryz.f127.name, by decide, Tryz.func127.trans (congrArg some (by kernel_rfl))⟩
  f27 := ⟨Tryz.f128.name, by decide, Tryz.func128.trans (congrArg some (by kernel_rfl))⟩
  f28 := Tryz.func129.trans (congrArg some (by kernel_rfl))
  f29 := Tryz.func130.trans (congrArg some (by kernel_rfl))
  f46 := ⟨Tryz.f145.name, by decide, Tryz.func145.trans (congrArg some (by kernel_rfl))⟩
  f47 := Tryz.func146.trans (congrArg some (by kernel_rfl))
  f48 := Tryz.func147.trans (congrArg some (by kernel_rfl))
  f49 := ⟨Tryz.f148.name, by decide, Tryz.func148.trans (congrArg some (by kernel_rfl))⟩
  f50 := ⟨Tryz.f149.name, by decide, Tryz.func149.trans (congrArg some (by kernel_rfl))⟩
  f57 := ⟨Tryz.f155.name, by decide, Tryz.func155.trans (congrArg some (by kernel_rfl))⟩
  t0 := Tryz.underlying0
  a0 := Tryz.isAgg0
  z0 := Tryz.sizeOf0
  v0 := Tryz.zeroValue0
  t3 := Tryz.underlying3
  a3 := Tryz.isAgg3
  z3 := Tryz.sizeOf3
  v3 := Tryz.zeroValue3
  t4 := Tryz.underlying4
  a4 := Tryz.isAgg4
  z4 := Tryz.sizeOf4
  v4 := Tryz.zeroValue4
  t5 := Tryz.underlying5
  a5 := Tryz.isAgg5
  z5 := Tryz.sizeOf5
  v5 := Tryz.zeroValue5
  t9 := Tryz.underlying9
  a9 := Tryz.isAgg9
  z9 := Tryz.sizeOf9
  v9 := Tryz.zeroValue9
  t22 := Tryz.underlying27
  a22 := Tryz.isAgg27
  z22 := Tryz.sizeOf27
  v22 := Tryz.zeroValue27
  t25 := Tryz.underlying43
  a25 := Tryz.isAgg43
  z25 := Tryz.sizeOf43
  v25 := Tryz.zeroValue43
  t39 := Tryz.underlying121
  a39 := Tryz.isAgg121
  z39 := Tryz.sizeOf121
  v39 := Tryz.zeroValue121
  t45 := Tryz.underlying133
  a45 := Tryz.isAgg133
  z45 := Tryz.sizeOf133
  v45 := Tryz.zeroValue133
  t46 := Tryz.underlying134
  a46 := Tryz.isAgg134
  z46 := Tryz.sizeOf134
  v46 := Tryz.zeroValue134
  t50 := Tryz.underlying50
  a50 := Tryz.isAgg50
  z50 := Tryz.sizeOf50
  v50 := Tryz.zeroValue50
  t53 := Tryz.underlying140
  a53 := Tryz.isAgg140
  z53 := Tryz.sizeOf140
  v53 := Tryz.zeroValue140
  t55 := Tryz.underlying142
  a55 := Tryz.isAgg142
  z55 := Tryz.sizeOf142
  v55 := Tryz.zeroValue142
  t66 := Tryz.underlying150
  a66 := Tryz.isAgg150
  z66 := Tryz.sizeOf150
  v66 := Tryz.zeroValue150
  t70 := Tryz.underlying154
  a70 := Tryz.isAgg154
  z70 := Tryz.sizeOf154
  v70 := Tryz.zeroValue154
  t76 := Tryz.underlying160
  a76 := Tryz.isAgg160
  z76 := Tryz.sizeOf160
  v76 := Tryz.zeroValue160
  t77 := Tryz.underlying161
  a77 := Tryz.isAgg161
  z77 := Tryz.sizeOf161
  v77 := Tryz.zeroValue161
end Go.Proofs
namespace Go.Proofs.YthdimlepjpnncaaGreat.Wk
open Go Go.RowKit Go.Proofs Go.Proofs.YthdimlepjpnncaaGreat.Sh Go.Proofs.Tryz
set_option linter.unusedVariables false
set_option linter.unusedSimpArgs false
abbrev slices_SortFunc_Lapi_Record_api_Record_rd (w0 : World) (X : List Nat) (p2 : Option Addr) (k3 : Nat) (x1 : (List Record)) (r : (List Record)) : (Nat → Prop) → World → Value → Prop := fun S w v => ∃ ck_0, v = .tuple #[] ∧ Outs X w0 S w [.row p2 r.length k3 ck_0 35 12] ∧ (RowA ck_0 r).p S w ∧ (LenA x1.length r).p S w
theorem slices_SortFunc_Lapi_Record_api_Record_ok {w0 S0 p2 k3 c4 g7 cp9 x1} {cmp6 : Record → Record → Option Int} {r} (u : slices_SortFunc_Lapi_Record_api_Record x1 cmp6 = some r) (hS : Dm S0 w0) (hin : Ins S0 w0 [.row p2 x1.length k3 c4 35 12]) (h5 : (RowA c4 x1).p S0 w0) (h10 : (FnA2 Tryz.prog g7 [] cp9 cmp6).p S0 w0) : Calls Tryz.prog 74 #[sl p2 k3 x1, .func (.func g7) #[] cp9.toArray] w0 (Ret (blks [.row p2 x1.length k3 c4 35 12]) w0 S0 (slices_SortFunc_Lapi_Record_api_Record_rd w0 (blks [.row p2 x1.length k3 c4 35 12]) p2 k3 x1 r)) := by
 exact sort_tot (α := Record) (T := 35) Tryz.sort74 isAgg35 sizeOf35 (fun _ => rfl) (by decide) u hS hin h5 h10
theorem cmp_isNaN_string_ok {w0 S0 x1 r} (u : cmp_isNaN_string x1 = some r) (hS : Dm S0 w0) : Ck Tryz.prog 150 #[.string x1] w0 S0 [] made_Light_rd r := by
 refine en 6 func150 rfl hS rfl rfl rfl fun a s d => ?_
 refine sz0 1 s rfl fun a s => ?_
 refine sn0 2 s rfl fun a s => ?_
 refine sv s (y_neqS rfl rfl) rfl fun a s => ?_
 refine rz0 1 s rfl fun a s => ?_
 obtain rfl := oi u
 exact q1 s rfl (d.ret rfl)
theorem cmp_Compare_string_ok {w0 S0 x1 y2 r} (u : cmp_Compare_string x1 y2 = some r) (hS : Dm S0 w0) : Ck Tryz.prog 131 #[.string x1, .string y2] w0 S0 [] slices_IndexFunc_Lapi_Record_api_Record_rd r := by
 refine en 20 func131 rfl hS rfl rfl rfl fun a s d => ?_
 refine sz0 1 s rfl fun a s => ?_
 refine sn0 1 s rfl fun a s => ?_
 obtain ⟨rv4, h3, u⟩ := bt u
 refine cV s d (cmp_isNaN_string_ok h3 d.bdom) (do_call call150 rfl) rfl fun a w s d => ?_
 refine rz0 1 s rfl fun a s => ?_
 refine sn0 1 s rfl fun a s => ?_
 obtain ⟨rv11, h10, u⟩ := bt u
 refine cV s d (cmp_isNaN_string_ok h10 d.bdom) (do_call call150 rfl) rfl fun a w s d => ?_
 refine rz0 1 s rfl fun a s => ?_
 refine wp_seq (sz0 1 s rfl fun a s => ?_)
 refine cd s u rfl (fun u => ?_) fun u => ?_
 ·refine wp_seq (sz0 1 s rfl fun a s => ?_)
  refine cd s u rfl (fun u => ?_) fun u => ?_
  ·refine sz0 1 s rfl fun a s => ?_
   obtain rfl := oi u
   exact wp_ret (then_ret (then_ret (rt s rfl (d.ret rfl))))
  refine sk (sz0 1 s rfl fun a s => ?_)
  obtain rfl := oi u
  exact wp_ret (then_ret (rt s rfl (d.ret rfl)))
 refine sk (wp_seq (sz0 1 s rfl fun a s => ?_))
 refine cd s u rfl (fun u => ?_) fun u => ?_
 ·refine sz0 1 s rfl fun a s => ?_
  obtain rfl := oi u
  exact wp_ret (then_ret (rt s rfl (d.ret rfl)))
 refine sk (wp_seq (sn0 2 s rfl fun a s => ?_))
 refine sv s (y_lssS rfl rfl) rfl fun a s => ?_
 refine nl (cd s u rfl (fun u => ?_) fun u => ?_)
 ·refine sz0 1 s rfl fun a s => ?_
  obtain rfl := oi u
  exact wp_ret (then_ret (rt s rfl (d.ret rfl)))
 refine sk (wp_seq (sn0 2 s rfl fun a s => ?_))
 refine sv s (y_gtrS rfl rfl) rfl fun a s => ?_
 refine nl (cd s u rfl (fun u => ?_) fun u => ?_)
 ·refine sz0 1 s rfl fun a s => ?_
  obtain rfl := oi u
  exact wp_ret (then_ret (rt s rfl (d.ret rfl)))
 refine sk (sz0 1 s rfl fun a s => ?_)
 obtain rfl := oi u
 exact q1 s rfl (d.ret rfl)
theorem cmp_Or_int_ok {w0 S0 p2 k3 vals1 r} (u : cmp_Or_int vals1 = some r) (hS : Dm S0 w0) (h4 : (Sq p2 k3 vals1).p S0 w0) : Ck Tryz.prog 99 #[sl p2 k3 vals1] w0 S0 [] slices_IndexFunc_Lapi_Record_api_Record_rd r := by
 refine en 18 func99 rfl hS rfl rfl rfl fun a s d => ?_
 have d := d.addE h4
 refine sz0 1 s rfl fun a s => ?_
 refine sz0 1 s rfl fun a s => ?_
 refine wp_seq (sz0 3 s rfl fun a s => ?_)
 refine wp_block (wp_while (fun sv55 a w => ∃ Sv87, Sl 18 [(3, iv 0), (6, sl p2 k3 vals1), (7, iv (vals1.length : Int)), (8, iv sv55)] a ∧ Wd ⟨w0, S0, []⟩ Sv87 [] [Sq p2 k3 vals1] w) 0 u ⟨S0, wj s d [] [0]⟩ ?_)
 repeat clear u
 rintro sv55 a w tv104 ⟨Sv87, s, d⟩ u hd103
 refine sz0 1 s rfl fun a s => ?_
 refine wp_seq (cd s u rfl (fun u => ?_) fun u => ?_)
 ·refine sk (wp_seq (wp_block (sr ?_)))
  obtain ⟨x125, h123, u⟩ := bt u
  obtain ⟨b131, o132, q129, c130, h133, h126, h127, h128, h124⟩ := d.elemV 0 rfl h123
  have hsv134 := s
  have hwv135 := d
  subst h133
  have s := hsv134
  have d := hwv135
  obtain ⟨_, rfl, rfl⟩ := h124
  have d := d.addE h128
  refine sv s (y_indexAt runUnderlying22 sizeOf3 rfl rfl h126.1 h126.2 h127) rfl fun a s => ?_
  refine sv s (y_loadE1 (j := 0) (d.ceAt 0 rfl) rfl isAgg3 rfl) rfl fun a s => ?_
  refine rz0 1 s rfl fun a s => ?_
  refine sz0 3 s rfl fun a s => ?_
  refine cd s u rfl (fun u => ?_) fun u => ?_
  ·refine sz0 2 s rfl fun a s => ?_
   obtain rfl := oi u
   have h138 := hd103 _ rfl
   subst h138
   exact wp_ret (blk_ret (then_ret (then_ret (blk_ret (then_ret (rt s rfl (d.ret rfl)))))))
  refine wp_skip (blk_normal (tn (wp_region_lit (rz0 2 s rfl fun a s => ?_))))
  exact ⟨_, io u, Sv87, wj s d [] [1]⟩
 obtain ⟨rv139, u, h140⟩ := map_t u
 have h140 := (hd103 _ h140.symm).symm
 subst h140
 refine wp_exit (then_exit (then_exit (blk_exit (tn (sz0 2 s rfl fun a s => ?_)))))
 obtain rfl := oi u
 exact q1 s rfl (d.ret rfl)
theorem source_Compare_ok {w0 S0 a1 b2 r} (u : source_Compare a1 b2 = some r) (hS : Dm S0 w0) : Ck Tryz.prog 103 #[V31 a1, V31 b2] w0 S0 [] slices_IndexFunc_Lapi_Record_api_Record_rd r := by
 refine en 27 func103 rfl hS rfl rfl rfl fun a s d => ?_
 refine sr (wb (C31 a1) s d rfl fun b3 a w s d => ?_)
 refine wb (C31 b2) s d rfl fun b4 a w s d => ?_
 refine rz0 1 s rfl fun a s => ?_
 refine wp_seq ?_
 obtain ⟨rv6, h5, u⟩ := bt u
 obtain ⟨rv8, h7, u⟩ := bt u
 obtain ⟨rv10, h9, u⟩ := bt u
 obtain ⟨rv12, h11, u⟩ := bt u
 obtain ⟨rv16, h15, u⟩ := bt u
 refine wp_only (fun a w => ∃ Sv17, Sl 27 [(4, iv rv16)] a ∧ Wd ⟨w0, S0, []⟩ Sv17 [] [] w) ?_ ?_
 ·refine h_c [0, 1] [] d rfl rfl (by kernel_rfl) rfl fun hC d => ?_
  refine gn 16 [0, 1, 2, 3, 5, 6, 7, 8, 10, 11, 12, 13, 15, 16, 17, 18] [1, 0, 1, 0, 1, 0, 1, 0] s hC rfl rfl rfl fun a s => ?_
  refine ho 4 rfl ?_
  refine cV s d (cmp_Compare_string_ok h5 d.bdom) (do_call call131 rfl) rfl fun a w s d => ?_
  refine h_n [0, 1] [] d rfl rfl fun hC => ?_
  refine ho 9 rfl ?_
  refine cV s d (cmp_Compare_string_ok h7 d.bdom) (do_call call131 rfl) rfl fun a w s d => ?_
  refine h_n [0, 1] [] d rfl rfl fun hC => ?_
  refine ho 14 rfl ?_
  refine cV s d (cmp_Compare_string_ok h9 d.bdom) (do_call call131 rfl) rfl fun a w s d => ?_
  refine h_n [0, 1] [] d rfl rfl fun hC => ?_
  refine ho 19 rfl ?_
  refine cV s d (cmp_Compare_string_ok h11 d.bdom) (do_call call131 rfl) rfl fun a w s d => ?_
  refine h_n [0, 1] [] d rfl rfl fun hC => ?_
  refine ho 20 rfl ?_
  refine w_litSlice (α := Int) (vs := [iv rv6, iv rv8, iv rv10, iv rv12]) (cs := [iv rv6, iv rv8, iv rv10, iv rv12]) (xs := ([rv6, rv8, rv10, rv12] : List Int)) s d El22 rfl rfl rfl rfl rfl rfl ⟨⟨_, rfl, rfl⟩, ⟨⟨_, rfl, rfl⟩, ⟨⟨_, rfl, rfl⟩, ⟨⟨_, rfl, rfl⟩, rfl⟩⟩⟩⟩ rfl trivial rfl fun b14 a w s d => ?_
  refine h_n [1, 2] [] d rfl rfl fun hC => ?_
  refine h_d [1, 2, 0] [] [0, 1] [] d rfl rfl rfl rfl fun hC => ?_
  refine ho 21 rfl ?_
  refine cV s d (cmp_Or_int_ok h15 d.bdom (d.bRow 0 rfl 0 rfl)) (do_call call99 rfl) rfl fun a w s d => ?_
  refine h_n [1, 2, 0] [] d rfl rfl fun hC => ?_
  refine gv s 22 rfl rfl hC (fun w hC => y_assign rfl) fun a s => ?_
  refine h_done (by kernel_rfl) ?_
  exact ⟨S0, wj s d [] []⟩
 rintro a w ⟨Sv17, s, d⟩
 refine tn ?_
 obtain rfl := oi u
 exact q1 s rfl (d.ret rfl)
theorem record_time_ok {w0 S0 p2 k3 r1 i5 r} (u : record_time r1 i5 = some r) (hS : Dm S0 w0) (h4 : (Sq p2 k3 r1.Samples).p S0 w0) : Ck Tryz.prog 132 #[V35 r1 p2 k3, iv i5] w0 S0 [] slices_IndexFunc_Lapi_Record_api_Record_rd r := by
 refine en 20 func132 rfl hS rfl rfl rfl fun a s d => ?_
 have d := d.addE h4
 refine sr (wb (C35 r1 p2 k3) s d rfl fun b6 a w s d => ?_)
 refine rz0 1 s rfl fun a s => ?_
 refine sn 8 [0, 0, 0] s d rfl rfl fun a s => ?_
 obtain ⟨rv8, h7, u⟩ := bt u
 refine cV s d (rate_Time_ok h7 d.bdom) (do_call call81 rfl) rfl fun a w s d => ?_
 refine rz0 5 s rfl fun a s => ?_
 refine sz0 2 s rfl fun a s => ?_
 obtain rfl := oi u
 exact q1 s rfl (d.ret rfl)
theorem record_begin_ok {w0 S0 p2 k3 r1 r} (u : record_begin r1 = some r) (hS : Dm S0 w0) (h4 : (Sq p2 k3 r1.Samples).p S0 w0) : Ck Tryz.prog 104 #[V35 r1 p2 k3] w0 S0 [] slices_IndexFunc_Lapi_Record_api_Record_rd r := by
 refine en 8 func104 rfl hS rfl rfl rfl fun a s d => ?_
 have d := d.addE h4
 refine sr (wb (C35 r1 p2 k3) s d rfl fun b5 a w s d => ?_)
 refine rz0 1 s rfl fun a s => ?_
 refine wp_seq (sn 1 [0] s d rfl rfl fun a s => ?_)
 obtain ⟨rv7, h6, u⟩ := bt u
 refine cV s d (record_Valid_ok h6 d.bdom (d.bE 0 rfl)) (do_call call91 rfl) rfl fun a w s d => ?_
 refine rz0 1 s rfl fun a s => ?_
 refine cd s u rfl (fun u => ?_) fun u => ?_
 ·refine sz0 1 s rfl fun a s => ?_
  obtain rfl := oi u
  exact wp_ret (then_ret (rt s rfl (d.ret rfl)))
 refine sk (sn 1 [0] s d rfl rfl fun a s => ?_)
 obtain ⟨rv16, h15, u⟩ := bt u
 refine cV s d (record_time_ok h15 d.bdom (d.bE 0 rfl)) (do_call call132 rfl) rfl fun a w s d => ?_
 refine rz0 1 s rfl fun a s => ?_
 obtain rfl := oi u
 exact q1 s rfl (d.ret rfl)
theorem cmp_isNaN_int_ok {w0 S0 x1 r} (u : cmp_isNaN_int x1 = some r) (hS : Dm S0 w0) : Ck Tryz.prog 113 #[iv x1] w0 S0 [] made_Light_rd r := by
 refine en 6 func113 rfl hS rfl rfl rfl fun a s d => ?_
 refine sz0 1 s rfl fun a s => ?_
 refine sz0 4 s rfl fun a s => ?_
 obtain rfl := oi u
 exact q1 s rfl (d.ret rfl)
theorem cmp_Compare_int_ok {w0 S0 x1 y2 r} (u : cmp_Compare_int x1 y2 = some r) (hS : Dm S0 w0) : Ck Tryz.prog 88 #[iv x1, iv y2] w0 S0 [] slices_IndexFunc_Lapi_Record_api_Record_rd r := by
 refine en 20 func88 rfl hS rfl rfl rfl fun a s d => ?_
 refine sz0 1 s rfl fun a s => ?_
 refine sn0 1 s rfl fun a s => ?_
 obtain ⟨rv4, h3, u⟩ := bt u
 refine cV s d (cmp_isNaN_int_ok h3 d.bdom) (do_call call113 rfl) rfl fun a w s d => ?_
 refine rz0 1 s rfl fun a s => ?_
 refine sn0 1 s rfl fun a s => ?_
 obtain ⟨rv11, h10, u⟩ := bt u
 refine cV s d (cmp_isNaN_int_ok h10 d.bdom) (do_call call113 rfl) rfl fun a w s d => ?_
 refine rz0 1 s rfl fun a s => ?_
 refine wp_seq (sz0 1 s rfl fun a s => ?_)
 refine cd s u rfl (fun u => ?_) fun u => ?_
 ·refine wp_seq (sz0 1 s rfl fun a s => ?_)
  refine cd s u rfl (fun u => ?_) fun u => ?_
  ·refine sz0 1 s rfl fun a s => ?_
   obtain rfl := oi u
   exact wp_ret (then_ret (then_ret (rt s rfl (d.ret rfl))))
  refine sk (sz0 1 s rfl fun a s => ?_)
  obtain rfl := oi u
  exact wp_ret (then_ret (rt s rfl (d.ret rfl)))
 refine sk (wp_seq (sz0 1 s rfl fun a s => ?_))
 refine cd s u rfl (fun u => ?_) fun u => ?_
 ·refine sz0 1 s rfl fun a s => ?_
  obtain rfl := oi u
  exact wp_ret (then_ret (rt s rfl (d.ret rfl)))
 refine sk (wp_seq (sz0 3 s rfl fun a s => ?_))
 refine cd s u rfl (fun u => ?_) fun u => ?_
 ·refine sz0 1 s rfl fun a s => ?_
  obtain rfl := oi u
  exact wp_ret (then_ret (rt s rfl (d.ret rfl)))
 refine sk (wp_seq (sz0 3 s rfl fun a s => ?_))
 refine cd s u rfl (fun u => ?_) fun u => ?_
 ·refine sz0 1 s rfl fun a s => ?_
  obtain rfl := oi u
  exact wp_ret (then_ret (rt s rfl (d.ret rfl)))
 refine sk (sz0 1 s rfl fun a s => ?_)
 obtain rfl := oi u
 exact q1 s rfl (d.ret rfl)
theorem slices_Compare_Lint_int_ok {w0 S0 p2 k3 p6 k7 s1_1 s2_5 r} (u : slices_Compare_Lint_int s1_1 s2_5 = some r) (hS : Dm S0 w0) (h4 : (Sq p2 k3 s1_1).p S0 w0) (h8 : (Sq p6 k7 s2_5).p S0 w0) : Ck Tryz.prog 105 #[sl p2 k3 s1_1, sl p6 k7 s2_5] w0 S0 [] slices_IndexFunc_Lapi_Record_api_Record_rd r := by
 refine en 36 func105 rfl hS rfl rfl rfl fun a s d => ?_
 have d := (d.addE h4).addE h8
 refine sz0 1 s rfl fun a s => ?_
 refine wp_seq (sz0 3 s rfl fun a s => ?_)
 refine wp_block (wp_while (fun sv122 a w => ∃ Sv196, Sl 36 [(0, sl p2 k3 s1_1), (1, sl p6 k7 s2_5), (9, sl p2 k3 s1_1), (10, iv (s1_1.length : Int)), (11, iv sv122)] a ∧ Wd ⟨w0, S0, []⟩ Sv196 [] [Sq p2 k3 s1_1, Sq p6 k7 s2_5] w) 0 u ⟨S0, wj s d [] [1, 0]⟩ ?_)
 repeat clear u
 rintro sv122 a w tv234 ⟨Sv196, s, d⟩ u hd233
 refine sz0 1 s rfl fun a s => ?_
 refine wp_seq (cd s u rfl (fun u => ?_) fun u => ?_)
 ·refine sk (wp_seq (wp_block (sn0 1 s rfl fun a s => ?_)))
  obtain ⟨x276, h274, u⟩ := bt u
  obtain ⟨b282, o283, q280, c281, h284, h277, h278, h279, h275⟩ := d.elemV 0 rfl h274
  have hsv285 := s
  have hwv286 := d
  subst h284
  have s := hsv285
  have d := hwv286
  obtain ⟨_, rfl, rfl⟩ := h275
  have d := d.addE h279
  refine sv s (y_indexAt runUnderlying22 sizeOf3 rfl rfl h277.1 h277.2 h278) rfl fun a s => ?_
  refine sv s (y_loadE1 (j := 0) (d.ceAt 0 rfl) rfl isAgg3 rfl) rfl fun a s => ?_
  refine rz0 2 s rfl fun a s => ?_
  refine wp_seq (sz0 4 s rfl fun a s => ?_)
  refine cd s u rfl (fun u => ?_) fun u => ?_
  ·refine sz0 1 s rfl fun a s => ?_
   obtain rfl := oi u
   have h289 := hd233 _ rfl
   subst h289
   exact wp_ret (then_ret (blk_ret (then_ret (then_ret (blk_ret (then_ret (rt s rfl (d.ret rfl))))))))
  refine sk (sn0 2 s rfl fun a s => ?_)
  obtain ⟨x292, h290, u⟩ := bt u
  obtain ⟨b298, o299, q296, c297, h300, h293, h294, h295, h291⟩ := d.elemV 2 rfl h290
  have hsv301 := s
  have hwv302 := d
  subst h300
  have s := hsv301
  have d := hwv302
  obtain ⟨_, rfl, rfl⟩ := h291
  have d := d.addE h295
  refine sv s (y_indexAt runUnderlying22 sizeOf3 rfl rfl h293.1 h293.2 h294) rfl fun a s => ?_
  refine sv s (y_loadE1 (j := 0) (d.ceAt 0 rfl) rfl isAgg3 rfl) rfl fun a s => ?_
  refine rz0 1 s rfl fun a s => ?_
  refine sn0 2 s rfl fun a s => ?_
  obtain ⟨rv304, h303, u⟩ := bt u
  refine cV s d (cmp_Compare_int_ok h303 d.bdom) (do_call call88 rfl) rfl fun a w s d => ?_
  refine rz0 1 s rfl fun a s => ?_
  refine sz0 2 s rfl fun a s => ?_
  refine cd s u rfl (fun u => ?_) fun u => ?_
  ·refine sz0 2 s rfl fun a s => ?_
   obtain rfl := oi u
   have h312 := hd233 _ rfl
   subst h312
   exact wp_ret (blk_ret (then_ret (then_ret (blk_ret (then_ret (rt s rfl (d.ret rfl)))))))
  refine wp_skip (blk_normal (tn (wp_region_lit (rz0 2 s rfl fun a s => ?_))))
  exact ⟨_, io u, Sv196, wj s d [] [2, 3]⟩
 obtain ⟨rv315, u, h316⟩ := map_t u
 have h316 := (hd233 _ h316.symm).symm
 subst h316
 refine wp_exit (then_exit (then_exit (blk_exit (tn (wp_seq (sz0 5 s rfl fun a s => ?_))))))
 refine cd s u rfl (fun u => ?_) fun u => ?_
 ·refine sz0 1 s rfl fun a s => ?_
  obtain rfl := oi u
  exact wp_ret (then_ret (rt s rfl (d.ret rfl)))
 refine sk (sz0 1 s rfl fun a s => ?_)
 obtain rfl := oi u
 exact q1 s rfl (d.ret rfl)
theorem record_Compare_ok {w0 S0 p2 k3 p6 k7 a1 b5 r} (u : record_Compare a1 b5 = some r) (hS : Dm S0 w0) (h4 : (Sq p2 k3 a1.Samples).p S0 w0) (h8 : (Sq p6 k7 b5.Samples).p S0 w0) : Ck Tryz.prog 75 #[V35 a1 p2 k3, V35 b5 p6 k7] w0 S0 [] slices_IndexFunc_Lapi_Record_api_Record_rd r := by
 refine en 68 func75 rfl hS rfl rfl rfl fun a s d => ?_
 have d := (d.addE h4).addE h8
 refine sr (wb (C35 a1 p2 k3) s d rfl fun b9 a w s d => ?_)
 refine wb (C35 b5 p6 k7) s d rfl fun b10 a w s d => ?_
 refine rz0 1 s rfl fun a s => ?_
 refine wp_seq ?_
 obtain ⟨rv12, h11, u⟩ := bt u
 obtain ⟨rv14, h13, u⟩ := bt u
 obtain ⟨rv16, h15, u⟩ := bt u
 obtain ⟨rv18, h17, u⟩ := bt u
 obtain ⟨rv20, h19, u⟩ := bt u
 obtain ⟨rv22, h21, u⟩ := bt u
 obtain ⟨rv24, h23, u⟩ := bt u
 obtain ⟨rv26, h25, u⟩ := bt u
 obtain ⟨rv28, h27, u⟩ := bt u
 obtain ⟨rv30, h29, u⟩ := bt u
 obtain ⟨rv32, h31, u⟩ := bt u
 obtain ⟨rv34, h33, u⟩ := bt u
 obtain ⟨rv36, h35, u⟩ := bt u
 obtain ⟨rv40, h39, u⟩ := bt u
 refine wp_only (fun a w => ∃ Sv41, Sl 68 [(4, iv rv40)] a ∧ Wd ⟨w0, S0, []⟩ Sv41 [] [] w) ?_ ?_
 ·refine h_c [0, 1] [] d rfl rfl (by kernel_rfl) rfl fun hC d => ?_
  refine gn 48 [0, 1, 2, 3, 5, 7, 10, 11, 12, 13, 15, 16, 17, 18, 20, 21, 22, 23, 24, 25, 27, 28, 29, 30, 31, 32, 34, 35, 36, 37, 39, 40, 41, 42, 44, 45, 46, 47, 49, 50, 51, 52, 53, 54, 56, 57, 58, 59] [1, 0, 1, 0, 1, 0, 1, 0, 1, 0, 1, 0, 1, 0, 1, 0, 1, 0, 1, 0, 1, 0] s hC rfl rfl rfl fun a s => ?_
  refine ho 4 rfl ?_
  refine cV s d (source_Compare_ok h11 d.bdom) (do_call call103 rfl) rfl fun a w s d => ?_
  refine h_n [0, 1] [] d rfl rfl fun hC => ?_
  refine ho 6 rfl ?_
  refine cV s d (record_begin_ok h13 d.bdom (d.bE 1 rfl)) (do_call call104 rfl) rfl fun a w s d => ?_
  refine h_n [0, 1] [] d rfl rfl fun hC => ?_
  refine ho 8 rfl ?_
  refine cV s d (record_begin_ok h15 d.bdom (d.bE 0 rfl)) (do_call call104 rfl) rfl fun a w s d => ?_
  refine h_n [0, 1] [] d rfl rfl fun hC => ?_
  refine ho 9 rfl ?_
  refine cV s d (cmp_Compare_int_ok h17 d.bdom) (do_call call88 rfl) rfl fun a w s d => ?_
  refine h_n [0, 1] [] d rfl rfl fun hC => ?_
  refine ho 14 rfl ?_
  refine cV s d (cmp_Compare_int_ok h19 d.bdom) (do_call call88 rfl) rfl fun a w s d => ?_
  refine h_n [0, 1] [] d rfl rfl fun hC => ?_
  refine ho 19 rfl ?_
  refine cV s d (cmp_Compare_int_ok h21 d.bdom) (do_call call88 rfl) rfl fun a w s d => ?_
  refine h_n [0, 1] [] d rfl rfl fun hC => ?_
  refine ho 26 rfl ?_
  refine cV s d (cmp_Compare_int_ok h23 d.bdom) (do_call call88 rfl) rfl fun a w s d => ?_
  refine h_n [0, 1] [] d rfl rfl fun hC => ?_
  refine ho 33 rfl ?_
  refine cV s d (cmp_Compare_int_ok h25 d.bdom) (do_call call88 rfl) rfl fun a w s d => ?_
  refine h_n [0, 1] [] d rfl rfl fun hC => ?_
  refine ho 38 rfl ?_
  refine cV s d (cmp_Compare_int_ok h27 d.bdom) (do_call call88 rfl) rfl fun a w s d => ?_
  refine h_n [0, 1] [] d rfl rfl fun hC => ?_
  refine ho 43 rfl ?_
  refine cV s d (cmp_Compare_int_ok h29 d.bdom) (do_call call88 rfl) rfl fun a w s d => ?_
  refine h_n [0, 1] [] d rfl rfl fun hC => ?_
  refine ho 48 rfl ?_
  refine cV s d (cmp_Compare_int_ok h31 d.bdom) (do_call call88 rfl) rfl fun a w s d => ?_
  refine h_n [0, 1] [] d rfl rfl fun hC => ?_
  refine ho 55 rfl ?_
  refine cV s d (cmp_Compare_int_ok h33 d.bdom) (do_call call88 rfl) rfl fun a w s d => ?_
  refine h_n [0, 1] [] d rfl rfl fun hC => ?_
  refine ho 60 rfl ?_
  refine cV s d (slices_Compare_Lint_int_ok h35 d.bdom (d.bE 1 rfl) (d.bE 0 rfl)) (do_call call105 rfl) rfl fun a w s d => ?_
  refine h_n [0, 1] [] d rfl rfl fun hC => ?_
  refine ho 61 rfl ?_
  refine w_litSlice (α := Int) (vs := [iv rv12, iv rv18, iv rv20, iv rv22, iv rv24, iv rv26, iv rv28, iv rv30, iv rv32, iv rv34, iv rv36]) (cs := [iv rv12, iv rv18, iv rv20, iv rv22, iv rv24, iv rv26, iv rv28, iv rv30, iv rv32, iv rv34, iv rv36]) (xs := ([rv12, rv18, rv20, rv22, rv24, rv26, rv28, rv30, rv32, rv34, rv36] : List Int)) s d El22 rfl rfl rfl rfl rfl rfl ⟨⟨_, rfl, rfl⟩, ⟨⟨_, rfl, rfl⟩, ⟨⟨_, rfl, rfl⟩, ⟨⟨_, rfl, rfl⟩, ⟨⟨_, rfl, rfl⟩, ⟨⟨_, rfl, rfl⟩, ⟨⟨_, rfl, rfl⟩, ⟨⟨_, rfl, rfl⟩, ⟨⟨_, rfl, rfl⟩, ⟨⟨_, rfl, rfl⟩, ⟨⟨_, rfl, rfl⟩, rfl⟩⟩⟩⟩⟩⟩⟩⟩⟩⟩⟩ rfl trivial rfl fun b38 a w s d => ?_
  refine h_n [1, 2] [] d rfl rfl fun hC => ?_
  refine h_d [1, 2, 0] [] [0, 1] [] d rfl rfl rfl rfl fun hC => ?_
  refine ho 62 rfl ?_
  refine cV s d (cmp_Or_int_ok h39 d.bdom (d.bRow 0 rfl 0 rfl)) (do_call call99 rfl) rfl fun a w s d => ?_
  refine h_n [1, 2, 0] [] d rfl rfl fun hC => ?_
  refine gv s 63 rfl rfl hC (fun w hC => y_assign rfl) fun a s => ?_
  refine h_done (by kernel_rfl) ?_
  exact ⟨S0, wj s d [] []⟩
 rintro a w ⟨Sv41, s, d⟩
 refine tn ?_
 obtain rfl := oi u
 exact q1 s rfl (d.ret rfl)
theorem record_Compare_fn (S0 : Nat → Prop) (w0 : World) : (FnA2 Tryz.prog 75 [] [] record_Compare).p S0 w0 := by
  refine ⟨call75, ?_⟩
  rintro S1 w1 hk hS c0 c1 x0 x1 r1 ⟨_, _, _, _, _, _, _, _, _, _, _, _, rfl, rfl, rfl, rfl, rfl, rfl, rfl, rfl, rfl, rfl, rfl, rfl, ⟨_, _, _, rfl, e0⟩⟩ h1 hf
  obtain ⟨_, _, _, _, _, _, _, _, _, _, _, _, rfl, rfl, rfl, rfl, rfl, rfl, rfl, rfl, rfl, rfl, rfl, rfl, ⟨_, _, _, rfl, e1⟩⟩ := h1
  obtain rfl := e0.1
  obtain rfl := e1.1
  exact record_Compare_ok hf hS e0 e1 
abbrev E94_0 : Record := ((⟨(⟨ByteArray.empty, ByteArray.empty, ByteArray.empty, ByteArray.empty⟩ : SourceID), 0, 0, (⟨0, 0⟩ : Rate), 0, 0, 0, ([] : List Int)⟩ : Record) : Record)
theorem slices_CompactFunc_Lapi_Record_api_Record_ok {w0 S0 p2 k3 c4 g7 f8 cp9 s1} {eq6 : Record → Record → Option Bool} {r} (u : slices_CompactFunc_Lapi_Record_api_Record s1 eq6 = some r) (hS : Dm S0 w0) (hin : Ins S0 w0 [.row p2 s1.length k3 c4 35 12]) (h5 : (RowA c4 s1).p S0 w0) (h10 : (FnA2 Tryz.prog g7 f8 cp9 eq6).p S0 w0) : Ck Tryz.prog 94 #[sl p2 k3 s1, .func (.func g7) f8.toArray cp9.toArray] w0 S0 (blks [.row p2 s1.length k3 c4 35 12]) law15_two_rd r := by
 refine enI 66 func94 rfl hS hin rfl rfl rfl fun a s d => ?_
 have d := ((d.addE h5).addE (e := LenA s1.length s1) len_rfl).addE h10
 refine sz0 1 s rfl fun a s => ?_
 refine wp_seq (sz0 3 s rfl fun a s => ?_)
 refine cd s u rfl (fun u => ?_) fun u => ?_
 ·refine sz0 2 s rfl fun a s => ?_
  obtain rfl := oi u
  exact wp_ret (then_ret (rt s rfl (d.ret ⟨p2, k3, c4, rfl, (d.outs [0] (by decide) rfl), (d.envAt 2 rfl)⟩)))
 refine sk (wp_seq (sz0 1 s rfl fun a s => ?_))
 refine wp_block (wp_while (fun sv825 a w => ∃ Sv1365, Sl 66 [(0, sl p2 k3 s1), (1, .func (.func g7) f8.toArray cp9.toArray), (5, iv sv825)] a ∧ Wd ⟨w0, S0, blks [.row p2 s1.length k3 c4 35 12]⟩ Sv1365 [.row p2 s1.length k3 c4 35 12] [FnA2 Tryz.prog g7 f8 cp9 eq6, RowA c4 s1, LenA s1.length s1] w) 1 u ⟨S0, wj s d [0] [0, 2, 1]⟩ ?_)
 repeat clear u
 rintro sv825 a w tv1636 ⟨Sv1365, s, d⟩ u hd1635
 refine wp_seq (sz0 4 s rfl fun a s => ?_)
 refine cd s u rfl (fun u => ?_) fun u => ?_
 ·refine sk (wp_seq (wp_block (wp_seq ?_)))
  obtain ⟨x1909, h1907, u⟩ := bt u
  obtain ⟨b1916, q1913, c1914, h1917, h1910, h1911, h1915, h1908⟩ := d.elemRV (α := Record) 0 rfl 1 rfl h1907
  have hsv1918 := s
  have hwv1919 := d
  subst h1917
  have s := hsv1918
  have d := hwv1919
  obtain ⟨_, _, _, _, _, _, _, _, _, _, _, _, rfl, rfl, rfl, rfl, rfl, rfl, rfl, rfl, rfl, rfl, rfl, rfl, ⟨p1920, n1921, k1922, rfl, h1923⟩⟩ := h1908
  obtain rfl := h1923.1
  have d := d.addE (e := SlA p1920 _ k1922 x1909.Samples) h1923
  obtain ⟨x1926, h1924, u⟩ := bt u
  obtain ⟨q1930, c1931, h1927, h1928, h1932, h1925⟩ := d.elemRK (α := Record) 0 rfl 2 rfl h1924
  obtain ⟨_, _, _, _, _, _, _, _, _, _, _, _, rfl, rfl, rfl, rfl, rfl, rfl, rfl, rfl, rfl, rfl, rfl, rfl, ⟨p1933, n1934, k1935, rfl, h1936⟩⟩ := h1925
  obtain rfl := h1936.1
  have d := d.addE (e := SlA p1933 _ k1935 x1926.Samples) h1936
  obtain ⟨rv1938, h1937, u⟩ := bt u
  refine wp_only (fun a w => ∃ Sv1939, Sl 66 [(0, sl (ad b1916) k3 s1), (1, .func (.func g7) f8.toArray cp9.toArray), (5, iv sv825), (28, .bool rv1938)] a ∧ Wd ⟨w0, S0, blks [.row (ad b1916) s1.length k3 c4 35 12]⟩ Sv1939 [.row (ad b1916) s1.length k3 c4 35 12] [FnA2 Tryz.prog g7 f8 cp9 eq6, RowA c4 s1, LenA s1.length s1] w) ?_ ?_
  ·refine h_c [0] [] d rfl rfl (by kernel_rfl) rfl fun hC d => ?_
   refine gn 3 [0, 1, 2] [] s hC rfl rfl rfl fun a s => ?_
   refine gx s 3 rfl trivial rfl hC runUnderlying27 sizeOf35 rfl rfl h1910 h1911 fun a s => ?_
   refine gv s 4 rfl rfl hC (fun w hC => y_loadQA (j := 0) (hC.ownAt 0 rfl) rfl isAgg35 sizeOf35 h1915 rfl rfl) fun a s => ?_
   refine gn 3 [5, 6, 7] [] s hC rfl rfl rfl fun a s => ?_
   refine gx s 8 rfl trivial rfl hC runUnderlying27 sizeOf35 rfl rfl h1927 h1928 fun a s => ?_
   refine gv s 9 rfl rfl hC (fun w hC => y_loadQA (j := 0) (hC.ownAt 0 rfl) rfl isAgg35 sizeOf35 h1932 rfl rfl) fun a s => ?_
   refine ho 10 rfl ?_
   refine st_callR s ((d.bE 2 rfl).2 Keep.rfl' d.bdom ⟨_, _, _, _, _, _, _, _, _, _, _, _, rfl, rfl, rfl, rfl, rfl, rfl, rfl, rfl, rfl, rfl, rfl, rfl, ⟨_, _, _, rfl, d.bE 1 rfl⟩⟩ ⟨_, _, _, _, _, _, _, _, _, _, _, _, rfl, rfl, rfl, rfl, rfl, rfl, rfl, rfl, rfl, rfl, rfl, rfl, ⟨_, _, _, rfl, d.bE 0 rfl⟩⟩ h1937) (do_callF (d.bE 2 rfl).1 rfl rfl) trivial rfl rfl ?_
   rintro v1943 Sv1940 w a h1941 rfl s
   have d := d.callB h1941
   refine h_n [0] [] d rfl rfl fun hC => ?_
   refine h_done (by kernel_rfl) ?_
   exact ⟨Sv1365, wj s d [0] [2, 3, 4]⟩
  rintro a w ⟨Sv1939, s, d⟩
  refine tn (cd s u rfl (fun u => ?_) fun u => ?_)
  ·refine sn0 2 s rfl fun a s => ?_
   obtain ⟨l2182, h2178, u⟩ := bt u
   obtain ⟨o2180, k2181, h2179⟩ := row_sub_at (α := Record) d 0 rfl h2178
   refine sv s (y_slc runUnderlying27 sizeOf35 rfl ⟨_, rfl⟩ (by exact rfl) h2179) rfl fun a s => ?_
   refine rz0 1 s rfl fun a s => ?_
   refine wp_seq (sz0 1 s rfl fun a s => ?_)
   obtain ⟨e2392, h2581, u⟩ := bt u
   refine wp_join (fun a w => ∃ c2393 Sv2394, Sl 66 [(0, sl (ad b1916) k3 e2392.1), (5, iv e2392.2)] a ∧ Wd ⟨w0, S0, blks [.row (ad b1916) s1.length k3 c4 35 12]⟩ Sv2394 [.row (ad b1916) e2392.1.length k3 c2393 35 12] [RowA c2393 e2392.1, LenA s1.length e2392.1] w) ?_ ?_
   ·refine wp_block (wp_while (fun sv2183 a w => ∃ c2320 Sv2321, Sl 66 [(0, sl (ad b1916) k3 sv2183.1), (1, .func (.func g7) f8.toArray cp9.toArray), (5, iv sv2183.2.1), (6, sl (some ⟨b1916, o2180, none⟩) k2181 l2182), (7, iv sv2183.2.2)] a ∧ Wd ⟨w0, S0, blks [.row (ad b1916) s1.length k3 c4 35 12]⟩ Sv2321 [.row (ad b1916) sv2183.1.length k3 c2320 35 12] [FnA2 Tryz.prog g7 f8 cp9 eq6, RowA c2320 sv2183.1, LenA s1.length sv2183.1] w) (s1, sv825, 1) h2581 ⟨c4, Sv1939, wj s d [0] [0, 1, 2]⟩ ?_)
    clear h2581
    repeat clear u
    rintro sv2183 a w tv2390 ⟨c2320, Sv2321, s, d⟩ u hd2389
    refine wp_seq (sz0 4 s rfl fun a s => ?_)
    refine cd s u rfl (fun u => ?_) fun u => ?_
    ·refine sk (wp_seq (wp_block (wp_seq ?_)))
     obtain ⟨x2468, h2461, u⟩ := bt u
     obtain ⟨q2466, c2467, h2463, h2464, h2465, h2462⟩ := d.elemLK (α := Record) 0 rfl 1 rfl h2179 h2461
     obtain ⟨_, _, _, _, _, _, _, _, _, _, _, _, rfl, rfl, rfl, rfl, rfl, rfl, rfl, rfl, rfl, rfl, rfl, rfl, ⟨p2469, n2470, k2471, rfl, h2472⟩⟩ := h2462
     obtain rfl := h2472.1
     have d := d.addE (e := SlA p2469 _ k2471 x2468.Samples) h2472
     obtain ⟨x2480, h2473, u⟩ := bt u
     obtain ⟨q2478, c2479, h2475, h2476, h2477, h2474⟩ := d.elemLK (α := Record) 0 rfl 2 rfl h2179 h2473
     obtain ⟨_, _, _, _, _, _, _, _, _, _, _, _, rfl, rfl, rfl, rfl, rfl, rfl, rfl, rfl, rfl, rfl, rfl, rfl, ⟨p2481, n2482, k2483, rfl, h2484⟩⟩ := h2474
     obtain rfl := h2484.1
     have d := d.addE (e := SlA p2481 _ k2483 x2480.Samples) h2484
     obtain ⟨rv2486, h2485, u⟩ := bt u
     refine wp_only (fun a w => ∃ Sv2487, Sl 66 [(0, sl (ad b1916) k3 sv2183.1), (1, .func (.func g7) f8.toArray cp9.toArray), (5, iv sv2183.2.1), (6, sl (some ⟨b1916, o2180, none⟩) k2181 l2182), (7, iv sv2183.2.2), (49, .bool (!rv2486))] a ∧ Wd ⟨w0, S0, blks [.row (ad b1916) s1.length k3 c4 35 12]⟩ Sv2487 [.row (ad b1916) sv2183.1.length k3 c2320 35 12] [FnA2 Tryz.prog g7 f8 cp9 eq6, RowA c2320 sv2183.1, LenA s1.length sv2183.1] w) ?_ ?_
     ·refine h_c [0] [] d rfl rfl (by kernel_rfl) rfl fun hC d => ?_
      refine gn 3 [0, 1, 2] [] s hC rfl rfl rfl fun a s => ?_
      refine gx s 3 rfl trivial rfl hC runUnderlying27 sizeOf35 rfl rfl h2463 h2464 fun a s => ?_
      refine gv s 4 rfl rfl hC (fun w hC => y_loadQA (j := 0) (hC.ownAt 0 rfl) rfl isAgg35 sizeOf35 h2465 rfl rfl) fun a s => ?_
      refine gn 3 [5, 6, 7] [] s hC rfl rfl rfl fun a s => ?_
      refine gx s 8 rfl trivial rfl hC runUnderlying27 sizeOf35 rfl rfl h2475 h2476 fun a s => ?_
      refine gv s 9 rfl rfl hC (fun w hC => y_loadQA (j := 0) (hC.ownAt 0 rfl) rfl isAgg35 sizeOf35 h2477 rfl rfl) fun a s => ?_
      refine ho 10 rfl ?_
      refine st_callR s ((d.bE 2 rfl).2 Keep.rfl' d.bdom ⟨_, _, _, _, _, _, _, _, _, _, _, _, rfl, rfl, rfl, rfl, rfl, rfl, rfl, rfl, rfl, rfl, rfl, rfl, ⟨_, _, _, rfl, d.bE 1 rfl⟩⟩ ⟨_, _, _, _, _, _, _, _, _, _, _, _, rfl, rfl, rfl, rfl, rfl, rfl, rfl, rfl, rfl, rfl, rfl, rfl, ⟨_, _, _, rfl, d.bE 0 rfl⟩⟩ h2485) (do_callF (d.bE 2 rfl).1 rfl rfl) trivial rfl rfl ?_
      rintro v2491 Sv2488 w a h2489 rfl s
      have d := d.callB h2489
      refine h_n [0] [] d rfl rfl fun hC => ?_
      refine gv s 11 rfl rfl hC (fun w hC => y_not rfl) fun a s => ?_
      refine h_done (by kernel_rfl) ?_
      exact ⟨Sv2321, wj s d [0] [2, 3, 4]⟩
     rintro a w ⟨Sv2487, s, d⟩
     refine tn (wp_join (fun a w => ∃ (sv2527 : (List Record)) (k2528 : Int) (c2525 Sv2526 : _), slices_CompactFunc_Lapi_Record_api_Record_j1 sv2183 sv2527 k2528 = some tv2390 ∧ Sl 66 [(0, sl (ad b1916) k3 sv2527), (1, .func (.func g7) f8.toArray cp9.toArray), (5, iv k2528), (6, sl (some ⟨b1916, o2180, none⟩) k2181 l2182), (7, iv sv2183.2.2)] a ∧ Wd ⟨w0, S0, blks [.row (ad b1916) s1.length k3 c4 35 12]⟩ Sv2526 [.row (ad b1916) sv2527.length k3 c2525 35 12] [FnA2 Tryz.prog g7 f8 cp9 eq6, RowA c2525 sv2527, LenA s1.length sv2527] w) ?_ ?_)
     ·refine cd s u rfl (fun u => ?_) fun u => ?_
      ·refine sn0 4 s rfl fun a s => ?_
       obtain ⟨x2539, h2532, u⟩ := bt u
       obtain ⟨q2537, c2538, h2534, h2535, h2536, h2533⟩ := d.elemLK (α := Record) 0 rfl 1 rfl h2179 h2532
       obtain ⟨_, _, _, _, _, _, _, _, _, _, _, _, rfl, rfl, rfl, rfl, rfl, rfl, rfl, rfl, rfl, rfl, rfl, rfl, ⟨p2540, n2541, k2542, rfl, h2543⟩⟩ := h2533
       obtain rfl := h2543.1
       have d := d.addE (e := SlA p2540 _ k2542 x2539.Samples) h2543
       refine sv s (y_indexAt runUnderlying27 sizeOf35 rfl rfl h2534.1 h2534.2 h2535) rfl fun a s => ?_
       refine sv s (y_loadQA (j := 0) (d.ownAt 0 rfl) rfl isAgg35 sizeOf35 h2536 rfl rfl) rfl fun a s => ?_
       obtain ⟨x2546, h2544, u⟩ := bt u
       obtain ⟨q2550, c2551, h2547, h2548, h2552, h2545⟩ := d.elemRK (α := Record) 0 rfl 2 rfl h2544
       obtain ⟨_, _, _, _, _, _, _, _, _, _, _, _, rfl, rfl, rfl, rfl, rfl, rfl, rfl, rfl, rfl, rfl, rfl, rfl, ⟨p2553, n2554, k2555, rfl, h2556⟩⟩ := h2545
       obtain rfl := h2556.1
       have d := d.addE (e := SlA p2553 _ k2555 x2546.Samples) h2556
       refine sv s (y_indexAt runUnderlying27 sizeOf35 rfl rfl h2547.1 h2547.2 h2548) rfl fun a s => ?_
       obtain ⟨l2558, h2557, u⟩ := bt u
       have h2561 := d.envAt 4 rfl
       refine w_storeF (α := Record) s d 0 rfl 3 rfl h2548 rfl rfl sizeOf35 rfl h2557 ⟨_, _, _, _, _, _, _, _, _, _, _, _, rfl, rfl, rfl, rfl, rfl, rfl, rfl, rfl, rfl, rfl, rfl, rfl, ⟨_, _, _, rfl, d.envAt 1 rfl⟩⟩ trivial ?_
       intro c2559 a w s d
       have d := d.addE (e := LenA s1.length l2558) (len_set (w := w) (S := S0) h2561 h2557)
       have h2560 := setM_len h2557
       try have s := s.fl 0 rfl h2560
       try have s := s.fl 50 rfl h2560
       refine nl (wp_region_lit (rn0 2 s rfl fun a s => ?_))
       obtain ⟨k2563, h2562, u⟩ := bt u
       refine sv s (y_assignI rfl h2562) rfl fun a s => ?_
       exact nl ⟨l2558, k2563, c2559, Sv2487, u, wj s d [0] [4, 1, 0]⟩
      exact sk ⟨sv2183.1, sv2183.2.1, c2320, Sv2487, u, wj s d [0] [0, 1, 2]⟩
     rintro a w ⟨sv2527, k2528, c2525, Sv2526, u, s, d⟩
     refine blk_normal (tn (wp_region_lit (rn0 2 s rfl fun a s => ?_)))
     obtain ⟨k2_2530, h2529, u⟩ := bt u
     refine sv s (y_assignI rfl h2529) rfl fun a s => ?_
     exact nl ⟨_, io u, c2525, Sv2526, wj s d [0] [0, 1, 2]⟩
    refine wp_exit (then_exit (then_exit (blk_exit ?_)))
    obtain rfl := oi u
    have h2564 := hd2389 _ rfl
    subst h2564
    exact tn ⟨c2320, Sv2321, wj s d [0] [1, 2]⟩
   rintro a w ⟨c2393, Sv2394, s, d⟩
   refine tn (sn0 2 s rfl fun a s => ?_)
   obtain ⟨l2569, h2565, u⟩ := bt u
   obtain ⟨p2567, k2568, h2566⟩ := row_sub (α := Record) d 0 rfl h2565
   refine sv s (y_slc runUnderlying27 sizeOf35 rfl ⟨_, rfl⟩ (by exact rfl) h2566) rfl fun a s => ?_
   obtain ⟨l2570, h2571, u⟩ := bt u
   have h2576 := d.envAt 1 rfl
   refine w_clear (α := Record) (z0 := E94_0) s d 0 rfl 0 rfl El27 ⟨_, _, _, _, _, _, _, _, _, _, _, _, rfl, rfl, rfl, rfl, rfl, rfl, rfl, rfl, rfl, rfl, rfl, rfl, ⟨none, 0, 0, rfl, nil_sl⟩⟩ h2565 h2566 rfl trivial ?_
   intro c2572 a w s d
   rw [Option.some.inj h2571] at d
   have d := d.addE (e := LenA s1.length l2570) (by have q := len_copy (w := w) (S := S0) (S' := S0) (w' := w) (ys := List.replicate l2569.length E94_0) h2576 h2565; rw [Option.some.inj h2571] at q; exact q)
   have h2573 := (copy_lenS h2565 h2571)
   try have s := s.fl 0 rfl h2573
   try have s := s.fl 59 rfl h2573
   refine nl (sn0 2 s rfl fun a s => ?_)
   obtain ⟨l2579, h2577, u⟩ := bt u
   obtain ⟨d, h2578⟩ := w_cut d 0 rfl 1 rfl h2577
   refine sv s (y_slc runUnderlying27 sizeOf35 rfl (by exact rfl) ⟨_, rfl⟩ h2578) rfl fun a s => ?_
   refine rz0 1 s rfl fun a s => ?_
   obtain rfl := oi u
   have h2580 := hd1635 _ rfl
   subst h2580
   exact wp_ret (blk_ret (then_ret (then_ret (blk_ret (then_ret (rt s rfl (d.ret ⟨(ad b1916), k3, (c2572.take (l2579.length * 12)), rfl, (d.outs [0] (by decide) rfl), (d.envAt 0 rfl)⟩)))))))
  refine wp_skip (blk_normal (tn (wp_region_lit (rn0 2 s rfl fun a s => ?_))))
  obtain ⟨k2583, h2582, u⟩ := bt u
  refine sv s (y_assignI rfl h2582) rfl fun a s => ?_
  exact nl ⟨_, io u, Sv1939, wj s d [0] [0, 1, 2]⟩
 obtain ⟨rv2584, u, h2585⟩ := map_t u
 have h2585 := (hd1635 _ h2585.symm).symm
 subst h2585
 refine wp_exit (then_exit (then_exit (blk_exit (tn (sz0 2 s rfl fun a s => ?_)))))
 obtain rfl := oi u
 exact q1 s rfl (d.ret ⟨p2, k3, c4, rfl, (d.outs [0] (by decide) rfl), (d.envAt 1 rfl)⟩)
theorem slices_Equal_Lint_int_ok {w0 S0 p2 k3 p6 k7 s1_1 s2_5 r} (u : slices_Equal_Lint_int s1_1 s2_5 = some r) (hS : Dm S0 w0) (h4 : (Sq p2 k3 s1_1).p S0 w0) (h8 : (Sq p6 k7 s2_5).p S0 w0) : Ck Tryz.prog 119 #[sl p2 k3 s1_1, sl p6 k7 s2_5] w0 S0 [] made_Light_rd r := by
 refine en 26 func119 rfl hS rfl rfl rfl fun a s d => ?_
 have d := (d.addE h4).addE h8
 refine sz0 1 s rfl fun a s => ?_
 refine wp_seq (sz0 5 s rfl fun a s => ?_)
 refine cd s u rfl (fun u => ?_) fun u => ?_
 ·refine sz0 1 s rfl fun a s => ?_
  obtain rfl := oi u
  exact wp_ret (then_ret (rt s rfl (d.ret rfl)))
 refine sk (wp_seq (sz0 3 s rfl fun a s => ?_))
 refine wp_block (wp_while (fun sv103 a w => ∃ Sv163, Sl 26 [(0, sl p2 k3 s1_1), (1, sl p6 k7 s2_5), (12, iv (s1_1.length : Int)), (13, iv sv103)] a ∧ Wd ⟨w0, S0, []⟩ Sv163 [] [Sq p2 k3 s1_1, Sq p6 k7 s2_5] w) 0 u ⟨S0, wj s d [] [1, 0]⟩ ?_)
 repeat clear u
 rintro sv103 a w tv194 ⟨Sv163, s, d⟩ u hd193
 refine sz0 1 s rfl fun a s => ?_
 refine wp_seq (cd s u rfl (fun u => ?_) fun u => ?_)
 ·refine sk (wp_seq (wp_block (sz0 2 s rfl fun a s => ?_)))
  refine wp_seq ?_
  obtain ⟨x229, h227, u⟩ := bt u
  obtain ⟨b235, o236, q233, c234, h237, h230, h231, h232, h228⟩ := d.elemV 0 rfl h227
  have hsv238 := s
  have hwv239 := d
  subst h237
  have s := hsv238
  have d := hwv239
  obtain ⟨_, rfl, rfl⟩ := h228
  have d := d.addE h232
  obtain ⟨x242, h240, u⟩ := bt u
  obtain ⟨b248, o249, q246, c247, h250, h243, h244, h245, h241⟩ := d.elemV 2 rfl h240
  have hsv251 := s
  have hwv252 := d
  subst h250
  have s := hsv251
  have d := hwv252
  obtain ⟨_, rfl, rfl⟩ := h241
  have d := d.addE h245
  refine wp_only (fun a w => ∃ Sv253, Sl 26 [(0, sl (some ⟨b235, o236, none⟩) k3 s1_1), (1, sl (some ⟨b248, o249, none⟩) k7 s2_5), (12, iv (s1_1.length : Int)), (13, iv sv103), (24, .bool (x229 != x242))] a ∧ Wd ⟨w0, S0, []⟩ Sv253 [] [Sq (some ⟨b235, o236, none⟩) k3 s1_1, Sq (some ⟨b248, o249, none⟩) k7 s2_5] w) ?_ ?_
  ·refine h_c [] [0, 1] d rfl rfl (by kernel_rfl) rfl fun hC d => ?_
   refine gn 2 [0, 1] [] s hC rfl rfl rfl fun a s => ?_
   refine gx s 2 rfl trivial rfl hC runUnderlying22 sizeOf3 rfl rfl h230 h231 fun a s => ?_
   refine gv s 3 rfl rfl hC (fun w hC => y_loadE1 (j := 0) (hC.ceAt 1 rfl) rfl isAgg3 rfl) fun a s => ?_
   refine gn 2 [4, 5] [] s hC rfl rfl rfl fun a s => ?_
   refine gx s 6 rfl trivial rfl hC runUnderlying22 sizeOf3 rfl rfl h243 h244 fun a s => ?_
   refine gv s 7 rfl rfl hC (fun w hC => y_loadE1 (j := 0) (hC.ceAt 0 rfl) rfl isAgg3 rfl) fun a s => ?_
   refine gv s 8 rfl rfl hC (fun w hC => y_neq rfl rfl) fun a s => ?_
   refine h_done (by kernel_rfl) ?_
   exact ⟨Sv163, wj s d [] [2, 3]⟩
  rintro a w ⟨Sv253, s, d⟩
  refine tn (cd s u rfl (fun u => ?_) fun u => ?_)
  ·refine sz0 1 s rfl fun a s => ?_
   obtain rfl := oi u
   have h256 := hd193 _ rfl
   subst h256
   exact wp_ret (blk_ret (then_ret (then_ret (blk_ret (then_ret (rt s rfl (d.ret rfl)))))))
  refine wp_skip (blk_normal (tn (wp_region_lit (rz0 2 s rfl fun a s => ?_))))
  exact ⟨_, io u, Sv253, wj s d [] [0, 1]⟩
 obtain ⟨rv257, u, h258⟩ := map_t u
 have h258 := (hd193 _ h258.symm).symm
 subst h258
 refine wp_exit (then_exit (then_exit (blk_exit (tn (sz0 1 s rfl fun a s => ?_)))))
 obtain rfl := oi u
 exact q1 s rfl (d.ret rfl)
theorem record_Same_ok {w0 S0 p2 k3 p6 k7 a1 b5 r} (u : record_Same a1 b5 = some r) (hS : Dm S0 w0) (h4 : (Sq p2 k3 a1.Samples).p S0 w0) (h8 : (Sq p6 k7 b5.Samples).p S0 w0) : Ck Tryz.prog 95 #[V35 a1 p2 k3, V35 b5 p6 k7] w0 S0 [] made_Light_rd r := by
 refine en 59 func95 rfl hS rfl rfl rfl fun a s d => ?_
 have d := (d.addE h4).addE h8
 refine sr (wb (C35 a1 p2 k3) s d rfl fun b9 a w s d => ?_)
 refine wb (C35 b5 p6 k7) s d rfl fun b10 a w s d => ?_
 refine rz0 1 s rfl fun a s => ?_
 refine sn 4 [1, 0] s d rfl rfl fun a s => ?_
 refine sv s (y_eqlA (by kernel_rfl) rfl rfl (eqv_struct runUnderlying31 (by kernel_rfl) (EqF.cons1 rfl isAgg9 rfl rfl (eqv_str runUnderlying9) (EqF.cons1 rfl isAgg9 rfl rfl (eqv_str runUnderlying9) (EqF.cons1 rfl isAgg9 rfl rfl (eqv_str runUnderlying9) (EqF.cons1 rfl isAgg9 rfl rfl (eqv_str runUnderlying9) EqF.nil)))))) rfl fun a s => ?_
 refine mv s rfl rfl fun a s => ?_
 refine rA 6 10 [1, 0] s d rfl rfl rfl rfl rfl fun a s => ?_
 refine mv s rfl rfl fun a s => ?_
 refine rA 6 17 [1, 0] s d rfl rfl rfl rfl rfl fun a s => ?_
 refine mv s rfl rfl fun a s => ?_
 refine wpl_join 6 (fun a w1 => w = w1 ∧ Sl 59 [(2, pt b9), (3, pt b10), (30, .bool (((((a1.Source.Network == b5.Source.Network) && ((a1.Source.Station == b5.Source.Station) && ((a1.Source.Location == b5.Source.Location) && ((a1.Source.Channel == b5.Source.Channel) && true)))) && (a1.Start == b5.Start)) && (a1.First == b5.First)) && ((a1.Rate.Num == b5.Rate.Num) && ((a1.Rate.Den == b5.Rate.Den) && true))))] a) ?_ ?_
 ·rcases Bool.eq_false_or_eq_true ((((a1.Source.Network == b5.Source.Network) && ((a1.Source.Station == b5.Source.Station) && ((a1.Source.Location == b5.Source.Location) && ((a1.Source.Channel == b5.Source.Channel) && true)))) && (a1.Start == b5.Start)) && (a1.First == b5.First)) with h13 | h13
  ·have s := s.bT 24 rfl h13
   refine rn 4 [1, 0] s d rfl rfl fun a s => ?_
   refine st_val s (y_eqlA (by kernel_rfl) rfl rfl (eqv_struct runUnderlying33 (by kernel_rfl) (EqF.cons1 rfl isAgg3 rfl rfl (eqv_int runUnderlying3) (EqF.cons1 rfl isAgg3 rfl rfl (eqv_int runUnderlying3) EqF.nil)))) ⟨_, rfl, rfl⟩ rfl rfl fun a s => ?_
   refine rz0 1 s rfl fun a s => ?_
   exact ⟨rfl, (s.fix 30 (.bool (((((a1.Source.Network == b5.Source.Network) && ((a1.Source.Station == b5.Source.Station) && ((a1.Source.Location == b5.Source.Location) && ((a1.Source.Channel == b5.Source.Channel) && true)))) && (a1.Start == b5.Start)) && (a1.First == b5.First)) && ((a1.Rate.Num == b5.Rate.Num) && ((a1.Rate.Den == b5.Rate.Den) && true)))) rfl (and_t h13)).weaken _ ⟨rfl, rfl, rfl, trivial⟩⟩
  have s := s.bF 24 rfl h13
  refine rz0 6 s rfl fun a s => ?_
  exact ⟨rfl, (s.fix 30 (.bool (((((a1.Source.Network == b5.Source.Network) && ((a1.Source.Station == b5.Source.Station) && ((a1.Source.Location == b5.Source.Location) && ((a1.Source.Channel == b5.Source.Channel) && true)))) && (a1.Start == b5.Start)) && (a1.First == b5.First)) && ((a1.Rate.Num == b5.Rate.Num) && ((a1.Rate.Den == b5.Rate.Den) && true)))) rfl (and_f h13)).weaken _ ⟨rfl, rfl, rfl, trivial⟩⟩
 rintro a w1 ⟨h34, s⟩
 subst h34
 refine mv s rfl rfl fun a s => ?_
 refine rA 6 31 [1, 0] s d rfl rfl rfl rfl rfl fun a s => ?_
 refine mv s rfl rfl fun a s => ?_
 refine rA 6 38 [1, 0] s d rfl rfl rfl rfl rfl fun a s => ?_
 refine mv s rfl rfl fun a s => ?_
 refine rA 6 45 [1, 0] s d rfl rfl rfl rfl rfl fun a s => ?_
 refine mv s rfl rfl fun a s => ?_
 obtain ⟨c25, hc25, u⟩ := bt u
 refine wpl_join 6 (fun a w => ∃ Sv26, Sl 59 [(58, .bool c25)] a ∧ Wd ⟨w0, S0, []⟩ Sv26 [] [] w) ?_ ?_
 ·rcases Bool.eq_false_or_eq_true ((((((((a1.Source.Network == b5.Source.Network) && ((a1.Source.Station == b5.Source.Station) && ((a1.Source.Location == b5.Source.Location) && ((a1.Source.Channel == b5.Source.Channel) && true)))) && (a1.Start == b5.Start)) && (a1.First == b5.First)) && ((a1.Rate.Num == b5.Rate.Num) && ((a1.Rate.Den == b5.Rate.Den) && true))) && (a1.Error == b5.Error)) && (a1.Run == b5.Run)) && (a1.Seq == b5.Seq)) with h24 | h24
  ·have s := s.bT 52 rfl h24
   have u := ite_t hc25 h24
   refine rn 4 [1, 0] s d rfl rfl fun a s => ?_
   obtain ⟨rv28, h27, u⟩ := bt u
   refine st_callR s (slices_Equal_Lint_int_ok h27 d.bdom (d.bE 1 rfl) (d.bE 0 rfl)) (do_call call119 rfl) ⟨_, rfl, rfl⟩ rfl rfl ?_
   rintro v32 Sv29 w a h30 rfl s
   have d := d.callB h30
   refine sv s (y_pickT rfl rfl) rfl fun a s => ?_
   refine wpList_nil ?_
   obtain rfl := oi u
   exact tn ⟨S0, wj s d [] []⟩
  have s := s.bF 52 rfl h24
  have u := ite_f hc25 h24
  refine rn0 6 s rfl fun a s => ?_
  refine wpList_nil ?_
  obtain rfl := oi u
  exact tn ⟨S0, wj s d [] []⟩
 rintro a w ⟨Sv26, s, d⟩
 refine rz0 1 s rfl fun a s => ?_
 obtain rfl := oi u
 exact q1 s rfl (d.ret rfl)
theorem record_Same_fn (S0 : Nat → Prop) (w0 : World) : (FnA2 Tryz.prog 95 [] [] record_Same).p S0 w0 := by
  refine ⟨call95, ?_⟩
  rintro S1 w1 hk hS c0 c1 x0 x1 r1 ⟨_, _, _, _, _, _, _, _, _, _, _, _, rfl, rfl, rfl, rfl, rfl, rfl, rfl, rfl, rfl, rfl, rfl, rfl, ⟨_, _, _, rfl, e0⟩⟩ h1 hf
  obtain ⟨_, _, _, _, _, _, _, _, _, _, _, _, rfl, rfl, rfl, rfl, rfl, rfl, rfl, rfl, rfl, rfl, rfl, rfl, ⟨_, _, _, rfl, e1⟩⟩ := h1
  obtain rfl := e0.1
  obtain rfl := e1.1
  exact record_Same_ok hf hS e0 e1 
theorem compose_order_ok {w0 S0 p2 k3 l1 r} (u : compose_order l1 = some r) (hS : Dm S0 w0) (h4 : (Sq p2 k3 l1).p S0 w0) : Ck Tryz.prog 62 #[sl p2 k3 l1] w0 S0 [] law15_two_rd r := by
 refine en 27 func62 rfl hS rfl rfl rfl fun a s d => ?_
 have d := d.addE h4
 refine sz0 1 s rfl fun a s => ?_
 refine sn0 1 s rfl fun a s => ?_
 obtain ⟨rv6, h5, u⟩ := bt u
 refine cR s (slices_Clone_Lapi_Record_api_Record_ok h5 d.dom (d.envAt 0 rfl)) (do_call call92 rfl) rfl ?_
 rintro v14 Sv11 w a h12 ⟨p7, k8, c10, rfl, h15, h9⟩ s
 have d := (d.callN h12 h15).addE (e := RowA c10 rv6) h9
 refine rz0 1 s rfl fun a s => ?_
 refine wp_seq (sz0 3 s rfl fun a s => ?_)
 obtain ⟨e169, h292, u⟩ := bt u
 refine wp_join (fun a w => ∃ c170 p171 k172 Sv173, Sl 27 [(3, sl p171 k172 e169)] a ∧ Wd ⟨w0, S0, []⟩ Sv173 [.row p171 e169.length k172 c170 35 12] [RowA c170 e169] w) ?_ ?_
 ·refine wp_block (wp_while (fun sv16 a w => ∃ c115 p116 k117 Sv118, Sl 27 [(3, sl p116 k117 sv16.1), (8, iv (rv6.length : Int)), (9, iv sv16.2)] a ∧ Wd ⟨w0, S0, []⟩ Sv118 [.row p116 sv16.1.length k117 c115 35 12] [RowA c115 sv16.1] w) (rv6, 0) h292 ⟨c10, p7, k8, Sv11, wj s d [0] [0]⟩ ?_)
  clear h292
  repeat clear u
  rintro sv16 a w tv167 ⟨c115, p116, k117, Sv118, s, d⟩ u hd166
  refine sz0 1 s rfl fun a s => ?_
  refine wp_seq (cd s u rfl (fun u => ?_) fun u => ?_)
  ·refine sk (wp_seq (wp_block (sz0 2 s rfl fun a s => ?_)))
   refine wp_region_lit (rn0 4 s rfl fun a s => ?_)
   obtain ⟨x224, h222, u⟩ := bt u
   obtain ⟨b231, q228, c229, h232, h225, h226, h230, h223⟩ := d.elemRV (α := Record) 0 rfl 0 rfl h222
   have hsv233 := s
   have hwv234 := d
   subst h232
   have s := hsv233
   have d := hwv234
   obtain ⟨_, _, _, _, _, _, _, _, _, _, _, _, rfl, rfl, rfl, rfl, rfl, rfl, rfl, rfl, rfl, rfl, rfl, rfl, ⟨p235, n236, k237, rfl, h238⟩⟩ := h223
   obtain rfl := h238.1
   have d := d.addE (e := SlA p235 _ k237 x224.Samples) h238
   refine sv s (y_indexAt runUnderlying27 sizeOf35 rfl rfl h225.1 h225.2 h226) rfl fun a s => ?_
   refine sv s (y_fieldAddr (o' := q228 + 11) runUnderlying35 rfl sizeOf22 rfl rfl rfl) rfl fun a s => ?_
   refine sv s (y_loadQ1 (j := 11) (d.ownAt 0 rfl) rfl isAgg22 h230 rfl) rfl fun a s => ?_
   obtain ⟨rv240, h239, u⟩ := bt u
   refine cR s (slices_Clone_Lint_int_ok h239 d.dom (d.envAt 0 rfl)) (do_call call93 rfl) rfl ?_
   rintro v248 Sv245 w a h246 ⟨p241, k242, c244, rfl, h249, h243⟩ s
   have d := (d.callN h246 h249).addE (e := RowA c244 rv240) h243
   obtain ⟨x252, h250, u⟩ := bt u
   obtain ⟨q256, c257, h253, h254, h258, h251⟩ := d.elemRK (α := Record) 1 rfl 2 rfl h250
   obtain ⟨_, _, _, _, _, _, _, _, _, _, _, _, rfl, rfl, rfl, rfl, rfl, rfl, rfl, rfl, rfl, rfl, rfl, rfl, ⟨p259, n260, k261, rfl, h262⟩⟩ := h251
   obtain rfl := h262.1
   have d := d.addE (e := SlA p259 _ k261 x252.Samples) h262
   refine sv s (y_indexAt runUnderlying27 sizeOf35 rfl rfl h253.1 h253.2 h254) rfl fun a s => ?_
   refine sv s (y_fieldAddr (o' := q256 + 11) runUnderlying35 rfl sizeOf22 rfl rfl rfl) rfl fun a s => ?_
   obtain ⟨l264, h263, u⟩ := bt u
   obtain ⟨Sv267, d⟩ := w_share (α := Int) d 0 rfl 1 rfl
   refine w_storeR (α := Record) (f := 11) (m := 1) s d 0 rfl 4 rfl h254 rfl rfl sizeOf22 rfl rfl rfl h263 (fun es he => by rw [h258] at he; subst he; exact ⟨_, _, _, _, _, _, _, _, _, _, _, _, rfl, rfl, rfl, rfl, rfl, rfl, rfl, rfl, rfl, rfl, rfl, rfl, ⟨_, _, _, rfl, d.envAt 0 rfl⟩⟩) trivial ?_
   intro c265 a w s d
   have h266 := setM_len h263
   try have s := s.fl 3 rfl h266
   try have s := s.fl 12 rfl h266
   try have s := s.fl 14 rfl h266
   refine wpList_nil ?_
   refine blk_normal (tn (wp_region_lit (rz0 2 s rfl fun a s => ?_)))
   exact ⟨_, io u, c265, (ad b231), k117, Sv267, wj s d [0] [0]⟩
  refine wp_exit (then_exit (then_exit (blk_exit ?_)))
  obtain rfl := oi u
  have h268 := hd166 _ rfl
  subst h268
  exact tn ⟨c115, p116, k117, Sv118, wj s d [0] [0]⟩
 rintro a w ⟨c170, p171, k172, Sv173, s, d⟩
 refine tn (sn0 1 s rfl fun a s => ?_)
 obtain ⟨rv270, h269, u⟩ := bt u
 refine cR s (slices_SortFunc_Lapi_Record_api_Record_ok h269 d.dom (d.ins [0] (by decide) rfl) (d.envAt 0 rfl) (record_Compare_fn _ _)) (do_call call74 rfl) rfl ?_
 rintro v277 Sv274 w a h275 ⟨c271, rfl, h278, h272, h273⟩ s
 have d := (d.callO [0] [] (by decide) rfl h275 h278).addE (e := RowA c271 rv270) h272
 have h279 := h273
 have h280 := Eq.symm h279
 try have s := s.fl 3 rfl h280
 try have s := s.fl 23 rfl h280
 refine nl (sn0 1 s rfl fun a s => ?_)
 obtain ⟨rv282, h281, u⟩ := bt u
 refine cR s (slices_CompactFunc_Lapi_Record_api_Record_ok h281 d.dom (d.ins [0] (by decide) rfl) (d.envAt 0 rfl) (record_Same_fn _ _)) (do_call call94 rfl) rfl ?_
 rintro v290 Sv287 w a h288 ⟨p283, k284, c286, rfl, h291, h285⟩ s
 have d := (d.callO [0] [] (by decide) rfl h288 h291).addE (e := RowA c286 rv282) h285
 refine rz0 1 s rfl fun a s => ?_
 obtain rfl := oi u
 exact q1 s rfl (d.ret ⟨p283, k284, c286, rfl, (d.outs [0] (by decide) rfl), (d.envAt 0 rfl)⟩)
theorem record_Better_ok {w0 S0 p2 k3 p6 k7 a1 b5 r} (u : record_Better a1 b5 = some r) (hS : Dm S0 w0) (h4 : (Sq p2 k3 a1.Samples).p S0 w0) (h8 : (Sq p6 k7 b5.Samples).p S0 w0) : Ck Tryz.prog 71 #[V35 a1 p2 k3, V35 b5 p6 k7] w0 S0 [] made_Light_rd r := by
 refine en 26 func71 rfl hS rfl rfl rfl fun a s d => ?_
 have d := (d.addE h4).addE h8
 refine sr (wb (C35 a1 p2 k3) s d rfl fun b9 a w s d => ?_)
 refine wb (C35 b5 p6 k7) s d rfl fun b10 a w s d => ?_
 refine rz0 1 s rfl fun a s => ?_
 refine wp_seq ?_
 obtain ⟨rv12, h11, u⟩ := bt u
 obtain ⟨rv14, h13, u⟩ := bt u
 obtain ⟨rv16, h15, u⟩ := bt u
 obtain ⟨rv18, h17, u⟩ := bt u
 obtain ⟨rv22, h21, u⟩ := bt u
 refine wp_only (fun a w => ∃ Sv23, Sl 26 [(4, .bool (decide (rv22 < 0)))] a ∧ Wd ⟨w0, S0, []⟩ Sv23 [] [] w) ?_ ?_
 ·refine h_c [0, 1] [] d rfl rfl (by kernel_rfl) rfl fun hC d => ?_
  refine gn 14 [0, 1, 2, 3, 5, 6, 7, 8, 10, 11, 12, 13, 15, 16] [1, 0, 0, 1, 0, 1, 1, 0] s hC rfl rfl rfl fun a s => ?_
  refine ho 4 rfl ?_
  refine cV s d (cmp_Compare_int_ok h11 d.bdom) (do_call call88 rfl) rfl fun a w s d => ?_
  refine h_n [0, 1] [] d rfl rfl fun hC => ?_
  refine ho 9 rfl ?_
  refine cV s d (cmp_Compare_int_ok h13 d.bdom) (do_call call88 rfl) rfl fun a w s d => ?_
  refine h_n [0, 1] [] d rfl rfl fun hC => ?_
  refine ho 14 rfl ?_
  refine cV s d (cmp_Compare_int_ok h15 d.bdom) (do_call call88 rfl) rfl fun a w s d => ?_
  refine h_n [0, 1] [] d rfl rfl fun hC => ?_
  refine ho 17 rfl ?_
  refine cV s d (record_Compare_ok h17 d.bdom (d.bE 1 rfl) (d.bE 0 rfl)) (do_call call75 rfl) rfl fun a w s d => ?_
  refine h_n [0, 1] [] d rfl rfl fun hC => ?_
  refine ho 18 rfl ?_
  refine w_litSlice (α := Int) (vs := [iv rv12, iv rv14, iv rv16, iv rv18]) (cs := [iv rv12, iv rv14, iv rv16, iv rv18]) (xs := ([rv12, rv14, rv16, rv18] : List Int)) s d El22 rfl rfl rfl rfl rfl rfl ⟨⟨_, rfl, rfl⟩, ⟨⟨_, rfl, rfl⟩, ⟨⟨_, rfl, rfl⟩, ⟨⟨_, rfl, rfl⟩, rfl⟩⟩⟩⟩ rfl trivial rfl fun b20 a w s d => ?_
  refine h_n [1, 2] [] d rfl rfl fun hC => ?_
  refine h_d [1, 2, 0] [] [0, 1] [] d rfl rfl rfl rfl fun hC => ?_
  refine ho 19 rfl ?_
  refine cV s d (cmp_Or_int_ok h21 d.bdom (d.bRow 0 rfl 0 rfl)) (do_call call99 rfl) rfl fun a w s d => ?_
  refine h_n [1, 2, 0] [] d rfl rfl fun hC => ?_
  refine gn 2 [20, 21] [] s hC rfl rfl rfl fun a s => ?_
  refine h_done (by kernel_rfl) ?_
  exact ⟨S0, wj s d [] []⟩
 rintro a w ⟨Sv23, s, d⟩
 refine tn ?_
 obtain rfl := oi u
 exact q1 s rfl (d.ret rfl)
theorem compose_at_ok {w0 S0 p2 k3 r1 i5 r} (u : compose_at r1 i5 = some r) (hS : Dm S0 w0) (h4 : (Sq p2 k3 r1.Samples).p S0 w0) : Ck Tryz.prog 56 #[V35 r1 p2 k3, iv i5] w0 S0 [] slices_IndexFunc_Lapi_Record_api_Record_rd r := by
 refine en 20 func56 rfl hS rfl rfl rfl fun a s d => ?_
 have d := d.addE h4
 refine sr (wb (C35 r1 p2 k3) s d rfl fun b6 a w s d => ?_)
 refine rz0 1 s rfl fun a s => ?_
 refine sn 8 [0, 0, 0] s d rfl rfl fun a s => ?_
 obtain ⟨rv8, h7, u⟩ := bt u
 refine cV s d (rate_Time_ok h7 d.bdom) (do_call call81 rfl) rfl fun a w s d => ?_
 refine rz0 5 s rfl fun a s => ?_
 refine sz0 2 s rfl fun a s => ?_
 obtain rfl := oi u
 exact q1 s rfl (d.ret rfl)
abbrev compose_extent_rd (w0 : World) (X : List Nat) (r : Span) : Rd := fun S w v => v = V45 r
theorem compose_extent_ok {w0 S0 p2 k3 r1 r} (u : compose_extent r1 = some r) (hS : Dm S0 w0) (h4 : (Sq p2 k3 r1.Samples).p S0 w0) : Ck Tryz.prog 59 #[V35 r1 p2 k3] w0 S0 [] compose_extent_rd r := by
 refine en 11 func59 rfl hS rfl rfl rfl fun a s d => ?_
 have d := d.addE h4
 refine sr (wb (C35 r1 p2 k3) s d rfl fun b5 a w s d => ?_)
 refine wa [iv 0, iv 0] s d zeroValue45 fun b6 a w s d => ?_
 refine nl (wp_seq ?_)
 obtain ⟨rv8, h7, u⟩ := bt u
 obtain ⟨rv10, h9, u⟩ := bt u
 refine wp_only (fun a w => ∃ Sv11, Sl 11 [(2, pt b6)] a ∧ Wd ⟨w0, S0, []⟩ Sv11 [.box b6 [iv rv8, iv rv10] 45] [] w) ?_ ?_
 ·refine h_c [1] [] d rfl rfl (by kernel_rfl) rfl fun hC d => ?_
  refine gn 5 [0, 2, 3, 4, 5] [0, 0, 0] s hC rfl rfl rfl fun a s => ?_
  refine ho 1 rfl ?_
  refine cV s d (compose_at_ok h7 d.bdom (d.bE 0 rfl)) (do_call call56 rfl) rfl fun a w s d => ?_
  refine h_n [1] [] d rfl rfl fun hC => ?_
  refine ho 6 rfl ?_
  refine cV s d (compose_at_ok h9 d.bdom (d.bE 0 rfl)) (do_call call56 rfl) rfl fun a w s d => ?_
  refine h_n [1] [] d rfl rfl fun hC => ?_
  refine gv s 7 rfl rfl hC (fun w hC => y_build (vs := [(0, iv rv8), (1, iv rv10)]) Bld45 rfl rfl) fun a s => ?_
  refine ho 8 rfl ?_
  refine ws [iv rv8, iv rv10] s d 0 rfl rfl rfl sizeOf45 fun a w s d => ?_
  refine h_n [1] [] d rfl rfl fun hC => ?_
  refine h_done (by kernel_rfl) ?_
  exact ⟨S0, wj s d [0] []⟩
 rintro a w ⟨Sv11, s, d⟩
 refine tn ?_
 obtain rfl := oi u
 exact wp_ret (ret1 s rfl (rv_cell d 0 rfl rfl isAgg45 sizeOf45 rfl) (d.ret rfl))
abbrev slices_Clone_Lapi_Span_api_Span_rd (w0 : World) (X : List Nat) (r : (List Span)) : Rd := fun S w v => ∃ p0_0 k0_0 c0_0, v = sl p0_0 k0_0 r ∧ Outs X w0 S w [.row p0_0 r.length k0_0 c0_0 45 2] ∧ (RowA c0_0 r).p S w
theorem slices_Clone_Lapi_Span_api_Span_ok {w0 S0 p2 k3 s1 r} (u : slices_Clone_Lapi_Span_api_Span s1 = some r) (hS : Dm S0 w0) (h4 : (Sq p2 k3 s1).p S0 w0) : Ck Tryz.prog 83 #[sl p2 k3 s1] w0 S0 [] slices_Clone_Lapi_Span_api_Span_rd r := by
 refine en 8 func83 rfl hS rfl rfl rfl fun a s d => ?_
 have d := d.addE h4
 delta slices_Clone_Lapi_Span_api_Span at u
 refine sz0 1 s rfl fun a s => ?_
 refine wp_seq (sn0 1 s rfl fun a s => ?_)
 refine sv s (y_eqlN runUnderlying52 rfl rfl) rfl fun a s => ?_
 refine nl ?_
 have hsv15 := s
 have hwv16 := d
 rcases p2 with _ | av8
 ·have s := hsv15
  have d := hwv16
  obtain rfl := slnil (d.envAt 0 rfl)
  have u : some ([] : List Span) = some r := by simpa [appM, maxLen] using u
  refine wp_cond_true (s.ev rfl) ?_
  refine sz0 1 s rfl fun a s => ?_
  obtain rfl := oi u
  have d := d.nilRow Span 45
  exact wp_ret (then_ret (rt s rfl (d.ret ⟨none, 0, [], rfl, (d.outs [0] (by decide) rfl), (d.envAt 0 rfl)⟩)))
 have s := hsv15
 have d := hwv16
 refine wp_cond_false (s.ev rfl) ?_
 refine sk (sr (w_buildSlice (α := Span) (vs := []) (cs := []) (xs := ([] : List Span)) s d El52 rfl rfl rfl rfl rfl rfl rfl rfl trivial fun p9 a w s d => ?_))
 refine mv s rfl rfl fun a s => ?_
 obtain ⟨l11, h10, u⟩ := bt u
 refine w_appendE (α := Span) s d El52 0 rfl rfl rfl 0 rfl 1 rfl h10 rfl trivial ?_
 intro p12 k13 c14 a w s d
 refine rz0 1 s rfl fun a s => ?_
 obtain rfl := oi u
 exact q1 s rfl (d.ret ⟨p12, k13, c14, rfl, (d.outs [0] (by decide) rfl), (d.envAt 0 rfl)⟩)
theorem slices_IndexFunc_Lapi_Span_api_Span_ok {w0 S0 p2 k3 g6 f7 cp8 s1} {f5 : Span → Option Bool} {r} (u : slices_IndexFunc_Lapi_Span_api_Span s1 f5 = some r) (hS : Dm S0 w0) (h4 : (Sq p2 k3 s1).p S0 w0) (h9 : (FnA1 Tryz.prog g6 f7 cp8 f5).p S0 w0) : Ck Tryz.prog 111 #[sl p2 k3 s1, .func (.func g6) f7.toArray cp8.toArray] w0 S0 [] slices_IndexFunc_Lapi_Record_api_Record_rd r := by
 refine en 19 func111 rfl hS rfl rfl rfl fun a s d => ?_
 have d := (d.addE h4).addE h9
 refine sz0 1 s rfl fun a s => ?_
 refine wp_seq (sz0 3 s rfl fun a s => ?_)
 refine wp_block (wp_while (fun sv78 a w => ∃ Sv122, Sl 19 [(0, sl p2 k3 s1), (1, .func (.func g6) f7.toArray cp8.toArray), (7, iv (s1.length : Int)), (8, iv sv78)] a ∧ Wd ⟨w0, S0, []⟩ Sv122 [] [Sq p2 k3 s1, FnA1 Tryz.prog g6 f7 cp8 f5] w) 0 u ⟨S0, wj s d [] [1, 0]⟩ ?_)
 repeat clear u
 rintro sv78 a w tv145 ⟨Sv122, s, d⟩ u hd144
 refine sz0 1 s rfl fun a s => ?_
 refine wp_seq (cd s u rfl (fun u => ?_) fun u => ?_)
 ·refine sk (wp_seq (wp_block (sz0 2 s rfl fun a s => ?_)))
  refine sn0 3 s rfl fun a s => ?_
  obtain ⟨x172, h170, u⟩ := bt u
  obtain ⟨b178, o179, q176, c177, h180, h173, h174, h175, h171⟩ := d.elemV 0 rfl h170
  have hsv181 := s
  have hwv182 := d
  subst h180
  have s := hsv181
  have d := hwv182
  obtain ⟨_, _, rfl, rfl, rfl⟩ := h171
  have d := d.addE h175
  refine sv s (y_indexAt runUnderlying52 sizeOf45 rfl rfl h173.1 h173.2 h174) rfl fun a s => ?_
  refine sv s (y_loadEA (j := 0) (d.ceAt 0 rfl) rfl isAgg45 sizeOf45 rfl rfl) rfl fun a s => ?_
  obtain ⟨rv184, h183, u⟩ := bt u
  refine st_callR s ((d.bE 2 rfl).2 Keep.rfl' d.bdom ⟨_, _, rfl, rfl, rfl⟩ h183) (do_callF (d.bE 2 rfl).1 rfl rfl) trivial rfl rfl ?_
  rintro v188 Sv185 w a h186 rfl s
  have d := d.callB h186
  refine nl (cd s u rfl (fun u => ?_) fun u => ?_)
  ·refine sz0 2 s rfl fun a s => ?_
   obtain rfl := oi u
   have h191 := hd144 _ rfl
   subst h191
   exact wp_ret (blk_ret (then_ret (then_ret (blk_ret (then_ret (rt s rfl (d.ret rfl)))))))
  refine wp_skip (blk_normal (tn (wp_region_lit (rz0 2 s rfl fun a s => ?_))))
  exact ⟨_, io u, Sv122, wj s d [] [1, 2]⟩
 obtain ⟨rv192, u, h193⟩ := map_t u
 have h193 := (hd144 _ h193.symm).symm
 subst h193
 refine wp_exit (then_exit (then_exit (blk_exit (tn (sz0 1 s rfl fun a s => ?_)))))
 obtain rfl := oi u
 exact q1 s rfl (d.ret rfl)
theorem slices_DeleteFunc_Lapi_Span_api_Span_ok {w0 S0 p2 k3 c4 g7 f8 cp9 s1} {del6 : Span → Option Bool} {r} (u : slices_DeleteFunc_Lapi_Span_api_Span s1 del6 = some r) (hS : Dm S0 w0) (hin : Ins S0 w0 [.row p2 s1.length k3 c4 45 2]) (h5 : (RowA c4 s1).p S0 w0) (h10 : (FnA1 Tryz.prog g7 f8 cp9 del6).p S0 w0) : Ck Tryz.prog 82 #[sl p2 k3 s1, .func (.func g7) f8.toArray cp9.toArray] w0 S0 (blks [.row p2 s1.length k3 c4 45 2]) slices_Clone_Lapi_Span_api_Span_rd r := by
 refine enI 42 func82 rfl hS hin rfl rfl rfl fun a s d => ?_
 have d := ((d.addE h5).addE (e := LenA s1.length s1) len_rfl).addE h10
 refine sz0 1 s rfl fun a s => ?_
 refine sn0 2 s rfl fun a s => ?_
 obtain ⟨rv12, h11, u⟩ := bt u
 refine cV s d (slices_IndexFunc_Lapi_Span_api_Span_ok h11 d.bdom (d.bRow 0 rfl 2 rfl) (d.bE 0 rfl)) (do_call call111 rfl) rfl fun a w s d => ?_
 refine rz0 1 s rfl fun a s => ?_
 refine wp_seq (sz0 2 s rfl fun a s => ?_)
 refine cd s u rfl (fun u => ?_) fun u => ?_
 ·refine sz0 2 s rfl fun a s => ?_
  obtain rfl := oi u
  exact wp_ret (then_ret (rt s rfl (d.ret ⟨p2, k3, c4, rfl, (d.outs [0] (by decide) rfl), (d.envAt 2 rfl)⟩)))
 refine sk (wp_seq (sn0 2 s rfl fun a s => ?_))
 obtain ⟨j21, h20, u⟩ := bt u
 refine sv s (y_assignI rfl h20) rfl fun a s => ?_
 refine nl ?_
 obtain ⟨e162, h284, u⟩ := bt u
 refine wp_join (fun a w => ∃ c163 Sv164, Sl 42 [(0, sl p2 k3 e162.1), (5, iv e162.2)] a ∧ Wd ⟨w0, S0, blks [.row p2 s1.length k3 c4 45 2]⟩ Sv164 [.row p2 e162.1.length k3 c163 45 2] [RowA c163 e162.1, LenA s1.length e162.1] w) ?_ ?_
 ·refine wp_block (wp_while (fun sv22 a w => ∃ c113 Sv114, Sl 42 [(0, sl p2 k3 sv22.1), (1, .func (.func g7) f8.toArray cp9.toArray), (5, iv sv22.2.1), (6, iv sv22.2.2)] a ∧ Wd ⟨w0, S0, blks [.row p2 s1.length k3 c4 45 2]⟩ Sv114 [.row p2 sv22.1.length k3 c113 45 2] [FnA1 Tryz.prog g7 f8 cp9 del6, RowA c113 sv22.1, LenA s1.length sv22.1] w) (s1, rv12, j21) h284 ⟨c4, S0, wj s d [0] [0, 2, 1]⟩ ?_)
  clear h284
  repeat clear u
  rintro sv22 a w tv160 ⟨c113, Sv114, s, d⟩ u hd159
  refine wp_seq (sz0 4 s rfl fun a s => ?_)
  refine cd s u rfl (fun u => ?_) fun u => ?_
  ·refine sk (wp_seq (wp_block (sn0 2 s rfl fun a s => ?_)))
   obtain ⟨x210, h208, u⟩ := bt u
   obtain ⟨b217, q214, c215, h218, h211, h212, h216, h209⟩ := d.elemRV (α := Span) 0 rfl 1 rfl h208
   have hsv219 := s
   have hwv220 := d
   subst h218
   have s := hsv219
   have d := hwv220
   obtain ⟨_, _, rfl, rfl, rfl⟩ := h209
   refine sv s (y_indexAt runUnderlying52 sizeOf45 rfl rfl h211.1 h211.2 h212) rfl fun a s => ?_
   refine sv s (y_loadQA (j := 0) (d.ownAt 0 rfl) rfl isAgg45 sizeOf45 h216 rfl rfl) rfl fun a s => ?_
   refine wa [iv 0, iv 0] s d zeroValue45 fun b221 a w s d => ?_
   refine ws (C45 x210) s d 0 rfl rfl rfl sizeOf45 fun a w s d => ?_
   refine nl (sn 2 [0] s d rfl rfl fun a s => ?_)
   obtain ⟨rv223, h222, u⟩ := bt u
   refine st_callR s ((d.bE 0 rfl).2 Keep.rfl' d.bdom ⟨_, _, rfl, rfl, rfl⟩ h222) (do_callF (d.bE 0 rfl).1 rfl rfl) trivial rfl rfl ?_
   rintro v227 Sv224 w a h225 rfl s
   have d := d.callB h225
   refine rz0 1 s rfl fun a s => ?_
   refine wp_join (fun a w => ∃ (sv247 : (List Span)) (i248 : Int) (c245 Sv246 : _), slices_DeleteFunc_Lapi_Span_api_Span_j1 sv22 sv247 i248 = some tv160 ∧ Sl 42 [(0, sl (ad b217) k3 sv247), (1, .func (.func g7) f8.toArray cp9.toArray), (5, iv i248), (6, iv sv22.2.2)] a ∧ Wd ⟨w0, S0, blks [.row (ad b217) s1.length k3 c4 45 2]⟩ Sv246 [.row (ad b217) sv247.length k3 c245 45 2] [FnA1 Tryz.prog g7 f8 cp9 del6, RowA c245 sv247, LenA s1.length sv247] w) ?_ ?_
   ·refine cd s u rfl (fun u => ?_) fun u => ?_
    ·refine sn 3 [0] s d rfl rfl fun a s => ?_
     obtain ⟨x254, h252, u⟩ := bt u
     obtain ⟨q258, c259, h255, h256, h260, h253⟩ := d.elemRK (α := Span) 1 rfl 1 rfl h252
     obtain ⟨_, _, rfl, rfl, rfl⟩ := h253
     refine sv s (y_indexAt runUnderlying52 sizeOf45 rfl rfl h255.1 h255.2 h256) rfl fun a s => ?_
     obtain ⟨l262, h261, u⟩ := bt u
     have h265 := d.envAt 2 rfl
     refine w_storeF (α := Span) s d 1 rfl 1 rfl h256 rfl rfl sizeOf45 rfl h261 ⟨_, _, rfl, rfl, rfl⟩ trivial ?_
     intro c263 a w s d
     have d := d.addE (e := LenA s1.length l262) (len_set (w := w) (S := S0) h265 h261)
     have h264 := setM_len h261
     try have s := s.fl 0 rfl h264
     try have s := s.fl 30 rfl h264
     refine nl (wp_region_lit (rn0 2 s rfl fun a s => ?_))
     obtain ⟨i267, h266, u⟩ := bt u
     refine sv s (y_assignI rfl h266) rfl fun a s => ?_
     exact nl ⟨l262, i267, c263, Sv114, u, wj s d [1] [2, 1, 0]⟩
    exact sk ⟨sv22.1, sv22.2.1, c113, Sv114, u, wj s d [1] [0, 1, 2]⟩
   rintro a w ⟨sv247, i248, c245, Sv246, u, s, d⟩
   refine blk_normal (tn (wp_region_lit (rn0 2 s rfl fun a s => ?_)))
   obtain ⟨j250, h249, u⟩ := bt u
   refine sv s (y_assignI rfl h249) rfl fun a s => ?_
   exact nl ⟨_, io u, c245, Sv246, wj s d [0] [0, 1, 2]⟩
  refine wp_exit (then_exit (then_exit (blk_exit ?_)))
  obtain rfl := oi u
  have h268 := hd159 _ rfl
  subst h268
  exact tn ⟨c113, Sv114, wj s d [0] [1, 2]⟩
 rintro a w ⟨c163, Sv164, s, d⟩
 refine tn (sn0 2 s rfl fun a s => ?_)
 obtain ⟨l273, h269, u⟩ := bt u
 obtain ⟨p271, k272, h270⟩ := row_sub (α := Span) d 0 rfl h269
 refine sv s (y_slc runUnderlying52 sizeOf45 rfl ⟨_, rfl⟩ (by exact rfl) h270) rfl fun a s => ?_
 obtain ⟨l274, h275, u⟩ := bt u
 have h280 := d.envAt 1 rfl
 refine w_clear (α := Span) (z0 := ((⟨0, 0⟩ : Span) : Span)) s d 0 rfl 0 rfl El52 ⟨_, _, rfl, rfl, rfl⟩ h269 h270 rfl trivial ?_
 intro c276 a w s d
 rw [Option.some.inj h275] at d
 have d := d.addE (e := LenA s1.length l274) (by have q := len_copy (w := w) (S := S0) (S' := S0) (w' := w) (ys := List.replicate l273.length ((⟨0, 0⟩ : Span) : Span)) h280 h269; rw [Option.some.inj h275] at q; exact q)
 have h277 := (copy_lenS h269 h275)
 try have s := s.fl 0 rfl h277
 try have s := s.fl 36 rfl h277
 refine nl (sn0 2 s rfl fun a s => ?_)
 obtain ⟨l283, h281, u⟩ := bt u
 obtain ⟨d, h282⟩ := w_cut d 0 rfl 1 rfl h281
 refine sv s (y_slc runUnderlying52 sizeOf45 rfl (by exact rfl) ⟨_, rfl⟩ h282) rfl fun a s => ?_
 refine rz0 1 s rfl fun a s => ?_
 obtain rfl := oi u
 exact q1 s rfl (d.ret ⟨p2, k3, (c276.take (l283.length * 2)), rfl, (d.outs [0] (by decide) rfl), (d.envAt 0 rfl)⟩)
theorem span_some_ok {w0 S0 s1 r} (u : span_some s1 = some r) (hS : Dm S0 w0) : Ck Tryz.prog 85 #[V45 s1] w0 S0 [] made_Light_rd r := by
 refine en 8 func85 rfl hS rfl rfl rfl fun a s d => ?_
 refine sr (wb (C45 s1) s d rfl fun b2 a w s d => ?_)
 refine rz0 1 s rfl fun a s => ?_
 refine sz 6 [0, 0] s d rfl rfl fun a s => ?_
 obtain rfl := oi u
 exact q1 s rfl (d.ret rfl)
theorem span_Normal_fn1_ok {w0 S0 s1 r} (u : span_Normal_fn1 s1 = some r) (hS : Dm S0 w0) : Ck Tryz.prog 84 #[V45 s1] w0 S0 [] made_Light_rd r := by
 refine en 6 func84 rfl hS rfl rfl rfl fun a s d => ?_
 refine sr (wb (C45 s1) s d rfl fun b2 a w s d => ?_)
 refine rz0 1 s rfl fun a s => ?_
 refine sn 1 [0] s d rfl rfl fun a s => ?_
 obtain ⟨rv4, h3, u⟩ := bt u
 refine cV s d (span_some_ok h3 d.bdom) (do_call call85 rfl) rfl fun a w s d => ?_
 refine rz0 2 s rfl fun a s => ?_
 obtain rfl := oi u
 exact q1 s rfl (d.ret rfl)
theorem span_Normal_fn1_fn (S0 : Nat → Prop) (w0 : World) : (FnA1 Tryz.prog 84 [] [] span_Normal_fn1).p S0 w0 := by
  refine ⟨call84, ?_⟩
  rintro S1 w1 hk hS c0 x0 r1 ⟨_, _, rfl, rfl, rfl⟩ hf
  exact span_Normal_fn1_ok hf hS  
end Go.Proofs.YthdimlepjpnncaaGreat.Wk
namespace Go.Proofs
open Go Go.Shelf Go.RowKit Go.Lib Go.Sort
def Tryz.sort86_ren : Go.Shelf.Ren := ⟨fun | 6 => 86 | 15 => 102 | 14 => 112 | 28 => 129 | 29 => 130 | 20 => 135 | 21 => 136 | 22 => 137 | 23 => 138 | 24 => 139 | 25 => 140 | 26 => 141 | 27 => 142 | 46 => 151 | 47 => 146 | 48 => 147 | 49 => 152 | 50 => 153 | 57 => 156 | n => n, fun | 22 => 52 | 24 => 45 | 25 => 112 | 3 => 3 | 39 => 121 | 0 => 0 | 53 => 140 | 55 => 142 | 4 => 4 | 46 => 134 | 45 => 133 | 50 => 50 | 5 => 5 | 9 => 9 | 66 => 150 | 70 => 154 | 76 => 160 | 77 => 161 | n => n, fun | n => n⟩
theorem Tryz.sort86 : Go.Proofs.SlLaysF0.n6 Tryz.prog Tryz.sort86_ren where
  mixed := by kernel_rfl
  f6 := ⟨Tryz.f86.name, by decide, Tryz.func86.trans (congrArg some (by kernel_rfl))⟩
  f14 := ⟨Tryz.f112.name, by decide, Tryz.func112.trans (congrArg some (by kernel_rfl))⟩
  f15 := Tryz.func102.trans (congrArg some (by kernel_rfl))
  f20 := ⟨Tryz.f135.name, by decide, Tryz.func135.trans (congrArg some (by kernel_rfl))⟩
  f21 := ⟨Tryz.f136.name, by decide, Tryz.func136.trans (congrArg some (by kernel_rfl))⟩
  f22 := ⟨Tryz.f137.name, by decide, Tryz.func137.trans (congrArg some (by kernel_rfl))⟩
  f23 := ⟨Tryz.f138.name, by decide, Tryz.func138.trans (congrArg some (by kernel_rfl))⟩
  f24 := ⟨Tryz.f139.name, by decide, Tryz.func139.trans (congrArg some (by kernel_rfl))⟩
  f25 := ⟨Tryz.f140.name, by decide, Tryz.func140.trans (congrArg some (by kernel_rfl))⟩
  f26 := ⟨Tryz.f141.name, by decide, Tryz.func141.trans (congrArg some (by kernel_rfl))⟩
  f27 := ⟨Tryz.f142.name, by decide, Tryz.func142.trans (congrArg some (by kernel_rfl))⟩
  f28 := Tryz.func129.trans (congrArg some (by kernel_rfl))
  f29 := Tryz.func130.trans (congrArg some (by kernel_rfl))
  f46 := ⟨Tryz.f151.name, by decide, Tryz.func151.trans (congrArg some (by kernel_rfl))⟩
  f47 := Tryz.func146.trans (congrArg some (by kernel_rfl))
  f48 := Tryz.func147.trans (congrArg some (by kernel_rfl))
  f49 := ⟨Tryz.f152.name, by decide, Tryz.func152.trans (congrArg some (by kernel_rfl))⟩
  f50 := ⟨Tryz.f153.name, by decide, Tryz.func153.trans (congrArg some (by kernel_rfl))⟩
  f57 := ⟨Tryz.f156.name, by decide, Tryz.func156.trans (congrArg some (by kernel_rfl))⟩
  t0 := Tryz.underlying0
  a0 := Tryz.isAgg0
  z0 := Tryz.sizeOf0
  v0 := Tryz.zeroValue0
  t3 := Tryz.underlying3
  a3 := Tryz.isAgg3
  z3 := Tryz.sizeOf3
  v3 := Tryz.zeroValue3
  t4 := Tryz.underlying4
  a4 := Tryz.isAgg4
  z4 := Tryz.sizeOf4
  v4 := Tryz.zeroValue4
  t5 := Tryz.underlying5
  a5 := Tryz.isAgg5
  z5 := Tryz.sizeOf5
  v5 := Tryz.zeroValue5
  t9 := Tryz.underlying9
  a9 := Tryz.isAgg9
  z9 := Tryz.sizeOf9
  v9 := Tryz.zeroValue9
  t22 := Tryz.underlying52
  a22 := Tryz.isAgg52
  z22 := Tryz.sizeOf52
  v22 := Tryz.zeroValue52
  t25 := Tryz.underlying112
  a25 := Tryz.isAgg112
  z25 := Tryz.sizeOf112
  v25 := Tryz.zeroValue112
  t39 := Tryz.underlying121
  a39 := Tryz.isAgg121
  z39 := Tryz.sizeOf121
  v39 := Tryz.zeroValue121
  t45 := Tryz.underlying133
  a45 := Tryz.isAgg133
  z45 := Tryz.sizeOf133
  v45 := Tryz.zeroValue133
  t46 := Tryz.underlying134
  a46 := Tryz.isAgg134
  z46 := Tryz.sizeOf134
  v46 := Tryz.zeroValue134
  t50 := Tryz.underlying50
  a50 := Tryz.isAgg50
  z50 := Tryz.sizeOf50
  v50 := Tryz.zeroValue50
  t53 := Tryz.underlying140
  a53 := Tryz.isAgg140
  z53 := Tryz.sizeOf140
  v53 := Tryz.zeroValue140
  t55 := Tryz.underlying142
  a55 := Tryz.isAgg142
  z55 := Tryz.sizeOf142
  v55 := Tryz.zeroValue142
  t66 := Tryz.underlying150
  a66 := Tryz.isAgg150
  z66 := Tryz.sizeOf150
  v66 := Tryz.zeroValue150
  t70 := Tryz.underlying154
  a70 := Tryz.isAgg154
  z70 := Tryz.sizeOf154
  v70 := Tryz.zeroValue154
  t76 := Tryz.underlying160
  a76 := Tryz.isAgg160
  z76 := Tryz.sizeOf160
  v76 := Tryz.zeroValue160
  t77 := Tryz.underlying161
  a77 := Tryz.isAgg161
  z77 := Tryz.sizeOf161
  v77 := Tryz.zeroValue161
end Go.Proofs
namespace Go.Proofs.YthdimlepjpnncaaGreat.Wk
open Go Go.RowKit Go.Proofs Go.Proofs.YthdimlepjpnncaaGreat.Sh Go.Proofs.Tryz
set_option linter.unusedVariables false
set_option linter.unusedSimpArgs false
abbrev slices_SortFunc_Lapi_Span_api_Span_rd (w0 : World) (X : List Nat) (p2 : Option Addr) (k3 : Nat) (x1 : (List Span)) (r : (List Span)) : (Nat → Prop) → World → Value → Prop := fun S w v => ∃ ck_0, v = .tuple #[] ∧ Outs X w0 S w [.row p2 r.length k3 ck_0 45 2] ∧ (RowA ck_0 r).p S w ∧ (LenA x1.length r).p S w
theorem slices_SortFunc_Lapi_Span_api_Span_ok {w0 S0 p2 k3 c4 g7 cp9 x1} {cmp6 : Span → Span → Option Int} {r} (u : slices_SortFunc_Lapi_Span_api_Span x1 cmp6 = some r) (hS : Dm S0 w0) (hin : Ins S0 w0 [.row p2 x1.length k3 c4 45 2]) (h5 : (RowA c4 x1).p S0 w0) (h10 : (FnA2 Tryz.prog g7 [] cp9 cmp6).p S0 w0) : Calls Tryz.prog 86 #[sl p2 k3 x1, .func (.func g7) #[] cp9.toArray] w0 (Ret (blks [.row p2 x1.length k3 c4 45 2]) w0 S0 (slices_SortFunc_Lapi_Span_api_Span_rd w0 (blks [.row p2 x1.length k3 c4 45 2]) p2 k3 x1 r)) := by
 exact sort_leaf (α := Span) (T := 45) Tryz.sort86 isAgg45 sizeOf45 (fun _ => rfl) (by decide) (fun d => (C45 d)) (by rintro S w cs d ⟨_, _, rfl, rfl, rfl⟩; rfl) u hS hin h5 h10
theorem span_Normal_fn2_ok {w0 S0 a1 b2 r} (u : span_Normal_fn2 a1 b2 = some r) (hS : Dm S0 w0) : Ck Tryz.prog 87 #[V45 a1, V45 b2] w0 S0 [] slices_IndexFunc_Lapi_Record_api_Record_rd r := by
 refine en 10 func87 rfl hS rfl rfl rfl fun a s d => ?_
 refine sr (wb (C45 a1) s d rfl fun b3 a w s d => ?_)
 refine wb (C45 b2) s d rfl fun b4 a w s d => ?_
 refine rz0 1 s rfl fun a s => ?_
 refine sn 4 [1, 0] s d rfl rfl fun a s => ?_
 obtain ⟨rv6, h5, u⟩ := bt u
 refine cV s d (cmp_Compare_int_ok h5 d.bdom) (do_call call88 rfl) rfl fun a w s d => ?_
 refine rz0 1 s rfl fun a s => ?_
 obtain rfl := oi u
 exact q1 s rfl (d.ret rfl)
theorem span_Normal_fn2_fn (S0 : Nat → Prop) (w0 : World) : (FnA2 Tryz.prog 87 [] [] span_Normal_fn2).p S0 w0 := by
  refine ⟨call87, ?_⟩
  rintro S1 w1 hk hS c0 c1 x0 x1 r1 ⟨_, _, rfl, rfl, rfl⟩ h1 hf
  obtain ⟨_, _, rfl, rfl, rfl⟩ := h1
  exact span_Normal_fn2_ok hf hS  
theorem span_Normal_ok {w0 S0 p2 k3 l1 r} (u : span_Normal l1 = some r) (hS : Dm S0 w0) (h4 : (Sq p2 k3 l1).p S0 w0) : Ck Tryz.prog 60 #[sl p2 k3 l1] w0 S0 [] slices_Clone_Lapi_Span_api_Span_rd r := by
 refine en 54 func60 rfl hS rfl rfl rfl fun a s d => ?_
 have d := d.addE h4
 refine sz0 1 s rfl fun a s => ?_
 refine sn0 1 s rfl fun a s => ?_
 obtain ⟨rv6, h5, u⟩ := bt u
 refine cR s (slices_Clone_Lapi_Span_api_Span_ok h5 d.dom (d.envAt 0 rfl)) (do_call call83 rfl) rfl ?_
 rintro v14 Sv11 w a h12 ⟨p7, k8, c10, rfl, h15, h9⟩ s
 have d := (d.callN h12 h15).addE (e := RowA c10 rv6) h9
 obtain ⟨rv17, h16, u⟩ := bt u
 refine cR s (slices_DeleteFunc_Lapi_Span_api_Span_ok h16 d.dom (d.ins [0] (by decide) rfl) (d.envAt 0 rfl) (span_Normal_fn1_fn _ _)) (do_call call82 rfl) rfl ?_
 rintro v25 Sv22 w a h23 ⟨p18, k19, c21, rfl, h26, h20⟩ s
 have d := (d.callO [0] [] (by decide) rfl h23 h26).addE (e := RowA c21 rv17) h20
 refine rz0 1 s rfl fun a s => ?_
 refine sn0 1 s rfl fun a s => ?_
 obtain ⟨rv28, h27, u⟩ := bt u
 refine cR s (slices_SortFunc_Lapi_Span_api_Span_ok h27 d.dom (d.ins [0] (by decide) rfl) (d.envAt 0 rfl) (span_Normal_fn2_fn _ _)) (do_call call86 rfl) rfl ?_
 rintro v35 Sv32 w a h33 ⟨c29, rfl, h36, h30, h31⟩ s
 have d := (d.callO [0] [] (by decide) rfl h33 h36).addE (e := RowA c29 rv28) h30
 have h37 := h31
 have h38 := Eq.symm h37
 try have s := s.fl 3 rfl h38
 try have s := s.fl 11 rfl h38
 refine nl (sz0 1 s rfl fun a s => ?_)
 refine wp_seq (sz0 3 s rfl fun a s => ?_)
 obtain ⟨e261, h462, u⟩ := bt u
 refine wp_join (fun a w => ∃ c262 p263 k264 Sv265, Sl 54 [(4, sl p263 k264 e261)] a ∧ Wd ⟨w0, S0, []⟩ Sv265 [.row p263 e261.length k264 c262 45 2] [RowA c262 e261] w) ?_ ?_
 ·refine wp_block ?_
  have d := d.nilRow Span 45
  refine wp_while (fun sv39 a w => ∃ c182 p183 k184 Sv185, Sl 54 [(4, sl p183 k184 sv39.1), (13, sl p18 k19 rv28), (14, iv (rv28.length : Int)), (15, iv sv39.2)] a ∧ Wd ⟨w0, S0, []⟩ Sv185 [.row p183 sv39.1.length k184 c182 45 2, .row p18 rv28.length k19 c29 45 2] [RowA c182 sv39.1, RowA c29 rv28] w) (([] : List Span), 0) h462 ⟨[], none, 0, Sv32, wj s d [0, 1] [0, 1]⟩ ?_
  clear h462
  repeat clear u
  rintro sv39 a w tv259 ⟨c182, p183, k184, Sv185, s, d⟩ u hd258
  refine sz0 1 s rfl fun a s => ?_
  refine wp_seq (cd s u rfl (fun u => ?_) fun u => ?_)
  ·refine sk (wp_seq (wp_block (sr ?_)))
   obtain ⟨x341, h339, u⟩ := bt u
   obtain ⟨b348, q345, c346, h349, h342, h343, h347, h340⟩ := d.elemRV (α := Span) 1 rfl 1 rfl h339
   have hsv350 := s
   have hwv351 := d
   subst h349
   have s := hsv350
   have d := hwv351
   obtain ⟨_, _, rfl, rfl, rfl⟩ := h340
   refine sv s (y_indexAt runUnderlying52 sizeOf45 rfl rfl h342.1 h342.2 h343) rfl fun a s => ?_
   refine sv s (y_loadQA (j := 0) (d.ownAt 1 rfl) rfl isAgg45 sizeOf45 h347 rfl rfl) rfl fun a s => ?_
   refine wa [iv 0, iv 0] s d zeroValue45 fun b352 a w s d => ?_
   refine ws (C45 x341) s d 0 rfl rfl rfl sizeOf45 fun a w s d => ?_
   refine nl (sn0 2 s rfl fun a s => ?_)
   obtain ⟨n354, h353, u⟩ := bt u
   refine sv s (y_assignI rfl h353) rfl fun a s => ?_
   refine nl (wp_seq ?_)
   obtain ⟨c368, hc368, u⟩ := bt u
   refine wp_only (fun a w => ∃ Sv369, Sl 54 [(4, sl p183 k184 sv39.1), (6, pt b352), (7, iv n354), (13, sl (ad b348) k19 rv28), (14, iv (rv28.length : Int)), (15, iv sv39.2), (33, .bool c368)] a ∧ Wd ⟨w0, S0, []⟩ Sv369 [.box b352 (C45 x341) 45, .row p183 sv39.1.length k184 c182 45 2, .row (ad b348) rv28.length k19 c29 45 2] [RowA c182 sv39.1, RowA c29 rv28] w) ?_ ?_
   ·rcases Bool.eq_false_or_eq_true (decide (0 < n354)) with h370 | h370
    ·have h371 := ite_t hc368 h370
     obtain ⟨x374, h372, h371⟩ := bind_t h371
     obtain ⟨b381, q378, c379, h382, h375, h376, h380, h373⟩ := d.elemRV (α := Span) 1 rfl 0 rfl h372
     have hsv383 := s
     have hwv384 := d
     subst h382
     have s := hsv383
     have d := hwv384
     obtain ⟨_, _, rfl, rfl, rfl⟩ := h373
     refine h_c [0, 1, 2] [] d rfl rfl (by kernel_rfl) rfl fun hC d => ?_
     refine gn 3 [0, 1, 2] [] s hC rfl rfl rfl fun a s => ?_
     have s := s.bT 23 rfl h370
     refine gn 5 [3, 4, 5, 6, 7] [0] s hC rfl rfl rfl fun a s => ?_
     refine gx s 8 rfl ⟨_, rfl, rfl⟩ rfl hC runUnderlying52 sizeOf45 rfl rfl h375 h376 fun a s => ?_
     refine gt s 9 rfl ⟨_, rfl, rfl⟩ rfl hC (fun w hC => y_fieldAddr (o' := q378 + 1) runUnderlying45 rfl sizeOf3 rfl rfl rfl) fun a s => ?_
     refine gt s 10 rfl ⟨_, rfl, rfl⟩ rfl hC (fun w hC => y_loadQ1 (j := 1) (hC.ownAt 1 rfl) rfl isAgg3 h380 rfl) fun a s => ?_
     refine gt s 11 rfl ⟨_, rfl, rfl⟩ rfl hC (fun w hC => y_leq rfl rfl) fun a s => ?_
     refine gT s 12 rfl rfl hC rfl rfl h371 fun a s => ?_
     refine h_done (by kernel_rfl) ?_
     exact ⟨Sv185, wj s d [0, 1, 2] [0, 1]⟩
    have h385 := ite_f hc368 h370
    refine h_c [0, 1, 2] [] d rfl rfl (by kernel_rfl) rfl fun hC d => ?_
    refine gn 3 [0, 1, 2] [] s hC rfl rfl rfl fun a s => ?_
    have s := s.bF 23 rfl h370
    refine gn 9 [3, 4, 5, 6, 7, 8, 9, 10, 11] [] s hC rfl rfl rfl fun a s => ?_
    refine gF s 12 rfl rfl hC rfl rfl h385 fun a s => ?_
    refine h_done (by kernel_rfl) ?_
    exact ⟨Sv185, wj s d [0, 1, 2] [0, 1]⟩
   rintro a w ⟨Sv369, s, d⟩
   refine tn (wp_join (fun a w => ∃ (out425 : (List Span)) (c421 p422 k423 Sv424 : _), span_Normal_j1 sv39 out425 = some tv259 ∧ Sl 54 [(4, sl p422 k423 out425), (13, sl (ad b348) k19 rv28), (14, iv (rv28.length : Int)), (15, iv sv39.2)] a ∧ Wd ⟨w0, S0, []⟩ Sv424 [.row p422 out425.length k423 c421 45 2, .row (ad b348) rv28.length k19 c29 45 2] [RowA c421 out425, RowA c29 rv28] w) ?_ ?_)
   ·refine cd s u rfl (fun u => ?_) fun u => ?_
    ·obtain ⟨x429, h427, u⟩ := bt u
     obtain ⟨b436, q433, c434, h437, h430, h431, h435, h428⟩ := d.elemRV (α := Span) 1 rfl 0 rfl h427
     have hsv438 := s
     have hwv439 := d
     subst h437
     have s := hsv438
     have d := hwv439
     obtain ⟨_, _, rfl, rfl, rfl⟩ := h428
     obtain ⟨x442, h440, u⟩ := bt u
     obtain ⟨q446, c447, h443, h444, h448, h441⟩ := d.elemRK (α := Span) 1 rfl 0 rfl h440
     obtain ⟨_, _, rfl, rfl, rfl⟩ := h441
     obtain ⟨l450, h449, u⟩ := bt u
     refine wp_only (fun a w => ∃ Sv453 c451, Sl 54 [(4, sl (ad b436) k184 l450), (13, sl (ad b348) k19 rv28), (14, iv (rv28.length : Int)), (15, iv sv39.2)] a ∧ Wd ⟨w0, S0, []⟩ Sv453 [.row (ad b436) l450.length k184 c451 45 2, .row (ad b348) rv28.length k19 c29 45 2] [RowA c451 l450, RowA c29 rv28] w) ?_ ?_
     ·refine h_c [0, 2] [] d rfl rfl (by kernel_rfl) rfl fun hC d => ?_
      refine gn 6 [0, 1, 2, 3, 4, 5] [] s hC rfl rfl rfl fun a s => ?_
      refine gx s 6 rfl trivial rfl hC runUnderlying52 sizeOf45 rfl rfl h430 h431 fun a s => ?_
      refine gn 3 [7, 9, 10] [0] s hC rfl rfl rfl fun a s => ?_
      refine ho 8 rfl ?_
      refine sv s (y_loadQ1 (j := 1) (d.ownAt 1 rfl) rfl isAgg3 h435 rfl) rfl fun a s => ?_
      refine h_n [0, 2] [] d rfl rfl fun hC => ?_
      refine gv s 11 rfl rfl hC (fun w hC => y_max rfl rfl) fun a s => ?_
      refine gx s 12 rfl trivial rfl hC runUnderlying52 sizeOf45 rfl rfl h443 h444 fun a s => ?_
      refine gv s 13 rfl rfl hC (fun w hC => y_fieldAddr (o' := q446 + 1) runUnderlying45 rfl sizeOf3 rfl rfl rfl) fun a s => ?_
      refine ho 14 rfl ?_
      refine w_storeR (α := Span) (f := 1) (m := 1) s d 1 rfl 0 rfl h444 rfl rfl sizeOf3 rfl rfl rfl h449 (fun es he => by rw [h448] at he; subst he; exact ⟨_, _, rfl, rfl, rfl⟩) trivial ?_
      intro c451 a w s d
      have h452 := setM_len h449
      try have s := s.fl 4 rfl h452
      try have s := s.fl 34 rfl h452
      try have s := s.fl 37 rfl h452
      refine h_n [0, 2] [] d rfl rfl fun hC => ?_
      refine h_done (by kernel_rfl) ?_
      exact ⟨Sv369, c451, wj s d [1, 2] [0, 2]⟩
     rintro a w ⟨Sv453, c451, s, d⟩
     exact tn ⟨l450, c451, (ad b436), k184, Sv453, u, wj s d [0, 1] [0, 1]⟩
    refine wp_region_lit (rn 2 [0] s d rfl rfl fun a s => ?_)
    refine w_litSlice (α := Span) (vs := [V45 x341]) (cs := (C45 x341)) (xs := ([x341] : List Span)) s d El52 rfl rfl rfl rfl rfl rfl ⟨⟨_, _, rfl, rfl, rfl⟩, rfl⟩ rfl trivial rfl fun b455 a w s d => ?_
    obtain ⟨l457, h456, u⟩ := bt u
    refine w_appendR (α := Span) s d El52 2 rfl rfl rfl 1 rfl 0 rfl 0 rfl h456 rfl trivial ?_
    intro p458 k459 c460 a w s d
    refine rz0 1 s rfl fun a s => ?_
    exact ⟨l457, c460, p458, k459, Sv369, u, wj s d [2, 3] [0, 3]⟩
   rintro a w ⟨out425, c421, p422, k423, Sv424, u, s, d⟩
   refine blk_normal (tn (wp_region_lit (rz0 2 s rfl fun a s => ?_)))
   exact ⟨_, io u, c421, p422, k423, Sv424, wj s d [0, 1] [0, 1]⟩
  refine wp_exit (then_exit (then_exit (blk_exit ?_)))
  obtain rfl := oi u
  have h461 := hd258 _ rfl
  subst h461
  exact tn ⟨c182, p183, k184, Sv185, wj s d [0] [0]⟩
 rintro a w ⟨c262, p263, k264, Sv265, s, d⟩
 refine tn (sz0 2 s rfl fun a s => ?_)
 obtain rfl := oi u
 exact q1 s rfl (d.ret ⟨p263, k264, c262, rfl, (d.outs [0] (by decide) rfl), (d.envAt 0 rfl)⟩)
theorem compose_times_ok {w0 S0 p2 k3 r1 r} (u : compose_times r1 = some r) (hS : Dm S0 w0) (h4 : (Sq p2 k3 r1.Samples).p S0 w0) : Ck Tryz.prog 97 #[V35 r1 p2 k3] w0 S0 [] slices_Clone_Lint_int_rd r := by
 refine en 20 func97 rfl hS rfl rfl rfl fun a s d => ?_
 have d := d.addE h4
 refine sr (wb (C35 r1 p2 k3) s d rfl fun b5 a w s d => ?_)
 refine rz0 1 s rfl fun a s => ?_
 refine sz0 1 s rfl fun a s => ?_
 refine wp_seq (sz 5 [0] s d rfl rfl fun a s => ?_)
 obtain ⟨e63, h99, u⟩ := bt u
 refine wp_join (fun a w => ∃ c64 p65 k66 Sv67, Sl 20 [(3, sl p65 k66 e63)] a ∧ Wd ⟨w0, S0, []⟩ Sv67 [.row p65 e63.length k66 c64 3 1] [RowA c64 e63] w) ?_ ?_
 ·refine wp_block ?_
  have d := d.nilRow Int 3
  refine wp_while (fun sv6 a w => ∃ c41 p42 k43 Sv44, Sl 20 [(1, pt b5), (3, sl p42 k43 sv6.1), (8, iv (w64 ((r1.Samples.length : Int) + 1))), (9, iv sv6.2)] a ∧ Wd ⟨w0, S0, []⟩ Sv44 [.box b5 (C35 r1 p2 k3) 35, .row p42 sv6.1.length k43 c41 3 1] [Sq p2 k3 r1.Samples, RowA c41 sv6.1] w) (([] : List Int), 0) h99 ⟨[], none, 0, S0, wj s d [1, 0] [1, 0]⟩ ?_
  clear h99
  repeat clear u
  rintro sv6 a w tv61 ⟨c41, p42, k43, Sv44, s, d⟩ u hd60
  refine sz0 1 s rfl fun a s => ?_
  refine wp_seq (cd s u rfl (fun u => ?_) fun u => ?_)
  ·refine sk (wp_seq (wp_block (sz0 2 s rfl fun a s => ?_)))
   refine wp_region_lit (rn 3 [0] s d rfl rfl fun a s => ?_)
   obtain ⟨rv85, h84, u⟩ := bt u
   refine cV s d (compose_at_ok h84 d.bdom (d.bE 0 rfl)) (do_call call56 rfl) rfl fun a w s d => ?_
   refine w_litSlice (α := Int) (vs := [iv rv85]) (cs := [iv rv85]) (xs := ([rv85] : List Int)) s d El22 rfl rfl rfl rfl rfl rfl ⟨⟨_, rfl, rfl⟩, rfl⟩ rfl trivial rfl fun b92 a w s d => ?_
   obtain ⟨l94, h93, u⟩ := bt u
   refine w_appendR (α := Int) s d El22 2 rfl rfl rfl 2 rfl 0 rfl 0 rfl h93 rfl trivial ?_
   intro p95 k96 c97 a w s d
   refine av s rfl rfl fun a s => ?_
   refine wpList_nil ?_
   refine blk_normal (tn (wp_region_lit (rz0 2 s rfl fun a s => ?_)))
   exact ⟨_, io u, c97, p95, k96, Sv44, wj s d [1, 2] [2, 0]⟩
  refine wp_exit (then_exit (then_exit (blk_exit ?_)))
  obtain rfl := oi u
  have h98 := hd60 _ rfl
  subst h98
  exact tn ⟨c41, p42, k43, Sv44, wj s d [1] [1]⟩
 rintro a w ⟨c64, p65, k66, Sv67, s, d⟩
 refine tn (sz0 2 s rfl fun a s => ?_)
 obtain rfl := oi u
 exact q1 s rfl (d.ret ⟨p65, k66, c64, rfl, (d.outs [0] (by decide) rfl), (d.envAt 0 rfl)⟩)
abbrev compose_kept_rd (w0 : World) (X : List Nat) (r : (List Bool)) : Rd := fun S w v => ∃ p0_0 k0_0 c0_0, v = sl p0_0 k0_0 r ∧ Outs X w0 S w [.row p0_0 r.length k0_0 c0_0 4 1] ∧ (RowA c0_0 r).p S w
theorem compose_kept_ok {w0 S0 p2 k3 p6 k7 r1 better5 r} (u : compose_kept r1 better5 = some r) (hS : Dm S0 w0) (h4 : (Sq p2 k3 r1.Samples).p S0 w0) (h8 : (Sq p6 k7 better5).p S0 w0) : Ck Tryz.prog 73 #[V35 r1 p2 k3, sl p6 k7 better5] w0 S0 [] compose_kept_rd r := by
 refine en 60 func73 rfl hS rfl rfl rfl fun a s d => ?_
 have d := (d.addE h4).addE h8
 refine sr (wb (C35 r1 p2 k3) s d rfl fun b9 a w s d => ?_)
 refine rz0 1 s rfl fun a s => ?_
 refine sn 1 [0] s d rfl rfl fun a s => ?_
 obtain ⟨rv11, h10, u⟩ := bt u
 refine cR s (compose_times_ok h10 d.dom (d.envAt 1 rfl)) (do_call call97 rfl) rfl ?_
 rintro v19 Sv16 w a h17 ⟨p12, k13, c15, rfl, h20, h14⟩ s
 have d := (d.callN h17 h20).addE (e := RowA c15 rv11) h14
 refine rz0 1 s rfl fun a s => ?_
 refine sn 3 [1] s d rfl rfl fun a s => ?_
 obtain ⟨l22, h21, u⟩ := bt u
 refine w_make (α := Bool) s d El101 ⟨_, rfl, rfl⟩ rfl rfl h21 rfl trivial ?_
 intro p23 c24 a w s d
 refine rz0 1 s rfl fun a s => ?_
 refine sz0 1 s rfl fun a s => ?_
 refine wp_seq (sz0 3 s rfl fun a s => ?_)
 obtain ⟨e478, h872, u⟩ := bt u
 refine wp_join (fun a w => ∃ c479 p480 k481 Sv482, Sl 60 [(6, sl p480 k481 e478)] a ∧ Wd ⟨w0, S0, []⟩ Sv482 [.row p480 e478.length k481 c479 4 1] [RowA c479 e478] w) ?_ ?_
 ·refine wp_block (wp_while (fun sv25 a w => ∃ c324 p325 k326 Sv327, Sl 60 [(1, sl p6 k7 better5), (5, sl p12 k13 rv11), (6, sl p325 k326 sv25.1), (7, iv sv25.2.1), (16, iv (l22.length : Int)), (17, iv sv25.2.2)] a ∧ Wd ⟨w0, S0, []⟩ Sv327 [.row p12 rv11.length k13 c15 3 1, .row p325 sv25.1.length k326 c324 4 1] [Sq p6 k7 better5, RowA c15 rv11, RowA c324 sv25.1] w) (l22, 0, 0) h872 ⟨c24, p23, l22.length, Sv16, wj s d [1, 0] [2, 1, 0]⟩ ?_)
  clear h872
  repeat clear u
  rintro sv25 a w tv476 ⟨c324, p325, k326, Sv327, s, d⟩ u hd475
  refine sz0 1 s rfl fun a s => ?_
  refine wp_seq (cd s u rfl (fun u => ?_) fun u => ?_)
  ·refine sk (wp_seq (wp_block (sz0 2 s rfl fun a s => ?_)))
   refine wp_seq ?_
   obtain ⟨e730, h870, u⟩ := bt u
   refine wp_join (fun a w => ∃ Sv731, Sl 60 [(1, sl p6 k7 better5), (5, sl p12 k13 rv11), (6, sl p325 k326 sv25.1), (7, iv e730), (8, iv sv25.2.2), (16, iv (l22.length : Int)), (17, iv sv25.2.2)] a ∧ Wd ⟨w0, S0, []⟩ Sv731 [.row p12 rv11.length k13 c15 3 1, .row p325 sv25.1.length k326 c324 4 1] [Sq p6 k7 better5, RowA c15 rv11, RowA c324 sv25.1] w) ?_ ?_
   ·refine wp_block (wp_while (fun sv631 a w => ∃ Sv695, Sl 60 [(1, sl p6 k7 better5), (5, sl p12 k13 rv11), (6, sl p325 k326 sv25.1), (7, iv sv631), (8, iv sv25.2.2), (16, iv (l22.length : Int)), (17, iv sv25.2.2)] a ∧ Wd ⟨w0, S0, []⟩ Sv695 [.row p12 rv11.length k13 c15 3 1, .row p325 sv25.1.length k326 c324 4 1] [Sq p6 k7 better5, RowA c15 rv11, RowA c324 sv25.1] w) sv25.2.1 h870 ⟨Sv327, wj s d [0, 1] [0, 1, 2]⟩ ?_)
    clear h870
    repeat clear u
    rintro sv631 a w tv728 ⟨Sv695, s, d⟩ u hd727
    refine wp_seq (wp_seq ?_)
    obtain ⟨c758, hc758, u⟩ := bt u
    refine wp_only (fun a w => ∃ Sv759, Sl 60 [(1, sl p6 k7 better5), (5, sl p12 k13 rv11), (6, sl p325 k326 sv25.1), (7, iv sv631), (8, iv sv25.2.2), (16, iv (l22.length : Int)), (17, iv sv25.2.2), (35, .bool c758)] a ∧ Wd ⟨w0, S0, []⟩ Sv759 [.row p12 rv11.length k13 c15 3 1, .row p325 sv25.1.length k326 c324 4 1] [Sq p6 k7 better5, RowA c15 rv11, RowA c324 sv25.1] w) ?_ ?_
    ·rcases Bool.eq_false_or_eq_true (decide (sv631 < (better5.length : Int))) with h760 | h760
     ·have h761 := ite_t hc758 h760
      obtain ⟨x764, h762, h761⟩ := bind_t h761
      obtain ⟨b770, o771, q768, c769, h772, h765, h766, h767, h763⟩ := d.elemV 0 rfl h762
      have hsv773 := s
      have hwv774 := d
      subst h772
      have s := hsv773
      have d := hwv774
      obtain ⟨_, _, rfl, rfl, rfl⟩ := h763
      have d := d.addE h767
      obtain ⟨x777, h775, h761⟩ := bind_t h761
      obtain ⟨b784, q781, c782, h785, h778, h779, h783, h776⟩ := d.elemRV (α := Int) 0 rfl 2 rfl h775
      have hsv786 := s
      have hwv787 := d
      subst h785
      have s := hsv786
      have d := hwv787
      obtain ⟨_, rfl, rfl⟩ := h776
      refine h_c [0, 1] [0] d rfl rfl (by kernel_rfl) rfl fun hC d => ?_
      refine gn 5 [0, 1, 2, 3, 4] [] s hC rfl rfl rfl fun a s => ?_
      have s := s.bT 24 rfl h760
      refine gn 2 [5, 6] [] s hC rfl rfl rfl fun a s => ?_
      refine gx s 7 rfl ⟨_, rfl, rfl⟩ rfl hC runUnderlying52 sizeOf45 rfl rfl h765 h766 fun a s => ?_
      refine gt s 8 rfl ⟨_, rfl, rfl⟩ rfl hC (fun w hC => y_fieldAddr (o' := q768 + 1) runUnderlying45 rfl sizeOf3 rfl rfl rfl) fun a s => ?_
      refine gt s 9 rfl ⟨_, rfl, rfl⟩ rfl hC (fun w hC => y_loadE1 (j := 1) (hC.ceAt 0 rfl) rfl isAgg3 rfl) fun a s => ?_
      refine gn 2 [10, 11] [] s hC rfl rfl rfl fun a s => ?_
      refine gx s 12 rfl ⟨_, rfl, rfl⟩ rfl hC runUnderlying22 sizeOf3 rfl rfl h778 h779 fun a s => ?_
      refine gt s 13 rfl ⟨_, rfl, rfl⟩ rfl hC (fun w hC => y_loadQ1 (j := 0) (hC.ownAt 0 rfl) rfl isAgg3 h783 rfl) fun a s => ?_
      refine gt s 14 rfl ⟨_, rfl, rfl⟩ rfl hC (fun w hC => y_leq rfl rfl) fun a s => ?_
      refine gT s 15 rfl rfl hC rfl rfl h761 fun a s => ?_
      refine h_done (by kernel_rfl) ?_
      exact ⟨Sv695, wj s d [0, 1] [1, 2, 3]⟩
     have h788 := ite_f hc758 h760
     refine h_c [0, 1] [] d rfl rfl (by kernel_rfl) rfl fun hC d => ?_
     refine gn 5 [0, 1, 2, 3, 4] [] s hC rfl rfl rfl fun a s => ?_
     have s := s.bF 24 rfl h760
     refine gn 10 [5, 6, 7, 8, 9, 10, 11, 12, 13, 14] [] s hC rfl rfl rfl fun a s => ?_
     refine gF s 15 rfl rfl hC rfl rfl h788 fun a s => ?_
     refine h_done (by kernel_rfl) ?_
     exact ⟨Sv695, wj s d [0, 1] [0, 1, 2]⟩
    rintro a w ⟨Sv759, s, d⟩
    refine tn (cd s u rfl (fun u => ?_) fun u => ?_)
    ·refine sk (wp_block (wp_region_lit (rn0 2 s rfl fun a s => ?_)))
     obtain ⟨k794, h793, u⟩ := bt u
     refine sv s (y_assignI rfl h793) rfl fun a s => ?_
     refine wpList_nil ?_
     exact blk_normal (tn ⟨_, io u, Sv759, wj s d [0, 1] [0, 1, 2]⟩)
    refine wp_exit (then_exit (then_exit (blk_exit ?_)))
    obtain rfl := oi u
    have h795 := hd727 _ rfl
    subst h795
    exact tn ⟨Sv759, wj s d [0, 1] [0, 1, 2]⟩
   rintro a w ⟨Sv731, s, d⟩
   refine tn ?_
   obtain ⟨c822, hc822, u⟩ := bt u
   obtain ⟨x825, h823, u⟩ := bt u
   obtain ⟨b832, q829, c830, h833, h826, h827, h831, h824⟩ := d.elemRV (α := Bool) 1 rfl 2 rfl h823
   have hsv834 := s
   have hwv835 := d
   subst h833
   have s := hsv834
   have d := hwv835
   obtain ⟨_, rfl, rfl⟩ := h824
   obtain ⟨l837, h836, u⟩ := bt u
   refine wp_only (fun a w => ∃ Sv840 c838, Sl 60 [(1, sl p6 k7 better5), (5, sl p12 k13 rv11), (6, sl (ad b832) k326 l837), (7, iv e730), (16, iv (l22.length : Int)), (17, iv sv25.2.2)] a ∧ Wd ⟨w0, S0, []⟩ Sv840 [.row p12 rv11.length k13 c15 3 1, .row (ad b832) l837.length k326 c838 4 1] [Sq p6 k7 better5, RowA c15 rv11, RowA c838 l837] w) ?_ ?_
   ·rcases Bool.eq_false_or_eq_true (e730 == (better5.length : Int)) with h841 | h841
    ·have h842 := ite_t hc822 h841
     refine h_c [0] [] d rfl rfl (by kernel_rfl) rfl fun hC d => ?_
     refine gn 7 [0, 1, 2, 3, 4, 5, 6] [] s hC rfl rfl rfl fun a s => ?_
     have s := s.bT 44 rfl h841
     refine gn 11 [7, 8, 9, 10, 11, 12, 13, 14, 15, 16, 17] [] s hC rfl rfl rfl fun a s => ?_
     refine gT s 18 rfl rfl hC rfl rfl h842 fun a s => ?_
     refine gx s 19 rfl trivial rfl hC runUnderlying101 sizeOf4 rfl rfl h826 h827 fun a s => ?_
     refine ho 20 rfl ?_
     refine w_storeF (α := Bool) s d 1 rfl 2 rfl h827 rfl rfl sizeOf4 rfl h836 ⟨_, rfl, rfl⟩ trivial ?_
     intro c838 a w s d
     have h839 := setM_len h836
     try have s := s.fl 6 rfl h839
     try have s := s.fl 38 rfl h839
     refine h_n [0] [] d rfl rfl fun hC => ?_
     refine h_done (by kernel_rfl) ?_
     exact ⟨Sv731, c838, wj s d [0, 1] [1, 2, 0]⟩
    have h843 := ite_f hc822 h841
    obtain ⟨x846, h844, h843⟩ := bind_t h843
    obtain ⟨b852, o853, q850, c851, h854, h847, h848, h849, h845⟩ := d.elemV 0 rfl h844
    have hsv855 := s
    have hwv856 := d
    subst h854
    have s := hsv855
    have d := hwv856
    obtain ⟨_, _, rfl, rfl, rfl⟩ := h845
    have d := d.addE h849
    obtain ⟨x859, h857, h843⟩ := bind_t h843
    obtain ⟨b866, q863, c864, h867, h860, h861, h865, h858⟩ := d.elemRV (α := Int) 0 rfl 2 rfl h857
    have hsv868 := s
    have hwv869 := d
    subst h867
    have s := hsv868
    have d := hwv869
    obtain ⟨_, rfl, rfl⟩ := h858
    refine h_c [0] [0] d rfl rfl (by kernel_rfl) rfl fun hC d => ?_
    refine gn 7 [0, 1, 2, 3, 4, 5, 6] [] s hC rfl rfl rfl fun a s => ?_
    have s := s.bF 44 rfl h841
    refine gn 2 [7, 8] [] s hC rfl rfl rfl fun a s => ?_
    refine gx s 9 rfl ⟨_, rfl, rfl⟩ rfl hC runUnderlying52 sizeOf45 rfl rfl h847 h848 fun a s => ?_
    refine gt s 10 rfl ⟨_, rfl, rfl⟩ rfl hC (fun w hC => y_fieldAddr (o' := q850 + 0) runUnderlying45 rfl sizeOf3 rfl rfl rfl) fun a s => ?_
    refine gt s 11 rfl ⟨_, rfl, rfl⟩ rfl hC (fun w hC => y_loadE1 (j := 0) (hC.ceAt 0 rfl) rfl isAgg3 rfl) fun a s => ?_
    refine gn 3 [12, 13, 14] [] s hC rfl rfl rfl fun a s => ?_
    refine gx s 15 rfl ⟨_, rfl, rfl⟩ rfl hC runUnderlying22 sizeOf3 rfl rfl h860 h861 fun a s => ?_
    refine gt s 16 rfl ⟨_, rfl, rfl⟩ rfl hC (fun w hC => y_loadQ1 (j := 0) (hC.ownAt 0 rfl) rfl isAgg3 h865 rfl) fun a s => ?_
    refine gt s 17 rfl ⟨_, rfl, rfl⟩ rfl hC (fun w hC => y_geq rfl rfl) fun a s => ?_
    refine gF s 18 rfl rfl hC rfl rfl h843 fun a s => ?_
    refine gx s 19 rfl trivial rfl hC runUnderlying101 sizeOf4 rfl rfl h826 h827 fun a s => ?_
    refine ho 20 rfl ?_
    refine w_storeF (α := Bool) s d 1 rfl 3 rfl h827 rfl rfl sizeOf4 rfl h836 ⟨_, rfl, rfl⟩ trivial ?_
    intro c838 a w s d
    have h839 := setM_len h836
    try have s := s.fl 6 rfl h839
    try have s := s.fl 38 rfl h839
    refine h_n [0] [1] d rfl rfl fun hC => ?_
    refine h_done (by kernel_rfl) ?_
    exact ⟨Sv731, c838, wj s d [0, 1] [2, 3, 0]⟩
   rintro a w ⟨Sv840, c838, s, d⟩
   refine blk_normal (tn (wp_region_lit (rz0 2 s rfl fun a s => ?_)))
   exact ⟨_, io u, c838, (ad b832), k326, Sv840, wj s d [0, 1] [0, 1, 2]⟩
  refine wp_exit (then_exit (then_exit (blk_exit ?_)))
  obtain rfl := oi u
  have h871 := hd475 _ rfl
  subst h871
  exact tn ⟨c324, p325, k326, Sv327, wj s d [1] [2]⟩
 rintro a w ⟨c479, p480, k481, Sv482, s, d⟩
 refine tn (sz0 2 s rfl fun a s => ?_)
 obtain rfl := oi u
 exact q1 s rfl (d.ret ⟨p480, k481, c479, rfl, (d.outs [0] (by decide) rfl), (d.envAt 0 rfl)⟩)
abbrev record_sub_rd (w0 : World) (X : List Nat) (r : Record) : Rd := fun S w v => ∃ p0_11 k0_11 c0_11, v = V35 r p0_11 k0_11 ∧ Outs X w0 S w [.row p0_11 r.Samples.length k0_11 c0_11 3 1] ∧ (RowA c0_11 r.Samples).p S w
theorem record_sub_ok {w0 S0 p2 k3 r1 from5 to6 r} (u : record_sub r1 from5 to6 = some r) (hS : Dm S0 w0) (h4 : (Sq p2 k3 r1.Samples).p S0 w0) : Ck Tryz.prog 120 #[V35 r1 p2 k3, iv from5, iv to6] w0 S0 [] record_sub_rd r := by
 refine en 20 func120 rfl hS rfl rfl rfl fun a s d => ?_
 have d := d.addE h4
 refine sr (wb (C35 r1 p2 k3) s d rfl fun b7 a w s d => ?_)
 refine wa Z4 s d zeroValue35 fun b8 a w s d => ?_
 refine nl (sn 5 [1] s d rfl rfl fun a s => ?_)
 refine ws (C35 ⟨r1.Source, r1.Start, (w64 (r1.First + from5)), r1.Rate, r1.Error, r1.Run, r1.Seq, r1.Samples⟩ p2 k3) s d 1 rfl rfl rfl sizeOf3 fun a w s d => ?_
 refine nl (sn 4 [1] s d rfl rfl fun a s => ?_)
 obtain ⟨l14, h9, u⟩ := bt u
 obtain ⟨p12, k13, h10, h11⟩ := sub_env (d.envAt 0 rfl) h9
 have d := d.addE h10
 refine sv s (y_slc runUnderlying22 sizeOf3 rfl ⟨_, rfl⟩ ⟨_, rfl⟩ h11) rfl fun a s => ?_
 obtain ⟨rv16, h15, u⟩ := bt u
 refine cR s (slices_Clone_Lint_int_ok h15 d.dom (d.envAt 0 rfl)) (do_call call93 rfl) rfl ?_
 rintro v24 Sv21 w a h22 ⟨p17, k18, c20, rfl, h25, h19⟩ s
 have d := (d.callN h22 h25).addE (e := RowA c20 rv16) h19
 refine sv s (y_fieldAddr (o' := 11) runUnderlying35 rfl sizeOf22 rfl rfl rfl) rfl fun a s => ?_
 refine ws (C35 ⟨r1.Source, r1.Start, (w64 (r1.First + from5)), r1.Rate, r1.Error, r1.Run, r1.Seq, rv16⟩ p17 k18) s d 2 rfl rfl rfl sizeOf22 fun a w s d => ?_
 refine nl (sn 1 [2] s d rfl rfl fun a s => ?_)
 refine ws (C35 ⟨r1.Source, r1.Start, (w64 (r1.First + from5)), r1.Rate, r1.Error, r1.Run, r1.Seq, rv16⟩ p17 k18) s d 1 rfl rfl rfl sizeOf35 fun a w s d => ?_
 refine nl ?_
 obtain rfl := oi u
 exact wp_ret (ret1 s rfl (rv_cell d 1 rfl rfl isAgg35 sizeOf35 rfl) (d.ret ⟨p17, k18, c20, rfl, (d.outs [0] (by decide) rfl), (d.envAt 0 rfl)⟩))
abbrev record_Sub_rd (w0 : World) (X : List Nat) (r : (Record × Int)) : Rd := fun S w v => ∃ p0_11 k0_11 c0_11, v = .tuple #[V35 r.1 p0_11 k0_11, iv r.2] ∧ Outs X w0 S w [.row p0_11 r.1.Samples.length k0_11 c0_11 3 1] ∧ (RowA c0_11 r.1.Samples).p S w
theorem record_Sub_ok {w0 S0 p2 k3 r1 from5 to6 r} (u : record_Sub r1 from5 to6 = some r) (hS : Dm S0 w0) (h4 : (Sq p2 k3 r1.Samples).p S0 w0) : Ck Tryz.prog 100 #[V35 r1 p2 k3, iv from5, iv to6] w0 S0 [] record_Sub_rd r := by
 refine en 31 func100 rfl hS rfl rfl rfl fun a s d => ?_
 have d := d.addE h4
 refine sr (wb (C35 r1 p2 k3) s d rfl fun b7 a w s d => ?_)
 refine wa Z4 s d zeroValue35 fun b8 a w s d => ?_
 refine rz0 1 s rfl fun a s => ?_
 refine wp_seq (sn 1 [1] s d rfl rfl fun a s => ?_)
 obtain ⟨rv10, h9, u⟩ := bt u
 refine cV s d (record_Valid_ok h9 d.bdom (d.bE 0 rfl)) (do_call call91 rfl) rfl fun a w s d => ?_
 refine rz0 1 s rfl fun a s => ?_
 refine cd s u rfl (fun u => ?_) fun u => ?_
 ·refine sr (sv s (y_build (vs := []) Bld35 rfl rfl) rfl fun a s => ?_)
  refine ws Z4 s d 0 rfl rfl rfl sizeOf35 fun a w s d => ?_
  refine rz0 1 s rfl fun a s => ?_
  obtain rfl := oi u
  have d := d.nilRow Int 3
  exact wp_ret (then_ret (ret2 s rfl (rv_cell d 1 rfl rfl isAgg35 sizeOf35 rfl) (rv_tmp rfl) (d.ret ⟨none, 0, [], rfl, (d.outs [0] (by decide) rfl), (d.envAt 0 rfl)⟩)))
 refine sk (wp_seq (sn0 3 s rfl fun a s => ?_))
 refine rO 4 14 [] s d rfl rfl rfl rfl rfl fun a s => ?_
 refine mv s rfl rfl fun a s => ?_
 refine rO 6 19 [1] s d rfl rfl rfl rfl rfl fun a s => ?_
 refine nl (cd s u rfl (fun u => ?_) fun u => ?_)
 ·refine sr (sv s (y_build (vs := []) Bld35 rfl rfl) rfl fun a s => ?_)
  refine ws Z4 s d 0 rfl rfl rfl sizeOf35 fun a w s d => ?_
  refine rz0 1 s rfl fun a s => ?_
  obtain rfl := oi u
  have d := d.nilRow Int 3
  exact wp_ret (then_ret (ret2 s rfl (rv_cell d 1 rfl rfl isAgg35 sizeOf35 rfl) (rv_tmp rfl) (d.ret ⟨none, 0, [], rfl, (d.outs [0] (by decide) rfl), (d.envAt 0 rfl)⟩)))
 refine sk (sn 3 [1] s d rfl rfl fun a s => ?_)
 obtain ⟨rv23, h22, u⟩ := bt u
 refine cR s (record_sub_ok h22 d.dom (d.envAt 0 rfl)) (do_call call120 rfl) rfl ?_
 rintro v31 Sv28 w a h29 ⟨p24, k25, c27, rfl, h32, h26⟩ s
 have d := (d.callN h29 h32).addE (e := RowA c27 rv23.Samples) h26
 refine ws (C35 rv23 p24 k25) s d 1 rfl rfl rfl sizeOf35 fun a w s d => ?_
 refine rz0 1 s rfl fun a s => ?_
 obtain rfl := oi u
 exact wp_ret (ret2 s rfl (rv_cell d 1 rfl rfl isAgg35 sizeOf35 rfl) (rv_tmp rfl) (d.ret ⟨p24, k25, c27, rfl, (d.outs [0] (by decide) rfl), (d.envAt 0 rfl)⟩))
theorem compose_runs_ok {w0 S0 p2 k3 p6 k7 r1 keep5 r} (u : compose_runs r1 keep5 = some r) (hS : Dm S0 w0) (h4 : (Sq p2 k3 r1.Samples).p S0 w0) (h8 : (Sq p6 k7 keep5).p S0 w0) : Ck Tryz.prog 72 #[V35 r1 p2 k3, sl p6 k7 keep5] w0 S0 [] law15_two_rd r := by
 refine en 45 func72 rfl hS rfl rfl rfl fun a s d => ?_
 have d := (d.addE h4).addE h8
 refine sr (wb (C35 r1 p2 k3) s d rfl fun b9 a w s d => ?_)
 refine rz0 1 s rfl fun a s => ?_
 refine sz0 1 s rfl fun a s => ?_
 refine wp_seq (sz0 1 s rfl fun a s => ?_)
 obtain ⟨e424, h754, u⟩ := bt u
 refine wp_join (fun a w => ∃ c425 p426 k427 Sv428, Sl 45 [(5, sl p426 k427 e424)] a ∧ Wd ⟨w0, S0, []⟩ Sv428 [.row p426 e424.length k427 c425 35 12] [RowA c425 e424] w) ?_ ?_
 ·refine wp_block ?_
  have d := d.nilRow Record 35
  refine wp_while (fun sv10 a w => ∃ c283 p284 k285 Sv286, Sl 45 [(1, sl p6 k7 keep5), (2, pt b9), (5, sl p284 k285 sv10.1), (6, iv sv10.2)] a ∧ Wd ⟨w0, S0, []⟩ Sv286 [.box b9 (C35 r1 p2 k3) 35, .row p284 sv10.1.length k285 c283 35 12] [Sq p6 k7 keep5, Sq p2 k3 r1.Samples, RowA c283 sv10.1] w) (([] : List Record), 0) h754 ⟨[], none, 0, S0, wj s d [1, 0] [1, 2, 0]⟩ ?_
  clear h754
  repeat clear u
  rintro sv10 a w tv422 ⟨c283, p284, k285, Sv286, s, d⟩ u hd421
  refine wp_seq (sz0 4 s rfl fun a s => ?_)
  refine cd s u rfl (fun u => ?_) fun u => ?_
  ·refine sk (wp_seq (wp_block (sz0 2 s rfl fun a s => ?_)))
   refine wp_seq ?_
   obtain ⟨e664, h752, u⟩ := bt u
   refine wp_join (fun a w => ∃ Sv665, Sl 45 [(1, sl p6 k7 keep5), (2, pt b9), (5, sl p284 k285 sv10.1), (6, iv sv10.2), (7, iv e664)] a ∧ Wd ⟨w0, S0, []⟩ Sv665 [.box b9 (C35 r1 p2 k3) 35, .row p284 sv10.1.length k285 c283 35 12] [Sq p6 k7 keep5, Sq p2 k3 r1.Samples, RowA c283 sv10.1] w) ?_ ?_
   ·refine wp_block (wp_while (fun sv562 a w => ∃ Sv628, Sl 45 [(1, sl p6 k7 keep5), (2, pt b9), (5, sl p284 k285 sv10.1), (6, iv sv10.2), (7, iv sv562)] a ∧ Wd ⟨w0, S0, []⟩ Sv628 [.box b9 (C35 r1 p2 k3) 35, .row p284 sv10.1.length k285 c283 35 12] [Sq p6 k7 keep5, Sq p2 k3 r1.Samples, RowA c283 sv10.1] w) sv10.2 h752 ⟨Sv286, wj s d [0, 1] [0, 1, 2]⟩ ?_)
    clear h752
    repeat clear u
    rintro sv562 a w tv662 ⟨Sv628, s, d⟩ u hd661
    refine wp_seq (sn0 5 s rfl fun a s => ?_)
    obtain ⟨c680, hc680, u⟩ := bt u
    refine wpl_join 5 (fun a w => ∃ Sv681, Sl 45 [(1, sl p6 k7 keep5), (2, pt b9), (5, sl p284 k285 sv10.1), (6, iv sv10.2), (7, iv sv562), (26, .bool c680)] a ∧ Wd ⟨w0, S0, []⟩ Sv681 [.box b9 (C35 r1 p2 k3) 35, .row p284 sv10.1.length k285 c283 35 12] [Sq p6 k7 keep5, Sq p2 k3 r1.Samples, RowA c283 sv10.1] w) ?_ ?_
    ·rcases Bool.eq_false_or_eq_true (decide (sv562 < (keep5.length : Int))) with h679 | h679
     ·have s := s.bT 21 rfl h679
      have u := ite_t hc680 h679
      refine rn0 2 s rfl fun a s => ?_
      obtain ⟨x684, h682, u⟩ := bt u
      obtain ⟨b690, o691, q688, c689, h692, h685, h686, h687, h683⟩ := d.elemV 0 rfl h682
      have hsv693 := s
      have hwv694 := d
      subst h692
      have s := hsv693
      have d := hwv694
      obtain ⟨_, rfl, rfl⟩ := h683
      have d := d.addE h687
      refine st_val s (y_indexAt runUnderlying101 sizeOf4 rfl rfl h685.1 h685.2 h686) ⟨_, rfl, rfl⟩ rfl rfl fun a s => ?_
      refine st_val s (y_loadE1 (j := 0) (d.ceAt 0 rfl) rfl isAgg4 rfl) ⟨_, rfl, rfl⟩ rfl rfl fun a s => ?_
      refine sv s (y_pickT rfl rfl) rfl fun a s => ?_
      refine wpList_nil ?_
      obtain rfl := oi u
      exact tn ⟨Sv628, wj s d [0, 1] [1, 2, 3]⟩
     have s := s.bF 21 rfl h679
     have u := ite_f hc680 h679
     refine rn0 5 s rfl fun a s => ?_
     refine wpList_nil ?_
     obtain rfl := oi u
     exact tn ⟨Sv628, wj s d [0, 1] [0, 1, 2]⟩
    rintro a w ⟨Sv681, s, d⟩
    refine nl (cd s u rfl (fun u => ?_) fun u => ?_)
    ·refine sk (wp_block (wp_region_lit (rn0 2 s rfl fun a s => ?_)))
     obtain ⟨to700, h699, u⟩ := bt u
     refine sv s (y_assignI rfl h699) rfl fun a s => ?_
     refine wpList_nil ?_
     exact blk_normal (tn ⟨_, io u, Sv681, wj s d [0, 1] [0, 1, 2]⟩)
    refine wp_exit (then_exit (then_exit (blk_exit ?_)))
    obtain rfl := oi u
    have h701 := hd661 _ rfl
    subst h701
    exact tn ⟨Sv681, wj s d [0, 1] [0, 1, 2]⟩
   rintro a w ⟨Sv665, s, d⟩
   refine tn (sz0 3 s rfl fun a s => ?_)
   refine wp_join (fun a w => ∃ (out727 : (List Record)) (fromv728 : Int) (c723 p724 k725 Sv726 : _), compose_runs_j2 out727 fromv728 = some tv422 ∧ Sl 45 [(1, sl p6 k7 keep5), (2, pt b9), (5, sl p724 k725 out727), (6, iv fromv728)] a ∧ Wd ⟨w0, S0, []⟩ Sv726 [.box b9 (C35 r1 p2 k3) 35, .row p724 out727.length k725 c723 35 12] [Sq p6 k7 keep5, Sq p2 k3 r1.Samples, RowA c723 out727] w) ?_ ?_
   ·refine cd s u rfl (fun u => ?_) fun u => ?_
    ·refine sn 3 [0] s d rfl rfl fun a s => ?_
     obtain ⟨rv733, h732, u⟩ := bt u
     refine cR s (record_Sub_ok h732 d.dom (d.envAt 1 rfl)) (do_call call100 rfl) rfl ?_
     rintro v741 Sv738 w a h739 ⟨p734, k735, c737, rfl, h742, h736⟩ s
     have d := (d.callN h739 h742).addE (e := RowA c737 rv733.1.Samples) h736
     refine rn0 3 s rfl fun a s => ?_
     refine wa Z4 s d zeroValue35 fun b743 a w s d => ?_
     refine ws (C35 rv733.1 p734 k735) s d 0 rfl rfl rfl sizeOf35 fun a w s d => ?_
     refine rz0 1 s rfl fun a s => ?_
     refine wp_region_lit (rn 2 [0] s d rfl rfl fun a s => ?_)
     obtain ⟨Sv746, d⟩ := w_share (α := Int) d 1 rfl 0 rfl
     refine w_litSlice (α := Record) (vs := [V35 rv733.1 p734 k735]) (cs := (C35 rv733.1 p734 k735)) (xs := ([rv733.1] : List Record)) s d El27 rfl rfl rfl rfl rfl rfl ⟨⟨_, _, _, _, _, _, _, _, _, _, _, _, rfl, rfl, rfl, rfl, rfl, rfl, rfl, rfl, rfl, rfl, rfl, rfl, ⟨_, _, _, rfl, d.envAt 0 rfl⟩⟩, rfl⟩ rfl trivial rfl fun b745 a w s d => ?_
     obtain ⟨l748, h747, u⟩ := bt u
     refine w_appendR (α := Record) s d El27 3 rfl rfl rfl 5 rfl 0 rfl 0 rfl h747 rfl trivial ?_
     intro p749 k750 c751 a w s d
     refine rz0 3 s rfl fun a s => ?_
     exact ⟨l748, e664, c751, p749, k750, Sv746, u, wj s d [2, 3] [4, 5, 0]⟩
    exact sk ⟨sv10.1, sv10.2, c283, p284, k285, Sv665, u, wj s d [0, 1] [0, 1, 2]⟩
   rintro a w ⟨out727, fromv728, c723, p724, k725, Sv726, u, s, d⟩
   refine blk_normal (tn (wp_region_lit (rn0 2 s rfl fun a s => ?_)))
   obtain ⟨fromv730, h729, u⟩ := bt u
   refine sv s (y_assignI rfl h729) rfl fun a s => ?_
   exact nl ⟨_, io u, c723, p724, k725, Sv726, wj s d [0, 1] [0, 1, 2]⟩
  refine wp_exit (then_exit (then_exit (blk_exit ?_)))
  obtain rfl := oi u
  have h753 := hd421 _ rfl
  subst h753
  exact tn ⟨c283, p284, k285, Sv286, wj s d [1] [2]⟩
 rintro a w ⟨c425, p426, k427, Sv428, s, d⟩
 refine tn (sz0 2 s rfl fun a s => ?_)
 obtain rfl := oi u
 exact q1 s rfl (d.ret ⟨p426, k427, c425, rfl, (d.outs [0] (by decide) rfl), (d.envAt 0 rfl)⟩)
theorem compose_compose_ok {w0 S0 p2 k3 l1 r} (u : compose_compose l1 = some r) (hS : Dm S0 w0) (h4 : (Sq p2 k3 l1).p S0 w0) : Ck Tryz.prog 49 #[sl p2 k3 l1] w0 S0 [] law15_two_rd r := by
 refine en 45 func49 rfl hS rfl rfl rfl fun a s d => ?_
 have d := d.addE h4
 refine sz0 1 s rfl fun a s => ?_
 refine sn0 1 s rfl fun a s => ?_
 obtain ⟨rv6, h5, u⟩ := bt u
 refine cR s (compose_order_ok h5 d.dom (d.envAt 0 rfl)) (do_call call62 rfl) rfl ?_
 rintro v14 Sv11 w a h12 ⟨p7, k8, c10, rfl, h15, h9⟩ s
 have d := (d.callN h12 h15).addE (e := RowA c10 rv6) h9
 refine rz0 1 s rfl fun a s => ?_
 refine sz0 1 s rfl fun a s => ?_
 refine wp_seq (sz0 3 s rfl fun a s => ?_)
 obtain ⟨e586, h1095, u⟩ := bt u
 refine wp_join (fun a w => ∃ c587 p588 k589 Sv590, Sl 45 [(4, sl p588 k589 e586)] a ∧ Wd ⟨w0, S0, []⟩ Sv590 [.row p588 e586.length k589 c587 35 12] [RowA c587 e586] w) ?_ ?_
 ·refine wp_block ?_
  have d := d.nilRow Record 35
  refine wp_while (fun sv16 a w => ∃ c393 p394 k395 Sv396, Sl 45 [(3, sl p7 k8 rv6), (4, sl p394 k395 sv16.1), (12, sl p7 k8 rv6), (13, iv (rv6.length : Int)), (14, iv sv16.2)] a ∧ Wd ⟨w0, S0, []⟩ Sv396 [.row p7 rv6.length k8 c10 35 12, .row p394 sv16.1.length k395 c393 35 12] [RowA c10 rv6, RowA c393 sv16.1] w) (([] : List Record), 0) h1095 ⟨[], none, 0, Sv11, wj s d [1, 0] [1, 0]⟩ ?_
  clear h1095
  repeat clear u
  rintro sv16 a w tv584 ⟨c393, p394, k395, Sv396, s, d⟩ u hd583
  refine sz0 1 s rfl fun a s => ?_
  refine wp_seq (cd s u rfl (fun u => ?_) fun u => ?_)
  ·refine sk (wp_seq (wp_block (sr ?_)))
   obtain ⟨x780, h778, u⟩ := bt u
   obtain ⟨b787, q784, c785, h788, h781, h782, h786, h779⟩ := d.elemRV (α := Record) 0 rfl 0 rfl h778
   have hsv789 := s
   have hwv790 := d
   subst h788
   have s := hsv789
   have d := hwv790
   obtain ⟨_, _, _, _, _, _, _, _, _, _, _, _, rfl, rfl, rfl, rfl, rfl, rfl, rfl, rfl, rfl, rfl, rfl, rfl, ⟨p791, n792, k793, rfl, h794⟩⟩ := h779
   obtain rfl := h794.1
   have d := d.addE (e := SlA p791 _ k793 x780.Samples) h794
   refine sv s (y_indexAt runUnderlying27 sizeOf35 rfl rfl h781.1 h781.2 h782) rfl fun a s => ?_
   refine sv s (y_loadQA (j := 0) (d.ownAt 0 rfl) rfl isAgg35 sizeOf35 h786 rfl rfl) rfl fun a s => ?_
   refine wa Z4 s d zeroValue35 fun b795 a w s d => ?_
   refine ws (C35 x780 p791 k793) s d 0 rfl rfl rfl sizeOf35 fun a w s d => ?_
   refine nl (sz0 1 s rfl fun a s => ?_)
   refine wp_seq (sz0 3 s rfl fun a s => ?_)
   obtain ⟨e934, h1081, u⟩ := bt u
   refine wp_join (fun a w => ∃ c935 p936 k937 Sv938, Sl 45 [(3, sl (ad b787) k8 rv6), (4, sl p394 k395 sv16.1), (6, pt b795), (7, sl p936 k937 e934), (12, sl (ad b787) k8 rv6), (13, iv (rv6.length : Int)), (14, iv sv16.2)] a ∧ Wd ⟨w0, S0, []⟩ Sv938 [.box b795 (C35 x780 p791 k793) 35, .row (ad b787) rv6.length k8 c10 35 12, .row p394 sv16.1.length k395 c393 35 12, .row p936 e934.length k937 c935 45 2] [Sq p791 k793 x780.Samples, RowA c10 rv6, RowA c393 sv16.1, RowA c935 e934] w) ?_ ?_
   ·refine wp_block ?_
    have d := d.nilRow Span 45
    refine wp_while (fun sv796 a w => ∃ c885 p886 k887 Sv888, Sl 45 [(3, sl (ad b787) k8 rv6), (4, sl p394 k395 sv16.1), (6, pt b795), (7, sl p886 k887 sv796.1), (12, sl (ad b787) k8 rv6), (13, iv (rv6.length : Int)), (14, iv sv16.2), (18, sl (ad b787) k8 rv6), (19, iv (rv6.length : Int)), (20, iv sv796.2)] a ∧ Wd ⟨w0, S0, []⟩ Sv888 [.box b795 (C35 x780 p791 k793) 35, .row (ad b787) rv6.length k8 c10 35 12, .row p394 sv16.1.length k395 c393 35 12, .row p886 sv796.1.length k887 c885 45 2] [Sq p791 k793 x780.Samples, RowA c10 rv6, RowA c393 sv16.1, RowA c885 sv796.1] w) (([] : List Span), 0) h1081 ⟨[], none, 0, Sv396, wj s d [1, 2, 3, 0] [1, 2, 3, 0]⟩ ?_
    clear h1081
    repeat clear u
    rintro sv796 a w tv932 ⟨c885, p886, k887, Sv888, s, d⟩ u hd931
    refine sz0 1 s rfl fun a s => ?_
    refine wp_seq (cd s u rfl (fun u => ?_) fun u => ?_)
    ·refine sk (wp_seq (wp_block (sr ?_)))
     obtain ⟨x984, h982, u⟩ := bt u
     obtain ⟨q988, c989, h985, h986, h990, h983⟩ := d.elemRK (α := Record) 1 rfl 1 rfl h982
     obtain ⟨_, _, _, _, _, _, _, _, _, _, _, _, rfl, rfl, rfl, rfl, rfl, rfl, rfl, rfl, rfl, rfl, rfl, rfl, ⟨p991, n992, k993, rfl, h994⟩⟩ := h983
     obtain rfl := h994.1
     have d := d.addE (e := SlA p991 _ k993 x984.Samples) h994
     refine sv s (y_indexAt runUnderlying27 sizeOf35 rfl rfl h985.1 h985.2 h986) rfl fun a s => ?_
     refine sv s (y_loadQA (j := 0) (d.ownAt 1 rfl) rfl isAgg35 sizeOf35 h990 rfl rfl) rfl fun a s => ?_
     refine wa Z4 s d zeroValue35 fun b995 a w s d => ?_
     refine ws (C35 x984 p991 k993) s d 0 rfl rfl rfl sizeOf35 fun a w s d => ?_
     refine nl (sn 2 [0, 1] s d rfl rfl fun a s => ?_)
     obtain ⟨rv997, h996, u⟩ := bt u
     refine cV s d (record_Better_ok h996 d.bdom (d.bE 0 rfl) (d.bE 1 rfl)) (do_call call71 rfl) rfl fun a w s d => ?_
     refine nl (wp_join (fun a w => ∃ (better1022 : (List Span)) (c1018 p1019 k1020 Sv1021 : _), compose_compose_j1 sv796 better1022 = some tv932 ∧ Sl 45 [(3, sl (ad b787) k8 rv6), (4, sl p394 k395 sv16.1), (6, pt b795), (7, sl p1019 k1020 better1022), (12, sl (ad b787) k8 rv6), (13, iv (rv6.length : Int)), (14, iv sv16.2), (18, sl (ad b787) k8 rv6), (19, iv (rv6.length : Int)), (20, iv sv796.2)] a ∧ Wd ⟨w0, S0, []⟩ Sv1021 [.box b795 (C35 x780 p791 k793) 35, .row (ad b787) rv6.length k8 c10 35 12, .row p394 sv16.1.length k395 c393 35 12, .row p1019 better1022.length k1020 c1018 45 2] [Sq p791 k793 x780.Samples, RowA c10 rv6, RowA c393 sv16.1, RowA c1018 better1022] w) ?_ ?_)
     ·refine cd s u rfl (fun u => ?_) fun u => ?_
      ·refine wp_region_lit (rn 2 [0] s d rfl rfl fun a s => ?_)
       obtain ⟨rv1025, h1024, u⟩ := bt u
       refine cV s d (compose_extent_ok h1024 d.bdom (d.bE 0 rfl)) (do_call call59 rfl) rfl fun a w s d => ?_
       refine w_litSlice (α := Span) (vs := [V45 rv1025]) (cs := (C45 rv1025)) (xs := ([rv1025] : List Span)) s d El52 rfl rfl rfl rfl rfl rfl ⟨⟨_, _, rfl, rfl, rfl⟩, rfl⟩ rfl trivial rfl fun b1032 a w s d => ?_
       obtain ⟨l1034, h1033, u⟩ := bt u
       refine w_appendR (α := Span) s d El52 5 rfl rfl rfl 5 rfl 0 rfl 0 rfl h1033 rfl trivial ?_
       intro p1035 k1036 c1037 a w s d
       refine rz0 1 s rfl fun a s => ?_
       exact ⟨l1034, c1037, p1035, k1036, Sv888, u, wj s d [2, 3, 4, 5] [3, 4, 5, 0]⟩
      exact sk ⟨sv796.1, c885, p886, k887, Sv888, u, wj s d [1, 2, 3, 4] [1, 2, 3, 4]⟩
     rintro a w ⟨better1022, c1018, p1019, k1020, Sv1021, u, s, d⟩
     refine blk_normal (tn (wp_region_lit (rz0 2 s rfl fun a s => ?_)))
     exact ⟨_, io u, c1018, p1019, k1020, Sv1021, wj s d [0, 1, 2, 3] [0, 1, 2, 3]⟩
    refine wp_exit (then_exit (then_exit (blk_exit ?_)))
    obtain rfl := oi u
    have h1038 := hd931 _ rfl
    subst h1038
    exact tn ⟨c885, p886, k887, Sv888, wj s d [0, 1, 2, 3] [0, 1, 2, 3]⟩
   rintro a w ⟨c935, p936, k937, Sv938, s, d⟩
   refine tn ?_
   obtain ⟨rv1040, h1039, u⟩ := bt u
   obtain ⟨rv1046, h1045, u⟩ := bt u
   obtain ⟨rv1052, h1051, u⟩ := bt u
   obtain ⟨l1058, h1057, u⟩ := bt u
   refine wp_only (fun a w => ∃ Sv1062 c1061 k1060 p1059, Sl 45 [(3, sl (ad b787) k8 rv6), (4, sl p1059 k1060 l1058), (12, sl (ad b787) k8 rv6), (13, iv (rv6.length : Int)), (14, iv sv16.2)] a ∧ Wd ⟨w0, S0, []⟩ Sv1062 [.row (ad b787) rv6.length k8 c10 35 12, .row p1059 l1058.length k1060 c1061 35 12] [RowA c10 rv6, RowA c1061 l1058] w) ?_ ?_
   ·refine h_c [0, 1] [] d rfl rfl (by kernel_rfl) rfl fun hC d => ?_
    refine gn 4 [0, 1, 2, 3] [0, 0] s hC rfl rfl rfl fun a s => ?_
    refine ho 4 rfl ?_
    obtain ⟨Sv1063, d⟩ := w_share (α := Span) d 3 rfl 3 rfl
    refine cR s (span_Normal_ok h1039 d.dom (d.envAt 0 rfl)) (do_call call60 rfl) rfl ?_
    rintro v1067 Sv1064 w a h1065 ⟨p1041, k1042, c1044, rfl, h1068, h1043⟩ s
    have d := (d.callN h1065 h1068).addE (e := RowA c1044 rv1040) h1043
    refine h_n [1, 2] [] d rfl rfl fun hC => ?_
    refine ho 5 rfl ?_
    obtain ⟨Sv1069, d⟩ := w_share (α := Span) d 0 rfl 0 rfl
    refine cR s (compose_kept_ok h1045 d.dom (d.envAt 3 rfl) (d.envAt 0 rfl)) (do_call call73 rfl) rfl ?_
    rintro v1073 Sv1070 w a h1071 ⟨p1047, k1048, c1050, rfl, h1074, h1049⟩ s
    have d := (d.callN h1071 h1074).addE (e := RowA c1050 rv1046) h1049
    refine h_n [1, 2] [] d rfl rfl fun hC => ?_
    refine ho 6 rfl ?_
    obtain ⟨Sv1075, d⟩ := w_share (α := Bool) d 0 rfl 0 rfl
    refine cR s (compose_runs_ok h1051 d.dom (d.envAt 5 rfl) (d.envAt 0 rfl)) (do_call call72 rfl) rfl ?_
    rintro v1079 Sv1076 w a h1077 ⟨p1053, k1054, c1056, rfl, h1080, h1055⟩ s
    have d := (d.callN h1077 h1080).addE (e := RowA c1056 rv1052) h1055
    refine h_n [1, 2] [] d rfl rfl fun hC => ?_
    refine h_d [1, 2, 0] [] [0, 1] [] d rfl rfl rfl rfl fun hC => ?_
    refine ho 7 rfl ?_
    refine w_appendR (α := Record) s d El27 3 rfl rfl rfl 8 rfl 0 rfl 0 rfl h1057 rfl trivial ?_
    intro p1059 k1060 c1061 a w s d
    refine h_n [1, 2, 0] [] d rfl rfl fun hC => ?_
    refine gv s 8 rfl rfl hC (fun w hC => y_assign rfl) fun a s => ?_
    refine h_done (by kernel_rfl) ?_
    exact ⟨Sv1076, c1061, k1060, p1059, wj s d [2, 3] [8, 0]⟩
   rintro a w ⟨Sv1062, c1061, k1060, p1059, s, d⟩
   refine blk_normal (tn (wp_region_lit (rz0 2 s rfl fun a s => ?_)))
   exact ⟨_, io u, c1061, p1059, k1060, Sv1062, wj s d [0, 1] [0, 1]⟩
  refine wp_exit (then_exit (then_exit (blk_exit ?_)))
  obtain rfl := oi u
  have h1082 := hd583 _ rfl
  subst h1082
  exact tn ⟨c393, p394, k395, Sv396, wj s d [1] [1]⟩
 rintro a w ⟨c587, p588, k589, Sv590, s, d⟩
 refine tn (sn0 1 s rfl fun a s => ?_)
 obtain ⟨rv1084, h1083, u⟩ := bt u
 refine cR s (slices_SortFunc_Lapi_Record_api_Record_ok h1083 d.dom (d.ins [0] (by decide) rfl) (d.envAt 0 rfl) (record_Compare_fn _ _)) (do_call call74 rfl) rfl ?_
 rintro v1091 Sv1088 w a h1089 ⟨c1085, rfl, h1092, h1086, h1087⟩ s
 have d := (d.callO [0] [] (by decide) rfl h1089 h1092).addE (e := RowA c1085 rv1084) h1086
 have h1093 := h1087
 have h1094 := Eq.symm h1093
 try have s := s.fl 4 rfl h1094
 try have s := s.fl 42 rfl h1094
 refine nl (sz0 2 s rfl fun a s => ?_)
 obtain rfl := oi u
 exact q1 s rfl (d.ret ⟨p588, k589, c1085, rfl, (d.outs [0] (by decide) rfl), (d.envAt 0 rfl)⟩)
abbrev compose_Compose_rd (w0 : World) (X : List Nat) (r : ((List Record) × Int)) : Rd := fun S w v => ∃ p0_0 k0_0 c0_0, v = .tuple #[sl p0_0 k0_0 r.1, iv r.2] ∧ Outs X w0 S w [.row p0_0 r.1.length k0_0 c0_0 35 12] ∧ (RowA c0_0 r.1).p S w
theorem compose_Compose_ok {w0 S0 p2 k3 l1 r} (u : compose_Compose l1 = some r) (hS : Dm S0 w0) (h4 : (Sq p2 k3 l1).p S0 w0) : Ck Tryz.prog 17 #[sl p2 k3 l1] w0 S0 [] compose_Compose_rd r := by
 refine en 9 func17 rfl hS rfl rfl rfl fun a s d => ?_
 have d := d.addE h4
 refine sz0 2 s rfl fun a s => ?_
 refine wp_seq (sn0 1 s rfl fun a s => ?_)
 obtain ⟨rv6, h5, u⟩ := bt u
 refine cV s d (compose_Valid_ok h5 d.bdom (d.bE 0 rfl)) (do_call call41 rfl) rfl fun a w s d => ?_
 refine rz0 1 s rfl fun a s => ?_
 refine cd s u rfl (fun u => ?_) fun u => ?_
 ·refine sz0 2 s rfl fun a s => ?_
  obtain rfl := oi u
  have d := d.nilRow Record 35
  exact wp_ret (then_ret (ret2 s rfl (rv_tmp rfl) (rv_tmp rfl) (d.ret ⟨none, 0, [], rfl, (d.outs [0] (by decide) rfl), (d.envAt 0 rfl)⟩)))
 refine sk (sn0 1 s rfl fun a s => ?_)
 obtain ⟨rv15, h14, u⟩ := bt u
 refine cR s (compose_compose_ok h14 d.dom (d.envAt 0 rfl)) (do_call call49 rfl) rfl ?_
 rintro v23 Sv20 w a h21 ⟨p16, k17, c19, rfl, h24, h18⟩ s
 have d := (d.callN h21 h24).addE (e := RowA c19 rv15) h18
 refine rz0 2 s rfl fun a s => ?_
 obtain rfl := oi u
 exact wp_ret (ret2 s rfl (rv_tmp rfl) (rv_tmp rfl) (d.ret ⟨p16, k17, c19, rfl, (d.outs [0] (by decide) rfl), (d.envAt 0 rfl)⟩))
abbrev compose_Value_rd (w0 : World) (X : List Nat) (r : (Int × Bool)) : Rd := fun S w v => v = .tuple #[iv r.1, .bool r.2]
theorem compose_Value_ok {w0 S0 p2 k3 l1 t5 r} (u : compose_Value l1 t5 = some r) (hS : Dm S0 w0) (h4 : (Sq p2 k3 l1).p S0 w0) : Ck Tryz.prog 24 #[sl p2 k3 l1, iv t5] w0 S0 [] compose_Value_rd r := by
 refine en 44 func24 rfl hS rfl rfl rfl fun a s d => ?_
 have d := d.addE h4
 refine sz0 2 s rfl fun a s => ?_
 refine wp_seq (sn0 1 s rfl fun a s => ?_)
 obtain ⟨rv7, h6, u⟩ := bt u
 refine cV s d (compose_Valid_ok h6 d.bdom (d.bE 0 rfl)) (do_call call41 rfl) rfl fun a w s d => ?_
 refine rz0 1 s rfl fun a s => ?_
 refine cd s u rfl (fun u => ?_) fun u => ?_
 ·refine sz0 2 s rfl fun a s => ?_
  obtain rfl := oi u
  exact wp_ret (then_ret (ret2 s rfl (rv_tmp rfl) (rv_tmp rfl) (d.ret rfl)))
 refine sk (wp_seq (sn0 1 s rfl fun a s => ?_))
 obtain ⟨rv16, h15, u⟩ := bt u
 refine cR s (compose_compose_ok h15 d.dom (d.envAt 0 rfl)) (do_call call49 rfl) rfl ?_
 rintro v24 Sv21 w a h22 ⟨p17, k18, c20, rfl, h25, h19⟩ s
 have d := (d.callN h22 h25).addE (e := RowA c20 rv16) h19
 refine rz0 2 s rfl fun a s => ?_
 refine wp_block (wp_while (fun sv454 a w => ∃ Sv738, Sl 44 [(1, iv t5), (14, sl p17 k18 rv16), (15, iv (rv16.length : Int)), (16, iv sv454)] a ∧ Wd ⟨w0, S0, []⟩ Sv738 [.row p17 rv16.length k18 c20 35 12] [RowA c20 rv16] w) 0 u ⟨Sv21, wj s d [0] [0]⟩ ?_)
 repeat clear u
 rintro sv454 a w tv881 ⟨Sv738, s, d⟩ u hd880
 refine sz0 1 s rfl fun a s => ?_
 refine wp_seq (cd s u rfl (fun u => ?_) fun u => ?_)
 ·refine sk (wp_seq (wp_block (sr ?_)))
  obtain ⟨x1028, h1026, u⟩ := bt u
  obtain ⟨b1035, q1032, c1033, h1036, h1029, h1030, h1034, h1027⟩ := d.elemRV (α := Record) 0 rfl 0 rfl h1026
  have hsv1037 := s
  have hwv1038 := d
  subst h1036
  have s := hsv1037
  have d := hwv1038
  obtain ⟨_, _, _, _, _, _, _, _, _, _, _, _, rfl, rfl, rfl, rfl, rfl, rfl, rfl, rfl, rfl, rfl, rfl, rfl, ⟨p1039, n1040, k1041, rfl, h1042⟩⟩ := h1027
  obtain rfl := h1042.1
  have d := d.addE (e := SlA p1039 _ k1041 x1028.Samples) h1042
  refine sv s (y_indexAt runUnderlying27 sizeOf35 rfl rfl h1029.1 h1029.2 h1030) rfl fun a s => ?_
  refine sv s (y_loadQA (j := 0) (d.ownAt 0 rfl) rfl isAgg35 sizeOf35 h1034 rfl rfl) rfl fun a s => ?_
  refine wa Z4 s d zeroValue35 fun b1043 a w s d => ?_
  refine ws (C35 x1028 p1039 k1041) s d 0 rfl rfl rfl sizeOf35 fun a w s d => ?_
  refine nl (sz 4 [0] s d rfl rfl fun a s => ?_)
  refine wp_block (wp_while (fun sv1166 a w => ∃ Sv1246, Sl 44 [(1, iv t5), (7, pt b1043), (14, sl (ad b1035) k18 rv16), (15, iv (rv16.length : Int)), (16, iv sv454), (21, sl p1039 k1041 x1028.Samples), (22, iv (x1028.Samples.length : Int)), (23, iv sv1166)] a ∧ Wd ⟨w0, S0, []⟩ Sv1246 [.box b1043 (C35 x1028 p1039 k1041) 35, .row (ad b1035) rv16.length k18 c20 35 12] [Sq p1039 k1041 x1028.Samples, RowA c20 rv16] w) 0 u ⟨Sv738, wj s d [0, 1] [0, 1]⟩ ?_)
  repeat clear u
  rintro sv1166 a w tv1287 ⟨Sv1246, s, d⟩ u hd1286
  refine sz0 1 s rfl fun a s => ?_
  refine wp_seq (cd s u rfl (fun u => ?_) fun u => ?_)
  ·refine sk (wp_seq (wp_block (sn0 1 s rfl fun a s => ?_)))
   obtain ⟨x1332, h1330, u⟩ := bt u
   obtain ⟨b1338, o1339, q1336, c1337, h1340, h1333, h1334, h1335, h1331⟩ := d.elemV 0 rfl h1330
   have hsv1341 := s
   have hwv1342 := d
   subst h1340
   have s := hsv1341
   have d := hwv1342
   obtain ⟨_, rfl, rfl⟩ := h1331
   have d := d.addE h1335
   refine sv s (y_indexAt runUnderlying22 sizeOf3 rfl rfl h1333.1 h1333.2 h1334) rfl fun a s => ?_
   refine sv s (y_loadE1 (j := 0) (d.ceAt 0 rfl) rfl isAgg3 rfl) rfl fun a s => ?_
   refine rz0 2 s rfl fun a s => ?_
   refine sn 2 [0] s d rfl rfl fun a s => ?_
   obtain ⟨rv1344, h1343, u⟩ := bt u
   refine cV s d (compose_at_ok h1343 d.bdom (d.bE 1 rfl)) (do_call call56 rfl) rfl fun a w s d => ?_
   refine rn0 3 s rfl fun a s => ?_
   obtain ⟨c1358, hc1358, u⟩ := bt u
   refine wpl_join 7 (fun a w => ∃ Sv1359, Sl 44 [(1, iv t5), (7, pt b1043), (9, iv x1332), (14, sl (ad b1035) k18 rv16), (15, iv (rv16.length : Int)), (16, iv sv454), (21, sl (some ⟨b1338, o1339, none⟩) k1041 x1028.Samples), (22, iv (x1028.Samples.length : Int)), (23, iv sv1166), (40, .bool c1358)] a ∧ Wd ⟨w0, S0, []⟩ Sv1359 [.box b1043 (C35 x1028 (some ⟨b1338, o1339, none⟩) k1041) 35, .row (ad b1035) rv16.length k18 c20 35 12] [Sq (some ⟨b1338, o1339, none⟩) k1041 x1028.Samples, RowA c20 rv16] w) ?_ ?_
   ·rcases Bool.eq_false_or_eq_true (decide (rv1344 ≤ t5)) with h1357 | h1357
    ·have s := s.bT 33 rfl h1357
     have u := ite_t hc1358 h1357
     refine rn 4 [0] s d rfl rfl fun a s => ?_
     obtain ⟨rv1361, h1360, u⟩ := bt u
     refine st_callR s (compose_at_ok h1360 d.bdom (d.bE 1 rfl)) (do_call call56 rfl) ⟨_, rfl, rfl⟩ rfl rfl ?_
     rintro v1365 Sv1362 w a h1363 rfl s
     have d := d.callB h1363
     refine rn0 2 s rfl fun a s => ?_
     refine wpList_nil ?_
     obtain rfl := oi u
     exact tn ⟨Sv1246, wj s d [0, 1] [1, 2]⟩
    have s := s.bF 33 rfl h1357
    have u := ite_f hc1358 h1357
    refine rn0 7 s rfl fun a s => ?_
    refine wpList_nil ?_
    obtain rfl := oi u
    exact tn ⟨Sv1246, wj s d [0, 1] [1, 2]⟩
   rintro a w ⟨Sv1359, s, d⟩
   refine nl (cd s u rfl (fun u => ?_) fun u => ?_)
   ·refine sz0 3 s rfl fun a s => ?_
    obtain rfl := oi u
    have h1369 := hd1286 _ rfl
    subst h1369
    have h1370 := hd880 _ rfl
    subst h1370
    exact wp_ret (blk_ret (then_ret (then_ret (blk_ret (blk_ret (then_ret (then_ret (blk_ret (then_ret (ret2 s rfl (rv_tmp rfl) (rv_tmp rfl) (d.ret rfl)))))))))))
   refine wp_skip (blk_normal (tn (wp_region_lit (rz0 2 s rfl fun a s => ?_))))
   exact ⟨_, io u, Sv1359, wj s d [0, 1] [0, 1]⟩
  obtain ⟨rv1371, u, h1372⟩ := map_t u
  have h1372 := (hd1286 _ h1372.symm).symm
  subst h1372
  refine wp_exit (then_exit (then_exit (blk_exit (blk_normal (tn (wp_region_lit (rz0 2 s rfl fun a s => ?_)))))))
  exact ⟨_, io u, Sv1246, wj s d [1] [1]⟩
 obtain ⟨rv1373, u, h1374⟩ := map_t u
 have h1374 := (hd880 _ h1374.symm).symm
 subst h1374
 refine wp_exit (then_exit (then_exit (blk_exit (tn (sz0 2 s rfl fun a s => ?_)))))
 obtain rfl := oi u
 exact wp_ret (ret2 s rfl (rv_tmp rfl) (rv_tmp rfl) (d.ret rfl))
theorem law15_sane_ok {w0 S0 r} (u : law15_sane = some r) (hS : Dm S0 w0) : Ck Tryz.prog 12 #[] w0 S0 [] made_Light_rd r := by
 refine en 45 func12 rfl hS rfl rfl rfl fun a s d => ?_
 refine sz0 1 s rfl fun a s => ?_
 refine sr ?_
 obtain ⟨rv2, h1, u⟩ := bt u
 refine cR s (law15_two_ok h1 d.dom) (do_call call46 rfl) rfl ?_
 rintro v10 Sv7 w a h8 ⟨p3, k4, c6, rfl, h11, h5⟩ s
 have d := (d.callN h8 h11).addE (e := RowA c6 rv2) h5
 obtain ⟨rv13, h12, u⟩ := bt u
 obtain ⟨Sv18, d⟩ := w_share (α := Record) d 0 rfl 0 rfl
 refine cR s (compose_Compose_ok h12 d.dom (d.envAt 0 rfl)) (do_call call17 rfl) rfl ?_
 rintro v22 Sv19 w a h20 ⟨p14, k15, c17, rfl, h23, h16⟩ s
 have d := (d.callN h20 h23).addE (e := RowA c17 rv13.1) h16
 refine rz0 5 s rfl fun a s => ?_
 refine sr ?_
 obtain ⟨rv25, h24, u⟩ := bt u
 refine cR s (law15_two_ok h24 d.dom) (do_call call46 rfl) rfl ?_
 rintro v33 Sv30 w a h31 ⟨p26, k27, c29, rfl, h34, h28⟩ s
 have d := (d.callN h31 h34).addE (e := RowA c29 rv25) h28
 obtain ⟨rv36, h35, u⟩ := bt u
 refine cV s d (compose_Value_ok h35 d.bdom (d.bRow 0 rfl 0 rfl)) (do_call call24 rfl) rfl fun a w s d => ?_
 refine rz0 5 s rfl fun a s => ?_
 refine sn0 3 s rfl fun a s => ?_
 refine rA 4 17 [] s d rfl rfl rfl rfl rfl fun a s => ?_
 refine mv s rfl rfl fun a s => ?_
 obtain ⟨c61, hc61, u⟩ := bt u
 refine wpl_join 7 (fun a w => ∃ Sv62, Sl 45 [(1, sl p14 k15 rv13.1), (3, iv rv36.1), (4, .bool rv36.2), (29, .bool c61)] a ∧ Wd ⟨w0, S0, []⟩ Sv62 [.row p14 rv13.1.length k15 c17 35 12] [RowA c17 rv13.1] w) ?_ ?_
 ·rcases Bool.eq_false_or_eq_true ((rv13.2 == 0) && ((rv13.1.length : Int) == 2)) with h60 | h60
  ·have s := s.bT 22 rfl h60
   have u := ite_t hc61 h60
   refine st_val s (y_move rfl) ⟨_, rfl, rfl⟩ rfl rfl fun a s => ?_
   obtain ⟨x65, h63, u⟩ := bt u
   obtain ⟨b72, q69, c70, h73, h66, h67, h71, h64⟩ := d.elemRV (α := Record) 1 rfl 1 rfl h63
   have hsv74 := s
   have hwv75 := d
   subst h73
   have s := hsv74
   have d := hwv75
   obtain ⟨_, _, _, _, _, _, _, _, _, _, _, _, rfl, rfl, rfl, rfl, rfl, rfl, rfl, rfl, rfl, rfl, rfl, rfl, ⟨p76, n77, k78, rfl, h79⟩⟩ := h64
   obtain rfl := h79.1
   have d := d.addE (e := SlA p76 _ k78 x65.Samples) h79
   refine st_val s (y_indexAt runUnderlying27 sizeOf35 rfl rfl h66.1 h66.2 h67) ⟨_, rfl, rfl⟩ rfl rfl fun a s => ?_
   refine st_val s (y_fieldAddr (o' := q69 + 11) runUnderlying35 rfl sizeOf22 rfl rfl rfl) ⟨_, rfl, rfl⟩ rfl rfl fun a s => ?_
   refine st_val s (y_loadQ1 (j := 11) (d.ownAt 1 rfl) rfl isAgg22 h71 rfl) ⟨_, rfl, rfl⟩ rfl rfl fun a s => ?_
   refine rn0 3 s rfl fun a s => ?_
   refine wpList_nil ?_
   obtain rfl := oi u
   exact tn ⟨Sv30, wj s d [1] [2]⟩
  have s := s.bF 22 rfl h60
  have u := ite_f hc61 h60
  refine rn0 7 s rfl fun a s => ?_
  refine wpList_nil ?_
  obtain rfl := oi u
  exact tn ⟨Sv30, wj s d [1] [1]⟩
 rintro a w ⟨Sv62, s, d⟩
 refine mv s rfl rfl fun a s => ?_
 obtain ⟨c98, hc98, u⟩ := bt u
 refine wpl_join 7 (fun a w => ∃ Sv99, Sl 45 [(3, iv rv36.1), (4, .bool rv36.2), (37, .bool c98)] a ∧ Wd ⟨w0, S0, []⟩ Sv99 [] [] w) ?_ ?_
 ·rcases Bool.eq_false_or_eq_true c61 with h97 | h97
  ·have s := s.bT 30 rfl h97
   have u := ite_t hc98 h97
   refine st_val s (y_move rfl) ⟨_, rfl, rfl⟩ rfl rfl fun a s => ?_
   obtain ⟨x102, h100, u⟩ := bt u
   obtain ⟨b109, q106, c107, h110, h103, h104, h108, h101⟩ := d.elemRV (α := Record) 0 rfl 0 rfl h100
   have hsv111 := s
   have hwv112 := d
   subst h110
   have s := hsv111
   have d := hwv112
   obtain ⟨_, _, _, _, _, _, _, _, _, _, _, _, rfl, rfl, rfl, rfl, rfl, rfl, rfl, rfl, rfl, rfl, rfl, rfl, ⟨p113, n114, k115, rfl, h116⟩⟩ := h101
   obtain rfl := h116.1
   have d := d.addE (e := SlA p113 _ k115 x102.Samples) h116
   refine st_val s (y_indexAt runUnderlying27 sizeOf35 rfl rfl h103.1 h103.2 h104) ⟨_, rfl, rfl⟩ rfl rfl fun a s => ?_
   refine st_val s (y_fieldAddr (o' := q106 + 11) runUnderlying35 rfl sizeOf22 rfl rfl rfl) ⟨_, rfl, rfl⟩ rfl rfl fun a s => ?_
   refine st_val s (y_loadQ1 (j := 11) (d.ownAt 0 rfl) rfl isAgg22 h108 rfl) ⟨_, rfl, rfl⟩ rfl rfl fun a s => ?_
   refine rn0 3 s rfl fun a s => ?_
   refine wpList_nil ?_
   obtain rfl := oi u
   exact tn ⟨Sv62, wj s d [] []⟩
  have s := s.bF 30 rfl h97
  have u := ite_f hc98 h97
  refine rn0 7 s rfl fun a s => ?_
  refine wpList_nil ?_
  obtain rfl := oi u
  exact tn ⟨Sv62, wj s d [] []⟩
 rintro a w ⟨Sv99, s, d⟩
 refine mv s rfl rfl fun a s => ?_
 refine rA 2 38 [] s d rfl rfl rfl rfl rfl fun a s => ?_
 refine mv s rfl rfl fun a s => ?_
 refine rA 3 41 [] s d rfl rfl rfl rfl rfl fun a s => ?_
 refine rz0 1 s rfl fun a s => ?_
 obtain rfl := oi u
 exact q1 s rfl (d.ret rfl)
abbrev made_Roll_rd (w0 : World) (X : List Nat) (r : Dice) : Rd := fun S w v => ∃ b_0 p0_0 k0_0, v = pt b_0 ∧ Outs X w0 S w [.box b_0 (C75 r p0_0 k0_0) 75] ∧ (Sq p0_0 k0_0 r.L).p S w
theorem made_Roll_ok {w0 S0 p2 k3 l1 r} (u : made_Roll l1 = some r) (hS : Dm S0 w0) (h4 : (Sq p2 k3 l1).p S0 w0) : Ck Tryz.prog 13 #[sl p2 k3 l1] w0 S0 [] made_Roll_rd r := by
 refine en 6 func13 rfl hS rfl rfl rfl fun a s d => ?_
 have d := d.addE h4
 refine sz0 1 s rfl fun a s => ?_
 refine sn0 1 s rfl fun a s => ?_
 refine sv s (y_build (vs := [(0, sl p2 k3 l1)]) Bld75 rfl rfl) rfl fun a s => ?_
 refine wb [sl p2 k3 l1, iv 0] s d rfl fun b5 a w s d => ?_
 refine rz0 1 s rfl fun a s => ?_
 obtain rfl := oi u
 exact q1 s rfl (d.ret ⟨b5, p2, k3, rfl, (d.outs [0] (by decide) rfl), (d.envAt 0 rfl)⟩)
abbrev made_Dice_Next_rd (w0 : World) (X : List Nat) (b2 : Nat) (r : (Int × Dice)) : (Nat → Prop) → World → Value → Prop := fun S w v => ∃ pq0_0 kq0_0, v = iv r.1 ∧ Outs X w0 S w [.box b2 (C75 r.2 pq0_0 kq0_0) 75] ∧ (Sq pq0_0 kq0_0 r.2.L).p S w
theorem made_Dice_Next_ok {w0 S0 b2 p3 k4 d1 n6 r} (u : made_Dice_Next d1 n6 = some r) (hS : Dm S0 w0) (hin : Ins S0 w0 [.box b2 (C75 d1 p3 k4) 75]) (h5 : (Sq p3 k4 d1.L).p S0 w0) : Calls Tryz.prog 15 #[pt b2, iv n6] w0 (Ret (blks [.box b2 (C75 d1 p3 k4) 75]) w0 S0 (made_Dice_Next_rd w0 (blks [.box b2 (C75 d1 p3 k4) 75]) b2 r)) := by
 refine enI 45 func15 rfl hS hin rfl rfl rfl fun a s d => ?_
 have d := d.addE h5
 refine sz0 1 s rfl fun a s => ?_
 refine wp_seq (wp_seq (wp_only (fun a w => ∃ Sv7, Sl 45 [(0, pt b2), (1, iv n6), (19, .bool ((decide ((d1.L.length : Int) ≤ d1.At)) || (decide (n6 < 1))))] a ∧ Wd ⟨w0, S0, blks [.box b2 (C75 d1 p3 k4) 75]⟩ Sv7 [.box b2 (C75 d1 p3 k4) 75] [Sq p3 k4 d1.L] w) ?_ ?_))
 ·refine h_c [0] [] d rfl rfl (by kernel_rfl) rfl fun hC d => ?_
  refine gn 11 [0, 1, 2, 3, 4, 5, 6, 7, 8, 9, 10] [0, 0] s hC rfl rfl rfl fun a s => ?_
  refine gO 3 16 [11, 12, 13] [] s hC rfl rfl rfl rfl rfl rfl fun a s => ?_
  refine h_done (by kernel_rfl) ?_
  exact ⟨S0, wj s d [0] [0]⟩
 rintro a w ⟨Sv7, s, d⟩
 refine tn (cd s u rfl (fun u => ?_) fun u => ?_)
 ·refine sz0 1 s rfl fun a s => ?_
  obtain rfl := oi u
  exact wp_ret (then_ret (rt s rfl (d.ret ⟨p3, k4, rfl, (d.outs [0] (by decide) rfl), (d.envAt 0 rfl)⟩)))
 refine sk (wp_seq ?_)
 obtain ⟨x12, h10, u⟩ := bt u
 obtain ⟨b18, o19, q16, c17, h20, h13, h14, h15, h11⟩ := d.elemV 0 rfl h10
 have hsv21 := s
 have hwv22 := d
 subst h20
 have s := hsv21
 have d := hwv22
 obtain ⟨_, rfl, rfl⟩ := h11
 have d := d.addE h15
 obtain ⟨rem24, h23, u⟩ := bt u
 refine wp_only (fun a w => ∃ Sv25, Sl 45 [(0, pt b2), (1, iv n6), (5, iv rem24)] a ∧ Wd ⟨w0, S0, blks [.box b2 (C75 d1 (some ⟨b18, o19, none⟩) k4) 75]⟩ Sv25 [.box b2 (C75 d1 (some ⟨b18, o19, none⟩) k4) 75] [Sq (some ⟨b18, o19, none⟩) k4 d1.L] w) ?_ ?_
 ·refine h_c [0] [0] d rfl rfl (by kernel_rfl) rfl fun hC d => ?_
  refine gn 8 [0, 1, 2, 3, 4, 5, 6, 7] [0, 0] s hC rfl rfl rfl fun a s => ?_
  refine gx s 8 rfl trivial rfl hC runUnderlying22 sizeOf3 rfl rfl h13 h14 fun a s => ?_
  refine gv s 9 rfl rfl hC (fun w hC => y_loadE1 (j := 0) (hC.ceAt 0 rfl) rfl isAgg3 rfl) fun a s => ?_
  refine gm s 10 rfl rfl rfl hC fun a s => ?_
  refine gv s 11 rfl rfl hC (fun w hC => y_remM rfl rfl h23) fun a s => ?_
  refine gv s 12 rfl rfl hC (fun w hC => y_assign rfl) fun a s => ?_
  refine h_done (by kernel_rfl) ?_
  exact ⟨Sv7, wj s d [0] [1]⟩
 rintro a w ⟨Sv25, s, d⟩
 refine tn (sn 7 [0] s d rfl rfl fun a s => ?_)
 refine ws [sl (some ⟨b18, o19, none⟩) k4 d1.L, iv (w64 (d1.At + 1))] s d 0 rfl rfl rfl sizeOf3 fun a w s d => ?_
 refine nl (wp_seq (sz0 2 s rfl fun a s => ?_))
 refine wp_join (fun a w => ∃ (x30 : Int) (Sv29 : _), made_Dice_Next_j1 d1 x30 = some r ∧ Sl 45 [(5, iv x30)] a ∧ Wd ⟨w0, S0, blks [.box b2 (C75 d1 (some ⟨b18, o19, none⟩) k4) 75]⟩ Sv29 [.box b2 [sl (some ⟨b18, o19, none⟩) k4 d1.L, iv (w64 (d1.At + 1))] 75] [Sq (some ⟨b18, o19, none⟩) k4 d1.L] w) ?_ ?_
 ·refine cd s u rfl (fun u => ?_) fun u => ?_
  ·refine wp_region_lit (rn0 3 s rfl fun a s => ?_)
   obtain ⟨x33, h32, u⟩ := bt u
   refine sv s (y_assignI rfl h32) rfl fun a s => ?_
   exact nl ⟨x33, Sv25, u, wj s d [0] [0]⟩
  exact sk ⟨rem24, Sv25, u, wj s d [0] [0]⟩
 rintro a w ⟨x30, Sv29, u, s, d⟩
 refine tn (sz0 2 s rfl fun a s => ?_)
 obtain rfl := oi u
 exact q1 s rfl (d.ret ⟨(some ⟨b18, o19, none⟩), k4, rfl, (d.outs [0] (by decide) rfl), (d.envAt 0 rfl)⟩)
abbrev made_Dice_Source_rd (w0 : World) (X : List Nat) (b2 : Nat) (r : (SourceID × Dice)) : (Nat → Prop) → World → Value → Prop := fun S w v => ∃ pq0_0 kq0_0, v = V31 r.1 ∧ Outs X w0 S w [.box b2 (C75 r.2 pq0_0 kq0_0) 75] ∧ (Sq pq0_0 kq0_0 r.2.L).p S w
abbrev D19t1 (b2 : Nat) (b6 : Nat) : Slots := [(0, pt b2), (2, pt b6)]
abbrev D19t2 (b2 : Nat) (b24 : Nat) (b40 : Nat) (b56 : Nat) (b8 : Nat) (rv10 : (Int × Dice)) (rv26 : (Int × Dice)) (rv42 : (Int × Dice)) (rv58 : (Int × Dice)) (x16 : ByteArray) (x32 : ByteArray) (x48 : ByteArray) (x64 : ByteArray) : Vs := [(0, 3, sl (ad b8) ([(⟨#[71, 82]⟩ : ByteArray), (⟨#[88]⟩ : ByteArray), (⟨#[55, 65]⟩ : ByteArray)] : List ByteArray).length ([(⟨#[71, 82]⟩ : ByteArray), (⟨#[88]⟩ : ByteArray), (⟨#[55, 65]⟩ : ByteArray)] : List ByteArray)), (1, 4, pt b2), (2, 5, iv rv10.1), (3, 6, .pointer (some ⟨b8, (0 + (rv10.1).toNat * 1), none⟩)), (4, 7, .string x16), (5, 8, sl (ad b24) ([(⟨#[70, 85, 82]⟩ : ByteArray), (⟨#[65]⟩ : ByteArray), (⟨#[65, 66, 67, 68, 69]⟩ : ByteArray), (⟨#[70, 85]⟩ : ByteArray)] : List ByteArray).length ([(⟨#[70, 85, 82]⟩ : ByteArray), (⟨#[65]⟩ : ByteArray), (⟨#[65, 66, 67, 68, 69]⟩ : ByteArray), (⟨#[70, 85]⟩ : ByteArray)] : List ByteArray)), (6, 9, pt b2), (7, 10, iv rv26.1), (8, 11, .pointer (some ⟨b24, (0 + (rv26.1).toNat * 1), none⟩)), (9, 12, .string x32), (10, 13, sl (ad b40) ([(⟨#[]⟩ : ByteArray), (⟨#[48, 48]⟩ : ByteArray), (⟨#[49, 48]⟩ : ByteArray)] : List ByteArray).length ([(⟨#[]⟩ : ByteArray), (⟨#[48, 48]⟩ : ByteArray), (⟨#[49, 48]⟩ : ByteArray)] : List ByteArray)), (11, 14, pt b2), (12, 15, iv rv42.1), (13, 16, .pointer (some ⟨b40, (0 + (rv42.1).toNat * 1), none⟩)), (14, 17, .string x48), (15, 18, sl (ad b56) ([(⟨#[72, 72, 90]⟩ : ByteArray), (⟨#[72, 72, 78]⟩ : ByteArray), (⟨#[66, 72, 90]⟩ : ByteArray)] : List ByteArray).length ([(⟨#[72, 72, 90]⟩ : ByteArray), (⟨#[72, 72, 78]⟩ : ByteArray), (⟨#[66, 72, 90]⟩ : ByteArray)] : List ByteArray)), (16, 19, pt b2), (17, 20, iv rv58.1), (18, 21, .pointer (some ⟨b56, (0 + (rv58.1).toNat * 1), none⟩)), (19, 22, .string x64), (20, 23, .agg #[.string x16, .string x32, .string x48, .string x64])]
abbrev D19t3 : List Value := Z5
abbrev D19t4 : List ByteArray := ([(⟨#[71, 82]⟩ : ByteArray), (⟨#[88]⟩ : ByteArray), (⟨#[55, 65]⟩ : ByteArray)] : List ByteArray)
abbrev D19t5 : List Value := Z6
abbrev D19t6 : List ByteArray := ([(⟨#[70, 85, 82]⟩ : ByteArray), (⟨#[65]⟩ : ByteArray), (⟨#[65, 66, 67, 68, 69]⟩ : ByteArray), (⟨#[70, 85]⟩ : ByteArray)] : List ByteArray)
abbrev D19t7 : List Value := Z7
abbrev D19t8 : List ByteArray := ([(⟨#[]⟩ : ByteArray), (⟨#[48, 48]⟩ : ByteArray), (⟨#[49, 48]⟩ : ByteArray)] : List ByteArray)
abbrev D19t9 : List Value := Z8
abbrev D19t10 : List ByteArray := ([(⟨#[72, 72, 90]⟩ : ByteArray), (⟨#[72, 72, 78]⟩ : ByteArray), (⟨#[66, 72, 90]⟩ : ByteArray)] : List ByteArray)
abbrev E19_3 : List ByteArray := ([(⟨#[]⟩ : ByteArray), (⟨#[48, 48]⟩ : ByteArray), (⟨#[49, 48]⟩ : ByteArray)] : List ByteArray)
abbrev E19_2 : List ByteArray := ([(⟨#[71, 82]⟩ : ByteArray), (⟨#[88]⟩ : ByteArray), (⟨#[55, 65]⟩ : ByteArray)] : List ByteArray)
abbrev E19_1 : List ByteArray := ([(⟨#[72, 72, 90]⟩ : ByteArray), (⟨#[72, 72, 78]⟩ : ByteArray), (⟨#[66, 72, 90]⟩ : ByteArray)] : List ByteArray)
abbrev E19_0 : List ByteArray := ([(⟨#[70, 85, 82]⟩ : ByteArray), (⟨#[65]⟩ : ByteArray), (⟨#[65, 66, 67, 68, 69]⟩ : ByteArray), (⟨#[70, 85]⟩ : ByteArray)] : List ByteArray)
theorem made_Dice_Source_ok {w0 S0 b2 p3 k4 d1 r} (u : made_Dice_Source d1 = some r) (hS : Dm S0 w0) (hin : Ins S0 w0 [.box b2 (C75 d1 p3 k4) 75]) (h5 : (Sq p3 k4 d1.L).p S0 w0) : Calls Tryz.prog 19 #[pt b2] w0 (Ret (blks [.box b2 (C75 d1 p3 k4) 75]) w0 S0 (made_Dice_Source_rd w0 (blks [.box b2 (C75 d1 p3 k4) 75]) b2 r)) := by
 refine enI 24 func19 rfl hS hin rfl rfl rfl fun a s d => ?_
 have d := d.addE h5
 refine sr (wa Z0 s d zeroValue31 fun b6 a w s d => ?_)
 refine nl (wp_seq ?_)
 obtain ⟨rv10, h9, u⟩ := bt u
 obtain ⟨x16, h14, u⟩ := bt u
 obtain ⟨rv26, h25, u⟩ := bt u
 obtain ⟨x32, h30, u⟩ := bt u
 obtain ⟨rv42, h41, u⟩ := bt u
 obtain ⟨x48, h46, u⟩ := bt u
 obtain ⟨rv58, h57, u⟩ := bt u
 obtain ⟨x64, h62, u⟩ := bt u
 refine wp_only (fun a w => ∃ Sv71 k60 p59, Sl 24 [(2, pt b6)] a ∧ Wd ⟨w0, S0, blks [.box b2 (C75 d1 p3 k4) 75]⟩ Sv71 [.box b2 (C75 rv58.2 p59 k60) 75, .box b6 [.string x16, .string x32, .string x48, .string x64] 31] [Sq p59 k60 rv58.2.L] w) ?_ ?_
 ·refine wp_region_phi (n := 22) (Φ := fun l a w => ∃ b24 b40 b56 b8 k12 k28 k44 k60 p11 p27 p43 p59 S, SlF 24 (D19t1 b2 b6) (D19t2 b2 b24 b40 b56 b8 rv10 rv26 rv42 rv58 x16 x32 x48 x64) l a ∧ Wd ⟨w0, S0, blks [.box b2 (C75 d1 p3 k4) 75]⟩ S [((bif l 21 then .box b6 [.string x16, .string x32, .string x48, .string x64] 31 else .box b6 Z0 31) : Res), ((bif l 17 then .box b2 (C75 rv58.2 p59 k60) 75 else (bif l 12 then .box b2 (C75 rv42.2 p43 k44) 75 else (bif l 7 then .box b2 (C75 rv26.2 p27 k28) 75 else (bif l 2 then .box b2 (C75 rv10.2 p11 k12) 75 else .box b2 (C75 d1 p3 k4) 75)))) : Res), ((bif l 0 then .row (ad b8) E19_2.length E19_2.length Z5 9 1 else emp) : Res), ((bif l 5 then .row (ad b24) E19_0.length E19_0.length Z6 9 1 else emp) : Res), ((bif l 10 then .row (ad b40) E19_3.length E19_3.length Z7 9 1 else emp) : Res), ((bif l 15 then .row (ad b56) E19_1.length E19_1.length Z8 9 1 else emp) : Res)] [Sq p3 k4 d1.L, optA (l 0) (RowA Z5 E19_2), optA (l 2) (Sq p11 k12 rv10.2.L), optA (l 5) (RowA Z6 E19_0), optA (l 7) (Sq p27 k28 rv26.2.L), optA (l 10) (RowA Z7 E19_3), optA (l 12) (Sq p43 k44 rv42.2.L), optA (l 15) (RowA Z8 E19_1), optA (l 17) (Sq p59 k60 rv58.2.L)] w) [1, 1, 2, 3, 4, 1, 1, 3, 4, 5, 1, 1, 4, 5, 6, 1, 1, 5, 6, 7, 8, 9] (by kernel_rfl) rfl (by kernel_rfl) ?_ (AllS.succ (AllS.succ (AllS.succ (AllS.succ (AllS.succ (AllS.succ (AllS.succ (AllS.succ (AllS.succ (AllS.succ (AllS.succ (AllS.succ (AllS.succ (AllS.succ (AllS.succ (AllS.succ (AllS.succ (AllS.succ (AllS.succ (AllS.succ (AllS.succ (AllS.succ AllS.zero ?_) ?_) ?_) ?_) ?_) ?_) ?_) ?_) ?_) ?_) ?_) ?_) ?_) ?_) ?_) ?_) ?_) ?_) ?_) ?_) ?_) ?_) ?_
  ·obtain ⟨b24, b40, b56, b8, k12, k28, k44, k60, p11, p27, p43, p59, _⟩ : ∃ (b24 : Nat) (b40 : Nat) (b56 : Nat) (b8 : Nat) (k12 : Nat) (k28 : Nat) (k44 : Nat) (k60 : Nat) (p11 : Option Addr) (p27 : Option Addr) (p43 : Option Addr) (p59 : Option Addr), True := ⟨0, 0, 0, 0, 0, 0, 0, 0, none, none, none, none, trivial⟩
   have d := ((d.drew).emp).emp
   have d := ((d.emp).emp).noE (Sq p59 k60 rv58.2.L)
   have d := ((d.noE (RowA Z8 E19_1)).noE (Sq p43 k44 rv42.2.L)).noE (RowA Z7 E19_3)
   have d := ((d.noE (Sq p27 k28 rv26.2.L)).noE (RowA Z6 E19_0)).noE (Sq p11 k12 rv10.2.L)
   have d := d.noE (RowA Z5 E19_2)
   exact ⟨b24, b40, b56, b8, k12, k28, k44, k60, p11, p27, p43, p59, S0, SlF.init (s.wk rfl) (by kernel_rfl), d.gt [4, 5, 0, 1, 2, 3] [8, 0, 1, 2, 3, 4, 5, 6, 7] rfl rfl⟩
  ·intro l hi hp hc a w ⟨b24, b40, b56, b8, k12, k28, k44, k60, p11, p27, p43, p59, S, hS, d⟩
   refine S_eff rfl ?_
   have s := hS.open_ .nil
   refine w_litSlice (α := ByteArray) (vs := D19t3) (cs := D19t3) (xs := D19t4) s d El80 rfl rfl rfl rfl rfl rfl ⟨⟨_, rfl, rfl⟩, ⟨⟨_, rfl, rfl⟩, ⟨⟨_, rfl, rfl⟩, rfl⟩⟩⟩ rfl trivial rfl fun b8 a w s d => ?_
   have h_3 := l_neg hc 3 hi rfl
   have d := d.opt 0 rfl true
   exact nl ⟨b24, b40, b56, b8, k12, k28, k44, k60, p11, p27, p43, p59, S, hS.close .nil s rfl (.here (.same (.same (.neg h_3 rfl (.same (.same (.same (.same (.same (.same (.same (.same (.same (.same (.same (.same (.same (.same (.same (.same (.same .nil))))))))))))))))))))) 0 rfl, d.gt [1, 2, 0, 4, 5, 6] [2, 0, 4, 5, 6, 7, 8, 9, 10] rfl rfl⟩
  ·intro l hi hp hc a w ⟨b24, b40, b56, b8, k12, k28, k44, k60, p11, p27, p43, p59, S, hS, d⟩
   refine S_val hS (.b (t := 0) rfl .nil) rfl rfl trivial (y_move rfl) (rfl) 1 rfl fun a hS => ⟨b24, b40, b56, b8, k12, k28, k44, k60, p11, p27, p43, p59, S, hS, d⟩
  ·intro l hi hp hc a w ⟨b24, b40, b56, b8, k12, k28, k44, k60, p11, p27, p43, p59, S, hS, d⟩
   have h_7 := l_neg hc 7 hi rfl
   have h_12 := l_neg hc 12 h_7 rfl
   have h_17 := l_neg hc 17 h_12 rfl
   have d := d.fixR 1 (r' := .box b2 (C75 d1 p3 k4) 75) rfl ((bF h_17).trans ((bF h_12).trans ((bF h_7).trans ((bF hi)))))
   have h_1 := hp 1 rfl
   refine S_eff rfl ?_
   have s := hS.open_ (.v (t := 4) 1 rfl h_1 .nil)
   refine cR s (made_Dice_Next_ok h9 d.dom (d.ins [1] (by decide) rfl) (d.envAt 0 rfl)) (do_call call15 rfl) rfl ?_
   rintro v100 Sv97 w a h98 ⟨p11, k12, rfl, h101, h13⟩ s
   have d := ((d.callO [1] [0, 2, 3, 4, 5] (by decide) rfl h98 h101).addE (e := Sq p11 k12 rv10.2.L) h13).fixR 0 (r' := (bif l 17 then .box b2 (C75 rv58.2 p59 k60) 75 else (bif l 12 then .box b2 (C75 rv42.2 p43 k44) 75 else (bif l 7 then .box b2 (C75 rv26.2 p27 k28) 75 else .box b2 (C75 rv10.2 p11 k12) 75)))) rfl ((bF h_17).trans ((bF h_12).trans ((bF h_7)))).symm
   have d := d.opt 0 rfl true
   exact nl ⟨b24, b40, b56, b8, k12, k28, k44, k60, p11, p27, p43, p59, Sv97, hS.close (.v (t := 4) 1 rfl h_1 .nil) s rfl (.same (.same (.here (.same (.same (.same (.same (.same (.same (.same (.same (.same (.same (.same (.same (.same (.same (.same (.same (.same (.same .nil))))))))))))))))))))) 2 rfl, d.gt [1, 0, 2, 3, 4, 5] [2, 3, 0, 5, 6, 7, 8, 9, 10] rfl rfl⟩
  ·intro l hi hp hc a w ⟨b24, b40, b56, b8, k12, k28, k44, k60, p11, p27, p43, p59, S, hS, d⟩
   have hw0 := d
   have h_0 := hp 0 rfl
   have d := (d.fixR 2 (r' := .row (ad b8) E19_2.length E19_2.length Z5 9 1) rfl ((bT h_0))).yes 1 rfl h_0
   have h_2 := hp 2 rfl
   obtain ⟨c21, h17, h22, h15⟩ := d.elemRX (α := ByteArray) 2 rfl 0 rfl h14
   obtain ⟨_, rfl, rfl⟩ := h15
   refine S_val hS (.v (t := 3) 0 rfl h_0 (.v (t := 5) 2 rfl h_2 .nil)) rfl rfl trivial (y_indexAt runUnderlying80 sizeOf9 rfl rfl h17.1 h17.2 rfl) (rfl) 3 rfl fun a hS => ⟨b24, b40, b56, b8, k12, k28, k44, k60, p11, p27, p43, p59, S, hS, hw0⟩
  ·intro l hi hp hc a w ⟨b24, b40, b56, b8, k12, k28, k44, k60, p11, p27, p43, p59, S, hS, d⟩
   have hw0 := d
   have h_3 := hp 3 rfl
   have h_0 := hc 3 0 rfl h_3
   have d := (d.fixR 2 (r' := .row (ad b8) E19_2.length E19_2.length Z5 9 1) rfl ((bT h_0))).yes 1 rfl h_0
   obtain ⟨c21, h17, h22, h15⟩ := d.elemRX (α := ByteArray) 2 rfl 0 rfl h14
   obtain ⟨_, rfl, rfl⟩ := h15
   refine S_val hS (.v (t := 6) 3 rfl h_3 .nil) rfl rfl trivial (y_loadQ1 (j := 0) (d.ownAt 2 rfl) rfl isAgg9 h22 rfl) (rfl) 4 rfl fun a hS => ⟨b24, b40, b56, b8, k12, k28, k44, k60, p11, p27, p43, p59, S, hS, hw0⟩
  ·intro l hi hp hc a w ⟨b24, b40, b56, b8, k12, k28, k44, k60, p11, p27, p43, p59, S, hS, d⟩
   refine S_eff rfl ?_
   have s := hS.open_ .nil
   refine w_litSlice (α := ByteArray) (vs := D19t5) (cs := D19t5) (xs := D19t6) s d El80 rfl rfl rfl rfl rfl rfl ⟨⟨_, rfl, rfl⟩, ⟨⟨_, rfl, rfl⟩, ⟨⟨_, rfl, rfl⟩, ⟨⟨_, rfl, rfl⟩, rfl⟩⟩⟩⟩ rfl trivial rfl fun b24 a w s d => ?_
   have h_8 := l_neg hc 8 hi rfl
   have d := d.opt 0 rfl true
   exact nl ⟨b24, b40, b56, b8, k12, k28, k44, k60, p11, p27, p43, p59, S, hS.close .nil s rfl (.same (.same (.same (.same (.same (.here (.same (.same (.neg h_8 rfl (.same (.same (.same (.same (.same (.same (.same (.same (.same (.same (.same (.same .nil))))))))))))))))))))) 5 rfl, d.gt [1, 2, 3, 0, 5, 6] [2, 3, 4, 0, 6, 7, 8, 9, 10] rfl rfl⟩
  ·intro l hi hp hc a w ⟨b24, b40, b56, b8, k12, k28, k44, k60, p11, p27, p43, p59, S, hS, d⟩
   refine S_val hS (.b (t := 0) rfl .nil) rfl rfl trivial (y_move rfl) (rfl) 6 rfl fun a hS => ⟨b24, b40, b56, b8, k12, k28, k44, k60, p11, p27, p43, p59, S, hS, d⟩
  ·intro l hi hp hc a w ⟨b24, b40, b56, b8, k12, k28, k44, k60, p11, p27, p43, p59, S, hS, d⟩
   have h_12 := l_neg hc 12 hi rfl
   have h_17 := l_neg hc 17 h_12 rfl
   have h_2 := hp 2 rfl
   have d := (d.fixR 1 (r' := .box b2 (C75 rv10.2 p11 k12) 75) rfl ((bF h_17).trans ((bF h_12).trans ((bF hi).trans ((bT h_2)))))).yes 2 rfl h_2
   have h_6 := hp 6 rfl
   refine S_eff rfl ?_
   have s := hS.open_ (.v (t := 9) 6 rfl h_6 .nil)
   refine cR s (made_Dice_Next_ok h25 d.dom (d.ins [1] (by decide) rfl) (d.envAt 0 rfl)) (do_call call15 rfl) rfl ?_
   rintro v110 Sv107 w a h108 ⟨p27, k28, rfl, h111, h29⟩ s
   have d := ((d.callO [1] [0, 2, 3, 4, 5] (by decide) rfl h108 h111).addE (e := Sq p27 k28 rv26.2.L) h29).fixR 0 (r' := (bif l 17 then .box b2 (C75 rv58.2 p59 k60) 75 else (bif l 12 then .box b2 (C75 rv42.2 p43 k44) 75 else .box b2 (C75 rv26.2 p27 k28) 75))) rfl ((bF h_17).trans ((bF h_12))).symm
   have d := d.opt 0 rfl true
   exact nl ⟨b24, b40, b56, b8, k12, k28, k44, k60, p11, p27, p43, p59, Sv107, hS.close (.v (t := 9) 6 rfl h_6 .nil) s rfl (.same (.same (.same (.same (.same (.same (.same (.here (.same (.same (.same (.same (.same (.same (.same (.same (.same (.same (.same (.same (.same .nil))))))))))))))))))))) 7 rfl, d.gt [1, 0, 2, 3, 4, 5] [3, 4, 5, 6, 0, 8, 9, 10, 11] rfl rfl⟩
  ·intro l hi hp hc a w ⟨b24, b40, b56, b8, k12, k28, k44, k60, p11, p27, p43, p59, S, hS, d⟩
   have hw0 := d
   have h_5 := hp 5 rfl
   have d := (d.fixR 3 (r' := .row (ad b24) E19_0.length E19_0.length Z6 9 1) rfl ((bT h_5))).yes 3 rfl h_5
   have h_7 := hp 7 rfl
   obtain ⟨c37, h33, h38, h31⟩ := d.elemRX (α := ByteArray) 3 rfl 0 rfl h30
   obtain ⟨_, rfl, rfl⟩ := h31
   refine S_val hS (.v (t := 8) 5 rfl h_5 (.v (t := 10) 7 rfl h_7 .nil)) rfl rfl trivial (y_indexAt runUnderlying80 sizeOf9 rfl rfl h33.1 h33.2 rfl) (rfl) 8 rfl fun a hS => ⟨b24, b40, b56, b8, k12, k28, k44, k60, p11, p27, p43, p59, S, hS, hw0⟩
  ·intro l hi hp hc a w ⟨b24, b40, b56, b8, k12, k28, k44, k60, p11, p27, p43, p59, S, hS, d⟩
   have hw0 := d
   have h_8 := hp 8 rfl
   have h_5 := hc 8 5 rfl h_8
   have d := (d.fixR 3 (r' := .row (ad b24) E19_0.length E19_0.length Z6 9 1) rfl ((bT h_5))).yes 3 rfl h_5
   obtain ⟨c37, h33, h38, h31⟩ := d.elemRX (α := ByteArray) 3 rfl 0 rfl h30
   obtain ⟨_, rfl, rfl⟩ := h31
   refine S_val hS (.v (t := 11) 8 rfl h_8 .nil) rfl rfl trivial (y_loadQ1 (j := 0) (d.ownAt 3 rfl) rfl isAgg9 h38 rfl) (rfl) 9 rfl fun a hS => ⟨b24, b40, b56, b8, k12, k28, k44, k60, p11, p27, p43, p59, S, hS, hw0⟩
  ·intro l hi hp hc a w ⟨b24, b40, b56, b8, k12, k28, k44, k60, p11, p27, p43, p59, S, hS, d⟩
   refine S_eff rfl ?_
   have s := hS.open_ .nil
   refine w_litSlice (α := ByteArray) (vs := D19t7) (cs := D19t7) (xs := D19t8) s d El80 rfl rfl rfl rfl rfl rfl ⟨⟨_, rfl, rfl⟩, ⟨⟨_, rfl, rfl⟩, ⟨⟨_, rfl, rfl⟩, rfl⟩⟩⟩ rfl trivial rfl fun b40 a w s d => ?_
   have h_13 := l_neg hc 13 hi rfl
   have d := d.opt 0 rfl true
   exact nl ⟨b24, b40, b56, b8, k12, k28, k44, k60, p11, p27, p43, p59, S, hS.close .nil s rfl (.same (.same (.same (.same (.same (.same (.same (.same (.same (.same (.here (.same (.same (.neg h_13 rfl (.same (.same (.same (.same (.same (.same (.same .nil))))))))))))))))))))) 10 rfl, d.gt [1, 2, 3, 4, 0, 6] [2, 3, 4, 5, 6, 0, 8, 9, 10] rfl rfl⟩
  ·intro l hi hp hc a w ⟨b24, b40, b56, b8, k12, k28, k44, k60, p11, p27, p43, p59, S, hS, d⟩
   refine S_val hS (.b (t := 0) rfl .nil) rfl rfl trivial (y_move rfl) (rfl) 11 rfl fun a hS => ⟨b24, b40, b56, b8, k12, k28, k44, k60, p11, p27, p43, p59, S, hS, d⟩
  ·intro l hi hp hc a w ⟨b24, b40, b56, b8, k12, k28, k44, k60, p11, p27, p43, p59, S, hS, d⟩
   have h_17 := l_neg hc 17 hi rfl
   have h_7 := hp 7 rfl
   have d := (d.fixR 1 (r' := .box b2 (C75 rv26.2 p27 k28) 75) rfl ((bF h_17).trans ((bF hi).trans ((bT h_7))))).yes 4 rfl h_7
   have h_11 := hp 11 rfl
   refine S_eff rfl ?_
   have s := hS.open_ (.v (t := 14) 11 rfl h_11 .nil)
   refine cR s (made_Dice_Next_ok h41 d.dom (d.ins [1] (by decide) rfl) (d.envAt 0 rfl)) (do_call call15 rfl) rfl ?_
   rintro v120 Sv117 w a h118 ⟨p43, k44, rfl, h121, h45⟩ s
   have d := ((d.callO [1] [0, 2, 3, 4, 5] (by decide) rfl h118 h121).addE (e := Sq p43 k44 rv42.2.L) h45).fixR 0 (r' := (bif l 17 then .box b2 (C75 rv58.2 p59 k60) 75 else .box b2 (C75 rv42.2 p43 k44) 75)) rfl ((bF h_17)).symm
   have d := d.opt 0 rfl true
   exact nl ⟨b24, b40, b56, b8, k12, k28, k44, k60, p11, p27, p43, p59, Sv117, hS.close (.v (t := 14) 11 rfl h_11 .nil) s rfl (.same (.same (.same (.same (.same (.same (.same (.same (.same (.same (.same (.same (.here (.same (.same (.same (.same (.same (.same (.same (.same .nil))))))))))))))))))))) 12 rfl, d.gt [1, 0, 2, 3, 4, 5] [3, 4, 5, 6, 7, 8, 0, 10, 11] rfl rfl⟩
  ·intro l hi hp hc a w ⟨b24, b40, b56, b8, k12, k28, k44, k60, p11, p27, p43, p59, S, hS, d⟩
   have hw0 := d
   have h_10 := hp 10 rfl
   have d := (d.fixR 4 (r' := .row (ad b40) E19_3.length E19_3.length Z7 9 1) rfl ((bT h_10))).yes 5 rfl h_10
   have h_12 := hp 12 rfl
   obtain ⟨c53, h49, h54, h47⟩ := d.elemRX (α := ByteArray) 4 rfl 0 rfl h46
   obtain ⟨_, rfl, rfl⟩ := h47
   refine S_val hS (.v (t := 13) 10 rfl h_10 (.v (t := 15) 12 rfl h_12 .nil)) rfl rfl trivial (y_indexAt runUnderlying80 sizeOf9 rfl rfl h49.1 h49.2 rfl) (rfl) 13 rfl fun a hS => ⟨b24, b40, b56, b8, k12, k28, k44, k60, p11, p27, p43, p59, S, hS, hw0⟩
  ·intro l hi hp hc a w ⟨b24, b40, b56, b8, k12, k28, k44, k60, p11, p27, p43, p59, S, hS, d⟩
   have hw0 := d
   have h_13 := hp 13 rfl
   have h_10 := hc 13 10 rfl h_13
   have d := (d.fixR 4 (r' := .row (ad b40) E19_3.length E19_3.length Z7 9 1) rfl ((bT h_10))).yes 5 rfl h_10
   obtain ⟨c53, h49, h54, h47⟩ := d.elemRX (α := ByteArray) 4 rfl 0 rfl h46
   obtain ⟨_, rfl, rfl⟩ := h47
   refine S_val hS (.v (t := 16) 13 rfl h_13 .nil) rfl rfl trivial (y_loadQ1 (j := 0) (d.ownAt 4 rfl) rfl isAgg9 h54 rfl) (rfl) 14 rfl fun a hS => ⟨b24, b40, b56, b8, k12, k28, k44, k60, p11, p27, p43, p59, S, hS, hw0⟩
  ·intro l hi hp hc a w ⟨b24, b40, b56, b8, k12, k28, k44, k60, p11, p27, p43, p59, S, hS, d⟩
   refine S_eff rfl ?_
   have s := hS.open_ .nil
   refine w_litSlice (α := ByteArray) (vs := D19t9) (cs := D19t9) (xs := D19t10) s d El80 rfl rfl rfl rfl rfl rfl ⟨⟨_, rfl, rfl⟩, ⟨⟨_, rfl, rfl⟩, ⟨⟨_, rfl, rfl⟩, rfl⟩⟩⟩ rfl trivial rfl fun b56 a w s d => ?_
   have h_18 := l_neg hc 18 hi rfl
   have d := d.opt 0 rfl true
   exact nl ⟨b24, b40, b56, b8, k12, k28, k44, k60, p11, p27, p43, p59, S, hS.close .nil s rfl (.same (.same (.same (.same (.same (.same (.same (.same (.same (.same (.same (.same (.same (.same (.same (.here (.same (.same (.neg h_18 rfl (.same (.same .nil))))))))))))))))))))) 15 rfl, d.gt [1, 2, 3, 4, 5, 0] [2, 3, 4, 5, 6, 7, 8, 0, 10] rfl rfl⟩
  ·intro l hi hp hc a w ⟨b24, b40, b56, b8, k12, k28, k44, k60, p11, p27, p43, p59, S, hS, d⟩
   refine S_val hS (.b (t := 0) rfl .nil) rfl rfl trivial (y_move rfl) (rfl) 16 rfl fun a hS => ⟨b24, b40, b56, b8, k12, k28, k44, k60, p11, p27, p43, p59, S, hS, d⟩
  ·intro l hi hp hc a w ⟨b24, b40, b56, b8, k12, k28, k44, k60, p11, p27, p43, p59, S, hS, d⟩
   have h_12 := hp 12 rfl
   have d := (d.fixR 1 (r' := .box b2 (C75 rv42.2 p43 k44) 75) rfl ((bF hi).trans ((bT h_12)))).yes 6 rfl h_12
   have h_16 := hp 16 rfl
   refine S_eff rfl ?_
   have s := hS.open_ (.v (t := 19) 16 rfl h_16 .nil)
   refine cR s (made_Dice_Next_ok h57 d.dom (d.ins [1] (by decide) rfl) (d.envAt 0 rfl)) (do_call call15 rfl) rfl ?_
   rintro v130 Sv127 w a h128 ⟨p59, k60, rfl, h131, h61⟩ s
   have d := ((d.callO [1] [0, 2, 3, 4, 5] (by decide) rfl h128 h131).addE (e := Sq p59 k60 rv58.2.L) h61).opt 0 rfl true
   exact nl ⟨b24, b40, b56, b8, k12, k28, k44, k60, p11, p27, p43, p59, Sv127, hS.close (.v (t := 19) 16 rfl h_16 .nil) s rfl (.same (.same (.same (.same (.same (.same (.same (.same (.same (.same (.same (.same (.same (.same (.same (.same (.same (.here (.same (.same (.same .nil))))))))))))))))))))) 17 rfl, d.gt [1, 0, 2, 3, 4, 5] [3, 4, 5, 6, 7, 8, 9, 10, 0] rfl rfl⟩
  ·intro l hi hp hc a w ⟨b24, b40, b56, b8, k12, k28, k44, k60, p11, p27, p43, p59, S, hS, d⟩
   have hw0 := d
   have h_15 := hp 15 rfl
   have d := (d.fixR 5 (r' := .row (ad b56) E19_1.length E19_1.length Z8 9 1) rfl ((bT h_15))).yes 7 rfl h_15
   have h_17 := hp 17 rfl
   obtain ⟨c69, h65, h70, h63⟩ := d.elemRX (α := ByteArray) 5 rfl 0 rfl h62
   obtain ⟨_, rfl, rfl⟩ := h63
   refine S_val hS (.v (t := 18) 15 rfl h_15 (.v (t := 20) 17 rfl h_17 .nil)) rfl rfl trivial (y_indexAt runUnderlying80 sizeOf9 rfl rfl h65.1 h65.2 rfl) (rfl) 18 rfl fun a hS => ⟨b24, b40, b56, b8, k12, k28, k44, k60, p11, p27, p43, p59, S, hS, hw0⟩
  ·intro l hi hp hc a w ⟨b24, b40, b56, b8, k12, k28, k44, k60, p11, p27, p43, p59, S, hS, d⟩
   have hw0 := d
   have h_18 := hp 18 rfl
   have h_15 := hc 18 15 rfl h_18
   have d := (d.fixR 5 (r' := .row (ad b56) E19_1.length E19_1.length Z8 9 1) rfl ((bT h_15))).yes 7 rfl h_15
   obtain ⟨c69, h65, h70, h63⟩ := d.elemRX (α := ByteArray) 5 rfl 0 rfl h62
   obtain ⟨_, rfl, rfl⟩ := h63
   refine S_val hS (.v (t := 21) 18 rfl h_18 .nil) rfl rfl trivial (y_loadQ1 (j := 0) (d.ownAt 5 rfl) rfl isAgg9 h70 rfl) (rfl) 19 rfl fun a hS => ⟨b24, b40, b56, b8, k12, k28, k44, k60, p11, p27, p43, p59, S, hS, hw0⟩
  ·intro l hi hp hc a w ⟨b24, b40, b56, b8, k12, k28, k44, k60, p11, p27, p43, p59, S, hS, d⟩
   have h_19 := hp 19 rfl
   have h_14 := hp 14 rfl
   have h_9 := hp 9 rfl
   have h_4 := hp 4 rfl
   refine S_val hS (.v (t := 7) 4 rfl h_4 (.v (t := 12) 9 rfl h_9 (.v (t := 17) 14 rfl h_14 (.v (t := 22) 19 rfl h_19 .nil)))) rfl rfl trivial (y_build (vs := [(0, .string x16), (1, .string x32), (2, .string x48), (3, .string x64)]) Bld31 rfl rfl) (rfl) 20 rfl fun a hS => ⟨b24, b40, b56, b8, k12, k28, k44, k60, p11, p27, p43, p59, S, hS, d⟩
  ·intro l hi hp hc a w ⟨b24, b40, b56, b8, k12, k28, k44, k60, p11, p27, p43, p59, S, hS, d⟩
   have d := d.fixR 0 (r' := .box b6 Z0 31) rfl ((bF hi))
   have h_20 := hp 20 rfl
   refine S_eff rfl ?_
   have s := hS.open_ (.b (t := 2) rfl (.v (t := 23) 20 rfl h_20 .nil))
   refine ws [.string x16, .string x32, .string x48, .string x64] s d 0 rfl rfl rfl sizeOf31 fun a w s d => ?_
   exact nl ⟨b24, b40, b56, b8, k12, k28, k44, k60, p11, p27, p43, p59, S, hS.close0 (.b (t := 2) rfl (.v (t := 23) 20 rfl h_20 .nil)) s rfl, d.gt [0, 1, 2, 3, 4, 5] [0, 1, 2, 3, 4, 5, 6, 7, 8] rfl rfl⟩
  intro l a w hl ⟨b24, b40, b56, b8, k12, k28, k44, k60, p11, p27, p43, p59, S, hS, d⟩
  have d := ((d.yes 8 rfl (hl 17 (by decide))).fixR 1 (r' := .box b2 (C75 rv58.2 p59 k60) 75) rfl (bT (hl 17 (by decide)))).fixR 0 (r' := .box b6 [.string x16, .string x32, .string x48, .string x64] 31) rfl (bT (hl 21 (by decide)))
  have s := hS.on (.b (t := 2) rfl .nil)
  exact ⟨S, k60, p59, wj s d [1, 0] [0]⟩
 rintro a w ⟨Sv71, k60, p59, s, d⟩
 refine tn ?_
 obtain rfl := oi u
 exact wp_ret (ret1 s rfl (rv_cell d 1 rfl rfl isAgg31 sizeOf31 rfl) (d.ret ⟨p59, k60, rfl, (d.outs [0] (by decide) rfl), (d.envAt 0 rfl)⟩))
abbrev made_Dice_Pick_rd (w0 : World) (X : List Nat) (b2 : Nat) (r : (Int × Dice)) : (Nat → Prop) → World → Value → Prop := fun S w v => ∃ pq0_0 kq0_0, v = iv r.1 ∧ Outs X w0 S w [.box b2 (C75 r.2 pq0_0 kq0_0) 75] ∧ (Sq pq0_0 kq0_0 r.2.L).p S w
theorem made_Dice_Pick_ok {w0 S0 b2 p3 k4 p7 k8 d1 l6 r} (u : made_Dice_Pick d1 l6 = some r) (hS : Dm S0 w0) (hin : Ins S0 w0 [.box b2 (C75 d1 p3 k4) 75]) (h5 : (Sq p3 k4 d1.L).p S0 w0) (h9 : (Sq p7 k8 l6).p S0 w0) : Calls Tryz.prog 47 #[pt b2, sl p7 k8 l6] w0 (Ret (blks [.box b2 (C75 d1 p3 k4) 75]) w0 S0 (made_Dice_Pick_rd w0 (blks [.box b2 (C75 d1 p3 k4) 75]) b2 r)) := by
 refine enI 12 func47 rfl hS hin rfl rfl rfl fun a s d => ?_
 have d := (d.addE h5).addE h9
 refine sz0 1 s rfl fun a s => ?_
 refine sn0 4 s rfl fun a s => ?_
 obtain ⟨rv11, h10, u⟩ := bt u
 refine cR s (made_Dice_Next_ok h10 d.dom (d.ins [0] (by decide) rfl) (d.envAt 1 rfl)) (do_call call15 rfl) rfl ?_
 rintro v18 Sv15 w a h16 ⟨p12, k13, rfl, h19, h14⟩ s
 have d := (d.callO [0] [] (by decide) rfl h16 h19).addE (e := Sq p12 k13 rv11.2.L) h14
 obtain ⟨x22, h20, u⟩ := bt u
 obtain ⟨b28, o29, q26, c27, h30, h23, h24, h25, h21⟩ := d.elemV 1 rfl h20
 have hsv31 := s
 have hwv32 := d
 subst h30
 have s := hsv31
 have d := hwv32
 obtain ⟨_, rfl, rfl⟩ := h21
 have d := d.addE h25
 refine sv s (y_indexAt runUnderlying22 sizeOf3 rfl rfl h23.1 h23.2 h24) rfl fun a s => ?_
 refine sv s (y_loadE1 (j := 0) (d.ceAt 0 rfl) rfl isAgg3 rfl) rfl fun a s => ?_
 refine rz0 1 s rfl fun a s => ?_
 obtain rfl := oi u
 exact q1 s rfl (d.ret ⟨p12, k13, rfl, (d.outs [0] (by decide) rfl), (d.envAt 1 rfl)⟩)
theorem ref01_In_ok {w0 S0 n1 lo2 hi3 r} (u : ref01_In n1 lo2 hi3 = some r) (hS : Dm S0 w0) : Ck Tryz.prog 55 #[iv n1, iv lo2, iv hi3] w0 S0 [] made_Light_rd r := by
 refine en 15 func55 rfl hS rfl rfl rfl fun a s d => ?_
 refine sz0 1 s rfl fun a s => ?_
 refine sn0 4 s rfl fun a s => ?_
 refine rA 4 10 [] s d rfl rfl rfl rfl rfl fun a s => ?_
 refine rz0 1 s rfl fun a s => ?_
 obtain rfl := oi u
 exact q1 s rfl (d.ret rfl)
theorem ref02_gcd_ok {w0 S0 a1 b2 r} (u : ref02_gcd a1 b2 = some r) (hS : Dm S0 w0) : Ck Tryz.prog 70 #[iv a1, iv b2] w0 S0 [] slices_IndexFunc_Lapi_Record_api_Record_rd r := by
 refine en 12 func70 rfl hS rfl rfl rfl fun a s d => ?_
 refine sz0 1 s rfl fun a s => ?_
 refine wp_seq ?_
 obtain ⟨e21, h32, u⟩ := bt u
 refine wp_join (fun a w => ∃ Sv22, Sl 12 [(0, iv e21)] a ∧ Wd ⟨w0, S0, []⟩ Sv22 [] [] w) ?_ ?_
 ·refine wp_block (wp_while (fun sv3 a w => ∃ Sv13, Sl 12 [(0, iv sv3.1), (1, iv sv3.2)] a ∧ Wd ⟨w0, S0, []⟩ Sv13 [] [] w) (a1, b2) h32 ⟨S0, wj s d [] []⟩ ?_)
  clear h32
  repeat clear u
  rintro sv3 a w tv19 ⟨Sv13, s, d⟩ u hd18
  refine wp_seq (sz0 2 s rfl fun a s => ?_)
  refine cd s u rfl (fun u => ?_) fun u => ?_
  ·refine sk (wp_block ?_)
   obtain ⟨rem29, h28, u⟩ := bt u
   refine wp_only (fun a w => ∃ Sv30, Sl 12 [(0, iv sv3.2), (1, iv rem29)] a ∧ Wd ⟨w0, S0, []⟩ Sv30 [] [] w) ?_ ?_
   ·refine h_c [] [] d rfl rfl (by kernel_rfl) rfl fun hC d => ?_
    refine gn 3 [0, 1, 2] [] s hC rfl rfl rfl fun a s => ?_
    refine gv s 3 rfl rfl hC (fun w hC => y_remM rfl rfl h28) fun a s => ?_
    refine gn 2 [4, 5] [] s hC rfl rfl rfl fun a s => ?_
    refine h_done (by kernel_rfl) ?_
    exact ⟨Sv13, wj s d [] []⟩
   rintro a w ⟨Sv30, s, d⟩
   exact blk_normal (tn ⟨_, io u, Sv30, wj s d [] []⟩)
  refine wp_exit (then_exit (then_exit (blk_exit ?_)))
  obtain rfl := oi u
  have h31 := hd18 _ rfl
  subst h31
  exact tn ⟨Sv13, wj s d [] []⟩
 rintro a w ⟨Sv22, s, d⟩
 refine tn (sz0 2 s rfl fun a s => ?_)
 obtain rfl := oi u
 exact q1 s rfl (d.ret rfl)
abbrev ref02_New_rd (w0 : World) (X : List Nat) (r : (Rate × Int)) : Rd := fun S w v => v = .tuple #[V33 r.1, iv r.2]
theorem ref02_New_ok {w0 S0 num1 den2 r} (u : ref02_New num1 den2 = some r) (hS : Dm S0 w0) : Ck Tryz.prog 48 #[iv num1, iv den2] w0 S0 [] ref02_New_rd r := by
 refine en 26 func48 rfl hS rfl rfl rfl fun a s d => ?_
 refine sr (wa [iv 0, iv 0] s d zeroValue33 fun b3 a w s d => ?_)
 refine rz0 1 s rfl fun a s => ?_
 refine wp_seq (sn0 1 s rfl fun a s => ?_)
 obtain ⟨rv5, h4, u⟩ := bt u
 refine cV s d (ref01_In_ok h4 d.bdom) (do_call call55 rfl) rfl fun a w s d => ?_
 refine rn0 2 s rfl fun a s => ?_
 obtain ⟨c19, hc19, u⟩ := bt u
 refine wpl_join 4 (fun a w => ∃ Sv20, Sl 26 [(0, iv num1), (1, iv den2), (4, pt b3), (14, .bool c19)] a ∧ Wd ⟨w0, S0, []⟩ Sv20 [.box b3 [iv 0, iv 0] 33] [] w) ?_ ?_
 ·rcases Bool.eq_false_or_eq_true (!rv5) with h18 | h18
  ·have s := s.bT 10 rfl h18
   have u := ite_t hc19 h18
   refine rn0 4 s rfl fun a s => ?_
   refine wpList_nil ?_
   obtain rfl := oi u
   exact tn ⟨S0, wj s d [0] []⟩
  have s := s.bF 10 rfl h18
  have u := ite_f hc19 h18
  refine st_val s (y_move rfl) ⟨_, rfl, rfl⟩ rfl rfl fun a s => ?_
  obtain ⟨rv22, h21, u⟩ := bt u
  refine st_callR s (ref01_In_ok h21 d.bdom) (do_call call55 rfl) ⟨_, rfl, rfl⟩ rfl rfl ?_
  rintro v26 Sv23 w a h24 rfl s
  have d := d.callB h24
  refine rn0 2 s rfl fun a s => ?_
  refine wpList_nil ?_
  obtain rfl := oi u
  exact tn ⟨S0, wj s d [0] []⟩
 rintro a w ⟨Sv20, s, d⟩
 refine nl (cd s u rfl (fun u => ?_) fun u => ?_)
 ·refine sr (sv s (y_build (vs := []) Bld33 rfl rfl) rfl fun a s => ?_)
  refine ws [iv 0, iv 0] s d 0 rfl rfl rfl sizeOf33 fun a w s d => ?_
  refine rz0 1 s rfl fun a s => ?_
  obtain rfl := oi u
  exact wp_ret (then_ret (ret2 s rfl (rv_cell d 0 rfl rfl isAgg33 sizeOf33 rfl) (rv_tmp rfl) (d.ret rfl)))
 refine sk (sn0 2 s rfl fun a s => ?_)
 obtain ⟨rv31, h30, u⟩ := bt u
 refine cV s d (ref02_gcd_ok h30 d.bdom) (do_call call70 rfl) rfl fun a w s d => ?_
 refine rz0 1 s rfl fun a s => ?_
 refine wp_seq ?_
 obtain ⟨quo38, h37, u⟩ := bt u
 obtain ⟨quo40, h39, u⟩ := bt u
 refine wp_only (fun a w => ∃ Sv41, Sl 26 [(4, pt b3), (5, iv 0)] a ∧ Wd ⟨w0, S0, []⟩ Sv41 [.box b3 [iv quo38, iv quo40] 33] [] w) ?_ ?_
 ·refine h_c [] [] d rfl rfl (by kernel_rfl) rfl fun hC d => ?_
  refine gn 2 [0, 1] [] s hC rfl rfl rfl fun a s => ?_
  refine gv s 2 rfl rfl hC (fun w hC => y_quoM rfl rfl h37) fun a s => ?_
  refine gn 2 [3, 4] [] s hC rfl rfl rfl fun a s => ?_
  refine gv s 5 rfl rfl hC (fun w hC => y_quoM rfl rfl h39) fun a s => ?_
  refine gv s 6 rfl rfl hC (fun w hC => y_build (vs := [(0, iv quo38), (1, iv quo40)]) Bld33 rfl rfl) fun a s => ?_
  refine ho 7 rfl ?_
  refine ws [iv quo38, iv quo40] s d 0 rfl rfl rfl sizeOf33 fun a w s d => ?_
  refine h_n [] [] d rfl rfl fun hC => ?_
  refine gv s 8 rfl rfl hC (fun w hC => y_assign rfl) fun a s => ?_
  refine h_done (by kernel_rfl) ?_
  exact ⟨Sv20, wj s d [0] []⟩
 rintro a w ⟨Sv41, s, d⟩
 refine tn ?_
 obtain rfl := oi u
 exact wp_ret (ret2 s rfl (rv_cell d 0 rfl rfl isAgg33 sizeOf33 rfl) (rv_tmp rfl) (d.ret rfl))
end Go.Proofs.YthdimlepjpnncaaGreat.Wk

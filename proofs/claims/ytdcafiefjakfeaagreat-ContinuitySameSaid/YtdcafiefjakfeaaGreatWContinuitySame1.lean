/- The walks of ContinuitySame, part 1: each Go function computes what its plain program computes. Printed by a program of ours. -/
import Derived.Test.YtdcafiefjakfeaaGreatProg
import Derived.Test.YtdcafiefjakfeaaGreatDat
import Derived.Test.YtdcafiefjakfeaaGreatSh
import Derived.Test.YtdcafiefjakfeaaGreatLa1
import Derived.KernelRfl
import Derived.Test.YtdcafiefjakfeaaGreatLb1
import Derived.Shelf.SlLaysF0
import Derived.Shelf.SlLaysM
namespace Go.Proofs.YtdcafiefjakfeaaGreat.Wk
open Go Go.RowKit Go.Proofs Go.Proofs.YtdcafiefjakfeaaGreat.Sh
set_option linter.unusedVariables false
set_option linter.unusedSimpArgs false
set_option maxHeartbeats 4000000
set_option maxRecDepth 100000
theorem El22 : ElT Tryz.prog 22 3 1 8 (.int .i64 0) := ⟨Tryz.underlying22, ⟨Tryz.t3, info_of Tryz.type3, rfl, rfl, rfl⟩, rfl, by decide⟩
theorem El28 : ElT Tryz.prog 28 56 12 144 (.agg #[.string ByteArray.empty, .string ByteArray.empty, .string ByteArray.empty, .string ByteArray.empty, .int .i64 0, .int .i64 0, .int .i64 0, .int .i64 0, .int .i64 0, .int .i64 0, .int .i64 0, .slice none ([] : List Int).length 0]) := ⟨Tryz.underlying28, ⟨Tryz.t56, info_of Tryz.type56, rfl, rfl, rfl⟩, rfl, by decide⟩
theorem El30 : ElT Tryz.prog 30 71 2 16 (.agg #[.int .i64 0, .int .i64 0]) := ⟨Tryz.underlying30, ⟨Tryz.t71, info_of Tryz.type71, rfl, rfl, rfl⟩, rfl, by decide⟩
theorem El34 : ElT Tryz.prog 34 42 3 24 (.agg #[.int .i64 0, .int .i64 0, .bool false]) := ⟨Tryz.underlying34, ⟨Tryz.t42, info_of Tryz.type42, rfl, rfl, rfl⟩, rfl, by decide⟩
theorem El122 : ElT Tryz.prog 122 9 1 16 (.string ByteArray.empty) := ⟨Tryz.underlying122, ⟨Tryz.t9, info_of Tryz.type9, rfl, rfl, rfl⟩, rfl, by decide⟩
theorem Bld42 : BldT Tryz.prog 42 ((#[(0, 1), (1, 1), (2, 1)] : Array (Nat × Nat))[·]?) [.int .i64 0, .int .i64 0, .bool false] := bld_of Tryz.zeroValue42 rfl Tryz.runUnderlying42 (fun w => by simp [Tryz.sizeOf3, Tryz.sizeOf4])
theorem Bld50 : BldT Tryz.prog 50 (fun i => some (i * 1, 1)) [.int .i64 0, .int .i64 0] := bld_arr Tryz.zeroValue50 rfl Tryz.runUnderlying50 Tryz.sizeOf3
theorem Bld52 : BldT Tryz.prog 52 ((#[(0, 1), (1, 1), (2, 1), (3, 1)] : Array (Nat × Nat))[·]?) [.string ByteArray.empty, .string ByteArray.empty, .string ByteArray.empty, .string ByteArray.empty] := bld_of Tryz.zeroValue52 rfl Tryz.runUnderlying52 (fun w => by simp [Tryz.sizeOf9])
theorem Bld54 : BldT Tryz.prog 54 ((#[(0, 1), (1, 1)] : Array (Nat × Nat))[·]?) [.int .i64 0, .int .i64 0] := bld_of Tryz.zeroValue54 rfl Tryz.runUnderlying54 (fun w => by simp [Tryz.sizeOf3])
theorem Bld56 : BldT Tryz.prog 56 ((#[(0, 4), (4, 1), (5, 1), (6, 2), (8, 1), (9, 1), (10, 1), (11, 1)] : Array (Nat × Nat))[·]?) [.string ByteArray.empty, .string ByteArray.empty, .string ByteArray.empty, .string ByteArray.empty, .int .i64 0, .int .i64 0, .int .i64 0, .int .i64 0, .int .i64 0, .int .i64 0, .int .i64 0, .slice none ([] : List Int).length 0] := bld_of Tryz.zeroValue56 rfl Tryz.runUnderlying56 (fun w => by simp [Tryz.sizeOf3, Tryz.sizeOf22, Tryz.sizeOf52, Tryz.sizeOf54])
theorem Bld71 : BldT Tryz.prog 71 ((#[(0, 1), (1, 1)] : Array (Nat × Nat))[·]?) [.int .i64 0, .int .i64 0] := bld_of Tryz.zeroValue71 rfl Tryz.runUnderlying71 (fun w => by simp [Tryz.sizeOf3])
theorem Bld87 : BldT Tryz.prog 87 ((#[(0, 1), (1, 1)] : Array (Nat × Nat))[·]?) [.slice none ([] : List Int).length 0, .int .i64 0] := bld_of Tryz.zeroValue87 rfl Tryz.runUnderlying87 (fun w => by simp [Tryz.sizeOf3, Tryz.sizeOf22])
theorem Bld93 : BldT Tryz.prog 93 ((#[(0, 1), (1, 1)] : Array (Nat × Nat))[·]?) [.int .i64 0, .bool false] := bld_of Tryz.zeroValue93 rfl Tryz.runUnderlying93 (fun w => by simp [Tryz.sizeOf3, Tryz.sizeOf4])
theorem Bld150 : BldT Tryz.prog 150 (fun i => some (i * 1, 1)) [.int .i64 0, .int .i64 0, .int .i64 0, .int .i64 0, .int .i64 0, .int .i64 0, .int .i64 0, .int .i64 0, .int .i64 0, .int .i64 0] := bld_arr Tryz.zeroValue150 rfl Tryz.runUnderlying150 Tryz.sizeOf3
theorem Bld177 : BldT Tryz.prog 177 (fun i => some (i * 1, 1)) [.int .i64 0, .int .i64 0, .int .i64 0, .int .i64 0] := bld_arr Tryz.zeroValue177 rfl Tryz.runUnderlying177 Tryz.sizeOf3
instance : TbOk Tryz.prog where
  tb := ⟨[(42, [(0, 1, false), (1, 1, false), (2, 1, false)]), (52, [(0, 1, false), (1, 1, false), (2, 1, false), (3, 1, false)]), (54, [(0, 1, false), (1, 1, false)]), (56, [(0, 4, true), (4, 1, false), (5, 1, false), (6, 2, true), (8, 1, false), (9, 1, false), (10, 1, false), (11, 1, false)]), (71, [(0, 1, false), (1, 1, false)]), (87, [(0, 1, false), (1, 1, false)]), (93, [(0, 1, false), (1, 1, false)])], [(3, none), (4, none), (9, none), (22, none), (28, none), (50, some 2), (52, some 4), (54, some 2), (56, some 12), (71, some 2), (93, some 2)], [(9, false), (22, true), (28, true), (30, true), (34, true)]⟩
  st := ⟨⟨_, Tryz.runUnderlying42, ⟨rfl, Tryz.sizeOf3, Tryz.isAgg3⟩, ⟨rfl, Tryz.sizeOf3, Tryz.isAgg3⟩, ⟨rfl, Tryz.sizeOf4, Tryz.isAgg4⟩, trivial⟩, ⟨_, Tryz.runUnderlying52, ⟨rfl, Tryz.sizeOf9, Tryz.isAgg9⟩, ⟨rfl, Tryz.sizeOf9, Tryz.isAgg9⟩, ⟨rfl, Tryz.sizeOf9, Tryz.isAgg9⟩, ⟨rfl, Tryz.sizeOf9, Tryz.isAgg9⟩, trivial⟩, ⟨_, Tryz.runUnderlying54, ⟨rfl, Tryz.sizeOf3, Tryz.isAgg3⟩, ⟨rfl, Tryz.sizeOf3, Tryz.isAgg3⟩, trivial⟩, ⟨_, Tryz.runUnderlying56, ⟨rfl, Tryz.sizeOf52, Tryz.isAgg52⟩, ⟨rfl, Tryz.sizeOf3, Tryz.isAgg3⟩, ⟨rfl, Tryz.sizeOf3, Tryz.isAgg3⟩, ⟨rfl, Tryz.sizeOf54, Tryz.isAgg54⟩, ⟨rfl, Tryz.sizeOf3, Tryz.isAgg3⟩, ⟨rfl, Tryz.sizeOf3, Tryz.isAgg3⟩, ⟨rfl, Tryz.sizeOf3, Tryz.isAgg3⟩, ⟨rfl, Tryz.sizeOf22, Tryz.isAgg22⟩, trivial⟩, ⟨_, Tryz.runUnderlying71, ⟨rfl, Tryz.sizeOf3, Tryz.isAgg3⟩, ⟨rfl, Tryz.sizeOf3, Tryz.isAgg3⟩, trivial⟩, ⟨_, Tryz.runUnderlying87, ⟨rfl, Tryz.sizeOf22, Tryz.isAgg22⟩, ⟨rfl, Tryz.sizeOf3, Tryz.isAgg3⟩, trivial⟩, ⟨_, Tryz.runUnderlying93, ⟨rfl, Tryz.sizeOf3, Tryz.isAgg3⟩, ⟨rfl, Tryz.sizeOf4, Tryz.isAgg4⟩, trivial⟩, trivial⟩
  ld := ⟨Tryz.isAgg3, Tryz.isAgg4, Tryz.isAgg9, Tryz.isAgg22, Tryz.isAgg28, ⟨Tryz.isAgg50, Tryz.sizeOf50⟩, ⟨Tryz.isAgg52, Tryz.sizeOf52⟩, ⟨Tryz.isAgg54, Tryz.sizeOf54⟩, ⟨Tryz.isAgg56, Tryz.sizeOf56⟩, ⟨Tryz.isAgg71, Tryz.sizeOf71⟩, ⟨Tryz.isAgg93, Tryz.sizeOf93⟩, trivial⟩
  ln := ⟨Tryz.runUnderlying9, ⟨_, Tryz.runUnderlying22⟩, ⟨_, Tryz.runUnderlying28⟩, ⟨_, Tryz.runUnderlying30⟩, ⟨_, Tryz.runUnderlying34⟩, trivial⟩
abbrev C42 (d : Overlap) : List Value := [.int .i64 d.From, .int .i64 d.To, .bool d.Same]
abbrev V42 (d : Overlap) : Value := .agg (C42 d).toArray
abbrev C52 (d : SourceID) : List Value := [.string d.Network, .string d.Station, .string d.Location, .string d.Channel]
abbrev V52 (d : SourceID) : Value := .agg (C52 d).toArray
abbrev C54 (d : Rate) : List Value := [.int .i64 d.Num, .int .i64 d.Den]
abbrev V54 (d : Rate) : Value := .agg (C54 d).toArray
abbrev C56 (d : Record) (p11 : Option Addr) (k11 : Nat) : List Value := [.string d.Source.Network, .string d.Source.Station, .string d.Source.Location, .string d.Source.Channel, .int .i64 d.Start, .int .i64 d.First, .int .i64 d.Rate.Num, .int .i64 d.Rate.Den, .int .i64 d.Error, .int .i64 d.Run, .int .i64 d.Seq, .slice p11 d.Samples.length k11]
abbrev V56 (d : Record) (p11 : Option Addr) (k11 : Nat) : Value := .agg (C56 d p11 k11).toArray
abbrev C71 (d : Span) : List Value := [.int .i64 d.From, .int .i64 d.To]
abbrev V71 (d : Span) : Value := .agg (C71 d).toArray
abbrev C87 (d : Dice) (p0 : Option Addr) (k0 : Nat) : List Value := [.slice p0 d.L.length k0, .int .i64 d.At]
abbrev V87 (d : Dice) (p0 : Option Addr) (k0 : Nat) : Value := .agg (C87 d p0 k0).toArray
abbrev C93 (d : Continuity_state) : List Value := [.int .i64 d.depth_, .bool d.same_]
abbrev V93 (d : Continuity_state) : Value := .agg (C93 d).toArray
abbrev Z0 : List Value := [.string ByteArray.empty, .string ByteArray.empty, .string ByteArray.empty, .string ByteArray.empty, .int .i64 0, .int .i64 0, .int .i64 0, .int .i64 0, .int .i64 0, .int .i64 0, .int .i64 0, .slice none ([] : List Int).length 0]
abbrev Z1 : List Value := [.string ByteArray.empty, .string ByteArray.empty, .string ByteArray.empty, .string ByteArray.empty]
abbrev Z2 : List Value := [.string (⟨#[65]⟩ : ByteArray), .string (⟨#[66]⟩ : ByteArray), .string ByteArray.empty, .string (⟨#[72, 72, 90]⟩ : ByteArray)]
abbrev Z3 : List Value := [.string (⟨#[71, 82]⟩ : ByteArray), .string (⟨#[88]⟩ : ByteArray), .string (⟨#[55, 65]⟩ : ByteArray)]
abbrev Z4 : List Value := [.string (⟨#[70, 85, 82]⟩ : ByteArray), .string (⟨#[65]⟩ : ByteArray), .string (⟨#[65, 66, 67, 68, 69]⟩ : ByteArray), .string (⟨#[70, 85]⟩ : ByteArray)]
abbrev Z5 : List Value := [.string (⟨#[]⟩ : ByteArray), .string (⟨#[48, 48]⟩ : ByteArray), .string (⟨#[49, 48]⟩ : ByteArray)]
abbrev Z6 : List Value := [.string (⟨#[72, 72, 90]⟩ : ByteArray), .string (⟨#[72, 72, 78]⟩ : ByteArray), .string (⟨#[66, 72, 90]⟩ : ByteArray)]
abbrev Z7 : List Value := [.int .i64 0, .int .i64 0, .int .i64 10, .int .i64 500]
abbrev Z8 : List Value := [.int .i64 1, .int .i64 2, .int .i64 2, .int .i64 3]
abbrev Z9 : List Value := [.int .i64 1, .int .i64 1, .int .i64 1, .int .i64 3]
abbrev made_Light_rd (w0 : World) (X : List Nat) (r : Bool) : Rd := fun S w v => v = .bool r
theorem made_Light_ok {w0 S0 p2 k3 l1 r} (u : made_Light l1 = some r) (hS : Dm S0 w0) (h4 : (SlA p2 l1.length k3 l1).p S0 w0) : Calls Tryz.prog 9 #[.slice p2 l1.length k3] w0 (Ret ([]) w0 S0 (made_Light_rd w0 ([]) r)) := by
 refine en 6 Tryz.func9 rfl hS rfl rfl rfl fun a s d => ?_
 have d := d.addE h4
 delta made_Light at u
 refine sz 1 [] s d rfl rfl fun a s => ?_
 refine sz 4 [] s d rfl rfl fun a s => ?_
 have u := oi u
 subst u
 exact wp_ret (ret1 s rfl (rv_tmp rfl) (d.ret rfl))
abbrev slices_IndexFunc_Lapi_Record_api_Record_rd (w0 : World) (X : List Nat) (r : Int) : Rd := fun S w v => v = .int .i64 r
theorem slices_IndexFunc_Lapi_Record_api_Record_ok {w0 S0 p2 k3 g6 f7 cp8 s1} {f5 : Record → Option Bool} {r} (u : slices_IndexFunc_Lapi_Record_api_Record s1 f5 = some r) (hS : Dm S0 w0) (h4 : (SlA p2 s1.length k3 s1).p S0 w0) (h9 : (FnA1 Tryz.prog g6 f7 cp8 f5).p S0 w0) : Calls Tryz.prog 176 #[.slice p2 s1.length k3, .func (.func g6) f7.toArray cp8.toArray] w0 (Ret ([]) w0 S0 (slices_IndexFunc_Lapi_Record_api_Record_rd w0 ([]) r)) := by
 refine en 19 Tryz.func176 rfl hS rfl rfl rfl fun a s d => ?_
 have d := (d.addE h4).addE h9
 delta slices_IndexFunc_Lapi_Record_api_Record at u
 refine sz 1 [] s d rfl rfl fun a s => ?_
 refine wp_seq (sz 3 [] s d rfl rfl fun a s => ?_)
 refine wp_block (wp_while (fun sv90 a w => ∃ Sv142, Sl 19 [(0, .slice p2 s1.length k3), (1, .func (.func g6) f7.toArray cp8.toArray), (7, .int .i64 (s1.length : Int)), (8, .int .i64 sv90)] a ∧ Wd ⟨w0, S0, []⟩ Sv142 [] [SlA p2 s1.length k3 s1, FnA1 Tryz.prog g6 f7 cp8 f5] w) 0 u ⟨S0, (s.wk rfl), (d.ft [] [1, 0] (by decide) rfl rfl)⟩ ?_)
 repeat clear u
 rintro sv90 a w tv169 ⟨Sv142, s, d⟩ u hd168
 delta slices_IndexFunc_Lapi_Record_api_Record_l2 at u
 refine sz 1 [] s d rfl rfl fun a s => ?_
 refine wp_seq (cd s u rfl (fun u => ?_) fun u => ?_)
 ·refine wp_skip (then_normal (wp_seq (wp_block (sz 2 [] s d rfl rfl fun a s => ?_))))
  refine sn 3 [] s d rfl rfl fun a s => ?_
  obtain ⟨x200, h198, u⟩ := bind_t u
  obtain ⟨b206, o207, q204, c205, h208, h201, h202, h203, h199⟩ := d.elemV 0 rfl h198
  have hsv209 := s
  have hwv210 := d
  subst h208
  have s := hsv209
  have d := hwv210
  obtain ⟨_, _, _, _, _, _, _, _, _, _, _, _, rfl, rfl, rfl, rfl, rfl, rfl, rfl, rfl, rfl, rfl, rfl, rfl, ⟨p211, n212, k213, rfl, h214⟩⟩ := h199
  obtain rfl := h214.1
  have d := (d.addE (e := SlA p211 _ k213 x200.Samples) h214).addE h203
  refine sv s (y_indexAt Tryz.runUnderlying28 Tryz.sizeOf56 rfl rfl h201.1 h201.2 h202) rfl fun a s => ?_
  refine sv s (y_loadEA (j := 0) (d.ceAt 0 rfl) rfl Tryz.isAgg56 Tryz.sizeOf56 rfl rfl) rfl fun a s => ?_
  obtain ⟨rv216, h215, u⟩ := bind_t u
  refine st_callR s ((d.bE 3 rfl).2 Keep.rfl' d.bdom ⟨_, _, _, _, _, _, _, _, _, _, _, _, rfl, rfl, rfl, rfl, rfl, rfl, rfl, rfl, rfl, rfl, rfl, rfl, ⟨_, _, _, rfl, d.bE 1 rfl⟩⟩ h215) (do_callF (d.bE 3 rfl).1 rfl rfl) trivial rfl rfl ?_
  rintro v220 Sv217 w a h218 rfl s
  have d := d.callB h218
  refine nl (cd s u rfl (fun u => ?_) fun u => ?_)
  ·refine sz 2 [] s d rfl rfl fun a s => ?_
   have u := oi u
   subst u
   have h223 := hd168 _ rfl
   subst h223
   exact wp_ret (blk_ret (then_ret (then_ret (blk_ret (then_ret (ret1 s rfl (rv_tmp rfl) (d.ret rfl)))))))
  refine wp_skip (blk_normal (then_normal (wp_region_lit (rz 2 [] s d rfl rfl fun a s => ?_))))
  exact ⟨_, (Option.some.inj u).symm, Sv142, (s.wk rfl), (d.ft [] [2, 3] (by decide) rfl rfl)⟩
 obtain ⟨rv224, u, h225⟩ := map_t u
 have h225 := (hd168 _ h225.symm).symm
 subst h225
 refine wp_exit (then_exit (then_exit (blk_exit (then_normal (sz 1 [] s d rfl rfl fun a s => ?_)))))
 have u := oi u
 subst u
 exact wp_ret (ret1 s rfl (rv_tmp rfl) (d.ret rfl))
theorem slices_ContainsFunc_Lapi_Record_api_Record_ok {w0 S0 p2 k3 g6 f7 cp8 s1} {f5 : Record → Option Bool} {r} (u : slices_ContainsFunc_Lapi_Record_api_Record s1 f5 = some r) (hS : Dm S0 w0) (h4 : (SlA p2 s1.length k3 s1).p S0 w0) (h9 : (FnA1 Tryz.prog g6 f7 cp8 f5).p S0 w0) : Calls Tryz.prog 147 #[.slice p2 s1.length k3, .func (.func g6) f7.toArray cp8.toArray] w0 (Ret ([]) w0 S0 (made_Light_rd w0 ([]) r)) := by
 refine en 9 Tryz.func147 rfl hS rfl rfl rfl fun a s d => ?_
 have d := (d.addE h4).addE h9
 delta slices_ContainsFunc_Lapi_Record_api_Record at u
 refine sz 1 [] s d rfl rfl fun a s => ?_
 refine sn 2 [] s d rfl rfl fun a s => ?_
 obtain ⟨rv11, h10, u⟩ := bind_t u
 refine st_callR s (slices_IndexFunc_Lapi_Record_api_Record_ok h10 d.bdom (d.bE 1 rfl) (d.bE 0 rfl)) (do_call Tryz.call176 rfl) trivial rfl rfl ?_
 rintro v15 Sv12 w a h13 rfl s
 have d := d.callB h13
 refine rz 2 [] s d rfl rfl fun a s => ?_
 have u := oi u
 subst u
 exact wp_ret (ret1 s rfl (rv_tmp rfl) (d.ret rfl))
theorem source_plain_ok {w0 S0 c1 r} (u : source_plain c1 = some r) (hS : Dm S0 w0) : Calls Tryz.prog 175 #[.int .u8 c1] w0 (Ret ([]) w0 S0 (made_Light_rd w0 ([]) r)) := by
 refine en 17 Tryz.func175 rfl hS rfl rfl rfl fun a s d => ?_
 delta source_plain at u
 refine sz 1 [] s d rfl rfl fun a s => ?_
 refine sn 1 [] s d rfl rfl fun a s => ?_
 refine sv s (y_geq (rfl) rfl) rfl fun a s => ?_
 refine mv s rfl rfl fun a s => ?_
 refine wpl_join 3 (fun a w1 => w0 = w1 ∧ Sl 17 [(0, .int .u8 c1), (8, .bool ((decide (65 ≤ c1)) && (decide (c1 ≤ 90))))] a) ?_ ?_
 ·rcases Bool.eq_false_or_eq_true (decide (65 ≤ c1)) with h2 | h2
  ·have s := s.fix 5 (.bool true) rfl (vb h2)
   refine st_val s (y_move rfl) ⟨_, rfl, rfl⟩ rfl rfl fun a s => ?_
   refine st_val s (y_leq (rfl) rfl) ⟨_, rfl, rfl⟩ rfl rfl fun a s => ?_
   refine rz 1 [] s d rfl rfl fun a s => ?_
   exact ⟨rfl, (s.fix 8 (.bool ((decide (65 ≤ c1)) && (decide (c1 ≤ 90)))) rfl (and_t h2)).weaken _ ⟨rfl, rfl, trivial⟩⟩
  have s := s.fix 5 (.bool false) rfl (vb h2)
  refine rz 3 [] s d rfl rfl fun a s => ?_
  exact ⟨rfl, (s.fix 8 (.bool ((decide (65 ≤ c1)) && (decide (c1 ≤ 90)))) rfl (and_f h2)).weaken _ ⟨rfl, rfl, trivial⟩⟩
 rintro a w1 ⟨h11, s⟩
 subst h11
 refine mv s rfl rfl fun a s => ?_
 refine wpl_join 7 (fun a w1 => w0 = w1 ∧ Sl 17 [(16, .bool (((decide (65 ≤ c1)) && (decide (c1 ≤ 90))) || ((decide (48 ≤ c1)) && (decide (c1 ≤ 57)))))] a) ?_ ?_
 ·rcases Bool.eq_false_or_eq_true ((decide (65 ≤ c1)) && (decide (c1 ≤ 90))) with h5 | h5
  ·have s := s.fix 9 (.bool true) rfl (vb h5)
   refine rz 7 [] s d rfl rfl fun a s => ?_
   exact ⟨rfl, (s.fix 16 (.bool (((decide (65 ≤ c1)) && (decide (c1 ≤ 90))) || ((decide (48 ≤ c1)) && (decide (c1 ≤ 57))))) rfl (or_t h5)).weaken _ ⟨rfl, trivial⟩⟩
  have s := s.fix 9 (.bool false) rfl (vb h5)
  refine st_val s (y_move rfl) ⟨_, rfl, rfl⟩ rfl rfl fun a s => ?_
  refine st_val s (y_geq (rfl) rfl) ⟨_, rfl, rfl⟩ rfl rfl fun a s => ?_
  refine st_val s (y_move rfl) ⟨_, rfl, rfl⟩ rfl rfl fun a s => ?_
  refine wpl_join 3 (fun a w1 => w0 = w1 ∧ Sl 17 [(9, .bool false), (15, .bool ((decide (48 ≤ c1)) && (decide (c1 ≤ 57))))] a) ?_ ?_
  ·rcases Bool.eq_false_or_eq_true (decide (48 ≤ c1)) with h8 | h8
   ·have s := s.fix 12 (.bool true) rfl (vb h8)
    refine st_val s (y_move rfl) ⟨_, rfl, rfl⟩ rfl rfl fun a s => ?_
    refine st_val s (y_leq (rfl) rfl) ⟨_, rfl, rfl⟩ rfl rfl fun a s => ?_
    refine rz 1 [] s d rfl rfl fun a s => ?_
    exact ⟨rfl, (s.fix 15 (.bool ((decide (48 ≤ c1)) && (decide (c1 ≤ 57)))) rfl (and_t h8)).weaken _ ⟨rfl, rfl, trivial⟩⟩
   have s := s.fix 12 (.bool false) rfl (vb h8)
   refine rz 3 [] s d rfl rfl fun a s => ?_
   exact ⟨rfl, (s.fix 15 (.bool ((decide (48 ≤ c1)) && (decide (c1 ≤ 57)))) rfl (and_f h8)).weaken _ ⟨rfl, rfl, trivial⟩⟩
  rintro a w1 ⟨h9, s⟩
  subst h9
  refine rz 1 [] s d rfl rfl fun a s => ?_
  exact ⟨rfl, (s.fix 16 (.bool (((decide (65 ≤ c1)) && (decide (c1 ≤ 90))) || ((decide (48 ≤ c1)) && (decide (c1 ≤ 57))))) rfl (or_f h5)).weaken _ ⟨rfl, trivial⟩⟩
 rintro a w1 ⟨h10, s⟩
 subst h10
 refine rz 1 [] s d rfl rfl fun a s => ?_
 have u := oi u
 subst u
 exact wp_ret (ret1 s rfl (rv_tmp rfl) (d.ret rfl))
theorem source_code_ok {w0 S0 s1 low2 high3 r} (u : source_code s1 low2 high3 = some r) (hS : Dm S0 w0) : Calls Tryz.prog 145 #[.string s1, .int .i64 low2, .int .i64 high3] w0 (Ret ([]) w0 S0 (made_Light_rd w0 ([]) r)) := by
 refine en 29 Tryz.func145 rfl hS rfl rfl rfl fun a s d => ?_
 delta source_code at u
 refine sz 1 [] s d rfl rfl fun a s => ?_
 refine wp_seq (sz 3 [] s d rfl rfl fun a s => ?_)
 refine wp_block (wp_while (fun sv42 a w => ∃ Sv66, Sl 29 [(0, .string s1), (1, .int .i64 low2), (2, .int .i64 high3), (9, .int .i64 (s1.size : Int)), (10, .int .i64 sv42)] a ∧ Wd ⟨w0, S0, []⟩ Sv66 [] [] w) 0 u ⟨S0, (s.wk rfl), (d.ft [] [] (by decide) rfl rfl)⟩ ?_)
 repeat clear u
 rintro sv42 a w tv79 ⟨Sv66, s, d⟩ u hd78
 delta source_code_l2 at u
 refine sz 1 [] s d rfl rfl fun a s => ?_
 refine wp_seq (cd s u rfl (fun u => ?_) fun u => ?_)
 ·refine wp_skip (then_normal (wp_seq (wp_block (sz 2 [] s d rfl rfl fun a s => ?_))))
  refine sn 2 [] s d rfl rfl fun a s => ?_
  obtain ⟨c95, h94, u⟩ := bind_t u
  refine sv s (y_indexSM Tryz.runUnderlying9 rfl rfl h94) rfl fun a s => ?_
  obtain ⟨rv97, h96, u⟩ := bind_t u
  refine st_callR s (source_plain_ok h96 d.bdom) (do_call Tryz.call175 rfl) trivial rfl rfl ?_
  rintro v101 Sv98 w a h99 rfl s
  have d := d.callB h99
  refine rz 1 [] s d rfl rfl fun a s => ?_
  refine cd s u rfl (fun u => ?_) fun u => ?_
  ·refine sz 1 [] s d rfl rfl fun a s => ?_
   have u := oi u
   subst u
   have h105 := hd78 _ rfl
   subst h105
   exact wp_ret (blk_ret (then_ret (then_ret (blk_ret (then_ret (ret1 s rfl (rv_tmp rfl) (d.ret rfl)))))))
  refine wp_skip (blk_normal (then_normal (wp_region_lit (rz 2 [] s d rfl rfl fun a s => ?_))))
  exact ⟨_, (Option.some.inj u).symm, Sv66, (s.wk rfl), (d.ft [] [] (by decide) rfl rfl)⟩
 obtain ⟨rv107, u, h108⟩ := map_t u
 have h108 := (hd78 _ h108.symm).symm
 subst h108
 refine wp_exit (then_exit (then_exit (blk_exit (then_normal (sn 5 [] s d rfl rfl fun a s => ?_)))))
 refine rA 5 23 [] s d rfl rfl rfl rfl rfl fun a s => ?_
 refine rz 1 [] s d rfl rfl fun a s => ?_
 have u := oi u
 subst u
 exact wp_ret (ret1 s rfl (rv_tmp rfl) (d.ret rfl))
theorem source_Valid_ok {w0 S0 s1 r} (u : source_Valid s1 = some r) (hS : Dm S0 w0) : Calls Tryz.prog 111 #[V52 s1] w0 (Ret ([]) w0 S0 (made_Light_rd w0 ([]) r)) := by
 refine en 27 Tryz.func111 rfl hS rfl rfl rfl fun a s d => ?_
 delta source_Valid at u
 refine sr (w_box (cs := (C52 s1)) s d rfl rfl rfl trivial ?_)
 intro b2 a w s d
 refine rz 1 [] s d rfl rfl fun a s => ?_
 refine sn 2 [0] s d rfl rfl fun a s => ?_
 obtain ⟨rv4, h3, u⟩ := bind_t u
 refine st_callR s (source_code_ok h3 d.bdom) (do_call Tryz.call145 rfl) trivial rfl rfl ?_
 rintro v8 Sv5 w a h6 rfl s
 have d := d.callB h6
 refine mv s rfl rfl fun a s => ?_
 obtain ⟨c18, hc18, u⟩ := bind_t u
 refine wpl_join 4 (fun a w => ∃ Sv19, Sl 27 [(1, .pointer (some ⟨b2, 0, none⟩)), (10, .bool c18)] a ∧ Wd ⟨w0, S0, []⟩ Sv19 [.box b2 (C52 s1) 52] [] w) ?_ ?_
 ·rcases Bool.eq_false_or_eq_true rv4 with h17 | h17
  ·have s := s.fix 6 (.bool true) rfl (vb h17)
   have u := ite_t hc18 h17
   refine rn 2 [0] s d rfl rfl fun a s => ?_
   obtain ⟨rv21, h20, u⟩ := bind_t u
   refine st_callR s (source_code_ok h20 d.bdom) (do_call Tryz.call145 rfl) ⟨_, rfl, rfl⟩ rfl rfl ?_
   rintro v25 Sv22 w a h23 rfl s
   have d := d.callB h23
   refine sv s (y_pickT rfl rfl) rfl fun a s => ?_
   refine wpList_nil ?_
   have u := oi u
   subst u
   exact then_normal ⟨S0, (s.wk rfl), (d.ft [0] [] (by decide) rfl rfl)⟩
  have s := s.fix 6 (.bool false) rfl (vb h17)
  have u := ite_f hc18 h17
  refine rn 4 [] s d rfl rfl fun a s => ?_
  refine wpList_nil ?_
  have u := oi u
  subst u
  exact then_normal ⟨S0, (s.wk rfl), (d.ft [0] [] (by decide) rfl rfl)⟩
 rintro a w ⟨Sv19, s, d⟩
 refine mv s rfl rfl fun a s => ?_
 obtain ⟨c35, hc35, u⟩ := bind_t u
 refine wpl_join 4 (fun a w => ∃ Sv36, Sl 27 [(1, .pointer (some ⟨b2, 0, none⟩)), (15, .bool c35)] a ∧ Wd ⟨w0, S0, []⟩ Sv36 [.box b2 (C52 s1) 52] [] w) ?_ ?_
 ·rcases Bool.eq_false_or_eq_true c18 with h34 | h34
  ·have s := s.fix 11 (.bool true) rfl (vb h34)
   have u := ite_t hc35 h34
   refine rn 2 [0] s d rfl rfl fun a s => ?_
   obtain ⟨rv38, h37, u⟩ := bind_t u
   refine st_callR s (source_code_ok h37 d.bdom) (do_call Tryz.call145 rfl) ⟨_, rfl, rfl⟩ rfl rfl ?_
   rintro v42 Sv39 w a h40 rfl s
   have d := d.callB h40
   refine sv s (y_pickT rfl rfl) rfl fun a s => ?_
   refine wpList_nil ?_
   have u := oi u
   subst u
   exact then_normal ⟨Sv19, (s.wk rfl), (d.ft [0] [] (by decide) rfl rfl)⟩
  have s := s.fix 11 (.bool false) rfl (vb h34)
  have u := ite_f hc35 h34
  refine rn 4 [] s d rfl rfl fun a s => ?_
  refine wpList_nil ?_
  have u := oi u
  subst u
  exact then_normal ⟨Sv19, (s.wk rfl), (d.ft [0] [] (by decide) rfl rfl)⟩
 rintro a w ⟨Sv36, s, d⟩
 refine mv s rfl rfl fun a s => ?_
 refine rA 5 16 [0] s d rfl rfl rfl rfl rfl fun a s => ?_
 refine mv s rfl rfl fun a s => ?_
 obtain ⟨c53, hc53, u⟩ := bind_t u
 refine wpl_join 4 (fun a w => ∃ Sv54, Sl 27 [(26, .bool c53)] a ∧ Wd ⟨w0, S0, []⟩ Sv54 [] [] w) ?_ ?_
 ·rcases Bool.eq_false_or_eq_true (c35 && ((s1.Location.size : Int) != 1)) with h52 | h52
  ·have s := s.fix 22 (.bool true) rfl (vb h52)
   have u := ite_t hc53 h52
   refine rn 2 [0] s d rfl rfl fun a s => ?_
   obtain ⟨rv56, h55, u⟩ := bind_t u
   refine st_callR s (source_code_ok h55 d.bdom) (do_call Tryz.call145 rfl) ⟨_, rfl, rfl⟩ rfl rfl ?_
   rintro v60 Sv57 w a h58 rfl s
   have d := d.callB h58
   refine sv s (y_pickT rfl rfl) rfl fun a s => ?_
   refine wpList_nil ?_
   have u := oi u
   subst u
   exact then_normal ⟨Sv36, (s.wk rfl), (d.ft [] [] (by decide) rfl rfl)⟩
  have s := s.fix 22 (.bool false) rfl (vb h52)
  have u := ite_f hc53 h52
  refine rn 4 [] s d rfl rfl fun a s => ?_
  refine wpList_nil ?_
  have u := oi u
  subst u
  exact then_normal ⟨Sv36, (s.wk rfl), (d.ft [] [] (by decide) rfl rfl)⟩
 rintro a w ⟨Sv54, s, d⟩
 refine rz 1 [] s d rfl rfl fun a s => ?_
 have u := oi u
 subst u
 exact wp_ret (ret1 s rfl (rv_tmp rfl) (d.ret rfl))
theorem record_in_ok {w0 S0 n1 low2 high3 r} (u : record_in n1 low2 high3 = some r) (hS : Dm S0 w0) : Calls Tryz.prog 112 #[.int .i64 n1, .int .i64 low2, .int .i64 high3] w0 (Ret ([]) w0 S0 (made_Light_rd w0 ([]) r)) := by
 refine en 15 Tryz.func112 rfl hS rfl rfl rfl fun a s d => ?_
 delta record_in at u
 refine sz 1 [] s d rfl rfl fun a s => ?_
 refine sn 4 [] s d rfl rfl fun a s => ?_
 refine rA 4 10 [] s d rfl rfl rfl rfl rfl fun a s => ?_
 refine rz 1 [] s d rfl rfl fun a s => ?_
 have u := oi u
 subst u
 exact wp_ret (ret1 s rfl (rv_tmp rfl) (d.ret rfl))
theorem rate_in_ok {w0 S0 n1 low2 high3 r} (u : rate_in n1 low2 high3 = some r) (hS : Dm S0 w0) : Calls Tryz.prog 134 #[.int .i64 n1, .int .i64 low2, .int .i64 high3] w0 (Ret ([]) w0 S0 (made_Light_rd w0 ([]) r)) := by
 refine en 15 Tryz.func134 rfl hS rfl rfl rfl fun a s d => ?_
 delta rate_in at u
 refine sz 1 [] s d rfl rfl fun a s => ?_
 refine sn 4 [] s d rfl rfl fun a s => ?_
 refine rA 4 10 [] s d rfl rfl rfl rfl rfl fun a s => ?_
 refine rz 1 [] s d rfl rfl fun a s => ?_
 have u := oi u
 subst u
 exact wp_ret (ret1 s rfl (rv_tmp rfl) (d.ret rfl))
theorem rate_gcd_ok {w0 S0 a1 b2 r} (u : rate_gcd a1 b2 = some r) (hS : Dm S0 w0) : Calls Tryz.prog 170 #[.int .i64 a1, .int .i64 b2] w0 (Ret ([]) w0 S0 (slices_IndexFunc_Lapi_Record_api_Record_rd w0 ([]) r)) := by
 refine en 12 Tryz.func170 rfl hS rfl rfl rfl fun a s d => ?_
 delta rate_gcd at u
 refine sz 1 [] s d rfl rfl fun a s => ?_
 refine wp_seq ?_
 obtain ⟨e21, h32, u⟩ := bind_t u
 refine wp_join (fun a w => ∃ Sv22, Sl 12 [(0, .int .i64 e21)] a ∧ Wd ⟨w0, S0, []⟩ Sv22 [] [] w) ?_ ?_
 ·refine wp_block (wp_while (fun sv3 a w => ∃ Sv13, Sl 12 [(0, .int .i64 sv3.1), (1, .int .i64 sv3.2)] a ∧ Wd ⟨w0, S0, []⟩ Sv13 [] [] w) (a1, b2) h32 ⟨S0, (s.wk rfl), (d.ft [] [] (by decide) rfl rfl)⟩ ?_)
  clear h32
  repeat clear u
  rintro sv3 a w tv19 ⟨Sv13, s, d⟩ u hd18
  delta rate_gcd_l1 at u
  refine wp_seq (sz 2 [] s d rfl rfl fun a s => ?_)
  refine cd s u rfl (fun u => ?_) fun u => ?_
  ·refine wp_skip (then_normal (wp_block ?_))
   obtain ⟨rem29, h28, u⟩ := bind_t u
   refine wp_only (fun a w => ∃ Sv30, Sl 12 [(0, .int .i64 sv3.2), (1, .int .i64 rem29)] a ∧ Wd ⟨w0, S0, []⟩ Sv30 [] [] w) ?_ ?_
   ·refine h_c [] [] d rfl rfl (by kernel_rfl) rfl fun hC d => ?_
    refine gn 3 [0, 1, 2] [] s hC rfl rfl rfl fun a s => ?_
    refine gv s 3 rfl rfl hC (fun w hC => y_remM rfl rfl h28) fun a s => ?_
    refine gn 2 [4, 5] [] s hC rfl rfl rfl fun a s => ?_
    refine h_done (by kernel_rfl) ?_
    exact ⟨Sv13, (s.wk rfl), (d.ft [] [] (by decide) rfl rfl)⟩
   rintro a w ⟨Sv30, s, d⟩
   exact blk_normal (then_normal ⟨_, (Option.some.inj u).symm, Sv30, (s.wk rfl), (d.ft [] [] (by decide) rfl rfl)⟩)
  refine wp_exit (then_exit (then_exit (blk_exit ?_)))
  have u := oi u
  subst u
  have h31 := hd18 _ rfl
  subst h31
  exact then_normal ⟨Sv13, (s.wk rfl), (d.ft [] [] (by decide) rfl rfl)⟩
 rintro a w ⟨Sv22, s, d⟩
 refine then_normal (sz 2 [] s d rfl rfl fun a s => ?_)
 have u := oi u
 subst u
 exact wp_ret (ret1 s rfl (rv_tmp rfl) (d.ret rfl))
theorem rate_Valid_ok {w0 S0 r1 r} (u : rate_Valid r1 = some r) (hS : Dm S0 w0) : Calls Tryz.prog 133 #[V54 r1] w0 (Ret ([]) w0 S0 (made_Light_rd w0 ([]) r)) := by
 refine en 19 Tryz.func133 rfl hS rfl rfl rfl fun a s d => ?_
 delta rate_Valid at u
 refine sr (w_box (cs := (C54 r1)) s d rfl rfl rfl trivial ?_)
 intro b2 a w s d
 refine rz 1 [] s d rfl rfl fun a s => ?_
 refine sn 2 [0] s d rfl rfl fun a s => ?_
 obtain ⟨rv4, h3, u⟩ := bind_t u
 refine st_callR s (rate_in_ok h3 d.bdom) (do_call Tryz.call134 rfl) trivial rfl rfl ?_
 rintro v8 Sv5 w a h6 rfl s
 have d := d.callB h6
 refine mv s rfl rfl fun a s => ?_
 obtain ⟨c18, hc18, u⟩ := bind_t u
 refine wpl_join 4 (fun a w => ∃ Sv19, Sl 19 [(1, .pointer (some ⟨b2, 0, none⟩)), (10, .bool c18)] a ∧ Wd ⟨w0, S0, []⟩ Sv19 [.box b2 (C54 r1) 54] [] w) ?_ ?_
 ·rcases Bool.eq_false_or_eq_true rv4 with h17 | h17
  ·have s := s.fix 6 (.bool true) rfl (vb h17)
   have u := ite_t hc18 h17
   refine rn 2 [0] s d rfl rfl fun a s => ?_
   obtain ⟨rv21, h20, u⟩ := bind_t u
   refine st_callR s (rate_in_ok h20 d.bdom) (do_call Tryz.call134 rfl) ⟨_, rfl, rfl⟩ rfl rfl ?_
   rintro v25 Sv22 w a h23 rfl s
   have d := d.callB h23
   refine sv s (y_pickT rfl rfl) rfl fun a s => ?_
   refine wpList_nil ?_
   have u := oi u
   subst u
   exact then_normal ⟨S0, (s.wk rfl), (d.ft [0] [] (by decide) rfl rfl)⟩
  have s := s.fix 6 (.bool false) rfl (vb h17)
  have u := ite_f hc18 h17
  refine rn 4 [] s d rfl rfl fun a s => ?_
  refine wpList_nil ?_
  have u := oi u
  subst u
  exact then_normal ⟨S0, (s.wk rfl), (d.ft [0] [] (by decide) rfl rfl)⟩
 rintro a w ⟨Sv19, s, d⟩
 refine mv s rfl rfl fun a s => ?_
 obtain ⟨c35, hc35, u⟩ := bind_t u
 refine wpl_join 7 (fun a w => ∃ Sv36, Sl 19 [(18, .bool c35)] a ∧ Wd ⟨w0, S0, []⟩ Sv36 [] [] w) ?_ ?_
 ·rcases Bool.eq_false_or_eq_true c18 with h34 | h34
  ·have s := s.fix 11 (.bool true) rfl (vb h34)
   have u := ite_t hc35 h34
   refine rn 4 [0, 0] s d rfl rfl fun a s => ?_
   obtain ⟨rv38, h37, u⟩ := bind_t u
   refine st_callR s (rate_gcd_ok h37 d.bdom) (do_call Tryz.call170 rfl) ⟨_, rfl, rfl⟩ rfl rfl ?_
   rintro v42 Sv39 w a h40 rfl s
   have d := d.callB h40
   refine rn 2 [] s d rfl rfl fun a s => ?_
   refine wpList_nil ?_
   have u := oi u
   subst u
   exact then_normal ⟨Sv19, (s.wk rfl), (d.ft [] [] (by decide) rfl rfl)⟩
  have s := s.fix 11 (.bool false) rfl (vb h34)
  have u := ite_f hc35 h34
  refine rn 7 [] s d rfl rfl fun a s => ?_
  refine wpList_nil ?_
  have u := oi u
  subst u
  exact then_normal ⟨Sv19, (s.wk rfl), (d.ft [] [] (by decide) rfl rfl)⟩
 rintro a w ⟨Sv36, s, d⟩
 refine rz 1 [] s d rfl rfl fun a s => ?_
 have u := oi u
 subst u
 exact wp_ret (ret1 s rfl (rv_tmp rfl) (d.ret rfl))
theorem rate_micros_ok {w0 S0 r1 r} (u : rate_micros r1 = some r) (hS : Dm S0 w0) : Calls Tryz.prog 171 #[V54 r1] w0 (Ret ([]) w0 S0 (slices_IndexFunc_Lapi_Record_api_Record_rd w0 ([]) r)) := by
 refine en 6 Tryz.func171 rfl hS rfl rfl rfl fun a s d => ?_
 delta rate_micros at u
 refine sr (w_box (cs := (C54 r1)) s d rfl rfl rfl trivial ?_)
 intro b2 a w s d
 refine rz 1 [] s d rfl rfl fun a s => ?_
 refine sn 3 [0] s d rfl rfl fun a s => ?_
 obtain ⟨x4, h3, u⟩ := bind_t u
 refine sv s (y_assignI rfl h3) rfl fun a s => ?_
 refine nl ?_
 have u := oi u
 subst u
 exact wp_ret (ret1 s rfl (rv_tmp rfl) (d.ret rfl))
theorem rate_after_ok {w0 S0 r1 k2 r} (u : rate_after r1 k2 = some r) (hS : Dm S0 w0) : Calls Tryz.prog 135 #[V54 r1, .int .i64 k2] w0 (Ret ([]) w0 S0 (slices_IndexFunc_Lapi_Record_api_Record_rd w0 ([]) r)) := by
 refine en 12 Tryz.func135 rfl hS rfl rfl rfl fun a s d => ?_
 delta rate_after at u
 refine sr (w_box (cs := (C54 r1)) s d rfl rfl rfl trivial ?_)
 intro b3 a w s d
 refine rz 1 [] s d rfl rfl fun a s => ?_
 refine wp_seq ?_
 obtain ⟨rv5, h4, u⟩ := bind_t u
 obtain ⟨quo7, h6, u⟩ := bind_t u
 refine wp_only (fun a w => ∃ Sv8, Sl 12 [(4, .int .i64 quo7)] a ∧ Wd ⟨w0, S0, []⟩ Sv8 [] [] w) ?_ ?_
 ·refine h_c [0] [] d rfl rfl (by kernel_rfl) rfl fun hC d => ?_
  refine gn 4 [0, 1, 4, 5] [0, 0] s hC rfl rfl rfl fun a s => ?_
  refine ho 2 rfl ?_
  refine st_callR s (rate_micros_ok h4 d.bdom) (do_call Tryz.call171 rfl) trivial rfl rfl ?_
  rintro v12 Sv9 w a h10 rfl s
  have d := d.callB h10
  refine h_n [0] [] d rfl rfl fun hC => ?_
  refine gv s 3 rfl rfl hC (fun w hC => y_mul rfl rfl) fun a s => ?_
  refine gv s 6 rfl rfl hC (fun w hC => y_quoM rfl rfl h6) fun a s => ?_
  refine gv s 7 rfl rfl hC (fun w hC => y_assign rfl) fun a s => ?_
  refine h_done (by kernel_rfl) ?_
  exact ⟨S0, (s.wk rfl), (d.ft [] [] (by decide) rfl rfl)⟩
 rintro a w ⟨Sv8, s, d⟩
 refine then_normal ?_
 have u := oi u
 subst u
 exact wp_ret (ret1 s rfl (rv_tmp rfl) (d.ret rfl))
abbrev rate_Time_rd (w0 : World) (X : List Nat) (r : (Int × Int)) : Rd := fun S w v => v = .tuple #[.int .i64 r.1, .int .i64 r.2]
theorem rate_Time_ok {w0 S0 start1 r2 k3 r} (u : rate_Time start1 r2 k3 = some r) (hS : Dm S0 w0) : Calls Tryz.prog 94 #[.int .i64 start1, V54 r2, .int .i64 k3] w0 (Ret ([]) w0 S0 (rate_Time_rd w0 ([]) r)) := by
 refine en 24 Tryz.func94 rfl hS rfl rfl rfl fun a s d => ?_
 delta rate_Time at u
 refine sr (w_box (cs := (C54 r2)) s d rfl rfl rfl trivial ?_)
 intro b4 a w s d
 refine rz 2 [] s d rfl rfl fun a s => ?_
 refine wp_seq (sn 1 [0] s d rfl rfl fun a s => ?_)
 obtain ⟨rv6, h5, u⟩ := bind_t u
 refine st_callR s (rate_Valid_ok h5 d.bdom) (do_call Tryz.call133 rfl) trivial rfl rfl ?_
 rintro v10 Sv7 w a h8 rfl s
 have d := d.callB h8
 refine rz 1 [] s d rfl rfl fun a s => ?_
 refine cd s u rfl (fun u => ?_) fun u => ?_
 ·refine sz 2 [] s d rfl rfl fun a s => ?_
  have u := oi u
  subst u
  exact wp_ret (then_ret (ret2 s rfl (rv_tmp rfl) (rv_tmp rfl) (d.ret rfl)))
 refine wp_skip (then_normal (wp_seq (sn 1 [] s d rfl rfl fun a s => ?_)))
 obtain ⟨rv15, h14, u⟩ := bind_t u
 refine st_callR s (rate_in_ok h14 d.bdom) (do_call Tryz.call134 rfl) trivial rfl rfl ?_
 rintro v19 Sv16 w a h17 rfl s
 have d := d.callB h17
 refine rn 2 [] s d rfl rfl fun a s => ?_
 obtain ⟨c29, hc29, u⟩ := bind_t u
 refine wpl_join 4 (fun a w => ∃ Sv30, Sl 24 [(0, .int .i64 start1), (2, .int .i64 k3), (4, .pointer (some ⟨b4, 0, none⟩)), (18, .bool c29)] a ∧ Wd ⟨w0, S0, []⟩ Sv30 [.box b4 (C54 r2) 54] [] w) ?_ ?_
 ·rcases Bool.eq_false_or_eq_true (!rv15) with h28 | h28
  ·have s := s.fix 14 (.bool true) rfl (vb h28)
   have u := ite_t hc29 h28
   refine rn 4 [] s d rfl rfl fun a s => ?_
   refine wpList_nil ?_
   have u := oi u
   subst u
   exact then_normal ⟨S0, (s.wk rfl), (d.ft [0] [] (by decide) rfl rfl)⟩
  have s := s.fix 14 (.bool false) rfl (vb h28)
  have u := ite_f hc29 h28
  refine st_val s (y_move rfl) ⟨_, rfl, rfl⟩ rfl rfl fun a s => ?_
  obtain ⟨rv32, h31, u⟩ := bind_t u
  refine st_callR s (rate_in_ok h31 d.bdom) (do_call Tryz.call134 rfl) ⟨_, rfl, rfl⟩ rfl rfl ?_
  rintro v36 Sv33 w a h34 rfl s
  have d := d.callB h34
  refine rn 2 [] s d rfl rfl fun a s => ?_
  refine wpList_nil ?_
  have u := oi u
  subst u
  exact then_normal ⟨S0, (s.wk rfl), (d.ft [0] [] (by decide) rfl rfl)⟩
 rintro a w ⟨Sv30, s, d⟩
 refine nl (cd s u rfl (fun u => ?_) fun u => ?_)
 ·refine sz 2 [] s d rfl rfl fun a s => ?_
  have u := oi u
  subst u
  exact wp_ret (then_ret (ret2 s rfl (rv_tmp rfl) (rv_tmp rfl) (d.ret rfl)))
 refine wp_skip (then_normal (sn 3 [0] s d rfl rfl fun a s => ?_))
 obtain ⟨rv41, h40, u⟩ := bind_t u
 refine st_callR s (rate_after_ok h40 d.bdom) (do_call Tryz.call135 rfl) trivial rfl rfl ?_
 rintro v45 Sv42 w a h43 rfl s
 have d := d.callB h43
 refine sv s (y_add rfl rfl) rfl fun a s => ?_
 obtain ⟨x48, h47, u⟩ := bind_t u
 refine sv s (y_assignI rfl h47) rfl fun a s => ?_
 refine rz 1 [] s d rfl rfl fun a s => ?_
 have u := oi u
 subst u
 exact wp_ret (ret2 s rfl (rv_tmp rfl) (rv_tmp rfl) (d.ret rfl))
theorem slices_IndexFunc_Lint_int_ok {w0 S0 p2 k3 g6 f7 cp8 s1} {f5 : Int → Option Bool} {r} (u : slices_IndexFunc_Lint_int s1 f5 = some r) (hS : Dm S0 w0) (h4 : (SlA p2 s1.length k3 s1).p S0 w0) (h9 : (FnA1 Tryz.prog g6 f7 cp8 f5).p S0 w0) : Calls Tryz.prog 146 #[.slice p2 s1.length k3, .func (.func g6) f7.toArray cp8.toArray] w0 (Ret ([]) w0 S0 (slices_IndexFunc_Lapi_Record_api_Record_rd w0 ([]) r)) := by
 refine en 19 Tryz.func146 rfl hS rfl rfl rfl fun a s d => ?_
 have d := (d.addE h4).addE h9
 delta slices_IndexFunc_Lint_int at u
 refine sz 1 [] s d rfl rfl fun a s => ?_
 refine wp_seq (sz 3 [] s d rfl rfl fun a s => ?_)
 refine wp_block (wp_while (fun sv78 a w => ∃ Sv122, Sl 19 [(0, .slice p2 s1.length k3), (1, .func (.func g6) f7.toArray cp8.toArray), (7, .int .i64 (s1.length : Int)), (8, .int .i64 sv78)] a ∧ Wd ⟨w0, S0, []⟩ Sv122 [] [SlA p2 s1.length k3 s1, FnA1 Tryz.prog g6 f7 cp8 f5] w) 0 u ⟨S0, (s.wk rfl), (d.ft [] [1, 0] (by decide) rfl rfl)⟩ ?_)
 repeat clear u
 rintro sv78 a w tv145 ⟨Sv122, s, d⟩ u hd144
 delta slices_IndexFunc_Lint_int_l2 at u
 refine sz 1 [] s d rfl rfl fun a s => ?_
 refine wp_seq (cd s u rfl (fun u => ?_) fun u => ?_)
 ·refine wp_skip (then_normal (wp_seq (wp_block (sz 2 [] s d rfl rfl fun a s => ?_))))
  refine sn 3 [] s d rfl rfl fun a s => ?_
  obtain ⟨x172, h170, u⟩ := bind_t u
  obtain ⟨b178, o179, q176, c177, h180, h173, h174, h175, h171⟩ := d.elemV 0 rfl h170
  have hsv181 := s
  have hwv182 := d
  subst h180
  have s := hsv181
  have d := hwv182
  obtain ⟨_, rfl, rfl⟩ := h171
  have d := d.addE h175
  refine sv s (y_indexAt Tryz.runUnderlying22 Tryz.sizeOf3 rfl rfl h173.1 h173.2 h174) rfl fun a s => ?_
  refine sv s (y_loadE1 (j := 0) (d.ceAt 0 rfl) rfl Tryz.isAgg3 rfl) rfl fun a s => ?_
  obtain ⟨rv184, h183, u⟩ := bind_t u
  refine st_callR s ((d.bE 2 rfl).2 Keep.rfl' d.bdom ⟨_, rfl, rfl⟩ h183) (do_callF (d.bE 2 rfl).1 rfl rfl) trivial rfl rfl ?_
  rintro v188 Sv185 w a h186 rfl s
  have d := d.callB h186
  refine nl (cd s u rfl (fun u => ?_) fun u => ?_)
  ·refine sz 2 [] s d rfl rfl fun a s => ?_
   have u := oi u
   subst u
   have h191 := hd144 _ rfl
   subst h191
   exact wp_ret (blk_ret (then_ret (then_ret (blk_ret (then_ret (ret1 s rfl (rv_tmp rfl) (d.ret rfl)))))))
  refine wp_skip (blk_normal (then_normal (wp_region_lit (rz 2 [] s d rfl rfl fun a s => ?_))))
  exact ⟨_, (Option.some.inj u).symm, Sv122, (s.wk rfl), (d.ft [] [1, 2] (by decide) rfl rfl)⟩
 obtain ⟨rv192, u, h193⟩ := map_t u
 have h193 := (hd144 _ h193.symm).symm
 subst h193
 refine wp_exit (then_exit (then_exit (blk_exit (then_normal (sz 1 [] s d rfl rfl fun a s => ?_)))))
 have u := oi u
 subst u
 exact wp_ret (ret1 s rfl (rv_tmp rfl) (d.ret rfl))
theorem slices_ContainsFunc_Lint_int_ok {w0 S0 p2 k3 g6 f7 cp8 s1} {f5 : Int → Option Bool} {r} (u : slices_ContainsFunc_Lint_int s1 f5 = some r) (hS : Dm S0 w0) (h4 : (SlA p2 s1.length k3 s1).p S0 w0) (h9 : (FnA1 Tryz.prog g6 f7 cp8 f5).p S0 w0) : Calls Tryz.prog 113 #[.slice p2 s1.length k3, .func (.func g6) f7.toArray cp8.toArray] w0 (Ret ([]) w0 S0 (made_Light_rd w0 ([]) r)) := by
 refine en 9 Tryz.func113 rfl hS rfl rfl rfl fun a s d => ?_
 have d := (d.addE h4).addE h9
 delta slices_ContainsFunc_Lint_int at u
 refine sz 1 [] s d rfl rfl fun a s => ?_
 refine sn 2 [] s d rfl rfl fun a s => ?_
 obtain ⟨rv11, h10, u⟩ := bind_t u
 refine st_callR s (slices_IndexFunc_Lint_int_ok h10 d.bdom (d.bE 1 rfl) (d.bE 0 rfl)) (do_call Tryz.call146 rfl) trivial rfl rfl ?_
 rintro v15 Sv12 w a h13 rfl s
 have d := d.callB h13
 refine rz 2 [] s d rfl rfl fun a s => ?_
 have u := oi u
 subst u
 exact wp_ret (ret1 s rfl (rv_tmp rfl) (d.ret rfl))
theorem record_Valid_fn1_ok {w0 S0 x1 r} (u : record_Valid_fn1 x1 = some r) (hS : Dm S0 w0) : Calls Tryz.prog 114 #[.int .i64 x1] w0 (Ret ([]) w0 S0 (made_Light_rd w0 ([]) r)) := by
 refine en 6 Tryz.func114 rfl hS rfl rfl rfl fun a s d => ?_
 delta record_Valid_fn1 at u
 refine sz 1 [] s d rfl rfl fun a s => ?_
 refine sn 1 [] s d rfl rfl fun a s => ?_
 obtain ⟨rv3, h2, u⟩ := bind_t u
 refine st_callR s (record_in_ok h2 d.bdom) (do_call Tryz.call112 rfl) trivial rfl rfl ?_
 rintro v7 Sv4 w a h5 rfl s
 have d := d.callB h5
 refine rz 2 [] s d rfl rfl fun a s => ?_
 have u := oi u
 subst u
 exact wp_ret (ret1 s rfl (rv_tmp rfl) (d.ret rfl))
theorem record_Valid_fn1_fn (S0 : Nat → Prop) (w0 : World) : (FnA1 Tryz.prog 114 [] [] record_Valid_fn1).p S0 w0 := by
  refine ⟨Tryz.call114, ?_⟩
  rintro S1 w1 hk hS c0 x0 r1 ⟨_, rfl, rfl⟩ hf
  exact record_Valid_fn1_ok hf hS  
theorem record_Valid_ok {w0 S0 p2 k3 r1 r} (u : record_Valid r1 = some r) (hS : Dm S0 w0) (h4 : (SlA p2 r1.Samples.length k3 r1.Samples).p S0 w0) : Calls Tryz.prog 84 #[V56 r1 p2 k3] w0 (Ret ([]) w0 S0 (made_Light_rd w0 ([]) r)) := by
 refine en 68 Tryz.func84 rfl hS rfl rfl rfl fun a s d => ?_
 have d := d.addE h4
 delta record_Valid at u
 refine sr (w_box (cs := (C56 r1 p2 k3)) s d rfl rfl rfl trivial ?_)
 intro b5 a w s d
 refine rz 1 [] s d rfl rfl fun a s => ?_
 refine sn 3 [0] s d rfl rfl fun a s => ?_
 obtain ⟨n7, h6, u⟩ := bind_t u
 refine sv s (y_assignI rfl h6) rfl fun a s => ?_
 refine nl (wp_seq (sn 2 [0] s d rfl rfl fun a s => ?_))
 obtain ⟨rv9, h8, u⟩ := bind_t u
 refine st_callR s (source_Valid_ok h8 d.bdom) (do_call Tryz.call111 rfl) trivial rfl rfl ?_
 rintro v13 Sv10 w a h11 rfl s
 have d := d.callB h11
 refine rn 2 [] s d rfl rfl fun a s => ?_
 obtain ⟨c23, hc23, u⟩ := bind_t u
 refine wpl_join 4 (fun a w => ∃ Sv24, Sl 68 [(1, .pointer (some ⟨b5, 0, none⟩)), (3, .int .i64 n7), (17, .bool c23)] a ∧ Wd ⟨w0, S0, []⟩ Sv24 [.box b5 (C56 r1 p2 k3) 56] [SlA p2 r1.Samples.length k3 r1.Samples] w) ?_ ?_
 ·rcases Bool.eq_false_or_eq_true (!rv9) with h22 | h22
  ·have s := s.fix 13 (.bool true) rfl (vb h22)
   have u := ite_t hc23 h22
   refine rn 4 [] s d rfl rfl fun a s => ?_
   refine wpList_nil ?_
   have u := oi u
   subst u
   exact then_normal ⟨S0, (s.wk rfl), (d.ft [0] [0] (by decide) rfl rfl)⟩
  have s := s.fix 13 (.bool false) rfl (vb h22)
  have u := ite_f hc23 h22
  refine st_val s (y_move rfl) ⟨_, rfl, rfl⟩ rfl rfl fun a s => ?_
  obtain ⟨rv26, h25, u⟩ := bind_t u
  refine st_callR s (record_in_ok h25 d.bdom) (do_call Tryz.call112 rfl) ⟨_, rfl, rfl⟩ rfl rfl ?_
  rintro v30 Sv27 w a h28 rfl s
  have d := d.callB h28
  refine rn 2 [] s d rfl rfl fun a s => ?_
  refine wpList_nil ?_
  have u := oi u
  subst u
  exact then_normal ⟨S0, (s.wk rfl), (d.ft [0] [0] (by decide) rfl rfl)⟩
 rintro a w ⟨Sv24, s, d⟩
 refine mv s rfl rfl fun a s => ?_
 obtain ⟨c40, hc40, u⟩ := bind_t u
 refine wpl_join 7 (fun a w => ∃ Sv41, Sl 68 [(1, .pointer (some ⟨b5, 0, none⟩)), (3, .int .i64 n7), (25, .bool c40)] a ∧ Wd ⟨w0, S0, []⟩ Sv41 [.box b5 (C56 r1 p2 k3) 56] [SlA p2 r1.Samples.length k3 r1.Samples] w) ?_ ?_
 ·rcases Bool.eq_false_or_eq_true c23 with h39 | h39
  ·have s := s.fix 18 (.bool true) rfl (vb h39)
   have u := ite_t hc40 h39
   refine rn 7 [] s d rfl rfl fun a s => ?_
   refine wpList_nil ?_
   have u := oi u
   subst u
   exact then_normal ⟨Sv24, (s.wk rfl), (d.ft [0] [0] (by decide) rfl rfl)⟩
  have s := s.fix 18 (.bool false) rfl (vb h39)
  have u := ite_f hc40 h39
  refine rn 4 [0] s d rfl rfl fun a s => ?_
  obtain ⟨rv43, h42, u⟩ := bind_t u
  refine st_callR s (record_in_ok h42 d.bdom) (do_call Tryz.call112 rfl) ⟨_, rfl, rfl⟩ rfl rfl ?_
  rintro v47 Sv44 w a h45 rfl s
  have d := d.callB h45
  refine rn 2 [] s d rfl rfl fun a s => ?_
  refine wpList_nil ?_
  have u := oi u
  subst u
  exact then_normal ⟨Sv24, (s.wk rfl), (d.ft [0] [0] (by decide) rfl rfl)⟩
 rintro a w ⟨Sv41, s, d⟩
 refine mv s rfl rfl fun a s => ?_
 obtain ⟨c57, hc57, u⟩ := bind_t u
 refine wpl_join 5 (fun a w => ∃ Sv58, Sl 68 [(1, .pointer (some ⟨b5, 0, none⟩)), (3, .int .i64 n7), (31, .bool c57)] a ∧ Wd ⟨w0, S0, []⟩ Sv58 [.box b5 (C56 r1 p2 k3) 56] [SlA p2 r1.Samples.length k3 r1.Samples] w) ?_ ?_
 ·rcases Bool.eq_false_or_eq_true c40 with h56 | h56
  ·have s := s.fix 26 (.bool true) rfl (vb h56)
   have u := ite_t hc57 h56
   refine rn 5 [] s d rfl rfl fun a s => ?_
   refine wpList_nil ?_
   have u := oi u
   subst u
   exact then_normal ⟨Sv41, (s.wk rfl), (d.ft [0] [0] (by decide) rfl rfl)⟩
  have s := s.fix 26 (.bool false) rfl (vb h56)
  have u := ite_f hc57 h56
  refine rn 2 [0] s d rfl rfl fun a s => ?_
  obtain ⟨rv60, h59, u⟩ := bind_t u
  refine st_callR s (record_in_ok h59 d.bdom) (do_call Tryz.call112 rfl) ⟨_, rfl, rfl⟩ rfl rfl ?_
  rintro v64 Sv61 w a h62 rfl s
  have d := d.callB h62
  refine rn 2 [] s d rfl rfl fun a s => ?_
  refine wpList_nil ?_
  have u := oi u
  subst u
  exact then_normal ⟨Sv41, (s.wk rfl), (d.ft [0] [0] (by decide) rfl rfl)⟩
 rintro a w ⟨Sv58, s, d⟩
 refine mv s rfl rfl fun a s => ?_
 obtain ⟨c74, hc74, u⟩ := bind_t u
 refine wpl_join 5 (fun a w => ∃ Sv75, Sl 68 [(1, .pointer (some ⟨b5, 0, none⟩)), (3, .int .i64 n7), (37, .bool c74)] a ∧ Wd ⟨w0, S0, []⟩ Sv75 [.box b5 (C56 r1 p2 k3) 56] [SlA p2 r1.Samples.length k3 r1.Samples] w) ?_ ?_
 ·rcases Bool.eq_false_or_eq_true c57 with h73 | h73
  ·have s := s.fix 32 (.bool true) rfl (vb h73)
   have u := ite_t hc74 h73
   refine rn 5 [] s d rfl rfl fun a s => ?_
   refine wpList_nil ?_
   have u := oi u
   subst u
   exact then_normal ⟨Sv58, (s.wk rfl), (d.ft [0] [0] (by decide) rfl rfl)⟩
  have s := s.fix 32 (.bool false) rfl (vb h73)
  have u := ite_f hc74 h73
  refine rn 2 [0] s d rfl rfl fun a s => ?_
  obtain ⟨rv77, h76, u⟩ := bind_t u
  refine st_callR s (record_in_ok h76 d.bdom) (do_call Tryz.call112 rfl) ⟨_, rfl, rfl⟩ rfl rfl ?_
  rintro v81 Sv78 w a h79 rfl s
  have d := d.callB h79
  refine rn 2 [] s d rfl rfl fun a s => ?_
  refine wpList_nil ?_
  have u := oi u
  subst u
  exact then_normal ⟨Sv58, (s.wk rfl), (d.ft [0] [0] (by decide) rfl rfl)⟩
 rintro a w ⟨Sv75, s, d⟩
 refine mv s rfl rfl fun a s => ?_
 obtain ⟨c91, hc91, u⟩ := bind_t u
 refine wpl_join 5 (fun a w => ∃ Sv92, Sl 68 [(1, .pointer (some ⟨b5, 0, none⟩)), (3, .int .i64 n7), (43, .bool c91)] a ∧ Wd ⟨w0, S0, []⟩ Sv92 [.box b5 (C56 r1 p2 k3) 56] [SlA p2 r1.Samples.length k3 r1.Samples] w) ?_ ?_
 ·rcases Bool.eq_false_or_eq_true c74 with h90 | h90
  ·have s := s.fix 38 (.bool true) rfl (vb h90)
   have u := ite_t hc91 h90
   refine rn 5 [] s d rfl rfl fun a s => ?_
   refine wpList_nil ?_
   have u := oi u
   subst u
   exact then_normal ⟨Sv75, (s.wk rfl), (d.ft [0] [0] (by decide) rfl rfl)⟩
  have s := s.fix 38 (.bool false) rfl (vb h90)
  have u := ite_f hc91 h90
  refine rn 2 [0] s d rfl rfl fun a s => ?_
  obtain ⟨rv94, h93, u⟩ := bind_t u
  refine st_callR s (record_in_ok h93 d.bdom) (do_call Tryz.call112 rfl) ⟨_, rfl, rfl⟩ rfl rfl ?_
  rintro v98 Sv95 w a h96 rfl s
  have d := d.callB h96
  refine rn 2 [] s d rfl rfl fun a s => ?_
  refine wpList_nil ?_
  have u := oi u
  subst u
  exact then_normal ⟨Sv75, (s.wk rfl), (d.ft [0] [0] (by decide) rfl rfl)⟩
 rintro a w ⟨Sv92, s, d⟩
 refine nl (cd s u rfl (fun u => ?_) fun u => ?_)
 ·refine sz 1 [] s d rfl rfl fun a s => ?_
  have u := oi u
  subst u
  exact wp_ret (then_ret (ret1 s rfl (rv_tmp rfl) (d.ret rfl)))
 refine wp_skip (then_normal (sn 8 [0, 0, 0] s d rfl rfl fun a s => ?_))
 obtain ⟨rv103, h102, u⟩ := bind_t u
 refine st_callR s (rate_Time_ok h102 d.bdom) (do_call Tryz.call94 rfl) trivial rfl rfl ?_
 rintro v107 Sv104 w a h105 rfl s
 have d := d.callB h105
 refine rz 5 [] s d rfl rfl fun a s => ?_
 refine sn 3 [] s d rfl rfl fun a s => ?_
 refine rA 3 58 [] s d rfl rfl rfl rfl rfl fun a s => ?_
 refine mv s rfl rfl fun a s => ?_
 obtain ⟨c118, hc118, u⟩ := bind_t u
 refine wpl_join 5 (fun a w => ∃ Sv119, Sl 68 [(67, .bool c118)] a ∧ Wd ⟨w0, S0, []⟩ Sv119 [] [] w) ?_ ?_
 ·rcases Bool.eq_false_or_eq_true ((rv103.2 == 0) && (decide (rv103.1 ≤ 9007199254740992))) with h117 | h117
  ·have s := s.fix 62 (.bool true) rfl (vb h117)
   have u := ite_t hc118 h117
   refine rn 2 [0] s d rfl rfl fun a s => ?_
   obtain ⟨rv121, h120, u⟩ := bind_t u
   refine st_callR s (slices_ContainsFunc_Lint_int_ok h120 d.bdom (d.bE 0 rfl) (record_Valid_fn1_fn _ _)) (do_call Tryz.call113 rfl) ⟨_, rfl, rfl⟩ rfl rfl ?_
   rintro v125 Sv122 w a h123 rfl s
   have d := d.callB h123
   refine rn 2 [] s d rfl rfl fun a s => ?_
   refine wpList_nil ?_
   have u := oi u
   subst u
   exact then_normal ⟨Sv92, (s.wk rfl), (d.ft [] [] (by decide) rfl rfl)⟩
  have s := s.fix 62 (.bool false) rfl (vb h117)
  have u := ite_f hc118 h117
  refine rn 5 [] s d rfl rfl fun a s => ?_
  refine wpList_nil ?_
  have u := oi u
  subst u
  exact then_normal ⟨Sv92, (s.wk rfl), (d.ft [] [] (by decide) rfl rfl)⟩
 rintro a w ⟨Sv119, s, d⟩
 refine rz 1 [] s d rfl rfl fun a s => ?_
 have u := oi u
 subst u
 exact wp_ret (ret1 s rfl (rv_tmp rfl) (d.ret rfl))
theorem compose_alike_fn1_ok {w0 S0 p2 k3 b6 p7 k8 r1 x5 r} (u : compose_alike_fn1 r1 x5 = some r) (hS : Dm S0 w0) (h4 : (SlA p2 r1.Samples.length k3 r1.Samples).p S0 w0) (h9 : (CeA b6 0 [.slice p7 x5.length k8]).p S0 w0) (h10 : (SlA p7 x5.length k8 x5).p S0 w0) : Calls Tryz.prog 148 #[V56 r1 p2 k3, .pointer (some ⟨b6, 0, none⟩)] w0 (Ret ([]) w0 S0 (made_Light_rd w0 ([]) r)) := by
 refine en 16 Tryz.func148 rfl hS rfl rfl rfl fun a s d => ?_
 have d := ((d.addE h4).addE h9).addE h10
 delta compose_alike_fn1 at u
 refine sr (w_box (cs := (C56 r1 p2 k3)) s d rfl rfl rfl trivial ?_)
 intro b11 a w s d
 refine rz 1 [] s d rfl rfl fun a s => ?_
 refine wp_seq ?_
 obtain ⟨rv13, h12, u⟩ := bind_t u
 obtain ⟨c31, hc31, u⟩ := bind_t u
 refine wp_only (fun a w => ∃ Sv32, Sl 16 [(3, .bool c31)] a ∧ Wd ⟨w0, S0, []⟩ Sv32 [] [] w) ?_ ?_
 ·rcases Bool.eq_false_or_eq_true (!rv13) with h33 | h33
  ·have h34 := ite_t hc31 h33
   refine h_c [0] [1] d rfl rfl (by kernel_rfl) rfl fun hC d => ?_
   refine gv s 0 rfl rfl hC (fun w hC => y_loadBA (hC.ownAt 0 rfl) rfl Tryz.isAgg56 Tryz.sizeOf56 rfl rfl) fun a s => ?_
   refine ho 1 rfl ?_
   refine st_callR s (record_Valid_ok h12 d.bdom (d.bE 2 rfl)) (do_call Tryz.call84 rfl) trivial rfl rfl ?_
   rintro v38 Sv35 w a h36 rfl s
   have d := d.callB h36
   refine h_n [0] [1] d rfl rfl fun hC => ?_
   refine gn 2 [2, 3] [] s hC rfl rfl rfl fun a s => ?_
   have s := s.fix 7 (.bool true) rfl (vb h33)
   refine gn 7 [4, 5, 6, 7, 8, 9, 10] [] s hC rfl rfl rfl fun a s => ?_
   refine gv s 11 rfl rfl hC (fun w hC => y_pickTE (v := .bool c31) rfl rfl (vbs h34)) fun a s => ?_
   refine gv s 12 rfl rfl hC (fun w hC => y_assign rfl) fun a s => ?_
   refine h_done (by kernel_rfl) ?_
   exact ⟨S0, (s.wk rfl), (d.ft [] [] (by decide) rfl rfl)⟩
  have h40 := ite_f hc31 h33
  obtain ⟨x43, h41, h40⟩ := bind_t h40
  obtain ⟨b49, o50, q47, c48, h51, h44, h45, h46, h42⟩ := d.elemV 0 rfl h41
  have hsv52 := s
  have hwv53 := d
  subst h51
  have s := hsv52
  have d := hwv53
  obtain ⟨_, _, _, _, _, _, _, _, _, _, _, _, rfl, rfl, rfl, rfl, rfl, rfl, rfl, rfl, rfl, rfl, rfl, rfl, ⟨p54, n55, k56, rfl, h57⟩⟩ := h42
  obtain rfl := h57.1
  have d := (d.addE (e := SlA p54 _ k56 x43.Samples) h57).addE h46
  refine h_c [0] [0, 3] d rfl rfl (by kernel_rfl) rfl fun hC d => ?_
  refine gv s 0 rfl rfl hC (fun w hC => y_loadBA (hC.ownAt 0 rfl) rfl Tryz.isAgg56 Tryz.sizeOf56 rfl rfl) fun a s => ?_
  refine ho 1 rfl ?_
  refine st_callR s (record_Valid_ok h12 d.bdom (d.bE 4 rfl)) (do_call Tryz.call84 rfl) trivial rfl rfl ?_
  rintro v61 Sv58 w a h59 rfl s
  have d := d.callB h59
  refine h_n [0] [0, 3] d rfl rfl fun hC => ?_
  refine gn 2 [2, 3] [] s hC rfl rfl rfl fun a s => ?_
  have s := s.fix 7 (.bool false) rfl (vb h33)
  refine gn 2 [4, 5] [0] s hC rfl rfl rfl fun a s => ?_
  refine gt s 6 rfl ⟨_, rfl, rfl⟩ rfl hC (fun w hC => y_loadE1 (j := 0) (hC.ceAt 1 rfl) rfl Tryz.isAgg28 rfl) fun a s => ?_
  refine gt s 7 rfl ⟨_, rfl, rfl⟩ rfl hC (fun w hC => y_indexAt Tryz.runUnderlying28 Tryz.sizeOf56 rfl rfl h44.1 h44.2 h45) fun a s => ?_
  refine gt s 8 rfl ⟨_, rfl, rfl⟩ rfl hC (fun w hC => y_fieldAddr (o' := q47 + 0) Tryz.runUnderlying56 rfl Tryz.sizeOf52 rfl rfl rfl) fun a s => ?_
  refine gt s 9 rfl ⟨_, rfl, rfl⟩ rfl hC (fun w hC => y_loadEA (j := 0) (hC.ceAt 0 rfl) rfl Tryz.isAgg52 Tryz.sizeOf52 rfl rfl) fun a s => ?_
  refine gt s 10 rfl ⟨_, rfl, rfl⟩ rfl hC (fun w hC => y_neqA (by kernel_rfl) rfl rfl (eqv_struct Tryz.runUnderlying52 (by kernel_rfl) (EqF.cons1 rfl Tryz.isAgg9 rfl rfl (eqv_str Tryz.runUnderlying9) (EqF.cons1 rfl Tryz.isAgg9 rfl rfl (eqv_str Tryz.runUnderlying9) (EqF.cons1 rfl Tryz.isAgg9 rfl rfl (eqv_str Tryz.runUnderlying9) (EqF.cons1 rfl Tryz.isAgg9 rfl rfl (eqv_str Tryz.runUnderlying9) EqF.nil)))))) fun a s => ?_
  refine gv s 11 rfl rfl hC (fun w hC => y_pickFE (v := .bool c31) rfl rfl (vbs h40)) fun a s => ?_
  refine gv s 12 rfl rfl hC (fun w hC => y_assign rfl) fun a s => ?_
  refine h_done (by kernel_rfl) ?_
  exact ⟨S0, (s.wk rfl), (d.ft [] [] (by decide) rfl rfl)⟩
 rintro a w ⟨Sv32, s, d⟩
 refine then_normal ?_
 have u := oi u
 subst u
 exact wp_ret (ret1 s rfl (rv_tmp rfl) (d.ret rfl))
theorem compose_alike_fn1_fn {S0 w0 b6 p7 k8 x5} (h9 : (CeA b6 0 [.slice p7 x5.length k8]).p S0 w0) (h10 : (SlA p7 x5.length k8 x5).p S0 w0) : (FnA1 Tryz.prog 148 [] [.pointer (some ⟨b6, 0, none⟩)] (fun y0 => compose_alike_fn1 y0 x5)).p S0 w0 := by
  refine ⟨Tryz.call148, ?_⟩
  rintro S1 w1 hk hS c0 x0 r1 ⟨_, _, _, _, _, _, _, _, _, _, _, _, rfl, rfl, rfl, rfl, rfl, rfl, rfl, rfl, rfl, rfl, rfl, rfl, ⟨_, _, _, rfl, e0⟩⟩ hf
  obtain rfl := e0.1
  exact compose_alike_fn1_ok hf hS e0 (Asrt.mono _ hk h9) (Asrt.mono _ hk h10)
theorem compose_alike_ok {w0 S0 p2 k3 l1 r} (u : compose_alike l1 = some r) (hS : Dm S0 w0) (h4 : (SlA p2 l1.length k3 l1).p S0 w0) : Calls Tryz.prog 115 #[.slice p2 l1.length k3] w0 (Ret ([]) w0 S0 (made_Light_rd w0 ([]) r)) := by
 refine en 7 Tryz.func115 rfl hS rfl rfl rfl fun a s d => ?_
 have d := d.addE h4
 delta compose_alike at u
 refine sr (w_box (cs := [.slice p2 l1.length k3]) s d rfl rfl rfl trivial ?_)
 intro b5 a w s d
 refine rz 1 [] s d rfl rfl fun a s => ?_
 refine sn 1 [0] s d rfl rfl fun a s => ?_
 refine sv s (y_makeFunc (vs := #[]) (us := #[.pointer (some ⟨b5, 0, none⟩)]) rfl rfl) rfl fun a s => ?_
 obtain ⟨rv7, h6, u⟩ := bind_t u
 refine st_callR s (slices_ContainsFunc_Lapi_Record_api_Record_ok h6 d.bdom (d.bE 0 rfl) (compose_alike_fn1_fn (d.bBox 0 rfl) (d.bE 0 rfl))) (do_call Tryz.call147 rfl) trivial rfl rfl ?_
 rintro v11 Sv8 w a h9 rfl s
 have d := d.callB h9
 refine rz 2 [] s d rfl rfl fun a s => ?_
 have u := oi u
 subst u
 exact wp_ret (ret1 s rfl (rv_tmp rfl) (d.ret rfl))
theorem compose_Valid_ok {w0 S0 p2 k3 l1 r} (u : compose_Valid l1 = some r) (hS : Dm S0 w0) (h4 : (SlA p2 l1.length k3 l1).p S0 w0) : Calls Tryz.prog 86 #[.slice p2 l1.length k3] w0 (Ret ([]) w0 S0 (made_Light_rd w0 ([]) r)) := by
 refine en 10 Tryz.func86 rfl hS rfl rfl rfl fun a s d => ?_
 have d := d.addE h4
 delta compose_Valid at u
 refine sz 1 [] s d rfl rfl fun a s => ?_
 refine sn 4 [] s d rfl rfl fun a s => ?_
 obtain ⟨c13, hc13, u⟩ := bind_t u
 refine wpl_join 3 (fun a w => ∃ Sv14, Sl 10 [(9, .bool c13)] a ∧ Wd ⟨w0, S0, []⟩ Sv14 [] [] w) ?_ ?_
 ·rcases Bool.eq_false_or_eq_true (decide ((l1.length : Int) ≤ 256)) with h12 | h12
  ·have s := s.fix 6 (.bool true) rfl (vb h12)
   have u := ite_t hc13 h12
   refine st_val s (y_move rfl) ⟨_, rfl, rfl⟩ rfl rfl fun a s => ?_
   obtain ⟨rv16, h15, u⟩ := bind_t u
   refine st_callR s (compose_alike_ok h15 d.bdom (d.bE 0 rfl)) (do_call Tryz.call115 rfl) ⟨_, rfl, rfl⟩ rfl rfl ?_
   rintro v20 Sv17 w a h18 rfl s
   have d := d.callB h18
   refine sv s (y_pickT rfl rfl) rfl fun a s => ?_
   refine wpList_nil ?_
   have u := oi u
   subst u
   exact then_normal ⟨S0, (s.wk rfl), (d.ft [] [] (by decide) rfl rfl)⟩
  have s := s.fix 6 (.bool false) rfl (vb h12)
  have u := ite_f hc13 h12
  refine rn 3 [] s d rfl rfl fun a s => ?_
  refine wpList_nil ?_
  have u := oi u
  subst u
  exact then_normal ⟨S0, (s.wk rfl), (d.ft [] [] (by decide) rfl rfl)⟩
 rintro a w ⟨Sv14, s, d⟩
 refine rz 1 [] s d rfl rfl fun a s => ?_
 have u := oi u
 subst u
 exact wp_ret (ret1 s rfl (rv_tmp rfl) (d.ret rfl))
theorem continuity_window_ok {w0 S0 from1 to2 r} (u : continuity_window from1 to2 = some r) (hS : Dm S0 w0) : Calls Tryz.prog 74 #[.int .i64 from1, .int .i64 to2] w0 (Ret ([]) w0 S0 (made_Light_rd w0 ([]) r)) := by
 refine en 16 Tryz.func74 rfl hS rfl rfl rfl fun a s d => ?_
 delta continuity_window at u
 refine sz 1 [] s d rfl rfl fun a s => ?_
 refine sn 3 [] s d rfl rfl fun a s => ?_
 refine rA 4 7 [] s d rfl rfl rfl rfl rfl fun a s => ?_
 refine mv s rfl rfl fun a s => ?_
 refine rA 3 12 [] s d rfl rfl rfl rfl rfl fun a s => ?_
 refine rz 1 [] s d rfl rfl fun a s => ?_
 have u := oi u
 subst u
 exact wp_ret (ret1 s rfl (rv_tmp rfl) (d.ret rfl))
theorem continuity_check_ok {w0 S0 p2 k3 l1 from5 to6 r} (u : continuity_check l1 from5 to6 = some r) (hS : Dm S0 w0) (h4 : (SlA p2 l1.length k3 l1).p S0 w0) : Calls Tryz.prog 48 #[.slice p2 l1.length k3, .int .i64 from5, .int .i64 to6] w0 (Ret ([]) w0 S0 (slices_IndexFunc_Lapi_Record_api_Record_rd w0 ([]) r)) := by
 refine en 14 Tryz.func48 rfl hS rfl rfl rfl fun a s d => ?_
 have d := d.addE h4
 delta continuity_check at u
 refine sz 1 [] s d rfl rfl fun a s => ?_
 refine wp_seq (sn 1 [] s d rfl rfl fun a s => ?_)
 obtain ⟨rv8, h7, u⟩ := bind_t u
 refine st_callR s (compose_Valid_ok h7 d.bdom (d.bE 0 rfl)) (do_call Tryz.call86 rfl) trivial rfl rfl ?_
 rintro v12 Sv9 w a h10 rfl s
 have d := d.callB h10
 refine rz 1 [] s d rfl rfl fun a s => ?_
 refine cd s u rfl (fun u => ?_) fun u => ?_
 ·refine sz 1 [] s d rfl rfl fun a s => ?_
  have u := oi u
  subst u
  exact wp_ret (then_ret (ret1 s rfl (rv_tmp rfl) (d.ret rfl)))
 refine wp_skip (then_normal (wp_seq (sn 2 [] s d rfl rfl fun a s => ?_)))
 obtain ⟨rv17, h16, u⟩ := bind_t u
 refine st_callR s (continuity_window_ok h16 d.bdom) (do_call Tryz.call74 rfl) trivial rfl rfl ?_
 rintro v21 Sv18 w a h19 rfl s
 have d := d.callB h19
 refine rz 1 [] s d rfl rfl fun a s => ?_
 refine cd s u rfl (fun u => ?_) fun u => ?_
 ·refine sz 1 [] s d rfl rfl fun a s => ?_
  have u := oi u
  subst u
  exact wp_ret (then_ret (ret1 s rfl (rv_tmp rfl) (d.ret rfl)))
 refine wp_skip (then_normal (sz 1 [] s d rfl rfl fun a s => ?_))
 have u := oi u
 subst u
 exact wp_ret (ret1 s rfl (rv_tmp rfl) (d.ret rfl))
theorem compose_at_ok {w0 S0 p2 k3 r1 i5 r} (u : compose_at r1 i5 = some r) (hS : Dm S0 w0) (h4 : (SlA p2 r1.Samples.length k3 r1.Samples).p S0 w0) : Calls Tryz.prog 116 #[V56 r1 p2 k3, .int .i64 i5] w0 (Ret ([]) w0 S0 (slices_IndexFunc_Lapi_Record_api_Record_rd w0 ([]) r)) := by
 refine en 20 Tryz.func116 rfl hS rfl rfl rfl fun a s d => ?_
 have d := d.addE h4
 delta compose_at at u
 refine sr (w_box (cs := (C56 r1 p2 k3)) s d rfl rfl rfl trivial ?_)
 intro b6 a w s d
 refine rz 1 [] s d rfl rfl fun a s => ?_
 refine sn 8 [0, 0, 0] s d rfl rfl fun a s => ?_
 obtain ⟨rv8, h7, u⟩ := bind_t u
 refine st_callR s (rate_Time_ok h7 d.bdom) (do_call Tryz.call94 rfl) trivial rfl rfl ?_
 rintro v12 Sv9 w a h10 rfl s
 have d := d.callB h10
 refine rz 5 [] s d rfl rfl fun a s => ?_
 refine sz 2 [] s d rfl rfl fun a s => ?_
 have u := oi u
 subst u
 exact wp_ret (ret1 s rfl (rv_tmp rfl) (d.ret rfl))
abbrev compose_extent_rd (w0 : World) (X : List Nat) (r : Span) : Rd := fun S w v => v = V71 r
theorem compose_extent_ok {w0 S0 p2 k3 r1 r} (u : compose_extent r1 = some r) (hS : Dm S0 w0) (h4 : (SlA p2 r1.Samples.length k3 r1.Samples).p S0 w0) : Calls Tryz.prog 87 #[V56 r1 p2 k3] w0 (Ret ([]) w0 S0 (compose_extent_rd w0 ([]) r)) := by
 refine en 11 Tryz.func87 rfl hS rfl rfl rfl fun a s d => ?_
 have d := d.addE h4
 delta compose_extent at u
 refine sr (w_box (cs := (C56 r1 p2 k3)) s d rfl rfl rfl trivial ?_)
 intro b5 a w s d
 refine w_alloc (cs := [.int .i64 0, .int .i64 0]) s d Tryz.zeroValue71 rfl rfl trivial ?_
 intro b6 a w s d
 refine nl (wp_seq ?_)
 obtain ⟨rv8, h7, u⟩ := bind_t u
 obtain ⟨rv10, h9, u⟩ := bind_t u
 refine wp_only (fun a w => ∃ Sv11, Sl 11 [(2, .pointer (some ⟨b6, 0, none⟩))] a ∧ Wd ⟨w0, S0, []⟩ Sv11 [.box b6 [.int .i64 rv8, .int .i64 rv10] 71] [] w) ?_ ?_
 ·refine h_c [1] [] d rfl rfl (by kernel_rfl) rfl fun hC d => ?_
  refine gn 5 [0, 2, 3, 4, 5] [0, 0, 0] s hC rfl rfl rfl fun a s => ?_
  refine ho 1 rfl ?_
  refine st_callR s (compose_at_ok h7 d.bdom (d.bE 0 rfl)) (do_call Tryz.call116 rfl) trivial rfl rfl ?_
  rintro v15 Sv12 w a h13 rfl s
  have d := d.callB h13
  refine h_n [1] [] d rfl rfl fun hC => ?_
  refine ho 6 rfl ?_
  refine st_callR s (compose_at_ok h9 d.bdom (d.bE 0 rfl)) (do_call Tryz.call116 rfl) trivial rfl rfl ?_
  rintro v20 Sv17 w a h18 rfl s
  have d := d.callB h18
  refine h_n [1] [] d rfl rfl fun hC => ?_
  refine gv s 7 rfl rfl hC (fun w hC => y_build (vs := [(0, .int .i64 rv8), (1, .int .i64 rv10)]) Bld71 rfl rfl) fun a s => ?_
  refine ho 8 rfl ?_
  refine w_store (m := 2) (cs' := [.int .i64 rv8, .int .i64 rv10]) s d 0 rfl rfl rfl Tryz.sizeOf71 rfl rfl rfl rfl trivial ?_
  intro a w s d
  refine h_n [1] [] d rfl rfl fun hC => ?_
  refine h_done (by kernel_rfl) ?_
  exact ⟨S0, (s.wk rfl), (d.ft [0] [] (by decide) rfl rfl)⟩
 rintro a w ⟨Sv11, s, d⟩
 refine then_normal ?_
 have u := oi u
 subst u
 exact wp_ret (ret1 s rfl (rv_cell d 0 rfl rfl Tryz.isAgg71 Tryz.sizeOf71 rfl) (d.ret rfl))
abbrev slices_Clone_Lapi_Span_api_Span_rd (w0 : World) (X : List Nat) (r : (List Span)) : Rd := fun S w v => ∃ p0_0 k0_0 c0_0, v = .slice p0_0 r.length k0_0 ∧ Outs X w0 S w [.row p0_0 r.length k0_0 c0_0 71 2] ∧ (RowA c0_0 r).p S w
theorem slices_Clone_Lapi_Span_api_Span_ok {w0 S0 p2 k3 s1 r} (u : slices_Clone_Lapi_Span_api_Span s1 = some r) (hS : Dm S0 w0) (h4 : (SlA p2 s1.length k3 s1).p S0 w0) : Calls Tryz.prog 118 #[.slice p2 s1.length k3] w0 (Ret ([]) w0 S0 (slices_Clone_Lapi_Span_api_Span_rd w0 ([]) r)) := by
 refine en 8 Tryz.func118 rfl hS rfl rfl rfl fun a s d => ?_
 have d := d.addE h4
 delta slices_Clone_Lapi_Span_api_Span at u
 refine sz 1 [] s d rfl rfl fun a s => ?_
 refine wp_seq (sn 1 [] s d rfl rfl fun a s => ?_)
 refine sv s (y_eqlN Tryz.runUnderlying30 rfl rfl) rfl fun a s => ?_
 refine nl ?_
 have hsv15 := s
 have hwv16 := d
 rcases p2 with _ | av8
 ·have s := hsv15
  have d := hwv16
  obtain rfl := slnil (d.envAt 0 rfl)
  have u : some ([] : List Span) = some r := by simpa [appM, maxLen] using u
  refine wp_cond_true (s.ev rfl) ?_
  refine sz 1 [] s d rfl rfl fun a s => ?_
  have u := oi u
  subst u
  have d := d.nilRow Span 71
  exact wp_ret (then_ret (ret1 s rfl (rv_tmp rfl) (d.ret ⟨none, 0, [], rfl, (d.outs [0] (by decide) rfl), (d.envAt 0 rfl)⟩)))
 have s := hsv15
 have d := hwv16
 refine wp_cond_false (s.ev rfl) ?_
 refine wp_skip (then_normal (sr (w_buildSlice (α := Span) (vs := []) (cs := []) (xs := ([] : List Span)) s d El30 rfl rfl rfl rfl rfl rfl rfl rfl trivial fun p9 a w s d => ?_)))
 refine mv s rfl rfl fun a s => ?_
 obtain ⟨l11, h10, u⟩ := bind_t u
 refine w_appendE (α := Span) s d El30 0 rfl rfl rfl 0 rfl 1 rfl h10 rfl trivial ?_
 intro p12 k13 c14 a w s d
 refine rz 1 [] s d rfl rfl fun a s => ?_
 have u := oi u
 subst u
 exact wp_ret (ret1 s rfl (rv_tmp rfl) (d.ret ⟨p12, k13, c14, rfl, (d.outs [0] (by decide) rfl), (d.envAt 0 rfl)⟩))
theorem slices_IndexFunc_Lapi_Span_api_Span_ok {w0 S0 p2 k3 g6 f7 cp8 s1} {f5 : Span → Option Bool} {r} (u : slices_IndexFunc_Lapi_Span_api_Span s1 f5 = some r) (hS : Dm S0 w0) (h4 : (SlA p2 s1.length k3 s1).p S0 w0) (h9 : (FnA1 Tryz.prog g6 f7 cp8 f5).p S0 w0) : Calls Tryz.prog 149 #[.slice p2 s1.length k3, .func (.func g6) f7.toArray cp8.toArray] w0 (Ret ([]) w0 S0 (slices_IndexFunc_Lapi_Record_api_Record_rd w0 ([]) r)) := by
 refine en 19 Tryz.func149 rfl hS rfl rfl rfl fun a s d => ?_
 have d := (d.addE h4).addE h9
 delta slices_IndexFunc_Lapi_Span_api_Span at u
 refine sz 1 [] s d rfl rfl fun a s => ?_
 refine wp_seq (sz 3 [] s d rfl rfl fun a s => ?_)
 refine wp_block (wp_while (fun sv78 a w => ∃ Sv122, Sl 19 [(0, .slice p2 s1.length k3), (1, .func (.func g6) f7.toArray cp8.toArray), (7, .int .i64 (s1.length : Int)), (8, .int .i64 sv78)] a ∧ Wd ⟨w0, S0, []⟩ Sv122 [] [SlA p2 s1.length k3 s1, FnA1 Tryz.prog g6 f7 cp8 f5] w) 0 u ⟨S0, (s.wk rfl), (d.ft [] [1, 0] (by decide) rfl rfl)⟩ ?_)
 repeat clear u
 rintro sv78 a w tv145 ⟨Sv122, s, d⟩ u hd144
 delta slices_IndexFunc_Lapi_Span_api_Span_l2 at u
 refine sz 1 [] s d rfl rfl fun a s => ?_
 refine wp_seq (cd s u rfl (fun u => ?_) fun u => ?_)
 ·refine wp_skip (then_normal (wp_seq (wp_block (sz 2 [] s d rfl rfl fun a s => ?_))))
  refine sn 3 [] s d rfl rfl fun a s => ?_
  obtain ⟨x172, h170, u⟩ := bind_t u
  obtain ⟨b178, o179, q176, c177, h180, h173, h174, h175, h171⟩ := d.elemV 0 rfl h170
  have hsv181 := s
  have hwv182 := d
  subst h180
  have s := hsv181
  have d := hwv182
  obtain ⟨_, _, rfl, rfl, rfl⟩ := h171
  have d := d.addE h175
  refine sv s (y_indexAt Tryz.runUnderlying30 Tryz.sizeOf71 rfl rfl h173.1 h173.2 h174) rfl fun a s => ?_
  refine sv s (y_loadEA (j := 0) (d.ceAt 0 rfl) rfl Tryz.isAgg71 Tryz.sizeOf71 rfl rfl) rfl fun a s => ?_
  obtain ⟨rv184, h183, u⟩ := bind_t u
  refine st_callR s ((d.bE 2 rfl).2 Keep.rfl' d.bdom ⟨_, _, rfl, rfl, rfl⟩ h183) (do_callF (d.bE 2 rfl).1 rfl rfl) trivial rfl rfl ?_
  rintro v188 Sv185 w a h186 rfl s
  have d := d.callB h186
  refine nl (cd s u rfl (fun u => ?_) fun u => ?_)
  ·refine sz 2 [] s d rfl rfl fun a s => ?_
   have u := oi u
   subst u
   have h191 := hd144 _ rfl
   subst h191
   exact wp_ret (blk_ret (then_ret (then_ret (blk_ret (then_ret (ret1 s rfl (rv_tmp rfl) (d.ret rfl)))))))
  refine wp_skip (blk_normal (then_normal (wp_region_lit (rz 2 [] s d rfl rfl fun a s => ?_))))
  exact ⟨_, (Option.some.inj u).symm, Sv122, (s.wk rfl), (d.ft [] [1, 2] (by decide) rfl rfl)⟩
 obtain ⟨rv192, u, h193⟩ := map_t u
 have h193 := (hd144 _ h193.symm).symm
 subst h193
 refine wp_exit (then_exit (then_exit (blk_exit (then_normal (sz 1 [] s d rfl rfl fun a s => ?_)))))
 have u := oi u
 subst u
 exact wp_ret (ret1 s rfl (rv_tmp rfl) (d.ret rfl))
theorem slices_DeleteFunc_Lapi_Span_api_Span_ok {w0 S0 p2 k3 c4 g7 f8 cp9 s1} {del6 : Span → Option Bool} {r} (u : slices_DeleteFunc_Lapi_Span_api_Span s1 del6 = some r) (hS : Dm S0 w0) (hin : Ins S0 w0 [.row p2 s1.length k3 c4 71 2]) (h5 : (RowA c4 s1).p S0 w0) (h10 : (FnA1 Tryz.prog g7 f8 cp9 del6).p S0 w0) : Calls Tryz.prog 117 #[.slice p2 s1.length k3, .func (.func g7) f8.toArray cp9.toArray] w0 (Ret (blks [.row p2 s1.length k3 c4 71 2]) w0 S0 (slices_Clone_Lapi_Span_api_Span_rd w0 (blks [.row p2 s1.length k3 c4 71 2]) r)) := by
 refine enI 42 Tryz.func117 rfl hS hin rfl rfl rfl fun a s d => ?_
 have d := ((d.addE h5).addE (e := LenA s1.length s1) len_rfl).addE h10
 delta slices_DeleteFunc_Lapi_Span_api_Span at u
 refine sz 1 [] s d rfl rfl fun a s => ?_
 refine sn 2 [] s d rfl rfl fun a s => ?_
 obtain ⟨rv12, h11, u⟩ := bind_t u
 refine st_callR s (slices_IndexFunc_Lapi_Span_api_Span_ok h11 d.bdom (d.bRow 0 rfl 2 rfl) (d.bE 0 rfl)) (do_call Tryz.call149 rfl) trivial rfl rfl ?_
 rintro v16 Sv13 w a h14 rfl s
 have d := d.callB h14
 refine rz 1 [] s d rfl rfl fun a s => ?_
 refine wp_seq (sz 2 [] s d rfl rfl fun a s => ?_)
 refine cd s u rfl (fun u => ?_) fun u => ?_
 ·refine sz 2 [] s d rfl rfl fun a s => ?_
  have u := oi u
  subst u
  exact wp_ret (then_ret (ret1 s rfl (rv_tmp rfl) (d.ret ⟨p2, k3, c4, rfl, (d.outs [0] (by decide) rfl), (d.envAt 2 rfl)⟩)))
 refine wp_skip (then_normal (wp_seq (sn 2 [] s d rfl rfl fun a s => ?_)))
 obtain ⟨j21, h20, u⟩ := bind_t u
 refine sv s (y_assignI rfl h20) rfl fun a s => ?_
 refine nl ?_
 obtain ⟨e162, h284, u⟩ := bind_t u
 refine wp_join (fun a w => ∃ c163 Sv164, Sl 42 [(0, .slice p2 e162.1.length k3), (5, .int .i64 e162.2)] a ∧ Wd ⟨w0, S0, blks [.row p2 s1.length k3 c4 71 2]⟩ Sv164 [.row p2 e162.1.length k3 c163 71 2] [RowA c163 e162.1, LenA s1.length e162.1] w) ?_ ?_
 ·refine wp_block (wp_while (fun sv22 a w => ∃ c113 Sv114, Sl 42 [(0, .slice p2 sv22.1.length k3), (1, .func (.func g7) f8.toArray cp9.toArray), (5, .int .i64 sv22.2.1), (6, .int .i64 sv22.2.2)] a ∧ Wd ⟨w0, S0, blks [.row p2 s1.length k3 c4 71 2]⟩ Sv114 [.row p2 sv22.1.length k3 c113 71 2] [FnA1 Tryz.prog g7 f8 cp9 del6, RowA c113 sv22.1, LenA s1.length sv22.1] w) (s1, rv12, j21) h284 ⟨c4, S0, (s.wk rfl), (d.ft [0] [0, 2, 1] (by decide) rfl rfl)⟩ ?_)
  clear h284
  repeat clear u
  rintro sv22 a w tv160 ⟨c113, Sv114, s, d⟩ u hd159
  delta slices_DeleteFunc_Lapi_Span_api_Span_l1 at u
  refine wp_seq (sz 4 [] s d rfl rfl fun a s => ?_)
  refine cd s u rfl (fun u => ?_) fun u => ?_
  ·refine wp_skip (then_normal (wp_seq (wp_block (sn 2 [] s d rfl rfl fun a s => ?_))))
   obtain ⟨x210, h208, u⟩ := bind_t u
   obtain ⟨b217, q214, c215, h218, h211, h212, h216, h209⟩ := d.elemRV (α := Span) 0 rfl 1 rfl h208
   have hsv219 := s
   have hwv220 := d
   subst h218
   have s := hsv219
   have d := hwv220
   obtain ⟨_, _, rfl, rfl, rfl⟩ := h209
   refine sv s (y_indexAt Tryz.runUnderlying30 Tryz.sizeOf71 rfl rfl h211.1 h211.2 h212) rfl fun a s => ?_
   refine sv s (y_loadQA (j := 0) (d.ownAt 0 rfl) rfl Tryz.isAgg71 Tryz.sizeOf71 h216 rfl rfl) rfl fun a s => ?_
   refine w_alloc (cs := [.int .i64 0, .int .i64 0]) s d Tryz.zeroValue71 rfl rfl trivial ?_
   intro b221 a w s d
   refine w_store (m := 2) (cs' := (C71 x210)) s d 0 rfl rfl rfl Tryz.sizeOf71 rfl rfl rfl rfl trivial ?_
   intro a w s d
   refine nl (sn 2 [0] s d rfl rfl fun a s => ?_)
   obtain ⟨rv223, h222, u⟩ := bind_t u
   refine st_callR s ((d.bE 0 rfl).2 Keep.rfl' d.bdom ⟨_, _, rfl, rfl, rfl⟩ h222) (do_callF (d.bE 0 rfl).1 rfl rfl) trivial rfl rfl ?_
   rintro v227 Sv224 w a h225 rfl s
   have d := d.callB h225
   refine rz 1 [] s d rfl rfl fun a s => ?_
   refine wp_join (fun a w => ∃ (sv247 : (List Span)) (i248 : Int) (c245 Sv246 : _), slices_DeleteFunc_Lapi_Span_api_Span_j1 sv22 sv247 i248 = some tv160 ∧ Sl 42 [(0, .slice (some ⟨b217, 0, none⟩) sv247.length k3), (1, .func (.func g7) f8.toArray cp9.toArray), (5, .int .i64 i248), (6, .int .i64 sv22.2.2)] a ∧ Wd ⟨w0, S0, blks [.row (some ⟨b217, 0, none⟩) s1.length k3 c4 71 2]⟩ Sv246 [.row (some ⟨b217, 0, none⟩) sv247.length k3 c245 71 2] [FnA1 Tryz.prog g7 f8 cp9 del6, RowA c245 sv247, LenA s1.length sv247] w) ?_ ?_
   ·refine cd s u rfl (fun u => ?_) fun u => ?_
    ·refine sn 3 [0] s d rfl rfl fun a s => ?_
     obtain ⟨x254, h252, u⟩ := bind_t u
     obtain ⟨q258, c259, h255, h256, h260, h253⟩ := d.elemRK (α := Span) 1 rfl 1 rfl h252
     obtain ⟨_, _, rfl, rfl, rfl⟩ := h253
     refine sv s (y_indexAt Tryz.runUnderlying30 Tryz.sizeOf71 rfl rfl h255.1 h255.2 h256) rfl fun a s => ?_
     obtain ⟨l262, h261, u⟩ := bind_t u
     have h265 := d.envAt 2 rfl
     refine w_storeF (α := Span) s d 1 rfl 1 rfl h256 rfl rfl Tryz.sizeOf71 rfl h261 ⟨_, _, rfl, rfl, rfl⟩ trivial ?_
     intro c263 a w s d
     have d := d.addE (e := LenA s1.length l262) (len_set (w := w) (S := S0) h265 h261)
     have h264 := setM_len h261
     try have s := s.fl 0 rfl h264
     try have s := s.fl 30 rfl h264
     refine nl (wp_region_lit (rn 2 [] s d rfl rfl fun a s => ?_))
     obtain ⟨i267, h266, u⟩ := bind_t u
     refine sv s (y_assignI rfl h266) rfl fun a s => ?_
     exact nl ⟨l262, i267, c263, Sv114, u, (s.wk rfl), (d.ft [1] [2, 1, 0] (by decide) rfl rfl)⟩
    exact wp_skip (then_normal ⟨sv22.1, sv22.2.1, c113, Sv114, u, (s.wk rfl), (d.ft [1] [0, 1, 2] (by decide) rfl rfl)⟩)
   rintro a w ⟨sv247, i248, c245, Sv246, u, s, d⟩
   delta slices_DeleteFunc_Lapi_Span_api_Span_j1 at u
   refine blk_normal (then_normal (wp_region_lit (rn 2 [] s d rfl rfl fun a s => ?_)))
   obtain ⟨j250, h249, u⟩ := bind_t u
   refine sv s (y_assignI rfl h249) rfl fun a s => ?_
   exact nl ⟨_, (Option.some.inj u).symm, c245, Sv246, (s.wk rfl), (d.ft [0] [0, 1, 2] (by decide) rfl rfl)⟩
  refine wp_exit (then_exit (then_exit (blk_exit ?_)))
  have u := oi u
  subst u
  have h268 := hd159 _ rfl
  subst h268
  exact then_normal ⟨c113, Sv114, (s.wk rfl), (d.ft [0] [1, 2] (by decide) rfl rfl)⟩
 rintro a w ⟨c163, Sv164, s, d⟩
 refine then_normal (sn 2 [] s d rfl rfl fun a s => ?_)
 obtain ⟨l273, h269, u⟩ := bind_t u
 obtain ⟨p271, k272, h270⟩ := row_sub (α := Span) d 0 rfl h269
 refine sv s (y_slc Tryz.runUnderlying30 Tryz.sizeOf71 rfl ⟨_, rfl⟩ (by exact rfl) h270) rfl fun a s => ?_
 obtain ⟨l274, h275, u⟩ := bind_t u
 have h280 := d.envAt 1 rfl
 refine w_clear (α := Span) (z0 := ((⟨0, 0⟩ : Span) : Span)) s d 0 rfl 0 rfl El30 ⟨_, _, rfl, rfl, rfl⟩ h269 h270 rfl trivial ?_
 intro c276 a w s d
 rw [Option.some.inj h275] at d
 have d := d.addE (e := LenA s1.length l274) (by have q := len_copy (w := w) (S := S0) (S' := S0) (w' := w) (ys := List.replicate l273.length ((⟨0, 0⟩ : Span) : Span)) h280 h269; rw [Option.some.inj h275] at q; exact q)
 have h277 := (copy_lenS h269 h275)
 try have s := s.fl 0 rfl h277
 try have s := s.fl 36 rfl h277
 refine nl (sn 2 [] s d rfl rfl fun a s => ?_)
 obtain ⟨l283, h281, u⟩ := bind_t u
 obtain ⟨d, h282⟩ := w_cut d 0 rfl 1 rfl h281
 refine sv s (y_slc Tryz.runUnderlying30 Tryz.sizeOf71 rfl (by exact rfl) ⟨_, rfl⟩ h282) rfl fun a s => ?_
 refine rz 1 [] s d rfl rfl fun a s => ?_
 have u := oi u
 subst u
 exact wp_ret (ret1 s rfl (rv_tmp rfl) (d.ret ⟨p2, k3, (c276.take (l283.length * 2)), rfl, (d.outs [0] (by decide) rfl), (d.envAt 0 rfl)⟩))
theorem span_some_ok {w0 S0 s1 r} (u : span_some s1 = some r) (hS : Dm S0 w0) : Calls Tryz.prog 120 #[V71 s1] w0 (Ret ([]) w0 S0 (made_Light_rd w0 ([]) r)) := by
 refine en 8 Tryz.func120 rfl hS rfl rfl rfl fun a s d => ?_
 delta span_some at u
 refine sr (w_box (cs := (C71 s1)) s d rfl rfl rfl trivial ?_)
 intro b2 a w s d
 refine rz 1 [] s d rfl rfl fun a s => ?_
 refine sz 6 [0, 0] s d rfl rfl fun a s => ?_
 have u := oi u
 subst u
 exact wp_ret (ret1 s rfl (rv_tmp rfl) (d.ret rfl))
theorem span_Normal_fn1_ok {w0 S0 s1 r} (u : span_Normal_fn1 s1 = some r) (hS : Dm S0 w0) : Calls Tryz.prog 119 #[V71 s1] w0 (Ret ([]) w0 S0 (made_Light_rd w0 ([]) r)) := by
 refine en 6 Tryz.func119 rfl hS rfl rfl rfl fun a s d => ?_
 delta span_Normal_fn1 at u
 refine sr (w_box (cs := (C71 s1)) s d rfl rfl rfl trivial ?_)
 intro b2 a w s d
 refine rz 1 [] s d rfl rfl fun a s => ?_
 refine sn 1 [0] s d rfl rfl fun a s => ?_
 obtain ⟨rv4, h3, u⟩ := bind_t u
 refine st_callR s (span_some_ok h3 d.bdom) (do_call Tryz.call120 rfl) trivial rfl rfl ?_
 rintro v8 Sv5 w a h6 rfl s
 have d := d.callB h6
 refine rz 2 [] s d rfl rfl fun a s => ?_
 have u := oi u
 subst u
 exact wp_ret (ret1 s rfl (rv_tmp rfl) (d.ret rfl))
theorem span_Normal_fn1_fn (S0 : Nat → Prop) (w0 : World) : (FnA1 Tryz.prog 119 [] [] span_Normal_fn1).p S0 w0 := by
  refine ⟨Tryz.call119, ?_⟩
  rintro S1 w1 hk hS c0 x0 r1 ⟨_, _, rfl, rfl, rfl⟩ hf
  exact span_Normal_fn1_ok hf hS  
end Go.Proofs.YtdcafiefjakfeaaGreat.Wk
namespace Go.Proofs
open Go Go.Shelf Go.RowKit Go.Lib Go.Sort
def Tryz.sort121_ren : Go.Shelf.Ren := ⟨fun | 6 => 121 | 15 => 130 | 14 => 150 | 28 => 167 | 29 => 168 | 20 => 177 | 21 => 178 | 22 => 179 | 23 => 180 | 24 => 181 | 25 => 182 | 26 => 183 | 27 => 184 | 46 => 199 | 47 => 195 | 48 => 196 | 49 => 200 | 50 => 201 | 57 => 207 | n => n, fun | 22 => 30 | 24 => 71 | 25 => 141 | 3 => 3 | 39 => 146 | 0 => 0 | 53 => 172 | 55 => 174 | 4 => 4 | 46 => 166 | 45 => 165 | 50 => 44 | 5 => 5 | 9 => 9 | 66 => 191 | 70 => 195 | 76 => 202 | 77 => 203 | n => n, fun | n => n⟩
theorem Tryz.sort121 : Go.Proofs.SlLaysF0.n6 Tryz.prog Tryz.sort121_ren where
  mixed := by kernel_rfl
  f6 := ⟨Tryz.f121.name, by decide, Tryz.func121.trans (congrArg some (by kernel_rfl))⟩
  f14 := ⟨Tryz.f150.name, by decide, Tryz.func150.trans (congrArg some (by kernel_rfl))⟩
  f15 := Tryz.func130.trans (congrArg some (by kernel_rfl))
  f20 := ⟨Tryz.f177.name, by decide, Tryz.func177.trans (congrArg some (by kernel_rfl))⟩
  f21 := ⟨Tryz.f178.name, by decide, Tryz.func178.trans (congrArg some (by kernel_rfl))⟩
  f22 := ⟨Tryz.f179.name, by decide, Tryz.func179.trans (congrArg some (by kernel_rfl))⟩
  f23 := ⟨Tryz.f180.name, by decide, Tryz.func180.trans (congrArg some (by kernel_rfl))⟩
  f24 := ⟨Tryz.f181.name, by decide, Tryz.func181.trans (congrArg some (by kernel_rfl))⟩
  f25 := ⟨Tryz.f182.name, by decide, Tryz.func182.trans (congrArg some (by kernel_rfl))⟩
  f26 := ⟨Tryz.f183.name, by decide, Tryz.func183.trans (congrArg some (by kernel_rfl))⟩
  f27 := ⟨Tryz.f184.name, by decide, Tryz.func184.trans (congrArg some (by kernel_rfl))⟩
  f28 := Tryz.func167.trans (congrArg some (by kernel_rfl))
  f29 := Tryz.func168.trans (congrArg some (by kernel_rfl))
  f46 := ⟨Tryz.f199.name, by decide, Tryz.func199.trans (congrArg some (by kernel_rfl))⟩
  f47 := Tryz.func195.trans (congrArg some (by kernel_rfl))
  f48 := Tryz.func196.trans (congrArg some (by kernel_rfl))
  f49 := ⟨Tryz.f200.name, by decide, Tryz.func200.trans (congrArg some (by kernel_rfl))⟩
  f50 := ⟨Tryz.f201.name, by decide, Tryz.func201.trans (congrArg some (by kernel_rfl))⟩
  f57 := ⟨Tryz.f207.name, by decide, Tryz.func207.trans (congrArg some (by kernel_rfl))⟩
  t0 := Tryz.underlying0
  a0 := Tryz.isAgg0
  z0 := Tryz.sizeOf0
  v0 := Tryz.zeroValue0
  t3 := Tryz.underlying3
  a3 := Tryz.isAgg3
  z3 := Tryz.sizeOf3
  v3 := Tryz.zeroValue3
  t4 := Tryz.underlying4
  a4 := Tryz.isAgg4
  z4 := Tryz.sizeOf4
  v4 := Tryz.zeroValue4
  t5 := Tryz.underlying5
  a5 := Tryz.isAgg5
  z5 := Tryz.sizeOf5
  v5 := Tryz.zeroValue5
  t9 := Tryz.underlying9
  a9 := Tryz.isAgg9
  z9 := Tryz.sizeOf9
  v9 := Tryz.zeroValue9
  t22 := Tryz.underlying30
  a22 := Tryz.isAgg30
  z22 := Tryz.sizeOf30
  v22 := Tryz.zeroValue30
  t25 := Tryz.underlying141
  a25 := Tryz.isAgg141
  z25 := Tryz.sizeOf141
  v25 := Tryz.zeroValue141
  t39 := Tryz.underlying146
  a39 := Tryz.isAgg146
  z39 := Tryz.sizeOf146
  v39 := Tryz.zeroValue146
  t45 := Tryz.underlying165
  a45 := Tryz.isAgg165
  z45 := Tryz.sizeOf165
  v45 := Tryz.zeroValue165
  t46 := Tryz.underlying166
  a46 := Tryz.isAgg166
  z46 := Tryz.sizeOf166
  v46 := Tryz.zeroValue166
  t50 := Tryz.underlying44
  a50 := Tryz.isAgg44
  z50 := Tryz.sizeOf44
  v50 := Tryz.zeroValue44
  t53 := Tryz.underlying172
  a53 := Tryz.isAgg172
  z53 := Tryz.sizeOf172
  v53 := Tryz.zeroValue172
  t55 := Tryz.underlying174
  a55 := Tryz.isAgg174
  z55 := Tryz.sizeOf174
  v55 := Tryz.zeroValue174
  t66 := Tryz.underlying191
  a66 := Tryz.isAgg191
  z66 := Tryz.sizeOf191
  v66 := Tryz.zeroValue191
  t70 := Tryz.underlying195
  a70 := Tryz.isAgg195
  z70 := Tryz.sizeOf195
  v70 := Tryz.zeroValue195
  t76 := Tryz.underlying202
  a76 := Tryz.isAgg202
  z76 := Tryz.sizeOf202
  v76 := Tryz.zeroValue202
  t77 := Tryz.underlying203
  a77 := Tryz.isAgg203
  z77 := Tryz.sizeOf203
  v77 := Tryz.zeroValue203
end Go.Proofs
namespace Go.Proofs.YtdcafiefjakfeaaGreat.Wk
open Go Go.RowKit Go.Proofs Go.Proofs.YtdcafiefjakfeaaGreat.Sh
set_option linter.unusedVariables false
set_option linter.unusedSimpArgs false
abbrev slices_SortFunc_Lapi_Span_api_Span_rd (w0 : World) (X : List Nat) (p2 : Option Addr) (k3 : Nat) (x1 : (List Span)) (r : (List Span)) : (Nat → Prop) → World → Value → Prop := fun S w v => ∃ ck_0, v = .tuple #[] ∧ Outs X w0 S w [.row p2 r.length k3 ck_0 71 2] ∧ (RowA ck_0 r).p S w ∧ (LenA x1.length r).p S w
theorem slices_SortFunc_Lapi_Span_api_Span_ok {w0 S0 p2 k3 c4 g7 cp9 x1} {cmp6 : Span → Span → Option Int} {r} (u : slices_SortFunc_Lapi_Span_api_Span x1 cmp6 = some r) (hS : Dm S0 w0) (hin : Ins S0 w0 [.row p2 x1.length k3 c4 71 2]) (h5 : (RowA c4 x1).p S0 w0) (h10 : (FnA2 Tryz.prog g7 [] cp9 cmp6).p S0 w0) : Calls Tryz.prog 121 #[.slice p2 x1.length k3, .func (.func g7) #[] cp9.toArray] w0 (Ret (blks [.row p2 x1.length k3 c4 71 2]) w0 S0 (slices_SortFunc_Lapi_Span_api_Span_rd w0 (blks [.row p2 x1.length k3 c4 71 2]) p2 k3 x1 r)) := by
 exact sort_leaf (α := Span) (T := 71) Tryz.sort121 Tryz.isAgg71 Tryz.sizeOf71 (fun _ => rfl) (by decide) (fun d => (C71 d)) (by rintro S w cs d ⟨_, _, rfl, rfl, rfl⟩; rfl) u hS hin h5 h10
theorem cmp_isNaN_int_ok {w0 S0 x1 r} (u : cmp_isNaN_int x1 = some r) (hS : Dm S0 w0) : Calls Tryz.prog 151 #[.int .i64 x1] w0 (Ret ([]) w0 S0 (made_Light_rd w0 ([]) r)) := by
 refine en 6 Tryz.func151 rfl hS rfl rfl rfl fun a s d => ?_
 delta cmp_isNaN_int at u
 refine sz 1 [] s d rfl rfl fun a s => ?_
 refine sz 4 [] s d rfl rfl fun a s => ?_
 have u := oi u
 subst u
 exact wp_ret (ret1 s rfl (rv_tmp rfl) (d.ret rfl))
theorem cmp_Compare_int_ok {w0 S0 x1 y2 r} (u : cmp_Compare_int x1 y2 = some r) (hS : Dm S0 w0) : Calls Tryz.prog 123 #[.int .i64 x1, .int .i64 y2] w0 (Ret ([]) w0 S0 (slices_IndexFunc_Lapi_Record_api_Record_rd w0 ([]) r)) := by
 refine en 20 Tryz.func123 rfl hS rfl rfl rfl fun a s d => ?_
 delta cmp_Compare_int at u
 refine sz 1 [] s d rfl rfl fun a s => ?_
 refine sn 1 [] s d rfl rfl fun a s => ?_
 obtain ⟨rv4, h3, u⟩ := bind_t u
 refine st_callR s (cmp_isNaN_int_ok h3 d.bdom) (do_call Tryz.call151 rfl) trivial rfl rfl ?_
 rintro v8 Sv5 w a h6 rfl s
 have d := d.callB h6
 refine rz 1 [] s d rfl rfl fun a s => ?_
 refine sn 1 [] s d rfl rfl fun a s => ?_
 obtain ⟨rv11, h10, u⟩ := bind_t u
 refine st_callR s (cmp_isNaN_int_ok h10 d.bdom) (do_call Tryz.call151 rfl) trivial rfl rfl ?_
 rintro v15 Sv12 w a h13 rfl s
 have d := d.callB h13
 refine rz 1 [] s d rfl rfl fun a s => ?_
 refine wp_seq (sz 1 [] s d rfl rfl fun a s => ?_)
 refine cd s u rfl (fun u => ?_) fun u => ?_
 ·refine wp_seq (sz 1 [] s d rfl rfl fun a s => ?_)
  refine cd s u rfl (fun u => ?_) fun u => ?_
  ·refine sz 1 [] s d rfl rfl fun a s => ?_
   have u := oi u
   subst u
   exact wp_ret (then_ret (then_ret (ret1 s rfl (rv_tmp rfl) (d.ret rfl))))
  refine wp_skip (then_normal (sz 1 [] s d rfl rfl fun a s => ?_))
  have u := oi u
  subst u
  exact wp_ret (then_ret (ret1 s rfl (rv_tmp rfl) (d.ret rfl)))
 refine wp_skip (then_normal (wp_seq (sz 1 [] s d rfl rfl fun a s => ?_)))
 refine cd s u rfl (fun u => ?_) fun u => ?_
 ·refine sz 1 [] s d rfl rfl fun a s => ?_
  have u := oi u
  subst u
  exact wp_ret (then_ret (ret1 s rfl (rv_tmp rfl) (d.ret rfl)))
 refine wp_skip (then_normal (wp_seq (sz 3 [] s d rfl rfl fun a s => ?_)))
 refine cd s u rfl (fun u => ?_) fun u => ?_
 ·refine sz 1 [] s d rfl rfl fun a s => ?_
  have u := oi u
  subst u
  exact wp_ret (then_ret (ret1 s rfl (rv_tmp rfl) (d.ret rfl)))
 refine wp_skip (then_normal (wp_seq (sz 3 [] s d rfl rfl fun a s => ?_)))
 refine cd s u rfl (fun u => ?_) fun u => ?_
 ·refine sz 1 [] s d rfl rfl fun a s => ?_
  have u := oi u
  subst u
  exact wp_ret (then_ret (ret1 s rfl (rv_tmp rfl) (d.ret rfl)))
 refine wp_skip (then_normal (sz 1 [] s d rfl rfl fun a s => ?_))
 have u := oi u
 subst u
 exact wp_ret (ret1 s rfl (rv_tmp rfl) (d.ret rfl))
theorem span_Normal_fn2_ok {w0 S0 a1 b2 r} (u : span_Normal_fn2 a1 b2 = some r) (hS : Dm S0 w0) : Calls Tryz.prog 122 #[V71 a1, V71 b2] w0 (Ret ([]) w0 S0 (slices_IndexFunc_Lapi_Record_api_Record_rd w0 ([]) r)) := by
 refine en 10 Tryz.func122 rfl hS rfl rfl rfl fun a s d => ?_
 delta span_Normal_fn2 at u
 refine sr (w_box (cs := (C71 a1)) s d rfl rfl rfl trivial ?_)
 intro b3 a w s d
 refine w_box (cs := (C71 b2)) s d rfl rfl rfl trivial ?_
 intro b4 a w s d
 refine rz 1 [] s d rfl rfl fun a s => ?_
 refine sn 4 [1, 0] s d rfl rfl fun a s => ?_
 obtain ⟨rv6, h5, u⟩ := bind_t u
 refine st_callR s (cmp_Compare_int_ok h5 d.bdom) (do_call Tryz.call123 rfl) trivial rfl rfl ?_
 rintro v10 Sv7 w a h8 rfl s
 have d := d.callB h8
 refine rz 1 [] s d rfl rfl fun a s => ?_
 have u := oi u
 subst u
 exact wp_ret (ret1 s rfl (rv_tmp rfl) (d.ret rfl))
theorem span_Normal_fn2_fn (S0 : Nat → Prop) (w0 : World) : (FnA2 Tryz.prog 122 [] [] span_Normal_fn2).p S0 w0 := by
  refine ⟨Tryz.call122, ?_⟩
  rintro S1 w1 hk hS c0 c1 x0 x1 r1 ⟨_, _, rfl, rfl, rfl⟩ h1 hf
  obtain ⟨_, _, rfl, rfl, rfl⟩ := h1
  exact span_Normal_fn2_ok hf hS  
theorem span_Normal_ok {w0 S0 p2 k3 l1 r} (u : span_Normal l1 = some r) (hS : Dm S0 w0) (h4 : (SlA p2 l1.length k3 l1).p S0 w0) : Calls Tryz.prog 88 #[.slice p2 l1.length k3] w0 (Ret ([]) w0 S0 (slices_Clone_Lapi_Span_api_Span_rd w0 ([]) r)) := by
 refine en 54 Tryz.func88 rfl hS rfl rfl rfl fun a s d => ?_
 have d := d.addE h4
 delta span_Normal at u
 refine sz 1 [] s d rfl rfl fun a s => ?_
 refine sn 1 [] s d rfl rfl fun a s => ?_
 obtain ⟨rv6, h5, u⟩ := bind_t u
 refine st_callR s (slices_Clone_Lapi_Span_api_Span_ok h5 d.dom (d.envAt 0 rfl)) (do_call Tryz.call118 rfl) trivial rfl rfl ?_
 rintro v14 Sv11 w a h12 ⟨p7, k8, c10, rfl, h15, h9⟩ s
 have d := (d.callN h12 h15).addE (e := RowA c10 rv6) h9
 obtain ⟨rv17, h16, u⟩ := bind_t u
 refine st_callR s (slices_DeleteFunc_Lapi_Span_api_Span_ok h16 d.dom (d.ins [0] (by decide) rfl) (d.envAt 0 rfl) (span_Normal_fn1_fn _ _)) (do_call Tryz.call117 rfl) trivial rfl rfl ?_
 rintro v25 Sv22 w a h23 ⟨p18, k19, c21, rfl, h26, h20⟩ s
 have d := (d.callO [0] [] (by decide) rfl h23 h26).addE (e := RowA c21 rv17) h20
 refine rz 1 [] s d rfl rfl fun a s => ?_
 refine sn 1 [] s d rfl rfl fun a s => ?_
 obtain ⟨rv28, h27, u⟩ := bind_t u
 refine st_callR s (slices_SortFunc_Lapi_Span_api_Span_ok h27 d.dom (d.ins [0] (by decide) rfl) (d.envAt 0 rfl) (span_Normal_fn2_fn _ _)) (do_call Tryz.call121 rfl) trivial rfl rfl ?_
 rintro v35 Sv32 w a h33 ⟨c29, rfl, h36, h30, h31⟩ s
 have d := (d.callO [0] [] (by decide) rfl h33 h36).addE (e := RowA c29 rv28) h30
 have h37 := h31
 have h38 := Eq.symm h37
 try have s := s.fl 3 rfl h38
 try have s := s.fl 11 rfl h38
 refine nl (sz 1 [] s d rfl rfl fun a s => ?_)
 refine wp_seq (sz 3 [] s d rfl rfl fun a s => ?_)
 obtain ⟨e261, h462, u⟩ := bind_t u
 refine wp_join (fun a w => ∃ c262 p263 k264 Sv265, Sl 54 [(4, .slice p263 e261.length k264)] a ∧ Wd ⟨w0, S0, []⟩ Sv265 [.row p263 e261.length k264 c262 71 2] [RowA c262 e261] w) ?_ ?_
 ·refine wp_block ?_
  have d := d.nilRow Span 71
  refine wp_while (fun sv39 a w => ∃ c182 p183 k184 Sv185, Sl 54 [(4, .slice p183 sv39.1.length k184), (13, .slice p18 rv28.length k19), (14, .int .i64 (rv28.length : Int)), (15, .int .i64 sv39.2)] a ∧ Wd ⟨w0, S0, []⟩ Sv185 [.row p183 sv39.1.length k184 c182 71 2, .row p18 rv28.length k19 c29 71 2] [RowA c182 sv39.1, RowA c29 rv28] w) (([] : List Span), 0) h462 ⟨[], none, 0, Sv32, (s.wk rfl), (d.ft [0, 1] [0, 1] (by decide) rfl rfl)⟩ ?_
  clear h462
  repeat clear u
  rintro sv39 a w tv259 ⟨c182, p183, k184, Sv185, s, d⟩ u hd258
  delta span_Normal_l1 at u
  refine sz 1 [] s d rfl rfl fun a s => ?_
  refine wp_seq (cd s u rfl (fun u => ?_) fun u => ?_)
  ·refine wp_skip (then_normal (wp_seq (wp_block (sr ?_))))
   obtain ⟨x341, h339, u⟩ := bind_t u
   obtain ⟨b348, q345, c346, h349, h342, h343, h347, h340⟩ := d.elemRV (α := Span) 1 rfl 1 rfl h339
   have hsv350 := s
   have hwv351 := d
   subst h349
   have s := hsv350
   have d := hwv351
   obtain ⟨_, _, rfl, rfl, rfl⟩ := h340
   refine sv s (y_indexAt Tryz.runUnderlying30 Tryz.sizeOf71 rfl rfl h342.1 h342.2 h343) rfl fun a s => ?_
   refine sv s (y_loadQA (j := 0) (d.ownAt 1 rfl) rfl Tryz.isAgg71 Tryz.sizeOf71 h347 rfl rfl) rfl fun a s => ?_
   refine w_alloc (cs := [.int .i64 0, .int .i64 0]) s d Tryz.zeroValue71 rfl rfl trivial ?_
   intro b352 a w s d
   refine w_store (m := 2) (cs' := (C71 x341)) s d 0 rfl rfl rfl Tryz.sizeOf71 rfl rfl rfl rfl trivial ?_
   intro a w s d
   refine nl (sn 2 [] s d rfl rfl fun a s => ?_)
   obtain ⟨n354, h353, u⟩ := bind_t u
   refine sv s (y_assignI rfl h353) rfl fun a s => ?_
   refine nl (wp_seq ?_)
   obtain ⟨c368, hc368, u⟩ := bind_t u
   refine wp_only (fun a w => ∃ Sv369, Sl 54 [(4, .slice p183 sv39.1.length k184), (6, .pointer (some ⟨b352, 0, none⟩)), (7, .int .i64 n354), (13, .slice (some ⟨b348, 0, none⟩) rv28.length k19), (14, .int .i64 (rv28.length : Int)), (15, .int .i64 sv39.2), (33, .bool c368)] a ∧ Wd ⟨w0, S0, []⟩ Sv369 [.box b352 (C71 x341) 71, .row p183 sv39.1.length k184 c182 71 2, .row (some ⟨b348, 0, none⟩) rv28.length k19 c29 71 2] [RowA c182 sv39.1, RowA c29 rv28] w) ?_ ?_
   ·rcases Bool.eq_false_or_eq_true (decide (0 < n354)) with h370 | h370
    ·have h371 := ite_t hc368 h370
     obtain ⟨x374, h372, h371⟩ := bind_t h371
     obtain ⟨b381, q378, c379, h382, h375, h376, h380, h373⟩ := d.elemRV (α := Span) 1 rfl 0 rfl h372
     have hsv383 := s
     have hwv384 := d
     subst h382
     have s := hsv383
     have d := hwv384
     obtain ⟨_, _, rfl, rfl, rfl⟩ := h373
     refine h_c [0, 1, 2] [] d rfl rfl (by kernel_rfl) rfl fun hC d => ?_
     refine gn 3 [0, 1, 2] [] s hC rfl rfl rfl fun a s => ?_
     have s := s.fix 23 (.bool true) rfl (vb h370)
     refine gn 5 [3, 4, 5, 6, 7] [0] s hC rfl rfl rfl fun a s => ?_
     refine gt s 8 rfl ⟨_, rfl, rfl⟩ rfl hC (fun w hC => y_indexAt Tryz.runUnderlying30 Tryz.sizeOf71 rfl rfl h375.1 h375.2 h376) fun a s => ?_
     refine gt s 9 rfl ⟨_, rfl, rfl⟩ rfl hC (fun w hC => y_fieldAddr (o' := q378 + 1) Tryz.runUnderlying71 rfl Tryz.sizeOf3 rfl rfl rfl) fun a s => ?_
     refine gt s 10 rfl ⟨_, rfl, rfl⟩ rfl hC (fun w hC => y_loadQ1 (j := 1) (hC.ownAt 1 rfl) rfl Tryz.isAgg3 h380 rfl) fun a s => ?_
     refine gt s 11 rfl ⟨_, rfl, rfl⟩ rfl hC (fun w hC => y_leq rfl rfl) fun a s => ?_
     refine gv s 12 rfl rfl hC (fun w hC => y_pickTE (v := .bool c368) rfl rfl (vbs h371)) fun a s => ?_
     refine h_done (by kernel_rfl) ?_
     exact ⟨Sv185, (s.wk rfl), (d.ft [0, 1, 2] [0, 1] (by decide) rfl rfl)⟩
    have h385 := ite_f hc368 h370
    refine h_c [0, 1, 2] [] d rfl rfl (by kernel_rfl) rfl fun hC d => ?_
    refine gn 3 [0, 1, 2] [] s hC rfl rfl rfl fun a s => ?_
    have s := s.fix 23 (.bool false) rfl (vb h370)
    refine gn 9 [3, 4, 5, 6, 7, 8, 9, 10, 11] [] s hC rfl rfl rfl fun a s => ?_
    refine gv s 12 rfl rfl hC (fun w hC => y_pickFE (v := .bool c368) rfl rfl (vbs h385)) fun a s => ?_
    refine h_done (by kernel_rfl) ?_
    exact ⟨Sv185, (s.wk rfl), (d.ft [0, 1, 2] [0, 1] (by decide) rfl rfl)⟩
   rintro a w ⟨Sv369, s, d⟩
   refine then_normal (wp_join (fun a w => ∃ (out425 : (List Span)) (c421 p422 k423 Sv424 : _), span_Normal_j1 sv39 out425 = some tv259 ∧ Sl 54 [(4, .slice p422 out425.length k423), (13, .slice (some ⟨b348, 0, none⟩) rv28.length k19), (14, .int .i64 (rv28.length : Int)), (15, .int .i64 sv39.2)] a ∧ Wd ⟨w0, S0, []⟩ Sv424 [.row p422 out425.length k423 c421 71 2, .row (some ⟨b348, 0, none⟩) rv28.length k19 c29 71 2] [RowA c421 out425, RowA c29 rv28] w) ?_ ?_)
   ·refine cd s u rfl (fun u => ?_) fun u => ?_
    ·obtain ⟨x429, h427, u⟩ := bind_t u
     obtain ⟨b436, q433, c434, h437, h430, h431, h435, h428⟩ := d.elemRV (α := Span) 1 rfl 0 rfl h427
     have hsv438 := s
     have hwv439 := d
     subst h437
     have s := hsv438
     have d := hwv439
     obtain ⟨_, _, rfl, rfl, rfl⟩ := h428
     obtain ⟨x442, h440, u⟩ := bind_t u
     obtain ⟨q446, c447, h443, h444, h448, h441⟩ := d.elemRK (α := Span) 1 rfl 0 rfl h440
     obtain ⟨_, _, rfl, rfl, rfl⟩ := h441
     obtain ⟨l450, h449, u⟩ := bind_t u
     refine wp_only (fun a w => ∃ Sv453 c451, Sl 54 [(4, .slice (some ⟨b436, 0, none⟩) l450.length k184), (13, .slice (some ⟨b348, 0, none⟩) rv28.length k19), (14, .int .i64 (rv28.length : Int)), (15, .int .i64 sv39.2)] a ∧ Wd ⟨w0, S0, []⟩ Sv453 [.row (some ⟨b436, 0, none⟩) l450.length k184 c451 71 2, .row (some ⟨b348, 0, none⟩) rv28.length k19 c29 71 2] [RowA c451 l450, RowA c29 rv28] w) ?_ ?_
     ·refine h_c [0, 2] [] d rfl rfl (by kernel_rfl) rfl fun hC d => ?_
      refine gn 6 [0, 1, 2, 3, 4, 5] [] s hC rfl rfl rfl fun a s => ?_
      refine gv s 6 rfl rfl hC (fun w hC => y_indexAt Tryz.runUnderlying30 Tryz.sizeOf71 rfl rfl h430.1 h430.2 h431) fun a s => ?_
      refine gn 3 [7, 9, 10] [0] s hC rfl rfl rfl fun a s => ?_
      refine ho 8 rfl ?_
      refine sv s (y_loadQ1 (j := 1) (d.ownAt 1 rfl) rfl Tryz.isAgg3 h435 rfl) rfl fun a s => ?_
      refine h_n [0, 2] [] d rfl rfl fun hC => ?_
      refine gv s 11 rfl rfl hC (fun w hC => y_max rfl rfl) fun a s => ?_
      refine gv s 12 rfl rfl hC (fun w hC => y_indexAt Tryz.runUnderlying30 Tryz.sizeOf71 rfl rfl h443.1 h443.2 h444) fun a s => ?_
      refine gv s 13 rfl rfl hC (fun w hC => y_fieldAddr (o' := q446 + 1) Tryz.runUnderlying71 rfl Tryz.sizeOf3 rfl rfl rfl) fun a s => ?_
      refine ho 14 rfl ?_
      refine w_storeR (α := Span) (f := 1) (m := 1) s d 1 rfl 0 rfl h444 rfl rfl Tryz.sizeOf3 rfl rfl rfl h449 (fun es he => by rw [h448] at he; subst he; exact ⟨_, _, rfl, rfl, rfl⟩) trivial ?_
      intro c451 a w s d
      have h452 := setM_len h449
      try have s := s.fl 4 rfl h452
      try have s := s.fl 34 rfl h452
      try have s := s.fl 37 rfl h452
      refine h_n [0, 2] [] d rfl rfl fun hC => ?_
      refine h_done (by kernel_rfl) ?_
      exact ⟨Sv369, c451, (s.wk rfl), (d.ft [1, 2] [0, 2] (by decide) rfl rfl)⟩
     rintro a w ⟨Sv453, c451, s, d⟩
     exact then_normal ⟨l450, c451, (some ⟨b436, 0, none⟩), k184, Sv453, u, (s.wk rfl), (d.ft [0, 1] [0, 1] (by decide) rfl rfl)⟩
    refine wp_region_lit (rn 2 [0] s d rfl rfl fun a s => ?_)
    refine w_litSlice (α := Span) (vs := [V71 x341]) (cs := (C71 x341)) (xs := ([x341] : List Span)) s d El30 rfl rfl rfl rfl rfl rfl ⟨⟨_, _, rfl, rfl, rfl⟩, rfl⟩ rfl trivial rfl fun b455 a w s d => ?_
    obtain ⟨l457, h456, u⟩ := bind_t u
    refine w_appendR (α := Span) s d El30 2 rfl rfl rfl 1 rfl 0 rfl 0 rfl h456 rfl trivial ?_
    intro p458 k459 c460 a w s d
    refine rz 1 [] s d rfl rfl fun a s => ?_
    exact ⟨l457, c460, p458, k459, Sv369, u, (s.wk rfl), (d.ft [2, 3] [0, 3] (by decide) rfl rfl)⟩
   rintro a w ⟨out425, c421, p422, k423, Sv424, u, s, d⟩
   delta span_Normal_j1 at u
   refine blk_normal (then_normal (wp_region_lit (rz 2 [] s d rfl rfl fun a s => ?_)))
   exact ⟨_, (Option.some.inj u).symm, c421, p422, k423, Sv424, (s.wk rfl), (d.ft [0, 1] [0, 1] (by decide) rfl rfl)⟩
  refine wp_exit (then_exit (then_exit (blk_exit ?_)))
  have u := oi u
  subst u
  have h461 := hd258 _ rfl
  subst h461
  exact then_normal ⟨c182, p183, k184, Sv185, (s.wk rfl), (d.ft [0] [0] (by decide) rfl rfl)⟩
 rintro a w ⟨c262, p263, k264, Sv265, s, d⟩
 refine then_normal (sz 2 [] s d rfl rfl fun a s => ?_)
 have u := oi u
 subst u
 exact wp_ret (ret1 s rfl (rv_tmp rfl) (d.ret ⟨p263, k264, c262, rfl, (d.outs [0] (by decide) rfl), (d.envAt 0 rfl)⟩))
abbrev compose_Covered_rd (w0 : World) (X : List Nat) (r : ((List Span) × Int)) : Rd := fun S w v => ∃ p0_0 k0_0 c0_0, v = .tuple #[.slice p0_0 r.1.length k0_0, .int .i64 r.2] ∧ Outs X w0 S w [.row p0_0 r.1.length k0_0 c0_0 71 2] ∧ (RowA c0_0 r.1).p S w
theorem compose_Covered_ok {w0 S0 p2 k3 l1 r} (u : compose_Covered l1 = some r) (hS : Dm S0 w0) (h4 : (SlA p2 l1.length k3 l1).p S0 w0) : Calls Tryz.prog 49 #[.slice p2 l1.length k3] w0 (Ret ([]) w0 S0 (compose_Covered_rd w0 ([]) r)) := by
 refine en 24 Tryz.func49 rfl hS rfl rfl rfl fun a s d => ?_
 have d := d.addE h4
 delta compose_Covered at u
 refine sz 2 [] s d rfl rfl fun a s => ?_
 refine wp_seq (sn 1 [] s d rfl rfl fun a s => ?_)
 obtain ⟨rv6, h5, u⟩ := bind_t u
 refine st_callR s (compose_Valid_ok h5 d.bdom (d.bE 0 rfl)) (do_call Tryz.call86 rfl) trivial rfl rfl ?_
 rintro v10 Sv7 w a h8 rfl s
 have d := d.callB h8
 refine rz 1 [] s d rfl rfl fun a s => ?_
 refine cd s u rfl (fun u => ?_) fun u => ?_
 ·refine sz 2 [] s d rfl rfl fun a s => ?_
  have u := oi u
  subst u
  have d := d.nilRow Span 71
  exact wp_ret (then_ret (ret2 s rfl (rv_tmp rfl) (rv_tmp rfl) (d.ret ⟨none, 0, [], rfl, (d.outs [0] (by decide) rfl), (d.envAt 0 rfl)⟩)))
 refine wp_skip (then_normal (sz 1 [] s d rfl rfl fun a s => ?_))
 refine wp_seq (sz 3 [] s d rfl rfl fun a s => ?_)
 obtain ⟨e125, h209, u⟩ := bind_t u
 refine wp_join (fun a w => ∃ c126 p127 k128 Sv129, Sl 24 [(4, .slice p127 e125.length k128)] a ∧ Wd ⟨w0, S0, []⟩ Sv129 [.row p127 e125.length k128 c126 71 2] [RowA c126 e125] w) ?_ ?_
 ·refine wp_block ?_
  have d := d.nilRow Span 71
  refine wp_while (fun sv14 a w => ∃ c85 p86 k87 Sv88, Sl 24 [(4, .slice p86 sv14.1.length k87), (10, .slice p2 l1.length k3), (11, .int .i64 (l1.length : Int)), (12, .int .i64 sv14.2)] a ∧ Wd ⟨w0, S0, []⟩ Sv88 [.row p86 sv14.1.length k87 c85 71 2] [SlA p2 l1.length k3 l1, RowA c85 sv14.1] w) (([] : List Span), 0) h209 ⟨[], none, 0, S0, (s.wk rfl), (d.ft [0] [1, 0] (by decide) rfl rfl)⟩ ?_
  clear h209
  repeat clear u
  rintro sv14 a w tv123 ⟨c85, p86, k87, Sv88, s, d⟩ u hd122
  delta compose_Covered_l1 at u
  refine sz 1 [] s d rfl rfl fun a s => ?_
  refine wp_seq (cd s u rfl (fun u => ?_) fun u => ?_)
  ·refine wp_skip (then_normal (wp_seq (wp_block (sr ?_))))
   obtain ⟨x166, h164, u⟩ := bind_t u
   obtain ⟨b172, o173, q170, c171, h174, h167, h168, h169, h165⟩ := d.elemV 0 rfl h164
   have hsv175 := s
   have hwv176 := d
   subst h174
   have s := hsv175
   have d := hwv176
   obtain ⟨_, _, _, _, _, _, _, _, _, _, _, _, rfl, rfl, rfl, rfl, rfl, rfl, rfl, rfl, rfl, rfl, rfl, rfl, ⟨p177, n178, k179, rfl, h180⟩⟩ := h165
   obtain rfl := h180.1
   have d := (d.addE (e := SlA p177 _ k179 x166.Samples) h180).addE h169
   refine sv s (y_indexAt Tryz.runUnderlying28 Tryz.sizeOf56 rfl rfl h167.1 h167.2 h168) rfl fun a s => ?_
   refine sv s (y_loadEA (j := 0) (d.ceAt 0 rfl) rfl Tryz.isAgg56 Tryz.sizeOf56 rfl rfl) rfl fun a s => ?_
   refine w_alloc (cs := Z0) s d Tryz.zeroValue56 rfl rfl trivial ?_
   intro b181 a w s d
   refine w_store (m := 12) (cs' := (C56 x166 p177 k179)) s d 0 rfl rfl rfl Tryz.sizeOf56 rfl rfl rfl rfl trivial ?_
   intro a w s d
   refine nl (wp_region_lit (rn 2 [0] s d rfl rfl fun a s => ?_))
   obtain ⟨rv183, h182, u⟩ := bind_t u
   refine st_callR s (compose_extent_ok h182 d.bdom (d.bE 1 rfl)) (do_call Tryz.call87 rfl) trivial rfl rfl ?_
   rintro v187 Sv184 w a h185 rfl s
   have d := d.callB h185
   refine w_litSlice (α := Span) (vs := [V71 rv183]) (cs := (C71 rv183)) (xs := ([rv183] : List Span)) s d El30 rfl rfl rfl rfl rfl rfl ⟨⟨_, _, rfl, rfl, rfl⟩, rfl⟩ rfl trivial rfl fun b190 a w s d => ?_
   obtain ⟨l192, h191, u⟩ := bind_t u
   refine w_appendR (α := Span) s d El30 2 rfl rfl rfl 4 rfl 0 rfl 0 rfl h191 rfl trivial ?_
   intro p193 k194 c195 a w s d
   refine av s rfl rfl fun a s => ?_
   refine wpList_nil ?_
   refine blk_normal (then_normal (wp_region_lit (rz 2 [] s d rfl rfl fun a s => ?_)))
   exact ⟨_, (Option.some.inj u).symm, c195, p193, k194, Sv88, (s.wk rfl), (d.ft [2] [4, 0] (by decide) rfl rfl)⟩
  refine wp_exit (then_exit (then_exit (blk_exit ?_)))
  have u := oi u
  subst u
  have h196 := hd122 _ rfl
  subst h196
  exact then_normal ⟨c85, p86, k87, Sv88, (s.wk rfl), (d.ft [0] [1] (by decide) rfl rfl)⟩
 rintro a w ⟨c126, p127, k128, Sv129, s, d⟩
 refine then_normal (sn 1 [] s d rfl rfl fun a s => ?_)
 obtain ⟨rv198, h197, u⟩ := bind_t u
 obtain ⟨Sv203, d⟩ := w_share (α := Span) d 0 rfl 0 rfl
 refine st_callR s (span_Normal_ok h197 d.dom (d.envAt 0 rfl)) (do_call Tryz.call88 rfl) trivial rfl rfl ?_
 rintro v207 Sv204 w a h205 ⟨p199, k200, c202, rfl, h208, h201⟩ s
 have d := (d.callN h205 h208).addE (e := RowA c202 rv198) h201
 refine rz 2 [] s d rfl rfl fun a s => ?_
 have u := oi u
 subst u
 exact wp_ret (ret2 s rfl (rv_tmp rfl) (rv_tmp rfl) (d.ret ⟨p199, k200, c202, rfl, (d.outs [0] (by decide) rfl), (d.envAt 0 rfl)⟩))
theorem span_Minus_ok {w0 S0 p2 k3 p6 k7 a1 b5 r} (u : span_Minus a1 b5 = some r) (hS : Dm S0 w0) (h4 : (SlA p2 a1.length k3 a1).p S0 w0) (h8 : (SlA p6 b5.length k7 b5).p S0 w0) : Calls Tryz.prog 50 #[.slice p2 a1.length k3, .slice p6 b5.length k7] w0 (Ret ([]) w0 S0 (slices_Clone_Lapi_Span_api_Span_rd w0 ([]) r)) := by
 refine en 68 Tryz.func50 rfl hS rfl rfl rfl fun a s d => ?_
 have d := (d.addE h4).addE h8
 delta span_Minus at u
 refine sz 1 [] s d rfl rfl fun a s => ?_
 refine sn 1 [] s d rfl rfl fun a s => ?_
 obtain ⟨rv10, h9, u⟩ := bind_t u
 refine st_callR s (span_Normal_ok h9 d.dom (d.envAt 0 rfl)) (do_call Tryz.call88 rfl) trivial rfl rfl ?_
 rintro v18 Sv15 w a h16 ⟨p11, k12, c14, rfl, h19, h13⟩ s
 have d := (d.callN h16 h19).addE (e := RowA c14 rv10) h13
 refine rz 1 [] s d rfl rfl fun a s => ?_
 refine sz 1 [] s d rfl rfl fun a s => ?_
 refine wp_seq (sn 1 [] s d rfl rfl fun a s => ?_)
 obtain ⟨rv21, h20, u⟩ := bind_t u
 refine st_callR s (span_Normal_ok h20 d.dom (d.envAt 2 rfl)) (do_call Tryz.call88 rfl) trivial rfl rfl ?_
 rintro v29 Sv26 w a h27 ⟨p22, k23, c25, rfl, h30, h24⟩ s
 have d := (d.callN h27 h30).addE (e := RowA c25 rv21) h24
 refine rz 2 [] s d rfl rfl fun a s => ?_
 obtain ⟨e520, h933, u⟩ := bind_t u
 refine wp_join (fun a w => ∃ c521 p522 k523 Sv524, Sl 68 [(5, .slice p522 e520.length k523)] a ∧ Wd ⟨w0, S0, []⟩ Sv524 [.row p522 e520.length k523 c521 71 2] [RowA c521 e520] w) ?_ ?_
 ·refine wp_block ?_
  have d := d.nilRow Span 71
  refine wp_while (fun sv31 a w => ∃ c354 p355 k356 Sv357, Sl 68 [(1, .slice p11 rv10.length k12), (5, .slice p355 sv31.1.length k356), (14, .slice p22 rv21.length k23), (15, .int .i64 (rv21.length : Int)), (16, .int .i64 sv31.2)] a ∧ Wd ⟨w0, S0, []⟩ Sv357 [.row p11 rv10.length k12 c14 71 2, .row p355 sv31.1.length k356 c354 71 2, .row p22 rv21.length k23 c25 71 2] [RowA c14 rv10, RowA c354 sv31.1, RowA c25 rv21] w) (([] : List Span), 0) h933 ⟨[], none, 0, Sv26, (s.wk rfl), (d.ft [2, 0, 1] [2, 0, 1] (by decide) rfl rfl)⟩ ?_
  clear h933
  repeat clear u
  rintro sv31 a w tv518 ⟨c354, p355, k356, Sv357, s, d⟩ u hd517
  delta span_Minus_l3 at u
  refine sz 1 [] s d rfl rfl fun a s => ?_
  refine wp_seq (cd s u rfl (fun u => ?_) fun u => ?_)
  ·refine wp_skip (then_normal (wp_seq (wp_block (sr ?_))))
   obtain ⟨x687, h685, u⟩ := bind_t u
   obtain ⟨b694, q691, c692, h695, h688, h689, h693, h686⟩ := d.elemRV (α := Span) 2 rfl 2 rfl h685
   have hsv696 := s
   have hwv697 := d
   subst h695
   have s := hsv696
   have d := hwv697
   obtain ⟨_, _, rfl, rfl, rfl⟩ := h686
   refine sv s (y_indexAt Tryz.runUnderlying30 Tryz.sizeOf71 rfl rfl h688.1 h688.2 h689) rfl fun a s => ?_
   refine sv s (y_loadQA (j := 0) (d.ownAt 2 rfl) rfl Tryz.isAgg71 Tryz.sizeOf71 h693 rfl rfl) rfl fun a s => ?_
   refine w_alloc (cs := [.int .i64 0, .int .i64 0]) s d Tryz.zeroValue71 rfl rfl trivial ?_
   intro b698 a w s d
   refine w_store (m := 2) (cs' := (C71 x687)) s d 0 rfl rfl rfl Tryz.sizeOf71 rfl rfl rfl rfl trivial ?_
   intro a w s d
   refine nl (sz 3 [0] s d rfl rfl fun a s => ?_)
   refine wp_seq (sz 3 [] s d rfl rfl fun a s => ?_)
   obtain ⟨e825, h931, u⟩ := bind_t u
   refine wp_join (fun a w => ∃ c826 p827 k828 Sv829, Sl 68 [(1, .slice p11 rv10.length k12), (5, .slice p827 e825.1.length k828), (7, .pointer (some ⟨b698, 0, none⟩)), (8, .int .i64 e825.2), (14, .slice (some ⟨b694, 0, none⟩) rv21.length k23), (15, .int .i64 (rv21.length : Int)), (16, .int .i64 sv31.2)] a ∧ Wd ⟨w0, S0, []⟩ Sv829 [.box b698 (C71 x687) 71, .row p11 rv10.length k12 c14 71 2, .row p827 e825.1.length k828 c826 71 2, .row (some ⟨b694, 0, none⟩) rv21.length k23 c25 71 2] [RowA c14 rv10, RowA c826 e825.1, RowA c25 rv21] w) ?_ ?_
   ·refine wp_block (wp_while (fun sv699 a w => ∃ c780 p781 k782 Sv783, Sl 68 [(1, .slice p11 rv10.length k12), (5, .slice p781 sv699.1.length k782), (7, .pointer (some ⟨b698, 0, none⟩)), (8, .int .i64 sv699.2.1), (14, .slice (some ⟨b694, 0, none⟩) rv21.length k23), (15, .int .i64 (rv21.length : Int)), (16, .int .i64 sv31.2), (22, .slice p11 rv10.length k12), (23, .int .i64 (rv10.length : Int)), (24, .int .i64 sv699.2.2)] a ∧ Wd ⟨w0, S0, []⟩ Sv783 [.box b698 (C71 x687) 71, .row p11 rv10.length k12 c14 71 2, .row p781 sv699.1.length k782 c780 71 2, .row (some ⟨b694, 0, none⟩) rv21.length k23 c25 71 2] [RowA c14 rv10, RowA c780 sv699.1, RowA c25 rv21] w) (sv31.1, x687.From, 0) h931 ⟨c354, p355, k356, Sv357, (s.wk rfl), (d.ft [0, 1, 2, 3] [0, 1, 2] (by decide) rfl rfl)⟩ ?_)
    clear h931
    repeat clear u
    rintro sv699 a w tv823 ⟨c780, p781, k782, Sv783, s, d⟩ u hd822
    delta span_Minus_l6 at u
    refine sz 1 [] s d rfl rfl fun a s => ?_
    refine wp_seq (cd s u rfl (fun u => ?_) fun u => ?_)
    ·refine wp_skip (then_normal (wp_seq (wp_join (fun a w => ∃ (out867 : (List Span)) (atv868 : Int) (c863 p864 k865 Sv866 : _), span_Minus_j1 sv699 out867 atv868 = some tv823 ∧ Sl 68 [(1, .slice p11 rv10.length k12), (5, .slice p864 out867.length k865), (7, .pointer (some ⟨b698, 0, none⟩)), (8, .int .i64 atv868), (14, .slice (some ⟨b694, 0, none⟩) rv21.length k23), (15, .int .i64 (rv21.length : Int)), (16, .int .i64 sv31.2), (22, .slice p11 rv10.length k12), (23, .int .i64 (rv10.length : Int)), (24, .int .i64 sv699.2.2)] a ∧ Wd ⟨w0, S0, []⟩ Sv866 [.box b698 (C71 x687) 71, .row p11 rv10.length k12 c14 71 2, .row p864 out867.length k865 c863 71 2, .row (some ⟨b694, 0, none⟩) rv21.length k23 c25 71 2] [RowA c14 rv10, RowA c863 out867, RowA c25 rv21] w) ?_ ?_)))
     ·refine wp_block (sr ?_)
      obtain ⟨x871, h869, u⟩ := bind_t u
      obtain ⟨b878, q875, c876, h879, h872, h873, h877, h870⟩ := d.elemRV (α := Span) 1 rfl 0 rfl h869
      have hsv880 := s
      have hwv881 := d
      subst h879
      have s := hsv880
      have d := hwv881
      obtain ⟨_, _, rfl, rfl, rfl⟩ := h870
      refine sv s (y_indexAt Tryz.runUnderlying30 Tryz.sizeOf71 rfl rfl h872.1 h872.2 h873) rfl fun a s => ?_
      refine sv s (y_loadQA (j := 0) (d.ownAt 1 rfl) rfl Tryz.isAgg71 Tryz.sizeOf71 h877 rfl rfl) rfl fun a s => ?_
      refine w_alloc (cs := [.int .i64 0, .int .i64 0]) s d Tryz.zeroValue71 rfl rfl trivial ?_
      intro b882 a w s d
      refine w_store (m := 2) (cs' := (C71 x871)) s d 0 rfl rfl rfl Tryz.sizeOf71 rfl rfl rfl rfl trivial ?_
      intro a w s d
      refine nl (wp_seq (sn 5 [0] s d rfl rfl fun a s => ?_))
      refine rO 6 32 [0, 1] s d rfl rfl rfl rfl rfl fun a s => ?_
      refine nl (cd s u rfl (fun u => ?_) fun u => ?_)
      ·exact wp_exit (then_exit (blk_exit (then_normal ⟨sv699.1, sv699.2.1, c780, p781, k782, Sv783, u, (s.wk rfl), (d.ft [1, 2, 3, 4] [0, 1, 2] (by decide) rfl rfl)⟩)))
      refine wp_skip (then_normal (wp_seq (sz 4 [0] s d rfl rfl fun a s => ?_)))
      refine wp_join (fun a w => ∃ (out898 : (List Span)) (c894 p895 k896 Sv897 : _), span_Minus_j2 sv699 x871 out898 = some tv823 ∧ Sl 68 [(1, .slice (some ⟨b878, 0, none⟩) rv10.length k12), (5, .slice p895 out898.length k896), (7, .pointer (some ⟨b698, 0, none⟩)), (8, .int .i64 sv699.2.1), (10, .pointer (some ⟨b882, 0, none⟩)), (14, .slice (some ⟨b694, 0, none⟩) rv21.length k23), (15, .int .i64 (rv21.length : Int)), (16, .int .i64 sv31.2), (22, .slice (some ⟨b878, 0, none⟩) rv10.length k12), (23, .int .i64 (rv10.length : Int)), (24, .int .i64 sv699.2.2)] a ∧ Wd ⟨w0, S0, []⟩ Sv897 [.box b698 (C71 x687) 71, .box b882 (C71 x871) 71, .row (some ⟨b878, 0, none⟩) rv10.length k12 c14 71 2, .row p895 out898.length k896 c894 71 2, .row (some ⟨b694, 0, none⟩) rv21.length k23 c25 71 2] [RowA c14 rv10, RowA c894 out898, RowA c25 rv21] w) ?_ ?_
      ·refine cd s u rfl (fun u => ?_) fun u => ?_
       ·refine wp_region_lit (rn 4 [0] s d rfl rfl fun a s => ?_)
        refine sv s (y_build (vs := [(0, .int .i64 sv699.2.1), (1, .int .i64 x871.From)]) Bld71 rfl rfl) rfl fun a s => ?_
        refine w_litSlice (α := Span) (vs := [.agg #[.int .i64 sv699.2.1, .int .i64 x871.From]]) (cs := [.int .i64 sv699.2.1, .int .i64 x871.From]) (xs := ([(⟨sv699.2.1, x871.From⟩ : Span)] : List Span)) s d El30 rfl rfl rfl rfl rfl rfl ⟨⟨_, _, rfl, rfl, rfl⟩, rfl⟩ rfl trivial rfl fun b903 a w s d => ?_
        obtain ⟨l905, h904, u⟩ := bind_t u
        refine w_appendR (α := Span) s d El30 4 rfl rfl rfl 2 rfl 0 rfl 0 rfl h904 rfl trivial ?_
        intro p906 k907 c908 a w s d
        refine rz 1 [] s d rfl rfl fun a s => ?_
        exact ⟨l905, c908, p906, k907, Sv783, u, (s.wk rfl), (d.ft [2, 1, 3, 4, 5] [2, 0, 4] (by decide) rfl rfl)⟩
       exact wp_skip (then_normal ⟨sv699.1, c780, p781, k782, Sv783, u, (s.wk rfl), (d.ft [1, 0, 2, 3, 4] [0, 1, 2] (by decide) rfl rfl)⟩)
      rintro a w ⟨out898, c894, p895, k896, Sv897, u, s, d⟩
      delta span_Minus_j2 at u
      refine then_normal (wp_region_lit (rn 4 [1] s d rfl rfl fun a s => ?_))
      obtain ⟨atv900, h899, u⟩ := bind_t u
      refine sv s (y_assignI rfl h899) rfl fun a s => ?_
      refine wpList_nil ?_
      exact blk_normal (then_normal ⟨out898, atv900, c894, p895, k896, Sv897, u, (s.wk rfl), (d.ft [0, 2, 3, 4] [0, 1, 2] (by decide) rfl rfl)⟩)
     rintro a w ⟨out867, atv868, c863, p864, k865, Sv866, u, s, d⟩
     delta span_Minus_j1 at u
     refine then_normal (wp_region_lit (rz 2 [] s d rfl rfl fun a s => ?_))
     exact ⟨_, (Option.some.inj u).symm, c863, p864, k865, Sv866, (s.wk rfl), (d.ft [0, 1, 2, 3] [0, 1, 2] (by decide) rfl rfl)⟩
    refine wp_exit (then_exit (then_exit (blk_exit ?_)))
    have u := oi u
    subst u
    have h909 := hd822 _ rfl
    subst h909
    exact then_normal ⟨c780, p781, k782, Sv783, (s.wk rfl), (d.ft [0, 1, 2, 3] [0, 1, 2] (by decide) rfl rfl)⟩
   rintro a w ⟨c826, p827, k828, Sv829, s, d⟩
   refine then_normal (sz 4 [0] s d rfl rfl fun a s => ?_)
   refine wp_join (fun a w => ∃ (out922 : (List Span)) (c918 p919 k920 Sv921 : _), span_Minus_j4 sv31 out922 = some tv518 ∧ Sl 68 [(1, .slice p11 rv10.length k12), (5, .slice p919 out922.length k920), (14, .slice (some ⟨b694, 0, none⟩) rv21.length k23), (15, .int .i64 (rv21.length : Int)), (16, .int .i64 sv31.2)] a ∧ Wd ⟨w0, S0, []⟩ Sv921 [.row p11 rv10.length k12 c14 71 2, .row p919 out922.length k920 c918 71 2, .row (some ⟨b694, 0, none⟩) rv21.length k23 c25 71 2] [RowA c14 rv10, RowA c918 out922, RowA c25 rv21] w) ?_ ?_
   ·refine cd s u rfl (fun u => ?_) fun u => ?_
    ·refine wp_region_lit (rn 4 [0] s d rfl rfl fun a s => ?_)
     refine sv s (y_build (vs := [(0, .int .i64 e825.2), (1, .int .i64 x687.To)]) Bld71 rfl rfl) rfl fun a s => ?_
     refine w_litSlice (α := Span) (vs := [.agg #[.int .i64 e825.2, .int .i64 x687.To]]) (cs := [.int .i64 e825.2, .int .i64 x687.To]) (xs := ([(⟨e825.2, x687.To⟩ : Span)] : List Span)) s d El30 rfl rfl rfl rfl rfl rfl ⟨⟨_, _, rfl, rfl, rfl⟩, rfl⟩ rfl trivial rfl fun b925 a w s d => ?_
     obtain ⟨l927, h926, u⟩ := bind_t u
     refine w_appendR (α := Span) s d El30 3 rfl rfl rfl 2 rfl 0 rfl 0 rfl h926 rfl trivial ?_
     intro p928 k929 c930 a w s d
     refine rz 1 [] s d rfl rfl fun a s => ?_
     exact ⟨l927, c930, p928, k929, Sv829, u, (s.wk rfl), (d.ft [2, 3, 4] [2, 0, 4] (by decide) rfl rfl)⟩
    exact wp_skip (then_normal ⟨e825.1, c826, p827, k828, Sv829, u, (s.wk rfl), (d.ft [1, 2, 3] [0, 1, 2] (by decide) rfl rfl)⟩)
   rintro a w ⟨out922, c918, p919, k920, Sv921, u, s, d⟩
   delta span_Minus_j4 at u
   refine blk_normal (then_normal (wp_region_lit (rz 2 [] s d rfl rfl fun a s => ?_)))
   exact ⟨_, (Option.some.inj u).symm, c918, p919, k920, Sv921, (s.wk rfl), (d.ft [0, 1, 2] [0, 1, 2] (by decide) rfl rfl)⟩
  refine wp_exit (then_exit (then_exit (blk_exit ?_)))
  have u := oi u
  subst u
  have h932 := hd517 _ rfl
  subst h932
  exact then_normal ⟨c354, p355, k356, Sv357, (s.wk rfl), (d.ft [1] [1] (by decide) rfl rfl)⟩
 rintro a w ⟨c521, p522, k523, Sv524, s, d⟩
 refine then_normal (sz 2 [] s d rfl rfl fun a s => ?_)
 have u := oi u
 subst u
 exact wp_ret (ret1 s rfl (rv_tmp rfl) (d.ret ⟨p522, k523, c521, rfl, (d.outs [0] (by decide) rfl), (d.envAt 0 rfl)⟩))
theorem continuity_Gaps_ok {w0 S0 p2 k3 l1 from5 to6 r} (u : continuity_Gaps l1 from5 to6 = some r) (hS : Dm S0 w0) (h4 : (SlA p2 l1.length k3 l1).p S0 w0) : Calls Tryz.prog 13 #[.slice p2 l1.length k3, .int .i64 from5, .int .i64 to6] w0 (Ret ([]) w0 S0 (compose_Covered_rd w0 ([]) r)) := by
 refine en 29 Tryz.func13 rfl hS rfl rfl rfl fun a s d => ?_
 have d := d.addE h4
 delta continuity_Gaps at u
 refine sz 2 [] s d rfl rfl fun a s => ?_
 refine wp_seq (sn 3 [] s d rfl rfl fun a s => ?_)
 obtain ⟨rv8, h7, u⟩ := bind_t u
 refine st_callR s (continuity_check_ok h7 d.bdom (d.bE 0 rfl)) (do_call Tryz.call48 rfl) trivial rfl rfl ?_
 rintro v12 Sv9 w a h10 rfl s
 have d := d.callB h10
 refine rz 1 [] s d rfl rfl fun a s => ?_
 refine sz 2 [] s d rfl rfl fun a s => ?_
 refine cd s u rfl (fun u => ?_) fun u => ?_
 ·refine sz 3 [] s d rfl rfl fun a s => ?_
  have u := oi u
  subst u
  have d := d.nilRow Span 71
  exact wp_ret (then_ret (ret2 s rfl (rv_tmp rfl) (rv_tmp rfl) (d.ret ⟨none, 0, [], rfl, (d.outs [0] (by decide) rfl), (d.envAt 0 rfl)⟩)))
 refine wp_skip (then_normal (sn 1 [] s d rfl rfl fun a s => ?_))
 obtain ⟨rv17, h16, u⟩ := bind_t u
 refine st_callR s (compose_Covered_ok h16 d.dom (d.envAt 0 rfl)) (do_call Tryz.call49 rfl) trivial rfl rfl ?_
 rintro v25 Sv22 w a h23 ⟨p18, k19, c21, rfl, h26, h20⟩ s
 have d := (d.callN h23 h26).addE (e := RowA c21 rv17.1) h20
 refine rz 5 [] s d rfl rfl fun a s => ?_
 refine sn 2 [] s d rfl rfl fun a s => ?_
 refine sv s (y_build (vs := [(0, .int .i64 from5), (1, .int .i64 to6)]) Bld71 rfl rfl) rfl fun a s => ?_
 refine w_litSlice (α := Span) (vs := [.agg #[.int .i64 from5, .int .i64 to6]]) (cs := [.int .i64 from5, .int .i64 to6]) (xs := ([(⟨from5, to6⟩ : Span)] : List Span)) s d El30 rfl rfl rfl rfl rfl rfl ⟨⟨_, _, rfl, rfl, rfl⟩, rfl⟩ rfl trivial rfl fun b28 a w s d => ?_
 refine mv s rfl rfl fun a s => ?_
 obtain ⟨rv30, h29, u⟩ := bind_t u
 obtain ⟨Sv35, d⟩ := w_share (α := Span) d 0 rfl 0 rfl
 obtain ⟨Sv36, d⟩ := w_share (α := Span) d 0 rfl 2 rfl
 refine st_callR s (span_Minus_ok h29 d.dom (d.envAt 1 rfl) (d.envAt 0 rfl)) (do_call Tryz.call50 rfl) trivial rfl rfl ?_
 rintro v40 Sv37 w a h38 ⟨p31, k32, c34, rfl, h41, h33⟩ s
 have d := (d.callN h38 h41).addE (e := RowA c34 rv30) h33
 refine rz 2 [] s d rfl rfl fun a s => ?_
 have u := oi u
 subst u
 exact wp_ret (ret2 s rfl (rv_tmp rfl) (rv_tmp rfl) (d.ret ⟨p31, k32, c34, rfl, (d.outs [0] (by decide) rfl), (d.envAt 0 rfl)⟩))
abbrev slices_Clone_Lapi_Record_api_Record_rd (w0 : World) (X : List Nat) (r : (List Record)) : Rd := fun S w v => ∃ p0_0 k0_0 c0_0, v = .slice p0_0 r.length k0_0 ∧ Outs X w0 S w [.row p0_0 r.length k0_0 c0_0 56 12] ∧ (RowA c0_0 r).p S w
theorem slices_Clone_Lapi_Record_api_Record_ok {w0 S0 p2 k3 s1 r} (u : slices_Clone_Lapi_Record_api_Record s1 = some r) (hS : Dm S0 w0) (h4 : (SlA p2 s1.length k3 s1).p S0 w0) : Calls Tryz.prog 124 #[.slice p2 s1.length k3] w0 (Ret ([]) w0 S0 (slices_Clone_Lapi_Record_api_Record_rd w0 ([]) r)) := by
 refine en 8 Tryz.func124 rfl hS rfl rfl rfl fun a s d => ?_
 have d := d.addE h4
 delta slices_Clone_Lapi_Record_api_Record at u
 refine sz 1 [] s d rfl rfl fun a s => ?_
 refine wp_seq (sn 1 [] s d rfl rfl fun a s => ?_)
 refine sv s (y_eqlN Tryz.runUnderlying28 rfl rfl) rfl fun a s => ?_
 refine nl ?_
 have hsv15 := s
 have hwv16 := d
 rcases p2 with _ | av8
 ·have s := hsv15
  have d := hwv16
  obtain rfl := slnil (d.envAt 0 rfl)
  have u : some ([] : List Record) = some r := by simpa [appM, maxLen] using u
  refine wp_cond_true (s.ev rfl) ?_
  refine sz 1 [] s d rfl rfl fun a s => ?_
  have u := oi u
  subst u
  have d := d.nilRow Record 56
  exact wp_ret (then_ret (ret1 s rfl (rv_tmp rfl) (d.ret ⟨none, 0, [], rfl, (d.outs [0] (by decide) rfl), (d.envAt 0 rfl)⟩)))
 have s := hsv15
 have d := hwv16
 refine wp_cond_false (s.ev rfl) ?_
 refine wp_skip (then_normal (sr (w_buildSlice (α := Record) (vs := []) (cs := []) (xs := ([] : List Record)) s d El28 rfl rfl rfl rfl rfl rfl rfl rfl trivial fun p9 a w s d => ?_)))
 refine mv s rfl rfl fun a s => ?_
 obtain ⟨l11, h10, u⟩ := bind_t u
 refine w_appendE (α := Record) s d El28 0 rfl rfl rfl 0 rfl 1 rfl h10 rfl trivial ?_
 intro p12 k13 c14 a w s d
 refine rz 1 [] s d rfl rfl fun a s => ?_
 have u := oi u
 subst u
 exact wp_ret (ret1 s rfl (rv_tmp rfl) (d.ret ⟨p12, k13, c14, rfl, (d.outs [0] (by decide) rfl), (d.envAt 0 rfl)⟩))
abbrev slices_Clone_Lint_int_rd (w0 : World) (X : List Nat) (r : (List Int)) : Rd := fun S w v => ∃ p0_0 k0_0 c0_0, v = .slice p0_0 r.length k0_0 ∧ Outs X w0 S w [.row p0_0 r.length k0_0 c0_0 3 1] ∧ (RowA c0_0 r).p S w
theorem slices_Clone_Lint_int_ok {w0 S0 p2 k3 s1 r} (u : slices_Clone_Lint_int s1 = some r) (hS : Dm S0 w0) (h4 : (SlA p2 s1.length k3 s1).p S0 w0) : Calls Tryz.prog 66 #[.slice p2 s1.length k3] w0 (Ret ([]) w0 S0 (slices_Clone_Lint_int_rd w0 ([]) r)) := by
 refine en 8 Tryz.func66 rfl hS rfl rfl rfl fun a s d => ?_
 have d := d.addE h4
 delta slices_Clone_Lint_int at u
 refine sz 1 [] s d rfl rfl fun a s => ?_
 refine wp_seq (sn 1 [] s d rfl rfl fun a s => ?_)
 refine sv s (y_eqlN Tryz.runUnderlying22 rfl rfl) rfl fun a s => ?_
 refine nl ?_
 have hsv15 := s
 have hwv16 := d
 rcases p2 with _ | av8
 ·have s := hsv15
  have d := hwv16
  obtain rfl := slnil (d.envAt 0 rfl)
  have u : some ([] : List Int) = some r := by simpa [appM, maxLen] using u
  refine wp_cond_true (s.ev rfl) ?_
  refine sz 1 [] s d rfl rfl fun a s => ?_
  have u := oi u
  subst u
  have d := d.nilRow Int 3
  exact wp_ret (then_ret (ret1 s rfl (rv_tmp rfl) (d.ret ⟨none, 0, [], rfl, (d.outs [0] (by decide) rfl), (d.envAt 0 rfl)⟩)))
 have s := hsv15
 have d := hwv16
 refine wp_cond_false (s.ev rfl) ?_
 refine wp_skip (then_normal (sr (w_buildSlice (α := Int) (vs := []) (cs := []) (xs := ([] : List Int)) s d El22 rfl rfl rfl rfl rfl rfl rfl rfl trivial fun p9 a w s d => ?_)))
 refine mv s rfl rfl fun a s => ?_
 obtain ⟨l11, h10, u⟩ := bind_t u
 refine w_appendE (α := Int) s d El22 0 rfl rfl rfl 0 rfl 1 rfl h10 rfl trivial ?_
 intro p12 k13 c14 a w s d
 refine rz 1 [] s d rfl rfl fun a s => ?_
 have u := oi u
 subst u
 exact wp_ret (ret1 s rfl (rv_tmp rfl) (d.ret ⟨p12, k13, c14, rfl, (d.outs [0] (by decide) rfl), (d.envAt 0 rfl)⟩))
end Go.Proofs.YtdcafiefjakfeaaGreat.Wk
namespace Go.Proofs
open Go Go.Shelf Go.RowKit Go.Lib Go.Sort
def Tryz.sort125_ren : Go.Shelf.Ren := ⟨fun | 6 => 125 | 15 => 130 | 14 => 152 | 28 => 167 | 29 => 168 | 20 => 185 | 21 => 186 | 22 => 187 | 23 => 188 | 24 => 189 | 25 => 190 | 26 => 191 | 27 => 192 | 46 => 202 | 47 => 195 | 48 => 196 | 49 => 203 | 50 => 204 | 57 => 208 | n => n, fun | 22 => 28 | 24 => 56 | 25 => 127 | 3 => 3 | 39 => 146 | 0 => 0 | 53 => 172 | 55 => 174 | 4 => 4 | 46 => 166 | 45 => 165 | 50 => 44 | 5 => 5 | 9 => 9 | 66 => 191 | 70 => 195 | 76 => 202 | 77 => 203 | n => n, fun | n => n⟩
theorem Tryz.sort125 : Go.Proofs.SlLaysF0.n6 Tryz.prog Tryz.sort125_ren where
  mixed := by kernel_rfl
  f6 := ⟨Tryz.f125.name, by decide, Tryz.func125.trans (congrArg some (by kernel_rfl))⟩
  f14 := ⟨Tryz.f152.name, by decide, Tryz.func152.trans (congrArg some (by kernel_rfl))⟩
  f15 := Tryz.func130.trans (congrArg some (by kernel_rfl))
  f20 := ⟨Tryz.f185.name, by decide, Tryz.func185.trans (congrArg some (by kernel_rfl))⟩
  f21 := ⟨Tryz.f186.name, by decide, Tryz.func186.trans (congrArg some (by kernel_rfl))⟩
  f22 := ⟨Tryz.f187.name, by decide, Tryz.func187.trans (congrArg some (by kernel_rfl))⟩
  f23 := ⟨Tryz.f188.name, by decide, Tryz.func188.trans (congrArg some (by kernel_rfl))⟩
  f24 := ⟨Tryz.f189.name, by decide, Tryz.func189.trans (congrArg some (by kernel_rfl))⟩
  f25 := ⟨Tryz.f190.name, by decide, Tryz.func190.trans (congrArg some (by kernel_rfl))⟩
  f26 := ⟨Tryz.f191.name, by decide, Tryz.func191.trans (congrArg some (by kernel_rfl))⟩
  f27 := ⟨Tryz.f192.name, by decide, Tryz.func192.trans (congrArg some (by kernel_rfl))⟩
  f28 := Tryz.func167.trans (congrArg some (by kernel_rfl))
  f29 := Tryz.func168.trans (congrArg some (by kernel_rfl))
  f46 := ⟨Tryz.f202.name, by decide, Tryz.func202.trans (congrArg some (by kernel_rfl))⟩
  f47 := Tryz.func195.trans (congrArg some (by kernel_rfl))
  f48 := Tryz.func196.trans (congrArg some (by kernel_rfl))
  f49 := ⟨Tryz.f203.name, by decide, Tryz.func203.trans (congrArg some (by kernel_rfl))⟩
  f50 := ⟨Tryz.f204.name, by decide, Tryz.func204.trans (congrArg some (by kernel_rfl))⟩
  f57 := ⟨Tryz.f208.name, by decide, Tryz.func208.trans (congrArg some (by kernel_rfl))⟩
  t0 := Tryz.underlying0
  a0 := Tryz.isAgg0
  z0 := Tryz.sizeOf0
  v0 := Tryz.zeroValue0
  t3 := Tryz.underlying3
  a3 := Tryz.isAgg3
  z3 := Tryz.sizeOf3
  v3 := Tryz.zeroValue3
  t4 := Tryz.underlying4
  a4 := Tryz.isAgg4
  z4 := Tryz.sizeOf4
  v4 := Tryz.zeroValue4
  t5 := Tryz.underlying5
  a5 := Tryz.isAgg5
  z5 := Tryz.sizeOf5
  v5 := Tryz.zeroValue5
  t9 := Tryz.underlying9
  a9 := Tryz.isAgg9
  z9 := Tryz.sizeOf9
  v9 := Tryz.zeroValue9
  t22 := Tryz.underlying28
  a22 := Tryz.isAgg28
  z22 := Tryz.sizeOf28
  v22 := Tryz.zeroValue28
  t25 := Tryz.underlying127
  a25 := Tryz.isAgg127
  z25 := Tryz.sizeOf127
  v25 := Tryz.zeroValue127
  t39 := Tryz.underlying146
  a39 := Tryz.isAgg146
  z39 := Tryz.sizeOf146
  v39 := Tryz.zeroValue146
  t45 := Tryz.underlying165
  a45 := Tryz.isAgg165
  z45 := Tryz.sizeOf165
  v45 := Tryz.zeroValue165
  t46 := Tryz.underlying166
  a46 := Tryz.isAgg166
  z46 := Tryz.sizeOf166
  v46 := Tryz.zeroValue166
  t50 := Tryz.underlying44
  a50 := Tryz.isAgg44
  z50 := Tryz.sizeOf44
  v50 := Tryz.zeroValue44
  t53 := Tryz.underlying172
  a53 := Tryz.isAgg172
  z53 := Tryz.sizeOf172
  v53 := Tryz.zeroValue172
  t55 := Tryz.underlying174
  a55 := Tryz.isAgg174
  z55 := Tryz.sizeOf174
  v55 := Tryz.zeroValue174
  t66 := Tryz.underlying191
  a66 := Tryz.isAgg191
  z66 := Tryz.sizeOf191
  v66 := Tryz.zeroValue191
  t70 := Tryz.underlying195
  a70 := Tryz.isAgg195
  z70 := Tryz.sizeOf195
  v70 := Tryz.zeroValue195
  t76 := Tryz.underlying202
  a76 := Tryz.isAgg202
  z76 := Tryz.sizeOf202
  v76 := Tryz.zeroValue202
  t77 := Tryz.underlying203
  a77 := Tryz.isAgg203
  z77 := Tryz.sizeOf203
  v77 := Tryz.zeroValue203
end Go.Proofs
namespace Go.Proofs.YtdcafiefjakfeaaGreat.Wk
open Go Go.RowKit Go.Proofs Go.Proofs.YtdcafiefjakfeaaGreat.Sh
set_option linter.unusedVariables false
set_option linter.unusedSimpArgs false
abbrev slices_SortFunc_Lapi_Record_api_Record_rd (w0 : World) (X : List Nat) (p2 : Option Addr) (k3 : Nat) (x1 : (List Record)) (r : (List Record)) : (Nat → Prop) → World → Value → Prop := fun S w v => ∃ ck_0, v = .tuple #[] ∧ Outs X w0 S w [.row p2 r.length k3 ck_0 56 12] ∧ (RowA ck_0 r).p S w ∧ (LenA x1.length r).p S w
theorem slices_SortFunc_Lapi_Record_api_Record_ok {w0 S0 p2 k3 c4 g7 cp9 x1} {cmp6 : Record → Record → Option Int} {r} (u : slices_SortFunc_Lapi_Record_api_Record x1 cmp6 = some r) (hS : Dm S0 w0) (hin : Ins S0 w0 [.row p2 x1.length k3 c4 56 12]) (h5 : (RowA c4 x1).p S0 w0) (h10 : (FnA2 Tryz.prog g7 [] cp9 cmp6).p S0 w0) : Calls Tryz.prog 125 #[.slice p2 x1.length k3, .func (.func g7) #[] cp9.toArray] w0 (Ret (blks [.row p2 x1.length k3 c4 56 12]) w0 S0 (slices_SortFunc_Lapi_Record_api_Record_rd w0 (blks [.row p2 x1.length k3 c4 56 12]) p2 k3 x1 r)) := by
 exact sort_tot (α := Record) (T := 56) Tryz.sort125 Tryz.isAgg56 Tryz.sizeOf56 (fun _ => rfl) (by decide) u hS hin h5 h10
theorem cmp_isNaN_string_ok {w0 S0 x1 r} (u : cmp_isNaN_string x1 = some r) (hS : Dm S0 w0) : Calls Tryz.prog 205 #[.string x1] w0 (Ret ([]) w0 S0 (made_Light_rd w0 ([]) r)) := by
 refine en 6 Tryz.func205 rfl hS rfl rfl rfl fun a s d => ?_
 delta cmp_isNaN_string at u
 refine sz 1 [] s d rfl rfl fun a s => ?_
 refine sn 2 [] s d rfl rfl fun a s => ?_
 refine sv s (y_neqS rfl rfl) rfl fun a s => ?_
 refine rz 1 [] s d rfl rfl fun a s => ?_
 have u := oi u
 subst u
 exact wp_ret (ret1 s rfl (rv_tmp rfl) (d.ret rfl))
theorem cmp_Compare_string_ok {w0 S0 x1 y2 r} (u : cmp_Compare_string x1 y2 = some r) (hS : Dm S0 w0) : Calls Tryz.prog 193 #[.string x1, .string y2] w0 (Ret ([]) w0 S0 (slices_IndexFunc_Lapi_Record_api_Record_rd w0 ([]) r)) := by
 refine en 20 Tryz.func193 rfl hS rfl rfl rfl fun a s d => ?_
 delta cmp_Compare_string at u
 refine sz 1 [] s d rfl rfl fun a s => ?_
 refine sn 1 [] s d rfl rfl fun a s => ?_
 obtain ⟨rv4, h3, u⟩ := bind_t u
 refine st_callR s (cmp_isNaN_string_ok h3 d.bdom) (do_call Tryz.call205 rfl) trivial rfl rfl ?_
 rintro v8 Sv5 w a h6 rfl s
 have d := d.callB h6
 refine rz 1 [] s d rfl rfl fun a s => ?_
 refine sn 1 [] s d rfl rfl fun a s => ?_
 obtain ⟨rv11, h10, u⟩ := bind_t u
 refine st_callR s (cmp_isNaN_string_ok h10 d.bdom) (do_call Tryz.call205 rfl) trivial rfl rfl ?_
 rintro v15 Sv12 w a h13 rfl s
 have d := d.callB h13
 refine rz 1 [] s d rfl rfl fun a s => ?_
 refine wp_seq (sz 1 [] s d rfl rfl fun a s => ?_)
 refine cd s u rfl (fun u => ?_) fun u => ?_
 ·refine wp_seq (sz 1 [] s d rfl rfl fun a s => ?_)
  refine cd s u rfl (fun u => ?_) fun u => ?_
  ·refine sz 1 [] s d rfl rfl fun a s => ?_
   have u := oi u
   subst u
   exact wp_ret (then_ret (then_ret (ret1 s rfl (rv_tmp rfl) (d.ret rfl))))
  refine wp_skip (then_normal (sz 1 [] s d rfl rfl fun a s => ?_))
  have u := oi u
  subst u
  exact wp_ret (then_ret (ret1 s rfl (rv_tmp rfl) (d.ret rfl)))
 refine wp_skip (then_normal (wp_seq (sz 1 [] s d rfl rfl fun a s => ?_)))
 refine cd s u rfl (fun u => ?_) fun u => ?_
 ·refine sz 1 [] s d rfl rfl fun a s => ?_
  have u := oi u
  subst u
  exact wp_ret (then_ret (ret1 s rfl (rv_tmp rfl) (d.ret rfl)))
 refine wp_skip (then_normal (wp_seq (sn 2 [] s d rfl rfl fun a s => ?_)))
 refine sv s (y_lssS rfl rfl) rfl fun a s => ?_
 refine nl (cd s u rfl (fun u => ?_) fun u => ?_)
 ·refine sz 1 [] s d rfl rfl fun a s => ?_
  have u := oi u
  subst u
  exact wp_ret (then_ret (ret1 s rfl (rv_tmp rfl) (d.ret rfl)))
 refine wp_skip (then_normal (wp_seq (sn 2 [] s d rfl rfl fun a s => ?_)))
 refine sv s (y_gtrS rfl rfl) rfl fun a s => ?_
 refine nl (cd s u rfl (fun u => ?_) fun u => ?_)
 ·refine sz 1 [] s d rfl rfl fun a s => ?_
  have u := oi u
  subst u
  exact wp_ret (then_ret (ret1 s rfl (rv_tmp rfl) (d.ret rfl)))
 refine wp_skip (then_normal (sz 1 [] s d rfl rfl fun a s => ?_))
 have u := oi u
 subst u
 exact wp_ret (ret1 s rfl (rv_tmp rfl) (d.ret rfl))
theorem cmp_Or_int_ok {w0 S0 p2 k3 vals1 r} (u : cmp_Or_int vals1 = some r) (hS : Dm S0 w0) (h4 : (SlA p2 vals1.length k3 vals1).p S0 w0) : Calls Tryz.prog 153 #[.slice p2 vals1.length k3] w0 (Ret ([]) w0 S0 (slices_IndexFunc_Lapi_Record_api_Record_rd w0 ([]) r)) := by
 refine en 18 Tryz.func153 rfl hS rfl rfl rfl fun a s d => ?_
 have d := d.addE h4
 delta cmp_Or_int at u
 refine sz 1 [] s d rfl rfl fun a s => ?_
 refine sz 1 [] s d rfl rfl fun a s => ?_
 refine wp_seq (sz 3 [] s d rfl rfl fun a s => ?_)
 refine wp_block (wp_while (fun sv55 a w => ∃ Sv87, Sl 18 [(3, .int .i64 0), (6, .slice p2 vals1.length k3), (7, .int .i64 (vals1.length : Int)), (8, .int .i64 sv55)] a ∧ Wd ⟨w0, S0, []⟩ Sv87 [] [SlA p2 vals1.length k3 vals1] w) 0 u ⟨S0, (s.wk rfl), (d.ft [] [0] (by decide) rfl rfl)⟩ ?_)
 repeat clear u
 rintro sv55 a w tv104 ⟨Sv87, s, d⟩ u hd103
 delta cmp_Or_int_l2 at u
 refine sz 1 [] s d rfl rfl fun a s => ?_
 refine wp_seq (cd s u rfl (fun u => ?_) fun u => ?_)
 ·refine wp_skip (then_normal (wp_seq (wp_block (sr ?_))))
  obtain ⟨x125, h123, u⟩ := bind_t u
  obtain ⟨b131, o132, q129, c130, h133, h126, h127, h128, h124⟩ := d.elemV 0 rfl h123
  have hsv134 := s
  have hwv135 := d
  subst h133
  have s := hsv134
  have d := hwv135
  obtain ⟨_, rfl, rfl⟩ := h124
  have d := d.addE h128
  refine sv s (y_indexAt Tryz.runUnderlying22 Tryz.sizeOf3 rfl rfl h126.1 h126.2 h127) rfl fun a s => ?_
  refine sv s (y_loadE1 (j := 0) (d.ceAt 0 rfl) rfl Tryz.isAgg3 rfl) rfl fun a s => ?_
  refine rz 1 [] s d rfl rfl fun a s => ?_
  refine sz 3 [] s d rfl rfl fun a s => ?_
  refine cd s u rfl (fun u => ?_) fun u => ?_
  ·refine sz 2 [] s d rfl rfl fun a s => ?_
   have u := oi u
   subst u
   have h138 := hd103 _ rfl
   subst h138
   exact wp_ret (blk_ret (then_ret (then_ret (blk_ret (then_ret (ret1 s rfl (rv_tmp rfl) (d.ret rfl)))))))
  refine wp_skip (blk_normal (then_normal (wp_region_lit (rz 2 [] s d rfl rfl fun a s => ?_))))
  exact ⟨_, (Option.some.inj u).symm, Sv87, (s.wk rfl), (d.ft [] [1] (by decide) rfl rfl)⟩
 obtain ⟨rv139, u, h140⟩ := map_t u
 have h140 := (hd103 _ h140.symm).symm
 subst h140
 refine wp_exit (then_exit (then_exit (blk_exit (then_normal (sz 2 [] s d rfl rfl fun a s => ?_)))))
 have u := oi u
 subst u
 exact wp_ret (ret1 s rfl (rv_tmp rfl) (d.ret rfl))
theorem source_Compare_ok {w0 S0 a1 b2 r} (u : source_Compare a1 b2 = some r) (hS : Dm S0 w0) : Calls Tryz.prog 154 #[V52 a1, V52 b2] w0 (Ret ([]) w0 S0 (slices_IndexFunc_Lapi_Record_api_Record_rd w0 ([]) r)) := by
 refine en 27 Tryz.func154 rfl hS rfl rfl rfl fun a s d => ?_
 delta source_Compare at u
 refine sr (w_box (cs := (C52 a1)) s d rfl rfl rfl trivial ?_)
 intro b3 a w s d
 refine w_box (cs := (C52 b2)) s d rfl rfl rfl trivial ?_
 intro b4 a w s d
 refine rz 1 [] s d rfl rfl fun a s => ?_
 refine wp_seq ?_
 obtain ⟨rv6, h5, u⟩ := bind_t u
 obtain ⟨rv8, h7, u⟩ := bind_t u
 obtain ⟨rv10, h9, u⟩ := bind_t u
 obtain ⟨rv12, h11, u⟩ := bind_t u
 obtain ⟨rv16, h15, u⟩ := bind_t u
 refine wp_only (fun a w => ∃ Sv17, Sl 27 [(4, .int .i64 rv16)] a ∧ Wd ⟨w0, S0, []⟩ Sv17 [] [] w) ?_ ?_
 ·refine h_c [0, 1] [] d rfl rfl (by kernel_rfl) rfl fun hC d => ?_
  refine gn 16 [0, 1, 2, 3, 5, 6, 7, 8, 10, 11, 12, 13, 15, 16, 17, 18] [1, 0, 1, 0, 1, 0, 1, 0] s hC rfl rfl rfl fun a s => ?_
  refine ho 4 rfl ?_
  refine st_callR s (cmp_Compare_string_ok h5 d.bdom) (do_call Tryz.call193 rfl) trivial rfl rfl ?_
  rintro v21 Sv18 w a h19 rfl s
  have d := d.callB h19
  refine h_n [0, 1] [] d rfl rfl fun hC => ?_
  refine ho 9 rfl ?_
  refine st_callR s (cmp_Compare_string_ok h7 d.bdom) (do_call Tryz.call193 rfl) trivial rfl rfl ?_
  rintro v26 Sv23 w a h24 rfl s
  have d := d.callB h24
  refine h_n [0, 1] [] d rfl rfl fun hC => ?_
  refine ho 14 rfl ?_
  refine st_callR s (cmp_Compare_string_ok h9 d.bdom) (do_call Tryz.call193 rfl) trivial rfl rfl ?_
  rintro v31 Sv28 w a h29 rfl s
  have d := d.callB h29
  refine h_n [0, 1] [] d rfl rfl fun hC => ?_
  refine ho 19 rfl ?_
  refine st_callR s (cmp_Compare_string_ok h11 d.bdom) (do_call Tryz.call193 rfl) trivial rfl rfl ?_
  rintro v36 Sv33 w a h34 rfl s
  have d := d.callB h34
  refine h_n [0, 1] [] d rfl rfl fun hC => ?_
  refine ho 20 rfl ?_
  refine w_litSlice (α := Int) (vs := [.int .i64 rv6, .int .i64 rv8, .int .i64 rv10, .int .i64 rv12]) (cs := [.int .i64 rv6, .int .i64 rv8, .int .i64 rv10, .int .i64 rv12]) (xs := ([rv6, rv8, rv10, rv12] : List Int)) s d El22 rfl rfl rfl rfl rfl rfl ⟨⟨_, rfl, rfl⟩, ⟨⟨_, rfl, rfl⟩, ⟨⟨_, rfl, rfl⟩, ⟨⟨_, rfl, rfl⟩, rfl⟩⟩⟩⟩ rfl trivial rfl fun b14 a w s d => ?_
  refine h_n [1, 2] [] d rfl rfl fun hC => ?_
  refine h_d [1, 2, 0] [] [0, 1] [] d rfl rfl rfl rfl fun hC => ?_
  refine ho 21 rfl ?_
  refine st_callR s (cmp_Or_int_ok h15 d.bdom (d.bRow 0 rfl 0 rfl)) (do_call Tryz.call153 rfl) trivial rfl rfl ?_
  rintro v41 Sv38 w a h39 rfl s
  have d := d.callB h39
  refine h_n [1, 2, 0] [] d rfl rfl fun hC => ?_
  refine gv s 22 rfl rfl hC (fun w hC => y_assign rfl) fun a s => ?_
  refine h_done (by kernel_rfl) ?_
  exact ⟨S0, (s.wk rfl), (d.ft [] [] (by decide) rfl rfl)⟩
 rintro a w ⟨Sv17, s, d⟩
 refine then_normal ?_
 have u := oi u
 subst u
 exact wp_ret (ret1 s rfl (rv_tmp rfl) (d.ret rfl))
theorem record_time_ok {w0 S0 p2 k3 r1 i5 r} (u : record_time r1 i5 = some r) (hS : Dm S0 w0) (h4 : (SlA p2 r1.Samples.length k3 r1.Samples).p S0 w0) : Calls Tryz.prog 107 #[V56 r1 p2 k3, .int .i64 i5] w0 (Ret ([]) w0 S0 (slices_IndexFunc_Lapi_Record_api_Record_rd w0 ([]) r)) := by
 refine en 20 Tryz.func107 rfl hS rfl rfl rfl fun a s d => ?_
 have d := d.addE h4
 delta record_time at u
 refine sr (w_box (cs := (C56 r1 p2 k3)) s d rfl rfl rfl trivial ?_)
 intro b6 a w s d
 refine rz 1 [] s d rfl rfl fun a s => ?_
 refine sn 8 [0, 0, 0] s d rfl rfl fun a s => ?_
 obtain ⟨rv8, h7, u⟩ := bind_t u
 refine st_callR s (rate_Time_ok h7 d.bdom) (do_call Tryz.call94 rfl) trivial rfl rfl ?_
 rintro v12 Sv9 w a h10 rfl s
 have d := d.callB h10
 refine rz 5 [] s d rfl rfl fun a s => ?_
 refine sz 2 [] s d rfl rfl fun a s => ?_
 have u := oi u
 subst u
 exact wp_ret (ret1 s rfl (rv_tmp rfl) (d.ret rfl))
theorem record_begin_ok {w0 S0 p2 k3 r1 r} (u : record_begin r1 = some r) (hS : Dm S0 w0) (h4 : (SlA p2 r1.Samples.length k3 r1.Samples).p S0 w0) : Calls Tryz.prog 155 #[V56 r1 p2 k3] w0 (Ret ([]) w0 S0 (slices_IndexFunc_Lapi_Record_api_Record_rd w0 ([]) r)) := by
 refine en 8 Tryz.func155 rfl hS rfl rfl rfl fun a s d => ?_
 have d := d.addE h4
 delta record_begin at u
 refine sr (w_box (cs := (C56 r1 p2 k3)) s d rfl rfl rfl trivial ?_)
 intro b5 a w s d
 refine rz 1 [] s d rfl rfl fun a s => ?_
 refine wp_seq (sn 1 [0] s d rfl rfl fun a s => ?_)
 obtain ⟨rv7, h6, u⟩ := bind_t u
 refine st_callR s (record_Valid_ok h6 d.bdom (d.bE 0 rfl)) (do_call Tryz.call84 rfl) trivial rfl rfl ?_
 rintro v11 Sv8 w a h9 rfl s
 have d := d.callB h9
 refine rz 1 [] s d rfl rfl fun a s => ?_
 refine cd s u rfl (fun u => ?_) fun u => ?_
 ·refine sz 1 [] s d rfl rfl fun a s => ?_
  have u := oi u
  subst u
  exact wp_ret (then_ret (ret1 s rfl (rv_tmp rfl) (d.ret rfl)))
 refine wp_skip (then_normal (sn 1 [0] s d rfl rfl fun a s => ?_))
 obtain ⟨rv16, h15, u⟩ := bind_t u
 refine st_callR s (record_time_ok h15 d.bdom (d.bE 0 rfl)) (do_call Tryz.call107 rfl) trivial rfl rfl ?_
 rintro v20 Sv17 w a h18 rfl s
 have d := d.callB h18
 refine rz 1 [] s d rfl rfl fun a s => ?_
 have u := oi u
 subst u
 exact wp_ret (ret1 s rfl (rv_tmp rfl) (d.ret rfl))
theorem slices_Compare_Lint_int_ok {w0 S0 p2 k3 p6 k7 s1_1 s2_5 r} (u : slices_Compare_Lint_int s1_1 s2_5 = some r) (hS : Dm S0 w0) (h4 : (SlA p2 s1_1.length k3 s1_1).p S0 w0) (h8 : (SlA p6 s2_5.length k7 s2_5).p S0 w0) : Calls Tryz.prog 156 #[.slice p2 s1_1.length k3, .slice p6 s2_5.length k7] w0 (Ret ([]) w0 S0 (slices_IndexFunc_Lapi_Record_api_Record_rd w0 ([]) r)) := by
 refine en 36 Tryz.func156 rfl hS rfl rfl rfl fun a s d => ?_
 have d := (d.addE h4).addE h8
 delta slices_Compare_Lint_int at u
 refine sz 1 [] s d rfl rfl fun a s => ?_
 refine wp_seq (sz 3 [] s d rfl rfl fun a s => ?_)
 refine wp_block (wp_while (fun sv122 a w => ∃ Sv196, Sl 36 [(0, .slice p2 s1_1.length k3), (1, .slice p6 s2_5.length k7), (9, .slice p2 s1_1.length k3), (10, .int .i64 (s1_1.length : Int)), (11, .int .i64 sv122)] a ∧ Wd ⟨w0, S0, []⟩ Sv196 [] [SlA p2 s1_1.length k3 s1_1, SlA p6 s2_5.length k7 s2_5] w) 0 u ⟨S0, (s.wk rfl), (d.ft [] [1, 0] (by decide) rfl rfl)⟩ ?_)
 repeat clear u
 rintro sv122 a w tv234 ⟨Sv196, s, d⟩ u hd233
 delta slices_Compare_Lint_int_l2 at u
 refine sz 1 [] s d rfl rfl fun a s => ?_
 refine wp_seq (cd s u rfl (fun u => ?_) fun u => ?_)
 ·refine wp_skip (then_normal (wp_seq (wp_block (sn 1 [] s d rfl rfl fun a s => ?_))))
  obtain ⟨x276, h274, u⟩ := bind_t u
  obtain ⟨b282, o283, q280, c281, h284, h277, h278, h279, h275⟩ := d.elemV 0 rfl h274
  have hsv285 := s
  have hwv286 := d
  subst h284
  have s := hsv285
  have d := hwv286
  obtain ⟨_, rfl, rfl⟩ := h275
  have d := d.addE h279
  refine sv s (y_indexAt Tryz.runUnderlying22 Tryz.sizeOf3 rfl rfl h277.1 h277.2 h278) rfl fun a s => ?_
  refine sv s (y_loadE1 (j := 0) (d.ceAt 0 rfl) rfl Tryz.isAgg3 rfl) rfl fun a s => ?_
  refine rz 2 [] s d rfl rfl fun a s => ?_
  refine wp_seq (sz 4 [] s d rfl rfl fun a s => ?_)
  refine cd s u rfl (fun u => ?_) fun u => ?_
  ·refine sz 1 [] s d rfl rfl fun a s => ?_
   have u := oi u
   subst u
   have h289 := hd233 _ rfl
   subst h289
   exact wp_ret (then_ret (blk_ret (then_ret (then_ret (blk_ret (then_ret (ret1 s rfl (rv_tmp rfl) (d.ret rfl))))))))
  refine wp_skip (then_normal (sn 2 [] s d rfl rfl fun a s => ?_))
  obtain ⟨x292, h290, u⟩ := bind_t u
  obtain ⟨b298, o299, q296, c297, h300, h293, h294, h295, h291⟩ := d.elemV 2 rfl h290
  have hsv301 := s
  have hwv302 := d
  subst h300
  have s := hsv301
  have d := hwv302
  obtain ⟨_, rfl, rfl⟩ := h291
  have d := d.addE h295
  refine sv s (y_indexAt Tryz.runUnderlying22 Tryz.sizeOf3 rfl rfl h293.1 h293.2 h294) rfl fun a s => ?_
  refine sv s (y_loadE1 (j := 0) (d.ceAt 0 rfl) rfl Tryz.isAgg3 rfl) rfl fun a s => ?_
  refine rz 1 [] s d rfl rfl fun a s => ?_
  refine sn 2 [] s d rfl rfl fun a s => ?_
  obtain ⟨rv304, h303, u⟩ := bind_t u
  refine st_callR s (cmp_Compare_int_ok h303 d.bdom) (do_call Tryz.call123 rfl) trivial rfl rfl ?_
  rintro v308 Sv305 w a h306 rfl s
  have d := d.callB h306
  refine rz 1 [] s d rfl rfl fun a s => ?_
  refine sz 2 [] s d rfl rfl fun a s => ?_
  refine cd s u rfl (fun u => ?_) fun u => ?_
  ·refine sz 2 [] s d rfl rfl fun a s => ?_
   have u := oi u
   subst u
   have h312 := hd233 _ rfl
   subst h312
   exact wp_ret (blk_ret (then_ret (then_ret (blk_ret (then_ret (ret1 s rfl (rv_tmp rfl) (d.ret rfl)))))))
  refine wp_skip (blk_normal (then_normal (wp_region_lit (rz 2 [] s d rfl rfl fun a s => ?_))))
  exact ⟨_, (Option.some.inj u).symm, Sv196, (s.wk rfl), (d.ft [] [2, 3] (by decide) rfl rfl)⟩
 obtain ⟨rv315, u, h316⟩ := map_t u
 have h316 := (hd233 _ h316.symm).symm
 subst h316
 refine wp_exit (then_exit (then_exit (blk_exit (then_normal (wp_seq (sz 5 [] s d rfl rfl fun a s => ?_))))))
 refine cd s u rfl (fun u => ?_) fun u => ?_
 ·refine sz 1 [] s d rfl rfl fun a s => ?_
  have u := oi u
  subst u
  exact wp_ret (then_ret (ret1 s rfl (rv_tmp rfl) (d.ret rfl)))
 refine wp_skip (then_normal (sz 1 [] s d rfl rfl fun a s => ?_))
 have u := oi u
 subst u
 exact wp_ret (ret1 s rfl (rv_tmp rfl) (d.ret rfl))
theorem record_Compare_ok {w0 S0 p2 k3 p6 k7 a1 b5 r} (u : record_Compare a1 b5 = some r) (hS : Dm S0 w0) (h4 : (SlA p2 a1.Samples.length k3 a1.Samples).p S0 w0) (h8 : (SlA p6 b5.Samples.length k7 b5.Samples).p S0 w0) : Calls Tryz.prog 126 #[V56 a1 p2 k3, V56 b5 p6 k7] w0 (Ret ([]) w0 S0 (slices_IndexFunc_Lapi_Record_api_Record_rd w0 ([]) r)) := by
 refine en 68 Tryz.func126 rfl hS rfl rfl rfl fun a s d => ?_
 have d := (d.addE h4).addE h8
 delta record_Compare at u
 refine sr (w_box (cs := (C56 a1 p2 k3)) s d rfl rfl rfl trivial ?_)
 intro b9 a w s d
 refine w_box (cs := (C56 b5 p6 k7)) s d rfl rfl rfl trivial ?_
 intro b10 a w s d
 refine rz 1 [] s d rfl rfl fun a s => ?_
 refine wp_seq ?_
 obtain ⟨rv12, h11, u⟩ := bind_t u
 obtain ⟨rv14, h13, u⟩ := bind_t u
 obtain ⟨rv16, h15, u⟩ := bind_t u
 obtain ⟨rv18, h17, u⟩ := bind_t u
 obtain ⟨rv20, h19, u⟩ := bind_t u
 obtain ⟨rv22, h21, u⟩ := bind_t u
 obtain ⟨rv24, h23, u⟩ := bind_t u
 obtain ⟨rv26, h25, u⟩ := bind_t u
 obtain ⟨rv28, h27, u⟩ := bind_t u
 obtain ⟨rv30, h29, u⟩ := bind_t u
 obtain ⟨rv32, h31, u⟩ := bind_t u
 obtain ⟨rv34, h33, u⟩ := bind_t u
 obtain ⟨rv36, h35, u⟩ := bind_t u
 obtain ⟨rv40, h39, u⟩ := bind_t u
 refine wp_only (fun a w => ∃ Sv41, Sl 68 [(4, .int .i64 rv40)] a ∧ Wd ⟨w0, S0, []⟩ Sv41 [] [] w) ?_ ?_
 ·refine h_c [0, 1] [] d rfl rfl (by kernel_rfl) rfl fun hC d => ?_
  refine gn 48 [0, 1, 2, 3, 5, 7, 10, 11, 12, 13, 15, 16, 17, 18, 20, 21, 22, 23, 24, 25, 27, 28, 29, 30, 31, 32, 34, 35, 36, 37, 39, 40, 41, 42, 44, 45, 46, 47, 49, 50, 51, 52, 53, 54, 56, 57, 58, 59] [1, 0, 1, 0, 1, 0, 1, 0, 1, 0, 1, 0, 1, 0, 1, 0, 1, 0, 1, 0, 1, 0] s hC rfl rfl rfl fun a s => ?_
  refine ho 4 rfl ?_
  refine st_callR s (source_Compare_ok h11 d.bdom) (do_call Tryz.call154 rfl) trivial rfl rfl ?_
  rintro v45 Sv42 w a h43 rfl s
  have d := d.callB h43
  refine h_n [0, 1] [] d rfl rfl fun hC => ?_
  refine ho 6 rfl ?_
  refine st_callR s (record_begin_ok h13 d.bdom (d.bE 1 rfl)) (do_call Tryz.call155 rfl) trivial rfl rfl ?_
  rintro v50 Sv47 w a h48 rfl s
  have d := d.callB h48
  refine h_n [0, 1] [] d rfl rfl fun hC => ?_
  refine ho 8 rfl ?_
  refine st_callR s (record_begin_ok h15 d.bdom (d.bE 0 rfl)) (do_call Tryz.call155 rfl) trivial rfl rfl ?_
  rintro v55 Sv52 w a h53 rfl s
  have d := d.callB h53
  refine h_n [0, 1] [] d rfl rfl fun hC => ?_
  refine ho 9 rfl ?_
  refine st_callR s (cmp_Compare_int_ok h17 d.bdom) (do_call Tryz.call123 rfl) trivial rfl rfl ?_
  rintro v60 Sv57 w a h58 rfl s
  have d := d.callB h58
  refine h_n [0, 1] [] d rfl rfl fun hC => ?_
  refine ho 14 rfl ?_
  refine st_callR s (cmp_Compare_int_ok h19 d.bdom) (do_call Tryz.call123 rfl) trivial rfl rfl ?_
  rintro v65 Sv62 w a h63 rfl s
  have d := d.callB h63
  refine h_n [0, 1] [] d rfl rfl fun hC => ?_
  refine ho 19 rfl ?_
  refine st_callR s (cmp_Compare_int_ok h21 d.bdom) (do_call Tryz.call123 rfl) trivial rfl rfl ?_
  rintro v70 Sv67 w a h68 rfl s
  have d := d.callB h68
  refine h_n [0, 1] [] d rfl rfl fun hC => ?_
  refine ho 26 rfl ?_
  refine st_callR s (cmp_Compare_int_ok h23 d.bdom) (do_call Tryz.call123 rfl) trivial rfl rfl ?_
  rintro v75 Sv72 w a h73 rfl s
  have d := d.callB h73
  refine h_n [0, 1] [] d rfl rfl fun hC => ?_
  refine ho 33 rfl ?_
  refine st_callR s (cmp_Compare_int_ok h25 d.bdom) (do_call Tryz.call123 rfl) trivial rfl rfl ?_
  rintro v80 Sv77 w a h78 rfl s
  have d := d.callB h78
  refine h_n [0, 1] [] d rfl rfl fun hC => ?_
  refine ho 38 rfl ?_
  refine st_callR s (cmp_Compare_int_ok h27 d.bdom) (do_call Tryz.call123 rfl) trivial rfl rfl ?_
  rintro v85 Sv82 w a h83 rfl s
  have d := d.callB h83
  refine h_n [0, 1] [] d rfl rfl fun hC => ?_
  refine ho 43 rfl ?_
  refine st_callR s (cmp_Compare_int_ok h29 d.bdom) (do_call Tryz.call123 rfl) trivial rfl rfl ?_
  rintro v90 Sv87 w a h88 rfl s
  have d := d.callB h88
  refine h_n [0, 1] [] d rfl rfl fun hC => ?_
  refine ho 48 rfl ?_
  refine st_callR s (cmp_Compare_int_ok h31 d.bdom) (do_call Tryz.call123 rfl) trivial rfl rfl ?_
  rintro v95 Sv92 w a h93 rfl s
  have d := d.callB h93
  refine h_n [0, 1] [] d rfl rfl fun hC => ?_
  refine ho 55 rfl ?_
  refine st_callR s (cmp_Compare_int_ok h33 d.bdom) (do_call Tryz.call123 rfl) trivial rfl rfl ?_
  rintro v100 Sv97 w a h98 rfl s
  have d := d.callB h98
  refine h_n [0, 1] [] d rfl rfl fun hC => ?_
  refine ho 60 rfl ?_
  refine st_callR s (slices_Compare_Lint_int_ok h35 d.bdom (d.bE 1 rfl) (d.bE 0 rfl)) (do_call Tryz.call156 rfl) trivial rfl rfl ?_
  rintro v105 Sv102 w a h103 rfl s
  have d := d.callB h103
  refine h_n [0, 1] [] d rfl rfl fun hC => ?_
  refine ho 61 rfl ?_
  refine w_litSlice (α := Int) (vs := [.int .i64 rv12, .int .i64 rv18, .int .i64 rv20, .int .i64 rv22, .int .i64 rv24, .int .i64 rv26, .int .i64 rv28, .int .i64 rv30, .int .i64 rv32, .int .i64 rv34, .int .i64 rv36]) (cs := [.int .i64 rv12, .int .i64 rv18, .int .i64 rv20, .int .i64 rv22, .int .i64 rv24, .int .i64 rv26, .int .i64 rv28, .int .i64 rv30, .int .i64 rv32, .int .i64 rv34, .int .i64 rv36]) (xs := ([rv12, rv18, rv20, rv22, rv24, rv26, rv28, rv30, rv32, rv34, rv36] : List Int)) s d El22 rfl rfl rfl rfl rfl rfl ⟨⟨_, rfl, rfl⟩, ⟨⟨_, rfl, rfl⟩, ⟨⟨_, rfl, rfl⟩, ⟨⟨_, rfl, rfl⟩, ⟨⟨_, rfl, rfl⟩, ⟨⟨_, rfl, rfl⟩, ⟨⟨_, rfl, rfl⟩, ⟨⟨_, rfl, rfl⟩, ⟨⟨_, rfl, rfl⟩, ⟨⟨_, rfl, rfl⟩, ⟨⟨_, rfl, rfl⟩, rfl⟩⟩⟩⟩⟩⟩⟩⟩⟩⟩⟩ rfl trivial rfl fun b38 a w s d => ?_
  refine h_n [1, 2] [] d rfl rfl fun hC => ?_
  refine h_d [1, 2, 0] [] [0, 1] [] d rfl rfl rfl rfl fun hC => ?_
  refine ho 62 rfl ?_
  refine st_callR s (cmp_Or_int_ok h39 d.bdom (d.bRow 0 rfl 0 rfl)) (do_call Tryz.call153 rfl) trivial rfl rfl ?_
  rintro v110 Sv107 w a h108 rfl s
  have d := d.callB h108
  refine h_n [1, 2, 0] [] d rfl rfl fun hC => ?_
  refine gv s 63 rfl rfl hC (fun w hC => y_assign rfl) fun a s => ?_
  refine h_done (by kernel_rfl) ?_
  exact ⟨S0, (s.wk rfl), (d.ft [] [] (by decide) rfl rfl)⟩
 rintro a w ⟨Sv41, s, d⟩
 refine then_normal ?_
 have u := oi u
 subst u
 exact wp_ret (ret1 s rfl (rv_tmp rfl) (d.ret rfl))
theorem record_Compare_fn (S0 : Nat → Prop) (w0 : World) : (FnA2 Tryz.prog 126 [] [] record_Compare).p S0 w0 := by
  refine ⟨Tryz.call126, ?_⟩
  rintro S1 w1 hk hS c0 c1 x0 x1 r1 ⟨_, _, _, _, _, _, _, _, _, _, _, _, rfl, rfl, rfl, rfl, rfl, rfl, rfl, rfl, rfl, rfl, rfl, rfl, ⟨_, _, _, rfl, e0⟩⟩ h1 hf
  obtain ⟨_, _, _, _, _, _, _, _, _, _, _, _, rfl, rfl, rfl, rfl, rfl, rfl, rfl, rfl, rfl, rfl, rfl, rfl, ⟨_, _, _, rfl, e1⟩⟩ := h1
  obtain rfl := e0.1
  obtain rfl := e1.1
  exact record_Compare_ok hf hS e0 e1 
theorem slices_CompactFunc_Lapi_Record_api_Record_ok {w0 S0 p2 k3 c4 g7 f8 cp9 s1} {eq6 : Record → Record → Option Bool} {r} (u : slices_CompactFunc_Lapi_Record_api_Record s1 eq6 = some r) (hS : Dm S0 w0) (hin : Ins S0 w0 [.row p2 s1.length k3 c4 56 12]) (h5 : (RowA c4 s1).p S0 w0) (h10 : (FnA2 Tryz.prog g7 f8 cp9 eq6).p S0 w0) : Calls Tryz.prog 127 #[.slice p2 s1.length k3, .func (.func g7) f8.toArray cp9.toArray] w0 (Ret (blks [.row p2 s1.length k3 c4 56 12]) w0 S0 (slices_Clone_Lapi_Record_api_Record_rd w0 (blks [.row p2 s1.length k3 c4 56 12]) r)) := by
 refine enI 66 Tryz.func127 rfl hS hin rfl rfl rfl fun a s d => ?_
 have d := ((d.addE h5).addE (e := LenA s1.length s1) len_rfl).addE h10
 delta slices_CompactFunc_Lapi_Record_api_Record at u
 refine sz 1 [] s d rfl rfl fun a s => ?_
 refine wp_seq (sz 3 [] s d rfl rfl fun a s => ?_)
 refine cd s u rfl (fun u => ?_) fun u => ?_
 ·refine sz 2 [] s d rfl rfl fun a s => ?_
  have u := oi u
  subst u
  exact wp_ret (then_ret (ret1 s rfl (rv_tmp rfl) (d.ret ⟨p2, k3, c4, rfl, (d.outs [0] (by decide) rfl), (d.envAt 2 rfl)⟩)))
 refine wp_skip (then_normal (wp_seq (sz 1 [] s d rfl rfl fun a s => ?_)))
 refine wp_block (wp_while (fun sv825 a w => ∃ Sv1365, Sl 66 [(0, .slice p2 s1.length k3), (1, .func (.func g7) f8.toArray cp9.toArray), (5, .int .i64 sv825)] a ∧ Wd ⟨w0, S0, blks [.row p2 s1.length k3 c4 56 12]⟩ Sv1365 [.row p2 s1.length k3 c4 56 12] [FnA2 Tryz.prog g7 f8 cp9 eq6, RowA c4 s1, LenA s1.length s1] w) 1 u ⟨S0, (s.wk rfl), (d.ft [0] [0, 2, 1] (by decide) rfl rfl)⟩ ?_)
 repeat clear u
 rintro sv825 a w tv1636 ⟨Sv1365, s, d⟩ u hd1635
 delta slices_CompactFunc_Lapi_Record_api_Record_l7 at u
 refine wp_seq (sz 4 [] s d rfl rfl fun a s => ?_)
 refine cd s u rfl (fun u => ?_) fun u => ?_
 ·refine wp_skip (then_normal (wp_seq (wp_block (wp_seq ?_))))
  obtain ⟨x1909, h1907, u⟩ := bind_t u
  obtain ⟨b1916, q1913, c1914, h1917, h1910, h1911, h1915, h1908⟩ := d.elemRV (α := Record) 0 rfl 1 rfl h1907
  have hsv1918 := s
  have hwv1919 := d
  subst h1917
  have s := hsv1918
  have d := hwv1919
  obtain ⟨_, _, _, _, _, _, _, _, _, _, _, _, rfl, rfl, rfl, rfl, rfl, rfl, rfl, rfl, rfl, rfl, rfl, rfl, ⟨p1920, n1921, k1922, rfl, h1923⟩⟩ := h1908
  obtain rfl := h1923.1
  have d := d.addE (e := SlA p1920 _ k1922 x1909.Samples) h1923
  obtain ⟨x1926, h1924, u⟩ := bind_t u
  obtain ⟨q1930, c1931, h1927, h1928, h1932, h1925⟩ := d.elemRK (α := Record) 0 rfl 2 rfl h1924
  obtain ⟨_, _, _, _, _, _, _, _, _, _, _, _, rfl, rfl, rfl, rfl, rfl, rfl, rfl, rfl, rfl, rfl, rfl, rfl, ⟨p1933, n1934, k1935, rfl, h1936⟩⟩ := h1925
  obtain rfl := h1936.1
  have d := d.addE (e := SlA p1933 _ k1935 x1926.Samples) h1936
  obtain ⟨rv1938, h1937, u⟩ := bind_t u
  refine wp_only (fun a w => ∃ Sv1939, Sl 66 [(0, .slice (some ⟨b1916, 0, none⟩) s1.length k3), (1, .func (.func g7) f8.toArray cp9.toArray), (5, .int .i64 sv825), (28, .bool rv1938)] a ∧ Wd ⟨w0, S0, blks [.row (some ⟨b1916, 0, none⟩) s1.length k3 c4 56 12]⟩ Sv1939 [.row (some ⟨b1916, 0, none⟩) s1.length k3 c4 56 12] [FnA2 Tryz.prog g7 f8 cp9 eq6, RowA c4 s1, LenA s1.length s1] w) ?_ ?_
  ·refine h_c [0] [] d rfl rfl (by kernel_rfl) rfl fun hC d => ?_
   refine gn 3 [0, 1, 2] [] s hC rfl rfl rfl fun a s => ?_
   refine gv s 3 rfl rfl hC (fun w hC => y_indexAt Tryz.runUnderlying28 Tryz.sizeOf56 rfl rfl h1910.1 h1910.2 h1911) fun a s => ?_
   refine gv s 4 rfl rfl hC (fun w hC => y_loadQA (j := 0) (hC.ownAt 0 rfl) rfl Tryz.isAgg56 Tryz.sizeOf56 h1915 rfl rfl) fun a s => ?_
   refine gn 3 [5, 6, 7] [] s hC rfl rfl rfl fun a s => ?_
   refine gv s 8 rfl rfl hC (fun w hC => y_indexAt Tryz.runUnderlying28 Tryz.sizeOf56 rfl rfl h1927.1 h1927.2 h1928) fun a s => ?_
   refine gv s 9 rfl rfl hC (fun w hC => y_loadQA (j := 0) (hC.ownAt 0 rfl) rfl Tryz.isAgg56 Tryz.sizeOf56 h1932 rfl rfl) fun a s => ?_
   refine ho 10 rfl ?_
   refine st_callR s ((d.bE 2 rfl).2 Keep.rfl' d.bdom ⟨_, _, _, _, _, _, _, _, _, _, _, _, rfl, rfl, rfl, rfl, rfl, rfl, rfl, rfl, rfl, rfl, rfl, rfl, ⟨_, _, _, rfl, d.bE 1 rfl⟩⟩ ⟨_, _, _, _, _, _, _, _, _, _, _, _, rfl, rfl, rfl, rfl, rfl, rfl, rfl, rfl, rfl, rfl, rfl, rfl, ⟨_, _, _, rfl, d.bE 0 rfl⟩⟩ h1937) (do_callF (d.bE 2 rfl).1 rfl rfl) trivial rfl rfl ?_
   rintro v1943 Sv1940 w a h1941 rfl s
   have d := d.callB h1941
   refine h_n [0] [] d rfl rfl fun hC => ?_
   refine h_done (by kernel_rfl) ?_
   exact ⟨Sv1365, (s.wk rfl), (d.ft [0] [2, 3, 4] (by decide) rfl rfl)⟩
  rintro a w ⟨Sv1939, s, d⟩
  refine then_normal (cd s u rfl (fun u => ?_) fun u => ?_)
  ·refine sn 2 [] s d rfl rfl fun a s => ?_
   obtain ⟨l2182, h2178, u⟩ := bind_t u
   obtain ⟨o2180, k2181, h2179⟩ := row_sub_at (α := Record) d 0 rfl h2178
   refine sv s (y_slc Tryz.runUnderlying28 Tryz.sizeOf56 rfl ⟨_, rfl⟩ (by exact rfl) h2179) rfl fun a s => ?_
   refine rz 1 [] s d rfl rfl fun a s => ?_
   refine wp_seq (sz 1 [] s d rfl rfl fun a s => ?_)
   obtain ⟨e2392, h2581, u⟩ := bind_t u
   refine wp_join (fun a w => ∃ c2393 Sv2394, Sl 66 [(0, .slice (some ⟨b1916, 0, none⟩) e2392.1.length k3), (5, .int .i64 e2392.2)] a ∧ Wd ⟨w0, S0, blks [.row (some ⟨b1916, 0, none⟩) s1.length k3 c4 56 12]⟩ Sv2394 [.row (some ⟨b1916, 0, none⟩) e2392.1.length k3 c2393 56 12] [RowA c2393 e2392.1, LenA s1.length e2392.1] w) ?_ ?_
   ·refine wp_block (wp_while (fun sv2183 a w => ∃ c2320 Sv2321, Sl 66 [(0, .slice (some ⟨b1916, 0, none⟩) sv2183.1.length k3), (1, .func (.func g7) f8.toArray cp9.toArray), (5, .int .i64 sv2183.2.1), (6, .slice (some ⟨b1916, o2180, none⟩) l2182.length k2181), (7, .int .i64 sv2183.2.2)] a ∧ Wd ⟨w0, S0, blks [.row (some ⟨b1916, 0, none⟩) s1.length k3 c4 56 12]⟩ Sv2321 [.row (some ⟨b1916, 0, none⟩) sv2183.1.length k3 c2320 56 12] [FnA2 Tryz.prog g7 f8 cp9 eq6, RowA c2320 sv2183.1, LenA s1.length sv2183.1] w) (s1, sv825, 1) h2581 ⟨c4, Sv1939, (s.wk rfl), (d.ft [0] [0, 1, 2] (by decide) rfl rfl)⟩ ?_)
    clear h2581
    repeat clear u
    rintro sv2183 a w tv2390 ⟨c2320, Sv2321, s, d⟩ u hd2389
    delta slices_CompactFunc_Lapi_Record_api_Record_l11 at u
    refine wp_seq (sz 4 [] s d rfl rfl fun a s => ?_)
    refine cd s u rfl (fun u => ?_) fun u => ?_
    ·refine wp_skip (then_normal (wp_seq (wp_block (wp_seq ?_))))
     obtain ⟨x2468, h2461, u⟩ := bind_t u
     obtain ⟨q2466, c2467, h2463, h2464, h2465, h2462⟩ := d.elemLK (α := Record) 0 rfl 1 rfl h2179 h2461
     obtain ⟨_, _, _, _, _, _, _, _, _, _, _, _, rfl, rfl, rfl, rfl, rfl, rfl, rfl, rfl, rfl, rfl, rfl, rfl, ⟨p2469, n2470, k2471, rfl, h2472⟩⟩ := h2462
     obtain rfl := h2472.1
     have d := d.addE (e := SlA p2469 _ k2471 x2468.Samples) h2472
     obtain ⟨x2480, h2473, u⟩ := bind_t u
     obtain ⟨q2478, c2479, h2475, h2476, h2477, h2474⟩ := d.elemLK (α := Record) 0 rfl 2 rfl h2179 h2473
     obtain ⟨_, _, _, _, _, _, _, _, _, _, _, _, rfl, rfl, rfl, rfl, rfl, rfl, rfl, rfl, rfl, rfl, rfl, rfl, ⟨p2481, n2482, k2483, rfl, h2484⟩⟩ := h2474
     obtain rfl := h2484.1
     have d := d.addE (e := SlA p2481 _ k2483 x2480.Samples) h2484
     obtain ⟨rv2486, h2485, u⟩ := bind_t u
     refine wp_only (fun a w => ∃ Sv2487, Sl 66 [(0, .slice (some ⟨b1916, 0, none⟩) sv2183.1.length k3), (1, .func (.func g7) f8.toArray cp9.toArray), (5, .int .i64 sv2183.2.1), (6, .slice (some ⟨b1916, o2180, none⟩) l2182.length k2181), (7, .int .i64 sv2183.2.2), (49, .bool (!rv2486))] a ∧ Wd ⟨w0, S0, blks [.row (some ⟨b1916, 0, none⟩) s1.length k3 c4 56 12]⟩ Sv2487 [.row (some ⟨b1916, 0, none⟩) sv2183.1.length k3 c2320 56 12] [FnA2 Tryz.prog g7 f8 cp9 eq6, RowA c2320 sv2183.1, LenA s1.length sv2183.1] w) ?_ ?_
     ·refine h_c [0] [] d rfl rfl (by kernel_rfl) rfl fun hC d => ?_
      refine gn 3 [0, 1, 2] [] s hC rfl rfl rfl fun a s => ?_
      refine gv s 3 rfl rfl hC (fun w hC => y_indexAt Tryz.runUnderlying28 Tryz.sizeOf56 rfl rfl h2463.1 h2463.2 h2464) fun a s => ?_
      refine gv s 4 rfl rfl hC (fun w hC => y_loadQA (j := 0) (hC.ownAt 0 rfl) rfl Tryz.isAgg56 Tryz.sizeOf56 h2465 rfl rfl) fun a s => ?_
      refine gn 3 [5, 6, 7] [] s hC rfl rfl rfl fun a s => ?_
      refine gv s 8 rfl rfl hC (fun w hC => y_indexAt Tryz.runUnderlying28 Tryz.sizeOf56 rfl rfl h2475.1 h2475.2 h2476) fun a s => ?_
      refine gv s 9 rfl rfl hC (fun w hC => y_loadQA (j := 0) (hC.ownAt 0 rfl) rfl Tryz.isAgg56 Tryz.sizeOf56 h2477 rfl rfl) fun a s => ?_
      refine ho 10 rfl ?_
      refine st_callR s ((d.bE 2 rfl).2 Keep.rfl' d.bdom ⟨_, _, _, _, _, _, _, _, _, _, _, _, rfl, rfl, rfl, rfl, rfl, rfl, rfl, rfl, rfl, rfl, rfl, rfl, ⟨_, _, _, rfl, d.bE 1 rfl⟩⟩ ⟨_, _, _, _, _, _, _, _, _, _, _, _, rfl, rfl, rfl, rfl, rfl, rfl, rfl, rfl, rfl, rfl, rfl, rfl, ⟨_, _, _, rfl, d.bE 0 rfl⟩⟩ h2485) (do_callF (d.bE 2 rfl).1 rfl rfl) trivial rfl rfl ?_
      rintro v2491 Sv2488 w a h2489 rfl s
      have d := d.callB h2489
      refine h_n [0] [] d rfl rfl fun hC => ?_
      refine gv s 11 rfl rfl hC (fun w hC => y_not rfl) fun a s => ?_
      refine h_done (by kernel_rfl) ?_
      exact ⟨Sv2321, (s.wk rfl), (d.ft [0] [2, 3, 4] (by decide) rfl rfl)⟩
     rintro a w ⟨Sv2487, s, d⟩
     refine then_normal (wp_join (fun a w => ∃ (sv2527 : (List Record)) (k2528 : Int) (c2525 Sv2526 : _), slices_CompactFunc_Lapi_Record_api_Record_j1 sv2183 sv2527 k2528 = some tv2390 ∧ Sl 66 [(0, .slice (some ⟨b1916, 0, none⟩) sv2527.length k3), (1, .func (.func g7) f8.toArray cp9.toArray), (5, .int .i64 k2528), (6, .slice (some ⟨b1916, o2180, none⟩) l2182.length k2181), (7, .int .i64 sv2183.2.2)] a ∧ Wd ⟨w0, S0, blks [.row (some ⟨b1916, 0, none⟩) s1.length k3 c4 56 12]⟩ Sv2526 [.row (some ⟨b1916, 0, none⟩) sv2527.length k3 c2525 56 12] [FnA2 Tryz.prog g7 f8 cp9 eq6, RowA c2525 sv2527, LenA s1.length sv2527] w) ?_ ?_)
     ·refine cd s u rfl (fun u => ?_) fun u => ?_
      ·refine sn 4 [] s d rfl rfl fun a s => ?_
       obtain ⟨x2539, h2532, u⟩ := bind_t u
       obtain ⟨q2537, c2538, h2534, h2535, h2536, h2533⟩ := d.elemLK (α := Record) 0 rfl 1 rfl h2179 h2532
       obtain ⟨_, _, _, _, _, _, _, _, _, _, _, _, rfl, rfl, rfl, rfl, rfl, rfl, rfl, rfl, rfl, rfl, rfl, rfl, ⟨p2540, n2541, k2542, rfl, h2543⟩⟩ := h2533
       obtain rfl := h2543.1
       have d := d.addE (e := SlA p2540 _ k2542 x2539.Samples) h2543
       refine sv s (y_indexAt Tryz.runUnderlying28 Tryz.sizeOf56 rfl rfl h2534.1 h2534.2 h2535) rfl fun a s => ?_
       refine sv s (y_loadQA (j := 0) (d.ownAt 0 rfl) rfl Tryz.isAgg56 Tryz.sizeOf56 h2536 rfl rfl) rfl fun a s => ?_
       obtain ⟨x2546, h2544, u⟩ := bind_t u
       obtain ⟨q2550, c2551, h2547, h2548, h2552, h2545⟩ := d.elemRK (α := Record) 0 rfl 2 rfl h2544
       obtain ⟨_, _, _, _, _, _, _, _, _, _, _, _, rfl, rfl, rfl, rfl, rfl, rfl, rfl, rfl, rfl, rfl, rfl, rfl, ⟨p2553, n2554, k2555, rfl, h2556⟩⟩ := h2545
       obtain rfl := h2556.1
       have d := d.addE (e := SlA p2553 _ k2555 x2546.Samples) h2556
       refine sv s (y_indexAt Tryz.runUnderlying28 Tryz.sizeOf56 rfl rfl h2547.1 h2547.2 h2548) rfl fun a s => ?_
       obtain ⟨l2558, h2557, u⟩ := bind_t u
       have h2561 := d.envAt 4 rfl
       refine w_storeF (α := Record) s d 0 rfl 3 rfl h2548 rfl rfl Tryz.sizeOf56 rfl h2557 ⟨_, _, _, _, _, _, _, _, _, _, _, _, rfl, rfl, rfl, rfl, rfl, rfl, rfl, rfl, rfl, rfl, rfl, rfl, ⟨_, _, _, rfl, d.envAt 1 rfl⟩⟩ trivial ?_
       intro c2559 a w s d
       have d := d.addE (e := LenA s1.length l2558) (len_set (w := w) (S := S0) h2561 h2557)
       have h2560 := setM_len h2557
       try have s := s.fl 0 rfl h2560
       try have s := s.fl 50 rfl h2560
       refine nl (wp_region_lit (rn 2 [] s d rfl rfl fun a s => ?_))
       obtain ⟨k2563, h2562, u⟩ := bind_t u
       refine sv s (y_assignI rfl h2562) rfl fun a s => ?_
       exact nl ⟨l2558, k2563, c2559, Sv2487, u, (s.wk rfl), (d.ft [0] [4, 1, 0] (by decide) rfl rfl)⟩
      exact wp_skip (then_normal ⟨sv2183.1, sv2183.2.1, c2320, Sv2487, u, (s.wk rfl), (d.ft [0] [0, 1, 2] (by decide) rfl rfl)⟩)
     rintro a w ⟨sv2527, k2528, c2525, Sv2526, u, s, d⟩
     delta slices_CompactFunc_Lapi_Record_api_Record_j1 at u
     refine blk_normal (then_normal (wp_region_lit (rn 2 [] s d rfl rfl fun a s => ?_)))
     obtain ⟨k2_2530, h2529, u⟩ := bind_t u
     refine sv s (y_assignI rfl h2529) rfl fun a s => ?_
     exact nl ⟨_, (Option.some.inj u).symm, c2525, Sv2526, (s.wk rfl), (d.ft [0] [0, 1, 2] (by decide) rfl rfl)⟩
    refine wp_exit (then_exit (then_exit (blk_exit ?_)))
    have u := oi u
    subst u
    have h2564 := hd2389 _ rfl
    subst h2564
    exact then_normal ⟨c2320, Sv2321, (s.wk rfl), (d.ft [0] [1, 2] (by decide) rfl rfl)⟩
   rintro a w ⟨c2393, Sv2394, s, d⟩
   refine then_normal (sn 2 [] s d rfl rfl fun a s => ?_)
   obtain ⟨l2569, h2565, u⟩ := bind_t u
   obtain ⟨p2567, k2568, h2566⟩ := row_sub (α := Record) d 0 rfl h2565
   refine sv s (y_slc Tryz.runUnderlying28 Tryz.sizeOf56 rfl ⟨_, rfl⟩ (by exact rfl) h2566) rfl fun a s => ?_
   obtain ⟨l2570, h2571, u⟩ := bind_t u
   have h2576 := d.envAt 1 rfl
   refine w_clear (α := Record) (z0 := ((⟨(⟨ByteArray.empty, ByteArray.empty, ByteArray.empty, ByteArray.empty⟩ : SourceID), 0, 0, (⟨0, 0⟩ : Rate), 0, 0, 0, ([] : List Int)⟩ : Record) : Record)) s d 0 rfl 0 rfl El28 ⟨_, _, _, _, _, _, _, _, _, _, _, _, rfl, rfl, rfl, rfl, rfl, rfl, rfl, rfl, rfl, rfl, rfl, rfl, ⟨none, 0, 0, rfl, nil_sl⟩⟩ h2565 h2566 rfl trivial ?_
   intro c2572 a w s d
   rw [Option.some.inj h2571] at d
   have d := d.addE (e := LenA s1.length l2570) (by have q := len_copy (w := w) (S := S0) (S' := S0) (w' := w) (ys := List.replicate l2569.length ((⟨(⟨ByteArray.empty, ByteArray.empty, ByteArray.empty, ByteArray.empty⟩ : SourceID), 0, 0, (⟨0, 0⟩ : Rate), 0, 0, 0, ([] : List Int)⟩ : Record) : Record)) h2576 h2565; rw [Option.some.inj h2571] at q; exact q)
   have h2573 := (copy_lenS h2565 h2571)
   try have s := s.fl 0 rfl h2573
   try have s := s.fl 59 rfl h2573
   refine nl (sn 2 [] s d rfl rfl fun a s => ?_)
   obtain ⟨l2579, h2577, u⟩ := bind_t u
   obtain ⟨d, h2578⟩ := w_cut d 0 rfl 1 rfl h2577
   refine sv s (y_slc Tryz.runUnderlying28 Tryz.sizeOf56 rfl (by exact rfl) ⟨_, rfl⟩ h2578) rfl fun a s => ?_
   refine rz 1 [] s d rfl rfl fun a s => ?_
   have u := oi u
   subst u
   have h2580 := hd1635 _ rfl
   subst h2580
   exact wp_ret (blk_ret (then_ret (then_ret (blk_ret (then_ret (ret1 s rfl (rv_tmp rfl) (d.ret ⟨(some ⟨b1916, 0, none⟩), k3, (c2572.take (l2579.length * 12)), rfl, (d.outs [0] (by decide) rfl), (d.envAt 0 rfl)⟩)))))))
  refine wp_skip (blk_normal (then_normal (wp_region_lit (rn 2 [] s d rfl rfl fun a s => ?_))))
  obtain ⟨k2583, h2582, u⟩ := bind_t u
  refine sv s (y_assignI rfl h2582) rfl fun a s => ?_
  exact nl ⟨_, (Option.some.inj u).symm, Sv1939, (s.wk rfl), (d.ft [0] [0, 1, 2] (by decide) rfl rfl)⟩
 obtain ⟨rv2584, u, h2585⟩ := map_t u
 have h2585 := (hd1635 _ h2585.symm).symm
 subst h2585
 refine wp_exit (then_exit (then_exit (blk_exit (then_normal (sz 2 [] s d rfl rfl fun a s => ?_)))))
 have u := oi u
 subst u
 exact wp_ret (ret1 s rfl (rv_tmp rfl) (d.ret ⟨p2, k3, c4, rfl, (d.outs [0] (by decide) rfl), (d.envAt 1 rfl)⟩))
theorem slices_Equal_Lint_int_ok {w0 S0 p2 k3 p6 k7 s1_1 s2_5 r} (u : slices_Equal_Lint_int s1_1 s2_5 = some r) (hS : Dm S0 w0) (h4 : (SlA p2 s1_1.length k3 s1_1).p S0 w0) (h8 : (SlA p6 s2_5.length k7 s2_5).p S0 w0) : Calls Tryz.prog 157 #[.slice p2 s1_1.length k3, .slice p6 s2_5.length k7] w0 (Ret ([]) w0 S0 (made_Light_rd w0 ([]) r)) := by
 refine en 26 Tryz.func157 rfl hS rfl rfl rfl fun a s d => ?_
 have d := (d.addE h4).addE h8
 delta slices_Equal_Lint_int at u
 refine sz 1 [] s d rfl rfl fun a s => ?_
 refine wp_seq (sz 5 [] s d rfl rfl fun a s => ?_)
 refine cd s u rfl (fun u => ?_) fun u => ?_
 ·refine sz 1 [] s d rfl rfl fun a s => ?_
  have u := oi u
  subst u
  exact wp_ret (then_ret (ret1 s rfl (rv_tmp rfl) (d.ret rfl)))
 refine wp_skip (then_normal (wp_seq (sz 3 [] s d rfl rfl fun a s => ?_)))
 refine wp_block (wp_while (fun sv103 a w => ∃ Sv163, Sl 26 [(0, .slice p2 s1_1.length k3), (1, .slice p6 s2_5.length k7), (12, .int .i64 (s1_1.length : Int)), (13, .int .i64 sv103)] a ∧ Wd ⟨w0, S0, []⟩ Sv163 [] [SlA p2 s1_1.length k3 s1_1, SlA p6 s2_5.length k7 s2_5] w) 0 u ⟨S0, (s.wk rfl), (d.ft [] [1, 0] (by decide) rfl rfl)⟩ ?_)
 repeat clear u
 rintro sv103 a w tv194 ⟨Sv163, s, d⟩ u hd193
 delta slices_Equal_Lint_int_l2 at u
 refine sz 1 [] s d rfl rfl fun a s => ?_
 refine wp_seq (cd s u rfl (fun u => ?_) fun u => ?_)
 ·refine wp_skip (then_normal (wp_seq (wp_block (sz 2 [] s d rfl rfl fun a s => ?_))))
  refine wp_seq ?_
  obtain ⟨x229, h227, u⟩ := bind_t u
  obtain ⟨b235, o236, q233, c234, h237, h230, h231, h232, h228⟩ := d.elemV 0 rfl h227
  have hsv238 := s
  have hwv239 := d
  subst h237
  have s := hsv238
  have d := hwv239
  obtain ⟨_, rfl, rfl⟩ := h228
  have d := d.addE h232
  obtain ⟨x242, h240, u⟩ := bind_t u
  obtain ⟨b248, o249, q246, c247, h250, h243, h244, h245, h241⟩ := d.elemV 2 rfl h240
  have hsv251 := s
  have hwv252 := d
  subst h250
  have s := hsv251
  have d := hwv252
  obtain ⟨_, rfl, rfl⟩ := h241
  have d := d.addE h245
  refine wp_only (fun a w => ∃ Sv253, Sl 26 [(0, .slice (some ⟨b235, o236, none⟩) s1_1.length k3), (1, .slice (some ⟨b248, o249, none⟩) s2_5.length k7), (12, .int .i64 (s1_1.length : Int)), (13, .int .i64 sv103), (24, .bool (x229 != x242))] a ∧ Wd ⟨w0, S0, []⟩ Sv253 [] [SlA (some ⟨b235, o236, none⟩) s1_1.length k3 s1_1, SlA (some ⟨b248, o249, none⟩) s2_5.length k7 s2_5] w) ?_ ?_
  ·refine h_c [] [0, 1] d rfl rfl (by kernel_rfl) rfl fun hC d => ?_
   refine gn 2 [0, 1] [] s hC rfl rfl rfl fun a s => ?_
   refine gv s 2 rfl rfl hC (fun w hC => y_indexAt Tryz.runUnderlying22 Tryz.sizeOf3 rfl rfl h230.1 h230.2 h231) fun a s => ?_
   refine gv s 3 rfl rfl hC (fun w hC => y_loadE1 (j := 0) (hC.ceAt 1 rfl) rfl Tryz.isAgg3 rfl) fun a s => ?_
   refine gn 2 [4, 5] [] s hC rfl rfl rfl fun a s => ?_
   refine gv s 6 rfl rfl hC (fun w hC => y_indexAt Tryz.runUnderlying22 Tryz.sizeOf3 rfl rfl h243.1 h243.2 h244) fun a s => ?_
   refine gv s 7 rfl rfl hC (fun w hC => y_loadE1 (j := 0) (hC.ceAt 0 rfl) rfl Tryz.isAgg3 rfl) fun a s => ?_
   refine gv s 8 rfl rfl hC (fun w hC => y_neq rfl rfl) fun a s => ?_
   refine h_done (by kernel_rfl) ?_
   exact ⟨Sv163, (s.wk rfl), (d.ft [] [2, 3] (by decide) rfl rfl)⟩
  rintro a w ⟨Sv253, s, d⟩
  refine then_normal (cd s u rfl (fun u => ?_) fun u => ?_)
  ·refine sz 1 [] s d rfl rfl fun a s => ?_
   have u := oi u
   subst u
   have h256 := hd193 _ rfl
   subst h256
   exact wp_ret (blk_ret (then_ret (then_ret (blk_ret (then_ret (ret1 s rfl (rv_tmp rfl) (d.ret rfl)))))))
  refine wp_skip (blk_normal (then_normal (wp_region_lit (rz 2 [] s d rfl rfl fun a s => ?_))))
  exact ⟨_, (Option.some.inj u).symm, Sv253, (s.wk rfl), (d.ft [] [0, 1] (by decide) rfl rfl)⟩
 obtain ⟨rv257, u, h258⟩ := map_t u
 have h258 := (hd193 _ h258.symm).symm
 subst h258
 refine wp_exit (then_exit (then_exit (blk_exit (then_normal (sz 1 [] s d rfl rfl fun a s => ?_)))))
 have u := oi u
 subst u
 exact wp_ret (ret1 s rfl (rv_tmp rfl) (d.ret rfl))
theorem record_Same_ok {w0 S0 p2 k3 p6 k7 a1 b5 r} (u : record_Same a1 b5 = some r) (hS : Dm S0 w0) (h4 : (SlA p2 a1.Samples.length k3 a1.Samples).p S0 w0) (h8 : (SlA p6 b5.Samples.length k7 b5.Samples).p S0 w0) : Calls Tryz.prog 128 #[V56 a1 p2 k3, V56 b5 p6 k7] w0 (Ret ([]) w0 S0 (made_Light_rd w0 ([]) r)) := by
 refine en 59 Tryz.func128 rfl hS rfl rfl rfl fun a s d => ?_
 have d := (d.addE h4).addE h8
 delta record_Same at u
 refine sr (w_box (cs := (C56 a1 p2 k3)) s d rfl rfl rfl trivial ?_)
 intro b9 a w s d
 refine w_box (cs := (C56 b5 p6 k7)) s d rfl rfl rfl trivial ?_
 intro b10 a w s d
 refine rz 1 [] s d rfl rfl fun a s => ?_
 refine sn 4 [1, 0] s d rfl rfl fun a s => ?_
 refine sv s (y_eqlA (by kernel_rfl) rfl rfl (eqv_struct Tryz.runUnderlying52 (by kernel_rfl) (EqF.cons1 rfl Tryz.isAgg9 rfl rfl (eqv_str Tryz.runUnderlying9) (EqF.cons1 rfl Tryz.isAgg9 rfl rfl (eqv_str Tryz.runUnderlying9) (EqF.cons1 rfl Tryz.isAgg9 rfl rfl (eqv_str Tryz.runUnderlying9) (EqF.cons1 rfl Tryz.isAgg9 rfl rfl (eqv_str Tryz.runUnderlying9) EqF.nil)))))) rfl fun a s => ?_
 refine mv s rfl rfl fun a s => ?_
 refine rA 6 10 [1, 0] s d rfl rfl rfl rfl rfl fun a s => ?_
 refine mv s rfl rfl fun a s => ?_
 refine rA 6 17 [1, 0] s d rfl rfl rfl rfl rfl fun a s => ?_
 refine mv s rfl rfl fun a s => ?_
 refine wpl_join 6 (fun a w1 => w = w1 ∧ Sl 59 [(2, .pointer (some ⟨b9, 0, none⟩)), (3, .pointer (some ⟨b10, 0, none⟩)), (30, .bool (((((a1.Source.Network == b5.Source.Network) && ((a1.Source.Station == b5.Source.Station) && ((a1.Source.Location == b5.Source.Location) && ((a1.Source.Channel == b5.Source.Channel) && true)))) && (a1.Start == b5.Start)) && (a1.First == b5.First)) && ((a1.Rate.Num == b5.Rate.Num) && ((a1.Rate.Den == b5.Rate.Den) && true))))] a) ?_ ?_
 ·rcases Bool.eq_false_or_eq_true ((((a1.Source.Network == b5.Source.Network) && ((a1.Source.Station == b5.Source.Station) && ((a1.Source.Location == b5.Source.Location) && ((a1.Source.Channel == b5.Source.Channel) && true)))) && (a1.Start == b5.Start)) && (a1.First == b5.First)) with h13 | h13
  ·have s := s.fix 24 (.bool true) rfl (vb h13)
   refine rn 4 [1, 0] s d rfl rfl fun a s => ?_
   refine st_val s (y_eqlA (by kernel_rfl) rfl rfl (eqv_struct Tryz.runUnderlying54 (by kernel_rfl) (EqF.cons1 rfl Tryz.isAgg3 rfl rfl (eqv_int Tryz.runUnderlying3) (EqF.cons1 rfl Tryz.isAgg3 rfl rfl (eqv_int Tryz.runUnderlying3) EqF.nil)))) ⟨_, rfl, rfl⟩ rfl rfl fun a s => ?_
   refine rz 1 [] s d rfl rfl fun a s => ?_
   exact ⟨rfl, (s.fix 30 (.bool (((((a1.Source.Network == b5.Source.Network) && ((a1.Source.Station == b5.Source.Station) && ((a1.Source.Location == b5.Source.Location) && ((a1.Source.Channel == b5.Source.Channel) && true)))) && (a1.Start == b5.Start)) && (a1.First == b5.First)) && ((a1.Rate.Num == b5.Rate.Num) && ((a1.Rate.Den == b5.Rate.Den) && true)))) rfl (and_t h13)).weaken _ ⟨rfl, rfl, rfl, trivial⟩⟩
  have s := s.fix 24 (.bool false) rfl (vb h13)
  refine rz 6 [] s d rfl rfl fun a s => ?_
  exact ⟨rfl, (s.fix 30 (.bool (((((a1.Source.Network == b5.Source.Network) && ((a1.Source.Station == b5.Source.Station) && ((a1.Source.Location == b5.Source.Location) && ((a1.Source.Channel == b5.Source.Channel) && true)))) && (a1.Start == b5.Start)) && (a1.First == b5.First)) && ((a1.Rate.Num == b5.Rate.Num) && ((a1.Rate.Den == b5.Rate.Den) && true)))) rfl (and_f h13)).weaken _ ⟨rfl, rfl, rfl, trivial⟩⟩
 rintro a w1 ⟨h34, s⟩
 subst h34
 refine mv s rfl rfl fun a s => ?_
 refine rA 6 31 [1, 0] s d rfl rfl rfl rfl rfl fun a s => ?_
 refine mv s rfl rfl fun a s => ?_
 refine rA 6 38 [1, 0] s d rfl rfl rfl rfl rfl fun a s => ?_
 refine mv s rfl rfl fun a s => ?_
 refine rA 6 45 [1, 0] s d rfl rfl rfl rfl rfl fun a s => ?_
 refine mv s rfl rfl fun a s => ?_
 obtain ⟨c25, hc25, u⟩ := bind_t u
 refine wpl_join 6 (fun a w => ∃ Sv26, Sl 59 [(58, .bool c25)] a ∧ Wd ⟨w0, S0, []⟩ Sv26 [] [] w) ?_ ?_
 ·rcases Bool.eq_false_or_eq_true ((((((((a1.Source.Network == b5.Source.Network) && ((a1.Source.Station == b5.Source.Station) && ((a1.Source.Location == b5.Source.Location) && ((a1.Source.Channel == b5.Source.Channel) && true)))) && (a1.Start == b5.Start)) && (a1.First == b5.First)) && ((a1.Rate.Num == b5.Rate.Num) && ((a1.Rate.Den == b5.Rate.Den) && true))) && (a1.Error == b5.Error)) && (a1.Run == b5.Run)) && (a1.Seq == b5.Seq)) with h24 | h24
  ·have s := s.fix 52 (.bool true) rfl (vb h24)
   have u := ite_t hc25 h24
   refine rn 4 [1, 0] s d rfl rfl fun a s => ?_
   obtain ⟨rv28, h27, u⟩ := bind_t u
   refine st_callR s (slices_Equal_Lint_int_ok h27 d.bdom (d.bE 1 rfl) (d.bE 0 rfl)) (do_call Tryz.call157 rfl) ⟨_, rfl, rfl⟩ rfl rfl ?_
   rintro v32 Sv29 w a h30 rfl s
   have d := d.callB h30
   refine sv s (y_pickT rfl rfl) rfl fun a s => ?_
   refine wpList_nil ?_
   have u := oi u
   subst u
   exact then_normal ⟨S0, (s.wk rfl), (d.ft [] [] (by decide) rfl rfl)⟩
  have s := s.fix 52 (.bool false) rfl (vb h24)
  have u := ite_f hc25 h24
  refine rn 6 [] s d rfl rfl fun a s => ?_
  refine wpList_nil ?_
  have u := oi u
  subst u
  exact then_normal ⟨S0, (s.wk rfl), (d.ft [] [] (by decide) rfl rfl)⟩
 rintro a w ⟨Sv26, s, d⟩
 refine rz 1 [] s d rfl rfl fun a s => ?_
 have u := oi u
 subst u
 exact wp_ret (ret1 s rfl (rv_tmp rfl) (d.ret rfl))
theorem record_Same_fn (S0 : Nat → Prop) (w0 : World) : (FnA2 Tryz.prog 128 [] [] record_Same).p S0 w0 := by
  refine ⟨Tryz.call128, ?_⟩
  rintro S1 w1 hk hS c0 c1 x0 x1 r1 ⟨_, _, _, _, _, _, _, _, _, _, _, _, rfl, rfl, rfl, rfl, rfl, rfl, rfl, rfl, rfl, rfl, rfl, rfl, ⟨_, _, _, rfl, e0⟩⟩ h1 hf
  obtain ⟨_, _, _, _, _, _, _, _, _, _, _, _, rfl, rfl, rfl, rfl, rfl, rfl, rfl, rfl, rfl, rfl, rfl, rfl, ⟨_, _, _, rfl, e1⟩⟩ := h1
  obtain rfl := e0.1
  obtain rfl := e1.1
  exact record_Same_ok hf hS e0 e1 
theorem compose_order_ok {w0 S0 p2 k3 l1 r} (u : compose_order l1 = some r) (hS : Dm S0 w0) (h4 : (SlA p2 l1.length k3 l1).p S0 w0) : Calls Tryz.prog 89 #[.slice p2 l1.length k3] w0 (Ret ([]) w0 S0 (slices_Clone_Lapi_Record_api_Record_rd w0 ([]) r)) := by
 refine en 27 Tryz.func89 rfl hS rfl rfl rfl fun a s d => ?_
 have d := d.addE h4
 delta compose_order at u
 refine sz 1 [] s d rfl rfl fun a s => ?_
 refine sn 1 [] s d rfl rfl fun a s => ?_
 obtain ⟨rv6, h5, u⟩ := bind_t u
 refine st_callR s (slices_Clone_Lapi_Record_api_Record_ok h5 d.dom (d.envAt 0 rfl)) (do_call Tryz.call124 rfl) trivial rfl rfl ?_
 rintro v14 Sv11 w a h12 ⟨p7, k8, c10, rfl, h15, h9⟩ s
 have d := (d.callN h12 h15).addE (e := RowA c10 rv6) h9
 refine rz 1 [] s d rfl rfl fun a s => ?_
 refine wp_seq (sz 3 [] s d rfl rfl fun a s => ?_)
 obtain ⟨e169, h292, u⟩ := bind_t u
 refine wp_join (fun a w => ∃ c170 p171 k172 Sv173, Sl 27 [(3, .slice p171 e169.length k172)] a ∧ Wd ⟨w0, S0, []⟩ Sv173 [.row p171 e169.length k172 c170 56 12] [RowA c170 e169] w) ?_ ?_
 ·refine wp_block (wp_while (fun sv16 a w => ∃ c115 p116 k117 Sv118, Sl 27 [(3, .slice p116 sv16.1.length k117), (8, .int .i64 (rv6.length : Int)), (9, .int .i64 sv16.2)] a ∧ Wd ⟨w0, S0, []⟩ Sv118 [.row p116 sv16.1.length k117 c115 56 12] [RowA c115 sv16.1] w) (rv6, 0) h292 ⟨c10, p7, k8, Sv11, (s.wk rfl), (d.ft [0] [0] (by decide) rfl rfl)⟩ ?_)
  clear h292
  repeat clear u
  rintro sv16 a w tv167 ⟨c115, p116, k117, Sv118, s, d⟩ u hd166
  delta compose_order_l1 at u
  refine sz 1 [] s d rfl rfl fun a s => ?_
  refine wp_seq (cd s u rfl (fun u => ?_) fun u => ?_)
  ·refine wp_skip (then_normal (wp_seq (wp_block (sz 2 [] s d rfl rfl fun a s => ?_))))
   refine wp_region_lit (rn 4 [] s d rfl rfl fun a s => ?_)
   obtain ⟨x224, h222, u⟩ := bind_t u
   obtain ⟨b231, q228, c229, h232, h225, h226, h230, h223⟩ := d.elemRV (α := Record) 0 rfl 0 rfl h222
   have hsv233 := s
   have hwv234 := d
   subst h232
   have s := hsv233
   have d := hwv234
   obtain ⟨_, _, _, _, _, _, _, _, _, _, _, _, rfl, rfl, rfl, rfl, rfl, rfl, rfl, rfl, rfl, rfl, rfl, rfl, ⟨p235, n236, k237, rfl, h238⟩⟩ := h223
   obtain rfl := h238.1
   have d := d.addE (e := SlA p235 _ k237 x224.Samples) h238
   refine sv s (y_indexAt Tryz.runUnderlying28 Tryz.sizeOf56 rfl rfl h225.1 h225.2 h226) rfl fun a s => ?_
   refine sv s (y_fieldAddr (o' := q228 + 11) Tryz.runUnderlying56 rfl Tryz.sizeOf22 rfl rfl rfl) rfl fun a s => ?_
   refine sv s (y_loadQ1 (j := 11) (d.ownAt 0 rfl) rfl Tryz.isAgg22 h230 rfl) rfl fun a s => ?_
   obtain ⟨rv240, h239, u⟩ := bind_t u
   refine st_callR s (slices_Clone_Lint_int_ok h239 d.dom (d.envAt 0 rfl)) (do_call Tryz.call66 rfl) trivial rfl rfl ?_
   rintro v248 Sv245 w a h246 ⟨p241, k242, c244, rfl, h249, h243⟩ s
   have d := (d.callN h246 h249).addE (e := RowA c244 rv240) h243
   obtain ⟨x252, h250, u⟩ := bind_t u
   obtain ⟨q256, c257, h253, h254, h258, h251⟩ := d.elemRK (α := Record) 1 rfl 2 rfl h250
   obtain ⟨_, _, _, _, _, _, _, _, _, _, _, _, rfl, rfl, rfl, rfl, rfl, rfl, rfl, rfl, rfl, rfl, rfl, rfl, ⟨p259, n260, k261, rfl, h262⟩⟩ := h251
   obtain rfl := h262.1
   have d := d.addE (e := SlA p259 _ k261 x252.Samples) h262
   refine sv s (y_indexAt Tryz.runUnderlying28 Tryz.sizeOf56 rfl rfl h253.1 h253.2 h254) rfl fun a s => ?_
   refine sv s (y_fieldAddr (o' := q256 + 11) Tryz.runUnderlying56 rfl Tryz.sizeOf22 rfl rfl rfl) rfl fun a s => ?_
   obtain ⟨l264, h263, u⟩ := bind_t u
   obtain ⟨Sv267, d⟩ := w_share (α := Int) d 0 rfl 1 rfl
   refine w_storeR (α := Record) (f := 11) (m := 1) s d 0 rfl 4 rfl h254 rfl rfl Tryz.sizeOf22 rfl rfl rfl h263 (fun es he => by rw [h258] at he; subst he; exact ⟨_, _, _, _, _, _, _, _, _, _, _, _, rfl, rfl, rfl, rfl, rfl, rfl, rfl, rfl, rfl, rfl, rfl, rfl, ⟨_, _, _, rfl, d.envAt 0 rfl⟩⟩) trivial ?_
   intro c265 a w s d
   have h266 := setM_len h263
   try have s := s.fl 3 rfl h266
   try have s := s.fl 12 rfl h266
   try have s := s.fl 14 rfl h266
   refine wpList_nil ?_
   refine blk_normal (then_normal (wp_region_lit (rz 2 [] s d rfl rfl fun a s => ?_)))
   exact ⟨_, (Option.some.inj u).symm, c265, (some ⟨b231, 0, none⟩), k117, Sv267, (s.wk rfl), (d.ft [0] [0] (by decide) rfl rfl)⟩
  refine wp_exit (then_exit (then_exit (blk_exit ?_)))
  have u := oi u
  subst u
  have h268 := hd166 _ rfl
  subst h268
  exact then_normal ⟨c115, p116, k117, Sv118, (s.wk rfl), (d.ft [0] [0] (by decide) rfl rfl)⟩
 rintro a w ⟨c170, p171, k172, Sv173, s, d⟩
 refine then_normal (sn 1 [] s d rfl rfl fun a s => ?_)
 obtain ⟨rv270, h269, u⟩ := bind_t u
 refine st_callR s (slices_SortFunc_Lapi_Record_api_Record_ok h269 d.dom (d.ins [0] (by decide) rfl) (d.envAt 0 rfl) (record_Compare_fn _ _)) (do_call Tryz.call125 rfl) trivial rfl rfl ?_
 rintro v277 Sv274 w a h275 ⟨c271, rfl, h278, h272, h273⟩ s
 have d := (d.callO [0] [] (by decide) rfl h275 h278).addE (e := RowA c271 rv270) h272
 have h279 := h273
 have h280 := Eq.symm h279
 try have s := s.fl 3 rfl h280
 try have s := s.fl 23 rfl h280
 refine nl (sn 1 [] s d rfl rfl fun a s => ?_)
 obtain ⟨rv282, h281, u⟩ := bind_t u
 refine st_callR s (slices_CompactFunc_Lapi_Record_api_Record_ok h281 d.dom (d.ins [0] (by decide) rfl) (d.envAt 0 rfl) (record_Same_fn _ _)) (do_call Tryz.call127 rfl) trivial rfl rfl ?_
 rintro v290 Sv287 w a h288 ⟨p283, k284, c286, rfl, h291, h285⟩ s
 have d := (d.callO [0] [] (by decide) rfl h288 h291).addE (e := RowA c286 rv282) h285
 refine rz 1 [] s d rfl rfl fun a s => ?_
 have u := oi u
 subst u
 exact wp_ret (ret1 s rfl (rv_tmp rfl) (d.ret ⟨p283, k284, c286, rfl, (d.outs [0] (by decide) rfl), (d.envAt 0 rfl)⟩))
abbrev compose_Order_rd (w0 : World) (X : List Nat) (r : ((List Record) × Int)) : Rd := fun S w v => ∃ p0_0 k0_0 c0_0, v = .tuple #[.slice p0_0 r.1.length k0_0, .int .i64 r.2] ∧ Outs X w0 S w [.row p0_0 r.1.length k0_0 c0_0 56 12] ∧ (RowA c0_0 r.1).p S w
theorem compose_Order_ok {w0 S0 p2 k3 l1 r} (u : compose_Order l1 = some r) (hS : Dm S0 w0) (h4 : (SlA p2 l1.length k3 l1).p S0 w0) : Calls Tryz.prog 51 #[.slice p2 l1.length k3] w0 (Ret ([]) w0 S0 (compose_Order_rd w0 ([]) r)) := by
 refine en 9 Tryz.func51 rfl hS rfl rfl rfl fun a s d => ?_
 have d := d.addE h4
 delta compose_Order at u
 refine sz 2 [] s d rfl rfl fun a s => ?_
 refine wp_seq (sn 1 [] s d rfl rfl fun a s => ?_)
 obtain ⟨rv6, h5, u⟩ := bind_t u
 refine st_callR s (compose_Valid_ok h5 d.bdom (d.bE 0 rfl)) (do_call Tryz.call86 rfl) trivial rfl rfl ?_
 rintro v10 Sv7 w a h8 rfl s
 have d := d.callB h8
 refine rz 1 [] s d rfl rfl fun a s => ?_
 refine cd s u rfl (fun u => ?_) fun u => ?_
 ·refine sz 2 [] s d rfl rfl fun a s => ?_
  have u := oi u
  subst u
  have d := d.nilRow Record 56
  exact wp_ret (then_ret (ret2 s rfl (rv_tmp rfl) (rv_tmp rfl) (d.ret ⟨none, 0, [], rfl, (d.outs [0] (by decide) rfl), (d.envAt 0 rfl)⟩)))
 refine wp_skip (then_normal (sn 1 [] s d rfl rfl fun a s => ?_))
 obtain ⟨rv15, h14, u⟩ := bind_t u
 refine st_callR s (compose_order_ok h14 d.dom (d.envAt 0 rfl)) (do_call Tryz.call89 rfl) trivial rfl rfl ?_
 rintro v23 Sv20 w a h21 ⟨p16, k17, c19, rfl, h24, h18⟩ s
 have d := (d.callN h21 h24).addE (e := RowA c19 rv15) h18
 refine rz 2 [] s d rfl rfl fun a s => ?_
 have u := oi u
 subst u
 exact wp_ret (ret2 s rfl (rv_tmp rfl) (rv_tmp rfl) (d.ret ⟨p16, k17, c19, rfl, (d.outs [0] (by decide) rfl), (d.envAt 0 rfl)⟩))
theorem continuity_at_ok {w0 S0 p2 k3 r1 i5 r} (u : continuity_at r1 i5 = some r) (hS : Dm S0 w0) (h4 : (SlA p2 r1.Samples.length k3 r1.Samples).p S0 w0) : Calls Tryz.prog 90 #[V56 r1 p2 k3, .int .i64 i5] w0 (Ret ([]) w0 S0 (slices_IndexFunc_Lapi_Record_api_Record_rd w0 ([]) r)) := by
 refine en 20 Tryz.func90 rfl hS rfl rfl rfl fun a s d => ?_
 have d := d.addE h4
 delta continuity_at at u
 refine sr (w_box (cs := (C56 r1 p2 k3)) s d rfl rfl rfl trivial ?_)
 intro b6 a w s d
 refine rz 1 [] s d rfl rfl fun a s => ?_
 refine sn 8 [0, 0, 0] s d rfl rfl fun a s => ?_
 obtain ⟨rv8, h7, u⟩ := bind_t u
 refine st_callR s (rate_Time_ok h7 d.bdom) (do_call Tryz.call94 rfl) trivial rfl rfl ?_
 rintro v12 Sv9 w a h10 rfl s
 have d := d.callB h10
 refine rz 5 [] s d rfl rfl fun a s => ?_
 refine sz 2 [] s d rfl rfl fun a s => ?_
 have u := oi u
 subst u
 exact wp_ret (ret1 s rfl (rv_tmp rfl) (d.ret rfl))
end Go.Proofs.YtdcafiefjakfeaaGreat.Wk
namespace Go.Proofs
open Go Go.Shelf Go.RowKit Go.Lib Go.Sort
def Tryz.sort91_ren : Go.Shelf.Ren := ⟨fun | 5 => 91 | 8 => 130 | 7 => 129 | 19 => 167 | 20 => 168 | 10 => 158 | 11 => 159 | 12 => 160 | 13 => 161 | 14 => 162 | 15 => 163 | 16 => 164 | 17 => 165 | 18 => 166 | 30 => 194 | 31 => 195 | 32 => 196 | 33 => 197 | 34 => 198 | 35 => 151 | 40 => 206 | n => n, fun | 23 => 22 | 25 => 3 | 3 => 3 | 32 => 146 | 22 => 22 | 0 => 0 | 44 => 172 | 46 => 174 | 4 => 4 | 36 => 166 | 35 => 165 | 41 => 44 | 5 => 5 | 9 => 9 | 53 => 191 | 57 => 195 | 63 => 202 | 64 => 203 | n => n, fun | n => n⟩
theorem Tryz.sort91 : Go.Proofs.SlLaysM.n5 Tryz.prog Tryz.sort91_ren where
  mixed := by kernel_rfl
  f5 := ⟨Tryz.f91.name, by decide, Tryz.func91.trans (congrArg some (by kernel_rfl))⟩
  f7 := ⟨Tryz.f129.name, by decide, Tryz.func129.trans (congrArg some (by kernel_rfl))⟩
  f8 := Tryz.func130.trans (congrArg some (by kernel_rfl))
  f10 := ⟨Tryz.f158.name, by decide, Tryz.func158.trans (congrArg some (by kernel_rfl))⟩
  f11 := ⟨Tryz.f159.name, by decide, Tryz.func159.trans (congrArg some (by kernel_rfl))⟩
  f12 := ⟨Tryz.f160.name, by decide, Tryz.func160.trans (congrArg some (by kernel_rfl))⟩
  f13 := ⟨Tryz.f161.name, by decide, Tryz.func161.trans (congrArg some (by kernel_rfl))⟩
  f14 := ⟨Tryz.f162.name, by decide, Tryz.func162.trans (congrArg some (by kernel_rfl))⟩
  f15 := ⟨Tryz.f163.name, by decide, Tryz.func163.trans (congrArg some (by kernel_rfl))⟩
  f16 := ⟨Tryz.f164.name, by decide, Tryz.func164.trans (congrArg some (by kernel_rfl))⟩
  f17 := ⟨Tryz.f165.name, by decide, Tryz.func165.trans (congrArg some (by kernel_rfl))⟩
  f18 := ⟨Tryz.f166.name, by decide, Tryz.func166.trans (congrArg some (by kernel_rfl))⟩
  f19 := Tryz.func167.trans (congrArg some (by kernel_rfl))
  f20 := Tryz.func168.trans (congrArg some (by kernel_rfl))
  f30 := ⟨Tryz.f194.name, by decide, Tryz.func194.trans (congrArg some (by kernel_rfl))⟩
  f31 := Tryz.func195.trans (congrArg some (by kernel_rfl))
  f32 := Tryz.func196.trans (congrArg some (by kernel_rfl))
  f33 := ⟨Tryz.f197.name, by decide, Tryz.func197.trans (congrArg some (by kernel_rfl))⟩
  f34 := ⟨Tryz.f198.name, by decide, Tryz.func198.trans (congrArg some (by kernel_rfl))⟩
  f35 := ⟨Tryz.f151.name, by decide, Tryz.func151.trans (congrArg some (by kernel_rfl))⟩
  f40 := ⟨Tryz.f206.name, by decide, Tryz.func206.trans (congrArg some (by kernel_rfl))⟩
  t0 := Tryz.underlying0
  a0 := Tryz.isAgg0
  z0 := Tryz.sizeOf0
  v0 := Tryz.zeroValue0
  t3 := Tryz.underlying3
  a3 := Tryz.isAgg3
  z3 := Tryz.sizeOf3
  v3 := Tryz.zeroValue3
  t4 := Tryz.underlying4
  a4 := Tryz.isAgg4
  z4 := Tryz.sizeOf4
  v4 := Tryz.zeroValue4
  t5 := Tryz.underlying5
  a5 := Tryz.isAgg5
  z5 := Tryz.sizeOf5
  v5 := Tryz.zeroValue5
  t9 := Tryz.underlying9
  a9 := Tryz.isAgg9
  z9 := Tryz.sizeOf9
  v9 := Tryz.zeroValue9
  t22 := Tryz.underlying22
  a22 := Tryz.isAgg22
  z22 := Tryz.sizeOf22
  v22 := Tryz.zeroValue22
  t23 := Tryz.underlying22
  a23 := Tryz.isAgg22
  z23 := Tryz.sizeOf22
  v23 := Tryz.zeroValue22
  t25 := Tryz.underlying3
  a25 := Tryz.isAgg3
  z25 := Tryz.sizeOf3
  v25 := Tryz.zeroValue3
  t32 := Tryz.underlying146
  a32 := Tryz.isAgg146
  z32 := Tryz.sizeOf146
  v32 := Tryz.zeroValue146
  t35 := Tryz.underlying165
  a35 := Tryz.isAgg165
  z35 := Tryz.sizeOf165
  v35 := Tryz.zeroValue165
  t36 := Tryz.underlying166
  a36 := Tryz.isAgg166
  z36 := Tryz.sizeOf166
  v36 := Tryz.zeroValue166
  t41 := Tryz.underlying44
  a41 := Tryz.isAgg44
  z41 := Tryz.sizeOf44
  v41 := Tryz.zeroValue44
  t44 := Tryz.underlying172
  a44 := Tryz.isAgg172
  z44 := Tryz.sizeOf172
  v44 := Tryz.zeroValue172
  t46 := Tryz.underlying174
  a46 := Tryz.isAgg174
  z46 := Tryz.sizeOf174
  v46 := Tryz.zeroValue174
  t53 := Tryz.underlying191
  a53 := Tryz.isAgg191
  z53 := Tryz.sizeOf191
  v53 := Tryz.zeroValue191
  t57 := Tryz.underlying195
  a57 := Tryz.isAgg195
  z57 := Tryz.sizeOf195
  v57 := Tryz.zeroValue195
  t63 := Tryz.underlying202
  a63 := Tryz.isAgg202
  z63 := Tryz.sizeOf202
  v63 := Tryz.zeroValue202
  t64 := Tryz.underlying203
  a64 := Tryz.isAgg203
  z64 := Tryz.sizeOf203
  v64 := Tryz.zeroValue203
end Go.Proofs
namespace Go.Proofs.YtdcafiefjakfeaaGreat.Wk
open Go Go.RowKit Go.Proofs Go.Proofs.YtdcafiefjakfeaaGreat.Sh
set_option linter.unusedVariables false
set_option linter.unusedSimpArgs false
abbrev slices_Sort_Lint_int_rd (w0 : World) (X : List Nat) (p2 : Option Addr) (k3 : Nat) (x1 : (List Int)) (r : (List Int)) : (Nat → Prop) → World → Value → Prop := fun S w v => ∃ ck_0, v = .tuple #[] ∧ Outs X w0 S w [.row p2 r.length k3 ck_0 3 1] ∧ (RowA ck_0 r).p S w ∧ (LenA x1.length r).p S w
theorem slices_Sort_Lint_int_ok {w0 S0 p2 k3 c4 x1 r} (u : slices_Sort_Lint_int x1 = some r) (hS : Dm S0 w0) (hin : Ins S0 w0 [.row p2 x1.length k3 c4 3 1]) (h5 : (RowA c4 x1).p S0 w0) : Calls Tryz.prog 91 #[.slice p2 x1.length k3] w0 (Ret (blks [.row p2 x1.length k3 c4 3 1]) w0 S0 (slices_Sort_Lint_int_rd w0 (blks [.row p2 x1.length k3 c4 3 1]) p2 k3 x1 r)) := by
 exact sort_int (T := 3) Tryz.sort91 u hS hin h5
theorem slices_Compact_Lint_int_ok {w0 S0 p2 k3 c4 s1 r} (u : slices_Compact_Lint_int s1 = some r) (hS : Dm S0 w0) (hin : Ins S0 w0 [.row p2 s1.length k3 c4 3 1]) (h5 : (RowA c4 s1).p S0 w0) : Calls Tryz.prog 92 #[.slice p2 s1.length k3] w0 (Ret (blks [.row p2 s1.length k3 c4 3 1]) w0 S0 (slices_Clone_Lint_int_rd w0 (blks [.row p2 s1.length k3 c4 3 1]) r)) := by
 refine enI 61 Tryz.func92 rfl hS hin rfl rfl rfl fun a s d => ?_
 have d := (d.addE h5).addE (e := LenA s1.length s1) len_rfl
 delta slices_Compact_Lint_int at u
 refine sz 1 [] s d rfl rfl fun a s => ?_
 refine wp_seq (sz 3 [] s d rfl rfl fun a s => ?_)
 refine cd s u rfl (fun u => ?_) fun u => ?_
 ·refine sz 2 [] s d rfl rfl fun a s => ?_
  have u := oi u
  subst u
  exact wp_ret (then_ret (ret1 s rfl (rv_tmp rfl) (d.ret ⟨p2, k3, c4, rfl, (d.outs [0] (by decide) rfl), (d.envAt 1 rfl)⟩)))
 refine wp_skip (then_normal (wp_seq (sz 1 [] s d rfl rfl fun a s => ?_)))
 refine wp_block (wp_while (fun sv628 a w => ∃ Sv1040, Sl 61 [(0, .slice p2 s1.length k3), (3, .int .i64 sv628)] a ∧ Wd ⟨w0, S0, blks [.row p2 s1.length k3 c4 3 1]⟩ Sv1040 [.row p2 s1.length k3 c4 3 1] [RowA c4 s1, LenA s1.length s1] w) 1 u ⟨S0, (s.wk rfl), (d.ft [0] [1, 0] (by decide) rfl rfl)⟩ ?_)
 repeat clear u
 rintro sv628 a w tv1247 ⟨Sv1040, s, d⟩ u hd1246
 delta slices_Compact_Lint_int_l7 at u
 refine wp_seq (sz 4 [] s d rfl rfl fun a s => ?_)
 refine cd s u rfl (fun u => ?_) fun u => ?_
 ·refine wp_skip (then_normal (wp_seq (wp_block (wp_seq ?_))))
  obtain ⟨x1456, h1454, u⟩ := bind_t u
  obtain ⟨b1463, q1460, c1461, h1464, h1457, h1458, h1462, h1455⟩ := d.elemRV (α := Int) 0 rfl 0 rfl h1454
  have hsv1465 := s
  have hwv1466 := d
  subst h1464
  have s := hsv1465
  have d := hwv1466
  obtain ⟨_, rfl, rfl⟩ := h1455
  obtain ⟨x1469, h1467, u⟩ := bind_t u
  obtain ⟨q1473, c1474, h1470, h1471, h1475, h1468⟩ := d.elemRK (α := Int) 0 rfl 0 rfl h1467
  obtain ⟨_, rfl, rfl⟩ := h1468
  refine wp_only (fun a w => ∃ Sv1476, Sl 61 [(0, .slice (some ⟨b1463, 0, none⟩) s1.length k3), (3, .int .i64 sv628), (25, .bool (x1456 == x1469))] a ∧ Wd ⟨w0, S0, blks [.row (some ⟨b1463, 0, none⟩) s1.length k3 c4 3 1]⟩ Sv1476 [.row (some ⟨b1463, 0, none⟩) s1.length k3 c4 3 1] [RowA c4 s1, LenA s1.length s1] w) ?_ ?_
  ·refine h_c [0] [] d rfl rfl (by kernel_rfl) rfl fun hC d => ?_
   refine gn 2 [0, 1] [] s hC rfl rfl rfl fun a s => ?_
   refine gv s 2 rfl rfl hC (fun w hC => y_indexAt Tryz.runUnderlying22 Tryz.sizeOf3 rfl rfl h1457.1 h1457.2 h1458) fun a s => ?_
   refine gv s 3 rfl rfl hC (fun w hC => y_loadQ1 (j := 0) (hC.ownAt 0 rfl) rfl Tryz.isAgg3 h1462 rfl) fun a s => ?_
   refine gn 3 [4, 5, 6] [] s hC rfl rfl rfl fun a s => ?_
   refine gv s 7 rfl rfl hC (fun w hC => y_indexAt Tryz.runUnderlying22 Tryz.sizeOf3 rfl rfl h1470.1 h1470.2 h1471) fun a s => ?_
   refine gv s 8 rfl rfl hC (fun w hC => y_loadQ1 (j := 0) (hC.ownAt 0 rfl) rfl Tryz.isAgg3 h1475 rfl) fun a s => ?_
   refine gv s 9 rfl rfl hC (fun w hC => y_eql rfl rfl) fun a s => ?_
   refine h_done (by kernel_rfl) ?_
   exact ⟨Sv1040, (s.wk rfl), (d.ft [0] [0, 1] (by decide) rfl rfl)⟩
  rintro a w ⟨Sv1476, s, d⟩
  refine then_normal (cd s u rfl (fun u => ?_) fun u => ?_)
  ·refine sn 2 [] s d rfl rfl fun a s => ?_
   obtain ⟨l1661, h1657, u⟩ := bind_t u
   obtain ⟨o1659, k1660, h1658⟩ := row_sub_at (α := Int) d 0 rfl h1657
   refine sv s (y_slc Tryz.runUnderlying22 Tryz.sizeOf3 rfl ⟨_, rfl⟩ (by exact rfl) h1658) rfl fun a s => ?_
   refine rz 1 [] s d rfl rfl fun a s => ?_
   refine wp_seq (sz 1 [] s d rfl rfl fun a s => ?_)
   obtain ⟨e1817, h1958, u⟩ := bind_t u
   refine wp_join (fun a w => ∃ c1818 Sv1819, Sl 61 [(0, .slice (some ⟨b1463, 0, none⟩) e1817.1.length k3), (3, .int .i64 e1817.2)] a ∧ Wd ⟨w0, S0, blks [.row (some ⟨b1463, 0, none⟩) s1.length k3 c4 3 1]⟩ Sv1819 [.row (some ⟨b1463, 0, none⟩) e1817.1.length k3 c1818 3 1] [RowA c1818 e1817.1, LenA s1.length e1817.1] w) ?_ ?_
   ·refine wp_block (wp_while (fun sv1662 a w => ∃ c1763 Sv1764, Sl 61 [(0, .slice (some ⟨b1463, 0, none⟩) sv1662.1.length k3), (3, .int .i64 sv1662.2.1), (4, .slice (some ⟨b1463, o1659, none⟩) l1661.length k1660), (5, .int .i64 sv1662.2.2)] a ∧ Wd ⟨w0, S0, blks [.row (some ⟨b1463, 0, none⟩) s1.length k3 c4 3 1]⟩ Sv1764 [.row (some ⟨b1463, 0, none⟩) sv1662.1.length k3 c1763 3 1] [RowA c1763 sv1662.1, LenA s1.length sv1662.1] w) (s1, sv628, 1) h1958 ⟨c4, Sv1476, (s.wk rfl), (d.ft [0] [0, 1] (by decide) rfl rfl)⟩ ?_)
    clear h1958
    repeat clear u
    rintro sv1662 a w tv1815 ⟨c1763, Sv1764, s, d⟩ u hd1814
    delta slices_Compact_Lint_int_l11 at u
    refine wp_seq (sz 4 [] s d rfl rfl fun a s => ?_)
    refine cd s u rfl (fun u => ?_) fun u => ?_
    ·refine wp_skip (then_normal (wp_seq (wp_block (wp_seq ?_))))
     obtain ⟨x1875, h1868, u⟩ := bind_t u
     obtain ⟨q1873, c1874, h1870, h1871, h1872, h1869⟩ := d.elemLK (α := Int) 0 rfl 0 rfl h1658 h1868
     obtain ⟨_, rfl, rfl⟩ := h1869
     obtain ⟨x1883, h1876, u⟩ := bind_t u
     obtain ⟨q1881, c1882, h1878, h1879, h1880, h1877⟩ := d.elemLK (α := Int) 0 rfl 0 rfl h1658 h1876
     obtain ⟨_, rfl, rfl⟩ := h1877
     refine wp_only (fun a w => ∃ Sv1884, Sl 61 [(0, .slice (some ⟨b1463, 0, none⟩) sv1662.1.length k3), (3, .int .i64 sv1662.2.1), (4, .slice (some ⟨b1463, o1659, none⟩) l1661.length k1660), (5, .int .i64 sv1662.2.2), (44, .bool (x1875 != x1883))] a ∧ Wd ⟨w0, S0, blks [.row (some ⟨b1463, 0, none⟩) s1.length k3 c4 3 1]⟩ Sv1884 [.row (some ⟨b1463, 0, none⟩) sv1662.1.length k3 c1763 3 1] [RowA c1763 sv1662.1, LenA s1.length sv1662.1] w) ?_ ?_
     ·refine h_c [0] [] d rfl rfl (by kernel_rfl) rfl fun hC d => ?_
      refine gn 2 [0, 1] [] s hC rfl rfl rfl fun a s => ?_
      refine gv s 2 rfl rfl hC (fun w hC => y_indexAt Tryz.runUnderlying22 Tryz.sizeOf3 rfl rfl h1870.1 h1870.2 h1871) fun a s => ?_
      refine gv s 3 rfl rfl hC (fun w hC => y_loadQ1 (j := 0) (hC.ownAt 0 rfl) rfl Tryz.isAgg3 h1872 rfl) fun a s => ?_
      refine gn 3 [4, 5, 6] [] s hC rfl rfl rfl fun a s => ?_
      refine gv s 7 rfl rfl hC (fun w hC => y_indexAt Tryz.runUnderlying22 Tryz.sizeOf3 rfl rfl h1878.1 h1878.2 h1879) fun a s => ?_
      refine gv s 8 rfl rfl hC (fun w hC => y_loadQ1 (j := 0) (hC.ownAt 0 rfl) rfl Tryz.isAgg3 h1880 rfl) fun a s => ?_
      refine gv s 9 rfl rfl hC (fun w hC => y_neq rfl rfl) fun a s => ?_
      refine h_done (by kernel_rfl) ?_
      exact ⟨Sv1764, (s.wk rfl), (d.ft [0] [0, 1] (by decide) rfl rfl)⟩
     rintro a w ⟨Sv1884, s, d⟩
     refine then_normal (wp_join (fun a w => ∃ (sv1912 : (List Int)) (k1913 : Int) (c1910 Sv1911 : _), slices_Compact_Lint_int_j1 sv1662 sv1912 k1913 = some tv1815 ∧ Sl 61 [(0, .slice (some ⟨b1463, 0, none⟩) sv1912.length k3), (3, .int .i64 k1913), (4, .slice (some ⟨b1463, o1659, none⟩) l1661.length k1660), (5, .int .i64 sv1662.2.2)] a ∧ Wd ⟨w0, S0, blks [.row (some ⟨b1463, 0, none⟩) s1.length k3 c4 3 1]⟩ Sv1911 [.row (some ⟨b1463, 0, none⟩) sv1912.length k3 c1910 3 1] [RowA c1910 sv1912, LenA s1.length sv1912] w) ?_ ?_)
     ·refine cd s u rfl (fun u => ?_) fun u => ?_
      ·refine sn 4 [] s d rfl rfl fun a s => ?_
       obtain ⟨x1924, h1917, u⟩ := bind_t u
       obtain ⟨q1922, c1923, h1919, h1920, h1921, h1918⟩ := d.elemLK (α := Int) 0 rfl 0 rfl h1658 h1917
       obtain ⟨_, rfl, rfl⟩ := h1918
       refine sv s (y_indexAt Tryz.runUnderlying22 Tryz.sizeOf3 rfl rfl h1919.1 h1919.2 h1920) rfl fun a s => ?_
       refine sv s (y_loadQ1 (j := 0) (d.ownAt 0 rfl) rfl Tryz.isAgg3 h1921 rfl) rfl fun a s => ?_
       obtain ⟨x1927, h1925, u⟩ := bind_t u
       obtain ⟨q1931, c1932, h1928, h1929, h1933, h1926⟩ := d.elemRK (α := Int) 0 rfl 0 rfl h1925
       obtain ⟨_, rfl, rfl⟩ := h1926
       refine sv s (y_indexAt Tryz.runUnderlying22 Tryz.sizeOf3 rfl rfl h1928.1 h1928.2 h1929) rfl fun a s => ?_
       obtain ⟨l1935, h1934, u⟩ := bind_t u
       have h1938 := d.envAt 1 rfl
       refine w_storeF (α := Int) s d 0 rfl 0 rfl h1929 rfl rfl Tryz.sizeOf3 rfl h1934 ⟨_, rfl, rfl⟩ trivial ?_
       intro c1936 a w s d
       have d := d.addE (e := LenA s1.length l1935) (len_set (w := w) (S := S0) h1938 h1934)
       have h1937 := setM_len h1934
       try have s := s.fl 0 rfl h1937
       try have s := s.fl 45 rfl h1937
       refine nl (wp_region_lit (rn 2 [] s d rfl rfl fun a s => ?_))
       obtain ⟨k1940, h1939, u⟩ := bind_t u
       refine sv s (y_assignI rfl h1939) rfl fun a s => ?_
       exact nl ⟨l1935, k1940, c1936, Sv1884, u, (s.wk rfl), (d.ft [0] [1, 0] (by decide) rfl rfl)⟩
      exact wp_skip (then_normal ⟨sv1662.1, sv1662.2.1, c1763, Sv1884, u, (s.wk rfl), (d.ft [0] [0, 1] (by decide) rfl rfl)⟩)
     rintro a w ⟨sv1912, k1913, c1910, Sv1911, u, s, d⟩
     delta slices_Compact_Lint_int_j1 at u
     refine blk_normal (then_normal (wp_region_lit (rn 2 [] s d rfl rfl fun a s => ?_)))
     obtain ⟨k2_1915, h1914, u⟩ := bind_t u
     refine sv s (y_assignI rfl h1914) rfl fun a s => ?_
     exact nl ⟨_, (Option.some.inj u).symm, c1910, Sv1911, (s.wk rfl), (d.ft [0] [0, 1] (by decide) rfl rfl)⟩
    refine wp_exit (then_exit (then_exit (blk_exit ?_)))
    have u := oi u
    subst u
    have h1941 := hd1814 _ rfl
    subst h1941
    exact then_normal ⟨c1763, Sv1764, (s.wk rfl), (d.ft [0] [0, 1] (by decide) rfl rfl)⟩
   rintro a w ⟨c1818, Sv1819, s, d⟩
   refine then_normal (sn 2 [] s d rfl rfl fun a s => ?_)
   obtain ⟨l1946, h1942, u⟩ := bind_t u
   obtain ⟨p1944, k1945, h1943⟩ := row_sub (α := Int) d 0 rfl h1942
   refine sv s (y_slc Tryz.runUnderlying22 Tryz.sizeOf3 rfl ⟨_, rfl⟩ (by exact rfl) h1943) rfl fun a s => ?_
   obtain ⟨l1947, h1948, u⟩ := bind_t u
   have h1953 := d.envAt 1 rfl
   refine w_clear (α := Int) (z0 := (0 : Int)) s d 0 rfl 0 rfl El22 ⟨_, rfl, rfl⟩ h1942 h1943 rfl trivial ?_
   intro c1949 a w s d
   rw [Option.some.inj h1948] at d
   have d := d.addE (e := LenA s1.length l1947) (by have q := len_copy (w := w) (S := S0) (S' := S0) (w' := w) (ys := List.replicate l1946.length (0 : Int)) h1953 h1942; rw [Option.some.inj h1948] at q; exact q)
   have h1950 := (copy_lenS h1942 h1948)
   try have s := s.fl 0 rfl h1950
   try have s := s.fl 54 rfl h1950
   refine nl (sn 2 [] s d rfl rfl fun a s => ?_)
   obtain ⟨l1956, h1954, u⟩ := bind_t u
   obtain ⟨d, h1955⟩ := w_cut d 0 rfl 1 rfl h1954
   refine sv s (y_slc Tryz.runUnderlying22 Tryz.sizeOf3 rfl (by exact rfl) ⟨_, rfl⟩ h1955) rfl fun a s => ?_
   refine rz 1 [] s d rfl rfl fun a s => ?_
   have u := oi u
   subst u
   have h1957 := hd1246 _ rfl
   subst h1957
   exact wp_ret (blk_ret (then_ret (then_ret (blk_ret (then_ret (ret1 s rfl (rv_tmp rfl) (d.ret ⟨(some ⟨b1463, 0, none⟩), k3, (c1949.take (l1956.length * 1)), rfl, (d.outs [0] (by decide) rfl), (d.envAt 0 rfl)⟩)))))))
  refine wp_skip (blk_normal (then_normal (wp_region_lit (rn 2 [] s d rfl rfl fun a s => ?_))))
  obtain ⟨k1960, h1959, u⟩ := bind_t u
  refine sv s (y_assignI rfl h1959) rfl fun a s => ?_
  exact nl ⟨_, (Option.some.inj u).symm, Sv1476, (s.wk rfl), (d.ft [0] [0, 1] (by decide) rfl rfl)⟩
 obtain ⟨rv1961, u, h1962⟩ := map_t u
 have h1962 := (hd1246 _ h1962.symm).symm
 subst h1962
 refine wp_exit (then_exit (then_exit (blk_exit (then_normal (sz 2 [] s d rfl rfl fun a s => ?_)))))
 have u := oi u
 subst u
 exact wp_ret (ret1 s rfl (rv_tmp rfl) (d.ret ⟨p2, k3, c4, rfl, (d.outs [0] (by decide) rfl), (d.envAt 0 rfl)⟩))
theorem continuity_borders_ok {w0 S0 p2 k3 l1 from5 to6 r} (u : continuity_borders l1 from5 to6 = some r) (hS : Dm S0 w0) (h4 : (SlA p2 l1.length k3 l1).p S0 w0) : Calls Tryz.prog 52 #[.slice p2 l1.length k3, .int .i64 from5, .int .i64 to6] w0 (Ret ([]) w0 S0 (slices_Clone_Lint_int_rd w0 ([]) r)) := by
 refine en 49 Tryz.func52 rfl hS rfl rfl rfl fun a s d => ?_
 have d := d.addE h4
 delta continuity_borders at u
 refine sz 1 [] s d rfl rfl fun a s => ?_
 refine sn 2 [] s d rfl rfl fun a s => ?_
 refine w_litSlice (α := Int) (vs := [.int .i64 from5, .int .i64 to6]) (cs := [.int .i64 from5, .int .i64 to6]) (xs := ([from5, to6] : List Int)) s d El22 rfl rfl rfl rfl rfl rfl ⟨⟨_, rfl, rfl⟩, ⟨⟨_, rfl, rfl⟩, rfl⟩⟩ rfl trivial rfl fun b8 a w s d => ?_
 refine rz 1 [] s d rfl rfl fun a s => ?_
 refine wp_seq (sz 3 [] s d rfl rfl fun a s => ?_)
 obtain ⟨e327, h614, u⟩ := bind_t u
 refine wp_join (fun a w => ∃ c328 p329 k330 Sv331, Sl 49 [(7, .slice p329 e327.length k330)] a ∧ Wd ⟨w0, S0, []⟩ Sv331 [.row p329 e327.length k330 c328 3 1] [RowA c328 e327] w) ?_ ?_
 ·refine wp_block (wp_while (fun sv9 a w => ∃ c218 p219 k220 Sv221, Sl 49 [(1, .int .i64 from5), (2, .int .i64 to6), (7, .slice p219 sv9.1.length k220), (15, .slice p2 l1.length k3), (16, .int .i64 (l1.length : Int)), (17, .int .i64 sv9.2)] a ∧ Wd ⟨w0, S0, []⟩ Sv221 [.row p219 sv9.1.length k220 c218 3 1] [SlA p2 l1.length k3 l1, RowA c218 sv9.1] w) (([from5, to6] : List Int), 0) h614 ⟨[.int .i64 from5, .int .i64 to6], (some ⟨b8, 0, none⟩), ([from5, to6] : List Int).length, S0, (s.wk rfl), (d.ft [0] [1, 0] (by decide) rfl rfl)⟩ ?_)
  clear h614
  repeat clear u
  rintro sv9 a w tv325 ⟨c218, p219, k220, Sv221, s, d⟩ u hd324
  delta continuity_borders_l3 at u
  refine sz 1 [] s d rfl rfl fun a s => ?_
  refine wp_seq (cd s u rfl (fun u => ?_) fun u => ?_)
  ·refine wp_skip (then_normal (wp_seq (wp_block (sr ?_))))
   obtain ⟨x437, h435, u⟩ := bind_t u
   obtain ⟨b443, o444, q441, c442, h445, h438, h439, h440, h436⟩ := d.elemV 0 rfl h435
   have hsv446 := s
   have hwv447 := d
   subst h445
   have s := hsv446
   have d := hwv447
   obtain ⟨_, _, _, _, _, _, _, _, _, _, _, _, rfl, rfl, rfl, rfl, rfl, rfl, rfl, rfl, rfl, rfl, rfl, rfl, ⟨p448, n449, k450, rfl, h451⟩⟩ := h436
   obtain rfl := h451.1
   have d := (d.addE (e := SlA p448 _ k450 x437.Samples) h451).addE h440
   refine sv s (y_indexAt Tryz.runUnderlying28 Tryz.sizeOf56 rfl rfl h438.1 h438.2 h439) rfl fun a s => ?_
   refine sv s (y_loadEA (j := 0) (d.ceAt 0 rfl) rfl Tryz.isAgg56 Tryz.sizeOf56 rfl rfl) rfl fun a s => ?_
   refine w_alloc (cs := Z0) s d Tryz.zeroValue56 rfl rfl trivial ?_
   intro b452 a w s d
   refine w_store (m := 12) (cs' := (C56 x437 p448 k450)) s d 0 rfl rfl rfl Tryz.sizeOf56 rfl rfl rfl rfl trivial ?_
   intro a w s d
   refine nl (sz 5 [0] s d rfl rfl fun a s => ?_)
   obtain ⟨e531, h589, u⟩ := bind_t u
   refine wp_join (fun a w => ∃ c532 p533 k534 Sv535, Sl 49 [(1, .int .i64 from5), (2, .int .i64 to6), (7, .slice p533 e531.length k534), (15, .slice (some ⟨b443, o444, none⟩) l1.length k3), (16, .int .i64 (l1.length : Int)), (17, .int .i64 sv9.2)] a ∧ Wd ⟨w0, S0, []⟩ Sv535 [.row p533 e531.length k534 c532 3 1] [SlA (some ⟨b443, o444, none⟩) l1.length k3 l1, RowA c532 e531] w) ?_ ?_
   ·refine wp_block (wp_while (fun sv453 a w => ∃ c502 p503 k504 Sv505, Sl 49 [(1, .int .i64 from5), (2, .int .i64 to6), (7, .slice p503 sv453.1.length k504), (9, .pointer (some ⟨b452, 0, none⟩)), (15, .slice (some ⟨b443, o444, none⟩) l1.length k3), (16, .int .i64 (l1.length : Int)), (17, .int .i64 sv9.2), (24, .int .i64 (w64 ((x437.Samples.length : Int) + 1))), (25, .int .i64 sv453.2)] a ∧ Wd ⟨w0, S0, []⟩ Sv505 [.box b452 (C56 x437 p448 k450) 56, .row p503 sv453.1.length k504 c502 3 1] [SlA (some ⟨b443, o444, none⟩) l1.length k3 l1, SlA p448 x437.Samples.length k450 x437.Samples, RowA c502 sv453.1] w) (sv9.1, 0) h589 ⟨c218, p219, k220, Sv221, (s.wk rfl), (d.ft [0, 1] [2, 1, 3] (by decide) rfl rfl)⟩ ?_)
    clear h589
    repeat clear u
    rintro sv453 a w tv529 ⟨c502, p503, k504, Sv505, s, d⟩ u hd528
    delta continuity_borders_l6 at u
    refine sz 1 [] s d rfl rfl fun a s => ?_
    refine wp_seq (cd s u rfl (fun u => ?_) fun u => ?_)
    ·refine wp_skip (then_normal (wp_seq (wp_block (sz 2 [] s d rfl rfl fun a s => ?_))))
     refine sn 2 [0] s d rfl rfl fun a s => ?_
     obtain ⟨rv560, h559, u⟩ := bind_t u
     refine st_callR s (continuity_at_ok h559 d.bdom (d.bE 1 rfl)) (do_call Tryz.call90 rfl) trivial rfl rfl ?_
     rintro v564 Sv561 w a h562 rfl s
     have d := d.callB h562
     refine rz 1 [] s d rfl rfl fun a s => ?_
     refine sn 4 [] s d rfl rfl fun a s => ?_
     refine rA 4 34 [] s d rfl rfl rfl rfl rfl fun a s => ?_
     refine nl (wp_join (fun a w => ∃ (out579 : (List Int)) (c575 p576 k577 Sv578 : _), continuity_borders_j1 sv453 out579 = some tv529 ∧ Sl 49 [(1, .int .i64 from5), (2, .int .i64 to6), (7, .slice p576 out579.length k577), (9, .pointer (some ⟨b452, 0, none⟩)), (15, .slice (some ⟨b443, o444, none⟩) l1.length k3), (16, .int .i64 (l1.length : Int)), (17, .int .i64 sv9.2), (24, .int .i64 (w64 ((x437.Samples.length : Int) + 1))), (25, .int .i64 sv453.2)] a ∧ Wd ⟨w0, S0, []⟩ Sv578 [.box b452 (C56 x437 p448 k450) 56, .row p576 out579.length k577 c575 3 1] [SlA (some ⟨b443, o444, none⟩) l1.length k3 l1, SlA p448 x437.Samples.length k450 x437.Samples, RowA c575 out579] w) ?_ ?_)
     ·refine cd s u rfl (fun u => ?_) fun u => ?_
      ·refine wp_region_lit (rn 2 [] s d rfl rfl fun a s => ?_)
       refine w_litSlice (α := Int) (vs := [.int .i64 rv560]) (cs := [.int .i64 rv560]) (xs := ([rv560] : List Int)) s d El22 rfl rfl rfl rfl rfl rfl ⟨⟨_, rfl, rfl⟩, rfl⟩ rfl trivial rfl fun b582 a w s d => ?_
       obtain ⟨l584, h583, u⟩ := bind_t u
       refine w_appendR (α := Int) s d El22 2 rfl rfl rfl 3 rfl 0 rfl 0 rfl h583 rfl trivial ?_
       intro p585 k586 c587 a w s d
       refine rz 1 [] s d rfl rfl fun a s => ?_
       exact ⟨l584, c587, p585, k586, Sv505, u, (s.wk rfl), (d.ft [1, 2] [2, 3, 0] (by decide) rfl rfl)⟩
      exact wp_skip (then_normal ⟨sv453.1, c502, p503, k504, Sv505, u, (s.wk rfl), (d.ft [0, 1] [0, 1, 2] (by decide) rfl rfl)⟩)
     rintro a w ⟨out579, c575, p576, k577, Sv578, u, s, d⟩
     delta continuity_borders_j1 at u
     refine blk_normal (then_normal (wp_region_lit (rz 2 [] s d rfl rfl fun a s => ?_)))
     exact ⟨_, (Option.some.inj u).symm, c575, p576, k577, Sv578, (s.wk rfl), (d.ft [0, 1] [0, 1, 2] (by decide) rfl rfl)⟩
    refine wp_exit (then_exit (then_exit (blk_exit ?_)))
    have u := oi u
    subst u
    have h588 := hd528 _ rfl
    subst h588
    exact then_normal ⟨c502, p503, k504, Sv505, (s.wk rfl), (d.ft [1] [0, 2] (by decide) rfl rfl)⟩
   rintro a w ⟨c532, p533, k534, Sv535, s, d⟩
   refine blk_normal (then_normal (wp_region_lit (rz 2 [] s d rfl rfl fun a s => ?_)))
   exact ⟨_, (Option.some.inj u).symm, c532, p533, k534, Sv535, (s.wk rfl), (d.ft [0] [0, 1] (by decide) rfl rfl)⟩
  refine wp_exit (then_exit (then_exit (blk_exit ?_)))
  have u := oi u
  subst u
  have h590 := hd324 _ rfl
  subst h590
  exact then_normal ⟨c218, p219, k220, Sv221, (s.wk rfl), (d.ft [0] [1] (by decide) rfl rfl)⟩
 rintro a w ⟨c328, p329, k330, Sv331, s, d⟩
 refine then_normal (sn 1 [] s d rfl rfl fun a s => ?_)
 obtain ⟨rv592, h591, u⟩ := bind_t u
 refine st_callR s (slices_Sort_Lint_int_ok h591 d.dom (d.ins [0] (by decide) rfl) (d.envAt 0 rfl)) (do_call Tryz.call91 rfl) trivial rfl rfl ?_
 rintro v599 Sv596 w a h597 ⟨c593, rfl, h600, h594, h595⟩ s
 have d := (d.callO [0] [] (by decide) rfl h597 h600).addE (e := RowA c593 rv592) h594
 have h601 := h595
 have h602 := Eq.symm h601
 try have s := s.fl 7 rfl h602
 try have s := s.fl 45 rfl h602
 refine nl (sn 1 [] s d rfl rfl fun a s => ?_)
 obtain ⟨rv604, h603, u⟩ := bind_t u
 refine st_callR s (slices_Compact_Lint_int_ok h603 d.dom (d.ins [0] (by decide) rfl) (d.envAt 0 rfl)) (do_call Tryz.call92 rfl) trivial rfl rfl ?_
 rintro v612 Sv609 w a h610 ⟨p605, k606, c608, rfl, h613, h607⟩ s
 have d := (d.callO [0] [] (by decide) rfl h610 h613).addE (e := RowA c608 rv604) h607
 refine rz 1 [] s d rfl rfl fun a s => ?_
 have u := oi u
 subst u
 exact wp_ret (ret1 s rfl (rv_tmp rfl) (d.ret ⟨p605, k606, c608, rfl, (d.outs [0] (by decide) rfl), (d.envAt 0 rfl)⟩))
theorem rate_check_ok {w0 S0 start1 r2 t3 r} (u : rate_check start1 r2 t3 = some r) (hS : Dm S0 w0) : Calls Tryz.prog 131 #[.int .i64 start1, V54 r2, .int .i64 t3] w0 (Ret ([]) w0 S0 (slices_IndexFunc_Lapi_Record_api_Record_rd w0 ([]) r)) := by
 refine en 18 Tryz.func131 rfl hS rfl rfl rfl fun a s d => ?_
 delta rate_check at u
 refine sr (w_box (cs := (C54 r2)) s d rfl rfl rfl trivial ?_)
 intro b4 a w s d
 refine rz 1 [] s d rfl rfl fun a s => ?_
 refine wp_seq (sn 1 [0] s d rfl rfl fun a s => ?_)
 obtain ⟨rv6, h5, u⟩ := bind_t u
 refine st_callR s (rate_Valid_ok h5 d.bdom) (do_call Tryz.call133 rfl) trivial rfl rfl ?_
 rintro v10 Sv7 w a h8 rfl s
 have d := d.callB h8
 refine rz 1 [] s d rfl rfl fun a s => ?_
 refine cd s u rfl (fun u => ?_) fun u => ?_
 ·refine sz 1 [] s d rfl rfl fun a s => ?_
  have u := oi u
  subst u
  exact wp_ret (then_ret (ret1 s rfl (rv_tmp rfl) (d.ret rfl)))
 refine wp_skip (then_normal (wp_seq (sn 1 [] s d rfl rfl fun a s => ?_)))
 obtain ⟨rv15, h14, u⟩ := bind_t u
 refine st_callR s (rate_in_ok h14 d.bdom) (do_call Tryz.call134 rfl) trivial rfl rfl ?_
 rintro v19 Sv16 w a h17 rfl s
 have d := d.callB h17
 refine rn 2 [] s d rfl rfl fun a s => ?_
 obtain ⟨c29, hc29, u⟩ := bind_t u
 refine wpl_join 4 (fun a w => ∃ Sv30, Sl 18 [(17, .bool c29)] a ∧ Wd ⟨w0, S0, []⟩ Sv30 [] [] w) ?_ ?_
 ·rcases Bool.eq_false_or_eq_true (!rv15) with h28 | h28
  ·have s := s.fix 13 (.bool true) rfl (vb h28)
   have u := ite_t hc29 h28
   refine rn 4 [] s d rfl rfl fun a s => ?_
   refine wpList_nil ?_
   have u := oi u
   subst u
   exact then_normal ⟨S0, (s.wk rfl), (d.ft [] [] (by decide) rfl rfl)⟩
  have s := s.fix 13 (.bool false) rfl (vb h28)
  have u := ite_f hc29 h28
  refine st_val s (y_move rfl) ⟨_, rfl, rfl⟩ rfl rfl fun a s => ?_
  obtain ⟨rv32, h31, u⟩ := bind_t u
  refine st_callR s (rate_in_ok h31 d.bdom) (do_call Tryz.call134 rfl) ⟨_, rfl, rfl⟩ rfl rfl ?_
  rintro v36 Sv33 w a h34 rfl s
  have d := d.callB h34
  refine rn 2 [] s d rfl rfl fun a s => ?_
  refine wpList_nil ?_
  have u := oi u
  subst u
  exact then_normal ⟨S0, (s.wk rfl), (d.ft [] [] (by decide) rfl rfl)⟩
 rintro a w ⟨Sv30, s, d⟩
 refine nl (cd s u rfl (fun u => ?_) fun u => ?_)
 ·refine sz 1 [] s d rfl rfl fun a s => ?_
  have u := oi u
  subst u
  exact wp_ret (then_ret (ret1 s rfl (rv_tmp rfl) (d.ret rfl)))
 refine wp_skip (then_normal (sz 1 [] s d rfl rfl fun a s => ?_))
 have u := oi u
 subst u
 exact wp_ret (ret1 s rfl (rv_tmp rfl) (d.ret rfl))
theorem rate_ceil_ok {w0 S0 r1 x2 r} (u : rate_ceil r1 x2 = some r) (hS : Dm S0 w0) : Calls Tryz.prog 169 #[V54 r1, .int .i64 x2] w0 (Ret ([]) w0 S0 (slices_IndexFunc_Lapi_Record_api_Record_rd w0 ([]) r)) := by
 refine en 26 Tryz.func169 rfl hS rfl rfl rfl fun a s d => ?_
 delta rate_ceil at u
 refine sr (w_box (cs := (C54 r1)) s d rfl rfl rfl trivial ?_)
 intro b3 a w s d
 refine rz 1 [] s d rfl rfl fun a s => ?_
 refine sn 1 [0] s d rfl rfl fun a s => ?_
 obtain ⟨rv5, h4, u⟩ := bind_t u
 refine st_callR s (rate_micros_ok h4 d.bdom) (do_call Tryz.call171 rfl) trivial rfl rfl ?_
 rintro v9 Sv6 w a h7 rfl s
 have d := d.callB h7
 refine rz 1 [] s d rfl rfl fun a s => ?_
 refine wp_seq ?_
 obtain ⟨quo12, h11, u⟩ := bind_t u
 obtain ⟨rem14, h13, u⟩ := bind_t u
 obtain ⟨quo16, h15, u⟩ := bind_t u
 obtain ⟨x18, h17, u⟩ := bind_t u
 refine wp_only (fun a w => ∃ Sv19, Sl 26 [(4, .int .i64 x18)] a ∧ Wd ⟨w0, S0, []⟩ Sv19 [] [] w) ?_ ?_
 ·refine h_c [0] [] d rfl rfl (by kernel_rfl) rfl fun hC d => ?_
  refine gn 2 [0, 1] [] s hC rfl rfl rfl fun a s => ?_
  refine gv s 2 rfl rfl hC (fun w hC => y_quoM rfl rfl h11) fun a s => ?_
  refine gn 5 [3, 4, 5, 6, 7] [0] s hC rfl rfl rfl fun a s => ?_
  refine gv s 8 rfl rfl hC (fun w hC => y_remM rfl rfl h13) fun a s => ?_
  refine gn 7 [9, 10, 11, 12, 13, 14, 15] [0] s hC rfl rfl rfl fun a s => ?_
  refine gv s 16 rfl rfl hC (fun w hC => y_quoM rfl rfl h15) fun a s => ?_
  refine gv s 17 rfl rfl hC (fun w hC => y_add rfl rfl) fun a s => ?_
  refine gv s 18 rfl rfl hC (fun w hC => y_assignI rfl h17) fun a s => ?_
  refine h_done (by kernel_rfl) ?_
  exact ⟨S0, (s.wk rfl), (d.ft [] [] (by decide) rfl rfl)⟩
 rintro a w ⟨Sv19, s, d⟩
 refine then_normal ?_
 have u := oi u
 subst u
 exact wp_ret (ret1 s rfl (rv_tmp rfl) (d.ret rfl))
theorem rate_upto_ok {w0 S0 r1 x2 r} (u : rate_upto r1 x2 = some r) (hS : Dm S0 w0) : Calls Tryz.prog 132 #[V54 r1, .int .i64 x2] w0 (Ret ([]) w0 S0 (slices_IndexFunc_Lapi_Record_api_Record_rd w0 ([]) r)) := by
 refine en 10 Tryz.func132 rfl hS rfl rfl rfl fun a s d => ?_
 delta rate_upto at u
 refine sr (w_box (cs := (C54 r1)) s d rfl rfl rfl trivial ?_)
 intro b3 a w s d
 refine rz 1 [] s d rfl rfl fun a s => ?_
 refine sn 3 [0] s d rfl rfl fun a s => ?_
 obtain ⟨rv5, h4, u⟩ := bind_t u
 refine st_callR s (rate_ceil_ok h4 d.bdom) (do_call Tryz.call169 rfl) trivial rfl rfl ?_
 rintro v9 Sv6 w a h7 rfl s
 have d := d.callB h7
 refine sv s (y_sub rfl rfl) rfl fun a s => ?_
 obtain ⟨x12, h11, u⟩ := bind_t u
 refine sv s (y_assignI rfl h11) rfl fun a s => ?_
 refine nl ?_
 have u := oi u
 subst u
 exact wp_ret (ret1 s rfl (rv_tmp rfl) (d.ret rfl))
theorem rate_Index_ok {w0 S0 start1 r2 t3 r} (u : rate_Index start1 r2 t3 = some r) (hS : Dm S0 w0) : Calls Tryz.prog 93 #[.int .i64 start1, V54 r2, .int .i64 t3] w0 (Ret ([]) w0 S0 (rate_Time_rd w0 ([]) r)) := by
 refine en 25 Tryz.func93 rfl hS rfl rfl rfl fun a s d => ?_
 delta rate_Index at u
 refine sr (w_box (cs := (C54 r2)) s d rfl rfl rfl trivial ?_)
 intro b4 a w s d
 refine rz 2 [] s d rfl rfl fun a s => ?_
 refine wp_seq (sn 3 [0] s d rfl rfl fun a s => ?_)
 obtain ⟨rv6, h5, u⟩ := bind_t u
 refine st_callR s (rate_check_ok h5 d.bdom) (do_call Tryz.call131 rfl) trivial rfl rfl ?_
 rintro v10 Sv7 w a h8 rfl s
 have d := d.callB h8
 refine rz 1 [] s d rfl rfl fun a s => ?_
 refine sz 2 [] s d rfl rfl fun a s => ?_
 refine cd s u rfl (fun u => ?_) fun u => ?_
 ·refine sz 3 [] s d rfl rfl fun a s => ?_
  have u := oi u
  subst u
  exact wp_ret (then_ret (ret2 s rfl (rv_tmp rfl) (rv_tmp rfl) (d.ret rfl)))
 refine wp_skip (then_normal (wp_seq (sz 3 [] s d rfl rfl fun a s => ?_)))
 refine cd s u rfl (fun u => ?_) fun u => ?_
 ·refine sz 2 [] s d rfl rfl fun a s => ?_
  have u := oi u
  subst u
  exact wp_ret (then_ret (ret2 s rfl (rv_tmp rfl) (rv_tmp rfl) (d.ret rfl)))
 refine wp_skip (then_normal (sn 4 [0] s d rfl rfl fun a s => ?_))
 obtain ⟨rv17, h16, u⟩ := bind_t u
 refine st_callR s (rate_upto_ok h16 d.bdom) (do_call Tryz.call132 rfl) trivial rfl rfl ?_
 rintro v21 Sv18 w a h19 rfl s
 have d := d.callB h19
 refine sv s (y_min rfl rfl) rfl fun a s => ?_
 obtain ⟨x24, h23, u⟩ := bind_t u
 refine sv s (y_assignI rfl h23) rfl fun a s => ?_
 refine rz 1 [] s d rfl rfl fun a s => ?_
 have u := oi u
 subst u
 exact wp_ret (ret2 s rfl (rv_tmp rfl) (rv_tmp rfl) (d.ret rfl))
abbrev continuity_cover_rd (w0 : World) (X : List Nat) (r : (Int × Int × Bool)) : Rd := fun S w v => v = .tuple #[.int .i64 r.1, .int .i64 r.2.1, .bool r.2.2]
theorem continuity_cover_ok {w0 S0 p2 k3 r1 t5 r} (u : continuity_cover r1 t5 = some r) (hS : Dm S0 w0) (h4 : (SlA p2 r1.Samples.length k3 r1.Samples).p S0 w0) : Calls Tryz.prog 54 #[V56 r1 p2 k3, .int .i64 t5] w0 (Ret ([]) w0 S0 (continuity_cover_rd w0 ([]) r)) := by
 refine en 49 Tryz.func54 rfl hS rfl rfl rfl fun a s d => ?_
 have d := d.addE h4
 delta continuity_cover at u
 refine sr (w_box (cs := (C56 r1 p2 k3)) s d rfl rfl rfl trivial ?_)
 intro b6 a w s d
 refine rz 3 [] s d rfl rfl fun a s => ?_
 refine wp_seq (sn 2 [0] s d rfl rfl fun a s => ?_)
 obtain ⟨rv8, h7, u⟩ := bind_t u
 refine st_callR s (continuity_at_ok h7 d.bdom (d.bE 0 rfl)) (do_call Tryz.call90 rfl) trivial rfl rfl ?_
 rintro v12 Sv9 w a h10 rfl s
 have d := d.callB h10
 refine rn 2 [] s d rfl rfl fun a s => ?_
 obtain ⟨c22, hc22, u⟩ := bind_t u
 refine wpl_join 8 (fun a w => ∃ Sv23, Sl 49 [(1, .int .i64 t5), (2, .pointer (some ⟨b6, 0, none⟩)), (21, .bool c22)] a ∧ Wd ⟨w0, S0, []⟩ Sv23 [.box b6 (C56 r1 p2 k3) 56] [SlA p2 r1.Samples.length k3 r1.Samples] w) ?_ ?_
 ·rcases Bool.eq_false_or_eq_true (decide (t5 < rv8)) with h21 | h21
  ·have s := s.fix 13 (.bool true) rfl (vb h21)
   have u := ite_t hc22 h21
   refine rn 8 [] s d rfl rfl fun a s => ?_
   refine wpList_nil ?_
   have u := oi u
   subst u
   exact then_normal ⟨S0, (s.wk rfl), (d.ft [0] [0] (by decide) rfl rfl)⟩
  have s := s.fix 13 (.bool false) rfl (vb h21)
  have u := ite_f hc22 h21
  refine rn 5 [0, 0] s d rfl rfl fun a s => ?_
  obtain ⟨rv25, h24, u⟩ := bind_t u
  refine st_callR s (continuity_at_ok h24 d.bdom (d.bE 0 rfl)) (do_call Tryz.call90 rfl) ⟨_, rfl, rfl⟩ rfl rfl ?_
  rintro v29 Sv26 w a h27 rfl s
  have d := d.callB h27
  refine rn 2 [] s d rfl rfl fun a s => ?_
  refine wpList_nil ?_
  have u := oi u
  subst u
  exact then_normal ⟨S0, (s.wk rfl), (d.ft [0] [0] (by decide) rfl rfl)⟩
 rintro a w ⟨Sv23, s, d⟩
 refine nl (cd s u rfl (fun u => ?_) fun u => ?_)
 ·refine sz 3 [] s d rfl rfl fun a s => ?_
  have u := oi u
  subst u
  exact wp_ret (then_ret (ret3 s rfl (rv_tmp rfl) (rv_tmp rfl) (rv_tmp rfl) (d.ret rfl)))
 refine wp_skip (then_normal (sn 5 [0, 0] s d rfl rfl fun a s => ?_))
 obtain ⟨rv34, h33, u⟩ := bind_t u
 refine st_callR s (rate_Index_ok h33 d.bdom) (do_call Tryz.call93 rfl) trivial rfl rfl ?_
 rintro v38 Sv35 w a h36 rfl s
 have d := d.callB h36
 refine rz 5 [] s d rfl rfl fun a s => ?_
 refine sn 5 [0, 0] s d rfl rfl fun a s => ?_
 obtain ⟨rv41, h40, u⟩ := bind_t u
 refine st_callR s (rate_Time_ok h40 d.bdom) (do_call Tryz.call94 rfl) trivial rfl rfl ?_
 rintro v45 Sv42 w a h43 rfl s
 have d := d.callB h43
 refine rz 4 [] s d rfl rfl fun a s => ?_
 refine wp_seq ?_
 obtain ⟨x49, h47, u⟩ := bind_t u
 obtain ⟨b55, o56, q53, c54, h57, h50, h51, h52, h48⟩ := d.elemV 0 rfl h47
 have hsv58 := s
 have hwv59 := d
 subst h57
 have s := hsv58
 have d := hwv59
 obtain ⟨_, rfl, rfl⟩ := h48
 have d := d.addE h52
 refine wp_only (fun a w => ∃ Sv60, Sl 49 [(4, .int .i64 rv41.1), (5, .int .i64 x49), (6, .bool true)] a ∧ Wd ⟨w0, S0, []⟩ Sv60 [] [] w) ?_ ?_
 ·refine h_c [0] [0] d rfl rfl (by kernel_rfl) rfl fun hC d => ?_
  refine gn 7 [0, 1, 2, 3, 4, 5, 6] [0, 0] s hC rfl rfl rfl fun a s => ?_
  refine gv s 7 rfl rfl hC (fun w hC => y_indexAt Tryz.runUnderlying22 Tryz.sizeOf3 rfl rfl h50.1 h50.2 h51) fun a s => ?_
  refine gv s 8 rfl rfl hC (fun w hC => y_loadE1 (j := 0) (hC.ceAt 0 rfl) rfl Tryz.isAgg3 rfl) fun a s => ?_
  refine gn 3 [9, 10, 11] [] s hC rfl rfl rfl fun a s => ?_
  refine h_done (by kernel_rfl) ?_
  exact ⟨Sv23, (s.wk rfl), (d.ft [] [] (by decide) rfl rfl)⟩
 rintro a w ⟨Sv60, s, d⟩
 refine then_normal ?_
 have u := oi u
 subst u
 exact wp_ret (ret3 s rfl (rv_tmp rfl) (rv_tmp rfl) (rv_tmp rfl) (d.ret rfl))
abbrev continuity_look_rd (w0 : World) (X : List Nat) (r : Continuity_state) : Rd := fun S w v => v = V93 r
theorem continuity_look_ok {w0 S0 p2 k3 l1 t5 r} (u : continuity_look l1 t5 = some r) (hS : Dm S0 w0) (h4 : (SlA p2 l1.length k3 l1).p S0 w0) : Calls Tryz.prog 53 #[.slice p2 l1.length k3, .int .i64 t5] w0 (Ret ([]) w0 S0 (continuity_look_rd w0 ([]) r)) := by
 refine en 53 Tryz.func53 rfl hS rfl rfl rfl fun a s d => ?_
 have d := d.addE h4
 delta continuity_look at u
 refine sr (w_alloc (cs := [.int .i64 0, .bool false]) s d Tryz.zeroValue93 rfl rfl trivial ?_)
 intro b6 a w s d
 refine nl (sr (sv s (y_build (vs := [(1, .bool true)]) Bld93 rfl rfl) rfl fun a s => ?_))
 refine w_alloc (cs := [.int .i64 0, .bool false]) s d Tryz.zeroValue93 rfl rfl trivial ?_
 intro b7 a w s d
 refine w_store (m := 2) (cs' := [.int .i64 0, .bool true]) s d 0 rfl rfl rfl Tryz.sizeOf93 rfl rfl rfl rfl trivial ?_
 intro a w s d
 refine nl (sz 2 [] s d rfl rfl fun a s => ?_)
 refine wp_seq (sz 3 [] s d rfl rfl fun a s => ?_)
 obtain ⟨e127, h203, u⟩ := bind_t u
 refine wp_join (fun a w => ∃ Sv128, Sl 53 [(4, .pointer (some ⟨b6, 0, none⟩)), (5, .pointer (some ⟨b7, 0, none⟩))] a ∧ Wd ⟨w0, S0, []⟩ Sv128 [.box b6 [.int .i64 0, .bool false] 93, .box b7 [.int .i64 e127.1, .bool e127.2] 93] [] w) ?_ ?_
 ·refine wp_block (wp_while (fun sv8 a w => ∃ Sv85, Sl 53 [(1, .int .i64 t5), (4, .pointer (some ⟨b6, 0, none⟩)), (5, .pointer (some ⟨b7, 0, none⟩)), (6, .int .i64 sv8.2.2.1), (7, .int .i64 sv8.2.2.2.1), (14, .slice p2 l1.length k3), (15, .int .i64 (l1.length : Int)), (16, .int .i64 sv8.2.2.2.2)] a ∧ Wd ⟨w0, S0, []⟩ Sv85 [.box b6 [.int .i64 0, .bool false] 93, .box b7 [.int .i64 sv8.1, .bool sv8.2.1] 93] [SlA p2 l1.length k3 l1] w) (0, true, 0, 0, 0) h203 ⟨S0, (s.wk rfl), (d.ft [1, 0] [0] (by decide) rfl rfl)⟩ ?_)
  clear h203
  repeat clear u
  rintro sv8 a w tv125 ⟨Sv85, s, d⟩ u hd124
  delta continuity_look_l1 at u
  refine sz 1 [] s d rfl rfl fun a s => ?_
  refine wp_seq (cd s u rfl (fun u => ?_) fun u => ?_)
  ·refine wp_skip (then_normal (wp_seq (wp_join (fun a w => ∃ (x164 : Int) (x165 : Bool) (time166 : Int) (value167 : Int) (Sv163 : _), continuity_look_j1 sv8 x164 x165 time166 value167 = some tv125 ∧ Sl 53 [(1, .int .i64 t5), (4, .pointer (some ⟨b6, 0, none⟩)), (5, .pointer (some ⟨b7, 0, none⟩)), (6, .int .i64 time166), (7, .int .i64 value167), (14, .slice p2 l1.length k3), (15, .int .i64 (l1.length : Int)), (16, .int .i64 sv8.2.2.2.2)] a ∧ Wd ⟨w0, S0, []⟩ Sv163 [.box b6 [.int .i64 0, .bool false] 93, .box b7 [.int .i64 x164, .bool x165] 93] [SlA p2 l1.length k3 l1] w) ?_ ?_)))
   ·refine wp_block (sr ?_)
    obtain ⟨x170, h168, u⟩ := bind_t u
    obtain ⟨b176, o177, q174, c175, h178, h171, h172, h173, h169⟩ := d.elemV 0 rfl h168
    have hsv179 := s
    have hwv180 := d
    subst h178
    have s := hsv179
    have d := hwv180
    obtain ⟨_, _, _, _, _, _, _, _, _, _, _, _, rfl, rfl, rfl, rfl, rfl, rfl, rfl, rfl, rfl, rfl, rfl, rfl, ⟨p181, n182, k183, rfl, h184⟩⟩ := h169
    obtain rfl := h184.1
    have d := (d.addE (e := SlA p181 _ k183 x170.Samples) h184).addE h173
    refine sv s (y_indexAt Tryz.runUnderlying28 Tryz.sizeOf56 rfl rfl h171.1 h171.2 h172) rfl fun a s => ?_
    refine sv s (y_loadEA (j := 0) (d.ceAt 0 rfl) rfl Tryz.isAgg56 Tryz.sizeOf56 rfl rfl) rfl fun a s => ?_
    refine w_alloc (cs := Z0) s d Tryz.zeroValue56 rfl rfl trivial ?_
    intro b185 a w s d
    refine w_store (m := 12) (cs' := (C56 x170 p181 k183)) s d 0 rfl rfl rfl Tryz.sizeOf56 rfl rfl rfl rfl trivial ?_
    intro a w s d
    refine nl (sn 2 [0] s d rfl rfl fun a s => ?_)
    obtain ⟨rv187, h186, u⟩ := bind_t u
    refine st_callR s (continuity_cover_ok h186 d.bdom (d.bE 1 rfl)) (do_call Tryz.call54 rfl) trivial rfl rfl ?_
    rintro v191 Sv188 w a h189 rfl s
    have d := d.callB h189
    refine rz 7 [] s d rfl rfl fun a s => ?_
    refine wp_seq (sz 2 [] s d rfl rfl fun a s => ?_)
    refine cd s u rfl (fun u => ?_) fun u => ?_
    ·exact wp_exit (then_exit (blk_exit (then_normal ⟨sv8.1, sv8.2.1, sv8.2.2.1, sv8.2.2.2.1, Sv85, u, (s.wk rfl), (d.ft [1, 2] [2] (by decide) rfl rfl)⟩)))
    refine wp_skip (then_normal (wp_seq (sn 4 [2] s d rfl rfl fun a s => ?_)))
    refine w_store (m := 1) (cs' := [.int .i64 (w64 (sv8.1 + 1)), .bool sv8.2.1]) s d 2 rfl rfl rfl Tryz.sizeOf3 rfl rfl rfl rfl trivial ?_
    intro a w s d
    refine nl (sz 3 [2] s d rfl rfl fun a s => ?_)
    refine wp_join (fun a w => ∃ (time197 : Int) (value198 : Int) (Sv196 : _), continuity_look_j2 sv8 rv187 time197 value198 = some tv125 ∧ Sl 53 [(1, .int .i64 t5), (4, .pointer (some ⟨b6, 0, none⟩)), (5, .pointer (some ⟨b7, 0, none⟩)), (6, .int .i64 time197), (7, .int .i64 value198), (10, .int .i64 rv187.1), (11, .int .i64 rv187.2.1), (14, .slice (some ⟨b176, o177, none⟩) l1.length k3), (15, .int .i64 (l1.length : Int)), (16, .int .i64 sv8.2.2.2.2)] a ∧ Wd ⟨w0, S0, []⟩ Sv196 [.box b6 [.int .i64 0, .bool false] 93, .box b7 [.int .i64 (w64 (sv8.1 + 1)), .bool sv8.2.1] 93] [SlA (some ⟨b176, o177, none⟩) l1.length k3 l1] w) ?_ ?_
    ·refine cd s u rfl (fun u => ?_) fun u => ?_
     ·refine wp_region_lit (rz 4 [] s d rfl rfl fun a s => ?_)
      exact ⟨rv187.1, rv187.2.1, Sv85, u, (s.wk rfl), (d.ft [1, 2] [2] (by decide) rfl rfl)⟩
     exact wp_skip (then_normal ⟨sv8.2.2.1, sv8.2.2.2.1, Sv85, u, (s.wk rfl), (d.ft [1, 2] [2] (by decide) rfl rfl)⟩)
    rintro a w ⟨time197, value198, Sv196, u, s, d⟩
    delta continuity_look_j2 at u
    refine then_normal (wp_region_lit (rn 3 [1] s d rfl rfl fun a s => ?_))
    refine rA 4 40 [] s d rfl rfl rfl rfl rfl fun a s => ?_
    refine mv s rfl rfl fun a s => ?_
    refine rA 4 45 [] s d rfl rfl rfl rfl rfl fun a s => ?_
    refine sv s (y_fieldAddr (o' := 1) Tryz.runUnderlying93 rfl Tryz.sizeOf4 rfl rfl rfl) rfl fun a s => ?_
    refine w_store (m := 1) (cs' := [.int .i64 (w64 (sv8.1 + 1)), .bool ((sv8.2.1 && (rv187.1 == time197)) && (rv187.2.1 == value198))]) s d 1 rfl rfl rfl Tryz.sizeOf4 rfl rfl rfl rfl trivial ?_
    intro a w s d
    refine wpList_nil ?_
    exact blk_normal (then_normal ⟨(w64 (sv8.1 + 1)), ((sv8.2.1 && (rv187.1 == time197)) && (rv187.2.1 == value198)), time197, value198, Sv196, u, (s.wk rfl), (d.ft [0, 1] [0] (by decide) rfl rfl)⟩)
   rintro a w ⟨x164, x165, time166, value167, Sv163, u, s, d⟩
   delta continuity_look_j1 at u
   refine then_normal (wp_region_lit (rz 2 [] s d rfl rfl fun a s => ?_))
   exact ⟨_, (Option.some.inj u).symm, Sv163, (s.wk rfl), (d.ft [0, 1] [0] (by decide) rfl rfl)⟩
  refine wp_exit (then_exit (then_exit (blk_exit ?_)))
  have u := oi u
  subst u
  have h202 := hd124 _ rfl
  subst h202
  exact then_normal ⟨Sv85, (s.wk rfl), (d.ft [0, 1] [] (by decide) rfl rfl)⟩
 rintro a w ⟨Sv128, s, d⟩
 refine then_normal (sn 1 [1] s d rfl rfl fun a s => ?_)
 refine w_store (m := 2) (cs' := [.int .i64 e127.1, .bool e127.2]) s d 0 rfl rfl rfl Tryz.sizeOf93 rfl rfl rfl rfl trivial ?_
 intro a w s d
 refine nl ?_
 have u := oi u
 subst u
 exact wp_ret (ret1 s rfl (rv_cell d 0 rfl rfl Tryz.isAgg93 Tryz.sizeOf93 rfl) (d.ret rfl))
abbrev continuity_Overlaps_rd (w0 : World) (X : List Nat) (r : ((List Overlap) × Int)) : Rd := fun S w v => ∃ p0_0 k0_0 c0_0, v = .tuple #[.slice p0_0 r.1.length k0_0, .int .i64 r.2] ∧ Outs X w0 S w [.row p0_0 r.1.length k0_0 c0_0 42 3] ∧ (RowA c0_0 r.1).p S w
theorem continuity_Overlaps_ok {w0 S0 p2 k3 l1 from5 to6 r} (u : continuity_Overlaps l1 from5 to6 = some r) (hS : Dm S0 w0) (h4 : (SlA p2 l1.length k3 l1).p S0 w0) : Calls Tryz.prog 14 #[.slice p2 l1.length k3, .int .i64 from5, .int .i64 to6] w0 (Ret ([]) w0 S0 (continuity_Overlaps_rd w0 ([]) r)) := by
 refine en 105 Tryz.func14 rfl hS rfl rfl rfl fun a s d => ?_
 have d := d.addE h4
 delta continuity_Overlaps at u
 refine sz 2 [] s d rfl rfl fun a s => ?_
 refine wp_seq (sn 3 [] s d rfl rfl fun a s => ?_)
 obtain ⟨rv8, h7, u⟩ := bind_t u
 refine st_callR s (continuity_check_ok h7 d.bdom (d.bE 0 rfl)) (do_call Tryz.call48 rfl) trivial rfl rfl ?_
 rintro v12 Sv9 w a h10 rfl s
 have d := d.callB h10
 refine rz 1 [] s d rfl rfl fun a s => ?_
 refine sz 2 [] s d rfl rfl fun a s => ?_
 refine cd s u rfl (fun u => ?_) fun u => ?_
 ·refine sz 3 [] s d rfl rfl fun a s => ?_
  have u := oi u
  subst u
  have d := d.nilRow Overlap 42
  exact wp_ret (then_ret (ret2 s rfl (rv_tmp rfl) (rv_tmp rfl) (d.ret ⟨none, 0, [], rfl, (d.outs [0] (by decide) rfl), (d.envAt 0 rfl)⟩)))
 refine wp_skip (then_normal (sn 1 [] s d rfl rfl fun a s => ?_))
 obtain ⟨rv17, h16, u⟩ := bind_t u
 refine st_callR s (compose_Order_ok h16 d.dom (d.envAt 0 rfl)) (do_call Tryz.call51 rfl) trivial rfl rfl ?_
 rintro v25 Sv22 w a h23 ⟨p18, k19, c21, rfl, h26, h20⟩ s
 have d := (d.callN h23 h26).addE (e := RowA c21 rv17.1) h20
 refine rz 5 [] s d rfl rfl fun a s => ?_
 refine sz 1 [] s d rfl rfl fun a s => ?_
 refine sn 3 [] s d rfl rfl fun a s => ?_
 obtain ⟨rv28, h27, u⟩ := bind_t u
 obtain ⟨Sv33, d⟩ := w_share (α := Record) d 0 rfl 0 rfl
 refine st_callR s (continuity_borders_ok h27 d.dom (d.envAt 0 rfl)) (do_call Tryz.call52 rfl) trivial rfl rfl ?_
 rintro v37 Sv34 w a h35 ⟨p29, k30, c32, rfl, h38, h31⟩ s
 have d := (d.callN h35 h38).addE (e := RowA c32 rv28) h31
 refine rz 1 [] s d rfl rfl fun a s => ?_
 refine wp_seq (sz 1 [] s d rfl rfl fun a s => ?_)
 obtain ⟨e426, h776, u⟩ := bind_t u
 refine wp_join (fun a w => ∃ c427 p428 k429 Sv430, Sl 105 [(11, .slice p428 e426.length k429)] a ∧ Wd ⟨w0, S0, []⟩ Sv430 [.row p428 e426.length k429 c427 42 3] [RowA c427 e426] w) ?_ ?_
 ·refine wp_block ?_
  have d := d.nilRow Overlap 42
  refine wp_while (fun sv39 a w => ∃ c291 p292 k293 Sv294, Sl 105 [(9, .slice p18 rv17.1.length k19), (11, .slice p292 sv39.1.length k293), (12, .slice p29 rv28.length k30), (13, .int .i64 sv39.2)] a ∧ Wd ⟨w0, S0, []⟩ Sv294 [.row p292 sv39.1.length k293 c291 42 3, .row p29 rv28.length k30 c32 3 1] [SlA p18 rv17.1.length k19 rv17.1, RowA c291 sv39.1, RowA c32 rv28] w) (([] : List Overlap), 0) h776 ⟨[], none, 0, Sv34, (s.wk rfl), (d.ft [0, 1] [2, 0, 1] (by decide) rfl rfl)⟩ ?_
  clear h776
  repeat clear u
  rintro sv39 a w tv424 ⟨c291, p292, k293, Sv294, s, d⟩ u hd423
  delta continuity_Overlaps_l1 at u
  refine wp_seq (sz 5 [] s d rfl rfl fun a s => ?_)
  refine cd s u rfl (fun u => ?_) fun u => ?_
  ·refine wp_skip (then_normal (wp_seq (wp_join (fun a w => ∃ (out557 : (List Overlap)) (c553 p554 k555 Sv556 : _), continuity_Overlaps_j1 sv39 out557 = some tv424 ∧ Sl 105 [(9, .slice p18 rv17.1.length k19), (11, .slice p554 out557.length k555), (12, .slice p29 rv28.length k30), (13, .int .i64 sv39.2)] a ∧ Wd ⟨w0, S0, []⟩ Sv556 [.row p554 out557.length k555 c553 42 3, .row p29 rv28.length k30 c32 3 1] [SlA p18 rv17.1.length k19 rv17.1, RowA c553 out557, RowA c32 rv28] w) ?_ ?_)))
   ·refine wp_block (sn 3 [] s d rfl rfl fun a s => ?_)
    obtain ⟨x562, h560, u⟩ := bind_t u
    obtain ⟨b569, q566, c567, h570, h563, h564, h568, h561⟩ := d.elemRV (α := Int) 1 rfl 2 rfl h560
    have hsv571 := s
    have hwv572 := d
    subst h570
    have s := hsv571
    have d := hwv572
    obtain ⟨_, rfl, rfl⟩ := h561
    refine sv s (y_indexAt Tryz.runUnderlying22 Tryz.sizeOf3 rfl rfl h563.1 h563.2 h564) rfl fun a s => ?_
    refine sv s (y_loadQ1 (j := 0) (d.ownAt 1 rfl) rfl Tryz.isAgg3 h568 rfl) rfl fun a s => ?_
    obtain ⟨rv574, h573, u⟩ := bind_t u
    refine st_callR s (continuity_look_ok h573 d.bdom (d.bE 0 rfl)) (do_call Tryz.call53 rfl) trivial rfl rfl ?_
    rintro v578 Sv575 w a h576 rfl s
    have d := d.callB h576
    refine w_alloc (cs := [.int .i64 0, .bool false]) s d Tryz.zeroValue93 rfl rfl trivial ?_
    intro b580 a w s d
    refine w_store (m := 2) (cs' := (C93 rv574)) s d 0 rfl rfl rfl Tryz.sizeOf93 rfl rfl rfl rfl trivial ?_
    intro a w s d
    refine nl (wp_seq (sz 3 [0] s d rfl rfl fun a s => ?_))
    refine cd s u rfl (fun u => ?_) fun u => ?_
    ·exact wp_exit (then_exit (blk_exit (then_normal ⟨sv39.1, c291, p292, k293, Sv294, u, (s.wk rfl), (d.ft [1, 2] [0, 1, 2] (by decide) rfl rfl)⟩)))
    refine wp_skip (then_normal (sn 2 [] s d rfl rfl fun a s => ?_))
    obtain ⟨n584, h583, u⟩ := bind_t u
    refine sv s (y_assignI rfl h583) rfl fun a s => ?_
    refine nl (wp_seq ?_)
    obtain ⟨c607, hc607, u⟩ := bind_t u
    obtain ⟨c621, hc621, u⟩ := bind_t u
    refine wp_only (fun a w => ∃ Sv622, Sl 105 [(9, .slice p18 rv17.1.length k19), (11, .slice p292 sv39.1.length k293), (12, .slice (some ⟨b569, 0, none⟩) rv28.length k30), (13, .int .i64 sv39.2), (14, .pointer (some ⟨b580, 0, none⟩)), (15, .int .i64 n584), (75, .bool c621)] a ∧ Wd ⟨w0, S0, []⟩ Sv622 [.box b580 (C93 rv574) 93, .row p292 sv39.1.length k293 c291 42 3, .row (some ⟨b569, 0, none⟩) rv28.length k30 c32 3 1] [SlA p18 rv17.1.length k19 rv17.1, RowA c291 sv39.1, RowA c32 rv28] w) ?_ ?_
    ·rcases Bool.eq_false_or_eq_true (decide (0 < n584)) with h623 | h623
     ·have h624 := ite_t hc607 h623
      obtain ⟨x627, h625, h624⟩ := bind_t h624
      obtain ⟨b634, q631, c632, h635, h628, h629, h633, h626⟩ := d.elemRV (α := Overlap) 1 rfl 1 rfl h625
      have hsv636 := s
      have hwv637 := d
      subst h635
      have s := hsv636
      have d := hwv637
      obtain ⟨_, _, _, rfl, rfl, rfl, rfl⟩ := h626
      obtain ⟨x640, h638, h624⟩ := bind_t h624
      obtain ⟨q644, c645, h641, h642, h646, h639⟩ := d.elemRK (α := Int) 2 rfl 2 rfl h638
      obtain ⟨_, rfl, rfl⟩ := h639
      rcases Bool.eq_false_or_eq_true c607 with h647 | h647
      ·have h648 := ite_t hc621 h647
       obtain ⟨x651, h649, h648⟩ := bind_t h648
       obtain ⟨q655, c656, h652, h653, h657, h650⟩ := d.elemRK (α := Overlap) 1 rfl 1 rfl h649
       obtain ⟨_, _, _, rfl, rfl, rfl, rfl⟩ := h650
       refine h_c [0, 1, 2] [] d rfl rfl (by kernel_rfl) rfl fun hC d => ?_
       refine gn 3 [0, 1, 2] [] s hC rfl rfl rfl fun a s => ?_
       have s := s.fix 52 (.bool true) rfl (vb h623)
       refine gn 3 [3, 4, 5] [] s hC rfl rfl rfl fun a s => ?_
       refine gt s 6 rfl ⟨_, rfl, rfl⟩ rfl hC (fun w hC => y_indexAt Tryz.runUnderlying34 Tryz.sizeOf42 rfl rfl h628.1 h628.2 h629) fun a s => ?_
       refine gt s 7 rfl ⟨_, rfl, rfl⟩ rfl hC (fun w hC => y_fieldAddr (o' := q631 + 1) Tryz.runUnderlying42 rfl Tryz.sizeOf3 rfl rfl rfl) fun a s => ?_
       refine gt s 8 rfl ⟨_, rfl, rfl⟩ rfl hC (fun w hC => y_loadQ1 (j := 1) (hC.ownAt 1 rfl) rfl Tryz.isAgg3 h633 rfl) fun a s => ?_
       refine gn 2 [9, 10] [] s hC rfl rfl rfl fun a s => ?_
       refine gt s 11 rfl ⟨_, rfl, rfl⟩ rfl hC (fun w hC => y_indexAt Tryz.runUnderlying22 Tryz.sizeOf3 rfl rfl h641.1 h641.2 h642) fun a s => ?_
       refine gt s 12 rfl ⟨_, rfl, rfl⟩ rfl hC (fun w hC => y_loadQ1 (j := 0) (hC.ownAt 2 rfl) rfl Tryz.isAgg3 h646 rfl) fun a s => ?_
       refine gt s 13 rfl ⟨_, rfl, rfl⟩ rfl hC (fun w hC => y_eql rfl rfl) fun a s => ?_
       refine gv s 14 rfl rfl hC (fun w hC => y_pickTE (v := .bool c607) rfl rfl (vbs h624)) fun a s => ?_
       refine gm s 15 rfl rfl rfl hC fun a s => ?_
       have s := s.fix 65 (.bool true) rfl (vb h647)
       refine gn 3 [16, 17, 18] [] s hC rfl rfl rfl fun a s => ?_
       refine gt s 19 rfl ⟨_, rfl, rfl⟩ rfl hC (fun w hC => y_indexAt Tryz.runUnderlying34 Tryz.sizeOf42 rfl rfl h652.1 h652.2 h653) fun a s => ?_
       refine gt s 20 rfl ⟨_, rfl, rfl⟩ rfl hC (fun w hC => y_fieldAddr (o' := q655 + 2) Tryz.runUnderlying42 rfl Tryz.sizeOf4 rfl rfl rfl) fun a s => ?_
       refine gt s 21 rfl ⟨_, rfl, rfl⟩ rfl hC (fun w hC => y_loadQ1 (j := 2) (hC.ownAt 1 rfl) rfl Tryz.isAgg4 h657 rfl) fun a s => ?_
       refine gn 2 [22, 23] [0] s hC rfl rfl rfl fun a s => ?_
       refine gt s 24 rfl ⟨_, rfl, rfl⟩ rfl hC (fun w hC => y_eqlB Tryz.runUnderlying4 rfl rfl) fun a s => ?_
       refine gv s 25 rfl rfl hC (fun w hC => y_pickTE (v := .bool c621) rfl rfl (vbs h648)) fun a s => ?_
       refine h_done (by kernel_rfl) ?_
       exact ⟨Sv294, (s.wk rfl), (d.ft [0, 1, 2] [0, 1, 2] (by decide) rfl rfl)⟩
      have h658 := ite_f hc621 h647
      refine h_c [0, 1, 2] [] d rfl rfl (by kernel_rfl) rfl fun hC d => ?_
      refine gn 3 [0, 1, 2] [] s hC rfl rfl rfl fun a s => ?_
      have s := s.fix 52 (.bool true) rfl (vb h623)
      refine gn 3 [3, 4, 5] [] s hC rfl rfl rfl fun a s => ?_
      refine gt s 6 rfl ⟨_, rfl, rfl⟩ rfl hC (fun w hC => y_indexAt Tryz.runUnderlying34 Tryz.sizeOf42 rfl rfl h628.1 h628.2 h629) fun a s => ?_
      refine gt s 7 rfl ⟨_, rfl, rfl⟩ rfl hC (fun w hC => y_fieldAddr (o' := q631 + 1) Tryz.runUnderlying42 rfl Tryz.sizeOf3 rfl rfl rfl) fun a s => ?_
      refine gt s 8 rfl ⟨_, rfl, rfl⟩ rfl hC (fun w hC => y_loadQ1 (j := 1) (hC.ownAt 1 rfl) rfl Tryz.isAgg3 h633 rfl) fun a s => ?_
      refine gn 2 [9, 10] [] s hC rfl rfl rfl fun a s => ?_
      refine gt s 11 rfl ⟨_, rfl, rfl⟩ rfl hC (fun w hC => y_indexAt Tryz.runUnderlying22 Tryz.sizeOf3 rfl rfl h641.1 h641.2 h642) fun a s => ?_
      refine gt s 12 rfl ⟨_, rfl, rfl⟩ rfl hC (fun w hC => y_loadQ1 (j := 0) (hC.ownAt 2 rfl) rfl Tryz.isAgg3 h646 rfl) fun a s => ?_
      refine gt s 13 rfl ⟨_, rfl, rfl⟩ rfl hC (fun w hC => y_eql rfl rfl) fun a s => ?_
      refine gv s 14 rfl rfl hC (fun w hC => y_pickTE (v := .bool c607) rfl rfl (vbs h624)) fun a s => ?_
      refine gm s 15 rfl rfl rfl hC fun a s => ?_
      have s := s.fix 65 (.bool false) rfl (vb h647)
      refine gn 9 [16, 17, 18, 19, 20, 21, 22, 23, 24] [] s hC rfl rfl rfl fun a s => ?_
      refine gv s 25 rfl rfl hC (fun w hC => y_pickFE (v := .bool c621) rfl rfl (vbs h658)) fun a s => ?_
      refine h_done (by kernel_rfl) ?_
      exact ⟨Sv294, (s.wk rfl), (d.ft [0, 1, 2] [0, 1, 2] (by decide) rfl rfl)⟩
     have h659 := ite_f hc607 h623
     have h660 : c607 = false := (Option.some.inj h659).symm
     have h661 := ite_f hc621 h660
     refine h_c [0, 1, 2] [] d rfl rfl (by kernel_rfl) rfl fun hC d => ?_
     refine gn 3 [0, 1, 2] [] s hC rfl rfl rfl fun a s => ?_
     have s := s.fix 52 (.bool false) rfl (vb h623)
     refine gn 11 [3, 4, 5, 6, 7, 8, 9, 10, 11, 12, 13] [] s hC rfl rfl rfl fun a s => ?_
     refine gv s 14 rfl rfl hC (fun w hC => y_pickFE (v := .bool c607) rfl rfl (vbs h659)) fun a s => ?_
     refine gm s 15 rfl rfl rfl hC fun a s => ?_
     have s := s.fix 65 (.bool false) rfl (vb h660)
     refine gn 9 [16, 17, 18, 19, 20, 21, 22, 23, 24] [] s hC rfl rfl rfl fun a s => ?_
     refine gv s 25 rfl rfl hC (fun w hC => y_pickFE (v := .bool c621) rfl rfl (vbs h661)) fun a s => ?_
     refine h_done (by kernel_rfl) ?_
     exact ⟨Sv294, (s.wk rfl), (d.ft [0, 1, 2] [0, 1, 2] (by decide) rfl rfl)⟩
    rintro a w ⟨Sv622, s, d⟩
    refine then_normal (wp_join (fun a w => ∃ (out719 : (List Overlap)) (c715 p716 k717 Sv718 : _), continuity_Overlaps_j2 sv39 out719 = some tv424 ∧ Sl 105 [(9, .slice p18 rv17.1.length k19), (11, .slice p716 out719.length k717), (12, .slice (some ⟨b569, 0, none⟩) rv28.length k30), (13, .int .i64 sv39.2)] a ∧ Wd ⟨w0, S0, []⟩ Sv718 [.row p716 out719.length k717 c715 42 3, .row (some ⟨b569, 0, none⟩) rv28.length k30 c32 3 1] [SlA p18 rv17.1.length k19 rv17.1, RowA c715 out719, RowA c32 rv28] w) ?_ ?_)
    ·refine cd s u rfl (fun u => ?_) fun u => ?_
     ·refine wp_region_lit (rn 6 [] s d rfl rfl fun a s => ?_)
      obtain ⟨x723, h721, u⟩ := bind_t u
      obtain ⟨q727, c728, h724, h725, h729, h722⟩ := d.elemRK (α := Int) 2 rfl 2 rfl h721
      obtain ⟨_, rfl, rfl⟩ := h722
      refine sv s (y_indexAt Tryz.runUnderlying22 Tryz.sizeOf3 rfl rfl h724.1 h724.2 h725) rfl fun a s => ?_
      refine sv s (y_loadQ1 (j := 0) (d.ownAt 2 rfl) rfl Tryz.isAgg3 h729 rfl) rfl fun a s => ?_
      obtain ⟨x732, h730, u⟩ := bind_t u
      obtain ⟨b739, q736, c737, h740, h733, h734, h738, h731⟩ := d.elemRV (α := Overlap) 1 rfl 1 rfl h730
      have hsv741 := s
      have hwv742 := d
      subst h740
      have s := hsv741
      have d := hwv742
      obtain ⟨_, _, _, rfl, rfl, rfl, rfl⟩ := h731
      refine sv s (y_indexAt Tryz.runUnderlying34 Tryz.sizeOf42 rfl rfl h733.1 h733.2 h734) rfl fun a s => ?_
      refine sv s (y_fieldAddr (o' := q736 + 1) Tryz.runUnderlying42 rfl Tryz.sizeOf3 rfl rfl rfl) rfl fun a s => ?_
      obtain ⟨l744, h743, u⟩ := bind_t u
      refine w_storeR (α := Overlap) (f := 1) (m := 1) s d 1 rfl 1 rfl h734 rfl rfl Tryz.sizeOf3 rfl rfl rfl h743 (fun es he => by rw [h738] at he; subst he; exact ⟨_, _, _, rfl, rfl, rfl, rfl⟩) trivial ?_
      intro c745 a w s d
      have h746 := setM_len h743
      try have s := s.fl 11 rfl h746
      try have s := s.fl 76 rfl h746
      exact nl ⟨l744, c745, (some ⟨b739, 0, none⟩), k293, Sv622, u, (s.wk rfl), (d.ft [1, 2] [1, 0, 3] (by decide) rfl rfl)⟩
     obtain ⟨x749, h747, u⟩ := bind_t u
     obtain ⟨q753, c754, h750, h751, h755, h748⟩ := d.elemRK (α := Int) 2 rfl 2 rfl h747
     obtain ⟨_, rfl, rfl⟩ := h748
     obtain ⟨x758, h756, u⟩ := bind_t u
     obtain ⟨q762, c763, h759, h760, h764, h757⟩ := d.elemRK (α := Int) 2 rfl 2 rfl h756
     obtain ⟨_, rfl, rfl⟩ := h757
     obtain ⟨l768, h767, u⟩ := bind_t u
     refine wp_only (fun a w => ∃ Sv772 c771 k770 p769, Sl 105 [(9, .slice p18 rv17.1.length k19), (11, .slice p769 l768.length k770), (12, .slice (some ⟨b569, 0, none⟩) rv28.length k30), (13, .int .i64 sv39.2)] a ∧ Wd ⟨w0, S0, []⟩ Sv772 [.row p769 l768.length k770 c771 42 3, .row (some ⟨b569, 0, none⟩) rv28.length k30 c32 3 1] [SlA p18 rv17.1.length k19 rv17.1, RowA c771 l768, RowA c32 rv28] w) ?_ ?_
     ·refine h_c [0, 2] [] d rfl rfl (by kernel_rfl) rfl fun hC d => ?_
      refine gn 3 [0, 1, 2] [] s hC rfl rfl rfl fun a s => ?_
      refine gv s 3 rfl rfl hC (fun w hC => y_indexAt Tryz.runUnderlying22 Tryz.sizeOf3 rfl rfl h750.1 h750.2 h751) fun a s => ?_
      refine gv s 4 rfl rfl hC (fun w hC => y_loadQ1 (j := 0) (hC.ownAt 1 rfl) rfl Tryz.isAgg3 h755 rfl) fun a s => ?_
      refine gn 3 [5, 6, 7] [] s hC rfl rfl rfl fun a s => ?_
      refine gv s 8 rfl rfl hC (fun w hC => y_indexAt Tryz.runUnderlying22 Tryz.sizeOf3 rfl rfl h759.1 h759.2 h760) fun a s => ?_
      refine gv s 9 rfl rfl hC (fun w hC => y_loadQ1 (j := 0) (hC.ownAt 1 rfl) rfl Tryz.isAgg3 h764 rfl) fun a s => ?_
      refine gn 2 [10, 11] [0] s hC rfl rfl rfl fun a s => ?_
      refine gv s 12 rfl rfl hC (fun w hC => y_build (vs := [(0, .int .i64 x749), (1, .int .i64 x758), (2, .bool rv574.same_)]) Bld42 rfl rfl) fun a s => ?_
      refine ho 13 rfl ?_
      refine w_litSlice (α := Overlap) (vs := [.agg #[.int .i64 x749, .int .i64 x758, .bool rv574.same_]]) (cs := [.int .i64 x749, .int .i64 x758, .bool rv574.same_]) (xs := ([(⟨x749, x758, rv574.same_⟩ : Overlap)] : List Overlap)) s d El34 rfl rfl rfl rfl rfl rfl ⟨⟨_, _, _, rfl, rfl, rfl, rfl⟩, rfl⟩ rfl trivial rfl fun b766 a w s d => ?_
      refine h_n [1, 3] [] d rfl rfl fun hC => ?_
      refine h_d [1, 3, 0] [] [0, 1] [] d rfl rfl rfl rfl fun hC => ?_
      refine ho 14 rfl ?_
      refine w_appendR (α := Overlap) s d El34 2 rfl rfl rfl 2 rfl 0 rfl 0 rfl h767 rfl trivial ?_
      intro p769 k770 c771 a w s d
      refine h_n [1, 3, 0] [] d rfl rfl fun hC => ?_
      refine gv s 15 rfl rfl hC (fun w hC => y_assign rfl) fun a s => ?_
      refine h_done (by kernel_rfl) ?_
      exact ⟨Sv622, c771, k770, p769, (s.wk rfl), (d.ft [2, 3] [2, 0, 4] (by decide) rfl rfl)⟩
     rintro a w ⟨Sv772, c771, k770, p769, s, d⟩
     exact then_normal ⟨l768, c771, p769, k770, Sv772, u, (s.wk rfl), (d.ft [0, 1] [0, 1, 2] (by decide) rfl rfl)⟩
    rintro a w ⟨out719, c715, p716, k717, Sv718, u, s, d⟩
    delta continuity_Overlaps_j2 at u
    exact blk_normal (then_normal ⟨out719, c715, p716, k717, Sv718, u, (s.wk rfl), (d.ft [0, 1] [0, 1, 2] (by decide) rfl rfl)⟩)
   rintro a w ⟨out557, c553, p554, k555, Sv556, u, s, d⟩
   delta continuity_Overlaps_j1 at u
   refine then_normal (wp_region_lit (rn 2 [] s d rfl rfl fun a s => ?_))
   obtain ⟨i559, h558, u⟩ := bind_t u
   refine sv s (y_assignI rfl h558) rfl fun a s => ?_
   exact nl ⟨_, (Option.some.inj u).symm, c553, p554, k555, Sv556, (s.wk rfl), (d.ft [0, 1] [0, 1, 2] (by decide) rfl rfl)⟩
  refine wp_exit (then_exit (then_exit (blk_exit ?_)))
  have u := oi u
  subst u
  have h773 := hd423 _ rfl
  subst h773
  exact then_normal ⟨c291, p292, k293, Sv294, (s.wk rfl), (d.ft [0] [1] (by decide) rfl rfl)⟩
 rintro a w ⟨c427, p428, k429, Sv430, s, d⟩
 refine then_normal (wp_seq (sz 3 [] s d rfl rfl fun a s => ?_))
 refine cd s u rfl (fun u => ?_) fun u => ?_
 ·refine sz 2 [] s d rfl rfl fun a s => ?_
  have u := oi u
  subst u
  have d := d.nilRow Overlap 42
  exact wp_ret (then_ret (ret2 s rfl (rv_tmp rfl) (rv_tmp rfl) (d.ret ⟨none, 0, [], rfl, (d.outs [0] (by decide) rfl), (d.envAt 0 rfl)⟩)))
 refine wp_skip (then_normal (sz 3 [] s d rfl rfl fun a s => ?_))
 have u := oi u
 subst u
 exact wp_ret (ret2 s rfl (rv_tmp rfl) (rv_tmp rfl) (d.ret ⟨p428, k429, c427, rfl, (d.outs [0] (by decide) rfl), (d.envAt 0 rfl)⟩))
theorem ref08_Same_ok {w0 S0 p2 k3 p6 k7 a1 b5 r} (u : ref08_Same a1 b5 = some r) (hS : Dm S0 w0) (h4 : (SlA p2 a1.length k3 a1).p S0 w0) (h8 : (SlA p6 b5.length k7 b5).p S0 w0) : Calls Tryz.prog 16 #[.slice p2 a1.length k3, .slice p6 b5.length k7] w0 (Ret ([]) w0 S0 (made_Light_rd w0 ([]) r)) := by
 refine en 26 Tryz.func16 rfl hS rfl rfl rfl fun a s d => ?_
 have d := (d.addE h4).addE h8
 delta ref08_Same at u
 refine sz 1 [] s d rfl rfl fun a s => ?_
 refine wp_seq (sz 5 [] s d rfl rfl fun a s => ?_)
 refine cd s u rfl (fun u => ?_) fun u => ?_
 ·refine sz 1 [] s d rfl rfl fun a s => ?_
  have u := oi u
  subst u
  exact wp_ret (then_ret (ret1 s rfl (rv_tmp rfl) (d.ret rfl)))
 refine wp_skip (then_normal (wp_seq (sz 1 [] s d rfl rfl fun a s => ?_)))
 refine wp_block (wp_while (fun sv109 a w => ∃ Sv173, Sl 26 [(0, .slice p2 a1.length k3), (1, .slice p6 b5.length k7), (5, .int .i64 sv109)] a ∧ Wd ⟨w0, S0, []⟩ Sv173 [] [SlA p2 a1.length k3 a1, SlA p6 b5.length k7 b5] w) 0 u ⟨S0, (s.wk rfl), (d.ft [] [1, 0] (by decide) rfl rfl)⟩ ?_)
 repeat clear u
 rintro sv109 a w tv206 ⟨Sv173, s, d⟩ u hd205
 delta ref08_Same_l2 at u
 refine wp_seq (sz 4 [] s d rfl rfl fun a s => ?_)
 refine cd s u rfl (fun u => ?_) fun u => ?_
 ·refine wp_skip (then_normal (wp_seq (wp_block (wp_seq ?_))))
  obtain ⟨x241, h239, u⟩ := bind_t u
  obtain ⟨b247, o248, q245, c246, h249, h242, h243, h244, h240⟩ := d.elemV 0 rfl h239
  have hsv250 := s
  have hwv251 := d
  subst h249
  have s := hsv250
  have d := hwv251
  obtain ⟨_, _, rfl, rfl, rfl⟩ := h240
  have d := d.addE h244
  obtain ⟨x254, h252, u⟩ := bind_t u
  obtain ⟨b260, o261, q258, c259, h262, h255, h256, h257, h253⟩ := d.elemV 2 rfl h252
  have hsv263 := s
  have hwv264 := d
  subst h262
  have s := hsv263
  have d := hwv264
  obtain ⟨_, _, rfl, rfl, rfl⟩ := h253
  have d := d.addE h257
  refine wp_only (fun a w => ∃ Sv265, Sl 26 [(0, .slice (some ⟨b247, o248, none⟩) a1.length k3), (1, .slice (some ⟨b260, o261, none⟩) b5.length k7), (5, .int .i64 sv109), (25, .bool (!((x241.From == x254.From) && ((x241.To == x254.To) && true))))] a ∧ Wd ⟨w0, S0, []⟩ Sv265 [] [SlA (some ⟨b247, o248, none⟩) a1.length k3 a1, SlA (some ⟨b260, o261, none⟩) b5.length k7 b5] w) ?_ ?_
  ·refine h_c [] [0, 1] d rfl rfl (by kernel_rfl) rfl fun hC d => ?_
   refine gn 2 [0, 1] [] s hC rfl rfl rfl fun a s => ?_
   refine gv s 2 rfl rfl hC (fun w hC => y_indexAt Tryz.runUnderlying30 Tryz.sizeOf71 rfl rfl h242.1 h242.2 h243) fun a s => ?_
   refine gv s 3 rfl rfl hC (fun w hC => y_loadEA (j := 0) (hC.ceAt 1 rfl) rfl Tryz.isAgg71 Tryz.sizeOf71 rfl rfl) fun a s => ?_
   refine gn 2 [4, 5] [] s hC rfl rfl rfl fun a s => ?_
   refine gv s 6 rfl rfl hC (fun w hC => y_indexAt Tryz.runUnderlying30 Tryz.sizeOf71 rfl rfl h255.1 h255.2 h256) fun a s => ?_
   refine gv s 7 rfl rfl hC (fun w hC => y_loadEA (j := 0) (hC.ceAt 0 rfl) rfl Tryz.isAgg71 Tryz.sizeOf71 rfl rfl) fun a s => ?_
   refine gv s 8 rfl rfl hC (fun w hC => y_neqA (by kernel_rfl) rfl rfl (eqv_struct Tryz.runUnderlying71 (by kernel_rfl) (EqF.cons1 rfl Tryz.isAgg3 rfl rfl (eqv_int Tryz.runUnderlying3) (EqF.cons1 rfl Tryz.isAgg3 rfl rfl (eqv_int Tryz.runUnderlying3) EqF.nil)))) fun a s => ?_
   refine h_done (by kernel_rfl) ?_
   exact ⟨Sv173, (s.wk rfl), (d.ft [] [2, 3] (by decide) rfl rfl)⟩
  rintro a w ⟨Sv265, s, d⟩
  refine then_normal (cd s u rfl (fun u => ?_) fun u => ?_)
  ·refine sz 1 [] s d rfl rfl fun a s => ?_
   have u := oi u
   subst u
   have h268 := hd205 _ rfl
   subst h268
   exact wp_ret (blk_ret (then_ret (then_ret (blk_ret (then_ret (ret1 s rfl (rv_tmp rfl) (d.ret rfl)))))))
  refine wp_skip (blk_normal (then_normal (wp_region_lit (rn 2 [] s d rfl rfl fun a s => ?_))))
  obtain ⟨i270, h269, u⟩ := bind_t u
  refine sv s (y_assignI rfl h269) rfl fun a s => ?_
  exact nl ⟨_, (Option.some.inj u).symm, Sv265, (s.wk rfl), (d.ft [] [0, 1] (by decide) rfl rfl)⟩
 obtain ⟨rv271, u, h272⟩ := map_t u
 have h272 := (hd205 _ h272.symm).symm
 subst h272
 refine wp_exit (then_exit (then_exit (blk_exit (then_normal (sz 1 [] s d rfl rfl fun a s => ?_)))))
 have u := oi u
 subst u
 exact wp_ret (ret1 s rfl (rv_tmp rfl) (d.ret rfl))
end Go.Proofs.YtdcafiefjakfeaaGreat.Wk

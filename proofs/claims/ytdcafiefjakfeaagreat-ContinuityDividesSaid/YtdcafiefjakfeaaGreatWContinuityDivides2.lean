/- The walks of ContinuityDivides, part 2: each Go function computes what its plain program computes. Printed by a program of ours. -/
import Derived.Test.YtdcafiefjakfeaaGreatProg
import Derived.Test.YtdcafiefjakfeaaGreatDat
import Derived.Test.YtdcafiefjakfeaaGreatSh
import Derived.Test.YtdcafiefjakfeaaGreatLa1
import Derived.KernelRfl
import Derived.Test.YtdcafiefjakfeaaGreatLb1
import Derived.Shelf.SlLaysF0
import Derived.Shelf.SlLaysM
import Derived.Test.YtdcafiefjakfeaaGreatWContinuityDivides1
namespace Go.Proofs.YtdcafiefjakfeaaGreat.Wk
open Go Go.RowKit Go.Proofs Go.Proofs.YtdcafiefjakfeaaGreat.Sh
set_option linter.unusedVariables false
set_option linter.unusedSimpArgs false
set_option maxHeartbeats 4000000
set_option maxRecDepth 100000
theorem law16_sane_ok {w0 S0 r} (u : law16_sane = some r) (hS : Dm S0 w0) : Calls Tryz.prog 10 #[] w0 (Ret ([]) w0 S0 (made_Light_rd w0 ([]) r)) := by
 refine en 57 Tryz.func10 rfl hS rfl rfl rfl fun a s d => ?_
 delta law16_sane at u
 refine sz 1 [] s d rfl rfl fun a s => ?_
 refine sr (sv s (y_build (vs := [(0, .string (⟨#[65]⟩ : ByteArray)), (1, .string (⟨#[66]⟩ : ByteArray)), (3, .string (⟨#[72, 72, 90]⟩ : ByteArray))]) Bld52 rfl rfl) rfl fun a s => ?_)
 refine w_alloc (cs := Z1) s d Tryz.zeroValue52 rfl rfl trivial ?_
 intro b1 a w s d
 refine w_store (m := 4) (cs' := Z2) s d 0 rfl rfl rfl Tryz.sizeOf52 rfl rfl rfl rfl trivial ?_
 intro a w s d
 refine nl (sr (sv s (y_build (vs := [(0, .int .i64 1), (1, .int .i64 10)]) Bld54 rfl rfl) rfl fun a s => ?_))
 refine w_alloc (cs := [.int .i64 0, .int .i64 0]) s d Tryz.zeroValue54 rfl rfl trivial ?_
 intro b2 a w s d
 refine w_store (m := 2) (cs' := [.int .i64 1, .int .i64 10]) s d 0 rfl rfl rfl Tryz.sizeOf54 rfl rfl rfl rfl trivial ?_
 intro a w s d
 refine nl (sn 2 [1, 0] s d rfl rfl fun a s => ?_)
 refine w_litSlice (α := Int) (vs := [.int .i64 1]) (cs := [.int .i64 1]) (xs := ([1] : List Int)) s d El22 rfl rfl rfl rfl rfl rfl ⟨⟨_, rfl, rfl⟩, rfl⟩ rfl trivial rfl fun b4 a w s d => ?_
 refine sv s (y_build (vs := [(0, .agg Z2.toArray), (3, .agg #[.int .i64 1, .int .i64 10]), (7, .slice (some ⟨b4, 0, none⟩) ([1] : List Int).length ([1] : List Int).length)]) Bld56 rfl rfl) rfl fun a s => ?_
 refine rn 2 [2, 1] s d rfl rfl fun a s => ?_
 refine w_litSlice (α := Int) (vs := [.int .i64 1]) (cs := [.int .i64 1]) (xs := ([1] : List Int)) s d El22 rfl rfl rfl rfl rfl rfl ⟨⟨_, rfl, rfl⟩, rfl⟩ rfl trivial rfl fun b6 a w s d => ?_
 refine sv s (y_build (vs := [(0, .agg Z2.toArray), (1, .int .i64 20000000), (3, .agg #[.int .i64 1, .int .i64 10]), (7, .slice (some ⟨b6, 0, none⟩) ([1] : List Int).length ([1] : List Int).length)]) Bld56 rfl rfl) rfl fun a s => ?_
 refine rn 2 [3, 2] s d rfl rfl fun a s => ?_
 refine w_litSlice (α := Int) (vs := [.int .i64 1]) (cs := [.int .i64 1]) (xs := ([1] : List Int)) s d El22 rfl rfl rfl rfl rfl rfl ⟨⟨_, rfl, rfl⟩, rfl⟩ rfl trivial rfl fun b8 a w s d => ?_
 refine sv s (y_build (vs := [(0, .agg Z2.toArray), (3, .agg #[.int .i64 1, .int .i64 10]), (6, .int .i64 1), (7, .slice (some ⟨b8, 0, none⟩) ([1] : List Int).length ([1] : List Int).length)]) Bld56 rfl rfl) rfl fun a s => ?_
 obtain ⟨l12, h11, u⟩ := bind_t u
 obtain ⟨Sv14, d⟩ := w_share (α := Int) d 2 rfl 0 rfl
 obtain ⟨Sv15, d⟩ := w_share (α := Int) d 1 rfl 1 rfl
 obtain ⟨Sv16, d⟩ := w_share (α := Int) d 0 rfl 2 rfl
 refine w_litSliceO (α := Record) (vs := [.agg #[.string (⟨#[65]⟩ : ByteArray), .string (⟨#[66]⟩ : ByteArray), .string ByteArray.empty, .string (⟨#[72, 72, 90]⟩ : ByteArray), .int .i64 0, .int .i64 0, .int .i64 1, .int .i64 10, .int .i64 0, .int .i64 0, .int .i64 0, .slice (some ⟨b4, 0, none⟩) ([1] : List Int).length ([1] : List Int).length], .agg #[.string (⟨#[65]⟩ : ByteArray), .string (⟨#[66]⟩ : ByteArray), .string ByteArray.empty, .string (⟨#[72, 72, 90]⟩ : ByteArray), .int .i64 20000000, .int .i64 0, .int .i64 1, .int .i64 10, .int .i64 0, .int .i64 0, .int .i64 0, .slice (some ⟨b6, 0, none⟩) ([1] : List Int).length ([1] : List Int).length], .agg #[.string (⟨#[65]⟩ : ByteArray), .string (⟨#[66]⟩ : ByteArray), .string ByteArray.empty, .string (⟨#[72, 72, 90]⟩ : ByteArray), .int .i64 0, .int .i64 0, .int .i64 1, .int .i64 10, .int .i64 0, .int .i64 0, .int .i64 1, .slice (some ⟨b8, 0, none⟩) ([1] : List Int).length ([1] : List Int).length]]) (cs := [.string (⟨#[65]⟩ : ByteArray), .string (⟨#[66]⟩ : ByteArray), .string ByteArray.empty, .string (⟨#[72, 72, 90]⟩ : ByteArray), .int .i64 0, .int .i64 0, .int .i64 1, .int .i64 10, .int .i64 0, .int .i64 0, .int .i64 0, .slice (some ⟨b4, 0, none⟩) ([1] : List Int).length ([1] : List Int).length, .string (⟨#[65]⟩ : ByteArray), .string (⟨#[66]⟩ : ByteArray), .string ByteArray.empty, .string (⟨#[72, 72, 90]⟩ : ByteArray), .int .i64 20000000, .int .i64 0, .int .i64 1, .int .i64 10, .int .i64 0, .int .i64 0, .int .i64 0, .slice (some ⟨b6, 0, none⟩) ([1] : List Int).length ([1] : List Int).length, .string (⟨#[65]⟩ : ByteArray), .string (⟨#[66]⟩ : ByteArray), .string ByteArray.empty, .string (⟨#[72, 72, 90]⟩ : ByteArray), .int .i64 0, .int .i64 0, .int .i64 1, .int .i64 10, .int .i64 0, .int .i64 0, .int .i64 1, .slice (some ⟨b8, 0, none⟩) ([1] : List Int).length ([1] : List Int).length]) (xs := ([(⟨(⟨(⟨#[65]⟩ : ByteArray), (⟨#[66]⟩ : ByteArray), ByteArray.empty, (⟨#[72, 72, 90]⟩ : ByteArray)⟩ : SourceID), 0, 0, (⟨1, 10⟩ : Rate), 0, 0, 0, ([1] : List Int)⟩ : Record), (⟨(⟨(⟨#[65]⟩ : ByteArray), (⟨#[66]⟩ : ByteArray), ByteArray.empty, (⟨#[72, 72, 90]⟩ : ByteArray)⟩ : SourceID), 20000000, 0, (⟨1, 10⟩ : Rate), 0, 0, 0, ([1] : List Int)⟩ : Record), (⟨(⟨(⟨#[65]⟩ : ByteArray), (⟨#[66]⟩ : ByteArray), ByteArray.empty, (⟨#[72, 72, 90]⟩ : ByteArray)⟩ : SourceID), 0, 0, (⟨1, 10⟩ : Rate), 0, 0, 1, ([1] : List Int)⟩ : Record)] : List Record)) s d El28 rfl rfl rfl rfl rfl rfl ⟨⟨_, _, _, _, _, _, _, _, _, _, _, _, rfl, rfl, rfl, rfl, rfl, rfl, rfl, rfl, rfl, rfl, rfl, rfl, ⟨_, _, _, rfl, d.envAt 2 rfl⟩⟩, ⟨⟨_, _, _, _, _, _, _, _, _, _, _, _, rfl, rfl, rfl, rfl, rfl, rfl, rfl, rfl, rfl, rfl, rfl, rfl, ⟨_, _, _, rfl, d.envAt 1 rfl⟩⟩, ⟨⟨_, _, _, _, _, _, _, _, _, _, _, _, rfl, rfl, rfl, rfl, rfl, rfl, rfl, rfl, rfl, rfl, rfl, rfl, ⟨_, _, _, rfl, d.envAt 0 rfl⟩⟩, rfl⟩⟩⟩ rfl trivial rfl h11 fun b10 c13 a w s d => ?_
 refine rz 1 [] s d rfl rfl fun a s => ?_
 refine sn 1 [] s d rfl rfl fun a s => ?_
 obtain ⟨rv18, h17, u⟩ := bind_t u
 obtain ⟨Sv23, d⟩ := w_share (α := Record) d 0 rfl 0 rfl
 refine st_callR s (continuity_Gaps_ok h17 d.dom (d.envAt 0 rfl)) (do_call Tryz.call13 rfl) trivial rfl rfl ?_
 rintro v27 Sv24 w a h25 ⟨p19, k20, c22, rfl, h28, h21⟩ s
 have d := (d.callN h25 h28).addE (e := RowA c22 rv18.1) h21
 refine rz 5 [] s d rfl rfl fun a s => ?_
 refine sn 1 [] s d rfl rfl fun a s => ?_
 obtain ⟨rv30, h29, u⟩ := bind_t u
 refine st_callR s (continuity_Overlaps_ok h29 d.dom (d.envAt 1 rfl)) (do_call Tryz.call14 rfl) trivial rfl rfl ?_
 rintro v38 Sv35 w a h36 ⟨p31, k32, c34, rfl, h39, h33⟩ s
 have d := (d.callN h36 h39).addE (e := RowA c34 rv30.1) h33
 refine rz 5 [] s d rfl rfl fun a s => ?_
 refine sn 3 [] s d rfl rfl fun a s => ?_
 refine rA 3 35 [] s d rfl rfl rfl rfl rfl fun a s => ?_
 refine mv s rfl rfl fun a s => ?_
 obtain ⟨c51, hc51, u⟩ := bind_t u
 refine wpl_join 5 (fun a w => ∃ Sv52, Sl 57 [(6, .slice p31 rv30.1.length k32), (44, .bool c51)] a ∧ Wd ⟨w0, S0, []⟩ Sv52 [.row p31 rv30.1.length k32 c34 42 3] [RowA c34 rv30.1] w) ?_ ?_
 ·rcases Bool.eq_false_or_eq_true ((rv18.2 == 0) && (rv30.2 == 0)) with h50 | h50
  ·have s := s.fix 39 (.bool true) rfl (vb h50)
   have u := ite_t hc51 h50
   refine st_val s (y_move rfl) ⟨_, rfl, rfl⟩ rfl rfl fun a s => ?_
   refine st_val s (y_build (vs := [(0, .int .i64 10000000), (1, .int .i64 20000000)]) Bld71 rfl rfl) ⟨_, rfl, rfl⟩ rfl rfl fun a s => ?_
   refine w_litSlice (α := Span) (vs := [.agg #[.int .i64 10000000, .int .i64 20000000]]) (cs := [.int .i64 10000000, .int .i64 20000000]) (xs := ([(⟨10000000, 20000000⟩ : Span)] : List Span)) s d El30 rfl rfl rfl rfl rfl rfl ⟨⟨_, _, rfl, rfl, rfl⟩, rfl⟩ rfl ⟨_, rfl, rfl⟩ rfl fun b54 a w s d => ?_
   obtain ⟨rv56, h55, u⟩ := bind_t u
   refine st_callR s (ref08_Same_ok h55 d.bdom (d.bRow 2 rfl 2 rfl) (d.bRow 0 rfl 0 rfl)) (do_call Tryz.call16 rfl) ⟨_, rfl, rfl⟩ rfl rfl ?_
   rintro v60 Sv57 w a h58 rfl s
   have d := d.callB h58
   refine sv s (y_pickT rfl rfl) rfl fun a s => ?_
   refine wpList_nil ?_
   have u := oi u
   subst u
   exact then_normal ⟨Sv35, (s.wk rfl), (d.ft [1] [1] (by decide) rfl rfl)⟩
  have s := s.fix 39 (.bool false) rfl (vb h50)
  have u := ite_f hc51 h50
  refine rn 5 [] s d rfl rfl fun a s => ?_
  refine wpList_nil ?_
  have u := oi u
  subst u
  exact then_normal ⟨Sv35, (s.wk rfl), (d.ft [0] [0] (by decide) rfl rfl)⟩
 rintro a w ⟨Sv52, s, d⟩
 refine mv s rfl rfl fun a s => ?_
 refine rA 4 45 [] s d rfl rfl rfl rfl rfl fun a s => ?_
 refine mv s rfl rfl fun a s => ?_
 obtain ⟨c77, hc77, u⟩ := bind_t u
 refine wpl_join 6 (fun a w => ∃ Sv78, Sl 57 [(56, .bool c77)] a ∧ Wd ⟨w0, S0, []⟩ Sv78 [] [] w) ?_ ?_
 ·rcases Bool.eq_false_or_eq_true (c51 && ((rv30.1.length : Int) == 1)) with h76 | h76
  ·have s := s.fix 50 (.bool true) rfl (vb h76)
   have u := ite_t hc77 h76
   refine st_val s (y_move rfl) ⟨_, rfl, rfl⟩ rfl rfl fun a s => ?_
   obtain ⟨x81, h79, u⟩ := bind_t u
   obtain ⟨b88, q85, c86, h89, h82, h83, h87, h80⟩ := d.elemRV (α := Overlap) 0 rfl 0 rfl h79
   have hsv90 := s
   have hwv91 := d
   subst h89
   have s := hsv90
   have d := hwv91
   obtain ⟨_, _, _, rfl, rfl, rfl, rfl⟩ := h80
   refine st_val s (y_indexAt Tryz.runUnderlying34 Tryz.sizeOf42 rfl rfl h82.1 h82.2 h83) ⟨_, rfl, rfl⟩ rfl rfl fun a s => ?_
   refine st_val s (y_loadQA (j := 0) (d.ownAt 0 rfl) rfl Tryz.isAgg42 Tryz.sizeOf42 h87 rfl rfl) ⟨_, rfl, rfl⟩ rfl rfl fun a s => ?_
   refine st_val s (y_build (vs := [(1, .int .i64 10000000), (2, .bool true)]) Bld42 rfl rfl) ⟨_, rfl, rfl⟩ rfl rfl fun a s => ?_
   refine st_val s (y_eqlA (by kernel_rfl) rfl rfl (eqv_struct Tryz.runUnderlying42 (by kernel_rfl) (EqF.cons1 rfl Tryz.isAgg3 rfl rfl (eqv_int Tryz.runUnderlying3) (EqF.cons1 rfl Tryz.isAgg3 rfl rfl (eqv_int Tryz.runUnderlying3) (EqF.cons1 rfl Tryz.isAgg4 rfl rfl (eqv_bool Tryz.runUnderlying4) EqF.nil))))) ⟨_, rfl, rfl⟩ rfl rfl fun a s => ?_
   refine sv s (y_pickT rfl rfl) rfl fun a s => ?_
   refine wpList_nil ?_
   have u := oi u
   subst u
   exact then_normal ⟨Sv52, (s.wk rfl), (d.ft [] [] (by decide) rfl rfl)⟩
  have s := s.fix 50 (.bool false) rfl (vb h76)
  have u := ite_f hc77 h76
  refine rn 6 [] s d rfl rfl fun a s => ?_
  refine wpList_nil ?_
  have u := oi u
  subst u
  exact then_normal ⟨Sv52, (s.wk rfl), (d.ft [] [] (by decide) rfl rfl)⟩
 rintro a w ⟨Sv78, s, d⟩
 refine rz 1 [] s d rfl rfl fun a s => ?_
 have u := oi u
 subst u
 exact wp_ret (ret1 s rfl (rv_tmp rfl) (d.ret rfl))
abbrev made_Roll_rd (w0 : World) (X : List Nat) (r : Dice) : Rd := fun S w v => ∃ b_0 p0_0 k0_0, v = .pointer (some ⟨b_0, 0, none⟩) ∧ Outs X w0 S w [.box b_0 (C87 r p0_0 k0_0) 87] ∧ (SlA p0_0 r.L.length k0_0 r.L).p S w
theorem made_Roll_ok {w0 S0 p2 k3 l1 r} (u : made_Roll l1 = some r) (hS : Dm S0 w0) (h4 : (SlA p2 l1.length k3 l1).p S0 w0) : Calls Tryz.prog 11 #[.slice p2 l1.length k3] w0 (Ret ([]) w0 S0 (made_Roll_rd w0 ([]) r)) := by
 refine en 6 Tryz.func11 rfl hS rfl rfl rfl fun a s d => ?_
 have d := d.addE h4
 delta made_Roll at u
 refine sz 1 [] s d rfl rfl fun a s => ?_
 refine sn 1 [] s d rfl rfl fun a s => ?_
 refine sv s (y_build (vs := [(0, .slice p2 l1.length k3)]) Bld87 rfl rfl) rfl fun a s => ?_
 refine w_box (cs := [.slice p2 l1.length k3, .int .i64 0]) s d rfl rfl rfl trivial ?_
 intro b5 a w s d
 refine rz 1 [] s d rfl rfl fun a s => ?_
 have u := oi u
 subst u
 exact wp_ret (ret1 s rfl (rv_tmp rfl) (d.ret ⟨b5, p2, k3, rfl, (d.outs [0] (by decide) rfl), (d.envAt 0 rfl)⟩))
abbrev made_Dice_Next_rd (w0 : World) (X : List Nat) (b2 : Nat) (r : (Int × Dice)) : (Nat → Prop) → World → Value → Prop := fun S w v => ∃ pq0_0 kq0_0, v = .int .i64 r.1 ∧ Outs X w0 S w [.box b2 (C87 r.2 pq0_0 kq0_0) 87] ∧ (SlA pq0_0 r.2.L.length kq0_0 r.2.L).p S w
theorem made_Dice_Next_ok {w0 S0 b2 p3 k4 d1 n6 r} (u : made_Dice_Next d1 n6 = some r) (hS : Dm S0 w0) (hin : Ins S0 w0 [.box b2 (C87 d1 p3 k4) 87]) (h5 : (SlA p3 d1.L.length k4 d1.L).p S0 w0) : Calls Tryz.prog 30 #[.pointer (some ⟨b2, 0, none⟩), .int .i64 n6] w0 (Ret (blks [.box b2 (C87 d1 p3 k4) 87]) w0 S0 (made_Dice_Next_rd w0 (blks [.box b2 (C87 d1 p3 k4) 87]) b2 r)) := by
 refine enI 45 Tryz.func30 rfl hS hin rfl rfl rfl fun a s d => ?_
 have d := d.addE h5
 delta made_Dice_Next at u
 refine sz 1 [] s d rfl rfl fun a s => ?_
 refine wp_seq (wp_seq (wp_only (fun a w => ∃ Sv7, Sl 45 [(0, .pointer (some ⟨b2, 0, none⟩)), (1, .int .i64 n6), (19, .bool ((decide ((d1.L.length : Int) ≤ d1.At)) || (decide (n6 < 1))))] a ∧ Wd ⟨w0, S0, blks [.box b2 (C87 d1 p3 k4) 87]⟩ Sv7 [.box b2 (C87 d1 p3 k4) 87] [SlA p3 d1.L.length k4 d1.L] w) ?_ ?_))
 ·refine h_c [0] [] d rfl rfl (by kernel_rfl) rfl fun hC d => ?_
  refine gn 11 [0, 1, 2, 3, 4, 5, 6, 7, 8, 9, 10] [0, 0] s hC rfl rfl rfl fun a s => ?_
  refine gO 3 16 [11, 12, 13] [] s hC rfl rfl rfl rfl rfl rfl fun a s => ?_
  refine h_done (by kernel_rfl) ?_
  exact ⟨S0, (s.wk rfl), (d.ft [0] [0] (by decide) rfl rfl)⟩
 rintro a w ⟨Sv7, s, d⟩
 refine then_normal (cd s u rfl (fun u => ?_) fun u => ?_)
 ·refine sz 1 [] s d rfl rfl fun a s => ?_
  have u := oi u
  subst u
  exact wp_ret (then_ret (ret1 s rfl (rv_tmp rfl) (d.ret ⟨p3, k4, rfl, (d.outs [0] (by decide) rfl), (d.envAt 0 rfl)⟩)))
 refine wp_skip (then_normal (wp_seq ?_))
 obtain ⟨x12, h10, u⟩ := bind_t u
 obtain ⟨b18, o19, q16, c17, h20, h13, h14, h15, h11⟩ := d.elemV 0 rfl h10
 have hsv21 := s
 have hwv22 := d
 subst h20
 have s := hsv21
 have d := hwv22
 obtain ⟨_, rfl, rfl⟩ := h11
 have d := d.addE h15
 obtain ⟨rem24, h23, u⟩ := bind_t u
 refine wp_only (fun a w => ∃ Sv25, Sl 45 [(0, .pointer (some ⟨b2, 0, none⟩)), (1, .int .i64 n6), (5, .int .i64 rem24)] a ∧ Wd ⟨w0, S0, blks [.box b2 (C87 d1 (some ⟨b18, o19, none⟩) k4) 87]⟩ Sv25 [.box b2 (C87 d1 (some ⟨b18, o19, none⟩) k4) 87] [SlA (some ⟨b18, o19, none⟩) d1.L.length k4 d1.L] w) ?_ ?_
 ·refine h_c [0] [0] d rfl rfl (by kernel_rfl) rfl fun hC d => ?_
  refine gn 8 [0, 1, 2, 3, 4, 5, 6, 7] [0, 0] s hC rfl rfl rfl fun a s => ?_
  refine gv s 8 rfl rfl hC (fun w hC => y_indexAt Tryz.runUnderlying22 Tryz.sizeOf3 rfl rfl h13.1 h13.2 h14) fun a s => ?_
  refine gv s 9 rfl rfl hC (fun w hC => y_loadE1 (j := 0) (hC.ceAt 0 rfl) rfl Tryz.isAgg3 rfl) fun a s => ?_
  refine gm s 10 rfl rfl rfl hC fun a s => ?_
  refine gv s 11 rfl rfl hC (fun w hC => y_remM rfl rfl h23) fun a s => ?_
  refine gv s 12 rfl rfl hC (fun w hC => y_assign rfl) fun a s => ?_
  refine h_done (by kernel_rfl) ?_
  exact ⟨Sv7, (s.wk rfl), (d.ft [0] [1] (by decide) rfl rfl)⟩
 rintro a w ⟨Sv25, s, d⟩
 refine then_normal (sn 7 [0] s d rfl rfl fun a s => ?_)
 refine w_store (m := 1) (cs' := [.slice (some ⟨b18, o19, none⟩) d1.L.length k4, .int .i64 (w64 (d1.At + 1))]) s d 0 rfl rfl rfl Tryz.sizeOf3 rfl rfl rfl rfl trivial ?_
 intro a w s d
 refine nl (wp_seq (sz 2 [] s d rfl rfl fun a s => ?_))
 refine wp_join (fun a w => ∃ (x30 : Int) (Sv29 : _), made_Dice_Next_j1 d1 x30 = some r ∧ Sl 45 [(5, .int .i64 x30)] a ∧ Wd ⟨w0, S0, blks [.box b2 (C87 d1 (some ⟨b18, o19, none⟩) k4) 87]⟩ Sv29 [.box b2 [.slice (some ⟨b18, o19, none⟩) d1.L.length k4, .int .i64 (w64 (d1.At + 1))] 87] [SlA (some ⟨b18, o19, none⟩) d1.L.length k4 d1.L] w) ?_ ?_
 ·refine cd s u rfl (fun u => ?_) fun u => ?_
  ·refine wp_region_lit (rn 3 [] s d rfl rfl fun a s => ?_)
   obtain ⟨x33, h32, u⟩ := bind_t u
   refine sv s (y_assignI rfl h32) rfl fun a s => ?_
   exact nl ⟨x33, Sv25, u, (s.wk rfl), (d.ft [0] [0] (by decide) rfl rfl)⟩
  exact wp_skip (then_normal ⟨rem24, Sv25, u, (s.wk rfl), (d.ft [0] [0] (by decide) rfl rfl)⟩)
 rintro a w ⟨x30, Sv29, u, s, d⟩
 delta made_Dice_Next_j1 at u
 refine then_normal (sz 2 [] s d rfl rfl fun a s => ?_)
 have u := oi u
 subst u
 exact wp_ret (ret1 s rfl (rv_tmp rfl) (d.ret ⟨(some ⟨b18, o19, none⟩), k4, rfl, (d.outs [0] (by decide) rfl), (d.envAt 0 rfl)⟩))
abbrev made_Dice_Source_rd (w0 : World) (X : List Nat) (b2 : Nat) (r : (SourceID × Dice)) : (Nat → Prop) → World → Value → Prop := fun S w v => ∃ pq0_0 kq0_0, v = V52 r.1 ∧ Outs X w0 S w [.box b2 (C87 r.2 pq0_0 kq0_0) 87] ∧ (SlA pq0_0 r.2.L.length kq0_0 r.2.L).p S w
abbrev D46t1 (b2 : Nat) (b6 : Nat) : Slots := [(0, .pointer (some ⟨b2, 0, none⟩)), (2, .pointer (some ⟨b6, 0, none⟩))]
abbrev D46t2 (b2 : Nat) (b24 : Nat) (b40 : Nat) (b56 : Nat) (b8 : Nat) (rv10 : (Int × Dice)) (rv26 : (Int × Dice)) (rv42 : (Int × Dice)) (rv58 : (Int × Dice)) (x16 : ByteArray) (x32 : ByteArray) (x48 : ByteArray) (x64 : ByteArray) : Vs := [(0, 3, .slice (some ⟨b8, 0, none⟩) ([(⟨#[71, 82]⟩ : ByteArray), (⟨#[88]⟩ : ByteArray), (⟨#[55, 65]⟩ : ByteArray)] : List ByteArray).length ([(⟨#[71, 82]⟩ : ByteArray), (⟨#[88]⟩ : ByteArray), (⟨#[55, 65]⟩ : ByteArray)] : List ByteArray).length), (1, 4, .pointer (some ⟨b2, 0, none⟩)), (2, 5, .int .i64 rv10.1), (3, 6, .pointer (some ⟨b8, (0 + (rv10.1).toNat * 1), none⟩)), (4, 7, .string x16), (5, 8, .slice (some ⟨b24, 0, none⟩) ([(⟨#[70, 85, 82]⟩ : ByteArray), (⟨#[65]⟩ : ByteArray), (⟨#[65, 66, 67, 68, 69]⟩ : ByteArray), (⟨#[70, 85]⟩ : ByteArray)] : List ByteArray).length ([(⟨#[70, 85, 82]⟩ : ByteArray), (⟨#[65]⟩ : ByteArray), (⟨#[65, 66, 67, 68, 69]⟩ : ByteArray), (⟨#[70, 85]⟩ : ByteArray)] : List ByteArray).length), (6, 9, .pointer (some ⟨b2, 0, none⟩)), (7, 10, .int .i64 rv26.1), (8, 11, .pointer (some ⟨b24, (0 + (rv26.1).toNat * 1), none⟩)), (9, 12, .string x32), (10, 13, .slice (some ⟨b40, 0, none⟩) ([(⟨#[]⟩ : ByteArray), (⟨#[48, 48]⟩ : ByteArray), (⟨#[49, 48]⟩ : ByteArray)] : List ByteArray).length ([(⟨#[]⟩ : ByteArray), (⟨#[48, 48]⟩ : ByteArray), (⟨#[49, 48]⟩ : ByteArray)] : List ByteArray).length), (11, 14, .pointer (some ⟨b2, 0, none⟩)), (12, 15, .int .i64 rv42.1), (13, 16, .pointer (some ⟨b40, (0 + (rv42.1).toNat * 1), none⟩)), (14, 17, .string x48), (15, 18, .slice (some ⟨b56, 0, none⟩) ([(⟨#[72, 72, 90]⟩ : ByteArray), (⟨#[72, 72, 78]⟩ : ByteArray), (⟨#[66, 72, 90]⟩ : ByteArray)] : List ByteArray).length ([(⟨#[72, 72, 90]⟩ : ByteArray), (⟨#[72, 72, 78]⟩ : ByteArray), (⟨#[66, 72, 90]⟩ : ByteArray)] : List ByteArray).length), (16, 19, .pointer (some ⟨b2, 0, none⟩)), (17, 20, .int .i64 rv58.1), (18, 21, .pointer (some ⟨b56, (0 + (rv58.1).toNat * 1), none⟩)), (19, 22, .string x64), (20, 23, .agg #[.string x16, .string x32, .string x48, .string x64])]
abbrev D46t3 : List Value := Z3
abbrev D46t4 : List ByteArray := ([(⟨#[71, 82]⟩ : ByteArray), (⟨#[88]⟩ : ByteArray), (⟨#[55, 65]⟩ : ByteArray)] : List ByteArray)
abbrev D46t5 : List Value := Z4
abbrev D46t6 : List ByteArray := ([(⟨#[70, 85, 82]⟩ : ByteArray), (⟨#[65]⟩ : ByteArray), (⟨#[65, 66, 67, 68, 69]⟩ : ByteArray), (⟨#[70, 85]⟩ : ByteArray)] : List ByteArray)
abbrev D46t7 : List Value := Z5
abbrev D46t8 : List ByteArray := ([(⟨#[]⟩ : ByteArray), (⟨#[48, 48]⟩ : ByteArray), (⟨#[49, 48]⟩ : ByteArray)] : List ByteArray)
abbrev D46t9 : List Value := Z6
abbrev D46t10 : List ByteArray := ([(⟨#[72, 72, 90]⟩ : ByteArray), (⟨#[72, 72, 78]⟩ : ByteArray), (⟨#[66, 72, 90]⟩ : ByteArray)] : List ByteArray)
theorem made_Dice_Source_ok {w0 S0 b2 p3 k4 d1 r} (u : made_Dice_Source d1 = some r) (hS : Dm S0 w0) (hin : Ins S0 w0 [.box b2 (C87 d1 p3 k4) 87]) (h5 : (SlA p3 d1.L.length k4 d1.L).p S0 w0) : Calls Tryz.prog 46 #[.pointer (some ⟨b2, 0, none⟩)] w0 (Ret (blks [.box b2 (C87 d1 p3 k4) 87]) w0 S0 (made_Dice_Source_rd w0 (blks [.box b2 (C87 d1 p3 k4) 87]) b2 r)) := by
 refine enI 24 Tryz.func46 rfl hS hin rfl rfl rfl fun a s d => ?_
 have d := d.addE h5
 delta made_Dice_Source at u
 refine sr (w_alloc (cs := Z1) s d Tryz.zeroValue52 rfl rfl trivial ?_)
 intro b6 a w s d
 refine nl (wp_seq ?_)
 obtain ⟨rv10, h9, u⟩ := bind_t u
 obtain ⟨x16, h14, u⟩ := bind_t u
 obtain ⟨rv26, h25, u⟩ := bind_t u
 obtain ⟨x32, h30, u⟩ := bind_t u
 obtain ⟨rv42, h41, u⟩ := bind_t u
 obtain ⟨x48, h46, u⟩ := bind_t u
 obtain ⟨rv58, h57, u⟩ := bind_t u
 obtain ⟨x64, h62, u⟩ := bind_t u
 refine wp_only (fun a w => ∃ Sv71 k60 p59, Sl 24 [(2, .pointer (some ⟨b6, 0, none⟩))] a ∧ Wd ⟨w0, S0, blks [.box b2 (C87 d1 p3 k4) 87]⟩ Sv71 [.box b2 (C87 rv58.2 p59 k60) 87, .box b6 [.string x16, .string x32, .string x48, .string x64] 52] [SlA p59 rv58.2.L.length k60 rv58.2.L] w) ?_ ?_
 ·refine wp_region_phi (n := 22) (Φ := fun l a w => ∃ b24 b40 b56 b8 k12 k28 k44 k60 p11 p27 p43 p59 S, SlF 24 (D46t1 b2 b6) (D46t2 b2 b24 b40 b56 b8 rv10 rv26 rv42 rv58 x16 x32 x48 x64) l a ∧ Wd ⟨w0, S0, blks [.box b2 (C87 d1 p3 k4) 87]⟩ S [((bif l 21 then .box b6 [.string x16, .string x32, .string x48, .string x64] 52 else .box b6 Z1 52) : Res), ((bif l 17 then .box b2 (C87 rv58.2 p59 k60) 87 else (bif l 12 then .box b2 (C87 rv42.2 p43 k44) 87 else (bif l 7 then .box b2 (C87 rv26.2 p27 k28) 87 else (bif l 2 then .box b2 (C87 rv10.2 p11 k12) 87 else .box b2 (C87 d1 p3 k4) 87)))) : Res), ((bif l 0 then .row (some ⟨b8, 0, none⟩) ([(⟨#[71, 82]⟩ : ByteArray), (⟨#[88]⟩ : ByteArray), (⟨#[55, 65]⟩ : ByteArray)] : List ByteArray).length ([(⟨#[71, 82]⟩ : ByteArray), (⟨#[88]⟩ : ByteArray), (⟨#[55, 65]⟩ : ByteArray)] : List ByteArray).length Z3 9 1 else emp) : Res), ((bif l 5 then .row (some ⟨b24, 0, none⟩) ([(⟨#[70, 85, 82]⟩ : ByteArray), (⟨#[65]⟩ : ByteArray), (⟨#[65, 66, 67, 68, 69]⟩ : ByteArray), (⟨#[70, 85]⟩ : ByteArray)] : List ByteArray).length ([(⟨#[70, 85, 82]⟩ : ByteArray), (⟨#[65]⟩ : ByteArray), (⟨#[65, 66, 67, 68, 69]⟩ : ByteArray), (⟨#[70, 85]⟩ : ByteArray)] : List ByteArray).length Z4 9 1 else emp) : Res), ((bif l 10 then .row (some ⟨b40, 0, none⟩) ([(⟨#[]⟩ : ByteArray), (⟨#[48, 48]⟩ : ByteArray), (⟨#[49, 48]⟩ : ByteArray)] : List ByteArray).length ([(⟨#[]⟩ : ByteArray), (⟨#[48, 48]⟩ : ByteArray), (⟨#[49, 48]⟩ : ByteArray)] : List ByteArray).length Z5 9 1 else emp) : Res), ((bif l 15 then .row (some ⟨b56, 0, none⟩) ([(⟨#[72, 72, 90]⟩ : ByteArray), (⟨#[72, 72, 78]⟩ : ByteArray), (⟨#[66, 72, 90]⟩ : ByteArray)] : List ByteArray).length ([(⟨#[72, 72, 90]⟩ : ByteArray), (⟨#[72, 72, 78]⟩ : ByteArray), (⟨#[66, 72, 90]⟩ : ByteArray)] : List ByteArray).length Z6 9 1 else emp) : Res)] [SlA p3 d1.L.length k4 d1.L, optA (l 0) (RowA Z3 ([(⟨#[71, 82]⟩ : ByteArray), (⟨#[88]⟩ : ByteArray), (⟨#[55, 65]⟩ : ByteArray)] : List ByteArray)), optA (l 2) (SlA p11 rv10.2.L.length k12 rv10.2.L), optA (l 5) (RowA Z4 ([(⟨#[70, 85, 82]⟩ : ByteArray), (⟨#[65]⟩ : ByteArray), (⟨#[65, 66, 67, 68, 69]⟩ : ByteArray), (⟨#[70, 85]⟩ : ByteArray)] : List ByteArray)), optA (l 7) (SlA p27 rv26.2.L.length k28 rv26.2.L), optA (l 10) (RowA Z5 ([(⟨#[]⟩ : ByteArray), (⟨#[48, 48]⟩ : ByteArray), (⟨#[49, 48]⟩ : ByteArray)] : List ByteArray)), optA (l 12) (SlA p43 rv42.2.L.length k44 rv42.2.L), optA (l 15) (RowA Z6 ([(⟨#[72, 72, 90]⟩ : ByteArray), (⟨#[72, 72, 78]⟩ : ByteArray), (⟨#[66, 72, 90]⟩ : ByteArray)] : List ByteArray)), optA (l 17) (SlA p59 rv58.2.L.length k60 rv58.2.L)] w) [1, 1, 2, 3, 4, 1, 1, 3, 4, 5, 1, 1, 4, 5, 6, 1, 1, 5, 6, 7, 8, 9] (by kernel_rfl) rfl (by kernel_rfl) ?_ (AllS.succ (AllS.succ (AllS.succ (AllS.succ (AllS.succ (AllS.succ (AllS.succ (AllS.succ (AllS.succ (AllS.succ (AllS.succ (AllS.succ (AllS.succ (AllS.succ (AllS.succ (AllS.succ (AllS.succ (AllS.succ (AllS.succ (AllS.succ (AllS.succ (AllS.succ AllS.zero ?_) ?_) ?_) ?_) ?_) ?_) ?_) ?_) ?_) ?_) ?_) ?_) ?_) ?_) ?_) ?_) ?_) ?_) ?_) ?_) ?_) ?_) ?_
  ·obtain ⟨b24, b40, b56, b8, k12, k28, k44, k60, p11, p27, p43, p59, _⟩ : ∃ b24 b40 b56 b8 k12 k28 k44 k60 p11 p27 p43 p59, True := ⟨0, 0, 0, 0, 0, 0, 0, 0, none, none, none, none, trivial⟩
   have d := ((d.drew).emp).emp
   have d := ((d.emp).emp).noE (SlA p59 rv58.2.L.length k60 rv58.2.L)
   have d := ((d.noE (RowA Z6 ([(⟨#[72, 72, 90]⟩ : ByteArray), (⟨#[72, 72, 78]⟩ : ByteArray), (⟨#[66, 72, 90]⟩ : ByteArray)] : List ByteArray))).noE (SlA p43 rv42.2.L.length k44 rv42.2.L)).noE (RowA Z5 ([(⟨#[]⟩ : ByteArray), (⟨#[48, 48]⟩ : ByteArray), (⟨#[49, 48]⟩ : ByteArray)] : List ByteArray))
   have d := ((d.noE (SlA p27 rv26.2.L.length k28 rv26.2.L)).noE (RowA Z4 ([(⟨#[70, 85, 82]⟩ : ByteArray), (⟨#[65]⟩ : ByteArray), (⟨#[65, 66, 67, 68, 69]⟩ : ByteArray), (⟨#[70, 85]⟩ : ByteArray)] : List ByteArray))).noE (SlA p11 rv10.2.L.length k12 rv10.2.L)
   have d := d.noE (RowA Z3 ([(⟨#[71, 82]⟩ : ByteArray), (⟨#[88]⟩ : ByteArray), (⟨#[55, 65]⟩ : ByteArray)] : List ByteArray))
   exact ⟨b24, b40, b56, b8, k12, k28, k44, k60, p11, p27, p43, p59, S0, SlF.init (s.wk rfl) (by kernel_rfl), d.ft [4, 5, 0, 1, 2, 3] [8, 0, 1, 2, 3, 4, 5, 6, 7] (by decide) rfl rfl⟩
  ·intro l hi hp hc a w ⟨b24, b40, b56, b8, k12, k28, k44, k60, p11, p27, p43, p59, S, hS, d⟩
   refine S_eff rfl ?_
   have s := hS.open_ .nil
   refine w_litSlice (α := ByteArray) (vs := D46t3) (cs := D46t3) (xs := D46t4) s d El122 rfl rfl rfl rfl rfl rfl ⟨⟨_, rfl, rfl⟩, ⟨⟨_, rfl, rfl⟩, ⟨⟨_, rfl, rfl⟩, rfl⟩⟩⟩ rfl trivial rfl fun b8 a w s d => ?_
   have h_3 := l_neg hc 3 hi rfl
   have d := d.opt 0 rfl true
   exact nl ⟨b24, b40, b56, b8, k12, k28, k44, k60, p11, p27, p43, p59, S, hS.close .nil s rfl (.here (.same (.same (.neg h_3 rfl (.same (.same (.same (.same (.same (.same (.same (.same (.same (.same (.same (.same (.same (.same (.same (.same (.same .nil))))))))))))))))))))) 0 rfl, d.ft [1, 2, 0, 4, 5, 6] [2, 0, 4, 5, 6, 7, 8, 9, 10] (by decide) rfl rfl⟩
  ·intro l hi hp hc a w ⟨b24, b40, b56, b8, k12, k28, k44, k60, p11, p27, p43, p59, S, hS, d⟩
   refine S_val hS (.b (t := 0) rfl .nil) rfl rfl trivial (y_move rfl) (rfl) 1 rfl fun a hS => ⟨b24, b40, b56, b8, k12, k28, k44, k60, p11, p27, p43, p59, S, hS, d⟩
  ·intro l hi hp hc a w ⟨b24, b40, b56, b8, k12, k28, k44, k60, p11, p27, p43, p59, S, hS, d⟩
   have h_7 := l_neg hc 7 hi rfl
   have h_12 := l_neg hc 12 h_7 rfl
   have h_17 := l_neg hc 17 h_12 rfl
   have d := d.fixR 1 (r' := .box b2 (C87 d1 p3 k4) 87) rfl ((bF h_17).trans ((bF h_12).trans ((bF h_7).trans ((bF hi)))))
   have h_1 := hp 1 rfl
   refine S_eff rfl ?_
   have s := hS.open_ (.v (t := 4) 1 rfl h_1 .nil)
   refine st_callR s (made_Dice_Next_ok h9 d.dom (d.ins [1] (by decide) rfl) (d.envAt 0 rfl)) (do_call Tryz.call30 rfl) trivial rfl rfl ?_
   rintro v100 Sv97 w a h98 ⟨p11, k12, rfl, h101, h13⟩ s
   have d := ((d.callO [1] [0, 2, 3, 4, 5] (by decide) rfl h98 h101).addE (e := SlA p11 rv10.2.L.length k12 rv10.2.L) h13).fixR 0 (r' := (bif l 17 then .box b2 (C87 rv58.2 p59 k60) 87 else (bif l 12 then .box b2 (C87 rv42.2 p43 k44) 87 else (bif l 7 then .box b2 (C87 rv26.2 p27 k28) 87 else .box b2 (C87 rv10.2 p11 k12) 87)))) rfl ((bF h_17).trans ((bF h_12).trans ((bF h_7)))).symm
   have d := d.opt 0 rfl true
   exact nl ⟨b24, b40, b56, b8, k12, k28, k44, k60, p11, p27, p43, p59, Sv97, hS.close (.v (t := 4) 1 rfl h_1 .nil) s rfl (.same (.same (.here (.same (.same (.same (.same (.same (.same (.same (.same (.same (.same (.same (.same (.same (.same (.same (.same (.same (.same .nil))))))))))))))))))))) 2 rfl, d.ft [1, 0, 2, 3, 4, 5] [2, 3, 0, 5, 6, 7, 8, 9, 10] (by decide) rfl rfl⟩
  ·intro l hi hp hc a w ⟨b24, b40, b56, b8, k12, k28, k44, k60, p11, p27, p43, p59, S, hS, d⟩
   have hw0 := d
   have h_0 := hp 0 rfl
   have d := (d.fixR 2 (r' := .row (some ⟨b8, 0, none⟩) ([(⟨#[71, 82]⟩ : ByteArray), (⟨#[88]⟩ : ByteArray), (⟨#[55, 65]⟩ : ByteArray)] : List ByteArray).length ([(⟨#[71, 82]⟩ : ByteArray), (⟨#[88]⟩ : ByteArray), (⟨#[55, 65]⟩ : ByteArray)] : List ByteArray).length Z3 9 1) rfl ((bT h_0))).yes 1 rfl h_0
   have h_2 := hp 2 rfl
   obtain ⟨c21, h17, h22, h15⟩ := d.elemRX (α := ByteArray) 2 rfl 0 rfl h14
   obtain ⟨_, rfl, rfl⟩ := h15
   refine S_val hS (.v (t := 3) 0 rfl h_0 (.v (t := 5) 2 rfl h_2 .nil)) rfl rfl trivial (y_indexAt Tryz.runUnderlying122 Tryz.sizeOf9 rfl rfl h17.1 h17.2 rfl) (rfl) 3 rfl fun a hS => ⟨b24, b40, b56, b8, k12, k28, k44, k60, p11, p27, p43, p59, S, hS, hw0⟩
  ·intro l hi hp hc a w ⟨b24, b40, b56, b8, k12, k28, k44, k60, p11, p27, p43, p59, S, hS, d⟩
   have hw0 := d
   have h_3 := hp 3 rfl
   have h_0 := hc 3 0 rfl h_3
   have d := (d.fixR 2 (r' := .row (some ⟨b8, 0, none⟩) ([(⟨#[71, 82]⟩ : ByteArray), (⟨#[88]⟩ : ByteArray), (⟨#[55, 65]⟩ : ByteArray)] : List ByteArray).length ([(⟨#[71, 82]⟩ : ByteArray), (⟨#[88]⟩ : ByteArray), (⟨#[55, 65]⟩ : ByteArray)] : List ByteArray).length Z3 9 1) rfl ((bT h_0))).yes 1 rfl h_0
   obtain ⟨c21, h17, h22, h15⟩ := d.elemRX (α := ByteArray) 2 rfl 0 rfl h14
   obtain ⟨_, rfl, rfl⟩ := h15
   refine S_val hS (.v (t := 6) 3 rfl h_3 .nil) rfl rfl trivial (y_loadQ1 (j := 0) (d.ownAt 2 rfl) rfl Tryz.isAgg9 h22 rfl) (rfl) 4 rfl fun a hS => ⟨b24, b40, b56, b8, k12, k28, k44, k60, p11, p27, p43, p59, S, hS, hw0⟩
  ·intro l hi hp hc a w ⟨b24, b40, b56, b8, k12, k28, k44, k60, p11, p27, p43, p59, S, hS, d⟩
   refine S_eff rfl ?_
   have s := hS.open_ .nil
   refine w_litSlice (α := ByteArray) (vs := D46t5) (cs := D46t5) (xs := D46t6) s d El122 rfl rfl rfl rfl rfl rfl ⟨⟨_, rfl, rfl⟩, ⟨⟨_, rfl, rfl⟩, ⟨⟨_, rfl, rfl⟩, ⟨⟨_, rfl, rfl⟩, rfl⟩⟩⟩⟩ rfl trivial rfl fun b24 a w s d => ?_
   have h_8 := l_neg hc 8 hi rfl
   have d := d.opt 0 rfl true
   exact nl ⟨b24, b40, b56, b8, k12, k28, k44, k60, p11, p27, p43, p59, S, hS.close .nil s rfl (.same (.same (.same (.same (.same (.here (.same (.same (.neg h_8 rfl (.same (.same (.same (.same (.same (.same (.same (.same (.same (.same (.same (.same .nil))))))))))))))))))))) 5 rfl, d.ft [1, 2, 3, 0, 5, 6] [2, 3, 4, 0, 6, 7, 8, 9, 10] (by decide) rfl rfl⟩
  ·intro l hi hp hc a w ⟨b24, b40, b56, b8, k12, k28, k44, k60, p11, p27, p43, p59, S, hS, d⟩
   refine S_val hS (.b (t := 0) rfl .nil) rfl rfl trivial (y_move rfl) (rfl) 6 rfl fun a hS => ⟨b24, b40, b56, b8, k12, k28, k44, k60, p11, p27, p43, p59, S, hS, d⟩
  ·intro l hi hp hc a w ⟨b24, b40, b56, b8, k12, k28, k44, k60, p11, p27, p43, p59, S, hS, d⟩
   have h_12 := l_neg hc 12 hi rfl
   have h_17 := l_neg hc 17 h_12 rfl
   have h_2 := hp 2 rfl
   have d := (d.fixR 1 (r' := .box b2 (C87 rv10.2 p11 k12) 87) rfl ((bF h_17).trans ((bF h_12).trans ((bF hi).trans ((bT h_2)))))).yes 2 rfl h_2
   have h_6 := hp 6 rfl
   refine S_eff rfl ?_
   have s := hS.open_ (.v (t := 9) 6 rfl h_6 .nil)
   refine st_callR s (made_Dice_Next_ok h25 d.dom (d.ins [1] (by decide) rfl) (d.envAt 0 rfl)) (do_call Tryz.call30 rfl) trivial rfl rfl ?_
   rintro v110 Sv107 w a h108 ⟨p27, k28, rfl, h111, h29⟩ s
   have d := ((d.callO [1] [0, 2, 3, 4, 5] (by decide) rfl h108 h111).addE (e := SlA p27 rv26.2.L.length k28 rv26.2.L) h29).fixR 0 (r' := (bif l 17 then .box b2 (C87 rv58.2 p59 k60) 87 else (bif l 12 then .box b2 (C87 rv42.2 p43 k44) 87 else .box b2 (C87 rv26.2 p27 k28) 87))) rfl ((bF h_17).trans ((bF h_12))).symm
   have d := d.opt 0 rfl true
   exact nl ⟨b24, b40, b56, b8, k12, k28, k44, k60, p11, p27, p43, p59, Sv107, hS.close (.v (t := 9) 6 rfl h_6 .nil) s rfl (.same (.same (.same (.same (.same (.same (.same (.here (.same (.same (.same (.same (.same (.same (.same (.same (.same (.same (.same (.same (.same .nil))))))))))))))))))))) 7 rfl, d.ft [1, 0, 2, 3, 4, 5] [3, 4, 5, 6, 0, 8, 9, 10, 11] (by decide) rfl rfl⟩
  ·intro l hi hp hc a w ⟨b24, b40, b56, b8, k12, k28, k44, k60, p11, p27, p43, p59, S, hS, d⟩
   have hw0 := d
   have h_5 := hp 5 rfl
   have d := (d.fixR 3 (r' := .row (some ⟨b24, 0, none⟩) ([(⟨#[70, 85, 82]⟩ : ByteArray), (⟨#[65]⟩ : ByteArray), (⟨#[65, 66, 67, 68, 69]⟩ : ByteArray), (⟨#[70, 85]⟩ : ByteArray)] : List ByteArray).length ([(⟨#[70, 85, 82]⟩ : ByteArray), (⟨#[65]⟩ : ByteArray), (⟨#[65, 66, 67, 68, 69]⟩ : ByteArray), (⟨#[70, 85]⟩ : ByteArray)] : List ByteArray).length Z4 9 1) rfl ((bT h_5))).yes 3 rfl h_5
   have h_7 := hp 7 rfl
   obtain ⟨c37, h33, h38, h31⟩ := d.elemRX (α := ByteArray) 3 rfl 0 rfl h30
   obtain ⟨_, rfl, rfl⟩ := h31
   refine S_val hS (.v (t := 8) 5 rfl h_5 (.v (t := 10) 7 rfl h_7 .nil)) rfl rfl trivial (y_indexAt Tryz.runUnderlying122 Tryz.sizeOf9 rfl rfl h33.1 h33.2 rfl) (rfl) 8 rfl fun a hS => ⟨b24, b40, b56, b8, k12, k28, k44, k60, p11, p27, p43, p59, S, hS, hw0⟩
  ·intro l hi hp hc a w ⟨b24, b40, b56, b8, k12, k28, k44, k60, p11, p27, p43, p59, S, hS, d⟩
   have hw0 := d
   have h_8 := hp 8 rfl
   have h_5 := hc 8 5 rfl h_8
   have d := (d.fixR 3 (r' := .row (some ⟨b24, 0, none⟩) ([(⟨#[70, 85, 82]⟩ : ByteArray), (⟨#[65]⟩ : ByteArray), (⟨#[65, 66, 67, 68, 69]⟩ : ByteArray), (⟨#[70, 85]⟩ : ByteArray)] : List ByteArray).length ([(⟨#[70, 85, 82]⟩ : ByteArray), (⟨#[65]⟩ : ByteArray), (⟨#[65, 66, 67, 68, 69]⟩ : ByteArray), (⟨#[70, 85]⟩ : ByteArray)] : List ByteArray).length Z4 9 1) rfl ((bT h_5))).yes 3 rfl h_5
   obtain ⟨c37, h33, h38, h31⟩ := d.elemRX (α := ByteArray) 3 rfl 0 rfl h30
   obtain ⟨_, rfl, rfl⟩ := h31
   refine S_val hS (.v (t := 11) 8 rfl h_8 .nil) rfl rfl trivial (y_loadQ1 (j := 0) (d.ownAt 3 rfl) rfl Tryz.isAgg9 h38 rfl) (rfl) 9 rfl fun a hS => ⟨b24, b40, b56, b8, k12, k28, k44, k60, p11, p27, p43, p59, S, hS, hw0⟩
  ·intro l hi hp hc a w ⟨b24, b40, b56, b8, k12, k28, k44, k60, p11, p27, p43, p59, S, hS, d⟩
   refine S_eff rfl ?_
   have s := hS.open_ .nil
   refine w_litSlice (α := ByteArray) (vs := D46t7) (cs := D46t7) (xs := D46t8) s d El122 rfl rfl rfl rfl rfl rfl ⟨⟨_, rfl, rfl⟩, ⟨⟨_, rfl, rfl⟩, ⟨⟨_, rfl, rfl⟩, rfl⟩⟩⟩ rfl trivial rfl fun b40 a w s d => ?_
   have h_13 := l_neg hc 13 hi rfl
   have d := d.opt 0 rfl true
   exact nl ⟨b24, b40, b56, b8, k12, k28, k44, k60, p11, p27, p43, p59, S, hS.close .nil s rfl (.same (.same (.same (.same (.same (.same (.same (.same (.same (.same (.here (.same (.same (.neg h_13 rfl (.same (.same (.same (.same (.same (.same (.same .nil))))))))))))))))))))) 10 rfl, d.ft [1, 2, 3, 4, 0, 6] [2, 3, 4, 5, 6, 0, 8, 9, 10] (by decide) rfl rfl⟩
  ·intro l hi hp hc a w ⟨b24, b40, b56, b8, k12, k28, k44, k60, p11, p27, p43, p59, S, hS, d⟩
   refine S_val hS (.b (t := 0) rfl .nil) rfl rfl trivial (y_move rfl) (rfl) 11 rfl fun a hS => ⟨b24, b40, b56, b8, k12, k28, k44, k60, p11, p27, p43, p59, S, hS, d⟩
  ·intro l hi hp hc a w ⟨b24, b40, b56, b8, k12, k28, k44, k60, p11, p27, p43, p59, S, hS, d⟩
   have h_17 := l_neg hc 17 hi rfl
   have h_7 := hp 7 rfl
   have d := (d.fixR 1 (r' := .box b2 (C87 rv26.2 p27 k28) 87) rfl ((bF h_17).trans ((bF hi).trans ((bT h_7))))).yes 4 rfl h_7
   have h_11 := hp 11 rfl
   refine S_eff rfl ?_
   have s := hS.open_ (.v (t := 14) 11 rfl h_11 .nil)
   refine st_callR s (made_Dice_Next_ok h41 d.dom (d.ins [1] (by decide) rfl) (d.envAt 0 rfl)) (do_call Tryz.call30 rfl) trivial rfl rfl ?_
   rintro v120 Sv117 w a h118 ⟨p43, k44, rfl, h121, h45⟩ s
   have d := ((d.callO [1] [0, 2, 3, 4, 5] (by decide) rfl h118 h121).addE (e := SlA p43 rv42.2.L.length k44 rv42.2.L) h45).fixR 0 (r' := (bif l 17 then .box b2 (C87 rv58.2 p59 k60) 87 else .box b2 (C87 rv42.2 p43 k44) 87)) rfl ((bF h_17)).symm
   have d := d.opt 0 rfl true
   exact nl ⟨b24, b40, b56, b8, k12, k28, k44, k60, p11, p27, p43, p59, Sv117, hS.close (.v (t := 14) 11 rfl h_11 .nil) s rfl (.same (.same (.same (.same (.same (.same (.same (.same (.same (.same (.same (.same (.here (.same (.same (.same (.same (.same (.same (.same (.same .nil))))))))))))))))))))) 12 rfl, d.ft [1, 0, 2, 3, 4, 5] [3, 4, 5, 6, 7, 8, 0, 10, 11] (by decide) rfl rfl⟩
  ·intro l hi hp hc a w ⟨b24, b40, b56, b8, k12, k28, k44, k60, p11, p27, p43, p59, S, hS, d⟩
   have hw0 := d
   have h_10 := hp 10 rfl
   have d := (d.fixR 4 (r' := .row (some ⟨b40, 0, none⟩) ([(⟨#[]⟩ : ByteArray), (⟨#[48, 48]⟩ : ByteArray), (⟨#[49, 48]⟩ : ByteArray)] : List ByteArray).length ([(⟨#[]⟩ : ByteArray), (⟨#[48, 48]⟩ : ByteArray), (⟨#[49, 48]⟩ : ByteArray)] : List ByteArray).length Z5 9 1) rfl ((bT h_10))).yes 5 rfl h_10
   have h_12 := hp 12 rfl
   obtain ⟨c53, h49, h54, h47⟩ := d.elemRX (α := ByteArray) 4 rfl 0 rfl h46
   obtain ⟨_, rfl, rfl⟩ := h47
   refine S_val hS (.v (t := 13) 10 rfl h_10 (.v (t := 15) 12 rfl h_12 .nil)) rfl rfl trivial (y_indexAt Tryz.runUnderlying122 Tryz.sizeOf9 rfl rfl h49.1 h49.2 rfl) (rfl) 13 rfl fun a hS => ⟨b24, b40, b56, b8, k12, k28, k44, k60, p11, p27, p43, p59, S, hS, hw0⟩
  ·intro l hi hp hc a w ⟨b24, b40, b56, b8, k12, k28, k44, k60, p11, p27, p43, p59, S, hS, d⟩
   have hw0 := d
   have h_13 := hp 13 rfl
   have h_10 := hc 13 10 rfl h_13
   have d := (d.fixR 4 (r' := .row (some ⟨b40, 0, none⟩) ([(⟨#[]⟩ : ByteArray), (⟨#[48, 48]⟩ : ByteArray), (⟨#[49, 48]⟩ : ByteArray)] : List ByteArray).length ([(⟨#[]⟩ : ByteArray), (⟨#[48, 48]⟩ : ByteArray), (⟨#[49, 48]⟩ : ByteArray)] : List ByteArray).length Z5 9 1) rfl ((bT h_10))).yes 5 rfl h_10
   obtain ⟨c53, h49, h54, h47⟩ := d.elemRX (α := ByteArray) 4 rfl 0 rfl h46
   obtain ⟨_, rfl, rfl⟩ := h47
   refine S_val hS (.v (t := 16) 13 rfl h_13 .nil) rfl rfl trivial (y_loadQ1 (j := 0) (d.ownAt 4 rfl) rfl Tryz.isAgg9 h54 rfl) (rfl) 14 rfl fun a hS => ⟨b24, b40, b56, b8, k12, k28, k44, k60, p11, p27, p43, p59, S, hS, hw0⟩
  ·intro l hi hp hc a w ⟨b24, b40, b56, b8, k12, k28, k44, k60, p11, p27, p43, p59, S, hS, d⟩
   refine S_eff rfl ?_
   have s := hS.open_ .nil
   refine w_litSlice (α := ByteArray) (vs := D46t9) (cs := D46t9) (xs := D46t10) s d El122 rfl rfl rfl rfl rfl rfl ⟨⟨_, rfl, rfl⟩, ⟨⟨_, rfl, rfl⟩, ⟨⟨_, rfl, rfl⟩, rfl⟩⟩⟩ rfl trivial rfl fun b56 a w s d => ?_
   have h_18 := l_neg hc 18 hi rfl
   have d := d.opt 0 rfl true
   exact nl ⟨b24, b40, b56, b8, k12, k28, k44, k60, p11, p27, p43, p59, S, hS.close .nil s rfl (.same (.same (.same (.same (.same (.same (.same (.same (.same (.same (.same (.same (.same (.same (.same (.here (.same (.same (.neg h_18 rfl (.same (.same .nil))))))))))))))))))))) 15 rfl, d.ft [1, 2, 3, 4, 5, 0] [2, 3, 4, 5, 6, 7, 8, 0, 10] (by decide) rfl rfl⟩
  ·intro l hi hp hc a w ⟨b24, b40, b56, b8, k12, k28, k44, k60, p11, p27, p43, p59, S, hS, d⟩
   refine S_val hS (.b (t := 0) rfl .nil) rfl rfl trivial (y_move rfl) (rfl) 16 rfl fun a hS => ⟨b24, b40, b56, b8, k12, k28, k44, k60, p11, p27, p43, p59, S, hS, d⟩
  ·intro l hi hp hc a w ⟨b24, b40, b56, b8, k12, k28, k44, k60, p11, p27, p43, p59, S, hS, d⟩
   have h_12 := hp 12 rfl
   have d := (d.fixR 1 (r' := .box b2 (C87 rv42.2 p43 k44) 87) rfl ((bF hi).trans ((bT h_12)))).yes 6 rfl h_12
   have h_16 := hp 16 rfl
   refine S_eff rfl ?_
   have s := hS.open_ (.v (t := 19) 16 rfl h_16 .nil)
   refine st_callR s (made_Dice_Next_ok h57 d.dom (d.ins [1] (by decide) rfl) (d.envAt 0 rfl)) (do_call Tryz.call30 rfl) trivial rfl rfl ?_
   rintro v130 Sv127 w a h128 ⟨p59, k60, rfl, h131, h61⟩ s
   have d := ((d.callO [1] [0, 2, 3, 4, 5] (by decide) rfl h128 h131).addE (e := SlA p59 rv58.2.L.length k60 rv58.2.L) h61).opt 0 rfl true
   exact nl ⟨b24, b40, b56, b8, k12, k28, k44, k60, p11, p27, p43, p59, Sv127, hS.close (.v (t := 19) 16 rfl h_16 .nil) s rfl (.same (.same (.same (.same (.same (.same (.same (.same (.same (.same (.same (.same (.same (.same (.same (.same (.same (.here (.same (.same (.same .nil))))))))))))))))))))) 17 rfl, d.ft [1, 0, 2, 3, 4, 5] [3, 4, 5, 6, 7, 8, 9, 10, 0] (by decide) rfl rfl⟩
  ·intro l hi hp hc a w ⟨b24, b40, b56, b8, k12, k28, k44, k60, p11, p27, p43, p59, S, hS, d⟩
   have hw0 := d
   have h_15 := hp 15 rfl
   have d := (d.fixR 5 (r' := .row (some ⟨b56, 0, none⟩) ([(⟨#[72, 72, 90]⟩ : ByteArray), (⟨#[72, 72, 78]⟩ : ByteArray), (⟨#[66, 72, 90]⟩ : ByteArray)] : List ByteArray).length ([(⟨#[72, 72, 90]⟩ : ByteArray), (⟨#[72, 72, 78]⟩ : ByteArray), (⟨#[66, 72, 90]⟩ : ByteArray)] : List ByteArray).length Z6 9 1) rfl ((bT h_15))).yes 7 rfl h_15
   have h_17 := hp 17 rfl
   obtain ⟨c69, h65, h70, h63⟩ := d.elemRX (α := ByteArray) 5 rfl 0 rfl h62
   obtain ⟨_, rfl, rfl⟩ := h63
   refine S_val hS (.v (t := 18) 15 rfl h_15 (.v (t := 20) 17 rfl h_17 .nil)) rfl rfl trivial (y_indexAt Tryz.runUnderlying122 Tryz.sizeOf9 rfl rfl h65.1 h65.2 rfl) (rfl) 18 rfl fun a hS => ⟨b24, b40, b56, b8, k12, k28, k44, k60, p11, p27, p43, p59, S, hS, hw0⟩
  ·intro l hi hp hc a w ⟨b24, b40, b56, b8, k12, k28, k44, k60, p11, p27, p43, p59, S, hS, d⟩
   have hw0 := d
   have h_18 := hp 18 rfl
   have h_15 := hc 18 15 rfl h_18
   have d := (d.fixR 5 (r' := .row (some ⟨b56, 0, none⟩) ([(⟨#[72, 72, 90]⟩ : ByteArray), (⟨#[72, 72, 78]⟩ : ByteArray), (⟨#[66, 72, 90]⟩ : ByteArray)] : List ByteArray).length ([(⟨#[72, 72, 90]⟩ : ByteArray), (⟨#[72, 72, 78]⟩ : ByteArray), (⟨#[66, 72, 90]⟩ : ByteArray)] : List ByteArray).length Z6 9 1) rfl ((bT h_15))).yes 7 rfl h_15
   obtain ⟨c69, h65, h70, h63⟩ := d.elemRX (α := ByteArray) 5 rfl 0 rfl h62
   obtain ⟨_, rfl, rfl⟩ := h63
   refine S_val hS (.v (t := 21) 18 rfl h_18 .nil) rfl rfl trivial (y_loadQ1 (j := 0) (d.ownAt 5 rfl) rfl Tryz.isAgg9 h70 rfl) (rfl) 19 rfl fun a hS => ⟨b24, b40, b56, b8, k12, k28, k44, k60, p11, p27, p43, p59, S, hS, hw0⟩
  ·intro l hi hp hc a w ⟨b24, b40, b56, b8, k12, k28, k44, k60, p11, p27, p43, p59, S, hS, d⟩
   have h_19 := hp 19 rfl
   have h_14 := hp 14 rfl
   have h_9 := hp 9 rfl
   have h_4 := hp 4 rfl
   refine S_val hS (.v (t := 7) 4 rfl h_4 (.v (t := 12) 9 rfl h_9 (.v (t := 17) 14 rfl h_14 (.v (t := 22) 19 rfl h_19 .nil)))) rfl rfl trivial (y_build (vs := [(0, .string x16), (1, .string x32), (2, .string x48), (3, .string x64)]) Bld52 rfl rfl) (rfl) 20 rfl fun a hS => ⟨b24, b40, b56, b8, k12, k28, k44, k60, p11, p27, p43, p59, S, hS, d⟩
  ·intro l hi hp hc a w ⟨b24, b40, b56, b8, k12, k28, k44, k60, p11, p27, p43, p59, S, hS, d⟩
   have d := d.fixR 0 (r' := .box b6 Z1 52) rfl ((bF hi))
   have h_20 := hp 20 rfl
   refine S_eff rfl ?_
   have s := hS.open_ (.b (t := 2) rfl (.v (t := 23) 20 rfl h_20 .nil))
   refine w_store (m := 4) (cs' := [.string x16, .string x32, .string x48, .string x64]) s d 0 rfl rfl rfl Tryz.sizeOf52 rfl rfl rfl rfl trivial ?_
   intro a w s d
   exact nl ⟨b24, b40, b56, b8, k12, k28, k44, k60, p11, p27, p43, p59, S, hS.close0 (.b (t := 2) rfl (.v (t := 23) 20 rfl h_20 .nil)) s rfl, d.ft [0, 1, 2, 3, 4, 5] [0, 1, 2, 3, 4, 5, 6, 7, 8] (by decide) rfl rfl⟩
  intro l a w hl ⟨b24, b40, b56, b8, k12, k28, k44, k60, p11, p27, p43, p59, S, hS, d⟩
  have d := ((d.yes 8 rfl (hl 17 (by decide))).fixR 1 (r' := .box b2 (C87 rv58.2 p59 k60) 87) rfl (bT (hl 17 (by decide)))).fixR 0 (r' := .box b6 [.string x16, .string x32, .string x48, .string x64] 52) rfl (bT (hl 21 (by decide)))
  have s := hS.on (.b (t := 2) rfl .nil)
  exact ⟨S, k60, p59, (s.wk rfl), (d.ft [1, 0] [0] (by decide) rfl rfl)⟩
 rintro a w ⟨Sv71, k60, p59, s, d⟩
 refine then_normal ?_
 have u := oi u
 subst u
 exact wp_ret (ret1 s rfl (rv_cell d 1 rfl rfl Tryz.isAgg52 Tryz.sizeOf52 rfl) (d.ret ⟨p59, k60, rfl, (d.outs [0] (by decide) rfl), (d.envAt 0 rfl)⟩))
abbrev made_Dice_Pick_rd (w0 : World) (X : List Nat) (b2 : Nat) (r : (Int × Dice)) : (Nat → Prop) → World → Value → Prop := fun S w v => ∃ pq0_0 kq0_0, v = .int .i64 r.1 ∧ Outs X w0 S w [.box b2 (C87 r.2 pq0_0 kq0_0) 87] ∧ (SlA pq0_0 r.2.L.length kq0_0 r.2.L).p S w
theorem made_Dice_Pick_ok {w0 S0 b2 p3 k4 p7 k8 d1 l6 r} (u : made_Dice_Pick d1 l6 = some r) (hS : Dm S0 w0) (hin : Ins S0 w0 [.box b2 (C87 d1 p3 k4) 87]) (h5 : (SlA p3 d1.L.length k4 d1.L).p S0 w0) (h9 : (SlA p7 l6.length k8 l6).p S0 w0) : Calls Tryz.prog 24 #[.pointer (some ⟨b2, 0, none⟩), .slice p7 l6.length k8] w0 (Ret (blks [.box b2 (C87 d1 p3 k4) 87]) w0 S0 (made_Dice_Pick_rd w0 (blks [.box b2 (C87 d1 p3 k4) 87]) b2 r)) := by
 refine enI 12 Tryz.func24 rfl hS hin rfl rfl rfl fun a s d => ?_
 have d := (d.addE h5).addE h9
 delta made_Dice_Pick at u
 refine sz 1 [] s d rfl rfl fun a s => ?_
 refine sn 4 [] s d rfl rfl fun a s => ?_
 obtain ⟨rv11, h10, u⟩ := bind_t u
 refine st_callR s (made_Dice_Next_ok h10 d.dom (d.ins [0] (by decide) rfl) (d.envAt 1 rfl)) (do_call Tryz.call30 rfl) trivial rfl rfl ?_
 rintro v18 Sv15 w a h16 ⟨p12, k13, rfl, h19, h14⟩ s
 have d := (d.callO [0] [] (by decide) rfl h16 h19).addE (e := SlA p12 rv11.2.L.length k13 rv11.2.L) h14
 obtain ⟨x22, h20, u⟩ := bind_t u
 obtain ⟨b28, o29, q26, c27, h30, h23, h24, h25, h21⟩ := d.elemV 1 rfl h20
 have hsv31 := s
 have hwv32 := d
 subst h30
 have s := hsv31
 have d := hwv32
 obtain ⟨_, rfl, rfl⟩ := h21
 have d := d.addE h25
 refine sv s (y_indexAt Tryz.runUnderlying22 Tryz.sizeOf3 rfl rfl h23.1 h23.2 h24) rfl fun a s => ?_
 refine sv s (y_loadE1 (j := 0) (d.ceAt 0 rfl) rfl Tryz.isAgg3 rfl) rfl fun a s => ?_
 refine rz 1 [] s d rfl rfl fun a s => ?_
 have u := oi u
 subst u
 exact wp_ret (ret1 s rfl (rv_tmp rfl) (d.ret ⟨p12, k13, rfl, (d.outs [0] (by decide) rfl), (d.envAt 1 rfl)⟩))
theorem ref01_In_ok {w0 S0 n1 lo2 hi3 r} (u : ref01_In n1 lo2 hi3 = some r) (hS : Dm S0 w0) : Calls Tryz.prog 61 #[.int .i64 n1, .int .i64 lo2, .int .i64 hi3] w0 (Ret ([]) w0 S0 (made_Light_rd w0 ([]) r)) := by
 refine en 15 Tryz.func61 rfl hS rfl rfl rfl fun a s d => ?_
 delta ref01_In at u
 refine sz 1 [] s d rfl rfl fun a s => ?_
 refine sn 4 [] s d rfl rfl fun a s => ?_
 refine rA 4 10 [] s d rfl rfl rfl rfl rfl fun a s => ?_
 refine rz 1 [] s d rfl rfl fun a s => ?_
 have u := oi u
 subst u
 exact wp_ret (ret1 s rfl (rv_tmp rfl) (d.ret rfl))
theorem ref02_gcd_ok {w0 S0 a1 b2 r} (u : ref02_gcd a1 b2 = some r) (hS : Dm S0 w0) : Calls Tryz.prog 103 #[.int .i64 a1, .int .i64 b2] w0 (Ret ([]) w0 S0 (slices_IndexFunc_Lapi_Record_api_Record_rd w0 ([]) r)) := by
 refine en 12 Tryz.func103 rfl hS rfl rfl rfl fun a s d => ?_
 delta ref02_gcd at u
 refine sz 1 [] s d rfl rfl fun a s => ?_
 refine wp_seq ?_
 obtain ⟨e21, h32, u⟩ := bind_t u
 refine wp_join (fun a w => ∃ Sv22, Sl 12 [(0, .int .i64 e21)] a ∧ Wd ⟨w0, S0, []⟩ Sv22 [] [] w) ?_ ?_
 ·refine wp_block (wp_while (fun sv3 a w => ∃ Sv13, Sl 12 [(0, .int .i64 sv3.1), (1, .int .i64 sv3.2)] a ∧ Wd ⟨w0, S0, []⟩ Sv13 [] [] w) (a1, b2) h32 ⟨S0, (s.wk rfl), (d.ft [] [] (by decide) rfl rfl)⟩ ?_)
  clear h32
  repeat clear u
  rintro sv3 a w tv19 ⟨Sv13, s, d⟩ u hd18
  delta ref02_gcd_l1 at u
  refine wp_seq (sz 2 [] s d rfl rfl fun a s => ?_)
  refine cd s u rfl (fun u => ?_) fun u => ?_
  ·refine wp_skip (then_normal (wp_block ?_))
   obtain ⟨rem29, h28, u⟩ := bind_t u
   refine wp_only (fun a w => ∃ Sv30, Sl 12 [(0, .int .i64 sv3.2), (1, .int .i64 rem29)] a ∧ Wd ⟨w0, S0, []⟩ Sv30 [] [] w) ?_ ?_
   ·refine h_c [] [] d rfl rfl (by kernel_rfl) rfl fun hC d => ?_
    refine gn 3 [0, 1, 2] [] s hC rfl rfl rfl fun a s => ?_
    refine gv s 3 rfl rfl hC (fun w hC => y_remM rfl rfl h28) fun a s => ?_
    refine gn 2 [4, 5] [] s hC rfl rfl rfl fun a s => ?_
    refine h_done (by kernel_rfl) ?_
    exact ⟨Sv13, (s.wk rfl), (d.ft [] [] (by decide) rfl rfl)⟩
   rintro a w ⟨Sv30, s, d⟩
   exact blk_normal (then_normal ⟨_, (Option.some.inj u).symm, Sv30, (s.wk rfl), (d.ft [] [] (by decide) rfl rfl)⟩)
  refine wp_exit (then_exit (then_exit (blk_exit ?_)))
  have u := oi u
  subst u
  have h31 := hd18 _ rfl
  subst h31
  exact then_normal ⟨Sv13, (s.wk rfl), (d.ft [] [] (by decide) rfl rfl)⟩
 rintro a w ⟨Sv22, s, d⟩
 refine then_normal (sz 2 [] s d rfl rfl fun a s => ?_)
 have u := oi u
 subst u
 exact wp_ret (ret1 s rfl (rv_tmp rfl) (d.ret rfl))
abbrev ref02_New_rd (w0 : World) (X : List Nat) (r : (Rate × Int)) : Rd := fun S w v => v = .tuple #[V54 r.1, .int .i64 r.2]
theorem ref02_New_ok {w0 S0 num1 den2 r} (u : ref02_New num1 den2 = some r) (hS : Dm S0 w0) : Calls Tryz.prog 85 #[.int .i64 num1, .int .i64 den2] w0 (Ret ([]) w0 S0 (ref02_New_rd w0 ([]) r)) := by
 refine en 26 Tryz.func85 rfl hS rfl rfl rfl fun a s d => ?_
 delta ref02_New at u
 refine sr (w_alloc (cs := [.int .i64 0, .int .i64 0]) s d Tryz.zeroValue54 rfl rfl trivial ?_)
 intro b3 a w s d
 refine rz 1 [] s d rfl rfl fun a s => ?_
 refine wp_seq (sn 1 [] s d rfl rfl fun a s => ?_)
 obtain ⟨rv5, h4, u⟩ := bind_t u
 refine st_callR s (ref01_In_ok h4 d.bdom) (do_call Tryz.call61 rfl) trivial rfl rfl ?_
 rintro v9 Sv6 w a h7 rfl s
 have d := d.callB h7
 refine rn 2 [] s d rfl rfl fun a s => ?_
 obtain ⟨c19, hc19, u⟩ := bind_t u
 refine wpl_join 4 (fun a w => ∃ Sv20, Sl 26 [(0, .int .i64 num1), (1, .int .i64 den2), (4, .pointer (some ⟨b3, 0, none⟩)), (14, .bool c19)] a ∧ Wd ⟨w0, S0, []⟩ Sv20 [.box b3 [.int .i64 0, .int .i64 0] 54] [] w) ?_ ?_
 ·rcases Bool.eq_false_or_eq_true (!rv5) with h18 | h18
  ·have s := s.fix 10 (.bool true) rfl (vb h18)
   have u := ite_t hc19 h18
   refine rn 4 [] s d rfl rfl fun a s => ?_
   refine wpList_nil ?_
   have u := oi u
   subst u
   exact then_normal ⟨S0, (s.wk rfl), (d.ft [0] [] (by decide) rfl rfl)⟩
  have s := s.fix 10 (.bool false) rfl (vb h18)
  have u := ite_f hc19 h18
  refine st_val s (y_move rfl) ⟨_, rfl, rfl⟩ rfl rfl fun a s => ?_
  obtain ⟨rv22, h21, u⟩ := bind_t u
  refine st_callR s (ref01_In_ok h21 d.bdom) (do_call Tryz.call61 rfl) ⟨_, rfl, rfl⟩ rfl rfl ?_
  rintro v26 Sv23 w a h24 rfl s
  have d := d.callB h24
  refine rn 2 [] s d rfl rfl fun a s => ?_
  refine wpList_nil ?_
  have u := oi u
  subst u
  exact then_normal ⟨S0, (s.wk rfl), (d.ft [0] [] (by decide) rfl rfl)⟩
 rintro a w ⟨Sv20, s, d⟩
 refine nl (cd s u rfl (fun u => ?_) fun u => ?_)
 ·refine sr (sv s (y_build (vs := []) Bld54 rfl rfl) rfl fun a s => ?_)
  refine w_store (m := 2) (cs' := [.int .i64 0, .int .i64 0]) s d 0 rfl rfl rfl Tryz.sizeOf54 rfl rfl rfl rfl trivial ?_
  intro a w s d
  refine rz 1 [] s d rfl rfl fun a s => ?_
  have u := oi u
  subst u
  exact wp_ret (then_ret (ret2 s rfl (rv_cell d 0 rfl rfl Tryz.isAgg54 Tryz.sizeOf54 rfl) (rv_tmp rfl) (d.ret rfl)))
 refine wp_skip (then_normal (sn 2 [] s d rfl rfl fun a s => ?_))
 obtain ⟨rv31, h30, u⟩ := bind_t u
 refine st_callR s (ref02_gcd_ok h30 d.bdom) (do_call Tryz.call103 rfl) trivial rfl rfl ?_
 rintro v35 Sv32 w a h33 rfl s
 have d := d.callB h33
 refine rz 1 [] s d rfl rfl fun a s => ?_
 refine wp_seq ?_
 obtain ⟨quo38, h37, u⟩ := bind_t u
 obtain ⟨quo40, h39, u⟩ := bind_t u
 refine wp_only (fun a w => ∃ Sv41, Sl 26 [(4, .pointer (some ⟨b3, 0, none⟩)), (5, .int .i64 0)] a ∧ Wd ⟨w0, S0, []⟩ Sv41 [.box b3 [.int .i64 quo38, .int .i64 quo40] 54] [] w) ?_ ?_
 ·refine h_c [] [] d rfl rfl (by kernel_rfl) rfl fun hC d => ?_
  refine gn 2 [0, 1] [] s hC rfl rfl rfl fun a s => ?_
  refine gv s 2 rfl rfl hC (fun w hC => y_quoM rfl rfl h37) fun a s => ?_
  refine gn 2 [3, 4] [] s hC rfl rfl rfl fun a s => ?_
  refine gv s 5 rfl rfl hC (fun w hC => y_quoM rfl rfl h39) fun a s => ?_
  refine gv s 6 rfl rfl hC (fun w hC => y_build (vs := [(0, .int .i64 quo38), (1, .int .i64 quo40)]) Bld54 rfl rfl) fun a s => ?_
  refine ho 7 rfl ?_
  refine w_store (m := 2) (cs' := [.int .i64 quo38, .int .i64 quo40]) s d 0 rfl rfl rfl Tryz.sizeOf54 rfl rfl rfl rfl trivial ?_
  intro a w s d
  refine h_n [] [] d rfl rfl fun hC => ?_
  refine gv s 8 rfl rfl hC (fun w hC => y_assign rfl) fun a s => ?_
  refine h_done (by kernel_rfl) ?_
  exact ⟨Sv20, (s.wk rfl), (d.ft [0] [] (by decide) rfl rfl)⟩
 rintro a w ⟨Sv41, s, d⟩
 refine then_normal ?_
 have u := oi u
 subst u
 exact wp_ret (ret2 s rfl (rv_cell d 0 rfl rfl Tryz.isAgg54 Tryz.sizeOf54 rfl) (rv_tmp rfl) (d.ret rfl))
abbrev made_Dice_Record_rd (w0 : World) (X : List Nat) (b2 : Nat) (r : (Record × Dice)) : (Nat → Prop) → World → Value → Prop := fun S w v => ∃ p0_11 k0_11 c0_11 pq0_0 kq0_0, v = V56 r.1 p0_11 k0_11 ∧ Outs X w0 S w [.row p0_11 r.1.Samples.length k0_11 c0_11 3 1, .box b2 (C87 r.2 pq0_0 kq0_0) 87] ∧ (RowA c0_11 r.1.Samples).p S w ∧ (SlA pq0_0 r.2.L.length kq0_0 r.2.L).p S w
abbrev D47t1 (b2 : Nat) (b43 : Nat) (b8 : Nat) (b9 : Nat) (n7 : Int) : Slots := [(0, .pointer (some ⟨b2, 0, none⟩)), (2, .int .i64 n7), (4, .pointer (some ⟨b8, 0, none⟩)), (6, .pointer (some ⟨b9, 0, none⟩)), (7, .pointer (some ⟨b43, 0, none⟩))]
abbrev D47t2 (b2 : Nat) (b50 : Nat) (b57 : Nat) (b73 : Nat) (rv37 : (Rate × Int)) (rv45 : (Int × Dice)) (rv52 : (Int × Dice)) (rv59 : (Int × Dice)) (rv64 : (Int × Dice)) (rv69 : (Int × Dice)) (s6 : SourceID) : Vs := [(0, 21, V52 s6), (1, 22, .pointer (some ⟨b2, 0, none⟩)), (2, 23, .int .i64 rv45.1), (3, 24, .int .i64 (w64 (250000 * rv45.1))), (4, 25, .int .i64 (w64 (1000000000000 + (w64 (250000 * rv45.1))))), (5, 26, .pointer (some ⟨b2, 0, none⟩)), (6, 27, .slice (some ⟨b50, 0, none⟩) ([0, 0, 3] : List Int).length ([0, 0, 3] : List Int).length), (7, 28, .int .i64 rv52.1), (8, 29, V54 rv37.1), (9, 30, .pointer (some ⟨b2, 0, none⟩)), (10, 31, .slice (some ⟨b57, 0, none⟩) ([0, 0, 10, 500] : List Int).length ([0, 0, 10, 500] : List Int).length), (11, 32, .int .i64 rv59.1), (12, 33, .pointer (some ⟨b2, 0, none⟩)), (13, 34, .int .i64 rv64.1), (14, 35, .pointer (some ⟨b2, 0, none⟩)), (15, 36, .int .i64 rv69.1), (16, 37, .agg #[.string s6.Network, .string s6.Station, .string s6.Location, .string s6.Channel, .int .i64 (w64 (1000000000000 + (w64 (250000 * rv45.1)))), .int .i64 rv52.1, .int .i64 rv37.1.Num, .int .i64 rv37.1.Den, .int .i64 rv59.1, .int .i64 rv64.1, .int .i64 rv69.1, .slice none ([] : List Int).length 0]), (17, 9, .pointer (some ⟨b73, 0, none⟩))]
abbrev D47t3 : List Value := [.int .i64 0, .int .i64 0, .int .i64 3]
abbrev D47t4 : List Int := ([0, 0, 3] : List Int)
abbrev D47t5 : List Value := Z7
abbrev D47t6 : List Int := ([0, 0, 10, 500] : List Int)
theorem made_Dice_Record_ok {w0 S0 b2 p3 k4 d1 s6 n7 r} (u : made_Dice_Record d1 s6 n7 = some r) (hS : Dm S0 w0) (hin : Ins S0 w0 [.box b2 (C87 d1 p3 k4) 87]) (h5 : (SlA p3 d1.L.length k4 d1.L).p S0 w0) : Calls Tryz.prog 47 #[.pointer (some ⟨b2, 0, none⟩), V52 s6, .int .i64 n7] w0 (Ret (blks [.box b2 (C87 d1 p3 k4) 87]) w0 S0 (made_Dice_Record_rd w0 (blks [.box b2 (C87 d1 p3 k4) 87]) b2 r)) := by
 refine enI 54 Tryz.func47 rfl hS hin rfl rfl rfl fun a s d => ?_
 have d := d.addE h5
 delta made_Dice_Record at u
 refine sr (w_box (cs := (C52 s6)) s d rfl rfl rfl trivial ?_)
 intro b8 a w s d
 refine w_alloc (cs := Z0) s d Tryz.zeroValue56 rfl rfl trivial ?_
 intro b9 a w s d
 refine nl (sn 1 [] s d rfl rfl fun a s => ?_)
 refine w_litSlice (α := Int) (vs := Z8) (cs := Z8) (xs := ([1, 2, 2, 3] : List Int)) s d El22 rfl rfl rfl rfl rfl rfl ⟨⟨_, rfl, rfl⟩, ⟨⟨_, rfl, rfl⟩, ⟨⟨_, rfl, rfl⟩, ⟨⟨_, rfl, rfl⟩, rfl⟩⟩⟩⟩ rfl trivial rfl fun b11 a w s d => ?_
 obtain ⟨rv13, h12, u⟩ := bind_t u
 obtain ⟨Sv17, d⟩ := w_share (α := Int) d 0 rfl 0 rfl
 refine st_callR s (made_Dice_Pick_ok h12 d.dom (d.ins [2] (by decide) rfl) (d.envAt 2 rfl) (d.envAt 0 rfl)) (do_call Tryz.call24 rfl) trivial rfl rfl ?_
 rintro v21 Sv18 w a h19 ⟨p14, k15, rfl, h22, h16⟩ s
 have d := (d.callO [2] [0, 1] (by decide) rfl h19 h22).addE (e := SlA p14 rv13.2.L.length k15 rv13.2.L) h16
 refine mv s rfl rfl fun a s => ?_
 refine w_litSlice (α := Int) (vs := Z9) (cs := Z9) (xs := ([1, 1, 1, 3] : List Int)) s d El22 rfl rfl rfl rfl rfl rfl ⟨⟨_, rfl, rfl⟩, ⟨⟨_, rfl, rfl⟩, ⟨⟨_, rfl, rfl⟩, ⟨⟨_, rfl, rfl⟩, rfl⟩⟩⟩⟩ rfl trivial rfl fun b24 a w s d => ?_
 obtain ⟨rv26, h25, u⟩ := bind_t u
 obtain ⟨Sv30, d⟩ := w_share (α := Int) d 0 rfl 0 rfl
 refine st_callR s (made_Dice_Pick_ok h25 d.dom (d.ins [0] (by decide) rfl) (d.envAt 2 rfl) (d.envAt 0 rfl)) (do_call Tryz.call24 rfl) trivial rfl rfl ?_
 rintro v34 Sv31 w a h32 ⟨p27, k28, rfl, h35, h29⟩ s
 have d := (d.callO [0] [1, 2] (by decide) rfl h32 h35).addE (e := SlA p27 rv26.2.L.length k28 rv26.2.L) h29
 obtain ⟨rv37, h36, u⟩ := bind_t u
 refine st_callR s (ref02_New_ok h36 d.bdom) (do_call Tryz.call85 rfl) trivial rfl rfl ?_
 rintro v41 Sv38 w a h39 rfl s
 have d := d.callB h39
 refine rn 3 [] s d rfl rfl fun a s => ?_
 refine w_alloc (cs := [.int .i64 0, .int .i64 0]) s d Tryz.zeroValue54 rfl rfl trivial ?_
 intro b43 a w s d
 refine w_store (m := 2) (cs' := (C54 rv37.1)) s d 0 rfl rfl rfl Tryz.sizeOf54 rfl rfl rfl rfl trivial ?_
 intro a w s d
 refine rz 1 [] s d rfl rfl fun a s => ?_
 refine wp_seq ?_
 obtain ⟨rv45, h44, u⟩ := bind_t u
 obtain ⟨rv52, h51, u⟩ := bind_t u
 obtain ⟨rv59, h58, u⟩ := bind_t u
 obtain ⟨rv64, h63, u⟩ := bind_t u
 obtain ⟨rv69, h68, u⟩ := bind_t u
 refine wp_only (fun a w => ∃ Sv74 b73 k71 p70, Sl 54 [(0, .pointer (some ⟨b2, 0, none⟩)), (2, .int .i64 n7), (6, .pointer (some ⟨b9, 0, none⟩)), (9, .pointer (some ⟨b73, 0, none⟩))] a ∧ Wd ⟨w0, S0, blks [.box b2 (C87 d1 p3 k4) 87]⟩ Sv74 [.box b2 (C87 rv69.2 p70 k71) 87, .box b9 Z0 56, .box b73 [.string s6.Network, .string s6.Station, .string s6.Location, .string s6.Channel, .int .i64 (w64 (1000000000000 + (w64 (250000 * rv45.1)))), .int .i64 rv52.1, .int .i64 rv37.1.Num, .int .i64 rv37.1.Den, .int .i64 rv59.1, .int .i64 rv64.1, .int .i64 rv69.1, .slice none ([] : List Int).length 0] 56] [SlA p70 rv69.2.L.length k71 rv69.2.L, SlA none ([] : List Int).length 0 ([] : List Int)] w) ?_ ?_
 ·refine wp_region_phi (n := 19) (Φ := fun l a w => ∃ b50 b57 b73 k47 k54 k61 k66 k71 p46 p53 p60 p65 p70 S, SlF 54 (D47t1 b2 b43 b8 b9 n7) (D47t2 b2 b50 b57 b73 rv37 rv45 rv52 rv59 rv64 rv69 s6) l a ∧ Wd ⟨w0, S0, blks [.box b2 (C87 d1 p3 k4) 87]⟩ S [.box b43 (C54 rv37.1) 54, ((bif l 15 then .box b2 (C87 rv69.2 p70 k71) 87 else (bif l 13 then .box b2 (C87 rv64.2 p65 k66) 87 else (bif l 11 then .box b2 (C87 rv59.2 p60 k61) 87 else (bif l 7 then .box b2 (C87 rv52.2 p53 k54) 87 else (bif l 2 then .box b2 (C87 rv45.2 p46 k47) 87 else .box b2 (C87 rv26.2 p27 k28) 87))))) : Res), .box b9 Z0 56, .box b8 (C52 s6) 52, ((bif l 7 then emp else (bif l 6 then .row (some ⟨b50, 0, none⟩) ([0, 0, 3] : List Int).length ([0, 0, 3] : List Int).length [.int .i64 0, .int .i64 0, .int .i64 3] 3 1 else emp)) : Res), ((bif l 11 then emp else (bif l 10 then .row (some ⟨b57, 0, none⟩) ([0, 0, 10, 500] : List Int).length ([0, 0, 10, 500] : List Int).length Z7 3 1 else emp)) : Res), ((bif l 18 then .box b73 [.string s6.Network, .string s6.Station, .string s6.Location, .string s6.Channel, .int .i64 (w64 (1000000000000 + (w64 (250000 * rv45.1)))), .int .i64 rv52.1, .int .i64 rv37.1.Num, .int .i64 rv37.1.Den, .int .i64 rv59.1, .int .i64 rv64.1, .int .i64 rv69.1, .slice none ([] : List Int).length 0] 56 else (bif l 17 then .box b73 Z0 56 else emp)) : Res)] [SlA p27 rv26.2.L.length k28 rv26.2.L, SlA (some ⟨b24, 0, none⟩) ([1, 1, 1, 3] : List Int).length ([1, 1, 1, 3] : List Int).length ([1, 1, 1, 3] : List Int), RowA Z9 ([1, 1, 1, 3] : List Int), SlA p14 rv13.2.L.length k15 rv13.2.L, SlA (some ⟨b11, 0, none⟩) ([1, 2, 2, 3] : List Int).length ([1, 2, 2, 3] : List Int).length ([1, 2, 2, 3] : List Int), RowA Z8 ([1, 2, 2, 3] : List Int), SlA p3 d1.L.length k4 d1.L, optA (l 2) (SlA p46 rv45.2.L.length k47 rv45.2.L), optA (l 6) (RowA [.int .i64 0, .int .i64 0, .int .i64 3] ([0, 0, 3] : List Int)), optA (l 7) (SlA (some ⟨b50, 0, none⟩) ([0, 0, 3] : List Int).length ([0, 0, 3] : List Int).length ([0, 0, 3] : List Int)), optA (l 7) (SlA p53 rv52.2.L.length k54 rv52.2.L), optA (l 10) (RowA Z7 ([0, 0, 10, 500] : List Int)), optA (l 11) (SlA (some ⟨b57, 0, none⟩) ([0, 0, 10, 500] : List Int).length ([0, 0, 10, 500] : List Int).length ([0, 0, 10, 500] : List Int)), optA (l 11) (SlA p60 rv59.2.L.length k61 rv59.2.L), optA (l 13) (SlA p65 rv64.2.L.length k66 rv64.2.L), optA (l 15) (SlA p70 rv69.2.L.length k71 rv69.2.L)] w) [1, 1, 2, 3, 4, 1, 1, 3, 1, 1, 1, 4, 1, 5, 1, 6, 7, 1, 8] (by kernel_rfl) rfl (by kernel_rfl) ?_ (AllS.succ (AllS.succ (AllS.succ (AllS.succ (AllS.succ (AllS.succ (AllS.succ (AllS.succ (AllS.succ (AllS.succ (AllS.succ (AllS.succ (AllS.succ (AllS.succ (AllS.succ (AllS.succ (AllS.succ (AllS.succ (AllS.succ AllS.zero ?_) ?_) ?_) ?_) ?_) ?_) ?_) ?_) ?_) ?_) ?_) ?_) ?_) ?_) ?_) ?_) ?_) ?_) ?_) ?_
  ·obtain ⟨b50, b57, b73, k47, k54, k61, k66, k71, p46, p53, p60, p65, p70, _⟩ : ∃ b50 b57 b73 k47 k54 k61 k66 k71 p46 p53 p60 p65 p70, True := ⟨0, 0, 0, 0, 0, 0, 0, 0, none, none, none, none, none, trivial⟩
   have d := ((d.drew).emp).emp
   have d := ((d.emp).noE (SlA p70 rv69.2.L.length k71 rv69.2.L)).noE (SlA p65 rv64.2.L.length k66 rv64.2.L)
   have d := ((d.noE (SlA p60 rv59.2.L.length k61 rv59.2.L)).noE (SlA (some ⟨b57, 0, none⟩) ([0, 0, 10, 500] : List Int).length ([0, 0, 10, 500] : List Int).length ([0, 0, 10, 500] : List Int))).noE (RowA Z7 ([0, 0, 10, 500] : List Int))
   have d := ((d.noE (SlA p53 rv52.2.L.length k54 rv52.2.L)).noE (SlA (some ⟨b50, 0, none⟩) ([0, 0, 3] : List Int).length ([0, 0, 3] : List Int).length ([0, 0, 3] : List Int))).noE (RowA [.int .i64 0, .int .i64 0, .int .i64 3] ([0, 0, 3] : List Int))
   have d := d.noE (SlA p46 rv45.2.L.length k47 rv45.2.L)
   exact ⟨b50, b57, b73, k47, k54, k61, k66, k71, p46, p53, p60, p65, p70, Sv31, SlF.init (s.wk rfl) (by kernel_rfl), d.ft [3, 4, 5, 6, 0, 1, 2] [9, 10, 11, 12, 13, 14, 15, 0, 1, 2, 3, 4, 5, 6, 7, 8] (by decide) rfl rfl⟩
  ·intro l hi hp hc a w ⟨b50, b57, b73, k47, k54, k61, k66, k71, p46, p53, p60, p65, p70, S, hS, d⟩
   refine S_val hS (.b (t := 4) rfl .nil) rfl rfl trivial (y_loadBA (d.ownAt 3 rfl) rfl Tryz.isAgg52 Tryz.sizeOf52 rfl rfl) (rfl) 0 rfl fun a hS => ⟨b50, b57, b73, k47, k54, k61, k66, k71, p46, p53, p60, p65, p70, S, hS, d⟩
  ·intro l hi hp hc a w ⟨b50, b57, b73, k47, k54, k61, k66, k71, p46, p53, p60, p65, p70, S, hS, d⟩
   refine S_val hS (.b (t := 0) rfl .nil) rfl rfl trivial (y_move rfl) (rfl) 1 rfl fun a hS => ⟨b50, b57, b73, k47, k54, k61, k66, k71, p46, p53, p60, p65, p70, S, hS, d⟩
  ·intro l hi hp hc a w ⟨b50, b57, b73, k47, k54, k61, k66, k71, p46, p53, p60, p65, p70, S, hS, d⟩
   have h_7 := l_neg hc 7 hi rfl
   have h_11 := l_neg hc 11 h_7 rfl
   have h_13 := l_neg hc 13 h_11 rfl
   have h_15 := l_neg hc 15 h_13 rfl
   have d := d.fixR 1 (r' := .box b2 (C87 rv26.2 p27 k28) 87) rfl ((bF h_15).trans ((bF h_13).trans ((bF h_11).trans ((bF h_7).trans ((bF hi))))))
   have h_1 := hp 1 rfl
   refine S_eff rfl ?_
   have s := hS.open_ (.v (t := 22) 1 rfl h_1 .nil)
   refine st_callR s (made_Dice_Next_ok h44 d.dom (d.ins [1] (by decide) rfl) (d.envAt 0 rfl)) (do_call Tryz.call30 rfl) trivial rfl rfl ?_
   rintro v110 Sv107 w a h108 ⟨p46, k47, rfl, h111, h48⟩ s
   have d := ((d.callO [1] [0, 2, 3, 4, 5, 6] (by decide) rfl h108 h111).addE (e := SlA p46 rv45.2.L.length k47 rv45.2.L) h48).fixR 0 (r' := (bif l 15 then .box b2 (C87 rv69.2 p70 k71) 87 else (bif l 13 then .box b2 (C87 rv64.2 p65 k66) 87 else (bif l 11 then .box b2 (C87 rv59.2 p60 k61) 87 else (bif l 7 then .box b2 (C87 rv52.2 p53 k54) 87 else .box b2 (C87 rv45.2 p46 k47) 87))))) rfl ((bF h_15).trans ((bF h_13).trans ((bF h_11).trans ((bF h_7))))).symm
   have d := d.opt 0 rfl true
   exact nl ⟨b50, b57, b73, k47, k54, k61, k66, k71, p46, p53, p60, p65, p70, Sv107, hS.close (.v (t := 22) 1 rfl h_1 .nil) s rfl (.same (.same (.here (.same (.same (.same (.same (.same (.same (.same (.same (.same (.same (.same (.same (.same (.same (.same .nil)))))))))))))))))) 2 rfl, d.ft [1, 0, 2, 3, 4, 5, 6] [2, 3, 4, 5, 6, 7, 8, 0, 10, 11, 12, 13, 14, 15, 16, 17] (by decide) rfl rfl⟩
  ·intro l hi hp hc a w ⟨b50, b57, b73, k47, k54, k61, k66, k71, p46, p53, p60, p65, p70, S, hS, d⟩
   have h_2 := hp 2 rfl
   refine S_val hS (.v (t := 23) 2 rfl h_2 .nil) rfl rfl trivial (y_mul rfl rfl) (rfl) 3 rfl fun a hS => ⟨b50, b57, b73, k47, k54, k61, k66, k71, p46, p53, p60, p65, p70, S, hS, d⟩
  ·intro l hi hp hc a w ⟨b50, b57, b73, k47, k54, k61, k66, k71, p46, p53, p60, p65, p70, S, hS, d⟩
   have h_3 := hp 3 rfl
   refine S_val hS (.v (t := 24) 3 rfl h_3 .nil) rfl rfl trivial (y_add rfl rfl) (rfl) 4 rfl fun a hS => ⟨b50, b57, b73, k47, k54, k61, k66, k71, p46, p53, p60, p65, p70, S, hS, d⟩
  ·intro l hi hp hc a w ⟨b50, b57, b73, k47, k54, k61, k66, k71, p46, p53, p60, p65, p70, S, hS, d⟩
   refine S_val hS (.b (t := 0) rfl .nil) rfl rfl trivial (y_move rfl) (rfl) 5 rfl fun a hS => ⟨b50, b57, b73, k47, k54, k61, k66, k71, p46, p53, p60, p65, p70, S, hS, d⟩
  ·intro l hi hp hc a w ⟨b50, b57, b73, k47, k54, k61, k66, k71, p46, p53, p60, p65, p70, S, hS, d⟩
   refine S_eff rfl ?_
   have s := hS.open_ .nil
   refine w_litSlice (α := Int) (vs := D47t3) (cs := D47t3) (xs := D47t4) s d El22 rfl rfl rfl rfl rfl rfl ⟨⟨_, rfl, rfl⟩, ⟨⟨_, rfl, rfl⟩, ⟨⟨_, rfl, rfl⟩, rfl⟩⟩⟩ rfl trivial rfl fun b50 a w s d => ?_
   have h_7 := l_neg hc 7 hi rfl
   have d := ((d.fixR 0 (r' := (bif l 7 then emp else .row (some ⟨b50, 0, none⟩) ([0, 0, 3] : List Int).length ([0, 0, 3] : List Int).length [.int .i64 0, .int .i64 0, .int .i64 3] 3 1)) rfl ((bF h_7)).symm).opt 0 rfl true).noL h_7 (SlA (some ⟨b50, 0, none⟩) ([0, 0, 3] : List Int).length ([0, 0, 3] : List Int).length ([0, 0, 3] : List Int))
   exact nl ⟨b50, b57, b73, k47, k54, k61, k66, k71, p46, p53, p60, p65, p70, S, hS.close .nil s rfl (.same (.same (.same (.same (.same (.same (.here (.same (.same (.same (.same (.same (.same (.same (.same (.same (.same (.same .nil)))))))))))))))))) 6 rfl, d.ft [1, 2, 3, 4, 0, 6, 7] [3, 4, 5, 6, 7, 8, 9, 10, 1, 0, 13, 14, 15, 16, 17, 18] (by decide) rfl rfl⟩
  ·intro l hi hp hc a w ⟨b50, b57, b73, k47, k54, k61, k66, k71, p46, p53, p60, p65, p70, S, hS, d⟩
   have h_11 := l_neg hc 11 hi rfl
   have h_13 := l_neg hc 13 h_11 rfl
   have h_15 := l_neg hc 15 h_13 rfl
   have h_2 := hp 2 rfl
   have d := d.fixR 1 (r' := .box b2 (C87 rv45.2 p46 k47) 87) rfl ((bF h_15).trans ((bF h_13).trans ((bF h_11).trans ((bF hi).trans ((bT h_2))))))
   have h_6 := hp 6 rfl
   have d := ((d.fixR 4 (r' := .row (some ⟨b50, 0, none⟩) ([0, 0, 3] : List Int).length ([0, 0, 3] : List Int).length [.int .i64 0, .int .i64 0, .int .i64 3] 3 1) rfl ((bF hi).trans ((bT h_6)))).yes 7 rfl h_2).yes 9 rfl h_6
   have h_5 := hp 5 rfl
   refine S_eff rfl ?_
   have s := hS.open_ (.v (t := 26) 5 rfl h_5 (.v (t := 27) 6 rfl h_6 .nil))
   obtain ⟨Sv118, d⟩ := w_share (α := Int) d 4 rfl 0 rfl
   refine st_callR s (made_Dice_Pick_ok h51 d.dom (d.ins [1] (by decide) rfl) (d.envAt 2 rfl) (d.envAt 0 rfl)) (do_call Tryz.call24 rfl) trivial rfl rfl ?_
   rintro v122 Sv119 w a h120 ⟨p53, k54, rfl, h123, h55⟩ s
   have d := ((d.callO [1] [0, 2, 3, 4, 5] (by decide) rfl h120 h123).addE (e := SlA p53 rv52.2.L.length k54 rv52.2.L) h55).fixR 0 (r' := (bif l 15 then .box b2 (C87 rv69.2 p70 k71) 87 else (bif l 13 then .box b2 (C87 rv64.2 p65 k66) 87 else (bif l 11 then .box b2 (C87 rv59.2 p60 k61) 87 else .box b2 (C87 rv52.2 p53 k54) 87)))) rfl ((bF h_15).trans ((bF h_13).trans ((bF h_11)))).symm
   have d := ((d.emp).opt 1 rfl true).opt 1 rfl true
   exact nl ⟨b50, b57, b73, k47, k54, k61, k66, k71, p46, p53, p60, p65, p70, Sv119, hS.close (.v (t := 26) 5 rfl h_5 (.v (t := 27) 6 rfl h_6 .nil)) s rfl (.same (.same (.same (.same (.same (.same (.same (.here (.same (.same (.same (.same (.same (.same (.same (.same (.same (.same .nil)))))))))))))))))) 7 rfl, d.ft [2, 1, 3, 4, 0, 5, 6] [6, 7, 8, 9, 10, 11, 12, 13, 14, 1, 0, 17, 18, 19, 20, 21] (by decide) rfl rfl⟩
  ·intro l hi hp hc a w ⟨b50, b57, b73, k47, k54, k61, k66, k71, p46, p53, p60, p65, p70, S, hS, d⟩
   refine S_val hS (.b (t := 7) rfl .nil) rfl rfl trivial (y_loadBA (d.ownAt 0 rfl) rfl Tryz.isAgg54 Tryz.sizeOf54 rfl rfl) (rfl) 8 rfl fun a hS => ⟨b50, b57, b73, k47, k54, k61, k66, k71, p46, p53, p60, p65, p70, S, hS, d⟩
  ·intro l hi hp hc a w ⟨b50, b57, b73, k47, k54, k61, k66, k71, p46, p53, p60, p65, p70, S, hS, d⟩
   refine S_val hS (.b (t := 0) rfl .nil) rfl rfl trivial (y_move rfl) (rfl) 9 rfl fun a hS => ⟨b50, b57, b73, k47, k54, k61, k66, k71, p46, p53, p60, p65, p70, S, hS, d⟩
  ·intro l hi hp hc a w ⟨b50, b57, b73, k47, k54, k61, k66, k71, p46, p53, p60, p65, p70, S, hS, d⟩
   refine S_eff rfl ?_
   have s := hS.open_ .nil
   refine w_litSlice (α := Int) (vs := D47t5) (cs := D47t5) (xs := D47t6) s d El22 rfl rfl rfl rfl rfl rfl ⟨⟨_, rfl, rfl⟩, ⟨⟨_, rfl, rfl⟩, ⟨⟨_, rfl, rfl⟩, ⟨⟨_, rfl, rfl⟩, rfl⟩⟩⟩⟩ rfl trivial rfl fun b57 a w s d => ?_
   have h_11 := l_neg hc 11 hi rfl
   have d := ((d.fixR 0 (r' := (bif l 11 then emp else .row (some ⟨b57, 0, none⟩) ([0, 0, 10, 500] : List Int).length ([0, 0, 10, 500] : List Int).length Z7 3 1)) rfl ((bF h_11)).symm).opt 0 rfl true).noL h_11 (SlA (some ⟨b57, 0, none⟩) ([0, 0, 10, 500] : List Int).length ([0, 0, 10, 500] : List Int).length ([0, 0, 10, 500] : List Int))
   exact nl ⟨b50, b57, b73, k47, k54, k61, k66, k71, p46, p53, p60, p65, p70, S, hS.close .nil s rfl (.same (.same (.same (.same (.same (.same (.same (.same (.same (.same (.here (.same (.same (.same (.same (.same (.same (.same .nil)))))))))))))))))) 10 rfl, d.ft [1, 2, 3, 4, 5, 0, 7] [3, 4, 5, 6, 7, 8, 9, 10, 11, 12, 13, 1, 0, 16, 17, 18] (by decide) rfl rfl⟩
  ·intro l hi hp hc a w ⟨b50, b57, b73, k47, k54, k61, k66, k71, p46, p53, p60, p65, p70, S, hS, d⟩
   have h_13 := l_neg hc 13 hi rfl
   have h_15 := l_neg hc 15 h_13 rfl
   have h_7 := hp 7 rfl
   have d := d.fixR 1 (r' := .box b2 (C87 rv52.2 p53 k54) 87) rfl ((bF h_15).trans ((bF h_13).trans ((bF hi).trans ((bT h_7)))))
   have h_10 := hp 10 rfl
   have d := ((d.fixR 5 (r' := .row (some ⟨b57, 0, none⟩) ([0, 0, 10, 500] : List Int).length ([0, 0, 10, 500] : List Int).length Z7 3 1) rfl ((bF hi).trans ((bT h_10)))).yes 10 rfl h_7).yes 12 rfl h_10
   have h_9 := hp 9 rfl
   refine S_eff rfl ?_
   have s := hS.open_ (.v (t := 30) 9 rfl h_9 (.v (t := 31) 10 rfl h_10 .nil))
   obtain ⟨Sv130, d⟩ := w_share (α := Int) d 5 rfl 0 rfl
   refine st_callR s (made_Dice_Pick_ok h58 d.dom (d.ins [1] (by decide) rfl) (d.envAt 2 rfl) (d.envAt 0 rfl)) (do_call Tryz.call24 rfl) trivial rfl rfl ?_
   rintro v134 Sv131 w a h132 ⟨p60, k61, rfl, h135, h62⟩ s
   have d := ((d.callO [1] [0, 2, 3, 4, 5] (by decide) rfl h132 h135).addE (e := SlA p60 rv59.2.L.length k61 rv59.2.L) h62).fixR 0 (r' := (bif l 15 then .box b2 (C87 rv69.2 p70 k71) 87 else (bif l 13 then .box b2 (C87 rv64.2 p65 k66) 87 else .box b2 (C87 rv59.2 p60 k61) 87))) rfl ((bF h_15).trans ((bF h_13))).symm
   have d := ((d.emp).opt 1 rfl true).opt 1 rfl true
   exact nl ⟨b50, b57, b73, k47, k54, k61, k66, k71, p46, p53, p60, p65, p70, Sv131, hS.close (.v (t := 30) 9 rfl h_9 (.v (t := 31) 10 rfl h_10 .nil)) s rfl (.same (.same (.same (.same (.same (.same (.same (.same (.same (.same (.same (.here (.same (.same (.same (.same (.same (.same .nil)))))))))))))))))) 11 rfl, d.ft [2, 1, 3, 4, 5, 0, 6] [6, 7, 8, 9, 10, 11, 12, 13, 14, 15, 16, 17, 1, 0, 20, 21] (by decide) rfl rfl⟩
  ·intro l hi hp hc a w ⟨b50, b57, b73, k47, k54, k61, k66, k71, p46, p53, p60, p65, p70, S, hS, d⟩
   refine S_val hS (.b (t := 0) rfl .nil) rfl rfl trivial (y_move rfl) (rfl) 12 rfl fun a hS => ⟨b50, b57, b73, k47, k54, k61, k66, k71, p46, p53, p60, p65, p70, S, hS, d⟩
  ·intro l hi hp hc a w ⟨b50, b57, b73, k47, k54, k61, k66, k71, p46, p53, p60, p65, p70, S, hS, d⟩
   have h_15 := l_neg hc 15 hi rfl
   have h_11 := hp 11 rfl
   have d := (d.fixR 1 (r' := .box b2 (C87 rv59.2 p60 k61) 87) rfl ((bF h_15).trans ((bF hi).trans ((bT h_11))))).yes 13 rfl h_11
   have h_12 := hp 12 rfl
   refine S_eff rfl ?_
   have s := hS.open_ (.v (t := 33) 12 rfl h_12 .nil)
   refine st_callR s (made_Dice_Next_ok h63 d.dom (d.ins [1] (by decide) rfl) (d.envAt 0 rfl)) (do_call Tryz.call30 rfl) trivial rfl rfl ?_
   rintro v144 Sv141 w a h142 ⟨p65, k66, rfl, h145, h67⟩ s
   have d := ((d.callO [1] [0, 2, 3, 4, 5, 6] (by decide) rfl h142 h145).addE (e := SlA p65 rv64.2.L.length k66 rv64.2.L) h67).fixR 0 (r' := (bif l 15 then .box b2 (C87 rv69.2 p70 k71) 87 else .box b2 (C87 rv64.2 p65 k66) 87)) rfl ((bF h_15)).symm
   have d := d.opt 0 rfl true
   exact nl ⟨b50, b57, b73, k47, k54, k61, k66, k71, p46, p53, p60, p65, p70, Sv141, hS.close (.v (t := 33) 12 rfl h_12 .nil) s rfl (.same (.same (.same (.same (.same (.same (.same (.same (.same (.same (.same (.same (.same (.here (.same (.same (.same (.same .nil)))))))))))))))))) 13 rfl, d.ft [1, 0, 2, 3, 4, 5, 6] [3, 4, 5, 6, 7, 8, 9, 10, 11, 12, 13, 14, 15, 16, 0, 18] (by decide) rfl rfl⟩
  ·intro l hi hp hc a w ⟨b50, b57, b73, k47, k54, k61, k66, k71, p46, p53, p60, p65, p70, S, hS, d⟩
   refine S_val hS (.b (t := 0) rfl .nil) rfl rfl trivial (y_move rfl) (rfl) 14 rfl fun a hS => ⟨b50, b57, b73, k47, k54, k61, k66, k71, p46, p53, p60, p65, p70, S, hS, d⟩
  ·intro l hi hp hc a w ⟨b50, b57, b73, k47, k54, k61, k66, k71, p46, p53, p60, p65, p70, S, hS, d⟩
   have h_13 := hp 13 rfl
   have d := (d.fixR 1 (r' := .box b2 (C87 rv64.2 p65 k66) 87) rfl ((bF hi).trans ((bT h_13)))).yes 14 rfl h_13
   have h_14 := hp 14 rfl
   refine S_eff rfl ?_
   have s := hS.open_ (.v (t := 35) 14 rfl h_14 .nil)
   refine st_callR s (made_Dice_Next_ok h68 d.dom (d.ins [1] (by decide) rfl) (d.envAt 0 rfl)) (do_call Tryz.call30 rfl) trivial rfl rfl ?_
   rintro v154 Sv151 w a h152 ⟨p70, k71, rfl, h155, h72⟩ s
   have d := ((d.callO [1] [0, 2, 3, 4, 5, 6] (by decide) rfl h152 h155).addE (e := SlA p70 rv69.2.L.length k71 rv69.2.L) h72).opt 0 rfl true
   exact nl ⟨b50, b57, b73, k47, k54, k61, k66, k71, p46, p53, p60, p65, p70, Sv151, hS.close (.v (t := 35) 14 rfl h_14 .nil) s rfl (.same (.same (.same (.same (.same (.same (.same (.same (.same (.same (.same (.same (.same (.same (.same (.here (.same (.same .nil)))))))))))))))))) 15 rfl, d.ft [1, 0, 2, 3, 4, 5, 6] [3, 4, 5, 6, 7, 8, 9, 10, 11, 12, 13, 14, 15, 16, 17, 0] (by decide) rfl rfl⟩
  ·intro l hi hp hc a w ⟨b50, b57, b73, k47, k54, k61, k66, k71, p46, p53, p60, p65, p70, S, hS, d⟩
   have h_15 := hp 15 rfl
   have h_13 := hp 13 rfl
   have h_11 := hp 11 rfl
   have h_8 := hp 8 rfl
   have h_7 := hp 7 rfl
   have h_4 := hp 4 rfl
   have h_0 := hp 0 rfl
   refine S_val hS (.v (t := 21) 0 rfl h_0 (.v (t := 25) 4 rfl h_4 (.v (t := 28) 7 rfl h_7 (.v (t := 29) 8 rfl h_8 (.v (t := 32) 11 rfl h_11 (.v (t := 34) 13 rfl h_13 (.v (t := 36) 15 rfl h_15 .nil))))))) rfl rfl trivial (y_build (vs := [(0, V52 s6), (1, .int .i64 (w64 (1000000000000 + (w64 (250000 * rv45.1))))), (2, .int .i64 rv52.1), (3, V54 rv37.1), (4, .int .i64 rv59.1), (5, .int .i64 rv64.1), (6, .int .i64 rv69.1)]) Bld56 rfl rfl) (rfl) 16 rfl fun a hS => ⟨b50, b57, b73, k47, k54, k61, k66, k71, p46, p53, p60, p65, p70, S, hS, d⟩
  ·intro l hi hp hc a w ⟨b50, b57, b73, k47, k54, k61, k66, k71, p46, p53, p60, p65, p70, S, hS, d⟩
   refine S_eff rfl ?_
   have s := hS.open_ .nil
   refine w_alloc (cs := Z0) s d Tryz.zeroValue56 rfl rfl trivial ?_
   intro b73 a w s d
   have h_18 := l_neg hc 18 hi rfl
   have d := d.fixR 0 (r' := (bif l 18 then .box b73 [.string s6.Network, .string s6.Station, .string s6.Location, .string s6.Channel, .int .i64 (w64 (1000000000000 + (w64 (250000 * rv45.1)))), .int .i64 rv52.1, .int .i64 rv37.1.Num, .int .i64 rv37.1.Den, .int .i64 rv59.1, .int .i64 rv64.1, .int .i64 rv69.1, .slice none ([] : List Int).length 0] 56 else .box b73 Z0 56)) rfl ((bF h_18)).symm
   exact nl ⟨b50, b57, b73, k47, k54, k61, k66, k71, p46, p53, p60, p65, p70, S, hS.close .nil s rfl (.same (.same (.same (.same (.same (.same (.same (.same (.same (.same (.same (.same (.same (.same (.same (.same (.same (.here .nil)))))))))))))))))) 17 rfl, d.ft [1, 2, 3, 4, 5, 6, 0] [0, 1, 2, 3, 4, 5, 6, 7, 8, 9, 10, 11, 12, 13, 14, 15] (by decide) rfl rfl⟩
  ·intro l hi hp hc a w ⟨b50, b57, b73, k47, k54, k61, k66, k71, p46, p53, p60, p65, p70, S, hS, d⟩
   have h_17 := hp 17 rfl
   have d := d.fixR 6 (r' := .box b73 Z0 56) rfl ((bF hi).trans ((bT h_17)))
   have h_16 := hp 16 rfl
   refine S_eff rfl ?_
   have s := hS.open_ (.v (t := 9) 17 rfl h_17 (.v (t := 37) 16 rfl h_16 .nil))
   refine w_store (m := 12) (cs' := [.string s6.Network, .string s6.Station, .string s6.Location, .string s6.Channel, .int .i64 (w64 (1000000000000 + (w64 (250000 * rv45.1)))), .int .i64 rv52.1, .int .i64 rv37.1.Num, .int .i64 rv37.1.Den, .int .i64 rv59.1, .int .i64 rv64.1, .int .i64 rv69.1, .slice none ([] : List Int).length 0]) s d 6 rfl rfl rfl Tryz.sizeOf56 rfl rfl rfl rfl trivial ?_
   intro a w s d
   exact nl ⟨b50, b57, b73, k47, k54, k61, k66, k71, p46, p53, p60, p65, p70, S, hS.close0 (.v (t := 9) 17 rfl h_17 (.v (t := 37) 16 rfl h_16 .nil)) s rfl, d.ft [0, 1, 2, 3, 4, 5, 6] [0, 1, 2, 3, 4, 5, 6, 7, 8, 9, 10, 11, 12, 13, 14, 15] (by decide) rfl rfl⟩
  intro l a w hl ⟨b50, b57, b73, k47, k54, k61, k66, k71, p46, p53, p60, p65, p70, S, hS, d⟩
  have d := ((d.yes 15 rfl (hl 15 (by decide))).fixR 1 (r' := .box b2 (C87 rv69.2 p70 k71) 87) rfl (bT (hl 15 (by decide)))).fixR 6 (r' := .box b73 [.string s6.Network, .string s6.Station, .string s6.Location, .string s6.Channel, .int .i64 (w64 (1000000000000 + (w64 (250000 * rv45.1)))), .int .i64 rv52.1, .int .i64 rv37.1.Num, .int .i64 rv37.1.Den, .int .i64 rv59.1, .int .i64 rv64.1, .int .i64 rv69.1, .slice none ([] : List Int).length 0] 56) rfl (bT (hl 18 (by decide)))
  have s := hS.on (.b (t := 0) rfl (.b (t := 2) rfl (.b (t := 6) rfl (.v (t := 9) 17 rfl (hl 17 (by decide)) .nil))))
  have d := d.addE (e := SlA (α := Int) none 0 0 []) nil_sl
  exact ⟨S, b73, k71, p70, (s.wk rfl), (d.ft [1, 2, 6] [1, 0] (by decide) rfl rfl)⟩
 rintro a w ⟨Sv74, b73, k71, p70, s, d⟩
 refine then_normal (wp_seq (sn 2 [] s d rfl rfl fun a s => ?_))
 obtain ⟨rv157, h156, u⟩ := bind_t u
 refine st_callR s (made_Dice_Next_ok h156 d.dom (d.ins [0] (by decide) rfl) (d.envAt 0 rfl)) (do_call Tryz.call30 rfl) trivial rfl rfl ?_
 rintro v164 Sv161 w a h162 ⟨p158, k159, rfl, h165, h160⟩ s
 have d := (d.callO [0] [1, 2] (by decide) rfl h162 h165).addE (e := SlA p158 rv157.2.L.length k159 rv157.2.L) h160
 refine sv s (y_add rfl rfl) rfl fun a s => ?_
 obtain ⟨i167, h166, u⟩ := bind_t u
 refine sv s (y_assignI rfl h166) rfl fun a s => ?_
 refine nl ?_
 obtain ⟨e232, h280, u⟩ := bind_t u
 refine wp_join (fun a w => ∃ p233 k234 c235 p236 k237 Sv238, Sl 54 [(6, .pointer (some ⟨b9, 0, none⟩)), (9, .pointer (some ⟨b73, 0, none⟩))] a ∧ Wd ⟨w0, S0, blks [.box b2 (C87 d1 p3 k4) 87]⟩ Sv238 [.box b2 [.slice p233 e232.1.length k234, .int .i64 e232.2.1] 87, .box b9 Z0 56, .box b73 [.string s6.Network, .string s6.Station, .string s6.Location, .string s6.Channel, .int .i64 (w64 (1000000000000 + (w64 (250000 * rv45.1)))), .int .i64 rv52.1, .int .i64 rv37.1.Num, .int .i64 rv37.1.Den, .int .i64 rv59.1, .int .i64 rv64.1, .int .i64 rv69.1, .slice p236 e232.2.2.length k237] 56, .row p236 e232.2.2.length k237 c235 3 1] [SlA p233 e232.1.length k234 e232.1, SlA none ([] : List Int).length 0 ([] : List Int), RowA c235 e232.2.2] w) ?_ ?_
 ·refine wp_block ?_
  have d := d.nilRow Int 3
  refine wp_while (fun sv168 a w => ∃ p207 k208 c209 p210 k211 Sv212, Sl 54 [(0, .pointer (some ⟨b2, 0, none⟩)), (6, .pointer (some ⟨b9, 0, none⟩)), (9, .pointer (some ⟨b73, 0, none⟩)), (10, .int .i64 sv168.2.2.2)] a ∧ Wd ⟨w0, S0, blks [.box b2 (C87 d1 p3 k4) 87]⟩ Sv212 [.box b2 [.slice p207 sv168.1.length k208, .int .i64 sv168.2.1] 87, .box b9 Z0 56, .box b73 [.string s6.Network, .string s6.Station, .string s6.Location, .string s6.Channel, .int .i64 (w64 (1000000000000 + (w64 (250000 * rv45.1)))), .int .i64 rv52.1, .int .i64 rv37.1.Num, .int .i64 rv37.1.Den, .int .i64 rv59.1, .int .i64 rv64.1, .int .i64 rv69.1, .slice p210 sv168.2.2.1.length k211] 56, .row p210 sv168.2.2.1.length k211 c209 3 1] [SlA p207 sv168.1.length k208 sv168.1, SlA none ([] : List Int).length 0 ([] : List Int), RowA c209 sv168.2.2.1] w) (rv157.2.L, rv157.2.At, ([] : List Int), i167) h280 ⟨p158, k159, [], none, 0, Sv161, (s.wk rfl), (d.ft [1, 2, 3, 0] [1, 3, 0] (by decide) rfl rfl)⟩ ?_
  clear h280
  repeat clear u
  rintro sv168 a w tv230 ⟨p207, k208, c209, p210, k211, Sv212, s, d⟩ u hd229
  delta made_Dice_Record_l1 at u
  refine wp_seq (sz 2 [] s d rfl rfl fun a s => ?_)
  refine cd s u rfl (fun u => ?_) fun u => ?_
  ·refine wp_skip (then_normal (wp_seq (wp_block ?_)))
   obtain ⟨rv255, h254, u⟩ := bind_t u
   obtain ⟨l262, h261, u⟩ := bind_t u
   refine wp_only (fun a w => ∃ Sv266 c265 k257 k264 p256 p263, Sl 54 [(0, .pointer (some ⟨b2, 0, none⟩)), (6, .pointer (some ⟨b9, 0, none⟩)), (9, .pointer (some ⟨b73, 0, none⟩)), (10, .int .i64 sv168.2.2.2)] a ∧ Wd ⟨w0, S0, blks [.box b2 (C87 d1 p3 k4) 87]⟩ Sv266 [.box b2 (C87 rv255.2 p256 k257) 87, .box b9 Z0 56, .box b73 [.string s6.Network, .string s6.Station, .string s6.Location, .string s6.Channel, .int .i64 (w64 (1000000000000 + (w64 (250000 * rv45.1)))), .int .i64 rv52.1, .int .i64 rv37.1.Num, .int .i64 rv37.1.Den, .int .i64 rv59.1, .int .i64 rv64.1, .int .i64 rv69.1, .slice p263 l262.length k264] 56, .row p263 l262.length k264 c265 3 1] [SlA p256 rv255.2.L.length k257 rv255.2.L, SlA none ([] : List Int).length 0 ([] : List Int), RowA c265 l262] w) ?_ ?_
   ·refine h_c [1] [] d rfl rfl (by kernel_rfl) rfl fun hC d => ?_
    refine gn 2 [0, 2] [] s hC rfl rfl rfl fun a s => ?_
    refine h_all (rs := [1, 3]) (by kernel_rfl) rfl ?_
    refine AllH.cons rfl ?_ ?_
    ·refine sv s (y_loadB1 (d.ownAt 2 rfl) rfl Tryz.isAgg22 rfl) rfl fun a s => ?_
     refine h_n [1] [] d rfl rfl fun hC => ?_
     refine ho 3 rfl ?_
     refine st_callR s (made_Dice_Next_ok h254 d.dom (d.ins [0] (by decide) rfl) (d.envAt 0 rfl)) (do_call Tryz.call30 rfl) trivial rfl rfl ?_
     rintro v270 Sv267 w a h268 ⟨p256, k257, rfl, h271, h258⟩ s
     have d := (d.callO [0] [1, 2, 3] (by decide) rfl h268 h271).addE (e := SlA p256 rv255.2.L.length k257 rv255.2.L) h258
     refine h_n [1] [] d rfl rfl fun hC => ?_
     refine ho 4 rfl ?_
     refine w_litSlice (α := Int) (vs := [.int .i64 rv255.1]) (cs := [.int .i64 rv255.1]) (xs := ([rv255.1] : List Int)) s d El22 rfl rfl rfl rfl rfl rfl ⟨⟨_, rfl, rfl⟩, rfl⟩ rfl trivial rfl fun b260 a w s d => ?_
     refine h_n [2] [] d rfl rfl fun hC => ?_
     refine h_d [2, 0] [] [0] [] d rfl rfl rfl rfl fun hC => ?_
     refine ho 5 rfl ?_
     refine w_appendR (α := Int) s d El22 4 rfl rfl rfl 4 rfl 0 rfl 0 rfl h261 rfl trivial ?_
     intro p263 k264 c265 a w s d
     refine h_n [2, 0] [] d rfl rfl fun hC => ?_
     refine gv s 6 rfl rfl hC (fun w hC => y_fieldAddr (o' := 11) Tryz.runUnderlying56 rfl Tryz.sizeOf22 rfl rfl rfl) fun a s => ?_
     refine ho 7 rfl ?_
     refine w_store (m := 1) (cs' := [.string s6.Network, .string s6.Station, .string s6.Location, .string s6.Channel, .int .i64 (w64 (1000000000000 + (w64 (250000 * rv45.1)))), .int .i64 rv52.1, .int .i64 rv37.1.Num, .int .i64 rv37.1.Den, .int .i64 rv59.1, .int .i64 rv64.1, .int .i64 rv69.1, .slice p263 l262.length k264]) s d 3 rfl rfl rfl Tryz.sizeOf22 rfl rfl rfl rfl trivial ?_
     intro a w s d
     refine h_n [2, 0] [] d rfl rfl fun hC => ?_
     refine h_done (by kernel_rfl) ?_
     exact ⟨Sv267, c265, k257, k264, p256, p263, (s.wk rfl), (d.ft [1, 2, 3, 4] [2, 4, 0] (by decide) rfl rfl)⟩
    refine AllH.cons rfl ?_ ?_
    ·refine st_callR s (made_Dice_Next_ok h254 d.dom (d.ins [0] (by decide) rfl) (d.envAt 0 rfl)) (do_call Tryz.call30 rfl) trivial rfl rfl ?_
     rintro v275 Sv272 w a h273 ⟨p256, k257, rfl, h276, h258⟩ s
     have d := (d.callO [0] [1, 2, 3] (by decide) rfl h273 h276).addE (e := SlA p256 rv255.2.L.length k257 rv255.2.L) h258
     refine h_n [1] [] d rfl rfl fun hC => ?_
     refine h_all (rs := [1, 4]) (by kernel_rfl) rfl ?_
     refine AllH.cons rfl ?_ ?_
     ·refine sv s (y_loadB1 (d.ownAt 2 rfl) rfl Tryz.isAgg22 rfl) rfl fun a s => ?_
      refine h_n [1] [] d rfl rfl fun hC => ?_
      refine ho 4 rfl ?_
      refine w_litSlice (α := Int) (vs := [.int .i64 rv255.1]) (cs := [.int .i64 rv255.1]) (xs := ([rv255.1] : List Int)) s d El22 rfl rfl rfl rfl rfl rfl ⟨⟨_, rfl, rfl⟩, rfl⟩ rfl trivial rfl fun b260 a w s d => ?_
      refine h_n [2] [] d rfl rfl fun hC => ?_
      refine h_d [2, 0] [] [0] [] d rfl rfl rfl rfl fun hC => ?_
      refine ho 5 rfl ?_
      refine w_appendR (α := Int) s d El22 4 rfl rfl rfl 4 rfl 0 rfl 0 rfl h261 rfl trivial ?_
      intro p263 k264 c265 a w s d
      refine h_n [2, 0] [] d rfl rfl fun hC => ?_
      refine gv s 6 rfl rfl hC (fun w hC => y_fieldAddr (o' := 11) Tryz.runUnderlying56 rfl Tryz.sizeOf22 rfl rfl rfl) fun a s => ?_
      refine ho 7 rfl ?_
      refine w_store (m := 1) (cs' := [.string s6.Network, .string s6.Station, .string s6.Location, .string s6.Channel, .int .i64 (w64 (1000000000000 + (w64 (250000 * rv45.1)))), .int .i64 rv52.1, .int .i64 rv37.1.Num, .int .i64 rv37.1.Den, .int .i64 rv59.1, .int .i64 rv64.1, .int .i64 rv69.1, .slice p263 l262.length k264]) s d 3 rfl rfl rfl Tryz.sizeOf22 rfl rfl rfl rfl trivial ?_
      intro a w s d
      refine h_n [2, 0] [] d rfl rfl fun hC => ?_
      refine h_done (by kernel_rfl) ?_
      exact ⟨Sv272, c265, k257, k264, p256, p263, (s.wk rfl), (d.ft [1, 2, 3, 4] [2, 4, 0] (by decide) rfl rfl)⟩
     refine AllH.cons rfl ?_ ?_
     ·refine w_litSlice (α := Int) (vs := [.int .i64 rv255.1]) (cs := [.int .i64 rv255.1]) (xs := ([rv255.1] : List Int)) s d El22 rfl rfl rfl rfl rfl rfl ⟨⟨_, rfl, rfl⟩, rfl⟩ rfl trivial rfl fun b260 a w s d => ?_
      refine h_n [2] [] d rfl rfl fun hC => ?_
      refine h_d [2, 0] [] [0] [] d rfl rfl rfl rfl fun hC => ?_
      refine ho 1 rfl ?_
      refine sv s (y_loadB1 (d.ownAt 3 rfl) rfl Tryz.isAgg22 rfl) rfl fun a s => ?_
      refine h_n [2, 0] [] d rfl rfl fun hC => ?_
      refine ho 5 rfl ?_
      refine w_appendR (α := Int) s d El22 4 rfl rfl rfl 4 rfl 0 rfl 0 rfl h261 rfl trivial ?_
      intro p263 k264 c265 a w s d
      refine h_n [2, 0] [] d rfl rfl fun hC => ?_
      refine gv s 6 rfl rfl hC (fun w hC => y_fieldAddr (o' := 11) Tryz.runUnderlying56 rfl Tryz.sizeOf22 rfl rfl rfl) fun a s => ?_
      refine ho 7 rfl ?_
      refine w_store (m := 1) (cs' := [.string s6.Network, .string s6.Station, .string s6.Location, .string s6.Channel, .int .i64 (w64 (1000000000000 + (w64 (250000 * rv45.1)))), .int .i64 rv52.1, .int .i64 rv37.1.Num, .int .i64 rv37.1.Den, .int .i64 rv59.1, .int .i64 rv64.1, .int .i64 rv69.1, .slice p263 l262.length k264]) s d 3 rfl rfl rfl Tryz.sizeOf22 rfl rfl rfl rfl trivial ?_
      intro a w s d
      refine h_n [2, 0] [] d rfl rfl fun hC => ?_
      refine h_done (by kernel_rfl) ?_
      exact ⟨Sv272, c265, k257, k264, p256, p263, (s.wk rfl), (d.ft [1, 2, 3, 4] [2, 4, 0] (by decide) rfl rfl)⟩
     exact AllH.nil
    exact AllH.nil
   rintro a w ⟨Sv266, c265, k257, k264, p256, p263, s, d⟩
   refine blk_normal (then_normal (wp_region_lit (rn 2 [] s d rfl rfl fun a s => ?_)))
   obtain ⟨i278, h277, u⟩ := bind_t u
   refine sv s (y_assignI rfl h277) rfl fun a s => ?_
   exact nl ⟨_, (Option.some.inj u).symm, p256, k257, c265, p263, k264, Sv266, (s.wk rfl), (d.ft [0, 1, 2, 3] [0, 1, 2] (by decide) rfl rfl)⟩
  refine wp_exit (then_exit (then_exit (blk_exit ?_)))
  have u := oi u
  subst u
  have h279 := hd229 _ rfl
  subst h279
  exact then_normal ⟨p207, k208, c209, p210, k211, Sv212, (s.wk rfl), (d.ft [0, 1, 2, 3] [0, 1, 2] (by decide) rfl rfl)⟩
 rintro a w ⟨p233, k234, c235, p236, k237, Sv238, s, d⟩
 refine then_normal (sn 1 [2] s d rfl rfl fun a s => ?_)
 refine w_store (m := 12) (cs' := [.string s6.Network, .string s6.Station, .string s6.Location, .string s6.Channel, .int .i64 (w64 (1000000000000 + (w64 (250000 * rv45.1)))), .int .i64 rv52.1, .int .i64 rv37.1.Num, .int .i64 rv37.1.Den, .int .i64 rv59.1, .int .i64 rv64.1, .int .i64 rv69.1, .slice p236 e232.2.2.length k237]) s d 1 rfl rfl rfl Tryz.sizeOf56 rfl rfl rfl rfl trivial ?_
 intro a w s d
 refine nl ?_
 have u := oi u
 subst u
 exact wp_ret (ret1 s rfl (rv_cell d 1 rfl rfl Tryz.isAgg56 Tryz.sizeOf56 rfl) (d.ret ⟨p236, k237, c235, p233, k234, rfl, (d.outs [3, 0] (by decide) rfl), (d.envAt 2 rfl), (d.envAt 0 rfl)⟩))
abbrev made_Dice_Records_rd (w0 : World) (X : List Nat) (b2 : Nat) (r : ((List Record) × Dice)) : (Nat → Prop) → World → Value → Prop := fun S w v => ∃ p0_0 k0_0 c0_0 pq0_0 kq0_0, v = .slice p0_0 r.1.length k0_0 ∧ Outs X w0 S w [.row p0_0 r.1.length k0_0 c0_0 56 12, .box b2 (C87 r.2 pq0_0 kq0_0) 87] ∧ (RowA c0_0 r.1).p S w ∧ (SlA pq0_0 r.2.L.length kq0_0 r.2.L).p S w
theorem made_Dice_Records_ok {w0 S0 b2 p3 k4 d1 n6 r} (u : made_Dice_Records d1 n6 = some r) (hS : Dm S0 w0) (hin : Ins S0 w0 [.box b2 (C87 d1 p3 k4) 87]) (h5 : (SlA p3 d1.L.length k4 d1.L).p S0 w0) : Calls Tryz.prog 12 #[.pointer (some ⟨b2, 0, none⟩), .int .i64 n6] w0 (Ret (blks [.box b2 (C87 d1 p3 k4) 87]) w0 S0 (made_Dice_Records_rd w0 (blks [.box b2 (C87 d1 p3 k4) 87]) b2 r)) := by
 refine enI 48 Tryz.func12 rfl hS hin rfl rfl rfl fun a s d => ?_
 have d := d.addE h5
 delta made_Dice_Records at u
 refine sz 1 [] s d rfl rfl fun a s => ?_
 refine sn 1 [] s d rfl rfl fun a s => ?_
 obtain ⟨rv8, h7, u⟩ := bind_t u
 refine st_callR s (made_Dice_Source_ok h7 d.dom (d.ins [0] (by decide) rfl) (d.envAt 0 rfl)) (do_call Tryz.call46 rfl) trivial rfl rfl ?_
 rintro v15 Sv12 w a h13 ⟨p9, k10, rfl, h16, h11⟩ s
 have d := (d.callO [0] [] (by decide) rfl h13 h16).addE (e := SlA p9 rv8.2.L.length k10 rv8.2.L) h11
 refine w_alloc (cs := Z1) s d Tryz.zeroValue52 rfl rfl trivial ?_
 intro b17 a w s d
 refine w_store (m := 4) (cs' := (C52 rv8.1)) s d 0 rfl rfl rfl Tryz.sizeOf52 rfl rfl rfl rfl trivial ?_
 intro a w s d
 refine nl (sz 1 [] s d rfl rfl fun a s => ?_)
 refine wp_seq (sn 3 [] s d rfl rfl fun a s => ?_)
 obtain ⟨rv19, h18, u⟩ := bind_t u
 refine st_callR s (made_Dice_Next_ok h18 d.dom (d.ins [1] (by decide) rfl) (d.envAt 0 rfl)) (do_call Tryz.call30 rfl) trivial rfl rfl ?_
 rintro v26 Sv23 w a h24 ⟨p20, k21, rfl, h27, h22⟩ s
 have d := (d.callO [1] [0] (by decide) rfl h24 h27).addE (e := SlA p20 rv19.2.L.length k21 rv19.2.L) h22
 refine rz 1 [] s d rfl rfl fun a s => ?_
 obtain ⟨e374, h642, u⟩ := bind_t u
 refine wp_join (fun a w => ∃ p375 k376 c377 p378 k379 Sv380, Sl 48 [(6, .slice p378 e374.2.2.length k379)] a ∧ Wd ⟨w0, S0, blks [.box b2 (C87 d1 p3 k4) 87]⟩ Sv380 [.box b2 [.slice p375 e374.1.length k376, .int .i64 e374.2.1] 87, .row p378 e374.2.2.length k379 c377 56 12] [SlA p375 e374.1.length k376 e374.1, RowA c377 e374.2.2] w) ?_ ?_
 ·refine wp_block ?_
  have d := d.nilRow Record 56
  refine wp_while (fun sv28 a w => ∃ p255 k256 c257 p258 k259 Sv260, Sl 48 [(0, .pointer (some ⟨b2, 0, none⟩)), (5, .pointer (some ⟨b17, 0, none⟩)), (6, .slice p258 sv28.2.2.1.length k259), (7, .int .i64 sv28.2.2.2)] a ∧ Wd ⟨w0, S0, blks [.box b2 (C87 d1 p3 k4) 87]⟩ Sv260 [.box b2 [.slice p255 sv28.1.length k256, .int .i64 sv28.2.1] 87, .box b17 (C52 rv8.1) 52, .row p258 sv28.2.2.1.length k259 c257 56 12] [SlA p255 sv28.1.length k256 sv28.1, RowA c257 sv28.2.2.1] w) (rv19.2.L, rv19.2.At, ([] : List Record), rv19.1) h642 ⟨p20, k21, [], none, 0, Sv23, (s.wk rfl), (d.ft [1, 2, 0] [1, 0] (by decide) rfl rfl)⟩ ?_
  clear h642
  repeat clear u
  rintro sv28 a w tv372 ⟨p255, k256, c257, p258, k259, Sv260, s, d⟩ u hd371
  delta made_Dice_Records_l1 at u
  refine wp_seq (sz 2 [] s d rfl rfl fun a s => ?_)
  refine cd s u rfl (fun u => ?_) fun u => ?_
  ·refine wp_skip (then_normal (wp_seq (wp_block (sn 2 [1] s d rfl rfl fun a s => ?_))))
   obtain ⟨rv491, h490, u⟩ := bind_t u
   refine st_callR s (made_Dice_Record_ok h490 d.dom (d.ins [0] (by decide) rfl) (d.envAt 0 rfl)) (do_call Tryz.call47 rfl) trivial rfl rfl ?_
   rintro v502 Sv499 w a h500 ⟨p492, k493, c495, p496, k497, rfl, h503, h494, h498⟩ s
   have d := ((d.callO [0] [1, 2] (by decide) rfl h500 h503).addE (e := RowA c495 rv491.1.Samples) h494).addE (e := SlA p496 rv491.2.L.length k497 rv491.2.L) h498
   refine w_alloc (cs := Z0) s d Tryz.zeroValue56 rfl rfl trivial ?_
   intro b504 a w s d
   refine w_store (m := 12) (cs' := (C56 rv491.1 p492 k493)) s d 0 rfl rfl rfl Tryz.sizeOf56 rfl rfl rfl rfl trivial ?_
   intro a w s d
   refine nl (wp_seq (sn 4 [] s d rfl rfl fun a s => ?_))
   obtain ⟨c516, hc516, u⟩ := bind_t u
   refine wpl_join 4 (fun a w => ∃ p517 k518 Sv519, Sl 48 [(0, .pointer (some ⟨b2, 0, none⟩)), (5, .pointer (some ⟨b17, 0, none⟩)), (6, .slice p258 sv28.2.2.1.length k259), (7, .int .i64 sv28.2.2.2), (8, .pointer (some ⟨b504, 0, none⟩)), (29, .bool c516.2.2)] a ∧ Wd ⟨w0, S0, blks [.box b2 (C87 d1 p3 k4) 87]⟩ Sv519 [.box b2 [.slice p517 c516.1.length k518, .int .i64 c516.2.1] 87, .box b17 (C52 rv8.1) 52, .box b504 (C56 rv491.1 p492 k493) 56, .row p492 rv491.1.Samples.length k493 c495 3 1, .row p258 sv28.2.2.1.length k259 c257 56 12] [SlA p517 c516.1.length k518 c516.1, RowA c495 rv491.1.Samples, RowA c257 sv28.2.2.1] w) ?_ ?_
   ·rcases Bool.eq_false_or_eq_true (decide (0 < (sv28.2.2.1.length : Int))) with h515 | h515
    ·have s := s.fix 25 (.bool true) rfl (vb h515)
     have u := ite_t hc516 h515
     refine st_val s (y_move rfl) ⟨_, rfl, rfl⟩ rfl rfl fun a s => ?_
     obtain ⟨rv521, h520, u⟩ := bind_t u
     refine st_callR s (made_Dice_Next_ok h520 d.dom (d.ins [2] (by decide) rfl) (d.envAt 0 rfl)) (do_call Tryz.call30 rfl) ⟨_, rfl, rfl⟩ rfl rfl ?_
     rintro v528 Sv525 w a h526 ⟨p522, k523, rfl, h529, h524⟩ s
     have d := (d.callO [2] [0, 1, 3, 4] (by decide) rfl h526 h529).addE (e := SlA p522 rv521.2.L.length k523 rv521.2.L) h524
     refine rn 2 [] s d rfl rfl fun a s => ?_
     refine wpList_nil ?_
     have u := oi u
     subst u
     exact then_normal ⟨p522, k523, Sv525, (s.wk rfl), (d.ft [0, 3, 1, 2, 4] [0, 2, 4] (by decide) rfl rfl)⟩
    have s := s.fix 25 (.bool false) rfl (vb h515)
    have u := ite_f hc516 h515
    refine rn 4 [] s d rfl rfl fun a s => ?_
    refine wpList_nil ?_
    have u := oi u
    subst u
    exact then_normal ⟨p496, k497, Sv499, (s.wk rfl), (d.ft [2, 3, 0, 1, 4] [0, 1, 3] (by decide) rfl rfl)⟩
   rintro a w ⟨p517, k518, Sv519, s, d⟩
   refine nl (wp_join (fun a w => ∃ (x576 : (List Int)) (x577 : Int) (x578 : ByteArray) (x579 : ByteArray) (x580 : ByteArray) (x581 : ByteArray) (x582 : Int) (x583 : Int) (x584 : Int) (x585 : Int) (x586 : Int) (x587 : Int) (x588 : Int) (x589 : (List Int)) (p571 k572 p573 k574 Sv575 : _), made_Dice_Records_j1 sv28 x576 x577 x578 x579 x580 x581 x582 x583 x584 x585 x586 x587 x588 x589 = some tv372 ∧ Sl 48 [(0, .pointer (some ⟨b2, 0, none⟩)), (5, .pointer (some ⟨b17, 0, none⟩)), (6, .slice p258 sv28.2.2.1.length k259), (7, .int .i64 sv28.2.2.2), (8, .pointer (some ⟨b504, 0, none⟩))] a ∧ Wd ⟨w0, S0, blks [.box b2 (C87 d1 p3 k4) 87]⟩ Sv575 [.box b2 [.slice p571 x576.length k572, .int .i64 x577] 87, .box b17 (C52 rv8.1) 52, .box b504 [.string x578, .string x579, .string x580, .string x581, .int .i64 x582, .int .i64 x583, .int .i64 x584, .int .i64 x585, .int .i64 x586, .int .i64 x587, .int .i64 x588, .slice p573 x589.length k574] 56, .row p258 sv28.2.2.1.length k259 c257 56 12] [SlA p571 x576.length k572 x576, SlA p573 x589.length k574 x589, RowA c257 sv28.2.2.1] w) ?_ ?_)
   ·refine cd s u rfl (fun u => ?_) fun u => ?_
    ·refine sn 4 [] s d rfl rfl fun a s => ?_
     obtain ⟨rv601, h600, u⟩ := bind_t u
     refine st_callR s (made_Dice_Next_ok h600 d.dom (d.ins [0] (by decide) rfl) (d.envAt 0 rfl)) (do_call Tryz.call30 rfl) trivial rfl rfl ?_
     rintro v608 Sv605 w a h606 ⟨p602, k603, rfl, h609, h604⟩ s
     have d := (d.callO [0] [1, 2, 3, 4] (by decide) rfl h606 h609).addE (e := SlA p602 rv601.2.L.length k603 rv601.2.L) h604
     obtain ⟨x612, h610, u⟩ := bind_t u
     obtain ⟨b619, q616, c617, h620, h613, h614, h618, h611⟩ := d.elemRV (α := Record) 4 rfl 3 rfl h610
     have hsv621 := s
     have hwv622 := d
     subst h620
     have s := hsv621
     have d := hwv622
     obtain ⟨_, _, _, _, _, _, _, _, _, _, _, _, rfl, rfl, rfl, rfl, rfl, rfl, rfl, rfl, rfl, rfl, rfl, rfl, ⟨p623, n624, k625, rfl, h626⟩⟩ := h611
     obtain rfl := h626.1
     have d := d.addE (e := SlA p623 _ k625 x612.Samples) h626
     refine sv s (y_indexAt Tryz.runUnderlying28 Tryz.sizeOf56 rfl rfl h613.1 h613.2 h614) rfl fun a s => ?_
     refine sv s (y_loadQA (j := 0) (d.ownAt 4 rfl) rfl Tryz.isAgg56 Tryz.sizeOf56 h618 rfl rfl) rfl fun a s => ?_
     refine w_store (m := 12) (cs' := (C56 x612 p623 k625)) s d 2 rfl rfl rfl Tryz.sizeOf56 rfl rfl rfl rfl trivial ?_
     intro a w s d
     refine nl (wp_region_lit (rn 3 [2] s d rfl rfl fun a s => ?_))
     refine w_litSlice (α := Int) (vs := [.int .i64 x612.Seq, .int .i64 9]) (cs := [.int .i64 x612.Seq, .int .i64 9]) (xs := ([x612.Seq, 9] : List Int)) s d El22 rfl rfl rfl rfl rfl rfl ⟨⟨_, rfl, rfl⟩, ⟨⟨_, rfl, rfl⟩, rfl⟩⟩ rfl trivial rfl fun b628 a w s d => ?_
     obtain ⟨rv630, h629, u⟩ := bind_t u
     obtain ⟨Sv634, d⟩ := w_share (α := Int) d 0 rfl 0 rfl
     refine st_callR s (made_Dice_Pick_ok h629 d.dom (d.ins [0] (by decide) rfl) (d.envAt 3 rfl) (d.envAt 0 rfl)) (do_call Tryz.call24 rfl) trivial rfl rfl ?_
     rintro v638 Sv635 w a h636 ⟨p631, k632, rfl, h639, h633⟩ s
     have d := (d.callO [0] [1, 2, 3, 4] (by decide) rfl h636 h639).addE (e := SlA p631 rv630.2.L.length k632 rv630.2.L) h633
     refine sv s (y_fieldAddr (o' := 10) Tryz.runUnderlying56 rfl Tryz.sizeOf3 rfl rfl rfl) rfl fun a s => ?_
     refine w_store (m := 1) (cs' := (C56 ⟨x612.Source, x612.Start, x612.First, x612.Rate, x612.Error, x612.Run, rv630.1, x612.Samples⟩ p623 k625)) s d 2 rfl rfl rfl Tryz.sizeOf3 rfl rfl rfl rfl trivial ?_
     intro a w s d
     exact nl ⟨rv630.2.L, rv630.2.At, x612.Source.Network, x612.Source.Station, x612.Source.Location, x612.Source.Channel, x612.Start, x612.First, x612.Rate.Num, x612.Rate.Den, x612.Error, x612.Run, rv630.1, x612.Samples, p631, k632, p623, k625, Sv635, u, (s.wk rfl), (d.ft [0, 1, 2, 4] [0, 3, 7] (by decide) rfl rfl)⟩
    refine wp_skip (then_normal ?_)
    obtain ⟨Sv640, d⟩ := w_share (α := Int) d 3 rfl 1 rfl
    exact ⟨c516.1, c516.2.1, rv491.1.Source.Network, rv491.1.Source.Station, rv491.1.Source.Location, rv491.1.Source.Channel, rv491.1.Start, rv491.1.First, rv491.1.Rate.Num, rv491.1.Rate.Den, rv491.1.Error, rv491.1.Run, rv491.1.Seq, rv491.1.Samples, p517, k518, p492, k493, Sv640, u, (s.wk rfl), (d.ft [0, 1, 2, 3] [1, 0, 3] (by decide) rfl rfl)⟩
   rintro a w ⟨x576, x577, x578, x579, x580, x581, x582, x583, x584, x585, x586, x587, x588, x589, p571, k572, p573, k574, Sv575, u, s, d⟩
   delta made_Dice_Records_j1 at u
   refine then_normal (wp_region_lit (rn 2 [2] s d rfl rfl fun a s => ?_))
   refine w_litSlice (α := Record) (vs := [.agg #[.string x578, .string x579, .string x580, .string x581, .int .i64 x582, .int .i64 x583, .int .i64 x584, .int .i64 x585, .int .i64 x586, .int .i64 x587, .int .i64 x588, .slice p573 x589.length k574]]) (cs := [.string x578, .string x579, .string x580, .string x581, .int .i64 x582, .int .i64 x583, .int .i64 x584, .int .i64 x585, .int .i64 x586, .int .i64 x587, .int .i64 x588, .slice p573 x589.length k574]) (xs := ([(⟨(⟨x578, x579, x580, x581⟩ : SourceID), x582, x583, (⟨x584, x585⟩ : Rate), x586, x587, x588, x589⟩ : Record)] : List Record)) s d El28 rfl rfl rfl rfl rfl rfl ⟨⟨_, _, _, _, _, _, _, _, _, _, _, _, rfl, rfl, rfl, rfl, rfl, rfl, rfl, rfl, rfl, rfl, rfl, rfl, ⟨_, _, _, rfl, d.envAt 1 rfl⟩⟩, rfl⟩ rfl trivial rfl fun b591 a w s d => ?_
   obtain ⟨l593, h592, u⟩ := bind_t u
   refine w_appendR (α := Record) s d El28 4 rfl rfl rfl 3 rfl 0 rfl 0 rfl h592 rfl trivial ?_
   intro p594 k595 c596 a w s d
   refine av s rfl rfl fun a s => ?_
   refine wpList_nil ?_
   refine blk_normal (then_normal (wp_region_lit (rn 2 [] s d rfl rfl fun a s => ?_)))
   obtain ⟨i598, h597, u⟩ := bind_t u
   refine sv s (y_assignI rfl h597) rfl fun a s => ?_
   exact nl ⟨_, (Option.some.inj u).symm, p571, k572, c596, p594, k595, Sv575, (s.wk rfl), (d.ft [1, 2, 4] [2, 0] (by decide) rfl rfl)⟩
  refine wp_exit (then_exit (then_exit (blk_exit ?_)))
  have u := oi u
  subst u
  have h641 := hd371 _ rfl
  subst h641
  exact then_normal ⟨p255, k256, c257, p258, k259, Sv260, (s.wk rfl), (d.ft [0, 2] [0, 1] (by decide) rfl rfl)⟩
 rintro a w ⟨p375, k376, c377, p378, k379, Sv380, s, d⟩
 refine then_normal (sz 2 [] s d rfl rfl fun a s => ?_)
 have u := oi u
 subst u
 exact wp_ret (ret1 s rfl (rv_tmp rfl) (d.ret ⟨p378, k379, c377, p375, k376, rfl, (d.outs [1, 0] (by decide) rfl), (d.envAt 1 rfl), (d.envAt 0 rfl)⟩))
theorem continuity_Depth_ok {w0 S0 p2 k3 l1 t5 r} (u : continuity_Depth l1 t5 = some r) (hS : Dm S0 w0) (h4 : (SlA p2 l1.length k3 l1).p S0 w0) : Calls Tryz.prog 15 #[.slice p2 l1.length k3, .int .i64 t5] w0 (Ret ([]) w0 S0 (slices_IndexFunc_Lapi_Record_api_Record_rd w0 ([]) r)) := by
 refine en 36 Tryz.func15 rfl hS rfl rfl rfl fun a s d => ?_
 have d := d.addE h4
 delta continuity_Depth at u
 refine sz 1 [] s d rfl rfl fun a s => ?_
 refine sn 1 [] s d rfl rfl fun a s => ?_
 obtain ⟨rv7, h6, u⟩ := bind_t u
 refine st_callR s (compose_Order_ok h6 d.dom (d.envAt 0 rfl)) (do_call Tryz.call51 rfl) trivial rfl rfl ?_
 rintro v15 Sv12 w a h13 ⟨p8, k9, c11, rfl, h16, h10⟩ s
 have d := (d.callN h13 h16).addE (e := RowA c11 rv7.1) h10
 refine rz 5 [] s d rfl rfl fun a s => ?_
 refine sz 1 [] s d rfl rfl fun a s => ?_
 refine wp_seq (sz 3 [] s d rfl rfl fun a s => ?_)
 obtain ⟨e116, h184, u⟩ := bind_t u
 refine wp_join (fun a w => ∃ Sv117, Sl 36 [(7, .int .i64 e116)] a ∧ Wd ⟨w0, S0, []⟩ Sv117 [] [] w) ?_ ?_
 ·refine wp_block (wp_while (fun sv17 a w => ∃ Sv81, Sl 36 [(1, .int .i64 t5), (7, .int .i64 sv17.1), (18, .slice p8 rv7.1.length k9), (19, .int .i64 (rv7.1.length : Int)), (20, .int .i64 sv17.2)] a ∧ Wd ⟨w0, S0, []⟩ Sv81 [.row p8 rv7.1.length k9 c11 56 12] [RowA c11 rv7.1] w) (0, 0) h184 ⟨Sv12, (s.wk rfl), (d.ft [0] [0] (by decide) rfl rfl)⟩ ?_)
  clear h184
  repeat clear u
  rintro sv17 a w tv114 ⟨Sv81, s, d⟩ u hd113
  delta continuity_Depth_l1 at u
  refine sz 1 [] s d rfl rfl fun a s => ?_
  refine wp_seq (cd s u rfl (fun u => ?_) fun u => ?_)
  ·refine wp_skip (then_normal (wp_seq (wp_block (sr ?_))))
   obtain ⟨x152, h150, u⟩ := bind_t u
   obtain ⟨b159, q156, c157, h160, h153, h154, h158, h151⟩ := d.elemRV (α := Record) 0 rfl 0 rfl h150
   have hsv161 := s
   have hwv162 := d
   subst h160
   have s := hsv161
   have d := hwv162
   obtain ⟨_, _, _, _, _, _, _, _, _, _, _, _, rfl, rfl, rfl, rfl, rfl, rfl, rfl, rfl, rfl, rfl, rfl, rfl, ⟨p163, n164, k165, rfl, h166⟩⟩ := h151
   obtain rfl := h166.1
   have d := d.addE (e := SlA p163 _ k165 x152.Samples) h166
   refine sv s (y_indexAt Tryz.runUnderlying28 Tryz.sizeOf56 rfl rfl h153.1 h153.2 h154) rfl fun a s => ?_
   refine sv s (y_loadQA (j := 0) (d.ownAt 0 rfl) rfl Tryz.isAgg56 Tryz.sizeOf56 h158 rfl rfl) rfl fun a s => ?_
   refine w_alloc (cs := Z0) s d Tryz.zeroValue56 rfl rfl trivial ?_
   intro b167 a w s d
   refine w_store (m := 12) (cs' := (C56 x152 p163 k165)) s d 0 rfl rfl rfl Tryz.sizeOf56 rfl rfl rfl rfl trivial ?_
   intro a w s d
   refine nl (sn 2 [0] s d rfl rfl fun a s => ?_)
   obtain ⟨rv169, h168, u⟩ := bind_t u
   refine st_callR s (continuity_cover_ok h168 d.bdom (d.bE 0 rfl)) (do_call Tryz.call54 rfl) trivial rfl rfl ?_
   rintro v173 Sv170 w a h171 rfl s
   have d := d.callB h171
   refine rz 7 [] s d rfl rfl fun a s => ?_
   refine sz 1 [] s d rfl rfl fun a s => ?_
   refine wp_join (fun a w => ∃ (n179 : Int) (Sv178 : _), continuity_Depth_j1 sv17 n179 = some tv114 ∧ Sl 36 [(1, .int .i64 t5), (7, .int .i64 n179), (18, .slice (some ⟨b159, 0, none⟩) rv7.1.length k9), (19, .int .i64 (rv7.1.length : Int)), (20, .int .i64 sv17.2)] a ∧ Wd ⟨w0, S0, []⟩ Sv178 [.row (some ⟨b159, 0, none⟩) rv7.1.length k9 c11 56 12] [RowA c11 rv7.1] w) ?_ ?_
   ·refine cd s u rfl (fun u => ?_) fun u => ?_
    ·refine wp_region_lit (rn 2 [] s d rfl rfl fun a s => ?_)
     obtain ⟨n182, h181, u⟩ := bind_t u
     refine sv s (y_assignI rfl h181) rfl fun a s => ?_
     exact nl ⟨n182, Sv81, u, (s.wk rfl), (d.ft [1] [1] (by decide) rfl rfl)⟩
    exact wp_skip (then_normal ⟨sv17.1, Sv81, u, (s.wk rfl), (d.ft [1] [1] (by decide) rfl rfl)⟩)
   rintro a w ⟨n179, Sv178, u, s, d⟩
   delta continuity_Depth_j1 at u
   refine blk_normal (then_normal (wp_region_lit (rz 2 [] s d rfl rfl fun a s => ?_)))
   exact ⟨_, (Option.some.inj u).symm, Sv178, (s.wk rfl), (d.ft [0] [0] (by decide) rfl rfl)⟩
  refine wp_exit (then_exit (then_exit (blk_exit ?_)))
  have u := oi u
  subst u
  have h183 := hd113 _ rfl
  subst h183
  exact then_normal ⟨Sv81, (s.wk rfl), (d.ft [] [] (by decide) rfl rfl)⟩
 rintro a w ⟨Sv117, s, d⟩
 refine then_normal (sz 2 [] s d rfl rfl fun a s => ?_)
 have u := oi u
 subst u
 exact wp_ret (ret1 s rfl (rv_tmp rfl) (d.ret rfl))
theorem ref08_Normal_ok {w0 S0 p2 k3 l1 r} (u : ref08_Normal l1 = some r) (hS : Dm S0 w0) (h4 : (SlA p2 l1.length k3 l1).p S0 w0) : Calls Tryz.prog 55 #[.slice p2 l1.length k3] w0 (Ret ([]) w0 S0 (slices_Clone_Lapi_Span_api_Span_rd w0 ([]) r)) := by
 refine en 117 Tryz.func55 rfl hS rfl rfl rfl fun a s d => ?_
 have d := d.addE h4
 delta ref08_Normal at u
 refine sz 1 [] s d rfl rfl fun a s => ?_
 refine sz 1 [] s d rfl rfl fun a s => ?_
 refine wp_seq (sz 1 [] s d rfl rfl fun a s => ?_)
 obtain ⟨e539, h1541, u⟩ := bind_t u
 refine wp_join (fun a w => ∃ c540 p541 k542 Sv543, Sl 117 [(3, .slice p541 e539.length k542)] a ∧ Wd ⟨w0, S0, []⟩ Sv543 [.row p541 e539.length k542 c540 71 2] [RowA c540 e539] w) ?_ ?_
 ·refine wp_block ?_
  have d := d.nilRow Span 71
  refine wp_while (fun sv5 a w => ∃ c358 p359 k360 Sv361, Sl 117 [(0, .slice p2 l1.length k3), (3, .slice p359 sv5.1.length k360), (4, .int .i64 sv5.2)] a ∧ Wd ⟨w0, S0, []⟩ Sv361 [.row p359 sv5.1.length k360 c358 71 2] [SlA p2 l1.length k3 l1, RowA c358 sv5.1] w) (([] : List Span), 0) h1541 ⟨[], none, 0, S0, (s.wk rfl), (d.ft [0] [1, 0] (by decide) rfl rfl)⟩ ?_
  clear h1541
  repeat clear u
  rintro sv5 a w tv537 ⟨c358, p359, k360, Sv361, s, d⟩ u hd536
  delta ref08_Normal_l3 at u
  refine wp_seq (sz 4 [] s d rfl rfl fun a s => ?_)
  refine cd s u rfl (fun u => ?_) fun u => ?_
  ·refine wp_skip (then_normal (wp_seq (wp_join (fun a w => ∃ (sorted716 : (List Span)) (c712 p713 k714 Sv715 : _), ref08_Normal_j1 sv5 sorted716 = some tv537 ∧ Sl 117 [(0, .slice p2 l1.length k3), (3, .slice p713 sorted716.length k714), (4, .int .i64 sv5.2)] a ∧ Wd ⟨w0, S0, []⟩ Sv715 [.row p713 sorted716.length k714 c712 71 2] [SlA p2 l1.length k3 l1, RowA c712 sorted716] w) ?_ ?_)))
   ·refine wp_block (wp_seq (wp_seq ?_))
    obtain ⟨x721, h719, u⟩ := bind_t u
    obtain ⟨b727, o728, q725, c726, h729, h722, h723, h724, h720⟩ := d.elemV 0 rfl h719
    have hsv730 := s
    have hwv731 := d
    subst h729
    have s := hsv730
    have d := hwv731
    obtain ⟨_, _, rfl, rfl, rfl⟩ := h720
    have d := d.addE h724
    obtain ⟨x734, h732, u⟩ := bind_t u
    obtain ⟨q738, c739, h735, h736, h737, h733⟩ := d.elemK 1 rfl h732
    obtain ⟨_, _, rfl, rfl, rfl⟩ := h733
    have d := d.addE h737
    refine wp_only (fun a w => ∃ Sv740, Sl 117 [(0, .slice (some ⟨b727, o728, none⟩) l1.length k3), (3, .slice p359 sv5.1.length k360), (4, .int .i64 sv5.2), (25, .bool (decide (x734.To ≤ x721.From)))] a ∧ Wd ⟨w0, S0, []⟩ Sv740 [.row p359 sv5.1.length k360 c358 71 2] [SlA (some ⟨b727, o728, none⟩) l1.length k3 l1, RowA c358 sv5.1] w) ?_ ?_
    ·refine h_c [0] [0, 1] d rfl rfl (by kernel_rfl) rfl fun hC d => ?_
     refine gn 2 [0, 1] [] s hC rfl rfl rfl fun a s => ?_
     refine gv s 2 rfl rfl hC (fun w hC => y_indexAt Tryz.runUnderlying30 Tryz.sizeOf71 rfl rfl h722.1 h722.2 h723) fun a s => ?_
     refine gv s 3 rfl rfl hC (fun w hC => y_fieldAddr (o' := q725 + 0) Tryz.runUnderlying71 rfl Tryz.sizeOf3 rfl rfl rfl) fun a s => ?_
     refine gv s 4 rfl rfl hC (fun w hC => y_loadE1 (j := 0) (hC.ceAt 1 rfl) rfl Tryz.isAgg3 rfl) fun a s => ?_
     refine gn 2 [5, 6] [] s hC rfl rfl rfl fun a s => ?_
     refine gv s 7 rfl rfl hC (fun w hC => y_indexAt Tryz.runUnderlying30 Tryz.sizeOf71 rfl rfl h735.1 h735.2 h736) fun a s => ?_
     refine gv s 8 rfl rfl hC (fun w hC => y_fieldAddr (o' := q738 + 1) Tryz.runUnderlying71 rfl Tryz.sizeOf3 rfl rfl rfl) fun a s => ?_
     refine gv s 9 rfl rfl hC (fun w hC => y_loadE1 (j := 1) (hC.ceAt 0 rfl) rfl Tryz.isAgg3 rfl) fun a s => ?_
     refine gv s 10 rfl rfl hC (fun w hC => y_geq rfl rfl) fun a s => ?_
     refine h_done (by kernel_rfl) ?_
     exact ⟨Sv361, (s.wk rfl), (d.ft [0] [2, 3] (by decide) rfl rfl)⟩
    rintro a w ⟨Sv740, s, d⟩
    refine then_normal (cd s u rfl (fun u => ?_) fun u => ?_)
    ·exact wp_exit (then_exit (blk_exit (then_normal ⟨sv5.1, c358, p359, k360, Sv740, u, (s.wk rfl), (d.ft [0] [0, 1] (by decide) rfl rfl)⟩)))
    refine wp_skip (then_normal (sn 2 [] s d rfl rfl fun a s => ?_))
    obtain ⟨k744, h743, u⟩ := bind_t u
    refine sv s (y_assignI rfl h743) rfl fun a s => ?_
    refine nl (wp_seq ?_)
    obtain ⟨e829, h943, u⟩ := bind_t u
    refine wp_join (fun a w => ∃ Sv830, Sl 117 [(0, .slice (some ⟨b727, o728, none⟩) l1.length k3), (3, .slice p359 sv5.1.length k360), (4, .int .i64 sv5.2), (5, .int .i64 e829)] a ∧ Wd ⟨w0, S0, []⟩ Sv830 [.row p359 sv5.1.length k360 c358 71 2] [SlA (some ⟨b727, o728, none⟩) l1.length k3 l1, RowA c358 sv5.1] w) ?_ ?_
    ·refine wp_block (wp_while (fun sv745 a w => ∃ Sv799, Sl 117 [(0, .slice (some ⟨b727, o728, none⟩) l1.length k3), (3, .slice p359 sv5.1.length k360), (4, .int .i64 sv5.2), (5, .int .i64 sv745)] a ∧ Wd ⟨w0, S0, []⟩ Sv799 [.row p359 sv5.1.length k360 c358 71 2] [SlA (some ⟨b727, o728, none⟩) l1.length k3 l1, RowA c358 sv5.1] w) k744 h943 ⟨Sv740, (s.wk rfl), (d.ft [0] [0, 1] (by decide) rfl rfl)⟩ ?_)
     clear h943
     repeat clear u
     rintro sv745 a w tv827 ⟨Sv799, s, d⟩ u hd826
     delta ref08_Normal_l6 at u
     refine wp_seq (wp_seq ?_)
     obtain ⟨c852, hc852, u⟩ := bind_t u
     refine wp_only (fun a w => ∃ Sv853, Sl 117 [(0, .slice (some ⟨b727, o728, none⟩) l1.length k3), (3, .slice p359 sv5.1.length k360), (4, .int .i64 sv5.2), (5, .int .i64 sv745), (43, .bool c852)] a ∧ Wd ⟨w0, S0, []⟩ Sv853 [.row p359 sv5.1.length k360 c358 71 2] [SlA (some ⟨b727, o728, none⟩) l1.length k3 l1, RowA c358 sv5.1] w) ?_ ?_
     ·rcases Bool.eq_false_or_eq_true (decide (0 < sv745)) with h854 | h854
      ·have h855 := ite_t hc852 h854
       obtain ⟨x858, h856, h855⟩ := bind_t h855
       obtain ⟨b865, q862, c863, h866, h859, h860, h864, h857⟩ := d.elemRV (α := Span) 0 rfl 1 rfl h856
       have hsv867 := s
       have hwv868 := d
       subst h866
       have s := hsv867
       have d := hwv868
       obtain ⟨_, _, rfl, rfl, rfl⟩ := h857
       obtain ⟨x871, h869, h855⟩ := bind_t h855
       obtain ⟨q875, c876, h872, h873, h874, h870⟩ := d.elemK 0 rfl h869
       obtain ⟨_, _, rfl, rfl, rfl⟩ := h870
       have d := d.addE h874
       refine h_c [0] [0] d rfl rfl (by kernel_rfl) rfl fun hC d => ?_
       refine gn 3 [0, 1, 2] [] s hC rfl rfl rfl fun a s => ?_
       have s := s.fix 30 (.bool true) rfl (vb h854)
       refine gn 3 [3, 4, 5] [] s hC rfl rfl rfl fun a s => ?_
       refine gt s 6 rfl ⟨_, rfl, rfl⟩ rfl hC (fun w hC => y_indexAt Tryz.runUnderlying30 Tryz.sizeOf71 rfl rfl h859.1 h859.2 h860) fun a s => ?_
       refine gt s 7 rfl ⟨_, rfl, rfl⟩ rfl hC (fun w hC => y_fieldAddr (o' := q862 + 0) Tryz.runUnderlying71 rfl Tryz.sizeOf3 rfl rfl rfl) fun a s => ?_
       refine gt s 8 rfl ⟨_, rfl, rfl⟩ rfl hC (fun w hC => y_loadQ1 (j := 0) (hC.ownAt 0 rfl) rfl Tryz.isAgg3 h864 rfl) fun a s => ?_
       refine gn 2 [9, 10] [] s hC rfl rfl rfl fun a s => ?_
       refine gt s 11 rfl ⟨_, rfl, rfl⟩ rfl hC (fun w hC => y_indexAt Tryz.runUnderlying30 Tryz.sizeOf71 rfl rfl h872.1 h872.2 h873) fun a s => ?_
       refine gt s 12 rfl ⟨_, rfl, rfl⟩ rfl hC (fun w hC => y_fieldAddr (o' := q875 + 0) Tryz.runUnderlying71 rfl Tryz.sizeOf3 rfl rfl rfl) fun a s => ?_
       refine gt s 13 rfl ⟨_, rfl, rfl⟩ rfl hC (fun w hC => y_loadE1 (j := 0) (hC.ceAt 0 rfl) rfl Tryz.isAgg3 rfl) fun a s => ?_
       refine gt s 14 rfl ⟨_, rfl, rfl⟩ rfl hC (fun w hC => y_gtr rfl rfl) fun a s => ?_
       refine gv s 15 rfl rfl hC (fun w hC => y_pickTE (v := .bool c852) rfl rfl (vbs h855)) fun a s => ?_
       refine h_done (by kernel_rfl) ?_
       exact ⟨Sv799, (s.wk rfl), (d.ft [0] [1, 2] (by decide) rfl rfl)⟩
      have h877 := ite_f hc852 h854
      refine h_c [0] [] d rfl rfl (by kernel_rfl) rfl fun hC d => ?_
      refine gn 3 [0, 1, 2] [] s hC rfl rfl rfl fun a s => ?_
      have s := s.fix 30 (.bool false) rfl (vb h854)
      refine gn 12 [3, 4, 5, 6, 7, 8, 9, 10, 11, 12, 13, 14] [] s hC rfl rfl rfl fun a s => ?_
      refine gv s 15 rfl rfl hC (fun w hC => y_pickFE (v := .bool c852) rfl rfl (vbs h877)) fun a s => ?_
      refine h_done (by kernel_rfl) ?_
      exact ⟨Sv799, (s.wk rfl), (d.ft [0] [0, 1] (by decide) rfl rfl)⟩
     rintro a w ⟨Sv853, s, d⟩
     refine then_normal (cd s u rfl (fun u => ?_) fun u => ?_)
     ·refine wp_skip (then_normal (wp_block (wp_region_lit (rn 2 [] s d rfl rfl fun a s => ?_))))
      obtain ⟨k883, h882, u⟩ := bind_t u
      refine sv s (y_assignI rfl h882) rfl fun a s => ?_
      refine wpList_nil ?_
      exact blk_normal (then_normal ⟨_, (Option.some.inj u).symm, Sv853, (s.wk rfl), (d.ft [0] [0, 1] (by decide) rfl rfl)⟩)
     refine wp_exit (then_exit (then_exit (blk_exit ?_)))
     have u := oi u
     subst u
     have h884 := hd826 _ rfl
     subst h884
     exact then_normal ⟨Sv853, (s.wk rfl), (d.ft [0] [0, 1] (by decide) rfl rfl)⟩
    rintro a w ⟨Sv830, s, d⟩
    refine then_normal (sn 3 [] s d rfl rfl fun a s => ?_)
    obtain ⟨x887, h885, u⟩ := bind_t u
    obtain ⟨q891, c892, h888, h889, h890, h886⟩ := d.elemK 0 rfl h885
    obtain ⟨_, _, rfl, rfl, rfl⟩ := h886
    have d := d.addE h890
    refine sv s (y_indexAt Tryz.runUnderlying30 Tryz.sizeOf71 rfl rfl h888.1 h888.2 h889) rfl fun a s => ?_
    refine sv s (y_loadEA (j := 0) (d.ceAt 0 rfl) rfl Tryz.isAgg71 Tryz.sizeOf71 rfl rfl) rfl fun a s => ?_
    refine w_litSlice (α := Span) (vs := [V71 x887]) (cs := (C71 x887)) (xs := ([x887] : List Span)) s d El30 rfl rfl rfl rfl rfl rfl ⟨⟨_, _, rfl, rfl, rfl⟩, rfl⟩ rfl trivial rfl fun b894 a w s d => ?_
    obtain ⟨l896, h895, u⟩ := bind_t u
    refine w_appendR (α := Span) s d El30 1 rfl rfl rfl 3 rfl 0 rfl 0 rfl h895 rfl trivial ?_
    intro p897 k898 c899 a w s d
    refine rz 1 [] s d rfl rfl fun a s => ?_
    refine wp_seq ?_
    obtain ⟨l904, h900, u⟩ := bind_t u
    obtain ⟨p902, k903, h901⟩ := row_sub (α := Span) d 1 rfl h900
    obtain ⟨l909, h905, u⟩ := bind_t u
    obtain ⟨p907, k908, h906⟩ := row_sub (α := Span) d 1 rfl h905
    obtain ⟨l910, h911, u⟩ := bind_t u
    refine wp_only (fun a w => ∃ Sv914 c912, Sl 117 [(0, .slice (some ⟨b727, o728, none⟩) l1.length k3), (3, .slice p897 l910.length k898), (4, .int .i64 sv5.2), (5, .int .i64 e829)] a ∧ Wd ⟨w0, S0, []⟩ Sv914 [.row p897 l910.length k898 c912 71 2] [SlA (some ⟨b727, o728, none⟩) l1.length k3 l1, RowA c912 l910] w) ?_ ?_
    ·refine h_c [0] [2] d rfl rfl (by kernel_rfl) rfl fun hC d => ?_
     refine gn 3 [0, 1, 2] [] s hC rfl rfl rfl fun a s => ?_
     refine gv s 3 rfl rfl hC (fun w hC => y_slc Tryz.runUnderlying30 Tryz.sizeOf71 rfl ⟨_, rfl⟩ (by exact rfl) h901) fun a s => ?_
     refine gn 2 [4, 5] [] s hC rfl rfl rfl fun a s => ?_
     refine gv s 6 rfl rfl hC (fun w hC => y_slc Tryz.runUnderlying30 Tryz.sizeOf71 rfl ⟨_, rfl⟩ (by exact rfl) h906) fun a s => ?_
     refine ho 7 rfl ?_
     obtain ⟨ds_, h917⟩ := src_vw (d.ownAt 1 rfl) (d.envAt 0 rfl) h905 h906
     refine w_copyC (α := Span) s d 1 rfl 0 rfl Tryz.runUnderlying30 Tryz.runUnderlying30 Tryz.sizeOf71 (by decide) h900 h901 rfl rfl rfl h917.1 h917.2.1 h917.2.2 rfl trivial ?_
     intro c912 a w s d
     rw [Option.some.inj h911] at d
     have h913 := (copy_lenS h900 h911)
     try have s := s.fl 3 rfl h913
     try have s := s.fl 53 rfl h913
     try have s := s.fl 57 rfl h913
     refine h_n [0] [3] d rfl rfl fun hC => ?_
     refine h_done (by kernel_rfl) ?_
     exact ⟨Sv830, c912, (s.wk rfl), (d.ft [1] [4, 0] (by decide) rfl rfl)⟩
    rintro a w ⟨Sv914, c912, s, d⟩
    refine then_normal (wp_region_lit (rn 4 [] s d rfl rfl fun a s => ?_))
    obtain ⟨x920, h918, u⟩ := bind_t u
    obtain ⟨q924, c925, h921, h922, h923, h919⟩ := d.elemK 0 rfl h918
    obtain ⟨_, _, rfl, rfl, rfl⟩ := h919
    have d := d.addE h923
    refine sv s (y_indexAt Tryz.runUnderlying30 Tryz.sizeOf71 rfl rfl h921.1 h921.2 h922) rfl fun a s => ?_
    refine sv s (y_loadEA (j := 0) (d.ceAt 0 rfl) rfl Tryz.isAgg71 Tryz.sizeOf71 rfl rfl) rfl fun a s => ?_
    obtain ⟨x928, h926, u⟩ := bind_t u
    obtain ⟨b935, q932, c933, h936, h929, h930, h934, h927⟩ := d.elemRV (α := Span) 0 rfl 2 rfl h926
    have hsv937 := s
    have hwv938 := d
    subst h936
    have s := hsv937
    have d := hwv938
    obtain ⟨_, _, rfl, rfl, rfl⟩ := h927
    refine sv s (y_indexAt Tryz.runUnderlying30 Tryz.sizeOf71 rfl rfl h929.1 h929.2 h930) rfl fun a s => ?_
    obtain ⟨l940, h939, u⟩ := bind_t u
    refine w_storeF (α := Span) s d 0 rfl 2 rfl h930 rfl rfl Tryz.sizeOf71 rfl h939 ⟨_, _, rfl, rfl, rfl⟩ trivial ?_
    intro c941 a w s d
    have h942 := setM_len h939
    try have s := s.fl 3 rfl h942
    try have s := s.fl 61 rfl h942
    refine wpList_nil ?_
    exact blk_normal (then_normal ⟨l940, c941, (some ⟨b935, 0, none⟩), k898, Sv914, u, (s.wk rfl), (d.ft [0] [2, 0] (by decide) rfl rfl)⟩)
   rintro a w ⟨sorted716, c712, p713, k714, Sv715, u, s, d⟩
   delta ref08_Normal_j1 at u
   refine then_normal (wp_region_lit (rn 2 [] s d rfl rfl fun a s => ?_))
   obtain ⟨i718, h717, u⟩ := bind_t u
   refine sv s (y_assignI rfl h717) rfl fun a s => ?_
   exact nl ⟨_, (Option.some.inj u).symm, c712, p713, k714, Sv715, (s.wk rfl), (d.ft [0] [0, 1] (by decide) rfl rfl)⟩
  refine wp_exit (then_exit (then_exit (blk_exit ?_)))
  have u := oi u
  subst u
  have h944 := hd536 _ rfl
  subst h944
  exact then_normal ⟨c358, p359, k360, Sv361, (s.wk rfl), (d.ft [0] [1] (by decide) rfl rfl)⟩
 rintro a w ⟨c540, p541, k542, Sv543, s, d⟩
 refine then_normal (sz 1 [] s d rfl rfl fun a s => ?_)
 refine wp_seq (sz 1 [] s d rfl rfl fun a s => ?_)
 obtain ⟨e1248, h1540, u⟩ := bind_t u
 refine wp_join (fun a w => ∃ c1249 p1250 k1251 Sv1252, Sl 117 [(6, .slice p1250 e1248.length k1251)] a ∧ Wd ⟨w0, S0, []⟩ Sv1252 [.row p1250 e1248.length k1251 c1249 71 2] [RowA c1249 e1248] w) ?_ ?_
 ·refine wp_block ?_
  have d := d.nilRow Span 71
  refine wp_while (fun sv945 a w => ∃ c1142 p1143 k1144 Sv1145, Sl 117 [(3, .slice p541 e539.length k542), (6, .slice p1143 sv945.1.length k1144), (7, .int .i64 sv945.2)] a ∧ Wd ⟨w0, S0, []⟩ Sv1145 [.row p541 e539.length k542 c540 71 2, .row p1143 sv945.1.length k1144 c1142 71 2] [RowA c540 e539, RowA c1142 sv945.1] w) (([] : List Span), 0) h1540 ⟨[], none, 0, Sv543, (s.wk rfl), (d.ft [1, 0] [1, 0] (by decide) rfl rfl)⟩ ?_
  clear h1540
  repeat clear u
  rintro sv945 a w tv1246 ⟨c1142, p1143, k1144, Sv1145, s, d⟩ u hd1245
  delta ref08_Normal_l7 at u
  refine wp_seq (sz 4 [] s d rfl rfl fun a s => ?_)
  refine cd s u rfl (fun u => ?_) fun u => ?_
  ·refine wp_skip (then_normal (wp_seq (wp_block (sn 2 [] s d rfl rfl fun a s => ?_))))
   obtain ⟨n1352, h1351, u⟩ := bind_t u
   refine sv s (y_assignI rfl h1351) rfl fun a s => ?_
   refine nl (wp_seq ?_)
   obtain ⟨c1379, hc1379, u⟩ := bind_t u
   refine wp_only (fun a w => ∃ Sv1380, Sl 117 [(3, .slice p541 e539.length k542), (6, .slice p1143 sv945.1.length k1144), (7, .int .i64 sv945.2), (8, .int .i64 n1352), (91, .bool c1379)] a ∧ Wd ⟨w0, S0, []⟩ Sv1380 [.row p541 e539.length k542 c540 71 2, .row p1143 sv945.1.length k1144 c1142 71 2] [RowA c540 e539, RowA c1142 sv945.1] w) ?_ ?_
   ·rcases Bool.eq_false_or_eq_true (decide (0 < n1352)) with h1381 | h1381
    ·have h1382 := ite_t hc1379 h1381
     obtain ⟨x1385, h1383, h1382⟩ := bind_t h1382
     obtain ⟨b1392, q1389, c1390, h1393, h1386, h1387, h1391, h1384⟩ := d.elemRV (α := Span) 0 rfl 0 rfl h1383
     have hsv1394 := s
     have hwv1395 := d
     subst h1393
     have s := hsv1394
     have d := hwv1395
     obtain ⟨_, _, rfl, rfl, rfl⟩ := h1384
     obtain ⟨x1398, h1396, h1382⟩ := bind_t h1382
     obtain ⟨b1405, q1402, c1403, h1406, h1399, h1400, h1404, h1397⟩ := d.elemRV (α := Span) 1 rfl 1 rfl h1396
     have hsv1407 := s
     have hwv1408 := d
     subst h1406
     have s := hsv1407
     have d := hwv1408
     obtain ⟨_, _, rfl, rfl, rfl⟩ := h1397
     refine h_c [0, 1] [] d rfl rfl (by kernel_rfl) rfl fun hC d => ?_
     refine gn 3 [0, 1, 2] [] s hC rfl rfl rfl fun a s => ?_
     have s := s.fix 78 (.bool true) rfl (vb h1381)
     refine gn 2 [3, 4] [] s hC rfl rfl rfl fun a s => ?_
     refine gt s 5 rfl ⟨_, rfl, rfl⟩ rfl hC (fun w hC => y_indexAt Tryz.runUnderlying30 Tryz.sizeOf71 rfl rfl h1386.1 h1386.2 h1387) fun a s => ?_
     refine gt s 6 rfl ⟨_, rfl, rfl⟩ rfl hC (fun w hC => y_fieldAddr (o' := q1389 + 0) Tryz.runUnderlying71 rfl Tryz.sizeOf3 rfl rfl rfl) fun a s => ?_
     refine gt s 7 rfl ⟨_, rfl, rfl⟩ rfl hC (fun w hC => y_loadQ1 (j := 0) (hC.ownAt 0 rfl) rfl Tryz.isAgg3 h1391 rfl) fun a s => ?_
     refine gn 3 [8, 9, 10] [] s hC rfl rfl rfl fun a s => ?_
     refine gt s 11 rfl ⟨_, rfl, rfl⟩ rfl hC (fun w hC => y_indexAt Tryz.runUnderlying30 Tryz.sizeOf71 rfl rfl h1399.1 h1399.2 h1400) fun a s => ?_
     refine gt s 12 rfl ⟨_, rfl, rfl⟩ rfl hC (fun w hC => y_fieldAddr (o' := q1402 + 1) Tryz.runUnderlying71 rfl Tryz.sizeOf3 rfl rfl rfl) fun a s => ?_
     refine gt s 13 rfl ⟨_, rfl, rfl⟩ rfl hC (fun w hC => y_loadQ1 (j := 1) (hC.ownAt 1 rfl) rfl Tryz.isAgg3 h1404 rfl) fun a s => ?_
     refine gt s 14 rfl ⟨_, rfl, rfl⟩ rfl hC (fun w hC => y_leq rfl rfl) fun a s => ?_
     refine gv s 15 rfl rfl hC (fun w hC => y_pickTE (v := .bool c1379) rfl rfl (vbs h1382)) fun a s => ?_
     refine h_done (by kernel_rfl) ?_
     exact ⟨Sv1145, (s.wk rfl), (d.ft [0, 1] [0, 1] (by decide) rfl rfl)⟩
    have h1409 := ite_f hc1379 h1381
    refine h_c [0, 1] [] d rfl rfl (by kernel_rfl) rfl fun hC d => ?_
    refine gn 3 [0, 1, 2] [] s hC rfl rfl rfl fun a s => ?_
    have s := s.fix 78 (.bool false) rfl (vb h1381)
    refine gn 12 [3, 4, 5, 6, 7, 8, 9, 10, 11, 12, 13, 14] [] s hC rfl rfl rfl fun a s => ?_
    refine gv s 15 rfl rfl hC (fun w hC => y_pickFE (v := .bool c1379) rfl rfl (vbs h1409)) fun a s => ?_
    refine h_done (by kernel_rfl) ?_
    exact ⟨Sv1145, (s.wk rfl), (d.ft [0, 1] [0, 1] (by decide) rfl rfl)⟩
   rintro a w ⟨Sv1380, s, d⟩
   refine then_normal (wp_join (fun a w => ∃ (out1475 : (List Span)) (c1471 p1472 k1473 Sv1474 : _), ref08_Normal_j4 sv945 out1475 = some tv1246 ∧ Sl 117 [(3, .slice p541 e539.length k542), (6, .slice p1472 out1475.length k1473), (7, .int .i64 sv945.2)] a ∧ Wd ⟨w0, S0, []⟩ Sv1474 [.row p541 e539.length k542 c540 71 2, .row p1472 out1475.length k1473 c1471 71 2] [RowA c540 e539, RowA c1471 out1475] w) ?_ ?_)
   ·refine cd s u rfl (fun u => ?_) fun u => ?_
    ·obtain ⟨x1481, h1479, u⟩ := bind_t u
     obtain ⟨b1488, q1485, c1486, h1489, h1482, h1483, h1487, h1480⟩ := d.elemRV (α := Span) 1 rfl 1 rfl h1479
     have hsv1490 := s
     have hwv1491 := d
     subst h1489
     have s := hsv1490
     have d := hwv1491
     obtain ⟨_, _, rfl, rfl, rfl⟩ := h1480
     obtain ⟨x1494, h1492, u⟩ := bind_t u
     obtain ⟨b1501, q1498, c1499, h1502, h1495, h1496, h1500, h1493⟩ := d.elemRV (α := Span) 0 rfl 0 rfl h1492
     have hsv1503 := s
     have hwv1504 := d
     subst h1502
     have s := hsv1503
     have d := hwv1504
     obtain ⟨_, _, rfl, rfl, rfl⟩ := h1493
     obtain ⟨x1507, h1505, u⟩ := bind_t u
     obtain ⟨q1511, c1512, h1508, h1509, h1513, h1506⟩ := d.elemRK (α := Span) 1 rfl 1 rfl h1505
     obtain ⟨_, _, rfl, rfl, rfl⟩ := h1506
     obtain ⟨l1515, h1514, u⟩ := bind_t u
     refine wp_only (fun a w => ∃ Sv1518 c1516, Sl 117 [(3, .slice (some ⟨b1501, 0, none⟩) e539.length k542), (6, .slice (some ⟨b1488, 0, none⟩) l1515.length k1144), (7, .int .i64 sv945.2)] a ∧ Wd ⟨w0, S0, []⟩ Sv1518 [.row (some ⟨b1501, 0, none⟩) e539.length k542 c540 71 2, .row (some ⟨b1488, 0, none⟩) l1515.length k1144 c1516 71 2] [RowA c540 e539, RowA c1516 l1515] w) ?_ ?_
     ·refine h_c [0] [] d rfl rfl (by kernel_rfl) rfl fun hC d => ?_
      refine gn 6 [0, 1, 2, 3, 4, 5] [] s hC rfl rfl rfl fun a s => ?_
      refine gv s 6 rfl rfl hC (fun w hC => y_indexAt Tryz.runUnderlying30 Tryz.sizeOf71 rfl rfl h1482.1 h1482.2 h1483) fun a s => ?_
      refine gn 3 [7, 9, 10] [] s hC rfl rfl rfl fun a s => ?_
      refine gv s 11 rfl rfl hC (fun w hC => y_indexAt Tryz.runUnderlying30 Tryz.sizeOf71 rfl rfl h1495.1 h1495.2 h1496) fun a s => ?_
      refine gv s 12 rfl rfl hC (fun w hC => y_fieldAddr (o' := q1498 + 1) Tryz.runUnderlying71 rfl Tryz.sizeOf3 rfl rfl rfl) fun a s => ?_
      refine gv s 13 rfl rfl hC (fun w hC => y_loadQ1 (j := 1) (hC.ownAt 0 rfl) rfl Tryz.isAgg3 h1500 rfl) fun a s => ?_
      refine ho 8 rfl ?_
      refine sv s (y_loadQ1 (j := 1) (d.ownAt 1 rfl) rfl Tryz.isAgg3 h1487 rfl) rfl fun a s => ?_
      refine h_n [0] [] d rfl rfl fun hC => ?_
      refine gv s 14 rfl rfl hC (fun w hC => y_max rfl rfl) fun a s => ?_
      refine gv s 15 rfl rfl hC (fun w hC => y_indexAt Tryz.runUnderlying30 Tryz.sizeOf71 rfl rfl h1508.1 h1508.2 h1509) fun a s => ?_
      refine gv s 16 rfl rfl hC (fun w hC => y_fieldAddr (o' := q1511 + 1) Tryz.runUnderlying71 rfl Tryz.sizeOf3 rfl rfl rfl) fun a s => ?_
      refine ho 17 rfl ?_
      refine w_storeR (α := Span) (f := 1) (m := 1) s d 1 rfl 1 rfl h1509 rfl rfl Tryz.sizeOf3 rfl rfl rfl h1514 (fun es he => by rw [h1513] at he; subst he; exact ⟨_, _, rfl, rfl, rfl⟩) trivial ?_
      intro c1516 a w s d
      have h1517 := setM_len h1514
      try have s := s.fl 6 rfl h1517
      try have s := s.fl 92 rfl h1517
      try have s := s.fl 95 rfl h1517
      refine h_n [0] [] d rfl rfl fun hC => ?_
      refine h_done (by kernel_rfl) ?_
      exact ⟨Sv1380, c1516, (s.wk rfl), (d.ft [0, 1] [1, 0] (by decide) rfl rfl)⟩
     rintro a w ⟨Sv1518, c1516, s, d⟩
     exact then_normal ⟨l1515, c1516, (some ⟨b1488, 0, none⟩), k1144, Sv1518, u, (s.wk rfl), (d.ft [0, 1] [0, 1] (by decide) rfl rfl)⟩
    refine wp_region_lit (rn 3 [] s d rfl rfl fun a s => ?_)
    obtain ⟨x1521, h1519, u⟩ := bind_t u
    obtain ⟨b1528, q1525, c1526, h1529, h1522, h1523, h1527, h1520⟩ := d.elemRV (α := Span) 0 rfl 0 rfl h1519
    have hsv1530 := s
    have hwv1531 := d
    subst h1529
    have s := hsv1530
    have d := hwv1531
    obtain ⟨_, _, rfl, rfl, rfl⟩ := h1520
    refine sv s (y_indexAt Tryz.runUnderlying30 Tryz.sizeOf71 rfl rfl h1522.1 h1522.2 h1523) rfl fun a s => ?_
    refine sv s (y_loadQA (j := 0) (d.ownAt 0 rfl) rfl Tryz.isAgg71 Tryz.sizeOf71 h1527 rfl rfl) rfl fun a s => ?_
    refine w_litSlice (α := Span) (vs := [V71 x1521]) (cs := (C71 x1521)) (xs := ([x1521] : List Span)) s d El30 rfl rfl rfl rfl rfl rfl ⟨⟨_, _, rfl, rfl, rfl⟩, rfl⟩ rfl trivial rfl fun b1533 a w s d => ?_
    obtain ⟨l1535, h1534, u⟩ := bind_t u
    refine w_appendR (α := Span) s d El30 2 rfl rfl rfl 2 rfl 0 rfl 0 rfl h1534 rfl trivial ?_
    intro p1536 k1537 c1538 a w s d
    refine rz 1 [] s d rfl rfl fun a s => ?_
    exact ⟨l1535, c1538, p1536, k1537, Sv1380, u, (s.wk rfl), (d.ft [1, 2] [2, 0] (by decide) rfl rfl)⟩
   rintro a w ⟨out1475, c1471, p1472, k1473, Sv1474, u, s, d⟩
   delta ref08_Normal_j4 at u
   refine blk_normal (then_normal (wp_region_lit (rn 2 [] s d rfl rfl fun a s => ?_)))
   obtain ⟨i1477, h1476, u⟩ := bind_t u
   refine sv s (y_assignI rfl h1476) rfl fun a s => ?_
   exact nl ⟨_, (Option.some.inj u).symm, c1471, p1472, k1473, Sv1474, (s.wk rfl), (d.ft [0, 1] [0, 1] (by decide) rfl rfl)⟩
  refine wp_exit (then_exit (then_exit (blk_exit ?_)))
  have u := oi u
  subst u
  have h1539 := hd1245 _ rfl
  subst h1539
  exact then_normal ⟨c1142, p1143, k1144, Sv1145, (s.wk rfl), (d.ft [1] [1] (by decide) rfl rfl)⟩
 rintro a w ⟨c1249, p1250, k1251, Sv1252, s, d⟩
 refine then_normal (sz 2 [] s d rfl rfl fun a s => ?_)
 have u := oi u
 subst u
 exact wp_ret (ret1 s rfl (rv_tmp rfl) (d.ret ⟨p1250, k1251, c1249, rfl, (d.outs [0] (by decide) rfl), (d.envAt 0 rfl)⟩))
theorem ref08_Union_ok {w0 S0 p2 k3 p6 k7 a1 b5 r} (u : ref08_Union a1 b5 = some r) (hS : Dm S0 w0) (h4 : (SlA p2 a1.length k3 a1).p S0 w0) (h8 : (SlA p6 b5.length k7 b5).p S0 w0) : Calls Tryz.prog 17 #[.slice p2 a1.length k3, .slice p6 b5.length k7] w0 (Ret ([]) w0 S0 (slices_Clone_Lapi_Span_api_Span_rd w0 ([]) r)) := by
 refine en 10 Tryz.func17 rfl hS rfl rfl rfl fun a s d => ?_
 have d := (d.addE h4).addE h8
 delta ref08_Union at u
 refine sz 1 [] s d rfl rfl fun a s => ?_
 refine sn 1 [] s d rfl rfl fun a s => ?_
 obtain ⟨l10, h9, u⟩ := bind_t u
 have d := d.nilRow Span 71
 refine w_appendE (α := Span) s d El30 0 rfl rfl rfl 0 rfl 2 rfl h9 rfl trivial ?_
 intro p11 k12 c13 a w s d
 refine mv s rfl rfl fun a s => ?_
 obtain ⟨l15, h14, u⟩ := bind_t u
 refine w_appendE (α := Span) s d El30 0 rfl rfl rfl 0 rfl 2 rfl h14 rfl trivial ?_
 intro p16 k17 c18 a w s d
 obtain ⟨rv20, h19, u⟩ := bind_t u
 obtain ⟨Sv25, d⟩ := w_share (α := Span) d 0 rfl 0 rfl
 refine st_callR s (ref08_Normal_ok h19 d.dom (d.envAt 0 rfl)) (do_call Tryz.call55 rfl) trivial rfl rfl ?_
 rintro v29 Sv26 w a h27 ⟨p21, k22, c24, rfl, h30, h23⟩ s
 have d := (d.callN h27 h30).addE (e := RowA c24 rv20) h23
 refine rz 1 [] s d rfl rfl fun a s => ?_
 have u := oi u
 subst u
 exact wp_ret (ret1 s rfl (rv_tmp rfl) (d.ret ⟨p21, k22, c24, rfl, (d.outs [0] (by decide) rfl), (d.envAt 0 rfl)⟩))
theorem ref08_Has_ok {w0 S0 p2 k3 l1 x5 r} (u : ref08_Has l1 x5 = some r) (hS : Dm S0 w0) (h4 : (SlA p2 l1.length k3 l1).p S0 w0) : Calls Tryz.prog 18 #[.slice p2 l1.length k3, .int .i64 x5] w0 (Ret ([]) w0 S0 (made_Light_rd w0 ([]) r)) := by
 refine en 28 Tryz.func18 rfl hS rfl rfl rfl fun a s d => ?_
 have d := d.addE h4
 delta ref08_Has at u
 refine sz 1 [] s d rfl rfl fun a s => ?_
 refine wp_seq (sz 1 [] s d rfl rfl fun a s => ?_)
 refine wp_block (wp_while (fun sv119 a w => ∃ Sv193, Sl 28 [(0, .slice p2 l1.length k3), (1, .int .i64 x5), (5, .int .i64 sv119)] a ∧ Wd ⟨w0, S0, []⟩ Sv193 [] [SlA p2 l1.length k3 l1] w) 0 u ⟨S0, (s.wk rfl), (d.ft [] [0] (by decide) rfl rfl)⟩ ?_)
 repeat clear u
 rintro sv119 a w tv231 ⟨Sv193, s, d⟩ u hd230
 delta ref08_Has_l2 at u
 refine wp_seq (sz 4 [] s d rfl rfl fun a s => ?_)
 refine cd s u rfl (fun u => ?_) fun u => ?_
 ·refine wp_skip (then_normal (wp_seq (wp_block (sn 2 [] s d rfl rfl fun a s => ?_))))
  obtain ⟨x271, h269, u⟩ := bind_t u
  obtain ⟨b277, o278, q275, c276, h279, h272, h273, h274, h270⟩ := d.elemV 0 rfl h269
  have hsv280 := s
  have hwv281 := d
  subst h279
  have s := hsv280
  have d := hwv281
  obtain ⟨_, _, rfl, rfl, rfl⟩ := h270
  have d := d.addE h274
  refine sv s (y_indexAt Tryz.runUnderlying30 Tryz.sizeOf71 rfl rfl h272.1 h272.2 h273) rfl fun a s => ?_
  refine sv s (y_fieldAddr (o' := q275 + 0) Tryz.runUnderlying71 rfl Tryz.sizeOf3 rfl rfl rfl) rfl fun a s => ?_
  refine sv s (y_loadE1 (j := 0) (d.ceAt 0 rfl) rfl Tryz.isAgg3 rfl) rfl fun a s => ?_
  refine rn 3 [] s d rfl rfl fun a s => ?_
  obtain ⟨c291, hc291, u⟩ := bind_t u
  refine wpl_join 8 (fun a w => ∃ Sv292, Sl 28 [(0, .slice (some ⟨b277, o278, none⟩) l1.length k3), (1, .int .i64 x5), (5, .int .i64 sv119), (27, .bool c291)] a ∧ Wd ⟨w0, S0, []⟩ Sv292 [] [SlA (some ⟨b277, o278, none⟩) l1.length k3 l1] w) ?_ ?_
  ·rcases Bool.eq_false_or_eq_true (decide (x271.From ≤ x5)) with h290 | h290
   ·have s := s.fix 19 (.bool true) rfl (vb h290)
    have u := ite_t hc291 h290
    refine rn 3 [] s d rfl rfl fun a s => ?_
    obtain ⟨x295, h293, u⟩ := bind_t u
    obtain ⟨q299, c300, h296, h297, h298, h294⟩ := d.elemK 1 rfl h293
    obtain ⟨_, _, rfl, rfl, rfl⟩ := h294
    have d := d.addE h298
    refine st_val s (y_indexAt Tryz.runUnderlying30 Tryz.sizeOf71 rfl rfl h296.1 h296.2 h297) ⟨_, rfl, rfl⟩ rfl rfl fun a s => ?_
    refine st_val s (y_fieldAddr (o' := q299 + 1) Tryz.runUnderlying71 rfl Tryz.sizeOf3 rfl rfl rfl) ⟨_, rfl, rfl⟩ rfl rfl fun a s => ?_
    refine st_val s (y_loadE1 (j := 1) (d.ceAt 0 rfl) rfl Tryz.isAgg3 rfl) ⟨_, rfl, rfl⟩ rfl rfl fun a s => ?_
    refine rn 2 [] s d rfl rfl fun a s => ?_
    refine wpList_nil ?_
    have u := oi u
    subst u
    exact then_normal ⟨Sv193, (s.wk rfl), (d.ft [] [2] (by decide) rfl rfl)⟩
   have s := s.fix 19 (.bool false) rfl (vb h290)
   have u := ite_f hc291 h290
   refine rn 8 [] s d rfl rfl fun a s => ?_
   refine wpList_nil ?_
   have u := oi u
   subst u
   exact then_normal ⟨Sv193, (s.wk rfl), (d.ft [] [1] (by decide) rfl rfl)⟩
  rintro a w ⟨Sv292, s, d⟩
  refine nl (cd s u rfl (fun u => ?_) fun u => ?_)
  ·refine sz 1 [] s d rfl rfl fun a s => ?_
   have u := oi u
   subst u
   have h303 := hd230 _ rfl
   subst h303
   exact wp_ret (blk_ret (then_ret (then_ret (blk_ret (then_ret (ret1 s rfl (rv_tmp rfl) (d.ret rfl)))))))
  refine wp_skip (blk_normal (then_normal (wp_region_lit (rn 2 [] s d rfl rfl fun a s => ?_))))
  obtain ⟨i305, h304, u⟩ := bind_t u
  refine sv s (y_assignI rfl h304) rfl fun a s => ?_
  exact nl ⟨_, (Option.some.inj u).symm, Sv292, (s.wk rfl), (d.ft [] [0] (by decide) rfl rfl)⟩
 obtain ⟨rv306, u, h307⟩ := map_t u
 have h307 := (hd230 _ h307.symm).symm
 subst h307
 refine wp_exit (then_exit (then_exit (blk_exit (then_normal (sz 1 [] s d rfl rfl fun a s => ?_)))))
 have u := oi u
 subst u
 exact wp_ret (ret1 s rfl (rv_tmp rfl) (d.ret rfl))
theorem ref03_code_ok {w0 S0 s1 lo2 hi3 r} (u : ref03_code s1 lo2 hi3 = some r) (hS : Dm S0 w0) : Calls Tryz.prog 137 #[.string s1, .int .i64 lo2, .int .i64 hi3] w0 (Ret ([]) w0 S0 (made_Light_rd w0 ([]) r)) := by
 refine en 47 Tryz.func137 rfl hS rfl rfl rfl fun a s d => ?_
 delta ref03_code at u
 refine sz 1 [] s d rfl rfl fun a s => ?_
 refine wp_seq (sz 1 [] s d rfl rfl fun a s => ?_)
 refine wp_block (wp_while (fun sv111 a w => ∃ Sv181, Sl 47 [(0, .string s1), (1, .int .i64 lo2), (2, .int .i64 hi3), (7, .int .i64 sv111)] a ∧ Wd ⟨w0, S0, []⟩ Sv181 [] [] w) 0 u ⟨S0, (s.wk rfl), (d.ft [] [] (by decide) rfl rfl)⟩ ?_)
 repeat clear u
 rintro sv111 a w tv217 ⟨Sv181, s, d⟩ u hd216
 delta ref03_code_l2 at u
 refine wp_seq (sz 4 [] s d rfl rfl fun a s => ?_)
 refine cd s u rfl (fun u => ?_) fun u => ?_
 ·refine wp_skip (then_normal (wp_seq (wp_block (sn 2 [] s d rfl rfl fun a s => ?_))))
  obtain ⟨c254, h253, u⟩ := bind_t u
  refine sv s (y_indexSM Tryz.runUnderlying9 rfl rfl h253) rfl fun a s => ?_
  refine sv s (y_geq (rfl) rfl) rfl fun a s => ?_
  refine mv s rfl rfl fun a s => ?_
  obtain ⟨c258, hc258, u⟩ := bind_t u
  refine wpl_join 5 (fun a w => ∃ Sv259, Sl 47 [(0, .string s1), (1, .int .i64 lo2), (2, .int .i64 hi3), (7, .int .i64 sv111), (23, .bool c258)] a ∧ Wd ⟨w0, S0, []⟩ Sv259 [] [] w) ?_ ?_
  ·rcases Bool.eq_false_or_eq_true (decide (65 ≤ c254)) with h257 | h257
   ·have s := s.fix 18 (.bool true) rfl (vb h257)
    have u := ite_t hc258 h257
    refine rn 2 [] s d rfl rfl fun a s => ?_
    obtain ⟨c261, h260, u⟩ := bind_t u
    refine st_val s (y_indexSM Tryz.runUnderlying9 rfl rfl h260) ⟨_, rfl, rfl⟩ rfl rfl fun a s => ?_
    refine st_val s (y_leq (rfl) rfl) ⟨_, rfl, rfl⟩ rfl rfl fun a s => ?_
    refine sv s (y_pickT rfl rfl) rfl fun a s => ?_
    refine wpList_nil ?_
    have u := oi u
    subst u
    exact then_normal ⟨Sv181, (s.wk rfl), (d.ft [] [] (by decide) rfl rfl)⟩
   have s := s.fix 18 (.bool false) rfl (vb h257)
   have u := ite_f hc258 h257
   refine rn 5 [] s d rfl rfl fun a s => ?_
   refine wpList_nil ?_
   have u := oi u
   subst u
   exact then_normal ⟨Sv181, (s.wk rfl), (d.ft [] [] (by decide) rfl rfl)⟩
  rintro a w ⟨Sv259, s, d⟩
  refine mv s rfl rfl fun a s => ?_
  obtain ⟨c272, hc272, u⟩ := bind_t u
  refine wpl_join 11 (fun a w => ∃ Sv273, Sl 47 [(0, .string s1), (1, .int .i64 lo2), (2, .int .i64 hi3), (7, .int .i64 sv111), (35, .bool c272)] a ∧ Wd ⟨w0, S0, []⟩ Sv273 [] [] w) ?_ ?_
  ·rcases Bool.eq_false_or_eq_true c258 with h271 | h271
   ·have s := s.fix 24 (.bool true) rfl (vb h271)
    have u := ite_t hc272 h271
    refine rn 11 [] s d rfl rfl fun a s => ?_
    refine wpList_nil ?_
    have u := oi u
    subst u
    exact then_normal ⟨Sv259, (s.wk rfl), (d.ft [] [] (by decide) rfl rfl)⟩
   have s := s.fix 24 (.bool false) rfl (vb h271)
   have u := ite_f hc272 h271
   refine rn 2 [] s d rfl rfl fun a s => ?_
   obtain ⟨c275, h274, u⟩ := bind_t u
   refine st_val s (y_indexSM Tryz.runUnderlying9 rfl rfl h274) ⟨_, rfl, rfl⟩ rfl rfl fun a s => ?_
   refine st_val s (y_geq (rfl) rfl) ⟨_, rfl, rfl⟩ rfl rfl fun a s => ?_
   refine st_val s (y_move rfl) ⟨_, rfl, rfl⟩ rfl rfl fun a s => ?_
   obtain ⟨c279, hc279, u⟩ := bind_t u
   refine wpl_join 5 (fun a w => ∃ Sv280, Sl 47 [(0, .string s1), (1, .int .i64 lo2), (2, .int .i64 hi3), (7, .int .i64 sv111), (24, .bool false), (34, .bool c279)] a ∧ Wd ⟨w0, S0, []⟩ Sv280 [] [] w) ?_ ?_
   ·rcases Bool.eq_false_or_eq_true (decide (48 ≤ c275)) with h278 | h278
    ·have s := s.fix 29 (.bool true) rfl (vb h278)
     have u := ite_t hc279 h278
     refine rn 2 [] s d rfl rfl fun a s => ?_
     obtain ⟨c282, h281, u⟩ := bind_t u
     refine st_val s (y_indexSM Tryz.runUnderlying9 rfl rfl h281) ⟨_, rfl, rfl⟩ rfl rfl fun a s => ?_
     refine st_val s (y_leq (rfl) rfl) ⟨_, rfl, rfl⟩ rfl rfl fun a s => ?_
     refine st_val s (y_pickT rfl rfl) ⟨_, rfl, rfl⟩ rfl rfl fun a s => ?_
     refine wpList_nil ?_
     have u := oi u
     subst u
     exact then_normal ⟨Sv259, (s.wk rfl), (d.ft [] [] (by decide) rfl rfl)⟩
    have s := s.fix 29 (.bool false) rfl (vb h278)
    have u := ite_f hc279 h278
    refine rn 5 [] s d rfl rfl fun a s => ?_
    refine wpList_nil ?_
    have u := oi u
    subst u
    exact then_normal ⟨Sv259, (s.wk rfl), (d.ft [] [] (by decide) rfl rfl)⟩
   rintro a w ⟨Sv280, s, d⟩
   refine sv s (y_pickF rfl rfl) rfl fun a s => ?_
   refine wpList_nil ?_
   have u := oi u
   subst u
   exact then_normal ⟨Sv280, (s.wk rfl), (d.ft [] [] (by decide) rfl rfl)⟩
  rintro a w ⟨Sv273, s, d⟩
  refine rz 1 [] s d rfl rfl fun a s => ?_
  refine cd s u rfl (fun u => ?_) fun u => ?_
  ·refine sz 1 [] s d rfl rfl fun a s => ?_
   have u := oi u
   subst u
   have h285 := hd216 _ rfl
   subst h285
   exact wp_ret (blk_ret (then_ret (then_ret (blk_ret (then_ret (ret1 s rfl (rv_tmp rfl) (d.ret rfl)))))))
  refine wp_skip (blk_normal (then_normal (wp_region_lit (rn 2 [] s d rfl rfl fun a s => ?_))))
  obtain ⟨i287, h286, u⟩ := bind_t u
  refine sv s (y_assignI rfl h286) rfl fun a s => ?_
  exact nl ⟨_, (Option.some.inj u).symm, Sv273, (s.wk rfl), (d.ft [] [] (by decide) rfl rfl)⟩
 obtain ⟨rv289, u, h290⟩ := map_t u
 have h290 := (hd216 _ h290.symm).symm
 subst h290
 refine wp_exit (then_exit (then_exit (blk_exit (then_normal (sn 5 [] s d rfl rfl fun a s => ?_)))))
 refine rA 5 41 [] s d rfl rfl rfl rfl rfl fun a s => ?_
 refine rz 1 [] s d rfl rfl fun a s => ?_
 have u := oi u
 subst u
 exact wp_ret (ret1 s rfl (rv_tmp rfl) (d.ret rfl))
theorem ref03_Valid_ok {w0 S0 s1 r} (u : ref03_Valid s1 = some r) (hS : Dm S0 w0) : Calls Tryz.prog 97 #[V52 s1] w0 (Ret ([]) w0 S0 (made_Light_rd w0 ([]) r)) := by
 refine en 26 Tryz.func97 rfl hS rfl rfl rfl fun a s d => ?_
 delta ref03_Valid at u
 refine sr (w_box (cs := (C52 s1)) s d rfl rfl rfl trivial ?_)
 intro b2 a w s d
 refine rz 1 [] s d rfl rfl fun a s => ?_
 refine sn 2 [0] s d rfl rfl fun a s => ?_
 obtain ⟨rv4, h3, u⟩ := bind_t u
 refine st_callR s (ref03_code_ok h3 d.bdom) (do_call Tryz.call137 rfl) trivial rfl rfl ?_
 rintro v8 Sv5 w a h6 rfl s
 have d := d.callB h6
 refine mv s rfl rfl fun a s => ?_
 obtain ⟨c18, hc18, u⟩ := bind_t u
 refine wpl_join 4 (fun a w => ∃ Sv19, Sl 26 [(1, .pointer (some ⟨b2, 0, none⟩)), (10, .bool c18)] a ∧ Wd ⟨w0, S0, []⟩ Sv19 [.box b2 (C52 s1) 52] [] w) ?_ ?_
 ·rcases Bool.eq_false_or_eq_true rv4 with h17 | h17
  ·have s := s.fix 6 (.bool true) rfl (vb h17)
   have u := ite_t hc18 h17
   refine rn 2 [0] s d rfl rfl fun a s => ?_
   obtain ⟨rv21, h20, u⟩ := bind_t u
   refine st_callR s (ref03_code_ok h20 d.bdom) (do_call Tryz.call137 rfl) ⟨_, rfl, rfl⟩ rfl rfl ?_
   rintro v25 Sv22 w a h23 rfl s
   have d := d.callB h23
   refine sv s (y_pickT rfl rfl) rfl fun a s => ?_
   refine wpList_nil ?_
   have u := oi u
   subst u
   exact then_normal ⟨S0, (s.wk rfl), (d.ft [0] [] (by decide) rfl rfl)⟩
  have s := s.fix 6 (.bool false) rfl (vb h17)
  have u := ite_f hc18 h17
  refine rn 4 [] s d rfl rfl fun a s => ?_
  refine wpList_nil ?_
  have u := oi u
  subst u
  exact then_normal ⟨S0, (s.wk rfl), (d.ft [0] [] (by decide) rfl rfl)⟩
 rintro a w ⟨Sv19, s, d⟩
 refine mv s rfl rfl fun a s => ?_
 obtain ⟨c45, hc45, u⟩ := bind_t u
 refine wpl_join 9 (fun a w => ∃ Sv46, Sl 26 [(1, .pointer (some ⟨b2, 0, none⟩)), (20, .bool c45)] a ∧ Wd ⟨w0, S0, []⟩ Sv46 [.box b2 (C52 s1) 52] [] w) ?_ ?_
 ·rcases Bool.eq_false_or_eq_true c18 with h44 | h44
  ·have s := s.fix 11 (.bool true) rfl (vb h44)
   have u := ite_t hc45 h44
   refine rn 2 [0] s d rfl rfl fun a s => ?_
   refine st_val s (y_eqlS rfl rfl) ⟨_, rfl, rfl⟩ rfl rfl fun a s => ?_
   refine st_val s (y_move rfl) ⟨_, rfl, rfl⟩ rfl rfl fun a s => ?_
   obtain ⟨c55, hc55, u⟩ := bind_t u
   refine wpl_join 4 (fun a w => ∃ Sv56, Sl 26 [(1, .pointer (some ⟨b2, 0, none⟩)), (11, .bool true), (19, .bool c55)] a ∧ Wd ⟨w0, S0, []⟩ Sv56 [.box b2 (C52 s1) 52] [] w) ?_ ?_
   ·rcases Bool.eq_false_or_eq_true (s1.Location.toList == (⟨#[]⟩ : ByteArray).toList) with h54 | h54
    ·have s := s.fix 15 (.bool true) rfl (vb h54)
     have u := ite_t hc55 h54
     refine rn 4 [] s d rfl rfl fun a s => ?_
     refine wpList_nil ?_
     have u := oi u
     subst u
     exact then_normal ⟨Sv19, (s.wk rfl), (d.ft [0] [] (by decide) rfl rfl)⟩
    have s := s.fix 15 (.bool false) rfl (vb h54)
    have u := ite_f hc55 h54
    refine rn 2 [0] s d rfl rfl fun a s => ?_
    obtain ⟨rv58, h57, u⟩ := bind_t u
    refine st_callR s (ref03_code_ok h57 d.bdom) (do_call Tryz.call137 rfl) ⟨_, rfl, rfl⟩ rfl rfl ?_
    rintro v62 Sv59 w a h60 rfl s
    have d := d.callB h60
    refine st_val s (y_pickF rfl rfl) ⟨_, rfl, rfl⟩ rfl rfl fun a s => ?_
    refine wpList_nil ?_
    have u := oi u
    subst u
    exact then_normal ⟨Sv19, (s.wk rfl), (d.ft [0] [] (by decide) rfl rfl)⟩
   rintro a w ⟨Sv56, s, d⟩
   refine sv s (y_pickT rfl rfl) rfl fun a s => ?_
   refine wpList_nil ?_
   have u := oi u
   subst u
   exact then_normal ⟨Sv56, (s.wk rfl), (d.ft [0] [] (by decide) rfl rfl)⟩
  have s := s.fix 11 (.bool false) rfl (vb h44)
  have u := ite_f hc45 h44
  refine rn 9 [] s d rfl rfl fun a s => ?_
  refine wpList_nil ?_
  have u := oi u
  subst u
  exact then_normal ⟨Sv19, (s.wk rfl), (d.ft [0] [] (by decide) rfl rfl)⟩
 rintro a w ⟨Sv46, s, d⟩
 refine mv s rfl rfl fun a s => ?_
 obtain ⟨c72, hc72, u⟩ := bind_t u
 refine wpl_join 4 (fun a w => ∃ Sv73, Sl 26 [(25, .bool c72)] a ∧ Wd ⟨w0, S0, []⟩ Sv73 [] [] w) ?_ ?_
 ·rcases Bool.eq_false_or_eq_true c45 with h71 | h71
  ·have s := s.fix 21 (.bool true) rfl (vb h71)
   have u := ite_t hc72 h71
   refine rn 2 [0] s d rfl rfl fun a s => ?_
   obtain ⟨rv75, h74, u⟩ := bind_t u
   refine st_callR s (ref03_code_ok h74 d.bdom) (do_call Tryz.call137 rfl) ⟨_, rfl, rfl⟩ rfl rfl ?_
   rintro v79 Sv76 w a h77 rfl s
   have d := d.callB h77
   refine sv s (y_pickT rfl rfl) rfl fun a s => ?_
   refine wpList_nil ?_
   have u := oi u
   subst u
   exact then_normal ⟨Sv46, (s.wk rfl), (d.ft [] [] (by decide) rfl rfl)⟩
  have s := s.fix 21 (.bool false) rfl (vb h71)
  have u := ite_f hc72 h71
  refine rn 4 [] s d rfl rfl fun a s => ?_
  refine wpList_nil ?_
  have u := oi u
  subst u
  exact then_normal ⟨Sv46, (s.wk rfl), (d.ft [] [] (by decide) rfl rfl)⟩
 rintro a w ⟨Sv73, s, d⟩
 refine rz 1 [] s d rfl rfl fun a s => ?_
 have u := oi u
 subst u
 exact wp_ret (ret1 s rfl (rv_tmp rfl) (d.ret rfl))
theorem ref02_Valid_ok {w0 S0 r1 r} (u : ref02_Valid r1 = some r) (hS : Dm S0 w0) : Calls Tryz.prog 70 #[V54 r1] w0 (Ret ([]) w0 S0 (made_Light_rd w0 ([]) r)) := by
 refine en 19 Tryz.func70 rfl hS rfl rfl rfl fun a s d => ?_
 delta ref02_Valid at u
 refine sr (w_box (cs := (C54 r1)) s d rfl rfl rfl trivial ?_)
 intro b2 a w s d
 refine rz 1 [] s d rfl rfl fun a s => ?_
 refine sn 2 [0] s d rfl rfl fun a s => ?_
 obtain ⟨rv4, h3, u⟩ := bind_t u
 refine st_callR s (ref01_In_ok h3 d.bdom) (do_call Tryz.call61 rfl) trivial rfl rfl ?_
 rintro v8 Sv5 w a h6 rfl s
 have d := d.callB h6
 refine mv s rfl rfl fun a s => ?_
 obtain ⟨c18, hc18, u⟩ := bind_t u
 refine wpl_join 4 (fun a w => ∃ Sv19, Sl 19 [(1, .pointer (some ⟨b2, 0, none⟩)), (10, .bool c18)] a ∧ Wd ⟨w0, S0, []⟩ Sv19 [.box b2 (C54 r1) 54] [] w) ?_ ?_
 ·rcases Bool.eq_false_or_eq_true rv4 with h17 | h17
  ·have s := s.fix 6 (.bool true) rfl (vb h17)
   have u := ite_t hc18 h17
   refine rn 2 [0] s d rfl rfl fun a s => ?_
   obtain ⟨rv21, h20, u⟩ := bind_t u
   refine st_callR s (ref01_In_ok h20 d.bdom) (do_call Tryz.call61 rfl) ⟨_, rfl, rfl⟩ rfl rfl ?_
   rintro v25 Sv22 w a h23 rfl s
   have d := d.callB h23
   refine sv s (y_pickT rfl rfl) rfl fun a s => ?_
   refine wpList_nil ?_
   have u := oi u
   subst u
   exact then_normal ⟨S0, (s.wk rfl), (d.ft [0] [] (by decide) rfl rfl)⟩
  have s := s.fix 6 (.bool false) rfl (vb h17)
  have u := ite_f hc18 h17
  refine rn 4 [] s d rfl rfl fun a s => ?_
  refine wpList_nil ?_
  have u := oi u
  subst u
  exact then_normal ⟨S0, (s.wk rfl), (d.ft [0] [] (by decide) rfl rfl)⟩
 rintro a w ⟨Sv19, s, d⟩
 refine mv s rfl rfl fun a s => ?_
 obtain ⟨c35, hc35, u⟩ := bind_t u
 refine wpl_join 7 (fun a w => ∃ Sv36, Sl 19 [(18, .bool c35)] a ∧ Wd ⟨w0, S0, []⟩ Sv36 [] [] w) ?_ ?_
 ·rcases Bool.eq_false_or_eq_true c18 with h34 | h34
  ·have s := s.fix 11 (.bool true) rfl (vb h34)
   have u := ite_t hc35 h34
   refine rn 4 [0, 0] s d rfl rfl fun a s => ?_
   obtain ⟨rv38, h37, u⟩ := bind_t u
   refine st_callR s (ref02_gcd_ok h37 d.bdom) (do_call Tryz.call103 rfl) ⟨_, rfl, rfl⟩ rfl rfl ?_
   rintro v42 Sv39 w a h40 rfl s
   have d := d.callB h40
   refine rn 2 [] s d rfl rfl fun a s => ?_
   refine wpList_nil ?_
   have u := oi u
   subst u
   exact then_normal ⟨Sv19, (s.wk rfl), (d.ft [] [] (by decide) rfl rfl)⟩
  have s := s.fix 11 (.bool false) rfl (vb h34)
  have u := ite_f hc35 h34
  refine rn 7 [] s d rfl rfl fun a s => ?_
  refine wpList_nil ?_
  have u := oi u
  subst u
  exact then_normal ⟨Sv19, (s.wk rfl), (d.ft [] [] (by decide) rfl rfl)⟩
 rintro a w ⟨Sv36, s, d⟩
 refine rz 1 [] s d rfl rfl fun a s => ?_
 have u := oi u
 subst u
 exact wp_ret (ret1 s rfl (rv_tmp rfl) (d.ret rfl))
theorem ref05_Sample_ok {w0 S0 n1 r} (u : ref05_Sample n1 = some r) (hS : Dm S0 w0) : Calls Tryz.prog 138 #[.int .i64 n1] w0 (Ret ([]) w0 S0 (made_Light_rd w0 ([]) r)) := by
 refine en 5 Tryz.func138 rfl hS rfl rfl rfl fun a s d => ?_
 delta ref05_Sample at u
 refine sz 1 [] s d rfl rfl fun a s => ?_
 refine sn 1 [] s d rfl rfl fun a s => ?_
 obtain ⟨rv3, h2, u⟩ := bind_t u
 refine st_callR s (ref01_In_ok h2 d.bdom) (do_call Tryz.call61 rfl) trivial rfl rfl ?_
 rintro v7 Sv4 w a h5 rfl s
 have d := d.callB h5
 refine rz 1 [] s d rfl rfl fun a s => ?_
 have u := oi u
 subst u
 exact wp_ret (ret1 s rfl (rv_tmp rfl) (d.ret rfl))
theorem ref05_InRange_ok {w0 S0 p2 k3 l1 r} (u : ref05_InRange l1 = some r) (hS : Dm S0 w0) (h4 : (SlA p2 l1.length k3 l1).p S0 w0) : Calls Tryz.prog 98 #[.slice p2 l1.length k3] w0 (Ret ([]) w0 S0 (made_Light_rd w0 ([]) r)) := by
 refine en 16 Tryz.func98 rfl hS rfl rfl rfl fun a s d => ?_
 have d := d.addE h4
 delta ref05_InRange at u
 refine sz 1 [] s d rfl rfl fun a s => ?_
 refine wp_seq (sz 1 [] s d rfl rfl fun a s => ?_)
 refine wp_block (wp_while (fun sv82 a w => ∃ Sv132, Sl 16 [(0, .slice p2 l1.length k3), (3, .int .i64 sv82)] a ∧ Wd ⟨w0, S0, []⟩ Sv132 [] [SlA p2 l1.length k3 l1] w) 0 u ⟨S0, (s.wk rfl), (d.ft [] [0] (by decide) rfl rfl)⟩ ?_)
 repeat clear u
 rintro sv82 a w tv158 ⟨Sv132, s, d⟩ u hd157
 delta ref05_InRange_l2 at u
 refine wp_seq (sz 4 [] s d rfl rfl fun a s => ?_)
 refine cd s u rfl (fun u => ?_) fun u => ?_
 ·refine wp_skip (then_normal (wp_seq (wp_block (sn 2 [] s d rfl rfl fun a s => ?_))))
  obtain ⟨x186, h184, u⟩ := bind_t u
  obtain ⟨b192, o193, q190, c191, h194, h187, h188, h189, h185⟩ := d.elemV 0 rfl h184
  have hsv195 := s
  have hwv196 := d
  subst h194
  have s := hsv195
  have d := hwv196
  obtain ⟨_, rfl, rfl⟩ := h185
  have d := d.addE h189
  refine sv s (y_indexAt Tryz.runUnderlying22 Tryz.sizeOf3 rfl rfl h187.1 h187.2 h188) rfl fun a s => ?_
  refine sv s (y_loadE1 (j := 0) (d.ceAt 0 rfl) rfl Tryz.isAgg3 rfl) rfl fun a s => ?_
  obtain ⟨rv198, h197, u⟩ := bind_t u
  refine st_callR s (ref05_Sample_ok h197 d.bdom) (do_call Tryz.call138 rfl) trivial rfl rfl ?_
  rintro v202 Sv199 w a h200 rfl s
  have d := d.callB h200
  refine rz 1 [] s d rfl rfl fun a s => ?_
  refine cd s u rfl (fun u => ?_) fun u => ?_
  ·refine sz 1 [] s d rfl rfl fun a s => ?_
   have u := oi u
   subst u
   have h206 := hd157 _ rfl
   subst h206
   exact wp_ret (blk_ret (then_ret (then_ret (blk_ret (then_ret (ret1 s rfl (rv_tmp rfl) (d.ret rfl)))))))
  refine wp_skip (blk_normal (then_normal (wp_region_lit (rn 2 [] s d rfl rfl fun a s => ?_))))
  obtain ⟨i208, h207, u⟩ := bind_t u
  refine sv s (y_assignI rfl h207) rfl fun a s => ?_
  exact nl ⟨_, (Option.some.inj u).symm, Sv132, (s.wk rfl), (d.ft [] [1] (by decide) rfl rfl)⟩
 obtain ⟨rv209, u, h210⟩ := map_t u
 have h210 := (hd157 _ h210.symm).symm
 subst h210
 refine wp_exit (then_exit (then_exit (blk_exit (then_normal (sz 1 [] s d rfl rfl fun a s => ?_)))))
 have u := oi u
 subst u
 exact wp_ret (ret1 s rfl (rv_tmp rfl) (d.ret rfl))
theorem ref02_Time_ok {w0 S0 start1 r2 k3 r} (u : ref02_Time start1 r2 k3 = some r) (hS : Dm S0 w0) : Calls Tryz.prog 28 #[.int .i64 start1, V54 r2, .int .i64 k3] w0 (Ret ([]) w0 S0 (rate_Time_rd w0 ([]) r)) := by
 refine en 29 Tryz.func28 rfl hS rfl rfl rfl fun a s d => ?_
 delta ref02_Time at u
 refine sr (w_box (cs := (C54 r2)) s d rfl rfl rfl trivial ?_)
 intro b4 a w s d
 refine rz 2 [] s d rfl rfl fun a s => ?_
 refine wp_seq (sn 1 [0] s d rfl rfl fun a s => ?_)
 obtain ⟨rv6, h5, u⟩ := bind_t u
 refine st_callR s (ref02_Valid_ok h5 d.bdom) (do_call Tryz.call70 rfl) trivial rfl rfl ?_
 rintro v10 Sv7 w a h8 rfl s
 have d := d.callB h8
 refine rz 1 [] s d rfl rfl fun a s => ?_
 refine cd s u rfl (fun u => ?_) fun u => ?_
 ·refine sz 2 [] s d rfl rfl fun a s => ?_
  have u := oi u
  subst u
  exact wp_ret (then_ret (ret2 s rfl (rv_tmp rfl) (rv_tmp rfl) (d.ret rfl)))
 refine wp_skip (then_normal (wp_seq (sn 1 [] s d rfl rfl fun a s => ?_)))
 obtain ⟨rv15, h14, u⟩ := bind_t u
 refine st_callR s (ref01_In_ok h14 d.bdom) (do_call Tryz.call61 rfl) trivial rfl rfl ?_
 rintro v19 Sv16 w a h17 rfl s
 have d := d.callB h17
 refine rn 2 [] s d rfl rfl fun a s => ?_
 obtain ⟨c29, hc29, u⟩ := bind_t u
 refine wpl_join 4 (fun a w => ∃ Sv30, Sl 29 [(0, .int .i64 start1), (2, .int .i64 k3), (4, .pointer (some ⟨b4, 0, none⟩)), (18, .bool c29)] a ∧ Wd ⟨w0, S0, []⟩ Sv30 [.box b4 (C54 r2) 54] [] w) ?_ ?_
 ·rcases Bool.eq_false_or_eq_true (!rv15) with h28 | h28
  ·have s := s.fix 14 (.bool true) rfl (vb h28)
   have u := ite_t hc29 h28
   refine rn 4 [] s d rfl rfl fun a s => ?_
   refine wpList_nil ?_
   have u := oi u
   subst u
   exact then_normal ⟨S0, (s.wk rfl), (d.ft [0] [] (by decide) rfl rfl)⟩
  have s := s.fix 14 (.bool false) rfl (vb h28)
  have u := ite_f hc29 h28
  refine st_val s (y_move rfl) ⟨_, rfl, rfl⟩ rfl rfl fun a s => ?_
  obtain ⟨rv32, h31, u⟩ := bind_t u
  refine st_callR s (ref01_In_ok h31 d.bdom) (do_call Tryz.call61 rfl) ⟨_, rfl, rfl⟩ rfl rfl ?_
  rintro v36 Sv33 w a h34 rfl s
  have d := d.callB h34
  refine rn 2 [] s d rfl rfl fun a s => ?_
  refine wpList_nil ?_
  have u := oi u
  subst u
  exact then_normal ⟨S0, (s.wk rfl), (d.ft [0] [] (by decide) rfl rfl)⟩
 rintro a w ⟨Sv30, s, d⟩
 refine nl (cd s u rfl (fun u => ?_) fun u => ?_)
 ·refine sz 2 [] s d rfl rfl fun a s => ?_
  have u := oi u
  subst u
  exact wp_ret (then_ret (ret2 s rfl (rv_tmp rfl) (rv_tmp rfl) (d.ret rfl)))
 refine wp_skip (then_normal (sn 8 [0, 0] s d rfl rfl fun a s => ?_))
 obtain ⟨quo41, h40, u⟩ := bind_t u
 refine sv s (y_quoM rfl rfl h40) rfl fun a s => ?_
 refine sv s (y_add rfl rfl) rfl fun a s => ?_
 obtain ⟨x43, h42, u⟩ := bind_t u
 refine sv s (y_assignI rfl h42) rfl fun a s => ?_
 refine rz 1 [] s d rfl rfl fun a s => ?_
 have u := oi u
 subst u
 exact wp_ret (ret2 s rfl (rv_tmp rfl) (rv_tmp rfl) (d.ret rfl))
theorem ref14_Time_ok {w0 S0 p2 k3 r1 i5 r} (u : ref14_Time r1 i5 = some r) (hS : Dm S0 w0) (h4 : (SlA p2 r1.Samples.length k3 r1.Samples).p S0 w0) : Calls Tryz.prog 62 #[V56 r1 p2 k3, .int .i64 i5] w0 (Ret ([]) w0 S0 (slices_IndexFunc_Lapi_Record_api_Record_rd w0 ([]) r)) := by
 refine en 20 Tryz.func62 rfl hS rfl rfl rfl fun a s d => ?_
 have d := d.addE h4
 delta ref14_Time at u
 refine sr (w_box (cs := (C56 r1 p2 k3)) s d rfl rfl rfl trivial ?_)
 intro b6 a w s d
 refine rz 1 [] s d rfl rfl fun a s => ?_
 refine sn 8 [0, 0, 0] s d rfl rfl fun a s => ?_
 obtain ⟨rv8, h7, u⟩ := bind_t u
 refine st_callR s (ref02_Time_ok h7 d.bdom) (do_call Tryz.call28 rfl) trivial rfl rfl ?_
 rintro v12 Sv9 w a h10 rfl s
 have d := d.callB h10
 refine rz 5 [] s d rfl rfl fun a s => ?_
 refine sz 2 [] s d rfl rfl fun a s => ?_
 have u := oi u
 subst u
 exact wp_ret (ret1 s rfl (rv_tmp rfl) (d.ret rfl))
theorem ref14_Valid_ok {w0 S0 p2 k3 r1 r} (u : ref14_Valid r1 = some r) (hS : Dm S0 w0) (h4 : (SlA p2 r1.Samples.length k3 r1.Samples).p S0 w0) : Calls Tryz.prog 60 #[V56 r1 p2 k3] w0 (Ret ([]) w0 S0 (made_Light_rd w0 ([]) r)) := by
 refine en 68 Tryz.func60 rfl hS rfl rfl rfl fun a s d => ?_
 have d := d.addE h4
 delta ref14_Valid at u
 refine sr (w_box (cs := (C56 r1 p2 k3)) s d rfl rfl rfl trivial ?_)
 intro b5 a w s d
 refine rz 1 [] s d rfl rfl fun a s => ?_
 refine wp_seq (sn 2 [0] s d rfl rfl fun a s => ?_)
 obtain ⟨rv7, h6, u⟩ := bind_t u
 refine st_callR s (ref03_Valid_ok h6 d.bdom) (do_call Tryz.call97 rfl) trivial rfl rfl ?_
 rintro v11 Sv8 w a h9 rfl s
 have d := d.callB h9
 refine rn 2 [] s d rfl rfl fun a s => ?_
 obtain ⟨c21, hc21, u⟩ := bind_t u
 refine wpl_join 5 (fun a w => ∃ Sv22, Sl 68 [(1, .pointer (some ⟨b5, 0, none⟩)), (12, .bool c21)] a ∧ Wd ⟨w0, S0, []⟩ Sv22 [.box b5 (C56 r1 p2 k3) 56] [SlA p2 r1.Samples.length k3 r1.Samples] w) ?_ ?_
 ·rcases Bool.eq_false_or_eq_true (!rv7) with h20 | h20
  ·have s := s.fix 7 (.bool true) rfl (vb h20)
   have u := ite_t hc21 h20
   refine rn 5 [] s d rfl rfl fun a s => ?_
   refine wpList_nil ?_
   have u := oi u
   subst u
   exact then_normal ⟨S0, (s.wk rfl), (d.ft [0] [0] (by decide) rfl rfl)⟩
  have s := s.fix 7 (.bool false) rfl (vb h20)
  have u := ite_f hc21 h20
  refine rn 2 [0] s d rfl rfl fun a s => ?_
  obtain ⟨rv24, h23, u⟩ := bind_t u
  refine st_callR s (ref02_Valid_ok h23 d.bdom) (do_call Tryz.call70 rfl) ⟨_, rfl, rfl⟩ rfl rfl ?_
  rintro v28 Sv25 w a h26 rfl s
  have d := d.callB h26
  refine rn 2 [] s d rfl rfl fun a s => ?_
  refine wpList_nil ?_
  have u := oi u
  subst u
  exact then_normal ⟨S0, (s.wk rfl), (d.ft [0] [0] (by decide) rfl rfl)⟩
 rintro a w ⟨Sv22, s, d⟩
 refine mv s rfl rfl fun a s => ?_
 obtain ⟨c38, hc38, u⟩ := bind_t u
 refine wpl_join 5 (fun a w => ∃ Sv39, Sl 68 [(1, .pointer (some ⟨b5, 0, none⟩)), (18, .bool c38)] a ∧ Wd ⟨w0, S0, []⟩ Sv39 [.box b5 (C56 r1 p2 k3) 56] [SlA p2 r1.Samples.length k3 r1.Samples] w) ?_ ?_
 ·rcases Bool.eq_false_or_eq_true c21 with h37 | h37
  ·have s := s.fix 13 (.bool true) rfl (vb h37)
   have u := ite_t hc38 h37
   refine rn 5 [] s d rfl rfl fun a s => ?_
   refine wpList_nil ?_
   have u := oi u
   subst u
   exact then_normal ⟨Sv22, (s.wk rfl), (d.ft [0] [0] (by decide) rfl rfl)⟩
  have s := s.fix 13 (.bool false) rfl (vb h37)
  have u := ite_f hc38 h37
  refine rn 2 [0] s d rfl rfl fun a s => ?_
  obtain ⟨rv41, h40, u⟩ := bind_t u
  refine st_callR s (ref01_In_ok h40 d.bdom) (do_call Tryz.call61 rfl) ⟨_, rfl, rfl⟩ rfl rfl ?_
  rintro v45 Sv42 w a h43 rfl s
  have d := d.callB h43
  refine rn 2 [] s d rfl rfl fun a s => ?_
  refine wpList_nil ?_
  have u := oi u
  subst u
  exact then_normal ⟨Sv22, (s.wk rfl), (d.ft [0] [0] (by decide) rfl rfl)⟩
 rintro a w ⟨Sv39, s, d⟩
 refine mv s rfl rfl fun a s => ?_
 obtain ⟨c55, hc55, u⟩ := bind_t u
 refine wpl_join 5 (fun a w => ∃ Sv56, Sl 68 [(1, .pointer (some ⟨b5, 0, none⟩)), (24, .bool c55)] a ∧ Wd ⟨w0, S0, []⟩ Sv56 [.box b5 (C56 r1 p2 k3) 56] [SlA p2 r1.Samples.length k3 r1.Samples] w) ?_ ?_
 ·rcases Bool.eq_false_or_eq_true c38 with h54 | h54
  ·have s := s.fix 19 (.bool true) rfl (vb h54)
   have u := ite_t hc55 h54
   refine rn 5 [] s d rfl rfl fun a s => ?_
   refine wpList_nil ?_
   have u := oi u
   subst u
   exact then_normal ⟨Sv39, (s.wk rfl), (d.ft [0] [0] (by decide) rfl rfl)⟩
  have s := s.fix 19 (.bool false) rfl (vb h54)
  have u := ite_f hc55 h54
  refine rn 2 [0] s d rfl rfl fun a s => ?_
  obtain ⟨rv58, h57, u⟩ := bind_t u
  refine st_callR s (ref01_In_ok h57 d.bdom) (do_call Tryz.call61 rfl) ⟨_, rfl, rfl⟩ rfl rfl ?_
  rintro v62 Sv59 w a h60 rfl s
  have d := d.callB h60
  refine rn 2 [] s d rfl rfl fun a s => ?_
  refine wpList_nil ?_
  have u := oi u
  subst u
  exact then_normal ⟨Sv39, (s.wk rfl), (d.ft [0] [0] (by decide) rfl rfl)⟩
 rintro a w ⟨Sv56, s, d⟩
 refine mv s rfl rfl fun a s => ?_
 obtain ⟨c72, hc72, u⟩ := bind_t u
 refine wpl_join 6 (fun a w => ∃ Sv73, Sl 68 [(1, .pointer (some ⟨b5, 0, none⟩)), (31, .bool c72)] a ∧ Wd ⟨w0, S0, []⟩ Sv73 [.box b5 (C56 r1 p2 k3) 56] [SlA p2 r1.Samples.length k3 r1.Samples] w) ?_ ?_
 ·rcases Bool.eq_false_or_eq_true c55 with h71 | h71
  ·have s := s.fix 25 (.bool true) rfl (vb h71)
   have u := ite_t hc72 h71
   refine rn 6 [] s d rfl rfl fun a s => ?_
   refine wpList_nil ?_
   have u := oi u
   subst u
   exact then_normal ⟨Sv56, (s.wk rfl), (d.ft [0] [0] (by decide) rfl rfl)⟩
  have s := s.fix 25 (.bool false) rfl (vb h71)
  have u := ite_f hc72 h71
  refine rn 3 [0] s d rfl rfl fun a s => ?_
  obtain ⟨rv75, h74, u⟩ := bind_t u
  refine st_callR s (ref01_In_ok h74 d.bdom) (do_call Tryz.call61 rfl) ⟨_, rfl, rfl⟩ rfl rfl ?_
  rintro v79 Sv76 w a h77 rfl s
  have d := d.callB h77
  refine rn 2 [] s d rfl rfl fun a s => ?_
  refine wpList_nil ?_
  have u := oi u
  subst u
  exact then_normal ⟨Sv56, (s.wk rfl), (d.ft [0] [0] (by decide) rfl rfl)⟩
 rintro a w ⟨Sv73, s, d⟩
 refine mv s rfl rfl fun a s => ?_
 refine rO 8 32 [0, 0] s d rfl rfl rfl rfl rfl fun a s => ?_
 refine mv s rfl rfl fun a s => ?_
 obtain ⟨c90, hc90, u⟩ := bind_t u
 refine wpl_join 5 (fun a w => ∃ Sv91, Sl 68 [(1, .pointer (some ⟨b5, 0, none⟩)), (46, .bool c90)] a ∧ Wd ⟨w0, S0, []⟩ Sv91 [.box b5 (C56 r1 p2 k3) 56] [SlA p2 r1.Samples.length k3 r1.Samples] w) ?_ ?_
 ·rcases Bool.eq_false_or_eq_true (c72 || (decide (16777216 < (w64 (r1.First + (r1.Samples.length : Int)))))) with h89 | h89
  ·have s := s.fix 41 (.bool true) rfl (vb h89)
   have u := ite_t hc90 h89
   refine rn 5 [] s d rfl rfl fun a s => ?_
   refine wpList_nil ?_
   have u := oi u
   subst u
   exact then_normal ⟨Sv73, (s.wk rfl), (d.ft [0] [0] (by decide) rfl rfl)⟩
  have s := s.fix 41 (.bool false) rfl (vb h89)
  have u := ite_f hc90 h89
  refine rn 2 [0] s d rfl rfl fun a s => ?_
  obtain ⟨rv93, h92, u⟩ := bind_t u
  refine st_callR s (ref05_InRange_ok h92 d.bdom (d.bE 0 rfl)) (do_call Tryz.call98 rfl) ⟨_, rfl, rfl⟩ rfl rfl ?_
  rintro v97 Sv94 w a h95 rfl s
  have d := d.callB h95
  refine rn 2 [] s d rfl rfl fun a s => ?_
  refine wpList_nil ?_
  have u := oi u
  subst u
  exact then_normal ⟨Sv73, (s.wk rfl), (d.ft [0] [0] (by decide) rfl rfl)⟩
 rintro a w ⟨Sv91, s, d⟩
 refine nl (cd s u rfl (fun u => ?_) fun u => ?_)
 ·refine sz 1 [] s d rfl rfl fun a s => ?_
  have u := oi u
  subst u
  exact wp_ret (then_ret (ret1 s rfl (rv_tmp rfl) (d.ret rfl)))
 refine wp_skip (then_normal (sn 2 [0] s d rfl rfl fun a s => ?_))
 obtain ⟨rv102, h101, u⟩ := bind_t u
 refine st_callR s (ref01_In_ok h101 d.bdom) (do_call Tryz.call61 rfl) trivial rfl rfl ?_
 rintro v106 Sv103 w a h104 rfl s
 have d := d.callB h104
 refine mv s rfl rfl fun a s => ?_
 obtain ⟨c116, hc116, u⟩ := bind_t u
 refine wpl_join 4 (fun a w => ∃ Sv117, Sl 68 [(1, .pointer (some ⟨b5, 0, none⟩)), (54, .bool c116)] a ∧ Wd ⟨w0, S0, []⟩ Sv117 [.box b5 (C56 r1 p2 k3) 56] [SlA p2 r1.Samples.length k3 r1.Samples] w) ?_ ?_
 ·rcases Bool.eq_false_or_eq_true rv102 with h115 | h115
  ·have s := s.fix 50 (.bool true) rfl (vb h115)
   have u := ite_t hc116 h115
   refine rn 2 [0] s d rfl rfl fun a s => ?_
   obtain ⟨rv119, h118, u⟩ := bind_t u
   refine st_callR s (ref01_In_ok h118 d.bdom) (do_call Tryz.call61 rfl) ⟨_, rfl, rfl⟩ rfl rfl ?_
   rintro v123 Sv120 w a h121 rfl s
   have d := d.callB h121
   refine sv s (y_pickT rfl rfl) rfl fun a s => ?_
   refine wpList_nil ?_
   have u := oi u
   subst u
   exact then_normal ⟨Sv91, (s.wk rfl), (d.ft [0] [0] (by decide) rfl rfl)⟩
  have s := s.fix 50 (.bool false) rfl (vb h115)
  have u := ite_f hc116 h115
  refine rn 4 [] s d rfl rfl fun a s => ?_
  refine wpList_nil ?_
  have u := oi u
  subst u
  exact then_normal ⟨Sv91, (s.wk rfl), (d.ft [0] [0] (by decide) rfl rfl)⟩
 rintro a w ⟨Sv117, s, d⟩
 refine mv s rfl rfl fun a s => ?_
 obtain ⟨c133, hc133, u⟩ := bind_t u
 refine wpl_join 4 (fun a w => ∃ Sv134, Sl 68 [(1, .pointer (some ⟨b5, 0, none⟩)), (59, .bool c133)] a ∧ Wd ⟨w0, S0, []⟩ Sv134 [.box b5 (C56 r1 p2 k3) 56] [SlA p2 r1.Samples.length k3 r1.Samples] w) ?_ ?_
 ·rcases Bool.eq_false_or_eq_true c116 with h132 | h132
  ·have s := s.fix 55 (.bool true) rfl (vb h132)
   have u := ite_t hc133 h132
   refine rn 2 [0] s d rfl rfl fun a s => ?_
   obtain ⟨rv136, h135, u⟩ := bind_t u
   refine st_callR s (ref01_In_ok h135 d.bdom) (do_call Tryz.call61 rfl) ⟨_, rfl, rfl⟩ rfl rfl ?_
   rintro v140 Sv137 w a h138 rfl s
   have d := d.callB h138
   refine sv s (y_pickT rfl rfl) rfl fun a s => ?_
   refine wpList_nil ?_
   have u := oi u
   subst u
   exact then_normal ⟨Sv117, (s.wk rfl), (d.ft [0] [0] (by decide) rfl rfl)⟩
  have s := s.fix 55 (.bool false) rfl (vb h132)
  have u := ite_f hc133 h132
  refine rn 4 [] s d rfl rfl fun a s => ?_
  refine wpList_nil ?_
  have u := oi u
  subst u
  exact then_normal ⟨Sv117, (s.wk rfl), (d.ft [0] [0] (by decide) rfl rfl)⟩
 rintro a w ⟨Sv134, s, d⟩
 refine mv s rfl rfl fun a s => ?_
 obtain ⟨c150, hc150, u⟩ := bind_t u
 refine wpl_join 7 (fun a w => ∃ Sv151, Sl 68 [(67, .bool c150)] a ∧ Wd ⟨w0, S0, []⟩ Sv151 [] [] w) ?_ ?_
 ·rcases Bool.eq_false_or_eq_true c133 with h149 | h149
  ·have s := s.fix 60 (.bool true) rfl (vb h149)
   have u := ite_t hc150 h149
   refine rn 4 [0, 0] s d rfl rfl fun a s => ?_
   obtain ⟨rv153, h152, u⟩ := bind_t u
   refine st_callR s (ref14_Time_ok h152 d.bdom (d.bE 0 rfl)) (do_call Tryz.call62 rfl) ⟨_, rfl, rfl⟩ rfl rfl ?_
   rintro v157 Sv154 w a h155 rfl s
   have d := d.callB h155
   refine rn 2 [] s d rfl rfl fun a s => ?_
   refine wpList_nil ?_
   have u := oi u
   subst u
   exact then_normal ⟨Sv134, (s.wk rfl), (d.ft [] [] (by decide) rfl rfl)⟩
  have s := s.fix 60 (.bool false) rfl (vb h149)
  have u := ite_f hc150 h149
  refine rn 7 [] s d rfl rfl fun a s => ?_
  refine wpList_nil ?_
  have u := oi u
  subst u
  exact then_normal ⟨Sv134, (s.wk rfl), (d.ft [] [] (by decide) rfl rfl)⟩
 rintro a w ⟨Sv151, s, d⟩
 refine rz 1 [] s d rfl rfl fun a s => ?_
 have u := oi u
 subst u
 exact wp_ret (ret1 s rfl (rv_tmp rfl) (d.ret rfl))
theorem ref15_fine_ok {w0 S0 p2 k3 l1 r} (u : ref15_fine l1 = some r) (hS : Dm S0 w0) (h4 : (SlA p2 l1.length k3 l1).p S0 w0) : Calls Tryz.prog 95 #[.slice p2 l1.length k3] w0 (Ret ([]) w0 S0 (made_Light_rd w0 ([]) r)) := by
 refine en 28 Tryz.func95 rfl hS rfl rfl rfl fun a s d => ?_
 have d := d.addE h4
 delta ref15_fine at u
 refine sz 1 [] s d rfl rfl fun a s => ?_
 refine wp_seq (sz 1 [] s d rfl rfl fun a s => ?_)
 refine wp_block (wp_while (fun sv157 a w => ∃ Sv257, Sl 28 [(0, .slice p2 l1.length k3), (3, .int .i64 sv157)] a ∧ Wd ⟨w0, S0, []⟩ Sv257 [] [SlA p2 l1.length k3 l1] w) 0 u ⟨S0, (s.wk rfl), (d.ft [] [0] (by decide) rfl rfl)⟩ ?_)
 repeat clear u
 rintro sv157 a w tv308 ⟨Sv257, s, d⟩ u hd307
 delta ref15_fine_l2 at u
 refine wp_seq (sz 4 [] s d rfl rfl fun a s => ?_)
 refine cd s u rfl (fun u => ?_) fun u => ?_
 ·refine wp_skip (then_normal (wp_seq (wp_block (wp_seq ?_))))
  obtain ⟨x361, h359, u⟩ := bind_t u
  obtain ⟨b367, o368, q365, c366, h369, h362, h363, h364, h360⟩ := d.elemV 0 rfl h359
  have hsv370 := s
  have hwv371 := d
  subst h369
  have s := hsv370
  have d := hwv371
  obtain ⟨_, _, _, _, _, _, _, _, _, _, _, _, rfl, rfl, rfl, rfl, rfl, rfl, rfl, rfl, rfl, rfl, rfl, rfl, ⟨p372, n373, k374, rfl, h375⟩⟩ := h360
  obtain rfl := h375.1
  have d := (d.addE (e := SlA p372 _ k374 x361.Samples) h375).addE h364
  obtain ⟨rv377, h376, u⟩ := bind_t u
  obtain ⟨c402, hc402, u⟩ := bind_t u
  refine wp_only (fun a w => ∃ Sv403, Sl 28 [(0, .slice (some ⟨b367, o368, none⟩) l1.length k3), (3, .int .i64 sv157), (27, .bool c402)] a ∧ Wd ⟨w0, S0, []⟩ Sv403 [] [SlA (some ⟨b367, o368, none⟩) l1.length k3 l1] w) ?_ ?_
  ·rcases Bool.eq_false_or_eq_true (!rv377) with h404 | h404
   ·have h405 := ite_t hc402 h404
    refine h_c [] [0] d rfl rfl (by kernel_rfl) rfl fun hC d => ?_
    refine gn 2 [0, 1] [] s hC rfl rfl rfl fun a s => ?_
    refine gv s 2 rfl rfl hC (fun w hC => y_indexAt Tryz.runUnderlying28 Tryz.sizeOf56 rfl rfl h362.1 h362.2 h363) fun a s => ?_
    refine gv s 3 rfl rfl hC (fun w hC => y_loadEA (j := 0) (hC.ceAt 0 rfl) rfl Tryz.isAgg56 Tryz.sizeOf56 rfl rfl) fun a s => ?_
    refine ho 4 rfl ?_
    refine st_callR s (ref14_Valid_ok h376 d.bdom (d.bE 1 rfl)) (do_call Tryz.call60 rfl) trivial rfl rfl ?_
    rintro v409 Sv406 w a h407 rfl s
    have d := d.callB h407
    refine h_n [] [0] d rfl rfl fun hC => ?_
    refine gn 2 [5, 6] [] s hC rfl rfl rfl fun a s => ?_
    have s := s.fix 16 (.bool true) rfl (vb h404)
    refine gn 10 [7, 8, 9, 10, 11, 12, 13, 14, 15, 16] [] s hC rfl rfl rfl fun a s => ?_
    refine gv s 17 rfl rfl hC (fun w hC => y_pickTE (v := .bool c402) rfl rfl (vbs h405)) fun a s => ?_
    refine h_done (by kernel_rfl) ?_
    exact ⟨Sv257, (s.wk rfl), (d.ft [] [2] (by decide) rfl rfl)⟩
   have h411 := ite_f hc402 h404
   obtain ⟨x414, h412, h411⟩ := bind_t h411
   obtain ⟨q418, c419, h415, h416, h417, h413⟩ := d.elemK 2 rfl h412
   obtain ⟨_, _, _, _, _, _, _, _, _, _, _, _, rfl, rfl, rfl, rfl, rfl, rfl, rfl, rfl, rfl, rfl, rfl, rfl, ⟨p420, n421, k422, rfl, h423⟩⟩ := h413
   obtain rfl := h423.1
   have d := (d.addE (e := SlA p420 _ k422 x414.Samples) h423).addE h417
   obtain ⟨x426, h424, h411⟩ := bind_t h411
   obtain ⟨q430, c431, h427, h428, h429, h425⟩ := d.elemK 4 rfl h424
   obtain ⟨_, _, _, _, _, _, _, _, _, _, _, _, rfl, rfl, rfl, rfl, rfl, rfl, rfl, rfl, rfl, rfl, rfl, rfl, ⟨p432, n433, k434, rfl, h435⟩⟩ := h425
   obtain rfl := h435.1
   have d := (d.addE (e := SlA p432 _ k434 x426.Samples) h435).addE h429
   refine h_c [] [0, 2, 4] d rfl rfl (by kernel_rfl) rfl fun hC d => ?_
   refine gn 2 [0, 1] [] s hC rfl rfl rfl fun a s => ?_
   refine gv s 2 rfl rfl hC (fun w hC => y_indexAt Tryz.runUnderlying28 Tryz.sizeOf56 rfl rfl h362.1 h362.2 h363) fun a s => ?_
   refine gv s 3 rfl rfl hC (fun w hC => y_loadEA (j := 0) (hC.ceAt 2 rfl) rfl Tryz.isAgg56 Tryz.sizeOf56 rfl rfl) fun a s => ?_
   refine ho 4 rfl ?_
   refine st_callR s (ref14_Valid_ok h376 d.bdom (d.bE 5 rfl)) (do_call Tryz.call60 rfl) trivial rfl rfl ?_
   rintro v439 Sv436 w a h437 rfl s
   have d := d.callB h437
   refine h_n [] [0, 2, 4] d rfl rfl fun hC => ?_
   refine gn 2 [5, 6] [] s hC rfl rfl rfl fun a s => ?_
   have s := s.fix 16 (.bool false) rfl (vb h404)
   refine gn 2 [7, 8] [] s hC rfl rfl rfl fun a s => ?_
   refine gt s 9 rfl ⟨_, rfl, rfl⟩ rfl hC (fun w hC => y_indexAt Tryz.runUnderlying28 Tryz.sizeOf56 rfl rfl h415.1 h415.2 h416) fun a s => ?_
   refine gt s 10 rfl ⟨_, rfl, rfl⟩ rfl hC (fun w hC => y_fieldAddr (o' := q418 + 0) Tryz.runUnderlying56 rfl Tryz.sizeOf52 rfl rfl rfl) fun a s => ?_
   refine gt s 11 rfl ⟨_, rfl, rfl⟩ rfl hC (fun w hC => y_loadEA (j := 0) (hC.ceAt 1 rfl) rfl Tryz.isAgg52 Tryz.sizeOf52 rfl rfl) fun a s => ?_
   refine gt s 12 rfl ⟨_, rfl, rfl⟩ rfl hC (fun w hC => y_move rfl) fun a s => ?_
   refine gt s 13 rfl ⟨_, rfl, rfl⟩ rfl hC (fun w hC => y_indexAt Tryz.runUnderlying28 Tryz.sizeOf56 rfl rfl h427.1 h427.2 h428) fun a s => ?_
   refine gt s 14 rfl ⟨_, rfl, rfl⟩ rfl hC (fun w hC => y_fieldAddr (o' := q430 + 0) Tryz.runUnderlying56 rfl Tryz.sizeOf52 rfl rfl rfl) fun a s => ?_
   refine gt s 15 rfl ⟨_, rfl, rfl⟩ rfl hC (fun w hC => y_loadEA (j := 0) (hC.ceAt 0 rfl) rfl Tryz.isAgg52 Tryz.sizeOf52 rfl rfl) fun a s => ?_
   refine gt s 16 rfl ⟨_, rfl, rfl⟩ rfl hC (fun w hC => y_neqA (by kernel_rfl) rfl rfl (eqv_struct Tryz.runUnderlying52 (by kernel_rfl) (EqF.cons1 rfl Tryz.isAgg9 rfl rfl (eqv_str Tryz.runUnderlying9) (EqF.cons1 rfl Tryz.isAgg9 rfl rfl (eqv_str Tryz.runUnderlying9) (EqF.cons1 rfl Tryz.isAgg9 rfl rfl (eqv_str Tryz.runUnderlying9) (EqF.cons1 rfl Tryz.isAgg9 rfl rfl (eqv_str Tryz.runUnderlying9) EqF.nil)))))) fun a s => ?_
   refine gv s 17 rfl rfl hC (fun w hC => y_pickFE (v := .bool c402) rfl rfl (vbs h411)) fun a s => ?_
   refine h_done (by kernel_rfl) ?_
   exact ⟨Sv257, (s.wk rfl), (d.ft [] [6] (by decide) rfl rfl)⟩
  rintro a w ⟨Sv403, s, d⟩
  refine then_normal (cd s u rfl (fun u => ?_) fun u => ?_)
  ·refine sz 1 [] s d rfl rfl fun a s => ?_
   have u := oi u
   subst u
   have h443 := hd307 _ rfl
   subst h443
   exact wp_ret (blk_ret (then_ret (then_ret (blk_ret (then_ret (ret1 s rfl (rv_tmp rfl) (d.ret rfl)))))))
  refine wp_skip (blk_normal (then_normal (wp_region_lit (rn 2 [] s d rfl rfl fun a s => ?_))))
  obtain ⟨i445, h444, u⟩ := bind_t u
  refine sv s (y_assignI rfl h444) rfl fun a s => ?_
  exact nl ⟨_, (Option.some.inj u).symm, Sv403, (s.wk rfl), (d.ft [] [0] (by decide) rfl rfl)⟩
 obtain ⟨rv446, u, h447⟩ := map_t u
 have h447 := (hd307 _ h447.symm).symm
 subst h447
 refine wp_exit (then_exit (then_exit (blk_exit (then_normal (sz 1 [] s d rfl rfl fun a s => ?_)))))
 have u := oi u
 subst u
 exact wp_ret (ret1 s rfl (rv_tmp rfl) (d.ret rfl))
theorem ref15_Valid_ok {w0 S0 p2 k3 l1 r} (u : ref15_Valid l1 = some r) (hS : Dm S0 w0) (h4 : (SlA p2 l1.length k3 l1).p S0 w0) : Calls Tryz.prog 56 #[.slice p2 l1.length k3] w0 (Ret ([]) w0 S0 (made_Light_rd w0 ([]) r)) := by
 refine en 10 Tryz.func56 rfl hS rfl rfl rfl fun a s d => ?_
 have d := d.addE h4
 delta ref15_Valid at u
 refine sz 1 [] s d rfl rfl fun a s => ?_
 refine sn 4 [] s d rfl rfl fun a s => ?_
 obtain ⟨c13, hc13, u⟩ := bind_t u
 refine wpl_join 3 (fun a w => ∃ Sv14, Sl 10 [(9, .bool c13)] a ∧ Wd ⟨w0, S0, []⟩ Sv14 [] [] w) ?_ ?_
 ·rcases Bool.eq_false_or_eq_true (decide ((l1.length : Int) ≤ 256)) with h12 | h12
  ·have s := s.fix 6 (.bool true) rfl (vb h12)
   have u := ite_t hc13 h12
   refine st_val s (y_move rfl) ⟨_, rfl, rfl⟩ rfl rfl fun a s => ?_
   obtain ⟨rv16, h15, u⟩ := bind_t u
   refine st_callR s (ref15_fine_ok h15 d.bdom (d.bE 0 rfl)) (do_call Tryz.call95 rfl) ⟨_, rfl, rfl⟩ rfl rfl ?_
   rintro v20 Sv17 w a h18 rfl s
   have d := d.callB h18
   refine sv s (y_pickT rfl rfl) rfl fun a s => ?_
   refine wpList_nil ?_
   have u := oi u
   subst u
   exact then_normal ⟨S0, (s.wk rfl), (d.ft [] [] (by decide) rfl rfl)⟩
  have s := s.fix 6 (.bool false) rfl (vb h12)
  have u := ite_f hc13 h12
  refine rn 3 [] s d rfl rfl fun a s => ?_
  refine wpList_nil ?_
  have u := oi u
  subst u
  exact then_normal ⟨S0, (s.wk rfl), (d.ft [] [] (by decide) rfl rfl)⟩
 rintro a w ⟨Sv14, s, d⟩
 refine rz 1 [] s d rfl rfl fun a s => ?_
 have u := oi u
 subst u
 exact wp_ret (ret1 s rfl (rv_tmp rfl) (d.ret rfl))
abbrev ref14_Span_rd (w0 : World) (X : List Nat) (r : (Span × Int)) : Rd := fun S w v => v = .tuple #[V71 r.1, .int .i64 r.2]
theorem ref14_Span_ok {w0 S0 p2 k3 r1 r} (u : ref14_Span r1 = some r) (hS : Dm S0 w0) (h4 : (SlA p2 r1.Samples.length k3 r1.Samples).p S0 w0) : Calls Tryz.prog 31 #[V56 r1 p2 k3] w0 (Ret ([]) w0 S0 (ref14_Span_rd w0 ([]) r)) := by
 refine en 16 Tryz.func31 rfl hS rfl rfl rfl fun a s d => ?_
 have d := d.addE h4
 delta ref14_Span at u
 refine sr (w_box (cs := (C56 r1 p2 k3)) s d rfl rfl rfl trivial ?_)
 intro b5 a w s d
 refine w_alloc (cs := [.int .i64 0, .int .i64 0]) s d Tryz.zeroValue71 rfl rfl trivial ?_
 intro b6 a w s d
 refine rz 1 [] s d rfl rfl fun a s => ?_
 refine wp_seq (sn 1 [1] s d rfl rfl fun a s => ?_)
 obtain ⟨rv8, h7, u⟩ := bind_t u
 refine st_callR s (ref14_Valid_ok h7 d.bdom (d.bE 0 rfl)) (do_call Tryz.call60 rfl) trivial rfl rfl ?_
 rintro v12 Sv9 w a h10 rfl s
 have d := d.callB h10
 refine rz 1 [] s d rfl rfl fun a s => ?_
 refine cd s u rfl (fun u => ?_) fun u => ?_
 ·refine sr (sv s (y_build (vs := []) Bld71 rfl rfl) rfl fun a s => ?_)
  refine w_store (m := 2) (cs' := [.int .i64 0, .int .i64 0]) s d 0 rfl rfl rfl Tryz.sizeOf71 rfl rfl rfl rfl trivial ?_
  intro a w s d
  refine rz 1 [] s d rfl rfl fun a s => ?_
  have u := oi u
  subst u
  exact wp_ret (then_ret (ret2 s rfl (rv_cell d 0 rfl rfl Tryz.isAgg71 Tryz.sizeOf71 rfl) (rv_tmp rfl) (d.ret rfl)))
 refine wp_skip (then_normal (wp_seq ?_))
 obtain ⟨rv17, h16, u⟩ := bind_t u
 obtain ⟨rv19, h18, u⟩ := bind_t u
 refine wp_only (fun a w => ∃ Sv20, Sl 16 [(2, .pointer (some ⟨b6, 0, none⟩)), (3, .int .i64 0)] a ∧ Wd ⟨w0, S0, []⟩ Sv20 [.box b6 [.int .i64 rv17, .int .i64 rv19] 71] [] w) ?_ ?_
 ·refine h_c [1] [] d rfl rfl (by kernel_rfl) rfl fun hC d => ?_
  refine gn 5 [0, 2, 3, 4, 5] [0, 0, 0] s hC rfl rfl rfl fun a s => ?_
  refine ho 1 rfl ?_
  refine st_callR s (ref14_Time_ok h16 d.bdom (d.bE 0 rfl)) (do_call Tryz.call62 rfl) trivial rfl rfl ?_
  rintro v24 Sv21 w a h22 rfl s
  have d := d.callB h22
  refine h_n [1] [] d rfl rfl fun hC => ?_
  refine ho 6 rfl ?_
  refine st_callR s (ref14_Time_ok h18 d.bdom (d.bE 0 rfl)) (do_call Tryz.call62 rfl) trivial rfl rfl ?_
  rintro v29 Sv26 w a h27 rfl s
  have d := d.callB h27
  refine h_n [1] [] d rfl rfl fun hC => ?_
  refine gv s 7 rfl rfl hC (fun w hC => y_build (vs := [(0, .int .i64 rv17), (1, .int .i64 rv19)]) Bld71 rfl rfl) fun a s => ?_
  refine ho 8 rfl ?_
  refine w_store (m := 2) (cs' := [.int .i64 rv17, .int .i64 rv19]) s d 0 rfl rfl rfl Tryz.sizeOf71 rfl rfl rfl rfl trivial ?_
  intro a w s d
  refine h_n [1] [] d rfl rfl fun hC => ?_
  refine gv s 9 rfl rfl hC (fun w hC => y_assign rfl) fun a s => ?_
  refine h_done (by kernel_rfl) ?_
  exact ⟨S0, (s.wk rfl), (d.ft [0] [] (by decide) rfl rfl)⟩
 rintro a w ⟨Sv20, s, d⟩
 refine then_normal ?_
 have u := oi u
 subst u
 exact wp_ret (ret2 s rfl (rv_cell d 0 rfl rfl Tryz.isAgg71 Tryz.sizeOf71 rfl) (rv_tmp rfl) (d.ret rfl))
theorem ref15_Covered_ok {w0 S0 p2 k3 l1 r} (u : ref15_Covered l1 = some r) (hS : Dm S0 w0) (h4 : (SlA p2 l1.length k3 l1).p S0 w0) : Calls Tryz.prog 19 #[.slice p2 l1.length k3] w0 (Ret ([]) w0 S0 (compose_Covered_rd w0 ([]) r)) := by
 refine en 31 Tryz.func19 rfl hS rfl rfl rfl fun a s d => ?_
 have d := d.addE h4
 delta ref15_Covered at u
 refine sz 2 [] s d rfl rfl fun a s => ?_
 refine wp_seq (sn 1 [] s d rfl rfl fun a s => ?_)
 obtain ⟨rv6, h5, u⟩ := bind_t u
 refine st_callR s (ref15_Valid_ok h5 d.bdom (d.bE 0 rfl)) (do_call Tryz.call56 rfl) trivial rfl rfl ?_
 rintro v10 Sv7 w a h8 rfl s
 have d := d.callB h8
 refine rz 1 [] s d rfl rfl fun a s => ?_
 refine cd s u rfl (fun u => ?_) fun u => ?_
 ·refine sz 2 [] s d rfl rfl fun a s => ?_
  have u := oi u
  subst u
  have d := d.nilRow Span 71
  exact wp_ret (then_ret (ret2 s rfl (rv_tmp rfl) (rv_tmp rfl) (d.ret ⟨none, 0, [], rfl, (d.outs [0] (by decide) rfl), (d.envAt 0 rfl)⟩)))
 refine wp_skip (then_normal (sz 1 [] s d rfl rfl fun a s => ?_))
 refine wp_seq (sz 1 [] s d rfl rfl fun a s => ?_)
 obtain ⟨e131, h217, u⟩ := bind_t u
 refine wp_join (fun a w => ∃ c132 p133 k134 Sv135, Sl 31 [(4, .slice p133 e131.length k134)] a ∧ Wd ⟨w0, S0, []⟩ Sv135 [.row p133 e131.length k134 c132 71 2] [RowA c132 e131] w) ?_ ?_
 ·refine wp_block ?_
  have d := d.nilRow Span 71
  refine wp_while (fun sv14 a w => ∃ c89 p90 k91 Sv92, Sl 31 [(0, .slice p2 l1.length k3), (4, .slice p90 sv14.1.length k91), (5, .int .i64 sv14.2)] a ∧ Wd ⟨w0, S0, []⟩ Sv92 [.row p90 sv14.1.length k91 c89 71 2] [SlA p2 l1.length k3 l1, RowA c89 sv14.1] w) (([] : List Span), 0) h217 ⟨[], none, 0, S0, (s.wk rfl), (d.ft [0] [1, 0] (by decide) rfl rfl)⟩ ?_
  clear h217
  repeat clear u
  rintro sv14 a w tv129 ⟨c89, p90, k91, Sv92, s, d⟩ u hd128
  delta ref15_Covered_l1 at u
  refine wp_seq (sz 4 [] s d rfl rfl fun a s => ?_)
  refine cd s u rfl (fun u => ?_) fun u => ?_
  ·refine wp_skip (then_normal (wp_seq (wp_block (sn 2 [] s d rfl rfl fun a s => ?_))))
   obtain ⟨x172, h170, u⟩ := bind_t u
   obtain ⟨b178, o179, q176, c177, h180, h173, h174, h175, h171⟩ := d.elemV 0 rfl h170
   have hsv181 := s
   have hwv182 := d
   subst h180
   have s := hsv181
   have d := hwv182
   obtain ⟨_, _, _, _, _, _, _, _, _, _, _, _, rfl, rfl, rfl, rfl, rfl, rfl, rfl, rfl, rfl, rfl, rfl, rfl, ⟨p183, n184, k185, rfl, h186⟩⟩ := h171
   obtain rfl := h186.1
   have d := (d.addE (e := SlA p183 _ k185 x172.Samples) h186).addE h175
   refine sv s (y_indexAt Tryz.runUnderlying28 Tryz.sizeOf56 rfl rfl h173.1 h173.2 h174) rfl fun a s => ?_
   refine sv s (y_loadEA (j := 0) (d.ceAt 0 rfl) rfl Tryz.isAgg56 Tryz.sizeOf56 rfl rfl) rfl fun a s => ?_
   obtain ⟨rv188, h187, u⟩ := bind_t u
   refine st_callR s (ref14_Span_ok h187 d.bdom (d.bE 1 rfl)) (do_call Tryz.call31 rfl) trivial rfl rfl ?_
   rintro v192 Sv189 w a h190 rfl s
   have d := d.callB h190
   refine rn 3 [] s d rfl rfl fun a s => ?_
   refine w_alloc (cs := [.int .i64 0, .int .i64 0]) s d Tryz.zeroValue71 rfl rfl trivial ?_
   intro b194 a w s d
   refine w_store (m := 2) (cs' := (C71 rv188.1)) s d 0 rfl rfl rfl Tryz.sizeOf71 rfl rfl rfl rfl trivial ?_
   intro a w s d
   refine rz 1 [] s d rfl rfl fun a s => ?_
   refine wp_region_lit (rn 2 [0] s d rfl rfl fun a s => ?_)
   refine w_litSlice (α := Span) (vs := [V71 rv188.1]) (cs := (C71 rv188.1)) (xs := ([rv188.1] : List Span)) s d El30 rfl rfl rfl rfl rfl rfl ⟨⟨_, _, rfl, rfl, rfl⟩, rfl⟩ rfl trivial rfl fun b196 a w s d => ?_
   obtain ⟨l198, h197, u⟩ := bind_t u
   refine w_appendR (α := Span) s d El30 2 rfl rfl rfl 4 rfl 0 rfl 0 rfl h197 rfl trivial ?_
   intro p199 k200 c201 a w s d
   refine av s rfl rfl fun a s => ?_
   refine wpList_nil ?_
   refine blk_normal (then_normal (wp_region_lit (rn 2 [] s d rfl rfl fun a s => ?_)))
   obtain ⟨i203, h202, u⟩ := bind_t u
   refine sv s (y_assignI rfl h202) rfl fun a s => ?_
   exact nl ⟨_, (Option.some.inj u).symm, c201, p199, k200, Sv92, (s.wk rfl), (d.ft [2] [4, 0] (by decide) rfl rfl)⟩
  refine wp_exit (then_exit (then_exit (blk_exit ?_)))
  have u := oi u
  subst u
  have h204 := hd128 _ rfl
  subst h204
  exact then_normal ⟨c89, p90, k91, Sv92, (s.wk rfl), (d.ft [0] [1] (by decide) rfl rfl)⟩
 rintro a w ⟨c132, p133, k134, Sv135, s, d⟩
 refine then_normal (sn 1 [] s d rfl rfl fun a s => ?_)
 obtain ⟨rv206, h205, u⟩ := bind_t u
 obtain ⟨Sv211, d⟩ := w_share (α := Span) d 0 rfl 0 rfl
 refine st_callR s (ref08_Normal_ok h205 d.dom (d.envAt 0 rfl)) (do_call Tryz.call55 rfl) trivial rfl rfl ?_
 rintro v215 Sv212 w a h213 ⟨p207, k208, c210, rfl, h216, h209⟩ s
 have d := (d.callN h213 h216).addE (e := RowA c210 rv206) h209
 refine rz 2 [] s d rfl rfl fun a s => ?_
 have u := oi u
 subst u
 exact wp_ret (ret2 s rfl (rv_tmp rfl) (rv_tmp rfl) (d.ret ⟨p207, k208, c210, rfl, (d.outs [0] (by decide) rfl), (d.envAt 0 rfl)⟩))
theorem ref08_Meet_ok {w0 S0 p2 k3 p6 k7 a1 b5 r} (u : ref08_Meet a1 b5 = some r) (hS : Dm S0 w0) (h4 : (SlA p2 a1.length k3 a1).p S0 w0) (h8 : (SlA p6 b5.length k7 b5).p S0 w0) : Calls Tryz.prog 58 #[.slice p2 a1.length k3, .slice p6 b5.length k7] w0 (Ret ([]) w0 S0 (slices_Clone_Lapi_Span_api_Span_rd w0 ([]) r)) := by
 refine en 61 Tryz.func58 rfl hS rfl rfl rfl fun a s d => ?_
 have d := (d.addE h4).addE h8
 delta ref08_Meet at u
 refine sz 1 [] s d rfl rfl fun a s => ?_
 refine sn 1 [] s d rfl rfl fun a s => ?_
 obtain ⟨rv10, h9, u⟩ := bind_t u
 refine st_callR s (ref08_Normal_ok h9 d.dom (d.envAt 1 rfl)) (do_call Tryz.call55 rfl) trivial rfl rfl ?_
 rintro v18 Sv15 w a h16 ⟨p11, k12, c14, rfl, h19, h13⟩ s
 have d := (d.callN h16 h19).addE (e := RowA c14 rv10) h13
 refine mv s rfl rfl fun a s => ?_
 obtain ⟨rv21, h20, u⟩ := bind_t u
 refine st_callR s (ref08_Normal_ok h20 d.dom (d.envAt 1 rfl)) (do_call Tryz.call55 rfl) trivial rfl rfl ?_
 rintro v29 Sv26 w a h27 ⟨p22, k23, c25, rfl, h30, h24⟩ s
 have d := (d.callN h27 h30).addE (e := RowA c25 rv21) h24
 refine rz 2 [] s d rfl rfl fun a s => ?_
 refine sz 1 [] s d rfl rfl fun a s => ?_
 refine wp_seq (sz 1 [] s d rfl rfl fun a s => ?_)
 obtain ⟨e661, h1221, u⟩ := bind_t u
 refine wp_join (fun a w => ∃ c662 p663 k664 Sv665, Sl 61 [(7, .slice p663 e661.length k664)] a ∧ Wd ⟨w0, S0, []⟩ Sv665 [.row p663 e661.length k664 c662 71 2] [RowA c662 e661] w) ?_ ?_
 ·refine wp_block ?_
  have d := d.nilRow Span 71
  refine wp_while (fun sv31 a w => ∃ c448 p449 k450 Sv451, Sl 61 [(5, .slice p11 rv10.length k12), (6, .slice p22 rv21.length k23), (7, .slice p449 sv31.1.length k450), (8, .int .i64 sv31.2)] a ∧ Wd ⟨w0, S0, []⟩ Sv451 [.row p11 rv10.length k12 c14 71 2, .row p22 rv21.length k23 c25 71 2, .row p449 sv31.1.length k450 c448 71 2] [RowA c14 rv10, RowA c25 rv21, RowA c448 sv31.1] w) (([] : List Span), 0) h1221 ⟨[], none, 0, Sv26, (s.wk rfl), (d.ft [2, 1, 0] [2, 1, 0] (by decide) rfl rfl)⟩ ?_
  clear h1221
  repeat clear u
  rintro sv31 a w tv659 ⟨c448, p449, k450, Sv451, s, d⟩ u hd658
  delta ref08_Meet_l3 at u
  refine wp_seq (sz 4 [] s d rfl rfl fun a s => ?_)
  refine cd s u rfl (fun u => ?_) fun u => ?_
  ·refine wp_skip (then_normal (wp_seq (wp_block (sz 1 [] s d rfl rfl fun a s => ?_))))
   obtain ⟨e1069, h1207, u⟩ := bind_t u
   refine wp_join (fun a w => ∃ c1070 p1071 k1072 Sv1073, Sl 61 [(5, .slice p11 rv10.length k12), (6, .slice p22 rv21.length k23), (7, .slice p1071 e1069.length k1072), (8, .int .i64 sv31.2)] a ∧ Wd ⟨w0, S0, []⟩ Sv1073 [.row p11 rv10.length k12 c14 71 2, .row p22 rv21.length k23 c25 71 2, .row p1071 e1069.length k1072 c1070 71 2] [RowA c14 rv10, RowA c25 rv21, RowA c1070 e1069] w) ?_ ?_
   ·refine wp_block (wp_while (fun sv871 a w => ∃ c1000 p1001 k1002 Sv1003, Sl 61 [(5, .slice p11 rv10.length k12), (6, .slice p22 rv21.length k23), (7, .slice p1001 sv871.1.length k1002), (8, .int .i64 sv31.2), (9, .int .i64 sv871.2)] a ∧ Wd ⟨w0, S0, []⟩ Sv1003 [.row p11 rv10.length k12 c14 71 2, .row p22 rv21.length k23 c25 71 2, .row p1001 sv871.1.length k1002 c1000 71 2] [RowA c14 rv10, RowA c25 rv21, RowA c1000 sv871.1] w) (sv31.1, 0) h1207 ⟨c448, p449, k450, Sv451, (s.wk rfl), (d.ft [0, 1, 2] [0, 1, 2] (by decide) rfl rfl)⟩ ?_)
    clear h1207
    repeat clear u
    rintro sv871 a w tv1067 ⟨c1000, p1001, k1002, Sv1003, s, d⟩ u hd1066
    delta ref08_Meet_l6 at u
    refine wp_seq (sz 4 [] s d rfl rfl fun a s => ?_)
    refine cd s u rfl (fun u => ?_) fun u => ?_
    ·refine wp_skip (then_normal (wp_seq (wp_block (wp_seq ?_))))
     obtain ⟨x1137, h1135, u⟩ := bind_t u
     obtain ⟨b1144, q1141, c1142, h1145, h1138, h1139, h1143, h1136⟩ := d.elemRV (α := Span) 0 rfl 0 rfl h1135
     have hsv1146 := s
     have hwv1147 := d
     subst h1145
     have s := hsv1146
     have d := hwv1147
     obtain ⟨_, _, rfl, rfl, rfl⟩ := h1136
     obtain ⟨x1150, h1148, u⟩ := bind_t u
     obtain ⟨b1157, q1154, c1155, h1158, h1151, h1152, h1156, h1149⟩ := d.elemRV (α := Span) 1 rfl 1 rfl h1148
     have hsv1159 := s
     have hwv1160 := d
     subst h1158
     have s := hsv1159
     have d := hwv1160
     obtain ⟨_, _, rfl, rfl, rfl⟩ := h1149
     obtain ⟨x1163, h1161, u⟩ := bind_t u
     obtain ⟨q1167, c1168, h1164, h1165, h1169, h1162⟩ := d.elemRK (α := Span) 0 rfl 0 rfl h1161
     obtain ⟨_, _, rfl, rfl, rfl⟩ := h1162
     obtain ⟨x1172, h1170, u⟩ := bind_t u
     obtain ⟨q1176, c1177, h1173, h1174, h1178, h1171⟩ := d.elemRK (α := Span) 1 rfl 1 rfl h1170
     obtain ⟨_, _, rfl, rfl, rfl⟩ := h1171
     refine wp_only (fun a w => ∃ Sv1180 b1179, Sl 61 [(5, .slice (some ⟨b1144, 0, none⟩) rv10.length k12), (6, .slice (some ⟨b1157, 0, none⟩) rv21.length k23), (7, .slice p1001 sv871.1.length k1002), (8, .int .i64 sv31.2), (9, .int .i64 sv871.2), (10, .pointer (some ⟨b1179, 0, none⟩))] a ∧ Wd ⟨w0, S0, []⟩ Sv1180 [.box b1179 [.int .i64 (max x1137.From x1150.From), .int .i64 (min x1163.To x1172.To)] 71, .row (some ⟨b1144, 0, none⟩) rv10.length k12 c14 71 2, .row (some ⟨b1157, 0, none⟩) rv21.length k23 c25 71 2, .row p1001 sv871.1.length k1002 c1000 71 2] [RowA c14 rv10, RowA c25 rv21, RowA c1000 sv871.1] w) ?_ ?_
     ·refine h_c [0, 1, 2] [] d rfl rfl (by kernel_rfl) rfl fun hC d => ?_
      refine gn 2 [0, 1] [] s hC rfl rfl rfl fun a s => ?_
      refine gv s 2 rfl rfl hC (fun w hC => y_indexAt Tryz.runUnderlying30 Tryz.sizeOf71 rfl rfl h1138.1 h1138.2 h1139) fun a s => ?_
      refine gv s 3 rfl rfl hC (fun w hC => y_fieldAddr (o' := q1141 + 0) Tryz.runUnderlying71 rfl Tryz.sizeOf3 rfl rfl rfl) fun a s => ?_
      refine gv s 4 rfl rfl hC (fun w hC => y_loadQ1 (j := 0) (hC.ownAt 0 rfl) rfl Tryz.isAgg3 h1143 rfl) fun a s => ?_
      refine gn 2 [5, 6] [] s hC rfl rfl rfl fun a s => ?_
      refine gv s 7 rfl rfl hC (fun w hC => y_indexAt Tryz.runUnderlying30 Tryz.sizeOf71 rfl rfl h1151.1 h1151.2 h1152) fun a s => ?_
      refine gv s 8 rfl rfl hC (fun w hC => y_fieldAddr (o' := q1154 + 0) Tryz.runUnderlying71 rfl Tryz.sizeOf3 rfl rfl rfl) fun a s => ?_
      refine gv s 9 rfl rfl hC (fun w hC => y_loadQ1 (j := 0) (hC.ownAt 1 rfl) rfl Tryz.isAgg3 h1156 rfl) fun a s => ?_
      refine gn 3 [10, 11, 12] [] s hC rfl rfl rfl fun a s => ?_
      refine gv s 13 rfl rfl hC (fun w hC => y_indexAt Tryz.runUnderlying30 Tryz.sizeOf71 rfl rfl h1164.1 h1164.2 h1165) fun a s => ?_
      refine gv s 14 rfl rfl hC (fun w hC => y_fieldAddr (o' := q1167 + 1) Tryz.runUnderlying71 rfl Tryz.sizeOf3 rfl rfl rfl) fun a s => ?_
      refine gv s 15 rfl rfl hC (fun w hC => y_loadQ1 (j := 1) (hC.ownAt 0 rfl) rfl Tryz.isAgg3 h1169 rfl) fun a s => ?_
      refine gn 2 [16, 17] [] s hC rfl rfl rfl fun a s => ?_
      refine gv s 18 rfl rfl hC (fun w hC => y_indexAt Tryz.runUnderlying30 Tryz.sizeOf71 rfl rfl h1173.1 h1173.2 h1174) fun a s => ?_
      refine gv s 19 rfl rfl hC (fun w hC => y_fieldAddr (o' := q1176 + 1) Tryz.runUnderlying71 rfl Tryz.sizeOf3 rfl rfl rfl) fun a s => ?_
      refine gv s 20 rfl rfl hC (fun w hC => y_loadQ1 (j := 1) (hC.ownAt 1 rfl) rfl Tryz.isAgg3 h1178 rfl) fun a s => ?_
      refine gv s 21 rfl rfl hC (fun w hC => y_min rfl rfl) fun a s => ?_
      refine gv s 22 rfl rfl hC (fun w hC => y_build (vs := [(0, .int .i64 (max x1137.From x1150.From)), (1, .int .i64 (min x1163.To x1172.To))]) Bld71 rfl rfl) fun a s => ?_
      refine ho 23 rfl ?_
      refine w_alloc (cs := [.int .i64 0, .int .i64 0]) s d Tryz.zeroValue71 rfl rfl trivial ?_
      intro b1179 a w s d
      refine h_n [1, 2, 3] [] d rfl rfl fun hC => ?_
      refine ho 24 rfl ?_
      refine w_store (m := 2) (cs' := [.int .i64 (max x1137.From x1150.From), .int .i64 (min x1163.To x1172.To)]) s d 0 rfl rfl rfl Tryz.sizeOf71 rfl rfl rfl rfl trivial ?_
      intro a w s d
      refine h_n [1, 2, 3] [] d rfl rfl fun hC => ?_
      refine h_done (by kernel_rfl) ?_
      exact ⟨Sv1003, b1179, (s.wk rfl), (d.ft [0, 1, 2, 3] [0, 1, 2] (by decide) rfl rfl)⟩
     rintro a w ⟨Sv1180, b1179, s, d⟩
     refine then_normal (sz 5 [0, 0] s d rfl rfl fun a s => ?_)
     refine wp_join (fun a w => ∃ (out1193 : (List Span)) (c1189 p1190 k1191 Sv1192 : _), ref08_Meet_j1 sv871 out1193 = some tv1067 ∧ Sl 61 [(5, .slice (some ⟨b1144, 0, none⟩) rv10.length k12), (6, .slice (some ⟨b1157, 0, none⟩) rv21.length k23), (7, .slice p1190 out1193.length k1191), (8, .int .i64 sv31.2), (9, .int .i64 sv871.2)] a ∧ Wd ⟨w0, S0, []⟩ Sv1192 [.row (some ⟨b1144, 0, none⟩) rv10.length k12 c14 71 2, .row (some ⟨b1157, 0, none⟩) rv21.length k23 c25 71 2, .row p1190 out1193.length k1191 c1189 71 2] [RowA c14 rv10, RowA c25 rv21, RowA c1189 out1193] w) ?_ ?_
     ·refine cd s u rfl (fun u => ?_) fun u => ?_
      ·refine wp_region_lit (rn 2 [0] s d rfl rfl fun a s => ?_)
       refine w_litSlice (α := Span) (vs := [.agg #[.int .i64 (max x1137.From x1150.From), .int .i64 (min x1163.To x1172.To)]]) (cs := [.int .i64 (max x1137.From x1150.From), .int .i64 (min x1163.To x1172.To)]) (xs := ([(⟨(max x1137.From x1150.From), (min x1163.To x1172.To)⟩ : Span)] : List Span)) s d El30 rfl rfl rfl rfl rfl rfl ⟨⟨_, _, rfl, rfl, rfl⟩, rfl⟩ rfl trivial rfl fun b1198 a w s d => ?_
       obtain ⟨l1200, h1199, u⟩ := bind_t u
       refine w_appendR (α := Span) s d El30 4 rfl rfl rfl 3 rfl 0 rfl 0 rfl h1199 rfl trivial ?_
       intro p1201 k1202 c1203 a w s d
       refine rz 1 [] s d rfl rfl fun a s => ?_
       exact ⟨l1200, c1203, p1201, k1202, Sv1180, u, (s.wk rfl), (d.ft [2, 3, 4] [2, 3, 0] (by decide) rfl rfl)⟩
      exact wp_skip (then_normal ⟨sv871.1, c1000, p1001, k1002, Sv1180, u, (s.wk rfl), (d.ft [1, 2, 3] [0, 1, 2] (by decide) rfl rfl)⟩)
     rintro a w ⟨out1193, c1189, p1190, k1191, Sv1192, u, s, d⟩
     delta ref08_Meet_j1 at u
     refine blk_normal (then_normal (wp_region_lit (rn 2 [] s d rfl rfl fun a s => ?_)))
     obtain ⟨k1195, h1194, u⟩ := bind_t u
     refine sv s (y_assignI rfl h1194) rfl fun a s => ?_
     exact nl ⟨_, (Option.some.inj u).symm, c1189, p1190, k1191, Sv1192, (s.wk rfl), (d.ft [0, 1, 2] [0, 1, 2] (by decide) rfl rfl)⟩
    refine wp_exit (then_exit (then_exit (blk_exit ?_)))
    have u := oi u
    subst u
    have h1204 := hd1066 _ rfl
    subst h1204
    exact then_normal ⟨c1000, p1001, k1002, Sv1003, (s.wk rfl), (d.ft [0, 1, 2] [0, 1, 2] (by decide) rfl rfl)⟩
   rintro a w ⟨c1070, p1071, k1072, Sv1073, s, d⟩
   refine blk_normal (then_normal (wp_region_lit (rn 2 [] s d rfl rfl fun a s => ?_)))
   obtain ⟨i1206, h1205, u⟩ := bind_t u
   refine sv s (y_assignI rfl h1205) rfl fun a s => ?_
   exact nl ⟨_, (Option.some.inj u).symm, c1070, p1071, k1072, Sv1073, (s.wk rfl), (d.ft [0, 1, 2] [0, 1, 2] (by decide) rfl rfl)⟩
  refine wp_exit (then_exit (then_exit (blk_exit ?_)))
  have u := oi u
  subst u
  have h1208 := hd658 _ rfl
  subst h1208
  exact then_normal ⟨c448, p449, k450, Sv451, (s.wk rfl), (d.ft [2] [2] (by decide) rfl rfl)⟩
 rintro a w ⟨c662, p663, k664, Sv665, s, d⟩
 refine then_normal (sn 1 [] s d rfl rfl fun a s => ?_)
 obtain ⟨rv1210, h1209, u⟩ := bind_t u
 obtain ⟨Sv1215, d⟩ := w_share (α := Span) d 0 rfl 0 rfl
 refine st_callR s (ref08_Normal_ok h1209 d.dom (d.envAt 0 rfl)) (do_call Tryz.call55 rfl) trivial rfl rfl ?_
 rintro v1219 Sv1216 w a h1217 ⟨p1211, k1212, c1214, rfl, h1220, h1213⟩ s
 have d := (d.callN h1217 h1220).addE (e := RowA c1214 rv1210) h1213
 refine rz 1 [] s d rfl rfl fun a s => ?_
 have u := oi u
 subst u
 exact wp_ret (ret1 s rfl (rv_tmp rfl) (d.ret ⟨p1211, k1212, c1214, rfl, (d.outs [0] (by decide) rfl), (d.envAt 0 rfl)⟩))
theorem ref08_Cut_ok {w0 S0 p2 k3 l1 from5 to6 r} (u : ref08_Cut l1 from5 to6 = some r) (hS : Dm S0 w0) (h4 : (SlA p2 l1.length k3 l1).p S0 w0) : Calls Tryz.prog 21 #[.slice p2 l1.length k3, .int .i64 from5, .int .i64 to6] w0 (Ret ([]) w0 S0 (slices_Clone_Lapi_Span_api_Span_rd w0 ([]) r)) := by
 refine en 13 Tryz.func21 rfl hS rfl rfl rfl fun a s d => ?_
 have d := d.addE h4
 delta ref08_Cut at u
 refine sz 1 [] s d rfl rfl fun a s => ?_
 refine sn 3 [] s d rfl rfl fun a s => ?_
 refine sv s (y_build (vs := [(0, .int .i64 from5), (1, .int .i64 to6)]) Bld71 rfl rfl) rfl fun a s => ?_
 refine w_litSlice (α := Span) (vs := [.agg #[.int .i64 from5, .int .i64 to6]]) (cs := [.int .i64 from5, .int .i64 to6]) (xs := ([(⟨from5, to6⟩ : Span)] : List Span)) s d El30 rfl rfl rfl rfl rfl rfl ⟨⟨_, _, rfl, rfl, rfl⟩, rfl⟩ rfl trivial rfl fun b8 a w s d => ?_
 obtain ⟨rv10, h9, u⟩ := bind_t u
 obtain ⟨Sv15, d⟩ := w_share (α := Span) d 0 rfl 0 rfl
 refine st_callR s (ref08_Meet_ok h9 d.dom (d.envAt 2 rfl) (d.envAt 0 rfl)) (do_call Tryz.call58 rfl) trivial rfl rfl ?_
 rintro v19 Sv16 w a h17 ⟨p11, k12, c14, rfl, h20, h13⟩ s
 have d := (d.callN h17 h20).addE (e := RowA c14 rv10) h13
 refine rz 1 [] s d rfl rfl fun a s => ?_
 have u := oi u
 subst u
 exact wp_ret (ret1 s rfl (rv_tmp rfl) (d.ret ⟨p11, k12, c14, rfl, (d.outs [0] (by decide) rfl), (d.envAt 0 rfl)⟩))
theorem ref08_near_ok {w0 S0 p2 k3 l1 r} (u : ref08_near l1 = some r) (hS : Dm S0 w0) (h4 : (SlA p2 l1.length k3 l1).p S0 w0) : Calls Tryz.prog 57 #[.slice p2 l1.length k3] w0 (Ret ([]) w0 S0 (made_Light_rd w0 ([]) r)) := by
 refine en 26 Tryz.func57 rfl hS rfl rfl rfl fun a s d => ?_
 have d := d.addE h4
 delta ref08_near at u
 refine sz 1 [] s d rfl rfl fun a s => ?_
 refine wp_seq (sz 1 [] s d rfl rfl fun a s => ?_)
 refine wp_block (wp_while (fun sv181 a w => ∃ Sv297, Sl 26 [(0, .slice p2 l1.length k3), (3, .int .i64 sv181)] a ∧ Wd ⟨w0, S0, []⟩ Sv297 [] [SlA p2 l1.length k3 l1] w) 0 u ⟨S0, (s.wk rfl), (d.ft [] [0] (by decide) rfl rfl)⟩ ?_)
 repeat clear u
 rintro sv181 a w tv356 ⟨Sv297, s, d⟩ u hd355
 delta ref08_near_l2 at u
 refine wp_seq (sz 4 [] s d rfl rfl fun a s => ?_)
 refine cd s u rfl (fun u => ?_) fun u => ?_
 ·refine wp_skip (then_normal (wp_seq (wp_block (sn 2 [] s d rfl rfl fun a s => ?_))))
  obtain ⟨x417, h415, u⟩ := bind_t u
  obtain ⟨b423, o424, q421, c422, h425, h418, h419, h420, h416⟩ := d.elemV 0 rfl h415
  have hsv426 := s
  have hwv427 := d
  subst h425
  have s := hsv426
  have d := hwv427
  obtain ⟨_, _, rfl, rfl, rfl⟩ := h416
  have d := d.addE h420
  refine sv s (y_indexAt Tryz.runUnderlying30 Tryz.sizeOf71 rfl rfl h418.1 h418.2 h419) rfl fun a s => ?_
  refine sv s (y_fieldAddr (o' := q421 + 0) Tryz.runUnderlying71 rfl Tryz.sizeOf3 rfl rfl rfl) rfl fun a s => ?_
  refine sv s (y_loadE1 (j := 0) (d.ceAt 0 rfl) rfl Tryz.isAgg3 rfl) rfl fun a s => ?_
  obtain ⟨rv429, h428, u⟩ := bind_t u
  refine st_callR s (ref01_In_ok h428 d.bdom) (do_call Tryz.call61 rfl) trivial rfl rfl ?_
  rintro v433 Sv430 w a h431 rfl s
  have d := d.callB h431
  refine rn 2 [] s d rfl rfl fun a s => ?_
  obtain ⟨c451, hc451, u⟩ := bind_t u
  refine wpl_join 8 (fun a w => ∃ Sv452, Sl 26 [(0, .slice (some ⟨b423, o424, none⟩) l1.length k3), (3, .int .i64 sv181), (25, .bool c451)] a ∧ Wd ⟨w0, S0, []⟩ Sv452 [] [SlA (some ⟨b423, o424, none⟩) l1.length k3 l1] w) ?_ ?_
  ·rcases Bool.eq_false_or_eq_true (!rv429) with h450 | h450
   ·have s := s.fix 17 (.bool true) rfl (vb h450)
    have u := ite_t hc451 h450
    refine rn 8 [] s d rfl rfl fun a s => ?_
    refine wpList_nil ?_
    have u := oi u
    subst u
    exact then_normal ⟨Sv297, (s.wk rfl), (d.ft [] [1] (by decide) rfl rfl)⟩
   have s := s.fix 17 (.bool false) rfl (vb h450)
   have u := ite_f hc451 h450
   refine rn 2 [] s d rfl rfl fun a s => ?_
   obtain ⟨x455, h453, u⟩ := bind_t u
   obtain ⟨q459, c460, h456, h457, h458, h454⟩ := d.elemK 1 rfl h453
   obtain ⟨_, _, rfl, rfl, rfl⟩ := h454
   have d := d.addE h458
   refine st_val s (y_indexAt Tryz.runUnderlying30 Tryz.sizeOf71 rfl rfl h456.1 h456.2 h457) ⟨_, rfl, rfl⟩ rfl rfl fun a s => ?_
   refine st_val s (y_fieldAddr (o' := q459 + 1) Tryz.runUnderlying71 rfl Tryz.sizeOf3 rfl rfl rfl) ⟨_, rfl, rfl⟩ rfl rfl fun a s => ?_
   refine st_val s (y_loadE1 (j := 1) (d.ceAt 0 rfl) rfl Tryz.isAgg3 rfl) ⟨_, rfl, rfl⟩ rfl rfl fun a s => ?_
   obtain ⟨rv462, h461, u⟩ := bind_t u
   refine st_callR s (ref01_In_ok h461 d.bdom) (do_call Tryz.call61 rfl) ⟨_, rfl, rfl⟩ rfl rfl ?_
   rintro v466 Sv463 w a h464 rfl s
   have d := d.callB h464
   refine rn 2 [] s d rfl rfl fun a s => ?_
   refine wpList_nil ?_
   have u := oi u
   subst u
   exact then_normal ⟨Sv297, (s.wk rfl), (d.ft [] [2] (by decide) rfl rfl)⟩
  rintro a w ⟨Sv452, s, d⟩
  refine nl (cd s u rfl (fun u => ?_) fun u => ?_)
  ·refine sz 1 [] s d rfl rfl fun a s => ?_
   have u := oi u
   subst u
   have h470 := hd355 _ rfl
   subst h470
   exact wp_ret (blk_ret (then_ret (then_ret (blk_ret (then_ret (ret1 s rfl (rv_tmp rfl) (d.ret rfl)))))))
  refine wp_skip (blk_normal (then_normal (wp_region_lit (rn 2 [] s d rfl rfl fun a s => ?_))))
  obtain ⟨i472, h471, u⟩ := bind_t u
  refine sv s (y_assignI rfl h471) rfl fun a s => ?_
  exact nl ⟨_, (Option.some.inj u).symm, Sv452, (s.wk rfl), (d.ft [] [0] (by decide) rfl rfl)⟩
 obtain ⟨rv473, u, h474⟩ := map_t u
 have h474 := (hd355 _ h474.symm).symm
 subst h474
 refine wp_exit (then_exit (then_exit (blk_exit (then_normal (sz 1 [] s d rfl rfl fun a s => ?_)))))
 have u := oi u
 subst u
 exact wp_ret (ret1 s rfl (rv_tmp rfl) (d.ret rfl))
abbrev ref08_Length_rd (w0 : World) (X : List Nat) (r : (Int × Bool)) : Rd := fun S w v => v = .tuple #[.int .i64 r.1, .bool r.2]
theorem ref08_Length_ok {w0 S0 p2 k3 l1 r} (u : ref08_Length l1 = some r) (hS : Dm S0 w0) (h4 : (SlA p2 l1.length k3 l1).p S0 w0) : Calls Tryz.prog 20 #[.slice p2 l1.length k3] w0 (Ret ([]) w0 S0 (ref08_Length_rd w0 ([]) r)) := by
 refine en 32 Tryz.func20 rfl hS rfl rfl rfl fun a s d => ?_
 have d := d.addE h4
 delta ref08_Length at u
 refine sz 2 [] s d rfl rfl fun a s => ?_
 refine sn 1 [] s d rfl rfl fun a s => ?_
 obtain ⟨rv6, h5, u⟩ := bind_t u
 refine st_callR s (ref08_Normal_ok h5 d.dom (d.envAt 0 rfl)) (do_call Tryz.call55 rfl) trivial rfl rfl ?_
 rintro v14 Sv11 w a h12 ⟨p7, k8, c10, rfl, h15, h9⟩ s
 have d := (d.callN h12 h15).addE (e := RowA c10 rv6) h9
 refine rz 1 [] s d rfl rfl fun a s => ?_
 refine wp_seq (sn 1 [] s d rfl rfl fun a s => ?_)
 obtain ⟨rv17, h16, u⟩ := bind_t u
 refine st_callR s (ref08_near_ok h16 d.bdom (d.bRow 0 rfl 0 rfl)) (do_call Tryz.call57 rfl) trivial rfl rfl ?_
 rintro v21 Sv18 w a h19 rfl s
 have d := d.callB h19
 refine rz 1 [] s d rfl rfl fun a s => ?_
 refine cd s u rfl (fun u => ?_) fun u => ?_
 ·refine sz 2 [] s d rfl rfl fun a s => ?_
  have u := oi u
  subst u
  exact wp_ret (then_ret (ret2 s rfl (rv_tmp rfl) (rv_tmp rfl) (d.ret rfl)))
 refine wp_skip (then_normal (sz 1 [] s d rfl rfl fun a s => ?_))
 refine wp_seq (sz 1 [] s d rfl rfl fun a s => ?_)
 obtain ⟨e115, h172, u⟩ := bind_t u
 refine wp_join (fun a w => ∃ Sv116, Sl 32 [(5, .int .i64 e115)] a ∧ Wd ⟨w0, S0, []⟩ Sv116 [] [] w) ?_ ?_
 ·refine wp_block (wp_while (fun sv25 a w => ∃ Sv83, Sl 32 [(4, .slice p7 rv6.length k8), (5, .int .i64 sv25.1), (6, .int .i64 sv25.2)] a ∧ Wd ⟨w0, S0, []⟩ Sv83 [.row p7 rv6.length k8 c10 71 2] [RowA c10 rv6] w) (0, 0) h172 ⟨Sv11, (s.wk rfl), (d.ft [0] [0] (by decide) rfl rfl)⟩ ?_)
  clear h172
  repeat clear u
  rintro sv25 a w tv113 ⟨Sv83, s, d⟩ u hd112
  delta ref08_Length_l1 at u
  refine wp_seq (sz 4 [] s d rfl rfl fun a s => ?_)
  refine cd s u rfl (fun u => ?_) fun u => ?_
  ·refine wp_skip (then_normal (wp_seq (wp_block ?_)))
   obtain ⟨x146, h144, u⟩ := bind_t u
   obtain ⟨b153, q150, c151, h154, h147, h148, h152, h145⟩ := d.elemRV (α := Span) 0 rfl 0 rfl h144
   have hsv155 := s
   have hwv156 := d
   subst h154
   have s := hsv155
   have d := hwv156
   obtain ⟨_, _, rfl, rfl, rfl⟩ := h145
   obtain ⟨x159, h157, u⟩ := bind_t u
   obtain ⟨q163, c164, h160, h161, h165, h158⟩ := d.elemRK (α := Span) 0 rfl 0 rfl h157
   obtain ⟨_, _, rfl, rfl, rfl⟩ := h158
   obtain ⟨n167, h166, u⟩ := bind_t u
   refine wp_only (fun a w => ∃ Sv168, Sl 32 [(4, .slice (some ⟨b153, 0, none⟩) rv6.length k8), (5, .int .i64 n167), (6, .int .i64 sv25.2)] a ∧ Wd ⟨w0, S0, []⟩ Sv168 [.row (some ⟨b153, 0, none⟩) rv6.length k8 c10 71 2] [RowA c10 rv6] w) ?_ ?_
   ·refine h_c [0] [] d rfl rfl (by kernel_rfl) rfl fun hC d => ?_
    refine gn 3 [0, 1, 2] [] s hC rfl rfl rfl fun a s => ?_
    refine gv s 3 rfl rfl hC (fun w hC => y_indexAt Tryz.runUnderlying30 Tryz.sizeOf71 rfl rfl h147.1 h147.2 h148) fun a s => ?_
    refine gv s 4 rfl rfl hC (fun w hC => y_fieldAddr (o' := q150 + 1) Tryz.runUnderlying71 rfl Tryz.sizeOf3 rfl rfl rfl) fun a s => ?_
    refine gv s 5 rfl rfl hC (fun w hC => y_loadQ1 (j := 1) (hC.ownAt 0 rfl) rfl Tryz.isAgg3 h152 rfl) fun a s => ?_
    refine gn 2 [6, 7] [] s hC rfl rfl rfl fun a s => ?_
    refine gv s 8 rfl rfl hC (fun w hC => y_indexAt Tryz.runUnderlying30 Tryz.sizeOf71 rfl rfl h160.1 h160.2 h161) fun a s => ?_
    refine gv s 9 rfl rfl hC (fun w hC => y_fieldAddr (o' := q163 + 0) Tryz.runUnderlying71 rfl Tryz.sizeOf3 rfl rfl rfl) fun a s => ?_
    refine gv s 10 rfl rfl hC (fun w hC => y_loadQ1 (j := 0) (hC.ownAt 0 rfl) rfl Tryz.isAgg3 h165 rfl) fun a s => ?_
    refine gn 2 [11, 12] [] s hC rfl rfl rfl fun a s => ?_
    refine gv s 13 rfl rfl hC (fun w hC => y_assignI rfl h166) fun a s => ?_
    refine h_done (by kernel_rfl) ?_
    exact ⟨Sv83, (s.wk rfl), (d.ft [0] [0] (by decide) rfl rfl)⟩
   rintro a w ⟨Sv168, s, d⟩
   refine blk_normal (then_normal (wp_region_lit (rn 2 [] s d rfl rfl fun a s => ?_)))
   obtain ⟨i170, h169, u⟩ := bind_t u
   refine sv s (y_assignI rfl h169) rfl fun a s => ?_
   exact nl ⟨_, (Option.some.inj u).symm, Sv168, (s.wk rfl), (d.ft [0] [0] (by decide) rfl rfl)⟩
  refine wp_exit (then_exit (then_exit (blk_exit ?_)))
  have u := oi u
  subst u
  have h171 := hd112 _ rfl
  subst h171
  exact then_normal ⟨Sv83, (s.wk rfl), (d.ft [] [] (by decide) rfl rfl)⟩
 rintro a w ⟨Sv116, s, d⟩
 refine then_normal (sz 3 [] s d rfl rfl fun a s => ?_)
 have u := oi u
 subst u
 exact wp_ret (ret2 s rfl (rv_tmp rfl) (rv_tmp rfl) (d.ret rfl))
theorem law16_ContinuityDivides_ok {w0 S0 p2 k3 t1 n5 r} (u : law16_ContinuityDivides t1 n5 = some r) (hS : Dm S0 w0) (h4 : (SlA p2 t1.length k3 t1).p S0 w0) : Calls Tryz.prog 3 #[.slice p2 t1.length k3, .int .u16 n5] w0 (Ret ([]) w0 S0 (made_Light_rd w0 ([]) r)) := by
 refine en 200 Tryz.func3 rfl hS rfl rfl rfl fun a s d => ?_
 have d := d.addE h4
 delta law16_ContinuityDivides at u
 refine sz 1 [] s d rfl rfl fun a s => ?_
 refine wp_seq (sn 1 [] s d rfl rfl fun a s => ?_)
 obtain ⟨rv7, h6, u⟩ := bind_t u
 refine st_callR s (made_Light_ok h6 d.bdom (d.bE 0 rfl)) (do_call Tryz.call9 rfl) trivial rfl rfl ?_
 rintro v11 Sv8 w a h9 rfl s
 have d := d.callB h9
 refine rz 1 [] s d rfl rfl fun a s => ?_
 refine cd s u rfl (fun u => ?_) fun u => ?_
 ·refine sr ?_
  obtain ⟨rv23, h22, u⟩ := bind_t u
  refine st_callR s (law16_sane_ok h22 d.bdom) (do_call Tryz.call10 rfl) trivial rfl rfl ?_
  rintro v27 Sv24 w a h25 rfl s
  have d := d.callB h25
  refine rz 1 [] s d rfl rfl fun a s => ?_
  have u := oi u
  subst u
  exact wp_ret (then_ret (ret1 s rfl (rv_tmp rfl) (d.ret rfl)))
 refine wp_skip (then_normal (sn 1 [] s d rfl rfl fun a s => ?_))
 obtain ⟨rv30, h29, u⟩ := bind_t u
 refine st_callR s (made_Roll_ok h29 d.dom (d.envAt 0 rfl)) (do_call Tryz.call11 rfl) trivial rfl rfl ?_
 rintro v38 Sv35 w a h36 ⟨b31, p32, k33, rfl, h39, h34⟩ s
 have d := (d.callN h36 h39).addE (e := SlA p32 rv30.L.length k33 rv30.L) h34
 refine rz 1 [] s d rfl rfl fun a s => ?_
 refine sn 1 [] s d rfl rfl fun a s => ?_
 obtain ⟨rv41, h40, u⟩ := bind_t u
 refine st_callR s (made_Dice_Records_ok h40 d.dom (d.ins [0] (by decide) rfl) (d.envAt 0 rfl)) (do_call Tryz.call12 rfl) trivial rfl rfl ?_
 rintro v52 Sv49 w a h50 ⟨p42, k43, c45, p46, k47, rfl, h53, h44, h48⟩ s
 have d := ((d.callO [0] [] (by decide) rfl h50 h53).addE (e := RowA c45 rv41.1) h44).addE (e := SlA p46 rv41.2.L.length k47 rv41.2.L) h48
 refine rz 1 [] s d rfl rfl fun a s => ?_
 refine sz 2 [] s d rfl rfl fun a s => ?_
 refine sn 2 [] s d rfl rfl fun a s => ?_
 refine sv s (y_convert Tryz.runUnderlying23 Tryz.runUnderlying3 rfl) rfl fun a s => ?_
 refine sv s (y_rem rfl rfl (by decide)) rfl fun a s => ?_
 refine rn 2 [] s d rfl rfl fun a s => ?_
 obtain ⟨mid55, h54, u⟩ := bind_t u
 refine sv s (y_assignI rfl h54) rfl fun a s => ?_
 refine nl (sn 3 [] s d rfl rfl fun a s => ?_)
 obtain ⟨rv57, h56, u⟩ := bind_t u
 obtain ⟨Sv62, d⟩ := w_share (α := Record) d 0 rfl 1 rfl
 refine st_callR s (continuity_Gaps_ok h56 d.dom (d.envAt 0 rfl)) (do_call Tryz.call13 rfl) trivial rfl rfl ?_
 rintro v66 Sv63 w a h64 ⟨p58, k59, c61, rfl, h67, h60⟩ s
 have d := (d.callN h64 h67).addE (e := RowA c61 rv57.1) h60
 refine rz 5 [] s d rfl rfl fun a s => ?_
 refine sn 3 [] s d rfl rfl fun a s => ?_
 obtain ⟨rv69, h68, u⟩ := bind_t u
 refine st_callR s (continuity_Gaps_ok h68 d.dom (d.envAt 1 rfl)) (do_call Tryz.call13 rfl) trivial rfl rfl ?_
 rintro v77 Sv74 w a h75 ⟨p70, k71, c73, rfl, h78, h72⟩ s
 have d := (d.callN h75 h78).addE (e := RowA c73 rv69.1) h72
 refine rz 5 [] s d rfl rfl fun a s => ?_
 refine sn 3 [] s d rfl rfl fun a s => ?_
 obtain ⟨rv80, h79, u⟩ := bind_t u
 refine st_callR s (continuity_Gaps_ok h79 d.dom (d.envAt 2 rfl)) (do_call Tryz.call13 rfl) trivial rfl rfl ?_
 rintro v88 Sv85 w a h86 ⟨p81, k82, c84, rfl, h89, h83⟩ s
 have d := (d.callN h86 h89).addE (e := RowA c84 rv80.1) h83
 refine rz 5 [] s d rfl rfl fun a s => ?_
 refine sn 3 [] s d rfl rfl fun a s => ?_
 obtain ⟨rv91, h90, u⟩ := bind_t u
 refine st_callR s (continuity_Overlaps_ok h90 d.dom (d.envAt 3 rfl)) (do_call Tryz.call14 rfl) trivial rfl rfl ?_
 rintro v99 Sv96 w a h97 ⟨p92, k93, c95, rfl, h100, h94⟩ s
 have d := (d.callN h97 h100).addE (e := RowA c95 rv91.1) h94
 refine rz 5 [] s d rfl rfl fun a s => ?_
 refine sn 2 [] s d rfl rfl fun a s => ?_
 obtain ⟨rv102, h101, u⟩ := bind_t u
 refine st_callR s (continuity_Depth_ok h101 d.bdom (d.bE 4 rfl)) (do_call Tryz.call15 rfl) trivial rfl rfl ?_
 rintro v106 Sv103 w a h104 rfl s
 have d := d.callB h104
 refine rz 1 [] s d rfl rfl fun a s => ?_
 refine wp_seq (sn 3 [] s d rfl rfl fun a s => ?_)
 refine rO 3 75 [] s d rfl rfl rfl rfl rfl fun a s => ?_
 refine mv s rfl rfl fun a s => ?_
 refine rO 3 79 [] s d rfl rfl rfl rfl rfl fun a s => ?_
 refine mv s rfl rfl fun a s => ?_
 refine rO 3 83 [] s d rfl rfl rfl rfl rfl fun a s => ?_
 refine mv s rfl rfl fun a s => ?_
 obtain ⟨c132, hc132, u⟩ := bind_t u
 refine wpl_join 7 (fun a w => ∃ Sv133, Sl 200 [(6, .slice p42 rv41.1.length k43), (7, .int .i64 999999000000), (8, .int .i64 1000016000000), (9, .int .i64 mid55), (10, .slice p58 rv57.1.length k59), (16, .slice p92 rv91.1.length k93), (18, .int .i64 rv102), (94, .bool c132)] a ∧ Wd ⟨w0, S0, []⟩ Sv133 [.row p58 rv57.1.length k59 c61 71 2, .row p92 rv91.1.length k93 c95 42 3] [SlA p42 rv41.1.length k43 rv41.1, RowA c61 rv57.1, RowA c95 rv91.1] w) ?_ ?_
 ·rcases Bool.eq_false_or_eq_true ((((rv57.2 != 0) || (rv69.2 != 0)) || (rv80.2 != 0)) || (rv91.2 != 0)) with h131 | h131
  ·have s := s.fix 87 (.bool true) rfl (vb h131)
   have u := ite_t hc132 h131
   refine rn 7 [] s d rfl rfl fun a s => ?_
   refine wpList_nil ?_
   have u := oi u
   subst u
   exact then_normal ⟨Sv96, (s.wk rfl), (d.ft [3, 0] [4, 3, 0] (by decide) rfl rfl)⟩
  have s := s.fix 87 (.bool false) rfl (vb h131)
  have u := ite_f hc132 h131
  refine rn 3 [] s d rfl rfl fun a s => ?_
  obtain ⟨rv135, h134, u⟩ := bind_t u
  obtain ⟨Sv140, d⟩ := w_share (α := Span) d 2 rfl 2 rfl
  obtain ⟨Sv141, d⟩ := w_share (α := Span) d 1 rfl 2 rfl
  refine st_callR s (ref08_Union_ok h134 d.dom (d.envAt 1 rfl) (d.envAt 0 rfl)) (do_call Tryz.call17 rfl) ⟨_, rfl, rfl⟩ rfl rfl ?_
  rintro v145 Sv142 w a h143 ⟨p136, k137, c139, rfl, h146, h138⟩ s
  have d := (d.callN h143 h146).addE (e := RowA c139 rv135) h138
  obtain ⟨rv148, h147, u⟩ := bind_t u
  refine st_callR s (ref08_Same_ok h147 d.bdom (d.bRow 2 rfl 6 rfl) (d.bRow 0 rfl 0 rfl)) (do_call Tryz.call16 rfl) ⟨_, rfl, rfl⟩ rfl rfl ?_
  rintro v152 Sv149 w a h150 rfl s
  have d := d.callB h150
  refine rn 2 [] s d rfl rfl fun a s => ?_
  refine wpList_nil ?_
  have u := oi u
  subst u
  exact then_normal ⟨Sv142, (s.wk rfl), (d.ft [2, 1] [7, 6, 3] (by decide) rfl rfl)⟩
 rintro a w ⟨Sv133, s, d⟩
 refine mv s rfl rfl fun a s => ?_
 obtain ⟨c162, hc162, u⟩ := bind_t u
 refine wpl_join 7 (fun a w => ∃ Sv163, Sl 200 [(6, .slice p42 rv41.1.length k43), (7, .int .i64 999999000000), (8, .int .i64 1000016000000), (9, .int .i64 mid55), (10, .slice p58 rv57.1.length k59), (16, .slice p92 rv91.1.length k93), (18, .int .i64 rv102), (102, .bool c162)] a ∧ Wd ⟨w0, S0, []⟩ Sv163 [.row p58 rv57.1.length k59 c61 71 2, .row p92 rv91.1.length k93 c95 42 3] [SlA p42 rv41.1.length k43 rv41.1, RowA c61 rv57.1, RowA c95 rv91.1] w) ?_ ?_
 ·rcases Bool.eq_false_or_eq_true c132 with h161 | h161
  ·have s := s.fix 95 (.bool true) rfl (vb h161)
   have u := ite_t hc162 h161
   refine rn 7 [] s d rfl rfl fun a s => ?_
   refine wpList_nil ?_
   have u := oi u
   subst u
   exact then_normal ⟨Sv133, (s.wk rfl), (d.ft [0, 1] [0, 1, 2] (by decide) rfl rfl)⟩
  have s := s.fix 95 (.bool false) rfl (vb h161)
  have u := ite_f hc162 h161
  refine rn 2 [] s d rfl rfl fun a s => ?_
  obtain ⟨rv165, h164, u⟩ := bind_t u
  refine st_callR s (ref08_Has_ok h164 d.bdom (d.bRow 0 rfl 1 rfl)) (do_call Tryz.call18 rfl) ⟨_, rfl, rfl⟩ rfl rfl ?_
  rintro v169 Sv166 w a h167 rfl s
  have d := d.callB h167
  refine rn 2 [] s d rfl rfl fun a s => ?_
  refine st_val s (y_neqB Tryz.runUnderlying4 rfl rfl) ⟨_, rfl, rfl⟩ rfl rfl fun a s => ?_
  refine sv s (y_pickF rfl rfl) rfl fun a s => ?_
  refine wpList_nil ?_
  have u := oi u
  subst u
  exact then_normal ⟨Sv133, (s.wk rfl), (d.ft [0, 1] [0, 1, 2] (by decide) rfl rfl)⟩
 rintro a w ⟨Sv163, s, d⟩
 refine nl (cd s u rfl (fun u => ?_) fun u => ?_)
 ·refine sz 1 [] s d rfl rfl fun a s => ?_
  have u := oi u
  subst u
  exact wp_ret (then_ret (ret1 s rfl (rv_tmp rfl) (d.ret rfl)))
 refine wp_skip (then_normal (sz 1 [] s d rfl rfl fun a s => ?_))
 refine wp_seq (sz 3 [] s d rfl rfl fun a s => ?_)
 refine wp_block (wp_while (fun sv333 a w => ∃ Sv437, Sl 200 [(6, .slice p42 rv41.1.length k43), (7, .int .i64 999999000000), (8, .int .i64 1000016000000), (9, .int .i64 mid55), (10, .slice p58 rv57.1.length k59), (16, .slice p92 rv91.1.length k93), (18, .int .i64 rv102), (19, .bool sv333.1), (103, .slice p92 rv91.1.length k93), (104, .int .i64 (rv91.1.length : Int)), (105, .int .i64 sv333.2)] a ∧ Wd ⟨w0, S0, []⟩ Sv437 [.row p58 rv57.1.length k59 c61 71 2, .row p92 rv91.1.length k93 c95 42 3] [SlA p42 rv41.1.length k43 rv41.1, RowA c61 rv57.1, RowA c95 rv91.1] w) (false, 0) u ⟨Sv163, (s.wk rfl), (d.ft [0, 1] [0, 1, 2] (by decide) rfl rfl)⟩ ?_)
 repeat clear u
 rintro sv333 a w tv492 ⟨Sv437, s, d⟩ u hd491
 delta law16_ContinuityDivides_l2 at u
 refine sz 1 [] s d rfl rfl fun a s => ?_
 refine wp_seq (cd s u rfl (fun u => ?_) fun u => ?_)
 ·refine wp_skip (then_normal (wp_seq (wp_block (sn 1 [] s d rfl rfl fun a s => ?_))))
  obtain ⟨x551, h549, u⟩ := bind_t u
  obtain ⟨b558, q555, c556, h559, h552, h553, h557, h550⟩ := d.elemRV (α := Overlap) 1 rfl 2 rfl h549
  have hsv560 := s
  have hwv561 := d
  subst h559
  have s := hsv560
  have d := hwv561
  obtain ⟨_, _, _, rfl, rfl, rfl, rfl⟩ := h550
  refine sv s (y_indexAt Tryz.runUnderlying34 Tryz.sizeOf42 rfl rfl h552.1 h552.2 h553) rfl fun a s => ?_
  refine sv s (y_loadQA (j := 0) (d.ownAt 1 rfl) rfl Tryz.isAgg42 Tryz.sizeOf42 h557 rfl rfl) rfl fun a s => ?_
  refine w_alloc (cs := [.int .i64 0, .int .i64 0, .bool false]) s d Tryz.zeroValue42 rfl rfl trivial ?_
  intro b562 a w s d
  refine av s rfl rfl fun a s => ?_
  refine w_store (m := 3) (cs' := (C42 x551)) s d 0 rfl rfl rfl Tryz.sizeOf42 rfl rfl rfl rfl trivial ?_
  intro a w s d
  refine nl (wp_seq (wp_seq ?_))
  obtain ⟨c593, hc593, u⟩ := bind_t u
  refine wp_only (fun a w => ∃ Sv594, Sl 200 [(6, .slice p42 rv41.1.length k43), (7, .int .i64 999999000000), (8, .int .i64 1000016000000), (9, .int .i64 mid55), (10, .slice p58 rv57.1.length k59), (16, .slice (some ⟨b558, 0, none⟩) rv91.1.length k93), (18, .int .i64 rv102), (19, .bool sv333.1), (21, .pointer (some ⟨b562, 0, none⟩)), (103, .slice (some ⟨b558, 0, none⟩) rv91.1.length k93), (104, .int .i64 (rv91.1.length : Int)), (105, .int .i64 sv333.2), (151, .bool c593)] a ∧ Wd ⟨w0, S0, []⟩ Sv594 [.box b562 (C42 x551) 42, .row p58 rv57.1.length k59 c61 71 2, .row (some ⟨b558, 0, none⟩) rv91.1.length k93 c95 42 3] [SlA p42 rv41.1.length k43 rv41.1, RowA c61 rv57.1, RowA c95 rv91.1] w) ?_ ?_
  ·rcases Bool.eq_false_or_eq_true (decide (x551.To ≤ x551.From)) with h595 | h595
   ·have h596 := ite_t hc593 h595
    refine h_c [0, 1, 2] [] d rfl rfl (by kernel_rfl) rfl fun hC d => ?_
    refine gn 6 [0, 1, 2, 3, 4, 5] [0, 0] s hC rfl rfl rfl fun a s => ?_
    have s := s.fix 115 (.bool true) rfl (vb h595)
    refine gn 35 [6, 7, 8, 9, 10, 11, 12, 13, 14, 15, 16, 17, 18, 19, 20, 21, 22, 23, 24, 25, 26, 27, 28, 29, 30, 31, 32, 33, 34, 35, 36, 37, 38, 39, 40] [] s hC rfl rfl rfl fun a s => ?_
    refine gv s 41 rfl rfl hC (fun w hC => y_pickTE (v := .bool c593) rfl rfl (vbs h596)) fun a s => ?_
    refine h_done (by kernel_rfl) ?_
    exact ⟨Sv437, (s.wk rfl), (d.ft [0, 1, 2] [0, 1, 2] (by decide) rfl rfl)⟩
   have h597 := ite_f hc593 h595
   obtain ⟨c627, hc627, h597⟩ := bind_t h597
   rcases Bool.eq_false_or_eq_true (decide (0 < sv333.2)) with h628 | h628
   ·have h629 := ite_t hc627 h628
    obtain ⟨x632, h630, h629⟩ := bind_t h629
    obtain ⟨q636, c637, h633, h634, h638, h631⟩ := d.elemRK (α := Overlap) 2 rfl 2 rfl h630
    obtain ⟨_, _, _, rfl, rfl, rfl, rfl⟩ := h631
    obtain ⟨c658, hc658, h629⟩ := bind_t h629
    rcases Bool.eq_false_or_eq_true (decide (x551.From < x632.To)) with h659 | h659
    ·have h660 := ite_t hc658 h659
     refine h_c [0, 1, 2] [] d rfl rfl (by kernel_rfl) rfl fun hC d => ?_
     refine gn 6 [0, 1, 2, 3, 4, 5] [0, 0] s hC rfl rfl rfl fun a s => ?_
     have s := s.fix 115 (.bool false) rfl (vb h595)
     refine gn 3 [6, 7, 8] [] s hC rfl rfl rfl fun a s => ?_
     have s := s.fix 118 (.bool true) rfl (vb h628)
     refine gn 5 [9, 10, 11, 12, 13] [0] s hC rfl rfl rfl fun a s => ?_
     refine gt s 14 rfl ⟨_, rfl, rfl⟩ rfl hC (fun w hC => y_indexAt Tryz.runUnderlying34 Tryz.sizeOf42 rfl rfl h633.1 h633.2 h634) fun a s => ?_
     refine gt s 15 rfl ⟨_, rfl, rfl⟩ rfl hC (fun w hC => y_fieldAddr (o' := q636 + 1) Tryz.runUnderlying42 rfl Tryz.sizeOf3 rfl rfl rfl) fun a s => ?_
     refine gt s 16 rfl ⟨_, rfl, rfl⟩ rfl hC (fun w hC => y_loadQ1 (j := 1) (hC.ownAt 2 rfl) rfl Tryz.isAgg3 h638 rfl) fun a s => ?_
     refine gn 2 [17, 18] [] s hC rfl rfl rfl fun a s => ?_
     have s := s.fix 128 (.bool true) rfl (vb h659)
     refine gn 20 [19, 20, 21, 22, 23, 24, 25, 26, 27, 28, 29, 30, 31, 32, 33, 34, 35, 36, 37, 38] [] s hC rfl rfl rfl fun a s => ?_
     refine gt s 39 rfl ⟨_, rfl, rfl⟩ rfl hC (fun w hC => y_pickTE (v := .bool c658) rfl rfl (vbs h660)) fun a s => ?_
     refine gt s 40 rfl ⟨_, rfl, rfl⟩ rfl hC (fun w hC => y_pickTE (v := .bool c627) rfl rfl (vbs h629)) fun a s => ?_
     refine gv s 41 rfl rfl hC (fun w hC => y_pickFE (v := .bool c593) rfl rfl (vbs h597)) fun a s => ?_
     refine h_done (by kernel_rfl) ?_
     exact ⟨Sv437, (s.wk rfl), (d.ft [0, 1, 2] [0, 1, 2] (by decide) rfl rfl)⟩
    have h661 := ite_f hc658 h659
    obtain ⟨x664, h662, h661⟩ := bind_t h661
    obtain ⟨q668, c669, h665, h666, h670, h663⟩ := d.elemRK (α := Overlap) 2 rfl 2 rfl h662
    obtain ⟨_, _, _, rfl, rfl, rfl, rfl⟩ := h663
    obtain ⟨c680, hc680, h661⟩ := bind_t h661
    rcases Bool.eq_false_or_eq_true (x551.From == x664.To) with h681 | h681
    ·have h682 := ite_t hc680 h681
     obtain ⟨x685, h683, h682⟩ := bind_t h682
     obtain ⟨q689, c690, h686, h687, h691, h684⟩ := d.elemRK (α := Overlap) 2 rfl 2 rfl h683
     obtain ⟨_, _, _, rfl, rfl, rfl, rfl⟩ := h684
     refine h_c [0, 1, 2] [] d rfl rfl (by kernel_rfl) rfl fun hC d => ?_
     refine gn 6 [0, 1, 2, 3, 4, 5] [0, 0] s hC rfl rfl rfl fun a s => ?_
     have s := s.fix 115 (.bool false) rfl (vb h595)
     refine gn 3 [6, 7, 8] [] s hC rfl rfl rfl fun a s => ?_
     have s := s.fix 118 (.bool true) rfl (vb h628)
     refine gn 5 [9, 10, 11, 12, 13] [0] s hC rfl rfl rfl fun a s => ?_
     refine gt s 14 rfl ⟨_, rfl, rfl⟩ rfl hC (fun w hC => y_indexAt Tryz.runUnderlying34 Tryz.sizeOf42 rfl rfl h633.1 h633.2 h634) fun a s => ?_
     refine gt s 15 rfl ⟨_, rfl, rfl⟩ rfl hC (fun w hC => y_fieldAddr (o' := q636 + 1) Tryz.runUnderlying42 rfl Tryz.sizeOf3 rfl rfl rfl) fun a s => ?_
     refine gt s 16 rfl ⟨_, rfl, rfl⟩ rfl hC (fun w hC => y_loadQ1 (j := 1) (hC.ownAt 2 rfl) rfl Tryz.isAgg3 h638 rfl) fun a s => ?_
     refine gn 2 [17, 18] [] s hC rfl rfl rfl fun a s => ?_
     have s := s.fix 128 (.bool false) rfl (vb h659)
     refine gn 5 [19, 20, 21, 22, 23] [0] s hC rfl rfl rfl fun a s => ?_
     refine gt s 24 rfl ⟨_, rfl, rfl⟩ rfl hC (fun w hC => y_indexAt Tryz.runUnderlying34 Tryz.sizeOf42 rfl rfl h665.1 h665.2 h666) fun a s => ?_
     refine gt s 25 rfl ⟨_, rfl, rfl⟩ rfl hC (fun w hC => y_fieldAddr (o' := q668 + 1) Tryz.runUnderlying42 rfl Tryz.sizeOf3 rfl rfl rfl) fun a s => ?_
     refine gt s 26 rfl ⟨_, rfl, rfl⟩ rfl hC (fun w hC => y_loadQ1 (j := 1) (hC.ownAt 2 rfl) rfl Tryz.isAgg3 h670 rfl) fun a s => ?_
     refine gn 2 [27, 28] [] s hC rfl rfl rfl fun a s => ?_
     have s := s.fix 138 (.bool true) rfl (vb h681)
     refine gn 5 [29, 30, 31, 32, 33] [0] s hC rfl rfl rfl fun a s => ?_
     refine gt s 34 rfl ⟨_, rfl, rfl⟩ rfl hC (fun w hC => y_indexAt Tryz.runUnderlying34 Tryz.sizeOf42 rfl rfl h686.1 h686.2 h687) fun a s => ?_
     refine gt s 35 rfl ⟨_, rfl, rfl⟩ rfl hC (fun w hC => y_fieldAddr (o' := q689 + 2) Tryz.runUnderlying42 rfl Tryz.sizeOf4 rfl rfl rfl) fun a s => ?_
     refine gt s 36 rfl ⟨_, rfl, rfl⟩ rfl hC (fun w hC => y_loadQ1 (j := 2) (hC.ownAt 2 rfl) rfl Tryz.isAgg4 h691 rfl) fun a s => ?_
     refine gt s 37 rfl ⟨_, rfl, rfl⟩ rfl hC (fun w hC => y_eqlB Tryz.runUnderlying4 rfl rfl) fun a s => ?_
     refine gt s 38 rfl ⟨_, rfl, rfl⟩ rfl hC (fun w hC => y_pickTE (v := .bool c680) rfl rfl (vbs h682)) fun a s => ?_
     refine gt s 39 rfl ⟨_, rfl, rfl⟩ rfl hC (fun w hC => y_pickFE (v := .bool c658) rfl rfl (vbs h661)) fun a s => ?_
     refine gt s 40 rfl ⟨_, rfl, rfl⟩ rfl hC (fun w hC => y_pickTE (v := .bool c627) rfl rfl (vbs h629)) fun a s => ?_
     refine gv s 41 rfl rfl hC (fun w hC => y_pickFE (v := .bool c593) rfl rfl (vbs h597)) fun a s => ?_
     refine h_done (by kernel_rfl) ?_
     exact ⟨Sv437, (s.wk rfl), (d.ft [0, 1, 2] [0, 1, 2] (by decide) rfl rfl)⟩
    have h692 := ite_f hc680 h681
    refine h_c [0, 1, 2] [] d rfl rfl (by kernel_rfl) rfl fun hC d => ?_
    refine gn 6 [0, 1, 2, 3, 4, 5] [0, 0] s hC rfl rfl rfl fun a s => ?_
    have s := s.fix 115 (.bool false) rfl (vb h595)
    refine gn 3 [6, 7, 8] [] s hC rfl rfl rfl fun a s => ?_
    have s := s.fix 118 (.bool true) rfl (vb h628)
    refine gn 5 [9, 10, 11, 12, 13] [0] s hC rfl rfl rfl fun a s => ?_
    refine gt s 14 rfl ⟨_, rfl, rfl⟩ rfl hC (fun w hC => y_indexAt Tryz.runUnderlying34 Tryz.sizeOf42 rfl rfl h633.1 h633.2 h634) fun a s => ?_
    refine gt s 15 rfl ⟨_, rfl, rfl⟩ rfl hC (fun w hC => y_fieldAddr (o' := q636 + 1) Tryz.runUnderlying42 rfl Tryz.sizeOf3 rfl rfl rfl) fun a s => ?_
    refine gt s 16 rfl ⟨_, rfl, rfl⟩ rfl hC (fun w hC => y_loadQ1 (j := 1) (hC.ownAt 2 rfl) rfl Tryz.isAgg3 h638 rfl) fun a s => ?_
    refine gn 2 [17, 18] [] s hC rfl rfl rfl fun a s => ?_
    have s := s.fix 128 (.bool false) rfl (vb h659)
    refine gn 5 [19, 20, 21, 22, 23] [0] s hC rfl rfl rfl fun a s => ?_
    refine gt s 24 rfl ⟨_, rfl, rfl⟩ rfl hC (fun w hC => y_indexAt Tryz.runUnderlying34 Tryz.sizeOf42 rfl rfl h665.1 h665.2 h666) fun a s => ?_
    refine gt s 25 rfl ⟨_, rfl, rfl⟩ rfl hC (fun w hC => y_fieldAddr (o' := q668 + 1) Tryz.runUnderlying42 rfl Tryz.sizeOf3 rfl rfl rfl) fun a s => ?_
    refine gt s 26 rfl ⟨_, rfl, rfl⟩ rfl hC (fun w hC => y_loadQ1 (j := 1) (hC.ownAt 2 rfl) rfl Tryz.isAgg3 h670 rfl) fun a s => ?_
    refine gn 2 [27, 28] [] s hC rfl rfl rfl fun a s => ?_
    have s := s.fix 138 (.bool false) rfl (vb h681)
    refine gn 9 [29, 30, 31, 32, 33, 34, 35, 36, 37] [] s hC rfl rfl rfl fun a s => ?_
    refine gt s 38 rfl ⟨_, rfl, rfl⟩ rfl hC (fun w hC => y_pickFE (v := .bool c680) rfl rfl (vbs h692)) fun a s => ?_
    refine gt s 39 rfl ⟨_, rfl, rfl⟩ rfl hC (fun w hC => y_pickFE (v := .bool c658) rfl rfl (vbs h661)) fun a s => ?_
    refine gt s 40 rfl ⟨_, rfl, rfl⟩ rfl hC (fun w hC => y_pickTE (v := .bool c627) rfl rfl (vbs h629)) fun a s => ?_
    refine gv s 41 rfl rfl hC (fun w hC => y_pickFE (v := .bool c593) rfl rfl (vbs h597)) fun a s => ?_
    refine h_done (by kernel_rfl) ?_
    exact ⟨Sv437, (s.wk rfl), (d.ft [0, 1, 2] [0, 1, 2] (by decide) rfl rfl)⟩
   have h693 := ite_f hc627 h628
   refine h_c [0, 1, 2] [] d rfl rfl (by kernel_rfl) rfl fun hC d => ?_
   refine gn 6 [0, 1, 2, 3, 4, 5] [0, 0] s hC rfl rfl rfl fun a s => ?_
   have s := s.fix 115 (.bool false) rfl (vb h595)
   refine gn 3 [6, 7, 8] [] s hC rfl rfl rfl fun a s => ?_
   have s := s.fix 118 (.bool false) rfl (vb h628)
   refine gn 31 [9, 10, 11, 12, 13, 14, 15, 16, 17, 18, 19, 20, 21, 22, 23, 24, 25, 26, 27, 28, 29, 30, 31, 32, 33, 34, 35, 36, 37, 38, 39] [] s hC rfl rfl rfl fun a s => ?_
   refine gt s 40 rfl ⟨_, rfl, rfl⟩ rfl hC (fun w hC => y_pickFE (v := .bool c627) rfl rfl (vbs h693)) fun a s => ?_
   refine gv s 41 rfl rfl hC (fun w hC => y_pickFE (v := .bool c593) rfl rfl (vbs h597)) fun a s => ?_
   refine h_done (by kernel_rfl) ?_
   exact ⟨Sv437, (s.wk rfl), (d.ft [0, 1, 2] [0, 1, 2] (by decide) rfl rfl)⟩
  rintro a w ⟨Sv594, s, d⟩
  refine then_normal (cd s u rfl (fun u => ?_) fun u => ?_)
  ·refine sz 1 [] s d rfl rfl fun a s => ?_
   have u := oi u
   subst u
   have h696 := hd491 _ rfl
   subst h696
   exact wp_ret (then_ret (blk_ret (then_ret (then_ret (blk_ret (then_ret (ret1 s rfl (rv_tmp rfl) (d.ret rfl))))))))
  refine wp_skip (then_normal (wp_region_lit (rn 2 [] s d rfl rfl fun a s => ?_)))
  refine wpl_join 11 (fun a w1 => w = w1 ∧ Sl 200 [(6, .slice p42 rv41.1.length k43), (7, .int .i64 999999000000), (8, .int .i64 1000016000000), (9, .int .i64 mid55), (10, .slice p58 rv57.1.length k59), (16, .slice (some ⟨b558, 0, none⟩) rv91.1.length k93), (18, .int .i64 rv102), (103, .slice (some ⟨b558, 0, none⟩) rv91.1.length k93), (104, .int .i64 (rv91.1.length : Int)), (105, .int .i64 sv333.2), (164, .bool (sv333.1 || ((decide (x551.From ≤ mid55)) && (decide (mid55 < x551.To)))))] a) ?_ ?_
  ·rcases Bool.eq_false_or_eq_true sv333.1 with h698 | h698
   ·have s := s.fix 153 (.bool true) rfl (vb h698)
    refine rz 11 [] s d rfl rfl fun a s => ?_
    exact ⟨rfl, (s.fix 164 (.bool (sv333.1 || ((decide (x551.From ≤ mid55)) && (decide (mid55 < x551.To))))) rfl (or_t h698)).weaken _ ⟨rfl, rfl, rfl, rfl, rfl, rfl, rfl, rfl, rfl, rfl, rfl, trivial⟩⟩
   have s := s.fix 153 (.bool false) rfl (vb h698)
   refine rn 5 [0] s d rfl rfl fun a s => ?_
   refine rA 5 158 [0] s d rfl rfl rfl rfl rfl fun a s => ?_
   refine rz 1 [] s d rfl rfl fun a s => ?_
   exact ⟨rfl, (s.fix 164 (.bool (sv333.1 || ((decide (x551.From ≤ mid55)) && (decide (mid55 < x551.To))))) rfl (or_f h698)).weaken _ ⟨rfl, rfl, rfl, rfl, rfl, rfl, rfl, rfl, rfl, rfl, rfl, trivial⟩⟩
  rintro a w1 ⟨h701, s⟩
  subst h701
  refine av s rfl rfl fun a s => ?_
  refine wpList_nil ?_
  refine blk_normal (then_normal (wp_region_lit (rz 2 [] s d rfl rfl fun a s => ?_)))
  exact ⟨_, (Option.some.inj u).symm, Sv594, (s.wk rfl), (d.ft [1, 2] [0, 1, 2] (by decide) rfl rfl)⟩
 obtain ⟨rv757, u, h758⟩ := map_t u
 have h758 := (hd491 _ h758.symm).symm
 subst h758
 refine wp_exit (then_exit (then_exit (blk_exit (then_normal (sn 1 [] s d rfl rfl fun a s => ?_)))))
 obtain ⟨rv703, h702, u⟩ := bind_t u
 refine st_callR s (ref15_Covered_ok h702 d.dom (d.envAt 0 rfl)) (do_call Tryz.call19 rfl) trivial rfl rfl ?_
 rintro v711 Sv708 w a h709 ⟨p704, k705, c707, rfl, h712, h706⟩ s
 have d := (d.callN h709 h712).addE (e := RowA c707 rv703.1) h706
 refine rz 5 [] s d rfl rfl fun a s => ?_
 refine sn 3 [] s d rfl rfl fun a s => ?_
 obtain ⟨rv714, h713, u⟩ := bind_t u
 obtain ⟨Sv719, d⟩ := w_share (α := Span) d 0 rfl 0 rfl
 refine st_callR s (ref08_Cut_ok h713 d.dom (d.envAt 0 rfl)) (do_call Tryz.call21 rfl) trivial rfl rfl ?_
 rintro v723 Sv720 w a h721 ⟨p715, k716, c718, rfl, h724, h717⟩ s
 have d := (d.callN h721 h724).addE (e := RowA c718 rv714) h717
 obtain ⟨rv726, h725, u⟩ := bind_t u
 refine st_callR s (ref08_Length_ok h725 d.bdom (d.bRow 0 rfl 0 rfl)) (do_call Tryz.call20 rfl) trivial rfl rfl ?_
 rintro v730 Sv727 w a h728 rfl s
 have d := d.callB h728
 refine rz 5 [] s d rfl rfl fun a s => ?_
 refine sn 1 [] s d rfl rfl fun a s => ?_
 obtain ⟨rv733, h732, u⟩ := bind_t u
 refine st_callR s (ref08_Length_ok h732 d.bdom (d.bRow 1 rfl 4 rfl)) (do_call Tryz.call20 rfl) trivial rfl rfl ?_
 rintro v737 Sv734 w a h735 rfl s
 have d := d.callB h735
 refine rz 5 [] s d rfl rfl fun a s => ?_
 refine sn 3 [] s d rfl rfl fun a s => ?_
 refine sv s (y_eqlB Tryz.runUnderlying4 rfl rfl) rfl fun a s => ?_
 refine mv s rfl rfl fun a s => ?_
 refine rA 8 188 [] s d rfl rfl rfl rfl rfl fun a s => ?_
 refine mv s rfl rfl fun a s => ?_
 obtain ⟨c748, hc748, u⟩ := bind_t u
 refine wpl_join 2 (fun a w => ∃ Sv749, Sl 200 [(199, .bool c748)] a ∧ Wd ⟨w0, S0, []⟩ Sv749 [] [] w) ?_ ?_
 ·rcases Bool.eq_false_or_eq_true ((sv333.1 == (decide (2 ≤ rv102))) && ((w64 (rv726.1 + rv733.1)) == (w64 (1000016000000 - 999999000000)))) with h747 | h747
  ·have s := s.fix 197 (.bool true) rfl (vb h747)
   have u := ite_t hc748 h747
   obtain ⟨rv751, h750, u⟩ := bind_t u
   refine st_callR s (law16_sane_ok h750 d.bdom) (do_call Tryz.call10 rfl) ⟨_, rfl, rfl⟩ rfl rfl ?_
   rintro v755 Sv752 w a h753 rfl s
   have d := d.callB h753
   refine sv s (y_pickT rfl rfl) rfl fun a s => ?_
   refine wpList_nil ?_
   have u := oi u
   subst u
   exact then_normal ⟨Sv720, (s.wk rfl), (d.ft [] [] (by decide) rfl rfl)⟩
  have s := s.fix 197 (.bool false) rfl (vb h747)
  have u := ite_f hc748 h747
  refine rn 2 [] s d rfl rfl fun a s => ?_
  refine wpList_nil ?_
  have u := oi u
  subst u
  exact then_normal ⟨Sv720, (s.wk rfl), (d.ft [] [] (by decide) rfl rfl)⟩
 rintro a w ⟨Sv749, s, d⟩
 refine rz 1 [] s d rfl rfl fun a s => ?_
 have u := oi u
 subst u
 exact wp_ret (ret1 s rfl (rv_tmp rfl) (d.ret rfl))
end Go.Proofs.YtdcafiefjakfeaaGreat.Wk

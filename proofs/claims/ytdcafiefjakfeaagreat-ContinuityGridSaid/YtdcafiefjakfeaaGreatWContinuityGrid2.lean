/- The walks of ContinuityGrid, part 2: each Go function computes what its plain program computes. Printed by a program of ours. -/
import Derived.Test.YtdcafiefjakfeaaGreatProg
import Derived.Test.YtdcafiefjakfeaaGreatDat
import Derived.Test.YtdcafiefjakfeaaGreatSh
import Derived.Test.YtdcafiefjakfeaaGreatLa1
import Derived.KernelRfl
import Derived.Test.YtdcafiefjakfeaaGreatLb1
import Derived.Shelf.SlLaysF0
import Derived.Shelf.SlLaysM
import Derived.Test.YtdcafiefjakfeaaGreatWContinuityGrid1
namespace Go.Proofs.YtdcafiefjakfeaaGreat.Wk
open Go Go.RowKit Go.Proofs Go.Proofs.YtdcafiefjakfeaaGreat.Sh
set_option linter.unusedVariables false
set_option linter.unusedSimpArgs false
set_option maxHeartbeats 4000000
set_option maxRecDepth 100000
theorem law16_sane_ok {w0 S0 r} (u : law16_sane = some r) (hS : Dm S0 w0) : Calls Tryz.prog 10 #[] w0 (Ret ([]) w0 S0 (made_Light_rd w0 ([]) r)) := by
 refine en 57 Tryz.func10 rfl hS rfl rfl rfl fun a s d => ?_
 delta law16_sane at u
 refine sz 1 [] s d rfl rfl fun a s => ?_
 refine sr (sv s (y_build (vs := [(0, .string (⟨#[65]⟩ : ByteArray)), (1, .string (⟨#[66]⟩ : ByteArray)), (3, .string (⟨#[72, 72, 90]⟩ : ByteArray))]) Bld52 rfl rfl) rfl fun a s => ?_)
 refine w_alloc (cs := Z1) s d Tryz.zeroValue52 rfl rfl trivial ?_
 intro b1 a w s d
 refine w_store (m := 4) (cs' := Z2) s d 0 rfl rfl rfl Tryz.sizeOf52 rfl rfl rfl rfl trivial ?_
 intro a w s d
 refine nl (sr (sv s (y_build (vs := [(0, .int .i64 1), (1, .int .i64 10)]) Bld54 rfl rfl) rfl fun a s => ?_))
 refine w_alloc (cs := [.int .i64 0, .int .i64 0]) s d Tryz.zeroValue54 rfl rfl trivial ?_
 intro b2 a w s d
 refine w_store (m := 2) (cs' := [.int .i64 1, .int .i64 10]) s d 0 rfl rfl rfl Tryz.sizeOf54 rfl rfl rfl rfl trivial ?_
 intro a w s d
 refine nl (sn 2 [1, 0] s d rfl rfl fun a s => ?_)
 refine w_litSlice (α := Int) (vs := [.int .i64 1]) (cs := [.int .i64 1]) (xs := ([1] : List Int)) s d El22 rfl rfl rfl rfl rfl rfl ⟨⟨_, rfl, rfl⟩, rfl⟩ rfl trivial rfl fun b4 a w s d => ?_
 refine sv s (y_build (vs := [(0, .agg Z2.toArray), (3, .agg #[.int .i64 1, .int .i64 10]), (7, .slice (some ⟨b4, 0, none⟩) ([1] : List Int).length ([1] : List Int).length)]) Bld56 rfl rfl) rfl fun a s => ?_
 refine rn 2 [2, 1] s d rfl rfl fun a s => ?_
 refine w_litSlice (α := Int) (vs := [.int .i64 1]) (cs := [.int .i64 1]) (xs := ([1] : List Int)) s d El22 rfl rfl rfl rfl rfl rfl ⟨⟨_, rfl, rfl⟩, rfl⟩ rfl trivial rfl fun b6 a w s d => ?_
 refine sv s (y_build (vs := [(0, .agg Z2.toArray), (1, .int .i64 20000000), (3, .agg #[.int .i64 1, .int .i64 10]), (7, .slice (some ⟨b6, 0, none⟩) ([1] : List Int).length ([1] : List Int).length)]) Bld56 rfl rfl) rfl fun a s => ?_
 refine rn 2 [3, 2] s d rfl rfl fun a s => ?_
 refine w_litSlice (α := Int) (vs := [.int .i64 1]) (cs := [.int .i64 1]) (xs := ([1] : List Int)) s d El22 rfl rfl rfl rfl rfl rfl ⟨⟨_, rfl, rfl⟩, rfl⟩ rfl trivial rfl fun b8 a w s d => ?_
 refine sv s (y_build (vs := [(0, .agg Z2.toArray), (3, .agg #[.int .i64 1, .int .i64 10]), (6, .int .i64 1), (7, .slice (some ⟨b8, 0, none⟩) ([1] : List Int).length ([1] : List Int).length)]) Bld56 rfl rfl) rfl fun a s => ?_
 obtain ⟨l12, h11, u⟩ := bind_t u
 obtain ⟨Sv14, d⟩ := w_share (α := Int) d 2 rfl 0 rfl
 obtain ⟨Sv15, d⟩ := w_share (α := Int) d 1 rfl 1 rfl
 obtain ⟨Sv16, d⟩ := w_share (α := Int) d 0 rfl 2 rfl
 refine w_litSliceO (α := Record) (vs := [.agg #[.string (⟨#[65]⟩ : ByteArray), .string (⟨#[66]⟩ : ByteArray), .string ByteArray.empty, .string (⟨#[72, 72, 90]⟩ : ByteArray), .int .i64 0, .int .i64 0, .int .i64 1, .int .i64 10, .int .i64 0, .int .i64 0, .int .i64 0, .slice (some ⟨b4, 0, none⟩) ([1] : List Int).length ([1] : List Int).length], .agg #[.string (⟨#[65]⟩ : ByteArray), .string (⟨#[66]⟩ : ByteArray), .string ByteArray.empty, .string (⟨#[72, 72, 90]⟩ : ByteArray), .int .i64 20000000, .int .i64 0, .int .i64 1, .int .i64 10, .int .i64 0, .int .i64 0, .int .i64 0, .slice (some ⟨b6, 0, none⟩) ([1] : List Int).length ([1] : List Int).length], .agg #[.string (⟨#[65]⟩ : ByteArray), .string (⟨#[66]⟩ : ByteArray), .string ByteArray.empty, .string (⟨#[72, 72, 90]⟩ : ByteArray), .int .i64 0, .int .i64 0, .int .i64 1, .int .i64 10, .int .i64 0, .int .i64 0, .int .i64 1, .slice (some ⟨b8, 0, none⟩) ([1] : List Int).length ([1] : List Int).length]]) (cs := [.string (⟨#[65]⟩ : ByteArray), .string (⟨#[66]⟩ : ByteArray), .string ByteArray.empty, .string (⟨#[72, 72, 90]⟩ : ByteArray), .int .i64 0, .int .i64 0, .int .i64 1, .int .i64 10, .int .i64 0, .int .i64 0, .int .i64 0, .slice (some ⟨b4, 0, none⟩) ([1] : List Int).length ([1] : List Int).length, .string (⟨#[65]⟩ : ByteArray), .string (⟨#[66]⟩ : ByteArray), .string ByteArray.empty, .string (⟨#[72, 72, 90]⟩ : ByteArray), .int .i64 20000000, .int .i64 0, .int .i64 1, .int .i64 10, .int .i64 0, .int .i64 0, .int .i64 0, .slice (some ⟨b6, 0, none⟩) ([1] : List Int).length ([1] : List Int).length, .string (⟨#[65]⟩ : ByteArray), .string (⟨#[66]⟩ : ByteArray), .string ByteArray.empty, .string (⟨#[72, 72, 90]⟩ : ByteArray), .int .i64 0, .int .i64 0, .int .i64 1, .int .i64 10, .int .i64 0, .int .i64 0, .int .i64 1, .slice (some ⟨b8, 0, none⟩) ([1] : List Int).length ([1] : List Int).length]) (xs := ([(⟨(⟨(⟨#[65]⟩ : ByteArray), (⟨#[66]⟩ : ByteArray), ByteArray.empty, (⟨#[72, 72, 90]⟩ : ByteArray)⟩ : SourceID), 0, 0, (⟨1, 10⟩ : Rate), 0, 0, 0, ([1] : List Int)⟩ : Record), (⟨(⟨(⟨#[65]⟩ : ByteArray), (⟨#[66]⟩ : ByteArray), ByteArray.empty, (⟨#[72, 72, 90]⟩ : ByteArray)⟩ : SourceID), 20000000, 0, (⟨1, 10⟩ : Rate), 0, 0, 0, ([1] : List Int)⟩ : Record), (⟨(⟨(⟨#[65]⟩ : ByteArray), (⟨#[66]⟩ : ByteArray), ByteArray.empty, (⟨#[72, 72, 90]⟩ : ByteArray)⟩ : SourceID), 0, 0, (⟨1, 10⟩ : Rate), 0, 0, 1, ([1] : List Int)⟩ : Record)] : List Record)) s d El28 rfl rfl rfl rfl rfl rfl ⟨⟨_, _, _, _, _, _, _, _, _, _, _, _, rfl, rfl, rfl, rfl, rfl, rfl, rfl, rfl, rfl, rfl, rfl, rfl, ⟨_, _, _, rfl, d.envAt 2 rfl⟩⟩, ⟨⟨_, _, _, _, _, _, _, _, _, _, _, _, rfl, rfl, rfl, rfl, rfl, rfl, rfl, rfl, rfl, rfl, rfl, rfl, ⟨_, _, _, rfl, d.envAt 1 rfl⟩⟩, ⟨⟨_, _, _, _, _, _, _, _, _, _, _, _, rfl, rfl, rfl, rfl, rfl, rfl, rfl, rfl, rfl, rfl, rfl, rfl, ⟨_, _, _, rfl, d.envAt 0 rfl⟩⟩, rfl⟩⟩⟩ rfl trivial rfl h11 fun b10 c13 a w s d => ?_
 refine rz 1 [] s d rfl rfl fun a s => ?_
 refine sn 1 [] s d rfl rfl fun a s => ?_
 obtain ⟨rv18, h17, u⟩ := bind_t u
 obtain ⟨Sv23, d⟩ := w_share (α := Record) d 0 rfl 0 rfl
 refine st_callR s (continuity_Gaps_ok h17 d.dom (d.envAt 0 rfl)) (do_call Tryz.call13 rfl) trivial rfl rfl ?_
 rintro v27 Sv24 w a h25 ⟨p19, k20, c22, rfl, h28, h21⟩ s
 have d := (d.callN h25 h28).addE (e := RowA c22 rv18.1) h21
 refine rz 5 [] s d rfl rfl fun a s => ?_
 refine sn 1 [] s d rfl rfl fun a s => ?_
 obtain ⟨rv30, h29, u⟩ := bind_t u
 refine st_callR s (continuity_Overlaps_ok h29 d.dom (d.envAt 1 rfl)) (do_call Tryz.call14 rfl) trivial rfl rfl ?_
 rintro v38 Sv35 w a h36 ⟨p31, k32, c34, rfl, h39, h33⟩ s
 have d := (d.callN h36 h39).addE (e := RowA c34 rv30.1) h33
 refine rz 5 [] s d rfl rfl fun a s => ?_
 refine sn 3 [] s d rfl rfl fun a s => ?_
 refine rA 3 35 [] s d rfl rfl rfl rfl rfl fun a s => ?_
 refine mv s rfl rfl fun a s => ?_
 obtain ⟨c51, hc51, u⟩ := bind_t u
 refine wpl_join 5 (fun a w => ∃ Sv52, Sl 57 [(6, .slice p31 rv30.1.length k32), (44, .bool c51)] a ∧ Wd ⟨w0, S0, []⟩ Sv52 [.row p31 rv30.1.length k32 c34 42 3] [RowA c34 rv30.1] w) ?_ ?_
 ·rcases Bool.eq_false_or_eq_true ((rv18.2 == 0) && (rv30.2 == 0)) with h50 | h50
  ·have s := s.fix 39 (.bool true) rfl (vb h50)
   have u := ite_t hc51 h50
   refine st_val s (y_move rfl) ⟨_, rfl, rfl⟩ rfl rfl fun a s => ?_
   refine st_val s (y_build (vs := [(0, .int .i64 10000000), (1, .int .i64 20000000)]) Bld71 rfl rfl) ⟨_, rfl, rfl⟩ rfl rfl fun a s => ?_
   refine w_litSlice (α := Span) (vs := [.agg #[.int .i64 10000000, .int .i64 20000000]]) (cs := [.int .i64 10000000, .int .i64 20000000]) (xs := ([(⟨10000000, 20000000⟩ : Span)] : List Span)) s d El30 rfl rfl rfl rfl rfl rfl ⟨⟨_, _, rfl, rfl, rfl⟩, rfl⟩ rfl ⟨_, rfl, rfl⟩ rfl fun b54 a w s d => ?_
   obtain ⟨rv56, h55, u⟩ := bind_t u
   refine st_callR s (ref08_Same_ok h55 d.bdom (d.bRow 2 rfl 2 rfl) (d.bRow 0 rfl 0 rfl)) (do_call Tryz.call16 rfl) ⟨_, rfl, rfl⟩ rfl rfl ?_
   rintro v60 Sv57 w a h58 rfl s
   have d := d.callB h58
   refine sv s (y_pickT rfl rfl) rfl fun a s => ?_
   refine wpList_nil ?_
   have u := oi u
   subst u
   exact then_normal ⟨Sv35, (s.wk rfl), (d.ft [1] [1] (by decide) rfl rfl)⟩
  have s := s.fix 39 (.bool false) rfl (vb h50)
  have u := ite_f hc51 h50
  refine rn 5 [] s d rfl rfl fun a s => ?_
  refine wpList_nil ?_
  have u := oi u
  subst u
  exact then_normal ⟨Sv35, (s.wk rfl), (d.ft [0] [0] (by decide) rfl rfl)⟩
 rintro a w ⟨Sv52, s, d⟩
 refine mv s rfl rfl fun a s => ?_
 refine rA 4 45 [] s d rfl rfl rfl rfl rfl fun a s => ?_
 refine mv s rfl rfl fun a s => ?_
 obtain ⟨c77, hc77, u⟩ := bind_t u
 refine wpl_join 6 (fun a w => ∃ Sv78, Sl 57 [(56, .bool c77)] a ∧ Wd ⟨w0, S0, []⟩ Sv78 [] [] w) ?_ ?_
 ·rcases Bool.eq_false_or_eq_true (c51 && ((rv30.1.length : Int) == 1)) with h76 | h76
  ·have s := s.fix 50 (.bool true) rfl (vb h76)
   have u := ite_t hc77 h76
   refine st_val s (y_move rfl) ⟨_, rfl, rfl⟩ rfl rfl fun a s => ?_
   obtain ⟨x81, h79, u⟩ := bind_t u
   obtain ⟨b88, q85, c86, h89, h82, h83, h87, h80⟩ := d.elemRV (α := Overlap) 0 rfl 0 rfl h79
   have hsv90 := s
   have hwv91 := d
   subst h89
   have s := hsv90
   have d := hwv91
   obtain ⟨_, _, _, rfl, rfl, rfl, rfl⟩ := h80
   refine st_val s (y_indexAt Tryz.runUnderlying34 Tryz.sizeOf42 rfl rfl h82.1 h82.2 h83) ⟨_, rfl, rfl⟩ rfl rfl fun a s => ?_
   refine st_val s (y_loadQA (j := 0) (d.ownAt 0 rfl) rfl Tryz.isAgg42 Tryz.sizeOf42 h87 rfl rfl) ⟨_, rfl, rfl⟩ rfl rfl fun a s => ?_
   refine st_val s (y_build (vs := [(1, .int .i64 10000000), (2, .bool true)]) Bld42 rfl rfl) ⟨_, rfl, rfl⟩ rfl rfl fun a s => ?_
   refine st_val s (y_eqlA (by kernel_rfl) rfl rfl (eqv_struct Tryz.runUnderlying42 (by kernel_rfl) (EqF.cons1 rfl Tryz.isAgg3 rfl rfl (eqv_int Tryz.runUnderlying3) (EqF.cons1 rfl Tryz.isAgg3 rfl rfl (eqv_int Tryz.runUnderlying3) (EqF.cons1 rfl Tryz.isAgg4 rfl rfl (eqv_bool Tryz.runUnderlying4) EqF.nil))))) ⟨_, rfl, rfl⟩ rfl rfl fun a s => ?_
   refine sv s (y_pickT rfl rfl) rfl fun a s => ?_
   refine wpList_nil ?_
   have u := oi u
   subst u
   exact then_normal ⟨Sv52, (s.wk rfl), (d.ft [] [] (by decide) rfl rfl)⟩
  have s := s.fix 50 (.bool false) rfl (vb h76)
  have u := ite_f hc77 h76
  refine rn 6 [] s d rfl rfl fun a s => ?_
  refine wpList_nil ?_
  have u := oi u
  subst u
  exact then_normal ⟨Sv52, (s.wk rfl), (d.ft [] [] (by decide) rfl rfl)⟩
 rintro a w ⟨Sv78, s, d⟩
 refine rz 1 [] s d rfl rfl fun a s => ?_
 have u := oi u
 subst u
 exact wp_ret (ret1 s rfl (rv_tmp rfl) (d.ret rfl))
abbrev made_Roll_rd (w0 : World) (X : List Nat) (r : Dice) : Rd := fun S w v => ∃ b_0 p0_0 k0_0, v = .pointer (some ⟨b_0, 0, none⟩) ∧ Outs X w0 S w [.box b_0 (C87 r p0_0 k0_0) 87] ∧ (SlA p0_0 r.L.length k0_0 r.L).p S w
theorem made_Roll_ok {w0 S0 p2 k3 l1 r} (u : made_Roll l1 = some r) (hS : Dm S0 w0) (h4 : (SlA p2 l1.length k3 l1).p S0 w0) : Calls Tryz.prog 11 #[.slice p2 l1.length k3] w0 (Ret ([]) w0 S0 (made_Roll_rd w0 ([]) r)) := by
 refine en 6 Tryz.func11 rfl hS rfl rfl rfl fun a s d => ?_
 have d := d.addE h4
 delta made_Roll at u
 refine sz 1 [] s d rfl rfl fun a s => ?_
 refine sn 1 [] s d rfl rfl fun a s => ?_
 refine sv s (y_build (vs := [(0, .slice p2 l1.length k3)]) Bld87 rfl rfl) rfl fun a s => ?_
 refine w_box (cs := [.slice p2 l1.length k3, .int .i64 0]) s d rfl rfl rfl trivial ?_
 intro b5 a w s d
 refine rz 1 [] s d rfl rfl fun a s => ?_
 have u := oi u
 subst u
 exact wp_ret (ret1 s rfl (rv_tmp rfl) (d.ret ⟨b5, p2, k3, rfl, (d.outs [0] (by decide) rfl), (d.envAt 0 rfl)⟩))
abbrev made_Dice_Next_rd (w0 : World) (X : List Nat) (b2 : Nat) (r : (Int × Dice)) : (Nat → Prop) → World → Value → Prop := fun S w v => ∃ pq0_0 kq0_0, v = .int .i64 r.1 ∧ Outs X w0 S w [.box b2 (C87 r.2 pq0_0 kq0_0) 87] ∧ (SlA pq0_0 r.2.L.length kq0_0 r.2.L).p S w
theorem made_Dice_Next_ok {w0 S0 b2 p3 k4 d1 n6 r} (u : made_Dice_Next d1 n6 = some r) (hS : Dm S0 w0) (hin : Ins S0 w0 [.box b2 (C87 d1 p3 k4) 87]) (h5 : (SlA p3 d1.L.length k4 d1.L).p S0 w0) : Calls Tryz.prog 30 #[.pointer (some ⟨b2, 0, none⟩), .int .i64 n6] w0 (Ret (blks [.box b2 (C87 d1 p3 k4) 87]) w0 S0 (made_Dice_Next_rd w0 (blks [.box b2 (C87 d1 p3 k4) 87]) b2 r)) := by
 refine enI 45 Tryz.func30 rfl hS hin rfl rfl rfl fun a s d => ?_
 have d := d.addE h5
 delta made_Dice_Next at u
 refine sz 1 [] s d rfl rfl fun a s => ?_
 refine wp_seq (wp_seq (wp_only (fun a w => ∃ Sv7, Sl 45 [(0, .pointer (some ⟨b2, 0, none⟩)), (1, .int .i64 n6), (19, .bool ((decide ((d1.L.length : Int) ≤ d1.At)) || (decide (n6 < 1))))] a ∧ Wd ⟨w0, S0, blks [.box b2 (C87 d1 p3 k4) 87]⟩ Sv7 [.box b2 (C87 d1 p3 k4) 87] [SlA p3 d1.L.length k4 d1.L] w) ?_ ?_))
 ·refine h_c [0] [] d rfl rfl (by kernel_rfl) rfl fun hC d => ?_
  refine gn 11 [0, 1, 2, 3, 4, 5, 6, 7, 8, 9, 10] [0, 0] s hC rfl rfl rfl fun a s => ?_
  refine gO 3 16 [11, 12, 13] [] s hC rfl rfl rfl rfl rfl rfl fun a s => ?_
  refine h_done (by kernel_rfl) ?_
  exact ⟨S0, (s.wk rfl), (d.ft [0] [0] (by decide) rfl rfl)⟩
 rintro a w ⟨Sv7, s, d⟩
 refine then_normal (cd s u rfl (fun u => ?_) fun u => ?_)
 ·refine sz 1 [] s d rfl rfl fun a s => ?_
  have u := oi u
  subst u
  exact wp_ret (then_ret (ret1 s rfl (rv_tmp rfl) (d.ret ⟨p3, k4, rfl, (d.outs [0] (by decide) rfl), (d.envAt 0 rfl)⟩)))
 refine wp_skip (then_normal (wp_seq ?_))
 obtain ⟨x12, h10, u⟩ := bind_t u
 obtain ⟨b18, o19, q16, c17, h20, h13, h14, h15, h11⟩ := d.elemV 0 rfl h10
 have hsv21 := s
 have hwv22 := d
 subst h20
 have s := hsv21
 have d := hwv22
 obtain ⟨_, rfl, rfl⟩ := h11
 have d := d.addE h15
 obtain ⟨rem24, h23, u⟩ := bind_t u
 refine wp_only (fun a w => ∃ Sv25, Sl 45 [(0, .pointer (some ⟨b2, 0, none⟩)), (1, .int .i64 n6), (5, .int .i64 rem24)] a ∧ Wd ⟨w0, S0, blks [.box b2 (C87 d1 (some ⟨b18, o19, none⟩) k4) 87]⟩ Sv25 [.box b2 (C87 d1 (some ⟨b18, o19, none⟩) k4) 87] [SlA (some ⟨b18, o19, none⟩) d1.L.length k4 d1.L] w) ?_ ?_
 ·refine h_c [0] [0] d rfl rfl (by kernel_rfl) rfl fun hC d => ?_
  refine gn 8 [0, 1, 2, 3, 4, 5, 6, 7] [0, 0] s hC rfl rfl rfl fun a s => ?_
  refine gv s 8 rfl rfl hC (fun w hC => y_indexAt Tryz.runUnderlying22 Tryz.sizeOf3 rfl rfl h13.1 h13.2 h14) fun a s => ?_
  refine gv s 9 rfl rfl hC (fun w hC => y_loadE1 (j := 0) (hC.ceAt 0 rfl) rfl Tryz.isAgg3 rfl) fun a s => ?_
  refine gm s 10 rfl rfl rfl hC fun a s => ?_
  refine gv s 11 rfl rfl hC (fun w hC => y_remM rfl rfl h23) fun a s => ?_
  refine gv s 12 rfl rfl hC (fun w hC => y_assign rfl) fun a s => ?_
  refine h_done (by kernel_rfl) ?_
  exact ⟨Sv7, (s.wk rfl), (d.ft [0] [1] (by decide) rfl rfl)⟩
 rintro a w ⟨Sv25, s, d⟩
 refine then_normal (sn 7 [0] s d rfl rfl fun a s => ?_)
 refine w_store (m := 1) (cs' := [.slice (some ⟨b18, o19, none⟩) d1.L.length k4, .int .i64 (w64 (d1.At + 1))]) s d 0 rfl rfl rfl Tryz.sizeOf3 rfl rfl rfl rfl trivial ?_
 intro a w s d
 refine nl (wp_seq (sz 2 [] s d rfl rfl fun a s => ?_))
 refine wp_join (fun a w => ∃ (x30 : Int) (Sv29 : _), made_Dice_Next_j1 d1 x30 = some r ∧ Sl 45 [(5, .int .i64 x30)] a ∧ Wd ⟨w0, S0, blks [.box b2 (C87 d1 (some ⟨b18, o19, none⟩) k4) 87]⟩ Sv29 [.box b2 [.slice (some ⟨b18, o19, none⟩) d1.L.length k4, .int .i64 (w64 (d1.At + 1))] 87] [SlA (some ⟨b18, o19, none⟩) d1.L.length k4 d1.L] w) ?_ ?_
 ·refine cd s u rfl (fun u => ?_) fun u => ?_
  ·refine wp_region_lit (rn 3 [] s d rfl rfl fun a s => ?_)
   obtain ⟨x33, h32, u⟩ := bind_t u
   refine sv s (y_assignI rfl h32) rfl fun a s => ?_
   exact nl ⟨x33, Sv25, u, (s.wk rfl), (d.ft [0] [0] (by decide) rfl rfl)⟩
  exact wp_skip (then_normal ⟨rem24, Sv25, u, (s.wk rfl), (d.ft [0] [0] (by decide) rfl rfl)⟩)
 rintro a w ⟨x30, Sv29, u, s, d⟩
 delta made_Dice_Next_j1 at u
 refine then_normal (sz 2 [] s d rfl rfl fun a s => ?_)
 have u := oi u
 subst u
 exact wp_ret (ret1 s rfl (rv_tmp rfl) (d.ret ⟨(some ⟨b18, o19, none⟩), k4, rfl, (d.outs [0] (by decide) rfl), (d.envAt 0 rfl)⟩))
abbrev made_Dice_Source_rd (w0 : World) (X : List Nat) (b2 : Nat) (r : (SourceID × Dice)) : (Nat → Prop) → World → Value → Prop := fun S w v => ∃ pq0_0 kq0_0, v = V52 r.1 ∧ Outs X w0 S w [.box b2 (C87 r.2 pq0_0 kq0_0) 87] ∧ (SlA pq0_0 r.2.L.length kq0_0 r.2.L).p S w
abbrev D46t1 (b2 : Nat) (b6 : Nat) : Slots := [(0, .pointer (some ⟨b2, 0, none⟩)), (2, .pointer (some ⟨b6, 0, none⟩))]
abbrev D46t2 (b2 : Nat) (b24 : Nat) (b40 : Nat) (b56 : Nat) (b8 : Nat) (rv10 : (Int × Dice)) (rv26 : (Int × Dice)) (rv42 : (Int × Dice)) (rv58 : (Int × Dice)) (x16 : ByteArray) (x32 : ByteArray) (x48 : ByteArray) (x64 : ByteArray) : Vs := [(0, 3, .slice (some ⟨b8, 0, none⟩) ([(⟨#[71, 82]⟩ : ByteArray), (⟨#[88]⟩ : ByteArray), (⟨#[55, 65]⟩ : ByteArray)] : List ByteArray).length ([(⟨#[71, 82]⟩ : ByteArray), (⟨#[88]⟩ : ByteArray), (⟨#[55, 65]⟩ : ByteArray)] : List ByteArray).length), (1, 4, .pointer (some ⟨b2, 0, none⟩)), (2, 5, .int .i64 rv10.1), (3, 6, .pointer (some ⟨b8, (0 + (rv10.1).toNat * 1), none⟩)), (4, 7, .string x16), (5, 8, .slice (some ⟨b24, 0, none⟩) ([(⟨#[70, 85, 82]⟩ : ByteArray), (⟨#[65]⟩ : ByteArray), (⟨#[65, 66, 67, 68, 69]⟩ : ByteArray), (⟨#[70, 85]⟩ : ByteArray)] : List ByteArray).length ([(⟨#[70, 85, 82]⟩ : ByteArray), (⟨#[65]⟩ : ByteArray), (⟨#[65, 66, 67, 68, 69]⟩ : ByteArray), (⟨#[70, 85]⟩ : ByteArray)] : List ByteArray).length), (6, 9, .pointer (some ⟨b2, 0, none⟩)), (7, 10, .int .i64 rv26.1), (8, 11, .pointer (some ⟨b24, (0 + (rv26.1).toNat * 1), none⟩)), (9, 12, .string x32), (10, 13, .slice (some ⟨b40, 0, none⟩) ([(⟨#[]⟩ : ByteArray), (⟨#[48, 48]⟩ : ByteArray), (⟨#[49, 48]⟩ : ByteArray)] : List ByteArray).length ([(⟨#[]⟩ : ByteArray), (⟨#[48, 48]⟩ : ByteArray), (⟨#[49, 48]⟩ : ByteArray)] : List ByteArray).length), (11, 14, .pointer (some ⟨b2, 0, none⟩)), (12, 15, .int .i64 rv42.1), (13, 16, .pointer (some ⟨b40, (0 + (rv42.1).toNat * 1), none⟩)), (14, 17, .string x48), (15, 18, .slice (some ⟨b56, 0, none⟩) ([(⟨#[72, 72, 90]⟩ : ByteArray), (⟨#[72, 72, 78]⟩ : ByteArray), (⟨#[66, 72, 90]⟩ : ByteArray)] : List ByteArray).length ([(⟨#[72, 72, 90]⟩ : ByteArray), (⟨#[72, 72, 78]⟩ : ByteArray), (⟨#[66, 72, 90]⟩ : ByteArray)] : List ByteArray).length), (16, 19, .pointer (some ⟨b2, 0, none⟩)), (17, 20, .int .i64 rv58.1), (18, 21, .pointer (some ⟨b56, (0 + (rv58.1).toNat * 1), none⟩)), (19, 22, .string x64), (20, 23, .agg #[.string x16, .string x32, .string x48, .string x64])]
abbrev D46t3 : List Value := Z3
abbrev D46t4 : List ByteArray := ([(⟨#[71, 82]⟩ : ByteArray), (⟨#[88]⟩ : ByteArray), (⟨#[55, 65]⟩ : ByteArray)] : List ByteArray)
abbrev D46t5 : List Value := Z4
abbrev D46t6 : List ByteArray := ([(⟨#[70, 85, 82]⟩ : ByteArray), (⟨#[65]⟩ : ByteArray), (⟨#[65, 66, 67, 68, 69]⟩ : ByteArray), (⟨#[70, 85]⟩ : ByteArray)] : List ByteArray)
abbrev D46t7 : List Value := Z5
abbrev D46t8 : List ByteArray := ([(⟨#[]⟩ : ByteArray), (⟨#[48, 48]⟩ : ByteArray), (⟨#[49, 48]⟩ : ByteArray)] : List ByteArray)
abbrev D46t9 : List Value := Z6
abbrev D46t10 : List ByteArray := ([(⟨#[72, 72, 90]⟩ : ByteArray), (⟨#[72, 72, 78]⟩ : ByteArray), (⟨#[66, 72, 90]⟩ : ByteArray)] : List ByteArray)
theorem made_Dice_Source_ok {w0 S0 b2 p3 k4 d1 r} (u : made_Dice_Source d1 = some r) (hS : Dm S0 w0) (hin : Ins S0 w0 [.box b2 (C87 d1 p3 k4) 87]) (h5 : (SlA p3 d1.L.length k4 d1.L).p S0 w0) : Calls Tryz.prog 46 #[.pointer (some ⟨b2, 0, none⟩)] w0 (Ret (blks [.box b2 (C87 d1 p3 k4) 87]) w0 S0 (made_Dice_Source_rd w0 (blks [.box b2 (C87 d1 p3 k4) 87]) b2 r)) := by
 refine enI 24 Tryz.func46 rfl hS hin rfl rfl rfl fun a s d => ?_
 have d := d.addE h5
 delta made_Dice_Source at u
 refine sr (w_alloc (cs := Z1) s d Tryz.zeroValue52 rfl rfl trivial ?_)
 intro b6 a w s d
 refine nl (wp_seq ?_)
 obtain ⟨rv10, h9, u⟩ := bind_t u
 obtain ⟨x16, h14, u⟩ := bind_t u
 obtain ⟨rv26, h25, u⟩ := bind_t u
 obtain ⟨x32, h30, u⟩ := bind_t u
 obtain ⟨rv42, h41, u⟩ := bind_t u
 obtain ⟨x48, h46, u⟩ := bind_t u
 obtain ⟨rv58, h57, u⟩ := bind_t u
 obtain ⟨x64, h62, u⟩ := bind_t u
 refine wp_only (fun a w => ∃ Sv71 k60 p59, Sl 24 [(2, .pointer (some ⟨b6, 0, none⟩))] a ∧ Wd ⟨w0, S0, blks [.box b2 (C87 d1 p3 k4) 87]⟩ Sv71 [.box b2 (C87 rv58.2 p59 k60) 87, .box b6 [.string x16, .string x32, .string x48, .string x64] 52] [SlA p59 rv58.2.L.length k60 rv58.2.L] w) ?_ ?_
 ·refine wp_region_phi (n := 22) (Φ := fun l a w => ∃ b24 b40 b56 b8 k12 k28 k44 k60 p11 p27 p43 p59 S, SlF 24 (D46t1 b2 b6) (D46t2 b2 b24 b40 b56 b8 rv10 rv26 rv42 rv58 x16 x32 x48 x64) l a ∧ Wd ⟨w0, S0, blks [.box b2 (C87 d1 p3 k4) 87]⟩ S [((bif l 21 then .box b6 [.string x16, .string x32, .string x48, .string x64] 52 else .box b6 Z1 52) : Res), ((bif l 17 then .box b2 (C87 rv58.2 p59 k60) 87 else (bif l 12 then .box b2 (C87 rv42.2 p43 k44) 87 else (bif l 7 then .box b2 (C87 rv26.2 p27 k28) 87 else (bif l 2 then .box b2 (C87 rv10.2 p11 k12) 87 else .box b2 (C87 d1 p3 k4) 87)))) : Res), ((bif l 0 then .row (some ⟨b8, 0, none⟩) ([(⟨#[71, 82]⟩ : ByteArray), (⟨#[88]⟩ : ByteArray), (⟨#[55, 65]⟩ : ByteArray)] : List ByteArray).length ([(⟨#[71, 82]⟩ : ByteArray), (⟨#[88]⟩ : ByteArray), (⟨#[55, 65]⟩ : ByteArray)] : List ByteArray).length Z3 9 1 else emp) : Res), ((bif l 5 then .row (some ⟨b24, 0, none⟩) ([(⟨#[70, 85, 82]⟩ : ByteArray), (⟨#[65]⟩ : ByteArray), (⟨#[65, 66, 67, 68, 69]⟩ : ByteArray), (⟨#[70, 85]⟩ : ByteArray)] : List ByteArray).length ([(⟨#[70, 85, 82]⟩ : ByteArray), (⟨#[65]⟩ : ByteArray), (⟨#[65, 66, 67, 68, 69]⟩ : ByteArray), (⟨#[70, 85]⟩ : ByteArray)] : List ByteArray).length Z4 9 1 else emp) : Res), ((bif l 10 then .row (some ⟨b40, 0, none⟩) ([(⟨#[]⟩ : ByteArray), (⟨#[48, 48]⟩ : ByteArray), (⟨#[49, 48]⟩ : ByteArray)] : List ByteArray).length ([(⟨#[]⟩ : ByteArray), (⟨#[48, 48]⟩ : ByteArray), (⟨#[49, 48]⟩ : ByteArray)] : List ByteArray).length Z5 9 1 else emp) : Res), ((bif l 15 then .row (some ⟨b56, 0, none⟩) ([(⟨#[72, 72, 90]⟩ : ByteArray), (⟨#[72, 72, 78]⟩ : ByteArray), (⟨#[66, 72, 90]⟩ : ByteArray)] : List ByteArray).length ([(⟨#[72, 72, 90]⟩ : ByteArray), (⟨#[72, 72, 78]⟩ : ByteArray), (⟨#[66, 72, 90]⟩ : ByteArray)] : List ByteArray).length Z6 9 1 else emp) : Res)] [SlA p3 d1.L.length k4 d1.L, optA (l 0) (RowA Z3 ([(⟨#[71, 82]⟩ : ByteArray), (⟨#[88]⟩ : ByteArray), (⟨#[55, 65]⟩ : ByteArray)] : List ByteArray)), optA (l 2) (SlA p11 rv10.2.L.length k12 rv10.2.L), optA (l 5) (RowA Z4 ([(⟨#[70, 85, 82]⟩ : ByteArray), (⟨#[65]⟩ : ByteArray), (⟨#[65, 66, 67, 68, 69]⟩ : ByteArray), (⟨#[70, 85]⟩ : ByteArray)] : List ByteArray)), optA (l 7) (SlA p27 rv26.2.L.length k28 rv26.2.L), optA (l 10) (RowA Z5 ([(⟨#[]⟩ : ByteArray), (⟨#[48, 48]⟩ : ByteArray), (⟨#[49, 48]⟩ : ByteArray)] : List ByteArray)), optA (l 12) (SlA p43 rv42.2.L.length k44 rv42.2.L), optA (l 15) (RowA Z6 ([(⟨#[72, 72, 90]⟩ : ByteArray), (⟨#[72, 72, 78]⟩ : ByteArray), (⟨#[66, 72, 90]⟩ : ByteArray)] : List ByteArray)), optA (l 17) (SlA p59 rv58.2.L.length k60 rv58.2.L)] w) [1, 1, 2, 3, 4, 1, 1, 3, 4, 5, 1, 1, 4, 5, 6, 1, 1, 5, 6, 7, 8, 9] (by kernel_rfl) rfl (by kernel_rfl) ?_ (AllS.succ (AllS.succ (AllS.succ (AllS.succ (AllS.succ (AllS.succ (AllS.succ (AllS.succ (AllS.succ (AllS.succ (AllS.succ (AllS.succ (AllS.succ (AllS.succ (AllS.succ (AllS.succ (AllS.succ (AllS.succ (AllS.succ (AllS.succ (AllS.succ (AllS.succ AllS.zero ?_) ?_) ?_) ?_) ?_) ?_) ?_) ?_) ?_) ?_) ?_) ?_) ?_) ?_) ?_) ?_) ?_) ?_) ?_) ?_) ?_) ?_) ?_
  ·obtain ⟨b24, b40, b56, b8, k12, k28, k44, k60, p11, p27, p43, p59, _⟩ : ∃ b24 b40 b56 b8 k12 k28 k44 k60 p11 p27 p43 p59, True := ⟨0, 0, 0, 0, 0, 0, 0, 0, none, none, none, none, trivial⟩
   have d := ((d.drew).emp).emp
   have d := ((d.emp).emp).noE (SlA p59 rv58.2.L.length k60 rv58.2.L)
   have d := ((d.noE (RowA Z6 ([(⟨#[72, 72, 90]⟩ : ByteArray), (⟨#[72, 72, 78]⟩ : ByteArray), (⟨#[66, 72, 90]⟩ : ByteArray)] : List ByteArray))).noE (SlA p43 rv42.2.L.length k44 rv42.2.L)).noE (RowA Z5 ([(⟨#[]⟩ : ByteArray), (⟨#[48, 48]⟩ : ByteArray), (⟨#[49, 48]⟩ : ByteArray)] : List ByteArray))
   have d := ((d.noE (SlA p27 rv26.2.L.length k28 rv26.2.L)).noE (RowA Z4 ([(⟨#[70, 85, 82]⟩ : ByteArray), (⟨#[65]⟩ : ByteArray), (⟨#[65, 66, 67, 68, 69]⟩ : ByteArray), (⟨#[70, 85]⟩ : ByteArray)] : List ByteArray))).noE (SlA p11 rv10.2.L.length k12 rv10.2.L)
   have d := d.noE (RowA Z3 ([(⟨#[71, 82]⟩ : ByteArray), (⟨#[88]⟩ : ByteArray), (⟨#[55, 65]⟩ : ByteArray)] : List ByteArray))
   exact ⟨b24, b40, b56, b8, k12, k28, k44, k60, p11, p27, p43, p59, S0, SlF.init (s.wk rfl) (by kernel_rfl), d.ft [4, 5, 0, 1, 2, 3] [8, 0, 1, 2, 3, 4, 5, 6, 7] (by decide) rfl rfl⟩
  ·intro l hi hp hc a w ⟨b24, b40, b56, b8, k12, k28, k44, k60, p11, p27, p43, p59, S, hS, d⟩
   refine S_eff rfl ?_
   have s := hS.open_ .nil
   refine w_litSlice (α := ByteArray) (vs := D46t3) (cs := D46t3) (xs := D46t4) s d El122 rfl rfl rfl rfl rfl rfl ⟨⟨_, rfl, rfl⟩, ⟨⟨_, rfl, rfl⟩, ⟨⟨_, rfl, rfl⟩, rfl⟩⟩⟩ rfl trivial rfl fun b8 a w s d => ?_
   have h_3 := l_neg hc 3 hi rfl
   have d := d.opt 0 rfl true
   exact nl ⟨b24, b40, b56, b8, k12, k28, k44, k60, p11, p27, p43, p59, S, hS.close .nil s rfl (.here (.same (.same (.neg h_3 rfl (.same (.same (.same (.same (.same (.same (.same (.same (.same (.same (.same (.same (.same (.same (.same (.same (.same .nil))))))))))))))))))))) 0 rfl, d.ft [1, 2, 0, 4, 5, 6] [2, 0, 4, 5, 6, 7, 8, 9, 10] (by decide) rfl rfl⟩
  ·intro l hi hp hc a w ⟨b24, b40, b56, b8, k12, k28, k44, k60, p11, p27, p43, p59, S, hS, d⟩
   refine S_val hS (.b (t := 0) rfl .nil) rfl rfl trivial (y_move rfl) (rfl) 1 rfl fun a hS => ⟨b24, b40, b56, b8, k12, k28, k44, k60, p11, p27, p43, p59, S, hS, d⟩
  ·intro l hi hp hc a w ⟨b24, b40, b56, b8, k12, k28, k44, k60, p11, p27, p43, p59, S, hS, d⟩
   have h_7 := l_neg hc 7 hi rfl
   have h_12 := l_neg hc 12 h_7 rfl
   have h_17 := l_neg hc 17 h_12 rfl
   have d := d.fixR 1 (r' := .box b2 (C87 d1 p3 k4) 87) rfl ((bF h_17).trans ((bF h_12).trans ((bF h_7).trans ((bF hi)))))
   have h_1 := hp 1 rfl
   refine S_eff rfl ?_
   have s := hS.open_ (.v (t := 4) 1 rfl h_1 .nil)
   refine st_callR s (made_Dice_Next_ok h9 d.dom (d.ins [1] (by decide) rfl) (d.envAt 0 rfl)) (do_call Tryz.call30 rfl) trivial rfl rfl ?_
   rintro v100 Sv97 w a h98 ⟨p11, k12, rfl, h101, h13⟩ s
   have d := ((d.callO [1] [0, 2, 3, 4, 5] (by decide) rfl h98 h101).addE (e := SlA p11 rv10.2.L.length k12 rv10.2.L) h13).fixR 0 (r' := (bif l 17 then .box b2 (C87 rv58.2 p59 k60) 87 else (bif l 12 then .box b2 (C87 rv42.2 p43 k44) 87 else (bif l 7 then .box b2 (C87 rv26.2 p27 k28) 87 else .box b2 (C87 rv10.2 p11 k12) 87)))) rfl ((bF h_17).trans ((bF h_12).trans ((bF h_7)))).symm
   have d := d.opt 0 rfl true
   exact nl ⟨b24, b40, b56, b8, k12, k28, k44, k60, p11, p27, p43, p59, Sv97, hS.close (.v (t := 4) 1 rfl h_1 .nil) s rfl (.same (.same (.here (.same (.same (.same (.same (.same (.same (.same (.same (.same (.same (.same (.same (.same (.same (.same (.same (.same (.same .nil))))))))))))))))))))) 2 rfl, d.ft [1, 0, 2, 3, 4, 5] [2, 3, 0, 5, 6, 7, 8, 9, 10] (by decide) rfl rfl⟩
  ·intro l hi hp hc a w ⟨b24, b40, b56, b8, k12, k28, k44, k60, p11, p27, p43, p59, S, hS, d⟩
   have hw0 := d
   have h_0 := hp 0 rfl
   have d := (d.fixR 2 (r' := .row (some ⟨b8, 0, none⟩) ([(⟨#[71, 82]⟩ : ByteArray), (⟨#[88]⟩ : ByteArray), (⟨#[55, 65]⟩ : ByteArray)] : List ByteArray).length ([(⟨#[71, 82]⟩ : ByteArray), (⟨#[88]⟩ : ByteArray), (⟨#[55, 65]⟩ : ByteArray)] : List ByteArray).length Z3 9 1) rfl ((bT h_0))).yes 1 rfl h_0
   have h_2 := hp 2 rfl
   obtain ⟨c21, h17, h22, h15⟩ := d.elemRX (α := ByteArray) 2 rfl 0 rfl h14
   obtain ⟨_, rfl, rfl⟩ := h15
   refine S_val hS (.v (t := 3) 0 rfl h_0 (.v (t := 5) 2 rfl h_2 .nil)) rfl rfl trivial (y_indexAt Tryz.runUnderlying122 Tryz.sizeOf9 rfl rfl h17.1 h17.2 rfl) (rfl) 3 rfl fun a hS => ⟨b24, b40, b56, b8, k12, k28, k44, k60, p11, p27, p43, p59, S, hS, hw0⟩
  ·intro l hi hp hc a w ⟨b24, b40, b56, b8, k12, k28, k44, k60, p11, p27, p43, p59, S, hS, d⟩
   have hw0 := d
   have h_3 := hp 3 rfl
   have h_0 := hc 3 0 rfl h_3
   have d := (d.fixR 2 (r' := .row (some ⟨b8, 0, none⟩) ([(⟨#[71, 82]⟩ : ByteArray), (⟨#[88]⟩ : ByteArray), (⟨#[55, 65]⟩ : ByteArray)] : List ByteArray).length ([(⟨#[71, 82]⟩ : ByteArray), (⟨#[88]⟩ : ByteArray), (⟨#[55, 65]⟩ : ByteArray)] : List ByteArray).length Z3 9 1) rfl ((bT h_0))).yes 1 rfl h_0
   obtain ⟨c21, h17, h22, h15⟩ := d.elemRX (α := ByteArray) 2 rfl 0 rfl h14
   obtain ⟨_, rfl, rfl⟩ := h15
   refine S_val hS (.v (t := 6) 3 rfl h_3 .nil) rfl rfl trivial (y_loadQ1 (j := 0) (d.ownAt 2 rfl) rfl Tryz.isAgg9 h22 rfl) (rfl) 4 rfl fun a hS => ⟨b24, b40, b56, b8, k12, k28, k44, k60, p11, p27, p43, p59, S, hS, hw0⟩
  ·intro l hi hp hc a w ⟨b24, b40, b56, b8, k12, k28, k44, k60, p11, p27, p43, p59, S, hS, d⟩
   refine S_eff rfl ?_
   have s := hS.open_ .nil
   refine w_litSlice (α := ByteArray) (vs := D46t5) (cs := D46t5) (xs := D46t6) s d El122 rfl rfl rfl rfl rfl rfl ⟨⟨_, rfl, rfl⟩, ⟨⟨_, rfl, rfl⟩, ⟨⟨_, rfl, rfl⟩, ⟨⟨_, rfl, rfl⟩, rfl⟩⟩⟩⟩ rfl trivial rfl fun b24 a w s d => ?_
   have h_8 := l_neg hc 8 hi rfl
   have d := d.opt 0 rfl true
   exact nl ⟨b24, b40, b56, b8, k12, k28, k44, k60, p11, p27, p43, p59, S, hS.close .nil s rfl (.same (.same (.same (.same (.same (.here (.same (.same (.neg h_8 rfl (.same (.same (.same (.same (.same (.same (.same (.same (.same (.same (.same (.same .nil))))))))))))))))))))) 5 rfl, d.ft [1, 2, 3, 0, 5, 6] [2, 3, 4, 0, 6, 7, 8, 9, 10] (by decide) rfl rfl⟩
  ·intro l hi hp hc a w ⟨b24, b40, b56, b8, k12, k28, k44, k60, p11, p27, p43, p59, S, hS, d⟩
   refine S_val hS (.b (t := 0) rfl .nil) rfl rfl trivial (y_move rfl) (rfl) 6 rfl fun a hS => ⟨b24, b40, b56, b8, k12, k28, k44, k60, p11, p27, p43, p59, S, hS, d⟩
  ·intro l hi hp hc a w ⟨b24, b40, b56, b8, k12, k28, k44, k60, p11, p27, p43, p59, S, hS, d⟩
   have h_12 := l_neg hc 12 hi rfl
   have h_17 := l_neg hc 17 h_12 rfl
   have h_2 := hp 2 rfl
   have d := (d.fixR 1 (r' := .box b2 (C87 rv10.2 p11 k12) 87) rfl ((bF h_17).trans ((bF h_12).trans ((bF hi).trans ((bT h_2)))))).yes 2 rfl h_2
   have h_6 := hp 6 rfl
   refine S_eff rfl ?_
   have s := hS.open_ (.v (t := 9) 6 rfl h_6 .nil)
   refine st_callR s (made_Dice_Next_ok h25 d.dom (d.ins [1] (by decide) rfl) (d.envAt 0 rfl)) (do_call Tryz.call30 rfl) trivial rfl rfl ?_
   rintro v110 Sv107 w a h108 ⟨p27, k28, rfl, h111, h29⟩ s
   have d := ((d.callO [1] [0, 2, 3, 4, 5] (by decide) rfl h108 h111).addE (e := SlA p27 rv26.2.L.length k28 rv26.2.L) h29).fixR 0 (r' := (bif l 17 then .box b2 (C87 rv58.2 p59 k60) 87 else (bif l 12 then .box b2 (C87 rv42.2 p43 k44) 87 else .box b2 (C87 rv26.2 p27 k28) 87))) rfl ((bF h_17).trans ((bF h_12))).symm
   have d := d.opt 0 rfl true
   exact nl ⟨b24, b40, b56, b8, k12, k28, k44, k60, p11, p27, p43, p59, Sv107, hS.close (.v (t := 9) 6 rfl h_6 .nil) s rfl (.same (.same (.same (.same (.same (.same (.same (.here (.same (.same (.same (.same (.same (.same (.same (.same (.same (.same (.same (.same (.same .nil))))))))))))))))))))) 7 rfl, d.ft [1, 0, 2, 3, 4, 5] [3, 4, 5, 6, 0, 8, 9, 10, 11] (by decide) rfl rfl⟩
  ·intro l hi hp hc a w ⟨b24, b40, b56, b8, k12, k28, k44, k60, p11, p27, p43, p59, S, hS, d⟩
   have hw0 := d
   have h_5 := hp 5 rfl
   have d := (d.fixR 3 (r' := .row (some ⟨b24, 0, none⟩) ([(⟨#[70, 85, 82]⟩ : ByteArray), (⟨#[65]⟩ : ByteArray), (⟨#[65, 66, 67, 68, 69]⟩ : ByteArray), (⟨#[70, 85]⟩ : ByteArray)] : List ByteArray).length ([(⟨#[70, 85, 82]⟩ : ByteArray), (⟨#[65]⟩ : ByteArray), (⟨#[65, 66, 67, 68, 69]⟩ : ByteArray), (⟨#[70, 85]⟩ : ByteArray)] : List ByteArray).length Z4 9 1) rfl ((bT h_5))).yes 3 rfl h_5
   have h_7 := hp 7 rfl
   obtain ⟨c37, h33, h38, h31⟩ := d.elemRX (α := ByteArray) 3 rfl 0 rfl h30
   obtain ⟨_, rfl, rfl⟩ := h31
   refine S_val hS (.v (t := 8) 5 rfl h_5 (.v (t := 10) 7 rfl h_7 .nil)) rfl rfl trivial (y_indexAt Tryz.runUnderlying122 Tryz.sizeOf9 rfl rfl h33.1 h33.2 rfl) (rfl) 8 rfl fun a hS => ⟨b24, b40, b56, b8, k12, k28, k44, k60, p11, p27, p43, p59, S, hS, hw0⟩
  ·intro l hi hp hc a w ⟨b24, b40, b56, b8, k12, k28, k44, k60, p11, p27, p43, p59, S, hS, d⟩
   have hw0 := d
   have h_8 := hp 8 rfl
   have h_5 := hc 8 5 rfl h_8
   have d := (d.fixR 3 (r' := .row (some ⟨b24, 0, none⟩) ([(⟨#[70, 85, 82]⟩ : ByteArray), (⟨#[65]⟩ : ByteArray), (⟨#[65, 66, 67, 68, 69]⟩ : ByteArray), (⟨#[70, 85]⟩ : ByteArray)] : List ByteArray).length ([(⟨#[70, 85, 82]⟩ : ByteArray), (⟨#[65]⟩ : ByteArray), (⟨#[65, 66, 67, 68, 69]⟩ : ByteArray), (⟨#[70, 85]⟩ : ByteArray)] : List ByteArray).length Z4 9 1) rfl ((bT h_5))).yes 3 rfl h_5
   obtain ⟨c37, h33, h38, h31⟩ := d.elemRX (α := ByteArray) 3 rfl 0 rfl h30
   obtain ⟨_, rfl, rfl⟩ := h31
   refine S_val hS (.v (t := 11) 8 rfl h_8 .nil) rfl rfl trivial (y_loadQ1 (j := 0) (d.ownAt 3 rfl) rfl Tryz.isAgg9 h38 rfl) (rfl) 9 rfl fun a hS => ⟨b24, b40, b56, b8, k12, k28, k44, k60, p11, p27, p43, p59, S, hS, hw0⟩
  ·intro l hi hp hc a w ⟨b24, b40, b56, b8, k12, k28, k44, k60, p11, p27, p43, p59, S, hS, d⟩
   refine S_eff rfl ?_
   have s := hS.open_ .nil
   refine w_litSlice (α := ByteArray) (vs := D46t7) (cs := D46t7) (xs := D46t8) s d El122 rfl rfl rfl rfl rfl rfl ⟨⟨_, rfl, rfl⟩, ⟨⟨_, rfl, rfl⟩, ⟨⟨_, rfl, rfl⟩, rfl⟩⟩⟩ rfl trivial rfl fun b40 a w s d => ?_
   have h_13 := l_neg hc 13 hi rfl
   have d := d.opt 0 rfl true
   exact nl ⟨b24, b40, b56, b8, k12, k28, k44, k60, p11, p27, p43, p59, S, hS.close .nil s rfl (.same (.same (.same (.same (.same (.same (.same (.same (.same (.same (.here (.same (.same (.neg h_13 rfl (.same (.same (.same (.same (.same (.same (.same .nil))))))))))))))))))))) 10 rfl, d.ft [1, 2, 3, 4, 0, 6] [2, 3, 4, 5, 6, 0, 8, 9, 10] (by decide) rfl rfl⟩
  ·intro l hi hp hc a w ⟨b24, b40, b56, b8, k12, k28, k44, k60, p11, p27, p43, p59, S, hS, d⟩
   refine S_val hS (.b (t := 0) rfl .nil) rfl rfl trivial (y_move rfl) (rfl) 11 rfl fun a hS => ⟨b24, b40, b56, b8, k12, k28, k44, k60, p11, p27, p43, p59, S, hS, d⟩
  ·intro l hi hp hc a w ⟨b24, b40, b56, b8, k12, k28, k44, k60, p11, p27, p43, p59, S, hS, d⟩
   have h_17 := l_neg hc 17 hi rfl
   have h_7 := hp 7 rfl
   have d := (d.fixR 1 (r' := .box b2 (C87 rv26.2 p27 k28) 87) rfl ((bF h_17).trans ((bF hi).trans ((bT h_7))))).yes 4 rfl h_7
   have h_11 := hp 11 rfl
   refine S_eff rfl ?_
   have s := hS.open_ (.v (t := 14) 11 rfl h_11 .nil)
   refine st_callR s (made_Dice_Next_ok h41 d.dom (d.ins [1] (by decide) rfl) (d.envAt 0 rfl)) (do_call Tryz.call30 rfl) trivial rfl rfl ?_
   rintro v120 Sv117 w a h118 ⟨p43, k44, rfl, h121, h45⟩ s
   have d := ((d.callO [1] [0, 2, 3, 4, 5] (by decide) rfl h118 h121).addE (e := SlA p43 rv42.2.L.length k44 rv42.2.L) h45).fixR 0 (r' := (bif l 17 then .box b2 (C87 rv58.2 p59 k60) 87 else .box b2 (C87 rv42.2 p43 k44) 87)) rfl ((bF h_17)).symm
   have d := d.opt 0 rfl true
   exact nl ⟨b24, b40, b56, b8, k12, k28, k44, k60, p11, p27, p43, p59, Sv117, hS.close (.v (t := 14) 11 rfl h_11 .nil) s rfl (.same (.same (.same (.same (.same (.same (.same (.same (.same (.same (.same (.same (.here (.same (.same (.same (.same (.same (.same (.same (.same .nil))))))))))))))))))))) 12 rfl, d.ft [1, 0, 2, 3, 4, 5] [3, 4, 5, 6, 7, 8, 0, 10, 11] (by decide) rfl rfl⟩
  ·intro l hi hp hc a w ⟨b24, b40, b56, b8, k12, k28, k44, k60, p11, p27, p43, p59, S, hS, d⟩
   have hw0 := d
   have h_10 := hp 10 rfl
   have d := (d.fixR 4 (r' := .row (some ⟨b40, 0, none⟩) ([(⟨#[]⟩ : ByteArray), (⟨#[48, 48]⟩ : ByteArray), (⟨#[49, 48]⟩ : ByteArray)] : List ByteArray).length ([(⟨#[]⟩ : ByteArray), (⟨#[48, 48]⟩ : ByteArray), (⟨#[49, 48]⟩ : ByteArray)] : List ByteArray).length Z5 9 1) rfl ((bT h_10))).yes 5 rfl h_10
   have h_12 := hp 12 rfl
   obtain ⟨c53, h49, h54, h47⟩ := d.elemRX (α := ByteArray) 4 rfl 0 rfl h46
   obtain ⟨_, rfl, rfl⟩ := h47
   refine S_val hS (.v (t := 13) 10 rfl h_10 (.v (t := 15) 12 rfl h_12 .nil)) rfl rfl trivial (y_indexAt Tryz.runUnderlying122 Tryz.sizeOf9 rfl rfl h49.1 h49.2 rfl) (rfl) 13 rfl fun a hS => ⟨b24, b40, b56, b8, k12, k28, k44, k60, p11, p27, p43, p59, S, hS, hw0⟩
  ·intro l hi hp hc a w ⟨b24, b40, b56, b8, k12, k28, k44, k60, p11, p27, p43, p59, S, hS, d⟩
   have hw0 := d
   have h_13 := hp 13 rfl
   have h_10 := hc 13 10 rfl h_13
   have d := (d.fixR 4 (r' := .row (some ⟨b40, 0, none⟩) ([(⟨#[]⟩ : ByteArray), (⟨#[48, 48]⟩ : ByteArray), (⟨#[49, 48]⟩ : ByteArray)] : List ByteArray).length ([(⟨#[]⟩ : ByteArray), (⟨#[48, 48]⟩ : ByteArray), (⟨#[49, 48]⟩ : ByteArray)] : List ByteArray).length Z5 9 1) rfl ((bT h_10))).yes 5 rfl h_10
   obtain ⟨c53, h49, h54, h47⟩ := d.elemRX (α := ByteArray) 4 rfl 0 rfl h46
   obtain ⟨_, rfl, rfl⟩ := h47
   refine S_val hS (.v (t := 16) 13 rfl h_13 .nil) rfl rfl trivial (y_loadQ1 (j := 0) (d.ownAt 4 rfl) rfl Tryz.isAgg9 h54 rfl) (rfl) 14 rfl fun a hS => ⟨b24, b40, b56, b8, k12, k28, k44, k60, p11, p27, p43, p59, S, hS, hw0⟩
  ·intro l hi hp hc a w ⟨b24, b40, b56, b8, k12, k28, k44, k60, p11, p27, p43, p59, S, hS, d⟩
   refine S_eff rfl ?_
   have s := hS.open_ .nil
   refine w_litSlice (α := ByteArray) (vs := D46t9) (cs := D46t9) (xs := D46t10) s d El122 rfl rfl rfl rfl rfl rfl ⟨⟨_, rfl, rfl⟩, ⟨⟨_, rfl, rfl⟩, ⟨⟨_, rfl, rfl⟩, rfl⟩⟩⟩ rfl trivial rfl fun b56 a w s d => ?_
   have h_18 := l_neg hc 18 hi rfl
   have d := d.opt 0 rfl true
   exact nl ⟨b24, b40, b56, b8, k12, k28, k44, k60, p11, p27, p43, p59, S, hS.close .nil s rfl (.same (.same (.same (.same (.same (.same (.same (.same (.same (.same (.same (.same (.same (.same (.same (.here (.same (.same (.neg h_18 rfl (.same (.same .nil))))))))))))))))))))) 15 rfl, d.ft [1, 2, 3, 4, 5, 0] [2, 3, 4, 5, 6, 7, 8, 0, 10] (by decide) rfl rfl⟩
  ·intro l hi hp hc a w ⟨b24, b40, b56, b8, k12, k28, k44, k60, p11, p27, p43, p59, S, hS, d⟩
   refine S_val hS (.b (t := 0) rfl .nil) rfl rfl trivial (y_move rfl) (rfl) 16 rfl fun a hS => ⟨b24, b40, b56, b8, k12, k28, k44, k60, p11, p27, p43, p59, S, hS, d⟩
  ·intro l hi hp hc a w ⟨b24, b40, b56, b8, k12, k28, k44, k60, p11, p27, p43, p59, S, hS, d⟩
   have h_12 := hp 12 rfl
   have d := (d.fixR 1 (r' := .box b2 (C87 rv42.2 p43 k44) 87) rfl ((bF hi).trans ((bT h_12)))).yes 6 rfl h_12
   have h_16 := hp 16 rfl
   refine S_eff rfl ?_
   have s := hS.open_ (.v (t := 19) 16 rfl h_16 .nil)
   refine st_callR s (made_Dice_Next_ok h57 d.dom (d.ins [1] (by decide) rfl) (d.envAt 0 rfl)) (do_call Tryz.call30 rfl) trivial rfl rfl ?_
   rintro v130 Sv127 w a h128 ⟨p59, k60, rfl, h131, h61⟩ s
   have d := ((d.callO [1] [0, 2, 3, 4, 5] (by decide) rfl h128 h131).addE (e := SlA p59 rv58.2.L.length k60 rv58.2.L) h61).opt 0 rfl true
   exact nl ⟨b24, b40, b56, b8, k12, k28, k44, k60, p11, p27, p43, p59, Sv127, hS.close (.v (t := 19) 16 rfl h_16 .nil) s rfl (.same (.same (.same (.same (.same (.same (.same (.same (.same (.same (.same (.same (.same (.same (.same (.same (.same (.here (.same (.same (.same .nil))))))))))))))))))))) 17 rfl, d.ft [1, 0, 2, 3, 4, 5] [3, 4, 5, 6, 7, 8, 9, 10, 0] (by decide) rfl rfl⟩
  ·intro l hi hp hc a w ⟨b24, b40, b56, b8, k12, k28, k44, k60, p11, p27, p43, p59, S, hS, d⟩
   have hw0 := d
   have h_15 := hp 15 rfl
   have d := (d.fixR 5 (r' := .row (some ⟨b56, 0, none⟩) ([(⟨#[72, 72, 90]⟩ : ByteArray), (⟨#[72, 72, 78]⟩ : ByteArray), (⟨#[66, 72, 90]⟩ : ByteArray)] : List ByteArray).length ([(⟨#[72, 72, 90]⟩ : ByteArray), (⟨#[72, 72, 78]⟩ : ByteArray), (⟨#[66, 72, 90]⟩ : ByteArray)] : List ByteArray).length Z6 9 1) rfl ((bT h_15))).yes 7 rfl h_15
   have h_17 := hp 17 rfl
   obtain ⟨c69, h65, h70, h63⟩ := d.elemRX (α := ByteArray) 5 rfl 0 rfl h62
   obtain ⟨_, rfl, rfl⟩ := h63
   refine S_val hS (.v (t := 18) 15 rfl h_15 (.v (t := 20) 17 rfl h_17 .nil)) rfl rfl trivial (y_indexAt Tryz.runUnderlying122 Tryz.sizeOf9 rfl rfl h65.1 h65.2 rfl) (rfl) 18 rfl fun a hS => ⟨b24, b40, b56, b8, k12, k28, k44, k60, p11, p27, p43, p59, S, hS, hw0⟩
  ·intro l hi hp hc a w ⟨b24, b40, b56, b8, k12, k28, k44, k60, p11, p27, p43, p59, S, hS, d⟩
   have hw0 := d
   have h_18 := hp 18 rfl
   have h_15 := hc 18 15 rfl h_18
   have d := (d.fixR 5 (r' := .row (some ⟨b56, 0, none⟩) ([(⟨#[72, 72, 90]⟩ : ByteArray), (⟨#[72, 72, 78]⟩ : ByteArray), (⟨#[66, 72, 90]⟩ : ByteArray)] : List ByteArray).length ([(⟨#[72, 72, 90]⟩ : ByteArray), (⟨#[72, 72, 78]⟩ : ByteArray), (⟨#[66, 72, 90]⟩ : ByteArray)] : List ByteArray).length Z6 9 1) rfl ((bT h_15))).yes 7 rfl h_15
   obtain ⟨c69, h65, h70, h63⟩ := d.elemRX (α := ByteArray) 5 rfl 0 rfl h62
   obtain ⟨_, rfl, rfl⟩ := h63
   refine S_val hS (.v (t := 21) 18 rfl h_18 .nil) rfl rfl trivial (y_loadQ1 (j := 0) (d.ownAt 5 rfl) rfl Tryz.isAgg9 h70 rfl) (rfl) 19 rfl fun a hS => ⟨b24, b40, b56, b8, k12, k28, k44, k60, p11, p27, p43, p59, S, hS, hw0⟩
  ·intro l hi hp hc a w ⟨b24, b40, b56, b8, k12, k28, k44, k60, p11, p27, p43, p59, S, hS, d⟩
   have h_19 := hp 19 rfl
   have h_14 := hp 14 rfl
   have h_9 := hp 9 rfl
   have h_4 := hp 4 rfl
   refine S_val hS (.v (t := 7) 4 rfl h_4 (.v (t := 12) 9 rfl h_9 (.v (t := 17) 14 rfl h_14 (.v (t := 22) 19 rfl h_19 .nil)))) rfl rfl trivial (y_build (vs := [(0, .string x16), (1, .string x32), (2, .string x48), (3, .string x64)]) Bld52 rfl rfl) (rfl) 20 rfl fun a hS => ⟨b24, b40, b56, b8, k12, k28, k44, k60, p11, p27, p43, p59, S, hS, d⟩
  ·intro l hi hp hc a w ⟨b24, b40, b56, b8, k12, k28, k44, k60, p11, p27, p43, p59, S, hS, d⟩
   have d := d.fixR 0 (r' := .box b6 Z1 52) rfl ((bF hi))
   have h_20 := hp 20 rfl
   refine S_eff rfl ?_
   have s := hS.open_ (.b (t := 2) rfl (.v (t := 23) 20 rfl h_20 .nil))
   refine w_store (m := 4) (cs' := [.string x16, .string x32, .string x48, .string x64]) s d 0 rfl rfl rfl Tryz.sizeOf52 rfl rfl rfl rfl trivial ?_
   intro a w s d
   exact nl ⟨b24, b40, b56, b8, k12, k28, k44, k60, p11, p27, p43, p59, S, hS.close0 (.b (t := 2) rfl (.v (t := 23) 20 rfl h_20 .nil)) s rfl, d.ft [0, 1, 2, 3, 4, 5] [0, 1, 2, 3, 4, 5, 6, 7, 8] (by decide) rfl rfl⟩
  intro l a w hl ⟨b24, b40, b56, b8, k12, k28, k44, k60, p11, p27, p43, p59, S, hS, d⟩
  have d := ((d.yes 8 rfl (hl 17 (by decide))).fixR 1 (r' := .box b2 (C87 rv58.2 p59 k60) 87) rfl (bT (hl 17 (by decide)))).fixR 0 (r' := .box b6 [.string x16, .string x32, .string x48, .string x64] 52) rfl (bT (hl 21 (by decide)))
  have s := hS.on (.b (t := 2) rfl .nil)
  exact ⟨S, k60, p59, (s.wk rfl), (d.ft [1, 0] [0] (by decide) rfl rfl)⟩
 rintro a w ⟨Sv71, k60, p59, s, d⟩
 refine then_normal ?_
 have u := oi u
 subst u
 exact wp_ret (ret1 s rfl (rv_cell d 1 rfl rfl Tryz.isAgg52 Tryz.sizeOf52 rfl) (d.ret ⟨p59, k60, rfl, (d.outs [0] (by decide) rfl), (d.envAt 0 rfl)⟩))
abbrev made_Dice_Pick_rd (w0 : World) (X : List Nat) (b2 : Nat) (r : (Int × Dice)) : (Nat → Prop) → World → Value → Prop := fun S w v => ∃ pq0_0 kq0_0, v = .int .i64 r.1 ∧ Outs X w0 S w [.box b2 (C87 r.2 pq0_0 kq0_0) 87] ∧ (SlA pq0_0 r.2.L.length kq0_0 r.2.L).p S w
theorem made_Dice_Pick_ok {w0 S0 b2 p3 k4 p7 k8 d1 l6 r} (u : made_Dice_Pick d1 l6 = some r) (hS : Dm S0 w0) (hin : Ins S0 w0 [.box b2 (C87 d1 p3 k4) 87]) (h5 : (SlA p3 d1.L.length k4 d1.L).p S0 w0) (h9 : (SlA p7 l6.length k8 l6).p S0 w0) : Calls Tryz.prog 24 #[.pointer (some ⟨b2, 0, none⟩), .slice p7 l6.length k8] w0 (Ret (blks [.box b2 (C87 d1 p3 k4) 87]) w0 S0 (made_Dice_Pick_rd w0 (blks [.box b2 (C87 d1 p3 k4) 87]) b2 r)) := by
 refine enI 12 Tryz.func24 rfl hS hin rfl rfl rfl fun a s d => ?_
 have d := (d.addE h5).addE h9
 delta made_Dice_Pick at u
 refine sz 1 [] s d rfl rfl fun a s => ?_
 refine sn 4 [] s d rfl rfl fun a s => ?_
 obtain ⟨rv11, h10, u⟩ := bind_t u
 refine st_callR s (made_Dice_Next_ok h10 d.dom (d.ins [0] (by decide) rfl) (d.envAt 1 rfl)) (do_call Tryz.call30 rfl) trivial rfl rfl ?_
 rintro v18 Sv15 w a h16 ⟨p12, k13, rfl, h19, h14⟩ s
 have d := (d.callO [0] [] (by decide) rfl h16 h19).addE (e := SlA p12 rv11.2.L.length k13 rv11.2.L) h14
 obtain ⟨x22, h20, u⟩ := bind_t u
 obtain ⟨b28, o29, q26, c27, h30, h23, h24, h25, h21⟩ := d.elemV 1 rfl h20
 have hsv31 := s
 have hwv32 := d
 subst h30
 have s := hsv31
 have d := hwv32
 obtain ⟨_, rfl, rfl⟩ := h21
 have d := d.addE h25
 refine sv s (y_indexAt Tryz.runUnderlying22 Tryz.sizeOf3 rfl rfl h23.1 h23.2 h24) rfl fun a s => ?_
 refine sv s (y_loadE1 (j := 0) (d.ceAt 0 rfl) rfl Tryz.isAgg3 rfl) rfl fun a s => ?_
 refine rz 1 [] s d rfl rfl fun a s => ?_
 have u := oi u
 subst u
 exact wp_ret (ret1 s rfl (rv_tmp rfl) (d.ret ⟨p12, k13, rfl, (d.outs [0] (by decide) rfl), (d.envAt 1 rfl)⟩))
theorem ref03_code_ok {w0 S0 s1 lo2 hi3 r} (u : ref03_code s1 lo2 hi3 = some r) (hS : Dm S0 w0) : Calls Tryz.prog 137 #[.string s1, .int .i64 lo2, .int .i64 hi3] w0 (Ret ([]) w0 S0 (made_Light_rd w0 ([]) r)) := by
 refine en 47 Tryz.func137 rfl hS rfl rfl rfl fun a s d => ?_
 delta ref03_code at u
 refine sz 1 [] s d rfl rfl fun a s => ?_
 refine wp_seq (sz 1 [] s d rfl rfl fun a s => ?_)
 refine wp_block (wp_while (fun sv111 a w => ∃ Sv181, Sl 47 [(0, .string s1), (1, .int .i64 lo2), (2, .int .i64 hi3), (7, .int .i64 sv111)] a ∧ Wd ⟨w0, S0, []⟩ Sv181 [] [] w) 0 u ⟨S0, (s.wk rfl), (d.ft [] [] (by decide) rfl rfl)⟩ ?_)
 repeat clear u
 rintro sv111 a w tv217 ⟨Sv181, s, d⟩ u hd216
 delta ref03_code_l2 at u
 refine wp_seq (sz 4 [] s d rfl rfl fun a s => ?_)
 refine cd s u rfl (fun u => ?_) fun u => ?_
 ·refine wp_skip (then_normal (wp_seq (wp_block (sn 2 [] s d rfl rfl fun a s => ?_))))
  obtain ⟨c254, h253, u⟩ := bind_t u
  refine sv s (y_indexSM Tryz.runUnderlying9 rfl rfl h253) rfl fun a s => ?_
  refine sv s (y_geq (rfl) rfl) rfl fun a s => ?_
  refine mv s rfl rfl fun a s => ?_
  obtain ⟨c258, hc258, u⟩ := bind_t u
  refine wpl_join 5 (fun a w => ∃ Sv259, Sl 47 [(0, .string s1), (1, .int .i64 lo2), (2, .int .i64 hi3), (7, .int .i64 sv111), (23, .bool c258)] a ∧ Wd ⟨w0, S0, []⟩ Sv259 [] [] w) ?_ ?_
  ·rcases Bool.eq_false_or_eq_true (decide (65 ≤ c254)) with h257 | h257
   ·have s := s.fix 18 (.bool true) rfl (vb h257)
    have u := ite_t hc258 h257
    refine rn 2 [] s d rfl rfl fun a s => ?_
    obtain ⟨c261, h260, u⟩ := bind_t u
    refine st_val s (y_indexSM Tryz.runUnderlying9 rfl rfl h260) ⟨_, rfl, rfl⟩ rfl rfl fun a s => ?_
    refine st_val s (y_leq (rfl) rfl) ⟨_, rfl, rfl⟩ rfl rfl fun a s => ?_
    refine sv s (y_pickT rfl rfl) rfl fun a s => ?_
    refine wpList_nil ?_
    have u := oi u
    subst u
    exact then_normal ⟨Sv181, (s.wk rfl), (d.ft [] [] (by decide) rfl rfl)⟩
   have s := s.fix 18 (.bool false) rfl (vb h257)
   have u := ite_f hc258 h257
   refine rn 5 [] s d rfl rfl fun a s => ?_
   refine wpList_nil ?_
   have u := oi u
   subst u
   exact then_normal ⟨Sv181, (s.wk rfl), (d.ft [] [] (by decide) rfl rfl)⟩
  rintro a w ⟨Sv259, s, d⟩
  refine mv s rfl rfl fun a s => ?_
  obtain ⟨c272, hc272, u⟩ := bind_t u
  refine wpl_join 11 (fun a w => ∃ Sv273, Sl 47 [(0, .string s1), (1, .int .i64 lo2), (2, .int .i64 hi3), (7, .int .i64 sv111), (35, .bool c272)] a ∧ Wd ⟨w0, S0, []⟩ Sv273 [] [] w) ?_ ?_
  ·rcases Bool.eq_false_or_eq_true c258 with h271 | h271
   ·have s := s.fix 24 (.bool true) rfl (vb h271)
    have u := ite_t hc272 h271
    refine rn 11 [] s d rfl rfl fun a s => ?_
    refine wpList_nil ?_
    have u := oi u
    subst u
    exact then_normal ⟨Sv259, (s.wk rfl), (d.ft [] [] (by decide) rfl rfl)⟩
   have s := s.fix 24 (.bool false) rfl (vb h271)
   have u := ite_f hc272 h271
   refine rn 2 [] s d rfl rfl fun a s => ?_
   obtain ⟨c275, h274, u⟩ := bind_t u
   refine st_val s (y_indexSM Tryz.runUnderlying9 rfl rfl h274) ⟨_, rfl, rfl⟩ rfl rfl fun a s => ?_
   refine st_val s (y_geq (rfl) rfl) ⟨_, rfl, rfl⟩ rfl rfl fun a s => ?_
   refine st_val s (y_move rfl) ⟨_, rfl, rfl⟩ rfl rfl fun a s => ?_
   obtain ⟨c279, hc279, u⟩ := bind_t u
   refine wpl_join 5 (fun a w => ∃ Sv280, Sl 47 [(0, .string s1), (1, .int .i64 lo2), (2, .int .i64 hi3), (7, .int .i64 sv111), (24, .bool false), (34, .bool c279)] a ∧ Wd ⟨w0, S0, []⟩ Sv280 [] [] w) ?_ ?_
   ·rcases Bool.eq_false_or_eq_true (decide (48 ≤ c275)) with h278 | h278
    ·have s := s.fix 29 (.bool true) rfl (vb h278)
     have u := ite_t hc279 h278
     refine rn 2 [] s d rfl rfl fun a s => ?_
     obtain ⟨c282, h281, u⟩ := bind_t u
     refine st_val s (y_indexSM Tryz.runUnderlying9 rfl rfl h281) ⟨_, rfl, rfl⟩ rfl rfl fun a s => ?_
     refine st_val s (y_leq (rfl) rfl) ⟨_, rfl, rfl⟩ rfl rfl fun a s => ?_
     refine st_val s (y_pickT rfl rfl) ⟨_, rfl, rfl⟩ rfl rfl fun a s => ?_
     refine wpList_nil ?_
     have u := oi u
     subst u
     exact then_normal ⟨Sv259, (s.wk rfl), (d.ft [] [] (by decide) rfl rfl)⟩
    have s := s.fix 29 (.bool false) rfl (vb h278)
    have u := ite_f hc279 h278
    refine rn 5 [] s d rfl rfl fun a s => ?_
    refine wpList_nil ?_
    have u := oi u
    subst u
    exact then_normal ⟨Sv259, (s.wk rfl), (d.ft [] [] (by decide) rfl rfl)⟩
   rintro a w ⟨Sv280, s, d⟩
   refine sv s (y_pickF rfl rfl) rfl fun a s => ?_
   refine wpList_nil ?_
   have u := oi u
   subst u
   exact then_normal ⟨Sv280, (s.wk rfl), (d.ft [] [] (by decide) rfl rfl)⟩
  rintro a w ⟨Sv273, s, d⟩
  refine rz 1 [] s d rfl rfl fun a s => ?_
  refine cd s u rfl (fun u => ?_) fun u => ?_
  ·refine sz 1 [] s d rfl rfl fun a s => ?_
   have u := oi u
   subst u
   have h285 := hd216 _ rfl
   subst h285
   exact wp_ret (blk_ret (then_ret (then_ret (blk_ret (then_ret (ret1 s rfl (rv_tmp rfl) (d.ret rfl)))))))
  refine wp_skip (blk_normal (then_normal (wp_region_lit (rn 2 [] s d rfl rfl fun a s => ?_))))
  obtain ⟨i287, h286, u⟩ := bind_t u
  refine sv s (y_assignI rfl h286) rfl fun a s => ?_
  exact nl ⟨_, (Option.some.inj u).symm, Sv273, (s.wk rfl), (d.ft [] [] (by decide) rfl rfl)⟩
 obtain ⟨rv289, u, h290⟩ := map_t u
 have h290 := (hd216 _ h290.symm).symm
 subst h290
 refine wp_exit (then_exit (then_exit (blk_exit (then_normal (sn 5 [] s d rfl rfl fun a s => ?_)))))
 refine rA 5 41 [] s d rfl rfl rfl rfl rfl fun a s => ?_
 refine rz 1 [] s d rfl rfl fun a s => ?_
 have u := oi u
 subst u
 exact wp_ret (ret1 s rfl (rv_tmp rfl) (d.ret rfl))
theorem ref03_Valid_ok {w0 S0 s1 r} (u : ref03_Valid s1 = some r) (hS : Dm S0 w0) : Calls Tryz.prog 97 #[V52 s1] w0 (Ret ([]) w0 S0 (made_Light_rd w0 ([]) r)) := by
 refine en 26 Tryz.func97 rfl hS rfl rfl rfl fun a s d => ?_
 delta ref03_Valid at u
 refine sr (w_box (cs := (C52 s1)) s d rfl rfl rfl trivial ?_)
 intro b2 a w s d
 refine rz 1 [] s d rfl rfl fun a s => ?_
 refine sn 2 [0] s d rfl rfl fun a s => ?_
 obtain ⟨rv4, h3, u⟩ := bind_t u
 refine st_callR s (ref03_code_ok h3 d.bdom) (do_call Tryz.call137 rfl) trivial rfl rfl ?_
 rintro v8 Sv5 w a h6 rfl s
 have d := d.callB h6
 refine mv s rfl rfl fun a s => ?_
 obtain ⟨c18, hc18, u⟩ := bind_t u
 refine wpl_join 4 (fun a w => ∃ Sv19, Sl 26 [(1, .pointer (some ⟨b2, 0, none⟩)), (10, .bool c18)] a ∧ Wd ⟨w0, S0, []⟩ Sv19 [.box b2 (C52 s1) 52] [] w) ?_ ?_
 ·rcases Bool.eq_false_or_eq_true rv4 with h17 | h17
  ·have s := s.fix 6 (.bool true) rfl (vb h17)
   have u := ite_t hc18 h17
   refine rn 2 [0] s d rfl rfl fun a s => ?_
   obtain ⟨rv21, h20, u⟩ := bind_t u
   refine st_callR s (ref03_code_ok h20 d.bdom) (do_call Tryz.call137 rfl) ⟨_, rfl, rfl⟩ rfl rfl ?_
   rintro v25 Sv22 w a h23 rfl s
   have d := d.callB h23
   refine sv s (y_pickT rfl rfl) rfl fun a s => ?_
   refine wpList_nil ?_
   have u := oi u
   subst u
   exact then_normal ⟨S0, (s.wk rfl), (d.ft [0] [] (by decide) rfl rfl)⟩
  have s := s.fix 6 (.bool false) rfl (vb h17)
  have u := ite_f hc18 h17
  refine rn 4 [] s d rfl rfl fun a s => ?_
  refine wpList_nil ?_
  have u := oi u
  subst u
  exact then_normal ⟨S0, (s.wk rfl), (d.ft [0] [] (by decide) rfl rfl)⟩
 rintro a w ⟨Sv19, s, d⟩
 refine mv s rfl rfl fun a s => ?_
 obtain ⟨c45, hc45, u⟩ := bind_t u
 refine wpl_join 9 (fun a w => ∃ Sv46, Sl 26 [(1, .pointer (some ⟨b2, 0, none⟩)), (20, .bool c45)] a ∧ Wd ⟨w0, S0, []⟩ Sv46 [.box b2 (C52 s1) 52] [] w) ?_ ?_
 ·rcases Bool.eq_false_or_eq_true c18 with h44 | h44
  ·have s := s.fix 11 (.bool true) rfl (vb h44)
   have u := ite_t hc45 h44
   refine rn 2 [0] s d rfl rfl fun a s => ?_
   refine st_val s (y_eqlS rfl rfl) ⟨_, rfl, rfl⟩ rfl rfl fun a s => ?_
   refine st_val s (y_move rfl) ⟨_, rfl, rfl⟩ rfl rfl fun a s => ?_
   obtain ⟨c55, hc55, u⟩ := bind_t u
   refine wpl_join 4 (fun a w => ∃ Sv56, Sl 26 [(1, .pointer (some ⟨b2, 0, none⟩)), (11, .bool true), (19, .bool c55)] a ∧ Wd ⟨w0, S0, []⟩ Sv56 [.box b2 (C52 s1) 52] [] w) ?_ ?_
   ·rcases Bool.eq_false_or_eq_true (s1.Location.toList == (⟨#[]⟩ : ByteArray).toList) with h54 | h54
    ·have s := s.fix 15 (.bool true) rfl (vb h54)
     have u := ite_t hc55 h54
     refine rn 4 [] s d rfl rfl fun a s => ?_
     refine wpList_nil ?_
     have u := oi u
     subst u
     exact then_normal ⟨Sv19, (s.wk rfl), (d.ft [0] [] (by decide) rfl rfl)⟩
    have s := s.fix 15 (.bool false) rfl (vb h54)
    have u := ite_f hc55 h54
    refine rn 2 [0] s d rfl rfl fun a s => ?_
    obtain ⟨rv58, h57, u⟩ := bind_t u
    refine st_callR s (ref03_code_ok h57 d.bdom) (do_call Tryz.call137 rfl) ⟨_, rfl, rfl⟩ rfl rfl ?_
    rintro v62 Sv59 w a h60 rfl s
    have d := d.callB h60
    refine st_val s (y_pickF rfl rfl) ⟨_, rfl, rfl⟩ rfl rfl fun a s => ?_
    refine wpList_nil ?_
    have u := oi u
    subst u
    exact then_normal ⟨Sv19, (s.wk rfl), (d.ft [0] [] (by decide) rfl rfl)⟩
   rintro a w ⟨Sv56, s, d⟩
   refine sv s (y_pickT rfl rfl) rfl fun a s => ?_
   refine wpList_nil ?_
   have u := oi u
   subst u
   exact then_normal ⟨Sv56, (s.wk rfl), (d.ft [0] [] (by decide) rfl rfl)⟩
  have s := s.fix 11 (.bool false) rfl (vb h44)
  have u := ite_f hc45 h44
  refine rn 9 [] s d rfl rfl fun a s => ?_
  refine wpList_nil ?_
  have u := oi u
  subst u
  exact then_normal ⟨Sv19, (s.wk rfl), (d.ft [0] [] (by decide) rfl rfl)⟩
 rintro a w ⟨Sv46, s, d⟩
 refine mv s rfl rfl fun a s => ?_
 obtain ⟨c72, hc72, u⟩ := bind_t u
 refine wpl_join 4 (fun a w => ∃ Sv73, Sl 26 [(25, .bool c72)] a ∧ Wd ⟨w0, S0, []⟩ Sv73 [] [] w) ?_ ?_
 ·rcases Bool.eq_false_or_eq_true c45 with h71 | h71
  ·have s := s.fix 21 (.bool true) rfl (vb h71)
   have u := ite_t hc72 h71
   refine rn 2 [0] s d rfl rfl fun a s => ?_
   obtain ⟨rv75, h74, u⟩ := bind_t u
   refine st_callR s (ref03_code_ok h74 d.bdom) (do_call Tryz.call137 rfl) ⟨_, rfl, rfl⟩ rfl rfl ?_
   rintro v79 Sv76 w a h77 rfl s
   have d := d.callB h77
   refine sv s (y_pickT rfl rfl) rfl fun a s => ?_
   refine wpList_nil ?_
   have u := oi u
   subst u
   exact then_normal ⟨Sv46, (s.wk rfl), (d.ft [] [] (by decide) rfl rfl)⟩
  have s := s.fix 21 (.bool false) rfl (vb h71)
  have u := ite_f hc72 h71
  refine rn 4 [] s d rfl rfl fun a s => ?_
  refine wpList_nil ?_
  have u := oi u
  subst u
  exact then_normal ⟨Sv46, (s.wk rfl), (d.ft [] [] (by decide) rfl rfl)⟩
 rintro a w ⟨Sv73, s, d⟩
 refine rz 1 [] s d rfl rfl fun a s => ?_
 have u := oi u
 subst u
 exact wp_ret (ret1 s rfl (rv_tmp rfl) (d.ret rfl))
theorem ref01_In_ok {w0 S0 n1 lo2 hi3 r} (u : ref01_In n1 lo2 hi3 = some r) (hS : Dm S0 w0) : Calls Tryz.prog 61 #[.int .i64 n1, .int .i64 lo2, .int .i64 hi3] w0 (Ret ([]) w0 S0 (made_Light_rd w0 ([]) r)) := by
 refine en 15 Tryz.func61 rfl hS rfl rfl rfl fun a s d => ?_
 delta ref01_In at u
 refine sz 1 [] s d rfl rfl fun a s => ?_
 refine sn 4 [] s d rfl rfl fun a s => ?_
 refine rA 4 10 [] s d rfl rfl rfl rfl rfl fun a s => ?_
 refine rz 1 [] s d rfl rfl fun a s => ?_
 have u := oi u
 subst u
 exact wp_ret (ret1 s rfl (rv_tmp rfl) (d.ret rfl))
theorem ref02_gcd_ok {w0 S0 a1 b2 r} (u : ref02_gcd a1 b2 = some r) (hS : Dm S0 w0) : Calls Tryz.prog 103 #[.int .i64 a1, .int .i64 b2] w0 (Ret ([]) w0 S0 (slices_IndexFunc_Lapi_Record_api_Record_rd w0 ([]) r)) := by
 refine en 12 Tryz.func103 rfl hS rfl rfl rfl fun a s d => ?_
 delta ref02_gcd at u
 refine sz 1 [] s d rfl rfl fun a s => ?_
 refine wp_seq ?_
 obtain ⟨e21, h32, u⟩ := bind_t u
 refine wp_join (fun a w => ∃ Sv22, Sl 12 [(0, .int .i64 e21)] a ∧ Wd ⟨w0, S0, []⟩ Sv22 [] [] w) ?_ ?_
 ·refine wp_block (wp_while (fun sv3 a w => ∃ Sv13, Sl 12 [(0, .int .i64 sv3.1), (1, .int .i64 sv3.2)] a ∧ Wd ⟨w0, S0, []⟩ Sv13 [] [] w) (a1, b2) h32 ⟨S0, (s.wk rfl), (d.ft [] [] (by decide) rfl rfl)⟩ ?_)
  clear h32
  repeat clear u
  rintro sv3 a w tv19 ⟨Sv13, s, d⟩ u hd18
  delta ref02_gcd_l1 at u
  refine wp_seq (sz 2 [] s d rfl rfl fun a s => ?_)
  refine cd s u rfl (fun u => ?_) fun u => ?_
  ·refine wp_skip (then_normal (wp_block ?_))
   obtain ⟨rem29, h28, u⟩ := bind_t u
   refine wp_only (fun a w => ∃ Sv30, Sl 12 [(0, .int .i64 sv3.2), (1, .int .i64 rem29)] a ∧ Wd ⟨w0, S0, []⟩ Sv30 [] [] w) ?_ ?_
   ·refine h_c [] [] d rfl rfl (by kernel_rfl) rfl fun hC d => ?_
    refine gn 3 [0, 1, 2] [] s hC rfl rfl rfl fun a s => ?_
    refine gv s 3 rfl rfl hC (fun w hC => y_remM rfl rfl h28) fun a s => ?_
    refine gn 2 [4, 5] [] s hC rfl rfl rfl fun a s => ?_
    refine h_done (by kernel_rfl) ?_
    exact ⟨Sv13, (s.wk rfl), (d.ft [] [] (by decide) rfl rfl)⟩
   rintro a w ⟨Sv30, s, d⟩
   exact blk_normal (then_normal ⟨_, (Option.some.inj u).symm, Sv30, (s.wk rfl), (d.ft [] [] (by decide) rfl rfl)⟩)
  refine wp_exit (then_exit (then_exit (blk_exit ?_)))
  have u := oi u
  subst u
  have h31 := hd18 _ rfl
  subst h31
  exact then_normal ⟨Sv13, (s.wk rfl), (d.ft [] [] (by decide) rfl rfl)⟩
 rintro a w ⟨Sv22, s, d⟩
 refine then_normal (sz 2 [] s d rfl rfl fun a s => ?_)
 have u := oi u
 subst u
 exact wp_ret (ret1 s rfl (rv_tmp rfl) (d.ret rfl))
theorem ref02_Valid_ok {w0 S0 r1 r} (u : ref02_Valid r1 = some r) (hS : Dm S0 w0) : Calls Tryz.prog 70 #[V54 r1] w0 (Ret ([]) w0 S0 (made_Light_rd w0 ([]) r)) := by
 refine en 19 Tryz.func70 rfl hS rfl rfl rfl fun a s d => ?_
 delta ref02_Valid at u
 refine sr (w_box (cs := (C54 r1)) s d rfl rfl rfl trivial ?_)
 intro b2 a w s d
 refine rz 1 [] s d rfl rfl fun a s => ?_
 refine sn 2 [0] s d rfl rfl fun a s => ?_
 obtain ⟨rv4, h3, u⟩ := bind_t u
 refine st_callR s (ref01_In_ok h3 d.bdom) (do_call Tryz.call61 rfl) trivial rfl rfl ?_
 rintro v8 Sv5 w a h6 rfl s
 have d := d.callB h6
 refine mv s rfl rfl fun a s => ?_
 obtain ⟨c18, hc18, u⟩ := bind_t u
 refine wpl_join 4 (fun a w => ∃ Sv19, Sl 19 [(1, .pointer (some ⟨b2, 0, none⟩)), (10, .bool c18)] a ∧ Wd ⟨w0, S0, []⟩ Sv19 [.box b2 (C54 r1) 54] [] w) ?_ ?_
 ·rcases Bool.eq_false_or_eq_true rv4 with h17 | h17
  ·have s := s.fix 6 (.bool true) rfl (vb h17)
   have u := ite_t hc18 h17
   refine rn 2 [0] s d rfl rfl fun a s => ?_
   obtain ⟨rv21, h20, u⟩ := bind_t u
   refine st_callR s (ref01_In_ok h20 d.bdom) (do_call Tryz.call61 rfl) ⟨_, rfl, rfl⟩ rfl rfl ?_
   rintro v25 Sv22 w a h23 rfl s
   have d := d.callB h23
   refine sv s (y_pickT rfl rfl) rfl fun a s => ?_
   refine wpList_nil ?_
   have u := oi u
   subst u
   exact then_normal ⟨S0, (s.wk rfl), (d.ft [0] [] (by decide) rfl rfl)⟩
  have s := s.fix 6 (.bool false) rfl (vb h17)
  have u := ite_f hc18 h17
  refine rn 4 [] s d rfl rfl fun a s => ?_
  refine wpList_nil ?_
  have u := oi u
  subst u
  exact then_normal ⟨S0, (s.wk rfl), (d.ft [0] [] (by decide) rfl rfl)⟩
 rintro a w ⟨Sv19, s, d⟩
 refine mv s rfl rfl fun a s => ?_
 obtain ⟨c35, hc35, u⟩ := bind_t u
 refine wpl_join 7 (fun a w => ∃ Sv36, Sl 19 [(18, .bool c35)] a ∧ Wd ⟨w0, S0, []⟩ Sv36 [] [] w) ?_ ?_
 ·rcases Bool.eq_false_or_eq_true c18 with h34 | h34
  ·have s := s.fix 11 (.bool true) rfl (vb h34)
   have u := ite_t hc35 h34
   refine rn 4 [0, 0] s d rfl rfl fun a s => ?_
   obtain ⟨rv38, h37, u⟩ := bind_t u
   refine st_callR s (ref02_gcd_ok h37 d.bdom) (do_call Tryz.call103 rfl) ⟨_, rfl, rfl⟩ rfl rfl ?_
   rintro v42 Sv39 w a h40 rfl s
   have d := d.callB h40
   refine rn 2 [] s d rfl rfl fun a s => ?_
   refine wpList_nil ?_
   have u := oi u
   subst u
   exact then_normal ⟨Sv19, (s.wk rfl), (d.ft [] [] (by decide) rfl rfl)⟩
  have s := s.fix 11 (.bool false) rfl (vb h34)
  have u := ite_f hc35 h34
  refine rn 7 [] s d rfl rfl fun a s => ?_
  refine wpList_nil ?_
  have u := oi u
  subst u
  exact then_normal ⟨Sv19, (s.wk rfl), (d.ft [] [] (by decide) rfl rfl)⟩
 rintro a w ⟨Sv36, s, d⟩
 refine rz 1 [] s d rfl rfl fun a s => ?_
 have u := oi u
 subst u
 exact wp_ret (ret1 s rfl (rv_tmp rfl) (d.ret rfl))
theorem ref05_Sample_ok {w0 S0 n1 r} (u : ref05_Sample n1 = some r) (hS : Dm S0 w0) : Calls Tryz.prog 138 #[.int .i64 n1] w0 (Ret ([]) w0 S0 (made_Light_rd w0 ([]) r)) := by
 refine en 5 Tryz.func138 rfl hS rfl rfl rfl fun a s d => ?_
 delta ref05_Sample at u
 refine sz 1 [] s d rfl rfl fun a s => ?_
 refine sn 1 [] s d rfl rfl fun a s => ?_
 obtain ⟨rv3, h2, u⟩ := bind_t u
 refine st_callR s (ref01_In_ok h2 d.bdom) (do_call Tryz.call61 rfl) trivial rfl rfl ?_
 rintro v7 Sv4 w a h5 rfl s
 have d := d.callB h5
 refine rz 1 [] s d rfl rfl fun a s => ?_
 have u := oi u
 subst u
 exact wp_ret (ret1 s rfl (rv_tmp rfl) (d.ret rfl))
theorem ref05_InRange_ok {w0 S0 p2 k3 l1 r} (u : ref05_InRange l1 = some r) (hS : Dm S0 w0) (h4 : (SlA p2 l1.length k3 l1).p S0 w0) : Calls Tryz.prog 98 #[.slice p2 l1.length k3] w0 (Ret ([]) w0 S0 (made_Light_rd w0 ([]) r)) := by
 refine en 16 Tryz.func98 rfl hS rfl rfl rfl fun a s d => ?_
 have d := d.addE h4
 delta ref05_InRange at u
 refine sz 1 [] s d rfl rfl fun a s => ?_
 refine wp_seq (sz 1 [] s d rfl rfl fun a s => ?_)
 refine wp_block (wp_while (fun sv82 a w => ∃ Sv132, Sl 16 [(0, .slice p2 l1.length k3), (3, .int .i64 sv82)] a ∧ Wd ⟨w0, S0, []⟩ Sv132 [] [SlA p2 l1.length k3 l1] w) 0 u ⟨S0, (s.wk rfl), (d.ft [] [0] (by decide) rfl rfl)⟩ ?_)
 repeat clear u
 rintro sv82 a w tv158 ⟨Sv132, s, d⟩ u hd157
 delta ref05_InRange_l2 at u
 refine wp_seq (sz 4 [] s d rfl rfl fun a s => ?_)
 refine cd s u rfl (fun u => ?_) fun u => ?_
 ·refine wp_skip (then_normal (wp_seq (wp_block (sn 2 [] s d rfl rfl fun a s => ?_))))
  obtain ⟨x186, h184, u⟩ := bind_t u
  obtain ⟨b192, o193, q190, c191, h194, h187, h188, h189, h185⟩ := d.elemV 0 rfl h184
  have hsv195 := s
  have hwv196 := d
  subst h194
  have s := hsv195
  have d := hwv196
  obtain ⟨_, rfl, rfl⟩ := h185
  have d := d.addE h189
  refine sv s (y_indexAt Tryz.runUnderlying22 Tryz.sizeOf3 rfl rfl h187.1 h187.2 h188) rfl fun a s => ?_
  refine sv s (y_loadE1 (j := 0) (d.ceAt 0 rfl) rfl Tryz.isAgg3 rfl) rfl fun a s => ?_
  obtain ⟨rv198, h197, u⟩ := bind_t u
  refine st_callR s (ref05_Sample_ok h197 d.bdom) (do_call Tryz.call138 rfl) trivial rfl rfl ?_
  rintro v202 Sv199 w a h200 rfl s
  have d := d.callB h200
  refine rz 1 [] s d rfl rfl fun a s => ?_
  refine cd s u rfl (fun u => ?_) fun u => ?_
  ·refine sz 1 [] s d rfl rfl fun a s => ?_
   have u := oi u
   subst u
   have h206 := hd157 _ rfl
   subst h206
   exact wp_ret (blk_ret (then_ret (then_ret (blk_ret (then_ret (ret1 s rfl (rv_tmp rfl) (d.ret rfl)))))))
  refine wp_skip (blk_normal (then_normal (wp_region_lit (rn 2 [] s d rfl rfl fun a s => ?_))))
  obtain ⟨i208, h207, u⟩ := bind_t u
  refine sv s (y_assignI rfl h207) rfl fun a s => ?_
  exact nl ⟨_, (Option.some.inj u).symm, Sv132, (s.wk rfl), (d.ft [] [1] (by decide) rfl rfl)⟩
 obtain ⟨rv209, u, h210⟩ := map_t u
 have h210 := (hd157 _ h210.symm).symm
 subst h210
 refine wp_exit (then_exit (then_exit (blk_exit (then_normal (sz 1 [] s d rfl rfl fun a s => ?_)))))
 have u := oi u
 subst u
 exact wp_ret (ret1 s rfl (rv_tmp rfl) (d.ret rfl))
theorem ref02_Time_ok {w0 S0 start1 r2 k3 r} (u : ref02_Time start1 r2 k3 = some r) (hS : Dm S0 w0) : Calls Tryz.prog 28 #[.int .i64 start1, V54 r2, .int .i64 k3] w0 (Ret ([]) w0 S0 (rate_Time_rd w0 ([]) r)) := by
 refine en 29 Tryz.func28 rfl hS rfl rfl rfl fun a s d => ?_
 delta ref02_Time at u
 refine sr (w_box (cs := (C54 r2)) s d rfl rfl rfl trivial ?_)
 intro b4 a w s d
 refine rz 2 [] s d rfl rfl fun a s => ?_
 refine wp_seq (sn 1 [0] s d rfl rfl fun a s => ?_)
 obtain ⟨rv6, h5, u⟩ := bind_t u
 refine st_callR s (ref02_Valid_ok h5 d.bdom) (do_call Tryz.call70 rfl) trivial rfl rfl ?_
 rintro v10 Sv7 w a h8 rfl s
 have d := d.callB h8
 refine rz 1 [] s d rfl rfl fun a s => ?_
 refine cd s u rfl (fun u => ?_) fun u => ?_
 ·refine sz 2 [] s d rfl rfl fun a s => ?_
  have u := oi u
  subst u
  exact wp_ret (then_ret (ret2 s rfl (rv_tmp rfl) (rv_tmp rfl) (d.ret rfl)))
 refine wp_skip (then_normal (wp_seq (sn 1 [] s d rfl rfl fun a s => ?_)))
 obtain ⟨rv15, h14, u⟩ := bind_t u
 refine st_callR s (ref01_In_ok h14 d.bdom) (do_call Tryz.call61 rfl) trivial rfl rfl ?_
 rintro v19 Sv16 w a h17 rfl s
 have d := d.callB h17
 refine rn 2 [] s d rfl rfl fun a s => ?_
 obtain ⟨c29, hc29, u⟩ := bind_t u
 refine wpl_join 4 (fun a w => ∃ Sv30, Sl 29 [(0, .int .i64 start1), (2, .int .i64 k3), (4, .pointer (some ⟨b4, 0, none⟩)), (18, .bool c29)] a ∧ Wd ⟨w0, S0, []⟩ Sv30 [.box b4 (C54 r2) 54] [] w) ?_ ?_
 ·rcases Bool.eq_false_or_eq_true (!rv15) with h28 | h28
  ·have s := s.fix 14 (.bool true) rfl (vb h28)
   have u := ite_t hc29 h28
   refine rn 4 [] s d rfl rfl fun a s => ?_
   refine wpList_nil ?_
   have u := oi u
   subst u
   exact then_normal ⟨S0, (s.wk rfl), (d.ft [0] [] (by decide) rfl rfl)⟩
  have s := s.fix 14 (.bool false) rfl (vb h28)
  have u := ite_f hc29 h28
  refine st_val s (y_move rfl) ⟨_, rfl, rfl⟩ rfl rfl fun a s => ?_
  obtain ⟨rv32, h31, u⟩ := bind_t u
  refine st_callR s (ref01_In_ok h31 d.bdom) (do_call Tryz.call61 rfl) ⟨_, rfl, rfl⟩ rfl rfl ?_
  rintro v36 Sv33 w a h34 rfl s
  have d := d.callB h34
  refine rn 2 [] s d rfl rfl fun a s => ?_
  refine wpList_nil ?_
  have u := oi u
  subst u
  exact then_normal ⟨S0, (s.wk rfl), (d.ft [0] [] (by decide) rfl rfl)⟩
 rintro a w ⟨Sv30, s, d⟩
 refine nl (cd s u rfl (fun u => ?_) fun u => ?_)
 ·refine sz 2 [] s d rfl rfl fun a s => ?_
  have u := oi u
  subst u
  exact wp_ret (then_ret (ret2 s rfl (rv_tmp rfl) (rv_tmp rfl) (d.ret rfl)))
 refine wp_skip (then_normal (sn 8 [0, 0] s d rfl rfl fun a s => ?_))
 obtain ⟨quo41, h40, u⟩ := bind_t u
 refine sv s (y_quoM rfl rfl h40) rfl fun a s => ?_
 refine sv s (y_add rfl rfl) rfl fun a s => ?_
 obtain ⟨x43, h42, u⟩ := bind_t u
 refine sv s (y_assignI rfl h42) rfl fun a s => ?_
 refine rz 1 [] s d rfl rfl fun a s => ?_
 have u := oi u
 subst u
 exact wp_ret (ret2 s rfl (rv_tmp rfl) (rv_tmp rfl) (d.ret rfl))
theorem ref14_Time_ok {w0 S0 p2 k3 r1 i5 r} (u : ref14_Time r1 i5 = some r) (hS : Dm S0 w0) (h4 : (SlA p2 r1.Samples.length k3 r1.Samples).p S0 w0) : Calls Tryz.prog 62 #[V56 r1 p2 k3, .int .i64 i5] w0 (Ret ([]) w0 S0 (slices_IndexFunc_Lapi_Record_api_Record_rd w0 ([]) r)) := by
 refine en 20 Tryz.func62 rfl hS rfl rfl rfl fun a s d => ?_
 have d := d.addE h4
 delta ref14_Time at u
 refine sr (w_box (cs := (C56 r1 p2 k3)) s d rfl rfl rfl trivial ?_)
 intro b6 a w s d
 refine rz 1 [] s d rfl rfl fun a s => ?_
 refine sn 8 [0, 0, 0] s d rfl rfl fun a s => ?_
 obtain ⟨rv8, h7, u⟩ := bind_t u
 refine st_callR s (ref02_Time_ok h7 d.bdom) (do_call Tryz.call28 rfl) trivial rfl rfl ?_
 rintro v12 Sv9 w a h10 rfl s
 have d := d.callB h10
 refine rz 5 [] s d rfl rfl fun a s => ?_
 refine sz 2 [] s d rfl rfl fun a s => ?_
 have u := oi u
 subst u
 exact wp_ret (ret1 s rfl (rv_tmp rfl) (d.ret rfl))
theorem ref14_Valid_ok {w0 S0 p2 k3 r1 r} (u : ref14_Valid r1 = some r) (hS : Dm S0 w0) (h4 : (SlA p2 r1.Samples.length k3 r1.Samples).p S0 w0) : Calls Tryz.prog 60 #[V56 r1 p2 k3] w0 (Ret ([]) w0 S0 (made_Light_rd w0 ([]) r)) := by
 refine en 68 Tryz.func60 rfl hS rfl rfl rfl fun a s d => ?_
 have d := d.addE h4
 delta ref14_Valid at u
 refine sr (w_box (cs := (C56 r1 p2 k3)) s d rfl rfl rfl trivial ?_)
 intro b5 a w s d
 refine rz 1 [] s d rfl rfl fun a s => ?_
 refine wp_seq (sn 2 [0] s d rfl rfl fun a s => ?_)
 obtain ⟨rv7, h6, u⟩ := bind_t u
 refine st_callR s (ref03_Valid_ok h6 d.bdom) (do_call Tryz.call97 rfl) trivial rfl rfl ?_
 rintro v11 Sv8 w a h9 rfl s
 have d := d.callB h9
 refine rn 2 [] s d rfl rfl fun a s => ?_
 obtain ⟨c21, hc21, u⟩ := bind_t u
 refine wpl_join 5 (fun a w => ∃ Sv22, Sl 68 [(1, .pointer (some ⟨b5, 0, none⟩)), (12, .bool c21)] a ∧ Wd ⟨w0, S0, []⟩ Sv22 [.box b5 (C56 r1 p2 k3) 56] [SlA p2 r1.Samples.length k3 r1.Samples] w) ?_ ?_
 ·rcases Bool.eq_false_or_eq_true (!rv7) with h20 | h20
  ·have s := s.fix 7 (.bool true) rfl (vb h20)
   have u := ite_t hc21 h20
   refine rn 5 [] s d rfl rfl fun a s => ?_
   refine wpList_nil ?_
   have u := oi u
   subst u
   exact then_normal ⟨S0, (s.wk rfl), (d.ft [0] [0] (by decide) rfl rfl)⟩
  have s := s.fix 7 (.bool false) rfl (vb h20)
  have u := ite_f hc21 h20
  refine rn 2 [0] s d rfl rfl fun a s => ?_
  obtain ⟨rv24, h23, u⟩ := bind_t u
  refine st_callR s (ref02_Valid_ok h23 d.bdom) (do_call Tryz.call70 rfl) ⟨_, rfl, rfl⟩ rfl rfl ?_
  rintro v28 Sv25 w a h26 rfl s
  have d := d.callB h26
  refine rn 2 [] s d rfl rfl fun a s => ?_
  refine wpList_nil ?_
  have u := oi u
  subst u
  exact then_normal ⟨S0, (s.wk rfl), (d.ft [0] [0] (by decide) rfl rfl)⟩
 rintro a w ⟨Sv22, s, d⟩
 refine mv s rfl rfl fun a s => ?_
 obtain ⟨c38, hc38, u⟩ := bind_t u
 refine wpl_join 5 (fun a w => ∃ Sv39, Sl 68 [(1, .pointer (some ⟨b5, 0, none⟩)), (18, .bool c38)] a ∧ Wd ⟨w0, S0, []⟩ Sv39 [.box b5 (C56 r1 p2 k3) 56] [SlA p2 r1.Samples.length k3 r1.Samples] w) ?_ ?_
 ·rcases Bool.eq_false_or_eq_true c21 with h37 | h37
  ·have s := s.fix 13 (.bool true) rfl (vb h37)
   have u := ite_t hc38 h37
   refine rn 5 [] s d rfl rfl fun a s => ?_
   refine wpList_nil ?_
   have u := oi u
   subst u
   exact then_normal ⟨Sv22, (s.wk rfl), (d.ft [0] [0] (by decide) rfl rfl)⟩
  have s := s.fix 13 (.bool false) rfl (vb h37)
  have u := ite_f hc38 h37
  refine rn 2 [0] s d rfl rfl fun a s => ?_
  obtain ⟨rv41, h40, u⟩ := bind_t u
  refine st_callR s (ref01_In_ok h40 d.bdom) (do_call Tryz.call61 rfl) ⟨_, rfl, rfl⟩ rfl rfl ?_
  rintro v45 Sv42 w a h43 rfl s
  have d := d.callB h43
  refine rn 2 [] s d rfl rfl fun a s => ?_
  refine wpList_nil ?_
  have u := oi u
  subst u
  exact then_normal ⟨Sv22, (s.wk rfl), (d.ft [0] [0] (by decide) rfl rfl)⟩
 rintro a w ⟨Sv39, s, d⟩
 refine mv s rfl rfl fun a s => ?_
 obtain ⟨c55, hc55, u⟩ := bind_t u
 refine wpl_join 5 (fun a w => ∃ Sv56, Sl 68 [(1, .pointer (some ⟨b5, 0, none⟩)), (24, .bool c55)] a ∧ Wd ⟨w0, S0, []⟩ Sv56 [.box b5 (C56 r1 p2 k3) 56] [SlA p2 r1.Samples.length k3 r1.Samples] w) ?_ ?_
 ·rcases Bool.eq_false_or_eq_true c38 with h54 | h54
  ·have s := s.fix 19 (.bool true) rfl (vb h54)
   have u := ite_t hc55 h54
   refine rn 5 [] s d rfl rfl fun a s => ?_
   refine wpList_nil ?_
   have u := oi u
   subst u
   exact then_normal ⟨Sv39, (s.wk rfl), (d.ft [0] [0] (by decide) rfl rfl)⟩
  have s := s.fix 19 (.bool false) rfl (vb h54)
  have u := ite_f hc55 h54
  refine rn 2 [0] s d rfl rfl fun a s => ?_
  obtain ⟨rv58, h57, u⟩ := bind_t u
  refine st_callR s (ref01_In_ok h57 d.bdom) (do_call Tryz.call61 rfl) ⟨_, rfl, rfl⟩ rfl rfl ?_
  rintro v62 Sv59 w a h60 rfl s
  have d := d.callB h60
  refine rn 2 [] s d rfl rfl fun a s => ?_
  refine wpList_nil ?_
  have u := oi u
  subst u
  exact then_normal ⟨Sv39, (s.wk rfl), (d.ft [0] [0] (by decide) rfl rfl)⟩
 rintro a w ⟨Sv56, s, d⟩
 refine mv s rfl rfl fun a s => ?_
 obtain ⟨c72, hc72, u⟩ := bind_t u
 refine wpl_join 6 (fun a w => ∃ Sv73, Sl 68 [(1, .pointer (some ⟨b5, 0, none⟩)), (31, .bool c72)] a ∧ Wd ⟨w0, S0, []⟩ Sv73 [.box b5 (C56 r1 p2 k3) 56] [SlA p2 r1.Samples.length k3 r1.Samples] w) ?_ ?_
 ·rcases Bool.eq_false_or_eq_true c55 with h71 | h71
  ·have s := s.fix 25 (.bool true) rfl (vb h71)
   have u := ite_t hc72 h71
   refine rn 6 [] s d rfl rfl fun a s => ?_
   refine wpList_nil ?_
   have u := oi u
   subst u
   exact then_normal ⟨Sv56, (s.wk rfl), (d.ft [0] [0] (by decide) rfl rfl)⟩
  have s := s.fix 25 (.bool false) rfl (vb h71)
  have u := ite_f hc72 h71
  refine rn 3 [0] s d rfl rfl fun a s => ?_
  obtain ⟨rv75, h74, u⟩ := bind_t u
  refine st_callR s (ref01_In_ok h74 d.bdom) (do_call Tryz.call61 rfl) ⟨_, rfl, rfl⟩ rfl rfl ?_
  rintro v79 Sv76 w a h77 rfl s
  have d := d.callB h77
  refine rn 2 [] s d rfl rfl fun a s => ?_
  refine wpList_nil ?_
  have u := oi u
  subst u
  exact then_normal ⟨Sv56, (s.wk rfl), (d.ft [0] [0] (by decide) rfl rfl)⟩
 rintro a w ⟨Sv73, s, d⟩
 refine mv s rfl rfl fun a s => ?_
 refine rO 8 32 [0, 0] s d rfl rfl rfl rfl rfl fun a s => ?_
 refine mv s rfl rfl fun a s => ?_
 obtain ⟨c90, hc90, u⟩ := bind_t u
 refine wpl_join 5 (fun a w => ∃ Sv91, Sl 68 [(1, .pointer (some ⟨b5, 0, none⟩)), (46, .bool c90)] a ∧ Wd ⟨w0, S0, []⟩ Sv91 [.box b5 (C56 r1 p2 k3) 56] [SlA p2 r1.Samples.length k3 r1.Samples] w) ?_ ?_
 ·rcases Bool.eq_false_or_eq_true (c72 || (decide (16777216 < (w64 (r1.First + (r1.Samples.length : Int)))))) with h89 | h89
  ·have s := s.fix 41 (.bool true) rfl (vb h89)
   have u := ite_t hc90 h89
   refine rn 5 [] s d rfl rfl fun a s => ?_
   refine wpList_nil ?_
   have u := oi u
   subst u
   exact then_normal ⟨Sv73, (s.wk rfl), (d.ft [0] [0] (by decide) rfl rfl)⟩
  have s := s.fix 41 (.bool false) rfl (vb h89)
  have u := ite_f hc90 h89
  refine rn 2 [0] s d rfl rfl fun a s => ?_
  obtain ⟨rv93, h92, u⟩ := bind_t u
  refine st_callR s (ref05_InRange_ok h92 d.bdom (d.bE 0 rfl)) (do_call Tryz.call98 rfl) ⟨_, rfl, rfl⟩ rfl rfl ?_
  rintro v97 Sv94 w a h95 rfl s
  have d := d.callB h95
  refine rn 2 [] s d rfl rfl fun a s => ?_
  refine wpList_nil ?_
  have u := oi u
  subst u
  exact then_normal ⟨Sv73, (s.wk rfl), (d.ft [0] [0] (by decide) rfl rfl)⟩
 rintro a w ⟨Sv91, s, d⟩
 refine nl (cd s u rfl (fun u => ?_) fun u => ?_)
 ·refine sz 1 [] s d rfl rfl fun a s => ?_
  have u := oi u
  subst u
  exact wp_ret (then_ret (ret1 s rfl (rv_tmp rfl) (d.ret rfl)))
 refine wp_skip (then_normal (sn 2 [0] s d rfl rfl fun a s => ?_))
 obtain ⟨rv102, h101, u⟩ := bind_t u
 refine st_callR s (ref01_In_ok h101 d.bdom) (do_call Tryz.call61 rfl) trivial rfl rfl ?_
 rintro v106 Sv103 w a h104 rfl s
 have d := d.callB h104
 refine mv s rfl rfl fun a s => ?_
 obtain ⟨c116, hc116, u⟩ := bind_t u
 refine wpl_join 4 (fun a w => ∃ Sv117, Sl 68 [(1, .pointer (some ⟨b5, 0, none⟩)), (54, .bool c116)] a ∧ Wd ⟨w0, S0, []⟩ Sv117 [.box b5 (C56 r1 p2 k3) 56] [SlA p2 r1.Samples.length k3 r1.Samples] w) ?_ ?_
 ·rcases Bool.eq_false_or_eq_true rv102 with h115 | h115
  ·have s := s.fix 50 (.bool true) rfl (vb h115)
   have u := ite_t hc116 h115
   refine rn 2 [0] s d rfl rfl fun a s => ?_
   obtain ⟨rv119, h118, u⟩ := bind_t u
   refine st_callR s (ref01_In_ok h118 d.bdom) (do_call Tryz.call61 rfl) ⟨_, rfl, rfl⟩ rfl rfl ?_
   rintro v123 Sv120 w a h121 rfl s
   have d := d.callB h121
   refine sv s (y_pickT rfl rfl) rfl fun a s => ?_
   refine wpList_nil ?_
   have u := oi u
   subst u
   exact then_normal ⟨Sv91, (s.wk rfl), (d.ft [0] [0] (by decide) rfl rfl)⟩
  have s := s.fix 50 (.bool false) rfl (vb h115)
  have u := ite_f hc116 h115
  refine rn 4 [] s d rfl rfl fun a s => ?_
  refine wpList_nil ?_
  have u := oi u
  subst u
  exact then_normal ⟨Sv91, (s.wk rfl), (d.ft [0] [0] (by decide) rfl rfl)⟩
 rintro a w ⟨Sv117, s, d⟩
 refine mv s rfl rfl fun a s => ?_
 obtain ⟨c133, hc133, u⟩ := bind_t u
 refine wpl_join 4 (fun a w => ∃ Sv134, Sl 68 [(1, .pointer (some ⟨b5, 0, none⟩)), (59, .bool c133)] a ∧ Wd ⟨w0, S0, []⟩ Sv134 [.box b5 (C56 r1 p2 k3) 56] [SlA p2 r1.Samples.length k3 r1.Samples] w) ?_ ?_
 ·rcases Bool.eq_false_or_eq_true c116 with h132 | h132
  ·have s := s.fix 55 (.bool true) rfl (vb h132)
   have u := ite_t hc133 h132
   refine rn 2 [0] s d rfl rfl fun a s => ?_
   obtain ⟨rv136, h135, u⟩ := bind_t u
   refine st_callR s (ref01_In_ok h135 d.bdom) (do_call Tryz.call61 rfl) ⟨_, rfl, rfl⟩ rfl rfl ?_
   rintro v140 Sv137 w a h138 rfl s
   have d := d.callB h138
   refine sv s (y_pickT rfl rfl) rfl fun a s => ?_
   refine wpList_nil ?_
   have u := oi u
   subst u
   exact then_normal ⟨Sv117, (s.wk rfl), (d.ft [0] [0] (by decide) rfl rfl)⟩
  have s := s.fix 55 (.bool false) rfl (vb h132)
  have u := ite_f hc133 h132
  refine rn 4 [] s d rfl rfl fun a s => ?_
  refine wpList_nil ?_
  have u := oi u
  subst u
  exact then_normal ⟨Sv117, (s.wk rfl), (d.ft [0] [0] (by decide) rfl rfl)⟩
 rintro a w ⟨Sv134, s, d⟩
 refine mv s rfl rfl fun a s => ?_
 obtain ⟨c150, hc150, u⟩ := bind_t u
 refine wpl_join 7 (fun a w => ∃ Sv151, Sl 68 [(67, .bool c150)] a ∧ Wd ⟨w0, S0, []⟩ Sv151 [] [] w) ?_ ?_
 ·rcases Bool.eq_false_or_eq_true c133 with h149 | h149
  ·have s := s.fix 60 (.bool true) rfl (vb h149)
   have u := ite_t hc150 h149
   refine rn 4 [0, 0] s d rfl rfl fun a s => ?_
   obtain ⟨rv153, h152, u⟩ := bind_t u
   refine st_callR s (ref14_Time_ok h152 d.bdom (d.bE 0 rfl)) (do_call Tryz.call62 rfl) ⟨_, rfl, rfl⟩ rfl rfl ?_
   rintro v157 Sv154 w a h155 rfl s
   have d := d.callB h155
   refine rn 2 [] s d rfl rfl fun a s => ?_
   refine wpList_nil ?_
   have u := oi u
   subst u
   exact then_normal ⟨Sv134, (s.wk rfl), (d.ft [] [] (by decide) rfl rfl)⟩
  have s := s.fix 60 (.bool false) rfl (vb h149)
  have u := ite_f hc150 h149
  refine rn 7 [] s d rfl rfl fun a s => ?_
  refine wpList_nil ?_
  have u := oi u
  subst u
  exact then_normal ⟨Sv134, (s.wk rfl), (d.ft [] [] (by decide) rfl rfl)⟩
 rintro a w ⟨Sv151, s, d⟩
 refine rz 1 [] s d rfl rfl fun a s => ?_
 have u := oi u
 subst u
 exact wp_ret (ret1 s rfl (rv_tmp rfl) (d.ret rfl))
abbrev ref14_Sub_rd (w0 : World) (X : List Nat) (r : (Record × Int)) : Rd := fun S w v => ∃ p0_11 k0_11 c0_11, v = .tuple #[V56 r.1 p0_11 k0_11, .int .i64 r.2] ∧ Outs X w0 S w [.row p0_11 r.1.Samples.length k0_11 c0_11 3 1] ∧ (RowA c0_11 r.1.Samples).p S w
theorem ref14_Sub_ok {w0 S0 p2 k3 r1 from5 to6 r} (u : ref14_Sub r1 from5 to6 = some r) (hS : Dm S0 w0) (h4 : (SlA p2 r1.Samples.length k3 r1.Samples).p S0 w0) : Calls Tryz.prog 68 #[V56 r1 p2 k3, .int .i64 from5, .int .i64 to6] w0 (Ret ([]) w0 S0 (ref14_Sub_rd w0 ([]) r)) := by
 refine en 42 Tryz.func68 rfl hS rfl rfl rfl fun a s d => ?_
 have d := d.addE h4
 delta ref14_Sub at u
 refine sr (w_box (cs := (C56 r1 p2 k3)) s d rfl rfl rfl trivial ?_)
 intro b7 a w s d
 refine w_alloc (cs := Z0) s d Tryz.zeroValue56 rfl rfl trivial ?_
 intro b8 a w s d
 refine rz 1 [] s d rfl rfl fun a s => ?_
 refine wp_seq (sn 1 [1] s d rfl rfl fun a s => ?_)
 obtain ⟨rv10, h9, u⟩ := bind_t u
 refine st_callR s (ref14_Valid_ok h9 d.bdom (d.bE 0 rfl)) (do_call Tryz.call60 rfl) trivial rfl rfl ?_
 rintro v14 Sv11 w a h12 rfl s
 have d := d.callB h12
 refine rz 1 [] s d rfl rfl fun a s => ?_
 refine cd s u rfl (fun u => ?_) fun u => ?_
 ·refine sr (sv s (y_build (vs := []) Bld56 rfl rfl) rfl fun a s => ?_)
  refine w_store (m := 12) (cs' := Z0) s d 0 rfl rfl rfl Tryz.sizeOf56 rfl rfl rfl rfl trivial ?_
  intro a w s d
  refine rz 1 [] s d rfl rfl fun a s => ?_
  have u := oi u
  subst u
  have d := d.nilRow Int 3
  exact wp_ret (then_ret (ret2 s rfl (rv_cell d 1 rfl rfl Tryz.isAgg56 Tryz.sizeOf56 rfl) (rv_tmp rfl) (d.ret ⟨none, 0, [], rfl, (d.outs [0] (by decide) rfl), (d.envAt 0 rfl)⟩)))
 refine wp_skip (then_normal (wp_seq (sn 3 [] s d rfl rfl fun a s => ?_)))
 refine rO 4 15 [] s d rfl rfl rfl rfl rfl fun a s => ?_
 refine mv s rfl rfl fun a s => ?_
 refine rO 6 20 [1] s d rfl rfl rfl rfl rfl fun a s => ?_
 refine nl (cd s u rfl (fun u => ?_) fun u => ?_)
 ·refine sr (sv s (y_build (vs := []) Bld56 rfl rfl) rfl fun a s => ?_)
  refine w_store (m := 12) (cs' := Z0) s d 0 rfl rfl rfl Tryz.sizeOf56 rfl rfl rfl rfl trivial ?_
  intro a w s d
  refine rz 1 [] s d rfl rfl fun a s => ?_
  have u := oi u
  subst u
  have d := d.nilRow Int 3
  exact wp_ret (then_ret (ret2 s rfl (rv_cell d 1 rfl rfl Tryz.isAgg56 Tryz.sizeOf56 rfl) (rv_tmp rfl) (d.ret ⟨none, 0, [], rfl, (d.outs [0] (by decide) rfl), (d.envAt 0 rfl)⟩)))
 refine wp_skip (then_normal (sn 1 [1] s d rfl rfl fun a s => ?_))
 refine w_alloc (cs := Z0) s d Tryz.zeroValue56 rfl rfl trivial ?_
 intro b22 a w s d
 refine w_store (m := 12) (cs' := (C56 r1 p2 k3)) s d 0 rfl rfl rfl Tryz.sizeOf56 rfl rfl rfl rfl trivial ?_
 intro a w s d
 refine nl (sn 5 [2] s d rfl rfl fun a s => ?_)
 refine w_store (m := 1) (cs' := (C56 ⟨r1.Source, r1.Start, (w64 (r1.First + from5)), r1.Rate, r1.Error, r1.Run, r1.Seq, r1.Samples⟩ p2 k3)) s d 0 rfl rfl rfl Tryz.sizeOf3 rfl rfl rfl rfl trivial ?_
 intro a w s d
 refine nl (sn 4 [2] s d rfl rfl fun a s => ?_)
 obtain ⟨l28, h23, u⟩ := bind_t u
 obtain ⟨p26, k27, h24, h25⟩ := sub_env (d.envAt 0 rfl) h23
 have d := d.addE h24
 refine sv s (y_slc Tryz.runUnderlying22 Tryz.sizeOf3 rfl ⟨_, rfl⟩ ⟨_, rfl⟩ h25) rfl fun a s => ?_
 obtain ⟨l30, h29, u⟩ := bind_t u
 have d := d.nilRow Int 3
 refine w_appendE (α := Int) s d El22 0 rfl rfl rfl 0 rfl 1 rfl h29 rfl trivial ?_
 intro p31 k32 c33 a w s d
 refine sv s (y_fieldAddr (o' := 11) Tryz.runUnderlying56 rfl Tryz.sizeOf22 rfl rfl rfl) rfl fun a s => ?_
 refine w_store (m := 1) (cs' := (C56 ⟨r1.Source, r1.Start, (w64 (r1.First + from5)), r1.Rate, r1.Error, r1.Run, r1.Seq, l30⟩ p31 k32)) s d 1 rfl rfl rfl Tryz.sizeOf22 rfl rfl rfl rfl trivial ?_
 intro a w s d
 refine nl (sn 1 [1] s d rfl rfl fun a s => ?_)
 refine w_store (m := 12) (cs' := (C56 ⟨r1.Source, r1.Start, (w64 (r1.First + from5)), r1.Rate, r1.Error, r1.Run, r1.Seq, l30⟩ p31 k32)) s d 2 rfl rfl rfl Tryz.sizeOf56 rfl rfl rfl rfl trivial ?_
 intro a w s d
 refine rz 1 [] s d rfl rfl fun a s => ?_
 have u := oi u
 subst u
 exact wp_ret (ret2 s rfl (rv_cell d 2 rfl rfl Tryz.isAgg56 Tryz.sizeOf56 rfl) (rv_tmp rfl) (d.ret ⟨p31, k32, c33, rfl, (d.outs [0] (by decide) rfl), (d.envAt 0 rfl)⟩))
abbrev made_Dice_Grid_rd (w0 : World) (X : List Nat) (b2 : Nat) (r : (Record × (List Record) × Dice)) : (Nat → Prop) → World → Value → Prop := fun S w v => ∃ p0_11 k0_11 p1_0 k1_0 c1_0 pq0_0 kq0_0, v = .tuple #[V56 r.1 p0_11 k0_11, .slice p1_0 r.2.1.length k1_0] ∧ Outs X w0 S w [.row p1_0 r.2.1.length k1_0 c1_0 56 12, .box b2 (C87 r.2.2 pq0_0 kq0_0) 87] ∧ (SlA p0_11 r.1.Samples.length k0_11 r.1.Samples).p S w ∧ (RowA c1_0 r.2.1).p S w ∧ (SlA pq0_0 r.2.2.L.length kq0_0 r.2.2.L).p S w
theorem made_Dice_Grid_ok {w0 S0 b2 p3 k4 d1 n6 r} (u : made_Dice_Grid d1 n6 = some r) (hS : Dm S0 w0) (hin : Ins S0 w0 [.box b2 (C87 d1 p3 k4) 87]) (h5 : (SlA p3 d1.L.length k4 d1.L).p S0 w0) : Calls Tryz.prog 29 #[.pointer (some ⟨b2, 0, none⟩), .int .i64 n6] w0 (Ret (blks [.box b2 (C87 d1 p3 k4) 87]) w0 S0 (made_Dice_Grid_rd w0 (blks [.box b2 (C87 d1 p3 k4) 87]) b2 r)) := by
 refine enI 69 Tryz.func29 rfl hS hin rfl rfl rfl fun a s d => ?_
 have d := d.addE h5
 delta made_Dice_Grid at u
 refine sr (w_alloc (cs := Z0) s d Tryz.zeroValue56 rfl rfl trivial ?_)
 intro b7 a w s d
 refine rz 1 [] s d rfl rfl fun a s => ?_
 refine sn 1 [] s d rfl rfl fun a s => ?_
 obtain ⟨rv9, h8, u⟩ := bind_t u
 refine st_callR s (made_Dice_Source_ok h8 d.dom (d.ins [1] (by decide) rfl) (d.envAt 0 rfl)) (do_call Tryz.call46 rfl) trivial rfl rfl ?_
 rintro v16 Sv13 w a h14 ⟨p10, k11, rfl, h17, h12⟩ s
 have d := (d.callO [1] [0] (by decide) rfl h14 h17).addE (e := SlA p10 rv9.2.L.length k11 rv9.2.L) h12
 refine mv s rfl rfl fun a s => ?_
 refine w_litSlice (α := Int) (vs := [.int .i64 1, .int .i64 2, .int .i64 4]) (cs := [.int .i64 1, .int .i64 2, .int .i64 4]) (xs := ([1, 2, 4] : List Int)) s d El22 rfl rfl rfl rfl rfl rfl ⟨⟨_, rfl, rfl⟩, ⟨⟨_, rfl, rfl⟩, ⟨⟨_, rfl, rfl⟩, rfl⟩⟩⟩ rfl trivial rfl fun b19 a w s d => ?_
 obtain ⟨rv21, h20, u⟩ := bind_t u
 obtain ⟨Sv25, d⟩ := w_share (α := Int) d 0 rfl 0 rfl
 refine st_callR s (made_Dice_Pick_ok h20 d.dom (d.ins [0] (by decide) rfl) (d.envAt 2 rfl) (d.envAt 0 rfl)) (do_call Tryz.call24 rfl) trivial rfl rfl ?_
 rintro v29 Sv26 w a h27 ⟨p22, k23, rfl, h30, h24⟩ s
 have d := (d.callO [0] [1] (by decide) rfl h27 h30).addE (e := SlA p22 rv21.2.L.length k23 rv21.2.L) h24
 refine sv s (y_build (vs := [(0, .int .i64 rv21.1), (1, .int .i64 1)]) Bld54 rfl rfl) rfl fun a s => ?_
 refine sv s (y_build (vs := [(0, V52 rv9.1), (1, .int .i64 1000000000000), (3, .agg #[.int .i64 rv21.1, .int .i64 1])]) Bld56 rfl rfl) rfl fun a s => ?_
 refine w_alloc (cs := Z0) s d Tryz.zeroValue56 rfl rfl trivial ?_
 intro b31 a w s d
 refine w_store (m := 12) (cs' := [.string rv9.1.Network, .string rv9.1.Station, .string rv9.1.Location, .string rv9.1.Channel, .int .i64 1000000000000, .int .i64 0, .int .i64 rv21.1, .int .i64 1, .int .i64 0, .int .i64 0, .int .i64 0, .slice none ([] : List Int).length 0]) s d 0 rfl rfl rfl Tryz.sizeOf56 rfl rfl rfl rfl trivial ?_
 intro a w s d
 refine nl (wp_seq (sz 1 [] s d rfl rfl fun a s => ?_))
 obtain ⟨e126, h361, u⟩ := bind_t u
 refine wp_join (fun a w => ∃ p127 k128 c129 p130 k131 Sv132, Sl 69 [(0, .pointer (some ⟨b2, 0, none⟩)), (4, .pointer (some ⟨b7, 0, none⟩)), (6, .pointer (some ⟨b31, 0, none⟩))] a ∧ Wd ⟨w0, S0, blks [.box b2 (C87 d1 p3 k4) 87]⟩ Sv132 [.box b2 [.slice p127 e126.1.length k128, .int .i64 e126.2.1] 87, .box b7 Z0 56, .box b31 [.string rv9.1.Network, .string rv9.1.Station, .string rv9.1.Location, .string rv9.1.Channel, .int .i64 1000000000000, .int .i64 0, .int .i64 rv21.1, .int .i64 1, .int .i64 0, .int .i64 0, .int .i64 0, .slice p130 e126.2.2.length k131] 56, .row p130 e126.2.2.length k131 c129 3 1] [SlA p127 e126.1.length k128 e126.1, SlA none ([] : List Int).length 0 ([] : List Int), RowA c129 e126.2.2] w) ?_ ?_
 ·refine wp_block ?_
  have d := (d.nilRow Int 3).addE (e := SlA (α := Int) none 0 0 []) nil_sl
  refine wp_while (fun sv32 a w => ∃ p91 k92 c93 p94 k95 Sv96, Sl 69 [(0, .pointer (some ⟨b2, 0, none⟩)), (1, .int .i64 n6), (4, .pointer (some ⟨b7, 0, none⟩)), (6, .pointer (some ⟨b31, 0, none⟩)), (7, .int .i64 sv32.2.2.2)] a ∧ Wd ⟨w0, S0, blks [.box b2 (C87 d1 p3 k4) 87]⟩ Sv96 [.box b2 [.slice p91 sv32.1.length k92, .int .i64 sv32.2.1] 87, .box b7 Z0 56, .box b31 [.string rv9.1.Network, .string rv9.1.Station, .string rv9.1.Location, .string rv9.1.Channel, .int .i64 1000000000000, .int .i64 0, .int .i64 rv21.1, .int .i64 1, .int .i64 0, .int .i64 0, .int .i64 0, .slice p94 sv32.2.2.1.length k95] 56, .row p94 sv32.2.2.1.length k95 c93 3 1] [SlA p91 sv32.1.length k92 sv32.1, SlA none ([] : List Int).length 0 ([] : List Int), RowA c93 sv32.2.2.1] w) (rv21.2.L, rv21.2.At, ([] : List Int), 0) h361 ⟨p22, k23, [], none, 0, Sv26, (s.wk rfl), (d.ft [2, 3, 1, 0] [2, 0, 1] (by decide) rfl rfl)⟩ ?_
  clear h361
  repeat clear u
  rintro sv32 a w tv124 ⟨p91, k92, c93, p94, k95, Sv96, s, d⟩ u hd123
  delta made_Dice_Grid_l1 at u
  refine wp_seq (sn 5 [] s d rfl rfl fun a s => ?_)
  obtain ⟨rv134, h133, u⟩ := bind_t u
  refine st_callR s (made_Dice_Next_ok h133 d.dom (d.ins [0] (by decide) rfl) (d.envAt 0 rfl)) (do_call Tryz.call30 rfl) trivial rfl rfl ?_
  rintro v141 Sv138 w a h139 ⟨p135, k136, rfl, h142, h137⟩ s
  have d := (d.callO [0] [1, 2, 3] (by decide) rfl h139 h142).addE (e := SlA p135 rv134.2.L.length k136 rv134.2.L) h137
  refine rz 2 [] s d rfl rfl fun a s => ?_
  refine cd s u rfl (fun u => ?_) fun u => ?_
  ·refine wp_skip (then_normal (wp_seq (wp_block ?_)))
   obtain ⟨rv159, h158, u⟩ := bind_t u
   obtain ⟨l166, h165, u⟩ := bind_t u
   refine wp_only (fun a w => ∃ Sv170 c169 k161 k168 p160 p167, Sl 69 [(0, .pointer (some ⟨b2, 0, none⟩)), (1, .int .i64 n6), (4, .pointer (some ⟨b7, 0, none⟩)), (6, .pointer (some ⟨b31, 0, none⟩)), (7, .int .i64 sv32.2.2.2)] a ∧ Wd ⟨w0, S0, blks [.box b2 (C87 d1 p3 k4) 87]⟩ Sv170 [.box b2 (C87 rv159.2 p160 k161) 87, .box b7 Z0 56, .box b31 [.string rv9.1.Network, .string rv9.1.Station, .string rv9.1.Location, .string rv9.1.Channel, .int .i64 1000000000000, .int .i64 0, .int .i64 rv21.1, .int .i64 1, .int .i64 0, .int .i64 0, .int .i64 0, .slice p167 l166.length k168] 56, .row p167 l166.length k168 c169 3 1] [SlA p160 rv159.2.L.length k161 rv159.2.L, SlA none ([] : List Int).length 0 ([] : List Int), RowA c169 l166] w) ?_ ?_
   ·refine h_c [1] [] d rfl rfl (by kernel_rfl) rfl fun hC d => ?_
    refine gn 2 [0, 2] [] s hC rfl rfl rfl fun a s => ?_
    refine h_all (rs := [1, 3]) (by kernel_rfl) rfl ?_
    refine AllH.cons rfl ?_ ?_
    ·refine sv s (y_loadB1 (d.ownAt 2 rfl) rfl Tryz.isAgg22 rfl) rfl fun a s => ?_
     refine h_n [1] [] d rfl rfl fun hC => ?_
     refine ho 3 rfl ?_
     refine st_callR s (made_Dice_Next_ok h158 d.dom (d.ins [0] (by decide) rfl) (d.envAt 0 rfl)) (do_call Tryz.call30 rfl) trivial rfl rfl ?_
     rintro v174 Sv171 w a h172 ⟨p160, k161, rfl, h175, h162⟩ s
     have d := (d.callO [0] [1, 2, 3] (by decide) rfl h172 h175).addE (e := SlA p160 rv159.2.L.length k161 rv159.2.L) h162
     refine h_n [1] [] d rfl rfl fun hC => ?_
     refine gv s 4 rfl rfl hC (fun w hC => y_sub rfl rfl) fun a s => ?_
     refine ho 5 rfl ?_
     refine w_litSlice (α := Int) (vs := [.int .i64 (w64 (rv159.1 - 4))]) (cs := [.int .i64 (w64 (rv159.1 - 4))]) (xs := ([(w64 (rv159.1 - 4))] : List Int)) s d El22 rfl rfl rfl rfl rfl rfl ⟨⟨_, rfl, rfl⟩, rfl⟩ rfl trivial rfl fun b164 a w s d => ?_
     refine h_n [2] [] d rfl rfl fun hC => ?_
     refine h_d [2, 0] [] [0] [] d rfl rfl rfl rfl fun hC => ?_
     refine ho 6 rfl ?_
     refine w_appendR (α := Int) s d El22 4 rfl rfl rfl 5 rfl 0 rfl 0 rfl h165 rfl trivial ?_
     intro p167 k168 c169 a w s d
     refine h_n [2, 0] [] d rfl rfl fun hC => ?_
     refine gv s 7 rfl rfl hC (fun w hC => y_fieldAddr (o' := 11) Tryz.runUnderlying56 rfl Tryz.sizeOf22 rfl rfl rfl) fun a s => ?_
     refine ho 8 rfl ?_
     refine w_store (m := 1) (cs' := [.string rv9.1.Network, .string rv9.1.Station, .string rv9.1.Location, .string rv9.1.Channel, .int .i64 1000000000000, .int .i64 0, .int .i64 rv21.1, .int .i64 1, .int .i64 0, .int .i64 0, .int .i64 0, .slice p167 l166.length k168]) s d 3 rfl rfl rfl Tryz.sizeOf22 rfl rfl rfl rfl trivial ?_
     intro a w s d
     refine h_n [2, 0] [] d rfl rfl fun hC => ?_
     refine h_done (by kernel_rfl) ?_
     exact ⟨Sv171, c169, k161, k168, p160, p167, (s.wk rfl), (d.ft [1, 2, 3, 4] [2, 5, 0] (by decide) rfl rfl)⟩
    refine AllH.cons rfl ?_ ?_
    ·refine st_callR s (made_Dice_Next_ok h158 d.dom (d.ins [0] (by decide) rfl) (d.envAt 0 rfl)) (do_call Tryz.call30 rfl) trivial rfl rfl ?_
     rintro v179 Sv176 w a h177 ⟨p160, k161, rfl, h180, h162⟩ s
     have d := (d.callO [0] [1, 2, 3] (by decide) rfl h177 h180).addE (e := SlA p160 rv159.2.L.length k161 rv159.2.L) h162
     refine h_n [1] [] d rfl rfl fun hC => ?_
     refine gv s 4 rfl rfl hC (fun w hC => y_sub rfl rfl) fun a s => ?_
     refine h_all (rs := [1, 5]) (by kernel_rfl) rfl ?_
     refine AllH.cons rfl ?_ ?_
     ·refine sv s (y_loadB1 (d.ownAt 2 rfl) rfl Tryz.isAgg22 rfl) rfl fun a s => ?_
      refine h_n [1] [] d rfl rfl fun hC => ?_
      refine ho 5 rfl ?_
      refine w_litSlice (α := Int) (vs := [.int .i64 (w64 (rv159.1 - 4))]) (cs := [.int .i64 (w64 (rv159.1 - 4))]) (xs := ([(w64 (rv159.1 - 4))] : List Int)) s d El22 rfl rfl rfl rfl rfl rfl ⟨⟨_, rfl, rfl⟩, rfl⟩ rfl trivial rfl fun b164 a w s d => ?_
      refine h_n [2] [] d rfl rfl fun hC => ?_
      refine h_d [2, 0] [] [0] [] d rfl rfl rfl rfl fun hC => ?_
      refine ho 6 rfl ?_
      refine w_appendR (α := Int) s d El22 4 rfl rfl rfl 5 rfl 0 rfl 0 rfl h165 rfl trivial ?_
      intro p167 k168 c169 a w s d
      refine h_n [2, 0] [] d rfl rfl fun hC => ?_
      refine gv s 7 rfl rfl hC (fun w hC => y_fieldAddr (o' := 11) Tryz.runUnderlying56 rfl Tryz.sizeOf22 rfl rfl rfl) fun a s => ?_
      refine ho 8 rfl ?_
      refine w_store (m := 1) (cs' := [.string rv9.1.Network, .string rv9.1.Station, .string rv9.1.Location, .string rv9.1.Channel, .int .i64 1000000000000, .int .i64 0, .int .i64 rv21.1, .int .i64 1, .int .i64 0, .int .i64 0, .int .i64 0, .slice p167 l166.length k168]) s d 3 rfl rfl rfl Tryz.sizeOf22 rfl rfl rfl rfl trivial ?_
      intro a w s d
      refine h_n [2, 0] [] d rfl rfl fun hC => ?_
      refine h_done (by kernel_rfl) ?_
      exact ⟨Sv176, c169, k161, k168, p160, p167, (s.wk rfl), (d.ft [1, 2, 3, 4] [2, 5, 0] (by decide) rfl rfl)⟩
     refine AllH.cons rfl ?_ ?_
     ·refine w_litSlice (α := Int) (vs := [.int .i64 (w64 (rv159.1 - 4))]) (cs := [.int .i64 (w64 (rv159.1 - 4))]) (xs := ([(w64 (rv159.1 - 4))] : List Int)) s d El22 rfl rfl rfl rfl rfl rfl ⟨⟨_, rfl, rfl⟩, rfl⟩ rfl trivial rfl fun b164 a w s d => ?_
      refine h_n [2] [] d rfl rfl fun hC => ?_
      refine h_d [2, 0] [] [0] [] d rfl rfl rfl rfl fun hC => ?_
      refine ho 1 rfl ?_
      refine sv s (y_loadB1 (d.ownAt 3 rfl) rfl Tryz.isAgg22 rfl) rfl fun a s => ?_
      refine h_n [2, 0] [] d rfl rfl fun hC => ?_
      refine ho 6 rfl ?_
      refine w_appendR (α := Int) s d El22 4 rfl rfl rfl 5 rfl 0 rfl 0 rfl h165 rfl trivial ?_
      intro p167 k168 c169 a w s d
      refine h_n [2, 0] [] d rfl rfl fun hC => ?_
      refine gv s 7 rfl rfl hC (fun w hC => y_fieldAddr (o' := 11) Tryz.runUnderlying56 rfl Tryz.sizeOf22 rfl rfl rfl) fun a s => ?_
      refine ho 8 rfl ?_
      refine w_store (m := 1) (cs' := [.string rv9.1.Network, .string rv9.1.Station, .string rv9.1.Location, .string rv9.1.Channel, .int .i64 1000000000000, .int .i64 0, .int .i64 rv21.1, .int .i64 1, .int .i64 0, .int .i64 0, .int .i64 0, .slice p167 l166.length k168]) s d 3 rfl rfl rfl Tryz.sizeOf22 rfl rfl rfl rfl trivial ?_
      intro a w s d
      refine h_n [2, 0] [] d rfl rfl fun hC => ?_
      refine h_done (by kernel_rfl) ?_
      exact ⟨Sv176, c169, k161, k168, p160, p167, (s.wk rfl), (d.ft [1, 2, 3, 4] [2, 5, 0] (by decide) rfl rfl)⟩
     exact AllH.nil
    exact AllH.nil
   rintro a w ⟨Sv170, c169, k161, k168, p160, p167, s, d⟩
   refine blk_normal (then_normal (wp_region_lit (rn 2 [] s d rfl rfl fun a s => ?_)))
   obtain ⟨i182, h181, u⟩ := bind_t u
   refine sv s (y_assignI rfl h181) rfl fun a s => ?_
   exact nl ⟨_, (Option.some.inj u).symm, p160, k161, c169, p167, k168, Sv170, (s.wk rfl), (d.ft [0, 1, 2, 3] [0, 1, 2] (by decide) rfl rfl)⟩
  refine wp_exit (then_exit (then_exit (blk_exit ?_)))
  have u := oi u
  subst u
  have h183 := hd123 _ rfl
  subst h183
  exact then_normal ⟨p135, k136, c93, p94, k95, Sv138, (s.wk rfl), (d.ft [0, 1, 2, 3] [0, 2, 3] (by decide) rfl rfl)⟩
 rintro a w ⟨p127, k128, c129, p130, k131, Sv132, s, d⟩
 refine then_normal (sz 1 [] s d rfl rfl fun a s => ?_)
 refine wp_seq (sz 1 [] s d rfl rfl fun a s => ?_)
 obtain ⟨e289, h360, u⟩ := bind_t u
 refine wp_join (fun a w => ∃ p290 k291 c292 p293 k294 Sv295, Sl 69 [(4, .pointer (some ⟨b7, 0, none⟩)), (6, .pointer (some ⟨b31, 0, none⟩)), (8, .slice p293 e289.2.2.length k294)] a ∧ Wd ⟨w0, S0, blks [.box b2 (C87 d1 p3 k4) 87]⟩ Sv295 [.box b2 [.slice p290 e289.1.length k291, .int .i64 e289.2.1] 87, .box b7 Z0 56, .box b31 [.string rv9.1.Network, .string rv9.1.Station, .string rv9.1.Location, .string rv9.1.Channel, .int .i64 1000000000000, .int .i64 0, .int .i64 rv21.1, .int .i64 1, .int .i64 0, .int .i64 0, .int .i64 0, .slice p130 e126.2.2.length k131] 56, .row p293 e289.2.2.length k294 c292 56 12] [SlA p290 e289.1.length k291 e289.1, SlA none ([] : List Int).length 0 ([] : List Int), SlA p130 e126.2.2.length k131 e126.2.2, RowA c292 e289.2.2] w) ?_ ?_
 ·refine wp_block ?_
  obtain ⟨Sv287, d⟩ := w_share (α := Int) d 3 rfl 2 rfl
  have d := d.nilRow Record 56
  refine wp_while (fun sv184 a w => ∃ p250 k251 c252 p253 k254 Sv255, Sl 69 [(0, .pointer (some ⟨b2, 0, none⟩)), (4, .pointer (some ⟨b7, 0, none⟩)), (6, .pointer (some ⟨b31, 0, none⟩)), (8, .slice p253 sv184.2.2.1.length k254), (9, .int .i64 sv184.2.2.2)] a ∧ Wd ⟨w0, S0, blks [.box b2 (C87 d1 p3 k4) 87]⟩ Sv255 [.box b2 [.slice p250 sv184.1.length k251, .int .i64 sv184.2.1] 87, .box b7 Z0 56, .box b31 [.string rv9.1.Network, .string rv9.1.Station, .string rv9.1.Location, .string rv9.1.Channel, .int .i64 1000000000000, .int .i64 0, .int .i64 rv21.1, .int .i64 1, .int .i64 0, .int .i64 0, .int .i64 0, .slice p130 e126.2.2.length k131] 56, .row p253 sv184.2.2.1.length k254 c252 56 12] [SlA p250 sv184.1.length k251 sv184.1, SlA none ([] : List Int).length 0 ([] : List Int), SlA p130 e126.2.2.length k131 e126.2.2, RowA c252 sv184.2.2.1] w) (e126.1, e126.2.1, ([] : List Record), 0) h360 ⟨p127, k128, [], none, 0, Sv287, (s.wk rfl), (d.ft [1, 2, 3, 0] [2, 3, 1, 0] (by decide) rfl rfl)⟩ ?_
  clear h360
  repeat clear u
  rintro sv184 a w tv286 ⟨p250, k251, c252, p253, k254, Sv255, s, d⟩ u hd285
  delta made_Dice_Grid_l2 at u
  refine wp_seq (sz 5 [2] s d rfl rfl fun a s => ?_)
  refine cd s u rfl (fun u => ?_) fun u => ?_
  ·refine wp_skip (then_normal (wp_block (wp_seq ?_)))
   obtain ⟨rv327, h326, u⟩ := bind_t u
   obtain ⟨to332, h331, u⟩ := bind_t u
   refine wp_only (fun a w => ∃ Sv333 k329 p328, Sl 69 [(0, .pointer (some ⟨b2, 0, none⟩)), (4, .pointer (some ⟨b7, 0, none⟩)), (6, .pointer (some ⟨b31, 0, none⟩)), (8, .slice p253 sv184.2.2.1.length k254), (9, .int .i64 sv184.2.2.2), (10, .int .i64 to332)] a ∧ Wd ⟨w0, S0, blks [.box b2 (C87 d1 p3 k4) 87]⟩ Sv333 [.box b2 (C87 rv327.2 p328 k329) 87, .box b7 Z0 56, .box b31 [.string rv9.1.Network, .string rv9.1.Station, .string rv9.1.Location, .string rv9.1.Channel, .int .i64 1000000000000, .int .i64 0, .int .i64 rv21.1, .int .i64 1, .int .i64 0, .int .i64 0, .int .i64 0, .slice p130 e126.2.2.length k131] 56, .row p253 sv184.2.2.1.length k254 c252 56 12] [SlA p328 rv327.2.L.length k329 rv327.2.L, SlA none ([] : List Int).length 0 ([] : List Int), SlA p130 e126.2.2.length k131 e126.2.2, RowA c252 sv184.2.2.1] w) ?_ ?_
   ·refine h_c [1, 2, 3] [] d rfl rfl (by kernel_rfl) rfl fun hC d => ?_
    refine gn 6 [0, 1, 2, 5, 6, 7] [1] s hC rfl rfl rfl fun a s => ?_
    refine ho 3 rfl ?_
    refine st_callR s (made_Dice_Next_ok h326 d.dom (d.ins [0] (by decide) rfl) (d.envAt 0 rfl)) (do_call Tryz.call30 rfl) trivial rfl rfl ?_
    rintro v337 Sv334 w a h335 ⟨p328, k329, rfl, h338, h330⟩ s
    have d := (d.callO [0] [1, 2, 3] (by decide) rfl h335 h338).addE (e := SlA p328 rv327.2.L.length k329 rv327.2.L) h330
    refine h_n [1, 2, 3] [] d rfl rfl fun hC => ?_
    refine gn 2 [4, 8] [] s hC rfl rfl rfl fun a s => ?_
    refine gv s 9 rfl rfl hC (fun w hC => y_assignI rfl h331) fun a s => ?_
    refine h_done (by kernel_rfl) ?_
    exact ⟨Sv334, k329, p328, (s.wk rfl), (d.ft [0, 1, 2, 3] [0, 2, 3, 4] (by decide) rfl rfl)⟩
   rintro a w ⟨Sv333, k329, p328, s, d⟩
   refine then_normal (sn 3 [2] s d rfl rfl fun a s => ?_)
   obtain ⟨rv340, h339, u⟩ := bind_t u
   refine st_callR s (ref14_Sub_ok h339 d.dom (d.envAt 2 rfl)) (do_call Tryz.call68 rfl) trivial rfl rfl ?_
   rintro v348 Sv345 w a h346 ⟨p341, k342, c344, rfl, h349, h343⟩ s
   have d := (d.callN h346 h349).addE (e := RowA c344 rv340.1.Samples) h343
   refine rn 3 [] s d rfl rfl fun a s => ?_
   refine w_alloc (cs := Z0) s d Tryz.zeroValue56 rfl rfl trivial ?_
   intro b350 a w s d
   refine w_store (m := 12) (cs' := (C56 rv340.1 p341 k342)) s d 0 rfl rfl rfl Tryz.sizeOf56 rfl rfl rfl rfl trivial ?_
   intro a w s d
   refine rz 1 [] s d rfl rfl fun a s => ?_
   refine sn 3 [] s d rfl rfl fun a s => ?_
   refine w_store (m := 1) (cs' := (C56 ⟨rv340.1.Source, rv340.1.Start, rv340.1.First, rv340.1.Rate, rv340.1.Error, rv340.1.Run, (sv184.2.2.1.length : Int), rv340.1.Samples⟩ p341 k342)) s d 0 rfl rfl rfl Tryz.sizeOf3 rfl rfl rfl rfl trivial ?_
   intro a w s d
   refine nl (sn 2 [0] s d rfl rfl fun a s => ?_)
   obtain ⟨Sv353, d⟩ := w_share (α := Int) d 1 rfl 0 rfl
   refine w_litSlice (α := Record) (vs := [V56 ⟨rv340.1.Source, rv340.1.Start, rv340.1.First, rv340.1.Rate, rv340.1.Error, rv340.1.Run, (sv184.2.2.1.length : Int), rv340.1.Samples⟩ p341 k342]) (cs := (C56 ⟨rv340.1.Source, rv340.1.Start, rv340.1.First, rv340.1.Rate, rv340.1.Error, rv340.1.Run, (sv184.2.2.1.length : Int), rv340.1.Samples⟩ p341 k342)) (xs := ([(⟨rv340.1.Source, rv340.1.Start, rv340.1.First, rv340.1.Rate, rv340.1.Error, rv340.1.Run, (sv184.2.2.1.length : Int), rv340.1.Samples⟩ : Record)] : List Record)) s d El28 rfl rfl rfl rfl rfl rfl ⟨⟨_, _, _, _, _, _, _, _, _, _, _, _, rfl, rfl, rfl, rfl, rfl, rfl, rfl, rfl, rfl, rfl, rfl, rfl, ⟨_, _, _, rfl, d.envAt 0 rfl⟩⟩, rfl⟩ rfl trivial rfl fun b352 a w s d => ?_
   obtain ⟨l355, h354, u⟩ := bind_t u
   refine w_appendR (α := Record) s d El28 5 rfl rfl rfl 6 rfl 0 rfl 0 rfl h354 rfl trivial ?_
   intro p356 k357 c358 a w s d
   refine rz 1 [] s d rfl rfl fun a s => ?_
   refine wp_region_lit (rn 2 [] s d rfl rfl fun a s => ?_)
   refine wpList_nil ?_
   exact blk_normal (then_normal ⟨_, (Option.some.inj u).symm, p328, k329, c358, p356, k357, Sv353, (s.wk rfl), (d.ft [2, 3, 4, 5] [4, 5, 6, 0] (by decide) rfl rfl)⟩)
  refine wp_exit (then_exit (then_exit (blk_exit ?_)))
  have u := oi u
  subst u
  have h359 := hd285 _ rfl
  subst h359
  exact then_normal ⟨p250, k251, c252, p253, k254, Sv255, (s.wk rfl), (d.ft [0, 1, 2, 3] [0, 1, 2, 3] (by decide) rfl rfl)⟩
 rintro a w ⟨p290, k291, c292, p293, k294, Sv295, s, d⟩
 refine then_normal (sn 2 [2] s d rfl rfl fun a s => ?_)
 refine w_store (m := 12) (cs' := [.string rv9.1.Network, .string rv9.1.Station, .string rv9.1.Location, .string rv9.1.Channel, .int .i64 1000000000000, .int .i64 0, .int .i64 rv21.1, .int .i64 1, .int .i64 0, .int .i64 0, .int .i64 0, .slice p130 e126.2.2.length k131]) s d 1 rfl rfl rfl Tryz.sizeOf56 rfl rfl rfl rfl trivial ?_
 intro a w s d
 refine rz 1 [] s d rfl rfl fun a s => ?_
 have u := oi u
 subst u
 exact wp_ret (ret2 s rfl (rv_cell d 1 rfl rfl Tryz.isAgg56 Tryz.sizeOf56 rfl) (rv_tmp rfl) (d.ret ⟨p130, k131, p293, k294, c292, p290, k291, rfl, (d.outs [3, 0] (by decide) rfl), (d.envAt 2 rfl), (d.envAt 3 rfl), (d.envAt 0 rfl)⟩))
abbrev ref14_Span_rd (w0 : World) (X : List Nat) (r : (Span × Int)) : Rd := fun S w v => v = .tuple #[V71 r.1, .int .i64 r.2]
theorem ref14_Span_ok {w0 S0 p2 k3 r1 r} (u : ref14_Span r1 = some r) (hS : Dm S0 w0) (h4 : (SlA p2 r1.Samples.length k3 r1.Samples).p S0 w0) : Calls Tryz.prog 31 #[V56 r1 p2 k3] w0 (Ret ([]) w0 S0 (ref14_Span_rd w0 ([]) r)) := by
 refine en 16 Tryz.func31 rfl hS rfl rfl rfl fun a s d => ?_
 have d := d.addE h4
 delta ref14_Span at u
 refine sr (w_box (cs := (C56 r1 p2 k3)) s d rfl rfl rfl trivial ?_)
 intro b5 a w s d
 refine w_alloc (cs := [.int .i64 0, .int .i64 0]) s d Tryz.zeroValue71 rfl rfl trivial ?_
 intro b6 a w s d
 refine rz 1 [] s d rfl rfl fun a s => ?_
 refine wp_seq (sn 1 [1] s d rfl rfl fun a s => ?_)
 obtain ⟨rv8, h7, u⟩ := bind_t u
 refine st_callR s (ref14_Valid_ok h7 d.bdom (d.bE 0 rfl)) (do_call Tryz.call60 rfl) trivial rfl rfl ?_
 rintro v12 Sv9 w a h10 rfl s
 have d := d.callB h10
 refine rz 1 [] s d rfl rfl fun a s => ?_
 refine cd s u rfl (fun u => ?_) fun u => ?_
 ·refine sr (sv s (y_build (vs := []) Bld71 rfl rfl) rfl fun a s => ?_)
  refine w_store (m := 2) (cs' := [.int .i64 0, .int .i64 0]) s d 0 rfl rfl rfl Tryz.sizeOf71 rfl rfl rfl rfl trivial ?_
  intro a w s d
  refine rz 1 [] s d rfl rfl fun a s => ?_
  have u := oi u
  subst u
  exact wp_ret (then_ret (ret2 s rfl (rv_cell d 0 rfl rfl Tryz.isAgg71 Tryz.sizeOf71 rfl) (rv_tmp rfl) (d.ret rfl)))
 refine wp_skip (then_normal (wp_seq ?_))
 obtain ⟨rv17, h16, u⟩ := bind_t u
 obtain ⟨rv19, h18, u⟩ := bind_t u
 refine wp_only (fun a w => ∃ Sv20, Sl 16 [(2, .pointer (some ⟨b6, 0, none⟩)), (3, .int .i64 0)] a ∧ Wd ⟨w0, S0, []⟩ Sv20 [.box b6 [.int .i64 rv17, .int .i64 rv19] 71] [] w) ?_ ?_
 ·refine h_c [1] [] d rfl rfl (by kernel_rfl) rfl fun hC d => ?_
  refine gn 5 [0, 2, 3, 4, 5] [0, 0, 0] s hC rfl rfl rfl fun a s => ?_
  refine ho 1 rfl ?_
  refine st_callR s (ref14_Time_ok h16 d.bdom (d.bE 0 rfl)) (do_call Tryz.call62 rfl) trivial rfl rfl ?_
  rintro v24 Sv21 w a h22 rfl s
  have d := d.callB h22
  refine h_n [1] [] d rfl rfl fun hC => ?_
  refine ho 6 rfl ?_
  refine st_callR s (ref14_Time_ok h18 d.bdom (d.bE 0 rfl)) (do_call Tryz.call62 rfl) trivial rfl rfl ?_
  rintro v29 Sv26 w a h27 rfl s
  have d := d.callB h27
  refine h_n [1] [] d rfl rfl fun hC => ?_
  refine gv s 7 rfl rfl hC (fun w hC => y_build (vs := [(0, .int .i64 rv17), (1, .int .i64 rv19)]) Bld71 rfl rfl) fun a s => ?_
  refine ho 8 rfl ?_
  refine w_store (m := 2) (cs' := [.int .i64 rv17, .int .i64 rv19]) s d 0 rfl rfl rfl Tryz.sizeOf71 rfl rfl rfl rfl trivial ?_
  intro a w s d
  refine h_n [1] [] d rfl rfl fun hC => ?_
  refine gv s 9 rfl rfl hC (fun w hC => y_assign rfl) fun a s => ?_
  refine h_done (by kernel_rfl) ?_
  exact ⟨S0, (s.wk rfl), (d.ft [0] [] (by decide) rfl rfl)⟩
 rintro a w ⟨Sv20, s, d⟩
 refine then_normal ?_
 have u := oi u
 subst u
 exact wp_ret (ret2 s rfl (rv_cell d 0 rfl rfl Tryz.isAgg71 Tryz.sizeOf71 rfl) (rv_tmp rfl) (d.ret rfl))
theorem record_Better_ok {w0 S0 p2 k3 p6 k7 a1 b5 r} (u : record_Better a1 b5 = some r) (hS : Dm S0 w0) (h4 : (SlA p2 a1.Samples.length k3 a1.Samples).p S0 w0) (h8 : (SlA p6 b5.Samples.length k7 b5.Samples).p S0 w0) : Calls Tryz.prog 139 #[V56 a1 p2 k3, V56 b5 p6 k7] w0 (Ret ([]) w0 S0 (made_Light_rd w0 ([]) r)) := by
 refine en 26 Tryz.func139 rfl hS rfl rfl rfl fun a s d => ?_
 have d := (d.addE h4).addE h8
 delta record_Better at u
 refine sr (w_box (cs := (C56 a1 p2 k3)) s d rfl rfl rfl trivial ?_)
 intro b9 a w s d
 refine w_box (cs := (C56 b5 p6 k7)) s d rfl rfl rfl trivial ?_
 intro b10 a w s d
 refine rz 1 [] s d rfl rfl fun a s => ?_
 refine wp_seq ?_
 obtain ⟨rv12, h11, u⟩ := bind_t u
 obtain ⟨rv14, h13, u⟩ := bind_t u
 obtain ⟨rv16, h15, u⟩ := bind_t u
 obtain ⟨rv18, h17, u⟩ := bind_t u
 obtain ⟨rv22, h21, u⟩ := bind_t u
 refine wp_only (fun a w => ∃ Sv23, Sl 26 [(4, .bool (decide (rv22 < 0)))] a ∧ Wd ⟨w0, S0, []⟩ Sv23 [] [] w) ?_ ?_
 ·refine h_c [0, 1] [] d rfl rfl (by kernel_rfl) rfl fun hC d => ?_
  refine gn 14 [0, 1, 2, 3, 5, 6, 7, 8, 10, 11, 12, 13, 15, 16] [1, 0, 0, 1, 0, 1, 1, 0] s hC rfl rfl rfl fun a s => ?_
  refine ho 4 rfl ?_
  refine st_callR s (cmp_Compare_int_ok h11 d.bdom) (do_call Tryz.call123 rfl) trivial rfl rfl ?_
  rintro v27 Sv24 w a h25 rfl s
  have d := d.callB h25
  refine h_n [0, 1] [] d rfl rfl fun hC => ?_
  refine ho 9 rfl ?_
  refine st_callR s (cmp_Compare_int_ok h13 d.bdom) (do_call Tryz.call123 rfl) trivial rfl rfl ?_
  rintro v32 Sv29 w a h30 rfl s
  have d := d.callB h30
  refine h_n [0, 1] [] d rfl rfl fun hC => ?_
  refine ho 14 rfl ?_
  refine st_callR s (cmp_Compare_int_ok h15 d.bdom) (do_call Tryz.call123 rfl) trivial rfl rfl ?_
  rintro v37 Sv34 w a h35 rfl s
  have d := d.callB h35
  refine h_n [0, 1] [] d rfl rfl fun hC => ?_
  refine ho 17 rfl ?_
  refine st_callR s (record_Compare_ok h17 d.bdom (d.bE 1 rfl) (d.bE 0 rfl)) (do_call Tryz.call126 rfl) trivial rfl rfl ?_
  rintro v42 Sv39 w a h40 rfl s
  have d := d.callB h40
  refine h_n [0, 1] [] d rfl rfl fun hC => ?_
  refine ho 18 rfl ?_
  refine w_litSlice (α := Int) (vs := [.int .i64 rv12, .int .i64 rv14, .int .i64 rv16, .int .i64 rv18]) (cs := [.int .i64 rv12, .int .i64 rv14, .int .i64 rv16, .int .i64 rv18]) (xs := ([rv12, rv14, rv16, rv18] : List Int)) s d El22 rfl rfl rfl rfl rfl rfl ⟨⟨_, rfl, rfl⟩, ⟨⟨_, rfl, rfl⟩, ⟨⟨_, rfl, rfl⟩, ⟨⟨_, rfl, rfl⟩, rfl⟩⟩⟩⟩ rfl trivial rfl fun b20 a w s d => ?_
  refine h_n [1, 2] [] d rfl rfl fun hC => ?_
  refine h_d [1, 2, 0] [] [0, 1] [] d rfl rfl rfl rfl fun hC => ?_
  refine ho 19 rfl ?_
  refine st_callR s (cmp_Or_int_ok h21 d.bdom (d.bRow 0 rfl 0 rfl)) (do_call Tryz.call153 rfl) trivial rfl rfl ?_
  rintro v47 Sv44 w a h45 rfl s
  have d := d.callB h45
  refine h_n [1, 2, 0] [] d rfl rfl fun hC => ?_
  refine gn 2 [20, 21] [] s hC rfl rfl rfl fun a s => ?_
  refine h_done (by kernel_rfl) ?_
  exact ⟨S0, (s.wk rfl), (d.ft [] [] (by decide) rfl rfl)⟩
 rintro a w ⟨Sv23, s, d⟩
 refine then_normal ?_
 have u := oi u
 subst u
 exact wp_ret (ret1 s rfl (rv_tmp rfl) (d.ret rfl))
theorem compose_times_ok {w0 S0 p2 k3 r1 r} (u : compose_times r1 = some r) (hS : Dm S0 w0) (h4 : (SlA p2 r1.Samples.length k3 r1.Samples).p S0 w0) : Calls Tryz.prog 174 #[V56 r1 p2 k3] w0 (Ret ([]) w0 S0 (slices_Clone_Lint_int_rd w0 ([]) r)) := by
 refine en 20 Tryz.func174 rfl hS rfl rfl rfl fun a s d => ?_
 have d := d.addE h4
 delta compose_times at u
 refine sr (w_box (cs := (C56 r1 p2 k3)) s d rfl rfl rfl trivial ?_)
 intro b5 a w s d
 refine rz 1 [] s d rfl rfl fun a s => ?_
 refine sz 1 [] s d rfl rfl fun a s => ?_
 refine wp_seq (sz 5 [0] s d rfl rfl fun a s => ?_)
 obtain ⟨e63, h99, u⟩ := bind_t u
 refine wp_join (fun a w => ∃ c64 p65 k66 Sv67, Sl 20 [(3, .slice p65 e63.length k66)] a ∧ Wd ⟨w0, S0, []⟩ Sv67 [.row p65 e63.length k66 c64 3 1] [RowA c64 e63] w) ?_ ?_
 ·refine wp_block ?_
  have d := d.nilRow Int 3
  refine wp_while (fun sv6 a w => ∃ c41 p42 k43 Sv44, Sl 20 [(1, .pointer (some ⟨b5, 0, none⟩)), (3, .slice p42 sv6.1.length k43), (8, .int .i64 (w64 ((r1.Samples.length : Int) + 1))), (9, .int .i64 sv6.2)] a ∧ Wd ⟨w0, S0, []⟩ Sv44 [.box b5 (C56 r1 p2 k3) 56, .row p42 sv6.1.length k43 c41 3 1] [SlA p2 r1.Samples.length k3 r1.Samples, RowA c41 sv6.1] w) (([] : List Int), 0) h99 ⟨[], none, 0, S0, (s.wk rfl), (d.ft [1, 0] [1, 0] (by decide) rfl rfl)⟩ ?_
  clear h99
  repeat clear u
  rintro sv6 a w tv61 ⟨c41, p42, k43, Sv44, s, d⟩ u hd60
  delta compose_times_l1 at u
  refine sz 1 [] s d rfl rfl fun a s => ?_
  refine wp_seq (cd s u rfl (fun u => ?_) fun u => ?_)
  ·refine wp_skip (then_normal (wp_seq (wp_block (sz 2 [] s d rfl rfl fun a s => ?_))))
   refine wp_region_lit (rn 3 [0] s d rfl rfl fun a s => ?_)
   obtain ⟨rv85, h84, u⟩ := bind_t u
   refine st_callR s (compose_at_ok h84 d.bdom (d.bE 0 rfl)) (do_call Tryz.call116 rfl) trivial rfl rfl ?_
   rintro v89 Sv86 w a h87 rfl s
   have d := d.callB h87
   refine w_litSlice (α := Int) (vs := [.int .i64 rv85]) (cs := [.int .i64 rv85]) (xs := ([rv85] : List Int)) s d El22 rfl rfl rfl rfl rfl rfl ⟨⟨_, rfl, rfl⟩, rfl⟩ rfl trivial rfl fun b92 a w s d => ?_
   obtain ⟨l94, h93, u⟩ := bind_t u
   refine w_appendR (α := Int) s d El22 2 rfl rfl rfl 2 rfl 0 rfl 0 rfl h93 rfl trivial ?_
   intro p95 k96 c97 a w s d
   refine av s rfl rfl fun a s => ?_
   refine wpList_nil ?_
   refine blk_normal (then_normal (wp_region_lit (rz 2 [] s d rfl rfl fun a s => ?_)))
   exact ⟨_, (Option.some.inj u).symm, c97, p95, k96, Sv44, (s.wk rfl), (d.ft [1, 2] [2, 0] (by decide) rfl rfl)⟩
  refine wp_exit (then_exit (then_exit (blk_exit ?_)))
  have u := oi u
  subst u
  have h98 := hd60 _ rfl
  subst h98
  exact then_normal ⟨c41, p42, k43, Sv44, (s.wk rfl), (d.ft [1] [1] (by decide) rfl rfl)⟩
 rintro a w ⟨c64, p65, k66, Sv67, s, d⟩
 refine then_normal (sz 2 [] s d rfl rfl fun a s => ?_)
 have u := oi u
 subst u
 exact wp_ret (ret1 s rfl (rv_tmp rfl) (d.ret ⟨p65, k66, c64, rfl, (d.outs [0] (by decide) rfl), (d.envAt 0 rfl)⟩))
abbrev compose_kept_rd (w0 : World) (X : List Nat) (r : (List Bool)) : Rd := fun S w v => ∃ p0_0 k0_0 c0_0, v = .slice p0_0 r.length k0_0 ∧ Outs X w0 S w [.row p0_0 r.length k0_0 c0_0 4 1] ∧ (RowA c0_0 r).p S w
theorem compose_kept_ok {w0 S0 p2 k3 p6 k7 r1 better5 r} (u : compose_kept r1 better5 = some r) (hS : Dm S0 w0) (h4 : (SlA p2 r1.Samples.length k3 r1.Samples).p S0 w0) (h8 : (SlA p6 better5.length k7 better5).p S0 w0) : Calls Tryz.prog 141 #[V56 r1 p2 k3, .slice p6 better5.length k7] w0 (Ret ([]) w0 S0 (compose_kept_rd w0 ([]) r)) := by
 refine en 60 Tryz.func141 rfl hS rfl rfl rfl fun a s d => ?_
 have d := (d.addE h4).addE h8
 delta compose_kept at u
 refine sr (w_box (cs := (C56 r1 p2 k3)) s d rfl rfl rfl trivial ?_)
 intro b9 a w s d
 refine rz 1 [] s d rfl rfl fun a s => ?_
 refine sn 1 [0] s d rfl rfl fun a s => ?_
 obtain ⟨rv11, h10, u⟩ := bind_t u
 refine st_callR s (compose_times_ok h10 d.dom (d.envAt 1 rfl)) (do_call Tryz.call174 rfl) trivial rfl rfl ?_
 rintro v19 Sv16 w a h17 ⟨p12, k13, c15, rfl, h20, h14⟩ s
 have d := (d.callN h17 h20).addE (e := RowA c15 rv11) h14
 refine rz 1 [] s d rfl rfl fun a s => ?_
 refine sn 3 [1] s d rfl rfl fun a s => ?_
 obtain ⟨l22, h21, u⟩ := bind_t u
 refine w_make (α := Bool) s d El153 ⟨_, rfl, rfl⟩ rfl rfl h21 rfl trivial ?_
 intro p23 c24 a w s d
 refine rz 1 [] s d rfl rfl fun a s => ?_
 refine sz 1 [] s d rfl rfl fun a s => ?_
 refine wp_seq (sz 3 [] s d rfl rfl fun a s => ?_)
 obtain ⟨e478, h872, u⟩ := bind_t u
 refine wp_join (fun a w => ∃ c479 p480 k481 Sv482, Sl 60 [(6, .slice p480 e478.length k481)] a ∧ Wd ⟨w0, S0, []⟩ Sv482 [.row p480 e478.length k481 c479 4 1] [RowA c479 e478] w) ?_ ?_
 ·refine wp_block (wp_while (fun sv25 a w => ∃ c324 p325 k326 Sv327, Sl 60 [(1, .slice p6 better5.length k7), (5, .slice p12 rv11.length k13), (6, .slice p325 sv25.1.length k326), (7, .int .i64 sv25.2.1), (16, .int .i64 (l22.length : Int)), (17, .int .i64 sv25.2.2)] a ∧ Wd ⟨w0, S0, []⟩ Sv327 [.row p12 rv11.length k13 c15 3 1, .row p325 sv25.1.length k326 c324 4 1] [SlA p6 better5.length k7 better5, RowA c15 rv11, RowA c324 sv25.1] w) (l22, 0, 0) h872 ⟨c24, p23, l22.length, Sv16, (s.wk rfl), (d.ft [1, 0] [2, 1, 0] (by decide) rfl rfl)⟩ ?_)
  clear h872
  repeat clear u
  rintro sv25 a w tv476 ⟨c324, p325, k326, Sv327, s, d⟩ u hd475
  delta compose_kept_l3 at u
  refine sz 1 [] s d rfl rfl fun a s => ?_
  refine wp_seq (cd s u rfl (fun u => ?_) fun u => ?_)
  ·refine wp_skip (then_normal (wp_seq (wp_block (sz 2 [] s d rfl rfl fun a s => ?_))))
   refine wp_seq ?_
   obtain ⟨e730, h870, u⟩ := bind_t u
   refine wp_join (fun a w => ∃ Sv731, Sl 60 [(1, .slice p6 better5.length k7), (5, .slice p12 rv11.length k13), (6, .slice p325 sv25.1.length k326), (7, .int .i64 e730), (8, .int .i64 sv25.2.2), (16, .int .i64 (l22.length : Int)), (17, .int .i64 sv25.2.2)] a ∧ Wd ⟨w0, S0, []⟩ Sv731 [.row p12 rv11.length k13 c15 3 1, .row p325 sv25.1.length k326 c324 4 1] [SlA p6 better5.length k7 better5, RowA c15 rv11, RowA c324 sv25.1] w) ?_ ?_
   ·refine wp_block (wp_while (fun sv631 a w => ∃ Sv695, Sl 60 [(1, .slice p6 better5.length k7), (5, .slice p12 rv11.length k13), (6, .slice p325 sv25.1.length k326), (7, .int .i64 sv631), (8, .int .i64 sv25.2.2), (16, .int .i64 (l22.length : Int)), (17, .int .i64 sv25.2.2)] a ∧ Wd ⟨w0, S0, []⟩ Sv695 [.row p12 rv11.length k13 c15 3 1, .row p325 sv25.1.length k326 c324 4 1] [SlA p6 better5.length k7 better5, RowA c15 rv11, RowA c324 sv25.1] w) sv25.2.1 h870 ⟨Sv327, (s.wk rfl), (d.ft [0, 1] [0, 1, 2] (by decide) rfl rfl)⟩ ?_)
    clear h870
    repeat clear u
    rintro sv631 a w tv728 ⟨Sv695, s, d⟩ u hd727
    delta compose_kept_l6 at u
    refine wp_seq (wp_seq ?_)
    obtain ⟨c758, hc758, u⟩ := bind_t u
    refine wp_only (fun a w => ∃ Sv759, Sl 60 [(1, .slice p6 better5.length k7), (5, .slice p12 rv11.length k13), (6, .slice p325 sv25.1.length k326), (7, .int .i64 sv631), (8, .int .i64 sv25.2.2), (16, .int .i64 (l22.length : Int)), (17, .int .i64 sv25.2.2), (35, .bool c758)] a ∧ Wd ⟨w0, S0, []⟩ Sv759 [.row p12 rv11.length k13 c15 3 1, .row p325 sv25.1.length k326 c324 4 1] [SlA p6 better5.length k7 better5, RowA c15 rv11, RowA c324 sv25.1] w) ?_ ?_
    ·rcases Bool.eq_false_or_eq_true (decide (sv631 < (better5.length : Int))) with h760 | h760
     ·have h761 := ite_t hc758 h760
      obtain ⟨x764, h762, h761⟩ := bind_t h761
      obtain ⟨b770, o771, q768, c769, h772, h765, h766, h767, h763⟩ := d.elemV 0 rfl h762
      have hsv773 := s
      have hwv774 := d
      subst h772
      have s := hsv773
      have d := hwv774
      obtain ⟨_, _, rfl, rfl, rfl⟩ := h763
      have d := d.addE h767
      obtain ⟨x777, h775, h761⟩ := bind_t h761
      obtain ⟨b784, q781, c782, h785, h778, h779, h783, h776⟩ := d.elemRV (α := Int) 0 rfl 2 rfl h775
      have hsv786 := s
      have hwv787 := d
      subst h785
      have s := hsv786
      have d := hwv787
      obtain ⟨_, rfl, rfl⟩ := h776
      refine h_c [0, 1] [0] d rfl rfl (by kernel_rfl) rfl fun hC d => ?_
      refine gn 5 [0, 1, 2, 3, 4] [] s hC rfl rfl rfl fun a s => ?_
      have s := s.fix 24 (.bool true) rfl (vb h760)
      refine gn 2 [5, 6] [] s hC rfl rfl rfl fun a s => ?_
      refine gt s 7 rfl ⟨_, rfl, rfl⟩ rfl hC (fun w hC => y_indexAt Tryz.runUnderlying30 Tryz.sizeOf71 rfl rfl h765.1 h765.2 h766) fun a s => ?_
      refine gt s 8 rfl ⟨_, rfl, rfl⟩ rfl hC (fun w hC => y_fieldAddr (o' := q768 + 1) Tryz.runUnderlying71 rfl Tryz.sizeOf3 rfl rfl rfl) fun a s => ?_
      refine gt s 9 rfl ⟨_, rfl, rfl⟩ rfl hC (fun w hC => y_loadE1 (j := 1) (hC.ceAt 0 rfl) rfl Tryz.isAgg3 rfl) fun a s => ?_
      refine gn 2 [10, 11] [] s hC rfl rfl rfl fun a s => ?_
      refine gt s 12 rfl ⟨_, rfl, rfl⟩ rfl hC (fun w hC => y_indexAt Tryz.runUnderlying22 Tryz.sizeOf3 rfl rfl h778.1 h778.2 h779) fun a s => ?_
      refine gt s 13 rfl ⟨_, rfl, rfl⟩ rfl hC (fun w hC => y_loadQ1 (j := 0) (hC.ownAt 0 rfl) rfl Tryz.isAgg3 h783 rfl) fun a s => ?_
      refine gt s 14 rfl ⟨_, rfl, rfl⟩ rfl hC (fun w hC => y_leq rfl rfl) fun a s => ?_
      refine gv s 15 rfl rfl hC (fun w hC => y_pickTE (v := .bool c758) rfl rfl (vbs h761)) fun a s => ?_
      refine h_done (by kernel_rfl) ?_
      exact ⟨Sv695, (s.wk rfl), (d.ft [0, 1] [1, 2, 3] (by decide) rfl rfl)⟩
     have h788 := ite_f hc758 h760
     refine h_c [0, 1] [] d rfl rfl (by kernel_rfl) rfl fun hC d => ?_
     refine gn 5 [0, 1, 2, 3, 4] [] s hC rfl rfl rfl fun a s => ?_
     have s := s.fix 24 (.bool false) rfl (vb h760)
     refine gn 10 [5, 6, 7, 8, 9, 10, 11, 12, 13, 14] [] s hC rfl rfl rfl fun a s => ?_
     refine gv s 15 rfl rfl hC (fun w hC => y_pickFE (v := .bool c758) rfl rfl (vbs h788)) fun a s => ?_
     refine h_done (by kernel_rfl) ?_
     exact ⟨Sv695, (s.wk rfl), (d.ft [0, 1] [0, 1, 2] (by decide) rfl rfl)⟩
    rintro a w ⟨Sv759, s, d⟩
    refine then_normal (cd s u rfl (fun u => ?_) fun u => ?_)
    ·refine wp_skip (then_normal (wp_block (wp_region_lit (rn 2 [] s d rfl rfl fun a s => ?_))))
     obtain ⟨k794, h793, u⟩ := bind_t u
     refine sv s (y_assignI rfl h793) rfl fun a s => ?_
     refine wpList_nil ?_
     exact blk_normal (then_normal ⟨_, (Option.some.inj u).symm, Sv759, (s.wk rfl), (d.ft [0, 1] [0, 1, 2] (by decide) rfl rfl)⟩)
    refine wp_exit (then_exit (then_exit (blk_exit ?_)))
    have u := oi u
    subst u
    have h795 := hd727 _ rfl
    subst h795
    exact then_normal ⟨Sv759, (s.wk rfl), (d.ft [0, 1] [0, 1, 2] (by decide) rfl rfl)⟩
   rintro a w ⟨Sv731, s, d⟩
   refine then_normal ?_
   obtain ⟨c822, hc822, u⟩ := bind_t u
   obtain ⟨x825, h823, u⟩ := bind_t u
   obtain ⟨b832, q829, c830, h833, h826, h827, h831, h824⟩ := d.elemRV (α := Bool) 1 rfl 2 rfl h823
   have hsv834 := s
   have hwv835 := d
   subst h833
   have s := hsv834
   have d := hwv835
   obtain ⟨_, rfl, rfl⟩ := h824
   obtain ⟨l837, h836, u⟩ := bind_t u
   refine wp_only (fun a w => ∃ Sv840 c838, Sl 60 [(1, .slice p6 better5.length k7), (5, .slice p12 rv11.length k13), (6, .slice (some ⟨b832, 0, none⟩) l837.length k326), (7, .int .i64 e730), (16, .int .i64 (l22.length : Int)), (17, .int .i64 sv25.2.2)] a ∧ Wd ⟨w0, S0, []⟩ Sv840 [.row p12 rv11.length k13 c15 3 1, .row (some ⟨b832, 0, none⟩) l837.length k326 c838 4 1] [SlA p6 better5.length k7 better5, RowA c15 rv11, RowA c838 l837] w) ?_ ?_
   ·rcases Bool.eq_false_or_eq_true (e730 == (better5.length : Int)) with h841 | h841
    ·have h842 := ite_t hc822 h841
     refine h_c [0] [] d rfl rfl (by kernel_rfl) rfl fun hC d => ?_
     refine gn 7 [0, 1, 2, 3, 4, 5, 6] [] s hC rfl rfl rfl fun a s => ?_
     have s := s.fix 44 (.bool true) rfl (vb h841)
     refine gn 11 [7, 8, 9, 10, 11, 12, 13, 14, 15, 16, 17] [] s hC rfl rfl rfl fun a s => ?_
     refine gv s 18 rfl rfl hC (fun w hC => y_pickTE (v := .bool c822) rfl rfl (vbs h842)) fun a s => ?_
     refine gv s 19 rfl rfl hC (fun w hC => y_indexAt Tryz.runUnderlying153 Tryz.sizeOf4 rfl rfl h826.1 h826.2 h827) fun a s => ?_
     refine ho 20 rfl ?_
     refine w_storeF (α := Bool) s d 1 rfl 2 rfl h827 rfl rfl Tryz.sizeOf4 rfl h836 ⟨_, rfl, rfl⟩ trivial ?_
     intro c838 a w s d
     have h839 := setM_len h836
     try have s := s.fl 6 rfl h839
     try have s := s.fl 38 rfl h839
     refine h_n [0] [] d rfl rfl fun hC => ?_
     refine h_done (by kernel_rfl) ?_
     exact ⟨Sv731, c838, (s.wk rfl), (d.ft [0, 1] [1, 2, 0] (by decide) rfl rfl)⟩
    have h843 := ite_f hc822 h841
    obtain ⟨x846, h844, h843⟩ := bind_t h843
    obtain ⟨b852, o853, q850, c851, h854, h847, h848, h849, h845⟩ := d.elemV 0 rfl h844
    have hsv855 := s
    have hwv856 := d
    subst h854
    have s := hsv855
    have d := hwv856
    obtain ⟨_, _, rfl, rfl, rfl⟩ := h845
    have d := d.addE h849
    obtain ⟨x859, h857, h843⟩ := bind_t h843
    obtain ⟨b866, q863, c864, h867, h860, h861, h865, h858⟩ := d.elemRV (α := Int) 0 rfl 2 rfl h857
    have hsv868 := s
    have hwv869 := d
    subst h867
    have s := hsv868
    have d := hwv869
    obtain ⟨_, rfl, rfl⟩ := h858
    refine h_c [0] [0] d rfl rfl (by kernel_rfl) rfl fun hC d => ?_
    refine gn 7 [0, 1, 2, 3, 4, 5, 6] [] s hC rfl rfl rfl fun a s => ?_
    have s := s.fix 44 (.bool false) rfl (vb h841)
    refine gn 2 [7, 8] [] s hC rfl rfl rfl fun a s => ?_
    refine gt s 9 rfl ⟨_, rfl, rfl⟩ rfl hC (fun w hC => y_indexAt Tryz.runUnderlying30 Tryz.sizeOf71 rfl rfl h847.1 h847.2 h848) fun a s => ?_
    refine gt s 10 rfl ⟨_, rfl, rfl⟩ rfl hC (fun w hC => y_fieldAddr (o' := q850 + 0) Tryz.runUnderlying71 rfl Tryz.sizeOf3 rfl rfl rfl) fun a s => ?_
    refine gt s 11 rfl ⟨_, rfl, rfl⟩ rfl hC (fun w hC => y_loadE1 (j := 0) (hC.ceAt 0 rfl) rfl Tryz.isAgg3 rfl) fun a s => ?_
    refine gn 3 [12, 13, 14] [] s hC rfl rfl rfl fun a s => ?_
    refine gt s 15 rfl ⟨_, rfl, rfl⟩ rfl hC (fun w hC => y_indexAt Tryz.runUnderlying22 Tryz.sizeOf3 rfl rfl h860.1 h860.2 h861) fun a s => ?_
    refine gt s 16 rfl ⟨_, rfl, rfl⟩ rfl hC (fun w hC => y_loadQ1 (j := 0) (hC.ownAt 0 rfl) rfl Tryz.isAgg3 h865 rfl) fun a s => ?_
    refine gt s 17 rfl ⟨_, rfl, rfl⟩ rfl hC (fun w hC => y_geq rfl rfl) fun a s => ?_
    refine gv s 18 rfl rfl hC (fun w hC => y_pickFE (v := .bool c822) rfl rfl (vbs h843)) fun a s => ?_
    refine gv s 19 rfl rfl hC (fun w hC => y_indexAt Tryz.runUnderlying153 Tryz.sizeOf4 rfl rfl h826.1 h826.2 h827) fun a s => ?_
    refine ho 20 rfl ?_
    refine w_storeF (α := Bool) s d 1 rfl 3 rfl h827 rfl rfl Tryz.sizeOf4 rfl h836 ⟨_, rfl, rfl⟩ trivial ?_
    intro c838 a w s d
    have h839 := setM_len h836
    try have s := s.fl 6 rfl h839
    try have s := s.fl 38 rfl h839
    refine h_n [0] [1] d rfl rfl fun hC => ?_
    refine h_done (by kernel_rfl) ?_
    exact ⟨Sv731, c838, (s.wk rfl), (d.ft [0, 1] [2, 3, 0] (by decide) rfl rfl)⟩
   rintro a w ⟨Sv840, c838, s, d⟩
   refine blk_normal (then_normal (wp_region_lit (rz 2 [] s d rfl rfl fun a s => ?_)))
   exact ⟨_, (Option.some.inj u).symm, c838, (some ⟨b832, 0, none⟩), k326, Sv840, (s.wk rfl), (d.ft [0, 1] [0, 1, 2] (by decide) rfl rfl)⟩
  refine wp_exit (then_exit (then_exit (blk_exit ?_)))
  have u := oi u
  subst u
  have h871 := hd475 _ rfl
  subst h871
  exact then_normal ⟨c324, p325, k326, Sv327, (s.wk rfl), (d.ft [1] [2] (by decide) rfl rfl)⟩
 rintro a w ⟨c479, p480, k481, Sv482, s, d⟩
 refine then_normal (sz 2 [] s d rfl rfl fun a s => ?_)
 have u := oi u
 subst u
 exact wp_ret (ret1 s rfl (rv_tmp rfl) (d.ret ⟨p480, k481, c479, rfl, (d.outs [0] (by decide) rfl), (d.envAt 0 rfl)⟩))
abbrev record_sub_rd (w0 : World) (X : List Nat) (r : Record) : Rd := fun S w v => ∃ p0_11 k0_11 c0_11, v = V56 r p0_11 k0_11 ∧ Outs X w0 S w [.row p0_11 r.Samples.length k0_11 c0_11 3 1] ∧ (RowA c0_11 r.Samples).p S w
theorem record_sub_ok {w0 S0 p2 k3 r1 from5 to6 r} (u : record_sub r1 from5 to6 = some r) (hS : Dm S0 w0) (h4 : (SlA p2 r1.Samples.length k3 r1.Samples).p S0 w0) : Calls Tryz.prog 143 #[V56 r1 p2 k3, .int .i64 from5, .int .i64 to6] w0 (Ret ([]) w0 S0 (record_sub_rd w0 ([]) r)) := by
 refine en 20 Tryz.func143 rfl hS rfl rfl rfl fun a s d => ?_
 have d := d.addE h4
 delta record_sub at u
 refine sr (w_box (cs := (C56 r1 p2 k3)) s d rfl rfl rfl trivial ?_)
 intro b7 a w s d
 refine w_alloc (cs := Z0) s d Tryz.zeroValue56 rfl rfl trivial ?_
 intro b8 a w s d
 refine nl (sn 5 [1] s d rfl rfl fun a s => ?_)
 refine w_store (m := 1) (cs' := (C56 ⟨r1.Source, r1.Start, (w64 (r1.First + from5)), r1.Rate, r1.Error, r1.Run, r1.Seq, r1.Samples⟩ p2 k3)) s d 1 rfl rfl rfl Tryz.sizeOf3 rfl rfl rfl rfl trivial ?_
 intro a w s d
 refine nl (sn 4 [1] s d rfl rfl fun a s => ?_)
 obtain ⟨l14, h9, u⟩ := bind_t u
 obtain ⟨p12, k13, h10, h11⟩ := sub_env (d.envAt 0 rfl) h9
 have d := d.addE h10
 refine sv s (y_slc Tryz.runUnderlying22 Tryz.sizeOf3 rfl ⟨_, rfl⟩ ⟨_, rfl⟩ h11) rfl fun a s => ?_
 obtain ⟨rv16, h15, u⟩ := bind_t u
 refine st_callR s (slices_Clone_Lint_int_ok h15 d.dom (d.envAt 0 rfl)) (do_call Tryz.call66 rfl) trivial rfl rfl ?_
 rintro v24 Sv21 w a h22 ⟨p17, k18, c20, rfl, h25, h19⟩ s
 have d := (d.callN h22 h25).addE (e := RowA c20 rv16) h19
 refine sv s (y_fieldAddr (o' := 11) Tryz.runUnderlying56 rfl Tryz.sizeOf22 rfl rfl rfl) rfl fun a s => ?_
 refine w_store (m := 1) (cs' := (C56 ⟨r1.Source, r1.Start, (w64 (r1.First + from5)), r1.Rate, r1.Error, r1.Run, r1.Seq, rv16⟩ p17 k18)) s d 2 rfl rfl rfl Tryz.sizeOf22 rfl rfl rfl rfl trivial ?_
 intro a w s d
 refine nl (sn 1 [2] s d rfl rfl fun a s => ?_)
 refine w_store (m := 12) (cs' := (C56 ⟨r1.Source, r1.Start, (w64 (r1.First + from5)), r1.Rate, r1.Error, r1.Run, r1.Seq, rv16⟩ p17 k18)) s d 1 rfl rfl rfl Tryz.sizeOf56 rfl rfl rfl rfl trivial ?_
 intro a w s d
 refine nl ?_
 have u := oi u
 subst u
 exact wp_ret (ret1 s rfl (rv_cell d 1 rfl rfl Tryz.isAgg56 Tryz.sizeOf56 rfl) (d.ret ⟨p17, k18, c20, rfl, (d.outs [0] (by decide) rfl), (d.envAt 0 rfl)⟩))
theorem record_Sub_ok {w0 S0 p2 k3 r1 from5 to6 r} (u : record_Sub r1 from5 to6 = some r) (hS : Dm S0 w0) (h4 : (SlA p2 r1.Samples.length k3 r1.Samples).p S0 w0) : Calls Tryz.prog 173 #[V56 r1 p2 k3, .int .i64 from5, .int .i64 to6] w0 (Ret ([]) w0 S0 (ref14_Sub_rd w0 ([]) r)) := by
 refine en 31 Tryz.func173 rfl hS rfl rfl rfl fun a s d => ?_
 have d := d.addE h4
 delta record_Sub at u
 refine sr (w_box (cs := (C56 r1 p2 k3)) s d rfl rfl rfl trivial ?_)
 intro b7 a w s d
 refine w_alloc (cs := Z0) s d Tryz.zeroValue56 rfl rfl trivial ?_
 intro b8 a w s d
 refine rz 1 [] s d rfl rfl fun a s => ?_
 refine wp_seq (sn 1 [1] s d rfl rfl fun a s => ?_)
 obtain ⟨rv10, h9, u⟩ := bind_t u
 refine st_callR s (record_Valid_ok h9 d.bdom (d.bE 0 rfl)) (do_call Tryz.call84 rfl) trivial rfl rfl ?_
 rintro v14 Sv11 w a h12 rfl s
 have d := d.callB h12
 refine rz 1 [] s d rfl rfl fun a s => ?_
 refine cd s u rfl (fun u => ?_) fun u => ?_
 ·refine sr (sv s (y_build (vs := []) Bld56 rfl rfl) rfl fun a s => ?_)
  refine w_store (m := 12) (cs' := Z0) s d 0 rfl rfl rfl Tryz.sizeOf56 rfl rfl rfl rfl trivial ?_
  intro a w s d
  refine rz 1 [] s d rfl rfl fun a s => ?_
  have u := oi u
  subst u
  have d := d.nilRow Int 3
  exact wp_ret (then_ret (ret2 s rfl (rv_cell d 1 rfl rfl Tryz.isAgg56 Tryz.sizeOf56 rfl) (rv_tmp rfl) (d.ret ⟨none, 0, [], rfl, (d.outs [0] (by decide) rfl), (d.envAt 0 rfl)⟩)))
 refine wp_skip (then_normal (wp_seq (sn 3 [] s d rfl rfl fun a s => ?_)))
 refine rO 4 14 [] s d rfl rfl rfl rfl rfl fun a s => ?_
 refine mv s rfl rfl fun a s => ?_
 refine rO 6 19 [1] s d rfl rfl rfl rfl rfl fun a s => ?_
 refine nl (cd s u rfl (fun u => ?_) fun u => ?_)
 ·refine sr (sv s (y_build (vs := []) Bld56 rfl rfl) rfl fun a s => ?_)
  refine w_store (m := 12) (cs' := Z0) s d 0 rfl rfl rfl Tryz.sizeOf56 rfl rfl rfl rfl trivial ?_
  intro a w s d
  refine rz 1 [] s d rfl rfl fun a s => ?_
  have u := oi u
  subst u
  have d := d.nilRow Int 3
  exact wp_ret (then_ret (ret2 s rfl (rv_cell d 1 rfl rfl Tryz.isAgg56 Tryz.sizeOf56 rfl) (rv_tmp rfl) (d.ret ⟨none, 0, [], rfl, (d.outs [0] (by decide) rfl), (d.envAt 0 rfl)⟩)))
 refine wp_skip (then_normal (sn 3 [1] s d rfl rfl fun a s => ?_))
 obtain ⟨rv23, h22, u⟩ := bind_t u
 refine st_callR s (record_sub_ok h22 d.dom (d.envAt 0 rfl)) (do_call Tryz.call143 rfl) trivial rfl rfl ?_
 rintro v31 Sv28 w a h29 ⟨p24, k25, c27, rfl, h32, h26⟩ s
 have d := (d.callN h29 h32).addE (e := RowA c27 rv23.Samples) h26
 refine w_store (m := 12) (cs' := (C56 rv23 p24 k25)) s d 1 rfl rfl rfl Tryz.sizeOf56 rfl rfl rfl rfl trivial ?_
 intro a w s d
 refine rz 1 [] s d rfl rfl fun a s => ?_
 have u := oi u
 subst u
 exact wp_ret (ret2 s rfl (rv_cell d 1 rfl rfl Tryz.isAgg56 Tryz.sizeOf56 rfl) (rv_tmp rfl) (d.ret ⟨p24, k25, c27, rfl, (d.outs [0] (by decide) rfl), (d.envAt 0 rfl)⟩))
theorem compose_runs_ok {w0 S0 p2 k3 p6 k7 r1 keep5 r} (u : compose_runs r1 keep5 = some r) (hS : Dm S0 w0) (h4 : (SlA p2 r1.Samples.length k3 r1.Samples).p S0 w0) (h8 : (SlA p6 keep5.length k7 keep5).p S0 w0) : Calls Tryz.prog 140 #[V56 r1 p2 k3, .slice p6 keep5.length k7] w0 (Ret ([]) w0 S0 (slices_Clone_Lapi_Record_api_Record_rd w0 ([]) r)) := by
 refine en 45 Tryz.func140 rfl hS rfl rfl rfl fun a s d => ?_
 have d := (d.addE h4).addE h8
 delta compose_runs at u
 refine sr (w_box (cs := (C56 r1 p2 k3)) s d rfl rfl rfl trivial ?_)
 intro b9 a w s d
 refine rz 1 [] s d rfl rfl fun a s => ?_
 refine sz 1 [] s d rfl rfl fun a s => ?_
 refine wp_seq (sz 1 [] s d rfl rfl fun a s => ?_)
 obtain ⟨e424, h754, u⟩ := bind_t u
 refine wp_join (fun a w => ∃ c425 p426 k427 Sv428, Sl 45 [(5, .slice p426 e424.length k427)] a ∧ Wd ⟨w0, S0, []⟩ Sv428 [.row p426 e424.length k427 c425 56 12] [RowA c425 e424] w) ?_ ?_
 ·refine wp_block ?_
  have d := d.nilRow Record 56
  refine wp_while (fun sv10 a w => ∃ c283 p284 k285 Sv286, Sl 45 [(1, .slice p6 keep5.length k7), (2, .pointer (some ⟨b9, 0, none⟩)), (5, .slice p284 sv10.1.length k285), (6, .int .i64 sv10.2)] a ∧ Wd ⟨w0, S0, []⟩ Sv286 [.box b9 (C56 r1 p2 k3) 56, .row p284 sv10.1.length k285 c283 56 12] [SlA p6 keep5.length k7 keep5, SlA p2 r1.Samples.length k3 r1.Samples, RowA c283 sv10.1] w) (([] : List Record), 0) h754 ⟨[], none, 0, S0, (s.wk rfl), (d.ft [1, 0] [1, 2, 0] (by decide) rfl rfl)⟩ ?_
  clear h754
  repeat clear u
  rintro sv10 a w tv422 ⟨c283, p284, k285, Sv286, s, d⟩ u hd421
  delta compose_runs_l3 at u
  refine wp_seq (sz 4 [] s d rfl rfl fun a s => ?_)
  refine cd s u rfl (fun u => ?_) fun u => ?_
  ·refine wp_skip (then_normal (wp_seq (wp_block (sz 2 [] s d rfl rfl fun a s => ?_))))
   refine wp_seq ?_
   obtain ⟨e664, h752, u⟩ := bind_t u
   refine wp_join (fun a w => ∃ Sv665, Sl 45 [(1, .slice p6 keep5.length k7), (2, .pointer (some ⟨b9, 0, none⟩)), (5, .slice p284 sv10.1.length k285), (6, .int .i64 sv10.2), (7, .int .i64 e664)] a ∧ Wd ⟨w0, S0, []⟩ Sv665 [.box b9 (C56 r1 p2 k3) 56, .row p284 sv10.1.length k285 c283 56 12] [SlA p6 keep5.length k7 keep5, SlA p2 r1.Samples.length k3 r1.Samples, RowA c283 sv10.1] w) ?_ ?_
   ·refine wp_block (wp_while (fun sv562 a w => ∃ Sv628, Sl 45 [(1, .slice p6 keep5.length k7), (2, .pointer (some ⟨b9, 0, none⟩)), (5, .slice p284 sv10.1.length k285), (6, .int .i64 sv10.2), (7, .int .i64 sv562)] a ∧ Wd ⟨w0, S0, []⟩ Sv628 [.box b9 (C56 r1 p2 k3) 56, .row p284 sv10.1.length k285 c283 56 12] [SlA p6 keep5.length k7 keep5, SlA p2 r1.Samples.length k3 r1.Samples, RowA c283 sv10.1] w) sv10.2 h752 ⟨Sv286, (s.wk rfl), (d.ft [0, 1] [0, 1, 2] (by decide) rfl rfl)⟩ ?_)
    clear h752
    repeat clear u
    rintro sv562 a w tv662 ⟨Sv628, s, d⟩ u hd661
    delta compose_runs_l6 at u
    refine wp_seq (sn 5 [] s d rfl rfl fun a s => ?_)
    obtain ⟨c680, hc680, u⟩ := bind_t u
    refine wpl_join 5 (fun a w => ∃ Sv681, Sl 45 [(1, .slice p6 keep5.length k7), (2, .pointer (some ⟨b9, 0, none⟩)), (5, .slice p284 sv10.1.length k285), (6, .int .i64 sv10.2), (7, .int .i64 sv562), (26, .bool c680)] a ∧ Wd ⟨w0, S0, []⟩ Sv681 [.box b9 (C56 r1 p2 k3) 56, .row p284 sv10.1.length k285 c283 56 12] [SlA p6 keep5.length k7 keep5, SlA p2 r1.Samples.length k3 r1.Samples, RowA c283 sv10.1] w) ?_ ?_
    ·rcases Bool.eq_false_or_eq_true (decide (sv562 < (keep5.length : Int))) with h679 | h679
     ·have s := s.fix 21 (.bool true) rfl (vb h679)
      have u := ite_t hc680 h679
      refine rn 2 [] s d rfl rfl fun a s => ?_
      obtain ⟨x684, h682, u⟩ := bind_t u
      obtain ⟨b690, o691, q688, c689, h692, h685, h686, h687, h683⟩ := d.elemV 0 rfl h682
      have hsv693 := s
      have hwv694 := d
      subst h692
      have s := hsv693
      have d := hwv694
      obtain ⟨_, rfl, rfl⟩ := h683
      have d := d.addE h687
      refine st_val s (y_indexAt Tryz.runUnderlying153 Tryz.sizeOf4 rfl rfl h685.1 h685.2 h686) ⟨_, rfl, rfl⟩ rfl rfl fun a s => ?_
      refine st_val s (y_loadE1 (j := 0) (d.ceAt 0 rfl) rfl Tryz.isAgg4 rfl) ⟨_, rfl, rfl⟩ rfl rfl fun a s => ?_
      refine sv s (y_pickT rfl rfl) rfl fun a s => ?_
      refine wpList_nil ?_
      have u := oi u
      subst u
      exact then_normal ⟨Sv628, (s.wk rfl), (d.ft [0, 1] [1, 2, 3] (by decide) rfl rfl)⟩
     have s := s.fix 21 (.bool false) rfl (vb h679)
     have u := ite_f hc680 h679
     refine rn 5 [] s d rfl rfl fun a s => ?_
     refine wpList_nil ?_
     have u := oi u
     subst u
     exact then_normal ⟨Sv628, (s.wk rfl), (d.ft [0, 1] [0, 1, 2] (by decide) rfl rfl)⟩
    rintro a w ⟨Sv681, s, d⟩
    refine nl (cd s u rfl (fun u => ?_) fun u => ?_)
    ·refine wp_skip (then_normal (wp_block (wp_region_lit (rn 2 [] s d rfl rfl fun a s => ?_))))
     obtain ⟨to700, h699, u⟩ := bind_t u
     refine sv s (y_assignI rfl h699) rfl fun a s => ?_
     refine wpList_nil ?_
     exact blk_normal (then_normal ⟨_, (Option.some.inj u).symm, Sv681, (s.wk rfl), (d.ft [0, 1] [0, 1, 2] (by decide) rfl rfl)⟩)
    refine wp_exit (then_exit (then_exit (blk_exit ?_)))
    have u := oi u
    subst u
    have h701 := hd661 _ rfl
    subst h701
    exact then_normal ⟨Sv681, (s.wk rfl), (d.ft [0, 1] [0, 1, 2] (by decide) rfl rfl)⟩
   rintro a w ⟨Sv665, s, d⟩
   refine then_normal (sz 3 [] s d rfl rfl fun a s => ?_)
   refine wp_join (fun a w => ∃ (out727 : (List Record)) (fromv728 : Int) (c723 p724 k725 Sv726 : _), compose_runs_j2 out727 fromv728 = some tv422 ∧ Sl 45 [(1, .slice p6 keep5.length k7), (2, .pointer (some ⟨b9, 0, none⟩)), (5, .slice p724 out727.length k725), (6, .int .i64 fromv728)] a ∧ Wd ⟨w0, S0, []⟩ Sv726 [.box b9 (C56 r1 p2 k3) 56, .row p724 out727.length k725 c723 56 12] [SlA p6 keep5.length k7 keep5, SlA p2 r1.Samples.length k3 r1.Samples, RowA c723 out727] w) ?_ ?_
   ·refine cd s u rfl (fun u => ?_) fun u => ?_
    ·refine sn 3 [0] s d rfl rfl fun a s => ?_
     obtain ⟨rv733, h732, u⟩ := bind_t u
     refine st_callR s (record_Sub_ok h732 d.dom (d.envAt 1 rfl)) (do_call Tryz.call173 rfl) trivial rfl rfl ?_
     rintro v741 Sv738 w a h739 ⟨p734, k735, c737, rfl, h742, h736⟩ s
     have d := (d.callN h739 h742).addE (e := RowA c737 rv733.1.Samples) h736
     refine rn 3 [] s d rfl rfl fun a s => ?_
     refine w_alloc (cs := Z0) s d Tryz.zeroValue56 rfl rfl trivial ?_
     intro b743 a w s d
     refine w_store (m := 12) (cs' := (C56 rv733.1 p734 k735)) s d 0 rfl rfl rfl Tryz.sizeOf56 rfl rfl rfl rfl trivial ?_
     intro a w s d
     refine rz 1 [] s d rfl rfl fun a s => ?_
     refine wp_region_lit (rn 2 [0] s d rfl rfl fun a s => ?_)
     obtain ⟨Sv746, d⟩ := w_share (α := Int) d 1 rfl 0 rfl
     refine w_litSlice (α := Record) (vs := [V56 rv733.1 p734 k735]) (cs := (C56 rv733.1 p734 k735)) (xs := ([rv733.1] : List Record)) s d El28 rfl rfl rfl rfl rfl rfl ⟨⟨_, _, _, _, _, _, _, _, _, _, _, _, rfl, rfl, rfl, rfl, rfl, rfl, rfl, rfl, rfl, rfl, rfl, rfl, ⟨_, _, _, rfl, d.envAt 0 rfl⟩⟩, rfl⟩ rfl trivial rfl fun b745 a w s d => ?_
     obtain ⟨l748, h747, u⟩ := bind_t u
     refine w_appendR (α := Record) s d El28 3 rfl rfl rfl 5 rfl 0 rfl 0 rfl h747 rfl trivial ?_
     intro p749 k750 c751 a w s d
     refine rz 3 [] s d rfl rfl fun a s => ?_
     exact ⟨l748, e664, c751, p749, k750, Sv746, u, (s.wk rfl), (d.ft [2, 3] [4, 5, 0] (by decide) rfl rfl)⟩
    exact wp_skip (then_normal ⟨sv10.1, sv10.2, c283, p284, k285, Sv665, u, (s.wk rfl), (d.ft [0, 1] [0, 1, 2] (by decide) rfl rfl)⟩)
   rintro a w ⟨out727, fromv728, c723, p724, k725, Sv726, u, s, d⟩
   delta compose_runs_j2 at u
   refine blk_normal (then_normal (wp_region_lit (rn 2 [] s d rfl rfl fun a s => ?_)))
   obtain ⟨fromv730, h729, u⟩ := bind_t u
   refine sv s (y_assignI rfl h729) rfl fun a s => ?_
   exact nl ⟨_, (Option.some.inj u).symm, c723, p724, k725, Sv726, (s.wk rfl), (d.ft [0, 1] [0, 1, 2] (by decide) rfl rfl)⟩
  refine wp_exit (then_exit (then_exit (blk_exit ?_)))
  have u := oi u
  subst u
  have h753 := hd421 _ rfl
  subst h753
  exact then_normal ⟨c283, p284, k285, Sv286, (s.wk rfl), (d.ft [1] [2] (by decide) rfl rfl)⟩
 rintro a w ⟨c425, p426, k427, Sv428, s, d⟩
 refine then_normal (sz 2 [] s d rfl rfl fun a s => ?_)
 have u := oi u
 subst u
 exact wp_ret (ret1 s rfl (rv_tmp rfl) (d.ret ⟨p426, k427, c425, rfl, (d.outs [0] (by decide) rfl), (d.envAt 0 rfl)⟩))
theorem compose_compose_ok {w0 S0 p2 k3 l1 r} (u : compose_compose l1 = some r) (hS : Dm S0 w0) (h4 : (SlA p2 l1.length k3 l1).p S0 w0) : Calls Tryz.prog 99 #[.slice p2 l1.length k3] w0 (Ret ([]) w0 S0 (slices_Clone_Lapi_Record_api_Record_rd w0 ([]) r)) := by
 refine en 45 Tryz.func99 rfl hS rfl rfl rfl fun a s d => ?_
 have d := d.addE h4
 delta compose_compose at u
 refine sz 1 [] s d rfl rfl fun a s => ?_
 refine sn 1 [] s d rfl rfl fun a s => ?_
 obtain ⟨rv6, h5, u⟩ := bind_t u
 refine st_callR s (compose_order_ok h5 d.dom (d.envAt 0 rfl)) (do_call Tryz.call89 rfl) trivial rfl rfl ?_
 rintro v14 Sv11 w a h12 ⟨p7, k8, c10, rfl, h15, h9⟩ s
 have d := (d.callN h12 h15).addE (e := RowA c10 rv6) h9
 refine rz 1 [] s d rfl rfl fun a s => ?_
 refine sz 1 [] s d rfl rfl fun a s => ?_
 refine wp_seq (sz 3 [] s d rfl rfl fun a s => ?_)
 obtain ⟨e586, h1095, u⟩ := bind_t u
 refine wp_join (fun a w => ∃ c587 p588 k589 Sv590, Sl 45 [(4, .slice p588 e586.length k589)] a ∧ Wd ⟨w0, S0, []⟩ Sv590 [.row p588 e586.length k589 c587 56 12] [RowA c587 e586] w) ?_ ?_
 ·refine wp_block ?_
  have d := d.nilRow Record 56
  refine wp_while (fun sv16 a w => ∃ c393 p394 k395 Sv396, Sl 45 [(3, .slice p7 rv6.length k8), (4, .slice p394 sv16.1.length k395), (12, .slice p7 rv6.length k8), (13, .int .i64 (rv6.length : Int)), (14, .int .i64 sv16.2)] a ∧ Wd ⟨w0, S0, []⟩ Sv396 [.row p7 rv6.length k8 c10 56 12, .row p394 sv16.1.length k395 c393 56 12] [RowA c10 rv6, RowA c393 sv16.1] w) (([] : List Record), 0) h1095 ⟨[], none, 0, Sv11, (s.wk rfl), (d.ft [1, 0] [1, 0] (by decide) rfl rfl)⟩ ?_
  clear h1095
  repeat clear u
  rintro sv16 a w tv584 ⟨c393, p394, k395, Sv396, s, d⟩ u hd583
  delta compose_compose_l3 at u
  refine sz 1 [] s d rfl rfl fun a s => ?_
  refine wp_seq (cd s u rfl (fun u => ?_) fun u => ?_)
  ·refine wp_skip (then_normal (wp_seq (wp_block (sr ?_))))
   obtain ⟨x780, h778, u⟩ := bind_t u
   obtain ⟨b787, q784, c785, h788, h781, h782, h786, h779⟩ := d.elemRV (α := Record) 0 rfl 0 rfl h778
   have hsv789 := s
   have hwv790 := d
   subst h788
   have s := hsv789
   have d := hwv790
   obtain ⟨_, _, _, _, _, _, _, _, _, _, _, _, rfl, rfl, rfl, rfl, rfl, rfl, rfl, rfl, rfl, rfl, rfl, rfl, ⟨p791, n792, k793, rfl, h794⟩⟩ := h779
   obtain rfl := h794.1
   have d := d.addE (e := SlA p791 _ k793 x780.Samples) h794
   refine sv s (y_indexAt Tryz.runUnderlying28 Tryz.sizeOf56 rfl rfl h781.1 h781.2 h782) rfl fun a s => ?_
   refine sv s (y_loadQA (j := 0) (d.ownAt 0 rfl) rfl Tryz.isAgg56 Tryz.sizeOf56 h786 rfl rfl) rfl fun a s => ?_
   refine w_alloc (cs := Z0) s d Tryz.zeroValue56 rfl rfl trivial ?_
   intro b795 a w s d
   refine w_store (m := 12) (cs' := (C56 x780 p791 k793)) s d 0 rfl rfl rfl Tryz.sizeOf56 rfl rfl rfl rfl trivial ?_
   intro a w s d
   refine nl (sz 1 [] s d rfl rfl fun a s => ?_)
   refine wp_seq (sz 3 [] s d rfl rfl fun a s => ?_)
   obtain ⟨e934, h1081, u⟩ := bind_t u
   refine wp_join (fun a w => ∃ c935 p936 k937 Sv938, Sl 45 [(3, .slice (some ⟨b787, 0, none⟩) rv6.length k8), (4, .slice p394 sv16.1.length k395), (6, .pointer (some ⟨b795, 0, none⟩)), (7, .slice p936 e934.length k937), (12, .slice (some ⟨b787, 0, none⟩) rv6.length k8), (13, .int .i64 (rv6.length : Int)), (14, .int .i64 sv16.2)] a ∧ Wd ⟨w0, S0, []⟩ Sv938 [.box b795 (C56 x780 p791 k793) 56, .row (some ⟨b787, 0, none⟩) rv6.length k8 c10 56 12, .row p394 sv16.1.length k395 c393 56 12, .row p936 e934.length k937 c935 71 2] [SlA p791 x780.Samples.length k793 x780.Samples, RowA c10 rv6, RowA c393 sv16.1, RowA c935 e934] w) ?_ ?_
   ·refine wp_block ?_
    have d := d.nilRow Span 71
    refine wp_while (fun sv796 a w => ∃ c885 p886 k887 Sv888, Sl 45 [(3, .slice (some ⟨b787, 0, none⟩) rv6.length k8), (4, .slice p394 sv16.1.length k395), (6, .pointer (some ⟨b795, 0, none⟩)), (7, .slice p886 sv796.1.length k887), (12, .slice (some ⟨b787, 0, none⟩) rv6.length k8), (13, .int .i64 (rv6.length : Int)), (14, .int .i64 sv16.2), (18, .slice (some ⟨b787, 0, none⟩) rv6.length k8), (19, .int .i64 (rv6.length : Int)), (20, .int .i64 sv796.2)] a ∧ Wd ⟨w0, S0, []⟩ Sv888 [.box b795 (C56 x780 p791 k793) 56, .row (some ⟨b787, 0, none⟩) rv6.length k8 c10 56 12, .row p394 sv16.1.length k395 c393 56 12, .row p886 sv796.1.length k887 c885 71 2] [SlA p791 x780.Samples.length k793 x780.Samples, RowA c10 rv6, RowA c393 sv16.1, RowA c885 sv796.1] w) (([] : List Span), 0) h1081 ⟨[], none, 0, Sv396, (s.wk rfl), (d.ft [1, 2, 3, 0] [1, 2, 3, 0] (by decide) rfl rfl)⟩ ?_
    clear h1081
    repeat clear u
    rintro sv796 a w tv932 ⟨c885, p886, k887, Sv888, s, d⟩ u hd931
    delta compose_compose_l6 at u
    refine sz 1 [] s d rfl rfl fun a s => ?_
    refine wp_seq (cd s u rfl (fun u => ?_) fun u => ?_)
    ·refine wp_skip (then_normal (wp_seq (wp_block (sr ?_))))
     obtain ⟨x984, h982, u⟩ := bind_t u
     obtain ⟨q988, c989, h985, h986, h990, h983⟩ := d.elemRK (α := Record) 1 rfl 1 rfl h982
     obtain ⟨_, _, _, _, _, _, _, _, _, _, _, _, rfl, rfl, rfl, rfl, rfl, rfl, rfl, rfl, rfl, rfl, rfl, rfl, ⟨p991, n992, k993, rfl, h994⟩⟩ := h983
     obtain rfl := h994.1
     have d := d.addE (e := SlA p991 _ k993 x984.Samples) h994
     refine sv s (y_indexAt Tryz.runUnderlying28 Tryz.sizeOf56 rfl rfl h985.1 h985.2 h986) rfl fun a s => ?_
     refine sv s (y_loadQA (j := 0) (d.ownAt 1 rfl) rfl Tryz.isAgg56 Tryz.sizeOf56 h990 rfl rfl) rfl fun a s => ?_
     refine w_alloc (cs := Z0) s d Tryz.zeroValue56 rfl rfl trivial ?_
     intro b995 a w s d
     refine w_store (m := 12) (cs' := (C56 x984 p991 k993)) s d 0 rfl rfl rfl Tryz.sizeOf56 rfl rfl rfl rfl trivial ?_
     intro a w s d
     refine nl (sn 2 [0, 1] s d rfl rfl fun a s => ?_)
     obtain ⟨rv997, h996, u⟩ := bind_t u
     refine st_callR s (record_Better_ok h996 d.bdom (d.bE 0 rfl) (d.bE 1 rfl)) (do_call Tryz.call139 rfl) trivial rfl rfl ?_
     rintro v1001 Sv998 w a h999 rfl s
     have d := d.callB h999
     refine nl (wp_join (fun a w => ∃ (better1022 : (List Span)) (c1018 p1019 k1020 Sv1021 : _), compose_compose_j1 sv796 better1022 = some tv932 ∧ Sl 45 [(3, .slice (some ⟨b787, 0, none⟩) rv6.length k8), (4, .slice p394 sv16.1.length k395), (6, .pointer (some ⟨b795, 0, none⟩)), (7, .slice p1019 better1022.length k1020), (12, .slice (some ⟨b787, 0, none⟩) rv6.length k8), (13, .int .i64 (rv6.length : Int)), (14, .int .i64 sv16.2), (18, .slice (some ⟨b787, 0, none⟩) rv6.length k8), (19, .int .i64 (rv6.length : Int)), (20, .int .i64 sv796.2)] a ∧ Wd ⟨w0, S0, []⟩ Sv1021 [.box b795 (C56 x780 p791 k793) 56, .row (some ⟨b787, 0, none⟩) rv6.length k8 c10 56 12, .row p394 sv16.1.length k395 c393 56 12, .row p1019 better1022.length k1020 c1018 71 2] [SlA p791 x780.Samples.length k793 x780.Samples, RowA c10 rv6, RowA c393 sv16.1, RowA c1018 better1022] w) ?_ ?_)
     ·refine cd s u rfl (fun u => ?_) fun u => ?_
      ·refine wp_region_lit (rn 2 [0] s d rfl rfl fun a s => ?_)
       obtain ⟨rv1025, h1024, u⟩ := bind_t u
       refine st_callR s (compose_extent_ok h1024 d.bdom (d.bE 0 rfl)) (do_call Tryz.call87 rfl) trivial rfl rfl ?_
       rintro v1029 Sv1026 w a h1027 rfl s
       have d := d.callB h1027
       refine w_litSlice (α := Span) (vs := [V71 rv1025]) (cs := (C71 rv1025)) (xs := ([rv1025] : List Span)) s d El30 rfl rfl rfl rfl rfl rfl ⟨⟨_, _, rfl, rfl, rfl⟩, rfl⟩ rfl trivial rfl fun b1032 a w s d => ?_
       obtain ⟨l1034, h1033, u⟩ := bind_t u
       refine w_appendR (α := Span) s d El30 5 rfl rfl rfl 5 rfl 0 rfl 0 rfl h1033 rfl trivial ?_
       intro p1035 k1036 c1037 a w s d
       refine rz 1 [] s d rfl rfl fun a s => ?_
       exact ⟨l1034, c1037, p1035, k1036, Sv888, u, (s.wk rfl), (d.ft [2, 3, 4, 5] [3, 4, 5, 0] (by decide) rfl rfl)⟩
      exact wp_skip (then_normal ⟨sv796.1, c885, p886, k887, Sv888, u, (s.wk rfl), (d.ft [1, 2, 3, 4] [1, 2, 3, 4] (by decide) rfl rfl)⟩)
     rintro a w ⟨better1022, c1018, p1019, k1020, Sv1021, u, s, d⟩
     delta compose_compose_j1 at u
     refine blk_normal (then_normal (wp_region_lit (rz 2 [] s d rfl rfl fun a s => ?_)))
     exact ⟨_, (Option.some.inj u).symm, c1018, p1019, k1020, Sv1021, (s.wk rfl), (d.ft [0, 1, 2, 3] [0, 1, 2, 3] (by decide) rfl rfl)⟩
    refine wp_exit (then_exit (then_exit (blk_exit ?_)))
    have u := oi u
    subst u
    have h1038 := hd931 _ rfl
    subst h1038
    exact then_normal ⟨c885, p886, k887, Sv888, (s.wk rfl), (d.ft [0, 1, 2, 3] [0, 1, 2, 3] (by decide) rfl rfl)⟩
   rintro a w ⟨c935, p936, k937, Sv938, s, d⟩
   refine then_normal ?_
   obtain ⟨rv1040, h1039, u⟩ := bind_t u
   obtain ⟨rv1046, h1045, u⟩ := bind_t u
   obtain ⟨rv1052, h1051, u⟩ := bind_t u
   obtain ⟨l1058, h1057, u⟩ := bind_t u
   refine wp_only (fun a w => ∃ Sv1062 c1061 k1060 p1059, Sl 45 [(3, .slice (some ⟨b787, 0, none⟩) rv6.length k8), (4, .slice p1059 l1058.length k1060), (12, .slice (some ⟨b787, 0, none⟩) rv6.length k8), (13, .int .i64 (rv6.length : Int)), (14, .int .i64 sv16.2)] a ∧ Wd ⟨w0, S0, []⟩ Sv1062 [.row (some ⟨b787, 0, none⟩) rv6.length k8 c10 56 12, .row p1059 l1058.length k1060 c1061 56 12] [RowA c10 rv6, RowA c1061 l1058] w) ?_ ?_
   ·refine h_c [0, 1] [] d rfl rfl (by kernel_rfl) rfl fun hC d => ?_
    refine gn 4 [0, 1, 2, 3] [0, 0] s hC rfl rfl rfl fun a s => ?_
    refine ho 4 rfl ?_
    obtain ⟨Sv1063, d⟩ := w_share (α := Span) d 3 rfl 3 rfl
    refine st_callR s (span_Normal_ok h1039 d.dom (d.envAt 0 rfl)) (do_call Tryz.call88 rfl) trivial rfl rfl ?_
    rintro v1067 Sv1064 w a h1065 ⟨p1041, k1042, c1044, rfl, h1068, h1043⟩ s
    have d := (d.callN h1065 h1068).addE (e := RowA c1044 rv1040) h1043
    refine h_n [1, 2] [] d rfl rfl fun hC => ?_
    refine ho 5 rfl ?_
    obtain ⟨Sv1069, d⟩ := w_share (α := Span) d 0 rfl 0 rfl
    refine st_callR s (compose_kept_ok h1045 d.dom (d.envAt 3 rfl) (d.envAt 0 rfl)) (do_call Tryz.call141 rfl) trivial rfl rfl ?_
    rintro v1073 Sv1070 w a h1071 ⟨p1047, k1048, c1050, rfl, h1074, h1049⟩ s
    have d := (d.callN h1071 h1074).addE (e := RowA c1050 rv1046) h1049
    refine h_n [1, 2] [] d rfl rfl fun hC => ?_
    refine ho 6 rfl ?_
    obtain ⟨Sv1075, d⟩ := w_share (α := Bool) d 0 rfl 0 rfl
    refine st_callR s (compose_runs_ok h1051 d.dom (d.envAt 5 rfl) (d.envAt 0 rfl)) (do_call Tryz.call140 rfl) trivial rfl rfl ?_
    rintro v1079 Sv1076 w a h1077 ⟨p1053, k1054, c1056, rfl, h1080, h1055⟩ s
    have d := (d.callN h1077 h1080).addE (e := RowA c1056 rv1052) h1055
    refine h_n [1, 2] [] d rfl rfl fun hC => ?_
    refine h_d [1, 2, 0] [] [0, 1] [] d rfl rfl rfl rfl fun hC => ?_
    refine ho 7 rfl ?_
    refine w_appendR (α := Record) s d El28 3 rfl rfl rfl 8 rfl 0 rfl 0 rfl h1057 rfl trivial ?_
    intro p1059 k1060 c1061 a w s d
    refine h_n [1, 2, 0] [] d rfl rfl fun hC => ?_
    refine gv s 8 rfl rfl hC (fun w hC => y_assign rfl) fun a s => ?_
    refine h_done (by kernel_rfl) ?_
    exact ⟨Sv1076, c1061, k1060, p1059, (s.wk rfl), (d.ft [2, 3] [8, 0] (by decide) rfl rfl)⟩
   rintro a w ⟨Sv1062, c1061, k1060, p1059, s, d⟩
   refine blk_normal (then_normal (wp_region_lit (rz 2 [] s d rfl rfl fun a s => ?_)))
   exact ⟨_, (Option.some.inj u).symm, c1061, p1059, k1060, Sv1062, (s.wk rfl), (d.ft [0, 1] [0, 1] (by decide) rfl rfl)⟩
  refine wp_exit (then_exit (then_exit (blk_exit ?_)))
  have u := oi u
  subst u
  have h1082 := hd583 _ rfl
  subst h1082
  exact then_normal ⟨c393, p394, k395, Sv396, (s.wk rfl), (d.ft [1] [1] (by decide) rfl rfl)⟩
 rintro a w ⟨c587, p588, k589, Sv590, s, d⟩
 refine then_normal (sn 1 [] s d rfl rfl fun a s => ?_)
 obtain ⟨rv1084, h1083, u⟩ := bind_t u
 refine st_callR s (slices_SortFunc_Lapi_Record_api_Record_ok h1083 d.dom (d.ins [0] (by decide) rfl) (d.envAt 0 rfl) (record_Compare_fn _ _)) (do_call Tryz.call125 rfl) trivial rfl rfl ?_
 rintro v1091 Sv1088 w a h1089 ⟨c1085, rfl, h1092, h1086, h1087⟩ s
 have d := (d.callO [0] [] (by decide) rfl h1089 h1092).addE (e := RowA c1085 rv1084) h1086
 have h1093 := h1087
 have h1094 := Eq.symm h1093
 try have s := s.fl 4 rfl h1094
 try have s := s.fl 42 rfl h1094
 refine nl (sz 2 [] s d rfl rfl fun a s => ?_)
 have u := oi u
 subst u
 exact wp_ret (ret1 s rfl (rv_tmp rfl) (d.ret ⟨p588, k589, c1085, rfl, (d.outs [0] (by decide) rfl), (d.envAt 0 rfl)⟩))
theorem compose_Compose_ok {w0 S0 p2 k3 l1 r} (u : compose_Compose l1 = some r) (hS : Dm S0 w0) (h4 : (SlA p2 l1.length k3 l1).p S0 w0) : Calls Tryz.prog 63 #[.slice p2 l1.length k3] w0 (Ret ([]) w0 S0 (compose_Order_rd w0 ([]) r)) := by
 refine en 9 Tryz.func63 rfl hS rfl rfl rfl fun a s d => ?_
 have d := d.addE h4
 delta compose_Compose at u
 refine sz 2 [] s d rfl rfl fun a s => ?_
 refine wp_seq (sn 1 [] s d rfl rfl fun a s => ?_)
 obtain ⟨rv6, h5, u⟩ := bind_t u
 refine st_callR s (compose_Valid_ok h5 d.bdom (d.bE 0 rfl)) (do_call Tryz.call86 rfl) trivial rfl rfl ?_
 rintro v10 Sv7 w a h8 rfl s
 have d := d.callB h8
 refine rz 1 [] s d rfl rfl fun a s => ?_
 refine cd s u rfl (fun u => ?_) fun u => ?_
 ·refine sz 2 [] s d rfl rfl fun a s => ?_
  have u := oi u
  subst u
  have d := d.nilRow Record 56
  exact wp_ret (then_ret (ret2 s rfl (rv_tmp rfl) (rv_tmp rfl) (d.ret ⟨none, 0, [], rfl, (d.outs [0] (by decide) rfl), (d.envAt 0 rfl)⟩)))
 refine wp_skip (then_normal (sn 1 [] s d rfl rfl fun a s => ?_))
 obtain ⟨rv15, h14, u⟩ := bind_t u
 refine st_callR s (compose_compose_ok h14 d.dom (d.envAt 0 rfl)) (do_call Tryz.call99 rfl) trivial rfl rfl ?_
 rintro v23 Sv20 w a h21 ⟨p16, k17, c19, rfl, h24, h18⟩ s
 have d := (d.callN h21 h24).addE (e := RowA c19 rv15) h18
 refine rz 2 [] s d rfl rfl fun a s => ?_
 have u := oi u
 subst u
 exact wp_ret (ret2 s rfl (rv_tmp rfl) (rv_tmp rfl) (d.ret ⟨p16, k17, c19, rfl, (d.outs [0] (by decide) rfl), (d.envAt 0 rfl)⟩))
theorem continuity_in_ok {w0 S0 n1 low2 high3 r} (u : continuity_in n1 low2 high3 = some r) (hS : Dm S0 w0) : Calls Tryz.prog 64 #[.int .i64 n1, .int .i64 low2, .int .i64 high3] w0 (Ret ([]) w0 S0 (made_Light_rd w0 ([]) r)) := by
 refine en 15 Tryz.func64 rfl hS rfl rfl rfl fun a s d => ?_
 delta continuity_in at u
 refine sz 1 [] s d rfl rfl fun a s => ?_
 refine sn 4 [] s d rfl rfl fun a s => ?_
 refine rA 4 10 [] s d rfl rfl rfl rfl rfl fun a s => ?_
 refine rz 1 [] s d rfl rfl fun a s => ?_
 have u := oi u
 subst u
 exact wp_ret (ret1 s rfl (rv_tmp rfl) (d.ret rfl))
theorem continuity_size_ok {w0 S0 n1 r} (u : continuity_size n1 = some r) (hS : Dm S0 w0) : Calls Tryz.prog 100 #[.int .i64 n1] w0 (Ret ([]) w0 S0 (slices_IndexFunc_Lapi_Record_api_Record_rd w0 ([]) r)) := by
 refine en 7 Tryz.func100 rfl hS rfl rfl rfl fun a s d => ?_
 delta continuity_size at u
 refine sz 1 [] s d rfl rfl fun a s => ?_
 refine sn 4 [] s d rfl rfl fun a s => ?_
 obtain ⟨x3, h2, u⟩ := bind_t u
 refine sv s (y_assignI rfl h2) rfl fun a s => ?_
 refine nl ?_
 have u := oi u
 subst u
 exact wp_ret (ret1 s rfl (rv_tmp rfl) (d.ret rfl))
theorem slices_Grow_Lint_int_n_ok {w0 S0 n1 r} (u : slices_Grow_Lint_int_n n1 = some r) (hS : Dm S0 w0) : Calls Tryz.prog 142 #[.slice none 0 0, .int .i64 n1] w0 (Ret ([]) w0 S0 (slices_Clone_Lint_int_rd w0 ([]) r)) := by
 refine en 27 Tryz.func142 rfl hS rfl rfl rfl fun a s d => ?_
 delta slices_Grow_Lint_int_n at u
 refine sz 1 [] s d rfl rfl fun a s => ?_
 refine wp_seq (sz 2 [] s d rfl rfl fun a s => ?_)
 refine cd s u rfl (fun u => ?_) fun u => ?_
 ·cases u
 refine wp_skip (then_normal (wp_seq (sn 2 [] s d rfl rfl fun a s => ?_)))
 refine sv s (y_cap Tryz.runUnderlying22 rfl) rfl fun a s => ?_
 refine rn 4 [] s d rfl rfl fun a s => ?_
 obtain ⟨n5, h4, u⟩ := bind_t u
 refine sv s (y_assignI rfl h4) rfl fun a s => ?_
 refine nl (sz 2 [] s d rfl rfl fun a s => ?_)
 refine wp_join (fun a w => ∃ (sv23 : (List Int)) (c19 p20 k21 Sv22 : _), slices_Grow_Lint_int_n_j1 sv23 = some r ∧ Sl 27 [(0, .slice p20 sv23.length k21)] a ∧ Wd ⟨w0, S0, []⟩ Sv22 [.row p20 sv23.length k21 c19 3 1] [RowA c19 sv23] w) ?_ ?_
 ·refine cd s u rfl (fun u => ?_) fun u => ?_
  ·refine wp_region_lit (rn 2 [] s d rfl rfl fun a s => ?_)
   refine sv s (y_cap Tryz.runUnderlying22 rfl) rfl fun a s => ?_
   obtain ⟨l28, h25, u⟩ := bind_t u
   obtain ⟨h26, h27⟩ := sub_nil 1 h25
   subst h26
   refine sv s (y_slc Tryz.runUnderlying22 Tryz.sizeOf3 rfl (by exact rfl) ⟨_, rfl⟩ h27) rfl fun a s => ?_
   refine mv s rfl rfl fun a s => ?_
   obtain ⟨l30, h29, u⟩ := bind_t u
   refine w_appendMk (α := Int) s d El22 ⟨_, rfl, rfl⟩ Tryz.underlying3 rfl rfl h29 rfl rfl trivial ?_
   intro p31 k32 c33 a w s d
   refine rn 2 [] s d rfl rfl fun a s => ?_
   obtain ⟨l36, h34, u⟩ := bind_t u
   obtain ⟨d, h35⟩ := w_cut d 0 rfl 0 rfl h34
   refine sv s (y_slc Tryz.runUnderlying22 Tryz.sizeOf3 rfl (by exact rfl) ⟨_, rfl⟩ h35) rfl fun a s => ?_
   refine rz 1 [] s d rfl rfl fun a s => ?_
   exact ⟨l36, (c33.take (l36.length * 1)), p31, k32, S0, u, (s.wk rfl), (d.ft [0] [0] (by decide) rfl rfl)⟩
  refine wp_skip (then_normal ?_)
  have d := d.nilRow Int 3
  exact ⟨([] : List Int), [], none, 0, S0, u, (s.wk rfl), (d.ft [0] [0] (by decide) rfl rfl)⟩
 rintro a w ⟨sv23, c19, p20, k21, Sv22, u, s, d⟩
 delta slices_Grow_Lint_int_n_j1 at u
 refine then_normal (sz 2 [] s d rfl rfl fun a s => ?_)
 have u := oi u
 subst u
 exact wp_ret (ret1 s rfl (rv_tmp rfl) (d.ret ⟨p20, k21, c19, rfl, (d.outs [0] (by decide) rfl), (d.envAt 0 rfl)⟩))
theorem slices_Concat_Lint_int_ok {w0 S0 p2 k3 slices1 r} (u : slices_Concat_Lint_int slices1 = some r) (hS : Dm S0 w0) (h4 : (SlA p2 slices1.length k3 slices1).p S0 w0) : Calls Tryz.prog 101 #[.slice p2 slices1.length k3] w0 (Ret ([]) w0 S0 (slices_Clone_Lint_int_rd w0 ([]) r)) := by
 refine en 36 Tryz.func101 rfl hS rfl rfl rfl fun a s d => ?_
 have d := d.addE h4
 delta slices_Concat_Lint_int at u
 refine sz 1 [] s d rfl rfl fun a s => ?_
 refine sz 1 [] s d rfl rfl fun a s => ?_
 refine wp_seq (sz 3 [] s d rfl rfl fun a s => ?_)
 obtain ⟨e74, h265, u⟩ := bind_t u
 refine wp_join (fun a w => ∃ Sv75, Sl 36 [(0, .slice p2 slices1.length k3), (3, .int .i64 e74)] a ∧ Wd ⟨w0, S0, []⟩ Sv75 [] [SlA p2 slices1.length k3 slices1] w) ?_ ?_
 ·refine wp_block (wp_while (fun sv5 a w => ∃ Sv49, Sl 36 [(0, .slice p2 slices1.length k3), (3, .int .i64 sv5.1), (9, .slice p2 slices1.length k3), (10, .int .i64 (slices1.length : Int)), (11, .int .i64 sv5.2)] a ∧ Wd ⟨w0, S0, []⟩ Sv49 [] [SlA p2 slices1.length k3 slices1] w) (0, 0) h265 ⟨S0, (s.wk rfl), (d.ft [] [0] (by decide) rfl rfl)⟩ ?_)
  clear h265
  repeat clear u
  rintro sv5 a w tv72 ⟨Sv49, s, d⟩ u hd71
  delta slices_Concat_Lint_int_l1 at u
  refine sz 1 [] s d rfl rfl fun a s => ?_
  refine wp_seq (cd s u rfl (fun u => ?_) fun u => ?_)
  ·refine wp_skip (then_normal (wp_seq (wp_block (sr ?_))))
   obtain ⟨x100, h98, u⟩ := bind_t u
   obtain ⟨b106, o107, q104, c105, h108, h101, h102, h103, h99⟩ := d.elemV 0 rfl h98
   have hsv109 := s
   have hwv110 := d
   subst h108
   have s := hsv109
   have d := hwv110
   obtain ⟨_, rfl, ⟨p111, n112, k113, rfl, h114⟩⟩ := h99
   obtain rfl := h114.1
   have d := (d.addE (e := SlA p111 _ k113 x100) h114).addE h103
   refine sv s (y_indexAt Tryz.runUnderlying155 Tryz.sizeOf22 rfl rfl h101.1 h101.2 h102) rfl fun a s => ?_
   refine sv s (y_loadE1 (j := 0) (d.ceAt 0 rfl) rfl Tryz.isAgg22 rfl) rfl fun a s => ?_
   refine rz 1 [] s d rfl rfl fun a s => ?_
   refine sn 4 [] s d rfl rfl fun a s => ?_
   obtain ⟨size116, h115, u⟩ := bind_t u
   refine sv s (y_assignI rfl h115) rfl fun a s => ?_
   refine nl (sz 2 [] s d rfl rfl fun a s => ?_)
   refine cd s u rfl (fun u => ?_) fun u => ?_
   ·cases u
   refine wp_skip (blk_normal (then_normal (wp_region_lit (rz 2 [] s d rfl rfl fun a s => ?_))))
   exact ⟨_, (Option.some.inj u).symm, Sv49, (s.wk rfl), (d.ft [] [2] (by decide) rfl rfl)⟩
  refine wp_exit (then_exit (then_exit (blk_exit ?_)))
  have u := oi u
  subst u
  have h119 := hd71 _ rfl
  subst h119
  exact then_normal ⟨Sv49, (s.wk rfl), (d.ft [] [0] (by decide) rfl rfl)⟩
 rintro a w ⟨Sv75, s, d⟩
 refine then_normal (sn 1 [] s d rfl rfl fun a s => ?_)
 obtain ⟨rv121, h120, u⟩ := bind_t u
 refine st_callR s (slices_Grow_Lint_int_n_ok h120 d.dom) (do_call Tryz.call142 rfl) trivial rfl rfl ?_
 rintro v129 Sv126 w a h127 ⟨p122, k123, c125, rfl, h130, h124⟩ s
 have d := (d.callN h127 h130).addE (e := RowA c125 rv121) h124
 refine rz 1 [] s d rfl rfl fun a s => ?_
 refine wp_seq (sz 3 [] s d rfl rfl fun a s => ?_)
 obtain ⟨e212, h264, u⟩ := bind_t u
 refine wp_join (fun a w => ∃ c213 p214 k215 Sv216, Sl 36 [(6, .slice p214 e212.length k215)] a ∧ Wd ⟨w0, S0, []⟩ Sv216 [.row p214 e212.length k215 c213 3 1] [RowA c213 e212] w) ?_ ?_
 ·refine wp_block (wp_while (fun sv131 a w => ∃ c182 p183 k184 Sv185, Sl 36 [(6, .slice p183 sv131.1.length k184), (25, .slice p2 slices1.length k3), (26, .int .i64 (slices1.length : Int)), (27, .int .i64 sv131.2)] a ∧ Wd ⟨w0, S0, []⟩ Sv185 [.row p183 sv131.1.length k184 c182 3 1] [SlA p2 slices1.length k3 slices1, RowA c182 sv131.1] w) (rv121, 0) h264 ⟨c125, p122, k123, Sv126, (s.wk rfl), (d.ft [0] [1, 0] (by decide) rfl rfl)⟩ ?_)
  clear h264
  repeat clear u
  rintro sv131 a w tv210 ⟨c182, p183, k184, Sv185, s, d⟩ u hd209
  delta slices_Concat_Lint_int_l2 at u
  refine sz 1 [] s d rfl rfl fun a s => ?_
  refine wp_seq (cd s u rfl (fun u => ?_) fun u => ?_)
  ·refine wp_skip (then_normal (wp_seq (wp_block (sr ?_))))
   obtain ⟨x243, h241, u⟩ := bind_t u
   obtain ⟨b249, o250, q247, c248, h251, h244, h245, h246, h242⟩ := d.elemV 0 rfl h241
   have hsv252 := s
   have hwv253 := d
   subst h251
   have s := hsv252
   have d := hwv253
   obtain ⟨_, rfl, ⟨p254, n255, k256, rfl, h257⟩⟩ := h242
   obtain rfl := h257.1
   have d := (d.addE (e := SlA p254 _ k256 x243) h257).addE h246
   refine sv s (y_indexAt Tryz.runUnderlying155 Tryz.sizeOf22 rfl rfl h244.1 h244.2 h245) rfl fun a s => ?_
   refine sv s (y_loadE1 (j := 0) (d.ceAt 0 rfl) rfl Tryz.isAgg22 rfl) rfl fun a s => ?_
   refine rz 1 [] s d rfl rfl fun a s => ?_
   refine wp_region_lit (rn 2 [] s d rfl rfl fun a s => ?_)
   obtain ⟨l259, h258, u⟩ := bind_t u
   refine w_appendE (α := Int) s d El22 0 rfl rfl rfl 3 rfl 1 rfl h258 rfl trivial ?_
   intro p260 k261 c262 a w s d
   refine av s rfl rfl fun a s => ?_
   refine wpList_nil ?_
   refine blk_normal (then_normal (wp_region_lit (rz 2 [] s d rfl rfl fun a s => ?_)))
   exact ⟨_, (Option.some.inj u).symm, c262, p260, k261, Sv185, (s.wk rfl), (d.ft [0] [3, 0] (by decide) rfl rfl)⟩
  refine wp_exit (then_exit (then_exit (blk_exit ?_)))
  have u := oi u
  subst u
  have h263 := hd209 _ rfl
  subst h263
  exact then_normal ⟨c182, p183, k184, Sv185, (s.wk rfl), (d.ft [0] [1] (by decide) rfl rfl)⟩
 rintro a w ⟨c213, p214, k215, Sv216, s, d⟩
 refine then_normal (sz 2 [] s d rfl rfl fun a s => ?_)
 have u := oi u
 subst u
 exact wp_ret (ret1 s rfl (rv_tmp rfl) (d.ret ⟨p214, k215, c213, rfl, (d.outs [0] (by decide) rfl), (d.envAt 0 rfl)⟩))
abbrev continuity_body_rd (w0 : World) (X : List Nat) (r : Record) : Rd := fun S w v => ∃ p0_11 k0_11, v = V56 r p0_11 k0_11 ∧ (SlA p0_11 r.Samples.length k0_11 r.Samples).p S w
theorem continuity_body_ok {w0 S0 p2 k3 s1 r} (u : continuity_body s1 = some r) (hS : Dm S0 w0) (h4 : (SlA p2 s1.Samples.length k3 s1.Samples).p S0 w0) : Calls Tryz.prog 76 #[V64 s1 p2 k3] w0 (Ret ([]) w0 S0 (continuity_body_rd w0 ([]) r)) := by
 refine en 15 Tryz.func76 rfl hS rfl rfl rfl fun a s d => ?_
 have d := d.addE h4
 delta continuity_body at u
 refine sr (w_box (cs := (C64 s1 p2 k3)) s d rfl rfl rfl trivial ?_)
 intro b5 a w s d
 refine w_alloc (cs := Z0) s d Tryz.zeroValue56 rfl rfl trivial ?_
 intro b6 a w s d
 refine nl (sr (sv s (y_build (vs := [(0, .string (⟨#[78]⟩ : ByteArray)), (1, .string (⟨#[83]⟩ : ByteArray)), (3, .string (⟨#[67, 72, 65]⟩ : ByteArray))]) Bld52 rfl rfl) rfl fun a s => ?_))
 refine rn 10 [1, 1, 1, 1, 1] s d rfl rfl fun a s => ?_
 refine sv s (y_build (vs := [(0, .agg #[.string (⟨#[78]⟩ : ByteArray), .string (⟨#[83]⟩ : ByteArray), .string ByteArray.empty, .string (⟨#[67, 72, 65]⟩ : ByteArray)]), (1, .int .i64 s1.Start), (2, .int .i64 s1.First), (3, V54 s1.Rate), (4, .int .i64 s1.Error), (7, .slice p2 s1.Samples.length k3)]) Bld56 rfl rfl) rfl fun a s => ?_
 refine w_store (m := 12) (cs' := (C56 ⟨⟨(⟨#[78]⟩ : ByteArray), (⟨#[83]⟩ : ByteArray), ByteArray.empty, (⟨#[67, 72, 65]⟩ : ByteArray)⟩, s1.Start, s1.First, s1.Rate, s1.Error, 0, 0, s1.Samples⟩ p2 k3)) s d 0 rfl rfl rfl Tryz.sizeOf56 rfl rfl rfl rfl trivial ?_
 intro a w s d
 refine nl ?_
 have u := oi u
 subst u
 exact wp_ret (ret1 s rfl (rv_cell d 0 rfl rfl Tryz.isAgg56 Tryz.sizeOf56 rfl) (d.ret ⟨p2, k3, rfl, (d.envAt 0 rfl)⟩))
theorem continuity_ValidSegment_ok {w0 S0 p2 k3 s1 r} (u : continuity_ValidSegment s1 = some r) (hS : Dm S0 w0) (h4 : (SlA p2 s1.Samples.length k3 s1.Samples).p S0 w0) : Calls Tryz.prog 45 #[V64 s1 p2 k3] w0 (Ret ([]) w0 S0 (made_Light_rd w0 ([]) r)) := by
 refine en 6 Tryz.func45 rfl hS rfl rfl rfl fun a s d => ?_
 have d := d.addE h4
 delta continuity_ValidSegment at u
 refine sr (w_box (cs := (C64 s1 p2 k3)) s d rfl rfl rfl trivial ?_)
 intro b5 a w s d
 refine rz 1 [] s d rfl rfl fun a s => ?_
 refine sn 1 [0] s d rfl rfl fun a s => ?_
 obtain ⟨rv7, h6, u⟩ := bind_t u
 refine st_callR s (continuity_body_ok h6 d.dom (d.envAt 0 rfl)) (do_call Tryz.call76 rfl) trivial rfl rfl ?_
 rintro v14 Sv11 w a h12 ⟨p8, k9, rfl, h10⟩ s
 have d := (d.call h12).addE (e := SlA p8 rv7.Samples.length k9 rv7.Samples) h10
 obtain ⟨rv17, h16, u⟩ := bind_t u
 refine st_callR s (record_Valid_ok h16 d.bdom (d.bE 0 rfl)) (do_call Tryz.call84 rfl) trivial rfl rfl ?_
 rintro v21 Sv18 w a h19 rfl s
 have d := d.callB h19
 refine rz 1 [] s d rfl rfl fun a s => ?_
 have u := oi u
 subst u
 exact wp_ret (ret1 s rfl (rv_tmp rfl) (d.ret rfl))
abbrev continuity_builder_joined_rd (w0 : World) (X : List Nat) (r : (Continuity_builder × Bool)) : Rd := fun S w v => ∃ p0_5 k0_5, v = .tuple #[V105 r.1 p0_5 k0_5, .bool r.2] ∧ (SlA p0_5 r.1.Segment.Samples.length k0_5 r.1.Segment.Samples).p S w
theorem continuity_builder_joined_ok {w0 S0 p2 k3 p6 k7 b1 r5 tolerance9 r} (u : continuity_builder_joined b1 r5 tolerance9 = some r) (hS : Dm S0 w0) (h4 : (SlA p2 b1.Segment.Samples.length k3 b1.Segment.Samples).p S0 w0) (h8 : (SlA p6 r5.Samples.length k7 r5.Samples).p S0 w0) : Calls Tryz.prog 65 #[V105 b1 p2 k3, V56 r5 p6 k7, .int .i64 tolerance9] w0 (Ret ([]) w0 S0 (continuity_builder_joined_rd w0 ([]) r)) := by
 refine en 84 Tryz.func65 rfl hS rfl rfl rfl fun a s d => ?_
 have d := (d.addE h4).addE h8
 delta continuity_builder_joined at u
 refine sr (w_box (cs := (C105 b1 p2 k3)) s d rfl rfl rfl trivial ?_)
 intro b10 a w s d
 refine w_box (cs := (C56 r5 p6 k7)) s d rfl rfl rfl trivial ?_
 intro b11 a w s d
 refine w_alloc (cs := Z8) s d Tryz.zeroValue105 rfl rfl trivial ?_
 intro b12 a w s d
 refine rz 1 [] s d rfl rfl fun a s => ?_
 refine wp_seq (sn 5 [1, 2] s d rfl rfl fun a s => ?_)
 refine sv s (y_neqA (by kernel_rfl) rfl rfl (eqv_struct Tryz.runUnderlying54 (by kernel_rfl) (EqF.cons1 rfl Tryz.isAgg3 rfl rfl (eqv_int Tryz.runUnderlying3) (EqF.cons1 rfl Tryz.isAgg3 rfl rfl (eqv_int Tryz.runUnderlying3) EqF.nil)))) rfl fun a s => ?_
 refine mv s rfl rfl fun a s => ?_
 refine rO 6 17 [2] s d rfl rfl rfl rfl rfl fun a s => ?_
 refine nl (cd s u rfl (fun u => ?_) fun u => ?_)
 ·refine sn 1 [2] s d rfl rfl fun a s => ?_
  refine w_store (m := 8) (cs' := (C105 b1 p2 k3)) s d 0 rfl rfl rfl Tryz.sizeOf105 rfl rfl rfl rfl trivial ?_
  intro a w s d
  refine rz 1 [] s d rfl rfl fun a s => ?_
  have u := oi u
  subst u
  exact wp_ret (then_ret (ret2 s rfl (rv_cell d 0 rfl rfl Tryz.isAgg105 Tryz.sizeOf105 rfl) (rv_tmp rfl) (d.ret ⟨p2, k3, rfl, (d.envAt 1 rfl)⟩)))
 refine wp_skip (then_normal (sn 14 [2, 2, 2, 2] s d rfl rfl fun a s => ?_))
 obtain ⟨rv17, h16, u⟩ := bind_t u
 refine st_callR s (rate_Time_ok h16 d.bdom) (do_call Tryz.call94 rfl) trivial rfl rfl ?_
 rintro v21 Sv18 w a h19 rfl s
 have d := d.callB h19
 refine rz 5 [] s d rfl rfl fun a s => ?_
 refine sn 1 [1] s d rfl rfl fun a s => ?_
 obtain ⟨rv24, h23, u⟩ := bind_t u
 refine st_callR s (continuity_at_ok h23 d.bdom (d.bE 0 rfl)) (do_call Tryz.call90 rfl) trivial rfl rfl ?_
 rintro v28 Sv25 w a h26 rfl s
 have d := d.callB h26
 refine rn 2 [] s d rfl rfl fun a s => ?_
 obtain ⟨rv31, h30, u⟩ := bind_t u
 refine st_callR s (continuity_size_ok h30 d.bdom) (do_call Tryz.call100 rfl) trivial rfl rfl ?_
 rintro v35 Sv32 w a h33 rfl s
 have d := d.callB h33
 refine rz 1 [] s d rfl rfl fun a s => ?_
 refine wp_seq (sz 3 [] s d rfl rfl fun a s => ?_)
 refine cd s u rfl (fun u => ?_) fun u => ?_
 ·refine sn 1 [2] s d rfl rfl fun a s => ?_
  refine w_store (m := 8) (cs' := (C105 b1 p2 k3)) s d 0 rfl rfl rfl Tryz.sizeOf105 rfl rfl rfl rfl trivial ?_
  intro a w s d
  refine rz 1 [] s d rfl rfl fun a s => ?_
  have u := oi u
  subst u
  exact wp_ret (then_ret (ret2 s rfl (rv_cell d 0 rfl rfl Tryz.isAgg105 Tryz.sizeOf105 rfl) (rv_tmp rfl) (d.ret ⟨p2, k3, rfl, (d.envAt 1 rfl)⟩)))
 refine wp_skip (then_normal (sn 10 [2, 1, 2] s d rfl rfl fun a s => ?_))
 refine w_store (m := 1) (cs' := (C105 ⟨b1.Segment, (max b1.worst_ r5.Error), b1.off_⟩ p2 k3)) s d 2 rfl rfl rfl Tryz.sizeOf3 rfl rfl rfl rfl trivial ?_
 intro a w s d
 refine sv s (y_fieldAddr (o' := 7) Tryz.runUnderlying105 rfl Tryz.sizeOf3 rfl rfl rfl) rfl fun a s => ?_
 refine w_store (m := 1) (cs' := (C105 ⟨b1.Segment, (max b1.worst_ r5.Error), (max b1.off_ rv31)⟩ p2 k3)) s d 2 rfl rfl rfl Tryz.sizeOf3 rfl rfl rfl rfl trivial ?_
 intro a w s d
 refine nl (wp_seq ?_)
 obtain ⟨rv42, h41, u⟩ := bind_t u
 refine wp_only (fun a w => ∃ Sv47 c46 k44 p43, Sl 84 [(3, .pointer (some ⟨b10, 0, none⟩)), (6, .pointer (some ⟨b12, 0, none⟩))] a ∧ Wd ⟨w0, S0, []⟩ Sv47 [.box b10 (C105 ⟨⟨b1.Segment.Start, b1.Segment.First, b1.Segment.Rate, (min (w64 ((max b1.worst_ r5.Error) + (max b1.off_ rv31))) 1099511627776), rv42⟩, (max b1.worst_ r5.Error), (max b1.off_ rv31)⟩ p43 k44) 105, .box b12 Z8 105, .row p43 rv42.length k44 c46 3 1] [SlA none ([] : List Int).length 0 ([] : List Int), RowA c46 rv42] w) ?_ ?_
 ·refine h_c [0, 1] [] d rfl rfl (by kernel_rfl) rfl fun hC d => ?_
  refine gn 6 [0, 2, 6, 7, 9, 10] [1] s hC rfl rfl rfl fun a s => ?_
  refine h_all (rs := [1, 3, 8]) (by kernel_rfl) rfl ?_
  refine AllH.cons rfl ?_ ?_
  ·refine sv s (y_loadB1 (d.ownAt 2 rfl) rfl Tryz.isAgg3 rfl) rfl fun a s => ?_
   refine h_n [0, 1] [] d rfl rfl fun hC => ?_
   refine h_all (rs := [3, 8]) (by kernel_rfl) rfl ?_
   refine AllH.cons rfl ?_ ?_
   ·refine sv s (y_loadB1 (d.ownAt 2 rfl) rfl Tryz.isAgg3 rfl) rfl fun a s => ?_
    refine h_n [0, 1] [] d rfl rfl fun hC => ?_
    refine gn 2 [4, 5] [] s hC rfl rfl rfl fun a s => ?_
    refine ho 8 rfl ?_
    refine sv s (y_loadB1 (d.ownAt 2 rfl) rfl Tryz.isAgg22 rfl) rfl fun a s => ?_
    refine h_n [0, 1] [] d rfl rfl fun hC => ?_
    refine gn 2 [13, 14] [] s hC rfl rfl rfl fun a s => ?_
    refine ho 11 rfl ?_
    refine w_litSlice (α := (List Int)) (vs := [.slice p2 b1.Segment.Samples.length k3, .slice p6 r5.Samples.length k7]) (cs := [.slice p2 b1.Segment.Samples.length k3, .slice p6 r5.Samples.length k7]) (xs := ([b1.Segment.Samples, r5.Samples] : List (List Int))) s d El155 rfl rfl rfl rfl rfl rfl ⟨⟨_, rfl, ⟨_, _, _, rfl, d.envAt 1 rfl⟩⟩, ⟨⟨_, rfl, ⟨_, _, _, rfl, d.envAt 0 rfl⟩⟩, rfl⟩⟩ rfl trivial rfl fun b40 a w s d => ?_
    refine h_n [1, 2] [] d rfl rfl fun hC => ?_
    refine ho 12 rfl ?_
    obtain ⟨Sv48, d⟩ := w_share (α := (List Int)) d 0 rfl 0 rfl
    refine st_callR s (slices_Concat_Lint_int_ok h41 d.dom (d.envAt 0 rfl)) (do_call Tryz.call101 rfl) trivial rfl rfl ?_
    rintro v52 Sv49 w a h50 ⟨p43, k44, c46, rfl, h53, h45⟩ s
    have d := (d.callN h50 h53).addE (e := RowA c46 rv42) h45
    refine h_n [1, 2] [] d rfl rfl fun hC => ?_
    refine h_d [1, 2, 0] [] [0, 1] [] d rfl rfl rfl rfl fun hC => ?_
    refine ho 15 rfl ?_
    refine w_store (m := 1) (cs' := (C105 ⟨⟨b1.Segment.Start, b1.Segment.First, b1.Segment.Rate, (min (w64 ((max b1.worst_ r5.Error) + (max b1.off_ rv31))) 1099511627776), b1.Segment.Samples⟩, (max b1.worst_ r5.Error), (max b1.off_ rv31)⟩ p2 k3)) s d 3 rfl rfl rfl Tryz.sizeOf3 rfl rfl rfl rfl trivial ?_
    intro a w s d
    refine h_n [1, 2, 0] [] d rfl rfl fun hC => ?_
    refine gn 2 [16, 17] [] s hC rfl rfl rfl fun a s => ?_
    refine ho 18 rfl ?_
    refine w_store (m := 1) (cs' := (C105 ⟨⟨b1.Segment.Start, b1.Segment.First, b1.Segment.Rate, (min (w64 ((max b1.worst_ r5.Error) + (max b1.off_ rv31))) 1099511627776), rv42⟩, (max b1.worst_ r5.Error), (max b1.off_ rv31)⟩ p43 k44)) s d 3 rfl rfl rfl Tryz.sizeOf22 rfl rfl rfl rfl trivial ?_
    intro a w s d
    refine h_n [1, 2, 0] [] d rfl rfl fun hC => ?_
    refine h_done (by kernel_rfl) ?_
    have d := d.addE (e := SlA (α := Int) none 0 0 []) nil_sl
    exact ⟨Sv49, c46, k44, p43, (s.wk rfl), (d.ft [3, 1, 0] [0, 1] (by decide) rfl rfl)⟩
   refine AllH.cons rfl ?_ ?_
   ·refine sv s (y_loadB1 (d.ownAt 2 rfl) rfl Tryz.isAgg22 rfl) rfl fun a s => ?_
    refine h_n [0, 1] [] d rfl rfl fun hC => ?_
    refine h_all (rs := [3, 11]) (by kernel_rfl) rfl ?_
    refine AllH.cons rfl ?_ ?_
    ·refine sv s (y_loadB1 (d.ownAt 2 rfl) rfl Tryz.isAgg3 rfl) rfl fun a s => ?_
     refine h_n [0, 1] [] d rfl rfl fun hC => ?_
     refine gn 4 [4, 5, 13, 14] [] s hC rfl rfl rfl fun a s => ?_
     refine ho 11 rfl ?_
     refine w_litSlice (α := (List Int)) (vs := [.slice p2 b1.Segment.Samples.length k3, .slice p6 r5.Samples.length k7]) (cs := [.slice p2 b1.Segment.Samples.length k3, .slice p6 r5.Samples.length k7]) (xs := ([b1.Segment.Samples, r5.Samples] : List (List Int))) s d El155 rfl rfl rfl rfl rfl rfl ⟨⟨_, rfl, ⟨_, _, _, rfl, d.envAt 1 rfl⟩⟩, ⟨⟨_, rfl, ⟨_, _, _, rfl, d.envAt 0 rfl⟩⟩, rfl⟩⟩ rfl trivial rfl fun b40 a w s d => ?_
     refine h_n [1, 2] [] d rfl rfl fun hC => ?_
     refine ho 12 rfl ?_
     obtain ⟨Sv54, d⟩ := w_share (α := (List Int)) d 0 rfl 0 rfl
     refine st_callR s (slices_Concat_Lint_int_ok h41 d.dom (d.envAt 0 rfl)) (do_call Tryz.call101 rfl) trivial rfl rfl ?_
     rintro v58 Sv55 w a h56 ⟨p43, k44, c46, rfl, h59, h45⟩ s
     have d := (d.callN h56 h59).addE (e := RowA c46 rv42) h45
     refine h_n [1, 2] [] d rfl rfl fun hC => ?_
     refine h_d [1, 2, 0] [] [0, 1] [] d rfl rfl rfl rfl fun hC => ?_
     refine ho 15 rfl ?_
     refine w_store (m := 1) (cs' := (C105 ⟨⟨b1.Segment.Start, b1.Segment.First, b1.Segment.Rate, (min (w64 ((max b1.worst_ r5.Error) + (max b1.off_ rv31))) 1099511627776), b1.Segment.Samples⟩, (max b1.worst_ r5.Error), (max b1.off_ rv31)⟩ p2 k3)) s d 3 rfl rfl rfl Tryz.sizeOf3 rfl rfl rfl rfl trivial ?_
     intro a w s d
     refine h_n [1, 2, 0] [] d rfl rfl fun hC => ?_
     refine gn 2 [16, 17] [] s hC rfl rfl rfl fun a s => ?_
     refine ho 18 rfl ?_
     refine w_store (m := 1) (cs' := (C105 ⟨⟨b1.Segment.Start, b1.Segment.First, b1.Segment.Rate, (min (w64 ((max b1.worst_ r5.Error) + (max b1.off_ rv31))) 1099511627776), rv42⟩, (max b1.worst_ r5.Error), (max b1.off_ rv31)⟩ p43 k44)) s d 3 rfl rfl rfl Tryz.sizeOf22 rfl rfl rfl rfl trivial ?_
     intro a w s d
     refine h_n [1, 2, 0] [] d rfl rfl fun hC => ?_
     refine h_done (by kernel_rfl) ?_
     have d := d.addE (e := SlA (α := Int) none 0 0 []) nil_sl
     exact ⟨Sv55, c46, k44, p43, (s.wk rfl), (d.ft [3, 1, 0] [0, 1] (by decide) rfl rfl)⟩
    refine AllH.cons rfl ?_ ?_
    ·refine w_litSlice (α := (List Int)) (vs := [.slice p2 b1.Segment.Samples.length k3, .slice p6 r5.Samples.length k7]) (cs := [.slice p2 b1.Segment.Samples.length k3, .slice p6 r5.Samples.length k7]) (xs := ([b1.Segment.Samples, r5.Samples] : List (List Int))) s d El155 rfl rfl rfl rfl rfl rfl ⟨⟨_, rfl, ⟨_, _, _, rfl, d.envAt 1 rfl⟩⟩, ⟨⟨_, rfl, ⟨_, _, _, rfl, d.envAt 0 rfl⟩⟩, rfl⟩⟩ rfl trivial rfl fun b40 a w s d => ?_
     refine h_n [1, 2] [] d rfl rfl fun hC => ?_
     refine h_all (rs := [3, 12]) (by kernel_rfl) rfl ?_
     refine AllH.cons rfl ?_ ?_
     ·refine sv s (y_loadB1 (d.ownAt 3 rfl) rfl Tryz.isAgg3 rfl) rfl fun a s => ?_
      refine h_n [1, 2] [] d rfl rfl fun hC => ?_
      refine gn 4 [4, 5, 13, 14] [] s hC rfl rfl rfl fun a s => ?_
      refine ho 12 rfl ?_
      obtain ⟨Sv60, d⟩ := w_share (α := (List Int)) d 0 rfl 0 rfl
      refine st_callR s (slices_Concat_Lint_int_ok h41 d.dom (d.envAt 0 rfl)) (do_call Tryz.call101 rfl) trivial rfl rfl ?_
      rintro v64 Sv61 w a h62 ⟨p43, k44, c46, rfl, h65, h45⟩ s
      have d := (d.callN h62 h65).addE (e := RowA c46 rv42) h45
      refine h_n [1, 2] [] d rfl rfl fun hC => ?_
      refine h_d [1, 2, 0] [] [0, 1] [] d rfl rfl rfl rfl fun hC => ?_
      refine ho 15 rfl ?_
      refine w_store (m := 1) (cs' := (C105 ⟨⟨b1.Segment.Start, b1.Segment.First, b1.Segment.Rate, (min (w64 ((max b1.worst_ r5.Error) + (max b1.off_ rv31))) 1099511627776), b1.Segment.Samples⟩, (max b1.worst_ r5.Error), (max b1.off_ rv31)⟩ p2 k3)) s d 3 rfl rfl rfl Tryz.sizeOf3 rfl rfl rfl rfl trivial ?_
      intro a w s d
      refine h_n [1, 2, 0] [] d rfl rfl fun hC => ?_
      refine gn 2 [16, 17] [] s hC rfl rfl rfl fun a s => ?_
      refine ho 18 rfl ?_
      refine w_store (m := 1) (cs' := (C105 ⟨⟨b1.Segment.Start, b1.Segment.First, b1.Segment.Rate, (min (w64 ((max b1.worst_ r5.Error) + (max b1.off_ rv31))) 1099511627776), rv42⟩, (max b1.worst_ r5.Error), (max b1.off_ rv31)⟩ p43 k44)) s d 3 rfl rfl rfl Tryz.sizeOf22 rfl rfl rfl rfl trivial ?_
      intro a w s d
      refine h_n [1, 2, 0] [] d rfl rfl fun hC => ?_
      refine h_done (by kernel_rfl) ?_
      have d := d.addE (e := SlA (α := Int) none 0 0 []) nil_sl
      exact ⟨Sv61, c46, k44, p43, (s.wk rfl), (d.ft [3, 1, 0] [0, 1] (by decide) rfl rfl)⟩
     refine AllH.cons rfl ?_ ?_
     ·obtain ⟨Sv66, d⟩ := w_share (α := (List Int)) d 0 rfl 0 rfl
      refine st_callR s (slices_Concat_Lint_int_ok h41 d.dom (d.envAt 0 rfl)) (do_call Tryz.call101 rfl) trivial rfl rfl ?_
      rintro v70 Sv67 w a h68 ⟨p43, k44, c46, rfl, h71, h45⟩ s
      have d := (d.callN h68 h71).addE (e := RowA c46 rv42) h45
      refine h_n [1, 2] [] d rfl rfl fun hC => ?_
      refine h_d [1, 2, 0] [] [0, 1] [] d rfl rfl rfl rfl fun hC => ?_
      refine ho 3 rfl ?_
      refine sv s (y_loadB1 (d.ownAt 3 rfl) rfl Tryz.isAgg3 rfl) rfl fun a s => ?_
      refine h_n [1, 2, 0] [] d rfl rfl fun hC => ?_
      refine gn 4 [4, 5, 13, 14] [] s hC rfl rfl rfl fun a s => ?_
      refine ho 15 rfl ?_
      refine w_store (m := 1) (cs' := (C105 ⟨⟨b1.Segment.Start, b1.Segment.First, b1.Segment.Rate, (min (w64 ((max b1.worst_ r5.Error) + (max b1.off_ rv31))) 1099511627776), b1.Segment.Samples⟩, (max b1.worst_ r5.Error), (max b1.off_ rv31)⟩ p2 k3)) s d 3 rfl rfl rfl Tryz.sizeOf3 rfl rfl rfl rfl trivial ?_
      intro a w s d
      refine h_n [1, 2, 0] [] d rfl rfl fun hC => ?_
      refine gn 2 [16, 17] [] s hC rfl rfl rfl fun a s => ?_
      refine ho 18 rfl ?_
      refine w_store (m := 1) (cs' := (C105 ⟨⟨b1.Segment.Start, b1.Segment.First, b1.Segment.Rate, (min (w64 ((max b1.worst_ r5.Error) + (max b1.off_ rv31))) 1099511627776), rv42⟩, (max b1.worst_ r5.Error), (max b1.off_ rv31)⟩ p43 k44)) s d 3 rfl rfl rfl Tryz.sizeOf22 rfl rfl rfl rfl trivial ?_
      intro a w s d
      refine h_n [1, 2, 0] [] d rfl rfl fun hC => ?_
      refine h_done (by kernel_rfl) ?_
      have d := d.addE (e := SlA (α := Int) none 0 0 []) nil_sl
      exact ⟨Sv67, c46, k44, p43, (s.wk rfl), (d.ft [3, 1, 0] [0, 1] (by decide) rfl rfl)⟩
     exact AllH.nil
    exact AllH.nil
   exact AllH.nil
  refine AllH.cons rfl ?_ ?_
  ·refine sv s (y_loadB1 (d.ownAt 2 rfl) rfl Tryz.isAgg3 rfl) rfl fun a s => ?_
   refine h_n [0, 1] [] d rfl rfl fun hC => ?_
   refine h_all (rs := [1, 8]) (by kernel_rfl) rfl ?_
   refine AllH.cons rfl ?_ ?_
   ·refine sv s (y_loadB1 (d.ownAt 2 rfl) rfl Tryz.isAgg3 rfl) rfl fun a s => ?_
    refine h_n [0, 1] [] d rfl rfl fun hC => ?_
    refine gn 2 [4, 5] [] s hC rfl rfl rfl fun a s => ?_
    refine ho 8 rfl ?_
    refine sv s (y_loadB1 (d.ownAt 2 rfl) rfl Tryz.isAgg22 rfl) rfl fun a s => ?_
    refine h_n [0, 1] [] d rfl rfl fun hC => ?_
    refine gn 2 [13, 14] [] s hC rfl rfl rfl fun a s => ?_
    refine ho 11 rfl ?_
    refine w_litSlice (α := (List Int)) (vs := [.slice p2 b1.Segment.Samples.length k3, .slice p6 r5.Samples.length k7]) (cs := [.slice p2 b1.Segment.Samples.length k3, .slice p6 r5.Samples.length k7]) (xs := ([b1.Segment.Samples, r5.Samples] : List (List Int))) s d El155 rfl rfl rfl rfl rfl rfl ⟨⟨_, rfl, ⟨_, _, _, rfl, d.envAt 1 rfl⟩⟩, ⟨⟨_, rfl, ⟨_, _, _, rfl, d.envAt 0 rfl⟩⟩, rfl⟩⟩ rfl trivial rfl fun b40 a w s d => ?_
    refine h_n [1, 2] [] d rfl rfl fun hC => ?_
    refine ho 12 rfl ?_
    obtain ⟨Sv72, d⟩ := w_share (α := (List Int)) d 0 rfl 0 rfl
    refine st_callR s (slices_Concat_Lint_int_ok h41 d.dom (d.envAt 0 rfl)) (do_call Tryz.call101 rfl) trivial rfl rfl ?_
    rintro v76 Sv73 w a h74 ⟨p43, k44, c46, rfl, h77, h45⟩ s
    have d := (d.callN h74 h77).addE (e := RowA c46 rv42) h45
    refine h_n [1, 2] [] d rfl rfl fun hC => ?_
    refine h_d [1, 2, 0] [] [0, 1] [] d rfl rfl rfl rfl fun hC => ?_
    refine ho 15 rfl ?_
    refine w_store (m := 1) (cs' := (C105 ⟨⟨b1.Segment.Start, b1.Segment.First, b1.Segment.Rate, (min (w64 ((max b1.worst_ r5.Error) + (max b1.off_ rv31))) 1099511627776), b1.Segment.Samples⟩, (max b1.worst_ r5.Error), (max b1.off_ rv31)⟩ p2 k3)) s d 3 rfl rfl rfl Tryz.sizeOf3 rfl rfl rfl rfl trivial ?_
    intro a w s d
    refine h_n [1, 2, 0] [] d rfl rfl fun hC => ?_
    refine gn 2 [16, 17] [] s hC rfl rfl rfl fun a s => ?_
    refine ho 18 rfl ?_
    refine w_store (m := 1) (cs' := (C105 ⟨⟨b1.Segment.Start, b1.Segment.First, b1.Segment.Rate, (min (w64 ((max b1.worst_ r5.Error) + (max b1.off_ rv31))) 1099511627776), rv42⟩, (max b1.worst_ r5.Error), (max b1.off_ rv31)⟩ p43 k44)) s d 3 rfl rfl rfl Tryz.sizeOf22 rfl rfl rfl rfl trivial ?_
    intro a w s d
    refine h_n [1, 2, 0] [] d rfl rfl fun hC => ?_
    refine h_done (by kernel_rfl) ?_
    have d := d.addE (e := SlA (α := Int) none 0 0 []) nil_sl
    exact ⟨Sv73, c46, k44, p43, (s.wk rfl), (d.ft [3, 1, 0] [0, 1] (by decide) rfl rfl)⟩
   refine AllH.cons rfl ?_ ?_
   ·refine sv s (y_loadB1 (d.ownAt 2 rfl) rfl Tryz.isAgg22 rfl) rfl fun a s => ?_
    refine h_n [0, 1] [] d rfl rfl fun hC => ?_
    refine h_all (rs := [1, 11]) (by kernel_rfl) rfl ?_
    refine AllH.cons rfl ?_ ?_
    ·refine sv s (y_loadB1 (d.ownAt 2 rfl) rfl Tryz.isAgg3 rfl) rfl fun a s => ?_
     refine h_n [0, 1] [] d rfl rfl fun hC => ?_
     refine gn 4 [4, 5, 13, 14] [] s hC rfl rfl rfl fun a s => ?_
     refine ho 11 rfl ?_
     refine w_litSlice (α := (List Int)) (vs := [.slice p2 b1.Segment.Samples.length k3, .slice p6 r5.Samples.length k7]) (cs := [.slice p2 b1.Segment.Samples.length k3, .slice p6 r5.Samples.length k7]) (xs := ([b1.Segment.Samples, r5.Samples] : List (List Int))) s d El155 rfl rfl rfl rfl rfl rfl ⟨⟨_, rfl, ⟨_, _, _, rfl, d.envAt 1 rfl⟩⟩, ⟨⟨_, rfl, ⟨_, _, _, rfl, d.envAt 0 rfl⟩⟩, rfl⟩⟩ rfl trivial rfl fun b40 a w s d => ?_
     refine h_n [1, 2] [] d rfl rfl fun hC => ?_
     refine ho 12 rfl ?_
     obtain ⟨Sv78, d⟩ := w_share (α := (List Int)) d 0 rfl 0 rfl
     refine st_callR s (slices_Concat_Lint_int_ok h41 d.dom (d.envAt 0 rfl)) (do_call Tryz.call101 rfl) trivial rfl rfl ?_
     rintro v82 Sv79 w a h80 ⟨p43, k44, c46, rfl, h83, h45⟩ s
     have d := (d.callN h80 h83).addE (e := RowA c46 rv42) h45
     refine h_n [1, 2] [] d rfl rfl fun hC => ?_
     refine h_d [1, 2, 0] [] [0, 1] [] d rfl rfl rfl rfl fun hC => ?_
     refine ho 15 rfl ?_
     refine w_store (m := 1) (cs' := (C105 ⟨⟨b1.Segment.Start, b1.Segment.First, b1.Segment.Rate, (min (w64 ((max b1.worst_ r5.Error) + (max b1.off_ rv31))) 1099511627776), b1.Segment.Samples⟩, (max b1.worst_ r5.Error), (max b1.off_ rv31)⟩ p2 k3)) s d 3 rfl rfl rfl Tryz.sizeOf3 rfl rfl rfl rfl trivial ?_
     intro a w s d
     refine h_n [1, 2, 0] [] d rfl rfl fun hC => ?_
     refine gn 2 [16, 17] [] s hC rfl rfl rfl fun a s => ?_
     refine ho 18 rfl ?_
     refine w_store (m := 1) (cs' := (C105 ⟨⟨b1.Segment.Start, b1.Segment.First, b1.Segment.Rate, (min (w64 ((max b1.worst_ r5.Error) + (max b1.off_ rv31))) 1099511627776), rv42⟩, (max b1.worst_ r5.Error), (max b1.off_ rv31)⟩ p43 k44)) s d 3 rfl rfl rfl Tryz.sizeOf22 rfl rfl rfl rfl trivial ?_
     intro a w s d
     refine h_n [1, 2, 0] [] d rfl rfl fun hC => ?_
     refine h_done (by kernel_rfl) ?_
     have d := d.addE (e := SlA (α := Int) none 0 0 []) nil_sl
     exact ⟨Sv79, c46, k44, p43, (s.wk rfl), (d.ft [3, 1, 0] [0, 1] (by decide) rfl rfl)⟩
    refine AllH.cons rfl ?_ ?_
    ·refine w_litSlice (α := (List Int)) (vs := [.slice p2 b1.Segment.Samples.length k3, .slice p6 r5.Samples.length k7]) (cs := [.slice p2 b1.Segment.Samples.length k3, .slice p6 r5.Samples.length k7]) (xs := ([b1.Segment.Samples, r5.Samples] : List (List Int))) s d El155 rfl rfl rfl rfl rfl rfl ⟨⟨_, rfl, ⟨_, _, _, rfl, d.envAt 1 rfl⟩⟩, ⟨⟨_, rfl, ⟨_, _, _, rfl, d.envAt 0 rfl⟩⟩, rfl⟩⟩ rfl trivial rfl fun b40 a w s d => ?_
     refine h_n [1, 2] [] d rfl rfl fun hC => ?_
     refine h_all (rs := [1, 12]) (by kernel_rfl) rfl ?_
     refine AllH.cons rfl ?_ ?_
     ·refine sv s (y_loadB1 (d.ownAt 3 rfl) rfl Tryz.isAgg3 rfl) rfl fun a s => ?_
      refine h_n [1, 2] [] d rfl rfl fun hC => ?_
      refine gn 4 [4, 5, 13, 14] [] s hC rfl rfl rfl fun a s => ?_
      refine ho 12 rfl ?_
      obtain ⟨Sv84, d⟩ := w_share (α := (List Int)) d 0 rfl 0 rfl
      refine st_callR s (slices_Concat_Lint_int_ok h41 d.dom (d.envAt 0 rfl)) (do_call Tryz.call101 rfl) trivial rfl rfl ?_
      rintro v88 Sv85 w a h86 ⟨p43, k44, c46, rfl, h89, h45⟩ s
      have d := (d.callN h86 h89).addE (e := RowA c46 rv42) h45
      refine h_n [1, 2] [] d rfl rfl fun hC => ?_
      refine h_d [1, 2, 0] [] [0, 1] [] d rfl rfl rfl rfl fun hC => ?_
      refine ho 15 rfl ?_
      refine w_store (m := 1) (cs' := (C105 ⟨⟨b1.Segment.Start, b1.Segment.First, b1.Segment.Rate, (min (w64 ((max b1.worst_ r5.Error) + (max b1.off_ rv31))) 1099511627776), b1.Segment.Samples⟩, (max b1.worst_ r5.Error), (max b1.off_ rv31)⟩ p2 k3)) s d 3 rfl rfl rfl Tryz.sizeOf3 rfl rfl rfl rfl trivial ?_
      intro a w s d
      refine h_n [1, 2, 0] [] d rfl rfl fun hC => ?_
      refine gn 2 [16, 17] [] s hC rfl rfl rfl fun a s => ?_
      refine ho 18 rfl ?_
      refine w_store (m := 1) (cs' := (C105 ⟨⟨b1.Segment.Start, b1.Segment.First, b1.Segment.Rate, (min (w64 ((max b1.worst_ r5.Error) + (max b1.off_ rv31))) 1099511627776), rv42⟩, (max b1.worst_ r5.Error), (max b1.off_ rv31)⟩ p43 k44)) s d 3 rfl rfl rfl Tryz.sizeOf22 rfl rfl rfl rfl trivial ?_
      intro a w s d
      refine h_n [1, 2, 0] [] d rfl rfl fun hC => ?_
      refine h_done (by kernel_rfl) ?_
      have d := d.addE (e := SlA (α := Int) none 0 0 []) nil_sl
      exact ⟨Sv85, c46, k44, p43, (s.wk rfl), (d.ft [3, 1, 0] [0, 1] (by decide) rfl rfl)⟩
     refine AllH.cons rfl ?_ ?_
     ·obtain ⟨Sv90, d⟩ := w_share (α := (List Int)) d 0 rfl 0 rfl
      refine st_callR s (slices_Concat_Lint_int_ok h41 d.dom (d.envAt 0 rfl)) (do_call Tryz.call101 rfl) trivial rfl rfl ?_
      rintro v94 Sv91 w a h92 ⟨p43, k44, c46, rfl, h95, h45⟩ s
      have d := (d.callN h92 h95).addE (e := RowA c46 rv42) h45
      refine h_n [1, 2] [] d rfl rfl fun hC => ?_
      refine h_d [1, 2, 0] [] [0, 1] [] d rfl rfl rfl rfl fun hC => ?_
      refine ho 1 rfl ?_
      refine sv s (y_loadB1 (d.ownAt 3 rfl) rfl Tryz.isAgg3 rfl) rfl fun a s => ?_
      refine h_n [1, 2, 0] [] d rfl rfl fun hC => ?_
      refine gn 4 [4, 5, 13, 14] [] s hC rfl rfl rfl fun a s => ?_
      refine ho 15 rfl ?_
      refine w_store (m := 1) (cs' := (C105 ⟨⟨b1.Segment.Start, b1.Segment.First, b1.Segment.Rate, (min (w64 ((max b1.worst_ r5.Error) + (max b1.off_ rv31))) 1099511627776), b1.Segment.Samples⟩, (max b1.worst_ r5.Error), (max b1.off_ rv31)⟩ p2 k3)) s d 3 rfl rfl rfl Tryz.sizeOf3 rfl rfl rfl rfl trivial ?_
      intro a w s d
      refine h_n [1, 2, 0] [] d rfl rfl fun hC => ?_
      refine gn 2 [16, 17] [] s hC rfl rfl rfl fun a s => ?_
      refine ho 18 rfl ?_
      refine w_store (m := 1) (cs' := (C105 ⟨⟨b1.Segment.Start, b1.Segment.First, b1.Segment.Rate, (min (w64 ((max b1.worst_ r5.Error) + (max b1.off_ rv31))) 1099511627776), rv42⟩, (max b1.worst_ r5.Error), (max b1.off_ rv31)⟩ p43 k44)) s d 3 rfl rfl rfl Tryz.sizeOf22 rfl rfl rfl rfl trivial ?_
      intro a w s d
      refine h_n [1, 2, 0] [] d rfl rfl fun hC => ?_
      refine h_done (by kernel_rfl) ?_
      have d := d.addE (e := SlA (α := Int) none 0 0 []) nil_sl
      exact ⟨Sv91, c46, k44, p43, (s.wk rfl), (d.ft [3, 1, 0] [0, 1] (by decide) rfl rfl)⟩
     exact AllH.nil
    exact AllH.nil
   exact AllH.nil
  refine AllH.cons rfl ?_ ?_
  ·refine sv s (y_loadB1 (d.ownAt 2 rfl) rfl Tryz.isAgg22 rfl) rfl fun a s => ?_
   refine h_n [0, 1] [] d rfl rfl fun hC => ?_
   refine h_all (rs := [1, 3, 11]) (by kernel_rfl) rfl ?_
   refine AllH.cons rfl ?_ ?_
   ·refine sv s (y_loadB1 (d.ownAt 2 rfl) rfl Tryz.isAgg3 rfl) rfl fun a s => ?_
    refine h_n [0, 1] [] d rfl rfl fun hC => ?_
    refine h_all (rs := [3, 11]) (by kernel_rfl) rfl ?_
    refine AllH.cons rfl ?_ ?_
    ·refine sv s (y_loadB1 (d.ownAt 2 rfl) rfl Tryz.isAgg3 rfl) rfl fun a s => ?_
     refine h_n [0, 1] [] d rfl rfl fun hC => ?_
     refine gn 4 [4, 5, 13, 14] [] s hC rfl rfl rfl fun a s => ?_
     refine ho 11 rfl ?_
     refine w_litSlice (α := (List Int)) (vs := [.slice p2 b1.Segment.Samples.length k3, .slice p6 r5.Samples.length k7]) (cs := [.slice p2 b1.Segment.Samples.length k3, .slice p6 r5.Samples.length k7]) (xs := ([b1.Segment.Samples, r5.Samples] : List (List Int))) s d El155 rfl rfl rfl rfl rfl rfl ⟨⟨_, rfl, ⟨_, _, _, rfl, d.envAt 1 rfl⟩⟩, ⟨⟨_, rfl, ⟨_, _, _, rfl, d.envAt 0 rfl⟩⟩, rfl⟩⟩ rfl trivial rfl fun b40 a w s d => ?_
     refine h_n [1, 2] [] d rfl rfl fun hC => ?_
     refine ho 12 rfl ?_
     obtain ⟨Sv96, d⟩ := w_share (α := (List Int)) d 0 rfl 0 rfl
     refine st_callR s (slices_Concat_Lint_int_ok h41 d.dom (d.envAt 0 rfl)) (do_call Tryz.call101 rfl) trivial rfl rfl ?_
     rintro v100 Sv97 w a h98 ⟨p43, k44, c46, rfl, h101, h45⟩ s
     have d := (d.callN h98 h101).addE (e := RowA c46 rv42) h45
     refine h_n [1, 2] [] d rfl rfl fun hC => ?_
     refine h_d [1, 2, 0] [] [0, 1] [] d rfl rfl rfl rfl fun hC => ?_
     refine ho 15 rfl ?_
     refine w_store (m := 1) (cs' := (C105 ⟨⟨b1.Segment.Start, b1.Segment.First, b1.Segment.Rate, (min (w64 ((max b1.worst_ r5.Error) + (max b1.off_ rv31))) 1099511627776), b1.Segment.Samples⟩, (max b1.worst_ r5.Error), (max b1.off_ rv31)⟩ p2 k3)) s d 3 rfl rfl rfl Tryz.sizeOf3 rfl rfl rfl rfl trivial ?_
     intro a w s d
     refine h_n [1, 2, 0] [] d rfl rfl fun hC => ?_
     refine gn 2 [16, 17] [] s hC rfl rfl rfl fun a s => ?_
     refine ho 18 rfl ?_
     refine w_store (m := 1) (cs' := (C105 ⟨⟨b1.Segment.Start, b1.Segment.First, b1.Segment.Rate, (min (w64 ((max b1.worst_ r5.Error) + (max b1.off_ rv31))) 1099511627776), rv42⟩, (max b1.worst_ r5.Error), (max b1.off_ rv31)⟩ p43 k44)) s d 3 rfl rfl rfl Tryz.sizeOf22 rfl rfl rfl rfl trivial ?_
     intro a w s d
     refine h_n [1, 2, 0] [] d rfl rfl fun hC => ?_
     refine h_done (by kernel_rfl) ?_
     have d := d.addE (e := SlA (α := Int) none 0 0 []) nil_sl
     exact ⟨Sv97, c46, k44, p43, (s.wk rfl), (d.ft [3, 1, 0] [0, 1] (by decide) rfl rfl)⟩
    refine AllH.cons rfl ?_ ?_
    ·refine w_litSlice (α := (List Int)) (vs := [.slice p2 b1.Segment.Samples.length k3, .slice p6 r5.Samples.length k7]) (cs := [.slice p2 b1.Segment.Samples.length k3, .slice p6 r5.Samples.length k7]) (xs := ([b1.Segment.Samples, r5.Samples] : List (List Int))) s d El155 rfl rfl rfl rfl rfl rfl ⟨⟨_, rfl, ⟨_, _, _, rfl, d.envAt 1 rfl⟩⟩, ⟨⟨_, rfl, ⟨_, _, _, rfl, d.envAt 0 rfl⟩⟩, rfl⟩⟩ rfl trivial rfl fun b40 a w s d => ?_
     refine h_n [1, 2] [] d rfl rfl fun hC => ?_
     refine h_all (rs := [3, 12]) (by kernel_rfl) rfl ?_
     refine AllH.cons rfl ?_ ?_
     ·refine sv s (y_loadB1 (d.ownAt 3 rfl) rfl Tryz.isAgg3 rfl) rfl fun a s => ?_
      refine h_n [1, 2] [] d rfl rfl fun hC => ?_
      refine gn 4 [4, 5, 13, 14] [] s hC rfl rfl rfl fun a s => ?_
      refine ho 12 rfl ?_
      obtain ⟨Sv102, d⟩ := w_share (α := (List Int)) d 0 rfl 0 rfl
      refine st_callR s (slices_Concat_Lint_int_ok h41 d.dom (d.envAt 0 rfl)) (do_call Tryz.call101 rfl) trivial rfl rfl ?_
      rintro v106 Sv103 w a h104 ⟨p43, k44, c46, rfl, h107, h45⟩ s
      have d := (d.callN h104 h107).addE (e := RowA c46 rv42) h45
      refine h_n [1, 2] [] d rfl rfl fun hC => ?_
      refine h_d [1, 2, 0] [] [0, 1] [] d rfl rfl rfl rfl fun hC => ?_
      refine ho 15 rfl ?_
      refine w_store (m := 1) (cs' := (C105 ⟨⟨b1.Segment.Start, b1.Segment.First, b1.Segment.Rate, (min (w64 ((max b1.worst_ r5.Error) + (max b1.off_ rv31))) 1099511627776), b1.Segment.Samples⟩, (max b1.worst_ r5.Error), (max b1.off_ rv31)⟩ p2 k3)) s d 3 rfl rfl rfl Tryz.sizeOf3 rfl rfl rfl rfl trivial ?_
      intro a w s d
      refine h_n [1, 2, 0] [] d rfl rfl fun hC => ?_
      refine gn 2 [16, 17] [] s hC rfl rfl rfl fun a s => ?_
      refine ho 18 rfl ?_
      refine w_store (m := 1) (cs' := (C105 ⟨⟨b1.Segment.Start, b1.Segment.First, b1.Segment.Rate, (min (w64 ((max b1.worst_ r5.Error) + (max b1.off_ rv31))) 1099511627776), rv42⟩, (max b1.worst_ r5.Error), (max b1.off_ rv31)⟩ p43 k44)) s d 3 rfl rfl rfl Tryz.sizeOf22 rfl rfl rfl rfl trivial ?_
      intro a w s d
      refine h_n [1, 2, 0] [] d rfl rfl fun hC => ?_
      refine h_done (by kernel_rfl) ?_
      have d := d.addE (e := SlA (α := Int) none 0 0 []) nil_sl
      exact ⟨Sv103, c46, k44, p43, (s.wk rfl), (d.ft [3, 1, 0] [0, 1] (by decide) rfl rfl)⟩
     refine AllH.cons rfl ?_ ?_
     ·obtain ⟨Sv108, d⟩ := w_share (α := (List Int)) d 0 rfl 0 rfl
      refine st_callR s (slices_Concat_Lint_int_ok h41 d.dom (d.envAt 0 rfl)) (do_call Tryz.call101 rfl) trivial rfl rfl ?_
      rintro v112 Sv109 w a h110 ⟨p43, k44, c46, rfl, h113, h45⟩ s
      have d := (d.callN h110 h113).addE (e := RowA c46 rv42) h45
      refine h_n [1, 2] [] d rfl rfl fun hC => ?_
      refine h_d [1, 2, 0] [] [0, 1] [] d rfl rfl rfl rfl fun hC => ?_
      refine ho 3 rfl ?_
      refine sv s (y_loadB1 (d.ownAt 3 rfl) rfl Tryz.isAgg3 rfl) rfl fun a s => ?_
      refine h_n [1, 2, 0] [] d rfl rfl fun hC => ?_
      refine gn 4 [4, 5, 13, 14] [] s hC rfl rfl rfl fun a s => ?_
      refine ho 15 rfl ?_
      refine w_store (m := 1) (cs' := (C105 ⟨⟨b1.Segment.Start, b1.Segment.First, b1.Segment.Rate, (min (w64 ((max b1.worst_ r5.Error) + (max b1.off_ rv31))) 1099511627776), b1.Segment.Samples⟩, (max b1.worst_ r5.Error), (max b1.off_ rv31)⟩ p2 k3)) s d 3 rfl rfl rfl Tryz.sizeOf3 rfl rfl rfl rfl trivial ?_
      intro a w s d
      refine h_n [1, 2, 0] [] d rfl rfl fun hC => ?_
      refine gn 2 [16, 17] [] s hC rfl rfl rfl fun a s => ?_
      refine ho 18 rfl ?_
      refine w_store (m := 1) (cs' := (C105 ⟨⟨b1.Segment.Start, b1.Segment.First, b1.Segment.Rate, (min (w64 ((max b1.worst_ r5.Error) + (max b1.off_ rv31))) 1099511627776), rv42⟩, (max b1.worst_ r5.Error), (max b1.off_ rv31)⟩ p43 k44)) s d 3 rfl rfl rfl Tryz.sizeOf22 rfl rfl rfl rfl trivial ?_
      intro a w s d
      refine h_n [1, 2, 0] [] d rfl rfl fun hC => ?_
      refine h_done (by kernel_rfl) ?_
      have d := d.addE (e := SlA (α := Int) none 0 0 []) nil_sl
      exact ⟨Sv109, c46, k44, p43, (s.wk rfl), (d.ft [3, 1, 0] [0, 1] (by decide) rfl rfl)⟩
     exact AllH.nil
    exact AllH.nil
   refine AllH.cons rfl ?_ ?_
   ·refine sv s (y_loadB1 (d.ownAt 2 rfl) rfl Tryz.isAgg3 rfl) rfl fun a s => ?_
    refine h_n [0, 1] [] d rfl rfl fun hC => ?_
    refine h_all (rs := [1, 11]) (by kernel_rfl) rfl ?_
    refine AllH.cons rfl ?_ ?_
    ·refine sv s (y_loadB1 (d.ownAt 2 rfl) rfl Tryz.isAgg3 rfl) rfl fun a s => ?_
     refine h_n [0, 1] [] d rfl rfl fun hC => ?_
     refine gn 4 [4, 5, 13, 14] [] s hC rfl rfl rfl fun a s => ?_
     refine ho 11 rfl ?_
     refine w_litSlice (α := (List Int)) (vs := [.slice p2 b1.Segment.Samples.length k3, .slice p6 r5.Samples.length k7]) (cs := [.slice p2 b1.Segment.Samples.length k3, .slice p6 r5.Samples.length k7]) (xs := ([b1.Segment.Samples, r5.Samples] : List (List Int))) s d El155 rfl rfl rfl rfl rfl rfl ⟨⟨_, rfl, ⟨_, _, _, rfl, d.envAt 1 rfl⟩⟩, ⟨⟨_, rfl, ⟨_, _, _, rfl, d.envAt 0 rfl⟩⟩, rfl⟩⟩ rfl trivial rfl fun b40 a w s d => ?_
     refine h_n [1, 2] [] d rfl rfl fun hC => ?_
     refine ho 12 rfl ?_
     obtain ⟨Sv114, d⟩ := w_share (α := (List Int)) d 0 rfl 0 rfl
     refine st_callR s (slices_Concat_Lint_int_ok h41 d.dom (d.envAt 0 rfl)) (do_call Tryz.call101 rfl) trivial rfl rfl ?_
     rintro v118 Sv115 w a h116 ⟨p43, k44, c46, rfl, h119, h45⟩ s
     have d := (d.callN h116 h119).addE (e := RowA c46 rv42) h45
     refine h_n [1, 2] [] d rfl rfl fun hC => ?_
     refine h_d [1, 2, 0] [] [0, 1] [] d rfl rfl rfl rfl fun hC => ?_
     refine ho 15 rfl ?_
     refine w_store (m := 1) (cs' := (C105 ⟨⟨b1.Segment.Start, b1.Segment.First, b1.Segment.Rate, (min (w64 ((max b1.worst_ r5.Error) + (max b1.off_ rv31))) 1099511627776), b1.Segment.Samples⟩, (max b1.worst_ r5.Error), (max b1.off_ rv31)⟩ p2 k3)) s d 3 rfl rfl rfl Tryz.sizeOf3 rfl rfl rfl rfl trivial ?_
     intro a w s d
     refine h_n [1, 2, 0] [] d rfl rfl fun hC => ?_
     refine gn 2 [16, 17] [] s hC rfl rfl rfl fun a s => ?_
     refine ho 18 rfl ?_
     refine w_store (m := 1) (cs' := (C105 ⟨⟨b1.Segment.Start, b1.Segment.First, b1.Segment.Rate, (min (w64 ((max b1.worst_ r5.Error) + (max b1.off_ rv31))) 1099511627776), rv42⟩, (max b1.worst_ r5.Error), (max b1.off_ rv31)⟩ p43 k44)) s d 3 rfl rfl rfl Tryz.sizeOf22 rfl rfl rfl rfl trivial ?_
     intro a w s d
     refine h_n [1, 2, 0] [] d rfl rfl fun hC => ?_
     refine h_done (by kernel_rfl) ?_
     have d := d.addE (e := SlA (α := Int) none 0 0 []) nil_sl
     exact ⟨Sv115, c46, k44, p43, (s.wk rfl), (d.ft [3, 1, 0] [0, 1] (by decide) rfl rfl)⟩
    refine AllH.cons rfl ?_ ?_
    ·refine w_litSlice (α := (List Int)) (vs := [.slice p2 b1.Segment.Samples.length k3, .slice p6 r5.Samples.length k7]) (cs := [.slice p2 b1.Segment.Samples.length k3, .slice p6 r5.Samples.length k7]) (xs := ([b1.Segment.Samples, r5.Samples] : List (List Int))) s d El155 rfl rfl rfl rfl rfl rfl ⟨⟨_, rfl, ⟨_, _, _, rfl, d.envAt 1 rfl⟩⟩, ⟨⟨_, rfl, ⟨_, _, _, rfl, d.envAt 0 rfl⟩⟩, rfl⟩⟩ rfl trivial rfl fun b40 a w s d => ?_
     refine h_n [1, 2] [] d rfl rfl fun hC => ?_
     refine h_all (rs := [1, 12]) (by kernel_rfl) rfl ?_
     refine AllH.cons rfl ?_ ?_
     ·refine sv s (y_loadB1 (d.ownAt 3 rfl) rfl Tryz.isAgg3 rfl) rfl fun a s => ?_
      refine h_n [1, 2] [] d rfl rfl fun hC => ?_
      refine gn 4 [4, 5, 13, 14] [] s hC rfl rfl rfl fun a s => ?_
      refine ho 12 rfl ?_
      obtain ⟨Sv120, d⟩ := w_share (α := (List Int)) d 0 rfl 0 rfl
      refine st_callR s (slices_Concat_Lint_int_ok h41 d.dom (d.envAt 0 rfl)) (do_call Tryz.call101 rfl) trivial rfl rfl ?_
      rintro v124 Sv121 w a h122 ⟨p43, k44, c46, rfl, h125, h45⟩ s
      have d := (d.callN h122 h125).addE (e := RowA c46 rv42) h45
      refine h_n [1, 2] [] d rfl rfl fun hC => ?_
      refine h_d [1, 2, 0] [] [0, 1] [] d rfl rfl rfl rfl fun hC => ?_
      refine ho 15 rfl ?_
      refine w_store (m := 1) (cs' := (C105 ⟨⟨b1.Segment.Start, b1.Segment.First, b1.Segment.Rate, (min (w64 ((max b1.worst_ r5.Error) + (max b1.off_ rv31))) 1099511627776), b1.Segment.Samples⟩, (max b1.worst_ r5.Error), (max b1.off_ rv31)⟩ p2 k3)) s d 3 rfl rfl rfl Tryz.sizeOf3 rfl rfl rfl rfl trivial ?_
      intro a w s d
      refine h_n [1, 2, 0] [] d rfl rfl fun hC => ?_
      refine gn 2 [16, 17] [] s hC rfl rfl rfl fun a s => ?_
      refine ho 18 rfl ?_
      refine w_store (m := 1) (cs' := (C105 ⟨⟨b1.Segment.Start, b1.Segment.First, b1.Segment.Rate, (min (w64 ((max b1.worst_ r5.Error) + (max b1.off_ rv31))) 1099511627776), rv42⟩, (max b1.worst_ r5.Error), (max b1.off_ rv31)⟩ p43 k44)) s d 3 rfl rfl rfl Tryz.sizeOf22 rfl rfl rfl rfl trivial ?_
      intro a w s d
      refine h_n [1, 2, 0] [] d rfl rfl fun hC => ?_
      refine h_done (by kernel_rfl) ?_
      have d := d.addE (e := SlA (α := Int) none 0 0 []) nil_sl
      exact ⟨Sv121, c46, k44, p43, (s.wk rfl), (d.ft [3, 1, 0] [0, 1] (by decide) rfl rfl)⟩
     refine AllH.cons rfl ?_ ?_
     ·obtain ⟨Sv126, d⟩ := w_share (α := (List Int)) d 0 rfl 0 rfl
      refine st_callR s (slices_Concat_Lint_int_ok h41 d.dom (d.envAt 0 rfl)) (do_call Tryz.call101 rfl) trivial rfl rfl ?_
      rintro v130 Sv127 w a h128 ⟨p43, k44, c46, rfl, h131, h45⟩ s
      have d := (d.callN h128 h131).addE (e := RowA c46 rv42) h45
      refine h_n [1, 2] [] d rfl rfl fun hC => ?_
      refine h_d [1, 2, 0] [] [0, 1] [] d rfl rfl rfl rfl fun hC => ?_
      refine ho 1 rfl ?_
      refine sv s (y_loadB1 (d.ownAt 3 rfl) rfl Tryz.isAgg3 rfl) rfl fun a s => ?_
      refine h_n [1, 2, 0] [] d rfl rfl fun hC => ?_
      refine gn 4 [4, 5, 13, 14] [] s hC rfl rfl rfl fun a s => ?_
      refine ho 15 rfl ?_
      refine w_store (m := 1) (cs' := (C105 ⟨⟨b1.Segment.Start, b1.Segment.First, b1.Segment.Rate, (min (w64 ((max b1.worst_ r5.Error) + (max b1.off_ rv31))) 1099511627776), b1.Segment.Samples⟩, (max b1.worst_ r5.Error), (max b1.off_ rv31)⟩ p2 k3)) s d 3 rfl rfl rfl Tryz.sizeOf3 rfl rfl rfl rfl trivial ?_
      intro a w s d
      refine h_n [1, 2, 0] [] d rfl rfl fun hC => ?_
      refine gn 2 [16, 17] [] s hC rfl rfl rfl fun a s => ?_
      refine ho 18 rfl ?_
      refine w_store (m := 1) (cs' := (C105 ⟨⟨b1.Segment.Start, b1.Segment.First, b1.Segment.Rate, (min (w64 ((max b1.worst_ r5.Error) + (max b1.off_ rv31))) 1099511627776), rv42⟩, (max b1.worst_ r5.Error), (max b1.off_ rv31)⟩ p43 k44)) s d 3 rfl rfl rfl Tryz.sizeOf22 rfl rfl rfl rfl trivial ?_
      intro a w s d
      refine h_n [1, 2, 0] [] d rfl rfl fun hC => ?_
      refine h_done (by kernel_rfl) ?_
      have d := d.addE (e := SlA (α := Int) none 0 0 []) nil_sl
      exact ⟨Sv127, c46, k44, p43, (s.wk rfl), (d.ft [3, 1, 0] [0, 1] (by decide) rfl rfl)⟩
     exact AllH.nil
    exact AllH.nil
   refine AllH.cons rfl ?_ ?_
   ·refine w_litSlice (α := (List Int)) (vs := [.slice p2 b1.Segment.Samples.length k3, .slice p6 r5.Samples.length k7]) (cs := [.slice p2 b1.Segment.Samples.length k3, .slice p6 r5.Samples.length k7]) (xs := ([b1.Segment.Samples, r5.Samples] : List (List Int))) s d El155 rfl rfl rfl rfl rfl rfl ⟨⟨_, rfl, ⟨_, _, _, rfl, d.envAt 1 rfl⟩⟩, ⟨⟨_, rfl, ⟨_, _, _, rfl, d.envAt 0 rfl⟩⟩, rfl⟩⟩ rfl trivial rfl fun b40 a w s d => ?_
    refine h_n [1, 2] [] d rfl rfl fun hC => ?_
    refine h_all (rs := [1, 3, 12]) (by kernel_rfl) rfl ?_
    refine AllH.cons rfl ?_ ?_
    ·refine sv s (y_loadB1 (d.ownAt 3 rfl) rfl Tryz.isAgg3 rfl) rfl fun a s => ?_
     refine h_n [1, 2] [] d rfl rfl fun hC => ?_
     refine h_all (rs := [3, 12]) (by kernel_rfl) rfl ?_
     refine AllH.cons rfl ?_ ?_
     ·refine sv s (y_loadB1 (d.ownAt 3 rfl) rfl Tryz.isAgg3 rfl) rfl fun a s => ?_
      refine h_n [1, 2] [] d rfl rfl fun hC => ?_
      refine gn 4 [4, 5, 13, 14] [] s hC rfl rfl rfl fun a s => ?_
      refine ho 12 rfl ?_
      obtain ⟨Sv132, d⟩ := w_share (α := (List Int)) d 0 rfl 0 rfl
      refine st_callR s (slices_Concat_Lint_int_ok h41 d.dom (d.envAt 0 rfl)) (do_call Tryz.call101 rfl) trivial rfl rfl ?_
      rintro v136 Sv133 w a h134 ⟨p43, k44, c46, rfl, h137, h45⟩ s
      have d := (d.callN h134 h137).addE (e := RowA c46 rv42) h45
      refine h_n [1, 2] [] d rfl rfl fun hC => ?_
      refine h_d [1, 2, 0] [] [0, 1] [] d rfl rfl rfl rfl fun hC => ?_
      refine ho 15 rfl ?_
      refine w_store (m := 1) (cs' := (C105 ⟨⟨b1.Segment.Start, b1.Segment.First, b1.Segment.Rate, (min (w64 ((max b1.worst_ r5.Error) + (max b1.off_ rv31))) 1099511627776), b1.Segment.Samples⟩, (max b1.worst_ r5.Error), (max b1.off_ rv31)⟩ p2 k3)) s d 3 rfl rfl rfl Tryz.sizeOf3 rfl rfl rfl rfl trivial ?_
      intro a w s d
      refine h_n [1, 2, 0] [] d rfl rfl fun hC => ?_
      refine gn 2 [16, 17] [] s hC rfl rfl rfl fun a s => ?_
      refine ho 18 rfl ?_
      refine w_store (m := 1) (cs' := (C105 ⟨⟨b1.Segment.Start, b1.Segment.First, b1.Segment.Rate, (min (w64 ((max b1.worst_ r5.Error) + (max b1.off_ rv31))) 1099511627776), rv42⟩, (max b1.worst_ r5.Error), (max b1.off_ rv31)⟩ p43 k44)) s d 3 rfl rfl rfl Tryz.sizeOf22 rfl rfl rfl rfl trivial ?_
      intro a w s d
      refine h_n [1, 2, 0] [] d rfl rfl fun hC => ?_
      refine h_done (by kernel_rfl) ?_
      have d := d.addE (e := SlA (α := Int) none 0 0 []) nil_sl
      exact ⟨Sv133, c46, k44, p43, (s.wk rfl), (d.ft [3, 1, 0] [0, 1] (by decide) rfl rfl)⟩
     refine AllH.cons rfl ?_ ?_
     ·obtain ⟨Sv138, d⟩ := w_share (α := (List Int)) d 0 rfl 0 rfl
      refine st_callR s (slices_Concat_Lint_int_ok h41 d.dom (d.envAt 0 rfl)) (do_call Tryz.call101 rfl) trivial rfl rfl ?_
      rintro v142 Sv139 w a h140 ⟨p43, k44, c46, rfl, h143, h45⟩ s
      have d := (d.callN h140 h143).addE (e := RowA c46 rv42) h45
      refine h_n [1, 2] [] d rfl rfl fun hC => ?_
      refine h_d [1, 2, 0] [] [0, 1] [] d rfl rfl rfl rfl fun hC => ?_
      refine ho 3 rfl ?_
      refine sv s (y_loadB1 (d.ownAt 3 rfl) rfl Tryz.isAgg3 rfl) rfl fun a s => ?_
      refine h_n [1, 2, 0] [] d rfl rfl fun hC => ?_
      refine gn 4 [4, 5, 13, 14] [] s hC rfl rfl rfl fun a s => ?_
      refine ho 15 rfl ?_
      refine w_store (m := 1) (cs' := (C105 ⟨⟨b1.Segment.Start, b1.Segment.First, b1.Segment.Rate, (min (w64 ((max b1.worst_ r5.Error) + (max b1.off_ rv31))) 1099511627776), b1.Segment.Samples⟩, (max b1.worst_ r5.Error), (max b1.off_ rv31)⟩ p2 k3)) s d 3 rfl rfl rfl Tryz.sizeOf3 rfl rfl rfl rfl trivial ?_
      intro a w s d
      refine h_n [1, 2, 0] [] d rfl rfl fun hC => ?_
      refine gn 2 [16, 17] [] s hC rfl rfl rfl fun a s => ?_
      refine ho 18 rfl ?_
      refine w_store (m := 1) (cs' := (C105 ⟨⟨b1.Segment.Start, b1.Segment.First, b1.Segment.Rate, (min (w64 ((max b1.worst_ r5.Error) + (max b1.off_ rv31))) 1099511627776), rv42⟩, (max b1.worst_ r5.Error), (max b1.off_ rv31)⟩ p43 k44)) s d 3 rfl rfl rfl Tryz.sizeOf22 rfl rfl rfl rfl trivial ?_
      intro a w s d
      refine h_n [1, 2, 0] [] d rfl rfl fun hC => ?_
      refine h_done (by kernel_rfl) ?_
      have d := d.addE (e := SlA (α := Int) none 0 0 []) nil_sl
      exact ⟨Sv139, c46, k44, p43, (s.wk rfl), (d.ft [3, 1, 0] [0, 1] (by decide) rfl rfl)⟩
     exact AllH.nil
    refine AllH.cons rfl ?_ ?_
    ·refine sv s (y_loadB1 (d.ownAt 3 rfl) rfl Tryz.isAgg3 rfl) rfl fun a s => ?_
     refine h_n [1, 2] [] d rfl rfl fun hC => ?_
     refine h_all (rs := [1, 12]) (by kernel_rfl) rfl ?_
     refine AllH.cons rfl ?_ ?_
     ·refine sv s (y_loadB1 (d.ownAt 3 rfl) rfl Tryz.isAgg3 rfl) rfl fun a s => ?_
      refine h_n [1, 2] [] d rfl rfl fun hC => ?_
      refine gn 4 [4, 5, 13, 14] [] s hC rfl rfl rfl fun a s => ?_
      refine ho 12 rfl ?_
      obtain ⟨Sv144, d⟩ := w_share (α := (List Int)) d 0 rfl 0 rfl
      refine st_callR s (slices_Concat_Lint_int_ok h41 d.dom (d.envAt 0 rfl)) (do_call Tryz.call101 rfl) trivial rfl rfl ?_
      rintro v148 Sv145 w a h146 ⟨p43, k44, c46, rfl, h149, h45⟩ s
      have d := (d.callN h146 h149).addE (e := RowA c46 rv42) h45
      refine h_n [1, 2] [] d rfl rfl fun hC => ?_
      refine h_d [1, 2, 0] [] [0, 1] [] d rfl rfl rfl rfl fun hC => ?_
      refine ho 15 rfl ?_
      refine w_store (m := 1) (cs' := (C105 ⟨⟨b1.Segment.Start, b1.Segment.First, b1.Segment.Rate, (min (w64 ((max b1.worst_ r5.Error) + (max b1.off_ rv31))) 1099511627776), b1.Segment.Samples⟩, (max b1.worst_ r5.Error), (max b1.off_ rv31)⟩ p2 k3)) s d 3 rfl rfl rfl Tryz.sizeOf3 rfl rfl rfl rfl trivial ?_
      intro a w s d
      refine h_n [1, 2, 0] [] d rfl rfl fun hC => ?_
      refine gn 2 [16, 17] [] s hC rfl rfl rfl fun a s => ?_
      refine ho 18 rfl ?_
      refine w_store (m := 1) (cs' := (C105 ⟨⟨b1.Segment.Start, b1.Segment.First, b1.Segment.Rate, (min (w64 ((max b1.worst_ r5.Error) + (max b1.off_ rv31))) 1099511627776), rv42⟩, (max b1.worst_ r5.Error), (max b1.off_ rv31)⟩ p43 k44)) s d 3 rfl rfl rfl Tryz.sizeOf22 rfl rfl rfl rfl trivial ?_
      intro a w s d
      refine h_n [1, 2, 0] [] d rfl rfl fun hC => ?_
      refine h_done (by kernel_rfl) ?_
      have d := d.addE (e := SlA (α := Int) none 0 0 []) nil_sl
      exact ⟨Sv145, c46, k44, p43, (s.wk rfl), (d.ft [3, 1, 0] [0, 1] (by decide) rfl rfl)⟩
     refine AllH.cons rfl ?_ ?_
     ·obtain ⟨Sv150, d⟩ := w_share (α := (List Int)) d 0 rfl 0 rfl
      refine st_callR s (slices_Concat_Lint_int_ok h41 d.dom (d.envAt 0 rfl)) (do_call Tryz.call101 rfl) trivial rfl rfl ?_
      rintro v154 Sv151 w a h152 ⟨p43, k44, c46, rfl, h155, h45⟩ s
      have d := (d.callN h152 h155).addE (e := RowA c46 rv42) h45
      refine h_n [1, 2] [] d rfl rfl fun hC => ?_
      refine h_d [1, 2, 0] [] [0, 1] [] d rfl rfl rfl rfl fun hC => ?_
      refine ho 1 rfl ?_
      refine sv s (y_loadB1 (d.ownAt 3 rfl) rfl Tryz.isAgg3 rfl) rfl fun a s => ?_
      refine h_n [1, 2, 0] [] d rfl rfl fun hC => ?_
      refine gn 4 [4, 5, 13, 14] [] s hC rfl rfl rfl fun a s => ?_
      refine ho 15 rfl ?_
      refine w_store (m := 1) (cs' := (C105 ⟨⟨b1.Segment.Start, b1.Segment.First, b1.Segment.Rate, (min (w64 ((max b1.worst_ r5.Error) + (max b1.off_ rv31))) 1099511627776), b1.Segment.Samples⟩, (max b1.worst_ r5.Error), (max b1.off_ rv31)⟩ p2 k3)) s d 3 rfl rfl rfl Tryz.sizeOf3 rfl rfl rfl rfl trivial ?_
      intro a w s d
      refine h_n [1, 2, 0] [] d rfl rfl fun hC => ?_
      refine gn 2 [16, 17] [] s hC rfl rfl rfl fun a s => ?_
      refine ho 18 rfl ?_
      refine w_store (m := 1) (cs' := (C105 ⟨⟨b1.Segment.Start, b1.Segment.First, b1.Segment.Rate, (min (w64 ((max b1.worst_ r5.Error) + (max b1.off_ rv31))) 1099511627776), rv42⟩, (max b1.worst_ r5.Error), (max b1.off_ rv31)⟩ p43 k44)) s d 3 rfl rfl rfl Tryz.sizeOf22 rfl rfl rfl rfl trivial ?_
      intro a w s d
      refine h_n [1, 2, 0] [] d rfl rfl fun hC => ?_
      refine h_done (by kernel_rfl) ?_
      have d := d.addE (e := SlA (α := Int) none 0 0 []) nil_sl
      exact ⟨Sv151, c46, k44, p43, (s.wk rfl), (d.ft [3, 1, 0] [0, 1] (by decide) rfl rfl)⟩
     exact AllH.nil
    refine AllH.cons rfl ?_ ?_
    ·obtain ⟨Sv156, d⟩ := w_share (α := (List Int)) d 0 rfl 0 rfl
     refine st_callR s (slices_Concat_Lint_int_ok h41 d.dom (d.envAt 0 rfl)) (do_call Tryz.call101 rfl) trivial rfl rfl ?_
     rintro v160 Sv157 w a h158 ⟨p43, k44, c46, rfl, h161, h45⟩ s
     have d := (d.callN h158 h161).addE (e := RowA c46 rv42) h45
     refine h_n [1, 2] [] d rfl rfl fun hC => ?_
     refine h_d [1, 2, 0] [] [0, 1] [] d rfl rfl rfl rfl fun hC => ?_
     refine h_all (rs := [1, 3]) (by kernel_rfl) rfl ?_
     refine AllH.cons rfl ?_ ?_
     ·refine sv s (y_loadB1 (d.ownAt 3 rfl) rfl Tryz.isAgg3 rfl) rfl fun a s => ?_
      refine h_n [1, 2, 0] [] d rfl rfl fun hC => ?_
      refine ho 3 rfl ?_
      refine sv s (y_loadB1 (d.ownAt 3 rfl) rfl Tryz.isAgg3 rfl) rfl fun a s => ?_
      refine h_n [1, 2, 0] [] d rfl rfl fun hC => ?_
      refine gn 4 [4, 5, 13, 14] [] s hC rfl rfl rfl fun a s => ?_
      refine ho 15 rfl ?_
      refine w_store (m := 1) (cs' := (C105 ⟨⟨b1.Segment.Start, b1.Segment.First, b1.Segment.Rate, (min (w64 ((max b1.worst_ r5.Error) + (max b1.off_ rv31))) 1099511627776), b1.Segment.Samples⟩, (max b1.worst_ r5.Error), (max b1.off_ rv31)⟩ p2 k3)) s d 3 rfl rfl rfl Tryz.sizeOf3 rfl rfl rfl rfl trivial ?_
      intro a w s d
      refine h_n [1, 2, 0] [] d rfl rfl fun hC => ?_
      refine gn 2 [16, 17] [] s hC rfl rfl rfl fun a s => ?_
      refine ho 18 rfl ?_
      refine w_store (m := 1) (cs' := (C105 ⟨⟨b1.Segment.Start, b1.Segment.First, b1.Segment.Rate, (min (w64 ((max b1.worst_ r5.Error) + (max b1.off_ rv31))) 1099511627776), rv42⟩, (max b1.worst_ r5.Error), (max b1.off_ rv31)⟩ p43 k44)) s d 3 rfl rfl rfl Tryz.sizeOf22 rfl rfl rfl rfl trivial ?_
      intro a w s d
      refine h_n [1, 2, 0] [] d rfl rfl fun hC => ?_
      refine h_done (by kernel_rfl) ?_
      have d := d.addE (e := SlA (α := Int) none 0 0 []) nil_sl
      exact ⟨Sv157, c46, k44, p43, (s.wk rfl), (d.ft [3, 1, 0] [0, 1] (by decide) rfl rfl)⟩
     refine AllH.cons rfl ?_ ?_
     ·refine sv s (y_loadB1 (d.ownAt 3 rfl) rfl Tryz.isAgg3 rfl) rfl fun a s => ?_
      refine h_n [1, 2, 0] [] d rfl rfl fun hC => ?_
      refine ho 1 rfl ?_
      refine sv s (y_loadB1 (d.ownAt 3 rfl) rfl Tryz.isAgg3 rfl) rfl fun a s => ?_
      refine h_n [1, 2, 0] [] d rfl rfl fun hC => ?_
      refine gn 4 [4, 5, 13, 14] [] s hC rfl rfl rfl fun a s => ?_
      refine ho 15 rfl ?_
      refine w_store (m := 1) (cs' := (C105 ⟨⟨b1.Segment.Start, b1.Segment.First, b1.Segment.Rate, (min (w64 ((max b1.worst_ r5.Error) + (max b1.off_ rv31))) 1099511627776), b1.Segment.Samples⟩, (max b1.worst_ r5.Error), (max b1.off_ rv31)⟩ p2 k3)) s d 3 rfl rfl rfl Tryz.sizeOf3 rfl rfl rfl rfl trivial ?_
      intro a w s d
      refine h_n [1, 2, 0] [] d rfl rfl fun hC => ?_
      refine gn 2 [16, 17] [] s hC rfl rfl rfl fun a s => ?_
      refine ho 18 rfl ?_
      refine w_store (m := 1) (cs' := (C105 ⟨⟨b1.Segment.Start, b1.Segment.First, b1.Segment.Rate, (min (w64 ((max b1.worst_ r5.Error) + (max b1.off_ rv31))) 1099511627776), rv42⟩, (max b1.worst_ r5.Error), (max b1.off_ rv31)⟩ p43 k44)) s d 3 rfl rfl rfl Tryz.sizeOf22 rfl rfl rfl rfl trivial ?_
      intro a w s d
      refine h_n [1, 2, 0] [] d rfl rfl fun hC => ?_
      refine h_done (by kernel_rfl) ?_
      have d := d.addE (e := SlA (α := Int) none 0 0 []) nil_sl
      exact ⟨Sv157, c46, k44, p43, (s.wk rfl), (d.ft [3, 1, 0] [0, 1] (by decide) rfl rfl)⟩
     exact AllH.nil
    exact AllH.nil
   exact AllH.nil
  exact AllH.nil
 rintro a w ⟨Sv47, c46, k44, p43, s, d⟩
 refine then_normal (wp_seq ?_)
 obtain ⟨rv163, h162, u⟩ := bind_t u
 refine wp_only (fun a w => ∃ Sv164, Sl 84 [(6, .pointer (some ⟨b12, 0, none⟩)), (7, .bool rv163)] a ∧ Wd ⟨w0, S0, []⟩ Sv164 [.box b12 (C105 ⟨⟨b1.Segment.Start, b1.Segment.First, b1.Segment.Rate, (min (w64 ((max b1.worst_ r5.Error) + (max b1.off_ rv31))) 1099511627776), rv42⟩, (max b1.worst_ r5.Error), (max b1.off_ rv31)⟩ p43 k44) 105, .row p43 rv42.length k44 c46 3 1] [RowA c46 rv42] w) ?_ ?_
 ·refine h_c [0, 2] [] d rfl rfl (by kernel_rfl) rfl fun hC d => ?_
  refine gn 3 [0, 1, 2] [0, 0] s hC rfl rfl rfl fun a s => ?_
  refine ho 3 rfl ?_
  refine st_callR s (continuity_ValidSegment_ok h162 d.bdom (d.bRow 2 rfl 1 rfl)) (do_call Tryz.call45 rfl) trivial rfl rfl ?_
  rintro v168 Sv165 w a h166 rfl s
  have d := d.callB h166
  refine h_n [0, 2] [] d rfl rfl fun hC => ?_
  refine ho 4 rfl ?_
  refine w_store (m := 8) (cs' := (C105 ⟨⟨b1.Segment.Start, b1.Segment.First, b1.Segment.Rate, (min (w64 ((max b1.worst_ r5.Error) + (max b1.off_ rv31))) 1099511627776), rv42⟩, (max b1.worst_ r5.Error), (max b1.off_ rv31)⟩ p43 k44)) s d 1 rfl rfl rfl Tryz.sizeOf105 rfl rfl rfl rfl trivial ?_
  intro a w s d
  refine h_n [0, 2] [] d rfl rfl fun hC => ?_
  refine gv s 5 rfl rfl hC (fun w hC => y_assign rfl) fun a s => ?_
  refine h_done (by kernel_rfl) ?_
  exact ⟨Sv47, (s.wk rfl), (d.ft [1, 2] [1] (by decide) rfl rfl)⟩
 rintro a w ⟨Sv164, s, d⟩
 refine then_normal ?_
 have u := oi u
 subst u
 obtain ⟨Sv170, d⟩ := w_share (α := Int) d 1 rfl 0 rfl
 exact wp_ret (ret2 s rfl (rv_cell d 0 rfl rfl Tryz.isAgg105 Tryz.sizeOf105 rfl) (rv_tmp rfl) (d.ret ⟨p43, k44, rfl, (d.envAt 0 rfl)⟩))
abbrev continuity_Segments_rd (w0 : World) (X : List Nat) (r : ((List Segment) × Int)) : Rd := fun S w v => ∃ p0_0 k0_0 c0_0, v = .tuple #[.slice p0_0 r.1.length k0_0, .int .i64 r.2] ∧ Outs X w0 S w [.row p0_0 r.1.length k0_0 c0_0 64 6] ∧ (RowA c0_0 r.1).p S w
theorem continuity_Segments_ok {w0 S0 p2 k3 l1 tolerance5 r} (u : continuity_Segments l1 tolerance5 = some r) (hS : Dm S0 w0) (h4 : (SlA p2 l1.length k3 l1).p S0 w0) : Calls Tryz.prog 25 #[.slice p2 l1.length k3, .int .i64 tolerance5] w0 (Ret ([]) w0 S0 (continuity_Segments_rd w0 ([]) r)) := by
 refine en 69 Tryz.func25 rfl hS rfl rfl rfl fun a s d => ?_
 have d := d.addE h4
 delta continuity_Segments at u
 refine sz 2 [] s d rfl rfl fun a s => ?_
 refine sn 1 [] s d rfl rfl fun a s => ?_
 obtain ⟨rv7, h6, u⟩ := bind_t u
 refine st_callR s (compose_Compose_ok h6 d.dom (d.envAt 0 rfl)) (do_call Tryz.call63 rfl) trivial rfl rfl ?_
 rintro v15 Sv12 w a h13 ⟨p8, k9, c11, rfl, h16, h10⟩ s
 have d := (d.callN h13 h16).addE (e := RowA c11 rv7.1) h10
 refine rz 5 [] s d rfl rfl fun a s => ?_
 refine wp_seq (sz 2 [] s d rfl rfl fun a s => ?_)
 refine cd s u rfl (fun u => ?_) fun u => ?_
 ·refine sz 3 [] s d rfl rfl fun a s => ?_
  have u := oi u
  subst u
  have d := d.nilRow Segment 64
  exact wp_ret (then_ret (ret2 s rfl (rv_tmp rfl) (rv_tmp rfl) (d.ret ⟨none, 0, [], rfl, (d.outs [0] (by decide) rfl), (d.envAt 0 rfl)⟩)))
 refine wp_skip (then_normal (wp_seq (sn 1 [] s d rfl rfl fun a s => ?_)))
 obtain ⟨rv20, h19, u⟩ := bind_t u
 refine st_callR s (continuity_in_ok h19 d.bdom) (do_call Tryz.call64 rfl) trivial rfl rfl ?_
 rintro v24 Sv21 w a h22 rfl s
 have d := d.callB h22
 refine rz 1 [] s d rfl rfl fun a s => ?_
 refine cd s u rfl (fun u => ?_) fun u => ?_
 ·refine sz 2 [] s d rfl rfl fun a s => ?_
  have u := oi u
  subst u
  have d := d.nilRow Segment 64
  exact wp_ret (then_ret (ret2 s rfl (rv_tmp rfl) (rv_tmp rfl) (d.ret ⟨none, 0, [], rfl, (d.outs [0] (by decide) rfl), (d.envAt 0 rfl)⟩)))
 refine wp_skip (then_normal (sz 1 [] s d rfl rfl fun a s => ?_))
 refine sr (w_alloc (cs := Z8) s d Tryz.zeroValue105 rfl rfl trivial ?_)
 intro b28 a w s d
 refine nl (wp_seq (sz 3 [] s d rfl rfl fun a s => ?_))
 obtain ⟨e360, h542, u⟩ := bind_t u
 refine wp_join (fun a w => ∃ c361 p362 k363 Sv364, Sl 69 [(8, .slice p362 e360.length k363)] a ∧ Wd ⟨w0, S0, []⟩ Sv364 [.row p362 e360.length k363 c361 64 6] [RowA c361 e360] w) ?_ ?_
 ·refine wp_block ?_
  have d := (d.nilRow Segment 64).addE (e := SlA (α := Int) none 0 0 []) nil_sl
  refine wp_while (fun sv29 a w => ∃ p269 k270 c271 p272 k273 Sv274, Sl 69 [(1, .int .i64 tolerance5), (8, .slice p272 sv29.2.2.2.2.2.2.2.2.1.length k273), (9, .pointer (some ⟨b28, 0, none⟩)), (25, .slice p8 rv7.1.length k9), (26, .int .i64 (rv7.1.length : Int)), (27, .int .i64 sv29.2.2.2.2.2.2.2.2.2)] a ∧ Wd ⟨w0, S0, []⟩ Sv274 [.box b28 [.int .i64 sv29.1, .int .i64 sv29.2.1, .int .i64 sv29.2.2.1, .int .i64 sv29.2.2.2.1, .int .i64 sv29.2.2.2.2.1, .slice p269 sv29.2.2.2.2.2.1.length k270, .int .i64 sv29.2.2.2.2.2.2.1, .int .i64 sv29.2.2.2.2.2.2.2.1] 105, .row p272 sv29.2.2.2.2.2.2.2.2.1.length k273 c271 64 6, .row p8 rv7.1.length k9 c11 56 12] [SlA p269 sv29.2.2.2.2.2.1.length k270 sv29.2.2.2.2.2.1, RowA c271 sv29.2.2.2.2.2.2.2.2.1, RowA c11 rv7.1] w) (0, 0, 0, 0, 0, ([] : List Int), 0, 0, ([] : List Segment), 0) h542 ⟨none, 0, [], none, 0, Sv12, (s.wk rfl), (d.ft [1, 0, 2] [0, 1, 2] (by decide) rfl rfl)⟩ ?_
  clear h542
  repeat clear u
  rintro sv29 a w tv358 ⟨p269, k270, c271, p272, k273, Sv274, s, d⟩ u hd357
  delta continuity_Segments_l1 at u
  refine sz 1 [] s d rfl rfl fun a s => ?_
  refine wp_seq (cd s u rfl (fun u => ?_) fun u => ?_)
  ·refine wp_skip (then_normal (wp_seq (wp_join (fun a w => ∃ (x439 : Int) (x440 : Int) (x441 : Int) (x442 : Int) (x443 : Int) (x444 : (List Int)) (x445 : Int) (x446 : Int) (out447 : (List Segment)) (p433 k434 c435 p436 k437 Sv438 : _), continuity_Segments_j1 sv29 x439 x440 x441 x442 x443 x444 x445 x446 out447 = some tv358 ∧ Sl 69 [(1, .int .i64 tolerance5), (8, .slice p436 out447.length k437), (9, .pointer (some ⟨b28, 0, none⟩)), (25, .slice p8 rv7.1.length k9), (26, .int .i64 (rv7.1.length : Int)), (27, .int .i64 sv29.2.2.2.2.2.2.2.2.2)] a ∧ Wd ⟨w0, S0, []⟩ Sv438 [.box b28 [.int .i64 x439, .int .i64 x440, .int .i64 x441, .int .i64 x442, .int .i64 x443, .slice p433 x444.length k434, .int .i64 x445, .int .i64 x446] 105, .row p436 out447.length k437 c435 64 6, .row p8 rv7.1.length k9 c11 56 12] [SlA p433 x444.length k434 x444, RowA c435 out447, RowA c11 rv7.1] w) ?_ ?_)))
   ·refine wp_block (sr ?_)
    obtain ⟨x450, h448, u⟩ := bind_t u
    obtain ⟨b457, q454, c455, h458, h451, h452, h456, h449⟩ := d.elemRV (α := Record) 2 rfl 2 rfl h448
    have hsv459 := s
    have hwv460 := d
    subst h458
    have s := hsv459
    have d := hwv460
    obtain ⟨_, _, _, _, _, _, _, _, _, _, _, _, rfl, rfl, rfl, rfl, rfl, rfl, rfl, rfl, rfl, rfl, rfl, rfl, ⟨p461, n462, k463, rfl, h464⟩⟩ := h449
    obtain rfl := h464.1
    have d := d.addE (e := SlA p461 _ k463 x450.Samples) h464
    refine sv s (y_indexAt Tryz.runUnderlying28 Tryz.sizeOf56 rfl rfl h451.1 h451.2 h452) rfl fun a s => ?_
    refine sv s (y_loadQA (j := 0) (d.ownAt 2 rfl) rfl Tryz.isAgg56 Tryz.sizeOf56 h456 rfl rfl) rfl fun a s => ?_
    refine w_alloc (cs := Z0) s d Tryz.zeroValue56 rfl rfl trivial ?_
    intro b465 a w s d
    refine w_store (m := 12) (cs' := (C56 x450 p461 k463)) s d 0 rfl rfl rfl Tryz.sizeOf56 rfl rfl rfl rfl trivial ?_
    intro a w s d
    refine nl (wp_seq (sn 3 [1, 0] s d rfl rfl fun a s => ?_))
    obtain ⟨rv467, h466, u⟩ := bind_t u
    refine st_callR s (continuity_builder_joined_ok h466 d.dom (d.envAt 1 rfl) (d.envAt 0 rfl)) (do_call Tryz.call65 rfl) trivial rfl rfl ?_
    rintro v474 Sv471 w a h472 ⟨p468, k469, rfl, h470⟩ s
    have d := (d.call h472).addE (e := SlA p468 rv467.1.Segment.Samples.length k469 rv467.1.Segment.Samples) h470
    refine rn 3 [] s d rfl rfl fun a s => ?_
    refine w_alloc (cs := Z8) s d Tryz.zeroValue105 rfl rfl trivial ?_
    intro b476 a w s d
    refine w_store (m := 8) (cs' := (C105 rv467.1 p468 k469)) s d 0 rfl rfl rfl Tryz.sizeOf105 rfl rfl rfl rfl trivial ?_
    intro a w s d
    refine rz 1 [] s d rfl rfl fun a s => ?_
    refine sz 1 [] s d rfl rfl fun a s => ?_
    refine cd s u rfl (fun u => ?_) fun u => ?_
    ·refine sn 1 [0] s d rfl rfl fun a s => ?_
     refine w_store (m := 8) (cs' := (C105 rv467.1 p468 k469)) s d 2 rfl rfl rfl Tryz.sizeOf105 rfl rfl rfl rfl trivial ?_
     intro a w s d
     refine nl (sn 6 [2] s d rfl rfl fun a s => ?_)
     obtain ⟨x502, h500, u⟩ := bind_t u
     obtain ⟨b509, q506, c507, h510, h503, h504, h508, h501⟩ := d.elemRV (α := Segment) 3 rfl 3 rfl h500
     have hsv511 := s
     have hwv512 := d
     subst h510
     have s := hsv511
     have d := hwv512
     obtain ⟨_, _, _, _, _, _, rfl, rfl, rfl, rfl, rfl, rfl, ⟨p513, n514, k515, rfl, h516⟩⟩ := h501
     obtain rfl := h516.1
     have d := d.addE (e := SlA p513 _ k515 x502.Samples) h516
     refine sv s (y_indexAt Tryz.runUnderlying60 Tryz.sizeOf64 rfl rfl h503.1 h503.2 h504) rfl fun a s => ?_
     obtain ⟨l518, h517, u⟩ := bind_t u
     refine w_storeF (α := Segment) s d 3 rfl 4 rfl h504 rfl rfl Tryz.sizeOf64 rfl h517 ⟨_, _, _, _, _, _, rfl, rfl, rfl, rfl, rfl, rfl, ⟨_, _, _, rfl, d.envAt 1 rfl⟩⟩ trivial ?_
     intro c519 a w s d
     have h520 := setM_len h517
     try have s := s.fl 8 rfl h520
     try have s := s.fl 40 rfl h520
     try have s := s.fl 41 rfl h520
     exact nl (wp_exit (then_exit (blk_exit (then_normal ⟨rv467.1.Segment.Start, rv467.1.Segment.First, rv467.1.Segment.Rate.Num, rv467.1.Segment.Rate.Den, rv467.1.Segment.Error, rv467.1.Segment.Samples, rv467.1.worst_, rv467.1.off_, l518, p468, k469, c519, (some ⟨b509, 0, none⟩), k273, Sv471, u, (s.wk rfl), (d.ft [2, 3, 4] [2, 0, 6] (by decide) rfl rfl)⟩))))
    refine wp_skip (then_normal (wp_seq ?_))
    obtain ⟨rv522, h521, u⟩ := bind_t u
    refine wp_only (fun a w => ∃ Sv527 c526 k524 p523, Sl 69 [(1, .int .i64 tolerance5), (8, .slice p272 sv29.2.2.2.2.2.2.2.2.1.length k273), (9, .pointer (some ⟨b28, 0, none⟩)), (25, .slice (some ⟨b457, 0, none⟩) rv7.1.length k9), (26, .int .i64 (rv7.1.length : Int)), (27, .int .i64 sv29.2.2.2.2.2.2.2.2.2)] a ∧ Wd ⟨w0, S0, []⟩ Sv527 [.box b28 [.int .i64 x450.Start, .int .i64 x450.First, .int .i64 x450.Rate.Num, .int .i64 x450.Rate.Den, .int .i64 x450.Error, .slice p523 rv522.length k524, .int .i64 x450.Error, .int .i64 0] 105, .row p272 sv29.2.2.2.2.2.2.2.2.1.length k273 c271 64 6, .row (some ⟨b457, 0, none⟩) rv7.1.length k9 c11 56 12, .row p523 rv522.length k524 c526 3 1] [RowA c271 sv29.2.2.2.2.2.2.2.2.1, RowA c11 rv7.1, RowA c526 rv522] w) ?_ ?_
    ·refine h_c [0, 1, 3, 4] [] d rfl rfl (by kernel_rfl) rfl fun hC d => ?_
     refine gn 12 [0, 1, 2, 3, 4, 5, 6, 7, 8, 9, 12, 13] [1, 1, 1, 1, 1, 1] s hC rfl rfl rfl fun a s => ?_
     refine ho 10 rfl ?_
     refine st_callR s (slices_Clone_Lint_int_ok h521 d.dom (d.envAt 1 rfl)) (do_call Tryz.call66 rfl) trivial rfl rfl ?_
     rintro v531 Sv528 w a h529 ⟨p523, k524, c526, rfl, h532, h525⟩ s
     have d := (d.callN h529 h532).addE (e := RowA c526 rv522) h525
     refine h_n [1, 2, 4, 5] [] d rfl rfl fun hC => ?_
     refine h_d [1, 2, 4, 5, 0] [] [0, 1, 2, 3] [] d rfl rfl rfl rfl fun hC => ?_
     refine gv s 11 rfl rfl hC (fun w hC => y_build (vs := [(0, .int .i64 x450.Start), (1, .int .i64 x450.First), (2, V54 x450.Rate), (3, .int .i64 x450.Error), (4, .slice p523 rv522.length k524)]) Bld64 rfl rfl) fun a s => ?_
     refine gv s 14 rfl rfl hC (fun w hC => y_build (vs := [(0, V64 ⟨x450.Start, x450.First, x450.Rate, x450.Error, rv522⟩ p523 k524), (1, .int .i64 x450.Error)]) Bld105 rfl rfl) fun a s => ?_
     refine ho 15 rfl ?_
     refine w_store (m := 8) (cs' := [.int .i64 x450.Start, .int .i64 x450.First, .int .i64 x450.Rate.Num, .int .i64 x450.Rate.Den, .int .i64 x450.Error, .slice p523 rv522.length k524, .int .i64 x450.Error, .int .i64 0]) s d 3 rfl rfl rfl Tryz.sizeOf105 rfl rfl rfl rfl trivial ?_
     intro a w s d
     refine h_n [1, 2, 4, 5, 0] [] d rfl rfl fun hC => ?_
     refine h_done (by kernel_rfl) ?_
     exact ⟨Sv528, c526, k524, p523, (s.wk rfl), (d.ft [3, 4, 5, 0] [4, 5, 0] (by decide) rfl rfl)⟩
    rintro a w ⟨Sv527, c526, k524, p523, s, d⟩
    refine then_normal (wp_region_lit (rn 3 [0] s d rfl rfl fun a s => ?_))
    obtain ⟨Sv535, d⟩ := w_share (α := Int) d 3 rfl 2 rfl
    refine w_litSlice (α := Segment) (vs := [V64 ⟨x450.Start, x450.First, x450.Rate, x450.Error, rv522⟩ p523 k524]) (cs := (C64 ⟨x450.Start, x450.First, x450.Rate, x450.Error, rv522⟩ p523 k524)) (xs := ([(⟨x450.Start, x450.First, x450.Rate, x450.Error, rv522⟩ : Segment)] : List Segment)) s d El60 rfl rfl rfl rfl rfl rfl ⟨⟨_, _, _, _, _, _, rfl, rfl, rfl, rfl, rfl, rfl, ⟨_, _, _, rfl, d.envAt 0 rfl⟩⟩, rfl⟩ rfl trivial rfl fun b534 a w s d => ?_
    obtain ⟨l537, h536, u⟩ := bind_t u
    refine w_appendR (α := Segment) s d El60 2 rfl rfl rfl 2 rfl 0 rfl 0 rfl h536 rfl trivial ?_
    intro p538 k539 c540 a w s d
    refine av s rfl rfl fun a s => ?_
    refine wpList_nil ?_
    exact blk_normal (then_normal ⟨x450.Start, x450.First, x450.Rate.Num, x450.Rate.Den, x450.Error, rv522, x450.Error, 0, l537, p523, k524, c540, p538, k539, Sv535, u, (s.wk rfl), (d.ft [1, 2, 3] [2, 0, 4] (by decide) rfl rfl)⟩)
   rintro a w ⟨x439, x440, x441, x442, x443, x444, x445, x446, out447, p433, k434, c435, p436, k437, Sv438, u, s, d⟩
   delta continuity_Segments_j1 at u
   refine then_normal (wp_region_lit (rz 2 [] s d rfl rfl fun a s => ?_))
   exact ⟨_, (Option.some.inj u).symm, p433, k434, c435, p436, k437, Sv438, (s.wk rfl), (d.ft [0, 1, 2] [0, 1, 2] (by decide) rfl rfl)⟩
  refine wp_exit (then_exit (then_exit (blk_exit ?_)))
  have u := oi u
  subst u
  have h541 := hd357 _ rfl
  subst h541
  exact then_normal ⟨c271, p272, k273, Sv274, (s.wk rfl), (d.ft [1] [1] (by decide) rfl rfl)⟩
 rintro a w ⟨c361, p362, k363, Sv364, s, d⟩
 refine then_normal (sz 3 [] s d rfl rfl fun a s => ?_)
 have u := oi u
 subst u
 exact wp_ret (ret2 s rfl (rv_tmp rfl) (rv_tmp rfl) (d.ret ⟨p362, k363, c361, rfl, (d.outs [0] (by decide) rfl), (d.envAt 0 rfl)⟩))
end Go.Proofs.YtdcafiefjakfeaaGreat.Wk

/- The walks of ContinuitySame, part 2: each Go function computes what its plain program computes. Printed by a program of ours. -/
import Derived.Test.YtdcafiefjakfeaaGreatProg
import Derived.Test.YtdcafiefjakfeaaGreatDat
import Derived.Test.YtdcafiefjakfeaaGreatSh
import Derived.Test.YtdcafiefjakfeaaGreatLa1
import Derived.KernelRfl
import Derived.Test.YtdcafiefjakfeaaGreatLb1
import Derived.Shelf.SlLaysF0
import Derived.Shelf.SlLaysM
import Derived.Test.YtdcafiefjakfeaaGreatWContinuitySame1
namespace Go.Proofs.YtdcafiefjakfeaaGreat.Wk
open Go Go.RowKit Go.Proofs Go.Proofs.YtdcafiefjakfeaaGreat.Sh
set_option linter.unusedVariables false
set_option linter.unusedSimpArgs false
set_option maxHeartbeats 4000000
set_option maxRecDepth 100000
theorem law16_sane_ok {w0 S0 r} (u : law16_sane = some r) (hS : Dm S0 w0) : Calls Tryz.prog 10 #[] w0 (Ret ([]) w0 S0 (made_Light_rd w0 ([]) r)) := by
 refine en 57 Tryz.func10 rfl hS rfl rfl rfl fun a s d => ?_
 delta law16_sane at u
 refine sz 1 [] s d rfl rfl fun a s => ?_
 refine sr (sv s (y_build (vs := [(0, .string (⟨#[65]⟩ : ByteArray)), (1, .string (⟨#[66]⟩ : ByteArray)), (3, .string (⟨#[72, 72, 90]⟩ : ByteArray))]) Bld52 rfl rfl) rfl fun a s => ?_)
 refine w_alloc (cs := Z1) s d Tryz.zeroValue52 rfl rfl trivial ?_
 intro b1 a w s d
 refine w_store (m := 4) (cs' := Z2) s d 0 rfl rfl rfl Tryz.sizeOf52 rfl rfl rfl rfl trivial ?_
 intro a w s d
 refine nl (sr (sv s (y_build (vs := [(0, .int .i64 1), (1, .int .i64 10)]) Bld54 rfl rfl) rfl fun a s => ?_))
 refine w_alloc (cs := [.int .i64 0, .int .i64 0]) s d Tryz.zeroValue54 rfl rfl trivial ?_
 intro b2 a w s d
 refine w_store (m := 2) (cs' := [.int .i64 1, .int .i64 10]) s d 0 rfl rfl rfl Tryz.sizeOf54 rfl rfl rfl rfl trivial ?_
 intro a w s d
 refine nl (sn 2 [1, 0] s d rfl rfl fun a s => ?_)
 refine w_litSlice (α := Int) (vs := [.int .i64 1]) (cs := [.int .i64 1]) (xs := ([1] : List Int)) s d El22 rfl rfl rfl rfl rfl rfl ⟨⟨_, rfl, rfl⟩, rfl⟩ rfl trivial rfl fun b4 a w s d => ?_
 refine sv s (y_build (vs := [(0, .agg Z2.toArray), (3, .agg #[.int .i64 1, .int .i64 10]), (7, .slice (some ⟨b4, 0, none⟩) ([1] : List Int).length ([1] : List Int).length)]) Bld56 rfl rfl) rfl fun a s => ?_
 refine rn 2 [2, 1] s d rfl rfl fun a s => ?_
 refine w_litSlice (α := Int) (vs := [.int .i64 1]) (cs := [.int .i64 1]) (xs := ([1] : List Int)) s d El22 rfl rfl rfl rfl rfl rfl ⟨⟨_, rfl, rfl⟩, rfl⟩ rfl trivial rfl fun b6 a w s d => ?_
 refine sv s (y_build (vs := [(0, .agg Z2.toArray), (1, .int .i64 20000000), (3, .agg #[.int .i64 1, .int .i64 10]), (7, .slice (some ⟨b6, 0, none⟩) ([1] : List Int).length ([1] : List Int).length)]) Bld56 rfl rfl) rfl fun a s => ?_
 refine rn 2 [3, 2] s d rfl rfl fun a s => ?_
 refine w_litSlice (α := Int) (vs := [.int .i64 1]) (cs := [.int .i64 1]) (xs := ([1] : List Int)) s d El22 rfl rfl rfl rfl rfl rfl ⟨⟨_, rfl, rfl⟩, rfl⟩ rfl trivial rfl fun b8 a w s d => ?_
 refine sv s (y_build (vs := [(0, .agg Z2.toArray), (3, .agg #[.int .i64 1, .int .i64 10]), (6, .int .i64 1), (7, .slice (some ⟨b8, 0, none⟩) ([1] : List Int).length ([1] : List Int).length)]) Bld56 rfl rfl) rfl fun a s => ?_
 obtain ⟨l12, h11, u⟩ := bind_t u
 obtain ⟨Sv14, d⟩ := w_share (α := Int) d 2 rfl 0 rfl
 obtain ⟨Sv15, d⟩ := w_share (α := Int) d 1 rfl 1 rfl
 obtain ⟨Sv16, d⟩ := w_share (α := Int) d 0 rfl 2 rfl
 refine w_litSliceO (α := Record) (vs := [.agg #[.string (⟨#[65]⟩ : ByteArray), .string (⟨#[66]⟩ : ByteArray), .string ByteArray.empty, .string (⟨#[72, 72, 90]⟩ : ByteArray), .int .i64 0, .int .i64 0, .int .i64 1, .int .i64 10, .int .i64 0, .int .i64 0, .int .i64 0, .slice (some ⟨b4, 0, none⟩) ([1] : List Int).length ([1] : List Int).length], .agg #[.string (⟨#[65]⟩ : ByteArray), .string (⟨#[66]⟩ : ByteArray), .string ByteArray.empty, .string (⟨#[72, 72, 90]⟩ : ByteArray), .int .i64 20000000, .int .i64 0, .int .i64 1, .int .i64 10, .int .i64 0, .int .i64 0, .int .i64 0, .slice (some ⟨b6, 0, none⟩) ([1] : List Int).length ([1] : List Int).length], .agg #[.string (⟨#[65]⟩ : ByteArray), .string (⟨#[66]⟩ : ByteArray), .string ByteArray.empty, .string (⟨#[72, 72, 90]⟩ : ByteArray), .int .i64 0, .int .i64 0, .int .i64 1, .int .i64 10, .int .i64 0, .int .i64 0, .int .i64 1, .slice (some ⟨b8, 0, none⟩) ([1] : List Int).length ([1] : List Int).length]]) (cs := [.string (⟨#[65]⟩ : ByteArray), .string (⟨#[66]⟩ : ByteArray), .string ByteArray.empty, .string (⟨#[72, 72, 90]⟩ : ByteArray), .int .i64 0, .int .i64 0, .int .i64 1, .int .i64 10, .int .i64 0, .int .i64 0, .int .i64 0, .slice (some ⟨b4, 0, none⟩) ([1] : List Int).length ([1] : List Int).length, .string (⟨#[65]⟩ : ByteArray), .string (⟨#[66]⟩ : ByteArray), .string ByteArray.empty, .string (⟨#[72, 72, 90]⟩ : ByteArray), .int .i64 20000000, .int .i64 0, .int .i64 1, .int .i64 10, .int .i64 0, .int .i64 0, .int .i64 0, .slice (some ⟨b6, 0, none⟩) ([1] : List Int).length ([1] : List Int).length, .string (⟨#[65]⟩ : ByteArray), .string (⟨#[66]⟩ : ByteArray), .string ByteArray.empty, .string (⟨#[72, 72, 90]⟩ : ByteArray), .int .i64 0, .int .i64 0, .int .i64 1, .int .i64 10, .int .i64 0, .int .i64 0, .int .i64 1, .slice (some ⟨b8, 0, none⟩) ([1] : List Int).length ([1] : List Int).length]) (xs := ([(⟨(⟨(⟨#[65]⟩ : ByteArray), (⟨#[66]⟩ : ByteArray), ByteArray.empty, (⟨#[72, 72, 90]⟩ : ByteArray)⟩ : SourceID), 0, 0, (⟨1, 10⟩ : Rate), 0, 0, 0, ([1] : List Int)⟩ : Record), (⟨(⟨(⟨#[65]⟩ : ByteArray), (⟨#[66]⟩ : ByteArray), ByteArray.empty, (⟨#[72, 72, 90]⟩ : ByteArray)⟩ : SourceID), 20000000, 0, (⟨1, 10⟩ : Rate), 0, 0, 0, ([1] : List Int)⟩ : Record), (⟨(⟨(⟨#[65]⟩ : ByteArray), (⟨#[66]⟩ : ByteArray), ByteArray.empty, (⟨#[72, 72, 90]⟩ : ByteArray)⟩ : SourceID), 0, 0, (⟨1, 10⟩ : Rate), 0, 0, 1, ([1] : List Int)⟩ : Record)] : List Record)) s d El28 rfl rfl rfl rfl rfl rfl ⟨⟨_, _, _, _, _, _, _, _, _, _, _, _, rfl, rfl, rfl, rfl, rfl, rfl, rfl, rfl, rfl, rfl, rfl, rfl, ⟨_, _, _, rfl, d.envAt 2 rfl⟩⟩, ⟨⟨_, _, _, _, _, _, _, _, _, _, _, _, rfl, rfl, rfl, rfl, rfl, rfl, rfl, rfl, rfl, rfl, rfl, rfl, ⟨_, _, _, rfl, d.envAt 1 rfl⟩⟩, ⟨⟨_, _, _, _, _, _, _, _, _, _, _, _, rfl, rfl, rfl, rfl, rfl, rfl, rfl, rfl, rfl, rfl, rfl, rfl, ⟨_, _, _, rfl, d.envAt 0 rfl⟩⟩, rfl⟩⟩⟩ rfl trivial rfl h11 fun b10 c13 a w s d => ?_
 refine rz 1 [] s d rfl rfl fun a s => ?_
 refine sn 1 [] s d rfl rfl fun a s => ?_
 obtain ⟨rv18, h17, u⟩ := bind_t u
 obtain ⟨Sv23, d⟩ := w_share (α := Record) d 0 rfl 0 rfl
 refine st_callR s (continuity_Gaps_ok h17 d.dom (d.envAt 0 rfl)) (do_call Tryz.call13 rfl) trivial rfl rfl ?_
 rintro v27 Sv24 w a h25 ⟨p19, k20, c22, rfl, h28, h21⟩ s
 have d := (d.callN h25 h28).addE (e := RowA c22 rv18.1) h21
 refine rz 5 [] s d rfl rfl fun a s => ?_
 refine sn 1 [] s d rfl rfl fun a s => ?_
 obtain ⟨rv30, h29, u⟩ := bind_t u
 refine st_callR s (continuity_Overlaps_ok h29 d.dom (d.envAt 1 rfl)) (do_call Tryz.call14 rfl) trivial rfl rfl ?_
 rintro v38 Sv35 w a h36 ⟨p31, k32, c34, rfl, h39, h33⟩ s
 have d := (d.callN h36 h39).addE (e := RowA c34 rv30.1) h33
 refine rz 5 [] s d rfl rfl fun a s => ?_
 refine sn 3 [] s d rfl rfl fun a s => ?_
 refine rA 3 35 [] s d rfl rfl rfl rfl rfl fun a s => ?_
 refine mv s rfl rfl fun a s => ?_
 obtain ⟨c51, hc51, u⟩ := bind_t u
 refine wpl_join 5 (fun a w => ∃ Sv52, Sl 57 [(6, .slice p31 rv30.1.length k32), (44, .bool c51)] a ∧ Wd ⟨w0, S0, []⟩ Sv52 [.row p31 rv30.1.length k32 c34 42 3] [RowA c34 rv30.1] w) ?_ ?_
 ·rcases Bool.eq_false_or_eq_true ((rv18.2 == 0) && (rv30.2 == 0)) with h50 | h50
  ·have s := s.fix 39 (.bool true) rfl (vb h50)
   have u := ite_t hc51 h50
   refine st_val s (y_move rfl) ⟨_, rfl, rfl⟩ rfl rfl fun a s => ?_
   refine st_val s (y_build (vs := [(0, .int .i64 10000000), (1, .int .i64 20000000)]) Bld71 rfl rfl) ⟨_, rfl, rfl⟩ rfl rfl fun a s => ?_
   refine w_litSlice (α := Span) (vs := [.agg #[.int .i64 10000000, .int .i64 20000000]]) (cs := [.int .i64 10000000, .int .i64 20000000]) (xs := ([(⟨10000000, 20000000⟩ : Span)] : List Span)) s d El30 rfl rfl rfl rfl rfl rfl ⟨⟨_, _, rfl, rfl, rfl⟩, rfl⟩ rfl ⟨_, rfl, rfl⟩ rfl fun b54 a w s d => ?_
   obtain ⟨rv56, h55, u⟩ := bind_t u
   refine st_callR s (ref08_Same_ok h55 d.bdom (d.bRow 2 rfl 2 rfl) (d.bRow 0 rfl 0 rfl)) (do_call Tryz.call16 rfl) ⟨_, rfl, rfl⟩ rfl rfl ?_
   rintro v60 Sv57 w a h58 rfl s
   have d := d.callB h58
   refine sv s (y_pickT rfl rfl) rfl fun a s => ?_
   refine wpList_nil ?_
   have u := oi u
   subst u
   exact then_normal ⟨Sv35, (s.wk rfl), (d.ft [1] [1] (by decide) rfl rfl)⟩
  have s := s.fix 39 (.bool false) rfl (vb h50)
  have u := ite_f hc51 h50
  refine rn 5 [] s d rfl rfl fun a s => ?_
  refine wpList_nil ?_
  have u := oi u
  subst u
  exact then_normal ⟨Sv35, (s.wk rfl), (d.ft [0] [0] (by decide) rfl rfl)⟩
 rintro a w ⟨Sv52, s, d⟩
 refine mv s rfl rfl fun a s => ?_
 refine rA 4 45 [] s d rfl rfl rfl rfl rfl fun a s => ?_
 refine mv s rfl rfl fun a s => ?_
 obtain ⟨c77, hc77, u⟩ := bind_t u
 refine wpl_join 6 (fun a w => ∃ Sv78, Sl 57 [(56, .bool c77)] a ∧ Wd ⟨w0, S0, []⟩ Sv78 [] [] w) ?_ ?_
 ·rcases Bool.eq_false_or_eq_true (c51 && ((rv30.1.length : Int) == 1)) with h76 | h76
  ·have s := s.fix 50 (.bool true) rfl (vb h76)
   have u := ite_t hc77 h76
   refine st_val s (y_move rfl) ⟨_, rfl, rfl⟩ rfl rfl fun a s => ?_
   obtain ⟨x81, h79, u⟩ := bind_t u
   obtain ⟨b88, q85, c86, h89, h82, h83, h87, h80⟩ := d.elemRV (α := Overlap) 0 rfl 0 rfl h79
   have hsv90 := s
   have hwv91 := d
   subst h89
   have s := hsv90
   have d := hwv91
   obtain ⟨_, _, _, rfl, rfl, rfl, rfl⟩ := h80
   refine st_val s (y_indexAt Tryz.runUnderlying34 Tryz.sizeOf42 rfl rfl h82.1 h82.2 h83) ⟨_, rfl, rfl⟩ rfl rfl fun a s => ?_
   refine st_val s (y_loadQA (j := 0) (d.ownAt 0 rfl) rfl Tryz.isAgg42 Tryz.sizeOf42 h87 rfl rfl) ⟨_, rfl, rfl⟩ rfl rfl fun a s => ?_
   refine st_val s (y_build (vs := [(1, .int .i64 10000000), (2, .bool true)]) Bld42 rfl rfl) ⟨_, rfl, rfl⟩ rfl rfl fun a s => ?_
   refine st_val s (y_eqlA (by kernel_rfl) rfl rfl (eqv_struct Tryz.runUnderlying42 (by kernel_rfl) (EqF.cons1 rfl Tryz.isAgg3 rfl rfl (eqv_int Tryz.runUnderlying3) (EqF.cons1 rfl Tryz.isAgg3 rfl rfl (eqv_int Tryz.runUnderlying3) (EqF.cons1 rfl Tryz.isAgg4 rfl rfl (eqv_bool Tryz.runUnderlying4) EqF.nil))))) ⟨_, rfl, rfl⟩ rfl rfl fun a s => ?_
   refine sv s (y_pickT rfl rfl) rfl fun a s => ?_
   refine wpList_nil ?_
   have u := oi u
   subst u
   exact then_normal ⟨Sv52, (s.wk rfl), (d.ft [] [] (by decide) rfl rfl)⟩
  have s := s.fix 50 (.bool false) rfl (vb h76)
  have u := ite_f hc77 h76
  refine rn 6 [] s d rfl rfl fun a s => ?_
  refine wpList_nil ?_
  have u := oi u
  subst u
  exact then_normal ⟨Sv52, (s.wk rfl), (d.ft [] [] (by decide) rfl rfl)⟩
 rintro a w ⟨Sv78, s, d⟩
 refine rz 1 [] s d rfl rfl fun a s => ?_
 have u := oi u
 subst u
 exact wp_ret (ret1 s rfl (rv_tmp rfl) (d.ret rfl))
abbrev made_Roll_rd (w0 : World) (X : List Nat) (r : Dice) : Rd := fun S w v => ∃ b_0 p0_0 k0_0, v = .pointer (some ⟨b_0, 0, none⟩) ∧ Outs X w0 S w [.box b_0 (C87 r p0_0 k0_0) 87] ∧ (SlA p0_0 r.L.length k0_0 r.L).p S w
theorem made_Roll_ok {w0 S0 p2 k3 l1 r} (u : made_Roll l1 = some r) (hS : Dm S0 w0) (h4 : (SlA p2 l1.length k3 l1).p S0 w0) : Calls Tryz.prog 11 #[.slice p2 l1.length k3] w0 (Ret ([]) w0 S0 (made_Roll_rd w0 ([]) r)) := by
 refine en 6 Tryz.func11 rfl hS rfl rfl rfl fun a s d => ?_
 have d := d.addE h4
 delta made_Roll at u
 refine sz 1 [] s d rfl rfl fun a s => ?_
 refine sn 1 [] s d rfl rfl fun a s => ?_
 refine sv s (y_build (vs := [(0, .slice p2 l1.length k3)]) Bld87 rfl rfl) rfl fun a s => ?_
 refine w_box (cs := [.slice p2 l1.length k3, .int .i64 0]) s d rfl rfl rfl trivial ?_
 intro b5 a w s d
 refine rz 1 [] s d rfl rfl fun a s => ?_
 have u := oi u
 subst u
 exact wp_ret (ret1 s rfl (rv_tmp rfl) (d.ret ⟨b5, p2, k3, rfl, (d.outs [0] (by decide) rfl), (d.envAt 0 rfl)⟩))
abbrev made_Dice_Next_rd (w0 : World) (X : List Nat) (b2 : Nat) (r : (Int × Dice)) : (Nat → Prop) → World → Value → Prop := fun S w v => ∃ pq0_0 kq0_0, v = .int .i64 r.1 ∧ Outs X w0 S w [.box b2 (C87 r.2 pq0_0 kq0_0) 87] ∧ (SlA pq0_0 r.2.L.length kq0_0 r.2.L).p S w
theorem made_Dice_Next_ok {w0 S0 b2 p3 k4 d1 n6 r} (u : made_Dice_Next d1 n6 = some r) (hS : Dm S0 w0) (hin : Ins S0 w0 [.box b2 (C87 d1 p3 k4) 87]) (h5 : (SlA p3 d1.L.length k4 d1.L).p S0 w0) : Calls Tryz.prog 30 #[.pointer (some ⟨b2, 0, none⟩), .int .i64 n6] w0 (Ret (blks [.box b2 (C87 d1 p3 k4) 87]) w0 S0 (made_Dice_Next_rd w0 (blks [.box b2 (C87 d1 p3 k4) 87]) b2 r)) := by
 refine enI 45 Tryz.func30 rfl hS hin rfl rfl rfl fun a s d => ?_
 have d := d.addE h5
 delta made_Dice_Next at u
 refine sz 1 [] s d rfl rfl fun a s => ?_
 refine wp_seq (wp_seq (wp_only (fun a w => ∃ Sv7, Sl 45 [(0, .pointer (some ⟨b2, 0, none⟩)), (1, .int .i64 n6), (19, .bool ((decide ((d1.L.length : Int) ≤ d1.At)) || (decide (n6 < 1))))] a ∧ Wd ⟨w0, S0, blks [.box b2 (C87 d1 p3 k4) 87]⟩ Sv7 [.box b2 (C87 d1 p3 k4) 87] [SlA p3 d1.L.length k4 d1.L] w) ?_ ?_))
 ·refine h_c [0] [] d rfl rfl (by kernel_rfl) rfl fun hC d => ?_
  refine gn 11 [0, 1, 2, 3, 4, 5, 6, 7, 8, 9, 10] [0, 0] s hC rfl rfl rfl fun a s => ?_
  refine gO 3 16 [11, 12, 13] [] s hC rfl rfl rfl rfl rfl rfl fun a s => ?_
  refine h_done (by kernel_rfl) ?_
  exact ⟨S0, (s.wk rfl), (d.ft [0] [0] (by decide) rfl rfl)⟩
 rintro a w ⟨Sv7, s, d⟩
 refine then_normal (cd s u rfl (fun u => ?_) fun u => ?_)
 ·refine sz 1 [] s d rfl rfl fun a s => ?_
  have u := oi u
  subst u
  exact wp_ret (then_ret (ret1 s rfl (rv_tmp rfl) (d.ret ⟨p3, k4, rfl, (d.outs [0] (by decide) rfl), (d.envAt 0 rfl)⟩)))
 refine wp_skip (then_normal (wp_seq ?_))
 obtain ⟨x12, h10, u⟩ := bind_t u
 obtain ⟨b18, o19, q16, c17, h20, h13, h14, h15, h11⟩ := d.elemV 0 rfl h10
 have hsv21 := s
 have hwv22 := d
 subst h20
 have s := hsv21
 have d := hwv22
 obtain ⟨_, rfl, rfl⟩ := h11
 have d := d.addE h15
 obtain ⟨rem24, h23, u⟩ := bind_t u
 refine wp_only (fun a w => ∃ Sv25, Sl 45 [(0, .pointer (some ⟨b2, 0, none⟩)), (1, .int .i64 n6), (5, .int .i64 rem24)] a ∧ Wd ⟨w0, S0, blks [.box b2 (C87 d1 (some ⟨b18, o19, none⟩) k4) 87]⟩ Sv25 [.box b2 (C87 d1 (some ⟨b18, o19, none⟩) k4) 87] [SlA (some ⟨b18, o19, none⟩) d1.L.length k4 d1.L] w) ?_ ?_
 ·refine h_c [0] [0] d rfl rfl (by kernel_rfl) rfl fun hC d => ?_
  refine gn 8 [0, 1, 2, 3, 4, 5, 6, 7] [0, 0] s hC rfl rfl rfl fun a s => ?_
  refine gv s 8 rfl rfl hC (fun w hC => y_indexAt Tryz.runUnderlying22 Tryz.sizeOf3 rfl rfl h13.1 h13.2 h14) fun a s => ?_
  refine gv s 9 rfl rfl hC (fun w hC => y_loadE1 (j := 0) (hC.ceAt 0 rfl) rfl Tryz.isAgg3 rfl) fun a s => ?_
  refine gm s 10 rfl rfl rfl hC fun a s => ?_
  refine gv s 11 rfl rfl hC (fun w hC => y_remM rfl rfl h23) fun a s => ?_
  refine gv s 12 rfl rfl hC (fun w hC => y_assign rfl) fun a s => ?_
  refine h_done (by kernel_rfl) ?_
  exact ⟨Sv7, (s.wk rfl), (d.ft [0] [1] (by decide) rfl rfl)⟩
 rintro a w ⟨Sv25, s, d⟩
 refine then_normal (sn 7 [0] s d rfl rfl fun a s => ?_)
 refine w_store (m := 1) (cs' := [.slice (some ⟨b18, o19, none⟩) d1.L.length k4, .int .i64 (w64 (d1.At + 1))]) s d 0 rfl rfl rfl Tryz.sizeOf3 rfl rfl rfl rfl trivial ?_
 intro a w s d
 refine nl (wp_seq (sz 2 [] s d rfl rfl fun a s => ?_))
 refine wp_join (fun a w => ∃ (x30 : Int) (Sv29 : _), made_Dice_Next_j1 d1 x30 = some r ∧ Sl 45 [(5, .int .i64 x30)] a ∧ Wd ⟨w0, S0, blks [.box b2 (C87 d1 (some ⟨b18, o19, none⟩) k4) 87]⟩ Sv29 [.box b2 [.slice (some ⟨b18, o19, none⟩) d1.L.length k4, .int .i64 (w64 (d1.At + 1))] 87] [SlA (some ⟨b18, o19, none⟩) d1.L.length k4 d1.L] w) ?_ ?_
 ·refine cd s u rfl (fun u => ?_) fun u => ?_
  ·refine wp_region_lit (rn 3 [] s d rfl rfl fun a s => ?_)
   obtain ⟨x33, h32, u⟩ := bind_t u
   refine sv s (y_assignI rfl h32) rfl fun a s => ?_
   exact nl ⟨x33, Sv25, u, (s.wk rfl), (d.ft [0] [0] (by decide) rfl rfl)⟩
  exact wp_skip (then_normal ⟨rem24, Sv25, u, (s.wk rfl), (d.ft [0] [0] (by decide) rfl rfl)⟩)
 rintro a w ⟨x30, Sv29, u, s, d⟩
 delta made_Dice_Next_j1 at u
 refine then_normal (sz 2 [] s d rfl rfl fun a s => ?_)
 have u := oi u
 subst u
 exact wp_ret (ret1 s rfl (rv_tmp rfl) (d.ret ⟨(some ⟨b18, o19, none⟩), k4, rfl, (d.outs [0] (by decide) rfl), (d.envAt 0 rfl)⟩))
abbrev made_Dice_Source_rd (w0 : World) (X : List Nat) (b2 : Nat) (r : (SourceID × Dice)) : (Nat → Prop) → World → Value → Prop := fun S w v => ∃ pq0_0 kq0_0, v = V52 r.1 ∧ Outs X w0 S w [.box b2 (C87 r.2 pq0_0 kq0_0) 87] ∧ (SlA pq0_0 r.2.L.length kq0_0 r.2.L).p S w
abbrev D46t1 (b2 : Nat) (b6 : Nat) : Slots := [(0, .pointer (some ⟨b2, 0, none⟩)), (2, .pointer (some ⟨b6, 0, none⟩))]
abbrev D46t2 (b2 : Nat) (b24 : Nat) (b40 : Nat) (b56 : Nat) (b8 : Nat) (rv10 : (Int × Dice)) (rv26 : (Int × Dice)) (rv42 : (Int × Dice)) (rv58 : (Int × Dice)) (x16 : ByteArray) (x32 : ByteArray) (x48 : ByteArray) (x64 : ByteArray) : Vs := [(0, 3, .slice (some ⟨b8, 0, none⟩) ([(⟨#[71, 82]⟩ : ByteArray), (⟨#[88]⟩ : ByteArray), (⟨#[55, 65]⟩ : ByteArray)] : List ByteArray).length ([(⟨#[71, 82]⟩ : ByteArray), (⟨#[88]⟩ : ByteArray), (⟨#[55, 65]⟩ : ByteArray)] : List ByteArray).length), (1, 4, .pointer (some ⟨b2, 0, none⟩)), (2, 5, .int .i64 rv10.1), (3, 6, .pointer (some ⟨b8, (0 + (rv10.1).toNat * 1), none⟩)), (4, 7, .string x16), (5, 8, .slice (some ⟨b24, 0, none⟩) ([(⟨#[70, 85, 82]⟩ : ByteArray), (⟨#[65]⟩ : ByteArray), (⟨#[65, 66, 67, 68, 69]⟩ : ByteArray), (⟨#[70, 85]⟩ : ByteArray)] : List ByteArray).length ([(⟨#[70, 85, 82]⟩ : ByteArray), (⟨#[65]⟩ : ByteArray), (⟨#[65, 66, 67, 68, 69]⟩ : ByteArray), (⟨#[70, 85]⟩ : ByteArray)] : List ByteArray).length), (6, 9, .pointer (some ⟨b2, 0, none⟩)), (7, 10, .int .i64 rv26.1), (8, 11, .pointer (some ⟨b24, (0 + (rv26.1).toNat * 1), none⟩)), (9, 12, .string x32), (10, 13, .slice (some ⟨b40, 0, none⟩) ([(⟨#[]⟩ : ByteArray), (⟨#[48, 48]⟩ : ByteArray), (⟨#[49, 48]⟩ : ByteArray)] : List ByteArray).length ([(⟨#[]⟩ : ByteArray), (⟨#[48, 48]⟩ : ByteArray), (⟨#[49, 48]⟩ : ByteArray)] : List ByteArray).length), (11, 14, .pointer (some ⟨b2, 0, none⟩)), (12, 15, .int .i64 rv42.1), (13, 16, .pointer (some ⟨b40, (0 + (rv42.1).toNat * 1), none⟩)), (14, 17, .string x48), (15, 18, .slice (some ⟨b56, 0, none⟩) ([(⟨#[72, 72, 90]⟩ : ByteArray), (⟨#[72, 72, 78]⟩ : ByteArray), (⟨#[66, 72, 90]⟩ : ByteArray)] : List ByteArray).length ([(⟨#[72, 72, 90]⟩ : ByteArray), (⟨#[72, 72, 78]⟩ : ByteArray), (⟨#[66, 72, 90]⟩ : ByteArray)] : List ByteArray).length), (16, 19, .pointer (some ⟨b2, 0, none⟩)), (17, 20, .int .i64 rv58.1), (18, 21, .pointer (some ⟨b56, (0 + (rv58.1).toNat * 1), none⟩)), (19, 22, .string x64), (20, 23, .agg #[.string x16, .string x32, .string x48, .string x64])]
abbrev D46t3 : List Value := Z3
abbrev D46t4 : List ByteArray := ([(⟨#[71, 82]⟩ : ByteArray), (⟨#[88]⟩ : ByteArray), (⟨#[55, 65]⟩ : ByteArray)] : List ByteArray)
abbrev D46t5 : List Value := Z4
abbrev D46t6 : List ByteArray := ([(⟨#[70, 85, 82]⟩ : ByteArray), (⟨#[65]⟩ : ByteArray), (⟨#[65, 66, 67, 68, 69]⟩ : ByteArray), (⟨#[70, 85]⟩ : ByteArray)] : List ByteArray)
abbrev D46t7 : List Value := Z5
abbrev D46t8 : List ByteArray := ([(⟨#[]⟩ : ByteArray), (⟨#[48, 48]⟩ : ByteArray), (⟨#[49, 48]⟩ : ByteArray)] : List ByteArray)
abbrev D46t9 : List Value := Z6
abbrev D46t10 : List ByteArray := ([(⟨#[72, 72, 90]⟩ : ByteArray), (⟨#[72, 72, 78]⟩ : ByteArray), (⟨#[66, 72, 90]⟩ : ByteArray)] : List ByteArray)
theorem made_Dice_Source_ok {w0 S0 b2 p3 k4 d1 r} (u : made_Dice_Source d1 = some r) (hS : Dm S0 w0) (hin : Ins S0 w0 [.box b2 (C87 d1 p3 k4) 87]) (h5 : (SlA p3 d1.L.length k4 d1.L).p S0 w0) : Calls Tryz.prog 46 #[.pointer (some ⟨b2, 0, none⟩)] w0 (Ret (blks [.box b2 (C87 d1 p3 k4) 87]) w0 S0 (made_Dice_Source_rd w0 (blks [.box b2 (C87 d1 p3 k4) 87]) b2 r)) := by
 refine enI 24 Tryz.func46 rfl hS hin rfl rfl rfl fun a s d => ?_
 have d := d.addE h5
 delta made_Dice_Source at u
 refine sr (w_alloc (cs := Z1) s d Tryz.zeroValue52 rfl rfl trivial ?_)
 intro b6 a w s d
 refine nl (wp_seq ?_)
 obtain ⟨rv10, h9, u⟩ := bind_t u
 obtain ⟨x16, h14, u⟩ := bind_t u
 obtain ⟨rv26, h25, u⟩ := bind_t u
 obtain ⟨x32, h30, u⟩ := bind_t u
 obtain ⟨rv42, h41, u⟩ := bind_t u
 obtain ⟨x48, h46, u⟩ := bind_t u
 obtain ⟨rv58, h57, u⟩ := bind_t u
 obtain ⟨x64, h62, u⟩ := bind_t u
 refine wp_only (fun a w => ∃ Sv71 k60 p59, Sl 24 [(2, .pointer (some ⟨b6, 0, none⟩))] a ∧ Wd ⟨w0, S0, blks [.box b2 (C87 d1 p3 k4) 87]⟩ Sv71 [.box b2 (C87 rv58.2 p59 k60) 87, .box b6 [.string x16, .string x32, .string x48, .string x64] 52] [SlA p59 rv58.2.L.length k60 rv58.2.L] w) ?_ ?_
 ·refine wp_region_phi (n := 22) (Φ := fun l a w => ∃ b24 b40 b56 b8 k12 k28 k44 k60 p11 p27 p43 p59 S, SlF 24 (D46t1 b2 b6) (D46t2 b2 b24 b40 b56 b8 rv10 rv26 rv42 rv58 x16 x32 x48 x64) l a ∧ Wd ⟨w0, S0, blks [.box b2 (C87 d1 p3 k4) 87]⟩ S [((bif l 21 then .box b6 [.string x16, .string x32, .string x48, .string x64] 52 else .box b6 Z1 52) : Res), ((bif l 17 then .box b2 (C87 rv58.2 p59 k60) 87 else (bif l 12 then .box b2 (C87 rv42.2 p43 k44) 87 else (bif l 7 then .box b2 (C87 rv26.2 p27 k28) 87 else (bif l 2 then .box b2 (C87 rv10.2 p11 k12) 87 else .box b2 (C87 d1 p3 k4) 87)))) : Res), ((bif l 0 then .row (some ⟨b8, 0, none⟩) ([(⟨#[71, 82]⟩ : ByteArray), (⟨#[88]⟩ : ByteArray), (⟨#[55, 65]⟩ : ByteArray)] : List ByteArray).length ([(⟨#[71, 82]⟩ : ByteArray), (⟨#[88]⟩ : ByteArray), (⟨#[55, 65]⟩ : ByteArray)] : List ByteArray).length Z3 9 1 else emp) : Res), ((bif l 5 then .row (some ⟨b24, 0, none⟩) ([(⟨#[70, 85, 82]⟩ : ByteArray), (⟨#[65]⟩ : ByteArray), (⟨#[65, 66, 67, 68, 69]⟩ : ByteArray), (⟨#[70, 85]⟩ : ByteArray)] : List ByteArray).length ([(⟨#[70, 85, 82]⟩ : ByteArray), (⟨#[65]⟩ : ByteArray), (⟨#[65, 66, 67, 68, 69]⟩ : ByteArray), (⟨#[70, 85]⟩ : ByteArray)] : List ByteArray).length Z4 9 1 else emp) : Res), ((bif l 10 then .row (some ⟨b40, 0, none⟩) ([(⟨#[]⟩ : ByteArray), (⟨#[48, 48]⟩ : ByteArray), (⟨#[49, 48]⟩ : ByteArray)] : List ByteArray).length ([(⟨#[]⟩ : ByteArray), (⟨#[48, 48]⟩ : ByteArray), (⟨#[49, 48]⟩ : ByteArray)] : List ByteArray).length Z5 9 1 else emp) : Res), ((bif l 15 then .row (some ⟨b56, 0, none⟩) ([(⟨#[72, 72, 90]⟩ : ByteArray), (⟨#[72, 72, 78]⟩ : ByteArray), (⟨#[66, 72, 90]⟩ : ByteArray)] : List ByteArray).length ([(⟨#[72, 72, 90]⟩ : ByteArray), (⟨#[72, 72, 78]⟩ : ByteArray), (⟨#[66, 72, 90]⟩ : ByteArray)] : List ByteArray).length Z6 9 1 else emp) : Res)] [SlA p3 d1.L.length k4 d1.L, optA (l 0) (RowA Z3 ([(⟨#[71, 82]⟩ : ByteArray), (⟨#[88]⟩ : ByteArray), (⟨#[55, 65]⟩ : ByteArray)] : List ByteArray)), optA (l 2) (SlA p11 rv10.2.L.length k12 rv10.2.L), optA (l 5) (RowA Z4 ([(⟨#[70, 85, 82]⟩ : ByteArray), (⟨#[65]⟩ : ByteArray), (⟨#[65, 66, 67, 68, 69]⟩ : ByteArray), (⟨#[70, 85]⟩ : ByteArray)] : List ByteArray)), optA (l 7) (SlA p27 rv26.2.L.length k28 rv26.2.L), optA (l 10) (RowA Z5 ([(⟨#[]⟩ : ByteArray), (⟨#[48, 48]⟩ : ByteArray), (⟨#[49, 48]⟩ : ByteArray)] : List ByteArray)), optA (l 12) (SlA p43 rv42.2.L.length k44 rv42.2.L), optA (l 15) (RowA Z6 ([(⟨#[72, 72, 90]⟩ : ByteArray), (⟨#[72, 72, 78]⟩ : ByteArray), (⟨#[66, 72, 90]⟩ : ByteArray)] : List ByteArray)), optA (l 17) (SlA p59 rv58.2.L.length k60 rv58.2.L)] w) [1, 1, 2, 3, 4, 1, 1, 3, 4, 5, 1, 1, 4, 5, 6, 1, 1, 5, 6, 7, 8, 9] (by kernel_rfl) rfl (by kernel_rfl) ?_ (AllS.succ (AllS.succ (AllS.succ (AllS.succ (AllS.succ (AllS.succ (AllS.succ (AllS.succ (AllS.succ (AllS.succ (AllS.succ (AllS.succ (AllS.succ (AllS.succ (AllS.succ (AllS.succ (AllS.succ (AllS.succ (AllS.succ (AllS.succ (AllS.succ (AllS.succ AllS.zero ?_) ?_) ?_) ?_) ?_) ?_) ?_) ?_) ?_) ?_) ?_) ?_) ?_) ?_) ?_) ?_) ?_) ?_) ?_) ?_) ?_) ?_) ?_
  ·obtain ⟨b24, b40, b56, b8, k12, k28, k44, k60, p11, p27, p43, p59, _⟩ : ∃ b24 b40 b56 b8 k12 k28 k44 k60 p11 p27 p43 p59, True := ⟨0, 0, 0, 0, 0, 0, 0, 0, none, none, none, none, trivial⟩
   have d := ((d.drew).emp).emp
   have d := ((d.emp).emp).noE (SlA p59 rv58.2.L.length k60 rv58.2.L)
   have d := ((d.noE (RowA Z6 ([(⟨#[72, 72, 90]⟩ : ByteArray), (⟨#[72, 72, 78]⟩ : ByteArray), (⟨#[66, 72, 90]⟩ : ByteArray)] : List ByteArray))).noE (SlA p43 rv42.2.L.length k44 rv42.2.L)).noE (RowA Z5 ([(⟨#[]⟩ : ByteArray), (⟨#[48, 48]⟩ : ByteArray), (⟨#[49, 48]⟩ : ByteArray)] : List ByteArray))
   have d := ((d.noE (SlA p27 rv26.2.L.length k28 rv26.2.L)).noE (RowA Z4 ([(⟨#[70, 85, 82]⟩ : ByteArray), (⟨#[65]⟩ : ByteArray), (⟨#[65, 66, 67, 68, 69]⟩ : ByteArray), (⟨#[70, 85]⟩ : ByteArray)] : List ByteArray))).noE (SlA p11 rv10.2.L.length k12 rv10.2.L)
   have d := d.noE (RowA Z3 ([(⟨#[71, 82]⟩ : ByteArray), (⟨#[88]⟩ : ByteArray), (⟨#[55, 65]⟩ : ByteArray)] : List ByteArray))
   exact ⟨b24, b40, b56, b8, k12, k28, k44, k60, p11, p27, p43, p59, S0, SlF.init (s.wk rfl) (by kernel_rfl), d.ft [4, 5, 0, 1, 2, 3] [8, 0, 1, 2, 3, 4, 5, 6, 7] (by decide) rfl rfl⟩
  ·intro l hi hp hc a w ⟨b24, b40, b56, b8, k12, k28, k44, k60, p11, p27, p43, p59, S, hS, d⟩
   refine S_eff rfl ?_
   have s := hS.open_ .nil
   refine w_litSlice (α := ByteArray) (vs := D46t3) (cs := D46t3) (xs := D46t4) s d El122 rfl rfl rfl rfl rfl rfl ⟨⟨_, rfl, rfl⟩, ⟨⟨_, rfl, rfl⟩, ⟨⟨_, rfl, rfl⟩, rfl⟩⟩⟩ rfl trivial rfl fun b8 a w s d => ?_
   have h_3 := l_neg hc 3 hi rfl
   have d := d.opt 0 rfl true
   exact nl ⟨b24, b40, b56, b8, k12, k28, k44, k60, p11, p27, p43, p59, S, hS.close .nil s rfl (.here (.same (.same (.neg h_3 rfl (.same (.same (.same (.same (.same (.same (.same (.same (.same (.same (.same (.same (.same (.same (.same (.same (.same .nil))))))))))))))))))))) 0 rfl, d.ft [1, 2, 0, 4, 5, 6] [2, 0, 4, 5, 6, 7, 8, 9, 10] (by decide) rfl rfl⟩
  ·intro l hi hp hc a w ⟨b24, b40, b56, b8, k12, k28, k44, k60, p11, p27, p43, p59, S, hS, d⟩
   refine S_val hS (.b (t := 0) rfl .nil) rfl rfl trivial (y_move rfl) (rfl) 1 rfl fun a hS => ⟨b24, b40, b56, b8, k12, k28, k44, k60, p11, p27, p43, p59, S, hS, d⟩
  ·intro l hi hp hc a w ⟨b24, b40, b56, b8, k12, k28, k44, k60, p11, p27, p43, p59, S, hS, d⟩
   have h_7 := l_neg hc 7 hi rfl
   have h_12 := l_neg hc 12 h_7 rfl
   have h_17 := l_neg hc 17 h_12 rfl
   have d := d.fixR 1 (r' := .box b2 (C87 d1 p3 k4) 87) rfl ((bF h_17).trans ((bF h_12).trans ((bF h_7).trans ((bF hi)))))
   have h_1 := hp 1 rfl
   refine S_eff rfl ?_
   have s := hS.open_ (.v (t := 4) 1 rfl h_1 .nil)
   refine st_callR s (made_Dice_Next_ok h9 d.dom (d.ins [1] (by decide) rfl) (d.envAt 0 rfl)) (do_call Tryz.call30 rfl) trivial rfl rfl ?_
   rintro v100 Sv97 w a h98 ⟨p11, k12, rfl, h101, h13⟩ s
   have d := ((d.callO [1] [0, 2, 3, 4, 5] (by decide) rfl h98 h101).addE (e := SlA p11 rv10.2.L.length k12 rv10.2.L) h13).fixR 0 (r' := (bif l 17 then .box b2 (C87 rv58.2 p59 k60) 87 else (bif l 12 then .box b2 (C87 rv42.2 p43 k44) 87 else (bif l 7 then .box b2 (C87 rv26.2 p27 k28) 87 else .box b2 (C87 rv10.2 p11 k12) 87)))) rfl ((bF h_17).trans ((bF h_12).trans ((bF h_7)))).symm
   have d := d.opt 0 rfl true
   exact nl ⟨b24, b40, b56, b8, k12, k28, k44, k60, p11, p27, p43, p59, Sv97, hS.close (.v (t := 4) 1 rfl h_1 .nil) s rfl (.same (.same (.here (.same (.same (.same (.same (.same (.same (.same (.same (.same (.same (.same (.same (.same (.same (.same (.same (.same (.same .nil))))))))))))))))))))) 2 rfl, d.ft [1, 0, 2, 3, 4, 5] [2, 3, 0, 5, 6, 7, 8, 9, 10] (by decide) rfl rfl⟩
  ·intro l hi hp hc a w ⟨b24, b40, b56, b8, k12, k28, k44, k60, p11, p27, p43, p59, S, hS, d⟩
   have hw0 := d
   have h_0 := hp 0 rfl
   have d := (d.fixR 2 (r' := .row (some ⟨b8, 0, none⟩) ([(⟨#[71, 82]⟩ : ByteArray), (⟨#[88]⟩ : ByteArray), (⟨#[55, 65]⟩ : ByteArray)] : List ByteArray).length ([(⟨#[71, 82]⟩ : ByteArray), (⟨#[88]⟩ : ByteArray), (⟨#[55, 65]⟩ : ByteArray)] : List ByteArray).length Z3 9 1) rfl ((bT h_0))).yes 1 rfl h_0
   have h_2 := hp 2 rfl
   obtain ⟨c21, h17, h22, h15⟩ := d.elemRX (α := ByteArray) 2 rfl 0 rfl h14
   obtain ⟨_, rfl, rfl⟩ := h15
   refine S_val hS (.v (t := 3) 0 rfl h_0 (.v (t := 5) 2 rfl h_2 .nil)) rfl rfl trivial (y_indexAt Tryz.runUnderlying122 Tryz.sizeOf9 rfl rfl h17.1 h17.2 rfl) (rfl) 3 rfl fun a hS => ⟨b24, b40, b56, b8, k12, k28, k44, k60, p11, p27, p43, p59, S, hS, hw0⟩
  ·intro l hi hp hc a w ⟨b24, b40, b56, b8, k12, k28, k44, k60, p11, p27, p43, p59, S, hS, d⟩
   have hw0 := d
   have h_3 := hp 3 rfl
   have h_0 := hc 3 0 rfl h_3
   have d := (d.fixR 2 (r' := .row (some ⟨b8, 0, none⟩) ([(⟨#[71, 82]⟩ : ByteArray), (⟨#[88]⟩ : ByteArray), (⟨#[55, 65]⟩ : ByteArray)] : List ByteArray).length ([(⟨#[71, 82]⟩ : ByteArray), (⟨#[88]⟩ : ByteArray), (⟨#[55, 65]⟩ : ByteArray)] : List ByteArray).length Z3 9 1) rfl ((bT h_0))).yes 1 rfl h_0
   obtain ⟨c21, h17, h22, h15⟩ := d.elemRX (α := ByteArray) 2 rfl 0 rfl h14
   obtain ⟨_, rfl, rfl⟩ := h15
   refine S_val hS (.v (t := 6) 3 rfl h_3 .nil) rfl rfl trivial (y_loadQ1 (j := 0) (d.ownAt 2 rfl) rfl Tryz.isAgg9 h22 rfl) (rfl) 4 rfl fun a hS => ⟨b24, b40, b56, b8, k12, k28, k44, k60, p11, p27, p43, p59, S, hS, hw0⟩
  ·intro l hi hp hc a w ⟨b24, b40, b56, b8, k12, k28, k44, k60, p11, p27, p43, p59, S, hS, d⟩
   refine S_eff rfl ?_
   have s := hS.open_ .nil
   refine w_litSlice (α := ByteArray) (vs := D46t5) (cs := D46t5) (xs := D46t6) s d El122 rfl rfl rfl rfl rfl rfl ⟨⟨_, rfl, rfl⟩, ⟨⟨_, rfl, rfl⟩, ⟨⟨_, rfl, rfl⟩, ⟨⟨_, rfl, rfl⟩, rfl⟩⟩⟩⟩ rfl trivial rfl fun b24 a w s d => ?_
   have h_8 := l_neg hc 8 hi rfl
   have d := d.opt 0 rfl true
   exact nl ⟨b24, b40, b56, b8, k12, k28, k44, k60, p11, p27, p43, p59, S, hS.close .nil s rfl (.same (.same (.same (.same (.same (.here (.same (.same (.neg h_8 rfl (.same (.same (.same (.same (.same (.same (.same (.same (.same (.same (.same (.same .nil))))))))))))))))))))) 5 rfl, d.ft [1, 2, 3, 0, 5, 6] [2, 3, 4, 0, 6, 7, 8, 9, 10] (by decide) rfl rfl⟩
  ·intro l hi hp hc a w ⟨b24, b40, b56, b8, k12, k28, k44, k60, p11, p27, p43, p59, S, hS, d⟩
   refine S_val hS (.b (t := 0) rfl .nil) rfl rfl trivial (y_move rfl) (rfl) 6 rfl fun a hS => ⟨b24, b40, b56, b8, k12, k28, k44, k60, p11, p27, p43, p59, S, hS, d⟩
  ·intro l hi hp hc a w ⟨b24, b40, b56, b8, k12, k28, k44, k60, p11, p27, p43, p59, S, hS, d⟩
   have h_12 := l_neg hc 12 hi rfl
   have h_17 := l_neg hc 17 h_12 rfl
   have h_2 := hp 2 rfl
   have d := (d.fixR 1 (r' := .box b2 (C87 rv10.2 p11 k12) 87) rfl ((bF h_17).trans ((bF h_12).trans ((bF hi).trans ((bT h_2)))))).yes 2 rfl h_2
   have h_6 := hp 6 rfl
   refine S_eff rfl ?_
   have s := hS.open_ (.v (t := 9) 6 rfl h_6 .nil)
   refine st_callR s (made_Dice_Next_ok h25 d.dom (d.ins [1] (by decide) rfl) (d.envAt 0 rfl)) (do_call Tryz.call30 rfl) trivial rfl rfl ?_
   rintro v110 Sv107 w a h108 ⟨p27, k28, rfl, h111, h29⟩ s
   have d := ((d.callO [1] [0, 2, 3, 4, 5] (by decide) rfl h108 h111).addE (e := SlA p27 rv26.2.L.length k28 rv26.2.L) h29).fixR 0 (r' := (bif l 17 then .box b2 (C87 rv58.2 p59 k60) 87 else (bif l 12 then .box b2 (C87 rv42.2 p43 k44) 87 else .box b2 (C87 rv26.2 p27 k28) 87))) rfl ((bF h_17).trans ((bF h_12))).symm
   have d := d.opt 0 rfl true
   exact nl ⟨b24, b40, b56, b8, k12, k28, k44, k60, p11, p27, p43, p59, Sv107, hS.close (.v (t := 9) 6 rfl h_6 .nil) s rfl (.same (.same (.same (.same (.same (.same (.same (.here (.same (.same (.same (.same (.same (.same (.same (.same (.same (.same (.same (.same (.same .nil))))))))))))))))))))) 7 rfl, d.ft [1, 0, 2, 3, 4, 5] [3, 4, 5, 6, 0, 8, 9, 10, 11] (by decide) rfl rfl⟩
  ·intro l hi hp hc a w ⟨b24, b40, b56, b8, k12, k28, k44, k60, p11, p27, p43, p59, S, hS, d⟩
   have hw0 := d
   have h_5 := hp 5 rfl
   have d := (d.fixR 3 (r' := .row (some ⟨b24, 0, none⟩) ([(⟨#[70, 85, 82]⟩ : ByteArray), (⟨#[65]⟩ : ByteArray), (⟨#[65, 66, 67, 68, 69]⟩ : ByteArray), (⟨#[70, 85]⟩ : ByteArray)] : List ByteArray).length ([(⟨#[70, 85, 82]⟩ : ByteArray), (⟨#[65]⟩ : ByteArray), (⟨#[65, 66, 67, 68, 69]⟩ : ByteArray), (⟨#[70, 85]⟩ : ByteArray)] : List ByteArray).length Z4 9 1) rfl ((bT h_5))).yes 3 rfl h_5
   have h_7 := hp 7 rfl
   obtain ⟨c37, h33, h38, h31⟩ := d.elemRX (α := ByteArray) 3 rfl 0 rfl h30
   obtain ⟨_, rfl, rfl⟩ := h31
   refine S_val hS (.v (t := 8) 5 rfl h_5 (.v (t := 10) 7 rfl h_7 .nil)) rfl rfl trivial (y_indexAt Tryz.runUnderlying122 Tryz.sizeOf9 rfl rfl h33.1 h33.2 rfl) (rfl) 8 rfl fun a hS => ⟨b24, b40, b56, b8, k12, k28, k44, k60, p11, p27, p43, p59, S, hS, hw0⟩
  ·intro l hi hp hc a w ⟨b24, b40, b56, b8, k12, k28, k44, k60, p11, p27, p43, p59, S, hS, d⟩
   have hw0 := d
   have h_8 := hp 8 rfl
   have h_5 := hc 8 5 rfl h_8
   have d := (d.fixR 3 (r' := .row (some ⟨b24, 0, none⟩) ([(⟨#[70, 85, 82]⟩ : ByteArray), (⟨#[65]⟩ : ByteArray), (⟨#[65, 66, 67, 68, 69]⟩ : ByteArray), (⟨#[70, 85]⟩ : ByteArray)] : List ByteArray).length ([(⟨#[70, 85, 82]⟩ : ByteArray), (⟨#[65]⟩ : ByteArray), (⟨#[65, 66, 67, 68, 69]⟩ : ByteArray), (⟨#[70, 85]⟩ : ByteArray)] : List ByteArray).length Z4 9 1) rfl ((bT h_5))).yes 3 rfl h_5
   obtain ⟨c37, h33, h38, h31⟩ := d.elemRX (α := ByteArray) 3 rfl 0 rfl h30
   obtain ⟨_, rfl, rfl⟩ := h31
   refine S_val hS (.v (t := 11) 8 rfl h_8 .nil) rfl rfl trivial (y_loadQ1 (j := 0) (d.ownAt 3 rfl) rfl Tryz.isAgg9 h38 rfl) (rfl) 9 rfl fun a hS => ⟨b24, b40, b56, b8, k12, k28, k44, k60, p11, p27, p43, p59, S, hS, hw0⟩
  ·intro l hi hp hc a w ⟨b24, b40, b56, b8, k12, k28, k44, k60, p11, p27, p43, p59, S, hS, d⟩
   refine S_eff rfl ?_
   have s := hS.open_ .nil
   refine w_litSlice (α := ByteArray) (vs := D46t7) (cs := D46t7) (xs := D46t8) s d El122 rfl rfl rfl rfl rfl rfl ⟨⟨_, rfl, rfl⟩, ⟨⟨_, rfl, rfl⟩, ⟨⟨_, rfl, rfl⟩, rfl⟩⟩⟩ rfl trivial rfl fun b40 a w s d => ?_
   have h_13 := l_neg hc 13 hi rfl
   have d := d.opt 0 rfl true
   exact nl ⟨b24, b40, b56, b8, k12, k28, k44, k60, p11, p27, p43, p59, S, hS.close .nil s rfl (.same (.same (.same (.same (.same (.same (.same (.same (.same (.same (.here (.same (.same (.neg h_13 rfl (.same (.same (.same (.same (.same (.same (.same .nil))))))))))))))))))))) 10 rfl, d.ft [1, 2, 3, 4, 0, 6] [2, 3, 4, 5, 6, 0, 8, 9, 10] (by decide) rfl rfl⟩
  ·intro l hi hp hc a w ⟨b24, b40, b56, b8, k12, k28, k44, k60, p11, p27, p43, p59, S, hS, d⟩
   refine S_val hS (.b (t := 0) rfl .nil) rfl rfl trivial (y_move rfl) (rfl) 11 rfl fun a hS => ⟨b24, b40, b56, b8, k12, k28, k44, k60, p11, p27, p43, p59, S, hS, d⟩
  ·intro l hi hp hc a w ⟨b24, b40, b56, b8, k12, k28, k44, k60, p11, p27, p43, p59, S, hS, d⟩
   have h_17 := l_neg hc 17 hi rfl
   have h_7 := hp 7 rfl
   have d := (d.fixR 1 (r' := .box b2 (C87 rv26.2 p27 k28) 87) rfl ((bF h_17).trans ((bF hi).trans ((bT h_7))))).yes 4 rfl h_7
   have h_11 := hp 11 rfl
   refine S_eff rfl ?_
   have s := hS.open_ (.v (t := 14) 11 rfl h_11 .nil)
   refine st_callR s (made_Dice_Next_ok h41 d.dom (d.ins [1] (by decide) rfl) (d.envAt 0 rfl)) (do_call Tryz.call30 rfl) trivial rfl rfl ?_
   rintro v120 Sv117 w a h118 ⟨p43, k44, rfl, h121, h45⟩ s
   have d := ((d.callO [1] [0, 2, 3, 4, 5] (by decide) rfl h118 h121).addE (e := SlA p43 rv42.2.L.length k44 rv42.2.L) h45).fixR 0 (r' := (bif l 17 then .box b2 (C87 rv58.2 p59 k60) 87 else .box b2 (C87 rv42.2 p43 k44) 87)) rfl ((bF h_17)).symm
   have d := d.opt 0 rfl true
   exact nl ⟨b24, b40, b56, b8, k12, k28, k44, k60, p11, p27, p43, p59, Sv117, hS.close (.v (t := 14) 11 rfl h_11 .nil) s rfl (.same (.same (.same (.same (.same (.same (.same (.same (.same (.same (.same (.same (.here (.same (.same (.same (.same (.same (.same (.same (.same .nil))))))))))))))))))))) 12 rfl, d.ft [1, 0, 2, 3, 4, 5] [3, 4, 5, 6, 7, 8, 0, 10, 11] (by decide) rfl rfl⟩
  ·intro l hi hp hc a w ⟨b24, b40, b56, b8, k12, k28, k44, k60, p11, p27, p43, p59, S, hS, d⟩
   have hw0 := d
   have h_10 := hp 10 rfl
   have d := (d.fixR 4 (r' := .row (some ⟨b40, 0, none⟩) ([(⟨#[]⟩ : ByteArray), (⟨#[48, 48]⟩ : ByteArray), (⟨#[49, 48]⟩ : ByteArray)] : List ByteArray).length ([(⟨#[]⟩ : ByteArray), (⟨#[48, 48]⟩ : ByteArray), (⟨#[49, 48]⟩ : ByteArray)] : List ByteArray).length Z5 9 1) rfl ((bT h_10))).yes 5 rfl h_10
   have h_12 := hp 12 rfl
   obtain ⟨c53, h49, h54, h47⟩ := d.elemRX (α := ByteArray) 4 rfl 0 rfl h46
   obtain ⟨_, rfl, rfl⟩ := h47
   refine S_val hS (.v (t := 13) 10 rfl h_10 (.v (t := 15) 12 rfl h_12 .nil)) rfl rfl trivial (y_indexAt Tryz.runUnderlying122 Tryz.sizeOf9 rfl rfl h49.1 h49.2 rfl) (rfl) 13 rfl fun a hS => ⟨b24, b40, b56, b8, k12, k28, k44, k60, p11, p27, p43, p59, S, hS, hw0⟩
  ·intro l hi hp hc a w ⟨b24, b40, b56, b8, k12, k28, k44, k60, p11, p27, p43, p59, S, hS, d⟩
   have hw0 := d
   have h_13 := hp 13 rfl
   have h_10 := hc 13 10 rfl h_13
   have d := (d.fixR 4 (r' := .row (some ⟨b40, 0, none⟩) ([(⟨#[]⟩ : ByteArray), (⟨#[48, 48]⟩ : ByteArray), (⟨#[49, 48]⟩ : ByteArray)] : List ByteArray).length ([(⟨#[]⟩ : ByteArray), (⟨#[48, 48]⟩ : ByteArray), (⟨#[49, 48]⟩ : ByteArray)] : List ByteArray).length Z5 9 1) rfl ((bT h_10))).yes 5 rfl h_10
   obtain ⟨c53, h49, h54, h47⟩ := d.elemRX (α := ByteArray) 4 rfl 0 rfl h46
   obtain ⟨_, rfl, rfl⟩ := h47
   refine S_val hS (.v (t := 16) 13 rfl h_13 .nil) rfl rfl trivial (y_loadQ1 (j := 0) (d.ownAt 4 rfl) rfl Tryz.isAgg9 h54 rfl) (rfl) 14 rfl fun a hS => ⟨b24, b40, b56, b8, k12, k28, k44, k60, p11, p27, p43, p59, S, hS, hw0⟩
  ·intro l hi hp hc a w ⟨b24, b40, b56, b8, k12, k28, k44, k60, p11, p27, p43, p59, S, hS, d⟩
   refine S_eff rfl ?_
   have s := hS.open_ .nil
   refine w_litSlice (α := ByteArray) (vs := D46t9) (cs := D46t9) (xs := D46t10) s d El122 rfl rfl rfl rfl rfl rfl ⟨⟨_, rfl, rfl⟩, ⟨⟨_, rfl, rfl⟩, ⟨⟨_, rfl, rfl⟩, rfl⟩⟩⟩ rfl trivial rfl fun b56 a w s d => ?_
   have h_18 := l_neg hc 18 hi rfl
   have d := d.opt 0 rfl true
   exact nl ⟨b24, b40, b56, b8, k12, k28, k44, k60, p11, p27, p43, p59, S, hS.close .nil s rfl (.same (.same (.same (.same (.same (.same (.same (.same (.same (.same (.same (.same (.same (.same (.same (.here (.same (.same (.neg h_18 rfl (.same (.same .nil))))))))))))))))))))) 15 rfl, d.ft [1, 2, 3, 4, 5, 0] [2, 3, 4, 5, 6, 7, 8, 0, 10] (by decide) rfl rfl⟩
  ·intro l hi hp hc a w ⟨b24, b40, b56, b8, k12, k28, k44, k60, p11, p27, p43, p59, S, hS, d⟩
   refine S_val hS (.b (t := 0) rfl .nil) rfl rfl trivial (y_move rfl) (rfl) 16 rfl fun a hS => ⟨b24, b40, b56, b8, k12, k28, k44, k60, p11, p27, p43, p59, S, hS, d⟩
  ·intro l hi hp hc a w ⟨b24, b40, b56, b8, k12, k28, k44, k60, p11, p27, p43, p59, S, hS, d⟩
   have h_12 := hp 12 rfl
   have d := (d.fixR 1 (r' := .box b2 (C87 rv42.2 p43 k44) 87) rfl ((bF hi).trans ((bT h_12)))).yes 6 rfl h_12
   have h_16 := hp 16 rfl
   refine S_eff rfl ?_
   have s := hS.open_ (.v (t := 19) 16 rfl h_16 .nil)
   refine st_callR s (made_Dice_Next_ok h57 d.dom (d.ins [1] (by decide) rfl) (d.envAt 0 rfl)) (do_call Tryz.call30 rfl) trivial rfl rfl ?_
   rintro v130 Sv127 w a h128 ⟨p59, k60, rfl, h131, h61⟩ s
   have d := ((d.callO [1] [0, 2, 3, 4, 5] (by decide) rfl h128 h131).addE (e := SlA p59 rv58.2.L.length k60 rv58.2.L) h61).opt 0 rfl true
   exact nl ⟨b24, b40, b56, b8, k12, k28, k44, k60, p11, p27, p43, p59, Sv127, hS.close (.v (t := 19) 16 rfl h_16 .nil) s rfl (.same (.same (.same (.same (.same (.same (.same (.same (.same (.same (.same (.same (.same (.same (.same (.same (.same (.here (.same (.same (.same .nil))))))))))))))))))))) 17 rfl, d.ft [1, 0, 2, 3, 4, 5] [3, 4, 5, 6, 7, 8, 9, 10, 0] (by decide) rfl rfl⟩
  ·intro l hi hp hc a w ⟨b24, b40, b56, b8, k12, k28, k44, k60, p11, p27, p43, p59, S, hS, d⟩
   have hw0 := d
   have h_15 := hp 15 rfl
   have d := (d.fixR 5 (r' := .row (some ⟨b56, 0, none⟩) ([(⟨#[72, 72, 90]⟩ : ByteArray), (⟨#[72, 72, 78]⟩ : ByteArray), (⟨#[66, 72, 90]⟩ : ByteArray)] : List ByteArray).length ([(⟨#[72, 72, 90]⟩ : ByteArray), (⟨#[72, 72, 78]⟩ : ByteArray), (⟨#[66, 72, 90]⟩ : ByteArray)] : List ByteArray).length Z6 9 1) rfl ((bT h_15))).yes 7 rfl h_15
   have h_17 := hp 17 rfl
   obtain ⟨c69, h65, h70, h63⟩ := d.elemRX (α := ByteArray) 5 rfl 0 rfl h62
   obtain ⟨_, rfl, rfl⟩ := h63
   refine S_val hS (.v (t := 18) 15 rfl h_15 (.v (t := 20) 17 rfl h_17 .nil)) rfl rfl trivial (y_indexAt Tryz.runUnderlying122 Tryz.sizeOf9 rfl rfl h65.1 h65.2 rfl) (rfl) 18 rfl fun a hS => ⟨b24, b40, b56, b8, k12, k28, k44, k60, p11, p27, p43, p59, S, hS, hw0⟩
  ·intro l hi hp hc a w ⟨b24, b40, b56, b8, k12, k28, k44, k60, p11, p27, p43, p59, S, hS, d⟩
   have hw0 := d
   have h_18 := hp 18 rfl
   have h_15 := hc 18 15 rfl h_18
   have d := (d.fixR 5 (r' := .row (some ⟨b56, 0, none⟩) ([(⟨#[72, 72, 90]⟩ : ByteArray), (⟨#[72, 72, 78]⟩ : ByteArray), (⟨#[66, 72, 90]⟩ : ByteArray)] : List ByteArray).length ([(⟨#[72, 72, 90]⟩ : ByteArray), (⟨#[72, 72, 78]⟩ : ByteArray), (⟨#[66, 72, 90]⟩ : ByteArray)] : List ByteArray).length Z6 9 1) rfl ((bT h_15))).yes 7 rfl h_15
   obtain ⟨c69, h65, h70, h63⟩ := d.elemRX (α := ByteArray) 5 rfl 0 rfl h62
   obtain ⟨_, rfl, rfl⟩ := h63
   refine S_val hS (.v (t := 21) 18 rfl h_18 .nil) rfl rfl trivial (y_loadQ1 (j := 0) (d.ownAt 5 rfl) rfl Tryz.isAgg9 h70 rfl) (rfl) 19 rfl fun a hS => ⟨b24, b40, b56, b8, k12, k28, k44, k60, p11, p27, p43, p59, S, hS, hw0⟩
  ·intro l hi hp hc a w ⟨b24, b40, b56, b8, k12, k28, k44, k60, p11, p27, p43, p59, S, hS, d⟩
   have h_19 := hp 19 rfl
   have h_14 := hp 14 rfl
   have h_9 := hp 9 rfl
   have h_4 := hp 4 rfl
   refine S_val hS (.v (t := 7) 4 rfl h_4 (.v (t := 12) 9 rfl h_9 (.v (t := 17) 14 rfl h_14 (.v (t := 22) 19 rfl h_19 .nil)))) rfl rfl trivial (y_build (vs := [(0, .string x16), (1, .string x32), (2, .string x48), (3, .string x64)]) Bld52 rfl rfl) (rfl) 20 rfl fun a hS => ⟨b24, b40, b56, b8, k12, k28, k44, k60, p11, p27, p43, p59, S, hS, d⟩
  ·intro l hi hp hc a w ⟨b24, b40, b56, b8, k12, k28, k44, k60, p11, p27, p43, p59, S, hS, d⟩
   have d := d.fixR 0 (r' := .box b6 Z1 52) rfl ((bF hi))
   have h_20 := hp 20 rfl
   refine S_eff rfl ?_
   have s := hS.open_ (.b (t := 2) rfl (.v (t := 23) 20 rfl h_20 .nil))
   refine w_store (m := 4) (cs' := [.string x16, .string x32, .string x48, .string x64]) s d 0 rfl rfl rfl Tryz.sizeOf52 rfl rfl rfl rfl trivial ?_
   intro a w s d
   exact nl ⟨b24, b40, b56, b8, k12, k28, k44, k60, p11, p27, p43, p59, S, hS.close0 (.b (t := 2) rfl (.v (t := 23) 20 rfl h_20 .nil)) s rfl, d.ft [0, 1, 2, 3, 4, 5] [0, 1, 2, 3, 4, 5, 6, 7, 8] (by decide) rfl rfl⟩
  intro l a w hl ⟨b24, b40, b56, b8, k12, k28, k44, k60, p11, p27, p43, p59, S, hS, d⟩
  have d := ((d.yes 8 rfl (hl 17 (by decide))).fixR 1 (r' := .box b2 (C87 rv58.2 p59 k60) 87) rfl (bT (hl 17 (by decide)))).fixR 0 (r' := .box b6 [.string x16, .string x32, .string x48, .string x64] 52) rfl (bT (hl 21 (by decide)))
  have s := hS.on (.b (t := 2) rfl .nil)
  exact ⟨S, k60, p59, (s.wk rfl), (d.ft [1, 0] [0] (by decide) rfl rfl)⟩
 rintro a w ⟨Sv71, k60, p59, s, d⟩
 refine then_normal ?_
 have u := oi u
 subst u
 exact wp_ret (ret1 s rfl (rv_cell d 1 rfl rfl Tryz.isAgg52 Tryz.sizeOf52 rfl) (d.ret ⟨p59, k60, rfl, (d.outs [0] (by decide) rfl), (d.envAt 0 rfl)⟩))
abbrev made_Dice_Pick_rd (w0 : World) (X : List Nat) (b2 : Nat) (r : (Int × Dice)) : (Nat → Prop) → World → Value → Prop := fun S w v => ∃ pq0_0 kq0_0, v = .int .i64 r.1 ∧ Outs X w0 S w [.box b2 (C87 r.2 pq0_0 kq0_0) 87] ∧ (SlA pq0_0 r.2.L.length kq0_0 r.2.L).p S w
theorem made_Dice_Pick_ok {w0 S0 b2 p3 k4 p7 k8 d1 l6 r} (u : made_Dice_Pick d1 l6 = some r) (hS : Dm S0 w0) (hin : Ins S0 w0 [.box b2 (C87 d1 p3 k4) 87]) (h5 : (SlA p3 d1.L.length k4 d1.L).p S0 w0) (h9 : (SlA p7 l6.length k8 l6).p S0 w0) : Calls Tryz.prog 24 #[.pointer (some ⟨b2, 0, none⟩), .slice p7 l6.length k8] w0 (Ret (blks [.box b2 (C87 d1 p3 k4) 87]) w0 S0 (made_Dice_Pick_rd w0 (blks [.box b2 (C87 d1 p3 k4) 87]) b2 r)) := by
 refine enI 12 Tryz.func24 rfl hS hin rfl rfl rfl fun a s d => ?_
 have d := (d.addE h5).addE h9
 delta made_Dice_Pick at u
 refine sz 1 [] s d rfl rfl fun a s => ?_
 refine sn 4 [] s d rfl rfl fun a s => ?_
 obtain ⟨rv11, h10, u⟩ := bind_t u
 refine st_callR s (made_Dice_Next_ok h10 d.dom (d.ins [0] (by decide) rfl) (d.envAt 1 rfl)) (do_call Tryz.call30 rfl) trivial rfl rfl ?_
 rintro v18 Sv15 w a h16 ⟨p12, k13, rfl, h19, h14⟩ s
 have d := (d.callO [0] [] (by decide) rfl h16 h19).addE (e := SlA p12 rv11.2.L.length k13 rv11.2.L) h14
 obtain ⟨x22, h20, u⟩ := bind_t u
 obtain ⟨b28, o29, q26, c27, h30, h23, h24, h25, h21⟩ := d.elemV 1 rfl h20
 have hsv31 := s
 have hwv32 := d
 subst h30
 have s := hsv31
 have d := hwv32
 obtain ⟨_, rfl, rfl⟩ := h21
 have d := d.addE h25
 refine sv s (y_indexAt Tryz.runUnderlying22 Tryz.sizeOf3 rfl rfl h23.1 h23.2 h24) rfl fun a s => ?_
 refine sv s (y_loadE1 (j := 0) (d.ceAt 0 rfl) rfl Tryz.isAgg3 rfl) rfl fun a s => ?_
 refine rz 1 [] s d rfl rfl fun a s => ?_
 have u := oi u
 subst u
 exact wp_ret (ret1 s rfl (rv_tmp rfl) (d.ret ⟨p12, k13, rfl, (d.outs [0] (by decide) rfl), (d.envAt 1 rfl)⟩))
theorem ref01_In_ok {w0 S0 n1 lo2 hi3 r} (u : ref01_In n1 lo2 hi3 = some r) (hS : Dm S0 w0) : Calls Tryz.prog 61 #[.int .i64 n1, .int .i64 lo2, .int .i64 hi3] w0 (Ret ([]) w0 S0 (made_Light_rd w0 ([]) r)) := by
 refine en 15 Tryz.func61 rfl hS rfl rfl rfl fun a s d => ?_
 delta ref01_In at u
 refine sz 1 [] s d rfl rfl fun a s => ?_
 refine sn 4 [] s d rfl rfl fun a s => ?_
 refine rA 4 10 [] s d rfl rfl rfl rfl rfl fun a s => ?_
 refine rz 1 [] s d rfl rfl fun a s => ?_
 have u := oi u
 subst u
 exact wp_ret (ret1 s rfl (rv_tmp rfl) (d.ret rfl))
theorem ref02_gcd_ok {w0 S0 a1 b2 r} (u : ref02_gcd a1 b2 = some r) (hS : Dm S0 w0) : Calls Tryz.prog 103 #[.int .i64 a1, .int .i64 b2] w0 (Ret ([]) w0 S0 (slices_IndexFunc_Lapi_Record_api_Record_rd w0 ([]) r)) := by
 refine en 12 Tryz.func103 rfl hS rfl rfl rfl fun a s d => ?_
 delta ref02_gcd at u
 refine sz 1 [] s d rfl rfl fun a s => ?_
 refine wp_seq ?_
 obtain ⟨e21, h32, u⟩ := bind_t u
 refine wp_join (fun a w => ∃ Sv22, Sl 12 [(0, .int .i64 e21)] a ∧ Wd ⟨w0, S0, []⟩ Sv22 [] [] w) ?_ ?_
 ·refine wp_block (wp_while (fun sv3 a w => ∃ Sv13, Sl 12 [(0, .int .i64 sv3.1), (1, .int .i64 sv3.2)] a ∧ Wd ⟨w0, S0, []⟩ Sv13 [] [] w) (a1, b2) h32 ⟨S0, (s.wk rfl), (d.ft [] [] (by decide) rfl rfl)⟩ ?_)
  clear h32
  repeat clear u
  rintro sv3 a w tv19 ⟨Sv13, s, d⟩ u hd18
  delta ref02_gcd_l1 at u
  refine wp_seq (sz 2 [] s d rfl rfl fun a s => ?_)
  refine cd s u rfl (fun u => ?_) fun u => ?_
  ·refine wp_skip (then_normal (wp_block ?_))
   obtain ⟨rem29, h28, u⟩ := bind_t u
   refine wp_only (fun a w => ∃ Sv30, Sl 12 [(0, .int .i64 sv3.2), (1, .int .i64 rem29)] a ∧ Wd ⟨w0, S0, []⟩ Sv30 [] [] w) ?_ ?_
   ·refine h_c [] [] d rfl rfl (by kernel_rfl) rfl fun hC d => ?_
    refine gn 3 [0, 1, 2] [] s hC rfl rfl rfl fun a s => ?_
    refine gv s 3 rfl rfl hC (fun w hC => y_remM rfl rfl h28) fun a s => ?_
    refine gn 2 [4, 5] [] s hC rfl rfl rfl fun a s => ?_
    refine h_done (by kernel_rfl) ?_
    exact ⟨Sv13, (s.wk rfl), (d.ft [] [] (by decide) rfl rfl)⟩
   rintro a w ⟨Sv30, s, d⟩
   exact blk_normal (then_normal ⟨_, (Option.some.inj u).symm, Sv30, (s.wk rfl), (d.ft [] [] (by decide) rfl rfl)⟩)
  refine wp_exit (then_exit (then_exit (blk_exit ?_)))
  have u := oi u
  subst u
  have h31 := hd18 _ rfl
  subst h31
  exact then_normal ⟨Sv13, (s.wk rfl), (d.ft [] [] (by decide) rfl rfl)⟩
 rintro a w ⟨Sv22, s, d⟩
 refine then_normal (sz 2 [] s d rfl rfl fun a s => ?_)
 have u := oi u
 subst u
 exact wp_ret (ret1 s rfl (rv_tmp rfl) (d.ret rfl))
abbrev ref02_New_rd (w0 : World) (X : List Nat) (r : (Rate × Int)) : Rd := fun S w v => v = .tuple #[V54 r.1, .int .i64 r.2]
theorem ref02_New_ok {w0 S0 num1 den2 r} (u : ref02_New num1 den2 = some r) (hS : Dm S0 w0) : Calls Tryz.prog 85 #[.int .i64 num1, .int .i64 den2] w0 (Ret ([]) w0 S0 (ref02_New_rd w0 ([]) r)) := by
 refine en 26 Tryz.func85 rfl hS rfl rfl rfl fun a s d => ?_
 delta ref02_New at u
 refine sr (w_alloc (cs := [.int .i64 0, .int .i64 0]) s d Tryz.zeroValue54 rfl rfl trivial ?_)
 intro b3 a w s d
 refine rz 1 [] s d rfl rfl fun a s => ?_
 refine wp_seq (sn 1 [] s d rfl rfl fun a s => ?_)
 obtain ⟨rv5, h4, u⟩ := bind_t u
 refine st_callR s (ref01_In_ok h4 d.bdom) (do_call Tryz.call61 rfl) trivial rfl rfl ?_
 rintro v9 Sv6 w a h7 rfl s
 have d := d.callB h7
 refine rn 2 [] s d rfl rfl fun a s => ?_
 obtain ⟨c19, hc19, u⟩ := bind_t u
 refine wpl_join 4 (fun a w => ∃ Sv20, Sl 26 [(0, .int .i64 num1), (1, .int .i64 den2), (4, .pointer (some ⟨b3, 0, none⟩)), (14, .bool c19)] a ∧ Wd ⟨w0, S0, []⟩ Sv20 [.box b3 [.int .i64 0, .int .i64 0] 54] [] w) ?_ ?_
 ·rcases Bool.eq_false_or_eq_true (!rv5) with h18 | h18
  ·have s := s.fix 10 (.bool true) rfl (vb h18)
   have u := ite_t hc19 h18
   refine rn 4 [] s d rfl rfl fun a s => ?_
   refine wpList_nil ?_
   have u := oi u
   subst u
   exact then_normal ⟨S0, (s.wk rfl), (d.ft [0] [] (by decide) rfl rfl)⟩
  have s := s.fix 10 (.bool false) rfl (vb h18)
  have u := ite_f hc19 h18
  refine st_val s (y_move rfl) ⟨_, rfl, rfl⟩ rfl rfl fun a s => ?_
  obtain ⟨rv22, h21, u⟩ := bind_t u
  refine st_callR s (ref01_In_ok h21 d.bdom) (do_call Tryz.call61 rfl) ⟨_, rfl, rfl⟩ rfl rfl ?_
  rintro v26 Sv23 w a h24 rfl s
  have d := d.callB h24
  refine rn 2 [] s d rfl rfl fun a s => ?_
  refine wpList_nil ?_
  have u := oi u
  subst u
  exact then_normal ⟨S0, (s.wk rfl), (d.ft [0] [] (by decide) rfl rfl)⟩
 rintro a w ⟨Sv20, s, d⟩
 refine nl (cd s u rfl (fun u => ?_) fun u => ?_)
 ·refine sr (sv s (y_build (vs := []) Bld54 rfl rfl) rfl fun a s => ?_)
  refine w_store (m := 2) (cs' := [.int .i64 0, .int .i64 0]) s d 0 rfl rfl rfl Tryz.sizeOf54 rfl rfl rfl rfl trivial ?_
  intro a w s d
  refine rz 1 [] s d rfl rfl fun a s => ?_
  have u := oi u
  subst u
  exact wp_ret (then_ret (ret2 s rfl (rv_cell d 0 rfl rfl Tryz.isAgg54 Tryz.sizeOf54 rfl) (rv_tmp rfl) (d.ret rfl)))
 refine wp_skip (then_normal (sn 2 [] s d rfl rfl fun a s => ?_))
 obtain ⟨rv31, h30, u⟩ := bind_t u
 refine st_callR s (ref02_gcd_ok h30 d.bdom) (do_call Tryz.call103 rfl) trivial rfl rfl ?_
 rintro v35 Sv32 w a h33 rfl s
 have d := d.callB h33
 refine rz 1 [] s d rfl rfl fun a s => ?_
 refine wp_seq ?_
 obtain ⟨quo38, h37, u⟩ := bind_t u
 obtain ⟨quo40, h39, u⟩ := bind_t u
 refine wp_only (fun a w => ∃ Sv41, Sl 26 [(4, .pointer (some ⟨b3, 0, none⟩)), (5, .int .i64 0)] a ∧ Wd ⟨w0, S0, []⟩ Sv41 [.box b3 [.int .i64 quo38, .int .i64 quo40] 54] [] w) ?_ ?_
 ·refine h_c [] [] d rfl rfl (by kernel_rfl) rfl fun hC d => ?_
  refine gn 2 [0, 1] [] s hC rfl rfl rfl fun a s => ?_
  refine gv s 2 rfl rfl hC (fun w hC => y_quoM rfl rfl h37) fun a s => ?_
  refine gn 2 [3, 4] [] s hC rfl rfl rfl fun a s => ?_
  refine gv s 5 rfl rfl hC (fun w hC => y_quoM rfl rfl h39) fun a s => ?_
  refine gv s 6 rfl rfl hC (fun w hC => y_build (vs := [(0, .int .i64 quo38), (1, .int .i64 quo40)]) Bld54 rfl rfl) fun a s => ?_
  refine ho 7 rfl ?_
  refine w_store (m := 2) (cs' := [.int .i64 quo38, .int .i64 quo40]) s d 0 rfl rfl rfl Tryz.sizeOf54 rfl rfl rfl rfl trivial ?_
  intro a w s d
  refine h_n [] [] d rfl rfl fun hC => ?_
  refine gv s 8 rfl rfl hC (fun w hC => y_assign rfl) fun a s => ?_
  refine h_done (by kernel_rfl) ?_
  exact ⟨Sv20, (s.wk rfl), (d.ft [0] [] (by decide) rfl rfl)⟩
 rintro a w ⟨Sv41, s, d⟩
 refine then_normal ?_
 have u := oi u
 subst u
 exact wp_ret (ret2 s rfl (rv_cell d 0 rfl rfl Tryz.isAgg54 Tryz.sizeOf54 rfl) (rv_tmp rfl) (d.ret rfl))
abbrev made_Dice_Record_rd (w0 : World) (X : List Nat) (b2 : Nat) (r : (Record × Dice)) : (Nat → Prop) → World → Value → Prop := fun S w v => ∃ p0_11 k0_11 c0_11 pq0_0 kq0_0, v = V56 r.1 p0_11 k0_11 ∧ Outs X w0 S w [.row p0_11 r.1.Samples.length k0_11 c0_11 3 1, .box b2 (C87 r.2 pq0_0 kq0_0) 87] ∧ (RowA c0_11 r.1.Samples).p S w ∧ (SlA pq0_0 r.2.L.length kq0_0 r.2.L).p S w
abbrev D47t1 (b2 : Nat) (b43 : Nat) (b8 : Nat) (b9 : Nat) (n7 : Int) : Slots := [(0, .pointer (some ⟨b2, 0, none⟩)), (2, .int .i64 n7), (4, .pointer (some ⟨b8, 0, none⟩)), (6, .pointer (some ⟨b9, 0, none⟩)), (7, .pointer (some ⟨b43, 0, none⟩))]
abbrev D47t2 (b2 : Nat) (b50 : Nat) (b57 : Nat) (b73 : Nat) (rv37 : (Rate × Int)) (rv45 : (Int × Dice)) (rv52 : (Int × Dice)) (rv59 : (Int × Dice)) (rv64 : (Int × Dice)) (rv69 : (Int × Dice)) (s6 : SourceID) : Vs := [(0, 21, V52 s6), (1, 22, .pointer (some ⟨b2, 0, none⟩)), (2, 23, .int .i64 rv45.1), (3, 24, .int .i64 (w64 (250000 * rv45.1))), (4, 25, .int .i64 (w64 (1000000000000 + (w64 (250000 * rv45.1))))), (5, 26, .pointer (some ⟨b2, 0, none⟩)), (6, 27, .slice (some ⟨b50, 0, none⟩) ([0, 0, 3] : List Int).length ([0, 0, 3] : List Int).length), (7, 28, .int .i64 rv52.1), (8, 29, V54 rv37.1), (9, 30, .pointer (some ⟨b2, 0, none⟩)), (10, 31, .slice (some ⟨b57, 0, none⟩) ([0, 0, 10, 500] : List Int).length ([0, 0, 10, 500] : List Int).length), (11, 32, .int .i64 rv59.1), (12, 33, .pointer (some ⟨b2, 0, none⟩)), (13, 34, .int .i64 rv64.1), (14, 35, .pointer (some ⟨b2, 0, none⟩)), (15, 36, .int .i64 rv69.1), (16, 37, .agg #[.string s6.Network, .string s6.Station, .string s6.Location, .string s6.Channel, .int .i64 (w64 (1000000000000 + (w64 (250000 * rv45.1)))), .int .i64 rv52.1, .int .i64 rv37.1.Num, .int .i64 rv37.1.Den, .int .i64 rv59.1, .int .i64 rv64.1, .int .i64 rv69.1, .slice none ([] : List Int).length 0]), (17, 9, .pointer (some ⟨b73, 0, none⟩))]
abbrev D47t3 : List Value := [.int .i64 0, .int .i64 0, .int .i64 3]
abbrev D47t4 : List Int := ([0, 0, 3] : List Int)
abbrev D47t5 : List Value := Z7
abbrev D47t6 : List Int := ([0, 0, 10, 500] : List Int)
theorem made_Dice_Record_ok {w0 S0 b2 p3 k4 d1 s6 n7 r} (u : made_Dice_Record d1 s6 n7 = some r) (hS : Dm S0 w0) (hin : Ins S0 w0 [.box b2 (C87 d1 p3 k4) 87]) (h5 : (SlA p3 d1.L.length k4 d1.L).p S0 w0) : Calls Tryz.prog 47 #[.pointer (some ⟨b2, 0, none⟩), V52 s6, .int .i64 n7] w0 (Ret (blks [.box b2 (C87 d1 p3 k4) 87]) w0 S0 (made_Dice_Record_rd w0 (blks [.box b2 (C87 d1 p3 k4) 87]) b2 r)) := by
 refine enI 54 Tryz.func47 rfl hS hin rfl rfl rfl fun a s d => ?_
 have d := d.addE h5
 delta made_Dice_Record at u
 refine sr (w_box (cs := (C52 s6)) s d rfl rfl rfl trivial ?_)
 intro b8 a w s d
 refine w_alloc (cs := Z0) s d Tryz.zeroValue56 rfl rfl trivial ?_
 intro b9 a w s d
 refine nl (sn 1 [] s d rfl rfl fun a s => ?_)
 refine w_litSlice (α := Int) (vs := Z8) (cs := Z8) (xs := ([1, 2, 2, 3] : List Int)) s d El22 rfl rfl rfl rfl rfl rfl ⟨⟨_, rfl, rfl⟩, ⟨⟨_, rfl, rfl⟩, ⟨⟨_, rfl, rfl⟩, ⟨⟨_, rfl, rfl⟩, rfl⟩⟩⟩⟩ rfl trivial rfl fun b11 a w s d => ?_
 obtain ⟨rv13, h12, u⟩ := bind_t u
 obtain ⟨Sv17, d⟩ := w_share (α := Int) d 0 rfl 0 rfl
 refine st_callR s (made_Dice_Pick_ok h12 d.dom (d.ins [2] (by decide) rfl) (d.envAt 2 rfl) (d.envAt 0 rfl)) (do_call Tryz.call24 rfl) trivial rfl rfl ?_
 rintro v21 Sv18 w a h19 ⟨p14, k15, rfl, h22, h16⟩ s
 have d := (d.callO [2] [0, 1] (by decide) rfl h19 h22).addE (e := SlA p14 rv13.2.L.length k15 rv13.2.L) h16
 refine mv s rfl rfl fun a s => ?_
 refine w_litSlice (α := Int) (vs := Z9) (cs := Z9) (xs := ([1, 1, 1, 3] : List Int)) s d El22 rfl rfl rfl rfl rfl rfl ⟨⟨_, rfl, rfl⟩, ⟨⟨_, rfl, rfl⟩, ⟨⟨_, rfl, rfl⟩, ⟨⟨_, rfl, rfl⟩, rfl⟩⟩⟩⟩ rfl trivial rfl fun b24 a w s d => ?_
 obtain ⟨rv26, h25, u⟩ := bind_t u
 obtain ⟨Sv30, d⟩ := w_share (α := Int) d 0 rfl 0 rfl
 refine st_callR s (made_Dice_Pick_ok h25 d.dom (d.ins [0] (by decide) rfl) (d.envAt 2 rfl) (d.envAt 0 rfl)) (do_call Tryz.call24 rfl) trivial rfl rfl ?_
 rintro v34 Sv31 w a h32 ⟨p27, k28, rfl, h35, h29⟩ s
 have d := (d.callO [0] [1, 2] (by decide) rfl h32 h35).addE (e := SlA p27 rv26.2.L.length k28 rv26.2.L) h29
 obtain ⟨rv37, h36, u⟩ := bind_t u
 refine st_callR s (ref02_New_ok h36 d.bdom) (do_call Tryz.call85 rfl) trivial rfl rfl ?_
 rintro v41 Sv38 w a h39 rfl s
 have d := d.callB h39
 refine rn 3 [] s d rfl rfl fun a s => ?_
 refine w_alloc (cs := [.int .i64 0, .int .i64 0]) s d Tryz.zeroValue54 rfl rfl trivial ?_
 intro b43 a w s d
 refine w_store (m := 2) (cs' := (C54 rv37.1)) s d 0 rfl rfl rfl Tryz.sizeOf54 rfl rfl rfl rfl trivial ?_
 intro a w s d
 refine rz 1 [] s d rfl rfl fun a s => ?_
 refine wp_seq ?_
 obtain ⟨rv45, h44, u⟩ := bind_t u
 obtain ⟨rv52, h51, u⟩ := bind_t u
 obtain ⟨rv59, h58, u⟩ := bind_t u
 obtain ⟨rv64, h63, u⟩ := bind_t u
 obtain ⟨rv69, h68, u⟩ := bind_t u
 refine wp_only (fun a w => ∃ Sv74 b73 k71 p70, Sl 54 [(0, .pointer (some ⟨b2, 0, none⟩)), (2, .int .i64 n7), (6, .pointer (some ⟨b9, 0, none⟩)), (9, .pointer (some ⟨b73, 0, none⟩))] a ∧ Wd ⟨w0, S0, blks [.box b2 (C87 d1 p3 k4) 87]⟩ Sv74 [.box b2 (C87 rv69.2 p70 k71) 87, .box b9 Z0 56, .box b73 [.string s6.Network, .string s6.Station, .string s6.Location, .string s6.Channel, .int .i64 (w64 (1000000000000 + (w64 (250000 * rv45.1)))), .int .i64 rv52.1, .int .i64 rv37.1.Num, .int .i64 rv37.1.Den, .int .i64 rv59.1, .int .i64 rv64.1, .int .i64 rv69.1, .slice none ([] : List Int).length 0] 56] [SlA p70 rv69.2.L.length k71 rv69.2.L, SlA none ([] : List Int).length 0 ([] : List Int)] w) ?_ ?_
 ·refine wp_region_phi (n := 19) (Φ := fun l a w => ∃ b50 b57 b73 k47 k54 k61 k66 k71 p46 p53 p60 p65 p70 S, SlF 54 (D47t1 b2 b43 b8 b9 n7) (D47t2 b2 b50 b57 b73 rv37 rv45 rv52 rv59 rv64 rv69 s6) l a ∧ Wd ⟨w0, S0, blks [.box b2 (C87 d1 p3 k4) 87]⟩ S [.box b43 (C54 rv37.1) 54, ((bif l 15 then .box b2 (C87 rv69.2 p70 k71) 87 else (bif l 13 then .box b2 (C87 rv64.2 p65 k66) 87 else (bif l 11 then .box b2 (C87 rv59.2 p60 k61) 87 else (bif l 7 then .box b2 (C87 rv52.2 p53 k54) 87 else (bif l 2 then .box b2 (C87 rv45.2 p46 k47) 87 else .box b2 (C87 rv26.2 p27 k28) 87))))) : Res), .box b9 Z0 56, .box b8 (C52 s6) 52, ((bif l 7 then emp else (bif l 6 then .row (some ⟨b50, 0, none⟩) ([0, 0, 3] : List Int).length ([0, 0, 3] : List Int).length [.int .i64 0, .int .i64 0, .int .i64 3] 3 1 else emp)) : Res), ((bif l 11 then emp else (bif l 10 then .row (some ⟨b57, 0, none⟩) ([0, 0, 10, 500] : List Int).length ([0, 0, 10, 500] : List Int).length Z7 3 1 else emp)) : Res), ((bif l 18 then .box b73 [.string s6.Network, .string s6.Station, .string s6.Location, .string s6.Channel, .int .i64 (w64 (1000000000000 + (w64 (250000 * rv45.1)))), .int .i64 rv52.1, .int .i64 rv37.1.Num, .int .i64 rv37.1.Den, .int .i64 rv59.1, .int .i64 rv64.1, .int .i64 rv69.1, .slice none ([] : List Int).length 0] 56 else (bif l 17 then .box b73 Z0 56 else emp)) : Res)] [SlA p27 rv26.2.L.length k28 rv26.2.L, SlA (some ⟨b24, 0, none⟩) ([1, 1, 1, 3] : List Int).length ([1, 1, 1, 3] : List Int).length ([1, 1, 1, 3] : List Int), RowA Z9 ([1, 1, 1, 3] : List Int), SlA p14 rv13.2.L.length k15 rv13.2.L, SlA (some ⟨b11, 0, none⟩) ([1, 2, 2, 3] : List Int).length ([1, 2, 2, 3] : List Int).length ([1, 2, 2, 3] : List Int), RowA Z8 ([1, 2, 2, 3] : List Int), SlA p3 d1.L.length k4 d1.L, optA (l 2) (SlA p46 rv45.2.L.length k47 rv45.2.L), optA (l 6) (RowA [.int .i64 0, .int .i64 0, .int .i64 3] ([0, 0, 3] : List Int)), optA (l 7) (SlA (some ⟨b50, 0, none⟩) ([0, 0, 3] : List Int).length ([0, 0, 3] : List Int).length ([0, 0, 3] : List Int)), optA (l 7) (SlA p53 rv52.2.L.length k54 rv52.2.L), optA (l 10) (RowA Z7 ([0, 0, 10, 500] : List Int)), optA (l 11) (SlA (some ⟨b57, 0, none⟩) ([0, 0, 10, 500] : List Int).length ([0, 0, 10, 500] : List Int).length ([0, 0, 10, 500] : List Int)), optA (l 11) (SlA p60 rv59.2.L.length k61 rv59.2.L), optA (l 13) (SlA p65 rv64.2.L.length k66 rv64.2.L), optA (l 15) (SlA p70 rv69.2.L.length k71 rv69.2.L)] w) [1, 1, 2, 3, 4, 1, 1, 3, 1, 1, 1, 4, 1, 5, 1, 6, 7, 1, 8] (by kernel_rfl) rfl (by kernel_rfl) ?_ (AllS.succ (AllS.succ (AllS.succ (AllS.succ (AllS.succ (AllS.succ (AllS.succ (AllS.succ (AllS.succ (AllS.succ (AllS.succ (AllS.succ (AllS.succ (AllS.succ (AllS.succ (AllS.succ (AllS.succ (AllS.succ (AllS.succ AllS.zero ?_) ?_) ?_) ?_) ?_) ?_) ?_) ?_) ?_) ?_) ?_) ?_) ?_) ?_) ?_) ?_) ?_) ?_) ?_) ?_
  ·obtain ⟨b50, b57, b73, k47, k54, k61, k66, k71, p46, p53, p60, p65, p70, _⟩ : ∃ b50 b57 b73 k47 k54 k61 k66 k71 p46 p53 p60 p65 p70, True := ⟨0, 0, 0, 0, 0, 0, 0, 0, none, none, none, none, none, trivial⟩
   have d := ((d.drew).emp).emp
   have d := ((d.emp).noE (SlA p70 rv69.2.L.length k71 rv69.2.L)).noE (SlA p65 rv64.2.L.length k66 rv64.2.L)
   have d := ((d.noE (SlA p60 rv59.2.L.length k61 rv59.2.L)).noE (SlA (some ⟨b57, 0, none⟩) ([0, 0, 10, 500] : List Int).length ([0, 0, 10, 500] : List Int).length ([0, 0, 10, 500] : List Int))).noE (RowA Z7 ([0, 0, 10, 500] : List Int))
   have d := ((d.noE (SlA p53 rv52.2.L.length k54 rv52.2.L)).noE (SlA (some ⟨b50, 0, none⟩) ([0, 0, 3] : List Int).length ([0, 0, 3] : List Int).length ([0, 0, 3] : List Int))).noE (RowA [.int .i64 0, .int .i64 0, .int .i64 3] ([0, 0, 3] : List Int))
   have d := d.noE (SlA p46 rv45.2.L.length k47 rv45.2.L)
   exact ⟨b50, b57, b73, k47, k54, k61, k66, k71, p46, p53, p60, p65, p70, Sv31, SlF.init (s.wk rfl) (by kernel_rfl), d.ft [3, 4, 5, 6, 0, 1, 2] [9, 10, 11, 12, 13, 14, 15, 0, 1, 2, 3, 4, 5, 6, 7, 8] (by decide) rfl rfl⟩
  ·intro l hi hp hc a w ⟨b50, b57, b73, k47, k54, k61, k66, k71, p46, p53, p60, p65, p70, S, hS, d⟩
   refine S_val hS (.b (t := 4) rfl .nil) rfl rfl trivial (y_loadBA (d.ownAt 3 rfl) rfl Tryz.isAgg52 Tryz.sizeOf52 rfl rfl) (rfl) 0 rfl fun a hS => ⟨b50, b57, b73, k47, k54, k61, k66, k71, p46, p53, p60, p65, p70, S, hS, d⟩
  ·intro l hi hp hc a w ⟨b50, b57, b73, k47, k54, k61, k66, k71, p46, p53, p60, p65, p70, S, hS, d⟩
   refine S_val hS (.b (t := 0) rfl .nil) rfl rfl trivial (y_move rfl) (rfl) 1 rfl fun a hS => ⟨b50, b57, b73, k47, k54, k61, k66, k71, p46, p53, p60, p65, p70, S, hS, d⟩
  ·intro l hi hp hc a w ⟨b50, b57, b73, k47, k54, k61, k66, k71, p46, p53, p60, p65, p70, S, hS, d⟩
   have h_7 := l_neg hc 7 hi rfl
   have h_11 := l_neg hc 11 h_7 rfl
   have h_13 := l_neg hc 13 h_11 rfl
   have h_15 := l_neg hc 15 h_13 rfl
   have d := d.fixR 1 (r' := .box b2 (C87 rv26.2 p27 k28) 87) rfl ((bF h_15).trans ((bF h_13).trans ((bF h_11).trans ((bF h_7).trans ((bF hi))))))
   have h_1 := hp 1 rfl
   refine S_eff rfl ?_
   have s := hS.open_ (.v (t := 22) 1 rfl h_1 .nil)
   refine st_callR s (made_Dice_Next_ok h44 d.dom (d.ins [1] (by decide) rfl) (d.envAt 0 rfl)) (do_call Tryz.call30 rfl) trivial rfl rfl ?_
   rintro v110 Sv107 w a h108 ⟨p46, k47, rfl, h111, h48⟩ s
   have d := ((d.callO [1] [0, 2, 3, 4, 5, 6] (by decide) rfl h108 h111).addE (e := SlA p46 rv45.2.L.length k47 rv45.2.L) h48).fixR 0 (r' := (bif l 15 then .box b2 (C87 rv69.2 p70 k71) 87 else (bif l 13 then .box b2 (C87 rv64.2 p65 k66) 87 else (bif l 11 then .box b2 (C87 rv59.2 p60 k61) 87 else (bif l 7 then .box b2 (C87 rv52.2 p53 k54) 87 else .box b2 (C87 rv45.2 p46 k47) 87))))) rfl ((bF h_15).trans ((bF h_13).trans ((bF h_11).trans ((bF h_7))))).symm
   have d := d.opt 0 rfl true
   exact nl ⟨b50, b57, b73, k47, k54, k61, k66, k71, p46, p53, p60, p65, p70, Sv107, hS.close (.v (t := 22) 1 rfl h_1 .nil) s rfl (.same (.same (.here (.same (.same (.same (.same (.same (.same (.same (.same (.same (.same (.same (.same (.same (.same (.same .nil)))))))))))))))))) 2 rfl, d.ft [1, 0, 2, 3, 4, 5, 6] [2, 3, 4, 5, 6, 7, 8, 0, 10, 11, 12, 13, 14, 15, 16, 17] (by decide) rfl rfl⟩
  ·intro l hi hp hc a w ⟨b50, b57, b73, k47, k54, k61, k66, k71, p46, p53, p60, p65, p70, S, hS, d⟩
   have h_2 := hp 2 rfl
   refine S_val hS (.v (t := 23) 2 rfl h_2 .nil) rfl rfl trivial (y_mul rfl rfl) (rfl) 3 rfl fun a hS => ⟨b50, b57, b73, k47, k54, k61, k66, k71, p46, p53, p60, p65, p70, S, hS, d⟩
  ·intro l hi hp hc a w ⟨b50, b57, b73, k47, k54, k61, k66, k71, p46, p53, p60, p65, p70, S, hS, d⟩
   have h_3 := hp 3 rfl
   refine S_val hS (.v (t := 24) 3 rfl h_3 .nil) rfl rfl trivial (y_add rfl rfl) (rfl) 4 rfl fun a hS => ⟨b50, b57, b73, k47, k54, k61, k66, k71, p46, p53, p60, p65, p70, S, hS, d⟩
  ·intro l hi hp hc a w ⟨b50, b57, b73, k47, k54, k61, k66, k71, p46, p53, p60, p65, p70, S, hS, d⟩
   refine S_val hS (.b (t := 0) rfl .nil) rfl rfl trivial (y_move rfl) (rfl) 5 rfl fun a hS => ⟨b50, b57, b73, k47, k54, k61, k66, k71, p46, p53, p60, p65, p70, S, hS, d⟩
  ·intro l hi hp hc a w ⟨b50, b57, b73, k47, k54, k61, k66, k71, p46, p53, p60, p65, p70, S, hS, d⟩
   refine S_eff rfl ?_
   have s := hS.open_ .nil
   refine w_litSlice (α := Int) (vs := D47t3) (cs := D47t3) (xs := D47t4) s d El22 rfl rfl rfl rfl rfl rfl ⟨⟨_, rfl, rfl⟩, ⟨⟨_, rfl, rfl⟩, ⟨⟨_, rfl, rfl⟩, rfl⟩⟩⟩ rfl trivial rfl fun b50 a w s d => ?_
   have h_7 := l_neg hc 7 hi rfl
   have d := ((d.fixR 0 (r' := (bif l 7 then emp else .row (some ⟨b50, 0, none⟩) ([0, 0, 3] : List Int).length ([0, 0, 3] : List Int).length [.int .i64 0, .int .i64 0, .int .i64 3] 3 1)) rfl ((bF h_7)).symm).opt 0 rfl true).noL h_7 (SlA (some ⟨b50, 0, none⟩) ([0, 0, 3] : List Int).length ([0, 0, 3] : List Int).length ([0, 0, 3] : List Int))
   exact nl ⟨b50, b57, b73, k47, k54, k61, k66, k71, p46, p53, p60, p65, p70, S, hS.close .nil s rfl (.same (.same (.same (.same (.same (.same (.here (.same (.same (.same (.same (.same (.same (.same (.same (.same (.same (.same .nil)))))))))))))))))) 6 rfl, d.ft [1, 2, 3, 4, 0, 6, 7] [3, 4, 5, 6, 7, 8, 9, 10, 1, 0, 13, 14, 15, 16, 17, 18] (by decide) rfl rfl⟩
  ·intro l hi hp hc a w ⟨b50, b57, b73, k47, k54, k61, k66, k71, p46, p53, p60, p65, p70, S, hS, d⟩
   have h_11 := l_neg hc 11 hi rfl
   have h_13 := l_neg hc 13 h_11 rfl
   have h_15 := l_neg hc 15 h_13 rfl
   have h_2 := hp 2 rfl
   have d := d.fixR 1 (r' := .box b2 (C87 rv45.2 p46 k47) 87) rfl ((bF h_15).trans ((bF h_13).trans ((bF h_11).trans ((bF hi).trans ((bT h_2))))))
   have h_6 := hp 6 rfl
   have d := ((d.fixR 4 (r' := .row (some ⟨b50, 0, none⟩) ([0, 0, 3] : List Int).length ([0, 0, 3] : List Int).length [.int .i64 0, .int .i64 0, .int .i64 3] 3 1) rfl ((bF hi).trans ((bT h_6)))).yes 7 rfl h_2).yes 9 rfl h_6
   have h_5 := hp 5 rfl
   refine S_eff rfl ?_
   have s := hS.open_ (.v (t := 26) 5 rfl h_5 (.v (t := 27) 6 rfl h_6 .nil))
   obtain ⟨Sv118, d⟩ := w_share (α := Int) d 4 rfl 0 rfl
   refine st_callR s (made_Dice_Pick_ok h51 d.dom (d.ins [1] (by decide) rfl) (d.envAt 2 rfl) (d.envAt 0 rfl)) (do_call Tryz.call24 rfl) trivial rfl rfl ?_
   rintro v122 Sv119 w a h120 ⟨p53, k54, rfl, h123, h55⟩ s
   have d := ((d.callO [1] [0, 2, 3, 4, 5] (by decide) rfl h120 h123).addE (e := SlA p53 rv52.2.L.length k54 rv52.2.L) h55).fixR 0 (r' := (bif l 15 then .box b2 (C87 rv69.2 p70 k71) 87 else (bif l 13 then .box b2 (C87 rv64.2 p65 k66) 87 else (bif l 11 then .box b2 (C87 rv59.2 p60 k61) 87 else .box b2 (C87 rv52.2 p53 k54) 87)))) rfl ((bF h_15).trans ((bF h_13).trans ((bF h_11)))).symm
   have d := ((d.emp).opt 1 rfl true).opt 1 rfl true
   exact nl ⟨b50, b57, b73, k47, k54, k61, k66, k71, p46, p53, p60, p65, p70, Sv119, hS.close (.v (t := 26) 5 rfl h_5 (.v (t := 27) 6 rfl h_6 .nil)) s rfl (.same (.same (.same (.same (.same (.same (.same (.here (.same (.same (.same (.same (.same (.same (.same (.same (.same (.same .nil)))))))))))))))))) 7 rfl, d.ft [2, 1, 3, 4, 0, 5, 6] [6, 7, 8, 9, 10, 11, 12, 13, 14, 1, 0, 17, 18, 19, 20, 21] (by decide) rfl rfl⟩
  ·intro l hi hp hc a w ⟨b50, b57, b73, k47, k54, k61, k66, k71, p46, p53, p60, p65, p70, S, hS, d⟩
   refine S_val hS (.b (t := 7) rfl .nil) rfl rfl trivial (y_loadBA (d.ownAt 0 rfl) rfl Tryz.isAgg54 Tryz.sizeOf54 rfl rfl) (rfl) 8 rfl fun a hS => ⟨b50, b57, b73, k47, k54, k61, k66, k71, p46, p53, p60, p65, p70, S, hS, d⟩
  ·intro l hi hp hc a w ⟨b50, b57, b73, k47, k54, k61, k66, k71, p46, p53, p60, p65, p70, S, hS, d⟩
   refine S_val hS (.b (t := 0) rfl .nil) rfl rfl trivial (y_move rfl) (rfl) 9 rfl fun a hS => ⟨b50, b57, b73, k47, k54, k61, k66, k71, p46, p53, p60, p65, p70, S, hS, d⟩
  ·intro l hi hp hc a w ⟨b50, b57, b73, k47, k54, k61, k66, k71, p46, p53, p60, p65, p70, S, hS, d⟩
   refine S_eff rfl ?_
   have s := hS.open_ .nil
   refine w_litSlice (α := Int) (vs := D47t5) (cs := D47t5) (xs := D47t6) s d El22 rfl rfl rfl rfl rfl rfl ⟨⟨_, rfl, rfl⟩, ⟨⟨_, rfl, rfl⟩, ⟨⟨_, rfl, rfl⟩, ⟨⟨_, rfl, rfl⟩, rfl⟩⟩⟩⟩ rfl trivial rfl fun b57 a w s d => ?_
   have h_11 := l_neg hc 11 hi rfl
   have d := ((d.fixR 0 (r' := (bif l 11 then emp else .row (some ⟨b57, 0, none⟩) ([0, 0, 10, 500] : List Int).length ([0, 0, 10, 500] : List Int).length Z7 3 1)) rfl ((bF h_11)).symm).opt 0 rfl true).noL h_11 (SlA (some ⟨b57, 0, none⟩) ([0, 0, 10, 500] : List Int).length ([0, 0, 10, 500] : List Int).length ([0, 0, 10, 500] : List Int))
   exact nl ⟨b50, b57, b73, k47, k54, k61, k66, k71, p46, p53, p60, p65, p70, S, hS.close .nil s rfl (.same (.same (.same (.same (.same (.same (.same (.same (.same (.same (.here (.same (.same (.same (.same (.same (.same (.same .nil)))))))))))))))))) 10 rfl, d.ft [1, 2, 3, 4, 5, 0, 7] [3, 4, 5, 6, 7, 8, 9, 10, 11, 12, 13, 1, 0, 16, 17, 18] (by decide) rfl rfl⟩
  ·intro l hi hp hc a w ⟨b50, b57, b73, k47, k54, k61, k66, k71, p46, p53, p60, p65, p70, S, hS, d⟩
   have h_13 := l_neg hc 13 hi rfl
   have h_15 := l_neg hc 15 h_13 rfl
   have h_7 := hp 7 rfl
   have d := d.fixR 1 (r' := .box b2 (C87 rv52.2 p53 k54) 87) rfl ((bF h_15).trans ((bF h_13).trans ((bF hi).trans ((bT h_7)))))
   have h_10 := hp 10 rfl
   have d := ((d.fixR 5 (r' := .row (some ⟨b57, 0, none⟩) ([0, 0, 10, 500] : List Int).length ([0, 0, 10, 500] : List Int).length Z7 3 1) rfl ((bF hi).trans ((bT h_10)))).yes 10 rfl h_7).yes 12 rfl h_10
   have h_9 := hp 9 rfl
   refine S_eff rfl ?_
   have s := hS.open_ (.v (t := 30) 9 rfl h_9 (.v (t := 31) 10 rfl h_10 .nil))
   obtain ⟨Sv130, d⟩ := w_share (α := Int) d 5 rfl 0 rfl
   refine st_callR s (made_Dice_Pick_ok h58 d.dom (d.ins [1] (by decide) rfl) (d.envAt 2 rfl) (d.envAt 0 rfl)) (do_call Tryz.call24 rfl) trivial rfl rfl ?_
   rintro v134 Sv131 w a h132 ⟨p60, k61, rfl, h135, h62⟩ s
   have d := ((d.callO [1] [0, 2, 3, 4, 5] (by decide) rfl h132 h135).addE (e := SlA p60 rv59.2.L.length k61 rv59.2.L) h62).fixR 0 (r' := (bif l 15 then .box b2 (C87 rv69.2 p70 k71) 87 else (bif l 13 then .box b2 (C87 rv64.2 p65 k66) 87 else .box b2 (C87 rv59.2 p60 k61) 87))) rfl ((bF h_15).trans ((bF h_13))).symm
   have d := ((d.emp).opt 1 rfl true).opt 1 rfl true
   exact nl ⟨b50, b57, b73, k47, k54, k61, k66, k71, p46, p53, p60, p65, p70, Sv131, hS.close (.v (t := 30) 9 rfl h_9 (.v (t := 31) 10 rfl h_10 .nil)) s rfl (.same (.same (.same (.same (.same (.same (.same (.same (.same (.same (.same (.here (.same (.same (.same (.same (.same (.same .nil)))))))))))))))))) 11 rfl, d.ft [2, 1, 3, 4, 5, 0, 6] [6, 7, 8, 9, 10, 11, 12, 13, 14, 15, 16, 17, 1, 0, 20, 21] (by decide) rfl rfl⟩
  ·intro l hi hp hc a w ⟨b50, b57, b73, k47, k54, k61, k66, k71, p46, p53, p60, p65, p70, S, hS, d⟩
   refine S_val hS (.b (t := 0) rfl .nil) rfl rfl trivial (y_move rfl) (rfl) 12 rfl fun a hS => ⟨b50, b57, b73, k47, k54, k61, k66, k71, p46, p53, p60, p65, p70, S, hS, d⟩
  ·intro l hi hp hc a w ⟨b50, b57, b73, k47, k54, k61, k66, k71, p46, p53, p60, p65, p70, S, hS, d⟩
   have h_15 := l_neg hc 15 hi rfl
   have h_11 := hp 11 rfl
   have d := (d.fixR 1 (r' := .box b2 (C87 rv59.2 p60 k61) 87) rfl ((bF h_15).trans ((bF hi).trans ((bT h_11))))).yes 13 rfl h_11
   have h_12 := hp 12 rfl
   refine S_eff rfl ?_
   have s := hS.open_ (.v (t := 33) 12 rfl h_12 .nil)
   refine st_callR s (made_Dice_Next_ok h63 d.dom (d.ins [1] (by decide) rfl) (d.envAt 0 rfl)) (do_call Tryz.call30 rfl) trivial rfl rfl ?_
   rintro v144 Sv141 w a h142 ⟨p65, k66, rfl, h145, h67⟩ s
   have d := ((d.callO [1] [0, 2, 3, 4, 5, 6] (by decide) rfl h142 h145).addE (e := SlA p65 rv64.2.L.length k66 rv64.2.L) h67).fixR 0 (r' := (bif l 15 then .box b2 (C87 rv69.2 p70 k71) 87 else .box b2 (C87 rv64.2 p65 k66) 87)) rfl ((bF h_15)).symm
   have d := d.opt 0 rfl true
   exact nl ⟨b50, b57, b73, k47, k54, k61, k66, k71, p46, p53, p60, p65, p70, Sv141, hS.close (.v (t := 33) 12 rfl h_12 .nil) s rfl (.same (.same (.same (.same (.same (.same (.same (.same (.same (.same (.same (.same (.same (.here (.same (.same (.same (.same .nil)))))))))))))))))) 13 rfl, d.ft [1, 0, 2, 3, 4, 5, 6] [3, 4, 5, 6, 7, 8, 9, 10, 11, 12, 13, 14, 15, 16, 0, 18] (by decide) rfl rfl⟩
  ·intro l hi hp hc a w ⟨b50, b57, b73, k47, k54, k61, k66, k71, p46, p53, p60, p65, p70, S, hS, d⟩
   refine S_val hS (.b (t := 0) rfl .nil) rfl rfl trivial (y_move rfl) (rfl) 14 rfl fun a hS => ⟨b50, b57, b73, k47, k54, k61, k66, k71, p46, p53, p60, p65, p70, S, hS, d⟩
  ·intro l hi hp hc a w ⟨b50, b57, b73, k47, k54, k61, k66, k71, p46, p53, p60, p65, p70, S, hS, d⟩
   have h_13 := hp 13 rfl
   have d := (d.fixR 1 (r' := .box b2 (C87 rv64.2 p65 k66) 87) rfl ((bF hi).trans ((bT h_13)))).yes 14 rfl h_13
   have h_14 := hp 14 rfl
   refine S_eff rfl ?_
   have s := hS.open_ (.v (t := 35) 14 rfl h_14 .nil)
   refine st_callR s (made_Dice_Next_ok h68 d.dom (d.ins [1] (by decide) rfl) (d.envAt 0 rfl)) (do_call Tryz.call30 rfl) trivial rfl rfl ?_
   rintro v154 Sv151 w a h152 ⟨p70, k71, rfl, h155, h72⟩ s
   have d := ((d.callO [1] [0, 2, 3, 4, 5, 6] (by decide) rfl h152 h155).addE (e := SlA p70 rv69.2.L.length k71 rv69.2.L) h72).opt 0 rfl true
   exact nl ⟨b50, b57, b73, k47, k54, k61, k66, k71, p46, p53, p60, p65, p70, Sv151, hS.close (.v (t := 35) 14 rfl h_14 .nil) s rfl (.same (.same (.same (.same (.same (.same (.same (.same (.same (.same (.same (.same (.same (.same (.same (.here (.same (.same .nil)))))))))))))))))) 15 rfl, d.ft [1, 0, 2, 3, 4, 5, 6] [3, 4, 5, 6, 7, 8, 9, 10, 11, 12, 13, 14, 15, 16, 17, 0] (by decide) rfl rfl⟩
  ·intro l hi hp hc a w ⟨b50, b57, b73, k47, k54, k61, k66, k71, p46, p53, p60, p65, p70, S, hS, d⟩
   have h_15 := hp 15 rfl
   have h_13 := hp 13 rfl
   have h_11 := hp 11 rfl
   have h_8 := hp 8 rfl
   have h_7 := hp 7 rfl
   have h_4 := hp 4 rfl
   have h_0 := hp 0 rfl
   refine S_val hS (.v (t := 21) 0 rfl h_0 (.v (t := 25) 4 rfl h_4 (.v (t := 28) 7 rfl h_7 (.v (t := 29) 8 rfl h_8 (.v (t := 32) 11 rfl h_11 (.v (t := 34) 13 rfl h_13 (.v (t := 36) 15 rfl h_15 .nil))))))) rfl rfl trivial (y_build (vs := [(0, V52 s6), (1, .int .i64 (w64 (1000000000000 + (w64 (250000 * rv45.1))))), (2, .int .i64 rv52.1), (3, V54 rv37.1), (4, .int .i64 rv59.1), (5, .int .i64 rv64.1), (6, .int .i64 rv69.1)]) Bld56 rfl rfl) (rfl) 16 rfl fun a hS => ⟨b50, b57, b73, k47, k54, k61, k66, k71, p46, p53, p60, p65, p70, S, hS, d⟩
  ·intro l hi hp hc a w ⟨b50, b57, b73, k47, k54, k61, k66, k71, p46, p53, p60, p65, p70, S, hS, d⟩
   refine S_eff rfl ?_
   have s := hS.open_ .nil
   refine w_alloc (cs := Z0) s d Tryz.zeroValue56 rfl rfl trivial ?_
   intro b73 a w s d
   have h_18 := l_neg hc 18 hi rfl
   have d := d.fixR 0 (r' := (bif l 18 then .box b73 [.string s6.Network, .string s6.Station, .string s6.Location, .string s6.Channel, .int .i64 (w64 (1000000000000 + (w64 (250000 * rv45.1)))), .int .i64 rv52.1, .int .i64 rv37.1.Num, .int .i64 rv37.1.Den, .int .i64 rv59.1, .int .i64 rv64.1, .int .i64 rv69.1, .slice none ([] : List Int).length 0] 56 else .box b73 Z0 56)) rfl ((bF h_18)).symm
   exact nl ⟨b50, b57, b73, k47, k54, k61, k66, k71, p46, p53, p60, p65, p70, S, hS.close .nil s rfl (.same (.same (.same (.same (.same (.same (.same (.same (.same (.same (.same (.same (.same (.same (.same (.same (.same (.here .nil)))))))))))))))))) 17 rfl, d.ft [1, 2, 3, 4, 5, 6, 0] [0, 1, 2, 3, 4, 5, 6, 7, 8, 9, 10, 11, 12, 13, 14, 15] (by decide) rfl rfl⟩
  ·intro l hi hp hc a w ⟨b50, b57, b73, k47, k54, k61, k66, k71, p46, p53, p60, p65, p70, S, hS, d⟩
   have h_17 := hp 17 rfl
   have d := d.fixR 6 (r' := .box b73 Z0 56) rfl ((bF hi).trans ((bT h_17)))
   have h_16 := hp 16 rfl
   refine S_eff rfl ?_
   have s := hS.open_ (.v (t := 9) 17 rfl h_17 (.v (t := 37) 16 rfl h_16 .nil))
   refine w_store (m := 12) (cs' := [.string s6.Network, .string s6.Station, .string s6.Location, .string s6.Channel, .int .i64 (w64 (1000000000000 + (w64 (250000 * rv45.1)))), .int .i64 rv52.1, .int .i64 rv37.1.Num, .int .i64 rv37.1.Den, .int .i64 rv59.1, .int .i64 rv64.1, .int .i64 rv69.1, .slice none ([] : List Int).length 0]) s d 6 rfl rfl rfl Tryz.sizeOf56 rfl rfl rfl rfl trivial ?_
   intro a w s d
   exact nl ⟨b50, b57, b73, k47, k54, k61, k66, k71, p46, p53, p60, p65, p70, S, hS.close0 (.v (t := 9) 17 rfl h_17 (.v (t := 37) 16 rfl h_16 .nil)) s rfl, d.ft [0, 1, 2, 3, 4, 5, 6] [0, 1, 2, 3, 4, 5, 6, 7, 8, 9, 10, 11, 12, 13, 14, 15] (by decide) rfl rfl⟩
  intro l a w hl ⟨b50, b57, b73, k47, k54, k61, k66, k71, p46, p53, p60, p65, p70, S, hS, d⟩
  have d := ((d.yes 15 rfl (hl 15 (by decide))).fixR 1 (r' := .box b2 (C87 rv69.2 p70 k71) 87) rfl (bT (hl 15 (by decide)))).fixR 6 (r' := .box b73 [.string s6.Network, .string s6.Station, .string s6.Location, .string s6.Channel, .int .i64 (w64 (1000000000000 + (w64 (250000 * rv45.1)))), .int .i64 rv52.1, .int .i64 rv37.1.Num, .int .i64 rv37.1.Den, .int .i64 rv59.1, .int .i64 rv64.1, .int .i64 rv69.1, .slice none ([] : List Int).length 0] 56) rfl (bT (hl 18 (by decide)))
  have s := hS.on (.b (t := 0) rfl (.b (t := 2) rfl (.b (t := 6) rfl (.v (t := 9) 17 rfl (hl 17 (by decide)) .nil))))
  have d := d.addE (e := SlA (α := Int) none 0 0 []) nil_sl
  exact ⟨S, b73, k71, p70, (s.wk rfl), (d.ft [1, 2, 6] [1, 0] (by decide) rfl rfl)⟩
 rintro a w ⟨Sv74, b73, k71, p70, s, d⟩
 refine then_normal (wp_seq (sn 2 [] s d rfl rfl fun a s => ?_))
 obtain ⟨rv157, h156, u⟩ := bind_t u
 refine st_callR s (made_Dice_Next_ok h156 d.dom (d.ins [0] (by decide) rfl) (d.envAt 0 rfl)) (do_call Tryz.call30 rfl) trivial rfl rfl ?_
 rintro v164 Sv161 w a h162 ⟨p158, k159, rfl, h165, h160⟩ s
 have d := (d.callO [0] [1, 2] (by decide) rfl h162 h165).addE (e := SlA p158 rv157.2.L.length k159 rv157.2.L) h160
 refine sv s (y_add rfl rfl) rfl fun a s => ?_
 obtain ⟨i167, h166, u⟩ := bind_t u
 refine sv s (y_assignI rfl h166) rfl fun a s => ?_
 refine nl ?_
 obtain ⟨e232, h280, u⟩ := bind_t u
 refine wp_join (fun a w => ∃ p233 k234 c235 p236 k237 Sv238, Sl 54 [(6, .pointer (some ⟨b9, 0, none⟩)), (9, .pointer (some ⟨b73, 0, none⟩))] a ∧ Wd ⟨w0, S0, blks [.box b2 (C87 d1 p3 k4) 87]⟩ Sv238 [.box b2 [.slice p233 e232.1.length k234, .int .i64 e232.2.1] 87, .box b9 Z0 56, .box b73 [.string s6.Network, .string s6.Station, .string s6.Location, .string s6.Channel, .int .i64 (w64 (1000000000000 + (w64 (250000 * rv45.1)))), .int .i64 rv52.1, .int .i64 rv37.1.Num, .int .i64 rv37.1.Den, .int .i64 rv59.1, .int .i64 rv64.1, .int .i64 rv69.1, .slice p236 e232.2.2.length k237] 56, .row p236 e232.2.2.length k237 c235 3 1] [SlA p233 e232.1.length k234 e232.1, SlA none ([] : List Int).length 0 ([] : List Int), RowA c235 e232.2.2] w) ?_ ?_
 ·refine wp_block ?_
  have d := d.nilRow Int 3
  refine wp_while (fun sv168 a w => ∃ p207 k208 c209 p210 k211 Sv212, Sl 54 [(0, .pointer (some ⟨b2, 0, none⟩)), (6, .pointer (some ⟨b9, 0, none⟩)), (9, .pointer (some ⟨b73, 0, none⟩)), (10, .int .i64 sv168.2.2.2)] a ∧ Wd ⟨w0, S0, blks [.box b2 (C87 d1 p3 k4) 87]⟩ Sv212 [.box b2 [.slice p207 sv168.1.length k208, .int .i64 sv168.2.1] 87, .box b9 Z0 56, .box b73 [.string s6.Network, .string s6.Station, .string s6.Location, .string s6.Channel, .int .i64 (w64 (1000000000000 + (w64 (250000 * rv45.1)))), .int .i64 rv52.1, .int .i64 rv37.1.Num, .int .i64 rv37.1.Den, .int .i64 rv59.1, .int .i64 rv64.1, .int .i64 rv69.1, .slice p210 sv168.2.2.1.length k211] 56, .row p210 sv168.2.2.1.length k211 c209 3 1] [SlA p207 sv168.1.length k208 sv168.1, SlA none ([] : List Int).length 0 ([] : List Int), RowA c209 sv168.2.2.1] w) (rv157.2.L, rv157.2.At, ([] : List Int), i167) h280 ⟨p158, k159, [], none, 0, Sv161, (s.wk rfl), (d.ft [1, 2, 3, 0] [1, 3, 0] (by decide) rfl rfl)⟩ ?_
  clear h280
  repeat clear u
  rintro sv168 a w tv230 ⟨p207, k208, c209, p210, k211, Sv212, s, d⟩ u hd229
  delta made_Dice_Record_l1 at u
  refine wp_seq (sz 2 [] s d rfl rfl fun a s => ?_)
  refine cd s u rfl (fun u => ?_) fun u => ?_
  ·refine wp_skip (then_normal (wp_seq (wp_block ?_)))
   obtain ⟨rv255, h254, u⟩ := bind_t u
   obtain ⟨l262, h261, u⟩ := bind_t u
   refine wp_only (fun a w => ∃ Sv266 c265 k257 k264 p256 p263, Sl 54 [(0, .pointer (some ⟨b2, 0, none⟩)), (6, .pointer (some ⟨b9, 0, none⟩)), (9, .pointer (some ⟨b73, 0, none⟩)), (10, .int .i64 sv168.2.2.2)] a ∧ Wd ⟨w0, S0, blks [.box b2 (C87 d1 p3 k4) 87]⟩ Sv266 [.box b2 (C87 rv255.2 p256 k257) 87, .box b9 Z0 56, .box b73 [.string s6.Network, .string s6.Station, .string s6.Location, .string s6.Channel, .int .i64 (w64 (1000000000000 + (w64 (250000 * rv45.1)))), .int .i64 rv52.1, .int .i64 rv37.1.Num, .int .i64 rv37.1.Den, .int .i64 rv59.1, .int .i64 rv64.1, .int .i64 rv69.1, .slice p263 l262.length k264] 56, .row p263 l262.length k264 c265 3 1] [SlA p256 rv255.2.L.length k257 rv255.2.L, SlA none ([] : List Int).length 0 ([] : List Int), RowA c265 l262] w) ?_ ?_
   ·refine h_c [1] [] d rfl rfl (by kernel_rfl) rfl fun hC d => ?_
    refine gn 2 [0, 2] [] s hC rfl rfl rfl fun a s => ?_
    refine h_all (rs := [1, 3]) (by kernel_rfl) rfl ?_
    refine AllH.cons rfl ?_ ?_
    ·refine sv s (y_loadB1 (d.ownAt 2 rfl) rfl Tryz.isAgg22 rfl) rfl fun a s => ?_
     refine h_n [1] [] d rfl rfl fun hC => ?_
     refine ho 3 rfl ?_
     refine st_callR s (made_Dice_Next_ok h254 d.dom (d.ins [0] (by decide) rfl) (d.envAt 0 rfl)) (do_call Tryz.call30 rfl) trivial rfl rfl ?_
     rintro v270 Sv267 w a h268 ⟨p256, k257, rfl, h271, h258⟩ s
     have d := (d.callO [0] [1, 2, 3] (by decide) rfl h268 h271).addE (e := SlA p256 rv255.2.L.length k257 rv255.2.L) h258
     refine h_n [1] [] d rfl rfl fun hC => ?_
     refine ho 4 rfl ?_
     refine w_litSlice (α := Int) (vs := [.int .i64 rv255.1]) (cs := [.int .i64 rv255.1]) (xs := ([rv255.1] : List Int)) s d El22 rfl rfl rfl rfl rfl rfl ⟨⟨_, rfl, rfl⟩, rfl⟩ rfl trivial rfl fun b260 a w s d => ?_
     refine h_n [2] [] d rfl rfl fun hC => ?_
     refine h_d [2, 0] [] [0] [] d rfl rfl rfl rfl fun hC => ?_
     refine ho 5 rfl ?_
     refine w_appendR (α := Int) s d El22 4 rfl rfl rfl 4 rfl 0 rfl 0 rfl h261 rfl trivial ?_
     intro p263 k264 c265 a w s d
     refine h_n [2, 0] [] d rfl rfl fun hC => ?_
     refine gv s 6 rfl rfl hC (fun w hC => y_fieldAddr (o' := 11) Tryz.runUnderlying56 rfl Tryz.sizeOf22 rfl rfl rfl) fun a s => ?_
     refine ho 7 rfl ?_
     refine w_store (m := 1) (cs' := [.string s6.Network, .string s6.Station, .string s6.Location, .string s6.Channel, .int .i64 (w64 (1000000000000 + (w64 (250000 * rv45.1)))), .int .i64 rv52.1, .int .i64 rv37.1.Num, .int .i64 rv37.1.Den, .int .i64 rv59.1, .int .i64 rv64.1, .int .i64 rv69.1, .slice p263 l262.length k264]) s d 3 rfl rfl rfl Tryz.sizeOf22 rfl rfl rfl rfl trivial ?_
     intro a w s d
     refine h_n [2, 0] [] d rfl rfl fun hC => ?_
     refine h_done (by kernel_rfl) ?_
     exact ⟨Sv267, c265, k257, k264, p256, p263, (s.wk rfl), (d.ft [1, 2, 3, 4] [2, 4, 0] (by decide) rfl rfl)⟩
    refine AllH.cons rfl ?_ ?_
    ·refine st_callR s (made_Dice_Next_ok h254 d.dom (d.ins [0] (by decide) rfl) (d.envAt 0 rfl)) (do_call Tryz.call30 rfl) trivial rfl rfl ?_
     rintro v275 Sv272 w a h273 ⟨p256, k257, rfl, h276, h258⟩ s
     have d := (d.callO [0] [1, 2, 3] (by decide) rfl h273 h276).addE (e := SlA p256 rv255.2.L.length k257 rv255.2.L) h258
     refine h_n [1] [] d rfl rfl fun hC => ?_
     refine h_all (rs := [1, 4]) (by kernel_rfl) rfl ?_
     refine AllH.cons rfl ?_ ?_
     ·refine sv s (y_loadB1 (d.ownAt 2 rfl) rfl Tryz.isAgg22 rfl) rfl fun a s => ?_
      refine h_n [1] [] d rfl rfl fun hC => ?_
      refine ho 4 rfl ?_
      refine w_litSlice (α := Int) (vs := [.int .i64 rv255.1]) (cs := [.int .i64 rv255.1]) (xs := ([rv255.1] : List Int)) s d El22 rfl rfl rfl rfl rfl rfl ⟨⟨_, rfl, rfl⟩, rfl⟩ rfl trivial rfl fun b260 a w s d => ?_
      refine h_n [2] [] d rfl rfl fun hC => ?_
      refine h_d [2, 0] [] [0] [] d rfl rfl rfl rfl fun hC => ?_
      refine ho 5 rfl ?_
      refine w_appendR (α := Int) s d El22 4 rfl rfl rfl 4 rfl 0 rfl 0 rfl h261 rfl trivial ?_
      intro p263 k264 c265 a w s d
      refine h_n [2, 0] [] d rfl rfl fun hC => ?_
      refine gv s 6 rfl rfl hC (fun w hC => y_fieldAddr (o' := 11) Tryz.runUnderlying56 rfl Tryz.sizeOf22 rfl rfl rfl) fun a s => ?_
      refine ho 7 rfl ?_
      refine w_store (m := 1) (cs' := [.string s6.Network, .string s6.Station, .string s6.Location, .string s6.Channel, .int .i64 (w64 (1000000000000 + (w64 (250000 * rv45.1)))), .int .i64 rv52.1, .int .i64 rv37.1.Num, .int .i64 rv37.1.Den, .int .i64 rv59.1, .int .i64 rv64.1, .int .i64 rv69.1, .slice p263 l262.length k264]) s d 3 rfl rfl rfl Tryz.sizeOf22 rfl rfl rfl rfl trivial ?_
      intro a w s d
      refine h_n [2, 0] [] d rfl rfl fun hC => ?_
      refine h_done (by kernel_rfl) ?_
      exact ⟨Sv272, c265, k257, k264, p256, p263, (s.wk rfl), (d.ft [1, 2, 3, 4] [2, 4, 0] (by decide) rfl rfl)⟩
     refine AllH.cons rfl ?_ ?_
     ·refine w_litSlice (α := Int) (vs := [.int .i64 rv255.1]) (cs := [.int .i64 rv255.1]) (xs := ([rv255.1] : List Int)) s d El22 rfl rfl rfl rfl rfl rfl ⟨⟨_, rfl, rfl⟩, rfl⟩ rfl trivial rfl fun b260 a w s d => ?_
      refine h_n [2] [] d rfl rfl fun hC => ?_
      refine h_d [2, 0] [] [0] [] d rfl rfl rfl rfl fun hC => ?_
      refine ho 1 rfl ?_
      refine sv s (y_loadB1 (d.ownAt 3 rfl) rfl Tryz.isAgg22 rfl) rfl fun a s => ?_
      refine h_n [2, 0] [] d rfl rfl fun hC => ?_
      refine ho 5 rfl ?_
      refine w_appendR (α := Int) s d El22 4 rfl rfl rfl 4 rfl 0 rfl 0 rfl h261 rfl trivial ?_
      intro p263 k264 c265 a w s d
      refine h_n [2, 0] [] d rfl rfl fun hC => ?_
      refine gv s 6 rfl rfl hC (fun w hC => y_fieldAddr (o' := 11) Tryz.runUnderlying56 rfl Tryz.sizeOf22 rfl rfl rfl) fun a s => ?_
      refine ho 7 rfl ?_
      refine w_store (m := 1) (cs' := [.string s6.Network, .string s6.Station, .string s6.Location, .string s6.Channel, .int .i64 (w64 (1000000000000 + (w64 (250000 * rv45.1)))), .int .i64 rv52.1, .int .i64 rv37.1.Num, .int .i64 rv37.1.Den, .int .i64 rv59.1, .int .i64 rv64.1, .int .i64 rv69.1, .slice p263 l262.length k264]) s d 3 rfl rfl rfl Tryz.sizeOf22 rfl rfl rfl rfl trivial ?_
      intro a w s d
      refine h_n [2, 0] [] d rfl rfl fun hC => ?_
      refine h_done (by kernel_rfl) ?_
      exact ⟨Sv272, c265, k257, k264, p256, p263, (s.wk rfl), (d.ft [1, 2, 3, 4] [2, 4, 0] (by decide) rfl rfl)⟩
     exact AllH.nil
    exact AllH.nil
   rintro a w ⟨Sv266, c265, k257, k264, p256, p263, s, d⟩
   refine blk_normal (then_normal (wp_region_lit (rn 2 [] s d rfl rfl fun a s => ?_)))
   obtain ⟨i278, h277, u⟩ := bind_t u
   refine sv s (y_assignI rfl h277) rfl fun a s => ?_
   exact nl ⟨_, (Option.some.inj u).symm, p256, k257, c265, p263, k264, Sv266, (s.wk rfl), (d.ft [0, 1, 2, 3] [0, 1, 2] (by decide) rfl rfl)⟩
  refine wp_exit (then_exit (then_exit (blk_exit ?_)))
  have u := oi u
  subst u
  have h279 := hd229 _ rfl
  subst h279
  exact then_normal ⟨p207, k208, c209, p210, k211, Sv212, (s.wk rfl), (d.ft [0, 1, 2, 3] [0, 1, 2] (by decide) rfl rfl)⟩
 rintro a w ⟨p233, k234, c235, p236, k237, Sv238, s, d⟩
 refine then_normal (sn 1 [2] s d rfl rfl fun a s => ?_)
 refine w_store (m := 12) (cs' := [.string s6.Network, .string s6.Station, .string s6.Location, .string s6.Channel, .int .i64 (w64 (1000000000000 + (w64 (250000 * rv45.1)))), .int .i64 rv52.1, .int .i64 rv37.1.Num, .int .i64 rv37.1.Den, .int .i64 rv59.1, .int .i64 rv64.1, .int .i64 rv69.1, .slice p236 e232.2.2.length k237]) s d 1 rfl rfl rfl Tryz.sizeOf56 rfl rfl rfl rfl trivial ?_
 intro a w s d
 refine nl ?_
 have u := oi u
 subst u
 exact wp_ret (ret1 s rfl (rv_cell d 1 rfl rfl Tryz.isAgg56 Tryz.sizeOf56 rfl) (d.ret ⟨p236, k237, c235, p233, k234, rfl, (d.outs [3, 0] (by decide) rfl), (d.envAt 2 rfl), (d.envAt 0 rfl)⟩))
abbrev made_Dice_Records_rd (w0 : World) (X : List Nat) (b2 : Nat) (r : ((List Record) × Dice)) : (Nat → Prop) → World → Value → Prop := fun S w v => ∃ p0_0 k0_0 c0_0 pq0_0 kq0_0, v = .slice p0_0 r.1.length k0_0 ∧ Outs X w0 S w [.row p0_0 r.1.length k0_0 c0_0 56 12, .box b2 (C87 r.2 pq0_0 kq0_0) 87] ∧ (RowA c0_0 r.1).p S w ∧ (SlA pq0_0 r.2.L.length kq0_0 r.2.L).p S w
theorem made_Dice_Records_ok {w0 S0 b2 p3 k4 d1 n6 r} (u : made_Dice_Records d1 n6 = some r) (hS : Dm S0 w0) (hin : Ins S0 w0 [.box b2 (C87 d1 p3 k4) 87]) (h5 : (SlA p3 d1.L.length k4 d1.L).p S0 w0) : Calls Tryz.prog 12 #[.pointer (some ⟨b2, 0, none⟩), .int .i64 n6] w0 (Ret (blks [.box b2 (C87 d1 p3 k4) 87]) w0 S0 (made_Dice_Records_rd w0 (blks [.box b2 (C87 d1 p3 k4) 87]) b2 r)) := by
 refine enI 48 Tryz.func12 rfl hS hin rfl rfl rfl fun a s d => ?_
 have d := d.addE h5
 delta made_Dice_Records at u
 refine sz 1 [] s d rfl rfl fun a s => ?_
 refine sn 1 [] s d rfl rfl fun a s => ?_
 obtain ⟨rv8, h7, u⟩ := bind_t u
 refine st_callR s (made_Dice_Source_ok h7 d.dom (d.ins [0] (by decide) rfl) (d.envAt 0 rfl)) (do_call Tryz.call46 rfl) trivial rfl rfl ?_
 rintro v15 Sv12 w a h13 ⟨p9, k10, rfl, h16, h11⟩ s
 have d := (d.callO [0] [] (by decide) rfl h13 h16).addE (e := SlA p9 rv8.2.L.length k10 rv8.2.L) h11
 refine w_alloc (cs := Z1) s d Tryz.zeroValue52 rfl rfl trivial ?_
 intro b17 a w s d
 refine w_store (m := 4) (cs' := (C52 rv8.1)) s d 0 rfl rfl rfl Tryz.sizeOf52 rfl rfl rfl rfl trivial ?_
 intro a w s d
 refine nl (sz 1 [] s d rfl rfl fun a s => ?_)
 refine wp_seq (sn 3 [] s d rfl rfl fun a s => ?_)
 obtain ⟨rv19, h18, u⟩ := bind_t u
 refine st_callR s (made_Dice_Next_ok h18 d.dom (d.ins [1] (by decide) rfl) (d.envAt 0 rfl)) (do_call Tryz.call30 rfl) trivial rfl rfl ?_
 rintro v26 Sv23 w a h24 ⟨p20, k21, rfl, h27, h22⟩ s
 have d := (d.callO [1] [0] (by decide) rfl h24 h27).addE (e := SlA p20 rv19.2.L.length k21 rv19.2.L) h22
 refine rz 1 [] s d rfl rfl fun a s => ?_
 obtain ⟨e374, h642, u⟩ := bind_t u
 refine wp_join (fun a w => ∃ p375 k376 c377 p378 k379 Sv380, Sl 48 [(6, .slice p378 e374.2.2.length k379)] a ∧ Wd ⟨w0, S0, blks [.box b2 (C87 d1 p3 k4) 87]⟩ Sv380 [.box b2 [.slice p375 e374.1.length k376, .int .i64 e374.2.1] 87, .row p378 e374.2.2.length k379 c377 56 12] [SlA p375 e374.1.length k376 e374.1, RowA c377 e374.2.2] w) ?_ ?_
 ·refine wp_block ?_
  have d := d.nilRow Record 56
  refine wp_while (fun sv28 a w => ∃ p255 k256 c257 p258 k259 Sv260, Sl 48 [(0, .pointer (some ⟨b2, 0, none⟩)), (5, .pointer (some ⟨b17, 0, none⟩)), (6, .slice p258 sv28.2.2.1.length k259), (7, .int .i64 sv28.2.2.2)] a ∧ Wd ⟨w0, S0, blks [.box b2 (C87 d1 p3 k4) 87]⟩ Sv260 [.box b2 [.slice p255 sv28.1.length k256, .int .i64 sv28.2.1] 87, .box b17 (C52 rv8.1) 52, .row p258 sv28.2.2.1.length k259 c257 56 12] [SlA p255 sv28.1.length k256 sv28.1, RowA c257 sv28.2.2.1] w) (rv19.2.L, rv19.2.At, ([] : List Record), rv19.1) h642 ⟨p20, k21, [], none, 0, Sv23, (s.wk rfl), (d.ft [1, 2, 0] [1, 0] (by decide) rfl rfl)⟩ ?_
  clear h642
  repeat clear u
  rintro sv28 a w tv372 ⟨p255, k256, c257, p258, k259, Sv260, s, d⟩ u hd371
  delta made_Dice_Records_l1 at u
  refine wp_seq (sz 2 [] s d rfl rfl fun a s => ?_)
  refine cd s u rfl (fun u => ?_) fun u => ?_
  ·refine wp_skip (then_normal (wp_seq (wp_block (sn 2 [1] s d rfl rfl fun a s => ?_))))
   obtain ⟨rv491, h490, u⟩ := bind_t u
   refine st_callR s (made_Dice_Record_ok h490 d.dom (d.ins [0] (by decide) rfl) (d.envAt 0 rfl)) (do_call Tryz.call47 rfl) trivial rfl rfl ?_
   rintro v502 Sv499 w a h500 ⟨p492, k493, c495, p496, k497, rfl, h503, h494, h498⟩ s
   have d := ((d.callO [0] [1, 2] (by decide) rfl h500 h503).addE (e := RowA c495 rv491.1.Samples) h494).addE (e := SlA p496 rv491.2.L.length k497 rv491.2.L) h498
   refine w_alloc (cs := Z0) s d Tryz.zeroValue56 rfl rfl trivial ?_
   intro b504 a w s d
   refine w_store (m := 12) (cs' := (C56 rv491.1 p492 k493)) s d 0 rfl rfl rfl Tryz.sizeOf56 rfl rfl rfl rfl trivial ?_
   intro a w s d
   refine nl (wp_seq (sn 4 [] s d rfl rfl fun a s => ?_))
   obtain ⟨c516, hc516, u⟩ := bind_t u
   refine wpl_join 4 (fun a w => ∃ p517 k518 Sv519, Sl 48 [(0, .pointer (some ⟨b2, 0, none⟩)), (5, .pointer (some ⟨b17, 0, none⟩)), (6, .slice p258 sv28.2.2.1.length k259), (7, .int .i64 sv28.2.2.2), (8, .pointer (some ⟨b504, 0, none⟩)), (29, .bool c516.2.2)] a ∧ Wd ⟨w0, S0, blks [.box b2 (C87 d1 p3 k4) 87]⟩ Sv519 [.box b2 [.slice p517 c516.1.length k518, .int .i64 c516.2.1] 87, .box b17 (C52 rv8.1) 52, .box b504 (C56 rv491.1 p492 k493) 56, .row p492 rv491.1.Samples.length k493 c495 3 1, .row p258 sv28.2.2.1.length k259 c257 56 12] [SlA p517 c516.1.length k518 c516.1, RowA c495 rv491.1.Samples, RowA c257 sv28.2.2.1] w) ?_ ?_
   ·rcases Bool.eq_false_or_eq_true (decide (0 < (sv28.2.2.1.length : Int))) with h515 | h515
    ·have s := s.fix 25 (.bool true) rfl (vb h515)
     have u := ite_t hc516 h515
     refine st_val s (y_move rfl) ⟨_, rfl, rfl⟩ rfl rfl fun a s => ?_
     obtain ⟨rv521, h520, u⟩ := bind_t u
     refine st_callR s (made_Dice_Next_ok h520 d.dom (d.ins [2] (by decide) rfl) (d.envAt 0 rfl)) (do_call Tryz.call30 rfl) ⟨_, rfl, rfl⟩ rfl rfl ?_
     rintro v528 Sv525 w a h526 ⟨p522, k523, rfl, h529, h524⟩ s
     have d := (d.callO [2] [0, 1, 3, 4] (by decide) rfl h526 h529).addE (e := SlA p522 rv521.2.L.length k523 rv521.2.L) h524
     refine rn 2 [] s d rfl rfl fun a s => ?_
     refine wpList_nil ?_
     have u := oi u
     subst u
     exact then_normal ⟨p522, k523, Sv525, (s.wk rfl), (d.ft [0, 3, 1, 2, 4] [0, 2, 4] (by decide) rfl rfl)⟩
    have s := s.fix 25 (.bool false) rfl (vb h515)
    have u := ite_f hc516 h515
    refine rn 4 [] s d rfl rfl fun a s => ?_
    refine wpList_nil ?_
    have u := oi u
    subst u
    exact then_normal ⟨p496, k497, Sv499, (s.wk rfl), (d.ft [2, 3, 0, 1, 4] [0, 1, 3] (by decide) rfl rfl)⟩
   rintro a w ⟨p517, k518, Sv519, s, d⟩
   refine nl (wp_join (fun a w => ∃ (x576 : (List Int)) (x577 : Int) (x578 : ByteArray) (x579 : ByteArray) (x580 : ByteArray) (x581 : ByteArray) (x582 : Int) (x583 : Int) (x584 : Int) (x585 : Int) (x586 : Int) (x587 : Int) (x588 : Int) (x589 : (List Int)) (p571 k572 p573 k574 Sv575 : _), made_Dice_Records_j1 sv28 x576 x577 x578 x579 x580 x581 x582 x583 x584 x585 x586 x587 x588 x589 = some tv372 ∧ Sl 48 [(0, .pointer (some ⟨b2, 0, none⟩)), (5, .pointer (some ⟨b17, 0, none⟩)), (6, .slice p258 sv28.2.2.1.length k259), (7, .int .i64 sv28.2.2.2), (8, .pointer (some ⟨b504, 0, none⟩))] a ∧ Wd ⟨w0, S0, blks [.box b2 (C87 d1 p3 k4) 87]⟩ Sv575 [.box b2 [.slice p571 x576.length k572, .int .i64 x577] 87, .box b17 (C52 rv8.1) 52, .box b504 [.string x578, .string x579, .string x580, .string x581, .int .i64 x582, .int .i64 x583, .int .i64 x584, .int .i64 x585, .int .i64 x586, .int .i64 x587, .int .i64 x588, .slice p573 x589.length k574] 56, .row p258 sv28.2.2.1.length k259 c257 56 12] [SlA p571 x576.length k572 x576, SlA p573 x589.length k574 x589, RowA c257 sv28.2.2.1] w) ?_ ?_)
   ·refine cd s u rfl (fun u => ?_) fun u => ?_
    ·refine sn 4 [] s d rfl rfl fun a s => ?_
     obtain ⟨rv601, h600, u⟩ := bind_t u
     refine st_callR s (made_Dice_Next_ok h600 d.dom (d.ins [0] (by decide) rfl) (d.envAt 0 rfl)) (do_call Tryz.call30 rfl) trivial rfl rfl ?_
     rintro v608 Sv605 w a h606 ⟨p602, k603, rfl, h609, h604⟩ s
     have d := (d.callO [0] [1, 2, 3, 4] (by decide) rfl h606 h609).addE (e := SlA p602 rv601.2.L.length k603 rv601.2.L) h604
     obtain ⟨x612, h610, u⟩ := bind_t u
     obtain ⟨b619, q616, c617, h620, h613, h614, h618, h611⟩ := d.elemRV (α := Record) 4 rfl 3 rfl h610
     have hsv621 := s
     have hwv622 := d
     subst h620
     have s := hsv621
     have d := hwv622
     obtain ⟨_, _, _, _, _, _, _, _, _, _, _, _, rfl, rfl, rfl, rfl, rfl, rfl, rfl, rfl, rfl, rfl, rfl, rfl, ⟨p623, n624, k625, rfl, h626⟩⟩ := h611
     obtain rfl := h626.1
     have d := d.addE (e := SlA p623 _ k625 x612.Samples) h626
     refine sv s (y_indexAt Tryz.runUnderlying28 Tryz.sizeOf56 rfl rfl h613.1 h613.2 h614) rfl fun a s => ?_
     refine sv s (y_loadQA (j := 0) (d.ownAt 4 rfl) rfl Tryz.isAgg56 Tryz.sizeOf56 h618 rfl rfl) rfl fun a s => ?_
     refine w_store (m := 12) (cs' := (C56 x612 p623 k625)) s d 2 rfl rfl rfl Tryz.sizeOf56 rfl rfl rfl rfl trivial ?_
     intro a w s d
     refine nl (wp_region_lit (rn 3 [2] s d rfl rfl fun a s => ?_))
     refine w_litSlice (α := Int) (vs := [.int .i64 x612.Seq, .int .i64 9]) (cs := [.int .i64 x612.Seq, .int .i64 9]) (xs := ([x612.Seq, 9] : List Int)) s d El22 rfl rfl rfl rfl rfl rfl ⟨⟨_, rfl, rfl⟩, ⟨⟨_, rfl, rfl⟩, rfl⟩⟩ rfl trivial rfl fun b628 a w s d => ?_
     obtain ⟨rv630, h629, u⟩ := bind_t u
     obtain ⟨Sv634, d⟩ := w_share (α := Int) d 0 rfl 0 rfl
     refine st_callR s (made_Dice_Pick_ok h629 d.dom (d.ins [0] (by decide) rfl) (d.envAt 3 rfl) (d.envAt 0 rfl)) (do_call Tryz.call24 rfl) trivial rfl rfl ?_
     rintro v638 Sv635 w a h636 ⟨p631, k632, rfl, h639, h633⟩ s
     have d := (d.callO [0] [1, 2, 3, 4] (by decide) rfl h636 h639).addE (e := SlA p631 rv630.2.L.length k632 rv630.2.L) h633
     refine sv s (y_fieldAddr (o' := 10) Tryz.runUnderlying56 rfl Tryz.sizeOf3 rfl rfl rfl) rfl fun a s => ?_
     refine w_store (m := 1) (cs' := (C56 ⟨x612.Source, x612.Start, x612.First, x612.Rate, x612.Error, x612.Run, rv630.1, x612.Samples⟩ p623 k625)) s d 2 rfl rfl rfl Tryz.sizeOf3 rfl rfl rfl rfl trivial ?_
     intro a w s d
     exact nl ⟨rv630.2.L, rv630.2.At, x612.Source.Network, x612.Source.Station, x612.Source.Location, x612.Source.Channel, x612.Start, x612.First, x612.Rate.Num, x612.Rate.Den, x612.Error, x612.Run, rv630.1, x612.Samples, p631, k632, p623, k625, Sv635, u, (s.wk rfl), (d.ft [0, 1, 2, 4] [0, 3, 7] (by decide) rfl rfl)⟩
    refine wp_skip (then_normal ?_)
    obtain ⟨Sv640, d⟩ := w_share (α := Int) d 3 rfl 1 rfl
    exact ⟨c516.1, c516.2.1, rv491.1.Source.Network, rv491.1.Source.Station, rv491.1.Source.Location, rv491.1.Source.Channel, rv491.1.Start, rv491.1.First, rv491.1.Rate.Num, rv491.1.Rate.Den, rv491.1.Error, rv491.1.Run, rv491.1.Seq, rv491.1.Samples, p517, k518, p492, k493, Sv640, u, (s.wk rfl), (d.ft [0, 1, 2, 3] [1, 0, 3] (by decide) rfl rfl)⟩
   rintro a w ⟨x576, x577, x578, x579, x580, x581, x582, x583, x584, x585, x586, x587, x588, x589, p571, k572, p573, k574, Sv575, u, s, d⟩
   delta made_Dice_Records_j1 at u
   refine then_normal (wp_region_lit (rn 2 [2] s d rfl rfl fun a s => ?_))
   refine w_litSlice (α := Record) (vs := [.agg #[.string x578, .string x579, .string x580, .string x581, .int .i64 x582, .int .i64 x583, .int .i64 x584, .int .i64 x585, .int .i64 x586, .int .i64 x587, .int .i64 x588, .slice p573 x589.length k574]]) (cs := [.string x578, .string x579, .string x580, .string x581, .int .i64 x582, .int .i64 x583, .int .i64 x584, .int .i64 x585, .int .i64 x586, .int .i64 x587, .int .i64 x588, .slice p573 x589.length k574]) (xs := ([(⟨(⟨x578, x579, x580, x581⟩ : SourceID), x582, x583, (⟨x584, x585⟩ : Rate), x586, x587, x588, x589⟩ : Record)] : List Record)) s d El28 rfl rfl rfl rfl rfl rfl ⟨⟨_, _, _, _, _, _, _, _, _, _, _, _, rfl, rfl, rfl, rfl, rfl, rfl, rfl, rfl, rfl, rfl, rfl, rfl, ⟨_, _, _, rfl, d.envAt 1 rfl⟩⟩, rfl⟩ rfl trivial rfl fun b591 a w s d => ?_
   obtain ⟨l593, h592, u⟩ := bind_t u
   refine w_appendR (α := Record) s d El28 4 rfl rfl rfl 3 rfl 0 rfl 0 rfl h592 rfl trivial ?_
   intro p594 k595 c596 a w s d
   refine av s rfl rfl fun a s => ?_
   refine wpList_nil ?_
   refine blk_normal (then_normal (wp_region_lit (rn 2 [] s d rfl rfl fun a s => ?_)))
   obtain ⟨i598, h597, u⟩ := bind_t u
   refine sv s (y_assignI rfl h597) rfl fun a s => ?_
   exact nl ⟨_, (Option.some.inj u).symm, p571, k572, c596, p594, k595, Sv575, (s.wk rfl), (d.ft [1, 2, 4] [2, 0] (by decide) rfl rfl)⟩
  refine wp_exit (then_exit (then_exit (blk_exit ?_)))
  have u := oi u
  subst u
  have h641 := hd371 _ rfl
  subst h641
  exact then_normal ⟨p255, k256, c257, p258, k259, Sv260, (s.wk rfl), (d.ft [0, 2] [0, 1] (by decide) rfl rfl)⟩
 rintro a w ⟨p375, k376, c377, p378, k379, Sv380, s, d⟩
 refine then_normal (sz 2 [] s d rfl rfl fun a s => ?_)
 have u := oi u
 subst u
 exact wp_ret (ret1 s rfl (rv_tmp rfl) (d.ret ⟨p378, k379, c377, p375, k376, rfl, (d.outs [1, 0] (by decide) rfl), (d.envAt 1 rfl), (d.envAt 0 rfl)⟩))
theorem ref03_code_ok {w0 S0 s1 lo2 hi3 r} (u : ref03_code s1 lo2 hi3 = some r) (hS : Dm S0 w0) : Calls Tryz.prog 137 #[.string s1, .int .i64 lo2, .int .i64 hi3] w0 (Ret ([]) w0 S0 (made_Light_rd w0 ([]) r)) := by
 refine en 47 Tryz.func137 rfl hS rfl rfl rfl fun a s d => ?_
 delta ref03_code at u
 refine sz 1 [] s d rfl rfl fun a s => ?_
 refine wp_seq (sz 1 [] s d rfl rfl fun a s => ?_)
 refine wp_block (wp_while (fun sv111 a w => ∃ Sv181, Sl 47 [(0, .string s1), (1, .int .i64 lo2), (2, .int .i64 hi3), (7, .int .i64 sv111)] a ∧ Wd ⟨w0, S0, []⟩ Sv181 [] [] w) 0 u ⟨S0, (s.wk rfl), (d.ft [] [] (by decide) rfl rfl)⟩ ?_)
 repeat clear u
 rintro sv111 a w tv217 ⟨Sv181, s, d⟩ u hd216
 delta ref03_code_l2 at u
 refine wp_seq (sz 4 [] s d rfl rfl fun a s => ?_)
 refine cd s u rfl (fun u => ?_) fun u => ?_
 ·refine wp_skip (then_normal (wp_seq (wp_block (sn 2 [] s d rfl rfl fun a s => ?_))))
  obtain ⟨c254, h253, u⟩ := bind_t u
  refine sv s (y_indexSM Tryz.runUnderlying9 rfl rfl h253) rfl fun a s => ?_
  refine sv s (y_geq (rfl) rfl) rfl fun a s => ?_
  refine mv s rfl rfl fun a s => ?_
  obtain ⟨c258, hc258, u⟩ := bind_t u
  refine wpl_join 5 (fun a w => ∃ Sv259, Sl 47 [(0, .string s1), (1, .int .i64 lo2), (2, .int .i64 hi3), (7, .int .i64 sv111), (23, .bool c258)] a ∧ Wd ⟨w0, S0, []⟩ Sv259 [] [] w) ?_ ?_
  ·rcases Bool.eq_false_or_eq_true (decide (65 ≤ c254)) with h257 | h257
   ·have s := s.fix 18 (.bool true) rfl (vb h257)
    have u := ite_t hc258 h257
    refine rn 2 [] s d rfl rfl fun a s => ?_
    obtain ⟨c261, h260, u⟩ := bind_t u
    refine st_val s (y_indexSM Tryz.runUnderlying9 rfl rfl h260) ⟨_, rfl, rfl⟩ rfl rfl fun a s => ?_
    refine st_val s (y_leq (rfl) rfl) ⟨_, rfl, rfl⟩ rfl rfl fun a s => ?_
    refine sv s (y_pickT rfl rfl) rfl fun a s => ?_
    refine wpList_nil ?_
    have u := oi u
    subst u
    exact then_normal ⟨Sv181, (s.wk rfl), (d.ft [] [] (by decide) rfl rfl)⟩
   have s := s.fix 18 (.bool false) rfl (vb h257)
   have u := ite_f hc258 h257
   refine rn 5 [] s d rfl rfl fun a s => ?_
   refine wpList_nil ?_
   have u := oi u
   subst u
   exact then_normal ⟨Sv181, (s.wk rfl), (d.ft [] [] (by decide) rfl rfl)⟩
  rintro a w ⟨Sv259, s, d⟩
  refine mv s rfl rfl fun a s => ?_
  obtain ⟨c272, hc272, u⟩ := bind_t u
  refine wpl_join 11 (fun a w => ∃ Sv273, Sl 47 [(0, .string s1), (1, .int .i64 lo2), (2, .int .i64 hi3), (7, .int .i64 sv111), (35, .bool c272)] a ∧ Wd ⟨w0, S0, []⟩ Sv273 [] [] w) ?_ ?_
  ·rcases Bool.eq_false_or_eq_true c258 with h271 | h271
   ·have s := s.fix 24 (.bool true) rfl (vb h271)
    have u := ite_t hc272 h271
    refine rn 11 [] s d rfl rfl fun a s => ?_
    refine wpList_nil ?_
    have u := oi u
    subst u
    exact then_normal ⟨Sv259, (s.wk rfl), (d.ft [] [] (by decide) rfl rfl)⟩
   have s := s.fix 24 (.bool false) rfl (vb h271)
   have u := ite_f hc272 h271
   refine rn 2 [] s d rfl rfl fun a s => ?_
   obtain ⟨c275, h274, u⟩ := bind_t u
   refine st_val s (y_indexSM Tryz.runUnderlying9 rfl rfl h274) ⟨_, rfl, rfl⟩ rfl rfl fun a s => ?_
   refine st_val s (y_geq (rfl) rfl) ⟨_, rfl, rfl⟩ rfl rfl fun a s => ?_
   refine st_val s (y_move rfl) ⟨_, rfl, rfl⟩ rfl rfl fun a s => ?_
   obtain ⟨c279, hc279, u⟩ := bind_t u
   refine wpl_join 5 (fun a w => ∃ Sv280, Sl 47 [(0, .string s1), (1, .int .i64 lo2), (2, .int .i64 hi3), (7, .int .i64 sv111), (24, .bool false), (34, .bool c279)] a ∧ Wd ⟨w0, S0, []⟩ Sv280 [] [] w) ?_ ?_
   ·rcases Bool.eq_false_or_eq_true (decide (48 ≤ c275)) with h278 | h278
    ·have s := s.fix 29 (.bool true) rfl (vb h278)
     have u := ite_t hc279 h278
     refine rn 2 [] s d rfl rfl fun a s => ?_
     obtain ⟨c282, h281, u⟩ := bind_t u
     refine st_val s (y_indexSM Tryz.runUnderlying9 rfl rfl h281) ⟨_, rfl, rfl⟩ rfl rfl fun a s => ?_
     refine st_val s (y_leq (rfl) rfl) ⟨_, rfl, rfl⟩ rfl rfl fun a s => ?_
     refine st_val s (y_pickT rfl rfl) ⟨_, rfl, rfl⟩ rfl rfl fun a s => ?_
     refine wpList_nil ?_
     have u := oi u
     subst u
     exact then_normal ⟨Sv259, (s.wk rfl), (d.ft [] [] (by decide) rfl rfl)⟩
    have s := s.fix 29 (.bool false) rfl (vb h278)
    have u := ite_f hc279 h278
    refine rn 5 [] s d rfl rfl fun a s => ?_
    refine wpList_nil ?_
    have u := oi u
    subst u
    exact then_normal ⟨Sv259, (s.wk rfl), (d.ft [] [] (by decide) rfl rfl)⟩
   rintro a w ⟨Sv280, s, d⟩
   refine sv s (y_pickF rfl rfl) rfl fun a s => ?_
   refine wpList_nil ?_
   have u := oi u
   subst u
   exact then_normal ⟨Sv280, (s.wk rfl), (d.ft [] [] (by decide) rfl rfl)⟩
  rintro a w ⟨Sv273, s, d⟩
  refine rz 1 [] s d rfl rfl fun a s => ?_
  refine cd s u rfl (fun u => ?_) fun u => ?_
  ·refine sz 1 [] s d rfl rfl fun a s => ?_
   have u := oi u
   subst u
   have h285 := hd216 _ rfl
   subst h285
   exact wp_ret (blk_ret (then_ret (then_ret (blk_ret (then_ret (ret1 s rfl (rv_tmp rfl) (d.ret rfl)))))))
  refine wp_skip (blk_normal (then_normal (wp_region_lit (rn 2 [] s d rfl rfl fun a s => ?_))))
  obtain ⟨i287, h286, u⟩ := bind_t u
  refine sv s (y_assignI rfl h286) rfl fun a s => ?_
  exact nl ⟨_, (Option.some.inj u).symm, Sv273, (s.wk rfl), (d.ft [] [] (by decide) rfl rfl)⟩
 obtain ⟨rv289, u, h290⟩ := map_t u
 have h290 := (hd216 _ h290.symm).symm
 subst h290
 refine wp_exit (then_exit (then_exit (blk_exit (then_normal (sn 5 [] s d rfl rfl fun a s => ?_)))))
 refine rA 5 41 [] s d rfl rfl rfl rfl rfl fun a s => ?_
 refine rz 1 [] s d rfl rfl fun a s => ?_
 have u := oi u
 subst u
 exact wp_ret (ret1 s rfl (rv_tmp rfl) (d.ret rfl))
theorem ref03_Valid_ok {w0 S0 s1 r} (u : ref03_Valid s1 = some r) (hS : Dm S0 w0) : Calls Tryz.prog 97 #[V52 s1] w0 (Ret ([]) w0 S0 (made_Light_rd w0 ([]) r)) := by
 refine en 26 Tryz.func97 rfl hS rfl rfl rfl fun a s d => ?_
 delta ref03_Valid at u
 refine sr (w_box (cs := (C52 s1)) s d rfl rfl rfl trivial ?_)
 intro b2 a w s d
 refine rz 1 [] s d rfl rfl fun a s => ?_
 refine sn 2 [0] s d rfl rfl fun a s => ?_
 obtain ⟨rv4, h3, u⟩ := bind_t u
 refine st_callR s (ref03_code_ok h3 d.bdom) (do_call Tryz.call137 rfl) trivial rfl rfl ?_
 rintro v8 Sv5 w a h6 rfl s
 have d := d.callB h6
 refine mv s rfl rfl fun a s => ?_
 obtain ⟨c18, hc18, u⟩ := bind_t u
 refine wpl_join 4 (fun a w => ∃ Sv19, Sl 26 [(1, .pointer (some ⟨b2, 0, none⟩)), (10, .bool c18)] a ∧ Wd ⟨w0, S0, []⟩ Sv19 [.box b2 (C52 s1) 52] [] w) ?_ ?_
 ·rcases Bool.eq_false_or_eq_true rv4 with h17 | h17
  ·have s := s.fix 6 (.bool true) rfl (vb h17)
   have u := ite_t hc18 h17
   refine rn 2 [0] s d rfl rfl fun a s => ?_
   obtain ⟨rv21, h20, u⟩ := bind_t u
   refine st_callR s (ref03_code_ok h20 d.bdom) (do_call Tryz.call137 rfl) ⟨_, rfl, rfl⟩ rfl rfl ?_
   rintro v25 Sv22 w a h23 rfl s
   have d := d.callB h23
   refine sv s (y_pickT rfl rfl) rfl fun a s => ?_
   refine wpList_nil ?_
   have u := oi u
   subst u
   exact then_normal ⟨S0, (s.wk rfl), (d.ft [0] [] (by decide) rfl rfl)⟩
  have s := s.fix 6 (.bool false) rfl (vb h17)
  have u := ite_f hc18 h17
  refine rn 4 [] s d rfl rfl fun a s => ?_
  refine wpList_nil ?_
  have u := oi u
  subst u
  exact then_normal ⟨S0, (s.wk rfl), (d.ft [0] [] (by decide) rfl rfl)⟩
 rintro a w ⟨Sv19, s, d⟩
 refine mv s rfl rfl fun a s => ?_
 obtain ⟨c45, hc45, u⟩ := bind_t u
 refine wpl_join 9 (fun a w => ∃ Sv46, Sl 26 [(1, .pointer (some ⟨b2, 0, none⟩)), (20, .bool c45)] a ∧ Wd ⟨w0, S0, []⟩ Sv46 [.box b2 (C52 s1) 52] [] w) ?_ ?_
 ·rcases Bool.eq_false_or_eq_true c18 with h44 | h44
  ·have s := s.fix 11 (.bool true) rfl (vb h44)
   have u := ite_t hc45 h44
   refine rn 2 [0] s d rfl rfl fun a s => ?_
   refine st_val s (y_eqlS rfl rfl) ⟨_, rfl, rfl⟩ rfl rfl fun a s => ?_
   refine st_val s (y_move rfl) ⟨_, rfl, rfl⟩ rfl rfl fun a s => ?_
   obtain ⟨c55, hc55, u⟩ := bind_t u
   refine wpl_join 4 (fun a w => ∃ Sv56, Sl 26 [(1, .pointer (some ⟨b2, 0, none⟩)), (11, .bool true), (19, .bool c55)] a ∧ Wd ⟨w0, S0, []⟩ Sv56 [.box b2 (C52 s1) 52] [] w) ?_ ?_
   ·rcases Bool.eq_false_or_eq_true (s1.Location.toList == (⟨#[]⟩ : ByteArray).toList) with h54 | h54
    ·have s := s.fix 15 (.bool true) rfl (vb h54)
     have u := ite_t hc55 h54
     refine rn 4 [] s d rfl rfl fun a s => ?_
     refine wpList_nil ?_
     have u := oi u
     subst u
     exact then_normal ⟨Sv19, (s.wk rfl), (d.ft [0] [] (by decide) rfl rfl)⟩
    have s := s.fix 15 (.bool false) rfl (vb h54)
    have u := ite_f hc55 h54
    refine rn 2 [0] s d rfl rfl fun a s => ?_
    obtain ⟨rv58, h57, u⟩ := bind_t u
    refine st_callR s (ref03_code_ok h57 d.bdom) (do_call Tryz.call137 rfl) ⟨_, rfl, rfl⟩ rfl rfl ?_
    rintro v62 Sv59 w a h60 rfl s
    have d := d.callB h60
    refine st_val s (y_pickF rfl rfl) ⟨_, rfl, rfl⟩ rfl rfl fun a s => ?_
    refine wpList_nil ?_
    have u := oi u
    subst u
    exact then_normal ⟨Sv19, (s.wk rfl), (d.ft [0] [] (by decide) rfl rfl)⟩
   rintro a w ⟨Sv56, s, d⟩
   refine sv s (y_pickT rfl rfl) rfl fun a s => ?_
   refine wpList_nil ?_
   have u := oi u
   subst u
   exact then_normal ⟨Sv56, (s.wk rfl), (d.ft [0] [] (by decide) rfl rfl)⟩
  have s := s.fix 11 (.bool false) rfl (vb h44)
  have u := ite_f hc45 h44
  refine rn 9 [] s d rfl rfl fun a s => ?_
  refine wpList_nil ?_
  have u := oi u
  subst u
  exact then_normal ⟨Sv19, (s.wk rfl), (d.ft [0] [] (by decide) rfl rfl)⟩
 rintro a w ⟨Sv46, s, d⟩
 refine mv s rfl rfl fun a s => ?_
 obtain ⟨c72, hc72, u⟩ := bind_t u
 refine wpl_join 4 (fun a w => ∃ Sv73, Sl 26 [(25, .bool c72)] a ∧ Wd ⟨w0, S0, []⟩ Sv73 [] [] w) ?_ ?_
 ·rcases Bool.eq_false_or_eq_true c45 with h71 | h71
  ·have s := s.fix 21 (.bool true) rfl (vb h71)
   have u := ite_t hc72 h71
   refine rn 2 [0] s d rfl rfl fun a s => ?_
   obtain ⟨rv75, h74, u⟩ := bind_t u
   refine st_callR s (ref03_code_ok h74 d.bdom) (do_call Tryz.call137 rfl) ⟨_, rfl, rfl⟩ rfl rfl ?_
   rintro v79 Sv76 w a h77 rfl s
   have d := d.callB h77
   refine sv s (y_pickT rfl rfl) rfl fun a s => ?_
   refine wpList_nil ?_
   have u := oi u
   subst u
   exact then_normal ⟨Sv46, (s.wk rfl), (d.ft [] [] (by decide) rfl rfl)⟩
  have s := s.fix 21 (.bool false) rfl (vb h71)
  have u := ite_f hc72 h71
  refine rn 4 [] s d rfl rfl fun a s => ?_
  refine wpList_nil ?_
  have u := oi u
  subst u
  exact then_normal ⟨Sv46, (s.wk rfl), (d.ft [] [] (by decide) rfl rfl)⟩
 rintro a w ⟨Sv73, s, d⟩
 refine rz 1 [] s d rfl rfl fun a s => ?_
 have u := oi u
 subst u
 exact wp_ret (ret1 s rfl (rv_tmp rfl) (d.ret rfl))
theorem ref02_Valid_ok {w0 S0 r1 r} (u : ref02_Valid r1 = some r) (hS : Dm S0 w0) : Calls Tryz.prog 70 #[V54 r1] w0 (Ret ([]) w0 S0 (made_Light_rd w0 ([]) r)) := by
 refine en 19 Tryz.func70 rfl hS rfl rfl rfl fun a s d => ?_
 delta ref02_Valid at u
 refine sr (w_box (cs := (C54 r1)) s d rfl rfl rfl trivial ?_)
 intro b2 a w s d
 refine rz 1 [] s d rfl rfl fun a s => ?_
 refine sn 2 [0] s d rfl rfl fun a s => ?_
 obtain ⟨rv4, h3, u⟩ := bind_t u
 refine st_callR s (ref01_In_ok h3 d.bdom) (do_call Tryz.call61 rfl) trivial rfl rfl ?_
 rintro v8 Sv5 w a h6 rfl s
 have d := d.callB h6
 refine mv s rfl rfl fun a s => ?_
 obtain ⟨c18, hc18, u⟩ := bind_t u
 refine wpl_join 4 (fun a w => ∃ Sv19, Sl 19 [(1, .pointer (some ⟨b2, 0, none⟩)), (10, .bool c18)] a ∧ Wd ⟨w0, S0, []⟩ Sv19 [.box b2 (C54 r1) 54] [] w) ?_ ?_
 ·rcases Bool.eq_false_or_eq_true rv4 with h17 | h17
  ·have s := s.fix 6 (.bool true) rfl (vb h17)
   have u := ite_t hc18 h17
   refine rn 2 [0] s d rfl rfl fun a s => ?_
   obtain ⟨rv21, h20, u⟩ := bind_t u
   refine st_callR s (ref01_In_ok h20 d.bdom) (do_call Tryz.call61 rfl) ⟨_, rfl, rfl⟩ rfl rfl ?_
   rintro v25 Sv22 w a h23 rfl s
   have d := d.callB h23
   refine sv s (y_pickT rfl rfl) rfl fun a s => ?_
   refine wpList_nil ?_
   have u := oi u
   subst u
   exact then_normal ⟨S0, (s.wk rfl), (d.ft [0] [] (by decide) rfl rfl)⟩
  have s := s.fix 6 (.bool false) rfl (vb h17)
  have u := ite_f hc18 h17
  refine rn 4 [] s d rfl rfl fun a s => ?_
  refine wpList_nil ?_
  have u := oi u
  subst u
  exact then_normal ⟨S0, (s.wk rfl), (d.ft [0] [] (by decide) rfl rfl)⟩
 rintro a w ⟨Sv19, s, d⟩
 refine mv s rfl rfl fun a s => ?_
 obtain ⟨c35, hc35, u⟩ := bind_t u
 refine wpl_join 7 (fun a w => ∃ Sv36, Sl 19 [(18, .bool c35)] a ∧ Wd ⟨w0, S0, []⟩ Sv36 [] [] w) ?_ ?_
 ·rcases Bool.eq_false_or_eq_true c18 with h34 | h34
  ·have s := s.fix 11 (.bool true) rfl (vb h34)
   have u := ite_t hc35 h34
   refine rn 4 [0, 0] s d rfl rfl fun a s => ?_
   obtain ⟨rv38, h37, u⟩ := bind_t u
   refine st_callR s (ref02_gcd_ok h37 d.bdom) (do_call Tryz.call103 rfl) ⟨_, rfl, rfl⟩ rfl rfl ?_
   rintro v42 Sv39 w a h40 rfl s
   have d := d.callB h40
   refine rn 2 [] s d rfl rfl fun a s => ?_
   refine wpList_nil ?_
   have u := oi u
   subst u
   exact then_normal ⟨Sv19, (s.wk rfl), (d.ft [] [] (by decide) rfl rfl)⟩
  have s := s.fix 11 (.bool false) rfl (vb h34)
  have u := ite_f hc35 h34
  refine rn 7 [] s d rfl rfl fun a s => ?_
  refine wpList_nil ?_
  have u := oi u
  subst u
  exact then_normal ⟨Sv19, (s.wk rfl), (d.ft [] [] (by decide) rfl rfl)⟩
 rintro a w ⟨Sv36, s, d⟩
 refine rz 1 [] s d rfl rfl fun a s => ?_
 have u := oi u
 subst u
 exact wp_ret (ret1 s rfl (rv_tmp rfl) (d.ret rfl))
theorem ref05_Sample_ok {w0 S0 n1 r} (u : ref05_Sample n1 = some r) (hS : Dm S0 w0) : Calls Tryz.prog 138 #[.int .i64 n1] w0 (Ret ([]) w0 S0 (made_Light_rd w0 ([]) r)) := by
 refine en 5 Tryz.func138 rfl hS rfl rfl rfl fun a s d => ?_
 delta ref05_Sample at u
 refine sz 1 [] s d rfl rfl fun a s => ?_
 refine sn 1 [] s d rfl rfl fun a s => ?_
 obtain ⟨rv3, h2, u⟩ := bind_t u
 refine st_callR s (ref01_In_ok h2 d.bdom) (do_call Tryz.call61 rfl) trivial rfl rfl ?_
 rintro v7 Sv4 w a h5 rfl s
 have d := d.callB h5
 refine rz 1 [] s d rfl rfl fun a s => ?_
 have u := oi u
 subst u
 exact wp_ret (ret1 s rfl (rv_tmp rfl) (d.ret rfl))
theorem ref05_InRange_ok {w0 S0 p2 k3 l1 r} (u : ref05_InRange l1 = some r) (hS : Dm S0 w0) (h4 : (SlA p2 l1.length k3 l1).p S0 w0) : Calls Tryz.prog 98 #[.slice p2 l1.length k3] w0 (Ret ([]) w0 S0 (made_Light_rd w0 ([]) r)) := by
 refine en 16 Tryz.func98 rfl hS rfl rfl rfl fun a s d => ?_
 have d := d.addE h4
 delta ref05_InRange at u
 refine sz 1 [] s d rfl rfl fun a s => ?_
 refine wp_seq (sz 1 [] s d rfl rfl fun a s => ?_)
 refine wp_block (wp_while (fun sv82 a w => ∃ Sv132, Sl 16 [(0, .slice p2 l1.length k3), (3, .int .i64 sv82)] a ∧ Wd ⟨w0, S0, []⟩ Sv132 [] [SlA p2 l1.length k3 l1] w) 0 u ⟨S0, (s.wk rfl), (d.ft [] [0] (by decide) rfl rfl)⟩ ?_)
 repeat clear u
 rintro sv82 a w tv158 ⟨Sv132, s, d⟩ u hd157
 delta ref05_InRange_l2 at u
 refine wp_seq (sz 4 [] s d rfl rfl fun a s => ?_)
 refine cd s u rfl (fun u => ?_) fun u => ?_
 ·refine wp_skip (then_normal (wp_seq (wp_block (sn 2 [] s d rfl rfl fun a s => ?_))))
  obtain ⟨x186, h184, u⟩ := bind_t u
  obtain ⟨b192, o193, q190, c191, h194, h187, h188, h189, h185⟩ := d.elemV 0 rfl h184
  have hsv195 := s
  have hwv196 := d
  subst h194
  have s := hsv195
  have d := hwv196
  obtain ⟨_, rfl, rfl⟩ := h185
  have d := d.addE h189
  refine sv s (y_indexAt Tryz.runUnderlying22 Tryz.sizeOf3 rfl rfl h187.1 h187.2 h188) rfl fun a s => ?_
  refine sv s (y_loadE1 (j := 0) (d.ceAt 0 rfl) rfl Tryz.isAgg3 rfl) rfl fun a s => ?_
  obtain ⟨rv198, h197, u⟩ := bind_t u
  refine st_callR s (ref05_Sample_ok h197 d.bdom) (do_call Tryz.call138 rfl) trivial rfl rfl ?_
  rintro v202 Sv199 w a h200 rfl s
  have d := d.callB h200
  refine rz 1 [] s d rfl rfl fun a s => ?_
  refine cd s u rfl (fun u => ?_) fun u => ?_
  ·refine sz 1 [] s d rfl rfl fun a s => ?_
   have u := oi u
   subst u
   have h206 := hd157 _ rfl
   subst h206
   exact wp_ret (blk_ret (then_ret (then_ret (blk_ret (then_ret (ret1 s rfl (rv_tmp rfl) (d.ret rfl)))))))
  refine wp_skip (blk_normal (then_normal (wp_region_lit (rn 2 [] s d rfl rfl fun a s => ?_))))
  obtain ⟨i208, h207, u⟩ := bind_t u
  refine sv s (y_assignI rfl h207) rfl fun a s => ?_
  exact nl ⟨_, (Option.some.inj u).symm, Sv132, (s.wk rfl), (d.ft [] [1] (by decide) rfl rfl)⟩
 obtain ⟨rv209, u, h210⟩ := map_t u
 have h210 := (hd157 _ h210.symm).symm
 subst h210
 refine wp_exit (then_exit (then_exit (blk_exit (then_normal (sz 1 [] s d rfl rfl fun a s => ?_)))))
 have u := oi u
 subst u
 exact wp_ret (ret1 s rfl (rv_tmp rfl) (d.ret rfl))
theorem ref02_Time_ok {w0 S0 start1 r2 k3 r} (u : ref02_Time start1 r2 k3 = some r) (hS : Dm S0 w0) : Calls Tryz.prog 28 #[.int .i64 start1, V54 r2, .int .i64 k3] w0 (Ret ([]) w0 S0 (rate_Time_rd w0 ([]) r)) := by
 refine en 29 Tryz.func28 rfl hS rfl rfl rfl fun a s d => ?_
 delta ref02_Time at u
 refine sr (w_box (cs := (C54 r2)) s d rfl rfl rfl trivial ?_)
 intro b4 a w s d
 refine rz 2 [] s d rfl rfl fun a s => ?_
 refine wp_seq (sn 1 [0] s d rfl rfl fun a s => ?_)
 obtain ⟨rv6, h5, u⟩ := bind_t u
 refine st_callR s (ref02_Valid_ok h5 d.bdom) (do_call Tryz.call70 rfl) trivial rfl rfl ?_
 rintro v10 Sv7 w a h8 rfl s
 have d := d.callB h8
 refine rz 1 [] s d rfl rfl fun a s => ?_
 refine cd s u rfl (fun u => ?_) fun u => ?_
 ·refine sz 2 [] s d rfl rfl fun a s => ?_
  have u := oi u
  subst u
  exact wp_ret (then_ret (ret2 s rfl (rv_tmp rfl) (rv_tmp rfl) (d.ret rfl)))
 refine wp_skip (then_normal (wp_seq (sn 1 [] s d rfl rfl fun a s => ?_)))
 obtain ⟨rv15, h14, u⟩ := bind_t u
 refine st_callR s (ref01_In_ok h14 d.bdom) (do_call Tryz.call61 rfl) trivial rfl rfl ?_
 rintro v19 Sv16 w a h17 rfl s
 have d := d.callB h17
 refine rn 2 [] s d rfl rfl fun a s => ?_
 obtain ⟨c29, hc29, u⟩ := bind_t u
 refine wpl_join 4 (fun a w => ∃ Sv30, Sl 29 [(0, .int .i64 start1), (2, .int .i64 k3), (4, .pointer (some ⟨b4, 0, none⟩)), (18, .bool c29)] a ∧ Wd ⟨w0, S0, []⟩ Sv30 [.box b4 (C54 r2) 54] [] w) ?_ ?_
 ·rcases Bool.eq_false_or_eq_true (!rv15) with h28 | h28
  ·have s := s.fix 14 (.bool true) rfl (vb h28)
   have u := ite_t hc29 h28
   refine rn 4 [] s d rfl rfl fun a s => ?_
   refine wpList_nil ?_
   have u := oi u
   subst u
   exact then_normal ⟨S0, (s.wk rfl), (d.ft [0] [] (by decide) rfl rfl)⟩
  have s := s.fix 14 (.bool false) rfl (vb h28)
  have u := ite_f hc29 h28
  refine st_val s (y_move rfl) ⟨_, rfl, rfl⟩ rfl rfl fun a s => ?_
  obtain ⟨rv32, h31, u⟩ := bind_t u
  refine st_callR s (ref01_In_ok h31 d.bdom) (do_call Tryz.call61 rfl) ⟨_, rfl, rfl⟩ rfl rfl ?_
  rintro v36 Sv33 w a h34 rfl s
  have d := d.callB h34
  refine rn 2 [] s d rfl rfl fun a s => ?_
  refine wpList_nil ?_
  have u := oi u
  subst u
  exact then_normal ⟨S0, (s.wk rfl), (d.ft [0] [] (by decide) rfl rfl)⟩
 rintro a w ⟨Sv30, s, d⟩
 refine nl (cd s u rfl (fun u => ?_) fun u => ?_)
 ·refine sz 2 [] s d rfl rfl fun a s => ?_
  have u := oi u
  subst u
  exact wp_ret (then_ret (ret2 s rfl (rv_tmp rfl) (rv_tmp rfl) (d.ret rfl)))
 refine wp_skip (then_normal (sn 8 [0, 0] s d rfl rfl fun a s => ?_))
 obtain ⟨quo41, h40, u⟩ := bind_t u
 refine sv s (y_quoM rfl rfl h40) rfl fun a s => ?_
 refine sv s (y_add rfl rfl) rfl fun a s => ?_
 obtain ⟨x43, h42, u⟩ := bind_t u
 refine sv s (y_assignI rfl h42) rfl fun a s => ?_
 refine rz 1 [] s d rfl rfl fun a s => ?_
 have u := oi u
 subst u
 exact wp_ret (ret2 s rfl (rv_tmp rfl) (rv_tmp rfl) (d.ret rfl))
theorem ref14_Time_ok {w0 S0 p2 k3 r1 i5 r} (u : ref14_Time r1 i5 = some r) (hS : Dm S0 w0) (h4 : (SlA p2 r1.Samples.length k3 r1.Samples).p S0 w0) : Calls Tryz.prog 62 #[V56 r1 p2 k3, .int .i64 i5] w0 (Ret ([]) w0 S0 (slices_IndexFunc_Lapi_Record_api_Record_rd w0 ([]) r)) := by
 refine en 20 Tryz.func62 rfl hS rfl rfl rfl fun a s d => ?_
 have d := d.addE h4
 delta ref14_Time at u
 refine sr (w_box (cs := (C56 r1 p2 k3)) s d rfl rfl rfl trivial ?_)
 intro b6 a w s d
 refine rz 1 [] s d rfl rfl fun a s => ?_
 refine sn 8 [0, 0, 0] s d rfl rfl fun a s => ?_
 obtain ⟨rv8, h7, u⟩ := bind_t u
 refine st_callR s (ref02_Time_ok h7 d.bdom) (do_call Tryz.call28 rfl) trivial rfl rfl ?_
 rintro v12 Sv9 w a h10 rfl s
 have d := d.callB h10
 refine rz 5 [] s d rfl rfl fun a s => ?_
 refine sz 2 [] s d rfl rfl fun a s => ?_
 have u := oi u
 subst u
 exact wp_ret (ret1 s rfl (rv_tmp rfl) (d.ret rfl))
theorem ref14_Valid_ok {w0 S0 p2 k3 r1 r} (u : ref14_Valid r1 = some r) (hS : Dm S0 w0) (h4 : (SlA p2 r1.Samples.length k3 r1.Samples).p S0 w0) : Calls Tryz.prog 60 #[V56 r1 p2 k3] w0 (Ret ([]) w0 S0 (made_Light_rd w0 ([]) r)) := by
 refine en 68 Tryz.func60 rfl hS rfl rfl rfl fun a s d => ?_
 have d := d.addE h4
 delta ref14_Valid at u
 refine sr (w_box (cs := (C56 r1 p2 k3)) s d rfl rfl rfl trivial ?_)
 intro b5 a w s d
 refine rz 1 [] s d rfl rfl fun a s => ?_
 refine wp_seq (sn 2 [0] s d rfl rfl fun a s => ?_)
 obtain ⟨rv7, h6, u⟩ := bind_t u
 refine st_callR s (ref03_Valid_ok h6 d.bdom) (do_call Tryz.call97 rfl) trivial rfl rfl ?_
 rintro v11 Sv8 w a h9 rfl s
 have d := d.callB h9
 refine rn 2 [] s d rfl rfl fun a s => ?_
 obtain ⟨c21, hc21, u⟩ := bind_t u
 refine wpl_join 5 (fun a w => ∃ Sv22, Sl 68 [(1, .pointer (some ⟨b5, 0, none⟩)), (12, .bool c21)] a ∧ Wd ⟨w0, S0, []⟩ Sv22 [.box b5 (C56 r1 p2 k3) 56] [SlA p2 r1.Samples.length k3 r1.Samples] w) ?_ ?_
 ·rcases Bool.eq_false_or_eq_true (!rv7) with h20 | h20
  ·have s := s.fix 7 (.bool true) rfl (vb h20)
   have u := ite_t hc21 h20
   refine rn 5 [] s d rfl rfl fun a s => ?_
   refine wpList_nil ?_
   have u := oi u
   subst u
   exact then_normal ⟨S0, (s.wk rfl), (d.ft [0] [0] (by decide) rfl rfl)⟩
  have s := s.fix 7 (.bool false) rfl (vb h20)
  have u := ite_f hc21 h20
  refine rn 2 [0] s d rfl rfl fun a s => ?_
  obtain ⟨rv24, h23, u⟩ := bind_t u
  refine st_callR s (ref02_Valid_ok h23 d.bdom) (do_call Tryz.call70 rfl) ⟨_, rfl, rfl⟩ rfl rfl ?_
  rintro v28 Sv25 w a h26 rfl s
  have d := d.callB h26
  refine rn 2 [] s d rfl rfl fun a s => ?_
  refine wpList_nil ?_
  have u := oi u
  subst u
  exact then_normal ⟨S0, (s.wk rfl), (d.ft [0] [0] (by decide) rfl rfl)⟩
 rintro a w ⟨Sv22, s, d⟩
 refine mv s rfl rfl fun a s => ?_
 obtain ⟨c38, hc38, u⟩ := bind_t u
 refine wpl_join 5 (fun a w => ∃ Sv39, Sl 68 [(1, .pointer (some ⟨b5, 0, none⟩)), (18, .bool c38)] a ∧ Wd ⟨w0, S0, []⟩ Sv39 [.box b5 (C56 r1 p2 k3) 56] [SlA p2 r1.Samples.length k3 r1.Samples] w) ?_ ?_
 ·rcases Bool.eq_false_or_eq_true c21 with h37 | h37
  ·have s := s.fix 13 (.bool true) rfl (vb h37)
   have u := ite_t hc38 h37
   refine rn 5 [] s d rfl rfl fun a s => ?_
   refine wpList_nil ?_
   have u := oi u
   subst u
   exact then_normal ⟨Sv22, (s.wk rfl), (d.ft [0] [0] (by decide) rfl rfl)⟩
  have s := s.fix 13 (.bool false) rfl (vb h37)
  have u := ite_f hc38 h37
  refine rn 2 [0] s d rfl rfl fun a s => ?_
  obtain ⟨rv41, h40, u⟩ := bind_t u
  refine st_callR s (ref01_In_ok h40 d.bdom) (do_call Tryz.call61 rfl) ⟨_, rfl, rfl⟩ rfl rfl ?_
  rintro v45 Sv42 w a h43 rfl s
  have d := d.callB h43
  refine rn 2 [] s d rfl rfl fun a s => ?_
  refine wpList_nil ?_
  have u := oi u
  subst u
  exact then_normal ⟨Sv22, (s.wk rfl), (d.ft [0] [0] (by decide) rfl rfl)⟩
 rintro a w ⟨Sv39, s, d⟩
 refine mv s rfl rfl fun a s => ?_
 obtain ⟨c55, hc55, u⟩ := bind_t u
 refine wpl_join 5 (fun a w => ∃ Sv56, Sl 68 [(1, .pointer (some ⟨b5, 0, none⟩)), (24, .bool c55)] a ∧ Wd ⟨w0, S0, []⟩ Sv56 [.box b5 (C56 r1 p2 k3) 56] [SlA p2 r1.Samples.length k3 r1.Samples] w) ?_ ?_
 ·rcases Bool.eq_false_or_eq_true c38 with h54 | h54
  ·have s := s.fix 19 (.bool true) rfl (vb h54)
   have u := ite_t hc55 h54
   refine rn 5 [] s d rfl rfl fun a s => ?_
   refine wpList_nil ?_
   have u := oi u
   subst u
   exact then_normal ⟨Sv39, (s.wk rfl), (d.ft [0] [0] (by decide) rfl rfl)⟩
  have s := s.fix 19 (.bool false) rfl (vb h54)
  have u := ite_f hc55 h54
  refine rn 2 [0] s d rfl rfl fun a s => ?_
  obtain ⟨rv58, h57, u⟩ := bind_t u
  refine st_callR s (ref01_In_ok h57 d.bdom) (do_call Tryz.call61 rfl) ⟨_, rfl, rfl⟩ rfl rfl ?_
  rintro v62 Sv59 w a h60 rfl s
  have d := d.callB h60
  refine rn 2 [] s d rfl rfl fun a s => ?_
  refine wpList_nil ?_
  have u := oi u
  subst u
  exact then_normal ⟨Sv39, (s.wk rfl), (d.ft [0] [0] (by decide) rfl rfl)⟩
 rintro a w ⟨Sv56, s, d⟩
 refine mv s rfl rfl fun a s => ?_
 obtain ⟨c72, hc72, u⟩ := bind_t u
 refine wpl_join 6 (fun a w => ∃ Sv73, Sl 68 [(1, .pointer (some ⟨b5, 0, none⟩)), (31, .bool c72)] a ∧ Wd ⟨w0, S0, []⟩ Sv73 [.box b5 (C56 r1 p2 k3) 56] [SlA p2 r1.Samples.length k3 r1.Samples] w) ?_ ?_
 ·rcases Bool.eq_false_or_eq_true c55 with h71 | h71
  ·have s := s.fix 25 (.bool true) rfl (vb h71)
   have u := ite_t hc72 h71
   refine rn 6 [] s d rfl rfl fun a s => ?_
   refine wpList_nil ?_
   have u := oi u
   subst u
   exact then_normal ⟨Sv56, (s.wk rfl), (d.ft [0] [0] (by decide) rfl rfl)⟩
  have s := s.fix 25 (.bool false) rfl (vb h71)
  have u := ite_f hc72 h71
  refine rn 3 [0] s d rfl rfl fun a s => ?_
  obtain ⟨rv75, h74, u⟩ := bind_t u
  refine st_callR s (ref01_In_ok h74 d.bdom) (do_call Tryz.call61 rfl) ⟨_, rfl, rfl⟩ rfl rfl ?_
  rintro v79 Sv76 w a h77 rfl s
  have d := d.callB h77
  refine rn 2 [] s d rfl rfl fun a s => ?_
  refine wpList_nil ?_
  have u := oi u
  subst u
  exact then_normal ⟨Sv56, (s.wk rfl), (d.ft [0] [0] (by decide) rfl rfl)⟩
 rintro a w ⟨Sv73, s, d⟩
 refine mv s rfl rfl fun a s => ?_
 refine rO 8 32 [0, 0] s d rfl rfl rfl rfl rfl fun a s => ?_
 refine mv s rfl rfl fun a s => ?_
 obtain ⟨c90, hc90, u⟩ := bind_t u
 refine wpl_join 5 (fun a w => ∃ Sv91, Sl 68 [(1, .pointer (some ⟨b5, 0, none⟩)), (46, .bool c90)] a ∧ Wd ⟨w0, S0, []⟩ Sv91 [.box b5 (C56 r1 p2 k3) 56] [SlA p2 r1.Samples.length k3 r1.Samples] w) ?_ ?_
 ·rcases Bool.eq_false_or_eq_true (c72 || (decide (16777216 < (w64 (r1.First + (r1.Samples.length : Int)))))) with h89 | h89
  ·have s := s.fix 41 (.bool true) rfl (vb h89)
   have u := ite_t hc90 h89
   refine rn 5 [] s d rfl rfl fun a s => ?_
   refine wpList_nil ?_
   have u := oi u
   subst u
   exact then_normal ⟨Sv73, (s.wk rfl), (d.ft [0] [0] (by decide) rfl rfl)⟩
  have s := s.fix 41 (.bool false) rfl (vb h89)
  have u := ite_f hc90 h89
  refine rn 2 [0] s d rfl rfl fun a s => ?_
  obtain ⟨rv93, h92, u⟩ := bind_t u
  refine st_callR s (ref05_InRange_ok h92 d.bdom (d.bE 0 rfl)) (do_call Tryz.call98 rfl) ⟨_, rfl, rfl⟩ rfl rfl ?_
  rintro v97 Sv94 w a h95 rfl s
  have d := d.callB h95
  refine rn 2 [] s d rfl rfl fun a s => ?_
  refine wpList_nil ?_
  have u := oi u
  subst u
  exact then_normal ⟨Sv73, (s.wk rfl), (d.ft [0] [0] (by decide) rfl rfl)⟩
 rintro a w ⟨Sv91, s, d⟩
 refine nl (cd s u rfl (fun u => ?_) fun u => ?_)
 ·refine sz 1 [] s d rfl rfl fun a s => ?_
  have u := oi u
  subst u
  exact wp_ret (then_ret (ret1 s rfl (rv_tmp rfl) (d.ret rfl)))
 refine wp_skip (then_normal (sn 2 [0] s d rfl rfl fun a s => ?_))
 obtain ⟨rv102, h101, u⟩ := bind_t u
 refine st_callR s (ref01_In_ok h101 d.bdom) (do_call Tryz.call61 rfl) trivial rfl rfl ?_
 rintro v106 Sv103 w a h104 rfl s
 have d := d.callB h104
 refine mv s rfl rfl fun a s => ?_
 obtain ⟨c116, hc116, u⟩ := bind_t u
 refine wpl_join 4 (fun a w => ∃ Sv117, Sl 68 [(1, .pointer (some ⟨b5, 0, none⟩)), (54, .bool c116)] a ∧ Wd ⟨w0, S0, []⟩ Sv117 [.box b5 (C56 r1 p2 k3) 56] [SlA p2 r1.Samples.length k3 r1.Samples] w) ?_ ?_
 ·rcases Bool.eq_false_or_eq_true rv102 with h115 | h115
  ·have s := s.fix 50 (.bool true) rfl (vb h115)
   have u := ite_t hc116 h115
   refine rn 2 [0] s d rfl rfl fun a s => ?_
   obtain ⟨rv119, h118, u⟩ := bind_t u
   refine st_callR s (ref01_In_ok h118 d.bdom) (do_call Tryz.call61 rfl) ⟨_, rfl, rfl⟩ rfl rfl ?_
   rintro v123 Sv120 w a h121 rfl s
   have d := d.callB h121
   refine sv s (y_pickT rfl rfl) rfl fun a s => ?_
   refine wpList_nil ?_
   have u := oi u
   subst u
   exact then_normal ⟨Sv91, (s.wk rfl), (d.ft [0] [0] (by decide) rfl rfl)⟩
  have s := s.fix 50 (.bool false) rfl (vb h115)
  have u := ite_f hc116 h115
  refine rn 4 [] s d rfl rfl fun a s => ?_
  refine wpList_nil ?_
  have u := oi u
  subst u
  exact then_normal ⟨Sv91, (s.wk rfl), (d.ft [0] [0] (by decide) rfl rfl)⟩
 rintro a w ⟨Sv117, s, d⟩
 refine mv s rfl rfl fun a s => ?_
 obtain ⟨c133, hc133, u⟩ := bind_t u
 refine wpl_join 4 (fun a w => ∃ Sv134, Sl 68 [(1, .pointer (some ⟨b5, 0, none⟩)), (59, .bool c133)] a ∧ Wd ⟨w0, S0, []⟩ Sv134 [.box b5 (C56 r1 p2 k3) 56] [SlA p2 r1.Samples.length k3 r1.Samples] w) ?_ ?_
 ·rcases Bool.eq_false_or_eq_true c116 with h132 | h132
  ·have s := s.fix 55 (.bool true) rfl (vb h132)
   have u := ite_t hc133 h132
   refine rn 2 [0] s d rfl rfl fun a s => ?_
   obtain ⟨rv136, h135, u⟩ := bind_t u
   refine st_callR s (ref01_In_ok h135 d.bdom) (do_call Tryz.call61 rfl) ⟨_, rfl, rfl⟩ rfl rfl ?_
   rintro v140 Sv137 w a h138 rfl s
   have d := d.callB h138
   refine sv s (y_pickT rfl rfl) rfl fun a s => ?_
   refine wpList_nil ?_
   have u := oi u
   subst u
   exact then_normal ⟨Sv117, (s.wk rfl), (d.ft [0] [0] (by decide) rfl rfl)⟩
  have s := s.fix 55 (.bool false) rfl (vb h132)
  have u := ite_f hc133 h132
  refine rn 4 [] s d rfl rfl fun a s => ?_
  refine wpList_nil ?_
  have u := oi u
  subst u
  exact then_normal ⟨Sv117, (s.wk rfl), (d.ft [0] [0] (by decide) rfl rfl)⟩
 rintro a w ⟨Sv134, s, d⟩
 refine mv s rfl rfl fun a s => ?_
 obtain ⟨c150, hc150, u⟩ := bind_t u
 refine wpl_join 7 (fun a w => ∃ Sv151, Sl 68 [(67, .bool c150)] a ∧ Wd ⟨w0, S0, []⟩ Sv151 [] [] w) ?_ ?_
 ·rcases Bool.eq_false_or_eq_true c133 with h149 | h149
  ·have s := s.fix 60 (.bool true) rfl (vb h149)
   have u := ite_t hc150 h149
   refine rn 4 [0, 0] s d rfl rfl fun a s => ?_
   obtain ⟨rv153, h152, u⟩ := bind_t u
   refine st_callR s (ref14_Time_ok h152 d.bdom (d.bE 0 rfl)) (do_call Tryz.call62 rfl) ⟨_, rfl, rfl⟩ rfl rfl ?_
   rintro v157 Sv154 w a h155 rfl s
   have d := d.callB h155
   refine rn 2 [] s d rfl rfl fun a s => ?_
   refine wpList_nil ?_
   have u := oi u
   subst u
   exact then_normal ⟨Sv134, (s.wk rfl), (d.ft [] [] (by decide) rfl rfl)⟩
  have s := s.fix 60 (.bool false) rfl (vb h149)
  have u := ite_f hc150 h149
  refine rn 7 [] s d rfl rfl fun a s => ?_
  refine wpList_nil ?_
  have u := oi u
  subst u
  exact then_normal ⟨Sv134, (s.wk rfl), (d.ft [] [] (by decide) rfl rfl)⟩
 rintro a w ⟨Sv151, s, d⟩
 refine rz 1 [] s d rfl rfl fun a s => ?_
 have u := oi u
 subst u
 exact wp_ret (ret1 s rfl (rv_tmp rfl) (d.ret rfl))
theorem ref15_fine_ok {w0 S0 p2 k3 l1 r} (u : ref15_fine l1 = some r) (hS : Dm S0 w0) (h4 : (SlA p2 l1.length k3 l1).p S0 w0) : Calls Tryz.prog 95 #[.slice p2 l1.length k3] w0 (Ret ([]) w0 S0 (made_Light_rd w0 ([]) r)) := by
 refine en 28 Tryz.func95 rfl hS rfl rfl rfl fun a s d => ?_
 have d := d.addE h4
 delta ref15_fine at u
 refine sz 1 [] s d rfl rfl fun a s => ?_
 refine wp_seq (sz 1 [] s d rfl rfl fun a s => ?_)
 refine wp_block (wp_while (fun sv157 a w => ∃ Sv257, Sl 28 [(0, .slice p2 l1.length k3), (3, .int .i64 sv157)] a ∧ Wd ⟨w0, S0, []⟩ Sv257 [] [SlA p2 l1.length k3 l1] w) 0 u ⟨S0, (s.wk rfl), (d.ft [] [0] (by decide) rfl rfl)⟩ ?_)
 repeat clear u
 rintro sv157 a w tv308 ⟨Sv257, s, d⟩ u hd307
 delta ref15_fine_l2 at u
 refine wp_seq (sz 4 [] s d rfl rfl fun a s => ?_)
 refine cd s u rfl (fun u => ?_) fun u => ?_
 ·refine wp_skip (then_normal (wp_seq (wp_block (wp_seq ?_))))
  obtain ⟨x361, h359, u⟩ := bind_t u
  obtain ⟨b367, o368, q365, c366, h369, h362, h363, h364, h360⟩ := d.elemV 0 rfl h359
  have hsv370 := s
  have hwv371 := d
  subst h369
  have s := hsv370
  have d := hwv371
  obtain ⟨_, _, _, _, _, _, _, _, _, _, _, _, rfl, rfl, rfl, rfl, rfl, rfl, rfl, rfl, rfl, rfl, rfl, rfl, ⟨p372, n373, k374, rfl, h375⟩⟩ := h360
  obtain rfl := h375.1
  have d := (d.addE (e := SlA p372 _ k374 x361.Samples) h375).addE h364
  obtain ⟨rv377, h376, u⟩ := bind_t u
  obtain ⟨c402, hc402, u⟩ := bind_t u
  refine wp_only (fun a w => ∃ Sv403, Sl 28 [(0, .slice (some ⟨b367, o368, none⟩) l1.length k3), (3, .int .i64 sv157), (27, .bool c402)] a ∧ Wd ⟨w0, S0, []⟩ Sv403 [] [SlA (some ⟨b367, o368, none⟩) l1.length k3 l1] w) ?_ ?_
  ·rcases Bool.eq_false_or_eq_true (!rv377) with h404 | h404
   ·have h405 := ite_t hc402 h404
    refine h_c [] [0] d rfl rfl (by kernel_rfl) rfl fun hC d => ?_
    refine gn 2 [0, 1] [] s hC rfl rfl rfl fun a s => ?_
    refine gv s 2 rfl rfl hC (fun w hC => y_indexAt Tryz.runUnderlying28 Tryz.sizeOf56 rfl rfl h362.1 h362.2 h363) fun a s => ?_
    refine gv s 3 rfl rfl hC (fun w hC => y_loadEA (j := 0) (hC.ceAt 0 rfl) rfl Tryz.isAgg56 Tryz.sizeOf56 rfl rfl) fun a s => ?_
    refine ho 4 rfl ?_
    refine st_callR s (ref14_Valid_ok h376 d.bdom (d.bE 1 rfl)) (do_call Tryz.call60 rfl) trivial rfl rfl ?_
    rintro v409 Sv406 w a h407 rfl s
    have d := d.callB h407
    refine h_n [] [0] d rfl rfl fun hC => ?_
    refine gn 2 [5, 6] [] s hC rfl rfl rfl fun a s => ?_
    have s := s.fix 16 (.bool true) rfl (vb h404)
    refine gn 10 [7, 8, 9, 10, 11, 12, 13, 14, 15, 16] [] s hC rfl rfl rfl fun a s => ?_
    refine gv s 17 rfl rfl hC (fun w hC => y_pickTE (v := .bool c402) rfl rfl (vbs h405)) fun a s => ?_
    refine h_done (by kernel_rfl) ?_
    exact ⟨Sv257, (s.wk rfl), (d.ft [] [2] (by decide) rfl rfl)⟩
   have h411 := ite_f hc402 h404
   obtain ⟨x414, h412, h411⟩ := bind_t h411
   obtain ⟨q418, c419, h415, h416, h417, h413⟩ := d.elemK 2 rfl h412
   obtain ⟨_, _, _, _, _, _, _, _, _, _, _, _, rfl, rfl, rfl, rfl, rfl, rfl, rfl, rfl, rfl, rfl, rfl, rfl, ⟨p420, n421, k422, rfl, h423⟩⟩ := h413
   obtain rfl := h423.1
   have d := (d.addE (e := SlA p420 _ k422 x414.Samples) h423).addE h417
   obtain ⟨x426, h424, h411⟩ := bind_t h411
   obtain ⟨q430, c431, h427, h428, h429, h425⟩ := d.elemK 4 rfl h424
   obtain ⟨_, _, _, _, _, _, _, _, _, _, _, _, rfl, rfl, rfl, rfl, rfl, rfl, rfl, rfl, rfl, rfl, rfl, rfl, ⟨p432, n433, k434, rfl, h435⟩⟩ := h425
   obtain rfl := h435.1
   have d := (d.addE (e := SlA p432 _ k434 x426.Samples) h435).addE h429
   refine h_c [] [0, 2, 4] d rfl rfl (by kernel_rfl) rfl fun hC d => ?_
   refine gn 2 [0, 1] [] s hC rfl rfl rfl fun a s => ?_
   refine gv s 2 rfl rfl hC (fun w hC => y_indexAt Tryz.runUnderlying28 Tryz.sizeOf56 rfl rfl h362.1 h362.2 h363) fun a s => ?_
   refine gv s 3 rfl rfl hC (fun w hC => y_loadEA (j := 0) (hC.ceAt 2 rfl) rfl Tryz.isAgg56 Tryz.sizeOf56 rfl rfl) fun a s => ?_
   refine ho 4 rfl ?_
   refine st_callR s (ref14_Valid_ok h376 d.bdom (d.bE 5 rfl)) (do_call Tryz.call60 rfl) trivial rfl rfl ?_
   rintro v439 Sv436 w a h437 rfl s
   have d := d.callB h437
   refine h_n [] [0, 2, 4] d rfl rfl fun hC => ?_
   refine gn 2 [5, 6] [] s hC rfl rfl rfl fun a s => ?_
   have s := s.fix 16 (.bool false) rfl (vb h404)
   refine gn 2 [7, 8] [] s hC rfl rfl rfl fun a s => ?_
   refine gt s 9 rfl ⟨_, rfl, rfl⟩ rfl hC (fun w hC => y_indexAt Tryz.runUnderlying28 Tryz.sizeOf56 rfl rfl h415.1 h415.2 h416) fun a s => ?_
   refine gt s 10 rfl ⟨_, rfl, rfl⟩ rfl hC (fun w hC => y_fieldAddr (o' := q418 + 0) Tryz.runUnderlying56 rfl Tryz.sizeOf52 rfl rfl rfl) fun a s => ?_
   refine gt s 11 rfl ⟨_, rfl, rfl⟩ rfl hC (fun w hC => y_loadEA (j := 0) (hC.ceAt 1 rfl) rfl Tryz.isAgg52 Tryz.sizeOf52 rfl rfl) fun a s => ?_
   refine gt s 12 rfl ⟨_, rfl, rfl⟩ rfl hC (fun w hC => y_move rfl) fun a s => ?_
   refine gt s 13 rfl ⟨_, rfl, rfl⟩ rfl hC (fun w hC => y_indexAt Tryz.runUnderlying28 Tryz.sizeOf56 rfl rfl h427.1 h427.2 h428) fun a s => ?_
   refine gt s 14 rfl ⟨_, rfl, rfl⟩ rfl hC (fun w hC => y_fieldAddr (o' := q430 + 0) Tryz.runUnderlying56 rfl Tryz.sizeOf52 rfl rfl rfl) fun a s => ?_
   refine gt s 15 rfl ⟨_, rfl, rfl⟩ rfl hC (fun w hC => y_loadEA (j := 0) (hC.ceAt 0 rfl) rfl Tryz.isAgg52 Tryz.sizeOf52 rfl rfl) fun a s => ?_
   refine gt s 16 rfl ⟨_, rfl, rfl⟩ rfl hC (fun w hC => y_neqA (by kernel_rfl) rfl rfl (eqv_struct Tryz.runUnderlying52 (by kernel_rfl) (EqF.cons1 rfl Tryz.isAgg9 rfl rfl (eqv_str Tryz.runUnderlying9) (EqF.cons1 rfl Tryz.isAgg9 rfl rfl (eqv_str Tryz.runUnderlying9) (EqF.cons1 rfl Tryz.isAgg9 rfl rfl (eqv_str Tryz.runUnderlying9) (EqF.cons1 rfl Tryz.isAgg9 rfl rfl (eqv_str Tryz.runUnderlying9) EqF.nil)))))) fun a s => ?_
   refine gv s 17 rfl rfl hC (fun w hC => y_pickFE (v := .bool c402) rfl rfl (vbs h411)) fun a s => ?_
   refine h_done (by kernel_rfl) ?_
   exact ⟨Sv257, (s.wk rfl), (d.ft [] [6] (by decide) rfl rfl)⟩
  rintro a w ⟨Sv403, s, d⟩
  refine then_normal (cd s u rfl (fun u => ?_) fun u => ?_)
  ·refine sz 1 [] s d rfl rfl fun a s => ?_
   have u := oi u
   subst u
   have h443 := hd307 _ rfl
   subst h443
   exact wp_ret (blk_ret (then_ret (then_ret (blk_ret (then_ret (ret1 s rfl (rv_tmp rfl) (d.ret rfl)))))))
  refine wp_skip (blk_normal (then_normal (wp_region_lit (rn 2 [] s d rfl rfl fun a s => ?_))))
  obtain ⟨i445, h444, u⟩ := bind_t u
  refine sv s (y_assignI rfl h444) rfl fun a s => ?_
  exact nl ⟨_, (Option.some.inj u).symm, Sv403, (s.wk rfl), (d.ft [] [0] (by decide) rfl rfl)⟩
 obtain ⟨rv446, u, h447⟩ := map_t u
 have h447 := (hd307 _ h447.symm).symm
 subst h447
 refine wp_exit (then_exit (then_exit (blk_exit (then_normal (sz 1 [] s d rfl rfl fun a s => ?_)))))
 have u := oi u
 subst u
 exact wp_ret (ret1 s rfl (rv_tmp rfl) (d.ret rfl))
theorem ref15_Valid_ok {w0 S0 p2 k3 l1 r} (u : ref15_Valid l1 = some r) (hS : Dm S0 w0) (h4 : (SlA p2 l1.length k3 l1).p S0 w0) : Calls Tryz.prog 56 #[.slice p2 l1.length k3] w0 (Ret ([]) w0 S0 (made_Light_rd w0 ([]) r)) := by
 refine en 10 Tryz.func56 rfl hS rfl rfl rfl fun a s d => ?_
 have d := d.addE h4
 delta ref15_Valid at u
 refine sz 1 [] s d rfl rfl fun a s => ?_
 refine sn 4 [] s d rfl rfl fun a s => ?_
 obtain ⟨c13, hc13, u⟩ := bind_t u
 refine wpl_join 3 (fun a w => ∃ Sv14, Sl 10 [(9, .bool c13)] a ∧ Wd ⟨w0, S0, []⟩ Sv14 [] [] w) ?_ ?_
 ·rcases Bool.eq_false_or_eq_true (decide ((l1.length : Int) ≤ 256)) with h12 | h12
  ·have s := s.fix 6 (.bool true) rfl (vb h12)
   have u := ite_t hc13 h12
   refine st_val s (y_move rfl) ⟨_, rfl, rfl⟩ rfl rfl fun a s => ?_
   obtain ⟨rv16, h15, u⟩ := bind_t u
   refine st_callR s (ref15_fine_ok h15 d.bdom (d.bE 0 rfl)) (do_call Tryz.call95 rfl) ⟨_, rfl, rfl⟩ rfl rfl ?_
   rintro v20 Sv17 w a h18 rfl s
   have d := d.callB h18
   refine sv s (y_pickT rfl rfl) rfl fun a s => ?_
   refine wpList_nil ?_
   have u := oi u
   subst u
   exact then_normal ⟨S0, (s.wk rfl), (d.ft [] [] (by decide) rfl rfl)⟩
  have s := s.fix 6 (.bool false) rfl (vb h12)
  have u := ite_f hc13 h12
  refine rn 3 [] s d rfl rfl fun a s => ?_
  refine wpList_nil ?_
  have u := oi u
  subst u
  exact then_normal ⟨S0, (s.wk rfl), (d.ft [] [] (by decide) rfl rfl)⟩
 rintro a w ⟨Sv14, s, d⟩
 refine rz 1 [] s d rfl rfl fun a s => ?_
 have u := oi u
 subst u
 exact wp_ret (ret1 s rfl (rv_tmp rfl) (d.ret rfl))
theorem ref03_compare_ok {w0 S0 a1 b2 r} (u : ref03_compare a1 b2 = some r) (hS : Dm S0 w0) : Calls Tryz.prog 172 #[.string a1, .string b2] w0 (Ret ([]) w0 S0 (slices_IndexFunc_Lapi_Record_api_Record_rd w0 ([]) r)) := by
 refine en 13 Tryz.func172 rfl hS rfl rfl rfl fun a s d => ?_
 delta ref03_compare at u
 refine sz 1 [] s d rfl rfl fun a s => ?_
 refine wp_seq (wp_block (sn 2 [] s d rfl rfl fun a s => ?_))
 refine sv s (y_lssS rfl rfl) rfl fun a s => ?_
 refine rz 1 [] s d rfl rfl fun a s => ?_
 refine cd s u rfl (fun u => ?_) fun u => ?_
 ·refine sz 1 [] s d rfl rfl fun a s => ?_
  have u := oi u
  subst u
  exact wp_ret (blk_ret (then_ret (ret1 s rfl (rv_tmp rfl) (d.ret rfl))))
 refine sn 2 [] s d rfl rfl fun a s => ?_
 refine sv s (y_gtrS rfl rfl) rfl fun a s => ?_
 refine rz 1 [] s d rfl rfl fun a s => ?_
 refine cd s u rfl (fun u => ?_) fun u => ?_
 ·refine sz 1 [] s d rfl rfl fun a s => ?_
  have u := oi u
  subst u
  exact wp_ret (blk_ret (then_ret (ret1 s rfl (rv_tmp rfl) (d.ret rfl))))
 refine wp_skip (blk_normal (then_normal (sz 1 [] s d rfl rfl fun a s => ?_)))
 have u := oi u
 subst u
 exact wp_ret (ret1 s rfl (rv_tmp rfl) (d.ret rfl))
theorem ref03_Compare_ok {w0 S0 a1 b2 r} (u : ref03_Compare a1 b2 = some r) (hS : Dm S0 w0) : Calls Tryz.prog 136 #[V52 a1, V52 b2] w0 (Ret ([]) w0 S0 (slices_IndexFunc_Lapi_Record_api_Record_rd w0 ([]) r)) := by
 refine en 35 Tryz.func136 rfl hS rfl rfl rfl fun a s d => ?_
 delta ref03_Compare at u
 refine sr (w_box (cs := (C52 a1)) s d rfl rfl rfl trivial ?_)
 intro b3 a w s d
 refine w_box (cs := (C52 b2)) s d rfl rfl rfl trivial ?_
 intro b4 a w s d
 refine rz 1 [] s d rfl rfl fun a s => ?_
 refine wp_seq (wp_seq ?_)
 obtain ⟨rv6, h5, u⟩ := bind_t u
 obtain ⟨rv8, h7, u⟩ := bind_t u
 obtain ⟨rv10, h9, u⟩ := bind_t u
 obtain ⟨rv12, h11, u⟩ := bind_t u
 refine wp_only (fun a w => ∃ Sv13, Sl 35 [(27, .agg #[.int .i64 rv6, .int .i64 rv8, .int .i64 rv10, .int .i64 rv12]), (28, .int .i64 0)] a ∧ Wd ⟨w0, S0, []⟩ Sv13 [] [] w) ?_ ?_
 ·refine h_c [0, 1] [] d rfl rfl (by kernel_rfl) rfl fun hC d => ?_
  refine gn 17 [0, 1, 2, 3, 5, 6, 7, 8, 10, 11, 12, 13, 15, 16, 17, 18, 21] [1, 0, 1, 0, 1, 0, 1, 0] s hC rfl rfl rfl fun a s => ?_
  refine ho 4 rfl ?_
  refine st_callR s (ref03_compare_ok h5 d.bdom) (do_call Tryz.call172 rfl) trivial rfl rfl ?_
  rintro v17 Sv14 w a h15 rfl s
  have d := d.callB h15
  refine h_n [0, 1] [] d rfl rfl fun hC => ?_
  refine ho 9 rfl ?_
  refine st_callR s (ref03_compare_ok h7 d.bdom) (do_call Tryz.call172 rfl) trivial rfl rfl ?_
  rintro v22 Sv19 w a h20 rfl s
  have d := d.callB h20
  refine h_n [0, 1] [] d rfl rfl fun hC => ?_
  refine ho 14 rfl ?_
  refine st_callR s (ref03_compare_ok h9 d.bdom) (do_call Tryz.call172 rfl) trivial rfl rfl ?_
  rintro v27 Sv24 w a h25 rfl s
  have d := d.callB h25
  refine h_n [0, 1] [] d rfl rfl fun hC => ?_
  refine ho 19 rfl ?_
  refine st_callR s (ref03_compare_ok h11 d.bdom) (do_call Tryz.call172 rfl) trivial rfl rfl ?_
  rintro v32 Sv29 w a h30 rfl s
  have d := d.callB h30
  refine h_n [0, 1] [] d rfl rfl fun hC => ?_
  refine gv s 20 rfl rfl hC (fun w hC => y_build (vs := [(0, .int .i64 rv6), (1, .int .i64 rv8), (2, .int .i64 rv10), (3, .int .i64 rv12)]) Bld177 rfl rfl) fun a s => ?_
  refine h_done (by kernel_rfl) ?_
  exact ⟨S0, (s.wk rfl), (d.ft [] [] (by decide) rfl rfl)⟩
 rintro a w ⟨Sv13, s, d⟩
 refine then_normal (wp_block (wp_while (fun sv51 a w => ∃ Sv61, Sl 35 [(27, .agg #[.int .i64 rv6, .int .i64 rv8, .int .i64 rv10, .int .i64 rv12]), (28, .int .i64 sv51)] a ∧ Wd ⟨w0, S0, []⟩ Sv61 [] [] w) 0 u ⟨Sv13, (s.wk rfl), (d.ft [] [] (by decide) rfl rfl)⟩ ?_))
 repeat clear u
 rintro sv51 a w tv67 ⟨Sv61, s, d⟩ u hd66
 delta ref03_Compare_l2 at u
 refine sz 1 [] s d rfl rfl fun a s => ?_
 refine wp_seq (cd s u rfl (fun u => ?_) fun u => ?_)
 ·refine wp_skip (then_normal (wp_seq (wp_block (sr ?_))))
  obtain ⟨x76, h75, u⟩ := bind_t u
  refine sv s (y_idxA (α := Int) (xs := [rv6, rv8, rv10, rv12]) (cs := [.int .i64 rv6, .int .i64 rv8, .int .i64 rv10, .int .i64 rv12]) (es := [.int .i64 x76]) (v := .int .i64 x76) Tryz.runUnderlying177 Tryz.sizeOf3 (.inl ⟨Tryz.isAgg3, rfl⟩) rfl rfl rfl (fun _ _ => ⟨⟨_, rfl, rfl⟩, ⟨⟨_, rfl, rfl⟩, ⟨⟨_, rfl, rfl⟩, ⟨⟨_, rfl, rfl⟩, rfl⟩⟩⟩⟩) h75 (fun _ _ _ he => by obtain ⟨_, rfl, rfl⟩ := he; rfl)) rfl fun a s => ?_
  refine rz 1 [] s d rfl rfl fun a s => ?_
  refine sz 2 [] s d rfl rfl fun a s => ?_
  refine cd s u rfl (fun u => ?_) fun u => ?_
  ·refine sz 2 [] s d rfl rfl fun a s => ?_
   have u := oi u
   subst u
   have h79 := hd66 _ rfl
   subst h79
   exact wp_ret (blk_ret (then_ret (then_ret (blk_ret (then_ret (ret1 s rfl (rv_tmp rfl) (d.ret rfl)))))))
  refine wp_skip (blk_normal (then_normal (wp_region_lit (rz 2 [] s d rfl rfl fun a s => ?_))))
  exact ⟨_, (Option.some.inj u).symm, Sv61, (s.wk rfl), (d.ft [] [] (by decide) rfl rfl)⟩
 obtain ⟨rv80, u, h81⟩ := map_t u
 have h81 := (hd66 _ h81.symm).symm
 subst h81
 refine wp_exit (then_exit (then_exit (blk_exit (then_normal (sz 1 [] s d rfl rfl fun a s => ?_)))))
 have u := oi u
 subst u
 exact wp_ret (ret1 s rfl (rv_tmp rfl) (d.ret rfl))
theorem ref14_number_ok {w0 S0 a1 b2 r} (u : ref14_number a1 b2 = some r) (hS : Dm S0 w0) : Calls Tryz.prog 102 #[.int .i64 a1, .int .i64 b2] w0 (Ret ([]) w0 S0 (slices_IndexFunc_Lapi_Record_api_Record_rd w0 ([]) r)) := by
 refine en 13 Tryz.func102 rfl hS rfl rfl rfl fun a s d => ?_
 delta ref14_number at u
 refine sz 1 [] s d rfl rfl fun a s => ?_
 refine wp_seq (wp_block (sz 4 [] s d rfl rfl fun a s => ?_))
 refine cd s u rfl (fun u => ?_) fun u => ?_
 ·refine sz 1 [] s d rfl rfl fun a s => ?_
  have u := oi u
  subst u
  exact wp_ret (blk_ret (then_ret (ret1 s rfl (rv_tmp rfl) (d.ret rfl))))
 refine sz 4 [] s d rfl rfl fun a s => ?_
 refine cd s u rfl (fun u => ?_) fun u => ?_
 ·refine sz 1 [] s d rfl rfl fun a s => ?_
  have u := oi u
  subst u
  exact wp_ret (blk_ret (then_ret (ret1 s rfl (rv_tmp rfl) (d.ret rfl))))
 refine wp_skip (blk_normal (then_normal (sz 1 [] s d rfl rfl fun a s => ?_)))
 have u := oi u
 subst u
 exact wp_ret (ret1 s rfl (rv_tmp rfl) (d.ret rfl))
theorem ref14_Compare_ok {w0 S0 p2 k3 p6 k7 a1 b5 r} (u : ref14_Compare a1 b5 = some r) (hS : Dm S0 w0) (h4 : (SlA p2 a1.Samples.length k3 a1.Samples).p S0 w0) (h8 : (SlA p6 b5.Samples.length k7 b5.Samples).p S0 w0) : Calls Tryz.prog 96 #[V56 a1 p2 k3, V56 b5 p6 k7] w0 (Ret ([]) w0 S0 (slices_IndexFunc_Lapi_Record_api_Record_rd w0 ([]) r)) := by
 refine en 102 Tryz.func96 rfl hS rfl rfl rfl fun a s d => ?_
 have d := (d.addE h4).addE h8
 delta ref14_Compare at u
 refine sr (w_box (cs := (C56 a1 p2 k3)) s d rfl rfl rfl trivial ?_)
 intro b9 a w s d
 refine w_box (cs := (C56 b5 p6 k7)) s d rfl rfl rfl trivial ?_
 intro b10 a w s d
 refine rz 1 [] s d rfl rfl fun a s => ?_
 refine sz 2 [] s d rfl rfl fun a s => ?_
 refine wp_seq (sn 1 [1] s d rfl rfl fun a s => ?_)
 obtain ⟨rv12, h11, u⟩ := bind_t u
 refine st_callR s (ref14_Valid_ok h11 d.bdom (d.bE 1 rfl)) (do_call Tryz.call60 rfl) trivial rfl rfl ?_
 rintro v16 Sv13 w a h14 rfl s
 have d := d.callB h14
 refine nl (wp_join (fun a w => ∃ (x27 : Int) (Sv26 : _), ref14_Compare_j1 a1 b5 x27 = some r ∧ Sl 102 [(2, .pointer (some ⟨b9, 0, none⟩)), (3, .pointer (some ⟨b10, 0, none⟩)), (5, .int .i64 x27), (6, .int .i64 0)] a ∧ Wd ⟨w0, S0, []⟩ Sv26 [.box b9 (C56 a1 p2 k3) 56, .box b10 (C56 b5 p6 k7) 56] [SlA p2 a1.Samples.length k3 a1.Samples, SlA p6 b5.Samples.length k7 b5.Samples] w) ?_ ?_)
 ·refine cd s u rfl (fun u => ?_) fun u => ?_
  ·refine wp_region_lit (sv s (y_loadBA (d.ownAt 1 rfl) rfl Tryz.isAgg56 Tryz.sizeOf56 rfl rfl) rfl fun a s => ?_)
   obtain ⟨rv457, h456, u⟩ := bind_t u
   refine st_callR s (ref14_Time_ok h456 d.bdom (d.bE 1 rfl)) (do_call Tryz.call62 rfl) trivial rfl rfl ?_
   rintro v461 Sv458 w a h459 rfl s
   have d := d.callB h459
   refine rz 1 [] s d rfl rfl fun a s => ?_
   exact ⟨rv457, S0, u, (s.wk rfl), (d.ft [1, 0] [1, 0] (by decide) rfl rfl)⟩
  exact wp_skip (then_normal ⟨0, S0, u, (s.wk rfl), (d.ft [1, 0] [1, 0] (by decide) rfl rfl)⟩)
 rintro a w ⟨x27, Sv26, u, s, d⟩
 delta ref14_Compare_j1 at u
 refine then_normal (wp_seq (sn 1 [1] s d rfl rfl fun a s => ?_))
 obtain ⟨rv29, h28, u⟩ := bind_t u
 refine st_callR s (ref14_Valid_ok h28 d.bdom (d.bE 1 rfl)) (do_call Tryz.call60 rfl) trivial rfl rfl ?_
 rintro v33 Sv30 w a h31 rfl s
 have d := d.callB h31
 refine nl (wp_join (fun a w => ∃ (y44 : Int) (Sv43 : _), ref14_Compare_j2 a1 b5 x27 y44 = some r ∧ Sl 102 [(2, .pointer (some ⟨b9, 0, none⟩)), (3, .pointer (some ⟨b10, 0, none⟩)), (5, .int .i64 x27), (6, .int .i64 y44)] a ∧ Wd ⟨w0, S0, []⟩ Sv43 [.box b9 (C56 a1 p2 k3) 56, .box b10 (C56 b5 p6 k7) 56] [SlA p2 a1.Samples.length k3 a1.Samples, SlA p6 b5.Samples.length k7 b5.Samples] w) ?_ ?_)
 ·refine cd s u rfl (fun u => ?_) fun u => ?_
  ·refine wp_region_lit (sv s (y_loadBA (d.ownAt 1 rfl) rfl Tryz.isAgg56 Tryz.sizeOf56 rfl rfl) rfl fun a s => ?_)
   obtain ⟨rv449, h448, u⟩ := bind_t u
   refine st_callR s (ref14_Time_ok h448 d.bdom (d.bE 1 rfl)) (do_call Tryz.call62 rfl) trivial rfl rfl ?_
   rintro v453 Sv450 w a h451 rfl s
   have d := d.callB h451
   refine rz 1 [] s d rfl rfl fun a s => ?_
   exact ⟨rv449, Sv26, u, (s.wk rfl), (d.ft [0, 1] [0, 1] (by decide) rfl rfl)⟩
  exact wp_skip (then_normal ⟨0, Sv26, u, (s.wk rfl), (d.ft [0, 1] [0, 1] (by decide) rfl rfl)⟩)
 rintro a w ⟨y44, Sv43, u, s, d⟩
 delta ref14_Compare_j2 at u
 refine then_normal (wp_seq (wp_seq ?_))
 obtain ⟨rv46, h45, u⟩ := bind_t u
 obtain ⟨rv48, h47, u⟩ := bind_t u
 obtain ⟨rv50, h49, u⟩ := bind_t u
 obtain ⟨rv52, h51, u⟩ := bind_t u
 obtain ⟨rv54, h53, u⟩ := bind_t u
 obtain ⟨rv56, h55, u⟩ := bind_t u
 obtain ⟨rv58, h57, u⟩ := bind_t u
 obtain ⟨rv60, h59, u⟩ := bind_t u
 obtain ⟨rv62, h61, u⟩ := bind_t u
 obtain ⟨rv64, h63, u⟩ := bind_t u
 refine wp_only (fun a w => ∃ Sv65, Sl 102 [(2, .pointer (some ⟨b9, 0, none⟩)), (3, .pointer (some ⟨b10, 0, none⟩)), (73, .agg #[.int .i64 rv46, .int .i64 rv48, .int .i64 rv50, .int .i64 rv52, .int .i64 rv54, .int .i64 rv56, .int .i64 rv58, .int .i64 rv60, .int .i64 rv62, .int .i64 rv64]), (74, .int .i64 0)] a ∧ Wd ⟨w0, S0, []⟩ Sv65 [.box b9 (C56 a1 p2 k3) 56, .box b10 (C56 b5 p6 k7) 56] [SlA p2 a1.Samples.length k3 a1.Samples, SlA p6 b5.Samples.length k7 b5.Samples] w) ?_ ?_
 ·refine h_c [0, 1] [] d rfl rfl (by kernel_rfl) rfl fun hC d => ?_
  refine gn 45 [0, 1, 2, 3, 5, 6, 8, 9, 10, 11, 13, 14, 15, 16, 18, 19, 20, 21, 22, 23, 25, 26, 27, 28, 29, 30, 32, 33, 34, 35, 37, 38, 39, 40, 42, 43, 44, 45, 47, 48, 49, 50, 51, 52, 55] [0, 1, 0, 1, 0, 1, 0, 1, 0, 1, 0, 1, 0, 1, 0, 1, 0, 1] s hC rfl rfl rfl fun a s => ?_
  refine ho 4 rfl ?_
  refine st_callR s (ref03_Compare_ok h45 d.bdom) (do_call Tryz.call136 rfl) trivial rfl rfl ?_
  rintro v69 Sv66 w a h67 rfl s
  have d := d.callB h67
  refine h_n [0, 1] [] d rfl rfl fun hC => ?_
  refine ho 7 rfl ?_
  refine st_callR s (ref14_number_ok h47 d.bdom) (do_call Tryz.call102 rfl) trivial rfl rfl ?_
  rintro v74 Sv71 w a h72 rfl s
  have d := d.callB h72
  refine h_n [0, 1] [] d rfl rfl fun hC => ?_
  refine ho 12 rfl ?_
  refine st_callR s (ref14_number_ok h49 d.bdom) (do_call Tryz.call102 rfl) trivial rfl rfl ?_
  rintro v79 Sv76 w a h77 rfl s
  have d := d.callB h77
  refine h_n [0, 1] [] d rfl rfl fun hC => ?_
  refine ho 17 rfl ?_
  refine st_callR s (ref14_number_ok h51 d.bdom) (do_call Tryz.call102 rfl) trivial rfl rfl ?_
  rintro v84 Sv81 w a h82 rfl s
  have d := d.callB h82
  refine h_n [0, 1] [] d rfl rfl fun hC => ?_
  refine ho 24 rfl ?_
  refine st_callR s (ref14_number_ok h53 d.bdom) (do_call Tryz.call102 rfl) trivial rfl rfl ?_
  rintro v89 Sv86 w a h87 rfl s
  have d := d.callB h87
  refine h_n [0, 1] [] d rfl rfl fun hC => ?_
  refine ho 31 rfl ?_
  refine st_callR s (ref14_number_ok h55 d.bdom) (do_call Tryz.call102 rfl) trivial rfl rfl ?_
  rintro v94 Sv91 w a h92 rfl s
  have d := d.callB h92
  refine h_n [0, 1] [] d rfl rfl fun hC => ?_
  refine ho 36 rfl ?_
  refine st_callR s (ref14_number_ok h57 d.bdom) (do_call Tryz.call102 rfl) trivial rfl rfl ?_
  rintro v99 Sv96 w a h97 rfl s
  have d := d.callB h97
  refine h_n [0, 1] [] d rfl rfl fun hC => ?_
  refine ho 41 rfl ?_
  refine st_callR s (ref14_number_ok h59 d.bdom) (do_call Tryz.call102 rfl) trivial rfl rfl ?_
  rintro v104 Sv101 w a h102 rfl s
  have d := d.callB h102
  refine h_n [0, 1] [] d rfl rfl fun hC => ?_
  refine ho 46 rfl ?_
  refine st_callR s (ref14_number_ok h61 d.bdom) (do_call Tryz.call102 rfl) trivial rfl rfl ?_
  rintro v109 Sv106 w a h107 rfl s
  have d := d.callB h107
  refine h_n [0, 1] [] d rfl rfl fun hC => ?_
  refine ho 53 rfl ?_
  refine st_callR s (ref14_number_ok h63 d.bdom) (do_call Tryz.call102 rfl) trivial rfl rfl ?_
  rintro v114 Sv111 w a h112 rfl s
  have d := d.callB h112
  refine h_n [0, 1] [] d rfl rfl fun hC => ?_
  refine gv s 54 rfl rfl hC (fun w hC => y_build (cells := [.int .i64 rv46, .int .i64 rv48, .int .i64 rv50, .int .i64 rv52, .int .i64 rv54, .int .i64 rv56, .int .i64 rv58, .int .i64 rv60, .int .i64 rv62, .int .i64 rv64]) (vs := [(0, .int .i64 rv46), (1, .int .i64 rv48), (2, .int .i64 rv50), (3, .int .i64 rv52), (4, .int .i64 rv54), (5, .int .i64 rv56), (6, .int .i64 rv58), (7, .int .i64 rv60), (8, .int .i64 rv62), (9, .int .i64 rv64)]) Bld150 rfl (by kernel_rfl)) fun a s => ?_
  refine h_done (by kernel_rfl) ?_
  exact ⟨Sv43, (s.wk rfl), (d.ft [0, 1] [0, 1] (by decide) rfl rfl)⟩
 rintro a w ⟨Sv65, s, d⟩
 refine then_normal (wp_block (wp_while (fun sv133 a w => ∃ Sv143, Sl 102 [(2, .pointer (some ⟨b9, 0, none⟩)), (3, .pointer (some ⟨b10, 0, none⟩)), (73, .agg #[.int .i64 rv46, .int .i64 rv48, .int .i64 rv50, .int .i64 rv52, .int .i64 rv54, .int .i64 rv56, .int .i64 rv58, .int .i64 rv60, .int .i64 rv62, .int .i64 rv64]), (74, .int .i64 sv133)] a ∧ Wd ⟨w0, S0, []⟩ Sv143 [.box b9 (C56 a1 p2 k3) 56, .box b10 (C56 b5 p6 k7) 56] [SlA p2 a1.Samples.length k3 a1.Samples, SlA p6 b5.Samples.length k7 b5.Samples] w) 0 u ⟨Sv65, (s.wk rfl), (d.ft [0, 1] [0, 1] (by decide) rfl rfl)⟩ ?_))
 repeat clear u
 rintro sv133 a w tv149 ⟨Sv143, s, d⟩ u hd148
 delta ref14_Compare_l2 at u
 refine sz 1 [] s d rfl rfl fun a s => ?_
 refine wp_seq (cd s u rfl (fun u => ?_) fun u => ?_)
 ·refine wp_skip (then_normal (wp_seq (wp_block (sr ?_))))
  obtain ⟨x158, h157, u⟩ := bind_t u
  refine sv s (y_idxA (α := Int) (xs := [rv46, rv48, rv50, rv52, rv54, rv56, rv58, rv60, rv62, rv64]) (cs := [.int .i64 rv46, .int .i64 rv48, .int .i64 rv50, .int .i64 rv52, .int .i64 rv54, .int .i64 rv56, .int .i64 rv58, .int .i64 rv60, .int .i64 rv62, .int .i64 rv64]) (es := [.int .i64 x158]) (v := .int .i64 x158) Tryz.runUnderlying150 Tryz.sizeOf3 (.inl ⟨Tryz.isAgg3, rfl⟩) rfl rfl rfl (fun _ _ => ⟨⟨_, rfl, rfl⟩, ⟨⟨_, rfl, rfl⟩, ⟨⟨_, rfl, rfl⟩, ⟨⟨_, rfl, rfl⟩, ⟨⟨_, rfl, rfl⟩, ⟨⟨_, rfl, rfl⟩, ⟨⟨_, rfl, rfl⟩, ⟨⟨_, rfl, rfl⟩, ⟨⟨_, rfl, rfl⟩, ⟨⟨_, rfl, rfl⟩, rfl⟩⟩⟩⟩⟩⟩⟩⟩⟩⟩) h157 (fun _ _ _ he => by obtain ⟨_, rfl, rfl⟩ := he; rfl)) rfl fun a s => ?_
  refine rz 1 [] s d rfl rfl fun a s => ?_
  refine sz 2 [] s d rfl rfl fun a s => ?_
  refine cd s u rfl (fun u => ?_) fun u => ?_
  ·refine sz 2 [] s d rfl rfl fun a s => ?_
   have u := oi u
   subst u
   have h161 := hd148 _ rfl
   subst h161
   exact wp_ret (blk_ret (then_ret (then_ret (blk_ret (then_ret (ret1 s rfl (rv_tmp rfl) (d.ret rfl)))))))
  refine wp_skip (blk_normal (then_normal (wp_region_lit (rz 2 [] s d rfl rfl fun a s => ?_))))
  exact ⟨_, (Option.some.inj u).symm, Sv143, (s.wk rfl), (d.ft [0, 1] [0, 1] (by decide) rfl rfl)⟩
 obtain ⟨rv445, u, h446⟩ := map_t u
 have h446 := (hd148 _ h446.symm).symm
 subst h446
 refine wp_exit (then_exit (then_exit (blk_exit (then_normal (wp_seq (sz 1 [] s d rfl rfl fun a s => ?_))))))
 refine wp_block (wp_while (fun sv266 a w => ∃ Sv334, Sl 102 [(2, .pointer (some ⟨b9, 0, none⟩)), (3, .pointer (some ⟨b10, 0, none⟩)), (9, .int .i64 sv266)] a ∧ Wd ⟨w0, S0, []⟩ Sv334 [.box b9 (C56 a1 p2 k3) 56, .box b10 (C56 b5 p6 k7) 56] [SlA p2 a1.Samples.length k3 a1.Samples, SlA p6 b5.Samples.length k7 b5.Samples] w) 0 u ⟨Sv143, (s.wk rfl), (d.ft [0, 1] [0, 1] (by decide) rfl rfl)⟩ ?_)
 repeat clear u
 rintro sv266 a w tv369 ⟨Sv334, s, d⟩ u hd368
 delta ref14_Compare_l4 at u
 refine wp_seq (sz 5 [0] s d rfl rfl fun a s => ?_)
 refine cd s u rfl (fun u => ?_) fun u => ?_
 ·refine wp_skip (then_normal (wp_seq (wp_block (wp_seq ?_))))
  obtain ⟨x406, h404, u⟩ := bind_t u
  obtain ⟨b412, o413, q410, c411, h414, h407, h408, h409, h405⟩ := d.elemV 0 rfl h404
  have hsv415 := s
  have hwv416 := d
  subst h414
  have s := hsv415
  have d := hwv416
  obtain ⟨_, rfl, rfl⟩ := h405
  have d := d.addE h409
  obtain ⟨x419, h417, u⟩ := bind_t u
  obtain ⟨b425, o426, q423, c424, h427, h420, h421, h422, h418⟩ := d.elemV 2 rfl h417
  have hsv428 := s
  have hwv429 := d
  subst h427
  have s := hsv428
  have d := hwv429
  obtain ⟨_, rfl, rfl⟩ := h418
  have d := d.addE h422
  obtain ⟨rv431, h430, u⟩ := bind_t u
  refine wp_only (fun a w => ∃ Sv432, Sl 102 [(2, .pointer (some ⟨b9, 0, none⟩)), (3, .pointer (some ⟨b10, 0, none⟩)), (9, .int .i64 sv266), (10, .int .i64 rv431)] a ∧ Wd ⟨w0, S0, []⟩ Sv432 [.box b9 (C56 a1 (some ⟨b412, o413, none⟩) k3) 56, .box b10 (C56 b5 (some ⟨b425, o426, none⟩) k7) 56] [SlA (some ⟨b412, o413, none⟩) a1.Samples.length k3 a1.Samples, SlA (some ⟨b425, o426, none⟩) b5.Samples.length k7 b5.Samples] w) ?_ ?_
  ·refine h_c [0, 1] [0, 1] d rfl rfl (by kernel_rfl) rfl fun hC d => ?_
   refine gn 3 [0, 1, 2] [0] s hC rfl rfl rfl fun a s => ?_
   refine gv s 3 rfl rfl hC (fun w hC => y_indexAt Tryz.runUnderlying22 Tryz.sizeOf3 rfl rfl h407.1 h407.2 h408) fun a s => ?_
   refine gv s 4 rfl rfl hC (fun w hC => y_loadE1 (j := 0) (hC.ceAt 1 rfl) rfl Tryz.isAgg3 rfl) fun a s => ?_
   refine gn 3 [5, 6, 7] [1] s hC rfl rfl rfl fun a s => ?_
   refine gv s 8 rfl rfl hC (fun w hC => y_indexAt Tryz.runUnderlying22 Tryz.sizeOf3 rfl rfl h420.1 h420.2 h421) fun a s => ?_
   refine gv s 9 rfl rfl hC (fun w hC => y_loadE1 (j := 0) (hC.ceAt 0 rfl) rfl Tryz.isAgg3 rfl) fun a s => ?_
   refine ho 10 rfl ?_
   refine st_callR s (ref14_number_ok h430 d.bdom) (do_call Tryz.call102 rfl) trivial rfl rfl ?_
   rintro v436 Sv433 w a h434 rfl s
   have d := d.callB h434
   refine h_n [0, 1] [0, 1] d rfl rfl fun hC => ?_
   refine gv s 11 rfl rfl hC (fun w hC => y_assign rfl) fun a s => ?_
   refine h_done (by kernel_rfl) ?_
   exact ⟨Sv334, (s.wk rfl), (d.ft [0, 1] [2, 3] (by decide) rfl rfl)⟩
  rintro a w ⟨Sv432, s, d⟩
  refine then_normal (sz 2 [] s d rfl rfl fun a s => ?_)
  refine cd s u rfl (fun u => ?_) fun u => ?_
  ·refine sz 2 [] s d rfl rfl fun a s => ?_
   have u := oi u
   subst u
   have h440 := hd368 _ rfl
   subst h440
   exact wp_ret (blk_ret (then_ret (then_ret (blk_ret (then_ret (ret1 s rfl (rv_tmp rfl) (d.ret rfl)))))))
  refine wp_skip (blk_normal (then_normal (wp_region_lit (rn 2 [] s d rfl rfl fun a s => ?_))))
  obtain ⟨i442, h441, u⟩ := bind_t u
  refine sv s (y_assignI rfl h441) rfl fun a s => ?_
  exact nl ⟨_, (Option.some.inj u).symm, Sv432, (s.wk rfl), (d.ft [0, 1] [0, 1] (by decide) rfl rfl)⟩
 obtain ⟨rv443, u, h444⟩ := map_t u
 have h444 := (hd368 _ h444.symm).symm
 subst h444
 refine wp_exit (then_exit (then_exit (blk_exit (then_normal (sz 1 [] s d rfl rfl fun a s => ?_)))))
 have u := oi u
 subst u
 exact wp_ret (ret1 s rfl (rv_tmp rfl) (d.ret rfl))
theorem ref15_order_ok {w0 S0 p2 k3 l1 r} (u : ref15_order l1 = some r) (hS : Dm S0 w0) (h4 : (SlA p2 l1.length k3 l1).p S0 w0) : Calls Tryz.prog 59 #[.slice p2 l1.length k3] w0 (Ret ([]) w0 S0 (slices_Clone_Lapi_Record_api_Record_rd w0 ([]) r)) := by
 refine en 69 Tryz.func59 rfl hS rfl rfl rfl fun a s d => ?_
 have d := d.addE h4
 delta ref15_order at u
 refine sz 1 [] s d rfl rfl fun a s => ?_
 refine sz 1 [] s d rfl rfl fun a s => ?_
 refine wp_seq (sz 1 [] s d rfl rfl fun a s => ?_)
 obtain ⟨e773, h1414, u⟩ := bind_t u
 refine wp_join (fun a w => ∃ c774 p775 k776 Sv777, Sl 69 [(3, .slice p775 e773.length k776)] a ∧ Wd ⟨w0, S0, []⟩ Sv777 [.row p775 e773.length k776 c774 56 12] [RowA c774 e773] w) ?_ ?_
 ·refine wp_block ?_
  have d := d.nilRow Record 56
  refine wp_while (fun sv5 a w => ∃ c514 p515 k516 Sv517, Sl 69 [(0, .slice p2 l1.length k3), (3, .slice p515 sv5.1.length k516), (4, .int .i64 sv5.2)] a ∧ Wd ⟨w0, S0, []⟩ Sv517 [.row p515 sv5.1.length k516 c514 56 12] [SlA p2 l1.length k3 l1, RowA c514 sv5.1] w) (([] : List Record), 0) h1414 ⟨[], none, 0, S0, (s.wk rfl), (d.ft [0] [1, 0] (by decide) rfl rfl)⟩ ?_
  clear h1414
  repeat clear u
  rintro sv5 a w tv771 ⟨c514, p515, k516, Sv517, s, d⟩ u hd770
  delta ref15_order_l3 at u
  refine wp_seq (sz 4 [] s d rfl rfl fun a s => ?_)
  refine cd s u rfl (fun u => ?_) fun u => ?_
  ·refine wp_skip (then_normal (wp_seq (wp_join (fun a w => ∃ (out1028 : (List Record)) (c1024 p1025 k1026 Sv1027 : _), ref15_order_j1 sv5 out1028 = some tv771 ∧ Sl 69 [(0, .slice p2 l1.length k3), (3, .slice p1025 out1028.length k1026), (4, .int .i64 sv5.2)] a ∧ Wd ⟨w0, S0, []⟩ Sv1027 [.row p1025 out1028.length k1026 c1024 56 12] [SlA p2 l1.length k3 l1, RowA c1024 out1028] w) ?_ ?_)))
   ·refine wp_block (sn 2 [] s d rfl rfl fun a s => ?_)
    obtain ⟨k1032, h1031, u⟩ := bind_t u
    refine sv s (y_assignI rfl h1031) rfl fun a s => ?_
    refine nl (wp_seq ?_)
    obtain ⟨e1162, h1412, u⟩ := bind_t u
    refine wp_join (fun a w => ∃ Sv1163, Sl 69 [(0, .slice p2 l1.length k3), (3, .slice p515 sv5.1.length k516), (4, .int .i64 sv5.2), (5, .int .i64 e1162)] a ∧ Wd ⟨w0, S0, []⟩ Sv1163 [.row p515 sv5.1.length k516 c514 56 12] [SlA p2 l1.length k3 l1, RowA c514 sv5.1] w) ?_ ?_
    ·refine wp_block (wp_while (fun sv1033 a w => ∃ Sv1117, Sl 69 [(0, .slice p2 l1.length k3), (3, .slice p515 sv5.1.length k516), (4, .int .i64 sv5.2), (5, .int .i64 sv1033)] a ∧ Wd ⟨w0, S0, []⟩ Sv1117 [.row p515 sv5.1.length k516 c514 56 12] [SlA p2 l1.length k3 l1, RowA c514 sv5.1] w) k1032 h1412 ⟨Sv517, (s.wk rfl), (d.ft [0] [0, 1] (by decide) rfl rfl)⟩ ?_)
     clear h1412
     repeat clear u
     rintro sv1033 a w tv1160 ⟨Sv1117, s, d⟩ u hd1159
     delta ref15_order_l6 at u
     refine wp_seq (wp_seq ?_)
     obtain ⟨c1200, hc1200, u⟩ := bind_t u
     refine wp_only (fun a w => ∃ Sv1201, Sl 69 [(0, .slice p2 l1.length k3), (3, .slice p515 sv5.1.length k516), (4, .int .i64 sv5.2), (5, .int .i64 sv1033), (28, .bool c1200)] a ∧ Wd ⟨w0, S0, []⟩ Sv1201 [.row p515 sv5.1.length k516 c514 56 12] [SlA p2 l1.length k3 l1, RowA c514 sv5.1] w) ?_ ?_
     ·rcases Bool.eq_false_or_eq_true (decide (0 < sv1033)) with h1202 | h1202
      ·have h1203 := ite_t hc1200 h1202
       obtain ⟨x1206, h1204, h1203⟩ := bind_t h1203
       obtain ⟨b1213, q1210, c1211, h1214, h1207, h1208, h1212, h1205⟩ := d.elemRV (α := Record) 0 rfl 1 rfl h1204
       have hsv1215 := s
       have hwv1216 := d
       subst h1214
       have s := hsv1215
       have d := hwv1216
       obtain ⟨_, _, _, _, _, _, _, _, _, _, _, _, rfl, rfl, rfl, rfl, rfl, rfl, rfl, rfl, rfl, rfl, rfl, rfl, ⟨p1217, n1218, k1219, rfl, h1220⟩⟩ := h1205
       obtain rfl := h1220.1
       have d := d.addE (e := SlA p1217 _ k1219 x1206.Samples) h1220
       obtain ⟨x1223, h1221, h1203⟩ := bind_t h1203
       obtain ⟨b1229, o1230, q1227, c1228, h1231, h1224, h1225, h1226, h1222⟩ := d.elemV 1 rfl h1221
       have hsv1232 := s
       have hwv1233 := d
       subst h1231
       have s := hsv1232
       have d := hwv1233
       obtain ⟨_, _, _, _, _, _, _, _, _, _, _, _, rfl, rfl, rfl, rfl, rfl, rfl, rfl, rfl, rfl, rfl, rfl, rfl, ⟨p1234, n1235, k1236, rfl, h1237⟩⟩ := h1222
       obtain rfl := h1237.1
       have d := (d.addE (e := SlA p1234 _ k1236 x1223.Samples) h1237).addE h1226
       obtain ⟨rv1239, h1238, h1203⟩ := bind_t h1203
       refine h_c [0] [0] d rfl rfl (by kernel_rfl) rfl fun hC d => ?_
       refine gn 3 [0, 1, 2] [] s hC rfl rfl rfl fun a s => ?_
       have s := s.fix 16 (.bool true) rfl (vb h1202)
       refine gn 3 [3, 4, 5] [] s hC rfl rfl rfl fun a s => ?_
       refine gt s 6 rfl ⟨_, rfl, rfl⟩ rfl hC (fun w hC => y_indexAt Tryz.runUnderlying28 Tryz.sizeOf56 rfl rfl h1207.1 h1207.2 h1208) fun a s => ?_
       refine gt s 7 rfl ⟨_, rfl, rfl⟩ rfl hC (fun w hC => y_loadQA (j := 0) (hC.ownAt 0 rfl) rfl Tryz.isAgg56 Tryz.sizeOf56 h1212 rfl rfl) fun a s => ?_
       refine gn 2 [8, 9] [] s hC rfl rfl rfl fun a s => ?_
       refine gt s 10 rfl ⟨_, rfl, rfl⟩ rfl hC (fun w hC => y_indexAt Tryz.runUnderlying28 Tryz.sizeOf56 rfl rfl h1224.1 h1224.2 h1225) fun a s => ?_
       refine gt s 11 rfl ⟨_, rfl, rfl⟩ rfl hC (fun w hC => y_loadEA (j := 0) (hC.ceAt 0 rfl) rfl Tryz.isAgg56 Tryz.sizeOf56 rfl rfl) fun a s => ?_
       refine ho 12 rfl ?_
       refine st_callR s (ref14_Compare_ok h1238 d.bdom (d.bE 2 rfl) (d.bE 1 rfl)) (do_call Tryz.call96 rfl) ⟨_, rfl, rfl⟩ rfl rfl ?_
       rintro v1243 Sv1240 w a h1241 rfl s
       have d := d.callB h1241
       refine h_n [0] [0] d rfl rfl fun hC => ?_
       refine gt s 13 rfl ⟨_, rfl, rfl⟩ rfl hC (fun w hC => y_gtr rfl rfl) fun a s => ?_
       refine gv s 14 rfl rfl hC (fun w hC => y_pickTE (v := .bool c1200) rfl rfl (vbs h1203)) fun a s => ?_
       refine h_done (by kernel_rfl) ?_
       exact ⟨Sv1117, (s.wk rfl), (d.ft [0] [3, 4] (by decide) rfl rfl)⟩
      have h1245 := ite_f hc1200 h1202
      refine h_c [0] [] d rfl rfl (by kernel_rfl) rfl fun hC d => ?_
      refine gn 3 [0, 1, 2] [] s hC rfl rfl rfl fun a s => ?_
      have s := s.fix 16 (.bool false) rfl (vb h1202)
      refine gn 11 [3, 4, 5, 6, 7, 8, 9, 10, 11, 12, 13] [] s hC rfl rfl rfl fun a s => ?_
      refine gv s 14 rfl rfl hC (fun w hC => y_pickFE (v := .bool c1200) rfl rfl (vbs h1245)) fun a s => ?_
      refine h_done (by kernel_rfl) ?_
      exact ⟨Sv1117, (s.wk rfl), (d.ft [0] [0, 1] (by decide) rfl rfl)⟩
     rintro a w ⟨Sv1201, s, d⟩
     refine then_normal (cd s u rfl (fun u => ?_) fun u => ?_)
     ·refine wp_skip (then_normal (wp_block (wp_region_lit (rn 2 [] s d rfl rfl fun a s => ?_))))
      obtain ⟨k1251, h1250, u⟩ := bind_t u
      refine sv s (y_assignI rfl h1250) rfl fun a s => ?_
      refine wpList_nil ?_
      exact blk_normal (then_normal ⟨_, (Option.some.inj u).symm, Sv1201, (s.wk rfl), (d.ft [0] [0, 1] (by decide) rfl rfl)⟩)
     refine wp_exit (then_exit (then_exit (blk_exit ?_)))
     have u := oi u
     subst u
     have h1252 := hd1159 _ rfl
     subst h1252
     exact then_normal ⟨Sv1201, (s.wk rfl), (d.ft [0] [0, 1] (by decide) rfl rfl)⟩
    rintro a w ⟨Sv1163, s, d⟩
    refine then_normal (wp_seq (wp_seq ?_))
    obtain ⟨c1289, hc1289, u⟩ := bind_t u
    refine wp_only (fun a w => ∃ Sv1290, Sl 69 [(0, .slice p2 l1.length k3), (3, .slice p515 sv5.1.length k516), (4, .int .i64 sv5.2), (5, .int .i64 e1162), (45, .bool c1289)] a ∧ Wd ⟨w0, S0, []⟩ Sv1290 [.row p515 sv5.1.length k516 c514 56 12] [SlA p2 l1.length k3 l1, RowA c514 sv5.1] w) ?_ ?_
    ·rcases Bool.eq_false_or_eq_true (decide (0 < e1162)) with h1291 | h1291
     ·have h1292 := ite_t hc1289 h1291
      obtain ⟨x1295, h1293, h1292⟩ := bind_t h1292
      obtain ⟨b1302, q1299, c1300, h1303, h1296, h1297, h1301, h1294⟩ := d.elemRV (α := Record) 0 rfl 1 rfl h1293
      have hsv1304 := s
      have hwv1305 := d
      subst h1303
      have s := hsv1304
      have d := hwv1305
      obtain ⟨_, _, _, _, _, _, _, _, _, _, _, _, rfl, rfl, rfl, rfl, rfl, rfl, rfl, rfl, rfl, rfl, rfl, rfl, ⟨p1306, n1307, k1308, rfl, h1309⟩⟩ := h1294
      obtain rfl := h1309.1
      have d := d.addE (e := SlA p1306 _ k1308 x1295.Samples) h1309
      obtain ⟨x1312, h1310, h1292⟩ := bind_t h1292
      obtain ⟨b1318, o1319, q1316, c1317, h1320, h1313, h1314, h1315, h1311⟩ := d.elemV 1 rfl h1310
      have hsv1321 := s
      have hwv1322 := d
      subst h1320
      have s := hsv1321
      have d := hwv1322
      obtain ⟨_, _, _, _, _, _, _, _, _, _, _, _, rfl, rfl, rfl, rfl, rfl, rfl, rfl, rfl, rfl, rfl, rfl, rfl, ⟨p1323, n1324, k1325, rfl, h1326⟩⟩ := h1311
      obtain rfl := h1326.1
      have d := (d.addE (e := SlA p1323 _ k1325 x1312.Samples) h1326).addE h1315
      obtain ⟨rv1328, h1327, h1292⟩ := bind_t h1292
      refine h_c [0] [0] d rfl rfl (by kernel_rfl) rfl fun hC d => ?_
      refine gn 3 [0, 1, 2] [] s hC rfl rfl rfl fun a s => ?_
      have s := s.fix 33 (.bool true) rfl (vb h1291)
      refine gn 3 [3, 4, 5] [] s hC rfl rfl rfl fun a s => ?_
      refine gt s 6 rfl ⟨_, rfl, rfl⟩ rfl hC (fun w hC => y_indexAt Tryz.runUnderlying28 Tryz.sizeOf56 rfl rfl h1296.1 h1296.2 h1297) fun a s => ?_
      refine gt s 7 rfl ⟨_, rfl, rfl⟩ rfl hC (fun w hC => y_loadQA (j := 0) (hC.ownAt 0 rfl) rfl Tryz.isAgg56 Tryz.sizeOf56 h1301 rfl rfl) fun a s => ?_
      refine gn 2 [8, 9] [] s hC rfl rfl rfl fun a s => ?_
      refine gt s 10 rfl ⟨_, rfl, rfl⟩ rfl hC (fun w hC => y_indexAt Tryz.runUnderlying28 Tryz.sizeOf56 rfl rfl h1313.1 h1313.2 h1314) fun a s => ?_
      refine gt s 11 rfl ⟨_, rfl, rfl⟩ rfl hC (fun w hC => y_loadEA (j := 0) (hC.ceAt 0 rfl) rfl Tryz.isAgg56 Tryz.sizeOf56 rfl rfl) fun a s => ?_
      refine ho 12 rfl ?_
      refine st_callR s (ref14_Compare_ok h1327 d.bdom (d.bE 2 rfl) (d.bE 1 rfl)) (do_call Tryz.call96 rfl) ⟨_, rfl, rfl⟩ rfl rfl ?_
      rintro v1332 Sv1329 w a h1330 rfl s
      have d := d.callB h1330
      refine h_n [0] [0] d rfl rfl fun hC => ?_
      refine gt s 13 rfl ⟨_, rfl, rfl⟩ rfl hC (fun w hC => y_eql rfl rfl) fun a s => ?_
      refine gv s 14 rfl rfl hC (fun w hC => y_pickTE (v := .bool c1289) rfl rfl (vbs h1292)) fun a s => ?_
      refine h_done (by kernel_rfl) ?_
      exact ⟨Sv1163, (s.wk rfl), (d.ft [0] [3, 4] (by decide) rfl rfl)⟩
     have h1334 := ite_f hc1289 h1291
     refine h_c [0] [] d rfl rfl (by kernel_rfl) rfl fun hC d => ?_
     refine gn 3 [0, 1, 2] [] s hC rfl rfl rfl fun a s => ?_
     have s := s.fix 33 (.bool false) rfl (vb h1291)
     refine gn 11 [3, 4, 5, 6, 7, 8, 9, 10, 11, 12, 13] [] s hC rfl rfl rfl fun a s => ?_
     refine gv s 14 rfl rfl hC (fun w hC => y_pickFE (v := .bool c1289) rfl rfl (vbs h1334)) fun a s => ?_
     refine h_done (by kernel_rfl) ?_
     exact ⟨Sv1163, (s.wk rfl), (d.ft [0] [0, 1] (by decide) rfl rfl)⟩
    rintro a w ⟨Sv1290, s, d⟩
    refine then_normal (cd s u rfl (fun u => ?_) fun u => ?_)
    ·exact wp_exit (then_exit (blk_exit (then_normal ⟨sv5.1, c514, p515, k516, Sv1290, u, (s.wk rfl), (d.ft [0] [0, 1] (by decide) rfl rfl)⟩)))
    refine wp_skip (then_normal (sn 3 [] s d rfl rfl fun a s => ?_))
    obtain ⟨x1339, h1337, u⟩ := bind_t u
    obtain ⟨b1345, o1346, q1343, c1344, h1347, h1340, h1341, h1342, h1338⟩ := d.elemV 0 rfl h1337
    have hsv1348 := s
    have hwv1349 := d
    subst h1347
    have s := hsv1348
    have d := hwv1349
    obtain ⟨_, _, _, _, _, _, _, _, _, _, _, _, rfl, rfl, rfl, rfl, rfl, rfl, rfl, rfl, rfl, rfl, rfl, rfl, ⟨p1350, n1351, k1352, rfl, h1353⟩⟩ := h1338
    obtain rfl := h1353.1
    have d := (d.addE (e := SlA p1350 _ k1352 x1339.Samples) h1353).addE h1342
    refine sv s (y_indexAt Tryz.runUnderlying28 Tryz.sizeOf56 rfl rfl h1340.1 h1340.2 h1341) rfl fun a s => ?_
    refine sv s (y_loadEA (j := 0) (d.ceAt 0 rfl) rfl Tryz.isAgg56 Tryz.sizeOf56 rfl rfl) rfl fun a s => ?_
    refine w_litSlice (α := Record) (vs := [V56 x1339 p1350 k1352]) (cs := (C56 x1339 p1350 k1352)) (xs := ([x1339] : List Record)) s d El28 rfl rfl rfl rfl rfl rfl ⟨⟨_, _, _, _, _, _, _, _, _, _, _, _, rfl, rfl, rfl, rfl, rfl, rfl, rfl, rfl, rfl, rfl, rfl, rfl, ⟨_, _, _, rfl, d.envAt 1 rfl⟩⟩, rfl⟩ rfl trivial rfl fun b1355 a w s d => ?_
    obtain ⟨l1357, h1356, u⟩ := bind_t u
    refine w_appendR (α := Record) s d El28 1 rfl rfl rfl 4 rfl 0 rfl 0 rfl h1356 rfl trivial ?_
    intro p1358 k1359 c1360 a w s d
    refine rz 1 [] s d rfl rfl fun a s => ?_
    refine wp_seq ?_
    obtain ⟨l1365, h1361, u⟩ := bind_t u
    obtain ⟨p1363, k1364, h1362⟩ := row_sub (α := Record) d 1 rfl h1361
    obtain ⟨l1370, h1366, u⟩ := bind_t u
    obtain ⟨p1368, k1369, h1367⟩ := row_sub (α := Record) d 1 rfl h1366
    obtain ⟨l1371, h1372, u⟩ := bind_t u
    refine wp_only (fun a w => ∃ Sv1375 c1373, Sl 69 [(0, .slice (some ⟨b1345, o1346, none⟩) l1.length k3), (3, .slice p1358 l1371.length k1359), (4, .int .i64 sv5.2), (5, .int .i64 e1162)] a ∧ Wd ⟨w0, S0, []⟩ Sv1375 [.row p1358 l1371.length k1359 c1373 56 12] [SlA (some ⟨b1345, o1346, none⟩) l1.length k3 l1, RowA c1373 l1371] w) ?_ ?_
    ·refine h_c [0] [2] d rfl rfl (by kernel_rfl) rfl fun hC d => ?_
     refine gn 3 [0, 1, 2] [] s hC rfl rfl rfl fun a s => ?_
     refine gv s 3 rfl rfl hC (fun w hC => y_slc Tryz.runUnderlying28 Tryz.sizeOf56 rfl ⟨_, rfl⟩ (by exact rfl) h1362) fun a s => ?_
     refine gn 2 [4, 5] [] s hC rfl rfl rfl fun a s => ?_
     refine gv s 6 rfl rfl hC (fun w hC => y_slc Tryz.runUnderlying28 Tryz.sizeOf56 rfl ⟨_, rfl⟩ (by exact rfl) h1367) fun a s => ?_
     refine ho 7 rfl ?_
     obtain ⟨ds_, h1378⟩ := src_vw (d.ownAt 1 rfl) (d.envAt 0 rfl) h1366 h1367
     refine w_copyC (α := Record) s d 1 rfl 0 rfl Tryz.runUnderlying28 Tryz.runUnderlying28 Tryz.sizeOf56 (by decide) h1361 h1362 rfl rfl rfl h1378.1 h1378.2.1 h1378.2.2 rfl trivial ?_
     intro c1373 a w s d
     rw [Option.some.inj h1372] at d
     have h1374 := (copy_lenS h1361 h1372)
     try have s := s.fl 3 rfl h1374
     try have s := s.fl 53 rfl h1374
     try have s := s.fl 57 rfl h1374
     refine h_n [0] [3] d rfl rfl fun hC => ?_
     refine h_done (by kernel_rfl) ?_
     exact ⟨Sv1290, c1373, (s.wk rfl), (d.ft [1] [5, 0] (by decide) rfl rfl)⟩
    rintro a w ⟨Sv1375, c1373, s, d⟩
    refine then_normal (wp_region_lit (rn 4 [] s d rfl rfl fun a s => ?_))
    obtain ⟨x1381, h1379, u⟩ := bind_t u
    obtain ⟨q1385, c1386, h1382, h1383, h1384, h1380⟩ := d.elemK 0 rfl h1379
    obtain ⟨_, _, _, _, _, _, _, _, _, _, _, _, rfl, rfl, rfl, rfl, rfl, rfl, rfl, rfl, rfl, rfl, rfl, rfl, ⟨p1387, n1388, k1389, rfl, h1390⟩⟩ := h1380
    obtain rfl := h1390.1
    have d := (d.addE (e := SlA p1387 _ k1389 x1381.Samples) h1390).addE h1384
    refine sv s (y_indexAt Tryz.runUnderlying28 Tryz.sizeOf56 rfl rfl h1382.1 h1382.2 h1383) rfl fun a s => ?_
    refine sv s (y_loadEA (j := 0) (d.ceAt 0 rfl) rfl Tryz.isAgg56 Tryz.sizeOf56 rfl rfl) rfl fun a s => ?_
    obtain ⟨x1393, h1391, u⟩ := bind_t u
    obtain ⟨b1400, q1397, c1398, h1401, h1394, h1395, h1399, h1392⟩ := d.elemRV (α := Record) 0 rfl 3 rfl h1391
    have hsv1402 := s
    have hwv1403 := d
    subst h1401
    have s := hsv1402
    have d := hwv1403
    obtain ⟨_, _, _, _, _, _, _, _, _, _, _, _, rfl, rfl, rfl, rfl, rfl, rfl, rfl, rfl, rfl, rfl, rfl, rfl, ⟨p1404, n1405, k1406, rfl, h1407⟩⟩ := h1392
    obtain rfl := h1407.1
    have d := d.addE (e := SlA p1404 _ k1406 x1393.Samples) h1407
    refine sv s (y_indexAt Tryz.runUnderlying28 Tryz.sizeOf56 rfl rfl h1394.1 h1394.2 h1395) rfl fun a s => ?_
    obtain ⟨l1409, h1408, u⟩ := bind_t u
    refine w_storeF (α := Record) s d 0 rfl 4 rfl h1395 rfl rfl Tryz.sizeOf56 rfl h1408 ⟨_, _, _, _, _, _, _, _, _, _, _, _, rfl, rfl, rfl, rfl, rfl, rfl, rfl, rfl, rfl, rfl, rfl, rfl, ⟨_, _, _, rfl, d.envAt 2 rfl⟩⟩ trivial ?_
    intro c1410 a w s d
    have h1411 := setM_len h1408
    try have s := s.fl 3 rfl h1411
    try have s := s.fl 61 rfl h1411
    refine wpList_nil ?_
    exact blk_normal (then_normal ⟨l1409, c1410, (some ⟨b1400, 0, none⟩), k1359, Sv1375, u, (s.wk rfl), (d.ft [0] [4, 0] (by decide) rfl rfl)⟩)
   rintro a w ⟨out1028, c1024, p1025, k1026, Sv1027, u, s, d⟩
   delta ref15_order_j1 at u
   refine then_normal (wp_region_lit (rn 2 [] s d rfl rfl fun a s => ?_))
   obtain ⟨i1030, h1029, u⟩ := bind_t u
   refine sv s (y_assignI rfl h1029) rfl fun a s => ?_
   exact nl ⟨_, (Option.some.inj u).symm, c1024, p1025, k1026, Sv1027, (s.wk rfl), (d.ft [0] [0, 1] (by decide) rfl rfl)⟩
  refine wp_exit (then_exit (then_exit (blk_exit ?_)))
  have u := oi u
  subst u
  have h1413 := hd770 _ rfl
  subst h1413
  exact then_normal ⟨c514, p515, k516, Sv517, (s.wk rfl), (d.ft [0] [1] (by decide) rfl rfl)⟩
 rintro a w ⟨c774, p775, k776, Sv777, s, d⟩
 refine then_normal (sz 2 [] s d rfl rfl fun a s => ?_)
 have u := oi u
 subst u
 exact wp_ret (ret1 s rfl (rv_tmp rfl) (d.ret ⟨p775, k776, c774, rfl, (d.outs [0] (by decide) rfl), (d.envAt 0 rfl)⟩))
theorem ref15_Order_ok {w0 S0 p2 k3 l1 r} (u : ref15_Order l1 = some r) (hS : Dm S0 w0) (h4 : (SlA p2 l1.length k3 l1).p S0 w0) : Calls Tryz.prog 22 #[.slice p2 l1.length k3] w0 (Ret ([]) w0 S0 (compose_Order_rd w0 ([]) r)) := by
 refine en 9 Tryz.func22 rfl hS rfl rfl rfl fun a s d => ?_
 have d := d.addE h4
 delta ref15_Order at u
 refine sz 2 [] s d rfl rfl fun a s => ?_
 refine wp_seq (sn 1 [] s d rfl rfl fun a s => ?_)
 obtain ⟨rv6, h5, u⟩ := bind_t u
 refine st_callR s (ref15_Valid_ok h5 d.bdom (d.bE 0 rfl)) (do_call Tryz.call56 rfl) trivial rfl rfl ?_
 rintro v10 Sv7 w a h8 rfl s
 have d := d.callB h8
 refine rz 1 [] s d rfl rfl fun a s => ?_
 refine cd s u rfl (fun u => ?_) fun u => ?_
 ·refine sz 2 [] s d rfl rfl fun a s => ?_
  have u := oi u
  subst u
  have d := d.nilRow Record 56
  exact wp_ret (then_ret (ret2 s rfl (rv_tmp rfl) (rv_tmp rfl) (d.ret ⟨none, 0, [], rfl, (d.outs [0] (by decide) rfl), (d.envAt 0 rfl)⟩)))
 refine wp_skip (then_normal (sn 1 [] s d rfl rfl fun a s => ?_))
 obtain ⟨rv15, h14, u⟩ := bind_t u
 refine st_callR s (ref15_order_ok h14 d.dom (d.envAt 0 rfl)) (do_call Tryz.call59 rfl) trivial rfl rfl ?_
 rintro v23 Sv20 w a h21 ⟨p16, k17, c19, rfl, h24, h18⟩ s
 have d := (d.callN h21 h24).addE (e := RowA c19 rv15) h18
 refine rz 2 [] s d rfl rfl fun a s => ?_
 have u := oi u
 subst u
 exact wp_ret (ret2 s rfl (rv_tmp rfl) (rv_tmp rfl) (d.ret ⟨p16, k17, c19, rfl, (d.outs [0] (by decide) rfl), (d.envAt 0 rfl)⟩))
theorem ref14_At_ok {w0 S0 p2 k3 r1 i5 r} (u : ref14_At r1 i5 = some r) (hS : Dm S0 w0) (h4 : (SlA p2 r1.Samples.length k3 r1.Samples).p S0 w0) : Calls Tryz.prog 23 #[V56 r1 p2 k3, .int .i64 i5] w0 (Ret ([]) w0 S0 (rate_Time_rd w0 ([]) r)) := by
 refine en 18 Tryz.func23 rfl hS rfl rfl rfl fun a s d => ?_
 have d := d.addE h4
 delta ref14_At at u
 refine sr (w_box (cs := (C56 r1 p2 k3)) s d rfl rfl rfl trivial ?_)
 intro b6 a w s d
 refine rz 2 [] s d rfl rfl fun a s => ?_
 refine wp_seq (sn 1 [0] s d rfl rfl fun a s => ?_)
 obtain ⟨rv8, h7, u⟩ := bind_t u
 refine st_callR s (ref14_Valid_ok h7 d.bdom (d.bE 0 rfl)) (do_call Tryz.call60 rfl) trivial rfl rfl ?_
 rintro v12 Sv9 w a h10 rfl s
 have d := d.callB h10
 refine rz 1 [] s d rfl rfl fun a s => ?_
 refine cd s u rfl (fun u => ?_) fun u => ?_
 ·refine sz 2 [] s d rfl rfl fun a s => ?_
  have u := oi u
  subst u
  exact wp_ret (then_ret (ret2 s rfl (rv_tmp rfl) (rv_tmp rfl) (d.ret rfl)))
 refine wp_skip (then_normal (wp_seq (sn 4 [0] s d rfl rfl fun a s => ?_)))
 obtain ⟨rv17, h16, u⟩ := bind_t u
 refine st_callR s (ref01_In_ok h16 d.bdom) (do_call Tryz.call61 rfl) trivial rfl rfl ?_
 rintro v21 Sv18 w a h19 rfl s
 have d := d.callB h19
 refine rz 1 [] s d rfl rfl fun a s => ?_
 refine cd s u rfl (fun u => ?_) fun u => ?_
 ·refine sz 2 [] s d rfl rfl fun a s => ?_
  have u := oi u
  subst u
  exact wp_ret (then_ret (ret2 s rfl (rv_tmp rfl) (rv_tmp rfl) (d.ret rfl)))
 refine wp_skip (then_normal (sn 2 [0] s d rfl rfl fun a s => ?_))
 obtain ⟨rv26, h25, u⟩ := bind_t u
 refine st_callR s (ref14_Time_ok h25 d.bdom (d.bE 0 rfl)) (do_call Tryz.call62 rfl) trivial rfl rfl ?_
 rintro v30 Sv27 w a h28 rfl s
 have d := d.callB h28
 refine rz 2 [] s d rfl rfl fun a s => ?_
 have u := oi u
 subst u
 exact wp_ret (ret2 s rfl (rv_tmp rfl) (rv_tmp rfl) (d.ret rfl))
theorem continuity_Depth_ok {w0 S0 p2 k3 l1 t5 r} (u : continuity_Depth l1 t5 = some r) (hS : Dm S0 w0) (h4 : (SlA p2 l1.length k3 l1).p S0 w0) : Calls Tryz.prog 15 #[.slice p2 l1.length k3, .int .i64 t5] w0 (Ret ([]) w0 S0 (slices_IndexFunc_Lapi_Record_api_Record_rd w0 ([]) r)) := by
 refine en 36 Tryz.func15 rfl hS rfl rfl rfl fun a s d => ?_
 have d := d.addE h4
 delta continuity_Depth at u
 refine sz 1 [] s d rfl rfl fun a s => ?_
 refine sn 1 [] s d rfl rfl fun a s => ?_
 obtain ⟨rv7, h6, u⟩ := bind_t u
 refine st_callR s (compose_Order_ok h6 d.dom (d.envAt 0 rfl)) (do_call Tryz.call51 rfl) trivial rfl rfl ?_
 rintro v15 Sv12 w a h13 ⟨p8, k9, c11, rfl, h16, h10⟩ s
 have d := (d.callN h13 h16).addE (e := RowA c11 rv7.1) h10
 refine rz 5 [] s d rfl rfl fun a s => ?_
 refine sz 1 [] s d rfl rfl fun a s => ?_
 refine wp_seq (sz 3 [] s d rfl rfl fun a s => ?_)
 obtain ⟨e116, h184, u⟩ := bind_t u
 refine wp_join (fun a w => ∃ Sv117, Sl 36 [(7, .int .i64 e116)] a ∧ Wd ⟨w0, S0, []⟩ Sv117 [] [] w) ?_ ?_
 ·refine wp_block (wp_while (fun sv17 a w => ∃ Sv81, Sl 36 [(1, .int .i64 t5), (7, .int .i64 sv17.1), (18, .slice p8 rv7.1.length k9), (19, .int .i64 (rv7.1.length : Int)), (20, .int .i64 sv17.2)] a ∧ Wd ⟨w0, S0, []⟩ Sv81 [.row p8 rv7.1.length k9 c11 56 12] [RowA c11 rv7.1] w) (0, 0) h184 ⟨Sv12, (s.wk rfl), (d.ft [0] [0] (by decide) rfl rfl)⟩ ?_)
  clear h184
  repeat clear u
  rintro sv17 a w tv114 ⟨Sv81, s, d⟩ u hd113
  delta continuity_Depth_l1 at u
  refine sz 1 [] s d rfl rfl fun a s => ?_
  refine wp_seq (cd s u rfl (fun u => ?_) fun u => ?_)
  ·refine wp_skip (then_normal (wp_seq (wp_block (sr ?_))))
   obtain ⟨x152, h150, u⟩ := bind_t u
   obtain ⟨b159, q156, c157, h160, h153, h154, h158, h151⟩ := d.elemRV (α := Record) 0 rfl 0 rfl h150
   have hsv161 := s
   have hwv162 := d
   subst h160
   have s := hsv161
   have d := hwv162
   obtain ⟨_, _, _, _, _, _, _, _, _, _, _, _, rfl, rfl, rfl, rfl, rfl, rfl, rfl, rfl, rfl, rfl, rfl, rfl, ⟨p163, n164, k165, rfl, h166⟩⟩ := h151
   obtain rfl := h166.1
   have d := d.addE (e := SlA p163 _ k165 x152.Samples) h166
   refine sv s (y_indexAt Tryz.runUnderlying28 Tryz.sizeOf56 rfl rfl h153.1 h153.2 h154) rfl fun a s => ?_
   refine sv s (y_loadQA (j := 0) (d.ownAt 0 rfl) rfl Tryz.isAgg56 Tryz.sizeOf56 h158 rfl rfl) rfl fun a s => ?_
   refine w_alloc (cs := Z0) s d Tryz.zeroValue56 rfl rfl trivial ?_
   intro b167 a w s d
   refine w_store (m := 12) (cs' := (C56 x152 p163 k165)) s d 0 rfl rfl rfl Tryz.sizeOf56 rfl rfl rfl rfl trivial ?_
   intro a w s d
   refine nl (sn 2 [0] s d rfl rfl fun a s => ?_)
   obtain ⟨rv169, h168, u⟩ := bind_t u
   refine st_callR s (continuity_cover_ok h168 d.bdom (d.bE 0 rfl)) (do_call Tryz.call54 rfl) trivial rfl rfl ?_
   rintro v173 Sv170 w a h171 rfl s
   have d := d.callB h171
   refine rz 7 [] s d rfl rfl fun a s => ?_
   refine sz 1 [] s d rfl rfl fun a s => ?_
   refine wp_join (fun a w => ∃ (n179 : Int) (Sv178 : _), continuity_Depth_j1 sv17 n179 = some tv114 ∧ Sl 36 [(1, .int .i64 t5), (7, .int .i64 n179), (18, .slice (some ⟨b159, 0, none⟩) rv7.1.length k9), (19, .int .i64 (rv7.1.length : Int)), (20, .int .i64 sv17.2)] a ∧ Wd ⟨w0, S0, []⟩ Sv178 [.row (some ⟨b159, 0, none⟩) rv7.1.length k9 c11 56 12] [RowA c11 rv7.1] w) ?_ ?_
   ·refine cd s u rfl (fun u => ?_) fun u => ?_
    ·refine wp_region_lit (rn 2 [] s d rfl rfl fun a s => ?_)
     obtain ⟨n182, h181, u⟩ := bind_t u
     refine sv s (y_assignI rfl h181) rfl fun a s => ?_
     exact nl ⟨n182, Sv81, u, (s.wk rfl), (d.ft [1] [1] (by decide) rfl rfl)⟩
    exact wp_skip (then_normal ⟨sv17.1, Sv81, u, (s.wk rfl), (d.ft [1] [1] (by decide) rfl rfl)⟩)
   rintro a w ⟨n179, Sv178, u, s, d⟩
   delta continuity_Depth_j1 at u
   refine blk_normal (then_normal (wp_region_lit (rz 2 [] s d rfl rfl fun a s => ?_)))
   exact ⟨_, (Option.some.inj u).symm, Sv178, (s.wk rfl), (d.ft [0] [0] (by decide) rfl rfl)⟩
  refine wp_exit (then_exit (then_exit (blk_exit ?_)))
  have u := oi u
  subst u
  have h183 := hd113 _ rfl
  subst h183
  exact then_normal ⟨Sv81, (s.wk rfl), (d.ft [] [] (by decide) rfl rfl)⟩
 rintro a w ⟨Sv117, s, d⟩
 refine then_normal (sz 2 [] s d rfl rfl fun a s => ?_)
 have u := oi u
 subst u
 exact wp_ret (ret1 s rfl (rv_tmp rfl) (d.ret rfl))
theorem law16_ContinuitySame_ok {w0 S0 p2 k3 t1 n5 r} (u : law16_ContinuitySame t1 n5 = some r) (hS : Dm S0 w0) (h4 : (SlA p2 t1.length k3 t1).p S0 w0) : Calls Tryz.prog 4 #[.slice p2 t1.length k3, .int .u16 n5] w0 (Ret ([]) w0 S0 (made_Light_rd w0 ([]) r)) := by
 refine en 146 Tryz.func4 rfl hS rfl rfl rfl fun a s d => ?_
 have d := d.addE h4
 delta law16_ContinuitySame at u
 refine sz 1 [] s d rfl rfl fun a s => ?_
 refine wp_seq (sn 1 [] s d rfl rfl fun a s => ?_)
 obtain ⟨rv7, h6, u⟩ := bind_t u
 refine st_callR s (made_Light_ok h6 d.bdom (d.bE 0 rfl)) (do_call Tryz.call9 rfl) trivial rfl rfl ?_
 rintro v11 Sv8 w a h9 rfl s
 have d := d.callB h9
 refine rz 1 [] s d rfl rfl fun a s => ?_
 refine cd s u rfl (fun u => ?_) fun u => ?_
 ·refine sr ?_
  obtain ⟨rv23, h22, u⟩ := bind_t u
  refine st_callR s (law16_sane_ok h22 d.bdom) (do_call Tryz.call10 rfl) trivial rfl rfl ?_
  rintro v27 Sv24 w a h25 rfl s
  have d := d.callB h25
  refine rz 1 [] s d rfl rfl fun a s => ?_
  have u := oi u
  subst u
  exact wp_ret (then_ret (ret1 s rfl (rv_tmp rfl) (d.ret rfl)))
 refine wp_skip (then_normal (sn 1 [] s d rfl rfl fun a s => ?_))
 obtain ⟨rv30, h29, u⟩ := bind_t u
 refine st_callR s (made_Roll_ok h29 d.dom (d.envAt 0 rfl)) (do_call Tryz.call11 rfl) trivial rfl rfl ?_
 rintro v38 Sv35 w a h36 ⟨b31, p32, k33, rfl, h39, h34⟩ s
 have d := (d.callN h36 h39).addE (e := SlA p32 rv30.L.length k33 rv30.L) h34
 refine rz 1 [] s d rfl rfl fun a s => ?_
 refine sn 1 [] s d rfl rfl fun a s => ?_
 obtain ⟨rv41, h40, u⟩ := bind_t u
 refine st_callR s (made_Dice_Records_ok h40 d.dom (d.ins [0] (by decide) rfl) (d.envAt 0 rfl)) (do_call Tryz.call12 rfl) trivial rfl rfl ?_
 rintro v52 Sv49 w a h50 ⟨p42, k43, c45, p46, k47, rfl, h53, h44, h48⟩ s
 have d := ((d.callO [0] [] (by decide) rfl h50 h53).addE (e := RowA c45 rv41.1) h44).addE (e := SlA p46 rv41.2.L.length k47 rv41.2.L) h48
 refine rz 1 [] s d rfl rfl fun a s => ?_
 refine sn 1 [] s d rfl rfl fun a s => ?_
 obtain ⟨rv55, h54, u⟩ := bind_t u
 obtain ⟨Sv60, d⟩ := w_share (α := Record) d 0 rfl 1 rfl
 refine st_callR s (continuity_Overlaps_ok h54 d.dom (d.envAt 0 rfl)) (do_call Tryz.call14 rfl) trivial rfl rfl ?_
 rintro v64 Sv61 w a h62 ⟨p56, k57, c59, rfl, h65, h58⟩ s
 have d := (d.callN h62 h65).addE (e := RowA c59 rv55.1) h58
 refine rz 5 [] s d rfl rfl fun a s => ?_
 refine wp_seq (sz 2 [] s d rfl rfl fun a s => ?_)
 refine cd s u rfl (fun u => ?_) fun u => ?_
 ·refine sz 1 [] s d rfl rfl fun a s => ?_
  have u := oi u
  subst u
  exact wp_ret (then_ret (ret1 s rfl (rv_tmp rfl) (d.ret rfl)))
 refine wp_skip (then_normal (sn 1 [] s d rfl rfl fun a s => ?_))
 obtain ⟨rv69, h68, u⟩ := bind_t u
 refine st_callR s (ref15_Order_ok h68 d.dom (d.envAt 1 rfl)) (do_call Tryz.call22 rfl) trivial rfl rfl ?_
 rintro v77 Sv74 w a h75 ⟨p70, k71, c73, rfl, h78, h72⟩ s
 have d := (d.callN h75 h78).addE (e := RowA c73 rv69.1) h72
 refine rz 5 [] s d rfl rfl fun a s => ?_
 refine wp_seq (sz 3 [] s d rfl rfl fun a s => ?_)
 refine wp_block (wp_while (fun sv4785 a w => ∃ Sv7921, Sl 146 [(1, .int .u16 n5), (6, .slice p42 rv41.1.length k43), (9, .slice p70 rv69.1.length k71), (46, .slice p56 rv55.1.length k57), (47, .int .i64 (rv55.1.length : Int)), (48, .int .i64 sv4785)] a ∧ Wd ⟨w0, S0, []⟩ Sv7921 [.row p70 rv69.1.length k71 c73 56 12, .row p56 rv55.1.length k57 c59 42 3] [SlA p42 rv41.1.length k43 rv41.1, RowA c73 rv69.1, RowA c59 rv55.1] w) 0 u ⟨Sv74, (s.wk rfl), (d.ft [0, 1] [2, 0, 1] (by decide) rfl rfl)⟩ ?_)
 repeat clear u
 rintro sv4785 a w tv9490 ⟨Sv7921, s, d⟩ u hd9489
 delta law16_ContinuitySame_l67 at u
 refine sz 1 [] s d rfl rfl fun a s => ?_
 refine wp_seq (cd s u rfl (fun u => ?_) fun u => ?_)
 ·refine wp_skip (then_normal (wp_seq (wp_block (sr ?_))))
  obtain ⟨x11063, h11061, u⟩ := bind_t u
  obtain ⟨b11070, q11067, c11068, h11071, h11064, h11065, h11069, h11062⟩ := d.elemRV (α := Overlap) 1 rfl 2 rfl h11061
  have hsv11072 := s
  have hwv11073 := d
  subst h11071
  have s := hsv11072
  have d := hwv11073
  obtain ⟨_, _, _, rfl, rfl, rfl, rfl⟩ := h11062
  refine sv s (y_indexAt Tryz.runUnderlying34 Tryz.sizeOf42 rfl rfl h11064.1 h11064.2 h11065) rfl fun a s => ?_
  refine sv s (y_loadQA (j := 0) (d.ownAt 1 rfl) rfl Tryz.isAgg42 Tryz.sizeOf42 h11069 rfl rfl) rfl fun a s => ?_
  refine w_alloc (cs := [.int .i64 0, .int .i64 0, .bool false]) s d Tryz.zeroValue42 rfl rfl trivial ?_
  intro b11074 a w s d
  refine w_store (m := 3) (cs' := (C42 x11063)) s d 0 rfl rfl rfl Tryz.sizeOf42 rfl rfl rfl rfl trivial ?_
  intro a w s d
  refine nl (wp_seq ?_)
  obtain ⟨rem11076, h11075, u⟩ := bind_t u
  refine wp_only (fun a w => ∃ Sv11079 b11078, Sl 146 [(1, .int .u16 n5), (6, .slice p42 rv41.1.length k43), (9, .slice p70 rv69.1.length k71), (12, .pointer (some ⟨b11074, 0, none⟩)), (46, .slice (some ⟨b11070, 0, none⟩) rv55.1.length k57), (47, .int .i64 (rv55.1.length : Int)), (48, .int .i64 sv4785), (69, .slice (some ⟨b11078, 0, none⟩) ([x11063.From, (w64 (x11063.To - 1)), (w64 (x11063.From + rem11076))] : List Int).length ([x11063.From, (w64 (x11063.To - 1)), (w64 (x11063.From + rem11076))] : List Int).length), (70, .int .i64 (([x11063.From, (w64 (x11063.To - 1)), (w64 (x11063.From + rem11076))] : List Int).length : Int)), (71, .int .i64 0)] a ∧ Wd ⟨w0, S0, []⟩ Sv11079 [.box b11074 (C42 x11063) 42, .row p70 rv69.1.length k71 c73 56 12, .row (some ⟨b11070, 0, none⟩) rv55.1.length k57 c59 42 3, .row (some ⟨b11078, 0, none⟩) ([x11063.From, (w64 (x11063.To - 1)), (w64 (x11063.From + rem11076))] : List Int).length ([x11063.From, (w64 (x11063.To - 1)), (w64 (x11063.From + rem11076))] : List Int).length [.int .i64 x11063.From, .int .i64 (w64 (x11063.To - 1)), .int .i64 (w64 (x11063.From + rem11076))] 3 1] [SlA p42 rv41.1.length k43 rv41.1, RowA c73 rv69.1, RowA c59 rv55.1, RowA [.int .i64 x11063.From, .int .i64 (w64 (x11063.To - 1)), .int .i64 (w64 (x11063.From + rem11076))] ([x11063.From, (w64 (x11063.To - 1)), (w64 (x11063.From + rem11076))] : List Int)] w) ?_ ?_
  ·refine h_c [0, 1, 2] [] d rfl rfl (by kernel_rfl) rfl fun hC d => ?_
   refine gn 8 [0, 1, 2, 3, 4, 5, 6, 7] [0, 0, 0] s hC rfl rfl rfl fun a s => ?_
   refine gv s 8 rfl rfl hC (fun w hC => y_convert Tryz.runUnderlying23 Tryz.runUnderlying3 rfl) fun a s => ?_
   refine gn 6 [9, 10, 11, 12, 13, 14] [0, 0] s hC rfl rfl rfl fun a s => ?_
   refine gv s 15 rfl rfl hC (fun w hC => y_remM rfl rfl h11075) fun a s => ?_
   refine gn 2 [16, 19] [] s hC rfl rfl rfl fun a s => ?_
   refine ho 17 rfl ?_
   refine w_litSlice (α := Int) (vs := [.int .i64 x11063.From, .int .i64 (w64 (x11063.To - 1)), .int .i64 (w64 (x11063.From + rem11076))]) (cs := [.int .i64 x11063.From, .int .i64 (w64 (x11063.To - 1)), .int .i64 (w64 (x11063.From + rem11076))]) (xs := ([x11063.From, (w64 (x11063.To - 1)), (w64 (x11063.From + rem11076))] : List Int)) s d El22 rfl rfl rfl rfl rfl rfl ⟨⟨_, rfl, rfl⟩, ⟨⟨_, rfl, rfl⟩, ⟨⟨_, rfl, rfl⟩, rfl⟩⟩⟩ rfl trivial rfl fun b11078 a w s d => ?_
   refine h_n [1, 2, 3] [] d rfl rfl fun hC => ?_
   refine h_d [1, 2, 3, 0] [] [0, 1, 2] [] d rfl rfl rfl rfl fun hC => ?_
   refine gv s 18 rfl rfl hC (fun w hC => y_len Tryz.runUnderlying22 rfl) fun a s => ?_
   refine h_done (by kernel_rfl) ?_
   exact ⟨Sv7921, b11078, (s.wk rfl), (d.ft [1, 2, 3, 0] [1, 2, 3, 0] (by decide) rfl rfl)⟩
  rintro a w ⟨Sv11079, b11078, s, d⟩
  refine then_normal (wp_block (wp_while (fun sv12627 a w => ∃ Sv13657, Sl 146 [(1, .int .u16 n5), (6, .slice p42 rv41.1.length k43), (9, .slice p70 rv69.1.length k71), (12, .pointer (some ⟨b11074, 0, none⟩)), (46, .slice (some ⟨b11070, 0, none⟩) rv55.1.length k57), (47, .int .i64 (rv55.1.length : Int)), (48, .int .i64 sv4785), (69, .slice (some ⟨b11078, 0, none⟩) ([x11063.From, (w64 (x11063.To - 1)), (w64 (x11063.From + rem11076))] : List Int).length ([x11063.From, (w64 (x11063.To - 1)), (w64 (x11063.From + rem11076))] : List Int).length), (70, .int .i64 (([x11063.From, (w64 (x11063.To - 1)), (w64 (x11063.From + rem11076))] : List Int).length : Int)), (71, .int .i64 sv12627)] a ∧ Wd ⟨w0, S0, []⟩ Sv13657 [.box b11074 (C42 x11063) 42, .row p70 rv69.1.length k71 c73 56 12, .row (some ⟨b11070, 0, none⟩) rv55.1.length k57 c59 42 3, .row (some ⟨b11078, 0, none⟩) ([x11063.From, (w64 (x11063.To - 1)), (w64 (x11063.From + rem11076))] : List Int).length ([x11063.From, (w64 (x11063.To - 1)), (w64 (x11063.From + rem11076))] : List Int).length [.int .i64 x11063.From, .int .i64 (w64 (x11063.To - 1)), .int .i64 (w64 (x11063.From + rem11076))] 3 1] [SlA p42 rv41.1.length k43 rv41.1, RowA c73 rv69.1, RowA c59 rv55.1, RowA [.int .i64 x11063.From, .int .i64 (w64 (x11063.To - 1)), .int .i64 (w64 (x11063.From + rem11076))] ([x11063.From, (w64 (x11063.To - 1)), (w64 (x11063.From + rem11076))] : List Int)] w) 0 u ⟨Sv11079, (s.wk rfl), (d.ft [0, 1, 2, 3] [0, 1, 2, 3] (by decide) rfl rfl)⟩ ?_))
  repeat clear u
  rintro sv12627 a w tv14173 ⟨Sv13657, s, d⟩ u hd14172
  delta law16_ContinuitySame_l115 at u
  refine sz 1 [] s d rfl rfl fun a s => ?_
  refine wp_seq (cd s u rfl (fun u => ?_) fun u => ?_)
  ·refine wp_skip (then_normal (wp_seq (wp_block (sr ?_))))
   obtain ⟨x14693, h14691, u⟩ := bind_t u
   obtain ⟨q14697, c14698, h14694, h14695, h14699, h14692⟩ := d.elemRK (α := Int) 3 rfl 3 rfl h14691
   obtain ⟨_, rfl, rfl⟩ := h14692
   refine sv s (y_indexAt Tryz.runUnderlying22 Tryz.sizeOf3 rfl rfl h14694.1 h14694.2 h14695) rfl fun a s => ?_
   refine sv s (y_loadQ1 (j := 0) (d.ownAt 3 rfl) rfl Tryz.isAgg3 h14699 rfl) rfl fun a s => ?_
   refine rz 1 [] s d rfl rfl fun a s => ?_
   refine sz 2 [] s d rfl rfl fun a s => ?_
   refine sr (w_alloc (cs := [.int .i64 0, .int .i64 0]) s d Tryz.zeroValue50 rfl rfl trivial ?_)
   intro b14700 a w s d
   refine nl (wp_seq (sz 3 [] s d rfl rfl fun a s => ?_))
   obtain ⟨e15182, h15613, u⟩ := bind_t u
   refine wp_join (fun a w => ∃ Sv15183, Sl 146 [(1, .int .u16 n5), (6, .slice p42 rv41.1.length k43), (9, .slice p70 rv69.1.length k71), (12, .pointer (some ⟨b11074, 0, none⟩)), (14, .int .i64 x14693), (15, .int .i64 e15182.1), (16, .bool e15182.2), (46, .slice (some ⟨b11070, 0, none⟩) rv55.1.length k57), (47, .int .i64 (rv55.1.length : Int)), (48, .int .i64 sv4785), (69, .slice (some ⟨b11078, 0, none⟩) ([x11063.From, (w64 (x11063.To - 1)), (w64 (x11063.From + rem11076))] : List Int).length ([x11063.From, (w64 (x11063.To - 1)), (w64 (x11063.From + rem11076))] : List Int).length), (70, .int .i64 (([x11063.From, (w64 (x11063.To - 1)), (w64 (x11063.From + rem11076))] : List Int).length : Int)), (71, .int .i64 sv12627)] a ∧ Wd ⟨w0, S0, []⟩ Sv15183 [.box b11074 (C42 x11063) 42, .row p70 rv69.1.length k71 c73 56 12, .row (some ⟨b11070, 0, none⟩) rv55.1.length k57 c59 42 3, .row (some ⟨b11078, 0, none⟩) ([x11063.From, (w64 (x11063.To - 1)), (w64 (x11063.From + rem11076))] : List Int).length ([x11063.From, (w64 (x11063.To - 1)), (w64 (x11063.From + rem11076))] : List Int).length [.int .i64 x11063.From, .int .i64 (w64 (x11063.To - 1)), .int .i64 (w64 (x11063.From + rem11076))] 3 1] [SlA p42 rv41.1.length k43 rv41.1, RowA c73 rv69.1, RowA c59 rv55.1, RowA [.int .i64 x11063.From, .int .i64 (w64 (x11063.To - 1)), .int .i64 (w64 (x11063.From + rem11076))] ([x11063.From, (w64 (x11063.To - 1)), (w64 (x11063.From + rem11076))] : List Int)] w) ?_ ?_
   ·refine wp_block (wp_while (fun sv14701 a w => ∃ Sv15019, Sl 146 [(1, .int .u16 n5), (6, .slice p42 rv41.1.length k43), (9, .slice p70 rv69.1.length k71), (12, .pointer (some ⟨b11074, 0, none⟩)), (14, .int .i64 x14693), (15, .int .i64 sv14701.2.2.1), (16, .bool sv14701.2.2.2.1), (17, .pointer (some ⟨b14700, 0, none⟩)), (46, .slice (some ⟨b11070, 0, none⟩) rv55.1.length k57), (47, .int .i64 (rv55.1.length : Int)), (48, .int .i64 sv4785), (69, .slice (some ⟨b11078, 0, none⟩) ([x11063.From, (w64 (x11063.To - 1)), (w64 (x11063.From + rem11076))] : List Int).length ([x11063.From, (w64 (x11063.To - 1)), (w64 (x11063.From + rem11076))] : List Int).length), (70, .int .i64 (([x11063.From, (w64 (x11063.To - 1)), (w64 (x11063.From + rem11076))] : List Int).length : Int)), (71, .int .i64 sv12627), (75, .slice p70 rv69.1.length k71), (76, .int .i64 (rv69.1.length : Int)), (77, .int .i64 sv14701.2.2.2.2)] a ∧ Wd ⟨w0, S0, []⟩ Sv15019 [.box b11074 (C42 x11063) 42, .box b14700 [.int .i64 sv14701.1, .int .i64 sv14701.2.1] 50, .row p70 rv69.1.length k71 c73 56 12, .row (some ⟨b11070, 0, none⟩) rv55.1.length k57 c59 42 3, .row (some ⟨b11078, 0, none⟩) ([x11063.From, (w64 (x11063.To - 1)), (w64 (x11063.From + rem11076))] : List Int).length ([x11063.From, (w64 (x11063.To - 1)), (w64 (x11063.From + rem11076))] : List Int).length [.int .i64 x11063.From, .int .i64 (w64 (x11063.To - 1)), .int .i64 (w64 (x11063.From + rem11076))] 3 1] [SlA p42 rv41.1.length k43 rv41.1, RowA c73 rv69.1, RowA c59 rv55.1, RowA [.int .i64 x11063.From, .int .i64 (w64 (x11063.To - 1)), .int .i64 (w64 (x11063.From + rem11076))] ([x11063.From, (w64 (x11063.To - 1)), (w64 (x11063.From + rem11076))] : List Int)] w) (0, 0, 0, true, 0) h15613 ⟨Sv13657, (s.wk rfl), (d.ft [1, 0, 2, 3, 4] [0, 1, 2, 3] (by decide) rfl rfl)⟩ ?_)
    clear h15613
    repeat clear u
    rintro sv14701 a w tv15180 ⟨Sv15019, s, d⟩ u hd15179
    delta law16_ContinuitySame_l126 at u
    refine sz 1 [] s d rfl rfl fun a s => ?_
    refine wp_seq (cd s u rfl (fun u => ?_) fun u => ?_)
    ·refine wp_skip (then_normal (wp_seq (wp_block (sr ?_))))
     obtain ⟨x15346, h15344, u⟩ := bind_t u
     obtain ⟨b15353, q15350, c15351, h15354, h15347, h15348, h15352, h15345⟩ := d.elemRV (α := Record) 2 rfl 1 rfl h15344
     have hsv15355 := s
     have hwv15356 := d
     subst h15354
     have s := hsv15355
     have d := hwv15356
     obtain ⟨_, _, _, _, _, _, _, _, _, _, _, _, rfl, rfl, rfl, rfl, rfl, rfl, rfl, rfl, rfl, rfl, rfl, rfl, ⟨p15357, n15358, k15359, rfl, h15360⟩⟩ := h15345
     obtain rfl := h15360.1
     have d := d.addE (e := SlA p15357 _ k15359 x15346.Samples) h15360
     refine sv s (y_indexAt Tryz.runUnderlying28 Tryz.sizeOf56 rfl rfl h15347.1 h15347.2 h15348) rfl fun a s => ?_
     refine sv s (y_loadQA (j := 0) (d.ownAt 2 rfl) rfl Tryz.isAgg56 Tryz.sizeOf56 h15352 rfl rfl) rfl fun a s => ?_
     refine w_alloc (cs := Z0) s d Tryz.zeroValue56 rfl rfl trivial ?_
     intro b15361 a w s d
     refine w_store (m := 12) (cs' := (C56 x15346 p15357 k15359)) s d 0 rfl rfl rfl Tryz.sizeOf56 rfl rfl rfl rfl trivial ?_
     intro a w s d
     refine nl (sz 4 [0] s d rfl rfl fun a s => ?_)
     obtain ⟨e15500, h15588, u⟩ := bind_t u
     refine wp_join (fun a w => ∃ Sv15501, Sl 146 [(1, .int .u16 n5), (6, .slice p42 rv41.1.length k43), (9, .slice (some ⟨b15353, 0, none⟩) rv69.1.length k71), (12, .pointer (some ⟨b11074, 0, none⟩)), (14, .int .i64 x14693), (15, .int .i64 e15500.2.2.1), (16, .bool e15500.2.2.2), (17, .pointer (some ⟨b14700, 0, none⟩)), (46, .slice (some ⟨b11070, 0, none⟩) rv55.1.length k57), (47, .int .i64 (rv55.1.length : Int)), (48, .int .i64 sv4785), (69, .slice (some ⟨b11078, 0, none⟩) ([x11063.From, (w64 (x11063.To - 1)), (w64 (x11063.From + rem11076))] : List Int).length ([x11063.From, (w64 (x11063.To - 1)), (w64 (x11063.From + rem11076))] : List Int).length), (70, .int .i64 (([x11063.From, (w64 (x11063.To - 1)), (w64 (x11063.From + rem11076))] : List Int).length : Int)), (71, .int .i64 sv12627), (75, .slice (some ⟨b15353, 0, none⟩) rv69.1.length k71), (76, .int .i64 (rv69.1.length : Int)), (77, .int .i64 sv14701.2.2.2.2)] a ∧ Wd ⟨w0, S0, []⟩ Sv15501 [.box b11074 (C42 x11063) 42, .box b14700 [.int .i64 e15500.1, .int .i64 e15500.2.1] 50, .row (some ⟨b15353, 0, none⟩) rv69.1.length k71 c73 56 12, .row (some ⟨b11070, 0, none⟩) rv55.1.length k57 c59 42 3, .row (some ⟨b11078, 0, none⟩) ([x11063.From, (w64 (x11063.To - 1)), (w64 (x11063.From + rem11076))] : List Int).length ([x11063.From, (w64 (x11063.To - 1)), (w64 (x11063.From + rem11076))] : List Int).length [.int .i64 x11063.From, .int .i64 (w64 (x11063.To - 1)), .int .i64 (w64 (x11063.From + rem11076))] 3 1] [SlA p42 rv41.1.length k43 rv41.1, RowA c73 rv69.1, RowA c59 rv55.1, RowA [.int .i64 x11063.From, .int .i64 (w64 (x11063.To - 1)), .int .i64 (w64 (x11063.From + rem11076))] ([x11063.From, (w64 (x11063.To - 1)), (w64 (x11063.From + rem11076))] : List Int)] w) ?_ ?_
     ·refine wp_block (wp_while (fun sv15362 a w => ∃ Sv15452, Sl 146 [(1, .int .u16 n5), (6, .slice p42 rv41.1.length k43), (9, .slice (some ⟨b15353, 0, none⟩) rv69.1.length k71), (12, .pointer (some ⟨b11074, 0, none⟩)), (14, .int .i64 x14693), (15, .int .i64 sv15362.2.2.1), (16, .bool sv15362.2.2.2.1), (17, .pointer (some ⟨b14700, 0, none⟩)), (19, .pointer (some ⟨b15361, 0, none⟩)), (46, .slice (some ⟨b11070, 0, none⟩) rv55.1.length k57), (47, .int .i64 (rv55.1.length : Int)), (48, .int .i64 sv4785), (69, .slice (some ⟨b11078, 0, none⟩) ([x11063.From, (w64 (x11063.To - 1)), (w64 (x11063.From + rem11076))] : List Int).length ([x11063.From, (w64 (x11063.To - 1)), (w64 (x11063.From + rem11076))] : List Int).length), (70, .int .i64 (([x11063.From, (w64 (x11063.To - 1)), (w64 (x11063.From + rem11076))] : List Int).length : Int)), (71, .int .i64 sv12627), (75, .slice (some ⟨b15353, 0, none⟩) rv69.1.length k71), (76, .int .i64 (rv69.1.length : Int)), (77, .int .i64 sv14701.2.2.2.2), (83, .int .i64 (x15346.Samples.length : Int)), (84, .int .i64 sv15362.2.2.2.2)] a ∧ Wd ⟨w0, S0, []⟩ Sv15452 [.box b11074 (C42 x11063) 42, .box b14700 [.int .i64 sv15362.1, .int .i64 sv15362.2.1] 50, .box b15361 (C56 x15346 p15357 k15359) 56, .row (some ⟨b15353, 0, none⟩) rv69.1.length k71 c73 56 12, .row (some ⟨b11070, 0, none⟩) rv55.1.length k57 c59 42 3, .row (some ⟨b11078, 0, none⟩) ([x11063.From, (w64 (x11063.To - 1)), (w64 (x11063.From + rem11076))] : List Int).length ([x11063.From, (w64 (x11063.To - 1)), (w64 (x11063.From + rem11076))] : List Int).length [.int .i64 x11063.From, .int .i64 (w64 (x11063.To - 1)), .int .i64 (w64 (x11063.From + rem11076))] 3 1] [SlA p42 rv41.1.length k43 rv41.1, SlA p15357 x15346.Samples.length k15359 x15346.Samples, RowA c73 rv69.1, RowA c59 rv55.1, RowA [.int .i64 x11063.From, .int .i64 (w64 (x11063.To - 1)), .int .i64 (w64 (x11063.From + rem11076))] ([x11063.From, (w64 (x11063.To - 1)), (w64 (x11063.From + rem11076))] : List Int)] w) (sv14701.1, sv14701.2.1, sv14701.2.2.1, sv14701.2.2.2.1, 0) h15588 ⟨Sv15019, (s.wk rfl), (d.ft [1, 2, 0, 3, 4, 5] [1, 0, 2, 3, 4] (by decide) rfl rfl)⟩ ?_)
      clear h15588
      repeat clear u
      rintro sv15362 a w tv15498 ⟨Sv15452, s, d⟩ u hd15497
      delta law16_ContinuitySame_l129 at u
      refine sz 1 [] s d rfl rfl fun a s => ?_
      refine wp_seq (cd s u rfl (fun u => ?_) fun u => ?_)
      ·refine wp_skip (then_normal (wp_seq (wp_join (fun a w => ∃ (x15543 : Int) (x15544 : Int) (count15545 : Int) (same15546 : Bool) (Sv15542 : _), law16_ContinuitySame_j1 sv15362 x15543 x15544 count15545 same15546 = some tv15498 ∧ Sl 146 [(1, .int .u16 n5), (6, .slice p42 rv41.1.length k43), (9, .slice (some ⟨b15353, 0, none⟩) rv69.1.length k71), (12, .pointer (some ⟨b11074, 0, none⟩)), (14, .int .i64 x14693), (15, .int .i64 count15545), (16, .bool same15546), (17, .pointer (some ⟨b14700, 0, none⟩)), (19, .pointer (some ⟨b15361, 0, none⟩)), (46, .slice (some ⟨b11070, 0, none⟩) rv55.1.length k57), (47, .int .i64 (rv55.1.length : Int)), (48, .int .i64 sv4785), (69, .slice (some ⟨b11078, 0, none⟩) ([x11063.From, (w64 (x11063.To - 1)), (w64 (x11063.From + rem11076))] : List Int).length ([x11063.From, (w64 (x11063.To - 1)), (w64 (x11063.From + rem11076))] : List Int).length), (70, .int .i64 (([x11063.From, (w64 (x11063.To - 1)), (w64 (x11063.From + rem11076))] : List Int).length : Int)), (71, .int .i64 sv12627), (75, .slice (some ⟨b15353, 0, none⟩) rv69.1.length k71), (76, .int .i64 (rv69.1.length : Int)), (77, .int .i64 sv14701.2.2.2.2), (83, .int .i64 (x15346.Samples.length : Int)), (84, .int .i64 sv15362.2.2.2.2)] a ∧ Wd ⟨w0, S0, []⟩ Sv15542 [.box b11074 (C42 x11063) 42, .box b14700 [.int .i64 x15543, .int .i64 x15544] 50, .box b15361 (C56 x15346 p15357 k15359) 56, .row (some ⟨b15353, 0, none⟩) rv69.1.length k71 c73 56 12, .row (some ⟨b11070, 0, none⟩) rv55.1.length k57 c59 42 3, .row (some ⟨b11078, 0, none⟩) ([x11063.From, (w64 (x11063.To - 1)), (w64 (x11063.From + rem11076))] : List Int).length ([x11063.From, (w64 (x11063.To - 1)), (w64 (x11063.From + rem11076))] : List Int).length [.int .i64 x11063.From, .int .i64 (w64 (x11063.To - 1)), .int .i64 (w64 (x11063.From + rem11076))] 3 1] [SlA p42 rv41.1.length k43 rv41.1, SlA p15357 x15346.Samples.length k15359 x15346.Samples, RowA c73 rv69.1, RowA c59 rv55.1, RowA [.int .i64 x11063.From, .int .i64 (w64 (x11063.To - 1)), .int .i64 (w64 (x11063.From + rem11076))] ([x11063.From, (w64 (x11063.To - 1)), (w64 (x11063.From + rem11076))] : List Int)] w) ?_ ?_)))
       ·refine wp_block (sz 2 [] s d rfl rfl fun a s => ?_)
        refine sn 2 [2] s d rfl rfl fun a s => ?_
        obtain ⟨rv15548, h15547, u⟩ := bind_t u
        refine st_callR s (ref14_At_ok h15547 d.bdom (d.bE 1 rfl)) (do_call Tryz.call23 rfl) trivial rfl rfl ?_
        rintro v15552 Sv15549 w a h15550 rfl s
        have d := d.callB h15550
        refine rz 5 [] s d rfl rfl fun a s => ?_
        refine sn 3 [2] s d rfl rfl fun a s => ?_
        obtain ⟨rv15555, h15554, u⟩ := bind_t u
        refine st_callR s (ref14_At_ok h15554 d.bdom (d.bE 1 rfl)) (do_call Tryz.call23 rfl) trivial rfl rfl ?_
        rintro v15559 Sv15556 w a h15557 rfl s
        have d := d.callB h15557
        refine rz 5 [] s d rfl rfl fun a s => ?_
        refine wp_seq (sn 4 [] s d rfl rfl fun a s => ?_)
        refine rO 4 103 [] s d rfl rfl rfl rfl rfl fun a s => ?_
        refine nl (cd s u rfl (fun u => ?_) fun u => ?_)
        ·exact wp_exit (then_exit (blk_exit (then_normal ⟨sv15362.1, sv15362.2.1, sv15362.2.2.1, sv15362.2.2.2.1, Sv15452, u, (s.wk rfl), (d.ft [0, 1, 2, 3, 4, 5] [0, 1, 2, 3, 4] (by decide) rfl rfl)⟩)))
        refine wp_skip (then_normal (sn 4 [2] s d rfl rfl fun a s => ?_))
        obtain ⟨x15566, h15564, u⟩ := bind_t u
        obtain ⟨b15572, o15573, q15570, c15571, h15574, h15567, h15568, h15569, h15565⟩ := d.elemV 1 rfl h15564
        have hsv15575 := s
        have hwv15576 := d
        subst h15574
        have s := hsv15575
        have d := hwv15576
        obtain ⟨_, rfl, rfl⟩ := h15565
        have d := d.addE h15569
        refine sv s (y_indexAt Tryz.runUnderlying22 Tryz.sizeOf3 rfl rfl h15567.1 h15567.2 h15568) rfl fun a s => ?_
        refine sv s (y_loadE1 (j := 0) (d.ceAt 0 rfl) rfl Tryz.isAgg3 rfl) rfl fun a s => ?_
        refine sv s (y_build (vs := [(0, .int .i64 rv15548.1), (1, .int .i64 x15566)]) Bld50 rfl rfl) rfl fun a s => ?_
        refine w_alloc (cs := [.int .i64 0, .int .i64 0]) s d Tryz.zeroValue50 rfl rfl trivial ?_
        intro b15577 a w s d
        refine w_store (m := 2) (cs' := [.int .i64 rv15548.1, .int .i64 x15566]) s d 0 rfl rfl rfl Tryz.sizeOf50 rfl rfl rfl rfl trivial ?_
        intro a w s d
        refine nl (wp_seq (sz 2 [] s d rfl rfl fun a s => ?_))
        refine wp_join (fun a w => ∃ (x15580 : Int) (x15581 : Int) (Sv15579 : _), law16_ContinuitySame_j2 sv15362 rv15548 x15566 x15580 x15581 = some tv15498 ∧ Sl 146 [(1, .int .u16 n5), (6, .slice p42 rv41.1.length k43), (9, .slice (some ⟨b15353, 0, none⟩) rv69.1.length k71), (12, .pointer (some ⟨b11074, 0, none⟩)), (14, .int .i64 x14693), (15, .int .i64 sv15362.2.2.1), (16, .bool sv15362.2.2.2.1), (17, .pointer (some ⟨b14700, 0, none⟩)), (19, .pointer (some ⟨b15361, 0, none⟩)), (25, .pointer (some ⟨b15577, 0, none⟩)), (46, .slice (some ⟨b11070, 0, none⟩) rv55.1.length k57), (47, .int .i64 (rv55.1.length : Int)), (48, .int .i64 sv4785), (69, .slice (some ⟨b11078, 0, none⟩) ([x11063.From, (w64 (x11063.To - 1)), (w64 (x11063.From + rem11076))] : List Int).length ([x11063.From, (w64 (x11063.To - 1)), (w64 (x11063.From + rem11076))] : List Int).length), (70, .int .i64 (([x11063.From, (w64 (x11063.To - 1)), (w64 (x11063.From + rem11076))] : List Int).length : Int)), (71, .int .i64 sv12627), (75, .slice (some ⟨b15353, 0, none⟩) rv69.1.length k71), (76, .int .i64 (rv69.1.length : Int)), (77, .int .i64 sv14701.2.2.2.2), (83, .int .i64 (x15346.Samples.length : Int)), (84, .int .i64 sv15362.2.2.2.2)] a ∧ Wd ⟨w0, S0, []⟩ Sv15579 [.box b11074 (C42 x11063) 42, .box b14700 [.int .i64 x15580, .int .i64 x15581] 50, .box b15361 (C56 x15346 (some ⟨b15572, o15573, none⟩) k15359) 56, .box b15577 [.int .i64 rv15548.1, .int .i64 x15566] 50, .row (some ⟨b15353, 0, none⟩) rv69.1.length k71 c73 56 12, .row (some ⟨b11070, 0, none⟩) rv55.1.length k57 c59 42 3, .row (some ⟨b11078, 0, none⟩) ([x11063.From, (w64 (x11063.To - 1)), (w64 (x11063.From + rem11076))] : List Int).length ([x11063.From, (w64 (x11063.To - 1)), (w64 (x11063.From + rem11076))] : List Int).length [.int .i64 x11063.From, .int .i64 (w64 (x11063.To - 1)), .int .i64 (w64 (x11063.From + rem11076))] 3 1] [SlA p42 rv41.1.length k43 rv41.1, SlA (some ⟨b15572, o15573, none⟩) x15346.Samples.length k15359 x15346.Samples, RowA c73 rv69.1, RowA c59 rv55.1, RowA [.int .i64 x11063.From, .int .i64 (w64 (x11063.To - 1)), .int .i64 (w64 (x11063.From + rem11076))] ([x11063.From, (w64 (x11063.To - 1)), (w64 (x11063.From + rem11076))] : List Int)] w) ?_ ?_
        ·refine cd s u rfl (fun u => ?_) fun u => ?_
         ·refine wp_region_lit (sv s (y_loadBA (d.ownAt 0 rfl) rfl Tryz.isAgg50 Tryz.sizeOf50 rfl rfl) rfl fun a s => ?_)
          refine w_store (m := 2) (cs' := [.int .i64 rv15548.1, .int .i64 x15566]) s d 2 rfl rfl rfl Tryz.sizeOf50 rfl rfl rfl rfl trivial ?_
          intro a w s d
          exact nl ⟨rv15548.1, x15566, Sv15452, u, (s.wk rfl), (d.ft [1, 2, 3, 0, 4, 5, 6] [1, 2, 3, 4, 5] (by decide) rfl rfl)⟩
         exact wp_skip (then_normal ⟨sv15362.1, sv15362.2.1, Sv15452, u, (s.wk rfl), (d.ft [1, 2, 3, 0, 4, 5, 6] [1, 2, 3, 4, 5] (by decide) rfl rfl)⟩)
        rintro a w ⟨x15580, x15581, Sv15579, u, s, d⟩
        delta law16_ContinuitySame_j2 at u
        refine then_normal (wp_region_lit (rn 2 [] s d rfl rfl fun a s => ?_))
        refine wpl_join 4 (fun a w1 => w = w1 ∧ Sl 146 [(1, .int .u16 n5), (6, .slice p42 rv41.1.length k43), (9, .slice (some ⟨b15353, 0, none⟩) rv69.1.length k71), (12, .pointer (some ⟨b11074, 0, none⟩)), (14, .int .i64 x14693), (15, .int .i64 sv15362.2.2.1), (17, .pointer (some ⟨b14700, 0, none⟩)), (19, .pointer (some ⟨b15361, 0, none⟩)), (46, .slice (some ⟨b11070, 0, none⟩) rv55.1.length k57), (47, .int .i64 (rv55.1.length : Int)), (48, .int .i64 sv4785), (69, .slice (some ⟨b11078, 0, none⟩) ([x11063.From, (w64 (x11063.To - 1)), (w64 (x11063.From + rem11076))] : List Int).length ([x11063.From, (w64 (x11063.To - 1)), (w64 (x11063.From + rem11076))] : List Int).length), (70, .int .i64 (([x11063.From, (w64 (x11063.To - 1)), (w64 (x11063.From + rem11076))] : List Int).length : Int)), (71, .int .i64 sv12627), (75, .slice (some ⟨b15353, 0, none⟩) rv69.1.length k71), (76, .int .i64 (rv69.1.length : Int)), (77, .int .i64 sv14701.2.2.2.2), (83, .int .i64 (x15346.Samples.length : Int)), (84, .int .i64 sv15362.2.2.2.2), (123, .bool (sv15362.2.2.2.1 && ((rv15548.1 == x15580) && ((x15566 == x15581) && true))))] a) ?_ ?_
        ·rcases Bool.eq_false_or_eq_true sv15362.2.2.2.1 with h15582 | h15582
         ·have s := s.fix 119 (.bool true) rfl (vb h15582)
          refine rn 2 [3, 1] s d rfl rfl fun a s => ?_
          refine st_val s (y_eqlA (by kernel_rfl) rfl rfl (eqv_array Tryz.runUnderlying50 Tryz.sizeOf3 (EqA.cons1 Tryz.isAgg3 rfl rfl (eqv_int Tryz.runUnderlying3) (EqA.cons1 Tryz.isAgg3 rfl rfl (eqv_int Tryz.runUnderlying3) EqA.nil)))) ⟨_, rfl, rfl⟩ rfl rfl fun a s => ?_
          refine rz 1 [] s d rfl rfl fun a s => ?_
          exact ⟨rfl, (s.fix 123 (.bool (sv15362.2.2.2.1 && ((rv15548.1 == x15580) && ((x15566 == x15581) && true)))) rfl (and_t h15582)).weaken _ ⟨rfl, rfl, rfl, rfl, rfl, rfl, rfl, rfl, rfl, rfl, rfl, rfl, rfl, rfl, rfl, rfl, rfl, rfl, rfl, rfl, trivial⟩⟩
         have s := s.fix 119 (.bool false) rfl (vb h15582)
         refine rz 4 [] s d rfl rfl fun a s => ?_
         exact ⟨rfl, (s.fix 123 (.bool (sv15362.2.2.2.1 && ((rv15548.1 == x15580) && ((x15566 == x15581) && true)))) rfl (and_f h15582)).weaken _ ⟨rfl, rfl, rfl, rfl, rfl, rfl, rfl, rfl, rfl, rfl, rfl, rfl, rfl, rfl, rfl, rfl, rfl, rfl, rfl, rfl, trivial⟩⟩
        rintro a w1 ⟨h15585, s⟩
        subst h15585
        refine rn 3 [] s d rfl rfl fun a s => ?_
        obtain ⟨count15584, h15583, u⟩ := bind_t u
        refine sv s (y_assignI rfl h15583) rfl fun a s => ?_
        refine wpList_nil ?_
        exact blk_normal (then_normal ⟨x15580, x15581, count15584, (sv15362.2.2.2.1 && ((rv15548.1 == x15580) && ((x15566 == x15581) && true))), Sv15579, u, (s.wk rfl), (d.ft [0, 1, 2, 4, 5, 6] [0, 1, 2, 3, 4] (by decide) rfl rfl)⟩)
       rintro a w ⟨x15543, x15544, count15545, same15546, Sv15542, u, s, d⟩
       delta law16_ContinuitySame_j1 at u
       refine then_normal (wp_region_lit (rz 2 [] s d rfl rfl fun a s => ?_))
       exact ⟨_, (Option.some.inj u).symm, Sv15542, (s.wk rfl), (d.ft [0, 1, 2, 3, 4, 5] [0, 1, 2, 3, 4] (by decide) rfl rfl)⟩
      refine wp_exit (then_exit (then_exit (blk_exit ?_)))
      have u := oi u
      subst u
      have h15587 := hd15497 _ rfl
      subst h15587
      exact then_normal ⟨Sv15452, (s.wk rfl), (d.ft [0, 1, 3, 4, 5] [0, 2, 3, 4] (by decide) rfl rfl)⟩
     rintro a w ⟨Sv15501, s, d⟩
     refine blk_normal (then_normal (wp_region_lit (rz 2 [] s d rfl rfl fun a s => ?_)))
     exact ⟨_, (Option.some.inj u).symm, Sv15501, (s.wk rfl), (d.ft [0, 1, 2, 3, 4] [0, 1, 2, 3] (by decide) rfl rfl)⟩
    refine wp_exit (then_exit (then_exit (blk_exit ?_)))
    have u := oi u
    subst u
    have h15589 := hd15179 _ rfl
    subst h15589
    exact then_normal ⟨Sv15019, (s.wk rfl), (d.ft [0, 2, 3, 4] [0, 1, 2, 3] (by decide) rfl rfl)⟩
   rintro a w ⟨Sv15183, s, d⟩
   refine then_normal (sn 3 [] s d rfl rfl fun a s => ?_)
   refine wpl_join 5 (fun a w1 => w = w1 ∧ Sl 146 [(1, .int .u16 n5), (6, .slice p42 rv41.1.length k43), (9, .slice p70 rv69.1.length k71), (12, .pointer (some ⟨b11074, 0, none⟩)), (14, .int .i64 x14693), (15, .int .i64 e15182.1), (46, .slice (some ⟨b11070, 0, none⟩) rv55.1.length k57), (47, .int .i64 (rv55.1.length : Int)), (48, .int .i64 sv4785), (69, .slice (some ⟨b11078, 0, none⟩) ([x11063.From, (w64 (x11063.To - 1)), (w64 (x11063.From + rem11076))] : List Int).length ([x11063.From, (w64 (x11063.To - 1)), (w64 (x11063.From + rem11076))] : List Int).length), (70, .int .i64 (([x11063.From, (w64 (x11063.To - 1)), (w64 (x11063.From + rem11076))] : List Int).length : Int)), (71, .int .i64 sv12627), (135, .bool ((decide (e15182.1 < 2)) || (!(e15182.2 == x11063.Same))))] a) ?_ ?_
   ·rcases Bool.eq_false_or_eq_true (decide (e15182.1 < 2)) with h15590 | h15590
    ·have s := s.fix 130 (.bool true) rfl (vb h15590)
     refine rz 5 [] s d rfl rfl fun a s => ?_
     exact ⟨rfl, (s.fix 135 (.bool ((decide (e15182.1 < 2)) || (!(e15182.2 == x11063.Same)))) rfl (or_t h15590)).weaken _ ⟨rfl, rfl, rfl, rfl, rfl, rfl, rfl, rfl, rfl, rfl, rfl, rfl, rfl, trivial⟩⟩
    have s := s.fix 130 (.bool false) rfl (vb h15590)
    refine rn 3 [0] s d rfl rfl fun a s => ?_
    refine st_val s (y_neqB Tryz.runUnderlying4 rfl rfl) ⟨_, rfl, rfl⟩ rfl rfl fun a s => ?_
    refine rz 1 [] s d rfl rfl fun a s => ?_
    exact ⟨rfl, (s.fix 135 (.bool ((decide (e15182.1 < 2)) || (!(e15182.2 == x11063.Same)))) rfl (or_f h15590)).weaken _ ⟨rfl, rfl, rfl, rfl, rfl, rfl, rfl, rfl, rfl, rfl, rfl, rfl, rfl, trivial⟩⟩
   rintro a w1 ⟨h15612, s⟩
   subst h15612
   refine mv s rfl rfl fun a s => ?_
   obtain ⟨c15599, hc15599, u⟩ := bind_t u
   refine wpl_join 6 (fun a w => ∃ Sv15600, Sl 146 [(1, .int .u16 n5), (6, .slice p42 rv41.1.length k43), (9, .slice p70 rv69.1.length k71), (12, .pointer (some ⟨b11074, 0, none⟩)), (46, .slice (some ⟨b11070, 0, none⟩) rv55.1.length k57), (47, .int .i64 (rv55.1.length : Int)), (48, .int .i64 sv4785), (69, .slice (some ⟨b11078, 0, none⟩) ([x11063.From, (w64 (x11063.To - 1)), (w64 (x11063.From + rem11076))] : List Int).length ([x11063.From, (w64 (x11063.To - 1)), (w64 (x11063.From + rem11076))] : List Int).length), (70, .int .i64 (([x11063.From, (w64 (x11063.To - 1)), (w64 (x11063.From + rem11076))] : List Int).length : Int)), (71, .int .i64 sv12627), (142, .bool c15599)] a ∧ Wd ⟨w0, S0, []⟩ Sv15600 [.box b11074 (C42 x11063) 42, .row p70 rv69.1.length k71 c73 56 12, .row (some ⟨b11070, 0, none⟩) rv55.1.length k57 c59 42 3, .row (some ⟨b11078, 0, none⟩) ([x11063.From, (w64 (x11063.To - 1)), (w64 (x11063.From + rem11076))] : List Int).length ([x11063.From, (w64 (x11063.To - 1)), (w64 (x11063.From + rem11076))] : List Int).length [.int .i64 x11063.From, .int .i64 (w64 (x11063.To - 1)), .int .i64 (w64 (x11063.From + rem11076))] 3 1] [SlA p42 rv41.1.length k43 rv41.1, RowA c73 rv69.1, RowA c59 rv55.1, RowA [.int .i64 x11063.From, .int .i64 (w64 (x11063.To - 1)), .int .i64 (w64 (x11063.From + rem11076))] ([x11063.From, (w64 (x11063.To - 1)), (w64 (x11063.From + rem11076))] : List Int)] w) ?_ ?_
   ·rcases Bool.eq_false_or_eq_true ((decide (e15182.1 < 2)) || (!(e15182.2 == x11063.Same))) with h15598 | h15598
    ·have s := s.fix 136 (.bool true) rfl (vb h15598)
     have u := ite_t hc15599 h15598
     refine rn 6 [] s d rfl rfl fun a s => ?_
     refine wpList_nil ?_
     have u := oi u
     subst u
     exact then_normal ⟨Sv15183, (s.wk rfl), (d.ft [0, 1, 2, 3] [0, 1, 2, 3] (by decide) rfl rfl)⟩
    have s := s.fix 136 (.bool false) rfl (vb h15598)
    have u := ite_f hc15599 h15598
    refine rn 2 [] s d rfl rfl fun a s => ?_
    obtain ⟨rv15602, h15601, u⟩ := bind_t u
    refine st_callR s (continuity_Depth_ok h15601 d.bdom (d.bE 0 rfl)) (do_call Tryz.call15 rfl) ⟨_, rfl, rfl⟩ rfl rfl ?_
    rintro v15606 Sv15603 w a h15604 rfl s
    have d := d.callB h15604
    refine rn 3 [] s d rfl rfl fun a s => ?_
    refine wpList_nil ?_
    have u := oi u
    subst u
    exact then_normal ⟨Sv15183, (s.wk rfl), (d.ft [0, 1, 2, 3] [0, 1, 2, 3] (by decide) rfl rfl)⟩
   rintro a w ⟨Sv15600, s, d⟩
   refine nl (cd s u rfl (fun u => ?_) fun u => ?_)
   ·refine sz 1 [] s d rfl rfl fun a s => ?_
    have u := oi u
    subst u
    have h15610 := hd14172 _ rfl
    subst h15610
    have h15611 := hd9489 _ rfl
    subst h15611
    exact wp_ret (blk_ret (then_ret (then_ret (blk_ret (blk_ret (then_ret (then_ret (blk_ret (then_ret (ret1 s rfl (rv_tmp rfl) (d.ret rfl)))))))))))
   refine wp_skip (blk_normal (then_normal (wp_region_lit (rz 2 [] s d rfl rfl fun a s => ?_))))
   exact ⟨_, (Option.some.inj u).symm, Sv15600, (s.wk rfl), (d.ft [0, 1, 2, 3] [0, 1, 2, 3] (by decide) rfl rfl)⟩
  obtain ⟨rv15614, u, h15615⟩ := map_t u
  have h15615 := (hd14172 _ h15615.symm).symm
  subst h15615
  refine wp_exit (then_exit (then_exit (blk_exit (blk_normal (then_normal (wp_region_lit (rz 2 [] s d rfl rfl fun a s => ?_)))))))
  exact ⟨_, (Option.some.inj u).symm, Sv13657, (s.wk rfl), (d.ft [1, 2] [0, 1, 2] (by decide) rfl rfl)⟩
 obtain ⟨rv15623, u, h15624⟩ := map_t u
 have h15624 := (hd9489 _ h15624.symm).symm
 subst h15624
 refine wp_exit (then_exit (then_exit (blk_exit (then_normal (sr ?_)))))
 obtain ⟨rv15617, h15616, u⟩ := bind_t u
 refine st_callR s (law16_sane_ok h15616 d.bdom) (do_call Tryz.call10 rfl) trivial rfl rfl ?_
 rintro v15621 Sv15618 w a h15619 rfl s
 have d := d.callB h15619
 refine rz 1 [] s d rfl rfl fun a s => ?_
 have u := oi u
 subst u
 exact wp_ret (ret1 s rfl (rv_tmp rfl) (d.ret rfl))
end Go.Proofs.YtdcafiefjakfeaaGreat.Wk

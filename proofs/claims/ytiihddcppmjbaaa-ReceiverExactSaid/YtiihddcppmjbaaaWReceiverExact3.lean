/- The walks of ReceiverExact, part 3: each Go function computes what its plain program computes. Printed by a program of ours. -/
import Derived.Test.YtiihddcppmjbaaaProg
import Derived.Test.YtiihddcppmjbaaaDat
import Derived.Test.YtiihddcppmjbaaaSh
import Derived.Test.YtiihddcppmjbaaaLibL
import Derived.Test.YtiihddcppmjbaaaLibZ
import Derived.KernelRfl
import Derived.Test.YtiihddcppmjbaaaWReceiverExact2
namespace Go.Proofs.Ytiihddcppmjbaaa.Wk
open Go Go.RowKit Go.Proofs Go.Proofs.Ytiihddcppmjbaaa.Sh
set_option linter.unusedVariables false
set_option linter.unusedSimpArgs false

abbrev receiver_Accept_rd (w0 : World) (X : List Nat) (r : (Receiver × Bool × Int)) : (Nat → Prop) → World → Value → Prop := fun S w v => ∃ (p0_0 : Option Addr) (k0_0 : Nat) (p0_1 : Option Addr) (k0_1 : Nat), v = .tuple #[.agg #[.slice p0_0 r.1.Got.length k0_0, .slice p0_1 r.1.Lost.length k0_1], .bool r.2.1, .int .i64 r.2.2] ∧ (SlA p0_0 r.1.Got.length k0_0 r.1.Got).p S w ∧ (SlA p0_1 r.1.Lost.length k0_1 r.1.Lost).p S w
set_option maxHeartbeats 4000000 in
set_option maxRecDepth 100000 in
theorem receiver_Accept_ok {w0 : World} {S0 : Nat → Prop} {p2 : Option Addr} {k3 : Nat} {p4 : Option Addr} {k5 : Nat} {r1 : Receiver} {seq8 : Int} {r : (Receiver × Bool × Int)} (hsh : receiver_Accept r1 seq8 = some r) (hS : ∀ b, S0 b → b < w0.heap.size) (h6 : (SlA p2 r1.Got.length k3 r1.Got).p S0 w0) (h7 : (SlA p4 r1.Lost.length k5 r1.Lost).p S0 w0) : Calls Try.prog 13 #[.agg #[.slice p2 r1.Got.length k3, .slice p4 r1.Lost.length k5], .int .i64 seq8] w0 (Ret ([]) w0 S0 (receiver_Accept_rd w0 ([]) r)) := by
 refine calls_of_wp Try.func13 rfl ?_
 have hs := Sl.enter #[.agg #[.slice p2 r1.Got.length k3, .slice p4 r1.Lost.length k5], .int .i64 seq8] 47 [(0, .agg #[.slice p2 r1.Got.length k3, .slice p4 r1.Lost.length k5]), (1, .int .i64 seq8)] rfl ⟨rfl, rfl, trivial⟩
 have hw := Wd.enter (E := []) hS (fun _ h => (by cases h))
 have hw := hw.addE h6
 have hw := hw.addE h7
 delta receiver_Accept at hsh
 refine sr ?_
 refine w_box (cs := [.slice p2 r1.Got.length k3, .slice p4 r1.Lost.length k5]) hs hw rfl rfl rfl trivial ?_
 intro b9 a w hs hw
 refine w_alloc (cs := [.slice none ([] : List Span).length 0, .slice none ([] : List Span).length 0]) hs hw Try.zeroValue29 rfl rfl trivial ?_
 intro b10 a w hs hw
 refine av hs rfl rfl fun a hs => ?_
 refine av hs rfl rfl fun a hs => ?_
 refine nl ?_
 refine wp_seq ?_
 refine sr ?_
 refine sv hs (y_loadBA (hw.ownAt 1 rfl) rfl Try.isAgg29 Try.sizeOf29 rfl rfl) rfl fun a hs => ?_
 obtain ⟨rv12, h11, hsh⟩ := bind_t hsh
 refine st_callR hs (receiver_Valid_ok h11 hw.bdom (hw.bE 1 rfl) (hw.bE 0 rfl)) (do_call Try.call15 rfl) trivial rfl rfl ?_
 intro v16 Sv13 w a h14 h15 hs
 subst h15
 have hw := hw.callB h14
 refine sv hs (y_not rfl) rfl fun a hs => ?_
 refine nl ?_
 refine wp_cond_split (hs.ev rfl) (fun h19 => ?_) (fun h19 => ?_)
 ·have hsh := ite_t hsh h19
  refine sr ?_
  refine sv hs (y_build (vs := []) Bld29 rfl rfl) rfl fun a hs => ?_
  refine w_store (m := 2) (cs' := [.slice none ([] : List Span).length 0, .slice none ([] : List Span).length 0]) hs hw 0 rfl rfl rfl Try.sizeOf29 rfl rfl rfl rfl trivial ?_
  intro a w hs hw
  refine av hs rfl rfl fun a hs => ?_
  refine av hs rfl rfl fun a hs => ?_
  refine nl ?_
  have hsh := oi hsh
  subst hsh
  have hw := hw.addE (e := SlA (α := Span) none 0 0 []) nil_sl
  refine wp_ret ?_
  refine then_ret ?_
  exact ret3 hs rfl (rv_cell hw 0 rfl rfl Try.isAgg29 Try.sizeOf29 rfl) (rv_tmp rfl) (rv_tmp rfl) (hw.ret ⟨none, 0, none, 0, rfl, (hw.envAt 0 rfl), (hw.envAt 0 rfl)⟩)
 have hsh := ite_f hsh h19
 refine wp_skip ?_
 refine then_normal ?_
 refine wp_seq ?_
 refine sr ?_
 refine mv hs rfl rfl fun a hs => ?_
 obtain ⟨rv21, h20, hsh⟩ := bind_t hsh
 refine st_callR hs (receiver_in_ok h20 hw.bdom) (do_call Try.call34 rfl) trivial rfl rfl ?_
 intro v25 Sv22 w a h23 h24 hs
 subst h24
 have hw := hw.callB h23
 refine sv hs (y_not rfl) rfl fun a hs => ?_
 refine nl ?_
 refine wp_cond_split (hs.ev rfl) (fun h28 => ?_) (fun h28 => ?_)
 ·have hsh := ite_t hsh h28
  refine sr ?_
  refine sv hs (y_build (vs := []) Bld29 rfl rfl) rfl fun a hs => ?_
  refine w_store (m := 2) (cs' := [.slice none ([] : List Span).length 0, .slice none ([] : List Span).length 0]) hs hw 0 rfl rfl rfl Try.sizeOf29 rfl rfl rfl rfl trivial ?_
  intro a w hs hw
  refine av hs rfl rfl fun a hs => ?_
  refine av hs rfl rfl fun a hs => ?_
  refine nl ?_
  have hsh := oi hsh
  subst hsh
  have hw := hw.addE (e := SlA (α := Span) none 0 0 []) nil_sl
  refine wp_ret ?_
  refine then_ret ?_
  exact ret3 hs rfl (rv_cell hw 0 rfl rfl Try.isAgg29 Try.sizeOf29 rfl) (rv_tmp rfl) (rv_tmp rfl) (hw.ret ⟨none, 0, none, 0, rfl, (hw.envAt 0 rfl), (hw.envAt 0 rfl)⟩)
 have hsh := ite_f hsh h28
 refine wp_skip ?_
 refine then_normal ?_
 refine sr ?_
 refine mv hs rfl rfl fun a hs => ?_
 refine mv hs rfl rfl fun a hs => ?_
 refine sv hs (y_add rfl rfl) rfl fun a hs => ?_
 refine sv hs (y_build (vs := [(0, .int .i64 seq8), (1, .int .i64 (w64 (seq8 + 1)))]) Bld46 rfl rfl) rfl fun a hs => ?_
 refine w_litSlice (α := Span) (vs := [.agg #[.int .i64 seq8, .int .i64 (w64 (seq8 + 1))]]) (cs := [.int .i64 seq8, .int .i64 (w64 (seq8 + 1))]) (xs := ([(⟨seq8, (w64 (seq8 + 1))⟩ : Span)] : List Span)) hs hw El27 rfl rfl rfl rfl rfl rfl ⟨⟨_, _, rfl, rfl, rfl⟩, rfl⟩ rfl trivial rfl fun b30 a w hs hw => ?_
 refine av hs rfl rfl fun a hs => ?_
 refine nl ?_
 refine sr ?_
 refine sv hs (y_fieldAddr (o' := 0) Try.runUnderlying29 rfl Try.sizeOf27 rfl rfl rfl) rfl fun a hs => ?_
 refine sv hs (y_loadB1 (hw.ownAt 2 rfl) rfl Try.isAgg27 rfl) rfl fun a hs => ?_
 refine mv hs rfl rfl fun a hs => ?_
 obtain ⟨rv32, h31, hsh⟩ := bind_t hsh
 refine st_callR hs (span_Has_ok h31 hw.bdom (hw.bE 2 rfl)) (do_call Try.call39 rfl) trivial rfl rfl ?_
 intro v36 Sv33 w a h34 h35 hs
 subst h35
 have hw := hw.callB h34
 refine sv hs (y_not rfl) rfl fun a hs => ?_
 refine av hs rfl rfl fun a hs => ?_
 refine nl ?_
 refine wp_seq ?_
 obtain ⟨rv39, h38, hsh⟩ := bind_t hsh
 obtain ⟨rv45, h44, hsh⟩ := bind_t hsh
 obtain ⟨rv51, h50, hsh⟩ := bind_t hsh
 refine wp_only (fun a w => ∃ (Sv58 : Nat → Prop) (k53 : Nat) (k56 : Nat) (p52 : Option Addr) (p55 : Option Addr), Sl 47 [(2, .pointer (some ⟨b9, 0, none⟩)), (4, .pointer (some ⟨b10, 0, none⟩)), (8, .bool (!rv32)), (9, .int .i64 rv51.2)] a ∧ Wd ⟨w0, S0, []⟩ Sv58 [.box b9 [.slice p52 rv51.1.Got.length k53, .slice p55 rv51.1.Lost.length k56] 29, .box b10 [.slice none ([] : List Span).length 0, .slice none ([] : List Span).length 0] 29] [SlA p52 rv51.1.Got.length k53 rv51.1.Got, SlA p55 rv51.1.Lost.length k56 rv51.1.Lost, SlA none ([] : List Span).length 0 ([] : List Span)] w) ?_ ?_
 ·refine h_b (C := Cls [.box b10 [.slice none ([] : List Span).length 0, .slice none ([] : List Span).length 0] 29] []) (by kernel_rfl) rfl (hw.drew.cs [1] [] rfl rfl) fun hC => ?_
  have hw := hw.drew
  refine gv hs 0 rfl rfl hC (fun w hC => y_fieldAddr (o' := 0) Try.runUnderlying29 rfl Try.sizeOf27 rfl rfl rfl) fun a hs => ?_
  refine gm hs 2 rfl rfl rfl hC fun a hs => ?_
  refine gv hs 4 rfl rfl hC (fun w hC => y_fieldAddr (o' := 1) Try.runUnderlying29 rfl Try.sizeOf27 rfl rfl rfl) fun a hs => ?_
  refine gm hs 6 rfl rfl rfl hC fun a hs => ?_
  refine h_all (rs := [1, 5]) (by kernel_rfl) rfl ?_
  refine AllH.cons rfl ?_ ?_
  ·refine sv hs (y_loadB1 (hw.ownAt 2 rfl) rfl Try.isAgg27 rfl) rfl fun a hs => ?_
   refine h_nx (hw.cs [1] [] rfl rfl) fun hC => ?_
   refine h_all (rs := [3, 5]) (by kernel_rfl) rfl ?_
   refine AllH.cons rfl ?_ ?_
   ·obtain ⟨Sv59, hw⟩ := w_share (α := Span) hw 0 rfl 0 rfl
    refine st_callR hs (span_Union_ok h38 hw.dom (hw.envAt 3 rfl) (hw.envAt 0 rfl)) (do_call Try.call38 rfl) trivial rfl rfl ?_
    intro v63 Sv60 w a h61 h62 hs
    obtain ⟨p40, k41, c43, rfl, h64, h42⟩ := h62
    have hw := hw.callN h61 h64
    have hw := hw.addE (e := RowA c43 rv39) h42
    refine h_nx (hw.cs [1] [] rfl rfl) fun hC => ?_
    refine ho 5 rfl ?_
    refine sv hs (y_loadB1 (hw.ownAt 2 rfl) rfl Try.isAgg27 rfl) rfl fun a hs => ?_
    refine h_nx (hw.cs [1] [] rfl rfl) fun hC => ?_
    refine ho 7 rfl ?_
    refine st_callR hs (span_Minus_ok h44 hw.dom (hw.envAt 3 rfl) (hw.envAt 1 rfl)) (do_call Try.call35 rfl) trivial rfl rfl ?_
    intro v68 Sv65 w a h66 h67 hs
    obtain ⟨p46, k47, c49, rfl, h69, h48⟩ := h67
    have hw := hw.callN h66 h69
    have hw := hw.addE (e := RowA c49 rv45) h48
    refine h_nx (hw.cs [2] [] rfl rfl) fun hC => ?_
    refine ho 8 rfl ?_
    obtain ⟨Sv70, hw⟩ := w_share (α := Span) hw 1 rfl 1 rfl
    obtain ⟨Sv71, hw⟩ := w_share (α := Span) hw 0 rfl 1 rfl
    refine st_callR hs (receiver_limited_ok h50 hw.dom (hw.envAt 1 rfl) (hw.envAt 0 rfl)) (do_call Try.call36 rfl) trivial rfl rfl ?_
    intro v75 Sv72 w a h73 h74 hs
    obtain ⟨p52, k53, p55, k56, rfl, h54, h57⟩ := h74
    have hw := hw.call h73
    have hw := hw.addE (e := SlA p52 rv51.1.Got.length k53 rv51.1.Got) h54
    have hw := hw.addE (e := SlA p55 rv51.1.Lost.length k56 rv51.1.Lost) h57
    refine h_nx (hw.cs [0] [] rfl rfl) fun hC => ?_
    refine gm hs 9 rfl rfl rfl hC fun a hs => ?_
    refine gv hs 10 rfl rfl hC (fun w hC => y_extract rfl rfl) fun a hs => ?_
    refine gv hs 11 rfl rfl hC (fun w hC => y_extract rfl rfl) fun a hs => ?_
    refine ho 12 rfl ?_
    refine w_store (m := 2) (cs' := [.slice p52 rv51.1.Got.length k53, .slice p55 rv51.1.Lost.length k56]) hs hw 1 rfl rfl rfl Try.sizeOf29 rfl rfl rfl rfl trivial ?_
    intro a w hs hw
    refine h_nx (hw.cs [0] [] rfl rfl) fun hC => ?_
    refine gv hs 13 rfl rfl hC (fun w hC => y_assign rfl) fun a hs => ?_
    refine h_done (by kernel_rfl) ?_
    have hw := hw.addE (e := SlA (α := Span) none 0 0 []) nil_sl
    exact ⟨Sv72, k53, k56, p52, p55, (hs.wk rfl), (hw.ft [1, 0] [2, 1, 0] (by decide) rfl rfl)⟩
   refine AllH.cons rfl ?_ ?_
   ·refine sv hs (y_loadB1 (hw.ownAt 2 rfl) rfl Try.isAgg27 rfl) rfl fun a hs => ?_
    refine h_nx (hw.cs [1] [] rfl rfl) fun hC => ?_
    refine ho 3 rfl ?_
    obtain ⟨Sv77, hw⟩ := w_share (α := Span) hw 0 rfl 0 rfl
    refine st_callR hs (span_Union_ok h38 hw.dom (hw.envAt 3 rfl) (hw.envAt 0 rfl)) (do_call Try.call38 rfl) trivial rfl rfl ?_
    intro v81 Sv78 w a h79 h80 hs
    obtain ⟨p40, k41, c43, rfl, h82, h42⟩ := h80
    have hw := hw.callN h79 h82
    have hw := hw.addE (e := RowA c43 rv39) h42
    refine h_nx (hw.cs [1] [] rfl rfl) fun hC => ?_
    refine ho 7 rfl ?_
    refine st_callR hs (span_Minus_ok h44 hw.dom (hw.envAt 3 rfl) (hw.envAt 1 rfl)) (do_call Try.call35 rfl) trivial rfl rfl ?_
    intro v86 Sv83 w a h84 h85 hs
    obtain ⟨p46, k47, c49, rfl, h87, h48⟩ := h85
    have hw := hw.callN h84 h87
    have hw := hw.addE (e := RowA c49 rv45) h48
    refine h_nx (hw.cs [2] [] rfl rfl) fun hC => ?_
    refine ho 8 rfl ?_
    obtain ⟨Sv88, hw⟩ := w_share (α := Span) hw 1 rfl 1 rfl
    obtain ⟨Sv89, hw⟩ := w_share (α := Span) hw 0 rfl 1 rfl
    refine st_callR hs (receiver_limited_ok h50 hw.dom (hw.envAt 1 rfl) (hw.envAt 0 rfl)) (do_call Try.call36 rfl) trivial rfl rfl ?_
    intro v93 Sv90 w a h91 h92 hs
    obtain ⟨p52, k53, p55, k56, rfl, h54, h57⟩ := h92
    have hw := hw.call h91
    have hw := hw.addE (e := SlA p52 rv51.1.Got.length k53 rv51.1.Got) h54
    have hw := hw.addE (e := SlA p55 rv51.1.Lost.length k56 rv51.1.Lost) h57
    refine h_nx (hw.cs [0] [] rfl rfl) fun hC => ?_
    refine gm hs 9 rfl rfl rfl hC fun a hs => ?_
    refine gv hs 10 rfl rfl hC (fun w hC => y_extract rfl rfl) fun a hs => ?_
    refine gv hs 11 rfl rfl hC (fun w hC => y_extract rfl rfl) fun a hs => ?_
    refine ho 12 rfl ?_
    refine w_store (m := 2) (cs' := [.slice p52 rv51.1.Got.length k53, .slice p55 rv51.1.Lost.length k56]) hs hw 1 rfl rfl rfl Try.sizeOf29 rfl rfl rfl rfl trivial ?_
    intro a w hs hw
    refine h_nx (hw.cs [0] [] rfl rfl) fun hC => ?_
    refine gv hs 13 rfl rfl hC (fun w hC => y_assign rfl) fun a hs => ?_
    refine h_done (by kernel_rfl) ?_
    have hw := hw.addE (e := SlA (α := Span) none 0 0 []) nil_sl
    exact ⟨Sv90, k53, k56, p52, p55, (hs.wk rfl), (hw.ft [1, 0] [2, 1, 0] (by decide) rfl rfl)⟩
   exact AllH.nil
  refine AllH.cons rfl ?_ ?_
  ·refine sv hs (y_loadB1 (hw.ownAt 2 rfl) rfl Try.isAgg27 rfl) rfl fun a hs => ?_
   refine h_nx (hw.cs [1] [] rfl rfl) fun hC => ?_
   refine ho 1 rfl ?_
   refine sv hs (y_loadB1 (hw.ownAt 2 rfl) rfl Try.isAgg27 rfl) rfl fun a hs => ?_
   refine h_nx (hw.cs [1] [] rfl rfl) fun hC => ?_
   refine ho 3 rfl ?_
   obtain ⟨Sv95, hw⟩ := w_share (α := Span) hw 0 rfl 0 rfl
   refine st_callR hs (span_Union_ok h38 hw.dom (hw.envAt 3 rfl) (hw.envAt 0 rfl)) (do_call Try.call38 rfl) trivial rfl rfl ?_
   intro v99 Sv96 w a h97 h98 hs
   obtain ⟨p40, k41, c43, rfl, h100, h42⟩ := h98
   have hw := hw.callN h97 h100
   have hw := hw.addE (e := RowA c43 rv39) h42
   refine h_nx (hw.cs [1] [] rfl rfl) fun hC => ?_
   refine ho 7 rfl ?_
   refine st_callR hs (span_Minus_ok h44 hw.dom (hw.envAt 3 rfl) (hw.envAt 1 rfl)) (do_call Try.call35 rfl) trivial rfl rfl ?_
   intro v104 Sv101 w a h102 h103 hs
   obtain ⟨p46, k47, c49, rfl, h105, h48⟩ := h103
   have hw := hw.callN h102 h105
   have hw := hw.addE (e := RowA c49 rv45) h48
   refine h_nx (hw.cs [2] [] rfl rfl) fun hC => ?_
   refine ho 8 rfl ?_
   obtain ⟨Sv106, hw⟩ := w_share (α := Span) hw 1 rfl 1 rfl
   obtain ⟨Sv107, hw⟩ := w_share (α := Span) hw 0 rfl 1 rfl
   refine st_callR hs (receiver_limited_ok h50 hw.dom (hw.envAt 1 rfl) (hw.envAt 0 rfl)) (do_call Try.call36 rfl) trivial rfl rfl ?_
   intro v111 Sv108 w a h109 h110 hs
   obtain ⟨p52, k53, p55, k56, rfl, h54, h57⟩ := h110
   have hw := hw.call h109
   have hw := hw.addE (e := SlA p52 rv51.1.Got.length k53 rv51.1.Got) h54
   have hw := hw.addE (e := SlA p55 rv51.1.Lost.length k56 rv51.1.Lost) h57
   refine h_nx (hw.cs [0] [] rfl rfl) fun hC => ?_
   refine gm hs 9 rfl rfl rfl hC fun a hs => ?_
   refine gv hs 10 rfl rfl hC (fun w hC => y_extract rfl rfl) fun a hs => ?_
   refine gv hs 11 rfl rfl hC (fun w hC => y_extract rfl rfl) fun a hs => ?_
   refine ho 12 rfl ?_
   refine w_store (m := 2) (cs' := [.slice p52 rv51.1.Got.length k53, .slice p55 rv51.1.Lost.length k56]) hs hw 1 rfl rfl rfl Try.sizeOf29 rfl rfl rfl rfl trivial ?_
   intro a w hs hw
   refine h_nx (hw.cs [0] [] rfl rfl) fun hC => ?_
   refine gv hs 13 rfl rfl hC (fun w hC => y_assign rfl) fun a hs => ?_
   refine h_done (by kernel_rfl) ?_
   have hw := hw.addE (e := SlA (α := Span) none 0 0 []) nil_sl
   exact ⟨Sv108, k53, k56, p52, p55, (hs.wk rfl), (hw.ft [1, 0] [2, 1, 0] (by decide) rfl rfl)⟩
  exact AllH.nil
 rintro a w ⟨Sv58, k53, k56, p52, p55, hs, hw⟩
 refine then_normal ?_
 refine sr ?_
 refine sv hs (y_loadBA (hw.ownAt 0 rfl) rfl Try.isAgg29 Try.sizeOf29 rfl rfl) rfl fun a hs => ?_
 refine mv hs rfl rfl fun a hs => ?_
 refine mv hs rfl rfl fun a hs => ?_
 refine wpl_join 3 (fun a w1 => w = w1 ∧ Sl 47 [(4, .pointer (some ⟨b10, 0, none⟩)), (9, .int .i64 rv51.2), (40, .agg #[.slice p52 rv51.1.Got.length k53, .slice p55 rv51.1.Lost.length k56]), (45, .bool ((!rv32) && (rv51.2 == 0)))] a) ?_ ?_
 ·rcases Bool.eq_false_or_eq_true (!rv32) with h113 | h113
  ·have hs := hs.fix 42 (.bool true) rfl (vb h113)
   refine st_val hs (y_move rfl) ⟨_, rfl, rfl⟩ rfl rfl fun a hs => ?_
   refine st_val hs (y_eql rfl rfl) ⟨_, rfl, rfl⟩ rfl rfl fun a hs => ?_
   refine sv hs (y_pickT rfl rfl) rfl fun a hs => ?_
   refine nl ?_
   exact ⟨rfl, (hs.fix 45 (.bool ((!rv32) && (rv51.2 == 0))) rfl (and_t h113)).weaken _ ⟨rfl, rfl, rfl, rfl, trivial⟩⟩
  have hs := hs.fix 42 (.bool false) rfl (vb h113)
  refine st_skip hs rfl rfl rfl rfl rfl fun a hs => ?_
  refine st_skip hs rfl rfl rfl rfl rfl fun a hs => ?_
  refine sv hs (y_pickF rfl rfl) rfl fun a hs => ?_
  refine nl ?_
  exact ⟨rfl, (hs.fix 45 (.bool ((!rv32) && (rv51.2 == 0))) rfl (and_f h113)).weaken _ ⟨rfl, rfl, rfl, rfl, trivial⟩⟩
 rintro a w1 ⟨h114, hs⟩
 subst h114
 refine mv hs rfl rfl fun a hs => ?_
 refine w_store (m := 2) (cs' := [.slice p52 rv51.1.Got.length k53, .slice p55 rv51.1.Lost.length k56]) hs hw 1 rfl rfl rfl Try.sizeOf29 rfl rfl rfl rfl trivial ?_
 intro a w hs hw
 refine av hs rfl rfl fun a hs => ?_
 refine av hs rfl rfl fun a hs => ?_
 refine nl ?_
 have hsh := oi hsh
 subst hsh
 refine wp_ret ?_
 exact ret3 hs rfl (rv_cell hw 1 rfl rfl Try.isAgg29 Try.sizeOf29 rfl) (rv_tmp rfl) (rv_tmp rfl) (hw.ret ⟨p52, k53, p55, k56, rfl, (hw.envAt 0 rfl), (hw.envAt 1 rfl)⟩)

abbrev receiver_High_rd (w0 : World) (X : List Nat) (r : Int) : (Nat → Prop) → World → Value → Prop := fun S w v => v = .int .i64 r
set_option maxHeartbeats 4000000 in
set_option maxRecDepth 100000 in
theorem receiver_High_ok {w0 : World} {S0 : Nat → Prop} {p2 : Option Addr} {k3 : Nat} {p4 : Option Addr} {k5 : Nat} {r1 : Receiver} {r : Int} (hsh : receiver_High r1 = some r) (hS : ∀ b, S0 b → b < w0.heap.size) (h6 : (SlA p2 r1.Got.length k3 r1.Got).p S0 w0) (h7 : (SlA p4 r1.Lost.length k5 r1.Lost).p S0 w0) : Calls Try.prog 18 #[.agg #[.slice p2 r1.Got.length k3, .slice p4 r1.Lost.length k5]] w0 (Ret ([]) w0 S0 (receiver_High_rd w0 ([]) r)) := by
 refine calls_of_wp Try.func18 rfl ?_
 have hs := Sl.enter #[.agg #[.slice p2 r1.Got.length k3, .slice p4 r1.Lost.length k5]] 33 [(0, .agg #[.slice p2 r1.Got.length k3, .slice p4 r1.Lost.length k5])] rfl ⟨rfl, trivial⟩
 have hw := Wd.enter (E := []) hS (fun _ h => (by cases h))
 have hw := hw.addE h6
 have hw := hw.addE h7
 delta receiver_High at hsh
 refine sr ?_
 refine w_box (cs := [.slice p2 r1.Got.length k3, .slice p4 r1.Lost.length k5]) hs hw rfl rfl rfl trivial ?_
 intro b8 a w hs hw
 refine av hs rfl rfl fun a hs => ?_
 refine nl ?_
 refine wp_seq ?_
 refine sr ?_
 refine sv hs (y_loadBA (hw.ownAt 0 rfl) rfl Try.isAgg29 Try.sizeOf29 rfl rfl) rfl fun a hs => ?_
 obtain ⟨rv10, h9, hsh⟩ := bind_t hsh
 refine st_callR hs (receiver_Valid_ok h9 hw.bdom (hw.bE 1 rfl) (hw.bE 0 rfl)) (do_call Try.call15 rfl) trivial rfl rfl ?_
 intro v14 Sv11 w a h12 h13 hs
 subst h13
 have hw := hw.callB h12
 refine sv hs (y_not rfl) rfl fun a hs => ?_
 refine nl ?_
 refine wp_cond_split (hs.ev rfl) (fun h17 => ?_) (fun h17 => ?_)
 ·have hsh := ite_t hsh h17
  refine sr ?_
  refine av hs rfl rfl fun a hs => ?_
  refine nl ?_
  have hsh := oi hsh
  subst hsh
  refine wp_ret ?_
  refine then_ret ?_
  exact ret1 hs rfl (rv_tmp rfl) (hw.ret rfl)
 have hsh := ite_f hsh h17
 refine wp_skip ?_
 refine then_normal ?_
 refine sr ?_
 refine av hs rfl rfl fun a hs => ?_
 refine nl ?_
 refine wp_seq ?_
 refine sr ?_
 refine sv hs (y_fieldAddr (o' := 0) Try.runUnderlying29 rfl Try.sizeOf27 rfl rfl rfl) rfl fun a hs => ?_
 refine sv hs (y_loadB1 (hw.ownAt 0 rfl) rfl Try.isAgg27 rfl) rfl fun a hs => ?_
 refine sv hs (y_fieldAddr (o' := 1) Try.runUnderlying29 rfl Try.sizeOf27 rfl rfl rfl) rfl fun a hs => ?_
 refine sv hs (y_loadB1 (hw.ownAt 0 rfl) rfl Try.isAgg27 rfl) rfl fun a hs => ?_
 refine w_litSlice (α := (List Span)) (vs := [.slice p2 r1.Got.length k3, .slice p4 r1.Lost.length k5]) (cs := [.slice p2 r1.Got.length k3, .slice p4 r1.Lost.length k5]) (xs := ([r1.Got, r1.Lost] : List (List Span))) hs hw El43 rfl rfl rfl rfl rfl rfl ⟨⟨_, rfl, ⟨_, _, _, rfl, hw.envAt 1 rfl⟩⟩, ⟨⟨_, rfl, ⟨_, _, _, rfl, hw.envAt 0 rfl⟩⟩, rfl⟩⟩ rfl trivial rfl fun b19 a w hs hw => ?_
 refine sv hs (y_len Try.runUnderlying43 rfl) rfl fun a hs => ?_
 refine mv hs rfl rfl fun a hs => ?_
 refine nl ?_
 obtain ⟨e122, h205, hsh⟩ := bind_t hsh
 refine wp_join (fun a w => ∃ (Sv123 : Nat → Prop), Sl 33 [(3, .int .i64 e122)] a ∧ Wd ⟨w0, S0, []⟩ Sv123 [] [] w) ?_ ?_
 ·refine wp_block ?_
  refine wp_while (fun sv20 a w => ∃ (Sv86 : Nat → Prop), Sl 33 [(3, .int .i64 sv20.1), (13, .slice (some ⟨b19, 0, none⟩) ([r1.Got, r1.Lost] : List (List Span)).length ([r1.Got, r1.Lost] : List (List Span)).length), (14, .int .i64 (([r1.Got, r1.Lost] : List (List Span)).length : Int)), (15, .int .i64 sv20.2)] a ∧ Wd ⟨w0, S0, []⟩ Sv86 [.row (some ⟨b19, 0, none⟩) ([r1.Got, r1.Lost] : List (List Span)).length ([r1.Got, r1.Lost] : List (List Span)).length [.slice p2 r1.Got.length k3, .slice p4 r1.Lost.length k5] 27 1] [RowA [.slice p2 r1.Got.length k3, .slice p4 r1.Lost.length k5] ([r1.Got, r1.Lost] : List (List Span))] w) (0, 0) h205 ⟨S0, (hs.wk rfl), (hw.ft [0] [0] (by decide) rfl rfl)⟩ ?_
  clear h205
  repeat clear hsh
  rintro sv20 a w tv120 ⟨Sv86, hs, hw⟩ hsh hd119
  delta receiver_High_l1 at hsh
  refine sr ?_
  refine sv hs (y_lss rfl rfl) rfl fun a hs => ?_
  refine nl ?_
  refine wp_seq ?_
  refine wp_cond_split (hs.ev rfl) (fun h125 => ?_) (fun h125 => ?_)
  ·have hsh := ite_t hsh h125
   refine wp_skip ?_
   refine then_normal ?_
   refine wp_seq ?_
   refine wp_block ?_
   refine sr ?_
   obtain ⟨x159, h157, hsh⟩ := bind_t hsh
   obtain ⟨q163, c164, h160, h161, h165, h158⟩ := hw.elemRK (α := (List Span)) 0 rfl 0 rfl h157
   obtain ⟨_, rfl, ⟨p166, n167, k168, rfl, h169⟩⟩ := h158
   obtain rfl := h169.1
   have hw := hw.addE (e := SlA p166 _ k168 x159) h169
   refine sv hs (y_indexAt Try.runUnderlying43 Try.sizeOf27 rfl rfl h160.1 h160.2 h161) rfl fun a hs => ?_
   refine sv hs (y_loadQ1 (j := 0) (hw.ownAt 0 rfl) rfl Try.isAgg27 h165 rfl) rfl fun a hs => ?_
   refine av hs rfl rfl fun a hs => ?_
   refine nl ?_
   refine sr ?_
   refine mv hs rfl rfl fun a hs => ?_
   refine sv hs (y_len Try.runUnderlying27 rfl) rfl fun a hs => ?_
   refine sv hs (y_gtr rfl rfl) rfl fun a hs => ?_
   refine nl ?_
   refine wp_join (fun a w => ∃ (high187 : Int) (Sv186 : Nat → Prop), receiver_High_j1 sv20 high187 = some tv120 ∧ Sl 33 [(3, .int .i64 high187), (13, .slice (some ⟨b19, 0, none⟩) ([r1.Got, r1.Lost] : List (List Span)).length ([r1.Got, r1.Lost] : List (List Span)).length), (14, .int .i64 (([r1.Got, r1.Lost] : List (List Span)).length : Int)), (15, .int .i64 sv20.2)] a ∧ Wd ⟨w0, S0, []⟩ Sv186 [.row (some ⟨b19, 0, none⟩) ([r1.Got, r1.Lost] : List (List Span)).length ([r1.Got, r1.Lost] : List (List Span)).length [.slice p2 r1.Got.length k3, .slice p4 r1.Lost.length k5] 27 1] [RowA [.slice p2 r1.Got.length k3, .slice p4 r1.Lost.length k5] ([r1.Got, r1.Lost] : List (List Span))] w) ?_ ?_
   ·refine wp_cond_split (hs.ev rfl) (fun h188 => ?_) (fun h188 => ?_)
    ·have hsh := ite_t hsh h188
     refine wp_region_lit ?_
     refine mv hs rfl rfl fun a hs => ?_
     refine mv hs rfl rfl fun a hs => ?_
     refine mv hs rfl rfl fun a hs => ?_
     refine sv hs (y_len Try.runUnderlying27 rfl) rfl fun a hs => ?_
     refine sv hs (y_sub rfl rfl) rfl fun a hs => ?_
     obtain ⟨x191, h189, hsh⟩ := bind_t hsh
     obtain ⟨b197, o198, q195, c196, h199, h192, h193, h194, h190⟩ := hw.elemV 0 rfl h189
     have hsv200 := hs
     have hwv201 := hw
     subst h199
     have hs := hsv200
     have hw := hwv201
     obtain ⟨_, _, rfl, rfl, rfl⟩ := h190
     have hw := hw.addE h194
     refine sv hs (y_indexAt Try.runUnderlying27 Try.sizeOf46 rfl rfl h192.1 h192.2 h193) rfl fun a hs => ?_
     refine sv hs (y_fieldAddr (o' := q195 + 1) Try.runUnderlying46 rfl Try.sizeOf3 rfl rfl rfl) rfl fun a hs => ?_
     refine sv hs (y_loadE1 (j := 1) (hw.ceAt 0 rfl) rfl Try.isAgg3 rfl) rfl fun a hs => ?_
     refine sv hs (y_max rfl rfl) rfl fun a hs => ?_
     obtain ⟨high203, h202, hsh⟩ := bind_t hsh
     refine sv hs (y_assignI rfl h202) rfl fun a hs => ?_
     refine nl ?_
     exact ⟨high203, Sv86, hsh, (hs.wk rfl), (hw.ft [0] [2] (by decide) rfl rfl)⟩
    have hsh := ite_f hsh h188
    refine wp_skip ?_
    refine then_normal ?_
    exact ⟨sv20.1, Sv86, hsh, (hs.wk rfl), (hw.ft [0] [1] (by decide) rfl rfl)⟩
   rintro a w ⟨high187, Sv186, hsh, hs, hw⟩
   delta receiver_High_j1 at hsh
   refine blk_normal ?_
   refine then_normal ?_
   refine wp_region_lit ?_
   refine sv hs (y_add rfl rfl) rfl fun a hs => ?_
   refine mv hs rfl rfl fun a hs => ?_
   refine nl ?_
   exact ⟨_, (Option.some.inj hsh).symm, Sv186, (hs.wk rfl), (hw.ft [0] [0] (by decide) rfl rfl)⟩
  have hsh := ite_f hsh h125
  refine wp_exit ?_
  refine then_exit ?_
  refine then_exit ?_
  refine blk_exit ?_
  have hsh := oi hsh
  subst hsh
  have h204 := hd119 _ rfl
  subst h204
  refine then_normal ?_
  exact ⟨Sv86, (hs.wk rfl), (hw.ft [] [] (by decide) rfl rfl)⟩
 rintro a w ⟨Sv123, hs, hw⟩
 refine then_normal ?_
 refine sr ?_
 refine mv hs rfl rfl fun a hs => ?_
 refine av hs rfl rfl fun a hs => ?_
 refine nl ?_
 have hsh := oi hsh
 subst hsh
 refine wp_ret ?_
 exact ret1 hs rfl (rv_tmp rfl) (hw.ret rfl)

abbrev receiver_known_rd (w0 : World) (X : List Nat) (r : (List Span)) : (Nat → Prop) → World → Value → Prop := fun S w v => ∃ (p0_0 : Option Addr) (k0_0 : Nat) (c0_0 : List Value), v = .slice p0_0 r.length k0_0 ∧ Outs X w0 S w [.row p0_0 r.length k0_0 c0_0 46 2] ∧ (RowA c0_0 r).p S w
set_option maxHeartbeats 4000000 in
set_option maxRecDepth 100000 in
theorem receiver_known_ok {w0 : World} {S0 : Nat → Prop} {p2 : Option Addr} {k3 : Nat} {p4 : Option Addr} {k5 : Nat} {r1 : Receiver} {r : (List Span)} (hsh : receiver_known r1 = some r) (hS : ∀ b, S0 b → b < w0.heap.size) (h6 : (SlA p2 r1.Got.length k3 r1.Got).p S0 w0) (h7 : (SlA p4 r1.Lost.length k5 r1.Lost).p S0 w0) : Calls Try.prog 42 #[.agg #[.slice p2 r1.Got.length k3, .slice p4 r1.Lost.length k5]] w0 (Ret ([]) w0 S0 (receiver_known_rd w0 ([]) r)) := by
 refine calls_of_wp Try.func42 rfl ?_
 have hs := Sl.enter #[.agg #[.slice p2 r1.Got.length k3, .slice p4 r1.Lost.length k5]] 8 [(0, .agg #[.slice p2 r1.Got.length k3, .slice p4 r1.Lost.length k5])] rfl ⟨rfl, trivial⟩
 have hw := Wd.enter (E := []) hS (fun _ h => (by cases h))
 have hw := hw.addE h6
 have hw := hw.addE h7
 delta receiver_known at hsh
 refine sr ?_
 refine w_box (cs := [.slice p2 r1.Got.length k3, .slice p4 r1.Lost.length k5]) hs hw rfl rfl rfl trivial ?_
 intro b8 a w hs hw
 refine av hs rfl rfl fun a hs => ?_
 refine nl ?_
 refine sr ?_
 refine sv hs (y_fieldAddr (o' := 0) Try.runUnderlying29 rfl Try.sizeOf27 rfl rfl rfl) rfl fun a hs => ?_
 refine sv hs (y_loadB1 (hw.ownAt 0 rfl) rfl Try.isAgg27 rfl) rfl fun a hs => ?_
 refine sv hs (y_fieldAddr (o' := 1) Try.runUnderlying29 rfl Try.sizeOf27 rfl rfl rfl) rfl fun a hs => ?_
 refine sv hs (y_loadB1 (hw.ownAt 0 rfl) rfl Try.isAgg27 rfl) rfl fun a hs => ?_
 obtain ⟨rv10, h9, hsh⟩ := bind_t hsh
 refine st_callR hs (span_Union_ok h9 hw.dom (hw.envAt 1 rfl) (hw.envAt 0 rfl)) (do_call Try.call38 rfl) trivial rfl rfl ?_
 intro v18 Sv15 w a h16 h17 hs
 obtain ⟨p11, k12, c14, rfl, h19, h13⟩ := h17
 have hw := hw.callN h16 h19
 have hw := hw.addE (e := RowA c14 rv10) h13
 refine av hs rfl rfl fun a hs => ?_
 refine nl ?_
 have hsh := oi hsh
 subst hsh
 refine wp_ret ?_
 exact ret1 hs rfl (rv_tmp rfl) (hw.ret ⟨p11, k12, c14, rfl, (hw.outs [0] (by decide) rfl), (hw.envAt 0 rfl)⟩)

abbrev receiver_Missing_rd (w0 : World) (X : List Nat) (r : ((List Span) × Int)) : (Nat → Prop) → World → Value → Prop := fun S w v => ∃ (p0_0 : Option Addr) (k0_0 : Nat) (c0_0 : List Value), v = .tuple #[.slice p0_0 r.1.length k0_0, .int .i64 r.2] ∧ Outs X w0 S w [.row p0_0 r.1.length k0_0 c0_0 46 2] ∧ (RowA c0_0 r.1).p S w
set_option maxHeartbeats 4000000 in
set_option maxRecDepth 100000 in
theorem receiver_Missing_ok {w0 : World} {S0 : Nat → Prop} {p2 : Option Addr} {k3 : Nat} {p4 : Option Addr} {k5 : Nat} {r1 : Receiver} {next8 : Int} {r : ((List Span) × Int)} (hsh : receiver_Missing r1 next8 = some r) (hS : ∀ b, S0 b → b < w0.heap.size) (h6 : (SlA p2 r1.Got.length k3 r1.Got).p S0 w0) (h7 : (SlA p4 r1.Lost.length k5 r1.Lost).p S0 w0) : Calls Try.prog 17 #[.agg #[.slice p2 r1.Got.length k3, .slice p4 r1.Lost.length k5], .int .i64 next8] w0 (Ret ([]) w0 S0 (receiver_Missing_rd w0 ([]) r)) := by
 refine calls_of_wp Try.func17 rfl ?_
 have hs := Sl.enter #[.agg #[.slice p2 r1.Got.length k3, .slice p4 r1.Lost.length k5], .int .i64 next8] 21 [(0, .agg #[.slice p2 r1.Got.length k3, .slice p4 r1.Lost.length k5]), (1, .int .i64 next8)] rfl ⟨rfl, rfl, trivial⟩
 have hw := Wd.enter (E := []) hS (fun _ h => (by cases h))
 have hw := hw.addE h6
 have hw := hw.addE h7
 delta receiver_Missing at hsh
 refine sr ?_
 refine w_box (cs := [.slice p2 r1.Got.length k3, .slice p4 r1.Lost.length k5]) hs hw rfl rfl rfl trivial ?_
 intro b9 a w hs hw
 refine av hs rfl rfl fun a hs => ?_
 refine av hs rfl rfl fun a hs => ?_
 refine nl ?_
 refine wp_seq ?_
 refine sr ?_
 refine sv hs (y_loadBA (hw.ownAt 0 rfl) rfl Try.isAgg29 Try.sizeOf29 rfl rfl) rfl fun a hs => ?_
 obtain ⟨rv11, h10, hsh⟩ := bind_t hsh
 refine st_callR hs (receiver_Valid_ok h10 hw.bdom (hw.bE 1 rfl) (hw.bE 0 rfl)) (do_call Try.call15 rfl) trivial rfl rfl ?_
 intro v15 Sv12 w a h13 h14 hs
 subst h14
 have hw := hw.callB h13
 refine sv hs (y_not rfl) rfl fun a hs => ?_
 refine nl ?_
 refine wp_cond_split (hs.ev rfl) (fun h18 => ?_) (fun h18 => ?_)
 ·have hsh := ite_t hsh h18
  refine sr ?_
  refine av hs rfl rfl fun a hs => ?_
  refine av hs rfl rfl fun a hs => ?_
  refine nl ?_
  have hsh := oi hsh
  subst hsh
  have hw := hw.nilRow Span 46
  refine wp_ret ?_
  refine then_ret ?_
  exact ret2 hs rfl (rv_tmp rfl) (rv_tmp rfl) (hw.ret ⟨none, 0, [], rfl, (hw.outs [0] (by decide) rfl), (hw.envAt 0 rfl)⟩)
 have hsh := ite_f hsh h18
 refine wp_skip ?_
 refine then_normal ?_
 refine wp_seq ?_
 refine sr ?_
 refine mv hs rfl rfl fun a hs => ?_
 obtain ⟨rv20, h19, hsh⟩ := bind_t hsh
 refine st_callR hs (receiver_in_ok h19 hw.bdom) (do_call Try.call34 rfl) trivial rfl rfl ?_
 intro v24 Sv21 w a h22 h23 hs
 subst h23
 have hw := hw.callB h22
 refine sv hs (y_not rfl) rfl fun a hs => ?_
 refine nl ?_
 refine wp_cond_split (hs.ev rfl) (fun h27 => ?_) (fun h27 => ?_)
 ·have hsh := ite_t hsh h27
  refine sr ?_
  refine av hs rfl rfl fun a hs => ?_
  refine av hs rfl rfl fun a hs => ?_
  refine nl ?_
  have hsh := oi hsh
  subst hsh
  have hw := hw.nilRow Span 46
  refine wp_ret ?_
  refine then_ret ?_
  exact ret2 hs rfl (rv_tmp rfl) (rv_tmp rfl) (hw.ret ⟨none, 0, [], rfl, (hw.outs [0] (by decide) rfl), (hw.envAt 0 rfl)⟩)
 have hsh := ite_f hsh h27
 refine wp_skip ?_
 refine then_normal ?_
 refine wp_seq ?_
 obtain ⟨rv29, h28, hsh⟩ := bind_t hsh
 obtain ⟨rv33, h32, hsh⟩ := bind_t hsh
 obtain ⟨rv39, h38, hsh⟩ := bind_t hsh
 refine wp_only (fun a w => ∃ (Sv44 : Nat → Prop) (c43 : List Value) (k41 : Nat) (p40 : Option Addr), Sl 21 [(4, .slice p40 rv39.length k41), (5, .int .i64 0)] a ∧ Wd ⟨w0, S0, []⟩ Sv44 [.row p40 rv39.length k41 c43 46 2] [RowA c43 rv39] w) ?_ ?_
 ·refine h_b (C := Cls [.box b9 [.slice p2 r1.Got.length k3, .slice p4 r1.Lost.length k5] 29] []) (by kernel_rfl) rfl (hw.drew.cs [0] [] rfl rfl) fun hC => ?_
  have hw := hw.drew
  refine gm hs 0 rfl rfl rfl hC fun a hs => ?_
  refine gv hs 1 rfl rfl hC (fun w hC => y_loadBA (hC.ownAt 0 rfl) rfl Try.isAgg29 Try.sizeOf29 rfl rfl) fun a hs => ?_
  refine gv hs 6 rfl rfl hC (fun w hC => y_loadBA (hC.ownAt 0 rfl) rfl Try.isAgg29 Try.sizeOf29 rfl rfl) fun a hs => ?_
  refine ho 2 rfl ?_
  refine st_callR hs (receiver_High_ok h28 hw.bdom (hw.bE 1 rfl) (hw.bE 0 rfl)) (do_call Try.call18 rfl) trivial rfl rfl ?_
  intro v48 Sv45 w a h46 h47 hs
  subst h47
  have hw := hw.callB h46
  refine h_nx (hw.cs [0] [] rfl rfl) fun hC => ?_
  refine gv hs 3 rfl rfl hC (fun w hC => y_max rfl rfl) fun a hs => ?_
  refine gv hs 4 rfl rfl hC (fun w hC => y_build (vs := [(1, .int .i64 (max next8 rv29))]) Bld46 rfl rfl) fun a hs => ?_
  refine h_all (rs := [5, 7]) (by kernel_rfl) rfl ?_
  refine AllH.cons rfl ?_ ?_
  ·refine w_litSlice (α := Span) (vs := [.agg #[.int .i64 0, .int .i64 (max next8 rv29)]]) (cs := [.int .i64 0, .int .i64 (max next8 rv29)]) (xs := ([(⟨0, (max next8 rv29)⟩ : Span)] : List Span)) hs hw El27 rfl rfl rfl rfl rfl rfl ⟨⟨_, _, rfl, rfl, rfl⟩, rfl⟩ rfl trivial rfl fun b31 a w hs hw => ?_
   refine h_nx (hw.cs [1] [] rfl rfl) fun hC => ?_
   refine ho 7 rfl ?_
   refine st_callR hs (receiver_known_ok h32 hw.dom (hw.envAt 2 rfl) (hw.envAt 1 rfl)) (do_call Try.call42 rfl) trivial rfl rfl ?_
   intro v53 Sv50 w a h51 h52 hs
   obtain ⟨p34, k35, c37, rfl, h54, h36⟩ := h52
   have hw := hw.callN h51 h54
   have hw := hw.addE (e := RowA c37 rv33) h36
   refine h_nx (hw.cs [2] [] rfl rfl) fun hC => ?_
   refine ho 8 rfl ?_
   obtain ⟨Sv55, hw⟩ := w_share (α := Span) hw 1 rfl 1 rfl
   obtain ⟨Sv56, hw⟩ := w_share (α := Span) hw 0 rfl 1 rfl
   refine st_callR hs (span_Minus_ok h38 hw.dom (hw.envAt 1 rfl) (hw.envAt 0 rfl)) (do_call Try.call35 rfl) trivial rfl rfl ?_
   intro v60 Sv57 w a h58 h59 hs
   obtain ⟨p40, k41, c43, rfl, h61, h42⟩ := h59
   have hw := hw.callN h58 h61
   have hw := hw.addE (e := RowA c43 rv39) h42
   refine h_nx (hw.cs [1] [] rfl rfl) fun hC => ?_
   refine h_st (C' := Cls [.box b9 [.slice p2 r1.Got.length k3, .slice p4 r1.Lost.length k5] 29, .row p40 rv39.length k41 c43 46 2] []) (fun _ h => by exact h.sub [0] (Sel.of rfl) (AllIn.of [] rfl)) (hw.cs [1, 0] [] rfl rfl) fun hC => ?_
   refine gv hs 9 rfl rfl hC (fun w hC => y_assign rfl) fun a hs => ?_
   refine gv hs 10 rfl rfl hC (fun w hC => y_assign rfl) fun a hs => ?_
   refine h_done (by kernel_rfl) ?_
   exact ⟨Sv57, c43, k41, p40, (hs.wk rfl), (hw.ft [0] [0] (by decide) rfl rfl)⟩
  refine AllH.cons rfl ?_ ?_
  ·refine st_callR hs (receiver_known_ok h32 hw.dom (hw.envAt 1 rfl) (hw.envAt 0 rfl)) (do_call Try.call42 rfl) trivial rfl rfl ?_
   intro v65 Sv62 w a h63 h64 hs
   obtain ⟨p34, k35, c37, rfl, h66, h36⟩ := h64
   have hw := hw.callN h63 h66
   have hw := hw.addE (e := RowA c37 rv33) h36
   refine h_nx (hw.cs [1] [] rfl rfl) fun hC => ?_
   refine ho 5 rfl ?_
   refine w_litSlice (α := Span) (vs := [.agg #[.int .i64 0, .int .i64 (max next8 rv29)]]) (cs := [.int .i64 0, .int .i64 (max next8 rv29)]) (xs := ([(⟨0, (max next8 rv29)⟩ : Span)] : List Span)) hs hw El27 rfl rfl rfl rfl rfl rfl ⟨⟨_, _, rfl, rfl, rfl⟩, rfl⟩ rfl trivial rfl fun b31 a w hs hw => ?_
   refine h_nx (hw.cs [2] [] rfl rfl) fun hC => ?_
   refine ho 8 rfl ?_
   obtain ⟨Sv67, hw⟩ := w_share (α := Span) hw 0 rfl 0 rfl
   obtain ⟨Sv68, hw⟩ := w_share (α := Span) hw 0 rfl 2 rfl
   refine st_callR hs (span_Minus_ok h38 hw.dom (hw.envAt 1 rfl) (hw.envAt 0 rfl)) (do_call Try.call35 rfl) trivial rfl rfl ?_
   intro v72 Sv69 w a h70 h71 hs
   obtain ⟨p40, k41, c43, rfl, h73, h42⟩ := h71
   have hw := hw.callN h70 h73
   have hw := hw.addE (e := RowA c43 rv39) h42
   refine h_nx (hw.cs [1] [] rfl rfl) fun hC => ?_
   refine h_st (C' := Cls [.box b9 [.slice p2 r1.Got.length k3, .slice p4 r1.Lost.length k5] 29, .row p40 rv39.length k41 c43 46 2] []) (fun _ h => by exact h.sub [0] (Sel.of rfl) (AllIn.of [] rfl)) (hw.cs [1, 0] [] rfl rfl) fun hC => ?_
   refine gv hs 9 rfl rfl hC (fun w hC => y_assign rfl) fun a hs => ?_
   refine gv hs 10 rfl rfl hC (fun w hC => y_assign rfl) fun a hs => ?_
   refine h_done (by kernel_rfl) ?_
   exact ⟨Sv69, c43, k41, p40, (hs.wk rfl), (hw.ft [0] [0] (by decide) rfl rfl)⟩
  exact AllH.nil
 rintro a w ⟨Sv44, c43, k41, p40, hs, hw⟩
 refine then_normal ?_
 have hsh := oi hsh
 subst hsh
 refine wp_ret ?_
 exact ret2 hs rfl (rv_tmp rfl) (rv_tmp rfl) (hw.ret ⟨p40, k41, c43, rfl, (hw.outs [0] (by decide) rfl), (hw.envAt 0 rfl)⟩)

abbrev receiver_Lose_rd (w0 : World) (X : List Nat) (r : (Receiver × Int)) : (Nat → Prop) → World → Value → Prop := fun S w v => ∃ (p0_0 : Option Addr) (k0_0 : Nat) (p0_1 : Option Addr) (k0_1 : Nat), v = .tuple #[.agg #[.slice p0_0 r.1.Got.length k0_0, .slice p0_1 r.1.Lost.length k0_1], .int .i64 r.2] ∧ (SlA p0_0 r.1.Got.length k0_0 r.1.Got).p S w ∧ (SlA p0_1 r.1.Lost.length k0_1 r.1.Lost).p S w
set_option maxHeartbeats 4000000 in
set_option maxRecDepth 100000 in
theorem receiver_Lose_ok {w0 : World} {S0 : Nat → Prop} {p2 : Option Addr} {k3 : Nat} {p4 : Option Addr} {k5 : Nat} {r1 : Receiver} {below8 : Int} {r : (Receiver × Int)} (hsh : receiver_Lose r1 below8 = some r) (hS : ∀ b, S0 b → b < w0.heap.size) (h6 : (SlA p2 r1.Got.length k3 r1.Got).p S0 w0) (h7 : (SlA p4 r1.Lost.length k5 r1.Lost).p S0 w0) : Calls Try.prog 12 #[.agg #[.slice p2 r1.Got.length k3, .slice p4 r1.Lost.length k5], .int .i64 below8] w0 (Ret ([]) w0 S0 (receiver_Lose_rd w0 ([]) r)) := by
 refine calls_of_wp Try.func12 rfl ?_
 have hs := Sl.enter #[.agg #[.slice p2 r1.Got.length k3, .slice p4 r1.Lost.length k5], .int .i64 below8] 31 [(0, .agg #[.slice p2 r1.Got.length k3, .slice p4 r1.Lost.length k5]), (1, .int .i64 below8)] rfl ⟨rfl, rfl, trivial⟩
 have hw := Wd.enter (E := []) hS (fun _ h => (by cases h))
 have hw := hw.addE h6
 have hw := hw.addE h7
 delta receiver_Lose at hsh
 refine sr ?_
 refine w_box (cs := [.slice p2 r1.Got.length k3, .slice p4 r1.Lost.length k5]) hs hw rfl rfl rfl trivial ?_
 intro b9 a w hs hw
 refine w_alloc (cs := [.slice none ([] : List Span).length 0, .slice none ([] : List Span).length 0]) hs hw Try.zeroValue29 rfl rfl trivial ?_
 intro b10 a w hs hw
 refine av hs rfl rfl fun a hs => ?_
 refine nl ?_
 refine wp_seq ?_
 refine sr ?_
 refine sv hs (y_loadBA (hw.ownAt 1 rfl) rfl Try.isAgg29 Try.sizeOf29 rfl rfl) rfl fun a hs => ?_
 obtain ⟨rv12, h11, hsh⟩ := bind_t hsh
 refine st_callR hs (receiver_Valid_ok h11 hw.bdom (hw.bE 1 rfl) (hw.bE 0 rfl)) (do_call Try.call15 rfl) trivial rfl rfl ?_
 intro v16 Sv13 w a h14 h15 hs
 subst h15
 have hw := hw.callB h14
 refine sv hs (y_not rfl) rfl fun a hs => ?_
 refine nl ?_
 refine wp_cond_split (hs.ev rfl) (fun h19 => ?_) (fun h19 => ?_)
 ·have hsh := ite_t hsh h19
  refine sr ?_
  refine sv hs (y_build (vs := []) Bld29 rfl rfl) rfl fun a hs => ?_
  refine w_store (m := 2) (cs' := [.slice none ([] : List Span).length 0, .slice none ([] : List Span).length 0]) hs hw 0 rfl rfl rfl Try.sizeOf29 rfl rfl rfl rfl trivial ?_
  intro a w hs hw
  refine av hs rfl rfl fun a hs => ?_
  refine nl ?_
  have hsh := oi hsh
  subst hsh
  have hw := hw.addE (e := SlA (α := Span) none 0 0 []) nil_sl
  refine wp_ret ?_
  refine then_ret ?_
  exact ret2 hs rfl (rv_cell hw 0 rfl rfl Try.isAgg29 Try.sizeOf29 rfl) (rv_tmp rfl) (hw.ret ⟨none, 0, none, 0, rfl, (hw.envAt 0 rfl), (hw.envAt 0 rfl)⟩)
 have hsh := ite_f hsh h19
 refine wp_skip ?_
 refine then_normal ?_
 refine wp_seq ?_
 refine sr ?_
 refine mv hs rfl rfl fun a hs => ?_
 obtain ⟨rv21, h20, hsh⟩ := bind_t hsh
 refine st_callR hs (receiver_in_ok h20 hw.bdom) (do_call Try.call34 rfl) trivial rfl rfl ?_
 intro v25 Sv22 w a h23 h24 hs
 subst h24
 have hw := hw.callB h23
 refine sv hs (y_not rfl) rfl fun a hs => ?_
 refine nl ?_
 refine wp_cond_split (hs.ev rfl) (fun h28 => ?_) (fun h28 => ?_)
 ·have hsh := ite_t hsh h28
  refine sr ?_
  refine sv hs (y_build (vs := []) Bld29 rfl rfl) rfl fun a hs => ?_
  refine w_store (m := 2) (cs' := [.slice none ([] : List Span).length 0, .slice none ([] : List Span).length 0]) hs hw 0 rfl rfl rfl Try.sizeOf29 rfl rfl rfl rfl trivial ?_
  intro a w hs hw
  refine av hs rfl rfl fun a hs => ?_
  refine nl ?_
  have hsh := oi hsh
  subst hsh
  have hw := hw.addE (e := SlA (α := Span) none 0 0 []) nil_sl
  refine wp_ret ?_
  refine then_ret ?_
  exact ret2 hs rfl (rv_cell hw 0 rfl rfl Try.isAgg29 Try.sizeOf29 rfl) (rv_tmp rfl) (hw.ret ⟨none, 0, none, 0, rfl, (hw.envAt 0 rfl), (hw.envAt 0 rfl)⟩)
 have hsh := ite_f hsh h28
 refine wp_skip ?_
 refine then_normal ?_
 refine sr ?_
 refine mv hs rfl rfl fun a hs => ?_
 refine sv hs (y_build (vs := [(1, .int .i64 below8)]) Bld46 rfl rfl) rfl fun a hs => ?_
 refine w_litSlice (α := Span) (vs := [.agg #[.int .i64 0, .int .i64 below8]]) (cs := [.int .i64 0, .int .i64 below8]) (xs := ([(⟨0, below8⟩ : Span)] : List Span)) hs hw El27 rfl rfl rfl rfl rfl rfl ⟨⟨_, _, rfl, rfl, rfl⟩, rfl⟩ rfl trivial rfl fun b30 a w hs hw => ?_
 refine sv hs (y_fieldAddr (o' := 0) Try.runUnderlying29 rfl Try.sizeOf27 rfl rfl rfl) rfl fun a hs => ?_
 refine sv hs (y_loadB1 (hw.ownAt 2 rfl) rfl Try.isAgg27 rfl) rfl fun a hs => ?_
 obtain ⟨rv32, h31, hsh⟩ := bind_t hsh
 obtain ⟨Sv37, hw⟩ := w_share (α := Span) hw 0 rfl 0 rfl
 refine st_callR hs (span_Minus_ok h31 hw.dom (hw.envAt 0 rfl) (hw.envAt 3 rfl)) (do_call Try.call35 rfl) trivial rfl rfl ?_
 intro v41 Sv38 w a h39 h40 hs
 obtain ⟨p33, k34, c36, rfl, h42, h35⟩ := h40
 have hw := hw.callN h39 h42
 have hw := hw.addE (e := RowA c36 rv32) h35
 refine av hs rfl rfl fun a hs => ?_
 refine nl ?_
 refine wp_seq ?_
 obtain ⟨rv44, h43, hsh⟩ := bind_t hsh
 obtain ⟨rv50, h49, hsh⟩ := bind_t hsh
 obtain ⟨rv56, h55, hsh⟩ := bind_t hsh
 refine wp_only (fun a w => ∃ (Sv63 : Nat → Prop) (k58 : Nat) (k61 : Nat) (p57 : Option Addr) (p60 : Option Addr), Sl 31 [(4, .pointer (some ⟨b10, 0, none⟩)), (5, .int .i64 rv56.2)] a ∧ Wd ⟨w0, S0, []⟩ Sv63 [.box b10 [.slice p57 rv56.1.Got.length k58, .slice p60 rv56.1.Lost.length k61] 29] [SlA p57 rv56.1.Got.length k58 rv56.1.Got, SlA p60 rv56.1.Lost.length k61 rv56.1.Lost] w) ?_ ?_
 ·refine h_b (C := Cls [.box b9 [.slice p2 r1.Got.length k3, .slice p4 r1.Lost.length k5] 29] []) (by kernel_rfl) rfl (hw.drew.cs [2] [] rfl rfl) fun hC => ?_
  have hw := hw.drew
  refine gv hs 0 rfl rfl hC (fun w hC => y_fieldAddr (o' := 0) Try.runUnderlying29 rfl Try.sizeOf27 rfl rfl rfl) fun a hs => ?_
  refine gv hs 1 rfl rfl hC (fun w hC => y_loadB1 (hC.ownAt 0 rfl) rfl Try.isAgg27 rfl) fun a hs => ?_
  refine gv hs 3 rfl rfl hC (fun w hC => y_fieldAddr (o' := 1) Try.runUnderlying29 rfl Try.sizeOf27 rfl rfl rfl) fun a hs => ?_
  refine gv hs 4 rfl rfl hC (fun w hC => y_loadB1 (hC.ownAt 0 rfl) rfl Try.isAgg27 rfl) fun a hs => ?_
  refine gm hs 5 rfl rfl rfl hC fun a hs => ?_
  refine ho 2 rfl ?_
  refine st_callR hs (slices_Clone_Lapi_Span_api_Span_ok h43 hw.dom (hw.envAt 4 rfl)) (do_call Try.call37 rfl) trivial rfl rfl ?_
  intro v67 Sv64 w a h65 h66 hs
  obtain ⟨p45, k46, c48, rfl, h68, h47⟩ := h66
  have hw := hw.callN h65 h68
  have hw := hw.addE (e := RowA c48 rv44) h47
  refine h_nx (hw.cs [3] [] rfl rfl) fun hC => ?_
  refine ho 6 rfl ?_
  obtain ⟨Sv69, hw⟩ := w_share (α := Span) hw 1 rfl 1 rfl
  refine st_callR hs (span_Union_ok h49 hw.dom (hw.envAt 5 rfl) (hw.envAt 0 rfl)) (do_call Try.call38 rfl) trivial rfl rfl ?_
  intro v73 Sv70 w a h71 h72 hs
  obtain ⟨p51, k52, c54, rfl, h74, h53⟩ := h72
  have hw := hw.callN h71 h74
  have hw := hw.addE (e := RowA c54 rv50) h53
  refine h_nx (hw.cs [3] [] rfl rfl) fun hC => ?_
  refine ho 7 rfl ?_
  obtain ⟨Sv75, hw⟩ := w_share (α := Span) hw 1 rfl 2 rfl
  obtain ⟨Sv76, hw⟩ := w_share (α := Span) hw 0 rfl 1 rfl
  refine st_callR hs (receiver_limited_ok h55 hw.dom (hw.envAt 1 rfl) (hw.envAt 0 rfl)) (do_call Try.call36 rfl) trivial rfl rfl ?_
  intro v80 Sv77 w a h78 h79 hs
  obtain ⟨p57, k58, p60, k61, rfl, h59, h62⟩ := h79
  have hw := hw.call h78
  have hw := hw.addE (e := SlA p57 rv56.1.Got.length k58 rv56.1.Got) h59
  have hw := hw.addE (e := SlA p60 rv56.1.Lost.length k61 rv56.1.Lost) h62
  refine h_nx (hw.cs [1] [] rfl rfl) fun hC => ?_
  refine gv hs 8 rfl rfl hC (fun w hC => y_extract rfl rfl) fun a hs => ?_
  refine gv hs 9 rfl rfl hC (fun w hC => y_extract rfl rfl) fun a hs => ?_
  refine ho 10 rfl ?_
  refine w_store (m := 2) (cs' := [.slice p57 rv56.1.Got.length k58, .slice p60 rv56.1.Lost.length k61]) hs hw 0 rfl rfl rfl Try.sizeOf29 rfl rfl rfl rfl trivial ?_
  intro a w hs hw
  refine h_nx (hw.cs [1] [] rfl rfl) fun hC => ?_
  refine gv hs 11 rfl rfl hC (fun w hC => y_assign rfl) fun a hs => ?_
  refine h_done (by kernel_rfl) ?_
  exact ⟨Sv77, k58, k61, p57, p60, (hs.wk rfl), (hw.ft [0] [1, 0] (by decide) rfl rfl)⟩
 rintro a w ⟨Sv63, k58, k61, p57, p60, hs, hw⟩
 refine then_normal ?_
 have hsh := oi hsh
 subst hsh
 refine wp_ret ?_
 exact ret2 hs rfl (rv_cell hw 0 rfl rfl Try.isAgg29 Try.sizeOf29 rfl) (rv_tmp rfl) (hw.ret ⟨p57, k58, p60, k61, rfl, (hw.envAt 0 rfl), (hw.envAt 1 rfl)⟩)

abbrev ref08_Same_rd (w0 : World) (X : List Nat) (r : Bool) : (Nat → Prop) → World → Value → Prop := fun S w v => v = .bool r
set_option maxHeartbeats 4000000 in
set_option maxRecDepth 100000 in
theorem ref08_Same_ok {w0 : World} {S0 : Nat → Prop} {p2 : Option Addr} {k3 : Nat} {p6 : Option Addr} {k7 : Nat} {a1 : (List Span)} {b5 : (List Span)} {r : Bool} (hsh : ref08_Same a1 b5 = some r) (hS : ∀ b, S0 b → b < w0.heap.size) (h4 : (SlA p2 a1.length k3 a1).p S0 w0) (h8 : (SlA p6 b5.length k7 b5).p S0 w0) : Calls Try.prog 24 #[.slice p2 a1.length k3, .slice p6 b5.length k7] w0 (Ret ([]) w0 S0 (ref08_Same_rd w0 ([]) r)) := by
 refine calls_of_wp Try.func24 rfl ?_
 have hs := Sl.enter #[.slice p2 a1.length k3, .slice p6 b5.length k7] 26 [(0, .slice p2 a1.length k3), (1, .slice p6 b5.length k7)] rfl ⟨rfl, rfl, trivial⟩
 have hw := Wd.enter (E := []) hS (fun _ h => (by cases h))
 have hw := hw.addE h4
 have hw := hw.addE h8
 delta ref08_Same at hsh
 refine sr ?_
 refine av hs rfl rfl fun a hs => ?_
 refine nl ?_
 refine wp_seq ?_
 refine sr ?_
 refine mv hs rfl rfl fun a hs => ?_
 refine sv hs (y_len Try.runUnderlying27 rfl) rfl fun a hs => ?_
 refine mv hs rfl rfl fun a hs => ?_
 refine sv hs (y_len Try.runUnderlying27 rfl) rfl fun a hs => ?_
 refine sv hs (y_neq rfl rfl) rfl fun a hs => ?_
 refine nl ?_
 refine wp_cond_split (hs.ev rfl) (fun h10 => ?_) (fun h10 => ?_)
 ·have hsh := ite_t hsh h10
  refine sr ?_
  refine av hs rfl rfl fun a hs => ?_
  refine nl ?_
  have hsh := oi hsh
  subst hsh
  refine wp_ret ?_
  refine then_ret ?_
  exact ret1 hs rfl (rv_tmp rfl) (hw.ret rfl)
 have hsh := ite_f hsh h10
 refine wp_skip ?_
 refine then_normal ?_
 refine wp_seq ?_
 refine sr ?_
 refine av hs rfl rfl fun a hs => ?_
 refine nl ?_
 refine wp_block ?_
 refine wp_while (fun sv109 a w => ∃ (Sv173 : Nat → Prop), Sl 26 [(0, .slice p2 a1.length k3), (1, .slice p6 b5.length k7), (5, .int .i64 sv109)] a ∧ Wd ⟨w0, S0, []⟩ Sv173 [] [SlA p2 a1.length k3 a1, SlA p6 b5.length k7 b5] w) 0 hsh ⟨S0, (hs.wk rfl), (hw.ft [] [1, 0] (by decide) rfl rfl)⟩ ?_
 repeat clear hsh
 rintro sv109 a w tv206 ⟨Sv173, hs, hw⟩ hsh hd205
 delta ref08_Same_l2 at hsh
 refine wp_seq ?_
 refine sr ?_
 refine mv hs rfl rfl fun a hs => ?_
 refine mv hs rfl rfl fun a hs => ?_
 refine sv hs (y_len Try.runUnderlying27 rfl) rfl fun a hs => ?_
 refine sv hs (y_lss rfl rfl) rfl fun a hs => ?_
 refine nl ?_
 refine wp_cond_split (hs.ev rfl) (fun h210 => ?_) (fun h210 => ?_)
 ·have hsh := ite_t hsh h210
  refine wp_skip ?_
  refine then_normal ?_
  refine wp_seq ?_
  refine wp_block ?_
  refine wp_seq ?_
  obtain ⟨x241, h239, hsh⟩ := bind_t hsh
  obtain ⟨b247, o248, q245, c246, h249, h242, h243, h244, h240⟩ := hw.elemV 0 rfl h239
  have hsv250 := hs
  have hwv251 := hw
  subst h249
  have hs := hsv250
  have hw := hwv251
  obtain ⟨_, _, rfl, rfl, rfl⟩ := h240
  have hw := hw.addE h244
  obtain ⟨x254, h252, hsh⟩ := bind_t hsh
  obtain ⟨b260, o261, q258, c259, h262, h255, h256, h257, h253⟩ := hw.elemV 2 rfl h252
  have hsv263 := hs
  have hwv264 := hw
  subst h262
  have hs := hsv263
  have hw := hwv264
  obtain ⟨_, _, rfl, rfl, rfl⟩ := h253
  have hw := hw.addE h257
  refine wp_only (fun a w => ∃ (Sv265 : Nat → Prop), Sl 26 [(0, .slice (some ⟨b247, o248, none⟩) a1.length k3), (1, .slice (some ⟨b260, o261, none⟩) b5.length k7), (5, .int .i64 sv109), (25, .bool (!((x241.From == x254.From) && ((x241.To == x254.To) && true))))] a ∧ Wd ⟨w0, S0, []⟩ Sv265 [] [SlA (some ⟨b247, o248, none⟩) a1.length k3 a1, SlA (some ⟨b260, o261, none⟩) b5.length k7 b5] w) ?_ ?_
  ·refine h_b (C := Cls [] [CeA b260 q258 [.int .i64 x254.From, .int .i64 x254.To], CeA b247 q245 [.int .i64 x241.From, .int .i64 x241.To]]) (by kernel_rfl) rfl (hw.drew.cs [] [0, 1] rfl rfl) fun hC => ?_
   have hw := hw.drew
   refine gm hs 0 rfl rfl rfl hC fun a hs => ?_
   refine gm hs 1 rfl rfl rfl hC fun a hs => ?_
   refine gv hs 2 rfl rfl hC (fun w hC => y_indexAt Try.runUnderlying27 Try.sizeOf46 rfl rfl h242.1 h242.2 h243) fun a hs => ?_
   refine gv hs 3 rfl rfl hC (fun w hC => y_loadEA (j := 0) (hC.ceAt 1 rfl) rfl Try.isAgg46 Try.sizeOf46 rfl rfl) fun a hs => ?_
   refine gm hs 4 rfl rfl rfl hC fun a hs => ?_
   refine gm hs 5 rfl rfl rfl hC fun a hs => ?_
   refine gv hs 6 rfl rfl hC (fun w hC => y_indexAt Try.runUnderlying27 Try.sizeOf46 rfl rfl h255.1 h255.2 h256) fun a hs => ?_
   refine gv hs 7 rfl rfl hC (fun w hC => y_loadEA (j := 0) (hC.ceAt 0 rfl) rfl Try.isAgg46 Try.sizeOf46 rfl rfl) fun a hs => ?_
   refine gv hs 8 rfl rfl hC (fun w hC => y_neqA (by kernel_rfl) rfl rfl (eqv_struct Try.runUnderlying46 (by kernel_rfl) (EqF.cons1 rfl Try.isAgg3 rfl rfl (eqv_int Try.runUnderlying3) (EqF.cons1 rfl Try.isAgg3 rfl rfl (eqv_int Try.runUnderlying3) EqF.nil)))) fun a hs => ?_
   refine h_done (by kernel_rfl) ?_
   exact ⟨Sv173, (hs.wk rfl), (hw.ft [] [2, 3] (by decide) rfl rfl)⟩
  rintro a w ⟨Sv265, hs, hw⟩
  refine then_normal ?_
  refine wp_cond_split (hs.ev rfl) (fun h267 => ?_) (fun h267 => ?_)
  ·have hsh := ite_t hsh h267
   refine sr ?_
   refine av hs rfl rfl fun a hs => ?_
   refine nl ?_
   have hsh := oi hsh
   subst hsh
   have h268 := hd205 _ rfl
   subst h268
   refine wp_ret ?_
   refine blk_ret ?_
   refine then_ret ?_
   refine then_ret ?_
   refine blk_ret ?_
   refine then_ret ?_
   exact ret1 hs rfl (rv_tmp rfl) (hw.ret rfl)
  have hsh := ite_f hsh h267
  refine wp_skip ?_
  refine blk_normal ?_
  refine then_normal ?_
  refine wp_region_lit ?_
  refine mv hs rfl rfl fun a hs => ?_
  refine sv hs (y_add rfl rfl) rfl fun a hs => ?_
  obtain ⟨i270, h269, hsh⟩ := bind_t hsh
  refine sv hs (y_assignI rfl h269) rfl fun a hs => ?_
  refine nl ?_
  exact ⟨_, (Option.some.inj hsh).symm, Sv265, (hs.wk rfl), (hw.ft [] [0, 1] (by decide) rfl rfl)⟩
 have hsh := ite_f hsh h210
 obtain ⟨rv271, hsh, h272⟩ := map_t hsh
 have h272 := (hd205 _ h272.symm).symm
 subst h272
 refine wp_exit ?_
 refine then_exit ?_
 refine then_exit ?_
 refine blk_exit ?_
 refine then_normal ?_
 refine sr ?_
 refine av hs rfl rfl fun a hs => ?_
 refine nl ?_
 have hsh := oi hsh
 subst hsh
 refine wp_ret ?_
 exact ret1 hs rfl (rv_tmp rfl) (hw.ret rfl)

abbrev receiver_Settled_rd (w0 : World) (X : List Nat) (r : Int) : (Nat → Prop) → World → Value → Prop := fun S w v => v = .int .i64 r
set_option maxHeartbeats 4000000 in
set_option maxRecDepth 100000 in
theorem receiver_Settled_ok {w0 : World} {S0 : Nat → Prop} {p2 : Option Addr} {k3 : Nat} {p4 : Option Addr} {k5 : Nat} {r1 : Receiver} {r : Int} (hsh : receiver_Settled r1 = some r) (hS : ∀ b, S0 b → b < w0.heap.size) (h6 : (SlA p2 r1.Got.length k3 r1.Got).p S0 w0) (h7 : (SlA p4 r1.Lost.length k5 r1.Lost).p S0 w0) : Calls Try.prog 19 #[.agg #[.slice p2 r1.Got.length k3, .slice p4 r1.Lost.length k5]] w0 (Ret ([]) w0 S0 (receiver_Settled_rd w0 ([]) r)) := by
 refine calls_of_wp Try.func19 rfl ?_
 have hs := Sl.enter #[.agg #[.slice p2 r1.Got.length k3, .slice p4 r1.Lost.length k5]] 25 [(0, .agg #[.slice p2 r1.Got.length k3, .slice p4 r1.Lost.length k5])] rfl ⟨rfl, trivial⟩
 have hw := Wd.enter (E := []) hS (fun _ h => (by cases h))
 have hw := hw.addE h6
 have hw := hw.addE h7
 delta receiver_Settled at hsh
 refine sr ?_
 refine w_box (cs := [.slice p2 r1.Got.length k3, .slice p4 r1.Lost.length k5]) hs hw rfl rfl rfl trivial ?_
 intro b8 a w hs hw
 refine av hs rfl rfl fun a hs => ?_
 refine nl ?_
 refine sr ?_
 refine sv hs (y_loadBA (hw.ownAt 0 rfl) rfl Try.isAgg29 Try.sizeOf29 rfl rfl) rfl fun a hs => ?_
 obtain ⟨rv10, h9, hsh⟩ := bind_t hsh
 refine st_callR hs (receiver_known_ok h9 hw.dom (hw.envAt 1 rfl) (hw.envAt 0 rfl)) (do_call Try.call42 rfl) trivial rfl rfl ?_
 intro v18 Sv15 w a h16 h17 hs
 obtain ⟨p11, k12, c14, rfl, h19, h13⟩ := h17
 have hw := hw.callN h16 h19
 have hw := hw.addE (e := RowA c14 rv10) h13
 refine av hs rfl rfl fun a hs => ?_
 refine nl ?_
 refine wp_seq ?_
 refine sr ?_
 refine sv hs (y_loadBA (hw.ownAt 1 rfl) rfl Try.isAgg29 Try.sizeOf29 rfl rfl) rfl fun a hs => ?_
 obtain ⟨rv21, h20, hsh⟩ := bind_t hsh
 refine st_callR hs (receiver_Valid_ok h20 hw.bdom (hw.bE 2 rfl) (hw.bE 1 rfl)) (do_call Try.call15 rfl) trivial rfl rfl ?_
 intro v25 Sv22 w a h23 h24 hs
 subst h24
 have hw := hw.callB h23
 refine sv hs (y_not rfl) rfl fun a hs => ?_
 refine mv hs rfl rfl fun a hs => ?_
 refine wpl_join 4 (fun a w1 => w = w1 ∧ Sl 25 [(3, .slice p11 rv10.length k12), (13, .bool ((!rv21) || ((rv10.length : Int) == 0)))] a) ?_ ?_
 ·rcases Bool.eq_false_or_eq_true (!rv21) with h27 | h27
  ·have hs := hs.fix 9 (.bool true) rfl (vb h27)
   refine st_skip hs rfl rfl rfl rfl rfl fun a hs => ?_
   refine st_skip hs rfl rfl rfl rfl rfl fun a hs => ?_
   refine st_skip hs rfl rfl rfl rfl rfl fun a hs => ?_
   refine sv hs (y_pickT rfl rfl) rfl fun a hs => ?_
   refine nl ?_
   exact ⟨rfl, (hs.fix 13 (.bool ((!rv21) || ((rv10.length : Int) == 0))) rfl (or_t h27)).weaken _ ⟨rfl, rfl, trivial⟩⟩
  have hs := hs.fix 9 (.bool false) rfl (vb h27)
  refine st_val hs (y_move rfl) ⟨_, rfl, rfl⟩ rfl rfl fun a hs => ?_
  refine st_val hs (y_len Try.runUnderlying27 rfl) ⟨_, rfl, rfl⟩ rfl rfl fun a hs => ?_
  refine st_val hs (y_eql rfl rfl) ⟨_, rfl, rfl⟩ rfl rfl fun a hs => ?_
  refine sv hs (y_pickF rfl rfl) rfl fun a hs => ?_
  refine nl ?_
  exact ⟨rfl, (hs.fix 13 (.bool ((!rv21) || ((rv10.length : Int) == 0))) rfl (or_f h27)).weaken _ ⟨rfl, rfl, trivial⟩⟩
 rintro a w1 ⟨h72, hs⟩
 subst h72
 refine mv hs rfl rfl fun a hs => ?_
 obtain ⟨c42, hc42, hsh⟩ := bind_t hsh
 refine wpl_join 6 (fun a w => ∃ (Sv43 : Nat → Prop), Sl 25 [(3, .slice p11 rv10.length k12), (20, .bool c42)] a ∧ Wd ⟨w0, S0, []⟩ Sv43 [.row p11 rv10.length k12 c14 46 2] [RowA c14 rv10] w) ?_ ?_
 ·rcases Bool.eq_false_or_eq_true ((!rv21) || ((rv10.length : Int) == 0)) with h41 | h41
  ·have hs := hs.fix 14 (.bool true) rfl (vb h41)
   have hsh := ite_t hc42 h41
   refine st_skip hs rfl rfl rfl rfl rfl fun a hs => ?_
   refine st_skip hs rfl rfl rfl rfl rfl fun a hs => ?_
   refine st_skip hs rfl rfl rfl rfl rfl fun a hs => ?_
   refine st_skip hs rfl rfl rfl rfl rfl fun a hs => ?_
   refine st_skip hs rfl rfl rfl rfl rfl fun a hs => ?_
   refine sv hs (y_pickT rfl rfl) rfl fun a hs => ?_
   refine wpList_nil ?_
   have hsh := oi hsh
   subst hsh
   refine then_normal ?_
   exact ⟨Sv15, (hs.wk rfl), (hw.ft [0] [0] (by decide) rfl rfl)⟩
  have hs := hs.fix 14 (.bool false) rfl (vb h41)
  have hsh := ite_f hc42 h41
  refine st_val hs (y_move rfl) ⟨_, rfl, rfl⟩ rfl rfl fun a hs => ?_
  obtain ⟨x46, h44, hsh⟩ := bind_t hsh
  obtain ⟨b53, q50, c51, h54, h47, h48, h52, h45⟩ := hw.elemRV (α := Span) 0 rfl 0 rfl h44
  have hsv55 := hs
  have hwv56 := hw
  subst h54
  have hs := hsv55
  have hw := hwv56
  obtain ⟨_, _, rfl, rfl, rfl⟩ := h45
  refine st_val hs (y_indexAt Try.runUnderlying27 Try.sizeOf46 rfl rfl h47.1 h47.2 h48) ⟨_, rfl, rfl⟩ rfl rfl fun a hs => ?_
  refine st_val hs (y_fieldAddr (o' := q50 + 0) Try.runUnderlying46 rfl Try.sizeOf3 rfl rfl rfl) ⟨_, rfl, rfl⟩ rfl rfl fun a hs => ?_
  refine st_val hs (y_loadQ1 (j := 0) (hw.ownAt 0 rfl) rfl Try.isAgg3 h52 rfl) ⟨_, rfl, rfl⟩ rfl rfl fun a hs => ?_
  refine st_val hs (y_gtr rfl rfl) ⟨_, rfl, rfl⟩ rfl rfl fun a hs => ?_
  refine sv hs (y_pickF rfl rfl) rfl fun a hs => ?_
  refine wpList_nil ?_
  have hsh := oi hsh
  subst hsh
  refine then_normal ?_
  exact ⟨Sv15, (hs.wk rfl), (hw.ft [0] [0] (by decide) rfl rfl)⟩
 rintro a w ⟨Sv43, hs, hw⟩
 refine nl ?_
 refine wp_cond_split (hs.ev rfl) (fun h58 => ?_) (fun h58 => ?_)
 ·have hsh := ite_t hsh h58
  refine sr ?_
  refine av hs rfl rfl fun a hs => ?_
  refine nl ?_
  have hsh := oi hsh
  subst hsh
  refine wp_ret ?_
  refine then_ret ?_
  exact ret1 hs rfl (rv_tmp rfl) (hw.ret rfl)
 have hsh := ite_f hsh h58
 refine wp_skip ?_
 refine then_normal ?_
 refine sr ?_
 refine mv hs rfl rfl fun a hs => ?_
 obtain ⟨x61, h59, hsh⟩ := bind_t hsh
 obtain ⟨b68, q65, c66, h69, h62, h63, h67, h60⟩ := hw.elemRV (α := Span) 0 rfl 0 rfl h59
 have hsv70 := hs
 have hwv71 := hw
 subst h69
 have hs := hsv70
 have hw := hwv71
 obtain ⟨_, _, rfl, rfl, rfl⟩ := h60
 refine sv hs (y_indexAt Try.runUnderlying27 Try.sizeOf46 rfl rfl h62.1 h62.2 h63) rfl fun a hs => ?_
 refine sv hs (y_fieldAddr (o' := q65 + 1) Try.runUnderlying46 rfl Try.sizeOf3 rfl rfl rfl) rfl fun a hs => ?_
 refine sv hs (y_loadQ1 (j := 1) (hw.ownAt 0 rfl) rfl Try.isAgg3 h67 rfl) rfl fun a hs => ?_
 refine av hs rfl rfl fun a hs => ?_
 refine nl ?_
 have hsh := oi hsh
 subst hsh
 refine wp_ret ?_
 exact ret1 hs rfl (rv_tmp rfl) (hw.ret rfl)

abbrev law11_sane_rd (w0 : World) (X : List Nat) (r : Bool) : (Nat → Prop) → World → Value → Prop := fun S w v => v = .bool r
set_option maxHeartbeats 4000000 in
set_option maxRecDepth 100000 in
theorem law11_sane_ok {w0 : World} {S0 : Nat → Prop} {r : Bool} (hsh : law11_sane = some r) (hS : ∀ b, S0 b → b < w0.heap.size) : Calls Try.prog 8 #[] w0 (Ret ([]) w0 S0 (law11_sane_rd w0 ([]) r)) := by
 refine calls_of_wp Try.func8 rfl ?_
 have hs := Sl.enter #[] 59 [] rfl trivial
 have hw := Wd.enter (E := []) hS (fun _ h => (by cases h))
 delta law11_sane at hsh
 refine sr ?_
 refine av hs rfl rfl fun a hs => ?_
 refine nl ?_
 refine sr ?_
 obtain ⟨rv2, h1, hsh⟩ := bind_t hsh
 refine st_callR hs (receiver_New_ok h1 hw.dom) (do_call Try.call10 rfl) trivial rfl rfl ?_
 intro v12 Sv9 w a h10 h11 hs
 obtain ⟨p3, k4, p6, k7, rfl, h5, h8⟩ := h11
 have hw := hw.call h10
 have hw := hw.addE (e := SlA p3 rv2.Got.length k4 rv2.Got) h5
 have hw := hw.addE (e := SlA p6 rv2.Lost.length k7 rv2.Lost) h8
 refine w_alloc (cs := [.slice none ([] : List Span).length 0, .slice none ([] : List Span).length 0]) hs hw Try.zeroValue29 rfl rfl trivial ?_
 intro b14 a w hs hw
 refine w_store (m := 2) (cs' := [.slice p3 rv2.Got.length k4, .slice p6 rv2.Lost.length k7]) hs hw 0 rfl rfl rfl Try.sizeOf29 rfl rfl rfl rfl trivial ?_
 intro a w hs hw
 refine nl ?_
 refine sr ?_
 refine av hs rfl rfl fun a hs => ?_
 refine nl ?_
 refine wp_seq ?_
 refine sr ?_
 refine w_litSlice (α := Int) (vs := [.int .i64 0, .int .i64 1, .int .i64 4]) (cs := [.int .i64 0, .int .i64 1, .int .i64 4]) (xs := ([0, 1, 4] : List Int)) hs hw El22 rfl rfl rfl rfl rfl rfl ⟨⟨_, rfl, rfl⟩, ⟨⟨_, rfl, rfl⟩, ⟨⟨_, rfl, rfl⟩, rfl⟩⟩⟩ rfl trivial rfl fun b16 a w hs hw => ?_
 refine sv hs (y_len Try.runUnderlying22 rfl) rfl fun a hs => ?_
 refine mv hs rfl rfl fun a hs => ?_
 refine nl ?_
 refine wp_block ?_
 refine wp_while (fun sv102 a w => ∃ (p156 : Option Addr) (k157 : Nat) (p158 : Option Addr) (k159 : Nat) (Sv160 : Nat → Prop), Sl 59 [(1, .pointer (some ⟨b14, 0, none⟩)), (9, .slice (some ⟨b16, 0, none⟩) ([0, 1, 4] : List Int).length ([0, 1, 4] : List Int).length), (10, .int .i64 (([0, 1, 4] : List Int).length : Int)), (11, .int .i64 sv102.2.2)] a ∧ Wd ⟨w0, S0, []⟩ Sv160 [.box b14 [.slice p156 sv102.1.length k157, .slice p158 sv102.2.1.length k159] 29, .row (some ⟨b16, 0, none⟩) ([0, 1, 4] : List Int).length ([0, 1, 4] : List Int).length [.int .i64 0, .int .i64 1, .int .i64 4] 3 1] [SlA p156 sv102.1.length k157 sv102.1, SlA p158 sv102.2.1.length k159 sv102.2.1, RowA [.int .i64 0, .int .i64 1, .int .i64 4] ([0, 1, 4] : List Int)] w) (rv2.Got, rv2.Lost, 0) hsh ⟨p3, k4, p6, k7, Sv9, (hs.wk rfl), (hw.ft [1, 0] [2, 1, 0] (by decide) rfl rfl)⟩ ?_
 repeat clear hsh
 rintro sv102 a w tv186 ⟨p156, k157, p158, k159, Sv160, hs, hw⟩ hsh hd185
 delta law11_sane_l2 at hsh
 refine sr ?_
 refine sv hs (y_lss rfl rfl) rfl fun a hs => ?_
 refine nl ?_
 refine wp_seq ?_
 refine wp_cond_split (hs.ev rfl) (fun h190 => ?_) (fun h190 => ?_)
 ·have hsh := ite_t hsh h190
  refine wp_skip ?_
  refine then_normal ?_
  refine wp_seq ?_
  refine wp_block ?_
  refine sr ?_
  obtain ⟨x216, h214, hsh⟩ := bind_t hsh
  obtain ⟨q220, c221, h217, h218, h222, h215⟩ := hw.elemRK (α := Int) 1 rfl 2 rfl h214
  obtain ⟨_, rfl, rfl⟩ := h215
  refine sv hs (y_indexAt Try.runUnderlying22 Try.sizeOf3 rfl rfl h217.1 h217.2 h218) rfl fun a hs => ?_
  refine sv hs (y_loadQ1 (j := 0) (hw.ownAt 1 rfl) rfl Try.isAgg3 h222 rfl) rfl fun a hs => ?_
  refine av hs rfl rfl fun a hs => ?_
  refine nl ?_
  refine sr ?_
  refine sv hs (y_loadBA (hw.ownAt 0 rfl) rfl Try.isAgg29 Try.sizeOf29 rfl rfl) rfl fun a hs => ?_
  refine mv hs rfl rfl fun a hs => ?_
  obtain ⟨rv224, h223, hsh⟩ := bind_t hsh
  refine st_callR hs (receiver_Accept_ok h223 hw.dom (hw.envAt 0 rfl) (hw.envAt 1 rfl)) (do_call Try.call13 rfl) trivial rfl rfl ?_
  intro v234 Sv231 w a h232 h233 hs
  obtain ⟨p225, k226, p228, k229, rfl, h227, h230⟩ := h233
  have hw := hw.call h232
  have hw := hw.addE (e := SlA p225 rv224.1.Got.length k226 rv224.1.Got) h227
  have hw := hw.addE (e := SlA p228 rv224.1.Lost.length k229 rv224.1.Lost) h230
  refine mv hs rfl rfl fun a hs => ?_
  refine sv hs (y_extract rfl rfl) rfl fun a hs => ?_
  refine sv hs (y_extract rfl rfl) rfl fun a hs => ?_
  refine sv hs (y_extract rfl rfl) rfl fun a hs => ?_
  refine w_store (m := 2) (cs' := [.slice p225 rv224.1.Got.length k226, .slice p228 rv224.1.Lost.length k229]) hs hw 0 rfl rfl rfl Try.sizeOf29 rfl rfl rfl rfl trivial ?_
  intro a w hs hw
  refine av hs rfl rfl fun a hs => ?_
  refine nl ?_
  refine sr ?_
  refine mv hs rfl rfl fun a hs => ?_
  refine sv hs (y_neq rfl rfl) rfl fun a hs => ?_
  refine nl ?_
  refine wp_cond_split (hs.ev rfl) (fun h237 => ?_) (fun h237 => ?_)
  ·have hsh := ite_t hsh h237
   refine sr ?_
   refine av hs rfl rfl fun a hs => ?_
   refine nl ?_
   have hsh := oi hsh
   subst hsh
   have h238 := hd185 _ rfl
   subst h238
   refine wp_ret ?_
   refine blk_ret ?_
   refine then_ret ?_
   refine then_ret ?_
   refine blk_ret ?_
   refine then_ret ?_
   exact ret1 hs rfl (rv_tmp rfl) (hw.ret rfl)
  have hsh := ite_f hsh h237
  refine wp_skip ?_
  refine blk_normal ?_
  refine then_normal ?_
  refine wp_region_lit ?_
  refine sv hs (y_add rfl rfl) rfl fun a hs => ?_
  refine mv hs rfl rfl fun a hs => ?_
  refine nl ?_
  exact ⟨_, (Option.some.inj hsh).symm, p225, k226, p228, k229, Sv231, (hs.wk rfl), (hw.ft [0, 1] [1, 0, 4] (by decide) rfl rfl)⟩
 have hsh := ite_f hsh h190
 obtain ⟨rv325, hsh, h326⟩ := map_t hsh
 have h326 := (hd185 _ h326.symm).symm
 subst h326
 refine wp_exit ?_
 refine then_exit ?_
 refine then_exit ?_
 refine blk_exit ?_
 refine then_normal ?_
 refine sr ?_
 refine sv hs (y_loadBA (hw.ownAt 0 rfl) rfl Try.isAgg29 Try.sizeOf29 rfl rfl) rfl fun a hs => ?_
 obtain ⟨rv240, h239, hsh⟩ := bind_t hsh
 refine st_callR hs (receiver_Missing_ok h239 hw.dom (hw.envAt 0 rfl) (hw.envAt 1 rfl)) (do_call Try.call17 rfl) trivial rfl rfl ?_
 intro v248 Sv245 w a h246 h247 hs
 obtain ⟨p241, k242, c244, rfl, h249, h243⟩ := h247
 have hw := hw.callN h246 h249
 have hw := hw.addE (e := RowA c244 rv240.1) h243
 refine mv hs rfl rfl fun a hs => ?_
 refine sv hs (y_extract rfl rfl) rfl fun a hs => ?_
 refine sv hs (y_extract rfl rfl) rfl fun a hs => ?_
 refine av hs rfl rfl fun a hs => ?_
 refine av hs rfl rfl fun a hs => ?_
 refine nl ?_
 refine sr ?_
 refine sv hs (y_loadBA (hw.ownAt 1 rfl) rfl Try.isAgg29 Try.sizeOf29 rfl rfl) rfl fun a hs => ?_
 obtain ⟨rv251, h250, hsh⟩ := bind_t hsh
 refine st_callR hs (receiver_Lose_ok h250 hw.dom (hw.envAt 1 rfl) (hw.envAt 2 rfl)) (do_call Try.call12 rfl) trivial rfl rfl ?_
 intro v261 Sv258 w a h259 h260 hs
 obtain ⟨p252, k253, p255, k256, rfl, h254, h257⟩ := h260
 have hw := hw.call h259
 have hw := hw.addE (e := SlA p252 rv251.1.Got.length k253 rv251.1.Got) h254
 have hw := hw.addE (e := SlA p255 rv251.1.Lost.length k256 rv251.1.Lost) h257
 refine mv hs rfl rfl fun a hs => ?_
 refine sv hs (y_extract rfl rfl) rfl fun a hs => ?_
 refine sv hs (y_extract rfl rfl) rfl fun a hs => ?_
 refine w_alloc (cs := [.slice none ([] : List Span).length 0, .slice none ([] : List Span).length 0]) hs hw Try.zeroValue29 rfl rfl trivial ?_
 intro b263 a w hs hw
 refine w_store (m := 2) (cs' := [.slice p252 rv251.1.Got.length k253, .slice p255 rv251.1.Lost.length k256]) hs hw 0 rfl rfl rfl Try.sizeOf29 rfl rfl rfl rfl trivial ?_
 intro a w hs hw
 refine av hs rfl rfl fun a hs => ?_
 refine nl ?_
 refine sr ?_
 refine mv hs rfl rfl fun a hs => ?_
 refine sv hs (y_eql rfl rfl) rfl fun a hs => ?_
 refine mv hs rfl rfl fun a hs => ?_
 refine wpl_join 3 (fun a w1 => w = w1 ∧ Sl 59 [(1, .pointer (some ⟨b14, 0, none⟩)), (5, .slice p241 rv240.1.length k242), (6, .pointer (some ⟨b263, 0, none⟩)), (40, .bool ((rv240.2 == 0) && (rv251.2 == 0)))] a) ?_ ?_
 ·rcases Bool.eq_false_or_eq_true (rv240.2 == 0) with h264 | h264
  ·have hs := hs.fix 37 (.bool true) rfl (vb h264)
   refine st_val hs (y_move rfl) ⟨_, rfl, rfl⟩ rfl rfl fun a hs => ?_
   refine st_val hs (y_eql rfl rfl) ⟨_, rfl, rfl⟩ rfl rfl fun a hs => ?_
   refine sv hs (y_pickT rfl rfl) rfl fun a hs => ?_
   refine nl ?_
   exact ⟨rfl, (hs.fix 40 (.bool ((rv240.2 == 0) && (rv251.2 == 0))) rfl (and_t h264)).weaken _ ⟨rfl, rfl, rfl, rfl, trivial⟩⟩
  have hs := hs.fix 37 (.bool false) rfl (vb h264)
  refine st_skip hs rfl rfl rfl rfl rfl fun a hs => ?_
  refine st_skip hs rfl rfl rfl rfl rfl fun a hs => ?_
  refine sv hs (y_pickF rfl rfl) rfl fun a hs => ?_
  refine nl ?_
  exact ⟨rfl, (hs.fix 40 (.bool ((rv240.2 == 0) && (rv251.2 == 0))) rfl (and_f h264)).weaken _ ⟨rfl, rfl, rfl, rfl, trivial⟩⟩
 rintro a w1 ⟨h324, hs⟩
 subst h324
 refine mv hs rfl rfl fun a hs => ?_
 obtain ⟨c275, hc275, hsh⟩ := bind_t hsh
 refine wpl_join 5 (fun a w => ∃ (Sv276 : Nat → Prop), Sl 59 [(1, .pointer (some ⟨b14, 0, none⟩)), (6, .pointer (some ⟨b263, 0, none⟩)), (46, .bool c275)] a ∧ Wd ⟨w0, S0, []⟩ Sv276 [.box b14 [.slice p156 sv102.1.length k157, .slice p158 sv102.2.1.length k159] 29, .box b263 [.slice p252 rv251.1.Got.length k253, .slice p255 rv251.1.Lost.length k256] 29] [SlA p156 sv102.1.length k157 sv102.1, SlA p158 sv102.2.1.length k159 sv102.2.1, SlA p252 rv251.1.Got.length k253 rv251.1.Got, SlA p255 rv251.1.Lost.length k256 rv251.1.Lost] w) ?_ ?_
 ·rcases Bool.eq_false_or_eq_true ((rv240.2 == 0) && (rv251.2 == 0)) with h274 | h274
  ·have hs := hs.fix 41 (.bool true) rfl (vb h274)
   have hsh := ite_t hc275 h274
   refine st_val hs (y_move rfl) ⟨_, rfl, rfl⟩ rfl rfl fun a hs => ?_
   refine st_val hs (y_build (vs := [(0, .int .i64 2), (1, .int .i64 4)]) Bld46 rfl rfl) ⟨_, rfl, rfl⟩ rfl rfl fun a hs => ?_
   refine w_litSlice (α := Span) (vs := [.agg #[.int .i64 2, .int .i64 4]]) (cs := [.int .i64 2, .int .i64 4]) (xs := ([(⟨2, 4⟩ : Span)] : List Span)) hs hw El27 rfl rfl rfl rfl rfl rfl ⟨⟨_, _, rfl, rfl, rfl⟩, rfl⟩ rfl ⟨_, rfl, rfl⟩ rfl fun b278 a w hs hw => ?_
   obtain ⟨rv280, h279, hsh⟩ := bind_t hsh
   refine st_callR hs (ref08_Same_ok h279 hw.bdom (hw.bRow 2 rfl 3 rfl) (hw.bRow 0 rfl 0 rfl)) (do_call Try.call24 rfl) ⟨_, rfl, rfl⟩ rfl rfl ?_
   intro v284 Sv281 w a h282 h283 hs
   subst h283
   have hw := hw.callB h282
   refine sv hs (y_pickT rfl rfl) rfl fun a hs => ?_
   refine wpList_nil ?_
   have hsh := oi hsh
   subst hsh
   refine then_normal ?_
   exact ⟨Sv258, (hs.wk rfl), (hw.ft [3, 1] [4, 5, 2, 1] (by decide) rfl rfl)⟩
  have hs := hs.fix 41 (.bool false) rfl (vb h274)
  have hsh := ite_f hc275 h274
  refine st_skip hs rfl rfl rfl rfl rfl fun a hs => ?_
  refine st_skip hs rfl rfl rfl rfl rfl fun a hs => ?_
  refine st_skip hs rfl rfl rfl rfl rfl fun a hs => ?_
  refine st_skip hs rfl rfl rfl rfl rfl fun a hs => ?_
  refine sv hs (y_pickF rfl rfl) rfl fun a hs => ?_
  refine wpList_nil ?_
  have hsh := oi hsh
  subst hsh
  refine then_normal ?_
  exact ⟨Sv258, (hs.wk rfl), (hw.ft [2, 0] [3, 4, 1, 0] (by decide) rfl rfl)⟩
 rintro a w ⟨Sv276, hs, hw⟩
 refine mv hs rfl rfl fun a hs => ?_
 obtain ⟨c294, hc294, hsh⟩ := bind_t hsh
 refine wpl_join 4 (fun a w => ∃ (Sv295 : Nat → Prop), Sl 59 [(6, .pointer (some ⟨b263, 0, none⟩)), (51, .bool c294)] a ∧ Wd ⟨w0, S0, []⟩ Sv295 [.box b263 [.slice p252 rv251.1.Got.length k253, .slice p255 rv251.1.Lost.length k256] 29] [SlA p252 rv251.1.Got.length k253 rv251.1.Got, SlA p255 rv251.1.Lost.length k256 rv251.1.Lost] w) ?_ ?_
 ·rcases Bool.eq_false_or_eq_true c275 with h293 | h293
  ·have hs := hs.fix 47 (.bool true) rfl (vb h293)
   have hsh := ite_t hc294 h293
   refine st_val hs (y_loadBA (hw.ownAt 0 rfl) rfl Try.isAgg29 Try.sizeOf29 rfl rfl) ⟨_, rfl, rfl⟩ rfl rfl fun a hs => ?_
   obtain ⟨rv297, h296, hsh⟩ := bind_t hsh
   refine st_callR hs (receiver_Settled_ok h296 hw.bdom (hw.bE 0 rfl) (hw.bE 1 rfl)) (do_call Try.call19 rfl) ⟨_, rfl, rfl⟩ rfl rfl ?_
   intro v301 Sv298 w a h299 h300 hs
   subst h300
   have hw := hw.callB h299
   refine st_val hs (y_eql rfl rfl) ⟨_, rfl, rfl⟩ rfl rfl fun a hs => ?_
   refine sv hs (y_pickT rfl rfl) rfl fun a hs => ?_
   refine wpList_nil ?_
   have hsh := oi hsh
   subst hsh
   refine then_normal ?_
   exact ⟨Sv276, (hs.wk rfl), (hw.ft [1] [2, 3] (by decide) rfl rfl)⟩
  have hs := hs.fix 47 (.bool false) rfl (vb h293)
  have hsh := ite_f hc294 h293
  refine st_skip hs rfl rfl rfl rfl rfl fun a hs => ?_
  refine st_skip hs rfl rfl rfl rfl rfl fun a hs => ?_
  refine st_skip hs rfl rfl rfl rfl rfl fun a hs => ?_
  refine sv hs (y_pickF rfl rfl) rfl fun a hs => ?_
  refine wpList_nil ?_
  have hsh := oi hsh
  subst hsh
  refine then_normal ?_
  exact ⟨Sv276, (hs.wk rfl), (hw.ft [1] [2, 3] (by decide) rfl rfl)⟩
 rintro a w ⟨Sv295, hs, hw⟩
 refine mv hs rfl rfl fun a hs => ?_
 obtain ⟨c313, hc313, hsh⟩ := bind_t hsh
 refine wpl_join 6 (fun a w => ∃ (Sv314 : Nat → Prop), Sl 59 [(58, .bool c313)] a ∧ Wd ⟨w0, S0, []⟩ Sv314 [] [] w) ?_ ?_
 ·rcases Bool.eq_false_or_eq_true c294 with h312 | h312
  ·have hs := hs.fix 52 (.bool true) rfl (vb h312)
   have hsh := ite_t hc313 h312
   refine st_val hs (y_fieldAddr (o' := 1) Try.runUnderlying29 rfl Try.sizeOf27 rfl rfl rfl) ⟨_, rfl, rfl⟩ rfl rfl fun a hs => ?_
   refine st_val hs (y_loadB1 (hw.ownAt 0 rfl) rfl Try.isAgg27 rfl) ⟨_, rfl, rfl⟩ rfl rfl fun a hs => ?_
   refine st_val hs (y_build (vs := [(0, .int .i64 2), (1, .int .i64 3)]) Bld46 rfl rfl) ⟨_, rfl, rfl⟩ rfl rfl fun a hs => ?_
   refine w_litSlice (α := Span) (vs := [.agg #[.int .i64 2, .int .i64 3]]) (cs := [.int .i64 2, .int .i64 3]) (xs := ([(⟨2, 3⟩ : Span)] : List Span)) hs hw El27 rfl rfl rfl rfl rfl rfl ⟨⟨_, _, rfl, rfl, rfl⟩, rfl⟩ rfl ⟨_, rfl, rfl⟩ rfl fun b316 a w hs hw => ?_
   obtain ⟨rv318, h317, hsh⟩ := bind_t hsh
   refine st_callR hs (ref08_Same_ok h317 hw.bdom (hw.bE 2 rfl) (hw.bRow 0 rfl 0 rfl)) (do_call Try.call24 rfl) ⟨_, rfl, rfl⟩ rfl rfl ?_
   intro v322 Sv319 w a h320 h321 hs
   subst h321
   have hw := hw.callB h320
   refine sv hs (y_pickT rfl rfl) rfl fun a hs => ?_
   refine wpList_nil ?_
   have hsh := oi hsh
   subst hsh
   refine then_normal ?_
   exact ⟨Sv295, (hs.wk rfl), (hw.ft [] [] (by decide) rfl rfl)⟩
  have hs := hs.fix 52 (.bool false) rfl (vb h312)
  have hsh := ite_f hc313 h312
  refine st_skip hs rfl rfl rfl rfl rfl fun a hs => ?_
  refine st_skip hs rfl rfl rfl rfl rfl fun a hs => ?_
  refine st_skip hs rfl rfl rfl rfl rfl fun a hs => ?_
  refine st_skip hs rfl rfl rfl rfl rfl fun a hs => ?_
  refine st_skip hs rfl rfl rfl rfl rfl fun a hs => ?_
  refine sv hs (y_pickF rfl rfl) rfl fun a hs => ?_
  refine wpList_nil ?_
  have hsh := oi hsh
  subst hsh
  refine then_normal ?_
  exact ⟨Sv295, (hs.wk rfl), (hw.ft [] [] (by decide) rfl rfl)⟩
 rintro a w ⟨Sv314, hs, hw⟩
 refine av hs rfl rfl fun a hs => ?_
 refine nl ?_
 have hsh := oi hsh
 subst hsh
 refine wp_ret ?_
 exact ret1 hs rfl (rv_tmp rfl) (hw.ret rfl)

abbrev made_Roll_rd (w0 : World) (X : List Nat) (r : Dice) : (Nat → Prop) → World → Value → Prop := fun S w v => ∃ (b_0 : Nat) (p0_0 : Option Addr) (k0_0 : Nat), v = .pointer (some ⟨b_0, 0, none⟩) ∧ Outs X w0 S w [.box b_0 [.slice p0_0 r.L.length k0_0, .int .i64 r.At] 57] ∧ (SlA p0_0 r.L.length k0_0 r.L).p S w
set_option maxHeartbeats 4000000 in
set_option maxRecDepth 100000 in
theorem made_Roll_ok {w0 : World} {S0 : Nat → Prop} {p2 : Option Addr} {k3 : Nat} {l1 : (List Int)} {r : Dice} (hsh : made_Roll l1 = some r) (hS : ∀ b, S0 b → b < w0.heap.size) (h4 : (SlA p2 l1.length k3 l1).p S0 w0) : Calls Try.prog 9 #[.slice p2 l1.length k3] w0 (Ret ([]) w0 S0 (made_Roll_rd w0 ([]) r)) := by
 refine calls_of_wp Try.func9 rfl ?_
 have hs := Sl.enter #[.slice p2 l1.length k3] 6 [(0, .slice p2 l1.length k3)] rfl ⟨rfl, trivial⟩
 have hw := Wd.enter (E := []) hS (fun _ h => (by cases h))
 have hw := hw.addE h4
 delta made_Roll at hsh
 refine sr ?_
 refine av hs rfl rfl fun a hs => ?_
 refine nl ?_
 refine sr ?_
 refine mv hs rfl rfl fun a hs => ?_
 refine sv hs (y_build (vs := [(0, .slice p2 l1.length k3)]) Bld57 rfl rfl) rfl fun a hs => ?_
 refine w_box (cs := [.slice p2 l1.length k3, .int .i64 0]) hs hw rfl rfl rfl trivial ?_
 intro b5 a w hs hw
 refine av hs rfl rfl fun a hs => ?_
 refine nl ?_
 have hsh := oi hsh
 subst hsh
 refine wp_ret ?_
 exact ret1 hs rfl (rv_tmp rfl) (hw.ret ⟨b5, p2, k3, rfl, (hw.outs [0] (by decide) rfl), (hw.envAt 0 rfl)⟩)

abbrev ref11_New_rd (w0 : World) (X : List Nat) (r : Receiver) : (Nat → Prop) → World → Value → Prop := fun S w v => ∃ (p0_0 : Option Addr) (k0_0 : Nat) (p0_1 : Option Addr) (k0_1 : Nat), v = .agg #[.slice p0_0 r.Got.length k0_0, .slice p0_1 r.Lost.length k0_1] ∧ (SlA p0_0 r.Got.length k0_0 r.Got).p S w ∧ (SlA p0_1 r.Lost.length k0_1 r.Lost).p S w
set_option maxHeartbeats 4000000 in
set_option maxRecDepth 100000 in
theorem ref11_New_ok {w0 : World} {S0 : Nat → Prop} {r : Receiver} (hsh : ref11_New = some r) (hS : ∀ b, S0 b → b < w0.heap.size) : Calls Try.prog 30 #[] w0 (Ret ([]) w0 S0 (ref11_New_rd w0 ([]) r)) := by
 refine calls_of_wp Try.func30 rfl ?_
 have hs := Sl.enter #[] 2 [] rfl trivial
 have hw := Wd.enter (E := []) hS (fun _ h => (by cases h))
 delta ref11_New at hsh
 refine sr ?_
 refine w_alloc (cs := [.slice none ([] : List Span).length 0, .slice none ([] : List Span).length 0]) hs hw Try.zeroValue29 rfl rfl trivial ?_
 intro b1 a w hs hw
 refine nl ?_
 refine sr ?_
 refine sv hs (y_build (vs := []) Bld29 rfl rfl) rfl fun a hs => ?_
 refine w_store (m := 2) (cs' := [.slice none ([] : List Span).length 0, .slice none ([] : List Span).length 0]) hs hw 0 rfl rfl rfl Try.sizeOf29 rfl rfl rfl rfl trivial ?_
 intro a w hs hw
 refine nl ?_
 have hsh := oi hsh
 subst hsh
 have hw := hw.addE (e := SlA (α := Span) none 0 0 []) nil_sl
 refine wp_ret ?_
 exact ret1 hs rfl (rv_cell hw 0 rfl rfl Try.isAgg29 Try.sizeOf29 rfl) (hw.ret ⟨none, 0, none, 0, rfl, (hw.envAt 0 rfl), (hw.envAt 0 rfl)⟩)

abbrev made_Dice_Next_rd (w0 : World) (X : List Nat) (b2 : Nat) (r : (Int × Dice)) : (Nat → Prop) → World → Value → Prop := fun S w v => ∃ (pq0_0 : Option Addr) (kq0_0 : Nat), v = .int .i64 r.1 ∧ Outs X w0 S w [.box b2 [.slice pq0_0 r.2.L.length kq0_0, .int .i64 r.2.At] 57] ∧ (SlA pq0_0 r.2.L.length kq0_0 r.2.L).p S w
set_option maxHeartbeats 4000000 in
set_option maxRecDepth 100000 in
theorem made_Dice_Next_ok {w0 : World} {S0 : Nat → Prop} {b2 : Nat} {p3 : Option Addr} {k4 : Nat} {d1 : Dice} {n6 : Int} {r : (Int × Dice)} (hsh : made_Dice_Next d1 n6 = some r) (hS : ∀ b, S0 b → b < w0.heap.size) (hin : Ins S0 w0 [.box b2 [.slice p3 d1.L.length k4, .int .i64 d1.At] 57]) (h5 : (SlA p3 d1.L.length k4 d1.L).p S0 w0) : Calls Try.prog 11 #[.pointer (some ⟨b2, 0, none⟩), .int .i64 n6] w0 (Ret (blks [.box b2 [.slice p3 d1.L.length k4, .int .i64 d1.At] 57]) w0 S0 (made_Dice_Next_rd w0 (blks [.box b2 [.slice p3 d1.L.length k4, .int .i64 d1.At] 57]) b2 r)) := by
 refine calls_of_wp Try.func11 rfl ?_
 have hs := Sl.enter #[.pointer (some ⟨b2, 0, none⟩), .int .i64 n6] 45 [(0, .pointer (some ⟨b2, 0, none⟩)), (1, .int .i64 n6)] rfl ⟨rfl, rfl, trivial⟩
 have hw := Wd.enterI hS hin
 have hw := hw.addE h5
 delta made_Dice_Next at hsh
 refine sr ?_
 refine av hs rfl rfl fun a hs => ?_
 refine nl ?_
 refine wp_seq ?_
 refine wp_seq ?_
 refine wp_only (fun a w => ∃ (Sv7 : Nat → Prop), Sl 45 [(0, .pointer (some ⟨b2, 0, none⟩)), (1, .int .i64 n6), (19, .bool ((decide ((d1.L.length : Int) ≤ d1.At)) || (decide (n6 < 1))))] a ∧ Wd ⟨w0, S0, blks [.box b2 [.slice p3 d1.L.length k4, .int .i64 d1.At] 57]⟩ Sv7 [.box b2 [.slice p3 d1.L.length k4, .int .i64 d1.At] 57] [SlA p3 d1.L.length k4 d1.L] w) ?_ ?_
 ·rcases Bool.eq_false_or_eq_true (decide ((d1.L.length : Int) ≤ d1.At)) with h8 | h8
  ·refine h_b (C := Cls [.box b2 [.slice p3 d1.L.length k4, .int .i64 d1.At] 57] []) (by kernel_rfl) rfl (hw.drew.cs [0] [] rfl rfl) fun hC => ?_
   have hw := hw.drew
   refine gm hs 0 rfl rfl rfl hC fun a hs => ?_
   refine gv hs 1 rfl rfl hC (fun w hC => y_nilCheck rfl) fun a hs => ?_
   refine gv hs 2 rfl rfl hC (fun w hC => y_fieldAddr (o' := 1) Try.runUnderlying57 rfl Try.sizeOf3 rfl rfl rfl) fun a hs => ?_
   refine gv hs 3 rfl rfl hC (fun w hC => y_loadB1 (hC.ownAt 0 rfl) rfl Try.isAgg3 rfl) fun a hs => ?_
   refine gm hs 4 rfl rfl rfl hC fun a hs => ?_
   refine gv hs 5 rfl rfl hC (fun w hC => y_nilCheck rfl) fun a hs => ?_
   refine gv hs 6 rfl rfl hC (fun w hC => y_fieldAddr (o' := 0) Try.runUnderlying57 rfl Try.sizeOf22 rfl rfl rfl) fun a hs => ?_
   refine gv hs 7 rfl rfl hC (fun w hC => y_loadB1 (hC.ownAt 0 rfl) rfl Try.isAgg22 rfl) fun a hs => ?_
   refine gv hs 8 rfl rfl hC (fun w hC => y_len Try.runUnderlying22 rfl) fun a hs => ?_
   refine gv hs 9 rfl rfl hC (fun w hC => y_geq rfl rfl) fun a hs => ?_
   refine gm hs 10 rfl rfl rfl hC fun a hs => ?_
   have hs := hs.fix 16 (.bool true) rfl (vb h8)
   refine gs hs 11 rfl rfl rfl rfl hC fun a hs => ?_
   refine gs hs 12 rfl rfl rfl rfl hC fun a hs => ?_
   refine gv hs 13 rfl rfl hC (fun w hC => y_pickTE (v := .bool ((decide ((d1.L.length : Int) ≤ d1.At)) || (decide (n6 < 1)))) rfl rfl (or_t h8)) fun a hs => ?_
   refine h_done (by kernel_rfl) ?_
   exact ⟨S0, (hs.wk rfl), (hw.ft [0] [0] (by decide) rfl rfl)⟩
  refine h_b (C := Cls [.box b2 [.slice p3 d1.L.length k4, .int .i64 d1.At] 57] []) (by kernel_rfl) rfl (hw.drew.cs [0] [] rfl rfl) fun hC => ?_
  have hw := hw.drew
  refine gm hs 0 rfl rfl rfl hC fun a hs => ?_
  refine gv hs 1 rfl rfl hC (fun w hC => y_nilCheck rfl) fun a hs => ?_
  refine gv hs 2 rfl rfl hC (fun w hC => y_fieldAddr (o' := 1) Try.runUnderlying57 rfl Try.sizeOf3 rfl rfl rfl) fun a hs => ?_
  refine gv hs 3 rfl rfl hC (fun w hC => y_loadB1 (hC.ownAt 0 rfl) rfl Try.isAgg3 rfl) fun a hs => ?_
  refine gm hs 4 rfl rfl rfl hC fun a hs => ?_
  refine gv hs 5 rfl rfl hC (fun w hC => y_nilCheck rfl) fun a hs => ?_
  refine gv hs 6 rfl rfl hC (fun w hC => y_fieldAddr (o' := 0) Try.runUnderlying57 rfl Try.sizeOf22 rfl rfl rfl) fun a hs => ?_
  refine gv hs 7 rfl rfl hC (fun w hC => y_loadB1 (hC.ownAt 0 rfl) rfl Try.isAgg22 rfl) fun a hs => ?_
  refine gv hs 8 rfl rfl hC (fun w hC => y_len Try.runUnderlying22 rfl) fun a hs => ?_
  refine gv hs 9 rfl rfl hC (fun w hC => y_geq rfl rfl) fun a hs => ?_
  refine gm hs 10 rfl rfl rfl hC fun a hs => ?_
  have hs := hs.fix 16 (.bool false) rfl (vb h8)
  refine gt hs 11 rfl ⟨_, rfl, rfl⟩ rfl hC (fun w hC => y_move rfl) fun a hs => ?_
  refine gt hs 12 rfl ⟨_, rfl, rfl⟩ rfl hC (fun w hC => y_lss rfl rfl) fun a hs => ?_
  refine gv hs 13 rfl rfl hC (fun w hC => y_pickFE (v := .bool ((decide ((d1.L.length : Int) ≤ d1.At)) || (decide (n6 < 1)))) rfl rfl (or_f h8)) fun a hs => ?_
  refine h_done (by kernel_rfl) ?_
  exact ⟨S0, (hs.wk rfl), (hw.ft [0] [0] (by decide) rfl rfl)⟩
 rintro a w ⟨Sv7, hs, hw⟩
 refine then_normal ?_
 refine wp_cond_split (hs.ev rfl) (fun h12 => ?_) (fun h12 => ?_)
 ·have hsh := ite_t hsh h12
  refine sr ?_
  refine av hs rfl rfl fun a hs => ?_
  refine nl ?_
  have hsh := oi hsh
  subst hsh
  refine wp_ret ?_
  refine then_ret ?_
  exact ret1 hs rfl (rv_tmp rfl) (hw.ret ⟨p3, k4, rfl, (hw.outs [0] (by decide) rfl), (hw.envAt 0 rfl)⟩)
 have hsh := ite_f hsh h12
 refine wp_skip ?_
 refine then_normal ?_
 refine wp_seq ?_
 obtain ⟨x15, h13, hsh⟩ := bind_t hsh
 obtain ⟨b21, o22, q19, c20, h23, h16, h17, h18, h14⟩ := hw.elemV 0 rfl h13
 have hsv24 := hs
 have hwv25 := hw
 subst h23
 have hs := hsv24
 have hw := hwv25
 obtain ⟨_, rfl, rfl⟩ := h14
 have hw := hw.addE h18
 obtain ⟨rem27, h26, hsh⟩ := bind_t hsh
 refine wp_only (fun a w => ∃ (Sv28 : Nat → Prop), Sl 45 [(0, .pointer (some ⟨b2, 0, none⟩)), (1, .int .i64 n6), (5, .int .i64 rem27)] a ∧ Wd ⟨w0, S0, blks [.box b2 [.slice (some ⟨b21, o22, none⟩) d1.L.length k4, .int .i64 d1.At] 57]⟩ Sv28 [.box b2 [.slice (some ⟨b21, o22, none⟩) d1.L.length k4, .int .i64 d1.At] 57] [SlA (some ⟨b21, o22, none⟩) d1.L.length k4 d1.L] w) ?_ ?_
 ·refine h_b (C := Cls [.box b2 [.slice (some ⟨b21, o22, none⟩) d1.L.length k4, .int .i64 d1.At] 57] [CeA b21 q19 [.int .i64 x15]]) (by kernel_rfl) rfl (hw.drew.cs [0] [0] rfl rfl) fun hC => ?_
  have hw := hw.drew
  refine gm hs 0 rfl rfl rfl hC fun a hs => ?_
  refine gv hs 1 rfl rfl hC (fun w hC => y_nilCheck rfl) fun a hs => ?_
  refine gv hs 2 rfl rfl hC (fun w hC => y_fieldAddr (o' := 0) Try.runUnderlying57 rfl Try.sizeOf22 rfl rfl rfl) fun a hs => ?_
  refine gv hs 3 rfl rfl hC (fun w hC => y_loadB1 (hC.ownAt 0 rfl) rfl Try.isAgg22 rfl) fun a hs => ?_
  refine gm hs 4 rfl rfl rfl hC fun a hs => ?_
  refine gv hs 5 rfl rfl hC (fun w hC => y_nilCheck rfl) fun a hs => ?_
  refine gv hs 6 rfl rfl hC (fun w hC => y_fieldAddr (o' := 1) Try.runUnderlying57 rfl Try.sizeOf3 rfl rfl rfl) fun a hs => ?_
  refine gv hs 7 rfl rfl hC (fun w hC => y_loadB1 (hC.ownAt 0 rfl) rfl Try.isAgg3 rfl) fun a hs => ?_
  refine gv hs 8 rfl rfl hC (fun w hC => y_indexAt Try.runUnderlying22 Try.sizeOf3 rfl rfl h16.1 h16.2 h17) fun a hs => ?_
  refine gv hs 9 rfl rfl hC (fun w hC => y_loadE1 (j := 0) (hC.ceAt 0 rfl) rfl Try.isAgg3 rfl) fun a hs => ?_
  refine gm hs 10 rfl rfl rfl hC fun a hs => ?_
  refine gv hs 11 rfl rfl hC (fun w hC => y_remM rfl rfl h26) fun a hs => ?_
  refine gv hs 12 rfl rfl hC (fun w hC => y_assign rfl) fun a hs => ?_
  refine h_done (by kernel_rfl) ?_
  exact ⟨Sv7, (hs.wk rfl), (hw.ft [0] [1] (by decide) rfl rfl)⟩
 rintro a w ⟨Sv28, hs, hw⟩
 refine then_normal ?_
 refine sr ?_
 refine mv hs rfl rfl fun a hs => ?_
 refine sv hs (y_nilCheck rfl) rfl fun a hs => ?_
 refine sv hs (y_fieldAddr (o' := 1) Try.runUnderlying57 rfl Try.sizeOf3 rfl rfl rfl) rfl fun a hs => ?_
 refine sv hs (y_loadB1 (hw.ownAt 0 rfl) rfl Try.isAgg3 rfl) rfl fun a hs => ?_
 refine sv hs (y_add rfl rfl) rfl fun a hs => ?_
 refine sv hs (y_nilCheck rfl) rfl fun a hs => ?_
 refine sv hs (y_fieldAddr (o' := 1) Try.runUnderlying57 rfl Try.sizeOf3 rfl rfl rfl) rfl fun a hs => ?_
 refine w_store (m := 1) (cs' := [.slice (some ⟨b21, o22, none⟩) d1.L.length k4, .int .i64 (w64 (d1.At + 1))]) hs hw 0 rfl rfl rfl Try.sizeOf3 rfl rfl rfl rfl trivial ?_
 intro a w hs hw
 refine nl ?_
 refine wp_seq ?_
 refine sr ?_
 refine mv hs rfl rfl fun a hs => ?_
 refine sv hs (y_lss rfl rfl) rfl fun a hs => ?_
 refine nl ?_
 refine wp_join (fun a w => ∃ (x33 : Int) (Sv32 : Nat → Prop), made_Dice_Next_j1 d1 x33 = some r ∧ Sl 45 [(5, .int .i64 x33)] a ∧ Wd ⟨w0, S0, blks [.box b2 [.slice (some ⟨b21, o22, none⟩) d1.L.length k4, .int .i64 d1.At] 57]⟩ Sv32 [.box b2 [.slice (some ⟨b21, o22, none⟩) d1.L.length k4, .int .i64 (w64 (d1.At + 1))] 57] [SlA (some ⟨b21, o22, none⟩) d1.L.length k4 d1.L] w) ?_ ?_
 ·refine wp_cond_split (hs.ev rfl) (fun h34 => ?_) (fun h34 => ?_)
  ·have hsh := ite_t hsh h34
   refine wp_region_lit ?_
   refine mv hs rfl rfl fun a hs => ?_
   refine mv hs rfl rfl fun a hs => ?_
   refine sv hs (y_add rfl rfl) rfl fun a hs => ?_
   obtain ⟨x36, h35, hsh⟩ := bind_t hsh
   refine sv hs (y_assignI rfl h35) rfl fun a hs => ?_
   refine nl ?_
   exact ⟨x36, Sv28, hsh, (hs.wk rfl), (hw.ft [0] [0] (by decide) rfl rfl)⟩
  have hsh := ite_f hsh h34
  refine wp_skip ?_
  refine then_normal ?_
  exact ⟨rem27, Sv28, hsh, (hs.wk rfl), (hw.ft [0] [0] (by decide) rfl rfl)⟩
 rintro a w ⟨x33, Sv32, hsh, hs, hw⟩
 delta made_Dice_Next_j1 at hsh
 refine then_normal ?_
 refine sr ?_
 refine mv hs rfl rfl fun a hs => ?_
 refine av hs rfl rfl fun a hs => ?_
 refine nl ?_
 have hsh := oi hsh
 subst hsh
 refine wp_ret ?_
 exact ret1 hs rfl (rv_tmp rfl) (hw.ret ⟨(some ⟨b21, o22, none⟩), k4, rfl, (hw.outs [0] (by decide) rfl), (hw.envAt 0 rfl)⟩)

abbrev ref08_Valid_rd (w0 : World) (X : List Nat) (r : Bool) : (Nat → Prop) → World → Value → Prop := fun S w v => v = .bool r
set_option maxHeartbeats 4000000 in
set_option maxRecDepth 100000 in
theorem ref08_Valid_ok {w0 : World} {S0 : Nat → Prop} {p2 : Option Addr} {k3 : Nat} {l1 : (List Span)} {r : Bool} (hsh : ref08_Valid l1 = some r) (hS : ∀ b, S0 b → b < w0.heap.size) (h4 : (SlA p2 l1.length k3 l1).p S0 w0) : Calls Try.prog 59 #[.slice p2 l1.length k3] w0 (Ret ([]) w0 S0 (ref08_Valid_rd w0 ([]) r)) := by
 refine calls_of_wp Try.func59 rfl ?_
 have hs := Sl.enter #[.slice p2 l1.length k3] 39 [(0, .slice p2 l1.length k3)] rfl ⟨rfl, trivial⟩
 have hw := Wd.enter (E := []) hS (fun _ h => (by cases h))
 have hw := hw.addE h4
 delta ref08_Valid at hsh
 refine sr ?_
 refine av hs rfl rfl fun a hs => ?_
 refine nl ?_
 refine wp_seq ?_
 refine sr ?_
 refine av hs rfl rfl fun a hs => ?_
 refine nl ?_
 refine wp_block ?_
 refine wp_while (fun sv142 a w => ∃ (Sv232 : Nat → Prop), Sl 39 [(0, .slice p2 l1.length k3), (3, .int .i64 sv142)] a ∧ Wd ⟨w0, S0, []⟩ Sv232 [] [SlA p2 l1.length k3 l1] w) 0 hsh ⟨S0, (hs.wk rfl), (hw.ft [] [0] (by decide) rfl rfl)⟩ ?_
 repeat clear hsh
 rintro sv142 a w tv278 ⟨Sv232, hs, hw⟩ hsh hd277
 delta ref08_Valid_l2 at hsh
 refine wp_seq ?_
 refine sr ?_
 refine mv hs rfl rfl fun a hs => ?_
 refine mv hs rfl rfl fun a hs => ?_
 refine sv hs (y_len Try.runUnderlying27 rfl) rfl fun a hs => ?_
 refine sv hs (y_lss rfl rfl) rfl fun a hs => ?_
 refine nl ?_
 refine wp_cond_split (hs.ev rfl) (fun h282 => ?_) (fun h282 => ?_)
 ·have hsh := ite_t hsh h282
  refine wp_skip ?_
  refine then_normal ?_
  refine wp_seq ?_
  refine wp_block ?_
  refine wp_seq ?_
  obtain ⟨x326, h324, hsh⟩ := bind_t hsh
  obtain ⟨b332, o333, q330, c331, h334, h327, h328, h329, h325⟩ := hw.elemV 0 rfl h324
  have hsv335 := hs
  have hwv336 := hw
  subst h334
  have hs := hsv335
  have hw := hwv336
  obtain ⟨_, _, rfl, rfl, rfl⟩ := h325
  have hw := hw.addE h329
  obtain ⟨x339, h337, hsh⟩ := bind_t hsh
  obtain ⟨q343, c344, h340, h341, h342, h338⟩ := hw.elemK 1 rfl h337
  obtain ⟨_, _, rfl, rfl, rfl⟩ := h338
  have hw := hw.addE h342
  obtain ⟨c362, hc362, hsh⟩ := bind_t hsh
  refine wp_only (fun a w => ∃ (Sv363 : Nat → Prop), Sl 39 [(0, .slice (some ⟨b332, o333, none⟩) l1.length k3), (3, .int .i64 sv142), (38, .bool c362)] a ∧ Wd ⟨w0, S0, []⟩ Sv363 [] [SlA (some ⟨b332, o333, none⟩) l1.length k3 l1] w) ?_ ?_
  ·rcases Bool.eq_false_or_eq_true (decide (x339.To ≤ x326.From)) with h364 | h364
   ·have h365 := ite_t hc362 h364
    refine h_b (C := Cls [] [CeA b332 q343 [.int .i64 x339.From, .int .i64 x339.To], CeA b332 q330 [.int .i64 x326.From, .int .i64 x326.To]]) (by kernel_rfl) rfl (hw.drew.cs [] [0, 1] rfl rfl) fun hC => ?_
    have hw := hw.drew
    refine gm hs 0 rfl rfl rfl hC fun a hs => ?_
    refine gm hs 1 rfl rfl rfl hC fun a hs => ?_
    refine gv hs 2 rfl rfl hC (fun w hC => y_indexAt Try.runUnderlying27 Try.sizeOf46 rfl rfl h327.1 h327.2 h328) fun a hs => ?_
    refine gv hs 3 rfl rfl hC (fun w hC => y_fieldAddr (o' := q330 + 0) Try.runUnderlying46 rfl Try.sizeOf3 rfl rfl rfl) fun a hs => ?_
    refine gv hs 4 rfl rfl hC (fun w hC => y_loadE1 (j := 0) (hC.ceAt 1 rfl) rfl Try.isAgg3 rfl) fun a hs => ?_
    refine gm hs 5 rfl rfl rfl hC fun a hs => ?_
    refine gm hs 6 rfl rfl rfl hC fun a hs => ?_
    refine gv hs 7 rfl rfl hC (fun w hC => y_indexAt Try.runUnderlying27 Try.sizeOf46 rfl rfl h340.1 h340.2 h341) fun a hs => ?_
    refine gv hs 8 rfl rfl hC (fun w hC => y_fieldAddr (o' := q343 + 1) Try.runUnderlying46 rfl Try.sizeOf3 rfl rfl rfl) fun a hs => ?_
    refine gv hs 9 rfl rfl hC (fun w hC => y_loadE1 (j := 1) (hC.ceAt 0 rfl) rfl Try.isAgg3 rfl) fun a hs => ?_
    refine gv hs 10 rfl rfl hC (fun w hC => y_geq rfl rfl) fun a hs => ?_
    refine gm hs 11 rfl rfl rfl hC fun a hs => ?_
    have hs := hs.fix 21 (.bool true) rfl (vb h364)
    refine gs hs 12 rfl rfl rfl rfl hC fun a hs => ?_
    refine gs hs 13 rfl rfl rfl rfl hC fun a hs => ?_
    refine gs hs 14 rfl rfl rfl rfl hC fun a hs => ?_
    refine h_s hs 15 rfl (by kernel_rfl) rfl rfl rfl (.inr rfl) rfl rfl hC fun a hs => ?_
    refine h_s hs 16 rfl (by kernel_rfl) rfl rfl rfl (.inr rfl) rfl rfl hC fun a hs => ?_
    refine h_s hs 17 rfl (by kernel_rfl) rfl rfl rfl (.inr rfl) rfl rfl hC fun a hs => ?_
    refine h_s hs 18 rfl (by kernel_rfl) rfl rfl rfl (.inr rfl) rfl rfl hC fun a hs => ?_
    refine h_s hs 19 rfl (by kernel_rfl) rfl rfl rfl (.inr rfl) rfl rfl hC fun a hs => ?_
    refine h_s hs 20 rfl (by kernel_rfl) rfl rfl rfl (.inr rfl) rfl rfl hC fun a hs => ?_
    refine h_s hs 21 rfl (by kernel_rfl) rfl rfl rfl (.inr rfl) rfl rfl hC fun a hs => ?_
    refine h_s hs 22 rfl (by kernel_rfl) rfl rfl rfl (.inr rfl) rfl rfl hC fun a hs => ?_
    refine h_s hs 23 rfl (by kernel_rfl) rfl rfl rfl (.inr rfl) rfl rfl hC fun a hs => ?_
    refine h_s hs 24 rfl (by kernel_rfl) rfl rfl rfl (.inr rfl) rfl rfl hC fun a hs => ?_
    refine h_s hs 25 rfl (by kernel_rfl) rfl rfl rfl (.inr rfl) rfl rfl hC fun a hs => ?_
    refine h_s hs 26 rfl (by kernel_rfl) rfl rfl rfl (.inr rfl) rfl rfl hC fun a hs => ?_
    refine gs hs 27 rfl rfl rfl rfl hC fun a hs => ?_
    refine gv hs 28 rfl rfl hC (fun w hC => y_pickTE (v := .bool c362) rfl rfl (vbs h365)) fun a hs => ?_
    refine h_done (by kernel_rfl) ?_
    exact ⟨Sv232, (hs.wk rfl), (hw.ft [] [2] (by decide) rfl rfl)⟩
   have h366 := ite_f hc362 h364
   obtain ⟨c383, hc383, h366⟩ := bind_t h366
   rcases Bool.eq_false_or_eq_true (decide (0 < sv142)) with h384 | h384
   ·have h385 := ite_t hc383 h384
    obtain ⟨x388, h386, h385⟩ := bind_t h385
    obtain ⟨q392, c393, h389, h390, h391, h387⟩ := hw.elemK 2 rfl h386
    obtain ⟨_, _, rfl, rfl, rfl⟩ := h387
    have hw := hw.addE h391
    obtain ⟨x396, h394, h385⟩ := bind_t h385
    obtain ⟨q400, c401, h397, h398, h399, h395⟩ := hw.elemK 3 rfl h394
    obtain ⟨_, _, rfl, rfl, rfl⟩ := h395
    have hw := hw.addE h399
    refine h_b (C := Cls [] [CeA b332 q400 [.int .i64 x396.From, .int .i64 x396.To], CeA b332 q392 [.int .i64 x388.From, .int .i64 x388.To], CeA b332 q343 [.int .i64 x339.From, .int .i64 x339.To], CeA b332 q330 [.int .i64 x326.From, .int .i64 x326.To]]) (by kernel_rfl) rfl (hw.drew.cs [] [0, 1, 2, 3] rfl rfl) fun hC => ?_
    have hw := hw.drew
    refine gm hs 0 rfl rfl rfl hC fun a hs => ?_
    refine gm hs 1 rfl rfl rfl hC fun a hs => ?_
    refine gv hs 2 rfl rfl hC (fun w hC => y_indexAt Try.runUnderlying27 Try.sizeOf46 rfl rfl h327.1 h327.2 h328) fun a hs => ?_
    refine gv hs 3 rfl rfl hC (fun w hC => y_fieldAddr (o' := q330 + 0) Try.runUnderlying46 rfl Try.sizeOf3 rfl rfl rfl) fun a hs => ?_
    refine gv hs 4 rfl rfl hC (fun w hC => y_loadE1 (j := 0) (hC.ceAt 3 rfl) rfl Try.isAgg3 rfl) fun a hs => ?_
    refine gm hs 5 rfl rfl rfl hC fun a hs => ?_
    refine gm hs 6 rfl rfl rfl hC fun a hs => ?_
    refine gv hs 7 rfl rfl hC (fun w hC => y_indexAt Try.runUnderlying27 Try.sizeOf46 rfl rfl h340.1 h340.2 h341) fun a hs => ?_
    refine gv hs 8 rfl rfl hC (fun w hC => y_fieldAddr (o' := q343 + 1) Try.runUnderlying46 rfl Try.sizeOf3 rfl rfl rfl) fun a hs => ?_
    refine gv hs 9 rfl rfl hC (fun w hC => y_loadE1 (j := 1) (hC.ceAt 2 rfl) rfl Try.isAgg3 rfl) fun a hs => ?_
    refine gv hs 10 rfl rfl hC (fun w hC => y_geq rfl rfl) fun a hs => ?_
    refine gm hs 11 rfl rfl rfl hC fun a hs => ?_
    have hs := hs.fix 21 (.bool false) rfl (vb h364)
    refine gt hs 12 rfl ⟨_, rfl, rfl⟩ rfl hC (fun w hC => y_move rfl) fun a hs => ?_
    refine gt hs 13 rfl ⟨_, rfl, rfl⟩ rfl hC (fun w hC => y_gtr rfl rfl) fun a hs => ?_
    refine gt hs 14 rfl ⟨_, rfl, rfl⟩ rfl hC (fun w hC => y_move rfl) fun a hs => ?_
    have hs := hs.fix 24 (.bool true) rfl (vb h384)
    refine gt hs 15 rfl ⟨_, rfl, rfl⟩ rfl hC (fun w hC => y_move rfl) fun a hs => ?_
    refine gt hs 16 rfl ⟨_, rfl, rfl⟩ rfl hC (fun w hC => y_move rfl) fun a hs => ?_
    refine gt hs 17 rfl ⟨_, rfl, rfl⟩ rfl hC (fun w hC => y_indexAt Try.runUnderlying27 Try.sizeOf46 rfl rfl h389.1 h389.2 h390) fun a hs => ?_
    refine gt hs 18 rfl ⟨_, rfl, rfl⟩ rfl hC (fun w hC => y_fieldAddr (o' := q392 + 0) Try.runUnderlying46 rfl Try.sizeOf3 rfl rfl rfl) fun a hs => ?_
    refine gt hs 19 rfl ⟨_, rfl, rfl⟩ rfl hC (fun w hC => y_loadE1 (j := 0) (hC.ceAt 1 rfl) rfl Try.isAgg3 rfl) fun a hs => ?_
    refine gt hs 20 rfl ⟨_, rfl, rfl⟩ rfl hC (fun w hC => y_move rfl) fun a hs => ?_
    refine gt hs 21 rfl ⟨_, rfl, rfl⟩ rfl hC (fun w hC => y_move rfl) fun a hs => ?_
    refine gt hs 22 rfl ⟨_, rfl, rfl⟩ rfl hC (fun w hC => y_sub rfl rfl) fun a hs => ?_
    refine gt hs 23 rfl ⟨_, rfl, rfl⟩ rfl hC (fun w hC => y_indexAt Try.runUnderlying27 Try.sizeOf46 rfl rfl h397.1 h397.2 h398) fun a hs => ?_
    refine gt hs 24 rfl ⟨_, rfl, rfl⟩ rfl hC (fun w hC => y_fieldAddr (o' := q400 + 1) Try.runUnderlying46 rfl Try.sizeOf3 rfl rfl rfl) fun a hs => ?_
    refine gt hs 25 rfl ⟨_, rfl, rfl⟩ rfl hC (fun w hC => y_loadE1 (j := 1) (hC.ceAt 0 rfl) rfl Try.isAgg3 rfl) fun a hs => ?_
    refine gt hs 26 rfl ⟨_, rfl, rfl⟩ rfl hC (fun w hC => y_leq rfl rfl) fun a hs => ?_
    refine gt hs 27 rfl ⟨_, rfl, rfl⟩ rfl hC (fun w hC => y_pickTE (v := .bool c383) rfl rfl (vbs h385)) fun a hs => ?_
    refine gv hs 28 rfl rfl hC (fun w hC => y_pickFE (v := .bool c362) rfl rfl (vbs h366)) fun a hs => ?_
    refine h_done (by kernel_rfl) ?_
    exact ⟨Sv232, (hs.wk rfl), (hw.ft [] [4] (by decide) rfl rfl)⟩
   have h402 := ite_f hc383 h384
   refine h_b (C := Cls [] [CeA b332 q343 [.int .i64 x339.From, .int .i64 x339.To], CeA b332 q330 [.int .i64 x326.From, .int .i64 x326.To]]) (by kernel_rfl) rfl (hw.drew.cs [] [0, 1] rfl rfl) fun hC => ?_
   have hw := hw.drew
   refine gm hs 0 rfl rfl rfl hC fun a hs => ?_
   refine gm hs 1 rfl rfl rfl hC fun a hs => ?_
   refine gv hs 2 rfl rfl hC (fun w hC => y_indexAt Try.runUnderlying27 Try.sizeOf46 rfl rfl h327.1 h327.2 h328) fun a hs => ?_
   refine gv hs 3 rfl rfl hC (fun w hC => y_fieldAddr (o' := q330 + 0) Try.runUnderlying46 rfl Try.sizeOf3 rfl rfl rfl) fun a hs => ?_
   refine gv hs 4 rfl rfl hC (fun w hC => y_loadE1 (j := 0) (hC.ceAt 1 rfl) rfl Try.isAgg3 rfl) fun a hs => ?_
   refine gm hs 5 rfl rfl rfl hC fun a hs => ?_
   refine gm hs 6 rfl rfl rfl hC fun a hs => ?_
   refine gv hs 7 rfl rfl hC (fun w hC => y_indexAt Try.runUnderlying27 Try.sizeOf46 rfl rfl h340.1 h340.2 h341) fun a hs => ?_
   refine gv hs 8 rfl rfl hC (fun w hC => y_fieldAddr (o' := q343 + 1) Try.runUnderlying46 rfl Try.sizeOf3 rfl rfl rfl) fun a hs => ?_
   refine gv hs 9 rfl rfl hC (fun w hC => y_loadE1 (j := 1) (hC.ceAt 0 rfl) rfl Try.isAgg3 rfl) fun a hs => ?_
   refine gv hs 10 rfl rfl hC (fun w hC => y_geq rfl rfl) fun a hs => ?_
   refine gm hs 11 rfl rfl rfl hC fun a hs => ?_
   have hs := hs.fix 21 (.bool false) rfl (vb h364)
   refine gt hs 12 rfl ⟨_, rfl, rfl⟩ rfl hC (fun w hC => y_move rfl) fun a hs => ?_
   refine gt hs 13 rfl ⟨_, rfl, rfl⟩ rfl hC (fun w hC => y_gtr rfl rfl) fun a hs => ?_
   refine gt hs 14 rfl ⟨_, rfl, rfl⟩ rfl hC (fun w hC => y_move rfl) fun a hs => ?_
   have hs := hs.fix 24 (.bool false) rfl (vb h384)
   refine gs hs 15 rfl rfl rfl rfl hC fun a hs => ?_
   refine gs hs 16 rfl rfl rfl rfl hC fun a hs => ?_
   refine gs hs 17 rfl rfl rfl rfl hC fun a hs => ?_
   refine gs hs 18 rfl rfl rfl rfl hC fun a hs => ?_
   refine gs hs 19 rfl rfl rfl rfl hC fun a hs => ?_
   refine gs hs 20 rfl rfl rfl rfl hC fun a hs => ?_
   refine gs hs 21 rfl rfl rfl rfl hC fun a hs => ?_
   refine gs hs 22 rfl rfl rfl rfl hC fun a hs => ?_
   refine gs hs 23 rfl rfl rfl rfl hC fun a hs => ?_
   refine gs hs 24 rfl rfl rfl rfl hC fun a hs => ?_
   refine gs hs 25 rfl rfl rfl rfl hC fun a hs => ?_
   refine gs hs 26 rfl rfl rfl rfl hC fun a hs => ?_
   refine gt hs 27 rfl ⟨_, rfl, rfl⟩ rfl hC (fun w hC => y_pickFE (v := .bool c383) rfl rfl (vbs h402)) fun a hs => ?_
   refine gv hs 28 rfl rfl hC (fun w hC => y_pickFE (v := .bool c362) rfl rfl (vbs h366)) fun a hs => ?_
   refine h_done (by kernel_rfl) ?_
   exact ⟨Sv232, (hs.wk rfl), (hw.ft [] [2] (by decide) rfl rfl)⟩
  rintro a w ⟨Sv363, hs, hw⟩
  refine then_normal ?_
  refine wp_cond_split (hs.ev rfl) (fun h404 => ?_) (fun h404 => ?_)
  ·have hsh := ite_t hsh h404
   refine sr ?_
   refine av hs rfl rfl fun a hs => ?_
   refine nl ?_
   have hsh := oi hsh
   subst hsh
   have h405 := hd277 _ rfl
   subst h405
   refine wp_ret ?_
   refine blk_ret ?_
   refine then_ret ?_
   refine then_ret ?_
   refine blk_ret ?_
   refine then_ret ?_
   exact ret1 hs rfl (rv_tmp rfl) (hw.ret rfl)
  have hsh := ite_f hsh h404
  refine wp_skip ?_
  refine blk_normal ?_
  refine then_normal ?_
  refine wp_region_lit ?_
  refine mv hs rfl rfl fun a hs => ?_
  refine sv hs (y_add rfl rfl) rfl fun a hs => ?_
  obtain ⟨i407, h406, hsh⟩ := bind_t hsh
  refine sv hs (y_assignI rfl h406) rfl fun a hs => ?_
  refine nl ?_
  exact ⟨_, (Option.some.inj hsh).symm, Sv363, (hs.wk rfl), (hw.ft [] [0] (by decide) rfl rfl)⟩
 have hsh := ite_f hsh h282
 obtain ⟨rv408, hsh, h409⟩ := map_t hsh
 have h409 := (hd277 _ h409.symm).symm
 subst h409
 refine wp_exit ?_
 refine then_exit ?_
 refine then_exit ?_
 refine blk_exit ?_
 refine then_normal ?_
 refine sr ?_
 refine av hs rfl rfl fun a hs => ?_
 refine nl ?_
 have hsh := oi hsh
 subst hsh
 refine wp_ret ?_
 exact ret1 hs rfl (rv_tmp rfl) (hw.ret rfl)

abbrev ref11_numbers_rd (w0 : World) (X : List Nat) (r : Bool) : (Nat → Prop) → World → Value → Prop := fun S w v => v = .bool r
set_option maxHeartbeats 4000000 in
set_option maxRecDepth 100000 in
theorem ref11_numbers_ok {w0 : World} {S0 : Nat → Prop} {p2 : Option Addr} {k3 : Nat} {l1 : (List Span)} {r : Bool} (hsh : ref11_numbers l1 = some r) (hS : ∀ b, S0 b → b < w0.heap.size) (h4 : (SlA p2 l1.length k3 l1).p S0 w0) : Calls Try.prog 49 #[.slice p2 l1.length k3] w0 (Ret ([]) w0 S0 (ref11_numbers_rd w0 ([]) r)) := by
 refine calls_of_wp Try.func49 rfl ?_
 have hs := Sl.enter #[.slice p2 l1.length k3] 26 [(0, .slice p2 l1.length k3)] rfl ⟨rfl, trivial⟩
 have hw := Wd.enter (E := []) hS (fun _ h => (by cases h))
 have hw := hw.addE h4
 delta ref11_numbers at hsh
 refine sr ?_
 refine av hs rfl rfl fun a hs => ?_
 refine nl ?_
 refine wp_seq ?_
 refine sr ?_
 refine av hs rfl rfl fun a hs => ?_
 refine nl ?_
 refine wp_block ?_
 refine wp_while (fun sv118 a w => ∃ (Sv192 : Nat → Prop), Sl 26 [(0, .slice p2 l1.length k3), (3, .int .i64 sv118)] a ∧ Wd ⟨w0, S0, []⟩ Sv192 [] [SlA p2 l1.length k3 l1] w) 0 hsh ⟨S0, (hs.wk rfl), (hw.ft [] [0] (by decide) rfl rfl)⟩ ?_
 repeat clear hsh
 rintro sv118 a w tv230 ⟨Sv192, hs, hw⟩ hsh hd229
 delta ref11_numbers_l2 at hsh
 refine wp_seq ?_
 refine sr ?_
 refine mv hs rfl rfl fun a hs => ?_
 refine mv hs rfl rfl fun a hs => ?_
 refine sv hs (y_len Try.runUnderlying27 rfl) rfl fun a hs => ?_
 refine sv hs (y_lss rfl rfl) rfl fun a hs => ?_
 refine nl ?_
 refine wp_cond_split (hs.ev rfl) (fun h234 => ?_) (fun h234 => ?_)
 ·have hsh := ite_t hsh h234
  refine wp_skip ?_
  refine then_normal ?_
  refine wp_seq ?_
  refine wp_block ?_
  refine sr ?_
  refine mv hs rfl rfl fun a hs => ?_
  refine mv hs rfl rfl fun a hs => ?_
  obtain ⟨x270, h268, hsh⟩ := bind_t hsh
  obtain ⟨b276, o277, q274, c275, h278, h271, h272, h273, h269⟩ := hw.elemV 0 rfl h268
  have hsv279 := hs
  have hwv280 := hw
  subst h278
  have hs := hsv279
  have hw := hwv280
  obtain ⟨_, _, rfl, rfl, rfl⟩ := h269
  have hw := hw.addE h273
  refine sv hs (y_indexAt Try.runUnderlying27 Try.sizeOf46 rfl rfl h271.1 h271.2 h272) rfl fun a hs => ?_
  refine sv hs (y_fieldAddr (o' := q274 + 0) Try.runUnderlying46 rfl Try.sizeOf3 rfl rfl rfl) rfl fun a hs => ?_
  refine sv hs (y_loadE1 (j := 0) (hw.ceAt 0 rfl) rfl Try.isAgg3 rfl) rfl fun a hs => ?_
  refine sv hs (y_lss rfl rfl) rfl fun a hs => ?_
  refine mv hs rfl rfl fun a hs => ?_
  obtain ⟨c290, hc290, hsh⟩ := bind_t hsh
  refine wpl_join 7 (fun a w => ∃ (Sv291 : Nat → Prop), Sl 26 [(0, .slice (some ⟨b276, o277, none⟩) l1.length k3), (3, .int .i64 sv118), (23, .bool c290)] a ∧ Wd ⟨w0, S0, []⟩ Sv291 [] [SlA (some ⟨b276, o277, none⟩) l1.length k3 l1] w) ?_ ?_
  ·rcases Bool.eq_false_or_eq_true (decide (x270.From < 0)) with h289 | h289
   ·have hs := hs.fix 16 (.bool true) rfl (vb h289)
    have hsh := ite_t hc290 h289
    refine st_skip hs rfl rfl rfl rfl rfl fun a hs => ?_
    refine st_skip hs rfl rfl rfl rfl rfl fun a hs => ?_
    refine st_skip hs rfl rfl rfl rfl rfl fun a hs => ?_
    refine st_skip hs rfl rfl rfl rfl rfl fun a hs => ?_
    refine st_skip hs rfl rfl rfl rfl rfl fun a hs => ?_
    refine st_skip hs rfl rfl rfl rfl rfl fun a hs => ?_
    refine sv hs (y_pickT rfl rfl) rfl fun a hs => ?_
    refine wpList_nil ?_
    have hsh := oi hsh
    subst hsh
    refine then_normal ?_
    exact ⟨Sv192, (hs.wk rfl), (hw.ft [] [1] (by decide) rfl rfl)⟩
   have hs := hs.fix 16 (.bool false) rfl (vb h289)
   have hsh := ite_f hc290 h289
   refine st_val hs (y_move rfl) ⟨_, rfl, rfl⟩ rfl rfl fun a hs => ?_
   refine st_val hs (y_move rfl) ⟨_, rfl, rfl⟩ rfl rfl fun a hs => ?_
   obtain ⟨x294, h292, hsh⟩ := bind_t hsh
   obtain ⟨q298, c299, h295, h296, h297, h293⟩ := hw.elemK 1 rfl h292
   obtain ⟨_, _, rfl, rfl, rfl⟩ := h293
   have hw := hw.addE h297
   refine st_val hs (y_indexAt Try.runUnderlying27 Try.sizeOf46 rfl rfl h295.1 h295.2 h296) ⟨_, rfl, rfl⟩ rfl rfl fun a hs => ?_
   refine st_val hs (y_fieldAddr (o' := q298 + 1) Try.runUnderlying46 rfl Try.sizeOf3 rfl rfl rfl) ⟨_, rfl, rfl⟩ rfl rfl fun a hs => ?_
   refine st_val hs (y_loadE1 (j := 1) (hw.ceAt 0 rfl) rfl Try.isAgg3 rfl) ⟨_, rfl, rfl⟩ rfl rfl fun a hs => ?_
   refine st_val hs (y_gtr rfl rfl) ⟨_, rfl, rfl⟩ rfl rfl fun a hs => ?_
   refine sv hs (y_pickF rfl rfl) rfl fun a hs => ?_
   refine wpList_nil ?_
   have hsh := oi hsh
   subst hsh
   refine then_normal ?_
   exact ⟨Sv192, (hs.wk rfl), (hw.ft [] [2] (by decide) rfl rfl)⟩
  rintro a w ⟨Sv291, hs, hw⟩
  refine nl ?_
  refine wp_cond_split (hs.ev rfl) (fun h301 => ?_) (fun h301 => ?_)
  ·have hsh := ite_t hsh h301
   refine sr ?_
   refine av hs rfl rfl fun a hs => ?_
   refine nl ?_
   have hsh := oi hsh
   subst hsh
   have h302 := hd229 _ rfl
   subst h302
   refine wp_ret ?_
   refine blk_ret ?_
   refine then_ret ?_
   refine then_ret ?_
   refine blk_ret ?_
   refine then_ret ?_
   exact ret1 hs rfl (rv_tmp rfl) (hw.ret rfl)
  have hsh := ite_f hsh h301
  refine wp_skip ?_
  refine blk_normal ?_
  refine then_normal ?_
  refine wp_region_lit ?_
  refine mv hs rfl rfl fun a hs => ?_
  refine sv hs (y_add rfl rfl) rfl fun a hs => ?_
  obtain ⟨i304, h303, hsh⟩ := bind_t hsh
  refine sv hs (y_assignI rfl h303) rfl fun a hs => ?_
  refine nl ?_
  exact ⟨_, (Option.some.inj hsh).symm, Sv291, (hs.wk rfl), (hw.ft [] [0] (by decide) rfl rfl)⟩
 have hsh := ite_f hsh h234
 obtain ⟨rv312, hsh, h313⟩ := map_t hsh
 have h313 := (hd229 _ h313.symm).symm
 subst h313
 refine wp_exit ?_
 refine then_exit ?_
 refine then_exit ?_
 refine blk_exit ?_
 refine then_normal ?_
 refine sr ?_
 refine mv hs rfl rfl fun a hs => ?_
 obtain ⟨rv306, h305, hsh⟩ := bind_t hsh
 refine st_callR hs (ref08_Valid_ok h305 hw.bdom (hw.bE 0 rfl)) (do_call Try.call59 rfl) trivial rfl rfl ?_
 intro v310 Sv307 w a h308 h309 hs
 subst h309
 have hw := hw.callB h308
 refine av hs rfl rfl fun a hs => ?_
 refine nl ?_
 have hsh := oi hsh
 subst hsh
 refine wp_ret ?_
 exact ret1 hs rfl (rv_tmp rfl) (hw.ret rfl)

abbrev ref08_Normal_rd (w0 : World) (X : List Nat) (r : (List Span)) : (Nat → Prop) → World → Value → Prop := fun S w v => ∃ (p0_0 : Option Addr) (k0_0 : Nat) (c0_0 : List Value), v = .slice p0_0 r.length k0_0 ∧ Outs X w0 S w [.row p0_0 r.length k0_0 c0_0 46 2] ∧ (RowA c0_0 r).p S w
set_option maxHeartbeats 4000000 in
set_option maxRecDepth 100000 in
theorem ref08_Normal_ok {w0 : World} {S0 : Nat → Prop} {p2 : Option Addr} {k3 : Nat} {l1 : (List Span)} {r : (List Span)} (hsh : ref08_Normal l1 = some r) (hS : ∀ b, S0 b → b < w0.heap.size) (h4 : (SlA p2 l1.length k3 l1).p S0 w0) : Calls Try.prog 51 #[.slice p2 l1.length k3] w0 (Ret ([]) w0 S0 (ref08_Normal_rd w0 ([]) r)) := by
 refine calls_of_wp Try.func51 rfl ?_
 have hs := Sl.enter #[.slice p2 l1.length k3] 117 [(0, .slice p2 l1.length k3)] rfl ⟨rfl, trivial⟩
 have hw := Wd.enter (E := []) hS (fun _ h => (by cases h))
 have hw := hw.addE h4
 delta ref08_Normal at hsh
 refine sr ?_
 refine av hs rfl rfl fun a hs => ?_
 refine nl ?_
 refine sr ?_
 refine av hs rfl rfl fun a hs => ?_
 refine nl ?_
 refine wp_seq ?_
 refine sr ?_
 refine av hs rfl rfl fun a hs => ?_
 refine nl ?_
 obtain ⟨e539, h1541, hsh⟩ := bind_t hsh
 refine wp_join (fun a w => ∃ (c540 : List Value) (p541 : Option Addr) (k542 : Nat) (Sv543 : Nat → Prop), Sl 117 [(3, .slice p541 e539.length k542)] a ∧ Wd ⟨w0, S0, []⟩ Sv543 [.row p541 e539.length k542 c540 46 2] [RowA c540 e539] w) ?_ ?_
 ·refine wp_block ?_
  have hw := hw.nilRow Span 46
  refine wp_while (fun sv5 a w => ∃ (c358 : List Value) (p359 : Option Addr) (k360 : Nat) (Sv361 : Nat → Prop), Sl 117 [(0, .slice p2 l1.length k3), (3, .slice p359 sv5.1.length k360), (4, .int .i64 sv5.2)] a ∧ Wd ⟨w0, S0, []⟩ Sv361 [.row p359 sv5.1.length k360 c358 46 2] [SlA p2 l1.length k3 l1, RowA c358 sv5.1] w) (([] : List Span), 0) h1541 ⟨[], none, 0, S0, (hs.wk rfl), (hw.ft [0] [1, 0] (by decide) rfl rfl)⟩ ?_
  clear h1541
  repeat clear hsh
  rintro sv5 a w tv537 ⟨c358, p359, k360, Sv361, hs, hw⟩ hsh hd536
  delta ref08_Normal_l3 at hsh
  refine wp_seq ?_
  refine sr ?_
  refine mv hs rfl rfl fun a hs => ?_
  refine mv hs rfl rfl fun a hs => ?_
  refine sv hs (y_len Try.runUnderlying27 rfl) rfl fun a hs => ?_
  refine sv hs (y_lss rfl rfl) rfl fun a hs => ?_
  refine nl ?_
  refine wp_cond_split (hs.ev rfl) (fun h545 => ?_) (fun h545 => ?_)
  ·have hsh := ite_t hsh h545
   refine wp_skip ?_
   refine then_normal ?_
   refine wp_seq ?_
   refine wp_join (fun a w => ∃ (sorted716 : (List Span)) (c712 : List Value) (p713 : Option Addr) (k714 : Nat) (Sv715 : Nat → Prop), ref08_Normal_j1 sv5 sorted716 = some tv537 ∧ Sl 117 [(0, .slice p2 l1.length k3), (3, .slice p713 sorted716.length k714), (4, .int .i64 sv5.2)] a ∧ Wd ⟨w0, S0, []⟩ Sv715 [.row p713 sorted716.length k714 c712 46 2] [SlA p2 l1.length k3 l1, RowA c712 sorted716] w) ?_ ?_
   ·refine wp_block ?_
    refine wp_seq ?_
    refine wp_seq ?_
    obtain ⟨x721, h719, hsh⟩ := bind_t hsh
    obtain ⟨b727, o728, q725, c726, h729, h722, h723, h724, h720⟩ := hw.elemV 0 rfl h719
    have hsv730 := hs
    have hwv731 := hw
    subst h729
    have hs := hsv730
    have hw := hwv731
    obtain ⟨_, _, rfl, rfl, rfl⟩ := h720
    have hw := hw.addE h724
    obtain ⟨x734, h732, hsh⟩ := bind_t hsh
    obtain ⟨q738, c739, h735, h736, h737, h733⟩ := hw.elemK 1 rfl h732
    obtain ⟨_, _, rfl, rfl, rfl⟩ := h733
    have hw := hw.addE h737
    refine wp_only (fun a w => ∃ (Sv740 : Nat → Prop), Sl 117 [(0, .slice (some ⟨b727, o728, none⟩) l1.length k3), (3, .slice p359 sv5.1.length k360), (4, .int .i64 sv5.2), (25, .bool (decide (x734.To ≤ x721.From)))] a ∧ Wd ⟨w0, S0, []⟩ Sv740 [.row p359 sv5.1.length k360 c358 46 2] [SlA (some ⟨b727, o728, none⟩) l1.length k3 l1, RowA c358 sv5.1] w) ?_ ?_
    ·refine h_b (C := Cls [.row p359 sv5.1.length k360 c358 46 2] [CeA b727 q738 [.int .i64 x734.From, .int .i64 x734.To], CeA b727 q725 [.int .i64 x721.From, .int .i64 x721.To]]) (by kernel_rfl) rfl (hw.drew.cs [0] [0, 1] rfl rfl) fun hC => ?_
     have hw := hw.drew
     refine gm hs 0 rfl rfl rfl hC fun a hs => ?_
     refine gm hs 1 rfl rfl rfl hC fun a hs => ?_
     refine gv hs 2 rfl rfl hC (fun w hC => y_indexAt Try.runUnderlying27 Try.sizeOf46 rfl rfl h722.1 h722.2 h723) fun a hs => ?_
     refine gv hs 3 rfl rfl hC (fun w hC => y_fieldAddr (o' := q725 + 0) Try.runUnderlying46 rfl Try.sizeOf3 rfl rfl rfl) fun a hs => ?_
     refine gv hs 4 rfl rfl hC (fun w hC => y_loadE1 (j := 0) (hC.ceAt 1 rfl) rfl Try.isAgg3 rfl) fun a hs => ?_
     refine gm hs 5 rfl rfl rfl hC fun a hs => ?_
     refine gm hs 6 rfl rfl rfl hC fun a hs => ?_
     refine gv hs 7 rfl rfl hC (fun w hC => y_indexAt Try.runUnderlying27 Try.sizeOf46 rfl rfl h735.1 h735.2 h736) fun a hs => ?_
     refine gv hs 8 rfl rfl hC (fun w hC => y_fieldAddr (o' := q738 + 1) Try.runUnderlying46 rfl Try.sizeOf3 rfl rfl rfl) fun a hs => ?_
     refine gv hs 9 rfl rfl hC (fun w hC => y_loadE1 (j := 1) (hC.ceAt 0 rfl) rfl Try.isAgg3 rfl) fun a hs => ?_
     refine gv hs 10 rfl rfl hC (fun w hC => y_geq rfl rfl) fun a hs => ?_
     refine h_done (by kernel_rfl) ?_
     exact ⟨Sv361, (hs.wk rfl), (hw.ft [0] [2, 3] (by decide) rfl rfl)⟩
    rintro a w ⟨Sv740, hs, hw⟩
    refine then_normal ?_
    refine wp_cond_split (hs.ev rfl) (fun h742 => ?_) (fun h742 => ?_)
    ·have hsh := ite_t hsh h742
     refine wp_exit ?_
     refine then_exit ?_
     refine blk_exit ?_
     refine then_normal ?_
     exact ⟨sv5.1, c358, p359, k360, Sv740, hsh, (hs.wk rfl), (hw.ft [0] [0, 1] (by decide) rfl rfl)⟩
    have hsh := ite_f hsh h742
    refine wp_skip ?_
    refine then_normal ?_
    refine sr ?_
    refine mv hs rfl rfl fun a hs => ?_
    refine sv hs (y_len Try.runUnderlying27 rfl) rfl fun a hs => ?_
    obtain ⟨k744, h743, hsh⟩ := bind_t hsh
    refine sv hs (y_assignI rfl h743) rfl fun a hs => ?_
    refine nl ?_
    refine wp_seq ?_
    obtain ⟨e829, h943, hsh⟩ := bind_t hsh
    refine wp_join (fun a w => ∃ (Sv830 : Nat → Prop), Sl 117 [(0, .slice (some ⟨b727, o728, none⟩) l1.length k3), (3, .slice p359 sv5.1.length k360), (4, .int .i64 sv5.2), (5, .int .i64 e829)] a ∧ Wd ⟨w0, S0, []⟩ Sv830 [.row p359 sv5.1.length k360 c358 46 2] [SlA (some ⟨b727, o728, none⟩) l1.length k3 l1, RowA c358 sv5.1] w) ?_ ?_
    ·refine wp_block ?_
     refine wp_while (fun sv745 a w => ∃ (Sv799 : Nat → Prop), Sl 117 [(0, .slice (some ⟨b727, o728, none⟩) l1.length k3), (3, .slice p359 sv5.1.length k360), (4, .int .i64 sv5.2), (5, .int .i64 sv745)] a ∧ Wd ⟨w0, S0, []⟩ Sv799 [.row p359 sv5.1.length k360 c358 46 2] [SlA (some ⟨b727, o728, none⟩) l1.length k3 l1, RowA c358 sv5.1] w) k744 h943 ⟨Sv740, (hs.wk rfl), (hw.ft [0] [0, 1] (by decide) rfl rfl)⟩ ?_
     clear h943
     repeat clear hsh
     rintro sv745 a w tv827 ⟨Sv799, hs, hw⟩ hsh hd826
     delta ref08_Normal_l6 at hsh
     refine wp_seq ?_
     refine wp_seq ?_
     obtain ⟨c852, hc852, hsh⟩ := bind_t hsh
     refine wp_only (fun a w => ∃ (Sv853 : Nat → Prop), Sl 117 [(0, .slice (some ⟨b727, o728, none⟩) l1.length k3), (3, .slice p359 sv5.1.length k360), (4, .int .i64 sv5.2), (5, .int .i64 sv745), (43, .bool c852)] a ∧ Wd ⟨w0, S0, []⟩ Sv853 [.row p359 sv5.1.length k360 c358 46 2] [SlA (some ⟨b727, o728, none⟩) l1.length k3 l1, RowA c358 sv5.1] w) ?_ ?_
     ·rcases Bool.eq_false_or_eq_true (decide (0 < sv745)) with h854 | h854
      ·have h855 := ite_t hc852 h854
       obtain ⟨x858, h856, h855⟩ := bind_t h855
       obtain ⟨b865, q862, c863, h866, h859, h860, h864, h857⟩ := hw.elemRV (α := Span) 0 rfl 1 rfl h856
       have hsv867 := hs
       have hwv868 := hw
       subst h866
       have hs := hsv867
       have hw := hwv868
       obtain ⟨_, _, rfl, rfl, rfl⟩ := h857
       obtain ⟨x871, h869, h855⟩ := bind_t h855
       obtain ⟨q875, c876, h872, h873, h874, h870⟩ := hw.elemK 0 rfl h869
       obtain ⟨_, _, rfl, rfl, rfl⟩ := h870
       have hw := hw.addE h874
       refine h_b (C := Cls [.row (some ⟨b865, 0, none⟩) sv5.1.length k360 c358 46 2] [CeA b727 q875 [.int .i64 x871.From, .int .i64 x871.To]]) (by kernel_rfl) rfl (hw.drew.cs [0] [0] rfl rfl) fun hC => ?_
       have hw := hw.drew
       refine gm hs 0 rfl rfl rfl hC fun a hs => ?_
       refine gv hs 1 rfl rfl hC (fun w hC => y_gtr rfl rfl) fun a hs => ?_
       refine gm hs 2 rfl rfl rfl hC fun a hs => ?_
       have hs := hs.fix 30 (.bool true) rfl (vb h854)
       refine gt hs 3 rfl ⟨_, rfl, rfl⟩ rfl hC (fun w hC => y_move rfl) fun a hs => ?_
       refine gt hs 4 rfl ⟨_, rfl, rfl⟩ rfl hC (fun w hC => y_move rfl) fun a hs => ?_
       refine gt hs 5 rfl ⟨_, rfl, rfl⟩ rfl hC (fun w hC => y_sub rfl rfl) fun a hs => ?_
       refine gt hs 6 rfl ⟨_, rfl, rfl⟩ rfl hC (fun w hC => y_indexAt Try.runUnderlying27 Try.sizeOf46 rfl rfl h859.1 h859.2 h860) fun a hs => ?_
       refine gt hs 7 rfl ⟨_, rfl, rfl⟩ rfl hC (fun w hC => y_fieldAddr (o' := q862 + 0) Try.runUnderlying46 rfl Try.sizeOf3 rfl rfl rfl) fun a hs => ?_
       refine gt hs 8 rfl ⟨_, rfl, rfl⟩ rfl hC (fun w hC => y_loadQ1 (j := 0) (hC.ownAt 0 rfl) rfl Try.isAgg3 h864 rfl) fun a hs => ?_
       refine gt hs 9 rfl ⟨_, rfl, rfl⟩ rfl hC (fun w hC => y_move rfl) fun a hs => ?_
       refine gt hs 10 rfl ⟨_, rfl, rfl⟩ rfl hC (fun w hC => y_move rfl) fun a hs => ?_
       refine gt hs 11 rfl ⟨_, rfl, rfl⟩ rfl hC (fun w hC => y_indexAt Try.runUnderlying27 Try.sizeOf46 rfl rfl h872.1 h872.2 h873) fun a hs => ?_
       refine gt hs 12 rfl ⟨_, rfl, rfl⟩ rfl hC (fun w hC => y_fieldAddr (o' := q875 + 0) Try.runUnderlying46 rfl Try.sizeOf3 rfl rfl rfl) fun a hs => ?_
       refine gt hs 13 rfl ⟨_, rfl, rfl⟩ rfl hC (fun w hC => y_loadE1 (j := 0) (hC.ceAt 0 rfl) rfl Try.isAgg3 rfl) fun a hs => ?_
       refine gt hs 14 rfl ⟨_, rfl, rfl⟩ rfl hC (fun w hC => y_gtr rfl rfl) fun a hs => ?_
       refine gv hs 15 rfl rfl hC (fun w hC => y_pickTE (v := .bool c852) rfl rfl (vbs h855)) fun a hs => ?_
       refine h_done (by kernel_rfl) ?_
       exact ⟨Sv799, (hs.wk rfl), (hw.ft [0] [1, 2] (by decide) rfl rfl)⟩
      have h877 := ite_f hc852 h854
      refine h_b (C := Cls [.row p359 sv5.1.length k360 c358 46 2] []) (by kernel_rfl) rfl (hw.drew.cs [0] [] rfl rfl) fun hC => ?_
      have hw := hw.drew
      refine gm hs 0 rfl rfl rfl hC fun a hs => ?_
      refine gv hs 1 rfl rfl hC (fun w hC => y_gtr rfl rfl) fun a hs => ?_
      refine gm hs 2 rfl rfl rfl hC fun a hs => ?_
      have hs := hs.fix 30 (.bool false) rfl (vb h854)
      refine gs hs 3 rfl rfl rfl rfl hC fun a hs => ?_
      refine gs hs 4 rfl rfl rfl rfl hC fun a hs => ?_
      refine gs hs 5 rfl rfl rfl rfl hC fun a hs => ?_
      refine gs hs 6 rfl rfl rfl rfl hC fun a hs => ?_
      refine gs hs 7 rfl rfl rfl rfl hC fun a hs => ?_
      refine gs hs 8 rfl rfl rfl rfl hC fun a hs => ?_
      refine gs hs 9 rfl rfl rfl rfl hC fun a hs => ?_
      refine gs hs 10 rfl rfl rfl rfl hC fun a hs => ?_
      refine gs hs 11 rfl rfl rfl rfl hC fun a hs => ?_
      refine gs hs 12 rfl rfl rfl rfl hC fun a hs => ?_
      refine gs hs 13 rfl rfl rfl rfl hC fun a hs => ?_
      refine gs hs 14 rfl rfl rfl rfl hC fun a hs => ?_
      refine gv hs 15 rfl rfl hC (fun w hC => y_pickFE (v := .bool c852) rfl rfl (vbs h877)) fun a hs => ?_
      refine h_done (by kernel_rfl) ?_
      exact ⟨Sv799, (hs.wk rfl), (hw.ft [0] [0, 1] (by decide) rfl rfl)⟩
     rintro a w ⟨Sv853, hs, hw⟩
     refine then_normal ?_
     refine wp_cond_split (hs.ev rfl) (fun h879 => ?_) (fun h879 => ?_)
     ·have hsh := ite_t hsh h879
      refine wp_skip ?_
      refine then_normal ?_
      refine wp_block ?_
      refine wp_region_lit ?_
      refine mv hs rfl rfl fun a hs => ?_
      refine sv hs (y_sub rfl rfl) rfl fun a hs => ?_
      obtain ⟨k883, h882, hsh⟩ := bind_t hsh
      refine sv hs (y_assignI rfl h882) rfl fun a hs => ?_
      refine wpList_nil ?_
      refine blk_normal ?_
      refine then_normal ?_
      exact ⟨_, (Option.some.inj hsh).symm, Sv853, (hs.wk rfl), (hw.ft [0] [0, 1] (by decide) rfl rfl)⟩
     have hsh := ite_f hsh h879
     refine wp_exit ?_
     refine then_exit ?_
     refine then_exit ?_
     refine blk_exit ?_
     have hsh := oi hsh
     subst hsh
     have h884 := hd826 _ rfl
     subst h884
     refine then_normal ?_
     exact ⟨Sv853, (hs.wk rfl), (hw.ft [0] [0, 1] (by decide) rfl rfl)⟩
    rintro a w ⟨Sv830, hs, hw⟩
    refine then_normal ?_
    refine sr ?_
    refine mv hs rfl rfl fun a hs => ?_
    refine mv hs rfl rfl fun a hs => ?_
    refine mv hs rfl rfl fun a hs => ?_
    obtain ⟨x887, h885, hsh⟩ := bind_t hsh
    obtain ⟨q891, c892, h888, h889, h890, h886⟩ := hw.elemK 0 rfl h885
    obtain ⟨_, _, rfl, rfl, rfl⟩ := h886
    have hw := hw.addE h890
    refine sv hs (y_indexAt Try.runUnderlying27 Try.sizeOf46 rfl rfl h888.1 h888.2 h889) rfl fun a hs => ?_
    refine sv hs (y_loadEA (j := 0) (hw.ceAt 0 rfl) rfl Try.isAgg46 Try.sizeOf46 rfl rfl) rfl fun a hs => ?_
    refine w_litSlice (α := Span) (vs := [.agg #[.int .i64 x887.From, .int .i64 x887.To]]) (cs := [.int .i64 x887.From, .int .i64 x887.To]) (xs := ([x887] : List Span)) hs hw El27 rfl rfl rfl rfl rfl rfl ⟨⟨_, _, rfl, rfl, rfl⟩, rfl⟩ rfl trivial rfl fun b894 a w hs hw => ?_
    obtain ⟨l896, h895, hsh⟩ := bind_t hsh
    refine w_appendR (α := Span) hs hw El27 1 rfl rfl rfl 3 rfl 0 rfl 0 rfl h895 rfl trivial ?_
    intro p897 k898 c899 a w hs hw
    refine av hs rfl rfl fun a hs => ?_
    refine nl ?_
    refine wp_seq ?_
    obtain ⟨l904, h900, hsh⟩ := bind_t hsh
    obtain ⟨p902, k903, h901⟩ := row_sub (α := Span) hw 1 rfl h900
    obtain ⟨l909, h905, hsh⟩ := bind_t hsh
    obtain ⟨p907, k908, h906⟩ := row_sub (α := Span) hw 1 rfl h905
    obtain ⟨l910, h911, hsh⟩ := bind_t hsh
    refine wp_only (fun a w => ∃ (Sv914 : Nat → Prop) (c912 : List Value), Sl 117 [(0, .slice (some ⟨b727, o728, none⟩) l1.length k3), (3, .slice p897 l910.length k898), (4, .int .i64 sv5.2), (5, .int .i64 e829)] a ∧ Wd ⟨w0, S0, []⟩ Sv914 [.row p897 l910.length k898 c912 46 2] [SlA (some ⟨b727, o728, none⟩) l1.length k3 l1, RowA c912 l910] w) ?_ ?_
    ·refine h_b (C := Cls [.row (some ⟨b894, 0, none⟩) ([x887] : List Span).length ([x887] : List Span).length [.int .i64 x887.From, .int .i64 x887.To] 46 2] [CeA b727 q891 [.int .i64 x887.From, .int .i64 x887.To]]) (by kernel_rfl) rfl (hw.drew.cs [0] [2] rfl rfl) fun hC => ?_
     have hw := hw.drew
     refine gm hs 0 rfl rfl rfl hC fun a hs => ?_
     refine gm hs 1 rfl rfl rfl hC fun a hs => ?_
     refine gv hs 2 rfl rfl hC (fun w hC => y_add rfl rfl) fun a hs => ?_
     refine gv hs 3 rfl rfl hC (fun w hC => y_slc Try.runUnderlying27 Try.sizeOf46 rfl ⟨_, rfl⟩ (by exact rfl) h901) fun a hs => ?_
     refine gm hs 4 rfl rfl rfl hC fun a hs => ?_
     refine gm hs 5 rfl rfl rfl hC fun a hs => ?_
     refine gv hs 6 rfl rfl hC (fun w hC => y_slc Try.runUnderlying27 Try.sizeOf46 rfl ⟨_, rfl⟩ (by exact rfl) h906) fun a hs => ?_
     refine ho 7 rfl ?_
     obtain ⟨ds_, h917⟩ := src_vw (hw.ownAt 1 rfl) (hw.envAt 0 rfl) h905 h906
     refine w_copyC (α := Span) hs hw 1 rfl 0 rfl Try.runUnderlying27 Try.runUnderlying27 Try.sizeOf46 (by decide) h900 h901 rfl rfl rfl h917.1 h917.2.1 h917.2.2 rfl trivial ?_
     intro c912 a w hs hw
     rw [Option.some.inj h911] at hw
     have h913 := (copy_lenS h900 h911)
     try have hs := hs.fl 3 rfl h913
     try have hs := hs.fl 53 rfl h913
     try have hs := hs.fl 57 rfl h913
     refine h_nx (hw.cs [0] [3] rfl rfl) fun hC => ?_
     refine h_done (by kernel_rfl) ?_
     exact ⟨Sv830, c912, (hs.wk rfl), (hw.ft [1] [4, 0] (by decide) rfl rfl)⟩
    rintro a w ⟨Sv914, c912, hs, hw⟩
    refine then_normal ?_
    refine wp_region_lit ?_
    refine mv hs rfl rfl fun a hs => ?_
    refine mv hs rfl rfl fun a hs => ?_
    refine mv hs rfl rfl fun a hs => ?_
    refine mv hs rfl rfl fun a hs => ?_
    obtain ⟨x920, h918, hsh⟩ := bind_t hsh
    obtain ⟨q924, c925, h921, h922, h923, h919⟩ := hw.elemK 0 rfl h918
    obtain ⟨_, _, rfl, rfl, rfl⟩ := h919
    have hw := hw.addE h923
    refine sv hs (y_indexAt Try.runUnderlying27 Try.sizeOf46 rfl rfl h921.1 h921.2 h922) rfl fun a hs => ?_
    refine sv hs (y_loadEA (j := 0) (hw.ceAt 0 rfl) rfl Try.isAgg46 Try.sizeOf46 rfl rfl) rfl fun a hs => ?_
    obtain ⟨x928, h926, hsh⟩ := bind_t hsh
    obtain ⟨b935, q932, c933, h936, h929, h930, h934, h927⟩ := hw.elemRV (α := Span) 0 rfl 2 rfl h926
    have hsv937 := hs
    have hwv938 := hw
    subst h936
    have hs := hsv937
    have hw := hwv938
    obtain ⟨_, _, rfl, rfl, rfl⟩ := h927
    refine sv hs (y_indexAt Try.runUnderlying27 Try.sizeOf46 rfl rfl h929.1 h929.2 h930) rfl fun a hs => ?_
    obtain ⟨l940, h939, hsh⟩ := bind_t hsh
    refine w_storeF (α := Span) hs hw 0 rfl 2 rfl h930 rfl rfl Try.sizeOf46 rfl h939 ⟨_, _, rfl, rfl, rfl⟩ trivial ?_
    intro c941 a w hs hw
    have h942 := setM_len h939
    try have hs := hs.fl 3 rfl h942
    try have hs := hs.fl 61 rfl h942
    refine wpList_nil ?_
    refine blk_normal ?_
    refine then_normal ?_
    exact ⟨l940, c941, (some ⟨b935, 0, none⟩), k898, Sv914, hsh, (hs.wk rfl), (hw.ft [0] [2, 0] (by decide) rfl rfl)⟩
   rintro a w ⟨sorted716, c712, p713, k714, Sv715, hsh, hs, hw⟩
   delta ref08_Normal_j1 at hsh
   refine then_normal ?_
   refine wp_region_lit ?_
   refine mv hs rfl rfl fun a hs => ?_
   refine sv hs (y_add rfl rfl) rfl fun a hs => ?_
   obtain ⟨i718, h717, hsh⟩ := bind_t hsh
   refine sv hs (y_assignI rfl h717) rfl fun a hs => ?_
   refine nl ?_
   exact ⟨_, (Option.some.inj hsh).symm, c712, p713, k714, Sv715, (hs.wk rfl), (hw.ft [0] [0, 1] (by decide) rfl rfl)⟩
  have hsh := ite_f hsh h545
  refine wp_exit ?_
  refine then_exit ?_
  refine then_exit ?_
  refine blk_exit ?_
  have hsh := oi hsh
  subst hsh
  have h944 := hd536 _ rfl
  subst h944
  refine then_normal ?_
  exact ⟨c358, p359, k360, Sv361, (hs.wk rfl), (hw.ft [0] [1] (by decide) rfl rfl)⟩
 rintro a w ⟨c540, p541, k542, Sv543, hs, hw⟩
 refine then_normal ?_
 refine sr ?_
 refine av hs rfl rfl fun a hs => ?_
 refine nl ?_
 refine wp_seq ?_
 refine sr ?_
 refine av hs rfl rfl fun a hs => ?_
 refine nl ?_
 obtain ⟨e1248, h1540, hsh⟩ := bind_t hsh
 refine wp_join (fun a w => ∃ (c1249 : List Value) (p1250 : Option Addr) (k1251 : Nat) (Sv1252 : Nat → Prop), Sl 117 [(6, .slice p1250 e1248.length k1251)] a ∧ Wd ⟨w0, S0, []⟩ Sv1252 [.row p1250 e1248.length k1251 c1249 46 2] [RowA c1249 e1248] w) ?_ ?_
 ·refine wp_block ?_
  have hw := hw.nilRow Span 46
  refine wp_while (fun sv945 a w => ∃ (c1142 : List Value) (p1143 : Option Addr) (k1144 : Nat) (Sv1145 : Nat → Prop), Sl 117 [(3, .slice p541 e539.length k542), (6, .slice p1143 sv945.1.length k1144), (7, .int .i64 sv945.2)] a ∧ Wd ⟨w0, S0, []⟩ Sv1145 [.row p541 e539.length k542 c540 46 2, .row p1143 sv945.1.length k1144 c1142 46 2] [RowA c540 e539, RowA c1142 sv945.1] w) (([] : List Span), 0) h1540 ⟨[], none, 0, Sv543, (hs.wk rfl), (hw.ft [1, 0] [1, 0] (by decide) rfl rfl)⟩ ?_
  clear h1540
  repeat clear hsh
  rintro sv945 a w tv1246 ⟨c1142, p1143, k1144, Sv1145, hs, hw⟩ hsh hd1245
  delta ref08_Normal_l7 at hsh
  refine wp_seq ?_
  refine sr ?_
  refine mv hs rfl rfl fun a hs => ?_
  refine mv hs rfl rfl fun a hs => ?_
  refine sv hs (y_len Try.runUnderlying27 rfl) rfl fun a hs => ?_
  refine sv hs (y_lss rfl rfl) rfl fun a hs => ?_
  refine nl ?_
  refine wp_cond_split (hs.ev rfl) (fun h1254 => ?_) (fun h1254 => ?_)
  ·have hsh := ite_t hsh h1254
   refine wp_skip ?_
   refine then_normal ?_
   refine wp_seq ?_
   refine wp_block ?_
   refine sr ?_
   refine mv hs rfl rfl fun a hs => ?_
   refine sv hs (y_len Try.runUnderlying27 rfl) rfl fun a hs => ?_
   obtain ⟨n1352, h1351, hsh⟩ := bind_t hsh
   refine sv hs (y_assignI rfl h1351) rfl fun a hs => ?_
   refine nl ?_
   refine wp_seq ?_
   obtain ⟨c1379, hc1379, hsh⟩ := bind_t hsh
   refine wp_only (fun a w => ∃ (Sv1380 : Nat → Prop), Sl 117 [(3, .slice p541 e539.length k542), (6, .slice p1143 sv945.1.length k1144), (7, .int .i64 sv945.2), (8, .int .i64 n1352), (91, .bool c1379)] a ∧ Wd ⟨w0, S0, []⟩ Sv1380 [.row p541 e539.length k542 c540 46 2, .row p1143 sv945.1.length k1144 c1142 46 2] [RowA c540 e539, RowA c1142 sv945.1] w) ?_ ?_
   ·rcases Bool.eq_false_or_eq_true (decide (0 < n1352)) with h1381 | h1381
    ·have h1382 := ite_t hc1379 h1381
     obtain ⟨x1385, h1383, h1382⟩ := bind_t h1382
     obtain ⟨b1392, q1389, c1390, h1393, h1386, h1387, h1391, h1384⟩ := hw.elemRV (α := Span) 0 rfl 0 rfl h1383
     have hsv1394 := hs
     have hwv1395 := hw
     subst h1393
     have hs := hsv1394
     have hw := hwv1395
     obtain ⟨_, _, rfl, rfl, rfl⟩ := h1384
     obtain ⟨x1398, h1396, h1382⟩ := bind_t h1382
     obtain ⟨b1405, q1402, c1403, h1406, h1399, h1400, h1404, h1397⟩ := hw.elemRV (α := Span) 1 rfl 1 rfl h1396
     have hsv1407 := hs
     have hwv1408 := hw
     subst h1406
     have hs := hsv1407
     have hw := hwv1408
     obtain ⟨_, _, rfl, rfl, rfl⟩ := h1397
     refine h_b (C := Cls [.row (some ⟨b1392, 0, none⟩) e539.length k542 c540 46 2, .row (some ⟨b1405, 0, none⟩) sv945.1.length k1144 c1142 46 2] []) (by kernel_rfl) rfl (hw.drew.cs [0, 1] [] rfl rfl) fun hC => ?_
     have hw := hw.drew
     refine gm hs 0 rfl rfl rfl hC fun a hs => ?_
     refine gv hs 1 rfl rfl hC (fun w hC => y_gtr rfl rfl) fun a hs => ?_
     refine gm hs 2 rfl rfl rfl hC fun a hs => ?_
     have hs := hs.fix 78 (.bool true) rfl (vb h1381)
     refine gt hs 3 rfl ⟨_, rfl, rfl⟩ rfl hC (fun w hC => y_move rfl) fun a hs => ?_
     refine gt hs 4 rfl ⟨_, rfl, rfl⟩ rfl hC (fun w hC => y_move rfl) fun a hs => ?_
     refine gt hs 5 rfl ⟨_, rfl, rfl⟩ rfl hC (fun w hC => y_indexAt Try.runUnderlying27 Try.sizeOf46 rfl rfl h1386.1 h1386.2 h1387) fun a hs => ?_
     refine gt hs 6 rfl ⟨_, rfl, rfl⟩ rfl hC (fun w hC => y_fieldAddr (o' := q1389 + 0) Try.runUnderlying46 rfl Try.sizeOf3 rfl rfl rfl) fun a hs => ?_
     refine gt hs 7 rfl ⟨_, rfl, rfl⟩ rfl hC (fun w hC => y_loadQ1 (j := 0) (hC.ownAt 0 rfl) rfl Try.isAgg3 h1391 rfl) fun a hs => ?_
     refine gt hs 8 rfl ⟨_, rfl, rfl⟩ rfl hC (fun w hC => y_move rfl) fun a hs => ?_
     refine gt hs 9 rfl ⟨_, rfl, rfl⟩ rfl hC (fun w hC => y_move rfl) fun a hs => ?_
     refine gt hs 10 rfl ⟨_, rfl, rfl⟩ rfl hC (fun w hC => y_sub rfl rfl) fun a hs => ?_
     refine gt hs 11 rfl ⟨_, rfl, rfl⟩ rfl hC (fun w hC => y_indexAt Try.runUnderlying27 Try.sizeOf46 rfl rfl h1399.1 h1399.2 h1400) fun a hs => ?_
     refine gt hs 12 rfl ⟨_, rfl, rfl⟩ rfl hC (fun w hC => y_fieldAddr (o' := q1402 + 1) Try.runUnderlying46 rfl Try.sizeOf3 rfl rfl rfl) fun a hs => ?_
     refine gt hs 13 rfl ⟨_, rfl, rfl⟩ rfl hC (fun w hC => y_loadQ1 (j := 1) (hC.ownAt 1 rfl) rfl Try.isAgg3 h1404 rfl) fun a hs => ?_
     refine gt hs 14 rfl ⟨_, rfl, rfl⟩ rfl hC (fun w hC => y_leq rfl rfl) fun a hs => ?_
     refine gv hs 15 rfl rfl hC (fun w hC => y_pickTE (v := .bool c1379) rfl rfl (vbs h1382)) fun a hs => ?_
     refine h_done (by kernel_rfl) ?_
     exact ⟨Sv1145, (hs.wk rfl), (hw.ft [0, 1] [0, 1] (by decide) rfl rfl)⟩
    have h1409 := ite_f hc1379 h1381
    refine h_b (C := Cls [.row p541 e539.length k542 c540 46 2, .row p1143 sv945.1.length k1144 c1142 46 2] []) (by kernel_rfl) rfl (hw.drew.cs [0, 1] [] rfl rfl) fun hC => ?_
    have hw := hw.drew
    refine gm hs 0 rfl rfl rfl hC fun a hs => ?_
    refine gv hs 1 rfl rfl hC (fun w hC => y_gtr rfl rfl) fun a hs => ?_
    refine gm hs 2 rfl rfl rfl hC fun a hs => ?_
    have hs := hs.fix 78 (.bool false) rfl (vb h1381)
    refine gs hs 3 rfl rfl rfl rfl hC fun a hs => ?_
    refine gs hs 4 rfl rfl rfl rfl hC fun a hs => ?_
    refine gs hs 5 rfl rfl rfl rfl hC fun a hs => ?_
    refine gs hs 6 rfl rfl rfl rfl hC fun a hs => ?_
    refine gs hs 7 rfl rfl rfl rfl hC fun a hs => ?_
    refine gs hs 8 rfl rfl rfl rfl hC fun a hs => ?_
    refine gs hs 9 rfl rfl rfl rfl hC fun a hs => ?_
    refine gs hs 10 rfl rfl rfl rfl hC fun a hs => ?_
    refine gs hs 11 rfl rfl rfl rfl hC fun a hs => ?_
    refine gs hs 12 rfl rfl rfl rfl hC fun a hs => ?_
    refine gs hs 13 rfl rfl rfl rfl hC fun a hs => ?_
    refine gs hs 14 rfl rfl rfl rfl hC fun a hs => ?_
    refine gv hs 15 rfl rfl hC (fun w hC => y_pickFE (v := .bool c1379) rfl rfl (vbs h1409)) fun a hs => ?_
    refine h_done (by kernel_rfl) ?_
    exact ⟨Sv1145, (hs.wk rfl), (hw.ft [0, 1] [0, 1] (by decide) rfl rfl)⟩
   rintro a w ⟨Sv1380, hs, hw⟩
   refine then_normal ?_
   refine wp_join (fun a w => ∃ (out1475 : (List Span)) (c1471 : List Value) (p1472 : Option Addr) (k1473 : Nat) (Sv1474 : Nat → Prop), ref08_Normal_j4 sv945 out1475 = some tv1246 ∧ Sl 117 [(3, .slice p541 e539.length k542), (6, .slice p1472 out1475.length k1473), (7, .int .i64 sv945.2)] a ∧ Wd ⟨w0, S0, []⟩ Sv1474 [.row p541 e539.length k542 c540 46 2, .row p1472 out1475.length k1473 c1471 46 2] [RowA c540 e539, RowA c1471 out1475] w) ?_ ?_
   ·refine wp_cond_split (hs.ev rfl) (fun h1478 => ?_) (fun h1478 => ?_)
    ·have hsh := ite_t hsh h1478
     obtain ⟨x1481, h1479, hsh⟩ := bind_t hsh
     obtain ⟨b1488, q1485, c1486, h1489, h1482, h1483, h1487, h1480⟩ := hw.elemRV (α := Span) 1 rfl 1 rfl h1479
     have hsv1490 := hs
     have hwv1491 := hw
     subst h1489
     have hs := hsv1490
     have hw := hwv1491
     obtain ⟨_, _, rfl, rfl, rfl⟩ := h1480
     obtain ⟨x1494, h1492, hsh⟩ := bind_t hsh
     obtain ⟨b1501, q1498, c1499, h1502, h1495, h1496, h1500, h1493⟩ := hw.elemRV (α := Span) 0 rfl 0 rfl h1492
     have hsv1503 := hs
     have hwv1504 := hw
     subst h1502
     have hs := hsv1503
     have hw := hwv1504
     obtain ⟨_, _, rfl, rfl, rfl⟩ := h1493
     obtain ⟨x1507, h1505, hsh⟩ := bind_t hsh
     obtain ⟨q1511, c1512, h1508, h1509, h1513, h1506⟩ := hw.elemRK (α := Span) 1 rfl 1 rfl h1505
     obtain ⟨_, _, rfl, rfl, rfl⟩ := h1506
     obtain ⟨l1515, h1514, hsh⟩ := bind_t hsh
     refine wp_only (fun a w => ∃ (Sv1518 : Nat → Prop) (c1516 : List Value), Sl 117 [(3, .slice (some ⟨b1501, 0, none⟩) e539.length k542), (6, .slice (some ⟨b1488, 0, none⟩) l1515.length k1144), (7, .int .i64 sv945.2)] a ∧ Wd ⟨w0, S0, []⟩ Sv1518 [.row (some ⟨b1501, 0, none⟩) e539.length k542 c540 46 2, .row (some ⟨b1488, 0, none⟩) l1515.length k1144 c1516 46 2] [RowA c540 e539, RowA c1516 l1515] w) ?_ ?_
     ·refine h_b (C := Cls [.row (some ⟨b1501, 0, none⟩) e539.length k542 c540 46 2] []) (by kernel_rfl) rfl (hw.drew.cs [0] [] rfl rfl) fun hC => ?_
      have hw := hw.drew
      refine gm hs 0 rfl rfl rfl hC fun a hs => ?_
      refine gm hs 1 rfl rfl rfl hC fun a hs => ?_
      refine gv hs 2 rfl rfl hC (fun w hC => y_sub rfl rfl) fun a hs => ?_
      refine gm hs 3 rfl rfl rfl hC fun a hs => ?_
      refine gm hs 4 rfl rfl rfl hC fun a hs => ?_
      refine gv hs 5 rfl rfl hC (fun w hC => y_sub rfl rfl) fun a hs => ?_
      refine gv hs 6 rfl rfl hC (fun w hC => y_indexAt Try.runUnderlying27 Try.sizeOf46 rfl rfl h1482.1 h1482.2 h1483) fun a hs => ?_
      refine gv hs 7 rfl rfl hC (fun w hC => y_fieldAddr (o' := q1485 + 1) Try.runUnderlying46 rfl Try.sizeOf3 rfl rfl rfl) fun a hs => ?_
      refine gm hs 9 rfl rfl rfl hC fun a hs => ?_
      refine gm hs 10 rfl rfl rfl hC fun a hs => ?_
      refine gv hs 11 rfl rfl hC (fun w hC => y_indexAt Try.runUnderlying27 Try.sizeOf46 rfl rfl h1495.1 h1495.2 h1496) fun a hs => ?_
      refine gv hs 12 rfl rfl hC (fun w hC => y_fieldAddr (o' := q1498 + 1) Try.runUnderlying46 rfl Try.sizeOf3 rfl rfl rfl) fun a hs => ?_
      refine gv hs 13 rfl rfl hC (fun w hC => y_loadQ1 (j := 1) (hC.ownAt 0 rfl) rfl Try.isAgg3 h1500 rfl) fun a hs => ?_
      refine ho 8 rfl ?_
      refine sv hs (y_loadQ1 (j := 1) (hw.ownAt 1 rfl) rfl Try.isAgg3 h1487 rfl) rfl fun a hs => ?_
      refine h_nx (hw.cs [0] [] rfl rfl) fun hC => ?_
      refine gv hs 14 rfl rfl hC (fun w hC => y_max rfl rfl) fun a hs => ?_
      refine gv hs 15 rfl rfl hC (fun w hC => y_indexAt Try.runUnderlying27 Try.sizeOf46 rfl rfl h1508.1 h1508.2 h1509) fun a hs => ?_
      refine gv hs 16 rfl rfl hC (fun w hC => y_fieldAddr (o' := q1511 + 1) Try.runUnderlying46 rfl Try.sizeOf3 rfl rfl rfl) fun a hs => ?_
      refine ho 17 rfl ?_
      refine w_storeR (α := Span) (f := 1) (m := 1) hs hw 1 rfl 1 rfl h1509 rfl rfl Try.sizeOf3 rfl rfl rfl h1514 (fun es he => by rw [h1513] at he; subst he; exact ⟨_, _, rfl, rfl, rfl⟩) trivial ?_
      intro c1516 a w hs hw
      have h1517 := setM_len h1514
      try have hs := hs.fl 6 rfl h1517
      try have hs := hs.fl 92 rfl h1517
      try have hs := hs.fl 95 rfl h1517
      refine h_nx (hw.cs [0] [] rfl rfl) fun hC => ?_
      refine h_done (by kernel_rfl) ?_
      exact ⟨Sv1380, c1516, (hs.wk rfl), (hw.ft [0, 1] [1, 0] (by decide) rfl rfl)⟩
     rintro a w ⟨Sv1518, c1516, hs, hw⟩
     refine then_normal ?_
     exact ⟨l1515, c1516, (some ⟨b1488, 0, none⟩), k1144, Sv1518, hsh, (hs.wk rfl), (hw.ft [0, 1] [0, 1] (by decide) rfl rfl)⟩
    have hsh := ite_f hsh h1478
    refine wp_region_lit ?_
    refine mv hs rfl rfl fun a hs => ?_
    refine mv hs rfl rfl fun a hs => ?_
    refine mv hs rfl rfl fun a hs => ?_
    obtain ⟨x1521, h1519, hsh⟩ := bind_t hsh
    obtain ⟨b1528, q1525, c1526, h1529, h1522, h1523, h1527, h1520⟩ := hw.elemRV (α := Span) 0 rfl 0 rfl h1519
    have hsv1530 := hs
    have hwv1531 := hw
    subst h1529
    have hs := hsv1530
    have hw := hwv1531
    obtain ⟨_, _, rfl, rfl, rfl⟩ := h1520
    refine sv hs (y_indexAt Try.runUnderlying27 Try.sizeOf46 rfl rfl h1522.1 h1522.2 h1523) rfl fun a hs => ?_
    refine sv hs (y_loadQA (j := 0) (hw.ownAt 0 rfl) rfl Try.isAgg46 Try.sizeOf46 h1527 rfl rfl) rfl fun a hs => ?_
    refine w_litSlice (α := Span) (vs := [.agg #[.int .i64 x1521.From, .int .i64 x1521.To]]) (cs := [.int .i64 x1521.From, .int .i64 x1521.To]) (xs := ([x1521] : List Span)) hs hw El27 rfl rfl rfl rfl rfl rfl ⟨⟨_, _, rfl, rfl, rfl⟩, rfl⟩ rfl trivial rfl fun b1533 a w hs hw => ?_
    obtain ⟨l1535, h1534, hsh⟩ := bind_t hsh
    refine w_appendR (α := Span) hs hw El27 2 rfl rfl rfl 2 rfl 0 rfl 0 rfl h1534 rfl trivial ?_
    intro p1536 k1537 c1538 a w hs hw
    refine av hs rfl rfl fun a hs => ?_
    refine nl ?_
    exact ⟨l1535, c1538, p1536, k1537, Sv1380, hsh, (hs.wk rfl), (hw.ft [1, 2] [2, 0] (by decide) rfl rfl)⟩
   rintro a w ⟨out1475, c1471, p1472, k1473, Sv1474, hsh, hs, hw⟩
   delta ref08_Normal_j4 at hsh
   refine blk_normal ?_
   refine then_normal ?_
   refine wp_region_lit ?_
   refine mv hs rfl rfl fun a hs => ?_
   refine sv hs (y_add rfl rfl) rfl fun a hs => ?_
   obtain ⟨i1477, h1476, hsh⟩ := bind_t hsh
   refine sv hs (y_assignI rfl h1476) rfl fun a hs => ?_
   refine nl ?_
   exact ⟨_, (Option.some.inj hsh).symm, c1471, p1472, k1473, Sv1474, (hs.wk rfl), (hw.ft [0, 1] [0, 1] (by decide) rfl rfl)⟩
  have hsh := ite_f hsh h1254
  refine wp_exit ?_
  refine then_exit ?_
  refine then_exit ?_
  refine blk_exit ?_
  have hsh := oi hsh
  subst hsh
  have h1539 := hd1245 _ rfl
  subst h1539
  refine then_normal ?_
  exact ⟨c1142, p1143, k1144, Sv1145, (hs.wk rfl), (hw.ft [1] [1] (by decide) rfl rfl)⟩
 rintro a w ⟨c1249, p1250, k1251, Sv1252, hs, hw⟩
 refine then_normal ?_
 refine sr ?_
 refine mv hs rfl rfl fun a hs => ?_
 refine av hs rfl rfl fun a hs => ?_
 refine nl ?_
 have hsh := oi hsh
 subst hsh
 refine wp_ret ?_
 exact ret1 hs rfl (rv_tmp rfl) (hw.ret ⟨p1250, k1251, c1249, rfl, (hw.outs [0] (by decide) rfl), (hw.envAt 0 rfl)⟩)

abbrev ref08_Meet_rd (w0 : World) (X : List Nat) (r : (List Span)) : (Nat → Prop) → World → Value → Prop := fun S w v => ∃ (p0_0 : Option Addr) (k0_0 : Nat) (c0_0 : List Value), v = .slice p0_0 r.length k0_0 ∧ Outs X w0 S w [.row p0_0 r.length k0_0 c0_0 46 2] ∧ (RowA c0_0 r).p S w
set_option maxHeartbeats 4000000 in
set_option maxRecDepth 100000 in
theorem ref08_Meet_ok {w0 : World} {S0 : Nat → Prop} {p2 : Option Addr} {k3 : Nat} {p6 : Option Addr} {k7 : Nat} {a1 : (List Span)} {b5 : (List Span)} {r : (List Span)} (hsh : ref08_Meet a1 b5 = some r) (hS : ∀ b, S0 b → b < w0.heap.size) (h4 : (SlA p2 a1.length k3 a1).p S0 w0) (h8 : (SlA p6 b5.length k7 b5).p S0 w0) : Calls Try.prog 50 #[.slice p2 a1.length k3, .slice p6 b5.length k7] w0 (Ret ([]) w0 S0 (ref08_Meet_rd w0 ([]) r)) := by
 refine calls_of_wp Try.func50 rfl ?_
 have hs := Sl.enter #[.slice p2 a1.length k3, .slice p6 b5.length k7] 61 [(0, .slice p2 a1.length k3), (1, .slice p6 b5.length k7)] rfl ⟨rfl, rfl, trivial⟩
 have hw := Wd.enter (E := []) hS (fun _ h => (by cases h))
 have hw := hw.addE h4
 have hw := hw.addE h8
 delta ref08_Meet at hsh
 refine sr ?_
 refine av hs rfl rfl fun a hs => ?_
 refine nl ?_
 refine sr ?_
 refine mv hs rfl rfl fun a hs => ?_
 obtain ⟨rv10, h9, hsh⟩ := bind_t hsh
 refine st_callR hs (ref08_Normal_ok h9 hw.dom (hw.envAt 1 rfl)) (do_call Try.call51 rfl) trivial rfl rfl ?_
 intro v18 Sv15 w a h16 h17 hs
 obtain ⟨p11, k12, c14, rfl, h19, h13⟩ := h17
 have hw := hw.callN h16 h19
 have hw := hw.addE (e := RowA c14 rv10) h13
 refine mv hs rfl rfl fun a hs => ?_
 obtain ⟨rv21, h20, hsh⟩ := bind_t hsh
 refine st_callR hs (ref08_Normal_ok h20 hw.dom (hw.envAt 1 rfl)) (do_call Try.call51 rfl) trivial rfl rfl ?_
 intro v29 Sv26 w a h27 h28 hs
 obtain ⟨p22, k23, c25, rfl, h30, h24⟩ := h28
 have hw := hw.callN h27 h30
 have hw := hw.addE (e := RowA c25 rv21) h24
 refine av hs rfl rfl fun a hs => ?_
 refine av hs rfl rfl fun a hs => ?_
 refine nl ?_
 refine sr ?_
 refine av hs rfl rfl fun a hs => ?_
 refine nl ?_
 refine wp_seq ?_
 refine sr ?_
 refine av hs rfl rfl fun a hs => ?_
 refine nl ?_
 obtain ⟨e661, h1221, hsh⟩ := bind_t hsh
 refine wp_join (fun a w => ∃ (c662 : List Value) (p663 : Option Addr) (k664 : Nat) (Sv665 : Nat → Prop), Sl 61 [(7, .slice p663 e661.length k664)] a ∧ Wd ⟨w0, S0, []⟩ Sv665 [.row p663 e661.length k664 c662 46 2] [RowA c662 e661] w) ?_ ?_
 ·refine wp_block ?_
  have hw := hw.nilRow Span 46
  refine wp_while (fun sv31 a w => ∃ (c448 : List Value) (p449 : Option Addr) (k450 : Nat) (Sv451 : Nat → Prop), Sl 61 [(5, .slice p11 rv10.length k12), (6, .slice p22 rv21.length k23), (7, .slice p449 sv31.1.length k450), (8, .int .i64 sv31.2)] a ∧ Wd ⟨w0, S0, []⟩ Sv451 [.row p11 rv10.length k12 c14 46 2, .row p22 rv21.length k23 c25 46 2, .row p449 sv31.1.length k450 c448 46 2] [RowA c14 rv10, RowA c25 rv21, RowA c448 sv31.1] w) (([] : List Span), 0) h1221 ⟨[], none, 0, Sv26, (hs.wk rfl), (hw.ft [2, 1, 0] [2, 1, 0] (by decide) rfl rfl)⟩ ?_
  clear h1221
  repeat clear hsh
  rintro sv31 a w tv659 ⟨c448, p449, k450, Sv451, hs, hw⟩ hsh hd658
  delta ref08_Meet_l3 at hsh
  refine wp_seq ?_
  refine sr ?_
  refine mv hs rfl rfl fun a hs => ?_
  refine mv hs rfl rfl fun a hs => ?_
  refine sv hs (y_len Try.runUnderlying27 rfl) rfl fun a hs => ?_
  refine sv hs (y_lss rfl rfl) rfl fun a hs => ?_
  refine nl ?_
  refine wp_cond_split (hs.ev rfl) (fun h667 => ?_) (fun h667 => ?_)
  ·have hsh := ite_t hsh h667
   refine wp_skip ?_
   refine then_normal ?_
   refine wp_seq ?_
   refine wp_block ?_
   refine sr ?_
   refine av hs rfl rfl fun a hs => ?_
   refine nl ?_
   obtain ⟨e1069, h1207, hsh⟩ := bind_t hsh
   refine wp_join (fun a w => ∃ (c1070 : List Value) (p1071 : Option Addr) (k1072 : Nat) (Sv1073 : Nat → Prop), Sl 61 [(5, .slice p11 rv10.length k12), (6, .slice p22 rv21.length k23), (7, .slice p1071 e1069.length k1072), (8, .int .i64 sv31.2)] a ∧ Wd ⟨w0, S0, []⟩ Sv1073 [.row p11 rv10.length k12 c14 46 2, .row p22 rv21.length k23 c25 46 2, .row p1071 e1069.length k1072 c1070 46 2] [RowA c14 rv10, RowA c25 rv21, RowA c1070 e1069] w) ?_ ?_
   ·refine wp_block ?_
    refine wp_while (fun sv871 a w => ∃ (c1000 : List Value) (p1001 : Option Addr) (k1002 : Nat) (Sv1003 : Nat → Prop), Sl 61 [(5, .slice p11 rv10.length k12), (6, .slice p22 rv21.length k23), (7, .slice p1001 sv871.1.length k1002), (8, .int .i64 sv31.2), (9, .int .i64 sv871.2)] a ∧ Wd ⟨w0, S0, []⟩ Sv1003 [.row p11 rv10.length k12 c14 46 2, .row p22 rv21.length k23 c25 46 2, .row p1001 sv871.1.length k1002 c1000 46 2] [RowA c14 rv10, RowA c25 rv21, RowA c1000 sv871.1] w) (sv31.1, 0) h1207 ⟨c448, p449, k450, Sv451, (hs.wk rfl), (hw.ft [0, 1, 2] [0, 1, 2] (by decide) rfl rfl)⟩ ?_
    clear h1207
    repeat clear hsh
    rintro sv871 a w tv1067 ⟨c1000, p1001, k1002, Sv1003, hs, hw⟩ hsh hd1066
    delta ref08_Meet_l6 at hsh
    refine wp_seq ?_
    refine sr ?_
    refine mv hs rfl rfl fun a hs => ?_
    refine mv hs rfl rfl fun a hs => ?_
    refine sv hs (y_len Try.runUnderlying27 rfl) rfl fun a hs => ?_
    refine sv hs (y_lss rfl rfl) rfl fun a hs => ?_
    refine nl ?_
    refine wp_cond_split (hs.ev rfl) (fun h1075 => ?_) (fun h1075 => ?_)
    ·have hsh := ite_t hsh h1075
     refine wp_skip ?_
     refine then_normal ?_
     refine wp_seq ?_
     refine wp_block ?_
     refine wp_seq ?_
     obtain ⟨x1137, h1135, hsh⟩ := bind_t hsh
     obtain ⟨b1144, q1141, c1142, h1145, h1138, h1139, h1143, h1136⟩ := hw.elemRV (α := Span) 0 rfl 0 rfl h1135
     have hsv1146 := hs
     have hwv1147 := hw
     subst h1145
     have hs := hsv1146
     have hw := hwv1147
     obtain ⟨_, _, rfl, rfl, rfl⟩ := h1136
     obtain ⟨x1150, h1148, hsh⟩ := bind_t hsh
     obtain ⟨b1157, q1154, c1155, h1158, h1151, h1152, h1156, h1149⟩ := hw.elemRV (α := Span) 1 rfl 1 rfl h1148
     have hsv1159 := hs
     have hwv1160 := hw
     subst h1158
     have hs := hsv1159
     have hw := hwv1160
     obtain ⟨_, _, rfl, rfl, rfl⟩ := h1149
     obtain ⟨x1163, h1161, hsh⟩ := bind_t hsh
     obtain ⟨q1167, c1168, h1164, h1165, h1169, h1162⟩ := hw.elemRK (α := Span) 0 rfl 0 rfl h1161
     obtain ⟨_, _, rfl, rfl, rfl⟩ := h1162
     obtain ⟨x1172, h1170, hsh⟩ := bind_t hsh
     obtain ⟨q1176, c1177, h1173, h1174, h1178, h1171⟩ := hw.elemRK (α := Span) 1 rfl 1 rfl h1170
     obtain ⟨_, _, rfl, rfl, rfl⟩ := h1171
     refine wp_only (fun a w => ∃ (Sv1180 : Nat → Prop) (b1179 : Nat), Sl 61 [(5, .slice (some ⟨b1144, 0, none⟩) rv10.length k12), (6, .slice (some ⟨b1157, 0, none⟩) rv21.length k23), (7, .slice p1001 sv871.1.length k1002), (8, .int .i64 sv31.2), (9, .int .i64 sv871.2), (10, .pointer (some ⟨b1179, 0, none⟩))] a ∧ Wd ⟨w0, S0, []⟩ Sv1180 [.box b1179 [.int .i64 (max x1137.From x1150.From), .int .i64 (min x1163.To x1172.To)] 46, .row (some ⟨b1144, 0, none⟩) rv10.length k12 c14 46 2, .row (some ⟨b1157, 0, none⟩) rv21.length k23 c25 46 2, .row p1001 sv871.1.length k1002 c1000 46 2] [RowA c14 rv10, RowA c25 rv21, RowA c1000 sv871.1] w) ?_ ?_
     ·refine h_b (C := Cls [.row (some ⟨b1144, 0, none⟩) rv10.length k12 c14 46 2, .row (some ⟨b1157, 0, none⟩) rv21.length k23 c25 46 2, .row p1001 sv871.1.length k1002 c1000 46 2] []) (by kernel_rfl) rfl (hw.drew.cs [0, 1, 2] [] rfl rfl) fun hC => ?_
      have hw := hw.drew
      refine gm hs 0 rfl rfl rfl hC fun a hs => ?_
      refine gm hs 1 rfl rfl rfl hC fun a hs => ?_
      refine gv hs 2 rfl rfl hC (fun w hC => y_indexAt Try.runUnderlying27 Try.sizeOf46 rfl rfl h1138.1 h1138.2 h1139) fun a hs => ?_
      refine gv hs 3 rfl rfl hC (fun w hC => y_fieldAddr (o' := q1141 + 0) Try.runUnderlying46 rfl Try.sizeOf3 rfl rfl rfl) fun a hs => ?_
      refine gv hs 4 rfl rfl hC (fun w hC => y_loadQ1 (j := 0) (hC.ownAt 0 rfl) rfl Try.isAgg3 h1143 rfl) fun a hs => ?_
      refine gm hs 5 rfl rfl rfl hC fun a hs => ?_
      refine gm hs 6 rfl rfl rfl hC fun a hs => ?_
      refine gv hs 7 rfl rfl hC (fun w hC => y_indexAt Try.runUnderlying27 Try.sizeOf46 rfl rfl h1151.1 h1151.2 h1152) fun a hs => ?_
      refine gv hs 8 rfl rfl hC (fun w hC => y_fieldAddr (o' := q1154 + 0) Try.runUnderlying46 rfl Try.sizeOf3 rfl rfl rfl) fun a hs => ?_
      refine gv hs 9 rfl rfl hC (fun w hC => y_loadQ1 (j := 0) (hC.ownAt 1 rfl) rfl Try.isAgg3 h1156 rfl) fun a hs => ?_
      refine gv hs 10 rfl rfl hC (fun w hC => y_max rfl rfl) fun a hs => ?_
      refine gm hs 11 rfl rfl rfl hC fun a hs => ?_
      refine gm hs 12 rfl rfl rfl hC fun a hs => ?_
      refine gv hs 13 rfl rfl hC (fun w hC => y_indexAt Try.runUnderlying27 Try.sizeOf46 rfl rfl h1164.1 h1164.2 h1165) fun a hs => ?_
      refine gv hs 14 rfl rfl hC (fun w hC => y_fieldAddr (o' := q1167 + 1) Try.runUnderlying46 rfl Try.sizeOf3 rfl rfl rfl) fun a hs => ?_
      refine gv hs 15 rfl rfl hC (fun w hC => y_loadQ1 (j := 1) (hC.ownAt 0 rfl) rfl Try.isAgg3 h1169 rfl) fun a hs => ?_
      refine gm hs 16 rfl rfl rfl hC fun a hs => ?_
      refine gm hs 17 rfl rfl rfl hC fun a hs => ?_
      refine gv hs 18 rfl rfl hC (fun w hC => y_indexAt Try.runUnderlying27 Try.sizeOf46 rfl rfl h1173.1 h1173.2 h1174) fun a hs => ?_
      refine gv hs 19 rfl rfl hC (fun w hC => y_fieldAddr (o' := q1176 + 1) Try.runUnderlying46 rfl Try.sizeOf3 rfl rfl rfl) fun a hs => ?_
      refine gv hs 20 rfl rfl hC (fun w hC => y_loadQ1 (j := 1) (hC.ownAt 1 rfl) rfl Try.isAgg3 h1178 rfl) fun a hs => ?_
      refine gv hs 21 rfl rfl hC (fun w hC => y_min rfl rfl) fun a hs => ?_
      refine gv hs 22 rfl rfl hC (fun w hC => y_build (vs := [(0, .int .i64 (max x1137.From x1150.From)), (1, .int .i64 (min x1163.To x1172.To))]) Bld46 rfl rfl) fun a hs => ?_
      refine ho 23 rfl ?_
      refine w_alloc (cs := [.int .i64 0, .int .i64 0]) hs hw Try.zeroValue46 rfl rfl trivial ?_
      intro b1179 a w hs hw
      refine h_nx (hw.cs [1, 2, 3] [] rfl rfl) fun hC => ?_
      refine ho 24 rfl ?_
      refine w_store (m := 2) (cs' := [.int .i64 (max x1137.From x1150.From), .int .i64 (min x1163.To x1172.To)]) hs hw 0 rfl rfl rfl Try.sizeOf46 rfl rfl rfl rfl trivial ?_
      intro a w hs hw
      refine h_nx (hw.cs [1, 2, 3] [] rfl rfl) fun hC => ?_
      refine h_done (by kernel_rfl) ?_
      exact ⟨Sv1003, b1179, (hs.wk rfl), (hw.ft [0, 1, 2, 3] [0, 1, 2] (by decide) rfl rfl)⟩
     rintro a w ⟨Sv1180, b1179, hs, hw⟩
     refine then_normal ?_
     refine sr ?_
     refine sv hs (y_fieldAddr (o' := 0) Try.runUnderlying46 rfl Try.sizeOf3 rfl rfl rfl) rfl fun a hs => ?_
     refine sv hs (y_loadB1 (hw.ownAt 0 rfl) rfl Try.isAgg3 rfl) rfl fun a hs => ?_
     refine sv hs (y_fieldAddr (o' := 1) Try.runUnderlying46 rfl Try.sizeOf3 rfl rfl rfl) rfl fun a hs => ?_
     refine sv hs (y_loadB1 (hw.ownAt 0 rfl) rfl Try.isAgg3 rfl) rfl fun a hs => ?_
     refine sv hs (y_lss rfl rfl) rfl fun a hs => ?_
     refine nl ?_
     refine wp_join (fun a w => ∃ (out1193 : (List Span)) (c1189 : List Value) (p1190 : Option Addr) (k1191 : Nat) (Sv1192 : Nat → Prop), ref08_Meet_j1 sv871 out1193 = some tv1067 ∧ Sl 61 [(5, .slice (some ⟨b1144, 0, none⟩) rv10.length k12), (6, .slice (some ⟨b1157, 0, none⟩) rv21.length k23), (7, .slice p1190 out1193.length k1191), (8, .int .i64 sv31.2), (9, .int .i64 sv871.2)] a ∧ Wd ⟨w0, S0, []⟩ Sv1192 [.row (some ⟨b1144, 0, none⟩) rv10.length k12 c14 46 2, .row (some ⟨b1157, 0, none⟩) rv21.length k23 c25 46 2, .row p1190 out1193.length k1191 c1189 46 2] [RowA c14 rv10, RowA c25 rv21, RowA c1189 out1193] w) ?_ ?_
     ·refine wp_cond_split (hs.ev rfl) (fun h1196 => ?_) (fun h1196 => ?_)
      ·have hsh := ite_t hsh h1196
       refine wp_region_lit ?_
       refine mv hs rfl rfl fun a hs => ?_
       refine sv hs (y_loadBA (hw.ownAt 0 rfl) rfl Try.isAgg46 Try.sizeOf46 rfl rfl) rfl fun a hs => ?_
       refine w_litSlice (α := Span) (vs := [.agg #[.int .i64 (max x1137.From x1150.From), .int .i64 (min x1163.To x1172.To)]]) (cs := [.int .i64 (max x1137.From x1150.From), .int .i64 (min x1163.To x1172.To)]) (xs := ([(⟨(max x1137.From x1150.From), (min x1163.To x1172.To)⟩ : Span)] : List Span)) hs hw El27 rfl rfl rfl rfl rfl rfl ⟨⟨_, _, rfl, rfl, rfl⟩, rfl⟩ rfl trivial rfl fun b1198 a w hs hw => ?_
       obtain ⟨l1200, h1199, hsh⟩ := bind_t hsh
       refine w_appendR (α := Span) hs hw El27 4 rfl rfl rfl 3 rfl 0 rfl 0 rfl h1199 rfl trivial ?_
       intro p1201 k1202 c1203 a w hs hw
       refine av hs rfl rfl fun a hs => ?_
       refine nl ?_
       exact ⟨l1200, c1203, p1201, k1202, Sv1180, hsh, (hs.wk rfl), (hw.ft [2, 3, 4] [2, 3, 0] (by decide) rfl rfl)⟩
      have hsh := ite_f hsh h1196
      refine wp_skip ?_
      refine then_normal ?_
      exact ⟨sv871.1, c1000, p1001, k1002, Sv1180, hsh, (hs.wk rfl), (hw.ft [1, 2, 3] [0, 1, 2] (by decide) rfl rfl)⟩
     rintro a w ⟨out1193, c1189, p1190, k1191, Sv1192, hsh, hs, hw⟩
     delta ref08_Meet_j1 at hsh
     refine blk_normal ?_
     refine then_normal ?_
     refine wp_region_lit ?_
     refine mv hs rfl rfl fun a hs => ?_
     refine sv hs (y_add rfl rfl) rfl fun a hs => ?_
     obtain ⟨k1195, h1194, hsh⟩ := bind_t hsh
     refine sv hs (y_assignI rfl h1194) rfl fun a hs => ?_
     refine nl ?_
     exact ⟨_, (Option.some.inj hsh).symm, c1189, p1190, k1191, Sv1192, (hs.wk rfl), (hw.ft [0, 1, 2] [0, 1, 2] (by decide) rfl rfl)⟩
    have hsh := ite_f hsh h1075
    refine wp_exit ?_
    refine then_exit ?_
    refine then_exit ?_
    refine blk_exit ?_
    have hsh := oi hsh
    subst hsh
    have h1204 := hd1066 _ rfl
    subst h1204
    refine then_normal ?_
    exact ⟨c1000, p1001, k1002, Sv1003, (hs.wk rfl), (hw.ft [0, 1, 2] [0, 1, 2] (by decide) rfl rfl)⟩
   rintro a w ⟨c1070, p1071, k1072, Sv1073, hs, hw⟩
   refine blk_normal ?_
   refine then_normal ?_
   refine wp_region_lit ?_
   refine mv hs rfl rfl fun a hs => ?_
   refine sv hs (y_add rfl rfl) rfl fun a hs => ?_
   obtain ⟨i1206, h1205, hsh⟩ := bind_t hsh
   refine sv hs (y_assignI rfl h1205) rfl fun a hs => ?_
   refine nl ?_
   exact ⟨_, (Option.some.inj hsh).symm, c1070, p1071, k1072, Sv1073, (hs.wk rfl), (hw.ft [0, 1, 2] [0, 1, 2] (by decide) rfl rfl)⟩
  have hsh := ite_f hsh h667
  refine wp_exit ?_
  refine then_exit ?_
  refine then_exit ?_
  refine blk_exit ?_
  have hsh := oi hsh
  subst hsh
  have h1208 := hd658 _ rfl
  subst h1208
  refine then_normal ?_
  exact ⟨c448, p449, k450, Sv451, (hs.wk rfl), (hw.ft [2] [2] (by decide) rfl rfl)⟩
 rintro a w ⟨c662, p663, k664, Sv665, hs, hw⟩
 refine then_normal ?_
 refine sr ?_
 refine mv hs rfl rfl fun a hs => ?_
 obtain ⟨rv1210, h1209, hsh⟩ := bind_t hsh
 obtain ⟨Sv1215, hw⟩ := w_share (α := Span) hw 0 rfl 0 rfl
 refine st_callR hs (ref08_Normal_ok h1209 hw.dom (hw.envAt 0 rfl)) (do_call Try.call51 rfl) trivial rfl rfl ?_
 intro v1219 Sv1216 w a h1217 h1218 hs
 obtain ⟨p1211, k1212, c1214, rfl, h1220, h1213⟩ := h1218
 have hw := hw.callN h1217 h1220
 have hw := hw.addE (e := RowA c1214 rv1210) h1213
 refine av hs rfl rfl fun a hs => ?_
 refine nl ?_
 have hsh := oi hsh
 subst hsh
 refine wp_ret ?_
 exact ret1 hs rfl (rv_tmp rfl) (hw.ret ⟨p1211, k1212, c1214, rfl, (hw.outs [0] (by decide) rfl), (hw.envAt 0 rfl)⟩)

abbrev ref11_Valid_rd (w0 : World) (X : List Nat) (r : Bool) : (Nat → Prop) → World → Value → Prop := fun S w v => v = .bool r
set_option maxHeartbeats 4000000 in
set_option maxRecDepth 100000 in
theorem ref11_Valid_ok {w0 : World} {S0 : Nat → Prop} {p2 : Option Addr} {k3 : Nat} {p4 : Option Addr} {k5 : Nat} {r1 : Receiver} {r : Bool} (hsh : ref11_Valid r1 = some r) (hS : ∀ b, S0 b → b < w0.heap.size) (h6 : (SlA p2 r1.Got.length k3 r1.Got).p S0 w0) (h7 : (SlA p4 r1.Lost.length k5 r1.Lost).p S0 w0) : Calls Try.prog 27 #[.agg #[.slice p2 r1.Got.length k3, .slice p4 r1.Lost.length k5]] w0 (Ret ([]) w0 S0 (ref11_Valid_rd w0 ([]) r)) := by
 refine calls_of_wp Try.func27 rfl ?_
 have hs := Sl.enter #[.agg #[.slice p2 r1.Got.length k3, .slice p4 r1.Lost.length k5]] 20 [(0, .agg #[.slice p2 r1.Got.length k3, .slice p4 r1.Lost.length k5])] rfl ⟨rfl, trivial⟩
 have hw := Wd.enter (E := []) hS (fun _ h => (by cases h))
 have hw := hw.addE h6
 have hw := hw.addE h7
 delta ref11_Valid at hsh
 refine sr ?_
 refine w_box (cs := [.slice p2 r1.Got.length k3, .slice p4 r1.Lost.length k5]) hs hw rfl rfl rfl trivial ?_
 intro b8 a w hs hw
 refine av hs rfl rfl fun a hs => ?_
 refine nl ?_
 refine sr ?_
 refine sv hs (y_fieldAddr (o' := 0) Try.runUnderlying29 rfl Try.sizeOf27 rfl rfl rfl) rfl fun a hs => ?_
 refine sv hs (y_loadB1 (hw.ownAt 0 rfl) rfl Try.isAgg27 rfl) rfl fun a hs => ?_
 obtain ⟨rv10, h9, hsh⟩ := bind_t hsh
 refine st_callR hs (ref11_numbers_ok h9 hw.bdom (hw.bE 1 rfl)) (do_call Try.call49 rfl) trivial rfl rfl ?_
 intro v14 Sv11 w a h12 h13 hs
 subst h13
 have hw := hw.callB h12
 refine mv hs rfl rfl fun a hs => ?_
 obtain ⟨c24, hc24, hsh⟩ := bind_t hsh
 refine wpl_join 4 (fun a w => ∃ (Sv25 : Nat → Prop), Sl 20 [(1, .pointer (some ⟨b8, 0, none⟩)), (10, .bool c24)] a ∧ Wd ⟨w0, S0, []⟩ Sv25 [.box b8 [.slice p2 r1.Got.length k3, .slice p4 r1.Lost.length k5] 29] [SlA p2 r1.Got.length k3 r1.Got, SlA p4 r1.Lost.length k5 r1.Lost] w) ?_ ?_
 ·rcases Bool.eq_false_or_eq_true rv10 with h23 | h23
  ·have hs := hs.fix 6 (.bool true) rfl (vb h23)
   have hsh := ite_t hc24 h23
   refine st_val hs (y_fieldAddr (o' := 1) Try.runUnderlying29 rfl Try.sizeOf27 rfl rfl rfl) ⟨_, rfl, rfl⟩ rfl rfl fun a hs => ?_
   refine st_val hs (y_loadB1 (hw.ownAt 0 rfl) rfl Try.isAgg27 rfl) ⟨_, rfl, rfl⟩ rfl rfl fun a hs => ?_
   obtain ⟨rv27, h26, hsh⟩ := bind_t hsh
   refine st_callR hs (ref11_numbers_ok h26 hw.bdom (hw.bE 0 rfl)) (do_call Try.call49 rfl) ⟨_, rfl, rfl⟩ rfl rfl ?_
   intro v31 Sv28 w a h29 h30 hs
   subst h30
   have hw := hw.callB h29
   refine sv hs (y_pickT rfl rfl) rfl fun a hs => ?_
   refine wpList_nil ?_
   have hsh := oi hsh
   subst hsh
   refine then_normal ?_
   exact ⟨S0, (hs.wk rfl), (hw.ft [0] [1, 0] (by decide) rfl rfl)⟩
  have hs := hs.fix 6 (.bool false) rfl (vb h23)
  have hsh := ite_f hc24 h23
  refine st_skip hs rfl rfl rfl rfl rfl fun a hs => ?_
  refine st_skip hs rfl rfl rfl rfl rfl fun a hs => ?_
  refine st_skip hs rfl rfl rfl rfl rfl fun a hs => ?_
  refine sv hs (y_pickF rfl rfl) rfl fun a hs => ?_
  refine wpList_nil ?_
  have hsh := oi hsh
  subst hsh
  refine then_normal ?_
  exact ⟨S0, (hs.wk rfl), (hw.ft [0] [1, 0] (by decide) rfl rfl)⟩
 rintro a w ⟨Sv25, hs, hw⟩
 refine mv hs rfl rfl fun a hs => ?_
 obtain ⟨c45, hc45, hsh⟩ := bind_t hsh
 refine wpl_join 8 (fun a w => ∃ (Sv46 : Nat → Prop), Sl 20 [(19, .bool c45)] a ∧ Wd ⟨w0, S0, []⟩ Sv46 [] [] w) ?_ ?_
 ·rcases Bool.eq_false_or_eq_true c24 with h44 | h44
  ·have hs := hs.fix 11 (.bool true) rfl (vb h44)
   have hsh := ite_t hc45 h44
   refine st_val hs (y_fieldAddr (o' := 0) Try.runUnderlying29 rfl Try.sizeOf27 rfl rfl rfl) ⟨_, rfl, rfl⟩ rfl rfl fun a hs => ?_
   refine st_val hs (y_loadB1 (hw.ownAt 0 rfl) rfl Try.isAgg27 rfl) ⟨_, rfl, rfl⟩ rfl rfl fun a hs => ?_
   refine st_val hs (y_fieldAddr (o' := 1) Try.runUnderlying29 rfl Try.sizeOf27 rfl rfl rfl) ⟨_, rfl, rfl⟩ rfl rfl fun a hs => ?_
   refine st_val hs (y_loadB1 (hw.ownAt 0 rfl) rfl Try.isAgg27 rfl) ⟨_, rfl, rfl⟩ rfl rfl fun a hs => ?_
   obtain ⟨rv48, h47, hsh⟩ := bind_t hsh
   refine st_callR hs (ref08_Meet_ok h47 hw.dom (hw.envAt 0 rfl) (hw.envAt 1 rfl)) (do_call Try.call50 rfl) ⟨_, rfl, rfl⟩ rfl rfl ?_
   intro v56 Sv53 w a h54 h55 hs
   obtain ⟨p49, k50, c52, rfl, h57, h51⟩ := h55
   have hw := hw.callN h54 h57
   have hw := hw.addE (e := RowA c52 rv48) h51
   refine st_val hs (y_len Try.runUnderlying27 rfl) ⟨_, rfl, rfl⟩ rfl rfl fun a hs => ?_
   refine st_val hs (y_eql rfl rfl) ⟨_, rfl, rfl⟩ rfl rfl fun a hs => ?_
   refine sv hs (y_pickT rfl rfl) rfl fun a hs => ?_
   refine wpList_nil ?_
   have hsh := oi hsh
   subst hsh
   refine then_normal ?_
   exact ⟨Sv53, (hs.wk rfl), (hw.ft [] [] (by decide) rfl rfl)⟩
  have hs := hs.fix 11 (.bool false) rfl (vb h44)
  have hsh := ite_f hc45 h44
  refine st_skip hs rfl rfl rfl rfl rfl fun a hs => ?_
  refine st_skip hs rfl rfl rfl rfl rfl fun a hs => ?_
  refine st_skip hs rfl rfl rfl rfl rfl fun a hs => ?_
  refine st_skip hs rfl rfl rfl rfl rfl fun a hs => ?_
  refine st_skip hs rfl rfl rfl rfl rfl fun a hs => ?_
  refine st_skip hs rfl rfl rfl rfl rfl fun a hs => ?_
  refine st_skip hs rfl rfl rfl rfl rfl fun a hs => ?_
  refine sv hs (y_pickF rfl rfl) rfl fun a hs => ?_
  refine wpList_nil ?_
  have hsh := oi hsh
  subst hsh
  refine then_normal ?_
  exact ⟨Sv25, (hs.wk rfl), (hw.ft [] [] (by decide) rfl rfl)⟩
 rintro a w ⟨Sv46, hs, hw⟩
 refine av hs rfl rfl fun a hs => ?_
 refine nl ?_
 have hsh := oi hsh
 subst hsh
 refine wp_ret ?_
 exact ret1 hs rfl (rv_tmp rfl) (hw.ret rfl)

abbrev ref01_In_rd (w0 : World) (X : List Nat) (r : Bool) : (Nat → Prop) → World → Value → Prop := fun S w v => v = .bool r
set_option maxHeartbeats 4000000 in
set_option maxRecDepth 100000 in
theorem ref01_In_ok {w0 : World} {S0 : Nat → Prop} {n1 : Int} {lo2 : Int} {hi3 : Int} {r : Bool} (hsh : ref01_In n1 lo2 hi3 = some r) (hS : ∀ b, S0 b → b < w0.heap.size) : Calls Try.prog 43 #[.int .i64 n1, .int .i64 lo2, .int .i64 hi3] w0 (Ret ([]) w0 S0 (ref01_In_rd w0 ([]) r)) := by
 refine calls_of_wp Try.func43 rfl ?_
 have hs := Sl.enter #[.int .i64 n1, .int .i64 lo2, .int .i64 hi3] 15 [(0, .int .i64 n1), (1, .int .i64 lo2), (2, .int .i64 hi3)] rfl ⟨rfl, rfl, rfl, trivial⟩
 have hw := Wd.enter (E := []) hS (fun _ h => (by cases h))
 delta ref01_In at hsh
 refine sr ?_
 refine av hs rfl rfl fun a hs => ?_
 refine nl ?_
 refine sr ?_
 refine mv hs rfl rfl fun a hs => ?_
 refine mv hs rfl rfl fun a hs => ?_
 refine sv hs (y_geq rfl rfl) rfl fun a hs => ?_
 refine mv hs rfl rfl fun a hs => ?_
 refine wpl_join 4 (fun a w1 => w0 = w1 ∧ Sl 15 [(14, .bool ((decide (lo2 ≤ n1)) && (decide (n1 ≤ hi3))))] a) ?_ ?_
 ·rcases Bool.eq_false_or_eq_true (decide (lo2 ≤ n1)) with h4 | h4
  ·have hs := hs.fix 10 (.bool true) rfl (vb h4)
   refine st_val hs (y_move rfl) ⟨_, rfl, rfl⟩ rfl rfl fun a hs => ?_
   refine st_val hs (y_move rfl) ⟨_, rfl, rfl⟩ rfl rfl fun a hs => ?_
   refine st_val hs (y_leq rfl rfl) ⟨_, rfl, rfl⟩ rfl rfl fun a hs => ?_
   refine sv hs (y_pickT rfl rfl) rfl fun a hs => ?_
   refine nl ?_
   exact ⟨rfl, (hs.fix 14 (.bool ((decide (lo2 ≤ n1)) && (decide (n1 ≤ hi3)))) rfl (and_t h4)).weaken _ ⟨rfl, trivial⟩⟩
  have hs := hs.fix 10 (.bool false) rfl (vb h4)
  refine st_skip hs rfl rfl rfl rfl rfl fun a hs => ?_
  refine st_skip hs rfl rfl rfl rfl rfl fun a hs => ?_
  refine st_skip hs rfl rfl rfl rfl rfl fun a hs => ?_
  refine sv hs (y_pickF rfl rfl) rfl fun a hs => ?_
  refine nl ?_
  exact ⟨rfl, (hs.fix 14 (.bool ((decide (lo2 ≤ n1)) && (decide (n1 ≤ hi3)))) rfl (and_f h4)).weaken _ ⟨rfl, trivial⟩⟩
 rintro a w1 ⟨h5, hs⟩
 subst h5
 refine av hs rfl rfl fun a hs => ?_
 refine nl ?_
 have hsh := oi hsh
 subst hsh
 refine wp_ret ?_
 exact ret1 hs rfl (rv_tmp rfl) (hw.ret rfl)

abbrev ref08_Minus_rd (w0 : World) (X : List Nat) (r : (List Span)) : (Nat → Prop) → World → Value → Prop := fun S w v => ∃ (p0_0 : Option Addr) (k0_0 : Nat) (c0_0 : List Value), v = .slice p0_0 r.length k0_0 ∧ Outs X w0 S w [.row p0_0 r.length k0_0 c0_0 46 2] ∧ (RowA c0_0 r).p S w
set_option maxHeartbeats 4000000 in
set_option maxRecDepth 100000 in
theorem ref08_Minus_ok {w0 : World} {S0 : Nat → Prop} {p2 : Option Addr} {k3 : Nat} {p6 : Option Addr} {k7 : Nat} {a1 : (List Span)} {b5 : (List Span)} {r : (List Span)} (hsh : ref08_Minus a1 b5 = some r) (hS : ∀ b, S0 b → b < w0.heap.size) (h4 : (SlA p2 a1.length k3 a1).p S0 w0) (h8 : (SlA p6 b5.length k7 b5).p S0 w0) : Calls Try.prog 32 #[.slice p2 a1.length k3, .slice p6 b5.length k7] w0 (Ret ([]) w0 S0 (ref08_Minus_rd w0 ([]) r)) := by
 refine calls_of_wp Try.func32 rfl ?_
 have hs := Sl.enter #[.slice p2 a1.length k3, .slice p6 b5.length k7] 94 [(0, .slice p2 a1.length k3), (1, .slice p6 b5.length k7)] rfl ⟨rfl, rfl, trivial⟩
 have hw := Wd.enter (E := []) hS (fun _ h => (by cases h))
 have hw := hw.addE h4
 have hw := hw.addE h8
 delta ref08_Minus at hsh
 refine sr ?_
 refine av hs rfl rfl fun a hs => ?_
 refine nl ?_
 refine sr ?_
 refine mv hs rfl rfl fun a hs => ?_
 obtain ⟨rv10, h9, hsh⟩ := bind_t hsh
 refine st_callR hs (ref08_Normal_ok h9 hw.dom (hw.envAt 1 rfl)) (do_call Try.call51 rfl) trivial rfl rfl ?_
 intro v18 Sv15 w a h16 h17 hs
 obtain ⟨p11, k12, c14, rfl, h19, h13⟩ := h17
 have hw := hw.callN h16 h19
 have hw := hw.addE (e := RowA c14 rv10) h13
 refine mv hs rfl rfl fun a hs => ?_
 obtain ⟨rv21, h20, hsh⟩ := bind_t hsh
 refine st_callR hs (ref08_Normal_ok h20 hw.dom (hw.envAt 1 rfl)) (do_call Try.call51 rfl) trivial rfl rfl ?_
 intro v29 Sv26 w a h27 h28 hs
 obtain ⟨p22, k23, c25, rfl, h30, h24⟩ := h28
 have hw := hw.callN h27 h30
 have hw := hw.addE (e := RowA c25 rv21) h24
 refine av hs rfl rfl fun a hs => ?_
 refine av hs rfl rfl fun a hs => ?_
 refine nl ?_
 refine sr ?_
 refine av hs rfl rfl fun a hs => ?_
 refine nl ?_
 refine wp_seq ?_
 refine sr ?_
 refine av hs rfl rfl fun a hs => ?_
 refine nl ?_
 obtain ⟨e1000, h1862, hsh⟩ := bind_t hsh
 refine wp_join (fun a w => ∃ (c1001 : List Value) (p1002 : Option Addr) (k1003 : Nat) (Sv1004 : Nat → Prop), Sl 94 [(7, .slice p1002 e1000.length k1003)] a ∧ Wd ⟨w0, S0, []⟩ Sv1004 [.row p1002 e1000.length k1003 c1001 46 2] [RowA c1001 e1000] w) ?_ ?_
 ·refine wp_block ?_
  have hw := hw.nilRow Span 46
  refine wp_while (fun sv31 a w => ∃ (c674 : List Value) (p675 : Option Addr) (k676 : Nat) (Sv677 : Nat → Prop), Sl 94 [(5, .slice p11 rv10.length k12), (6, .slice p22 rv21.length k23), (7, .slice p675 sv31.1.length k676), (8, .int .i64 sv31.2)] a ∧ Wd ⟨w0, S0, []⟩ Sv677 [.row p11 rv10.length k12 c14 46 2, .row p22 rv21.length k23 c25 46 2, .row p675 sv31.1.length k676 c674 46 2] [RowA c14 rv10, RowA c25 rv21, RowA c674 sv31.1] w) (([] : List Span), 0) h1862 ⟨[], none, 0, Sv26, (hs.wk rfl), (hw.ft [2, 1, 0] [2, 1, 0] (by decide) rfl rfl)⟩ ?_
  clear h1862
  repeat clear hsh
  rintro sv31 a w tv998 ⟨c674, p675, k676, Sv677, hs, hw⟩ hsh hd997
  delta ref08_Minus_l3 at hsh
  refine wp_seq ?_
  refine sr ?_
  refine mv hs rfl rfl fun a hs => ?_
  refine mv hs rfl rfl fun a hs => ?_
  refine sv hs (y_len Try.runUnderlying27 rfl) rfl fun a hs => ?_
  refine sv hs (y_lss rfl rfl) rfl fun a hs => ?_
  refine nl ?_
  refine wp_cond_split (hs.ev rfl) (fun h1006 => ?_) (fun h1006 => ?_)
  ·have hsh := ite_t hsh h1006
   refine wp_skip ?_
   refine then_normal ?_
   refine wp_seq ?_
   refine wp_block ?_
   refine sr ?_
   refine mv hs rfl rfl fun a hs => ?_
   refine mv hs rfl rfl fun a hs => ?_
   obtain ⟨x1325, h1323, hsh⟩ := bind_t hsh
   obtain ⟨b1332, q1329, c1330, h1333, h1326, h1327, h1331, h1324⟩ := hw.elemRV (α := Span) 0 rfl 0 rfl h1323
   have hsv1334 := hs
   have hwv1335 := hw
   subst h1333
   have hs := hsv1334
   have hw := hwv1335
   obtain ⟨_, _, rfl, rfl, rfl⟩ := h1324
   refine sv hs (y_indexAt Try.runUnderlying27 Try.sizeOf46 rfl rfl h1326.1 h1326.2 h1327) rfl fun a hs => ?_
   refine sv hs (y_fieldAddr (o' := q1329 + 0) Try.runUnderlying46 rfl Try.sizeOf3 rfl rfl rfl) rfl fun a hs => ?_
   refine sv hs (y_loadQ1 (j := 0) (hw.ownAt 0 rfl) rfl Try.isAgg3 h1331 rfl) rfl fun a hs => ?_
   refine av hs rfl rfl fun a hs => ?_
   refine nl ?_
   refine wp_seq ?_
   refine sr ?_
   refine av hs rfl rfl fun a hs => ?_
   refine nl ?_
   obtain ⟨e1603, h1860, hsh⟩ := bind_t hsh
   refine wp_join (fun a w => ∃ (c1604 : List Value) (p1605 : Option Addr) (k1606 : Nat) (Sv1607 : Nat → Prop), Sl 94 [(5, .slice (some ⟨b1332, 0, none⟩) rv10.length k12), (6, .slice p22 rv21.length k23), (7, .slice p1605 e1603.1.length k1606), (8, .int .i64 sv31.2), (9, .int .i64 e1603.2)] a ∧ Wd ⟨w0, S0, []⟩ Sv1607 [.row (some ⟨b1332, 0, none⟩) rv10.length k12 c14 46 2, .row p22 rv21.length k23 c25 46 2, .row p1605 e1603.1.length k1606 c1604 46 2] [RowA c14 rv10, RowA c25 rv21, RowA c1604 e1603.1] w) ?_ ?_
   ·refine wp_block ?_
    refine wp_while (fun sv1336 a w => ∃ (c1511 : List Value) (p1512 : Option Addr) (k1513 : Nat) (Sv1514 : Nat → Prop), Sl 94 [(5, .slice (some ⟨b1332, 0, none⟩) rv10.length k12), (6, .slice p22 rv21.length k23), (7, .slice p1512 sv1336.1.length k1513), (8, .int .i64 sv31.2), (9, .int .i64 sv1336.2.1), (10, .int .i64 sv1336.2.2)] a ∧ Wd ⟨w0, S0, []⟩ Sv1514 [.row (some ⟨b1332, 0, none⟩) rv10.length k12 c14 46 2, .row p22 rv21.length k23 c25 46 2, .row p1512 sv1336.1.length k1513 c1511 46 2] [RowA c14 rv10, RowA c25 rv21, RowA c1511 sv1336.1] w) (sv31.1, x1325.From, 0) h1860 ⟨c674, p675, k676, Sv677, (hs.wk rfl), (hw.ft [0, 1, 2] [0, 1, 2] (by decide) rfl rfl)⟩ ?_
    clear h1860
    repeat clear hsh
    rintro sv1336 a w tv1601 ⟨c1511, p1512, k1513, Sv1514, hs, hw⟩ hsh hd1600
    delta ref08_Minus_l6 at hsh
    refine wp_seq ?_
    refine sr ?_
    refine mv hs rfl rfl fun a hs => ?_
    refine mv hs rfl rfl fun a hs => ?_
    refine sv hs (y_len Try.runUnderlying27 rfl) rfl fun a hs => ?_
    refine sv hs (y_lss rfl rfl) rfl fun a hs => ?_
    refine nl ?_
    refine wp_cond_split (hs.ev rfl) (fun h1609 => ?_) (fun h1609 => ?_)
    ·have hsh := ite_t hsh h1609
     refine wp_skip ?_
     refine then_normal ?_
     refine wp_seq ?_
     refine wp_join (fun a w => ∃ (out1690 : (List Span)) (fromv1691 : Int) (c1686 : List Value) (p1687 : Option Addr) (k1688 : Nat) (Sv1689 : Nat → Prop), ref08_Minus_j1 sv1336 out1690 fromv1691 = some tv1601 ∧ Sl 94 [(5, .slice (some ⟨b1332, 0, none⟩) rv10.length k12), (6, .slice p22 rv21.length k23), (7, .slice p1687 out1690.length k1688), (8, .int .i64 sv31.2), (9, .int .i64 fromv1691), (10, .int .i64 sv1336.2.2)] a ∧ Wd ⟨w0, S0, []⟩ Sv1689 [.row (some ⟨b1332, 0, none⟩) rv10.length k12 c14 46 2, .row p22 rv21.length k23 c25 46 2, .row p1687 out1690.length k1688 c1686 46 2] [RowA c14 rv10, RowA c25 rv21, RowA c1686 out1690] w) ?_ ?_
     ·refine wp_block ?_
      refine wp_seq ?_
      refine wp_seq ?_
      obtain ⟨x1696, h1694, hsh⟩ := bind_t hsh
      obtain ⟨b1703, q1700, c1701, h1704, h1697, h1698, h1702, h1695⟩ := hw.elemRV (α := Span) 1 rfl 1 rfl h1694
      have hsv1705 := hs
      have hwv1706 := hw
      subst h1704
      have hs := hsv1705
      have hw := hwv1706
      obtain ⟨_, _, rfl, rfl, rfl⟩ := h1695
      obtain ⟨c1725, hc1725, hsh⟩ := bind_t hsh
      refine wp_only (fun a w => ∃ (Sv1726 : Nat → Prop), Sl 94 [(5, .slice (some ⟨b1332, 0, none⟩) rv10.length k12), (6, .slice (some ⟨b1703, 0, none⟩) rv21.length k23), (7, .slice p1512 sv1336.1.length k1513), (8, .int .i64 sv31.2), (9, .int .i64 sv1336.2.1), (10, .int .i64 sv1336.2.2), (51, .bool c1725)] a ∧ Wd ⟨w0, S0, []⟩ Sv1726 [.row (some ⟨b1332, 0, none⟩) rv10.length k12 c14 46 2, .row (some ⟨b1703, 0, none⟩) rv21.length k23 c25 46 2, .row p1512 sv1336.1.length k1513 c1511 46 2] [RowA c14 rv10, RowA c25 rv21, RowA c1511 sv1336.1] w) ?_ ?_
      ·rcases Bool.eq_false_or_eq_true (decide (x1696.To ≤ sv1336.2.1)) with h1727 | h1727
       ·have h1728 := ite_t hc1725 h1727
        refine h_b (C := Cls [.row (some ⟨b1332, 0, none⟩) rv10.length k12 c14 46 2, .row (some ⟨b1703, 0, none⟩) rv21.length k23 c25 46 2, .row p1512 sv1336.1.length k1513 c1511 46 2] []) (by kernel_rfl) rfl (hw.drew.cs [0, 1, 2] [] rfl rfl) fun hC => ?_
        have hw := hw.drew
        refine gm hs 0 rfl rfl rfl hC fun a hs => ?_
        refine gm hs 1 rfl rfl rfl hC fun a hs => ?_
        refine gv hs 2 rfl rfl hC (fun w hC => y_indexAt Try.runUnderlying27 Try.sizeOf46 rfl rfl h1697.1 h1697.2 h1698) fun a hs => ?_
        refine gv hs 3 rfl rfl hC (fun w hC => y_fieldAddr (o' := q1700 + 1) Try.runUnderlying46 rfl Try.sizeOf3 rfl rfl rfl) fun a hs => ?_
        refine gv hs 4 rfl rfl hC (fun w hC => y_loadQ1 (j := 1) (hC.ownAt 1 rfl) rfl Try.isAgg3 h1702 rfl) fun a hs => ?_
        refine gm hs 5 rfl rfl rfl hC fun a hs => ?_
        refine gv hs 6 rfl rfl hC (fun w hC => y_leq rfl rfl) fun a hs => ?_
        refine gm hs 7 rfl rfl rfl hC fun a hs => ?_
        have hs := hs.fix 39 (.bool true) rfl (vb h1727)
        refine gs hs 8 rfl rfl rfl rfl hC fun a hs => ?_
        refine gs hs 9 rfl rfl rfl rfl hC fun a hs => ?_
        refine gs hs 10 rfl rfl rfl rfl hC fun a hs => ?_
        refine gs hs 11 rfl rfl rfl rfl hC fun a hs => ?_
        refine gs hs 12 rfl rfl rfl rfl hC fun a hs => ?_
        refine gs hs 13 rfl rfl rfl rfl hC fun a hs => ?_
        refine gs hs 14 rfl rfl rfl rfl hC fun a hs => ?_
        refine gs hs 15 rfl rfl rfl rfl hC fun a hs => ?_
        refine gs hs 16 rfl rfl rfl rfl hC fun a hs => ?_
        refine gs hs 17 rfl rfl rfl rfl hC fun a hs => ?_
        refine gs hs 18 rfl rfl rfl rfl hC fun a hs => ?_
        refine gv hs 19 rfl rfl hC (fun w hC => y_pickTE (v := .bool c1725) rfl rfl (vbs h1728)) fun a hs => ?_
        refine h_done (by kernel_rfl) ?_
        exact ⟨Sv1514, (hs.wk rfl), (hw.ft [0, 1, 2] [0, 1, 2] (by decide) rfl rfl)⟩
       have h1729 := ite_f hc1725 h1727
       obtain ⟨x1732, h1730, h1729⟩ := bind_t h1729
       obtain ⟨q1736, c1737, h1733, h1734, h1738, h1731⟩ := hw.elemRK (α := Span) 1 rfl 1 rfl h1730
       obtain ⟨_, _, rfl, rfl, rfl⟩ := h1731
       obtain ⟨x1741, h1739, h1729⟩ := bind_t h1729
       obtain ⟨q1745, c1746, h1742, h1743, h1747, h1740⟩ := hw.elemRK (α := Span) 0 rfl 0 rfl h1739
       obtain ⟨_, _, rfl, rfl, rfl⟩ := h1740
       refine h_b (C := Cls [.row (some ⟨b1332, 0, none⟩) rv10.length k12 c14 46 2, .row (some ⟨b1703, 0, none⟩) rv21.length k23 c25 46 2, .row p1512 sv1336.1.length k1513 c1511 46 2] []) (by kernel_rfl) rfl (hw.drew.cs [0, 1, 2] [] rfl rfl) fun hC => ?_
       have hw := hw.drew
       refine gm hs 0 rfl rfl rfl hC fun a hs => ?_
       refine gm hs 1 rfl rfl rfl hC fun a hs => ?_
       refine gv hs 2 rfl rfl hC (fun w hC => y_indexAt Try.runUnderlying27 Try.sizeOf46 rfl rfl h1697.1 h1697.2 h1698) fun a hs => ?_
       refine gv hs 3 rfl rfl hC (fun w hC => y_fieldAddr (o' := q1700 + 1) Try.runUnderlying46 rfl Try.sizeOf3 rfl rfl rfl) fun a hs => ?_
       refine gv hs 4 rfl rfl hC (fun w hC => y_loadQ1 (j := 1) (hC.ownAt 1 rfl) rfl Try.isAgg3 h1702 rfl) fun a hs => ?_
       refine gm hs 5 rfl rfl rfl hC fun a hs => ?_
       refine gv hs 6 rfl rfl hC (fun w hC => y_leq rfl rfl) fun a hs => ?_
       refine gm hs 7 rfl rfl rfl hC fun a hs => ?_
       have hs := hs.fix 39 (.bool false) rfl (vb h1727)
       refine gt hs 8 rfl ⟨_, rfl, rfl⟩ rfl hC (fun w hC => y_move rfl) fun a hs => ?_
       refine gt hs 9 rfl ⟨_, rfl, rfl⟩ rfl hC (fun w hC => y_move rfl) fun a hs => ?_
       refine gt hs 10 rfl ⟨_, rfl, rfl⟩ rfl hC (fun w hC => y_indexAt Try.runUnderlying27 Try.sizeOf46 rfl rfl h1733.1 h1733.2 h1734) fun a hs => ?_
       refine gt hs 11 rfl ⟨_, rfl, rfl⟩ rfl hC (fun w hC => y_fieldAddr (o' := q1736 + 0) Try.runUnderlying46 rfl Try.sizeOf3 rfl rfl rfl) fun a hs => ?_
       refine gt hs 12 rfl ⟨_, rfl, rfl⟩ rfl hC (fun w hC => y_loadQ1 (j := 0) (hC.ownAt 1 rfl) rfl Try.isAgg3 h1738 rfl) fun a hs => ?_
       refine gt hs 13 rfl ⟨_, rfl, rfl⟩ rfl hC (fun w hC => y_move rfl) fun a hs => ?_
       refine gt hs 14 rfl ⟨_, rfl, rfl⟩ rfl hC (fun w hC => y_move rfl) fun a hs => ?_
       refine gt hs 15 rfl ⟨_, rfl, rfl⟩ rfl hC (fun w hC => y_indexAt Try.runUnderlying27 Try.sizeOf46 rfl rfl h1742.1 h1742.2 h1743) fun a hs => ?_
       refine gt hs 16 rfl ⟨_, rfl, rfl⟩ rfl hC (fun w hC => y_fieldAddr (o' := q1745 + 1) Try.runUnderlying46 rfl Try.sizeOf3 rfl rfl rfl) fun a hs => ?_
       refine gt hs 17 rfl ⟨_, rfl, rfl⟩ rfl hC (fun w hC => y_loadQ1 (j := 1) (hC.ownAt 0 rfl) rfl Try.isAgg3 h1747 rfl) fun a hs => ?_
       refine gt hs 18 rfl ⟨_, rfl, rfl⟩ rfl hC (fun w hC => y_geq rfl rfl) fun a hs => ?_
       refine gv hs 19 rfl rfl hC (fun w hC => y_pickFE (v := .bool c1725) rfl rfl (vbs h1729)) fun a hs => ?_
       refine h_done (by kernel_rfl) ?_
       exact ⟨Sv1514, (hs.wk rfl), (hw.ft [0, 1, 2] [0, 1, 2] (by decide) rfl rfl)⟩
      rintro a w ⟨Sv1726, hs, hw⟩
      refine then_normal ?_
      refine wp_cond_split (hs.ev rfl) (fun h1749 => ?_) (fun h1749 => ?_)
      ·have hsh := ite_t hsh h1749
       refine wp_exit ?_
       refine then_exit ?_
       refine blk_exit ?_
       refine then_normal ?_
       exact ⟨sv1336.1, sv1336.2.1, c1511, p1512, k1513, Sv1726, hsh, (hs.wk rfl), (hw.ft [0, 1, 2] [0, 1, 2] (by decide) rfl rfl)⟩
      have hsh := ite_f hsh h1749
      refine wp_skip ?_
      refine then_normal ?_
      refine wp_seq ?_
      refine sr ?_
      refine mv hs rfl rfl fun a hs => ?_
      refine mv hs rfl rfl fun a hs => ?_
      obtain ⟨x1752, h1750, hsh⟩ := bind_t hsh
      obtain ⟨q1756, c1757, h1753, h1754, h1758, h1751⟩ := hw.elemRK (α := Span) 1 rfl 1 rfl h1750
      obtain ⟨_, _, rfl, rfl, rfl⟩ := h1751
      refine sv hs (y_indexAt Try.runUnderlying27 Try.sizeOf46 rfl rfl h1753.1 h1753.2 h1754) rfl fun a hs => ?_
      refine sv hs (y_fieldAddr (o' := q1756 + 0) Try.runUnderlying46 rfl Try.sizeOf3 rfl rfl rfl) rfl fun a hs => ?_
      refine sv hs (y_loadQ1 (j := 0) (hw.ownAt 1 rfl) rfl Try.isAgg3 h1758 rfl) rfl fun a hs => ?_
      refine mv hs rfl rfl fun a hs => ?_
      refine sv hs (y_gtr rfl rfl) rfl fun a hs => ?_
      refine nl ?_
      refine wp_join (fun a w => ∃ (out1780 : (List Span)) (c1776 : List Value) (p1777 : Option Addr) (k1778 : Nat) (Sv1779 : Nat → Prop), ref08_Minus_j2 rv21 sv1336 out1780 = some tv1601 ∧ Sl 94 [(5, .slice (some ⟨b1332, 0, none⟩) rv10.length k12), (6, .slice (some ⟨b1703, 0, none⟩) rv21.length k23), (7, .slice p1777 out1780.length k1778), (8, .int .i64 sv31.2), (9, .int .i64 sv1336.2.1), (10, .int .i64 sv1336.2.2)] a ∧ Wd ⟨w0, S0, []⟩ Sv1779 [.row (some ⟨b1332, 0, none⟩) rv10.length k12 c14 46 2, .row (some ⟨b1703, 0, none⟩) rv21.length k23 c25 46 2, .row p1777 out1780.length k1778 c1776 46 2] [RowA c14 rv10, RowA c25 rv21, RowA c1776 out1780] w) ?_ ?_
      ·refine wp_cond_split (hs.ev rfl) (fun h1792 => ?_) (fun h1792 => ?_)
       ·have hsh := ite_t hsh h1792
        refine wp_region_lit ?_
        refine mv hs rfl rfl fun a hs => ?_
        refine mv hs rfl rfl fun a hs => ?_
        refine mv hs rfl rfl fun a hs => ?_
        refine mv hs rfl rfl fun a hs => ?_
        obtain ⟨x1795, h1793, hsh⟩ := bind_t hsh
        obtain ⟨q1799, c1800, h1796, h1797, h1801, h1794⟩ := hw.elemRK (α := Span) 1 rfl 1 rfl h1793
        obtain ⟨_, _, rfl, rfl, rfl⟩ := h1794
        refine sv hs (y_indexAt Try.runUnderlying27 Try.sizeOf46 rfl rfl h1796.1 h1796.2 h1797) rfl fun a hs => ?_
        refine sv hs (y_fieldAddr (o' := q1799 + 0) Try.runUnderlying46 rfl Try.sizeOf3 rfl rfl rfl) rfl fun a hs => ?_
        refine sv hs (y_loadQ1 (j := 0) (hw.ownAt 1 rfl) rfl Try.isAgg3 h1801 rfl) rfl fun a hs => ?_
        refine sv hs (y_build (vs := [(0, .int .i64 sv1336.2.1), (1, .int .i64 x1795.From)]) Bld46 rfl rfl) rfl fun a hs => ?_
        refine w_litSlice (α := Span) (vs := [.agg #[.int .i64 sv1336.2.1, .int .i64 x1795.From]]) (cs := [.int .i64 sv1336.2.1, .int .i64 x1795.From]) (xs := ([(⟨sv1336.2.1, x1795.From⟩ : Span)] : List Span)) hs hw El27 rfl rfl rfl rfl rfl rfl ⟨⟨_, _, rfl, rfl, rfl⟩, rfl⟩ rfl trivial rfl fun b1803 a w hs hw => ?_
        obtain ⟨l1805, h1804, hsh⟩ := bind_t hsh
        refine w_appendR (α := Span) hs hw El27 3 rfl rfl rfl 3 rfl 0 rfl 0 rfl h1804 rfl trivial ?_
        intro p1806 k1807 c1808 a w hs hw
        refine av hs rfl rfl fun a hs => ?_
        refine nl ?_
        exact ⟨l1805, c1808, p1806, k1807, Sv1726, hsh, (hs.wk rfl), (hw.ft [1, 2, 3] [2, 3, 0] (by decide) rfl rfl)⟩
       have hsh := ite_f hsh h1792
       refine wp_skip ?_
       refine then_normal ?_
       exact ⟨sv1336.1, c1511, p1512, k1513, Sv1726, hsh, (hs.wk rfl), (hw.ft [0, 1, 2] [0, 1, 2] (by decide) rfl rfl)⟩
      rintro a w ⟨out1780, c1776, p1777, k1778, Sv1779, hsh, hs, hw⟩
      delta ref08_Minus_j2 at hsh
      refine then_normal ?_
      refine wp_region_lit ?_
      refine mv hs rfl rfl fun a hs => ?_
      refine mv hs rfl rfl fun a hs => ?_
      refine mv hs rfl rfl fun a hs => ?_
      obtain ⟨x1783, h1781, hsh⟩ := bind_t hsh
      obtain ⟨q1787, c1788, h1784, h1785, h1789, h1782⟩ := hw.elemRK (α := Span) 1 rfl 1 rfl h1781
      obtain ⟨_, _, rfl, rfl, rfl⟩ := h1782
      refine sv hs (y_indexAt Try.runUnderlying27 Try.sizeOf46 rfl rfl h1784.1 h1784.2 h1785) rfl fun a hs => ?_
      refine sv hs (y_fieldAddr (o' := q1787 + 1) Try.runUnderlying46 rfl Try.sizeOf3 rfl rfl rfl) rfl fun a hs => ?_
      refine sv hs (y_loadQ1 (j := 1) (hw.ownAt 1 rfl) rfl Try.isAgg3 h1789 rfl) rfl fun a hs => ?_
      refine sv hs (y_max rfl rfl) rfl fun a hs => ?_
      obtain ⟨fromv1791, h1790, hsh⟩ := bind_t hsh
      refine sv hs (y_assignI rfl h1790) rfl fun a hs => ?_
      refine wpList_nil ?_
      refine blk_normal ?_
      refine then_normal ?_
      exact ⟨out1780, fromv1791, c1776, p1777, k1778, Sv1779, hsh, (hs.wk rfl), (hw.ft [0, 1, 2] [0, 1, 2] (by decide) rfl rfl)⟩
     rintro a w ⟨out1690, fromv1691, c1686, p1687, k1688, Sv1689, hsh, hs, hw⟩
     delta ref08_Minus_j1 at hsh
     refine then_normal ?_
     refine wp_region_lit ?_
     refine mv hs rfl rfl fun a hs => ?_
     refine sv hs (y_add rfl rfl) rfl fun a hs => ?_
     obtain ⟨k1693, h1692, hsh⟩ := bind_t hsh
     refine sv hs (y_assignI rfl h1692) rfl fun a hs => ?_
     refine nl ?_
     exact ⟨_, (Option.some.inj hsh).symm, c1686, p1687, k1688, Sv1689, (hs.wk rfl), (hw.ft [0, 1, 2] [0, 1, 2] (by decide) rfl rfl)⟩
    have hsh := ite_f hsh h1609
    refine wp_exit ?_
    refine then_exit ?_
    refine then_exit ?_
    refine blk_exit ?_
    have hsh := oi hsh
    subst hsh
    have h1809 := hd1600 _ rfl
    subst h1809
    refine then_normal ?_
    exact ⟨c1511, p1512, k1513, Sv1514, (hs.wk rfl), (hw.ft [0, 1, 2] [0, 1, 2] (by decide) rfl rfl)⟩
   rintro a w ⟨c1604, p1605, k1606, Sv1607, hs, hw⟩
   refine then_normal ?_
   refine sr ?_
   refine mv hs rfl rfl fun a hs => ?_
   refine mv hs rfl rfl fun a hs => ?_
   refine mv hs rfl rfl fun a hs => ?_
   obtain ⟨x1812, h1810, hsh⟩ := bind_t hsh
   obtain ⟨q1816, c1817, h1813, h1814, h1818, h1811⟩ := hw.elemRK (α := Span) 0 rfl 0 rfl h1810
   obtain ⟨_, _, rfl, rfl, rfl⟩ := h1811
   refine sv hs (y_indexAt Try.runUnderlying27 Try.sizeOf46 rfl rfl h1813.1 h1813.2 h1814) rfl fun a hs => ?_
   refine sv hs (y_fieldAddr (o' := q1816 + 1) Try.runUnderlying46 rfl Try.sizeOf3 rfl rfl rfl) rfl fun a hs => ?_
   refine sv hs (y_loadQ1 (j := 1) (hw.ownAt 0 rfl) rfl Try.isAgg3 h1818 rfl) rfl fun a hs => ?_
   refine sv hs (y_lss rfl rfl) rfl fun a hs => ?_
   refine nl ?_
   refine wp_join (fun a w => ∃ (out1840 : (List Span)) (c1836 : List Value) (p1837 : Option Addr) (k1838 : Nat) (Sv1839 : Nat → Prop), ref08_Minus_j4 sv31 out1840 = some tv998 ∧ Sl 94 [(5, .slice (some ⟨b1332, 0, none⟩) rv10.length k12), (6, .slice p22 rv21.length k23), (7, .slice p1837 out1840.length k1838), (8, .int .i64 sv31.2)] a ∧ Wd ⟨w0, S0, []⟩ Sv1839 [.row (some ⟨b1332, 0, none⟩) rv10.length k12 c14 46 2, .row p22 rv21.length k23 c25 46 2, .row p1837 out1840.length k1838 c1836 46 2] [RowA c14 rv10, RowA c25 rv21, RowA c1836 out1840] w) ?_ ?_
   ·refine wp_cond_split (hs.ev rfl) (fun h1843 => ?_) (fun h1843 => ?_)
    ·have hsh := ite_t hsh h1843
     refine wp_region_lit ?_
     refine mv hs rfl rfl fun a hs => ?_
     refine mv hs rfl rfl fun a hs => ?_
     refine mv hs rfl rfl fun a hs => ?_
     refine mv hs rfl rfl fun a hs => ?_
     obtain ⟨x1846, h1844, hsh⟩ := bind_t hsh
     obtain ⟨q1850, c1851, h1847, h1848, h1852, h1845⟩ := hw.elemRK (α := Span) 0 rfl 0 rfl h1844
     obtain ⟨_, _, rfl, rfl, rfl⟩ := h1845
     refine sv hs (y_indexAt Try.runUnderlying27 Try.sizeOf46 rfl rfl h1847.1 h1847.2 h1848) rfl fun a hs => ?_
     refine sv hs (y_fieldAddr (o' := q1850 + 1) Try.runUnderlying46 rfl Try.sizeOf3 rfl rfl rfl) rfl fun a hs => ?_
     refine sv hs (y_loadQ1 (j := 1) (hw.ownAt 0 rfl) rfl Try.isAgg3 h1852 rfl) rfl fun a hs => ?_
     refine sv hs (y_build (vs := [(0, .int .i64 e1603.2), (1, .int .i64 x1846.To)]) Bld46 rfl rfl) rfl fun a hs => ?_
     refine w_litSlice (α := Span) (vs := [.agg #[.int .i64 e1603.2, .int .i64 x1846.To]]) (cs := [.int .i64 e1603.2, .int .i64 x1846.To]) (xs := ([(⟨e1603.2, x1846.To⟩ : Span)] : List Span)) hs hw El27 rfl rfl rfl rfl rfl rfl ⟨⟨_, _, rfl, rfl, rfl⟩, rfl⟩ rfl trivial rfl fun b1854 a w hs hw => ?_
     obtain ⟨l1856, h1855, hsh⟩ := bind_t hsh
     refine w_appendR (α := Span) hs hw El27 3 rfl rfl rfl 3 rfl 0 rfl 0 rfl h1855 rfl trivial ?_
     intro p1857 k1858 c1859 a w hs hw
     refine av hs rfl rfl fun a hs => ?_
     refine nl ?_
     exact ⟨l1856, c1859, p1857, k1858, Sv1607, hsh, (hs.wk rfl), (hw.ft [1, 2, 3] [2, 3, 0] (by decide) rfl rfl)⟩
    have hsh := ite_f hsh h1843
    refine wp_skip ?_
    refine then_normal ?_
    exact ⟨e1603.1, c1604, p1605, k1606, Sv1607, hsh, (hs.wk rfl), (hw.ft [0, 1, 2] [0, 1, 2] (by decide) rfl rfl)⟩
   rintro a w ⟨out1840, c1836, p1837, k1838, Sv1839, hsh, hs, hw⟩
   delta ref08_Minus_j4 at hsh
   refine blk_normal ?_
   refine then_normal ?_
   refine wp_region_lit ?_
   refine mv hs rfl rfl fun a hs => ?_
   refine sv hs (y_add rfl rfl) rfl fun a hs => ?_
   obtain ⟨i1842, h1841, hsh⟩ := bind_t hsh
   refine sv hs (y_assignI rfl h1841) rfl fun a hs => ?_
   refine nl ?_
   exact ⟨_, (Option.some.inj hsh).symm, c1836, p1837, k1838, Sv1839, (hs.wk rfl), (hw.ft [0, 1, 2] [0, 1, 2] (by decide) rfl rfl)⟩
  have hsh := ite_f hsh h1006
  refine wp_exit ?_
  refine then_exit ?_
  refine then_exit ?_
  refine blk_exit ?_
  have hsh := oi hsh
  subst hsh
  have h1861 := hd997 _ rfl
  subst h1861
  refine then_normal ?_
  exact ⟨c674, p675, k676, Sv677, (hs.wk rfl), (hw.ft [2] [2] (by decide) rfl rfl)⟩
 rintro a w ⟨c1001, p1002, k1003, Sv1004, hs, hw⟩
 refine then_normal ?_
 refine sr ?_
 refine mv hs rfl rfl fun a hs => ?_
 refine av hs rfl rfl fun a hs => ?_
 refine nl ?_
 have hsh := oi hsh
 subst hsh
 refine wp_ret ?_
 exact ret1 hs rfl (rv_tmp rfl) (hw.ret ⟨p1002, k1003, c1001, rfl, (hw.outs [0] (by decide) rfl), (hw.envAt 0 rfl)⟩)

abbrev ref08_Union_rd (w0 : World) (X : List Nat) (r : (List Span)) : (Nat → Prop) → World → Value → Prop := fun S w v => ∃ (p0_0 : Option Addr) (k0_0 : Nat) (c0_0 : List Value), v = .slice p0_0 r.length k0_0 ∧ Outs X w0 S w [.row p0_0 r.length k0_0 c0_0 46 2] ∧ (RowA c0_0 r).p S w
set_option maxHeartbeats 4000000 in
set_option maxRecDepth 100000 in
theorem ref08_Union_ok {w0 : World} {S0 : Nat → Prop} {p2 : Option Addr} {k3 : Nat} {p6 : Option Addr} {k7 : Nat} {a1 : (List Span)} {b5 : (List Span)} {r : (List Span)} (hsh : ref08_Union a1 b5 = some r) (hS : ∀ b, S0 b → b < w0.heap.size) (h4 : (SlA p2 a1.length k3 a1).p S0 w0) (h8 : (SlA p6 b5.length k7 b5).p S0 w0) : Calls Try.prog 45 #[.slice p2 a1.length k3, .slice p6 b5.length k7] w0 (Ret ([]) w0 S0 (ref08_Union_rd w0 ([]) r)) := by
 refine calls_of_wp Try.func45 rfl ?_
 have hs := Sl.enter #[.slice p2 a1.length k3, .slice p6 b5.length k7] 10 [(0, .slice p2 a1.length k3), (1, .slice p6 b5.length k7)] rfl ⟨rfl, rfl, trivial⟩
 have hw := Wd.enter (E := []) hS (fun _ h => (by cases h))
 have hw := hw.addE h4
 have hw := hw.addE h8
 delta ref08_Union at hsh
 refine sr ?_
 refine av hs rfl rfl fun a hs => ?_
 refine nl ?_
 refine sr ?_
 refine mv hs rfl rfl fun a hs => ?_
 obtain ⟨l10, h9, hsh⟩ := bind_t hsh
 have hw := hw.nilRow Span 46
 refine w_appendE (α := Span) hs hw El27 0 rfl rfl rfl 0 rfl 2 rfl h9 rfl trivial ?_
 intro p11 k12 c13 a w hs hw
 refine mv hs rfl rfl fun a hs => ?_
 obtain ⟨l15, h14, hsh⟩ := bind_t hsh
 refine w_appendE (α := Span) hs hw El27 0 rfl rfl rfl 0 rfl 2 rfl h14 rfl trivial ?_
 intro p16 k17 c18 a w hs hw
 obtain ⟨rv20, h19, hsh⟩ := bind_t hsh
 obtain ⟨Sv25, hw⟩ := w_share (α := Span) hw 0 rfl 0 rfl
 refine st_callR hs (ref08_Normal_ok h19 hw.dom (hw.envAt 0 rfl)) (do_call Try.call51 rfl) trivial rfl rfl ?_
 intro v29 Sv26 w a h27 h28 hs
 obtain ⟨p21, k22, c24, rfl, h30, h23⟩ := h28
 have hw := hw.callN h27 h30
 have hw := hw.addE (e := RowA c24 rv20) h23
 refine av hs rfl rfl fun a hs => ?_
 refine nl ?_
 have hsh := oi hsh
 subst hsh
 refine wp_ret ?_
 exact ret1 hs rfl (rv_tmp rfl) (hw.ret ⟨p21, k22, c24, rfl, (hw.outs [0] (by decide) rfl), (hw.envAt 0 rfl)⟩)

abbrev ref11_limited_rd (w0 : World) (X : List Nat) (r : (Receiver × Int)) : (Nat → Prop) → World → Value → Prop := fun S w v => ∃ (p0_0 : Option Addr) (k0_0 : Nat) (p0_1 : Option Addr) (k0_1 : Nat), v = .tuple #[.agg #[.slice p0_0 r.1.Got.length k0_0, .slice p0_1 r.1.Lost.length k0_1], .int .i64 r.2] ∧ (SlA p0_0 r.1.Got.length k0_0 r.1.Got).p S w ∧ (SlA p0_1 r.1.Lost.length k0_1 r.1.Lost).p S w
set_option maxHeartbeats 4000000 in
set_option maxRecDepth 100000 in
theorem ref11_limited_ok {w0 : World} {S0 : Nat → Prop} {p2 : Option Addr} {k3 : Nat} {p4 : Option Addr} {k5 : Nat} {r1 : Receiver} {r : (Receiver × Int)} (hsh : ref11_limited r1 = some r) (hS : ∀ b, S0 b → b < w0.heap.size) (h6 : (SlA p2 r1.Got.length k3 r1.Got).p S0 w0) (h7 : (SlA p4 r1.Lost.length k5 r1.Lost).p S0 w0) : Calls Try.prog 44 #[.agg #[.slice p2 r1.Got.length k3, .slice p4 r1.Lost.length k5]] w0 (Ret ([]) w0 S0 (ref11_limited_rd w0 ([]) r)) := by
 refine calls_of_wp Try.func44 rfl ?_
 have hs := Sl.enter #[.agg #[.slice p2 r1.Got.length k3, .slice p4 r1.Lost.length k5]] 16 [(0, .agg #[.slice p2 r1.Got.length k3, .slice p4 r1.Lost.length k5])] rfl ⟨rfl, trivial⟩
 have hw := Wd.enter (E := []) hS (fun _ h => (by cases h))
 have hw := hw.addE h6
 have hw := hw.addE h7
 delta ref11_limited at hsh
 refine sr ?_
 refine w_box (cs := [.slice p2 r1.Got.length k3, .slice p4 r1.Lost.length k5]) hs hw rfl rfl rfl trivial ?_
 intro b8 a w hs hw
 refine w_alloc (cs := [.slice none ([] : List Span).length 0, .slice none ([] : List Span).length 0]) hs hw Try.zeroValue29 rfl rfl trivial ?_
 intro b9 a w hs hw
 refine av hs rfl rfl fun a hs => ?_
 refine nl ?_
 refine wp_seq ?_
 refine sr ?_
 refine sv hs (y_fieldAddr (o' := 0) Try.runUnderlying29 rfl Try.sizeOf27 rfl rfl rfl) rfl fun a hs => ?_
 refine sv hs (y_loadB1 (hw.ownAt 1 rfl) rfl Try.isAgg27 rfl) rfl fun a hs => ?_
 refine sv hs (y_len Try.runUnderlying27 rfl) rfl fun a hs => ?_
 refine sv hs (y_gtr rfl rfl) rfl fun a hs => ?_
 refine mv hs rfl rfl fun a hs => ?_
 refine wpl_join 5 (fun a w1 => w = w1 ∧ Sl 16 [(1, .pointer (some ⟨b8, 0, none⟩)), (2, .pointer (some ⟨b9, 0, none⟩)), (13, .bool ((decide (4096 < (r1.Got.length : Int))) || (decide (4096 < (r1.Lost.length : Int)))))] a) ?_ ?_
 ·rcases Bool.eq_false_or_eq_true (decide (4096 < (r1.Got.length : Int))) with h10 | h10
  ·have hs := hs.fix 8 (.bool true) rfl (vb h10)
   refine st_skip hs rfl rfl rfl rfl rfl fun a hs => ?_
   refine st_skip hs rfl rfl rfl rfl rfl fun a hs => ?_
   refine st_skip hs rfl rfl rfl rfl rfl fun a hs => ?_
   refine st_skip hs rfl rfl rfl rfl rfl fun a hs => ?_
   refine sv hs (y_pickT rfl rfl) rfl fun a hs => ?_
   refine nl ?_
   exact ⟨rfl, (hs.fix 13 (.bool ((decide (4096 < (r1.Got.length : Int))) || (decide (4096 < (r1.Lost.length : Int))))) rfl (or_t h10)).weaken _ ⟨rfl, rfl, rfl, trivial⟩⟩
  have hs := hs.fix 8 (.bool false) rfl (vb h10)
  refine st_val hs (y_fieldAddr (o' := 1) Try.runUnderlying29 rfl Try.sizeOf27 rfl rfl rfl) ⟨_, rfl, rfl⟩ rfl rfl fun a hs => ?_
  refine st_val hs (y_loadB1 (hw.ownAt 1 rfl) rfl Try.isAgg27 rfl) ⟨_, rfl, rfl⟩ rfl rfl fun a hs => ?_
  refine st_val hs (y_len Try.runUnderlying27 rfl) ⟨_, rfl, rfl⟩ rfl rfl fun a hs => ?_
  refine st_val hs (y_gtr rfl rfl) ⟨_, rfl, rfl⟩ rfl rfl fun a hs => ?_
  refine sv hs (y_pickF rfl rfl) rfl fun a hs => ?_
  refine nl ?_
  exact ⟨rfl, (hs.fix 13 (.bool ((decide (4096 < (r1.Got.length : Int))) || (decide (4096 < (r1.Lost.length : Int))))) rfl (or_f h10)).weaken _ ⟨rfl, rfl, rfl, trivial⟩⟩
 rintro a w1 ⟨h13, hs⟩
 subst h13
 refine nl ?_
 refine wp_cond_split (hs.ev rfl) (fun h12 => ?_) (fun h12 => ?_)
 ·have hsh := ite_t hsh h12
  refine sr ?_
  refine sv hs (y_build (vs := []) Bld29 rfl rfl) rfl fun a hs => ?_
  refine w_store (m := 2) (cs' := [.slice none ([] : List Span).length 0, .slice none ([] : List Span).length 0]) hs hw 0 rfl rfl rfl Try.sizeOf29 rfl rfl rfl rfl trivial ?_
  intro a w hs hw
  refine av hs rfl rfl fun a hs => ?_
  refine nl ?_
  have hsh := oi hsh
  subst hsh
  have hw := hw.addE (e := SlA (α := Span) none 0 0 []) nil_sl
  refine wp_ret ?_
  refine then_ret ?_
  exact ret2 hs rfl (rv_cell hw 0 rfl rfl Try.isAgg29 Try.sizeOf29 rfl) (rv_tmp rfl) (hw.ret ⟨none, 0, none, 0, rfl, (hw.envAt 0 rfl), (hw.envAt 0 rfl)⟩)
 have hsh := ite_f hsh h12
 refine wp_skip ?_
 refine then_normal ?_
 refine sr ?_
 refine sv hs (y_loadBA (hw.ownAt 1 rfl) rfl Try.isAgg29 Try.sizeOf29 rfl rfl) rfl fun a hs => ?_
 refine w_store (m := 2) (cs' := [.slice p2 r1.Got.length k3, .slice p4 r1.Lost.length k5]) hs hw 0 rfl rfl rfl Try.sizeOf29 rfl rfl rfl rfl trivial ?_
 intro a w hs hw
 refine av hs rfl rfl fun a hs => ?_
 refine nl ?_
 have hsh := oi hsh
 subst hsh
 refine wp_ret ?_
 exact ret2 hs rfl (rv_cell hw 0 rfl rfl Try.isAgg29 Try.sizeOf29 rfl) (rv_tmp rfl) (hw.ret ⟨p2, k3, p4, k5, rfl, (hw.envAt 1 rfl), (hw.envAt 0 rfl)⟩)

abbrev ref11_Lose_rd (w0 : World) (X : List Nat) (r : (Receiver × Int)) : (Nat → Prop) → World → Value → Prop := fun S w v => ∃ (p0_0 : Option Addr) (k0_0 : Nat) (p0_1 : Option Addr) (k0_1 : Nat), v = .tuple #[.agg #[.slice p0_0 r.1.Got.length k0_0, .slice p0_1 r.1.Lost.length k0_1], .int .i64 r.2] ∧ (SlA p0_0 r.1.Got.length k0_0 r.1.Got).p S w ∧ (SlA p0_1 r.1.Lost.length k0_1 r.1.Lost).p S w
set_option maxHeartbeats 4000000 in
set_option maxRecDepth 100000 in
theorem ref11_Lose_ok {w0 : World} {S0 : Nat → Prop} {p2 : Option Addr} {k3 : Nat} {p4 : Option Addr} {k5 : Nat} {r1 : Receiver} {below8 : Int} {r : (Receiver × Int)} (hsh : ref11_Lose r1 below8 = some r) (hS : ∀ b, S0 b → b < w0.heap.size) (h6 : (SlA p2 r1.Got.length k3 r1.Got).p S0 w0) (h7 : (SlA p4 r1.Lost.length k5 r1.Lost).p S0 w0) : Calls Try.prog 21 #[.agg #[.slice p2 r1.Got.length k3, .slice p4 r1.Lost.length k5], .int .i64 below8] w0 (Ret ([]) w0 S0 (ref11_Lose_rd w0 ([]) r)) := by
 refine calls_of_wp Try.func21 rfl ?_
 have hs := Sl.enter #[.agg #[.slice p2 r1.Got.length k3, .slice p4 r1.Lost.length k5], .int .i64 below8] 32 [(0, .agg #[.slice p2 r1.Got.length k3, .slice p4 r1.Lost.length k5]), (1, .int .i64 below8)] rfl ⟨rfl, rfl, trivial⟩
 have hw := Wd.enter (E := []) hS (fun _ h => (by cases h))
 have hw := hw.addE h6
 have hw := hw.addE h7
 delta ref11_Lose at hsh
 refine sr ?_
 refine w_box (cs := [.slice p2 r1.Got.length k3, .slice p4 r1.Lost.length k5]) hs hw rfl rfl rfl trivial ?_
 intro b9 a w hs hw
 refine w_alloc (cs := [.slice none ([] : List Span).length 0, .slice none ([] : List Span).length 0]) hs hw Try.zeroValue29 rfl rfl trivial ?_
 intro b10 a w hs hw
 refine av hs rfl rfl fun a hs => ?_
 refine nl ?_
 refine wp_seq ?_
 refine sr ?_
 refine sv hs (y_loadBA (hw.ownAt 1 rfl) rfl Try.isAgg29 Try.sizeOf29 rfl rfl) rfl fun a hs => ?_
 obtain ⟨rv12, h11, hsh⟩ := bind_t hsh
 refine st_callR hs (ref11_Valid_ok h11 hw.bdom (hw.bE 1 rfl) (hw.bE 0 rfl)) (do_call Try.call27 rfl) trivial rfl rfl ?_
 intro v16 Sv13 w a h14 h15 hs
 subst h15
 have hw := hw.callB h14
 refine sv hs (y_not rfl) rfl fun a hs => ?_
 refine nl ?_
 refine wp_cond_split (hs.ev rfl) (fun h19 => ?_) (fun h19 => ?_)
 ·have hsh := ite_t hsh h19
  refine sr ?_
  refine sv hs (y_build (vs := []) Bld29 rfl rfl) rfl fun a hs => ?_
  refine w_store (m := 2) (cs' := [.slice none ([] : List Span).length 0, .slice none ([] : List Span).length 0]) hs hw 0 rfl rfl rfl Try.sizeOf29 rfl rfl rfl rfl trivial ?_
  intro a w hs hw
  refine av hs rfl rfl fun a hs => ?_
  refine nl ?_
  have hsh := oi hsh
  subst hsh
  have hw := hw.addE (e := SlA (α := Span) none 0 0 []) nil_sl
  refine wp_ret ?_
  refine then_ret ?_
  exact ret2 hs rfl (rv_cell hw 0 rfl rfl Try.isAgg29 Try.sizeOf29 rfl) (rv_tmp rfl) (hw.ret ⟨none, 0, none, 0, rfl, (hw.envAt 0 rfl), (hw.envAt 0 rfl)⟩)
 have hsh := ite_f hsh h19
 refine wp_skip ?_
 refine then_normal ?_
 refine wp_seq ?_
 refine sr ?_
 refine mv hs rfl rfl fun a hs => ?_
 obtain ⟨rv21, h20, hsh⟩ := bind_t hsh
 refine st_callR hs (ref01_In_ok h20 hw.bdom) (do_call Try.call43 rfl) trivial rfl rfl ?_
 intro v25 Sv22 w a h23 h24 hs
 subst h24
 have hw := hw.callB h23
 refine sv hs (y_not rfl) rfl fun a hs => ?_
 refine nl ?_
 refine wp_cond_split (hs.ev rfl) (fun h28 => ?_) (fun h28 => ?_)
 ·have hsh := ite_t hsh h28
  refine sr ?_
  refine sv hs (y_build (vs := []) Bld29 rfl rfl) rfl fun a hs => ?_
  refine w_store (m := 2) (cs' := [.slice none ([] : List Span).length 0, .slice none ([] : List Span).length 0]) hs hw 0 rfl rfl rfl Try.sizeOf29 rfl rfl rfl rfl trivial ?_
  intro a w hs hw
  refine av hs rfl rfl fun a hs => ?_
  refine nl ?_
  have hsh := oi hsh
  subst hsh
  have hw := hw.addE (e := SlA (α := Span) none 0 0 []) nil_sl
  refine wp_ret ?_
  refine then_ret ?_
  exact ret2 hs rfl (rv_cell hw 0 rfl rfl Try.isAgg29 Try.sizeOf29 rfl) (rv_tmp rfl) (hw.ret ⟨none, 0, none, 0, rfl, (hw.envAt 0 rfl), (hw.envAt 0 rfl)⟩)
 have hsh := ite_f hsh h28
 refine wp_skip ?_
 refine then_normal ?_
 refine sr ?_
 refine mv hs rfl rfl fun a hs => ?_
 refine sv hs (y_build (vs := [(0, .int .i64 0), (1, .int .i64 below8)]) Bld46 rfl rfl) rfl fun a hs => ?_
 refine w_litSlice (α := Span) (vs := [.agg #[.int .i64 0, .int .i64 below8]]) (cs := [.int .i64 0, .int .i64 below8]) (xs := ([(⟨0, below8⟩ : Span)] : List Span)) hs hw El27 rfl rfl rfl rfl rfl rfl ⟨⟨_, _, rfl, rfl, rfl⟩, rfl⟩ rfl trivial rfl fun b30 a w hs hw => ?_
 refine sv hs (y_fieldAddr (o' := 0) Try.runUnderlying29 rfl Try.sizeOf27 rfl rfl rfl) rfl fun a hs => ?_
 refine sv hs (y_loadB1 (hw.ownAt 2 rfl) rfl Try.isAgg27 rfl) rfl fun a hs => ?_
 obtain ⟨rv32, h31, hsh⟩ := bind_t hsh
 obtain ⟨Sv37, hw⟩ := w_share (α := Span) hw 0 rfl 0 rfl
 refine st_callR hs (ref08_Minus_ok h31 hw.dom (hw.envAt 0 rfl) (hw.envAt 3 rfl)) (do_call Try.call32 rfl) trivial rfl rfl ?_
 intro v41 Sv38 w a h39 h40 hs
 obtain ⟨p33, k34, c36, rfl, h42, h35⟩ := h40
 have hw := hw.callN h39 h42
 have hw := hw.addE (e := RowA c36 rv32) h35
 refine av hs rfl rfl fun a hs => ?_
 refine nl ?_
 refine wp_seq ?_
 obtain ⟨l44, h43, hsh⟩ := bind_t hsh
 obtain ⟨rv49, h48, hsh⟩ := bind_t hsh
 obtain ⟨rv55, h54, hsh⟩ := bind_t hsh
 refine wp_only (fun a w => ∃ (Sv62 : Nat → Prop) (k57 : Nat) (k60 : Nat) (p56 : Option Addr) (p59 : Option Addr), Sl 32 [(4, .pointer (some ⟨b10, 0, none⟩)), (5, .int .i64 rv55.2)] a ∧ Wd ⟨w0, S0, []⟩ Sv62 [.box b10 [.slice p56 rv55.1.Got.length k57, .slice p59 rv55.1.Lost.length k60] 29] [SlA p56 rv55.1.Got.length k57 rv55.1.Got, SlA p59 rv55.1.Lost.length k60 rv55.1.Lost] w) ?_ ?_
 ·refine h_b (C := Cls [.box b9 [.slice p2 r1.Got.length k3, .slice p4 r1.Lost.length k5] 29] []) (by kernel_rfl) rfl (hw.drew.cs [2] [] rfl rfl) fun hC => ?_
  have hw := hw.drew
  refine gv hs 0 rfl rfl hC (fun w hC => y_fieldAddr (o' := 0) Try.runUnderlying29 rfl Try.sizeOf27 rfl rfl rfl) fun a hs => ?_
  refine gv hs 1 rfl rfl hC (fun w hC => y_loadB1 (hC.ownAt 0 rfl) rfl Try.isAgg27 rfl) fun a hs => ?_
  refine gv hs 3 rfl rfl hC (fun w hC => y_fieldAddr (o' := 1) Try.runUnderlying29 rfl Try.sizeOf27 rfl rfl rfl) fun a hs => ?_
  refine gv hs 4 rfl rfl hC (fun w hC => y_loadB1 (hC.ownAt 0 rfl) rfl Try.isAgg27 rfl) fun a hs => ?_
  refine gm hs 5 rfl rfl rfl hC fun a hs => ?_
  refine ho 2 rfl ?_
  have hw := hw.nilRow Span 46
  refine w_appendE (α := Span) hs hw El27 0 rfl rfl rfl 0 rfl 5 rfl h43 rfl trivial ?_
  intro p45 k46 c47 a w hs hw
  refine h_nx (hw.cs [3] [] rfl rfl) fun hC => ?_
  refine ho 6 rfl ?_
  obtain ⟨Sv63, hw⟩ := w_share (α := Span) hw 1 rfl 2 rfl
  refine st_callR hs (ref08_Union_ok h48 hw.dom (hw.envAt 6 rfl) (hw.envAt 0 rfl)) (do_call Try.call45 rfl) trivial rfl rfl ?_
  intro v67 Sv64 w a h65 h66 hs
  obtain ⟨p50, k51, c53, rfl, h68, h52⟩ := h66
  have hw := hw.callN h65 h68
  have hw := hw.addE (e := RowA c53 rv49) h52
  refine h_nx (hw.cs [3] [] rfl rfl) fun hC => ?_
  refine gv hs 7 rfl rfl hC (fun w hC => y_build (vs := [(0, .slice p45 l44.length k46), (1, .slice p50 rv49.length k51)]) Bld29 rfl rfl) fun a hs => ?_
  refine ho 8 rfl ?_
  obtain ⟨Sv69, hw⟩ := w_share (α := Span) hw 1 rfl 2 rfl
  obtain ⟨Sv70, hw⟩ := w_share (α := Span) hw 0 rfl 1 rfl
  refine st_callR hs (ref11_limited_ok h54 hw.dom (hw.envAt 1 rfl) (hw.envAt 0 rfl)) (do_call Try.call44 rfl) trivial rfl rfl ?_
  intro v74 Sv71 w a h72 h73 hs
  obtain ⟨p56, k57, p59, k60, rfl, h58, h61⟩ := h73
  have hw := hw.call h72
  have hw := hw.addE (e := SlA p56 rv55.1.Got.length k57 rv55.1.Got) h58
  have hw := hw.addE (e := SlA p59 rv55.1.Lost.length k60 rv55.1.Lost) h61
  refine h_nx (hw.cs [1] [] rfl rfl) fun hC => ?_
  refine gv hs 9 rfl rfl hC (fun w hC => y_extract rfl rfl) fun a hs => ?_
  refine gv hs 10 rfl rfl hC (fun w hC => y_extract rfl rfl) fun a hs => ?_
  refine ho 11 rfl ?_
  refine w_store (m := 2) (cs' := [.slice p56 rv55.1.Got.length k57, .slice p59 rv55.1.Lost.length k60]) hs hw 0 rfl rfl rfl Try.sizeOf29 rfl rfl rfl rfl trivial ?_
  intro a w hs hw
  refine h_nx (hw.cs [1] [] rfl rfl) fun hC => ?_
  refine gv hs 12 rfl rfl hC (fun w hC => y_assign rfl) fun a hs => ?_
  refine h_done (by kernel_rfl) ?_
  exact ⟨Sv71, k57, k60, p56, p59, (hs.wk rfl), (hw.ft [0] [1, 0] (by decide) rfl rfl)⟩
 rintro a w ⟨Sv62, k57, k60, p56, p59, hs, hw⟩
 refine then_normal ?_
 have hsh := oi hsh
 subst hsh
 refine wp_ret ?_
 exact ret2 hs rfl (rv_cell hw 0 rfl rfl Try.isAgg29 Try.sizeOf29 rfl) (rv_tmp rfl) (hw.ret ⟨p56, k57, p59, k60, rfl, (hw.envAt 0 rfl), (hw.envAt 1 rfl)⟩)

abbrev ref08_Has_rd (w0 : World) (X : List Nat) (r : Bool) : (Nat → Prop) → World → Value → Prop := fun S w v => v = .bool r
set_option maxHeartbeats 4000000 in
set_option maxRecDepth 100000 in
theorem ref08_Has_ok {w0 : World} {S0 : Nat → Prop} {p2 : Option Addr} {k3 : Nat} {l1 : (List Span)} {x5 : Int} {r : Bool} (hsh : ref08_Has l1 x5 = some r) (hS : ∀ b, S0 b → b < w0.heap.size) (h4 : (SlA p2 l1.length k3 l1).p S0 w0) : Calls Try.prog 14 #[.slice p2 l1.length k3, .int .i64 x5] w0 (Ret ([]) w0 S0 (ref08_Has_rd w0 ([]) r)) := by
 refine calls_of_wp Try.func14 rfl ?_
 have hs := Sl.enter #[.slice p2 l1.length k3, .int .i64 x5] 28 [(0, .slice p2 l1.length k3), (1, .int .i64 x5)] rfl ⟨rfl, rfl, trivial⟩
 have hw := Wd.enter (E := []) hS (fun _ h => (by cases h))
 have hw := hw.addE h4
 delta ref08_Has at hsh
 refine sr ?_
 refine av hs rfl rfl fun a hs => ?_
 refine nl ?_
 refine wp_seq ?_
 refine sr ?_
 refine av hs rfl rfl fun a hs => ?_
 refine nl ?_
 refine wp_block ?_
 refine wp_while (fun sv119 a w => ∃ (Sv193 : Nat → Prop), Sl 28 [(0, .slice p2 l1.length k3), (1, .int .i64 x5), (5, .int .i64 sv119)] a ∧ Wd ⟨w0, S0, []⟩ Sv193 [] [SlA p2 l1.length k3 l1] w) 0 hsh ⟨S0, (hs.wk rfl), (hw.ft [] [0] (by decide) rfl rfl)⟩ ?_
 repeat clear hsh
 rintro sv119 a w tv231 ⟨Sv193, hs, hw⟩ hsh hd230
 delta ref08_Has_l2 at hsh
 refine wp_seq ?_
 refine sr ?_
 refine mv hs rfl rfl fun a hs => ?_
 refine mv hs rfl rfl fun a hs => ?_
 refine sv hs (y_len Try.runUnderlying27 rfl) rfl fun a hs => ?_
 refine sv hs (y_lss rfl rfl) rfl fun a hs => ?_
 refine nl ?_
 refine wp_cond_split (hs.ev rfl) (fun h235 => ?_) (fun h235 => ?_)
 ·have hsh := ite_t hsh h235
  refine wp_skip ?_
  refine then_normal ?_
  refine wp_seq ?_
  refine wp_block ?_
  refine sr ?_
  refine mv hs rfl rfl fun a hs => ?_
  refine mv hs rfl rfl fun a hs => ?_
  obtain ⟨x271, h269, hsh⟩ := bind_t hsh
  obtain ⟨b277, o278, q275, c276, h279, h272, h273, h274, h270⟩ := hw.elemV 0 rfl h269
  have hsv280 := hs
  have hwv281 := hw
  subst h279
  have hs := hsv280
  have hw := hwv281
  obtain ⟨_, _, rfl, rfl, rfl⟩ := h270
  have hw := hw.addE h274
  refine sv hs (y_indexAt Try.runUnderlying27 Try.sizeOf46 rfl rfl h272.1 h272.2 h273) rfl fun a hs => ?_
  refine sv hs (y_fieldAddr (o' := q275 + 0) Try.runUnderlying46 rfl Try.sizeOf3 rfl rfl rfl) rfl fun a hs => ?_
  refine sv hs (y_loadE1 (j := 0) (hw.ceAt 0 rfl) rfl Try.isAgg3 rfl) rfl fun a hs => ?_
  refine mv hs rfl rfl fun a hs => ?_
  refine sv hs (y_leq rfl rfl) rfl fun a hs => ?_
  refine mv hs rfl rfl fun a hs => ?_
  obtain ⟨c291, hc291, hsh⟩ := bind_t hsh
  refine wpl_join 8 (fun a w => ∃ (Sv292 : Nat → Prop), Sl 28 [(0, .slice (some ⟨b277, o278, none⟩) l1.length k3), (1, .int .i64 x5), (5, .int .i64 sv119), (27, .bool c291)] a ∧ Wd ⟨w0, S0, []⟩ Sv292 [] [SlA (some ⟨b277, o278, none⟩) l1.length k3 l1] w) ?_ ?_
  ·rcases Bool.eq_false_or_eq_true (decide (x271.From ≤ x5)) with h290 | h290
   ·have hs := hs.fix 19 (.bool true) rfl (vb h290)
    have hsh := ite_t hc291 h290
    refine st_val hs (y_move rfl) ⟨_, rfl, rfl⟩ rfl rfl fun a hs => ?_
    refine st_val hs (y_move rfl) ⟨_, rfl, rfl⟩ rfl rfl fun a hs => ?_
    refine st_val hs (y_move rfl) ⟨_, rfl, rfl⟩ rfl rfl fun a hs => ?_
    obtain ⟨x295, h293, hsh⟩ := bind_t hsh
    obtain ⟨q299, c300, h296, h297, h298, h294⟩ := hw.elemK 1 rfl h293
    obtain ⟨_, _, rfl, rfl, rfl⟩ := h294
    have hw := hw.addE h298
    refine st_val hs (y_indexAt Try.runUnderlying27 Try.sizeOf46 rfl rfl h296.1 h296.2 h297) ⟨_, rfl, rfl⟩ rfl rfl fun a hs => ?_
    refine st_val hs (y_fieldAddr (o' := q299 + 1) Try.runUnderlying46 rfl Try.sizeOf3 rfl rfl rfl) ⟨_, rfl, rfl⟩ rfl rfl fun a hs => ?_
    refine st_val hs (y_loadE1 (j := 1) (hw.ceAt 0 rfl) rfl Try.isAgg3 rfl) ⟨_, rfl, rfl⟩ rfl rfl fun a hs => ?_
    refine st_val hs (y_lss rfl rfl) ⟨_, rfl, rfl⟩ rfl rfl fun a hs => ?_
    refine sv hs (y_pickT rfl rfl) rfl fun a hs => ?_
    refine wpList_nil ?_
    have hsh := oi hsh
    subst hsh
    refine then_normal ?_
    exact ⟨Sv193, (hs.wk rfl), (hw.ft [] [2] (by decide) rfl rfl)⟩
   have hs := hs.fix 19 (.bool false) rfl (vb h290)
   have hsh := ite_f hc291 h290
   refine st_skip hs rfl rfl rfl rfl rfl fun a hs => ?_
   refine st_skip hs rfl rfl rfl rfl rfl fun a hs => ?_
   refine st_skip hs rfl rfl rfl rfl rfl fun a hs => ?_
   refine st_skip hs rfl rfl rfl rfl rfl fun a hs => ?_
   refine st_skip hs rfl rfl rfl rfl rfl fun a hs => ?_
   refine st_skip hs rfl rfl rfl rfl rfl fun a hs => ?_
   refine st_skip hs rfl rfl rfl rfl rfl fun a hs => ?_
   refine sv hs (y_pickF rfl rfl) rfl fun a hs => ?_
   refine wpList_nil ?_
   have hsh := oi hsh
   subst hsh
   refine then_normal ?_
   exact ⟨Sv193, (hs.wk rfl), (hw.ft [] [1] (by decide) rfl rfl)⟩
  rintro a w ⟨Sv292, hs, hw⟩
  refine nl ?_
  refine wp_cond_split (hs.ev rfl) (fun h302 => ?_) (fun h302 => ?_)
  ·have hsh := ite_t hsh h302
   refine sr ?_
   refine av hs rfl rfl fun a hs => ?_
   refine nl ?_
   have hsh := oi hsh
   subst hsh
   have h303 := hd230 _ rfl
   subst h303
   refine wp_ret ?_
   refine blk_ret ?_
   refine then_ret ?_
   refine then_ret ?_
   refine blk_ret ?_
   refine then_ret ?_
   exact ret1 hs rfl (rv_tmp rfl) (hw.ret rfl)
  have hsh := ite_f hsh h302
  refine wp_skip ?_
  refine blk_normal ?_
  refine then_normal ?_
  refine wp_region_lit ?_
  refine mv hs rfl rfl fun a hs => ?_
  refine sv hs (y_add rfl rfl) rfl fun a hs => ?_
  obtain ⟨i305, h304, hsh⟩ := bind_t hsh
  refine sv hs (y_assignI rfl h304) rfl fun a hs => ?_
  refine nl ?_
  exact ⟨_, (Option.some.inj hsh).symm, Sv292, (hs.wk rfl), (hw.ft [] [0] (by decide) rfl rfl)⟩
 have hsh := ite_f hsh h235
 obtain ⟨rv306, hsh, h307⟩ := map_t hsh
 have h307 := (hd230 _ h307.symm).symm
 subst h307
 refine wp_exit ?_
 refine then_exit ?_
 refine then_exit ?_
 refine blk_exit ?_
 refine then_normal ?_
 refine sr ?_
 refine av hs rfl rfl fun a hs => ?_
 refine nl ?_
 have hsh := oi hsh
 subst hsh
 refine wp_ret ?_
 exact ret1 hs rfl (rv_tmp rfl) (hw.ret rfl)

abbrev ref11_Accept_rd (w0 : World) (X : List Nat) (r : (Receiver × Bool × Int)) : (Nat → Prop) → World → Value → Prop := fun S w v => ∃ (p0_0 : Option Addr) (k0_0 : Nat) (p0_1 : Option Addr) (k0_1 : Nat), v = .tuple #[.agg #[.slice p0_0 r.1.Got.length k0_0, .slice p0_1 r.1.Lost.length k0_1], .bool r.2.1, .int .i64 r.2.2] ∧ (SlA p0_0 r.1.Got.length k0_0 r.1.Got).p S w ∧ (SlA p0_1 r.1.Lost.length k0_1 r.1.Lost).p S w
set_option maxHeartbeats 4000000 in
set_option maxRecDepth 100000 in
theorem ref11_Accept_ok {w0 : World} {S0 : Nat → Prop} {p2 : Option Addr} {k3 : Nat} {p4 : Option Addr} {k5 : Nat} {r1 : Receiver} {seq8 : Int} {r : (Receiver × Bool × Int)} (hsh : ref11_Accept r1 seq8 = some r) (hS : ∀ b, S0 b → b < w0.heap.size) (h6 : (SlA p2 r1.Got.length k3 r1.Got).p S0 w0) (h7 : (SlA p4 r1.Lost.length k5 r1.Lost).p S0 w0) : Calls Try.prog 20 #[.agg #[.slice p2 r1.Got.length k3, .slice p4 r1.Lost.length k5], .int .i64 seq8] w0 (Ret ([]) w0 S0 (ref11_Accept_rd w0 ([]) r)) := by
 refine calls_of_wp Try.func20 rfl ?_
 have hs := Sl.enter #[.agg #[.slice p2 r1.Got.length k3, .slice p4 r1.Lost.length k5], .int .i64 seq8] 46 [(0, .agg #[.slice p2 r1.Got.length k3, .slice p4 r1.Lost.length k5]), (1, .int .i64 seq8)] rfl ⟨rfl, rfl, trivial⟩
 have hw := Wd.enter (E := []) hS (fun _ h => (by cases h))
 have hw := hw.addE h6
 have hw := hw.addE h7
 delta ref11_Accept at hsh
 refine sr ?_
 refine w_box (cs := [.slice p2 r1.Got.length k3, .slice p4 r1.Lost.length k5]) hs hw rfl rfl rfl trivial ?_
 intro b9 a w hs hw
 refine w_alloc (cs := [.slice none ([] : List Span).length 0, .slice none ([] : List Span).length 0]) hs hw Try.zeroValue29 rfl rfl trivial ?_
 intro b10 a w hs hw
 refine av hs rfl rfl fun a hs => ?_
 refine av hs rfl rfl fun a hs => ?_
 refine nl ?_
 refine wp_seq ?_
 refine sr ?_
 refine sv hs (y_loadBA (hw.ownAt 1 rfl) rfl Try.isAgg29 Try.sizeOf29 rfl rfl) rfl fun a hs => ?_
 obtain ⟨rv12, h11, hsh⟩ := bind_t hsh
 refine st_callR hs (ref11_Valid_ok h11 hw.bdom (hw.bE 1 rfl) (hw.bE 0 rfl)) (do_call Try.call27 rfl) trivial rfl rfl ?_
 intro v16 Sv13 w a h14 h15 hs
 subst h15
 have hw := hw.callB h14
 refine sv hs (y_not rfl) rfl fun a hs => ?_
 refine nl ?_
 refine wp_cond_split (hs.ev rfl) (fun h19 => ?_) (fun h19 => ?_)
 ·have hsh := ite_t hsh h19
  refine sr ?_
  refine sv hs (y_build (vs := []) Bld29 rfl rfl) rfl fun a hs => ?_
  refine w_store (m := 2) (cs' := [.slice none ([] : List Span).length 0, .slice none ([] : List Span).length 0]) hs hw 0 rfl rfl rfl Try.sizeOf29 rfl rfl rfl rfl trivial ?_
  intro a w hs hw
  refine av hs rfl rfl fun a hs => ?_
  refine av hs rfl rfl fun a hs => ?_
  refine nl ?_
  have hsh := oi hsh
  subst hsh
  have hw := hw.addE (e := SlA (α := Span) none 0 0 []) nil_sl
  refine wp_ret ?_
  refine then_ret ?_
  exact ret3 hs rfl (rv_cell hw 0 rfl rfl Try.isAgg29 Try.sizeOf29 rfl) (rv_tmp rfl) (rv_tmp rfl) (hw.ret ⟨none, 0, none, 0, rfl, (hw.envAt 0 rfl), (hw.envAt 0 rfl)⟩)
 have hsh := ite_f hsh h19
 refine wp_skip ?_
 refine then_normal ?_
 refine wp_seq ?_
 refine sr ?_
 refine mv hs rfl rfl fun a hs => ?_
 obtain ⟨rv21, h20, hsh⟩ := bind_t hsh
 refine st_callR hs (ref01_In_ok h20 hw.bdom) (do_call Try.call43 rfl) trivial rfl rfl ?_
 intro v25 Sv22 w a h23 h24 hs
 subst h24
 have hw := hw.callB h23
 refine sv hs (y_not rfl) rfl fun a hs => ?_
 refine nl ?_
 refine wp_cond_split (hs.ev rfl) (fun h28 => ?_) (fun h28 => ?_)
 ·have hsh := ite_t hsh h28
  refine sr ?_
  refine sv hs (y_build (vs := []) Bld29 rfl rfl) rfl fun a hs => ?_
  refine w_store (m := 2) (cs' := [.slice none ([] : List Span).length 0, .slice none ([] : List Span).length 0]) hs hw 0 rfl rfl rfl Try.sizeOf29 rfl rfl rfl rfl trivial ?_
  intro a w hs hw
  refine av hs rfl rfl fun a hs => ?_
  refine av hs rfl rfl fun a hs => ?_
  refine nl ?_
  have hsh := oi hsh
  subst hsh
  have hw := hw.addE (e := SlA (α := Span) none 0 0 []) nil_sl
  refine wp_ret ?_
  refine then_ret ?_
  exact ret3 hs rfl (rv_cell hw 0 rfl rfl Try.isAgg29 Try.sizeOf29 rfl) (rv_tmp rfl) (rv_tmp rfl) (hw.ret ⟨none, 0, none, 0, rfl, (hw.envAt 0 rfl), (hw.envAt 0 rfl)⟩)
 have hsh := ite_f hsh h28
 refine wp_skip ?_
 refine then_normal ?_
 refine sr ?_
 refine mv hs rfl rfl fun a hs => ?_
 refine mv hs rfl rfl fun a hs => ?_
 refine sv hs (y_add rfl rfl) rfl fun a hs => ?_
 refine sv hs (y_build (vs := [(0, .int .i64 seq8), (1, .int .i64 (w64 (seq8 + 1)))]) Bld46 rfl rfl) rfl fun a hs => ?_
 refine w_litSlice (α := Span) (vs := [.agg #[.int .i64 seq8, .int .i64 (w64 (seq8 + 1))]]) (cs := [.int .i64 seq8, .int .i64 (w64 (seq8 + 1))]) (xs := ([(⟨seq8, (w64 (seq8 + 1))⟩ : Span)] : List Span)) hs hw El27 rfl rfl rfl rfl rfl rfl ⟨⟨_, _, rfl, rfl, rfl⟩, rfl⟩ rfl trivial rfl fun b30 a w hs hw => ?_
 refine av hs rfl rfl fun a hs => ?_
 refine nl ?_
 refine wp_seq ?_
 obtain ⟨rv32, h31, hsh⟩ := bind_t hsh
 obtain ⟨rv38, h37, hsh⟩ := bind_t hsh
 obtain ⟨rv44, h43, hsh⟩ := bind_t hsh
 refine wp_only (fun a w => ∃ (Sv52 : Nat → Prop) (b51 : Nat) (k46 : Nat) (k49 : Nat) (p45 : Option Addr) (p48 : Option Addr), Sl 46 [(1, .int .i64 seq8), (2, .pointer (some ⟨b9, 0, none⟩)), (4, .pointer (some ⟨b10, 0, none⟩)), (8, .pointer (some ⟨b51, 0, none⟩)), (9, .int .i64 rv44.2)] a ∧ Wd ⟨w0, S0, []⟩ Sv52 [.box b9 [.slice p2 r1.Got.length k3, .slice p4 r1.Lost.length k5] 29, .box b10 [.slice none ([] : List Span).length 0, .slice none ([] : List Span).length 0] 29, .box b51 [.slice p45 rv44.1.Got.length k46, .slice p48 rv44.1.Lost.length k49] 29] [SlA p2 r1.Got.length k3 r1.Got, SlA p4 r1.Lost.length k5 r1.Lost, SlA none ([] : List Span).length 0 ([] : List Span), SlA p45 rv44.1.Got.length k46 rv44.1.Got, SlA p48 rv44.1.Lost.length k49 rv44.1.Lost] w) ?_ ?_
 ·refine h_b (C := Cls [.box b10 [.slice none ([] : List Span).length 0, .slice none ([] : List Span).length 0] 29, .box b9 [.slice p2 r1.Got.length k3, .slice p4 r1.Lost.length k5] 29] []) (by kernel_rfl) rfl (hw.drew.cs [1, 2] [] rfl rfl) fun hC => ?_
  have hw := hw.drew
  refine gv hs 0 rfl rfl hC (fun w hC => y_fieldAddr (o' := 0) Try.runUnderlying29 rfl Try.sizeOf27 rfl rfl rfl) fun a hs => ?_
  refine gv hs 1 rfl rfl hC (fun w hC => y_loadB1 (hC.ownAt 1 rfl) rfl Try.isAgg27 rfl) fun a hs => ?_
  refine gm hs 2 rfl rfl rfl hC fun a hs => ?_
  refine gv hs 4 rfl rfl hC (fun w hC => y_fieldAddr (o' := 1) Try.runUnderlying29 rfl Try.sizeOf27 rfl rfl rfl) fun a hs => ?_
  refine gv hs 5 rfl rfl hC (fun w hC => y_loadB1 (hC.ownAt 1 rfl) rfl Try.isAgg27 rfl) fun a hs => ?_
  refine gm hs 6 rfl rfl rfl hC fun a hs => ?_
  refine h_all (rs := [3, 13]) (by kernel_rfl) rfl ?_
  refine AllH.cons rfl ?_ ?_
  ·obtain ⟨Sv53, hw⟩ := w_share (α := Span) hw 0 rfl 0 rfl
   refine st_callR hs (ref08_Union_ok h31 hw.dom (hw.envAt 3 rfl) (hw.envAt 0 rfl)) (do_call Try.call45 rfl) trivial rfl rfl ?_
   intro v57 Sv54 w a h55 h56 hs
   obtain ⟨p33, k34, c36, rfl, h58, h35⟩ := h56
   have hw := hw.callN h55 h58
   have hw := hw.addE (e := RowA c36 rv32) h35
   refine h_nx (hw.cs [1, 2] [] rfl rfl) fun hC => ?_
   refine h_all (rs := [7, 13]) (by kernel_rfl) rfl ?_
   refine AllH.cons rfl ?_ ?_
   ·refine st_callR hs (ref08_Minus_ok h37 hw.dom (hw.envAt 3 rfl) (hw.envAt 1 rfl)) (do_call Try.call32 rfl) trivial rfl rfl ?_
    intro v62 Sv59 w a h60 h61 hs
    obtain ⟨p39, k40, c42, rfl, h63, h41⟩ := h61
    have hw := hw.callN h60 h63
    have hw := hw.addE (e := RowA c42 rv38) h41
    refine h_nx (hw.cs [2, 3] [] rfl rfl) fun hC => ?_
    refine gv hs 8 rfl rfl hC (fun w hC => y_build (vs := [(0, .slice p33 rv32.length k34), (1, .slice p39 rv38.length k40)]) Bld29 rfl rfl) fun a hs => ?_
    refine h_all (rs := [9, 13]) (by kernel_rfl) rfl ?_
    refine AllH.cons rfl ?_ ?_
    ·obtain ⟨Sv64, hw⟩ := w_share (α := Span) hw 1 rfl 1 rfl
     obtain ⟨Sv65, hw⟩ := w_share (α := Span) hw 0 rfl 1 rfl
     refine st_callR hs (ref11_limited_ok h43 hw.dom (hw.envAt 1 rfl) (hw.envAt 0 rfl)) (do_call Try.call44 rfl) trivial rfl rfl ?_
     intro v69 Sv66 w a h67 h68 hs
     obtain ⟨p45, k46, p48, k49, rfl, h47, h50⟩ := h68
     have hw := hw.call h67
     have hw := hw.addE (e := SlA p45 rv44.1.Got.length k46 rv44.1.Got) h47
     have hw := hw.addE (e := SlA p48 rv44.1.Lost.length k49 rv44.1.Lost) h50
     refine h_nx (hw.cs [0, 1] [] rfl rfl) fun hC => ?_
     refine gm hs 10 rfl rfl rfl hC fun a hs => ?_
     refine gv hs 11 rfl rfl hC (fun w hC => y_extract rfl rfl) fun a hs => ?_
     refine gv hs 12 rfl rfl hC (fun w hC => y_extract rfl rfl) fun a hs => ?_
     refine ho 13 rfl ?_
     refine w_alloc (cs := [.slice none ([] : List Span).length 0, .slice none ([] : List Span).length 0]) hs hw Try.zeroValue29 rfl rfl trivial ?_
     intro b51 a w hs hw
     refine h_nx (hw.cs [1, 2] [] rfl rfl) fun hC => ?_
     refine ho 14 rfl ?_
     refine w_store (m := 2) (cs' := [.slice p45 rv44.1.Got.length k46, .slice p48 rv44.1.Lost.length k49]) hs hw 0 rfl rfl rfl Try.sizeOf29 rfl rfl rfl rfl trivial ?_
     intro a w hs hw
     refine h_nx (hw.cs [1, 2] [] rfl rfl) fun hC => ?_
     refine gv hs 15 rfl rfl hC (fun w hC => y_assign rfl) fun a hs => ?_
     refine h_done (by kernel_rfl) ?_
     have hw := hw.addE (e := SlA (α := Span) none 0 0 []) nil_sl
     exact ⟨Sv66, b51, k46, k49, p45, p48, (hs.wk rfl), (hw.ft [2, 1, 0] [10, 9, 0, 2, 1] (by decide) rfl rfl)⟩
    refine AllH.cons rfl ?_ ?_
    ·refine w_alloc (cs := [.slice none ([] : List Span).length 0, .slice none ([] : List Span).length 0]) hs hw Try.zeroValue29 rfl rfl trivial ?_
     intro b51 a w hs hw
     refine h_nx (hw.cs [3, 4] [] rfl rfl) fun hC => ?_
     refine ho 9 rfl ?_
     obtain ⟨Sv71, hw⟩ := w_share (α := Span) hw 2 rfl 1 rfl
     obtain ⟨Sv72, hw⟩ := w_share (α := Span) hw 1 rfl 1 rfl
     refine st_callR hs (ref11_limited_ok h43 hw.dom (hw.envAt 1 rfl) (hw.envAt 0 rfl)) (do_call Try.call44 rfl) trivial rfl rfl ?_
     intro v76 Sv73 w a h74 h75 hs
     obtain ⟨p45, k46, p48, k49, rfl, h47, h50⟩ := h75
     have hw := hw.call h74
     have hw := hw.addE (e := SlA p45 rv44.1.Got.length k46 rv44.1.Got) h47
     have hw := hw.addE (e := SlA p48 rv44.1.Lost.length k49 rv44.1.Lost) h50
     refine h_nx (hw.cs [1, 2] [] rfl rfl) fun hC => ?_
     refine gm hs 10 rfl rfl rfl hC fun a hs => ?_
     refine gv hs 11 rfl rfl hC (fun w hC => y_extract rfl rfl) fun a hs => ?_
     refine gv hs 12 rfl rfl hC (fun w hC => y_extract rfl rfl) fun a hs => ?_
     refine ho 14 rfl ?_
     refine w_store (m := 2) (cs' := [.slice p45 rv44.1.Got.length k46, .slice p48 rv44.1.Lost.length k49]) hs hw 0 rfl rfl rfl Try.sizeOf29 rfl rfl rfl rfl trivial ?_
     intro a w hs hw
     refine h_nx (hw.cs [1, 2] [] rfl rfl) fun hC => ?_
     refine gv hs 15 rfl rfl hC (fun w hC => y_assign rfl) fun a hs => ?_
     refine h_done (by kernel_rfl) ?_
     have hw := hw.addE (e := SlA (α := Span) none 0 0 []) nil_sl
     exact ⟨Sv73, b51, k46, k49, p45, p48, (hs.wk rfl), (hw.ft [2, 1, 0] [10, 9, 0, 2, 1] (by decide) rfl rfl)⟩
    exact AllH.nil
   refine AllH.cons rfl ?_ ?_
   ·refine w_alloc (cs := [.slice none ([] : List Span).length 0, .slice none ([] : List Span).length 0]) hs hw Try.zeroValue29 rfl rfl trivial ?_
    intro b51 a w hs hw
    refine h_nx (hw.cs [2, 3] [] rfl rfl) fun hC => ?_
    refine ho 7 rfl ?_
    refine st_callR hs (ref08_Minus_ok h37 hw.dom (hw.envAt 3 rfl) (hw.envAt 1 rfl)) (do_call Try.call32 rfl) trivial rfl rfl ?_
    intro v81 Sv78 w a h79 h80 hs
    obtain ⟨p39, k40, c42, rfl, h82, h41⟩ := h80
    have hw := hw.callN h79 h82
    have hw := hw.addE (e := RowA c42 rv38) h41
    refine h_nx (hw.cs [3, 4] [] rfl rfl) fun hC => ?_
    refine gv hs 8 rfl rfl hC (fun w hC => y_build (vs := [(0, .slice p33 rv32.length k34), (1, .slice p39 rv38.length k40)]) Bld29 rfl rfl) fun a hs => ?_
    refine ho 9 rfl ?_
    obtain ⟨Sv83, hw⟩ := w_share (α := Span) hw 2 rfl 1 rfl
    obtain ⟨Sv84, hw⟩ := w_share (α := Span) hw 0 rfl 1 rfl
    refine st_callR hs (ref11_limited_ok h43 hw.dom (hw.envAt 1 rfl) (hw.envAt 0 rfl)) (do_call Try.call44 rfl) trivial rfl rfl ?_
    intro v88 Sv85 w a h86 h87 hs
    obtain ⟨p45, k46, p48, k49, rfl, h47, h50⟩ := h87
    have hw := hw.call h86
    have hw := hw.addE (e := SlA p45 rv44.1.Got.length k46 rv44.1.Got) h47
    have hw := hw.addE (e := SlA p48 rv44.1.Lost.length k49 rv44.1.Lost) h50
    refine h_nx (hw.cs [1, 2] [] rfl rfl) fun hC => ?_
    refine gm hs 10 rfl rfl rfl hC fun a hs => ?_
    refine gv hs 11 rfl rfl hC (fun w hC => y_extract rfl rfl) fun a hs => ?_
    refine gv hs 12 rfl rfl hC (fun w hC => y_extract rfl rfl) fun a hs => ?_
    refine ho 14 rfl ?_
    refine w_store (m := 2) (cs' := [.slice p45 rv44.1.Got.length k46, .slice p48 rv44.1.Lost.length k49]) hs hw 0 rfl rfl rfl Try.sizeOf29 rfl rfl rfl rfl trivial ?_
    intro a w hs hw
    refine h_nx (hw.cs [1, 2] [] rfl rfl) fun hC => ?_
    refine gv hs 15 rfl rfl hC (fun w hC => y_assign rfl) fun a hs => ?_
    refine h_done (by kernel_rfl) ?_
    have hw := hw.addE (e := SlA (α := Span) none 0 0 []) nil_sl
    exact ⟨Sv85, b51, k46, k49, p45, p48, (hs.wk rfl), (hw.ft [2, 1, 0] [10, 9, 0, 2, 1] (by decide) rfl rfl)⟩
   exact AllH.nil
  refine AllH.cons rfl ?_ ?_
  ·refine w_alloc (cs := [.slice none ([] : List Span).length 0, .slice none ([] : List Span).length 0]) hs hw Try.zeroValue29 rfl rfl trivial ?_
   intro b51 a w hs hw
   refine h_nx (hw.cs [2, 3] [] rfl rfl) fun hC => ?_
   refine ho 3 rfl ?_
   obtain ⟨Sv90, hw⟩ := w_share (α := Span) hw 1 rfl 0 rfl
   refine st_callR hs (ref08_Union_ok h31 hw.dom (hw.envAt 3 rfl) (hw.envAt 0 rfl)) (do_call Try.call45 rfl) trivial rfl rfl ?_
   intro v94 Sv91 w a h92 h93 hs
   obtain ⟨p33, k34, c36, rfl, h95, h35⟩ := h93
   have hw := hw.callN h92 h95
   have hw := hw.addE (e := RowA c36 rv32) h35
   refine h_nx (hw.cs [2, 3] [] rfl rfl) fun hC => ?_
   refine ho 7 rfl ?_
   refine st_callR hs (ref08_Minus_ok h37 hw.dom (hw.envAt 3 rfl) (hw.envAt 1 rfl)) (do_call Try.call32 rfl) trivial rfl rfl ?_
   intro v99 Sv96 w a h97 h98 hs
   obtain ⟨p39, k40, c42, rfl, h100, h41⟩ := h98
   have hw := hw.callN h97 h100
   have hw := hw.addE (e := RowA c42 rv38) h41
   refine h_nx (hw.cs [3, 4] [] rfl rfl) fun hC => ?_
   refine gv hs 8 rfl rfl hC (fun w hC => y_build (vs := [(0, .slice p33 rv32.length k34), (1, .slice p39 rv38.length k40)]) Bld29 rfl rfl) fun a hs => ?_
   refine ho 9 rfl ?_
   obtain ⟨Sv101, hw⟩ := w_share (α := Span) hw 1 rfl 1 rfl
   obtain ⟨Sv102, hw⟩ := w_share (α := Span) hw 0 rfl 1 rfl
   refine st_callR hs (ref11_limited_ok h43 hw.dom (hw.envAt 1 rfl) (hw.envAt 0 rfl)) (do_call Try.call44 rfl) trivial rfl rfl ?_
   intro v106 Sv103 w a h104 h105 hs
   obtain ⟨p45, k46, p48, k49, rfl, h47, h50⟩ := h105
   have hw := hw.call h104
   have hw := hw.addE (e := SlA p45 rv44.1.Got.length k46 rv44.1.Got) h47
   have hw := hw.addE (e := SlA p48 rv44.1.Lost.length k49 rv44.1.Lost) h50
   refine h_nx (hw.cs [1, 2] [] rfl rfl) fun hC => ?_
   refine gm hs 10 rfl rfl rfl hC fun a hs => ?_
   refine gv hs 11 rfl rfl hC (fun w hC => y_extract rfl rfl) fun a hs => ?_
   refine gv hs 12 rfl rfl hC (fun w hC => y_extract rfl rfl) fun a hs => ?_
   refine ho 14 rfl ?_
   refine w_store (m := 2) (cs' := [.slice p45 rv44.1.Got.length k46, .slice p48 rv44.1.Lost.length k49]) hs hw 0 rfl rfl rfl Try.sizeOf29 rfl rfl rfl rfl trivial ?_
   intro a w hs hw
   refine h_nx (hw.cs [1, 2] [] rfl rfl) fun hC => ?_
   refine gv hs 15 rfl rfl hC (fun w hC => y_assign rfl) fun a hs => ?_
   refine h_done (by kernel_rfl) ?_
   have hw := hw.addE (e := SlA (α := Span) none 0 0 []) nil_sl
   exact ⟨Sv103, b51, k46, k49, p45, p48, (hs.wk rfl), (hw.ft [2, 1, 0] [10, 9, 0, 2, 1] (by decide) rfl rfl)⟩
  exact AllH.nil
 rintro a w ⟨Sv52, b51, k46, k49, p45, p48, hs, hw⟩
 refine then_normal ?_
 refine wp_seq ?_
 refine sr ?_
 refine mv hs rfl rfl fun a hs => ?_
 refine sv hs (y_neq rfl rfl) rfl fun a hs => ?_
 refine nl ?_
 refine wp_cond_split (hs.ev rfl) (fun h109 => ?_) (fun h109 => ?_)
 ·have hsh := ite_t hsh h109
  refine sr ?_
  refine sv hs (y_build (vs := []) Bld29 rfl rfl) rfl fun a hs => ?_
  refine mv hs rfl rfl fun a hs => ?_
  refine w_store (m := 2) (cs' := [.slice none ([] : List Span).length 0, .slice none ([] : List Span).length 0]) hs hw 1 rfl rfl rfl Try.sizeOf29 rfl rfl rfl rfl trivial ?_
  intro a w hs hw
  refine av hs rfl rfl fun a hs => ?_
  refine av hs rfl rfl fun a hs => ?_
  refine nl ?_
  have hsh := oi hsh
  subst hsh
  refine wp_ret ?_
  refine then_ret ?_
  exact ret3 hs rfl (rv_cell hw 1 rfl rfl Try.isAgg29 Try.sizeOf29 rfl) (rv_tmp rfl) (rv_tmp rfl) (hw.ret ⟨none, 0, none, 0, rfl, (hw.envAt 2 rfl), (hw.envAt 2 rfl)⟩)
 have hsh := ite_f hsh h109
 refine wp_skip ?_
 refine then_normal ?_
 refine wp_seq ?_
 obtain ⟨rv111, h110, hsh⟩ := bind_t hsh
 refine wp_only (fun a w => ∃ (Sv112 : Nat → Prop), Sl 46 [(4, .pointer (some ⟨b10, 0, none⟩)), (5, .bool (!rv111)), (6, .int .i64 0)] a ∧ Wd ⟨w0, S0, []⟩ Sv112 [.box b10 [.slice p45 rv44.1.Got.length k46, .slice p48 rv44.1.Lost.length k49] 29] [SlA p45 rv44.1.Got.length k46 rv44.1.Got, SlA p48 rv44.1.Lost.length k49 rv44.1.Lost] w) ?_ ?_
 ·refine h_b (C := Cls [.box b9 [.slice p2 r1.Got.length k3, .slice p4 r1.Lost.length k5] 29, .box b51 [.slice p45 rv44.1.Got.length k46, .slice p48 rv44.1.Lost.length k49] 29] []) (by kernel_rfl) rfl (hw.drew.cs [0, 2] [] rfl rfl) fun hC => ?_
  have hw := hw.drew
  refine gv hs 0 rfl rfl hC (fun w hC => y_loadBA (hC.ownAt 1 rfl) rfl Try.isAgg29 Try.sizeOf29 rfl rfl) fun a hs => ?_
  refine gv hs 1 rfl rfl hC (fun w hC => y_fieldAddr (o' := 0) Try.runUnderlying29 rfl Try.sizeOf27 rfl rfl rfl) fun a hs => ?_
  refine gv hs 2 rfl rfl hC (fun w hC => y_loadB1 (hC.ownAt 0 rfl) rfl Try.isAgg27 rfl) fun a hs => ?_
  refine gm hs 3 rfl rfl rfl hC fun a hs => ?_
  refine ho 4 rfl ?_
  refine st_callR hs (ref08_Has_ok h110 hw.bdom (hw.bE 0 rfl)) (do_call Try.call14 rfl) trivial rfl rfl ?_
  intro v116 Sv113 w a h114 h115 hs
  subst h115
  have hw := hw.callB h114
  refine h_nx (hw.cs [0, 2] [] rfl rfl) fun hC => ?_
  refine gv hs 5 rfl rfl hC (fun w hC => y_not rfl) fun a hs => ?_
  refine ho 6 rfl ?_
  refine w_store (m := 2) (cs' := [.slice p45 rv44.1.Got.length k46, .slice p48 rv44.1.Lost.length k49]) hs hw 1 rfl rfl rfl Try.sizeOf29 rfl rfl rfl rfl trivial ?_
  intro a w hs hw
  refine h_nx (hw.cs [0, 2] [] rfl rfl) fun hC => ?_
  refine gv hs 7 rfl rfl hC (fun w hC => y_assign rfl) fun a hs => ?_
  refine gv hs 8 rfl rfl hC (fun w hC => y_assign rfl) fun a hs => ?_
  refine h_done (by kernel_rfl) ?_
  exact ⟨Sv52, (hs.wk rfl), (hw.ft [1] [3, 4] (by decide) rfl rfl)⟩
 rintro a w ⟨Sv112, hs, hw⟩
 refine then_normal ?_
 have hsh := oi hsh
 subst hsh
 refine wp_ret ?_
 exact ret3 hs rfl (rv_cell hw 0 rfl rfl Try.isAgg29 Try.sizeOf29 rfl) (rv_tmp rfl) (rv_tmp rfl) (hw.ret ⟨p45, k46, p48, k49, rfl, (hw.envAt 0 rfl), (hw.envAt 1 rfl)⟩)

end Go.Proofs.Ytiihddcppmjbaaa.Wk

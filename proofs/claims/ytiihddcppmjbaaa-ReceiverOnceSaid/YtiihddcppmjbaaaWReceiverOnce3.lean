/- The walks of ReceiverOnce, part 3: each Go function computes what its plain program computes. Printed by a program of ours. -/
import Derived.Test.YtiihddcppmjbaaaProg
import Derived.Test.YtiihddcppmjbaaaDat
import Derived.Test.YtiihddcppmjbaaaSh
import Derived.Test.YtiihddcppmjbaaaLibL
import Derived.Test.YtiihddcppmjbaaaLibZ
import Derived.KernelRfl
import Derived.Test.YtiihddcppmjbaaaWReceiverOnce2
namespace Go.Proofs.Ytiihddcppmjbaaa.Wk
open Go Go.RowKit Go.Proofs Go.Proofs.Ytiihddcppmjbaaa.Sh
set_option linter.unusedVariables false
set_option linter.unusedSimpArgs false

abbrev receiver_Accept_rd (w0 : World) (X : List Nat) (r : (Receiver × Bool × Int)) : (Nat → Prop) → World → Value → Prop := fun S w v => ∃ (p0_0 : Option Addr) (k0_0 : Nat) (p0_1 : Option Addr) (k0_1 : Nat), v = .tuple #[.agg #[.slice p0_0 r.1.Got.length k0_0, .slice p0_1 r.1.Lost.length k0_1], .bool r.2.1, .int .i64 r.2.2] ∧ (SlA p0_0 r.1.Got.length k0_0 r.1.Got).p S w ∧ (SlA p0_1 r.1.Lost.length k0_1 r.1.Lost).p S w
set_option maxHeartbeats 4000000 in
set_option maxRecDepth 100000 in
theorem receiver_Accept_ok {w0 : World} {S0 : Nat → Prop} {p2 : Option Addr} {k3 : Nat} {p4 : Option Addr} {k5 : Nat} {r1 : Receiver} {seq8 : Int} {r : (Receiver × Bool × Int)} (hsh : receiver_Accept r1 seq8 = some r) (hS : ∀ b, S0 b → b < w0.heap.size) (h6 : (SlA p2 r1.Got.length k3 r1.Got).p S0 w0) (h7 : (SlA p4 r1.Lost.length k5 r1.Lost).p S0 w0) : Calls Try.prog 13 #[.agg #[.slice p2 r1.Got.length k3, .slice p4 r1.Lost.length k5], .int .i64 seq8] w0 (Ret ([]) w0 S0 (receiver_Accept_rd w0 ([]) r)) := by
 refine calls_of_wp Try.func13 rfl ?_
 have hs := Sl.enter #[.agg #[.slice p2 r1.Got.length k3, .slice p4 r1.Lost.length k5], .int .i64 seq8] 47 [(0, .agg #[.slice p2 r1.Got.length k3, .slice p4 r1.Lost.length k5]), (1, .int .i64 seq8)] rfl ⟨rfl, rfl, trivial⟩
 have hw := Wd.enter (E := []) hS (fun _ h => (by cases h))
 have hw := hw.addE h6
 have hw := hw.addE h7
 delta receiver_Accept at hsh
 refine sr ?_
 refine w_box (cs := [.slice p2 r1.Got.length k3, .slice p4 r1.Lost.length k5]) hs hw rfl rfl rfl trivial ?_
 intro b9 a w hs hw
 refine w_alloc (cs := [.slice none ([] : List Span).length 0, .slice none ([] : List Span).length 0]) hs hw Try.zeroValue29 rfl rfl trivial ?_
 intro b10 a w hs hw
 refine av hs rfl rfl fun a hs => ?_
 refine av hs rfl rfl fun a hs => ?_
 refine nl ?_
 refine wp_seq ?_
 refine sr ?_
 refine sv hs (y_loadBA (hw.ownAt 1 rfl) rfl Try.isAgg29 Try.sizeOf29 rfl rfl) rfl fun a hs => ?_
 obtain ⟨rv12, h11, hsh⟩ := bind_t hsh
 refine st_callR hs (receiver_Valid_ok h11 hw.bdom (hw.bE 1 rfl) (hw.bE 0 rfl)) (do_call Try.call15 rfl) trivial rfl rfl ?_
 intro v16 Sv13 w a h14 h15 hs
 subst h15
 have hw := hw.callB h14
 refine sv hs (y_not rfl) rfl fun a hs => ?_
 refine nl ?_
 refine wp_cond_split (hs.ev rfl) (fun h19 => ?_) (fun h19 => ?_)
 ·have hsh := ite_t hsh h19
  refine sr ?_
  refine sv hs (y_build (vs := []) Bld29 rfl rfl) rfl fun a hs => ?_
  refine w_store (m := 2) (cs' := [.slice none ([] : List Span).length 0, .slice none ([] : List Span).length 0]) hs hw 0 rfl rfl rfl Try.sizeOf29 rfl rfl rfl rfl trivial ?_
  intro a w hs hw
  refine av hs rfl rfl fun a hs => ?_
  refine av hs rfl rfl fun a hs => ?_
  refine nl ?_
  have hsh := oi hsh
  subst hsh
  have hw := hw.addE (e := SlA (α := Span) none 0 0 []) nil_sl
  refine wp_ret ?_
  refine then_ret ?_
  exact ret3 hs rfl (rv_cell hw 0 rfl rfl Try.isAgg29 Try.sizeOf29 rfl) (rv_tmp rfl) (rv_tmp rfl) (hw.ret ⟨none, 0, none, 0, rfl, (hw.envAt 0 rfl), (hw.envAt 0 rfl)⟩)
 have hsh := ite_f hsh h19
 refine wp_skip ?_
 refine then_normal ?_
 refine wp_seq ?_
 refine sr ?_
 refine mv hs rfl rfl fun a hs => ?_
 obtain ⟨rv21, h20, hsh⟩ := bind_t hsh
 refine st_callR hs (receiver_in_ok h20 hw.bdom) (do_call Try.call34 rfl) trivial rfl rfl ?_
 intro v25 Sv22 w a h23 h24 hs
 subst h24
 have hw := hw.callB h23
 refine sv hs (y_not rfl) rfl fun a hs => ?_
 refine nl ?_
 refine wp_cond_split (hs.ev rfl) (fun h28 => ?_) (fun h28 => ?_)
 ·have hsh := ite_t hsh h28
  refine sr ?_
  refine sv hs (y_build (vs := []) Bld29 rfl rfl) rfl fun a hs => ?_
  refine w_store (m := 2) (cs' := [.slice none ([] : List Span).length 0, .slice none ([] : List Span).length 0]) hs hw 0 rfl rfl rfl Try.sizeOf29 rfl rfl rfl rfl trivial ?_
  intro a w hs hw
  refine av hs rfl rfl fun a hs => ?_
  refine av hs rfl rfl fun a hs => ?_
  refine nl ?_
  have hsh := oi hsh
  subst hsh
  have hw := hw.addE (e := SlA (α := Span) none 0 0 []) nil_sl
  refine wp_ret ?_
  refine then_ret ?_
  exact ret3 hs rfl (rv_cell hw 0 rfl rfl Try.isAgg29 Try.sizeOf29 rfl) (rv_tmp rfl) (rv_tmp rfl) (hw.ret ⟨none, 0, none, 0, rfl, (hw.envAt 0 rfl), (hw.envAt 0 rfl)⟩)
 have hsh := ite_f hsh h28
 refine wp_skip ?_
 refine then_normal ?_
 refine sr ?_
 refine mv hs rfl rfl fun a hs => ?_
 refine mv hs rfl rfl fun a hs => ?_
 refine sv hs (y_add rfl rfl) rfl fun a hs => ?_
 refine sv hs (y_build (vs := [(0, .int .i64 seq8), (1, .int .i64 (w64 (seq8 + 1)))]) Bld46 rfl rfl) rfl fun a hs => ?_
 refine w_litSlice (α := Span) (vs := [.agg #[.int .i64 seq8, .int .i64 (w64 (seq8 + 1))]]) (cs := [.int .i64 seq8, .int .i64 (w64 (seq8 + 1))]) (xs := ([(⟨seq8, (w64 (seq8 + 1))⟩ : Span)] : List Span)) hs hw El27 rfl rfl rfl rfl rfl rfl ⟨⟨_, _, rfl, rfl, rfl⟩, rfl⟩ rfl trivial rfl fun b30 a w hs hw => ?_
 refine av hs rfl rfl fun a hs => ?_
 refine nl ?_
 refine sr ?_
 refine sv hs (y_fieldAddr (o' := 0) Try.runUnderlying29 rfl Try.sizeOf27 rfl rfl rfl) rfl fun a hs => ?_
 refine sv hs (y_loadB1 (hw.ownAt 2 rfl) rfl Try.isAgg27 rfl) rfl fun a hs => ?_
 refine mv hs rfl rfl fun a hs => ?_
 obtain ⟨rv32, h31, hsh⟩ := bind_t hsh
 refine st_callR hs (span_Has_ok h31 hw.bdom (hw.bE 2 rfl)) (do_call Try.call39 rfl) trivial rfl rfl ?_
 intro v36 Sv33 w a h34 h35 hs
 subst h35
 have hw := hw.callB h34
 refine sv hs (y_not rfl) rfl fun a hs => ?_
 refine av hs rfl rfl fun a hs => ?_
 refine nl ?_
 refine wp_seq ?_
 obtain ⟨rv39, h38, hsh⟩ := bind_t hsh
 obtain ⟨rv45, h44, hsh⟩ := bind_t hsh
 obtain ⟨rv51, h50, hsh⟩ := bind_t hsh
 refine wp_only (fun a w => ∃ (Sv58 : Nat → Prop) (k53 : Nat) (k56 : Nat) (p52 : Option Addr) (p55 : Option Addr), Sl 47 [(2, .pointer (some ⟨b9, 0, none⟩)), (4, .pointer (some ⟨b10, 0, none⟩)), (8, .bool (!rv32)), (9, .int .i64 rv51.2)] a ∧ Wd ⟨w0, S0, []⟩ Sv58 [.box b9 [.slice p52 rv51.1.Got.length k53, .slice p55 rv51.1.Lost.length k56] 29, .box b10 [.slice none ([] : List Span).length 0, .slice none ([] : List Span).length 0] 29] [SlA p52 rv51.1.Got.length k53 rv51.1.Got, SlA p55 rv51.1.Lost.length k56 rv51.1.Lost, SlA none ([] : List Span).length 0 ([] : List Span)] w) ?_ ?_
 ·refine h_b (C := Cls [.box b10 [.slice none ([] : List Span).length 0, .slice none ([] : List Span).length 0] 29] []) (by kernel_rfl) rfl (hw.drew.cs [1] [] rfl rfl) fun hC => ?_
  have hw := hw.drew
  refine gv hs 0 rfl rfl hC (fun w hC => y_fieldAddr (o' := 0) Try.runUnderlying29 rfl Try.sizeOf27 rfl rfl rfl) fun a hs => ?_
  refine gm hs 2 rfl rfl rfl hC fun a hs => ?_
  refine gv hs 4 rfl rfl hC (fun w hC => y_fieldAddr (o' := 1) Try.runUnderlying29 rfl Try.sizeOf27 rfl rfl rfl) fun a hs => ?_
  refine gm hs 6 rfl rfl rfl hC fun a hs => ?_
  refine h_all (rs := [1, 5]) (by kernel_rfl) rfl ?_
  refine AllH.cons rfl ?_ ?_
  ·refine sv hs (y_loadB1 (hw.ownAt 2 rfl) rfl Try.isAgg27 rfl) rfl fun a hs => ?_
   refine h_nx (hw.cs [1] [] rfl rfl) fun hC => ?_
   refine h_all (rs := [3, 5]) (by kernel_rfl) rfl ?_
   refine AllH.cons rfl ?_ ?_
   ·obtain ⟨Sv59, hw⟩ := w_share (α := Span) hw 0 rfl 0 rfl
    refine st_callR hs (span_Union_ok h38 hw.dom (hw.envAt 3 rfl) (hw.envAt 0 rfl)) (do_call Try.call38 rfl) trivial rfl rfl ?_
    intro v63 Sv60 w a h61 h62 hs
    obtain ⟨p40, k41, c43, rfl, h64, h42⟩ := h62
    have hw := hw.callN h61 h64
    have hw := hw.addE (e := RowA c43 rv39) h42
    refine h_nx (hw.cs [1] [] rfl rfl) fun hC => ?_
    refine ho 5 rfl ?_
    refine sv hs (y_loadB1 (hw.ownAt 2 rfl) rfl Try.isAgg27 rfl) rfl fun a hs => ?_
    refine h_nx (hw.cs [1] [] rfl rfl) fun hC => ?_
    refine ho 7 rfl ?_
    refine st_callR hs (span_Minus_ok h44 hw.dom (hw.envAt 3 rfl) (hw.envAt 1 rfl)) (do_call Try.call35 rfl) trivial rfl rfl ?_
    intro v68 Sv65 w a h66 h67 hs
    obtain ⟨p46, k47, c49, rfl, h69, h48⟩ := h67
    have hw := hw.callN h66 h69
    have hw := hw.addE (e := RowA c49 rv45) h48
    refine h_nx (hw.cs [2] [] rfl rfl) fun hC => ?_
    refine ho 8 rfl ?_
    obtain ⟨Sv70, hw⟩ := w_share (α := Span) hw 1 rfl 1 rfl
    obtain ⟨Sv71, hw⟩ := w_share (α := Span) hw 0 rfl 1 rfl
    refine st_callR hs (receiver_limited_ok h50 hw.dom (hw.envAt 1 rfl) (hw.envAt 0 rfl)) (do_call Try.call36 rfl) trivial rfl rfl ?_
    intro v75 Sv72 w a h73 h74 hs
    obtain ⟨p52, k53, p55, k56, rfl, h54, h57⟩ := h74
    have hw := hw.call h73
    have hw := hw.addE (e := SlA p52 rv51.1.Got.length k53 rv51.1.Got) h54
    have hw := hw.addE (e := SlA p55 rv51.1.Lost.length k56 rv51.1.Lost) h57
    refine h_nx (hw.cs [0] [] rfl rfl) fun hC => ?_
    refine gm hs 9 rfl rfl rfl hC fun a hs => ?_
    refine gv hs 10 rfl rfl hC (fun w hC => y_extract rfl rfl) fun a hs => ?_
    refine gv hs 11 rfl rfl hC (fun w hC => y_extract rfl rfl) fun a hs => ?_
    refine ho 12 rfl ?_
    refine w_store (m := 2) (cs' := [.slice p52 rv51.1.Got.length k53, .slice p55 rv51.1.Lost.length k56]) hs hw 1 rfl rfl rfl Try.sizeOf29 rfl rfl rfl rfl trivial ?_
    intro a w hs hw
    refine h_nx (hw.cs [0] [] rfl rfl) fun hC => ?_
    refine gv hs 13 rfl rfl hC (fun w hC => y_assign rfl) fun a hs => ?_
    refine h_done (by kernel_rfl) ?_
    have hw := hw.addE (e := SlA (α := Span) none 0 0 []) nil_sl
    exact ⟨Sv72, k53, k56, p52, p55, (hs.wk rfl), (hw.ft [1, 0] [2, 1, 0] (by decide) rfl rfl)⟩
   refine AllH.cons rfl ?_ ?_
   ·refine sv hs (y_loadB1 (hw.ownAt 2 rfl) rfl Try.isAgg27 rfl) rfl fun a hs => ?_
    refine h_nx (hw.cs [1] [] rfl rfl) fun hC => ?_
    refine ho 3 rfl ?_
    obtain ⟨Sv77, hw⟩ := w_share (α := Span) hw 0 rfl 0 rfl
    refine st_callR hs (span_Union_ok h38 hw.dom (hw.envAt 3 rfl) (hw.envAt 0 rfl)) (do_call Try.call38 rfl) trivial rfl rfl ?_
    intro v81 Sv78 w a h79 h80 hs
    obtain ⟨p40, k41, c43, rfl, h82, h42⟩ := h80
    have hw := hw.callN h79 h82
    have hw := hw.addE (e := RowA c43 rv39) h42
    refine h_nx (hw.cs [1] [] rfl rfl) fun hC => ?_
    refine ho 7 rfl ?_
    refine st_callR hs (span_Minus_ok h44 hw.dom (hw.envAt 3 rfl) (hw.envAt 1 rfl)) (do_call Try.call35 rfl) trivial rfl rfl ?_
    intro v86 Sv83 w a h84 h85 hs
    obtain ⟨p46, k47, c49, rfl, h87, h48⟩ := h85
    have hw := hw.callN h84 h87
    have hw := hw.addE (e := RowA c49 rv45) h48
    refine h_nx (hw.cs [2] [] rfl rfl) fun hC => ?_
    refine ho 8 rfl ?_
    obtain ⟨Sv88, hw⟩ := w_share (α := Span) hw 1 rfl 1 rfl
    obtain ⟨Sv89, hw⟩ := w_share (α := Span) hw 0 rfl 1 rfl
    refine st_callR hs (receiver_limited_ok h50 hw.dom (hw.envAt 1 rfl) (hw.envAt 0 rfl)) (do_call Try.call36 rfl) trivial rfl rfl ?_
    intro v93 Sv90 w a h91 h92 hs
    obtain ⟨p52, k53, p55, k56, rfl, h54, h57⟩ := h92
    have hw := hw.call h91
    have hw := hw.addE (e := SlA p52 rv51.1.Got.length k53 rv51.1.Got) h54
    have hw := hw.addE (e := SlA p55 rv51.1.Lost.length k56 rv51.1.Lost) h57
    refine h_nx (hw.cs [0] [] rfl rfl) fun hC => ?_
    refine gm hs 9 rfl rfl rfl hC fun a hs => ?_
    refine gv hs 10 rfl rfl hC (fun w hC => y_extract rfl rfl) fun a hs => ?_
    refine gv hs 11 rfl rfl hC (fun w hC => y_extract rfl rfl) fun a hs => ?_
    refine ho 12 rfl ?_
    refine w_store (m := 2) (cs' := [.slice p52 rv51.1.Got.length k53, .slice p55 rv51.1.Lost.length k56]) hs hw 1 rfl rfl rfl Try.sizeOf29 rfl rfl rfl rfl trivial ?_
    intro a w hs hw
    refine h_nx (hw.cs [0] [] rfl rfl) fun hC => ?_
    refine gv hs 13 rfl rfl hC (fun w hC => y_assign rfl) fun a hs => ?_
    refine h_done (by kernel_rfl) ?_
    have hw := hw.addE (e := SlA (α := Span) none 0 0 []) nil_sl
    exact ⟨Sv90, k53, k56, p52, p55, (hs.wk rfl), (hw.ft [1, 0] [2, 1, 0] (by decide) rfl rfl)⟩
   exact AllH.nil
  refine AllH.cons rfl ?_ ?_
  ·refine sv hs (y_loadB1 (hw.ownAt 2 rfl) rfl Try.isAgg27 rfl) rfl fun a hs => ?_
   refine h_nx (hw.cs [1] [] rfl rfl) fun hC => ?_
   refine ho 1 rfl ?_
   refine sv hs (y_loadB1 (hw.ownAt 2 rfl) rfl Try.isAgg27 rfl) rfl fun a hs => ?_
   refine h_nx (hw.cs [1] [] rfl rfl) fun hC => ?_
   refine ho 3 rfl ?_
   obtain ⟨Sv95, hw⟩ := w_share (α := Span) hw 0 rfl 0 rfl
   refine st_callR hs (span_Union_ok h38 hw.dom (hw.envAt 3 rfl) (hw.envAt 0 rfl)) (do_call Try.call38 rfl) trivial rfl rfl ?_
   intro v99 Sv96 w a h97 h98 hs
   obtain ⟨p40, k41, c43, rfl, h100, h42⟩ := h98
   have hw := hw.callN h97 h100
   have hw := hw.addE (e := RowA c43 rv39) h42
   refine h_nx (hw.cs [1] [] rfl rfl) fun hC => ?_
   refine ho 7 rfl ?_
   refine st_callR hs (span_Minus_ok h44 hw.dom (hw.envAt 3 rfl) (hw.envAt 1 rfl)) (do_call Try.call35 rfl) trivial rfl rfl ?_
   intro v104 Sv101 w a h102 h103 hs
   obtain ⟨p46, k47, c49, rfl, h105, h48⟩ := h103
   have hw := hw.callN h102 h105
   have hw := hw.addE (e := RowA c49 rv45) h48
   refine h_nx (hw.cs [2] [] rfl rfl) fun hC => ?_
   refine ho 8 rfl ?_
   obtain ⟨Sv106, hw⟩ := w_share (α := Span) hw 1 rfl 1 rfl
   obtain ⟨Sv107, hw⟩ := w_share (α := Span) hw 0 rfl 1 rfl
   refine st_callR hs (receiver_limited_ok h50 hw.dom (hw.envAt 1 rfl) (hw.envAt 0 rfl)) (do_call Try.call36 rfl) trivial rfl rfl ?_
   intro v111 Sv108 w a h109 h110 hs
   obtain ⟨p52, k53, p55, k56, rfl, h54, h57⟩ := h110
   have hw := hw.call h109
   have hw := hw.addE (e := SlA p52 rv51.1.Got.length k53 rv51.1.Got) h54
   have hw := hw.addE (e := SlA p55 rv51.1.Lost.length k56 rv51.1.Lost) h57
   refine h_nx (hw.cs [0] [] rfl rfl) fun hC => ?_
   refine gm hs 9 rfl rfl rfl hC fun a hs => ?_
   refine gv hs 10 rfl rfl hC (fun w hC => y_extract rfl rfl) fun a hs => ?_
   refine gv hs 11 rfl rfl hC (fun w hC => y_extract rfl rfl) fun a hs => ?_
   refine ho 12 rfl ?_
   refine w_store (m := 2) (cs' := [.slice p52 rv51.1.Got.length k53, .slice p55 rv51.1.Lost.length k56]) hs hw 1 rfl rfl rfl Try.sizeOf29 rfl rfl rfl rfl trivial ?_
   intro a w hs hw
   refine h_nx (hw.cs [0] [] rfl rfl) fun hC => ?_
   refine gv hs 13 rfl rfl hC (fun w hC => y_assign rfl) fun a hs => ?_
   refine h_done (by kernel_rfl) ?_
   have hw := hw.addE (e := SlA (α := Span) none 0 0 []) nil_sl
   exact ⟨Sv108, k53, k56, p52, p55, (hs.wk rfl), (hw.ft [1, 0] [2, 1, 0] (by decide) rfl rfl)⟩
  exact AllH.nil
 rintro a w ⟨Sv58, k53, k56, p52, p55, hs, hw⟩
 refine then_normal ?_
 refine sr ?_
 refine sv hs (y_loadBA (hw.ownAt 0 rfl) rfl Try.isAgg29 Try.sizeOf29 rfl rfl) rfl fun a hs => ?_
 refine mv hs rfl rfl fun a hs => ?_
 refine mv hs rfl rfl fun a hs => ?_
 refine wpl_join 3 (fun a w1 => w = w1 ∧ Sl 47 [(4, .pointer (some ⟨b10, 0, none⟩)), (9, .int .i64 rv51.2), (40, .agg #[.slice p52 rv51.1.Got.length k53, .slice p55 rv51.1.Lost.length k56]), (45, .bool ((!rv32) && (rv51.2 == 0)))] a) ?_ ?_
 ·rcases Bool.eq_false_or_eq_true (!rv32) with h113 | h113
  ·have hs := hs.fix 42 (.bool true) rfl (vb h113)
   refine st_val hs (y_move rfl) ⟨_, rfl, rfl⟩ rfl rfl fun a hs => ?_
   refine st_val hs (y_eql rfl rfl) ⟨_, rfl, rfl⟩ rfl rfl fun a hs => ?_
   refine sv hs (y_pickT rfl rfl) rfl fun a hs => ?_
   refine nl ?_
   exact ⟨rfl, (hs.fix 45 (.bool ((!rv32) && (rv51.2 == 0))) rfl (and_t h113)).weaken _ ⟨rfl, rfl, rfl, rfl, trivial⟩⟩
  have hs := hs.fix 42 (.bool false) rfl (vb h113)
  refine st_skip hs rfl rfl rfl rfl rfl fun a hs => ?_
  refine st_skip hs rfl rfl rfl rfl rfl fun a hs => ?_
  refine sv hs (y_pickF rfl rfl) rfl fun a hs => ?_
  refine nl ?_
  exact ⟨rfl, (hs.fix 45 (.bool ((!rv32) && (rv51.2 == 0))) rfl (and_f h113)).weaken _ ⟨rfl, rfl, rfl, rfl, trivial⟩⟩
 rintro a w1 ⟨h114, hs⟩
 subst h114
 refine mv hs rfl rfl fun a hs => ?_
 refine w_store (m := 2) (cs' := [.slice p52 rv51.1.Got.length k53, .slice p55 rv51.1.Lost.length k56]) hs hw 1 rfl rfl rfl Try.sizeOf29 rfl rfl rfl rfl trivial ?_
 intro a w hs hw
 refine av hs rfl rfl fun a hs => ?_
 refine av hs rfl rfl fun a hs => ?_
 refine nl ?_
 have hsh := oi hsh
 subst hsh
 refine wp_ret ?_
 exact ret3 hs rfl (rv_cell hw 1 rfl rfl Try.isAgg29 Try.sizeOf29 rfl) (rv_tmp rfl) (rv_tmp rfl) (hw.ret ⟨p52, k53, p55, k56, rfl, (hw.envAt 0 rfl), (hw.envAt 1 rfl)⟩)

abbrev receiver_High_rd (w0 : World) (X : List Nat) (r : Int) : (Nat → Prop) → World → Value → Prop := fun S w v => v = .int .i64 r
set_option maxHeartbeats 4000000 in
set_option maxRecDepth 100000 in
theorem receiver_High_ok {w0 : World} {S0 : Nat → Prop} {p2 : Option Addr} {k3 : Nat} {p4 : Option Addr} {k5 : Nat} {r1 : Receiver} {r : Int} (hsh : receiver_High r1 = some r) (hS : ∀ b, S0 b → b < w0.heap.size) (h6 : (SlA p2 r1.Got.length k3 r1.Got).p S0 w0) (h7 : (SlA p4 r1.Lost.length k5 r1.Lost).p S0 w0) : Calls Try.prog 18 #[.agg #[.slice p2 r1.Got.length k3, .slice p4 r1.Lost.length k5]] w0 (Ret ([]) w0 S0 (receiver_High_rd w0 ([]) r)) := by
 refine calls_of_wp Try.func18 rfl ?_
 have hs := Sl.enter #[.agg #[.slice p2 r1.Got.length k3, .slice p4 r1.Lost.length k5]] 33 [(0, .agg #[.slice p2 r1.Got.length k3, .slice p4 r1.Lost.length k5])] rfl ⟨rfl, trivial⟩
 have hw := Wd.enter (E := []) hS (fun _ h => (by cases h))
 have hw := hw.addE h6
 have hw := hw.addE h7
 delta receiver_High at hsh
 refine sr ?_
 refine w_box (cs := [.slice p2 r1.Got.length k3, .slice p4 r1.Lost.length k5]) hs hw rfl rfl rfl trivial ?_
 intro b8 a w hs hw
 refine av hs rfl rfl fun a hs => ?_
 refine nl ?_
 refine wp_seq ?_
 refine sr ?_
 refine sv hs (y_loadBA (hw.ownAt 0 rfl) rfl Try.isAgg29 Try.sizeOf29 rfl rfl) rfl fun a hs => ?_
 obtain ⟨rv10, h9, hsh⟩ := bind_t hsh
 refine st_callR hs (receiver_Valid_ok h9 hw.bdom (hw.bE 1 rfl) (hw.bE 0 rfl)) (do_call Try.call15 rfl) trivial rfl rfl ?_
 intro v14 Sv11 w a h12 h13 hs
 subst h13
 have hw := hw.callB h12
 refine sv hs (y_not rfl) rfl fun a hs => ?_
 refine nl ?_
 refine wp_cond_split (hs.ev rfl) (fun h17 => ?_) (fun h17 => ?_)
 ·have hsh := ite_t hsh h17
  refine sr ?_
  refine av hs rfl rfl fun a hs => ?_
  refine nl ?_
  have hsh := oi hsh
  subst hsh
  refine wp_ret ?_
  refine then_ret ?_
  exact ret1 hs rfl (rv_tmp rfl) (hw.ret rfl)
 have hsh := ite_f hsh h17
 refine wp_skip ?_
 refine then_normal ?_
 refine sr ?_
 refine av hs rfl rfl fun a hs => ?_
 refine nl ?_
 refine wp_seq ?_
 refine sr ?_
 refine sv hs (y_fieldAddr (o' := 0) Try.runUnderlying29 rfl Try.sizeOf27 rfl rfl rfl) rfl fun a hs => ?_
 refine sv hs (y_loadB1 (hw.ownAt 0 rfl) rfl Try.isAgg27 rfl) rfl fun a hs => ?_
 refine sv hs (y_fieldAddr (o' := 1) Try.runUnderlying29 rfl Try.sizeOf27 rfl rfl rfl) rfl fun a hs => ?_
 refine sv hs (y_loadB1 (hw.ownAt 0 rfl) rfl Try.isAgg27 rfl) rfl fun a hs => ?_
 refine w_litSlice (α := (List Span)) (vs := [.slice p2 r1.Got.length k3, .slice p4 r1.Lost.length k5]) (cs := [.slice p2 r1.Got.length k3, .slice p4 r1.Lost.length k5]) (xs := ([r1.Got, r1.Lost] : List (List Span))) hs hw El43 rfl rfl rfl rfl rfl rfl ⟨⟨_, rfl, ⟨_, _, _, rfl, hw.envAt 1 rfl⟩⟩, ⟨⟨_, rfl, ⟨_, _, _, rfl, hw.envAt 0 rfl⟩⟩, rfl⟩⟩ rfl trivial rfl fun b19 a w hs hw => ?_
 refine sv hs (y_len Try.runUnderlying43 rfl) rfl fun a hs => ?_
 refine mv hs rfl rfl fun a hs => ?_
 refine nl ?_
 obtain ⟨e122, h205, hsh⟩ := bind_t hsh
 refine wp_join (fun a w => ∃ (Sv123 : Nat → Prop), Sl 33 [(3, .int .i64 e122)] a ∧ Wd ⟨w0, S0, []⟩ Sv123 [] [] w) ?_ ?_
 ·refine wp_block ?_
  refine wp_while (fun sv20 a w => ∃ (Sv86 : Nat → Prop), Sl 33 [(3, .int .i64 sv20.1), (13, .slice (some ⟨b19, 0, none⟩) ([r1.Got, r1.Lost] : List (List Span)).length ([r1.Got, r1.Lost] : List (List Span)).length), (14, .int .i64 (([r1.Got, r1.Lost] : List (List Span)).length : Int)), (15, .int .i64 sv20.2)] a ∧ Wd ⟨w0, S0, []⟩ Sv86 [.row (some ⟨b19, 0, none⟩) ([r1.Got, r1.Lost] : List (List Span)).length ([r1.Got, r1.Lost] : List (List Span)).length [.slice p2 r1.Got.length k3, .slice p4 r1.Lost.length k5] 27 1] [RowA [.slice p2 r1.Got.length k3, .slice p4 r1.Lost.length k5] ([r1.Got, r1.Lost] : List (List Span))] w) (0, 0) h205 ⟨S0, (hs.wk rfl), (hw.ft [0] [0] (by decide) rfl rfl)⟩ ?_
  clear h205
  repeat clear hsh
  rintro sv20 a w tv120 ⟨Sv86, hs, hw⟩ hsh hd119
  delta receiver_High_l1 at hsh
  refine sr ?_
  refine sv hs (y_lss rfl rfl) rfl fun a hs => ?_
  refine nl ?_
  refine wp_seq ?_
  refine wp_cond_split (hs.ev rfl) (fun h125 => ?_) (fun h125 => ?_)
  ·have hsh := ite_t hsh h125
   refine wp_skip ?_
   refine then_normal ?_
   refine wp_seq ?_
   refine wp_block ?_
   refine sr ?_
   obtain ⟨x159, h157, hsh⟩ := bind_t hsh
   obtain ⟨q163, c164, h160, h161, h165, h158⟩ := hw.elemRK (α := (List Span)) 0 rfl 0 rfl h157
   obtain ⟨_, rfl, ⟨p166, n167, k168, rfl, h169⟩⟩ := h158
   obtain rfl := h169.1
   have hw := hw.addE (e := SlA p166 _ k168 x159) h169
   refine sv hs (y_indexAt Try.runUnderlying43 Try.sizeOf27 rfl rfl h160.1 h160.2 h161) rfl fun a hs => ?_
   refine sv hs (y_loadQ1 (j := 0) (hw.ownAt 0 rfl) rfl Try.isAgg27 h165 rfl) rfl fun a hs => ?_
   refine av hs rfl rfl fun a hs => ?_
   refine nl ?_
   refine sr ?_
   refine mv hs rfl rfl fun a hs => ?_
   refine sv hs (y_len Try.runUnderlying27 rfl) rfl fun a hs => ?_
   refine sv hs (y_gtr rfl rfl) rfl fun a hs => ?_
   refine nl ?_
   refine wp_join (fun a w => ∃ (high187 : Int) (Sv186 : Nat → Prop), receiver_High_j1 sv20 high187 = some tv120 ∧ Sl 33 [(3, .int .i64 high187), (13, .slice (some ⟨b19, 0, none⟩) ([r1.Got, r1.Lost] : List (List Span)).length ([r1.Got, r1.Lost] : List (List Span)).length), (14, .int .i64 (([r1.Got, r1.Lost] : List (List Span)).length : Int)), (15, .int .i64 sv20.2)] a ∧ Wd ⟨w0, S0, []⟩ Sv186 [.row (some ⟨b19, 0, none⟩) ([r1.Got, r1.Lost] : List (List Span)).length ([r1.Got, r1.Lost] : List (List Span)).length [.slice p2 r1.Got.length k3, .slice p4 r1.Lost.length k5] 27 1] [RowA [.slice p2 r1.Got.length k3, .slice p4 r1.Lost.length k5] ([r1.Got, r1.Lost] : List (List Span))] w) ?_ ?_
   ·refine wp_cond_split (hs.ev rfl) (fun h188 => ?_) (fun h188 => ?_)
    ·have hsh := ite_t hsh h188
     refine wp_region_lit ?_
     refine mv hs rfl rfl fun a hs => ?_
     refine mv hs rfl rfl fun a hs => ?_
     refine mv hs rfl rfl fun a hs => ?_
     refine sv hs (y_len Try.runUnderlying27 rfl) rfl fun a hs => ?_
     refine sv hs (y_sub rfl rfl) rfl fun a hs => ?_
     obtain ⟨x191, h189, hsh⟩ := bind_t hsh
     obtain ⟨b197, o198, q195, c196, h199, h192, h193, h194, h190⟩ := hw.elemV 0 rfl h189
     have hsv200 := hs
     have hwv201 := hw
     subst h199
     have hs := hsv200
     have hw := hwv201
     obtain ⟨_, _, rfl, rfl, rfl⟩ := h190
     have hw := hw.addE h194
     refine sv hs (y_indexAt Try.runUnderlying27 Try.sizeOf46 rfl rfl h192.1 h192.2 h193) rfl fun a hs => ?_
     refine sv hs (y_fieldAddr (o' := q195 + 1) Try.runUnderlying46 rfl Try.sizeOf3 rfl rfl rfl) rfl fun a hs => ?_
     refine sv hs (y_loadE1 (j := 1) (hw.ceAt 0 rfl) rfl Try.isAgg3 rfl) rfl fun a hs => ?_
     refine sv hs (y_max rfl rfl) rfl fun a hs => ?_
     obtain ⟨high203, h202, hsh⟩ := bind_t hsh
     refine sv hs (y_assignI rfl h202) rfl fun a hs => ?_
     refine nl ?_
     exact ⟨high203, Sv86, hsh, (hs.wk rfl), (hw.ft [0] [2] (by decide) rfl rfl)⟩
    have hsh := ite_f hsh h188
    refine wp_skip ?_
    refine then_normal ?_
    exact ⟨sv20.1, Sv86, hsh, (hs.wk rfl), (hw.ft [0] [1] (by decide) rfl rfl)⟩
   rintro a w ⟨high187, Sv186, hsh, hs, hw⟩
   delta receiver_High_j1 at hsh
   refine blk_normal ?_
   refine then_normal ?_
   refine wp_region_lit ?_
   refine sv hs (y_add rfl rfl) rfl fun a hs => ?_
   refine mv hs rfl rfl fun a hs => ?_
   refine nl ?_
   exact ⟨_, (Option.some.inj hsh).symm, Sv186, (hs.wk rfl), (hw.ft [0] [0] (by decide) rfl rfl)⟩
  have hsh := ite_f hsh h125
  refine wp_exit ?_
  refine then_exit ?_
  refine then_exit ?_
  refine blk_exit ?_
  have hsh := oi hsh
  subst hsh
  have h204 := hd119 _ rfl
  subst h204
  refine then_normal ?_
  exact ⟨Sv86, (hs.wk rfl), (hw.ft [] [] (by decide) rfl rfl)⟩
 rintro a w ⟨Sv123, hs, hw⟩
 refine then_normal ?_
 refine sr ?_
 refine mv hs rfl rfl fun a hs => ?_
 refine av hs rfl rfl fun a hs => ?_
 refine nl ?_
 have hsh := oi hsh
 subst hsh
 refine wp_ret ?_
 exact ret1 hs rfl (rv_tmp rfl) (hw.ret rfl)

abbrev receiver_known_rd (w0 : World) (X : List Nat) (r : (List Span)) : (Nat → Prop) → World → Value → Prop := fun S w v => ∃ (p0_0 : Option Addr) (k0_0 : Nat) (c0_0 : List Value), v = .slice p0_0 r.length k0_0 ∧ Outs X w0 S w [.row p0_0 r.length k0_0 c0_0 46 2] ∧ (RowA c0_0 r).p S w
set_option maxHeartbeats 4000000 in
set_option maxRecDepth 100000 in
theorem receiver_known_ok {w0 : World} {S0 : Nat → Prop} {p2 : Option Addr} {k3 : Nat} {p4 : Option Addr} {k5 : Nat} {r1 : Receiver} {r : (List Span)} (hsh : receiver_known r1 = some r) (hS : ∀ b, S0 b → b < w0.heap.size) (h6 : (SlA p2 r1.Got.length k3 r1.Got).p S0 w0) (h7 : (SlA p4 r1.Lost.length k5 r1.Lost).p S0 w0) : Calls Try.prog 42 #[.agg #[.slice p2 r1.Got.length k3, .slice p4 r1.Lost.length k5]] w0 (Ret ([]) w0 S0 (receiver_known_rd w0 ([]) r)) := by
 refine calls_of_wp Try.func42 rfl ?_
 have hs := Sl.enter #[.agg #[.slice p2 r1.Got.length k3, .slice p4 r1.Lost.length k5]] 8 [(0, .agg #[.slice p2 r1.Got.length k3, .slice p4 r1.Lost.length k5])] rfl ⟨rfl, trivial⟩
 have hw := Wd.enter (E := []) hS (fun _ h => (by cases h))
 have hw := hw.addE h6
 have hw := hw.addE h7
 delta receiver_known at hsh
 refine sr ?_
 refine w_box (cs := [.slice p2 r1.Got.length k3, .slice p4 r1.Lost.length k5]) hs hw rfl rfl rfl trivial ?_
 intro b8 a w hs hw
 refine av hs rfl rfl fun a hs => ?_
 refine nl ?_
 refine sr ?_
 refine sv hs (y_fieldAddr (o' := 0) Try.runUnderlying29 rfl Try.sizeOf27 rfl rfl rfl) rfl fun a hs => ?_
 refine sv hs (y_loadB1 (hw.ownAt 0 rfl) rfl Try.isAgg27 rfl) rfl fun a hs => ?_
 refine sv hs (y_fieldAddr (o' := 1) Try.runUnderlying29 rfl Try.sizeOf27 rfl rfl rfl) rfl fun a hs => ?_
 refine sv hs (y_loadB1 (hw.ownAt 0 rfl) rfl Try.isAgg27 rfl) rfl fun a hs => ?_
 obtain ⟨rv10, h9, hsh⟩ := bind_t hsh
 refine st_callR hs (span_Union_ok h9 hw.dom (hw.envAt 1 rfl) (hw.envAt 0 rfl)) (do_call Try.call38 rfl) trivial rfl rfl ?_
 intro v18 Sv15 w a h16 h17 hs
 obtain ⟨p11, k12, c14, rfl, h19, h13⟩ := h17
 have hw := hw.callN h16 h19
 have hw := hw.addE (e := RowA c14 rv10) h13
 refine av hs rfl rfl fun a hs => ?_
 refine nl ?_
 have hsh := oi hsh
 subst hsh
 refine wp_ret ?_
 exact ret1 hs rfl (rv_tmp rfl) (hw.ret ⟨p11, k12, c14, rfl, (hw.outs [0] (by decide) rfl), (hw.envAt 0 rfl)⟩)

abbrev receiver_Missing_rd (w0 : World) (X : List Nat) (r : ((List Span) × Int)) : (Nat → Prop) → World → Value → Prop := fun S w v => ∃ (p0_0 : Option Addr) (k0_0 : Nat) (c0_0 : List Value), v = .tuple #[.slice p0_0 r.1.length k0_0, .int .i64 r.2] ∧ Outs X w0 S w [.row p0_0 r.1.length k0_0 c0_0 46 2] ∧ (RowA c0_0 r.1).p S w
set_option maxHeartbeats 4000000 in
set_option maxRecDepth 100000 in
theorem receiver_Missing_ok {w0 : World} {S0 : Nat → Prop} {p2 : Option Addr} {k3 : Nat} {p4 : Option Addr} {k5 : Nat} {r1 : Receiver} {next8 : Int} {r : ((List Span) × Int)} (hsh : receiver_Missing r1 next8 = some r) (hS : ∀ b, S0 b → b < w0.heap.size) (h6 : (SlA p2 r1.Got.length k3 r1.Got).p S0 w0) (h7 : (SlA p4 r1.Lost.length k5 r1.Lost).p S0 w0) : Calls Try.prog 17 #[.agg #[.slice p2 r1.Got.length k3, .slice p4 r1.Lost.length k5], .int .i64 next8] w0 (Ret ([]) w0 S0 (receiver_Missing_rd w0 ([]) r)) := by
 refine calls_of_wp Try.func17 rfl ?_
 have hs := Sl.enter #[.agg #[.slice p2 r1.Got.length k3, .slice p4 r1.Lost.length k5], .int .i64 next8] 21 [(0, .agg #[.slice p2 r1.Got.length k3, .slice p4 r1.Lost.length k5]), (1, .int .i64 next8)] rfl ⟨rfl, rfl, trivial⟩
 have hw := Wd.enter (E := []) hS (fun _ h => (by cases h))
 have hw := hw.addE h6
 have hw := hw.addE h7
 delta receiver_Missing at hsh
 refine sr ?_
 refine w_box (cs := [.slice p2 r1.Got.length k3, .slice p4 r1.Lost.length k5]) hs hw rfl rfl rfl trivial ?_
 intro b9 a w hs hw
 refine av hs rfl rfl fun a hs => ?_
 refine av hs rfl rfl fun a hs => ?_
 refine nl ?_
 refine wp_seq ?_
 refine sr ?_
 refine sv hs (y_loadBA (hw.ownAt 0 rfl) rfl Try.isAgg29 Try.sizeOf29 rfl rfl) rfl fun a hs => ?_
 obtain ⟨rv11, h10, hsh⟩ := bind_t hsh
 refine st_callR hs (receiver_Valid_ok h10 hw.bdom (hw.bE 1 rfl) (hw.bE 0 rfl)) (do_call Try.call15 rfl) trivial rfl rfl ?_
 intro v15 Sv12 w a h13 h14 hs
 subst h14
 have hw := hw.callB h13
 refine sv hs (y_not rfl) rfl fun a hs => ?_
 refine nl ?_
 refine wp_cond_split (hs.ev rfl) (fun h18 => ?_) (fun h18 => ?_)
 ·have hsh := ite_t hsh h18
  refine sr ?_
  refine av hs rfl rfl fun a hs => ?_
  refine av hs rfl rfl fun a hs => ?_
  refine nl ?_
  have hsh := oi hsh
  subst hsh
  have hw := hw.nilRow Span 46
  refine wp_ret ?_
  refine then_ret ?_
  exact ret2 hs rfl (rv_tmp rfl) (rv_tmp rfl) (hw.ret ⟨none, 0, [], rfl, (hw.outs [0] (by decide) rfl), (hw.envAt 0 rfl)⟩)
 have hsh := ite_f hsh h18
 refine wp_skip ?_
 refine then_normal ?_
 refine wp_seq ?_
 refine sr ?_
 refine mv hs rfl rfl fun a hs => ?_
 obtain ⟨rv20, h19, hsh⟩ := bind_t hsh
 refine st_callR hs (receiver_in_ok h19 hw.bdom) (do_call Try.call34 rfl) trivial rfl rfl ?_
 intro v24 Sv21 w a h22 h23 hs
 subst h23
 have hw := hw.callB h22
 refine sv hs (y_not rfl) rfl fun a hs => ?_
 refine nl ?_
 refine wp_cond_split (hs.ev rfl) (fun h27 => ?_) (fun h27 => ?_)
 ·have hsh := ite_t hsh h27
  refine sr ?_
  refine av hs rfl rfl fun a hs => ?_
  refine av hs rfl rfl fun a hs => ?_
  refine nl ?_
  have hsh := oi hsh
  subst hsh
  have hw := hw.nilRow Span 46
  refine wp_ret ?_
  refine then_ret ?_
  exact ret2 hs rfl (rv_tmp rfl) (rv_tmp rfl) (hw.ret ⟨none, 0, [], rfl, (hw.outs [0] (by decide) rfl), (hw.envAt 0 rfl)⟩)
 have hsh := ite_f hsh h27
 refine wp_skip ?_
 refine then_normal ?_
 refine wp_seq ?_
 obtain ⟨rv29, h28, hsh⟩ := bind_t hsh
 obtain ⟨rv33, h32, hsh⟩ := bind_t hsh
 obtain ⟨rv39, h38, hsh⟩ := bind_t hsh
 refine wp_only (fun a w => ∃ (Sv44 : Nat → Prop) (c43 : List Value) (k41 : Nat) (p40 : Option Addr), Sl 21 [(4, .slice p40 rv39.length k41), (5, .int .i64 0)] a ∧ Wd ⟨w0, S0, []⟩ Sv44 [.row p40 rv39.length k41 c43 46 2] [RowA c43 rv39] w) ?_ ?_
 ·refine h_b (C := Cls [.box b9 [.slice p2 r1.Got.length k3, .slice p4 r1.Lost.length k5] 29] []) (by kernel_rfl) rfl (hw.drew.cs [0] [] rfl rfl) fun hC => ?_
  have hw := hw.drew
  refine gm hs 0 rfl rfl rfl hC fun a hs => ?_
  refine gv hs 1 rfl rfl hC (fun w hC => y_loadBA (hC.ownAt 0 rfl) rfl Try.isAgg29 Try.sizeOf29 rfl rfl) fun a hs => ?_
  refine gv hs 6 rfl rfl hC (fun w hC => y_loadBA (hC.ownAt 0 rfl) rfl Try.isAgg29 Try.sizeOf29 rfl rfl) fun a hs => ?_
  refine ho 2 rfl ?_
  refine st_callR hs (receiver_High_ok h28 hw.bdom (hw.bE 1 rfl) (hw.bE 0 rfl)) (do_call Try.call18 rfl) trivial rfl rfl ?_
  intro v48 Sv45 w a h46 h47 hs
  subst h47
  have hw := hw.callB h46
  refine h_nx (hw.cs [0] [] rfl rfl) fun hC => ?_
  refine gv hs 3 rfl rfl hC (fun w hC => y_max rfl rfl) fun a hs => ?_
  refine gv hs 4 rfl rfl hC (fun w hC => y_build (vs := [(1, .int .i64 (max next8 rv29))]) Bld46 rfl rfl) fun a hs => ?_
  refine h_all (rs := [5, 7]) (by kernel_rfl) rfl ?_
  refine AllH.cons rfl ?_ ?_
  ·refine w_litSlice (α := Span) (vs := [.agg #[.int .i64 0, .int .i64 (max next8 rv29)]]) (cs := [.int .i64 0, .int .i64 (max next8 rv29)]) (xs := ([(⟨0, (max next8 rv29)⟩ : Span)] : List Span)) hs hw El27 rfl rfl rfl rfl rfl rfl ⟨⟨_, _, rfl, rfl, rfl⟩, rfl⟩ rfl trivial rfl fun b31 a w hs hw => ?_
   refine h_nx (hw.cs [1] [] rfl rfl) fun hC => ?_
   refine ho 7 rfl ?_
   refine st_callR hs (receiver_known_ok h32 hw.dom (hw.envAt 2 rfl) (hw.envAt 1 rfl)) (do_call Try.call42 rfl) trivial rfl rfl ?_
   intro v53 Sv50 w a h51 h52 hs
   obtain ⟨p34, k35, c37, rfl, h54, h36⟩ := h52
   have hw := hw.callN h51 h54
   have hw := hw.addE (e := RowA c37 rv33) h36
   refine h_nx (hw.cs [2] [] rfl rfl) fun hC => ?_
   refine ho 8 rfl ?_
   obtain ⟨Sv55, hw⟩ := w_share (α := Span) hw 1 rfl 1 rfl
   obtain ⟨Sv56, hw⟩ := w_share (α := Span) hw 0 rfl 1 rfl
   refine st_callR hs (span_Minus_ok h38 hw.dom (hw.envAt 1 rfl) (hw.envAt 0 rfl)) (do_call Try.call35 rfl) trivial rfl rfl ?_
   intro v60 Sv57 w a h58 h59 hs
   obtain ⟨p40, k41, c43, rfl, h61, h42⟩ := h59
   have hw := hw.callN h58 h61
   have hw := hw.addE (e := RowA c43 rv39) h42
   refine h_nx (hw.cs [1] [] rfl rfl) fun hC => ?_
   refine h_st (C' := Cls [.box b9 [.slice p2 r1.Got.length k3, .slice p4 r1.Lost.length k5] 29, .row p40 rv39.length k41 c43 46 2] []) (fun _ h => by exact h.sub [0] (Sel.of rfl) (AllIn.of [] rfl)) (hw.cs [1, 0] [] rfl rfl) fun hC => ?_
   refine gv hs 9 rfl rfl hC (fun w hC => y_assign rfl) fun a hs => ?_
   refine gv hs 10 rfl rfl hC (fun w hC => y_assign rfl) fun a hs => ?_
   refine h_done (by kernel_rfl) ?_
   exact ⟨Sv57, c43, k41, p40, (hs.wk rfl), (hw.ft [0] [0] (by decide) rfl rfl)⟩
  refine AllH.cons rfl ?_ ?_
  ·refine st_callR hs (receiver_known_ok h32 hw.dom (hw.envAt 1 rfl) (hw.envAt 0 rfl)) (do_call Try.call42 rfl) trivial rfl rfl ?_
   intro v65 Sv62 w a h63 h64 hs
   obtain ⟨p34, k35, c37, rfl, h66, h36⟩ := h64
   have hw := hw.callN h63 h66
   have hw := hw.addE (e := RowA c37 rv33) h36
   refine h_nx (hw.cs [1] [] rfl rfl) fun hC => ?_
   refine ho 5 rfl ?_
   refine w_litSlice (α := Span) (vs := [.agg #[.int .i64 0, .int .i64 (max next8 rv29)]]) (cs := [.int .i64 0, .int .i64 (max next8 rv29)]) (xs := ([(⟨0, (max next8 rv29)⟩ : Span)] : List Span)) hs hw El27 rfl rfl rfl rfl rfl rfl ⟨⟨_, _, rfl, rfl, rfl⟩, rfl⟩ rfl trivial rfl fun b31 a w hs hw => ?_
   refine h_nx (hw.cs [2] [] rfl rfl) fun hC => ?_
   refine ho 8 rfl ?_
   obtain ⟨Sv67, hw⟩ := w_share (α := Span) hw 0 rfl 0 rfl
   obtain ⟨Sv68, hw⟩ := w_share (α := Span) hw 0 rfl 2 rfl
   refine st_callR hs (span_Minus_ok h38 hw.dom (hw.envAt 1 rfl) (hw.envAt 0 rfl)) (do_call Try.call35 rfl) trivial rfl rfl ?_
   intro v72 Sv69 w a h70 h71 hs
   obtain ⟨p40, k41, c43, rfl, h73, h42⟩ := h71
   have hw := hw.callN h70 h73
   have hw := hw.addE (e := RowA c43 rv39) h42
   refine h_nx (hw.cs [1] [] rfl rfl) fun hC => ?_
   refine h_st (C' := Cls [.box b9 [.slice p2 r1.Got.length k3, .slice p4 r1.Lost.length k5] 29, .row p40 rv39.length k41 c43 46 2] []) (fun _ h => by exact h.sub [0] (Sel.of rfl) (AllIn.of [] rfl)) (hw.cs [1, 0] [] rfl rfl) fun hC => ?_
   refine gv hs 9 rfl rfl hC (fun w hC => y_assign rfl) fun a hs => ?_
   refine gv hs 10 rfl rfl hC (fun w hC => y_assign rfl) fun a hs => ?_
   refine h_done (by kernel_rfl) ?_
   exact ⟨Sv69, c43, k41, p40, (hs.wk rfl), (hw.ft [0] [0] (by decide) rfl rfl)⟩
  exact AllH.nil
 rintro a w ⟨Sv44, c43, k41, p40, hs, hw⟩
 refine then_normal ?_
 have hsh := oi hsh
 subst hsh
 refine wp_ret ?_
 exact ret2 hs rfl (rv_tmp rfl) (rv_tmp rfl) (hw.ret ⟨p40, k41, c43, rfl, (hw.outs [0] (by decide) rfl), (hw.envAt 0 rfl)⟩)

abbrev receiver_Lose_rd (w0 : World) (X : List Nat) (r : (Receiver × Int)) : (Nat → Prop) → World → Value → Prop := fun S w v => ∃ (p0_0 : Option Addr) (k0_0 : Nat) (p0_1 : Option Addr) (k0_1 : Nat), v = .tuple #[.agg #[.slice p0_0 r.1.Got.length k0_0, .slice p0_1 r.1.Lost.length k0_1], .int .i64 r.2] ∧ (SlA p0_0 r.1.Got.length k0_0 r.1.Got).p S w ∧ (SlA p0_1 r.1.Lost.length k0_1 r.1.Lost).p S w
set_option maxHeartbeats 4000000 in
set_option maxRecDepth 100000 in
theorem receiver_Lose_ok {w0 : World} {S0 : Nat → Prop} {p2 : Option Addr} {k3 : Nat} {p4 : Option Addr} {k5 : Nat} {r1 : Receiver} {below8 : Int} {r : (Receiver × Int)} (hsh : receiver_Lose r1 below8 = some r) (hS : ∀ b, S0 b → b < w0.heap.size) (h6 : (SlA p2 r1.Got.length k3 r1.Got).p S0 w0) (h7 : (SlA p4 r1.Lost.length k5 r1.Lost).p S0 w0) : Calls Try.prog 12 #[.agg #[.slice p2 r1.Got.length k3, .slice p4 r1.Lost.length k5], .int .i64 below8] w0 (Ret ([]) w0 S0 (receiver_Lose_rd w0 ([]) r)) := by
 refine calls_of_wp Try.func12 rfl ?_
 have hs := Sl.enter #[.agg #[.slice p2 r1.Got.length k3, .slice p4 r1.Lost.length k5], .int .i64 below8] 31 [(0, .agg #[.slice p2 r1.Got.length k3, .slice p4 r1.Lost.length k5]), (1, .int .i64 below8)] rfl ⟨rfl, rfl, trivial⟩
 have hw := Wd.enter (E := []) hS (fun _ h => (by cases h))
 have hw := hw.addE h6
 have hw := hw.addE h7
 delta receiver_Lose at hsh
 refine sr ?_
 refine w_box (cs := [.slice p2 r1.Got.length k3, .slice p4 r1.Lost.length k5]) hs hw rfl rfl rfl trivial ?_
 intro b9 a w hs hw
 refine w_alloc (cs := [.slice none ([] : List Span).length 0, .slice none ([] : List Span).length 0]) hs hw Try.zeroValue29 rfl rfl trivial ?_
 intro b10 a w hs hw
 refine av hs rfl rfl fun a hs => ?_
 refine nl ?_
 refine wp_seq ?_
 refine sr ?_
 refine sv hs (y_loadBA (hw.ownAt 1 rfl) rfl Try.isAgg29 Try.sizeOf29 rfl rfl) rfl fun a hs => ?_
 obtain ⟨rv12, h11, hsh⟩ := bind_t hsh
 refine st_callR hs (receiver_Valid_ok h11 hw.bdom (hw.bE 1 rfl) (hw.bE 0 rfl)) (do_call Try.call15 rfl) trivial rfl rfl ?_
 intro v16 Sv13 w a h14 h15 hs
 subst h15
 have hw := hw.callB h14
 refine sv hs (y_not rfl) rfl fun a hs => ?_
 refine nl ?_
 refine wp_cond_split (hs.ev rfl) (fun h19 => ?_) (fun h19 => ?_)
 ·have hsh := ite_t hsh h19
  refine sr ?_
  refine sv hs (y_build (vs := []) Bld29 rfl rfl) rfl fun a hs => ?_
  refine w_store (m := 2) (cs' := [.slice none ([] : List Span).length 0, .slice none ([] : List Span).length 0]) hs hw 0 rfl rfl rfl Try.sizeOf29 rfl rfl rfl rfl trivial ?_
  intro a w hs hw
  refine av hs rfl rfl fun a hs => ?_
  refine nl ?_
  have hsh := oi hsh
  subst hsh
  have hw := hw.addE (e := SlA (α := Span) none 0 0 []) nil_sl
  refine wp_ret ?_
  refine then_ret ?_
  exact ret2 hs rfl (rv_cell hw 0 rfl rfl Try.isAgg29 Try.sizeOf29 rfl) (rv_tmp rfl) (hw.ret ⟨none, 0, none, 0, rfl, (hw.envAt 0 rfl), (hw.envAt 0 rfl)⟩)
 have hsh := ite_f hsh h19
 refine wp_skip ?_
 refine then_normal ?_
 refine wp_seq ?_
 refine sr ?_
 refine mv hs rfl rfl fun a hs => ?_
 obtain ⟨rv21, h20, hsh⟩ := bind_t hsh
 refine st_callR hs (receiver_in_ok h20 hw.bdom) (do_call Try.call34 rfl) trivial rfl rfl ?_
 intro v25 Sv22 w a h23 h24 hs
 subst h24
 have hw := hw.callB h23
 refine sv hs (y_not rfl) rfl fun a hs => ?_
 refine nl ?_
 refine wp_cond_split (hs.ev rfl) (fun h28 => ?_) (fun h28 => ?_)
 ·have hsh := ite_t hsh h28
  refine sr ?_
  refine sv hs (y_build (vs := []) Bld29 rfl rfl) rfl fun a hs => ?_
  refine w_store (m := 2) (cs' := [.slice none ([] : List Span).length 0, .slice none ([] : List Span).length 0]) hs hw 0 rfl rfl rfl Try.sizeOf29 rfl rfl rfl rfl trivial ?_
  intro a w hs hw
  refine av hs rfl rfl fun a hs => ?_
  refine nl ?_
  have hsh := oi hsh
  subst hsh
  have hw := hw.addE (e := SlA (α := Span) none 0 0 []) nil_sl
  refine wp_ret ?_
  refine then_ret ?_
  exact ret2 hs rfl (rv_cell hw 0 rfl rfl Try.isAgg29 Try.sizeOf29 rfl) (rv_tmp rfl) (hw.ret ⟨none, 0, none, 0, rfl, (hw.envAt 0 rfl), (hw.envAt 0 rfl)⟩)
 have hsh := ite_f hsh h28
 refine wp_skip ?_
 refine then_normal ?_
 refine sr ?_
 refine mv hs rfl rfl fun a hs => ?_
 refine sv hs (y_build (vs := [(1, .int .i64 below8)]) Bld46 rfl rfl) rfl fun a hs => ?_
 refine w_litSlice (α := Span) (vs := [.agg #[.int .i64 0, .int .i64 below8]]) (cs := [.int .i64 0, .int .i64 below8]) (xs := ([(⟨0, below8⟩ : Span)] : List Span)) hs hw El27 rfl rfl rfl rfl rfl rfl ⟨⟨_, _, rfl, rfl, rfl⟩, rfl⟩ rfl trivial rfl fun b30 a w hs hw => ?_
 refine sv hs (y_fieldAddr (o' := 0) Try.runUnderlying29 rfl Try.sizeOf27 rfl rfl rfl) rfl fun a hs => ?_
 refine sv hs (y_loadB1 (hw.ownAt 2 rfl) rfl Try.isAgg27 rfl) rfl fun a hs => ?_
 obtain ⟨rv32, h31, hsh⟩ := bind_t hsh
 obtain ⟨Sv37, hw⟩ := w_share (α := Span) hw 0 rfl 0 rfl
 refine st_callR hs (span_Minus_ok h31 hw.dom (hw.envAt 0 rfl) (hw.envAt 3 rfl)) (do_call Try.call35 rfl) trivial rfl rfl ?_
 intro v41 Sv38 w a h39 h40 hs
 obtain ⟨p33, k34, c36, rfl, h42, h35⟩ := h40
 have hw := hw.callN h39 h42
 have hw := hw.addE (e := RowA c36 rv32) h35
 refine av hs rfl rfl fun a hs => ?_
 refine nl ?_
 refine wp_seq ?_
 obtain ⟨rv44, h43, hsh⟩ := bind_t hsh
 obtain ⟨rv50, h49, hsh⟩ := bind_t hsh
 obtain ⟨rv56, h55, hsh⟩ := bind_t hsh
 refine wp_only (fun a w => ∃ (Sv63 : Nat → Prop) (k58 : Nat) (k61 : Nat) (p57 : Option Addr) (p60 : Option Addr), Sl 31 [(4, .pointer (some ⟨b10, 0, none⟩)), (5, .int .i64 rv56.2)] a ∧ Wd ⟨w0, S0, []⟩ Sv63 [.box b10 [.slice p57 rv56.1.Got.length k58, .slice p60 rv56.1.Lost.length k61] 29] [SlA p57 rv56.1.Got.length k58 rv56.1.Got, SlA p60 rv56.1.Lost.length k61 rv56.1.Lost] w) ?_ ?_
 ·refine h_b (C := Cls [.box b9 [.slice p2 r1.Got.length k3, .slice p4 r1.Lost.length k5] 29] []) (by kernel_rfl) rfl (hw.drew.cs [2] [] rfl rfl) fun hC => ?_
  have hw := hw.drew
  refine gv hs 0 rfl rfl hC (fun w hC => y_fieldAddr (o' := 0) Try.runUnderlying29 rfl Try.sizeOf27 rfl rfl rfl) fun a hs => ?_
  refine gv hs 1 rfl rfl hC (fun w hC => y_loadB1 (hC.ownAt 0 rfl) rfl Try.isAgg27 rfl) fun a hs => ?_
  refine gv hs 3 rfl rfl hC (fun w hC => y_fieldAddr (o' := 1) Try.runUnderlying29 rfl Try.sizeOf27 rfl rfl rfl) fun a hs => ?_
  refine gv hs 4 rfl rfl hC (fun w hC => y_loadB1 (hC.ownAt 0 rfl) rfl Try.isAgg27 rfl) fun a hs => ?_
  refine gm hs 5 rfl rfl rfl hC fun a hs => ?_
  refine ho 2 rfl ?_
  refine st_callR hs (slices_Clone_Lapi_Span_api_Span_ok h43 hw.dom (hw.envAt 4 rfl)) (do_call Try.call37 rfl) trivial rfl rfl ?_
  intro v67 Sv64 w a h65 h66 hs
  obtain ⟨p45, k46, c48, rfl, h68, h47⟩ := h66
  have hw := hw.callN h65 h68
  have hw := hw.addE (e := RowA c48 rv44) h47
  refine h_nx (hw.cs [3] [] rfl rfl) fun hC => ?_
  refine ho 6 rfl ?_
  obtain ⟨Sv69, hw⟩ := w_share (α := Span) hw 1 rfl 1 rfl
  refine st_callR hs (span_Union_ok h49 hw.dom (hw.envAt 5 rfl) (hw.envAt 0 rfl)) (do_call Try.call38 rfl) trivial rfl rfl ?_
  intro v73 Sv70 w a h71 h72 hs
  obtain ⟨p51, k52, c54, rfl, h74, h53⟩ := h72
  have hw := hw.callN h71 h74
  have hw := hw.addE (e := RowA c54 rv50) h53
  refine h_nx (hw.cs [3] [] rfl rfl) fun hC => ?_
  refine ho 7 rfl ?_
  obtain ⟨Sv75, hw⟩ := w_share (α := Span) hw 1 rfl 2 rfl
  obtain ⟨Sv76, hw⟩ := w_share (α := Span) hw 0 rfl 1 rfl
  refine st_callR hs (receiver_limited_ok h55 hw.dom (hw.envAt 1 rfl) (hw.envAt 0 rfl)) (do_call Try.call36 rfl) trivial rfl rfl ?_
  intro v80 Sv77 w a h78 h79 hs
  obtain ⟨p57, k58, p60, k61, rfl, h59, h62⟩ := h79
  have hw := hw.call h78
  have hw := hw.addE (e := SlA p57 rv56.1.Got.length k58 rv56.1.Got) h59
  have hw := hw.addE (e := SlA p60 rv56.1.Lost.length k61 rv56.1.Lost) h62
  refine h_nx (hw.cs [1] [] rfl rfl) fun hC => ?_
  refine gv hs 8 rfl rfl hC (fun w hC => y_extract rfl rfl) fun a hs => ?_
  refine gv hs 9 rfl rfl hC (fun w hC => y_extract rfl rfl) fun a hs => ?_
  refine ho 10 rfl ?_
  refine w_store (m := 2) (cs' := [.slice p57 rv56.1.Got.length k58, .slice p60 rv56.1.Lost.length k61]) hs hw 0 rfl rfl rfl Try.sizeOf29 rfl rfl rfl rfl trivial ?_
  intro a w hs hw
  refine h_nx (hw.cs [1] [] rfl rfl) fun hC => ?_
  refine gv hs 11 rfl rfl hC (fun w hC => y_assign rfl) fun a hs => ?_
  refine h_done (by kernel_rfl) ?_
  exact ⟨Sv77, k58, k61, p57, p60, (hs.wk rfl), (hw.ft [0] [1, 0] (by decide) rfl rfl)⟩
 rintro a w ⟨Sv63, k58, k61, p57, p60, hs, hw⟩
 refine then_normal ?_
 have hsh := oi hsh
 subst hsh
 refine wp_ret ?_
 exact ret2 hs rfl (rv_cell hw 0 rfl rfl Try.isAgg29 Try.sizeOf29 rfl) (rv_tmp rfl) (hw.ret ⟨p57, k58, p60, k61, rfl, (hw.envAt 0 rfl), (hw.envAt 1 rfl)⟩)

abbrev ref08_Same_rd (w0 : World) (X : List Nat) (r : Bool) : (Nat → Prop) → World → Value → Prop := fun S w v => v = .bool r
set_option maxHeartbeats 4000000 in
set_option maxRecDepth 100000 in
theorem ref08_Same_ok {w0 : World} {S0 : Nat → Prop} {p2 : Option Addr} {k3 : Nat} {p6 : Option Addr} {k7 : Nat} {a1 : (List Span)} {b5 : (List Span)} {r : Bool} (hsh : ref08_Same a1 b5 = some r) (hS : ∀ b, S0 b → b < w0.heap.size) (h4 : (SlA p2 a1.length k3 a1).p S0 w0) (h8 : (SlA p6 b5.length k7 b5).p S0 w0) : Calls Try.prog 24 #[.slice p2 a1.length k3, .slice p6 b5.length k7] w0 (Ret ([]) w0 S0 (ref08_Same_rd w0 ([]) r)) := by
 refine calls_of_wp Try.func24 rfl ?_
 have hs := Sl.enter #[.slice p2 a1.length k3, .slice p6 b5.length k7] 26 [(0, .slice p2 a1.length k3), (1, .slice p6 b5.length k7)] rfl ⟨rfl, rfl, trivial⟩
 have hw := Wd.enter (E := []) hS (fun _ h => (by cases h))
 have hw := hw.addE h4
 have hw := hw.addE h8
 delta ref08_Same at hsh
 refine sr ?_
 refine av hs rfl rfl fun a hs => ?_
 refine nl ?_
 refine wp_seq ?_
 refine sr ?_
 refine mv hs rfl rfl fun a hs => ?_
 refine sv hs (y_len Try.runUnderlying27 rfl) rfl fun a hs => ?_
 refine mv hs rfl rfl fun a hs => ?_
 refine sv hs (y_len Try.runUnderlying27 rfl) rfl fun a hs => ?_
 refine sv hs (y_neq rfl rfl) rfl fun a hs => ?_
 refine nl ?_
 refine wp_cond_split (hs.ev rfl) (fun h10 => ?_) (fun h10 => ?_)
 ·have hsh := ite_t hsh h10
  refine sr ?_
  refine av hs rfl rfl fun a hs => ?_
  refine nl ?_
  have hsh := oi hsh
  subst hsh
  refine wp_ret ?_
  refine then_ret ?_
  exact ret1 hs rfl (rv_tmp rfl) (hw.ret rfl)
 have hsh := ite_f hsh h10
 refine wp_skip ?_
 refine then_normal ?_
 refine wp_seq ?_
 refine sr ?_
 refine av hs rfl rfl fun a hs => ?_
 refine nl ?_
 refine wp_block ?_
 refine wp_while (fun sv109 a w => ∃ (Sv173 : Nat → Prop), Sl 26 [(0, .slice p2 a1.length k3), (1, .slice p6 b5.length k7), (5, .int .i64 sv109)] a ∧ Wd ⟨w0, S0, []⟩ Sv173 [] [SlA p2 a1.length k3 a1, SlA p6 b5.length k7 b5] w) 0 hsh ⟨S0, (hs.wk rfl), (hw.ft [] [1, 0] (by decide) rfl rfl)⟩ ?_
 repeat clear hsh
 rintro sv109 a w tv206 ⟨Sv173, hs, hw⟩ hsh hd205
 delta ref08_Same_l2 at hsh
 refine wp_seq ?_
 refine sr ?_
 refine mv hs rfl rfl fun a hs => ?_
 refine mv hs rfl rfl fun a hs => ?_
 refine sv hs (y_len Try.runUnderlying27 rfl) rfl fun a hs => ?_
 refine sv hs (y_lss rfl rfl) rfl fun a hs => ?_
 refine nl ?_
 refine wp_cond_split (hs.ev rfl) (fun h210 => ?_) (fun h210 => ?_)
 ·have hsh := ite_t hsh h210
  refine wp_skip ?_
  refine then_normal ?_
  refine wp_seq ?_
  refine wp_block ?_
  refine wp_seq ?_
  obtain ⟨x241, h239, hsh⟩ := bind_t hsh
  obtain ⟨b247, o248, q245, c246, h249, h242, h243, h244, h240⟩ := hw.elemV 0 rfl h239
  have hsv250 := hs
  have hwv251 := hw
  subst h249
  have hs := hsv250
  have hw := hwv251
  obtain ⟨_, _, rfl, rfl, rfl⟩ := h240
  have hw := hw.addE h244
  obtain ⟨x254, h252, hsh⟩ := bind_t hsh
  obtain ⟨b260, o261, q258, c259, h262, h255, h256, h257, h253⟩ := hw.elemV 2 rfl h252
  have hsv263 := hs
  have hwv264 := hw
  subst h262
  have hs := hsv263
  have hw := hwv264
  obtain ⟨_, _, rfl, rfl, rfl⟩ := h253
  have hw := hw.addE h257
  refine wp_only (fun a w => ∃ (Sv265 : Nat → Prop), Sl 26 [(0, .slice (some ⟨b247, o248, none⟩) a1.length k3), (1, .slice (some ⟨b260, o261, none⟩) b5.length k7), (5, .int .i64 sv109), (25, .bool (!((x241.From == x254.From) && ((x241.To == x254.To) && true))))] a ∧ Wd ⟨w0, S0, []⟩ Sv265 [] [SlA (some ⟨b247, o248, none⟩) a1.length k3 a1, SlA (some ⟨b260, o261, none⟩) b5.length k7 b5] w) ?_ ?_
  ·refine h_b (C := Cls [] [CeA b260 q258 [.int .i64 x254.From, .int .i64 x254.To], CeA b247 q245 [.int .i64 x241.From, .int .i64 x241.To]]) (by kernel_rfl) rfl (hw.drew.cs [] [0, 1] rfl rfl) fun hC => ?_
   have hw := hw.drew
   refine gm hs 0 rfl rfl rfl hC fun a hs => ?_
   refine gm hs 1 rfl rfl rfl hC fun a hs => ?_
   refine gv hs 2 rfl rfl hC (fun w hC => y_indexAt Try.runUnderlying27 Try.sizeOf46 rfl rfl h242.1 h242.2 h243) fun a hs => ?_
   refine gv hs 3 rfl rfl hC (fun w hC => y_loadEA (j := 0) (hC.ceAt 1 rfl) rfl Try.isAgg46 Try.sizeOf46 rfl rfl) fun a hs => ?_
   refine gm hs 4 rfl rfl rfl hC fun a hs => ?_
   refine gm hs 5 rfl rfl rfl hC fun a hs => ?_
   refine gv hs 6 rfl rfl hC (fun w hC => y_indexAt Try.runUnderlying27 Try.sizeOf46 rfl rfl h255.1 h255.2 h256) fun a hs => ?_
   refine gv hs 7 rfl rfl hC (fun w hC => y_loadEA (j := 0) (hC.ceAt 0 rfl) rfl Try.isAgg46 Try.sizeOf46 rfl rfl) fun a hs => ?_
   refine gv hs 8 rfl rfl hC (fun w hC => y_neqA (by kernel_rfl) rfl rfl (eqv_struct Try.runUnderlying46 (by kernel_rfl) (EqF.cons1 rfl Try.isAgg3 rfl rfl (eqv_int Try.runUnderlying3) (EqF.cons1 rfl Try.isAgg3 rfl rfl (eqv_int Try.runUnderlying3) EqF.nil)))) fun a hs => ?_
   refine h_done (by kernel_rfl) ?_
   exact ⟨Sv173, (hs.wk rfl), (hw.ft [] [2, 3] (by decide) rfl rfl)⟩
  rintro a w ⟨Sv265, hs, hw⟩
  refine then_normal ?_
  refine wp_cond_split (hs.ev rfl) (fun h267 => ?_) (fun h267 => ?_)
  ·have hsh := ite_t hsh h267
   refine sr ?_
   refine av hs rfl rfl fun a hs => ?_
   refine nl ?_
   have hsh := oi hsh
   subst hsh
   have h268 := hd205 _ rfl
   subst h268
   refine wp_ret ?_
   refine blk_ret ?_
   refine then_ret ?_
   refine then_ret ?_
   refine blk_ret ?_
   refine then_ret ?_
   exact ret1 hs rfl (rv_tmp rfl) (hw.ret rfl)
  have hsh := ite_f hsh h267
  refine wp_skip ?_
  refine blk_normal ?_
  refine then_normal ?_
  refine wp_region_lit ?_
  refine mv hs rfl rfl fun a hs => ?_
  refine sv hs (y_add rfl rfl) rfl fun a hs => ?_
  obtain ⟨i270, h269, hsh⟩ := bind_t hsh
  refine sv hs (y_assignI rfl h269) rfl fun a hs => ?_
  refine nl ?_
  exact ⟨_, (Option.some.inj hsh).symm, Sv265, (hs.wk rfl), (hw.ft [] [0, 1] (by decide) rfl rfl)⟩
 have hsh := ite_f hsh h210
 obtain ⟨rv271, hsh, h272⟩ := map_t hsh
 have h272 := (hd205 _ h272.symm).symm
 subst h272
 refine wp_exit ?_
 refine then_exit ?_
 refine then_exit ?_
 refine blk_exit ?_
 refine then_normal ?_
 refine sr ?_
 refine av hs rfl rfl fun a hs => ?_
 refine nl ?_
 have hsh := oi hsh
 subst hsh
 refine wp_ret ?_
 exact ret1 hs rfl (rv_tmp rfl) (hw.ret rfl)

abbrev receiver_Settled_rd (w0 : World) (X : List Nat) (r : Int) : (Nat → Prop) → World → Value → Prop := fun S w v => v = .int .i64 r
set_option maxHeartbeats 4000000 in
set_option maxRecDepth 100000 in
theorem receiver_Settled_ok {w0 : World} {S0 : Nat → Prop} {p2 : Option Addr} {k3 : Nat} {p4 : Option Addr} {k5 : Nat} {r1 : Receiver} {r : Int} (hsh : receiver_Settled r1 = some r) (hS : ∀ b, S0 b → b < w0.heap.size) (h6 : (SlA p2 r1.Got.length k3 r1.Got).p S0 w0) (h7 : (SlA p4 r1.Lost.length k5 r1.Lost).p S0 w0) : Calls Try.prog 19 #[.agg #[.slice p2 r1.Got.length k3, .slice p4 r1.Lost.length k5]] w0 (Ret ([]) w0 S0 (receiver_Settled_rd w0 ([]) r)) := by
 refine calls_of_wp Try.func19 rfl ?_
 have hs := Sl.enter #[.agg #[.slice p2 r1.Got.length k3, .slice p4 r1.Lost.length k5]] 25 [(0, .agg #[.slice p2 r1.Got.length k3, .slice p4 r1.Lost.length k5])] rfl ⟨rfl, trivial⟩
 have hw := Wd.enter (E := []) hS (fun _ h => (by cases h))
 have hw := hw.addE h6
 have hw := hw.addE h7
 delta receiver_Settled at hsh
 refine sr ?_
 refine w_box (cs := [.slice p2 r1.Got.length k3, .slice p4 r1.Lost.length k5]) hs hw rfl rfl rfl trivial ?_
 intro b8 a w hs hw
 refine av hs rfl rfl fun a hs => ?_
 refine nl ?_
 refine sr ?_
 refine sv hs (y_loadBA (hw.ownAt 0 rfl) rfl Try.isAgg29 Try.sizeOf29 rfl rfl) rfl fun a hs => ?_
 obtain ⟨rv10, h9, hsh⟩ := bind_t hsh
 refine st_callR hs (receiver_known_ok h9 hw.dom (hw.envAt 1 rfl) (hw.envAt 0 rfl)) (do_call Try.call42 rfl) trivial rfl rfl ?_
 intro v18 Sv15 w a h16 h17 hs
 obtain ⟨p11, k12, c14, rfl, h19, h13⟩ := h17
 have hw := hw.callN h16 h19
 have hw := hw.addE (e := RowA c14 rv10) h13
 refine av hs rfl rfl fun a hs => ?_
 refine nl ?_
 refine wp_seq ?_
 refine sr ?_
 refine sv hs (y_loadBA (hw.ownAt 1 rfl) rfl Try.isAgg29 Try.sizeOf29 rfl rfl) rfl fun a hs => ?_
 obtain ⟨rv21, h20, hsh⟩ := bind_t hsh
 refine st_callR hs (receiver_Valid_ok h20 hw.bdom (hw.bE 2 rfl) (hw.bE 1 rfl)) (do_call Try.call15 rfl) trivial rfl rfl ?_
 intro v25 Sv22 w a h23 h24 hs
 subst h24
 have hw := hw.callB h23
 refine sv hs (y_not rfl) rfl fun a hs => ?_
 refine mv hs rfl rfl fun a hs => ?_
 refine wpl_join 4 (fun a w1 => w = w1 ∧ Sl 25 [(3, .slice p11 rv10.length k12), (13, .bool ((!rv21) || ((rv10.length : Int) == 0)))] a) ?_ ?_
 ·rcases Bool.eq_false_or_eq_true (!rv21) with h27 | h27
  ·have hs := hs.fix 9 (.bool true) rfl (vb h27)
   refine st_skip hs rfl rfl rfl rfl rfl fun a hs => ?_
   refine st_skip hs rfl rfl rfl rfl rfl fun a hs => ?_
   refine st_skip hs rfl rfl rfl rfl rfl fun a hs => ?_
   refine sv hs (y_pickT rfl rfl) rfl fun a hs => ?_
   refine nl ?_
   exact ⟨rfl, (hs.fix 13 (.bool ((!rv21) || ((rv10.length : Int) == 0))) rfl (or_t h27)).weaken _ ⟨rfl, rfl, trivial⟩⟩
  have hs := hs.fix 9 (.bool false) rfl (vb h27)
  refine st_val hs (y_move rfl) ⟨_, rfl, rfl⟩ rfl rfl fun a hs => ?_
  refine st_val hs (y_len Try.runUnderlying27 rfl) ⟨_, rfl, rfl⟩ rfl rfl fun a hs => ?_
  refine st_val hs (y_eql rfl rfl) ⟨_, rfl, rfl⟩ rfl rfl fun a hs => ?_
  refine sv hs (y_pickF rfl rfl) rfl fun a hs => ?_
  refine nl ?_
  exact ⟨rfl, (hs.fix 13 (.bool ((!rv21) || ((rv10.length : Int) == 0))) rfl (or_f h27)).weaken _ ⟨rfl, rfl, trivial⟩⟩
 rintro a w1 ⟨h72, hs⟩
 subst h72
 refine mv hs rfl rfl fun a hs => ?_
 obtain ⟨c42, hc42, hsh⟩ := bind_t hsh
 refine wpl_join 6 (fun a w => ∃ (Sv43 : Nat → Prop), Sl 25 [(3, .slice p11 rv10.length k12), (20, .bool c42)] a ∧ Wd ⟨w0, S0, []⟩ Sv43 [.row p11 rv10.length k12 c14 46 2] [RowA c14 rv10] w) ?_ ?_
 ·rcases Bool.eq_false_or_eq_true ((!rv21) || ((rv10.length : Int) == 0)) with h41 | h41
  ·have hs := hs.fix 14 (.bool true) rfl (vb h41)
   have hsh := ite_t hc42 h41
   refine st_skip hs rfl rfl rfl rfl rfl fun a hs => ?_
   refine st_skip hs rfl rfl rfl rfl rfl fun a hs => ?_
   refine st_skip hs rfl rfl rfl rfl rfl fun a hs => ?_
   refine st_skip hs rfl rfl rfl rfl rfl fun a hs => ?_
   refine st_skip hs rfl rfl rfl rfl rfl fun a hs => ?_
   refine sv hs (y_pickT rfl rfl) rfl fun a hs => ?_
   refine wpList_nil ?_
   have hsh := oi hsh
   subst hsh
   refine then_normal ?_
   exact ⟨Sv15, (hs.wk rfl), (hw.ft [0] [0] (by decide) rfl rfl)⟩
  have hs := hs.fix 14 (.bool false) rfl (vb h41)
  have hsh := ite_f hc42 h41
  refine st_val hs (y_move rfl) ⟨_, rfl, rfl⟩ rfl rfl fun a hs => ?_
  obtain ⟨x46, h44, hsh⟩ := bind_t hsh
  obtain ⟨b53, q50, c51, h54, h47, h48, h52, h45⟩ := hw.elemRV (α := Span) 0 rfl 0 rfl h44
  have hsv55 := hs
  have hwv56 := hw
  subst h54
  have hs := hsv55
  have hw := hwv56
  obtain ⟨_, _, rfl, rfl, rfl⟩ := h45
  refine st_val hs (y_indexAt Try.runUnderlying27 Try.sizeOf46 rfl rfl h47.1 h47.2 h48) ⟨_, rfl, rfl⟩ rfl rfl fun a hs => ?_
  refine st_val hs (y_fieldAddr (o' := q50 + 0) Try.runUnderlying46 rfl Try.sizeOf3 rfl rfl rfl) ⟨_, rfl, rfl⟩ rfl rfl fun a hs => ?_
  refine st_val hs (y_loadQ1 (j := 0) (hw.ownAt 0 rfl) rfl Try.isAgg3 h52 rfl) ⟨_, rfl, rfl⟩ rfl rfl fun a hs => ?_
  refine st_val hs (y_gtr rfl rfl) ⟨_, rfl, rfl⟩ rfl rfl fun a hs => ?_
  refine sv hs (y_pickF rfl rfl) rfl fun a hs => ?_
  refine wpList_nil ?_
  have hsh := oi hsh
  subst hsh
  refine then_normal ?_
  exact ⟨Sv15, (hs.wk rfl), (hw.ft [0] [0] (by decide) rfl rfl)⟩
 rintro a w ⟨Sv43, hs, hw⟩
 refine nl ?_
 refine wp_cond_split (hs.ev rfl) (fun h58 => ?_) (fun h58 => ?_)
 ·have hsh := ite_t hsh h58
  refine sr ?_
  refine av hs rfl rfl fun a hs => ?_
  refine nl ?_
  have hsh := oi hsh
  subst hsh
  refine wp_ret ?_
  refine then_ret ?_
  exact ret1 hs rfl (rv_tmp rfl) (hw.ret rfl)
 have hsh := ite_f hsh h58
 refine wp_skip ?_
 refine then_normal ?_
 refine sr ?_
 refine mv hs rfl rfl fun a hs => ?_
 obtain ⟨x61, h59, hsh⟩ := bind_t hsh
 obtain ⟨b68, q65, c66, h69, h62, h63, h67, h60⟩ := hw.elemRV (α := Span) 0 rfl 0 rfl h59
 have hsv70 := hs
 have hwv71 := hw
 subst h69
 have hs := hsv70
 have hw := hwv71
 obtain ⟨_, _, rfl, rfl, rfl⟩ := h60
 refine sv hs (y_indexAt Try.runUnderlying27 Try.sizeOf46 rfl rfl h62.1 h62.2 h63) rfl fun a hs => ?_
 refine sv hs (y_fieldAddr (o' := q65 + 1) Try.runUnderlying46 rfl Try.sizeOf3 rfl rfl rfl) rfl fun a hs => ?_
 refine sv hs (y_loadQ1 (j := 1) (hw.ownAt 0 rfl) rfl Try.isAgg3 h67 rfl) rfl fun a hs => ?_
 refine av hs rfl rfl fun a hs => ?_
 refine nl ?_
 have hsh := oi hsh
 subst hsh
 refine wp_ret ?_
 exact ret1 hs rfl (rv_tmp rfl) (hw.ret rfl)

abbrev law11_sane_rd (w0 : World) (X : List Nat) (r : Bool) : (Nat → Prop) → World → Value → Prop := fun S w v => v = .bool r
set_option maxHeartbeats 4000000 in
set_option maxRecDepth 100000 in
theorem law11_sane_ok {w0 : World} {S0 : Nat → Prop} {r : Bool} (hsh : law11_sane = some r) (hS : ∀ b, S0 b → b < w0.heap.size) : Calls Try.prog 8 #[] w0 (Ret ([]) w0 S0 (law11_sane_rd w0 ([]) r)) := by
 refine calls_of_wp Try.func8 rfl ?_
 have hs := Sl.enter #[] 59 [] rfl trivial
 have hw := Wd.enter (E := []) hS (fun _ h => (by cases h))
 delta law11_sane at hsh
 refine sr ?_
 refine av hs rfl rfl fun a hs => ?_
 refine nl ?_
 refine sr ?_
 obtain ⟨rv2, h1, hsh⟩ := bind_t hsh
 refine st_callR hs (receiver_New_ok h1 hw.dom) (do_call Try.call10 rfl) trivial rfl rfl ?_
 intro v12 Sv9 w a h10 h11 hs
 obtain ⟨p3, k4, p6, k7, rfl, h5, h8⟩ := h11
 have hw := hw.call h10
 have hw := hw.addE (e := SlA p3 rv2.Got.length k4 rv2.Got) h5
 have hw := hw.addE (e := SlA p6 rv2.Lost.length k7 rv2.Lost) h8
 refine w_alloc (cs := [.slice none ([] : List Span).length 0, .slice none ([] : List Span).length 0]) hs hw Try.zeroValue29 rfl rfl trivial ?_
 intro b14 a w hs hw
 refine w_store (m := 2) (cs' := [.slice p3 rv2.Got.length k4, .slice p6 rv2.Lost.length k7]) hs hw 0 rfl rfl rfl Try.sizeOf29 rfl rfl rfl rfl trivial ?_
 intro a w hs hw
 refine nl ?_
 refine sr ?_
 refine av hs rfl rfl fun a hs => ?_
 refine nl ?_
 refine wp_seq ?_
 refine sr ?_
 refine w_litSlice (α := Int) (vs := [.int .i64 0, .int .i64 1, .int .i64 4]) (cs := [.int .i64 0, .int .i64 1, .int .i64 4]) (xs := ([0, 1, 4] : List Int)) hs hw El22 rfl rfl rfl rfl rfl rfl ⟨⟨_, rfl, rfl⟩, ⟨⟨_, rfl, rfl⟩, ⟨⟨_, rfl, rfl⟩, rfl⟩⟩⟩ rfl trivial rfl fun b16 a w hs hw => ?_
 refine sv hs (y_len Try.runUnderlying22 rfl) rfl fun a hs => ?_
 refine mv hs rfl rfl fun a hs => ?_
 refine nl ?_
 refine wp_block ?_
 refine wp_while (fun sv102 a w => ∃ (p156 : Option Addr) (k157 : Nat) (p158 : Option Addr) (k159 : Nat) (Sv160 : Nat → Prop), Sl 59 [(1, .pointer (some ⟨b14, 0, none⟩)), (9, .slice (some ⟨b16, 0, none⟩) ([0, 1, 4] : List Int).length ([0, 1, 4] : List Int).length), (10, .int .i64 (([0, 1, 4] : List Int).length : Int)), (11, .int .i64 sv102.2.2)] a ∧ Wd ⟨w0, S0, []⟩ Sv160 [.box b14 [.slice p156 sv102.1.length k157, .slice p158 sv102.2.1.length k159] 29, .row (some ⟨b16, 0, none⟩) ([0, 1, 4] : List Int).length ([0, 1, 4] : List Int).length [.int .i64 0, .int .i64 1, .int .i64 4] 3 1] [SlA p156 sv102.1.length k157 sv102.1, SlA p158 sv102.2.1.length k159 sv102.2.1, RowA [.int .i64 0, .int .i64 1, .int .i64 4] ([0, 1, 4] : List Int)] w) (rv2.Got, rv2.Lost, 0) hsh ⟨p3, k4, p6, k7, Sv9, (hs.wk rfl), (hw.ft [1, 0] [2, 1, 0] (by decide) rfl rfl)⟩ ?_
 repeat clear hsh
 rintro sv102 a w tv186 ⟨p156, k157, p158, k159, Sv160, hs, hw⟩ hsh hd185
 delta law11_sane_l2 at hsh
 refine sr ?_
 refine sv hs (y_lss rfl rfl) rfl fun a hs => ?_
 refine nl ?_
 refine wp_seq ?_
 refine wp_cond_split (hs.ev rfl) (fun h190 => ?_) (fun h190 => ?_)
 ·have hsh := ite_t hsh h190
  refine wp_skip ?_
  refine then_normal ?_
  refine wp_seq ?_
  refine wp_block ?_
  refine sr ?_
  obtain ⟨x216, h214, hsh⟩ := bind_t hsh
  obtain ⟨q220, c221, h217, h218, h222, h215⟩ := hw.elemRK (α := Int) 1 rfl 2 rfl h214
  obtain ⟨_, rfl, rfl⟩ := h215
  refine sv hs (y_indexAt Try.runUnderlying22 Try.sizeOf3 rfl rfl h217.1 h217.2 h218) rfl fun a hs => ?_
  refine sv hs (y_loadQ1 (j := 0) (hw.ownAt 1 rfl) rfl Try.isAgg3 h222 rfl) rfl fun a hs => ?_
  refine av hs rfl rfl fun a hs => ?_
  refine nl ?_
  refine sr ?_
  refine sv hs (y_loadBA (hw.ownAt 0 rfl) rfl Try.isAgg29 Try.sizeOf29 rfl rfl) rfl fun a hs => ?_
  refine mv hs rfl rfl fun a hs => ?_
  obtain ⟨rv224, h223, hsh⟩ := bind_t hsh
  refine st_callR hs (receiver_Accept_ok h223 hw.dom (hw.envAt 0 rfl) (hw.envAt 1 rfl)) (do_call Try.call13 rfl) trivial rfl rfl ?_
  intro v234 Sv231 w a h232 h233 hs
  obtain ⟨p225, k226, p228, k229, rfl, h227, h230⟩ := h233
  have hw := hw.call h232
  have hw := hw.addE (e := SlA p225 rv224.1.Got.length k226 rv224.1.Got) h227
  have hw := hw.addE (e := SlA p228 rv224.1.Lost.length k229 rv224.1.Lost) h230
  refine mv hs rfl rfl fun a hs => ?_
  refine sv hs (y_extract rfl rfl) rfl fun a hs => ?_
  refine sv hs (y_extract rfl rfl) rfl fun a hs => ?_
  refine sv hs (y_extract rfl rfl) rfl fun a hs => ?_
  refine w_store (m := 2) (cs' := [.slice p225 rv224.1.Got.length k226, .slice p228 rv224.1.Lost.length k229]) hs hw 0 rfl rfl rfl Try.sizeOf29 rfl rfl rfl rfl trivial ?_
  intro a w hs hw
  refine av hs rfl rfl fun a hs => ?_
  refine nl ?_
  refine sr ?_
  refine mv hs rfl rfl fun a hs => ?_
  refine sv hs (y_neq rfl rfl) rfl fun a hs => ?_
  refine nl ?_
  refine wp_cond_split (hs.ev rfl) (fun h237 => ?_) (fun h237 => ?_)
  ·have hsh := ite_t hsh h237
   refine sr ?_
   refine av hs rfl rfl fun a hs => ?_
   refine nl ?_
   have hsh := oi hsh
   subst hsh
   have h238 := hd185 _ rfl
   subst h238
   refine wp_ret ?_
   refine blk_ret ?_
   refine then_ret ?_
   refine then_ret ?_
   refine blk_ret ?_
   refine then_ret ?_
   exact ret1 hs rfl (rv_tmp rfl) (hw.ret rfl)
  have hsh := ite_f hsh h237
  refine wp_skip ?_
  refine blk_normal ?_
  refine then_normal ?_
  refine wp_region_lit ?_
  refine sv hs (y_add rfl rfl) rfl fun a hs => ?_
  refine mv hs rfl rfl fun a hs => ?_
  refine nl ?_
  exact ⟨_, (Option.some.inj hsh).symm, p225, k226, p228, k229, Sv231, (hs.wk rfl), (hw.ft [0, 1] [1, 0, 4] (by decide) rfl rfl)⟩
 have hsh := ite_f hsh h190
 obtain ⟨rv325, hsh, h326⟩ := map_t hsh
 have h326 := (hd185 _ h326.symm).symm
 subst h326
 refine wp_exit ?_
 refine then_exit ?_
 refine then_exit ?_
 refine blk_exit ?_
 refine then_normal ?_
 refine sr ?_
 refine sv hs (y_loadBA (hw.ownAt 0 rfl) rfl Try.isAgg29 Try.sizeOf29 rfl rfl) rfl fun a hs => ?_
 obtain ⟨rv240, h239, hsh⟩ := bind_t hsh
 refine st_callR hs (receiver_Missing_ok h239 hw.dom (hw.envAt 0 rfl) (hw.envAt 1 rfl)) (do_call Try.call17 rfl) trivial rfl rfl ?_
 intro v248 Sv245 w a h246 h247 hs
 obtain ⟨p241, k242, c244, rfl, h249, h243⟩ := h247
 have hw := hw.callN h246 h249
 have hw := hw.addE (e := RowA c244 rv240.1) h243
 refine mv hs rfl rfl fun a hs => ?_
 refine sv hs (y_extract rfl rfl) rfl fun a hs => ?_
 refine sv hs (y_extract rfl rfl) rfl fun a hs => ?_
 refine av hs rfl rfl fun a hs => ?_
 refine av hs rfl rfl fun a hs => ?_
 refine nl ?_
 refine sr ?_
 refine sv hs (y_loadBA (hw.ownAt 1 rfl) rfl Try.isAgg29 Try.sizeOf29 rfl rfl) rfl fun a hs => ?_
 obtain ⟨rv251, h250, hsh⟩ := bind_t hsh
 refine st_callR hs (receiver_Lose_ok h250 hw.dom (hw.envAt 1 rfl) (hw.envAt 2 rfl)) (do_call Try.call12 rfl) trivial rfl rfl ?_
 intro v261 Sv258 w a h259 h260 hs
 obtain ⟨p252, k253, p255, k256, rfl, h254, h257⟩ := h260
 have hw := hw.call h259
 have hw := hw.addE (e := SlA p252 rv251.1.Got.length k253 rv251.1.Got) h254
 have hw := hw.addE (e := SlA p255 rv251.1.Lost.length k256 rv251.1.Lost) h257
 refine mv hs rfl rfl fun a hs => ?_
 refine sv hs (y_extract rfl rfl) rfl fun a hs => ?_
 refine sv hs (y_extract rfl rfl) rfl fun a hs => ?_
 refine w_alloc (cs := [.slice none ([] : List Span).length 0, .slice none ([] : List Span).length 0]) hs hw Try.zeroValue29 rfl rfl trivial ?_
 intro b263 a w hs hw
 refine w_store (m := 2) (cs' := [.slice p252 rv251.1.Got.length k253, .slice p255 rv251.1.Lost.length k256]) hs hw 0 rfl rfl rfl Try.sizeOf29 rfl rfl rfl rfl trivial ?_
 intro a w hs hw
 refine av hs rfl rfl fun a hs => ?_
 refine nl ?_
 refine sr ?_
 refine mv hs rfl rfl fun a hs => ?_
 refine sv hs (y_eql rfl rfl) rfl fun a hs => ?_
 refine mv hs rfl rfl fun a hs => ?_
 refine wpl_join 3 (fun a w1 => w = w1 ∧ Sl 59 [(1, .pointer (some ⟨b14, 0, none⟩)), (5, .slice p241 rv240.1.length k242), (6, .pointer (some ⟨b263, 0, none⟩)), (40, .bool ((rv240.2 == 0) && (rv251.2 == 0)))] a) ?_ ?_
 ·rcases Bool.eq_false_or_eq_true (rv240.2 == 0) with h264 | h264
  ·have hs := hs.fix 37 (.bool true) rfl (vb h264)
   refine st_val hs (y_move rfl) ⟨_, rfl, rfl⟩ rfl rfl fun a hs => ?_
   refine st_val hs (y_eql rfl rfl) ⟨_, rfl, rfl⟩ rfl rfl fun a hs => ?_
   refine sv hs (y_pickT rfl rfl) rfl fun a hs => ?_
   refine nl ?_
   exact ⟨rfl, (hs.fix 40 (.bool ((rv240.2 == 0) && (rv251.2 == 0))) rfl (and_t h264)).weaken _ ⟨rfl, rfl, rfl, rfl, trivial⟩⟩
  have hs := hs.fix 37 (.bool false) rfl (vb h264)
  refine st_skip hs rfl rfl rfl rfl rfl fun a hs => ?_
  refine st_skip hs rfl rfl rfl rfl rfl fun a hs => ?_
  refine sv hs (y_pickF rfl rfl) rfl fun a hs => ?_
  refine nl ?_
  exact ⟨rfl, (hs.fix 40 (.bool ((rv240.2 == 0) && (rv251.2 == 0))) rfl (and_f h264)).weaken _ ⟨rfl, rfl, rfl, rfl, trivial⟩⟩
 rintro a w1 ⟨h324, hs⟩
 subst h324
 refine mv hs rfl rfl fun a hs => ?_
 obtain ⟨c275, hc275, hsh⟩ := bind_t hsh
 refine wpl_join 5 (fun a w => ∃ (Sv276 : Nat → Prop), Sl 59 [(1, .pointer (some ⟨b14, 0, none⟩)), (6, .pointer (some ⟨b263, 0, none⟩)), (46, .bool c275)] a ∧ Wd ⟨w0, S0, []⟩ Sv276 [.box b14 [.slice p156 sv102.1.length k157, .slice p158 sv102.2.1.length k159] 29, .box b263 [.slice p252 rv251.1.Got.length k253, .slice p255 rv251.1.Lost.length k256] 29] [SlA p156 sv102.1.length k157 sv102.1, SlA p158 sv102.2.1.length k159 sv102.2.1, SlA p252 rv251.1.Got.length k253 rv251.1.Got, SlA p255 rv251.1.Lost.length k256 rv251.1.Lost] w) ?_ ?_
 ·rcases Bool.eq_false_or_eq_true ((rv240.2 == 0) && (rv251.2 == 0)) with h274 | h274
  ·have hs := hs.fix 41 (.bool true) rfl (vb h274)
   have hsh := ite_t hc275 h274
   refine st_val hs (y_move rfl) ⟨_, rfl, rfl⟩ rfl rfl fun a hs => ?_
   refine st_val hs (y_build (vs := [(0, .int .i64 2), (1, .int .i64 4)]) Bld46 rfl rfl) ⟨_, rfl, rfl⟩ rfl rfl fun a hs => ?_
   refine w_litSlice (α := Span) (vs := [.agg #[.int .i64 2, .int .i64 4]]) (cs := [.int .i64 2, .int .i64 4]) (xs := ([(⟨2, 4⟩ : Span)] : List Span)) hs hw El27 rfl rfl rfl rfl rfl rfl ⟨⟨_, _, rfl, rfl, rfl⟩, rfl⟩ rfl ⟨_, rfl, rfl⟩ rfl fun b278 a w hs hw => ?_
   obtain ⟨rv280, h279, hsh⟩ := bind_t hsh
   refine st_callR hs (ref08_Same_ok h279 hw.bdom (hw.bRow 2 rfl 3 rfl) (hw.bRow 0 rfl 0 rfl)) (do_call Try.call24 rfl) ⟨_, rfl, rfl⟩ rfl rfl ?_
   intro v284 Sv281 w a h282 h283 hs
   subst h283
   have hw := hw.callB h282
   refine sv hs (y_pickT rfl rfl) rfl fun a hs => ?_
   refine wpList_nil ?_
   have hsh := oi hsh
   subst hsh
   refine then_normal ?_
   exact ⟨Sv258, (hs.wk rfl), (hw.ft [3, 1] [4, 5, 2, 1] (by decide) rfl rfl)⟩
  have hs := hs.fix 41 (.bool false) rfl (vb h274)
  have hsh := ite_f hc275 h274
  refine st_skip hs rfl rfl rfl rfl rfl fun a hs => ?_
  refine st_skip hs rfl rfl rfl rfl rfl fun a hs => ?_
  refine st_skip hs rfl rfl rfl rfl rfl fun a hs => ?_
  refine st_skip hs rfl rfl rfl rfl rfl fun a hs => ?_
  refine sv hs (y_pickF rfl rfl) rfl fun a hs => ?_
  refine wpList_nil ?_
  have hsh := oi hsh
  subst hsh
  refine then_normal ?_
  exact ⟨Sv258, (hs.wk rfl), (hw.ft [2, 0] [3, 4, 1, 0] (by decide) rfl rfl)⟩
 rintro a w ⟨Sv276, hs, hw⟩
 refine mv hs rfl rfl fun a hs => ?_
 obtain ⟨c294, hc294, hsh⟩ := bind_t hsh
 refine wpl_join 4 (fun a w => ∃ (Sv295 : Nat → Prop), Sl 59 [(6, .pointer (some ⟨b263, 0, none⟩)), (51, .bool c294)] a ∧ Wd ⟨w0, S0, []⟩ Sv295 [.box b263 [.slice p252 rv251.1.Got.length k253, .slice p255 rv251.1.Lost.length k256] 29] [SlA p252 rv251.1.Got.length k253 rv251.1.Got, SlA p255 rv251.1.Lost.length k256 rv251.1.Lost] w) ?_ ?_
 ·rcases Bool.eq_false_or_eq_true c275 with h293 | h293
  ·have hs := hs.fix 47 (.bool true) rfl (vb h293)
   have hsh := ite_t hc294 h293
   refine st_val hs (y_loadBA (hw.ownAt 0 rfl) rfl Try.isAgg29 Try.sizeOf29 rfl rfl) ⟨_, rfl, rfl⟩ rfl rfl fun a hs => ?_
   obtain ⟨rv297, h296, hsh⟩ := bind_t hsh
   refine st_callR hs (receiver_Settled_ok h296 hw.bdom (hw.bE 0 rfl) (hw.bE 1 rfl)) (do_call Try.call19 rfl) ⟨_, rfl, rfl⟩ rfl rfl ?_
   intro v301 Sv298 w a h299 h300 hs
   subst h300
   have hw := hw.callB h299
   refine st_val hs (y_eql rfl rfl) ⟨_, rfl, rfl⟩ rfl rfl fun a hs => ?_
   refine sv hs (y_pickT rfl rfl) rfl fun a hs => ?_
   refine wpList_nil ?_
   have hsh := oi hsh
   subst hsh
   refine then_normal ?_
   exact ⟨Sv276, (hs.wk rfl), (hw.ft [1] [2, 3] (by decide) rfl rfl)⟩
  have hs := hs.fix 47 (.bool false) rfl (vb h293)
  have hsh := ite_f hc294 h293
  refine st_skip hs rfl rfl rfl rfl rfl fun a hs => ?_
  refine st_skip hs rfl rfl rfl rfl rfl fun a hs => ?_
  refine st_skip hs rfl rfl rfl rfl rfl fun a hs => ?_
  refine sv hs (y_pickF rfl rfl) rfl fun a hs => ?_
  refine wpList_nil ?_
  have hsh := oi hsh
  subst hsh
  refine then_normal ?_
  exact ⟨Sv276, (hs.wk rfl), (hw.ft [1] [2, 3] (by decide) rfl rfl)⟩
 rintro a w ⟨Sv295, hs, hw⟩
 refine mv hs rfl rfl fun a hs => ?_
 obtain ⟨c313, hc313, hsh⟩ := bind_t hsh
 refine wpl_join 6 (fun a w => ∃ (Sv314 : Nat → Prop), Sl 59 [(58, .bool c313)] a ∧ Wd ⟨w0, S0, []⟩ Sv314 [] [] w) ?_ ?_
 ·rcases Bool.eq_false_or_eq_true c294 with h312 | h312
  ·have hs := hs.fix 52 (.bool true) rfl (vb h312)
   have hsh := ite_t hc313 h312
   refine st_val hs (y_fieldAddr (o' := 1) Try.runUnderlying29 rfl Try.sizeOf27 rfl rfl rfl) ⟨_, rfl, rfl⟩ rfl rfl fun a hs => ?_
   refine st_val hs (y_loadB1 (hw.ownAt 0 rfl) rfl Try.isAgg27 rfl) ⟨_, rfl, rfl⟩ rfl rfl fun a hs => ?_
   refine st_val hs (y_build (vs := [(0, .int .i64 2), (1, .int .i64 3)]) Bld46 rfl rfl) ⟨_, rfl, rfl⟩ rfl rfl fun a hs => ?_
   refine w_litSlice (α := Span) (vs := [.agg #[.int .i64 2, .int .i64 3]]) (cs := [.int .i64 2, .int .i64 3]) (xs := ([(⟨2, 3⟩ : Span)] : List Span)) hs hw El27 rfl rfl rfl rfl rfl rfl ⟨⟨_, _, rfl, rfl, rfl⟩, rfl⟩ rfl ⟨_, rfl, rfl⟩ rfl fun b316 a w hs hw => ?_
   obtain ⟨rv318, h317, hsh⟩ := bind_t hsh
   refine st_callR hs (ref08_Same_ok h317 hw.bdom (hw.bE 2 rfl) (hw.bRow 0 rfl 0 rfl)) (do_call Try.call24 rfl) ⟨_, rfl, rfl⟩ rfl rfl ?_
   intro v322 Sv319 w a h320 h321 hs
   subst h321
   have hw := hw.callB h320
   refine sv hs (y_pickT rfl rfl) rfl fun a hs => ?_
   refine wpList_nil ?_
   have hsh := oi hsh
   subst hsh
   refine then_normal ?_
   exact ⟨Sv295, (hs.wk rfl), (hw.ft [] [] (by decide) rfl rfl)⟩
  have hs := hs.fix 52 (.bool false) rfl (vb h312)
  have hsh := ite_f hc313 h312
  refine st_skip hs rfl rfl rfl rfl rfl fun a hs => ?_
  refine st_skip hs rfl rfl rfl rfl rfl fun a hs => ?_
  refine st_skip hs rfl rfl rfl rfl rfl fun a hs => ?_
  refine st_skip hs rfl rfl rfl rfl rfl fun a hs => ?_
  refine st_skip hs rfl rfl rfl rfl rfl fun a hs => ?_
  refine sv hs (y_pickF rfl rfl) rfl fun a hs => ?_
  refine wpList_nil ?_
  have hsh := oi hsh
  subst hsh
  refine then_normal ?_
  exact ⟨Sv295, (hs.wk rfl), (hw.ft [] [] (by decide) rfl rfl)⟩
 rintro a w ⟨Sv314, hs, hw⟩
 refine av hs rfl rfl fun a hs => ?_
 refine nl ?_
 have hsh := oi hsh
 subst hsh
 refine wp_ret ?_
 exact ret1 hs rfl (rv_tmp rfl) (hw.ret rfl)

abbrev made_Roll_rd (w0 : World) (X : List Nat) (r : Dice) : (Nat → Prop) → World → Value → Prop := fun S w v => ∃ (b_0 : Nat) (p0_0 : Option Addr) (k0_0 : Nat), v = .pointer (some ⟨b_0, 0, none⟩) ∧ Outs X w0 S w [.box b_0 [.slice p0_0 r.L.length k0_0, .int .i64 r.At] 57] ∧ (SlA p0_0 r.L.length k0_0 r.L).p S w
set_option maxHeartbeats 4000000 in
set_option maxRecDepth 100000 in
theorem made_Roll_ok {w0 : World} {S0 : Nat → Prop} {p2 : Option Addr} {k3 : Nat} {l1 : (List Int)} {r : Dice} (hsh : made_Roll l1 = some r) (hS : ∀ b, S0 b → b < w0.heap.size) (h4 : (SlA p2 l1.length k3 l1).p S0 w0) : Calls Try.prog 9 #[.slice p2 l1.length k3] w0 (Ret ([]) w0 S0 (made_Roll_rd w0 ([]) r)) := by
 refine calls_of_wp Try.func9 rfl ?_
 have hs := Sl.enter #[.slice p2 l1.length k3] 6 [(0, .slice p2 l1.length k3)] rfl ⟨rfl, trivial⟩
 have hw := Wd.enter (E := []) hS (fun _ h => (by cases h))
 have hw := hw.addE h4
 delta made_Roll at hsh
 refine sr ?_
 refine av hs rfl rfl fun a hs => ?_
 refine nl ?_
 refine sr ?_
 refine mv hs rfl rfl fun a hs => ?_
 refine sv hs (y_build (vs := [(0, .slice p2 l1.length k3)]) Bld57 rfl rfl) rfl fun a hs => ?_
 refine w_box (cs := [.slice p2 l1.length k3, .int .i64 0]) hs hw rfl rfl rfl trivial ?_
 intro b5 a w hs hw
 refine av hs rfl rfl fun a hs => ?_
 refine nl ?_
 have hsh := oi hsh
 subst hsh
 refine wp_ret ?_
 exact ret1 hs rfl (rv_tmp rfl) (hw.ret ⟨b5, p2, k3, rfl, (hw.outs [0] (by decide) rfl), (hw.envAt 0 rfl)⟩)

abbrev made_Dice_Next_rd (w0 : World) (X : List Nat) (b2 : Nat) (r : (Int × Dice)) : (Nat → Prop) → World → Value → Prop := fun S w v => ∃ (pq0_0 : Option Addr) (kq0_0 : Nat), v = .int .i64 r.1 ∧ Outs X w0 S w [.box b2 [.slice pq0_0 r.2.L.length kq0_0, .int .i64 r.2.At] 57] ∧ (SlA pq0_0 r.2.L.length kq0_0 r.2.L).p S w
set_option maxHeartbeats 4000000 in
set_option maxRecDepth 100000 in
theorem made_Dice_Next_ok {w0 : World} {S0 : Nat → Prop} {b2 : Nat} {p3 : Option Addr} {k4 : Nat} {d1 : Dice} {n6 : Int} {r : (Int × Dice)} (hsh : made_Dice_Next d1 n6 = some r) (hS : ∀ b, S0 b → b < w0.heap.size) (hin : Ins S0 w0 [.box b2 [.slice p3 d1.L.length k4, .int .i64 d1.At] 57]) (h5 : (SlA p3 d1.L.length k4 d1.L).p S0 w0) : Calls Try.prog 11 #[.pointer (some ⟨b2, 0, none⟩), .int .i64 n6] w0 (Ret (blks [.box b2 [.slice p3 d1.L.length k4, .int .i64 d1.At] 57]) w0 S0 (made_Dice_Next_rd w0 (blks [.box b2 [.slice p3 d1.L.length k4, .int .i64 d1.At] 57]) b2 r)) := by
 refine calls_of_wp Try.func11 rfl ?_
 have hs := Sl.enter #[.pointer (some ⟨b2, 0, none⟩), .int .i64 n6] 45 [(0, .pointer (some ⟨b2, 0, none⟩)), (1, .int .i64 n6)] rfl ⟨rfl, rfl, trivial⟩
 have hw := Wd.enterI hS hin
 have hw := hw.addE h5
 delta made_Dice_Next at hsh
 refine sr ?_
 refine av hs rfl rfl fun a hs => ?_
 refine nl ?_
 refine wp_seq ?_
 refine wp_seq ?_
 refine wp_only (fun a w => ∃ (Sv7 : Nat → Prop), Sl 45 [(0, .pointer (some ⟨b2, 0, none⟩)), (1, .int .i64 n6), (19, .bool ((decide ((d1.L.length : Int) ≤ d1.At)) || (decide (n6 < 1))))] a ∧ Wd ⟨w0, S0, blks [.box b2 [.slice p3 d1.L.length k4, .int .i64 d1.At] 57]⟩ Sv7 [.box b2 [.slice p3 d1.L.length k4, .int .i64 d1.At] 57] [SlA p3 d1.L.length k4 d1.L] w) ?_ ?_
 ·rcases Bool.eq_false_or_eq_true (decide ((d1.L.length : Int) ≤ d1.At)) with h8 | h8
  ·refine h_b (C := Cls [.box b2 [.slice p3 d1.L.length k4, .int .i64 d1.At] 57] []) (by kernel_rfl) rfl (hw.drew.cs [0] [] rfl rfl) fun hC => ?_
   have hw := hw.drew
   refine gm hs 0 rfl rfl rfl hC fun a hs => ?_
   refine gv hs 1 rfl rfl hC (fun w hC => y_nilCheck rfl) fun a hs => ?_
   refine gv hs 2 rfl rfl hC (fun w hC => y_fieldAddr (o' := 1) Try.runUnderlying57 rfl Try.sizeOf3 rfl rfl rfl) fun a hs => ?_
   refine gv hs 3 rfl rfl hC (fun w hC => y_loadB1 (hC.ownAt 0 rfl) rfl Try.isAgg3 rfl) fun a hs => ?_
   refine gm hs 4 rfl rfl rfl hC fun a hs => ?_
   refine gv hs 5 rfl rfl hC (fun w hC => y_nilCheck rfl) fun a hs => ?_
   refine gv hs 6 rfl rfl hC (fun w hC => y_fieldAddr (o' := 0) Try.runUnderlying57 rfl Try.sizeOf22 rfl rfl rfl) fun a hs => ?_
   refine gv hs 7 rfl rfl hC (fun w hC => y_loadB1 (hC.ownAt 0 rfl) rfl Try.isAgg22 rfl) fun a hs => ?_
   refine gv hs 8 rfl rfl hC (fun w hC => y_len Try.runUnderlying22 rfl) fun a hs => ?_
   refine gv hs 9 rfl rfl hC (fun w hC => y_geq rfl rfl) fun a hs => ?_
   refine gm hs 10 rfl rfl rfl hC fun a hs => ?_
   have hs := hs.fix 16 (.bool true) rfl (vb h8)
   refine gs hs 11 rfl rfl rfl rfl hC fun a hs => ?_
   refine gs hs 12 rfl rfl rfl rfl hC fun a hs => ?_
   refine gv hs 13 rfl rfl hC (fun w hC => y_pickTE (v := .bool ((decide ((d1.L.length : Int) ≤ d1.At)) || (decide (n6 < 1)))) rfl rfl (or_t h8)) fun a hs => ?_
   refine h_done (by kernel_rfl) ?_
   exact ⟨S0, (hs.wk rfl), (hw.ft [0] [0] (by decide) rfl rfl)⟩
  refine h_b (C := Cls [.box b2 [.slice p3 d1.L.length k4, .int .i64 d1.At] 57] []) (by kernel_rfl) rfl (hw.drew.cs [0] [] rfl rfl) fun hC => ?_
  have hw := hw.drew
  refine gm hs 0 rfl rfl rfl hC fun a hs => ?_
  refine gv hs 1 rfl rfl hC (fun w hC => y_nilCheck rfl) fun a hs => ?_
  refine gv hs 2 rfl rfl hC (fun w hC => y_fieldAddr (o' := 1) Try.runUnderlying57 rfl Try.sizeOf3 rfl rfl rfl) fun a hs => ?_
  refine gv hs 3 rfl rfl hC (fun w hC => y_loadB1 (hC.ownAt 0 rfl) rfl Try.isAgg3 rfl) fun a hs => ?_
  refine gm hs 4 rfl rfl rfl hC fun a hs => ?_
  refine gv hs 5 rfl rfl hC (fun w hC => y_nilCheck rfl) fun a hs => ?_
  refine gv hs 6 rfl rfl hC (fun w hC => y_fieldAddr (o' := 0) Try.runUnderlying57 rfl Try.sizeOf22 rfl rfl rfl) fun a hs => ?_
  refine gv hs 7 rfl rfl hC (fun w hC => y_loadB1 (hC.ownAt 0 rfl) rfl Try.isAgg22 rfl) fun a hs => ?_
  refine gv hs 8 rfl rfl hC (fun w hC => y_len Try.runUnderlying22 rfl) fun a hs => ?_
  refine gv hs 9 rfl rfl hC (fun w hC => y_geq rfl rfl) fun a hs => ?_
  refine gm hs 10 rfl rfl rfl hC fun a hs => ?_
  have hs := hs.fix 16 (.bool false) rfl (vb h8)
  refine gt hs 11 rfl ⟨_, rfl, rfl⟩ rfl hC (fun w hC => y_move rfl) fun a hs => ?_
  refine gt hs 12 rfl ⟨_, rfl, rfl⟩ rfl hC (fun w hC => y_lss rfl rfl) fun a hs => ?_
  refine gv hs 13 rfl rfl hC (fun w hC => y_pickFE (v := .bool ((decide ((d1.L.length : Int) ≤ d1.At)) || (decide (n6 < 1)))) rfl rfl (or_f h8)) fun a hs => ?_
  refine h_done (by kernel_rfl) ?_
  exact ⟨S0, (hs.wk rfl), (hw.ft [0] [0] (by decide) rfl rfl)⟩
 rintro a w ⟨Sv7, hs, hw⟩
 refine then_normal ?_
 refine wp_cond_split (hs.ev rfl) (fun h12 => ?_) (fun h12 => ?_)
 ·have hsh := ite_t hsh h12
  refine sr ?_
  refine av hs rfl rfl fun a hs => ?_
  refine nl ?_
  have hsh := oi hsh
  subst hsh
  refine wp_ret ?_
  refine then_ret ?_
  exact ret1 hs rfl (rv_tmp rfl) (hw.ret ⟨p3, k4, rfl, (hw.outs [0] (by decide) rfl), (hw.envAt 0 rfl)⟩)
 have hsh := ite_f hsh h12
 refine wp_skip ?_
 refine then_normal ?_
 refine wp_seq ?_
 obtain ⟨x15, h13, hsh⟩ := bind_t hsh
 obtain ⟨b21, o22, q19, c20, h23, h16, h17, h18, h14⟩ := hw.elemV 0 rfl h13
 have hsv24 := hs
 have hwv25 := hw
 subst h23
 have hs := hsv24
 have hw := hwv25
 obtain ⟨_, rfl, rfl⟩ := h14
 have hw := hw.addE h18
 obtain ⟨rem27, h26, hsh⟩ := bind_t hsh
 refine wp_only (fun a w => ∃ (Sv28 : Nat → Prop), Sl 45 [(0, .pointer (some ⟨b2, 0, none⟩)), (1, .int .i64 n6), (5, .int .i64 rem27)] a ∧ Wd ⟨w0, S0, blks [.box b2 [.slice (some ⟨b21, o22, none⟩) d1.L.length k4, .int .i64 d1.At] 57]⟩ Sv28 [.box b2 [.slice (some ⟨b21, o22, none⟩) d1.L.length k4, .int .i64 d1.At] 57] [SlA (some ⟨b21, o22, none⟩) d1.L.length k4 d1.L] w) ?_ ?_
 ·refine h_b (C := Cls [.box b2 [.slice (some ⟨b21, o22, none⟩) d1.L.length k4, .int .i64 d1.At] 57] [CeA b21 q19 [.int .i64 x15]]) (by kernel_rfl) rfl (hw.drew.cs [0] [0] rfl rfl) fun hC => ?_
  have hw := hw.drew
  refine gm hs 0 rfl rfl rfl hC fun a hs => ?_
  refine gv hs 1 rfl rfl hC (fun w hC => y_nilCheck rfl) fun a hs => ?_
  refine gv hs 2 rfl rfl hC (fun w hC => y_fieldAddr (o' := 0) Try.runUnderlying57 rfl Try.sizeOf22 rfl rfl rfl) fun a hs => ?_
  refine gv hs 3 rfl rfl hC (fun w hC => y_loadB1 (hC.ownAt 0 rfl) rfl Try.isAgg22 rfl) fun a hs => ?_
  refine gm hs 4 rfl rfl rfl hC fun a hs => ?_
  refine gv hs 5 rfl rfl hC (fun w hC => y_nilCheck rfl) fun a hs => ?_
  refine gv hs 6 rfl rfl hC (fun w hC => y_fieldAddr (o' := 1) Try.runUnderlying57 rfl Try.sizeOf3 rfl rfl rfl) fun a hs => ?_
  refine gv hs 7 rfl rfl hC (fun w hC => y_loadB1 (hC.ownAt 0 rfl) rfl Try.isAgg3 rfl) fun a hs => ?_
  refine gv hs 8 rfl rfl hC (fun w hC => y_indexAt Try.runUnderlying22 Try.sizeOf3 rfl rfl h16.1 h16.2 h17) fun a hs => ?_
  refine gv hs 9 rfl rfl hC (fun w hC => y_loadE1 (j := 0) (hC.ceAt 0 rfl) rfl Try.isAgg3 rfl) fun a hs => ?_
  refine gm hs 10 rfl rfl rfl hC fun a hs => ?_
  refine gv hs 11 rfl rfl hC (fun w hC => y_remM rfl rfl h26) fun a hs => ?_
  refine gv hs 12 rfl rfl hC (fun w hC => y_assign rfl) fun a hs => ?_
  refine h_done (by kernel_rfl) ?_
  exact ⟨Sv7, (hs.wk rfl), (hw.ft [0] [1] (by decide) rfl rfl)⟩
 rintro a w ⟨Sv28, hs, hw⟩
 refine then_normal ?_
 refine sr ?_
 refine mv hs rfl rfl fun a hs => ?_
 refine sv hs (y_nilCheck rfl) rfl fun a hs => ?_
 refine sv hs (y_fieldAddr (o' := 1) Try.runUnderlying57 rfl Try.sizeOf3 rfl rfl rfl) rfl fun a hs => ?_
 refine sv hs (y_loadB1 (hw.ownAt 0 rfl) rfl Try.isAgg3 rfl) rfl fun a hs => ?_
 refine sv hs (y_add rfl rfl) rfl fun a hs => ?_
 refine sv hs (y_nilCheck rfl) rfl fun a hs => ?_
 refine sv hs (y_fieldAddr (o' := 1) Try.runUnderlying57 rfl Try.sizeOf3 rfl rfl rfl) rfl fun a hs => ?_
 refine w_store (m := 1) (cs' := [.slice (some ⟨b21, o22, none⟩) d1.L.length k4, .int .i64 (w64 (d1.At + 1))]) hs hw 0 rfl rfl rfl Try.sizeOf3 rfl rfl rfl rfl trivial ?_
 intro a w hs hw
 refine nl ?_
 refine wp_seq ?_
 refine sr ?_
 refine mv hs rfl rfl fun a hs => ?_
 refine sv hs (y_lss rfl rfl) rfl fun a hs => ?_
 refine nl ?_
 refine wp_join (fun a w => ∃ (x33 : Int) (Sv32 : Nat → Prop), made_Dice_Next_j1 d1 x33 = some r ∧ Sl 45 [(5, .int .i64 x33)] a ∧ Wd ⟨w0, S0, blks [.box b2 [.slice (some ⟨b21, o22, none⟩) d1.L.length k4, .int .i64 d1.At] 57]⟩ Sv32 [.box b2 [.slice (some ⟨b21, o22, none⟩) d1.L.length k4, .int .i64 (w64 (d1.At + 1))] 57] [SlA (some ⟨b21, o22, none⟩) d1.L.length k4 d1.L] w) ?_ ?_
 ·refine wp_cond_split (hs.ev rfl) (fun h34 => ?_) (fun h34 => ?_)
  ·have hsh := ite_t hsh h34
   refine wp_region_lit ?_
   refine mv hs rfl rfl fun a hs => ?_
   refine mv hs rfl rfl fun a hs => ?_
   refine sv hs (y_add rfl rfl) rfl fun a hs => ?_
   obtain ⟨x36, h35, hsh⟩ := bind_t hsh
   refine sv hs (y_assignI rfl h35) rfl fun a hs => ?_
   refine nl ?_
   exact ⟨x36, Sv28, hsh, (hs.wk rfl), (hw.ft [0] [0] (by decide) rfl rfl)⟩
  have hsh := ite_f hsh h34
  refine wp_skip ?_
  refine then_normal ?_
  exact ⟨rem27, Sv28, hsh, (hs.wk rfl), (hw.ft [0] [0] (by decide) rfl rfl)⟩
 rintro a w ⟨x33, Sv32, hsh, hs, hw⟩
 delta made_Dice_Next_j1 at hsh
 refine then_normal ?_
 refine sr ?_
 refine mv hs rfl rfl fun a hs => ?_
 refine av hs rfl rfl fun a hs => ?_
 refine nl ?_
 have hsh := oi hsh
 subst hsh
 refine wp_ret ?_
 exact ret1 hs rfl (rv_tmp rfl) (hw.ret ⟨(some ⟨b21, o22, none⟩), k4, rfl, (hw.outs [0] (by decide) rfl), (hw.envAt 0 rfl)⟩)

abbrev ref08_Has_rd (w0 : World) (X : List Nat) (r : Bool) : (Nat → Prop) → World → Value → Prop := fun S w v => v = .bool r
set_option maxHeartbeats 4000000 in
set_option maxRecDepth 100000 in
theorem ref08_Has_ok {w0 : World} {S0 : Nat → Prop} {p2 : Option Addr} {k3 : Nat} {l1 : (List Span)} {x5 : Int} {r : Bool} (hsh : ref08_Has l1 x5 = some r) (hS : ∀ b, S0 b → b < w0.heap.size) (h4 : (SlA p2 l1.length k3 l1).p S0 w0) : Calls Try.prog 14 #[.slice p2 l1.length k3, .int .i64 x5] w0 (Ret ([]) w0 S0 (ref08_Has_rd w0 ([]) r)) := by
 refine calls_of_wp Try.func14 rfl ?_
 have hs := Sl.enter #[.slice p2 l1.length k3, .int .i64 x5] 28 [(0, .slice p2 l1.length k3), (1, .int .i64 x5)] rfl ⟨rfl, rfl, trivial⟩
 have hw := Wd.enter (E := []) hS (fun _ h => (by cases h))
 have hw := hw.addE h4
 delta ref08_Has at hsh
 refine sr ?_
 refine av hs rfl rfl fun a hs => ?_
 refine nl ?_
 refine wp_seq ?_
 refine sr ?_
 refine av hs rfl rfl fun a hs => ?_
 refine nl ?_
 refine wp_block ?_
 refine wp_while (fun sv119 a w => ∃ (Sv193 : Nat → Prop), Sl 28 [(0, .slice p2 l1.length k3), (1, .int .i64 x5), (5, .int .i64 sv119)] a ∧ Wd ⟨w0, S0, []⟩ Sv193 [] [SlA p2 l1.length k3 l1] w) 0 hsh ⟨S0, (hs.wk rfl), (hw.ft [] [0] (by decide) rfl rfl)⟩ ?_
 repeat clear hsh
 rintro sv119 a w tv231 ⟨Sv193, hs, hw⟩ hsh hd230
 delta ref08_Has_l2 at hsh
 refine wp_seq ?_
 refine sr ?_
 refine mv hs rfl rfl fun a hs => ?_
 refine mv hs rfl rfl fun a hs => ?_
 refine sv hs (y_len Try.runUnderlying27 rfl) rfl fun a hs => ?_
 refine sv hs (y_lss rfl rfl) rfl fun a hs => ?_
 refine nl ?_
 refine wp_cond_split (hs.ev rfl) (fun h235 => ?_) (fun h235 => ?_)
 ·have hsh := ite_t hsh h235
  refine wp_skip ?_
  refine then_normal ?_
  refine wp_seq ?_
  refine wp_block ?_
  refine sr ?_
  refine mv hs rfl rfl fun a hs => ?_
  refine mv hs rfl rfl fun a hs => ?_
  obtain ⟨x271, h269, hsh⟩ := bind_t hsh
  obtain ⟨b277, o278, q275, c276, h279, h272, h273, h274, h270⟩ := hw.elemV 0 rfl h269
  have hsv280 := hs
  have hwv281 := hw
  subst h279
  have hs := hsv280
  have hw := hwv281
  obtain ⟨_, _, rfl, rfl, rfl⟩ := h270
  have hw := hw.addE h274
  refine sv hs (y_indexAt Try.runUnderlying27 Try.sizeOf46 rfl rfl h272.1 h272.2 h273) rfl fun a hs => ?_
  refine sv hs (y_fieldAddr (o' := q275 + 0) Try.runUnderlying46 rfl Try.sizeOf3 rfl rfl rfl) rfl fun a hs => ?_
  refine sv hs (y_loadE1 (j := 0) (hw.ceAt 0 rfl) rfl Try.isAgg3 rfl) rfl fun a hs => ?_
  refine mv hs rfl rfl fun a hs => ?_
  refine sv hs (y_leq rfl rfl) rfl fun a hs => ?_
  refine mv hs rfl rfl fun a hs => ?_
  obtain ⟨c291, hc291, hsh⟩ := bind_t hsh
  refine wpl_join 8 (fun a w => ∃ (Sv292 : Nat → Prop), Sl 28 [(0, .slice (some ⟨b277, o278, none⟩) l1.length k3), (1, .int .i64 x5), (5, .int .i64 sv119), (27, .bool c291)] a ∧ Wd ⟨w0, S0, []⟩ Sv292 [] [SlA (some ⟨b277, o278, none⟩) l1.length k3 l1] w) ?_ ?_
  ·rcases Bool.eq_false_or_eq_true (decide (x271.From ≤ x5)) with h290 | h290
   ·have hs := hs.fix 19 (.bool true) rfl (vb h290)
    have hsh := ite_t hc291 h290
    refine st_val hs (y_move rfl) ⟨_, rfl, rfl⟩ rfl rfl fun a hs => ?_
    refine st_val hs (y_move rfl) ⟨_, rfl, rfl⟩ rfl rfl fun a hs => ?_
    refine st_val hs (y_move rfl) ⟨_, rfl, rfl⟩ rfl rfl fun a hs => ?_
    obtain ⟨x295, h293, hsh⟩ := bind_t hsh
    obtain ⟨q299, c300, h296, h297, h298, h294⟩ := hw.elemK 1 rfl h293
    obtain ⟨_, _, rfl, rfl, rfl⟩ := h294
    have hw := hw.addE h298
    refine st_val hs (y_indexAt Try.runUnderlying27 Try.sizeOf46 rfl rfl h296.1 h296.2 h297) ⟨_, rfl, rfl⟩ rfl rfl fun a hs => ?_
    refine st_val hs (y_fieldAddr (o' := q299 + 1) Try.runUnderlying46 rfl Try.sizeOf3 rfl rfl rfl) ⟨_, rfl, rfl⟩ rfl rfl fun a hs => ?_
    refine st_val hs (y_loadE1 (j := 1) (hw.ceAt 0 rfl) rfl Try.isAgg3 rfl) ⟨_, rfl, rfl⟩ rfl rfl fun a hs => ?_
    refine st_val hs (y_lss rfl rfl) ⟨_, rfl, rfl⟩ rfl rfl fun a hs => ?_
    refine sv hs (y_pickT rfl rfl) rfl fun a hs => ?_
    refine wpList_nil ?_
    have hsh := oi hsh
    subst hsh
    refine then_normal ?_
    exact ⟨Sv193, (hs.wk rfl), (hw.ft [] [2] (by decide) rfl rfl)⟩
   have hs := hs.fix 19 (.bool false) rfl (vb h290)
   have hsh := ite_f hc291 h290
   refine st_skip hs rfl rfl rfl rfl rfl fun a hs => ?_
   refine st_skip hs rfl rfl rfl rfl rfl fun a hs => ?_
   refine st_skip hs rfl rfl rfl rfl rfl fun a hs => ?_
   refine st_skip hs rfl rfl rfl rfl rfl fun a hs => ?_
   refine st_skip hs rfl rfl rfl rfl rfl fun a hs => ?_
   refine st_skip hs rfl rfl rfl rfl rfl fun a hs => ?_
   refine st_skip hs rfl rfl rfl rfl rfl fun a hs => ?_
   refine sv hs (y_pickF rfl rfl) rfl fun a hs => ?_
   refine wpList_nil ?_
   have hsh := oi hsh
   subst hsh
   refine then_normal ?_
   exact ⟨Sv193, (hs.wk rfl), (hw.ft [] [1] (by decide) rfl rfl)⟩
  rintro a w ⟨Sv292, hs, hw⟩
  refine nl ?_
  refine wp_cond_split (hs.ev rfl) (fun h302 => ?_) (fun h302 => ?_)
  ·have hsh := ite_t hsh h302
   refine sr ?_
   refine av hs rfl rfl fun a hs => ?_
   refine nl ?_
   have hsh := oi hsh
   subst hsh
   have h303 := hd230 _ rfl
   subst h303
   refine wp_ret ?_
   refine blk_ret ?_
   refine then_ret ?_
   refine then_ret ?_
   refine blk_ret ?_
   refine then_ret ?_
   exact ret1 hs rfl (rv_tmp rfl) (hw.ret rfl)
  have hsh := ite_f hsh h302
  refine wp_skip ?_
  refine blk_normal ?_
  refine then_normal ?_
  refine wp_region_lit ?_
  refine mv hs rfl rfl fun a hs => ?_
  refine sv hs (y_add rfl rfl) rfl fun a hs => ?_
  obtain ⟨i305, h304, hsh⟩ := bind_t hsh
  refine sv hs (y_assignI rfl h304) rfl fun a hs => ?_
  refine nl ?_
  exact ⟨_, (Option.some.inj hsh).symm, Sv292, (hs.wk rfl), (hw.ft [] [0] (by decide) rfl rfl)⟩
 have hsh := ite_f hsh h235
 obtain ⟨rv306, hsh, h307⟩ := map_t hsh
 have h307 := (hd230 _ h307.symm).symm
 subst h307
 refine wp_exit ?_
 refine then_exit ?_
 refine then_exit ?_
 refine blk_exit ?_
 refine then_normal ?_
 refine sr ?_
 refine av hs rfl rfl fun a hs => ?_
 refine nl ?_
 have hsh := oi hsh
 subst hsh
 refine wp_ret ?_
 exact ret1 hs rfl (rv_tmp rfl) (hw.ret rfl)

abbrev law11_ReceiverOnce_rd (w0 : World) (X : List Nat) (r : Bool) : (Nat → Prop) → World → Value → Prop := fun S w v => v = .bool r
set_option maxHeartbeats 4000000 in
set_option maxRecDepth 100000 in
theorem law11_ReceiverOnce_ok {w0 : World} {S0 : Nat → Prop} {p2 : Option Addr} {k3 : Nat} {t1 : (List Int)} {r : Bool} (hsh : law11_ReceiverOnce t1 = some r) (hS : ∀ b, S0 b → b < w0.heap.size) (h4 : (SlA p2 t1.length k3 t1).p S0 w0) : Calls Try.prog 3 #[.slice p2 t1.length k3] w0 (Ret ([]) w0 S0 (law11_ReceiverOnce_rd w0 ([]) r)) := by
 refine calls_of_wp Try.func3 rfl ?_
 have hs := Sl.enter #[.slice p2 t1.length k3] 91 [(0, .slice p2 t1.length k3)] rfl ⟨rfl, trivial⟩
 have hw := Wd.enter (E := []) hS (fun _ h => (by cases h))
 have hw := hw.addE h4
 delta law11_ReceiverOnce at hsh
 refine sr ?_
 refine av hs rfl rfl fun a hs => ?_
 refine nl ?_
 refine wp_seq ?_
 refine sr ?_
 refine mv hs rfl rfl fun a hs => ?_
 obtain ⟨rv6, h5, hsh⟩ := bind_t hsh
 refine st_callR hs (made_Light_ok h5 hw.bdom (hw.bE 0 rfl)) (do_call Try.call7 rfl) trivial rfl rfl ?_
 intro v10 Sv7 w a h8 h9 hs
 subst h9
 have hw := hw.callB h8
 refine sv hs (y_not rfl) rfl fun a hs => ?_
 refine nl ?_
 refine wp_cond_split (hs.ev rfl) (fun h20 => ?_) (fun h20 => ?_)
 ·have hsh := ite_t hsh h20
  refine sr ?_
  obtain ⟨rv22, h21, hsh⟩ := bind_t hsh
  refine st_callR hs (law11_sane_ok h21 hw.bdom) (do_call Try.call8 rfl) trivial rfl rfl ?_
  intro v26 Sv23 w a h24 h25 hs
  subst h25
  have hw := hw.callB h24
  refine av hs rfl rfl fun a hs => ?_
  refine nl ?_
  have hsh := oi hsh
  subst hsh
  refine wp_ret ?_
  refine then_ret ?_
  exact ret1 hs rfl (rv_tmp rfl) (hw.ret rfl)
 have hsh := ite_f hsh h20
 refine wp_skip ?_
 refine then_normal ?_
 refine sr ?_
 refine mv hs rfl rfl fun a hs => ?_
 obtain ⟨rv29, h28, hsh⟩ := bind_t hsh
 refine st_callR hs (made_Roll_ok h28 hw.dom (hw.envAt 0 rfl)) (do_call Try.call9 rfl) trivial rfl rfl ?_
 intro v37 Sv34 w a h35 h36 hs
 obtain ⟨b30, p31, k32, rfl, h38, h33⟩ := h36
 have hw := hw.callN h35 h38
 have hw := hw.addE (e := SlA p31 rv29.L.length k32 rv29.L) h33
 refine av hs rfl rfl fun a hs => ?_
 refine nl ?_
 refine sr ?_
 obtain ⟨rv40, h39, hsh⟩ := bind_t hsh
 refine st_callR hs (receiver_New_ok h39 hw.dom) (do_call Try.call10 rfl) trivial rfl rfl ?_
 intro v50 Sv47 w a h48 h49 hs
 obtain ⟨p41, k42, p44, k45, rfl, h43, h46⟩ := h49
 have hw := hw.call h48
 have hw := hw.addE (e := SlA p41 rv40.Got.length k42 rv40.Got) h43
 have hw := hw.addE (e := SlA p44 rv40.Lost.length k45 rv40.Lost) h46
 refine w_alloc (cs := [.slice none ([] : List Span).length 0, .slice none ([] : List Span).length 0]) hs hw Try.zeroValue29 rfl rfl trivial ?_
 intro b52 a w hs hw
 refine w_store (m := 2) (cs' := [.slice p41 rv40.Got.length k42, .slice p44 rv40.Lost.length k45]) hs hw 0 rfl rfl rfl Try.sizeOf29 rfl rfl rfl rfl trivial ?_
 intro a w hs hw
 refine nl ?_
 refine sr ?_
 refine w_makeMap (α := Bool) (kt := 3) (et := 4) (z := false) hs hw rfl trivial ?_
 intro b53 a w hs hw
 refine av hs rfl rfl fun a hs => ?_
 refine nl ?_
 refine wp_seq ?_
 refine sr ?_
 refine av hs rfl rfl fun a hs => ?_
 refine nl ?_
 refine wp_block ?_
 refine wp_while (fun sv455 a w => ∃ (p719 : Option Addr) (k720 : Nat) (p721 : Option Addr) (k722 : Nat) (p723 : Option Addr) (k724 : Nat) (Sv725 : Nat → Prop), Sl 91 [(3, .pointer (some ⟨b30, 0, none⟩)), (4, .pointer (some ⟨b52, 0, none⟩)), (5, .map (some b53)), (6, .int .i64 sv455.2.2.2.2.2)] a ∧ Wd ⟨w0, S0, []⟩ Sv725 [.box b30 [.slice p719 sv455.1.length k720, .int .i64 sv455.2.1] 57, .box b52 [.slice p721 sv455.2.2.1.length k722, .slice p723 sv455.2.2.2.1.length k724] 29, mpR Try.prog 3 4 false b53 sv455.2.2.2.2.1] [SlA p719 sv455.1.length k720 sv455.1, SlA p721 sv455.2.2.1.length k722 sv455.2.2.1, SlA p723 sv455.2.2.2.1.length k724 sv455.2.2.2.1] w) (rv29.L, rv29.At, rv40.Got, rv40.Lost, (⟨0, fun _ => false⟩ : Mp Bool), 0) hsh ⟨p31, k32, p41, k42, p44, k45, Sv47, (hs.wk rfl), (hw.ft [2, 1, 0] [2, 1, 0] (by decide) rfl rfl)⟩ ?_
 repeat clear hsh
 rintro sv455 a w tv855 ⟨p719, k720, p721, k722, p723, k724, Sv725, hs, hw⟩ hsh hd854
 delta law11_ReceiverOnce_l2 at hsh
 refine wp_seq ?_
 refine sr ?_
 refine mv hs rfl rfl fun a hs => ?_
 refine sv hs (y_lss rfl rfl) rfl fun a hs => ?_
 refine nl ?_
 refine wp_cond_split (hs.ev rfl) (fun h859 => ?_) (fun h859 => ?_)
 ·have hsh := ite_t hsh h859
  refine wp_skip ?_
  refine then_normal ?_
  refine wp_seq ?_
  refine wp_join (fun a w => ∃ (x980 : (List Int)) (x981 : Int) (x982 : (List Span)) (x983 : (List Span)) (m984 : (Mp Bool)) (p973 : Option Addr) (k974 : Nat) (p975 : Option Addr) (k976 : Nat) (p977 : Option Addr) (k978 : Nat) (Sv979 : Nat → Prop), law11_ReceiverOnce_j1 sv455 x980 x981 x982 x983 m984 = some tv855 ∧ Sl 91 [(3, .pointer (some ⟨b30, 0, none⟩)), (4, .pointer (some ⟨b52, 0, none⟩)), (5, .map (some b53)), (6, .int .i64 sv455.2.2.2.2.2)] a ∧ Wd ⟨w0, S0, []⟩ Sv979 [.box b30 [.slice p973 x980.length k974, .int .i64 x981] 57, .box b52 [.slice p975 x982.length k976, .slice p977 x983.length k978] 29, mpR Try.prog 3 4 false b53 m984] [SlA p973 x980.length k974 x980, SlA p975 x982.length k976 x982, SlA p977 x983.length k978 x983] w) ?_ ?_
  ·refine wp_block ?_
   refine wp_seq ?_
   refine sr ?_
   refine mv hs rfl rfl fun a hs => ?_
   obtain ⟨rv988, h987, hsh⟩ := bind_t hsh
   refine st_callR hs (made_Dice_Next_ok h987 hw.dom (hw.ins [0] (by decide) rfl) (hw.envAt 0 rfl)) (do_call Try.call11 rfl) trivial rfl rfl ?_
   intro v995 Sv992 w a h993 h994 hs
   obtain ⟨p989, k990, rfl, h996, h991⟩ := h994
   have hw := hw.callO [0] [1, 2] (by decide) rfl h993 h996
   have hw := hw.addE (e := SlA p989 rv988.2.L.length k990 rv988.2.L) h991
   refine sv hs (y_eql rfl rfl) rfl fun a hs => ?_
   refine nl ?_
   refine wp_cond_split (hs.ev rfl) (fun h1014 => ?_) (fun h1014 => ?_)
   ·have hsh := ite_t hsh h1014
    refine wp_seq ?_
    obtain ⟨rv1016, h1015, hsh⟩ := bind_t hsh
    obtain ⟨rv1021, h1020, hsh⟩ := bind_t hsh
    refine wp_only (fun a w => ∃ (Sv1029 : Nat → Prop) (b1028 : Nat) (k1018 : Nat) (k1023 : Nat) (k1026 : Nat) (p1017 : Option Addr) (p1022 : Option Addr) (p1025 : Option Addr), Sl 91 [(3, .pointer (some ⟨b30, 0, none⟩)), (4, .pointer (some ⟨b52, 0, none⟩)), (5, .map (some b53)), (6, .int .i64 sv455.2.2.2.2.2), (7, .pointer (some ⟨b1028, 0, none⟩)), (8, .int .i64 rv1021.2)] a ∧ Wd ⟨w0, S0, []⟩ Sv1029 [.box b30 [.slice p1017 rv1016.2.L.length k1018, .int .i64 rv1016.2.At] 57, .box b52 [.slice p721 sv455.2.2.1.length k722, .slice p723 sv455.2.2.2.1.length k724] 29, mpR Try.prog 3 4 false b53 sv455.2.2.2.2.1, .box b1028 [.slice p1022 rv1021.1.Got.length k1023, .slice p1025 rv1021.1.Lost.length k1026] 29] [SlA p1017 rv1016.2.L.length k1018 rv1016.2.L, SlA p721 sv455.2.2.1.length k722 sv455.2.2.1, SlA p723 sv455.2.2.2.1.length k724 sv455.2.2.2.1, SlA p1022 rv1021.1.Got.length k1023 rv1021.1.Got, SlA p1025 rv1021.1.Lost.length k1026 rv1021.1.Lost] w) ?_ ?_
    ·refine h_b (C := Cls [.box b52 [.slice p721 sv455.2.2.1.length k722, .slice p723 sv455.2.2.2.1.length k724] 29, mpR Try.prog 3 4 false b53 sv455.2.2.2.2.1] []) (by kernel_rfl) rfl (hw.drew.cs [1, 2] [] rfl rfl) fun hC => ?_
     have hw := hw.drew
     refine gv hs 0 rfl rfl hC (fun w hC => y_loadBA (hC.ownAt 0 rfl) rfl Try.isAgg29 Try.sizeOf29 rfl rfl) fun a hs => ?_
     refine gm hs 1 rfl rfl rfl hC fun a hs => ?_
     refine h_all (rs := [2, 7]) (by kernel_rfl) rfl ?_
     refine AllH.cons rfl ?_ ?_
     ·refine st_callR hs (made_Dice_Next_ok h1015 hw.dom (hw.ins [0] (by decide) rfl) (hw.envAt 0 rfl)) (do_call Try.call11 rfl) trivial rfl rfl ?_
      intro v1033 Sv1030 w a h1031 h1032 hs
      obtain ⟨p1017, k1018, rfl, h1034, h1019⟩ := h1032
      have hw := hw.callO [0] [1, 2] (by decide) rfl h1031 h1034
      have hw := hw.addE (e := SlA p1017 rv1016.2.L.length k1018 rv1016.2.L) h1019
      refine h_nx (hw.cs [1, 2] [] rfl rfl) fun hC => ?_
      refine h_all (rs := [3, 7]) (by kernel_rfl) rfl ?_
      refine AllH.cons rfl ?_ ?_
      ·refine st_callR hs (receiver_Lose_ok h1020 hw.dom (hw.envAt 3 rfl) (hw.envAt 4 rfl)) (do_call Try.call12 rfl) trivial rfl rfl ?_
       intro v1038 Sv1035 w a h1036 h1037 hs
       obtain ⟨p1022, k1023, p1025, k1026, rfl, h1024, h1027⟩ := h1037
       have hw := hw.call h1036
       have hw := hw.addE (e := SlA p1022 rv1021.1.Got.length k1023 rv1021.1.Got) h1024
       have hw := hw.addE (e := SlA p1025 rv1021.1.Lost.length k1026 rv1021.1.Lost) h1027
       refine h_nx (hw.cs [1, 2] [] rfl rfl) fun hC => ?_
       refine gm hs 4 rfl rfl rfl hC fun a hs => ?_
       refine gv hs 5 rfl rfl hC (fun w hC => y_extract rfl rfl) fun a hs => ?_
       refine gv hs 6 rfl rfl hC (fun w hC => y_extract rfl rfl) fun a hs => ?_
       refine ho 7 rfl ?_
       refine w_alloc (cs := [.slice none ([] : List Span).length 0, .slice none ([] : List Span).length 0]) hs hw Try.zeroValue29 rfl rfl trivial ?_
       intro b1028 a w hs hw
       refine h_nx (hw.cs [2, 3] [] rfl rfl) fun hC => ?_
       refine ho 8 rfl ?_
       refine w_store (m := 2) (cs' := [.slice p1022 rv1021.1.Got.length k1023, .slice p1025 rv1021.1.Lost.length k1026]) hs hw 0 rfl rfl rfl Try.sizeOf29 rfl rfl rfl rfl trivial ?_
       intro a w hs hw
       refine h_nx (hw.cs [2, 3] [] rfl rfl) fun hC => ?_
       refine gv hs 9 rfl rfl hC (fun w hC => y_assign rfl) fun a hs => ?_
       refine h_done (by kernel_rfl) ?_
       exact ⟨Sv1035, b1028, k1018, k1023, k1026, p1017, p1022, p1025, (hs.wk rfl), (hw.ft [1, 2, 3, 0] [2, 5, 6, 1, 0] (by decide) rfl rfl)⟩
      refine AllH.cons rfl ?_ ?_
      ·refine w_alloc (cs := [.slice none ([] : List Span).length 0, .slice none ([] : List Span).length 0]) hs hw Try.zeroValue29 rfl rfl trivial ?_
       intro b1028 a w hs hw
       refine h_nx (hw.cs [2, 3] [] rfl rfl) fun hC => ?_
       refine ho 3 rfl ?_
       refine st_callR hs (receiver_Lose_ok h1020 hw.dom (hw.envAt 3 rfl) (hw.envAt 4 rfl)) (do_call Try.call12 rfl) trivial rfl rfl ?_
       intro v1043 Sv1040 w a h1041 h1042 hs
       obtain ⟨p1022, k1023, p1025, k1026, rfl, h1024, h1027⟩ := h1042
       have hw := hw.call h1041
       have hw := hw.addE (e := SlA p1022 rv1021.1.Got.length k1023 rv1021.1.Got) h1024
       have hw := hw.addE (e := SlA p1025 rv1021.1.Lost.length k1026 rv1021.1.Lost) h1027
       refine h_nx (hw.cs [2, 3] [] rfl rfl) fun hC => ?_
       refine gm hs 4 rfl rfl rfl hC fun a hs => ?_
       refine gv hs 5 rfl rfl hC (fun w hC => y_extract rfl rfl) fun a hs => ?_
       refine gv hs 6 rfl rfl hC (fun w hC => y_extract rfl rfl) fun a hs => ?_
       refine ho 8 rfl ?_
       refine w_store (m := 2) (cs' := [.slice p1022 rv1021.1.Got.length k1023, .slice p1025 rv1021.1.Lost.length k1026]) hs hw 0 rfl rfl rfl Try.sizeOf29 rfl rfl rfl rfl trivial ?_
       intro a w hs hw
       refine h_nx (hw.cs [2, 3] [] rfl rfl) fun hC => ?_
       refine gv hs 9 rfl rfl hC (fun w hC => y_assign rfl) fun a hs => ?_
       refine h_done (by kernel_rfl) ?_
       exact ⟨Sv1040, b1028, k1018, k1023, k1026, p1017, p1022, p1025, (hs.wk rfl), (hw.ft [1, 2, 3, 0] [2, 5, 6, 1, 0] (by decide) rfl rfl)⟩
      exact AllH.nil
     refine AllH.cons rfl ?_ ?_
     ·refine w_alloc (cs := [.slice none ([] : List Span).length 0, .slice none ([] : List Span).length 0]) hs hw Try.zeroValue29 rfl rfl trivial ?_
      intro b1028 a w hs hw
      refine h_nx (hw.cs [2, 3] [] rfl rfl) fun hC => ?_
      refine ho 2 rfl ?_
      refine st_callR hs (made_Dice_Next_ok h1015 hw.dom (hw.ins [1] (by decide) rfl) (hw.envAt 0 rfl)) (do_call Try.call11 rfl) trivial rfl rfl ?_
      intro v1048 Sv1045 w a h1046 h1047 hs
      obtain ⟨p1017, k1018, rfl, h1049, h1019⟩ := h1047
      have hw := hw.callO [1] [0, 2, 3] (by decide) rfl h1046 h1049
      have hw := hw.addE (e := SlA p1017 rv1016.2.L.length k1018 rv1016.2.L) h1019
      refine h_nx (hw.cs [2, 3] [] rfl rfl) fun hC => ?_
      refine ho 3 rfl ?_
      refine st_callR hs (receiver_Lose_ok h1020 hw.dom (hw.envAt 3 rfl) (hw.envAt 4 rfl)) (do_call Try.call12 rfl) trivial rfl rfl ?_
      intro v1053 Sv1050 w a h1051 h1052 hs
      obtain ⟨p1022, k1023, p1025, k1026, rfl, h1024, h1027⟩ := h1052
      have hw := hw.call h1051
      have hw := hw.addE (e := SlA p1022 rv1021.1.Got.length k1023 rv1021.1.Got) h1024
      have hw := hw.addE (e := SlA p1025 rv1021.1.Lost.length k1026 rv1021.1.Lost) h1027
      refine h_nx (hw.cs [2, 3] [] rfl rfl) fun hC => ?_
      refine gm hs 4 rfl rfl rfl hC fun a hs => ?_
      refine gv hs 5 rfl rfl hC (fun w hC => y_extract rfl rfl) fun a hs => ?_
      refine gv hs 6 rfl rfl hC (fun w hC => y_extract rfl rfl) fun a hs => ?_
      refine ho 8 rfl ?_
      refine w_store (m := 2) (cs' := [.slice p1022 rv1021.1.Got.length k1023, .slice p1025 rv1021.1.Lost.length k1026]) hs hw 1 rfl rfl rfl Try.sizeOf29 rfl rfl rfl rfl trivial ?_
      intro a w hs hw
      refine h_nx (hw.cs [2, 3] [] rfl rfl) fun hC => ?_
      refine gv hs 9 rfl rfl hC (fun w hC => y_assign rfl) fun a hs => ?_
      refine h_done (by kernel_rfl) ?_
      exact ⟨Sv1050, b1028, k1018, k1023, k1026, p1017, p1022, p1025, (hs.wk rfl), (hw.ft [0, 2, 3, 1] [2, 5, 6, 1, 0] (by decide) rfl rfl)⟩
     exact AllH.nil
    rintro a w ⟨Sv1029, b1028, k1018, k1023, k1026, p1017, p1022, p1025, hs, hw⟩
    refine then_normal ?_
    refine wp_seq ?_
    refine sr ?_
    refine mv hs rfl rfl fun a hs => ?_
    refine sv hs (y_neq rfl rfl) rfl fun a hs => ?_
    refine nl ?_
    refine wp_cond_split (hs.ev rfl) (fun h1056 => ?_) (fun h1056 => ?_)
    ·have hsh := ite_t hsh h1056
     refine sr ?_
     refine av hs rfl rfl fun a hs => ?_
     refine nl ?_
     have hsh := oi hsh
     subst hsh
     have h1057 := hd854 _ rfl
     subst h1057
     refine wp_ret ?_
     refine then_ret ?_
     refine then_ret ?_
     refine blk_ret ?_
     refine then_ret ?_
     refine then_ret ?_
     refine then_ret ?_
     refine blk_ret ?_
     refine then_ret ?_
     exact ret1 hs rfl (rv_tmp rfl) (hw.ret rfl)
    have hsh := ite_f hsh h1056
    refine wp_skip ?_
    refine then_normal ?_
    refine sr ?_
    refine sv hs (y_loadBA (hw.ownAt 3 rfl) rfl Try.isAgg29 Try.sizeOf29 rfl rfl) rfl fun a hs => ?_
    refine w_store (m := 2) (cs' := [.slice p1022 rv1021.1.Got.length k1023, .slice p1025 rv1021.1.Lost.length k1026]) hs hw 1 rfl rfl rfl Try.sizeOf29 rfl rfl rfl rfl trivial ?_
    intro a w hs hw
    refine nl ?_
    refine wp_exit ?_
    refine then_exit ?_
    refine blk_exit ?_
    refine then_normal ?_
    exact ⟨rv1016.2.L, rv1016.2.At, rv1021.1.Got, rv1021.1.Lost, sv455.2.2.2.2.1, p1017, k1018, p1022, k1023, p1025, k1026, Sv1029, hsh, (hs.wk rfl), (hw.ft [0, 1, 2] [0, 3, 4] (by decide) rfl rfl)⟩
   have hsh := ite_f hsh h1014
   refine wp_skip ?_
   refine then_normal ?_
   refine sr ?_
   refine mv hs rfl rfl fun a hs => ?_
   obtain ⟨rv1059, h1058, hsh⟩ := bind_t hsh
   refine st_callR hs (made_Dice_Next_ok h1058 hw.dom (hw.ins [0] (by decide) rfl) (hw.envAt 0 rfl)) (do_call Try.call11 rfl) trivial rfl rfl ?_
   intro v1066 Sv1063 w a h1064 h1065 hs
   obtain ⟨p1060, k1061, rfl, h1067, h1062⟩ := h1065
   have hw := hw.callO [0] [1, 2] (by decide) rfl h1064 h1067
   have hw := hw.addE (e := SlA p1060 rv1059.2.L.length k1061 rv1059.2.L) h1062
   refine av hs rfl rfl fun a hs => ?_
   refine nl ?_
   refine sr ?_
   refine sv hs (y_loadBA (hw.ownAt 1 rfl) rfl Try.isAgg29 Try.sizeOf29 rfl rfl) rfl fun a hs => ?_
   refine mv hs rfl rfl fun a hs => ?_
   obtain ⟨rv1069, h1068, hsh⟩ := bind_t hsh
   refine st_callR hs (receiver_Accept_ok h1068 hw.dom (hw.envAt 3 rfl) (hw.envAt 4 rfl)) (do_call Try.call13 rfl) trivial rfl rfl ?_
   intro v1079 Sv1076 w a h1077 h1078 hs
   obtain ⟨p1070, k1071, p1073, k1074, rfl, h1072, h1075⟩ := h1078
   have hw := hw.call h1077
   have hw := hw.addE (e := SlA p1070 rv1069.1.Got.length k1071 rv1069.1.Got) h1072
   have hw := hw.addE (e := SlA p1073 rv1069.1.Lost.length k1074 rv1069.1.Lost) h1075
   refine mv hs rfl rfl fun a hs => ?_
   refine sv hs (y_extract rfl rfl) rfl fun a hs => ?_
   refine sv hs (y_extract rfl rfl) rfl fun a hs => ?_
   refine sv hs (y_extract rfl rfl) rfl fun a hs => ?_
   refine w_alloc (cs := [.slice none ([] : List Span).length 0, .slice none ([] : List Span).length 0]) hs hw Try.zeroValue29 rfl rfl trivial ?_
   intro b1081 a w hs hw
   refine w_store (m := 2) (cs' := [.slice p1070 rv1069.1.Got.length k1071, .slice p1073 rv1069.1.Lost.length k1074]) hs hw 0 rfl rfl rfl Try.sizeOf29 rfl rfl rfl rfl trivial ?_
   intro a w hs hw
   refine av hs rfl rfl fun a hs => ?_
   refine av hs rfl rfl fun a hs => ?_
   refine nl ?_
   refine wp_seq ?_
   refine sr ?_
   refine mv hs rfl rfl fun a hs => ?_
   refine sv hs (y_neq rfl rfl) rfl fun a hs => ?_
   refine mv hs rfl rfl fun a hs => ?_
   obtain ⟨c1085, hc1085, hsh⟩ := bind_t hsh
   refine wpl_join 6 (fun a w => ∃ (Sv1086 : Nat → Prop), Sl 91 [(3, .pointer (some ⟨b30, 0, none⟩)), (4, .pointer (some ⟨b52, 0, none⟩)), (5, .map (some b53)), (6, .int .i64 sv455.2.2.2.2.2), (9, .int .i64 rv1059.1), (10, .pointer (some ⟨b1081, 0, none⟩)), (56, .bool c1085)] a ∧ Wd ⟨w0, S0, []⟩ Sv1086 [.box b30 [.slice p1060 rv1059.2.L.length k1061, .int .i64 rv1059.2.At] 57, .box b52 [.slice p721 sv455.2.2.1.length k722, .slice p723 sv455.2.2.2.1.length k724] 29, mpR Try.prog 3 4 false b53 sv455.2.2.2.2.1, .box b1081 [.slice p1070 rv1069.1.Got.length k1071, .slice p1073 rv1069.1.Lost.length k1074] 29] [SlA p1060 rv1059.2.L.length k1061 rv1059.2.L, SlA p721 sv455.2.2.1.length k722 sv455.2.2.1, SlA p723 sv455.2.2.2.1.length k724 sv455.2.2.2.1, SlA p1070 rv1069.1.Got.length k1071 rv1069.1.Got, SlA p1073 rv1069.1.Lost.length k1074 rv1069.1.Lost] w) ?_ ?_
   ·rcases Bool.eq_false_or_eq_true (rv1069.2.2 != 0) with h1084 | h1084
    ·have hs := hs.fix 50 (.bool true) rfl (vb h1084)
     have hsh := ite_t hc1085 h1084
     refine st_skip hs rfl rfl rfl rfl rfl fun a hs => ?_
     refine st_skip hs rfl rfl rfl rfl rfl fun a hs => ?_
     refine st_skip hs rfl rfl rfl rfl rfl fun a hs => ?_
     refine st_skip hs rfl rfl rfl rfl rfl fun a hs => ?_
     refine st_skip hs rfl rfl rfl rfl rfl fun a hs => ?_
     refine sv hs (y_pickT rfl rfl) rfl fun a hs => ?_
     refine wpList_nil ?_
     have hsh := oi hsh
     subst hsh
     refine then_normal ?_
     exact ⟨Sv1076, (hs.wk rfl), (hw.ft [1, 2, 3, 0] [2, 5, 6, 1, 0] (by decide) rfl rfl)⟩
    have hs := hs.fix 50 (.bool false) rfl (vb h1084)
    have hsh := ite_f hc1085 h1084
    refine st_val hs (y_move rfl) ⟨_, rfl, rfl⟩ rfl rfl fun a hs => ?_
    refine st_val hs (y_move rfl) ⟨_, rfl, rfl⟩ rfl rfl fun a hs => ?_
    refine st_val hs (y_move rfl) ⟨_, rfl, rfl⟩ rfl rfl fun a hs => ?_
    obtain ⟨g1088, h1087, hsh⟩ := bind_t hsh
    refine st_val hs (y_lookup (α := Bool) (hw.ownAt 3 rfl) Try.underlying31 Try.underlying3 Try.underlying4 Try.zeroValue4 rfl rfl rfl rfl h1087) ⟨_, rfl, rfl⟩ rfl rfl fun a hs => ?_
    refine st_val hs (y_eqlB Try.runUnderlying4 rfl rfl) ⟨_, rfl, rfl⟩ rfl rfl fun a hs => ?_
    refine sv hs (y_pickF rfl rfl) rfl fun a hs => ?_
    refine wpList_nil ?_
    have hsh := oi hsh
    subst hsh
    refine then_normal ?_
    exact ⟨Sv1076, (hs.wk rfl), (hw.ft [1, 2, 3, 0] [2, 5, 6, 1, 0] (by decide) rfl rfl)⟩
   rintro a w ⟨Sv1086, hs, hw⟩
   refine mv hs rfl rfl fun a hs => ?_
   obtain ⟨c1097, hc1097, hsh⟩ := bind_t hsh
   refine wpl_join 6 (fun a w => ∃ (Sv1098 : Nat → Prop), Sl 91 [(3, .pointer (some ⟨b30, 0, none⟩)), (4, .pointer (some ⟨b52, 0, none⟩)), (5, .map (some b53)), (6, .int .i64 sv455.2.2.2.2.2), (9, .int .i64 rv1059.1), (10, .pointer (some ⟨b1081, 0, none⟩)), (63, .bool c1097)] a ∧ Wd ⟨w0, S0, []⟩ Sv1098 [.box b30 [.slice p1060 rv1059.2.L.length k1061, .int .i64 rv1059.2.At] 57, .box b52 [.slice p721 sv455.2.2.1.length k722, .slice p723 sv455.2.2.2.1.length k724] 29, mpR Try.prog 3 4 false b53 sv455.2.2.2.2.1, .box b1081 [.slice p1070 rv1069.1.Got.length k1071, .slice p1073 rv1069.1.Lost.length k1074] 29] [SlA p1060 rv1059.2.L.length k1061 rv1059.2.L, SlA p721 sv455.2.2.1.length k722 sv455.2.2.1, SlA p723 sv455.2.2.2.1.length k724 sv455.2.2.2.1, SlA p1070 rv1069.1.Got.length k1071 rv1069.1.Got, SlA p1073 rv1069.1.Lost.length k1074 rv1069.1.Lost] w) ?_ ?_
   ·rcases Bool.eq_false_or_eq_true c1085 with h1096 | h1096
    ·have hs := hs.fix 57 (.bool true) rfl (vb h1096)
     have hsh := ite_t hc1097 h1096
     refine st_skip hs rfl rfl rfl rfl rfl fun a hs => ?_
     refine st_skip hs rfl rfl rfl rfl rfl fun a hs => ?_
     refine st_skip hs rfl rfl rfl rfl rfl fun a hs => ?_
     refine st_skip hs rfl rfl rfl rfl rfl fun a hs => ?_
     refine st_skip hs rfl rfl rfl rfl rfl fun a hs => ?_
     refine sv hs (y_pickT rfl rfl) rfl fun a hs => ?_
     refine wpList_nil ?_
     have hsh := oi hsh
     subst hsh
     refine then_normal ?_
     exact ⟨Sv1086, (hs.wk rfl), (hw.ft [0, 1, 2, 3] [0, 1, 2, 3, 4] (by decide) rfl rfl)⟩
    have hs := hs.fix 57 (.bool false) rfl (vb h1096)
    have hsh := ite_f hc1097 h1096
    refine st_val hs (y_fieldAddr (o' := 0) Try.runUnderlying29 rfl Try.sizeOf27 rfl rfl rfl) ⟨_, rfl, rfl⟩ rfl rfl fun a hs => ?_
    refine st_val hs (y_loadB1 (hw.ownAt 3 rfl) rfl Try.isAgg27 rfl) ⟨_, rfl, rfl⟩ rfl rfl fun a hs => ?_
    refine st_val hs (y_move rfl) ⟨_, rfl, rfl⟩ rfl rfl fun a hs => ?_
    obtain ⟨rv1100, h1099, hsh⟩ := bind_t hsh
    refine st_callR hs (ref08_Has_ok h1099 hw.bdom (hw.bE 3 rfl)) (do_call Try.call14 rfl) ⟨_, rfl, rfl⟩ rfl rfl ?_
    intro v1104 Sv1101 w a h1102 h1103 hs
    subst h1103
    have hw := hw.callB h1102
    refine st_val hs (y_not rfl) ⟨_, rfl, rfl⟩ rfl rfl fun a hs => ?_
    refine sv hs (y_pickF rfl rfl) rfl fun a hs => ?_
    refine wpList_nil ?_
    have hsh := oi hsh
    subst hsh
    refine then_normal ?_
    exact ⟨Sv1086, (hs.wk rfl), (hw.ft [0, 1, 2, 3] [0, 1, 2, 3, 4] (by decide) rfl rfl)⟩
   rintro a w ⟨Sv1098, hs, hw⟩
   refine mv hs rfl rfl fun a hs => ?_
   obtain ⟨c1114, hc1114, hsh⟩ := bind_t hsh
   refine wpl_join 5 (fun a w => ∃ (Sv1115 : Nat → Prop), Sl 91 [(3, .pointer (some ⟨b30, 0, none⟩)), (4, .pointer (some ⟨b52, 0, none⟩)), (5, .map (some b53)), (6, .int .i64 sv455.2.2.2.2.2), (9, .int .i64 rv1059.1), (10, .pointer (some ⟨b1081, 0, none⟩)), (69, .bool c1114)] a ∧ Wd ⟨w0, S0, []⟩ Sv1115 [.box b30 [.slice p1060 rv1059.2.L.length k1061, .int .i64 rv1059.2.At] 57, .box b52 [.slice p721 sv455.2.2.1.length k722, .slice p723 sv455.2.2.2.1.length k724] 29, mpR Try.prog 3 4 false b53 sv455.2.2.2.2.1, .box b1081 [.slice p1070 rv1069.1.Got.length k1071, .slice p1073 rv1069.1.Lost.length k1074] 29] [SlA p1060 rv1059.2.L.length k1061 rv1059.2.L, SlA p721 sv455.2.2.1.length k722 sv455.2.2.1, SlA p723 sv455.2.2.2.1.length k724 sv455.2.2.2.1, SlA p1070 rv1069.1.Got.length k1071 rv1069.1.Got, SlA p1073 rv1069.1.Lost.length k1074 rv1069.1.Lost] w) ?_ ?_
   ·rcases Bool.eq_false_or_eq_true c1097 with h1113 | h1113
    ·have hs := hs.fix 64 (.bool true) rfl (vb h1113)
     have hsh := ite_t hc1114 h1113
     refine st_skip hs rfl rfl rfl rfl rfl fun a hs => ?_
     refine st_skip hs rfl rfl rfl rfl rfl fun a hs => ?_
     refine st_skip hs rfl rfl rfl rfl rfl fun a hs => ?_
     refine st_skip hs rfl rfl rfl rfl rfl fun a hs => ?_
     refine sv hs (y_pickT rfl rfl) rfl fun a hs => ?_
     refine wpList_nil ?_
     have hsh := oi hsh
     subst hsh
     refine then_normal ?_
     exact ⟨Sv1098, (hs.wk rfl), (hw.ft [0, 1, 2, 3] [0, 1, 2, 3, 4] (by decide) rfl rfl)⟩
    have hs := hs.fix 64 (.bool false) rfl (vb h1113)
    have hsh := ite_f hc1114 h1113
    refine st_val hs (y_fieldAddr (o' := 1) Try.runUnderlying29 rfl Try.sizeOf27 rfl rfl rfl) ⟨_, rfl, rfl⟩ rfl rfl fun a hs => ?_
    refine st_val hs (y_loadB1 (hw.ownAt 3 rfl) rfl Try.isAgg27 rfl) ⟨_, rfl, rfl⟩ rfl rfl fun a hs => ?_
    refine st_val hs (y_move rfl) ⟨_, rfl, rfl⟩ rfl rfl fun a hs => ?_
    obtain ⟨rv1117, h1116, hsh⟩ := bind_t hsh
    refine st_callR hs (ref08_Has_ok h1116 hw.bdom (hw.bE 4 rfl)) (do_call Try.call14 rfl) ⟨_, rfl, rfl⟩ rfl rfl ?_
    intro v1121 Sv1118 w a h1119 h1120 hs
    subst h1120
    have hw := hw.callB h1119
    refine sv hs (y_pickF rfl rfl) rfl fun a hs => ?_
    refine wpList_nil ?_
    have hsh := oi hsh
    subst hsh
    refine then_normal ?_
    exact ⟨Sv1098, (hs.wk rfl), (hw.ft [0, 1, 2, 3] [0, 1, 2, 3, 4] (by decide) rfl rfl)⟩
   rintro a w ⟨Sv1115, hs, hw⟩
   refine mv hs rfl rfl fun a hs => ?_
   obtain ⟨c1131, hc1131, hsh⟩ := bind_t hsh
   refine wpl_join 4 (fun a w => ∃ (Sv1132 : Nat → Prop), Sl 91 [(3, .pointer (some ⟨b30, 0, none⟩)), (4, .pointer (some ⟨b52, 0, none⟩)), (5, .map (some b53)), (6, .int .i64 sv455.2.2.2.2.2), (9, .int .i64 rv1059.1), (10, .pointer (some ⟨b1081, 0, none⟩)), (74, .bool c1131)] a ∧ Wd ⟨w0, S0, []⟩ Sv1132 [.box b30 [.slice p1060 rv1059.2.L.length k1061, .int .i64 rv1059.2.At] 57, .box b52 [.slice p721 sv455.2.2.1.length k722, .slice p723 sv455.2.2.2.1.length k724] 29, mpR Try.prog 3 4 false b53 sv455.2.2.2.2.1, .box b1081 [.slice p1070 rv1069.1.Got.length k1071, .slice p1073 rv1069.1.Lost.length k1074] 29] [SlA p1060 rv1059.2.L.length k1061 rv1059.2.L, SlA p721 sv455.2.2.1.length k722 sv455.2.2.1, SlA p723 sv455.2.2.2.1.length k724 sv455.2.2.2.1, SlA p1070 rv1069.1.Got.length k1071 rv1069.1.Got, SlA p1073 rv1069.1.Lost.length k1074 rv1069.1.Lost] w) ?_ ?_
   ·rcases Bool.eq_false_or_eq_true c1114 with h1130 | h1130
    ·have hs := hs.fix 70 (.bool true) rfl (vb h1130)
     have hsh := ite_t hc1131 h1130
     refine st_skip hs rfl rfl rfl rfl rfl fun a hs => ?_
     refine st_skip hs rfl rfl rfl rfl rfl fun a hs => ?_
     refine st_skip hs rfl rfl rfl rfl rfl fun a hs => ?_
     refine sv hs (y_pickT rfl rfl) rfl fun a hs => ?_
     refine wpList_nil ?_
     have hsh := oi hsh
     subst hsh
     refine then_normal ?_
     exact ⟨Sv1115, (hs.wk rfl), (hw.ft [0, 1, 2, 3] [0, 1, 2, 3, 4] (by decide) rfl rfl)⟩
    have hs := hs.fix 70 (.bool false) rfl (vb h1130)
    have hsh := ite_f hc1131 h1130
    refine st_val hs (y_loadBA (hw.ownAt 3 rfl) rfl Try.isAgg29 Try.sizeOf29 rfl rfl) ⟨_, rfl, rfl⟩ rfl rfl fun a hs => ?_
    obtain ⟨rv1134, h1133, hsh⟩ := bind_t hsh
    refine st_callR hs (receiver_Valid_ok h1133 hw.bdom (hw.bE 3 rfl) (hw.bE 4 rfl)) (do_call Try.call15 rfl) ⟨_, rfl, rfl⟩ rfl rfl ?_
    intro v1138 Sv1135 w a h1136 h1137 hs
    subst h1137
    have hw := hw.callB h1136
    refine st_val hs (y_not rfl) ⟨_, rfl, rfl⟩ rfl rfl fun a hs => ?_
    refine sv hs (y_pickF rfl rfl) rfl fun a hs => ?_
    refine wpList_nil ?_
    have hsh := oi hsh
    subst hsh
    refine then_normal ?_
    exact ⟨Sv1115, (hs.wk rfl), (hw.ft [0, 1, 2, 3] [0, 1, 2, 3, 4] (by decide) rfl rfl)⟩
   rintro a w ⟨Sv1132, hs, hw⟩
   refine nl ?_
   refine wp_cond_split (hs.ev rfl) (fun h1141 => ?_) (fun h1141 => ?_)
   ·have hsh := ite_t hsh h1141
    refine sr ?_
    refine av hs rfl rfl fun a hs => ?_
    refine nl ?_
    have hsh := oi hsh
    subst hsh
    have h1142 := hd854 _ rfl
    subst h1142
    refine wp_ret ?_
    refine then_ret ?_
    refine blk_ret ?_
    refine then_ret ?_
    refine then_ret ?_
    refine then_ret ?_
    refine blk_ret ?_
    refine then_ret ?_
    exact ret1 hs rfl (rv_tmp rfl) (hw.ret rfl)
   have hsh := ite_f hsh h1141
   refine wp_skip ?_
   refine then_normal ?_
   obtain ⟨m1144, h1143, hsh⟩ := bind_t hsh
   refine wp_only (fun a w => ∃ (Sv1145 : Nat → Prop), Sl 91 [(3, .pointer (some ⟨b30, 0, none⟩)), (4, .pointer (some ⟨b52, 0, none⟩)), (5, .map (some b53)), (6, .int .i64 sv455.2.2.2.2.2)] a ∧ Wd ⟨w0, S0, []⟩ Sv1145 [.box b30 [.slice p1060 rv1059.2.L.length k1061, .int .i64 rv1059.2.At] 57, .box b52 [.slice p1070 rv1069.1.Got.length k1071, .slice p1073 rv1069.1.Lost.length k1074] 29, mpR Try.prog 3 4 false b53 m1144] [SlA p1060 rv1059.2.L.length k1061 rv1059.2.L, SlA p1070 rv1069.1.Got.length k1071 rv1069.1.Got, SlA p1073 rv1069.1.Lost.length k1074 rv1069.1.Lost] w) ?_ ?_
   ·refine h_b (C := Cls [.box b30 [.slice p1060 rv1059.2.L.length k1061, .int .i64 rv1059.2.At] 57, .box b1081 [.slice p1070 rv1069.1.Got.length k1071, .slice p1073 rv1069.1.Lost.length k1074] 29] []) (by kernel_rfl) rfl (hw.drew.cs [0, 3] [] rfl rfl) fun hC => ?_
    have hw := hw.drew
    refine gm hs 0 rfl rfl rfl hC fun a hs => ?_
    refine gm hs 1 rfl rfl rfl hC fun a hs => ?_
    refine gv hs 2 rfl rfl hC (fun w hC => y_loadBA (hC.ownAt 1 rfl) rfl Try.isAgg29 Try.sizeOf29 rfl rfl) fun a hs => ?_
    refine ho 3 rfl ?_
    refine w_mapUpdate (α := Bool) hs hw 2 rfl Try.underlying31 Try.underlying3 Try.underlying4 rfl rfl rfl h1143 trivial ?_
    intro a w hs hw
    refine h_nx (hw.cs [0, 3] [] rfl rfl) fun hC => ?_
    refine ho 4 rfl ?_
    refine w_store (m := 2) (cs' := [.slice p1070 rv1069.1.Got.length k1071, .slice p1073 rv1069.1.Lost.length k1074]) hs hw 1 rfl rfl rfl Try.sizeOf29 rfl rfl rfl rfl trivial ?_
    intro a w hs hw
    refine h_nx (hw.cs [0, 3] [] rfl rfl) fun hC => ?_
    refine h_done (by kernel_rfl) ?_
    exact ⟨Sv1132, (hs.wk rfl), (hw.ft [0, 1, 2] [0, 3, 4] (by decide) rfl rfl)⟩
   rintro a w ⟨Sv1145, hs, hw⟩
   refine blk_normal ?_
   refine then_normal ?_
   exact ⟨rv1059.2.L, rv1059.2.At, rv1069.1.Got, rv1069.1.Lost, m1144, p1060, k1061, p1070, k1071, p1073, k1074, Sv1145, hsh, (hs.wk rfl), (hw.ft [0, 1, 2] [0, 1, 2] (by decide) rfl rfl)⟩
  rintro a w ⟨x980, x981, x982, x983, m984, p973, k974, p975, k976, p977, k978, Sv979, hsh, hs, hw⟩
  delta law11_ReceiverOnce_j1 at hsh
  refine then_normal ?_
  refine wp_region_lit ?_
  refine mv hs rfl rfl fun a hs => ?_
  refine sv hs (y_add rfl rfl) rfl fun a hs => ?_
  obtain ⟨i986, h985, hsh⟩ := bind_t hsh
  refine sv hs (y_assignI rfl h985) rfl fun a hs => ?_
  refine nl ?_
  exact ⟨_, (Option.some.inj hsh).symm, p973, k974, p975, k976, p977, k978, Sv979, (hs.wk rfl), (hw.ft [0, 1, 2] [0, 1, 2] (by decide) rfl rfl)⟩
 have hsh := ite_f hsh h859
 obtain ⟨rv1244, hsh, h1245⟩ := map_t hsh
 have h1245 := (hd854 _ h1245.symm).symm
 subst h1245
 refine wp_exit ?_
 refine then_exit ?_
 refine then_exit ?_
 refine blk_exit ?_
 refine then_normal ?_
 refine wp_seq ?_
 refine sr ?_
 refine av hs rfl rfl fun a hs => ?_
 refine nl ?_
 refine wp_block ?_
 refine wp_while (fun sv1178 a w => ∃ (Sv1198 : Nat → Prop), Sl 91 [(4, .pointer (some ⟨b52, 0, none⟩)), (5, .map (some b53)), (13, .int .i64 sv1178)] a ∧ Wd ⟨w0, S0, []⟩ Sv1198 [.box b52 [.slice p721 sv455.2.2.1.length k722, .slice p723 sv455.2.2.2.1.length k724] 29, mpR Try.prog 3 4 false b53 sv455.2.2.2.2.1] [SlA p721 sv455.2.2.1.length k722 sv455.2.2.1, SlA p723 sv455.2.2.2.1.length k724 sv455.2.2.2.1] w) 0 hsh ⟨Sv725, (hs.wk rfl), (hw.ft [1, 2] [1, 2] (by decide) rfl rfl)⟩ ?_
 repeat clear hsh
 rintro sv1178 a w tv1209 ⟨Sv1198, hs, hw⟩ hsh hd1208
 delta law11_ReceiverOnce_l4 at hsh
 refine wp_seq ?_
 refine sr ?_
 refine mv hs rfl rfl fun a hs => ?_
 refine sv hs (y_lss rfl rfl) rfl fun a hs => ?_
 refine nl ?_
 refine wp_cond_split (hs.ev rfl) (fun h1213 => ?_) (fun h1213 => ?_)
 ·have hsh := ite_t hsh h1213
  refine wp_skip ?_
  refine then_normal ?_
  refine wp_seq ?_
  refine wp_block ?_
  refine wp_seq ?_
  obtain ⟨rv1221, h1220, hsh⟩ := bind_t hsh
  obtain ⟨g1223, h1222, hsh⟩ := bind_t hsh
  refine wp_only (fun a w => ∃ (Sv1224 : Nat → Prop), Sl 91 [(4, .pointer (some ⟨b52, 0, none⟩)), (5, .map (some b53)), (13, .int .i64 sv1178), (89, .bool (!(rv1221 == g1223)))] a ∧ Wd ⟨w0, S0, []⟩ Sv1224 [.box b52 [.slice p721 sv455.2.2.1.length k722, .slice p723 sv455.2.2.2.1.length k724] 29, mpR Try.prog 3 4 false b53 sv455.2.2.2.2.1] [SlA p721 sv455.2.2.1.length k722 sv455.2.2.1, SlA p723 sv455.2.2.2.1.length k724 sv455.2.2.2.1] w) ?_ ?_
  ·refine h_b (C := Cls [.box b52 [.slice p721 sv455.2.2.1.length k722, .slice p723 sv455.2.2.2.1.length k724] 29, mpR Try.prog 3 4 false b53 sv455.2.2.2.2.1] []) (by kernel_rfl) rfl (hw.drew.cs [0, 1] [] rfl rfl) fun hC => ?_
   have hw := hw.drew
   refine gv hs 0 rfl rfl hC (fun w hC => y_fieldAddr (o' := 0) Try.runUnderlying29 rfl Try.sizeOf27 rfl rfl rfl) fun a hs => ?_
   refine gv hs 1 rfl rfl hC (fun w hC => y_loadB1 (hC.ownAt 0 rfl) rfl Try.isAgg27 rfl) fun a hs => ?_
   refine gm hs 2 rfl rfl rfl hC fun a hs => ?_
   refine gm hs 4 rfl rfl rfl hC fun a hs => ?_
   refine gm hs 5 rfl rfl rfl hC fun a hs => ?_
   refine gv hs 6 rfl rfl hC (fun w hC => y_lookup (α := Bool) (hC.ownAt 1 rfl) Try.underlying31 Try.underlying3 Try.underlying4 Try.zeroValue4 rfl rfl rfl rfl h1222) fun a hs => ?_
   refine ho 3 rfl ?_
   refine st_callR hs (ref08_Has_ok h1220 hw.bdom (hw.bE 0 rfl)) (do_call Try.call14 rfl) trivial rfl rfl ?_
   intro v1228 Sv1225 w a h1226 h1227 hs
   subst h1227
   have hw := hw.callB h1226
   refine h_nx (hw.cs [0, 1] [] rfl rfl) fun hC => ?_
   refine gv hs 7 rfl rfl hC (fun w hC => y_neqB Try.runUnderlying4 rfl rfl) fun a hs => ?_
   refine h_done (by kernel_rfl) ?_
   exact ⟨Sv1198, (hs.wk rfl), (hw.ft [0, 1] [0, 1] (by decide) rfl rfl)⟩
  rintro a w ⟨Sv1224, hs, hw⟩
  refine then_normal ?_
  refine wp_cond_split (hs.ev rfl) (fun h1231 => ?_) (fun h1231 => ?_)
  ·have hsh := ite_t hsh h1231
   refine sr ?_
   refine av hs rfl rfl fun a hs => ?_
   refine nl ?_
   have hsh := oi hsh
   subst hsh
   have h1232 := hd1208 _ rfl
   subst h1232
   refine wp_ret ?_
   refine blk_ret ?_
   refine then_ret ?_
   refine then_ret ?_
   refine blk_ret ?_
   refine then_ret ?_
   exact ret1 hs rfl (rv_tmp rfl) (hw.ret rfl)
  have hsh := ite_f hsh h1231
  refine wp_skip ?_
  refine blk_normal ?_
  refine then_normal ?_
  refine wp_region_lit ?_
  refine mv hs rfl rfl fun a hs => ?_
  refine sv hs (y_add rfl rfl) rfl fun a hs => ?_
  obtain ⟨k1234, h1233, hsh⟩ := bind_t hsh
  refine sv hs (y_assignI rfl h1233) rfl fun a hs => ?_
  refine nl ?_
  exact ⟨_, (Option.some.inj hsh).symm, Sv1224, (hs.wk rfl), (hw.ft [0, 1] [0, 1] (by decide) rfl rfl)⟩
 have hsh := ite_f hsh h1213
 obtain ⟨rv1242, hsh, h1243⟩ := map_t hsh
 have h1243 := (hd1208 _ h1243.symm).symm
 subst h1243
 refine wp_exit ?_
 refine then_exit ?_
 refine then_exit ?_
 refine blk_exit ?_
 refine then_normal ?_
 refine sr ?_
 obtain ⟨rv1236, h1235, hsh⟩ := bind_t hsh
 refine st_callR hs (law11_sane_ok h1235 hw.bdom) (do_call Try.call8 rfl) trivial rfl rfl ?_
 intro v1240 Sv1237 w a h1238 h1239 hs
 subst h1239
 have hw := hw.callB h1238
 refine av hs rfl rfl fun a hs => ?_
 refine nl ?_
 have hsh := oi hsh
 subst hsh
 refine wp_ret ?_
 exact ret1 hs rfl (rv_tmp rfl) (hw.ret rfl)

end Go.Proofs.Ytiihddcppmjbaaa.Wk

/- The walks of ResponseRates, part 2: each Go function computes what its plain program computes. Printed by a program of ours. -/
import Derived.Test.YtoendkojgjobbaaProg
import Derived.Test.YtoendkojgjobbaaDat
import Derived.Test.YtoendkojgjobbaaSh
import Derived.Test.YtoendkojgjobbaaLibL
import Derived.KernelRfl
import Derived.Test.YtoendkojgjobbaaWResponseRates1
namespace Go.Proofs.Ytoendkojgjobbaa.Wk
open Go Go.RowKit Go.Proofs Go.Proofs.Ytoendkojgjobbaa.Sh
set_option linter.unusedVariables false
set_option linter.unusedSimpArgs false

abbrev ref17_ValidFraction_rd (w0 : World) (X : List Nat) (r : Bool) : (Nat → Prop) → World → Value → Prop := fun S w v => v = .bool r
set_option maxHeartbeats 4000000 in
set_option maxRecDepth 100000 in
theorem ref17_ValidFraction_ok {w0 : World} {S0 : Nat → Prop} {p2 : Option Addr} {k3 : Nat} {p4 : Option Addr} {k5 : Nat} {f1 : Fraction} {r : Bool} (hsh : ref17_ValidFraction f1 = some r) (hS : ∀ b, S0 b → b < w0.heap.size) (h6 : (SlA p2 f1.Num.length k3 f1.Num).p S0 w0) (h7 : (SlA p4 f1.Den.length k5 f1.Den).p S0 w0) : Calls Try.prog 44 #[.agg #[.slice p2 f1.Num.length k3, .slice p4 f1.Den.length k5]] w0 (Ret ([]) w0 S0 (ref17_ValidFraction_rd w0 ([]) r)) := by
 refine calls_of_wp Try.func44 rfl ?_
 have hs := Sl.enter #[.agg #[.slice p2 f1.Num.length k3, .slice p4 f1.Den.length k5]] 17 [(0, .agg #[.slice p2 f1.Num.length k3, .slice p4 f1.Den.length k5])] rfl ⟨rfl, trivial⟩
 have hw := Wd.enter (E := []) hS (fun _ h => (by cases h))
 have hw := hw.addE h6
 have hw := hw.addE h7
 delta ref17_ValidFraction at hsh
 refine wp_seq ?_
 refine wp_region_lit ?_
 refine w_box (cs := [.slice p2 f1.Num.length k3, .slice p4 f1.Den.length k5]) hs hw rfl rfl rfl trivial ?_
 intro b8 a w hs hw
 refine st_val hs (y_assign rfl) trivial rfl rfl fun a hs => ?_
 refine wpList_nil ?_
 refine then_normal ?_
 refine wp_seq ?_
 refine wp_region_lit ?_
 refine st_val hs (y_fieldAddr (o' := 0) Try.runUnderlying31 rfl Try.sizeOf29 rfl rfl rfl) trivial rfl rfl fun a hs => ?_
 refine st_val hs (y_loadB1 (hw.ownAt 0 rfl) rfl Try.isAgg29 rfl) trivial rfl rfl fun a hs => ?_
 obtain ⟨rv10, h9, hsh⟩ := bind_t hsh
 refine st_callR hs (ref17_Valid_ok h9 hw.bdom (hw.bE 1 rfl)) (do_call Try.call78 rfl) trivial rfl rfl ?_
 intro v14 Sv11 w a h12 h13 hs
 subst h13
 have hw := hw.callB h12
 refine st_val hs (y_move rfl) trivial rfl rfl fun a hs => ?_
 obtain ⟨c24, hc24, hsh⟩ := bind_t hsh
 refine wpl_join 4 (fun a w => ∃ (Sv25 : Nat → Prop), Sl 17 [(1, .pointer (some ⟨b8, 0, none⟩)), (10, .bool c24)] a ∧ Wd ⟨w0, S0, []⟩ Sv25 [.box b8 [.slice p2 f1.Num.length k3, .slice p4 f1.Den.length k5] 31] [SlA p2 f1.Num.length k3 f1.Num, SlA p4 f1.Den.length k5 f1.Den] w) ?_ ?_
 ·rcases Bool.eq_false_or_eq_true rv10 with h23 | h23
  ·have hs := hs.fix 6 (.bool true) rfl (vb h23)
   have hsh := ite_t hc24 h23
   refine st_val hs (y_fieldAddr (o' := 1) Try.runUnderlying31 rfl Try.sizeOf29 rfl rfl rfl) ⟨_, rfl, rfl⟩ rfl rfl fun a hs => ?_
   refine st_val hs (y_loadB1 (hw.ownAt 0 rfl) rfl Try.isAgg29 rfl) ⟨_, rfl, rfl⟩ rfl rfl fun a hs => ?_
   obtain ⟨rv27, h26, hsh⟩ := bind_t hsh
   refine st_callR hs (ref17_Valid_ok h26 hw.bdom (hw.bE 0 rfl)) (do_call Try.call78 rfl) ⟨_, rfl, rfl⟩ rfl rfl ?_
   intro v31 Sv28 w a h29 h30 hs
   subst h30
   have hw := hw.callB h29
   refine st_val hs (y_pickT rfl rfl) trivial rfl rfl fun a hs => ?_
   refine wpList_nil ?_
   have hsh := Option.some.inj hsh
   subst hsh
   refine then_normal ?_
   exact ⟨S0, (hs.wk rfl), (hw.ft [0] [1, 0] (by decide) rfl rfl)⟩
  ·have hs := hs.fix 6 (.bool false) rfl (vb h23)
   have hsh := ite_f hc24 h23
   refine st_skip hs rfl rfl rfl rfl rfl fun a hs => ?_
   refine st_skip hs rfl rfl rfl rfl rfl fun a hs => ?_
   refine st_skip hs rfl rfl rfl rfl rfl fun a hs => ?_
   refine st_val hs (y_pickF rfl rfl) trivial rfl rfl fun a hs => ?_
   refine wpList_nil ?_
   have hsh := Option.some.inj hsh
   subst hsh
   refine then_normal ?_
   exact ⟨S0, (hs.wk rfl), (hw.ft [0] [1, 0] (by decide) rfl rfl)⟩
 ·rintro a w ⟨Sv25, hs, hw⟩
  refine st_val hs (y_move rfl) trivial rfl rfl fun a hs => ?_
  refine wpl_join 5 (fun a w1 => w = w1 ∧ Sl 17 [(16, .bool (c24 && (decide (0 < (f1.Den.length : Int)))))] a) ?_ ?_
  ·rcases Bool.eq_false_or_eq_true c24 with h33 | h33
   ·have hs := hs.fix 11 (.bool true) rfl (vb h33)
    refine st_val hs (y_fieldAddr (o' := 1) Try.runUnderlying31 rfl Try.sizeOf29 rfl rfl rfl) ⟨_, rfl, rfl⟩ rfl rfl fun a hs => ?_
    refine st_val hs (y_loadB1 (hw.ownAt 0 rfl) rfl Try.isAgg29 rfl) ⟨_, rfl, rfl⟩ rfl rfl fun a hs => ?_
    refine st_val hs (y_len Try.runUnderlying29 rfl) ⟨_, rfl, rfl⟩ rfl rfl fun a hs => ?_
    refine st_val hs (y_gtr rfl rfl) ⟨_, rfl, rfl⟩ rfl rfl fun a hs => ?_
    refine st_val hs (y_pickT rfl rfl) trivial rfl rfl fun a hs => ?_
    refine wpList_nil ?_
    refine then_normal ?_
    exact ⟨rfl, (hs.fix 16 (.bool (c24 && (decide (0 < (f1.Den.length : Int))))) rfl (and_t h33)).weaken _ ⟨rfl, trivial⟩⟩
   ·have hs := hs.fix 11 (.bool false) rfl (vb h33)
    refine st_skip hs rfl rfl rfl rfl rfl fun a hs => ?_
    refine st_skip hs rfl rfl rfl rfl rfl fun a hs => ?_
    refine st_skip hs rfl rfl rfl rfl rfl fun a hs => ?_
    refine st_skip hs rfl rfl rfl rfl rfl fun a hs => ?_
    refine st_val hs (y_pickF rfl rfl) trivial rfl rfl fun a hs => ?_
    refine wpList_nil ?_
    refine then_normal ?_
    exact ⟨rfl, (hs.fix 16 (.bool (c24 && (decide (0 < (f1.Den.length : Int))))) rfl (and_f h33)).weaken _ ⟨rfl, trivial⟩⟩
  ·rintro a w1 ⟨h34, hs⟩
   subst h34
   refine st_val hs (y_assign rfl) trivial rfl rfl fun a hs => ?_
   refine wpList_nil ?_
   refine then_normal ?_
   have hsh := Option.some.inj hsh
   subst hsh
   refine wp_ret ?_
   exact ret1 hs rfl (rv_tmp rfl) (hw.ret rfl)

abbrev ref17_trim_rd (w0 : World) (X : List Nat) (r : (List Int)) : (Nat → Prop) → World → Value → Prop := fun S w v => ∃ (p0_0 : Option Addr) (k0_0 : Nat), v = .slice p0_0 r.length k0_0 ∧ (SlA p0_0 r.length k0_0 r).p S w
set_option maxHeartbeats 4000000 in
set_option maxRecDepth 100000 in
theorem ref17_trim_ok {w0 : World} {S0 : Nat → Prop} {p2 : Option Addr} {k3 : Nat} {n1 : (List Int)} {r : (List Int)} (hsh : ref17_trim n1 = some r) (hS : ∀ b, S0 b → b < w0.heap.size) (h4 : (SlA p2 n1.length k3 n1).p S0 w0) : Calls Try.prog 79 #[.slice p2 n1.length k3] w0 (Ret ([]) w0 S0 (ref17_trim_rd w0 ([]) r)) := by
 refine calls_of_wp Try.func79 rfl ?_
 have hs := Sl.enter #[.slice p2 n1.length k3] 21 [(0, .slice p2 n1.length k3)] rfl ⟨rfl, trivial⟩
 have hw := Wd.enter (E := []) hS (fun _ h => (by cases h))
 have hw := hw.addE h4
 delta ref17_trim at hsh
 refine wp_seq ?_
 refine wp_region_lit ?_
 refine st_val hs (y_assign rfl) trivial rfl rfl fun a hs => ?_
 refine wpList_nil ?_
 refine then_normal ?_
 refine wp_seq ?_
 obtain ⟨e123, h171, hsh⟩ := bind_t hsh
 refine wp_join (fun a w => ∃ (p124 : Option Addr) (k125 : Nat) (Sv126 : Nat → Prop), Sl 21 [(0, .slice p124 e123.length k125)] a ∧ Wd ⟨w0, S0, []⟩ Sv126 [] [SlA p124 e123.length k125 e123] w) ?_ ?_
 ·refine wp_block ?_
  refine wp_while (fun sv5 a w => ∃ (p81 : Option Addr) (k82 : Nat) (Sv83 : Nat → Prop), Sl 21 [(0, .slice p81 sv5.length k82)] a ∧ Wd ⟨w0, S0, []⟩ Sv83 [] [SlA p81 sv5.length k82 sv5] w) n1 h171 ⟨p2, k3, S0, (hs.wk rfl), (hw.ft [] [0] (by decide) rfl rfl)⟩ ?_
  clear h171
  repeat clear hsh
  rintro sv5 a w tv121 ⟨p81, k82, Sv83, hs, hw⟩ hsh hd120
  delta ref17_trim_l1 at hsh
  refine wp_seq ?_
  refine wp_seq ?_
  refine wp_region_lit ?_
  refine st_val hs (y_move rfl) trivial rfl rfl fun a hs => ?_
  refine st_val hs (y_len Try.runUnderlying29 rfl) trivial rfl rfl fun a hs => ?_
  refine st_val hs (y_gtr rfl rfl) trivial rfl rfl fun a hs => ?_
  refine st_val hs (y_move rfl) trivial rfl rfl fun a hs => ?_
  obtain ⟨c141, hc141, hsh⟩ := bind_t hsh
  refine wpl_join 8 (fun a w => ∃ (Sv142 : Nat → Prop), Sl 21 [(0, .slice p81 sv5.length k82), (14, .bool c141)] a ∧ Wd ⟨w0, S0, []⟩ Sv142 [] [SlA p81 sv5.length k82 sv5] w) ?_ ?_
  ·rcases Bool.eq_false_or_eq_true (decide (0 < (sv5.length : Int))) with h140 | h140
   ·have hs := hs.fix 6 (.bool true) rfl (vb h140)
    have hsh := ite_t hc141 h140
    refine st_val hs (y_move rfl) ⟨_, rfl, rfl⟩ rfl rfl fun a hs => ?_
    refine st_val hs (y_move rfl) ⟨_, rfl, rfl⟩ rfl rfl fun a hs => ?_
    refine st_val hs (y_len Try.runUnderlying29 rfl) ⟨_, rfl, rfl⟩ rfl rfl fun a hs => ?_
    refine st_val hs (y_sub rfl rfl) ⟨_, rfl, rfl⟩ rfl rfl fun a hs => ?_
    obtain ⟨x145, h143, hsh⟩ := bind_t hsh
    obtain ⟨b151, o152, q149, c150, h153, h146, h147, h148, h144⟩ := hw.elemV 0 rfl h143
    have hsv154 := hs
    have hwv155 := hw
    subst h153
    have hs := hsv154
    have hw := hwv155
    obtain ⟨_, rfl, rfl⟩ := h144
    have hw := hw.addE h148
    refine st_val hs (y_indexAt Try.runUnderlying29 Try.sizeOf3 rfl rfl h146.1 h146.2 h147) ⟨_, rfl, rfl⟩ rfl rfl fun a hs => ?_
    refine st_val hs (y_loadE1 (j := 0) (hw.ceAt 0 rfl) rfl Try.isAgg3 rfl) ⟨_, rfl, rfl⟩ rfl rfl fun a hs => ?_
    refine st_val hs (y_eql rfl rfl) ⟨_, rfl, rfl⟩ rfl rfl fun a hs => ?_
    refine st_val hs (y_pickT rfl rfl) trivial rfl rfl fun a hs => ?_
    refine wpList_nil ?_
    have hsh := Option.some.inj hsh
    subst hsh
    refine then_normal ?_
    exact ⟨Sv83, (hs.wk rfl), (hw.ft [] [1] (by decide) rfl rfl)⟩
   ·have hs := hs.fix 6 (.bool false) rfl (vb h140)
    have hsh := ite_f hc141 h140
    refine st_skip hs rfl rfl rfl rfl rfl fun a hs => ?_
    refine st_skip hs rfl rfl rfl rfl rfl fun a hs => ?_
    refine st_skip hs rfl rfl rfl rfl rfl fun a hs => ?_
    refine st_skip hs rfl rfl rfl rfl rfl fun a hs => ?_
    refine st_skip hs rfl rfl rfl rfl rfl fun a hs => ?_
    refine st_skip hs rfl rfl rfl rfl rfl fun a hs => ?_
    refine st_skip hs rfl rfl rfl rfl rfl fun a hs => ?_
    refine st_val hs (y_pickF rfl rfl) trivial rfl rfl fun a hs => ?_
    refine wpList_nil ?_
    have hsh := Option.some.inj hsh
    subst hsh
    refine then_normal ?_
    exact ⟨Sv83, (hs.wk rfl), (hw.ft [] [0] (by decide) rfl rfl)⟩
  ·rintro a w ⟨Sv142, hs, hw⟩
   refine wpList_nil ?_
   refine then_normal ?_
   refine wp_cond_split (hs.ev rfl) (fun h157 => ?_) (fun h157 => ?_)
   ·have hsh := ite_t hsh h157
    refine wp_skip ?_
    refine then_normal ?_
    refine wp_block ?_
    refine wp_region_lit ?_
    refine st_val hs (y_move rfl) trivial rfl rfl fun a hs => ?_
    refine st_val hs (y_move rfl) trivial rfl rfl fun a hs => ?_
    refine st_val hs (y_len Try.runUnderlying29 rfl) trivial rfl rfl fun a hs => ?_
    refine st_val hs (y_sub rfl rfl) trivial rfl rfl fun a hs => ?_
    obtain ⟨l169, h164, hsh⟩ := bind_t hsh
    obtain ⟨p167, k168, h165, h166⟩ := sub_env (hw.envAt 0 rfl) h164
    have hw := hw.addE h165
    refine st_val hs (y_slc Try.runUnderlying29 Try.sizeOf3 rfl (by exact rfl) ⟨_, rfl⟩ h166) trivial rfl rfl fun a hs => ?_
    refine st_val hs (y_assign rfl) trivial rfl rfl fun a hs => ?_
    refine wpList_nil ?_
    refine blk_normal ?_
    refine then_normal ?_
    exact ⟨_, (Option.some.inj hsh).symm, p167, k168, Sv142, (hs.wk rfl), (hw.ft [] [0] (by decide) rfl rfl)⟩
   ·have hsh := ite_f hsh h157
    refine wp_exit ?_
    refine then_exit ?_
    refine then_exit ?_
    refine blk_exit ?_
    have hsh := Option.some.inj hsh
    subst hsh
    have h170 := hd120 _ rfl
    subst h170
    refine then_normal ?_
    exact ⟨p81, k82, Sv142, (hs.wk rfl), (hw.ft [] [0] (by decide) rfl rfl)⟩
 ·rintro a w ⟨p124, k125, Sv126, hs, hw⟩
  refine then_normal ?_
  refine wp_seq ?_
  refine wp_region_lit ?_
  refine st_val hs (y_move rfl) trivial rfl rfl fun a hs => ?_
  refine st_val hs (y_assign rfl) trivial rfl rfl fun a hs => ?_
  refine wpList_nil ?_
  refine then_normal ?_
  have hsh := Option.some.inj hsh
  subst hsh
  refine wp_ret ?_
  exact ret1 hs rfl (rv_tmp rfl) (hw.ret ⟨p124, k125, rfl, (hw.envAt 0 rfl)⟩)

abbrev ref17_mul_rd (w0 : World) (X : List Nat) (r : (List Int)) : (Nat → Prop) → World → Value → Prop := fun S w v => ∃ (p0_0 : Option Addr) (k0_0 : Nat), v = .slice p0_0 r.length k0_0 ∧ (SlA p0_0 r.length k0_0 r).p S w
set_option maxHeartbeats 4000000 in
set_option maxRecDepth 100000 in
theorem ref17_mul_ok {w0 : World} {S0 : Nat → Prop} {p2 : Option Addr} {k3 : Nat} {p6 : Option Addr} {k7 : Nat} {a1 : (List Int)} {b5 : (List Int)} {r : (List Int)} (hsh : ref17_mul a1 b5 = some r) (hS : ∀ b, S0 b → b < w0.heap.size) (h4 : (SlA p2 a1.length k3 a1).p S0 w0) (h8 : (SlA p6 b5.length k7 b5).p S0 w0) : Calls Try.prog 46 #[.slice p2 a1.length k3, .slice p6 b5.length k7] w0 (Ret ([]) w0 S0 (ref17_mul_rd w0 ([]) r)) := by
 refine calls_of_wp Try.func46 rfl ?_
 have hs := Sl.enter #[.slice p2 a1.length k3, .slice p6 b5.length k7] 65 [(0, .slice p2 a1.length k3), (1, .slice p6 b5.length k7)] rfl ⟨rfl, rfl, trivial⟩
 have hw := Wd.enter (E := []) hS (fun _ h => (by cases h))
 have hw := hw.addE h4
 have hw := hw.addE h8
 delta ref17_mul at hsh
 refine wp_seq ?_
 refine wp_region_lit ?_
 refine st_val hs (y_assign rfl) trivial rfl rfl fun a hs => ?_
 refine wpList_nil ?_
 refine then_normal ?_
 refine wp_seq ?_
 refine wp_region_lit ?_
 refine st_val hs (y_move rfl) trivial rfl rfl fun a hs => ?_
 refine st_val hs (y_len Try.runUnderlying29 rfl) trivial rfl rfl fun a hs => ?_
 refine st_val hs (y_move rfl) trivial rfl rfl fun a hs => ?_
 refine st_val hs (y_len Try.runUnderlying29 rfl) trivial rfl rfl fun a hs => ?_
 refine st_val hs (y_add rfl rfl) trivial rfl rfl fun a hs => ?_
 obtain ⟨l10, h9, hsh⟩ := bind_t hsh
 refine w_make (α := Int) hs hw El29 ⟨_, rfl, rfl⟩ rfl rfl h9 rfl trivial ?_
 intro p11 c12 a w hs hw
 refine st_val hs (y_assign rfl) trivial rfl rfl fun a hs => ?_
 refine wpList_nil ?_
 refine then_normal ?_
 refine wp_seq ?_
 refine wp_seq ?_
 refine wp_region_lit ?_
 refine st_val hs (y_assign rfl) trivial rfl rfl fun a hs => ?_
 refine wpList_nil ?_
 refine then_normal ?_
 obtain ⟨e688, h1307, hsh⟩ := bind_t hsh
 refine wp_join (fun a w => ∃ (c689 : List Value) (p690 : Option Addr) (k691 : Nat) (Sv692 : Nat → Prop), Sl 65 [(5, .slice p690 e688.length k691)] a ∧ Wd ⟨w0, S0, []⟩ Sv692 [.row p690 e688.length k691 c689 3 1] [RowA c689 e688] w) ?_ ?_
 ·refine wp_block ?_
  refine wp_while (fun sv13 a w => ∃ (c460 : List Value) (p461 : Option Addr) (k462 : Nat) (Sv463 : Nat → Prop), Sl 65 [(0, .slice p2 a1.length k3), (1, .slice p6 b5.length k7), (5, .slice p461 sv13.1.length k462), (6, .int .i64 sv13.2)] a ∧ Wd ⟨w0, S0, []⟩ Sv463 [.row p461 sv13.1.length k462 c460 3 1] [SlA p2 a1.length k3 a1, SlA p6 b5.length k7 b5, RowA c460 sv13.1] w) (l10, 0) h1307 ⟨c12, p11, l10.length, S0, (hs.wk rfl), (hw.ft [0] [2, 1, 0] (by decide) rfl rfl)⟩ ?_
  clear h1307
  repeat clear hsh
  rintro sv13 a w tv686 ⟨c460, p461, k462, Sv463, hs, hw⟩ hsh hd685
  delta ref17_mul_l3 at hsh
  refine wp_seq ?_
  refine wp_seq ?_
  refine wp_region_lit ?_
  refine st_val hs (y_move rfl) trivial rfl rfl fun a hs => ?_
  refine st_val hs (y_move rfl) trivial rfl rfl fun a hs => ?_
  refine st_val hs (y_len Try.runUnderlying29 rfl) trivial rfl rfl fun a hs => ?_
  refine st_val hs (y_lss rfl rfl) trivial rfl rfl fun a hs => ?_
  refine wpList_nil ?_
  refine then_normal ?_
  refine wp_cond_split (hs.ev rfl) (fun h694 => ?_) (fun h694 => ?_)
  ·have hsh := ite_t hsh h694
   refine wp_skip ?_
   refine then_normal ?_
   refine wp_seq ?_
   refine wp_block ?_
   refine wp_seq ?_
   refine wp_region_lit ?_
   refine st_val hs (y_assign rfl) trivial rfl rfl fun a hs => ?_
   refine wpList_nil ?_
   refine then_normal ?_
   refine wp_seq ?_
   refine wp_region_lit ?_
   refine st_val hs (y_assign rfl) trivial rfl rfl fun a hs => ?_
   refine wpList_nil ?_
   refine then_normal ?_
   obtain ⟨e1126, h1294, hsh⟩ := bind_t hsh
   refine wp_join (fun a w => ∃ (c1127 : List Value) (p1128 : Option Addr) (k1129 : Nat) (Sv1130 : Nat → Prop), Sl 65 [(0, .slice p2 a1.length k3), (1, .slice p6 b5.length k7), (5, .slice p1128 e1126.length k1129), (6, .int .i64 sv13.2)] a ∧ Wd ⟨w0, S0, []⟩ Sv1130 [.row p1128 e1126.length k1129 c1127 3 1] [SlA p2 a1.length k3 a1, SlA p6 b5.length k7 b5, RowA c1127 e1126] w) ?_ ?_
   ·refine wp_block ?_
    refine wp_while (fun sv913 a w => ∃ (c1052 : List Value) (p1053 : Option Addr) (k1054 : Nat) (Sv1055 : Nat → Prop), Sl 65 [(0, .slice p2 a1.length k3), (1, .slice p6 b5.length k7), (5, .slice p1053 sv913.1.length k1054), (6, .int .i64 sv13.2), (7, .int .i64 sv913.2.1), (8, .int .i64 sv913.2.2)] a ∧ Wd ⟨w0, S0, []⟩ Sv1055 [.row p1053 sv913.1.length k1054 c1052 3 1] [SlA p2 a1.length k3 a1, SlA p6 b5.length k7 b5, RowA c1052 sv913.1] w) (sv13.1, 0, 0) h1294 ⟨c460, p461, k462, Sv463, (hs.wk rfl), (hw.ft [0] [0, 1, 2] (by decide) rfl rfl)⟩ ?_
    clear h1294
    repeat clear hsh
    rintro sv913 a w tv1124 ⟨c1052, p1053, k1054, Sv1055, hs, hw⟩ hsh hd1123
    delta ref17_mul_l6 at hsh
    refine wp_seq ?_
    refine wp_seq ?_
    refine wp_region_lit ?_
    refine st_val hs (y_move rfl) trivial rfl rfl fun a hs => ?_
    refine st_val hs (y_move rfl) trivial rfl rfl fun a hs => ?_
    refine st_val hs (y_len Try.runUnderlying29 rfl) trivial rfl rfl fun a hs => ?_
    refine st_val hs (y_lss rfl rfl) trivial rfl rfl fun a hs => ?_
    refine st_val hs (y_move rfl) trivial rfl rfl fun a hs => ?_
    refine wpl_join 3 (fun a w1 => w = w1 ∧ Sl 65 [(0, .slice p2 a1.length k3), (1, .slice p6 b5.length k7), (5, .slice p1053 sv913.1.length k1054), (6, .int .i64 sv13.2), (7, .int .i64 sv913.2.1), (8, .int .i64 sv913.2.2), (28, .bool ((decide (sv913.2.2 < (b5.length : Int))) || (decide (0 < sv913.2.1))))] a) ?_ ?_
    ·rcases Bool.eq_false_or_eq_true (decide (sv913.2.2 < (b5.length : Int))) with h1131 | h1131
     ·have hs := hs.fix 25 (.bool true) rfl (vb h1131)
      refine st_skip hs rfl rfl rfl rfl rfl fun a hs => ?_
      refine st_skip hs rfl rfl rfl rfl rfl fun a hs => ?_
      refine st_val hs (y_pickT rfl rfl) trivial rfl rfl fun a hs => ?_
      refine wpList_nil ?_
      refine then_normal ?_
      exact ⟨rfl, (hs.fix 28 (.bool ((decide (sv913.2.2 < (b5.length : Int))) || (decide (0 < sv913.2.1)))) rfl (or_t h1131)).weaken _ ⟨rfl, rfl, rfl, rfl, rfl, rfl, rfl, trivial⟩⟩
     ·have hs := hs.fix 25 (.bool false) rfl (vb h1131)
      refine st_val hs (y_move rfl) ⟨_, rfl, rfl⟩ rfl rfl fun a hs => ?_
      refine st_val hs (y_gtr rfl rfl) ⟨_, rfl, rfl⟩ rfl rfl fun a hs => ?_
      refine st_val hs (y_pickF rfl rfl) trivial rfl rfl fun a hs => ?_
      refine wpList_nil ?_
      refine then_normal ?_
      exact ⟨rfl, (hs.fix 28 (.bool ((decide (sv913.2.2 < (b5.length : Int))) || (decide (0 < sv913.2.1)))) rfl (or_f h1131)).weaken _ ⟨rfl, rfl, rfl, rfl, rfl, rfl, rfl, trivial⟩⟩
    ·rintro a w1 ⟨h1291, hs⟩
     subst h1291
     refine wpList_nil ?_
     refine then_normal ?_
     refine wp_cond_split (hs.ev rfl) (fun h1133 => ?_) (fun h1133 => ?_)
     ·have hsh := ite_t hsh h1133
      refine wp_skip ?_
      refine then_normal ?_
      refine wp_seq ?_
      refine wp_block ?_
      refine wp_seq ?_
      refine wp_region_lit ?_
      refine st_val hs (y_move rfl) trivial rfl rfl fun a hs => ?_
      refine st_val hs (y_move rfl) trivial rfl rfl fun a hs => ?_
      refine st_val hs (y_move rfl) trivial rfl rfl fun a hs => ?_
      refine st_val hs (y_move rfl) trivial rfl rfl fun a hs => ?_
      refine st_val hs (y_add rfl rfl) trivial rfl rfl fun a hs => ?_
      obtain ⟨x1198, h1196, hsh⟩ := bind_t hsh
      obtain ⟨b1205, q1202, c1203, h1206, h1199, h1200, h1204, h1197⟩ := hw.elemRV (α := Int) 0 rfl 2 rfl h1196
      have hsv1207 := hs
      have hwv1208 := hw
      subst h1206
      have hs := hsv1207
      have hw := hwv1208
      obtain ⟨_, rfl, rfl⟩ := h1197
      refine st_val hs (y_indexAt Try.runUnderlying29 Try.sizeOf3 rfl rfl h1199.1 h1199.2 h1200) trivial rfl rfl fun a hs => ?_
      refine st_val hs (y_loadQ1 (j := 0) (hw.ownAt 0 rfl) rfl Try.isAgg3 h1204 rfl) trivial rfl rfl fun a hs => ?_
      refine st_val hs (y_add rfl rfl) trivial rfl rfl fun a hs => ?_
      obtain ⟨carry1210, h1209, hsh⟩ := bind_t hsh
      refine st_val hs (y_assignI rfl h1209) trivial rfl rfl fun a hs => ?_
      refine wpList_nil ?_
      refine then_normal ?_
      refine wp_seq ?_
      refine wp_seq ?_
      refine wp_region_lit ?_
      refine st_val hs (y_move rfl) trivial rfl rfl fun a hs => ?_
      refine st_val hs (y_move rfl) trivial rfl rfl fun a hs => ?_
      refine st_val hs (y_len Try.runUnderlying29 rfl) trivial rfl rfl fun a hs => ?_
      refine st_val hs (y_lss rfl rfl) trivial rfl rfl fun a hs => ?_
      refine wpList_nil ?_
      refine then_normal ?_
      refine wp_join (fun a w => ∃ (carry1242 : Int) (Sv1241 : Nat → Prop), ref17_mul_j1 sv13 sv913 carry1242 = some tv1124 ∧ Sl 65 [(0, .slice p2 a1.length k3), (1, .slice p6 b5.length k7), (5, .slice (some ⟨b1205, 0, none⟩) sv913.1.length k1054), (6, .int .i64 sv13.2), (7, .int .i64 carry1242), (8, .int .i64 sv913.2.2)] a ∧ Wd ⟨w0, S0, []⟩ Sv1241 [.row (some ⟨b1205, 0, none⟩) sv913.1.length k1054 c1052 3 1] [SlA p2 a1.length k3 a1, SlA p6 b5.length k7 b5, RowA c1052 sv913.1] w) ?_ ?_
      ·refine wp_cond_split (hs.ev rfl) (fun h1260 => ?_) (fun h1260 => ?_)
       ·have hsh := ite_t hsh h1260
        obtain ⟨x1263, h1261, hsh⟩ := bind_t hsh
        obtain ⟨b1269, o1270, q1267, c1268, h1271, h1264, h1265, h1266, h1262⟩ := hw.elemV 0 rfl h1261
        have hsv1272 := hs
        have hwv1273 := hw
        subst h1271
        have hs := hsv1272
        have hw := hwv1273
        obtain ⟨_, rfl, rfl⟩ := h1262
        have hw := hw.addE h1266
        obtain ⟨x1276, h1274, hsh⟩ := bind_t hsh
        obtain ⟨b1282, o1283, q1280, c1281, h1284, h1277, h1278, h1279, h1275⟩ := hw.elemV 2 rfl h1274
        have hsv1285 := hs
        have hwv1286 := hw
        subst h1284
        have hs := hsv1285
        have hw := hwv1286
        obtain ⟨_, rfl, rfl⟩ := h1275
        have hw := hw.addE h1279
        obtain ⟨carry1288, h1287, hsh⟩ := bind_t hsh
        refine wp_only (fun a w => ∃ (Sv1289 : Nat → Prop), Sl 65 [(0, .slice (some ⟨b1269, o1270, none⟩) a1.length k3), (1, .slice (some ⟨b1282, o1283, none⟩) b5.length k7), (5, .slice (some ⟨b1205, 0, none⟩) sv913.1.length k1054), (6, .int .i64 sv13.2), (7, .int .i64 carry1288), (8, .int .i64 sv913.2.2)] a ∧ Wd ⟨w0, S0, []⟩ Sv1289 [.row (some ⟨b1205, 0, none⟩) sv913.1.length k1054 c1052 3 1] [SlA (some ⟨b1269, o1270, none⟩) a1.length k3 a1, SlA (some ⟨b1282, o1283, none⟩) b5.length k7 b5, RowA c1052 sv913.1] w) ?_ ?_
        ·refine h_b (C := Cls [.row (some ⟨b1205, 0, none⟩) sv913.1.length k1054 c1052 3 1] [CeA b1282 q1280 [.int .i64 x1276], CeA b1269 q1267 [.int .i64 x1263]]) (by kernel_rfl) rfl (hw.drew.cs [0] [0, 1] rfl rfl) fun hC => ?_
         have hw := hw.drew
         refine h_g hs 0 rfl (by kernel_rfl) rfl rfl hC rfl (fun w hC => y_move rfl) fun a hs => ?_
         refine h_g hs 1 rfl (by kernel_rfl) rfl rfl hC rfl (fun w hC => y_move rfl) fun a hs => ?_
         refine h_g hs 2 rfl (by kernel_rfl) rfl rfl hC rfl (fun w hC => y_move rfl) fun a hs => ?_
         refine h_g hs 3 rfl (by kernel_rfl) rfl rfl hC rfl (fun w hC => y_indexAt Try.runUnderlying29 Try.sizeOf3 rfl rfl h1264.1 h1264.2 h1265) fun a hs => ?_
         refine h_g hs 4 rfl (by kernel_rfl) rfl rfl hC rfl (fun w hC => y_loadE1 (j := 0) (hC.ceAt 1 rfl) rfl Try.isAgg3 rfl) fun a hs => ?_
         refine h_g hs 5 rfl (by kernel_rfl) rfl rfl hC rfl (fun w hC => y_move rfl) fun a hs => ?_
         refine h_g hs 6 rfl (by kernel_rfl) rfl rfl hC rfl (fun w hC => y_move rfl) fun a hs => ?_
         refine h_g hs 7 rfl (by kernel_rfl) rfl rfl hC rfl (fun w hC => y_indexAt Try.runUnderlying29 Try.sizeOf3 rfl rfl h1277.1 h1277.2 h1278) fun a hs => ?_
         refine h_g hs 8 rfl (by kernel_rfl) rfl rfl hC rfl (fun w hC => y_loadE1 (j := 0) (hC.ceAt 0 rfl) rfl Try.isAgg3 rfl) fun a hs => ?_
         refine h_g hs 9 rfl (by kernel_rfl) rfl rfl hC rfl (fun w hC => y_mul rfl rfl) fun a hs => ?_
         refine h_g hs 10 rfl (by kernel_rfl) rfl rfl hC rfl (fun w hC => y_add rfl rfl) fun a hs => ?_
         refine h_g hs 11 rfl (by kernel_rfl) rfl rfl hC rfl (fun w hC => y_assignI rfl h1287) fun a hs => ?_
         refine h_done (by kernel_rfl) ?_
         exact ⟨Sv1055, (hs.wk rfl), (hw.ft [0] [2, 3, 4] (by decide) rfl rfl)⟩
        ·rintro a w ⟨Sv1289, hs, hw⟩
         refine then_normal ?_
         exact ⟨carry1288, Sv1289, hsh, (hs.wk rfl), (hw.ft [0] [0, 1, 2] (by decide) rfl rfl)⟩
       ·have hsh := ite_f hsh h1260
        refine wp_skip ?_
        refine then_normal ?_
        exact ⟨carry1210, Sv1055, hsh, (hs.wk rfl), (hw.ft [0] [0, 1, 2] (by decide) rfl rfl)⟩
      ·rintro a w ⟨carry1242, Sv1241, hsh, hs, hw⟩
       delta ref17_mul_j1 at hsh
       refine then_normal ?_
       refine wp_seq ?_
       refine wp_region_lit ?_
       refine st_val hs (y_move rfl) trivial rfl rfl fun a hs => ?_
       refine st_val hs (y_move rfl) trivial rfl rfl fun a hs => ?_
       refine st_val hs (y_move rfl) trivial rfl rfl fun a hs => ?_
       refine st_val hs (y_add rfl rfl) trivial rfl rfl fun a hs => ?_
       refine st_val hs (y_move rfl) trivial rfl rfl fun a hs => ?_
       refine st_val hs (y_rem rfl rfl (by decide)) trivial rfl rfl fun a hs => ?_
       obtain ⟨x1245, h1243, hsh⟩ := bind_t hsh
       obtain ⟨q1249, c1250, h1246, h1247, h1251, h1244⟩ := hw.elemRK (α := Int) 0 rfl 2 rfl h1243
       obtain ⟨_, rfl, rfl⟩ := h1244
       refine st_val hs (y_indexAt Try.runUnderlying29 Try.sizeOf3 rfl rfl h1246.1 h1246.2 h1247) trivial rfl rfl fun a hs => ?_
       obtain ⟨l1253, h1252, hsh⟩ := bind_t hsh
       refine w_storeF (α := Int) hs hw 0 rfl 2 rfl h1247 rfl rfl Try.sizeOf3 rfl h1252 ⟨_, rfl, rfl⟩ trivial ?_
       intro c1254 a w hs hw
       have h1255 := setM_len h1252
       try have hs := hs.fix 5 (.slice (some ⟨b1205, 0, none⟩) l1253.length k1054) rfl (by rw [h1255])
       try have hs := hs.fix 54 (.slice (some ⟨b1205, 0, none⟩) l1253.length k1054) rfl (by rw [h1255])
       refine wpList_nil ?_
       refine then_normal ?_
       refine wp_region_lit ?_
       refine st_val hs (y_move rfl) trivial rfl rfl fun a hs => ?_
       refine st_val hs (y_quo rfl rfl (by decide)) trivial rfl rfl fun a hs => ?_
       obtain ⟨carry1257, h1256, hsh⟩ := bind_t hsh
       refine st_val hs (y_assignI rfl h1256) trivial rfl rfl fun a hs => ?_
       refine wpList_nil ?_
       refine blk_normal ?_
       refine then_normal ?_
       refine wp_region_lit ?_
       refine st_val hs (y_move rfl) trivial rfl rfl fun a hs => ?_
       refine st_val hs (y_add rfl rfl) trivial rfl rfl fun a hs => ?_
       obtain ⟨k1259, h1258, hsh⟩ := bind_t hsh
       refine st_val hs (y_assignI rfl h1258) trivial rfl rfl fun a hs => ?_
       refine wpList_nil ?_
       refine then_normal ?_
       exact ⟨_, (Option.some.inj hsh).symm, c1254, (some ⟨b1205, 0, none⟩), k1054, Sv1241, (hs.wk rfl), (hw.ft [0] [1, 2, 0] (by decide) rfl rfl)⟩
     ·have hsh := ite_f hsh h1133
      refine wp_exit ?_
      refine then_exit ?_
      refine then_exit ?_
      refine blk_exit ?_
      have hsh := Option.some.inj hsh
      subst hsh
      have h1290 := hd1123 _ rfl
      subst h1290
      refine then_normal ?_
      exact ⟨c1052, p1053, k1054, Sv1055, (hs.wk rfl), (hw.ft [0] [0, 1, 2] (by decide) rfl rfl)⟩
   ·rintro a w ⟨c1127, p1128, k1129, Sv1130, hs, hw⟩
    refine blk_normal ?_
    refine then_normal ?_
    refine wp_region_lit ?_
    refine st_val hs (y_move rfl) trivial rfl rfl fun a hs => ?_
    refine st_val hs (y_add rfl rfl) trivial rfl rfl fun a hs => ?_
    obtain ⟨i1293, h1292, hsh⟩ := bind_t hsh
    refine st_val hs (y_assignI rfl h1292) trivial rfl rfl fun a hs => ?_
    refine wpList_nil ?_
    refine then_normal ?_
    exact ⟨_, (Option.some.inj hsh).symm, c1127, p1128, k1129, Sv1130, (hs.wk rfl), (hw.ft [0] [0, 1, 2] (by decide) rfl rfl)⟩
  ·have hsh := ite_f hsh h694
   refine wp_exit ?_
   refine then_exit ?_
   refine then_exit ?_
   refine blk_exit ?_
   have hsh := Option.some.inj hsh
   subst hsh
   have h1295 := hd685 _ rfl
   subst h1295
   refine then_normal ?_
   exact ⟨c460, p461, k462, Sv463, (hs.wk rfl), (hw.ft [0] [2] (by decide) rfl rfl)⟩
 ·rintro a w ⟨c689, p690, k691, Sv692, hs, hw⟩
  refine then_normal ?_
  refine wp_seq ?_
  refine wp_region_lit ?_
  refine st_val hs (y_move rfl) trivial rfl rfl fun a hs => ?_
  obtain ⟨rv1297, h1296, hsh⟩ := bind_t hsh
  obtain ⟨Sv1301, hw⟩ := w_share (α := Int) hw 0 rfl 0 rfl
  refine st_callR hs (ref17_trim_ok h1296 hw.dom (hw.envAt 0 rfl)) (do_call Try.call79 rfl) trivial rfl rfl ?_
  intro v1305 Sv1302 w a h1303 h1304 hs
  obtain ⟨p1298, k1299, rfl, h1300⟩ := h1304
  have hw := hw.call h1303
  have hw := hw.addE (e := SlA p1298 rv1297.length k1299 rv1297) h1300
  refine st_val hs (y_assign rfl) trivial rfl rfl fun a hs => ?_
  refine wpList_nil ?_
  refine then_normal ?_
  have hsh := Option.some.inj hsh
  subst hsh
  refine wp_ret ?_
  exact ret1 hs rfl (rv_tmp rfl) (hw.ret ⟨p1298, k1299, rfl, (hw.envAt 0 rfl)⟩)

abbrev ref17_compare_rd (w0 : World) (X : List Nat) (r : Int) : (Nat → Prop) → World → Value → Prop := fun S w v => v = .int .i64 r
set_option maxHeartbeats 4000000 in
set_option maxRecDepth 100000 in
theorem ref17_compare_ok {w0 : World} {S0 : Nat → Prop} {p2 : Option Addr} {k3 : Nat} {p6 : Option Addr} {k7 : Nat} {a1 : (List Int)} {b5 : (List Int)} {r : Int} (hsh : ref17_compare a1 b5 = some r) (hS : ∀ b, S0 b → b < w0.heap.size) (h4 : (SlA p2 a1.length k3 a1).p S0 w0) (h8 : (SlA p6 b5.length k7 b5).p S0 w0) : Calls Try.prog 45 #[.slice p2 a1.length k3, .slice p6 b5.length k7] w0 (Ret ([]) w0 S0 (ref17_compare_rd w0 ([]) r)) := by
 refine calls_of_wp Try.func45 rfl ?_
 have hs := Sl.enter #[.slice p2 a1.length k3, .slice p6 b5.length k7] 41 [(0, .slice p2 a1.length k3), (1, .slice p6 b5.length k7)] rfl ⟨rfl, rfl, trivial⟩
 have hw := Wd.enter (E := []) hS (fun _ h => (by cases h))
 have hw := hw.addE h4
 have hw := hw.addE h8
 delta ref17_compare at hsh
 refine wp_seq ?_
 refine wp_region_lit ?_
 refine st_val hs (y_assign rfl) trivial rfl rfl fun a hs => ?_
 refine wpList_nil ?_
 refine then_normal ?_
 refine wp_seq ?_
 refine wp_seq ?_
 refine wp_region_lit ?_
 refine st_val hs (y_move rfl) trivial rfl rfl fun a hs => ?_
 refine st_val hs (y_len Try.runUnderlying29 rfl) trivial rfl rfl fun a hs => ?_
 refine st_val hs (y_move rfl) trivial rfl rfl fun a hs => ?_
 refine st_val hs (y_len Try.runUnderlying29 rfl) trivial rfl rfl fun a hs => ?_
 refine st_val hs (y_neq rfl rfl) trivial rfl rfl fun a hs => ?_
 refine wpList_nil ?_
 refine then_normal ?_
 refine wp_cond_split (hs.ev rfl) (fun h11 => ?_) (fun h11 => ?_)
 ·have hsh := ite_t hsh h11
  refine wp_seq ?_
  refine wp_seq ?_
  refine wp_region_lit ?_
  refine st_val hs (y_move rfl) trivial rfl rfl fun a hs => ?_
  refine st_val hs (y_len Try.runUnderlying29 rfl) trivial rfl rfl fun a hs => ?_
  refine st_val hs (y_move rfl) trivial rfl rfl fun a hs => ?_
  refine st_val hs (y_len Try.runUnderlying29 rfl) trivial rfl rfl fun a hs => ?_
  refine st_val hs (y_lss rfl rfl) trivial rfl rfl fun a hs => ?_
  refine wpList_nil ?_
  refine then_normal ?_
  refine wp_cond_split (hs.ev rfl) (fun h13 => ?_) (fun h13 => ?_)
  ·have hsh := ite_t hsh h13
   refine wp_seq ?_
   refine wp_region_lit ?_
   refine st_val hs (y_assign rfl) trivial rfl rfl fun a hs => ?_
   refine wpList_nil ?_
   refine then_normal ?_
   have hsh := Option.some.inj hsh
   subst hsh
   refine wp_ret ?_
   refine then_ret ?_
   refine then_ret ?_
   exact ret1 hs rfl (rv_tmp rfl) (hw.ret rfl)
  ·have hsh := ite_f hsh h13
   refine wp_skip ?_
   refine then_normal ?_
   refine wp_seq ?_
   refine wp_region_lit ?_
   refine st_val hs (y_assign rfl) trivial rfl rfl fun a hs => ?_
   refine wpList_nil ?_
   refine then_normal ?_
   have hsh := Option.some.inj hsh
   subst hsh
   refine wp_ret ?_
   refine then_ret ?_
   exact ret1 hs rfl (rv_tmp rfl) (hw.ret rfl)
 ·have hsh := ite_f hsh h11
  refine wp_skip ?_
  refine then_normal ?_
  refine wp_seq ?_
  refine wp_seq ?_
  refine wp_region_lit ?_
  refine st_val hs (y_move rfl) trivial rfl rfl fun a hs => ?_
  refine st_val hs (y_len Try.runUnderlying29 rfl) trivial rfl rfl fun a hs => ?_
  refine st_val hs (y_sub rfl rfl) trivial rfl rfl fun a hs => ?_
  obtain ⟨i15, h14, hsh⟩ := bind_t hsh
  refine st_val hs (y_assignI rfl h14) trivial rfl rfl fun a hs => ?_
  refine wpList_nil ?_
  refine then_normal ?_
  refine wp_block ?_
  refine wp_while (fun sv168 a w => ∃ (Sv268 : Nat → Prop), Sl 41 [(0, .slice p2 a1.length k3), (1, .slice p6 b5.length k7), (5, .int .i64 sv168)] a ∧ Wd ⟨w0, S0, []⟩ Sv268 [] [SlA p2 a1.length k3 a1, SlA p6 b5.length k7 b5] w) i15 hsh ⟨S0, (hs.wk rfl), (hw.ft [] [1, 0] (by decide) rfl rfl)⟩ ?_
  repeat clear hsh
  rintro sv168 a w tv319 ⟨Sv268, hs, hw⟩ hsh hd318
  delta ref17_compare_l2 at hsh
  refine wp_seq ?_
  refine wp_seq ?_
  refine wp_region_lit ?_
  refine st_val hs (y_move rfl) trivial rfl rfl fun a hs => ?_
  refine st_val hs (y_geq rfl rfl) trivial rfl rfl fun a hs => ?_
  refine wpList_nil ?_
  refine then_normal ?_
  refine wp_cond_split (hs.ev rfl) (fun h323 => ?_) (fun h323 => ?_)
  ·have hsh := ite_t hsh h323
   refine wp_skip ?_
   refine then_normal ?_
   refine wp_seq ?_
   refine wp_block ?_
   refine wp_seq ?_
   obtain ⟨x372, h370, hsh⟩ := bind_t hsh
   obtain ⟨b378, o379, q376, c377, h380, h373, h374, h375, h371⟩ := hw.elemV 0 rfl h370
   have hsv381 := hs
   have hwv382 := hw
   subst h380
   have hs := hsv381
   have hw := hwv382
   obtain ⟨_, rfl, rfl⟩ := h371
   have hw := hw.addE h375
   obtain ⟨x385, h383, hsh⟩ := bind_t hsh
   obtain ⟨b391, o392, q389, c390, h393, h386, h387, h388, h384⟩ := hw.elemV 2 rfl h383
   have hsv394 := hs
   have hwv395 := hw
   subst h393
   have hs := hsv394
   have hw := hwv395
   obtain ⟨_, rfl, rfl⟩ := h384
   have hw := hw.addE h388
   refine wp_only (fun a w => ∃ (Sv396 : Nat → Prop), Sl 41 [(0, .slice (some ⟨b378, o379, none⟩) a1.length k3), (1, .slice (some ⟨b391, o392, none⟩) b5.length k7), (5, .int .i64 sv168), (31, .bool (x372 != x385))] a ∧ Wd ⟨w0, S0, []⟩ Sv396 [] [SlA (some ⟨b378, o379, none⟩) a1.length k3 a1, SlA (some ⟨b391, o392, none⟩) b5.length k7 b5] w) ?_ ?_
   ·refine h_b (C := Cls [] [CeA b391 q389 [.int .i64 x385], CeA b378 q376 [.int .i64 x372]]) (by kernel_rfl) rfl (hw.drew.cs [] [0, 1] rfl rfl) fun hC => ?_
    have hw := hw.drew
    refine h_g hs 0 rfl (by kernel_rfl) rfl rfl hC rfl (fun w hC => y_move rfl) fun a hs => ?_
    refine h_g hs 1 rfl (by kernel_rfl) rfl rfl hC rfl (fun w hC => y_move rfl) fun a hs => ?_
    refine h_g hs 2 rfl (by kernel_rfl) rfl rfl hC rfl (fun w hC => y_indexAt Try.runUnderlying29 Try.sizeOf3 rfl rfl h373.1 h373.2 h374) fun a hs => ?_
    refine h_g hs 3 rfl (by kernel_rfl) rfl rfl hC rfl (fun w hC => y_loadE1 (j := 0) (hC.ceAt 1 rfl) rfl Try.isAgg3 rfl) fun a hs => ?_
    refine h_g hs 4 rfl (by kernel_rfl) rfl rfl hC rfl (fun w hC => y_move rfl) fun a hs => ?_
    refine h_g hs 5 rfl (by kernel_rfl) rfl rfl hC rfl (fun w hC => y_move rfl) fun a hs => ?_
    refine h_g hs 6 rfl (by kernel_rfl) rfl rfl hC rfl (fun w hC => y_indexAt Try.runUnderlying29 Try.sizeOf3 rfl rfl h386.1 h386.2 h387) fun a hs => ?_
    refine h_g hs 7 rfl (by kernel_rfl) rfl rfl hC rfl (fun w hC => y_loadE1 (j := 0) (hC.ceAt 0 rfl) rfl Try.isAgg3 rfl) fun a hs => ?_
    refine h_g hs 8 rfl (by kernel_rfl) rfl rfl hC rfl (fun w hC => y_neq rfl rfl) fun a hs => ?_
    refine h_done (by kernel_rfl) ?_
    exact ⟨Sv268, (hs.wk rfl), (hw.ft [] [2, 3] (by decide) rfl rfl)⟩
   ·rintro a w ⟨Sv396, hs, hw⟩
    refine then_normal ?_
    refine wp_cond_split (hs.ev rfl) (fun h416 => ?_) (fun h416 => ?_)
    ·have hsh := ite_t hsh h416
     refine wp_seq ?_
     refine wp_seq ?_
     obtain ⟨x419, h417, hsh⟩ := bind_t hsh
     obtain ⟨q423, c424, h420, h421, h422, h418⟩ := hw.elemK 0 rfl h417
     obtain ⟨_, rfl, rfl⟩ := h418
     have hw := hw.addE h422
     obtain ⟨x427, h425, hsh⟩ := bind_t hsh
     obtain ⟨q431, c432, h428, h429, h430, h426⟩ := hw.elemK 2 rfl h425
     obtain ⟨_, rfl, rfl⟩ := h426
     have hw := hw.addE h430
     refine wp_only (fun a w => ∃ (Sv433 : Nat → Prop), Sl 41 [(40, .bool (decide (x419 < x427)))] a ∧ Wd ⟨w0, S0, []⟩ Sv433 [] [] w) ?_ ?_
     ·refine h_b (C := Cls [] [CeA b391 q431 [.int .i64 x427], CeA b378 q423 [.int .i64 x419]]) (by kernel_rfl) rfl (hw.drew.cs [] [0, 1] rfl rfl) fun hC => ?_
      have hw := hw.drew
      refine h_g hs 0 rfl (by kernel_rfl) rfl rfl hC rfl (fun w hC => y_move rfl) fun a hs => ?_
      refine h_g hs 1 rfl (by kernel_rfl) rfl rfl hC rfl (fun w hC => y_move rfl) fun a hs => ?_
      refine h_g hs 2 rfl (by kernel_rfl) rfl rfl hC rfl (fun w hC => y_indexAt Try.runUnderlying29 Try.sizeOf3 rfl rfl h420.1 h420.2 h421) fun a hs => ?_
      refine h_g hs 3 rfl (by kernel_rfl) rfl rfl hC rfl (fun w hC => y_loadE1 (j := 0) (hC.ceAt 1 rfl) rfl Try.isAgg3 rfl) fun a hs => ?_
      refine h_g hs 4 rfl (by kernel_rfl) rfl rfl hC rfl (fun w hC => y_move rfl) fun a hs => ?_
      refine h_g hs 5 rfl (by kernel_rfl) rfl rfl hC rfl (fun w hC => y_move rfl) fun a hs => ?_
      refine h_g hs 6 rfl (by kernel_rfl) rfl rfl hC rfl (fun w hC => y_indexAt Try.runUnderlying29 Try.sizeOf3 rfl rfl h428.1 h428.2 h429) fun a hs => ?_
      refine h_g hs 7 rfl (by kernel_rfl) rfl rfl hC rfl (fun w hC => y_loadE1 (j := 0) (hC.ceAt 0 rfl) rfl Try.isAgg3 rfl) fun a hs => ?_
      refine h_g hs 8 rfl (by kernel_rfl) rfl rfl hC rfl (fun w hC => y_lss rfl rfl) fun a hs => ?_
      refine h_done (by kernel_rfl) ?_
      exact ⟨Sv396, (hs.wk rfl), (hw.ft [] [] (by decide) rfl rfl)⟩
     ·rintro a w ⟨Sv433, hs, hw⟩
      refine then_normal ?_
      refine wp_cond_split (hs.ev rfl) (fun h435 => ?_) (fun h435 => ?_)
      ·have hsh := ite_t hsh h435
       refine wp_seq ?_
       refine wp_region_lit ?_
       refine st_val hs (y_assign rfl) trivial rfl rfl fun a hs => ?_
       refine wpList_nil ?_
       refine then_normal ?_
       have hsh := Option.some.inj hsh
       subst hsh
       have h436 := hd318 _ rfl
       subst h436
       refine wp_ret ?_
       refine then_ret ?_
       refine blk_ret ?_
       refine then_ret ?_
       refine then_ret ?_
       refine blk_ret ?_
       refine then_ret ?_
       exact ret1 hs rfl (rv_tmp rfl) (hw.ret rfl)
      ·have hsh := ite_f hsh h435
       refine wp_skip ?_
       refine then_normal ?_
       refine wp_seq ?_
       refine wp_region_lit ?_
       refine st_val hs (y_assign rfl) trivial rfl rfl fun a hs => ?_
       refine wpList_nil ?_
       refine then_normal ?_
       have hsh := Option.some.inj hsh
       subst hsh
       have h437 := hd318 _ rfl
       subst h437
       refine wp_ret ?_
       refine blk_ret ?_
       refine then_ret ?_
       refine then_ret ?_
       refine blk_ret ?_
       refine then_ret ?_
       exact ret1 hs rfl (rv_tmp rfl) (hw.ret rfl)
    ·have hsh := ite_f hsh h416
     refine wp_skip ?_
     refine blk_normal ?_
     refine then_normal ?_
     refine wp_region_lit ?_
     refine st_val hs (y_move rfl) trivial rfl rfl fun a hs => ?_
     refine st_val hs (y_sub rfl rfl) trivial rfl rfl fun a hs => ?_
     obtain ⟨i439, h438, hsh⟩ := bind_t hsh
     refine st_val hs (y_assignI rfl h438) trivial rfl rfl fun a hs => ?_
     refine wpList_nil ?_
     refine then_normal ?_
     exact ⟨_, (Option.some.inj hsh).symm, Sv396, (hs.wk rfl), (hw.ft [] [0, 1] (by decide) rfl rfl)⟩
  ·have hsh := ite_f hsh h323
   obtain ⟨rv440, hsh, h441⟩ := map_t hsh
   have h441 := (hd318 _ h441.symm).symm
   subst h441
   refine wp_exit ?_
   refine then_exit ?_
   refine then_exit ?_
   refine blk_exit ?_
   refine then_normal ?_
   refine wp_seq ?_
   refine wp_region_lit ?_
   refine st_val hs (y_assign rfl) trivial rfl rfl fun a hs => ?_
   refine wpList_nil ?_
   refine then_normal ?_
   have hsh := Option.some.inj hsh
   subst hsh
   refine wp_ret ?_
   exact ret1 hs rfl (rv_tmp rfl) (hw.ret rfl)

abbrev ref17_Equal_rd (w0 : World) (X : List Nat) (r : (Bool × Int)) : (Nat → Prop) → World → Value → Prop := fun S w v => v = .tuple #[.bool r.1, .int .i64 r.2]
set_option maxHeartbeats 4000000 in
set_option maxRecDepth 100000 in
theorem ref17_Equal_ok {w0 : World} {S0 : Nat → Prop} {p2 : Option Addr} {k3 : Nat} {p4 : Option Addr} {k5 : Nat} {p9 : Option Addr} {k10 : Nat} {p11 : Option Addr} {k12 : Nat} {a1 : Fraction} {b8 : Fraction} {r : (Bool × Int)} (hsh : ref17_Equal a1 b8 = some r) (hS : ∀ b, S0 b → b < w0.heap.size) (h6 : (SlA p2 a1.Num.length k3 a1.Num).p S0 w0) (h7 : (SlA p4 a1.Den.length k5 a1.Den).p S0 w0) (h13 : (SlA p9 b8.Num.length k10 b8.Num).p S0 w0) (h14 : (SlA p11 b8.Den.length k12 b8.Den).p S0 w0) : Calls Try.prog 11 #[.agg #[.slice p2 a1.Num.length k3, .slice p4 a1.Den.length k5], .agg #[.slice p9 b8.Num.length k10, .slice p11 b8.Den.length k12]] w0 (Ret ([]) w0 S0 (ref17_Equal_rd w0 ([]) r)) := by
 refine calls_of_wp Try.func11 rfl ?_
 have hs := Sl.enter #[.agg #[.slice p2 a1.Num.length k3, .slice p4 a1.Den.length k5], .agg #[.slice p9 b8.Num.length k10, .slice p11 b8.Den.length k12]] 26 [(0, .agg #[.slice p2 a1.Num.length k3, .slice p4 a1.Den.length k5]), (1, .agg #[.slice p9 b8.Num.length k10, .slice p11 b8.Den.length k12])] rfl ⟨rfl, rfl, trivial⟩
 have hw := Wd.enter (E := []) hS (fun _ h => (by cases h))
 have hw := hw.addE h6
 have hw := hw.addE h7
 have hw := hw.addE h13
 have hw := hw.addE h14
 delta ref17_Equal at hsh
 refine wp_seq ?_
 refine wp_region_lit ?_
 refine w_box (cs := [.slice p2 a1.Num.length k3, .slice p4 a1.Den.length k5]) hs hw rfl rfl rfl trivial ?_
 intro b15 a w hs hw
 refine w_box (cs := [.slice p9 b8.Num.length k10, .slice p11 b8.Den.length k12]) hs hw rfl rfl rfl trivial ?_
 intro b16 a w hs hw
 refine st_val hs (y_assign rfl) trivial rfl rfl fun a hs => ?_
 refine st_val hs (y_assign rfl) trivial rfl rfl fun a hs => ?_
 refine wpList_nil ?_
 refine then_normal ?_
 refine wp_seq ?_
 refine wp_seq ?_
 refine wp_region_lit ?_
 refine st_val hs (y_loadBA (hw.ownAt 1 rfl) rfl Try.isAgg31 Try.sizeOf31 rfl rfl) trivial rfl rfl fun a hs => ?_
 obtain ⟨rv18, h17, hsh⟩ := bind_t hsh
 refine st_callR hs (ref17_ValidFraction_ok h17 hw.bdom (hw.bE 3 rfl) (hw.bE 2 rfl)) (do_call Try.call44 rfl) trivial rfl rfl ?_
 intro v22 Sv19 w a h20 h21 hs
 subst h21
 have hw := hw.callB h20
 refine st_val hs (y_not rfl) trivial rfl rfl fun a hs => ?_
 refine st_val hs (y_move rfl) trivial rfl rfl fun a hs => ?_
 obtain ⟨c32, hc32, hsh⟩ := bind_t hsh
 refine wpl_join 4 (fun a w => ∃ (Sv33 : Nat → Prop), Sl 26 [(2, .pointer (some ⟨b15, 0, none⟩)), (3, .pointer (some ⟨b16, 0, none⟩)), (13, .bool c32)] a ∧ Wd ⟨w0, S0, []⟩ Sv33 [.box b15 [.slice p2 a1.Num.length k3, .slice p4 a1.Den.length k5] 31, .box b16 [.slice p9 b8.Num.length k10, .slice p11 b8.Den.length k12] 31] [SlA p2 a1.Num.length k3 a1.Num, SlA p4 a1.Den.length k5 a1.Den, SlA p9 b8.Num.length k10 b8.Num, SlA p11 b8.Den.length k12 b8.Den] w) ?_ ?_
 ·rcases Bool.eq_false_or_eq_true (!rv18) with h31 | h31
  ·have hs := hs.fix 9 (.bool true) rfl (vb h31)
   have hsh := ite_t hc32 h31
   refine st_skip hs rfl rfl rfl rfl rfl fun a hs => ?_
   refine st_skip hs rfl rfl rfl rfl rfl fun a hs => ?_
   refine st_skip hs rfl rfl rfl rfl rfl fun a hs => ?_
   refine st_val hs (y_pickT rfl rfl) trivial rfl rfl fun a hs => ?_
   refine wpList_nil ?_
   have hsh := Option.some.inj hsh
   subst hsh
   refine then_normal ?_
   exact ⟨S0, (hs.wk rfl), (hw.ft [1, 0] [3, 2, 1, 0] (by decide) rfl rfl)⟩
  ·have hs := hs.fix 9 (.bool false) rfl (vb h31)
   have hsh := ite_f hc32 h31
   refine st_val hs (y_loadBA (hw.ownAt 0 rfl) rfl Try.isAgg31 Try.sizeOf31 rfl rfl) ⟨_, rfl, rfl⟩ rfl rfl fun a hs => ?_
   obtain ⟨rv35, h34, hsh⟩ := bind_t hsh
   refine st_callR hs (ref17_ValidFraction_ok h34 hw.bdom (hw.bE 1 rfl) (hw.bE 0 rfl)) (do_call Try.call44 rfl) ⟨_, rfl, rfl⟩ rfl rfl ?_
   intro v39 Sv36 w a h37 h38 hs
   subst h38
   have hw := hw.callB h37
   refine st_val hs (y_not rfl) ⟨_, rfl, rfl⟩ rfl rfl fun a hs => ?_
   refine st_val hs (y_pickF rfl rfl) trivial rfl rfl fun a hs => ?_
   refine wpList_nil ?_
   have hsh := Option.some.inj hsh
   subst hsh
   refine then_normal ?_
   exact ⟨S0, (hs.wk rfl), (hw.ft [1, 0] [3, 2, 1, 0] (by decide) rfl rfl)⟩
 ·rintro a w ⟨Sv33, hs, hw⟩
  refine wpList_nil ?_
  refine then_normal ?_
  refine wp_cond_split (hs.ev rfl) (fun h42 => ?_) (fun h42 => ?_)
  ·have hsh := ite_t hsh h42
   refine wp_seq ?_
   refine wp_region_lit ?_
   refine st_val hs (y_assign rfl) trivial rfl rfl fun a hs => ?_
   refine st_val hs (y_assign rfl) trivial rfl rfl fun a hs => ?_
   refine wpList_nil ?_
   refine then_normal ?_
   have hsh := Option.some.inj hsh
   subst hsh
   refine wp_ret ?_
   refine then_ret ?_
   exact ret2 hs rfl (rv_tmp rfl) (rv_tmp rfl) (hw.ret rfl)
  ·have hsh := ite_f hsh h42
   refine wp_skip ?_
   refine then_normal ?_
   refine wp_seq ?_
   obtain ⟨rv44, h43, hsh⟩ := bind_t hsh
   obtain ⟨rv49, h48, hsh⟩ := bind_t hsh
   obtain ⟨rv54, h53, hsh⟩ := bind_t hsh
   refine wp_only (fun a w => ∃ (Sv55 : Nat → Prop), Sl 26 [(4, .bool (rv54 == 0)), (5, .int .i64 0)] a ∧ Wd ⟨w0, S0, []⟩ Sv55 [] [] w) ?_ ?_
   ·refine h_b (C := Cls [.box b15 [.slice p2 a1.Num.length k3, .slice p4 a1.Den.length k5] 31, .box b16 [.slice p9 b8.Num.length k10, .slice p11 b8.Den.length k12] 31] []) (by kernel_rfl) rfl (hw.drew.cs [0, 1] [] rfl rfl) fun hC => ?_
    have hw := hw.drew
    refine h_g hs 0 rfl (by kernel_rfl) rfl rfl hC rfl (fun w hC => y_fieldAddr (o' := 0) Try.runUnderlying31 rfl Try.sizeOf29 rfl rfl rfl) fun a hs => ?_
    refine h_g hs 1 rfl (by kernel_rfl) rfl rfl hC rfl (fun w hC => y_loadB1 (hC.ownAt 0 rfl) rfl Try.isAgg29 rfl) fun a hs => ?_
    refine h_g hs 2 rfl (by kernel_rfl) rfl rfl hC rfl (fun w hC => y_fieldAddr (o' := 1) Try.runUnderlying31 rfl Try.sizeOf29 rfl rfl rfl) fun a hs => ?_
    refine h_g hs 3 rfl (by kernel_rfl) rfl rfl hC rfl (fun w hC => y_loadB1 (hC.ownAt 1 rfl) rfl Try.isAgg29 rfl) fun a hs => ?_
    refine h_g hs 5 rfl (by kernel_rfl) rfl rfl hC rfl (fun w hC => y_fieldAddr (o' := 0) Try.runUnderlying31 rfl Try.sizeOf29 rfl rfl rfl) fun a hs => ?_
    refine h_g hs 6 rfl (by kernel_rfl) rfl rfl hC rfl (fun w hC => y_loadB1 (hC.ownAt 1 rfl) rfl Try.isAgg29 rfl) fun a hs => ?_
    refine h_g hs 7 rfl (by kernel_rfl) rfl rfl hC rfl (fun w hC => y_fieldAddr (o' := 1) Try.runUnderlying31 rfl Try.sizeOf29 rfl rfl rfl) fun a hs => ?_
    refine h_g hs 8 rfl (by kernel_rfl) rfl rfl hC rfl (fun w hC => y_loadB1 (hC.ownAt 0 rfl) rfl Try.isAgg29 rfl) fun a hs => ?_
    refine h_one (i := 4) (by kernel_rfl) rfl ?_
    refine st_callR hs (ref17_mul_ok h43 hw.dom (hw.envAt 0 rfl) (hw.envAt 3 rfl)) (do_call Try.call46 rfl) trivial rfl rfl ?_
    intro v59 Sv56 w a h57 h58 hs
    obtain ⟨p45, k46, rfl, h47⟩ := h58
    have hw := hw.call h57
    have hw := hw.addE (e := SlA p45 rv44.length k46 rv44) h47
    refine h_nx (hw.cs [0, 1] [] rfl rfl) fun hC => ?_
    refine h_one (i := 9) (by kernel_rfl) rfl ?_
    refine st_callR hs (ref17_mul_ok h48 hw.dom (hw.envAt 3 rfl) (hw.envAt 2 rfl)) (do_call Try.call46 rfl) trivial rfl rfl ?_
    intro v64 Sv61 w a h62 h63 hs
    obtain ⟨p50, k51, rfl, h52⟩ := h63
    have hw := hw.call h62
    have hw := hw.addE (e := SlA p50 rv49.length k51 rv49) h52
    refine h_nx (hw.cs [0, 1] [] rfl rfl) fun hC => ?_
    refine h_one (i := 10) (by kernel_rfl) rfl ?_
    refine st_callR hs (ref17_compare_ok h53 hw.bdom (hw.bE 1 rfl) (hw.bE 0 rfl)) (do_call Try.call45 rfl) trivial rfl rfl ?_
    intro v69 Sv66 w a h67 h68 hs
    subst h68
    have hw := hw.callB h67
    refine h_nx (hw.cs [0, 1] [] rfl rfl) fun hC => ?_
    refine h_g hs 11 rfl (by kernel_rfl) rfl rfl hC rfl (fun w hC => y_eql rfl rfl) fun a hs => ?_
    refine h_g hs 12 rfl (by kernel_rfl) rfl rfl hC rfl (fun w hC => y_assign rfl) fun a hs => ?_
    refine h_g hs 13 rfl (by kernel_rfl) rfl rfl hC rfl (fun w hC => y_assign rfl) fun a hs => ?_
    refine h_done (by kernel_rfl) ?_
    exact ⟨Sv61, (hs.wk rfl), (hw.ft [] [] (by decide) rfl rfl)⟩
   ·rintro a w ⟨Sv55, hs, hw⟩
    refine then_normal ?_
    have hsh := Option.some.inj hsh
    subst hsh
    refine wp_ret ?_
    exact ret2 hs rfl (rv_tmp rfl) (rv_tmp rfl) (hw.ret rfl)

abbrev rate_in_rd (w0 : World) (X : List Nat) (r : Bool) : (Nat → Prop) → World → Value → Prop := fun S w v => v = .bool r
set_option maxHeartbeats 4000000 in
set_option maxRecDepth 100000 in
theorem rate_in_ok {w0 : World} {S0 : Nat → Prop} {n1 : Int} {low2 : Int} {high3 : Int} {r : Bool} (hsh : rate_in n1 low2 high3 = some r) (hS : ∀ b, S0 b → b < w0.heap.size) : Calls Try.prog 85 #[.int .i64 n1, .int .i64 low2, .int .i64 high3] w0 (Ret ([]) w0 S0 (rate_in_rd w0 ([]) r)) := by
 refine calls_of_wp Try.func85 rfl ?_
 have hs := Sl.enter #[.int .i64 n1, .int .i64 low2, .int .i64 high3] 15 [(0, .int .i64 n1), (1, .int .i64 low2), (2, .int .i64 high3)] rfl ⟨rfl, rfl, rfl, trivial⟩
 have hw := Wd.enter (E := []) hS (fun _ h => (by cases h))
 delta rate_in at hsh
 refine wp_seq ?_
 refine wp_region_lit ?_
 refine st_val hs (y_assign rfl) trivial rfl rfl fun a hs => ?_
 refine wpList_nil ?_
 refine then_normal ?_
 refine wp_seq ?_
 refine wp_region_lit ?_
 refine st_val hs (y_move rfl) trivial rfl rfl fun a hs => ?_
 refine st_val hs (y_move rfl) trivial rfl rfl fun a hs => ?_
 refine st_val hs (y_geq rfl rfl) trivial rfl rfl fun a hs => ?_
 refine st_val hs (y_move rfl) trivial rfl rfl fun a hs => ?_
 refine wpl_join 4 (fun a w1 => w0 = w1 ∧ Sl 15 [(14, .bool ((decide (low2 ≤ n1)) && (decide (n1 ≤ high3))))] a) ?_ ?_
 ·rcases Bool.eq_false_or_eq_true (decide (low2 ≤ n1)) with h4 | h4
  ·have hs := hs.fix 10 (.bool true) rfl (vb h4)
   refine st_val hs (y_move rfl) ⟨_, rfl, rfl⟩ rfl rfl fun a hs => ?_
   refine st_val hs (y_move rfl) ⟨_, rfl, rfl⟩ rfl rfl fun a hs => ?_
   refine st_val hs (y_leq rfl rfl) ⟨_, rfl, rfl⟩ rfl rfl fun a hs => ?_
   refine st_val hs (y_pickT rfl rfl) trivial rfl rfl fun a hs => ?_
   refine wpList_nil ?_
   refine then_normal ?_
   exact ⟨rfl, (hs.fix 14 (.bool ((decide (low2 ≤ n1)) && (decide (n1 ≤ high3)))) rfl (and_t h4)).weaken _ ⟨rfl, trivial⟩⟩
  ·have hs := hs.fix 10 (.bool false) rfl (vb h4)
   refine st_skip hs rfl rfl rfl rfl rfl fun a hs => ?_
   refine st_skip hs rfl rfl rfl rfl rfl fun a hs => ?_
   refine st_skip hs rfl rfl rfl rfl rfl fun a hs => ?_
   refine st_val hs (y_pickF rfl rfl) trivial rfl rfl fun a hs => ?_
   refine wpList_nil ?_
   refine then_normal ?_
   exact ⟨rfl, (hs.fix 14 (.bool ((decide (low2 ≤ n1)) && (decide (n1 ≤ high3)))) rfl (and_f h4)).weaken _ ⟨rfl, trivial⟩⟩
 ·rintro a w1 ⟨h5, hs⟩
  subst h5
  refine st_val hs (y_assign rfl) trivial rfl rfl fun a hs => ?_
  refine wpList_nil ?_
  refine then_normal ?_
  have hsh := Option.some.inj hsh
  subst hsh
  refine wp_ret ?_
  exact ret1 hs rfl (rv_tmp rfl) (hw.ret rfl)

abbrev rate_gcd_rd (w0 : World) (X : List Nat) (r : Int) : (Nat → Prop) → World → Value → Prop := fun S w v => v = .int .i64 r
set_option maxHeartbeats 4000000 in
set_option maxRecDepth 100000 in
theorem rate_gcd_ok {w0 : World} {S0 : Nat → Prop} {a1 : Int} {b2 : Int} {r : Int} (hsh : rate_gcd a1 b2 = some r) (hS : ∀ b, S0 b → b < w0.heap.size) : Calls Try.prog 86 #[.int .i64 a1, .int .i64 b2] w0 (Ret ([]) w0 S0 (rate_gcd_rd w0 ([]) r)) := by
 refine calls_of_wp Try.func86 rfl ?_
 have hs := Sl.enter #[.int .i64 a1, .int .i64 b2] 12 [(0, .int .i64 a1), (1, .int .i64 b2)] rfl ⟨rfl, rfl, trivial⟩
 have hw := Wd.enter (E := []) hS (fun _ h => (by cases h))
 delta rate_gcd at hsh
 refine wp_seq ?_
 refine wp_region_lit ?_
 refine st_val hs (y_assign rfl) trivial rfl rfl fun a hs => ?_
 refine wpList_nil ?_
 refine then_normal ?_
 refine wp_seq ?_
 obtain ⟨e21, h32, hsh⟩ := bind_t hsh
 refine wp_join (fun a w => ∃ (Sv22 : Nat → Prop), Sl 12 [(0, .int .i64 e21)] a ∧ Wd ⟨w0, S0, []⟩ Sv22 [] [] w) ?_ ?_
 ·refine wp_block ?_
  refine wp_while (fun sv3 a w => ∃ (Sv13 : Nat → Prop), Sl 12 [(0, .int .i64 sv3.1), (1, .int .i64 sv3.2)] a ∧ Wd ⟨w0, S0, []⟩ Sv13 [] [] w) (a1, b2) h32 ⟨S0, (hs.wk rfl), (hw.ft [] [] (by decide) rfl rfl)⟩ ?_
  clear h32
  repeat clear hsh
  rintro sv3 a w tv19 ⟨Sv13, hs, hw⟩ hsh hd18
  delta rate_gcd_l1 at hsh
  refine wp_seq ?_
  refine wp_seq ?_
  refine wp_region_lit ?_
  refine st_val hs (y_move rfl) trivial rfl rfl fun a hs => ?_
  refine st_val hs (y_neq rfl rfl) trivial rfl rfl fun a hs => ?_
  refine wpList_nil ?_
  refine then_normal ?_
  refine wp_cond_split (hs.ev rfl) (fun h24 => ?_) (fun h24 => ?_)
  ·have hsh := ite_t hsh h24
   refine wp_skip ?_
   refine then_normal ?_
   refine wp_block ?_
   obtain ⟨rem29, h28, hsh⟩ := bind_t hsh
   refine wp_only (fun a w => ∃ (Sv30 : Nat → Prop), Sl 12 [(0, .int .i64 sv3.2), (1, .int .i64 rem29)] a ∧ Wd ⟨w0, S0, []⟩ Sv30 [] [] w) ?_ ?_
   ·refine h_b (C := Cls [] []) (by kernel_rfl) rfl (hw.drew.cs [] [] rfl rfl) fun hC => ?_
    have hw := hw.drew
    refine h_g hs 0 rfl (by kernel_rfl) rfl rfl hC rfl (fun w hC => y_move rfl) fun a hs => ?_
    refine h_g hs 1 rfl (by kernel_rfl) rfl rfl hC rfl (fun w hC => y_move rfl) fun a hs => ?_
    refine h_g hs 2 rfl (by kernel_rfl) rfl rfl hC rfl (fun w hC => y_move rfl) fun a hs => ?_
    refine h_g hs 3 rfl (by kernel_rfl) rfl rfl hC rfl (fun w hC => y_remM rfl rfl h28) fun a hs => ?_
    refine h_g hs 4 rfl (by kernel_rfl) rfl rfl hC rfl (fun w hC => y_assign rfl) fun a hs => ?_
    refine h_g hs 5 rfl (by kernel_rfl) rfl rfl hC rfl (fun w hC => y_assign rfl) fun a hs => ?_
    refine h_done (by kernel_rfl) ?_
    exact ⟨Sv13, (hs.wk rfl), (hw.ft [] [] (by decide) rfl rfl)⟩
   ·rintro a w ⟨Sv30, hs, hw⟩
    refine blk_normal ?_
    refine then_normal ?_
    exact ⟨_, (Option.some.inj hsh).symm, Sv30, (hs.wk rfl), (hw.ft [] [] (by decide) rfl rfl)⟩
  ·have hsh := ite_f hsh h24
   refine wp_exit ?_
   refine then_exit ?_
   refine then_exit ?_
   refine blk_exit ?_
   have hsh := Option.some.inj hsh
   subst hsh
   have h31 := hd18 _ rfl
   subst h31
   refine then_normal ?_
   exact ⟨Sv13, (hs.wk rfl), (hw.ft [] [] (by decide) rfl rfl)⟩
 ·rintro a w ⟨Sv22, hs, hw⟩
  refine then_normal ?_
  refine wp_seq ?_
  refine wp_region_lit ?_
  refine st_val hs (y_move rfl) trivial rfl rfl fun a hs => ?_
  refine st_val hs (y_assign rfl) trivial rfl rfl fun a hs => ?_
  refine wpList_nil ?_
  refine then_normal ?_
  have hsh := Option.some.inj hsh
  subst hsh
  refine wp_ret ?_
  exact ret1 hs rfl (rv_tmp rfl) (hw.ret rfl)

abbrev rate_Valid_rd (w0 : World) (X : List Nat) (r : Bool) : (Nat → Prop) → World → Value → Prop := fun S w v => v = .bool r
set_option maxHeartbeats 4000000 in
set_option maxRecDepth 100000 in
theorem rate_Valid_ok {w0 : World} {S0 : Nat → Prop} {r1 : Rate} {r : Bool} (hsh : rate_Valid r1 = some r) (hS : ∀ b, S0 b → b < w0.heap.size) : Calls Try.prog 52 #[.agg #[.int .i64 r1.Num, .int .i64 r1.Den]] w0 (Ret ([]) w0 S0 (rate_Valid_rd w0 ([]) r)) := by
 refine calls_of_wp Try.func52 rfl ?_
 have hs := Sl.enter #[.agg #[.int .i64 r1.Num, .int .i64 r1.Den]] 19 [(0, .agg #[.int .i64 r1.Num, .int .i64 r1.Den])] rfl ⟨rfl, trivial⟩
 have hw := Wd.enter (E := []) hS (fun _ h => (by cases h))
 delta rate_Valid at hsh
 refine wp_seq ?_
 refine wp_region_lit ?_
 refine w_box (cs := [.int .i64 r1.Num, .int .i64 r1.Den]) hs hw rfl rfl rfl trivial ?_
 intro b2 a w hs hw
 refine st_val hs (y_assign rfl) trivial rfl rfl fun a hs => ?_
 refine wpList_nil ?_
 refine then_normal ?_
 refine wp_seq ?_
 refine wp_region_lit ?_
 refine st_val hs (y_fieldAddr (o' := 0) Try.runUnderlying51 rfl Try.sizeOf3 rfl rfl rfl) trivial rfl rfl fun a hs => ?_
 refine st_val hs (y_loadB1 (hw.ownAt 0 rfl) rfl Try.isAgg3 rfl) trivial rfl rfl fun a hs => ?_
 obtain ⟨rv4, h3, hsh⟩ := bind_t hsh
 refine st_callR hs (rate_in_ok h3 hw.bdom) (do_call Try.call85 rfl) trivial rfl rfl ?_
 intro v8 Sv5 w a h6 h7 hs
 subst h7
 have hw := hw.callB h6
 refine st_val hs (y_move rfl) trivial rfl rfl fun a hs => ?_
 obtain ⟨c18, hc18, hsh⟩ := bind_t hsh
 refine wpl_join 4 (fun a w => ∃ (Sv19 : Nat → Prop), Sl 19 [(1, .pointer (some ⟨b2, 0, none⟩)), (10, .bool c18)] a ∧ Wd ⟨w0, S0, []⟩ Sv19 [.box b2 [.int .i64 r1.Num, .int .i64 r1.Den] 51] [] w) ?_ ?_
 ·rcases Bool.eq_false_or_eq_true rv4 with h17 | h17
  ·have hs := hs.fix 6 (.bool true) rfl (vb h17)
   have hsh := ite_t hc18 h17
   refine st_val hs (y_fieldAddr (o' := 1) Try.runUnderlying51 rfl Try.sizeOf3 rfl rfl rfl) ⟨_, rfl, rfl⟩ rfl rfl fun a hs => ?_
   refine st_val hs (y_loadB1 (hw.ownAt 0 rfl) rfl Try.isAgg3 rfl) ⟨_, rfl, rfl⟩ rfl rfl fun a hs => ?_
   obtain ⟨rv21, h20, hsh⟩ := bind_t hsh
   refine st_callR hs (rate_in_ok h20 hw.bdom) (do_call Try.call85 rfl) ⟨_, rfl, rfl⟩ rfl rfl ?_
   intro v25 Sv22 w a h23 h24 hs
   subst h24
   have hw := hw.callB h23
   refine st_val hs (y_pickT rfl rfl) trivial rfl rfl fun a hs => ?_
   refine wpList_nil ?_
   have hsh := Option.some.inj hsh
   subst hsh
   refine then_normal ?_
   exact ⟨S0, (hs.wk rfl), (hw.ft [0] [] (by decide) rfl rfl)⟩
  ·have hs := hs.fix 6 (.bool false) rfl (vb h17)
   have hsh := ite_f hc18 h17
   refine st_skip hs rfl rfl rfl rfl rfl fun a hs => ?_
   refine st_skip hs rfl rfl rfl rfl rfl fun a hs => ?_
   refine st_skip hs rfl rfl rfl rfl rfl fun a hs => ?_
   refine st_val hs (y_pickF rfl rfl) trivial rfl rfl fun a hs => ?_
   refine wpList_nil ?_
   have hsh := Option.some.inj hsh
   subst hsh
   refine then_normal ?_
   exact ⟨S0, (hs.wk rfl), (hw.ft [0] [] (by decide) rfl rfl)⟩
 ·rintro a w ⟨Sv19, hs, hw⟩
  refine st_val hs (y_move rfl) trivial rfl rfl fun a hs => ?_
  obtain ⟨c35, hc35, hsh⟩ := bind_t hsh
  refine wpl_join 7 (fun a w => ∃ (Sv36 : Nat → Prop), Sl 19 [(18, .bool c35)] a ∧ Wd ⟨w0, S0, []⟩ Sv36 [] [] w) ?_ ?_
  ·rcases Bool.eq_false_or_eq_true c18 with h34 | h34
   ·have hs := hs.fix 11 (.bool true) rfl (vb h34)
    have hsh := ite_t hc35 h34
    refine st_val hs (y_fieldAddr (o' := 0) Try.runUnderlying51 rfl Try.sizeOf3 rfl rfl rfl) ⟨_, rfl, rfl⟩ rfl rfl fun a hs => ?_
    refine st_val hs (y_loadB1 (hw.ownAt 0 rfl) rfl Try.isAgg3 rfl) ⟨_, rfl, rfl⟩ rfl rfl fun a hs => ?_
    refine st_val hs (y_fieldAddr (o' := 1) Try.runUnderlying51 rfl Try.sizeOf3 rfl rfl rfl) ⟨_, rfl, rfl⟩ rfl rfl fun a hs => ?_
    refine st_val hs (y_loadB1 (hw.ownAt 0 rfl) rfl Try.isAgg3 rfl) ⟨_, rfl, rfl⟩ rfl rfl fun a hs => ?_
    obtain ⟨rv38, h37, hsh⟩ := bind_t hsh
    refine st_callR hs (rate_gcd_ok h37 hw.bdom) (do_call Try.call86 rfl) ⟨_, rfl, rfl⟩ rfl rfl ?_
    intro v42 Sv39 w a h40 h41 hs
    subst h41
    have hw := hw.callB h40
    refine st_val hs (y_eql rfl rfl) ⟨_, rfl, rfl⟩ rfl rfl fun a hs => ?_
    refine st_val hs (y_pickT rfl rfl) trivial rfl rfl fun a hs => ?_
    refine wpList_nil ?_
    have hsh := Option.some.inj hsh
    subst hsh
    refine then_normal ?_
    exact ⟨Sv19, (hs.wk rfl), (hw.ft [] [] (by decide) rfl rfl)⟩
   ·have hs := hs.fix 11 (.bool false) rfl (vb h34)
    have hsh := ite_f hc35 h34
    refine st_skip hs rfl rfl rfl rfl rfl fun a hs => ?_
    refine st_skip hs rfl rfl rfl rfl rfl fun a hs => ?_
    refine st_skip hs rfl rfl rfl rfl rfl fun a hs => ?_
    refine st_skip hs rfl rfl rfl rfl rfl fun a hs => ?_
    refine st_skip hs rfl rfl rfl rfl rfl fun a hs => ?_
    refine st_skip hs rfl rfl rfl rfl rfl fun a hs => ?_
    refine st_val hs (y_pickF rfl rfl) trivial rfl rfl fun a hs => ?_
    refine wpList_nil ?_
    have hsh := Option.some.inj hsh
    subst hsh
    refine then_normal ?_
    exact ⟨Sv19, (hs.wk rfl), (hw.ft [] [] (by decide) rfl rfl)⟩
  ·rintro a w ⟨Sv36, hs, hw⟩
   refine st_val hs (y_assign rfl) trivial rfl rfl fun a hs => ?_
   refine wpList_nil ?_
   refine then_normal ?_
   have hsh := Option.some.inj hsh
   subst hsh
   refine wp_ret ?_
   exact ret1 hs rfl (rv_tmp rfl) (hw.ret rfl)

abbrev response_symmetric_rd (w0 : World) (X : List Nat) (r : Bool) : (Nat → Prop) → World → Value → Prop := fun S w v => v = .bool r
set_option maxHeartbeats 4000000 in
set_option maxRecDepth 100000 in
theorem response_symmetric_ok {w0 : World} {S0 : Nat → Prop} {p2 : Option Addr} {k3 : Nat} {l1 : (List Int)} {r : Bool} (hsh : response_symmetric l1 = some r) (hS : ∀ b, S0 b → b < w0.heap.size) (h4 : (SlA p2 l1.length k3 l1).p S0 w0) : Calls Try.prog 54 #[.slice p2 l1.length k3] w0 (Ret ([]) w0 S0 (response_symmetric_rd w0 ([]) r)) := by
 refine calls_of_wp Try.func54 rfl ?_
 have hs := Sl.enter #[.slice p2 l1.length k3] 23 [(0, .slice p2 l1.length k3)] rfl ⟨rfl, trivial⟩
 have hw := Wd.enter (E := []) hS (fun _ h => (by cases h))
 have hw := hw.addE h4
 delta response_symmetric at hsh
 refine wp_seq ?_
 refine wp_region_lit ?_
 refine st_val hs (y_assign rfl) trivial rfl rfl fun a hs => ?_
 refine wpList_nil ?_
 refine then_normal ?_
 refine wp_seq ?_
 refine wp_seq ?_
 refine wp_region_lit ?_
 refine st_val hs (y_move rfl) trivial rfl rfl fun a hs => ?_
 refine st_val hs (y_len Try.runUnderlying24 rfl) trivial rfl rfl fun a hs => ?_
 refine st_val hs (y_move rfl) trivial rfl rfl fun a hs => ?_
 refine wpList_nil ?_
 refine then_normal ?_
 refine wp_block ?_
 refine wp_while (fun sv82 a w => ∃ (Sv132 : Nat → Prop), Sl 23 [(0, .slice p2 l1.length k3), (5, .int .i64 (l1.length : Int)), (6, .int .i64 sv82)] a ∧ Wd ⟨w0, S0, []⟩ Sv132 [] [SlA p2 l1.length k3 l1] w) 0 hsh ⟨S0, (hs.wk rfl), (hw.ft [] [0] (by decide) rfl rfl)⟩ ?_
 repeat clear hsh
 rintro sv82 a w tv158 ⟨Sv132, hs, hw⟩ hsh hd157
 delta response_symmetric_l2 at hsh
 refine wp_seq ?_
 refine wp_region_lit ?_
 refine st_val hs (y_lss rfl rfl) trivial rfl rfl fun a hs => ?_
 refine wpList_nil ?_
 refine then_normal ?_
 refine wp_seq ?_
 refine wp_cond_split (hs.ev rfl) (fun h162 => ?_) (fun h162 => ?_)
 ·have hsh := ite_t hsh h162
  refine wp_skip ?_
  refine then_normal ?_
  refine wp_seq ?_
  refine wp_block ?_
  refine wp_seq ?_
  refine wp_region_lit ?_
  refine st_val hs (y_move rfl) trivial rfl rfl fun a hs => ?_
  refine st_val hs (y_assign rfl) trivial rfl rfl fun a hs => ?_
  refine wpList_nil ?_
  refine then_normal ?_
  refine wp_seq ?_
  obtain ⟨x188, h186, hsh⟩ := bind_t hsh
  obtain ⟨b194, o195, q192, c193, h196, h189, h190, h191, h187⟩ := hw.elemV 0 rfl h186
  have hsv197 := hs
  have hwv198 := hw
  subst h196
  have hs := hsv197
  have hw := hwv198
  obtain ⟨_, rfl, rfl⟩ := h187
  have hw := hw.addE h191
  obtain ⟨x201, h199, hsh⟩ := bind_t hsh
  obtain ⟨q205, c206, h202, h203, h204, h200⟩ := hw.elemK 1 rfl h199
  obtain ⟨_, rfl, rfl⟩ := h200
  have hw := hw.addE h204
  refine wp_only (fun a w => ∃ (Sv207 : Nat → Prop), Sl 23 [(0, .slice (some ⟨b194, o195, none⟩) l1.length k3), (5, .int .i64 (l1.length : Int)), (6, .int .i64 sv82), (21, .bool (x188 != x201))] a ∧ Wd ⟨w0, S0, []⟩ Sv207 [] [SlA (some ⟨b194, o195, none⟩) l1.length k3 l1] w) ?_ ?_
  ·refine h_b (C := Cls [] [CeA b194 q205 [.int .i64 x201], CeA b194 q192 [.int .i64 x188]]) (by kernel_rfl) rfl (hw.drew.cs [] [0, 1] rfl rfl) fun hC => ?_
   have hw := hw.drew
   refine h_g hs 0 rfl (by kernel_rfl) rfl rfl hC rfl (fun w hC => y_move rfl) fun a hs => ?_
   refine h_g hs 1 rfl (by kernel_rfl) rfl rfl hC rfl (fun w hC => y_move rfl) fun a hs => ?_
   refine h_g hs 2 rfl (by kernel_rfl) rfl rfl hC rfl (fun w hC => y_indexAt Try.runUnderlying24 Try.sizeOf3 rfl rfl h189.1 h189.2 h190) fun a hs => ?_
   refine h_g hs 3 rfl (by kernel_rfl) rfl rfl hC rfl (fun w hC => y_loadE1 (j := 0) (hC.ceAt 1 rfl) rfl Try.isAgg3 rfl) fun a hs => ?_
   refine h_g hs 4 rfl (by kernel_rfl) rfl rfl hC rfl (fun w hC => y_move rfl) fun a hs => ?_
   refine h_g hs 5 rfl (by kernel_rfl) rfl rfl hC rfl (fun w hC => y_move rfl) fun a hs => ?_
   refine h_g hs 6 rfl (by kernel_rfl) rfl rfl hC rfl (fun w hC => y_len Try.runUnderlying24 rfl) fun a hs => ?_
   refine h_g hs 7 rfl (by kernel_rfl) rfl rfl hC rfl (fun w hC => y_sub rfl rfl) fun a hs => ?_
   refine h_g hs 8 rfl (by kernel_rfl) rfl rfl hC rfl (fun w hC => y_move rfl) fun a hs => ?_
   refine h_g hs 9 rfl (by kernel_rfl) rfl rfl hC rfl (fun w hC => y_sub rfl rfl) fun a hs => ?_
   refine h_g hs 10 rfl (by kernel_rfl) rfl rfl hC rfl (fun w hC => y_indexAt Try.runUnderlying24 Try.sizeOf3 rfl rfl h202.1 h202.2 h203) fun a hs => ?_
   refine h_g hs 11 rfl (by kernel_rfl) rfl rfl hC rfl (fun w hC => y_loadE1 (j := 0) (hC.ceAt 0 rfl) rfl Try.isAgg3 rfl) fun a hs => ?_
   refine h_g hs 12 rfl (by kernel_rfl) rfl rfl hC rfl (fun w hC => y_neq rfl rfl) fun a hs => ?_
   refine h_done (by kernel_rfl) ?_
   exact ⟨Sv132, (hs.wk rfl), (hw.ft [] [2] (by decide) rfl rfl)⟩
  ·rintro a w ⟨Sv207, hs, hw⟩
   refine then_normal ?_
   refine wp_cond_split (hs.ev rfl) (fun h209 => ?_) (fun h209 => ?_)
   ·have hsh := ite_t hsh h209
    refine wp_seq ?_
    refine wp_region_lit ?_
    refine st_val hs (y_assign rfl) trivial rfl rfl fun a hs => ?_
    refine wpList_nil ?_
    refine then_normal ?_
    have hsh := Option.some.inj hsh
    subst hsh
    have h210 := hd157 _ rfl
    subst h210
    refine wp_ret ?_
    refine blk_ret ?_
    refine then_ret ?_
    refine then_ret ?_
    refine blk_ret ?_
    refine then_ret ?_
    exact ret1 hs rfl (rv_tmp rfl) (hw.ret rfl)
   ·have hsh := ite_f hsh h209
    refine wp_skip ?_
    refine blk_normal ?_
    refine then_normal ?_
    refine wp_region_lit ?_
    refine st_val hs (y_add rfl rfl) trivial rfl rfl fun a hs => ?_
    refine st_val hs (y_move rfl) trivial rfl rfl fun a hs => ?_
    refine wpList_nil ?_
    refine then_normal ?_
    exact ⟨_, (Option.some.inj hsh).symm, Sv207, (hs.wk rfl), (hw.ft [] [0] (by decide) rfl rfl)⟩
 ·have hsh := ite_f hsh h162
  obtain ⟨rv211, hsh, h212⟩ := map_t hsh
  have h212 := (hd157 _ h212.symm).symm
  subst h212
  refine wp_exit ?_
  refine then_exit ?_
  refine then_exit ?_
  refine blk_exit ?_
  refine then_normal ?_
  refine wp_seq ?_
  refine wp_region_lit ?_
  refine st_val hs (y_assign rfl) trivial rfl rfl fun a hs => ?_
  refine wpList_nil ?_
  refine then_normal ?_
  have hsh := Option.some.inj hsh
  subst hsh
  refine wp_ret ?_
  exact ret1 hs rfl (rv_tmp rfl) (hw.ret rfl)

abbrev response_gcd_rd (w0 : World) (X : List Nat) (r : Int) : (Nat → Prop) → World → Value → Prop := fun S w v => v = .int .i64 r
set_option maxHeartbeats 4000000 in
set_option maxRecDepth 100000 in
theorem response_gcd_ok {w0 : World} {S0 : Nat → Prop} {a1 : Int} {b2 : Int} {r : Int} (hsh : response_gcd a1 b2 = some r) (hS : ∀ b, S0 b → b < w0.heap.size) : Calls Try.prog 87 #[.int .i64 a1, .int .i64 b2] w0 (Ret ([]) w0 S0 (response_gcd_rd w0 ([]) r)) := by
 refine calls_of_wp Try.func87 rfl ?_
 have hs := Sl.enter #[.int .i64 a1, .int .i64 b2] 12 [(0, .int .i64 a1), (1, .int .i64 b2)] rfl ⟨rfl, rfl, trivial⟩
 have hw := Wd.enter (E := []) hS (fun _ h => (by cases h))
 delta response_gcd at hsh
 refine wp_seq ?_
 refine wp_region_lit ?_
 refine st_val hs (y_assign rfl) trivial rfl rfl fun a hs => ?_
 refine wpList_nil ?_
 refine then_normal ?_
 refine wp_seq ?_
 obtain ⟨e21, h32, hsh⟩ := bind_t hsh
 refine wp_join (fun a w => ∃ (Sv22 : Nat → Prop), Sl 12 [(0, .int .i64 e21)] a ∧ Wd ⟨w0, S0, []⟩ Sv22 [] [] w) ?_ ?_
 ·refine wp_block ?_
  refine wp_while (fun sv3 a w => ∃ (Sv13 : Nat → Prop), Sl 12 [(0, .int .i64 sv3.1), (1, .int .i64 sv3.2)] a ∧ Wd ⟨w0, S0, []⟩ Sv13 [] [] w) (a1, b2) h32 ⟨S0, (hs.wk rfl), (hw.ft [] [] (by decide) rfl rfl)⟩ ?_
  clear h32
  repeat clear hsh
  rintro sv3 a w tv19 ⟨Sv13, hs, hw⟩ hsh hd18
  delta response_gcd_l1 at hsh
  refine wp_seq ?_
  refine wp_seq ?_
  refine wp_region_lit ?_
  refine st_val hs (y_move rfl) trivial rfl rfl fun a hs => ?_
  refine st_val hs (y_neq rfl rfl) trivial rfl rfl fun a hs => ?_
  refine wpList_nil ?_
  refine then_normal ?_
  refine wp_cond_split (hs.ev rfl) (fun h24 => ?_) (fun h24 => ?_)
  ·have hsh := ite_t hsh h24
   refine wp_skip ?_
   refine then_normal ?_
   refine wp_block ?_
   obtain ⟨rem29, h28, hsh⟩ := bind_t hsh
   refine wp_only (fun a w => ∃ (Sv30 : Nat → Prop), Sl 12 [(0, .int .i64 sv3.2), (1, .int .i64 rem29)] a ∧ Wd ⟨w0, S0, []⟩ Sv30 [] [] w) ?_ ?_
   ·refine h_b (C := Cls [] []) (by kernel_rfl) rfl (hw.drew.cs [] [] rfl rfl) fun hC => ?_
    have hw := hw.drew
    refine h_g hs 0 rfl (by kernel_rfl) rfl rfl hC rfl (fun w hC => y_move rfl) fun a hs => ?_
    refine h_g hs 1 rfl (by kernel_rfl) rfl rfl hC rfl (fun w hC => y_move rfl) fun a hs => ?_
    refine h_g hs 2 rfl (by kernel_rfl) rfl rfl hC rfl (fun w hC => y_move rfl) fun a hs => ?_
    refine h_g hs 3 rfl (by kernel_rfl) rfl rfl hC rfl (fun w hC => y_remM rfl rfl h28) fun a hs => ?_
    refine h_g hs 4 rfl (by kernel_rfl) rfl rfl hC rfl (fun w hC => y_assign rfl) fun a hs => ?_
    refine h_g hs 5 rfl (by kernel_rfl) rfl rfl hC rfl (fun w hC => y_assign rfl) fun a hs => ?_
    refine h_done (by kernel_rfl) ?_
    exact ⟨Sv13, (hs.wk rfl), (hw.ft [] [] (by decide) rfl rfl)⟩
   ·rintro a w ⟨Sv30, hs, hw⟩
    refine blk_normal ?_
    refine then_normal ?_
    exact ⟨_, (Option.some.inj hsh).symm, Sv30, (hs.wk rfl), (hw.ft [] [] (by decide) rfl rfl)⟩
  ·have hsh := ite_f hsh h24
   refine wp_exit ?_
   refine then_exit ?_
   refine then_exit ?_
   refine blk_exit ?_
   have hsh := Option.some.inj hsh
   subst hsh
   have h31 := hd18 _ rfl
   subst h31
   refine then_normal ?_
   exact ⟨Sv13, (hs.wk rfl), (hw.ft [] [] (by decide) rfl rfl)⟩
 ·rintro a w ⟨Sv22, hs, hw⟩
  refine then_normal ?_
  refine wp_seq ?_
  refine wp_region_lit ?_
  refine st_val hs (y_move rfl) trivial rfl rfl fun a hs => ?_
  refine st_val hs (y_assign rfl) trivial rfl rfl fun a hs => ?_
  refine wpList_nil ?_
  refine then_normal ?_
  have hsh := Option.some.inj hsh
  subst hsh
  refine wp_ret ?_
  exact ret1 hs rfl (rv_tmp rfl) (hw.ret rfl)

abbrev response_faster_rd (w0 : World) (X : List Nat) (r : (Rate × Bool)) : (Nat → Prop) → World → Value → Prop := fun S w v => v = .tuple #[.agg #[.int .i64 r.1.Num, .int .i64 r.1.Den], .bool r.2]
set_option maxHeartbeats 4000000 in
set_option maxRecDepth 100000 in
theorem response_faster_ok {w0 : World} {S0 : Nat → Prop} {r1 : Rate} {n2 : Int} {r : (Rate × Bool)} (hsh : response_faster r1 n2 = some r) (hS : ∀ b, S0 b → b < w0.heap.size) : Calls Try.prog 53 #[.agg #[.int .i64 r1.Num, .int .i64 r1.Den], .int .i64 n2] w0 (Ret ([]) w0 S0 (response_faster_rd w0 ([]) r)) := by
 refine calls_of_wp Try.func53 rfl ?_
 have hs := Sl.enter #[.agg #[.int .i64 r1.Num, .int .i64 r1.Den], .int .i64 n2] 26 [(0, .agg #[.int .i64 r1.Num, .int .i64 r1.Den]), (1, .int .i64 n2)] rfl ⟨rfl, rfl, trivial⟩
 have hw := Wd.enter (E := []) hS (fun _ h => (by cases h))
 delta response_faster at hsh
 refine wp_seq ?_
 refine wp_region_lit ?_
 refine w_box (cs := [.int .i64 r1.Num, .int .i64 r1.Den]) hs hw rfl rfl rfl trivial ?_
 intro b3 a w hs hw
 refine w_alloc (cs := [.int .i64 0, .int .i64 0]) hs hw Try.zeroValue51 rfl rfl trivial ?_
 intro b4 a w hs hw
 refine st_val hs (y_assign rfl) trivial rfl rfl fun a hs => ?_
 refine wpList_nil ?_
 refine then_normal ?_
 refine wp_seq ?_
 refine wp_region_lit ?_
 refine st_val hs (y_fieldAddr (o' := 1) Try.runUnderlying51 rfl Try.sizeOf3 rfl rfl rfl) trivial rfl rfl fun a hs => ?_
 refine st_val hs (y_loadB1 (hw.ownAt 1 rfl) rfl Try.isAgg3 rfl) trivial rfl rfl fun a hs => ?_
 refine st_val hs (y_move rfl) trivial rfl rfl fun a hs => ?_
 obtain ⟨rv6, h5, hsh⟩ := bind_t hsh
 refine st_callR hs (response_gcd_ok h5 hw.bdom) (do_call Try.call87 rfl) trivial rfl rfl ?_
 intro v10 Sv7 w a h8 h9 hs
 subst h9
 have hw := hw.callB h8
 refine st_val hs (y_assign rfl) trivial rfl rfl fun a hs => ?_
 refine wpList_nil ?_
 refine then_normal ?_
 refine wp_seq ?_
 obtain ⟨quo13, h12, hsh⟩ := bind_t hsh
 obtain ⟨quo15, h14, hsh⟩ := bind_t hsh
 refine wp_only (fun a w => ∃ (Sv17 : Nat → Prop) (b16 : Nat), Sl 26 [(4, .pointer (some ⟨b4, 0, none⟩)), (7, .pointer (some ⟨b16, 0, none⟩))] a ∧ Wd ⟨w0, S0, []⟩ Sv17 [.box b4 [.int .i64 0, .int .i64 0] 51, .box b16 [.int .i64 (w64 (r1.Num * quo13)), .int .i64 quo15] 51] [] w) ?_ ?_
 ·refine h_b (C := Cls [.box b4 [.int .i64 0, .int .i64 0] 51, .box b3 [.int .i64 r1.Num, .int .i64 r1.Den] 51] []) (by kernel_rfl) rfl (hw.drew.cs [0, 1] [] rfl rfl) fun hC => ?_
  have hw := hw.drew
  refine h_g hs 0 rfl (by kernel_rfl) rfl rfl hC rfl (fun w hC => y_fieldAddr (o' := 0) Try.runUnderlying51 rfl Try.sizeOf3 rfl rfl rfl) fun a hs => ?_
  refine h_g hs 1 rfl (by kernel_rfl) rfl rfl hC rfl (fun w hC => y_loadB1 (hC.ownAt 1 rfl) rfl Try.isAgg3 rfl) fun a hs => ?_
  refine h_g hs 2 rfl (by kernel_rfl) rfl rfl hC rfl (fun w hC => y_move rfl) fun a hs => ?_
  refine h_g hs 3 rfl (by kernel_rfl) rfl rfl hC rfl (fun w hC => y_move rfl) fun a hs => ?_
  refine h_g hs 4 rfl (by kernel_rfl) rfl rfl hC rfl (fun w hC => y_quoM rfl rfl h12) fun a hs => ?_
  refine h_g hs 5 rfl (by kernel_rfl) rfl rfl hC rfl (fun w hC => y_mul rfl rfl) fun a hs => ?_
  refine h_g hs 6 rfl (by kernel_rfl) rfl rfl hC rfl (fun w hC => y_fieldAddr (o' := 1) Try.runUnderlying51 rfl Try.sizeOf3 rfl rfl rfl) fun a hs => ?_
  refine h_g hs 7 rfl (by kernel_rfl) rfl rfl hC rfl (fun w hC => y_loadB1 (hC.ownAt 1 rfl) rfl Try.isAgg3 rfl) fun a hs => ?_
  refine h_g hs 8 rfl (by kernel_rfl) rfl rfl hC rfl (fun w hC => y_move rfl) fun a hs => ?_
  refine h_g hs 9 rfl (by kernel_rfl) rfl rfl hC rfl (fun w hC => y_quoM rfl rfl h14) fun a hs => ?_
  refine h_g hs 10 rfl (by kernel_rfl) rfl rfl hC rfl (fun w hC => y_build (vs := [(0, .int .i64 (w64 (r1.Num * quo13))), (1, .int .i64 quo15)]) Bld51 rfl rfl) fun a hs => ?_
  refine h_one (i := 11) (by kernel_rfl) rfl ?_
  refine w_alloc (cs := [.int .i64 0, .int .i64 0]) hs hw Try.zeroValue51 rfl rfl trivial ?_
  intro b16 a w hs hw
  refine h_nx (hw.cs [1, 2] [] rfl rfl) fun hC => ?_
  refine h_one (i := 12) (by kernel_rfl) rfl ?_
  refine w_store (m := 2) (cs' := [.int .i64 (w64 (r1.Num * quo13)), .int .i64 quo15]) hs hw 0 rfl rfl rfl Try.sizeOf51 rfl rfl rfl rfl trivial ?_
  intro a w hs hw
  refine h_nx (hw.cs [1, 2] [] rfl rfl) fun hC => ?_
  refine h_done (by kernel_rfl) ?_
  exact ⟨S0, b16, (hs.wk rfl), (hw.ft [1, 0] [] (by decide) rfl rfl)⟩
 ·rintro a w ⟨Sv17, b16, hs, hw⟩
  refine then_normal ?_
  refine wp_seq ?_
  obtain ⟨rv19, h18, hsh⟩ := bind_t hsh
  refine wp_only (fun a w => ∃ (Sv20 : Nat → Prop), Sl 26 [(4, .pointer (some ⟨b4, 0, none⟩)), (5, .bool rv19)] a ∧ Wd ⟨w0, S0, []⟩ Sv20 [.box b4 [.int .i64 (w64 (r1.Num * quo13)), .int .i64 quo15] 51] [] w) ?_ ?_
  ·refine h_b (C := Cls [.box b16 [.int .i64 (w64 (r1.Num * quo13)), .int .i64 quo15] 51] []) (by kernel_rfl) rfl (hw.drew.cs [1] [] rfl rfl) fun hC => ?_
   have hw := hw.drew
   refine h_g hs 0 rfl (by kernel_rfl) rfl rfl hC rfl (fun w hC => y_loadBA (hC.ownAt 0 rfl) rfl Try.isAgg51 Try.sizeOf51 rfl rfl) fun a hs => ?_
   refine h_g hs 1 rfl (by kernel_rfl) rfl rfl hC rfl (fun w hC => y_loadBA (hC.ownAt 0 rfl) rfl Try.isAgg51 Try.sizeOf51 rfl rfl) fun a hs => ?_
   refine h_one (i := 2) (by kernel_rfl) rfl ?_
   refine st_callR hs (rate_Valid_ok h18 hw.bdom) (do_call Try.call52 rfl) trivial rfl rfl ?_
   intro v24 Sv21 w a h22 h23 hs
   subst h23
   have hw := hw.callB h22
   refine h_nx (hw.cs [1] [] rfl rfl) fun hC => ?_
   refine h_one (i := 3) (by kernel_rfl) rfl ?_
   refine w_store (m := 2) (cs' := [.int .i64 (w64 (r1.Num * quo13)), .int .i64 quo15]) hs hw 0 rfl rfl rfl Try.sizeOf51 rfl rfl rfl rfl trivial ?_
   intro a w hs hw
   refine h_nx (hw.cs [1] [] rfl rfl) fun hC => ?_
   refine h_g hs 4 rfl (by kernel_rfl) rfl rfl hC rfl (fun w hC => y_assign rfl) fun a hs => ?_
   refine h_done (by kernel_rfl) ?_
   exact ⟨Sv17, (hs.wk rfl), (hw.ft [0] [] (by decide) rfl rfl)⟩
  ·rintro a w ⟨Sv20, hs, hw⟩
   refine then_normal ?_
   have hsh := Option.some.inj hsh
   subst hsh
   refine wp_ret ?_
   exact ret2 hs rfl (rv_cell hw 0 rfl rfl Try.isAgg51 Try.sizeOf51 rfl) (rv_tmp rfl) (hw.ret rfl)

abbrev response_plus_rd (w0 : World) (X : List Nat) (r : Ratio) : (Nat → Prop) → World → Value → Prop := fun S w v => v = .agg #[.int .i64 r.Num, .int .i64 r.Den]
set_option maxHeartbeats 4000000 in
set_option maxRecDepth 100000 in
theorem response_plus_ok {w0 : World} {S0 : Nat → Prop} {a1 : Ratio} {b2 : Ratio} {r : Ratio} (hsh : response_plus a1 b2 = some r) (hS : ∀ b, S0 b → b < w0.heap.size) : Calls Try.prog 55 #[.agg #[.int .i64 a1.Num, .int .i64 a1.Den], .agg #[.int .i64 b2.Num, .int .i64 b2.Den]] w0 (Ret ([]) w0 S0 (response_plus_rd w0 ([]) r)) := by
 refine calls_of_wp Try.func55 rfl ?_
 have hs := Sl.enter #[.agg #[.int .i64 a1.Num, .int .i64 a1.Den], .agg #[.int .i64 b2.Num, .int .i64 b2.Den]] 34 [(0, .agg #[.int .i64 a1.Num, .int .i64 a1.Den]), (1, .agg #[.int .i64 b2.Num, .int .i64 b2.Den])] rfl ⟨rfl, rfl, trivial⟩
 have hw := Wd.enter (E := []) hS (fun _ h => (by cases h))
 delta response_plus at hsh
 refine wp_seq ?_
 refine wp_region_lit ?_
 refine w_box (cs := [.int .i64 a1.Num, .int .i64 a1.Den]) hs hw rfl rfl rfl trivial ?_
 intro b3 a w hs hw
 refine w_box (cs := [.int .i64 b2.Num, .int .i64 b2.Den]) hs hw rfl rfl rfl trivial ?_
 intro b4 a w hs hw
 refine w_alloc (cs := [.int .i64 0, .int .i64 0]) hs hw Try.zeroValue57 rfl rfl trivial ?_
 intro b5 a w hs hw
 refine wpList_nil ?_
 refine then_normal ?_
 refine wp_seq ?_
 obtain ⟨num7, h6, hsh⟩ := bind_t hsh
 obtain ⟨den9, h8, hsh⟩ := bind_t hsh
 refine wp_only (fun a w => ∃ (Sv10 : Nat → Prop), Sl 34 [(4, .pointer (some ⟨b5, 0, none⟩)), (5, .int .i64 num7), (6, .int .i64 den9)] a ∧ Wd ⟨w0, S0, []⟩ Sv10 [.box b5 [.int .i64 0, .int .i64 0] 57] [] w) ?_ ?_
 ·refine h_b (C := Cls [.box b5 [.int .i64 0, .int .i64 0] 57, .box b4 [.int .i64 b2.Num, .int .i64 b2.Den] 57, .box b3 [.int .i64 a1.Num, .int .i64 a1.Den] 57] []) (by kernel_rfl) rfl (hw.drew.cs [0, 1, 2] [] rfl rfl) fun hC => ?_
  have hw := hw.drew
  refine h_g hs 0 rfl (by kernel_rfl) rfl rfl hC rfl (fun w hC => y_fieldAddr (o' := 0) Try.runUnderlying57 rfl Try.sizeOf3 rfl rfl rfl) fun a hs => ?_
  refine h_g hs 1 rfl (by kernel_rfl) rfl rfl hC rfl (fun w hC => y_loadB1 (hC.ownAt 2 rfl) rfl Try.isAgg3 rfl) fun a hs => ?_
  refine h_g hs 2 rfl (by kernel_rfl) rfl rfl hC rfl (fun w hC => y_fieldAddr (o' := 1) Try.runUnderlying57 rfl Try.sizeOf3 rfl rfl rfl) fun a hs => ?_
  refine h_g hs 3 rfl (by kernel_rfl) rfl rfl hC rfl (fun w hC => y_loadB1 (hC.ownAt 1 rfl) rfl Try.isAgg3 rfl) fun a hs => ?_
  refine h_g hs 4 rfl (by kernel_rfl) rfl rfl hC rfl (fun w hC => y_mul rfl rfl) fun a hs => ?_
  refine h_g hs 5 rfl (by kernel_rfl) rfl rfl hC rfl (fun w hC => y_fieldAddr (o' := 0) Try.runUnderlying57 rfl Try.sizeOf3 rfl rfl rfl) fun a hs => ?_
  refine h_g hs 6 rfl (by kernel_rfl) rfl rfl hC rfl (fun w hC => y_loadB1 (hC.ownAt 1 rfl) rfl Try.isAgg3 rfl) fun a hs => ?_
  refine h_g hs 7 rfl (by kernel_rfl) rfl rfl hC rfl (fun w hC => y_fieldAddr (o' := 1) Try.runUnderlying57 rfl Try.sizeOf3 rfl rfl rfl) fun a hs => ?_
  refine h_g hs 8 rfl (by kernel_rfl) rfl rfl hC rfl (fun w hC => y_loadB1 (hC.ownAt 2 rfl) rfl Try.isAgg3 rfl) fun a hs => ?_
  refine h_g hs 9 rfl (by kernel_rfl) rfl rfl hC rfl (fun w hC => y_mul rfl rfl) fun a hs => ?_
  refine h_g hs 10 rfl (by kernel_rfl) rfl rfl hC rfl (fun w hC => y_add rfl rfl) fun a hs => ?_
  refine h_g hs 11 rfl (by kernel_rfl) rfl rfl hC rfl (fun w hC => y_fieldAddr (o' := 1) Try.runUnderlying57 rfl Try.sizeOf3 rfl rfl rfl) fun a hs => ?_
  refine h_g hs 12 rfl (by kernel_rfl) rfl rfl hC rfl (fun w hC => y_loadB1 (hC.ownAt 2 rfl) rfl Try.isAgg3 rfl) fun a hs => ?_
  refine h_g hs 13 rfl (by kernel_rfl) rfl rfl hC rfl (fun w hC => y_fieldAddr (o' := 1) Try.runUnderlying57 rfl Try.sizeOf3 rfl rfl rfl) fun a hs => ?_
  refine h_g hs 14 rfl (by kernel_rfl) rfl rfl hC rfl (fun w hC => y_loadB1 (hC.ownAt 1 rfl) rfl Try.isAgg3 rfl) fun a hs => ?_
  refine h_g hs 15 rfl (by kernel_rfl) rfl rfl hC rfl (fun w hC => y_mul rfl rfl) fun a hs => ?_
  refine h_g hs 16 rfl (by kernel_rfl) rfl rfl hC rfl (fun w hC => y_assignI rfl h6) fun a hs => ?_
  refine h_g hs 17 rfl (by kernel_rfl) rfl rfl hC rfl (fun w hC => y_assignI rfl h8) fun a hs => ?_
  refine h_done (by kernel_rfl) ?_
  exact ⟨S0, (hs.wk rfl), (hw.ft [0] [] (by decide) rfl rfl)⟩
 ·rintro a w ⟨Sv10, hs, hw⟩
  refine then_normal ?_
  refine wp_seq ?_
  refine wp_region_lit ?_
  refine st_val hs (y_move rfl) trivial rfl rfl fun a hs => ?_
  refine st_val hs (y_move rfl) trivial rfl rfl fun a hs => ?_
  obtain ⟨rv12, h11, hsh⟩ := bind_t hsh
  refine st_callR hs (response_gcd_ok h11 hw.bdom) (do_call Try.call87 rfl) trivial rfl rfl ?_
  intro v16 Sv13 w a h14 h15 hs
  subst h15
  have hw := hw.callB h14
  refine st_val hs (y_assign rfl) trivial rfl rfl fun a hs => ?_
  refine wpList_nil ?_
  refine then_normal ?_
  refine wp_seq ?_
  obtain ⟨quo19, h18, hsh⟩ := bind_t hsh
  obtain ⟨quo21, h20, hsh⟩ := bind_t hsh
  refine wp_only (fun a w => ∃ (Sv22 : Nat → Prop), Sl 34 [(4, .pointer (some ⟨b5, 0, none⟩))] a ∧ Wd ⟨w0, S0, []⟩ Sv22 [.box b5 [.int .i64 quo19, .int .i64 quo21] 57] [] w) ?_ ?_
  ·refine h_b (C := Cls [] []) (by kernel_rfl) rfl (hw.drew.cs [] [] rfl rfl) fun hC => ?_
   have hw := hw.drew
   refine h_g hs 0 rfl (by kernel_rfl) rfl rfl hC rfl (fun w hC => y_move rfl) fun a hs => ?_
   refine h_g hs 1 rfl (by kernel_rfl) rfl rfl hC rfl (fun w hC => y_move rfl) fun a hs => ?_
   refine h_g hs 2 rfl (by kernel_rfl) rfl rfl hC rfl (fun w hC => y_quoM rfl rfl h18) fun a hs => ?_
   refine h_g hs 3 rfl (by kernel_rfl) rfl rfl hC rfl (fun w hC => y_move rfl) fun a hs => ?_
   refine h_g hs 4 rfl (by kernel_rfl) rfl rfl hC rfl (fun w hC => y_move rfl) fun a hs => ?_
   refine h_g hs 5 rfl (by kernel_rfl) rfl rfl hC rfl (fun w hC => y_quoM rfl rfl h20) fun a hs => ?_
   refine h_g hs 6 rfl (by kernel_rfl) rfl rfl hC rfl (fun w hC => y_build (vs := [(0, .int .i64 quo19), (1, .int .i64 quo21)]) Bld57 rfl rfl) fun a hs => ?_
   refine h_one (i := 7) (by kernel_rfl) rfl ?_
   refine w_store (m := 2) (cs' := [.int .i64 quo19, .int .i64 quo21]) hs hw 0 rfl rfl rfl Try.sizeOf57 rfl rfl rfl rfl trivial ?_
   intro a w hs hw
   refine h_nx (hw.cs [] [] rfl rfl) fun hC => ?_
   refine h_done (by kernel_rfl) ?_
   exact ⟨Sv10, (hs.wk rfl), (hw.ft [0] [] (by decide) rfl rfl)⟩
  ·rintro a w ⟨Sv22, hs, hw⟩
   refine then_normal ?_
   have hsh := Option.some.inj hsh
   subst hsh
   refine wp_ret ?_
   exact ret1 hs rfl (rv_cell hw 0 rfl rfl Try.isAgg57 Try.sizeOf57 rfl) (hw.ret rfl)

abbrev response_Delay_rd (w0 : World) (X : List Nat) (r : (Ratio × Int)) : (Nat → Prop) → World → Value → Prop := fun S w v => v = .tuple #[.agg #[.int .i64 r.1.Num, .int .i64 r.1.Den], .int .i64 r.2]
set_option maxHeartbeats 4000000 in
set_option maxRecDepth 100000 in
theorem response_Delay_ok {w0 : World} {S0 : Nat → Prop} {p2 : Option Addr} {k3 : Nat} {r1 : Response} {out5 : Rate} {r : (Ratio × Int)} (hsh : response_Delay r1 out5 = some r) (hS : ∀ b, S0 b → b < w0.heap.size) (h4 : (SlA p2 r1.Stages.length k3 r1.Stages).p S0 w0) : Calls Try.prog 20 #[.agg #[.slice p2 r1.Stages.length k3], .agg #[.int .i64 out5.Num, .int .i64 out5.Den]] w0 (Ret ([]) w0 S0 (response_Delay_rd w0 ([]) r)) := by
 refine calls_of_wp Try.func20 rfl ?_
 have hs := Sl.enter #[.agg #[.slice p2 r1.Stages.length k3], .agg #[.int .i64 out5.Num, .int .i64 out5.Den]] 89 [(0, .agg #[.slice p2 r1.Stages.length k3]), (1, .agg #[.int .i64 out5.Num, .int .i64 out5.Den])] rfl ⟨rfl, rfl, trivial⟩
 have hw := Wd.enter (E := []) hS (fun _ h => (by cases h))
 have hw := hw.addE h4
 delta response_Delay at hsh
 refine wp_seq ?_
 refine wp_region_lit ?_
 refine w_box (cs := [.slice p2 r1.Stages.length k3]) hs hw rfl rfl rfl trivial ?_
 intro b6 a w hs hw
 refine w_box (cs := [.int .i64 out5.Num, .int .i64 out5.Den]) hs hw rfl rfl rfl trivial ?_
 intro b7 a w hs hw
 refine w_alloc (cs := [.int .i64 0, .int .i64 0]) hs hw Try.zeroValue57 rfl rfl trivial ?_
 intro b8 a w hs hw
 refine st_val hs (y_assign rfl) trivial rfl rfl fun a hs => ?_
 refine wpList_nil ?_
 refine then_normal ?_
 refine wp_seq ?_
 refine wp_seq ?_
 refine wp_region_lit ?_
 refine st_val hs (y_loadBA (hw.ownAt 2 rfl) rfl Try.isAgg37 Try.sizeOf37 rfl rfl) trivial rfl rfl fun a hs => ?_
 obtain ⟨rv10, h9, hsh⟩ := bind_t hsh
 refine st_callR hs (response_Valid_ok h9 hw.bdom (hw.bE 0 rfl)) (do_call Try.call33 rfl) trivial rfl rfl ?_
 intro v14 Sv11 w a h12 h13 hs
 subst h13
 have hw := hw.callB h12
 refine st_val hs (y_not rfl) trivial rfl rfl fun a hs => ?_
 refine st_val hs (y_move rfl) trivial rfl rfl fun a hs => ?_
 obtain ⟨c24, hc24, hsh⟩ := bind_t hsh
 refine wpl_join 4 (fun a w => ∃ (Sv25 : Nat → Prop), Sl 89 [(2, .pointer (some ⟨b6, 0, none⟩)), (3, .pointer (some ⟨b7, 0, none⟩)), (4, .pointer (some ⟨b8, 0, none⟩)), (20, .bool c24)] a ∧ Wd ⟨w0, S0, []⟩ Sv25 [.box b6 [.slice p2 r1.Stages.length k3] 37, .box b7 [.int .i64 out5.Num, .int .i64 out5.Den] 51, .box b8 [.int .i64 0, .int .i64 0] 57] [SlA p2 r1.Stages.length k3 r1.Stages] w) ?_ ?_
 ·rcases Bool.eq_false_or_eq_true (!rv10) with h23 | h23
  ·have hs := hs.fix 16 (.bool true) rfl (vb h23)
   have hsh := ite_t hc24 h23
   refine st_skip hs rfl rfl rfl rfl rfl fun a hs => ?_
   refine st_skip hs rfl rfl rfl rfl rfl fun a hs => ?_
   refine st_skip hs rfl rfl rfl rfl rfl fun a hs => ?_
   refine st_val hs (y_pickT rfl rfl) trivial rfl rfl fun a hs => ?_
   refine wpList_nil ?_
   have hsh := Option.some.inj hsh
   subst hsh
   refine then_normal ?_
   exact ⟨S0, (hs.wk rfl), (hw.ft [2, 1, 0] [0] (by decide) rfl rfl)⟩
  ·have hs := hs.fix 16 (.bool false) rfl (vb h23)
   have hsh := ite_f hc24 h23
   refine st_val hs (y_loadBA (hw.ownAt 1 rfl) rfl Try.isAgg51 Try.sizeOf51 rfl rfl) ⟨_, rfl, rfl⟩ rfl rfl fun a hs => ?_
   obtain ⟨rv27, h26, hsh⟩ := bind_t hsh
   refine st_callR hs (rate_Valid_ok h26 hw.bdom) (do_call Try.call52 rfl) ⟨_, rfl, rfl⟩ rfl rfl ?_
   intro v31 Sv28 w a h29 h30 hs
   subst h30
   have hw := hw.callB h29
   refine st_val hs (y_not rfl) ⟨_, rfl, rfl⟩ rfl rfl fun a hs => ?_
   refine st_val hs (y_pickF rfl rfl) trivial rfl rfl fun a hs => ?_
   refine wpList_nil ?_
   have hsh := Option.some.inj hsh
   subst hsh
   refine then_normal ?_
   exact ⟨S0, (hs.wk rfl), (hw.ft [2, 1, 0] [0] (by decide) rfl rfl)⟩
 ·rintro a w ⟨Sv25, hs, hw⟩
  refine wpList_nil ?_
  refine then_normal ?_
  refine wp_cond_split (hs.ev rfl) (fun h34 => ?_) (fun h34 => ?_)
  ·have hsh := ite_t hsh h34
   refine wp_seq ?_
   refine wp_region_lit ?_
   refine st_val hs (y_build (vs := []) Bld57 rfl rfl) trivial rfl rfl fun a hs => ?_
   refine w_store (m := 2) (cs' := [.int .i64 0, .int .i64 0]) hs hw 2 rfl rfl rfl Try.sizeOf57 rfl rfl rfl rfl trivial ?_
   intro a w hs hw
   refine st_val hs (y_assign rfl) trivial rfl rfl fun a hs => ?_
   refine wpList_nil ?_
   refine then_normal ?_
   have hsh := Option.some.inj hsh
   subst hsh
   refine wp_ret ?_
   refine then_ret ?_
   exact ret2 hs rfl (rv_cell hw 2 rfl rfl Try.isAgg57 Try.sizeOf57 rfl) (rv_tmp rfl) (hw.ret rfl)
  ·have hsh := ite_f hsh h34
   refine wp_skip ?_
   refine then_normal ?_
   refine wp_seq ?_
   refine wp_seq ?_
   refine wp_region_lit ?_
   refine st_val hs (y_fieldAddr (o' := 0) Try.runUnderlying37 rfl Try.sizeOf35 rfl rfl rfl) trivial rfl rfl fun a hs => ?_
   refine st_val hs (y_loadB1 (hw.ownAt 0 rfl) rfl Try.isAgg35 rfl) trivial rfl rfl fun a hs => ?_
   refine st_val hs (y_len Try.runUnderlying35 rfl) trivial rfl rfl fun a hs => ?_
   refine st_val hs (y_move rfl) trivial rfl rfl fun a hs => ?_
   refine wpList_nil ?_
   refine then_normal ?_
   refine wp_block ?_
   refine wp_while (fun sv151 a w => ∃ (Sv227 : Nat → Prop), Sl 89 [(2, .pointer (some ⟨b6, 0, none⟩)), (3, .pointer (some ⟨b7, 0, none⟩)), (4, .pointer (some ⟨b8, 0, none⟩)), (23, .slice p2 r1.Stages.length k3), (24, .int .i64 (r1.Stages.length : Int)), (25, .int .i64 sv151)] a ∧ Wd ⟨w0, S0, []⟩ Sv227 [.box b6 [.slice p2 r1.Stages.length k3] 37, .box b7 [.int .i64 out5.Num, .int .i64 out5.Den] 51, .box b8 [.int .i64 0, .int .i64 0] 57] [SlA p2 r1.Stages.length k3 r1.Stages] w) 0 hsh ⟨Sv25, (hs.wk rfl), (hw.ft [0, 1, 2] [0] (by decide) rfl rfl)⟩ ?_
   repeat clear hsh
   rintro sv151 a w tv266 ⟨Sv227, hs, hw⟩ hsh hd265
   delta response_Delay_l2 at hsh
   refine wp_seq ?_
   refine wp_region_lit ?_
   refine st_val hs (y_lss rfl rfl) trivial rfl rfl fun a hs => ?_
   refine wpList_nil ?_
   refine then_normal ?_
   refine wp_seq ?_
   refine wp_cond_split (hs.ev rfl) (fun h270 => ?_) (fun h270 => ?_)
   ·have hsh := ite_t hsh h270
    refine wp_skip ?_
    refine then_normal ?_
    refine wp_seq ?_
    refine wp_block ?_
    refine wp_seq ?_
    refine wp_region_lit ?_
    obtain ⟨x309, h307, hsh⟩ := bind_t hsh
    obtain ⟨b315, o316, q313, c314, h317, h310, h311, h312, h308⟩ := hw.elemV 0 rfl h307
    have hsv318 := hs
    have hwv319 := hw
    subst h317
    have hs := hsv318
    have hw := hwv319
    obtain ⟨_, _, _, _, _, _, _, _, _, _, rfl, rfl, rfl, rfl, rfl, rfl, rfl, rfl, ⟨p320, n321, k322, rfl, h323⟩, rfl, rfl⟩ := h308
    obtain rfl := h323.1
    have hw := hw.addE (e := SlA p320 _ k322 x309.Taps) h323
    have hw := hw.addE h312
    refine st_val hs (y_indexAt Try.runUnderlying35 Try.sizeOf26 rfl rfl h310.1 h310.2 h311) trivial rfl rfl fun a hs => ?_
    refine st_val hs (y_loadEA (j := 0) (hw.ceAt 0 rfl) rfl Try.isAgg26 Try.sizeOf26 rfl rfl) trivial rfl rfl fun a hs => ?_
    refine w_alloc (cs := [.int .i64 0, .int .i64 0, .int .i64 0, .int .i64 0, .int .i64 0, .int .i64 0, .int .i64 0, .slice none ([] : List Int).length 0, .int .i64 0, .int .i64 0]) hs hw Try.zeroValue26 rfl rfl trivial ?_
    intro b324 a w hs hw
    refine w_store (m := 10) (cs' := [.int .i64 x309.Kind, .int .i64 x309.Num.e0, .int .i64 x309.Num.e1, .int .i64 x309.Num.e2, .int .i64 x309.Den.e0, .int .i64 x309.Den.e1, .int .i64 x309.Den.e2, .slice p320 x309.Taps.length k322, .int .i64 x309.Factor, .int .i64 x309.Shift]) hs hw 0 rfl rfl rfl Try.sizeOf26 rfl rfl rfl rfl trivial ?_
    intro a w hs hw
    refine wpList_nil ?_
    refine then_normal ?_
    refine wp_seq ?_
    refine wp_region_lit ?_
    refine st_val hs (y_fieldAddr (o' := 0) Try.runUnderlying26 rfl Try.sizeOf3 rfl rfl rfl) trivial rfl rfl fun a hs => ?_
    refine st_val hs (y_loadB1 (hw.ownAt 0 rfl) rfl Try.isAgg3 rfl) trivial rfl rfl fun a hs => ?_
    refine st_val hs (y_eql rfl rfl) trivial rfl rfl fun a hs => ?_
    refine st_val hs (y_move rfl) trivial rfl rfl fun a hs => ?_
    obtain ⟨c333, hc333, hsh⟩ := bind_t hsh
    refine wpl_join 5 (fun a w => ∃ (Sv334 : Nat → Prop), Sl 89 [(2, .pointer (some ⟨b6, 0, none⟩)), (3, .pointer (some ⟨b7, 0, none⟩)), (4, .pointer (some ⟨b8, 0, none⟩)), (23, .slice (some ⟨b315, o316, none⟩) r1.Stages.length k3), (24, .int .i64 (r1.Stages.length : Int)), (25, .int .i64 sv151), (37, .bool c333)] a ∧ Wd ⟨w0, S0, []⟩ Sv334 [.box b6 [.slice (some ⟨b315, o316, none⟩) r1.Stages.length k3] 37, .box b7 [.int .i64 out5.Num, .int .i64 out5.Den] 51, .box b8 [.int .i64 0, .int .i64 0] 57, .box b324 [.int .i64 x309.Kind, .int .i64 x309.Num.e0, .int .i64 x309.Num.e1, .int .i64 x309.Num.e2, .int .i64 x309.Den.e0, .int .i64 x309.Den.e1, .int .i64 x309.Den.e2, .slice p320 x309.Taps.length k322, .int .i64 x309.Factor, .int .i64 x309.Shift] 26] [SlA (some ⟨b315, o316, none⟩) r1.Stages.length k3 r1.Stages, SlA p320 x309.Taps.length k322 x309.Taps] w) ?_ ?_
    ·rcases Bool.eq_false_or_eq_true (x309.Kind == 2) with h332 | h332
     ·have hs := hs.fix 32 (.bool true) rfl (vb h332)
      have hsh := ite_t hc333 h332
      refine st_val hs (y_fieldAddr (o' := 7) Try.runUnderlying26 rfl Try.sizeOf24 rfl rfl rfl) ⟨_, rfl, rfl⟩ rfl rfl fun a hs => ?_
      refine st_val hs (y_loadB1 (hw.ownAt 0 rfl) rfl Try.isAgg24 rfl) ⟨_, rfl, rfl⟩ rfl rfl fun a hs => ?_
      obtain ⟨rv336, h335, hsh⟩ := bind_t hsh
      refine st_callR hs (response_symmetric_ok h335 hw.bdom (hw.bE 1 rfl)) (do_call Try.call54 rfl) ⟨_, rfl, rfl⟩ rfl rfl ?_
      intro v340 Sv337 w a h338 h339 hs
      subst h339
      have hw := hw.callB h338
      refine st_val hs (y_not rfl) ⟨_, rfl, rfl⟩ rfl rfl fun a hs => ?_
      refine st_val hs (y_pickT rfl rfl) trivial rfl rfl fun a hs => ?_
      refine wpList_nil ?_
      have hsh := Option.some.inj hsh
      subst hsh
      refine then_normal ?_
      exact ⟨Sv227, (hs.wk rfl), (hw.ft [1, 2, 3, 0] [2, 1] (by decide) rfl rfl)⟩
     ·have hs := hs.fix 32 (.bool false) rfl (vb h332)
      have hsh := ite_f hc333 h332
      refine st_skip hs rfl rfl rfl rfl rfl fun a hs => ?_
      refine st_skip hs rfl rfl rfl rfl rfl fun a hs => ?_
      refine st_skip hs rfl rfl rfl rfl rfl fun a hs => ?_
      refine st_skip hs rfl rfl rfl rfl rfl fun a hs => ?_
      refine st_val hs (y_pickF rfl rfl) trivial rfl rfl fun a hs => ?_
      refine wpList_nil ?_
      have hsh := Option.some.inj hsh
      subst hsh
      refine then_normal ?_
      exact ⟨Sv227, (hs.wk rfl), (hw.ft [1, 2, 3, 0] [2, 1] (by decide) rfl rfl)⟩
    ·rintro a w ⟨Sv334, hs, hw⟩
     refine wpList_nil ?_
     refine then_normal ?_
     refine wp_cond_split (hs.ev rfl) (fun h343 => ?_) (fun h343 => ?_)
     ·have hsh := ite_t hsh h343
      refine wp_seq ?_
      refine wp_region_lit ?_
      refine st_val hs (y_build (vs := []) Bld57 rfl rfl) trivial rfl rfl fun a hs => ?_
      refine w_store (m := 2) (cs' := [.int .i64 0, .int .i64 0]) hs hw 2 rfl rfl rfl Try.sizeOf57 rfl rfl rfl rfl trivial ?_
      intro a w hs hw
      refine st_val hs (y_assign rfl) trivial rfl rfl fun a hs => ?_
      refine wpList_nil ?_
      refine then_normal ?_
      have hsh := Option.some.inj hsh
      subst hsh
      have h344 := hd265 _ rfl
      subst h344
      refine wp_ret ?_
      refine blk_ret ?_
      refine then_ret ?_
      refine then_ret ?_
      refine blk_ret ?_
      refine then_ret ?_
      exact ret2 hs rfl (rv_cell hw 2 rfl rfl Try.isAgg57 Try.sizeOf57 rfl) (rv_tmp rfl) (hw.ret rfl)
     ·have hsh := ite_f hsh h343
      refine wp_skip ?_
      refine blk_normal ?_
      refine then_normal ?_
      refine wp_region_lit ?_
      refine st_val hs (y_add rfl rfl) trivial rfl rfl fun a hs => ?_
      refine st_val hs (y_move rfl) trivial rfl rfl fun a hs => ?_
      refine wpList_nil ?_
      refine then_normal ?_
      exact ⟨_, (Option.some.inj hsh).symm, Sv334, (hs.wk rfl), (hw.ft [0, 1, 2] [0] (by decide) rfl rfl)⟩
   ·have hsh := ite_f hsh h270
    obtain ⟨rv755, hsh, h756⟩ := map_t hsh
    have h756 := (hd265 _ h756.symm).symm
    subst h756
    refine wp_exit ?_
    refine then_exit ?_
    refine then_exit ?_
    refine blk_exit ?_
    refine then_normal ?_
    refine wp_seq ?_
    refine wp_region_lit ?_
    refine st_val hs (y_build (vs := [(1, .int .i64 1)]) Bld57 rfl rfl) trivial rfl rfl fun a hs => ?_
    refine w_alloc (cs := [.int .i64 0, .int .i64 0]) hs hw Try.zeroValue57 rfl rfl trivial ?_
    intro b345 a w hs hw
    refine w_store (m := 2) (cs' := [.int .i64 0, .int .i64 1]) hs hw 0 rfl rfl rfl Try.sizeOf57 rfl rfl rfl rfl trivial ?_
    intro a w hs hw
    refine wpList_nil ?_
    refine then_normal ?_
    refine wp_seq ?_
    refine wp_seq ?_
    refine wp_region_lit ?_
    refine st_val hs (y_fieldAddr (o' := 0) Try.runUnderlying37 rfl Try.sizeOf35 rfl rfl rfl) trivial rfl rfl fun a hs => ?_
    refine st_val hs (y_loadB1 (hw.ownAt 1 rfl) rfl Try.isAgg35 rfl) trivial rfl rfl fun a hs => ?_
    refine st_val hs (y_len Try.runUnderlying35 rfl) trivial rfl rfl fun a hs => ?_
    refine st_val hs (y_move rfl) trivial rfl rfl fun a hs => ?_
    refine wpList_nil ?_
    refine then_normal ?_
    refine wp_block ?_
    refine wp_while (fun sv489 a w => ∃ (Sv583 : Nat → Prop), Sl 89 [(2, .pointer (some ⟨b6, 0, none⟩)), (3, .pointer (some ⟨b7, 0, none⟩)), (4, .pointer (some ⟨b8, 0, none⟩)), (8, .pointer (some ⟨b345, 0, none⟩)), (42, .slice p2 r1.Stages.length k3), (43, .int .i64 (r1.Stages.length : Int)), (44, .int .i64 sv489.2.2)] a ∧ Wd ⟨w0, S0, []⟩ Sv583 [.box b6 [.slice p2 r1.Stages.length k3] 37, .box b7 [.int .i64 out5.Num, .int .i64 out5.Den] 51, .box b8 [.int .i64 0, .int .i64 0] 57, .box b345 [.int .i64 sv489.1, .int .i64 sv489.2.1] 57] [SlA p2 r1.Stages.length k3 r1.Stages] w) (0, 1, 0) hsh ⟨Sv227, (hs.wk rfl), (hw.ft [1, 2, 3, 0] [0] (by decide) rfl rfl)⟩ ?_
    repeat clear hsh
    rintro sv489 a w tv631 ⟨Sv583, hs, hw⟩ hsh hd630
    delta response_Delay_l4 at hsh
    refine wp_seq ?_
    refine wp_region_lit ?_
    refine st_val hs (y_lss rfl rfl) trivial rfl rfl fun a hs => ?_
    refine wpList_nil ?_
    refine then_normal ?_
    refine wp_seq ?_
    refine wp_cond_split (hs.ev rfl) (fun h635 => ?_) (fun h635 => ?_)
    ·have hsh := ite_t hsh h635
     refine wp_skip ?_
     refine then_normal ?_
     refine wp_seq ?_
     refine wp_join (fun a w => ∃ (x679 : Int) (x680 : Int) (Sv678 : Nat → Prop), response_Delay_j1 sv489 x679 x680 = some tv631 ∧ Sl 89 [(2, .pointer (some ⟨b6, 0, none⟩)), (3, .pointer (some ⟨b7, 0, none⟩)), (4, .pointer (some ⟨b8, 0, none⟩)), (8, .pointer (some ⟨b345, 0, none⟩)), (42, .slice p2 r1.Stages.length k3), (43, .int .i64 (r1.Stages.length : Int)), (44, .int .i64 sv489.2.2)] a ∧ Wd ⟨w0, S0, []⟩ Sv678 [.box b6 [.slice p2 r1.Stages.length k3] 37, .box b7 [.int .i64 out5.Num, .int .i64 out5.Den] 51, .box b8 [.int .i64 0, .int .i64 0] 57, .box b345 [.int .i64 x679, .int .i64 x680] 57] [SlA p2 r1.Stages.length k3 r1.Stages] w) ?_ ?_
     ·refine wp_block ?_
      refine wp_seq ?_
      refine wp_region_lit ?_
      refine st_val hs (y_move rfl) trivial rfl rfl fun a hs => ?_
      obtain ⟨x683, h681, hsh⟩ := bind_t hsh
      obtain ⟨b689, o690, q687, c688, h691, h684, h685, h686, h682⟩ := hw.elemV 0 rfl h681
      have hsv692 := hs
      have hwv693 := hw
      subst h691
      have hs := hsv692
      have hw := hwv693
      obtain ⟨_, _, _, _, _, _, _, _, _, _, rfl, rfl, rfl, rfl, rfl, rfl, rfl, rfl, ⟨p694, n695, k696, rfl, h697⟩, rfl, rfl⟩ := h682
      obtain rfl := h697.1
      have hw := hw.addE (e := SlA p694 _ k696 x683.Taps) h697
      have hw := hw.addE h686
      refine st_val hs (y_indexAt Try.runUnderlying35 Try.sizeOf26 rfl rfl h684.1 h684.2 h685) trivial rfl rfl fun a hs => ?_
      refine st_val hs (y_loadEA (j := 0) (hw.ceAt 0 rfl) rfl Try.isAgg26 Try.sizeOf26 rfl rfl) trivial rfl rfl fun a hs => ?_
      refine w_alloc (cs := [.int .i64 0, .int .i64 0, .int .i64 0, .int .i64 0, .int .i64 0, .int .i64 0, .int .i64 0, .slice none ([] : List Int).length 0, .int .i64 0, .int .i64 0]) hs hw Try.zeroValue26 rfl rfl trivial ?_
      intro b698 a w hs hw
      refine st_val hs (y_assign rfl) trivial rfl rfl fun a hs => ?_
      refine w_store (m := 10) (cs' := [.int .i64 x683.Kind, .int .i64 x683.Num.e0, .int .i64 x683.Num.e1, .int .i64 x683.Num.e2, .int .i64 x683.Den.e0, .int .i64 x683.Den.e1, .int .i64 x683.Den.e2, .slice p694 x683.Taps.length k696, .int .i64 x683.Factor, .int .i64 x683.Shift]) hs hw 0 rfl rfl rfl Try.sizeOf26 rfl rfl rfl rfl trivial ?_
      intro a w hs hw
      refine wpList_nil ?_
      refine then_normal ?_
      refine wp_seq ?_
      refine wp_seq ?_
      refine wp_region_lit ?_
      refine st_val hs (y_fieldAddr (o' := 0) Try.runUnderlying26 rfl Try.sizeOf3 rfl rfl rfl) trivial rfl rfl fun a hs => ?_
      refine st_val hs (y_loadB1 (hw.ownAt 0 rfl) rfl Try.isAgg3 rfl) trivial rfl rfl fun a hs => ?_
      refine st_val hs (y_neq rfl rfl) trivial rfl rfl fun a hs => ?_
      refine wpList_nil ?_
      refine then_normal ?_
      refine wp_cond_split (hs.ev rfl) (fun h700 => ?_) (fun h700 => ?_)
      ·have hsh := ite_t hsh h700
       refine wp_exit ?_
       refine then_exit ?_
       refine blk_exit ?_
       refine then_normal ?_
       exact ⟨sv489.1, sv489.2.1, Sv583, hsh, (hs.wk rfl), (hw.ft [1, 2, 3, 4] [2] (by decide) rfl rfl)⟩
      ·have hsh := ite_f hsh h700
       refine wp_skip ?_
       refine then_normal ?_
       refine wp_seq ?_
       obtain ⟨l706, h701, hsh⟩ := bind_t hsh
       obtain ⟨p704, k705, h702, h703⟩ := sub_env (hw.envAt 2 rfl) h701
       have hw := hw.addE h702
       obtain ⟨rv708, h707, hsh⟩ := bind_t hsh
       obtain ⟨rv710, h709, hsh⟩ := bind_t hsh
       refine wp_only (fun a w => ∃ (Sv712 : Nat → Prop) (b711 : Nat), Sl 89 [(2, .pointer (some ⟨b6, 0, none⟩)), (3, .pointer (some ⟨b7, 0, none⟩)), (4, .pointer (some ⟨b8, 0, none⟩)), (8, .pointer (some ⟨b345, 0, none⟩)), (10, .pointer (some ⟨b698, 0, none⟩)), (11, .pointer (some ⟨b711, 0, none⟩)), (12, .bool rv710.2), (42, .slice (some ⟨b689, o690, none⟩) r1.Stages.length k3), (43, .int .i64 (r1.Stages.length : Int)), (44, .int .i64 sv489.2.2)] a ∧ Wd ⟨w0, S0, []⟩ Sv712 [.box b6 [.slice (some ⟨b689, o690, none⟩) r1.Stages.length k3] 37, .box b7 [.int .i64 out5.Num, .int .i64 out5.Den] 51, .box b8 [.int .i64 0, .int .i64 0] 57, .box b345 [.int .i64 sv489.1, .int .i64 sv489.2.1] 57, .box b698 [.int .i64 x683.Kind, .int .i64 x683.Num.e0, .int .i64 x683.Num.e1, .int .i64 x683.Num.e2, .int .i64 x683.Den.e0, .int .i64 x683.Den.e1, .int .i64 x683.Den.e2, .slice p694 x683.Taps.length k696, .int .i64 x683.Factor, .int .i64 x683.Shift] 26, .box b711 [.int .i64 rv710.1.Num, .int .i64 rv710.1.Den] 51] [SlA (some ⟨b689, o690, none⟩) r1.Stages.length k3 r1.Stages, SlA p694 x683.Taps.length k696 x683.Taps] w) ?_ ?_
       ·refine h_b (C := Cls [.box b698 [.int .i64 x683.Kind, .int .i64 x683.Num.e0, .int .i64 x683.Num.e1, .int .i64 x683.Num.e2, .int .i64 x683.Den.e0, .int .i64 x683.Den.e1, .int .i64 x683.Den.e2, .slice p694 x683.Taps.length k696, .int .i64 x683.Factor, .int .i64 x683.Shift] 26, .box b6 [.slice (some ⟨b689, o690, none⟩) r1.Stages.length k3] 37, .box b7 [.int .i64 out5.Num, .int .i64 out5.Den] 51, .box b8 [.int .i64 0, .int .i64 0] 57, .box b345 [.int .i64 sv489.1, .int .i64 sv489.2.1] 57] [CeA b689 q687 [.int .i64 x683.Kind, .int .i64 x683.Num.e0, .int .i64 x683.Num.e1, .int .i64 x683.Num.e2, .int .i64 x683.Den.e0, .int .i64 x683.Den.e1, .int .i64 x683.Den.e2, .slice p694 x683.Taps.length k696, .int .i64 x683.Factor, .int .i64 x683.Shift]]) (by kernel_rfl) rfl (hw.drew.cs [0, 1, 2, 3, 4] [1] rfl rfl) fun hC => ?_
        have hw := hw.drew
        refine h_g hs 0 rfl (by kernel_rfl) rfl rfl hC rfl (fun w hC => y_loadBA (hC.ownAt 2 rfl) rfl Try.isAgg51 Try.sizeOf51 rfl rfl) fun a hs => ?_
        refine h_g hs 1 rfl (by kernel_rfl) rfl rfl hC rfl (fun w hC => y_fieldAddr (o' := 0) Try.runUnderlying37 rfl Try.sizeOf35 rfl rfl rfl) fun a hs => ?_
        refine h_g hs 2 rfl (by kernel_rfl) rfl rfl hC rfl (fun w hC => y_loadB1 (hC.ownAt 1 rfl) rfl Try.isAgg35 rfl) fun a hs => ?_
        refine h_g hs 3 rfl (by kernel_rfl) rfl rfl hC rfl (fun w hC => y_move rfl) fun a hs => ?_
        refine h_g hs 4 rfl (by kernel_rfl) rfl rfl hC rfl (fun w hC => y_slc Try.runUnderlying35 Try.sizeOf26 rfl ⟨_, rfl⟩ (by exact rfl) h703) fun a hs => ?_
        refine h_all (rs := [5, 10]) (by kernel_rfl) rfl ?_
        refine AllH.cons rfl ?_ ?_
        ·refine st_callR hs (response_factor_ok h707 hw.bdom (hw.bE 0 rfl)) (do_call Try.call51 rfl) trivial rfl rfl ?_
         intro v716 Sv713 w a h714 h715 hs
         subst h715
         have hw := hw.callB h714
         refine h_nx (hw.cs [0, 1, 2, 3, 4] [1] rfl rfl) fun hC => ?_
         refine h_all (rs := [6, 10]) (by kernel_rfl) rfl ?_
         refine AllH.cons rfl ?_ ?_
         ·refine st_callR hs (response_faster_ok h709 hw.bdom) (do_call Try.call53 rfl) trivial rfl rfl ?_
          intro v721 Sv718 w a h719 h720 hs
          subst h720
          have hw := hw.callB h719
          refine h_nx (hw.cs [0, 1, 2, 3, 4] [1] rfl rfl) fun hC => ?_
          refine h_g hs 7 rfl (by kernel_rfl) rfl rfl hC rfl (fun w hC => y_move rfl) fun a hs => ?_
          refine h_g hs 8 rfl (by kernel_rfl) rfl rfl hC rfl (fun w hC => y_extract rfl rfl) fun a hs => ?_
          refine h_g hs 9 rfl (by kernel_rfl) rfl rfl hC rfl (fun w hC => y_extract rfl rfl) fun a hs => ?_
          refine h_one (i := 10) (by kernel_rfl) rfl ?_
          refine w_alloc (cs := [.int .i64 0, .int .i64 0]) hs hw Try.zeroValue51 rfl rfl trivial ?_
          intro b711 a w hs hw
          refine h_nx (hw.cs [1, 2, 3, 4, 5] [1] rfl rfl) fun hC => ?_
          refine h_one (i := 11) (by kernel_rfl) rfl ?_
          refine w_store (m := 2) (cs' := [.int .i64 rv710.1.Num, .int .i64 rv710.1.Den]) hs hw 0 rfl rfl rfl Try.sizeOf51 rfl rfl rfl rfl trivial ?_
          intro a w hs hw
          refine h_nx (hw.cs [1, 2, 3, 4, 5] [1] rfl rfl) fun hC => ?_
          refine h_g hs 12 rfl (by kernel_rfl) rfl rfl hC rfl (fun w hC => y_assign rfl) fun a hs => ?_
          refine h_done (by kernel_rfl) ?_
          exact ⟨Sv583, b711, (hs.wk rfl), (hw.ft [2, 3, 4, 5, 1, 0] [3, 2] (by decide) rfl rfl)⟩
         refine AllH.cons rfl ?_ ?_
         ·refine w_alloc (cs := [.int .i64 0, .int .i64 0]) hs hw Try.zeroValue51 rfl rfl trivial ?_
          intro b711 a w hs hw
          refine h_nx (hw.cs [1, 2, 3, 4, 5] [1] rfl rfl) fun hC => ?_
          refine h_one (i := 6) (by kernel_rfl) rfl ?_
          refine st_callR hs (response_faster_ok h709 hw.bdom) (do_call Try.call53 rfl) trivial rfl rfl ?_
          intro v726 Sv723 w a h724 h725 hs
          subst h725
          have hw := hw.callB h724
          refine h_nx (hw.cs [1, 2, 3, 4, 5] [1] rfl rfl) fun hC => ?_
          refine h_g hs 7 rfl (by kernel_rfl) rfl rfl hC rfl (fun w hC => y_move rfl) fun a hs => ?_
          refine h_g hs 8 rfl (by kernel_rfl) rfl rfl hC rfl (fun w hC => y_extract rfl rfl) fun a hs => ?_
          refine h_g hs 9 rfl (by kernel_rfl) rfl rfl hC rfl (fun w hC => y_extract rfl rfl) fun a hs => ?_
          refine h_one (i := 11) (by kernel_rfl) rfl ?_
          refine w_store (m := 2) (cs' := [.int .i64 rv710.1.Num, .int .i64 rv710.1.Den]) hs hw 0 rfl rfl rfl Try.sizeOf51 rfl rfl rfl rfl trivial ?_
          intro a w hs hw
          refine h_nx (hw.cs [1, 2, 3, 4, 5] [1] rfl rfl) fun hC => ?_
          refine h_g hs 12 rfl (by kernel_rfl) rfl rfl hC rfl (fun w hC => y_assign rfl) fun a hs => ?_
          refine h_done (by kernel_rfl) ?_
          exact ⟨Sv583, b711, (hs.wk rfl), (hw.ft [2, 3, 4, 5, 1, 0] [3, 2] (by decide) rfl rfl)⟩
         exact AllH.nil
        refine AllH.cons rfl ?_ ?_
        ·refine w_alloc (cs := [.int .i64 0, .int .i64 0]) hs hw Try.zeroValue51 rfl rfl trivial ?_
         intro b711 a w hs hw
         refine h_nx (hw.cs [1, 2, 3, 4, 5] [1] rfl rfl) fun hC => ?_
         refine h_one (i := 5) (by kernel_rfl) rfl ?_
         refine st_callR hs (response_factor_ok h707 hw.bdom (hw.bE 0 rfl)) (do_call Try.call51 rfl) trivial rfl rfl ?_
         intro v731 Sv728 w a h729 h730 hs
         subst h730
         have hw := hw.callB h729
         refine h_nx (hw.cs [1, 2, 3, 4, 5] [1] rfl rfl) fun hC => ?_
         refine h_one (i := 6) (by kernel_rfl) rfl ?_
         refine st_callR hs (response_faster_ok h709 hw.bdom) (do_call Try.call53 rfl) trivial rfl rfl ?_
         intro v736 Sv733 w a h734 h735 hs
         subst h735
         have hw := hw.callB h734
         refine h_nx (hw.cs [1, 2, 3, 4, 5] [1] rfl rfl) fun hC => ?_
         refine h_g hs 7 rfl (by kernel_rfl) rfl rfl hC rfl (fun w hC => y_move rfl) fun a hs => ?_
         refine h_g hs 8 rfl (by kernel_rfl) rfl rfl hC rfl (fun w hC => y_extract rfl rfl) fun a hs => ?_
         refine h_g hs 9 rfl (by kernel_rfl) rfl rfl hC rfl (fun w hC => y_extract rfl rfl) fun a hs => ?_
         refine h_one (i := 11) (by kernel_rfl) rfl ?_
         refine w_store (m := 2) (cs' := [.int .i64 rv710.1.Num, .int .i64 rv710.1.Den]) hs hw 0 rfl rfl rfl Try.sizeOf51 rfl rfl rfl rfl trivial ?_
         intro a w hs hw
         refine h_nx (hw.cs [1, 2, 3, 4, 5] [1] rfl rfl) fun hC => ?_
         refine h_g hs 12 rfl (by kernel_rfl) rfl rfl hC rfl (fun w hC => y_assign rfl) fun a hs => ?_
         refine h_done (by kernel_rfl) ?_
         exact ⟨Sv583, b711, (hs.wk rfl), (hw.ft [2, 3, 4, 5, 1, 0] [3, 2] (by decide) rfl rfl)⟩
        exact AllH.nil
       ·rintro a w ⟨Sv712, b711, hs, hw⟩
        refine then_normal ?_
        refine wp_seq ?_
        refine wp_seq ?_
        refine wp_region_lit ?_
        refine st_val hs (y_move rfl) trivial rfl rfl fun a hs => ?_
        refine st_val hs (y_not rfl) trivial rfl rfl fun a hs => ?_
        refine wpList_nil ?_
        refine then_normal ?_
        refine wp_cond_split (hs.ev rfl) (fun h739 => ?_) (fun h739 => ?_)
        ·have hsh := ite_t hsh h739
         refine wp_seq ?_
         refine wp_region_lit ?_
         refine st_val hs (y_build (vs := []) Bld57 rfl rfl) trivial rfl rfl fun a hs => ?_
         refine w_store (m := 2) (cs' := [.int .i64 0, .int .i64 0]) hs hw 2 rfl rfl rfl Try.sizeOf57 rfl rfl rfl rfl trivial ?_
         intro a w hs hw
         refine st_val hs (y_assign rfl) trivial rfl rfl fun a hs => ?_
         refine wpList_nil ?_
         refine then_normal ?_
         have hsh := Option.some.inj hsh
         subst hsh
         have h740 := hd630 _ rfl
         subst h740
         refine wp_ret ?_
         refine then_ret ?_
         refine blk_ret ?_
         refine then_ret ?_
         refine then_ret ?_
         refine then_ret ?_
         refine blk_ret ?_
         refine then_ret ?_
         exact ret2 hs rfl (rv_cell hw 2 rfl rfl Try.isAgg57 Try.sizeOf57 rfl) (rv_tmp rfl) (hw.ret rfl)
        ·have hsh := ite_f hsh h739
         refine wp_skip ?_
         refine then_normal ?_
         refine wp_seq ?_
         refine wp_region_lit ?_
         refine st_val hs (y_loadBA (hw.ownAt 3 rfl) rfl Try.isAgg57 Try.sizeOf57 rfl rfl) trivial rfl rfl fun a hs => ?_
         refine st_val hs (y_fieldAddr (o' := 7) Try.runUnderlying26 rfl Try.sizeOf24 rfl rfl rfl) trivial rfl rfl fun a hs => ?_
         refine st_val hs (y_loadB1 (hw.ownAt 4 rfl) rfl Try.isAgg24 rfl) trivial rfl rfl fun a hs => ?_
         refine st_val hs (y_len Try.runUnderlying24 rfl) trivial rfl rfl fun a hs => ?_
         refine st_val hs (y_sub rfl rfl) trivial rfl rfl fun a hs => ?_
         refine st_val hs (y_fieldAddr (o' := 1) Try.runUnderlying51 rfl Try.sizeOf3 rfl rfl rfl) trivial rfl rfl fun a hs => ?_
         refine st_val hs (y_loadB1 (hw.ownAt 5 rfl) rfl Try.isAgg3 rfl) trivial rfl rfl fun a hs => ?_
         refine st_val hs (y_mul rfl rfl) trivial rfl rfl fun a hs => ?_
         refine st_val hs (y_fieldAddr (o' := 0) Try.runUnderlying51 rfl Try.sizeOf3 rfl rfl rfl) trivial rfl rfl fun a hs => ?_
         refine st_val hs (y_loadB1 (hw.ownAt 5 rfl) rfl Try.isAgg3 rfl) trivial rfl rfl fun a hs => ?_
         refine st_val hs (y_mul rfl rfl) trivial rfl rfl fun a hs => ?_
         refine st_val hs (y_build (vs := [(0, .int .i64 (w64 ((w64 ((x683.Taps.length : Int) - 1)) * rv710.1.Den))), (1, .int .i64 (w64 (2 * rv710.1.Num)))]) Bld57 rfl rfl) trivial rfl rfl fun a hs => ?_
         obtain ⟨rv742, h741, hsh⟩ := bind_t hsh
         refine st_callR hs (response_plus_ok h741 hw.bdom) (do_call Try.call55 rfl) trivial rfl rfl ?_
         intro v746 Sv743 w a h744 h745 hs
         subst h745
         have hw := hw.callB h744
         refine w_store (m := 2) (cs' := [.int .i64 rv742.Num, .int .i64 rv742.Den]) hs hw 3 rfl rfl rfl Try.sizeOf57 rfl rfl rfl rfl trivial ?_
         intro a w hs hw
         refine wpList_nil ?_
         refine then_normal ?_
         refine wp_seq ?_
         refine wp_region_lit ?_
         refine st_val hs (y_fieldAddr (o' := 0) Try.runUnderlying57 rfl Try.sizeOf3 rfl rfl rfl) trivial rfl rfl fun a hs => ?_
         refine st_val hs (y_loadB1 (hw.ownAt 3 rfl) rfl Try.isAgg3 rfl) trivial rfl rfl fun a hs => ?_
         refine st_val hs (y_gtr rfl rfl) trivial rfl rfl fun a hs => ?_
         refine st_val hs (y_move rfl) trivial rfl rfl fun a hs => ?_
         refine wpl_join 4 (fun a w1 => w = w1 ∧ Sl 89 [(2, .pointer (some ⟨b6, 0, none⟩)), (3, .pointer (some ⟨b7, 0, none⟩)), (4, .pointer (some ⟨b8, 0, none⟩)), (8, .pointer (some ⟨b345, 0, none⟩)), (42, .slice (some ⟨b689, o690, none⟩) r1.Stages.length k3), (43, .int .i64 (r1.Stages.length : Int)), (44, .int .i64 sv489.2.2), (85, .bool ((decide (1099511627776 < rv742.Num)) || (decide (1099511627776 < rv742.Den))))] a) ?_ ?_
         ·rcases Bool.eq_false_or_eq_true (decide (1099511627776 < rv742.Num)) with h748 | h748
          ·have hs := hs.fix 81 (.bool true) rfl (vb h748)
           refine st_skip hs rfl rfl rfl rfl rfl fun a hs => ?_
           refine st_skip hs rfl rfl rfl rfl rfl fun a hs => ?_
           refine st_skip hs rfl rfl rfl rfl rfl fun a hs => ?_
           refine st_val hs (y_pickT rfl rfl) trivial rfl rfl fun a hs => ?_
           refine wpList_nil ?_
           refine then_normal ?_
           exact ⟨rfl, (hs.fix 85 (.bool ((decide (1099511627776 < rv742.Num)) || (decide (1099511627776 < rv742.Den)))) rfl (or_t h748)).weaken _ ⟨rfl, rfl, rfl, rfl, rfl, rfl, rfl, rfl, trivial⟩⟩
          ·have hs := hs.fix 81 (.bool false) rfl (vb h748)
           refine st_val hs (y_fieldAddr (o' := 1) Try.runUnderlying57 rfl Try.sizeOf3 rfl rfl rfl) ⟨_, rfl, rfl⟩ rfl rfl fun a hs => ?_
           refine st_val hs (y_loadB1 (hw.ownAt 3 rfl) rfl Try.isAgg3 rfl) ⟨_, rfl, rfl⟩ rfl rfl fun a hs => ?_
           refine st_val hs (y_gtr rfl rfl) ⟨_, rfl, rfl⟩ rfl rfl fun a hs => ?_
           refine st_val hs (y_pickF rfl rfl) trivial rfl rfl fun a hs => ?_
           refine wpList_nil ?_
           refine then_normal ?_
           exact ⟨rfl, (hs.fix 85 (.bool ((decide (1099511627776 < rv742.Num)) || (decide (1099511627776 < rv742.Den)))) rfl (or_f h748)).weaken _ ⟨rfl, rfl, rfl, rfl, rfl, rfl, rfl, rfl, trivial⟩⟩
         ·rintro a w1 ⟨h752, hs⟩
          subst h752
          refine wpList_nil ?_
          refine then_normal ?_
          refine wp_cond_split (hs.ev rfl) (fun h750 => ?_) (fun h750 => ?_)
          ·have hsh := ite_t hsh h750
           refine wp_seq ?_
           refine wp_region_lit ?_
           refine st_val hs (y_build (vs := []) Bld57 rfl rfl) trivial rfl rfl fun a hs => ?_
           refine w_store (m := 2) (cs' := [.int .i64 0, .int .i64 0]) hs hw 2 rfl rfl rfl Try.sizeOf57 rfl rfl rfl rfl trivial ?_
           intro a w hs hw
           refine st_val hs (y_assign rfl) trivial rfl rfl fun a hs => ?_
           refine wpList_nil ?_
           refine then_normal ?_
           have hsh := Option.some.inj hsh
           subst hsh
           have h751 := hd630 _ rfl
           subst h751
           refine wp_ret ?_
           refine blk_ret ?_
           refine then_ret ?_
           refine then_ret ?_
           refine then_ret ?_
           refine blk_ret ?_
           refine then_ret ?_
           exact ret2 hs rfl (rv_cell hw 2 rfl rfl Try.isAgg57 Try.sizeOf57 rfl) (rv_tmp rfl) (hw.ret rfl)
          ·have hsh := ite_f hsh h750
           refine wp_skip ?_
           refine blk_normal ?_
           refine then_normal ?_
           exact ⟨rv742.Num, rv742.Den, Sv712, hsh, (hs.wk rfl), (hw.ft [0, 1, 2, 3] [0] (by decide) rfl rfl)⟩
     ·rintro a w ⟨x679, x680, Sv678, hsh, hs, hw⟩
      delta response_Delay_j1 at hsh
      refine then_normal ?_
      refine wp_region_lit ?_
      refine st_val hs (y_add rfl rfl) trivial rfl rfl fun a hs => ?_
      refine st_val hs (y_move rfl) trivial rfl rfl fun a hs => ?_
      refine wpList_nil ?_
      refine then_normal ?_
      exact ⟨_, (Option.some.inj hsh).symm, Sv678, (hs.wk rfl), (hw.ft [0, 1, 2, 3] [0] (by decide) rfl rfl)⟩
    ·have hsh := ite_f hsh h635
     obtain ⟨rv753, hsh, h754⟩ := map_t hsh
     have h754 := (hd630 _ h754.symm).symm
     subst h754
     refine wp_exit ?_
     refine then_exit ?_
     refine then_exit ?_
     refine blk_exit ?_
     refine then_normal ?_
     refine wp_seq ?_
     refine wp_region_lit ?_
     refine st_val hs (y_loadBA (hw.ownAt 3 rfl) rfl Try.isAgg57 Try.sizeOf57 rfl rfl) trivial rfl rfl fun a hs => ?_
     refine w_store (m := 2) (cs' := [.int .i64 sv489.1, .int .i64 sv489.2.1]) hs hw 2 rfl rfl rfl Try.sizeOf57 rfl rfl rfl rfl trivial ?_
     intro a w hs hw
     refine st_val hs (y_assign rfl) trivial rfl rfl fun a hs => ?_
     refine wpList_nil ?_
     refine then_normal ?_
     have hsh := Option.some.inj hsh
     subst hsh
     refine wp_ret ?_
     exact ret2 hs rfl (rv_cell hw 2 rfl rfl Try.isAgg57 Try.sizeOf57 rfl) (rv_tmp rfl) (hw.ret rfl)

abbrev law18_sane_rd (w0 : World) (X : List Nat) (r : Bool) : (Nat → Prop) → World → Value → Prop := fun S w v => v = .bool r
set_option maxHeartbeats 4000000 in
set_option maxRecDepth 100000 in
theorem law18_sane_ok {w0 : World} {S0 : Nat → Prop} {r : Bool} (hsh : law18_sane = some r) (hS : ∀ b, S0 b → b < w0.heap.size) : Calls Try.prog 8 #[] w0 (Ret ([]) w0 S0 (law18_sane_rd w0 ([]) r)) := by
 refine calls_of_wp Try.func8 rfl ?_
 have hs := Sl.enter #[] 57 [] rfl trivial
 have hw := Wd.enter (E := []) hS (fun _ h => (by cases h))
 delta law18_sane at hsh
 refine wp_seq ?_
 refine wp_region_lit ?_
 refine st_val hs (y_assign rfl) trivial rfl rfl fun a hs => ?_
 refine wpList_nil ?_
 refine then_normal ?_
 refine wp_seq ?_
 refine wp_region_lit ?_
 refine st_val hs (y_build (vs := [(0, .int .i64 1)]) Bld23 rfl rfl) trivial rfl rfl fun a hs => ?_
 refine st_val hs (y_build (vs := [(0, .int .i64 1), (1, .int .i64 1)]) Bld23 rfl rfl) trivial rfl rfl fun a hs => ?_
 refine st_val hs (y_build (vs := [(0, .int .i64 1), (1, .agg #[.int .i64 1, .int .i64 0, .int .i64 0]), (2, .agg #[.int .i64 1, .int .i64 1, .int .i64 0])]) Bld26 rfl rfl) trivial rfl rfl fun a hs => ?_
 refine w_alloc (cs := [.int .i64 0, .int .i64 0, .int .i64 0, .int .i64 0, .int .i64 0, .int .i64 0, .int .i64 0, .slice none ([] : List Int).length 0, .int .i64 0, .int .i64 0]) hs hw Try.zeroValue26 rfl rfl trivial ?_
 intro b1 a w hs hw
 refine w_store (m := 10) (cs' := [.int .i64 1, .int .i64 1, .int .i64 0, .int .i64 0, .int .i64 1, .int .i64 1, .int .i64 0, .slice none ([] : List Int).length 0, .int .i64 0, .int .i64 0]) hs hw 0 rfl rfl rfl Try.sizeOf26 rfl rfl rfl rfl trivial ?_
 intro a w hs hw
 refine wpList_nil ?_
 refine then_normal ?_
 refine wp_seq ?_
 refine wp_region_lit ?_
 refine st_val hs (y_loadBA (hw.ownAt 0 rfl) rfl Try.isAgg26 Try.sizeOf26 rfl rfl) trivial rfl rfl fun a hs => ?_
 have hw := hw.addE (e := SlA (α := Int) none 0 0 []) nil_sl
 refine w_litSlice (α := Stage) (vs := [.agg #[.int .i64 1, .int .i64 1, .int .i64 0, .int .i64 0, .int .i64 1, .int .i64 1, .int .i64 0, .slice none ([] : List Int).length 0, .int .i64 0, .int .i64 0]]) (cs := [.int .i64 1, .int .i64 1, .int .i64 0, .int .i64 0, .int .i64 1, .int .i64 1, .int .i64 0, .slice none ([] : List Int).length 0, .int .i64 0, .int .i64 0]) (xs := ([(⟨1, (⟨1, 0, 0⟩ : (Arr3 Int)), (⟨1, 1, 0⟩ : (Arr3 Int)), ([] : List Int), 0, 0⟩ : Stage)] : List Stage)) hs hw El35 rfl rfl rfl rfl rfl rfl ⟨⟨_, _, _, _, _, _, _, _, _, _, rfl, rfl, rfl, rfl, rfl, rfl, rfl, rfl, ⟨_, _, _, rfl, hw.envAt 0 rfl⟩, rfl, rfl⟩, rfl⟩ rfl trivial rfl fun b3 a w hs hw => ?_
 refine st_val hs (y_build (vs := [(0, .slice (some ⟨b3, 0, none⟩) ([(⟨1, (⟨1, 0, 0⟩ : (Arr3 Int)), (⟨1, 1, 0⟩ : (Arr3 Int)), ([] : List Int), 0, 0⟩ : Stage)] : List Stage).length ([(⟨1, (⟨1, 0, 0⟩ : (Arr3 Int)), (⟨1, 1, 0⟩ : (Arr3 Int)), ([] : List Int), 0, 0⟩ : Stage)] : List Stage).length)]) Bld37 rfl rfl) trivial rfl rfl fun a hs => ?_
 obtain ⟨rv5, h4, hsh⟩ := bind_t hsh
 obtain ⟨Sv12, hw⟩ := w_share (α := Stage) hw 0 rfl 0 rfl
 refine st_callR hs (response_Gain_ok h4 hw.dom (hw.envAt 0 rfl)) (do_call Try.call10 rfl) trivial rfl rfl ?_
 intro v16 Sv13 w a h14 h15 hs
 obtain ⟨p6, k7, p9, k10, rfl, h8, h11⟩ := h15
 have hw := hw.call h14
 have hw := hw.addE (e := SlA p6 rv5.1.Num.length k7 rv5.1.Num) h8
 have hw := hw.addE (e := SlA p9 rv5.1.Den.length k10 rv5.1.Den) h11
 refine st_val hs (y_move rfl) trivial rfl rfl fun a hs => ?_
 refine st_val hs (y_extract rfl rfl) trivial rfl rfl fun a hs => ?_
 refine st_val hs (y_extract rfl rfl) trivial rfl rfl fun a hs => ?_
 refine w_alloc (cs := [.slice none ([] : List Int).length 0, .slice none ([] : List Int).length 0]) hs hw Try.zeroValue31 rfl rfl trivial ?_
 intro b18 a w hs hw
 refine w_store (m := 2) (cs' := [.slice p6 rv5.1.Num.length k7, .slice p9 rv5.1.Den.length k10]) hs hw 0 rfl rfl rfl Try.sizeOf31 rfl rfl rfl rfl trivial ?_
 intro a w hs hw
 refine st_val hs (y_assign rfl) trivial rfl rfl fun a hs => ?_
 refine wpList_nil ?_
 refine then_normal ?_
 refine wp_seq ?_
 refine wp_region_lit ?_
 refine st_val hs (y_loadBA (hw.ownAt 0 rfl) rfl Try.isAgg31 Try.sizeOf31 rfl rfl) trivial rfl rfl fun a hs => ?_
 refine w_litSlice (α := Int) (vs := [.int .i64 1]) (cs := [.int .i64 1]) (xs := ([1] : List Int)) hs hw El29 rfl rfl rfl rfl rfl rfl ⟨⟨_, rfl, rfl⟩, rfl⟩ rfl trivial rfl fun b20 a w hs hw => ?_
 refine w_litSlice (α := Int) (vs := [.int .i64 2]) (cs := [.int .i64 2]) (xs := ([2] : List Int)) hs hw El29 rfl rfl rfl rfl rfl rfl ⟨⟨_, rfl, rfl⟩, rfl⟩ rfl trivial rfl fun b22 a w hs hw => ?_
 refine st_val hs (y_build (vs := [(0, .slice (some ⟨b20, 0, none⟩) ([1] : List Int).length ([1] : List Int).length), (1, .slice (some ⟨b22, 0, none⟩) ([2] : List Int).length ([2] : List Int).length)]) Bld31 rfl rfl) trivial rfl rfl fun a hs => ?_
 obtain ⟨rv24, h23, hsh⟩ := bind_t hsh
 refine st_callR hs (ref17_Equal_ok h23 hw.bdom (hw.bE 3 rfl) (hw.bE 2 rfl) (hw.bRow 1 rfl 1 rfl) (hw.bRow 0 rfl 0 rfl)) (do_call Try.call11 rfl) trivial rfl rfl ?_
 intro v28 Sv25 w a h26 h27 hs
 subst h27
 have hw := hw.callB h26
 refine st_val hs (y_move rfl) trivial rfl rfl fun a hs => ?_
 refine st_val hs (y_extract rfl rfl) trivial rfl rfl fun a hs => ?_
 refine st_val hs (y_extract rfl rfl) trivial rfl rfl fun a hs => ?_
 refine st_val hs (y_assign rfl) trivial rfl rfl fun a hs => ?_
 refine st_val hs (y_assign rfl) trivial rfl rfl fun a hs => ?_
 refine wpList_nil ?_
 refine then_normal ?_
 refine wp_seq ?_
 refine wp_region_lit ?_
 refine w_litSlice (α := Int) (vs := [.int .i64 1, .int .i64 2, .int .i64 1]) (cs := [.int .i64 1, .int .i64 2, .int .i64 1]) (xs := ([1, 2, 1] : List Int)) hs hw El24 rfl rfl rfl rfl rfl rfl ⟨⟨_, rfl, rfl⟩, ⟨⟨_, rfl, rfl⟩, ⟨⟨_, rfl, rfl⟩, rfl⟩⟩⟩ rfl trivial rfl fun b31 a w hs hw => ?_
 refine st_val hs (y_build (vs := [(0, .int .i64 2), (3, .slice (some ⟨b31, 0, none⟩) ([1, 2, 1] : List Int).length ([1, 2, 1] : List Int).length), (4, .int .i64 1), (5, .int .i64 2)]) Bld26 rfl rfl) trivial rfl rfl fun a hs => ?_
 obtain ⟨Sv34, hw⟩ := w_share (α := Int) hw 0 rfl 0 rfl
 refine w_litSlice (α := Stage) (vs := [.agg #[.int .i64 2, .int .i64 0, .int .i64 0, .int .i64 0, .int .i64 0, .int .i64 0, .int .i64 0, .slice (some ⟨b31, 0, none⟩) ([1, 2, 1] : List Int).length ([1, 2, 1] : List Int).length, .int .i64 1, .int .i64 2]]) (cs := [.int .i64 2, .int .i64 0, .int .i64 0, .int .i64 0, .int .i64 0, .int .i64 0, .int .i64 0, .slice (some ⟨b31, 0, none⟩) ([1, 2, 1] : List Int).length ([1, 2, 1] : List Int).length, .int .i64 1, .int .i64 2]) (xs := ([(⟨2, (⟨0, 0, 0⟩ : (Arr3 Int)), (⟨0, 0, 0⟩ : (Arr3 Int)), ([1, 2, 1] : List Int), 1, 2⟩ : Stage)] : List Stage)) hs hw El35 rfl rfl rfl rfl rfl rfl ⟨⟨_, _, _, _, _, _, _, _, _, _, rfl, rfl, rfl, rfl, rfl, rfl, rfl, rfl, ⟨_, _, _, rfl, hw.envAt 0 rfl⟩, rfl, rfl⟩, rfl⟩ rfl trivial rfl fun b33 a w hs hw => ?_
 refine st_val hs (y_build (vs := [(0, .slice (some ⟨b33, 0, none⟩) ([(⟨2, (⟨0, 0, 0⟩ : (Arr3 Int)), (⟨0, 0, 0⟩ : (Arr3 Int)), ([1, 2, 1] : List Int), 1, 2⟩ : Stage)] : List Stage).length ([(⟨2, (⟨0, 0, 0⟩ : (Arr3 Int)), (⟨0, 0, 0⟩ : (Arr3 Int)), ([1, 2, 1] : List Int), 1, 2⟩ : Stage)] : List Stage).length)]) Bld37 rfl rfl) trivial rfl rfl fun a hs => ?_
 refine st_val hs (y_build (vs := [(0, .int .i64 100), (1, .int .i64 1)]) Bld51 rfl rfl) trivial rfl rfl fun a hs => ?_
 obtain ⟨rv36, h35, hsh⟩ := bind_t hsh
 refine st_callR hs (response_Delay_ok h35 hw.bdom (hw.bRow 0 rfl 0 rfl)) (do_call Try.call20 rfl) trivial rfl rfl ?_
 intro v40 Sv37 w a h38 h39 hs
 subst h39
 have hw := hw.callB h38
 refine st_val hs (y_move rfl) trivial rfl rfl fun a hs => ?_
 refine st_val hs (y_extract rfl rfl) trivial rfl rfl fun a hs => ?_
 refine st_val hs (y_extract rfl rfl) trivial rfl rfl fun a hs => ?_
 refine w_alloc (cs := [.int .i64 0, .int .i64 0]) hs hw Try.zeroValue57 rfl rfl trivial ?_
 intro b42 a w hs hw
 refine w_store (m := 2) (cs' := [.int .i64 rv36.1.Num, .int .i64 rv36.1.Den]) hs hw 0 rfl rfl rfl Try.sizeOf57 rfl rfl rfl rfl trivial ?_
 intro a w hs hw
 refine st_val hs (y_assign rfl) trivial rfl rfl fun a hs => ?_
 refine wpList_nil ?_
 refine then_normal ?_
 refine wp_seq ?_
 refine wp_region_lit ?_
 refine st_val hs (y_move rfl) trivial rfl rfl fun a hs => ?_
 refine st_val hs (y_eql rfl rfl) trivial rfl rfl fun a hs => ?_
 refine st_val hs (y_move rfl) trivial rfl rfl fun a hs => ?_
 refine wpl_join 3 (fun a w1 => w = w1 ∧ Sl 57 [(1, .pointer (some ⟨b1, 0, none⟩)), (4, .bool rv24.1), (6, .pointer (some ⟨b42, 0, none⟩)), (7, .int .i64 rv36.2), (40, .bool ((rv5.2 == 0) && (rv24.2 == 0)))] a) ?_ ?_
 ·rcases Bool.eq_false_or_eq_true (rv5.2 == 0) with h43 | h43
  ·have hs := hs.fix 37 (.bool true) rfl (vb h43)
   refine st_val hs (y_move rfl) ⟨_, rfl, rfl⟩ rfl rfl fun a hs => ?_
   refine st_val hs (y_eql rfl rfl) ⟨_, rfl, rfl⟩ rfl rfl fun a hs => ?_
   refine st_val hs (y_pickT rfl rfl) trivial rfl rfl fun a hs => ?_
   refine wpList_nil ?_
   refine then_normal ?_
   exact ⟨rfl, (hs.fix 40 (.bool ((rv5.2 == 0) && (rv24.2 == 0))) rfl (and_t h43)).weaken _ ⟨rfl, rfl, rfl, rfl, rfl, trivial⟩⟩
  ·have hs := hs.fix 37 (.bool false) rfl (vb h43)
   refine st_skip hs rfl rfl rfl rfl rfl fun a hs => ?_
   refine st_skip hs rfl rfl rfl rfl rfl fun a hs => ?_
   refine st_val hs (y_pickF rfl rfl) trivial rfl rfl fun a hs => ?_
   refine wpList_nil ?_
   refine then_normal ?_
   exact ⟨rfl, (hs.fix 40 (.bool ((rv5.2 == 0) && (rv24.2 == 0))) rfl (and_f h43)).weaken _ ⟨rfl, rfl, rfl, rfl, rfl, trivial⟩⟩
 ·rintro a w1 ⟨h67, hs⟩
  subst h67
  refine st_val hs (y_move rfl) trivial rfl rfl fun a hs => ?_
  refine wpl_join 3 (fun a w1 => w = w1 ∧ Sl 57 [(1, .pointer (some ⟨b1, 0, none⟩)), (4, .bool rv24.1), (6, .pointer (some ⟨b42, 0, none⟩)), (44, .bool (((rv5.2 == 0) && (rv24.2 == 0)) && (rv36.2 == 0)))] a) ?_ ?_
  ·rcases Bool.eq_false_or_eq_true ((rv5.2 == 0) && (rv24.2 == 0)) with h44 | h44
   ·have hs := hs.fix 41 (.bool true) rfl (vb h44)
    refine st_val hs (y_move rfl) ⟨_, rfl, rfl⟩ rfl rfl fun a hs => ?_
    refine st_val hs (y_eql rfl rfl) ⟨_, rfl, rfl⟩ rfl rfl fun a hs => ?_
    refine st_val hs (y_pickT rfl rfl) trivial rfl rfl fun a hs => ?_
    refine wpList_nil ?_
    refine then_normal ?_
    exact ⟨rfl, (hs.fix 44 (.bool (((rv5.2 == 0) && (rv24.2 == 0)) && (rv36.2 == 0))) rfl (and_t h44)).weaken _ ⟨rfl, rfl, rfl, rfl, trivial⟩⟩
   ·have hs := hs.fix 41 (.bool false) rfl (vb h44)
    refine st_skip hs rfl rfl rfl rfl rfl fun a hs => ?_
    refine st_skip hs rfl rfl rfl rfl rfl fun a hs => ?_
    refine st_val hs (y_pickF rfl rfl) trivial rfl rfl fun a hs => ?_
    refine wpList_nil ?_
    refine then_normal ?_
    exact ⟨rfl, (hs.fix 44 (.bool (((rv5.2 == 0) && (rv24.2 == 0)) && (rv36.2 == 0))) rfl (and_f h44)).weaken _ ⟨rfl, rfl, rfl, rfl, trivial⟩⟩
  ·rintro a w1 ⟨h66, hs⟩
   subst h66
   refine st_val hs (y_move rfl) trivial rfl rfl fun a hs => ?_
   refine wpl_join 2 (fun a w1 => w = w1 ∧ Sl 57 [(1, .pointer (some ⟨b1, 0, none⟩)), (6, .pointer (some ⟨b42, 0, none⟩)), (47, .bool ((((rv5.2 == 0) && (rv24.2 == 0)) && (rv36.2 == 0)) && rv24.1))] a) ?_ ?_
   ·rcases Bool.eq_false_or_eq_true (((rv5.2 == 0) && (rv24.2 == 0)) && (rv36.2 == 0)) with h45 | h45
    ·have hs := hs.fix 45 (.bool true) rfl (vb h45)
     refine st_val hs (y_move rfl) ⟨_, rfl, rfl⟩ rfl rfl fun a hs => ?_
     refine st_val hs (y_pickT rfl rfl) trivial rfl rfl fun a hs => ?_
     refine wpList_nil ?_
     refine then_normal ?_
     exact ⟨rfl, (hs.fix 47 (.bool ((((rv5.2 == 0) && (rv24.2 == 0)) && (rv36.2 == 0)) && rv24.1)) rfl (and_t h45)).weaken _ ⟨rfl, rfl, rfl, trivial⟩⟩
    ·have hs := hs.fix 45 (.bool false) rfl (vb h45)
     refine st_skip hs rfl rfl rfl rfl rfl fun a hs => ?_
     refine st_val hs (y_pickF rfl rfl) trivial rfl rfl fun a hs => ?_
     refine wpList_nil ?_
     refine then_normal ?_
     exact ⟨rfl, (hs.fix 47 (.bool ((((rv5.2 == 0) && (rv24.2 == 0)) && (rv36.2 == 0)) && rv24.1)) rfl (and_f h45)).weaken _ ⟨rfl, rfl, rfl, trivial⟩⟩
   ·rintro a w1 ⟨h65, hs⟩
    subst h65
    refine st_val hs (y_move rfl) trivial rfl rfl fun a hs => ?_
    refine wpl_join 4 (fun a w1 => w = w1 ∧ Sl 57 [(1, .pointer (some ⟨b1, 0, none⟩)), (52, .bool (((((rv5.2 == 0) && (rv24.2 == 0)) && (rv36.2 == 0)) && rv24.1) && ((rv36.1.Num == 1) && ((rv36.1.Den == 100) && true))))] a) ?_ ?_
    ·rcases Bool.eq_false_or_eq_true ((((rv5.2 == 0) && (rv24.2 == 0)) && (rv36.2 == 0)) && rv24.1) with h46 | h46
     ·have hs := hs.fix 48 (.bool true) rfl (vb h46)
      refine st_val hs (y_loadBA (hw.ownAt 0 rfl) rfl Try.isAgg57 Try.sizeOf57 rfl rfl) ⟨_, rfl, rfl⟩ rfl rfl fun a hs => ?_
      refine st_val hs (y_build (vs := [(0, .int .i64 1), (1, .int .i64 100)]) Bld57 rfl rfl) ⟨_, rfl, rfl⟩ rfl rfl fun a hs => ?_
      refine st_val hs (y_eqlA (by kernel_rfl) rfl rfl (eqv_struct Try.runUnderlying57 (by kernel_rfl) (EqF.cons1 rfl Try.isAgg3 rfl rfl (eqv_int Try.runUnderlying3) (EqF.cons1 rfl Try.isAgg3 rfl rfl (eqv_int Try.runUnderlying3) EqF.nil)))) ⟨_, rfl, rfl⟩ rfl rfl fun a hs => ?_
      refine st_val hs (y_pickT rfl rfl) trivial rfl rfl fun a hs => ?_
      refine wpList_nil ?_
      refine then_normal ?_
      exact ⟨rfl, (hs.fix 52 (.bool (((((rv5.2 == 0) && (rv24.2 == 0)) && (rv36.2 == 0)) && rv24.1) && ((rv36.1.Num == 1) && ((rv36.1.Den == 100) && true)))) rfl (and_t h46)).weaken _ ⟨rfl, rfl, trivial⟩⟩
     ·have hs := hs.fix 48 (.bool false) rfl (vb h46)
      refine st_skip hs rfl rfl rfl rfl rfl fun a hs => ?_
      refine st_skip hs rfl rfl rfl rfl rfl fun a hs => ?_
      refine st_skip hs rfl rfl rfl rfl rfl fun a hs => ?_
      refine st_val hs (y_pickF rfl rfl) trivial rfl rfl fun a hs => ?_
      refine wpList_nil ?_
      refine then_normal ?_
      exact ⟨rfl, (hs.fix 52 (.bool (((((rv5.2 == 0) && (rv24.2 == 0)) && (rv36.2 == 0)) && rv24.1) && ((rv36.1.Num == 1) && ((rv36.1.Den == 100) && true)))) rfl (and_f h46)).weaken _ ⟨rfl, rfl, trivial⟩⟩
    ·rintro a w1 ⟨h64, hs⟩
     subst h64
     refine st_val hs (y_move rfl) trivial rfl rfl fun a hs => ?_
     obtain ⟨c55, hc55, hsh⟩ := bind_t hsh
     refine wpl_join 3 (fun a w => ∃ (Sv56 : Nat → Prop), Sl 57 [(56, .bool c55)] a ∧ Wd ⟨w0, S0, []⟩ Sv56 [] [] w) ?_ ?_
     ·rcases Bool.eq_false_or_eq_true (((((rv5.2 == 0) && (rv24.2 == 0)) && (rv36.2 == 0)) && rv24.1) && ((rv36.1.Num == 1) && ((rv36.1.Den == 100) && true))) with h54 | h54
      ·have hs := hs.fix 53 (.bool true) rfl (vb h54)
       have hsh := ite_t hc55 h54
       refine st_val hs (y_loadBA (hw.ownAt 5 rfl) rfl Try.isAgg26 Try.sizeOf26 rfl rfl) ⟨_, rfl, rfl⟩ rfl rfl fun a hs => ?_
       obtain ⟨rv58, h57, hsh⟩ := bind_t hsh
       refine st_callR hs (response_ValidStage_ok h57 hw.bdom (hw.bE 9 rfl)) (do_call Try.call7 rfl) ⟨_, rfl, rfl⟩ rfl rfl ?_
       intro v62 Sv59 w a h60 h61 hs
       subst h61
       have hw := hw.callB h60
       refine st_val hs (y_pickT rfl rfl) trivial rfl rfl fun a hs => ?_
       refine wpList_nil ?_
       have hsh := Option.some.inj hsh
       subst hsh
       refine then_normal ?_
       exact ⟨Sv34, (hs.wk rfl), (hw.ft [] [] (by decide) rfl rfl)⟩
      ·have hs := hs.fix 53 (.bool false) rfl (vb h54)
       have hsh := ite_f hc55 h54
       refine st_skip hs rfl rfl rfl rfl rfl fun a hs => ?_
       refine st_skip hs rfl rfl rfl rfl rfl fun a hs => ?_
       refine st_val hs (y_pickF rfl rfl) trivial rfl rfl fun a hs => ?_
       refine wpList_nil ?_
       have hsh := Option.some.inj hsh
       subst hsh
       refine then_normal ?_
       exact ⟨Sv34, (hs.wk rfl), (hw.ft [] [] (by decide) rfl rfl)⟩
     ·rintro a w ⟨Sv56, hs, hw⟩
      refine st_val hs (y_assign rfl) trivial rfl rfl fun a hs => ?_
      refine wpList_nil ?_
      refine then_normal ?_
      have hsh := Option.some.inj hsh
      subst hsh
      refine wp_ret ?_
      exact ret1 hs rfl (rv_tmp rfl) (hw.ret rfl)

abbrev made_Roll_rd (w0 : World) (X : List Nat) (r : Dice) : (Nat → Prop) → World → Value → Prop := fun S w v => ∃ (b_0 : Nat) (p0_0 : Option Addr) (k0_0 : Nat), v = .pointer (some ⟨b_0, 0, none⟩) ∧ Outs X w0 S w [.box b_0 [.slice p0_0 r.L.length k0_0, .int .i64 r.At] 84] ∧ (SlA p0_0 r.L.length k0_0 r.L).p S w
set_option maxHeartbeats 4000000 in
set_option maxRecDepth 100000 in
theorem made_Roll_ok {w0 : World} {S0 : Nat → Prop} {p2 : Option Addr} {k3 : Nat} {l1 : (List Int)} {r : Dice} (hsh : made_Roll l1 = some r) (hS : ∀ b, S0 b → b < w0.heap.size) (h4 : (SlA p2 l1.length k3 l1).p S0 w0) : Calls Try.prog 14 #[.slice p2 l1.length k3] w0 (Ret ([]) w0 S0 (made_Roll_rd w0 ([]) r)) := by
 refine calls_of_wp Try.func14 rfl ?_
 have hs := Sl.enter #[.slice p2 l1.length k3] 6 [(0, .slice p2 l1.length k3)] rfl ⟨rfl, trivial⟩
 have hw := Wd.enter (E := []) hS (fun _ h => (by cases h))
 have hw := hw.addE h4
 delta made_Roll at hsh
 refine wp_seq ?_
 refine wp_region_lit ?_
 refine st_val hs (y_assign rfl) trivial rfl rfl fun a hs => ?_
 refine wpList_nil ?_
 refine then_normal ?_
 refine wp_seq ?_
 refine wp_region_lit ?_
 refine st_val hs (y_move rfl) trivial rfl rfl fun a hs => ?_
 refine st_val hs (y_build (vs := [(0, .slice p2 l1.length k3)]) Bld84 rfl rfl) trivial rfl rfl fun a hs => ?_
 refine w_box (cs := [.slice p2 l1.length k3, .int .i64 0]) hs hw rfl rfl rfl trivial ?_
 intro b5 a w hs hw
 refine st_val hs (y_assign rfl) trivial rfl rfl fun a hs => ?_
 refine wpList_nil ?_
 refine then_normal ?_
 have hsh := Option.some.inj hsh
 subst hsh
 refine wp_ret ?_
 exact ret1 hs rfl (rv_tmp rfl) (hw.ret ⟨b5, p2, k3, rfl, (hw.outs [0] (by decide) rfl), (hw.envAt 0 rfl)⟩)

abbrev made_Dice_Next_rd (w0 : World) (X : List Nat) (b2 : Nat) (r : (Int × Dice)) : (Nat → Prop) → World → Value → Prop := fun S w v => ∃ (pq0_0 : Option Addr) (kq0_0 : Nat), v = .int .i64 r.1 ∧ Outs X w0 S w [.box b2 [.slice pq0_0 r.2.L.length kq0_0, .int .i64 r.2.At] 84] ∧ (SlA pq0_0 r.2.L.length kq0_0 r.2.L).p S w
set_option maxHeartbeats 4000000 in
set_option maxRecDepth 100000 in
theorem made_Dice_Next_ok {w0 : World} {S0 : Nat → Prop} {b2 : Nat} {p3 : Option Addr} {k4 : Nat} {d1 : Dice} {n6 : Int} {r : (Int × Dice)} (hsh : made_Dice_Next d1 n6 = some r) (hS : ∀ b, S0 b → b < w0.heap.size) (hin : Ins S0 w0 [.box b2 [.slice p3 d1.L.length k4, .int .i64 d1.At] 84]) (h5 : (SlA p3 d1.L.length k4 d1.L).p S0 w0) : Calls Try.prog 24 #[.pointer (some ⟨b2, 0, none⟩), .int .i64 n6] w0 (Ret (blks [.box b2 [.slice p3 d1.L.length k4, .int .i64 d1.At] 84]) w0 S0 (made_Dice_Next_rd w0 (blks [.box b2 [.slice p3 d1.L.length k4, .int .i64 d1.At] 84]) b2 r)) := by
 refine calls_of_wp Try.func24 rfl ?_
 have hs := Sl.enter #[.pointer (some ⟨b2, 0, none⟩), .int .i64 n6] 45 [(0, .pointer (some ⟨b2, 0, none⟩)), (1, .int .i64 n6)] rfl ⟨rfl, rfl, trivial⟩
 have hw := Wd.enterI hS hin
 have hw := hw.addE h5
 delta made_Dice_Next at hsh
 refine wp_seq ?_
 refine wp_region_lit ?_
 refine st_val hs (y_assign rfl) trivial rfl rfl fun a hs => ?_
 refine wpList_nil ?_
 refine then_normal ?_
 refine wp_seq ?_
 refine wp_seq ?_
 refine wp_only (fun a w => ∃ (Sv7 : Nat → Prop), Sl 45 [(0, .pointer (some ⟨b2, 0, none⟩)), (1, .int .i64 n6), (19, .bool ((decide ((d1.L.length : Int) ≤ d1.At)) || (decide (n6 < 1))))] a ∧ Wd ⟨w0, S0, blks [.box b2 [.slice p3 d1.L.length k4, .int .i64 d1.At] 84]⟩ Sv7 [.box b2 [.slice p3 d1.L.length k4, .int .i64 d1.At] 84] [SlA p3 d1.L.length k4 d1.L] w) ?_ ?_
 ·rcases Bool.eq_false_or_eq_true (decide ((d1.L.length : Int) ≤ d1.At)) with h8 | h8
  ·refine h_b (C := Cls [.box b2 [.slice p3 d1.L.length k4, .int .i64 d1.At] 84] []) (by kernel_rfl) rfl (hw.drew.cs [0] [] rfl rfl) fun hC => ?_
   have hw := hw.drew
   refine h_g hs 0 rfl (by kernel_rfl) rfl rfl hC rfl (fun w hC => y_move rfl) fun a hs => ?_
   refine h_g hs 1 rfl (by kernel_rfl) rfl rfl hC rfl (fun w hC => y_nilCheck rfl) fun a hs => ?_
   refine h_g hs 2 rfl (by kernel_rfl) rfl rfl hC rfl (fun w hC => y_fieldAddr (o' := 1) Try.runUnderlying84 rfl Try.sizeOf3 rfl rfl rfl) fun a hs => ?_
   refine h_g hs 3 rfl (by kernel_rfl) rfl rfl hC rfl (fun w hC => y_loadB1 (hC.ownAt 0 rfl) rfl Try.isAgg3 rfl) fun a hs => ?_
   refine h_g hs 4 rfl (by kernel_rfl) rfl rfl hC rfl (fun w hC => y_move rfl) fun a hs => ?_
   refine h_g hs 5 rfl (by kernel_rfl) rfl rfl hC rfl (fun w hC => y_nilCheck rfl) fun a hs => ?_
   refine h_g hs 6 rfl (by kernel_rfl) rfl rfl hC rfl (fun w hC => y_fieldAddr (o' := 0) Try.runUnderlying84 rfl Try.sizeOf24 rfl rfl rfl) fun a hs => ?_
   refine h_g hs 7 rfl (by kernel_rfl) rfl rfl hC rfl (fun w hC => y_loadB1 (hC.ownAt 0 rfl) rfl Try.isAgg24 rfl) fun a hs => ?_
   refine h_g hs 8 rfl (by kernel_rfl) rfl rfl hC rfl (fun w hC => y_len Try.runUnderlying24 rfl) fun a hs => ?_
   refine h_g hs 9 rfl (by kernel_rfl) rfl rfl hC rfl (fun w hC => y_geq rfl rfl) fun a hs => ?_
   refine h_g hs 10 rfl (by kernel_rfl) rfl rfl hC rfl (fun w hC => y_move rfl) fun a hs => ?_
   have hs := hs.fix 16 (.bool true) rfl (vb h8)
   refine h_s hs 11 rfl (by kernel_rfl) rfl rfl rfl (.inl rfl) rfl rfl hC fun a hs => ?_
   refine h_s hs 12 rfl (by kernel_rfl) rfl rfl rfl (.inl rfl) rfl rfl hC fun a hs => ?_
   refine h_g hs 13 rfl (by kernel_rfl) rfl rfl hC rfl (fun w hC => y_pickTE (v := .bool ((decide ((d1.L.length : Int) ≤ d1.At)) || (decide (n6 < 1)))) rfl rfl (or_t h8)) fun a hs => ?_
   refine h_done (by kernel_rfl) ?_
   exact ⟨S0, (hs.wk rfl), (hw.ft [0] [0] (by decide) rfl rfl)⟩
  ·refine h_b (C := Cls [.box b2 [.slice p3 d1.L.length k4, .int .i64 d1.At] 84] []) (by kernel_rfl) rfl (hw.drew.cs [0] [] rfl rfl) fun hC => ?_
   have hw := hw.drew
   refine h_g hs 0 rfl (by kernel_rfl) rfl rfl hC rfl (fun w hC => y_move rfl) fun a hs => ?_
   refine h_g hs 1 rfl (by kernel_rfl) rfl rfl hC rfl (fun w hC => y_nilCheck rfl) fun a hs => ?_
   refine h_g hs 2 rfl (by kernel_rfl) rfl rfl hC rfl (fun w hC => y_fieldAddr (o' := 1) Try.runUnderlying84 rfl Try.sizeOf3 rfl rfl rfl) fun a hs => ?_
   refine h_g hs 3 rfl (by kernel_rfl) rfl rfl hC rfl (fun w hC => y_loadB1 (hC.ownAt 0 rfl) rfl Try.isAgg3 rfl) fun a hs => ?_
   refine h_g hs 4 rfl (by kernel_rfl) rfl rfl hC rfl (fun w hC => y_move rfl) fun a hs => ?_
   refine h_g hs 5 rfl (by kernel_rfl) rfl rfl hC rfl (fun w hC => y_nilCheck rfl) fun a hs => ?_
   refine h_g hs 6 rfl (by kernel_rfl) rfl rfl hC rfl (fun w hC => y_fieldAddr (o' := 0) Try.runUnderlying84 rfl Try.sizeOf24 rfl rfl rfl) fun a hs => ?_
   refine h_g hs 7 rfl (by kernel_rfl) rfl rfl hC rfl (fun w hC => y_loadB1 (hC.ownAt 0 rfl) rfl Try.isAgg24 rfl) fun a hs => ?_
   refine h_g hs 8 rfl (by kernel_rfl) rfl rfl hC rfl (fun w hC => y_len Try.runUnderlying24 rfl) fun a hs => ?_
   refine h_g hs 9 rfl (by kernel_rfl) rfl rfl hC rfl (fun w hC => y_geq rfl rfl) fun a hs => ?_
   refine h_g hs 10 rfl (by kernel_rfl) rfl rfl hC rfl (fun w hC => y_move rfl) fun a hs => ?_
   have hs := hs.fix 16 (.bool false) rfl (vb h8)
   refine h_t hs 11 rfl (by kernel_rfl) ⟨_, rfl, rfl⟩ rfl rfl hC (fun w hC => y_move rfl) fun a hs => ?_
   refine h_t hs 12 rfl (by kernel_rfl) ⟨_, rfl, rfl⟩ rfl rfl hC (fun w hC => y_lss rfl rfl) fun a hs => ?_
   refine h_g hs 13 rfl (by kernel_rfl) rfl rfl hC rfl (fun w hC => y_pickFE (v := .bool ((decide ((d1.L.length : Int) ≤ d1.At)) || (decide (n6 < 1)))) rfl rfl (or_f h8)) fun a hs => ?_
   refine h_done (by kernel_rfl) ?_
   exact ⟨S0, (hs.wk rfl), (hw.ft [0] [0] (by decide) rfl rfl)⟩
 ·rintro a w ⟨Sv7, hs, hw⟩
  refine then_normal ?_
  refine wp_cond_split (hs.ev rfl) (fun h12 => ?_) (fun h12 => ?_)
  ·have hsh := ite_t hsh h12
   refine wp_seq ?_
   refine wp_region_lit ?_
   refine st_val hs (y_assign rfl) trivial rfl rfl fun a hs => ?_
   refine wpList_nil ?_
   refine then_normal ?_
   have hsh := Option.some.inj hsh
   subst hsh
   refine wp_ret ?_
   refine then_ret ?_
   exact ret1 hs rfl (rv_tmp rfl) (hw.ret ⟨p3, k4, rfl, (hw.outs [0] (by decide) rfl), (hw.envAt 0 rfl)⟩)
  ·have hsh := ite_f hsh h12
   refine wp_skip ?_
   refine then_normal ?_
   refine wp_seq ?_
   obtain ⟨x15, h13, hsh⟩ := bind_t hsh
   obtain ⟨b21, o22, q19, c20, h23, h16, h17, h18, h14⟩ := hw.elemV 0 rfl h13
   have hsv24 := hs
   have hwv25 := hw
   subst h23
   have hs := hsv24
   have hw := hwv25
   obtain ⟨_, rfl, rfl⟩ := h14
   have hw := hw.addE h18
   obtain ⟨rem27, h26, hsh⟩ := bind_t hsh
   refine wp_only (fun a w => ∃ (Sv28 : Nat → Prop), Sl 45 [(0, .pointer (some ⟨b2, 0, none⟩)), (1, .int .i64 n6), (5, .int .i64 rem27)] a ∧ Wd ⟨w0, S0, blks [.box b2 [.slice (some ⟨b21, o22, none⟩) d1.L.length k4, .int .i64 d1.At] 84]⟩ Sv28 [.box b2 [.slice (some ⟨b21, o22, none⟩) d1.L.length k4, .int .i64 d1.At] 84] [SlA (some ⟨b21, o22, none⟩) d1.L.length k4 d1.L] w) ?_ ?_
   ·refine h_b (C := Cls [.box b2 [.slice (some ⟨b21, o22, none⟩) d1.L.length k4, .int .i64 d1.At] 84] [CeA b21 q19 [.int .i64 x15]]) (by kernel_rfl) rfl (hw.drew.cs [0] [0] rfl rfl) fun hC => ?_
    have hw := hw.drew
    refine h_g hs 0 rfl (by kernel_rfl) rfl rfl hC rfl (fun w hC => y_move rfl) fun a hs => ?_
    refine h_g hs 1 rfl (by kernel_rfl) rfl rfl hC rfl (fun w hC => y_nilCheck rfl) fun a hs => ?_
    refine h_g hs 2 rfl (by kernel_rfl) rfl rfl hC rfl (fun w hC => y_fieldAddr (o' := 0) Try.runUnderlying84 rfl Try.sizeOf24 rfl rfl rfl) fun a hs => ?_
    refine h_g hs 3 rfl (by kernel_rfl) rfl rfl hC rfl (fun w hC => y_loadB1 (hC.ownAt 0 rfl) rfl Try.isAgg24 rfl) fun a hs => ?_
    refine h_g hs 4 rfl (by kernel_rfl) rfl rfl hC rfl (fun w hC => y_move rfl) fun a hs => ?_
    refine h_g hs 5 rfl (by kernel_rfl) rfl rfl hC rfl (fun w hC => y_nilCheck rfl) fun a hs => ?_
    refine h_g hs 6 rfl (by kernel_rfl) rfl rfl hC rfl (fun w hC => y_fieldAddr (o' := 1) Try.runUnderlying84 rfl Try.sizeOf3 rfl rfl rfl) fun a hs => ?_
    refine h_g hs 7 rfl (by kernel_rfl) rfl rfl hC rfl (fun w hC => y_loadB1 (hC.ownAt 0 rfl) rfl Try.isAgg3 rfl) fun a hs => ?_
    refine h_g hs 8 rfl (by kernel_rfl) rfl rfl hC rfl (fun w hC => y_indexAt Try.runUnderlying24 Try.sizeOf3 rfl rfl h16.1 h16.2 h17) fun a hs => ?_
    refine h_g hs 9 rfl (by kernel_rfl) rfl rfl hC rfl (fun w hC => y_loadE1 (j := 0) (hC.ceAt 0 rfl) rfl Try.isAgg3 rfl) fun a hs => ?_
    refine h_g hs 10 rfl (by kernel_rfl) rfl rfl hC rfl (fun w hC => y_move rfl) fun a hs => ?_
    refine h_g hs 11 rfl (by kernel_rfl) rfl rfl hC rfl (fun w hC => y_remM rfl rfl h26) fun a hs => ?_
    refine h_g hs 12 rfl (by kernel_rfl) rfl rfl hC rfl (fun w hC => y_assign rfl) fun a hs => ?_
    refine h_done (by kernel_rfl) ?_
    exact ⟨Sv7, (hs.wk rfl), (hw.ft [0] [1] (by decide) rfl rfl)⟩
   ·rintro a w ⟨Sv28, hs, hw⟩
    refine then_normal ?_
    refine wp_seq ?_
    refine wp_region_lit ?_
    refine st_val hs (y_move rfl) trivial rfl rfl fun a hs => ?_
    refine st_val hs (y_nilCheck rfl) trivial rfl rfl fun a hs => ?_
    refine st_val hs (y_fieldAddr (o' := 1) Try.runUnderlying84 rfl Try.sizeOf3 rfl rfl rfl) trivial rfl rfl fun a hs => ?_
    refine st_val hs (y_loadB1 (hw.ownAt 0 rfl) rfl Try.isAgg3 rfl) trivial rfl rfl fun a hs => ?_
    refine st_val hs (y_add rfl rfl) trivial rfl rfl fun a hs => ?_
    refine st_val hs (y_nilCheck rfl) trivial rfl rfl fun a hs => ?_
    refine st_val hs (y_fieldAddr (o' := 1) Try.runUnderlying84 rfl Try.sizeOf3 rfl rfl rfl) trivial rfl rfl fun a hs => ?_
    refine w_store (m := 1) (cs' := [.slice (some ⟨b21, o22, none⟩) d1.L.length k4, .int .i64 (w64 (d1.At + 1))]) hs hw 0 rfl rfl rfl Try.sizeOf3 rfl rfl rfl rfl trivial ?_
    intro a w hs hw
    refine wpList_nil ?_
    refine then_normal ?_
    refine wp_seq ?_
    refine wp_seq ?_
    refine wp_region_lit ?_
    refine st_val hs (y_move rfl) trivial rfl rfl fun a hs => ?_
    refine st_val hs (y_lss rfl rfl) trivial rfl rfl fun a hs => ?_
    refine wpList_nil ?_
    refine then_normal ?_
    refine wp_join (fun a w => ∃ (x33 : Int) (Sv32 : Nat → Prop), made_Dice_Next_j1 d1 x33 = some r ∧ Sl 45 [(5, .int .i64 x33)] a ∧ Wd ⟨w0, S0, blks [.box b2 [.slice (some ⟨b21, o22, none⟩) d1.L.length k4, .int .i64 d1.At] 84]⟩ Sv32 [.box b2 [.slice (some ⟨b21, o22, none⟩) d1.L.length k4, .int .i64 (w64 (d1.At + 1))] 84] [SlA (some ⟨b21, o22, none⟩) d1.L.length k4 d1.L] w) ?_ ?_
    ·refine wp_cond_split (hs.ev rfl) (fun h34 => ?_) (fun h34 => ?_)
     ·have hsh := ite_t hsh h34
      refine wp_region_lit ?_
      refine st_val hs (y_move rfl) trivial rfl rfl fun a hs => ?_
      refine st_val hs (y_move rfl) trivial rfl rfl fun a hs => ?_
      refine st_val hs (y_add rfl rfl) trivial rfl rfl fun a hs => ?_
      obtain ⟨x36, h35, hsh⟩ := bind_t hsh
      refine st_val hs (y_assignI rfl h35) trivial rfl rfl fun a hs => ?_
      refine wpList_nil ?_
      refine then_normal ?_
      exact ⟨x36, Sv28, hsh, (hs.wk rfl), (hw.ft [0] [0] (by decide) rfl rfl)⟩
     ·have hsh := ite_f hsh h34
      refine wp_skip ?_
      refine then_normal ?_
      exact ⟨rem27, Sv28, hsh, (hs.wk rfl), (hw.ft [0] [0] (by decide) rfl rfl)⟩
    ·rintro a w ⟨x33, Sv32, hsh, hs, hw⟩
     delta made_Dice_Next_j1 at hsh
     refine then_normal ?_
     refine wp_seq ?_
     refine wp_region_lit ?_
     refine st_val hs (y_move rfl) trivial rfl rfl fun a hs => ?_
     refine st_val hs (y_assign rfl) trivial rfl rfl fun a hs => ?_
     refine wpList_nil ?_
     refine then_normal ?_
     have hsh := Option.some.inj hsh
     subst hsh
     refine wp_ret ?_
     exact ret1 hs rfl (rv_tmp rfl) (hw.ret ⟨(some ⟨b21, o22, none⟩), k4, rfl, (hw.outs [0] (by decide) rfl), (hw.envAt 0 rfl)⟩)

abbrev made_Dice_Pick_rd (w0 : World) (X : List Nat) (b2 : Nat) (r : (Int × Dice)) : (Nat → Prop) → World → Value → Prop := fun S w v => ∃ (pq0_0 : Option Addr) (kq0_0 : Nat), v = .int .i64 r.1 ∧ Outs X w0 S w [.box b2 [.slice pq0_0 r.2.L.length kq0_0, .int .i64 r.2.At] 84] ∧ (SlA pq0_0 r.2.L.length kq0_0 r.2.L).p S w
set_option maxHeartbeats 4000000 in
set_option maxRecDepth 100000 in
theorem made_Dice_Pick_ok {w0 : World} {S0 : Nat → Prop} {b2 : Nat} {p3 : Option Addr} {k4 : Nat} {p7 : Option Addr} {k8 : Nat} {d1 : Dice} {l6 : (List Int)} {r : (Int × Dice)} (hsh : made_Dice_Pick d1 l6 = some r) (hS : ∀ b, S0 b → b < w0.heap.size) (hin : Ins S0 w0 [.box b2 [.slice p3 d1.L.length k4, .int .i64 d1.At] 84]) (h5 : (SlA p3 d1.L.length k4 d1.L).p S0 w0) (h9 : (SlA p7 l6.length k8 l6).p S0 w0) : Calls Try.prog 25 #[.pointer (some ⟨b2, 0, none⟩), .slice p7 l6.length k8] w0 (Ret (blks [.box b2 [.slice p3 d1.L.length k4, .int .i64 d1.At] 84]) w0 S0 (made_Dice_Pick_rd w0 (blks [.box b2 [.slice p3 d1.L.length k4, .int .i64 d1.At] 84]) b2 r)) := by
 refine calls_of_wp Try.func25 rfl ?_
 have hs := Sl.enter #[.pointer (some ⟨b2, 0, none⟩), .slice p7 l6.length k8] 12 [(0, .pointer (some ⟨b2, 0, none⟩)), (1, .slice p7 l6.length k8)] rfl ⟨rfl, rfl, trivial⟩
 have hw := Wd.enterI hS hin
 have hw := hw.addE h5
 have hw := hw.addE h9
 delta made_Dice_Pick at hsh
 refine wp_seq ?_
 refine wp_region_lit ?_
 refine st_val hs (y_assign rfl) trivial rfl rfl fun a hs => ?_
 refine wpList_nil ?_
 refine then_normal ?_
 refine wp_seq ?_
 refine wp_region_lit ?_
 refine st_val hs (y_move rfl) trivial rfl rfl fun a hs => ?_
 refine st_val hs (y_move rfl) trivial rfl rfl fun a hs => ?_
 refine st_val hs (y_move rfl) trivial rfl rfl fun a hs => ?_
 refine st_val hs (y_len Try.runUnderlying24 rfl) trivial rfl rfl fun a hs => ?_
 obtain ⟨rv11, h10, hsh⟩ := bind_t hsh
 refine st_callR hs (made_Dice_Next_ok h10 hw.dom (hw.ins [0] (by decide) rfl) (hw.envAt 1 rfl)) (do_call Try.call24 rfl) trivial rfl rfl ?_
 intro v18 Sv15 w a h16 h17 hs
 obtain ⟨p12, k13, rfl, h19, h14⟩ := h17
 have hw := hw.callO [0] [] (by decide) rfl h16 h19
 have hw := hw.addE (e := SlA p12 rv11.2.L.length k13 rv11.2.L) h14
 obtain ⟨x22, h20, hsh⟩ := bind_t hsh
 obtain ⟨b28, o29, q26, c27, h30, h23, h24, h25, h21⟩ := hw.elemV 1 rfl h20
 have hsv31 := hs
 have hwv32 := hw
 subst h30
 have hs := hsv31
 have hw := hwv32
 obtain ⟨_, rfl, rfl⟩ := h21
 have hw := hw.addE h25
 refine st_val hs (y_indexAt Try.runUnderlying24 Try.sizeOf3 rfl rfl h23.1 h23.2 h24) trivial rfl rfl fun a hs => ?_
 refine st_val hs (y_loadE1 (j := 0) (hw.ceAt 0 rfl) rfl Try.isAgg3 rfl) trivial rfl rfl fun a hs => ?_
 refine st_val hs (y_assign rfl) trivial rfl rfl fun a hs => ?_
 refine wpList_nil ?_
 refine then_normal ?_
 have hsh := Option.some.inj hsh
 subst hsh
 refine wp_ret ?_
 exact ret1 hs rfl (rv_tmp rfl) (hw.ret ⟨p12, k13, rfl, (hw.outs [0] (by decide) rfl), (hw.envAt 1 rfl)⟩)

abbrev made_Dice_Stage_rd (w0 : World) (X : List Nat) (b2 : Nat) (r : (Stage × Dice)) : (Nat → Prop) → World → Value → Prop := fun S w v => ∃ (p0_7 : Option Addr) (k0_7 : Nat) (c0_7 : List Value) (pq0_0 : Option Addr) (kq0_0 : Nat), v = .agg #[.int .i64 r.1.Kind, .int .i64 r.1.Num.e0, .int .i64 r.1.Num.e1, .int .i64 r.1.Num.e2, .int .i64 r.1.Den.e0, .int .i64 r.1.Den.e1, .int .i64 r.1.Den.e2, .slice p0_7 r.1.Taps.length k0_7, .int .i64 r.1.Factor, .int .i64 r.1.Shift] ∧ Outs X w0 S w [.row p0_7 r.1.Taps.length k0_7 c0_7 3 1, .box b2 [.slice pq0_0 r.2.L.length kq0_0, .int .i64 r.2.At] 84] ∧ (RowA c0_7 r.1.Taps).p S w ∧ (SlA pq0_0 r.2.L.length kq0_0 r.2.L).p S w
set_option maxHeartbeats 4000000 in
set_option maxRecDepth 100000 in
theorem made_Dice_Stage_ok {w0 : World} {S0 : Nat → Prop} {b2 : Nat} {p3 : Option Addr} {k4 : Nat} {d1 : Dice} {r : (Stage × Dice)} (hsh : made_Dice_Stage d1 = some r) (hS : ∀ b, S0 b → b < w0.heap.size) (hin : Ins S0 w0 [.box b2 [.slice p3 d1.L.length k4, .int .i64 d1.At] 84]) (h5 : (SlA p3 d1.L.length k4 d1.L).p S0 w0) : Calls Try.prog 23 #[.pointer (some ⟨b2, 0, none⟩)] w0 (Ret (blks [.box b2 [.slice p3 d1.L.length k4, .int .i64 d1.At] 84]) w0 S0 (made_Dice_Stage_rd w0 (blks [.box b2 [.slice p3 d1.L.length k4, .int .i64 d1.At] 84]) b2 r)) := by
 refine calls_of_wp Try.func23 rfl ?_
 have hs := Sl.enter #[.pointer (some ⟨b2, 0, none⟩)] 77 [(0, .pointer (some ⟨b2, 0, none⟩))] rfl ⟨rfl, trivial⟩
 have hw := Wd.enterI hS hin
 have hw := hw.addE h5
 delta made_Dice_Stage at hsh
 refine wp_seq ?_
 refine wp_region_lit ?_
 refine w_alloc (cs := [.int .i64 0, .int .i64 0, .int .i64 0, .int .i64 0, .int .i64 0, .int .i64 0, .int .i64 0, .slice none ([] : List Int).length 0, .int .i64 0, .int .i64 0]) hs hw Try.zeroValue26 rfl rfl trivial ?_
 intro b6 a w hs hw
 refine wpList_nil ?_
 refine then_normal ?_
 refine wp_seq ?_
 refine wp_seq ?_
 refine wp_region_lit ?_
 refine st_val hs (y_move rfl) trivial rfl rfl fun a hs => ?_
 obtain ⟨rv8, h7, hsh⟩ := bind_t hsh
 refine st_callR hs (made_Dice_Next_ok h7 hw.dom (hw.ins [1] (by decide) rfl) (hw.envAt 0 rfl)) (do_call Try.call24 rfl) trivial rfl rfl ?_
 intro v15 Sv12 w a h13 h14 hs
 obtain ⟨p9, k10, rfl, h16, h11⟩ := h14
 have hw := hw.callO [1] [0] (by decide) rfl h13 h16
 have hw := hw.addE (e := SlA p9 rv8.2.L.length k10 rv8.2.L) h11
 refine wpList_nil ?_
 refine then_normal ?_
 refine wp_block ?_
 refine wp_seq ?_
 refine wp_region_lit ?_
 refine st_val hs (y_eql rfl rfl) trivial rfl rfl fun a hs => ?_
 refine st_val hs (y_assign rfl) trivial rfl rfl fun a hs => ?_
 refine wpList_nil ?_
 refine then_normal ?_
 refine wp_cond_split (hs.ev rfl) (fun h193 => ?_) (fun h193 => ?_)
 ·have hsh := ite_t hsh h193
  refine wp_seq ?_
  refine wp_region_lit ?_
  refine st_val hs (y_move rfl) trivial rfl rfl fun a hs => ?_
  obtain ⟨rv195, h194, hsh⟩ := bind_t hsh
  refine st_callR hs (made_Dice_Next_ok h194 hw.dom (hw.ins [0] (by decide) rfl) (hw.envAt 0 rfl)) (do_call Try.call24 rfl) trivial rfl rfl ?_
  intro v202 Sv199 w a h200 h201 hs
  obtain ⟨p196, k197, rfl, h203, h198⟩ := h201
  have hw := hw.callO [0] [1] (by decide) rfl h200 h203
  have hw := hw.addE (e := SlA p196 rv195.2.L.length k197 rv195.2.L) h198
  refine st_val hs (y_add rfl rfl) trivial rfl rfl fun a hs => ?_
  refine st_val hs (y_build (vs := [(0, .int .i64 (w64 (1 + rv195.1)))]) Bld23 rfl rfl) trivial rfl rfl fun a hs => ?_
  refine st_val hs (y_move rfl) trivial rfl rfl fun a hs => ?_
  obtain ⟨rv205, h204, hsh⟩ := bind_t hsh
  refine st_callR hs (made_Dice_Next_ok h204 hw.dom (hw.ins [0] (by decide) rfl) (hw.envAt 0 rfl)) (do_call Try.call24 rfl) trivial rfl rfl ?_
  intro v212 Sv209 w a h210 h211 hs
  obtain ⟨p206, k207, rfl, h213, h208⟩ := h211
  have hw := hw.callO [0] [1] (by decide) rfl h210 h213
  have hw := hw.addE (e := SlA p206 rv205.2.L.length k207 rv205.2.L) h208
  refine st_val hs (y_add rfl rfl) trivial rfl rfl fun a hs => ?_
  refine st_val hs (y_build (vs := [(0, .int .i64 (w64 (1 + rv205.1)))]) Bld23 rfl rfl) trivial rfl rfl fun a hs => ?_
  refine st_val hs (y_build (vs := [(0, .int .i64 0), (1, .agg #[.int .i64 (w64 (1 + rv195.1)), .int .i64 0, .int .i64 0]), (2, .agg #[.int .i64 (w64 (1 + rv205.1)), .int .i64 0, .int .i64 0])]) Bld26 rfl rfl) trivial rfl rfl fun a hs => ?_
  refine w_store (m := 10) (cs' := [.int .i64 0, .int .i64 (w64 (1 + rv195.1)), .int .i64 0, .int .i64 0, .int .i64 (w64 (1 + rv205.1)), .int .i64 0, .int .i64 0, .slice none ([] : List Int).length 0, .int .i64 0, .int .i64 0]) hs hw 1 rfl rfl rfl Try.sizeOf26 rfl rfl rfl rfl trivial ?_
  intro a w hs hw
  refine wpList_nil ?_
  refine then_normal ?_
  have hsh := Option.some.inj hsh
  subst hsh
  have hw := hw.nilRow Int 3
  refine wp_ret ?_
  refine blk_ret ?_
  refine then_ret ?_
  exact ret1 hs rfl (rv_cell hw 2 rfl rfl Try.isAgg26 Try.sizeOf26 rfl) (hw.ret ⟨none, 0, [], p206, k207, rfl, (hw.outs [0, 1] (by decide) rfl), (hw.envAt 0 rfl), (hw.envAt 1 rfl)⟩)
 ·have hsh := ite_f hsh h193
  refine wp_seq ?_
  refine wp_region_lit ?_
  refine st_val hs (y_eql rfl rfl) trivial rfl rfl fun a hs => ?_
  refine st_val hs (y_assign rfl) trivial rfl rfl fun a hs => ?_
  refine wpList_nil ?_
  refine then_normal ?_
  refine wp_cond_split (hs.ev rfl) (fun h281 => ?_) (fun h281 => ?_)
  ·have hsh := ite_t hsh h281
   refine wp_seq ?_
   refine wp_region_lit ?_
   refine st_val hs (y_move rfl) trivial rfl rfl fun a hs => ?_
   obtain ⟨rv283, h282, hsh⟩ := bind_t hsh
   refine st_callR hs (made_Dice_Next_ok h282 hw.dom (hw.ins [0] (by decide) rfl) (hw.envAt 0 rfl)) (do_call Try.call24 rfl) trivial rfl rfl ?_
   intro v290 Sv287 w a h288 h289 hs
   obtain ⟨p284, k285, rfl, h291, h286⟩ := h289
   have hw := hw.callO [0] [1] (by decide) rfl h288 h291
   have hw := hw.addE (e := SlA p284 rv283.2.L.length k285 rv283.2.L) h286
   refine st_val hs (y_sub rfl rfl) trivial rfl rfl fun a hs => ?_
   refine st_val hs (y_move rfl) trivial rfl rfl fun a hs => ?_
   obtain ⟨rv293, h292, hsh⟩ := bind_t hsh
   refine st_callR hs (made_Dice_Next_ok h292 hw.dom (hw.ins [0] (by decide) rfl) (hw.envAt 0 rfl)) (do_call Try.call24 rfl) trivial rfl rfl ?_
   intro v300 Sv297 w a h298 h299 hs
   obtain ⟨p294, k295, rfl, h301, h296⟩ := h299
   have hw := hw.callO [0] [1] (by decide) rfl h298 h301
   have hw := hw.addE (e := SlA p294 rv293.2.L.length k295 rv293.2.L) h296
   refine st_val hs (y_sub rfl rfl) trivial rfl rfl fun a hs => ?_
   refine st_val hs (y_move rfl) trivial rfl rfl fun a hs => ?_
   obtain ⟨rv303, h302, hsh⟩ := bind_t hsh
   refine st_callR hs (made_Dice_Next_ok h302 hw.dom (hw.ins [0] (by decide) rfl) (hw.envAt 0 rfl)) (do_call Try.call24 rfl) trivial rfl rfl ?_
   intro v310 Sv307 w a h308 h309 hs
   obtain ⟨p304, k305, rfl, h311, h306⟩ := h309
   have hw := hw.callO [0] [1] (by decide) rfl h308 h311
   have hw := hw.addE (e := SlA p304 rv303.2.L.length k305 rv303.2.L) h306
   refine st_val hs (y_build (vs := [(0, .int .i64 (w64 (rv283.1 - 4))), (1, .int .i64 (w64 (rv293.1 - 4))), (2, .int .i64 rv303.1)]) Bld23 rfl rfl) trivial rfl rfl fun a hs => ?_
   refine st_val hs (y_move rfl) trivial rfl rfl fun a hs => ?_
   refine w_litSlice (α := Int) (vs := [.int .i64 1, .int .i64 2, .int .i64 (-3), .int .i64 1048576]) (cs := [.int .i64 1, .int .i64 2, .int .i64 (-3), .int .i64 1048576]) (xs := ([1, 2, (-3), 1048576] : List Int)) hs hw El24 rfl rfl rfl rfl rfl rfl ⟨⟨_, rfl, rfl⟩, ⟨⟨_, rfl, rfl⟩, ⟨⟨_, rfl, rfl⟩, ⟨⟨_, rfl, rfl⟩, rfl⟩⟩⟩⟩ rfl trivial rfl fun b313 a w hs hw => ?_
   obtain ⟨rv315, h314, hsh⟩ := bind_t hsh
   obtain ⟨Sv319, hw⟩ := w_share (α := Int) hw 0 rfl 0 rfl
   refine st_callR hs (made_Dice_Pick_ok h314 hw.dom (hw.ins [0] (by decide) rfl) (hw.envAt 2 rfl) (hw.envAt 0 rfl)) (do_call Try.call25 rfl) trivial rfl rfl ?_
   intro v323 Sv320 w a h321 h322 hs
   obtain ⟨p316, k317, rfl, h324, h318⟩ := h322
   have hw := hw.callO [0] [1] (by decide) rfl h321 h324
   have hw := hw.addE (e := SlA p316 rv315.2.L.length k317 rv315.2.L) h318
   refine st_val hs (y_move rfl) trivial rfl rfl fun a hs => ?_
   obtain ⟨rv326, h325, hsh⟩ := bind_t hsh
   refine st_callR hs (made_Dice_Next_ok h325 hw.dom (hw.ins [0] (by decide) rfl) (hw.envAt 0 rfl)) (do_call Try.call24 rfl) trivial rfl rfl ?_
   intro v333 Sv330 w a h331 h332 hs
   obtain ⟨p327, k328, rfl, h334, h329⟩ := h332
   have hw := hw.callO [0] [1] (by decide) rfl h331 h334
   have hw := hw.addE (e := SlA p327 rv326.2.L.length k328 rv326.2.L) h329
   refine st_val hs (y_sub rfl rfl) trivial rfl rfl fun a hs => ?_
   refine st_val hs (y_move rfl) trivial rfl rfl fun a hs => ?_
   refine w_litSlice (α := Int) (vs := [.int .i64 0, .int .i64 1, .int .i64 1048576]) (cs := [.int .i64 0, .int .i64 1, .int .i64 1048576]) (xs := ([0, 1, 1048576] : List Int)) hs hw El24 rfl rfl rfl rfl rfl rfl ⟨⟨_, rfl, rfl⟩, ⟨⟨_, rfl, rfl⟩, ⟨⟨_, rfl, rfl⟩, rfl⟩⟩⟩ rfl trivial rfl fun b336 a w hs hw => ?_
   obtain ⟨rv338, h337, hsh⟩ := bind_t hsh
   obtain ⟨Sv342, hw⟩ := w_share (α := Int) hw 0 rfl 0 rfl
   refine st_callR hs (made_Dice_Pick_ok h337 hw.dom (hw.ins [0] (by decide) rfl) (hw.envAt 2 rfl) (hw.envAt 0 rfl)) (do_call Try.call25 rfl) trivial rfl rfl ?_
   intro v346 Sv343 w a h344 h345 hs
   obtain ⟨p339, k340, rfl, h347, h341⟩ := h345
   have hw := hw.callO [0] [1] (by decide) rfl h344 h347
   have hw := hw.addE (e := SlA p339 rv338.2.L.length k340 rv338.2.L) h341
   refine st_val hs (y_build (vs := [(0, .int .i64 rv315.1), (1, .int .i64 (w64 (rv326.1 - 4))), (2, .int .i64 rv338.1)]) Bld23 rfl rfl) trivial rfl rfl fun a hs => ?_
   refine st_val hs (y_build (vs := [(0, .int .i64 1), (1, .agg #[.int .i64 (w64 (rv283.1 - 4)), .int .i64 (w64 (rv293.1 - 4)), .int .i64 rv303.1]), (2, .agg #[.int .i64 rv315.1, .int .i64 (w64 (rv326.1 - 4)), .int .i64 rv338.1])]) Bld26 rfl rfl) trivial rfl rfl fun a hs => ?_
   refine w_store (m := 10) (cs' := [.int .i64 1, .int .i64 (w64 (rv283.1 - 4)), .int .i64 (w64 (rv293.1 - 4)), .int .i64 rv303.1, .int .i64 rv315.1, .int .i64 (w64 (rv326.1 - 4)), .int .i64 rv338.1, .slice none ([] : List Int).length 0, .int .i64 0, .int .i64 0]) hs hw 1 rfl rfl rfl Try.sizeOf26 rfl rfl rfl rfl trivial ?_
   intro a w hs hw
   refine wpList_nil ?_
   refine then_normal ?_
   have hsh := Option.some.inj hsh
   subst hsh
   have hw := hw.nilRow Int 3
   refine wp_ret ?_
   refine blk_ret ?_
   refine then_ret ?_
   exact ret1 hs rfl (rv_cell hw 2 rfl rfl Try.isAgg26 Try.sizeOf26 rfl) (hw.ret ⟨none, 0, [], p339, k340, rfl, (hw.outs [0, 1] (by decide) rfl), (hw.envAt 0 rfl), (hw.envAt 1 rfl)⟩)
  ·have hsh := ite_f hsh h281
   refine wp_skip ?_
   refine blk_normal ?_
   refine then_normal ?_
   refine wp_seq ?_
   refine wp_region_lit ?_
   refine st_val hs (y_move rfl) trivial rfl rfl fun a hs => ?_
   obtain ⟨rv349, h348, hsh⟩ := bind_t hsh
   refine st_callR hs (made_Dice_Next_ok h348 hw.dom (hw.ins [0] (by decide) rfl) (hw.envAt 0 rfl)) (do_call Try.call24 rfl) trivial rfl rfl ?_
   intro v356 Sv353 w a h354 h355 hs
   obtain ⟨p350, k351, rfl, h357, h352⟩ := h355
   have hw := hw.callO [0] [1] (by decide) rfl h354 h357
   have hw := hw.addE (e := SlA p350 rv349.2.L.length k351 rv349.2.L) h352
   refine st_val hs (y_add rfl rfl) trivial rfl rfl fun a hs => ?_
   refine w_litSlice (α := Int) (vs := [.int .i64 (w64 (1 + rv349.1))]) (cs := [.int .i64 (w64 (1 + rv349.1))]) (xs := ([(w64 (1 + rv349.1))] : List Int)) hs hw El24 rfl rfl rfl rfl rfl rfl ⟨⟨_, rfl, rfl⟩, rfl⟩ rfl trivial rfl fun b359 a w hs hw => ?_
   refine st_val hs (y_move rfl) trivial rfl rfl fun a hs => ?_
   refine w_litSlice (α := Int) (vs := [.int .i64 1, .int .i64 1, .int .i64 2, .int .i64 5]) (cs := [.int .i64 1, .int .i64 1, .int .i64 2, .int .i64 5]) (xs := ([1, 1, 2, 5] : List Int)) hs hw El24 rfl rfl rfl rfl rfl rfl ⟨⟨_, rfl, rfl⟩, ⟨⟨_, rfl, rfl⟩, ⟨⟨_, rfl, rfl⟩, ⟨⟨_, rfl, rfl⟩, rfl⟩⟩⟩⟩ rfl trivial rfl fun b361 a w hs hw => ?_
   obtain ⟨rv363, h362, hsh⟩ := bind_t hsh
   obtain ⟨Sv367, hw⟩ := w_share (α := Int) hw 0 rfl 0 rfl
   refine st_callR hs (made_Dice_Pick_ok h362 hw.dom (hw.ins [1] (by decide) rfl) (hw.envAt 3 rfl) (hw.envAt 0 rfl)) (do_call Try.call25 rfl) trivial rfl rfl ?_
   intro v371 Sv368 w a h369 h370 hs
   obtain ⟨p364, k365, rfl, h372, h366⟩ := h370
   have hw := hw.callO [1] [0, 2] (by decide) rfl h369 h372
   have hw := hw.addE (e := SlA p364 rv363.2.L.length k365 rv363.2.L) h366
   refine st_val hs (y_move rfl) trivial rfl rfl fun a hs => ?_
   obtain ⟨rv374, h373, hsh⟩ := bind_t hsh
   refine st_callR hs (made_Dice_Next_ok h373 hw.dom (hw.ins [0] (by decide) rfl) (hw.envAt 0 rfl)) (do_call Try.call24 rfl) trivial rfl rfl ?_
   intro v381 Sv378 w a h379 h380 hs
   obtain ⟨p375, k376, rfl, h382, h377⟩ := h380
   have hw := hw.callO [0] [1, 2] (by decide) rfl h379 h382
   have hw := hw.addE (e := SlA p375 rv374.2.L.length k376 rv374.2.L) h377
   refine st_val hs (y_build (vs := [(0, .int .i64 2), (3, .slice (some ⟨b359, 0, none⟩) ([(w64 (1 + rv349.1))] : List Int).length ([(w64 (1 + rv349.1))] : List Int).length), (4, .int .i64 rv363.1), (5, .int .i64 rv374.1)]) Bld26 rfl rfl) trivial rfl rfl fun a hs => ?_
   refine w_alloc (cs := [.int .i64 0, .int .i64 0, .int .i64 0, .int .i64 0, .int .i64 0, .int .i64 0, .int .i64 0, .slice none ([] : List Int).length 0, .int .i64 0, .int .i64 0]) hs hw Try.zeroValue26 rfl rfl trivial ?_
   intro b383 a w hs hw
   refine w_store (m := 10) (cs' := [.int .i64 2, .int .i64 0, .int .i64 0, .int .i64 0, .int .i64 0, .int .i64 0, .int .i64 0, .slice (some ⟨b359, 0, none⟩) ([(w64 (1 + rv349.1))] : List Int).length ([(w64 (1 + rv349.1))] : List Int).length, .int .i64 rv363.1, .int .i64 rv374.1]) hs hw 0 rfl rfl rfl Try.sizeOf26 rfl rfl rfl rfl trivial ?_
   intro a w hs hw
   refine wpList_nil ?_
   refine then_normal ?_
   refine wp_seq ?_
   refine wp_seq ?_
   refine wp_region_lit ?_
   refine st_val hs (y_move rfl) trivial rfl rfl fun a hs => ?_
   obtain ⟨rv385, h384, hsh⟩ := bind_t hsh
   refine st_callR hs (made_Dice_Next_ok h384 hw.dom (hw.ins [1] (by decide) rfl) (hw.envAt 0 rfl)) (do_call Try.call24 rfl) trivial rfl rfl ?_
   intro v392 Sv389 w a h390 h391 hs
   obtain ⟨p386, k387, rfl, h393, h388⟩ := h391
   have hw := hw.callO [1] [0, 2, 3] (by decide) rfl h390 h393
   have hw := hw.addE (e := SlA p386 rv385.2.L.length k387 rv385.2.L) h388
   refine st_val hs (y_assign rfl) trivial rfl rfl fun a hs => ?_
   refine wpList_nil ?_
   refine then_normal ?_
   obtain ⟨e491, h582, hsh⟩ := bind_t hsh
   refine wp_join (fun a w => ∃ (p492 : Option Addr) (k493 : Nat) (c494 : List Value) (p495 : Option Addr) (k496 : Nat) (Sv497 : Nat → Prop), Sl 77 [(0, .pointer (some ⟨b2, 0, none⟩)), (2, .pointer (some ⟨b6, 0, none⟩)), (3, .pointer (some ⟨b383, 0, none⟩))] a ∧ Wd ⟨w0, S0, blks [.box b2 [.slice p3 d1.L.length k4, .int .i64 d1.At] 84]⟩ Sv497 [.box b2 [.slice p492 e491.1.length k493, .int .i64 e491.2.1] 84, .box b6 [.int .i64 0, .int .i64 0, .int .i64 0, .int .i64 0, .int .i64 0, .int .i64 0, .int .i64 0, .slice none ([] : List Int).length 0, .int .i64 0, .int .i64 0] 26, .box b383 [.int .i64 2, .int .i64 0, .int .i64 0, .int .i64 0, .int .i64 0, .int .i64 0, .int .i64 0, .slice p495 e491.2.2.length k496, .int .i64 rv363.1, .int .i64 rv374.1] 26, .row p495 e491.2.2.length k496 c494 3 1] [SlA p492 e491.1.length k493 e491.1, SlA none ([] : List Int).length 0 ([] : List Int), RowA c494 e491.2.2] w) ?_ ?_
   ·refine wp_block ?_
    have hw := hw.addE (e := SlA (α := Int) none 0 0 []) nil_sl
    refine wp_while (fun sv394 a w => ∃ (p455 : Option Addr) (k456 : Nat) (c457 : List Value) (p458 : Option Addr) (k459 : Nat) (Sv460 : Nat → Prop), Sl 77 [(0, .pointer (some ⟨b2, 0, none⟩)), (2, .pointer (some ⟨b6, 0, none⟩)), (3, .pointer (some ⟨b383, 0, none⟩)), (4, .int .i64 sv394.2.2.2)] a ∧ Wd ⟨w0, S0, blks [.box b2 [.slice p3 d1.L.length k4, .int .i64 d1.At] 84]⟩ Sv460 [.box b2 [.slice p455 sv394.1.length k456, .int .i64 sv394.2.1] 84, .box b6 [.int .i64 0, .int .i64 0, .int .i64 0, .int .i64 0, .int .i64 0, .int .i64 0, .int .i64 0, .slice none ([] : List Int).length 0, .int .i64 0, .int .i64 0] 26, .box b383 [.int .i64 2, .int .i64 0, .int .i64 0, .int .i64 0, .int .i64 0, .int .i64 0, .int .i64 0, .slice p458 sv394.2.2.1.length k459, .int .i64 rv363.1, .int .i64 rv374.1] 26, .row p458 sv394.2.2.1.length k459 c457 3 1] [SlA p455 sv394.1.length k456 sv394.1, SlA none ([] : List Int).length 0 ([] : List Int), RowA c457 sv394.2.2.1] w) (rv385.2.L, rv385.2.At, ([(w64 (1 + rv349.1))] : List Int), rv385.1) h582 ⟨p386, k387, [.int .i64 (w64 (1 + rv349.1))], (some ⟨b359, 0, none⟩), ([(w64 (1 + rv349.1))] : List Int).length, Sv389, (hs.wk rfl), (hw.ft [0, 3, 1, 2] [1, 0, 6] (by decide) rfl rfl)⟩ ?_
    clear h582
    repeat clear hsh
    rintro sv394 a w tv489 ⟨p455, k456, c457, p458, k459, Sv460, hs, hw⟩ hsh hd488
    delta made_Dice_Stage_l1 at hsh
    refine wp_seq ?_
    refine wp_seq ?_
    refine wp_region_lit ?_
    refine st_val hs (y_move rfl) trivial rfl rfl fun a hs => ?_
    refine st_val hs (y_gtr rfl rfl) trivial rfl rfl fun a hs => ?_
    refine wpList_nil ?_
    refine then_normal ?_
    refine wp_cond_split (hs.ev rfl) (fun h499 => ?_) (fun h499 => ?_)
    ·have hsh := ite_t hsh h499
     refine wp_skip ?_
     refine then_normal ?_
     refine wp_seq ?_
     refine wp_block ?_
     refine wp_seq ?_
     refine wp_region_lit ?_
     refine st_val hs (y_move rfl) trivial rfl rfl fun a hs => ?_
     obtain ⟨rv525, h524, hsh⟩ := bind_t hsh
     refine st_callR hs (made_Dice_Next_ok h524 hw.dom (hw.ins [0] (by decide) rfl) (hw.envAt 0 rfl)) (do_call Try.call24 rfl) trivial rfl rfl ?_
     intro v532 Sv529 w a h530 h531 hs
     obtain ⟨p526, k527, rfl, h533, h528⟩ := h531
     have hw := hw.callO [0] [1, 2, 3] (by decide) rfl h530 h533
     have hw := hw.addE (e := SlA p526 rv525.2.L.length k527 rv525.2.L) h528
     refine st_val hs (y_assign rfl) trivial rfl rfl fun a hs => ?_
     refine wpList_nil ?_
     refine then_normal ?_
     refine wp_region_lit ?_
     refine st_val hs (y_move rfl) trivial rfl rfl fun a hs => ?_
     refine w_litSlice (α := Int) (vs := [.int .i64 rv525.1]) (cs := [.int .i64 rv525.1]) (xs := ([rv525.1] : List Int)) hs hw El24 rfl rfl rfl rfl rfl rfl ⟨⟨_, rfl, rfl⟩, rfl⟩ rfl trivial rfl fun b535 a w hs hw => ?_
     refine st_val hs (y_fieldAddr (o' := 7) Try.runUnderlying26 rfl Try.sizeOf24 rfl rfl rfl) trivial rfl rfl fun a hs => ?_
     refine st_val hs (y_loadB1 (hw.ownAt 3 rfl) rfl Try.isAgg24 rfl) trivial rfl rfl fun a hs => ?_
     obtain ⟨l537, h536, hsh⟩ := bind_t hsh
     refine w_appendR (α := Int) hs hw El24 0 rfl rfl rfl 0 rfl 4 rfl 4 rfl h536 rfl trivial ?_
     intro p538 k539 c540 a w hs hw
     refine st_val hs (y_move rfl) trivial rfl rfl fun a hs => ?_
     refine w_litSlice (α := Int) (vs := [.int .i64 rv525.1]) (cs := [.int .i64 rv525.1]) (xs := ([rv525.1] : List Int)) hs hw El24 rfl rfl rfl rfl rfl rfl ⟨⟨_, rfl, rfl⟩, rfl⟩ rfl trivial rfl fun b542 a w hs hw => ?_
     obtain ⟨l544, h543, hsh⟩ := bind_t hsh
     refine w_appendR (α := Int) hs hw El24 1 rfl rfl rfl 1 rfl 0 rfl 0 rfl h543 rfl trivial ?_
     intro p545 k546 c547 a w hs hw
     refine st_val hs (y_fieldAddr (o' := 7) Try.runUnderlying26 rfl Try.sizeOf24 rfl rfl rfl) trivial rfl rfl fun a hs => ?_
     refine w_store (m := 1) (cs' := [.int .i64 2, .int .i64 0, .int .i64 0, .int .i64 0, .int .i64 0, .int .i64 0, .int .i64 0, .slice p545 l544.length k546, .int .i64 rv363.1, .int .i64 rv374.1]) hs hw 4 rfl rfl rfl Try.sizeOf24 rfl rfl rfl rfl trivial ?_
     intro a w hs hw
     refine wpList_nil ?_
     refine blk_normal ?_
     refine then_normal ?_
     refine wp_region_lit ?_
     refine st_val hs (y_move rfl) trivial rfl rfl fun a hs => ?_
     refine st_val hs (y_sub rfl rfl) trivial rfl rfl fun a hs => ?_
     obtain ⟨i549, h548, hsh⟩ := bind_t hsh
     refine st_val hs (y_assignI rfl h548) trivial rfl rfl fun a hs => ?_
     refine wpList_nil ?_
     refine then_normal ?_
     exact ⟨_, (Option.some.inj hsh).symm, p526, k527, c547, p545, k546, Sv529, (hs.wk rfl), (hw.ft [2, 3, 4, 1] [4, 6, 0] (by decide) rfl rfl)⟩
    ·have hsh := ite_f hsh h499
     refine wp_exit ?_
     refine then_exit ?_
     refine then_exit ?_
     refine blk_exit ?_
     have hsh := Option.some.inj hsh
     subst hsh
     have h550 := hd488 _ rfl
     subst h550
     refine then_normal ?_
     exact ⟨p455, k456, c457, p458, k459, Sv460, (hs.wk rfl), (hw.ft [0, 1, 2, 3] [0, 1, 2] (by decide) rfl rfl)⟩
   ·rintro a w ⟨p492, k493, c494, p495, k496, Sv497, hs, hw⟩
    refine then_normal ?_
    refine wp_seq ?_
    refine wp_seq ?_
    refine wp_region_lit ?_
    refine st_val hs (y_move rfl) trivial rfl rfl fun a hs => ?_
    obtain ⟨rv552, h551, hsh⟩ := bind_t hsh
    refine st_callR hs (made_Dice_Next_ok h551 hw.dom (hw.ins [0] (by decide) rfl) (hw.envAt 0 rfl)) (do_call Try.call24 rfl) trivial rfl rfl ?_
    intro v559 Sv556 w a h557 h558 hs
    obtain ⟨p553, k554, rfl, h560, h555⟩ := h558
    have hw := hw.callO [0] [1, 2, 3] (by decide) rfl h557 h560
    have hw := hw.addE (e := SlA p553 rv552.2.L.length k554 rv552.2.L) h555
    refine st_val hs (y_eql rfl rfl) trivial rfl rfl fun a hs => ?_
    refine wpList_nil ?_
    refine then_normal ?_
    refine wp_join (fun a w => ∃ (x573 : (List Int)) (c569 : List Value) (p570 : Option Addr) (k571 : Nat) (Sv572 : Nat → Prop), made_Dice_Stage_j2 rv363 rv374 rv552 x573 = some r ∧ Sl 77 [(2, .pointer (some ⟨b6, 0, none⟩)), (3, .pointer (some ⟨b383, 0, none⟩))] a ∧ Wd ⟨w0, S0, blks [.box b2 [.slice p3 d1.L.length k4, .int .i64 d1.At] 84]⟩ Sv572 [.box b2 [.slice p553 rv552.2.L.length k554, .int .i64 rv552.2.At] 84, .box b6 [.int .i64 0, .int .i64 0, .int .i64 0, .int .i64 0, .int .i64 0, .int .i64 0, .int .i64 0, .slice none ([] : List Int).length 0, .int .i64 0, .int .i64 0] 26, .box b383 [.int .i64 2, .int .i64 0, .int .i64 0, .int .i64 0, .int .i64 0, .int .i64 0, .int .i64 0, .slice p570 x573.length k571, .int .i64 rv363.1, .int .i64 rv374.1] 26, .row p570 x573.length k571 c569 3 1] [SlA p553 rv552.2.L.length k554 rv552.2.L, SlA none ([] : List Int).length 0 ([] : List Int), RowA c569 x573] w) ?_ ?_
    ·refine wp_cond_split (hs.ev rfl) (fun h574 => ?_) (fun h574 => ?_)
     ·have hsh := ite_t hsh h574
      refine wp_region_lit ?_
      refine st_val hs (y_fieldAddr (o' := 7) Try.runUnderlying26 rfl Try.sizeOf24 rfl rfl rfl) trivial rfl rfl fun a hs => ?_
      refine st_val hs (y_loadB1 (hw.ownAt 2 rfl) rfl Try.isAgg24 rfl) trivial rfl rfl fun a hs => ?_
      refine w_litSlice (α := Int) (vs := [.int .i64 3]) (cs := [.int .i64 3]) (xs := ([3] : List Int)) hs hw El24 rfl rfl rfl rfl rfl rfl ⟨⟨_, rfl, rfl⟩, rfl⟩ rfl trivial rfl fun b576 a w hs hw => ?_
      obtain ⟨l578, h577, hsh⟩ := bind_t hsh
      refine w_appendR (α := Int) hs hw El24 4 rfl rfl rfl 4 rfl 0 rfl 0 rfl h577 rfl trivial ?_
      intro p579 k580 c581 a w hs hw
      refine st_val hs (y_fieldAddr (o' := 7) Try.runUnderlying26 rfl Try.sizeOf24 rfl rfl rfl) trivial rfl rfl fun a hs => ?_
      refine w_store (m := 1) (cs' := [.int .i64 2, .int .i64 0, .int .i64 0, .int .i64 0, .int .i64 0, .int .i64 0, .int .i64 0, .slice p579 l578.length k580, .int .i64 rv363.1, .int .i64 rv374.1]) hs hw 3 rfl rfl rfl Try.sizeOf24 rfl rfl rfl rfl trivial ?_
      intro a w hs hw
      refine wpList_nil ?_
      refine then_normal ?_
      exact ⟨l578, c581, p579, k580, Sv556, hsh, (hs.wk rfl), (hw.ft [1, 2, 3, 4] [2, 4, 0] (by decide) rfl rfl)⟩
     ·have hsh := ite_f hsh h574
      refine wp_skip ?_
      refine then_normal ?_
      exact ⟨e491.2.2, c494, p495, k496, Sv556, hsh, (hs.wk rfl), (hw.ft [0, 1, 2, 3] [0, 2, 3] (by decide) rfl rfl)⟩
    ·rintro a w ⟨x573, c569, p570, k571, Sv572, hsh, hs, hw⟩
     delta made_Dice_Stage_j2 at hsh
     refine then_normal ?_
     refine wp_seq ?_
     refine wp_region_lit ?_
     refine st_val hs (y_loadBA (hw.ownAt 2 rfl) rfl Try.isAgg26 Try.sizeOf26 rfl rfl) trivial rfl rfl fun a hs => ?_
     refine w_store (m := 10) (cs' := [.int .i64 2, .int .i64 0, .int .i64 0, .int .i64 0, .int .i64 0, .int .i64 0, .int .i64 0, .slice p570 x573.length k571, .int .i64 rv363.1, .int .i64 rv374.1]) hs hw 1 rfl rfl rfl Try.sizeOf26 rfl rfl rfl rfl trivial ?_
     intro a w hs hw
     refine wpList_nil ?_
     refine then_normal ?_
     have hsh := Option.some.inj hsh
     subst hsh
     refine wp_ret ?_
     exact ret1 hs rfl (rv_cell hw 1 rfl rfl Try.isAgg26 Try.sizeOf26 rfl) (hw.ret ⟨p570, k571, c569, p553, k554, rfl, (hw.outs [3, 0] (by decide) rfl), (hw.envAt 2 rfl), (hw.envAt 0 rfl)⟩)

abbrev made_Dice_Response_rd (w0 : World) (X : List Nat) (b2 : Nat) (r : (Response × Dice)) : (Nat → Prop) → World → Value → Prop := fun S w v => ∃ (p0_0 : Option Addr) (k0_0 : Nat) (c0_0 : List Value) (pq0_0 : Option Addr) (kq0_0 : Nat), v = .agg #[.slice p0_0 r.1.Stages.length k0_0] ∧ Outs X w0 S w [.row p0_0 r.1.Stages.length k0_0 c0_0 26 10, .box b2 [.slice pq0_0 r.2.L.length kq0_0, .int .i64 r.2.At] 84] ∧ (RowA c0_0 r.1.Stages).p S w ∧ (SlA pq0_0 r.2.L.length kq0_0 r.2.L).p S w
set_option maxHeartbeats 4000000 in
set_option maxRecDepth 100000 in
theorem made_Dice_Response_ok {w0 : World} {S0 : Nat → Prop} {b2 : Nat} {p3 : Option Addr} {k4 : Nat} {d1 : Dice} {r : (Response × Dice)} (hsh : made_Dice_Response d1 = some r) (hS : ∀ b, S0 b → b < w0.heap.size) (hin : Ins S0 w0 [.box b2 [.slice p3 d1.L.length k4, .int .i64 d1.At] 84]) (h5 : (SlA p3 d1.L.length k4 d1.L).p S0 w0) : Calls Try.prog 15 #[.pointer (some ⟨b2, 0, none⟩)] w0 (Ret (blks [.box b2 [.slice p3 d1.L.length k4, .int .i64 d1.At] 84]) w0 S0 (made_Dice_Response_rd w0 (blks [.box b2 [.slice p3 d1.L.length k4, .int .i64 d1.At] 84]) b2 r)) := by
 refine calls_of_wp Try.func15 rfl ?_
 have hs := Sl.enter #[.pointer (some ⟨b2, 0, none⟩)] 31 [(0, .pointer (some ⟨b2, 0, none⟩))] rfl ⟨rfl, trivial⟩
 have hw := Wd.enterI hS hin
 have hw := hw.addE h5
 delta made_Dice_Response at hsh
 refine wp_seq ?_
 refine wp_region_lit ?_
 refine w_alloc (cs := [.slice none ([] : List Stage).length 0]) hs hw Try.zeroValue37 rfl rfl trivial ?_
 intro b6 a w hs hw
 refine wpList_nil ?_
 refine then_normal ?_
 refine wp_seq ?_
 refine wp_region_lit ?_
 refine w_alloc (cs := [.slice none ([] : List Stage).length 0]) hs hw Try.zeroValue37 rfl rfl trivial ?_
 intro b7 a w hs hw
 refine wpList_nil ?_
 refine then_normal ?_
 refine wp_seq ?_
 refine wp_region_lit ?_
 refine st_val hs (y_assign rfl) trivial rfl rfl fun a hs => ?_
 refine wpList_nil ?_
 refine then_normal ?_
 refine wp_seq ?_
 refine wp_seq ?_
 refine wp_region_lit ?_
 refine st_val hs (y_move rfl) trivial rfl rfl fun a hs => ?_
 obtain ⟨rv9, h8, hsh⟩ := bind_t hsh
 refine st_callR hs (made_Dice_Next_ok h8 hw.dom (hw.ins [2] (by decide) rfl) (hw.envAt 0 rfl)) (do_call Try.call24 rfl) trivial rfl rfl ?_
 intro v16 Sv13 w a h14 h15 hs
 obtain ⟨p10, k11, rfl, h17, h12⟩ := h15
 have hw := hw.callO [2] [0, 1] (by decide) rfl h14 h17
 have hw := hw.addE (e := SlA p10 rv9.2.L.length k11 rv9.2.L) h12
 refine st_val hs (y_assign rfl) trivial rfl rfl fun a hs => ?_
 refine wpList_nil ?_
 refine then_normal ?_
 obtain ⟨e130, h206, hsh⟩ := bind_t hsh
 refine wp_join (fun a w => ∃ (p131 : Option Addr) (k132 : Nat) (c133 : List Value) (p134 : Option Addr) (k135 : Nat) (Sv136 : Nat → Prop), Sl 31 [(2, .pointer (some ⟨b6, 0, none⟩)), (3, .pointer (some ⟨b7, 0, none⟩))] a ∧ Wd ⟨w0, S0, blks [.box b2 [.slice p3 d1.L.length k4, .int .i64 d1.At] 84]⟩ Sv136 [.box b2 [.slice p131 e130.1.length k132, .int .i64 e130.2.1] 84, .box b6 [.slice none ([] : List Stage).length 0] 37, .box b7 [.slice p134 e130.2.2.length k135] 37, .row p134 e130.2.2.length k135 c133 26 10] [SlA p131 e130.1.length k132 e130.1, SlA none ([] : List Stage).length 0 ([] : List Stage), RowA c133 e130.2.2] w) ?_ ?_
 ·refine wp_block ?_
  have hw := hw.nilRow Stage 26
  have hw := hw.addE (e := SlA (α := Stage) none 0 0 []) nil_sl
  refine wp_while (fun sv18 a w => ∃ (p89 : Option Addr) (k90 : Nat) (c91 : List Value) (p92 : Option Addr) (k93 : Nat) (Sv94 : Nat → Prop), Sl 31 [(0, .pointer (some ⟨b2, 0, none⟩)), (2, .pointer (some ⟨b6, 0, none⟩)), (3, .pointer (some ⟨b7, 0, none⟩)), (4, .int .i64 sv18.2.2.2.1), (5, .int .i64 sv18.2.2.2.2)] a ∧ Wd ⟨w0, S0, blks [.box b2 [.slice p3 d1.L.length k4, .int .i64 d1.At] 84]⟩ Sv94 [.box b2 [.slice p89 sv18.1.length k90, .int .i64 sv18.2.1] 84, .box b6 [.slice none ([] : List Stage).length 0] 37, .box b7 [.slice p92 sv18.2.2.1.length k93] 37, .row p92 sv18.2.2.1.length k93 c91 26 10] [SlA p89 sv18.1.length k90 sv18.1, SlA none ([] : List Stage).length 0 ([] : List Stage), RowA c91 sv18.2.2.1] w) (rv9.2.L, rv9.2.At, ([] : List Stage), 1, rv9.1) h206 ⟨p10, k11, [], none, 0, Sv13, (hs.wk rfl), (hw.ft [1, 3, 2, 0] [2, 0, 1] (by decide) rfl rfl)⟩ ?_
  clear h206
  repeat clear hsh
  rintro sv18 a w tv128 ⟨p89, k90, c91, p92, k93, Sv94, hs, hw⟩ hsh hd127
  delta made_Dice_Response_l1 at hsh
  refine wp_seq ?_
  refine wp_seq ?_
  refine wp_region_lit ?_
  refine st_val hs (y_move rfl) trivial rfl rfl fun a hs => ?_
  refine st_val hs (y_gtr rfl rfl) trivial rfl rfl fun a hs => ?_
  refine wpList_nil ?_
  refine then_normal ?_
  refine wp_cond_split (hs.ev rfl) (fun h138 => ?_) (fun h138 => ?_)
  ·have hsh := ite_t hsh h138
   refine wp_skip ?_
   refine then_normal ?_
   refine wp_seq ?_
   refine wp_block ?_
   refine wp_seq ?_
   refine wp_region_lit ?_
   refine st_val hs (y_move rfl) trivial rfl rfl fun a hs => ?_
   obtain ⟨rv169, h168, hsh⟩ := bind_t hsh
   refine st_callR hs (made_Dice_Stage_ok h168 hw.dom (hw.ins [0] (by decide) rfl) (hw.envAt 0 rfl)) (do_call Try.call23 rfl) trivial rfl rfl ?_
   intro v180 Sv177 w a h178 h179 hs
   obtain ⟨p170, k171, c173, p174, k175, rfl, h181, h172, h176⟩ := h179
   have hw := hw.callO [0] [1, 2, 3] (by decide) rfl h178 h181
   have hw := hw.addE (e := RowA c173 rv169.1.Taps) h172
   have hw := hw.addE (e := SlA p174 rv169.2.L.length k175 rv169.2.L) h176
   refine w_alloc (cs := [.int .i64 0, .int .i64 0, .int .i64 0, .int .i64 0, .int .i64 0, .int .i64 0, .int .i64 0, .slice none ([] : List Int).length 0, .int .i64 0, .int .i64 0]) hs hw Try.zeroValue26 rfl rfl trivial ?_
   intro b182 a w hs hw
   refine w_store (m := 10) (cs' := [.int .i64 rv169.1.Kind, .int .i64 rv169.1.Num.e0, .int .i64 rv169.1.Num.e1, .int .i64 rv169.1.Num.e2, .int .i64 rv169.1.Den.e0, .int .i64 rv169.1.Den.e1, .int .i64 rv169.1.Den.e2, .slice p170 rv169.1.Taps.length k171, .int .i64 rv169.1.Factor, .int .i64 rv169.1.Shift]) hs hw 0 rfl rfl rfl Try.sizeOf26 rfl rfl rfl rfl trivial ?_
   intro a w hs hw
   refine wpList_nil ?_
   refine then_normal ?_
   refine wp_seq ?_
   refine wp_seq ?_
   refine wp_region_lit ?_
   refine st_val hs (y_fieldAddr (o' := 0) Try.runUnderlying26 rfl Try.sizeOf3 rfl rfl rfl) trivial rfl rfl fun a hs => ?_
   refine st_val hs (y_loadB1 (hw.ownAt 0 rfl) rfl Try.isAgg3 rfl) trivial rfl rfl fun a hs => ?_
   refine st_val hs (y_eql rfl rfl) trivial rfl rfl fun a hs => ?_
   refine wpList_nil ?_
   refine then_normal ?_
   refine wp_join (fun a w => ∃ (n188 : Int) (Sv187 : Nat → Prop), made_Dice_Response_j1 sv18 rv169 n188 = some tv128 ∧ Sl 31 [(0, .pointer (some ⟨b2, 0, none⟩)), (2, .pointer (some ⟨b6, 0, none⟩)), (3, .pointer (some ⟨b7, 0, none⟩)), (4, .int .i64 n188), (5, .int .i64 sv18.2.2.2.2), (6, .pointer (some ⟨b182, 0, none⟩))] a ∧ Wd ⟨w0, S0, blks [.box b2 [.slice p3 d1.L.length k4, .int .i64 d1.At] 84]⟩ Sv187 [.box b2 [.slice p174 rv169.2.L.length k175, .int .i64 rv169.2.At] 84, .box b6 [.slice none ([] : List Stage).length 0] 37, .box b7 [.slice p92 sv18.2.2.1.length k93] 37, .box b182 [.int .i64 rv169.1.Kind, .int .i64 rv169.1.Num.e0, .int .i64 rv169.1.Num.e1, .int .i64 rv169.1.Num.e2, .int .i64 rv169.1.Den.e0, .int .i64 rv169.1.Den.e1, .int .i64 rv169.1.Den.e2, .slice p170 rv169.1.Taps.length k171, .int .i64 rv169.1.Factor, .int .i64 rv169.1.Shift] 26, .row p92 sv18.2.2.1.length k93 c91 26 10, .row p170 rv169.1.Taps.length k171 c173 3 1] [SlA p174 rv169.2.L.length k175 rv169.2.L, SlA none ([] : List Stage).length 0 ([] : List Stage), RowA c91 sv18.2.2.1, RowA c173 rv169.1.Taps] w) ?_ ?_
   ·refine wp_cond_split (hs.ev rfl) (fun h199 => ?_) (fun h199 => ?_)
    ·have hsh := ite_t hsh h199
     refine wp_seq ?_
     refine wp_region_lit ?_
     refine st_val hs (y_move rfl) trivial rfl rfl fun a hs => ?_
     refine st_val hs (y_fieldAddr (o' := 8) Try.runUnderlying26 rfl Try.sizeOf3 rfl rfl rfl) trivial rfl rfl fun a hs => ?_
     refine st_val hs (y_loadB1 (hw.ownAt 0 rfl) rfl Try.isAgg3 rfl) trivial rfl rfl fun a hs => ?_
     refine st_val hs (y_mul rfl rfl) trivial rfl rfl fun a hs => ?_
     obtain ⟨n201, h200, hsh⟩ := bind_t hsh
     refine st_val hs (y_assignI rfl h200) trivial rfl rfl fun a hs => ?_
     refine wpList_nil ?_
     refine then_normal ?_
     refine wp_seq ?_
     refine wp_region_lit ?_
     refine st_val hs (y_move rfl) trivial rfl rfl fun a hs => ?_
     refine st_val hs (y_gtr rfl rfl) trivial rfl rfl fun a hs => ?_
     refine wpList_nil ?_
     refine then_normal ?_
     refine wp_cond_split (hs.ev rfl) (fun h203 => ?_) (fun h203 => ?_)
     ·have hsh := ite_t hsh h203
      refine wp_exit ?_
      refine then_exit ?_
      refine then_exit ?_
      refine blk_other rfl ?_
      refine then_exit ?_
      refine then_exit ?_
      refine blk_exit ?_
      have hsh := Option.some.inj hsh
      subst hsh
      have h204 := hd127 _ rfl
      subst h204
      refine then_normal ?_
      exact ⟨p174, k175, c91, p92, k93, Sv177, (hs.wk rfl), (hw.ft [2, 3, 4, 5] [0, 3, 4] (by decide) rfl rfl)⟩
     ·have hsh := ite_f hsh h203
      refine wp_skip ?_
      refine then_normal ?_
      exact ⟨n201, Sv177, hsh, (hs.wk rfl), (hw.ft [2, 3, 4, 0, 5, 1] [0, 3, 4, 1] (by decide) rfl rfl)⟩
    ·have hsh := ite_f hsh h199
     refine wp_skip ?_
     refine then_normal ?_
     exact ⟨sv18.2.2.2.1, Sv177, hsh, (hs.wk rfl), (hw.ft [2, 3, 4, 0, 5, 1] [0, 3, 4, 1] (by decide) rfl rfl)⟩
   ·rintro a w ⟨n188, Sv187, hsh, hs, hw⟩
    delta made_Dice_Response_j1 at hsh
    refine then_normal ?_
    refine wp_region_lit ?_
    refine st_val hs (y_fieldAddr (o' := 0) Try.runUnderlying37 rfl Try.sizeOf35 rfl rfl rfl) trivial rfl rfl fun a hs => ?_
    refine st_val hs (y_loadB1 (hw.ownAt 2 rfl) rfl Try.isAgg35 rfl) trivial rfl rfl fun a hs => ?_
    refine st_val hs (y_loadBA (hw.ownAt 3 rfl) rfl Try.isAgg26 Try.sizeOf26 rfl rfl) trivial rfl rfl fun a hs => ?_
    obtain ⟨Sv191, hw⟩ := w_share (α := Int) hw 5 rfl 3 rfl
    refine w_litSlice (α := Stage) (vs := [.agg #[.int .i64 rv169.1.Kind, .int .i64 rv169.1.Num.e0, .int .i64 rv169.1.Num.e1, .int .i64 rv169.1.Num.e2, .int .i64 rv169.1.Den.e0, .int .i64 rv169.1.Den.e1, .int .i64 rv169.1.Den.e2, .slice p170 rv169.1.Taps.length k171, .int .i64 rv169.1.Factor, .int .i64 rv169.1.Shift]]) (cs := [.int .i64 rv169.1.Kind, .int .i64 rv169.1.Num.e0, .int .i64 rv169.1.Num.e1, .int .i64 rv169.1.Num.e2, .int .i64 rv169.1.Den.e0, .int .i64 rv169.1.Den.e1, .int .i64 rv169.1.Den.e2, .slice p170 rv169.1.Taps.length k171, .int .i64 rv169.1.Factor, .int .i64 rv169.1.Shift]) (xs := ([rv169.1] : List Stage)) hs hw El35 rfl rfl rfl rfl rfl rfl ⟨⟨_, _, _, _, _, _, _, _, _, _, rfl, rfl, rfl, rfl, rfl, rfl, rfl, rfl, ⟨_, _, _, rfl, hw.envAt 0 rfl⟩, rfl, rfl⟩, rfl⟩ rfl trivial rfl fun b190 a w hs hw => ?_
    obtain ⟨l193, h192, hsh⟩ := bind_t hsh
    refine w_appendR (α := Stage) hs hw El35 5 rfl rfl rfl 4 rfl 0 rfl 0 rfl h192 rfl trivial ?_
    intro p194 k195 c196 a w hs hw
    refine st_val hs (y_fieldAddr (o' := 0) Try.runUnderlying37 rfl Try.sizeOf35 rfl rfl rfl) trivial rfl rfl fun a hs => ?_
    refine w_store (m := 1) (cs' := [.slice p194 l193.length k195]) hs hw 3 rfl rfl rfl Try.sizeOf35 rfl rfl rfl rfl trivial ?_
    intro a w hs hw
    refine wpList_nil ?_
    refine blk_normal ?_
    refine then_normal ?_
    refine wp_region_lit ?_
    refine st_val hs (y_move rfl) trivial rfl rfl fun a hs => ?_
    refine st_val hs (y_sub rfl rfl) trivial rfl rfl fun a hs => ?_
    obtain ⟨i198, h197, hsh⟩ := bind_t hsh
    refine st_val hs (y_assignI rfl h197) trivial rfl rfl fun a hs => ?_
    refine wpList_nil ?_
    refine then_normal ?_
    exact ⟨_, (Option.some.inj hsh).symm, p174, k175, c196, p194, k195, Sv191, (hs.wk rfl), (hw.ft [1, 2, 3, 5] [3, 4, 0] (by decide) rfl rfl)⟩
  ·have hsh := ite_f hsh h138
   refine wp_exit ?_
   refine then_exit ?_
   refine then_exit ?_
   refine blk_exit ?_
   have hsh := Option.some.inj hsh
   subst hsh
   have h205 := hd127 _ rfl
   subst h205
   refine then_normal ?_
   exact ⟨p89, k90, c91, p92, k93, Sv94, (hs.wk rfl), (hw.ft [0, 1, 2, 3] [0, 1, 2] (by decide) rfl rfl)⟩
 ·rintro a w ⟨p131, k132, c133, p134, k135, Sv136, hs, hw⟩
  refine then_normal ?_
  refine wp_seq ?_
  refine wp_region_lit ?_
  refine st_val hs (y_loadBA (hw.ownAt 2 rfl) rfl Try.isAgg37 Try.sizeOf37 rfl rfl) trivial rfl rfl fun a hs => ?_
  refine w_store (m := 1) (cs' := [.slice p134 e130.2.2.length k135]) hs hw 1 rfl rfl rfl Try.sizeOf37 rfl rfl rfl rfl trivial ?_
  intro a w hs hw
  refine wpList_nil ?_
  refine then_normal ?_
  have hsh := Option.some.inj hsh
  subst hsh
  refine wp_ret ?_
  exact ret1 hs rfl (rv_cell hw 1 rfl rfl Try.isAgg37 Try.sizeOf37 rfl) (hw.ret ⟨p134, k135, c133, p131, k132, rfl, (hw.outs [3, 0] (by decide) rfl), (hw.envAt 2 rfl), (hw.envAt 0 rfl)⟩)

abbrev ref02_gcd_rd (w0 : World) (X : List Nat) (r : Int) : (Nat → Prop) → World → Value → Prop := fun S w v => v = .int .i64 r
set_option maxHeartbeats 4000000 in
set_option maxRecDepth 100000 in
theorem ref02_gcd_ok {w0 : World} {S0 : Nat → Prop} {a1 : Int} {b2 : Int} {r : Int} (hsh : ref02_gcd a1 b2 = some r) (hS : ∀ b, S0 b → b < w0.heap.size) : Calls Try.prog 84 #[.int .i64 a1, .int .i64 b2] w0 (Ret ([]) w0 S0 (ref02_gcd_rd w0 ([]) r)) := by
 refine calls_of_wp Try.func84 rfl ?_
 have hs := Sl.enter #[.int .i64 a1, .int .i64 b2] 12 [(0, .int .i64 a1), (1, .int .i64 b2)] rfl ⟨rfl, rfl, trivial⟩
 have hw := Wd.enter (E := []) hS (fun _ h => (by cases h))
 delta ref02_gcd at hsh
 refine wp_seq ?_
 refine wp_region_lit ?_
 refine st_val hs (y_assign rfl) trivial rfl rfl fun a hs => ?_
 refine wpList_nil ?_
 refine then_normal ?_
 refine wp_seq ?_
 obtain ⟨e21, h32, hsh⟩ := bind_t hsh
 refine wp_join (fun a w => ∃ (Sv22 : Nat → Prop), Sl 12 [(0, .int .i64 e21)] a ∧ Wd ⟨w0, S0, []⟩ Sv22 [] [] w) ?_ ?_
 ·refine wp_block ?_
  refine wp_while (fun sv3 a w => ∃ (Sv13 : Nat → Prop), Sl 12 [(0, .int .i64 sv3.1), (1, .int .i64 sv3.2)] a ∧ Wd ⟨w0, S0, []⟩ Sv13 [] [] w) (a1, b2) h32 ⟨S0, (hs.wk rfl), (hw.ft [] [] (by decide) rfl rfl)⟩ ?_
  clear h32
  repeat clear hsh
  rintro sv3 a w tv19 ⟨Sv13, hs, hw⟩ hsh hd18
  delta ref02_gcd_l1 at hsh
  refine wp_seq ?_
  refine wp_seq ?_
  refine wp_region_lit ?_
  refine st_val hs (y_move rfl) trivial rfl rfl fun a hs => ?_
  refine st_val hs (y_neq rfl rfl) trivial rfl rfl fun a hs => ?_
  refine wpList_nil ?_
  refine then_normal ?_
  refine wp_cond_split (hs.ev rfl) (fun h24 => ?_) (fun h24 => ?_)
  ·have hsh := ite_t hsh h24
   refine wp_skip ?_
   refine then_normal ?_
   refine wp_block ?_
   obtain ⟨rem29, h28, hsh⟩ := bind_t hsh
   refine wp_only (fun a w => ∃ (Sv30 : Nat → Prop), Sl 12 [(0, .int .i64 sv3.2), (1, .int .i64 rem29)] a ∧ Wd ⟨w0, S0, []⟩ Sv30 [] [] w) ?_ ?_
   ·refine h_b (C := Cls [] []) (by kernel_rfl) rfl (hw.drew.cs [] [] rfl rfl) fun hC => ?_
    have hw := hw.drew
    refine h_g hs 0 rfl (by kernel_rfl) rfl rfl hC rfl (fun w hC => y_move rfl) fun a hs => ?_
    refine h_g hs 1 rfl (by kernel_rfl) rfl rfl hC rfl (fun w hC => y_move rfl) fun a hs => ?_
    refine h_g hs 2 rfl (by kernel_rfl) rfl rfl hC rfl (fun w hC => y_move rfl) fun a hs => ?_
    refine h_g hs 3 rfl (by kernel_rfl) rfl rfl hC rfl (fun w hC => y_remM rfl rfl h28) fun a hs => ?_
    refine h_g hs 4 rfl (by kernel_rfl) rfl rfl hC rfl (fun w hC => y_assign rfl) fun a hs => ?_
    refine h_g hs 5 rfl (by kernel_rfl) rfl rfl hC rfl (fun w hC => y_assign rfl) fun a hs => ?_
    refine h_done (by kernel_rfl) ?_
    exact ⟨Sv13, (hs.wk rfl), (hw.ft [] [] (by decide) rfl rfl)⟩
   ·rintro a w ⟨Sv30, hs, hw⟩
    refine blk_normal ?_
    refine then_normal ?_
    exact ⟨_, (Option.some.inj hsh).symm, Sv30, (hs.wk rfl), (hw.ft [] [] (by decide) rfl rfl)⟩
  ·have hsh := ite_f hsh h24
   refine wp_exit ?_
   refine then_exit ?_
   refine then_exit ?_
   refine blk_exit ?_
   have hsh := Option.some.inj hsh
   subst hsh
   have h31 := hd18 _ rfl
   subst h31
   refine then_normal ?_
   exact ⟨Sv13, (hs.wk rfl), (hw.ft [] [] (by decide) rfl rfl)⟩
 ·rintro a w ⟨Sv22, hs, hw⟩
  refine then_normal ?_
  refine wp_seq ?_
  refine wp_region_lit ?_
  refine st_val hs (y_move rfl) trivial rfl rfl fun a hs => ?_
  refine st_val hs (y_assign rfl) trivial rfl rfl fun a hs => ?_
  refine wpList_nil ?_
  refine then_normal ?_
  have hsh := Option.some.inj hsh
  subst hsh
  refine wp_ret ?_
  exact ret1 hs rfl (rv_tmp rfl) (hw.ret rfl)

abbrev ref02_New_rd (w0 : World) (X : List Nat) (r : (Rate × Int)) : (Nat → Prop) → World → Value → Prop := fun S w v => v = .tuple #[.agg #[.int .i64 r.1.Num, .int .i64 r.1.Den], .int .i64 r.2]
set_option maxHeartbeats 4000000 in
set_option maxRecDepth 100000 in
theorem ref02_New_ok {w0 : World} {S0 : Nat → Prop} {num1 : Int} {den2 : Int} {r : (Rate × Int)} (hsh : ref02_New num1 den2 = some r) (hS : ∀ b, S0 b → b < w0.heap.size) : Calls Try.prog 50 #[.int .i64 num1, .int .i64 den2] w0 (Ret ([]) w0 S0 (ref02_New_rd w0 ([]) r)) := by
 refine calls_of_wp Try.func50 rfl ?_
 have hs := Sl.enter #[.int .i64 num1, .int .i64 den2] 26 [(0, .int .i64 num1), (1, .int .i64 den2)] rfl ⟨rfl, rfl, trivial⟩
 have hw := Wd.enter (E := []) hS (fun _ h => (by cases h))
 delta ref02_New at hsh
 refine wp_seq ?_
 refine wp_region_lit ?_
 refine w_alloc (cs := [.int .i64 0, .int .i64 0]) hs hw Try.zeroValue51 rfl rfl trivial ?_
 intro b3 a w hs hw
 refine st_val hs (y_assign rfl) trivial rfl rfl fun a hs => ?_
 refine wpList_nil ?_
 refine then_normal ?_
 refine wp_seq ?_
 refine wp_seq ?_
 refine wp_region_lit ?_
 refine st_val hs (y_move rfl) trivial rfl rfl fun a hs => ?_
 obtain ⟨rv5, h4, hsh⟩ := bind_t hsh
 refine st_callR hs (ref01_In_ok h4 hw.bdom) (do_call Try.call56 rfl) trivial rfl rfl ?_
 intro v9 Sv6 w a h7 h8 hs
 subst h8
 have hw := hw.callB h7
 refine st_val hs (y_not rfl) trivial rfl rfl fun a hs => ?_
 refine st_val hs (y_move rfl) trivial rfl rfl fun a hs => ?_
 obtain ⟨c19, hc19, hsh⟩ := bind_t hsh
 refine wpl_join 4 (fun a w => ∃ (Sv20 : Nat → Prop), Sl 26 [(0, .int .i64 num1), (1, .int .i64 den2), (4, .pointer (some ⟨b3, 0, none⟩)), (14, .bool c19)] a ∧ Wd ⟨w0, S0, []⟩ Sv20 [.box b3 [.int .i64 0, .int .i64 0] 51] [] w) ?_ ?_
 ·rcases Bool.eq_false_or_eq_true (!rv5) with h18 | h18
  ·have hs := hs.fix 10 (.bool true) rfl (vb h18)
   have hsh := ite_t hc19 h18
   refine st_skip hs rfl rfl rfl rfl rfl fun a hs => ?_
   refine st_skip hs rfl rfl rfl rfl rfl fun a hs => ?_
   refine st_skip hs rfl rfl rfl rfl rfl fun a hs => ?_
   refine st_val hs (y_pickT rfl rfl) trivial rfl rfl fun a hs => ?_
   refine wpList_nil ?_
   have hsh := Option.some.inj hsh
   subst hsh
   refine then_normal ?_
   exact ⟨S0, (hs.wk rfl), (hw.ft [0] [] (by decide) rfl rfl)⟩
  ·have hs := hs.fix 10 (.bool false) rfl (vb h18)
   have hsh := ite_f hc19 h18
   refine st_val hs (y_move rfl) ⟨_, rfl, rfl⟩ rfl rfl fun a hs => ?_
   obtain ⟨rv22, h21, hsh⟩ := bind_t hsh
   refine st_callR hs (ref01_In_ok h21 hw.bdom) (do_call Try.call56 rfl) ⟨_, rfl, rfl⟩ rfl rfl ?_
   intro v26 Sv23 w a h24 h25 hs
   subst h25
   have hw := hw.callB h24
   refine st_val hs (y_not rfl) ⟨_, rfl, rfl⟩ rfl rfl fun a hs => ?_
   refine st_val hs (y_pickF rfl rfl) trivial rfl rfl fun a hs => ?_
   refine wpList_nil ?_
   have hsh := Option.some.inj hsh
   subst hsh
   refine then_normal ?_
   exact ⟨S0, (hs.wk rfl), (hw.ft [0] [] (by decide) rfl rfl)⟩
 ·rintro a w ⟨Sv20, hs, hw⟩
  refine wpList_nil ?_
  refine then_normal ?_
  refine wp_cond_split (hs.ev rfl) (fun h29 => ?_) (fun h29 => ?_)
  ·have hsh := ite_t hsh h29
   refine wp_seq ?_
   refine wp_region_lit ?_
   refine st_val hs (y_build (vs := []) Bld51 rfl rfl) trivial rfl rfl fun a hs => ?_
   refine w_store (m := 2) (cs' := [.int .i64 0, .int .i64 0]) hs hw 0 rfl rfl rfl Try.sizeOf51 rfl rfl rfl rfl trivial ?_
   intro a w hs hw
   refine st_val hs (y_assign rfl) trivial rfl rfl fun a hs => ?_
   refine wpList_nil ?_
   refine then_normal ?_
   have hsh := Option.some.inj hsh
   subst hsh
   refine wp_ret ?_
   refine then_ret ?_
   exact ret2 hs rfl (rv_cell hw 0 rfl rfl Try.isAgg51 Try.sizeOf51 rfl) (rv_tmp rfl) (hw.ret rfl)
  ·have hsh := ite_f hsh h29
   refine wp_skip ?_
   refine then_normal ?_
   refine wp_seq ?_
   refine wp_region_lit ?_
   refine st_val hs (y_move rfl) trivial rfl rfl fun a hs => ?_
   refine st_val hs (y_move rfl) trivial rfl rfl fun a hs => ?_
   obtain ⟨rv31, h30, hsh⟩ := bind_t hsh
   refine st_callR hs (ref02_gcd_ok h30 hw.bdom) (do_call Try.call84 rfl) trivial rfl rfl ?_
   intro v35 Sv32 w a h33 h34 hs
   subst h34
   have hw := hw.callB h33
   refine st_val hs (y_assign rfl) trivial rfl rfl fun a hs => ?_
   refine wpList_nil ?_
   refine then_normal ?_
   refine wp_seq ?_
   obtain ⟨quo38, h37, hsh⟩ := bind_t hsh
   obtain ⟨quo40, h39, hsh⟩ := bind_t hsh
   refine wp_only (fun a w => ∃ (Sv41 : Nat → Prop), Sl 26 [(4, .pointer (some ⟨b3, 0, none⟩)), (5, .int .i64 0)] a ∧ Wd ⟨w0, S0, []⟩ Sv41 [.box b3 [.int .i64 quo38, .int .i64 quo40] 51] [] w) ?_ ?_
   ·refine h_b (C := Cls [] []) (by kernel_rfl) rfl (hw.drew.cs [] [] rfl rfl) fun hC => ?_
    have hw := hw.drew
    refine h_g hs 0 rfl (by kernel_rfl) rfl rfl hC rfl (fun w hC => y_move rfl) fun a hs => ?_
    refine h_g hs 1 rfl (by kernel_rfl) rfl rfl hC rfl (fun w hC => y_move rfl) fun a hs => ?_
    refine h_g hs 2 rfl (by kernel_rfl) rfl rfl hC rfl (fun w hC => y_quoM rfl rfl h37) fun a hs => ?_
    refine h_g hs 3 rfl (by kernel_rfl) rfl rfl hC rfl (fun w hC => y_move rfl) fun a hs => ?_
    refine h_g hs 4 rfl (by kernel_rfl) rfl rfl hC rfl (fun w hC => y_move rfl) fun a hs => ?_
    refine h_g hs 5 rfl (by kernel_rfl) rfl rfl hC rfl (fun w hC => y_quoM rfl rfl h39) fun a hs => ?_
    refine h_g hs 6 rfl (by kernel_rfl) rfl rfl hC rfl (fun w hC => y_build (vs := [(0, .int .i64 quo38), (1, .int .i64 quo40)]) Bld51 rfl rfl) fun a hs => ?_
    refine h_one (i := 7) (by kernel_rfl) rfl ?_
    refine w_store (m := 2) (cs' := [.int .i64 quo38, .int .i64 quo40]) hs hw 0 rfl rfl rfl Try.sizeOf51 rfl rfl rfl rfl trivial ?_
    intro a w hs hw
    refine h_nx (hw.cs [] [] rfl rfl) fun hC => ?_
    refine h_g hs 8 rfl (by kernel_rfl) rfl rfl hC rfl (fun w hC => y_assign rfl) fun a hs => ?_
    refine h_done (by kernel_rfl) ?_
    exact ⟨Sv20, (hs.wk rfl), (hw.ft [0] [] (by decide) rfl rfl)⟩
   ·rintro a w ⟨Sv41, hs, hw⟩
    refine then_normal ?_
    have hsh := Option.some.inj hsh
    subst hsh
    refine wp_ret ?_
    exact ret2 hs rfl (rv_cell hw 0 rfl rfl Try.isAgg51 Try.sizeOf51 rfl) (rv_tmp rfl) (hw.ret rfl)

abbrev made_Dice_Rate_rd (w0 : World) (X : List Nat) (b2 : Nat) (r : (Rate × Dice)) : (Nat → Prop) → World → Value → Prop := fun S w v => ∃ (pq0_0 : Option Addr) (kq0_0 : Nat), v = .agg #[.int .i64 r.1.Num, .int .i64 r.1.Den] ∧ Outs X w0 S w [.box b2 [.slice pq0_0 r.2.L.length kq0_0, .int .i64 r.2.At] 84] ∧ (SlA pq0_0 r.2.L.length kq0_0 r.2.L).p S w
set_option maxHeartbeats 4000000 in
set_option maxRecDepth 100000 in
theorem made_Dice_Rate_ok {w0 : World} {S0 : Nat → Prop} {b2 : Nat} {p3 : Option Addr} {k4 : Nat} {d1 : Dice} {r : (Rate × Dice)} (hsh : made_Dice_Rate d1 = some r) (hS : ∀ b, S0 b → b < w0.heap.size) (hin : Ins S0 w0 [.box b2 [.slice p3 d1.L.length k4, .int .i64 d1.At] 84]) (h5 : (SlA p3 d1.L.length k4 d1.L).p S0 w0) : Calls Try.prog 17 #[.pointer (some ⟨b2, 0, none⟩)] w0 (Ret (blks [.box b2 [.slice p3 d1.L.length k4, .int .i64 d1.At] 84]) w0 S0 (made_Dice_Rate_rd w0 (blks [.box b2 [.slice p3 d1.L.length k4, .int .i64 d1.At] 84]) b2 r)) := by
 refine calls_of_wp Try.func17 rfl ?_
 have hs := Sl.enter #[.pointer (some ⟨b2, 0, none⟩)] 16 [(0, .pointer (some ⟨b2, 0, none⟩))] rfl ⟨rfl, trivial⟩
 have hw := Wd.enterI hS hin
 have hw := hw.addE h5
 delta made_Dice_Rate at hsh
 refine wp_seq ?_
 refine wp_region_lit ?_
 refine w_alloc (cs := [.int .i64 0, .int .i64 0]) hs hw Try.zeroValue51 rfl rfl trivial ?_
 intro b6 a w hs hw
 refine wpList_nil ?_
 refine then_normal ?_
 refine wp_seq ?_
 refine wp_region_lit ?_
 refine st_val hs (y_move rfl) trivial rfl rfl fun a hs => ?_
 refine w_litSlice (α := Int) (vs := [.int .i64 1, .int .i64 3, .int .i64 20, .int .i64 100, .int .i64 40, .int .i64 4096, .int .i64 7]) (cs := [.int .i64 1, .int .i64 3, .int .i64 20, .int .i64 100, .int .i64 40, .int .i64 4096, .int .i64 7]) (xs := ([1, 3, 20, 100, 40, 4096, 7] : List Int)) hs hw El24 rfl rfl rfl rfl rfl rfl ⟨⟨_, rfl, rfl⟩, ⟨⟨_, rfl, rfl⟩, ⟨⟨_, rfl, rfl⟩, ⟨⟨_, rfl, rfl⟩, ⟨⟨_, rfl, rfl⟩, ⟨⟨_, rfl, rfl⟩, ⟨⟨_, rfl, rfl⟩, rfl⟩⟩⟩⟩⟩⟩⟩ rfl trivial rfl fun b8 a w hs hw => ?_
 obtain ⟨rv10, h9, hsh⟩ := bind_t hsh
 obtain ⟨Sv14, hw⟩ := w_share (α := Int) hw 0 rfl 0 rfl
 refine st_callR hs (made_Dice_Pick_ok h9 hw.dom (hw.ins [1] (by decide) rfl) (hw.envAt 2 rfl) (hw.envAt 0 rfl)) (do_call Try.call25 rfl) trivial rfl rfl ?_
 intro v18 Sv15 w a h16 h17 hs
 obtain ⟨p11, k12, rfl, h19, h13⟩ := h17
 have hw := hw.callO [1] [0] (by decide) rfl h16 h19
 have hw := hw.addE (e := SlA p11 rv10.2.L.length k12 rv10.2.L) h13
 refine st_val hs (y_move rfl) trivial rfl rfl fun a hs => ?_
 refine w_litSlice (α := Int) (vs := [.int .i64 1, .int .i64 1, .int .i64 1, .int .i64 3, .int .i64 7, .int .i64 4096]) (cs := [.int .i64 1, .int .i64 1, .int .i64 1, .int .i64 3, .int .i64 7, .int .i64 4096]) (xs := ([1, 1, 1, 3, 7, 4096] : List Int)) hs hw El24 rfl rfl rfl rfl rfl rfl ⟨⟨_, rfl, rfl⟩, ⟨⟨_, rfl, rfl⟩, ⟨⟨_, rfl, rfl⟩, ⟨⟨_, rfl, rfl⟩, ⟨⟨_, rfl, rfl⟩, ⟨⟨_, rfl, rfl⟩, rfl⟩⟩⟩⟩⟩⟩ rfl trivial rfl fun b21 a w hs hw => ?_
 obtain ⟨rv23, h22, hsh⟩ := bind_t hsh
 obtain ⟨Sv27, hw⟩ := w_share (α := Int) hw 0 rfl 0 rfl
 refine st_callR hs (made_Dice_Pick_ok h22 hw.dom (hw.ins [0] (by decide) rfl) (hw.envAt 2 rfl) (hw.envAt 0 rfl)) (do_call Try.call25 rfl) trivial rfl rfl ?_
 intro v31 Sv28 w a h29 h30 hs
 obtain ⟨p24, k25, rfl, h32, h26⟩ := h30
 have hw := hw.callO [0] [1] (by decide) rfl h29 h32
 have hw := hw.addE (e := SlA p24 rv23.2.L.length k25 rv23.2.L) h26
 obtain ⟨rv34, h33, hsh⟩ := bind_t hsh
 refine st_callR hs (ref02_New_ok h33 hw.bdom) (do_call Try.call50 rfl) trivial rfl rfl ?_
 intro v38 Sv35 w a h36 h37 hs
 subst h37
 have hw := hw.callB h36
 refine st_val hs (y_move rfl) trivial rfl rfl fun a hs => ?_
 refine st_val hs (y_extract rfl rfl) trivial rfl rfl fun a hs => ?_
 refine st_val hs (y_extract rfl rfl) trivial rfl rfl fun a hs => ?_
 refine w_alloc (cs := [.int .i64 0, .int .i64 0]) hs hw Try.zeroValue51 rfl rfl trivial ?_
 intro b40 a w hs hw
 refine w_store (m := 2) (cs' := [.int .i64 rv34.1.Num, .int .i64 rv34.1.Den]) hs hw 0 rfl rfl rfl Try.sizeOf51 rfl rfl rfl rfl trivial ?_
 intro a w hs hw
 refine st_val hs (y_assign rfl) trivial rfl rfl fun a hs => ?_
 refine wpList_nil ?_
 refine then_normal ?_
 refine wp_seq ?_
 refine wp_region_lit ?_
 refine st_val hs (y_loadBA (hw.ownAt 0 rfl) rfl Try.isAgg51 Try.sizeOf51 rfl rfl) trivial rfl rfl fun a hs => ?_
 refine w_store (m := 2) (cs' := [.int .i64 rv34.1.Num, .int .i64 rv34.1.Den]) hs hw 2 rfl rfl rfl Try.sizeOf51 rfl rfl rfl rfl trivial ?_
 intro a w hs hw
 refine wpList_nil ?_
 refine then_normal ?_
 have hsh := Option.some.inj hsh
 subst hsh
 refine wp_ret ?_
 exact ret1 hs rfl (rv_cell hw 2 rfl rfl Try.isAgg51 Try.sizeOf51 rfl) (hw.ret ⟨p24, k25, rfl, (hw.outs [1] (by decide) rfl), (hw.envAt 0 rfl)⟩)

abbrev slices_Grow_Lapi_Stage_api_Stage_n_rd (w0 : World) (X : List Nat) (r : (List Stage)) : (Nat → Prop) → World → Value → Prop := fun S w v => ∃ (p0_0 : Option Addr) (k0_0 : Nat) (c0_0 : List Value), v = .slice p0_0 r.length k0_0 ∧ Outs X w0 S w [.row p0_0 r.length k0_0 c0_0 26 10] ∧ (RowA c0_0 r).p S w
set_option maxHeartbeats 4000000 in
set_option maxRecDepth 100000 in
theorem slices_Grow_Lapi_Stage_api_Stage_n_ok {w0 : World} {S0 : Nat → Prop} {n1 : Int} {r : (List Stage)} (hsh : slices_Grow_Lapi_Stage_api_Stage_n n1 = some r) (hS : ∀ b, S0 b → b < w0.heap.size) : Calls Try.prog 83 #[.slice none 0 0, .int .i64 n1] w0 (Ret ([]) w0 S0 (slices_Grow_Lapi_Stage_api_Stage_n_rd w0 ([]) r)) := by
 refine calls_of_wp Try.func83 rfl ?_
 have hs := Sl.enter #[.slice none 0 0, .int .i64 n1] 27 [(0, .slice none 0 0), (1, .int .i64 n1)] rfl ⟨rfl, rfl, trivial⟩
 have hw := Wd.enter (E := []) hS (fun _ h => (by cases h))
 delta slices_Grow_Lapi_Stage_api_Stage_n at hsh
 refine wp_seq ?_
 refine wp_region_lit ?_
 refine st_val hs (y_assign rfl) trivial rfl rfl fun a hs => ?_
 refine wpList_nil ?_
 refine then_normal ?_
 refine wp_seq ?_
 refine wp_seq ?_
 refine wp_region_lit ?_
 refine st_val hs (y_move rfl) trivial rfl rfl fun a hs => ?_
 refine st_val hs (y_lss rfl rfl) trivial rfl rfl fun a hs => ?_
 refine wpList_nil ?_
 refine then_normal ?_
 refine wp_cond_split (hs.ev rfl) (fun h3 => ?_) (fun h3 => ?_)
 ·have hsh := ite_t hsh h3
  cases hsh
 ·have hsh := ite_f hsh h3
  refine wp_skip ?_
  refine then_normal ?_
  refine wp_seq ?_
  refine wp_seq ?_
  refine wp_region_lit ?_
  refine st_val hs (y_move rfl) trivial rfl rfl fun a hs => ?_
  refine st_val hs (y_move rfl) trivial rfl rfl fun a hs => ?_
  refine st_val hs (y_cap Try.runUnderlying35 rfl) trivial rfl rfl fun a hs => ?_
  refine st_val hs (y_move rfl) trivial rfl rfl fun a hs => ?_
  refine st_val hs (y_len Try.runUnderlying35 rfl) trivial rfl rfl fun a hs => ?_
  refine st_val hs (y_sub rfl rfl) trivial rfl rfl fun a hs => ?_
  refine st_val hs (y_sub rfl rfl) trivial rfl rfl fun a hs => ?_
  obtain ⟨n5, h4, hsh⟩ := bind_t hsh
  refine st_val hs (y_assignI rfl h4) trivial rfl rfl fun a hs => ?_
  refine wpList_nil ?_
  refine then_normal ?_
  refine wp_seq ?_
  refine wp_region_lit ?_
  refine st_val hs (y_move rfl) trivial rfl rfl fun a hs => ?_
  refine st_val hs (y_gtr rfl rfl) trivial rfl rfl fun a hs => ?_
  refine wpList_nil ?_
  refine then_normal ?_
  refine wp_join (fun a w => ∃ (sv23 : (List Stage)) (c19 : List Value) (p20 : Option Addr) (k21 : Nat) (Sv22 : Nat → Prop), slices_Grow_Lapi_Stage_api_Stage_n_j1 sv23 = some r ∧ Sl 27 [(0, .slice p20 sv23.length k21)] a ∧ Wd ⟨w0, S0, []⟩ Sv22 [.row p20 sv23.length k21 c19 26 10] [RowA c19 sv23] w) ?_ ?_
  ·refine wp_cond_split (hs.ev rfl) (fun h24 => ?_) (fun h24 => ?_)
   ·have hsh := ite_t hsh h24
    refine wp_region_lit ?_
    refine st_val hs (y_move rfl) trivial rfl rfl fun a hs => ?_
    refine st_val hs (y_move rfl) trivial rfl rfl fun a hs => ?_
    refine st_val hs (y_cap Try.runUnderlying35 rfl) trivial rfl rfl fun a hs => ?_
    obtain ⟨l28, h25, hsh⟩ := bind_t hsh
    obtain ⟨h26, h27⟩ := sub_nil 10 h25
    subst h26
    refine st_val hs (y_slc Try.runUnderlying35 Try.sizeOf26 rfl (by exact rfl) ⟨_, rfl⟩ h27) trivial rfl rfl fun a hs => ?_
    refine st_val hs (y_move rfl) trivial rfl rfl fun a hs => ?_
    obtain ⟨l30, h29, hsh⟩ := bind_t hsh
    refine w_appendMk (α := Stage) (z0 := ((⟨0, (⟨0, 0, 0⟩ : (Arr3 Int)), (⟨0, 0, 0⟩ : (Arr3 Int)), ([] : List Int), 0, 0⟩ : Stage) : Stage)) hs hw El35 ⟨_, _, _, _, _, _, _, _, _, _, rfl, rfl, rfl, rfl, rfl, rfl, rfl, rfl, ⟨none, 0, 0, rfl, nil_sl⟩, rfl, rfl⟩ Try.underlying3 rfl rfl h29 rfl rfl trivial ?_
    intro p31 k32 c33 a w hs hw
    refine st_val hs (y_move rfl) trivial rfl rfl fun a hs => ?_
    refine st_val hs (y_len Try.runUnderlying35 rfl) trivial rfl rfl fun a hs => ?_
    obtain ⟨l36, h34, hsh⟩ := bind_t hsh
    obtain ⟨hw, h35⟩ := w_cut hw 0 rfl 0 rfl h34
    refine st_val hs (y_slc Try.runUnderlying35 Try.sizeOf26 rfl (by exact rfl) ⟨_, rfl⟩ h35) trivial rfl rfl fun a hs => ?_
    refine st_val hs (y_assign rfl) trivial rfl rfl fun a hs => ?_
    refine wpList_nil ?_
    refine then_normal ?_
    exact ⟨l36, (c33.take (l36.length * 10)), p31, k32, S0, hsh, (hs.wk rfl), (hw.ft [0] [0] (by decide) rfl rfl)⟩
   ·have hsh := ite_f hsh h24
    refine wp_skip ?_
    refine then_normal ?_
    have hw := hw.nilRow Stage 26
    exact ⟨([] : List Stage), [], none, 0, S0, hsh, (hs.wk rfl), (hw.ft [0] [0] (by decide) rfl rfl)⟩
  ·rintro a w ⟨sv23, c19, p20, k21, Sv22, hsh, hs, hw⟩
   delta slices_Grow_Lapi_Stage_api_Stage_n_j1 at hsh
   refine then_normal ?_
   refine wp_seq ?_
   refine wp_region_lit ?_
   refine st_val hs (y_move rfl) trivial rfl rfl fun a hs => ?_
   refine st_val hs (y_assign rfl) trivial rfl rfl fun a hs => ?_
   refine wpList_nil ?_
   refine then_normal ?_
   have hsh := Option.some.inj hsh
   subst hsh
   refine wp_ret ?_
   exact ret1 hs rfl (rv_tmp rfl) (hw.ret ⟨p20, k21, c19, rfl, (hw.outs [0] (by decide) rfl), (hw.envAt 0 rfl)⟩)

abbrev slices_Concat_Lapi_Stage_api_Stage_rd (w0 : World) (X : List Nat) (r : (List Stage)) : (Nat → Prop) → World → Value → Prop := fun S w v => ∃ (p0_0 : Option Addr) (k0_0 : Nat) (c0_0 : List Value), v = .slice p0_0 r.length k0_0 ∧ Outs X w0 S w [.row p0_0 r.length k0_0 c0_0 26 10] ∧ (RowA c0_0 r).p S w
set_option maxHeartbeats 4000000 in
set_option maxRecDepth 100000 in
theorem slices_Concat_Lapi_Stage_api_Stage_ok {w0 : World} {S0 : Nat → Prop} {p2 : Option Addr} {k3 : Nat} {slices1 : (List (List Stage))} {r : (List Stage)} (hsh : slices_Concat_Lapi_Stage_api_Stage slices1 = some r) (hS : ∀ b, S0 b → b < w0.heap.size) (h4 : (SlA p2 slices1.length k3 slices1).p S0 w0) : Calls Try.prog 49 #[.slice p2 slices1.length k3] w0 (Ret ([]) w0 S0 (slices_Concat_Lapi_Stage_api_Stage_rd w0 ([]) r)) := by
 refine calls_of_wp Try.func49 rfl ?_
 have hs := Sl.enter #[.slice p2 slices1.length k3] 36 [(0, .slice p2 slices1.length k3)] rfl ⟨rfl, trivial⟩
 have hw := Wd.enter (E := []) hS (fun _ h => (by cases h))
 have hw := hw.addE h4
 delta slices_Concat_Lapi_Stage_api_Stage at hsh
 refine wp_seq ?_
 refine wp_region_lit ?_
 refine st_val hs (y_assign rfl) trivial rfl rfl fun a hs => ?_
 refine wpList_nil ?_
 refine then_normal ?_
 refine wp_seq ?_
 refine wp_region_lit ?_
 refine st_val hs (y_assign rfl) trivial rfl rfl fun a hs => ?_
 refine wpList_nil ?_
 refine then_normal ?_
 refine wp_seq ?_
 refine wp_seq ?_
 refine wp_region_lit ?_
 refine st_val hs (y_move rfl) trivial rfl rfl fun a hs => ?_
 refine st_val hs (y_len Try.runUnderlying111 rfl) trivial rfl rfl fun a hs => ?_
 refine st_val hs (y_move rfl) trivial rfl rfl fun a hs => ?_
 refine wpList_nil ?_
 refine then_normal ?_
 obtain ⟨e74, h265, hsh⟩ := bind_t hsh
 refine wp_join (fun a w => ∃ (Sv75 : Nat → Prop), Sl 36 [(0, .slice p2 slices1.length k3), (3, .int .i64 e74)] a ∧ Wd ⟨w0, S0, []⟩ Sv75 [] [SlA p2 slices1.length k3 slices1] w) ?_ ?_
 ·refine wp_block ?_
  refine wp_while (fun sv5 a w => ∃ (Sv49 : Nat → Prop), Sl 36 [(0, .slice p2 slices1.length k3), (3, .int .i64 sv5.1), (9, .slice p2 slices1.length k3), (10, .int .i64 (slices1.length : Int)), (11, .int .i64 sv5.2)] a ∧ Wd ⟨w0, S0, []⟩ Sv49 [] [SlA p2 slices1.length k3 slices1] w) (0, 0) h265 ⟨S0, (hs.wk rfl), (hw.ft [] [0] (by decide) rfl rfl)⟩ ?_
  clear h265
  repeat clear hsh
  rintro sv5 a w tv72 ⟨Sv49, hs, hw⟩ hsh hd71
  delta slices_Concat_Lapi_Stage_api_Stage_l1 at hsh
  refine wp_seq ?_
  refine wp_region_lit ?_
  refine st_val hs (y_lss rfl rfl) trivial rfl rfl fun a hs => ?_
  refine wpList_nil ?_
  refine then_normal ?_
  refine wp_seq ?_
  refine wp_cond_split (hs.ev rfl) (fun h77 => ?_) (fun h77 => ?_)
  ·have hsh := ite_t hsh h77
   refine wp_skip ?_
   refine then_normal ?_
   refine wp_seq ?_
   refine wp_block ?_
   refine wp_seq ?_
   refine wp_region_lit ?_
   obtain ⟨x100, h98, hsh⟩ := bind_t hsh
   obtain ⟨b106, o107, q104, c105, h108, h101, h102, h103, h99⟩ := hw.elemV 0 rfl h98
   have hsv109 := hs
   have hwv110 := hw
   subst h108
   have hs := hsv109
   have hw := hwv110
   obtain ⟨_, rfl, ⟨p111, n112, k113, rfl, h114⟩⟩ := h99
   obtain rfl := h114.1
   have hw := hw.addE (e := SlA p111 _ k113 x100) h114
   have hw := hw.addE h103
   refine st_val hs (y_indexAt Try.runUnderlying111 Try.sizeOf35 rfl rfl h101.1 h101.2 h102) trivial rfl rfl fun a hs => ?_
   refine st_val hs (y_loadE1 (j := 0) (hw.ceAt 0 rfl) rfl Try.isAgg35 rfl) trivial rfl rfl fun a hs => ?_
   refine st_val hs (y_assign rfl) trivial rfl rfl fun a hs => ?_
   refine wpList_nil ?_
   refine then_normal ?_
   refine wp_seq ?_
   refine wp_region_lit ?_
   refine st_val hs (y_move rfl) trivial rfl rfl fun a hs => ?_
   refine st_val hs (y_move rfl) trivial rfl rfl fun a hs => ?_
   refine st_val hs (y_len Try.runUnderlying35 rfl) trivial rfl rfl fun a hs => ?_
   refine st_val hs (y_add rfl rfl) trivial rfl rfl fun a hs => ?_
   obtain ⟨size116, h115, hsh⟩ := bind_t hsh
   refine st_val hs (y_assignI rfl h115) trivial rfl rfl fun a hs => ?_
   refine wpList_nil ?_
   refine then_normal ?_
   refine wp_seq ?_
   refine wp_region_lit ?_
   refine st_val hs (y_move rfl) trivial rfl rfl fun a hs => ?_
   refine st_val hs (y_lss rfl rfl) trivial rfl rfl fun a hs => ?_
   refine wpList_nil ?_
   refine then_normal ?_
   refine wp_cond_split (hs.ev rfl) (fun h118 => ?_) (fun h118 => ?_)
   ·have hsh := ite_t hsh h118
    cases hsh
   ·have hsh := ite_f hsh h118
    refine wp_skip ?_
    refine blk_normal ?_
    refine then_normal ?_
    refine wp_region_lit ?_
    refine st_val hs (y_add rfl rfl) trivial rfl rfl fun a hs => ?_
    refine st_val hs (y_move rfl) trivial rfl rfl fun a hs => ?_
    refine wpList_nil ?_
    refine then_normal ?_
    exact ⟨_, (Option.some.inj hsh).symm, Sv49, (hs.wk rfl), (hw.ft [] [2] (by decide) rfl rfl)⟩
  ·have hsh := ite_f hsh h77
   refine wp_exit ?_
   refine then_exit ?_
   refine then_exit ?_
   refine blk_exit ?_
   have hsh := Option.some.inj hsh
   subst hsh
   have h119 := hd71 _ rfl
   subst h119
   refine then_normal ?_
   exact ⟨Sv49, (hs.wk rfl), (hw.ft [] [0] (by decide) rfl rfl)⟩
 ·rintro a w ⟨Sv75, hs, hw⟩
  refine then_normal ?_
  refine wp_seq ?_
  refine wp_region_lit ?_
  refine st_val hs (y_move rfl) trivial rfl rfl fun a hs => ?_
  obtain ⟨rv121, h120, hsh⟩ := bind_t hsh
  refine st_callR hs (slices_Grow_Lapi_Stage_api_Stage_n_ok h120 hw.dom) (do_call Try.call83 rfl) trivial rfl rfl ?_
  intro v129 Sv126 w a h127 h128 hs
  obtain ⟨p122, k123, c125, rfl, h130, h124⟩ := h128
  have hw := hw.callN h127 h130
  have hw := hw.addE (e := RowA c125 rv121) h124
  refine st_val hs (y_assign rfl) trivial rfl rfl fun a hs => ?_
  refine wpList_nil ?_
  refine then_normal ?_
  refine wp_seq ?_
  refine wp_seq ?_
  refine wp_region_lit ?_
  refine st_val hs (y_move rfl) trivial rfl rfl fun a hs => ?_
  refine st_val hs (y_len Try.runUnderlying111 rfl) trivial rfl rfl fun a hs => ?_
  refine st_val hs (y_move rfl) trivial rfl rfl fun a hs => ?_
  refine wpList_nil ?_
  refine then_normal ?_
  obtain ⟨e212, h264, hsh⟩ := bind_t hsh
  refine wp_join (fun a w => ∃ (c213 : List Value) (p214 : Option Addr) (k215 : Nat) (Sv216 : Nat → Prop), Sl 36 [(6, .slice p214 e212.length k215)] a ∧ Wd ⟨w0, S0, []⟩ Sv216 [.row p214 e212.length k215 c213 26 10] [RowA c213 e212] w) ?_ ?_
  ·refine wp_block ?_
   refine wp_while (fun sv131 a w => ∃ (c182 : List Value) (p183 : Option Addr) (k184 : Nat) (Sv185 : Nat → Prop), Sl 36 [(6, .slice p183 sv131.1.length k184), (25, .slice p2 slices1.length k3), (26, .int .i64 (slices1.length : Int)), (27, .int .i64 sv131.2)] a ∧ Wd ⟨w0, S0, []⟩ Sv185 [.row p183 sv131.1.length k184 c182 26 10] [SlA p2 slices1.length k3 slices1, RowA c182 sv131.1] w) (rv121, 0) h264 ⟨c125, p122, k123, Sv126, (hs.wk rfl), (hw.ft [0] [1, 0] (by decide) rfl rfl)⟩ ?_
   clear h264
   repeat clear hsh
   rintro sv131 a w tv210 ⟨c182, p183, k184, Sv185, hs, hw⟩ hsh hd209
   delta slices_Concat_Lapi_Stage_api_Stage_l2 at hsh
   refine wp_seq ?_
   refine wp_region_lit ?_
   refine st_val hs (y_lss rfl rfl) trivial rfl rfl fun a hs => ?_
   refine wpList_nil ?_
   refine then_normal ?_
   refine wp_seq ?_
   refine wp_cond_split (hs.ev rfl) (fun h218 => ?_) (fun h218 => ?_)
   ·have hsh := ite_t hsh h218
    refine wp_skip ?_
    refine then_normal ?_
    refine wp_seq ?_
    refine wp_block ?_
    refine wp_seq ?_
    refine wp_region_lit ?_
    obtain ⟨x243, h241, hsh⟩ := bind_t hsh
    obtain ⟨b249, o250, q247, c248, h251, h244, h245, h246, h242⟩ := hw.elemV 0 rfl h241
    have hsv252 := hs
    have hwv253 := hw
    subst h251
    have hs := hsv252
    have hw := hwv253
    obtain ⟨_, rfl, ⟨p254, n255, k256, rfl, h257⟩⟩ := h242
    obtain rfl := h257.1
    have hw := hw.addE (e := SlA p254 _ k256 x243) h257
    have hw := hw.addE h246
    refine st_val hs (y_indexAt Try.runUnderlying111 Try.sizeOf35 rfl rfl h244.1 h244.2 h245) trivial rfl rfl fun a hs => ?_
    refine st_val hs (y_loadE1 (j := 0) (hw.ceAt 0 rfl) rfl Try.isAgg35 rfl) trivial rfl rfl fun a hs => ?_
    refine st_val hs (y_assign rfl) trivial rfl rfl fun a hs => ?_
    refine wpList_nil ?_
    refine then_normal ?_
    refine wp_region_lit ?_
    refine st_val hs (y_move rfl) trivial rfl rfl fun a hs => ?_
    refine st_val hs (y_move rfl) trivial rfl rfl fun a hs => ?_
    obtain ⟨l259, h258, hsh⟩ := bind_t hsh
    refine w_appendE (α := Stage) hs hw El35 0 rfl rfl rfl 3 rfl 1 rfl h258 rfl trivial ?_
    intro p260 k261 c262 a w hs hw
    refine st_val hs (y_assign rfl) trivial rfl rfl fun a hs => ?_
    refine wpList_nil ?_
    refine blk_normal ?_
    refine then_normal ?_
    refine wp_region_lit ?_
    refine st_val hs (y_add rfl rfl) trivial rfl rfl fun a hs => ?_
    refine st_val hs (y_move rfl) trivial rfl rfl fun a hs => ?_
    refine wpList_nil ?_
    refine then_normal ?_
    exact ⟨_, (Option.some.inj hsh).symm, c262, p260, k261, Sv185, (hs.wk rfl), (hw.ft [0] [3, 0] (by decide) rfl rfl)⟩
   ·have hsh := ite_f hsh h218
    refine wp_exit ?_
    refine then_exit ?_
    refine then_exit ?_
    refine blk_exit ?_
    have hsh := Option.some.inj hsh
    subst hsh
    have h263 := hd209 _ rfl
    subst h263
    refine then_normal ?_
    exact ⟨c182, p183, k184, Sv185, (hs.wk rfl), (hw.ft [0] [1] (by decide) rfl rfl)⟩
  ·rintro a w ⟨c213, p214, k215, Sv216, hs, hw⟩
   refine then_normal ?_
   refine wp_seq ?_
   refine wp_region_lit ?_
   refine st_val hs (y_move rfl) trivial rfl rfl fun a hs => ?_
   refine st_val hs (y_assign rfl) trivial rfl rfl fun a hs => ?_
   refine wpList_nil ?_
   refine then_normal ?_
   have hsh := Option.some.inj hsh
   subst hsh
   refine wp_ret ?_
   exact ret1 hs rfl (rv_tmp rfl) (hw.ret ⟨p214, k215, c213, rfl, (hw.outs [0] (by decide) rfl), (hw.envAt 0 rfl)⟩)

abbrev slices_Clone_Lapi_Stage_api_Stage_rd (w0 : World) (X : List Nat) (r : (List Stage)) : (Nat → Prop) → World → Value → Prop := fun S w v => ∃ (p0_0 : Option Addr) (k0_0 : Nat) (c0_0 : List Value), v = .slice p0_0 r.length k0_0 ∧ Outs X w0 S w [.row p0_0 r.length k0_0 c0_0 26 10] ∧ (RowA c0_0 r).p S w
set_option maxHeartbeats 4000000 in
set_option maxRecDepth 100000 in
theorem slices_Clone_Lapi_Stage_api_Stage_ok {w0 : World} {S0 : Nat → Prop} {p2 : Option Addr} {k3 : Nat} {s1 : (List Stage)} {r : (List Stage)} (hsh : slices_Clone_Lapi_Stage_api_Stage s1 = some r) (hS : ∀ b, S0 b → b < w0.heap.size) (h4 : (SlA p2 s1.length k3 s1).p S0 w0) : Calls Try.prog 81 #[.slice p2 s1.length k3] w0 (Ret ([]) w0 S0 (slices_Clone_Lapi_Stage_api_Stage_rd w0 ([]) r)) := by
 refine calls_of_wp Try.func81 rfl ?_
 have hs := Sl.enter #[.slice p2 s1.length k3] 8 [(0, .slice p2 s1.length k3)] rfl ⟨rfl, trivial⟩
 have hw := Wd.enter (E := []) hS (fun _ h => (by cases h))
 have hw := hw.addE h4
 delta slices_Clone_Lapi_Stage_api_Stage at hsh
 refine wp_seq ?_
 refine wp_region_lit ?_
 refine st_val hs (y_assign rfl) trivial rfl rfl fun a hs => ?_
 refine wpList_nil ?_
 refine then_normal ?_
 refine wp_seq ?_
 refine wp_seq ?_
 refine wp_region_lit ?_
 refine st_val hs (y_move rfl) trivial rfl rfl fun a hs => ?_
 refine st_val hs (y_eqlN Try.runUnderlying35 rfl rfl) trivial rfl rfl fun a hs => ?_
 refine wpList_nil ?_
 refine then_normal ?_
 have hsv15 := hs
 have hwv16 := hw
 rcases p2 with _ | av8
 ·have hs := hsv15
  have hw := hwv16
  obtain rfl := slnil (hw.envAt 0 rfl)
  have hsh : some ([] : List Stage) = some r := by simpa [appM, maxLen] using hsh
  refine wp_cond_true (hs.ev rfl) ?_
  refine wp_seq ?_
  refine wp_region_lit ?_
  refine st_val hs (y_assign rfl) trivial rfl rfl fun a hs => ?_
  refine wpList_nil ?_
  refine then_normal ?_
  have hsh := Option.some.inj hsh
  subst hsh
  have hw := hw.nilRow Stage 26
  refine wp_ret ?_
  refine then_ret ?_
  exact ret1 hs rfl (rv_tmp rfl) (hw.ret ⟨none, 0, [], rfl, (hw.outs [0] (by decide) rfl), (hw.envAt 0 rfl)⟩)
 ·have hs := hsv15
  have hw := hwv16
  refine wp_cond_false (hs.ev rfl) ?_
  refine wp_skip ?_
  refine then_normal ?_
  refine wp_seq ?_
  refine wp_region_lit ?_
  refine w_buildSlice (α := Stage) (vs := []) (cs := []) (xs := ([] : List Stage)) hs hw El35 rfl rfl rfl rfl rfl rfl rfl rfl trivial fun p9 a w hs hw => ?_
  refine st_val hs (y_move rfl) trivial rfl rfl fun a hs => ?_
  obtain ⟨l11, h10, hsh⟩ := bind_t hsh
  refine w_appendE (α := Stage) hs hw El35 0 rfl rfl rfl 0 rfl 1 rfl h10 rfl trivial ?_
  intro p12 k13 c14 a w hs hw
  refine st_val hs (y_assign rfl) trivial rfl rfl fun a hs => ?_
  refine wpList_nil ?_
  refine then_normal ?_
  have hsh := Option.some.inj hsh
  subst hsh
  refine wp_ret ?_
  exact ret1 hs rfl (rv_tmp rfl) (hw.ret ⟨p12, k13, c14, rfl, (hw.outs [0] (by decide) rfl), (hw.envAt 0 rfl)⟩)

abbrev slices_Clone_Lint_int_rd (w0 : World) (X : List Nat) (r : (List Int)) : (Nat → Prop) → World → Value → Prop := fun S w v => ∃ (p0_0 : Option Addr) (k0_0 : Nat) (c0_0 : List Value), v = .slice p0_0 r.length k0_0 ∧ Outs X w0 S w [.row p0_0 r.length k0_0 c0_0 3 1] ∧ (RowA c0_0 r).p S w
set_option maxHeartbeats 4000000 in
set_option maxRecDepth 100000 in
theorem slices_Clone_Lint_int_ok {w0 : World} {S0 : Nat → Prop} {p2 : Option Addr} {k3 : Nat} {s1 : (List Int)} {r : (List Int)} (hsh : slices_Clone_Lint_int s1 = some r) (hS : ∀ b, S0 b → b < w0.heap.size) (h4 : (SlA p2 s1.length k3 s1).p S0 w0) : Calls Try.prog 82 #[.slice p2 s1.length k3] w0 (Ret ([]) w0 S0 (slices_Clone_Lint_int_rd w0 ([]) r)) := by
 refine calls_of_wp Try.func82 rfl ?_
 have hs := Sl.enter #[.slice p2 s1.length k3] 8 [(0, .slice p2 s1.length k3)] rfl ⟨rfl, trivial⟩
 have hw := Wd.enter (E := []) hS (fun _ h => (by cases h))
 have hw := hw.addE h4
 delta slices_Clone_Lint_int at hsh
 refine wp_seq ?_
 refine wp_region_lit ?_
 refine st_val hs (y_assign rfl) trivial rfl rfl fun a hs => ?_
 refine wpList_nil ?_
 refine then_normal ?_
 refine wp_seq ?_
 refine wp_seq ?_
 refine wp_region_lit ?_
 refine st_val hs (y_move rfl) trivial rfl rfl fun a hs => ?_
 refine st_val hs (y_eqlN Try.runUnderlying24 rfl rfl) trivial rfl rfl fun a hs => ?_
 refine wpList_nil ?_
 refine then_normal ?_
 have hsv15 := hs
 have hwv16 := hw
 rcases p2 with _ | av8
 ·have hs := hsv15
  have hw := hwv16
  obtain rfl := slnil (hw.envAt 0 rfl)
  have hsh : some ([] : List Int) = some r := by simpa [appM, maxLen] using hsh
  refine wp_cond_true (hs.ev rfl) ?_
  refine wp_seq ?_
  refine wp_region_lit ?_
  refine st_val hs (y_assign rfl) trivial rfl rfl fun a hs => ?_
  refine wpList_nil ?_
  refine then_normal ?_
  have hsh := Option.some.inj hsh
  subst hsh
  have hw := hw.nilRow Int 3
  refine wp_ret ?_
  refine then_ret ?_
  exact ret1 hs rfl (rv_tmp rfl) (hw.ret ⟨none, 0, [], rfl, (hw.outs [0] (by decide) rfl), (hw.envAt 0 rfl)⟩)
 ·have hs := hsv15
  have hw := hwv16
  refine wp_cond_false (hs.ev rfl) ?_
  refine wp_skip ?_
  refine then_normal ?_
  refine wp_seq ?_
  refine wp_region_lit ?_
  refine w_buildSlice (α := Int) (vs := []) (cs := []) (xs := ([] : List Int)) hs hw El24 rfl rfl rfl rfl rfl rfl rfl rfl trivial fun p9 a w hs hw => ?_
  refine st_val hs (y_move rfl) trivial rfl rfl fun a hs => ?_
  obtain ⟨l11, h10, hsh⟩ := bind_t hsh
  refine w_appendE (α := Int) hs hw El24 0 rfl rfl rfl 0 rfl 1 rfl h10 rfl trivial ?_
  intro p12 k13 c14 a w hs hw
  refine st_val hs (y_assign rfl) trivial rfl rfl fun a hs => ?_
  refine wpList_nil ?_
  refine then_normal ?_
  have hsh := Option.some.inj hsh
  subst hsh
  refine wp_ret ?_
  exact ret1 hs rfl (rv_tmp rfl) (hw.ret ⟨p12, k13, c14, rfl, (hw.outs [0] (by decide) rfl), (hw.envAt 0 rfl)⟩)

end Go.Proofs.Ytoendkojgjobbaa.Wk

/- The walks of ResponseExact, part 2: each Go function computes what its plain program computes. Printed by a program of ours. -/
import Derived.Test.YtoendkojgjobbaaProg
import Derived.Test.YtoendkojgjobbaaDat
import Derived.Test.YtoendkojgjobbaaSh
import Derived.Test.YtoendkojgjobbaaLibL
import Derived.Test.YtoendkojgjobbaaLibZ
import Derived.Test.YtoendkojgjobbaaLibQ
import Derived.KernelRfl
import Derived.Test.YtoendkojgjobbaaWResponseExact1
namespace Go.Proofs.Ytoendkojgjobbaa.Wk
open Go Go.RowKit Go.Proofs Go.Proofs.Ytoendkojgjobbaa.Sh
set_option linter.unusedVariables false
set_option linter.unusedSimpArgs false

abbrev ref17_Equal_rd (w0 : World) (X : List Nat) (r : (Bool × Int)) : (Nat → Prop) → World → Value → Prop := fun S w v => v = .tuple #[.bool r.1, .int .i64 r.2]
set_option maxHeartbeats 4000000 in
set_option maxRecDepth 100000 in
theorem ref17_Equal_ok {w0 : World} {S0 : Nat → Prop} {p2 : Option Addr} {k3 : Nat} {p4 : Option Addr} {k5 : Nat} {p9 : Option Addr} {k10 : Nat} {p11 : Option Addr} {k12 : Nat} {a1 : Fraction} {b8 : Fraction} {r : (Bool × Int)} (hsh : ref17_Equal a1 b8 = some r) (hS : ∀ b, S0 b → b < w0.heap.size) (h6 : (SlA p2 a1.Num.length k3 a1.Num).p S0 w0) (h7 : (SlA p4 a1.Den.length k5 a1.Den).p S0 w0) (h13 : (SlA p9 b8.Num.length k10 b8.Num).p S0 w0) (h14 : (SlA p11 b8.Den.length k12 b8.Den).p S0 w0) : Calls Try.prog 11 #[.agg #[.slice p2 a1.Num.length k3, .slice p4 a1.Den.length k5], .agg #[.slice p9 b8.Num.length k10, .slice p11 b8.Den.length k12]] w0 (Ret ([]) w0 S0 (ref17_Equal_rd w0 ([]) r)) := by
 refine calls_of_wp Try.func11 rfl ?_
 have hs := Sl.enter #[.agg #[.slice p2 a1.Num.length k3, .slice p4 a1.Den.length k5], .agg #[.slice p9 b8.Num.length k10, .slice p11 b8.Den.length k12]] 26 [(0, .agg #[.slice p2 a1.Num.length k3, .slice p4 a1.Den.length k5]), (1, .agg #[.slice p9 b8.Num.length k10, .slice p11 b8.Den.length k12])] rfl ⟨rfl, rfl, trivial⟩
 have hw := Wd.enter (E := []) hS (fun _ h => (by cases h))
 have hw := hw.addE h6
 have hw := hw.addE h7
 have hw := hw.addE h13
 have hw := hw.addE h14
 delta ref17_Equal at hsh
 refine sr ?_
 refine w_box (cs := [.slice p2 a1.Num.length k3, .slice p4 a1.Den.length k5]) hs hw rfl rfl rfl trivial ?_
 intro b15 a w hs hw
 refine w_box (cs := [.slice p9 b8.Num.length k10, .slice p11 b8.Den.length k12]) hs hw rfl rfl rfl trivial ?_
 intro b16 a w hs hw
 refine av hs rfl rfl fun a hs => ?_
 refine av hs rfl rfl fun a hs => ?_
 refine nl ?_
 refine wp_seq ?_
 refine sr ?_
 refine sv hs (y_loadBA (hw.ownAt 1 rfl) rfl Try.isAgg31 Try.sizeOf31 rfl rfl) rfl fun a hs => ?_
 obtain ⟨rv18, h17, hsh⟩ := bind_t hsh
 refine st_callR hs (ref17_ValidFraction_ok h17 hw.bdom (hw.bE 3 rfl) (hw.bE 2 rfl)) (do_call Try.call44 rfl) trivial rfl rfl ?_
 intro v22 Sv19 w a h20 h21 hs
 subst h21
 have hw := hw.callB h20
 refine sv hs (y_not rfl) rfl fun a hs => ?_
 refine mv hs rfl rfl fun a hs => ?_
 obtain ⟨c32, hc32, hsh⟩ := bind_t hsh
 refine wpl_join 4 (fun a w => ∃ (Sv33 : Nat → Prop), Sl 26 [(2, .pointer (some ⟨b15, 0, none⟩)), (3, .pointer (some ⟨b16, 0, none⟩)), (13, .bool c32)] a ∧ Wd ⟨w0, S0, []⟩ Sv33 [.box b15 [.slice p2 a1.Num.length k3, .slice p4 a1.Den.length k5] 31, .box b16 [.slice p9 b8.Num.length k10, .slice p11 b8.Den.length k12] 31] [SlA p2 a1.Num.length k3 a1.Num, SlA p4 a1.Den.length k5 a1.Den, SlA p9 b8.Num.length k10 b8.Num, SlA p11 b8.Den.length k12 b8.Den] w) ?_ ?_
 ·rcases Bool.eq_false_or_eq_true (!rv18) with h31 | h31
  ·have hs := hs.fix 9 (.bool true) rfl (vb h31)
   have hsh := ite_t hc32 h31
   refine st_skip hs rfl rfl rfl rfl rfl fun a hs => ?_
   refine st_skip hs rfl rfl rfl rfl rfl fun a hs => ?_
   refine st_skip hs rfl rfl rfl rfl rfl fun a hs => ?_
   refine sv hs (y_pickT rfl rfl) rfl fun a hs => ?_
   refine wpList_nil ?_
   have hsh := oi hsh
   subst hsh
   refine then_normal ?_
   exact ⟨S0, (hs.wk rfl), (hw.ft [1, 0] [3, 2, 1, 0] (by decide) rfl rfl)⟩
  have hs := hs.fix 9 (.bool false) rfl (vb h31)
  have hsh := ite_f hc32 h31
  refine st_val hs (y_loadBA (hw.ownAt 0 rfl) rfl Try.isAgg31 Try.sizeOf31 rfl rfl) ⟨_, rfl, rfl⟩ rfl rfl fun a hs => ?_
  obtain ⟨rv35, h34, hsh⟩ := bind_t hsh
  refine st_callR hs (ref17_ValidFraction_ok h34 hw.bdom (hw.bE 1 rfl) (hw.bE 0 rfl)) (do_call Try.call44 rfl) ⟨_, rfl, rfl⟩ rfl rfl ?_
  intro v39 Sv36 w a h37 h38 hs
  subst h38
  have hw := hw.callB h37
  refine st_val hs (y_not rfl) ⟨_, rfl, rfl⟩ rfl rfl fun a hs => ?_
  refine sv hs (y_pickF rfl rfl) rfl fun a hs => ?_
  refine wpList_nil ?_
  have hsh := oi hsh
  subst hsh
  refine then_normal ?_
  exact ⟨S0, (hs.wk rfl), (hw.ft [1, 0] [3, 2, 1, 0] (by decide) rfl rfl)⟩
 rintro a w ⟨Sv33, hs, hw⟩
 refine nl ?_
 refine wp_cond_split (hs.ev rfl) (fun h42 => ?_) (fun h42 => ?_)
 ·have hsh := ite_t hsh h42
  refine sr ?_
  refine av hs rfl rfl fun a hs => ?_
  refine av hs rfl rfl fun a hs => ?_
  refine nl ?_
  have hsh := oi hsh
  subst hsh
  refine wp_ret ?_
  refine then_ret ?_
  exact ret2 hs rfl (rv_tmp rfl) (rv_tmp rfl) (hw.ret rfl)
 have hsh := ite_f hsh h42
 refine wp_skip ?_
 refine then_normal ?_
 refine wp_seq ?_
 obtain ⟨rv44, h43, hsh⟩ := bind_t hsh
 obtain ⟨rv49, h48, hsh⟩ := bind_t hsh
 obtain ⟨rv54, h53, hsh⟩ := bind_t hsh
 refine wp_only (fun a w => ∃ (Sv55 : Nat → Prop), Sl 26 [(4, .bool (rv54 == 0)), (5, .int .i64 0)] a ∧ Wd ⟨w0, S0, []⟩ Sv55 [] [] w) ?_ ?_
 ·refine h_b (C := Cls [.box b15 [.slice p2 a1.Num.length k3, .slice p4 a1.Den.length k5] 31, .box b16 [.slice p9 b8.Num.length k10, .slice p11 b8.Den.length k12] 31] []) (by kernel_rfl) rfl (hw.drew.cs [0, 1] [] rfl rfl) fun hC => ?_
  have hw := hw.drew
  refine gv hs 0 rfl rfl hC (fun w hC => y_fieldAddr (o' := 0) Try.runUnderlying31 rfl Try.sizeOf29 rfl rfl rfl) fun a hs => ?_
  refine gv hs 1 rfl rfl hC (fun w hC => y_loadB1 (hC.ownAt 0 rfl) rfl Try.isAgg29 rfl) fun a hs => ?_
  refine gv hs 2 rfl rfl hC (fun w hC => y_fieldAddr (o' := 1) Try.runUnderlying31 rfl Try.sizeOf29 rfl rfl rfl) fun a hs => ?_
  refine gv hs 3 rfl rfl hC (fun w hC => y_loadB1 (hC.ownAt 1 rfl) rfl Try.isAgg29 rfl) fun a hs => ?_
  refine gv hs 5 rfl rfl hC (fun w hC => y_fieldAddr (o' := 0) Try.runUnderlying31 rfl Try.sizeOf29 rfl rfl rfl) fun a hs => ?_
  refine gv hs 6 rfl rfl hC (fun w hC => y_loadB1 (hC.ownAt 1 rfl) rfl Try.isAgg29 rfl) fun a hs => ?_
  refine gv hs 7 rfl rfl hC (fun w hC => y_fieldAddr (o' := 1) Try.runUnderlying31 rfl Try.sizeOf29 rfl rfl rfl) fun a hs => ?_
  refine gv hs 8 rfl rfl hC (fun w hC => y_loadB1 (hC.ownAt 0 rfl) rfl Try.isAgg29 rfl) fun a hs => ?_
  refine ho 4 rfl ?_
  refine st_callR hs (ref17_mul_ok h43 hw.dom (hw.envAt 0 rfl) (hw.envAt 3 rfl)) (do_call Try.call46 rfl) trivial rfl rfl ?_
  intro v59 Sv56 w a h57 h58 hs
  obtain ⟨p45, k46, rfl, h47⟩ := h58
  have hw := hw.call h57
  have hw := hw.addE (e := SlA p45 rv44.length k46 rv44) h47
  refine h_nx (hw.cs [0, 1] [] rfl rfl) fun hC => ?_
  refine ho 9 rfl ?_
  refine st_callR hs (ref17_mul_ok h48 hw.dom (hw.envAt 3 rfl) (hw.envAt 2 rfl)) (do_call Try.call46 rfl) trivial rfl rfl ?_
  intro v64 Sv61 w a h62 h63 hs
  obtain ⟨p50, k51, rfl, h52⟩ := h63
  have hw := hw.call h62
  have hw := hw.addE (e := SlA p50 rv49.length k51 rv49) h52
  refine h_nx (hw.cs [0, 1] [] rfl rfl) fun hC => ?_
  refine ho 10 rfl ?_
  refine st_callR hs (ref17_compare_ok h53 hw.bdom (hw.bE 1 rfl) (hw.bE 0 rfl)) (do_call Try.call45 rfl) trivial rfl rfl ?_
  intro v69 Sv66 w a h67 h68 hs
  subst h68
  have hw := hw.callB h67
  refine h_nx (hw.cs [0, 1] [] rfl rfl) fun hC => ?_
  refine gv hs 11 rfl rfl hC (fun w hC => y_eql rfl rfl) fun a hs => ?_
  refine gv hs 12 rfl rfl hC (fun w hC => y_assign rfl) fun a hs => ?_
  refine gv hs 13 rfl rfl hC (fun w hC => y_assign rfl) fun a hs => ?_
  refine h_done (by kernel_rfl) ?_
  exact ⟨Sv61, (hs.wk rfl), (hw.ft [] [] (by decide) rfl rfl)⟩
 rintro a w ⟨Sv55, hs, hw⟩
 refine then_normal ?_
 have hsh := oi hsh
 subst hsh
 refine wp_ret ?_
 exact ret2 hs rfl (rv_tmp rfl) (rv_tmp rfl) (hw.ret rfl)

abbrev rate_in_rd (w0 : World) (X : List Nat) (r : Bool) : (Nat → Prop) → World → Value → Prop := fun S w v => v = .bool r
set_option maxHeartbeats 4000000 in
set_option maxRecDepth 100000 in
theorem rate_in_ok {w0 : World} {S0 : Nat → Prop} {n1 : Int} {low2 : Int} {high3 : Int} {r : Bool} (hsh : rate_in n1 low2 high3 = some r) (hS : ∀ b, S0 b → b < w0.heap.size) : Calls Try.prog 85 #[.int .i64 n1, .int .i64 low2, .int .i64 high3] w0 (Ret ([]) w0 S0 (rate_in_rd w0 ([]) r)) := by
 refine calls_of_wp Try.func85 rfl ?_
 have hs := Sl.enter #[.int .i64 n1, .int .i64 low2, .int .i64 high3] 15 [(0, .int .i64 n1), (1, .int .i64 low2), (2, .int .i64 high3)] rfl ⟨rfl, rfl, rfl, trivial⟩
 have hw := Wd.enter (E := []) hS (fun _ h => (by cases h))
 delta rate_in at hsh
 refine sr ?_
 refine av hs rfl rfl fun a hs => ?_
 refine nl ?_
 refine sr ?_
 refine mv hs rfl rfl fun a hs => ?_
 refine mv hs rfl rfl fun a hs => ?_
 refine sv hs (y_geq rfl rfl) rfl fun a hs => ?_
 refine mv hs rfl rfl fun a hs => ?_
 refine wpl_join 4 (fun a w1 => w0 = w1 ∧ Sl 15 [(14, .bool ((decide (low2 ≤ n1)) && (decide (n1 ≤ high3))))] a) ?_ ?_
 ·rcases Bool.eq_false_or_eq_true (decide (low2 ≤ n1)) with h4 | h4
  ·have hs := hs.fix 10 (.bool true) rfl (vb h4)
   refine st_val hs (y_move rfl) ⟨_, rfl, rfl⟩ rfl rfl fun a hs => ?_
   refine st_val hs (y_move rfl) ⟨_, rfl, rfl⟩ rfl rfl fun a hs => ?_
   refine st_val hs (y_leq rfl rfl) ⟨_, rfl, rfl⟩ rfl rfl fun a hs => ?_
   refine sv hs (y_pickT rfl rfl) rfl fun a hs => ?_
   refine nl ?_
   exact ⟨rfl, (hs.fix 14 (.bool ((decide (low2 ≤ n1)) && (decide (n1 ≤ high3)))) rfl (and_t h4)).weaken _ ⟨rfl, trivial⟩⟩
  have hs := hs.fix 10 (.bool false) rfl (vb h4)
  refine st_skip hs rfl rfl rfl rfl rfl fun a hs => ?_
  refine st_skip hs rfl rfl rfl rfl rfl fun a hs => ?_
  refine st_skip hs rfl rfl rfl rfl rfl fun a hs => ?_
  refine sv hs (y_pickF rfl rfl) rfl fun a hs => ?_
  refine nl ?_
  exact ⟨rfl, (hs.fix 14 (.bool ((decide (low2 ≤ n1)) && (decide (n1 ≤ high3)))) rfl (and_f h4)).weaken _ ⟨rfl, trivial⟩⟩
 rintro a w1 ⟨h5, hs⟩
 subst h5
 refine av hs rfl rfl fun a hs => ?_
 refine nl ?_
 have hsh := oi hsh
 subst hsh
 refine wp_ret ?_
 exact ret1 hs rfl (rv_tmp rfl) (hw.ret rfl)

abbrev rate_gcd_rd (w0 : World) (X : List Nat) (r : Int) : (Nat → Prop) → World → Value → Prop := fun S w v => v = .int .i64 r
set_option maxHeartbeats 4000000 in
set_option maxRecDepth 100000 in
theorem rate_gcd_ok {w0 : World} {S0 : Nat → Prop} {a1 : Int} {b2 : Int} {r : Int} (hsh : rate_gcd a1 b2 = some r) (hS : ∀ b, S0 b → b < w0.heap.size) : Calls Try.prog 86 #[.int .i64 a1, .int .i64 b2] w0 (Ret ([]) w0 S0 (rate_gcd_rd w0 ([]) r)) := by
 refine calls_of_wp Try.func86 rfl ?_
 have hs := Sl.enter #[.int .i64 a1, .int .i64 b2] 12 [(0, .int .i64 a1), (1, .int .i64 b2)] rfl ⟨rfl, rfl, trivial⟩
 have hw := Wd.enter (E := []) hS (fun _ h => (by cases h))
 delta rate_gcd at hsh
 refine sr ?_
 refine av hs rfl rfl fun a hs => ?_
 refine nl ?_
 refine wp_seq ?_
 obtain ⟨e21, h32, hsh⟩ := bind_t hsh
 refine wp_join (fun a w => ∃ (Sv22 : Nat → Prop), Sl 12 [(0, .int .i64 e21)] a ∧ Wd ⟨w0, S0, []⟩ Sv22 [] [] w) ?_ ?_
 ·refine wp_block ?_
  refine wp_while (fun sv3 a w => ∃ (Sv13 : Nat → Prop), Sl 12 [(0, .int .i64 sv3.1), (1, .int .i64 sv3.2)] a ∧ Wd ⟨w0, S0, []⟩ Sv13 [] [] w) (a1, b2) h32 ⟨S0, (hs.wk rfl), (hw.ft [] [] (by decide) rfl rfl)⟩ ?_
  clear h32
  repeat clear hsh
  rintro sv3 a w tv19 ⟨Sv13, hs, hw⟩ hsh hd18
  delta rate_gcd_l1 at hsh
  refine wp_seq ?_
  refine sr ?_
  refine mv hs rfl rfl fun a hs => ?_
  refine sv hs (y_neq rfl rfl) rfl fun a hs => ?_
  refine nl ?_
  refine wp_cond_split (hs.ev rfl) (fun h24 => ?_) (fun h24 => ?_)
  ·have hsh := ite_t hsh h24
   refine wp_skip ?_
   refine then_normal ?_
   refine wp_block ?_
   obtain ⟨rem29, h28, hsh⟩ := bind_t hsh
   refine wp_only (fun a w => ∃ (Sv30 : Nat → Prop), Sl 12 [(0, .int .i64 sv3.2), (1, .int .i64 rem29)] a ∧ Wd ⟨w0, S0, []⟩ Sv30 [] [] w) ?_ ?_
   ·refine h_b (C := Cls [] []) (by kernel_rfl) rfl (hw.drew.cs [] [] rfl rfl) fun hC => ?_
    have hw := hw.drew
    refine gm hs 0 rfl rfl rfl hC fun a hs => ?_
    refine gm hs 1 rfl rfl rfl hC fun a hs => ?_
    refine gm hs 2 rfl rfl rfl hC fun a hs => ?_
    refine gv hs 3 rfl rfl hC (fun w hC => y_remM rfl rfl h28) fun a hs => ?_
    refine gv hs 4 rfl rfl hC (fun w hC => y_assign rfl) fun a hs => ?_
    refine gv hs 5 rfl rfl hC (fun w hC => y_assign rfl) fun a hs => ?_
    refine h_done (by kernel_rfl) ?_
    exact ⟨Sv13, (hs.wk rfl), (hw.ft [] [] (by decide) rfl rfl)⟩
   rintro a w ⟨Sv30, hs, hw⟩
   refine blk_normal ?_
   refine then_normal ?_
   exact ⟨_, (Option.some.inj hsh).symm, Sv30, (hs.wk rfl), (hw.ft [] [] (by decide) rfl rfl)⟩
  have hsh := ite_f hsh h24
  refine wp_exit ?_
  refine then_exit ?_
  refine then_exit ?_
  refine blk_exit ?_
  have hsh := oi hsh
  subst hsh
  have h31 := hd18 _ rfl
  subst h31
  refine then_normal ?_
  exact ⟨Sv13, (hs.wk rfl), (hw.ft [] [] (by decide) rfl rfl)⟩
 rintro a w ⟨Sv22, hs, hw⟩
 refine then_normal ?_
 refine sr ?_
 refine mv hs rfl rfl fun a hs => ?_
 refine av hs rfl rfl fun a hs => ?_
 refine nl ?_
 have hsh := oi hsh
 subst hsh
 refine wp_ret ?_
 exact ret1 hs rfl (rv_tmp rfl) (hw.ret rfl)

abbrev rate_Valid_rd (w0 : World) (X : List Nat) (r : Bool) : (Nat → Prop) → World → Value → Prop := fun S w v => v = .bool r
set_option maxHeartbeats 4000000 in
set_option maxRecDepth 100000 in
theorem rate_Valid_ok {w0 : World} {S0 : Nat → Prop} {r1 : Rate} {r : Bool} (hsh : rate_Valid r1 = some r) (hS : ∀ b, S0 b → b < w0.heap.size) : Calls Try.prog 52 #[.agg #[.int .i64 r1.Num, .int .i64 r1.Den]] w0 (Ret ([]) w0 S0 (rate_Valid_rd w0 ([]) r)) := by
 refine calls_of_wp Try.func52 rfl ?_
 have hs := Sl.enter #[.agg #[.int .i64 r1.Num, .int .i64 r1.Den]] 19 [(0, .agg #[.int .i64 r1.Num, .int .i64 r1.Den])] rfl ⟨rfl, trivial⟩
 have hw := Wd.enter (E := []) hS (fun _ h => (by cases h))
 delta rate_Valid at hsh
 refine sr ?_
 refine w_box (cs := [.int .i64 r1.Num, .int .i64 r1.Den]) hs hw rfl rfl rfl trivial ?_
 intro b2 a w hs hw
 refine av hs rfl rfl fun a hs => ?_
 refine nl ?_
 refine sr ?_
 refine sv hs (y_fieldAddr (o' := 0) Try.runUnderlying51 rfl Try.sizeOf3 rfl rfl rfl) rfl fun a hs => ?_
 refine sv hs (y_loadB1 (hw.ownAt 0 rfl) rfl Try.isAgg3 rfl) rfl fun a hs => ?_
 obtain ⟨rv4, h3, hsh⟩ := bind_t hsh
 refine st_callR hs (rate_in_ok h3 hw.bdom) (do_call Try.call85 rfl) trivial rfl rfl ?_
 intro v8 Sv5 w a h6 h7 hs
 subst h7
 have hw := hw.callB h6
 refine mv hs rfl rfl fun a hs => ?_
 obtain ⟨c18, hc18, hsh⟩ := bind_t hsh
 refine wpl_join 4 (fun a w => ∃ (Sv19 : Nat → Prop), Sl 19 [(1, .pointer (some ⟨b2, 0, none⟩)), (10, .bool c18)] a ∧ Wd ⟨w0, S0, []⟩ Sv19 [.box b2 [.int .i64 r1.Num, .int .i64 r1.Den] 51] [] w) ?_ ?_
 ·rcases Bool.eq_false_or_eq_true rv4 with h17 | h17
  ·have hs := hs.fix 6 (.bool true) rfl (vb h17)
   have hsh := ite_t hc18 h17
   refine st_val hs (y_fieldAddr (o' := 1) Try.runUnderlying51 rfl Try.sizeOf3 rfl rfl rfl) ⟨_, rfl, rfl⟩ rfl rfl fun a hs => ?_
   refine st_val hs (y_loadB1 (hw.ownAt 0 rfl) rfl Try.isAgg3 rfl) ⟨_, rfl, rfl⟩ rfl rfl fun a hs => ?_
   obtain ⟨rv21, h20, hsh⟩ := bind_t hsh
   refine st_callR hs (rate_in_ok h20 hw.bdom) (do_call Try.call85 rfl) ⟨_, rfl, rfl⟩ rfl rfl ?_
   intro v25 Sv22 w a h23 h24 hs
   subst h24
   have hw := hw.callB h23
   refine sv hs (y_pickT rfl rfl) rfl fun a hs => ?_
   refine wpList_nil ?_
   have hsh := oi hsh
   subst hsh
   refine then_normal ?_
   exact ⟨S0, (hs.wk rfl), (hw.ft [0] [] (by decide) rfl rfl)⟩
  have hs := hs.fix 6 (.bool false) rfl (vb h17)
  have hsh := ite_f hc18 h17
  refine st_skip hs rfl rfl rfl rfl rfl fun a hs => ?_
  refine st_skip hs rfl rfl rfl rfl rfl fun a hs => ?_
  refine st_skip hs rfl rfl rfl rfl rfl fun a hs => ?_
  refine sv hs (y_pickF rfl rfl) rfl fun a hs => ?_
  refine wpList_nil ?_
  have hsh := oi hsh
  subst hsh
  refine then_normal ?_
  exact ⟨S0, (hs.wk rfl), (hw.ft [0] [] (by decide) rfl rfl)⟩
 rintro a w ⟨Sv19, hs, hw⟩
 refine mv hs rfl rfl fun a hs => ?_
 obtain ⟨c35, hc35, hsh⟩ := bind_t hsh
 refine wpl_join 7 (fun a w => ∃ (Sv36 : Nat → Prop), Sl 19 [(18, .bool c35)] a ∧ Wd ⟨w0, S0, []⟩ Sv36 [] [] w) ?_ ?_
 ·rcases Bool.eq_false_or_eq_true c18 with h34 | h34
  ·have hs := hs.fix 11 (.bool true) rfl (vb h34)
   have hsh := ite_t hc35 h34
   refine st_val hs (y_fieldAddr (o' := 0) Try.runUnderlying51 rfl Try.sizeOf3 rfl rfl rfl) ⟨_, rfl, rfl⟩ rfl rfl fun a hs => ?_
   refine st_val hs (y_loadB1 (hw.ownAt 0 rfl) rfl Try.isAgg3 rfl) ⟨_, rfl, rfl⟩ rfl rfl fun a hs => ?_
   refine st_val hs (y_fieldAddr (o' := 1) Try.runUnderlying51 rfl Try.sizeOf3 rfl rfl rfl) ⟨_, rfl, rfl⟩ rfl rfl fun a hs => ?_
   refine st_val hs (y_loadB1 (hw.ownAt 0 rfl) rfl Try.isAgg3 rfl) ⟨_, rfl, rfl⟩ rfl rfl fun a hs => ?_
   obtain ⟨rv38, h37, hsh⟩ := bind_t hsh
   refine st_callR hs (rate_gcd_ok h37 hw.bdom) (do_call Try.call86 rfl) ⟨_, rfl, rfl⟩ rfl rfl ?_
   intro v42 Sv39 w a h40 h41 hs
   subst h41
   have hw := hw.callB h40
   refine st_val hs (y_eql rfl rfl) ⟨_, rfl, rfl⟩ rfl rfl fun a hs => ?_
   refine sv hs (y_pickT rfl rfl) rfl fun a hs => ?_
   refine wpList_nil ?_
   have hsh := oi hsh
   subst hsh
   refine then_normal ?_
   exact ⟨Sv19, (hs.wk rfl), (hw.ft [] [] (by decide) rfl rfl)⟩
  have hs := hs.fix 11 (.bool false) rfl (vb h34)
  have hsh := ite_f hc35 h34
  refine st_skip hs rfl rfl rfl rfl rfl fun a hs => ?_
  refine st_skip hs rfl rfl rfl rfl rfl fun a hs => ?_
  refine st_skip hs rfl rfl rfl rfl rfl fun a hs => ?_
  refine st_skip hs rfl rfl rfl rfl rfl fun a hs => ?_
  refine st_skip hs rfl rfl rfl rfl rfl fun a hs => ?_
  refine st_skip hs rfl rfl rfl rfl rfl fun a hs => ?_
  refine sv hs (y_pickF rfl rfl) rfl fun a hs => ?_
  refine wpList_nil ?_
  have hsh := oi hsh
  subst hsh
  refine then_normal ?_
  exact ⟨Sv19, (hs.wk rfl), (hw.ft [] [] (by decide) rfl rfl)⟩
 rintro a w ⟨Sv36, hs, hw⟩
 refine av hs rfl rfl fun a hs => ?_
 refine nl ?_
 have hsh := oi hsh
 subst hsh
 refine wp_ret ?_
 exact ret1 hs rfl (rv_tmp rfl) (hw.ret rfl)

abbrev response_symmetric_rd (w0 : World) (X : List Nat) (r : Bool) : (Nat → Prop) → World → Value → Prop := fun S w v => v = .bool r
set_option maxHeartbeats 4000000 in
set_option maxRecDepth 100000 in
theorem response_symmetric_ok {w0 : World} {S0 : Nat → Prop} {p2 : Option Addr} {k3 : Nat} {l1 : (List Int)} {r : Bool} (hsh : response_symmetric l1 = some r) (hS : ∀ b, S0 b → b < w0.heap.size) (h4 : (SlA p2 l1.length k3 l1).p S0 w0) : Calls Try.prog 54 #[.slice p2 l1.length k3] w0 (Ret ([]) w0 S0 (response_symmetric_rd w0 ([]) r)) := by
 refine calls_of_wp Try.func54 rfl ?_
 have hs := Sl.enter #[.slice p2 l1.length k3] 23 [(0, .slice p2 l1.length k3)] rfl ⟨rfl, trivial⟩
 have hw := Wd.enter (E := []) hS (fun _ h => (by cases h))
 have hw := hw.addE h4
 delta response_symmetric at hsh
 refine sr ?_
 refine av hs rfl rfl fun a hs => ?_
 refine nl ?_
 refine wp_seq ?_
 refine sr ?_
 refine mv hs rfl rfl fun a hs => ?_
 refine sv hs (y_len Try.runUnderlying24 rfl) rfl fun a hs => ?_
 refine mv hs rfl rfl fun a hs => ?_
 refine nl ?_
 refine wp_block ?_
 refine wp_while (fun sv82 a w => ∃ (Sv132 : Nat → Prop), Sl 23 [(0, .slice p2 l1.length k3), (5, .int .i64 (l1.length : Int)), (6, .int .i64 sv82)] a ∧ Wd ⟨w0, S0, []⟩ Sv132 [] [SlA p2 l1.length k3 l1] w) 0 hsh ⟨S0, (hs.wk rfl), (hw.ft [] [0] (by decide) rfl rfl)⟩ ?_
 repeat clear hsh
 rintro sv82 a w tv158 ⟨Sv132, hs, hw⟩ hsh hd157
 delta response_symmetric_l2 at hsh
 refine sr ?_
 refine sv hs (y_lss rfl rfl) rfl fun a hs => ?_
 refine nl ?_
 refine wp_seq ?_
 refine wp_cond_split (hs.ev rfl) (fun h162 => ?_) (fun h162 => ?_)
 ·have hsh := ite_t hsh h162
  refine wp_skip ?_
  refine then_normal ?_
  refine wp_seq ?_
  refine wp_block ?_
  refine sr ?_
  refine mv hs rfl rfl fun a hs => ?_
  refine av hs rfl rfl fun a hs => ?_
  refine nl ?_
  refine wp_seq ?_
  obtain ⟨x188, h186, hsh⟩ := bind_t hsh
  obtain ⟨b194, o195, q192, c193, h196, h189, h190, h191, h187⟩ := hw.elemV 0 rfl h186
  have hsv197 := hs
  have hwv198 := hw
  subst h196
  have hs := hsv197
  have hw := hwv198
  obtain ⟨_, rfl, rfl⟩ := h187
  have hw := hw.addE h191
  obtain ⟨x201, h199, hsh⟩ := bind_t hsh
  obtain ⟨q205, c206, h202, h203, h204, h200⟩ := hw.elemK 1 rfl h199
  obtain ⟨_, rfl, rfl⟩ := h200
  have hw := hw.addE h204
  refine wp_only (fun a w => ∃ (Sv207 : Nat → Prop), Sl 23 [(0, .slice (some ⟨b194, o195, none⟩) l1.length k3), (5, .int .i64 (l1.length : Int)), (6, .int .i64 sv82), (21, .bool (x188 != x201))] a ∧ Wd ⟨w0, S0, []⟩ Sv207 [] [SlA (some ⟨b194, o195, none⟩) l1.length k3 l1] w) ?_ ?_
  ·refine h_b (C := Cls [] [CeA b194 q205 [.int .i64 x201], CeA b194 q192 [.int .i64 x188]]) (by kernel_rfl) rfl (hw.drew.cs [] [0, 1] rfl rfl) fun hC => ?_
   have hw := hw.drew
   refine gm hs 0 rfl rfl rfl hC fun a hs => ?_
   refine gm hs 1 rfl rfl rfl hC fun a hs => ?_
   refine gv hs 2 rfl rfl hC (fun w hC => y_indexAt Try.runUnderlying24 Try.sizeOf3 rfl rfl h189.1 h189.2 h190) fun a hs => ?_
   refine gv hs 3 rfl rfl hC (fun w hC => y_loadE1 (j := 0) (hC.ceAt 1 rfl) rfl Try.isAgg3 rfl) fun a hs => ?_
   refine gm hs 4 rfl rfl rfl hC fun a hs => ?_
   refine gm hs 5 rfl rfl rfl hC fun a hs => ?_
   refine gv hs 6 rfl rfl hC (fun w hC => y_len Try.runUnderlying24 rfl) fun a hs => ?_
   refine gv hs 7 rfl rfl hC (fun w hC => y_sub rfl rfl) fun a hs => ?_
   refine gm hs 8 rfl rfl rfl hC fun a hs => ?_
   refine gv hs 9 rfl rfl hC (fun w hC => y_sub rfl rfl) fun a hs => ?_
   refine gv hs 10 rfl rfl hC (fun w hC => y_indexAt Try.runUnderlying24 Try.sizeOf3 rfl rfl h202.1 h202.2 h203) fun a hs => ?_
   refine gv hs 11 rfl rfl hC (fun w hC => y_loadE1 (j := 0) (hC.ceAt 0 rfl) rfl Try.isAgg3 rfl) fun a hs => ?_
   refine gv hs 12 rfl rfl hC (fun w hC => y_neq rfl rfl) fun a hs => ?_
   refine h_done (by kernel_rfl) ?_
   exact ⟨Sv132, (hs.wk rfl), (hw.ft [] [2] (by decide) rfl rfl)⟩
  rintro a w ⟨Sv207, hs, hw⟩
  refine then_normal ?_
  refine wp_cond_split (hs.ev rfl) (fun h209 => ?_) (fun h209 => ?_)
  ·have hsh := ite_t hsh h209
   refine sr ?_
   refine av hs rfl rfl fun a hs => ?_
   refine nl ?_
   have hsh := oi hsh
   subst hsh
   have h210 := hd157 _ rfl
   subst h210
   refine wp_ret ?_
   refine blk_ret ?_
   refine then_ret ?_
   refine then_ret ?_
   refine blk_ret ?_
   refine then_ret ?_
   exact ret1 hs rfl (rv_tmp rfl) (hw.ret rfl)
  have hsh := ite_f hsh h209
  refine wp_skip ?_
  refine blk_normal ?_
  refine then_normal ?_
  refine wp_region_lit ?_
  refine sv hs (y_add rfl rfl) rfl fun a hs => ?_
  refine mv hs rfl rfl fun a hs => ?_
  refine nl ?_
  exact ⟨_, (Option.some.inj hsh).symm, Sv207, (hs.wk rfl), (hw.ft [] [0] (by decide) rfl rfl)⟩
 have hsh := ite_f hsh h162
 obtain ⟨rv211, hsh, h212⟩ := map_t hsh
 have h212 := (hd157 _ h212.symm).symm
 subst h212
 refine wp_exit ?_
 refine then_exit ?_
 refine then_exit ?_
 refine blk_exit ?_
 refine then_normal ?_
 refine sr ?_
 refine av hs rfl rfl fun a hs => ?_
 refine nl ?_
 have hsh := oi hsh
 subst hsh
 refine wp_ret ?_
 exact ret1 hs rfl (rv_tmp rfl) (hw.ret rfl)

abbrev response_gcd_rd (w0 : World) (X : List Nat) (r : Int) : (Nat → Prop) → World → Value → Prop := fun S w v => v = .int .i64 r
set_option maxHeartbeats 4000000 in
set_option maxRecDepth 100000 in
theorem response_gcd_ok {w0 : World} {S0 : Nat → Prop} {a1 : Int} {b2 : Int} {r : Int} (hsh : response_gcd a1 b2 = some r) (hS : ∀ b, S0 b → b < w0.heap.size) : Calls Try.prog 87 #[.int .i64 a1, .int .i64 b2] w0 (Ret ([]) w0 S0 (response_gcd_rd w0 ([]) r)) := by
 refine calls_of_wp Try.func87 rfl ?_
 have hs := Sl.enter #[.int .i64 a1, .int .i64 b2] 12 [(0, .int .i64 a1), (1, .int .i64 b2)] rfl ⟨rfl, rfl, trivial⟩
 have hw := Wd.enter (E := []) hS (fun _ h => (by cases h))
 delta response_gcd at hsh
 refine sr ?_
 refine av hs rfl rfl fun a hs => ?_
 refine nl ?_
 refine wp_seq ?_
 obtain ⟨e21, h32, hsh⟩ := bind_t hsh
 refine wp_join (fun a w => ∃ (Sv22 : Nat → Prop), Sl 12 [(0, .int .i64 e21)] a ∧ Wd ⟨w0, S0, []⟩ Sv22 [] [] w) ?_ ?_
 ·refine wp_block ?_
  refine wp_while (fun sv3 a w => ∃ (Sv13 : Nat → Prop), Sl 12 [(0, .int .i64 sv3.1), (1, .int .i64 sv3.2)] a ∧ Wd ⟨w0, S0, []⟩ Sv13 [] [] w) (a1, b2) h32 ⟨S0, (hs.wk rfl), (hw.ft [] [] (by decide) rfl rfl)⟩ ?_
  clear h32
  repeat clear hsh
  rintro sv3 a w tv19 ⟨Sv13, hs, hw⟩ hsh hd18
  delta response_gcd_l1 at hsh
  refine wp_seq ?_
  refine sr ?_
  refine mv hs rfl rfl fun a hs => ?_
  refine sv hs (y_neq rfl rfl) rfl fun a hs => ?_
  refine nl ?_
  refine wp_cond_split (hs.ev rfl) (fun h24 => ?_) (fun h24 => ?_)
  ·have hsh := ite_t hsh h24
   refine wp_skip ?_
   refine then_normal ?_
   refine wp_block ?_
   obtain ⟨rem29, h28, hsh⟩ := bind_t hsh
   refine wp_only (fun a w => ∃ (Sv30 : Nat → Prop), Sl 12 [(0, .int .i64 sv3.2), (1, .int .i64 rem29)] a ∧ Wd ⟨w0, S0, []⟩ Sv30 [] [] w) ?_ ?_
   ·refine h_b (C := Cls [] []) (by kernel_rfl) rfl (hw.drew.cs [] [] rfl rfl) fun hC => ?_
    have hw := hw.drew
    refine gm hs 0 rfl rfl rfl hC fun a hs => ?_
    refine gm hs 1 rfl rfl rfl hC fun a hs => ?_
    refine gm hs 2 rfl rfl rfl hC fun a hs => ?_
    refine gv hs 3 rfl rfl hC (fun w hC => y_remM rfl rfl h28) fun a hs => ?_
    refine gv hs 4 rfl rfl hC (fun w hC => y_assign rfl) fun a hs => ?_
    refine gv hs 5 rfl rfl hC (fun w hC => y_assign rfl) fun a hs => ?_
    refine h_done (by kernel_rfl) ?_
    exact ⟨Sv13, (hs.wk rfl), (hw.ft [] [] (by decide) rfl rfl)⟩
   rintro a w ⟨Sv30, hs, hw⟩
   refine blk_normal ?_
   refine then_normal ?_
   exact ⟨_, (Option.some.inj hsh).symm, Sv30, (hs.wk rfl), (hw.ft [] [] (by decide) rfl rfl)⟩
  have hsh := ite_f hsh h24
  refine wp_exit ?_
  refine then_exit ?_
  refine then_exit ?_
  refine blk_exit ?_
  have hsh := oi hsh
  subst hsh
  have h31 := hd18 _ rfl
  subst h31
  refine then_normal ?_
  exact ⟨Sv13, (hs.wk rfl), (hw.ft [] [] (by decide) rfl rfl)⟩
 rintro a w ⟨Sv22, hs, hw⟩
 refine then_normal ?_
 refine sr ?_
 refine mv hs rfl rfl fun a hs => ?_
 refine av hs rfl rfl fun a hs => ?_
 refine nl ?_
 have hsh := oi hsh
 subst hsh
 refine wp_ret ?_
 exact ret1 hs rfl (rv_tmp rfl) (hw.ret rfl)

abbrev response_faster_rd (w0 : World) (X : List Nat) (r : (Rate × Bool)) : (Nat → Prop) → World → Value → Prop := fun S w v => v = .tuple #[.agg #[.int .i64 r.1.Num, .int .i64 r.1.Den], .bool r.2]
set_option maxHeartbeats 4000000 in
set_option maxRecDepth 100000 in
theorem response_faster_ok {w0 : World} {S0 : Nat → Prop} {r1 : Rate} {n2 : Int} {r : (Rate × Bool)} (hsh : response_faster r1 n2 = some r) (hS : ∀ b, S0 b → b < w0.heap.size) : Calls Try.prog 53 #[.agg #[.int .i64 r1.Num, .int .i64 r1.Den], .int .i64 n2] w0 (Ret ([]) w0 S0 (response_faster_rd w0 ([]) r)) := by
 refine calls_of_wp Try.func53 rfl ?_
 have hs := Sl.enter #[.agg #[.int .i64 r1.Num, .int .i64 r1.Den], .int .i64 n2] 26 [(0, .agg #[.int .i64 r1.Num, .int .i64 r1.Den]), (1, .int .i64 n2)] rfl ⟨rfl, rfl, trivial⟩
 have hw := Wd.enter (E := []) hS (fun _ h => (by cases h))
 delta response_faster at hsh
 refine sr ?_
 refine w_box (cs := [.int .i64 r1.Num, .int .i64 r1.Den]) hs hw rfl rfl rfl trivial ?_
 intro b3 a w hs hw
 refine w_alloc (cs := [.int .i64 0, .int .i64 0]) hs hw Try.zeroValue51 rfl rfl trivial ?_
 intro b4 a w hs hw
 refine av hs rfl rfl fun a hs => ?_
 refine nl ?_
 refine sr ?_
 refine sv hs (y_fieldAddr (o' := 1) Try.runUnderlying51 rfl Try.sizeOf3 rfl rfl rfl) rfl fun a hs => ?_
 refine sv hs (y_loadB1 (hw.ownAt 1 rfl) rfl Try.isAgg3 rfl) rfl fun a hs => ?_
 refine mv hs rfl rfl fun a hs => ?_
 obtain ⟨rv6, h5, hsh⟩ := bind_t hsh
 refine st_callR hs (response_gcd_ok h5 hw.bdom) (do_call Try.call87 rfl) trivial rfl rfl ?_
 intro v10 Sv7 w a h8 h9 hs
 subst h9
 have hw := hw.callB h8
 refine av hs rfl rfl fun a hs => ?_
 refine nl ?_
 refine wp_seq ?_
 obtain ⟨quo13, h12, hsh⟩ := bind_t hsh
 obtain ⟨quo15, h14, hsh⟩ := bind_t hsh
 refine wp_only (fun a w => ∃ (Sv17 : Nat → Prop) (b16 : Nat), Sl 26 [(4, .pointer (some ⟨b4, 0, none⟩)), (7, .pointer (some ⟨b16, 0, none⟩))] a ∧ Wd ⟨w0, S0, []⟩ Sv17 [.box b4 [.int .i64 0, .int .i64 0] 51, .box b16 [.int .i64 (w64 (r1.Num * quo13)), .int .i64 quo15] 51] [] w) ?_ ?_
 ·refine h_b (C := Cls [.box b4 [.int .i64 0, .int .i64 0] 51, .box b3 [.int .i64 r1.Num, .int .i64 r1.Den] 51] []) (by kernel_rfl) rfl (hw.drew.cs [0, 1] [] rfl rfl) fun hC => ?_
  have hw := hw.drew
  refine gv hs 0 rfl rfl hC (fun w hC => y_fieldAddr (o' := 0) Try.runUnderlying51 rfl Try.sizeOf3 rfl rfl rfl) fun a hs => ?_
  refine gv hs 1 rfl rfl hC (fun w hC => y_loadB1 (hC.ownAt 1 rfl) rfl Try.isAgg3 rfl) fun a hs => ?_
  refine gm hs 2 rfl rfl rfl hC fun a hs => ?_
  refine gm hs 3 rfl rfl rfl hC fun a hs => ?_
  refine gv hs 4 rfl rfl hC (fun w hC => y_quoM rfl rfl h12) fun a hs => ?_
  refine gv hs 5 rfl rfl hC (fun w hC => y_mul rfl rfl) fun a hs => ?_
  refine gv hs 6 rfl rfl hC (fun w hC => y_fieldAddr (o' := 1) Try.runUnderlying51 rfl Try.sizeOf3 rfl rfl rfl) fun a hs => ?_
  refine gv hs 7 rfl rfl hC (fun w hC => y_loadB1 (hC.ownAt 1 rfl) rfl Try.isAgg3 rfl) fun a hs => ?_
  refine gm hs 8 rfl rfl rfl hC fun a hs => ?_
  refine gv hs 9 rfl rfl hC (fun w hC => y_quoM rfl rfl h14) fun a hs => ?_
  refine gv hs 10 rfl rfl hC (fun w hC => y_build (vs := [(0, .int .i64 (w64 (r1.Num * quo13))), (1, .int .i64 quo15)]) Bld51 rfl rfl) fun a hs => ?_
  refine ho 11 rfl ?_
  refine w_alloc (cs := [.int .i64 0, .int .i64 0]) hs hw Try.zeroValue51 rfl rfl trivial ?_
  intro b16 a w hs hw
  refine h_nx (hw.cs [1, 2] [] rfl rfl) fun hC => ?_
  refine ho 12 rfl ?_
  refine w_store (m := 2) (cs' := [.int .i64 (w64 (r1.Num * quo13)), .int .i64 quo15]) hs hw 0 rfl rfl rfl Try.sizeOf51 rfl rfl rfl rfl trivial ?_
  intro a w hs hw
  refine h_nx (hw.cs [1, 2] [] rfl rfl) fun hC => ?_
  refine h_done (by kernel_rfl) ?_
  exact ⟨S0, b16, (hs.wk rfl), (hw.ft [1, 0] [] (by decide) rfl rfl)⟩
 rintro a w ⟨Sv17, b16, hs, hw⟩
 refine then_normal ?_
 refine wp_seq ?_
 obtain ⟨rv19, h18, hsh⟩ := bind_t hsh
 refine wp_only (fun a w => ∃ (Sv20 : Nat → Prop), Sl 26 [(4, .pointer (some ⟨b4, 0, none⟩)), (5, .bool rv19)] a ∧ Wd ⟨w0, S0, []⟩ Sv20 [.box b4 [.int .i64 (w64 (r1.Num * quo13)), .int .i64 quo15] 51] [] w) ?_ ?_
 ·refine h_b (C := Cls [.box b16 [.int .i64 (w64 (r1.Num * quo13)), .int .i64 quo15] 51] []) (by kernel_rfl) rfl (hw.drew.cs [1] [] rfl rfl) fun hC => ?_
  have hw := hw.drew
  refine gv hs 0 rfl rfl hC (fun w hC => y_loadBA (hC.ownAt 0 rfl) rfl Try.isAgg51 Try.sizeOf51 rfl rfl) fun a hs => ?_
  refine gv hs 1 rfl rfl hC (fun w hC => y_loadBA (hC.ownAt 0 rfl) rfl Try.isAgg51 Try.sizeOf51 rfl rfl) fun a hs => ?_
  refine ho 2 rfl ?_
  refine st_callR hs (rate_Valid_ok h18 hw.bdom) (do_call Try.call52 rfl) trivial rfl rfl ?_
  intro v24 Sv21 w a h22 h23 hs
  subst h23
  have hw := hw.callB h22
  refine h_nx (hw.cs [1] [] rfl rfl) fun hC => ?_
  refine ho 3 rfl ?_
  refine w_store (m := 2) (cs' := [.int .i64 (w64 (r1.Num * quo13)), .int .i64 quo15]) hs hw 0 rfl rfl rfl Try.sizeOf51 rfl rfl rfl rfl trivial ?_
  intro a w hs hw
  refine h_nx (hw.cs [1] [] rfl rfl) fun hC => ?_
  refine gv hs 4 rfl rfl hC (fun w hC => y_assign rfl) fun a hs => ?_
  refine h_done (by kernel_rfl) ?_
  exact ⟨Sv17, (hs.wk rfl), (hw.ft [0] [] (by decide) rfl rfl)⟩
 rintro a w ⟨Sv20, hs, hw⟩
 refine then_normal ?_
 have hsh := oi hsh
 subst hsh
 refine wp_ret ?_
 exact ret2 hs rfl (rv_cell hw 0 rfl rfl Try.isAgg51 Try.sizeOf51 rfl) (rv_tmp rfl) (hw.ret rfl)

abbrev response_plus_rd (w0 : World) (X : List Nat) (r : Ratio) : (Nat → Prop) → World → Value → Prop := fun S w v => v = .agg #[.int .i64 r.Num, .int .i64 r.Den]
set_option maxHeartbeats 4000000 in
set_option maxRecDepth 100000 in
theorem response_plus_ok {w0 : World} {S0 : Nat → Prop} {a1 : Ratio} {b2 : Ratio} {r : Ratio} (hsh : response_plus a1 b2 = some r) (hS : ∀ b, S0 b → b < w0.heap.size) : Calls Try.prog 55 #[.agg #[.int .i64 a1.Num, .int .i64 a1.Den], .agg #[.int .i64 b2.Num, .int .i64 b2.Den]] w0 (Ret ([]) w0 S0 (response_plus_rd w0 ([]) r)) := by
 refine calls_of_wp Try.func55 rfl ?_
 have hs := Sl.enter #[.agg #[.int .i64 a1.Num, .int .i64 a1.Den], .agg #[.int .i64 b2.Num, .int .i64 b2.Den]] 34 [(0, .agg #[.int .i64 a1.Num, .int .i64 a1.Den]), (1, .agg #[.int .i64 b2.Num, .int .i64 b2.Den])] rfl ⟨rfl, rfl, trivial⟩
 have hw := Wd.enter (E := []) hS (fun _ h => (by cases h))
 delta response_plus at hsh
 refine sr ?_
 refine w_box (cs := [.int .i64 a1.Num, .int .i64 a1.Den]) hs hw rfl rfl rfl trivial ?_
 intro b3 a w hs hw
 refine w_box (cs := [.int .i64 b2.Num, .int .i64 b2.Den]) hs hw rfl rfl rfl trivial ?_
 intro b4 a w hs hw
 refine w_alloc (cs := [.int .i64 0, .int .i64 0]) hs hw Try.zeroValue57 rfl rfl trivial ?_
 intro b5 a w hs hw
 refine nl ?_
 refine wp_seq ?_
 obtain ⟨num7, h6, hsh⟩ := bind_t hsh
 obtain ⟨den9, h8, hsh⟩ := bind_t hsh
 refine wp_only (fun a w => ∃ (Sv10 : Nat → Prop), Sl 34 [(4, .pointer (some ⟨b5, 0, none⟩)), (5, .int .i64 num7), (6, .int .i64 den9)] a ∧ Wd ⟨w0, S0, []⟩ Sv10 [.box b5 [.int .i64 0, .int .i64 0] 57] [] w) ?_ ?_
 ·refine h_b (C := Cls [.box b5 [.int .i64 0, .int .i64 0] 57, .box b4 [.int .i64 b2.Num, .int .i64 b2.Den] 57, .box b3 [.int .i64 a1.Num, .int .i64 a1.Den] 57] []) (by kernel_rfl) rfl (hw.drew.cs [0, 1, 2] [] rfl rfl) fun hC => ?_
  have hw := hw.drew
  refine gv hs 0 rfl rfl hC (fun w hC => y_fieldAddr (o' := 0) Try.runUnderlying57 rfl Try.sizeOf3 rfl rfl rfl) fun a hs => ?_
  refine gv hs 1 rfl rfl hC (fun w hC => y_loadB1 (hC.ownAt 2 rfl) rfl Try.isAgg3 rfl) fun a hs => ?_
  refine gv hs 2 rfl rfl hC (fun w hC => y_fieldAddr (o' := 1) Try.runUnderlying57 rfl Try.sizeOf3 rfl rfl rfl) fun a hs => ?_
  refine gv hs 3 rfl rfl hC (fun w hC => y_loadB1 (hC.ownAt 1 rfl) rfl Try.isAgg3 rfl) fun a hs => ?_
  refine gv hs 4 rfl rfl hC (fun w hC => y_mul rfl rfl) fun a hs => ?_
  refine gv hs 5 rfl rfl hC (fun w hC => y_fieldAddr (o' := 0) Try.runUnderlying57 rfl Try.sizeOf3 rfl rfl rfl) fun a hs => ?_
  refine gv hs 6 rfl rfl hC (fun w hC => y_loadB1 (hC.ownAt 1 rfl) rfl Try.isAgg3 rfl) fun a hs => ?_
  refine gv hs 7 rfl rfl hC (fun w hC => y_fieldAddr (o' := 1) Try.runUnderlying57 rfl Try.sizeOf3 rfl rfl rfl) fun a hs => ?_
  refine gv hs 8 rfl rfl hC (fun w hC => y_loadB1 (hC.ownAt 2 rfl) rfl Try.isAgg3 rfl) fun a hs => ?_
  refine gv hs 9 rfl rfl hC (fun w hC => y_mul rfl rfl) fun a hs => ?_
  refine gv hs 10 rfl rfl hC (fun w hC => y_add rfl rfl) fun a hs => ?_
  refine gv hs 11 rfl rfl hC (fun w hC => y_fieldAddr (o' := 1) Try.runUnderlying57 rfl Try.sizeOf3 rfl rfl rfl) fun a hs => ?_
  refine gv hs 12 rfl rfl hC (fun w hC => y_loadB1 (hC.ownAt 2 rfl) rfl Try.isAgg3 rfl) fun a hs => ?_
  refine gv hs 13 rfl rfl hC (fun w hC => y_fieldAddr (o' := 1) Try.runUnderlying57 rfl Try.sizeOf3 rfl rfl rfl) fun a hs => ?_
  refine gv hs 14 rfl rfl hC (fun w hC => y_loadB1 (hC.ownAt 1 rfl) rfl Try.isAgg3 rfl) fun a hs => ?_
  refine gv hs 15 rfl rfl hC (fun w hC => y_mul rfl rfl) fun a hs => ?_
  refine gv hs 16 rfl rfl hC (fun w hC => y_assignI rfl h6) fun a hs => ?_
  refine gv hs 17 rfl rfl hC (fun w hC => y_assignI rfl h8) fun a hs => ?_
  refine h_done (by kernel_rfl) ?_
  exact ⟨S0, (hs.wk rfl), (hw.ft [0] [] (by decide) rfl rfl)⟩
 rintro a w ⟨Sv10, hs, hw⟩
 refine then_normal ?_
 refine sr ?_
 refine mv hs rfl rfl fun a hs => ?_
 refine mv hs rfl rfl fun a hs => ?_
 obtain ⟨rv12, h11, hsh⟩ := bind_t hsh
 refine st_callR hs (response_gcd_ok h11 hw.bdom) (do_call Try.call87 rfl) trivial rfl rfl ?_
 intro v16 Sv13 w a h14 h15 hs
 subst h15
 have hw := hw.callB h14
 refine av hs rfl rfl fun a hs => ?_
 refine nl ?_
 refine wp_seq ?_
 obtain ⟨quo19, h18, hsh⟩ := bind_t hsh
 obtain ⟨quo21, h20, hsh⟩ := bind_t hsh
 refine wp_only (fun a w => ∃ (Sv22 : Nat → Prop), Sl 34 [(4, .pointer (some ⟨b5, 0, none⟩))] a ∧ Wd ⟨w0, S0, []⟩ Sv22 [.box b5 [.int .i64 quo19, .int .i64 quo21] 57] [] w) ?_ ?_
 ·refine h_b (C := Cls [] []) (by kernel_rfl) rfl (hw.drew.cs [] [] rfl rfl) fun hC => ?_
  have hw := hw.drew
  refine gm hs 0 rfl rfl rfl hC fun a hs => ?_
  refine gm hs 1 rfl rfl rfl hC fun a hs => ?_
  refine gv hs 2 rfl rfl hC (fun w hC => y_quoM rfl rfl h18) fun a hs => ?_
  refine gm hs 3 rfl rfl rfl hC fun a hs => ?_
  refine gm hs 4 rfl rfl rfl hC fun a hs => ?_
  refine gv hs 5 rfl rfl hC (fun w hC => y_quoM rfl rfl h20) fun a hs => ?_
  refine gv hs 6 rfl rfl hC (fun w hC => y_build (vs := [(0, .int .i64 quo19), (1, .int .i64 quo21)]) Bld57 rfl rfl) fun a hs => ?_
  refine ho 7 rfl ?_
  refine w_store (m := 2) (cs' := [.int .i64 quo19, .int .i64 quo21]) hs hw 0 rfl rfl rfl Try.sizeOf57 rfl rfl rfl rfl trivial ?_
  intro a w hs hw
  refine h_nx (hw.cs [] [] rfl rfl) fun hC => ?_
  refine h_done (by kernel_rfl) ?_
  exact ⟨Sv10, (hs.wk rfl), (hw.ft [0] [] (by decide) rfl rfl)⟩
 rintro a w ⟨Sv22, hs, hw⟩
 refine then_normal ?_
 have hsh := oi hsh
 subst hsh
 refine wp_ret ?_
 exact ret1 hs rfl (rv_cell hw 0 rfl rfl Try.isAgg57 Try.sizeOf57 rfl) (hw.ret rfl)

abbrev response_Delay_rd (w0 : World) (X : List Nat) (r : (Ratio × Int)) : (Nat → Prop) → World → Value → Prop := fun S w v => v = .tuple #[.agg #[.int .i64 r.1.Num, .int .i64 r.1.Den], .int .i64 r.2]
set_option maxHeartbeats 4000000 in
set_option maxRecDepth 100000 in
theorem response_Delay_ok {w0 : World} {S0 : Nat → Prop} {p2 : Option Addr} {k3 : Nat} {r1 : Response} {out5 : Rate} {r : (Ratio × Int)} (hsh : response_Delay r1 out5 = some r) (hS : ∀ b, S0 b → b < w0.heap.size) (h4 : (SlA p2 r1.Stages.length k3 r1.Stages).p S0 w0) : Calls Try.prog 20 #[.agg #[.slice p2 r1.Stages.length k3], .agg #[.int .i64 out5.Num, .int .i64 out5.Den]] w0 (Ret ([]) w0 S0 (response_Delay_rd w0 ([]) r)) := by
 refine calls_of_wp Try.func20 rfl ?_
 have hs := Sl.enter #[.agg #[.slice p2 r1.Stages.length k3], .agg #[.int .i64 out5.Num, .int .i64 out5.Den]] 89 [(0, .agg #[.slice p2 r1.Stages.length k3]), (1, .agg #[.int .i64 out5.Num, .int .i64 out5.Den])] rfl ⟨rfl, rfl, trivial⟩
 have hw := Wd.enter (E := []) hS (fun _ h => (by cases h))
 have hw := hw.addE h4
 delta response_Delay at hsh
 refine sr ?_
 refine w_box (cs := [.slice p2 r1.Stages.length k3]) hs hw rfl rfl rfl trivial ?_
 intro b6 a w hs hw
 refine w_box (cs := [.int .i64 out5.Num, .int .i64 out5.Den]) hs hw rfl rfl rfl trivial ?_
 intro b7 a w hs hw
 refine w_alloc (cs := [.int .i64 0, .int .i64 0]) hs hw Try.zeroValue57 rfl rfl trivial ?_
 intro b8 a w hs hw
 refine av hs rfl rfl fun a hs => ?_
 refine nl ?_
 refine wp_seq ?_
 refine sr ?_
 refine sv hs (y_loadBA (hw.ownAt 2 rfl) rfl Try.isAgg37 Try.sizeOf37 rfl rfl) rfl fun a hs => ?_
 obtain ⟨rv10, h9, hsh⟩ := bind_t hsh
 refine st_callR hs (response_Valid_ok h9 hw.bdom (hw.bE 0 rfl)) (do_call Try.call33 rfl) trivial rfl rfl ?_
 intro v14 Sv11 w a h12 h13 hs
 subst h13
 have hw := hw.callB h12
 refine sv hs (y_not rfl) rfl fun a hs => ?_
 refine mv hs rfl rfl fun a hs => ?_
 obtain ⟨c24, hc24, hsh⟩ := bind_t hsh
 refine wpl_join 4 (fun a w => ∃ (Sv25 : Nat → Prop), Sl 89 [(2, .pointer (some ⟨b6, 0, none⟩)), (3, .pointer (some ⟨b7, 0, none⟩)), (4, .pointer (some ⟨b8, 0, none⟩)), (20, .bool c24)] a ∧ Wd ⟨w0, S0, []⟩ Sv25 [.box b6 [.slice p2 r1.Stages.length k3] 37, .box b7 [.int .i64 out5.Num, .int .i64 out5.Den] 51, .box b8 [.int .i64 0, .int .i64 0] 57] [SlA p2 r1.Stages.length k3 r1.Stages] w) ?_ ?_
 ·rcases Bool.eq_false_or_eq_true (!rv10) with h23 | h23
  ·have hs := hs.fix 16 (.bool true) rfl (vb h23)
   have hsh := ite_t hc24 h23
   refine st_skip hs rfl rfl rfl rfl rfl fun a hs => ?_
   refine st_skip hs rfl rfl rfl rfl rfl fun a hs => ?_
   refine st_skip hs rfl rfl rfl rfl rfl fun a hs => ?_
   refine sv hs (y_pickT rfl rfl) rfl fun a hs => ?_
   refine wpList_nil ?_
   have hsh := oi hsh
   subst hsh
   refine then_normal ?_
   exact ⟨S0, (hs.wk rfl), (hw.ft [2, 1, 0] [0] (by decide) rfl rfl)⟩
  have hs := hs.fix 16 (.bool false) rfl (vb h23)
  have hsh := ite_f hc24 h23
  refine st_val hs (y_loadBA (hw.ownAt 1 rfl) rfl Try.isAgg51 Try.sizeOf51 rfl rfl) ⟨_, rfl, rfl⟩ rfl rfl fun a hs => ?_
  obtain ⟨rv27, h26, hsh⟩ := bind_t hsh
  refine st_callR hs (rate_Valid_ok h26 hw.bdom) (do_call Try.call52 rfl) ⟨_, rfl, rfl⟩ rfl rfl ?_
  intro v31 Sv28 w a h29 h30 hs
  subst h30
  have hw := hw.callB h29
  refine st_val hs (y_not rfl) ⟨_, rfl, rfl⟩ rfl rfl fun a hs => ?_
  refine sv hs (y_pickF rfl rfl) rfl fun a hs => ?_
  refine wpList_nil ?_
  have hsh := oi hsh
  subst hsh
  refine then_normal ?_
  exact ⟨S0, (hs.wk rfl), (hw.ft [2, 1, 0] [0] (by decide) rfl rfl)⟩
 rintro a w ⟨Sv25, hs, hw⟩
 refine nl ?_
 refine wp_cond_split (hs.ev rfl) (fun h34 => ?_) (fun h34 => ?_)
 ·have hsh := ite_t hsh h34
  refine sr ?_
  refine sv hs (y_build (vs := []) Bld57 rfl rfl) rfl fun a hs => ?_
  refine w_store (m := 2) (cs' := [.int .i64 0, .int .i64 0]) hs hw 2 rfl rfl rfl Try.sizeOf57 rfl rfl rfl rfl trivial ?_
  intro a w hs hw
  refine av hs rfl rfl fun a hs => ?_
  refine nl ?_
  have hsh := oi hsh
  subst hsh
  refine wp_ret ?_
  refine then_ret ?_
  exact ret2 hs rfl (rv_cell hw 2 rfl rfl Try.isAgg57 Try.sizeOf57 rfl) (rv_tmp rfl) (hw.ret rfl)
 have hsh := ite_f hsh h34
 refine wp_skip ?_
 refine then_normal ?_
 refine wp_seq ?_
 refine sr ?_
 refine sv hs (y_fieldAddr (o' := 0) Try.runUnderlying37 rfl Try.sizeOf35 rfl rfl rfl) rfl fun a hs => ?_
 refine sv hs (y_loadB1 (hw.ownAt 0 rfl) rfl Try.isAgg35 rfl) rfl fun a hs => ?_
 refine sv hs (y_len Try.runUnderlying35 rfl) rfl fun a hs => ?_
 refine mv hs rfl rfl fun a hs => ?_
 refine nl ?_
 refine wp_block ?_
 refine wp_while (fun sv151 a w => ∃ (Sv227 : Nat → Prop), Sl 89 [(2, .pointer (some ⟨b6, 0, none⟩)), (3, .pointer (some ⟨b7, 0, none⟩)), (4, .pointer (some ⟨b8, 0, none⟩)), (23, .slice p2 r1.Stages.length k3), (24, .int .i64 (r1.Stages.length : Int)), (25, .int .i64 sv151)] a ∧ Wd ⟨w0, S0, []⟩ Sv227 [.box b6 [.slice p2 r1.Stages.length k3] 37, .box b7 [.int .i64 out5.Num, .int .i64 out5.Den] 51, .box b8 [.int .i64 0, .int .i64 0] 57] [SlA p2 r1.Stages.length k3 r1.Stages] w) 0 hsh ⟨Sv25, (hs.wk rfl), (hw.ft [0, 1, 2] [0] (by decide) rfl rfl)⟩ ?_
 repeat clear hsh
 rintro sv151 a w tv266 ⟨Sv227, hs, hw⟩ hsh hd265
 delta response_Delay_l2 at hsh
 refine sr ?_
 refine sv hs (y_lss rfl rfl) rfl fun a hs => ?_
 refine nl ?_
 refine wp_seq ?_
 refine wp_cond_split (hs.ev rfl) (fun h270 => ?_) (fun h270 => ?_)
 ·have hsh := ite_t hsh h270
  refine wp_skip ?_
  refine then_normal ?_
  refine wp_seq ?_
  refine wp_block ?_
  refine sr ?_
  obtain ⟨x309, h307, hsh⟩ := bind_t hsh
  obtain ⟨b315, o316, q313, c314, h317, h310, h311, h312, h308⟩ := hw.elemV 0 rfl h307
  have hsv318 := hs
  have hwv319 := hw
  subst h317
  have hs := hsv318
  have hw := hwv319
  obtain ⟨_, _, _, _, _, _, _, _, _, _, rfl, rfl, rfl, rfl, rfl, rfl, rfl, rfl, ⟨p320, n321, k322, rfl, h323⟩, rfl, rfl⟩ := h308
  obtain rfl := h323.1
  have hw := hw.addE (e := SlA p320 _ k322 x309.Taps) h323
  have hw := hw.addE h312
  refine sv hs (y_indexAt Try.runUnderlying35 Try.sizeOf26 rfl rfl h310.1 h310.2 h311) rfl fun a hs => ?_
  refine sv hs (y_loadEA (j := 0) (hw.ceAt 0 rfl) rfl Try.isAgg26 Try.sizeOf26 rfl rfl) rfl fun a hs => ?_
  refine w_alloc (cs := [.int .i64 0, .int .i64 0, .int .i64 0, .int .i64 0, .int .i64 0, .int .i64 0, .int .i64 0, .slice none ([] : List Int).length 0, .int .i64 0, .int .i64 0]) hs hw Try.zeroValue26 rfl rfl trivial ?_
  intro b324 a w hs hw
  refine w_store (m := 10) (cs' := [.int .i64 x309.Kind, .int .i64 x309.Num.e0, .int .i64 x309.Num.e1, .int .i64 x309.Num.e2, .int .i64 x309.Den.e0, .int .i64 x309.Den.e1, .int .i64 x309.Den.e2, .slice p320 x309.Taps.length k322, .int .i64 x309.Factor, .int .i64 x309.Shift]) hs hw 0 rfl rfl rfl Try.sizeOf26 rfl rfl rfl rfl trivial ?_
  intro a w hs hw
  refine nl ?_
  refine sr ?_
  refine sv hs (y_fieldAddr (o' := 0) Try.runUnderlying26 rfl Try.sizeOf3 rfl rfl rfl) rfl fun a hs => ?_
  refine sv hs (y_loadB1 (hw.ownAt 0 rfl) rfl Try.isAgg3 rfl) rfl fun a hs => ?_
  refine sv hs (y_eql rfl rfl) rfl fun a hs => ?_
  refine mv hs rfl rfl fun a hs => ?_
  obtain ⟨c333, hc333, hsh⟩ := bind_t hsh
  refine wpl_join 5 (fun a w => ∃ (Sv334 : Nat → Prop), Sl 89 [(2, .pointer (some ⟨b6, 0, none⟩)), (3, .pointer (some ⟨b7, 0, none⟩)), (4, .pointer (some ⟨b8, 0, none⟩)), (23, .slice (some ⟨b315, o316, none⟩) r1.Stages.length k3), (24, .int .i64 (r1.Stages.length : Int)), (25, .int .i64 sv151), (37, .bool c333)] a ∧ Wd ⟨w0, S0, []⟩ Sv334 [.box b6 [.slice (some ⟨b315, o316, none⟩) r1.Stages.length k3] 37, .box b7 [.int .i64 out5.Num, .int .i64 out5.Den] 51, .box b8 [.int .i64 0, .int .i64 0] 57, .box b324 [.int .i64 x309.Kind, .int .i64 x309.Num.e0, .int .i64 x309.Num.e1, .int .i64 x309.Num.e2, .int .i64 x309.Den.e0, .int .i64 x309.Den.e1, .int .i64 x309.Den.e2, .slice p320 x309.Taps.length k322, .int .i64 x309.Factor, .int .i64 x309.Shift] 26] [SlA (some ⟨b315, o316, none⟩) r1.Stages.length k3 r1.Stages, SlA p320 x309.Taps.length k322 x309.Taps] w) ?_ ?_
  ·rcases Bool.eq_false_or_eq_true (x309.Kind == 2) with h332 | h332
   ·have hs := hs.fix 32 (.bool true) rfl (vb h332)
    have hsh := ite_t hc333 h332
    refine st_val hs (y_fieldAddr (o' := 7) Try.runUnderlying26 rfl Try.sizeOf24 rfl rfl rfl) ⟨_, rfl, rfl⟩ rfl rfl fun a hs => ?_
    refine st_val hs (y_loadB1 (hw.ownAt 0 rfl) rfl Try.isAgg24 rfl) ⟨_, rfl, rfl⟩ rfl rfl fun a hs => ?_
    obtain ⟨rv336, h335, hsh⟩ := bind_t hsh
    refine st_callR hs (response_symmetric_ok h335 hw.bdom (hw.bE 1 rfl)) (do_call Try.call54 rfl) ⟨_, rfl, rfl⟩ rfl rfl ?_
    intro v340 Sv337 w a h338 h339 hs
    subst h339
    have hw := hw.callB h338
    refine st_val hs (y_not rfl) ⟨_, rfl, rfl⟩ rfl rfl fun a hs => ?_
    refine sv hs (y_pickT rfl rfl) rfl fun a hs => ?_
    refine wpList_nil ?_
    have hsh := oi hsh
    subst hsh
    refine then_normal ?_
    exact ⟨Sv227, (hs.wk rfl), (hw.ft [1, 2, 3, 0] [2, 1] (by decide) rfl rfl)⟩
   have hs := hs.fix 32 (.bool false) rfl (vb h332)
   have hsh := ite_f hc333 h332
   refine st_skip hs rfl rfl rfl rfl rfl fun a hs => ?_
   refine st_skip hs rfl rfl rfl rfl rfl fun a hs => ?_
   refine st_skip hs rfl rfl rfl rfl rfl fun a hs => ?_
   refine st_skip hs rfl rfl rfl rfl rfl fun a hs => ?_
   refine sv hs (y_pickF rfl rfl) rfl fun a hs => ?_
   refine wpList_nil ?_
   have hsh := oi hsh
   subst hsh
   refine then_normal ?_
   exact ⟨Sv227, (hs.wk rfl), (hw.ft [1, 2, 3, 0] [2, 1] (by decide) rfl rfl)⟩
  rintro a w ⟨Sv334, hs, hw⟩
  refine nl ?_
  refine wp_cond_split (hs.ev rfl) (fun h343 => ?_) (fun h343 => ?_)
  ·have hsh := ite_t hsh h343
   refine sr ?_
   refine sv hs (y_build (vs := []) Bld57 rfl rfl) rfl fun a hs => ?_
   refine w_store (m := 2) (cs' := [.int .i64 0, .int .i64 0]) hs hw 2 rfl rfl rfl Try.sizeOf57 rfl rfl rfl rfl trivial ?_
   intro a w hs hw
   refine av hs rfl rfl fun a hs => ?_
   refine nl ?_
   have hsh := oi hsh
   subst hsh
   have h344 := hd265 _ rfl
   subst h344
   refine wp_ret ?_
   refine blk_ret ?_
   refine then_ret ?_
   refine then_ret ?_
   refine blk_ret ?_
   refine then_ret ?_
   exact ret2 hs rfl (rv_cell hw 2 rfl rfl Try.isAgg57 Try.sizeOf57 rfl) (rv_tmp rfl) (hw.ret rfl)
  have hsh := ite_f hsh h343
  refine wp_skip ?_
  refine blk_normal ?_
  refine then_normal ?_
  refine wp_region_lit ?_
  refine sv hs (y_add rfl rfl) rfl fun a hs => ?_
  refine mv hs rfl rfl fun a hs => ?_
  refine nl ?_
  exact ⟨_, (Option.some.inj hsh).symm, Sv334, (hs.wk rfl), (hw.ft [0, 1, 2] [0] (by decide) rfl rfl)⟩
 have hsh := ite_f hsh h270
 obtain ⟨rv755, hsh, h756⟩ := map_t hsh
 have h756 := (hd265 _ h756.symm).symm
 subst h756
 refine wp_exit ?_
 refine then_exit ?_
 refine then_exit ?_
 refine blk_exit ?_
 refine then_normal ?_
 refine sr ?_
 refine sv hs (y_build (vs := [(1, .int .i64 1)]) Bld57 rfl rfl) rfl fun a hs => ?_
 refine w_alloc (cs := [.int .i64 0, .int .i64 0]) hs hw Try.zeroValue57 rfl rfl trivial ?_
 intro b345 a w hs hw
 refine w_store (m := 2) (cs' := [.int .i64 0, .int .i64 1]) hs hw 0 rfl rfl rfl Try.sizeOf57 rfl rfl rfl rfl trivial ?_
 intro a w hs hw
 refine nl ?_
 refine wp_seq ?_
 refine sr ?_
 refine sv hs (y_fieldAddr (o' := 0) Try.runUnderlying37 rfl Try.sizeOf35 rfl rfl rfl) rfl fun a hs => ?_
 refine sv hs (y_loadB1 (hw.ownAt 1 rfl) rfl Try.isAgg35 rfl) rfl fun a hs => ?_
 refine sv hs (y_len Try.runUnderlying35 rfl) rfl fun a hs => ?_
 refine mv hs rfl rfl fun a hs => ?_
 refine nl ?_
 refine wp_block ?_
 refine wp_while (fun sv489 a w => ∃ (Sv583 : Nat → Prop), Sl 89 [(2, .pointer (some ⟨b6, 0, none⟩)), (3, .pointer (some ⟨b7, 0, none⟩)), (4, .pointer (some ⟨b8, 0, none⟩)), (8, .pointer (some ⟨b345, 0, none⟩)), (42, .slice p2 r1.Stages.length k3), (43, .int .i64 (r1.Stages.length : Int)), (44, .int .i64 sv489.2.2)] a ∧ Wd ⟨w0, S0, []⟩ Sv583 [.box b6 [.slice p2 r1.Stages.length k3] 37, .box b7 [.int .i64 out5.Num, .int .i64 out5.Den] 51, .box b8 [.int .i64 0, .int .i64 0] 57, .box b345 [.int .i64 sv489.1, .int .i64 sv489.2.1] 57] [SlA p2 r1.Stages.length k3 r1.Stages] w) (0, 1, 0) hsh ⟨Sv227, (hs.wk rfl), (hw.ft [1, 2, 3, 0] [0] (by decide) rfl rfl)⟩ ?_
 repeat clear hsh
 rintro sv489 a w tv631 ⟨Sv583, hs, hw⟩ hsh hd630
 delta response_Delay_l4 at hsh
 refine sr ?_
 refine sv hs (y_lss rfl rfl) rfl fun a hs => ?_
 refine nl ?_
 refine wp_seq ?_
 refine wp_cond_split (hs.ev rfl) (fun h635 => ?_) (fun h635 => ?_)
 ·have hsh := ite_t hsh h635
  refine wp_skip ?_
  refine then_normal ?_
  refine wp_seq ?_
  refine wp_join (fun a w => ∃ (x679 : Int) (x680 : Int) (Sv678 : Nat → Prop), response_Delay_j1 sv489 x679 x680 = some tv631 ∧ Sl 89 [(2, .pointer (some ⟨b6, 0, none⟩)), (3, .pointer (some ⟨b7, 0, none⟩)), (4, .pointer (some ⟨b8, 0, none⟩)), (8, .pointer (some ⟨b345, 0, none⟩)), (42, .slice p2 r1.Stages.length k3), (43, .int .i64 (r1.Stages.length : Int)), (44, .int .i64 sv489.2.2)] a ∧ Wd ⟨w0, S0, []⟩ Sv678 [.box b6 [.slice p2 r1.Stages.length k3] 37, .box b7 [.int .i64 out5.Num, .int .i64 out5.Den] 51, .box b8 [.int .i64 0, .int .i64 0] 57, .box b345 [.int .i64 x679, .int .i64 x680] 57] [SlA p2 r1.Stages.length k3 r1.Stages] w) ?_ ?_
  ·refine wp_block ?_
   refine sr ?_
   refine mv hs rfl rfl fun a hs => ?_
   obtain ⟨x683, h681, hsh⟩ := bind_t hsh
   obtain ⟨b689, o690, q687, c688, h691, h684, h685, h686, h682⟩ := hw.elemV 0 rfl h681
   have hsv692 := hs
   have hwv693 := hw
   subst h691
   have hs := hsv692
   have hw := hwv693
   obtain ⟨_, _, _, _, _, _, _, _, _, _, rfl, rfl, rfl, rfl, rfl, rfl, rfl, rfl, ⟨p694, n695, k696, rfl, h697⟩, rfl, rfl⟩ := h682
   obtain rfl := h697.1
   have hw := hw.addE (e := SlA p694 _ k696 x683.Taps) h697
   have hw := hw.addE h686
   refine sv hs (y_indexAt Try.runUnderlying35 Try.sizeOf26 rfl rfl h684.1 h684.2 h685) rfl fun a hs => ?_
   refine sv hs (y_loadEA (j := 0) (hw.ceAt 0 rfl) rfl Try.isAgg26 Try.sizeOf26 rfl rfl) rfl fun a hs => ?_
   refine w_alloc (cs := [.int .i64 0, .int .i64 0, .int .i64 0, .int .i64 0, .int .i64 0, .int .i64 0, .int .i64 0, .slice none ([] : List Int).length 0, .int .i64 0, .int .i64 0]) hs hw Try.zeroValue26 rfl rfl trivial ?_
   intro b698 a w hs hw
   refine av hs rfl rfl fun a hs => ?_
   refine w_store (m := 10) (cs' := [.int .i64 x683.Kind, .int .i64 x683.Num.e0, .int .i64 x683.Num.e1, .int .i64 x683.Num.e2, .int .i64 x683.Den.e0, .int .i64 x683.Den.e1, .int .i64 x683.Den.e2, .slice p694 x683.Taps.length k696, .int .i64 x683.Factor, .int .i64 x683.Shift]) hs hw 0 rfl rfl rfl Try.sizeOf26 rfl rfl rfl rfl trivial ?_
   intro a w hs hw
   refine nl ?_
   refine wp_seq ?_
   refine sr ?_
   refine sv hs (y_fieldAddr (o' := 0) Try.runUnderlying26 rfl Try.sizeOf3 rfl rfl rfl) rfl fun a hs => ?_
   refine sv hs (y_loadB1 (hw.ownAt 0 rfl) rfl Try.isAgg3 rfl) rfl fun a hs => ?_
   refine sv hs (y_neq rfl rfl) rfl fun a hs => ?_
   refine nl ?_
   refine wp_cond_split (hs.ev rfl) (fun h700 => ?_) (fun h700 => ?_)
   ·have hsh := ite_t hsh h700
    refine wp_exit ?_
    refine then_exit ?_
    refine blk_exit ?_
    refine then_normal ?_
    exact ⟨sv489.1, sv489.2.1, Sv583, hsh, (hs.wk rfl), (hw.ft [1, 2, 3, 4] [2] (by decide) rfl rfl)⟩
   have hsh := ite_f hsh h700
   refine wp_skip ?_
   refine then_normal ?_
   refine wp_seq ?_
   obtain ⟨l706, h701, hsh⟩ := bind_t hsh
   obtain ⟨p704, k705, h702, h703⟩ := sub_env (hw.envAt 2 rfl) h701
   have hw := hw.addE h702
   obtain ⟨rv708, h707, hsh⟩ := bind_t hsh
   obtain ⟨rv710, h709, hsh⟩ := bind_t hsh
   refine wp_only (fun a w => ∃ (Sv712 : Nat → Prop) (b711 : Nat), Sl 89 [(2, .pointer (some ⟨b6, 0, none⟩)), (3, .pointer (some ⟨b7, 0, none⟩)), (4, .pointer (some ⟨b8, 0, none⟩)), (8, .pointer (some ⟨b345, 0, none⟩)), (10, .pointer (some ⟨b698, 0, none⟩)), (11, .pointer (some ⟨b711, 0, none⟩)), (12, .bool rv710.2), (42, .slice (some ⟨b689, o690, none⟩) r1.Stages.length k3), (43, .int .i64 (r1.Stages.length : Int)), (44, .int .i64 sv489.2.2)] a ∧ Wd ⟨w0, S0, []⟩ Sv712 [.box b6 [.slice (some ⟨b689, o690, none⟩) r1.Stages.length k3] 37, .box b7 [.int .i64 out5.Num, .int .i64 out5.Den] 51, .box b8 [.int .i64 0, .int .i64 0] 57, .box b345 [.int .i64 sv489.1, .int .i64 sv489.2.1] 57, .box b698 [.int .i64 x683.Kind, .int .i64 x683.Num.e0, .int .i64 x683.Num.e1, .int .i64 x683.Num.e2, .int .i64 x683.Den.e0, .int .i64 x683.Den.e1, .int .i64 x683.Den.e2, .slice p694 x683.Taps.length k696, .int .i64 x683.Factor, .int .i64 x683.Shift] 26, .box b711 [.int .i64 rv710.1.Num, .int .i64 rv710.1.Den] 51] [SlA (some ⟨b689, o690, none⟩) r1.Stages.length k3 r1.Stages, SlA p694 x683.Taps.length k696 x683.Taps] w) ?_ ?_
   ·refine h_b (C := Cls [.box b698 [.int .i64 x683.Kind, .int .i64 x683.Num.e0, .int .i64 x683.Num.e1, .int .i64 x683.Num.e2, .int .i64 x683.Den.e0, .int .i64 x683.Den.e1, .int .i64 x683.Den.e2, .slice p694 x683.Taps.length k696, .int .i64 x683.Factor, .int .i64 x683.Shift] 26, .box b6 [.slice (some ⟨b689, o690, none⟩) r1.Stages.length k3] 37, .box b7 [.int .i64 out5.Num, .int .i64 out5.Den] 51, .box b8 [.int .i64 0, .int .i64 0] 57, .box b345 [.int .i64 sv489.1, .int .i64 sv489.2.1] 57] [CeA b689 q687 [.int .i64 x683.Kind, .int .i64 x683.Num.e0, .int .i64 x683.Num.e1, .int .i64 x683.Num.e2, .int .i64 x683.Den.e0, .int .i64 x683.Den.e1, .int .i64 x683.Den.e2, .slice p694 x683.Taps.length k696, .int .i64 x683.Factor, .int .i64 x683.Shift]]) (by kernel_rfl) rfl (hw.drew.cs [0, 1, 2, 3, 4] [1] rfl rfl) fun hC => ?_
    have hw := hw.drew
    refine gv hs 0 rfl rfl hC (fun w hC => y_loadBA (hC.ownAt 2 rfl) rfl Try.isAgg51 Try.sizeOf51 rfl rfl) fun a hs => ?_
    refine gv hs 1 rfl rfl hC (fun w hC => y_fieldAddr (o' := 0) Try.runUnderlying37 rfl Try.sizeOf35 rfl rfl rfl) fun a hs => ?_
    refine gv hs 2 rfl rfl hC (fun w hC => y_loadB1 (hC.ownAt 1 rfl) rfl Try.isAgg35 rfl) fun a hs => ?_
    refine gm hs 3 rfl rfl rfl hC fun a hs => ?_
    refine gv hs 4 rfl rfl hC (fun w hC => y_slc Try.runUnderlying35 Try.sizeOf26 rfl ⟨_, rfl⟩ (by exact rfl) h703) fun a hs => ?_
    refine h_all (rs := [5, 10]) (by kernel_rfl) rfl ?_
    refine AllH.cons rfl ?_ ?_
    ·refine st_callR hs (response_factor_ok h707 hw.bdom (hw.bE 0 rfl)) (do_call Try.call51 rfl) trivial rfl rfl ?_
     intro v716 Sv713 w a h714 h715 hs
     subst h715
     have hw := hw.callB h714
     refine h_nx (hw.cs [0, 1, 2, 3, 4] [1] rfl rfl) fun hC => ?_
     refine h_all (rs := [6, 10]) (by kernel_rfl) rfl ?_
     refine AllH.cons rfl ?_ ?_
     ·refine st_callR hs (response_faster_ok h709 hw.bdom) (do_call Try.call53 rfl) trivial rfl rfl ?_
      intro v721 Sv718 w a h719 h720 hs
      subst h720
      have hw := hw.callB h719
      refine h_nx (hw.cs [0, 1, 2, 3, 4] [1] rfl rfl) fun hC => ?_
      refine gm hs 7 rfl rfl rfl hC fun a hs => ?_
      refine gv hs 8 rfl rfl hC (fun w hC => y_extract rfl rfl) fun a hs => ?_
      refine gv hs 9 rfl rfl hC (fun w hC => y_extract rfl rfl) fun a hs => ?_
      refine ho 10 rfl ?_
      refine w_alloc (cs := [.int .i64 0, .int .i64 0]) hs hw Try.zeroValue51 rfl rfl trivial ?_
      intro b711 a w hs hw
      refine h_nx (hw.cs [1, 2, 3, 4, 5] [1] rfl rfl) fun hC => ?_
      refine ho 11 rfl ?_
      refine w_store (m := 2) (cs' := [.int .i64 rv710.1.Num, .int .i64 rv710.1.Den]) hs hw 0 rfl rfl rfl Try.sizeOf51 rfl rfl rfl rfl trivial ?_
      intro a w hs hw
      refine h_nx (hw.cs [1, 2, 3, 4, 5] [1] rfl rfl) fun hC => ?_
      refine gv hs 12 rfl rfl hC (fun w hC => y_assign rfl) fun a hs => ?_
      refine h_done (by kernel_rfl) ?_
      exact ⟨Sv583, b711, (hs.wk rfl), (hw.ft [2, 3, 4, 5, 1, 0] [3, 2] (by decide) rfl rfl)⟩
     refine AllH.cons rfl ?_ ?_
     ·refine w_alloc (cs := [.int .i64 0, .int .i64 0]) hs hw Try.zeroValue51 rfl rfl trivial ?_
      intro b711 a w hs hw
      refine h_nx (hw.cs [1, 2, 3, 4, 5] [1] rfl rfl) fun hC => ?_
      refine ho 6 rfl ?_
      refine st_callR hs (response_faster_ok h709 hw.bdom) (do_call Try.call53 rfl) trivial rfl rfl ?_
      intro v726 Sv723 w a h724 h725 hs
      subst h725
      have hw := hw.callB h724
      refine h_nx (hw.cs [1, 2, 3, 4, 5] [1] rfl rfl) fun hC => ?_
      refine gm hs 7 rfl rfl rfl hC fun a hs => ?_
      refine gv hs 8 rfl rfl hC (fun w hC => y_extract rfl rfl) fun a hs => ?_
      refine gv hs 9 rfl rfl hC (fun w hC => y_extract rfl rfl) fun a hs => ?_
      refine ho 11 rfl ?_
      refine w_store (m := 2) (cs' := [.int .i64 rv710.1.Num, .int .i64 rv710.1.Den]) hs hw 0 rfl rfl rfl Try.sizeOf51 rfl rfl rfl rfl trivial ?_
      intro a w hs hw
      refine h_nx (hw.cs [1, 2, 3, 4, 5] [1] rfl rfl) fun hC => ?_
      refine gv hs 12 rfl rfl hC (fun w hC => y_assign rfl) fun a hs => ?_
      refine h_done (by kernel_rfl) ?_
      exact ⟨Sv583, b711, (hs.wk rfl), (hw.ft [2, 3, 4, 5, 1, 0] [3, 2] (by decide) rfl rfl)⟩
     exact AllH.nil
    refine AllH.cons rfl ?_ ?_
    ·refine w_alloc (cs := [.int .i64 0, .int .i64 0]) hs hw Try.zeroValue51 rfl rfl trivial ?_
     intro b711 a w hs hw
     refine h_nx (hw.cs [1, 2, 3, 4, 5] [1] rfl rfl) fun hC => ?_
     refine ho 5 rfl ?_
     refine st_callR hs (response_factor_ok h707 hw.bdom (hw.bE 0 rfl)) (do_call Try.call51 rfl) trivial rfl rfl ?_
     intro v731 Sv728 w a h729 h730 hs
     subst h730
     have hw := hw.callB h729
     refine h_nx (hw.cs [1, 2, 3, 4, 5] [1] rfl rfl) fun hC => ?_
     refine ho 6 rfl ?_
     refine st_callR hs (response_faster_ok h709 hw.bdom) (do_call Try.call53 rfl) trivial rfl rfl ?_
     intro v736 Sv733 w a h734 h735 hs
     subst h735
     have hw := hw.callB h734
     refine h_nx (hw.cs [1, 2, 3, 4, 5] [1] rfl rfl) fun hC => ?_
     refine gm hs 7 rfl rfl rfl hC fun a hs => ?_
     refine gv hs 8 rfl rfl hC (fun w hC => y_extract rfl rfl) fun a hs => ?_
     refine gv hs 9 rfl rfl hC (fun w hC => y_extract rfl rfl) fun a hs => ?_
     refine ho 11 rfl ?_
     refine w_store (m := 2) (cs' := [.int .i64 rv710.1.Num, .int .i64 rv710.1.Den]) hs hw 0 rfl rfl rfl Try.sizeOf51 rfl rfl rfl rfl trivial ?_
     intro a w hs hw
     refine h_nx (hw.cs [1, 2, 3, 4, 5] [1] rfl rfl) fun hC => ?_
     refine gv hs 12 rfl rfl hC (fun w hC => y_assign rfl) fun a hs => ?_
     refine h_done (by kernel_rfl) ?_
     exact ⟨Sv583, b711, (hs.wk rfl), (hw.ft [2, 3, 4, 5, 1, 0] [3, 2] (by decide) rfl rfl)⟩
    exact AllH.nil
   rintro a w ⟨Sv712, b711, hs, hw⟩
   refine then_normal ?_
   refine wp_seq ?_
   refine sr ?_
   refine mv hs rfl rfl fun a hs => ?_
   refine sv hs (y_not rfl) rfl fun a hs => ?_
   refine nl ?_
   refine wp_cond_split (hs.ev rfl) (fun h739 => ?_) (fun h739 => ?_)
   ·have hsh := ite_t hsh h739
    refine sr ?_
    refine sv hs (y_build (vs := []) Bld57 rfl rfl) rfl fun a hs => ?_
    refine w_store (m := 2) (cs' := [.int .i64 0, .int .i64 0]) hs hw 2 rfl rfl rfl Try.sizeOf57 rfl rfl rfl rfl trivial ?_
    intro a w hs hw
    refine av hs rfl rfl fun a hs => ?_
    refine nl ?_
    have hsh := oi hsh
    subst hsh
    have h740 := hd630 _ rfl
    subst h740
    refine wp_ret ?_
    refine then_ret ?_
    refine blk_ret ?_
    refine then_ret ?_
    refine then_ret ?_
    refine then_ret ?_
    refine blk_ret ?_
    refine then_ret ?_
    exact ret2 hs rfl (rv_cell hw 2 rfl rfl Try.isAgg57 Try.sizeOf57 rfl) (rv_tmp rfl) (hw.ret rfl)
   have hsh := ite_f hsh h739
   refine wp_skip ?_
   refine then_normal ?_
   refine sr ?_
   refine sv hs (y_loadBA (hw.ownAt 3 rfl) rfl Try.isAgg57 Try.sizeOf57 rfl rfl) rfl fun a hs => ?_
   refine sv hs (y_fieldAddr (o' := 7) Try.runUnderlying26 rfl Try.sizeOf24 rfl rfl rfl) rfl fun a hs => ?_
   refine sv hs (y_loadB1 (hw.ownAt 4 rfl) rfl Try.isAgg24 rfl) rfl fun a hs => ?_
   refine sv hs (y_len Try.runUnderlying24 rfl) rfl fun a hs => ?_
   refine sv hs (y_sub rfl rfl) rfl fun a hs => ?_
   refine sv hs (y_fieldAddr (o' := 1) Try.runUnderlying51 rfl Try.sizeOf3 rfl rfl rfl) rfl fun a hs => ?_
   refine sv hs (y_loadB1 (hw.ownAt 5 rfl) rfl Try.isAgg3 rfl) rfl fun a hs => ?_
   refine sv hs (y_mul rfl rfl) rfl fun a hs => ?_
   refine sv hs (y_fieldAddr (o' := 0) Try.runUnderlying51 rfl Try.sizeOf3 rfl rfl rfl) rfl fun a hs => ?_
   refine sv hs (y_loadB1 (hw.ownAt 5 rfl) rfl Try.isAgg3 rfl) rfl fun a hs => ?_
   refine sv hs (y_mul rfl rfl) rfl fun a hs => ?_
   refine sv hs (y_build (vs := [(0, .int .i64 (w64 ((w64 ((x683.Taps.length : Int) - 1)) * rv710.1.Den))), (1, .int .i64 (w64 (2 * rv710.1.Num)))]) Bld57 rfl rfl) rfl fun a hs => ?_
   obtain ⟨rv742, h741, hsh⟩ := bind_t hsh
   refine st_callR hs (response_plus_ok h741 hw.bdom) (do_call Try.call55 rfl) trivial rfl rfl ?_
   intro v746 Sv743 w a h744 h745 hs
   subst h745
   have hw := hw.callB h744
   refine w_store (m := 2) (cs' := [.int .i64 rv742.Num, .int .i64 rv742.Den]) hs hw 3 rfl rfl rfl Try.sizeOf57 rfl rfl rfl rfl trivial ?_
   intro a w hs hw
   refine nl ?_
   refine sr ?_
   refine sv hs (y_fieldAddr (o' := 0) Try.runUnderlying57 rfl Try.sizeOf3 rfl rfl rfl) rfl fun a hs => ?_
   refine sv hs (y_loadB1 (hw.ownAt 3 rfl) rfl Try.isAgg3 rfl) rfl fun a hs => ?_
   refine sv hs (y_gtr rfl rfl) rfl fun a hs => ?_
   refine mv hs rfl rfl fun a hs => ?_
   refine wpl_join 4 (fun a w1 => w = w1 ∧ Sl 89 [(2, .pointer (some ⟨b6, 0, none⟩)), (3, .pointer (some ⟨b7, 0, none⟩)), (4, .pointer (some ⟨b8, 0, none⟩)), (8, .pointer (some ⟨b345, 0, none⟩)), (42, .slice (some ⟨b689, o690, none⟩) r1.Stages.length k3), (43, .int .i64 (r1.Stages.length : Int)), (44, .int .i64 sv489.2.2), (85, .bool ((decide (1099511627776 < rv742.Num)) || (decide (1099511627776 < rv742.Den))))] a) ?_ ?_
   ·rcases Bool.eq_false_or_eq_true (decide (1099511627776 < rv742.Num)) with h748 | h748
    ·have hs := hs.fix 81 (.bool true) rfl (vb h748)
     refine st_skip hs rfl rfl rfl rfl rfl fun a hs => ?_
     refine st_skip hs rfl rfl rfl rfl rfl fun a hs => ?_
     refine st_skip hs rfl rfl rfl rfl rfl fun a hs => ?_
     refine sv hs (y_pickT rfl rfl) rfl fun a hs => ?_
     refine nl ?_
     exact ⟨rfl, (hs.fix 85 (.bool ((decide (1099511627776 < rv742.Num)) || (decide (1099511627776 < rv742.Den)))) rfl (or_t h748)).weaken _ ⟨rfl, rfl, rfl, rfl, rfl, rfl, rfl, rfl, trivial⟩⟩
    have hs := hs.fix 81 (.bool false) rfl (vb h748)
    refine st_val hs (y_fieldAddr (o' := 1) Try.runUnderlying57 rfl Try.sizeOf3 rfl rfl rfl) ⟨_, rfl, rfl⟩ rfl rfl fun a hs => ?_
    refine st_val hs (y_loadB1 (hw.ownAt 3 rfl) rfl Try.isAgg3 rfl) ⟨_, rfl, rfl⟩ rfl rfl fun a hs => ?_
    refine st_val hs (y_gtr rfl rfl) ⟨_, rfl, rfl⟩ rfl rfl fun a hs => ?_
    refine sv hs (y_pickF rfl rfl) rfl fun a hs => ?_
    refine nl ?_
    exact ⟨rfl, (hs.fix 85 (.bool ((decide (1099511627776 < rv742.Num)) || (decide (1099511627776 < rv742.Den)))) rfl (or_f h748)).weaken _ ⟨rfl, rfl, rfl, rfl, rfl, rfl, rfl, rfl, trivial⟩⟩
   rintro a w1 ⟨h752, hs⟩
   subst h752
   refine nl ?_
   refine wp_cond_split (hs.ev rfl) (fun h750 => ?_) (fun h750 => ?_)
   ·have hsh := ite_t hsh h750
    refine sr ?_
    refine sv hs (y_build (vs := []) Bld57 rfl rfl) rfl fun a hs => ?_
    refine w_store (m := 2) (cs' := [.int .i64 0, .int .i64 0]) hs hw 2 rfl rfl rfl Try.sizeOf57 rfl rfl rfl rfl trivial ?_
    intro a w hs hw
    refine av hs rfl rfl fun a hs => ?_
    refine nl ?_
    have hsh := oi hsh
    subst hsh
    have h751 := hd630 _ rfl
    subst h751
    refine wp_ret ?_
    refine blk_ret ?_
    refine then_ret ?_
    refine then_ret ?_
    refine then_ret ?_
    refine blk_ret ?_
    refine then_ret ?_
    exact ret2 hs rfl (rv_cell hw 2 rfl rfl Try.isAgg57 Try.sizeOf57 rfl) (rv_tmp rfl) (hw.ret rfl)
   have hsh := ite_f hsh h750
   refine wp_skip ?_
   refine blk_normal ?_
   refine then_normal ?_
   exact ⟨rv742.Num, rv742.Den, Sv712, hsh, (hs.wk rfl), (hw.ft [0, 1, 2, 3] [0] (by decide) rfl rfl)⟩
  rintro a w ⟨x679, x680, Sv678, hsh, hs, hw⟩
  delta response_Delay_j1 at hsh
  refine then_normal ?_
  refine wp_region_lit ?_
  refine sv hs (y_add rfl rfl) rfl fun a hs => ?_
  refine mv hs rfl rfl fun a hs => ?_
  refine nl ?_
  exact ⟨_, (Option.some.inj hsh).symm, Sv678, (hs.wk rfl), (hw.ft [0, 1, 2, 3] [0] (by decide) rfl rfl)⟩
 have hsh := ite_f hsh h635
 obtain ⟨rv753, hsh, h754⟩ := map_t hsh
 have h754 := (hd630 _ h754.symm).symm
 subst h754
 refine wp_exit ?_
 refine then_exit ?_
 refine then_exit ?_
 refine blk_exit ?_
 refine then_normal ?_
 refine sr ?_
 refine sv hs (y_loadBA (hw.ownAt 3 rfl) rfl Try.isAgg57 Try.sizeOf57 rfl rfl) rfl fun a hs => ?_
 refine w_store (m := 2) (cs' := [.int .i64 sv489.1, .int .i64 sv489.2.1]) hs hw 2 rfl rfl rfl Try.sizeOf57 rfl rfl rfl rfl trivial ?_
 intro a w hs hw
 refine av hs rfl rfl fun a hs => ?_
 refine nl ?_
 have hsh := oi hsh
 subst hsh
 refine wp_ret ?_
 exact ret2 hs rfl (rv_cell hw 2 rfl rfl Try.isAgg57 Try.sizeOf57 rfl) (rv_tmp rfl) (hw.ret rfl)

abbrev law18_sane_rd (w0 : World) (X : List Nat) (r : Bool) : (Nat → Prop) → World → Value → Prop := fun S w v => v = .bool r
set_option maxHeartbeats 4000000 in
set_option maxRecDepth 100000 in
theorem law18_sane_ok {w0 : World} {S0 : Nat → Prop} {r : Bool} (hsh : law18_sane = some r) (hS : ∀ b, S0 b → b < w0.heap.size) : Calls Try.prog 8 #[] w0 (Ret ([]) w0 S0 (law18_sane_rd w0 ([]) r)) := by
 refine calls_of_wp Try.func8 rfl ?_
 have hs := Sl.enter #[] 57 [] rfl trivial
 have hw := Wd.enter (E := []) hS (fun _ h => (by cases h))
 delta law18_sane at hsh
 refine sr ?_
 refine av hs rfl rfl fun a hs => ?_
 refine nl ?_
 refine sr ?_
 refine sv hs (y_build (vs := [(0, .int .i64 1)]) Bld23 rfl rfl) rfl fun a hs => ?_
 refine sv hs (y_build (vs := [(0, .int .i64 1), (1, .int .i64 1)]) Bld23 rfl rfl) rfl fun a hs => ?_
 refine sv hs (y_build (vs := [(0, .int .i64 1), (1, .agg #[.int .i64 1, .int .i64 0, .int .i64 0]), (2, .agg #[.int .i64 1, .int .i64 1, .int .i64 0])]) Bld26 rfl rfl) rfl fun a hs => ?_
 refine w_alloc (cs := [.int .i64 0, .int .i64 0, .int .i64 0, .int .i64 0, .int .i64 0, .int .i64 0, .int .i64 0, .slice none ([] : List Int).length 0, .int .i64 0, .int .i64 0]) hs hw Try.zeroValue26 rfl rfl trivial ?_
 intro b1 a w hs hw
 refine w_store (m := 10) (cs' := [.int .i64 1, .int .i64 1, .int .i64 0, .int .i64 0, .int .i64 1, .int .i64 1, .int .i64 0, .slice none ([] : List Int).length 0, .int .i64 0, .int .i64 0]) hs hw 0 rfl rfl rfl Try.sizeOf26 rfl rfl rfl rfl trivial ?_
 intro a w hs hw
 refine nl ?_
 refine sr ?_
 refine sv hs (y_loadBA (hw.ownAt 0 rfl) rfl Try.isAgg26 Try.sizeOf26 rfl rfl) rfl fun a hs => ?_
 have hw := hw.addE (e := SlA (α := Int) none 0 0 []) nil_sl
 refine w_litSlice (α := Stage) (vs := [.agg #[.int .i64 1, .int .i64 1, .int .i64 0, .int .i64 0, .int .i64 1, .int .i64 1, .int .i64 0, .slice none ([] : List Int).length 0, .int .i64 0, .int .i64 0]]) (cs := [.int .i64 1, .int .i64 1, .int .i64 0, .int .i64 0, .int .i64 1, .int .i64 1, .int .i64 0, .slice none ([] : List Int).length 0, .int .i64 0, .int .i64 0]) (xs := ([(⟨1, (⟨1, 0, 0⟩ : (Arr3 Int)), (⟨1, 1, 0⟩ : (Arr3 Int)), ([] : List Int), 0, 0⟩ : Stage)] : List Stage)) hs hw El35 rfl rfl rfl rfl rfl rfl ⟨⟨_, _, _, _, _, _, _, _, _, _, rfl, rfl, rfl, rfl, rfl, rfl, rfl, rfl, ⟨_, _, _, rfl, hw.envAt 0 rfl⟩, rfl, rfl⟩, rfl⟩ rfl trivial rfl fun b3 a w hs hw => ?_
 refine sv hs (y_build (vs := [(0, .slice (some ⟨b3, 0, none⟩) ([(⟨1, (⟨1, 0, 0⟩ : (Arr3 Int)), (⟨1, 1, 0⟩ : (Arr3 Int)), ([] : List Int), 0, 0⟩ : Stage)] : List Stage).length ([(⟨1, (⟨1, 0, 0⟩ : (Arr3 Int)), (⟨1, 1, 0⟩ : (Arr3 Int)), ([] : List Int), 0, 0⟩ : Stage)] : List Stage).length)]) Bld37 rfl rfl) rfl fun a hs => ?_
 obtain ⟨rv5, h4, hsh⟩ := bind_t hsh
 obtain ⟨Sv12, hw⟩ := w_share (α := Stage) hw 0 rfl 0 rfl
 refine st_callR hs (response_Gain_ok h4 hw.dom (hw.envAt 0 rfl)) (do_call Try.call10 rfl) trivial rfl rfl ?_
 intro v16 Sv13 w a h14 h15 hs
 obtain ⟨p6, k7, p9, k10, rfl, h8, h11⟩ := h15
 have hw := hw.call h14
 have hw := hw.addE (e := SlA p6 rv5.1.Num.length k7 rv5.1.Num) h8
 have hw := hw.addE (e := SlA p9 rv5.1.Den.length k10 rv5.1.Den) h11
 refine mv hs rfl rfl fun a hs => ?_
 refine sv hs (y_extract rfl rfl) rfl fun a hs => ?_
 refine sv hs (y_extract rfl rfl) rfl fun a hs => ?_
 refine w_alloc (cs := [.slice none ([] : List Int).length 0, .slice none ([] : List Int).length 0]) hs hw Try.zeroValue31 rfl rfl trivial ?_
 intro b18 a w hs hw
 refine w_store (m := 2) (cs' := [.slice p6 rv5.1.Num.length k7, .slice p9 rv5.1.Den.length k10]) hs hw 0 rfl rfl rfl Try.sizeOf31 rfl rfl rfl rfl trivial ?_
 intro a w hs hw
 refine av hs rfl rfl fun a hs => ?_
 refine nl ?_
 refine sr ?_
 refine sv hs (y_loadBA (hw.ownAt 0 rfl) rfl Try.isAgg31 Try.sizeOf31 rfl rfl) rfl fun a hs => ?_
 refine w_litSlice (α := Int) (vs := [.int .i64 1]) (cs := [.int .i64 1]) (xs := ([1] : List Int)) hs hw El29 rfl rfl rfl rfl rfl rfl ⟨⟨_, rfl, rfl⟩, rfl⟩ rfl trivial rfl fun b20 a w hs hw => ?_
 refine w_litSlice (α := Int) (vs := [.int .i64 2]) (cs := [.int .i64 2]) (xs := ([2] : List Int)) hs hw El29 rfl rfl rfl rfl rfl rfl ⟨⟨_, rfl, rfl⟩, rfl⟩ rfl trivial rfl fun b22 a w hs hw => ?_
 refine sv hs (y_build (vs := [(0, .slice (some ⟨b20, 0, none⟩) ([1] : List Int).length ([1] : List Int).length), (1, .slice (some ⟨b22, 0, none⟩) ([2] : List Int).length ([2] : List Int).length)]) Bld31 rfl rfl) rfl fun a hs => ?_
 obtain ⟨rv24, h23, hsh⟩ := bind_t hsh
 refine st_callR hs (ref17_Equal_ok h23 hw.bdom (hw.bE 3 rfl) (hw.bE 2 rfl) (hw.bRow 1 rfl 1 rfl) (hw.bRow 0 rfl 0 rfl)) (do_call Try.call11 rfl) trivial rfl rfl ?_
 intro v28 Sv25 w a h26 h27 hs
 subst h27
 have hw := hw.callB h26
 refine mv hs rfl rfl fun a hs => ?_
 refine sv hs (y_extract rfl rfl) rfl fun a hs => ?_
 refine sv hs (y_extract rfl rfl) rfl fun a hs => ?_
 refine av hs rfl rfl fun a hs => ?_
 refine av hs rfl rfl fun a hs => ?_
 refine nl ?_
 refine sr ?_
 refine w_litSlice (α := Int) (vs := [.int .i64 1, .int .i64 2, .int .i64 1]) (cs := [.int .i64 1, .int .i64 2, .int .i64 1]) (xs := ([1, 2, 1] : List Int)) hs hw El24 rfl rfl rfl rfl rfl rfl ⟨⟨_, rfl, rfl⟩, ⟨⟨_, rfl, rfl⟩, ⟨⟨_, rfl, rfl⟩, rfl⟩⟩⟩ rfl trivial rfl fun b31 a w hs hw => ?_
 refine sv hs (y_build (vs := [(0, .int .i64 2), (3, .slice (some ⟨b31, 0, none⟩) ([1, 2, 1] : List Int).length ([1, 2, 1] : List Int).length), (4, .int .i64 1), (5, .int .i64 2)]) Bld26 rfl rfl) rfl fun a hs => ?_
 obtain ⟨Sv34, hw⟩ := w_share (α := Int) hw 0 rfl 0 rfl
 refine w_litSlice (α := Stage) (vs := [.agg #[.int .i64 2, .int .i64 0, .int .i64 0, .int .i64 0, .int .i64 0, .int .i64 0, .int .i64 0, .slice (some ⟨b31, 0, none⟩) ([1, 2, 1] : List Int).length ([1, 2, 1] : List Int).length, .int .i64 1, .int .i64 2]]) (cs := [.int .i64 2, .int .i64 0, .int .i64 0, .int .i64 0, .int .i64 0, .int .i64 0, .int .i64 0, .slice (some ⟨b31, 0, none⟩) ([1, 2, 1] : List Int).length ([1, 2, 1] : List Int).length, .int .i64 1, .int .i64 2]) (xs := ([(⟨2, (⟨0, 0, 0⟩ : (Arr3 Int)), (⟨0, 0, 0⟩ : (Arr3 Int)), ([1, 2, 1] : List Int), 1, 2⟩ : Stage)] : List Stage)) hs hw El35 rfl rfl rfl rfl rfl rfl ⟨⟨_, _, _, _, _, _, _, _, _, _, rfl, rfl, rfl, rfl, rfl, rfl, rfl, rfl, ⟨_, _, _, rfl, hw.envAt 0 rfl⟩, rfl, rfl⟩, rfl⟩ rfl trivial rfl fun b33 a w hs hw => ?_
 refine sv hs (y_build (vs := [(0, .slice (some ⟨b33, 0, none⟩) ([(⟨2, (⟨0, 0, 0⟩ : (Arr3 Int)), (⟨0, 0, 0⟩ : (Arr3 Int)), ([1, 2, 1] : List Int), 1, 2⟩ : Stage)] : List Stage).length ([(⟨2, (⟨0, 0, 0⟩ : (Arr3 Int)), (⟨0, 0, 0⟩ : (Arr3 Int)), ([1, 2, 1] : List Int), 1, 2⟩ : Stage)] : List Stage).length)]) Bld37 rfl rfl) rfl fun a hs => ?_
 refine sv hs (y_build (vs := [(0, .int .i64 100), (1, .int .i64 1)]) Bld51 rfl rfl) rfl fun a hs => ?_
 obtain ⟨rv36, h35, hsh⟩ := bind_t hsh
 refine st_callR hs (response_Delay_ok h35 hw.bdom (hw.bRow 0 rfl 0 rfl)) (do_call Try.call20 rfl) trivial rfl rfl ?_
 intro v40 Sv37 w a h38 h39 hs
 subst h39
 have hw := hw.callB h38
 refine mv hs rfl rfl fun a hs => ?_
 refine sv hs (y_extract rfl rfl) rfl fun a hs => ?_
 refine sv hs (y_extract rfl rfl) rfl fun a hs => ?_
 refine w_alloc (cs := [.int .i64 0, .int .i64 0]) hs hw Try.zeroValue57 rfl rfl trivial ?_
 intro b42 a w hs hw
 refine w_store (m := 2) (cs' := [.int .i64 rv36.1.Num, .int .i64 rv36.1.Den]) hs hw 0 rfl rfl rfl Try.sizeOf57 rfl rfl rfl rfl trivial ?_
 intro a w hs hw
 refine av hs rfl rfl fun a hs => ?_
 refine nl ?_
 refine sr ?_
 refine mv hs rfl rfl fun a hs => ?_
 refine sv hs (y_eql rfl rfl) rfl fun a hs => ?_
 refine mv hs rfl rfl fun a hs => ?_
 refine wpl_join 3 (fun a w1 => w = w1 ∧ Sl 57 [(1, .pointer (some ⟨b1, 0, none⟩)), (4, .bool rv24.1), (6, .pointer (some ⟨b42, 0, none⟩)), (7, .int .i64 rv36.2), (40, .bool ((rv5.2 == 0) && (rv24.2 == 0)))] a) ?_ ?_
 ·rcases Bool.eq_false_or_eq_true (rv5.2 == 0) with h43 | h43
  ·have hs := hs.fix 37 (.bool true) rfl (vb h43)
   refine st_val hs (y_move rfl) ⟨_, rfl, rfl⟩ rfl rfl fun a hs => ?_
   refine st_val hs (y_eql rfl rfl) ⟨_, rfl, rfl⟩ rfl rfl fun a hs => ?_
   refine sv hs (y_pickT rfl rfl) rfl fun a hs => ?_
   refine nl ?_
   exact ⟨rfl, (hs.fix 40 (.bool ((rv5.2 == 0) && (rv24.2 == 0))) rfl (and_t h43)).weaken _ ⟨rfl, rfl, rfl, rfl, rfl, trivial⟩⟩
  have hs := hs.fix 37 (.bool false) rfl (vb h43)
  refine st_skip hs rfl rfl rfl rfl rfl fun a hs => ?_
  refine st_skip hs rfl rfl rfl rfl rfl fun a hs => ?_
  refine sv hs (y_pickF rfl rfl) rfl fun a hs => ?_
  refine nl ?_
  exact ⟨rfl, (hs.fix 40 (.bool ((rv5.2 == 0) && (rv24.2 == 0))) rfl (and_f h43)).weaken _ ⟨rfl, rfl, rfl, rfl, rfl, trivial⟩⟩
 rintro a w1 ⟨h67, hs⟩
 subst h67
 refine mv hs rfl rfl fun a hs => ?_
 refine wpl_join 3 (fun a w1 => w = w1 ∧ Sl 57 [(1, .pointer (some ⟨b1, 0, none⟩)), (4, .bool rv24.1), (6, .pointer (some ⟨b42, 0, none⟩)), (44, .bool (((rv5.2 == 0) && (rv24.2 == 0)) && (rv36.2 == 0)))] a) ?_ ?_
 ·rcases Bool.eq_false_or_eq_true ((rv5.2 == 0) && (rv24.2 == 0)) with h44 | h44
  ·have hs := hs.fix 41 (.bool true) rfl (vb h44)
   refine st_val hs (y_move rfl) ⟨_, rfl, rfl⟩ rfl rfl fun a hs => ?_
   refine st_val hs (y_eql rfl rfl) ⟨_, rfl, rfl⟩ rfl rfl fun a hs => ?_
   refine sv hs (y_pickT rfl rfl) rfl fun a hs => ?_
   refine nl ?_
   exact ⟨rfl, (hs.fix 44 (.bool (((rv5.2 == 0) && (rv24.2 == 0)) && (rv36.2 == 0))) rfl (and_t h44)).weaken _ ⟨rfl, rfl, rfl, rfl, trivial⟩⟩
  have hs := hs.fix 41 (.bool false) rfl (vb h44)
  refine st_skip hs rfl rfl rfl rfl rfl fun a hs => ?_
  refine st_skip hs rfl rfl rfl rfl rfl fun a hs => ?_
  refine sv hs (y_pickF rfl rfl) rfl fun a hs => ?_
  refine nl ?_
  exact ⟨rfl, (hs.fix 44 (.bool (((rv5.2 == 0) && (rv24.2 == 0)) && (rv36.2 == 0))) rfl (and_f h44)).weaken _ ⟨rfl, rfl, rfl, rfl, trivial⟩⟩
 rintro a w1 ⟨h66, hs⟩
 subst h66
 refine mv hs rfl rfl fun a hs => ?_
 refine wpl_join 2 (fun a w1 => w = w1 ∧ Sl 57 [(1, .pointer (some ⟨b1, 0, none⟩)), (6, .pointer (some ⟨b42, 0, none⟩)), (47, .bool ((((rv5.2 == 0) && (rv24.2 == 0)) && (rv36.2 == 0)) && rv24.1))] a) ?_ ?_
 ·rcases Bool.eq_false_or_eq_true (((rv5.2 == 0) && (rv24.2 == 0)) && (rv36.2 == 0)) with h45 | h45
  ·have hs := hs.fix 45 (.bool true) rfl (vb h45)
   refine st_val hs (y_move rfl) ⟨_, rfl, rfl⟩ rfl rfl fun a hs => ?_
   refine sv hs (y_pickT rfl rfl) rfl fun a hs => ?_
   refine nl ?_
   exact ⟨rfl, (hs.fix 47 (.bool ((((rv5.2 == 0) && (rv24.2 == 0)) && (rv36.2 == 0)) && rv24.1)) rfl (and_t h45)).weaken _ ⟨rfl, rfl, rfl, trivial⟩⟩
  have hs := hs.fix 45 (.bool false) rfl (vb h45)
  refine st_skip hs rfl rfl rfl rfl rfl fun a hs => ?_
  refine sv hs (y_pickF rfl rfl) rfl fun a hs => ?_
  refine nl ?_
  exact ⟨rfl, (hs.fix 47 (.bool ((((rv5.2 == 0) && (rv24.2 == 0)) && (rv36.2 == 0)) && rv24.1)) rfl (and_f h45)).weaken _ ⟨rfl, rfl, rfl, trivial⟩⟩
 rintro a w1 ⟨h65, hs⟩
 subst h65
 refine mv hs rfl rfl fun a hs => ?_
 refine wpl_join 4 (fun a w1 => w = w1 ∧ Sl 57 [(1, .pointer (some ⟨b1, 0, none⟩)), (52, .bool (((((rv5.2 == 0) && (rv24.2 == 0)) && (rv36.2 == 0)) && rv24.1) && ((rv36.1.Num == 1) && ((rv36.1.Den == 100) && true))))] a) ?_ ?_
 ·rcases Bool.eq_false_or_eq_true ((((rv5.2 == 0) && (rv24.2 == 0)) && (rv36.2 == 0)) && rv24.1) with h46 | h46
  ·have hs := hs.fix 48 (.bool true) rfl (vb h46)
   refine st_val hs (y_loadBA (hw.ownAt 0 rfl) rfl Try.isAgg57 Try.sizeOf57 rfl rfl) ⟨_, rfl, rfl⟩ rfl rfl fun a hs => ?_
   refine st_val hs (y_build (vs := [(0, .int .i64 1), (1, .int .i64 100)]) Bld57 rfl rfl) ⟨_, rfl, rfl⟩ rfl rfl fun a hs => ?_
   refine st_val hs (y_eqlA (by kernel_rfl) rfl rfl (eqv_struct Try.runUnderlying57 (by kernel_rfl) (EqF.cons1 rfl Try.isAgg3 rfl rfl (eqv_int Try.runUnderlying3) (EqF.cons1 rfl Try.isAgg3 rfl rfl (eqv_int Try.runUnderlying3) EqF.nil)))) ⟨_, rfl, rfl⟩ rfl rfl fun a hs => ?_
   refine sv hs (y_pickT rfl rfl) rfl fun a hs => ?_
   refine nl ?_
   exact ⟨rfl, (hs.fix 52 (.bool (((((rv5.2 == 0) && (rv24.2 == 0)) && (rv36.2 == 0)) && rv24.1) && ((rv36.1.Num == 1) && ((rv36.1.Den == 100) && true)))) rfl (and_t h46)).weaken _ ⟨rfl, rfl, trivial⟩⟩
  have hs := hs.fix 48 (.bool false) rfl (vb h46)
  refine st_skip hs rfl rfl rfl rfl rfl fun a hs => ?_
  refine st_skip hs rfl rfl rfl rfl rfl fun a hs => ?_
  refine st_skip hs rfl rfl rfl rfl rfl fun a hs => ?_
  refine sv hs (y_pickF rfl rfl) rfl fun a hs => ?_
  refine nl ?_
  exact ⟨rfl, (hs.fix 52 (.bool (((((rv5.2 == 0) && (rv24.2 == 0)) && (rv36.2 == 0)) && rv24.1) && ((rv36.1.Num == 1) && ((rv36.1.Den == 100) && true)))) rfl (and_f h46)).weaken _ ⟨rfl, rfl, trivial⟩⟩
 rintro a w1 ⟨h64, hs⟩
 subst h64
 refine mv hs rfl rfl fun a hs => ?_
 obtain ⟨c55, hc55, hsh⟩ := bind_t hsh
 refine wpl_join 3 (fun a w => ∃ (Sv56 : Nat → Prop), Sl 57 [(56, .bool c55)] a ∧ Wd ⟨w0, S0, []⟩ Sv56 [] [] w) ?_ ?_
 ·rcases Bool.eq_false_or_eq_true (((((rv5.2 == 0) && (rv24.2 == 0)) && (rv36.2 == 0)) && rv24.1) && ((rv36.1.Num == 1) && ((rv36.1.Den == 100) && true))) with h54 | h54
  ·have hs := hs.fix 53 (.bool true) rfl (vb h54)
   have hsh := ite_t hc55 h54
   refine st_val hs (y_loadBA (hw.ownAt 5 rfl) rfl Try.isAgg26 Try.sizeOf26 rfl rfl) ⟨_, rfl, rfl⟩ rfl rfl fun a hs => ?_
   obtain ⟨rv58, h57, hsh⟩ := bind_t hsh
   refine st_callR hs (response_ValidStage_ok h57 hw.bdom (hw.bE 9 rfl)) (do_call Try.call7 rfl) ⟨_, rfl, rfl⟩ rfl rfl ?_
   intro v62 Sv59 w a h60 h61 hs
   subst h61
   have hw := hw.callB h60
   refine sv hs (y_pickT rfl rfl) rfl fun a hs => ?_
   refine wpList_nil ?_
   have hsh := oi hsh
   subst hsh
   refine then_normal ?_
   exact ⟨Sv34, (hs.wk rfl), (hw.ft [] [] (by decide) rfl rfl)⟩
  have hs := hs.fix 53 (.bool false) rfl (vb h54)
  have hsh := ite_f hc55 h54
  refine st_skip hs rfl rfl rfl rfl rfl fun a hs => ?_
  refine st_skip hs rfl rfl rfl rfl rfl fun a hs => ?_
  refine sv hs (y_pickF rfl rfl) rfl fun a hs => ?_
  refine wpList_nil ?_
  have hsh := oi hsh
  subst hsh
  refine then_normal ?_
  exact ⟨Sv34, (hs.wk rfl), (hw.ft [] [] (by decide) rfl rfl)⟩
 rintro a w ⟨Sv56, hs, hw⟩
 refine av hs rfl rfl fun a hs => ?_
 refine nl ?_
 have hsh := oi hsh
 subst hsh
 refine wp_ret ?_
 exact ret1 hs rfl (rv_tmp rfl) (hw.ret rfl)

abbrev made_Roll_rd (w0 : World) (X : List Nat) (r : Dice) : (Nat → Prop) → World → Value → Prop := fun S w v => ∃ (b_0 : Nat) (p0_0 : Option Addr) (k0_0 : Nat), v = .pointer (some ⟨b_0, 0, none⟩) ∧ Outs X w0 S w [.box b_0 [.slice p0_0 r.L.length k0_0, .int .i64 r.At] 84] ∧ (SlA p0_0 r.L.length k0_0 r.L).p S w
set_option maxHeartbeats 4000000 in
set_option maxRecDepth 100000 in
theorem made_Roll_ok {w0 : World} {S0 : Nat → Prop} {p2 : Option Addr} {k3 : Nat} {l1 : (List Int)} {r : Dice} (hsh : made_Roll l1 = some r) (hS : ∀ b, S0 b → b < w0.heap.size) (h4 : (SlA p2 l1.length k3 l1).p S0 w0) : Calls Try.prog 14 #[.slice p2 l1.length k3] w0 (Ret ([]) w0 S0 (made_Roll_rd w0 ([]) r)) := by
 refine calls_of_wp Try.func14 rfl ?_
 have hs := Sl.enter #[.slice p2 l1.length k3] 6 [(0, .slice p2 l1.length k3)] rfl ⟨rfl, trivial⟩
 have hw := Wd.enter (E := []) hS (fun _ h => (by cases h))
 have hw := hw.addE h4
 delta made_Roll at hsh
 refine sr ?_
 refine av hs rfl rfl fun a hs => ?_
 refine nl ?_
 refine sr ?_
 refine mv hs rfl rfl fun a hs => ?_
 refine sv hs (y_build (vs := [(0, .slice p2 l1.length k3)]) Bld84 rfl rfl) rfl fun a hs => ?_
 refine w_box (cs := [.slice p2 l1.length k3, .int .i64 0]) hs hw rfl rfl rfl trivial ?_
 intro b5 a w hs hw
 refine av hs rfl rfl fun a hs => ?_
 refine nl ?_
 have hsh := oi hsh
 subst hsh
 refine wp_ret ?_
 exact ret1 hs rfl (rv_tmp rfl) (hw.ret ⟨b5, p2, k3, rfl, (hw.outs [0] (by decide) rfl), (hw.envAt 0 rfl)⟩)

abbrev made_Dice_Next_rd (w0 : World) (X : List Nat) (b2 : Nat) (r : (Int × Dice)) : (Nat → Prop) → World → Value → Prop := fun S w v => ∃ (pq0_0 : Option Addr) (kq0_0 : Nat), v = .int .i64 r.1 ∧ Outs X w0 S w [.box b2 [.slice pq0_0 r.2.L.length kq0_0, .int .i64 r.2.At] 84] ∧ (SlA pq0_0 r.2.L.length kq0_0 r.2.L).p S w
set_option maxHeartbeats 4000000 in
set_option maxRecDepth 100000 in
theorem made_Dice_Next_ok {w0 : World} {S0 : Nat → Prop} {b2 : Nat} {p3 : Option Addr} {k4 : Nat} {d1 : Dice} {n6 : Int} {r : (Int × Dice)} (hsh : made_Dice_Next d1 n6 = some r) (hS : ∀ b, S0 b → b < w0.heap.size) (hin : Ins S0 w0 [.box b2 [.slice p3 d1.L.length k4, .int .i64 d1.At] 84]) (h5 : (SlA p3 d1.L.length k4 d1.L).p S0 w0) : Calls Try.prog 24 #[.pointer (some ⟨b2, 0, none⟩), .int .i64 n6] w0 (Ret (blks [.box b2 [.slice p3 d1.L.length k4, .int .i64 d1.At] 84]) w0 S0 (made_Dice_Next_rd w0 (blks [.box b2 [.slice p3 d1.L.length k4, .int .i64 d1.At] 84]) b2 r)) := by
 refine calls_of_wp Try.func24 rfl ?_
 have hs := Sl.enter #[.pointer (some ⟨b2, 0, none⟩), .int .i64 n6] 45 [(0, .pointer (some ⟨b2, 0, none⟩)), (1, .int .i64 n6)] rfl ⟨rfl, rfl, trivial⟩
 have hw := Wd.enterI hS hin
 have hw := hw.addE h5
 delta made_Dice_Next at hsh
 refine sr ?_
 refine av hs rfl rfl fun a hs => ?_
 refine nl ?_
 refine wp_seq ?_
 refine wp_seq ?_
 refine wp_only (fun a w => ∃ (Sv7 : Nat → Prop), Sl 45 [(0, .pointer (some ⟨b2, 0, none⟩)), (1, .int .i64 n6), (19, .bool ((decide ((d1.L.length : Int) ≤ d1.At)) || (decide (n6 < 1))))] a ∧ Wd ⟨w0, S0, blks [.box b2 [.slice p3 d1.L.length k4, .int .i64 d1.At] 84]⟩ Sv7 [.box b2 [.slice p3 d1.L.length k4, .int .i64 d1.At] 84] [SlA p3 d1.L.length k4 d1.L] w) ?_ ?_
 ·rcases Bool.eq_false_or_eq_true (decide ((d1.L.length : Int) ≤ d1.At)) with h8 | h8
  ·refine h_b (C := Cls [.box b2 [.slice p3 d1.L.length k4, .int .i64 d1.At] 84] []) (by kernel_rfl) rfl (hw.drew.cs [0] [] rfl rfl) fun hC => ?_
   have hw := hw.drew
   refine gm hs 0 rfl rfl rfl hC fun a hs => ?_
   refine gv hs 1 rfl rfl hC (fun w hC => y_nilCheck rfl) fun a hs => ?_
   refine gv hs 2 rfl rfl hC (fun w hC => y_fieldAddr (o' := 1) Try.runUnderlying84 rfl Try.sizeOf3 rfl rfl rfl) fun a hs => ?_
   refine gv hs 3 rfl rfl hC (fun w hC => y_loadB1 (hC.ownAt 0 rfl) rfl Try.isAgg3 rfl) fun a hs => ?_
   refine gm hs 4 rfl rfl rfl hC fun a hs => ?_
   refine gv hs 5 rfl rfl hC (fun w hC => y_nilCheck rfl) fun a hs => ?_
   refine gv hs 6 rfl rfl hC (fun w hC => y_fieldAddr (o' := 0) Try.runUnderlying84 rfl Try.sizeOf24 rfl rfl rfl) fun a hs => ?_
   refine gv hs 7 rfl rfl hC (fun w hC => y_loadB1 (hC.ownAt 0 rfl) rfl Try.isAgg24 rfl) fun a hs => ?_
   refine gv hs 8 rfl rfl hC (fun w hC => y_len Try.runUnderlying24 rfl) fun a hs => ?_
   refine gv hs 9 rfl rfl hC (fun w hC => y_geq rfl rfl) fun a hs => ?_
   refine gm hs 10 rfl rfl rfl hC fun a hs => ?_
   have hs := hs.fix 16 (.bool true) rfl (vb h8)
   refine gs hs 11 rfl rfl rfl rfl hC fun a hs => ?_
   refine gs hs 12 rfl rfl rfl rfl hC fun a hs => ?_
   refine gv hs 13 rfl rfl hC (fun w hC => y_pickTE (v := .bool ((decide ((d1.L.length : Int) ≤ d1.At)) || (decide (n6 < 1)))) rfl rfl (or_t h8)) fun a hs => ?_
   refine h_done (by kernel_rfl) ?_
   exact ⟨S0, (hs.wk rfl), (hw.ft [0] [0] (by decide) rfl rfl)⟩
  refine h_b (C := Cls [.box b2 [.slice p3 d1.L.length k4, .int .i64 d1.At] 84] []) (by kernel_rfl) rfl (hw.drew.cs [0] [] rfl rfl) fun hC => ?_
  have hw := hw.drew
  refine gm hs 0 rfl rfl rfl hC fun a hs => ?_
  refine gv hs 1 rfl rfl hC (fun w hC => y_nilCheck rfl) fun a hs => ?_
  refine gv hs 2 rfl rfl hC (fun w hC => y_fieldAddr (o' := 1) Try.runUnderlying84 rfl Try.sizeOf3 rfl rfl rfl) fun a hs => ?_
  refine gv hs 3 rfl rfl hC (fun w hC => y_loadB1 (hC.ownAt 0 rfl) rfl Try.isAgg3 rfl) fun a hs => ?_
  refine gm hs 4 rfl rfl rfl hC fun a hs => ?_
  refine gv hs 5 rfl rfl hC (fun w hC => y_nilCheck rfl) fun a hs => ?_
  refine gv hs 6 rfl rfl hC (fun w hC => y_fieldAddr (o' := 0) Try.runUnderlying84 rfl Try.sizeOf24 rfl rfl rfl) fun a hs => ?_
  refine gv hs 7 rfl rfl hC (fun w hC => y_loadB1 (hC.ownAt 0 rfl) rfl Try.isAgg24 rfl) fun a hs => ?_
  refine gv hs 8 rfl rfl hC (fun w hC => y_len Try.runUnderlying24 rfl) fun a hs => ?_
  refine gv hs 9 rfl rfl hC (fun w hC => y_geq rfl rfl) fun a hs => ?_
  refine gm hs 10 rfl rfl rfl hC fun a hs => ?_
  have hs := hs.fix 16 (.bool false) rfl (vb h8)
  refine gt hs 11 rfl ⟨_, rfl, rfl⟩ rfl hC (fun w hC => y_move rfl) fun a hs => ?_
  refine gt hs 12 rfl ⟨_, rfl, rfl⟩ rfl hC (fun w hC => y_lss rfl rfl) fun a hs => ?_
  refine gv hs 13 rfl rfl hC (fun w hC => y_pickFE (v := .bool ((decide ((d1.L.length : Int) ≤ d1.At)) || (decide (n6 < 1)))) rfl rfl (or_f h8)) fun a hs => ?_
  refine h_done (by kernel_rfl) ?_
  exact ⟨S0, (hs.wk rfl), (hw.ft [0] [0] (by decide) rfl rfl)⟩
 rintro a w ⟨Sv7, hs, hw⟩
 refine then_normal ?_
 refine wp_cond_split (hs.ev rfl) (fun h12 => ?_) (fun h12 => ?_)
 ·have hsh := ite_t hsh h12
  refine sr ?_
  refine av hs rfl rfl fun a hs => ?_
  refine nl ?_
  have hsh := oi hsh
  subst hsh
  refine wp_ret ?_
  refine then_ret ?_
  exact ret1 hs rfl (rv_tmp rfl) (hw.ret ⟨p3, k4, rfl, (hw.outs [0] (by decide) rfl), (hw.envAt 0 rfl)⟩)
 have hsh := ite_f hsh h12
 refine wp_skip ?_
 refine then_normal ?_
 refine wp_seq ?_
 obtain ⟨x15, h13, hsh⟩ := bind_t hsh
 obtain ⟨b21, o22, q19, c20, h23, h16, h17, h18, h14⟩ := hw.elemV 0 rfl h13
 have hsv24 := hs
 have hwv25 := hw
 subst h23
 have hs := hsv24
 have hw := hwv25
 obtain ⟨_, rfl, rfl⟩ := h14
 have hw := hw.addE h18
 obtain ⟨rem27, h26, hsh⟩ := bind_t hsh
 refine wp_only (fun a w => ∃ (Sv28 : Nat → Prop), Sl 45 [(0, .pointer (some ⟨b2, 0, none⟩)), (1, .int .i64 n6), (5, .int .i64 rem27)] a ∧ Wd ⟨w0, S0, blks [.box b2 [.slice (some ⟨b21, o22, none⟩) d1.L.length k4, .int .i64 d1.At] 84]⟩ Sv28 [.box b2 [.slice (some ⟨b21, o22, none⟩) d1.L.length k4, .int .i64 d1.At] 84] [SlA (some ⟨b21, o22, none⟩) d1.L.length k4 d1.L] w) ?_ ?_
 ·refine h_b (C := Cls [.box b2 [.slice (some ⟨b21, o22, none⟩) d1.L.length k4, .int .i64 d1.At] 84] [CeA b21 q19 [.int .i64 x15]]) (by kernel_rfl) rfl (hw.drew.cs [0] [0] rfl rfl) fun hC => ?_
  have hw := hw.drew
  refine gm hs 0 rfl rfl rfl hC fun a hs => ?_
  refine gv hs 1 rfl rfl hC (fun w hC => y_nilCheck rfl) fun a hs => ?_
  refine gv hs 2 rfl rfl hC (fun w hC => y_fieldAddr (o' := 0) Try.runUnderlying84 rfl Try.sizeOf24 rfl rfl rfl) fun a hs => ?_
  refine gv hs 3 rfl rfl hC (fun w hC => y_loadB1 (hC.ownAt 0 rfl) rfl Try.isAgg24 rfl) fun a hs => ?_
  refine gm hs 4 rfl rfl rfl hC fun a hs => ?_
  refine gv hs 5 rfl rfl hC (fun w hC => y_nilCheck rfl) fun a hs => ?_
  refine gv hs 6 rfl rfl hC (fun w hC => y_fieldAddr (o' := 1) Try.runUnderlying84 rfl Try.sizeOf3 rfl rfl rfl) fun a hs => ?_
  refine gv hs 7 rfl rfl hC (fun w hC => y_loadB1 (hC.ownAt 0 rfl) rfl Try.isAgg3 rfl) fun a hs => ?_
  refine gv hs 8 rfl rfl hC (fun w hC => y_indexAt Try.runUnderlying24 Try.sizeOf3 rfl rfl h16.1 h16.2 h17) fun a hs => ?_
  refine gv hs 9 rfl rfl hC (fun w hC => y_loadE1 (j := 0) (hC.ceAt 0 rfl) rfl Try.isAgg3 rfl) fun a hs => ?_
  refine gm hs 10 rfl rfl rfl hC fun a hs => ?_
  refine gv hs 11 rfl rfl hC (fun w hC => y_remM rfl rfl h26) fun a hs => ?_
  refine gv hs 12 rfl rfl hC (fun w hC => y_assign rfl) fun a hs => ?_
  refine h_done (by kernel_rfl) ?_
  exact ⟨Sv7, (hs.wk rfl), (hw.ft [0] [1] (by decide) rfl rfl)⟩
 rintro a w ⟨Sv28, hs, hw⟩
 refine then_normal ?_
 refine sr ?_
 refine mv hs rfl rfl fun a hs => ?_
 refine sv hs (y_nilCheck rfl) rfl fun a hs => ?_
 refine sv hs (y_fieldAddr (o' := 1) Try.runUnderlying84 rfl Try.sizeOf3 rfl rfl rfl) rfl fun a hs => ?_
 refine sv hs (y_loadB1 (hw.ownAt 0 rfl) rfl Try.isAgg3 rfl) rfl fun a hs => ?_
 refine sv hs (y_add rfl rfl) rfl fun a hs => ?_
 refine sv hs (y_nilCheck rfl) rfl fun a hs => ?_
 refine sv hs (y_fieldAddr (o' := 1) Try.runUnderlying84 rfl Try.sizeOf3 rfl rfl rfl) rfl fun a hs => ?_
 refine w_store (m := 1) (cs' := [.slice (some ⟨b21, o22, none⟩) d1.L.length k4, .int .i64 (w64 (d1.At + 1))]) hs hw 0 rfl rfl rfl Try.sizeOf3 rfl rfl rfl rfl trivial ?_
 intro a w hs hw
 refine nl ?_
 refine wp_seq ?_
 refine sr ?_
 refine mv hs rfl rfl fun a hs => ?_
 refine sv hs (y_lss rfl rfl) rfl fun a hs => ?_
 refine nl ?_
 refine wp_join (fun a w => ∃ (x33 : Int) (Sv32 : Nat → Prop), made_Dice_Next_j1 d1 x33 = some r ∧ Sl 45 [(5, .int .i64 x33)] a ∧ Wd ⟨w0, S0, blks [.box b2 [.slice (some ⟨b21, o22, none⟩) d1.L.length k4, .int .i64 d1.At] 84]⟩ Sv32 [.box b2 [.slice (some ⟨b21, o22, none⟩) d1.L.length k4, .int .i64 (w64 (d1.At + 1))] 84] [SlA (some ⟨b21, o22, none⟩) d1.L.length k4 d1.L] w) ?_ ?_
 ·refine wp_cond_split (hs.ev rfl) (fun h34 => ?_) (fun h34 => ?_)
  ·have hsh := ite_t hsh h34
   refine wp_region_lit ?_
   refine mv hs rfl rfl fun a hs => ?_
   refine mv hs rfl rfl fun a hs => ?_
   refine sv hs (y_add rfl rfl) rfl fun a hs => ?_
   obtain ⟨x36, h35, hsh⟩ := bind_t hsh
   refine sv hs (y_assignI rfl h35) rfl fun a hs => ?_
   refine nl ?_
   exact ⟨x36, Sv28, hsh, (hs.wk rfl), (hw.ft [0] [0] (by decide) rfl rfl)⟩
  have hsh := ite_f hsh h34
  refine wp_skip ?_
  refine then_normal ?_
  exact ⟨rem27, Sv28, hsh, (hs.wk rfl), (hw.ft [0] [0] (by decide) rfl rfl)⟩
 rintro a w ⟨x33, Sv32, hsh, hs, hw⟩
 delta made_Dice_Next_j1 at hsh
 refine then_normal ?_
 refine sr ?_
 refine mv hs rfl rfl fun a hs => ?_
 refine av hs rfl rfl fun a hs => ?_
 refine nl ?_
 have hsh := oi hsh
 subst hsh
 refine wp_ret ?_
 exact ret1 hs rfl (rv_tmp rfl) (hw.ret ⟨(some ⟨b21, o22, none⟩), k4, rfl, (hw.outs [0] (by decide) rfl), (hw.envAt 0 rfl)⟩)

abbrev made_Dice_Pick_rd (w0 : World) (X : List Nat) (b2 : Nat) (r : (Int × Dice)) : (Nat → Prop) → World → Value → Prop := fun S w v => ∃ (pq0_0 : Option Addr) (kq0_0 : Nat), v = .int .i64 r.1 ∧ Outs X w0 S w [.box b2 [.slice pq0_0 r.2.L.length kq0_0, .int .i64 r.2.At] 84] ∧ (SlA pq0_0 r.2.L.length kq0_0 r.2.L).p S w
set_option maxHeartbeats 4000000 in
set_option maxRecDepth 100000 in
theorem made_Dice_Pick_ok {w0 : World} {S0 : Nat → Prop} {b2 : Nat} {p3 : Option Addr} {k4 : Nat} {p7 : Option Addr} {k8 : Nat} {d1 : Dice} {l6 : (List Int)} {r : (Int × Dice)} (hsh : made_Dice_Pick d1 l6 = some r) (hS : ∀ b, S0 b → b < w0.heap.size) (hin : Ins S0 w0 [.box b2 [.slice p3 d1.L.length k4, .int .i64 d1.At] 84]) (h5 : (SlA p3 d1.L.length k4 d1.L).p S0 w0) (h9 : (SlA p7 l6.length k8 l6).p S0 w0) : Calls Try.prog 25 #[.pointer (some ⟨b2, 0, none⟩), .slice p7 l6.length k8] w0 (Ret (blks [.box b2 [.slice p3 d1.L.length k4, .int .i64 d1.At] 84]) w0 S0 (made_Dice_Pick_rd w0 (blks [.box b2 [.slice p3 d1.L.length k4, .int .i64 d1.At] 84]) b2 r)) := by
 refine calls_of_wp Try.func25 rfl ?_
 have hs := Sl.enter #[.pointer (some ⟨b2, 0, none⟩), .slice p7 l6.length k8] 12 [(0, .pointer (some ⟨b2, 0, none⟩)), (1, .slice p7 l6.length k8)] rfl ⟨rfl, rfl, trivial⟩
 have hw := Wd.enterI hS hin
 have hw := hw.addE h5
 have hw := hw.addE h9
 delta made_Dice_Pick at hsh
 refine sr ?_
 refine av hs rfl rfl fun a hs => ?_
 refine nl ?_
 refine sr ?_
 refine mv hs rfl rfl fun a hs => ?_
 refine mv hs rfl rfl fun a hs => ?_
 refine mv hs rfl rfl fun a hs => ?_
 refine sv hs (y_len Try.runUnderlying24 rfl) rfl fun a hs => ?_
 obtain ⟨rv11, h10, hsh⟩ := bind_t hsh
 refine st_callR hs (made_Dice_Next_ok h10 hw.dom (hw.ins [0] (by decide) rfl) (hw.envAt 1 rfl)) (do_call Try.call24 rfl) trivial rfl rfl ?_
 intro v18 Sv15 w a h16 h17 hs
 obtain ⟨p12, k13, rfl, h19, h14⟩ := h17
 have hw := hw.callO [0] [] (by decide) rfl h16 h19
 have hw := hw.addE (e := SlA p12 rv11.2.L.length k13 rv11.2.L) h14
 obtain ⟨x22, h20, hsh⟩ := bind_t hsh
 obtain ⟨b28, o29, q26, c27, h30, h23, h24, h25, h21⟩ := hw.elemV 1 rfl h20
 have hsv31 := hs
 have hwv32 := hw
 subst h30
 have hs := hsv31
 have hw := hwv32
 obtain ⟨_, rfl, rfl⟩ := h21
 have hw := hw.addE h25
 refine sv hs (y_indexAt Try.runUnderlying24 Try.sizeOf3 rfl rfl h23.1 h23.2 h24) rfl fun a hs => ?_
 refine sv hs (y_loadE1 (j := 0) (hw.ceAt 0 rfl) rfl Try.isAgg3 rfl) rfl fun a hs => ?_
 refine av hs rfl rfl fun a hs => ?_
 refine nl ?_
 have hsh := oi hsh
 subst hsh
 refine wp_ret ?_
 exact ret1 hs rfl (rv_tmp rfl) (hw.ret ⟨p12, k13, rfl, (hw.outs [0] (by decide) rfl), (hw.envAt 1 rfl)⟩)

abbrev made_Dice_Stage_rd (w0 : World) (X : List Nat) (b2 : Nat) (r : (Stage × Dice)) : (Nat → Prop) → World → Value → Prop := fun S w v => ∃ (p0_7 : Option Addr) (k0_7 : Nat) (c0_7 : List Value) (pq0_0 : Option Addr) (kq0_0 : Nat), v = .agg #[.int .i64 r.1.Kind, .int .i64 r.1.Num.e0, .int .i64 r.1.Num.e1, .int .i64 r.1.Num.e2, .int .i64 r.1.Den.e0, .int .i64 r.1.Den.e1, .int .i64 r.1.Den.e2, .slice p0_7 r.1.Taps.length k0_7, .int .i64 r.1.Factor, .int .i64 r.1.Shift] ∧ Outs X w0 S w [.row p0_7 r.1.Taps.length k0_7 c0_7 3 1, .box b2 [.slice pq0_0 r.2.L.length kq0_0, .int .i64 r.2.At] 84] ∧ (RowA c0_7 r.1.Taps).p S w ∧ (SlA pq0_0 r.2.L.length kq0_0 r.2.L).p S w
set_option maxHeartbeats 4000000 in
set_option maxRecDepth 100000 in
theorem made_Dice_Stage_ok {w0 : World} {S0 : Nat → Prop} {b2 : Nat} {p3 : Option Addr} {k4 : Nat} {d1 : Dice} {r : (Stage × Dice)} (hsh : made_Dice_Stage d1 = some r) (hS : ∀ b, S0 b → b < w0.heap.size) (hin : Ins S0 w0 [.box b2 [.slice p3 d1.L.length k4, .int .i64 d1.At] 84]) (h5 : (SlA p3 d1.L.length k4 d1.L).p S0 w0) : Calls Try.prog 23 #[.pointer (some ⟨b2, 0, none⟩)] w0 (Ret (blks [.box b2 [.slice p3 d1.L.length k4, .int .i64 d1.At] 84]) w0 S0 (made_Dice_Stage_rd w0 (blks [.box b2 [.slice p3 d1.L.length k4, .int .i64 d1.At] 84]) b2 r)) := by
 refine calls_of_wp Try.func23 rfl ?_
 have hs := Sl.enter #[.pointer (some ⟨b2, 0, none⟩)] 77 [(0, .pointer (some ⟨b2, 0, none⟩))] rfl ⟨rfl, trivial⟩
 have hw := Wd.enterI hS hin
 have hw := hw.addE h5
 delta made_Dice_Stage at hsh
 refine sr ?_
 refine w_alloc (cs := [.int .i64 0, .int .i64 0, .int .i64 0, .int .i64 0, .int .i64 0, .int .i64 0, .int .i64 0, .slice none ([] : List Int).length 0, .int .i64 0, .int .i64 0]) hs hw Try.zeroValue26 rfl rfl trivial ?_
 intro b6 a w hs hw
 refine nl ?_
 refine wp_seq ?_
 refine sr ?_
 refine mv hs rfl rfl fun a hs => ?_
 obtain ⟨rv8, h7, hsh⟩ := bind_t hsh
 refine st_callR hs (made_Dice_Next_ok h7 hw.dom (hw.ins [1] (by decide) rfl) (hw.envAt 0 rfl)) (do_call Try.call24 rfl) trivial rfl rfl ?_
 intro v15 Sv12 w a h13 h14 hs
 obtain ⟨p9, k10, rfl, h16, h11⟩ := h14
 have hw := hw.callO [1] [0] (by decide) rfl h13 h16
 have hw := hw.addE (e := SlA p9 rv8.2.L.length k10 rv8.2.L) h11
 refine nl ?_
 refine wp_block ?_
 refine sr ?_
 refine sv hs (y_eql rfl rfl) rfl fun a hs => ?_
 refine av hs rfl rfl fun a hs => ?_
 refine nl ?_
 refine wp_cond_split (hs.ev rfl) (fun h193 => ?_) (fun h193 => ?_)
 ·have hsh := ite_t hsh h193
  refine sr ?_
  refine mv hs rfl rfl fun a hs => ?_
  obtain ⟨rv195, h194, hsh⟩ := bind_t hsh
  refine st_callR hs (made_Dice_Next_ok h194 hw.dom (hw.ins [0] (by decide) rfl) (hw.envAt 0 rfl)) (do_call Try.call24 rfl) trivial rfl rfl ?_
  intro v202 Sv199 w a h200 h201 hs
  obtain ⟨p196, k197, rfl, h203, h198⟩ := h201
  have hw := hw.callO [0] [1] (by decide) rfl h200 h203
  have hw := hw.addE (e := SlA p196 rv195.2.L.length k197 rv195.2.L) h198
  refine sv hs (y_add rfl rfl) rfl fun a hs => ?_
  refine sv hs (y_build (vs := [(0, .int .i64 (w64 (1 + rv195.1)))]) Bld23 rfl rfl) rfl fun a hs => ?_
  refine mv hs rfl rfl fun a hs => ?_
  obtain ⟨rv205, h204, hsh⟩ := bind_t hsh
  refine st_callR hs (made_Dice_Next_ok h204 hw.dom (hw.ins [0] (by decide) rfl) (hw.envAt 0 rfl)) (do_call Try.call24 rfl) trivial rfl rfl ?_
  intro v212 Sv209 w a h210 h211 hs
  obtain ⟨p206, k207, rfl, h213, h208⟩ := h211
  have hw := hw.callO [0] [1] (by decide) rfl h210 h213
  have hw := hw.addE (e := SlA p206 rv205.2.L.length k207 rv205.2.L) h208
  refine sv hs (y_add rfl rfl) rfl fun a hs => ?_
  refine sv hs (y_build (vs := [(0, .int .i64 (w64 (1 + rv205.1)))]) Bld23 rfl rfl) rfl fun a hs => ?_
  refine sv hs (y_build (vs := [(0, .int .i64 0), (1, .agg #[.int .i64 (w64 (1 + rv195.1)), .int .i64 0, .int .i64 0]), (2, .agg #[.int .i64 (w64 (1 + rv205.1)), .int .i64 0, .int .i64 0])]) Bld26 rfl rfl) rfl fun a hs => ?_
  refine w_store (m := 10) (cs' := [.int .i64 0, .int .i64 (w64 (1 + rv195.1)), .int .i64 0, .int .i64 0, .int .i64 (w64 (1 + rv205.1)), .int .i64 0, .int .i64 0, .slice none ([] : List Int).length 0, .int .i64 0, .int .i64 0]) hs hw 1 rfl rfl rfl Try.sizeOf26 rfl rfl rfl rfl trivial ?_
  intro a w hs hw
  refine nl ?_
  have hsh := oi hsh
  subst hsh
  have hw := hw.nilRow Int 3
  refine wp_ret ?_
  refine blk_ret ?_
  refine then_ret ?_
  exact ret1 hs rfl (rv_cell hw 2 rfl rfl Try.isAgg26 Try.sizeOf26 rfl) (hw.ret ⟨none, 0, [], p206, k207, rfl, (hw.outs [0, 1] (by decide) rfl), (hw.envAt 0 rfl), (hw.envAt 1 rfl)⟩)
 have hsh := ite_f hsh h193
 refine sr ?_
 refine sv hs (y_eql rfl rfl) rfl fun a hs => ?_
 refine av hs rfl rfl fun a hs => ?_
 refine nl ?_
 refine wp_cond_split (hs.ev rfl) (fun h281 => ?_) (fun h281 => ?_)
 ·have hsh := ite_t hsh h281
  refine sr ?_
  refine mv hs rfl rfl fun a hs => ?_
  obtain ⟨rv283, h282, hsh⟩ := bind_t hsh
  refine st_callR hs (made_Dice_Next_ok h282 hw.dom (hw.ins [0] (by decide) rfl) (hw.envAt 0 rfl)) (do_call Try.call24 rfl) trivial rfl rfl ?_
  intro v290 Sv287 w a h288 h289 hs
  obtain ⟨p284, k285, rfl, h291, h286⟩ := h289
  have hw := hw.callO [0] [1] (by decide) rfl h288 h291
  have hw := hw.addE (e := SlA p284 rv283.2.L.length k285 rv283.2.L) h286
  refine sv hs (y_sub rfl rfl) rfl fun a hs => ?_
  refine mv hs rfl rfl fun a hs => ?_
  obtain ⟨rv293, h292, hsh⟩ := bind_t hsh
  refine st_callR hs (made_Dice_Next_ok h292 hw.dom (hw.ins [0] (by decide) rfl) (hw.envAt 0 rfl)) (do_call Try.call24 rfl) trivial rfl rfl ?_
  intro v300 Sv297 w a h298 h299 hs
  obtain ⟨p294, k295, rfl, h301, h296⟩ := h299
  have hw := hw.callO [0] [1] (by decide) rfl h298 h301
  have hw := hw.addE (e := SlA p294 rv293.2.L.length k295 rv293.2.L) h296
  refine sv hs (y_sub rfl rfl) rfl fun a hs => ?_
  refine mv hs rfl rfl fun a hs => ?_
  obtain ⟨rv303, h302, hsh⟩ := bind_t hsh
  refine st_callR hs (made_Dice_Next_ok h302 hw.dom (hw.ins [0] (by decide) rfl) (hw.envAt 0 rfl)) (do_call Try.call24 rfl) trivial rfl rfl ?_
  intro v310 Sv307 w a h308 h309 hs
  obtain ⟨p304, k305, rfl, h311, h306⟩ := h309
  have hw := hw.callO [0] [1] (by decide) rfl h308 h311
  have hw := hw.addE (e := SlA p304 rv303.2.L.length k305 rv303.2.L) h306
  refine sv hs (y_build (vs := [(0, .int .i64 (w64 (rv283.1 - 4))), (1, .int .i64 (w64 (rv293.1 - 4))), (2, .int .i64 rv303.1)]) Bld23 rfl rfl) rfl fun a hs => ?_
  refine mv hs rfl rfl fun a hs => ?_
  refine w_litSlice (α := Int) (vs := [.int .i64 1, .int .i64 2, .int .i64 (-3), .int .i64 1048576]) (cs := [.int .i64 1, .int .i64 2, .int .i64 (-3), .int .i64 1048576]) (xs := ([1, 2, (-3), 1048576] : List Int)) hs hw El24 rfl rfl rfl rfl rfl rfl ⟨⟨_, rfl, rfl⟩, ⟨⟨_, rfl, rfl⟩, ⟨⟨_, rfl, rfl⟩, ⟨⟨_, rfl, rfl⟩, rfl⟩⟩⟩⟩ rfl trivial rfl fun b313 a w hs hw => ?_
  obtain ⟨rv315, h314, hsh⟩ := bind_t hsh
  obtain ⟨Sv319, hw⟩ := w_share (α := Int) hw 0 rfl 0 rfl
  refine st_callR hs (made_Dice_Pick_ok h314 hw.dom (hw.ins [0] (by decide) rfl) (hw.envAt 2 rfl) (hw.envAt 0 rfl)) (do_call Try.call25 rfl) trivial rfl rfl ?_
  intro v323 Sv320 w a h321 h322 hs
  obtain ⟨p316, k317, rfl, h324, h318⟩ := h322
  have hw := hw.callO [0] [1] (by decide) rfl h321 h324
  have hw := hw.addE (e := SlA p316 rv315.2.L.length k317 rv315.2.L) h318
  refine mv hs rfl rfl fun a hs => ?_
  obtain ⟨rv326, h325, hsh⟩ := bind_t hsh
  refine st_callR hs (made_Dice_Next_ok h325 hw.dom (hw.ins [0] (by decide) rfl) (hw.envAt 0 rfl)) (do_call Try.call24 rfl) trivial rfl rfl ?_
  intro v333 Sv330 w a h331 h332 hs
  obtain ⟨p327, k328, rfl, h334, h329⟩ := h332
  have hw := hw.callO [0] [1] (by decide) rfl h331 h334
  have hw := hw.addE (e := SlA p327 rv326.2.L.length k328 rv326.2.L) h329
  refine sv hs (y_sub rfl rfl) rfl fun a hs => ?_
  refine mv hs rfl rfl fun a hs => ?_
  refine w_litSlice (α := Int) (vs := [.int .i64 0, .int .i64 1, .int .i64 1048576]) (cs := [.int .i64 0, .int .i64 1, .int .i64 1048576]) (xs := ([0, 1, 1048576] : List Int)) hs hw El24 rfl rfl rfl rfl rfl rfl ⟨⟨_, rfl, rfl⟩, ⟨⟨_, rfl, rfl⟩, ⟨⟨_, rfl, rfl⟩, rfl⟩⟩⟩ rfl trivial rfl fun b336 a w hs hw => ?_
  obtain ⟨rv338, h337, hsh⟩ := bind_t hsh
  obtain ⟨Sv342, hw⟩ := w_share (α := Int) hw 0 rfl 0 rfl
  refine st_callR hs (made_Dice_Pick_ok h337 hw.dom (hw.ins [0] (by decide) rfl) (hw.envAt 2 rfl) (hw.envAt 0 rfl)) (do_call Try.call25 rfl) trivial rfl rfl ?_
  intro v346 Sv343 w a h344 h345 hs
  obtain ⟨p339, k340, rfl, h347, h341⟩ := h345
  have hw := hw.callO [0] [1] (by decide) rfl h344 h347
  have hw := hw.addE (e := SlA p339 rv338.2.L.length k340 rv338.2.L) h341
  refine sv hs (y_build (vs := [(0, .int .i64 rv315.1), (1, .int .i64 (w64 (rv326.1 - 4))), (2, .int .i64 rv338.1)]) Bld23 rfl rfl) rfl fun a hs => ?_
  refine sv hs (y_build (vs := [(0, .int .i64 1), (1, .agg #[.int .i64 (w64 (rv283.1 - 4)), .int .i64 (w64 (rv293.1 - 4)), .int .i64 rv303.1]), (2, .agg #[.int .i64 rv315.1, .int .i64 (w64 (rv326.1 - 4)), .int .i64 rv338.1])]) Bld26 rfl rfl) rfl fun a hs => ?_
  refine w_store (m := 10) (cs' := [.int .i64 1, .int .i64 (w64 (rv283.1 - 4)), .int .i64 (w64 (rv293.1 - 4)), .int .i64 rv303.1, .int .i64 rv315.1, .int .i64 (w64 (rv326.1 - 4)), .int .i64 rv338.1, .slice none ([] : List Int).length 0, .int .i64 0, .int .i64 0]) hs hw 1 rfl rfl rfl Try.sizeOf26 rfl rfl rfl rfl trivial ?_
  intro a w hs hw
  refine nl ?_
  have hsh := oi hsh
  subst hsh
  have hw := hw.nilRow Int 3
  refine wp_ret ?_
  refine blk_ret ?_
  refine then_ret ?_
  exact ret1 hs rfl (rv_cell hw 2 rfl rfl Try.isAgg26 Try.sizeOf26 rfl) (hw.ret ⟨none, 0, [], p339, k340, rfl, (hw.outs [0, 1] (by decide) rfl), (hw.envAt 0 rfl), (hw.envAt 1 rfl)⟩)
 have hsh := ite_f hsh h281
 refine wp_skip ?_
 refine blk_normal ?_
 refine then_normal ?_
 refine sr ?_
 refine mv hs rfl rfl fun a hs => ?_
 obtain ⟨rv349, h348, hsh⟩ := bind_t hsh
 refine st_callR hs (made_Dice_Next_ok h348 hw.dom (hw.ins [0] (by decide) rfl) (hw.envAt 0 rfl)) (do_call Try.call24 rfl) trivial rfl rfl ?_
 intro v356 Sv353 w a h354 h355 hs
 obtain ⟨p350, k351, rfl, h357, h352⟩ := h355
 have hw := hw.callO [0] [1] (by decide) rfl h354 h357
 have hw := hw.addE (e := SlA p350 rv349.2.L.length k351 rv349.2.L) h352
 refine sv hs (y_add rfl rfl) rfl fun a hs => ?_
 refine w_litSlice (α := Int) (vs := [.int .i64 (w64 (1 + rv349.1))]) (cs := [.int .i64 (w64 (1 + rv349.1))]) (xs := ([(w64 (1 + rv349.1))] : List Int)) hs hw El24 rfl rfl rfl rfl rfl rfl ⟨⟨_, rfl, rfl⟩, rfl⟩ rfl trivial rfl fun b359 a w hs hw => ?_
 refine mv hs rfl rfl fun a hs => ?_
 refine w_litSlice (α := Int) (vs := [.int .i64 1, .int .i64 1, .int .i64 2, .int .i64 5]) (cs := [.int .i64 1, .int .i64 1, .int .i64 2, .int .i64 5]) (xs := ([1, 1, 2, 5] : List Int)) hs hw El24 rfl rfl rfl rfl rfl rfl ⟨⟨_, rfl, rfl⟩, ⟨⟨_, rfl, rfl⟩, ⟨⟨_, rfl, rfl⟩, ⟨⟨_, rfl, rfl⟩, rfl⟩⟩⟩⟩ rfl trivial rfl fun b361 a w hs hw => ?_
 obtain ⟨rv363, h362, hsh⟩ := bind_t hsh
 obtain ⟨Sv367, hw⟩ := w_share (α := Int) hw 0 rfl 0 rfl
 refine st_callR hs (made_Dice_Pick_ok h362 hw.dom (hw.ins [1] (by decide) rfl) (hw.envAt 3 rfl) (hw.envAt 0 rfl)) (do_call Try.call25 rfl) trivial rfl rfl ?_
 intro v371 Sv368 w a h369 h370 hs
 obtain ⟨p364, k365, rfl, h372, h366⟩ := h370
 have hw := hw.callO [1] [0, 2] (by decide) rfl h369 h372
 have hw := hw.addE (e := SlA p364 rv363.2.L.length k365 rv363.2.L) h366
 refine mv hs rfl rfl fun a hs => ?_
 obtain ⟨rv374, h373, hsh⟩ := bind_t hsh
 refine st_callR hs (made_Dice_Next_ok h373 hw.dom (hw.ins [0] (by decide) rfl) (hw.envAt 0 rfl)) (do_call Try.call24 rfl) trivial rfl rfl ?_
 intro v381 Sv378 w a h379 h380 hs
 obtain ⟨p375, k376, rfl, h382, h377⟩ := h380
 have hw := hw.callO [0] [1, 2] (by decide) rfl h379 h382
 have hw := hw.addE (e := SlA p375 rv374.2.L.length k376 rv374.2.L) h377
 refine sv hs (y_build (vs := [(0, .int .i64 2), (3, .slice (some ⟨b359, 0, none⟩) ([(w64 (1 + rv349.1))] : List Int).length ([(w64 (1 + rv349.1))] : List Int).length), (4, .int .i64 rv363.1), (5, .int .i64 rv374.1)]) Bld26 rfl rfl) rfl fun a hs => ?_
 refine w_alloc (cs := [.int .i64 0, .int .i64 0, .int .i64 0, .int .i64 0, .int .i64 0, .int .i64 0, .int .i64 0, .slice none ([] : List Int).length 0, .int .i64 0, .int .i64 0]) hs hw Try.zeroValue26 rfl rfl trivial ?_
 intro b383 a w hs hw
 refine w_store (m := 10) (cs' := [.int .i64 2, .int .i64 0, .int .i64 0, .int .i64 0, .int .i64 0, .int .i64 0, .int .i64 0, .slice (some ⟨b359, 0, none⟩) ([(w64 (1 + rv349.1))] : List Int).length ([(w64 (1 + rv349.1))] : List Int).length, .int .i64 rv363.1, .int .i64 rv374.1]) hs hw 0 rfl rfl rfl Try.sizeOf26 rfl rfl rfl rfl trivial ?_
 intro a w hs hw
 refine nl ?_
 refine wp_seq ?_
 refine sr ?_
 refine mv hs rfl rfl fun a hs => ?_
 obtain ⟨rv385, h384, hsh⟩ := bind_t hsh
 refine st_callR hs (made_Dice_Next_ok h384 hw.dom (hw.ins [1] (by decide) rfl) (hw.envAt 0 rfl)) (do_call Try.call24 rfl) trivial rfl rfl ?_
 intro v392 Sv389 w a h390 h391 hs
 obtain ⟨p386, k387, rfl, h393, h388⟩ := h391
 have hw := hw.callO [1] [0, 2, 3] (by decide) rfl h390 h393
 have hw := hw.addE (e := SlA p386 rv385.2.L.length k387 rv385.2.L) h388
 refine av hs rfl rfl fun a hs => ?_
 refine nl ?_
 obtain ⟨e491, h582, hsh⟩ := bind_t hsh
 refine wp_join (fun a w => ∃ (p492 : Option Addr) (k493 : Nat) (c494 : List Value) (p495 : Option Addr) (k496 : Nat) (Sv497 : Nat → Prop), Sl 77 [(0, .pointer (some ⟨b2, 0, none⟩)), (2, .pointer (some ⟨b6, 0, none⟩)), (3, .pointer (some ⟨b383, 0, none⟩))] a ∧ Wd ⟨w0, S0, blks [.box b2 [.slice p3 d1.L.length k4, .int .i64 d1.At] 84]⟩ Sv497 [.box b2 [.slice p492 e491.1.length k493, .int .i64 e491.2.1] 84, .box b6 [.int .i64 0, .int .i64 0, .int .i64 0, .int .i64 0, .int .i64 0, .int .i64 0, .int .i64 0, .slice none ([] : List Int).length 0, .int .i64 0, .int .i64 0] 26, .box b383 [.int .i64 2, .int .i64 0, .int .i64 0, .int .i64 0, .int .i64 0, .int .i64 0, .int .i64 0, .slice p495 e491.2.2.length k496, .int .i64 rv363.1, .int .i64 rv374.1] 26, .row p495 e491.2.2.length k496 c494 3 1] [SlA p492 e491.1.length k493 e491.1, SlA none ([] : List Int).length 0 ([] : List Int), RowA c494 e491.2.2] w) ?_ ?_
 ·refine wp_block ?_
  have hw := hw.addE (e := SlA (α := Int) none 0 0 []) nil_sl
  refine wp_while (fun sv394 a w => ∃ (p455 : Option Addr) (k456 : Nat) (c457 : List Value) (p458 : Option Addr) (k459 : Nat) (Sv460 : Nat → Prop), Sl 77 [(0, .pointer (some ⟨b2, 0, none⟩)), (2, .pointer (some ⟨b6, 0, none⟩)), (3, .pointer (some ⟨b383, 0, none⟩)), (4, .int .i64 sv394.2.2.2)] a ∧ Wd ⟨w0, S0, blks [.box b2 [.slice p3 d1.L.length k4, .int .i64 d1.At] 84]⟩ Sv460 [.box b2 [.slice p455 sv394.1.length k456, .int .i64 sv394.2.1] 84, .box b6 [.int .i64 0, .int .i64 0, .int .i64 0, .int .i64 0, .int .i64 0, .int .i64 0, .int .i64 0, .slice none ([] : List Int).length 0, .int .i64 0, .int .i64 0] 26, .box b383 [.int .i64 2, .int .i64 0, .int .i64 0, .int .i64 0, .int .i64 0, .int .i64 0, .int .i64 0, .slice p458 sv394.2.2.1.length k459, .int .i64 rv363.1, .int .i64 rv374.1] 26, .row p458 sv394.2.2.1.length k459 c457 3 1] [SlA p455 sv394.1.length k456 sv394.1, SlA none ([] : List Int).length 0 ([] : List Int), RowA c457 sv394.2.2.1] w) (rv385.2.L, rv385.2.At, ([(w64 (1 + rv349.1))] : List Int), rv385.1) h582 ⟨p386, k387, [.int .i64 (w64 (1 + rv349.1))], (some ⟨b359, 0, none⟩), ([(w64 (1 + rv349.1))] : List Int).length, Sv389, (hs.wk rfl), (hw.ft [0, 3, 1, 2] [1, 0, 6] (by decide) rfl rfl)⟩ ?_
  clear h582
  repeat clear hsh
  rintro sv394 a w tv489 ⟨p455, k456, c457, p458, k459, Sv460, hs, hw⟩ hsh hd488
  delta made_Dice_Stage_l1 at hsh
  refine wp_seq ?_
  refine sr ?_
  refine mv hs rfl rfl fun a hs => ?_
  refine sv hs (y_gtr rfl rfl) rfl fun a hs => ?_
  refine nl ?_
  refine wp_cond_split (hs.ev rfl) (fun h499 => ?_) (fun h499 => ?_)
  ·have hsh := ite_t hsh h499
   refine wp_skip ?_
   refine then_normal ?_
   refine wp_seq ?_
   refine wp_block ?_
   refine sr ?_
   refine mv hs rfl rfl fun a hs => ?_
   obtain ⟨rv525, h524, hsh⟩ := bind_t hsh
   refine st_callR hs (made_Dice_Next_ok h524 hw.dom (hw.ins [0] (by decide) rfl) (hw.envAt 0 rfl)) (do_call Try.call24 rfl) trivial rfl rfl ?_
   intro v532 Sv529 w a h530 h531 hs
   obtain ⟨p526, k527, rfl, h533, h528⟩ := h531
   have hw := hw.callO [0] [1, 2, 3] (by decide) rfl h530 h533
   have hw := hw.addE (e := SlA p526 rv525.2.L.length k527 rv525.2.L) h528
   refine av hs rfl rfl fun a hs => ?_
   refine nl ?_
   refine wp_region_lit ?_
   refine mv hs rfl rfl fun a hs => ?_
   refine w_litSlice (α := Int) (vs := [.int .i64 rv525.1]) (cs := [.int .i64 rv525.1]) (xs := ([rv525.1] : List Int)) hs hw El24 rfl rfl rfl rfl rfl rfl ⟨⟨_, rfl, rfl⟩, rfl⟩ rfl trivial rfl fun b535 a w hs hw => ?_
   refine sv hs (y_fieldAddr (o' := 7) Try.runUnderlying26 rfl Try.sizeOf24 rfl rfl rfl) rfl fun a hs => ?_
   refine sv hs (y_loadB1 (hw.ownAt 3 rfl) rfl Try.isAgg24 rfl) rfl fun a hs => ?_
   obtain ⟨l537, h536, hsh⟩ := bind_t hsh
   refine w_appendR (α := Int) hs hw El24 0 rfl rfl rfl 0 rfl 4 rfl 4 rfl h536 rfl trivial ?_
   intro p538 k539 c540 a w hs hw
   refine mv hs rfl rfl fun a hs => ?_
   refine w_litSlice (α := Int) (vs := [.int .i64 rv525.1]) (cs := [.int .i64 rv525.1]) (xs := ([rv525.1] : List Int)) hs hw El24 rfl rfl rfl rfl rfl rfl ⟨⟨_, rfl, rfl⟩, rfl⟩ rfl trivial rfl fun b542 a w hs hw => ?_
   obtain ⟨l544, h543, hsh⟩ := bind_t hsh
   refine w_appendR (α := Int) hs hw El24 1 rfl rfl rfl 1 rfl 0 rfl 0 rfl h543 rfl trivial ?_
   intro p545 k546 c547 a w hs hw
   refine sv hs (y_fieldAddr (o' := 7) Try.runUnderlying26 rfl Try.sizeOf24 rfl rfl rfl) rfl fun a hs => ?_
   refine w_store (m := 1) (cs' := [.int .i64 2, .int .i64 0, .int .i64 0, .int .i64 0, .int .i64 0, .int .i64 0, .int .i64 0, .slice p545 l544.length k546, .int .i64 rv363.1, .int .i64 rv374.1]) hs hw 4 rfl rfl rfl Try.sizeOf24 rfl rfl rfl rfl trivial ?_
   intro a w hs hw
   refine wpList_nil ?_
   refine blk_normal ?_
   refine then_normal ?_
   refine wp_region_lit ?_
   refine mv hs rfl rfl fun a hs => ?_
   refine sv hs (y_sub rfl rfl) rfl fun a hs => ?_
   obtain ⟨i549, h548, hsh⟩ := bind_t hsh
   refine sv hs (y_assignI rfl h548) rfl fun a hs => ?_
   refine nl ?_
   exact ⟨_, (Option.some.inj hsh).symm, p526, k527, c547, p545, k546, Sv529, (hs.wk rfl), (hw.ft [2, 3, 4, 1] [4, 6, 0] (by decide) rfl rfl)⟩
  have hsh := ite_f hsh h499
  refine wp_exit ?_
  refine then_exit ?_
  refine then_exit ?_
  refine blk_exit ?_
  have hsh := oi hsh
  subst hsh
  have h550 := hd488 _ rfl
  subst h550
  refine then_normal ?_
  exact ⟨p455, k456, c457, p458, k459, Sv460, (hs.wk rfl), (hw.ft [0, 1, 2, 3] [0, 1, 2] (by decide) rfl rfl)⟩
 rintro a w ⟨p492, k493, c494, p495, k496, Sv497, hs, hw⟩
 refine then_normal ?_
 refine wp_seq ?_
 refine sr ?_
 refine mv hs rfl rfl fun a hs => ?_
 obtain ⟨rv552, h551, hsh⟩ := bind_t hsh
 refine st_callR hs (made_Dice_Next_ok h551 hw.dom (hw.ins [0] (by decide) rfl) (hw.envAt 0 rfl)) (do_call Try.call24 rfl) trivial rfl rfl ?_
 intro v559 Sv556 w a h557 h558 hs
 obtain ⟨p553, k554, rfl, h560, h555⟩ := h558
 have hw := hw.callO [0] [1, 2, 3] (by decide) rfl h557 h560
 have hw := hw.addE (e := SlA p553 rv552.2.L.length k554 rv552.2.L) h555
 refine sv hs (y_eql rfl rfl) rfl fun a hs => ?_
 refine nl ?_
 refine wp_join (fun a w => ∃ (x573 : (List Int)) (c569 : List Value) (p570 : Option Addr) (k571 : Nat) (Sv572 : Nat → Prop), made_Dice_Stage_j2 rv363 rv374 rv552 x573 = some r ∧ Sl 77 [(2, .pointer (some ⟨b6, 0, none⟩)), (3, .pointer (some ⟨b383, 0, none⟩))] a ∧ Wd ⟨w0, S0, blks [.box b2 [.slice p3 d1.L.length k4, .int .i64 d1.At] 84]⟩ Sv572 [.box b2 [.slice p553 rv552.2.L.length k554, .int .i64 rv552.2.At] 84, .box b6 [.int .i64 0, .int .i64 0, .int .i64 0, .int .i64 0, .int .i64 0, .int .i64 0, .int .i64 0, .slice none ([] : List Int).length 0, .int .i64 0, .int .i64 0] 26, .box b383 [.int .i64 2, .int .i64 0, .int .i64 0, .int .i64 0, .int .i64 0, .int .i64 0, .int .i64 0, .slice p570 x573.length k571, .int .i64 rv363.1, .int .i64 rv374.1] 26, .row p570 x573.length k571 c569 3 1] [SlA p553 rv552.2.L.length k554 rv552.2.L, SlA none ([] : List Int).length 0 ([] : List Int), RowA c569 x573] w) ?_ ?_
 ·refine wp_cond_split (hs.ev rfl) (fun h574 => ?_) (fun h574 => ?_)
  ·have hsh := ite_t hsh h574
   refine wp_region_lit ?_
   refine sv hs (y_fieldAddr (o' := 7) Try.runUnderlying26 rfl Try.sizeOf24 rfl rfl rfl) rfl fun a hs => ?_
   refine sv hs (y_loadB1 (hw.ownAt 2 rfl) rfl Try.isAgg24 rfl) rfl fun a hs => ?_
   refine w_litSlice (α := Int) (vs := [.int .i64 3]) (cs := [.int .i64 3]) (xs := ([3] : List Int)) hs hw El24 rfl rfl rfl rfl rfl rfl ⟨⟨_, rfl, rfl⟩, rfl⟩ rfl trivial rfl fun b576 a w hs hw => ?_
   obtain ⟨l578, h577, hsh⟩ := bind_t hsh
   refine w_appendR (α := Int) hs hw El24 4 rfl rfl rfl 4 rfl 0 rfl 0 rfl h577 rfl trivial ?_
   intro p579 k580 c581 a w hs hw
   refine sv hs (y_fieldAddr (o' := 7) Try.runUnderlying26 rfl Try.sizeOf24 rfl rfl rfl) rfl fun a hs => ?_
   refine w_store (m := 1) (cs' := [.int .i64 2, .int .i64 0, .int .i64 0, .int .i64 0, .int .i64 0, .int .i64 0, .int .i64 0, .slice p579 l578.length k580, .int .i64 rv363.1, .int .i64 rv374.1]) hs hw 3 rfl rfl rfl Try.sizeOf24 rfl rfl rfl rfl trivial ?_
   intro a w hs hw
   refine nl ?_
   exact ⟨l578, c581, p579, k580, Sv556, hsh, (hs.wk rfl), (hw.ft [1, 2, 3, 4] [2, 4, 0] (by decide) rfl rfl)⟩
  have hsh := ite_f hsh h574
  refine wp_skip ?_
  refine then_normal ?_
  exact ⟨e491.2.2, c494, p495, k496, Sv556, hsh, (hs.wk rfl), (hw.ft [0, 1, 2, 3] [0, 2, 3] (by decide) rfl rfl)⟩
 rintro a w ⟨x573, c569, p570, k571, Sv572, hsh, hs, hw⟩
 delta made_Dice_Stage_j2 at hsh
 refine then_normal ?_
 refine sr ?_
 refine sv hs (y_loadBA (hw.ownAt 2 rfl) rfl Try.isAgg26 Try.sizeOf26 rfl rfl) rfl fun a hs => ?_
 refine w_store (m := 10) (cs' := [.int .i64 2, .int .i64 0, .int .i64 0, .int .i64 0, .int .i64 0, .int .i64 0, .int .i64 0, .slice p570 x573.length k571, .int .i64 rv363.1, .int .i64 rv374.1]) hs hw 1 rfl rfl rfl Try.sizeOf26 rfl rfl rfl rfl trivial ?_
 intro a w hs hw
 refine nl ?_
 have hsh := oi hsh
 subst hsh
 refine wp_ret ?_
 exact ret1 hs rfl (rv_cell hw 1 rfl rfl Try.isAgg26 Try.sizeOf26 rfl) (hw.ret ⟨p570, k571, c569, p553, k554, rfl, (hw.outs [3, 0] (by decide) rfl), (hw.envAt 2 rfl), (hw.envAt 0 rfl)⟩)

abbrev made_Dice_Response_rd (w0 : World) (X : List Nat) (b2 : Nat) (r : (Response × Dice)) : (Nat → Prop) → World → Value → Prop := fun S w v => ∃ (p0_0 : Option Addr) (k0_0 : Nat) (c0_0 : List Value) (pq0_0 : Option Addr) (kq0_0 : Nat), v = .agg #[.slice p0_0 r.1.Stages.length k0_0] ∧ Outs X w0 S w [.row p0_0 r.1.Stages.length k0_0 c0_0 26 10, .box b2 [.slice pq0_0 r.2.L.length kq0_0, .int .i64 r.2.At] 84] ∧ (RowA c0_0 r.1.Stages).p S w ∧ (SlA pq0_0 r.2.L.length kq0_0 r.2.L).p S w
set_option maxHeartbeats 4000000 in
set_option maxRecDepth 100000 in
theorem made_Dice_Response_ok {w0 : World} {S0 : Nat → Prop} {b2 : Nat} {p3 : Option Addr} {k4 : Nat} {d1 : Dice} {r : (Response × Dice)} (hsh : made_Dice_Response d1 = some r) (hS : ∀ b, S0 b → b < w0.heap.size) (hin : Ins S0 w0 [.box b2 [.slice p3 d1.L.length k4, .int .i64 d1.At] 84]) (h5 : (SlA p3 d1.L.length k4 d1.L).p S0 w0) : Calls Try.prog 15 #[.pointer (some ⟨b2, 0, none⟩)] w0 (Ret (blks [.box b2 [.slice p3 d1.L.length k4, .int .i64 d1.At] 84]) w0 S0 (made_Dice_Response_rd w0 (blks [.box b2 [.slice p3 d1.L.length k4, .int .i64 d1.At] 84]) b2 r)) := by
 refine calls_of_wp Try.func15 rfl ?_
 have hs := Sl.enter #[.pointer (some ⟨b2, 0, none⟩)] 31 [(0, .pointer (some ⟨b2, 0, none⟩))] rfl ⟨rfl, trivial⟩
 have hw := Wd.enterI hS hin
 have hw := hw.addE h5
 delta made_Dice_Response at hsh
 refine sr ?_
 refine w_alloc (cs := [.slice none ([] : List Stage).length 0]) hs hw Try.zeroValue37 rfl rfl trivial ?_
 intro b6 a w hs hw
 refine nl ?_
 refine sr ?_
 refine w_alloc (cs := [.slice none ([] : List Stage).length 0]) hs hw Try.zeroValue37 rfl rfl trivial ?_
 intro b7 a w hs hw
 refine nl ?_
 refine sr ?_
 refine av hs rfl rfl fun a hs => ?_
 refine nl ?_
 refine wp_seq ?_
 refine sr ?_
 refine mv hs rfl rfl fun a hs => ?_
 obtain ⟨rv9, h8, hsh⟩ := bind_t hsh
 refine st_callR hs (made_Dice_Next_ok h8 hw.dom (hw.ins [2] (by decide) rfl) (hw.envAt 0 rfl)) (do_call Try.call24 rfl) trivial rfl rfl ?_
 intro v16 Sv13 w a h14 h15 hs
 obtain ⟨p10, k11, rfl, h17, h12⟩ := h15
 have hw := hw.callO [2] [0, 1] (by decide) rfl h14 h17
 have hw := hw.addE (e := SlA p10 rv9.2.L.length k11 rv9.2.L) h12
 refine av hs rfl rfl fun a hs => ?_
 refine nl ?_
 obtain ⟨e130, h206, hsh⟩ := bind_t hsh
 refine wp_join (fun a w => ∃ (p131 : Option Addr) (k132 : Nat) (c133 : List Value) (p134 : Option Addr) (k135 : Nat) (Sv136 : Nat → Prop), Sl 31 [(2, .pointer (some ⟨b6, 0, none⟩)), (3, .pointer (some ⟨b7, 0, none⟩))] a ∧ Wd ⟨w0, S0, blks [.box b2 [.slice p3 d1.L.length k4, .int .i64 d1.At] 84]⟩ Sv136 [.box b2 [.slice p131 e130.1.length k132, .int .i64 e130.2.1] 84, .box b6 [.slice none ([] : List Stage).length 0] 37, .box b7 [.slice p134 e130.2.2.length k135] 37, .row p134 e130.2.2.length k135 c133 26 10] [SlA p131 e130.1.length k132 e130.1, SlA none ([] : List Stage).length 0 ([] : List Stage), RowA c133 e130.2.2] w) ?_ ?_
 ·refine wp_block ?_
  have hw := hw.nilRow Stage 26
  have hw := hw.addE (e := SlA (α := Stage) none 0 0 []) nil_sl
  refine wp_while (fun sv18 a w => ∃ (p89 : Option Addr) (k90 : Nat) (c91 : List Value) (p92 : Option Addr) (k93 : Nat) (Sv94 : Nat → Prop), Sl 31 [(0, .pointer (some ⟨b2, 0, none⟩)), (2, .pointer (some ⟨b6, 0, none⟩)), (3, .pointer (some ⟨b7, 0, none⟩)), (4, .int .i64 sv18.2.2.2.1), (5, .int .i64 sv18.2.2.2.2)] a ∧ Wd ⟨w0, S0, blks [.box b2 [.slice p3 d1.L.length k4, .int .i64 d1.At] 84]⟩ Sv94 [.box b2 [.slice p89 sv18.1.length k90, .int .i64 sv18.2.1] 84, .box b6 [.slice none ([] : List Stage).length 0] 37, .box b7 [.slice p92 sv18.2.2.1.length k93] 37, .row p92 sv18.2.2.1.length k93 c91 26 10] [SlA p89 sv18.1.length k90 sv18.1, SlA none ([] : List Stage).length 0 ([] : List Stage), RowA c91 sv18.2.2.1] w) (rv9.2.L, rv9.2.At, ([] : List Stage), 1, rv9.1) h206 ⟨p10, k11, [], none, 0, Sv13, (hs.wk rfl), (hw.ft [1, 3, 2, 0] [2, 0, 1] (by decide) rfl rfl)⟩ ?_
  clear h206
  repeat clear hsh
  rintro sv18 a w tv128 ⟨p89, k90, c91, p92, k93, Sv94, hs, hw⟩ hsh hd127
  delta made_Dice_Response_l1 at hsh
  refine wp_seq ?_
  refine sr ?_
  refine mv hs rfl rfl fun a hs => ?_
  refine sv hs (y_gtr rfl rfl) rfl fun a hs => ?_
  refine nl ?_
  refine wp_cond_split (hs.ev rfl) (fun h138 => ?_) (fun h138 => ?_)
  ·have hsh := ite_t hsh h138
   refine wp_skip ?_
   refine then_normal ?_
   refine wp_seq ?_
   refine wp_block ?_
   refine sr ?_
   refine mv hs rfl rfl fun a hs => ?_
   obtain ⟨rv169, h168, hsh⟩ := bind_t hsh
   refine st_callR hs (made_Dice_Stage_ok h168 hw.dom (hw.ins [0] (by decide) rfl) (hw.envAt 0 rfl)) (do_call Try.call23 rfl) trivial rfl rfl ?_
   intro v180 Sv177 w a h178 h179 hs
   obtain ⟨p170, k171, c173, p174, k175, rfl, h181, h172, h176⟩ := h179
   have hw := hw.callO [0] [1, 2, 3] (by decide) rfl h178 h181
   have hw := hw.addE (e := RowA c173 rv169.1.Taps) h172
   have hw := hw.addE (e := SlA p174 rv169.2.L.length k175 rv169.2.L) h176
   refine w_alloc (cs := [.int .i64 0, .int .i64 0, .int .i64 0, .int .i64 0, .int .i64 0, .int .i64 0, .int .i64 0, .slice none ([] : List Int).length 0, .int .i64 0, .int .i64 0]) hs hw Try.zeroValue26 rfl rfl trivial ?_
   intro b182 a w hs hw
   refine w_store (m := 10) (cs' := [.int .i64 rv169.1.Kind, .int .i64 rv169.1.Num.e0, .int .i64 rv169.1.Num.e1, .int .i64 rv169.1.Num.e2, .int .i64 rv169.1.Den.e0, .int .i64 rv169.1.Den.e1, .int .i64 rv169.1.Den.e2, .slice p170 rv169.1.Taps.length k171, .int .i64 rv169.1.Factor, .int .i64 rv169.1.Shift]) hs hw 0 rfl rfl rfl Try.sizeOf26 rfl rfl rfl rfl trivial ?_
   intro a w hs hw
   refine nl ?_
   refine wp_seq ?_
   refine sr ?_
   refine sv hs (y_fieldAddr (o' := 0) Try.runUnderlying26 rfl Try.sizeOf3 rfl rfl rfl) rfl fun a hs => ?_
   refine sv hs (y_loadB1 (hw.ownAt 0 rfl) rfl Try.isAgg3 rfl) rfl fun a hs => ?_
   refine sv hs (y_eql rfl rfl) rfl fun a hs => ?_
   refine nl ?_
   refine wp_join (fun a w => ∃ (n188 : Int) (Sv187 : Nat → Prop), made_Dice_Response_j1 sv18 rv169 n188 = some tv128 ∧ Sl 31 [(0, .pointer (some ⟨b2, 0, none⟩)), (2, .pointer (some ⟨b6, 0, none⟩)), (3, .pointer (some ⟨b7, 0, none⟩)), (4, .int .i64 n188), (5, .int .i64 sv18.2.2.2.2), (6, .pointer (some ⟨b182, 0, none⟩))] a ∧ Wd ⟨w0, S0, blks [.box b2 [.slice p3 d1.L.length k4, .int .i64 d1.At] 84]⟩ Sv187 [.box b2 [.slice p174 rv169.2.L.length k175, .int .i64 rv169.2.At] 84, .box b6 [.slice none ([] : List Stage).length 0] 37, .box b7 [.slice p92 sv18.2.2.1.length k93] 37, .box b182 [.int .i64 rv169.1.Kind, .int .i64 rv169.1.Num.e0, .int .i64 rv169.1.Num.e1, .int .i64 rv169.1.Num.e2, .int .i64 rv169.1.Den.e0, .int .i64 rv169.1.Den.e1, .int .i64 rv169.1.Den.e2, .slice p170 rv169.1.Taps.length k171, .int .i64 rv169.1.Factor, .int .i64 rv169.1.Shift] 26, .row p92 sv18.2.2.1.length k93 c91 26 10, .row p170 rv169.1.Taps.length k171 c173 3 1] [SlA p174 rv169.2.L.length k175 rv169.2.L, SlA none ([] : List Stage).length 0 ([] : List Stage), RowA c91 sv18.2.2.1, RowA c173 rv169.1.Taps] w) ?_ ?_
   ·refine wp_cond_split (hs.ev rfl) (fun h199 => ?_) (fun h199 => ?_)
    ·have hsh := ite_t hsh h199
     refine sr ?_
     refine mv hs rfl rfl fun a hs => ?_
     refine sv hs (y_fieldAddr (o' := 8) Try.runUnderlying26 rfl Try.sizeOf3 rfl rfl rfl) rfl fun a hs => ?_
     refine sv hs (y_loadB1 (hw.ownAt 0 rfl) rfl Try.isAgg3 rfl) rfl fun a hs => ?_
     refine sv hs (y_mul rfl rfl) rfl fun a hs => ?_
     obtain ⟨n201, h200, hsh⟩ := bind_t hsh
     refine sv hs (y_assignI rfl h200) rfl fun a hs => ?_
     refine nl ?_
     refine sr ?_
     refine mv hs rfl rfl fun a hs => ?_
     refine sv hs (y_gtr rfl rfl) rfl fun a hs => ?_
     refine nl ?_
     refine wp_cond_split (hs.ev rfl) (fun h203 => ?_) (fun h203 => ?_)
     ·have hsh := ite_t hsh h203
      refine wp_exit ?_
      refine then_exit ?_
      refine then_exit ?_
      refine blk_other rfl ?_
      refine then_exit ?_
      refine then_exit ?_
      refine blk_exit ?_
      have hsh := oi hsh
      subst hsh
      have h204 := hd127 _ rfl
      subst h204
      refine then_normal ?_
      exact ⟨p174, k175, c91, p92, k93, Sv177, (hs.wk rfl), (hw.ft [2, 3, 4, 5] [0, 3, 4] (by decide) rfl rfl)⟩
     have hsh := ite_f hsh h203
     refine wp_skip ?_
     refine then_normal ?_
     exact ⟨n201, Sv177, hsh, (hs.wk rfl), (hw.ft [2, 3, 4, 0, 5, 1] [0, 3, 4, 1] (by decide) rfl rfl)⟩
    have hsh := ite_f hsh h199
    refine wp_skip ?_
    refine then_normal ?_
    exact ⟨sv18.2.2.2.1, Sv177, hsh, (hs.wk rfl), (hw.ft [2, 3, 4, 0, 5, 1] [0, 3, 4, 1] (by decide) rfl rfl)⟩
   rintro a w ⟨n188, Sv187, hsh, hs, hw⟩
   delta made_Dice_Response_j1 at hsh
   refine then_normal ?_
   refine wp_region_lit ?_
   refine sv hs (y_fieldAddr (o' := 0) Try.runUnderlying37 rfl Try.sizeOf35 rfl rfl rfl) rfl fun a hs => ?_
   refine sv hs (y_loadB1 (hw.ownAt 2 rfl) rfl Try.isAgg35 rfl) rfl fun a hs => ?_
   refine sv hs (y_loadBA (hw.ownAt 3 rfl) rfl Try.isAgg26 Try.sizeOf26 rfl rfl) rfl fun a hs => ?_
   obtain ⟨Sv191, hw⟩ := w_share (α := Int) hw 5 rfl 3 rfl
   refine w_litSlice (α := Stage) (vs := [.agg #[.int .i64 rv169.1.Kind, .int .i64 rv169.1.Num.e0, .int .i64 rv169.1.Num.e1, .int .i64 rv169.1.Num.e2, .int .i64 rv169.1.Den.e0, .int .i64 rv169.1.Den.e1, .int .i64 rv169.1.Den.e2, .slice p170 rv169.1.Taps.length k171, .int .i64 rv169.1.Factor, .int .i64 rv169.1.Shift]]) (cs := [.int .i64 rv169.1.Kind, .int .i64 rv169.1.Num.e0, .int .i64 rv169.1.Num.e1, .int .i64 rv169.1.Num.e2, .int .i64 rv169.1.Den.e0, .int .i64 rv169.1.Den.e1, .int .i64 rv169.1.Den.e2, .slice p170 rv169.1.Taps.length k171, .int .i64 rv169.1.Factor, .int .i64 rv169.1.Shift]) (xs := ([rv169.1] : List Stage)) hs hw El35 rfl rfl rfl rfl rfl rfl ⟨⟨_, _, _, _, _, _, _, _, _, _, rfl, rfl, rfl, rfl, rfl, rfl, rfl, rfl, ⟨_, _, _, rfl, hw.envAt 0 rfl⟩, rfl, rfl⟩, rfl⟩ rfl trivial rfl fun b190 a w hs hw => ?_
   obtain ⟨l193, h192, hsh⟩ := bind_t hsh
   refine w_appendR (α := Stage) hs hw El35 5 rfl rfl rfl 4 rfl 0 rfl 0 rfl h192 rfl trivial ?_
   intro p194 k195 c196 a w hs hw
   refine sv hs (y_fieldAddr (o' := 0) Try.runUnderlying37 rfl Try.sizeOf35 rfl rfl rfl) rfl fun a hs => ?_
   refine w_store (m := 1) (cs' := [.slice p194 l193.length k195]) hs hw 3 rfl rfl rfl Try.sizeOf35 rfl rfl rfl rfl trivial ?_
   intro a w hs hw
   refine wpList_nil ?_
   refine blk_normal ?_
   refine then_normal ?_
   refine wp_region_lit ?_
   refine mv hs rfl rfl fun a hs => ?_
   refine sv hs (y_sub rfl rfl) rfl fun a hs => ?_
   obtain ⟨i198, h197, hsh⟩ := bind_t hsh
   refine sv hs (y_assignI rfl h197) rfl fun a hs => ?_
   refine nl ?_
   exact ⟨_, (Option.some.inj hsh).symm, p174, k175, c196, p194, k195, Sv191, (hs.wk rfl), (hw.ft [1, 2, 3, 5] [3, 4, 0] (by decide) rfl rfl)⟩
  have hsh := ite_f hsh h138
  refine wp_exit ?_
  refine then_exit ?_
  refine then_exit ?_
  refine blk_exit ?_
  have hsh := oi hsh
  subst hsh
  have h205 := hd127 _ rfl
  subst h205
  refine then_normal ?_
  exact ⟨p89, k90, c91, p92, k93, Sv94, (hs.wk rfl), (hw.ft [0, 1, 2, 3] [0, 1, 2] (by decide) rfl rfl)⟩
 rintro a w ⟨p131, k132, c133, p134, k135, Sv136, hs, hw⟩
 refine then_normal ?_
 refine sr ?_
 refine sv hs (y_loadBA (hw.ownAt 2 rfl) rfl Try.isAgg37 Try.sizeOf37 rfl rfl) rfl fun a hs => ?_
 refine w_store (m := 1) (cs' := [.slice p134 e130.2.2.length k135]) hs hw 1 rfl rfl rfl Try.sizeOf37 rfl rfl rfl rfl trivial ?_
 intro a w hs hw
 refine nl ?_
 have hsh := oi hsh
 subst hsh
 refine wp_ret ?_
 exact ret1 hs rfl (rv_cell hw 1 rfl rfl Try.isAgg37 Try.sizeOf37 rfl) (hw.ret ⟨p134, k135, c133, p131, k132, rfl, (hw.outs [3, 0] (by decide) rfl), (hw.envAt 2 rfl), (hw.envAt 0 rfl)⟩)

abbrev ref18_Copy_rd (w0 : World) (X : List Nat) (r : Response) : (Nat → Prop) → World → Value → Prop := fun S w v => ∃ (p0_0 : Option Addr) (k0_0 : Nat) (c0_0 : List Value), v = .agg #[.slice p0_0 r.Stages.length k0_0] ∧ Outs X w0 S w [.row p0_0 r.Stages.length k0_0 c0_0 26 10] ∧ (RowA c0_0 r.Stages).p S w
set_option maxHeartbeats 4000000 in
set_option maxRecDepth 100000 in
theorem ref18_Copy_ok {w0 : World} {S0 : Nat → Prop} {p2 : Option Addr} {k3 : Nat} {r1 : Response} {r : Response} (hsh : ref18_Copy r1 = some r) (hS : ∀ b, S0 b → b < w0.heap.size) (h4 : (SlA p2 r1.Stages.length k3 r1.Stages).p S0 w0) : Calls Try.prog 21 #[.agg #[.slice p2 r1.Stages.length k3]] w0 (Ret ([]) w0 S0 (ref18_Copy_rd w0 ([]) r)) := by
 refine calls_of_wp Try.func21 rfl ?_
 have hs := Sl.enter #[.agg #[.slice p2 r1.Stages.length k3]] 29 [(0, .agg #[.slice p2 r1.Stages.length k3])] rfl ⟨rfl, trivial⟩
 have hw := Wd.enter (E := []) hS (fun _ h => (by cases h))
 have hw := hw.addE h4
 delta ref18_Copy at hsh
 refine sr ?_
 refine w_box (cs := [.slice p2 r1.Stages.length k3]) hs hw rfl rfl rfl trivial ?_
 intro b5 a w hs hw
 refine w_alloc (cs := [.slice none ([] : List Stage).length 0]) hs hw Try.zeroValue37 rfl rfl trivial ?_
 intro b6 a w hs hw
 refine nl ?_
 refine sr ?_
 refine w_alloc (cs := [.slice none ([] : List Stage).length 0]) hs hw Try.zeroValue37 rfl rfl trivial ?_
 intro b7 a w hs hw
 refine nl ?_
 refine wp_seq ?_
 refine sr ?_
 refine av hs rfl rfl fun a hs => ?_
 refine nl ?_
 obtain ⟨e122, h194, hsh⟩ := bind_t hsh
 refine wp_join (fun a w => ∃ (c123 : List Value) (p124 : Option Addr) (k125 : Nat) (Sv126 : Nat → Prop), Sl 29 [(2, .pointer (some ⟨b6, 0, none⟩)), (3, .pointer (some ⟨b7, 0, none⟩))] a ∧ Wd ⟨w0, S0, []⟩ Sv126 [.box b6 [.slice none ([] : List Stage).length 0] 37, .box b7 [.slice p124 e122.length k125] 37, .row p124 e122.length k125 c123 26 10] [SlA none ([] : List Stage).length 0 ([] : List Stage), RowA c123 e122] w) ?_ ?_
 ·refine wp_block ?_
  have hw := hw.nilRow Stage 26
  have hw := hw.addE (e := SlA (α := Stage) none 0 0 []) nil_sl
  refine wp_while (fun sv8 a w => ∃ (c81 : List Value) (p82 : Option Addr) (k83 : Nat) (Sv84 : Nat → Prop), Sl 29 [(1, .pointer (some ⟨b5, 0, none⟩)), (2, .pointer (some ⟨b6, 0, none⟩)), (3, .pointer (some ⟨b7, 0, none⟩)), (4, .int .i64 sv8.2)] a ∧ Wd ⟨w0, S0, []⟩ Sv84 [.box b5 [.slice p2 r1.Stages.length k3] 37, .box b6 [.slice none ([] : List Stage).length 0] 37, .box b7 [.slice p82 sv8.1.length k83] 37, .row p82 sv8.1.length k83 c81 26 10] [SlA p2 r1.Stages.length k3 r1.Stages, SlA none ([] : List Stage).length 0 ([] : List Stage), RowA c81 sv8.1] w) (([] : List Stage), 0) h194 ⟨[], none, 0, S0, (hs.wk rfl), (hw.ft [3, 2, 1, 0] [2, 0, 1] (by decide) rfl rfl)⟩ ?_
  clear h194
  repeat clear hsh
  rintro sv8 a w tv120 ⟨c81, p82, k83, Sv84, hs, hw⟩ hsh hd119
  delta ref18_Copy_l1 at hsh
  refine wp_seq ?_
  refine sr ?_
  refine mv hs rfl rfl fun a hs => ?_
  refine sv hs (y_fieldAddr (o' := 0) Try.runUnderlying37 rfl Try.sizeOf35 rfl rfl rfl) rfl fun a hs => ?_
  refine sv hs (y_loadB1 (hw.ownAt 0 rfl) rfl Try.isAgg35 rfl) rfl fun a hs => ?_
  refine sv hs (y_len Try.runUnderlying35 rfl) rfl fun a hs => ?_
  refine sv hs (y_lss rfl rfl) rfl fun a hs => ?_
  refine nl ?_
  refine wp_cond_split (hs.ev rfl) (fun h128 => ?_) (fun h128 => ?_)
  ·have hsh := ite_t hsh h128
   refine wp_skip ?_
   refine then_normal ?_
   refine wp_seq ?_
   refine wp_block ?_
   refine sr ?_
   refine sv hs (y_fieldAddr (o' := 0) Try.runUnderlying37 rfl Try.sizeOf35 rfl rfl rfl) rfl fun a hs => ?_
   refine sv hs (y_loadB1 (hw.ownAt 0 rfl) rfl Try.isAgg35 rfl) rfl fun a hs => ?_
   refine mv hs rfl rfl fun a hs => ?_
   obtain ⟨x162, h160, hsh⟩ := bind_t hsh
   obtain ⟨b168, o169, q166, c167, h170, h163, h164, h165, h161⟩ := hw.elemV 0 rfl h160
   have hsv171 := hs
   have hwv172 := hw
   subst h170
   have hs := hsv171
   have hw := hwv172
   obtain ⟨_, _, _, _, _, _, _, _, _, _, rfl, rfl, rfl, rfl, rfl, rfl, rfl, rfl, ⟨p173, n174, k175, rfl, h176⟩, rfl, rfl⟩ := h161
   obtain rfl := h176.1
   have hw := hw.addE (e := SlA p173 _ k175 x162.Taps) h176
   have hw := hw.addE h165
   refine sv hs (y_indexAt Try.runUnderlying35 Try.sizeOf26 rfl rfl h163.1 h163.2 h164) rfl fun a hs => ?_
   refine sv hs (y_loadEA (j := 0) (hw.ceAt 0 rfl) rfl Try.isAgg26 Try.sizeOf26 rfl rfl) rfl fun a hs => ?_
   refine w_alloc (cs := [.int .i64 0, .int .i64 0, .int .i64 0, .int .i64 0, .int .i64 0, .int .i64 0, .int .i64 0, .slice none ([] : List Int).length 0, .int .i64 0, .int .i64 0]) hs hw Try.zeroValue26 rfl rfl trivial ?_
   intro b177 a w hs hw
   refine w_store (m := 10) (cs' := [.int .i64 x162.Kind, .int .i64 x162.Num.e0, .int .i64 x162.Num.e1, .int .i64 x162.Num.e2, .int .i64 x162.Den.e0, .int .i64 x162.Den.e1, .int .i64 x162.Den.e2, .slice p173 x162.Taps.length k175, .int .i64 x162.Factor, .int .i64 x162.Shift]) hs hw 0 rfl rfl rfl Try.sizeOf26 rfl rfl rfl rfl trivial ?_
   intro a w hs hw
   refine nl ?_
   refine sr ?_
   refine sv hs (y_fieldAddr (o' := 7) Try.runUnderlying26 rfl Try.sizeOf24 rfl rfl rfl) rfl fun a hs => ?_
   refine sv hs (y_loadB1 (hw.ownAt 0 rfl) rfl Try.isAgg24 rfl) rfl fun a hs => ?_
   obtain ⟨l179, h178, hsh⟩ := bind_t hsh
   have hw := hw.nilRow Int 3
   refine w_appendE (α := Int) hs hw El24 0 rfl rfl rfl 0 rfl 2 rfl h178 rfl trivial ?_
   intro p180 k181 c182 a w hs hw
   refine sv hs (y_fieldAddr (o' := 7) Try.runUnderlying26 rfl Try.sizeOf24 rfl rfl rfl) rfl fun a hs => ?_
   refine w_store (m := 1) (cs' := [.int .i64 x162.Kind, .int .i64 x162.Num.e0, .int .i64 x162.Num.e1, .int .i64 x162.Num.e2, .int .i64 x162.Den.e0, .int .i64 x162.Den.e1, .int .i64 x162.Den.e2, .slice p180 l179.length k181, .int .i64 x162.Factor, .int .i64 x162.Shift]) hs hw 1 rfl rfl rfl Try.sizeOf24 rfl rfl rfl rfl trivial ?_
   intro a w hs hw
   refine nl ?_
   refine wp_region_lit ?_
   refine sv hs (y_fieldAddr (o' := 0) Try.runUnderlying37 rfl Try.sizeOf35 rfl rfl rfl) rfl fun a hs => ?_
   refine sv hs (y_loadB1 (hw.ownAt 4 rfl) rfl Try.isAgg35 rfl) rfl fun a hs => ?_
   refine sv hs (y_loadBA (hw.ownAt 1 rfl) rfl Try.isAgg26 Try.sizeOf26 rfl rfl) rfl fun a hs => ?_
   obtain ⟨Sv185, hw⟩ := w_share (α := Int) hw 0 rfl 0 rfl
   refine w_litSlice (α := Stage) (vs := [.agg #[.int .i64 x162.Kind, .int .i64 x162.Num.e0, .int .i64 x162.Num.e1, .int .i64 x162.Num.e2, .int .i64 x162.Den.e0, .int .i64 x162.Den.e1, .int .i64 x162.Den.e2, .slice p180 l179.length k181, .int .i64 x162.Factor, .int .i64 x162.Shift]]) (cs := [.int .i64 x162.Kind, .int .i64 x162.Num.e0, .int .i64 x162.Num.e1, .int .i64 x162.Num.e2, .int .i64 x162.Den.e0, .int .i64 x162.Den.e1, .int .i64 x162.Den.e2, .slice p180 l179.length k181, .int .i64 x162.Factor, .int .i64 x162.Shift]) (xs := ([(⟨x162.Kind, x162.Num, x162.Den, l179, x162.Factor, x162.Shift⟩ : Stage)] : List Stage)) hs hw El35 rfl rfl rfl rfl rfl rfl ⟨⟨_, _, _, _, _, _, _, _, _, _, rfl, rfl, rfl, rfl, rfl, rfl, rfl, rfl, ⟨_, _, _, rfl, hw.envAt 0 rfl⟩, rfl, rfl⟩, rfl⟩ rfl trivial rfl fun b184 a w hs hw => ?_
   obtain ⟨l187, h186, hsh⟩ := bind_t hsh
   refine w_appendR (α := Stage) hs hw El35 5 rfl rfl rfl 8 rfl 0 rfl 0 rfl h186 rfl trivial ?_
   intro p188 k189 c190 a w hs hw
   refine sv hs (y_fieldAddr (o' := 0) Try.runUnderlying37 rfl Try.sizeOf35 rfl rfl rfl) rfl fun a hs => ?_
   refine w_store (m := 1) (cs' := [.slice p188 l187.length k189]) hs hw 4 rfl rfl rfl Try.sizeOf35 rfl rfl rfl rfl trivial ?_
   intro a w hs hw
   refine wpList_nil ?_
   refine blk_normal ?_
   refine then_normal ?_
   refine wp_region_lit ?_
   refine mv hs rfl rfl fun a hs => ?_
   refine sv hs (y_add rfl rfl) rfl fun a hs => ?_
   obtain ⟨i192, h191, hsh⟩ := bind_t hsh
   refine sv hs (y_assignI rfl h191) rfl fun a hs => ?_
   refine nl ?_
   exact ⟨_, (Option.some.inj hsh).symm, c190, p188, k189, Sv185, (hs.wk rfl), (hw.ft [2, 3, 4, 5] [7, 8, 0] (by decide) rfl rfl)⟩
  have hsh := ite_f hsh h128
  refine wp_exit ?_
  refine then_exit ?_
  refine then_exit ?_
  refine blk_exit ?_
  have hsh := oi hsh
  subst hsh
  have h193 := hd119 _ rfl
  subst h193
  refine then_normal ?_
  exact ⟨c81, p82, k83, Sv84, (hs.wk rfl), (hw.ft [1, 2, 3] [1, 2] (by decide) rfl rfl)⟩
 rintro a w ⟨c123, p124, k125, Sv126, hs, hw⟩
 refine then_normal ?_
 refine sr ?_
 refine sv hs (y_loadBA (hw.ownAt 1 rfl) rfl Try.isAgg37 Try.sizeOf37 rfl rfl) rfl fun a hs => ?_
 refine w_store (m := 1) (cs' := [.slice p124 e122.length k125]) hs hw 0 rfl rfl rfl Try.sizeOf37 rfl rfl rfl rfl trivial ?_
 intro a w hs hw
 refine nl ?_
 have hsh := oi hsh
 subst hsh
 refine wp_ret ?_
 exact ret1 hs rfl (rv_cell hw 0 rfl rfl Try.isAgg37 Try.sizeOf37 rfl) (hw.ret ⟨p124, k125, c123, rfl, (hw.outs [2] (by decide) rfl), (hw.envAt 1 rfl)⟩)

abbrev law18_odd_rd (w0 : World) (X : List Nat) (b2 : Nat) (r : (Stage × Dice)) : (Nat → Prop) → World → Value → Prop := fun S w v => ∃ (p0_7 : Option Addr) (k0_7 : Nat) (pq0_0 : Option Addr) (kq0_0 : Nat), v = .agg #[.int .i64 r.1.Kind, .int .i64 r.1.Num.e0, .int .i64 r.1.Num.e1, .int .i64 r.1.Num.e2, .int .i64 r.1.Den.e0, .int .i64 r.1.Den.e1, .int .i64 r.1.Den.e2, .slice p0_7 r.1.Taps.length k0_7, .int .i64 r.1.Factor, .int .i64 r.1.Shift] ∧ Outs X w0 S w [.box b2 [.slice pq0_0 r.2.L.length kq0_0, .int .i64 r.2.At] 84] ∧ (SlA p0_7 r.1.Taps.length k0_7 r.1.Taps).p S w ∧ (SlA pq0_0 r.2.L.length kq0_0 r.2.L).p S w
abbrev D22t1 (b10 : Nat) (b11 : Nat) (b2 : Nat) : Slots := [(0, .pointer (some ⟨b2, 0, none⟩)), (3, .pointer (some ⟨b10, 0, none⟩)), (4, .pointer (some ⟨b11, 0, none⟩))]
abbrev D22t2 (b10 : Nat) (b1120 : Nat) (b1122 : Nat) (b1124 : Nat) (b1130 : Nat) (b2 : Nat) (k1151 : Nat) (l1126 : (List Int)) (p1127 : Option Addr) (p1149 : Option Addr) (rv1132 : (Int × Dice)) (x1138 : (List Int)) : Vs := [(0, 49, .slice (some ⟨b1120, 0, none⟩) ([0] : List Int).length ([0] : List Int).length), (1, 50, .slice (some ⟨b1122, 0, none⟩) ([1, (-1)] : List Int).length ([1, (-1)] : List Int).length), (2, 51, .slice (some ⟨b1124, 0, none⟩) ([1048577] : List Int).length ([1048577] : List Int).length), (3, 52, .slice p1127 l1126.length l1126.length), (4, 53, .slice (some ⟨b1130, 0, none⟩) ([([] : List Int), ([0] : List Int), ([1, (-1)] : List Int), ([1048577] : List Int), l1126] : List (List Int)).length ([([] : List Int), ([0] : List Int), ([1, (-1)] : List Int), ([1048577] : List Int), l1126] : List (List Int)).length), (5, 54, .pointer (some ⟨b2, 0, none⟩)), (6, 55, .int .i64 rv1132.1), (7, 56, .pointer (some ⟨b1130, (0 + (rv1132.1).toNat * 1), none⟩)), (8, 57, .slice p1149 x1138.length k1151), (9, 58, .pointer (some ⟨b10, 7, none⟩))]
set_option maxHeartbeats 4000000 in
set_option maxRecDepth 100000 in
theorem law18_odd_ok {w0 : World} {S0 : Nat → Prop} {b2 : Nat} {p3 : Option Addr} {k4 : Nat} {p7 : Option Addr} {k8 : Nat} {d1 : Dice} {s6 : Stage} {r : (Stage × Dice)} (hsh : law18_odd d1 s6 = some r) (hS : ∀ b, S0 b → b < w0.heap.size) (hin : Ins S0 w0 [.box b2 [.slice p3 d1.L.length k4, .int .i64 d1.At] 84]) (h5 : (SlA p3 d1.L.length k4 d1.L).p S0 w0) (h9 : (SlA p7 s6.Taps.length k8 s6.Taps).p S0 w0) : Calls Try.prog 22 #[.pointer (some ⟨b2, 0, none⟩), .agg #[.int .i64 s6.Kind, .int .i64 s6.Num.e0, .int .i64 s6.Num.e1, .int .i64 s6.Num.e2, .int .i64 s6.Den.e0, .int .i64 s6.Den.e1, .int .i64 s6.Den.e2, .slice p7 s6.Taps.length k8, .int .i64 s6.Factor, .int .i64 s6.Shift]] w0 (Ret (blks [.box b2 [.slice p3 d1.L.length k4, .int .i64 d1.At] 84]) w0 S0 (law18_odd_rd w0 (blks [.box b2 [.slice p3 d1.L.length k4, .int .i64 d1.At] 84]) b2 r)) := by
 refine calls_of_wp Try.func22 rfl ?_
 have hs := Sl.enter #[.pointer (some ⟨b2, 0, none⟩), .agg #[.int .i64 s6.Kind, .int .i64 s6.Num.e0, .int .i64 s6.Num.e1, .int .i64 s6.Num.e2, .int .i64 s6.Den.e0, .int .i64 s6.Den.e1, .int .i64 s6.Den.e2, .slice p7 s6.Taps.length k8, .int .i64 s6.Factor, .int .i64 s6.Shift]] 67 [(0, .pointer (some ⟨b2, 0, none⟩)), (1, .agg #[.int .i64 s6.Kind, .int .i64 s6.Num.e0, .int .i64 s6.Num.e1, .int .i64 s6.Num.e2, .int .i64 s6.Den.e0, .int .i64 s6.Den.e1, .int .i64 s6.Den.e2, .slice p7 s6.Taps.length k8, .int .i64 s6.Factor, .int .i64 s6.Shift])] rfl ⟨rfl, rfl, trivial⟩
 have hw := Wd.enterI hS hin
 have hw := hw.addE h5
 have hw := hw.addE h9
 delta law18_odd at hsh
 refine sr ?_
 refine w_box (cs := [.int .i64 s6.Kind, .int .i64 s6.Num.e0, .int .i64 s6.Num.e1, .int .i64 s6.Num.e2, .int .i64 s6.Den.e0, .int .i64 s6.Den.e1, .int .i64 s6.Den.e2, .slice p7 s6.Taps.length k8, .int .i64 s6.Factor, .int .i64 s6.Shift]) hs hw rfl rfl rfl trivial ?_
 intro b10 a w hs hw
 refine w_alloc (cs := [.int .i64 0, .int .i64 0, .int .i64 0, .int .i64 0, .int .i64 0, .int .i64 0, .int .i64 0, .slice none ([] : List Int).length 0, .int .i64 0, .int .i64 0]) hs hw Try.zeroValue26 rfl rfl trivial ?_
 intro b11 a w hs hw
 refine nl ?_
 refine sr ?_
 refine sv hs (y_fieldAddr (o' := 7) Try.runUnderlying26 rfl Try.sizeOf24 rfl rfl rfl) rfl fun a hs => ?_
 refine sv hs (y_loadB1 (hw.ownAt 1 rfl) rfl Try.isAgg24 rfl) rfl fun a hs => ?_
 obtain ⟨l13, h12, hsh⟩ := bind_t hsh
 have hw := hw.nilRow Int 3
 refine w_appendE (α := Int) hs hw El24 0 rfl rfl rfl 0 rfl 1 rfl h12 rfl trivial ?_
 intro p14 k15 c16 a w hs hw
 refine sv hs (y_fieldAddr (o' := 7) Try.runUnderlying26 rfl Try.sizeOf24 rfl rfl rfl) rfl fun a hs => ?_
 refine w_store (m := 1) (cs' := [.int .i64 s6.Kind, .int .i64 s6.Num.e0, .int .i64 s6.Num.e1, .int .i64 s6.Num.e2, .int .i64 s6.Den.e0, .int .i64 s6.Den.e1, .int .i64 s6.Den.e2, .slice p14 l13.length k15, .int .i64 s6.Factor, .int .i64 s6.Shift]) hs hw 2 rfl rfl rfl Try.sizeOf24 rfl rfl rfl rfl trivial ?_
 intro a w hs hw
 refine nl ?_
 refine wp_seq ?_
 refine sr ?_
 refine mv hs rfl rfl fun a hs => ?_
 obtain ⟨rv18, h17, hsh⟩ := bind_t hsh
 refine st_callR hs (made_Dice_Next_ok h17 hw.dom (hw.ins [3] (by decide) rfl) (hw.envAt 3 rfl)) (do_call Try.call24 rfl) trivial rfl rfl ?_
 intro v25 Sv22 w a h23 h24 hs
 obtain ⟨p19, k20, rfl, h26, h21⟩ := h24
 have hw := hw.callO [3] [0, 1, 2] (by decide) rfl h23 h26
 have hw := hw.addE (e := SlA p19 rv18.2.L.length k20 rv18.2.L) h21
 refine nl ?_
 refine wp_block ?_
 refine sr ?_
 refine sv hs (y_eql rfl rfl) rfl fun a hs => ?_
 refine av hs rfl rfl fun a hs => ?_
 refine nl ?_
 refine wp_join (fun a w => ∃ (x441 : (List Int)) (x442 : Int) (x443 : Int) (x444 : Int) (x445 : Int) (x446 : Int) (x447 : Int) (x448 : Int) (x449 : Int) (x450 : (List Int)) (x451 : Int) (x452 : Int) (p436 : Option Addr) (k437 : Nat) (p438 : Option Addr) (k439 : Nat) (Sv440 : Nat → Prop), law18_odd_j1 x441 x442 x443 x444 x445 x446 x447 x448 x449 x450 x451 x452 = some r ∧ Sl 67 [(3, .pointer (some ⟨b10, 0, none⟩)), (4, .pointer (some ⟨b11, 0, none⟩))] a ∧ Wd ⟨w0, S0, blks [.box b2 [.slice p3 d1.L.length k4, .int .i64 d1.At] 84]⟩ Sv440 [.box b2 [.slice p436 x441.length k437, .int .i64 x442] 84, .box b10 [.int .i64 x443, .int .i64 x444, .int .i64 x445, .int .i64 x446, .int .i64 x447, .int .i64 x448, .int .i64 x449, .slice p438 x450.length k439, .int .i64 x451, .int .i64 x452] 26, .box b11 [.int .i64 0, .int .i64 0, .int .i64 0, .int .i64 0, .int .i64 0, .int .i64 0, .int .i64 0, .slice none ([] : List Int).length 0, .int .i64 0, .int .i64 0] 26] [SlA p436 x441.length k437 x441, SlA p438 x450.length k439 x450, SlA none ([] : List Int).length 0 ([] : List Int)] w) ?_ ?_
 ·refine wp_cond_split (hs.ev rfl) (fun h453 => ?_) (fun h453 => ?_)
  ·have hsh := ite_t hsh h453
   refine wp_region_lit ?_
   refine mv hs rfl rfl fun a hs => ?_
   obtain ⟨rv455, h454, hsh⟩ := bind_t hsh
   refine st_callR hs (made_Dice_Next_ok h454 hw.dom (hw.ins [0] (by decide) rfl) (hw.envAt 0 rfl)) (do_call Try.call24 rfl) trivial rfl rfl ?_
   intro v462 Sv459 w a h460 h461 hs
   obtain ⟨p456, k457, rfl, h463, h458⟩ := h461
   have hw := hw.callO [0] [1, 2, 3] (by decide) rfl h460 h463
   have hw := hw.addE (e := SlA p456 rv455.2.L.length k457 rv455.2.L) h458
   refine sv hs (y_sub rfl rfl) rfl fun a hs => ?_
   refine sv hs (y_fieldAddr (o' := 0) Try.runUnderlying26 rfl Try.sizeOf3 rfl rfl rfl) rfl fun a hs => ?_
   refine w_store (m := 1) (cs' := [.int .i64 (w64 (rv455.1 - 1)), .int .i64 s6.Num.e0, .int .i64 s6.Num.e1, .int .i64 s6.Num.e2, .int .i64 s6.Den.e0, .int .i64 s6.Den.e1, .int .i64 s6.Den.e2, .slice p14 l13.length k15, .int .i64 s6.Factor, .int .i64 s6.Shift]) hs hw 3 rfl rfl rfl Try.sizeOf3 rfl rfl rfl rfl trivial ?_
   intro a w hs hw
   refine nl ?_
   obtain ⟨Sv464, hw⟩ := w_share (α := Int) hw 1 rfl 2 rfl
   have hw := hw.addE (e := SlA (α := Int) none 0 0 []) nil_sl
   exact ⟨rv455.2.L, rv455.2.At, (w64 (rv455.1 - 1)), s6.Num.e0, s6.Num.e1, s6.Num.e2, s6.Den.e0, s6.Den.e1, s6.Den.e2, l13, s6.Factor, s6.Shift, p456, k457, p14, k15, Sv464, hsh, (hs.wk rfl), (hw.ft [0, 2, 1] [2, 1, 0] (by decide) rfl rfl)⟩
  have hsh := ite_f hsh h453
  refine sr ?_
  refine sv hs (y_eql rfl rfl) rfl fun a hs => ?_
  refine av hs rfl rfl fun a hs => ?_
  refine nl ?_
  refine wp_join (fun a w => ∃ (x639 : (List Int)) (x640 : Int) (x641 : Int) (x642 : Int) (x643 : Int) (x644 : Int) (x645 : Int) (x646 : Int) (x647 : (List Int)) (x648 : Int) (x649 : Int) (p634 : Option Addr) (k635 : Nat) (p636 : Option Addr) (k637 : Nat) (Sv638 : Nat → Prop), law18_odd_j2 s6 x639 x640 x641 x642 x643 x644 x645 x646 x647 x648 x649 = some r ∧ Sl 67 [(3, .pointer (some ⟨b10, 0, none⟩)), (4, .pointer (some ⟨b11, 0, none⟩))] a ∧ Wd ⟨w0, S0, blks [.box b2 [.slice p3 d1.L.length k4, .int .i64 d1.At] 84]⟩ Sv638 [.box b2 [.slice p634 x639.length k635, .int .i64 x640] 84, .box b10 [.int .i64 s6.Kind, .int .i64 x641, .int .i64 x642, .int .i64 x643, .int .i64 x644, .int .i64 x645, .int .i64 x646, .slice p636 x647.length k637, .int .i64 x648, .int .i64 x649] 26, .box b11 [.int .i64 0, .int .i64 0, .int .i64 0, .int .i64 0, .int .i64 0, .int .i64 0, .int .i64 0, .slice none ([] : List Int).length 0, .int .i64 0, .int .i64 0] 26] [SlA p634 x639.length k635 x639, SlA p636 x647.length k637 x647, SlA none ([] : List Int).length 0 ([] : List Int)] w) ?_ ?_
  ·refine wp_cond_split (hs.ev rfl) (fun h650 => ?_) (fun h650 => ?_)
   ·have hsh := ite_t hsh h650
    refine wp_region_lit ?_
    refine mv hs rfl rfl fun a hs => ?_
    obtain ⟨rv652, h651, hsh⟩ := bind_t hsh
    refine st_callR hs (made_Dice_Next_ok h651 hw.dom (hw.ins [0] (by decide) rfl) (hw.envAt 0 rfl)) (do_call Try.call24 rfl) trivial rfl rfl ?_
    intro v659 Sv656 w a h657 h658 hs
    obtain ⟨p653, k654, rfl, h660, h655⟩ := h658
    have hw := hw.callO [0] [1, 2, 3] (by decide) rfl h657 h660
    have hw := hw.addE (e := SlA p653 rv652.2.L.length k654 rv652.2.L) h655
    refine mv hs rfl rfl fun a hs => ?_
    refine w_litSlice (α := Int) (vs := [.int .i64 (-1), .int .i64 0, .int .i64 1048576, .int .i64 1048577]) (cs := [.int .i64 (-1), .int .i64 0, .int .i64 1048576, .int .i64 1048577]) (xs := ([(-1), 0, 1048576, 1048577] : List Int)) hs hw El24 rfl rfl rfl rfl rfl rfl ⟨⟨_, rfl, rfl⟩, ⟨⟨_, rfl, rfl⟩, ⟨⟨_, rfl, rfl⟩, ⟨⟨_, rfl, rfl⟩, rfl⟩⟩⟩⟩ rfl trivial rfl fun b662 a w hs hw => ?_
    obtain ⟨rv664, h663, hsh⟩ := bind_t hsh
    obtain ⟨Sv668, hw⟩ := w_share (α := Int) hw 0 rfl 0 rfl
    refine st_callR hs (made_Dice_Pick_ok h663 hw.dom (hw.ins [0] (by decide) rfl) (hw.envAt 2 rfl) (hw.envAt 0 rfl)) (do_call Try.call25 rfl) trivial rfl rfl ?_
    intro v672 Sv669 w a h670 h671 hs
    obtain ⟨p665, k666, rfl, h673, h667⟩ := h671
    have hw := hw.callO [0] [1, 2, 3] (by decide) rfl h670 h673
    have hw := hw.addE (e := SlA p665 rv664.2.L.length k666 rv664.2.L) h667
    refine sv hs (y_fieldAddr (o' := 1) Try.runUnderlying26 rfl Try.sizeOf23 rfl rfl rfl) rfl fun a hs => ?_
    obtain ⟨q675, h674, hsh⟩ := bind_t hsh
    refine sv hs (y_indexAtA (q := 1 + q675) Try.runUnderlying23 Try.sizeOf3 rfl rfl (ixB_t h674).1 (ixB_t h674).2.1 (by rw [(ixB_t h674).2.2.1, Nat.mul_one])) rfl fun a hs => ?_
    refine w_storeAV (cs' := [.int .i64 s6.Kind, .int .i64 (bif Nat.beq q675 0 then rv664.1 else s6.Num.e0), .int .i64 (bif Nat.beq q675 1 then rv664.1 else s6.Num.e1), .int .i64 (bif Nat.beq q675 2 then rv664.1 else s6.Num.e2), .int .i64 s6.Den.e0, .int .i64 s6.Den.e1, .int .i64 s6.Den.e2, .slice p14 l13.length k15, .int .i64 s6.Factor, .int .i64 s6.Shift]) (n := 3) hs hw 3 rfl rfl rfl Try.sizeOf3 rfl rfl (ixB_t h674).2.2.2 rfl (match q675, (ixB_t h674).2.2.2 with | 0, _ => rfl | 1, _ => rfl | 2, _ => rfl | q + 3, h => absurd h (by omega)) trivial ?_
    intro a w hs hw
    refine nl ?_
    obtain ⟨Sv676, hw⟩ := w_share (α := Int) hw 1 rfl 5 rfl
    have hw := hw.addE (e := SlA (α := Int) none 0 0 []) nil_sl
    exact ⟨rv664.2.L, rv664.2.At, (bif Nat.beq q675 0 then rv664.1 else s6.Num.e0), (bif Nat.beq q675 1 then rv664.1 else s6.Num.e1), (bif Nat.beq q675 2 then rv664.1 else s6.Num.e2), s6.Den.e0, s6.Den.e1, s6.Den.e2, l13, s6.Factor, s6.Shift, p665, k666, p14, k15, Sv676, hsh, (hs.wk rfl), (hw.ft [0, 2, 1] [2, 1, 0] (by decide) rfl rfl)⟩
   have hsh := ite_f hsh h650
   refine sr ?_
   refine sv hs (y_eql rfl rfl) rfl fun a hs => ?_
   refine av hs rfl rfl fun a hs => ?_
   refine nl ?_
   refine wp_join (fun a w => ∃ (x812 : (List Int)) (x813 : Int) (x814 : Int) (x815 : Int) (x816 : Int) (x817 : (List Int)) (x818 : Int) (x819 : Int) (p807 : Option Addr) (k808 : Nat) (p809 : Option Addr) (k810 : Nat) (Sv811 : Nat → Prop), law18_odd_j3 s6 x812 x813 x814 x815 x816 x817 x818 x819 = some r ∧ Sl 67 [(3, .pointer (some ⟨b10, 0, none⟩)), (4, .pointer (some ⟨b11, 0, none⟩))] a ∧ Wd ⟨w0, S0, blks [.box b2 [.slice p3 d1.L.length k4, .int .i64 d1.At] 84]⟩ Sv811 [.box b2 [.slice p807 x812.length k808, .int .i64 x813] 84, .box b10 [.int .i64 s6.Kind, .int .i64 s6.Num.e0, .int .i64 s6.Num.e1, .int .i64 s6.Num.e2, .int .i64 x814, .int .i64 x815, .int .i64 x816, .slice p809 x817.length k810, .int .i64 x818, .int .i64 x819] 26, .box b11 [.int .i64 0, .int .i64 0, .int .i64 0, .int .i64 0, .int .i64 0, .int .i64 0, .int .i64 0, .slice none ([] : List Int).length 0, .int .i64 0, .int .i64 0] 26] [SlA p807 x812.length k808 x812, SlA p809 x817.length k810 x817, SlA none ([] : List Int).length 0 ([] : List Int)] w) ?_ ?_
   ·refine wp_cond_split (hs.ev rfl) (fun h820 => ?_) (fun h820 => ?_)
    ·have hsh := ite_t hsh h820
     refine wp_region_lit ?_
     refine mv hs rfl rfl fun a hs => ?_
     obtain ⟨rv822, h821, hsh⟩ := bind_t hsh
     refine st_callR hs (made_Dice_Next_ok h821 hw.dom (hw.ins [0] (by decide) rfl) (hw.envAt 0 rfl)) (do_call Try.call24 rfl) trivial rfl rfl ?_
     intro v829 Sv826 w a h827 h828 hs
     obtain ⟨p823, k824, rfl, h830, h825⟩ := h828
     have hw := hw.callO [0] [1, 2, 3] (by decide) rfl h827 h830
     have hw := hw.addE (e := SlA p823 rv822.2.L.length k824 rv822.2.L) h825
     refine mv hs rfl rfl fun a hs => ?_
     refine w_litSlice (α := Int) (vs := [.int .i64 0, .int .i64 1, .int .i64 (-1048576), .int .i64 (-1048577)]) (cs := [.int .i64 0, .int .i64 1, .int .i64 (-1048576), .int .i64 (-1048577)]) (xs := ([0, 1, (-1048576), (-1048577)] : List Int)) hs hw El24 rfl rfl rfl rfl rfl rfl ⟨⟨_, rfl, rfl⟩, ⟨⟨_, rfl, rfl⟩, ⟨⟨_, rfl, rfl⟩, ⟨⟨_, rfl, rfl⟩, rfl⟩⟩⟩⟩ rfl trivial rfl fun b832 a w hs hw => ?_
     obtain ⟨rv834, h833, hsh⟩ := bind_t hsh
     obtain ⟨Sv838, hw⟩ := w_share (α := Int) hw 0 rfl 0 rfl
     refine st_callR hs (made_Dice_Pick_ok h833 hw.dom (hw.ins [0] (by decide) rfl) (hw.envAt 2 rfl) (hw.envAt 0 rfl)) (do_call Try.call25 rfl) trivial rfl rfl ?_
     intro v842 Sv839 w a h840 h841 hs
     obtain ⟨p835, k836, rfl, h843, h837⟩ := h841
     have hw := hw.callO [0] [1, 2, 3] (by decide) rfl h840 h843
     have hw := hw.addE (e := SlA p835 rv834.2.L.length k836 rv834.2.L) h837
     refine sv hs (y_fieldAddr (o' := 4) Try.runUnderlying26 rfl Try.sizeOf23 rfl rfl rfl) rfl fun a hs => ?_
     obtain ⟨q845, h844, hsh⟩ := bind_t hsh
     refine sv hs (y_indexAtA (q := 4 + q845) Try.runUnderlying23 Try.sizeOf3 rfl rfl (ixB_t h844).1 (ixB_t h844).2.1 (by rw [(ixB_t h844).2.2.1, Nat.mul_one])) rfl fun a hs => ?_
     refine w_storeAV (cs' := [.int .i64 s6.Kind, .int .i64 s6.Num.e0, .int .i64 s6.Num.e1, .int .i64 s6.Num.e2, .int .i64 (bif Nat.beq q845 0 then rv834.1 else s6.Den.e0), .int .i64 (bif Nat.beq q845 1 then rv834.1 else s6.Den.e1), .int .i64 (bif Nat.beq q845 2 then rv834.1 else s6.Den.e2), .slice p14 l13.length k15, .int .i64 s6.Factor, .int .i64 s6.Shift]) (n := 3) hs hw 3 rfl rfl rfl Try.sizeOf3 rfl rfl (ixB_t h844).2.2.2 rfl (match q845, (ixB_t h844).2.2.2 with | 0, _ => rfl | 1, _ => rfl | 2, _ => rfl | q + 3, h => absurd h (by omega)) trivial ?_
     intro a w hs hw
     refine nl ?_
     obtain ⟨Sv846, hw⟩ := w_share (α := Int) hw 1 rfl 5 rfl
     have hw := hw.addE (e := SlA (α := Int) none 0 0 []) nil_sl
     exact ⟨rv834.2.L, rv834.2.At, (bif Nat.beq q845 0 then rv834.1 else s6.Den.e0), (bif Nat.beq q845 1 then rv834.1 else s6.Den.e1), (bif Nat.beq q845 2 then rv834.1 else s6.Den.e2), l13, s6.Factor, s6.Shift, p835, k836, p14, k15, Sv846, hsh, (hs.wk rfl), (hw.ft [0, 2, 1] [2, 1, 0] (by decide) rfl rfl)⟩
    have hsh := ite_f hsh h820
    refine sr ?_
    refine sv hs (y_eql rfl rfl) rfl fun a hs => ?_
    refine av hs rfl rfl fun a hs => ?_
    refine nl ?_
    refine wp_join (fun a w => ∃ (x946 : (List Int)) (x947 : Int) (x948 : (List Int)) (x949 : Int) (x950 : Int) (p941 : Option Addr) (k942 : Nat) (p943 : Option Addr) (k944 : Nat) (Sv945 : Nat → Prop), law18_odd_j4 s6 x946 x947 x948 x949 x950 = some r ∧ Sl 67 [(3, .pointer (some ⟨b10, 0, none⟩)), (4, .pointer (some ⟨b11, 0, none⟩))] a ∧ Wd ⟨w0, S0, blks [.box b2 [.slice p3 d1.L.length k4, .int .i64 d1.At] 84]⟩ Sv945 [.box b2 [.slice p941 x946.length k942, .int .i64 x947] 84, .box b10 [.int .i64 s6.Kind, .int .i64 s6.Num.e0, .int .i64 s6.Num.e1, .int .i64 s6.Num.e2, .int .i64 s6.Den.e0, .int .i64 s6.Den.e1, .int .i64 s6.Den.e2, .slice p943 x948.length k944, .int .i64 x949, .int .i64 x950] 26, .box b11 [.int .i64 0, .int .i64 0, .int .i64 0, .int .i64 0, .int .i64 0, .int .i64 0, .int .i64 0, .slice none ([] : List Int).length 0, .int .i64 0, .int .i64 0] 26] [SlA p941 x946.length k942 x946, SlA p943 x948.length k944 x948, SlA none ([] : List Int).length 0 ([] : List Int)] w) ?_ ?_
    ·refine wp_cond_split (hs.ev rfl) (fun h951 => ?_) (fun h951 => ?_)
     ·have hsh := ite_t hsh h951
      refine wp_region_lit ?_
      refine mv hs rfl rfl fun a hs => ?_
      refine w_litSlice (α := Int) (vs := [.int .i64 0, .int .i64 1, .int .i64 64, .int .i64 65]) (cs := [.int .i64 0, .int .i64 1, .int .i64 64, .int .i64 65]) (xs := ([0, 1, 64, 65] : List Int)) hs hw El24 rfl rfl rfl rfl rfl rfl ⟨⟨_, rfl, rfl⟩, ⟨⟨_, rfl, rfl⟩, ⟨⟨_, rfl, rfl⟩, ⟨⟨_, rfl, rfl⟩, rfl⟩⟩⟩⟩ rfl trivial rfl fun b953 a w hs hw => ?_
      obtain ⟨rv955, h954, hsh⟩ := bind_t hsh
      obtain ⟨Sv959, hw⟩ := w_share (α := Int) hw 0 rfl 0 rfl
      refine st_callR hs (made_Dice_Pick_ok h954 hw.dom (hw.ins [0] (by decide) rfl) (hw.envAt 2 rfl) (hw.envAt 0 rfl)) (do_call Try.call25 rfl) trivial rfl rfl ?_
      intro v963 Sv960 w a h961 h962 hs
      obtain ⟨p956, k957, rfl, h964, h958⟩ := h962
      have hw := hw.callO [0] [1, 2, 3] (by decide) rfl h961 h964
      have hw := hw.addE (e := SlA p956 rv955.2.L.length k957 rv955.2.L) h958
      refine sv hs (y_fieldAddr (o' := 8) Try.runUnderlying26 rfl Try.sizeOf3 rfl rfl rfl) rfl fun a hs => ?_
      refine w_store (m := 1) (cs' := [.int .i64 s6.Kind, .int .i64 s6.Num.e0, .int .i64 s6.Num.e1, .int .i64 s6.Num.e2, .int .i64 s6.Den.e0, .int .i64 s6.Den.e1, .int .i64 s6.Den.e2, .slice p14 l13.length k15, .int .i64 rv955.1, .int .i64 s6.Shift]) hs hw 3 rfl rfl rfl Try.sizeOf3 rfl rfl rfl rfl trivial ?_
      intro a w hs hw
      refine nl ?_
      obtain ⟨Sv965, hw⟩ := w_share (α := Int) hw 1 rfl 4 rfl
      have hw := hw.addE (e := SlA (α := Int) none 0 0 []) nil_sl
      exact ⟨rv955.2.L, rv955.2.At, l13, rv955.1, s6.Shift, p956, k957, p14, k15, Sv965, hsh, (hs.wk rfl), (hw.ft [0, 2, 1] [2, 1, 0] (by decide) rfl rfl)⟩
     have hsh := ite_f hsh h951
     refine sr ?_
     refine sv hs (y_eql rfl rfl) rfl fun a hs => ?_
     refine av hs rfl rfl fun a hs => ?_
     refine nl ?_
     refine wp_join (fun a w => ∃ (x1042 : (List Int)) (x1043 : Int) (x1044 : (List Int)) (x1045 : Int) (p1037 : Option Addr) (k1038 : Nat) (p1039 : Option Addr) (k1040 : Nat) (Sv1041 : Nat → Prop), law18_odd_j5 s6 x1042 x1043 x1044 x1045 = some r ∧ Sl 67 [(3, .pointer (some ⟨b10, 0, none⟩)), (4, .pointer (some ⟨b11, 0, none⟩))] a ∧ Wd ⟨w0, S0, blks [.box b2 [.slice p3 d1.L.length k4, .int .i64 d1.At] 84]⟩ Sv1041 [.box b2 [.slice p1037 x1042.length k1038, .int .i64 x1043] 84, .box b10 [.int .i64 s6.Kind, .int .i64 s6.Num.e0, .int .i64 s6.Num.e1, .int .i64 s6.Num.e2, .int .i64 s6.Den.e0, .int .i64 s6.Den.e1, .int .i64 s6.Den.e2, .slice p1039 x1044.length k1040, .int .i64 s6.Factor, .int .i64 x1045] 26, .box b11 [.int .i64 0, .int .i64 0, .int .i64 0, .int .i64 0, .int .i64 0, .int .i64 0, .int .i64 0, .slice none ([] : List Int).length 0, .int .i64 0, .int .i64 0] 26] [SlA p1037 x1042.length k1038 x1042, SlA p1039 x1044.length k1040 x1044, SlA none ([] : List Int).length 0 ([] : List Int)] w) ?_ ?_
     ·refine wp_cond_split (hs.ev rfl) (fun h1046 => ?_) (fun h1046 => ?_)
      ·have hsh := ite_t hsh h1046
       refine wp_region_lit ?_
       refine mv hs rfl rfl fun a hs => ?_
       refine w_litSlice (α := Int) (vs := [.int .i64 (-1), .int .i64 40, .int .i64 41]) (cs := [.int .i64 (-1), .int .i64 40, .int .i64 41]) (xs := ([(-1), 40, 41] : List Int)) hs hw El24 rfl rfl rfl rfl rfl rfl ⟨⟨_, rfl, rfl⟩, ⟨⟨_, rfl, rfl⟩, ⟨⟨_, rfl, rfl⟩, rfl⟩⟩⟩ rfl trivial rfl fun b1048 a w hs hw => ?_
       obtain ⟨rv1050, h1049, hsh⟩ := bind_t hsh
       obtain ⟨Sv1054, hw⟩ := w_share (α := Int) hw 0 rfl 0 rfl
       refine st_callR hs (made_Dice_Pick_ok h1049 hw.dom (hw.ins [0] (by decide) rfl) (hw.envAt 2 rfl) (hw.envAt 0 rfl)) (do_call Try.call25 rfl) trivial rfl rfl ?_
       intro v1058 Sv1055 w a h1056 h1057 hs
       obtain ⟨p1051, k1052, rfl, h1059, h1053⟩ := h1057
       have hw := hw.callO [0] [1, 2, 3] (by decide) rfl h1056 h1059
       have hw := hw.addE (e := SlA p1051 rv1050.2.L.length k1052 rv1050.2.L) h1053
       refine sv hs (y_fieldAddr (o' := 9) Try.runUnderlying26 rfl Try.sizeOf3 rfl rfl rfl) rfl fun a hs => ?_
       refine w_store (m := 1) (cs' := [.int .i64 s6.Kind, .int .i64 s6.Num.e0, .int .i64 s6.Num.e1, .int .i64 s6.Num.e2, .int .i64 s6.Den.e0, .int .i64 s6.Den.e1, .int .i64 s6.Den.e2, .slice p14 l13.length k15, .int .i64 s6.Factor, .int .i64 rv1050.1]) hs hw 3 rfl rfl rfl Try.sizeOf3 rfl rfl rfl rfl trivial ?_
       intro a w hs hw
       refine nl ?_
       obtain ⟨Sv1060, hw⟩ := w_share (α := Int) hw 1 rfl 4 rfl
       have hw := hw.addE (e := SlA (α := Int) none 0 0 []) nil_sl
       exact ⟨rv1050.2.L, rv1050.2.At, l13, rv1050.1, p1051, k1052, p14, k15, Sv1060, hsh, (hs.wk rfl), (hw.ft [0, 2, 1] [2, 1, 0] (by decide) rfl rfl)⟩
      have hsh := ite_f hsh h1046
      refine sr ?_
      refine sv hs (y_eql rfl rfl) rfl fun a hs => ?_
      refine av hs rfl rfl fun a hs => ?_
      refine nl ?_
      refine wp_join (fun a w => ∃ (x1115 : (List Int)) (x1116 : Int) (x1117 : (List Int)) (p1110 : Option Addr) (k1111 : Nat) (p1112 : Option Addr) (k1113 : Nat) (Sv1114 : Nat → Prop), law18_odd_j6 s6 x1115 x1116 x1117 = some r ∧ Sl 67 [(3, .pointer (some ⟨b10, 0, none⟩)), (4, .pointer (some ⟨b11, 0, none⟩))] a ∧ Wd ⟨w0, S0, blks [.box b2 [.slice p3 d1.L.length k4, .int .i64 d1.At] 84]⟩ Sv1114 [.box b2 [.slice p1110 x1115.length k1111, .int .i64 x1116] 84, .box b10 [.int .i64 s6.Kind, .int .i64 s6.Num.e0, .int .i64 s6.Num.e1, .int .i64 s6.Num.e2, .int .i64 s6.Den.e0, .int .i64 s6.Den.e1, .int .i64 s6.Den.e2, .slice p1112 x1117.length k1113, .int .i64 s6.Factor, .int .i64 s6.Shift] 26, .box b11 [.int .i64 0, .int .i64 0, .int .i64 0, .int .i64 0, .int .i64 0, .int .i64 0, .int .i64 0, .slice none ([] : List Int).length 0, .int .i64 0, .int .i64 0] 26] [SlA p1110 x1115.length k1111 x1115, SlA p1112 x1117.length k1113 x1117, SlA none ([] : List Int).length 0 ([] : List Int)] w) ?_ ?_
      ·refine wp_cond_split (hs.ev rfl) (fun h1118 => ?_) (fun h1118 => ?_)
       ·have hsh := ite_t hsh h1118
        obtain ⟨l1126, h1125, hsh⟩ := bind_t hsh
        obtain ⟨rv1132, h1131, hsh⟩ := bind_t hsh
        obtain ⟨x1138, h1136, hsh⟩ := bind_t hsh
        refine wp_only (fun a w => ∃ (Sv1153 : Nat → Prop) (k1134 : Nat) (k1151 : Nat) (p1133 : Option Addr) (p1149 : Option Addr), Sl 67 [(3, .pointer (some ⟨b10, 0, none⟩)), (4, .pointer (some ⟨b11, 0, none⟩))] a ∧ Wd ⟨w0, S0, blks [.box b2 [.slice p3 d1.L.length k4, .int .i64 d1.At] 84]⟩ Sv1153 [.box b2 [.slice p1133 rv1132.2.L.length k1134, .int .i64 rv1132.2.At] 84, .box b10 [.int .i64 s6.Kind, .int .i64 s6.Num.e0, .int .i64 s6.Num.e1, .int .i64 s6.Num.e2, .int .i64 s6.Den.e0, .int .i64 s6.Den.e1, .int .i64 s6.Den.e2, .slice p1149 x1138.length k1151, .int .i64 s6.Factor, .int .i64 s6.Shift] 26, .box b11 [.int .i64 0, .int .i64 0, .int .i64 0, .int .i64 0, .int .i64 0, .int .i64 0, .int .i64 0, .slice none ([] : List Int).length 0, .int .i64 0, .int .i64 0] 26] [SlA p1133 rv1132.2.L.length k1134 rv1132.2.L, SlA p1149 x1138.length k1151 x1138, SlA none ([] : List Int).length 0 ([] : List Int)] w) ?_ ?_
        ·refine wp_region_phi (n := 11) (Φ := fun l a w => ∃ (b1120 : Nat) (b1122 : Nat) (b1124 : Nat) (b1130 : Nat) (c1128 : List Value) (k1134 : Nat) (k1151 : Nat) (p1127 : Option Addr) (p1133 : Option Addr) (p1149 : Option Addr) (S : Nat → Prop), SlF 67 (D22t1 b10 b11 b2) (D22t2 b10 b1120 b1122 b1124 b1130 b2 k1151 l1126 p1127 p1149 rv1132 x1138) l a ∧ Wd ⟨w0, S0, blks [.box b2 [.slice p3 d1.L.length k4, .int .i64 d1.At] 84]⟩ S [((bif l 6 then .box b2 [.slice p1133 rv1132.2.L.length k1134, .int .i64 rv1132.2.At] 84 else .box b2 [.slice p19 rv18.2.L.length k20, .int .i64 rv18.2.At] 84) : Res), .row p14 l13.length k15 c16 3 1, .box b11 [.int .i64 0, .int .i64 0, .int .i64 0, .int .i64 0, .int .i64 0, .int .i64 0, .int .i64 0, .slice none ([] : List Int).length 0, .int .i64 0, .int .i64 0] 26, ((bif l 10 then .box b10 [.int .i64 s6.Kind, .int .i64 s6.Num.e0, .int .i64 s6.Num.e1, .int .i64 s6.Num.e2, .int .i64 s6.Den.e0, .int .i64 s6.Den.e1, .int .i64 s6.Den.e2, .slice p1149 x1138.length k1151, .int .i64 s6.Factor, .int .i64 s6.Shift] 26 else .box b10 [.int .i64 s6.Kind, .int .i64 s6.Num.e0, .int .i64 s6.Num.e1, .int .i64 s6.Num.e2, .int .i64 s6.Den.e0, .int .i64 s6.Den.e1, .int .i64 s6.Den.e2, .slice p14 l13.length k15, .int .i64 s6.Factor, .int .i64 s6.Shift] 26) : Res), ((bif l 4 then emp else (bif l 0 then .row (some ⟨b1120, 0, none⟩) ([0] : List Int).length ([0] : List Int).length [.int .i64 0] 3 1 else emp)) : Res), ((bif l 4 then emp else (bif l 1 then .row (some ⟨b1122, 0, none⟩) ([1, (-1)] : List Int).length ([1, (-1)] : List Int).length [.int .i64 1, .int .i64 (-1)] 3 1 else emp)) : Res), ((bif l 4 then emp else (bif l 2 then .row (some ⟨b1124, 0, none⟩) ([1048577] : List Int).length ([1048577] : List Int).length [.int .i64 1048577] 3 1 else emp)) : Res), ((bif l 4 then emp else (bif l 3 then .row p1127 l1126.length l1126.length c1128 3 1 else emp)) : Res), ((bif l 4 then .row (some ⟨b1130, 0, none⟩) ([([] : List Int), ([0] : List Int), ([1, (-1)] : List Int), ([1048577] : List Int), l1126] : List (List Int)).length ([([] : List Int), ([0] : List Int), ([1, (-1)] : List Int), ([1048577] : List Int), l1126] : List (List Int)).length [.slice none ([] : List Int).length 0, .slice (some ⟨b1120, 0, none⟩) ([0] : List Int).length ([0] : List Int).length, .slice (some ⟨b1122, 0, none⟩) ([1, (-1)] : List Int).length ([1, (-1)] : List Int).length, .slice (some ⟨b1124, 0, none⟩) ([1048577] : List Int).length ([1048577] : List Int).length, .slice p1127 l1126.length l1126.length] 24 1 else emp) : Res)] [SlA p19 rv18.2.L.length k20 rv18.2.L, RowA c16 l13, RowA [] ([] : List Int), SlA p7 s6.Taps.length k8 s6.Taps, SlA p3 d1.L.length k4 d1.L, optA (l 0) (RowA [.int .i64 0] ([0] : List Int)), optA (l 1) (RowA [.int .i64 1, .int .i64 (-1)] ([1, (-1)] : List Int)), optA (l 2) (RowA [.int .i64 1048577] ([1048577] : List Int)), optA (l 3) (RowA c1128 l1126), optA (l 4) (SlA (some ⟨b1120, 0, none⟩) ([0] : List Int).length ([0] : List Int).length ([0] : List Int)), optA (l 4) (SlA (some ⟨b1122, 0, none⟩) ([1, (-1)] : List Int).length ([1, (-1)] : List Int).length ([1, (-1)] : List Int)), optA (l 4) (SlA (some ⟨b1124, 0, none⟩) ([1048577] : List Int).length ([1048577] : List Int).length ([1048577] : List Int)), optA (l 4) (SlA p1127 l1126.length l1126.length l1126), optA (l 4) (RowA [.slice none ([] : List Int).length 0, .slice (some ⟨b1120, 0, none⟩) ([0] : List Int).length ([0] : List Int).length, .slice (some ⟨b1122, 0, none⟩) ([1, (-1)] : List Int).length ([1, (-1)] : List Int).length, .slice (some ⟨b1124, 0, none⟩) ([1048577] : List Int).length ([1048577] : List Int).length, .slice p1127 l1126.length l1126.length] ([([] : List Int), ([0] : List Int), ([1, (-1)] : List Int), ([1048577] : List Int), l1126] : List (List Int))), optA (l 6) (SlA p1133 rv1132.2.L.length k1134 rv1132.2.L), optA (l 8) (SlA p1149 x1138.length k1151 x1138)] w) [1, 1, 1, 1, 2, 1, 2, 3, 4, 5, 6] (by kernel_rfl) rfl (by kernel_rfl) ?_ (AllS.succ (AllS.succ (AllS.succ (AllS.succ (AllS.succ (AllS.succ (AllS.succ (AllS.succ (AllS.succ (AllS.succ (AllS.succ AllS.zero ?_) ?_) ?_) ?_) ?_) ?_) ?_) ?_) ?_) ?_) ?_) ?_
         ·obtain ⟨b1120, b1122, b1124, b1130, c1128, k1134, k1151, p1127, p1133, p1149, _⟩ : ∃ (b1120 : Nat) (b1122 : Nat) (b1124 : Nat) (b1130 : Nat) (c1128 : List Value) (k1134 : Nat) (k1151 : Nat) (p1127 : Option Addr) (p1133 : Option Addr) (p1149 : Option Addr), True := ⟨0, 0, 0, 0, [], 0, 0, none, none, none, trivial⟩
          have hw := hw.drew
          have hw := hw.emp
          have hw := hw.emp
          have hw := hw.emp
          have hw := hw.emp
          have hw := hw.emp
          have hw := hw.noE (SlA p1149 x1138.length k1151 x1138)
          have hw := hw.noE (SlA p1133 rv1132.2.L.length k1134 rv1132.2.L)
          have hw := hw.noE (RowA [.slice none ([] : List Int).length 0, .slice (some ⟨b1120, 0, none⟩) ([0] : List Int).length ([0] : List Int).length, .slice (some ⟨b1122, 0, none⟩) ([1, (-1)] : List Int).length ([1, (-1)] : List Int).length, .slice (some ⟨b1124, 0, none⟩) ([1048577] : List Int).length ([1048577] : List Int).length, .slice p1127 l1126.length l1126.length] ([([] : List Int), ([0] : List Int), ([1, (-1)] : List Int), ([1048577] : List Int), l1126] : List (List Int)))
          have hw := hw.noE (SlA p1127 l1126.length l1126.length l1126)
          have hw := hw.noE (SlA (some ⟨b1124, 0, none⟩) ([1048577] : List Int).length ([1048577] : List Int).length ([1048577] : List Int))
          have hw := hw.noE (SlA (some ⟨b1122, 0, none⟩) ([1, (-1)] : List Int).length ([1, (-1)] : List Int).length ([1, (-1)] : List Int))
          have hw := hw.noE (SlA (some ⟨b1120, 0, none⟩) ([0] : List Int).length ([0] : List Int).length ([0] : List Int))
          have hw := hw.noE (RowA c1128 l1126)
          have hw := hw.noE (RowA [.int .i64 1048577] ([1048577] : List Int))
          have hw := hw.noE (RowA [.int .i64 1, .int .i64 (-1)] ([1, (-1)] : List Int))
          have hw := hw.noE (RowA [.int .i64 0] ([0] : List Int))
          exact ⟨b1120, b1122, b1124, b1130, c1128, k1134, k1151, p1127, p1133, p1149, Sv22, SlF.init (hs.wk rfl) (by kernel_rfl), hw.ft [5, 6, 7, 8, 0, 1, 2, 3, 4] [11, 12, 13, 14, 15, 0, 1, 2, 3, 4, 5, 6, 7, 8, 9, 10] (by decide) rfl rfl⟩
         ·intro l hi hp hc a w ⟨b1120, b1122, b1124, b1130, c1128, k1134, k1151, p1127, p1133, p1149, S, hS, hw⟩
          refine S_eff rfl ?_
          have hs := hS.open_ .nil
          refine w_litSlice (α := Int) (vs := [.int .i64 0]) (cs := [.int .i64 0]) (xs := ([0] : List Int)) hs hw El24 rfl rfl rfl rfl rfl rfl ⟨⟨_, rfl, rfl⟩, rfl⟩ rfl trivial rfl fun b1120 a w hs hw => ?_
          have h_4 := l_neg hc 4 hi rfl
          have hw := hw.fixR 0 (r' := (bif l 4 then emp else .row (some ⟨b1120, 0, none⟩) ([0] : List Int).length ([0] : List Int).length [.int .i64 0] 3 1)) rfl ((bF h_4)).symm
          have hw := hw.fixR 9 (r' := emp) rfl ((bF h_4))
          have hw := hw.fixR 9 (r' := (bif l 4 then .row (some ⟨b1130, 0, none⟩) ([([] : List Int), ([0] : List Int), ([1, (-1)] : List Int), ([1048577] : List Int), l1126] : List (List Int)).length ([([] : List Int), ([0] : List Int), ([1, (-1)] : List Int), ([1048577] : List Int), l1126] : List (List Int)).length [.slice none ([] : List Int).length 0, .slice (some ⟨b1120, 0, none⟩) ([0] : List Int).length ([0] : List Int).length, .slice (some ⟨b1122, 0, none⟩) ([1, (-1)] : List Int).length ([1, (-1)] : List Int).length, .slice (some ⟨b1124, 0, none⟩) ([1048577] : List Int).length ([1048577] : List Int).length, .slice p1127 l1126.length l1126.length] 24 1 else emp)) rfl ((bF h_4)).symm
          have hw := hw.opt 0 rfl true
          have hw := hw.noL h_4 (SlA (some ⟨b1120, 0, none⟩) ([0] : List Int).length ([0] : List Int).length ([0] : List Int))
          have hw := hw.noL h_4 (RowA [.slice none ([] : List Int).length 0, .slice (some ⟨b1120, 0, none⟩) ([0] : List Int).length ([0] : List Int).length, .slice (some ⟨b1122, 0, none⟩) ([1, (-1)] : List Int).length ([1, (-1)] : List Int).length, .slice (some ⟨b1124, 0, none⟩) ([1048577] : List Int).length ([1048577] : List Int).length, .slice p1127 l1126.length l1126.length] ([([] : List Int), ([0] : List Int), ([1, (-1)] : List Int), ([1048577] : List Int), l1126] : List (List Int)))
          refine nl ?_
          exact ⟨b1120, b1122, b1124, b1130, c1128, k1134, k1151, p1127, p1133, p1149, S, hS.close .nil hs rfl (.here (.same (.same (.same (.same (.same (.same (.same (.same (.same .nil)))))))))) 0 rfl, hw.ft [1, 2, 3, 4, 0, 6, 7, 8, 9] [4, 5, 6, 7, 8, 2, 10, 11, 12, 1, 14, 15, 16, 0, 18, 19] (by decide) rfl rfl⟩
         ·intro l hi hp hc a w ⟨b1120, b1122, b1124, b1130, c1128, k1134, k1151, p1127, p1133, p1149, S, hS, hw⟩
          refine S_eff rfl ?_
          have hs := hS.open_ .nil
          refine w_litSlice (α := Int) (vs := [.int .i64 1, .int .i64 (-1)]) (cs := [.int .i64 1, .int .i64 (-1)]) (xs := ([1, (-1)] : List Int)) hs hw El24 rfl rfl rfl rfl rfl rfl ⟨⟨_, rfl, rfl⟩, ⟨⟨_, rfl, rfl⟩, rfl⟩⟩ rfl trivial rfl fun b1122 a w hs hw => ?_
          have h_4 := l_neg hc 4 hi rfl
          have hw := hw.fixR 0 (r' := (bif l 4 then emp else .row (some ⟨b1122, 0, none⟩) ([1, (-1)] : List Int).length ([1, (-1)] : List Int).length [.int .i64 1, .int .i64 (-1)] 3 1)) rfl ((bF h_4)).symm
          have hw := hw.fixR 9 (r' := emp) rfl ((bF h_4))
          have hw := hw.fixR 9 (r' := (bif l 4 then .row (some ⟨b1130, 0, none⟩) ([([] : List Int), ([0] : List Int), ([1, (-1)] : List Int), ([1048577] : List Int), l1126] : List (List Int)).length ([([] : List Int), ([0] : List Int), ([1, (-1)] : List Int), ([1048577] : List Int), l1126] : List (List Int)).length [.slice none ([] : List Int).length 0, .slice (some ⟨b1120, 0, none⟩) ([0] : List Int).length ([0] : List Int).length, .slice (some ⟨b1122, 0, none⟩) ([1, (-1)] : List Int).length ([1, (-1)] : List Int).length, .slice (some ⟨b1124, 0, none⟩) ([1048577] : List Int).length ([1048577] : List Int).length, .slice p1127 l1126.length l1126.length] 24 1 else emp)) rfl ((bF h_4)).symm
          have hw := hw.opt 0 rfl true
          have hw := hw.noL h_4 (SlA (some ⟨b1122, 0, none⟩) ([1, (-1)] : List Int).length ([1, (-1)] : List Int).length ([1, (-1)] : List Int))
          have hw := hw.noL h_4 (RowA [.slice none ([] : List Int).length 0, .slice (some ⟨b1120, 0, none⟩) ([0] : List Int).length ([0] : List Int).length, .slice (some ⟨b1122, 0, none⟩) ([1, (-1)] : List Int).length ([1, (-1)] : List Int).length, .slice (some ⟨b1124, 0, none⟩) ([1048577] : List Int).length ([1048577] : List Int).length, .slice p1127 l1126.length l1126.length] ([([] : List Int), ([0] : List Int), ([1, (-1)] : List Int), ([1048577] : List Int), l1126] : List (List Int)))
          refine nl ?_
          exact ⟨b1120, b1122, b1124, b1130, c1128, k1134, k1151, p1127, p1133, p1149, S, hS.close .nil hs rfl (.same (.here (.same (.same (.same (.same (.same (.same (.same (.same .nil)))))))))) 1 rfl, hw.ft [1, 2, 3, 4, 5, 0, 7, 8, 9] [4, 5, 6, 7, 8, 9, 2, 11, 12, 13, 1, 15, 16, 0, 18, 19] (by decide) rfl rfl⟩
         ·intro l hi hp hc a w ⟨b1120, b1122, b1124, b1130, c1128, k1134, k1151, p1127, p1133, p1149, S, hS, hw⟩
          refine S_eff rfl ?_
          have hs := hS.open_ .nil
          refine w_litSlice (α := Int) (vs := [.int .i64 1048577]) (cs := [.int .i64 1048577]) (xs := ([1048577] : List Int)) hs hw El24 rfl rfl rfl rfl rfl rfl ⟨⟨_, rfl, rfl⟩, rfl⟩ rfl trivial rfl fun b1124 a w hs hw => ?_
          have h_4 := l_neg hc 4 hi rfl
          have hw := hw.fixR 0 (r' := (bif l 4 then emp else .row (some ⟨b1124, 0, none⟩) ([1048577] : List Int).length ([1048577] : List Int).length [.int .i64 1048577] 3 1)) rfl ((bF h_4)).symm
          have hw := hw.fixR 9 (r' := emp) rfl ((bF h_4))
          have hw := hw.fixR 9 (r' := (bif l 4 then .row (some ⟨b1130, 0, none⟩) ([([] : List Int), ([0] : List Int), ([1, (-1)] : List Int), ([1048577] : List Int), l1126] : List (List Int)).length ([([] : List Int), ([0] : List Int), ([1, (-1)] : List Int), ([1048577] : List Int), l1126] : List (List Int)).length [.slice none ([] : List Int).length 0, .slice (some ⟨b1120, 0, none⟩) ([0] : List Int).length ([0] : List Int).length, .slice (some ⟨b1122, 0, none⟩) ([1, (-1)] : List Int).length ([1, (-1)] : List Int).length, .slice (some ⟨b1124, 0, none⟩) ([1048577] : List Int).length ([1048577] : List Int).length, .slice p1127 l1126.length l1126.length] 24 1 else emp)) rfl ((bF h_4)).symm
          have hw := hw.opt 0 rfl true
          have hw := hw.noL h_4 (SlA (some ⟨b1124, 0, none⟩) ([1048577] : List Int).length ([1048577] : List Int).length ([1048577] : List Int))
          have hw := hw.noL h_4 (RowA [.slice none ([] : List Int).length 0, .slice (some ⟨b1120, 0, none⟩) ([0] : List Int).length ([0] : List Int).length, .slice (some ⟨b1122, 0, none⟩) ([1, (-1)] : List Int).length ([1, (-1)] : List Int).length, .slice (some ⟨b1124, 0, none⟩) ([1048577] : List Int).length ([1048577] : List Int).length, .slice p1127 l1126.length l1126.length] ([([] : List Int), ([0] : List Int), ([1, (-1)] : List Int), ([1048577] : List Int), l1126] : List (List Int)))
          refine nl ?_
          exact ⟨b1120, b1122, b1124, b1130, c1128, k1134, k1151, p1127, p1133, p1149, S, hS.close .nil hs rfl (.same (.same (.here (.same (.same (.same (.same (.same (.same (.same .nil)))))))))) 2 rfl, hw.ft [1, 2, 3, 4, 5, 6, 0, 8, 9] [4, 5, 6, 7, 8, 9, 10, 2, 12, 13, 14, 1, 16, 0, 18, 19] (by decide) rfl rfl⟩
         ·intro l hi hp hc a w ⟨b1120, b1122, b1124, b1130, c1128, k1134, k1151, p1127, p1133, p1149, S, hS, hw⟩
          refine S_eff rfl ?_
          have hs := hS.open_ .nil
          refine w_make (α := Int) hs hw El24 ⟨_, rfl, rfl⟩ rfl rfl h1125 rfl trivial ?_
          intro p1127 c1128 a w hs hw
          have h_4 := l_neg hc 4 hi rfl
          have hw := hw.fixR 0 (r' := (bif l 4 then emp else .row p1127 l1126.length l1126.length c1128 3 1)) rfl ((bF h_4)).symm
          have hw := hw.fixR 9 (r' := emp) rfl ((bF h_4))
          have hw := hw.fixR 9 (r' := (bif l 4 then .row (some ⟨b1130, 0, none⟩) ([([] : List Int), ([0] : List Int), ([1, (-1)] : List Int), ([1048577] : List Int), l1126] : List (List Int)).length ([([] : List Int), ([0] : List Int), ([1, (-1)] : List Int), ([1048577] : List Int), l1126] : List (List Int)).length [.slice none ([] : List Int).length 0, .slice (some ⟨b1120, 0, none⟩) ([0] : List Int).length ([0] : List Int).length, .slice (some ⟨b1122, 0, none⟩) ([1, (-1)] : List Int).length ([1, (-1)] : List Int).length, .slice (some ⟨b1124, 0, none⟩) ([1048577] : List Int).length ([1048577] : List Int).length, .slice p1127 l1126.length l1126.length] 24 1 else emp)) rfl ((bF h_4)).symm
          have hw := hw.opt 0 rfl true
          have hw := hw.noL h_4 (SlA p1127 l1126.length l1126.length l1126)
          have hw := hw.noL h_4 (RowA [.slice none ([] : List Int).length 0, .slice (some ⟨b1120, 0, none⟩) ([0] : List Int).length ([0] : List Int).length, .slice (some ⟨b1122, 0, none⟩) ([1, (-1)] : List Int).length ([1, (-1)] : List Int).length, .slice (some ⟨b1124, 0, none⟩) ([1048577] : List Int).length ([1048577] : List Int).length, .slice p1127 l1126.length l1126.length] ([([] : List Int), ([0] : List Int), ([1, (-1)] : List Int), ([1048577] : List Int), l1126] : List (List Int)))
          refine nl ?_
          exact ⟨b1120, b1122, b1124, b1130, c1128, k1134, k1151, p1127, p1133, p1149, S, hS.close .nil hs rfl (.same (.same (.same (.here (.same (.same (.same (.same (.same (.same .nil)))))))))) 3 rfl, hw.ft [1, 2, 3, 4, 5, 6, 7, 0, 9] [4, 5, 6, 7, 8, 9, 10, 11, 2, 13, 14, 15, 1, 0, 18, 19] (by decide) rfl rfl⟩
         ·intro l hi hp hc a w ⟨b1120, b1122, b1124, b1130, c1128, k1134, k1151, p1127, p1133, p1149, S, hS, hw⟩
          have h_0 := hp 0 rfl
          have hw := hw.fixR 4 (r' := .row (some ⟨b1120, 0, none⟩) ([0] : List Int).length ([0] : List Int).length [.int .i64 0] 3 1) rfl ((bF hi).trans ((bT h_0)))
          have h_1 := hp 1 rfl
          have hw := hw.fixR 5 (r' := .row (some ⟨b1122, 0, none⟩) ([1, (-1)] : List Int).length ([1, (-1)] : List Int).length [.int .i64 1, .int .i64 (-1)] 3 1) rfl ((bF hi).trans ((bT h_1)))
          have h_2 := hp 2 rfl
          have hw := hw.fixR 6 (r' := .row (some ⟨b1124, 0, none⟩) ([1048577] : List Int).length ([1048577] : List Int).length [.int .i64 1048577] 3 1) rfl ((bF hi).trans ((bT h_2)))
          have h_3 := hp 3 rfl
          have hw := hw.fixR 7 (r' := .row p1127 l1126.length l1126.length c1128 3 1) rfl ((bF hi).trans ((bT h_3)))
          have hw := hw.yes 5 rfl h_0
          have hw := hw.yes 7 rfl h_1
          have hw := hw.yes 9 rfl h_2
          have hw := hw.yes 11 rfl h_3
          refine S_eff rfl ?_
          have hs := hS.open_ (.v (t := 49) 0 rfl h_0 (.v (t := 50) 1 rfl h_1 (.v (t := 51) 2 rfl h_2 (.v (t := 52) 3 rfl h_3 .nil))))
          obtain ⟨Sv1167, hw⟩ := w_share (α := Int) hw 4 rfl 3 rfl
          obtain ⟨Sv1168, hw⟩ := w_share (α := Int) hw 4 rfl 3 rfl
          obtain ⟨Sv1169, hw⟩ := w_share (α := Int) hw 4 rfl 3 rfl
          obtain ⟨Sv1170, hw⟩ := w_share (α := Int) hw 4 rfl 3 rfl
          have hw := hw.addE (e := SlA (α := Int) none 0 0 []) nil_sl
          refine w_litSlice (α := (List Int)) (vs := [.slice none ([] : List Int).length 0, .slice (some ⟨b1120, 0, none⟩) ([0] : List Int).length ([0] : List Int).length, .slice (some ⟨b1122, 0, none⟩) ([1, (-1)] : List Int).length ([1, (-1)] : List Int).length, .slice (some ⟨b1124, 0, none⟩) ([1048577] : List Int).length ([1048577] : List Int).length, .slice p1127 l1126.length l1126.length]) (cs := [.slice none ([] : List Int).length 0, .slice (some ⟨b1120, 0, none⟩) ([0] : List Int).length ([0] : List Int).length, .slice (some ⟨b1122, 0, none⟩) ([1, (-1)] : List Int).length ([1, (-1)] : List Int).length, .slice (some ⟨b1124, 0, none⟩) ([1048577] : List Int).length ([1048577] : List Int).length, .slice p1127 l1126.length l1126.length]) (xs := ([([] : List Int), ([0] : List Int), ([1, (-1)] : List Int), ([1048577] : List Int), l1126] : List (List Int))) hs hw El93 rfl rfl rfl rfl rfl rfl ⟨⟨_, rfl, ⟨_, _, _, rfl, hw.envAt 0 rfl⟩⟩, ⟨⟨_, rfl, ⟨_, _, _, rfl, hw.envAt 4 rfl⟩⟩, ⟨⟨_, rfl, ⟨_, _, _, rfl, hw.envAt 3 rfl⟩⟩, ⟨⟨_, rfl, ⟨_, _, _, rfl, hw.envAt 2 rfl⟩⟩, ⟨⟨_, rfl, ⟨_, _, _, rfl, hw.envAt 1 rfl⟩⟩, rfl⟩⟩⟩⟩⟩ rfl trivial rfl fun b1130 a w hs hw => ?_
          have h_7 := l_neg hc 7 hi rfl
          have hw := hw.emp
          have hw := hw.emp
          have hw := hw.emp
          have hw := hw.emp
          have hw := hw.opt 5 rfl true
          have hw := hw.opt 5 rfl true
          have hw := hw.opt 5 rfl true
          have hw := hw.opt 5 rfl true
          have hw := hw.opt 4 rfl true
          refine nl ?_
          exact ⟨b1120, b1122, b1124, b1130, c1128, k1134, k1151, p1127, p1133, p1149, Sv1170, hS.close (.v (t := 49) 0 rfl h_0 (.v (t := 50) 1 rfl h_1 (.v (t := 51) 2 rfl h_2 (.v (t := 52) 3 rfl h_3 .nil)))) hs rfl (.same (.same (.same (.same (.here (.same (.same (.neg h_7 rfl (.same (.same .nil)))))))))) 4 rfl, hw.ft [5, 6, 7, 8, 3, 2, 1, 0, 4] [15, 16, 17, 18, 19, 20, 21, 22, 23, 4, 3, 2, 1, 0, 29, 30] (by decide) rfl rfl⟩
         ·intro l hi hp hc a w ⟨b1120, b1122, b1124, b1130, c1128, k1134, k1151, p1127, p1133, p1149, S, hS, hw⟩
          refine S_val hS (.b (t := 0) rfl .nil) rfl rfl trivial (y_move rfl) (rfl) 5 rfl fun a hS => ⟨b1120, b1122, b1124, b1130, c1128, k1134, k1151, p1127, p1133, p1149, S, hS, hw⟩
         ·intro l hi hp hc a w ⟨b1120, b1122, b1124, b1130, c1128, k1134, k1151, p1127, p1133, p1149, S, hS, hw⟩
          have hw := hw.fixR 0 (r' := .box b2 [.slice p19 rv18.2.L.length k20, .int .i64 rv18.2.At] 84) rfl ((bF hi))
          have h_5 := hp 5 rfl
          refine S_eff rfl ?_
          have hs := hS.open_ (.v (t := 54) 5 rfl h_5 .nil)
          refine st_callR hs (made_Dice_Next_ok h1131 hw.dom (hw.ins [0] (by decide) rfl) (hw.envAt 0 rfl)) (do_call Try.call24 rfl) trivial rfl rfl ?_
          intro v1179 Sv1176 w a h1177 h1178 hs
          obtain ⟨p1133, k1134, rfl, h1180, h1135⟩ := h1178
          have hw := hw.callO [0] [1, 2, 3, 4, 5, 6, 7, 8] (by decide) rfl h1177 h1180
          have hw := hw.addE (e := SlA p1133 rv1132.2.L.length k1134 rv1132.2.L) h1135
          have hw := hw.opt 0 rfl true
          refine nl ?_
          exact ⟨b1120, b1122, b1124, b1130, c1128, k1134, k1151, p1127, p1133, p1149, Sv1176, hS.close (.v (t := 54) 5 rfl h_5 .nil) hs rfl (.same (.same (.same (.same (.same (.same (.here (.same (.same (.same .nil)))))))))) 6 rfl, hw.ft [0, 1, 2, 3, 4, 5, 6, 7, 8] [2, 3, 4, 5, 6, 7, 8, 9, 10, 11, 12, 13, 14, 15, 0, 17] (by decide) rfl rfl⟩
         ·intro l hi hp hc a w ⟨b1120, b1122, b1124, b1130, c1128, k1134, k1151, p1127, p1133, p1149, S, hS, hw⟩
          have hw0 := hw
          have h_4 := hp 4 rfl
          have hw := hw.fixR 8 (r' := .row (some ⟨b1130, 0, none⟩) ([([] : List Int), ([0] : List Int), ([1, (-1)] : List Int), ([1048577] : List Int), l1126] : List (List Int)).length ([([] : List Int), ([0] : List Int), ([1, (-1)] : List Int), ([1048577] : List Int), l1126] : List (List Int)).length [.slice none ([] : List Int).length 0, .slice (some ⟨b1120, 0, none⟩) ([0] : List Int).length ([0] : List Int).length, .slice (some ⟨b1122, 0, none⟩) ([1, (-1)] : List Int).length ([1, (-1)] : List Int).length, .slice (some ⟨b1124, 0, none⟩) ([1048577] : List Int).length ([1048577] : List Int).length, .slice p1127 l1126.length l1126.length] 24 1) rfl ((bT h_4))
          have hw := hw.yes 13 rfl h_4
          have h_6 := hp 6 rfl
          obtain ⟨c1143, h1139, h1144, h1137⟩ := hw.elemRX (α := (List Int)) 8 rfl 0 rfl h1136
          refine S_val hS (.v (t := 53) 4 rfl h_4 (.v (t := 55) 6 rfl h_6 .nil)) rfl rfl trivial (y_indexAt Try.runUnderlying93 Try.sizeOf24 rfl rfl h1139.1 h1139.2 rfl) (rfl) 7 rfl fun a hS => ⟨b1120, b1122, b1124, b1130, c1128, k1134, k1151, p1127, p1133, p1149, S, hS, hw0⟩
         ·intro l hi hp hc a w ⟨b1120, b1122, b1124, b1130, c1128, k1134, k1151, p1127, p1133, p1149, S, hS, hw⟩
          have h_7 := hp 7 rfl
          have h_4 := hc 7 4 rfl h_7
          have hw := hw.fixR 8 (r' := .row (some ⟨b1130, 0, none⟩) ([([] : List Int), ([0] : List Int), ([1, (-1)] : List Int), ([1048577] : List Int), l1126] : List (List Int)).length ([([] : List Int), ([0] : List Int), ([1, (-1)] : List Int), ([1048577] : List Int), l1126] : List (List Int)).length [.slice none ([] : List Int).length 0, .slice (some ⟨b1120, 0, none⟩) ([0] : List Int).length ([0] : List Int).length, .slice (some ⟨b1122, 0, none⟩) ([1, (-1)] : List Int).length ([1, (-1)] : List Int).length, .slice (some ⟨b1124, 0, none⟩) ([1048577] : List Int).length ([1048577] : List Int).length, .slice p1127 l1126.length l1126.length] 24 1) rfl ((bT h_4))
          have hw := hw.yes 13 rfl h_4
          refine S_eff rfl ?_
          have hs := hS.open_ (.v (t := 56) 7 rfl h_7 .nil)
          obtain ⟨c1145, h1146, h1147, h1148⟩ := hw.elemRX (α := (List Int)) 8 rfl 0 rfl h1136
          obtain ⟨_, rfl, ⟨p1149, n1150, k1151, rfl, h1152⟩⟩ := h1148
          obtain rfl := h1152.1
          have hw := hw.addE (e := SlA p1149 _ k1151 x1138) h1152
          refine sv hs (y_loadQ1 (j := 0) (hw.ownAt 8 rfl) rfl Try.isAgg24 h1147 rfl) rfl fun a hs => ?_
          have h_9 := l_neg hc 9 hi rfl
          have h_10 := l_neg hc 10 h_9 rfl
          have hw := hw.fixR 3 (r' := .box b10 [.int .i64 s6.Kind, .int .i64 s6.Num.e0, .int .i64 s6.Num.e1, .int .i64 s6.Num.e2, .int .i64 s6.Den.e0, .int .i64 s6.Den.e1, .int .i64 s6.Den.e2, .slice p14 l13.length k15, .int .i64 s6.Factor, .int .i64 s6.Shift] 26) rfl ((bF h_10))
          have hw := hw.fixR 3 (r' := (bif l 10 then .box b10 [.int .i64 s6.Kind, .int .i64 s6.Num.e0, .int .i64 s6.Num.e1, .int .i64 s6.Num.e2, .int .i64 s6.Den.e0, .int .i64 s6.Den.e1, .int .i64 s6.Den.e2, .slice p1149 x1138.length k1151, .int .i64 s6.Factor, .int .i64 s6.Shift] 26 else .box b10 [.int .i64 s6.Kind, .int .i64 s6.Num.e0, .int .i64 s6.Num.e1, .int .i64 s6.Num.e2, .int .i64 s6.Den.e0, .int .i64 s6.Den.e1, .int .i64 s6.Den.e2, .slice p14 l13.length k15, .int .i64 s6.Factor, .int .i64 s6.Shift] 26)) rfl ((bF h_10)).symm
          have hw := hw.fixR 8 (r' := (bif l 4 then .row (some ⟨b1130, 0, none⟩) ([([] : List Int), ([0] : List Int), ([1, (-1)] : List Int), ([1048577] : List Int), l1126] : List (List Int)).length ([([] : List Int), ([0] : List Int), ([1, (-1)] : List Int), ([1048577] : List Int), l1126] : List (List Int)).length [.slice none ([] : List Int).length 0, .slice (some ⟨b1120, 0, none⟩) ([0] : List Int).length ([0] : List Int).length, .slice (some ⟨b1122, 0, none⟩) ([1, (-1)] : List Int).length ([1, (-1)] : List Int).length, .slice (some ⟨b1124, 0, none⟩) ([1048577] : List Int).length ([1048577] : List Int).length, .slice p1127 l1126.length l1126.length] 24 1 else emp)) rfl ((bT h_4)).symm
          have hw := hw.opt 0 rfl true
          refine nl ?_
          exact ⟨b1120, b1122, b1124, b1130, c1128, k1134, k1151, p1127, p1133, p1149, S, hS.close (.v (t := 56) 7 rfl h_7 .nil) hs rfl (.same (.same (.same (.same (.same (.same (.same (.same (.here (.same .nil)))))))))) 8 rfl, hw.ft [0, 1, 2, 3, 4, 5, 6, 7, 8] [3, 4, 5, 6, 7, 8, 9, 10, 11, 12, 13, 14, 15, 16, 17, 0] (by decide) rfl rfl⟩
         ·intro l hi hp hc a w ⟨b1120, b1122, b1124, b1130, c1128, k1134, k1151, p1127, p1133, p1149, S, hS, hw⟩
          refine S_val hS (.b (t := 3) rfl .nil) rfl rfl trivial (y_fieldAddr (o' := 7) Try.runUnderlying26 rfl Try.sizeOf24 rfl rfl rfl) (rfl) 9 rfl fun a hS => ⟨b1120, b1122, b1124, b1130, c1128, k1134, k1151, p1127, p1133, p1149, S, hS, hw⟩
         ·intro l hi hp hc a w ⟨b1120, b1122, b1124, b1130, c1128, k1134, k1151, p1127, p1133, p1149, S, hS, hw⟩
          have hw := hw.fixR 3 (r' := .box b10 [.int .i64 s6.Kind, .int .i64 s6.Num.e0, .int .i64 s6.Num.e1, .int .i64 s6.Num.e2, .int .i64 s6.Den.e0, .int .i64 s6.Den.e1, .int .i64 s6.Den.e2, .slice p14 l13.length k15, .int .i64 s6.Factor, .int .i64 s6.Shift] 26) rfl ((bF hi))
          have h_9 := hp 9 rfl
          have h_8 := hp 8 rfl
          refine S_eff rfl ?_
          have hs := hS.open_ (.v (t := 57) 8 rfl h_8 (.v (t := 58) 9 rfl h_9 .nil))
          refine w_store (m := 1) (cs' := [.int .i64 s6.Kind, .int .i64 s6.Num.e0, .int .i64 s6.Num.e1, .int .i64 s6.Num.e2, .int .i64 s6.Den.e0, .int .i64 s6.Den.e1, .int .i64 s6.Den.e2, .slice p1149 x1138.length k1151, .int .i64 s6.Factor, .int .i64 s6.Shift]) hs hw 3 rfl rfl rfl Try.sizeOf24 rfl rfl rfl rfl trivial ?_
          intro a w hs hw
          refine nl ?_
          exact ⟨b1120, b1122, b1124, b1130, c1128, k1134, k1151, p1127, p1133, p1149, S, hS.close0 (.v (t := 57) 8 rfl h_8 (.v (t := 58) 9 rfl h_9 .nil)) hs rfl, hw.ft [0, 1, 2, 3, 4, 5, 6, 7, 8] [0, 1, 2, 3, 4, 5, 6, 7, 8, 9, 10, 11, 12, 13, 14, 15] (by decide) rfl rfl⟩
         intro l a w hl ⟨b1120, b1122, b1124, b1130, c1128, k1134, k1151, p1127, p1133, p1149, S, hS, hw⟩
         have hw := hw.yes 14 rfl (hl 6 (by decide))
         have hw := hw.yes 16 rfl (hl 8 (by decide))
         have hw := hw.fixR 0 (r' := .box b2 [.slice p1133 rv1132.2.L.length k1134, .int .i64 rv1132.2.At] 84) rfl (bT (hl 6 (by decide)))
         have hw := hw.fixR 3 (r' := .box b10 [.int .i64 s6.Kind, .int .i64 s6.Num.e0, .int .i64 s6.Num.e1, .int .i64 s6.Num.e2, .int .i64 s6.Den.e0, .int .i64 s6.Den.e1, .int .i64 s6.Den.e2, .slice p1149 x1138.length k1151, .int .i64 s6.Factor, .int .i64 s6.Shift] 26) rfl (bT (hl 10 (by decide)))
         have hs := hS.on (.b (t := 3) rfl (.b (t := 4) rfl .nil))
         have hw := hw.addE (e := SlA (α := Int) none 0 0 []) nil_sl
         exact ⟨S, k1134, k1151, p1133, p1149, (hs.wk rfl), (hw.ft [0, 3, 2] [2, 1, 0] (by decide) rfl rfl)⟩
        rintro a w ⟨Sv1153, k1134, k1151, p1133, p1149, hs, hw⟩
        refine then_normal ?_
        exact ⟨rv1132.2.L, rv1132.2.At, x1138, p1133, k1134, p1149, k1151, Sv1153, hsh, (hs.wk rfl), (hw.ft [0, 1, 2] [0, 1, 2] (by decide) rfl rfl)⟩
       have hsh := ite_f hsh h1118
       refine sr ?_
       refine sv hs (y_eql rfl rfl) rfl fun a hs => ?_
       refine av hs rfl rfl fun a hs => ?_
       refine nl ?_
       refine wp_join (fun a w => ∃ (x1193 : (List Int)) (c1189 : List Value) (p1190 : Option Addr) (k1191 : Nat) (Sv1192 : Nat → Prop), law18_odd_j7 s6 rv18 x1193 = some r ∧ Sl 67 [(3, .pointer (some ⟨b10, 0, none⟩)), (4, .pointer (some ⟨b11, 0, none⟩))] a ∧ Wd ⟨w0, S0, blks [.box b2 [.slice p3 d1.L.length k4, .int .i64 d1.At] 84]⟩ Sv1192 [.box b2 [.slice p19 rv18.2.L.length k20, .int .i64 rv18.2.At] 84, .box b10 [.int .i64 s6.Kind, .int .i64 s6.Num.e0, .int .i64 s6.Num.e1, .int .i64 s6.Num.e2, .int .i64 s6.Den.e0, .int .i64 s6.Den.e1, .int .i64 s6.Den.e2, .slice p1190 x1193.length k1191, .int .i64 s6.Factor, .int .i64 s6.Shift] 26, .box b11 [.int .i64 0, .int .i64 0, .int .i64 0, .int .i64 0, .int .i64 0, .int .i64 0, .int .i64 0, .slice none ([] : List Int).length 0, .int .i64 0, .int .i64 0] 26, .row p1190 x1193.length k1191 c1189 3 1] [SlA p19 rv18.2.L.length k20 rv18.2.L, SlA none ([] : List Int).length 0 ([] : List Int), RowA c1189 x1193] w) ?_ ?_
       ·refine wp_cond_split (hs.ev rfl) (fun h1195 => ?_) (fun h1195 => ?_)
        ·have hsh := ite_t hsh h1195
         refine wp_region_lit ?_
         refine sv hs (y_fieldAddr (o' := 7) Try.runUnderlying26 rfl Try.sizeOf24 rfl rfl rfl) rfl fun a hs => ?_
         refine sv hs (y_loadB1 (hw.ownAt 3 rfl) rfl Try.isAgg24 rfl) rfl fun a hs => ?_
         refine w_litSlice (α := Int) (vs := [.int .i64 7]) (cs := [.int .i64 7]) (xs := ([7] : List Int)) hs hw El24 rfl rfl rfl rfl rfl rfl ⟨⟨_, rfl, rfl⟩, rfl⟩ rfl trivial rfl fun b1197 a w hs hw => ?_
         obtain ⟨l1199, h1198, hsh⟩ := bind_t hsh
         refine w_appendR (α := Int) hs hw El24 2 rfl rfl rfl 2 rfl 0 rfl 0 rfl h1198 rfl trivial ?_
         intro p1200 k1201 c1202 a w hs hw
         refine sv hs (y_fieldAddr (o' := 7) Try.runUnderlying26 rfl Try.sizeOf24 rfl rfl rfl) rfl fun a hs => ?_
         refine w_store (m := 1) (cs' := [.int .i64 s6.Kind, .int .i64 s6.Num.e0, .int .i64 s6.Num.e1, .int .i64 s6.Num.e2, .int .i64 s6.Den.e0, .int .i64 s6.Den.e1, .int .i64 s6.Den.e2, .slice p1200 l1199.length k1201, .int .i64 s6.Factor, .int .i64 s6.Shift]) hs hw 4 rfl rfl rfl Try.sizeOf24 rfl rfl rfl rfl trivial ?_
         intro a w hs hw
         refine nl ?_
         have hw := hw.addE (e := SlA (α := Int) none 0 0 []) nil_sl
         exact ⟨l1199, c1202, p1200, k1201, Sv22, hsh, (hs.wk rfl), (hw.ft [1, 4, 3, 2] [3, 0, 1] (by decide) rfl rfl)⟩
        have hsh := ite_f hsh h1195
        refine wp_skip ?_
        refine then_normal ?_
        have hw := hw.addE (e := SlA (α := Int) none 0 0 []) nil_sl
        exact ⟨l13, c16, p14, k15, Sv22, hsh, (hs.wk rfl), (hw.ft [0, 3, 2, 1] [1, 0, 2] (by decide) rfl rfl)⟩
       rintro a w ⟨x1193, c1189, p1190, k1191, Sv1192, hsh, hs, hw⟩
       delta law18_odd_j7 at hsh
       refine then_normal ?_
       obtain ⟨Sv1194, hw⟩ := w_share (α := Int) hw 3 rfl 2 rfl
       exact ⟨rv18.2.L, rv18.2.At, x1193, p19, k20, p1190, k1191, Sv1194, hsh, (hs.wk rfl), (hw.ft [0, 1, 2] [1, 0, 2] (by decide) rfl rfl)⟩
      rintro a w ⟨x1115, x1116, x1117, p1110, k1111, p1112, k1113, Sv1114, hsh, hs, hw⟩
      delta law18_odd_j6 at hsh
      refine then_normal ?_
      exact ⟨x1115, x1116, x1117, s6.Shift, p1110, k1111, p1112, k1113, Sv1114, hsh, (hs.wk rfl), (hw.ft [0, 1, 2] [0, 1, 2] (by decide) rfl rfl)⟩
     rintro a w ⟨x1042, x1043, x1044, x1045, p1037, k1038, p1039, k1040, Sv1041, hsh, hs, hw⟩
     delta law18_odd_j5 at hsh
     refine then_normal ?_
     exact ⟨x1042, x1043, x1044, s6.Factor, x1045, p1037, k1038, p1039, k1040, Sv1041, hsh, (hs.wk rfl), (hw.ft [0, 1, 2] [0, 1, 2] (by decide) rfl rfl)⟩
    rintro a w ⟨x946, x947, x948, x949, x950, p941, k942, p943, k944, Sv945, hsh, hs, hw⟩
    delta law18_odd_j4 at hsh
    refine then_normal ?_
    exact ⟨x946, x947, s6.Den.e0, s6.Den.e1, s6.Den.e2, x948, x949, x950, p941, k942, p943, k944, Sv945, hsh, (hs.wk rfl), (hw.ft [0, 1, 2] [0, 1, 2] (by decide) rfl rfl)⟩
   rintro a w ⟨x812, x813, x814, x815, x816, x817, x818, x819, p807, k808, p809, k810, Sv811, hsh, hs, hw⟩
   delta law18_odd_j3 at hsh
   refine then_normal ?_
   exact ⟨x812, x813, s6.Num.e0, s6.Num.e1, s6.Num.e2, x814, x815, x816, x817, x818, x819, p807, k808, p809, k810, Sv811, hsh, (hs.wk rfl), (hw.ft [0, 1, 2] [0, 1, 2] (by decide) rfl rfl)⟩
  rintro a w ⟨x639, x640, x641, x642, x643, x644, x645, x646, x647, x648, x649, p634, k635, p636, k637, Sv638, hsh, hs, hw⟩
  delta law18_odd_j2 at hsh
  refine then_normal ?_
  exact ⟨x639, x640, s6.Kind, x641, x642, x643, x644, x645, x646, x647, x648, x649, p634, k635, p636, k637, Sv638, hsh, (hs.wk rfl), (hw.ft [0, 1, 2] [0, 1, 2] (by decide) rfl rfl)⟩
 rintro a w ⟨x441, x442, x443, x444, x445, x446, x447, x448, x449, x450, x451, x452, p436, k437, p438, k439, Sv440, hsh, hs, hw⟩
 delta law18_odd_j1 at hsh
 refine blk_normal ?_
 refine then_normal ?_
 refine sr ?_
 refine sv hs (y_loadBA (hw.ownAt 1 rfl) rfl Try.isAgg26 Try.sizeOf26 rfl rfl) rfl fun a hs => ?_
 refine w_store (m := 10) (cs' := [.int .i64 x443, .int .i64 x444, .int .i64 x445, .int .i64 x446, .int .i64 x447, .int .i64 x448, .int .i64 x449, .slice p438 x450.length k439, .int .i64 x451, .int .i64 x452]) hs hw 2 rfl rfl rfl Try.sizeOf26 rfl rfl rfl rfl trivial ?_
 intro a w hs hw
 refine nl ?_
 have hsh := oi hsh
 subst hsh
 refine wp_ret ?_
 exact ret1 hs rfl (rv_cell hw 2 rfl rfl Try.isAgg26 Try.sizeOf26 rfl) (hw.ret ⟨p438, k439, p436, k437, rfl, (hw.outs [0] (by decide) rfl), (hw.envAt 1 rfl), (hw.envAt 0 rfl)⟩)

abbrev ref18_terms_rd (w0 : World) (X : List Nat) (r : Bool) : (Nat → Prop) → World → Value → Prop := fun S w v => v = .bool r
set_option maxHeartbeats 4000000 in
set_option maxRecDepth 100000 in
theorem ref18_terms_ok {w0 : World} {S0 : Nat → Prop} {p2 : Option Addr} {k3 : Nat} {l1 : (List Int)} {r : Bool} (hsh : ref18_terms l1 = some r) (hS : ∀ b, S0 b → b < w0.heap.size) (h4 : (SlA p2 l1.length k3 l1).p S0 w0) : Calls Try.prog 70 #[.slice p2 l1.length k3] w0 (Ret ([]) w0 S0 (ref18_terms_rd w0 ([]) r)) := by
 refine calls_of_wp Try.func70 rfl ?_
 have hs := Sl.enter #[.slice p2 l1.length k3] 16 [(0, .slice p2 l1.length k3)] rfl ⟨rfl, trivial⟩
 have hw := Wd.enter (E := []) hS (fun _ h => (by cases h))
 have hw := hw.addE h4
 delta ref18_terms at hsh
 refine sr ?_
 refine av hs rfl rfl fun a hs => ?_
 refine nl ?_
 refine wp_seq ?_
 refine sr ?_
 refine av hs rfl rfl fun a hs => ?_
 refine nl ?_
 refine wp_block ?_
 refine wp_while (fun sv82 a w => ∃ (Sv132 : Nat → Prop), Sl 16 [(0, .slice p2 l1.length k3), (3, .int .i64 sv82)] a ∧ Wd ⟨w0, S0, []⟩ Sv132 [] [SlA p2 l1.length k3 l1] w) 0 hsh ⟨S0, (hs.wk rfl), (hw.ft [] [0] (by decide) rfl rfl)⟩ ?_
 repeat clear hsh
 rintro sv82 a w tv158 ⟨Sv132, hs, hw⟩ hsh hd157
 delta ref18_terms_l2 at hsh
 refine wp_seq ?_
 refine sr ?_
 refine mv hs rfl rfl fun a hs => ?_
 refine mv hs rfl rfl fun a hs => ?_
 refine sv hs (y_len Try.runUnderlying24 rfl) rfl fun a hs => ?_
 refine sv hs (y_lss rfl rfl) rfl fun a hs => ?_
 refine nl ?_
 refine wp_cond_split (hs.ev rfl) (fun h162 => ?_) (fun h162 => ?_)
 ·have hsh := ite_t hsh h162
  refine wp_skip ?_
  refine then_normal ?_
  refine wp_seq ?_
  refine wp_block ?_
  refine sr ?_
  refine mv hs rfl rfl fun a hs => ?_
  refine mv hs rfl rfl fun a hs => ?_
  obtain ⟨x186, h184, hsh⟩ := bind_t hsh
  obtain ⟨b192, o193, q190, c191, h194, h187, h188, h189, h185⟩ := hw.elemV 0 rfl h184
  have hsv195 := hs
  have hwv196 := hw
  subst h194
  have hs := hsv195
  have hw := hwv196
  obtain ⟨_, rfl, rfl⟩ := h185
  have hw := hw.addE h189
  refine sv hs (y_indexAt Try.runUnderlying24 Try.sizeOf3 rfl rfl h187.1 h187.2 h188) rfl fun a hs => ?_
  refine sv hs (y_loadE1 (j := 0) (hw.ceAt 0 rfl) rfl Try.isAgg3 rfl) rfl fun a hs => ?_
  obtain ⟨rv198, h197, hsh⟩ := bind_t hsh
  refine st_callR hs (ref01_In_ok h197 hw.bdom) (do_call Try.call56 rfl) trivial rfl rfl ?_
  intro v202 Sv199 w a h200 h201 hs
  subst h201
  have hw := hw.callB h200
  refine sv hs (y_not rfl) rfl fun a hs => ?_
  refine nl ?_
  refine wp_cond_split (hs.ev rfl) (fun h205 => ?_) (fun h205 => ?_)
  ·have hsh := ite_t hsh h205
   refine sr ?_
   refine av hs rfl rfl fun a hs => ?_
   refine nl ?_
   have hsh := oi hsh
   subst hsh
   have h206 := hd157 _ rfl
   subst h206
   refine wp_ret ?_
   refine blk_ret ?_
   refine then_ret ?_
   refine then_ret ?_
   refine blk_ret ?_
   refine then_ret ?_
   exact ret1 hs rfl (rv_tmp rfl) (hw.ret rfl)
  have hsh := ite_f hsh h205
  refine wp_skip ?_
  refine blk_normal ?_
  refine then_normal ?_
  refine wp_region_lit ?_
  refine mv hs rfl rfl fun a hs => ?_
  refine sv hs (y_add rfl rfl) rfl fun a hs => ?_
  obtain ⟨i208, h207, hsh⟩ := bind_t hsh
  refine sv hs (y_assignI rfl h207) rfl fun a hs => ?_
  refine nl ?_
  exact ⟨_, (Option.some.inj hsh).symm, Sv132, (hs.wk rfl), (hw.ft [] [1] (by decide) rfl rfl)⟩
 have hsh := ite_f hsh h162
 obtain ⟨rv209, hsh, h210⟩ := map_t hsh
 have h210 := (hd157 _ h210.symm).symm
 subst h210
 refine wp_exit ?_
 refine then_exit ?_
 refine then_exit ?_
 refine blk_exit ?_
 refine then_normal ?_
 refine sr ?_
 refine av hs rfl rfl fun a hs => ?_
 refine nl ?_
 have hsh := oi hsh
 subst hsh
 refine wp_ret ?_
 exact ret1 hs rfl (rv_tmp rfl) (hw.ret rfl)

abbrev ref18_total_rd (w0 : World) (X : List Nat) (r : Int) : (Nat → Prop) → World → Value → Prop := fun S w v => v = .int .i64 r
set_option maxHeartbeats 4000000 in
set_option maxRecDepth 100000 in
theorem ref18_total_ok {w0 : World} {S0 : Nat → Prop} {p2 : Option Addr} {k3 : Nat} {l1 : (List Int)} {r : Int} (hsh : ref18_total l1 = some r) (hS : ∀ b, S0 b → b < w0.heap.size) (h4 : (SlA p2 l1.length k3 l1).p S0 w0) : Calls Try.prog 69 #[.slice p2 l1.length k3] w0 (Ret ([]) w0 S0 (ref18_total_rd w0 ([]) r)) := by
 refine calls_of_wp Try.func69 rfl ?_
 have hs := Sl.enter #[.slice p2 l1.length k3] 18 [(0, .slice p2 l1.length k3)] rfl ⟨rfl, trivial⟩
 have hw := Wd.enter (E := []) hS (fun _ h => (by cases h))
 have hw := hw.addE h4
 delta ref18_total at hsh
 refine sr ?_
 refine av hs rfl rfl fun a hs => ?_
 refine nl ?_
 refine sr ?_
 refine av hs rfl rfl fun a hs => ?_
 refine nl ?_
 refine wp_seq ?_
 refine sr ?_
 refine av hs rfl rfl fun a hs => ?_
 refine nl ?_
 obtain ⟨e65, h102, hsh⟩ := bind_t hsh
 refine wp_join (fun a w => ∃ (Sv66 : Nat → Prop), Sl 18 [(3, .int .i64 e65)] a ∧ Wd ⟨w0, S0, []⟩ Sv66 [] [] w) ?_ ?_
 ·refine wp_block ?_
  refine wp_while (fun sv5 a w => ∃ (Sv43 : Nat → Prop), Sl 18 [(0, .slice p2 l1.length k3), (3, .int .i64 sv5.1), (4, .int .i64 sv5.2)] a ∧ Wd ⟨w0, S0, []⟩ Sv43 [] [SlA p2 l1.length k3 l1] w) (0, 0) h102 ⟨S0, (hs.wk rfl), (hw.ft [] [0] (by decide) rfl rfl)⟩ ?_
  clear h102
  repeat clear hsh
  rintro sv5 a w tv63 ⟨Sv43, hs, hw⟩ hsh hd62
  delta ref18_total_l1 at hsh
  refine wp_seq ?_
  refine sr ?_
  refine mv hs rfl rfl fun a hs => ?_
  refine mv hs rfl rfl fun a hs => ?_
  refine sv hs (y_len Try.runUnderlying24 rfl) rfl fun a hs => ?_
  refine sv hs (y_lss rfl rfl) rfl fun a hs => ?_
  refine nl ?_
  refine wp_cond_split (hs.ev rfl) (fun h68 => ?_) (fun h68 => ?_)
  ·have hsh := ite_t hsh h68
   refine wp_skip ?_
   refine then_normal ?_
   refine wp_seq ?_
   refine wp_block ?_
   refine wp_region_lit ?_
   refine mv hs rfl rfl fun a hs => ?_
   refine mv hs rfl rfl fun a hs => ?_
   refine mv hs rfl rfl fun a hs => ?_
   obtain ⟨x86, h84, hsh⟩ := bind_t hsh
   obtain ⟨b92, o93, q90, c91, h94, h87, h88, h89, h85⟩ := hw.elemV 0 rfl h84
   have hsv95 := hs
   have hwv96 := hw
   subst h94
   have hs := hsv95
   have hw := hwv96
   obtain ⟨_, rfl, rfl⟩ := h85
   have hw := hw.addE h89
   refine sv hs (y_indexAt Try.runUnderlying24 Try.sizeOf3 rfl rfl h87.1 h87.2 h88) rfl fun a hs => ?_
   refine sv hs (y_loadE1 (j := 0) (hw.ceAt 0 rfl) rfl Try.isAgg3 rfl) rfl fun a hs => ?_
   refine sv hs (y_add rfl rfl) rfl fun a hs => ?_
   obtain ⟨n98, h97, hsh⟩ := bind_t hsh
   refine sv hs (y_assignI rfl h97) rfl fun a hs => ?_
   refine wpList_nil ?_
   refine blk_normal ?_
   refine then_normal ?_
   refine wp_region_lit ?_
   refine mv hs rfl rfl fun a hs => ?_
   refine sv hs (y_add rfl rfl) rfl fun a hs => ?_
   obtain ⟨i100, h99, hsh⟩ := bind_t hsh
   refine sv hs (y_assignI rfl h99) rfl fun a hs => ?_
   refine nl ?_
   exact ⟨_, (Option.some.inj hsh).symm, Sv43, (hs.wk rfl), (hw.ft [] [1] (by decide) rfl rfl)⟩
  have hsh := ite_f hsh h68
  refine wp_exit ?_
  refine then_exit ?_
  refine then_exit ?_
  refine blk_exit ?_
  have hsh := oi hsh
  subst hsh
  have h101 := hd62 _ rfl
  subst h101
  refine then_normal ?_
  exact ⟨Sv43, (hs.wk rfl), (hw.ft [] [] (by decide) rfl rfl)⟩
 rintro a w ⟨Sv66, hs, hw⟩
 refine then_normal ?_
 refine sr ?_
 refine mv hs rfl rfl fun a hs => ?_
 refine av hs rfl rfl fun a hs => ?_
 refine nl ?_
 have hsh := oi hsh
 subst hsh
 refine wp_ret ?_
 exact ret1 hs rfl (rv_tmp rfl) (hw.ret rfl)

end Go.Proofs.Ytoendkojgjobbaa.Wk

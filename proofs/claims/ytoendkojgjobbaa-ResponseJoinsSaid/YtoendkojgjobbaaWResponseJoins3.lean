/- The walks of ResponseJoins, part 3: each Go function computes what its plain program computes. Printed by a program of ours. -/
import Derived.Test.YtoendkojgjobbaaProg
import Derived.Test.YtoendkojgjobbaaDat
import Derived.Test.YtoendkojgjobbaaSh
import Derived.Test.YtoendkojgjobbaaLibL
import Derived.KernelRfl
import Derived.Test.YtoendkojgjobbaaWResponseJoins2
namespace Go.Proofs.Ytoendkojgjobbaa.Wk
open Go Go.RowKit Go.Proofs Go.Proofs.Ytoendkojgjobbaa.Sh
set_option linter.unusedVariables false
set_option linter.unusedSimpArgs false

abbrev ref17_Mul_rd (w0 : World) (X : List Nat) (r : ((List Int) × Int)) : (Nat → Prop) → World → Value → Prop := fun S w v => ∃ (p0_0 : Option Addr) (k0_0 : Nat), v = .tuple #[.slice p0_0 r.1.length k0_0, .int .i64 r.2] ∧ (SlA p0_0 r.1.length k0_0 r.1).p S w
set_option maxHeartbeats 4000000 in
set_option maxRecDepth 100000 in
theorem ref17_Mul_ok {w0 : World} {S0 : Nat → Prop} {p2 : Option Addr} {k3 : Nat} {p6 : Option Addr} {k7 : Nat} {a1 : (List Int)} {b5 : (List Int)} {r : ((List Int) × Int)} (hsh : ref17_Mul a1 b5 = some r) (hS : ∀ b, S0 b → b < w0.heap.size) (h4 : (SlA p2 a1.length k3 a1).p S0 w0) (h8 : (SlA p6 b5.length k7 b5).p S0 w0) : Calls Try.prog 47 #[.slice p2 a1.length k3, .slice p6 b5.length k7] w0 (Ret ([]) w0 S0 (ref17_Mul_rd w0 ([]) r)) := by
 refine calls_of_wp Try.func47 rfl ?_
 have hs := Sl.enter #[.slice p2 a1.length k3, .slice p6 b5.length k7] 20 [(0, .slice p2 a1.length k3), (1, .slice p6 b5.length k7)] rfl ⟨rfl, rfl, trivial⟩
 have hw := Wd.enter (E := []) hS (fun _ h => (by cases h))
 have hw := hw.addE h4
 have hw := hw.addE h8
 delta ref17_Mul at hsh
 refine wp_seq ?_
 refine wp_region_lit ?_
 refine st_val hs (y_assign rfl) trivial rfl rfl fun a hs => ?_
 refine st_val hs (y_assign rfl) trivial rfl rfl fun a hs => ?_
 refine wpList_nil ?_
 refine then_normal ?_
 refine wp_seq ?_
 refine wp_seq ?_
 refine wp_region_lit ?_
 refine st_val hs (y_move rfl) trivial rfl rfl fun a hs => ?_
 obtain ⟨rv10, h9, hsh⟩ := bind_t hsh
 refine st_callR hs (ref17_Valid_ok h9 hw.bdom (hw.bE 1 rfl)) (do_call Try.call78 rfl) trivial rfl rfl ?_
 intro v14 Sv11 w a h12 h13 hs
 subst h13
 have hw := hw.callB h12
 refine st_val hs (y_not rfl) trivial rfl rfl fun a hs => ?_
 refine st_val hs (y_move rfl) trivial rfl rfl fun a hs => ?_
 obtain ⟨c24, hc24, hsh⟩ := bind_t hsh
 refine wpl_join 4 (fun a w => ∃ (Sv25 : Nat → Prop), Sl 20 [(0, .slice p2 a1.length k3), (1, .slice p6 b5.length k7), (13, .bool c24)] a ∧ Wd ⟨w0, S0, []⟩ Sv25 [] [SlA p2 a1.length k3 a1, SlA p6 b5.length k7 b5] w) ?_ ?_
 ·rcases Bool.eq_false_or_eq_true (!rv10) with h23 | h23
  ·have hs := hs.fix 9 (.bool true) rfl (vb h23)
   have hsh := ite_t hc24 h23
   refine st_skip hs rfl rfl rfl rfl rfl fun a hs => ?_
   refine st_skip hs rfl rfl rfl rfl rfl fun a hs => ?_
   refine st_skip hs rfl rfl rfl rfl rfl fun a hs => ?_
   refine st_val hs (y_pickT rfl rfl) trivial rfl rfl fun a hs => ?_
   refine wpList_nil ?_
   have hsh := Option.some.inj hsh
   subst hsh
   refine then_normal ?_
   exact ⟨S0, (hs.wk rfl), (hw.ft [] [1, 0] (by decide) rfl rfl)⟩
  ·have hs := hs.fix 9 (.bool false) rfl (vb h23)
   have hsh := ite_f hc24 h23
   refine st_val hs (y_move rfl) ⟨_, rfl, rfl⟩ rfl rfl fun a hs => ?_
   obtain ⟨rv27, h26, hsh⟩ := bind_t hsh
   refine st_callR hs (ref17_Valid_ok h26 hw.bdom (hw.bE 0 rfl)) (do_call Try.call78 rfl) ⟨_, rfl, rfl⟩ rfl rfl ?_
   intro v31 Sv28 w a h29 h30 hs
   subst h30
   have hw := hw.callB h29
   refine st_val hs (y_not rfl) ⟨_, rfl, rfl⟩ rfl rfl fun a hs => ?_
   refine st_val hs (y_pickF rfl rfl) trivial rfl rfl fun a hs => ?_
   refine wpList_nil ?_
   have hsh := Option.some.inj hsh
   subst hsh
   refine then_normal ?_
   exact ⟨S0, (hs.wk rfl), (hw.ft [] [1, 0] (by decide) rfl rfl)⟩
 ·rintro a w ⟨Sv25, hs, hw⟩
  refine wpList_nil ?_
  refine then_normal ?_
  refine wp_cond_split (hs.ev rfl) (fun h34 => ?_) (fun h34 => ?_)
  ·have hsh := ite_t hsh h34
   refine wp_seq ?_
   refine wp_region_lit ?_
   refine st_val hs (y_assign rfl) trivial rfl rfl fun a hs => ?_
   refine st_val hs (y_assign rfl) trivial rfl rfl fun a hs => ?_
   refine wpList_nil ?_
   refine then_normal ?_
   have hsh := Option.some.inj hsh
   subst hsh
   have hw := hw.addE (e := SlA (α := Int) none 0 0 []) nil_sl
   refine wp_ret ?_
   refine then_ret ?_
   exact ret2 hs rfl (rv_tmp rfl) (rv_tmp rfl) (hw.ret ⟨none, 0, rfl, (hw.envAt 0 rfl)⟩)
  ·have hsh := ite_f hsh h34
   refine wp_skip ?_
   refine then_normal ?_
   refine wp_seq ?_
   refine wp_region_lit ?_
   refine st_val hs (y_move rfl) trivial rfl rfl fun a hs => ?_
   refine st_val hs (y_move rfl) trivial rfl rfl fun a hs => ?_
   obtain ⟨rv36, h35, hsh⟩ := bind_t hsh
   refine st_callR hs (ref17_mul_ok h35 hw.dom (hw.envAt 0 rfl) (hw.envAt 1 rfl)) (do_call Try.call46 rfl) trivial rfl rfl ?_
   intro v43 Sv40 w a h41 h42 hs
   obtain ⟨p37, k38, rfl, h39⟩ := h42
   have hw := hw.call h41
   have hw := hw.addE (e := SlA p37 rv36.length k38 rv36) h39
   obtain ⟨rv46, h45, hsh⟩ := bind_t hsh
   refine st_callR hs (ref17_limited_ok h45 hw.dom (hw.envAt 0 rfl)) (do_call Try.call80 rfl) trivial rfl rfl ?_
   intro v53 Sv50 w a h51 h52 hs
   obtain ⟨p47, k48, rfl, h49⟩ := h52
   have hw := hw.call h51
   have hw := hw.addE (e := SlA p47 rv46.1.length k48 rv46.1) h49
   refine st_val hs (y_extract rfl rfl) trivial rfl rfl fun a hs => ?_
   refine st_val hs (y_extract rfl rfl) trivial rfl rfl fun a hs => ?_
   refine st_val hs (y_assign rfl) trivial rfl rfl fun a hs => ?_
   refine st_val hs (y_assign rfl) trivial rfl rfl fun a hs => ?_
   refine wpList_nil ?_
   refine then_normal ?_
   have hsh := Option.some.inj hsh
   subst hsh
   refine wp_ret ?_
   exact ret2 hs rfl (rv_tmp rfl) (rv_tmp rfl) (hw.ret ⟨p47, k48, rfl, (hw.envAt 0 rfl)⟩)

abbrev ref17_Times_rd (w0 : World) (X : List Nat) (r : (Fraction × Int)) : (Nat → Prop) → World → Value → Prop := fun S w v => ∃ (p0_0 : Option Addr) (k0_0 : Nat) (p0_1 : Option Addr) (k0_1 : Nat), v = .tuple #[.agg #[.slice p0_0 r.1.Num.length k0_0, .slice p0_1 r.1.Den.length k0_1], .int .i64 r.2] ∧ (SlA p0_0 r.1.Num.length k0_0 r.1.Num).p S w ∧ (SlA p0_1 r.1.Den.length k0_1 r.1.Den).p S w
set_option maxHeartbeats 4000000 in
set_option maxRecDepth 100000 in
theorem ref17_Times_ok {w0 : World} {S0 : Nat → Prop} {p2 : Option Addr} {k3 : Nat} {p4 : Option Addr} {k5 : Nat} {p9 : Option Addr} {k10 : Nat} {p11 : Option Addr} {k12 : Nat} {a1 : Fraction} {b8 : Fraction} {r : (Fraction × Int)} (hsh : ref17_Times a1 b8 = some r) (hS : ∀ b, S0 b → b < w0.heap.size) (h6 : (SlA p2 a1.Num.length k3 a1.Num).p S0 w0) (h7 : (SlA p4 a1.Den.length k5 a1.Den).p S0 w0) (h13 : (SlA p9 b8.Num.length k10 b8.Num).p S0 w0) (h14 : (SlA p11 b8.Den.length k12 b8.Den).p S0 w0) : Calls Try.prog 12 #[.agg #[.slice p2 a1.Num.length k3, .slice p4 a1.Den.length k5], .agg #[.slice p9 b8.Num.length k10, .slice p11 b8.Den.length k12]] w0 (Ret ([]) w0 S0 (ref17_Times_rd w0 ([]) r)) := by
 refine calls_of_wp Try.func12 rfl ?_
 have hs := Sl.enter #[.agg #[.slice p2 a1.Num.length k3, .slice p4 a1.Den.length k5], .agg #[.slice p9 b8.Num.length k10, .slice p11 b8.Den.length k12]] 45 [(0, .agg #[.slice p2 a1.Num.length k3, .slice p4 a1.Den.length k5]), (1, .agg #[.slice p9 b8.Num.length k10, .slice p11 b8.Den.length k12])] rfl ⟨rfl, rfl, trivial⟩
 have hw := Wd.enter (E := []) hS (fun _ h => (by cases h))
 have hw := hw.addE h6
 have hw := hw.addE h7
 have hw := hw.addE h13
 have hw := hw.addE h14
 delta ref17_Times at hsh
 refine wp_seq ?_
 refine wp_region_lit ?_
 refine w_box (cs := [.slice p2 a1.Num.length k3, .slice p4 a1.Den.length k5]) hs hw rfl rfl rfl trivial ?_
 intro b15 a w hs hw
 refine w_box (cs := [.slice p9 b8.Num.length k10, .slice p11 b8.Den.length k12]) hs hw rfl rfl rfl trivial ?_
 intro b16 a w hs hw
 refine w_alloc (cs := [.slice none ([] : List Int).length 0, .slice none ([] : List Int).length 0]) hs hw Try.zeroValue31 rfl rfl trivial ?_
 intro b17 a w hs hw
 refine st_val hs (y_assign rfl) trivial rfl rfl fun a hs => ?_
 refine wpList_nil ?_
 refine then_normal ?_
 refine wp_seq ?_
 refine wp_seq ?_
 refine wp_region_lit ?_
 refine st_val hs (y_loadBA (hw.ownAt 2 rfl) rfl Try.isAgg31 Try.sizeOf31 rfl rfl) trivial rfl rfl fun a hs => ?_
 obtain ⟨rv19, h18, hsh⟩ := bind_t hsh
 refine st_callR hs (ref17_ValidFraction_ok h18 hw.bdom (hw.bE 3 rfl) (hw.bE 2 rfl)) (do_call Try.call44 rfl) trivial rfl rfl ?_
 intro v23 Sv20 w a h21 h22 hs
 subst h22
 have hw := hw.callB h21
 refine st_val hs (y_not rfl) trivial rfl rfl fun a hs => ?_
 refine st_val hs (y_move rfl) trivial rfl rfl fun a hs => ?_
 obtain ⟨c33, hc33, hsh⟩ := bind_t hsh
 refine wpl_join 4 (fun a w => ∃ (Sv34 : Nat → Prop), Sl 45 [(2, .pointer (some ⟨b15, 0, none⟩)), (3, .pointer (some ⟨b16, 0, none⟩)), (4, .pointer (some ⟨b17, 0, none⟩)), (17, .bool c33)] a ∧ Wd ⟨w0, S0, []⟩ Sv34 [.box b15 [.slice p2 a1.Num.length k3, .slice p4 a1.Den.length k5] 31, .box b16 [.slice p9 b8.Num.length k10, .slice p11 b8.Den.length k12] 31, .box b17 [.slice none ([] : List Int).length 0, .slice none ([] : List Int).length 0] 31] [SlA p2 a1.Num.length k3 a1.Num, SlA p4 a1.Den.length k5 a1.Den, SlA p9 b8.Num.length k10 b8.Num, SlA p11 b8.Den.length k12 b8.Den, SlA none ([] : List Int).length 0 ([] : List Int)] w) ?_ ?_
 ·rcases Bool.eq_false_or_eq_true (!rv19) with h32 | h32
  ·have hs := hs.fix 13 (.bool true) rfl (vb h32)
   have hsh := ite_t hc33 h32
   refine st_skip hs rfl rfl rfl rfl rfl fun a hs => ?_
   refine st_skip hs rfl rfl rfl rfl rfl fun a hs => ?_
   refine st_skip hs rfl rfl rfl rfl rfl fun a hs => ?_
   refine st_val hs (y_pickT rfl rfl) trivial rfl rfl fun a hs => ?_
   refine wpList_nil ?_
   have hw := hw.addE (e := SlA (α := Int) none 0 0 []) nil_sl
   have hsh := Option.some.inj hsh
   subst hsh
   refine then_normal ?_
   exact ⟨S0, (hs.wk rfl), (hw.ft [2, 1, 0] [4, 3, 2, 1, 0] (by decide) rfl rfl)⟩
  ·have hs := hs.fix 13 (.bool false) rfl (vb h32)
   have hsh := ite_f hc33 h32
   refine st_val hs (y_loadBA (hw.ownAt 1 rfl) rfl Try.isAgg31 Try.sizeOf31 rfl rfl) ⟨_, rfl, rfl⟩ rfl rfl fun a hs => ?_
   obtain ⟨rv36, h35, hsh⟩ := bind_t hsh
   refine st_callR hs (ref17_ValidFraction_ok h35 hw.bdom (hw.bE 1 rfl) (hw.bE 0 rfl)) (do_call Try.call44 rfl) ⟨_, rfl, rfl⟩ rfl rfl ?_
   intro v40 Sv37 w a h38 h39 hs
   subst h39
   have hw := hw.callB h38
   refine st_val hs (y_not rfl) ⟨_, rfl, rfl⟩ rfl rfl fun a hs => ?_
   refine st_val hs (y_pickF rfl rfl) trivial rfl rfl fun a hs => ?_
   refine wpList_nil ?_
   have hw := hw.addE (e := SlA (α := Int) none 0 0 []) nil_sl
   have hsh := Option.some.inj hsh
   subst hsh
   refine then_normal ?_
   exact ⟨S0, (hs.wk rfl), (hw.ft [2, 1, 0] [4, 3, 2, 1, 0] (by decide) rfl rfl)⟩
 ·rintro a w ⟨Sv34, hs, hw⟩
  refine wpList_nil ?_
  refine then_normal ?_
  refine wp_cond_split (hs.ev rfl) (fun h43 => ?_) (fun h43 => ?_)
  ·have hsh := ite_t hsh h43
   refine wp_seq ?_
   refine wp_region_lit ?_
   refine st_val hs (y_build (vs := []) Bld31 rfl rfl) trivial rfl rfl fun a hs => ?_
   refine w_store (m := 2) (cs' := [.slice none ([] : List Int).length 0, .slice none ([] : List Int).length 0]) hs hw 2 rfl rfl rfl Try.sizeOf31 rfl rfl rfl rfl trivial ?_
   intro a w hs hw
   refine st_val hs (y_assign rfl) trivial rfl rfl fun a hs => ?_
   refine wpList_nil ?_
   refine then_normal ?_
   have hsh := Option.some.inj hsh
   subst hsh
   refine wp_ret ?_
   refine then_ret ?_
   exact ret2 hs rfl (rv_cell hw 2 rfl rfl Try.isAgg31 Try.sizeOf31 rfl) (rv_tmp rfl) (hw.ret ⟨none, 0, none, 0, rfl, (hw.envAt 4 rfl), (hw.envAt 4 rfl)⟩)
  ·have hsh := ite_f hsh h43
   refine wp_skip ?_
   refine then_normal ?_
   refine wp_seq ?_
   refine wp_region_lit ?_
   refine st_val hs (y_fieldAddr (o' := 0) Try.runUnderlying31 rfl Try.sizeOf29 rfl rfl rfl) trivial rfl rfl fun a hs => ?_
   refine st_val hs (y_loadB1 (hw.ownAt 0 rfl) rfl Try.isAgg29 rfl) trivial rfl rfl fun a hs => ?_
   refine st_val hs (y_fieldAddr (o' := 0) Try.runUnderlying31 rfl Try.sizeOf29 rfl rfl rfl) trivial rfl rfl fun a hs => ?_
   refine st_val hs (y_loadB1 (hw.ownAt 1 rfl) rfl Try.isAgg29 rfl) trivial rfl rfl fun a hs => ?_
   obtain ⟨rv45, h44, hsh⟩ := bind_t hsh
   refine st_callR hs (ref17_Mul_ok h44 hw.dom (hw.envAt 0 rfl) (hw.envAt 2 rfl)) (do_call Try.call47 rfl) trivial rfl rfl ?_
   intro v52 Sv49 w a h50 h51 hs
   obtain ⟨p46, k47, rfl, h48⟩ := h51
   have hw := hw.call h50
   have hw := hw.addE (e := SlA p46 rv45.1.length k47 rv45.1) h48
   refine st_val hs (y_move rfl) trivial rfl rfl fun a hs => ?_
   refine st_val hs (y_extract rfl rfl) trivial rfl rfl fun a hs => ?_
   refine st_val hs (y_extract rfl rfl) trivial rfl rfl fun a hs => ?_
   refine st_val hs (y_assign rfl) trivial rfl rfl fun a hs => ?_
   refine st_val hs (y_assign rfl) trivial rfl rfl fun a hs => ?_
   refine wpList_nil ?_
   refine then_normal ?_
   refine wp_seq ?_
   refine wp_region_lit ?_
   refine st_val hs (y_fieldAddr (o' := 1) Try.runUnderlying31 rfl Try.sizeOf29 rfl rfl rfl) trivial rfl rfl fun a hs => ?_
   refine st_val hs (y_loadB1 (hw.ownAt 0 rfl) rfl Try.isAgg29 rfl) trivial rfl rfl fun a hs => ?_
   refine st_val hs (y_fieldAddr (o' := 1) Try.runUnderlying31 rfl Try.sizeOf29 rfl rfl rfl) trivial rfl rfl fun a hs => ?_
   refine st_val hs (y_loadB1 (hw.ownAt 1 rfl) rfl Try.isAgg29 rfl) trivial rfl rfl fun a hs => ?_
   obtain ⟨rv55, h54, hsh⟩ := bind_t hsh
   refine st_callR hs (ref17_Mul_ok h54 hw.dom (hw.envAt 2 rfl) (hw.envAt 4 rfl)) (do_call Try.call47 rfl) trivial rfl rfl ?_
   intro v62 Sv59 w a h60 h61 hs
   obtain ⟨p56, k57, rfl, h58⟩ := h61
   have hw := hw.call h60
   have hw := hw.addE (e := SlA p56 rv55.1.length k57 rv55.1) h58
   refine st_val hs (y_move rfl) trivial rfl rfl fun a hs => ?_
   refine st_val hs (y_extract rfl rfl) trivial rfl rfl fun a hs => ?_
   refine st_val hs (y_extract rfl rfl) trivial rfl rfl fun a hs => ?_
   refine st_val hs (y_assign rfl) trivial rfl rfl fun a hs => ?_
   refine st_val hs (y_assign rfl) trivial rfl rfl fun a hs => ?_
   refine wpList_nil ?_
   refine then_normal ?_
   refine wp_seq ?_
   refine wp_seq ?_
   refine wp_region_lit ?_
   refine st_val hs (y_move rfl) trivial rfl rfl fun a hs => ?_
   refine st_val hs (y_neq rfl rfl) trivial rfl rfl fun a hs => ?_
   refine st_val hs (y_move rfl) trivial rfl rfl fun a hs => ?_
   refine wpl_join 3 (fun a w1 => w = w1 ∧ Sl 45 [(4, .pointer (some ⟨b17, 0, none⟩)), (6, .slice p46 rv45.1.length k47), (8, .slice p56 rv55.1.length k57), (40, .bool ((rv45.2 != 0) || (rv55.2 != 0)))] a) ?_ ?_
   ·rcases Bool.eq_false_or_eq_true (rv45.2 != 0) with h64 | h64
    ·have hs := hs.fix 37 (.bool true) rfl (vb h64)
     refine st_skip hs rfl rfl rfl rfl rfl fun a hs => ?_
     refine st_skip hs rfl rfl rfl rfl rfl fun a hs => ?_
     refine st_val hs (y_pickT rfl rfl) trivial rfl rfl fun a hs => ?_
     refine wpList_nil ?_
     refine then_normal ?_
     exact ⟨rfl, (hs.fix 40 (.bool ((rv45.2 != 0) || (rv55.2 != 0))) rfl (or_t h64)).weaken _ ⟨rfl, rfl, rfl, rfl, trivial⟩⟩
    ·have hs := hs.fix 37 (.bool false) rfl (vb h64)
     refine st_val hs (y_move rfl) ⟨_, rfl, rfl⟩ rfl rfl fun a hs => ?_
     refine st_val hs (y_neq rfl rfl) ⟨_, rfl, rfl⟩ rfl rfl fun a hs => ?_
     refine st_val hs (y_pickF rfl rfl) trivial rfl rfl fun a hs => ?_
     refine wpList_nil ?_
     refine then_normal ?_
     exact ⟨rfl, (hs.fix 40 (.bool ((rv45.2 != 0) || (rv55.2 != 0))) rfl (or_f h64)).weaken _ ⟨rfl, rfl, rfl, rfl, trivial⟩⟩
   ·rintro a w1 ⟨h67, hs⟩
    subst h67
    refine wpList_nil ?_
    refine then_normal ?_
    refine wp_cond_split (hs.ev rfl) (fun h66 => ?_) (fun h66 => ?_)
    ·have hsh := ite_t hsh h66
     refine wp_seq ?_
     refine wp_region_lit ?_
     refine st_val hs (y_build (vs := []) Bld31 rfl rfl) trivial rfl rfl fun a hs => ?_
     refine w_store (m := 2) (cs' := [.slice none ([] : List Int).length 0, .slice none ([] : List Int).length 0]) hs hw 2 rfl rfl rfl Try.sizeOf31 rfl rfl rfl rfl trivial ?_
     intro a w hs hw
     refine st_val hs (y_assign rfl) trivial rfl rfl fun a hs => ?_
     refine wpList_nil ?_
     refine then_normal ?_
     have hsh := Option.some.inj hsh
     subst hsh
     refine wp_ret ?_
     refine then_ret ?_
     exact ret2 hs rfl (rv_cell hw 2 rfl rfl Try.isAgg31 Try.sizeOf31 rfl) (rv_tmp rfl) (hw.ret ⟨none, 0, none, 0, rfl, (hw.envAt 6 rfl), (hw.envAt 6 rfl)⟩)
    ·have hsh := ite_f hsh h66
     refine wp_skip ?_
     refine then_normal ?_
     refine wp_seq ?_
     refine wp_region_lit ?_
     refine st_val hs (y_move rfl) trivial rfl rfl fun a hs => ?_
     refine st_val hs (y_move rfl) trivial rfl rfl fun a hs => ?_
     refine st_val hs (y_build (vs := [(0, .slice p46 rv45.1.length k47), (1, .slice p56 rv55.1.length k57)]) Bld31 rfl rfl) trivial rfl rfl fun a hs => ?_
     refine w_store (m := 2) (cs' := [.slice p46 rv45.1.length k47, .slice p56 rv55.1.length k57]) hs hw 2 rfl rfl rfl Try.sizeOf31 rfl rfl rfl rfl trivial ?_
     intro a w hs hw
     refine st_val hs (y_assign rfl) trivial rfl rfl fun a hs => ?_
     refine wpList_nil ?_
     refine then_normal ?_
     have hsh := Option.some.inj hsh
     subst hsh
     refine wp_ret ?_
     exact ret2 hs rfl (rv_cell hw 2 rfl rfl Try.isAgg31 Try.sizeOf31 rfl) (rv_tmp rfl) (hw.ret ⟨p46, k47, p56, k57, rfl, (hw.envAt 1 rfl), (hw.envAt 0 rfl)⟩)

abbrev law18_ResponseJoins_rd (w0 : World) (X : List Nat) (r : Bool) : (Nat → Prop) → World → Value → Prop := fun S w v => v = .bool r
set_option maxHeartbeats 4000000 in
set_option maxRecDepth 100000 in
theorem law18_ResponseJoins_ok {w0 : World} {S0 : Nat → Prop} {p2 : Option Addr} {k3 : Nat} {t1 : (List Int)} {num5 : Int} {den6 : Int} {r : Bool} (hsh : law18_ResponseJoins t1 num5 den6 = some r) (hS : ∀ b, S0 b → b < w0.heap.size) (h4 : (SlA p2 t1.length k3 t1).p S0 w0) : Calls Try.prog 4 #[.slice p2 t1.length k3, .int .u8 num5, .int .u8 den6] w0 (Ret ([]) w0 S0 (law18_ResponseJoins_rd w0 ([]) r)) := by
 refine calls_of_wp Try.func4 rfl ?_
 have hs := Sl.enter #[.slice p2 t1.length k3, .int .u8 num5, .int .u8 den6] 160 [(0, .slice p2 t1.length k3), (1, .int .u8 num5), (2, .int .u8 den6)] rfl ⟨rfl, rfl, rfl, trivial⟩
 have hw := Wd.enter (E := []) hS (fun _ h => (by cases h))
 have hw := hw.addE h4
 delta law18_ResponseJoins at hsh
 refine wp_seq ?_
 refine wp_region_lit ?_
 refine st_val hs (y_assign rfl) trivial rfl rfl fun a hs => ?_
 refine wpList_nil ?_
 refine then_normal ?_
 refine wp_seq ?_
 refine wp_seq ?_
 refine wp_region_lit ?_
 refine st_val hs (y_move rfl) trivial rfl rfl fun a hs => ?_
 obtain ⟨rv8, h7, hsh⟩ := bind_t hsh
 refine st_callR hs (made_Light_ok h7 hw.bdom (hw.bE 0 rfl)) (do_call Try.call13 rfl) trivial rfl rfl ?_
 intro v12 Sv9 w a h10 h11 hs
 subst h11
 have hw := hw.callB h10
 refine st_val hs (y_not rfl) trivial rfl rfl fun a hs => ?_
 refine wpList_nil ?_
 refine then_normal ?_
 refine wp_cond_split (hs.ev rfl) (fun h22 => ?_) (fun h22 => ?_)
 ·have hsh := ite_t hsh h22
  refine wp_seq ?_
  refine wp_region_lit ?_
  obtain ⟨rv24, h23, hsh⟩ := bind_t hsh
  refine st_callR hs (law18_sane_ok h23 hw.bdom) (do_call Try.call8 rfl) trivial rfl rfl ?_
  intro v28 Sv25 w a h26 h27 hs
  subst h27
  have hw := hw.callB h26
  refine st_val hs (y_assign rfl) trivial rfl rfl fun a hs => ?_
  refine wpList_nil ?_
  refine then_normal ?_
  have hsh := Option.some.inj hsh
  subst hsh
  refine wp_ret ?_
  refine then_ret ?_
  exact ret1 hs rfl (rv_tmp rfl) (hw.ret rfl)
 ·have hsh := ite_f hsh h22
  refine wp_skip ?_
  refine then_normal ?_
  refine wp_seq ?_
  refine wp_region_lit ?_
  refine st_val hs (y_move rfl) trivial rfl rfl fun a hs => ?_
  obtain ⟨rv31, h30, hsh⟩ := bind_t hsh
  refine st_callR hs (made_Roll_ok h30 hw.dom (hw.envAt 0 rfl)) (do_call Try.call14 rfl) trivial rfl rfl ?_
  intro v39 Sv36 w a h37 h38 hs
  obtain ⟨b32, p33, k34, rfl, h40, h35⟩ := h38
  have hw := hw.callN h37 h40
  have hw := hw.addE (e := SlA p33 rv31.L.length k34 rv31.L) h35
  refine st_val hs (y_assign rfl) trivial rfl rfl fun a hs => ?_
  refine wpList_nil ?_
  refine then_normal ?_
  refine wp_seq ?_
  refine wp_region_lit ?_
  refine st_val hs (y_move rfl) trivial rfl rfl fun a hs => ?_
  obtain ⟨rv42, h41, hsh⟩ := bind_t hsh
  refine st_callR hs (made_Dice_Response_ok h41 hw.dom (hw.ins [0] (by decide) rfl) (hw.envAt 0 rfl)) (do_call Try.call15 rfl) trivial rfl rfl ?_
  intro v53 Sv50 w a h51 h52 hs
  obtain ⟨p43, k44, c46, p47, k48, rfl, h54, h45, h49⟩ := h52
  have hw := hw.callO [0] [] (by decide) rfl h51 h54
  have hw := hw.addE (e := RowA c46 rv42.1.Stages) h45
  have hw := hw.addE (e := SlA p47 rv42.2.L.length k48 rv42.2.L) h49
  refine st_val hs (y_move rfl) trivial rfl rfl fun a hs => ?_
  obtain ⟨rv56, h55, hsh⟩ := bind_t hsh
  refine st_callR hs (made_Dice_Response_ok h55 hw.dom (hw.ins [1] (by decide) rfl) (hw.envAt 0 rfl)) (do_call Try.call15 rfl) trivial rfl rfl ?_
  intro v67 Sv64 w a h65 h66 hs
  obtain ⟨p57, k58, c60, p61, k62, rfl, h68, h59, h63⟩ := h66
  have hw := hw.callO [1] [0] (by decide) rfl h65 h68
  have hw := hw.addE (e := RowA c60 rv56.1.Stages) h59
  have hw := hw.addE (e := SlA p61 rv56.2.L.length k62 rv56.2.L) h63
  refine w_alloc (cs := [.slice none ([] : List Stage).length 0]) hs hw Try.zeroValue37 rfl rfl trivial ?_
  intro b69 a w hs hw
  refine w_alloc (cs := [.slice none ([] : List Stage).length 0]) hs hw Try.zeroValue37 rfl rfl trivial ?_
  intro b70 a w hs hw
  refine w_store (m := 1) (cs' := [.slice p43 rv42.1.Stages.length k44]) hs hw 1 rfl rfl rfl Try.sizeOf37 rfl rfl rfl rfl trivial ?_
  intro a w hs hw
  refine w_store (m := 1) (cs' := [.slice p57 rv56.1.Stages.length k58]) hs hw 0 rfl rfl rfl Try.sizeOf37 rfl rfl rfl rfl trivial ?_
  intro a w hs hw
  refine wpList_nil ?_
  refine then_normal ?_
  refine wp_seq ?_
  refine wp_region_lit ?_
  refine st_val hs (y_move rfl) trivial rfl rfl fun a hs => ?_
  refine st_val hs (y_convert Try.runUnderlying5 Try.runUnderlying3 rfl) trivial rfl rfl fun a hs => ?_
  refine st_val hs (y_move rfl) trivial rfl rfl fun a hs => ?_
  refine st_val hs (y_convert Try.runUnderlying5 Try.runUnderlying3 rfl) trivial rfl rfl fun a hs => ?_
  refine st_val hs (y_add rfl rfl) trivial rfl rfl fun a hs => ?_
  obtain ⟨n72, h71, hsh⟩ := bind_t hsh
  refine st_val hs (y_assignI rfl h71) trivial rfl rfl fun a hs => ?_
  obtain ⟨m74, h73, hsh⟩ := bind_t hsh
  refine st_val hs (y_assignI rfl h73) trivial rfl rfl fun a hs => ?_
  refine wpList_nil ?_
  refine then_normal ?_
  refine wp_seq ?_
  refine wp_region_lit ?_
  refine st_val hs (y_loadBA (hw.ownAt 1 rfl) rfl Try.isAgg37 Try.sizeOf37 rfl rfl) trivial rfl rfl fun a hs => ?_
  refine st_val hs (y_loadBA (hw.ownAt 0 rfl) rfl Try.isAgg37 Try.sizeOf37 rfl rfl) trivial rfl rfl fun a hs => ?_
  obtain ⟨rv76, h75, hsh⟩ := bind_t hsh
  obtain ⟨Sv81, hw⟩ := w_share (α := Stage) hw 4 rfl 3 rfl
  obtain ⟨Sv82, hw⟩ := w_share (α := Stage) hw 2 rfl 2 rfl
  refine st_callR hs (response_Join_ok h75 hw.dom (hw.envAt 1 rfl) (hw.envAt 0 rfl)) (do_call Try.call16 rfl) trivial rfl rfl ?_
  intro v86 Sv83 w a h84 h85 hs
  obtain ⟨p77, k78, c80, rfl, h87, h79⟩ := h85
  have hw := hw.callN h84 h87
  have hw := hw.addE (e := RowA c80 rv76.1.Stages) h79
  refine st_val hs (y_move rfl) trivial rfl rfl fun a hs => ?_
  refine st_val hs (y_extract rfl rfl) trivial rfl rfl fun a hs => ?_
  refine st_val hs (y_extract rfl rfl) trivial rfl rfl fun a hs => ?_
  refine w_alloc (cs := [.slice none ([] : List Stage).length 0]) hs hw Try.zeroValue37 rfl rfl trivial ?_
  intro b88 a w hs hw
  refine w_store (m := 1) (cs' := [.slice p77 rv76.1.Stages.length k78]) hs hw 0 rfl rfl rfl Try.sizeOf37 rfl rfl rfl rfl trivial ?_
  intro a w hs hw
  refine st_val hs (y_assign rfl) trivial rfl rfl fun a hs => ?_
  refine wpList_nil ?_
  refine then_normal ?_
  refine wp_seq ?_
  refine wp_region_lit ?_
  refine st_val hs (y_loadBA (hw.ownAt 2 rfl) rfl Try.isAgg37 Try.sizeOf37 rfl rfl) trivial rfl rfl fun a hs => ?_
  refine st_val hs (y_loadBA (hw.ownAt 3 rfl) rfl Try.isAgg37 Try.sizeOf37 rfl rfl) trivial rfl rfl fun a hs => ?_
  obtain ⟨rv90, h89, hsh⟩ := bind_t hsh
  refine st_callR hs (response_Join_ok h89 hw.dom (hw.envAt 1 rfl) (hw.envAt 2 rfl)) (do_call Try.call16 rfl) trivial rfl rfl ?_
  intro v98 Sv95 w a h96 h97 hs
  obtain ⟨p91, k92, c94, rfl, h99, h93⟩ := h97
  have hw := hw.callN h96 h99
  have hw := hw.addE (e := RowA c94 rv90.1.Stages) h93
  refine st_val hs (y_move rfl) trivial rfl rfl fun a hs => ?_
  refine st_val hs (y_extract rfl rfl) trivial rfl rfl fun a hs => ?_
  refine st_val hs (y_extract rfl rfl) trivial rfl rfl fun a hs => ?_
  refine w_alloc (cs := [.slice none ([] : List Stage).length 0]) hs hw Try.zeroValue37 rfl rfl trivial ?_
  intro b100 a w hs hw
  refine w_store (m := 1) (cs' := [.slice p91 rv90.1.Stages.length k92]) hs hw 0 rfl rfl rfl Try.sizeOf37 rfl rfl rfl rfl trivial ?_
  intro a w hs hw
  refine st_val hs (y_assign rfl) trivial rfl rfl fun a hs => ?_
  refine wpList_nil ?_
  refine then_normal ?_
  refine wp_seq ?_
  refine wp_seq ?_
  refine wp_region_lit ?_
  refine st_val hs (y_move rfl) trivial rfl rfl fun a hs => ?_
  refine st_val hs (y_neq rfl rfl) trivial rfl rfl fun a hs => ?_
  refine st_val hs (y_move rfl) trivial rfl rfl fun a hs => ?_
  refine wpl_join 3 (fun a w1 => w = w1 ∧ Sl 160 [(8, .pointer (some ⟨b69, 0, none⟩)), (9, .pointer (some ⟨b70, 0, none⟩)), (10, .int .i64 n72), (11, .int .i64 m74), (12, .pointer (some ⟨b88, 0, none⟩)), (13, .int .i64 rv76.2), (14, .pointer (some ⟨b100, 0, none⟩)), (15, .int .i64 rv90.2), (62, .bool ((rv76.2 != 0) || (rv90.2 != 0)))] a) ?_ ?_
  ·rcases Bool.eq_false_or_eq_true (rv76.2 != 0) with h101 | h101
   ·have hs := hs.fix 59 (.bool true) rfl (vb h101)
    refine st_skip hs rfl rfl rfl rfl rfl fun a hs => ?_
    refine st_skip hs rfl rfl rfl rfl rfl fun a hs => ?_
    refine st_val hs (y_pickT rfl rfl) trivial rfl rfl fun a hs => ?_
    refine wpList_nil ?_
    refine then_normal ?_
    exact ⟨rfl, (hs.fix 62 (.bool ((rv76.2 != 0) || (rv90.2 != 0))) rfl (or_t h101)).weaken _ ⟨rfl, rfl, rfl, rfl, rfl, rfl, rfl, rfl, rfl, trivial⟩⟩
   ·have hs := hs.fix 59 (.bool false) rfl (vb h101)
    refine st_val hs (y_move rfl) ⟨_, rfl, rfl⟩ rfl rfl fun a hs => ?_
    refine st_val hs (y_neq rfl rfl) ⟨_, rfl, rfl⟩ rfl rfl fun a hs => ?_
    refine st_val hs (y_pickF rfl rfl) trivial rfl rfl fun a hs => ?_
    refine wpList_nil ?_
    refine then_normal ?_
    exact ⟨rfl, (hs.fix 62 (.bool ((rv76.2 != 0) || (rv90.2 != 0))) rfl (or_f h101)).weaken _ ⟨rfl, rfl, rfl, rfl, rfl, rfl, rfl, rfl, rfl, trivial⟩⟩
  ·rintro a w1 ⟨h299, hs⟩
   subst h299
   refine wpList_nil ?_
   refine then_normal ?_
   refine wp_cond_split (hs.ev rfl) (fun h122 => ?_) (fun h122 => ?_)
   ·have hsh := ite_t hsh h122
    refine wp_seq ?_
    refine wp_region_lit ?_
    refine st_val hs (y_move rfl) trivial rfl rfl fun a hs => ?_
    refine st_val hs (y_eql rfl rfl) trivial rfl rfl fun a hs => ?_
    refine st_val hs (y_move rfl) trivial rfl rfl fun a hs => ?_
    refine wpl_join 3 (fun a w1 => w = w1 ∧ Sl 160 [(68, .bool ((rv76.2 == 8) && (rv90.2 == 8)))] a) ?_ ?_
    ·rcases Bool.eq_false_or_eq_true (rv76.2 == 8) with h123 | h123
     ·have hs := hs.fix 65 (.bool true) rfl (vb h123)
      refine st_val hs (y_move rfl) ⟨_, rfl, rfl⟩ rfl rfl fun a hs => ?_
      refine st_val hs (y_eql rfl rfl) ⟨_, rfl, rfl⟩ rfl rfl fun a hs => ?_
      refine st_val hs (y_pickT rfl rfl) trivial rfl rfl fun a hs => ?_
      refine wpList_nil ?_
      refine then_normal ?_
      exact ⟨rfl, (hs.fix 68 (.bool ((rv76.2 == 8) && (rv90.2 == 8))) rfl (and_t h123)).weaken _ ⟨rfl, trivial⟩⟩
     ·have hs := hs.fix 65 (.bool false) rfl (vb h123)
      refine st_skip hs rfl rfl rfl rfl rfl fun a hs => ?_
      refine st_skip hs rfl rfl rfl rfl rfl fun a hs => ?_
      refine st_val hs (y_pickF rfl rfl) trivial rfl rfl fun a hs => ?_
      refine wpList_nil ?_
      refine then_normal ?_
      exact ⟨rfl, (hs.fix 68 (.bool ((rv76.2 == 8) && (rv90.2 == 8))) rfl (and_f h123)).weaken _ ⟨rfl, trivial⟩⟩
    ·rintro a w1 ⟨h141, hs⟩
     subst h141
     refine st_val hs (y_move rfl) trivial rfl rfl fun a hs => ?_
     obtain ⟨c132, hc132, hsh⟩ := bind_t hsh
     refine wpl_join 2 (fun a w => ∃ (Sv133 : Nat → Prop), Sl 160 [(71, .bool c132)] a ∧ Wd ⟨w0, S0, []⟩ Sv133 [] [] w) ?_ ?_
     ·rcases Bool.eq_false_or_eq_true ((rv76.2 == 8) && (rv90.2 == 8)) with h131 | h131
      ·have hs := hs.fix 69 (.bool true) rfl (vb h131)
       have hsh := ite_t hc132 h131
       obtain ⟨rv135, h134, hsh⟩ := bind_t hsh
       refine st_callR hs (law18_sane_ok h134 hw.bdom) (do_call Try.call8 rfl) ⟨_, rfl, rfl⟩ rfl rfl ?_
       intro v139 Sv136 w a h137 h138 hs
       subst h138
       have hw := hw.callB h137
       refine st_val hs (y_pickT rfl rfl) trivial rfl rfl fun a hs => ?_
       refine wpList_nil ?_
       have hsh := Option.some.inj hsh
       subst hsh
       refine then_normal ?_
       exact ⟨Sv95, (hs.wk rfl), (hw.ft [] [] (by decide) rfl rfl)⟩
      ·have hs := hs.fix 69 (.bool false) rfl (vb h131)
       have hsh := ite_f hc132 h131
       refine st_skip hs rfl rfl rfl rfl rfl fun a hs => ?_
       refine st_val hs (y_pickF rfl rfl) trivial rfl rfl fun a hs => ?_
       refine wpList_nil ?_
       have hsh := Option.some.inj hsh
       subst hsh
       refine then_normal ?_
       exact ⟨Sv95, (hs.wk rfl), (hw.ft [] [] (by decide) rfl rfl)⟩
     ·rintro a w ⟨Sv133, hs, hw⟩
      refine st_val hs (y_assign rfl) trivial rfl rfl fun a hs => ?_
      refine wpList_nil ?_
      refine then_normal ?_
      have hsh := Option.some.inj hsh
      subst hsh
      refine wp_ret ?_
      refine then_ret ?_
      exact ret1 hs rfl (rv_tmp rfl) (hw.ret rfl)
   ·have hsh := ite_f hsh h122
    refine wp_skip ?_
    refine then_normal ?_
    refine wp_seq ?_
    refine wp_region_lit ?_
    refine st_val hs (y_loadBA (hw.ownAt 5 rfl) rfl Try.isAgg37 Try.sizeOf37 rfl rfl) trivial rfl rfl fun a hs => ?_
    refine st_val hs (y_move rfl) trivial rfl rfl fun a hs => ?_
    refine st_val hs (y_move rfl) trivial rfl rfl fun a hs => ?_
    obtain ⟨rv143, h142, hsh⟩ := bind_t hsh
    refine st_callR hs (response_Gain_ok h142 hw.dom (hw.envAt 3 rfl)) (do_call Try.call10 rfl) trivial rfl rfl ?_
    intro v153 Sv150 w a h151 h152 hs
    obtain ⟨p144, k145, p147, k148, rfl, h146, h149⟩ := h152
    have hw := hw.call h151
    have hw := hw.addE (e := SlA p144 rv143.1.Num.length k145 rv143.1.Num) h146
    have hw := hw.addE (e := SlA p147 rv143.1.Den.length k148 rv143.1.Den) h149
    refine st_val hs (y_move rfl) trivial rfl rfl fun a hs => ?_
    refine st_val hs (y_extract rfl rfl) trivial rfl rfl fun a hs => ?_
    refine st_val hs (y_extract rfl rfl) trivial rfl rfl fun a hs => ?_
    refine w_alloc (cs := [.slice none ([] : List Int).length 0, .slice none ([] : List Int).length 0]) hs hw Try.zeroValue31 rfl rfl trivial ?_
    intro b155 a w hs hw
    refine w_store (m := 2) (cs' := [.slice p144 rv143.1.Num.length k145, .slice p147 rv143.1.Den.length k148]) hs hw 0 rfl rfl rfl Try.sizeOf31 rfl rfl rfl rfl trivial ?_
    intro a w hs hw
    refine st_val hs (y_assign rfl) trivial rfl rfl fun a hs => ?_
    refine wpList_nil ?_
    refine then_normal ?_
    refine wp_seq ?_
    refine wp_region_lit ?_
    refine st_val hs (y_loadBA (hw.ownAt 5 rfl) rfl Try.isAgg37 Try.sizeOf37 rfl rfl) trivial rfl rfl fun a hs => ?_
    refine st_val hs (y_move rfl) trivial rfl rfl fun a hs => ?_
    refine st_val hs (y_move rfl) trivial rfl rfl fun a hs => ?_
    obtain ⟨rv157, h156, hsh⟩ := bind_t hsh
    refine st_callR hs (response_Gain_ok h156 hw.dom (hw.envAt 4 rfl)) (do_call Try.call10 rfl) trivial rfl rfl ?_
    intro v167 Sv164 w a h165 h166 hs
    obtain ⟨p158, k159, p161, k162, rfl, h160, h163⟩ := h166
    have hw := hw.call h165
    have hw := hw.addE (e := SlA p158 rv157.1.Num.length k159 rv157.1.Num) h160
    have hw := hw.addE (e := SlA p161 rv157.1.Den.length k162 rv157.1.Den) h163
    refine st_val hs (y_move rfl) trivial rfl rfl fun a hs => ?_
    refine st_val hs (y_extract rfl rfl) trivial rfl rfl fun a hs => ?_
    refine st_val hs (y_extract rfl rfl) trivial rfl rfl fun a hs => ?_
    refine w_alloc (cs := [.slice none ([] : List Int).length 0, .slice none ([] : List Int).length 0]) hs hw Try.zeroValue31 rfl rfl trivial ?_
    intro b169 a w hs hw
    refine w_store (m := 2) (cs' := [.slice p158 rv157.1.Num.length k159, .slice p161 rv157.1.Den.length k162]) hs hw 0 rfl rfl rfl Try.sizeOf31 rfl rfl rfl rfl trivial ?_
    intro a w hs hw
    refine st_val hs (y_assign rfl) trivial rfl rfl fun a hs => ?_
    refine wpList_nil ?_
    refine then_normal ?_
    refine wp_seq ?_
    refine wp_region_lit ?_
    refine st_val hs (y_loadBA (hw.ownAt 4 rfl) rfl Try.isAgg37 Try.sizeOf37 rfl rfl) trivial rfl rfl fun a hs => ?_
    refine st_val hs (y_move rfl) trivial rfl rfl fun a hs => ?_
    refine st_val hs (y_move rfl) trivial rfl rfl fun a hs => ?_
    obtain ⟨rv171, h170, hsh⟩ := bind_t hsh
    obtain ⟨Sv178, hw⟩ := w_share (α := Stage) hw 5 rfl 5 rfl
    refine st_callR hs (response_Gain_ok h170 hw.dom (hw.envAt 0 rfl)) (do_call Try.call10 rfl) trivial rfl rfl ?_
    intro v182 Sv179 w a h180 h181 hs
    obtain ⟨p172, k173, p175, k176, rfl, h174, h177⟩ := h181
    have hw := hw.call h180
    have hw := hw.addE (e := SlA p172 rv171.1.Num.length k173 rv171.1.Num) h174
    have hw := hw.addE (e := SlA p175 rv171.1.Den.length k176 rv171.1.Den) h177
    refine st_val hs (y_move rfl) trivial rfl rfl fun a hs => ?_
    refine st_val hs (y_extract rfl rfl) trivial rfl rfl fun a hs => ?_
    refine st_val hs (y_extract rfl rfl) trivial rfl rfl fun a hs => ?_
    refine w_alloc (cs := [.slice none ([] : List Int).length 0, .slice none ([] : List Int).length 0]) hs hw Try.zeroValue31 rfl rfl trivial ?_
    intro b184 a w hs hw
    refine w_store (m := 2) (cs' := [.slice p172 rv171.1.Num.length k173, .slice p175 rv171.1.Den.length k176]) hs hw 0 rfl rfl rfl Try.sizeOf31 rfl rfl rfl rfl trivial ?_
    intro a w hs hw
    refine st_val hs (y_assign rfl) trivial rfl rfl fun a hs => ?_
    refine wpList_nil ?_
    refine then_normal ?_
    refine wp_seq ?_
    refine wp_region_lit ?_
    refine st_val hs (y_loadBA (hw.ownAt 3 rfl) rfl Try.isAgg37 Try.sizeOf37 rfl rfl) trivial rfl rfl fun a hs => ?_
    refine st_val hs (y_move rfl) trivial rfl rfl fun a hs => ?_
    refine st_val hs (y_move rfl) trivial rfl rfl fun a hs => ?_
    obtain ⟨rv186, h185, hsh⟩ := bind_t hsh
    obtain ⟨Sv193, hw⟩ := w_share (α := Stage) hw 4 rfl 7 rfl
    refine st_callR hs (response_Gain_ok h185 hw.dom (hw.envAt 0 rfl)) (do_call Try.call10 rfl) trivial rfl rfl ?_
    intro v197 Sv194 w a h195 h196 hs
    obtain ⟨p187, k188, p190, k191, rfl, h189, h192⟩ := h196
    have hw := hw.call h195
    have hw := hw.addE (e := SlA p187 rv186.1.Num.length k188 rv186.1.Num) h189
    have hw := hw.addE (e := SlA p190 rv186.1.Den.length k191 rv186.1.Den) h192
    refine st_val hs (y_move rfl) trivial rfl rfl fun a hs => ?_
    refine st_val hs (y_extract rfl rfl) trivial rfl rfl fun a hs => ?_
    refine st_val hs (y_extract rfl rfl) trivial rfl rfl fun a hs => ?_
    refine w_alloc (cs := [.slice none ([] : List Int).length 0, .slice none ([] : List Int).length 0]) hs hw Try.zeroValue31 rfl rfl trivial ?_
    intro b199 a w hs hw
    refine w_store (m := 2) (cs' := [.slice p187 rv186.1.Num.length k188, .slice p190 rv186.1.Den.length k191]) hs hw 0 rfl rfl rfl Try.sizeOf31 rfl rfl rfl rfl trivial ?_
    intro a w hs hw
    refine st_val hs (y_assign rfl) trivial rfl rfl fun a hs => ?_
    refine wpList_nil ?_
    refine then_normal ?_
    refine wp_seq ?_
    refine wp_seq ?_
    refine wp_region_lit ?_
    refine st_val hs (y_move rfl) trivial rfl rfl fun a hs => ?_
    refine st_val hs (y_neq rfl rfl) trivial rfl rfl fun a hs => ?_
    refine st_val hs (y_move rfl) trivial rfl rfl fun a hs => ?_
    refine wpl_join 3 (fun a w1 => w = w1 ∧ Sl 160 [(16, .pointer (some ⟨b155, 0, none⟩)), (18, .pointer (some ⟨b169, 0, none⟩)), (20, .pointer (some ⟨b184, 0, none⟩)), (21, .int .i64 rv171.2), (22, .pointer (some ⟨b199, 0, none⟩)), (23, .int .i64 rv186.2), (105, .bool ((rv143.2 != 0) || (rv157.2 != 0)))] a) ?_ ?_
    ·rcases Bool.eq_false_or_eq_true (rv143.2 != 0) with h200 | h200
     ·have hs := hs.fix 102 (.bool true) rfl (vb h200)
      refine st_skip hs rfl rfl rfl rfl rfl fun a hs => ?_
      refine st_skip hs rfl rfl rfl rfl rfl fun a hs => ?_
      refine st_val hs (y_pickT rfl rfl) trivial rfl rfl fun a hs => ?_
      refine wpList_nil ?_
      refine then_normal ?_
      exact ⟨rfl, (hs.fix 105 (.bool ((rv143.2 != 0) || (rv157.2 != 0))) rfl (or_t h200)).weaken _ ⟨rfl, rfl, rfl, rfl, rfl, rfl, rfl, trivial⟩⟩
     ·have hs := hs.fix 102 (.bool false) rfl (vb h200)
      refine st_val hs (y_move rfl) ⟨_, rfl, rfl⟩ rfl rfl fun a hs => ?_
      refine st_val hs (y_neq rfl rfl) ⟨_, rfl, rfl⟩ rfl rfl fun a hs => ?_
      refine st_val hs (y_pickF rfl rfl) trivial rfl rfl fun a hs => ?_
      refine wpList_nil ?_
      refine then_normal ?_
      exact ⟨rfl, (hs.fix 105 (.bool ((rv143.2 != 0) || (rv157.2 != 0))) rfl (or_f h200)).weaken _ ⟨rfl, rfl, rfl, rfl, rfl, rfl, rfl, trivial⟩⟩
    ·rintro a w1 ⟨h298, hs⟩
     subst h298
     refine wpList_nil ?_
     refine then_normal ?_
     refine wp_cond_split (hs.ev rfl) (fun h221 => ?_) (fun h221 => ?_)
     ·have hsh := ite_t hsh h221
      refine wp_seq ?_
      refine wp_region_lit ?_
      refine st_val hs (y_move rfl) trivial rfl rfl fun a hs => ?_
      refine st_val hs (y_eql rfl rfl) trivial rfl rfl fun a hs => ?_
      refine st_val hs (y_move rfl) trivial rfl rfl fun a hs => ?_
      refine wpl_join 3 (fun a w1 => w = w1 ∧ Sl 160 [(111, .bool ((rv171.2 == 11) && (rv186.2 == 11)))] a) ?_ ?_
      ·rcases Bool.eq_false_or_eq_true (rv171.2 == 11) with h222 | h222
       ·have hs := hs.fix 108 (.bool true) rfl (vb h222)
        refine st_val hs (y_move rfl) ⟨_, rfl, rfl⟩ rfl rfl fun a hs => ?_
        refine st_val hs (y_eql rfl rfl) ⟨_, rfl, rfl⟩ rfl rfl fun a hs => ?_
        refine st_val hs (y_pickT rfl rfl) trivial rfl rfl fun a hs => ?_
        refine wpList_nil ?_
        refine then_normal ?_
        exact ⟨rfl, (hs.fix 111 (.bool ((rv171.2 == 11) && (rv186.2 == 11))) rfl (and_t h222)).weaken _ ⟨rfl, trivial⟩⟩
       ·have hs := hs.fix 108 (.bool false) rfl (vb h222)
        refine st_skip hs rfl rfl rfl rfl rfl fun a hs => ?_
        refine st_skip hs rfl rfl rfl rfl rfl fun a hs => ?_
        refine st_val hs (y_pickF rfl rfl) trivial rfl rfl fun a hs => ?_
        refine wpList_nil ?_
        refine then_normal ?_
        exact ⟨rfl, (hs.fix 111 (.bool ((rv171.2 == 11) && (rv186.2 == 11))) rfl (and_f h222)).weaken _ ⟨rfl, trivial⟩⟩
      ·rintro a w1 ⟨h240, hs⟩
       subst h240
       refine st_val hs (y_move rfl) trivial rfl rfl fun a hs => ?_
       obtain ⟨c231, hc231, hsh⟩ := bind_t hsh
       refine wpl_join 2 (fun a w => ∃ (Sv232 : Nat → Prop), Sl 160 [(114, .bool c231)] a ∧ Wd ⟨w0, S0, []⟩ Sv232 [] [] w) ?_ ?_
       ·rcases Bool.eq_false_or_eq_true ((rv171.2 == 11) && (rv186.2 == 11)) with h230 | h230
        ·have hs := hs.fix 112 (.bool true) rfl (vb h230)
         have hsh := ite_t hc231 h230
         obtain ⟨rv234, h233, hsh⟩ := bind_t hsh
         refine st_callR hs (law18_sane_ok h233 hw.bdom) (do_call Try.call8 rfl) ⟨_, rfl, rfl⟩ rfl rfl ?_
         intro v238 Sv235 w a h236 h237 hs
         subst h237
         have hw := hw.callB h236
         refine st_val hs (y_pickT rfl rfl) trivial rfl rfl fun a hs => ?_
         refine wpList_nil ?_
         have hsh := Option.some.inj hsh
         subst hsh
         refine then_normal ?_
         exact ⟨Sv194, (hs.wk rfl), (hw.ft [] [] (by decide) rfl rfl)⟩
        ·have hs := hs.fix 112 (.bool false) rfl (vb h230)
         have hsh := ite_f hc231 h230
         refine st_skip hs rfl rfl rfl rfl rfl fun a hs => ?_
         refine st_val hs (y_pickF rfl rfl) trivial rfl rfl fun a hs => ?_
         refine wpList_nil ?_
         have hsh := Option.some.inj hsh
         subst hsh
         refine then_normal ?_
         exact ⟨Sv194, (hs.wk rfl), (hw.ft [] [] (by decide) rfl rfl)⟩
       ·rintro a w ⟨Sv232, hs, hw⟩
        refine st_val hs (y_assign rfl) trivial rfl rfl fun a hs => ?_
        refine wpList_nil ?_
        refine then_normal ?_
        have hsh := Option.some.inj hsh
        subst hsh
        refine wp_ret ?_
        refine then_ret ?_
        exact ret1 hs rfl (rv_tmp rfl) (hw.ret rfl)
     ·have hsh := ite_f hsh h221
      refine wp_skip ?_
      refine then_normal ?_
      refine wp_seq ?_
      refine wp_region_lit ?_
      refine st_val hs (y_loadBA (hw.ownAt 3 rfl) rfl Try.isAgg31 Try.sizeOf31 rfl rfl) trivial rfl rfl fun a hs => ?_
      refine st_val hs (y_loadBA (hw.ownAt 2 rfl) rfl Try.isAgg31 Try.sizeOf31 rfl rfl) trivial rfl rfl fun a hs => ?_
      obtain ⟨rv242, h241, hsh⟩ := bind_t hsh
      refine st_callR hs (ref17_Times_ok h241 hw.dom (hw.envAt 9 rfl) (hw.envAt 8 rfl) (hw.envAt 7 rfl) (hw.envAt 6 rfl)) (do_call Try.call12 rfl) trivial rfl rfl ?_
      intro v252 Sv249 w a h250 h251 hs
      obtain ⟨p243, k244, p246, k247, rfl, h245, h248⟩ := h251
      have hw := hw.call h250
      have hw := hw.addE (e := SlA p243 rv242.1.Num.length k244 rv242.1.Num) h245
      have hw := hw.addE (e := SlA p246 rv242.1.Den.length k247 rv242.1.Den) h248
      refine st_val hs (y_move rfl) trivial rfl rfl fun a hs => ?_
      refine st_val hs (y_extract rfl rfl) trivial rfl rfl fun a hs => ?_
      refine st_val hs (y_extract rfl rfl) trivial rfl rfl fun a hs => ?_
      refine w_alloc (cs := [.slice none ([] : List Int).length 0, .slice none ([] : List Int).length 0]) hs hw Try.zeroValue31 rfl rfl trivial ?_
      intro b254 a w hs hw
      refine w_store (m := 2) (cs' := [.slice p243 rv242.1.Num.length k244, .slice p246 rv242.1.Den.length k247]) hs hw 0 rfl rfl rfl Try.sizeOf31 rfl rfl rfl rfl trivial ?_
      intro a w hs hw
      refine st_val hs (y_assign rfl) trivial rfl rfl fun a hs => ?_
      refine wpList_nil ?_
      refine then_normal ?_
      refine wp_seq ?_
      refine wp_region_lit ?_
      refine st_val hs (y_loadBA (hw.ownAt 2 rfl) rfl Try.isAgg31 Try.sizeOf31 rfl rfl) trivial rfl rfl fun a hs => ?_
      refine st_val hs (y_loadBA (hw.ownAt 0 rfl) rfl Try.isAgg31 Try.sizeOf31 rfl rfl) trivial rfl rfl fun a hs => ?_
      obtain ⟨rv256, h255, hsh⟩ := bind_t hsh
      refine st_callR hs (ref17_Equal_ok h255 hw.bdom (hw.bE 6 rfl) (hw.bE 5 rfl) (hw.bE 1 rfl) (hw.bE 0 rfl)) (do_call Try.call11 rfl) trivial rfl rfl ?_
      intro v260 Sv257 w a h258 h259 hs
      subst h259
      have hw := hw.callB h258
      refine st_val hs (y_move rfl) trivial rfl rfl fun a hs => ?_
      refine st_val hs (y_extract rfl rfl) trivial rfl rfl fun a hs => ?_
      refine st_val hs (y_extract rfl rfl) trivial rfl rfl fun a hs => ?_
      refine st_val hs (y_assign rfl) trivial rfl rfl fun a hs => ?_
      refine st_val hs (y_assign rfl) trivial rfl rfl fun a hs => ?_
      refine wpList_nil ?_
      refine then_normal ?_
      refine wp_seq ?_
      refine wp_region_lit ?_
      refine st_val hs (y_loadBA (hw.ownAt 1 rfl) rfl Try.isAgg31 Try.sizeOf31 rfl rfl) trivial rfl rfl fun a hs => ?_
      refine st_val hs (y_loadBA (hw.ownAt 0 rfl) rfl Try.isAgg31 Try.sizeOf31 rfl rfl) trivial rfl rfl fun a hs => ?_
      obtain ⟨rv263, h262, hsh⟩ := bind_t hsh
      refine st_callR hs (ref17_Equal_ok h262 hw.bdom (hw.bE 3 rfl) (hw.bE 2 rfl) (hw.bE 1 rfl) (hw.bE 0 rfl)) (do_call Try.call11 rfl) trivial rfl rfl ?_
      intro v267 Sv264 w a h265 h266 hs
      subst h266
      have hw := hw.callB h265
      refine st_val hs (y_move rfl) trivial rfl rfl fun a hs => ?_
      refine st_val hs (y_extract rfl rfl) trivial rfl rfl fun a hs => ?_
      refine st_val hs (y_extract rfl rfl) trivial rfl rfl fun a hs => ?_
      refine st_val hs (y_assign rfl) trivial rfl rfl fun a hs => ?_
      refine st_val hs (y_assign rfl) trivial rfl rfl fun a hs => ?_
      refine wpList_nil ?_
      refine then_normal ?_
      refine wp_seq ?_
      refine wp_region_lit ?_
      refine st_val hs (y_move rfl) trivial rfl rfl fun a hs => ?_
      refine st_val hs (y_eql rfl rfl) trivial rfl rfl fun a hs => ?_
      refine st_val hs (y_move rfl) trivial rfl rfl fun a hs => ?_
      refine wpl_join 3 (fun a w1 => w = w1 ∧ Sl 160 [(25, .int .i64 rv242.2), (26, .bool rv256.1), (27, .int .i64 rv256.2), (28, .bool rv263.1), (29, .int .i64 rv263.2), (138, .bool ((rv171.2 == 0) && (rv186.2 == 0)))] a) ?_ ?_
      ·rcases Bool.eq_false_or_eq_true (rv171.2 == 0) with h269 | h269
       ·have hs := hs.fix 135 (.bool true) rfl (vb h269)
        refine st_val hs (y_move rfl) ⟨_, rfl, rfl⟩ rfl rfl fun a hs => ?_
        refine st_val hs (y_eql rfl rfl) ⟨_, rfl, rfl⟩ rfl rfl fun a hs => ?_
        refine st_val hs (y_pickT rfl rfl) trivial rfl rfl fun a hs => ?_
        refine wpList_nil ?_
        refine then_normal ?_
        exact ⟨rfl, (hs.fix 138 (.bool ((rv171.2 == 0) && (rv186.2 == 0))) rfl (and_t h269)).weaken _ ⟨rfl, rfl, rfl, rfl, rfl, rfl, trivial⟩⟩
       ·have hs := hs.fix 135 (.bool false) rfl (vb h269)
        refine st_skip hs rfl rfl rfl rfl rfl fun a hs => ?_
        refine st_skip hs rfl rfl rfl rfl rfl fun a hs => ?_
        refine st_val hs (y_pickF rfl rfl) trivial rfl rfl fun a hs => ?_
        refine wpList_nil ?_
        refine then_normal ?_
        exact ⟨rfl, (hs.fix 138 (.bool ((rv171.2 == 0) && (rv186.2 == 0))) rfl (and_f h269)).weaken _ ⟨rfl, rfl, rfl, rfl, rfl, rfl, trivial⟩⟩
      ·rintro a w1 ⟨h297, hs⟩
       subst h297
       refine st_val hs (y_move rfl) trivial rfl rfl fun a hs => ?_
       refine wpl_join 3 (fun a w1 => w = w1 ∧ Sl 160 [(26, .bool rv256.1), (27, .int .i64 rv256.2), (28, .bool rv263.1), (29, .int .i64 rv263.2), (142, .bool (((rv171.2 == 0) && (rv186.2 == 0)) && (rv242.2 == 0)))] a) ?_ ?_
       ·rcases Bool.eq_false_or_eq_true ((rv171.2 == 0) && (rv186.2 == 0)) with h270 | h270
        ·have hs := hs.fix 139 (.bool true) rfl (vb h270)
         refine st_val hs (y_move rfl) ⟨_, rfl, rfl⟩ rfl rfl fun a hs => ?_
         refine st_val hs (y_eql rfl rfl) ⟨_, rfl, rfl⟩ rfl rfl fun a hs => ?_
         refine st_val hs (y_pickT rfl rfl) trivial rfl rfl fun a hs => ?_
         refine wpList_nil ?_
         refine then_normal ?_
         exact ⟨rfl, (hs.fix 142 (.bool (((rv171.2 == 0) && (rv186.2 == 0)) && (rv242.2 == 0))) rfl (and_t h270)).weaken _ ⟨rfl, rfl, rfl, rfl, rfl, trivial⟩⟩
        ·have hs := hs.fix 139 (.bool false) rfl (vb h270)
         refine st_skip hs rfl rfl rfl rfl rfl fun a hs => ?_
         refine st_skip hs rfl rfl rfl rfl rfl fun a hs => ?_
         refine st_val hs (y_pickF rfl rfl) trivial rfl rfl fun a hs => ?_
         refine wpList_nil ?_
         refine then_normal ?_
         exact ⟨rfl, (hs.fix 142 (.bool (((rv171.2 == 0) && (rv186.2 == 0)) && (rv242.2 == 0))) rfl (and_f h270)).weaken _ ⟨rfl, rfl, rfl, rfl, rfl, trivial⟩⟩
       ·rintro a w1 ⟨h296, hs⟩
        subst h296
        refine st_val hs (y_move rfl) trivial rfl rfl fun a hs => ?_
        refine wpl_join 3 (fun a w1 => w = w1 ∧ Sl 160 [(26, .bool rv256.1), (28, .bool rv263.1), (29, .int .i64 rv263.2), (146, .bool ((((rv171.2 == 0) && (rv186.2 == 0)) && (rv242.2 == 0)) && (rv256.2 == 0)))] a) ?_ ?_
        ·rcases Bool.eq_false_or_eq_true (((rv171.2 == 0) && (rv186.2 == 0)) && (rv242.2 == 0)) with h271 | h271
         ·have hs := hs.fix 143 (.bool true) rfl (vb h271)
          refine st_val hs (y_move rfl) ⟨_, rfl, rfl⟩ rfl rfl fun a hs => ?_
          refine st_val hs (y_eql rfl rfl) ⟨_, rfl, rfl⟩ rfl rfl fun a hs => ?_
          refine st_val hs (y_pickT rfl rfl) trivial rfl rfl fun a hs => ?_
          refine wpList_nil ?_
          refine then_normal ?_
          exact ⟨rfl, (hs.fix 146 (.bool ((((rv171.2 == 0) && (rv186.2 == 0)) && (rv242.2 == 0)) && (rv256.2 == 0))) rfl (and_t h271)).weaken _ ⟨rfl, rfl, rfl, rfl, trivial⟩⟩
         ·have hs := hs.fix 143 (.bool false) rfl (vb h271)
          refine st_skip hs rfl rfl rfl rfl rfl fun a hs => ?_
          refine st_skip hs rfl rfl rfl rfl rfl fun a hs => ?_
          refine st_val hs (y_pickF rfl rfl) trivial rfl rfl fun a hs => ?_
          refine wpList_nil ?_
          refine then_normal ?_
          exact ⟨rfl, (hs.fix 146 (.bool ((((rv171.2 == 0) && (rv186.2 == 0)) && (rv242.2 == 0)) && (rv256.2 == 0))) rfl (and_f h271)).weaken _ ⟨rfl, rfl, rfl, rfl, trivial⟩⟩
        ·rintro a w1 ⟨h295, hs⟩
         subst h295
         refine st_val hs (y_move rfl) trivial rfl rfl fun a hs => ?_
         refine wpl_join 3 (fun a w1 => w = w1 ∧ Sl 160 [(26, .bool rv256.1), (28, .bool rv263.1), (150, .bool (((((rv171.2 == 0) && (rv186.2 == 0)) && (rv242.2 == 0)) && (rv256.2 == 0)) && (rv263.2 == 0)))] a) ?_ ?_
         ·rcases Bool.eq_false_or_eq_true ((((rv171.2 == 0) && (rv186.2 == 0)) && (rv242.2 == 0)) && (rv256.2 == 0)) with h272 | h272
          ·have hs := hs.fix 147 (.bool true) rfl (vb h272)
           refine st_val hs (y_move rfl) ⟨_, rfl, rfl⟩ rfl rfl fun a hs => ?_
           refine st_val hs (y_eql rfl rfl) ⟨_, rfl, rfl⟩ rfl rfl fun a hs => ?_
           refine st_val hs (y_pickT rfl rfl) trivial rfl rfl fun a hs => ?_
           refine wpList_nil ?_
           refine then_normal ?_
           exact ⟨rfl, (hs.fix 150 (.bool (((((rv171.2 == 0) && (rv186.2 == 0)) && (rv242.2 == 0)) && (rv256.2 == 0)) && (rv263.2 == 0))) rfl (and_t h272)).weaken _ ⟨rfl, rfl, rfl, trivial⟩⟩
          ·have hs := hs.fix 147 (.bool false) rfl (vb h272)
           refine st_skip hs rfl rfl rfl rfl rfl fun a hs => ?_
           refine st_skip hs rfl rfl rfl rfl rfl fun a hs => ?_
           refine st_val hs (y_pickF rfl rfl) trivial rfl rfl fun a hs => ?_
           refine wpList_nil ?_
           refine then_normal ?_
           exact ⟨rfl, (hs.fix 150 (.bool (((((rv171.2 == 0) && (rv186.2 == 0)) && (rv242.2 == 0)) && (rv256.2 == 0)) && (rv263.2 == 0))) rfl (and_f h272)).weaken _ ⟨rfl, rfl, rfl, trivial⟩⟩
         ·rintro a w1 ⟨h294, hs⟩
          subst h294
          refine st_val hs (y_move rfl) trivial rfl rfl fun a hs => ?_
          refine wpl_join 2 (fun a w1 => w = w1 ∧ Sl 160 [(28, .bool rv263.1), (153, .bool ((((((rv171.2 == 0) && (rv186.2 == 0)) && (rv242.2 == 0)) && (rv256.2 == 0)) && (rv263.2 == 0)) && rv256.1))] a) ?_ ?_
          ·rcases Bool.eq_false_or_eq_true (((((rv171.2 == 0) && (rv186.2 == 0)) && (rv242.2 == 0)) && (rv256.2 == 0)) && (rv263.2 == 0)) with h273 | h273
           ·have hs := hs.fix 151 (.bool true) rfl (vb h273)
            refine st_val hs (y_move rfl) ⟨_, rfl, rfl⟩ rfl rfl fun a hs => ?_
            refine st_val hs (y_pickT rfl rfl) trivial rfl rfl fun a hs => ?_
            refine wpList_nil ?_
            refine then_normal ?_
            exact ⟨rfl, (hs.fix 153 (.bool ((((((rv171.2 == 0) && (rv186.2 == 0)) && (rv242.2 == 0)) && (rv256.2 == 0)) && (rv263.2 == 0)) && rv256.1)) rfl (and_t h273)).weaken _ ⟨rfl, rfl, trivial⟩⟩
           ·have hs := hs.fix 151 (.bool false) rfl (vb h273)
            refine st_skip hs rfl rfl rfl rfl rfl fun a hs => ?_
            refine st_val hs (y_pickF rfl rfl) trivial rfl rfl fun a hs => ?_
            refine wpList_nil ?_
            refine then_normal ?_
            exact ⟨rfl, (hs.fix 153 (.bool ((((((rv171.2 == 0) && (rv186.2 == 0)) && (rv242.2 == 0)) && (rv256.2 == 0)) && (rv263.2 == 0)) && rv256.1)) rfl (and_f h273)).weaken _ ⟨rfl, rfl, trivial⟩⟩
          ·rintro a w1 ⟨h293, hs⟩
           subst h293
           refine st_val hs (y_move rfl) trivial rfl rfl fun a hs => ?_
           refine wpl_join 2 (fun a w1 => w = w1 ∧ Sl 160 [(156, .bool (((((((rv171.2 == 0) && (rv186.2 == 0)) && (rv242.2 == 0)) && (rv256.2 == 0)) && (rv263.2 == 0)) && rv256.1) && rv263.1))] a) ?_ ?_
           ·rcases Bool.eq_false_or_eq_true ((((((rv171.2 == 0) && (rv186.2 == 0)) && (rv242.2 == 0)) && (rv256.2 == 0)) && (rv263.2 == 0)) && rv256.1) with h274 | h274
            ·have hs := hs.fix 154 (.bool true) rfl (vb h274)
             refine st_val hs (y_move rfl) ⟨_, rfl, rfl⟩ rfl rfl fun a hs => ?_
             refine st_val hs (y_pickT rfl rfl) trivial rfl rfl fun a hs => ?_
             refine wpList_nil ?_
             refine then_normal ?_
             exact ⟨rfl, (hs.fix 156 (.bool (((((((rv171.2 == 0) && (rv186.2 == 0)) && (rv242.2 == 0)) && (rv256.2 == 0)) && (rv263.2 == 0)) && rv256.1) && rv263.1)) rfl (and_t h274)).weaken _ ⟨rfl, trivial⟩⟩
            ·have hs := hs.fix 154 (.bool false) rfl (vb h274)
             refine st_skip hs rfl rfl rfl rfl rfl fun a hs => ?_
             refine st_val hs (y_pickF rfl rfl) trivial rfl rfl fun a hs => ?_
             refine wpList_nil ?_
             refine then_normal ?_
             exact ⟨rfl, (hs.fix 156 (.bool (((((((rv171.2 == 0) && (rv186.2 == 0)) && (rv242.2 == 0)) && (rv256.2 == 0)) && (rv263.2 == 0)) && rv256.1) && rv263.1)) rfl (and_f h274)).weaken _ ⟨rfl, trivial⟩⟩
           ·rintro a w1 ⟨h292, hs⟩
            subst h292
            refine st_val hs (y_move rfl) trivial rfl rfl fun a hs => ?_
            obtain ⟨c283, hc283, hsh⟩ := bind_t hsh
            refine wpl_join 2 (fun a w => ∃ (Sv284 : Nat → Prop), Sl 160 [(159, .bool c283)] a ∧ Wd ⟨w0, S0, []⟩ Sv284 [] [] w) ?_ ?_
            ·rcases Bool.eq_false_or_eq_true (((((((rv171.2 == 0) && (rv186.2 == 0)) && (rv242.2 == 0)) && (rv256.2 == 0)) && (rv263.2 == 0)) && rv256.1) && rv263.1) with h282 | h282
             ·have hs := hs.fix 157 (.bool true) rfl (vb h282)
              have hsh := ite_t hc283 h282
              obtain ⟨rv286, h285, hsh⟩ := bind_t hsh
              refine st_callR hs (law18_sane_ok h285 hw.bdom) (do_call Try.call8 rfl) ⟨_, rfl, rfl⟩ rfl rfl ?_
              intro v290 Sv287 w a h288 h289 hs
              subst h289
              have hw := hw.callB h288
              refine st_val hs (y_pickT rfl rfl) trivial rfl rfl fun a hs => ?_
              refine wpList_nil ?_
              have hsh := Option.some.inj hsh
              subst hsh
              refine then_normal ?_
              exact ⟨Sv249, (hs.wk rfl), (hw.ft [] [] (by decide) rfl rfl)⟩
             ·have hs := hs.fix 157 (.bool false) rfl (vb h282)
              have hsh := ite_f hc283 h282
              refine st_skip hs rfl rfl rfl rfl rfl fun a hs => ?_
              refine st_val hs (y_pickF rfl rfl) trivial rfl rfl fun a hs => ?_
              refine wpList_nil ?_
              have hsh := Option.some.inj hsh
              subst hsh
              refine then_normal ?_
              exact ⟨Sv249, (hs.wk rfl), (hw.ft [] [] (by decide) rfl rfl)⟩
            ·rintro a w ⟨Sv284, hs, hw⟩
             refine st_val hs (y_assign rfl) trivial rfl rfl fun a hs => ?_
             refine wpList_nil ?_
             refine then_normal ?_
             have hsh := Option.some.inj hsh
             subst hsh
             refine wp_ret ?_
             exact ret1 hs rfl (rv_tmp rfl) (hw.ret rfl)

end Go.Proofs.Ytoendkojgjobbaa.Wk

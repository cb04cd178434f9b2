/- The walks of LinkExact, part 3: each Go function computes what its plain program computes. Printed by a program of ours. -/
import Derived.Test.YtljdiobhmenjgaaProg
import Derived.Test.YtljdiobhmenjgaaDat
import Derived.Test.YtljdiobhmenjgaaSh
import Derived.Test.YtljdiobhmenjgaaLibL
import Derived.Test.YtljdiobhmenjgaaLibZ
import Derived.Test.YtljdiobhmenjgaaLibN
import Derived.KernelRfl
import Derived.Test.YtljdiobhmenjgaaWLinkExact2
namespace Go.Proofs.Ytljdiobhmenjgaa.Wk
open Go Go.RowKit Go.Proofs Go.Proofs.Ytljdiobhmenjgaa.Sh
set_option linter.unusedVariables false
set_option linter.unusedSimpArgs false

abbrev law09_LinkExact_rd (w0 : World) (X : List Nat) (r : Bool) : (Nat → Prop) → World → Value → Prop := fun S w v => v = .bool r
set_option maxHeartbeats 4000000 in
set_option maxRecDepth 100000 in
theorem law09_LinkExact_ok {w0 : World} {S0 : Nat → Prop} {p2 : Option Addr} {k3 : Nat} {p6 : Option Addr} {k7 : Nat} {t1 : (List Int)} {raw5 : Wire} {data9 : ByteArray} {f10 : Fault} {r : Bool} (hsh : law09_LinkExact t1 raw5 data9 f10 = some r) (hS : ∀ b, S0 b → b < w0.heap.size) (h4 : (SlA p2 t1.length k3 t1).p S0 w0) (h8 : (SlA p6 raw5.Items.length k7 raw5.Items).p S0 w0) : Calls Try.prog 5 #[.slice p2 t1.length k3, .agg #[.int .i64 raw5.Now, .int .i64 raw5.Order, .slice p6 raw5.Items.length k7], .string data9, .agg #[.bool f10.Drop, .int .i64 f10.Delay, .int .i64 f10.Copies]] w0 (Ret ([]) w0 S0 (law09_LinkExact_rd w0 ([]) r)) := by
 refine calls_of_wp Try.func5 rfl ?_
 have hs := Sl.enter #[.slice p2 t1.length k3, .agg #[.int .i64 raw5.Now, .int .i64 raw5.Order, .slice p6 raw5.Items.length k7], .string data9, .agg #[.bool f10.Drop, .int .i64 f10.Delay, .int .i64 f10.Copies]] 280 [(0, .slice p2 t1.length k3), (1, .agg #[.int .i64 raw5.Now, .int .i64 raw5.Order, .slice p6 raw5.Items.length k7]), (2, .string data9), (3, .agg #[.bool f10.Drop, .int .i64 f10.Delay, .int .i64 f10.Copies])] rfl ⟨rfl, rfl, rfl, rfl, trivial⟩
 have hw := Wd.enter (E := []) hS (fun _ h => (by cases h))
 have hw := hw.addE h4
 have hw := hw.addE h8
 delta law09_LinkExact at hsh
 refine sr ?_
 refine w_box (cs := [.int .i64 raw5.Now, .int .i64 raw5.Order, .slice p6 raw5.Items.length k7]) hs hw rfl rfl rfl trivial ?_
 intro b11 a w hs hw
 refine w_box (cs := [.bool f10.Drop, .int .i64 f10.Delay, .int .i64 f10.Copies]) hs hw rfl rfl rfl trivial ?_
 intro b12 a w hs hw
 refine av hs rfl rfl fun a hs => ?_
 refine nl ?_
 refine wp_seq ?_
 refine sr ?_
 refine mv hs rfl rfl fun a hs => ?_
 obtain ⟨rv14, h13, hsh⟩ := bind_t hsh
 refine st_callR hs (made_Light_ok h13 hw.bdom (hw.bE 1 rfl)) (do_call Try.call7 rfl) trivial rfl rfl ?_
 intro v18 Sv15 w a h16 h17 hs
 subst h17
 have hw := hw.callB h16
 refine sv hs (y_not rfl) rfl fun a hs => ?_
 refine mv hs rfl rfl fun a hs => ?_
 refine wpl_join 5 (fun a w1 => w = w1 ∧ Sl 280 [(0, .slice p2 t1.length k3), (2, .string data9), (5, .pointer (some ⟨b11, 0, none⟩)), (7, .pointer (some ⟨b12, 0, none⟩)), (46, .bool ((!rv14) || (decide (30 < (raw5.Items.length : Int)))))] a) ?_ ?_
 ·rcases Bool.eq_false_or_eq_true (!rv14) with h20 | h20
  ·have hs := hs.fix 41 (.bool true) rfl (vb h20)
   refine st_skip hs rfl rfl rfl rfl rfl fun a hs => ?_
   refine st_skip hs rfl rfl rfl rfl rfl fun a hs => ?_
   refine st_skip hs rfl rfl rfl rfl rfl fun a hs => ?_
   refine st_skip hs rfl rfl rfl rfl rfl fun a hs => ?_
   refine sv hs (y_pickT rfl rfl) rfl fun a hs => ?_
   refine nl ?_
   exact ⟨rfl, (hs.fix 46 (.bool ((!rv14) || (decide (30 < (raw5.Items.length : Int))))) rfl (or_t h20)).weaken _ ⟨rfl, rfl, rfl, rfl, rfl, trivial⟩⟩
  have hs := hs.fix 41 (.bool false) rfl (vb h20)
  refine st_val hs (y_fieldAddr (o' := 2) Try.runUnderlying29 rfl Try.sizeOf27 rfl rfl rfl) ⟨_, rfl, rfl⟩ rfl rfl fun a hs => ?_
  refine st_val hs (y_loadB1 (hw.ownAt 1 rfl) rfl Try.isAgg27 rfl) ⟨_, rfl, rfl⟩ rfl rfl fun a hs => ?_
  refine st_val hs (y_len Try.runUnderlying27 rfl) ⟨_, rfl, rfl⟩ rfl rfl fun a hs => ?_
  refine st_val hs (y_gtr rfl rfl) ⟨_, rfl, rfl⟩ rfl rfl fun a hs => ?_
  refine sv hs (y_pickF rfl rfl) rfl fun a hs => ?_
  refine nl ?_
  exact ⟨rfl, (hs.fix 46 (.bool ((!rv14) || (decide (30 < (raw5.Items.length : Int))))) rfl (or_f h20)).weaken _ ⟨rfl, rfl, rfl, rfl, rfl, trivial⟩⟩
 rintro a w1 ⟨h4137, hs⟩
 subst h4137
 refine mv hs rfl rfl fun a hs => ?_
 refine wpl_join 4 (fun a w1 => w = w1 ∧ Sl 280 [(0, .slice p2 t1.length k3), (2, .string data9), (5, .pointer (some ⟨b11, 0, none⟩)), (7, .pointer (some ⟨b12, 0, none⟩)), (51, .bool (((!rv14) || (decide (30 < (raw5.Items.length : Int)))) || (decide (300 < (data9.size : Int)))))] a) ?_ ?_
 ·rcases Bool.eq_false_or_eq_true ((!rv14) || (decide (30 < (raw5.Items.length : Int)))) with h21 | h21
  ·have hs := hs.fix 47 (.bool true) rfl (vb h21)
   refine st_skip hs rfl rfl rfl rfl rfl fun a hs => ?_
   refine st_skip hs rfl rfl rfl rfl rfl fun a hs => ?_
   refine st_skip hs rfl rfl rfl rfl rfl fun a hs => ?_
   refine sv hs (y_pickT rfl rfl) rfl fun a hs => ?_
   refine nl ?_
   exact ⟨rfl, (hs.fix 51 (.bool (((!rv14) || (decide (30 < (raw5.Items.length : Int)))) || (decide (300 < (data9.size : Int))))) rfl (or_t h21)).weaken _ ⟨rfl, rfl, rfl, rfl, rfl, trivial⟩⟩
  have hs := hs.fix 47 (.bool false) rfl (vb h21)
  refine st_val hs (y_move rfl) ⟨_, rfl, rfl⟩ rfl rfl fun a hs => ?_
  refine st_val hs (y_lenS Try.runUnderlying9 rfl) ⟨_, rfl, rfl⟩ rfl rfl fun a hs => ?_
  refine st_val hs (y_gtr rfl rfl) ⟨_, rfl, rfl⟩ rfl rfl fun a hs => ?_
  refine sv hs (y_pickF rfl rfl) rfl fun a hs => ?_
  refine nl ?_
  exact ⟨rfl, (hs.fix 51 (.bool (((!rv14) || (decide (30 < (raw5.Items.length : Int)))) || (decide (300 < (data9.size : Int))))) rfl (or_f h21)).weaken _ ⟨rfl, rfl, rfl, rfl, rfl, trivial⟩⟩
 rintro a w1 ⟨h4136, hs⟩
 subst h4136
 refine nl ?_
 refine wp_cond_split (hs.ev rfl) (fun h30 => ?_) (fun h30 => ?_)
 ·have hsh := ite_t hsh h30
  refine sr ?_
  obtain ⟨rv32, h31, hsh⟩ := bind_t hsh
  refine st_callR hs (law09_sane_ok h31 hw.bdom) (do_call Try.call8 rfl) trivial rfl rfl ?_
  intro v36 Sv33 w a h34 h35 hs
  subst h35
  have hw := hw.callB h34
  refine av hs rfl rfl fun a hs => ?_
  refine nl ?_
  have hsh := oi hsh
  subst hsh
  refine wp_ret ?_
  refine then_ret ?_
  exact ret1 hs rfl (rv_tmp rfl) (hw.ret rfl)
 have hsh := ite_f hsh h30
 refine wp_skip ?_
 refine then_normal ?_
 refine sr ?_
 refine mv hs rfl rfl fun a hs => ?_
 obtain ⟨rv39, h38, hsh⟩ := bind_t hsh
 refine st_callR hs (made_Roll_ok h38 hw.dom (hw.envAt 1 rfl)) (do_call Try.call9 rfl) trivial rfl rfl ?_
 intro v47 Sv44 w a h45 h46 hs
 obtain ⟨b40, p41, k42, rfl, h48, h43⟩ := h46
 have hw := hw.callN h45 h48
 have hw := hw.addE (e := SlA p41 rv39.L.length k42 rv39.L) h43
 refine av hs rfl rfl fun a hs => ?_
 refine nl ?_
 refine sr ?_
 refine mv hs rfl rfl fun a hs => ?_
 obtain ⟨rv50, h49, hsh⟩ := bind_t hsh
 refine st_callR hs (law09_wire_ok h49 hw.dom (hw.ins [0] (by decide) rfl) (hw.envAt 0 rfl)) (do_call Try.call17 rfl) trivial rfl rfl ?_
 intro v60 Sv57 w a h58 h59 hs
 obtain ⟨p51, k52, p54, k55, rfl, h61, h53, h56⟩ := h59
 have hw := hw.callO [0] [1, 2] (by decide) rfl h58 h61
 have hw := hw.addE (e := SlA p51 rv50.1.Items.length k52 rv50.1.Items) h53
 have hw := hw.addE (e := SlA p54 rv50.2.L.length k55 rv50.2.L) h56
 refine w_alloc (cs := [.int .i64 0, .int .i64 0, .slice none ([] : List Transit).length 0]) hs hw Try.zeroValue29 rfl rfl trivial ?_
 intro b62 a w hs hw
 refine w_store (m := 3) (cs' := [.int .i64 rv50.1.Now, .int .i64 rv50.1.Order, .slice p51 rv50.1.Items.length k52]) hs hw 0 rfl rfl rfl Try.sizeOf29 rfl rfl rfl rfl trivial ?_
 intro a w hs hw
 refine nl ?_
 refine sr ?_
 refine sv hs (y_loadBA (hw.ownAt 0 rfl) rfl Try.isAgg29 Try.sizeOf29 rfl rfl) rfl fun a hs => ?_
 obtain ⟨rv64, h63, hsh⟩ := bind_t hsh
 refine st_callR hs (ref09_Copy_ok h63 hw.dom (hw.envAt 1 rfl)) (do_call Try.call18 rfl) trivial rfl rfl ?_
 intro v72 Sv69 w a h70 h71 hs
 obtain ⟨p65, k66, c68, rfl, h73, h67⟩ := h71
 have hw := hw.callN h70 h73
 have hw := hw.addE (e := RowA c68 rv64.Items) h67
 refine w_alloc (cs := [.int .i64 0, .int .i64 0, .slice none ([] : List Transit).length 0]) hs hw Try.zeroValue29 rfl rfl trivial ?_
 intro b74 a w hs hw
 refine w_store (m := 3) (cs' := [.int .i64 rv64.Now, .int .i64 rv64.Order, .slice p65 rv64.Items.length k66]) hs hw 0 rfl rfl rfl Try.sizeOf29 rfl rfl rfl rfl trivial ?_
 intro a w hs hw
 refine nl ?_
 refine wp_seq ?_
 refine sr ?_
 refine mv hs rfl rfl fun a hs => ?_
 obtain ⟨rv76, h75, hsh⟩ := bind_t hsh
 refine st_callR hs (made_Dice_Next_ok h75 hw.dom (hw.ins [3] (by decide) rfl) (hw.envAt 1 rfl)) (do_call Try.call12 rfl) trivial rfl rfl ?_
 intro v83 Sv80 w a h81 h82 hs
 obtain ⟨p77, k78, rfl, h84, h79⟩ := h82
 have hw := hw.callO [3] [0, 1, 2, 4, 5] (by decide) rfl h81 h84
 have hw := hw.addE (e := SlA p77 rv76.2.L.length k78 rv76.2.L) h79
 refine nl ?_
 refine wp_block ?_
 refine sr ?_
 refine sv hs (y_eql rfl rfl) rfl fun a hs => ?_
 refine av hs rfl rfl fun a hs => ?_
 refine nl ?_
 refine wp_join (fun a w => ∃ (x374 : (List Int)) (x375 : Int) (x376 : Int) (x377 : Int) (x378 : (List Transit)) (p368 : Option Addr) (k369 : Nat) (c370 : List Value) (p371 : Option Addr) (k372 : Nat) (Sv373 : Nat → Prop), law09_LinkExact_j1 raw5 data9 f10 rv50 x374 x375 x376 x377 x378 = some r ∧ Sl 280 [(2, .string data9), (5, .pointer (some ⟨b11, 0, none⟩)), (7, .pointer (some ⟨b12, 0, none⟩)), (9, .pointer (some ⟨b40, 0, none⟩)), (10, .pointer (some ⟨b62, 0, none⟩)), (11, .pointer (some ⟨b74, 0, none⟩))] a ∧ Wd ⟨w0, S0, []⟩ Sv373 [.box b11 [.int .i64 raw5.Now, .int .i64 raw5.Order, .slice p6 raw5.Items.length k7] 29, .box b12 [.bool f10.Drop, .int .i64 f10.Delay, .int .i64 f10.Copies] 32, .box b40 [.slice p368 x374.length k369, .int .i64 x375] 59, .box b62 [.int .i64 rv50.1.Now, .int .i64 rv50.1.Order, .slice p51 rv50.1.Items.length k52] 29, .box b74 [.int .i64 x376, .int .i64 x377, .slice p371 x378.length k372] 29, .row p371 x378.length k372 c370 47 3] [SlA p6 raw5.Items.length k7 raw5.Items, SlA p368 x374.length k369 x374, SlA p51 rv50.1.Items.length k52 rv50.1.Items, RowA c370 x378] w) ?_ ?_
 ·refine wp_cond_split (hs.ev rfl) (fun h3693 => ?_) (fun h3693 => ?_)
  ·have hsh := ite_t hsh h3693
   refine wp_region_lit ?_
   refine mv hs rfl rfl fun a hs => ?_
   refine sv hs (y_fieldAddr (o' := 0) Try.runUnderlying29 rfl Try.sizeOf3 rfl rfl rfl) rfl fun a hs => ?_
   refine sv hs (y_loadB1 (hw.ownAt 1 rfl) rfl Try.isAgg3 rfl) rfl fun a hs => ?_
   refine sv hs (y_add rfl rfl) rfl fun a hs => ?_
   refine w_litSlice (α := Int) (vs := [.int .i64 (-1), .int .i64 (w64 (rv64.Now + 2)), .int .i64 1099511627776, .int .i64 1099511627777]) (cs := [.int .i64 (-1), .int .i64 (w64 (rv64.Now + 2)), .int .i64 1099511627776, .int .i64 1099511627777]) (xs := ([(-1), (w64 (rv64.Now + 2)), 1099511627776, 1099511627777] : List Int)) hs hw El22 rfl rfl rfl rfl rfl rfl ⟨⟨_, rfl, rfl⟩, ⟨⟨_, rfl, rfl⟩, ⟨⟨_, rfl, rfl⟩, ⟨⟨_, rfl, rfl⟩, rfl⟩⟩⟩⟩ rfl trivial rfl fun b3695 a w hs hw => ?_
   obtain ⟨rv3697, h3696, hsh⟩ := bind_t hsh
   obtain ⟨Sv3701, hw⟩ := w_share (α := Int) hw 0 rfl 0 rfl
   refine st_callR hs (made_Dice_Pick_ok h3696 hw.dom (hw.ins [0] (by decide) rfl) (hw.envAt 2 rfl) (hw.envAt 0 rfl)) (do_call Try.call19 rfl) trivial rfl rfl ?_
   intro v3705 Sv3702 w a h3703 h3704 hs
   obtain ⟨p3698, k3699, rfl, h3706, h3700⟩ := h3704
   have hw := hw.callO [0] [1, 2, 3, 4, 5] (by decide) rfl h3703 h3706
   have hw := hw.addE (e := SlA p3698 rv3697.2.L.length k3699 rv3697.2.L) h3700
   refine sv hs (y_fieldAddr (o' := 0) Try.runUnderlying29 rfl Try.sizeOf3 rfl rfl rfl) rfl fun a hs => ?_
   refine w_store (m := 1) (cs' := [.int .i64 rv3697.1, .int .i64 rv64.Order, .slice p65 rv64.Items.length k66]) hs hw 1 rfl rfl rfl Try.sizeOf3 rfl rfl rfl rfl trivial ?_
   intro a w hs hw
   refine nl ?_
   exact ⟨rv3697.2.L, rv3697.2.At, rv3697.1, rv64.Order, rv64.Items, p3698, k3699, c68, p65, k66, Sv3702, hsh, (hs.wk rfl), (hw.ft [5, 4, 0, 3, 1, 2] [8, 0, 6, 4] (by decide) rfl rfl)⟩
  have hsh := ite_f hsh h3693
  refine sr ?_
  refine sv hs (y_eql rfl rfl) rfl fun a hs => ?_
  refine av hs rfl rfl fun a hs => ?_
  refine nl ?_
  refine wp_join (fun a w => ∃ (x3825 : (List Int)) (x3826 : Int) (x3827 : Int) (x3828 : (List Transit)) (p3819 : Option Addr) (k3820 : Nat) (c3821 : List Value) (p3822 : Option Addr) (k3823 : Nat) (Sv3824 : Nat → Prop), law09_LinkExact_j5 raw5 data9 f10 rv50 rv64 x3825 x3826 x3827 x3828 = some r ∧ Sl 280 [(2, .string data9), (5, .pointer (some ⟨b11, 0, none⟩)), (7, .pointer (some ⟨b12, 0, none⟩)), (9, .pointer (some ⟨b40, 0, none⟩)), (10, .pointer (some ⟨b62, 0, none⟩)), (11, .pointer (some ⟨b74, 0, none⟩))] a ∧ Wd ⟨w0, S0, []⟩ Sv3824 [.box b11 [.int .i64 raw5.Now, .int .i64 raw5.Order, .slice p6 raw5.Items.length k7] 29, .box b12 [.bool f10.Drop, .int .i64 f10.Delay, .int .i64 f10.Copies] 32, .box b40 [.slice p3819 x3825.length k3820, .int .i64 x3826] 59, .box b62 [.int .i64 rv50.1.Now, .int .i64 rv50.1.Order, .slice p51 rv50.1.Items.length k52] 29, .box b74 [.int .i64 rv64.Now, .int .i64 x3827, .slice p3822 x3828.length k3823] 29, .row p3822 x3828.length k3823 c3821 47 3] [SlA p6 raw5.Items.length k7 raw5.Items, SlA p3819 x3825.length k3820 x3825, SlA p51 rv50.1.Items.length k52 rv50.1.Items, RowA c3821 x3828] w) ?_ ?_
  ·refine wp_cond_split (hs.ev rfl) (fun h3829 => ?_) (fun h3829 => ?_)
   ·have hsh := ite_t hsh h3829
    refine wp_region_lit ?_
    refine mv hs rfl rfl fun a hs => ?_
    refine w_litSlice (α := Int) (vs := [.int .i64 0, .int .i64 1099511627776, .int .i64 (-1)]) (cs := [.int .i64 0, .int .i64 1099511627776, .int .i64 (-1)]) (xs := ([0, 1099511627776, (-1)] : List Int)) hs hw El22 rfl rfl rfl rfl rfl rfl ⟨⟨_, rfl, rfl⟩, ⟨⟨_, rfl, rfl⟩, ⟨⟨_, rfl, rfl⟩, rfl⟩⟩⟩ rfl trivial rfl fun b3831 a w hs hw => ?_
    obtain ⟨rv3833, h3832, hsh⟩ := bind_t hsh
    obtain ⟨Sv3837, hw⟩ := w_share (α := Int) hw 0 rfl 0 rfl
    refine st_callR hs (made_Dice_Pick_ok h3832 hw.dom (hw.ins [0] (by decide) rfl) (hw.envAt 2 rfl) (hw.envAt 0 rfl)) (do_call Try.call19 rfl) trivial rfl rfl ?_
    intro v3841 Sv3838 w a h3839 h3840 hs
    obtain ⟨p3834, k3835, rfl, h3842, h3836⟩ := h3840
    have hw := hw.callO [0] [1, 2, 3, 4, 5] (by decide) rfl h3839 h3842
    have hw := hw.addE (e := SlA p3834 rv3833.2.L.length k3835 rv3833.2.L) h3836
    refine sv hs (y_fieldAddr (o' := 1) Try.runUnderlying29 rfl Try.sizeOf3 rfl rfl rfl) rfl fun a hs => ?_
    refine w_store (m := 1) (cs' := [.int .i64 rv64.Now, .int .i64 rv3833.1, .slice p65 rv64.Items.length k66]) hs hw 1 rfl rfl rfl Try.sizeOf3 rfl rfl rfl rfl trivial ?_
    intro a w hs hw
    refine nl ?_
    exact ⟨rv3833.2.L, rv3833.2.At, rv3833.1, rv64.Items, p3834, k3835, c68, p65, k66, Sv3838, hsh, (hs.wk rfl), (hw.ft [5, 4, 0, 3, 1, 2] [8, 0, 6, 4] (by decide) rfl rfl)⟩
   have hsh := ite_f hsh h3829
   refine sr ?_
   refine sv hs (y_eql rfl rfl) rfl fun a hs => ?_
   refine av hs rfl rfl fun a hs => ?_
   refine nl ?_
   refine wp_join (fun a w => ∃ (x3940 : (List Transit)) (c3936 : List Value) (p3937 : Option Addr) (k3938 : Nat) (Sv3939 : Nat → Prop), law09_LinkExact_j6 raw5 data9 f10 rv50 rv64 rv76 x3940 = some r ∧ Sl 280 [(2, .string data9), (5, .pointer (some ⟨b11, 0, none⟩)), (7, .pointer (some ⟨b12, 0, none⟩)), (9, .pointer (some ⟨b40, 0, none⟩)), (10, .pointer (some ⟨b62, 0, none⟩)), (11, .pointer (some ⟨b74, 0, none⟩))] a ∧ Wd ⟨w0, S0, []⟩ Sv3939 [.box b11 [.int .i64 raw5.Now, .int .i64 raw5.Order, .slice p6 raw5.Items.length k7] 29, .box b12 [.bool f10.Drop, .int .i64 f10.Delay, .int .i64 f10.Copies] 32, .box b40 [.slice p77 rv76.2.L.length k78, .int .i64 rv76.2.At] 59, .box b62 [.int .i64 rv50.1.Now, .int .i64 rv50.1.Order, .slice p51 rv50.1.Items.length k52] 29, .box b74 [.int .i64 rv64.Now, .int .i64 rv64.Order, .slice p3937 x3940.length k3938] 29, .row p3937 x3940.length k3938 c3936 47 3] [SlA p6 raw5.Items.length k7 raw5.Items, SlA p77 rv76.2.L.length k78 rv76.2.L, SlA p51 rv50.1.Items.length k52 rv50.1.Items, RowA c3936 x3940] w) ?_ ?_
   ·refine wp_cond_split (hs.ev rfl) (fun h3941 => ?_) (fun h3941 => ?_)
    ·have hsh := ite_t hsh h3941
     refine sr ?_
     refine sv hs (y_fieldAddr (o' := 2) Try.runUnderlying29 rfl Try.sizeOf27 rfl rfl rfl) rfl fun a hs => ?_
     refine sv hs (y_loadB1 (hw.ownAt 1 rfl) rfl Try.isAgg27 rfl) rfl fun a hs => ?_
     refine sv hs (y_len Try.runUnderlying27 rfl) rfl fun a hs => ?_
     obtain ⟨n3943, h3942, hsh⟩ := bind_t hsh
     refine sv hs (y_assignI rfl h3942) rfl fun a hs => ?_
     refine nl ?_
     refine sr ?_
     refine mv hs rfl rfl fun a hs => ?_
     refine sv hs (y_gtr rfl rfl) rfl fun a hs => ?_
     refine nl ?_
     refine wp_join (fun a w => ∃ (x3998 : (List Transit)) (c3994 : List Value) (p3995 : Option Addr) (k3996 : Nat) (Sv3997 : Nat → Prop), law09_LinkExact_j7 raw5 data9 f10 rv50 rv64 rv76 x3998 = some r ∧ Sl 280 [(2, .string data9), (5, .pointer (some ⟨b11, 0, none⟩)), (7, .pointer (some ⟨b12, 0, none⟩)), (9, .pointer (some ⟨b40, 0, none⟩)), (10, .pointer (some ⟨b62, 0, none⟩)), (11, .pointer (some ⟨b74, 0, none⟩))] a ∧ Wd ⟨w0, S0, []⟩ Sv3997 [.box b11 [.int .i64 raw5.Now, .int .i64 raw5.Order, .slice p6 raw5.Items.length k7] 29, .box b12 [.bool f10.Drop, .int .i64 f10.Delay, .int .i64 f10.Copies] 32, .box b40 [.slice p77 rv76.2.L.length k78, .int .i64 rv76.2.At] 59, .box b62 [.int .i64 rv50.1.Now, .int .i64 rv50.1.Order, .slice p51 rv50.1.Items.length k52] 29, .box b74 [.int .i64 rv64.Now, .int .i64 rv64.Order, .slice p3995 x3998.length k3996] 29, .row p3995 x3998.length k3996 c3994 47 3] [SlA p6 raw5.Items.length k7 raw5.Items, SlA p77 rv76.2.L.length k78 rv76.2.L, SlA p51 rv50.1.Items.length k52 rv50.1.Items, RowA c3994 x3998] w) ?_ ?_
     ·refine wp_cond_split (hs.ev rfl) (fun h3999 => ?_) (fun h3999 => ?_)
      ·have hsh := ite_t hsh h3999
       obtain ⟨x4002, h4000, hsh⟩ := bind_t hsh
       obtain ⟨b4009, q4006, c4007, h4010, h4003, h4004, h4008, h4001⟩ := hw.elemRV (α := Transit) 2 rfl 1 rfl h4000
       have hsv4011 := hs
       have hwv4012 := hw
       subst h4010
       have hs := hsv4011
       have hw := hwv4012
       obtain ⟨_, _, _, rfl, rfl, rfl, rfl⟩ := h4001
       obtain ⟨x4015, h4013, hsh⟩ := bind_t hsh
       obtain ⟨q4019, c4020, h4016, h4017, h4021, h4014⟩ := hw.elemRK (α := Transit) 2 rfl 1 rfl h4013
       obtain ⟨_, _, _, rfl, rfl, rfl, rfl⟩ := h4014
       obtain ⟨x4024, h4022, hsh⟩ := bind_t hsh
       obtain ⟨q4028, c4029, h4025, h4026, h4030, h4023⟩ := hw.elemRK (α := Transit) 2 rfl 1 rfl h4022
       obtain ⟨_, _, _, rfl, rfl, rfl, rfl⟩ := h4023
       obtain ⟨l4032, h4031, hsh⟩ := bind_t hsh
       obtain ⟨x4037, h4035, hsh⟩ := bind_t hsh
       obtain ⟨l4045, h4044, hsh⟩ := bind_t hsh
       refine wp_only (fun a w => ∃ (Sv4048 : Nat → Prop) (c4046 : List Value), Sl 280 [(2, .string data9), (5, .pointer (some ⟨b11, 0, none⟩)), (7, .pointer (some ⟨b12, 0, none⟩)), (9, .pointer (some ⟨b40, 0, none⟩)), (10, .pointer (some ⟨b62, 0, none⟩)), (11, .pointer (some ⟨b74, 0, none⟩))] a ∧ Wd ⟨w0, S0, []⟩ Sv4048 [.box b11 [.int .i64 raw5.Now, .int .i64 raw5.Order, .slice p6 raw5.Items.length k7] 29, .box b12 [.bool f10.Drop, .int .i64 f10.Delay, .int .i64 f10.Copies] 32, .box b40 [.slice p77 rv76.2.L.length k78, .int .i64 rv76.2.At] 59, .box b62 [.int .i64 rv50.1.Now, .int .i64 rv50.1.Order, .slice p51 rv50.1.Items.length k52] 29, .box b74 [.int .i64 rv64.Now, .int .i64 rv64.Order, .slice (some ⟨b4009, 0, none⟩) l4045.length k66] 29, .row (some ⟨b4009, 0, none⟩) l4045.length k66 c4046 47 3] [SlA p6 raw5.Items.length k7 raw5.Items, SlA p77 rv76.2.L.length k78 rv76.2.L, SlA p51 rv50.1.Items.length k52 rv50.1.Items, RowA c4046 l4045] w) ?_ ?_
       ·refine h_b (C := Cls [.box b40 [.slice p77 rv76.2.L.length k78, .int .i64 rv76.2.At] 59, .box b74 [.int .i64 rv64.Now, .int .i64 rv64.Order, .slice (some ⟨b4009, 0, none⟩) rv64.Items.length k66] 29, .box b62 [.int .i64 rv50.1.Now, .int .i64 rv50.1.Order, .slice p51 rv50.1.Items.length k52] 29, .box b12 [.bool f10.Drop, .int .i64 f10.Delay, .int .i64 f10.Copies] 32, .box b11 [.int .i64 raw5.Now, .int .i64 raw5.Order, .slice p6 raw5.Items.length k7] 29] []) (by kernel_rfl) rfl (hw.drew.cs [0, 1, 3, 4, 5] [] rfl rfl) fun hC => ?_
        have hw := hw.drew
        refine gv hs 0 rfl rfl hC (fun w hC => y_fieldAddr (o' := 2) Try.runUnderlying29 rfl Try.sizeOf27 rfl rfl rfl) fun a hs => ?_
        refine gv hs 1 rfl rfl hC (fun w hC => y_loadB1 (hC.ownAt 1 rfl) rfl Try.isAgg27 rfl) fun a hs => ?_
        refine gv hs 2 rfl rfl hC (fun w hC => y_fieldAddr (o' := 2) Try.runUnderlying29 rfl Try.sizeOf27 rfl rfl rfl) fun a hs => ?_
        refine gv hs 3 rfl rfl hC (fun w hC => y_loadB1 (hC.ownAt 1 rfl) rfl Try.isAgg27 rfl) fun a hs => ?_
        refine gm hs 4 rfl rfl rfl hC fun a hs => ?_
        refine gv hs 5 rfl rfl hC (fun w hC => y_sub rfl rfl) fun a hs => ?_
        refine gv hs 6 rfl rfl hC (fun w hC => y_fieldAddr (o' := 2) Try.runUnderlying29 rfl Try.sizeOf27 rfl rfl rfl) fun a hs => ?_
        refine gv hs 7 rfl rfl hC (fun w hC => y_loadB1 (hC.ownAt 1 rfl) rfl Try.isAgg27 rfl) fun a hs => ?_
        refine gm hs 8 rfl rfl rfl hC fun a hs => ?_
        refine gv hs 9 rfl rfl hC (fun w hC => y_sub rfl rfl) fun a hs => ?_
        refine gv hs 10 rfl rfl hC (fun w hC => y_indexAt Try.runUnderlying27 Try.sizeOf47 rfl rfl h4003.1 h4003.2 h4004) fun a hs => ?_
        refine gv hs 12 rfl rfl hC (fun w hC => y_fieldAddr (o' := 2) Try.runUnderlying29 rfl Try.sizeOf27 rfl rfl rfl) fun a hs => ?_
        refine gv hs 13 rfl rfl hC (fun w hC => y_loadB1 (hC.ownAt 1 rfl) rfl Try.isAgg27 rfl) fun a hs => ?_
        refine gv hs 14 rfl rfl hC (fun w hC => y_indexAt Try.runUnderlying27 Try.sizeOf47 rfl rfl h4016.1 h4016.2 h4017) fun a hs => ?_
        refine h_all (rs := [11, 15]) (by kernel_rfl) rfl ?_
        refine AllH.cons rfl ?_ ?_
        ·refine sv hs (y_loadQA (j := 0) (hw.ownAt 2 rfl) rfl Try.isAgg47 Try.sizeOf47 h4008 rfl rfl) rfl fun a hs => ?_
         refine h_nx (hw.cs [0, 1, 3, 4, 5] [] rfl rfl) fun hC => ?_
         refine ho 15 rfl ?_
         refine sv hs (y_loadQA (j := 0) (hw.ownAt 2 rfl) rfl Try.isAgg47 Try.sizeOf47 h4021 rfl rfl) rfl fun a hs => ?_
         refine h_nx (hw.cs [0, 1, 3, 4, 5] [] rfl rfl) fun hC => ?_
         refine gv hs 16 rfl rfl hC (fun w hC => y_indexAt Try.runUnderlying27 Try.sizeOf47 rfl rfl h4025.1 h4025.2 h4026) fun a hs => ?_
         refine ho 17 rfl ?_
         refine w_storeF (α := Transit) hs hw 2 rfl 1 rfl h4026 rfl rfl Try.sizeOf47 rfl h4031 ⟨_, _, _, rfl, rfl, rfl, rfl⟩ trivial ?_
         intro c4033 a w hs hw
         have h4034 := setM_len h4031
         try have hs := hs.fl 84 rfl h4034
         try have hs := hs.fl 86 rfl h4034
         try have hs := hs.fl 90 rfl h4034
         try have hs := hs.fl 96 rfl h4034
         refine h_nx (hw.cs [0, 1, 3, 4, 5] [] rfl rfl) fun hC => ?_
         refine ho 18 rfl ?_
         obtain ⟨c4042, h4038, h4043, h4036⟩ := hw.elemRX (α := Transit) 2 rfl 0 rfl h4035
         obtain ⟨_, _, _, rfl, rfl, rfl, rfl⟩ := h4036
         refine sv hs (y_indexAt Try.runUnderlying27 Try.sizeOf47 rfl rfl h4038.1 h4038.2 rfl) rfl fun a hs => ?_
         refine h_nx (hw.cs [0, 1, 3, 4, 5] [] rfl rfl) fun hC => ?_
         refine ho 19 rfl ?_
         refine w_storeF (α := Transit) hs hw 2 rfl 0 rfl rfl rfl rfl Try.sizeOf47 rfl h4044 ⟨_, _, _, rfl, rfl, rfl, rfl⟩ trivial ?_
         intro c4046 a w hs hw
         have h4047 := setM_len h4044
         try have hs := hs.fl 84 rfl h4047
         try have hs := hs.fl 86 rfl h4047
         try have hs := hs.fl 90 rfl h4047
         try have hs := hs.fl 96 rfl h4047
         refine h_nx (hw.cs [0, 1, 3, 4, 5] [] rfl rfl) fun hC => ?_
         refine h_done (by kernel_rfl) ?_
         have hw := hw.fixR 1 (r' := .box b74 [.int .i64 rv64.Now, .int .i64 rv64.Order, .slice (some ⟨b4009, 0, none⟩) l4045.length k66] 29) rfl (by rw [h4047, h4034])
         exact ⟨Sv80, c4046, (hs.wk rfl), (hw.ft [5, 4, 0, 3, 1, 2] [7, 2, 5, 0] (by decide) rfl rfl)⟩
        refine AllH.cons rfl ?_ ?_
        ·refine sv hs (y_loadQA (j := 0) (hw.ownAt 2 rfl) rfl Try.isAgg47 Try.sizeOf47 h4021 rfl rfl) rfl fun a hs => ?_
         refine h_nx (hw.cs [0, 1, 3, 4, 5] [] rfl rfl) fun hC => ?_
         refine ho 11 rfl ?_
         refine sv hs (y_loadQA (j := 0) (hw.ownAt 2 rfl) rfl Try.isAgg47 Try.sizeOf47 h4008 rfl rfl) rfl fun a hs => ?_
         refine h_nx (hw.cs [0, 1, 3, 4, 5] [] rfl rfl) fun hC => ?_
         refine gv hs 16 rfl rfl hC (fun w hC => y_indexAt Try.runUnderlying27 Try.sizeOf47 rfl rfl h4025.1 h4025.2 h4026) fun a hs => ?_
         refine ho 17 rfl ?_
         refine w_storeF (α := Transit) hs hw 2 rfl 1 rfl h4026 rfl rfl Try.sizeOf47 rfl h4031 ⟨_, _, _, rfl, rfl, rfl, rfl⟩ trivial ?_
         intro c4033 a w hs hw
         have h4034 := setM_len h4031
         try have hs := hs.fl 84 rfl h4034
         try have hs := hs.fl 86 rfl h4034
         try have hs := hs.fl 90 rfl h4034
         try have hs := hs.fl 96 rfl h4034
         refine h_nx (hw.cs [0, 1, 3, 4, 5] [] rfl rfl) fun hC => ?_
         refine ho 18 rfl ?_
         obtain ⟨c4042, h4038, h4043, h4036⟩ := hw.elemRX (α := Transit) 2 rfl 0 rfl h4035
         obtain ⟨_, _, _, rfl, rfl, rfl, rfl⟩ := h4036
         refine sv hs (y_indexAt Try.runUnderlying27 Try.sizeOf47 rfl rfl h4038.1 h4038.2 rfl) rfl fun a hs => ?_
         refine h_nx (hw.cs [0, 1, 3, 4, 5] [] rfl rfl) fun hC => ?_
         refine ho 19 rfl ?_
         refine w_storeF (α := Transit) hs hw 2 rfl 0 rfl rfl rfl rfl Try.sizeOf47 rfl h4044 ⟨_, _, _, rfl, rfl, rfl, rfl⟩ trivial ?_
         intro c4046 a w hs hw
         have h4047 := setM_len h4044
         try have hs := hs.fl 84 rfl h4047
         try have hs := hs.fl 86 rfl h4047
         try have hs := hs.fl 90 rfl h4047
         try have hs := hs.fl 96 rfl h4047
         refine h_nx (hw.cs [0, 1, 3, 4, 5] [] rfl rfl) fun hC => ?_
         refine h_done (by kernel_rfl) ?_
         have hw := hw.fixR 1 (r' := .box b74 [.int .i64 rv64.Now, .int .i64 rv64.Order, .slice (some ⟨b4009, 0, none⟩) l4045.length k66] 29) rfl (by rw [h4047, h4034])
         exact ⟨Sv80, c4046, (hs.wk rfl), (hw.ft [5, 4, 0, 3, 1, 2] [7, 2, 5, 0] (by decide) rfl rfl)⟩
        exact AllH.nil
       rintro a w ⟨Sv4048, c4046, hs, hw⟩
       refine then_normal ?_
       exact ⟨l4045, c4046, (some ⟨b4009, 0, none⟩), k66, Sv4048, hsh, (hs.wk rfl), (hw.ft [0, 1, 2, 3, 4, 5] [0, 1, 2, 3] (by decide) rfl rfl)⟩
      have hsh := ite_f hsh h3999
      refine wp_skip ?_
      refine then_normal ?_
      exact ⟨rv64.Items, c68, p65, k66, Sv80, hsh, (hs.wk rfl), (hw.ft [5, 4, 0, 3, 1, 2] [5, 0, 3, 1] (by decide) rfl rfl)⟩
     rintro a w ⟨x3998, c3994, p3995, k3996, Sv3997, hsh, hs, hw⟩
     delta law09_LinkExact_j7 at hsh
     refine then_normal ?_
     exact ⟨x3998, c3994, p3995, k3996, Sv3997, hsh, (hs.wk rfl), (hw.ft [0, 1, 2, 3, 4, 5] [0, 1, 2, 3] (by decide) rfl rfl)⟩
    have hsh := ite_f hsh h3941
    refine sr ?_
    refine sv hs (y_eql rfl rfl) rfl fun a hs => ?_
    refine av hs rfl rfl fun a hs => ?_
    refine nl ?_
    refine wp_join (fun a w => ∃ (x4083 : (List Transit)) (c4079 : List Value) (p4080 : Option Addr) (k4081 : Nat) (Sv4082 : Nat → Prop), law09_LinkExact_j8 raw5 data9 f10 rv50 rv64 rv76 x4083 = some r ∧ Sl 280 [(2, .string data9), (5, .pointer (some ⟨b11, 0, none⟩)), (7, .pointer (some ⟨b12, 0, none⟩)), (9, .pointer (some ⟨b40, 0, none⟩)), (10, .pointer (some ⟨b62, 0, none⟩)), (11, .pointer (some ⟨b74, 0, none⟩))] a ∧ Wd ⟨w0, S0, []⟩ Sv4082 [.box b11 [.int .i64 raw5.Now, .int .i64 raw5.Order, .slice p6 raw5.Items.length k7] 29, .box b12 [.bool f10.Drop, .int .i64 f10.Delay, .int .i64 f10.Copies] 32, .box b40 [.slice p77 rv76.2.L.length k78, .int .i64 rv76.2.At] 59, .box b62 [.int .i64 rv50.1.Now, .int .i64 rv50.1.Order, .slice p51 rv50.1.Items.length k52] 29, .box b74 [.int .i64 rv64.Now, .int .i64 rv64.Order, .slice p4080 x4083.length k4081] 29, .row p4080 x4083.length k4081 c4079 47 3] [SlA p6 raw5.Items.length k7 raw5.Items, SlA p77 rv76.2.L.length k78 rv76.2.L, SlA p51 rv50.1.Items.length k52 rv50.1.Items, RowA c4079 x4083] w) ?_ ?_
    ·refine wp_cond_split (hs.ev rfl) (fun h4084 => ?_) (fun h4084 => ?_)
     ·have hsh := ite_t hsh h4084
      refine sr ?_
      refine sv hs (y_fieldAddr (o' := 2) Try.runUnderlying29 rfl Try.sizeOf27 rfl rfl rfl) rfl fun a hs => ?_
      refine sv hs (y_loadB1 (hw.ownAt 1 rfl) rfl Try.isAgg27 rfl) rfl fun a hs => ?_
      refine sv hs (y_len Try.runUnderlying27 rfl) rfl fun a hs => ?_
      obtain ⟨n4086, h4085, hsh⟩ := bind_t hsh
      refine sv hs (y_assignI rfl h4085) rfl fun a hs => ?_
      refine nl ?_
      refine sr ?_
      refine mv hs rfl rfl fun a hs => ?_
      refine sv hs (y_gtr rfl rfl) rfl fun a hs => ?_
      refine nl ?_
      refine wp_join (fun a w => ∃ (x4113 : (List Transit)) (c4109 : List Value) (p4110 : Option Addr) (k4111 : Nat) (Sv4112 : Nat → Prop), law09_LinkExact_j9 raw5 data9 f10 rv50 rv64 rv76 x4113 = some r ∧ Sl 280 [(2, .string data9), (5, .pointer (some ⟨b11, 0, none⟩)), (7, .pointer (some ⟨b12, 0, none⟩)), (9, .pointer (some ⟨b40, 0, none⟩)), (10, .pointer (some ⟨b62, 0, none⟩)), (11, .pointer (some ⟨b74, 0, none⟩))] a ∧ Wd ⟨w0, S0, []⟩ Sv4112 [.box b11 [.int .i64 raw5.Now, .int .i64 raw5.Order, .slice p6 raw5.Items.length k7] 29, .box b12 [.bool f10.Drop, .int .i64 f10.Delay, .int .i64 f10.Copies] 32, .box b40 [.slice p77 rv76.2.L.length k78, .int .i64 rv76.2.At] 59, .box b62 [.int .i64 rv50.1.Now, .int .i64 rv50.1.Order, .slice p51 rv50.1.Items.length k52] 29, .box b74 [.int .i64 rv64.Now, .int .i64 rv64.Order, .slice p4110 x4113.length k4111] 29, .row p4110 x4113.length k4111 c4109 47 3] [SlA p6 raw5.Items.length k7 raw5.Items, SlA p77 rv76.2.L.length k78 rv76.2.L, SlA p51 rv50.1.Items.length k52 rv50.1.Items, RowA c4109 x4113] w) ?_ ?_
      ·refine wp_cond_split (hs.ev rfl) (fun h4114 => ?_) (fun h4114 => ?_)
       ·have hsh := ite_t hsh h4114
        obtain ⟨x4117, h4115, hsh⟩ := bind_t hsh
        obtain ⟨b4124, q4121, c4122, h4125, h4118, h4119, h4123, h4116⟩ := hw.elemRV (α := Transit) 2 rfl 1 rfl h4115
        have hsv4126 := hs
        have hwv4127 := hw
        subst h4125
        have hs := hsv4126
        have hw := hwv4127
        obtain ⟨_, _, _, rfl, rfl, rfl, rfl⟩ := h4116
        obtain ⟨l4131, h4130, hsh⟩ := bind_t hsh
        refine wp_only (fun a w => ∃ (Sv4135 : Nat → Prop) (c4134 : List Value) (k4133 : Nat) (p4132 : Option Addr), Sl 280 [(2, .string data9), (5, .pointer (some ⟨b11, 0, none⟩)), (7, .pointer (some ⟨b12, 0, none⟩)), (9, .pointer (some ⟨b40, 0, none⟩)), (10, .pointer (some ⟨b62, 0, none⟩)), (11, .pointer (some ⟨b74, 0, none⟩))] a ∧ Wd ⟨w0, S0, []⟩ Sv4135 [.box b11 [.int .i64 raw5.Now, .int .i64 raw5.Order, .slice p6 raw5.Items.length k7] 29, .box b12 [.bool f10.Drop, .int .i64 f10.Delay, .int .i64 f10.Copies] 32, .box b40 [.slice p77 rv76.2.L.length k78, .int .i64 rv76.2.At] 59, .box b62 [.int .i64 rv50.1.Now, .int .i64 rv50.1.Order, .slice p51 rv50.1.Items.length k52] 29, .box b74 [.int .i64 rv64.Now, .int .i64 rv64.Order, .slice p4132 l4131.length k4133] 29, .row p4132 l4131.length k4133 c4134 47 3] [SlA p6 raw5.Items.length k7 raw5.Items, SlA p77 rv76.2.L.length k78 rv76.2.L, SlA p51 rv50.1.Items.length k52 rv50.1.Items, RowA c4134 l4131] w) ?_ ?_
        ·refine h_b (C := Cls [.box b40 [.slice p77 rv76.2.L.length k78, .int .i64 rv76.2.At] 59, .box b62 [.int .i64 rv50.1.Now, .int .i64 rv50.1.Order, .slice p51 rv50.1.Items.length k52] 29, .box b12 [.bool f10.Drop, .int .i64 f10.Delay, .int .i64 f10.Copies] 32, .box b11 [.int .i64 raw5.Now, .int .i64 raw5.Order, .slice p6 raw5.Items.length k7] 29] []) (by kernel_rfl) rfl (hw.drew.cs [0, 3, 4, 5] [] rfl rfl) fun hC => ?_
         have hw := hw.drew
         refine gv hs 0 rfl rfl hC (fun w hC => y_fieldAddr (o' := 2) Try.runUnderlying29 rfl Try.sizeOf27 rfl rfl rfl) fun a hs => ?_
         refine gv hs 2 rfl rfl hC (fun w hC => y_fieldAddr (o' := 2) Try.runUnderlying29 rfl Try.sizeOf27 rfl rfl rfl) fun a hs => ?_
         refine gm hs 4 rfl rfl rfl hC fun a hs => ?_
         refine gv hs 5 rfl rfl hC (fun w hC => y_sub rfl rfl) fun a hs => ?_
         refine h_all (rs := [1, 3]) (by kernel_rfl) rfl ?_
         refine AllH.cons rfl ?_ ?_
         ·refine sv hs (y_loadB1 (hw.ownAt 1 rfl) rfl Try.isAgg27 rfl) rfl fun a hs => ?_
          refine h_nx (hw.cs [0, 3, 4, 5] [] rfl rfl) fun hC => ?_
          refine ho 3 rfl ?_
          refine sv hs (y_loadB1 (hw.ownAt 1 rfl) rfl Try.isAgg27 rfl) rfl fun a hs => ?_
          refine h_nx (hw.cs [0, 3, 4, 5] [] rfl rfl) fun hC => ?_
          refine gv hs 6 rfl rfl hC (fun w hC => y_indexAt Try.runUnderlying27 Try.sizeOf47 rfl rfl h4118.1 h4118.2 h4119) fun a hs => ?_
          refine ho 7 rfl ?_
          refine sv hs (y_loadQA (j := 0) (hw.ownAt 2 rfl) rfl Try.isAgg47 Try.sizeOf47 h4123 rfl rfl) rfl fun a hs => ?_
          refine h_nx (hw.cs [0, 3, 4, 5] [] rfl rfl) fun hC => ?_
          refine ho 8 rfl ?_
          refine w_litSlice (α := Transit) (vs := [.agg #[.int .i64 x4117.At, .int .i64 x4117.Order, .string x4117.Data]]) (cs := [.int .i64 x4117.At, .int .i64 x4117.Order, .string x4117.Data]) (xs := ([x4117] : List Transit)) hs hw El27 rfl rfl rfl rfl rfl rfl ⟨⟨_, _, _, rfl, rfl, rfl, rfl⟩, rfl⟩ rfl trivial rfl fun b4129 a w hs hw => ?_
          refine h_nx (hw.cs [1, 4, 5, 6] [] rfl rfl) fun hC => ?_
          refine h_st (C' := Cls [.box b40 [.slice p77 rv76.2.L.length k78, .int .i64 rv76.2.At] 59, .box b62 [.int .i64 rv50.1.Now, .int .i64 rv50.1.Order, .slice p51 rv50.1.Items.length k52] 29, .box b12 [.bool f10.Drop, .int .i64 f10.Delay, .int .i64 f10.Copies] 32, .box b11 [.int .i64 raw5.Now, .int .i64 raw5.Order, .slice p6 raw5.Items.length k7] 29, .row (some ⟨b4129, 0, none⟩) ([x4117] : List Transit).length ([x4117] : List Transit).length [.int .i64 x4117.At, .int .i64 x4117.Order, .string x4117.Data] 47 3] []) (fun _ h => by exact h.sub [0, 1, 2, 3] (Sel.of rfl) (AllIn.of [] rfl)) (hw.cs [1, 4, 5, 6, 0] [] rfl rfl) fun hC => ?_
          refine ho 9 rfl ?_
          refine w_appendR (α := Transit) hs hw El27 3 rfl rfl rfl 2 rfl 0 rfl 0 rfl h4130 rfl trivial ?_
          intro p4132 k4133 c4134 a w hs hw
          refine h_nx (hw.cs [1, 4, 5, 6, 0] [] rfl rfl) fun hC => ?_
          refine gv hs 10 rfl rfl hC (fun w hC => y_fieldAddr (o' := 2) Try.runUnderlying29 rfl Try.sizeOf27 rfl rfl rfl) fun a hs => ?_
          refine ho 11 rfl ?_
          refine w_store (m := 1) (cs' := [.int .i64 rv64.Now, .int .i64 rv64.Order, .slice p4132 l4131.length k4133]) hs hw 2 rfl rfl rfl Try.sizeOf27 rfl rfl rfl rfl trivial ?_
          intro a w hs hw
          refine h_nx (hw.cs [1, 4, 5, 6, 0] [] rfl rfl) fun hC => ?_
          refine h_done (by kernel_rfl) ?_
          exact ⟨Sv80, c4134, k4133, p4132, (hs.wk rfl), (hw.ft [6, 5, 1, 4, 2, 3] [7, 2, 5, 0] (by decide) rfl rfl)⟩
         refine AllH.cons rfl ?_ ?_
         ·refine sv hs (y_loadB1 (hw.ownAt 1 rfl) rfl Try.isAgg27 rfl) rfl fun a hs => ?_
          refine h_nx (hw.cs [0, 3, 4, 5] [] rfl rfl) fun hC => ?_
          refine gv hs 6 rfl rfl hC (fun w hC => y_indexAt Try.runUnderlying27 Try.sizeOf47 rfl rfl h4118.1 h4118.2 h4119) fun a hs => ?_
          refine h_all (rs := [1, 7]) (by kernel_rfl) rfl ?_
          refine AllH.cons rfl ?_ ?_
          ·refine sv hs (y_loadB1 (hw.ownAt 1 rfl) rfl Try.isAgg27 rfl) rfl fun a hs => ?_
           refine h_nx (hw.cs [0, 3, 4, 5] [] rfl rfl) fun hC => ?_
           refine ho 7 rfl ?_
           refine sv hs (y_loadQA (j := 0) (hw.ownAt 2 rfl) rfl Try.isAgg47 Try.sizeOf47 h4123 rfl rfl) rfl fun a hs => ?_
           refine h_nx (hw.cs [0, 3, 4, 5] [] rfl rfl) fun hC => ?_
           refine ho 8 rfl ?_
           refine w_litSlice (α := Transit) (vs := [.agg #[.int .i64 x4117.At, .int .i64 x4117.Order, .string x4117.Data]]) (cs := [.int .i64 x4117.At, .int .i64 x4117.Order, .string x4117.Data]) (xs := ([x4117] : List Transit)) hs hw El27 rfl rfl rfl rfl rfl rfl ⟨⟨_, _, _, rfl, rfl, rfl, rfl⟩, rfl⟩ rfl trivial rfl fun b4129 a w hs hw => ?_
           refine h_nx (hw.cs [1, 4, 5, 6] [] rfl rfl) fun hC => ?_
           refine h_st (C' := Cls [.box b40 [.slice p77 rv76.2.L.length k78, .int .i64 rv76.2.At] 59, .box b62 [.int .i64 rv50.1.Now, .int .i64 rv50.1.Order, .slice p51 rv50.1.Items.length k52] 29, .box b12 [.bool f10.Drop, .int .i64 f10.Delay, .int .i64 f10.Copies] 32, .box b11 [.int .i64 raw5.Now, .int .i64 raw5.Order, .slice p6 raw5.Items.length k7] 29, .row (some ⟨b4129, 0, none⟩) ([x4117] : List Transit).length ([x4117] : List Transit).length [.int .i64 x4117.At, .int .i64 x4117.Order, .string x4117.Data] 47 3] []) (fun _ h => by exact h.sub [0, 1, 2, 3] (Sel.of rfl) (AllIn.of [] rfl)) (hw.cs [1, 4, 5, 6, 0] [] rfl rfl) fun hC => ?_
           refine ho 9 rfl ?_
           refine w_appendR (α := Transit) hs hw El27 3 rfl rfl rfl 2 rfl 0 rfl 0 rfl h4130 rfl trivial ?_
           intro p4132 k4133 c4134 a w hs hw
           refine h_nx (hw.cs [1, 4, 5, 6, 0] [] rfl rfl) fun hC => ?_
           refine gv hs 10 rfl rfl hC (fun w hC => y_fieldAddr (o' := 2) Try.runUnderlying29 rfl Try.sizeOf27 rfl rfl rfl) fun a hs => ?_
           refine ho 11 rfl ?_
           refine w_store (m := 1) (cs' := [.int .i64 rv64.Now, .int .i64 rv64.Order, .slice p4132 l4131.length k4133]) hs hw 2 rfl rfl rfl Try.sizeOf27 rfl rfl rfl rfl trivial ?_
           intro a w hs hw
           refine h_nx (hw.cs [1, 4, 5, 6, 0] [] rfl rfl) fun hC => ?_
           refine h_done (by kernel_rfl) ?_
           exact ⟨Sv80, c4134, k4133, p4132, (hs.wk rfl), (hw.ft [6, 5, 1, 4, 2, 3] [7, 2, 5, 0] (by decide) rfl rfl)⟩
          refine AllH.cons rfl ?_ ?_
          ·refine sv hs (y_loadQA (j := 0) (hw.ownAt 2 rfl) rfl Try.isAgg47 Try.sizeOf47 h4123 rfl rfl) rfl fun a hs => ?_
           refine h_nx (hw.cs [0, 3, 4, 5] [] rfl rfl) fun hC => ?_
           refine h_all (rs := [1, 8]) (by kernel_rfl) rfl ?_
           refine AllH.cons rfl ?_ ?_
           ·refine sv hs (y_loadB1 (hw.ownAt 1 rfl) rfl Try.isAgg27 rfl) rfl fun a hs => ?_
            refine h_nx (hw.cs [0, 3, 4, 5] [] rfl rfl) fun hC => ?_
            refine ho 8 rfl ?_
            refine w_litSlice (α := Transit) (vs := [.agg #[.int .i64 x4117.At, .int .i64 x4117.Order, .string x4117.Data]]) (cs := [.int .i64 x4117.At, .int .i64 x4117.Order, .string x4117.Data]) (xs := ([x4117] : List Transit)) hs hw El27 rfl rfl rfl rfl rfl rfl ⟨⟨_, _, _, rfl, rfl, rfl, rfl⟩, rfl⟩ rfl trivial rfl fun b4129 a w hs hw => ?_
            refine h_nx (hw.cs [1, 4, 5, 6] [] rfl rfl) fun hC => ?_
            refine h_st (C' := Cls [.box b40 [.slice p77 rv76.2.L.length k78, .int .i64 rv76.2.At] 59, .box b62 [.int .i64 rv50.1.Now, .int .i64 rv50.1.Order, .slice p51 rv50.1.Items.length k52] 29, .box b12 [.bool f10.Drop, .int .i64 f10.Delay, .int .i64 f10.Copies] 32, .box b11 [.int .i64 raw5.Now, .int .i64 raw5.Order, .slice p6 raw5.Items.length k7] 29, .row (some ⟨b4129, 0, none⟩) ([x4117] : List Transit).length ([x4117] : List Transit).length [.int .i64 x4117.At, .int .i64 x4117.Order, .string x4117.Data] 47 3] []) (fun _ h => by exact h.sub [0, 1, 2, 3] (Sel.of rfl) (AllIn.of [] rfl)) (hw.cs [1, 4, 5, 6, 0] [] rfl rfl) fun hC => ?_
            refine ho 9 rfl ?_
            refine w_appendR (α := Transit) hs hw El27 3 rfl rfl rfl 2 rfl 0 rfl 0 rfl h4130 rfl trivial ?_
            intro p4132 k4133 c4134 a w hs hw
            refine h_nx (hw.cs [1, 4, 5, 6, 0] [] rfl rfl) fun hC => ?_
            refine gv hs 10 rfl rfl hC (fun w hC => y_fieldAddr (o' := 2) Try.runUnderlying29 rfl Try.sizeOf27 rfl rfl rfl) fun a hs => ?_
            refine ho 11 rfl ?_
            refine w_store (m := 1) (cs' := [.int .i64 rv64.Now, .int .i64 rv64.Order, .slice p4132 l4131.length k4133]) hs hw 2 rfl rfl rfl Try.sizeOf27 rfl rfl rfl rfl trivial ?_
            intro a w hs hw
            refine h_nx (hw.cs [1, 4, 5, 6, 0] [] rfl rfl) fun hC => ?_
            refine h_done (by kernel_rfl) ?_
            exact ⟨Sv80, c4134, k4133, p4132, (hs.wk rfl), (hw.ft [6, 5, 1, 4, 2, 3] [7, 2, 5, 0] (by decide) rfl rfl)⟩
           refine AllH.cons rfl ?_ ?_
           ·refine w_litSlice (α := Transit) (vs := [.agg #[.int .i64 x4117.At, .int .i64 x4117.Order, .string x4117.Data]]) (cs := [.int .i64 x4117.At, .int .i64 x4117.Order, .string x4117.Data]) (xs := ([x4117] : List Transit)) hs hw El27 rfl rfl rfl rfl rfl rfl ⟨⟨_, _, _, rfl, rfl, rfl, rfl⟩, rfl⟩ rfl trivial rfl fun b4129 a w hs hw => ?_
            refine h_nx (hw.cs [1, 4, 5, 6] [] rfl rfl) fun hC => ?_
            refine h_st (C' := Cls [.box b40 [.slice p77 rv76.2.L.length k78, .int .i64 rv76.2.At] 59, .box b62 [.int .i64 rv50.1.Now, .int .i64 rv50.1.Order, .slice p51 rv50.1.Items.length k52] 29, .box b12 [.bool f10.Drop, .int .i64 f10.Delay, .int .i64 f10.Copies] 32, .box b11 [.int .i64 raw5.Now, .int .i64 raw5.Order, .slice p6 raw5.Items.length k7] 29, .row (some ⟨b4129, 0, none⟩) ([x4117] : List Transit).length ([x4117] : List Transit).length [.int .i64 x4117.At, .int .i64 x4117.Order, .string x4117.Data] 47 3] []) (fun _ h => by exact h.sub [0, 1, 2, 3] (Sel.of rfl) (AllIn.of [] rfl)) (hw.cs [1, 4, 5, 6, 0] [] rfl rfl) fun hC => ?_
            refine ho 1 rfl ?_
            refine sv hs (y_loadB1 (hw.ownAt 2 rfl) rfl Try.isAgg27 rfl) rfl fun a hs => ?_
            refine h_nx (hw.cs [1, 4, 5, 6, 0] [] rfl rfl) fun hC => ?_
            refine ho 9 rfl ?_
            refine w_appendR (α := Transit) hs hw El27 3 rfl rfl rfl 2 rfl 0 rfl 0 rfl h4130 rfl trivial ?_
            intro p4132 k4133 c4134 a w hs hw
            refine h_nx (hw.cs [1, 4, 5, 6, 0] [] rfl rfl) fun hC => ?_
            refine gv hs 10 rfl rfl hC (fun w hC => y_fieldAddr (o' := 2) Try.runUnderlying29 rfl Try.sizeOf27 rfl rfl rfl) fun a hs => ?_
            refine ho 11 rfl ?_
            refine w_store (m := 1) (cs' := [.int .i64 rv64.Now, .int .i64 rv64.Order, .slice p4132 l4131.length k4133]) hs hw 2 rfl rfl rfl Try.sizeOf27 rfl rfl rfl rfl trivial ?_
            intro a w hs hw
            refine h_nx (hw.cs [1, 4, 5, 6, 0] [] rfl rfl) fun hC => ?_
            refine h_done (by kernel_rfl) ?_
            exact ⟨Sv80, c4134, k4133, p4132, (hs.wk rfl), (hw.ft [6, 5, 1, 4, 2, 3] [7, 2, 5, 0] (by decide) rfl rfl)⟩
           exact AllH.nil
          exact AllH.nil
         exact AllH.nil
        rintro a w ⟨Sv4135, c4134, k4133, p4132, hs, hw⟩
        refine then_normal ?_
        exact ⟨l4131, c4134, p4132, k4133, Sv4135, hsh, (hs.wk rfl), (hw.ft [0, 1, 2, 3, 4, 5] [0, 1, 2, 3] (by decide) rfl rfl)⟩
       have hsh := ite_f hsh h4114
       refine wp_skip ?_
       refine then_normal ?_
       exact ⟨rv64.Items, c68, p65, k66, Sv80, hsh, (hs.wk rfl), (hw.ft [5, 4, 0, 3, 1, 2] [5, 0, 3, 1] (by decide) rfl rfl)⟩
      rintro a w ⟨x4113, c4109, p4110, k4111, Sv4112, hsh, hs, hw⟩
      delta law09_LinkExact_j9 at hsh
      refine then_normal ?_
      exact ⟨x4113, c4109, p4110, k4111, Sv4112, hsh, (hs.wk rfl), (hw.ft [0, 1, 2, 3, 4, 5] [0, 1, 2, 3] (by decide) rfl rfl)⟩
     have hsh := ite_f hsh h4084
     refine wp_skip ?_
     refine then_normal ?_
     exact ⟨rv64.Items, c68, p65, k66, Sv80, hsh, (hs.wk rfl), (hw.ft [5, 4, 0, 3, 1, 2] [5, 0, 3, 1] (by decide) rfl rfl)⟩
    rintro a w ⟨x4083, c4079, p4080, k4081, Sv4082, hsh, hs, hw⟩
    delta law09_LinkExact_j8 at hsh
    refine then_normal ?_
    exact ⟨x4083, c4079, p4080, k4081, Sv4082, hsh, (hs.wk rfl), (hw.ft [0, 1, 2, 3, 4, 5] [0, 1, 2, 3] (by decide) rfl rfl)⟩
   rintro a w ⟨x3940, c3936, p3937, k3938, Sv3939, hsh, hs, hw⟩
   delta law09_LinkExact_j6 at hsh
   refine then_normal ?_
   exact ⟨rv76.2.L, rv76.2.At, rv64.Order, x3940, p77, k78, c3936, p3937, k3938, Sv3939, hsh, (hs.wk rfl), (hw.ft [0, 1, 2, 3, 4, 5] [0, 1, 2, 3] (by decide) rfl rfl)⟩
  rintro a w ⟨x3825, x3826, x3827, x3828, p3819, k3820, c3821, p3822, k3823, Sv3824, hsh, hs, hw⟩
  delta law09_LinkExact_j5 at hsh
  refine then_normal ?_
  exact ⟨x3825, x3826, rv64.Now, x3827, x3828, p3819, k3820, c3821, p3822, k3823, Sv3824, hsh, (hs.wk rfl), (hw.ft [0, 1, 2, 3, 4, 5] [0, 1, 2, 3] (by decide) rfl rfl)⟩
 rintro a w ⟨x374, x375, x376, x377, x378, p368, k369, c370, p371, k372, Sv373, hsh, hs, hw⟩
 delta law09_LinkExact_j1 at hsh
 refine blk_normal ?_
 refine then_normal ?_
 refine sr ?_
 refine mv hs rfl rfl fun a hs => ?_
 obtain ⟨rv380, h379, hsh⟩ := bind_t hsh
 refine st_callR hs (made_Dice_Fault_ok h379 hw.dom (hw.ins [2] (by decide) rfl) (hw.envAt 1 rfl)) (do_call Try.call11 rfl) trivial rfl rfl ?_
 intro v387 Sv384 w a h385 h386 hs
 obtain ⟨p381, k382, rfl, h388, h383⟩ := h386
 have hw := hw.callO [2] [0, 1, 3, 4, 5] (by decide) rfl h385 h388
 have hw := hw.addE (e := SlA p381 rv380.2.L.length k382 rv380.2.L) h383
 refine w_alloc (cs := [.bool false, .int .i64 0, .int .i64 0]) hs hw Try.zeroValue32 rfl rfl trivial ?_
 intro b389 a w hs hw
 refine w_store (m := 3) (cs' := [.bool rv380.1.Drop, .int .i64 rv380.1.Delay, .int .i64 rv380.1.Copies]) hs hw 0 rfl rfl rfl Try.sizeOf32 rfl rfl rfl rfl trivial ?_
 intro a w hs hw
 refine nl ?_
 refine sr ?_
 refine mv hs rfl rfl fun a hs => ?_
 refine sv hs (y_fieldAddr (o' := 1) Try.runUnderlying32 rfl Try.sizeOf3 rfl rfl rfl) rfl fun a hs => ?_
 refine sv hs (y_loadB1 (hw.ownAt 0 rfl) rfl Try.isAgg3 rfl) rfl fun a hs => ?_
 refine w_litSlice (α := Int) (vs := [.int .i64 rv380.1.Delay, .int .i64 1048576, .int .i64 1048577, .int .i64 (-1)]) (cs := [.int .i64 rv380.1.Delay, .int .i64 1048576, .int .i64 1048577, .int .i64 (-1)]) (xs := ([rv380.1.Delay, 1048576, 1048577, (-1)] : List Int)) hs hw El22 rfl rfl rfl rfl rfl rfl ⟨⟨_, rfl, rfl⟩, ⟨⟨_, rfl, rfl⟩, ⟨⟨_, rfl, rfl⟩, ⟨⟨_, rfl, rfl⟩, rfl⟩⟩⟩⟩ rfl trivial rfl fun b391 a w hs hw => ?_
 obtain ⟨rv393, h392, hsh⟩ := bind_t hsh
 obtain ⟨Sv397, hw⟩ := w_share (α := Int) hw 0 rfl 0 rfl
 refine st_callR hs (made_Dice_Pick_ok h392 hw.dom (hw.ins [1] (by decide) rfl) (hw.envAt 2 rfl) (hw.envAt 0 rfl)) (do_call Try.call19 rfl) trivial rfl rfl ?_
 intro v401 Sv398 w a h399 h400 hs
 obtain ⟨p394, k395, rfl, h402, h396⟩ := h400
 have hw := hw.callO [1] [0, 2, 3, 4, 5, 6] (by decide) rfl h399 h402
 have hw := hw.addE (e := SlA p394 rv393.2.L.length k395 rv393.2.L) h396
 refine sv hs (y_fieldAddr (o' := 1) Try.runUnderlying32 rfl Try.sizeOf3 rfl rfl rfl) rfl fun a hs => ?_
 refine w_store (m := 1) (cs' := [.bool rv380.1.Drop, .int .i64 rv393.1, .int .i64 rv380.1.Copies]) hs hw 1 rfl rfl rfl Try.sizeOf3 rfl rfl rfl rfl trivial ?_
 intro a w hs hw
 refine nl ?_
 refine sr ?_
 refine mv hs rfl rfl fun a hs => ?_
 refine sv hs (y_fieldAddr (o' := 2) Try.runUnderlying32 rfl Try.sizeOf3 rfl rfl rfl) rfl fun a hs => ?_
 refine sv hs (y_loadB1 (hw.ownAt 1 rfl) rfl Try.isAgg3 rfl) rfl fun a hs => ?_
 refine w_litSlice (α := Int) (vs := [.int .i64 rv380.1.Copies, .int .i64 8, .int .i64 9, .int .i64 (-1)]) (cs := [.int .i64 rv380.1.Copies, .int .i64 8, .int .i64 9, .int .i64 (-1)]) (xs := ([rv380.1.Copies, 8, 9, (-1)] : List Int)) hs hw El22 rfl rfl rfl rfl rfl rfl ⟨⟨_, rfl, rfl⟩, ⟨⟨_, rfl, rfl⟩, ⟨⟨_, rfl, rfl⟩, ⟨⟨_, rfl, rfl⟩, rfl⟩⟩⟩⟩ rfl trivial rfl fun b404 a w hs hw => ?_
 obtain ⟨rv406, h405, hsh⟩ := bind_t hsh
 obtain ⟨Sv410, hw⟩ := w_share (α := Int) hw 0 rfl 0 rfl
 refine st_callR hs (made_Dice_Pick_ok h405 hw.dom (hw.ins [0] (by decide) rfl) (hw.envAt 2 rfl) (hw.envAt 0 rfl)) (do_call Try.call19 rfl) trivial rfl rfl ?_
 intro v414 Sv411 w a h412 h413 hs
 obtain ⟨p407, k408, rfl, h415, h409⟩ := h413
 have hw := hw.callO [0] [1, 2, 3, 4, 5, 6] (by decide) rfl h412 h415
 have hw := hw.addE (e := SlA p407 rv406.2.L.length k408 rv406.2.L) h409
 refine sv hs (y_fieldAddr (o' := 2) Try.runUnderlying32 rfl Try.sizeOf3 rfl rfl rfl) rfl fun a hs => ?_
 refine w_store (m := 1) (cs' := [.bool rv380.1.Drop, .int .i64 rv393.1, .int .i64 rv406.1]) hs hw 1 rfl rfl rfl Try.sizeOf3 rfl rfl rfl rfl trivial ?_
 intro a w hs hw
 refine nl ?_
 refine wp_seq ?_
 refine sr ?_
 refine sv hs (y_loadBA (hw.ownAt 4 rfl) rfl Try.isAgg29 Try.sizeOf29 rfl rfl) rfl fun a hs => ?_
 refine sv hs (y_loadBA (hw.ownAt 5 rfl) rfl Try.isAgg29 Try.sizeOf29 rfl rfl) rfl fun a hs => ?_
 refine sv hs (y_loadBA (hw.ownAt 2 rfl) rfl Try.isAgg29 Try.sizeOf29 rfl rfl) rfl fun a hs => ?_
 obtain ⟨Sv418, hw⟩ := w_share (α := Transit) hw 6 rfl 10 rfl
 refine w_litSlice (α := Wire) (vs := [.agg #[.int .i64 rv50.1.Now, .int .i64 rv50.1.Order, .slice p51 rv50.1.Items.length k52], .agg #[.int .i64 x376, .int .i64 x377, .slice p371 x378.length k372], .agg #[.int .i64 raw5.Now, .int .i64 raw5.Order, .slice p6 raw5.Items.length k7]]) (cs := [.int .i64 rv50.1.Now, .int .i64 rv50.1.Order, .slice p51 rv50.1.Items.length k52, .int .i64 x376, .int .i64 x377, .slice p371 x378.length k372, .int .i64 raw5.Now, .int .i64 raw5.Order, .slice p6 raw5.Items.length k7]) (xs := ([rv50.1, (⟨x376, x377, x378⟩ : Wire), raw5] : List Wire)) hs hw El48 rfl rfl rfl rfl rfl rfl ⟨⟨_, _, _, rfl, rfl, rfl, ⟨_, _, _, rfl, hw.envAt 10 rfl⟩⟩, ⟨⟨_, _, _, rfl, rfl, rfl, ⟨_, _, _, rfl, hw.envAt 0 rfl⟩⟩, ⟨⟨_, _, _, rfl, rfl, rfl, ⟨_, _, _, rfl, hw.envAt 8 rfl⟩⟩, rfl⟩⟩⟩ rfl trivial rfl fun b417 a w hs hw => ?_
 refine sv hs (y_len Try.runUnderlying48 rfl) rfl fun a hs => ?_
 refine mv hs rfl rfl fun a hs => ?_
 refine nl ?_
 refine wp_block ?_
 refine wp_while (fun sv1414 a w => ∃ (Sv2076 : Nat → Prop), Sl 280 [(2, .string data9), (7, .pointer (some ⟨b12, 0, none⟩)), (14, .pointer (some ⟨b389, 0, none⟩)), (136, .slice (some ⟨b417, 0, none⟩) ([rv50.1, (⟨x376, x377, x378⟩ : Wire), raw5] : List Wire).length ([rv50.1, (⟨x376, x377, x378⟩ : Wire), raw5] : List Wire).length), (137, .int .i64 (([rv50.1, (⟨x376, x377, x378⟩ : Wire), raw5] : List Wire).length : Int)), (138, .int .i64 sv1414)] a ∧ Wd ⟨w0, S0, []⟩ Sv2076 [.box b12 [.bool f10.Drop, .int .i64 f10.Delay, .int .i64 f10.Copies] 32, .box b389 [.bool rv380.1.Drop, .int .i64 rv393.1, .int .i64 rv406.1] 32, .row (some ⟨b417, 0, none⟩) ([rv50.1, (⟨x376, x377, x378⟩ : Wire), raw5] : List Wire).length ([rv50.1, (⟨x376, x377, x378⟩ : Wire), raw5] : List Wire).length [.int .i64 rv50.1.Now, .int .i64 rv50.1.Order, .slice p51 rv50.1.Items.length k52, .int .i64 x376, .int .i64 x377, .slice p371 x378.length k372, .int .i64 raw5.Now, .int .i64 raw5.Order, .slice p6 raw5.Items.length k7] 29 3] [RowA [.int .i64 rv50.1.Now, .int .i64 rv50.1.Order, .slice p51 rv50.1.Items.length k52, .int .i64 x376, .int .i64 x377, .slice p371 x378.length k372, .int .i64 raw5.Now, .int .i64 raw5.Order, .slice p6 raw5.Items.length k7] ([rv50.1, (⟨x376, x377, x378⟩ : Wire), raw5] : List Wire)] w) 0 hsh ⟨Sv418, (hs.wk rfl), (hw.ft [4, 2, 0] [0] (by decide) rfl rfl)⟩ ?_
 repeat clear hsh
 rintro sv1414 a w tv2408 ⟨Sv2076, hs, hw⟩ hsh hd2407
 delta law09_LinkExact_l12 at hsh
 refine sr ?_
 refine sv hs (y_lss rfl rfl) rfl fun a hs => ?_
 refine nl ?_
 refine wp_seq ?_
 refine wp_cond_split (hs.ev rfl) (fun h2412 => ?_) (fun h2412 => ?_)
 ·have hsh := ite_t hsh h2412
  refine wp_skip ?_
  refine then_normal ?_
  refine wp_seq ?_
  refine wp_block ?_
  refine sr ?_
  obtain ⟨x2744, h2742, hsh⟩ := bind_t hsh
  obtain ⟨q2748, c2749, h2745, h2746, h2750, h2743⟩ := hw.elemRK (α := Wire) 2 rfl 0 rfl h2742
  obtain ⟨_, _, _, rfl, rfl, rfl, ⟨p2751, n2752, k2753, rfl, h2754⟩⟩ := h2743
  obtain rfl := h2754.1
  have hw := hw.addE (e := SlA p2751 _ k2753 x2744.Items) h2754
  refine sv hs (y_indexAt Try.runUnderlying48 Try.sizeOf29 rfl rfl h2745.1 h2745.2 h2746) rfl fun a hs => ?_
  refine sv hs (y_loadQA (j := 0) (hw.ownAt 2 rfl) rfl Try.isAgg29 Try.sizeOf29 h2750 rfl rfl) rfl fun a hs => ?_
  refine w_alloc (cs := [.int .i64 0, .int .i64 0, .slice none ([] : List Transit).length 0]) hs hw Try.zeroValue29 rfl rfl trivial ?_
  intro b2755 a w hs hw
  refine w_store (m := 3) (cs' := [.int .i64 x2744.Now, .int .i64 x2744.Order, .slice p2751 x2744.Items.length k2753]) hs hw 0 rfl rfl rfl Try.sizeOf29 rfl rfl rfl rfl trivial ?_
  intro a w hs hw
  refine nl ?_
  refine wp_seq ?_
  refine sr ?_
  refine sv hs (y_loadBA (hw.ownAt 1 rfl) rfl Try.isAgg32 Try.sizeOf32 rfl rfl) rfl fun a hs => ?_
  refine sv hs (y_loadBA (hw.ownAt 2 rfl) rfl Try.isAgg32 Try.sizeOf32 rfl rfl) rfl fun a hs => ?_
  refine sv hs (y_build (vs := [(0, .bool true)]) Bld32 rfl rfl) rfl fun a hs => ?_
  refine w_litSlice (α := Fault) (vs := [.agg #[.bool f10.Drop, .int .i64 f10.Delay, .int .i64 f10.Copies], .agg #[.bool rv380.1.Drop, .int .i64 rv393.1, .int .i64 rv406.1], .agg #[.bool true, .int .i64 0, .int .i64 0]]) (cs := [.bool f10.Drop, .int .i64 f10.Delay, .int .i64 f10.Copies, .bool rv380.1.Drop, .int .i64 rv393.1, .int .i64 rv406.1, .bool true, .int .i64 0, .int .i64 0]) (xs := ([f10, (⟨rv380.1.Drop, rv393.1, rv406.1⟩ : Fault), (⟨true, 0, 0⟩ : Fault)] : List Fault)) hs hw El49 rfl rfl rfl rfl rfl rfl ⟨⟨_, _, _, rfl, rfl, rfl, rfl⟩, ⟨⟨_, _, _, rfl, rfl, rfl, rfl⟩, ⟨⟨_, _, _, rfl, rfl, rfl, rfl⟩, rfl⟩⟩⟩ rfl trivial rfl fun b2757 a w hs hw => ?_
  refine sv hs (y_len Try.runUnderlying49 rfl) rfl fun a hs => ?_
  refine mv hs rfl rfl fun a hs => ?_
  refine nl ?_
  refine wp_block ?_
  refine wp_while (fun sv2898 a w => ∃ (Sv2990 : Nat → Prop), Sl 280 [(2, .string data9), (7, .pointer (some ⟨b12, 0, none⟩)), (14, .pointer (some ⟨b389, 0, none⟩)), (16, .pointer (some ⟨b2755, 0, none⟩)), (136, .slice (some ⟨b417, 0, none⟩) ([rv50.1, (⟨x376, x377, x378⟩ : Wire), raw5] : List Wire).length ([rv50.1, (⟨x376, x377, x378⟩ : Wire), raw5] : List Wire).length), (137, .int .i64 (([rv50.1, (⟨x376, x377, x378⟩ : Wire), raw5] : List Wire).length : Int)), (138, .int .i64 sv1414), (145, .slice (some ⟨b2757, 0, none⟩) ([f10, (⟨rv380.1.Drop, rv393.1, rv406.1⟩ : Fault), (⟨true, 0, 0⟩ : Fault)] : List Fault).length ([f10, (⟨rv380.1.Drop, rv393.1, rv406.1⟩ : Fault), (⟨true, 0, 0⟩ : Fault)] : List Fault).length), (146, .int .i64 (([f10, (⟨rv380.1.Drop, rv393.1, rv406.1⟩ : Fault), (⟨true, 0, 0⟩ : Fault)] : List Fault).length : Int)), (147, .int .i64 sv2898)] a ∧ Wd ⟨w0, S0, []⟩ Sv2990 [.box b12 [.bool f10.Drop, .int .i64 f10.Delay, .int .i64 f10.Copies] 32, .box b389 [.bool rv380.1.Drop, .int .i64 rv393.1, .int .i64 rv406.1] 32, .box b2755 [.int .i64 x2744.Now, .int .i64 x2744.Order, .slice p2751 x2744.Items.length k2753] 29, .row (some ⟨b417, 0, none⟩) ([rv50.1, (⟨x376, x377, x378⟩ : Wire), raw5] : List Wire).length ([rv50.1, (⟨x376, x377, x378⟩ : Wire), raw5] : List Wire).length [.int .i64 rv50.1.Now, .int .i64 rv50.1.Order, .slice p51 rv50.1.Items.length k52, .int .i64 x376, .int .i64 x377, .slice p371 x378.length k372, .int .i64 raw5.Now, .int .i64 raw5.Order, .slice p6 raw5.Items.length k7] 29 3, .row (some ⟨b2757, 0, none⟩) ([f10, (⟨rv380.1.Drop, rv393.1, rv406.1⟩ : Fault), (⟨true, 0, 0⟩ : Fault)] : List Fault).length ([f10, (⟨rv380.1.Drop, rv393.1, rv406.1⟩ : Fault), (⟨true, 0, 0⟩ : Fault)] : List Fault).length [.bool f10.Drop, .int .i64 f10.Delay, .int .i64 f10.Copies, .bool rv380.1.Drop, .int .i64 rv393.1, .int .i64 rv406.1, .bool true, .int .i64 0, .int .i64 0] 32 3] [SlA p2751 x2744.Items.length k2753 x2744.Items, RowA [.int .i64 rv50.1.Now, .int .i64 rv50.1.Order, .slice p51 rv50.1.Items.length k52, .int .i64 x376, .int .i64 x377, .slice p371 x378.length k372, .int .i64 raw5.Now, .int .i64 raw5.Order, .slice p6 raw5.Items.length k7] ([rv50.1, (⟨x376, x377, x378⟩ : Wire), raw5] : List Wire), RowA [.bool f10.Drop, .int .i64 f10.Delay, .int .i64 f10.Copies, .bool rv380.1.Drop, .int .i64 rv393.1, .int .i64 rv406.1, .bool true, .int .i64 0, .int .i64 0] ([f10, (⟨rv380.1.Drop, rv393.1, rv406.1⟩ : Fault), (⟨true, 0, 0⟩ : Fault)] : List Fault)] w) 0 hsh ⟨Sv2076, (hs.wk rfl), (hw.ft [2, 3, 1, 4, 0] [1, 2, 0] (by decide) rfl rfl)⟩ ?_
  repeat clear hsh
  rintro sv2898 a w tv3037 ⟨Sv2990, hs, hw⟩ hsh hd3036
  delta law09_LinkExact_l18 at hsh
  refine sr ?_
  refine sv hs (y_lss rfl rfl) rfl fun a hs => ?_
  refine nl ?_
  refine wp_seq ?_
  refine wp_cond_split (hs.ev rfl) (fun h3041 => ?_) (fun h3041 => ?_)
  ·have hsh := ite_t hsh h3041
   refine wp_skip ?_
   refine then_normal ?_
   refine wp_seq ?_
   refine wp_block ?_
   refine sr ?_
   obtain ⟨x3088, h3086, hsh⟩ := bind_t hsh
   obtain ⟨q3092, c3093, h3089, h3090, h3094, h3087⟩ := hw.elemRK (α := Fault) 4 rfl 2 rfl h3086
   obtain ⟨_, _, _, rfl, rfl, rfl, rfl⟩ := h3087
   refine sv hs (y_indexAt Try.runUnderlying49 Try.sizeOf32 rfl rfl h3089.1 h3089.2 h3090) rfl fun a hs => ?_
   refine sv hs (y_loadQA (j := 0) (hw.ownAt 4 rfl) rfl Try.isAgg32 Try.sizeOf32 h3094 rfl rfl) rfl fun a hs => ?_
   refine w_alloc (cs := [.bool false, .int .i64 0, .int .i64 0]) hs hw Try.zeroValue32 rfl rfl trivial ?_
   intro b3095 a w hs hw
   refine w_store (m := 3) (cs' := [.bool x3088.Drop, .int .i64 x3088.Delay, .int .i64 x3088.Copies]) hs hw 0 rfl rfl rfl Try.sizeOf32 rfl rfl rfl rfl trivial ?_
   intro a w hs hw
   refine nl ?_
   refine sr ?_
   refine sv hs (y_loadBA (hw.ownAt 3 rfl) rfl Try.isAgg29 Try.sizeOf29 rfl rfl) rfl fun a hs => ?_
   refine mv hs rfl rfl fun a hs => ?_
   refine sv hs (y_loadBA (hw.ownAt 0 rfl) rfl Try.isAgg32 Try.sizeOf32 rfl rfl) rfl fun a hs => ?_
   obtain ⟨rv3097, h3096, hsh⟩ := bind_t hsh
   refine st_callR hs (link_Send_ok h3096 hw.dom (hw.envAt 0 rfl)) (do_call Try.call13 rfl) trivial rfl rfl ?_
   intro v3105 Sv3102 w a h3103 h3104 hs
   obtain ⟨p3098, k3099, c3101, rfl, h3106, h3100⟩ := h3104
   have hw := hw.callN h3103 h3106
   have hw := hw.addE (e := RowA c3101 rv3097.1.Items) h3100
   refine mv hs rfl rfl fun a hs => ?_
   refine sv hs (y_extract rfl rfl) rfl fun a hs => ?_
   refine sv hs (y_extract rfl rfl) rfl fun a hs => ?_
   refine w_alloc (cs := [.int .i64 0, .int .i64 0, .slice none ([] : List Transit).length 0]) hs hw Try.zeroValue29 rfl rfl trivial ?_
   intro b3107 a w hs hw
   refine w_store (m := 3) (cs' := [.int .i64 rv3097.1.Now, .int .i64 rv3097.1.Order, .slice p3098 rv3097.1.Items.length k3099]) hs hw 0 rfl rfl rfl Try.sizeOf29 rfl rfl rfl rfl trivial ?_
   intro a w hs hw
   refine av hs rfl rfl fun a hs => ?_
   refine nl ?_
   refine sr ?_
   refine sv hs (y_loadBA (hw.ownAt 5 rfl) rfl Try.isAgg29 Try.sizeOf29 rfl rfl) rfl fun a hs => ?_
   refine mv hs rfl rfl fun a hs => ?_
   refine sv hs (y_loadBA (hw.ownAt 2 rfl) rfl Try.isAgg32 Try.sizeOf32 rfl rfl) rfl fun a hs => ?_
   obtain ⟨rv3109, h3108, hsh⟩ := bind_t hsh
   refine st_callR hs (ref09_Send_ok h3108 hw.dom (hw.envAt 1 rfl)) (do_call Try.call20 rfl) trivial rfl rfl ?_
   intro v3117 Sv3114 w a h3115 h3116 hs
   obtain ⟨p3110, k3111, c3113, rfl, h3118, h3112⟩ := h3116
   have hw := hw.callN h3115 h3118
   have hw := hw.addE (e := RowA c3113 rv3109.1.Items) h3112
   refine mv hs rfl rfl fun a hs => ?_
   refine sv hs (y_extract rfl rfl) rfl fun a hs => ?_
   refine sv hs (y_extract rfl rfl) rfl fun a hs => ?_
   refine w_alloc (cs := [.int .i64 0, .int .i64 0, .slice none ([] : List Transit).length 0]) hs hw Try.zeroValue29 rfl rfl trivial ?_
   intro b3119 a w hs hw
   refine w_store (m := 3) (cs' := [.int .i64 rv3109.1.Now, .int .i64 rv3109.1.Order, .slice p3110 rv3109.1.Items.length k3111]) hs hw 0 rfl rfl rfl Try.sizeOf29 rfl rfl rfl rfl trivial ?_
   intro a w hs hw
   refine av hs rfl rfl fun a hs => ?_
   refine nl ?_
   refine wp_seq ?_
   obtain ⟨c3122, hc3122, hsh⟩ := bind_t hsh
   obtain ⟨c3127, hc3127, hsh⟩ := bind_t hsh
   refine wp_only (fun a w => ∃ (Sv3128 : Nat → Prop), Sl 280 [(2, .string data9), (7, .pointer (some ⟨b12, 0, none⟩)), (14, .pointer (some ⟨b389, 0, none⟩)), (16, .pointer (some ⟨b2755, 0, none⟩)), (136, .slice (some ⟨b417, 0, none⟩) ([rv50.1, (⟨x376, x377, x378⟩ : Wire), raw5] : List Wire).length ([rv50.1, (⟨x376, x377, x378⟩ : Wire), raw5] : List Wire).length), (137, .int .i64 (([rv50.1, (⟨x376, x377, x378⟩ : Wire), raw5] : List Wire).length : Int)), (138, .int .i64 sv1414), (145, .slice (some ⟨b2757, 0, none⟩) ([f10, (⟨rv380.1.Drop, rv393.1, rv406.1⟩ : Fault), (⟨true, 0, 0⟩ : Fault)] : List Fault).length ([f10, (⟨rv380.1.Drop, rv393.1, rv406.1⟩ : Fault), (⟨true, 0, 0⟩ : Fault)] : List Fault).length), (146, .int .i64 (([f10, (⟨rv380.1.Drop, rv393.1, rv406.1⟩ : Fault), (⟨true, 0, 0⟩ : Fault)] : List Fault).length : Int)), (147, .int .i64 sv2898), (180, .bool c3127)] a ∧ Wd ⟨w0, S0, []⟩ Sv3128 [.box b12 [.bool f10.Drop, .int .i64 f10.Delay, .int .i64 f10.Copies] 32, .box b389 [.bool rv380.1.Drop, .int .i64 rv393.1, .int .i64 rv406.1] 32, .box b2755 [.int .i64 x2744.Now, .int .i64 x2744.Order, .slice p2751 x2744.Items.length k2753] 29, .row (some ⟨b417, 0, none⟩) ([rv50.1, (⟨x376, x377, x378⟩ : Wire), raw5] : List Wire).length ([rv50.1, (⟨x376, x377, x378⟩ : Wire), raw5] : List Wire).length [.int .i64 rv50.1.Now, .int .i64 rv50.1.Order, .slice p51 rv50.1.Items.length k52, .int .i64 x376, .int .i64 x377, .slice p371 x378.length k372, .int .i64 raw5.Now, .int .i64 raw5.Order, .slice p6 raw5.Items.length k7] 29 3, .row (some ⟨b2757, 0, none⟩) ([f10, (⟨rv380.1.Drop, rv393.1, rv406.1⟩ : Fault), (⟨true, 0, 0⟩ : Fault)] : List Fault).length ([f10, (⟨rv380.1.Drop, rv393.1, rv406.1⟩ : Fault), (⟨true, 0, 0⟩ : Fault)] : List Fault).length [.bool f10.Drop, .int .i64 f10.Delay, .int .i64 f10.Copies, .bool rv380.1.Drop, .int .i64 rv393.1, .int .i64 rv406.1, .bool true, .int .i64 0, .int .i64 0] 32 3] [SlA p2751 x2744.Items.length k2753 x2744.Items, RowA [.int .i64 rv50.1.Now, .int .i64 rv50.1.Order, .slice p51 rv50.1.Items.length k52, .int .i64 x376, .int .i64 x377, .slice p371 x378.length k372, .int .i64 raw5.Now, .int .i64 raw5.Order, .slice p6 raw5.Items.length k7] ([rv50.1, (⟨x376, x377, x378⟩ : Wire), raw5] : List Wire), RowA [.bool f10.Drop, .int .i64 f10.Delay, .int .i64 f10.Copies, .bool rv380.1.Drop, .int .i64 rv393.1, .int .i64 rv406.1, .bool true, .int .i64 0, .int .i64 0] ([f10, (⟨rv380.1.Drop, rv393.1, rv406.1⟩ : Fault), (⟨true, 0, 0⟩ : Fault)] : List Fault)] w) ?_ ?_
   ·rcases Bool.eq_false_or_eq_true (rv3097.2 != rv3109.2) with h3129 | h3129
    ·have h3130 := ite_t hc3122 h3129
     have h3131 : c3122 = true := (Option.some.inj h3130).symm
     have h3132 := ite_t hc3127 h3131
     refine h_b (C := Cls [.box b3119 [.int .i64 rv3109.1.Now, .int .i64 rv3109.1.Order, .slice p3110 rv3109.1.Items.length k3111] 29, .row p3110 rv3109.1.Items.length k3111 c3113 47 3, .box b3107 [.int .i64 rv3097.1.Now, .int .i64 rv3097.1.Order, .slice p3098 rv3097.1.Items.length k3099] 29, .row p3098 rv3097.1.Items.length k3099 c3101 47 3, .box b3095 [.bool x3088.Drop, .int .i64 x3088.Delay, .int .i64 x3088.Copies] 32, .box b12 [.bool f10.Drop, .int .i64 f10.Delay, .int .i64 f10.Copies] 32, .box b389 [.bool rv380.1.Drop, .int .i64 rv393.1, .int .i64 rv406.1] 32, .box b2755 [.int .i64 x2744.Now, .int .i64 x2744.Order, .slice p2751 x2744.Items.length k2753] 29, .row (some ⟨b417, 0, none⟩) ([rv50.1, (⟨x376, x377, x378⟩ : Wire), raw5] : List Wire).length ([rv50.1, (⟨x376, x377, x378⟩ : Wire), raw5] : List Wire).length [.int .i64 rv50.1.Now, .int .i64 rv50.1.Order, .slice p51 rv50.1.Items.length k52, .int .i64 x376, .int .i64 x377, .slice p371 x378.length k372, .int .i64 raw5.Now, .int .i64 raw5.Order, .slice p6 raw5.Items.length k7] 29 3, .row (some ⟨b2757, 0, none⟩) ([f10, (⟨rv380.1.Drop, rv393.1, rv406.1⟩ : Fault), (⟨true, 0, 0⟩ : Fault)] : List Fault).length ([f10, (⟨rv380.1.Drop, rv393.1, rv406.1⟩ : Fault), (⟨true, 0, 0⟩ : Fault)] : List Fault).length [.bool f10.Drop, .int .i64 f10.Delay, .int .i64 f10.Copies, .bool rv380.1.Drop, .int .i64 rv393.1, .int .i64 rv406.1, .bool true, .int .i64 0, .int .i64 0] 32 3] []) (by kernel_rfl) rfl (hw.drew.cs [0, 1, 2, 3, 4, 5, 6, 7, 8, 9] [] rfl rfl) fun hC => ?_
     have hw := hw.drew
     refine gm hs 0 rfl rfl rfl hC fun a hs => ?_
     refine gm hs 1 rfl rfl rfl hC fun a hs => ?_
     refine gv hs 2 rfl rfl hC (fun w hC => y_neq rfl rfl) fun a hs => ?_
     refine gm hs 3 rfl rfl rfl hC fun a hs => ?_
     have hs := hs.fix 168 (.bool true) rfl (vb h3129)
     refine gs hs 4 rfl rfl rfl rfl hC fun a hs => ?_
     refine gs hs 5 rfl rfl rfl rfl hC fun a hs => ?_
     refine gs hs 6 rfl rfl rfl rfl hC fun a hs => ?_
     refine gs hs 7 rfl rfl rfl rfl hC fun a hs => ?_
     refine gv hs 8 rfl rfl hC (fun w hC => y_pickTE (v := .bool c3122) rfl rfl (vbs h3130)) fun a hs => ?_
     refine gm hs 9 rfl rfl rfl hC fun a hs => ?_
     have hs := hs.fix 174 (.bool true) rfl (vb h3131)
     refine gs hs 10 rfl rfl rfl rfl hC fun a hs => ?_
     refine gs hs 11 rfl rfl rfl rfl hC fun a hs => ?_
     refine gs hs 12 rfl rfl rfl rfl hC fun a hs => ?_
     refine gs hs 13 rfl rfl rfl rfl hC fun a hs => ?_
     refine gs hs 14 rfl rfl rfl rfl hC fun a hs => ?_
     refine gv hs 15 rfl rfl hC (fun w hC => y_pickTE (v := .bool c3127) rfl rfl (vbs h3132)) fun a hs => ?_
     refine h_done (by kernel_rfl) ?_
     exact ⟨Sv3114, (hs.wk rfl), (hw.ft [5, 6, 7, 8, 9] [2, 3, 4] (by decide) rfl rfl)⟩
    have h3133 := ite_f hc3122 h3129
    obtain ⟨rv3135, h3134, h3133⟩ := bind_t h3133
    rcases Bool.eq_false_or_eq_true c3122 with h3136 | h3136
    ·have h3137 := ite_t hc3127 h3136
     refine h_b (C := Cls [.box b3119 [.int .i64 rv3109.1.Now, .int .i64 rv3109.1.Order, .slice p3110 rv3109.1.Items.length k3111] 29, .row p3110 rv3109.1.Items.length k3111 c3113 47 3, .box b3107 [.int .i64 rv3097.1.Now, .int .i64 rv3097.1.Order, .slice p3098 rv3097.1.Items.length k3099] 29, .row p3098 rv3097.1.Items.length k3099 c3101 47 3, .box b3095 [.bool x3088.Drop, .int .i64 x3088.Delay, .int .i64 x3088.Copies] 32, .box b12 [.bool f10.Drop, .int .i64 f10.Delay, .int .i64 f10.Copies] 32, .box b389 [.bool rv380.1.Drop, .int .i64 rv393.1, .int .i64 rv406.1] 32, .box b2755 [.int .i64 x2744.Now, .int .i64 x2744.Order, .slice p2751 x2744.Items.length k2753] 29, .row (some ⟨b417, 0, none⟩) ([rv50.1, (⟨x376, x377, x378⟩ : Wire), raw5] : List Wire).length ([rv50.1, (⟨x376, x377, x378⟩ : Wire), raw5] : List Wire).length [.int .i64 rv50.1.Now, .int .i64 rv50.1.Order, .slice p51 rv50.1.Items.length k52, .int .i64 x376, .int .i64 x377, .slice p371 x378.length k372, .int .i64 raw5.Now, .int .i64 raw5.Order, .slice p6 raw5.Items.length k7] 29 3, .row (some ⟨b2757, 0, none⟩) ([f10, (⟨rv380.1.Drop, rv393.1, rv406.1⟩ : Fault), (⟨true, 0, 0⟩ : Fault)] : List Fault).length ([f10, (⟨rv380.1.Drop, rv393.1, rv406.1⟩ : Fault), (⟨true, 0, 0⟩ : Fault)] : List Fault).length [.bool f10.Drop, .int .i64 f10.Delay, .int .i64 f10.Copies, .bool rv380.1.Drop, .int .i64 rv393.1, .int .i64 rv406.1, .bool true, .int .i64 0, .int .i64 0] 32 3] []) (by kernel_rfl) rfl (hw.drew.cs [0, 1, 2, 3, 4, 5, 6, 7, 8, 9] [] rfl rfl) fun hC => ?_
     have hw := hw.drew
     refine gm hs 0 rfl rfl rfl hC fun a hs => ?_
     refine gm hs 1 rfl rfl rfl hC fun a hs => ?_
     refine gv hs 2 rfl rfl hC (fun w hC => y_neq rfl rfl) fun a hs => ?_
     refine gm hs 3 rfl rfl rfl hC fun a hs => ?_
     have hs := hs.fix 168 (.bool false) rfl (vb h3129)
     refine gt hs 4 rfl ⟨_, rfl, rfl⟩ rfl hC (fun w hC => y_loadBA (hC.ownAt 2 rfl) rfl Try.isAgg29 Try.sizeOf29 rfl rfl) fun a hs => ?_
     refine gt hs 5 rfl ⟨_, rfl, rfl⟩ rfl hC (fun w hC => y_loadBA (hC.ownAt 0 rfl) rfl Try.isAgg29 Try.sizeOf29 rfl rfl) fun a hs => ?_
     refine ho 6 rfl ?_
     refine st_callR hs (ref09_Same_ok h3134 hw.bdom (hw.bRow 3 rfl 1 rfl) (hw.bRow 1 rfl 0 rfl)) (do_call Try.call21 rfl) ⟨_, rfl, rfl⟩ rfl rfl ?_
     intro v3141 Sv3138 w a h3139 h3140 hs
     subst h3140
     have hw := hw.callB h3139
     refine h_nx (hw.cs [0, 1, 2, 3, 4, 5, 6, 7, 8, 9] [] rfl rfl) fun hC => ?_
     refine gt hs 7 rfl ⟨_, rfl, rfl⟩ rfl hC (fun w hC => y_not rfl) fun a hs => ?_
     refine gv hs 8 rfl rfl hC (fun w hC => y_pickFE (v := .bool c3122) rfl rfl (vbs h3133)) fun a hs => ?_
     refine gm hs 9 rfl rfl rfl hC fun a hs => ?_
     have hs := hs.fix 174 (.bool true) rfl (vb h3136)
     refine gs hs 10 rfl rfl rfl rfl hC fun a hs => ?_
     refine gs hs 11 rfl rfl rfl rfl hC fun a hs => ?_
     refine gs hs 12 rfl rfl rfl rfl hC fun a hs => ?_
     refine gs hs 13 rfl rfl rfl rfl hC fun a hs => ?_
     refine gs hs 14 rfl rfl rfl rfl hC fun a hs => ?_
     refine gv hs 15 rfl rfl hC (fun w hC => y_pickTE (v := .bool c3127) rfl rfl (vbs h3137)) fun a hs => ?_
     refine h_done (by kernel_rfl) ?_
     exact ⟨Sv3114, (hs.wk rfl), (hw.ft [5, 6, 7, 8, 9] [2, 3, 4] (by decide) rfl rfl)⟩
    have h3143 := ite_f hc3127 h3136
    obtain ⟨rv3145, h3144, h3143⟩ := bind_t h3143
    obtain ⟨rv3147, h3146, h3143⟩ := bind_t h3143
    refine h_b (C := Cls [.box b3119 [.int .i64 rv3109.1.Now, .int .i64 rv3109.1.Order, .slice p3110 rv3109.1.Items.length k3111] 29, .row p3110 rv3109.1.Items.length k3111 c3113 47 3, .box b3107 [.int .i64 rv3097.1.Now, .int .i64 rv3097.1.Order, .slice p3098 rv3097.1.Items.length k3099] 29, .row p3098 rv3097.1.Items.length k3099 c3101 47 3, .box b3095 [.bool x3088.Drop, .int .i64 x3088.Delay, .int .i64 x3088.Copies] 32, .box b12 [.bool f10.Drop, .int .i64 f10.Delay, .int .i64 f10.Copies] 32, .box b389 [.bool rv380.1.Drop, .int .i64 rv393.1, .int .i64 rv406.1] 32, .box b2755 [.int .i64 x2744.Now, .int .i64 x2744.Order, .slice p2751 x2744.Items.length k2753] 29, .row (some ⟨b417, 0, none⟩) ([rv50.1, (⟨x376, x377, x378⟩ : Wire), raw5] : List Wire).length ([rv50.1, (⟨x376, x377, x378⟩ : Wire), raw5] : List Wire).length [.int .i64 rv50.1.Now, .int .i64 rv50.1.Order, .slice p51 rv50.1.Items.length k52, .int .i64 x376, .int .i64 x377, .slice p371 x378.length k372, .int .i64 raw5.Now, .int .i64 raw5.Order, .slice p6 raw5.Items.length k7] 29 3, .row (some ⟨b2757, 0, none⟩) ([f10, (⟨rv380.1.Drop, rv393.1, rv406.1⟩ : Fault), (⟨true, 0, 0⟩ : Fault)] : List Fault).length ([f10, (⟨rv380.1.Drop, rv393.1, rv406.1⟩ : Fault), (⟨true, 0, 0⟩ : Fault)] : List Fault).length [.bool f10.Drop, .int .i64 f10.Delay, .int .i64 f10.Copies, .bool rv380.1.Drop, .int .i64 rv393.1, .int .i64 rv406.1, .bool true, .int .i64 0, .int .i64 0] 32 3] []) (by kernel_rfl) rfl (hw.drew.cs [0, 1, 2, 3, 4, 5, 6, 7, 8, 9] [] rfl rfl) fun hC => ?_
    have hw := hw.drew
    refine gm hs 0 rfl rfl rfl hC fun a hs => ?_
    refine gm hs 1 rfl rfl rfl hC fun a hs => ?_
    refine gv hs 2 rfl rfl hC (fun w hC => y_neq rfl rfl) fun a hs => ?_
    refine gm hs 3 rfl rfl rfl hC fun a hs => ?_
    have hs := hs.fix 168 (.bool false) rfl (vb h3129)
    refine gt hs 4 rfl ⟨_, rfl, rfl⟩ rfl hC (fun w hC => y_loadBA (hC.ownAt 2 rfl) rfl Try.isAgg29 Try.sizeOf29 rfl rfl) fun a hs => ?_
    refine gt hs 5 rfl ⟨_, rfl, rfl⟩ rfl hC (fun w hC => y_loadBA (hC.ownAt 0 rfl) rfl Try.isAgg29 Try.sizeOf29 rfl rfl) fun a hs => ?_
    refine ho 6 rfl ?_
    refine st_callR hs (ref09_Same_ok h3134 hw.bdom (hw.bRow 3 rfl 1 rfl) (hw.bRow 1 rfl 0 rfl)) (do_call Try.call21 rfl) ⟨_, rfl, rfl⟩ rfl rfl ?_
    intro v3151 Sv3148 w a h3149 h3150 hs
    subst h3150
    have hw := hw.callB h3149
    refine h_nx (hw.cs [0, 1, 2, 3, 4, 5, 6, 7, 8, 9] [] rfl rfl) fun hC => ?_
    refine gt hs 7 rfl ⟨_, rfl, rfl⟩ rfl hC (fun w hC => y_not rfl) fun a hs => ?_
    refine gv hs 8 rfl rfl hC (fun w hC => y_pickFE (v := .bool c3122) rfl rfl (vbs h3133)) fun a hs => ?_
    refine gm hs 9 rfl rfl rfl hC fun a hs => ?_
    have hs := hs.fix 174 (.bool false) rfl (vb h3136)
    refine gt hs 10 rfl ⟨_, rfl, rfl⟩ rfl hC (fun w hC => y_loadBA (hC.ownAt 4 rfl) rfl Try.isAgg32 Try.sizeOf32 rfl rfl) fun a hs => ?_
    refine gt hs 12 rfl ⟨_, rfl, rfl⟩ rfl hC (fun w hC => y_loadBA (hC.ownAt 4 rfl) rfl Try.isAgg32 Try.sizeOf32 rfl rfl) fun a hs => ?_
    refine ho 11 rfl ?_
    refine st_callR hs (link_ValidFault_ok h3144 hw.bdom) (do_call Try.call22 rfl) ⟨_, rfl, rfl⟩ rfl rfl ?_
    intro v3156 Sv3153 w a h3154 h3155 hs
    subst h3155
    have hw := hw.callB h3154
    refine h_nx (hw.cs [0, 1, 2, 3, 4, 5, 6, 7, 8, 9] [] rfl rfl) fun hC => ?_
    refine ho 13 rfl ?_
    refine st_callR hs (ref09_ValidFault_ok h3146 hw.bdom) (do_call Try.call23 rfl) ⟨_, rfl, rfl⟩ rfl rfl ?_
    intro v3161 Sv3158 w a h3159 h3160 hs
    subst h3160
    have hw := hw.callB h3159
    refine h_nx (hw.cs [0, 1, 2, 3, 4, 5, 6, 7, 8, 9] [] rfl rfl) fun hC => ?_
    refine gt hs 14 rfl ⟨_, rfl, rfl⟩ rfl hC (fun w hC => y_neqB Try.runUnderlying4 rfl rfl) fun a hs => ?_
    refine gv hs 15 rfl rfl hC (fun w hC => y_pickFE (v := .bool c3127) rfl rfl (vbs h3143)) fun a hs => ?_
    refine h_done (by kernel_rfl) ?_
    exact ⟨Sv3114, (hs.wk rfl), (hw.ft [5, 6, 7, 8, 9] [2, 3, 4] (by decide) rfl rfl)⟩
   rintro a w ⟨Sv3128, hs, hw⟩
   refine then_normal ?_
   refine wp_cond_split (hs.ev rfl) (fun h3164 => ?_) (fun h3164 => ?_)
   ·have hsh := ite_t hsh h3164
    refine sr ?_
    refine av hs rfl rfl fun a hs => ?_
    refine nl ?_
    have hsh := oi hsh
    subst hsh
    have h3165 := hd3036 _ rfl
    subst h3165
    have h3166 := hd2407 _ rfl
    subst h3166
    refine wp_ret ?_
    refine blk_ret ?_
    refine then_ret ?_
    refine then_ret ?_
    refine blk_ret ?_
    refine then_ret ?_
    refine blk_ret ?_
    refine then_ret ?_
    refine then_ret ?_
    refine blk_ret ?_
    refine then_ret ?_
    exact ret1 hs rfl (rv_tmp rfl) (hw.ret rfl)
   have hsh := ite_f hsh h3164
   refine wp_skip ?_
   refine blk_normal ?_
   refine then_normal ?_
   refine wp_region_lit ?_
   refine sv hs (y_add rfl rfl) rfl fun a hs => ?_
   refine mv hs rfl rfl fun a hs => ?_
   refine nl ?_
   exact ⟨_, (Option.some.inj hsh).symm, Sv3128, (hs.wk rfl), (hw.ft [0, 1, 2, 3, 4] [0, 1, 2] (by decide) rfl rfl)⟩
  have hsh := ite_f hsh h3041
  obtain ⟨rv3645, hsh, h3646⟩ := map_t hsh
  have h3646 := (hd3036 _ h3646.symm).symm
  subst h3646
  refine wp_exit ?_
  refine then_exit ?_
  refine then_exit ?_
  refine blk_exit ?_
  refine then_normal ?_
  refine sr ?_
  refine sv hs (y_loadBA (hw.ownAt 2 rfl) rfl Try.isAgg29 Try.sizeOf29 rfl rfl) rfl fun a hs => ?_
  obtain ⟨rv3168, h3167, hsh⟩ := bind_t hsh
  refine st_callR hs (link_Tick_ok h3167 hw.dom (hw.envAt 0 rfl)) (do_call Try.call14 rfl) trivial rfl rfl ?_
  intro v3180 Sv3177 w a h3178 h3179 hs
  obtain ⟨p3169, k3170, c3172, p3173, k3174, c3176, rfl, h3181, h3171, h3175⟩ := h3179
  have hw := hw.callN h3178 h3181
  have hw := hw.addE (e := RowA c3172 rv3168.1.Items) h3171
  have hw := hw.addE (e := RowA c3176 rv3168.2.1) h3175
  refine mv hs rfl rfl fun a hs => ?_
  refine sv hs (y_extract rfl rfl) rfl fun a hs => ?_
  refine sv hs (y_extract rfl rfl) rfl fun a hs => ?_
  refine sv hs (y_extract rfl rfl) rfl fun a hs => ?_
  refine w_alloc (cs := [.int .i64 0, .int .i64 0, .slice none ([] : List Transit).length 0]) hs hw Try.zeroValue29 rfl rfl trivial ?_
  intro b3182 a w hs hw
  refine w_store (m := 3) (cs' := [.int .i64 rv3168.1.Now, .int .i64 rv3168.1.Order, .slice p3169 rv3168.1.Items.length k3170]) hs hw 0 rfl rfl rfl Try.sizeOf29 rfl rfl rfl rfl trivial ?_
  intro a w hs hw
  refine av hs rfl rfl fun a hs => ?_
  refine av hs rfl rfl fun a hs => ?_
  refine nl ?_
  refine sr ?_
  refine sv hs (y_loadBA (hw.ownAt 5 rfl) rfl Try.isAgg29 Try.sizeOf29 rfl rfl) rfl fun a hs => ?_
  obtain ⟨rv3184, h3183, hsh⟩ := bind_t hsh
  refine st_callR hs (ref09_Tick_ok h3183 hw.dom (hw.envAt 2 rfl)) (do_call Try.call24 rfl) trivial rfl rfl ?_
  intro v3196 Sv3193 w a h3194 h3195 hs
  obtain ⟨p3185, k3186, c3188, p3189, k3190, c3192, rfl, h3197, h3187, h3191⟩ := h3195
  have hw := hw.callN h3194 h3197
  have hw := hw.addE (e := RowA c3188 rv3184.1.Items) h3187
  have hw := hw.addE (e := RowA c3192 rv3184.2.1) h3191
  refine mv hs rfl rfl fun a hs => ?_
  refine sv hs (y_extract rfl rfl) rfl fun a hs => ?_
  refine sv hs (y_extract rfl rfl) rfl fun a hs => ?_
  refine sv hs (y_extract rfl rfl) rfl fun a hs => ?_
  refine w_alloc (cs := [.int .i64 0, .int .i64 0, .slice none ([] : List Transit).length 0]) hs hw Try.zeroValue29 rfl rfl trivial ?_
  intro b3198 a w hs hw
  refine w_store (m := 3) (cs' := [.int .i64 rv3184.1.Now, .int .i64 rv3184.1.Order, .slice p3185 rv3184.1.Items.length k3186]) hs hw 0 rfl rfl rfl Try.sizeOf29 rfl rfl rfl rfl trivial ?_
  intro a w hs hw
  refine av hs rfl rfl fun a hs => ?_
  refine av hs rfl rfl fun a hs => ?_
  refine nl ?_
  refine sr ?_
  refine sv hs (y_loadBA (hw.ownAt 8 rfl) rfl Try.isAgg29 Try.sizeOf29 rfl rfl) rfl fun a hs => ?_
  obtain ⟨rv3200, h3199, hsh⟩ := bind_t hsh
  refine st_callR hs (link_Next_ok h3199 hw.bdom (hw.bE 4 rfl)) (do_call Try.call25 rfl) trivial rfl rfl ?_
  intro v3204 Sv3201 w a h3202 h3203 hs
  subst h3203
  have hw := hw.callB h3202
  refine mv hs rfl rfl fun a hs => ?_
  refine sv hs (y_extract rfl rfl) rfl fun a hs => ?_
  refine sv hs (y_extract rfl rfl) rfl fun a hs => ?_
  refine av hs rfl rfl fun a hs => ?_
  refine av hs rfl rfl fun a hs => ?_
  refine nl ?_
  refine sr ?_
  refine sv hs (y_loadBA (hw.ownAt 8 rfl) rfl Try.isAgg29 Try.sizeOf29 rfl rfl) rfl fun a hs => ?_
  obtain ⟨rv3207, h3206, hsh⟩ := bind_t hsh
  refine st_callR hs (ref09_Next_ok h3206 hw.bdom (hw.bE 4 rfl)) (do_call Try.call26 rfl) trivial rfl rfl ?_
  intro v3211 Sv3208 w a h3209 h3210 hs
  subst h3210
  have hw := hw.callB h3209
  refine mv hs rfl rfl fun a hs => ?_
  refine sv hs (y_extract rfl rfl) rfl fun a hs => ?_
  refine sv hs (y_extract rfl rfl) rfl fun a hs => ?_
  refine av hs rfl rfl fun a hs => ?_
  refine av hs rfl rfl fun a hs => ?_
  refine nl ?_
  refine sr ?_
  refine sv hs (y_loadBA (hw.ownAt 8 rfl) rfl Try.isAgg29 Try.sizeOf29 rfl rfl) rfl fun a hs => ?_
  obtain ⟨rv3214, h3213, hsh⟩ := bind_t hsh
  refine st_callR hs (link_Drain_ok h3213 hw.dom (hw.envAt 4 rfl)) (do_call Try.call27 rfl) trivial rfl rfl ?_
  intro v3222 Sv3219 w a h3220 h3221 hs
  obtain ⟨p3215, k3216, c3218, rfl, h3223, h3217⟩ := h3221
  have hw := hw.callN h3220 h3223
  have hw := hw.addE (e := RowA c3218 rv3214.1) h3217
  refine mv hs rfl rfl fun a hs => ?_
  refine sv hs (y_extract rfl rfl) rfl fun a hs => ?_
  refine sv hs (y_extract rfl rfl) rfl fun a hs => ?_
  refine av hs rfl rfl fun a hs => ?_
  refine av hs rfl rfl fun a hs => ?_
  refine nl ?_
  refine sr ?_
  refine sv hs (y_loadBA (hw.ownAt 9 rfl) rfl Try.isAgg29 Try.sizeOf29 rfl rfl) rfl fun a hs => ?_
  obtain ⟨rv3225, h3224, hsh⟩ := bind_t hsh
  refine st_callR hs (ref09_Drain_ok h3224 hw.dom (hw.envAt 5 rfl)) (do_call Try.call28 rfl) trivial rfl rfl ?_
  intro v3233 Sv3230 w a h3231 h3232 hs
  obtain ⟨p3226, k3227, c3229, rfl, h3234, h3228⟩ := h3232
  have hw := hw.callN h3231 h3234
  have hw := hw.addE (e := RowA c3229 rv3225.1) h3228
  refine mv hs rfl rfl fun a hs => ?_
  refine sv hs (y_extract rfl rfl) rfl fun a hs => ?_
  refine sv hs (y_extract rfl rfl) rfl fun a hs => ?_
  refine av hs rfl rfl fun a hs => ?_
  refine av hs rfl rfl fun a hs => ?_
  refine nl ?_
  refine wp_seq ?_
  refine wp_seq ?_
  obtain ⟨c3237, hc3237, hsh⟩ := bind_t hsh
  obtain ⟨c3240, hc3240, hsh⟩ := bind_t hsh
  obtain ⟨c3245, hc3245, hsh⟩ := bind_t hsh
  refine wp_only (fun a w => ∃ (Sv3246 : Nat → Prop), Sl 280 [(2, .string data9), (7, .pointer (some ⟨b12, 0, none⟩)), (14, .pointer (some ⟨b389, 0, none⟩)), (33, .slice p3215 rv3214.1.length k3216), (35, .slice p3226 rv3225.1.length k3227), (136, .slice (some ⟨b417, 0, none⟩) ([rv50.1, (⟨x376, x377, x378⟩ : Wire), raw5] : List Wire).length ([rv50.1, (⟨x376, x377, x378⟩ : Wire), raw5] : List Wire).length), (137, .int .i64 (([rv50.1, (⟨x376, x377, x378⟩ : Wire), raw5] : List Wire).length : Int)), (138, .int .i64 sv1414), (257, .bool c3245)] a ∧ Wd ⟨w0, S0, []⟩ Sv3246 [.box b12 [.bool f10.Drop, .int .i64 f10.Delay, .int .i64 f10.Copies] 32, .box b389 [.bool rv380.1.Drop, .int .i64 rv393.1, .int .i64 rv406.1] 32, .row (some ⟨b417, 0, none⟩) ([rv50.1, (⟨x376, x377, x378⟩ : Wire), raw5] : List Wire).length ([rv50.1, (⟨x376, x377, x378⟩ : Wire), raw5] : List Wire).length [.int .i64 rv50.1.Now, .int .i64 rv50.1.Order, .slice p51 rv50.1.Items.length k52, .int .i64 x376, .int .i64 x377, .slice p371 x378.length k372, .int .i64 raw5.Now, .int .i64 raw5.Order, .slice p6 raw5.Items.length k7] 29 3, .row p3215 rv3214.1.length k3216 c3218 47 3, .row p3226 rv3225.1.length k3227 c3229 47 3] [RowA [.int .i64 rv50.1.Now, .int .i64 rv50.1.Order, .slice p51 rv50.1.Items.length k52, .int .i64 x376, .int .i64 x377, .slice p371 x378.length k372, .int .i64 raw5.Now, .int .i64 raw5.Order, .slice p6 raw5.Items.length k7] ([rv50.1, (⟨x376, x377, x378⟩ : Wire), raw5] : List Wire), RowA c3218 rv3214.1, RowA c3229 rv3225.1] w) ?_ ?_
  ·rcases Bool.eq_false_or_eq_true (rv3168.2.2 != rv3184.2.2) with h3247 | h3247
   ·have h3248 := ite_t hc3237 h3247
    have h3249 : c3237 = true := (Option.some.inj h3248).symm
    have h3250 := ite_t hc3240 h3249
    have h3251 : c3240 = true := (Option.some.inj h3250).symm
    have h3253 : (c3240 || (rv3200.1 != rv3207.1)) = true := by rw [h3251]; rfl
    have h3255 : ((c3240 || (rv3200.1 != rv3207.1)) || (!(rv3200.2 == rv3207.2))) = true := by rw [h3253]; rfl
    have h3257 : (((c3240 || (rv3200.1 != rv3207.1)) || (!(rv3200.2 == rv3207.2))) || (rv3214.2 != rv3225.2)) = true := by rw [h3255]; rfl
    have h3259 : ((((c3240 || (rv3200.1 != rv3207.1)) || (!(rv3200.2 == rv3207.2))) || (rv3214.2 != rv3225.2)) || ((rv3214.1.length : Int) != (rv3225.1.length : Int))) = true := by rw [h3257]; rfl
    have h3260 := ite_t hc3245 h3259
    refine h_b (C := Cls [.row p3226 rv3225.1.length k3227 c3229 47 3, .row p3215 rv3214.1.length k3216 c3218 47 3, .box b3198 [.int .i64 rv3184.1.Now, .int .i64 rv3184.1.Order, .slice p3185 rv3184.1.Items.length k3186] 29, .row p3185 rv3184.1.Items.length k3186 c3188 47 3, .row p3189 rv3184.2.1.length k3190 c3192 9 1, .box b3182 [.int .i64 rv3168.1.Now, .int .i64 rv3168.1.Order, .slice p3169 rv3168.1.Items.length k3170] 29, .row p3169 rv3168.1.Items.length k3170 c3172 47 3, .row p3173 rv3168.2.1.length k3174 c3176 9 1, .box b12 [.bool f10.Drop, .int .i64 f10.Delay, .int .i64 f10.Copies] 32, .box b389 [.bool rv380.1.Drop, .int .i64 rv393.1, .int .i64 rv406.1] 32, .box b2755 [.int .i64 x2744.Now, .int .i64 x2744.Order, .slice p2751 x2744.Items.length k2753] 29, .row (some ⟨b417, 0, none⟩) ([rv50.1, (⟨x376, x377, x378⟩ : Wire), raw5] : List Wire).length ([rv50.1, (⟨x376, x377, x378⟩ : Wire), raw5] : List Wire).length [.int .i64 rv50.1.Now, .int .i64 rv50.1.Order, .slice p51 rv50.1.Items.length k52, .int .i64 x376, .int .i64 x377, .slice p371 x378.length k372, .int .i64 raw5.Now, .int .i64 raw5.Order, .slice p6 raw5.Items.length k7] 29 3, .row (some ⟨b2757, 0, none⟩) ([f10, (⟨rv380.1.Drop, rv393.1, rv406.1⟩ : Fault), (⟨true, 0, 0⟩ : Fault)] : List Fault).length ([f10, (⟨rv380.1.Drop, rv393.1, rv406.1⟩ : Fault), (⟨true, 0, 0⟩ : Fault)] : List Fault).length [.bool f10.Drop, .int .i64 f10.Delay, .int .i64 f10.Copies, .bool rv380.1.Drop, .int .i64 rv393.1, .int .i64 rv406.1, .bool true, .int .i64 0, .int .i64 0] 32 3] []) (by kernel_rfl) rfl (hw.drew.cs [0, 1, 2, 3, 4, 5, 6, 7, 8, 9, 10, 11, 12] [] rfl rfl) fun hC => ?_
    have hw := hw.drew
    refine gm hs 0 rfl rfl rfl hC fun a hs => ?_
    refine gm hs 1 rfl rfl rfl hC fun a hs => ?_
    refine gv hs 2 rfl rfl hC (fun w hC => y_neq rfl rfl) fun a hs => ?_
    refine gm hs 3 rfl rfl rfl hC fun a hs => ?_
    have hs := hs.fix 217 (.bool true) rfl (vb h3247)
    refine gs hs 4 rfl rfl rfl rfl hC fun a hs => ?_
    refine gs hs 5 rfl rfl rfl rfl hC fun a hs => ?_
    refine gs hs 6 rfl rfl rfl rfl hC fun a hs => ?_
    refine gs hs 7 rfl rfl rfl rfl hC fun a hs => ?_
    refine gv hs 8 rfl rfl hC (fun w hC => y_pickTE (v := .bool c3237) rfl rfl (vbs h3248)) fun a hs => ?_
    refine gm hs 9 rfl rfl rfl hC fun a hs => ?_
    have hs := hs.fix 223 (.bool true) rfl (vb h3249)
    refine gs hs 10 rfl rfl rfl rfl hC fun a hs => ?_
    refine gs hs 11 rfl rfl rfl rfl hC fun a hs => ?_
    refine gs hs 12 rfl rfl rfl rfl hC fun a hs => ?_
    refine gs hs 13 rfl rfl rfl rfl hC fun a hs => ?_
    refine gv hs 14 rfl rfl hC (fun w hC => y_pickTE (v := .bool c3240) rfl rfl (vbs h3250)) fun a hs => ?_
    refine gm hs 15 rfl rfl rfl hC fun a hs => ?_
    have hs := hs.fix 229 (.bool true) rfl (vb h3251)
    refine gs hs 16 rfl rfl rfl rfl hC fun a hs => ?_
    refine gs hs 17 rfl rfl rfl rfl hC fun a hs => ?_
    refine gs hs 18 rfl rfl rfl rfl hC fun a hs => ?_
    refine gv hs 19 rfl rfl hC (fun w hC => y_pickTE (v := .bool (c3240 || (rv3200.1 != rv3207.1))) rfl rfl (or_t h3251)) fun a hs => ?_
    refine gm hs 20 rfl rfl rfl hC fun a hs => ?_
    have hs := hs.fix 234 (.bool true) rfl (vb h3253)
    refine gs hs 21 rfl rfl rfl rfl hC fun a hs => ?_
    refine gs hs 22 rfl rfl rfl rfl hC fun a hs => ?_
    refine gs hs 23 rfl rfl rfl rfl hC fun a hs => ?_
    refine gv hs 24 rfl rfl hC (fun w hC => y_pickTE (v := .bool ((c3240 || (rv3200.1 != rv3207.1)) || (!(rv3200.2 == rv3207.2)))) rfl rfl (or_t h3253)) fun a hs => ?_
    refine gm hs 25 rfl rfl rfl hC fun a hs => ?_
    have hs := hs.fix 239 (.bool true) rfl (vb h3255)
    refine gs hs 26 rfl rfl rfl rfl hC fun a hs => ?_
    refine gs hs 27 rfl rfl rfl rfl hC fun a hs => ?_
    refine gs hs 28 rfl rfl rfl rfl hC fun a hs => ?_
    refine gv hs 29 rfl rfl hC (fun w hC => y_pickTE (v := .bool (((c3240 || (rv3200.1 != rv3207.1)) || (!(rv3200.2 == rv3207.2))) || (rv3214.2 != rv3225.2))) rfl rfl (or_t h3255)) fun a hs => ?_
    refine gm hs 30 rfl rfl rfl hC fun a hs => ?_
    have hs := hs.fix 244 (.bool true) rfl (vb h3257)
    refine gs hs 31 rfl rfl rfl rfl hC fun a hs => ?_
    refine gs hs 32 rfl rfl rfl rfl hC fun a hs => ?_
    refine gs hs 33 rfl rfl rfl rfl hC fun a hs => ?_
    refine gs hs 34 rfl rfl rfl rfl hC fun a hs => ?_
    refine gs hs 35 rfl rfl rfl rfl hC fun a hs => ?_
    refine gv hs 36 rfl rfl hC (fun w hC => y_pickTE (v := .bool ((((c3240 || (rv3200.1 != rv3207.1)) || (!(rv3200.2 == rv3207.2))) || (rv3214.2 != rv3225.2)) || ((rv3214.1.length : Int) != (rv3225.1.length : Int)))) rfl rfl (or_t h3257)) fun a hs => ?_
    refine gm hs 37 rfl rfl rfl hC fun a hs => ?_
    have hs := hs.fix 251 (.bool true) rfl (vb h3259)
    refine gs hs 38 rfl rfl rfl rfl hC fun a hs => ?_
    refine gs hs 39 rfl rfl rfl rfl hC fun a hs => ?_
    refine gs hs 40 rfl rfl rfl rfl hC fun a hs => ?_
    refine gs hs 41 rfl rfl rfl rfl hC fun a hs => ?_
    refine gs hs 42 rfl rfl rfl rfl hC fun a hs => ?_
    refine gv hs 43 rfl rfl hC (fun w hC => y_pickTE (v := .bool c3245) rfl rfl (vbs h3260)) fun a hs => ?_
    refine h_done (by kernel_rfl) ?_
    exact ⟨Sv3230, (hs.wk rfl), (hw.ft [8, 9, 11, 1, 0] [7, 1, 0] (by decide) rfl rfl)⟩
   have h3261 := ite_f hc3237 h3247
   obtain ⟨rv3263, h3262, h3261⟩ := bind_t h3261
   rcases Bool.eq_false_or_eq_true c3237 with h3264 | h3264
   ·have h3265 := ite_t hc3240 h3264
    have h3266 : c3240 = true := (Option.some.inj h3265).symm
    have h3268 : (c3240 || (rv3200.1 != rv3207.1)) = true := by rw [h3266]; rfl
    have h3270 : ((c3240 || (rv3200.1 != rv3207.1)) || (!(rv3200.2 == rv3207.2))) = true := by rw [h3268]; rfl
    have h3272 : (((c3240 || (rv3200.1 != rv3207.1)) || (!(rv3200.2 == rv3207.2))) || (rv3214.2 != rv3225.2)) = true := by rw [h3270]; rfl
    have h3274 : ((((c3240 || (rv3200.1 != rv3207.1)) || (!(rv3200.2 == rv3207.2))) || (rv3214.2 != rv3225.2)) || ((rv3214.1.length : Int) != (rv3225.1.length : Int))) = true := by rw [h3272]; rfl
    have h3275 := ite_t hc3245 h3274
    refine h_b (C := Cls [.row p3226 rv3225.1.length k3227 c3229 47 3, .row p3215 rv3214.1.length k3216 c3218 47 3, .box b3198 [.int .i64 rv3184.1.Now, .int .i64 rv3184.1.Order, .slice p3185 rv3184.1.Items.length k3186] 29, .row p3185 rv3184.1.Items.length k3186 c3188 47 3, .row p3189 rv3184.2.1.length k3190 c3192 9 1, .box b3182 [.int .i64 rv3168.1.Now, .int .i64 rv3168.1.Order, .slice p3169 rv3168.1.Items.length k3170] 29, .row p3169 rv3168.1.Items.length k3170 c3172 47 3, .row p3173 rv3168.2.1.length k3174 c3176 9 1, .box b12 [.bool f10.Drop, .int .i64 f10.Delay, .int .i64 f10.Copies] 32, .box b389 [.bool rv380.1.Drop, .int .i64 rv393.1, .int .i64 rv406.1] 32, .box b2755 [.int .i64 x2744.Now, .int .i64 x2744.Order, .slice p2751 x2744.Items.length k2753] 29, .row (some ⟨b417, 0, none⟩) ([rv50.1, (⟨x376, x377, x378⟩ : Wire), raw5] : List Wire).length ([rv50.1, (⟨x376, x377, x378⟩ : Wire), raw5] : List Wire).length [.int .i64 rv50.1.Now, .int .i64 rv50.1.Order, .slice p51 rv50.1.Items.length k52, .int .i64 x376, .int .i64 x377, .slice p371 x378.length k372, .int .i64 raw5.Now, .int .i64 raw5.Order, .slice p6 raw5.Items.length k7] 29 3, .row (some ⟨b2757, 0, none⟩) ([f10, (⟨rv380.1.Drop, rv393.1, rv406.1⟩ : Fault), (⟨true, 0, 0⟩ : Fault)] : List Fault).length ([f10, (⟨rv380.1.Drop, rv393.1, rv406.1⟩ : Fault), (⟨true, 0, 0⟩ : Fault)] : List Fault).length [.bool f10.Drop, .int .i64 f10.Delay, .int .i64 f10.Copies, .bool rv380.1.Drop, .int .i64 rv393.1, .int .i64 rv406.1, .bool true, .int .i64 0, .int .i64 0] 32 3] []) (by kernel_rfl) rfl (hw.drew.cs [0, 1, 2, 3, 4, 5, 6, 7, 8, 9, 10, 11, 12] [] rfl rfl) fun hC => ?_
    have hw := hw.drew
    refine gm hs 0 rfl rfl rfl hC fun a hs => ?_
    refine gm hs 1 rfl rfl rfl hC fun a hs => ?_
    refine gv hs 2 rfl rfl hC (fun w hC => y_neq rfl rfl) fun a hs => ?_
    refine gm hs 3 rfl rfl rfl hC fun a hs => ?_
    have hs := hs.fix 217 (.bool false) rfl (vb h3247)
    refine gt hs 4 rfl ⟨_, rfl, rfl⟩ rfl hC (fun w hC => y_loadBA (hC.ownAt 5 rfl) rfl Try.isAgg29 Try.sizeOf29 rfl rfl) fun a hs => ?_
    refine gt hs 5 rfl ⟨_, rfl, rfl⟩ rfl hC (fun w hC => y_loadBA (hC.ownAt 2 rfl) rfl Try.isAgg29 Try.sizeOf29 rfl rfl) fun a hs => ?_
    refine ho 6 rfl ?_
    refine st_callR hs (ref09_Same_ok h3262 hw.bdom (hw.bRow 6 rfl 5 rfl) (hw.bRow 3 rfl 3 rfl)) (do_call Try.call21 rfl) ⟨_, rfl, rfl⟩ rfl rfl ?_
    intro v3279 Sv3276 w a h3277 h3278 hs
    subst h3278
    have hw := hw.callB h3277
    refine h_nx (hw.cs [0, 1, 2, 3, 4, 5, 6, 7, 8, 9, 10, 11, 12] [] rfl rfl) fun hC => ?_
    refine gt hs 7 rfl ⟨_, rfl, rfl⟩ rfl hC (fun w hC => y_not rfl) fun a hs => ?_
    refine gv hs 8 rfl rfl hC (fun w hC => y_pickFE (v := .bool c3237) rfl rfl (vbs h3261)) fun a hs => ?_
    refine gm hs 9 rfl rfl rfl hC fun a hs => ?_
    have hs := hs.fix 223 (.bool true) rfl (vb h3264)
    refine gs hs 10 rfl rfl rfl rfl hC fun a hs => ?_
    refine gs hs 11 rfl rfl rfl rfl hC fun a hs => ?_
    refine gs hs 12 rfl rfl rfl rfl hC fun a hs => ?_
    refine gs hs 13 rfl rfl rfl rfl hC fun a hs => ?_
    refine gv hs 14 rfl rfl hC (fun w hC => y_pickTE (v := .bool c3240) rfl rfl (vbs h3265)) fun a hs => ?_
    refine gm hs 15 rfl rfl rfl hC fun a hs => ?_
    have hs := hs.fix 229 (.bool true) rfl (vb h3266)
    refine gs hs 16 rfl rfl rfl rfl hC fun a hs => ?_
    refine gs hs 17 rfl rfl rfl rfl hC fun a hs => ?_
    refine gs hs 18 rfl rfl rfl rfl hC fun a hs => ?_
    refine gv hs 19 rfl rfl hC (fun w hC => y_pickTE (v := .bool (c3240 || (rv3200.1 != rv3207.1))) rfl rfl (or_t h3266)) fun a hs => ?_
    refine gm hs 20 rfl rfl rfl hC fun a hs => ?_
    have hs := hs.fix 234 (.bool true) rfl (vb h3268)
    refine gs hs 21 rfl rfl rfl rfl hC fun a hs => ?_
    refine gs hs 22 rfl rfl rfl rfl hC fun a hs => ?_
    refine gs hs 23 rfl rfl rfl rfl hC fun a hs => ?_
    refine gv hs 24 rfl rfl hC (fun w hC => y_pickTE (v := .bool ((c3240 || (rv3200.1 != rv3207.1)) || (!(rv3200.2 == rv3207.2)))) rfl rfl (or_t h3268)) fun a hs => ?_
    refine gm hs 25 rfl rfl rfl hC fun a hs => ?_
    have hs := hs.fix 239 (.bool true) rfl (vb h3270)
    refine gs hs 26 rfl rfl rfl rfl hC fun a hs => ?_
    refine gs hs 27 rfl rfl rfl rfl hC fun a hs => ?_
    refine gs hs 28 rfl rfl rfl rfl hC fun a hs => ?_
    refine gv hs 29 rfl rfl hC (fun w hC => y_pickTE (v := .bool (((c3240 || (rv3200.1 != rv3207.1)) || (!(rv3200.2 == rv3207.2))) || (rv3214.2 != rv3225.2))) rfl rfl (or_t h3270)) fun a hs => ?_
    refine gm hs 30 rfl rfl rfl hC fun a hs => ?_
    have hs := hs.fix 244 (.bool true) rfl (vb h3272)
    refine gs hs 31 rfl rfl rfl rfl hC fun a hs => ?_
    refine gs hs 32 rfl rfl rfl rfl hC fun a hs => ?_
    refine gs hs 33 rfl rfl rfl rfl hC fun a hs => ?_
    refine gs hs 34 rfl rfl rfl rfl hC fun a hs => ?_
    refine gs hs 35 rfl rfl rfl rfl hC fun a hs => ?_
    refine gv hs 36 rfl rfl hC (fun w hC => y_pickTE (v := .bool ((((c3240 || (rv3200.1 != rv3207.1)) || (!(rv3200.2 == rv3207.2))) || (rv3214.2 != rv3225.2)) || ((rv3214.1.length : Int) != (rv3225.1.length : Int)))) rfl rfl (or_t h3272)) fun a hs => ?_
    refine gm hs 37 rfl rfl rfl hC fun a hs => ?_
    have hs := hs.fix 251 (.bool true) rfl (vb h3274)
    refine gs hs 38 rfl rfl rfl rfl hC fun a hs => ?_
    refine gs hs 39 rfl rfl rfl rfl hC fun a hs => ?_
    refine gs hs 40 rfl rfl rfl rfl hC fun a hs => ?_
    refine gs hs 41 rfl rfl rfl rfl hC fun a hs => ?_
    refine gs hs 42 rfl rfl rfl rfl hC fun a hs => ?_
    refine gv hs 43 rfl rfl hC (fun w hC => y_pickTE (v := .bool c3245) rfl rfl (vbs h3275)) fun a hs => ?_
    refine h_done (by kernel_rfl) ?_
    exact ⟨Sv3230, (hs.wk rfl), (hw.ft [8, 9, 11, 1, 0] [7, 1, 0] (by decide) rfl rfl)⟩
   have h3281 := ite_f hc3240 h3264
   obtain ⟨rv3283, h3282, h3281⟩ := bind_t h3281
   rcases Bool.eq_false_or_eq_true c3240 with h3284 | h3284
   ·have h3286 : (c3240 || (rv3200.1 != rv3207.1)) = true := by rw [h3284]; rfl
    have h3288 : ((c3240 || (rv3200.1 != rv3207.1)) || (!(rv3200.2 == rv3207.2))) = true := by rw [h3286]; rfl
    have h3290 : (((c3240 || (rv3200.1 != rv3207.1)) || (!(rv3200.2 == rv3207.2))) || (rv3214.2 != rv3225.2)) = true := by rw [h3288]; rfl
    have h3292 : ((((c3240 || (rv3200.1 != rv3207.1)) || (!(rv3200.2 == rv3207.2))) || (rv3214.2 != rv3225.2)) || ((rv3214.1.length : Int) != (rv3225.1.length : Int))) = true := by rw [h3290]; rfl
    have h3293 := ite_t hc3245 h3292
    refine h_b (C := Cls [.row p3226 rv3225.1.length k3227 c3229 47 3, .row p3215 rv3214.1.length k3216 c3218 47 3, .box b3198 [.int .i64 rv3184.1.Now, .int .i64 rv3184.1.Order, .slice p3185 rv3184.1.Items.length k3186] 29, .row p3185 rv3184.1.Items.length k3186 c3188 47 3, .row p3189 rv3184.2.1.length k3190 c3192 9 1, .box b3182 [.int .i64 rv3168.1.Now, .int .i64 rv3168.1.Order, .slice p3169 rv3168.1.Items.length k3170] 29, .row p3169 rv3168.1.Items.length k3170 c3172 47 3, .row p3173 rv3168.2.1.length k3174 c3176 9 1, .box b12 [.bool f10.Drop, .int .i64 f10.Delay, .int .i64 f10.Copies] 32, .box b389 [.bool rv380.1.Drop, .int .i64 rv393.1, .int .i64 rv406.1] 32, .box b2755 [.int .i64 x2744.Now, .int .i64 x2744.Order, .slice p2751 x2744.Items.length k2753] 29, .row (some ⟨b417, 0, none⟩) ([rv50.1, (⟨x376, x377, x378⟩ : Wire), raw5] : List Wire).length ([rv50.1, (⟨x376, x377, x378⟩ : Wire), raw5] : List Wire).length [.int .i64 rv50.1.Now, .int .i64 rv50.1.Order, .slice p51 rv50.1.Items.length k52, .int .i64 x376, .int .i64 x377, .slice p371 x378.length k372, .int .i64 raw5.Now, .int .i64 raw5.Order, .slice p6 raw5.Items.length k7] 29 3, .row (some ⟨b2757, 0, none⟩) ([f10, (⟨rv380.1.Drop, rv393.1, rv406.1⟩ : Fault), (⟨true, 0, 0⟩ : Fault)] : List Fault).length ([f10, (⟨rv380.1.Drop, rv393.1, rv406.1⟩ : Fault), (⟨true, 0, 0⟩ : Fault)] : List Fault).length [.bool f10.Drop, .int .i64 f10.Delay, .int .i64 f10.Copies, .bool rv380.1.Drop, .int .i64 rv393.1, .int .i64 rv406.1, .bool true, .int .i64 0, .int .i64 0] 32 3] []) (by kernel_rfl) rfl (hw.drew.cs [0, 1, 2, 3, 4, 5, 6, 7, 8, 9, 10, 11, 12] [] rfl rfl) fun hC => ?_
    have hw := hw.drew
    refine gm hs 0 rfl rfl rfl hC fun a hs => ?_
    refine gm hs 1 rfl rfl rfl hC fun a hs => ?_
    refine gv hs 2 rfl rfl hC (fun w hC => y_neq rfl rfl) fun a hs => ?_
    refine gm hs 3 rfl rfl rfl hC fun a hs => ?_
    have hs := hs.fix 217 (.bool false) rfl (vb h3247)
    refine gt hs 4 rfl ⟨_, rfl, rfl⟩ rfl hC (fun w hC => y_loadBA (hC.ownAt 5 rfl) rfl Try.isAgg29 Try.sizeOf29 rfl rfl) fun a hs => ?_
    refine gt hs 5 rfl ⟨_, rfl, rfl⟩ rfl hC (fun w hC => y_loadBA (hC.ownAt 2 rfl) rfl Try.isAgg29 Try.sizeOf29 rfl rfl) fun a hs => ?_
    refine ho 6 rfl ?_
    refine st_callR hs (ref09_Same_ok h3262 hw.bdom (hw.bRow 6 rfl 5 rfl) (hw.bRow 3 rfl 3 rfl)) (do_call Try.call21 rfl) ⟨_, rfl, rfl⟩ rfl rfl ?_
    intro v3297 Sv3294 w a h3295 h3296 hs
    subst h3296
    have hw := hw.callB h3295
    refine h_nx (hw.cs [0, 1, 2, 3, 4, 5, 6, 7, 8, 9, 10, 11, 12] [] rfl rfl) fun hC => ?_
    refine gt hs 7 rfl ⟨_, rfl, rfl⟩ rfl hC (fun w hC => y_not rfl) fun a hs => ?_
    refine gv hs 8 rfl rfl hC (fun w hC => y_pickFE (v := .bool c3237) rfl rfl (vbs h3261)) fun a hs => ?_
    refine gm hs 9 rfl rfl rfl hC fun a hs => ?_
    have hs := hs.fix 223 (.bool false) rfl (vb h3264)
    refine gt hs 10 rfl ⟨_, rfl, rfl⟩ rfl hC (fun w hC => y_move rfl) fun a hs => ?_
    refine gt hs 11 rfl ⟨_, rfl, rfl⟩ rfl hC (fun w hC => y_move rfl) fun a hs => ?_
    refine ho 12 rfl ?_
    refine st_callR hs (law09_same_ok h3282 hw.bdom (hw.bRow 7 rfl 4 rfl) (hw.bRow 4 rfl 2 rfl)) (do_call Try.call16 rfl) ⟨_, rfl, rfl⟩ rfl rfl ?_
    intro v3302 Sv3299 w a h3300 h3301 hs
    subst h3301
    have hw := hw.callB h3300
    refine h_nx (hw.cs [0, 1, 2, 3, 4, 5, 6, 7, 8, 9, 10, 11, 12] [] rfl rfl) fun hC => ?_
    refine gt hs 13 rfl ⟨_, rfl, rfl⟩ rfl hC (fun w hC => y_not rfl) fun a hs => ?_
    refine gv hs 14 rfl rfl hC (fun w hC => y_pickFE (v := .bool c3240) rfl rfl (vbs h3281)) fun a hs => ?_
    refine gm hs 15 rfl rfl rfl hC fun a hs => ?_
    have hs := hs.fix 229 (.bool true) rfl (vb h3284)
    refine gs hs 16 rfl rfl rfl rfl hC fun a hs => ?_
    refine gs hs 17 rfl rfl rfl rfl hC fun a hs => ?_
    refine gs hs 18 rfl rfl rfl rfl hC fun a hs => ?_
    refine gv hs 19 rfl rfl hC (fun w hC => y_pickTE (v := .bool (c3240 || (rv3200.1 != rv3207.1))) rfl rfl (or_t h3284)) fun a hs => ?_
    refine gm hs 20 rfl rfl rfl hC fun a hs => ?_
    have hs := hs.fix 234 (.bool true) rfl (vb h3286)
    refine gs hs 21 rfl rfl rfl rfl hC fun a hs => ?_
    refine gs hs 22 rfl rfl rfl rfl hC fun a hs => ?_
    refine gs hs 23 rfl rfl rfl rfl hC fun a hs => ?_
    refine gv hs 24 rfl rfl hC (fun w hC => y_pickTE (v := .bool ((c3240 || (rv3200.1 != rv3207.1)) || (!(rv3200.2 == rv3207.2)))) rfl rfl (or_t h3286)) fun a hs => ?_
    refine gm hs 25 rfl rfl rfl hC fun a hs => ?_
    have hs := hs.fix 239 (.bool true) rfl (vb h3288)
    refine gs hs 26 rfl rfl rfl rfl hC fun a hs => ?_
    refine gs hs 27 rfl rfl rfl rfl hC fun a hs => ?_
    refine gs hs 28 rfl rfl rfl rfl hC fun a hs => ?_
    refine gv hs 29 rfl rfl hC (fun w hC => y_pickTE (v := .bool (((c3240 || (rv3200.1 != rv3207.1)) || (!(rv3200.2 == rv3207.2))) || (rv3214.2 != rv3225.2))) rfl rfl (or_t h3288)) fun a hs => ?_
    refine gm hs 30 rfl rfl rfl hC fun a hs => ?_
    have hs := hs.fix 244 (.bool true) rfl (vb h3290)
    refine gs hs 31 rfl rfl rfl rfl hC fun a hs => ?_
    refine gs hs 32 rfl rfl rfl rfl hC fun a hs => ?_
    refine gs hs 33 rfl rfl rfl rfl hC fun a hs => ?_
    refine gs hs 34 rfl rfl rfl rfl hC fun a hs => ?_
    refine gs hs 35 rfl rfl rfl rfl hC fun a hs => ?_
    refine gv hs 36 rfl rfl hC (fun w hC => y_pickTE (v := .bool ((((c3240 || (rv3200.1 != rv3207.1)) || (!(rv3200.2 == rv3207.2))) || (rv3214.2 != rv3225.2)) || ((rv3214.1.length : Int) != (rv3225.1.length : Int)))) rfl rfl (or_t h3290)) fun a hs => ?_
    refine gm hs 37 rfl rfl rfl hC fun a hs => ?_
    have hs := hs.fix 251 (.bool true) rfl (vb h3292)
    refine gs hs 38 rfl rfl rfl rfl hC fun a hs => ?_
    refine gs hs 39 rfl rfl rfl rfl hC fun a hs => ?_
    refine gs hs 40 rfl rfl rfl rfl hC fun a hs => ?_
    refine gs hs 41 rfl rfl rfl rfl hC fun a hs => ?_
    refine gs hs 42 rfl rfl rfl rfl hC fun a hs => ?_
    refine gv hs 43 rfl rfl hC (fun w hC => y_pickTE (v := .bool c3245) rfl rfl (vbs h3293)) fun a hs => ?_
    refine h_done (by kernel_rfl) ?_
    exact ⟨Sv3230, (hs.wk rfl), (hw.ft [8, 9, 11, 1, 0] [7, 1, 0] (by decide) rfl rfl)⟩
   rcases Bool.eq_false_or_eq_true (c3240 || (rv3200.1 != rv3207.1)) with h3305 | h3305
   ·have h3307 : ((c3240 || (rv3200.1 != rv3207.1)) || (!(rv3200.2 == rv3207.2))) = true := by rw [h3305]; rfl
    have h3309 : (((c3240 || (rv3200.1 != rv3207.1)) || (!(rv3200.2 == rv3207.2))) || (rv3214.2 != rv3225.2)) = true := by rw [h3307]; rfl
    have h3311 : ((((c3240 || (rv3200.1 != rv3207.1)) || (!(rv3200.2 == rv3207.2))) || (rv3214.2 != rv3225.2)) || ((rv3214.1.length : Int) != (rv3225.1.length : Int))) = true := by rw [h3309]; rfl
    have h3312 := ite_t hc3245 h3311
    refine h_b (C := Cls [.row p3226 rv3225.1.length k3227 c3229 47 3, .row p3215 rv3214.1.length k3216 c3218 47 3, .box b3198 [.int .i64 rv3184.1.Now, .int .i64 rv3184.1.Order, .slice p3185 rv3184.1.Items.length k3186] 29, .row p3185 rv3184.1.Items.length k3186 c3188 47 3, .row p3189 rv3184.2.1.length k3190 c3192 9 1, .box b3182 [.int .i64 rv3168.1.Now, .int .i64 rv3168.1.Order, .slice p3169 rv3168.1.Items.length k3170] 29, .row p3169 rv3168.1.Items.length k3170 c3172 47 3, .row p3173 rv3168.2.1.length k3174 c3176 9 1, .box b12 [.bool f10.Drop, .int .i64 f10.Delay, .int .i64 f10.Copies] 32, .box b389 [.bool rv380.1.Drop, .int .i64 rv393.1, .int .i64 rv406.1] 32, .box b2755 [.int .i64 x2744.Now, .int .i64 x2744.Order, .slice p2751 x2744.Items.length k2753] 29, .row (some ⟨b417, 0, none⟩) ([rv50.1, (⟨x376, x377, x378⟩ : Wire), raw5] : List Wire).length ([rv50.1, (⟨x376, x377, x378⟩ : Wire), raw5] : List Wire).length [.int .i64 rv50.1.Now, .int .i64 rv50.1.Order, .slice p51 rv50.1.Items.length k52, .int .i64 x376, .int .i64 x377, .slice p371 x378.length k372, .int .i64 raw5.Now, .int .i64 raw5.Order, .slice p6 raw5.Items.length k7] 29 3, .row (some ⟨b2757, 0, none⟩) ([f10, (⟨rv380.1.Drop, rv393.1, rv406.1⟩ : Fault), (⟨true, 0, 0⟩ : Fault)] : List Fault).length ([f10, (⟨rv380.1.Drop, rv393.1, rv406.1⟩ : Fault), (⟨true, 0, 0⟩ : Fault)] : List Fault).length [.bool f10.Drop, .int .i64 f10.Delay, .int .i64 f10.Copies, .bool rv380.1.Drop, .int .i64 rv393.1, .int .i64 rv406.1, .bool true, .int .i64 0, .int .i64 0] 32 3] []) (by kernel_rfl) rfl (hw.drew.cs [0, 1, 2, 3, 4, 5, 6, 7, 8, 9, 10, 11, 12] [] rfl rfl) fun hC => ?_
    have hw := hw.drew
    refine gm hs 0 rfl rfl rfl hC fun a hs => ?_
    refine gm hs 1 rfl rfl rfl hC fun a hs => ?_
    refine gv hs 2 rfl rfl hC (fun w hC => y_neq rfl rfl) fun a hs => ?_
    refine gm hs 3 rfl rfl rfl hC fun a hs => ?_
    have hs := hs.fix 217 (.bool false) rfl (vb h3247)
    refine gt hs 4 rfl ⟨_, rfl, rfl⟩ rfl hC (fun w hC => y_loadBA (hC.ownAt 5 rfl) rfl Try.isAgg29 Try.sizeOf29 rfl rfl) fun a hs => ?_
    refine gt hs 5 rfl ⟨_, rfl, rfl⟩ rfl hC (fun w hC => y_loadBA (hC.ownAt 2 rfl) rfl Try.isAgg29 Try.sizeOf29 rfl rfl) fun a hs => ?_
    refine ho 6 rfl ?_
    refine st_callR hs (ref09_Same_ok h3262 hw.bdom (hw.bRow 6 rfl 5 rfl) (hw.bRow 3 rfl 3 rfl)) (do_call Try.call21 rfl) ⟨_, rfl, rfl⟩ rfl rfl ?_
    intro v3316 Sv3313 w a h3314 h3315 hs
    subst h3315
    have hw := hw.callB h3314
    refine h_nx (hw.cs [0, 1, 2, 3, 4, 5, 6, 7, 8, 9, 10, 11, 12] [] rfl rfl) fun hC => ?_
    refine gt hs 7 rfl ⟨_, rfl, rfl⟩ rfl hC (fun w hC => y_not rfl) fun a hs => ?_
    refine gv hs 8 rfl rfl hC (fun w hC => y_pickFE (v := .bool c3237) rfl rfl (vbs h3261)) fun a hs => ?_
    refine gm hs 9 rfl rfl rfl hC fun a hs => ?_
    have hs := hs.fix 223 (.bool false) rfl (vb h3264)
    refine gt hs 10 rfl ⟨_, rfl, rfl⟩ rfl hC (fun w hC => y_move rfl) fun a hs => ?_
    refine gt hs 11 rfl ⟨_, rfl, rfl⟩ rfl hC (fun w hC => y_move rfl) fun a hs => ?_
    refine ho 12 rfl ?_
    refine st_callR hs (law09_same_ok h3282 hw.bdom (hw.bRow 7 rfl 4 rfl) (hw.bRow 4 rfl 2 rfl)) (do_call Try.call16 rfl) ⟨_, rfl, rfl⟩ rfl rfl ?_
    intro v3321 Sv3318 w a h3319 h3320 hs
    subst h3320
    have hw := hw.callB h3319
    refine h_nx (hw.cs [0, 1, 2, 3, 4, 5, 6, 7, 8, 9, 10, 11, 12] [] rfl rfl) fun hC => ?_
    refine gt hs 13 rfl ⟨_, rfl, rfl⟩ rfl hC (fun w hC => y_not rfl) fun a hs => ?_
    refine gv hs 14 rfl rfl hC (fun w hC => y_pickFE (v := .bool c3240) rfl rfl (vbs h3281)) fun a hs => ?_
    refine gm hs 15 rfl rfl rfl hC fun a hs => ?_
    have hs := hs.fix 229 (.bool false) rfl (vb h3284)
    refine gt hs 16 rfl ⟨_, rfl, rfl⟩ rfl hC (fun w hC => y_move rfl) fun a hs => ?_
    refine gt hs 17 rfl ⟨_, rfl, rfl⟩ rfl hC (fun w hC => y_move rfl) fun a hs => ?_
    refine gt hs 18 rfl ⟨_, rfl, rfl⟩ rfl hC (fun w hC => y_neq rfl rfl) fun a hs => ?_
    refine gv hs 19 rfl rfl hC (fun w hC => y_pickFE (v := .bool (c3240 || (rv3200.1 != rv3207.1))) rfl rfl (or_f h3284)) fun a hs => ?_
    refine gm hs 20 rfl rfl rfl hC fun a hs => ?_
    have hs := hs.fix 234 (.bool true) rfl (vb h3305)
    refine gs hs 21 rfl rfl rfl rfl hC fun a hs => ?_
    refine gs hs 22 rfl rfl rfl rfl hC fun a hs => ?_
    refine gs hs 23 rfl rfl rfl rfl hC fun a hs => ?_
    refine gv hs 24 rfl rfl hC (fun w hC => y_pickTE (v := .bool ((c3240 || (rv3200.1 != rv3207.1)) || (!(rv3200.2 == rv3207.2)))) rfl rfl (or_t h3305)) fun a hs => ?_
    refine gm hs 25 rfl rfl rfl hC fun a hs => ?_
    have hs := hs.fix 239 (.bool true) rfl (vb h3307)
    refine gs hs 26 rfl rfl rfl rfl hC fun a hs => ?_
    refine gs hs 27 rfl rfl rfl rfl hC fun a hs => ?_
    refine gs hs 28 rfl rfl rfl rfl hC fun a hs => ?_
    refine gv hs 29 rfl rfl hC (fun w hC => y_pickTE (v := .bool (((c3240 || (rv3200.1 != rv3207.1)) || (!(rv3200.2 == rv3207.2))) || (rv3214.2 != rv3225.2))) rfl rfl (or_t h3307)) fun a hs => ?_
    refine gm hs 30 rfl rfl rfl hC fun a hs => ?_
    have hs := hs.fix 244 (.bool true) rfl (vb h3309)
    refine gs hs 31 rfl rfl rfl rfl hC fun a hs => ?_
    refine gs hs 32 rfl rfl rfl rfl hC fun a hs => ?_
    refine gs hs 33 rfl rfl rfl rfl hC fun a hs => ?_
    refine gs hs 34 rfl rfl rfl rfl hC fun a hs => ?_
    refine gs hs 35 rfl rfl rfl rfl hC fun a hs => ?_
    refine gv hs 36 rfl rfl hC (fun w hC => y_pickTE (v := .bool ((((c3240 || (rv3200.1 != rv3207.1)) || (!(rv3200.2 == rv3207.2))) || (rv3214.2 != rv3225.2)) || ((rv3214.1.length : Int) != (rv3225.1.length : Int)))) rfl rfl (or_t h3309)) fun a hs => ?_
    refine gm hs 37 rfl rfl rfl hC fun a hs => ?_
    have hs := hs.fix 251 (.bool true) rfl (vb h3311)
    refine gs hs 38 rfl rfl rfl rfl hC fun a hs => ?_
    refine gs hs 39 rfl rfl rfl rfl hC fun a hs => ?_
    refine gs hs 40 rfl rfl rfl rfl hC fun a hs => ?_
    refine gs hs 41 rfl rfl rfl rfl hC fun a hs => ?_
    refine gs hs 42 rfl rfl rfl rfl hC fun a hs => ?_
    refine gv hs 43 rfl rfl hC (fun w hC => y_pickTE (v := .bool c3245) rfl rfl (vbs h3312)) fun a hs => ?_
    refine h_done (by kernel_rfl) ?_
    exact ⟨Sv3230, (hs.wk rfl), (hw.ft [8, 9, 11, 1, 0] [7, 1, 0] (by decide) rfl rfl)⟩
   rcases Bool.eq_false_or_eq_true ((c3240 || (rv3200.1 != rv3207.1)) || (!(rv3200.2 == rv3207.2))) with h3324 | h3324
   ·have h3326 : (((c3240 || (rv3200.1 != rv3207.1)) || (!(rv3200.2 == rv3207.2))) || (rv3214.2 != rv3225.2)) = true := by rw [h3324]; rfl
    have h3328 : ((((c3240 || (rv3200.1 != rv3207.1)) || (!(rv3200.2 == rv3207.2))) || (rv3214.2 != rv3225.2)) || ((rv3214.1.length : Int) != (rv3225.1.length : Int))) = true := by rw [h3326]; rfl
    have h3329 := ite_t hc3245 h3328
    refine h_b (C := Cls [.row p3226 rv3225.1.length k3227 c3229 47 3, .row p3215 rv3214.1.length k3216 c3218 47 3, .box b3198 [.int .i64 rv3184.1.Now, .int .i64 rv3184.1.Order, .slice p3185 rv3184.1.Items.length k3186] 29, .row p3185 rv3184.1.Items.length k3186 c3188 47 3, .row p3189 rv3184.2.1.length k3190 c3192 9 1, .box b3182 [.int .i64 rv3168.1.Now, .int .i64 rv3168.1.Order, .slice p3169 rv3168.1.Items.length k3170] 29, .row p3169 rv3168.1.Items.length k3170 c3172 47 3, .row p3173 rv3168.2.1.length k3174 c3176 9 1, .box b12 [.bool f10.Drop, .int .i64 f10.Delay, .int .i64 f10.Copies] 32, .box b389 [.bool rv380.1.Drop, .int .i64 rv393.1, .int .i64 rv406.1] 32, .box b2755 [.int .i64 x2744.Now, .int .i64 x2744.Order, .slice p2751 x2744.Items.length k2753] 29, .row (some ⟨b417, 0, none⟩) ([rv50.1, (⟨x376, x377, x378⟩ : Wire), raw5] : List Wire).length ([rv50.1, (⟨x376, x377, x378⟩ : Wire), raw5] : List Wire).length [.int .i64 rv50.1.Now, .int .i64 rv50.1.Order, .slice p51 rv50.1.Items.length k52, .int .i64 x376, .int .i64 x377, .slice p371 x378.length k372, .int .i64 raw5.Now, .int .i64 raw5.Order, .slice p6 raw5.Items.length k7] 29 3, .row (some ⟨b2757, 0, none⟩) ([f10, (⟨rv380.1.Drop, rv393.1, rv406.1⟩ : Fault), (⟨true, 0, 0⟩ : Fault)] : List Fault).length ([f10, (⟨rv380.1.Drop, rv393.1, rv406.1⟩ : Fault), (⟨true, 0, 0⟩ : Fault)] : List Fault).length [.bool f10.Drop, .int .i64 f10.Delay, .int .i64 f10.Copies, .bool rv380.1.Drop, .int .i64 rv393.1, .int .i64 rv406.1, .bool true, .int .i64 0, .int .i64 0] 32 3] []) (by kernel_rfl) rfl (hw.drew.cs [0, 1, 2, 3, 4, 5, 6, 7, 8, 9, 10, 11, 12] [] rfl rfl) fun hC => ?_
    have hw := hw.drew
    refine gm hs 0 rfl rfl rfl hC fun a hs => ?_
    refine gm hs 1 rfl rfl rfl hC fun a hs => ?_
    refine gv hs 2 rfl rfl hC (fun w hC => y_neq rfl rfl) fun a hs => ?_
    refine gm hs 3 rfl rfl rfl hC fun a hs => ?_
    have hs := hs.fix 217 (.bool false) rfl (vb h3247)
    refine gt hs 4 rfl ⟨_, rfl, rfl⟩ rfl hC (fun w hC => y_loadBA (hC.ownAt 5 rfl) rfl Try.isAgg29 Try.sizeOf29 rfl rfl) fun a hs => ?_
    refine gt hs 5 rfl ⟨_, rfl, rfl⟩ rfl hC (fun w hC => y_loadBA (hC.ownAt 2 rfl) rfl Try.isAgg29 Try.sizeOf29 rfl rfl) fun a hs => ?_
    refine ho 6 rfl ?_
    refine st_callR hs (ref09_Same_ok h3262 hw.bdom (hw.bRow 6 rfl 5 rfl) (hw.bRow 3 rfl 3 rfl)) (do_call Try.call21 rfl) ⟨_, rfl, rfl⟩ rfl rfl ?_
    intro v3333 Sv3330 w a h3331 h3332 hs
    subst h3332
    have hw := hw.callB h3331
    refine h_nx (hw.cs [0, 1, 2, 3, 4, 5, 6, 7, 8, 9, 10, 11, 12] [] rfl rfl) fun hC => ?_
    refine gt hs 7 rfl ⟨_, rfl, rfl⟩ rfl hC (fun w hC => y_not rfl) fun a hs => ?_
    refine gv hs 8 rfl rfl hC (fun w hC => y_pickFE (v := .bool c3237) rfl rfl (vbs h3261)) fun a hs => ?_
    refine gm hs 9 rfl rfl rfl hC fun a hs => ?_
    have hs := hs.fix 223 (.bool false) rfl (vb h3264)
    refine gt hs 10 rfl ⟨_, rfl, rfl⟩ rfl hC (fun w hC => y_move rfl) fun a hs => ?_
    refine gt hs 11 rfl ⟨_, rfl, rfl⟩ rfl hC (fun w hC => y_move rfl) fun a hs => ?_
    refine ho 12 rfl ?_
    refine st_callR hs (law09_same_ok h3282 hw.bdom (hw.bRow 7 rfl 4 rfl) (hw.bRow 4 rfl 2 rfl)) (do_call Try.call16 rfl) ⟨_, rfl, rfl⟩ rfl rfl ?_
    intro v3338 Sv3335 w a h3336 h3337 hs
    subst h3337
    have hw := hw.callB h3336
    refine h_nx (hw.cs [0, 1, 2, 3, 4, 5, 6, 7, 8, 9, 10, 11, 12] [] rfl rfl) fun hC => ?_
    refine gt hs 13 rfl ⟨_, rfl, rfl⟩ rfl hC (fun w hC => y_not rfl) fun a hs => ?_
    refine gv hs 14 rfl rfl hC (fun w hC => y_pickFE (v := .bool c3240) rfl rfl (vbs h3281)) fun a hs => ?_
    refine gm hs 15 rfl rfl rfl hC fun a hs => ?_
    have hs := hs.fix 229 (.bool false) rfl (vb h3284)
    refine gt hs 16 rfl ⟨_, rfl, rfl⟩ rfl hC (fun w hC => y_move rfl) fun a hs => ?_
    refine gt hs 17 rfl ⟨_, rfl, rfl⟩ rfl hC (fun w hC => y_move rfl) fun a hs => ?_
    refine gt hs 18 rfl ⟨_, rfl, rfl⟩ rfl hC (fun w hC => y_neq rfl rfl) fun a hs => ?_
    refine gv hs 19 rfl rfl hC (fun w hC => y_pickFE (v := .bool (c3240 || (rv3200.1 != rv3207.1))) rfl rfl (or_f h3284)) fun a hs => ?_
    refine gm hs 20 rfl rfl rfl hC fun a hs => ?_
    have hs := hs.fix 234 (.bool false) rfl (vb h3305)
    refine gt hs 21 rfl ⟨_, rfl, rfl⟩ rfl hC (fun w hC => y_move rfl) fun a hs => ?_
    refine gt hs 22 rfl ⟨_, rfl, rfl⟩ rfl hC (fun w hC => y_move rfl) fun a hs => ?_
    refine gt hs 23 rfl ⟨_, rfl, rfl⟩ rfl hC (fun w hC => y_neqB Try.runUnderlying4 rfl rfl) fun a hs => ?_
    refine gv hs 24 rfl rfl hC (fun w hC => y_pickFE (v := .bool ((c3240 || (rv3200.1 != rv3207.1)) || (!(rv3200.2 == rv3207.2)))) rfl rfl (or_f h3305)) fun a hs => ?_
    refine gm hs 25 rfl rfl rfl hC fun a hs => ?_
    have hs := hs.fix 239 (.bool true) rfl (vb h3324)
    refine gs hs 26 rfl rfl rfl rfl hC fun a hs => ?_
    refine gs hs 27 rfl rfl rfl rfl hC fun a hs => ?_
    refine gs hs 28 rfl rfl rfl rfl hC fun a hs => ?_
    refine gv hs 29 rfl rfl hC (fun w hC => y_pickTE (v := .bool (((c3240 || (rv3200.1 != rv3207.1)) || (!(rv3200.2 == rv3207.2))) || (rv3214.2 != rv3225.2))) rfl rfl (or_t h3324)) fun a hs => ?_
    refine gm hs 30 rfl rfl rfl hC fun a hs => ?_
    have hs := hs.fix 244 (.bool true) rfl (vb h3326)
    refine gs hs 31 rfl rfl rfl rfl hC fun a hs => ?_
    refine gs hs 32 rfl rfl rfl rfl hC fun a hs => ?_
    refine gs hs 33 rfl rfl rfl rfl hC fun a hs => ?_
    refine gs hs 34 rfl rfl rfl rfl hC fun a hs => ?_
    refine gs hs 35 rfl rfl rfl rfl hC fun a hs => ?_
    refine gv hs 36 rfl rfl hC (fun w hC => y_pickTE (v := .bool ((((c3240 || (rv3200.1 != rv3207.1)) || (!(rv3200.2 == rv3207.2))) || (rv3214.2 != rv3225.2)) || ((rv3214.1.length : Int) != (rv3225.1.length : Int)))) rfl rfl (or_t h3326)) fun a hs => ?_
    refine gm hs 37 rfl rfl rfl hC fun a hs => ?_
    have hs := hs.fix 251 (.bool true) rfl (vb h3328)
    refine gs hs 38 rfl rfl rfl rfl hC fun a hs => ?_
    refine gs hs 39 rfl rfl rfl rfl hC fun a hs => ?_
    refine gs hs 40 rfl rfl rfl rfl hC fun a hs => ?_
    refine gs hs 41 rfl rfl rfl rfl hC fun a hs => ?_
    refine gs hs 42 rfl rfl rfl rfl hC fun a hs => ?_
    refine gv hs 43 rfl rfl hC (fun w hC => y_pickTE (v := .bool c3245) rfl rfl (vbs h3329)) fun a hs => ?_
    refine h_done (by kernel_rfl) ?_
    exact ⟨Sv3230, (hs.wk rfl), (hw.ft [8, 9, 11, 1, 0] [7, 1, 0] (by decide) rfl rfl)⟩
   rcases Bool.eq_false_or_eq_true (((c3240 || (rv3200.1 != rv3207.1)) || (!(rv3200.2 == rv3207.2))) || (rv3214.2 != rv3225.2)) with h3341 | h3341
   ·have h3343 : ((((c3240 || (rv3200.1 != rv3207.1)) || (!(rv3200.2 == rv3207.2))) || (rv3214.2 != rv3225.2)) || ((rv3214.1.length : Int) != (rv3225.1.length : Int))) = true := by rw [h3341]; rfl
    have h3344 := ite_t hc3245 h3343
    refine h_b (C := Cls [.row p3226 rv3225.1.length k3227 c3229 47 3, .row p3215 rv3214.1.length k3216 c3218 47 3, .box b3198 [.int .i64 rv3184.1.Now, .int .i64 rv3184.1.Order, .slice p3185 rv3184.1.Items.length k3186] 29, .row p3185 rv3184.1.Items.length k3186 c3188 47 3, .row p3189 rv3184.2.1.length k3190 c3192 9 1, .box b3182 [.int .i64 rv3168.1.Now, .int .i64 rv3168.1.Order, .slice p3169 rv3168.1.Items.length k3170] 29, .row p3169 rv3168.1.Items.length k3170 c3172 47 3, .row p3173 rv3168.2.1.length k3174 c3176 9 1, .box b12 [.bool f10.Drop, .int .i64 f10.Delay, .int .i64 f10.Copies] 32, .box b389 [.bool rv380.1.Drop, .int .i64 rv393.1, .int .i64 rv406.1] 32, .box b2755 [.int .i64 x2744.Now, .int .i64 x2744.Order, .slice p2751 x2744.Items.length k2753] 29, .row (some ⟨b417, 0, none⟩) ([rv50.1, (⟨x376, x377, x378⟩ : Wire), raw5] : List Wire).length ([rv50.1, (⟨x376, x377, x378⟩ : Wire), raw5] : List Wire).length [.int .i64 rv50.1.Now, .int .i64 rv50.1.Order, .slice p51 rv50.1.Items.length k52, .int .i64 x376, .int .i64 x377, .slice p371 x378.length k372, .int .i64 raw5.Now, .int .i64 raw5.Order, .slice p6 raw5.Items.length k7] 29 3, .row (some ⟨b2757, 0, none⟩) ([f10, (⟨rv380.1.Drop, rv393.1, rv406.1⟩ : Fault), (⟨true, 0, 0⟩ : Fault)] : List Fault).length ([f10, (⟨rv380.1.Drop, rv393.1, rv406.1⟩ : Fault), (⟨true, 0, 0⟩ : Fault)] : List Fault).length [.bool f10.Drop, .int .i64 f10.Delay, .int .i64 f10.Copies, .bool rv380.1.Drop, .int .i64 rv393.1, .int .i64 rv406.1, .bool true, .int .i64 0, .int .i64 0] 32 3] []) (by kernel_rfl) rfl (hw.drew.cs [0, 1, 2, 3, 4, 5, 6, 7, 8, 9, 10, 11, 12] [] rfl rfl) fun hC => ?_
    have hw := hw.drew
    refine gm hs 0 rfl rfl rfl hC fun a hs => ?_
    refine gm hs 1 rfl rfl rfl hC fun a hs => ?_
    refine gv hs 2 rfl rfl hC (fun w hC => y_neq rfl rfl) fun a hs => ?_
    refine gm hs 3 rfl rfl rfl hC fun a hs => ?_
    have hs := hs.fix 217 (.bool false) rfl (vb h3247)
    refine gt hs 4 rfl ⟨_, rfl, rfl⟩ rfl hC (fun w hC => y_loadBA (hC.ownAt 5 rfl) rfl Try.isAgg29 Try.sizeOf29 rfl rfl) fun a hs => ?_
    refine gt hs 5 rfl ⟨_, rfl, rfl⟩ rfl hC (fun w hC => y_loadBA (hC.ownAt 2 rfl) rfl Try.isAgg29 Try.sizeOf29 rfl rfl) fun a hs => ?_
    refine ho 6 rfl ?_
    refine st_callR hs (ref09_Same_ok h3262 hw.bdom (hw.bRow 6 rfl 5 rfl) (hw.bRow 3 rfl 3 rfl)) (do_call Try.call21 rfl) ⟨_, rfl, rfl⟩ rfl rfl ?_
    intro v3348 Sv3345 w a h3346 h3347 hs
    subst h3347
    have hw := hw.callB h3346
    refine h_nx (hw.cs [0, 1, 2, 3, 4, 5, 6, 7, 8, 9, 10, 11, 12] [] rfl rfl) fun hC => ?_
    refine gt hs 7 rfl ⟨_, rfl, rfl⟩ rfl hC (fun w hC => y_not rfl) fun a hs => ?_
    refine gv hs 8 rfl rfl hC (fun w hC => y_pickFE (v := .bool c3237) rfl rfl (vbs h3261)) fun a hs => ?_
    refine gm hs 9 rfl rfl rfl hC fun a hs => ?_
    have hs := hs.fix 223 (.bool false) rfl (vb h3264)
    refine gt hs 10 rfl ⟨_, rfl, rfl⟩ rfl hC (fun w hC => y_move rfl) fun a hs => ?_
    refine gt hs 11 rfl ⟨_, rfl, rfl⟩ rfl hC (fun w hC => y_move rfl) fun a hs => ?_
    refine ho 12 rfl ?_
    refine st_callR hs (law09_same_ok h3282 hw.bdom (hw.bRow 7 rfl 4 rfl) (hw.bRow 4 rfl 2 rfl)) (do_call Try.call16 rfl) ⟨_, rfl, rfl⟩ rfl rfl ?_
    intro v3353 Sv3350 w a h3351 h3352 hs
    subst h3352
    have hw := hw.callB h3351
    refine h_nx (hw.cs [0, 1, 2, 3, 4, 5, 6, 7, 8, 9, 10, 11, 12] [] rfl rfl) fun hC => ?_
    refine gt hs 13 rfl ⟨_, rfl, rfl⟩ rfl hC (fun w hC => y_not rfl) fun a hs => ?_
    refine gv hs 14 rfl rfl hC (fun w hC => y_pickFE (v := .bool c3240) rfl rfl (vbs h3281)) fun a hs => ?_
    refine gm hs 15 rfl rfl rfl hC fun a hs => ?_
    have hs := hs.fix 229 (.bool false) rfl (vb h3284)
    refine gt hs 16 rfl ⟨_, rfl, rfl⟩ rfl hC (fun w hC => y_move rfl) fun a hs => ?_
    refine gt hs 17 rfl ⟨_, rfl, rfl⟩ rfl hC (fun w hC => y_move rfl) fun a hs => ?_
    refine gt hs 18 rfl ⟨_, rfl, rfl⟩ rfl hC (fun w hC => y_neq rfl rfl) fun a hs => ?_
    refine gv hs 19 rfl rfl hC (fun w hC => y_pickFE (v := .bool (c3240 || (rv3200.1 != rv3207.1))) rfl rfl (or_f h3284)) fun a hs => ?_
    refine gm hs 20 rfl rfl rfl hC fun a hs => ?_
    have hs := hs.fix 234 (.bool false) rfl (vb h3305)
    refine gt hs 21 rfl ⟨_, rfl, rfl⟩ rfl hC (fun w hC => y_move rfl) fun a hs => ?_
    refine gt hs 22 rfl ⟨_, rfl, rfl⟩ rfl hC (fun w hC => y_move rfl) fun a hs => ?_
    refine gt hs 23 rfl ⟨_, rfl, rfl⟩ rfl hC (fun w hC => y_neqB Try.runUnderlying4 rfl rfl) fun a hs => ?_
    refine gv hs 24 rfl rfl hC (fun w hC => y_pickFE (v := .bool ((c3240 || (rv3200.1 != rv3207.1)) || (!(rv3200.2 == rv3207.2)))) rfl rfl (or_f h3305)) fun a hs => ?_
    refine gm hs 25 rfl rfl rfl hC fun a hs => ?_
    have hs := hs.fix 239 (.bool false) rfl (vb h3324)
    refine gt hs 26 rfl ⟨_, rfl, rfl⟩ rfl hC (fun w hC => y_move rfl) fun a hs => ?_
    refine gt hs 27 rfl ⟨_, rfl, rfl⟩ rfl hC (fun w hC => y_move rfl) fun a hs => ?_
    refine gt hs 28 rfl ⟨_, rfl, rfl⟩ rfl hC (fun w hC => y_neq rfl rfl) fun a hs => ?_
    refine gv hs 29 rfl rfl hC (fun w hC => y_pickFE (v := .bool (((c3240 || (rv3200.1 != rv3207.1)) || (!(rv3200.2 == rv3207.2))) || (rv3214.2 != rv3225.2))) rfl rfl (or_f h3324)) fun a hs => ?_
    refine gm hs 30 rfl rfl rfl hC fun a hs => ?_
    have hs := hs.fix 244 (.bool true) rfl (vb h3341)
    refine gs hs 31 rfl rfl rfl rfl hC fun a hs => ?_
    refine gs hs 32 rfl rfl rfl rfl hC fun a hs => ?_
    refine gs hs 33 rfl rfl rfl rfl hC fun a hs => ?_
    refine gs hs 34 rfl rfl rfl rfl hC fun a hs => ?_
    refine gs hs 35 rfl rfl rfl rfl hC fun a hs => ?_
    refine gv hs 36 rfl rfl hC (fun w hC => y_pickTE (v := .bool ((((c3240 || (rv3200.1 != rv3207.1)) || (!(rv3200.2 == rv3207.2))) || (rv3214.2 != rv3225.2)) || ((rv3214.1.length : Int) != (rv3225.1.length : Int)))) rfl rfl (or_t h3341)) fun a hs => ?_
    refine gm hs 37 rfl rfl rfl hC fun a hs => ?_
    have hs := hs.fix 251 (.bool true) rfl (vb h3343)
    refine gs hs 38 rfl rfl rfl rfl hC fun a hs => ?_
    refine gs hs 39 rfl rfl rfl rfl hC fun a hs => ?_
    refine gs hs 40 rfl rfl rfl rfl hC fun a hs => ?_
    refine gs hs 41 rfl rfl rfl rfl hC fun a hs => ?_
    refine gs hs 42 rfl rfl rfl rfl hC fun a hs => ?_
    refine gv hs 43 rfl rfl hC (fun w hC => y_pickTE (v := .bool c3245) rfl rfl (vbs h3344)) fun a hs => ?_
    refine h_done (by kernel_rfl) ?_
    exact ⟨Sv3230, (hs.wk rfl), (hw.ft [8, 9, 11, 1, 0] [7, 1, 0] (by decide) rfl rfl)⟩
   rcases Bool.eq_false_or_eq_true ((((c3240 || (rv3200.1 != rv3207.1)) || (!(rv3200.2 == rv3207.2))) || (rv3214.2 != rv3225.2)) || ((rv3214.1.length : Int) != (rv3225.1.length : Int))) with h3356 | h3356
   ·have h3357 := ite_t hc3245 h3356
    refine h_b (C := Cls [.row p3226 rv3225.1.length k3227 c3229 47 3, .row p3215 rv3214.1.length k3216 c3218 47 3, .box b3198 [.int .i64 rv3184.1.Now, .int .i64 rv3184.1.Order, .slice p3185 rv3184.1.Items.length k3186] 29, .row p3185 rv3184.1.Items.length k3186 c3188 47 3, .row p3189 rv3184.2.1.length k3190 c3192 9 1, .box b3182 [.int .i64 rv3168.1.Now, .int .i64 rv3168.1.Order, .slice p3169 rv3168.1.Items.length k3170] 29, .row p3169 rv3168.1.Items.length k3170 c3172 47 3, .row p3173 rv3168.2.1.length k3174 c3176 9 1, .box b12 [.bool f10.Drop, .int .i64 f10.Delay, .int .i64 f10.Copies] 32, .box b389 [.bool rv380.1.Drop, .int .i64 rv393.1, .int .i64 rv406.1] 32, .box b2755 [.int .i64 x2744.Now, .int .i64 x2744.Order, .slice p2751 x2744.Items.length k2753] 29, .row (some ⟨b417, 0, none⟩) ([rv50.1, (⟨x376, x377, x378⟩ : Wire), raw5] : List Wire).length ([rv50.1, (⟨x376, x377, x378⟩ : Wire), raw5] : List Wire).length [.int .i64 rv50.1.Now, .int .i64 rv50.1.Order, .slice p51 rv50.1.Items.length k52, .int .i64 x376, .int .i64 x377, .slice p371 x378.length k372, .int .i64 raw5.Now, .int .i64 raw5.Order, .slice p6 raw5.Items.length k7] 29 3, .row (some ⟨b2757, 0, none⟩) ([f10, (⟨rv380.1.Drop, rv393.1, rv406.1⟩ : Fault), (⟨true, 0, 0⟩ : Fault)] : List Fault).length ([f10, (⟨rv380.1.Drop, rv393.1, rv406.1⟩ : Fault), (⟨true, 0, 0⟩ : Fault)] : List Fault).length [.bool f10.Drop, .int .i64 f10.Delay, .int .i64 f10.Copies, .bool rv380.1.Drop, .int .i64 rv393.1, .int .i64 rv406.1, .bool true, .int .i64 0, .int .i64 0] 32 3] []) (by kernel_rfl) rfl (hw.drew.cs [0, 1, 2, 3, 4, 5, 6, 7, 8, 9, 10, 11, 12] [] rfl rfl) fun hC => ?_
    have hw := hw.drew
    refine gm hs 0 rfl rfl rfl hC fun a hs => ?_
    refine gm hs 1 rfl rfl rfl hC fun a hs => ?_
    refine gv hs 2 rfl rfl hC (fun w hC => y_neq rfl rfl) fun a hs => ?_
    refine gm hs 3 rfl rfl rfl hC fun a hs => ?_
    have hs := hs.fix 217 (.bool false) rfl (vb h3247)
    refine gt hs 4 rfl ⟨_, rfl, rfl⟩ rfl hC (fun w hC => y_loadBA (hC.ownAt 5 rfl) rfl Try.isAgg29 Try.sizeOf29 rfl rfl) fun a hs => ?_
    refine gt hs 5 rfl ⟨_, rfl, rfl⟩ rfl hC (fun w hC => y_loadBA (hC.ownAt 2 rfl) rfl Try.isAgg29 Try.sizeOf29 rfl rfl) fun a hs => ?_
    refine ho 6 rfl ?_
    refine st_callR hs (ref09_Same_ok h3262 hw.bdom (hw.bRow 6 rfl 5 rfl) (hw.bRow 3 rfl 3 rfl)) (do_call Try.call21 rfl) ⟨_, rfl, rfl⟩ rfl rfl ?_
    intro v3361 Sv3358 w a h3359 h3360 hs
    subst h3360
    have hw := hw.callB h3359
    refine h_nx (hw.cs [0, 1, 2, 3, 4, 5, 6, 7, 8, 9, 10, 11, 12] [] rfl rfl) fun hC => ?_
    refine gt hs 7 rfl ⟨_, rfl, rfl⟩ rfl hC (fun w hC => y_not rfl) fun a hs => ?_
    refine gv hs 8 rfl rfl hC (fun w hC => y_pickFE (v := .bool c3237) rfl rfl (vbs h3261)) fun a hs => ?_
    refine gm hs 9 rfl rfl rfl hC fun a hs => ?_
    have hs := hs.fix 223 (.bool false) rfl (vb h3264)
    refine gt hs 10 rfl ⟨_, rfl, rfl⟩ rfl hC (fun w hC => y_move rfl) fun a hs => ?_
    refine gt hs 11 rfl ⟨_, rfl, rfl⟩ rfl hC (fun w hC => y_move rfl) fun a hs => ?_
    refine ho 12 rfl ?_
    refine st_callR hs (law09_same_ok h3282 hw.bdom (hw.bRow 7 rfl 4 rfl) (hw.bRow 4 rfl 2 rfl)) (do_call Try.call16 rfl) ⟨_, rfl, rfl⟩ rfl rfl ?_
    intro v3366 Sv3363 w a h3364 h3365 hs
    subst h3365
    have hw := hw.callB h3364
    refine h_nx (hw.cs [0, 1, 2, 3, 4, 5, 6, 7, 8, 9, 10, 11, 12] [] rfl rfl) fun hC => ?_
    refine gt hs 13 rfl ⟨_, rfl, rfl⟩ rfl hC (fun w hC => y_not rfl) fun a hs => ?_
    refine gv hs 14 rfl rfl hC (fun w hC => y_pickFE (v := .bool c3240) rfl rfl (vbs h3281)) fun a hs => ?_
    refine gm hs 15 rfl rfl rfl hC fun a hs => ?_
    have hs := hs.fix 229 (.bool false) rfl (vb h3284)
    refine gt hs 16 rfl ⟨_, rfl, rfl⟩ rfl hC (fun w hC => y_move rfl) fun a hs => ?_
    refine gt hs 17 rfl ⟨_, rfl, rfl⟩ rfl hC (fun w hC => y_move rfl) fun a hs => ?_
    refine gt hs 18 rfl ⟨_, rfl, rfl⟩ rfl hC (fun w hC => y_neq rfl rfl) fun a hs => ?_
    refine gv hs 19 rfl rfl hC (fun w hC => y_pickFE (v := .bool (c3240 || (rv3200.1 != rv3207.1))) rfl rfl (or_f h3284)) fun a hs => ?_
    refine gm hs 20 rfl rfl rfl hC fun a hs => ?_
    have hs := hs.fix 234 (.bool false) rfl (vb h3305)
    refine gt hs 21 rfl ⟨_, rfl, rfl⟩ rfl hC (fun w hC => y_move rfl) fun a hs => ?_
    refine gt hs 22 rfl ⟨_, rfl, rfl⟩ rfl hC (fun w hC => y_move rfl) fun a hs => ?_
    refine gt hs 23 rfl ⟨_, rfl, rfl⟩ rfl hC (fun w hC => y_neqB Try.runUnderlying4 rfl rfl) fun a hs => ?_
    refine gv hs 24 rfl rfl hC (fun w hC => y_pickFE (v := .bool ((c3240 || (rv3200.1 != rv3207.1)) || (!(rv3200.2 == rv3207.2)))) rfl rfl (or_f h3305)) fun a hs => ?_
    refine gm hs 25 rfl rfl rfl hC fun a hs => ?_
    have hs := hs.fix 239 (.bool false) rfl (vb h3324)
    refine gt hs 26 rfl ⟨_, rfl, rfl⟩ rfl hC (fun w hC => y_move rfl) fun a hs => ?_
    refine gt hs 27 rfl ⟨_, rfl, rfl⟩ rfl hC (fun w hC => y_move rfl) fun a hs => ?_
    refine gt hs 28 rfl ⟨_, rfl, rfl⟩ rfl hC (fun w hC => y_neq rfl rfl) fun a hs => ?_
    refine gv hs 29 rfl rfl hC (fun w hC => y_pickFE (v := .bool (((c3240 || (rv3200.1 != rv3207.1)) || (!(rv3200.2 == rv3207.2))) || (rv3214.2 != rv3225.2))) rfl rfl (or_f h3324)) fun a hs => ?_
    refine gm hs 30 rfl rfl rfl hC fun a hs => ?_
    have hs := hs.fix 244 (.bool false) rfl (vb h3341)
    refine gt hs 31 rfl ⟨_, rfl, rfl⟩ rfl hC (fun w hC => y_move rfl) fun a hs => ?_
    refine gt hs 32 rfl ⟨_, rfl, rfl⟩ rfl hC (fun w hC => y_len Try.runUnderlying27 rfl) fun a hs => ?_
    refine gt hs 33 rfl ⟨_, rfl, rfl⟩ rfl hC (fun w hC => y_move rfl) fun a hs => ?_
    refine gt hs 34 rfl ⟨_, rfl, rfl⟩ rfl hC (fun w hC => y_len Try.runUnderlying27 rfl) fun a hs => ?_
    refine gt hs 35 rfl ⟨_, rfl, rfl⟩ rfl hC (fun w hC => y_neq rfl rfl) fun a hs => ?_
    refine gv hs 36 rfl rfl hC (fun w hC => y_pickFE (v := .bool ((((c3240 || (rv3200.1 != rv3207.1)) || (!(rv3200.2 == rv3207.2))) || (rv3214.2 != rv3225.2)) || ((rv3214.1.length : Int) != (rv3225.1.length : Int)))) rfl rfl (or_f h3341)) fun a hs => ?_
    refine gm hs 37 rfl rfl rfl hC fun a hs => ?_
    have hs := hs.fix 251 (.bool true) rfl (vb h3356)
    refine gs hs 38 rfl rfl rfl rfl hC fun a hs => ?_
    refine gs hs 39 rfl rfl rfl rfl hC fun a hs => ?_
    refine gs hs 40 rfl rfl rfl rfl hC fun a hs => ?_
    refine gs hs 41 rfl rfl rfl rfl hC fun a hs => ?_
    refine gs hs 42 rfl rfl rfl rfl hC fun a hs => ?_
    refine gv hs 43 rfl rfl hC (fun w hC => y_pickTE (v := .bool c3245) rfl rfl (vbs h3357)) fun a hs => ?_
    refine h_done (by kernel_rfl) ?_
    exact ⟨Sv3230, (hs.wk rfl), (hw.ft [8, 9, 11, 1, 0] [7, 1, 0] (by decide) rfl rfl)⟩
   have h3368 := ite_f hc3245 h3356
   obtain ⟨rv3370, h3369, h3368⟩ := bind_t h3368
   obtain ⟨rv3372, h3371, h3368⟩ := bind_t h3368
   refine h_b (C := Cls [.row p3226 rv3225.1.length k3227 c3229 47 3, .row p3215 rv3214.1.length k3216 c3218 47 3, .box b3198 [.int .i64 rv3184.1.Now, .int .i64 rv3184.1.Order, .slice p3185 rv3184.1.Items.length k3186] 29, .row p3185 rv3184.1.Items.length k3186 c3188 47 3, .row p3189 rv3184.2.1.length k3190 c3192 9 1, .box b3182 [.int .i64 rv3168.1.Now, .int .i64 rv3168.1.Order, .slice p3169 rv3168.1.Items.length k3170] 29, .row p3169 rv3168.1.Items.length k3170 c3172 47 3, .row p3173 rv3168.2.1.length k3174 c3176 9 1, .box b12 [.bool f10.Drop, .int .i64 f10.Delay, .int .i64 f10.Copies] 32, .box b389 [.bool rv380.1.Drop, .int .i64 rv393.1, .int .i64 rv406.1] 32, .box b2755 [.int .i64 x2744.Now, .int .i64 x2744.Order, .slice p2751 x2744.Items.length k2753] 29, .row (some ⟨b417, 0, none⟩) ([rv50.1, (⟨x376, x377, x378⟩ : Wire), raw5] : List Wire).length ([rv50.1, (⟨x376, x377, x378⟩ : Wire), raw5] : List Wire).length [.int .i64 rv50.1.Now, .int .i64 rv50.1.Order, .slice p51 rv50.1.Items.length k52, .int .i64 x376, .int .i64 x377, .slice p371 x378.length k372, .int .i64 raw5.Now, .int .i64 raw5.Order, .slice p6 raw5.Items.length k7] 29 3, .row (some ⟨b2757, 0, none⟩) ([f10, (⟨rv380.1.Drop, rv393.1, rv406.1⟩ : Fault), (⟨true, 0, 0⟩ : Fault)] : List Fault).length ([f10, (⟨rv380.1.Drop, rv393.1, rv406.1⟩ : Fault), (⟨true, 0, 0⟩ : Fault)] : List Fault).length [.bool f10.Drop, .int .i64 f10.Delay, .int .i64 f10.Copies, .bool rv380.1.Drop, .int .i64 rv393.1, .int .i64 rv406.1, .bool true, .int .i64 0, .int .i64 0] 32 3] []) (by kernel_rfl) rfl (hw.drew.cs [0, 1, 2, 3, 4, 5, 6, 7, 8, 9, 10, 11, 12] [] rfl rfl) fun hC => ?_
   have hw := hw.drew
   refine gm hs 0 rfl rfl rfl hC fun a hs => ?_
   refine gm hs 1 rfl rfl rfl hC fun a hs => ?_
   refine gv hs 2 rfl rfl hC (fun w hC => y_neq rfl rfl) fun a hs => ?_
   refine gm hs 3 rfl rfl rfl hC fun a hs => ?_
   have hs := hs.fix 217 (.bool false) rfl (vb h3247)
   refine gt hs 4 rfl ⟨_, rfl, rfl⟩ rfl hC (fun w hC => y_loadBA (hC.ownAt 5 rfl) rfl Try.isAgg29 Try.sizeOf29 rfl rfl) fun a hs => ?_
   refine gt hs 5 rfl ⟨_, rfl, rfl⟩ rfl hC (fun w hC => y_loadBA (hC.ownAt 2 rfl) rfl Try.isAgg29 Try.sizeOf29 rfl rfl) fun a hs => ?_
   refine ho 6 rfl ?_
   refine st_callR hs (ref09_Same_ok h3262 hw.bdom (hw.bRow 6 rfl 5 rfl) (hw.bRow 3 rfl 3 rfl)) (do_call Try.call21 rfl) ⟨_, rfl, rfl⟩ rfl rfl ?_
   intro v3376 Sv3373 w a h3374 h3375 hs
   subst h3375
   have hw := hw.callB h3374
   refine h_nx (hw.cs [0, 1, 2, 3, 4, 5, 6, 7, 8, 9, 10, 11, 12] [] rfl rfl) fun hC => ?_
   refine gt hs 7 rfl ⟨_, rfl, rfl⟩ rfl hC (fun w hC => y_not rfl) fun a hs => ?_
   refine gv hs 8 rfl rfl hC (fun w hC => y_pickFE (v := .bool c3237) rfl rfl (vbs h3261)) fun a hs => ?_
   refine gm hs 9 rfl rfl rfl hC fun a hs => ?_
   have hs := hs.fix 223 (.bool false) rfl (vb h3264)
   refine gt hs 10 rfl ⟨_, rfl, rfl⟩ rfl hC (fun w hC => y_move rfl) fun a hs => ?_
   refine gt hs 11 rfl ⟨_, rfl, rfl⟩ rfl hC (fun w hC => y_move rfl) fun a hs => ?_
   refine ho 12 rfl ?_
   refine st_callR hs (law09_same_ok h3282 hw.bdom (hw.bRow 7 rfl 4 rfl) (hw.bRow 4 rfl 2 rfl)) (do_call Try.call16 rfl) ⟨_, rfl, rfl⟩ rfl rfl ?_
   intro v3381 Sv3378 w a h3379 h3380 hs
   subst h3380
   have hw := hw.callB h3379
   refine h_nx (hw.cs [0, 1, 2, 3, 4, 5, 6, 7, 8, 9, 10, 11, 12] [] rfl rfl) fun hC => ?_
   refine gt hs 13 rfl ⟨_, rfl, rfl⟩ rfl hC (fun w hC => y_not rfl) fun a hs => ?_
   refine gv hs 14 rfl rfl hC (fun w hC => y_pickFE (v := .bool c3240) rfl rfl (vbs h3281)) fun a hs => ?_
   refine gm hs 15 rfl rfl rfl hC fun a hs => ?_
   have hs := hs.fix 229 (.bool false) rfl (vb h3284)
   refine gt hs 16 rfl ⟨_, rfl, rfl⟩ rfl hC (fun w hC => y_move rfl) fun a hs => ?_
   refine gt hs 17 rfl ⟨_, rfl, rfl⟩ rfl hC (fun w hC => y_move rfl) fun a hs => ?_
   refine gt hs 18 rfl ⟨_, rfl, rfl⟩ rfl hC (fun w hC => y_neq rfl rfl) fun a hs => ?_
   refine gv hs 19 rfl rfl hC (fun w hC => y_pickFE (v := .bool (c3240 || (rv3200.1 != rv3207.1))) rfl rfl (or_f h3284)) fun a hs => ?_
   refine gm hs 20 rfl rfl rfl hC fun a hs => ?_
   have hs := hs.fix 234 (.bool false) rfl (vb h3305)
   refine gt hs 21 rfl ⟨_, rfl, rfl⟩ rfl hC (fun w hC => y_move rfl) fun a hs => ?_
   refine gt hs 22 rfl ⟨_, rfl, rfl⟩ rfl hC (fun w hC => y_move rfl) fun a hs => ?_
   refine gt hs 23 rfl ⟨_, rfl, rfl⟩ rfl hC (fun w hC => y_neqB Try.runUnderlying4 rfl rfl) fun a hs => ?_
   refine gv hs 24 rfl rfl hC (fun w hC => y_pickFE (v := .bool ((c3240 || (rv3200.1 != rv3207.1)) || (!(rv3200.2 == rv3207.2)))) rfl rfl (or_f h3305)) fun a hs => ?_
   refine gm hs 25 rfl rfl rfl hC fun a hs => ?_
   have hs := hs.fix 239 (.bool false) rfl (vb h3324)
   refine gt hs 26 rfl ⟨_, rfl, rfl⟩ rfl hC (fun w hC => y_move rfl) fun a hs => ?_
   refine gt hs 27 rfl ⟨_, rfl, rfl⟩ rfl hC (fun w hC => y_move rfl) fun a hs => ?_
   refine gt hs 28 rfl ⟨_, rfl, rfl⟩ rfl hC (fun w hC => y_neq rfl rfl) fun a hs => ?_
   refine gv hs 29 rfl rfl hC (fun w hC => y_pickFE (v := .bool (((c3240 || (rv3200.1 != rv3207.1)) || (!(rv3200.2 == rv3207.2))) || (rv3214.2 != rv3225.2))) rfl rfl (or_f h3324)) fun a hs => ?_
   refine gm hs 30 rfl rfl rfl hC fun a hs => ?_
   have hs := hs.fix 244 (.bool false) rfl (vb h3341)
   refine gt hs 31 rfl ⟨_, rfl, rfl⟩ rfl hC (fun w hC => y_move rfl) fun a hs => ?_
   refine gt hs 32 rfl ⟨_, rfl, rfl⟩ rfl hC (fun w hC => y_len Try.runUnderlying27 rfl) fun a hs => ?_
   refine gt hs 33 rfl ⟨_, rfl, rfl⟩ rfl hC (fun w hC => y_move rfl) fun a hs => ?_
   refine gt hs 34 rfl ⟨_, rfl, rfl⟩ rfl hC (fun w hC => y_len Try.runUnderlying27 rfl) fun a hs => ?_
   refine gt hs 35 rfl ⟨_, rfl, rfl⟩ rfl hC (fun w hC => y_neq rfl rfl) fun a hs => ?_
   refine gv hs 36 rfl rfl hC (fun w hC => y_pickFE (v := .bool ((((c3240 || (rv3200.1 != rv3207.1)) || (!(rv3200.2 == rv3207.2))) || (rv3214.2 != rv3225.2)) || ((rv3214.1.length : Int) != (rv3225.1.length : Int)))) rfl rfl (or_f h3341)) fun a hs => ?_
   refine gm hs 37 rfl rfl rfl hC fun a hs => ?_
   have hs := hs.fix 251 (.bool false) rfl (vb h3356)
   refine gt hs 38 rfl ⟨_, rfl, rfl⟩ rfl hC (fun w hC => y_loadBA (hC.ownAt 10 rfl) rfl Try.isAgg29 Try.sizeOf29 rfl rfl) fun a hs => ?_
   refine gt hs 40 rfl ⟨_, rfl, rfl⟩ rfl hC (fun w hC => y_loadBA (hC.ownAt 10 rfl) rfl Try.isAgg29 Try.sizeOf29 rfl rfl) fun a hs => ?_
   refine ho 39 rfl ?_
   refine st_callR hs (link_Valid_ok h3369 hw.bdom (hw.bE 6 rfl)) (do_call Try.call29 rfl) ⟨_, rfl, rfl⟩ rfl rfl ?_
   intro v3386 Sv3383 w a h3384 h3385 hs
   subst h3385
   have hw := hw.callB h3384
   refine h_nx (hw.cs [0, 1, 2, 3, 4, 5, 6, 7, 8, 9, 10, 11, 12] [] rfl rfl) fun hC => ?_
   refine ho 41 rfl ?_
   refine st_callR hs (ref09_Valid_ok h3371 hw.bdom (hw.bE 6 rfl)) (do_call Try.call15 rfl) ⟨_, rfl, rfl⟩ rfl rfl ?_
   intro v3391 Sv3388 w a h3389 h3390 hs
   subst h3390
   have hw := hw.callB h3389
   refine h_nx (hw.cs [0, 1, 2, 3, 4, 5, 6, 7, 8, 9, 10, 11, 12] [] rfl rfl) fun hC => ?_
   refine gt hs 42 rfl ⟨_, rfl, rfl⟩ rfl hC (fun w hC => y_neqB Try.runUnderlying4 rfl rfl) fun a hs => ?_
   refine gv hs 43 rfl rfl hC (fun w hC => y_pickFE (v := .bool c3245) rfl rfl (vbs h3368)) fun a hs => ?_
   refine h_done (by kernel_rfl) ?_
   exact ⟨Sv3230, (hs.wk rfl), (hw.ft [8, 9, 11, 1, 0] [7, 1, 0] (by decide) rfl rfl)⟩
  rintro a w ⟨Sv3246, hs, hw⟩
  refine then_normal ?_
  refine wp_cond_split (hs.ev rfl) (fun h3394 => ?_) (fun h3394 => ?_)
  ·have hsh := ite_t hsh h3394
   refine sr ?_
   refine av hs rfl rfl fun a hs => ?_
   refine nl ?_
   have hsh := oi hsh
   subst hsh
   have h3395 := hd2407 _ rfl
   subst h3395
   refine wp_ret ?_
   refine then_ret ?_
   refine blk_ret ?_
   refine then_ret ?_
   refine then_ret ?_
   refine blk_ret ?_
   refine then_ret ?_
   exact ret1 hs rfl (rv_tmp rfl) (hw.ret rfl)
  have hsh := ite_f hsh h3394
  refine wp_skip ?_
  refine then_normal ?_
  refine sr ?_
  refine mv hs rfl rfl fun a hs => ?_
  refine sv hs (y_len Try.runUnderlying27 rfl) rfl fun a hs => ?_
  refine mv hs rfl rfl fun a hs => ?_
  refine nl ?_
  refine wp_block ?_
  refine wp_while (fun sv3488 a w => ∃ (Sv3548 : Nat → Prop), Sl 280 [(2, .string data9), (7, .pointer (some ⟨b12, 0, none⟩)), (14, .pointer (some ⟨b389, 0, none⟩)), (33, .slice p3215 rv3214.1.length k3216), (35, .slice p3226 rv3225.1.length k3227), (136, .slice (some ⟨b417, 0, none⟩) ([rv50.1, (⟨x376, x377, x378⟩ : Wire), raw5] : List Wire).length ([rv50.1, (⟨x376, x377, x378⟩ : Wire), raw5] : List Wire).length), (137, .int .i64 (([rv50.1, (⟨x376, x377, x378⟩ : Wire), raw5] : List Wire).length : Int)), (138, .int .i64 sv1414), (259, .int .i64 (rv3214.1.length : Int)), (260, .int .i64 sv3488)] a ∧ Wd ⟨w0, S0, []⟩ Sv3548 [.box b12 [.bool f10.Drop, .int .i64 f10.Delay, .int .i64 f10.Copies] 32, .box b389 [.bool rv380.1.Drop, .int .i64 rv393.1, .int .i64 rv406.1] 32, .row p3215 rv3214.1.length k3216 c3218 47 3, .row p3226 rv3225.1.length k3227 c3229 47 3, .row (some ⟨b417, 0, none⟩) ([rv50.1, (⟨x376, x377, x378⟩ : Wire), raw5] : List Wire).length ([rv50.1, (⟨x376, x377, x378⟩ : Wire), raw5] : List Wire).length [.int .i64 rv50.1.Now, .int .i64 rv50.1.Order, .slice p51 rv50.1.Items.length k52, .int .i64 x376, .int .i64 x377, .slice p371 x378.length k372, .int .i64 raw5.Now, .int .i64 raw5.Order, .slice p6 raw5.Items.length k7] 29 3] [RowA c3218 rv3214.1, RowA c3229 rv3225.1, RowA [.int .i64 rv50.1.Now, .int .i64 rv50.1.Order, .slice p51 rv50.1.Items.length k52, .int .i64 x376, .int .i64 x377, .slice p371 x378.length k372, .int .i64 raw5.Now, .int .i64 raw5.Order, .slice p6 raw5.Items.length k7] ([rv50.1, (⟨x376, x377, x378⟩ : Wire), raw5] : List Wire)] w) 0 hsh ⟨Sv3246, (hs.wk rfl), (hw.ft [0, 1, 3, 4, 2] [1, 2, 0] (by decide) rfl rfl)⟩ ?_
  repeat clear hsh
  rintro sv3488 a w tv3579 ⟨Sv3548, hs, hw⟩ hsh hd3578
  delta law09_LinkExact_l20 at hsh
  refine sr ?_
  refine sv hs (y_lss rfl rfl) rfl fun a hs => ?_
  refine nl ?_
  refine wp_seq ?_
  refine wp_cond_split (hs.ev rfl) (fun h3583 => ?_) (fun h3583 => ?_)
  ·have hsh := ite_t hsh h3583
   refine wp_skip ?_
   refine then_normal ?_
   refine wp_seq ?_
   refine wp_block ?_
   refine sr ?_
   refine mv hs rfl rfl fun a hs => ?_
   refine av hs rfl rfl fun a hs => ?_
   refine nl ?_
   refine wp_seq ?_
   obtain ⟨x3614, h3612, hsh⟩ := bind_t hsh
   obtain ⟨b3621, q3618, c3619, h3622, h3615, h3616, h3620, h3613⟩ := hw.elemRV (α := Transit) 2 rfl 0 rfl h3612
   have hsv3623 := hs
   have hwv3624 := hw
   subst h3622
   have hs := hsv3623
   have hw := hwv3624
   obtain ⟨_, _, _, rfl, rfl, rfl, rfl⟩ := h3613
   obtain ⟨x3627, h3625, hsh⟩ := bind_t hsh
   obtain ⟨b3634, q3631, c3632, h3635, h3628, h3629, h3633, h3626⟩ := hw.elemRV (α := Transit) 3 rfl 1 rfl h3625
   have hsv3636 := hs
   have hwv3637 := hw
   subst h3635
   have hs := hsv3636
   have hw := hwv3637
   obtain ⟨_, _, _, rfl, rfl, rfl, rfl⟩ := h3626
   refine wp_only (fun a w => ∃ (Sv3638 : Nat → Prop), Sl 280 [(2, .string data9), (7, .pointer (some ⟨b12, 0, none⟩)), (14, .pointer (some ⟨b389, 0, none⟩)), (33, .slice (some ⟨b3621, 0, none⟩) rv3214.1.length k3216), (35, .slice (some ⟨b3634, 0, none⟩) rv3225.1.length k3227), (136, .slice (some ⟨b417, 0, none⟩) ([rv50.1, (⟨x376, x377, x378⟩ : Wire), raw5] : List Wire).length ([rv50.1, (⟨x376, x377, x378⟩ : Wire), raw5] : List Wire).length), (137, .int .i64 (([rv50.1, (⟨x376, x377, x378⟩ : Wire), raw5] : List Wire).length : Int)), (138, .int .i64 sv1414), (259, .int .i64 (rv3214.1.length : Int)), (260, .int .i64 sv3488), (271, .bool (!((x3614.At == x3627.At) && ((x3614.Order == x3627.Order) && ((x3614.Data == x3627.Data) && true)))))] a ∧ Wd ⟨w0, S0, []⟩ Sv3638 [.box b12 [.bool f10.Drop, .int .i64 f10.Delay, .int .i64 f10.Copies] 32, .box b389 [.bool rv380.1.Drop, .int .i64 rv393.1, .int .i64 rv406.1] 32, .row (some ⟨b3621, 0, none⟩) rv3214.1.length k3216 c3218 47 3, .row (some ⟨b3634, 0, none⟩) rv3225.1.length k3227 c3229 47 3, .row (some ⟨b417, 0, none⟩) ([rv50.1, (⟨x376, x377, x378⟩ : Wire), raw5] : List Wire).length ([rv50.1, (⟨x376, x377, x378⟩ : Wire), raw5] : List Wire).length [.int .i64 rv50.1.Now, .int .i64 rv50.1.Order, .slice p51 rv50.1.Items.length k52, .int .i64 x376, .int .i64 x377, .slice p371 x378.length k372, .int .i64 raw5.Now, .int .i64 raw5.Order, .slice p6 raw5.Items.length k7] 29 3] [RowA c3218 rv3214.1, RowA c3229 rv3225.1, RowA [.int .i64 rv50.1.Now, .int .i64 rv50.1.Order, .slice p51 rv50.1.Items.length k52, .int .i64 x376, .int .i64 x377, .slice p371 x378.length k372, .int .i64 raw5.Now, .int .i64 raw5.Order, .slice p6 raw5.Items.length k7] ([rv50.1, (⟨x376, x377, x378⟩ : Wire), raw5] : List Wire)] w) ?_ ?_
   ·refine h_b (C := Cls [.box b12 [.bool f10.Drop, .int .i64 f10.Delay, .int .i64 f10.Copies] 32, .box b389 [.bool rv380.1.Drop, .int .i64 rv393.1, .int .i64 rv406.1] 32, .row (some ⟨b3621, 0, none⟩) rv3214.1.length k3216 c3218 47 3, .row (some ⟨b3634, 0, none⟩) rv3225.1.length k3227 c3229 47 3, .row (some ⟨b417, 0, none⟩) ([rv50.1, (⟨x376, x377, x378⟩ : Wire), raw5] : List Wire).length ([rv50.1, (⟨x376, x377, x378⟩ : Wire), raw5] : List Wire).length [.int .i64 rv50.1.Now, .int .i64 rv50.1.Order, .slice p51 rv50.1.Items.length k52, .int .i64 x376, .int .i64 x377, .slice p371 x378.length k372, .int .i64 raw5.Now, .int .i64 raw5.Order, .slice p6 raw5.Items.length k7] 29 3] []) (by kernel_rfl) rfl (hw.drew.cs [0, 1, 2, 3, 4] [] rfl rfl) fun hC => ?_
    have hw := hw.drew
    refine gm hs 0 rfl rfl rfl hC fun a hs => ?_
    refine gm hs 1 rfl rfl rfl hC fun a hs => ?_
    refine gv hs 2 rfl rfl hC (fun w hC => y_indexAt Try.runUnderlying27 Try.sizeOf47 rfl rfl h3615.1 h3615.2 h3616) fun a hs => ?_
    refine gv hs 3 rfl rfl hC (fun w hC => y_loadQA (j := 0) (hC.ownAt 2 rfl) rfl Try.isAgg47 Try.sizeOf47 h3620 rfl rfl) fun a hs => ?_
    refine gm hs 4 rfl rfl rfl hC fun a hs => ?_
    refine gm hs 5 rfl rfl rfl hC fun a hs => ?_
    refine gv hs 6 rfl rfl hC (fun w hC => y_indexAt Try.runUnderlying27 Try.sizeOf47 rfl rfl h3628.1 h3628.2 h3629) fun a hs => ?_
    refine gv hs 7 rfl rfl hC (fun w hC => y_loadQA (j := 0) (hC.ownAt 3 rfl) rfl Try.isAgg47 Try.sizeOf47 h3633 rfl rfl) fun a hs => ?_
    refine gv hs 8 rfl rfl hC (fun w hC => y_neqA (by kernel_rfl) rfl rfl (eqv_struct Try.runUnderlying47 (by kernel_rfl) (EqF.cons1 rfl Try.isAgg3 rfl rfl (eqv_int Try.runUnderlying3) (EqF.cons1 rfl Try.isAgg3 rfl rfl (eqv_int Try.runUnderlying3) (EqF.cons1 rfl Try.isAgg9 rfl rfl (eqv_str Try.runUnderlying9) EqF.nil))))) fun a hs => ?_
    refine h_done (by kernel_rfl) ?_
    exact ⟨Sv3548, (hs.wk rfl), (hw.ft [0, 1, 2, 3, 4] [0, 1, 2] (by decide) rfl rfl)⟩
   rintro a w ⟨Sv3638, hs, hw⟩
   refine then_normal ?_
   refine wp_cond_split (hs.ev rfl) (fun h3640 => ?_) (fun h3640 => ?_)
   ·have hsh := ite_t hsh h3640
    refine sr ?_
    refine av hs rfl rfl fun a hs => ?_
    refine nl ?_
    have hsh := oi hsh
    subst hsh
    have h3641 := hd3578 _ rfl
    subst h3641
    have h3642 := hd2407 _ rfl
    subst h3642
    refine wp_ret ?_
    refine blk_ret ?_
    refine then_ret ?_
    refine then_ret ?_
    refine blk_ret ?_
    refine blk_ret ?_
    refine then_ret ?_
    refine then_ret ?_
    refine blk_ret ?_
    refine then_ret ?_
    exact ret1 hs rfl (rv_tmp rfl) (hw.ret rfl)
   have hsh := ite_f hsh h3640
   refine wp_skip ?_
   refine blk_normal ?_
   refine then_normal ?_
   refine wp_region_lit ?_
   refine sv hs (y_add rfl rfl) rfl fun a hs => ?_
   refine mv hs rfl rfl fun a hs => ?_
   refine nl ?_
   exact ⟨_, (Option.some.inj hsh).symm, Sv3638, (hs.wk rfl), (hw.ft [0, 1, 2, 3, 4] [0, 1, 2] (by decide) rfl rfl)⟩
  have hsh := ite_f hsh h3583
  obtain ⟨rv3643, hsh, h3644⟩ := map_t hsh
  have h3644 := (hd3578 _ h3644.symm).symm
  subst h3644
  refine wp_exit ?_
  refine then_exit ?_
  refine then_exit ?_
  refine blk_exit ?_
  refine blk_normal ?_
  refine then_normal ?_
  refine wp_region_lit ?_
  refine sv hs (y_add rfl rfl) rfl fun a hs => ?_
  refine mv hs rfl rfl fun a hs => ?_
  refine nl ?_
  exact ⟨_, (Option.some.inj hsh).symm, Sv3548, (hs.wk rfl), (hw.ft [0, 1, 4] [2] (by decide) rfl rfl)⟩
 have hsh := ite_f hsh h2412
 obtain ⟨rv3691, hsh, h3692⟩ := map_t hsh
 have h3692 := (hd2407 _ h3692.symm).symm
 subst h3692
 refine wp_exit ?_
 refine then_exit ?_
 refine then_exit ?_
 refine blk_exit ?_
 refine then_normal ?_
 refine sr ?_
 obtain ⟨rv3648, h3647, hsh⟩ := bind_t hsh
 refine st_callR hs (link_New_ok h3647 hw.dom) (do_call Try.call10 rfl) trivial rfl rfl ?_
 intro v3655 Sv3652 w a h3653 h3654 hs
 obtain ⟨p3649, k3650, rfl, h3651⟩ := h3654
 have hw := hw.call h3653
 have hw := hw.addE (e := SlA p3649 rv3648.Items.length k3650 rv3648.Items) h3651
 obtain ⟨rv3658, h3657, hsh⟩ := bind_t hsh
 refine st_callR hs (ref09_New_ok h3657 hw.dom) (do_call Try.call30 rfl) trivial rfl rfl ?_
 intro v3665 Sv3662 w a h3663 h3664 hs
 obtain ⟨p3659, k3660, rfl, h3661⟩ := h3664
 have hw := hw.call h3663
 have hw := hw.addE (e := SlA p3659 rv3658.Items.length k3660 rv3658.Items) h3661
 obtain ⟨rv3668, h3667, hsh⟩ := bind_t hsh
 refine st_callR hs (ref09_Same_ok h3667 hw.bdom (hw.bE 1 rfl) (hw.bE 0 rfl)) (do_call Try.call21 rfl) trivial rfl rfl ?_
 intro v3672 Sv3669 w a h3670 h3671 hs
 subst h3671
 have hw := hw.callB h3670
 refine mv hs rfl rfl fun a hs => ?_
 obtain ⟨c3682, hc3682, hsh⟩ := bind_t hsh
 refine wpl_join 2 (fun a w => ∃ (Sv3683 : Nat → Prop), Sl 280 [(279, .bool c3682)] a ∧ Wd ⟨w0, S0, []⟩ Sv3683 [] [] w) ?_ ?_
 ·rcases Bool.eq_false_or_eq_true rv3668 with h3681 | h3681
  ·have hs := hs.fix 277 (.bool true) rfl (vb h3681)
   have hsh := ite_t hc3682 h3681
   obtain ⟨rv3685, h3684, hsh⟩ := bind_t hsh
   refine st_callR hs (law09_sane_ok h3684 hw.bdom) (do_call Try.call8 rfl) ⟨_, rfl, rfl⟩ rfl rfl ?_
   intro v3689 Sv3686 w a h3687 h3688 hs
   subst h3688
   have hw := hw.callB h3687
   refine sv hs (y_pickT rfl rfl) rfl fun a hs => ?_
   refine wpList_nil ?_
   have hsh := oi hsh
   subst hsh
   refine then_normal ?_
   exact ⟨Sv3662, (hs.wk rfl), (hw.ft [] [] (by decide) rfl rfl)⟩
  have hs := hs.fix 277 (.bool false) rfl (vb h3681)
  have hsh := ite_f hc3682 h3681
  refine st_skip hs rfl rfl rfl rfl rfl fun a hs => ?_
  refine sv hs (y_pickF rfl rfl) rfl fun a hs => ?_
  refine wpList_nil ?_
  have hsh := oi hsh
  subst hsh
  refine then_normal ?_
  exact ⟨Sv3662, (hs.wk rfl), (hw.ft [] [] (by decide) rfl rfl)⟩
 rintro a w ⟨Sv3683, hs, hw⟩
 refine av hs rfl rfl fun a hs => ?_
 refine nl ?_
 have hsh := oi hsh
 subst hsh
 refine wp_ret ?_
 exact ret1 hs rfl (rv_tmp rfl) (hw.ret rfl)

end Go.Proofs.Ytljdiobhmenjgaa.Wk

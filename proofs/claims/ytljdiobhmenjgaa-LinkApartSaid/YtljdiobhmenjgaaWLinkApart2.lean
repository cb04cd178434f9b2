/- The walks of LinkApart, part 2: each Go function computes what its plain program computes. Printed by a program of ours. -/
import Derived.Test.YtljdiobhmenjgaaProg
import Derived.Test.YtljdiobhmenjgaaDat
import Derived.Test.YtljdiobhmenjgaaSh
import Derived.Test.YtljdiobhmenjgaaLibL
import Derived.Test.YtljdiobhmenjgaaLibZ
import Derived.Test.YtljdiobhmenjgaaLibN
import Derived.KernelRfl
import Derived.Test.YtljdiobhmenjgaaWLinkApart1
namespace Go.Proofs.Ytljdiobhmenjgaa.Wk
open Go Go.RowKit Go.Proofs Go.Proofs.Ytljdiobhmenjgaa.Sh
set_option linter.unusedVariables false
set_option linter.unusedSimpArgs false

abbrev law09_LinkApart_rd (w0 : World) (X : List Nat) (r : Bool) : (Nat → Prop) → World → Value → Prop := fun S w v => v = .bool r
abbrev D3t1 (b30 : Nat) (b69 : Nat) (b70 : Nat) (b71 : Nat) (sv1539 : ((List Int) × Int × Int × Int × (List Transit) × Int × Int × (List Transit) × Int × Int × (List Transit) × Int)) : Slots := [(3, .pointer (some ⟨b30, 0, none⟩)), (4, .pointer (some ⟨b69, 0, none⟩)), (5, .pointer (some ⟨b70, 0, none⟩)), (6, .pointer (some ⟨b71, 0, none⟩)), (7, .int .i64 sv1539.2.2.2.2.2.2.2.2.2.2.2)]
abbrev D3t2 (b30 : Nat) (b4564 : Nat) (b4579 : Nat) (rv4559 : (Fault × Dice)) (rv4566 : (Int × Dice)) (x4572 : ByteArray) : Vs := [(0, 41, .pointer (some ⟨b30, 0, none⟩)), (1, 42, .agg #[.bool rv4559.1.Drop, .int .i64 rv4559.1.Delay, .int .i64 rv4559.1.Copies]), (2, 43, .slice (some ⟨b4564, 0, none⟩) ([(⟨#[97, 49]⟩ : ByteArray), (⟨#[97, 50]⟩ : ByteArray), (⟨#[98, 49]⟩ : ByteArray), (⟨#[98, 50]⟩ : ByteArray)] : List ByteArray).length ([(⟨#[97, 49]⟩ : ByteArray), (⟨#[97, 50]⟩ : ByteArray), (⟨#[98, 49]⟩ : ByteArray), (⟨#[98, 50]⟩ : ByteArray)] : List ByteArray).length), (3, 44, .pointer (some ⟨b30, 0, none⟩)), (4, 45, .int .i64 rv4566.1), (5, 46, .pointer (some ⟨b4564, (0 + (rv4566.1).toNat * 1), none⟩)), (6, 47, .string x4572), (7, 8, .pointer (some ⟨b4579, 0, none⟩)), (9, 9, .string x4572)]
abbrev D3t3 : List Value := [.string (⟨#[97, 49]⟩ : ByteArray), .string (⟨#[97, 50]⟩ : ByteArray), .string (⟨#[98, 49]⟩ : ByteArray), .string (⟨#[98, 50]⟩ : ByteArray)]
abbrev D3t4 : List ByteArray := ([(⟨#[97, 49]⟩ : ByteArray), (⟨#[97, 50]⟩ : ByteArray), (⟨#[98, 49]⟩ : ByteArray), (⟨#[98, 50]⟩ : ByteArray)] : List ByteArray)
set_option maxHeartbeats 4000000 in
set_option maxRecDepth 100000 in
theorem law09_LinkApart_ok {w0 : World} {S0 : Nat → Prop} {p2 : Option Addr} {k3 : Nat} {t1 : (List Int)} {r : Bool} (hsh : law09_LinkApart t1 = some r) (hS : ∀ b, S0 b → b < w0.heap.size) (h4 : (SlA p2 t1.length k3 t1).p S0 w0) : Calls Try.prog 3 #[.slice p2 t1.length k3] w0 (Ret ([]) w0 S0 (law09_LinkApart_rd w0 ([]) r)) := by
 refine calls_of_wp Try.func3 rfl ?_
 have hs := Sl.enter #[.slice p2 t1.length k3] 162 [(0, .slice p2 t1.length k3)] rfl ⟨rfl, trivial⟩
 have hw := Wd.enter (E := []) hS (fun _ h => (by cases h))
 have hw := hw.addE h4
 delta law09_LinkApart at hsh
 refine sr ?_
 refine av hs rfl rfl fun a hs => ?_
 refine nl ?_
 refine wp_seq ?_
 refine sr ?_
 refine mv hs rfl rfl fun a hs => ?_
 obtain ⟨rv6, h5, hsh⟩ := bind_t hsh
 refine st_callR hs (made_Light_ok h5 hw.bdom (hw.bE 0 rfl)) (do_call Try.call7 rfl) trivial rfl rfl ?_
 intro v10 Sv7 w a h8 h9 hs
 subst h9
 have hw := hw.callB h8
 refine sv hs (y_not rfl) rfl fun a hs => ?_
 refine nl ?_
 refine wp_cond_split (hs.ev rfl) (fun h20 => ?_) (fun h20 => ?_)
 ·have hsh := ite_t hsh h20
  refine sr ?_
  obtain ⟨rv22, h21, hsh⟩ := bind_t hsh
  refine st_callR hs (law09_sane_ok h21 hw.bdom) (do_call Try.call8 rfl) trivial rfl rfl ?_
  intro v26 Sv23 w a h24 h25 hs
  subst h25
  have hw := hw.callB h24
  refine av hs rfl rfl fun a hs => ?_
  refine nl ?_
  have hsh := oi hsh
  subst hsh
  refine wp_ret ?_
  refine then_ret ?_
  exact ret1 hs rfl (rv_tmp rfl) (hw.ret rfl)
 have hsh := ite_f hsh h20
 refine wp_skip ?_
 refine then_normal ?_
 refine sr ?_
 refine mv hs rfl rfl fun a hs => ?_
 obtain ⟨rv29, h28, hsh⟩ := bind_t hsh
 refine st_callR hs (made_Roll_ok h28 hw.dom (hw.envAt 0 rfl)) (do_call Try.call9 rfl) trivial rfl rfl ?_
 intro v37 Sv34 w a h35 h36 hs
 obtain ⟨b30, p31, k32, rfl, h38, h33⟩ := h36
 have hw := hw.callN h35 h38
 have hw := hw.addE (e := SlA p31 rv29.L.length k32 rv29.L) h33
 refine av hs rfl rfl fun a hs => ?_
 refine nl ?_
 refine sr ?_
 obtain ⟨rv40, h39, hsh⟩ := bind_t hsh
 refine st_callR hs (link_New_ok h39 hw.dom) (do_call Try.call10 rfl) trivial rfl rfl ?_
 intro v47 Sv44 w a h45 h46 hs
 obtain ⟨p41, k42, rfl, h43⟩ := h46
 have hw := hw.call h45
 have hw := hw.addE (e := SlA p41 rv40.Items.length k42 rv40.Items) h43
 obtain ⟨rv50, h49, hsh⟩ := bind_t hsh
 refine st_callR hs (link_New_ok h49 hw.dom) (do_call Try.call10 rfl) trivial rfl rfl ?_
 intro v57 Sv54 w a h55 h56 hs
 obtain ⟨p51, k52, rfl, h53⟩ := h56
 have hw := hw.call h55
 have hw := hw.addE (e := SlA p51 rv50.Items.length k52 rv50.Items) h53
 obtain ⟨rv60, h59, hsh⟩ := bind_t hsh
 refine st_callR hs (link_New_ok h59 hw.dom) (do_call Try.call10 rfl) trivial rfl rfl ?_
 intro v67 Sv64 w a h65 h66 hs
 obtain ⟨p61, k62, rfl, h63⟩ := h66
 have hw := hw.call h65
 have hw := hw.addE (e := SlA p61 rv60.Items.length k62 rv60.Items) h63
 refine w_alloc (cs := [.int .i64 0, .int .i64 0, .slice none ([] : List Transit).length 0]) hs hw Try.zeroValue29 rfl rfl trivial ?_
 intro b69 a w hs hw
 refine w_alloc (cs := [.int .i64 0, .int .i64 0, .slice none ([] : List Transit).length 0]) hs hw Try.zeroValue29 rfl rfl trivial ?_
 intro b70 a w hs hw
 refine w_alloc (cs := [.int .i64 0, .int .i64 0, .slice none ([] : List Transit).length 0]) hs hw Try.zeroValue29 rfl rfl trivial ?_
 intro b71 a w hs hw
 refine w_store (m := 3) (cs' := [.int .i64 rv40.Now, .int .i64 rv40.Order, .slice p41 rv40.Items.length k42]) hs hw 2 rfl rfl rfl Try.sizeOf29 rfl rfl rfl rfl trivial ?_
 intro a w hs hw
 refine w_store (m := 3) (cs' := [.int .i64 rv50.Now, .int .i64 rv50.Order, .slice p51 rv50.Items.length k52]) hs hw 1 rfl rfl rfl Try.sizeOf29 rfl rfl rfl rfl trivial ?_
 intro a w hs hw
 refine w_store (m := 3) (cs' := [.int .i64 rv60.Now, .int .i64 rv60.Order, .slice p61 rv60.Items.length k62]) hs hw 0 rfl rfl rfl Try.sizeOf29 rfl rfl rfl rfl trivial ?_
 intro a w hs hw
 refine nl ?_
 refine wp_seq ?_
 refine sr ?_
 refine av hs rfl rfl fun a hs => ?_
 refine nl ?_
 refine wp_block ?_
 refine wp_while (fun sv1539 a w => ∃ (p2513 : Option Addr) (k2514 : Nat) (p2515 : Option Addr) (k2516 : Nat) (p2517 : Option Addr) (k2518 : Nat) (p2519 : Option Addr) (k2520 : Nat) (Sv2521 : Nat → Prop), Sl 162 [(3, .pointer (some ⟨b30, 0, none⟩)), (4, .pointer (some ⟨b69, 0, none⟩)), (5, .pointer (some ⟨b70, 0, none⟩)), (6, .pointer (some ⟨b71, 0, none⟩)), (7, .int .i64 sv1539.2.2.2.2.2.2.2.2.2.2.2)] a ∧ Wd ⟨w0, S0, []⟩ Sv2521 [.box b30 [.slice p2513 sv1539.1.length k2514, .int .i64 sv1539.2.1] 59, .box b69 [.int .i64 sv1539.2.2.1, .int .i64 sv1539.2.2.2.1, .slice p2515 sv1539.2.2.2.2.1.length k2516] 29, .box b70 [.int .i64 sv1539.2.2.2.2.2.1, .int .i64 sv1539.2.2.2.2.2.2.1, .slice p2517 sv1539.2.2.2.2.2.2.2.1.length k2518] 29, .box b71 [.int .i64 sv1539.2.2.2.2.2.2.2.2.1, .int .i64 sv1539.2.2.2.2.2.2.2.2.2.1, .slice p2519 sv1539.2.2.2.2.2.2.2.2.2.2.1.length k2520] 29] [SlA p2513 sv1539.1.length k2514 sv1539.1, SlA p2515 sv1539.2.2.2.2.1.length k2516 sv1539.2.2.2.2.1, SlA p2517 sv1539.2.2.2.2.2.2.2.1.length k2518 sv1539.2.2.2.2.2.2.2.1, SlA p2519 sv1539.2.2.2.2.2.2.2.2.2.2.1.length k2520 sv1539.2.2.2.2.2.2.2.2.2.2.1] w) (rv29.L, rv29.At, rv40.Now, rv40.Order, rv40.Items, rv50.Now, rv50.Order, rv50.Items, rv60.Now, rv60.Order, rv60.Items, 0) hsh ⟨p31, k32, p41, k42, p51, k52, p61, k62, Sv64, (hs.wk rfl), (hw.ft [3, 2, 1, 0] [3, 2, 1, 0] (by decide) rfl rfl)⟩ ?_
 repeat clear hsh
 rintro sv1539 a w tv3005 ⟨p2513, k2514, p2515, k2516, p2517, k2518, p2519, k2520, Sv2521, hs, hw⟩ hsh hd3004
 delta law09_LinkApart_l7 at hsh
 refine wp_seq ?_
 refine sr ?_
 refine mv hs rfl rfl fun a hs => ?_
 refine sv hs (y_lss rfl rfl) rfl fun a hs => ?_
 refine nl ?_
 refine wp_cond_split (hs.ev rfl) (fun h3009 => ?_) (fun h3009 => ?_)
 ·have hsh := ite_t hsh h3009
  refine wp_skip ?_
  refine then_normal ?_
  refine wp_seq ?_
  refine wp_block ?_
  refine wp_seq ?_
  refine sr ?_
  refine mv hs rfl rfl fun a hs => ?_
  refine sv hs (y_lss rfl rfl) rfl fun a hs => ?_
  refine nl ?_
  refine wp_join (fun a w => ∃ (x3578 : (List Int)) (x3579 : Int) (x3580 : Int) (x3581 : Int) (x3582 : (List Transit)) (x3583 : Int) (x3584 : Int) (x3585 : (List Transit)) (x3586 : Int) (x3587 : Int) (x3588 : (List Transit)) (p3569 : Option Addr) (k3570 : Nat) (p3571 : Option Addr) (k3572 : Nat) (p3573 : Option Addr) (k3574 : Nat) (p3575 : Option Addr) (k3576 : Nat) (Sv3577 : Nat → Prop), law09_LinkApart_j1 sv1539 x3578 x3579 x3580 x3581 x3582 x3583 x3584 x3585 x3586 x3587 x3588 = some tv3005 ∧ Sl 162 [(3, .pointer (some ⟨b30, 0, none⟩)), (4, .pointer (some ⟨b69, 0, none⟩)), (5, .pointer (some ⟨b70, 0, none⟩)), (6, .pointer (some ⟨b71, 0, none⟩)), (7, .int .i64 sv1539.2.2.2.2.2.2.2.2.2.2.2)] a ∧ Wd ⟨w0, S0, []⟩ Sv3577 [.box b30 [.slice p3569 x3578.length k3570, .int .i64 x3579] 59, .box b69 [.int .i64 x3580, .int .i64 x3581, .slice p3571 x3582.length k3572] 29, .box b70 [.int .i64 x3583, .int .i64 x3584, .slice p3573 x3585.length k3574] 29, .box b71 [.int .i64 x3586, .int .i64 x3587, .slice p3575 x3588.length k3576] 29] [SlA p3569 x3578.length k3570 x3578, SlA p3571 x3582.length k3572 x3582, SlA p3573 x3585.length k3574 x3585, SlA p3575 x3588.length k3576 x3588] w) ?_ ?_
  ·refine wp_cond_split (hs.ev rfl) (fun h4557 => ?_) (fun h4557 => ?_)
   ·have hsh := ite_t hsh h4557
    refine wp_seq ?_
    obtain ⟨rv4559, h4558, hsh⟩ := bind_t hsh
    obtain ⟨rv4566, h4565, hsh⟩ := bind_t hsh
    obtain ⟨x4572, h4570, hsh⟩ := bind_t hsh
    refine wp_only (fun a w => ∃ (Sv4580 : Nat → Prop) (b4579 : Nat) (k4568 : Nat) (p4567 : Option Addr), Sl 162 [(3, .pointer (some ⟨b30, 0, none⟩)), (4, .pointer (some ⟨b69, 0, none⟩)), (5, .pointer (some ⟨b70, 0, none⟩)), (6, .pointer (some ⟨b71, 0, none⟩)), (7, .int .i64 sv1539.2.2.2.2.2.2.2.2.2.2.2), (8, .pointer (some ⟨b4579, 0, none⟩)), (9, .string x4572)] a ∧ Wd ⟨w0, S0, []⟩ Sv4580 [.box b30 [.slice p4567 rv4566.2.L.length k4568, .int .i64 rv4566.2.At] 59, .box b69 [.int .i64 sv1539.2.2.1, .int .i64 sv1539.2.2.2.1, .slice p2515 sv1539.2.2.2.2.1.length k2516] 29, .box b70 [.int .i64 sv1539.2.2.2.2.2.1, .int .i64 sv1539.2.2.2.2.2.2.1, .slice p2517 sv1539.2.2.2.2.2.2.2.1.length k2518] 29, .box b71 [.int .i64 sv1539.2.2.2.2.2.2.2.2.1, .int .i64 sv1539.2.2.2.2.2.2.2.2.2.1, .slice p2519 sv1539.2.2.2.2.2.2.2.2.2.2.1.length k2520] 29, .box b4579 [.bool rv4559.1.Drop, .int .i64 rv4559.1.Delay, .int .i64 rv4559.1.Copies] 32] [SlA p4567 rv4566.2.L.length k4568 rv4566.2.L, SlA p2515 sv1539.2.2.2.2.1.length k2516 sv1539.2.2.2.2.1, SlA p2517 sv1539.2.2.2.2.2.2.2.1.length k2518 sv1539.2.2.2.2.2.2.2.1, SlA p2519 sv1539.2.2.2.2.2.2.2.2.2.2.1.length k2520 sv1539.2.2.2.2.2.2.2.2.2.2.1] w) ?_ ?_
    ·refine wp_region_phi (n := 10) (Φ := fun l a w => ∃ (b4564 : Nat) (b4579 : Nat) (k4561 : Nat) (k4568 : Nat) (p4560 : Option Addr) (p4567 : Option Addr) (S : Nat → Prop), SlF 162 (D3t1 b30 b69 b70 b71 sv1539) (D3t2 b30 b4564 b4579 rv4559 rv4566 x4572) l a ∧ Wd ⟨w0, S0, []⟩ S [((bif l 4 then .box b30 [.slice p4567 rv4566.2.L.length k4568, .int .i64 rv4566.2.At] 59 else (bif l 1 then .box b30 [.slice p4560 rv4559.2.L.length k4561, .int .i64 rv4559.2.At] 59 else .box b30 [.slice p2513 sv1539.1.length k2514, .int .i64 sv1539.2.1] 59)) : Res), .box b69 [.int .i64 sv1539.2.2.1, .int .i64 sv1539.2.2.2.1, .slice p2515 sv1539.2.2.2.2.1.length k2516] 29, .box b70 [.int .i64 sv1539.2.2.2.2.2.1, .int .i64 sv1539.2.2.2.2.2.2.1, .slice p2517 sv1539.2.2.2.2.2.2.2.1.length k2518] 29, .box b71 [.int .i64 sv1539.2.2.2.2.2.2.2.2.1, .int .i64 sv1539.2.2.2.2.2.2.2.2.2.1, .slice p2519 sv1539.2.2.2.2.2.2.2.2.2.2.1.length k2520] 29, ((bif l 2 then .row (some ⟨b4564, 0, none⟩) ([(⟨#[97, 49]⟩ : ByteArray), (⟨#[97, 50]⟩ : ByteArray), (⟨#[98, 49]⟩ : ByteArray), (⟨#[98, 50]⟩ : ByteArray)] : List ByteArray).length ([(⟨#[97, 49]⟩ : ByteArray), (⟨#[97, 50]⟩ : ByteArray), (⟨#[98, 49]⟩ : ByteArray), (⟨#[98, 50]⟩ : ByteArray)] : List ByteArray).length [.string (⟨#[97, 49]⟩ : ByteArray), .string (⟨#[97, 50]⟩ : ByteArray), .string (⟨#[98, 49]⟩ : ByteArray), .string (⟨#[98, 50]⟩ : ByteArray)] 9 1 else emp) : Res), ((bif l 8 then .box b4579 [.bool rv4559.1.Drop, .int .i64 rv4559.1.Delay, .int .i64 rv4559.1.Copies] 32 else (bif l 7 then .box b4579 [.bool false, .int .i64 0, .int .i64 0] 32 else emp)) : Res)] [SlA p2513 sv1539.1.length k2514 sv1539.1, SlA p2515 sv1539.2.2.2.2.1.length k2516 sv1539.2.2.2.2.1, SlA p2517 sv1539.2.2.2.2.2.2.2.1.length k2518 sv1539.2.2.2.2.2.2.2.1, SlA p2519 sv1539.2.2.2.2.2.2.2.2.2.2.1.length k2520 sv1539.2.2.2.2.2.2.2.2.2.2.1, optA (l 1) (SlA p4560 rv4559.2.L.length k4561 rv4559.2.L), optA (l 2) (RowA [.string (⟨#[97, 49]⟩ : ByteArray), .string (⟨#[97, 50]⟩ : ByteArray), .string (⟨#[98, 49]⟩ : ByteArray), .string (⟨#[98, 50]⟩ : ByteArray)] ([(⟨#[97, 49]⟩ : ByteArray), (⟨#[97, 50]⟩ : ByteArray), (⟨#[98, 49]⟩ : ByteArray), (⟨#[98, 50]⟩ : ByteArray)] : List ByteArray)), optA (l 4) (SlA p4567 rv4566.2.L.length k4568 rv4566.2.L)] w) [1, 2, 1, 1, 3, 4, 5, 1, 4, 6] (by kernel_rfl) rfl (by kernel_rfl) ?_ (AllS.succ (AllS.succ (AllS.succ (AllS.succ (AllS.succ (AllS.succ (AllS.succ (AllS.succ (AllS.succ (AllS.succ AllS.zero ?_) ?_) ?_) ?_) ?_) ?_) ?_) ?_) ?_) ?_) ?_
     ·obtain ⟨b4564, b4579, k4561, k4568, p4560, p4567, _⟩ : ∃ (b4564 : Nat) (b4579 : Nat) (k4561 : Nat) (k4568 : Nat) (p4560 : Option Addr) (p4567 : Option Addr), True := ⟨0, 0, 0, 0, none, none, trivial⟩
      have hw := hw.drew
      have hw := hw.emp
      have hw := hw.emp
      have hw := hw.noE (SlA p4567 rv4566.2.L.length k4568 rv4566.2.L)
      have hw := hw.noE (RowA [.string (⟨#[97, 49]⟩ : ByteArray), .string (⟨#[97, 50]⟩ : ByteArray), .string (⟨#[98, 49]⟩ : ByteArray), .string (⟨#[98, 50]⟩ : ByteArray)] ([(⟨#[97, 49]⟩ : ByteArray), (⟨#[97, 50]⟩ : ByteArray), (⟨#[98, 49]⟩ : ByteArray), (⟨#[98, 50]⟩ : ByteArray)] : List ByteArray))
      have hw := hw.noE (SlA p4560 rv4559.2.L.length k4561 rv4559.2.L)
      exact ⟨b4564, b4579, k4561, k4568, p4560, p4567, Sv2521, SlF.init (hs.wk rfl) (by kernel_rfl), hw.ft [2, 3, 4, 5, 0, 1] [3, 4, 5, 6, 0, 1, 2] (by decide) rfl rfl⟩
     ·intro l hi hp hc a w ⟨b4564, b4579, k4561, k4568, p4560, p4567, S, hS, hw⟩
      refine S_val hS (.b (t := 3) rfl .nil) rfl rfl trivial (y_move rfl) (rfl) 0 rfl fun a hS => ⟨b4564, b4579, k4561, k4568, p4560, p4567, S, hS, hw⟩
     ·intro l hi hp hc a w ⟨b4564, b4579, k4561, k4568, p4560, p4567, S, hS, hw⟩
      have h_4 := l_neg hc 4 hi rfl
      have hw := hw.fixR 0 (r' := .box b30 [.slice p2513 sv1539.1.length k2514, .int .i64 sv1539.2.1] 59) rfl ((bF h_4).trans ((bF hi)))
      have h_0 := hp 0 rfl
      refine S_eff rfl ?_
      have hs := hS.open_ (.v (t := 41) 0 rfl h_0 .nil)
      refine st_callR hs (made_Dice_Fault_ok h4558 hw.dom (hw.ins [0] (by decide) rfl) (hw.envAt 0 rfl)) (do_call Try.call11 rfl) trivial rfl rfl ?_
      intro v4599 Sv4596 w a h4597 h4598 hs
      obtain ⟨p4560, k4561, rfl, h4600, h4562⟩ := h4598
      have hw := hw.callO [0] [1, 2, 3, 4, 5] (by decide) rfl h4597 h4600
      have hw := hw.addE (e := SlA p4560 rv4559.2.L.length k4561 rv4559.2.L) h4562
      have hw := hw.fixR 0 (r' := (bif l 4 then .box b30 [.slice p4567 rv4566.2.L.length k4568, .int .i64 rv4566.2.At] 59 else .box b30 [.slice p4560 rv4559.2.L.length k4561, .int .i64 rv4559.2.At] 59)) rfl ((bF h_4)).symm
      have hw := hw.opt 0 rfl true
      refine nl ?_
      exact ⟨b4564, b4579, k4561, k4568, p4560, p4567, Sv4596, hS.close (.v (t := 41) 0 rfl h_0 .nil) hs rfl (.same (.here (.same (.same (.same (.same (.same (.same (.same .nil))))))))) 1 rfl, hw.ft [0, 1, 2, 3, 4, 5] [2, 3, 4, 5, 0, 7, 8] (by decide) rfl rfl⟩
     ·intro l hi hp hc a w ⟨b4564, b4579, k4561, k4568, p4560, p4567, S, hS, hw⟩
      refine S_eff rfl ?_
      have hs := hS.open_ .nil
      refine w_litSlice (α := ByteArray) (vs := D3t3) (cs := D3t3) (xs := D3t4) hs hw El34 rfl rfl rfl rfl rfl rfl ⟨⟨_, rfl, rfl⟩, ⟨⟨_, rfl, rfl⟩, ⟨⟨_, rfl, rfl⟩, ⟨⟨_, rfl, rfl⟩, rfl⟩⟩⟩⟩ rfl trivial rfl fun b4564 a w hs hw => ?_
      have h_5 := l_neg hc 5 hi rfl
      have hw := hw.opt 0 rfl true
      refine nl ?_
      exact ⟨b4564, b4579, k4561, k4568, p4560, p4567, S, hS.close .nil hs rfl (.same (.same (.here (.same (.same (.neg h_5 rfl (.same (.same (.same .nil))))))))) 2 rfl, hw.ft [1, 2, 3, 4, 0, 6] [2, 3, 4, 5, 6, 0, 8] (by decide) rfl rfl⟩
     ·intro l hi hp hc a w ⟨b4564, b4579, k4561, k4568, p4560, p4567, S, hS, hw⟩
      refine S_val hS (.b (t := 3) rfl .nil) rfl rfl trivial (y_move rfl) (rfl) 3 rfl fun a hS => ⟨b4564, b4579, k4561, k4568, p4560, p4567, S, hS, hw⟩
     ·intro l hi hp hc a w ⟨b4564, b4579, k4561, k4568, p4560, p4567, S, hS, hw⟩
      have h_1 := hp 1 rfl
      have hw := hw.fixR 0 (r' := .box b30 [.slice p4560 rv4559.2.L.length k4561, .int .i64 rv4559.2.At] 59) rfl ((bF hi).trans ((bT h_1)))
      have hw := hw.yes 4 rfl h_1
      have h_3 := hp 3 rfl
      refine S_eff rfl ?_
      have hs := hS.open_ (.v (t := 44) 3 rfl h_3 .nil)
      refine st_callR hs (made_Dice_Next_ok h4565 hw.dom (hw.ins [0] (by decide) rfl) (hw.envAt 0 rfl)) (do_call Try.call12 rfl) trivial rfl rfl ?_
      intro v4609 Sv4606 w a h4607 h4608 hs
      obtain ⟨p4567, k4568, rfl, h4610, h4569⟩ := h4608
      have hw := hw.callO [0] [1, 2, 3, 4, 5] (by decide) rfl h4607 h4610
      have hw := hw.addE (e := SlA p4567 rv4566.2.L.length k4568 rv4566.2.L) h4569
      have hw := hw.opt 0 rfl true
      refine nl ?_
      exact ⟨b4564, b4579, k4561, k4568, p4560, p4567, Sv4606, hS.close (.v (t := 44) 3 rfl h_3 .nil) hs rfl (.same (.same (.same (.same (.here (.same (.same (.same (.same .nil))))))))) 4 rfl, hw.ft [0, 1, 2, 3, 4, 5] [3, 4, 5, 6, 7, 8, 0] (by decide) rfl rfl⟩
     ·intro l hi hp hc a w ⟨b4564, b4579, k4561, k4568, p4560, p4567, S, hS, hw⟩
      have hw0 := hw
      have h_2 := hp 2 rfl
      have hw := hw.fixR 4 (r' := .row (some ⟨b4564, 0, none⟩) ([(⟨#[97, 49]⟩ : ByteArray), (⟨#[97, 50]⟩ : ByteArray), (⟨#[98, 49]⟩ : ByteArray), (⟨#[98, 50]⟩ : ByteArray)] : List ByteArray).length ([(⟨#[97, 49]⟩ : ByteArray), (⟨#[97, 50]⟩ : ByteArray), (⟨#[98, 49]⟩ : ByteArray), (⟨#[98, 50]⟩ : ByteArray)] : List ByteArray).length [.string (⟨#[97, 49]⟩ : ByteArray), .string (⟨#[97, 50]⟩ : ByteArray), .string (⟨#[98, 49]⟩ : ByteArray), .string (⟨#[98, 50]⟩ : ByteArray)] 9 1) rfl ((bT h_2))
      have hw := hw.yes 5 rfl h_2
      have h_4 := hp 4 rfl
      obtain ⟨c4577, h4573, h4578, h4571⟩ := hw.elemRX (α := ByteArray) 4 rfl 0 rfl h4570
      obtain ⟨_, rfl, rfl⟩ := h4571
      refine S_val hS (.v (t := 43) 2 rfl h_2 (.v (t := 45) 4 rfl h_4 .nil)) rfl rfl trivial (y_indexAt Try.runUnderlying34 Try.sizeOf9 rfl rfl h4573.1 h4573.2 rfl) (rfl) 5 rfl fun a hS => ⟨b4564, b4579, k4561, k4568, p4560, p4567, S, hS, hw0⟩
     ·intro l hi hp hc a w ⟨b4564, b4579, k4561, k4568, p4560, p4567, S, hS, hw⟩
      have hw0 := hw
      have h_5 := hp 5 rfl
      have h_2 := hc 5 2 rfl h_5
      have hw := hw.fixR 4 (r' := .row (some ⟨b4564, 0, none⟩) ([(⟨#[97, 49]⟩ : ByteArray), (⟨#[97, 50]⟩ : ByteArray), (⟨#[98, 49]⟩ : ByteArray), (⟨#[98, 50]⟩ : ByteArray)] : List ByteArray).length ([(⟨#[97, 49]⟩ : ByteArray), (⟨#[97, 50]⟩ : ByteArray), (⟨#[98, 49]⟩ : ByteArray), (⟨#[98, 50]⟩ : ByteArray)] : List ByteArray).length [.string (⟨#[97, 49]⟩ : ByteArray), .string (⟨#[97, 50]⟩ : ByteArray), .string (⟨#[98, 49]⟩ : ByteArray), .string (⟨#[98, 50]⟩ : ByteArray)] 9 1) rfl ((bT h_2))
      have hw := hw.yes 5 rfl h_2
      obtain ⟨c4577, h4573, h4578, h4571⟩ := hw.elemRX (α := ByteArray) 4 rfl 0 rfl h4570
      obtain ⟨_, rfl, rfl⟩ := h4571
      refine S_val hS (.v (t := 46) 5 rfl h_5 .nil) rfl rfl trivial (y_loadQ1 (j := 0) (hw.ownAt 4 rfl) rfl Try.isAgg9 h4578 rfl) (rfl) 6 rfl fun a hS => ⟨b4564, b4579, k4561, k4568, p4560, p4567, S, hS, hw0⟩
     ·intro l hi hp hc a w ⟨b4564, b4579, k4561, k4568, p4560, p4567, S, hS, hw⟩
      refine S_eff rfl ?_
      have hs := hS.open_ .nil
      refine w_alloc (cs := [.bool false, .int .i64 0, .int .i64 0]) hs hw Try.zeroValue32 rfl rfl trivial ?_
      intro b4579 a w hs hw
      have h_8 := l_neg hc 8 hi rfl
      have hw := hw.fixR 0 (r' := (bif l 8 then .box b4579 [.bool rv4559.1.Drop, .int .i64 rv4559.1.Delay, .int .i64 rv4559.1.Copies] 32 else .box b4579 [.bool false, .int .i64 0, .int .i64 0] 32)) rfl ((bF h_8)).symm
      refine nl ?_
      exact ⟨b4564, b4579, k4561, k4568, p4560, p4567, S, hS.close .nil hs rfl (.same (.same (.same (.same (.same (.same (.same (.here (.same .nil))))))))) 7 rfl, hw.ft [1, 2, 3, 4, 5, 0] [0, 1, 2, 3, 4, 5, 6] (by decide) rfl rfl⟩
     ·intro l hi hp hc a w ⟨b4564, b4579, k4561, k4568, p4560, p4567, S, hS, hw⟩
      have h_7 := hp 7 rfl
      have hw := hw.fixR 5 (r' := .box b4579 [.bool false, .int .i64 0, .int .i64 0] 32) rfl ((bF hi).trans ((bT h_7)))
      have h_1 := hp 1 rfl
      refine S_eff rfl ?_
      have hs := hS.open_ (.v (t := 8) 7 rfl h_7 (.v (t := 42) 1 rfl h_1 .nil))
      refine w_store (m := 3) (cs' := [.bool rv4559.1.Drop, .int .i64 rv4559.1.Delay, .int .i64 rv4559.1.Copies]) hs hw 5 rfl rfl rfl Try.sizeOf32 rfl rfl rfl rfl trivial ?_
      intro a w hs hw
      refine nl ?_
      exact ⟨b4564, b4579, k4561, k4568, p4560, p4567, S, hS.close0 (.v (t := 8) 7 rfl h_7 (.v (t := 42) 1 rfl h_1 .nil)) hs rfl, hw.ft [0, 1, 2, 3, 4, 5] [0, 1, 2, 3, 4, 5, 6] (by decide) rfl rfl⟩
     ·intro l hi hp hc a w ⟨b4564, b4579, k4561, k4568, p4560, p4567, S, hS, hw⟩
      have h_6 := hp 6 rfl
      refine S_val hS (.v (t := 47) 6 rfl h_6 .nil) rfl rfl trivial (y_assign rfl) (rfl) 8 rfl fun a hS => ⟨b4564, b4579, k4561, k4568, p4560, p4567, S, hS, hw⟩
     intro l a w hl ⟨b4564, b4579, k4561, k4568, p4560, p4567, S, hS, hw⟩
     have hw := hw.yes 6 rfl (hl 4 (by decide))
     have hw := hw.fixR 0 (r' := .box b30 [.slice p4567 rv4566.2.L.length k4568, .int .i64 rv4566.2.At] 59) rfl (bT (hl 4 (by decide)))
     have hw := hw.fixR 5 (r' := .box b4579 [.bool rv4559.1.Drop, .int .i64 rv4559.1.Delay, .int .i64 rv4559.1.Copies] 32) rfl (bT (hl 8 (by decide)))
     have hs := hS.on (.b (t := 3) rfl (.b (t := 4) rfl (.b (t := 5) rfl (.b (t := 6) rfl (.b (t := 7) rfl (.v (t := 8) 7 rfl (hl 7 (by decide)) (.v (t := 9) 8 rfl (hl 9 (by decide)) .nil)))))))
     exact ⟨S, b4579, k4568, p4567, (hs.wk rfl), (hw.ft [0, 1, 2, 3, 5] [0, 2, 3, 4] (by decide) rfl rfl)⟩
    rintro a w ⟨Sv4580, b4579, k4568, p4567, hs, hw⟩
    refine then_normal ?_
    refine sr ?_
    refine sv hs (y_loadBA (hw.ownAt 1 rfl) rfl Try.isAgg29 Try.sizeOf29 rfl rfl) rfl fun a hs => ?_
    refine mv hs rfl rfl fun a hs => ?_
    refine sv hs (y_loadBA (hw.ownAt 4 rfl) rfl Try.isAgg32 Try.sizeOf32 rfl rfl) rfl fun a hs => ?_
    obtain ⟨rv4612, h4611, hsh⟩ := bind_t hsh
    refine st_callR hs (link_Send_ok h4611 hw.dom (hw.envAt 1 rfl)) (do_call Try.call13 rfl) trivial rfl rfl ?_
    intro v4620 Sv4617 w a h4618 h4619 hs
    obtain ⟨p4613, k4614, c4616, rfl, h4621, h4615⟩ := h4619
    have hw := hw.callN h4618 h4621
    have hw := hw.addE (e := RowA c4616 rv4612.1.Items) h4615
    refine mv hs rfl rfl fun a hs => ?_
    refine sv hs (y_extract rfl rfl) rfl fun a hs => ?_
    refine sv hs (y_extract rfl rfl) rfl fun a hs => ?_
    refine w_alloc (cs := [.int .i64 0, .int .i64 0, .slice none ([] : List Transit).length 0]) hs hw Try.zeroValue29 rfl rfl trivial ?_
    intro b4622 a w hs hw
    refine w_store (m := 3) (cs' := [.int .i64 rv4612.1.Now, .int .i64 rv4612.1.Order, .slice p4613 rv4612.1.Items.length k4614]) hs hw 0 rfl rfl rfl Try.sizeOf29 rfl rfl rfl rfl trivial ?_
    intro a w hs hw
    refine av hs rfl rfl fun a hs => ?_
    refine nl ?_
    refine wp_seq ?_
    refine wp_only (fun a w => ∃ (Sv4625 : Nat → Prop) (b4623 : Nat) (b4624 : Nat), Sl 162 [(3, .pointer (some ⟨b30, 0, none⟩)), (4, .pointer (some ⟨b69, 0, none⟩)), (5, .pointer (some ⟨b70, 0, none⟩)), (6, .pointer (some ⟨b71, 0, none⟩)), (7, .int .i64 sv1539.2.2.2.2.2.2.2.2.2.2.2), (8, .pointer (some ⟨b4579, 0, none⟩)), (9, .string x4572), (10, .pointer (some ⟨b4622, 0, none⟩)), (11, .int .i64 rv4612.2), (12, .pointer (some ⟨b4623, 0, none⟩)), (13, .pointer (some ⟨b4624, 0, none⟩))] a ∧ Wd ⟨w0, S0, []⟩ Sv4625 [.box b30 [.slice p4567 rv4566.2.L.length k4568, .int .i64 rv4566.2.At] 59, .box b69 [.int .i64 sv1539.2.2.1, .int .i64 sv1539.2.2.2.1, .slice p2515 sv1539.2.2.2.2.1.length k2516] 29, .box b70 [.int .i64 sv1539.2.2.2.2.2.1, .int .i64 sv1539.2.2.2.2.2.2.1, .slice p2517 sv1539.2.2.2.2.2.2.2.1.length k2518] 29, .box b71 [.int .i64 sv1539.2.2.2.2.2.2.2.2.1, .int .i64 sv1539.2.2.2.2.2.2.2.2.2.1, .slice p2519 sv1539.2.2.2.2.2.2.2.2.2.2.1.length k2520] 29, .box b4579 [.bool rv4559.1.Drop, .int .i64 rv4559.1.Delay, .int .i64 rv4559.1.Copies] 32, .box b4622 [.int .i64 rv4612.1.Now, .int .i64 rv4612.1.Order, .slice p4613 rv4612.1.Items.length k4614] 29, .box b4623 [.int .i64 sv1539.2.2.2.2.2.1, .int .i64 sv1539.2.2.2.2.2.2.1, .slice p2517 sv1539.2.2.2.2.2.2.2.1.length k2518] 29, .box b4624 [.int .i64 sv1539.2.2.2.2.2.2.2.2.1, .int .i64 sv1539.2.2.2.2.2.2.2.2.2.1, .slice p2519 sv1539.2.2.2.2.2.2.2.2.2.2.1.length k2520] 29, .row p4613 rv4612.1.Items.length k4614 c4616 47 3] [SlA p4567 rv4566.2.L.length k4568 rv4566.2.L, SlA p2515 sv1539.2.2.2.2.1.length k2516 sv1539.2.2.2.2.1, SlA p2517 sv1539.2.2.2.2.2.2.2.1.length k2518 sv1539.2.2.2.2.2.2.2.1, SlA p2519 sv1539.2.2.2.2.2.2.2.2.2.2.1.length k2520 sv1539.2.2.2.2.2.2.2.2.2.2.1, RowA c4616 rv4612.1.Items] w) ?_ ?_
    ·refine h_b (C := Cls [.box b4622 [.int .i64 rv4612.1.Now, .int .i64 rv4612.1.Order, .slice p4613 rv4612.1.Items.length k4614] 29, .row p4613 rv4612.1.Items.length k4614 c4616 47 3, .box b30 [.slice p4567 rv4566.2.L.length k4568, .int .i64 rv4566.2.At] 59, .box b69 [.int .i64 sv1539.2.2.1, .int .i64 sv1539.2.2.2.1, .slice p2515 sv1539.2.2.2.2.1.length k2516] 29, .box b70 [.int .i64 sv1539.2.2.2.2.2.1, .int .i64 sv1539.2.2.2.2.2.2.1, .slice p2517 sv1539.2.2.2.2.2.2.2.1.length k2518] 29, .box b71 [.int .i64 sv1539.2.2.2.2.2.2.2.2.1, .int .i64 sv1539.2.2.2.2.2.2.2.2.2.1, .slice p2519 sv1539.2.2.2.2.2.2.2.2.2.2.1.length k2520] 29, .box b4579 [.bool rv4559.1.Drop, .int .i64 rv4559.1.Delay, .int .i64 rv4559.1.Copies] 32] []) (by kernel_rfl) rfl (hw.drew.cs [0, 1, 2, 3, 4, 5, 6] [] rfl rfl) fun hC => ?_
     have hw := hw.drew
     refine gv hs 0 rfl rfl hC (fun w hC => y_loadBA (hC.ownAt 4 rfl) rfl Try.isAgg29 Try.sizeOf29 rfl rfl) fun a hs => ?_
     refine gv hs 1 rfl rfl hC (fun w hC => y_loadBA (hC.ownAt 5 rfl) rfl Try.isAgg29 Try.sizeOf29 rfl rfl) fun a hs => ?_
     refine h_all (rs := [2, 3]) (by kernel_rfl) rfl ?_
     refine AllH.cons rfl ?_ ?_
     ·refine w_alloc (cs := [.int .i64 0, .int .i64 0, .slice none ([] : List Transit).length 0]) hs hw Try.zeroValue29 rfl rfl trivial ?_
      intro b4623 a w hs hw
      refine h_nx (hw.cs [1, 2, 3, 4, 5, 6, 7] [] rfl rfl) fun hC => ?_
      refine ho 3 rfl ?_
      refine w_alloc (cs := [.int .i64 0, .int .i64 0, .slice none ([] : List Transit).length 0]) hs hw Try.zeroValue29 rfl rfl trivial ?_
      intro b4624 a w hs hw
      refine h_nx (hw.cs [2, 3, 4, 5, 6, 7, 8] [] rfl rfl) fun hC => ?_
      refine ho 4 rfl ?_
      refine w_store (m := 3) (cs' := [.int .i64 sv1539.2.2.2.2.2.1, .int .i64 sv1539.2.2.2.2.2.2.1, .slice p2517 sv1539.2.2.2.2.2.2.2.1.length k2518]) hs hw 1 rfl rfl rfl Try.sizeOf29 rfl rfl rfl rfl trivial ?_
      intro a w hs hw
      refine h_nx (hw.cs [2, 3, 4, 5, 6, 7, 8] [] rfl rfl) fun hC => ?_
      refine ho 5 rfl ?_
      refine w_store (m := 3) (cs' := [.int .i64 sv1539.2.2.2.2.2.2.2.2.1, .int .i64 sv1539.2.2.2.2.2.2.2.2.2.1, .slice p2519 sv1539.2.2.2.2.2.2.2.2.2.2.1.length k2520]) hs hw 0 rfl rfl rfl Try.sizeOf29 rfl rfl rfl rfl trivial ?_
      intro a w hs hw
      refine h_nx (hw.cs [2, 3, 4, 5, 6, 7, 8] [] rfl rfl) fun hC => ?_
      refine h_done (by kernel_rfl) ?_
      exact ⟨Sv4617, b4623, b4624, (hs.wk rfl), (hw.ft [4, 5, 6, 7, 8, 2, 1, 0, 3] [1, 2, 3, 4, 0] (by decide) rfl rfl)⟩
     refine AllH.cons rfl ?_ ?_
     ·refine w_alloc (cs := [.int .i64 0, .int .i64 0, .slice none ([] : List Transit).length 0]) hs hw Try.zeroValue29 rfl rfl trivial ?_
      intro b4624 a w hs hw
      refine h_nx (hw.cs [1, 2, 3, 4, 5, 6, 7] [] rfl rfl) fun hC => ?_
      refine ho 2 rfl ?_
      refine w_alloc (cs := [.int .i64 0, .int .i64 0, .slice none ([] : List Transit).length 0]) hs hw Try.zeroValue29 rfl rfl trivial ?_
      intro b4623 a w hs hw
      refine h_nx (hw.cs [2, 3, 4, 5, 6, 7, 8] [] rfl rfl) fun hC => ?_
      refine ho 4 rfl ?_
      refine w_store (m := 3) (cs' := [.int .i64 sv1539.2.2.2.2.2.1, .int .i64 sv1539.2.2.2.2.2.2.1, .slice p2517 sv1539.2.2.2.2.2.2.2.1.length k2518]) hs hw 0 rfl rfl rfl Try.sizeOf29 rfl rfl rfl rfl trivial ?_
      intro a w hs hw
      refine h_nx (hw.cs [2, 3, 4, 5, 6, 7, 8] [] rfl rfl) fun hC => ?_
      refine ho 5 rfl ?_
      refine w_store (m := 3) (cs' := [.int .i64 sv1539.2.2.2.2.2.2.2.2.1, .int .i64 sv1539.2.2.2.2.2.2.2.2.2.1, .slice p2519 sv1539.2.2.2.2.2.2.2.2.2.2.1.length k2520]) hs hw 1 rfl rfl rfl Try.sizeOf29 rfl rfl rfl rfl trivial ?_
      intro a w hs hw
      refine h_nx (hw.cs [2, 3, 4, 5, 6, 7, 8] [] rfl rfl) fun hC => ?_
      refine h_done (by kernel_rfl) ?_
      exact ⟨Sv4617, b4623, b4624, (hs.wk rfl), (hw.ft [4, 5, 6, 7, 8, 2, 0, 1, 3] [1, 2, 3, 4, 0] (by decide) rfl rfl)⟩
     exact AllH.nil
    rintro a w ⟨Sv4625, b4623, b4624, hs, hw⟩
    refine then_normal ?_
    refine sr ?_
    refine av hs rfl rfl fun a hs => ?_
    refine nl ?_
    refine wp_seq ?_
    refine sr ?_
    refine mv hs rfl rfl fun a hs => ?_
    obtain ⟨c4627, h4626, hsh⟩ := bind_t hsh
    refine sv hs (y_indexSM Try.runUnderlying9 rfl rfl h4626) rfl fun a hs => ?_
    refine sv hs (y_eql rfl rfl) rfl fun a hs => ?_
    refine nl ?_
    refine wp_join (fun a w => ∃ (x4656 : Int) (x4657 : Int) (x4658 : (List Transit)) (x4659 : Int) (x4660 : Int) (x4661 : (List Transit)) (g4662 : Int) (p4651 : Option Addr) (k4652 : Nat) (p4653 : Option Addr) (k4654 : Nat) (Sv4655 : Nat → Prop), law09_LinkApart_j4 sv1539 rv4566 rv4612 x4656 x4657 x4658 x4659 x4660 x4661 g4662 = some tv3005 ∧ Sl 162 [(3, .pointer (some ⟨b30, 0, none⟩)), (4, .pointer (some ⟨b69, 0, none⟩)), (5, .pointer (some ⟨b70, 0, none⟩)), (6, .pointer (some ⟨b71, 0, none⟩)), (7, .int .i64 sv1539.2.2.2.2.2.2.2.2.2.2.2), (10, .pointer (some ⟨b4622, 0, none⟩)), (11, .int .i64 rv4612.2), (12, .pointer (some ⟨b4623, 0, none⟩)), (13, .pointer (some ⟨b4624, 0, none⟩)), (14, .int .i64 g4662)] a ∧ Wd ⟨w0, S0, []⟩ Sv4655 [.box b30 [.slice p4567 rv4566.2.L.length k4568, .int .i64 rv4566.2.At] 59, .box b69 [.int .i64 sv1539.2.2.1, .int .i64 sv1539.2.2.2.1, .slice p2515 sv1539.2.2.2.2.1.length k2516] 29, .box b70 [.int .i64 sv1539.2.2.2.2.2.1, .int .i64 sv1539.2.2.2.2.2.2.1, .slice p2517 sv1539.2.2.2.2.2.2.2.1.length k2518] 29, .box b71 [.int .i64 sv1539.2.2.2.2.2.2.2.2.1, .int .i64 sv1539.2.2.2.2.2.2.2.2.2.1, .slice p2519 sv1539.2.2.2.2.2.2.2.2.2.2.1.length k2520] 29, .box b4622 [.int .i64 rv4612.1.Now, .int .i64 rv4612.1.Order, .slice p4613 rv4612.1.Items.length k4614] 29, .box b4623 [.int .i64 x4656, .int .i64 x4657, .slice p4651 x4658.length k4652] 29, .box b4624 [.int .i64 x4659, .int .i64 x4660, .slice p4653 x4661.length k4654] 29, .row p4613 rv4612.1.Items.length k4614 c4616 47 3] [SlA p4567 rv4566.2.L.length k4568 rv4566.2.L, SlA p2515 sv1539.2.2.2.2.1.length k2516 sv1539.2.2.2.2.1, SlA p2517 sv1539.2.2.2.2.2.2.2.1.length k2518 sv1539.2.2.2.2.2.2.2.1, SlA p2519 sv1539.2.2.2.2.2.2.2.2.2.2.1.length k2520 sv1539.2.2.2.2.2.2.2.2.2.2.1, SlA p4651 x4658.length k4652 x4658, SlA p4653 x4661.length k4654 x4661, RowA c4616 rv4612.1.Items] w) ?_ ?_
    ·refine wp_cond_split (hs.ev rfl) (fun h4670 => ?_) (fun h4670 => ?_)
     ·have hsh := ite_t hsh h4670
      refine wp_region_lit ?_
      refine sv hs (y_loadBA (hw.ownAt 2 rfl) rfl Try.isAgg29 Try.sizeOf29 rfl rfl) rfl fun a hs => ?_
      refine mv hs rfl rfl fun a hs => ?_
      refine sv hs (y_loadBA (hw.ownAt 4 rfl) rfl Try.isAgg32 Try.sizeOf32 rfl rfl) rfl fun a hs => ?_
      obtain ⟨rv4672, h4671, hsh⟩ := bind_t hsh
      refine st_callR hs (link_Send_ok h4671 hw.dom (hw.envAt 2 rfl)) (do_call Try.call13 rfl) trivial rfl rfl ?_
      intro v4680 Sv4677 w a h4678 h4679 hs
      obtain ⟨p4673, k4674, c4676, rfl, h4681, h4675⟩ := h4679
      have hw := hw.callN h4678 h4681
      have hw := hw.addE (e := RowA c4676 rv4672.1.Items) h4675
      refine mv hs rfl rfl fun a hs => ?_
      refine sv hs (y_extract rfl rfl) rfl fun a hs => ?_
      refine sv hs (y_extract rfl rfl) rfl fun a hs => ?_
      refine w_store (m := 3) (cs' := [.int .i64 rv4672.1.Now, .int .i64 rv4672.1.Order, .slice p4673 rv4672.1.Items.length k4674]) hs hw 7 rfl rfl rfl Try.sizeOf29 rfl rfl rfl rfl trivial ?_
      intro a w hs hw
      refine av hs rfl rfl fun a hs => ?_
      refine nl ?_
      obtain ⟨Sv4682, hw⟩ := w_share (α := Transit) hw 0 rfl 0 rfl
      exact ⟨rv4672.1.Now, rv4672.1.Order, rv4672.1.Items, sv1539.2.2.2.2.2.2.2.2.1, sv1539.2.2.2.2.2.2.2.2.2.1, sv1539.2.2.2.2.2.2.2.2.2.2.1, rv4672.2, p4673, k4674, p2519, k2520, Sv4682, hsh, (hs.wk rfl), (hw.ft [0, 1, 2, 3, 5, 6, 7, 8] [2, 3, 4, 5, 0, 5, 6] (by decide) rfl rfl)⟩
     have hsh := ite_f hsh h4670
     refine wp_region_lit ?_
     refine sv hs (y_loadBA (hw.ownAt 3 rfl) rfl Try.isAgg29 Try.sizeOf29 rfl rfl) rfl fun a hs => ?_
     refine mv hs rfl rfl fun a hs => ?_
     refine sv hs (y_loadBA (hw.ownAt 4 rfl) rfl Try.isAgg32 Try.sizeOf32 rfl rfl) rfl fun a hs => ?_
     obtain ⟨rv4684, h4683, hsh⟩ := bind_t hsh
     refine st_callR hs (link_Send_ok h4683 hw.dom (hw.envAt 3 rfl)) (do_call Try.call13 rfl) trivial rfl rfl ?_
     intro v4692 Sv4689 w a h4690 h4691 hs
     obtain ⟨p4685, k4686, c4688, rfl, h4693, h4687⟩ := h4691
     have hw := hw.callN h4690 h4693
     have hw := hw.addE (e := RowA c4688 rv4684.1.Items) h4687
     refine mv hs rfl rfl fun a hs => ?_
     refine sv hs (y_extract rfl rfl) rfl fun a hs => ?_
     refine sv hs (y_extract rfl rfl) rfl fun a hs => ?_
     refine w_store (m := 3) (cs' := [.int .i64 rv4684.1.Now, .int .i64 rv4684.1.Order, .slice p4685 rv4684.1.Items.length k4686]) hs hw 8 rfl rfl rfl Try.sizeOf29 rfl rfl rfl rfl trivial ?_
     intro a w hs hw
     refine av hs rfl rfl fun a hs => ?_
     refine nl ?_
     obtain ⟨Sv4694, hw⟩ := w_share (α := Transit) hw 0 rfl 0 rfl
     exact ⟨sv1539.2.2.2.2.2.1, sv1539.2.2.2.2.2.2.1, sv1539.2.2.2.2.2.2.2.1, rv4684.1.Now, rv4684.1.Order, rv4684.1.Items, rv4684.2, p2517, k2518, p4685, k4686, Sv4694, hsh, (hs.wk rfl), (hw.ft [0, 1, 2, 3, 5, 6, 7, 8] [2, 3, 4, 5, 4, 0, 6] (by decide) rfl rfl)⟩
    rintro a w ⟨x4656, x4657, x4658, x4659, x4660, x4661, g4662, p4651, k4652, p4653, k4654, Sv4655, hsh, hs, hw⟩
    delta law09_LinkApart_j4 at hsh
    refine then_normal ?_
    refine wp_seq ?_
    refine sr ?_
    refine mv hs rfl rfl fun a hs => ?_
    refine sv hs (y_neq rfl rfl) rfl fun a hs => ?_
    refine mv hs rfl rfl fun a hs => ?_
    refine wpl_join 3 (fun a w1 => w = w1 ∧ Sl 162 [(3, .pointer (some ⟨b30, 0, none⟩)), (4, .pointer (some ⟨b69, 0, none⟩)), (5, .pointer (some ⟨b70, 0, none⟩)), (6, .pointer (some ⟨b71, 0, none⟩)), (7, .int .i64 sv1539.2.2.2.2.2.2.2.2.2.2.2), (10, .pointer (some ⟨b4622, 0, none⟩)), (12, .pointer (some ⟨b4623, 0, none⟩)), (13, .pointer (some ⟨b4624, 0, none⟩)), (79, .bool ((rv4612.2 != 0) || (g4662 != 0)))] a) ?_ ?_
    ·rcases Bool.eq_false_or_eq_true (rv4612.2 != 0) with h4663 | h4663
     ·have hs := hs.fix 76 (.bool true) rfl (vb h4663)
      refine st_skip hs rfl rfl rfl rfl rfl fun a hs => ?_
      refine st_skip hs rfl rfl rfl rfl rfl fun a hs => ?_
      refine sv hs (y_pickT rfl rfl) rfl fun a hs => ?_
      refine nl ?_
      exact ⟨rfl, (hs.fix 79 (.bool ((rv4612.2 != 0) || (g4662 != 0))) rfl (or_t h4663)).weaken _ ⟨rfl, rfl, rfl, rfl, rfl, rfl, rfl, rfl, rfl, trivial⟩⟩
     have hs := hs.fix 76 (.bool false) rfl (vb h4663)
     refine st_val hs (y_move rfl) ⟨_, rfl, rfl⟩ rfl rfl fun a hs => ?_
     refine st_val hs (y_neq rfl rfl) ⟨_, rfl, rfl⟩ rfl rfl fun a hs => ?_
     refine sv hs (y_pickF rfl rfl) rfl fun a hs => ?_
     refine nl ?_
     exact ⟨rfl, (hs.fix 79 (.bool ((rv4612.2 != 0) || (g4662 != 0))) rfl (or_f h4663)).weaken _ ⟨rfl, rfl, rfl, rfl, rfl, rfl, rfl, rfl, rfl, trivial⟩⟩
    rintro a w1 ⟨h4669, hs⟩
    subst h4669
    refine nl ?_
    refine wp_cond_split (hs.ev rfl) (fun h4665 => ?_) (fun h4665 => ?_)
    ·have hsh := ite_t hsh h4665
     refine sr ?_
     refine av hs rfl rfl fun a hs => ?_
     refine nl ?_
     have hsh := oi hsh
     subst hsh
     have h4666 := hd3004 _ rfl
     subst h4666
     refine wp_ret ?_
     refine then_ret ?_
     refine then_ret ?_
     refine then_ret ?_
     refine blk_ret ?_
     refine then_ret ?_
     refine then_ret ?_
     refine blk_ret ?_
     refine then_ret ?_
     exact ret1 hs rfl (rv_tmp rfl) (hw.ret rfl)
    have hsh := ite_f hsh h4665
    refine wp_skip ?_
    refine then_normal ?_
    refine wp_only (fun a w => ∃ (Sv4667 : Nat → Prop), Sl 162 [(3, .pointer (some ⟨b30, 0, none⟩)), (4, .pointer (some ⟨b69, 0, none⟩)), (5, .pointer (some ⟨b70, 0, none⟩)), (6, .pointer (some ⟨b71, 0, none⟩)), (7, .int .i64 sv1539.2.2.2.2.2.2.2.2.2.2.2)] a ∧ Wd ⟨w0, S0, []⟩ Sv4667 [.box b30 [.slice p4567 rv4566.2.L.length k4568, .int .i64 rv4566.2.At] 59, .box b69 [.int .i64 rv4612.1.Now, .int .i64 rv4612.1.Order, .slice p4613 rv4612.1.Items.length k4614] 29, .box b70 [.int .i64 x4656, .int .i64 x4657, .slice p4651 x4658.length k4652] 29, .box b71 [.int .i64 x4659, .int .i64 x4660, .slice p4653 x4661.length k4654] 29, .row p4613 rv4612.1.Items.length k4614 c4616 47 3] [SlA p4567 rv4566.2.L.length k4568 rv4566.2.L, SlA p4651 x4658.length k4652 x4658, SlA p4653 x4661.length k4654 x4661, RowA c4616 rv4612.1.Items] w) ?_ ?_
    ·refine h_b (C := Cls [.box b30 [.slice p4567 rv4566.2.L.length k4568, .int .i64 rv4566.2.At] 59, .box b4622 [.int .i64 rv4612.1.Now, .int .i64 rv4612.1.Order, .slice p4613 rv4612.1.Items.length k4614] 29, .box b4623 [.int .i64 x4656, .int .i64 x4657, .slice p4651 x4658.length k4652] 29, .box b4624 [.int .i64 x4659, .int .i64 x4660, .slice p4653 x4661.length k4654] 29, .row p4613 rv4612.1.Items.length k4614 c4616 47 3] []) (by kernel_rfl) rfl (hw.drew.cs [0, 4, 5, 6, 7] [] rfl rfl) fun hC => ?_
     have hw := hw.drew
     refine gv hs 0 rfl rfl hC (fun w hC => y_loadBA (hC.ownAt 1 rfl) rfl Try.isAgg29 Try.sizeOf29 rfl rfl) fun a hs => ?_
     refine gv hs 1 rfl rfl hC (fun w hC => y_loadBA (hC.ownAt 2 rfl) rfl Try.isAgg29 Try.sizeOf29 rfl rfl) fun a hs => ?_
     refine gv hs 2 rfl rfl hC (fun w hC => y_loadBA (hC.ownAt 3 rfl) rfl Try.isAgg29 Try.sizeOf29 rfl rfl) fun a hs => ?_
     refine ho 3 rfl ?_
     refine w_store (m := 3) (cs' := [.int .i64 rv4612.1.Now, .int .i64 rv4612.1.Order, .slice p4613 rv4612.1.Items.length k4614]) hs hw 1 rfl rfl rfl Try.sizeOf29 rfl rfl rfl rfl trivial ?_
     intro a w hs hw
     refine h_nx (hw.cs [0, 4, 5, 6, 7] [] rfl rfl) fun hC => ?_
     refine ho 4 rfl ?_
     refine w_store (m := 3) (cs' := [.int .i64 x4656, .int .i64 x4657, .slice p4651 x4658.length k4652]) hs hw 2 rfl rfl rfl Try.sizeOf29 rfl rfl rfl rfl trivial ?_
     intro a w hs hw
     refine h_nx (hw.cs [0, 4, 5, 6, 7] [] rfl rfl) fun hC => ?_
     refine ho 5 rfl ?_
     refine w_store (m := 3) (cs' := [.int .i64 x4659, .int .i64 x4660, .slice p4653 x4661.length k4654]) hs hw 3 rfl rfl rfl Try.sizeOf29 rfl rfl rfl rfl trivial ?_
     intro a w hs hw
     refine h_nx (hw.cs [0, 4, 5, 6, 7] [] rfl rfl) fun hC => ?_
     refine h_done (by kernel_rfl) ?_
     exact ⟨Sv4655, (hs.wk rfl), (hw.ft [0, 1, 2, 3, 7] [0, 4, 5, 6] (by decide) rfl rfl)⟩
    rintro a w ⟨Sv4667, hs, hw⟩
    refine then_normal ?_
    obtain ⟨Sv4668, hw⟩ := w_share (α := Transit) hw 4 rfl 3 rfl
    exact ⟨rv4566.2.L, rv4566.2.At, rv4612.1.Now, rv4612.1.Order, rv4612.1.Items, x4656, x4657, x4658, x4659, x4660, x4661, p4567, k4568, p4613, k4614, p4651, k4652, p4653, k4654, Sv4668, hsh, (hs.wk rfl), (hw.ft [0, 1, 2, 3] [1, 0, 2, 3] (by decide) rfl rfl)⟩
   have hsh := ite_f hsh h4557
   refine wp_skip ?_
   refine then_normal ?_
   exact ⟨sv1539.1, sv1539.2.1, sv1539.2.2.1, sv1539.2.2.2.1, sv1539.2.2.2.2.1, sv1539.2.2.2.2.2.1, sv1539.2.2.2.2.2.2.1, sv1539.2.2.2.2.2.2.2.1, sv1539.2.2.2.2.2.2.2.2.1, sv1539.2.2.2.2.2.2.2.2.2.1, sv1539.2.2.2.2.2.2.2.2.2.2.1, p2513, k2514, p2515, k2516, p2517, k2518, p2519, k2520, Sv2521, hsh, (hs.wk rfl), (hw.ft [0, 1, 2, 3] [0, 1, 2, 3] (by decide) rfl rfl)⟩
  rintro a w ⟨x3578, x3579, x3580, x3581, x3582, x3583, x3584, x3585, x3586, x3587, x3588, p3569, k3570, p3571, k3572, p3573, k3574, p3575, k3576, Sv3577, hsh, hs, hw⟩
  delta law09_LinkApart_j1 at hsh
  refine then_normal ?_
  refine sr ?_
  refine sv hs (y_loadBA (hw.ownAt 1 rfl) rfl Try.isAgg29 Try.sizeOf29 rfl rfl) rfl fun a hs => ?_
  obtain ⟨rv3590, h3589, hsh⟩ := bind_t hsh
  refine st_callR hs (link_Tick_ok h3589 hw.dom (hw.envAt 1 rfl)) (do_call Try.call14 rfl) trivial rfl rfl ?_
  intro v3602 Sv3599 w a h3600 h3601 hs
  obtain ⟨p3591, k3592, c3594, p3595, k3596, c3598, rfl, h3603, h3593, h3597⟩ := h3601
  have hw := hw.callN h3600 h3603
  have hw := hw.addE (e := RowA c3594 rv3590.1.Items) h3593
  have hw := hw.addE (e := RowA c3598 rv3590.2.1) h3597
  refine mv hs rfl rfl fun a hs => ?_
  refine sv hs (y_extract rfl rfl) rfl fun a hs => ?_
  refine sv hs (y_extract rfl rfl) rfl fun a hs => ?_
  refine sv hs (y_extract rfl rfl) rfl fun a hs => ?_
  refine w_alloc (cs := [.int .i64 0, .int .i64 0, .slice none ([] : List Transit).length 0]) hs hw Try.zeroValue29 rfl rfl trivial ?_
  intro b3604 a w hs hw
  refine w_store (m := 3) (cs' := [.int .i64 rv3590.1.Now, .int .i64 rv3590.1.Order, .slice p3591 rv3590.1.Items.length k3592]) hs hw 0 rfl rfl rfl Try.sizeOf29 rfl rfl rfl rfl trivial ?_
  intro a w hs hw
  refine av hs rfl rfl fun a hs => ?_
  refine av hs rfl rfl fun a hs => ?_
  refine nl ?_
  refine sr ?_
  refine sv hs (y_loadBA (hw.ownAt 5 rfl) rfl Try.isAgg29 Try.sizeOf29 rfl rfl) rfl fun a hs => ?_
  obtain ⟨rv3606, h3605, hsh⟩ := bind_t hsh
  refine st_callR hs (link_Tick_ok h3605 hw.dom (hw.envAt 4 rfl)) (do_call Try.call14 rfl) trivial rfl rfl ?_
  intro v3618 Sv3615 w a h3616 h3617 hs
  obtain ⟨p3607, k3608, c3610, p3611, k3612, c3614, rfl, h3619, h3609, h3613⟩ := h3617
  have hw := hw.callN h3616 h3619
  have hw := hw.addE (e := RowA c3610 rv3606.1.Items) h3609
  have hw := hw.addE (e := RowA c3614 rv3606.2.1) h3613
  refine mv hs rfl rfl fun a hs => ?_
  refine sv hs (y_extract rfl rfl) rfl fun a hs => ?_
  refine sv hs (y_extract rfl rfl) rfl fun a hs => ?_
  refine sv hs (y_extract rfl rfl) rfl fun a hs => ?_
  refine w_alloc (cs := [.int .i64 0, .int .i64 0, .slice none ([] : List Transit).length 0]) hs hw Try.zeroValue29 rfl rfl trivial ?_
  intro b3620 a w hs hw
  refine w_store (m := 3) (cs' := [.int .i64 rv3606.1.Now, .int .i64 rv3606.1.Order, .slice p3607 rv3606.1.Items.length k3608]) hs hw 0 rfl rfl rfl Try.sizeOf29 rfl rfl rfl rfl trivial ?_
  intro a w hs hw
  refine av hs rfl rfl fun a hs => ?_
  refine av hs rfl rfl fun a hs => ?_
  refine nl ?_
  refine sr ?_
  refine sv hs (y_loadBA (hw.ownAt 9 rfl) rfl Try.isAgg29 Try.sizeOf29 rfl rfl) rfl fun a hs => ?_
  obtain ⟨rv3622, h3621, hsh⟩ := bind_t hsh
  refine st_callR hs (link_Tick_ok h3621 hw.dom (hw.envAt 7 rfl)) (do_call Try.call14 rfl) trivial rfl rfl ?_
  intro v3634 Sv3631 w a h3632 h3633 hs
  obtain ⟨p3623, k3624, c3626, p3627, k3628, c3630, rfl, h3635, h3625, h3629⟩ := h3633
  have hw := hw.callN h3632 h3635
  have hw := hw.addE (e := RowA c3626 rv3622.1.Items) h3625
  have hw := hw.addE (e := RowA c3630 rv3622.2.1) h3629
  refine mv hs rfl rfl fun a hs => ?_
  refine sv hs (y_extract rfl rfl) rfl fun a hs => ?_
  refine sv hs (y_extract rfl rfl) rfl fun a hs => ?_
  refine sv hs (y_extract rfl rfl) rfl fun a hs => ?_
  refine w_alloc (cs := [.int .i64 0, .int .i64 0, .slice none ([] : List Transit).length 0]) hs hw Try.zeroValue29 rfl rfl trivial ?_
  intro b3636 a w hs hw
  refine w_store (m := 3) (cs' := [.int .i64 rv3622.1.Now, .int .i64 rv3622.1.Order, .slice p3623 rv3622.1.Items.length k3624]) hs hw 0 rfl rfl rfl Try.sizeOf29 rfl rfl rfl rfl trivial ?_
  intro a w hs hw
  refine av hs rfl rfl fun a hs => ?_
  refine av hs rfl rfl fun a hs => ?_
  refine nl ?_
  refine wp_seq ?_
  refine sr ?_
  refine mv hs rfl rfl fun a hs => ?_
  refine sv hs (y_neq rfl rfl) rfl fun a hs => ?_
  refine mv hs rfl rfl fun a hs => ?_
  refine wpl_join 3 (fun a w1 => w = w1 ∧ Sl 162 [(3, .pointer (some ⟨b30, 0, none⟩)), (4, .pointer (some ⟨b69, 0, none⟩)), (5, .pointer (some ⟨b70, 0, none⟩)), (6, .pointer (some ⟨b71, 0, none⟩)), (7, .int .i64 sv1539.2.2.2.2.2.2.2.2.2.2.2), (15, .pointer (some ⟨b3604, 0, none⟩)), (16, .slice p3595 rv3590.2.1.length k3596), (18, .pointer (some ⟨b3620, 0, none⟩)), (19, .slice p3611 rv3606.2.1.length k3612), (21, .pointer (some ⟨b3636, 0, none⟩)), (22, .slice p3627 rv3622.2.1.length k3628), (23, .int .i64 rv3622.2.2), (106, .bool ((rv3590.2.2 != 0) || (rv3606.2.2 != 0)))] a) ?_ ?_
  ·rcases Bool.eq_false_or_eq_true (rv3590.2.2 != 0) with h3637 | h3637
   ·have hs := hs.fix 103 (.bool true) rfl (vb h3637)
    refine st_skip hs rfl rfl rfl rfl rfl fun a hs => ?_
    refine st_skip hs rfl rfl rfl rfl rfl fun a hs => ?_
    refine sv hs (y_pickT rfl rfl) rfl fun a hs => ?_
    refine nl ?_
    exact ⟨rfl, (hs.fix 106 (.bool ((rv3590.2.2 != 0) || (rv3606.2.2 != 0))) rfl (or_t h3637)).weaken _ ⟨rfl, rfl, rfl, rfl, rfl, rfl, rfl, rfl, rfl, rfl, rfl, rfl, rfl, trivial⟩⟩
   have hs := hs.fix 103 (.bool false) rfl (vb h3637)
   refine st_val hs (y_move rfl) ⟨_, rfl, rfl⟩ rfl rfl fun a hs => ?_
   refine st_val hs (y_neq rfl rfl) ⟨_, rfl, rfl⟩ rfl rfl fun a hs => ?_
   refine sv hs (y_pickF rfl rfl) rfl fun a hs => ?_
   refine nl ?_
   exact ⟨rfl, (hs.fix 106 (.bool ((rv3590.2.2 != 0) || (rv3606.2.2 != 0))) rfl (or_f h3637)).weaken _ ⟨rfl, rfl, rfl, rfl, rfl, rfl, rfl, rfl, rfl, rfl, rfl, rfl, rfl, trivial⟩⟩
  rintro a w1 ⟨h4556, hs⟩
  subst h4556
  refine mv hs rfl rfl fun a hs => ?_
  refine wpl_join 3 (fun a w1 => w = w1 ∧ Sl 162 [(3, .pointer (some ⟨b30, 0, none⟩)), (4, .pointer (some ⟨b69, 0, none⟩)), (5, .pointer (some ⟨b70, 0, none⟩)), (6, .pointer (some ⟨b71, 0, none⟩)), (7, .int .i64 sv1539.2.2.2.2.2.2.2.2.2.2.2), (15, .pointer (some ⟨b3604, 0, none⟩)), (16, .slice p3595 rv3590.2.1.length k3596), (18, .pointer (some ⟨b3620, 0, none⟩)), (19, .slice p3611 rv3606.2.1.length k3612), (21, .pointer (some ⟨b3636, 0, none⟩)), (22, .slice p3627 rv3622.2.1.length k3628), (110, .bool (((rv3590.2.2 != 0) || (rv3606.2.2 != 0)) || (rv3622.2.2 != 0)))] a) ?_ ?_
  ·rcases Bool.eq_false_or_eq_true ((rv3590.2.2 != 0) || (rv3606.2.2 != 0)) with h3638 | h3638
   ·have hs := hs.fix 107 (.bool true) rfl (vb h3638)
    refine st_skip hs rfl rfl rfl rfl rfl fun a hs => ?_
    refine st_skip hs rfl rfl rfl rfl rfl fun a hs => ?_
    refine sv hs (y_pickT rfl rfl) rfl fun a hs => ?_
    refine nl ?_
    exact ⟨rfl, (hs.fix 110 (.bool (((rv3590.2.2 != 0) || (rv3606.2.2 != 0)) || (rv3622.2.2 != 0))) rfl (or_t h3638)).weaken _ ⟨rfl, rfl, rfl, rfl, rfl, rfl, rfl, rfl, rfl, rfl, rfl, rfl, trivial⟩⟩
   have hs := hs.fix 107 (.bool false) rfl (vb h3638)
   refine st_val hs (y_move rfl) ⟨_, rfl, rfl⟩ rfl rfl fun a hs => ?_
   refine st_val hs (y_neq rfl rfl) ⟨_, rfl, rfl⟩ rfl rfl fun a hs => ?_
   refine sv hs (y_pickF rfl rfl) rfl fun a hs => ?_
   refine nl ?_
   exact ⟨rfl, (hs.fix 110 (.bool (((rv3590.2.2 != 0) || (rv3606.2.2 != 0)) || (rv3622.2.2 != 0))) rfl (or_f h3638)).weaken _ ⟨rfl, rfl, rfl, rfl, rfl, rfl, rfl, rfl, rfl, rfl, rfl, rfl, trivial⟩⟩
  rintro a w1 ⟨h4555, hs⟩
  subst h4555
  refine nl ?_
  refine wp_cond_split (hs.ev rfl) (fun h3640 => ?_) (fun h3640 => ?_)
  ·have hsh := ite_t hsh h3640
   refine sr ?_
   refine av hs rfl rfl fun a hs => ?_
   refine nl ?_
   have hsh := oi hsh
   subst hsh
   have h3641 := hd3004 _ rfl
   subst h3641
   refine wp_ret ?_
   refine then_ret ?_
   refine blk_ret ?_
   refine then_ret ?_
   refine then_ret ?_
   refine blk_ret ?_
   refine then_ret ?_
   exact ret1 hs rfl (rv_tmp rfl) (hw.ret rfl)
  have hsh := ite_f hsh h3640
  refine wp_skip ?_
  refine then_normal ?_
  refine wp_seq ?_
  refine sr ?_
  refine mv hs rfl rfl fun a hs => ?_
  refine sv hs (y_len Try.runUnderlying34 rfl) rfl fun a hs => ?_
  refine mv hs rfl rfl fun a hs => ?_
  refine nl ?_
  refine wp_block ?_
  obtain ⟨Sv4250, hw⟩ := w_share (α := ByteArray) hw 5 rfl 2 rfl
  obtain ⟨Sv4251, hw⟩ := w_share (α := ByteArray) hw 2 rfl 1 rfl
  refine wp_while (fun sv3947 a w => ∃ (p4147 : Option Addr) (k4148 : Nat) (p4149 : Option Addr) (k4150 : Nat) (Sv4151 : Nat → Prop), Sl 162 [(3, .pointer (some ⟨b30, 0, none⟩)), (4, .pointer (some ⟨b69, 0, none⟩)), (5, .pointer (some ⟨b70, 0, none⟩)), (6, .pointer (some ⟨b71, 0, none⟩)), (7, .int .i64 sv1539.2.2.2.2.2.2.2.2.2.2.2), (15, .pointer (some ⟨b3604, 0, none⟩)), (18, .pointer (some ⟨b3620, 0, none⟩)), (19, .slice p4147 sv3947.1.length k4148), (21, .pointer (some ⟨b3636, 0, none⟩)), (22, .slice p4149 sv3947.2.1.length k4150), (111, .slice p3595 rv3590.2.1.length k3596), (112, .int .i64 (rv3590.2.1.length : Int)), (113, .int .i64 sv3947.2.2)] a ∧ Wd ⟨w0, S0, []⟩ Sv4151 [.box b30 [.slice p3569 x3578.length k3570, .int .i64 x3579] 59, .box b69 [.int .i64 x3580, .int .i64 x3581, .slice p3571 x3582.length k3572] 29, .box b70 [.int .i64 x3583, .int .i64 x3584, .slice p3573 x3585.length k3574] 29, .box b71 [.int .i64 x3586, .int .i64 x3587, .slice p3575 x3588.length k3576] 29, .box b3604 [.int .i64 rv3590.1.Now, .int .i64 rv3590.1.Order, .slice p3591 rv3590.1.Items.length k3592] 29, .box b3620 [.int .i64 rv3606.1.Now, .int .i64 rv3606.1.Order, .slice p3607 rv3606.1.Items.length k3608] 29, .box b3636 [.int .i64 rv3622.1.Now, .int .i64 rv3622.1.Order, .slice p3623 rv3622.1.Items.length k3624] 29, .row p3591 rv3590.1.Items.length k3592 c3594 47 3, .row p3607 rv3606.1.Items.length k3608 c3610 47 3, .row p3623 rv3622.1.Items.length k3624 c3626 47 3, .row p3595 rv3590.2.1.length k3596 c3598 9 1] [SlA p4147 sv3947.1.length k4148 sv3947.1, SlA p4149 sv3947.2.1.length k4150 sv3947.2.1, SlA p3569 x3578.length k3570 x3578, SlA p3571 x3582.length k3572 x3582, SlA p3573 x3585.length k3574 x3585, SlA p3575 x3588.length k3576 x3588, RowA c3594 rv3590.1.Items, RowA c3610 rv3606.1.Items, RowA c3626 rv3622.1.Items, RowA c3598 rv3590.2.1] w) (rv3606.2.1, rv3622.2.1, 0) hsh ⟨p3611, k3612, p3627, k3628, Sv4251, (hs.wk rfl), (hw.ft [7, 8, 9, 10, 4, 2, 0, 5, 3, 1, 6] [1, 0, 8, 9, 10, 11, 7, 5, 3, 6] (by decide) rfl rfl)⟩ ?_
  repeat clear hsh
  rintro sv3947 a w tv4249 ⟨p4147, k4148, p4149, k4150, Sv4151, hs, hw⟩ hsh hd4248
  delta law09_LinkApart_l11 at hsh
  refine sr ?_
  refine sv hs (y_lss rfl rfl) rfl fun a hs => ?_
  refine nl ?_
  refine wp_seq ?_
  refine wp_cond_split (hs.ev rfl) (fun h4255 => ?_) (fun h4255 => ?_)
  ·have hsh := ite_t hsh h4255
   refine wp_skip ?_
   refine then_normal ?_
   refine wp_seq ?_
   refine wp_block ?_
   refine sr ?_
   obtain ⟨x4353, h4351, hsh⟩ := bind_t hsh
   obtain ⟨b4360, q4357, c4358, h4361, h4354, h4355, h4359, h4352⟩ := hw.elemRV (α := ByteArray) 10 rfl 9 rfl h4351
   have hsv4362 := hs
   have hwv4363 := hw
   subst h4361
   have hs := hsv4362
   have hw := hwv4363
   obtain ⟨_, rfl, rfl⟩ := h4352
   refine sv hs (y_indexAt Try.runUnderlying34 Try.sizeOf9 rfl rfl h4354.1 h4354.2 h4355) rfl fun a hs => ?_
   refine sv hs (y_loadQ1 (j := 0) (hw.ownAt 10 rfl) rfl Try.isAgg9 h4359 rfl) rfl fun a hs => ?_
   refine av hs rfl rfl fun a hs => ?_
   refine nl ?_
   refine sr ?_
   refine mv hs rfl rfl fun a hs => ?_
   obtain ⟨c4365, h4364, hsh⟩ := bind_t hsh
   refine sv hs (y_indexSM Try.runUnderlying9 rfl rfl h4364) rfl fun a hs => ?_
   refine sv hs (y_eql rfl rfl) rfl fun a hs => ?_
   refine nl ?_
   refine wp_join (fun a w => ∃ (p4444 : (List ByteArray)) (q4445 : (List ByteArray)) (p4439 : Option Addr) (k4440 : Nat) (p4441 : Option Addr) (k4442 : Nat) (Sv4443 : Nat → Prop), law09_LinkApart_j2 sv3947 p4444 q4445 = some tv4249 ∧ Sl 162 [(3, .pointer (some ⟨b30, 0, none⟩)), (4, .pointer (some ⟨b69, 0, none⟩)), (5, .pointer (some ⟨b70, 0, none⟩)), (6, .pointer (some ⟨b71, 0, none⟩)), (7, .int .i64 sv1539.2.2.2.2.2.2.2.2.2.2.2), (15, .pointer (some ⟨b3604, 0, none⟩)), (18, .pointer (some ⟨b3620, 0, none⟩)), (19, .slice p4439 p4444.length k4440), (21, .pointer (some ⟨b3636, 0, none⟩)), (22, .slice p4441 q4445.length k4442), (111, .slice (some ⟨b4360, 0, none⟩) rv3590.2.1.length k3596), (112, .int .i64 (rv3590.2.1.length : Int)), (113, .int .i64 sv3947.2.2)] a ∧ Wd ⟨w0, S0, []⟩ Sv4443 [.box b30 [.slice p3569 x3578.length k3570, .int .i64 x3579] 59, .box b69 [.int .i64 x3580, .int .i64 x3581, .slice p3571 x3582.length k3572] 29, .box b70 [.int .i64 x3583, .int .i64 x3584, .slice p3573 x3585.length k3574] 29, .box b71 [.int .i64 x3586, .int .i64 x3587, .slice p3575 x3588.length k3576] 29, .box b3604 [.int .i64 rv3590.1.Now, .int .i64 rv3590.1.Order, .slice p3591 rv3590.1.Items.length k3592] 29, .box b3620 [.int .i64 rv3606.1.Now, .int .i64 rv3606.1.Order, .slice p3607 rv3606.1.Items.length k3608] 29, .box b3636 [.int .i64 rv3622.1.Now, .int .i64 rv3622.1.Order, .slice p3623 rv3622.1.Items.length k3624] 29, .row p3591 rv3590.1.Items.length k3592 c3594 47 3, .row p3607 rv3606.1.Items.length k3608 c3610 47 3, .row p3623 rv3622.1.Items.length k3624 c3626 47 3, .row (some ⟨b4360, 0, none⟩) rv3590.2.1.length k3596 c3598 9 1] [SlA p4439 p4444.length k4440 p4444, SlA p4441 q4445.length k4442 q4445, SlA p3569 x3578.length k3570 x3578, SlA p3571 x3582.length k3572 x3582, SlA p3573 x3585.length k3574 x3585, SlA p3575 x3588.length k3576 x3588, RowA c3594 rv3590.1.Items, RowA c3610 rv3606.1.Items, RowA c3626 rv3622.1.Items, RowA c3598 rv3590.2.1] w) ?_ ?_
   ·refine wp_cond_split (hs.ev rfl) (fun h4446 => ?_) (fun h4446 => ?_)
    ·have hsh := ite_t hsh h4446
     refine wp_seq ?_
     refine sr ?_
     refine mv hs rfl rfl fun a hs => ?_
     refine sv hs (y_len Try.runUnderlying34 rfl) rfl fun a hs => ?_
     refine sv hs (y_eql rfl rfl) rfl fun a hs => ?_
     refine mv hs rfl rfl fun a hs => ?_
     obtain ⟨c4461, hc4461, hsh⟩ := bind_t hsh
     refine wpl_join 6 (fun a w => ∃ (Sv4462 : Nat → Prop), Sl 162 [(3, .pointer (some ⟨b30, 0, none⟩)), (4, .pointer (some ⟨b69, 0, none⟩)), (5, .pointer (some ⟨b70, 0, none⟩)), (6, .pointer (some ⟨b71, 0, none⟩)), (7, .int .i64 sv1539.2.2.2.2.2.2.2.2.2.2.2), (15, .pointer (some ⟨b3604, 0, none⟩)), (18, .pointer (some ⟨b3620, 0, none⟩)), (19, .slice p4147 sv3947.1.length k4148), (21, .pointer (some ⟨b3636, 0, none⟩)), (22, .slice p4149 sv3947.2.1.length k4150), (111, .slice (some ⟨b4360, 0, none⟩) rv3590.2.1.length k3596), (112, .int .i64 (rv3590.2.1.length : Int)), (113, .int .i64 sv3947.2.2), (129, .bool c4461)] a ∧ Wd ⟨w0, S0, []⟩ Sv4462 [.box b30 [.slice p3569 x3578.length k3570, .int .i64 x3579] 59, .box b69 [.int .i64 x3580, .int .i64 x3581, .slice p3571 x3582.length k3572] 29, .box b70 [.int .i64 x3583, .int .i64 x3584, .slice p3573 x3585.length k3574] 29, .box b71 [.int .i64 x3586, .int .i64 x3587, .slice p3575 x3588.length k3576] 29, .box b3604 [.int .i64 rv3590.1.Now, .int .i64 rv3590.1.Order, .slice p3591 rv3590.1.Items.length k3592] 29, .box b3620 [.int .i64 rv3606.1.Now, .int .i64 rv3606.1.Order, .slice p3607 rv3606.1.Items.length k3608] 29, .box b3636 [.int .i64 rv3622.1.Now, .int .i64 rv3622.1.Order, .slice p3623 rv3622.1.Items.length k3624] 29, .row p3591 rv3590.1.Items.length k3592 c3594 47 3, .row p3607 rv3606.1.Items.length k3608 c3610 47 3, .row p3623 rv3622.1.Items.length k3624 c3626 47 3, .row (some ⟨b4360, 0, none⟩) rv3590.2.1.length k3596 c3598 9 1] [SlA p4147 sv3947.1.length k4148 sv3947.1, SlA p4149 sv3947.2.1.length k4150 sv3947.2.1, SlA p3569 x3578.length k3570 x3578, SlA p3571 x3582.length k3572 x3582, SlA p3573 x3585.length k3574 x3585, SlA p3575 x3588.length k3576 x3588, RowA c3594 rv3590.1.Items, RowA c3610 rv3606.1.Items, RowA c3626 rv3622.1.Items, RowA c3598 rv3590.2.1] w) ?_ ?_
     ·rcases Bool.eq_false_or_eq_true ((sv3947.1.length : Int) == 0) with h4460 | h4460
      ·have hs := hs.fix 123 (.bool true) rfl (vb h4460)
       have hsh := ite_t hc4461 h4460
       refine st_skip hs rfl rfl rfl rfl rfl fun a hs => ?_
       refine st_skip hs rfl rfl rfl rfl rfl fun a hs => ?_
       refine st_skip hs rfl rfl rfl rfl rfl fun a hs => ?_
       refine st_skip hs rfl rfl rfl rfl rfl fun a hs => ?_
       refine st_skip hs rfl rfl rfl rfl rfl fun a hs => ?_
       refine sv hs (y_pickT rfl rfl) rfl fun a hs => ?_
       refine wpList_nil ?_
       have hsh := oi hsh
       subst hsh
       refine then_normal ?_
       exact ⟨Sv4151, (hs.wk rfl), (hw.ft [0, 1, 2, 3, 4, 5, 6, 7, 8, 9, 10] [0, 1, 2, 3, 4, 5, 6, 7, 8, 9] (by decide) rfl rfl)⟩
      have hs := hs.fix 123 (.bool false) rfl (vb h4460)
      have hsh := ite_f hc4461 h4460
      refine st_val hs (y_move rfl) ⟨_, rfl, rfl⟩ rfl rfl fun a hs => ?_
      obtain ⟨x4465, h4463, hsh⟩ := bind_t hsh
      obtain ⟨b4471, o4472, q4469, c4470, h4473, h4466, h4467, h4468, h4464⟩ := hw.elemV 0 rfl h4463
      have hsv4474 := hs
      have hwv4475 := hw
      subst h4473
      have hs := hsv4474
      have hw := hwv4475
      obtain ⟨_, rfl, rfl⟩ := h4464
      have hw := hw.addE h4468
      refine st_val hs (y_indexAt Try.runUnderlying34 Try.sizeOf9 rfl rfl h4466.1 h4466.2 h4467) ⟨_, rfl, rfl⟩ rfl rfl fun a hs => ?_
      refine st_val hs (y_loadE1 (j := 0) (hw.ceAt 0 rfl) rfl Try.isAgg9 rfl) ⟨_, rfl, rfl⟩ rfl rfl fun a hs => ?_
      refine st_val hs (y_move rfl) ⟨_, rfl, rfl⟩ rfl rfl fun a hs => ?_
      refine st_val hs (y_neqS rfl rfl) ⟨_, rfl, rfl⟩ rfl rfl fun a hs => ?_
      refine sv hs (y_pickF rfl rfl) rfl fun a hs => ?_
      refine wpList_nil ?_
      have hsh := oi hsh
      subst hsh
      refine then_normal ?_
      exact ⟨Sv4151, (hs.wk rfl), (hw.ft [0, 1, 2, 3, 4, 5, 6, 7, 8, 9, 10] [1, 2, 3, 4, 5, 6, 7, 8, 9, 10] (by decide) rfl rfl)⟩
     rintro a w ⟨Sv4462, hs, hw⟩
     refine nl ?_
     refine wp_cond_split (hs.ev rfl) (fun h4477 => ?_) (fun h4477 => ?_)
     ·have hsh := ite_t hsh h4477
      refine sr ?_
      refine av hs rfl rfl fun a hs => ?_
      refine nl ?_
      have hsh := oi hsh
      subst hsh
      have h4478 := hd4248 _ rfl
      subst h4478
      have h4479 := hd3004 _ rfl
      subst h4479
      refine wp_ret ?_
      refine then_ret ?_
      refine then_ret ?_
      refine blk_ret ?_
      refine then_ret ?_
      refine then_ret ?_
      refine blk_ret ?_
      refine then_ret ?_
      refine blk_ret ?_
      refine then_ret ?_
      refine then_ret ?_
      refine blk_ret ?_
      refine then_ret ?_
      exact ret1 hs rfl (rv_tmp rfl) (hw.ret rfl)
     have hsh := ite_f hsh h4477
     refine wp_skip ?_
     refine then_normal ?_
     refine wp_region_lit ?_
     refine mv hs rfl rfl fun a hs => ?_
     obtain ⟨l4485, h4480, hsh⟩ := bind_t hsh
     obtain ⟨p4483, k4484, h4481, h4482⟩ := sub_env (hw.envAt 0 rfl) h4480
     have hw := hw.addE h4481
     refine sv hs (y_slc Try.runUnderlying34 Try.sizeOf9 rfl ⟨_, rfl⟩ (by exact rfl) h4482) rfl fun a hs => ?_
     refine av hs rfl rfl fun a hs => ?_
     refine nl ?_
     exact ⟨l4485, sv3947.2.1, p4483, k4484, p4149, k4150, Sv4462, hsh, (hs.wk rfl), (hw.ft [0, 1, 2, 3, 4, 5, 6, 7, 8, 9, 10] [0, 2, 3, 4, 5, 6, 7, 8, 9, 10] (by decide) rfl rfl)⟩
    have hsh := ite_f hsh h4446
    refine wp_seq ?_
    refine sr ?_
    refine mv hs rfl rfl fun a hs => ?_
    refine sv hs (y_len Try.runUnderlying34 rfl) rfl fun a hs => ?_
    refine sv hs (y_eql rfl rfl) rfl fun a hs => ?_
    refine mv hs rfl rfl fun a hs => ?_
    obtain ⟨c4500, hc4500, hsh⟩ := bind_t hsh
    refine wpl_join 6 (fun a w => ∃ (Sv4501 : Nat → Prop), Sl 162 [(3, .pointer (some ⟨b30, 0, none⟩)), (4, .pointer (some ⟨b69, 0, none⟩)), (5, .pointer (some ⟨b70, 0, none⟩)), (6, .pointer (some ⟨b71, 0, none⟩)), (7, .int .i64 sv1539.2.2.2.2.2.2.2.2.2.2.2), (15, .pointer (some ⟨b3604, 0, none⟩)), (18, .pointer (some ⟨b3620, 0, none⟩)), (19, .slice p4147 sv3947.1.length k4148), (21, .pointer (some ⟨b3636, 0, none⟩)), (22, .slice p4149 sv3947.2.1.length k4150), (111, .slice (some ⟨b4360, 0, none⟩) rv3590.2.1.length k3596), (112, .int .i64 (rv3590.2.1.length : Int)), (113, .int .i64 sv3947.2.2), (141, .bool c4500)] a ∧ Wd ⟨w0, S0, []⟩ Sv4501 [.box b30 [.slice p3569 x3578.length k3570, .int .i64 x3579] 59, .box b69 [.int .i64 x3580, .int .i64 x3581, .slice p3571 x3582.length k3572] 29, .box b70 [.int .i64 x3583, .int .i64 x3584, .slice p3573 x3585.length k3574] 29, .box b71 [.int .i64 x3586, .int .i64 x3587, .slice p3575 x3588.length k3576] 29, .box b3604 [.int .i64 rv3590.1.Now, .int .i64 rv3590.1.Order, .slice p3591 rv3590.1.Items.length k3592] 29, .box b3620 [.int .i64 rv3606.1.Now, .int .i64 rv3606.1.Order, .slice p3607 rv3606.1.Items.length k3608] 29, .box b3636 [.int .i64 rv3622.1.Now, .int .i64 rv3622.1.Order, .slice p3623 rv3622.1.Items.length k3624] 29, .row p3591 rv3590.1.Items.length k3592 c3594 47 3, .row p3607 rv3606.1.Items.length k3608 c3610 47 3, .row p3623 rv3622.1.Items.length k3624 c3626 47 3, .row (some ⟨b4360, 0, none⟩) rv3590.2.1.length k3596 c3598 9 1] [SlA p4147 sv3947.1.length k4148 sv3947.1, SlA p4149 sv3947.2.1.length k4150 sv3947.2.1, SlA p3569 x3578.length k3570 x3578, SlA p3571 x3582.length k3572 x3582, SlA p3573 x3585.length k3574 x3585, SlA p3575 x3588.length k3576 x3588, RowA c3594 rv3590.1.Items, RowA c3610 rv3606.1.Items, RowA c3626 rv3622.1.Items, RowA c3598 rv3590.2.1] w) ?_ ?_
    ·rcases Bool.eq_false_or_eq_true ((sv3947.2.1.length : Int) == 0) with h4499 | h4499
     ·have hs := hs.fix 135 (.bool true) rfl (vb h4499)
      have hsh := ite_t hc4500 h4499
      refine st_skip hs rfl rfl rfl rfl rfl fun a hs => ?_
      refine st_skip hs rfl rfl rfl rfl rfl fun a hs => ?_
      refine st_skip hs rfl rfl rfl rfl rfl fun a hs => ?_
      refine st_skip hs rfl rfl rfl rfl rfl fun a hs => ?_
      refine st_skip hs rfl rfl rfl rfl rfl fun a hs => ?_
      refine sv hs (y_pickT rfl rfl) rfl fun a hs => ?_
      refine wpList_nil ?_
      have hsh := oi hsh
      subst hsh
      refine then_normal ?_
      exact ⟨Sv4151, (hs.wk rfl), (hw.ft [0, 1, 2, 3, 4, 5, 6, 7, 8, 9, 10] [0, 1, 2, 3, 4, 5, 6, 7, 8, 9] (by decide) rfl rfl)⟩
     have hs := hs.fix 135 (.bool false) rfl (vb h4499)
     have hsh := ite_f hc4500 h4499
     refine st_val hs (y_move rfl) ⟨_, rfl, rfl⟩ rfl rfl fun a hs => ?_
     obtain ⟨x4504, h4502, hsh⟩ := bind_t hsh
     obtain ⟨b4510, o4511, q4508, c4509, h4512, h4505, h4506, h4507, h4503⟩ := hw.elemV 1 rfl h4502
     have hsv4513 := hs
     have hwv4514 := hw
     subst h4512
     have hs := hsv4513
     have hw := hwv4514
     obtain ⟨_, rfl, rfl⟩ := h4503
     have hw := hw.addE h4507
     refine st_val hs (y_indexAt Try.runUnderlying34 Try.sizeOf9 rfl rfl h4505.1 h4505.2 h4506) ⟨_, rfl, rfl⟩ rfl rfl fun a hs => ?_
     refine st_val hs (y_loadE1 (j := 0) (hw.ceAt 0 rfl) rfl Try.isAgg9 rfl) ⟨_, rfl, rfl⟩ rfl rfl fun a hs => ?_
     refine st_val hs (y_move rfl) ⟨_, rfl, rfl⟩ rfl rfl fun a hs => ?_
     refine st_val hs (y_neqS rfl rfl) ⟨_, rfl, rfl⟩ rfl rfl fun a hs => ?_
     refine sv hs (y_pickF rfl rfl) rfl fun a hs => ?_
     refine wpList_nil ?_
     have hsh := oi hsh
     subst hsh
     refine then_normal ?_
     exact ⟨Sv4151, (hs.wk rfl), (hw.ft [0, 1, 2, 3, 4, 5, 6, 7, 8, 9, 10] [1, 2, 3, 4, 5, 6, 7, 8, 9, 10] (by decide) rfl rfl)⟩
    rintro a w ⟨Sv4501, hs, hw⟩
    refine nl ?_
    refine wp_cond_split (hs.ev rfl) (fun h4516 => ?_) (fun h4516 => ?_)
    ·have hsh := ite_t hsh h4516
     refine sr ?_
     refine av hs rfl rfl fun a hs => ?_
     refine nl ?_
     have hsh := oi hsh
     subst hsh
     have h4517 := hd4248 _ rfl
     subst h4517
     have h4518 := hd3004 _ rfl
     subst h4518
     refine wp_ret ?_
     refine then_ret ?_
     refine then_ret ?_
     refine blk_ret ?_
     refine then_ret ?_
     refine then_ret ?_
     refine blk_ret ?_
     refine then_ret ?_
     refine blk_ret ?_
     refine then_ret ?_
     refine then_ret ?_
     refine blk_ret ?_
     refine then_ret ?_
     exact ret1 hs rfl (rv_tmp rfl) (hw.ret rfl)
    have hsh := ite_f hsh h4516
    refine wp_skip ?_
    refine then_normal ?_
    refine wp_region_lit ?_
    refine mv hs rfl rfl fun a hs => ?_
    obtain ⟨l4524, h4519, hsh⟩ := bind_t hsh
    obtain ⟨p4522, k4523, h4520, h4521⟩ := sub_env (hw.envAt 1 rfl) h4519
    have hw := hw.addE h4520
    refine sv hs (y_slc Try.runUnderlying34 Try.sizeOf9 rfl ⟨_, rfl⟩ (by exact rfl) h4521) rfl fun a hs => ?_
    refine av hs rfl rfl fun a hs => ?_
    refine nl ?_
    exact ⟨sv3947.1, l4524, p4147, k4148, p4522, k4523, Sv4501, hsh, (hs.wk rfl), (hw.ft [0, 1, 2, 3, 4, 5, 6, 7, 8, 9, 10] [1, 0, 3, 4, 5, 6, 7, 8, 9, 10] (by decide) rfl rfl)⟩
   rintro a w ⟨p4444, q4445, p4439, k4440, p4441, k4442, Sv4443, hsh, hs, hw⟩
   delta law09_LinkApart_j2 at hsh
   refine blk_normal ?_
   refine then_normal ?_
   refine wp_region_lit ?_
   refine sv hs (y_add rfl rfl) rfl fun a hs => ?_
   refine mv hs rfl rfl fun a hs => ?_
   refine nl ?_
   exact ⟨_, (Option.some.inj hsh).symm, p4439, k4440, p4441, k4442, Sv4443, (hs.wk rfl), (hw.ft [0, 1, 2, 3, 4, 5, 6, 7, 8, 9, 10] [0, 1, 2, 3, 4, 5, 6, 7, 8, 9] (by decide) rfl rfl)⟩
  have hsh := ite_f hsh h4255
  obtain ⟨rv4553, hsh, h4554⟩ := map_t hsh
  have h4554 := (hd4248 _ h4554.symm).symm
  subst h4554
  refine wp_exit ?_
  refine then_exit ?_
  refine then_exit ?_
  refine blk_exit ?_
  refine then_normal ?_
  refine wp_seq ?_
  refine sr ?_
  refine mv hs rfl rfl fun a hs => ?_
  refine sv hs (y_len Try.runUnderlying34 rfl) rfl fun a hs => ?_
  refine sv hs (y_gtr rfl rfl) rfl fun a hs => ?_
  refine mv hs rfl rfl fun a hs => ?_
  refine wpl_join 4 (fun a w1 => w = w1 ∧ Sl 162 [(3, .pointer (some ⟨b30, 0, none⟩)), (4, .pointer (some ⟨b69, 0, none⟩)), (5, .pointer (some ⟨b70, 0, none⟩)), (6, .pointer (some ⟨b71, 0, none⟩)), (7, .int .i64 sv1539.2.2.2.2.2.2.2.2.2.2.2), (15, .pointer (some ⟨b3604, 0, none⟩)), (18, .pointer (some ⟨b3620, 0, none⟩)), (21, .pointer (some ⟨b3636, 0, none⟩)), (152, .bool ((decide (0 < (sv3947.1.length : Int))) || (decide (0 < (sv3947.2.1.length : Int)))))] a) ?_ ?_
  ·rcases Bool.eq_false_or_eq_true (decide (0 < (sv3947.1.length : Int))) with h4525 | h4525
   ·have hs := hs.fix 148 (.bool true) rfl (vb h4525)
    refine st_skip hs rfl rfl rfl rfl rfl fun a hs => ?_
    refine st_skip hs rfl rfl rfl rfl rfl fun a hs => ?_
    refine st_skip hs rfl rfl rfl rfl rfl fun a hs => ?_
    refine sv hs (y_pickT rfl rfl) rfl fun a hs => ?_
    refine nl ?_
    exact ⟨rfl, (hs.fix 152 (.bool ((decide (0 < (sv3947.1.length : Int))) || (decide (0 < (sv3947.2.1.length : Int))))) rfl (or_t h4525)).weaken _ ⟨rfl, rfl, rfl, rfl, rfl, rfl, rfl, rfl, rfl, trivial⟩⟩
   have hs := hs.fix 148 (.bool false) rfl (vb h4525)
   refine st_val hs (y_move rfl) ⟨_, rfl, rfl⟩ rfl rfl fun a hs => ?_
   refine st_val hs (y_len Try.runUnderlying34 rfl) ⟨_, rfl, rfl⟩ rfl rfl fun a hs => ?_
   refine st_val hs (y_gtr rfl rfl) ⟨_, rfl, rfl⟩ rfl rfl fun a hs => ?_
   refine sv hs (y_pickF rfl rfl) rfl fun a hs => ?_
   refine nl ?_
   exact ⟨rfl, (hs.fix 152 (.bool ((decide (0 < (sv3947.1.length : Int))) || (decide (0 < (sv3947.2.1.length : Int))))) rfl (or_f h4525)).weaken _ ⟨rfl, rfl, rfl, rfl, rfl, rfl, rfl, rfl, rfl, trivial⟩⟩
  rintro a w1 ⟨h4552, hs⟩
  subst h4552
  refine mv hs rfl rfl fun a hs => ?_
  obtain ⟨c4534, hc4534, hsh⟩ := bind_t hsh
  refine wpl_join 4 (fun a w => ∃ (Sv4535 : Nat → Prop), Sl 162 [(3, .pointer (some ⟨b30, 0, none⟩)), (4, .pointer (some ⟨b69, 0, none⟩)), (5, .pointer (some ⟨b70, 0, none⟩)), (6, .pointer (some ⟨b71, 0, none⟩)), (7, .int .i64 sv1539.2.2.2.2.2.2.2.2.2.2.2), (15, .pointer (some ⟨b3604, 0, none⟩)), (18, .pointer (some ⟨b3620, 0, none⟩)), (21, .pointer (some ⟨b3636, 0, none⟩)), (157, .bool c4534)] a ∧ Wd ⟨w0, S0, []⟩ Sv4535 [.box b30 [.slice p3569 x3578.length k3570, .int .i64 x3579] 59, .box b69 [.int .i64 x3580, .int .i64 x3581, .slice p3571 x3582.length k3572] 29, .box b70 [.int .i64 x3583, .int .i64 x3584, .slice p3573 x3585.length k3574] 29, .box b71 [.int .i64 x3586, .int .i64 x3587, .slice p3575 x3588.length k3576] 29, .box b3604 [.int .i64 rv3590.1.Now, .int .i64 rv3590.1.Order, .slice p3591 rv3590.1.Items.length k3592] 29, .box b3620 [.int .i64 rv3606.1.Now, .int .i64 rv3606.1.Order, .slice p3607 rv3606.1.Items.length k3608] 29, .box b3636 [.int .i64 rv3622.1.Now, .int .i64 rv3622.1.Order, .slice p3623 rv3622.1.Items.length k3624] 29, .row p3591 rv3590.1.Items.length k3592 c3594 47 3, .row p3607 rv3606.1.Items.length k3608 c3610 47 3, .row p3623 rv3622.1.Items.length k3624 c3626 47 3] [SlA p3569 x3578.length k3570 x3578, SlA p3571 x3582.length k3572 x3582, SlA p3573 x3585.length k3574 x3585, SlA p3575 x3588.length k3576 x3588, RowA c3594 rv3590.1.Items, RowA c3610 rv3606.1.Items, RowA c3626 rv3622.1.Items] w) ?_ ?_
  ·rcases Bool.eq_false_or_eq_true ((decide (0 < (sv3947.1.length : Int))) || (decide (0 < (sv3947.2.1.length : Int)))) with h4533 | h4533
   ·have hs := hs.fix 153 (.bool true) rfl (vb h4533)
    have hsh := ite_t hc4534 h4533
    refine st_skip hs rfl rfl rfl rfl rfl fun a hs => ?_
    refine st_skip hs rfl rfl rfl rfl rfl fun a hs => ?_
    refine st_skip hs rfl rfl rfl rfl rfl fun a hs => ?_
    refine sv hs (y_pickT rfl rfl) rfl fun a hs => ?_
    refine wpList_nil ?_
    have hsh := oi hsh
    subst hsh
    refine then_normal ?_
    exact ⟨Sv4151, (hs.wk rfl), (hw.ft [0, 1, 2, 3, 4, 5, 6, 7, 8, 9] [2, 3, 4, 5, 6, 7, 8] (by decide) rfl rfl)⟩
   have hs := hs.fix 153 (.bool false) rfl (vb h4533)
   have hsh := ite_f hc4534 h4533
   refine st_val hs (y_loadBA (hw.ownAt 4 rfl) rfl Try.isAgg29 Try.sizeOf29 rfl rfl) ⟨_, rfl, rfl⟩ rfl rfl fun a hs => ?_
   obtain ⟨rv4537, h4536, hsh⟩ := bind_t hsh
   refine st_callR hs (ref09_Valid_ok h4536 hw.bdom (hw.bRow 7 rfl 6 rfl)) (do_call Try.call15 rfl) ⟨_, rfl, rfl⟩ rfl rfl ?_
   intro v4541 Sv4538 w a h4539 h4540 hs
   subst h4540
   have hw := hw.callB h4539
   refine st_val hs (y_not rfl) ⟨_, rfl, rfl⟩ rfl rfl fun a hs => ?_
   refine sv hs (y_pickF rfl rfl) rfl fun a hs => ?_
   refine wpList_nil ?_
   have hsh := oi hsh
   subst hsh
   refine then_normal ?_
   exact ⟨Sv4151, (hs.wk rfl), (hw.ft [0, 1, 2, 3, 4, 5, 6, 7, 8, 9] [2, 3, 4, 5, 6, 7, 8] (by decide) rfl rfl)⟩
  rintro a w ⟨Sv4535, hs, hw⟩
  refine nl ?_
  refine wp_cond_split (hs.ev rfl) (fun h4544 => ?_) (fun h4544 => ?_)
  ·have hsh := ite_t hsh h4544
   refine sr ?_
   refine av hs rfl rfl fun a hs => ?_
   refine nl ?_
   have hsh := oi hsh
   subst hsh
   have h4545 := hd3004 _ rfl
   subst h4545
   refine wp_ret ?_
   refine then_ret ?_
   refine blk_ret ?_
   refine then_ret ?_
   refine then_ret ?_
   refine blk_ret ?_
   refine then_ret ?_
   exact ret1 hs rfl (rv_tmp rfl) (hw.ret rfl)
  have hsh := ite_f hsh h4544
  refine wp_skip ?_
  refine then_normal ?_
  refine wp_only (fun a w => ∃ (Sv4546 : Nat → Prop), Sl 162 [(3, .pointer (some ⟨b30, 0, none⟩)), (4, .pointer (some ⟨b69, 0, none⟩)), (5, .pointer (some ⟨b70, 0, none⟩)), (6, .pointer (some ⟨b71, 0, none⟩)), (7, .int .i64 sv1539.2.2.2.2.2.2.2.2.2.2.2)] a ∧ Wd ⟨w0, S0, []⟩ Sv4546 [.box b30 [.slice p3569 x3578.length k3570, .int .i64 x3579] 59, .box b69 [.int .i64 rv3590.1.Now, .int .i64 rv3590.1.Order, .slice p3591 rv3590.1.Items.length k3592] 29, .box b70 [.int .i64 rv3606.1.Now, .int .i64 rv3606.1.Order, .slice p3607 rv3606.1.Items.length k3608] 29, .box b71 [.int .i64 rv3622.1.Now, .int .i64 rv3622.1.Order, .slice p3623 rv3622.1.Items.length k3624] 29, .row p3591 rv3590.1.Items.length k3592 c3594 47 3, .row p3607 rv3606.1.Items.length k3608 c3610 47 3, .row p3623 rv3622.1.Items.length k3624 c3626 47 3] [SlA p3569 x3578.length k3570 x3578, RowA c3594 rv3590.1.Items, RowA c3610 rv3606.1.Items, RowA c3626 rv3622.1.Items] w) ?_ ?_
  ·refine h_b (C := Cls [.box b30 [.slice p3569 x3578.length k3570, .int .i64 x3579] 59, .box b3604 [.int .i64 rv3590.1.Now, .int .i64 rv3590.1.Order, .slice p3591 rv3590.1.Items.length k3592] 29, .box b3620 [.int .i64 rv3606.1.Now, .int .i64 rv3606.1.Order, .slice p3607 rv3606.1.Items.length k3608] 29, .box b3636 [.int .i64 rv3622.1.Now, .int .i64 rv3622.1.Order, .slice p3623 rv3622.1.Items.length k3624] 29, .row p3591 rv3590.1.Items.length k3592 c3594 47 3, .row p3607 rv3606.1.Items.length k3608 c3610 47 3, .row p3623 rv3622.1.Items.length k3624 c3626 47 3] []) (by kernel_rfl) rfl (hw.drew.cs [0, 4, 5, 6, 7, 8, 9] [] rfl rfl) fun hC => ?_
   have hw := hw.drew
   refine gv hs 0 rfl rfl hC (fun w hC => y_loadBA (hC.ownAt 1 rfl) rfl Try.isAgg29 Try.sizeOf29 rfl rfl) fun a hs => ?_
   refine gv hs 1 rfl rfl hC (fun w hC => y_loadBA (hC.ownAt 2 rfl) rfl Try.isAgg29 Try.sizeOf29 rfl rfl) fun a hs => ?_
   refine gv hs 2 rfl rfl hC (fun w hC => y_loadBA (hC.ownAt 3 rfl) rfl Try.isAgg29 Try.sizeOf29 rfl rfl) fun a hs => ?_
   refine ho 3 rfl ?_
   refine w_store (m := 3) (cs' := [.int .i64 rv3590.1.Now, .int .i64 rv3590.1.Order, .slice p3591 rv3590.1.Items.length k3592]) hs hw 1 rfl rfl rfl Try.sizeOf29 rfl rfl rfl rfl trivial ?_
   intro a w hs hw
   refine h_nx (hw.cs [0, 4, 5, 6, 7, 8, 9] [] rfl rfl) fun hC => ?_
   refine ho 4 rfl ?_
   refine w_store (m := 3) (cs' := [.int .i64 rv3606.1.Now, .int .i64 rv3606.1.Order, .slice p3607 rv3606.1.Items.length k3608]) hs hw 2 rfl rfl rfl Try.sizeOf29 rfl rfl rfl rfl trivial ?_
   intro a w hs hw
   refine h_nx (hw.cs [0, 4, 5, 6, 7, 8, 9] [] rfl rfl) fun hC => ?_
   refine ho 5 rfl ?_
   refine w_store (m := 3) (cs' := [.int .i64 rv3622.1.Now, .int .i64 rv3622.1.Order, .slice p3623 rv3622.1.Items.length k3624]) hs hw 3 rfl rfl rfl Try.sizeOf29 rfl rfl rfl rfl trivial ?_
   intro a w hs hw
   refine h_nx (hw.cs [0, 4, 5, 6, 7, 8, 9] [] rfl rfl) fun hC => ?_
   refine h_done (by kernel_rfl) ?_
   exact ⟨Sv4535, (hs.wk rfl), (hw.ft [0, 1, 2, 3, 7, 8, 9] [0, 4, 5, 6] (by decide) rfl rfl)⟩
  rintro a w ⟨Sv4546, hs, hw⟩
  refine blk_normal ?_
  refine then_normal ?_
  refine wp_region_lit ?_
  refine mv hs rfl rfl fun a hs => ?_
  refine sv hs (y_add rfl rfl) rfl fun a hs => ?_
  obtain ⟨i4548, h4547, hsh⟩ := bind_t hsh
  refine sv hs (y_assignI rfl h4547) rfl fun a hs => ?_
  refine nl ?_
  obtain ⟨Sv4549, hw⟩ := w_share (α := Transit) hw 4 rfl 1 rfl
  obtain ⟨Sv4550, hw⟩ := w_share (α := Transit) hw 4 rfl 3 rfl
  obtain ⟨Sv4551, hw⟩ := w_share (α := Transit) hw 4 rfl 5 rfl
  exact ⟨_, (Option.some.inj hsh).symm, p3569, k3570, p3591, k3592, p3607, k3608, p3623, k3624, Sv4551, (hs.wk rfl), (hw.ft [0, 1, 2, 3] [3, 2, 1, 0] (by decide) rfl rfl)⟩
 have hsh := ite_f hsh h3009
 obtain ⟨rv4702, hsh, h4703⟩ := map_t hsh
 have h4703 := (hd3004 _ h4703.symm).symm
 subst h4703
 refine wp_exit ?_
 refine then_exit ?_
 refine then_exit ?_
 refine blk_exit ?_
 refine then_normal ?_
 refine sr ?_
 obtain ⟨rv4696, h4695, hsh⟩ := bind_t hsh
 refine st_callR hs (law09_sane_ok h4695 hw.bdom) (do_call Try.call8 rfl) trivial rfl rfl ?_
 intro v4700 Sv4697 w a h4698 h4699 hs
 subst h4699
 have hw := hw.callB h4698
 refine av hs rfl rfl fun a hs => ?_
 refine nl ?_
 have hsh := oi hsh
 subst hsh
 refine wp_ret ?_
 exact ret1 hs rfl (rv_tmp rfl) (hw.ret rfl)

end Go.Proofs.Ytljdiobhmenjgaa.Wk

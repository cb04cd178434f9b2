/- The walks of FilterExact, part 2: each Go function computes what its plain program computes. Printed by a program of ours. -/
import Derived.Test.YtmihimhknllmcaaProg
import Derived.Test.YtmihimhknllmcaaDat
import Derived.Test.YtmihimhknllmcaaSh
import Derived.Test.YtmihimhknllmcaaLibL
import Derived.KernelRfl
import Derived.Test.YtmihimhknllmcaaWFilterExact1
namespace Go.Proofs.Ytmihimhknllmcaa.Wk
open Go Go.RowKit Go.Proofs Go.Proofs.Ytmihimhknllmcaa.Sh
set_option linter.unusedVariables false
set_option linter.unusedSimpArgs false

abbrev filter_Convolve_rd (w0 : World) (X : List Nat) (r : (Filter × Int)) : (Nat → Prop) → World → Value → Prop := fun S w v => ∃ (p0_0 : Option Addr) (k0_0 : Nat) (c0_0 : List Value), v = .tuple #[.agg #[.slice p0_0 r.1.Taps.length k0_0, .int .i64 r.1.Factor, .int .i64 r.1.Shift], .int .i64 r.2] ∧ Outs X w0 S w [.row p0_0 r.1.Taps.length k0_0 c0_0 3 1] ∧ (RowA c0_0 r.1.Taps).p S w
set_option maxHeartbeats 4000000 in
set_option maxRecDepth 100000 in
theorem filter_Convolve_ok {w0 : World} {S0 : Nat → Prop} {p2 : Option Addr} {k3 : Nat} {p6 : Option Addr} {k7 : Nat} {a1 : Filter} {b5 : Filter} {r : (Filter × Int)} (hsh : filter_Convolve a1 b5 = some r) (hS : ∀ b, S0 b → b < w0.heap.size) (h4 : (SlA p2 a1.Taps.length k3 a1.Taps).p S0 w0) (h8 : (SlA p6 b5.Taps.length k7 b5.Taps).p S0 w0) : Calls Try.prog 18 #[.agg #[.slice p2 a1.Taps.length k3, .int .i64 a1.Factor, .int .i64 a1.Shift], .agg #[.slice p6 b5.Taps.length k7, .int .i64 b5.Factor, .int .i64 b5.Shift]] w0 (Ret ([]) w0 S0 (filter_Convolve_rd w0 ([]) r)) := by
 refine calls_of_wp Try.func18 rfl ?_
 have hs := Sl.enter #[.agg #[.slice p2 a1.Taps.length k3, .int .i64 a1.Factor, .int .i64 a1.Shift], .agg #[.slice p6 b5.Taps.length k7, .int .i64 b5.Factor, .int .i64 b5.Shift]] 87 [(0, .agg #[.slice p2 a1.Taps.length k3, .int .i64 a1.Factor, .int .i64 a1.Shift]), (1, .agg #[.slice p6 b5.Taps.length k7, .int .i64 b5.Factor, .int .i64 b5.Shift])] rfl ⟨rfl, rfl, trivial⟩
 have hw := Wd.enter (E := []) hS (fun _ h => (by cases h))
 have hw := hw.addE h4
 have hw := hw.addE h8
 delta filter_Convolve at hsh
 refine wp_seq ?_
 refine wp_region_lit ?_
 refine w_box (cs := [.slice p2 a1.Taps.length k3, .int .i64 a1.Factor, .int .i64 a1.Shift]) hs hw rfl rfl rfl trivial ?_
 intro b9 a w hs hw
 refine w_box (cs := [.slice p6 b5.Taps.length k7, .int .i64 b5.Factor, .int .i64 b5.Shift]) hs hw rfl rfl rfl trivial ?_
 intro b10 a w hs hw
 refine w_alloc (cs := [.slice none ([] : List Int).length 0, .int .i64 0, .int .i64 0]) hs hw Try.zeroValue28 rfl rfl trivial ?_
 intro b11 a w hs hw
 refine st_val hs (y_assign rfl) trivial rfl rfl fun a hs => ?_
 refine wpList_nil ?_
 refine then_normal ?_
 refine wp_seq ?_
 refine wp_block ?_
 refine wp_seq ?_
 refine wp_region_lit ?_
 refine st_val hs (y_loadBA (hw.ownAt 2 rfl) rfl Try.isAgg28 Try.sizeOf28 rfl rfl) trivial rfl rfl fun a hs => ?_
 obtain ⟨rv41, h40, hsh⟩ := bind_t hsh
 refine st_callR hs (filter_Valid_ok h40 hw.bdom (hw.bE 1 rfl)) (do_call Try.call32 rfl) trivial rfl rfl ?_
 intro v45 Sv42 w a h43 h44 hs
 subst h44
 have hw := hw.callB h43
 refine st_val hs (y_not rfl) trivial rfl rfl fun a hs => ?_
 refine st_val hs (y_move rfl) trivial rfl rfl fun a hs => ?_
 obtain ⟨c55, hc55, hsh⟩ := bind_t hsh
 refine wpl_join 4 (fun a w => ∃ (Sv56 : Nat → Prop), Sl 87 [(2, .pointer (some ⟨b9, 0, none⟩)), (3, .pointer (some ⟨b10, 0, none⟩)), (4, .pointer (some ⟨b11, 0, none⟩)), (19, .bool c55)] a ∧ Wd ⟨w0, S0, []⟩ Sv56 [.box b9 [.slice p2 a1.Taps.length k3, .int .i64 a1.Factor, .int .i64 a1.Shift] 28, .box b10 [.slice p6 b5.Taps.length k7, .int .i64 b5.Factor, .int .i64 b5.Shift] 28, .box b11 [.slice none ([] : List Int).length 0, .int .i64 0, .int .i64 0] 28] [SlA p2 a1.Taps.length k3 a1.Taps, SlA p6 b5.Taps.length k7 b5.Taps, SlA none ([] : List Int).length 0 ([] : List Int)] w) ?_ ?_
 ·rcases Bool.eq_false_or_eq_true (!rv41) with h54 | h54
  ·have hs := hs.fix 15 (.bool true) rfl (vb h54)
   have hsh := ite_t hc55 h54
   refine st_skip hs rfl rfl rfl rfl rfl fun a hs => ?_
   refine st_skip hs rfl rfl rfl rfl rfl fun a hs => ?_
   refine st_skip hs rfl rfl rfl rfl rfl fun a hs => ?_
   refine st_val hs (y_pickT rfl rfl) trivial rfl rfl fun a hs => ?_
   refine wpList_nil ?_
   have hw := hw.addE (e := SlA (α := Int) none 0 0 []) nil_sl
   have hsh := Option.some.inj hsh
   subst hsh
   refine then_normal ?_
   exact ⟨S0, (hs.wk rfl), (hw.ft [2, 1, 0] [2, 1, 0] (by decide) rfl rfl)⟩
  ·have hs := hs.fix 15 (.bool false) rfl (vb h54)
   have hsh := ite_f hc55 h54
   refine st_val hs (y_loadBA (hw.ownAt 1 rfl) rfl Try.isAgg28 Try.sizeOf28 rfl rfl) ⟨_, rfl, rfl⟩ rfl rfl fun a hs => ?_
   obtain ⟨rv58, h57, hsh⟩ := bind_t hsh
   refine st_callR hs (filter_Valid_ok h57 hw.bdom (hw.bE 0 rfl)) (do_call Try.call32 rfl) ⟨_, rfl, rfl⟩ rfl rfl ?_
   intro v62 Sv59 w a h60 h61 hs
   subst h61
   have hw := hw.callB h60
   refine st_val hs (y_not rfl) ⟨_, rfl, rfl⟩ rfl rfl fun a hs => ?_
   refine st_val hs (y_pickF rfl rfl) trivial rfl rfl fun a hs => ?_
   refine wpList_nil ?_
   have hw := hw.addE (e := SlA (α := Int) none 0 0 []) nil_sl
   have hsh := Option.some.inj hsh
   subst hsh
   refine then_normal ?_
   exact ⟨S0, (hs.wk rfl), (hw.ft [2, 1, 0] [2, 1, 0] (by decide) rfl rfl)⟩
 ·rintro a w ⟨Sv56, hs, hw⟩
  refine st_val hs (y_assign rfl) trivial rfl rfl fun a hs => ?_
  refine wpList_nil ?_
  refine then_normal ?_
  refine wp_cond_split (hs.ev rfl) (fun h68 => ?_) (fun h68 => ?_)
  ·have hsh := ite_t hsh h68
   refine wp_seq ?_
   refine wp_region_lit ?_
   refine st_val hs (y_build (vs := []) Bld28 rfl rfl) trivial rfl rfl fun a hs => ?_
   refine w_store (m := 3) (cs' := [.slice none ([] : List Int).length 0, .int .i64 0, .int .i64 0]) hs hw 2 rfl rfl rfl Try.sizeOf28 rfl rfl rfl rfl trivial ?_
   intro a w hs hw
   refine st_val hs (y_assign rfl) trivial rfl rfl fun a hs => ?_
   refine wpList_nil ?_
   refine then_normal ?_
   have hsh := Option.some.inj hsh
   subst hsh
   have hw := hw.nilRow Int 3
   refine wp_ret ?_
   refine blk_ret ?_
   refine then_ret ?_
   exact ret2 hs rfl (rv_cell hw 3 rfl rfl Try.isAgg28 Try.sizeOf28 rfl) (rv_tmp rfl) (hw.ret ⟨none, 0, [], rfl, (hw.outs [0] (by decide) rfl), (hw.envAt 0 rfl)⟩)
  ·have hsh := ite_f hsh h68
   refine wp_seq ?_
   refine wp_region_lit ?_
   refine st_val hs (y_fieldAddr (o' := 1) Try.runUnderlying28 rfl Try.sizeOf3 rfl rfl rfl) trivial rfl rfl fun a hs => ?_
   refine st_val hs (y_loadB1 (hw.ownAt 0 rfl) rfl Try.isAgg3 rfl) trivial rfl rfl fun a hs => ?_
   refine st_val hs (y_neq rfl rfl) trivial rfl rfl fun a hs => ?_
   refine st_val hs (y_move rfl) trivial rfl rfl fun a hs => ?_
   refine wpl_join 4 (fun a w1 => w = w1 ∧ Sl 87 [(2, .pointer (some ⟨b9, 0, none⟩)), (3, .pointer (some ⟨b10, 0, none⟩)), (4, .pointer (some ⟨b11, 0, none⟩)), (29, .bool ((a1.Factor != 1) || (b5.Factor != 1)))] a) ?_ ?_
   ·rcases Bool.eq_false_or_eq_true (a1.Factor != 1) with h69 | h69
    ·have hs := hs.fix 25 (.bool true) rfl (vb h69)
     refine st_skip hs rfl rfl rfl rfl rfl fun a hs => ?_
     refine st_skip hs rfl rfl rfl rfl rfl fun a hs => ?_
     refine st_skip hs rfl rfl rfl rfl rfl fun a hs => ?_
     refine st_val hs (y_pickT rfl rfl) trivial rfl rfl fun a hs => ?_
     refine wpList_nil ?_
     refine then_normal ?_
     exact ⟨rfl, (hs.fix 29 (.bool ((a1.Factor != 1) || (b5.Factor != 1))) rfl (or_t h69)).weaken _ ⟨rfl, rfl, rfl, rfl, trivial⟩⟩
    ·have hs := hs.fix 25 (.bool false) rfl (vb h69)
     refine st_val hs (y_fieldAddr (o' := 1) Try.runUnderlying28 rfl Try.sizeOf3 rfl rfl rfl) ⟨_, rfl, rfl⟩ rfl rfl fun a hs => ?_
     refine st_val hs (y_loadB1 (hw.ownAt 1 rfl) rfl Try.isAgg3 rfl) ⟨_, rfl, rfl⟩ rfl rfl fun a hs => ?_
     refine st_val hs (y_neq rfl rfl) ⟨_, rfl, rfl⟩ rfl rfl fun a hs => ?_
     refine st_val hs (y_pickF rfl rfl) trivial rfl rfl fun a hs => ?_
     refine wpList_nil ?_
     refine then_normal ?_
     exact ⟨rfl, (hs.fix 29 (.bool ((a1.Factor != 1) || (b5.Factor != 1))) rfl (or_f h69)).weaken _ ⟨rfl, rfl, rfl, rfl, trivial⟩⟩
   ·rintro a w1 ⟨h938, hs⟩
    subst h938
    refine st_val hs (y_assign rfl) trivial rfl rfl fun a hs => ?_
    refine wpList_nil ?_
    refine then_normal ?_
    refine wp_cond_split (hs.ev rfl) (fun h71 => ?_) (fun h71 => ?_)
    ·have hsh := ite_t hsh h71
     refine wp_seq ?_
     refine wp_region_lit ?_
     refine st_val hs (y_build (vs := []) Bld28 rfl rfl) trivial rfl rfl fun a hs => ?_
     refine w_store (m := 3) (cs' := [.slice none ([] : List Int).length 0, .int .i64 0, .int .i64 0]) hs hw 2 rfl rfl rfl Try.sizeOf28 rfl rfl rfl rfl trivial ?_
     intro a w hs hw
     refine st_val hs (y_assign rfl) trivial rfl rfl fun a hs => ?_
     refine wpList_nil ?_
     refine then_normal ?_
     have hsh := Option.some.inj hsh
     subst hsh
     have hw := hw.nilRow Int 3
     refine wp_ret ?_
     refine blk_ret ?_
     refine then_ret ?_
     exact ret2 hs rfl (rv_cell hw 3 rfl rfl Try.isAgg28 Try.sizeOf28 rfl) (rv_tmp rfl) (hw.ret ⟨none, 0, [], rfl, (hw.outs [0] (by decide) rfl), (hw.envAt 0 rfl)⟩)
    ·have hsh := ite_f hsh h71
     refine wp_skip ?_
     refine blk_normal ?_
     refine then_normal ?_
     refine wp_seq ?_
     obtain ⟨l73, h72, hsh⟩ := bind_t hsh
     refine wp_only (fun a w => ∃ (Sv77 : Nat → Prop) (b76 : Nat) (c75 : List Value) (p74 : Option Addr), Sl 87 [(2, .pointer (some ⟨b9, 0, none⟩)), (3, .pointer (some ⟨b10, 0, none⟩)), (4, .pointer (some ⟨b11, 0, none⟩)), (6, .pointer (some ⟨b76, 0, none⟩))] a ∧ Wd ⟨w0, S0, []⟩ Sv77 [.box b9 [.slice p2 a1.Taps.length k3, .int .i64 a1.Factor, .int .i64 a1.Shift] 28, .box b10 [.slice p6 b5.Taps.length k7, .int .i64 b5.Factor, .int .i64 b5.Shift] 28, .box b11 [.slice none ([] : List Int).length 0, .int .i64 0, .int .i64 0] 28, .box b76 [.slice p74 l73.length l73.length, .int .i64 1, .int .i64 (w64 (a1.Shift + b5.Shift))] 28, .row p74 l73.length l73.length c75 3 1] [SlA p2 a1.Taps.length k3 a1.Taps, SlA p6 b5.Taps.length k7 b5.Taps, SlA none ([] : List Int).length 0 ([] : List Int), RowA c75 l73] w) ?_ ?_
     ·refine h_b (C := Cls [.box b9 [.slice p2 a1.Taps.length k3, .int .i64 a1.Factor, .int .i64 a1.Shift] 28, .box b10 [.slice p6 b5.Taps.length k7, .int .i64 b5.Factor, .int .i64 b5.Shift] 28, .box b11 [.slice none ([] : List Int).length 0, .int .i64 0, .int .i64 0] 28] []) (by kernel_rfl) rfl (hw.drew.cs [0, 1, 2] [] rfl rfl) fun hC => ?_
      have hw := hw.drew
      refine h_g hs 0 rfl (by kernel_rfl) rfl rfl hC rfl (fun w hC => y_fieldAddr (o' := 0) Try.runUnderlying28 rfl Try.sizeOf22 rfl rfl rfl) fun a hs => ?_
      refine h_g hs 1 rfl (by kernel_rfl) rfl rfl hC rfl (fun w hC => y_loadB1 (hC.ownAt 0 rfl) rfl Try.isAgg22 rfl) fun a hs => ?_
      refine h_g hs 2 rfl (by kernel_rfl) rfl rfl hC rfl (fun w hC => y_len Try.runUnderlying22 rfl) fun a hs => ?_
      refine h_g hs 3 rfl (by kernel_rfl) rfl rfl hC rfl (fun w hC => y_fieldAddr (o' := 0) Try.runUnderlying28 rfl Try.sizeOf22 rfl rfl rfl) fun a hs => ?_
      refine h_g hs 4 rfl (by kernel_rfl) rfl rfl hC rfl (fun w hC => y_loadB1 (hC.ownAt 1 rfl) rfl Try.isAgg22 rfl) fun a hs => ?_
      refine h_g hs 5 rfl (by kernel_rfl) rfl rfl hC rfl (fun w hC => y_len Try.runUnderlying22 rfl) fun a hs => ?_
      refine h_g hs 6 rfl (by kernel_rfl) rfl rfl hC rfl (fun w hC => y_add rfl rfl) fun a hs => ?_
      refine h_g hs 7 rfl (by kernel_rfl) rfl rfl hC rfl (fun w hC => y_sub rfl rfl) fun a hs => ?_
      refine h_g hs 9 rfl (by kernel_rfl) rfl rfl hC rfl (fun w hC => y_fieldAddr (o' := 2) Try.runUnderlying28 rfl Try.sizeOf3 rfl rfl rfl) fun a hs => ?_
      refine h_g hs 10 rfl (by kernel_rfl) rfl rfl hC rfl (fun w hC => y_loadB1 (hC.ownAt 0 rfl) rfl Try.isAgg3 rfl) fun a hs => ?_
      refine h_g hs 11 rfl (by kernel_rfl) rfl rfl hC rfl (fun w hC => y_fieldAddr (o' := 2) Try.runUnderlying28 rfl Try.sizeOf3 rfl rfl rfl) fun a hs => ?_
      refine h_g hs 12 rfl (by kernel_rfl) rfl rfl hC rfl (fun w hC => y_loadB1 (hC.ownAt 1 rfl) rfl Try.isAgg3 rfl) fun a hs => ?_
      refine h_g hs 13 rfl (by kernel_rfl) rfl rfl hC rfl (fun w hC => y_add rfl rfl) fun a hs => ?_
      refine h_all (rs := [8, 15]) (by kernel_rfl) rfl ?_
      refine AllH.cons rfl ?_ ?_
      ·refine w_make (α := Int) hs hw El22 ⟨_, rfl, rfl⟩ rfl rfl h72 rfl trivial ?_
       intro p74 c75 a w hs hw
       refine h_nx (hw.cs [1, 2, 3] [] rfl rfl) fun hC => ?_
       refine h_st (C' := Cls [.box b9 [.slice p2 a1.Taps.length k3, .int .i64 a1.Factor, .int .i64 a1.Shift] 28, .box b10 [.slice p6 b5.Taps.length k7, .int .i64 b5.Factor, .int .i64 b5.Shift] 28, .box b11 [.slice none ([] : List Int).length 0, .int .i64 0, .int .i64 0] 28, .row p74 l73.length l73.length c75 3 1] []) (fun _ h => by exact h.sub [0, 1, 2] (Sel.of rfl) (AllIn.of [] rfl)) (hw.cs [1, 2, 3, 0] [] rfl rfl) fun hC => ?_
       refine h_g hs 14 rfl (by kernel_rfl) rfl rfl hC rfl (fun w hC => y_build (vs := [(0, .slice p74 l73.length l73.length), (1, .int .i64 1), (2, .int .i64 (w64 (a1.Shift + b5.Shift)))]) Bld28 rfl rfl) fun a hs => ?_
       refine h_one (i := 15) (by kernel_rfl) rfl ?_
       refine w_alloc (cs := [.slice none ([] : List Int).length 0, .int .i64 0, .int .i64 0]) hs hw Try.zeroValue28 rfl rfl trivial ?_
       intro b76 a w hs hw
       refine h_nx (hw.cs [2, 3, 4, 1] [] rfl rfl) fun hC => ?_
       refine h_one (i := 16) (by kernel_rfl) rfl ?_
       refine w_store (m := 3) (cs' := [.slice p74 l73.length l73.length, .int .i64 1, .int .i64 (w64 (a1.Shift + b5.Shift))]) hs hw 0 rfl rfl rfl Try.sizeOf28 rfl rfl rfl rfl trivial ?_
       intro a w hs hw
       refine h_nx (hw.cs [2, 3, 4, 1] [] rfl rfl) fun hC => ?_
       refine h_done (by kernel_rfl) ?_
       exact ⟨Sv56, b76, c75, p74, (hs.wk rfl), (hw.ft [2, 3, 4, 0, 1] [1, 2, 3, 0] (by decide) rfl rfl)⟩
      refine AllH.cons rfl ?_ ?_
      ·refine w_alloc (cs := [.slice none ([] : List Int).length 0, .int .i64 0, .int .i64 0]) hs hw Try.zeroValue28 rfl rfl trivial ?_
       intro b76 a w hs hw
       refine h_nx (hw.cs [1, 2, 3] [] rfl rfl) fun hC => ?_
       refine h_one (i := 8) (by kernel_rfl) rfl ?_
       refine w_make (α := Int) hs hw El22 ⟨_, rfl, rfl⟩ rfl rfl h72 rfl trivial ?_
       intro p74 c75 a w hs hw
       refine h_nx (hw.cs [2, 3, 4] [] rfl rfl) fun hC => ?_
       refine h_st (C' := Cls [.box b9 [.slice p2 a1.Taps.length k3, .int .i64 a1.Factor, .int .i64 a1.Shift] 28, .box b10 [.slice p6 b5.Taps.length k7, .int .i64 b5.Factor, .int .i64 b5.Shift] 28, .box b11 [.slice none ([] : List Int).length 0, .int .i64 0, .int .i64 0] 28, .row p74 l73.length l73.length c75 3 1] []) (fun _ h => by exact h.sub [0, 1, 2] (Sel.of rfl) (AllIn.of [] rfl)) (hw.cs [2, 3, 4, 0] [] rfl rfl) fun hC => ?_
       refine h_g hs 14 rfl (by kernel_rfl) rfl rfl hC rfl (fun w hC => y_build (vs := [(0, .slice p74 l73.length l73.length), (1, .int .i64 1), (2, .int .i64 (w64 (a1.Shift + b5.Shift)))]) Bld28 rfl rfl) fun a hs => ?_
       refine h_one (i := 16) (by kernel_rfl) rfl ?_
       refine w_store (m := 3) (cs' := [.slice p74 l73.length l73.length, .int .i64 1, .int .i64 (w64 (a1.Shift + b5.Shift))]) hs hw 1 rfl rfl rfl Try.sizeOf28 rfl rfl rfl rfl trivial ?_
       intro a w hs hw
       refine h_nx (hw.cs [2, 3, 4, 0] [] rfl rfl) fun hC => ?_
       refine h_done (by kernel_rfl) ?_
       exact ⟨Sv56, b76, c75, p74, (hs.wk rfl), (hw.ft [2, 3, 4, 1, 0] [1, 2, 3, 0] (by decide) rfl rfl)⟩
      exact AllH.nil
     ·rintro a w ⟨Sv77, b76, c75, p74, hs, hw⟩
      refine then_normal ?_
      refine wp_seq ?_
      refine wp_seq ?_
      refine wp_region_lit ?_
      refine st_val hs (y_fieldAddr (o' := 0) Try.runUnderlying28 rfl Try.sizeOf22 rfl rfl rfl) trivial rfl rfl fun a hs => ?_
      refine st_val hs (y_loadB1 (hw.ownAt 3 rfl) rfl Try.isAgg22 rfl) trivial rfl rfl fun a hs => ?_
      refine st_val hs (y_len Try.runUnderlying22 rfl) trivial rfl rfl fun a hs => ?_
      refine st_val hs (y_gtr rfl rfl) trivial rfl rfl fun a hs => ?_
      refine st_val hs (y_move rfl) trivial rfl rfl fun a hs => ?_
      refine wpl_join 4 (fun a w1 => w = w1 ∧ Sl 87 [(2, .pointer (some ⟨b9, 0, none⟩)), (3, .pointer (some ⟨b10, 0, none⟩)), (4, .pointer (some ⟨b11, 0, none⟩)), (6, .pointer (some ⟨b76, 0, none⟩)), (54, .bool ((decide (128 < (l73.length : Int))) || (decide (30 < (w64 (a1.Shift + b5.Shift))))))] a) ?_ ?_
      ·rcases Bool.eq_false_or_eq_true (decide (128 < (l73.length : Int))) with h78 | h78
       ·have hs := hs.fix 50 (.bool true) rfl (vb h78)
        refine st_skip hs rfl rfl rfl rfl rfl fun a hs => ?_
        refine st_skip hs rfl rfl rfl rfl rfl fun a hs => ?_
        refine st_skip hs rfl rfl rfl rfl rfl fun a hs => ?_
        refine st_val hs (y_pickT rfl rfl) trivial rfl rfl fun a hs => ?_
        refine wpList_nil ?_
        refine then_normal ?_
        exact ⟨rfl, (hs.fix 54 (.bool ((decide (128 < (l73.length : Int))) || (decide (30 < (w64 (a1.Shift + b5.Shift)))))) rfl (or_t h78)).weaken _ ⟨rfl, rfl, rfl, rfl, rfl, trivial⟩⟩
       ·have hs := hs.fix 50 (.bool false) rfl (vb h78)
        refine st_val hs (y_fieldAddr (o' := 2) Try.runUnderlying28 rfl Try.sizeOf3 rfl rfl rfl) ⟨_, rfl, rfl⟩ rfl rfl fun a hs => ?_
        refine st_val hs (y_loadB1 (hw.ownAt 3 rfl) rfl Try.isAgg3 rfl) ⟨_, rfl, rfl⟩ rfl rfl fun a hs => ?_
        refine st_val hs (y_gtr rfl rfl) ⟨_, rfl, rfl⟩ rfl rfl fun a hs => ?_
        refine st_val hs (y_pickF rfl rfl) trivial rfl rfl fun a hs => ?_
        refine wpList_nil ?_
        refine then_normal ?_
        exact ⟨rfl, (hs.fix 54 (.bool ((decide (128 < (l73.length : Int))) || (decide (30 < (w64 (a1.Shift + b5.Shift)))))) rfl (or_f h78)).weaken _ ⟨rfl, rfl, rfl, rfl, rfl, trivial⟩⟩
      ·rintro a w1 ⟨h937, hs⟩
       subst h937
       refine wpList_nil ?_
       refine then_normal ?_
       refine wp_cond_split (hs.ev rfl) (fun h80 => ?_) (fun h80 => ?_)
       ·have hsh := ite_t hsh h80
        refine wp_seq ?_
        refine wp_region_lit ?_
        refine st_val hs (y_build (vs := []) Bld28 rfl rfl) trivial rfl rfl fun a hs => ?_
        refine w_store (m := 3) (cs' := [.slice none ([] : List Int).length 0, .int .i64 0, .int .i64 0]) hs hw 2 rfl rfl rfl Try.sizeOf28 rfl rfl rfl rfl trivial ?_
        intro a w hs hw
        refine st_val hs (y_assign rfl) trivial rfl rfl fun a hs => ?_
        refine wpList_nil ?_
        refine then_normal ?_
        have hsh := Option.some.inj hsh
        subst hsh
        have hw := hw.nilRow Int 3
        refine wp_ret ?_
        refine then_ret ?_
        exact ret2 hs rfl (rv_cell hw 3 rfl rfl Try.isAgg28 Try.sizeOf28 rfl) (rv_tmp rfl) (hw.ret ⟨none, 0, [], rfl, (hw.outs [0] (by decide) rfl), (hw.envAt 0 rfl)⟩)
       ·have hsh := ite_f hsh h80
        refine wp_skip ?_
        refine then_normal ?_
        refine wp_seq ?_
        refine wp_seq ?_
        refine wp_region_lit ?_
        refine st_val hs (y_fieldAddr (o' := 0) Try.runUnderlying28 rfl Try.sizeOf22 rfl rfl rfl) trivial rfl rfl fun a hs => ?_
        refine st_val hs (y_loadB1 (hw.ownAt 0 rfl) rfl Try.isAgg22 rfl) trivial rfl rfl fun a hs => ?_
        refine st_val hs (y_len Try.runUnderlying22 rfl) trivial rfl rfl fun a hs => ?_
        refine st_val hs (y_move rfl) trivial rfl rfl fun a hs => ?_
        refine wpList_nil ?_
        refine then_normal ?_
        obtain ⟨e546, h936, hsh⟩ := bind_t hsh
        refine wp_join (fun a w => ∃ (c547 : List Value) (p548 : Option Addr) (k549 : Nat) (Sv550 : Nat → Prop), Sl 87 [(4, .pointer (some ⟨b11, 0, none⟩)), (6, .pointer (some ⟨b76, 0, none⟩))] a ∧ Wd ⟨w0, S0, []⟩ Sv550 [.box b11 [.slice none ([] : List Int).length 0, .int .i64 0, .int .i64 0] 28, .box b76 [.slice p548 e546.length k549, .int .i64 1, .int .i64 (w64 (a1.Shift + b5.Shift))] 28, .row p548 e546.length k549 c547 3 1] [SlA none ([] : List Int).length 0 ([] : List Int), RowA c547 e546] w) ?_ ?_
        ·refine wp_block ?_
         refine wp_while (fun sv81 a w => ∃ (c388 : List Value) (p389 : Option Addr) (k390 : Nat) (Sv391 : Nat → Prop), Sl 87 [(3, .pointer (some ⟨b10, 0, none⟩)), (4, .pointer (some ⟨b11, 0, none⟩)), (6, .pointer (some ⟨b76, 0, none⟩)), (57, .slice p2 a1.Taps.length k3), (58, .int .i64 (a1.Taps.length : Int)), (59, .int .i64 sv81.2)] a ∧ Wd ⟨w0, S0, []⟩ Sv391 [.box b10 [.slice p6 b5.Taps.length k7, .int .i64 b5.Factor, .int .i64 b5.Shift] 28, .box b11 [.slice none ([] : List Int).length 0, .int .i64 0, .int .i64 0] 28, .box b76 [.slice p389 sv81.1.length k390, .int .i64 1, .int .i64 (w64 (a1.Shift + b5.Shift))] 28, .row p389 sv81.1.length k390 c388 3 1] [SlA p2 a1.Taps.length k3 a1.Taps, SlA p6 b5.Taps.length k7 b5.Taps, SlA none ([] : List Int).length 0 ([] : List Int), RowA c388 sv81.1] w) (l73, 0) h936 ⟨c75, p74, l73.length, Sv77, (hs.wk rfl), (hw.ft [1, 2, 3, 4] [0, 1, 2, 3] (by decide) rfl rfl)⟩ ?_
         clear h936
         repeat clear hsh
         rintro sv81 a w tv544 ⟨c388, p389, k390, Sv391, hs, hw⟩ hsh hd543
         delta filter_Convolve_l3 at hsh
         refine wp_seq ?_
         refine wp_region_lit ?_
         refine st_val hs (y_lss rfl rfl) trivial rfl rfl fun a hs => ?_
         refine wpList_nil ?_
         refine then_normal ?_
         refine wp_seq ?_
         refine wp_cond_split (hs.ev rfl) (fun h552 => ?_) (fun h552 => ?_)
         ·have hsh := ite_t hsh h552
          refine wp_skip ?_
          refine then_normal ?_
          refine wp_seq ?_
          refine wp_block ?_
          refine wp_seq ?_
          refine wp_region_lit ?_
          refine st_val hs (y_move rfl) trivial rfl rfl fun a hs => ?_
          obtain ⟨x705, h703, hsh⟩ := bind_t hsh
          obtain ⟨b711, o712, q709, c710, h713, h706, h707, h708, h704⟩ := hw.elemV 0 rfl h703
          have hsv714 := hs
          have hwv715 := hw
          subst h713
          have hs := hsv714
          have hw := hwv715
          obtain ⟨_, rfl, rfl⟩ := h704
          have hw := hw.addE h708
          refine st_val hs (y_indexAt Try.runUnderlying22 Try.sizeOf3 rfl rfl h706.1 h706.2 h707) trivial rfl rfl fun a hs => ?_
          refine st_val hs (y_loadE1 (j := 0) (hw.ceAt 0 rfl) rfl Try.isAgg3 rfl) trivial rfl rfl fun a hs => ?_
          refine st_val hs (y_assign rfl) trivial rfl rfl fun a hs => ?_
          refine st_val hs (y_assign rfl) trivial rfl rfl fun a hs => ?_
          refine wpList_nil ?_
          refine then_normal ?_
          refine wp_seq ?_
          refine wp_region_lit ?_
          refine st_val hs (y_fieldAddr (o' := 0) Try.runUnderlying28 rfl Try.sizeOf22 rfl rfl rfl) trivial rfl rfl fun a hs => ?_
          refine st_val hs (y_loadB1 (hw.ownAt 0 rfl) rfl Try.isAgg22 rfl) trivial rfl rfl fun a hs => ?_
          refine st_val hs (y_len Try.runUnderlying22 rfl) trivial rfl rfl fun a hs => ?_
          refine st_val hs (y_move rfl) trivial rfl rfl fun a hs => ?_
          refine wpList_nil ?_
          refine then_normal ?_
          obtain ⟨e848, h934, hsh⟩ := bind_t hsh
          refine wp_join (fun a w => ∃ (c849 : List Value) (p850 : Option Addr) (k851 : Nat) (Sv852 : Nat → Prop), Sl 87 [(3, .pointer (some ⟨b10, 0, none⟩)), (4, .pointer (some ⟨b11, 0, none⟩)), (6, .pointer (some ⟨b76, 0, none⟩)), (57, .slice (some ⟨b711, o712, none⟩) a1.Taps.length k3), (58, .int .i64 (a1.Taps.length : Int)), (59, .int .i64 sv81.2)] a ∧ Wd ⟨w0, S0, []⟩ Sv852 [.box b10 [.slice p6 b5.Taps.length k7, .int .i64 b5.Factor, .int .i64 b5.Shift] 28, .box b11 [.slice none ([] : List Int).length 0, .int .i64 0, .int .i64 0] 28, .box b76 [.slice p850 e848.length k851, .int .i64 1, .int .i64 (w64 (a1.Shift + b5.Shift))] 28, .row p850 e848.length k851 c849 3 1] [SlA (some ⟨b711, o712, none⟩) a1.Taps.length k3 a1.Taps, SlA p6 b5.Taps.length k7 b5.Taps, SlA none ([] : List Int).length 0 ([] : List Int), RowA c849 e848] w) ?_ ?_
          ·refine wp_block ?_
           refine wp_while (fun sv716 a w => ∃ (c801 : List Value) (p802 : Option Addr) (k803 : Nat) (Sv804 : Nat → Prop), Sl 87 [(3, .pointer (some ⟨b10, 0, none⟩)), (4, .pointer (some ⟨b11, 0, none⟩)), (6, .pointer (some ⟨b76, 0, none⟩)), (7, .int .i64 sv81.2), (8, .int .i64 x705), (57, .slice (some ⟨b711, o712, none⟩) a1.Taps.length k3), (58, .int .i64 (a1.Taps.length : Int)), (59, .int .i64 sv81.2), (65, .slice p6 b5.Taps.length k7), (66, .int .i64 (b5.Taps.length : Int)), (67, .int .i64 sv716.2)] a ∧ Wd ⟨w0, S0, []⟩ Sv804 [.box b10 [.slice p6 b5.Taps.length k7, .int .i64 b5.Factor, .int .i64 b5.Shift] 28, .box b11 [.slice none ([] : List Int).length 0, .int .i64 0, .int .i64 0] 28, .box b76 [.slice p802 sv716.1.length k803, .int .i64 1, .int .i64 (w64 (a1.Shift + b5.Shift))] 28, .row p802 sv716.1.length k803 c801 3 1] [SlA (some ⟨b711, o712, none⟩) a1.Taps.length k3 a1.Taps, SlA p6 b5.Taps.length k7 b5.Taps, SlA none ([] : List Int).length 0 ([] : List Int), RowA c801 sv716.1] w) (sv81.1, 0) h934 ⟨c388, p389, k390, Sv391, (hs.wk rfl), (hw.ft [0, 1, 2, 3] [1, 2, 3, 4] (by decide) rfl rfl)⟩ ?_
           clear h934
           repeat clear hsh
           rintro sv716 a w tv846 ⟨c801, p802, k803, Sv804, hs, hw⟩ hsh hd845
           delta filter_Convolve_l6 at hsh
           refine wp_seq ?_
           refine wp_region_lit ?_
           refine st_val hs (y_lss rfl rfl) trivial rfl rfl fun a hs => ?_
           refine wpList_nil ?_
           refine then_normal ?_
           refine wp_seq ?_
           refine wp_cond_split (hs.ev rfl) (fun h854 => ?_) (fun h854 => ?_)
           ·have hsh := ite_t hsh h854
            refine wp_skip ?_
            refine then_normal ?_
            refine wp_seq ?_
            refine wp_block ?_
            refine wp_seq ?_
            refine wp_region_lit ?_
            refine st_val hs (y_move rfl) trivial rfl rfl fun a hs => ?_
            obtain ⟨x896, h894, hsh⟩ := bind_t hsh
            obtain ⟨b902, o903, q900, c901, h904, h897, h898, h899, h895⟩ := hw.elemV 1 rfl h894
            have hsv905 := hs
            have hwv906 := hw
            subst h904
            have hs := hsv905
            have hw := hwv906
            obtain ⟨_, rfl, rfl⟩ := h895
            have hw := hw.addE h899
            refine st_val hs (y_indexAt Try.runUnderlying22 Try.sizeOf3 rfl rfl h897.1 h897.2 h898) trivial rfl rfl fun a hs => ?_
            refine st_val hs (y_loadE1 (j := 0) (hw.ceAt 0 rfl) rfl Try.isAgg3 rfl) trivial rfl rfl fun a hs => ?_
            refine st_val hs (y_assign rfl) trivial rfl rfl fun a hs => ?_
            refine st_val hs (y_assign rfl) trivial rfl rfl fun a hs => ?_
            refine wpList_nil ?_
            refine then_normal ?_
            refine wp_region_lit ?_
            refine st_val hs (y_fieldAddr (o' := 0) Try.runUnderlying28 rfl Try.sizeOf22 rfl rfl rfl) trivial rfl rfl fun a hs => ?_
            refine st_val hs (y_loadB1 (hw.ownAt 2 rfl) rfl Try.isAgg22 rfl) trivial rfl rfl fun a hs => ?_
            refine st_val hs (y_move rfl) trivial rfl rfl fun a hs => ?_
            refine st_val hs (y_move rfl) trivial rfl rfl fun a hs => ?_
            refine st_val hs (y_add rfl rfl) trivial rfl rfl fun a hs => ?_
            obtain ⟨x909, h907, hsh⟩ := bind_t hsh
            obtain ⟨b916, q913, c914, h917, h910, h911, h915, h908⟩ := hw.elemRV (α := Int) 3 rfl 4 rfl h907
            have hsv918 := hs
            have hwv919 := hw
            subst h917
            have hs := hsv918
            have hw := hwv919
            obtain ⟨_, rfl, rfl⟩ := h908
            refine st_val hs (y_indexAt Try.runUnderlying22 Try.sizeOf3 rfl rfl h910.1 h910.2 h911) trivial rfl rfl fun a hs => ?_
            refine st_val hs (y_loadQ1 (j := 0) (hw.ownAt 3 rfl) rfl Try.isAgg3 h915 rfl) trivial rfl rfl fun a hs => ?_
            refine st_val hs (y_move rfl) trivial rfl rfl fun a hs => ?_
            refine st_val hs (y_move rfl) trivial rfl rfl fun a hs => ?_
            refine st_val hs (y_mul rfl rfl) trivial rfl rfl fun a hs => ?_
            refine st_val hs (y_add rfl rfl) trivial rfl rfl fun a hs => ?_
            obtain ⟨x922, h920, hsh⟩ := bind_t hsh
            obtain ⟨q926, c927, h923, h924, h928, h921⟩ := hw.elemRK (α := Int) 3 rfl 4 rfl h920
            obtain ⟨_, rfl, rfl⟩ := h921
            refine st_val hs (y_indexAt Try.runUnderlying22 Try.sizeOf3 rfl rfl h923.1 h923.2 h924) trivial rfl rfl fun a hs => ?_
            obtain ⟨l930, h929, hsh⟩ := bind_t hsh
            refine w_storeF (α := Int) hs hw 3 rfl 4 rfl h924 rfl rfl Try.sizeOf3 rfl h929 ⟨_, rfl, rfl⟩ trivial ?_
            intro c931 a w hs hw
            have h932 := setM_len h929
            try have hs := hs.fix 73 (.slice (some ⟨b916, 0, none⟩) l930.length k803) rfl (by rw [h932])
            have hw := hw.fixR 2 (r' := .box b76 [.slice (some ⟨b916, 0, none⟩) l930.length k803, .int .i64 1, .int .i64 (w64 (a1.Shift + b5.Shift))] 28) rfl (by rw [h932])
            refine wpList_nil ?_
            refine blk_normal ?_
            refine then_normal ?_
            refine wp_region_lit ?_
            refine st_val hs (y_add rfl rfl) trivial rfl rfl fun a hs => ?_
            refine st_val hs (y_move rfl) trivial rfl rfl fun a hs => ?_
            refine wpList_nil ?_
            refine then_normal ?_
            exact ⟨_, (Option.some.inj hsh).symm, c931, (some ⟨b916, 0, none⟩), k803, Sv804, (hs.wk rfl), (hw.ft [0, 1, 2, 3] [2, 3, 4, 0] (by decide) rfl rfl)⟩
           ·have hsh := ite_f hsh h854
            refine wp_exit ?_
            refine then_exit ?_
            refine then_exit ?_
            refine blk_exit ?_
            have hsh := Option.some.inj hsh
            subst hsh
            have h933 := hd845 _ rfl
            subst h933
            refine then_normal ?_
            exact ⟨c801, p802, k803, Sv804, (hs.wk rfl), (hw.ft [0, 1, 2, 3] [0, 1, 2, 3] (by decide) rfl rfl)⟩
          ·rintro a w ⟨c849, p850, k851, Sv852, hs, hw⟩
           refine blk_normal ?_
           refine then_normal ?_
           refine wp_region_lit ?_
           refine st_val hs (y_add rfl rfl) trivial rfl rfl fun a hs => ?_
           refine st_val hs (y_move rfl) trivial rfl rfl fun a hs => ?_
           refine wpList_nil ?_
           refine then_normal ?_
           exact ⟨_, (Option.some.inj hsh).symm, c849, p850, k851, Sv852, (hs.wk rfl), (hw.ft [0, 1, 2, 3] [0, 1, 2, 3] (by decide) rfl rfl)⟩
         ·have hsh := ite_f hsh h552
          refine wp_exit ?_
          refine then_exit ?_
          refine then_exit ?_
          refine blk_exit ?_
          have hsh := Option.some.inj hsh
          subst hsh
          have h935 := hd543 _ rfl
          subst h935
          refine then_normal ?_
          exact ⟨c388, p389, k390, Sv391, (hs.wk rfl), (hw.ft [1, 2, 3] [2, 3] (by decide) rfl rfl)⟩
        ·rintro a w ⟨c547, p548, k549, Sv550, hs, hw⟩
         refine then_normal ?_
         refine wp_seq ?_
         refine wp_region_lit ?_
         refine st_val hs (y_loadBA (hw.ownAt 1 rfl) rfl Try.isAgg28 Try.sizeOf28 rfl rfl) trivial rfl rfl fun a hs => ?_
         refine w_store (m := 3) (cs' := [.slice p548 e546.length k549, .int .i64 1, .int .i64 (w64 (a1.Shift + b5.Shift))]) hs hw 0 rfl rfl rfl Try.sizeOf28 rfl rfl rfl rfl trivial ?_
         intro a w hs hw
         refine st_val hs (y_assign rfl) trivial rfl rfl fun a hs => ?_
         refine wpList_nil ?_
         refine then_normal ?_
         have hsh := Option.some.inj hsh
         subst hsh
         refine wp_ret ?_
         exact ret2 hs rfl (rv_cell hw 0 rfl rfl Try.isAgg28 Try.sizeOf28 rfl) (rv_tmp rfl) (hw.ret ⟨p548, k549, c547, rfl, (hw.outs [2] (by decide) rfl), (hw.envAt 1 rfl)⟩)

abbrev ref21_Convolve_rd (w0 : World) (X : List Nat) (r : (Filter × Int)) : (Nat → Prop) → World → Value → Prop := fun S w v => ∃ (p0_0 : Option Addr) (k0_0 : Nat) (c0_0 : List Value), v = .tuple #[.agg #[.slice p0_0 r.1.Taps.length k0_0, .int .i64 r.1.Factor, .int .i64 r.1.Shift], .int .i64 r.2] ∧ Outs X w0 S w [.row p0_0 r.1.Taps.length k0_0 c0_0 3 1] ∧ (RowA c0_0 r.1.Taps).p S w
set_option maxHeartbeats 4000000 in
set_option maxRecDepth 100000 in
theorem ref21_Convolve_ok {w0 : World} {S0 : Nat → Prop} {p2 : Option Addr} {k3 : Nat} {p6 : Option Addr} {k7 : Nat} {a1 : Filter} {b5 : Filter} {r : (Filter × Int)} (hsh : ref21_Convolve a1 b5 = some r) (hS : ∀ b, S0 b → b < w0.heap.size) (h4 : (SlA p2 a1.Taps.length k3 a1.Taps).p S0 w0) (h8 : (SlA p6 b5.Taps.length k7 b5.Taps).p S0 w0) : Calls Try.prog 35 #[.agg #[.slice p2 a1.Taps.length k3, .int .i64 a1.Factor, .int .i64 a1.Shift], .agg #[.slice p6 b5.Taps.length k7, .int .i64 b5.Factor, .int .i64 b5.Shift]] w0 (Ret ([]) w0 S0 (ref21_Convolve_rd w0 ([]) r)) := by
 refine calls_of_wp Try.func35 rfl ?_
 have hs := Sl.enter #[.agg #[.slice p2 a1.Taps.length k3, .int .i64 a1.Factor, .int .i64 a1.Shift], .agg #[.slice p6 b5.Taps.length k7, .int .i64 b5.Factor, .int .i64 b5.Shift]] 98 [(0, .agg #[.slice p2 a1.Taps.length k3, .int .i64 a1.Factor, .int .i64 a1.Shift]), (1, .agg #[.slice p6 b5.Taps.length k7, .int .i64 b5.Factor, .int .i64 b5.Shift])] rfl ⟨rfl, rfl, trivial⟩
 have hw := Wd.enter (E := []) hS (fun _ h => (by cases h))
 have hw := hw.addE h4
 have hw := hw.addE h8
 delta ref21_Convolve at hsh
 refine wp_seq ?_
 refine wp_region_lit ?_
 refine w_box (cs := [.slice p2 a1.Taps.length k3, .int .i64 a1.Factor, .int .i64 a1.Shift]) hs hw rfl rfl rfl trivial ?_
 intro b9 a w hs hw
 refine w_box (cs := [.slice p6 b5.Taps.length k7, .int .i64 b5.Factor, .int .i64 b5.Shift]) hs hw rfl rfl rfl trivial ?_
 intro b10 a w hs hw
 refine w_alloc (cs := [.slice none ([] : List Int).length 0, .int .i64 0, .int .i64 0]) hs hw Try.zeroValue28 rfl rfl trivial ?_
 intro b11 a w hs hw
 refine st_val hs (y_assign rfl) trivial rfl rfl fun a hs => ?_
 refine wpList_nil ?_
 refine then_normal ?_
 refine wp_seq ?_
 refine wp_block ?_
 refine wp_seq ?_
 refine wp_region_lit ?_
 refine st_val hs (y_loadBA (hw.ownAt 2 rfl) rfl Try.isAgg28 Try.sizeOf28 rfl rfl) trivial rfl rfl fun a hs => ?_
 obtain ⟨rv44, h43, hsh⟩ := bind_t hsh
 refine st_callR hs (ref21_Valid_ok h43 hw.bdom (hw.bE 1 rfl)) (do_call Try.call20 rfl) trivial rfl rfl ?_
 intro v48 Sv45 w a h46 h47 hs
 subst h47
 have hw := hw.callB h46
 refine st_val hs (y_not rfl) trivial rfl rfl fun a hs => ?_
 refine st_val hs (y_move rfl) trivial rfl rfl fun a hs => ?_
 obtain ⟨c58, hc58, hsh⟩ := bind_t hsh
 refine wpl_join 4 (fun a w => ∃ (Sv59 : Nat → Prop), Sl 98 [(2, .pointer (some ⟨b9, 0, none⟩)), (3, .pointer (some ⟨b10, 0, none⟩)), (4, .pointer (some ⟨b11, 0, none⟩)), (17, .bool c58)] a ∧ Wd ⟨w0, S0, []⟩ Sv59 [.box b9 [.slice p2 a1.Taps.length k3, .int .i64 a1.Factor, .int .i64 a1.Shift] 28, .box b10 [.slice p6 b5.Taps.length k7, .int .i64 b5.Factor, .int .i64 b5.Shift] 28, .box b11 [.slice none ([] : List Int).length 0, .int .i64 0, .int .i64 0] 28] [SlA p2 a1.Taps.length k3 a1.Taps, SlA p6 b5.Taps.length k7 b5.Taps, SlA none ([] : List Int).length 0 ([] : List Int)] w) ?_ ?_
 ·rcases Bool.eq_false_or_eq_true (!rv44) with h57 | h57
  ·have hs := hs.fix 13 (.bool true) rfl (vb h57)
   have hsh := ite_t hc58 h57
   refine st_skip hs rfl rfl rfl rfl rfl fun a hs => ?_
   refine st_skip hs rfl rfl rfl rfl rfl fun a hs => ?_
   refine st_skip hs rfl rfl rfl rfl rfl fun a hs => ?_
   refine st_val hs (y_pickT rfl rfl) trivial rfl rfl fun a hs => ?_
   refine wpList_nil ?_
   have hw := hw.addE (e := SlA (α := Int) none 0 0 []) nil_sl
   have hsh := Option.some.inj hsh
   subst hsh
   refine then_normal ?_
   exact ⟨S0, (hs.wk rfl), (hw.ft [2, 1, 0] [2, 1, 0] (by decide) rfl rfl)⟩
  ·have hs := hs.fix 13 (.bool false) rfl (vb h57)
   have hsh := ite_f hc58 h57
   refine st_val hs (y_loadBA (hw.ownAt 1 rfl) rfl Try.isAgg28 Try.sizeOf28 rfl rfl) ⟨_, rfl, rfl⟩ rfl rfl fun a hs => ?_
   obtain ⟨rv61, h60, hsh⟩ := bind_t hsh
   refine st_callR hs (ref21_Valid_ok h60 hw.bdom (hw.bE 0 rfl)) (do_call Try.call20 rfl) ⟨_, rfl, rfl⟩ rfl rfl ?_
   intro v65 Sv62 w a h63 h64 hs
   subst h64
   have hw := hw.callB h63
   refine st_val hs (y_not rfl) ⟨_, rfl, rfl⟩ rfl rfl fun a hs => ?_
   refine st_val hs (y_pickF rfl rfl) trivial rfl rfl fun a hs => ?_
   refine wpList_nil ?_
   have hw := hw.addE (e := SlA (α := Int) none 0 0 []) nil_sl
   have hsh := Option.some.inj hsh
   subst hsh
   refine then_normal ?_
   exact ⟨S0, (hs.wk rfl), (hw.ft [2, 1, 0] [2, 1, 0] (by decide) rfl rfl)⟩
 ·rintro a w ⟨Sv59, hs, hw⟩
  refine st_val hs (y_assign rfl) trivial rfl rfl fun a hs => ?_
  refine wpList_nil ?_
  refine then_normal ?_
  refine wp_cond_split (hs.ev rfl) (fun h74 => ?_) (fun h74 => ?_)
  ·have hsh := ite_t hsh h74
   refine wp_seq ?_
   refine wp_region_lit ?_
   refine st_val hs (y_build (vs := []) Bld28 rfl rfl) trivial rfl rfl fun a hs => ?_
   refine w_store (m := 3) (cs' := [.slice none ([] : List Int).length 0, .int .i64 0, .int .i64 0]) hs hw 2 rfl rfl rfl Try.sizeOf28 rfl rfl rfl rfl trivial ?_
   intro a w hs hw
   refine st_val hs (y_assign rfl) trivial rfl rfl fun a hs => ?_
   refine wpList_nil ?_
   refine then_normal ?_
   have hsh := Option.some.inj hsh
   subst hsh
   have hw := hw.nilRow Int 3
   refine wp_ret ?_
   refine blk_ret ?_
   refine then_ret ?_
   exact ret2 hs rfl (rv_cell hw 3 rfl rfl Try.isAgg28 Try.sizeOf28 rfl) (rv_tmp rfl) (hw.ret ⟨none, 0, [], rfl, (hw.outs [0] (by decide) rfl), (hw.envAt 0 rfl)⟩)
  ·have hsh := ite_f hsh h74
   refine wp_seq ?_
   refine wp_region_lit ?_
   refine st_val hs (y_fieldAddr (o' := 1) Try.runUnderlying28 rfl Try.sizeOf3 rfl rfl rfl) trivial rfl rfl fun a hs => ?_
   refine st_val hs (y_loadB1 (hw.ownAt 0 rfl) rfl Try.isAgg3 rfl) trivial rfl rfl fun a hs => ?_
   refine st_val hs (y_neq rfl rfl) trivial rfl rfl fun a hs => ?_
   refine st_val hs (y_move rfl) trivial rfl rfl fun a hs => ?_
   refine wpl_join 4 (fun a w1 => w = w1 ∧ Sl 98 [(2, .pointer (some ⟨b9, 0, none⟩)), (3, .pointer (some ⟨b10, 0, none⟩)), (4, .pointer (some ⟨b11, 0, none⟩)), (27, .bool ((a1.Factor != 1) || (b5.Factor != 1)))] a) ?_ ?_
   ·rcases Bool.eq_false_or_eq_true (a1.Factor != 1) with h75 | h75
    ·have hs := hs.fix 23 (.bool true) rfl (vb h75)
     refine st_skip hs rfl rfl rfl rfl rfl fun a hs => ?_
     refine st_skip hs rfl rfl rfl rfl rfl fun a hs => ?_
     refine st_skip hs rfl rfl rfl rfl rfl fun a hs => ?_
     refine st_val hs (y_pickT rfl rfl) trivial rfl rfl fun a hs => ?_
     refine wpList_nil ?_
     refine then_normal ?_
     exact ⟨rfl, (hs.fix 27 (.bool ((a1.Factor != 1) || (b5.Factor != 1))) rfl (or_t h75)).weaken _ ⟨rfl, rfl, rfl, rfl, trivial⟩⟩
    ·have hs := hs.fix 23 (.bool false) rfl (vb h75)
     refine st_val hs (y_fieldAddr (o' := 1) Try.runUnderlying28 rfl Try.sizeOf3 rfl rfl rfl) ⟨_, rfl, rfl⟩ rfl rfl fun a hs => ?_
     refine st_val hs (y_loadB1 (hw.ownAt 1 rfl) rfl Try.isAgg3 rfl) ⟨_, rfl, rfl⟩ rfl rfl fun a hs => ?_
     refine st_val hs (y_neq rfl rfl) ⟨_, rfl, rfl⟩ rfl rfl fun a hs => ?_
     refine st_val hs (y_pickF rfl rfl) trivial rfl rfl fun a hs => ?_
     refine wpList_nil ?_
     refine then_normal ?_
     exact ⟨rfl, (hs.fix 27 (.bool ((a1.Factor != 1) || (b5.Factor != 1))) rfl (or_f h75)).weaken _ ⟨rfl, rfl, rfl, rfl, trivial⟩⟩
   ·rintro a w1 ⟨h1160, hs⟩
    subst h1160
    refine st_val hs (y_assign rfl) trivial rfl rfl fun a hs => ?_
    refine wpList_nil ?_
    refine then_normal ?_
    refine wp_cond_split (hs.ev rfl) (fun h80 => ?_) (fun h80 => ?_)
    ·have hsh := ite_t hsh h80
     refine wp_seq ?_
     refine wp_region_lit ?_
     refine st_val hs (y_build (vs := []) Bld28 rfl rfl) trivial rfl rfl fun a hs => ?_
     refine w_store (m := 3) (cs' := [.slice none ([] : List Int).length 0, .int .i64 0, .int .i64 0]) hs hw 2 rfl rfl rfl Try.sizeOf28 rfl rfl rfl rfl trivial ?_
     intro a w hs hw
     refine st_val hs (y_assign rfl) trivial rfl rfl fun a hs => ?_
     refine wpList_nil ?_
     refine then_normal ?_
     have hsh := Option.some.inj hsh
     subst hsh
     have hw := hw.nilRow Int 3
     refine wp_ret ?_
     refine blk_ret ?_
     refine then_ret ?_
     exact ret2 hs rfl (rv_cell hw 3 rfl rfl Try.isAgg28 Try.sizeOf28 rfl) (rv_tmp rfl) (hw.ret ⟨none, 0, [], rfl, (hw.outs [0] (by decide) rfl), (hw.envAt 0 rfl)⟩)
    ·have hsh := ite_f hsh h80
     refine wp_seq ?_
     refine wp_region_lit ?_
     refine st_val hs (y_fieldAddr (o' := 0) Try.runUnderlying28 rfl Try.sizeOf22 rfl rfl rfl) trivial rfl rfl fun a hs => ?_
     refine st_val hs (y_loadB1 (hw.ownAt 0 rfl) rfl Try.isAgg22 rfl) trivial rfl rfl fun a hs => ?_
     refine st_val hs (y_len Try.runUnderlying22 rfl) trivial rfl rfl fun a hs => ?_
     refine st_val hs (y_fieldAddr (o' := 0) Try.runUnderlying28 rfl Try.sizeOf22 rfl rfl rfl) trivial rfl rfl fun a hs => ?_
     refine st_val hs (y_loadB1 (hw.ownAt 1 rfl) rfl Try.isAgg22 rfl) trivial rfl rfl fun a hs => ?_
     refine st_val hs (y_len Try.runUnderlying22 rfl) trivial rfl rfl fun a hs => ?_
     refine st_val hs (y_add rfl rfl) trivial rfl rfl fun a hs => ?_
     refine st_val hs (y_sub rfl rfl) trivial rfl rfl fun a hs => ?_
     refine st_val hs (y_gtr rfl rfl) trivial rfl rfl fun a hs => ?_
     refine st_val hs (y_move rfl) trivial rfl rfl fun a hs => ?_
     refine wpl_join 7 (fun a w1 => w = w1 ∧ Sl 98 [(2, .pointer (some ⟨b9, 0, none⟩)), (3, .pointer (some ⟨b10, 0, none⟩)), (4, .pointer (some ⟨b11, 0, none⟩)), (46, .bool ((decide (128 < (w64 ((w64 ((a1.Taps.length : Int) + (b5.Taps.length : Int))) - 1)))) || (decide (30 < (w64 (a1.Shift + b5.Shift))))))] a) ?_ ?_
     ·rcases Bool.eq_false_or_eq_true (decide (128 < (w64 ((w64 ((a1.Taps.length : Int) + (b5.Taps.length : Int))) - 1)))) with h81 | h81
      ·have hs := hs.fix 39 (.bool true) rfl (vb h81)
       refine st_skip hs rfl rfl rfl rfl rfl fun a hs => ?_
       refine st_skip hs rfl rfl rfl rfl rfl fun a hs => ?_
       refine st_skip hs rfl rfl rfl rfl rfl fun a hs => ?_
       refine st_skip hs rfl rfl rfl rfl rfl fun a hs => ?_
       refine st_skip hs rfl rfl rfl rfl rfl fun a hs => ?_
       refine st_skip hs rfl rfl rfl rfl rfl fun a hs => ?_
       refine st_val hs (y_pickT rfl rfl) trivial rfl rfl fun a hs => ?_
       refine wpList_nil ?_
       refine then_normal ?_
       exact ⟨rfl, (hs.fix 46 (.bool ((decide (128 < (w64 ((w64 ((a1.Taps.length : Int) + (b5.Taps.length : Int))) - 1)))) || (decide (30 < (w64 (a1.Shift + b5.Shift)))))) rfl (or_t h81)).weaken _ ⟨rfl, rfl, rfl, rfl, trivial⟩⟩
      ·have hs := hs.fix 39 (.bool false) rfl (vb h81)
       refine st_val hs (y_fieldAddr (o' := 2) Try.runUnderlying28 rfl Try.sizeOf3 rfl rfl rfl) ⟨_, rfl, rfl⟩ rfl rfl fun a hs => ?_
       refine st_val hs (y_loadB1 (hw.ownAt 0 rfl) rfl Try.isAgg3 rfl) ⟨_, rfl, rfl⟩ rfl rfl fun a hs => ?_
       refine st_val hs (y_fieldAddr (o' := 2) Try.runUnderlying28 rfl Try.sizeOf3 rfl rfl rfl) ⟨_, rfl, rfl⟩ rfl rfl fun a hs => ?_
       refine st_val hs (y_loadB1 (hw.ownAt 1 rfl) rfl Try.isAgg3 rfl) ⟨_, rfl, rfl⟩ rfl rfl fun a hs => ?_
       refine st_val hs (y_add rfl rfl) ⟨_, rfl, rfl⟩ rfl rfl fun a hs => ?_
       refine st_val hs (y_gtr rfl rfl) ⟨_, rfl, rfl⟩ rfl rfl fun a hs => ?_
       refine st_val hs (y_pickF rfl rfl) trivial rfl rfl fun a hs => ?_
       refine wpList_nil ?_
       refine then_normal ?_
       exact ⟨rfl, (hs.fix 46 (.bool ((decide (128 < (w64 ((w64 ((a1.Taps.length : Int) + (b5.Taps.length : Int))) - 1)))) || (decide (30 < (w64 (a1.Shift + b5.Shift)))))) rfl (or_f h81)).weaken _ ⟨rfl, rfl, rfl, rfl, trivial⟩⟩
     ·rintro a w1 ⟨h1159, hs⟩
      subst h1159
      refine st_val hs (y_assign rfl) trivial rfl rfl fun a hs => ?_
      refine wpList_nil ?_
      refine then_normal ?_
      refine wp_cond_split (hs.ev rfl) (fun h83 => ?_) (fun h83 => ?_)
      ·have hsh := ite_t hsh h83
       refine wp_seq ?_
       refine wp_region_lit ?_
       refine st_val hs (y_build (vs := []) Bld28 rfl rfl) trivial rfl rfl fun a hs => ?_
       refine w_store (m := 3) (cs' := [.slice none ([] : List Int).length 0, .int .i64 0, .int .i64 0]) hs hw 2 rfl rfl rfl Try.sizeOf28 rfl rfl rfl rfl trivial ?_
       intro a w hs hw
       refine st_val hs (y_assign rfl) trivial rfl rfl fun a hs => ?_
       refine wpList_nil ?_
       refine then_normal ?_
       have hsh := Option.some.inj hsh
       subst hsh
       have hw := hw.nilRow Int 3
       refine wp_ret ?_
       refine blk_ret ?_
       refine then_ret ?_
       exact ret2 hs rfl (rv_cell hw 3 rfl rfl Try.isAgg28 Try.sizeOf28 rfl) (rv_tmp rfl) (hw.ret ⟨none, 0, [], rfl, (hw.outs [0] (by decide) rfl), (hw.envAt 0 rfl)⟩)
      ·have hsh := ite_f hsh h83
       refine wp_skip ?_
       refine blk_normal ?_
       refine then_normal ?_
       refine wp_seq ?_
       obtain ⟨l85, h84, hsh⟩ := bind_t hsh
       refine wp_only (fun a w => ∃ (Sv89 : Nat → Prop) (b88 : Nat) (c87 : List Value) (p86 : Option Addr), Sl 98 [(2, .pointer (some ⟨b9, 0, none⟩)), (3, .pointer (some ⟨b10, 0, none⟩)), (4, .pointer (some ⟨b11, 0, none⟩)), (6, .pointer (some ⟨b88, 0, none⟩))] a ∧ Wd ⟨w0, S0, []⟩ Sv89 [.box b9 [.slice p2 a1.Taps.length k3, .int .i64 a1.Factor, .int .i64 a1.Shift] 28, .box b10 [.slice p6 b5.Taps.length k7, .int .i64 b5.Factor, .int .i64 b5.Shift] 28, .box b11 [.slice none ([] : List Int).length 0, .int .i64 0, .int .i64 0] 28, .box b88 [.slice p86 l85.length l85.length, .int .i64 1, .int .i64 (w64 (a1.Shift + b5.Shift))] 28, .row p86 l85.length l85.length c87 3 1] [SlA p2 a1.Taps.length k3 a1.Taps, SlA p6 b5.Taps.length k7 b5.Taps, SlA none ([] : List Int).length 0 ([] : List Int), RowA c87 l85] w) ?_ ?_
       ·refine h_b (C := Cls [.box b9 [.slice p2 a1.Taps.length k3, .int .i64 a1.Factor, .int .i64 a1.Shift] 28, .box b10 [.slice p6 b5.Taps.length k7, .int .i64 b5.Factor, .int .i64 b5.Shift] 28, .box b11 [.slice none ([] : List Int).length 0, .int .i64 0, .int .i64 0] 28] []) (by kernel_rfl) rfl (hw.drew.cs [0, 1, 2] [] rfl rfl) fun hC => ?_
        have hw := hw.drew
        refine h_g hs 0 rfl (by kernel_rfl) rfl rfl hC rfl (fun w hC => y_fieldAddr (o' := 0) Try.runUnderlying28 rfl Try.sizeOf22 rfl rfl rfl) fun a hs => ?_
        refine h_g hs 1 rfl (by kernel_rfl) rfl rfl hC rfl (fun w hC => y_loadB1 (hC.ownAt 0 rfl) rfl Try.isAgg22 rfl) fun a hs => ?_
        refine h_g hs 2 rfl (by kernel_rfl) rfl rfl hC rfl (fun w hC => y_len Try.runUnderlying22 rfl) fun a hs => ?_
        refine h_g hs 3 rfl (by kernel_rfl) rfl rfl hC rfl (fun w hC => y_fieldAddr (o' := 0) Try.runUnderlying28 rfl Try.sizeOf22 rfl rfl rfl) fun a hs => ?_
        refine h_g hs 4 rfl (by kernel_rfl) rfl rfl hC rfl (fun w hC => y_loadB1 (hC.ownAt 1 rfl) rfl Try.isAgg22 rfl) fun a hs => ?_
        refine h_g hs 5 rfl (by kernel_rfl) rfl rfl hC rfl (fun w hC => y_len Try.runUnderlying22 rfl) fun a hs => ?_
        refine h_g hs 6 rfl (by kernel_rfl) rfl rfl hC rfl (fun w hC => y_add rfl rfl) fun a hs => ?_
        refine h_g hs 7 rfl (by kernel_rfl) rfl rfl hC rfl (fun w hC => y_sub rfl rfl) fun a hs => ?_
        refine h_g hs 9 rfl (by kernel_rfl) rfl rfl hC rfl (fun w hC => y_fieldAddr (o' := 2) Try.runUnderlying28 rfl Try.sizeOf3 rfl rfl rfl) fun a hs => ?_
        refine h_g hs 10 rfl (by kernel_rfl) rfl rfl hC rfl (fun w hC => y_loadB1 (hC.ownAt 0 rfl) rfl Try.isAgg3 rfl) fun a hs => ?_
        refine h_g hs 11 rfl (by kernel_rfl) rfl rfl hC rfl (fun w hC => y_fieldAddr (o' := 2) Try.runUnderlying28 rfl Try.sizeOf3 rfl rfl rfl) fun a hs => ?_
        refine h_g hs 12 rfl (by kernel_rfl) rfl rfl hC rfl (fun w hC => y_loadB1 (hC.ownAt 1 rfl) rfl Try.isAgg3 rfl) fun a hs => ?_
        refine h_g hs 13 rfl (by kernel_rfl) rfl rfl hC rfl (fun w hC => y_add rfl rfl) fun a hs => ?_
        refine h_all (rs := [8, 15]) (by kernel_rfl) rfl ?_
        refine AllH.cons rfl ?_ ?_
        ·refine w_make (α := Int) hs hw El22 ⟨_, rfl, rfl⟩ rfl rfl h84 rfl trivial ?_
         intro p86 c87 a w hs hw
         refine h_nx (hw.cs [1, 2, 3] [] rfl rfl) fun hC => ?_
         refine h_st (C' := Cls [.box b9 [.slice p2 a1.Taps.length k3, .int .i64 a1.Factor, .int .i64 a1.Shift] 28, .box b10 [.slice p6 b5.Taps.length k7, .int .i64 b5.Factor, .int .i64 b5.Shift] 28, .box b11 [.slice none ([] : List Int).length 0, .int .i64 0, .int .i64 0] 28, .row p86 l85.length l85.length c87 3 1] []) (fun _ h => by exact h.sub [0, 1, 2] (Sel.of rfl) (AllIn.of [] rfl)) (hw.cs [1, 2, 3, 0] [] rfl rfl) fun hC => ?_
         refine h_g hs 14 rfl (by kernel_rfl) rfl rfl hC rfl (fun w hC => y_build (vs := [(0, .slice p86 l85.length l85.length), (1, .int .i64 1), (2, .int .i64 (w64 (a1.Shift + b5.Shift)))]) Bld28 rfl rfl) fun a hs => ?_
         refine h_one (i := 15) (by kernel_rfl) rfl ?_
         refine w_alloc (cs := [.slice none ([] : List Int).length 0, .int .i64 0, .int .i64 0]) hs hw Try.zeroValue28 rfl rfl trivial ?_
         intro b88 a w hs hw
         refine h_nx (hw.cs [2, 3, 4, 1] [] rfl rfl) fun hC => ?_
         refine h_one (i := 16) (by kernel_rfl) rfl ?_
         refine w_store (m := 3) (cs' := [.slice p86 l85.length l85.length, .int .i64 1, .int .i64 (w64 (a1.Shift + b5.Shift))]) hs hw 0 rfl rfl rfl Try.sizeOf28 rfl rfl rfl rfl trivial ?_
         intro a w hs hw
         refine h_nx (hw.cs [2, 3, 4, 1] [] rfl rfl) fun hC => ?_
         refine h_done (by kernel_rfl) ?_
         exact ⟨Sv59, b88, c87, p86, (hs.wk rfl), (hw.ft [2, 3, 4, 0, 1] [1, 2, 3, 0] (by decide) rfl rfl)⟩
        refine AllH.cons rfl ?_ ?_
        ·refine w_alloc (cs := [.slice none ([] : List Int).length 0, .int .i64 0, .int .i64 0]) hs hw Try.zeroValue28 rfl rfl trivial ?_
         intro b88 a w hs hw
         refine h_nx (hw.cs [1, 2, 3] [] rfl rfl) fun hC => ?_
         refine h_one (i := 8) (by kernel_rfl) rfl ?_
         refine w_make (α := Int) hs hw El22 ⟨_, rfl, rfl⟩ rfl rfl h84 rfl trivial ?_
         intro p86 c87 a w hs hw
         refine h_nx (hw.cs [2, 3, 4] [] rfl rfl) fun hC => ?_
         refine h_st (C' := Cls [.box b9 [.slice p2 a1.Taps.length k3, .int .i64 a1.Factor, .int .i64 a1.Shift] 28, .box b10 [.slice p6 b5.Taps.length k7, .int .i64 b5.Factor, .int .i64 b5.Shift] 28, .box b11 [.slice none ([] : List Int).length 0, .int .i64 0, .int .i64 0] 28, .row p86 l85.length l85.length c87 3 1] []) (fun _ h => by exact h.sub [0, 1, 2] (Sel.of rfl) (AllIn.of [] rfl)) (hw.cs [2, 3, 4, 0] [] rfl rfl) fun hC => ?_
         refine h_g hs 14 rfl (by kernel_rfl) rfl rfl hC rfl (fun w hC => y_build (vs := [(0, .slice p86 l85.length l85.length), (1, .int .i64 1), (2, .int .i64 (w64 (a1.Shift + b5.Shift)))]) Bld28 rfl rfl) fun a hs => ?_
         refine h_one (i := 16) (by kernel_rfl) rfl ?_
         refine w_store (m := 3) (cs' := [.slice p86 l85.length l85.length, .int .i64 1, .int .i64 (w64 (a1.Shift + b5.Shift))]) hs hw 1 rfl rfl rfl Try.sizeOf28 rfl rfl rfl rfl trivial ?_
         intro a w hs hw
         refine h_nx (hw.cs [2, 3, 4, 0] [] rfl rfl) fun hC => ?_
         refine h_done (by kernel_rfl) ?_
         exact ⟨Sv59, b88, c87, p86, (hs.wk rfl), (hw.ft [2, 3, 4, 1, 0] [1, 2, 3, 0] (by decide) rfl rfl)⟩
        exact AllH.nil
       ·rintro a w ⟨Sv89, b88, c87, p86, hs, hw⟩
        refine then_normal ?_
        refine wp_seq ?_
        refine wp_seq ?_
        refine wp_region_lit ?_
        refine st_val hs (y_assign rfl) trivial rfl rfl fun a hs => ?_
        refine wpList_nil ?_
        refine then_normal ?_
        obtain ⟨e666, h1158, hsh⟩ := bind_t hsh
        refine wp_join (fun a w => ∃ (c667 : List Value) (p668 : Option Addr) (k669 : Nat) (Sv670 : Nat → Prop), Sl 98 [(4, .pointer (some ⟨b11, 0, none⟩)), (6, .pointer (some ⟨b88, 0, none⟩))] a ∧ Wd ⟨w0, S0, []⟩ Sv670 [.box b11 [.slice none ([] : List Int).length 0, .int .i64 0, .int .i64 0] 28, .box b88 [.slice p668 e666.length k669, .int .i64 1, .int .i64 (w64 (a1.Shift + b5.Shift))] 28, .row p668 e666.length k669 c667 3 1] [SlA none ([] : List Int).length 0 ([] : List Int), RowA c667 e666] w) ?_ ?_
        ·refine wp_block ?_
         refine wp_while (fun sv90 a w => ∃ (c471 : List Value) (p472 : Option Addr) (k473 : Nat) (Sv474 : Nat → Prop), Sl 98 [(2, .pointer (some ⟨b9, 0, none⟩)), (3, .pointer (some ⟨b10, 0, none⟩)), (4, .pointer (some ⟨b11, 0, none⟩)), (6, .pointer (some ⟨b88, 0, none⟩)), (7, .int .i64 sv90.2)] a ∧ Wd ⟨w0, S0, []⟩ Sv474 [.box b9 [.slice p2 a1.Taps.length k3, .int .i64 a1.Factor, .int .i64 a1.Shift] 28, .box b10 [.slice p6 b5.Taps.length k7, .int .i64 b5.Factor, .int .i64 b5.Shift] 28, .box b11 [.slice none ([] : List Int).length 0, .int .i64 0, .int .i64 0] 28, .box b88 [.slice p472 sv90.1.length k473, .int .i64 1, .int .i64 (w64 (a1.Shift + b5.Shift))] 28, .row p472 sv90.1.length k473 c471 3 1] [SlA p2 a1.Taps.length k3 a1.Taps, SlA p6 b5.Taps.length k7 b5.Taps, SlA none ([] : List Int).length 0 ([] : List Int), RowA c471 sv90.1] w) (l85, 0) h1158 ⟨c87, p86, l85.length, Sv89, (hs.wk rfl), (hw.ft [0, 1, 2, 3, 4] [0, 1, 2, 3] (by decide) rfl rfl)⟩ ?_
         clear h1158
         repeat clear hsh
         rintro sv90 a w tv664 ⟨c471, p472, k473, Sv474, hs, hw⟩ hsh hd663
         delta ref21_Convolve_l3 at hsh
         refine wp_seq ?_
         refine wp_seq ?_
         refine wp_region_lit ?_
         refine st_val hs (y_move rfl) trivial rfl rfl fun a hs => ?_
         refine st_val hs (y_fieldAddr (o' := 0) Try.runUnderlying28 rfl Try.sizeOf22 rfl rfl rfl) trivial rfl rfl fun a hs => ?_
         refine st_val hs (y_loadB1 (hw.ownAt 0 rfl) rfl Try.isAgg22 rfl) trivial rfl rfl fun a hs => ?_
         refine st_val hs (y_len Try.runUnderlying22 rfl) trivial rfl rfl fun a hs => ?_
         refine st_val hs (y_lss rfl rfl) trivial rfl rfl fun a hs => ?_
         refine wpList_nil ?_
         refine then_normal ?_
         refine wp_cond_split (hs.ev rfl) (fun h672 => ?_) (fun h672 => ?_)
         ·have hsh := ite_t hsh h672
          refine wp_skip ?_
          refine then_normal ?_
          refine wp_seq ?_
          refine wp_block ?_
          refine wp_seq ?_
          refine wp_region_lit ?_
          refine st_val hs (y_assign rfl) trivial rfl rfl fun a hs => ?_
          refine wpList_nil ?_
          refine then_normal ?_
          obtain ⟨e1038, h1156, hsh⟩ := bind_t hsh
          refine wp_join (fun a w => ∃ (c1039 : List Value) (p1040 : Option Addr) (k1041 : Nat) (Sv1042 : Nat → Prop), Sl 98 [(2, .pointer (some ⟨b9, 0, none⟩)), (3, .pointer (some ⟨b10, 0, none⟩)), (4, .pointer (some ⟨b11, 0, none⟩)), (6, .pointer (some ⟨b88, 0, none⟩)), (7, .int .i64 sv90.2)] a ∧ Wd ⟨w0, S0, []⟩ Sv1042 [.box b9 [.slice p2 a1.Taps.length k3, .int .i64 a1.Factor, .int .i64 a1.Shift] 28, .box b10 [.slice p6 b5.Taps.length k7, .int .i64 b5.Factor, .int .i64 b5.Shift] 28, .box b11 [.slice none ([] : List Int).length 0, .int .i64 0, .int .i64 0] 28, .box b88 [.slice p1040 e1038.length k1041, .int .i64 1, .int .i64 (w64 (a1.Shift + b5.Shift))] 28, .row p1040 e1038.length k1041 c1039 3 1] [SlA p2 a1.Taps.length k3 a1.Taps, SlA p6 b5.Taps.length k7 b5.Taps, SlA none ([] : List Int).length 0 ([] : List Int), RowA c1039 e1038] w) ?_ ?_
          ·refine wp_block ?_
           refine wp_while (fun sv858 a w => ∃ (c975 : List Value) (p976 : Option Addr) (k977 : Nat) (Sv978 : Nat → Prop), Sl 98 [(2, .pointer (some ⟨b9, 0, none⟩)), (3, .pointer (some ⟨b10, 0, none⟩)), (4, .pointer (some ⟨b11, 0, none⟩)), (6, .pointer (some ⟨b88, 0, none⟩)), (7, .int .i64 sv90.2), (8, .int .i64 sv858.2)] a ∧ Wd ⟨w0, S0, []⟩ Sv978 [.box b9 [.slice p2 a1.Taps.length k3, .int .i64 a1.Factor, .int .i64 a1.Shift] 28, .box b10 [.slice p6 b5.Taps.length k7, .int .i64 b5.Factor, .int .i64 b5.Shift] 28, .box b11 [.slice none ([] : List Int).length 0, .int .i64 0, .int .i64 0] 28, .box b88 [.slice p976 sv858.1.length k977, .int .i64 1, .int .i64 (w64 (a1.Shift + b5.Shift))] 28, .row p976 sv858.1.length k977 c975 3 1] [SlA p2 a1.Taps.length k3 a1.Taps, SlA p6 b5.Taps.length k7 b5.Taps, SlA none ([] : List Int).length 0 ([] : List Int), RowA c975 sv858.1] w) (sv90.1, 0) h1156 ⟨c471, p472, k473, Sv474, (hs.wk rfl), (hw.ft [0, 1, 2, 3, 4] [0, 1, 2, 3] (by decide) rfl rfl)⟩ ?_
           clear h1156
           repeat clear hsh
           rintro sv858 a w tv1036 ⟨c975, p976, k977, Sv978, hs, hw⟩ hsh hd1035
           delta ref21_Convolve_l6 at hsh
           refine wp_seq ?_
           refine wp_seq ?_
           refine wp_region_lit ?_
           refine st_val hs (y_move rfl) trivial rfl rfl fun a hs => ?_
           refine st_val hs (y_fieldAddr (o' := 0) Try.runUnderlying28 rfl Try.sizeOf22 rfl rfl rfl) trivial rfl rfl fun a hs => ?_
           refine st_val hs (y_loadB1 (hw.ownAt 1 rfl) rfl Try.isAgg22 rfl) trivial rfl rfl fun a hs => ?_
           refine st_val hs (y_len Try.runUnderlying22 rfl) trivial rfl rfl fun a hs => ?_
           refine st_val hs (y_lss rfl rfl) trivial rfl rfl fun a hs => ?_
           refine wpList_nil ?_
           refine then_normal ?_
           refine wp_cond_split (hs.ev rfl) (fun h1044 => ?_) (fun h1044 => ?_)
           ·have hsh := ite_t hsh h1044
            refine wp_skip ?_
            refine then_normal ?_
            refine wp_seq ?_
            refine wp_block ?_
            obtain ⟨x1100, h1098, hsh⟩ := bind_t hsh
            obtain ⟨b1107, q1104, c1105, h1108, h1101, h1102, h1106, h1099⟩ := hw.elemRV (α := Int) 4 rfl 3 rfl h1098
            have hsv1109 := hs
            have hwv1110 := hw
            subst h1108
            have hs := hsv1109
            have hw := hwv1110
            obtain ⟨_, rfl, rfl⟩ := h1099
            obtain ⟨x1113, h1111, hsh⟩ := bind_t hsh
            obtain ⟨b1119, o1120, q1117, c1118, h1121, h1114, h1115, h1116, h1112⟩ := hw.elemV 0 rfl h1111
            have hsv1122 := hs
            have hwv1123 := hw
            subst h1121
            have hs := hsv1122
            have hw := hwv1123
            obtain ⟨_, rfl, rfl⟩ := h1112
            have hw := hw.addE h1116
            obtain ⟨x1126, h1124, hsh⟩ := bind_t hsh
            obtain ⟨b1132, o1133, q1130, c1131, h1134, h1127, h1128, h1129, h1125⟩ := hw.elemV 2 rfl h1124
            have hsv1135 := hs
            have hwv1136 := hw
            subst h1134
            have hs := hsv1135
            have hw := hwv1136
            obtain ⟨_, rfl, rfl⟩ := h1125
            have hw := hw.addE h1129
            obtain ⟨x1139, h1137, hsh⟩ := bind_t hsh
            obtain ⟨q1143, c1144, h1140, h1141, h1145, h1138⟩ := hw.elemRK (α := Int) 4 rfl 5 rfl h1137
            obtain ⟨_, rfl, rfl⟩ := h1138
            obtain ⟨l1147, h1146, hsh⟩ := bind_t hsh
            refine wp_only (fun a w => ∃ (Sv1150 : Nat → Prop) (c1148 : List Value), Sl 98 [(2, .pointer (some ⟨b9, 0, none⟩)), (3, .pointer (some ⟨b10, 0, none⟩)), (4, .pointer (some ⟨b11, 0, none⟩)), (6, .pointer (some ⟨b88, 0, none⟩)), (7, .int .i64 sv90.2), (8, .int .i64 sv858.2)] a ∧ Wd ⟨w0, S0, []⟩ Sv1150 [.box b9 [.slice (some ⟨b1119, o1120, none⟩) a1.Taps.length k3, .int .i64 a1.Factor, .int .i64 a1.Shift] 28, .box b10 [.slice (some ⟨b1132, o1133, none⟩) b5.Taps.length k7, .int .i64 b5.Factor, .int .i64 b5.Shift] 28, .box b11 [.slice none ([] : List Int).length 0, .int .i64 0, .int .i64 0] 28, .box b88 [.slice (some ⟨b1107, 0, none⟩) l1147.length k977, .int .i64 1, .int .i64 (w64 (a1.Shift + b5.Shift))] 28, .row (some ⟨b1107, 0, none⟩) l1147.length k977 c1148 3 1] [SlA (some ⟨b1119, o1120, none⟩) a1.Taps.length k3 a1.Taps, SlA (some ⟨b1132, o1133, none⟩) b5.Taps.length k7 b5.Taps, SlA none ([] : List Int).length 0 ([] : List Int), RowA c1148 l1147] w) ?_ ?_
            ·refine h_b (C := Cls [.box b9 [.slice (some ⟨b1119, o1120, none⟩) a1.Taps.length k3, .int .i64 a1.Factor, .int .i64 a1.Shift] 28, .box b10 [.slice (some ⟨b1132, o1133, none⟩) b5.Taps.length k7, .int .i64 b5.Factor, .int .i64 b5.Shift] 28, .box b11 [.slice none ([] : List Int).length 0, .int .i64 0, .int .i64 0] 28, .box b88 [.slice (some ⟨b1107, 0, none⟩) sv858.1.length k977, .int .i64 1, .int .i64 (w64 (a1.Shift + b5.Shift))] 28] [CeA b1132 q1130 [.int .i64 x1126], CeA b1119 q1117 [.int .i64 x1113]]) (by kernel_rfl) rfl (hw.drew.cs [0, 1, 2, 3] [0, 1] rfl rfl) fun hC => ?_
             have hw := hw.drew
             refine h_g hs 0 rfl (by kernel_rfl) rfl rfl hC rfl (fun w hC => y_fieldAddr (o' := 0) Try.runUnderlying28 rfl Try.sizeOf22 rfl rfl rfl) fun a hs => ?_
             refine h_g hs 1 rfl (by kernel_rfl) rfl rfl hC rfl (fun w hC => y_loadB1 (hC.ownAt 3 rfl) rfl Try.isAgg22 rfl) fun a hs => ?_
             refine h_g hs 2 rfl (by kernel_rfl) rfl rfl hC rfl (fun w hC => y_move rfl) fun a hs => ?_
             refine h_g hs 3 rfl (by kernel_rfl) rfl rfl hC rfl (fun w hC => y_move rfl) fun a hs => ?_
             refine h_g hs 4 rfl (by kernel_rfl) rfl rfl hC rfl (fun w hC => y_add rfl rfl) fun a hs => ?_
             refine h_g hs 5 rfl (by kernel_rfl) rfl rfl hC rfl (fun w hC => y_indexAt Try.runUnderlying22 Try.sizeOf3 rfl rfl h1101.1 h1101.2 h1102) fun a hs => ?_
             refine h_g hs 7 rfl (by kernel_rfl) rfl rfl hC rfl (fun w hC => y_fieldAddr (o' := 0) Try.runUnderlying28 rfl Try.sizeOf22 rfl rfl rfl) fun a hs => ?_
             refine h_g hs 8 rfl (by kernel_rfl) rfl rfl hC rfl (fun w hC => y_loadB1 (hC.ownAt 0 rfl) rfl Try.isAgg22 rfl) fun a hs => ?_
             refine h_g hs 9 rfl (by kernel_rfl) rfl rfl hC rfl (fun w hC => y_move rfl) fun a hs => ?_
             refine h_g hs 10 rfl (by kernel_rfl) rfl rfl hC rfl (fun w hC => y_indexAt Try.runUnderlying22 Try.sizeOf3 rfl rfl h1114.1 h1114.2 h1115) fun a hs => ?_
             refine h_g hs 11 rfl (by kernel_rfl) rfl rfl hC rfl (fun w hC => y_loadE1 (j := 0) (hC.ceAt 1 rfl) rfl Try.isAgg3 rfl) fun a hs => ?_
             refine h_g hs 12 rfl (by kernel_rfl) rfl rfl hC rfl (fun w hC => y_fieldAddr (o' := 0) Try.runUnderlying28 rfl Try.sizeOf22 rfl rfl rfl) fun a hs => ?_
             refine h_g hs 13 rfl (by kernel_rfl) rfl rfl hC rfl (fun w hC => y_loadB1 (hC.ownAt 1 rfl) rfl Try.isAgg22 rfl) fun a hs => ?_
             refine h_g hs 14 rfl (by kernel_rfl) rfl rfl hC rfl (fun w hC => y_move rfl) fun a hs => ?_
             refine h_g hs 15 rfl (by kernel_rfl) rfl rfl hC rfl (fun w hC => y_indexAt Try.runUnderlying22 Try.sizeOf3 rfl rfl h1127.1 h1127.2 h1128) fun a hs => ?_
             refine h_g hs 16 rfl (by kernel_rfl) rfl rfl hC rfl (fun w hC => y_loadE1 (j := 0) (hC.ceAt 0 rfl) rfl Try.isAgg3 rfl) fun a hs => ?_
             refine h_g hs 17 rfl (by kernel_rfl) rfl rfl hC rfl (fun w hC => y_mul rfl rfl) fun a hs => ?_
             refine h_one (i := 6) (by kernel_rfl) rfl ?_
             refine st_val hs (y_loadQ1 (j := 0) (hw.ownAt 4 rfl) rfl Try.isAgg3 h1106 rfl) trivial rfl rfl fun a hs => ?_
             refine h_nx (hw.cs [0, 1, 2, 3] [0, 1] rfl rfl) fun hC => ?_
             refine h_g hs 18 rfl (by kernel_rfl) rfl rfl hC rfl (fun w hC => y_add rfl rfl) fun a hs => ?_
             refine h_g hs 19 rfl (by kernel_rfl) rfl rfl hC rfl (fun w hC => y_indexAt Try.runUnderlying22 Try.sizeOf3 rfl rfl h1140.1 h1140.2 h1141) fun a hs => ?_
             refine h_one (i := 20) (by kernel_rfl) rfl ?_
             refine w_storeF (α := Int) hs hw 4 rfl 5 rfl h1141 rfl rfl Try.sizeOf3 rfl h1146 ⟨_, rfl, rfl⟩ trivial ?_
             intro c1148 a w hs hw
             have h1149 := setM_len h1146
             try have hs := hs.fix 78 (.slice (some ⟨b1107, 0, none⟩) l1147.length k977) rfl (by rw [h1149])
             refine h_nx (hw.cs [0, 1, 2, 3] [1, 2] rfl rfl) fun hC => ?_
             refine h_done (by kernel_rfl) ?_
             have hw := hw.fixR 3 (r' := .box b88 [.slice (some ⟨b1107, 0, none⟩) l1147.length k977, .int .i64 1, .int .i64 (w64 (a1.Shift + b5.Shift))] 28) rfl (by rw [h1149])
             exact ⟨Sv978, c1148, (hs.wk rfl), (hw.ft [0, 1, 2, 3, 4] [3, 4, 5, 0] (by decide) rfl rfl)⟩
            ·rintro a w ⟨Sv1150, c1148, hs, hw⟩
             refine blk_normal ?_
             refine then_normal ?_
             refine wp_region_lit ?_
             refine st_val hs (y_move rfl) trivial rfl rfl fun a hs => ?_
             refine st_val hs (y_add rfl rfl) trivial rfl rfl fun a hs => ?_
             obtain ⟨k1152, h1151, hsh⟩ := bind_t hsh
             refine st_val hs (y_assignI rfl h1151) trivial rfl rfl fun a hs => ?_
             refine wpList_nil ?_
             refine then_normal ?_
             exact ⟨_, (Option.some.inj hsh).symm, c1148, (some ⟨b1107, 0, none⟩), k977, Sv1150, (hs.wk rfl), (hw.ft [0, 1, 2, 3, 4] [0, 1, 2, 3] (by decide) rfl rfl)⟩
           ·have hsh := ite_f hsh h1044
            refine wp_exit ?_
            refine then_exit ?_
            refine then_exit ?_
            refine blk_exit ?_
            have hsh := Option.some.inj hsh
            subst hsh
            have h1153 := hd1035 _ rfl
            subst h1153
            refine then_normal ?_
            exact ⟨c975, p976, k977, Sv978, (hs.wk rfl), (hw.ft [0, 1, 2, 3, 4] [0, 1, 2, 3] (by decide) rfl rfl)⟩
          ·rintro a w ⟨c1039, p1040, k1041, Sv1042, hs, hw⟩
           refine blk_normal ?_
           refine then_normal ?_
           refine wp_region_lit ?_
           refine st_val hs (y_move rfl) trivial rfl rfl fun a hs => ?_
           refine st_val hs (y_add rfl rfl) trivial rfl rfl fun a hs => ?_
           obtain ⟨i1155, h1154, hsh⟩ := bind_t hsh
           refine st_val hs (y_assignI rfl h1154) trivial rfl rfl fun a hs => ?_
           refine wpList_nil ?_
           refine then_normal ?_
           exact ⟨_, (Option.some.inj hsh).symm, c1039, p1040, k1041, Sv1042, (hs.wk rfl), (hw.ft [0, 1, 2, 3, 4] [0, 1, 2, 3] (by decide) rfl rfl)⟩
         ·have hsh := ite_f hsh h672
          refine wp_exit ?_
          refine then_exit ?_
          refine then_exit ?_
          refine blk_exit ?_
          have hsh := Option.some.inj hsh
          subst hsh
          have h1157 := hd663 _ rfl
          subst h1157
          refine then_normal ?_
          exact ⟨c471, p472, k473, Sv474, (hs.wk rfl), (hw.ft [2, 3, 4] [2, 3] (by decide) rfl rfl)⟩
        ·rintro a w ⟨c667, p668, k669, Sv670, hs, hw⟩
         refine then_normal ?_
         refine wp_seq ?_
         refine wp_region_lit ?_
         refine st_val hs (y_loadBA (hw.ownAt 1 rfl) rfl Try.isAgg28 Try.sizeOf28 rfl rfl) trivial rfl rfl fun a hs => ?_
         refine w_store (m := 3) (cs' := [.slice p668 e666.length k669, .int .i64 1, .int .i64 (w64 (a1.Shift + b5.Shift))]) hs hw 0 rfl rfl rfl Try.sizeOf28 rfl rfl rfl rfl trivial ?_
         intro a w hs hw
         refine st_val hs (y_assign rfl) trivial rfl rfl fun a hs => ?_
         refine wpList_nil ?_
         refine then_normal ?_
         have hsh := Option.some.inj hsh
         subst hsh
         refine wp_ret ?_
         exact ret2 hs rfl (rv_cell hw 0 rfl rfl Try.isAgg28 Try.sizeOf28 rfl) (rv_tmp rfl) (hw.ret ⟨p668, k669, c667, rfl, (hw.outs [2] (by decide) rfl), (hw.envAt 1 rfl)⟩)

abbrev ref21_ValidFeed_rd (w0 : World) (X : List Nat) (r : Bool) : (Nat → Prop) → World → Value → Prop := fun S w v => v = .bool r
set_option maxHeartbeats 4000000 in
set_option maxRecDepth 100000 in
theorem ref21_ValidFeed_ok {w0 : World} {S0 : Nat → Prop} {p2 : Option Addr} {k3 : Nat} {p4 : Option Addr} {k5 : Nat} {d1 : Feed} {r : Bool} (hsh : ref21_ValidFeed d1 = some r) (hS : ∀ b, S0 b → b < w0.heap.size) (h6 : (SlA p2 d1.Filter.Taps.length k3 d1.Filter.Taps).p S0 w0) (h7 : (SlA p4 d1.Past.length k5 d1.Past).p S0 w0) : Calls Try.prog 38 #[.agg #[.slice p2 d1.Filter.Taps.length k3, .int .i64 d1.Filter.Factor, .int .i64 d1.Filter.Shift, .slice p4 d1.Past.length k5, .int .i64 d1.Number]] w0 (Ret ([]) w0 S0 (ref21_ValidFeed_rd w0 ([]) r)) := by
 refine calls_of_wp Try.func38 rfl ?_
 have hs := Sl.enter #[.agg #[.slice p2 d1.Filter.Taps.length k3, .int .i64 d1.Filter.Factor, .int .i64 d1.Filter.Shift, .slice p4 d1.Past.length k5, .int .i64 d1.Number]] 29 [(0, .agg #[.slice p2 d1.Filter.Taps.length k3, .int .i64 d1.Filter.Factor, .int .i64 d1.Filter.Shift, .slice p4 d1.Past.length k5, .int .i64 d1.Number])] rfl ⟨rfl, trivial⟩
 have hw := Wd.enter (E := []) hS (fun _ h => (by cases h))
 have hw := hw.addE h6
 have hw := hw.addE h7
 delta ref21_ValidFeed at hsh
 refine wp_seq ?_
 refine wp_region_lit ?_
 refine w_box (cs := [.slice p2 d1.Filter.Taps.length k3, .int .i64 d1.Filter.Factor, .int .i64 d1.Filter.Shift, .slice p4 d1.Past.length k5, .int .i64 d1.Number]) hs hw rfl rfl rfl trivial ?_
 intro b8 a w hs hw
 refine st_val hs (y_assign rfl) trivial rfl rfl fun a hs => ?_
 refine wpList_nil ?_
 refine then_normal ?_
 refine wp_seq ?_
 refine wp_region_lit ?_
 refine st_val hs (y_fieldAddr (o' := 0) Try.runUnderlying51 rfl Try.sizeOf28 rfl rfl rfl) trivial rfl rfl fun a hs => ?_
 refine st_val hs (y_loadBA (hw.ownAt 0 rfl) rfl Try.isAgg28 Try.sizeOf28 rfl rfl) trivial rfl rfl fun a hs => ?_
 obtain ⟨rv10, h9, hsh⟩ := bind_t hsh
 refine st_callR hs (ref21_Valid_ok h9 hw.bdom (hw.bE 1 rfl)) (do_call Try.call20 rfl) trivial rfl rfl ?_
 intro v14 Sv11 w a h12 h13 hs
 subst h13
 have hw := hw.callB h12
 refine st_val hs (y_move rfl) trivial rfl rfl fun a hs => ?_
 refine wpl_join 9 (fun a w1 => w = w1 ∧ Sl 29 [(1, .pointer (some ⟨b8, 0, none⟩)), (15, .bool (rv10 && (decide ((d1.Past.length : Int) < (d1.Filter.Taps.length : Int)))))] a) ?_ ?_
 ·rcases Bool.eq_false_or_eq_true rv10 with h16 | h16
  ·have hs := hs.fix 6 (.bool true) rfl (vb h16)
   refine st_val hs (y_fieldAddr (o' := 3) Try.runUnderlying51 rfl Try.sizeOf22 rfl rfl rfl) ⟨_, rfl, rfl⟩ rfl rfl fun a hs => ?_
   refine st_val hs (y_loadB1 (hw.ownAt 0 rfl) rfl Try.isAgg22 rfl) ⟨_, rfl, rfl⟩ rfl rfl fun a hs => ?_
   refine st_val hs (y_len Try.runUnderlying22 rfl) ⟨_, rfl, rfl⟩ rfl rfl fun a hs => ?_
   refine st_val hs (y_fieldAddr (o' := 0) Try.runUnderlying51 rfl Try.sizeOf28 rfl rfl rfl) ⟨_, rfl, rfl⟩ rfl rfl fun a hs => ?_
   refine st_val hs (y_fieldAddr (o' := 0) Try.runUnderlying28 rfl Try.sizeOf22 rfl rfl rfl) ⟨_, rfl, rfl⟩ rfl rfl fun a hs => ?_
   refine st_val hs (y_loadB1 (hw.ownAt 0 rfl) rfl Try.isAgg22 rfl) ⟨_, rfl, rfl⟩ rfl rfl fun a hs => ?_
   refine st_val hs (y_len Try.runUnderlying22 rfl) ⟨_, rfl, rfl⟩ rfl rfl fun a hs => ?_
   refine st_val hs (y_lss rfl rfl) ⟨_, rfl, rfl⟩ rfl rfl fun a hs => ?_
   refine st_val hs (y_pickT rfl rfl) trivial rfl rfl fun a hs => ?_
   refine wpList_nil ?_
   refine then_normal ?_
   exact ⟨rfl, (hs.fix 15 (.bool (rv10 && (decide ((d1.Past.length : Int) < (d1.Filter.Taps.length : Int))))) rfl (and_t h16)).weaken _ ⟨rfl, rfl, trivial⟩⟩
  ·have hs := hs.fix 6 (.bool false) rfl (vb h16)
   refine st_skip hs rfl rfl rfl rfl rfl fun a hs => ?_
   refine st_skip hs rfl rfl rfl rfl rfl fun a hs => ?_
   refine st_skip hs rfl rfl rfl rfl rfl fun a hs => ?_
   refine st_skip hs rfl rfl rfl rfl rfl fun a hs => ?_
   refine st_skip hs rfl rfl rfl rfl rfl fun a hs => ?_
   refine st_skip hs rfl rfl rfl rfl rfl fun a hs => ?_
   refine st_skip hs rfl rfl rfl rfl rfl fun a hs => ?_
   refine st_skip hs rfl rfl rfl rfl rfl fun a hs => ?_
   refine st_val hs (y_pickF rfl rfl) trivial rfl rfl fun a hs => ?_
   refine wpList_nil ?_
   refine then_normal ?_
   exact ⟨rfl, (hs.fix 15 (.bool (rv10 && (decide ((d1.Past.length : Int) < (d1.Filter.Taps.length : Int))))) rfl (and_f h16)).weaken _ ⟨rfl, rfl, trivial⟩⟩
 ·rintro a w1 ⟨h51, hs⟩
  subst h51
  refine st_val hs (y_move rfl) trivial rfl rfl fun a hs => ?_
  obtain ⟨c25, hc25, hsh⟩ := bind_t hsh
  refine wpl_join 4 (fun a w => ∃ (Sv26 : Nat → Prop), Sl 29 [(1, .pointer (some ⟨b8, 0, none⟩)), (20, .bool c25)] a ∧ Wd ⟨w0, S0, []⟩ Sv26 [.box b8 [.slice p2 d1.Filter.Taps.length k3, .int .i64 d1.Filter.Factor, .int .i64 d1.Filter.Shift, .slice p4 d1.Past.length k5, .int .i64 d1.Number] 51] [SlA p2 d1.Filter.Taps.length k3 d1.Filter.Taps, SlA p4 d1.Past.length k5 d1.Past] w) ?_ ?_
  ·rcases Bool.eq_false_or_eq_true (rv10 && (decide ((d1.Past.length : Int) < (d1.Filter.Taps.length : Int)))) with h24 | h24
   ·have hs := hs.fix 16 (.bool true) rfl (vb h24)
    have hsh := ite_t hc25 h24
    refine st_val hs (y_fieldAddr (o' := 3) Try.runUnderlying51 rfl Try.sizeOf22 rfl rfl rfl) ⟨_, rfl, rfl⟩ rfl rfl fun a hs => ?_
    refine st_val hs (y_loadB1 (hw.ownAt 0 rfl) rfl Try.isAgg22 rfl) ⟨_, rfl, rfl⟩ rfl rfl fun a hs => ?_
    obtain ⟨rv28, h27, hsh⟩ := bind_t hsh
    refine st_callR hs (ref05_InRange_ok h27 hw.bdom (hw.bE 0 rfl)) (do_call Try.call17 rfl) ⟨_, rfl, rfl⟩ rfl rfl ?_
    intro v32 Sv29 w a h30 h31 hs
    subst h31
    have hw := hw.callB h30
    refine st_val hs (y_pickT rfl rfl) trivial rfl rfl fun a hs => ?_
    refine wpList_nil ?_
    have hsh := Option.some.inj hsh
    subst hsh
    refine then_normal ?_
    exact ⟨S0, (hs.wk rfl), (hw.ft [0] [1, 0] (by decide) rfl rfl)⟩
   ·have hs := hs.fix 16 (.bool false) rfl (vb h24)
    have hsh := ite_f hc25 h24
    refine st_skip hs rfl rfl rfl rfl rfl fun a hs => ?_
    refine st_skip hs rfl rfl rfl rfl rfl fun a hs => ?_
    refine st_skip hs rfl rfl rfl rfl rfl fun a hs => ?_
    refine st_val hs (y_pickF rfl rfl) trivial rfl rfl fun a hs => ?_
    refine wpList_nil ?_
    have hsh := Option.some.inj hsh
    subst hsh
    refine then_normal ?_
    exact ⟨S0, (hs.wk rfl), (hw.ft [0] [1, 0] (by decide) rfl rfl)⟩
  ·rintro a w ⟨Sv26, hs, hw⟩
   refine st_val hs (y_move rfl) trivial rfl rfl fun a hs => ?_
   obtain ⟨c42, hc42, hsh⟩ := bind_t hsh
   refine wpl_join 7 (fun a w => ∃ (Sv43 : Nat → Prop), Sl 29 [(28, .bool c42)] a ∧ Wd ⟨w0, S0, []⟩ Sv43 [] [] w) ?_ ?_
   ·rcases Bool.eq_false_or_eq_true c25 with h41 | h41
    ·have hs := hs.fix 21 (.bool true) rfl (vb h41)
     have hsh := ite_t hc42 h41
     refine st_val hs (y_fieldAddr (o' := 4) Try.runUnderlying51 rfl Try.sizeOf3 rfl rfl rfl) ⟨_, rfl, rfl⟩ rfl rfl fun a hs => ?_
     refine st_val hs (y_loadB1 (hw.ownAt 0 rfl) rfl Try.isAgg3 rfl) ⟨_, rfl, rfl⟩ rfl rfl fun a hs => ?_
     refine st_val hs (y_fieldAddr (o' := 3) Try.runUnderlying51 rfl Try.sizeOf22 rfl rfl rfl) ⟨_, rfl, rfl⟩ rfl rfl fun a hs => ?_
     refine st_val hs (y_loadB1 (hw.ownAt 0 rfl) rfl Try.isAgg22 rfl) ⟨_, rfl, rfl⟩ rfl rfl fun a hs => ?_
     refine st_val hs (y_len Try.runUnderlying22 rfl) ⟨_, rfl, rfl⟩ rfl rfl fun a hs => ?_
     obtain ⟨rv45, h44, hsh⟩ := bind_t hsh
     refine st_callR hs (ref01_In_ok h44 hw.bdom) (do_call Try.call43 rfl) ⟨_, rfl, rfl⟩ rfl rfl ?_
     intro v49 Sv46 w a h47 h48 hs
     subst h48
     have hw := hw.callB h47
     refine st_val hs (y_pickT rfl rfl) trivial rfl rfl fun a hs => ?_
     refine wpList_nil ?_
     have hsh := Option.some.inj hsh
     subst hsh
     refine then_normal ?_
     exact ⟨Sv26, (hs.wk rfl), (hw.ft [] [] (by decide) rfl rfl)⟩
    ·have hs := hs.fix 21 (.bool false) rfl (vb h41)
     have hsh := ite_f hc42 h41
     refine st_skip hs rfl rfl rfl rfl rfl fun a hs => ?_
     refine st_skip hs rfl rfl rfl rfl rfl fun a hs => ?_
     refine st_skip hs rfl rfl rfl rfl rfl fun a hs => ?_
     refine st_skip hs rfl rfl rfl rfl rfl fun a hs => ?_
     refine st_skip hs rfl rfl rfl rfl rfl fun a hs => ?_
     refine st_skip hs rfl rfl rfl rfl rfl fun a hs => ?_
     refine st_val hs (y_pickF rfl rfl) trivial rfl rfl fun a hs => ?_
     refine wpList_nil ?_
     have hsh := Option.some.inj hsh
     subst hsh
     refine then_normal ?_
     exact ⟨Sv26, (hs.wk rfl), (hw.ft [] [] (by decide) rfl rfl)⟩
   ·rintro a w ⟨Sv43, hs, hw⟩
    refine st_val hs (y_assign rfl) trivial rfl rfl fun a hs => ?_
    refine wpList_nil ?_
    refine then_normal ?_
    have hsh := Option.some.inj hsh
    subst hsh
    refine wp_ret ?_
    exact ret1 hs rfl (rv_tmp rfl) (hw.ret rfl)

abbrev ref21_Push_rd (w0 : World) (X : List Nat) (r : (Feed × (List Int) × Int)) : (Nat → Prop) → World → Value → Prop := fun S w v => ∃ (p0_0 : Option Addr) (k0_0 : Nat) (c0_0 : List Value) (p0_3 : Option Addr) (k0_3 : Nat) (c0_3 : List Value) (p1_0 : Option Addr) (k1_0 : Nat) (c1_0 : List Value), v = .tuple #[.agg #[.slice p0_0 r.1.Filter.Taps.length k0_0, .int .i64 r.1.Filter.Factor, .int .i64 r.1.Filter.Shift, .slice p0_3 r.1.Past.length k0_3, .int .i64 r.1.Number], .slice p1_0 r.2.1.length k1_0, .int .i64 r.2.2] ∧ Outs X w0 S w [.row p0_0 r.1.Filter.Taps.length k0_0 c0_0 3 1, .row p0_3 r.1.Past.length k0_3 c0_3 3 1, .row p1_0 r.2.1.length k1_0 c1_0 3 1] ∧ (RowA c0_0 r.1.Filter.Taps).p S w ∧ (RowA c0_3 r.1.Past).p S w ∧ (RowA c1_0 r.2.1).p S w
set_option maxHeartbeats 4000000 in
set_option maxRecDepth 100000 in
theorem ref21_Push_ok {w0 : World} {S0 : Nat → Prop} {p2 : Option Addr} {k3 : Nat} {p4 : Option Addr} {k5 : Nat} {p9 : Option Addr} {k10 : Nat} {d1 : Feed} {samples8 : (List Int)} {r : (Feed × (List Int) × Int)} (hsh : ref21_Push d1 samples8 = some r) (hS : ∀ b, S0 b → b < w0.heap.size) (h6 : (SlA p2 d1.Filter.Taps.length k3 d1.Filter.Taps).p S0 w0) (h7 : (SlA p4 d1.Past.length k5 d1.Past).p S0 w0) (h11 : (SlA p9 samples8.length k10 samples8).p S0 w0) : Calls Try.prog 36 #[.agg #[.slice p2 d1.Filter.Taps.length k3, .int .i64 d1.Filter.Factor, .int .i64 d1.Filter.Shift, .slice p4 d1.Past.length k5, .int .i64 d1.Number], .slice p9 samples8.length k10] w0 (Ret ([]) w0 S0 (ref21_Push_rd w0 ([]) r)) := by
 refine calls_of_wp Try.func36 rfl ?_
 have hs := Sl.enter #[.agg #[.slice p2 d1.Filter.Taps.length k3, .int .i64 d1.Filter.Factor, .int .i64 d1.Filter.Shift, .slice p4 d1.Past.length k5, .int .i64 d1.Number], .slice p9 samples8.length k10] 77 [(0, .agg #[.slice p2 d1.Filter.Taps.length k3, .int .i64 d1.Filter.Factor, .int .i64 d1.Filter.Shift, .slice p4 d1.Past.length k5, .int .i64 d1.Number]), (1, .slice p9 samples8.length k10)] rfl ⟨rfl, rfl, trivial⟩
 have hw := Wd.enter (E := []) hS (fun _ h => (by cases h))
 have hw := hw.addE h6
 have hw := hw.addE h7
 have hw := hw.addE h11
 delta ref21_Push at hsh
 refine wp_seq ?_
 refine wp_region_lit ?_
 refine w_box (cs := [.slice p2 d1.Filter.Taps.length k3, .int .i64 d1.Filter.Factor, .int .i64 d1.Filter.Shift, .slice p4 d1.Past.length k5, .int .i64 d1.Number]) hs hw rfl rfl rfl trivial ?_
 intro b12 a w hs hw
 refine w_alloc (cs := [.slice none ([] : List Int).length 0, .int .i64 0, .int .i64 0, .slice none ([] : List Int).length 0, .int .i64 0]) hs hw Try.zeroValue51 rfl rfl trivial ?_
 intro b13 a w hs hw
 refine st_val hs (y_assign rfl) trivial rfl rfl fun a hs => ?_
 refine st_val hs (y_assign rfl) trivial rfl rfl fun a hs => ?_
 refine wpList_nil ?_
 refine then_normal ?_
 refine wp_seq ?_
 refine wp_seq ?_
 refine wp_region_lit ?_
 refine st_val hs (y_loadBA (hw.ownAt 1 rfl) rfl Try.isAgg51 Try.sizeOf51 rfl rfl) trivial rfl rfl fun a hs => ?_
 obtain ⟨rv15, h14, hsh⟩ := bind_t hsh
 refine st_callR hs (ref21_ValidFeed_ok h14 hw.bdom (hw.bE 2 rfl) (hw.bE 1 rfl)) (do_call Try.call38 rfl) trivial rfl rfl ?_
 intro v19 Sv16 w a h17 h18 hs
 subst h18
 have hw := hw.callB h17
 refine st_val hs (y_not rfl) trivial rfl rfl fun a hs => ?_
 refine wpList_nil ?_
 refine then_normal ?_
 refine wp_cond_split (hs.ev rfl) (fun h22 => ?_) (fun h22 => ?_)
 ·have hsh := ite_t hsh h22
  refine wp_seq ?_
  refine wp_region_lit ?_
  refine st_val hs (y_build (vs := []) Bld51 rfl rfl) trivial rfl rfl fun a hs => ?_
  refine w_store (m := 5) (cs' := [.slice none ([] : List Int).length 0, .int .i64 0, .int .i64 0, .slice none ([] : List Int).length 0, .int .i64 0]) hs hw 0 rfl rfl rfl Try.sizeOf51 rfl rfl rfl rfl trivial ?_
  intro a w hs hw
  refine st_val hs (y_assign rfl) trivial rfl rfl fun a hs => ?_
  refine st_val hs (y_assign rfl) trivial rfl rfl fun a hs => ?_
  refine wpList_nil ?_
  refine then_normal ?_
  have hsh := Option.some.inj hsh
  subst hsh
  have hw := hw.nilRow Int 3
  have hw := hw.nilRow Int 3
  have hw := hw.nilRow Int 3
  refine wp_ret ?_
  refine then_ret ?_
  exact ret3 hs rfl (rv_cell hw 3 rfl rfl Try.isAgg51 Try.sizeOf51 rfl) (rv_tmp rfl) (rv_tmp rfl) (hw.ret ⟨none, 0, [], none, 0, [], none, 0, [], rfl, (hw.outs [2, 1, 0] (by decide) rfl), (hw.envAt 0 rfl), (hw.envAt 0 rfl), (hw.envAt 0 rfl)⟩)
 ·have hsh := ite_f hsh h22
  refine wp_skip ?_
  refine then_normal ?_
  refine wp_seq ?_
  refine wp_seq ?_
  refine wp_region_lit ?_
  refine st_val hs (y_move rfl) trivial rfl rfl fun a hs => ?_
  refine st_val hs (y_fieldAddr (o' := 4) Try.runUnderlying51 rfl Try.sizeOf3 rfl rfl rfl) trivial rfl rfl fun a hs => ?_
  refine st_val hs (y_loadB1 (hw.ownAt 1 rfl) rfl Try.isAgg3 rfl) trivial rfl rfl fun a hs => ?_
  obtain ⟨rv24, h23, hsh⟩ := bind_t hsh
  refine st_callR hs (ref21_check_ok h23 hw.bdom (hw.bE 0 rfl)) (do_call Try.call53 rfl) trivial rfl rfl ?_
  intro v28 Sv25 w a h26 h27 hs
  subst h27
  have hw := hw.callB h26
  refine st_val hs (y_assign rfl) trivial rfl rfl fun a hs => ?_
  refine wpList_nil ?_
  refine then_normal ?_
  refine wp_seq ?_
  refine wp_region_lit ?_
  refine st_val hs (y_move rfl) trivial rfl rfl fun a hs => ?_
  refine st_val hs (y_neq rfl rfl) trivial rfl rfl fun a hs => ?_
  refine wpList_nil ?_
  refine then_normal ?_
  refine wp_cond_split (hs.ev rfl) (fun h31 => ?_) (fun h31 => ?_)
  ·have hsh := ite_t hsh h31
   refine wp_seq ?_
   refine wp_region_lit ?_
   refine st_val hs (y_build (vs := []) Bld51 rfl rfl) trivial rfl rfl fun a hs => ?_
   refine st_val hs (y_move rfl) trivial rfl rfl fun a hs => ?_
   refine w_store (m := 5) (cs' := [.slice none ([] : List Int).length 0, .int .i64 0, .int .i64 0, .slice none ([] : List Int).length 0, .int .i64 0]) hs hw 0 rfl rfl rfl Try.sizeOf51 rfl rfl rfl rfl trivial ?_
   intro a w hs hw
   refine st_val hs (y_assign rfl) trivial rfl rfl fun a hs => ?_
   refine st_val hs (y_assign rfl) trivial rfl rfl fun a hs => ?_
   refine wpList_nil ?_
   refine then_normal ?_
   have hsh := Option.some.inj hsh
   subst hsh
   have hw := hw.nilRow Int 3
   have hw := hw.nilRow Int 3
   have hw := hw.nilRow Int 3
   refine wp_ret ?_
   refine then_ret ?_
   exact ret3 hs rfl (rv_cell hw 3 rfl rfl Try.isAgg51 Try.sizeOf51 rfl) (rv_tmp rfl) (rv_tmp rfl) (hw.ret ⟨none, 0, [], none, 0, [], none, 0, [], rfl, (hw.outs [2, 1, 0] (by decide) rfl), (hw.envAt 0 rfl), (hw.envAt 0 rfl), (hw.envAt 0 rfl)⟩)
  ·have hsh := ite_f hsh h31
   refine wp_skip ?_
   refine then_normal ?_
   refine wp_seq ?_
   refine wp_region_lit ?_
   refine st_val hs (y_fieldAddr (o' := 3) Try.runUnderlying51 rfl Try.sizeOf22 rfl rfl rfl) trivial rfl rfl fun a hs => ?_
   refine st_val hs (y_loadB1 (hw.ownAt 1 rfl) rfl Try.isAgg22 rfl) trivial rfl rfl fun a hs => ?_
   obtain ⟨l33, h32, hsh⟩ := bind_t hsh
   have hw := hw.nilRow Int 3
   refine w_appendE (α := Int) hs hw El22 0 rfl rfl rfl 0 rfl 2 rfl h32 rfl trivial ?_
   intro p34 k35 c36 a w hs hw
   refine st_val hs (y_move rfl) trivial rfl rfl fun a hs => ?_
   obtain ⟨l38, h37, hsh⟩ := bind_t hsh
   refine w_appendE (α := Int) hs hw El22 0 rfl rfl rfl 0 rfl 2 rfl h37 rfl trivial ?_
   intro p39 k40 c41 a w hs hw
   refine st_val hs (y_assign rfl) trivial rfl rfl fun a hs => ?_
   refine wpList_nil ?_
   refine then_normal ?_
   refine wp_seq ?_
   refine wp_region_lit ?_
   refine st_val hs (y_fieldAddr (o' := 0) Try.runUnderlying51 rfl Try.sizeOf28 rfl rfl rfl) trivial rfl rfl fun a hs => ?_
   refine st_val hs (y_loadBA (hw.ownAt 2 rfl) rfl Try.isAgg28 Try.sizeOf28 rfl rfl) trivial rfl rfl fun a hs => ?_
   refine st_val hs (y_move rfl) trivial rfl rfl fun a hs => ?_
   refine st_val hs (y_fieldAddr (o' := 4) Try.runUnderlying51 rfl Try.sizeOf3 rfl rfl rfl) trivial rfl rfl fun a hs => ?_
   refine st_val hs (y_loadB1 (hw.ownAt 2 rfl) rfl Try.isAgg3 rfl) trivial rfl rfl fun a hs => ?_
   refine st_val hs (y_fieldAddr (o' := 3) Try.runUnderlying51 rfl Try.sizeOf22 rfl rfl rfl) trivial rfl rfl fun a hs => ?_
   refine st_val hs (y_loadB1 (hw.ownAt 2 rfl) rfl Try.isAgg22 rfl) trivial rfl rfl fun a hs => ?_
   refine st_val hs (y_len Try.runUnderlying22 rfl) trivial rfl rfl fun a hs => ?_
   refine st_val hs (y_sub rfl rfl) trivial rfl rfl fun a hs => ?_
   refine st_val hs (y_fieldAddr (o' := 3) Try.runUnderlying51 rfl Try.sizeOf22 rfl rfl rfl) trivial rfl rfl fun a hs => ?_
   refine st_val hs (y_loadB1 (hw.ownAt 2 rfl) rfl Try.isAgg22 rfl) trivial rfl rfl fun a hs => ?_
   refine st_val hs (y_len Try.runUnderlying22 rfl) trivial rfl rfl fun a hs => ?_
   obtain ⟨rv43, h42, hsh⟩ := bind_t hsh
   obtain ⟨Sv52, hw⟩ := w_share (α := Int) hw 0 rfl 0 rfl
   refine st_callR hs (ref21_kept_ok h42 hw.dom (hw.envAt 6 rfl) (hw.envAt 0 rfl)) (do_call Try.call54 rfl) trivial rfl rfl ?_
   intro v56 Sv53 w a h54 h55 hs
   obtain ⟨p44, k45, c47, p48, k49, c51, rfl, h57, h46, h50⟩ := h55
   have hw := hw.callN h54 h57
   have hw := hw.addE (e := RowA c47 rv43.1) h46
   have hw := hw.addE (e := RowA c51 rv43.2) h50
   refine st_val hs (y_move rfl) trivial rfl rfl fun a hs => ?_
   refine st_val hs (y_extract rfl rfl) trivial rfl rfl fun a hs => ?_
   refine st_val hs (y_extract rfl rfl) trivial rfl rfl fun a hs => ?_
   refine st_val hs (y_assign rfl) trivial rfl rfl fun a hs => ?_
   refine st_val hs (y_assign rfl) trivial rfl rfl fun a hs => ?_
   refine wpList_nil ?_
   refine then_normal ?_
   refine wp_seq ?_
   refine wp_region_lit ?_
   refine st_val hs (y_move rfl) trivial rfl rfl fun a hs => ?_
   refine st_val hs (y_len Try.runUnderlying22 rfl) trivial rfl rfl fun a hs => ?_
   refine st_val hs (y_fieldAddr (o' := 0) Try.runUnderlying51 rfl Try.sizeOf28 rfl rfl rfl) trivial rfl rfl fun a hs => ?_
   refine st_val hs (y_fieldAddr (o' := 0) Try.runUnderlying28 rfl Try.sizeOf22 rfl rfl rfl) trivial rfl rfl fun a hs => ?_
   refine st_val hs (y_loadB1 (hw.ownAt 3 rfl) rfl Try.isAgg22 rfl) trivial rfl rfl fun a hs => ?_
   refine st_val hs (y_len Try.runUnderlying22 rfl) trivial rfl rfl fun a hs => ?_
   refine st_val hs (y_sub rfl rfl) trivial rfl rfl fun a hs => ?_
   refine st_val hs (y_min rfl rfl) trivial rfl rfl fun a hs => ?_
   obtain ⟨n59, h58, hsh⟩ := bind_t hsh
   refine st_val hs (y_assignI rfl h58) trivial rfl rfl fun a hs => ?_
   refine wpList_nil ?_
   refine then_normal ?_
   refine wp_seq ?_
   obtain ⟨l65, h60, hsh⟩ := bind_t hsh
   obtain ⟨p63, k64, h61, h62⟩ := sub_env (hw.envAt 2 rfl) h60
   have hw := hw.addE h61
   obtain ⟨l67, h66, hsh⟩ := bind_t hsh
   refine wp_only (fun a w => ∃ (Sv72 : Nat → Prop) (b71 : Nat) (c70 : List Value) (k69 : Nat) (p68 : Option Addr), Sl 77 [(2, .pointer (some ⟨b12, 0, none⟩)), (4, .pointer (some ⟨b13, 0, none⟩)), (9, .slice p44 rv43.1.length k45), (12, .pointer (some ⟨b71, 0, none⟩))] a ∧ Wd ⟨w0, S0, []⟩ Sv72 [.box b12 [.slice p2 d1.Filter.Taps.length k3, .int .i64 d1.Filter.Factor, .int .i64 d1.Filter.Shift, .slice p4 d1.Past.length k5, .int .i64 d1.Number] 51, .box b13 [.slice none ([] : List Int).length 0, .int .i64 0, .int .i64 0, .slice none ([] : List Int).length 0, .int .i64 0] 51, .box b71 [.slice p2 d1.Filter.Taps.length k3, .int .i64 d1.Filter.Factor, .int .i64 d1.Filter.Shift, .slice p68 l67.length k69, .int .i64 (w64 (d1.Number + (samples8.length : Int)))] 51, .row p44 rv43.1.length k45 c47 3 1, .row p68 l67.length k69 c70 3 1] [SlA p2 d1.Filter.Taps.length k3 d1.Filter.Taps, SlA p4 d1.Past.length k5 d1.Past, SlA none ([] : List Int).length 0 ([] : List Int), RowA c47 rv43.1, RowA c70 l67] w) ?_ ?_
   ·refine h_b (C := Cls [.row p44 rv43.1.length k45 c47 3 1, .row p48 rv43.2.length k49 c51 3 1, .box b13 [.slice none ([] : List Int).length 0, .int .i64 0, .int .i64 0, .slice none ([] : List Int).length 0, .int .i64 0] 51, .box b12 [.slice p2 d1.Filter.Taps.length k3, .int .i64 d1.Filter.Factor, .int .i64 d1.Filter.Shift, .slice p4 d1.Past.length k5, .int .i64 d1.Number] 51] []) (by kernel_rfl) rfl (hw.drew.cs [0, 1, 2, 3] [] rfl rfl) fun hC => ?_
    have hw := hw.drew
    refine h_g hs 0 rfl (by kernel_rfl) rfl rfl hC rfl (fun w hC => y_fieldAddr (o' := 0) Try.runUnderlying51 rfl Try.sizeOf28 rfl rfl rfl) fun a hs => ?_
    refine h_g hs 1 rfl (by kernel_rfl) rfl rfl hC rfl (fun w hC => y_loadBA (hC.ownAt 3 rfl) rfl Try.isAgg28 Try.sizeOf28 rfl rfl) fun a hs => ?_
    refine h_g hs 2 rfl (by kernel_rfl) rfl rfl hC rfl (fun w hC => y_move rfl) fun a hs => ?_
    refine h_g hs 3 rfl (by kernel_rfl) rfl rfl hC rfl (fun w hC => y_move rfl) fun a hs => ?_
    refine h_g hs 4 rfl (by kernel_rfl) rfl rfl hC rfl (fun w hC => y_len Try.runUnderlying22 rfl) fun a hs => ?_
    refine h_g hs 5 rfl (by kernel_rfl) rfl rfl hC rfl (fun w hC => y_move rfl) fun a hs => ?_
    refine h_g hs 6 rfl (by kernel_rfl) rfl rfl hC rfl (fun w hC => y_sub rfl rfl) fun a hs => ?_
    refine h_g hs 7 rfl (by kernel_rfl) rfl rfl hC rfl (fun w hC => y_slc Try.runUnderlying22 Try.sizeOf3 rfl ⟨_, rfl⟩ (by exact rfl) h62) fun a hs => ?_
    refine h_g hs 9 rfl (by kernel_rfl) rfl rfl hC rfl (fun w hC => y_fieldAddr (o' := 4) Try.runUnderlying51 rfl Try.sizeOf3 rfl rfl rfl) fun a hs => ?_
    refine h_g hs 10 rfl (by kernel_rfl) rfl rfl hC rfl (fun w hC => y_loadB1 (hC.ownAt 3 rfl) rfl Try.isAgg3 rfl) fun a hs => ?_
    refine h_g hs 11 rfl (by kernel_rfl) rfl rfl hC rfl (fun w hC => y_move rfl) fun a hs => ?_
    refine h_g hs 12 rfl (by kernel_rfl) rfl rfl hC rfl (fun w hC => y_len Try.runUnderlying22 rfl) fun a hs => ?_
    refine h_g hs 13 rfl (by kernel_rfl) rfl rfl hC rfl (fun w hC => y_add rfl rfl) fun a hs => ?_
    refine h_all (rs := [8, 15]) (by kernel_rfl) rfl ?_
    refine AllH.cons rfl ?_ ?_
    ·have hw := hw.nilRow Int 3
     refine w_appendE (α := Int) hs hw El22 0 rfl rfl rfl 0 rfl 1 rfl h66 rfl trivial ?_
     intro p68 k69 c70 a w hs hw
     refine h_nx (hw.cs [1, 2, 3, 4] [] rfl rfl) fun hC => ?_
     refine h_g hs 14 rfl (by kernel_rfl) rfl rfl hC rfl (fun w hC => y_build (vs := [(0, .agg #[.slice p2 d1.Filter.Taps.length k3, .int .i64 d1.Filter.Factor, .int .i64 d1.Filter.Shift]), (1, .slice p68 l67.length k69), (2, .int .i64 (w64 (d1.Number + (samples8.length : Int))))]) Bld51 rfl rfl) fun a hs => ?_
     refine h_one (i := 15) (by kernel_rfl) rfl ?_
     refine w_alloc (cs := [.slice none ([] : List Int).length 0, .int .i64 0, .int .i64 0, .slice none ([] : List Int).length 0, .int .i64 0]) hs hw Try.zeroValue51 rfl rfl trivial ?_
     intro b71 a w hs hw
     refine h_nx (hw.cs [2, 3, 4, 5] [] rfl rfl) fun hC => ?_
     refine h_one (i := 16) (by kernel_rfl) rfl ?_
     refine w_store (m := 5) (cs' := [.slice p2 d1.Filter.Taps.length k3, .int .i64 d1.Filter.Factor, .int .i64 d1.Filter.Shift, .slice p68 l67.length k69, .int .i64 (w64 (d1.Number + (samples8.length : Int)))]) hs hw 0 rfl rfl rfl Try.sizeOf51 rfl rfl rfl rfl trivial ?_
     intro a w hs hw
     refine h_nx (hw.cs [2, 3, 4, 5] [] rfl rfl) fun hC => ?_
     refine h_done (by kernel_rfl) ?_
     have hw := hw.addE (e := SlA (α := Int) none 0 0 []) nil_sl
     exact ⟨Sv53, b71, c70, k69, p68, (hs.wk rfl), (hw.ft [5, 4, 0, 2, 1] [12, 11, 0, 5, 1] (by decide) rfl rfl)⟩
    refine AllH.cons rfl ?_ ?_
    ·refine w_alloc (cs := [.slice none ([] : List Int).length 0, .int .i64 0, .int .i64 0, .slice none ([] : List Int).length 0, .int .i64 0]) hs hw Try.zeroValue51 rfl rfl trivial ?_
     intro b71 a w hs hw
     refine h_nx (hw.cs [1, 2, 3, 4] [] rfl rfl) fun hC => ?_
     refine h_one (i := 8) (by kernel_rfl) rfl ?_
     have hw := hw.nilRow Int 3
     refine w_appendE (α := Int) hs hw El22 0 rfl rfl rfl 0 rfl 1 rfl h66 rfl trivial ?_
     intro p68 k69 c70 a w hs hw
     refine h_nx (hw.cs [2, 3, 4, 5] [] rfl rfl) fun hC => ?_
     refine h_g hs 14 rfl (by kernel_rfl) rfl rfl hC rfl (fun w hC => y_build (vs := [(0, .agg #[.slice p2 d1.Filter.Taps.length k3, .int .i64 d1.Filter.Factor, .int .i64 d1.Filter.Shift]), (1, .slice p68 l67.length k69), (2, .int .i64 (w64 (d1.Number + (samples8.length : Int))))]) Bld51 rfl rfl) fun a hs => ?_
     refine h_one (i := 16) (by kernel_rfl) rfl ?_
     refine w_store (m := 5) (cs' := [.slice p2 d1.Filter.Taps.length k3, .int .i64 d1.Filter.Factor, .int .i64 d1.Filter.Shift, .slice p68 l67.length k69, .int .i64 (w64 (d1.Number + (samples8.length : Int)))]) hs hw 1 rfl rfl rfl Try.sizeOf51 rfl rfl rfl rfl trivial ?_
     intro a w hs hw
     refine h_nx (hw.cs [2, 3, 4, 5] [] rfl rfl) fun hC => ?_
     refine h_done (by kernel_rfl) ?_
     have hw := hw.addE (e := SlA (α := Int) none 0 0 []) nil_sl
     exact ⟨Sv53, b71, c70, k69, p68, (hs.wk rfl), (hw.ft [5, 4, 1, 2, 0] [12, 11, 0, 5, 1] (by decide) rfl rfl)⟩
    exact AllH.nil
   ·rintro a w ⟨Sv72, b71, c70, k69, p68, hs, hw⟩
    refine then_normal ?_
    refine wp_seq ?_
    refine wp_region_lit ?_
    refine st_val hs (y_fieldAddr (o' := 0) Try.runUnderlying51 rfl Try.sizeOf28 rfl rfl rfl) trivial rfl rfl fun a hs => ?_
    refine st_val hs (y_fieldAddr (o' := 0) Try.runUnderlying28 rfl Try.sizeOf22 rfl rfl rfl) trivial rfl rfl fun a hs => ?_
    refine st_val hs (y_loadB1 (hw.ownAt 0 rfl) rfl Try.isAgg22 rfl) trivial rfl rfl fun a hs => ?_
    obtain ⟨l74, h73, hsh⟩ := bind_t hsh
    have hw := hw.nilRow Int 3
    refine w_appendE (α := Int) hs hw El22 0 rfl rfl rfl 0 rfl 1 rfl h73 rfl trivial ?_
    intro p75 k76 c77 a w hs hw
    refine st_val hs (y_fieldAddr (o' := 0) Try.runUnderlying51 rfl Try.sizeOf28 rfl rfl rfl) trivial rfl rfl fun a hs => ?_
    refine st_val hs (y_fieldAddr (o' := 0) Try.runUnderlying28 rfl Try.sizeOf22 rfl rfl rfl) trivial rfl rfl fun a hs => ?_
    refine w_store (m := 1) (cs' := [.slice p75 l74.length k76, .int .i64 d1.Filter.Factor, .int .i64 d1.Filter.Shift, .slice p68 l67.length k69, .int .i64 (w64 (d1.Number + (samples8.length : Int)))]) hs hw 3 rfl rfl rfl Try.sizeOf22 rfl rfl rfl rfl trivial ?_
    intro a w hs hw
    refine wpList_nil ?_
    refine then_normal ?_
    refine wp_seq ?_
    refine wp_region_lit ?_
    refine st_val hs (y_loadBA (hw.ownAt 3 rfl) rfl Try.isAgg51 Try.sizeOf51 rfl rfl) trivial rfl rfl fun a hs => ?_
    refine st_val hs (y_move rfl) trivial rfl rfl fun a hs => ?_
    refine w_store (m := 5) (cs' := [.slice p75 l74.length k76, .int .i64 d1.Filter.Factor, .int .i64 d1.Filter.Shift, .slice p68 l67.length k69, .int .i64 (w64 (d1.Number + (samples8.length : Int)))]) hs hw 2 rfl rfl rfl Try.sizeOf51 rfl rfl rfl rfl trivial ?_
    intro a w hs hw
    refine st_val hs (y_assign rfl) trivial rfl rfl fun a hs => ?_
    refine st_val hs (y_assign rfl) trivial rfl rfl fun a hs => ?_
    refine wpList_nil ?_
    refine then_normal ?_
    have hsh := Option.some.inj hsh
    subst hsh
    refine wp_ret ?_
    exact ret3 hs rfl (rv_cell hw 2 rfl rfl Try.isAgg51 Try.sizeOf51 rfl) (rv_tmp rfl) (rv_tmp rfl) (hw.ret ⟨p75, k76, c77, p68, k69, c70, p44, k45, c47, rfl, (hw.outs [0, 5, 4] (by decide) rfl), (hw.envAt 0 rfl), (hw.envAt 6 rfl), (hw.envAt 5 rfl)⟩)

abbrev filter_ValidFeed_rd (w0 : World) (X : List Nat) (r : Bool) : (Nat → Prop) → World → Value → Prop := fun S w v => v = .bool r
set_option maxHeartbeats 4000000 in
set_option maxRecDepth 100000 in
theorem filter_ValidFeed_ok {w0 : World} {S0 : Nat → Prop} {p2 : Option Addr} {k3 : Nat} {p4 : Option Addr} {k5 : Nat} {d1 : Feed} {r : Bool} (hsh : filter_ValidFeed d1 = some r) (hS : ∀ b, S0 b → b < w0.heap.size) (h6 : (SlA p2 d1.Filter.Taps.length k3 d1.Filter.Taps).p S0 w0) (h7 : (SlA p4 d1.Past.length k5 d1.Past).p S0 w0) : Calls Try.prog 37 #[.agg #[.slice p2 d1.Filter.Taps.length k3, .int .i64 d1.Filter.Factor, .int .i64 d1.Filter.Shift, .slice p4 d1.Past.length k5, .int .i64 d1.Number]] w0 (Ret ([]) w0 S0 (filter_ValidFeed_rd w0 ([]) r)) := by
 refine calls_of_wp Try.func37 rfl ?_
 have hs := Sl.enter #[.agg #[.slice p2 d1.Filter.Taps.length k3, .int .i64 d1.Filter.Factor, .int .i64 d1.Filter.Shift, .slice p4 d1.Past.length k5, .int .i64 d1.Number]] 30 [(0, .agg #[.slice p2 d1.Filter.Taps.length k3, .int .i64 d1.Filter.Factor, .int .i64 d1.Filter.Shift, .slice p4 d1.Past.length k5, .int .i64 d1.Number])] rfl ⟨rfl, trivial⟩
 have hw := Wd.enter (E := []) hS (fun _ h => (by cases h))
 have hw := hw.addE h6
 have hw := hw.addE h7
 delta filter_ValidFeed at hsh
 refine wp_seq ?_
 refine wp_region_lit ?_
 refine w_box (cs := [.slice p2 d1.Filter.Taps.length k3, .int .i64 d1.Filter.Factor, .int .i64 d1.Filter.Shift, .slice p4 d1.Past.length k5, .int .i64 d1.Number]) hs hw rfl rfl rfl trivial ?_
 intro b8 a w hs hw
 refine st_val hs (y_assign rfl) trivial rfl rfl fun a hs => ?_
 refine wpList_nil ?_
 refine then_normal ?_
 refine wp_seq ?_
 refine wp_region_lit ?_
 refine st_val hs (y_fieldAddr (o' := 0) Try.runUnderlying51 rfl Try.sizeOf28 rfl rfl rfl) trivial rfl rfl fun a hs => ?_
 refine st_val hs (y_loadBA (hw.ownAt 0 rfl) rfl Try.isAgg28 Try.sizeOf28 rfl rfl) trivial rfl rfl fun a hs => ?_
 obtain ⟨rv10, h9, hsh⟩ := bind_t hsh
 refine st_callR hs (filter_Valid_ok h9 hw.bdom (hw.bE 1 rfl)) (do_call Try.call32 rfl) trivial rfl rfl ?_
 intro v14 Sv11 w a h12 h13 hs
 subst h13
 have hw := hw.callB h12
 refine st_val hs (y_move rfl) trivial rfl rfl fun a hs => ?_
 refine wpl_join 9 (fun a w1 => w = w1 ∧ Sl 30 [(1, .pointer (some ⟨b8, 0, none⟩)), (15, .bool (rv10 && (decide ((d1.Past.length : Int) < (d1.Filter.Taps.length : Int)))))] a) ?_ ?_
 ·rcases Bool.eq_false_or_eq_true rv10 with h16 | h16
  ·have hs := hs.fix 6 (.bool true) rfl (vb h16)
   refine st_val hs (y_fieldAddr (o' := 3) Try.runUnderlying51 rfl Try.sizeOf22 rfl rfl rfl) ⟨_, rfl, rfl⟩ rfl rfl fun a hs => ?_
   refine st_val hs (y_loadB1 (hw.ownAt 0 rfl) rfl Try.isAgg22 rfl) ⟨_, rfl, rfl⟩ rfl rfl fun a hs => ?_
   refine st_val hs (y_len Try.runUnderlying22 rfl) ⟨_, rfl, rfl⟩ rfl rfl fun a hs => ?_
   refine st_val hs (y_fieldAddr (o' := 0) Try.runUnderlying51 rfl Try.sizeOf28 rfl rfl rfl) ⟨_, rfl, rfl⟩ rfl rfl fun a hs => ?_
   refine st_val hs (y_fieldAddr (o' := 0) Try.runUnderlying28 rfl Try.sizeOf22 rfl rfl rfl) ⟨_, rfl, rfl⟩ rfl rfl fun a hs => ?_
   refine st_val hs (y_loadB1 (hw.ownAt 0 rfl) rfl Try.isAgg22 rfl) ⟨_, rfl, rfl⟩ rfl rfl fun a hs => ?_
   refine st_val hs (y_len Try.runUnderlying22 rfl) ⟨_, rfl, rfl⟩ rfl rfl fun a hs => ?_
   refine st_val hs (y_lss rfl rfl) ⟨_, rfl, rfl⟩ rfl rfl fun a hs => ?_
   refine st_val hs (y_pickT rfl rfl) trivial rfl rfl fun a hs => ?_
   refine wpList_nil ?_
   refine then_normal ?_
   exact ⟨rfl, (hs.fix 15 (.bool (rv10 && (decide ((d1.Past.length : Int) < (d1.Filter.Taps.length : Int))))) rfl (and_t h16)).weaken _ ⟨rfl, rfl, trivial⟩⟩
  ·have hs := hs.fix 6 (.bool false) rfl (vb h16)
   refine st_skip hs rfl rfl rfl rfl rfl fun a hs => ?_
   refine st_skip hs rfl rfl rfl rfl rfl fun a hs => ?_
   refine st_skip hs rfl rfl rfl rfl rfl fun a hs => ?_
   refine st_skip hs rfl rfl rfl rfl rfl fun a hs => ?_
   refine st_skip hs rfl rfl rfl rfl rfl fun a hs => ?_
   refine st_skip hs rfl rfl rfl rfl rfl fun a hs => ?_
   refine st_skip hs rfl rfl rfl rfl rfl fun a hs => ?_
   refine st_skip hs rfl rfl rfl rfl rfl fun a hs => ?_
   refine st_val hs (y_pickF rfl rfl) trivial rfl rfl fun a hs => ?_
   refine wpList_nil ?_
   refine then_normal ?_
   exact ⟨rfl, (hs.fix 15 (.bool (rv10 && (decide ((d1.Past.length : Int) < (d1.Filter.Taps.length : Int))))) rfl (and_f h16)).weaken _ ⟨rfl, rfl, trivial⟩⟩
 ·rintro a w1 ⟨h51, hs⟩
  subst h51
  refine st_val hs (y_move rfl) trivial rfl rfl fun a hs => ?_
  obtain ⟨c25, hc25, hsh⟩ := bind_t hsh
  refine wpl_join 5 (fun a w => ∃ (Sv26 : Nat → Prop), Sl 30 [(1, .pointer (some ⟨b8, 0, none⟩)), (21, .bool c25)] a ∧ Wd ⟨w0, S0, []⟩ Sv26 [.box b8 [.slice p2 d1.Filter.Taps.length k3, .int .i64 d1.Filter.Factor, .int .i64 d1.Filter.Shift, .slice p4 d1.Past.length k5, .int .i64 d1.Number] 51] [SlA p2 d1.Filter.Taps.length k3 d1.Filter.Taps, SlA p4 d1.Past.length k5 d1.Past] w) ?_ ?_
  ·rcases Bool.eq_false_or_eq_true (rv10 && (decide ((d1.Past.length : Int) < (d1.Filter.Taps.length : Int)))) with h24 | h24
   ·have hs := hs.fix 16 (.bool true) rfl (vb h24)
    have hsh := ite_t hc25 h24
    refine st_val hs (y_fieldAddr (o' := 3) Try.runUnderlying51 rfl Try.sizeOf22 rfl rfl rfl) ⟨_, rfl, rfl⟩ rfl rfl fun a hs => ?_
    refine st_val hs (y_loadB1 (hw.ownAt 0 rfl) rfl Try.isAgg22 rfl) ⟨_, rfl, rfl⟩ rfl rfl fun a hs => ?_
    obtain ⟨rv28, h27, hsh⟩ := bind_t hsh
    refine st_callR hs (slices_ContainsFunc_Lint_int_ok h27 hw.bdom (hw.bE 0 rfl) (filter_wrong_fn _ _)) (do_call Try.call55 rfl) ⟨_, rfl, rfl⟩ rfl rfl ?_
    intro v32 Sv29 w a h30 h31 hs
    subst h31
    have hw := hw.callB h30
    refine st_val hs (y_not rfl) ⟨_, rfl, rfl⟩ rfl rfl fun a hs => ?_
    refine st_val hs (y_pickT rfl rfl) trivial rfl rfl fun a hs => ?_
    refine wpList_nil ?_
    have hsh := Option.some.inj hsh
    subst hsh
    refine then_normal ?_
    exact ⟨S0, (hs.wk rfl), (hw.ft [0] [1, 0] (by decide) rfl rfl)⟩
   ·have hs := hs.fix 16 (.bool false) rfl (vb h24)
    have hsh := ite_f hc25 h24
    refine st_skip hs rfl rfl rfl rfl rfl fun a hs => ?_
    refine st_skip hs rfl rfl rfl rfl rfl fun a hs => ?_
    refine st_skip hs rfl rfl rfl rfl rfl fun a hs => ?_
    refine st_skip hs rfl rfl rfl rfl rfl fun a hs => ?_
    refine st_val hs (y_pickF rfl rfl) trivial rfl rfl fun a hs => ?_
    refine wpList_nil ?_
    have hsh := Option.some.inj hsh
    subst hsh
    refine then_normal ?_
    exact ⟨S0, (hs.wk rfl), (hw.ft [0] [1, 0] (by decide) rfl rfl)⟩
  ·rintro a w ⟨Sv26, hs, hw⟩
   refine st_val hs (y_move rfl) trivial rfl rfl fun a hs => ?_
   obtain ⟨c42, hc42, hsh⟩ := bind_t hsh
   refine wpl_join 7 (fun a w => ∃ (Sv43 : Nat → Prop), Sl 30 [(29, .bool c42)] a ∧ Wd ⟨w0, S0, []⟩ Sv43 [] [] w) ?_ ?_
   ·rcases Bool.eq_false_or_eq_true c25 with h41 | h41
    ·have hs := hs.fix 22 (.bool true) rfl (vb h41)
     have hsh := ite_t hc42 h41
     refine st_val hs (y_fieldAddr (o' := 4) Try.runUnderlying51 rfl Try.sizeOf3 rfl rfl rfl) ⟨_, rfl, rfl⟩ rfl rfl fun a hs => ?_
     refine st_val hs (y_loadB1 (hw.ownAt 0 rfl) rfl Try.isAgg3 rfl) ⟨_, rfl, rfl⟩ rfl rfl fun a hs => ?_
     refine st_val hs (y_fieldAddr (o' := 3) Try.runUnderlying51 rfl Try.sizeOf22 rfl rfl rfl) ⟨_, rfl, rfl⟩ rfl rfl fun a hs => ?_
     refine st_val hs (y_loadB1 (hw.ownAt 0 rfl) rfl Try.isAgg22 rfl) ⟨_, rfl, rfl⟩ rfl rfl fun a hs => ?_
     refine st_val hs (y_len Try.runUnderlying22 rfl) ⟨_, rfl, rfl⟩ rfl rfl fun a hs => ?_
     obtain ⟨rv45, h44, hsh⟩ := bind_t hsh
     refine st_callR hs (filter_in_ok h44 hw.bdom) (do_call Try.call46 rfl) ⟨_, rfl, rfl⟩ rfl rfl ?_
     intro v49 Sv46 w a h47 h48 hs
     subst h48
     have hw := hw.callB h47
     refine st_val hs (y_pickT rfl rfl) trivial rfl rfl fun a hs => ?_
     refine wpList_nil ?_
     have hsh := Option.some.inj hsh
     subst hsh
     refine then_normal ?_
     exact ⟨Sv26, (hs.wk rfl), (hw.ft [] [] (by decide) rfl rfl)⟩
    ·have hs := hs.fix 22 (.bool false) rfl (vb h41)
     have hsh := ite_f hc42 h41
     refine st_skip hs rfl rfl rfl rfl rfl fun a hs => ?_
     refine st_skip hs rfl rfl rfl rfl rfl fun a hs => ?_
     refine st_skip hs rfl rfl rfl rfl rfl fun a hs => ?_
     refine st_skip hs rfl rfl rfl rfl rfl fun a hs => ?_
     refine st_skip hs rfl rfl rfl rfl rfl fun a hs => ?_
     refine st_skip hs rfl rfl rfl rfl rfl fun a hs => ?_
     refine st_val hs (y_pickF rfl rfl) trivial rfl rfl fun a hs => ?_
     refine wpList_nil ?_
     have hsh := Option.some.inj hsh
     subst hsh
     refine then_normal ?_
     exact ⟨Sv26, (hs.wk rfl), (hw.ft [] [] (by decide) rfl rfl)⟩
   ·rintro a w ⟨Sv43, hs, hw⟩
    refine st_val hs (y_assign rfl) trivial rfl rfl fun a hs => ?_
    refine wpList_nil ?_
    refine then_normal ?_
    have hsh := Option.some.inj hsh
    subst hsh
    refine wp_ret ?_
    exact ret1 hs rfl (rv_tmp rfl) (hw.ret rfl)

abbrev slices_Grow_Lint_int_n_rd (w0 : World) (X : List Nat) (r : (List Int)) : (Nat → Prop) → World → Value → Prop := fun S w v => ∃ (p0_0 : Option Addr) (k0_0 : Nat) (c0_0 : List Value), v = .slice p0_0 r.length k0_0 ∧ Outs X w0 S w [.row p0_0 r.length k0_0 c0_0 3 1] ∧ (RowA c0_0 r).p S w
set_option maxHeartbeats 4000000 in
set_option maxRecDepth 100000 in
theorem slices_Grow_Lint_int_n_ok {w0 : World} {S0 : Nat → Prop} {n1 : Int} {r : (List Int)} (hsh : slices_Grow_Lint_int_n n1 = some r) (hS : ∀ b, S0 b → b < w0.heap.size) : Calls Try.prog 62 #[.slice none 0 0, .int .i64 n1] w0 (Ret ([]) w0 S0 (slices_Grow_Lint_int_n_rd w0 ([]) r)) := by
 refine calls_of_wp Try.func62 rfl ?_
 have hs := Sl.enter #[.slice none 0 0, .int .i64 n1] 27 [(0, .slice none 0 0), (1, .int .i64 n1)] rfl ⟨rfl, rfl, trivial⟩
 have hw := Wd.enter (E := []) hS (fun _ h => (by cases h))
 delta slices_Grow_Lint_int_n at hsh
 refine wp_seq ?_
 refine wp_region_lit ?_
 refine st_val hs (y_assign rfl) trivial rfl rfl fun a hs => ?_
 refine wpList_nil ?_
 refine then_normal ?_
 refine wp_seq ?_
 refine wp_seq ?_
 refine wp_region_lit ?_
 refine st_val hs (y_move rfl) trivial rfl rfl fun a hs => ?_
 refine st_val hs (y_lss rfl rfl) trivial rfl rfl fun a hs => ?_
 refine wpList_nil ?_
 refine then_normal ?_
 refine wp_cond_split (hs.ev rfl) (fun h3 => ?_) (fun h3 => ?_)
 ·have hsh := ite_t hsh h3
  cases hsh
 ·have hsh := ite_f hsh h3
  refine wp_skip ?_
  refine then_normal ?_
  refine wp_seq ?_
  refine wp_seq ?_
  refine wp_region_lit ?_
  refine st_val hs (y_move rfl) trivial rfl rfl fun a hs => ?_
  refine st_val hs (y_move rfl) trivial rfl rfl fun a hs => ?_
  refine st_val hs (y_cap Try.runUnderlying22 rfl) trivial rfl rfl fun a hs => ?_
  refine st_val hs (y_move rfl) trivial rfl rfl fun a hs => ?_
  refine st_val hs (y_len Try.runUnderlying22 rfl) trivial rfl rfl fun a hs => ?_
  refine st_val hs (y_sub rfl rfl) trivial rfl rfl fun a hs => ?_
  refine st_val hs (y_sub rfl rfl) trivial rfl rfl fun a hs => ?_
  obtain ⟨n5, h4, hsh⟩ := bind_t hsh
  refine st_val hs (y_assignI rfl h4) trivial rfl rfl fun a hs => ?_
  refine wpList_nil ?_
  refine then_normal ?_
  refine wp_seq ?_
  refine wp_region_lit ?_
  refine st_val hs (y_move rfl) trivial rfl rfl fun a hs => ?_
  refine st_val hs (y_gtr rfl rfl) trivial rfl rfl fun a hs => ?_
  refine wpList_nil ?_
  refine then_normal ?_
  refine wp_join (fun a w => ∃ (sv23 : (List Int)) (c19 : List Value) (p20 : Option Addr) (k21 : Nat) (Sv22 : Nat → Prop), slices_Grow_Lint_int_n_j1 sv23 = some r ∧ Sl 27 [(0, .slice p20 sv23.length k21)] a ∧ Wd ⟨w0, S0, []⟩ Sv22 [.row p20 sv23.length k21 c19 3 1] [RowA c19 sv23] w) ?_ ?_
  ·refine wp_cond_split (hs.ev rfl) (fun h24 => ?_) (fun h24 => ?_)
   ·have hsh := ite_t hsh h24
    refine wp_region_lit ?_
    refine st_val hs (y_move rfl) trivial rfl rfl fun a hs => ?_
    refine st_val hs (y_move rfl) trivial rfl rfl fun a hs => ?_
    refine st_val hs (y_cap Try.runUnderlying22 rfl) trivial rfl rfl fun a hs => ?_
    obtain ⟨l28, h25, hsh⟩ := bind_t hsh
    obtain ⟨h26, h27⟩ := sub_nil 1 h25
    subst h26
    refine st_val hs (y_slc Try.runUnderlying22 Try.sizeOf3 rfl (by exact rfl) ⟨_, rfl⟩ h27) trivial rfl rfl fun a hs => ?_
    refine st_val hs (y_move rfl) trivial rfl rfl fun a hs => ?_
    obtain ⟨l30, h29, hsh⟩ := bind_t hsh
    refine w_appendMk (α := Int) hs hw El22 ⟨_, rfl, rfl⟩ Try.underlying3 rfl rfl h29 rfl rfl trivial ?_
    intro p31 k32 c33 a w hs hw
    refine st_val hs (y_move rfl) trivial rfl rfl fun a hs => ?_
    refine st_val hs (y_len Try.runUnderlying22 rfl) trivial rfl rfl fun a hs => ?_
    obtain ⟨l36, h34, hsh⟩ := bind_t hsh
    obtain ⟨hw, h35⟩ := w_cut hw 0 rfl 0 rfl h34
    refine st_val hs (y_slc Try.runUnderlying22 Try.sizeOf3 rfl (by exact rfl) ⟨_, rfl⟩ h35) trivial rfl rfl fun a hs => ?_
    refine st_val hs (y_assign rfl) trivial rfl rfl fun a hs => ?_
    refine wpList_nil ?_
    refine then_normal ?_
    exact ⟨l36, (c33.take (l36.length * 1)), p31, k32, S0, hsh, (hs.wk rfl), (hw.ft [0] [0] (by decide) rfl rfl)⟩
   ·have hsh := ite_f hsh h24
    refine wp_skip ?_
    refine then_normal ?_
    have hw := hw.nilRow Int 3
    exact ⟨([] : List Int), [], none, 0, S0, hsh, (hs.wk rfl), (hw.ft [0] [0] (by decide) rfl rfl)⟩
  ·rintro a w ⟨sv23, c19, p20, k21, Sv22, hsh, hs, hw⟩
   delta slices_Grow_Lint_int_n_j1 at hsh
   refine then_normal ?_
   refine wp_seq ?_
   refine wp_region_lit ?_
   refine st_val hs (y_move rfl) trivial rfl rfl fun a hs => ?_
   refine st_val hs (y_assign rfl) trivial rfl rfl fun a hs => ?_
   refine wpList_nil ?_
   refine then_normal ?_
   have hsh := Option.some.inj hsh
   subst hsh
   refine wp_ret ?_
   exact ret1 hs rfl (rv_tmp rfl) (hw.ret ⟨p20, k21, c19, rfl, (hw.outs [0] (by decide) rfl), (hw.envAt 0 rfl)⟩)

abbrev slices_Concat_Lint_int_rd (w0 : World) (X : List Nat) (r : (List Int)) : (Nat → Prop) → World → Value → Prop := fun S w v => ∃ (p0_0 : Option Addr) (k0_0 : Nat) (c0_0 : List Value), v = .slice p0_0 r.length k0_0 ∧ Outs X w0 S w [.row p0_0 r.length k0_0 c0_0 3 1] ∧ (RowA c0_0 r).p S w
set_option maxHeartbeats 4000000 in
set_option maxRecDepth 100000 in
theorem slices_Concat_Lint_int_ok {w0 : World} {S0 : Nat → Prop} {p2 : Option Addr} {k3 : Nat} {slices1 : (List (List Int))} {r : (List Int)} (hsh : slices_Concat_Lint_int slices1 = some r) (hS : ∀ b, S0 b → b < w0.heap.size) (h4 : (SlA p2 slices1.length k3 slices1).p S0 w0) : Calls Try.prog 47 #[.slice p2 slices1.length k3] w0 (Ret ([]) w0 S0 (slices_Concat_Lint_int_rd w0 ([]) r)) := by
 refine calls_of_wp Try.func47 rfl ?_
 have hs := Sl.enter #[.slice p2 slices1.length k3] 36 [(0, .slice p2 slices1.length k3)] rfl ⟨rfl, trivial⟩
 have hw := Wd.enter (E := []) hS (fun _ h => (by cases h))
 have hw := hw.addE h4
 delta slices_Concat_Lint_int at hsh
 refine wp_seq ?_
 refine wp_region_lit ?_
 refine st_val hs (y_assign rfl) trivial rfl rfl fun a hs => ?_
 refine wpList_nil ?_
 refine then_normal ?_
 refine wp_seq ?_
 refine wp_region_lit ?_
 refine st_val hs (y_assign rfl) trivial rfl rfl fun a hs => ?_
 refine wpList_nil ?_
 refine then_normal ?_
 refine wp_seq ?_
 refine wp_seq ?_
 refine wp_region_lit ?_
 refine st_val hs (y_move rfl) trivial rfl rfl fun a hs => ?_
 refine st_val hs (y_len Try.runUnderlying69 rfl) trivial rfl rfl fun a hs => ?_
 refine st_val hs (y_move rfl) trivial rfl rfl fun a hs => ?_
 refine wpList_nil ?_
 refine then_normal ?_
 obtain ⟨e74, h265, hsh⟩ := bind_t hsh
 refine wp_join (fun a w => ∃ (Sv75 : Nat → Prop), Sl 36 [(0, .slice p2 slices1.length k3), (3, .int .i64 e74)] a ∧ Wd ⟨w0, S0, []⟩ Sv75 [] [SlA p2 slices1.length k3 slices1] w) ?_ ?_
 ·refine wp_block ?_
  refine wp_while (fun sv5 a w => ∃ (Sv49 : Nat → Prop), Sl 36 [(0, .slice p2 slices1.length k3), (3, .int .i64 sv5.1), (9, .slice p2 slices1.length k3), (10, .int .i64 (slices1.length : Int)), (11, .int .i64 sv5.2)] a ∧ Wd ⟨w0, S0, []⟩ Sv49 [] [SlA p2 slices1.length k3 slices1] w) (0, 0) h265 ⟨S0, (hs.wk rfl), (hw.ft [] [0] (by decide) rfl rfl)⟩ ?_
  clear h265
  repeat clear hsh
  rintro sv5 a w tv72 ⟨Sv49, hs, hw⟩ hsh hd71
  delta slices_Concat_Lint_int_l1 at hsh
  refine wp_seq ?_
  refine wp_region_lit ?_
  refine st_val hs (y_lss rfl rfl) trivial rfl rfl fun a hs => ?_
  refine wpList_nil ?_
  refine then_normal ?_
  refine wp_seq ?_
  refine wp_cond_split (hs.ev rfl) (fun h77 => ?_) (fun h77 => ?_)
  ·have hsh := ite_t hsh h77
   refine wp_skip ?_
   refine then_normal ?_
   refine wp_seq ?_
   refine wp_block ?_
   refine wp_seq ?_
   refine wp_region_lit ?_
   obtain ⟨x100, h98, hsh⟩ := bind_t hsh
   obtain ⟨b106, o107, q104, c105, h108, h101, h102, h103, h99⟩ := hw.elemV 0 rfl h98
   have hsv109 := hs
   have hwv110 := hw
   subst h108
   have hs := hsv109
   have hw := hwv110
   obtain ⟨_, rfl, ⟨p111, n112, k113, rfl, h114⟩⟩ := h99
   obtain rfl := h114.1
   have hw := hw.addE (e := SlA p111 _ k113 x100) h114
   have hw := hw.addE h103
   refine st_val hs (y_indexAt Try.runUnderlying69 Try.sizeOf22 rfl rfl h101.1 h101.2 h102) trivial rfl rfl fun a hs => ?_
   refine st_val hs (y_loadE1 (j := 0) (hw.ceAt 0 rfl) rfl Try.isAgg22 rfl) trivial rfl rfl fun a hs => ?_
   refine st_val hs (y_assign rfl) trivial rfl rfl fun a hs => ?_
   refine wpList_nil ?_
   refine then_normal ?_
   refine wp_seq ?_
   refine wp_region_lit ?_
   refine st_val hs (y_move rfl) trivial rfl rfl fun a hs => ?_
   refine st_val hs (y_move rfl) trivial rfl rfl fun a hs => ?_
   refine st_val hs (y_len Try.runUnderlying22 rfl) trivial rfl rfl fun a hs => ?_
   refine st_val hs (y_add rfl rfl) trivial rfl rfl fun a hs => ?_
   obtain ⟨size116, h115, hsh⟩ := bind_t hsh
   refine st_val hs (y_assignI rfl h115) trivial rfl rfl fun a hs => ?_
   refine wpList_nil ?_
   refine then_normal ?_
   refine wp_seq ?_
   refine wp_region_lit ?_
   refine st_val hs (y_move rfl) trivial rfl rfl fun a hs => ?_
   refine st_val hs (y_lss rfl rfl) trivial rfl rfl fun a hs => ?_
   refine wpList_nil ?_
   refine then_normal ?_
   refine wp_cond_split (hs.ev rfl) (fun h118 => ?_) (fun h118 => ?_)
   ·have hsh := ite_t hsh h118
    cases hsh
   ·have hsh := ite_f hsh h118
    refine wp_skip ?_
    refine blk_normal ?_
    refine then_normal ?_
    refine wp_region_lit ?_
    refine st_val hs (y_add rfl rfl) trivial rfl rfl fun a hs => ?_
    refine st_val hs (y_move rfl) trivial rfl rfl fun a hs => ?_
    refine wpList_nil ?_
    refine then_normal ?_
    exact ⟨_, (Option.some.inj hsh).symm, Sv49, (hs.wk rfl), (hw.ft [] [2] (by decide) rfl rfl)⟩
  ·have hsh := ite_f hsh h77
   refine wp_exit ?_
   refine then_exit ?_
   refine then_exit ?_
   refine blk_exit ?_
   have hsh := Option.some.inj hsh
   subst hsh
   have h119 := hd71 _ rfl
   subst h119
   refine then_normal ?_
   exact ⟨Sv49, (hs.wk rfl), (hw.ft [] [0] (by decide) rfl rfl)⟩
 ·rintro a w ⟨Sv75, hs, hw⟩
  refine then_normal ?_
  refine wp_seq ?_
  refine wp_region_lit ?_
  refine st_val hs (y_move rfl) trivial rfl rfl fun a hs => ?_
  obtain ⟨rv121, h120, hsh⟩ := bind_t hsh
  refine st_callR hs (slices_Grow_Lint_int_n_ok h120 hw.dom) (do_call Try.call62 rfl) trivial rfl rfl ?_
  intro v129 Sv126 w a h127 h128 hs
  obtain ⟨p122, k123, c125, rfl, h130, h124⟩ := h128
  have hw := hw.callN h127 h130
  have hw := hw.addE (e := RowA c125 rv121) h124
  refine st_val hs (y_assign rfl) trivial rfl rfl fun a hs => ?_
  refine wpList_nil ?_
  refine then_normal ?_
  refine wp_seq ?_
  refine wp_seq ?_
  refine wp_region_lit ?_
  refine st_val hs (y_move rfl) trivial rfl rfl fun a hs => ?_
  refine st_val hs (y_len Try.runUnderlying69 rfl) trivial rfl rfl fun a hs => ?_
  refine st_val hs (y_move rfl) trivial rfl rfl fun a hs => ?_
  refine wpList_nil ?_
  refine then_normal ?_
  obtain ⟨e212, h264, hsh⟩ := bind_t hsh
  refine wp_join (fun a w => ∃ (c213 : List Value) (p214 : Option Addr) (k215 : Nat) (Sv216 : Nat → Prop), Sl 36 [(6, .slice p214 e212.length k215)] a ∧ Wd ⟨w0, S0, []⟩ Sv216 [.row p214 e212.length k215 c213 3 1] [RowA c213 e212] w) ?_ ?_
  ·refine wp_block ?_
   refine wp_while (fun sv131 a w => ∃ (c182 : List Value) (p183 : Option Addr) (k184 : Nat) (Sv185 : Nat → Prop), Sl 36 [(6, .slice p183 sv131.1.length k184), (25, .slice p2 slices1.length k3), (26, .int .i64 (slices1.length : Int)), (27, .int .i64 sv131.2)] a ∧ Wd ⟨w0, S0, []⟩ Sv185 [.row p183 sv131.1.length k184 c182 3 1] [SlA p2 slices1.length k3 slices1, RowA c182 sv131.1] w) (rv121, 0) h264 ⟨c125, p122, k123, Sv126, (hs.wk rfl), (hw.ft [0] [1, 0] (by decide) rfl rfl)⟩ ?_
   clear h264
   repeat clear hsh
   rintro sv131 a w tv210 ⟨c182, p183, k184, Sv185, hs, hw⟩ hsh hd209
   delta slices_Concat_Lint_int_l2 at hsh
   refine wp_seq ?_
   refine wp_region_lit ?_
   refine st_val hs (y_lss rfl rfl) trivial rfl rfl fun a hs => ?_
   refine wpList_nil ?_
   refine then_normal ?_
   refine wp_seq ?_
   refine wp_cond_split (hs.ev rfl) (fun h218 => ?_) (fun h218 => ?_)
   ·have hsh := ite_t hsh h218
    refine wp_skip ?_
    refine then_normal ?_
    refine wp_seq ?_
    refine wp_block ?_
    refine wp_seq ?_
    refine wp_region_lit ?_
    obtain ⟨x243, h241, hsh⟩ := bind_t hsh
    obtain ⟨b249, o250, q247, c248, h251, h244, h245, h246, h242⟩ := hw.elemV 0 rfl h241
    have hsv252 := hs
    have hwv253 := hw
    subst h251
    have hs := hsv252
    have hw := hwv253
    obtain ⟨_, rfl, ⟨p254, n255, k256, rfl, h257⟩⟩ := h242
    obtain rfl := h257.1
    have hw := hw.addE (e := SlA p254 _ k256 x243) h257
    have hw := hw.addE h246
    refine st_val hs (y_indexAt Try.runUnderlying69 Try.sizeOf22 rfl rfl h244.1 h244.2 h245) trivial rfl rfl fun a hs => ?_
    refine st_val hs (y_loadE1 (j := 0) (hw.ceAt 0 rfl) rfl Try.isAgg22 rfl) trivial rfl rfl fun a hs => ?_
    refine st_val hs (y_assign rfl) trivial rfl rfl fun a hs => ?_
    refine wpList_nil ?_
    refine then_normal ?_
    refine wp_region_lit ?_
    refine st_val hs (y_move rfl) trivial rfl rfl fun a hs => ?_
    refine st_val hs (y_move rfl) trivial rfl rfl fun a hs => ?_
    obtain ⟨l259, h258, hsh⟩ := bind_t hsh
    refine w_appendE (α := Int) hs hw El22 0 rfl rfl rfl 3 rfl 1 rfl h258 rfl trivial ?_
    intro p260 k261 c262 a w hs hw
    refine st_val hs (y_assign rfl) trivial rfl rfl fun a hs => ?_
    refine wpList_nil ?_
    refine blk_normal ?_
    refine then_normal ?_
    refine wp_region_lit ?_
    refine st_val hs (y_add rfl rfl) trivial rfl rfl fun a hs => ?_
    refine st_val hs (y_move rfl) trivial rfl rfl fun a hs => ?_
    refine wpList_nil ?_
    refine then_normal ?_
    exact ⟨_, (Option.some.inj hsh).symm, c262, p260, k261, Sv185, (hs.wk rfl), (hw.ft [0] [3, 0] (by decide) rfl rfl)⟩
   ·have hsh := ite_f hsh h218
    refine wp_exit ?_
    refine then_exit ?_
    refine then_exit ?_
    refine blk_exit ?_
    have hsh := Option.some.inj hsh
    subst hsh
    have h263 := hd209 _ rfl
    subst h263
    refine then_normal ?_
    exact ⟨c182, p183, k184, Sv185, (hs.wk rfl), (hw.ft [0] [1] (by decide) rfl rfl)⟩
  ·rintro a w ⟨c213, p214, k215, Sv216, hs, hw⟩
   refine then_normal ?_
   refine wp_seq ?_
   refine wp_region_lit ?_
   refine st_val hs (y_move rfl) trivial rfl rfl fun a hs => ?_
   refine st_val hs (y_assign rfl) trivial rfl rfl fun a hs => ?_
   refine wpList_nil ?_
   refine then_normal ?_
   have hsh := Option.some.inj hsh
   subst hsh
   refine wp_ret ?_
   exact ret1 hs rfl (rv_tmp rfl) (hw.ret ⟨p214, k215, c213, rfl, (hw.outs [0] (by decide) rfl), (hw.envAt 0 rfl)⟩)

abbrev filter_Push_rd (w0 : World) (X : List Nat) (r : (Feed × (List Int) × Int)) : (Nat → Prop) → World → Value → Prop := fun S w v => ∃ (p0_0 : Option Addr) (k0_0 : Nat) (c0_0 : List Value) (p0_3 : Option Addr) (k0_3 : Nat) (p1_0 : Option Addr) (k1_0 : Nat) (c1_0 : List Value), v = .tuple #[.agg #[.slice p0_0 r.1.Filter.Taps.length k0_0, .int .i64 r.1.Filter.Factor, .int .i64 r.1.Filter.Shift, .slice p0_3 r.1.Past.length k0_3, .int .i64 r.1.Number], .slice p1_0 r.2.1.length k1_0, .int .i64 r.2.2] ∧ Outs X w0 S w [.row p0_0 r.1.Filter.Taps.length k0_0 c0_0 3 1, .row p1_0 r.2.1.length k1_0 c1_0 3 1] ∧ (RowA c0_0 r.1.Filter.Taps).p S w ∧ (SlA p0_3 r.1.Past.length k0_3 r.1.Past).p S w ∧ (RowA c1_0 r.2.1).p S w
set_option maxHeartbeats 4000000 in
set_option maxRecDepth 100000 in
theorem filter_Push_ok {w0 : World} {S0 : Nat → Prop} {p2 : Option Addr} {k3 : Nat} {p4 : Option Addr} {k5 : Nat} {p9 : Option Addr} {k10 : Nat} {d1 : Feed} {samples8 : (List Int)} {r : (Feed × (List Int) × Int)} (hsh : filter_Push d1 samples8 = some r) (hS : ∀ b, S0 b → b < w0.heap.size) (h6 : (SlA p2 d1.Filter.Taps.length k3 d1.Filter.Taps).p S0 w0) (h7 : (SlA p4 d1.Past.length k5 d1.Past).p S0 w0) (h11 : (SlA p9 samples8.length k10 samples8).p S0 w0) : Calls Try.prog 25 #[.agg #[.slice p2 d1.Filter.Taps.length k3, .int .i64 d1.Filter.Factor, .int .i64 d1.Filter.Shift, .slice p4 d1.Past.length k5, .int .i64 d1.Number], .slice p9 samples8.length k10] w0 (Ret ([]) w0 S0 (filter_Push_rd w0 ([]) r)) := by
 refine calls_of_wp Try.func25 rfl ?_
 have hs := Sl.enter #[.agg #[.slice p2 d1.Filter.Taps.length k3, .int .i64 d1.Filter.Factor, .int .i64 d1.Filter.Shift, .slice p4 d1.Past.length k5, .int .i64 d1.Number], .slice p9 samples8.length k10] 66 [(0, .agg #[.slice p2 d1.Filter.Taps.length k3, .int .i64 d1.Filter.Factor, .int .i64 d1.Filter.Shift, .slice p4 d1.Past.length k5, .int .i64 d1.Number]), (1, .slice p9 samples8.length k10)] rfl ⟨rfl, rfl, trivial⟩
 have hw := Wd.enter (E := []) hS (fun _ h => (by cases h))
 have hw := hw.addE h6
 have hw := hw.addE h7
 have hw := hw.addE h11
 delta filter_Push at hsh
 refine wp_seq ?_
 refine wp_region_lit ?_
 refine w_box (cs := [.slice p2 d1.Filter.Taps.length k3, .int .i64 d1.Filter.Factor, .int .i64 d1.Filter.Shift, .slice p4 d1.Past.length k5, .int .i64 d1.Number]) hs hw rfl rfl rfl trivial ?_
 intro b12 a w hs hw
 refine w_alloc (cs := [.slice none ([] : List Int).length 0, .int .i64 0, .int .i64 0, .slice none ([] : List Int).length 0, .int .i64 0]) hs hw Try.zeroValue51 rfl rfl trivial ?_
 intro b13 a w hs hw
 refine st_val hs (y_assign rfl) trivial rfl rfl fun a hs => ?_
 refine st_val hs (y_assign rfl) trivial rfl rfl fun a hs => ?_
 refine wpList_nil ?_
 refine then_normal ?_
 refine wp_seq ?_
 refine wp_seq ?_
 refine wp_region_lit ?_
 refine st_val hs (y_loadBA (hw.ownAt 1 rfl) rfl Try.isAgg51 Try.sizeOf51 rfl rfl) trivial rfl rfl fun a hs => ?_
 obtain ⟨rv15, h14, hsh⟩ := bind_t hsh
 refine st_callR hs (filter_ValidFeed_ok h14 hw.bdom (hw.bE 2 rfl) (hw.bE 1 rfl)) (do_call Try.call37 rfl) trivial rfl rfl ?_
 intro v19 Sv16 w a h17 h18 hs
 subst h18
 have hw := hw.callB h17
 refine st_val hs (y_not rfl) trivial rfl rfl fun a hs => ?_
 refine wpList_nil ?_
 refine then_normal ?_
 refine wp_cond_split (hs.ev rfl) (fun h22 => ?_) (fun h22 => ?_)
 ·have hsh := ite_t hsh h22
  refine wp_seq ?_
  refine wp_region_lit ?_
  refine st_val hs (y_build (vs := []) Bld51 rfl rfl) trivial rfl rfl fun a hs => ?_
  refine w_store (m := 5) (cs' := [.slice none ([] : List Int).length 0, .int .i64 0, .int .i64 0, .slice none ([] : List Int).length 0, .int .i64 0]) hs hw 0 rfl rfl rfl Try.sizeOf51 rfl rfl rfl rfl trivial ?_
  intro a w hs hw
  refine st_val hs (y_assign rfl) trivial rfl rfl fun a hs => ?_
  refine st_val hs (y_assign rfl) trivial rfl rfl fun a hs => ?_
  refine wpList_nil ?_
  refine then_normal ?_
  have hsh := Option.some.inj hsh
  subst hsh
  have hw := hw.nilRow Int 3
  have hw := hw.addE (e := SlA (α := Int) none 0 0 []) nil_sl
  have hw := hw.nilRow Int 3
  refine wp_ret ?_
  refine then_ret ?_
  exact ret3 hs rfl (rv_cell hw 2 rfl rfl Try.isAgg51 Try.sizeOf51 rfl) (rv_tmp rfl) (rv_tmp rfl) (hw.ret ⟨none, 0, [], none, 0, none, 0, [], rfl, (hw.outs [1, 0] (by decide) rfl), (hw.envAt 0 rfl), (hw.envAt 1 rfl), (hw.envAt 0 rfl)⟩)
 ·have hsh := ite_f hsh h22
  refine wp_skip ?_
  refine then_normal ?_
  refine wp_seq ?_
  refine wp_seq ?_
  refine wp_region_lit ?_
  refine st_val hs (y_move rfl) trivial rfl rfl fun a hs => ?_
  refine st_val hs (y_fieldAddr (o' := 4) Try.runUnderlying51 rfl Try.sizeOf3 rfl rfl rfl) trivial rfl rfl fun a hs => ?_
  refine st_val hs (y_loadB1 (hw.ownAt 1 rfl) rfl Try.isAgg3 rfl) trivial rfl rfl fun a hs => ?_
  obtain ⟨rv24, h23, hsh⟩ := bind_t hsh
  refine st_callR hs (filter_check_ok h23 hw.bdom (hw.bE 0 rfl)) (do_call Try.call40 rfl) trivial rfl rfl ?_
  intro v28 Sv25 w a h26 h27 hs
  subst h27
  have hw := hw.callB h26
  refine st_val hs (y_assign rfl) trivial rfl rfl fun a hs => ?_
  refine wpList_nil ?_
  refine then_normal ?_
  refine wp_seq ?_
  refine wp_region_lit ?_
  refine st_val hs (y_move rfl) trivial rfl rfl fun a hs => ?_
  refine st_val hs (y_neq rfl rfl) trivial rfl rfl fun a hs => ?_
  refine wpList_nil ?_
  refine then_normal ?_
  refine wp_cond_split (hs.ev rfl) (fun h31 => ?_) (fun h31 => ?_)
  ·have hsh := ite_t hsh h31
   refine wp_seq ?_
   refine wp_region_lit ?_
   refine st_val hs (y_build (vs := []) Bld51 rfl rfl) trivial rfl rfl fun a hs => ?_
   refine st_val hs (y_move rfl) trivial rfl rfl fun a hs => ?_
   refine w_store (m := 5) (cs' := [.slice none ([] : List Int).length 0, .int .i64 0, .int .i64 0, .slice none ([] : List Int).length 0, .int .i64 0]) hs hw 0 rfl rfl rfl Try.sizeOf51 rfl rfl rfl rfl trivial ?_
   intro a w hs hw
   refine st_val hs (y_assign rfl) trivial rfl rfl fun a hs => ?_
   refine st_val hs (y_assign rfl) trivial rfl rfl fun a hs => ?_
   refine wpList_nil ?_
   refine then_normal ?_
   have hsh := Option.some.inj hsh
   subst hsh
   have hw := hw.nilRow Int 3
   have hw := hw.addE (e := SlA (α := Int) none 0 0 []) nil_sl
   have hw := hw.nilRow Int 3
   refine wp_ret ?_
   refine then_ret ?_
   exact ret3 hs rfl (rv_cell hw 2 rfl rfl Try.isAgg51 Try.sizeOf51 rfl) (rv_tmp rfl) (rv_tmp rfl) (hw.ret ⟨none, 0, [], none, 0, none, 0, [], rfl, (hw.outs [1, 0] (by decide) rfl), (hw.envAt 0 rfl), (hw.envAt 1 rfl), (hw.envAt 0 rfl)⟩)
  ·have hsh := ite_f hsh h31
   refine wp_skip ?_
   refine then_normal ?_
   refine wp_seq ?_
   refine wp_region_lit ?_
   refine st_val hs (y_fieldAddr (o' := 3) Try.runUnderlying51 rfl Try.sizeOf22 rfl rfl rfl) trivial rfl rfl fun a hs => ?_
   refine st_val hs (y_loadB1 (hw.ownAt 1 rfl) rfl Try.isAgg22 rfl) trivial rfl rfl fun a hs => ?_
   refine st_val hs (y_move rfl) trivial rfl rfl fun a hs => ?_
   refine w_litSlice (α := (List Int)) (vs := [.slice p4 d1.Past.length k5, .slice p9 samples8.length k10]) (cs := [.slice p4 d1.Past.length k5, .slice p9 samples8.length k10]) (xs := ([d1.Past, samples8] : List (List Int))) hs hw El69 rfl rfl rfl rfl rfl rfl ⟨⟨_, rfl, ⟨_, _, _, rfl, hw.envAt 1 rfl⟩⟩, ⟨⟨_, rfl, ⟨_, _, _, rfl, hw.envAt 0 rfl⟩⟩, rfl⟩⟩ rfl trivial rfl fun b33 a w hs hw => ?_
   obtain ⟨rv35, h34, hsh⟩ := bind_t hsh
   obtain ⟨Sv40, hw⟩ := w_share (α := (List Int)) hw 0 rfl 0 rfl
   refine st_callR hs (slices_Concat_Lint_int_ok h34 hw.dom (hw.envAt 0 rfl)) (do_call Try.call47 rfl) trivial rfl rfl ?_
   intro v44 Sv41 w a h42 h43 hs
   obtain ⟨p36, k37, c39, rfl, h45, h38⟩ := h43
   have hw := hw.callN h42 h45
   have hw := hw.addE (e := RowA c39 rv35) h38
   refine st_val hs (y_assign rfl) trivial rfl rfl fun a hs => ?_
   refine wpList_nil ?_
   refine then_normal ?_
   refine wp_seq ?_
   refine wp_region_lit ?_
   refine st_val hs (y_fieldAddr (o' := 3) Try.runUnderlying51 rfl Try.sizeOf22 rfl rfl rfl) trivial rfl rfl fun a hs => ?_
   refine st_val hs (y_loadB1 (hw.ownAt 2 rfl) rfl Try.isAgg22 rfl) trivial rfl rfl fun a hs => ?_
   refine st_val hs (y_len Try.runUnderlying22 rfl) trivial rfl rfl fun a hs => ?_
   obtain ⟨n47, h46, hsh⟩ := bind_t hsh
   refine st_val hs (y_assignI rfl h46) trivial rfl rfl fun a hs => ?_
   refine wpList_nil ?_
   refine then_normal ?_
   refine wp_seq ?_
   refine wp_region_lit ?_
   refine st_val hs (y_fieldAddr (o' := 0) Try.runUnderlying51 rfl Try.sizeOf28 rfl rfl rfl) trivial rfl rfl fun a hs => ?_
   refine st_val hs (y_loadBA (hw.ownAt 2 rfl) rfl Try.isAgg28 Try.sizeOf28 rfl rfl) trivial rfl rfl fun a hs => ?_
   refine st_val hs (y_move rfl) trivial rfl rfl fun a hs => ?_
   refine st_val hs (y_fieldAddr (o' := 4) Try.runUnderlying51 rfl Try.sizeOf3 rfl rfl rfl) trivial rfl rfl fun a hs => ?_
   refine st_val hs (y_loadB1 (hw.ownAt 2 rfl) rfl Try.isAgg3 rfl) trivial rfl rfl fun a hs => ?_
   refine st_val hs (y_move rfl) trivial rfl rfl fun a hs => ?_
   refine st_val hs (y_sub rfl rfl) trivial rfl rfl fun a hs => ?_
   refine st_val hs (y_move rfl) trivial rfl rfl fun a hs => ?_
   obtain ⟨rv49, h48, hsh⟩ := bind_t hsh
   obtain ⟨Sv54, hw⟩ := w_share (α := Int) hw 0 rfl 0 rfl
   refine st_callR hs (filter_outputs_ok h48 hw.dom (hw.envAt 6 rfl) (hw.envAt 0 rfl)) (do_call Try.call41 rfl) trivial rfl rfl ?_
   intro v58 Sv55 w a h56 h57 hs
   obtain ⟨p50, k51, c53, rfl, h59, h52⟩ := h57
   have hw := hw.callN h56 h59
   have hw := hw.addE (e := RowA c53 rv49) h52
   refine st_val hs (y_assign rfl) trivial rfl rfl fun a hs => ?_
   refine wpList_nil ?_
   refine then_normal ?_
   refine wp_seq ?_
   refine wp_region_lit ?_
   refine st_val hs (y_fieldAddr (o' := 0) Try.runUnderlying51 rfl Try.sizeOf28 rfl rfl rfl) trivial rfl rfl fun a hs => ?_
   refine st_val hs (y_fieldAddr (o' := 0) Try.runUnderlying28 rfl Try.sizeOf22 rfl rfl rfl) trivial rfl rfl fun a hs => ?_
   refine st_val hs (y_loadB1 (hw.ownAt 2 rfl) rfl Try.isAgg22 rfl) trivial rfl rfl fun a hs => ?_
   obtain ⟨rv61, h60, hsh⟩ := bind_t hsh
   refine st_callR hs (slices_Clone_Lint_int_ok h60 hw.dom (hw.envAt 7 rfl)) (do_call Try.call45 rfl) trivial rfl rfl ?_
   intro v69 Sv66 w a h67 h68 hs
   obtain ⟨p62, k63, c65, rfl, h70, h64⟩ := h68
   have hw := hw.callN h67 h70
   have hw := hw.addE (e := RowA c65 rv61) h64
   refine st_val hs (y_fieldAddr (o' := 0) Try.runUnderlying51 rfl Try.sizeOf28 rfl rfl rfl) trivial rfl rfl fun a hs => ?_
   refine st_val hs (y_fieldAddr (o' := 0) Try.runUnderlying28 rfl Try.sizeOf22 rfl rfl rfl) trivial rfl rfl fun a hs => ?_
   refine w_store (m := 1) (cs' := [.slice p62 rv61.length k63, .int .i64 d1.Filter.Factor, .int .i64 d1.Filter.Shift, .slice p4 d1.Past.length k5, .int .i64 d1.Number]) hs hw 3 rfl rfl rfl Try.sizeOf22 rfl rfl rfl rfl trivial ?_
   intro a w hs hw
   refine wpList_nil ?_
   refine then_normal ?_
   refine wp_seq ?_
   obtain ⟨l76, h71, hsh⟩ := bind_t hsh
   obtain ⟨p74, k75, h72, h73⟩ := sub_env (hw.envAt 2 rfl) h71
   have hw := hw.addE h72
   refine wp_only (fun a w => ∃ (Sv77 : Nat → Prop) (k75 : Nat) (p74 : Option Addr), Sl 66 [(2, .pointer (some ⟨b12, 0, none⟩)), (4, .pointer (some ⟨b13, 0, none⟩)), (10, .slice p50 rv49.length k51)] a ∧ Wd ⟨w0, S0, []⟩ Sv77 [.box b12 [.slice p62 rv61.length k63, .int .i64 d1.Filter.Factor, .int .i64 d1.Filter.Shift, .slice p74 l76.length k75, .int .i64 (w64 (d1.Number + (samples8.length : Int)))] 51, .box b13 [.slice none ([] : List Int).length 0, .int .i64 0, .int .i64 0, .slice none ([] : List Int).length 0, .int .i64 0] 51, .row p50 rv49.length k51 c53 3 1, .row p62 rv61.length k63 c65 3 1] [SlA p74 l76.length k75 l76, SlA none ([] : List Int).length 0 ([] : List Int), RowA c53 rv49, RowA c65 rv61] w) ?_ ?_
   ·refine h_b (C := Cls [.row p62 rv61.length k63 c65 3 1, .row p50 rv49.length k51 c53 3 1, .box b13 [.slice none ([] : List Int).length 0, .int .i64 0, .int .i64 0, .slice none ([] : List Int).length 0, .int .i64 0] 51] []) (by kernel_rfl) rfl (hw.drew.cs [0, 1, 2] [] rfl rfl) fun hC => ?_
    have hw := hw.drew
    refine h_g hs 0 rfl (by kernel_rfl) rfl rfl hC rfl (fun w hC => y_move rfl) fun a hs => ?_
    refine h_g hs 1 rfl (by kernel_rfl) rfl rfl hC rfl (fun w hC => y_move rfl) fun a hs => ?_
    refine h_g hs 2 rfl (by kernel_rfl) rfl rfl hC rfl (fun w hC => y_len Try.runUnderlying22 rfl) fun a hs => ?_
    refine h_g hs 3 rfl (by kernel_rfl) rfl rfl hC rfl (fun w hC => y_fieldAddr (o' := 0) Try.runUnderlying51 rfl Try.sizeOf28 rfl rfl rfl) fun a hs => ?_
    refine h_g hs 4 rfl (by kernel_rfl) rfl rfl hC rfl (fun w hC => y_fieldAddr (o' := 0) Try.runUnderlying28 rfl Try.sizeOf22 rfl rfl rfl) fun a hs => ?_
    refine h_g hs 11 rfl (by kernel_rfl) rfl rfl hC rfl (fun w hC => y_fieldAddr (o' := 4) Try.runUnderlying51 rfl Try.sizeOf3 rfl rfl rfl) fun a hs => ?_
    refine h_g hs 13 rfl (by kernel_rfl) rfl rfl hC rfl (fun w hC => y_move rfl) fun a hs => ?_
    refine h_g hs 14 rfl (by kernel_rfl) rfl rfl hC rfl (fun w hC => y_len Try.runUnderlying22 rfl) fun a hs => ?_
    refine h_all (rs := [5, 12]) (by kernel_rfl) rfl ?_
    refine AllH.cons rfl ?_ ?_
    ·refine st_val hs (y_loadB1 (hw.ownAt 3 rfl) rfl Try.isAgg22 rfl) trivial rfl rfl fun a hs => ?_
     refine h_nx (hw.cs [0, 1, 2] [] rfl rfl) fun hC => ?_
     refine h_g hs 6 rfl (by kernel_rfl) rfl rfl hC rfl (fun w hC => y_len Try.runUnderlying22 rfl) fun a hs => ?_
     refine h_g hs 7 rfl (by kernel_rfl) rfl rfl hC rfl (fun w hC => y_sub rfl rfl) fun a hs => ?_
     refine h_g hs 8 rfl (by kernel_rfl) rfl rfl hC rfl (fun w hC => y_add rfl rfl) fun a hs => ?_
     refine h_g hs 9 rfl (by kernel_rfl) rfl rfl hC rfl (fun w hC => y_max rfl rfl) fun a hs => ?_
     refine h_g hs 10 rfl (by kernel_rfl) rfl rfl hC rfl (fun w hC => y_slc Try.runUnderlying22 Try.sizeOf3 rfl ⟨_, rfl⟩ (by exact rfl) h73) fun a hs => ?_
     refine h_one (i := 12) (by kernel_rfl) rfl ?_
     refine st_val hs (y_loadB1 (hw.ownAt 3 rfl) rfl Try.isAgg3 rfl) trivial rfl rfl fun a hs => ?_
     refine h_nx (hw.cs [0, 1, 2] [] rfl rfl) fun hC => ?_
     refine h_g hs 15 rfl (by kernel_rfl) rfl rfl hC rfl (fun w hC => y_add rfl rfl) fun a hs => ?_
     refine h_g hs 16 rfl (by kernel_rfl) rfl rfl hC rfl (fun w hC => y_fieldAddr (o' := 3) Try.runUnderlying51 rfl Try.sizeOf22 rfl rfl rfl) fun a hs => ?_
     refine h_one (i := 17) (by kernel_rfl) rfl ?_
     refine w_store (m := 1) (cs' := [.slice p62 rv61.length k63, .int .i64 d1.Filter.Factor, .int .i64 d1.Filter.Shift, .slice p74 l76.length k75, .int .i64 d1.Number]) hs hw 3 rfl rfl rfl Try.sizeOf22 rfl rfl rfl rfl trivial ?_
     intro a w hs hw
     refine h_nx (hw.cs [0, 1, 2] [] rfl rfl) fun hC => ?_
     refine h_g hs 18 rfl (by kernel_rfl) rfl rfl hC rfl (fun w hC => y_fieldAddr (o' := 4) Try.runUnderlying51 rfl Try.sizeOf3 rfl rfl rfl) fun a hs => ?_
     refine h_one (i := 19) (by kernel_rfl) rfl ?_
     refine w_store (m := 1) (cs' := [.slice p62 rv61.length k63, .int .i64 d1.Filter.Factor, .int .i64 d1.Filter.Shift, .slice p74 l76.length k75, .int .i64 (w64 (d1.Number + (samples8.length : Int)))]) hs hw 3 rfl rfl rfl Try.sizeOf3 rfl rfl rfl rfl trivial ?_
     intro a w hs hw
     refine h_nx (hw.cs [0, 1, 2] [] rfl rfl) fun hC => ?_
     refine h_done (by kernel_rfl) ?_
     have hw := hw.addE (e := SlA (α := Int) none 0 0 []) nil_sl
     exact ⟨Sv66, k75, p74, (hs.wk rfl), (hw.ft [3, 2, 1, 0] [1, 0, 3, 2] (by decide) rfl rfl)⟩
    refine AllH.cons rfl ?_ ?_
    ·refine st_val hs (y_loadB1 (hw.ownAt 3 rfl) rfl Try.isAgg3 rfl) trivial rfl rfl fun a hs => ?_
     refine h_nx (hw.cs [0, 1, 2] [] rfl rfl) fun hC => ?_
     refine h_g hs 15 rfl (by kernel_rfl) rfl rfl hC rfl (fun w hC => y_add rfl rfl) fun a hs => ?_
     refine h_one (i := 5) (by kernel_rfl) rfl ?_
     refine st_val hs (y_loadB1 (hw.ownAt 3 rfl) rfl Try.isAgg22 rfl) trivial rfl rfl fun a hs => ?_
     refine h_nx (hw.cs [0, 1, 2] [] rfl rfl) fun hC => ?_
     refine h_g hs 6 rfl (by kernel_rfl) rfl rfl hC rfl (fun w hC => y_len Try.runUnderlying22 rfl) fun a hs => ?_
     refine h_g hs 7 rfl (by kernel_rfl) rfl rfl hC rfl (fun w hC => y_sub rfl rfl) fun a hs => ?_
     refine h_g hs 8 rfl (by kernel_rfl) rfl rfl hC rfl (fun w hC => y_add rfl rfl) fun a hs => ?_
     refine h_g hs 9 rfl (by kernel_rfl) rfl rfl hC rfl (fun w hC => y_max rfl rfl) fun a hs => ?_
     refine h_g hs 10 rfl (by kernel_rfl) rfl rfl hC rfl (fun w hC => y_slc Try.runUnderlying22 Try.sizeOf3 rfl ⟨_, rfl⟩ (by exact rfl) h73) fun a hs => ?_
     refine h_g hs 16 rfl (by kernel_rfl) rfl rfl hC rfl (fun w hC => y_fieldAddr (o' := 3) Try.runUnderlying51 rfl Try.sizeOf22 rfl rfl rfl) fun a hs => ?_
     refine h_one (i := 17) (by kernel_rfl) rfl ?_
     refine w_store (m := 1) (cs' := [.slice p62 rv61.length k63, .int .i64 d1.Filter.Factor, .int .i64 d1.Filter.Shift, .slice p74 l76.length k75, .int .i64 d1.Number]) hs hw 3 rfl rfl rfl Try.sizeOf22 rfl rfl rfl rfl trivial ?_
     intro a w hs hw
     refine h_nx (hw.cs [0, 1, 2] [] rfl rfl) fun hC => ?_
     refine h_g hs 18 rfl (by kernel_rfl) rfl rfl hC rfl (fun w hC => y_fieldAddr (o' := 4) Try.runUnderlying51 rfl Try.sizeOf3 rfl rfl rfl) fun a hs => ?_
     refine h_one (i := 19) (by kernel_rfl) rfl ?_
     refine w_store (m := 1) (cs' := [.slice p62 rv61.length k63, .int .i64 d1.Filter.Factor, .int .i64 d1.Filter.Shift, .slice p74 l76.length k75, .int .i64 (w64 (d1.Number + (samples8.length : Int)))]) hs hw 3 rfl rfl rfl Try.sizeOf3 rfl rfl rfl rfl trivial ?_
     intro a w hs hw
     refine h_nx (hw.cs [0, 1, 2] [] rfl rfl) fun hC => ?_
     refine h_done (by kernel_rfl) ?_
     have hw := hw.addE (e := SlA (α := Int) none 0 0 []) nil_sl
     exact ⟨Sv66, k75, p74, (hs.wk rfl), (hw.ft [3, 2, 1, 0] [1, 0, 3, 2] (by decide) rfl rfl)⟩
    exact AllH.nil
   ·rintro a w ⟨Sv77, k75, p74, hs, hw⟩
    refine then_normal ?_
    refine wp_seq ?_
    refine wp_region_lit ?_
    refine st_val hs (y_loadBA (hw.ownAt 0 rfl) rfl Try.isAgg51 Try.sizeOf51 rfl rfl) trivial rfl rfl fun a hs => ?_
    refine st_val hs (y_move rfl) trivial rfl rfl fun a hs => ?_
    refine w_store (m := 5) (cs' := [.slice p62 rv61.length k63, .int .i64 d1.Filter.Factor, .int .i64 d1.Filter.Shift, .slice p74 l76.length k75, .int .i64 (w64 (d1.Number + (samples8.length : Int)))]) hs hw 1 rfl rfl rfl Try.sizeOf51 rfl rfl rfl rfl trivial ?_
    intro a w hs hw
    refine st_val hs (y_assign rfl) trivial rfl rfl fun a hs => ?_
    refine st_val hs (y_assign rfl) trivial rfl rfl fun a hs => ?_
    refine wpList_nil ?_
    refine then_normal ?_
    have hsh := Option.some.inj hsh
    subst hsh
    refine wp_ret ?_
    exact ret3 hs rfl (rv_cell hw 1 rfl rfl Try.isAgg51 Try.sizeOf51 rfl) (rv_tmp rfl) (rv_tmp rfl) (hw.ret ⟨p62, k63, c65, p74, k75, p50, k51, c53, rfl, (hw.outs [3, 2] (by decide) rfl), (hw.envAt 3 rfl), (hw.envAt 0 rfl), (hw.envAt 2 rfl)⟩)

abbrev made_Dice_Stage_rd (w0 : World) (X : List Nat) (b2 : Nat) (r : (Stage × Dice)) : (Nat → Prop) → World → Value → Prop := fun S w v => ∃ (p0_7 : Option Addr) (k0_7 : Nat) (c0_7 : List Value) (pq0_0 : Option Addr) (kq0_0 : Nat), v = .agg #[.int .i64 r.1.Kind, .int .i64 r.1.Num.e0, .int .i64 r.1.Num.e1, .int .i64 r.1.Num.e2, .int .i64 r.1.Den.e0, .int .i64 r.1.Den.e1, .int .i64 r.1.Den.e2, .slice p0_7 r.1.Taps.length k0_7, .int .i64 r.1.Factor, .int .i64 r.1.Shift] ∧ Outs X w0 S w [.row p0_7 r.1.Taps.length k0_7 c0_7 3 1, .box b2 [.slice pq0_0 r.2.L.length kq0_0, .int .i64 r.2.At] 75] ∧ (RowA c0_7 r.1.Taps).p S w ∧ (SlA pq0_0 r.2.L.length kq0_0 r.2.L).p S w
set_option maxHeartbeats 4000000 in
set_option maxRecDepth 100000 in
theorem made_Dice_Stage_ok {w0 : World} {S0 : Nat → Prop} {b2 : Nat} {p3 : Option Addr} {k4 : Nat} {d1 : Dice} {r : (Stage × Dice)} (hsh : made_Dice_Stage d1 = some r) (hS : ∀ b, S0 b → b < w0.heap.size) (hin : Ins S0 w0 [.box b2 [.slice p3 d1.L.length k4, .int .i64 d1.At] 75]) (h5 : (SlA p3 d1.L.length k4 d1.L).p S0 w0) : Calls Try.prog 21 #[.pointer (some ⟨b2, 0, none⟩)] w0 (Ret (blks [.box b2 [.slice p3 d1.L.length k4, .int .i64 d1.At] 75]) w0 S0 (made_Dice_Stage_rd w0 (blks [.box b2 [.slice p3 d1.L.length k4, .int .i64 d1.At] 75]) b2 r)) := by
 refine calls_of_wp Try.func21 rfl ?_
 have hs := Sl.enter #[.pointer (some ⟨b2, 0, none⟩)] 77 [(0, .pointer (some ⟨b2, 0, none⟩))] rfl ⟨rfl, trivial⟩
 have hw := Wd.enterI hS hin
 have hw := hw.addE h5
 delta made_Dice_Stage at hsh
 refine wp_seq ?_
 refine wp_region_lit ?_
 refine w_alloc (cs := [.int .i64 0, .int .i64 0, .int .i64 0, .int .i64 0, .int .i64 0, .int .i64 0, .int .i64 0, .slice none ([] : List Int).length 0, .int .i64 0, .int .i64 0]) hs hw Try.zeroValue45 rfl rfl trivial ?_
 intro b6 a w hs hw
 refine wpList_nil ?_
 refine then_normal ?_
 refine wp_seq ?_
 refine wp_seq ?_
 refine wp_region_lit ?_
 refine st_val hs (y_move rfl) trivial rfl rfl fun a hs => ?_
 obtain ⟨rv8, h7, hsh⟩ := bind_t hsh
 refine st_callR hs (made_Dice_Next_ok h7 hw.dom (hw.ins [1] (by decide) rfl) (hw.envAt 0 rfl)) (do_call Try.call15 rfl) trivial rfl rfl ?_
 intro v15 Sv12 w a h13 h14 hs
 obtain ⟨p9, k10, rfl, h16, h11⟩ := h14
 have hw := hw.callO [1] [0] (by decide) rfl h13 h16
 have hw := hw.addE (e := SlA p9 rv8.2.L.length k10 rv8.2.L) h11
 refine wpList_nil ?_
 refine then_normal ?_
 refine wp_block ?_
 refine wp_seq ?_
 refine wp_region_lit ?_
 refine st_val hs (y_eql rfl rfl) trivial rfl rfl fun a hs => ?_
 refine st_val hs (y_assign rfl) trivial rfl rfl fun a hs => ?_
 refine wpList_nil ?_
 refine then_normal ?_
 refine wp_cond_split (hs.ev rfl) (fun h193 => ?_) (fun h193 => ?_)
 ·have hsh := ite_t hsh h193
  refine wp_seq ?_
  refine wp_region_lit ?_
  refine st_val hs (y_move rfl) trivial rfl rfl fun a hs => ?_
  obtain ⟨rv195, h194, hsh⟩ := bind_t hsh
  refine st_callR hs (made_Dice_Next_ok h194 hw.dom (hw.ins [0] (by decide) rfl) (hw.envAt 0 rfl)) (do_call Try.call15 rfl) trivial rfl rfl ?_
  intro v202 Sv199 w a h200 h201 hs
  obtain ⟨p196, k197, rfl, h203, h198⟩ := h201
  have hw := hw.callO [0] [1] (by decide) rfl h200 h203
  have hw := hw.addE (e := SlA p196 rv195.2.L.length k197 rv195.2.L) h198
  refine st_val hs (y_add rfl rfl) trivial rfl rfl fun a hs => ?_
  refine st_val hs (y_build (vs := [(0, .int .i64 (w64 (1 + rv195.1)))]) Bld43 rfl rfl) trivial rfl rfl fun a hs => ?_
  refine st_val hs (y_move rfl) trivial rfl rfl fun a hs => ?_
  obtain ⟨rv205, h204, hsh⟩ := bind_t hsh
  refine st_callR hs (made_Dice_Next_ok h204 hw.dom (hw.ins [0] (by decide) rfl) (hw.envAt 0 rfl)) (do_call Try.call15 rfl) trivial rfl rfl ?_
  intro v212 Sv209 w a h210 h211 hs
  obtain ⟨p206, k207, rfl, h213, h208⟩ := h211
  have hw := hw.callO [0] [1] (by decide) rfl h210 h213
  have hw := hw.addE (e := SlA p206 rv205.2.L.length k207 rv205.2.L) h208
  refine st_val hs (y_add rfl rfl) trivial rfl rfl fun a hs => ?_
  refine st_val hs (y_build (vs := [(0, .int .i64 (w64 (1 + rv205.1)))]) Bld43 rfl rfl) trivial rfl rfl fun a hs => ?_
  refine st_val hs (y_build (vs := [(0, .int .i64 0), (1, .agg #[.int .i64 (w64 (1 + rv195.1)), .int .i64 0, .int .i64 0]), (2, .agg #[.int .i64 (w64 (1 + rv205.1)), .int .i64 0, .int .i64 0])]) Bld45 rfl rfl) trivial rfl rfl fun a hs => ?_
  refine w_store (m := 10) (cs' := [.int .i64 0, .int .i64 (w64 (1 + rv195.1)), .int .i64 0, .int .i64 0, .int .i64 (w64 (1 + rv205.1)), .int .i64 0, .int .i64 0, .slice none ([] : List Int).length 0, .int .i64 0, .int .i64 0]) hs hw 1 rfl rfl rfl Try.sizeOf45 rfl rfl rfl rfl trivial ?_
  intro a w hs hw
  refine wpList_nil ?_
  refine then_normal ?_
  have hsh := Option.some.inj hsh
  subst hsh
  have hw := hw.nilRow Int 3
  refine wp_ret ?_
  refine blk_ret ?_
  refine then_ret ?_
  exact ret1 hs rfl (rv_cell hw 2 rfl rfl Try.isAgg45 Try.sizeOf45 rfl) (hw.ret ⟨none, 0, [], p206, k207, rfl, (hw.outs [0, 1] (by decide) rfl), (hw.envAt 0 rfl), (hw.envAt 1 rfl)⟩)
 ·have hsh := ite_f hsh h193
  refine wp_seq ?_
  refine wp_region_lit ?_
  refine st_val hs (y_eql rfl rfl) trivial rfl rfl fun a hs => ?_
  refine st_val hs (y_assign rfl) trivial rfl rfl fun a hs => ?_
  refine wpList_nil ?_
  refine then_normal ?_
  refine wp_cond_split (hs.ev rfl) (fun h281 => ?_) (fun h281 => ?_)
  ·have hsh := ite_t hsh h281
   refine wp_seq ?_
   refine wp_region_lit ?_
   refine st_val hs (y_move rfl) trivial rfl rfl fun a hs => ?_
   obtain ⟨rv283, h282, hsh⟩ := bind_t hsh
   refine st_callR hs (made_Dice_Next_ok h282 hw.dom (hw.ins [0] (by decide) rfl) (hw.envAt 0 rfl)) (do_call Try.call15 rfl) trivial rfl rfl ?_
   intro v290 Sv287 w a h288 h289 hs
   obtain ⟨p284, k285, rfl, h291, h286⟩ := h289
   have hw := hw.callO [0] [1] (by decide) rfl h288 h291
   have hw := hw.addE (e := SlA p284 rv283.2.L.length k285 rv283.2.L) h286
   refine st_val hs (y_sub rfl rfl) trivial rfl rfl fun a hs => ?_
   refine st_val hs (y_move rfl) trivial rfl rfl fun a hs => ?_
   obtain ⟨rv293, h292, hsh⟩ := bind_t hsh
   refine st_callR hs (made_Dice_Next_ok h292 hw.dom (hw.ins [0] (by decide) rfl) (hw.envAt 0 rfl)) (do_call Try.call15 rfl) trivial rfl rfl ?_
   intro v300 Sv297 w a h298 h299 hs
   obtain ⟨p294, k295, rfl, h301, h296⟩ := h299
   have hw := hw.callO [0] [1] (by decide) rfl h298 h301
   have hw := hw.addE (e := SlA p294 rv293.2.L.length k295 rv293.2.L) h296
   refine st_val hs (y_sub rfl rfl) trivial rfl rfl fun a hs => ?_
   refine st_val hs (y_move rfl) trivial rfl rfl fun a hs => ?_
   obtain ⟨rv303, h302, hsh⟩ := bind_t hsh
   refine st_callR hs (made_Dice_Next_ok h302 hw.dom (hw.ins [0] (by decide) rfl) (hw.envAt 0 rfl)) (do_call Try.call15 rfl) trivial rfl rfl ?_
   intro v310 Sv307 w a h308 h309 hs
   obtain ⟨p304, k305, rfl, h311, h306⟩ := h309
   have hw := hw.callO [0] [1] (by decide) rfl h308 h311
   have hw := hw.addE (e := SlA p304 rv303.2.L.length k305 rv303.2.L) h306
   refine st_val hs (y_build (vs := [(0, .int .i64 (w64 (rv283.1 - 4))), (1, .int .i64 (w64 (rv293.1 - 4))), (2, .int .i64 rv303.1)]) Bld43 rfl rfl) trivial rfl rfl fun a hs => ?_
   refine st_val hs (y_move rfl) trivial rfl rfl fun a hs => ?_
   refine w_litSlice (α := Int) (vs := [.int .i64 1, .int .i64 2, .int .i64 (-3), .int .i64 1048576]) (cs := [.int .i64 1, .int .i64 2, .int .i64 (-3), .int .i64 1048576]) (xs := ([1, 2, (-3), 1048576] : List Int)) hs hw El22 rfl rfl rfl rfl rfl rfl ⟨⟨_, rfl, rfl⟩, ⟨⟨_, rfl, rfl⟩, ⟨⟨_, rfl, rfl⟩, ⟨⟨_, rfl, rfl⟩, rfl⟩⟩⟩⟩ rfl trivial rfl fun b313 a w hs hw => ?_
   obtain ⟨rv315, h314, hsh⟩ := bind_t hsh
   obtain ⟨Sv319, hw⟩ := w_share (α := Int) hw 0 rfl 0 rfl
   refine st_callR hs (made_Dice_Pick_ok h314 hw.dom (hw.ins [0] (by decide) rfl) (hw.envAt 2 rfl) (hw.envAt 0 rfl)) (do_call Try.call27 rfl) trivial rfl rfl ?_
   intro v323 Sv320 w a h321 h322 hs
   obtain ⟨p316, k317, rfl, h324, h318⟩ := h322
   have hw := hw.callO [0] [1] (by decide) rfl h321 h324
   have hw := hw.addE (e := SlA p316 rv315.2.L.length k317 rv315.2.L) h318
   refine st_val hs (y_move rfl) trivial rfl rfl fun a hs => ?_
   obtain ⟨rv326, h325, hsh⟩ := bind_t hsh
   refine st_callR hs (made_Dice_Next_ok h325 hw.dom (hw.ins [0] (by decide) rfl) (hw.envAt 0 rfl)) (do_call Try.call15 rfl) trivial rfl rfl ?_
   intro v333 Sv330 w a h331 h332 hs
   obtain ⟨p327, k328, rfl, h334, h329⟩ := h332
   have hw := hw.callO [0] [1] (by decide) rfl h331 h334
   have hw := hw.addE (e := SlA p327 rv326.2.L.length k328 rv326.2.L) h329
   refine st_val hs (y_sub rfl rfl) trivial rfl rfl fun a hs => ?_
   refine st_val hs (y_move rfl) trivial rfl rfl fun a hs => ?_
   refine w_litSlice (α := Int) (vs := [.int .i64 0, .int .i64 1, .int .i64 1048576]) (cs := [.int .i64 0, .int .i64 1, .int .i64 1048576]) (xs := ([0, 1, 1048576] : List Int)) hs hw El22 rfl rfl rfl rfl rfl rfl ⟨⟨_, rfl, rfl⟩, ⟨⟨_, rfl, rfl⟩, ⟨⟨_, rfl, rfl⟩, rfl⟩⟩⟩ rfl trivial rfl fun b336 a w hs hw => ?_
   obtain ⟨rv338, h337, hsh⟩ := bind_t hsh
   obtain ⟨Sv342, hw⟩ := w_share (α := Int) hw 0 rfl 0 rfl
   refine st_callR hs (made_Dice_Pick_ok h337 hw.dom (hw.ins [0] (by decide) rfl) (hw.envAt 2 rfl) (hw.envAt 0 rfl)) (do_call Try.call27 rfl) trivial rfl rfl ?_
   intro v346 Sv343 w a h344 h345 hs
   obtain ⟨p339, k340, rfl, h347, h341⟩ := h345
   have hw := hw.callO [0] [1] (by decide) rfl h344 h347
   have hw := hw.addE (e := SlA p339 rv338.2.L.length k340 rv338.2.L) h341
   refine st_val hs (y_build (vs := [(0, .int .i64 rv315.1), (1, .int .i64 (w64 (rv326.1 - 4))), (2, .int .i64 rv338.1)]) Bld43 rfl rfl) trivial rfl rfl fun a hs => ?_
   refine st_val hs (y_build (vs := [(0, .int .i64 1), (1, .agg #[.int .i64 (w64 (rv283.1 - 4)), .int .i64 (w64 (rv293.1 - 4)), .int .i64 rv303.1]), (2, .agg #[.int .i64 rv315.1, .int .i64 (w64 (rv326.1 - 4)), .int .i64 rv338.1])]) Bld45 rfl rfl) trivial rfl rfl fun a hs => ?_
   refine w_store (m := 10) (cs' := [.int .i64 1, .int .i64 (w64 (rv283.1 - 4)), .int .i64 (w64 (rv293.1 - 4)), .int .i64 rv303.1, .int .i64 rv315.1, .int .i64 (w64 (rv326.1 - 4)), .int .i64 rv338.1, .slice none ([] : List Int).length 0, .int .i64 0, .int .i64 0]) hs hw 1 rfl rfl rfl Try.sizeOf45 rfl rfl rfl rfl trivial ?_
   intro a w hs hw
   refine wpList_nil ?_
   refine then_normal ?_
   have hsh := Option.some.inj hsh
   subst hsh
   have hw := hw.nilRow Int 3
   refine wp_ret ?_
   refine blk_ret ?_
   refine then_ret ?_
   exact ret1 hs rfl (rv_cell hw 2 rfl rfl Try.isAgg45 Try.sizeOf45 rfl) (hw.ret ⟨none, 0, [], p339, k340, rfl, (hw.outs [0, 1] (by decide) rfl), (hw.envAt 0 rfl), (hw.envAt 1 rfl)⟩)
  ·have hsh := ite_f hsh h281
   refine wp_skip ?_
   refine blk_normal ?_
   refine then_normal ?_
   refine wp_seq ?_
   refine wp_region_lit ?_
   refine st_val hs (y_move rfl) trivial rfl rfl fun a hs => ?_
   obtain ⟨rv349, h348, hsh⟩ := bind_t hsh
   refine st_callR hs (made_Dice_Next_ok h348 hw.dom (hw.ins [0] (by decide) rfl) (hw.envAt 0 rfl)) (do_call Try.call15 rfl) trivial rfl rfl ?_
   intro v356 Sv353 w a h354 h355 hs
   obtain ⟨p350, k351, rfl, h357, h352⟩ := h355
   have hw := hw.callO [0] [1] (by decide) rfl h354 h357
   have hw := hw.addE (e := SlA p350 rv349.2.L.length k351 rv349.2.L) h352
   refine st_val hs (y_add rfl rfl) trivial rfl rfl fun a hs => ?_
   refine w_litSlice (α := Int) (vs := [.int .i64 (w64 (1 + rv349.1))]) (cs := [.int .i64 (w64 (1 + rv349.1))]) (xs := ([(w64 (1 + rv349.1))] : List Int)) hs hw El22 rfl rfl rfl rfl rfl rfl ⟨⟨_, rfl, rfl⟩, rfl⟩ rfl trivial rfl fun b359 a w hs hw => ?_
   refine st_val hs (y_move rfl) trivial rfl rfl fun a hs => ?_
   refine w_litSlice (α := Int) (vs := [.int .i64 1, .int .i64 1, .int .i64 2, .int .i64 5]) (cs := [.int .i64 1, .int .i64 1, .int .i64 2, .int .i64 5]) (xs := ([1, 1, 2, 5] : List Int)) hs hw El22 rfl rfl rfl rfl rfl rfl ⟨⟨_, rfl, rfl⟩, ⟨⟨_, rfl, rfl⟩, ⟨⟨_, rfl, rfl⟩, ⟨⟨_, rfl, rfl⟩, rfl⟩⟩⟩⟩ rfl trivial rfl fun b361 a w hs hw => ?_
   obtain ⟨rv363, h362, hsh⟩ := bind_t hsh
   obtain ⟨Sv367, hw⟩ := w_share (α := Int) hw 0 rfl 0 rfl
   refine st_callR hs (made_Dice_Pick_ok h362 hw.dom (hw.ins [1] (by decide) rfl) (hw.envAt 3 rfl) (hw.envAt 0 rfl)) (do_call Try.call27 rfl) trivial rfl rfl ?_
   intro v371 Sv368 w a h369 h370 hs
   obtain ⟨p364, k365, rfl, h372, h366⟩ := h370
   have hw := hw.callO [1] [0, 2] (by decide) rfl h369 h372
   have hw := hw.addE (e := SlA p364 rv363.2.L.length k365 rv363.2.L) h366
   refine st_val hs (y_move rfl) trivial rfl rfl fun a hs => ?_
   obtain ⟨rv374, h373, hsh⟩ := bind_t hsh
   refine st_callR hs (made_Dice_Next_ok h373 hw.dom (hw.ins [0] (by decide) rfl) (hw.envAt 0 rfl)) (do_call Try.call15 rfl) trivial rfl rfl ?_
   intro v381 Sv378 w a h379 h380 hs
   obtain ⟨p375, k376, rfl, h382, h377⟩ := h380
   have hw := hw.callO [0] [1, 2] (by decide) rfl h379 h382
   have hw := hw.addE (e := SlA p375 rv374.2.L.length k376 rv374.2.L) h377
   refine st_val hs (y_build (vs := [(0, .int .i64 2), (3, .slice (some ⟨b359, 0, none⟩) ([(w64 (1 + rv349.1))] : List Int).length ([(w64 (1 + rv349.1))] : List Int).length), (4, .int .i64 rv363.1), (5, .int .i64 rv374.1)]) Bld45 rfl rfl) trivial rfl rfl fun a hs => ?_
   refine w_alloc (cs := [.int .i64 0, .int .i64 0, .int .i64 0, .int .i64 0, .int .i64 0, .int .i64 0, .int .i64 0, .slice none ([] : List Int).length 0, .int .i64 0, .int .i64 0]) hs hw Try.zeroValue45 rfl rfl trivial ?_
   intro b383 a w hs hw
   refine w_store (m := 10) (cs' := [.int .i64 2, .int .i64 0, .int .i64 0, .int .i64 0, .int .i64 0, .int .i64 0, .int .i64 0, .slice (some ⟨b359, 0, none⟩) ([(w64 (1 + rv349.1))] : List Int).length ([(w64 (1 + rv349.1))] : List Int).length, .int .i64 rv363.1, .int .i64 rv374.1]) hs hw 0 rfl rfl rfl Try.sizeOf45 rfl rfl rfl rfl trivial ?_
   intro a w hs hw
   refine wpList_nil ?_
   refine then_normal ?_
   refine wp_seq ?_
   refine wp_seq ?_
   refine wp_region_lit ?_
   refine st_val hs (y_move rfl) trivial rfl rfl fun a hs => ?_
   obtain ⟨rv385, h384, hsh⟩ := bind_t hsh
   refine st_callR hs (made_Dice_Next_ok h384 hw.dom (hw.ins [1] (by decide) rfl) (hw.envAt 0 rfl)) (do_call Try.call15 rfl) trivial rfl rfl ?_
   intro v392 Sv389 w a h390 h391 hs
   obtain ⟨p386, k387, rfl, h393, h388⟩ := h391
   have hw := hw.callO [1] [0, 2, 3] (by decide) rfl h390 h393
   have hw := hw.addE (e := SlA p386 rv385.2.L.length k387 rv385.2.L) h388
   refine st_val hs (y_assign rfl) trivial rfl rfl fun a hs => ?_
   refine wpList_nil ?_
   refine then_normal ?_
   obtain ⟨e491, h582, hsh⟩ := bind_t hsh
   refine wp_join (fun a w => ∃ (p492 : Option Addr) (k493 : Nat) (c494 : List Value) (p495 : Option Addr) (k496 : Nat) (Sv497 : Nat → Prop), Sl 77 [(0, .pointer (some ⟨b2, 0, none⟩)), (2, .pointer (some ⟨b6, 0, none⟩)), (3, .pointer (some ⟨b383, 0, none⟩))] a ∧ Wd ⟨w0, S0, blks [.box b2 [.slice p3 d1.L.length k4, .int .i64 d1.At] 75]⟩ Sv497 [.box b2 [.slice p492 e491.1.length k493, .int .i64 e491.2.1] 75, .box b6 [.int .i64 0, .int .i64 0, .int .i64 0, .int .i64 0, .int .i64 0, .int .i64 0, .int .i64 0, .slice none ([] : List Int).length 0, .int .i64 0, .int .i64 0] 45, .box b383 [.int .i64 2, .int .i64 0, .int .i64 0, .int .i64 0, .int .i64 0, .int .i64 0, .int .i64 0, .slice p495 e491.2.2.length k496, .int .i64 rv363.1, .int .i64 rv374.1] 45, .row p495 e491.2.2.length k496 c494 3 1] [SlA p492 e491.1.length k493 e491.1, SlA none ([] : List Int).length 0 ([] : List Int), RowA c494 e491.2.2] w) ?_ ?_
   ·refine wp_block ?_
    have hw := hw.addE (e := SlA (α := Int) none 0 0 []) nil_sl
    refine wp_while (fun sv394 a w => ∃ (p455 : Option Addr) (k456 : Nat) (c457 : List Value) (p458 : Option Addr) (k459 : Nat) (Sv460 : Nat → Prop), Sl 77 [(0, .pointer (some ⟨b2, 0, none⟩)), (2, .pointer (some ⟨b6, 0, none⟩)), (3, .pointer (some ⟨b383, 0, none⟩)), (4, .int .i64 sv394.2.2.2)] a ∧ Wd ⟨w0, S0, blks [.box b2 [.slice p3 d1.L.length k4, .int .i64 d1.At] 75]⟩ Sv460 [.box b2 [.slice p455 sv394.1.length k456, .int .i64 sv394.2.1] 75, .box b6 [.int .i64 0, .int .i64 0, .int .i64 0, .int .i64 0, .int .i64 0, .int .i64 0, .int .i64 0, .slice none ([] : List Int).length 0, .int .i64 0, .int .i64 0] 45, .box b383 [.int .i64 2, .int .i64 0, .int .i64 0, .int .i64 0, .int .i64 0, .int .i64 0, .int .i64 0, .slice p458 sv394.2.2.1.length k459, .int .i64 rv363.1, .int .i64 rv374.1] 45, .row p458 sv394.2.2.1.length k459 c457 3 1] [SlA p455 sv394.1.length k456 sv394.1, SlA none ([] : List Int).length 0 ([] : List Int), RowA c457 sv394.2.2.1] w) (rv385.2.L, rv385.2.At, ([(w64 (1 + rv349.1))] : List Int), rv385.1) h582 ⟨p386, k387, [.int .i64 (w64 (1 + rv349.1))], (some ⟨b359, 0, none⟩), ([(w64 (1 + rv349.1))] : List Int).length, Sv389, (hs.wk rfl), (hw.ft [0, 3, 1, 2] [1, 0, 6] (by decide) rfl rfl)⟩ ?_
    clear h582
    repeat clear hsh
    rintro sv394 a w tv489 ⟨p455, k456, c457, p458, k459, Sv460, hs, hw⟩ hsh hd488
    delta made_Dice_Stage_l1 at hsh
    refine wp_seq ?_
    refine wp_seq ?_
    refine wp_region_lit ?_
    refine st_val hs (y_move rfl) trivial rfl rfl fun a hs => ?_
    refine st_val hs (y_gtr rfl rfl) trivial rfl rfl fun a hs => ?_
    refine wpList_nil ?_
    refine then_normal ?_
    refine wp_cond_split (hs.ev rfl) (fun h499 => ?_) (fun h499 => ?_)
    ·have hsh := ite_t hsh h499
     refine wp_skip ?_
     refine then_normal ?_
     refine wp_seq ?_
     refine wp_block ?_
     refine wp_seq ?_
     refine wp_region_lit ?_
     refine st_val hs (y_move rfl) trivial rfl rfl fun a hs => ?_
     obtain ⟨rv525, h524, hsh⟩ := bind_t hsh
     refine st_callR hs (made_Dice_Next_ok h524 hw.dom (hw.ins [0] (by decide) rfl) (hw.envAt 0 rfl)) (do_call Try.call15 rfl) trivial rfl rfl ?_
     intro v532 Sv529 w a h530 h531 hs
     obtain ⟨p526, k527, rfl, h533, h528⟩ := h531
     have hw := hw.callO [0] [1, 2, 3] (by decide) rfl h530 h533
     have hw := hw.addE (e := SlA p526 rv525.2.L.length k527 rv525.2.L) h528
     refine st_val hs (y_assign rfl) trivial rfl rfl fun a hs => ?_
     refine wpList_nil ?_
     refine then_normal ?_
     refine wp_region_lit ?_
     refine st_val hs (y_move rfl) trivial rfl rfl fun a hs => ?_
     refine w_litSlice (α := Int) (vs := [.int .i64 rv525.1]) (cs := [.int .i64 rv525.1]) (xs := ([rv525.1] : List Int)) hs hw El22 rfl rfl rfl rfl rfl rfl ⟨⟨_, rfl, rfl⟩, rfl⟩ rfl trivial rfl fun b535 a w hs hw => ?_
     refine st_val hs (y_fieldAddr (o' := 7) Try.runUnderlying45 rfl Try.sizeOf22 rfl rfl rfl) trivial rfl rfl fun a hs => ?_
     refine st_val hs (y_loadB1 (hw.ownAt 3 rfl) rfl Try.isAgg22 rfl) trivial rfl rfl fun a hs => ?_
     obtain ⟨l537, h536, hsh⟩ := bind_t hsh
     refine w_appendR (α := Int) hs hw El22 0 rfl rfl rfl 0 rfl 4 rfl 4 rfl h536 rfl trivial ?_
     intro p538 k539 c540 a w hs hw
     refine st_val hs (y_move rfl) trivial rfl rfl fun a hs => ?_
     refine w_litSlice (α := Int) (vs := [.int .i64 rv525.1]) (cs := [.int .i64 rv525.1]) (xs := ([rv525.1] : List Int)) hs hw El22 rfl rfl rfl rfl rfl rfl ⟨⟨_, rfl, rfl⟩, rfl⟩ rfl trivial rfl fun b542 a w hs hw => ?_
     obtain ⟨l544, h543, hsh⟩ := bind_t hsh
     refine w_appendR (α := Int) hs hw El22 1 rfl rfl rfl 1 rfl 0 rfl 0 rfl h543 rfl trivial ?_
     intro p545 k546 c547 a w hs hw
     refine st_val hs (y_fieldAddr (o' := 7) Try.runUnderlying45 rfl Try.sizeOf22 rfl rfl rfl) trivial rfl rfl fun a hs => ?_
     refine w_store (m := 1) (cs' := [.int .i64 2, .int .i64 0, .int .i64 0, .int .i64 0, .int .i64 0, .int .i64 0, .int .i64 0, .slice p545 l544.length k546, .int .i64 rv363.1, .int .i64 rv374.1]) hs hw 4 rfl rfl rfl Try.sizeOf22 rfl rfl rfl rfl trivial ?_
     intro a w hs hw
     refine wpList_nil ?_
     refine blk_normal ?_
     refine then_normal ?_
     refine wp_region_lit ?_
     refine st_val hs (y_move rfl) trivial rfl rfl fun a hs => ?_
     refine st_val hs (y_sub rfl rfl) trivial rfl rfl fun a hs => ?_
     obtain ⟨i549, h548, hsh⟩ := bind_t hsh
     refine st_val hs (y_assignI rfl h548) trivial rfl rfl fun a hs => ?_
     refine wpList_nil ?_
     refine then_normal ?_
     exact ⟨_, (Option.some.inj hsh).symm, p526, k527, c547, p545, k546, Sv529, (hs.wk rfl), (hw.ft [2, 3, 4, 1] [4, 6, 0] (by decide) rfl rfl)⟩
    ·have hsh := ite_f hsh h499
     refine wp_exit ?_
     refine then_exit ?_
     refine then_exit ?_
     refine blk_exit ?_
     have hsh := Option.some.inj hsh
     subst hsh
     have h550 := hd488 _ rfl
     subst h550
     refine then_normal ?_
     exact ⟨p455, k456, c457, p458, k459, Sv460, (hs.wk rfl), (hw.ft [0, 1, 2, 3] [0, 1, 2] (by decide) rfl rfl)⟩
   ·rintro a w ⟨p492, k493, c494, p495, k496, Sv497, hs, hw⟩
    refine then_normal ?_
    refine wp_seq ?_
    refine wp_seq ?_
    refine wp_region_lit ?_
    refine st_val hs (y_move rfl) trivial rfl rfl fun a hs => ?_
    obtain ⟨rv552, h551, hsh⟩ := bind_t hsh
    refine st_callR hs (made_Dice_Next_ok h551 hw.dom (hw.ins [0] (by decide) rfl) (hw.envAt 0 rfl)) (do_call Try.call15 rfl) trivial rfl rfl ?_
    intro v559 Sv556 w a h557 h558 hs
    obtain ⟨p553, k554, rfl, h560, h555⟩ := h558
    have hw := hw.callO [0] [1, 2, 3] (by decide) rfl h557 h560
    have hw := hw.addE (e := SlA p553 rv552.2.L.length k554 rv552.2.L) h555
    refine st_val hs (y_eql rfl rfl) trivial rfl rfl fun a hs => ?_
    refine wpList_nil ?_
    refine then_normal ?_
    refine wp_join (fun a w => ∃ (x573 : (List Int)) (c569 : List Value) (p570 : Option Addr) (k571 : Nat) (Sv572 : Nat → Prop), made_Dice_Stage_j2 rv363 rv374 rv552 x573 = some r ∧ Sl 77 [(2, .pointer (some ⟨b6, 0, none⟩)), (3, .pointer (some ⟨b383, 0, none⟩))] a ∧ Wd ⟨w0, S0, blks [.box b2 [.slice p3 d1.L.length k4, .int .i64 d1.At] 75]⟩ Sv572 [.box b2 [.slice p553 rv552.2.L.length k554, .int .i64 rv552.2.At] 75, .box b6 [.int .i64 0, .int .i64 0, .int .i64 0, .int .i64 0, .int .i64 0, .int .i64 0, .int .i64 0, .slice none ([] : List Int).length 0, .int .i64 0, .int .i64 0] 45, .box b383 [.int .i64 2, .int .i64 0, .int .i64 0, .int .i64 0, .int .i64 0, .int .i64 0, .int .i64 0, .slice p570 x573.length k571, .int .i64 rv363.1, .int .i64 rv374.1] 45, .row p570 x573.length k571 c569 3 1] [SlA p553 rv552.2.L.length k554 rv552.2.L, SlA none ([] : List Int).length 0 ([] : List Int), RowA c569 x573] w) ?_ ?_
    ·refine wp_cond_split (hs.ev rfl) (fun h574 => ?_) (fun h574 => ?_)
     ·have hsh := ite_t hsh h574
      refine wp_region_lit ?_
      refine st_val hs (y_fieldAddr (o' := 7) Try.runUnderlying45 rfl Try.sizeOf22 rfl rfl rfl) trivial rfl rfl fun a hs => ?_
      refine st_val hs (y_loadB1 (hw.ownAt 2 rfl) rfl Try.isAgg22 rfl) trivial rfl rfl fun a hs => ?_
      refine w_litSlice (α := Int) (vs := [.int .i64 3]) (cs := [.int .i64 3]) (xs := ([3] : List Int)) hs hw El22 rfl rfl rfl rfl rfl rfl ⟨⟨_, rfl, rfl⟩, rfl⟩ rfl trivial rfl fun b576 a w hs hw => ?_
      obtain ⟨l578, h577, hsh⟩ := bind_t hsh
      refine w_appendR (α := Int) hs hw El22 4 rfl rfl rfl 4 rfl 0 rfl 0 rfl h577 rfl trivial ?_
      intro p579 k580 c581 a w hs hw
      refine st_val hs (y_fieldAddr (o' := 7) Try.runUnderlying45 rfl Try.sizeOf22 rfl rfl rfl) trivial rfl rfl fun a hs => ?_
      refine w_store (m := 1) (cs' := [.int .i64 2, .int .i64 0, .int .i64 0, .int .i64 0, .int .i64 0, .int .i64 0, .int .i64 0, .slice p579 l578.length k580, .int .i64 rv363.1, .int .i64 rv374.1]) hs hw 3 rfl rfl rfl Try.sizeOf22 rfl rfl rfl rfl trivial ?_
      intro a w hs hw
      refine wpList_nil ?_
      refine then_normal ?_
      exact ⟨l578, c581, p579, k580, Sv556, hsh, (hs.wk rfl), (hw.ft [1, 2, 3, 4] [2, 4, 0] (by decide) rfl rfl)⟩
     ·have hsh := ite_f hsh h574
      refine wp_skip ?_
      refine then_normal ?_
      exact ⟨e491.2.2, c494, p495, k496, Sv556, hsh, (hs.wk rfl), (hw.ft [0, 1, 2, 3] [0, 2, 3] (by decide) rfl rfl)⟩
    ·rintro a w ⟨x573, c569, p570, k571, Sv572, hsh, hs, hw⟩
     delta made_Dice_Stage_j2 at hsh
     refine then_normal ?_
     refine wp_seq ?_
     refine wp_region_lit ?_
     refine st_val hs (y_loadBA (hw.ownAt 2 rfl) rfl Try.isAgg45 Try.sizeOf45 rfl rfl) trivial rfl rfl fun a hs => ?_
     refine w_store (m := 10) (cs' := [.int .i64 2, .int .i64 0, .int .i64 0, .int .i64 0, .int .i64 0, .int .i64 0, .int .i64 0, .slice p570 x573.length k571, .int .i64 rv363.1, .int .i64 rv374.1]) hs hw 1 rfl rfl rfl Try.sizeOf45 rfl rfl rfl rfl trivial ?_
     intro a w hs hw
     refine wpList_nil ?_
     refine then_normal ?_
     have hsh := Option.some.inj hsh
     subst hsh
     refine wp_ret ?_
     exact ret1 hs rfl (rv_cell hw 1 rfl rfl Try.isAgg45 Try.sizeOf45 rfl) (hw.ret ⟨p570, k571, c569, p553, k554, rfl, (hw.outs [3, 0] (by decide) rfl), (hw.envAt 2 rfl), (hw.envAt 0 rfl)⟩)

abbrev response_in_rd (w0 : World) (X : List Nat) (r : Bool) : (Nat → Prop) → World → Value → Prop := fun S w v => v = .bool r
set_option maxHeartbeats 4000000 in
set_option maxRecDepth 100000 in
theorem response_in_ok {w0 : World} {S0 : Nat → Prop} {n1 : Int} {low2 : Int} {high3 : Int} {r : Bool} (hsh : response_in n1 low2 high3 = some r) (hS : ∀ b, S0 b → b < w0.heap.size) : Calls Try.prog 59 #[.int .i64 n1, .int .i64 low2, .int .i64 high3] w0 (Ret ([]) w0 S0 (response_in_rd w0 ([]) r)) := by
 refine calls_of_wp Try.func59 rfl ?_
 have hs := Sl.enter #[.int .i64 n1, .int .i64 low2, .int .i64 high3] 15 [(0, .int .i64 n1), (1, .int .i64 low2), (2, .int .i64 high3)] rfl ⟨rfl, rfl, rfl, trivial⟩
 have hw := Wd.enter (E := []) hS (fun _ h => (by cases h))
 delta response_in at hsh
 refine wp_seq ?_
 refine wp_region_lit ?_
 refine st_val hs (y_assign rfl) trivial rfl rfl fun a hs => ?_
 refine wpList_nil ?_
 refine then_normal ?_
 refine wp_seq ?_
 refine wp_region_lit ?_
 refine st_val hs (y_move rfl) trivial rfl rfl fun a hs => ?_
 refine st_val hs (y_move rfl) trivial rfl rfl fun a hs => ?_
 refine st_val hs (y_geq rfl rfl) trivial rfl rfl fun a hs => ?_
 refine st_val hs (y_move rfl) trivial rfl rfl fun a hs => ?_
 refine wpl_join 4 (fun a w1 => w0 = w1 ∧ Sl 15 [(14, .bool ((decide (low2 ≤ n1)) && (decide (n1 ≤ high3))))] a) ?_ ?_
 ·rcases Bool.eq_false_or_eq_true (decide (low2 ≤ n1)) with h4 | h4
  ·have hs := hs.fix 10 (.bool true) rfl (vb h4)
   refine st_val hs (y_move rfl) ⟨_, rfl, rfl⟩ rfl rfl fun a hs => ?_
   refine st_val hs (y_move rfl) ⟨_, rfl, rfl⟩ rfl rfl fun a hs => ?_
   refine st_val hs (y_leq rfl rfl) ⟨_, rfl, rfl⟩ rfl rfl fun a hs => ?_
   refine st_val hs (y_pickT rfl rfl) trivial rfl rfl fun a hs => ?_
   refine wpList_nil ?_
   refine then_normal ?_
   exact ⟨rfl, (hs.fix 14 (.bool ((decide (low2 ≤ n1)) && (decide (n1 ≤ high3)))) rfl (and_t h4)).weaken _ ⟨rfl, trivial⟩⟩
  ·have hs := hs.fix 10 (.bool false) rfl (vb h4)
   refine st_skip hs rfl rfl rfl rfl rfl fun a hs => ?_
   refine st_skip hs rfl rfl rfl rfl rfl fun a hs => ?_
   refine st_skip hs rfl rfl rfl rfl rfl fun a hs => ?_
   refine st_val hs (y_pickF rfl rfl) trivial rfl rfl fun a hs => ?_
   refine wpList_nil ?_
   refine then_normal ?_
   exact ⟨rfl, (hs.fix 14 (.bool ((decide (low2 ≤ n1)) && (decide (n1 ≤ high3)))) rfl (and_f h4)).weaken _ ⟨rfl, trivial⟩⟩
 ·rintro a w1 ⟨h5, hs⟩
  subst h5
  refine st_val hs (y_assign rfl) trivial rfl rfl fun a hs => ?_
  refine wpList_nil ?_
  refine then_normal ?_
  have hsh := Option.some.inj hsh
  subst hsh
  refine wp_ret ?_
  exact ret1 hs rfl (rv_tmp rfl) (hw.ret rfl)

abbrev response_terms_fn1_rd (w0 : World) (X : List Nat) (r : Bool) : (Nat → Prop) → World → Value → Prop := fun S w v => v = .bool r
set_option maxHeartbeats 4000000 in
set_option maxRecDepth 100000 in
theorem response_terms_fn1_ok {w0 : World} {S0 : Nat → Prop} {n1 : Int} {r : Bool} (hsh : response_terms_fn1 n1 = some r) (hS : ∀ b, S0 b → b < w0.heap.size) : Calls Try.prog 75 #[.int .i64 n1] w0 (Ret ([]) w0 S0 (response_terms_fn1_rd w0 ([]) r)) := by
 refine calls_of_wp Try.func75 rfl ?_
 have hs := Sl.enter #[.int .i64 n1] 6 [(0, .int .i64 n1)] rfl ⟨rfl, trivial⟩
 have hw := Wd.enter (E := []) hS (fun _ h => (by cases h))
 delta response_terms_fn1 at hsh
 refine wp_seq ?_
 refine wp_region_lit ?_
 refine st_val hs (y_assign rfl) trivial rfl rfl fun a hs => ?_
 refine wpList_nil ?_
 refine then_normal ?_
 refine wp_seq ?_
 refine wp_region_lit ?_
 refine st_val hs (y_move rfl) trivial rfl rfl fun a hs => ?_
 obtain ⟨rv3, h2, hsh⟩ := bind_t hsh
 refine st_callR hs (response_in_ok h2 hw.bdom) (do_call Try.call59 rfl) trivial rfl rfl ?_
 intro v7 Sv4 w a h5 h6 hs
 subst h6
 have hw := hw.callB h5
 refine st_val hs (y_not rfl) trivial rfl rfl fun a hs => ?_
 refine st_val hs (y_assign rfl) trivial rfl rfl fun a hs => ?_
 refine wpList_nil ?_
 refine then_normal ?_
 have hsh := Option.some.inj hsh
 subst hsh
 refine wp_ret ?_
 exact ret1 hs rfl (rv_tmp rfl) (hw.ret rfl)

theorem response_terms_fn1_fn (S0 : Nat → Prop) (w0 : World) : (FnA1 Try.prog 75 [] [] response_terms_fn1).p S0 w0 := by
  refine ⟨Try.call75, ?_⟩
  intro S1 w1 hk hS c0 x0 r1 h0 hf
  obtain ⟨_, rfl, rfl⟩ := h0
  exact response_terms_fn1_ok hf hS  

abbrev response_terms_rd (w0 : World) (X : List Nat) (r : Bool) : (Nat → Prop) → World → Value → Prop := fun S w v => v = .bool r
set_option maxHeartbeats 4000000 in
set_option maxRecDepth 100000 in
theorem response_terms_ok {w0 : World} {S0 : Nat → Prop} {p2 : Option Addr} {k3 : Nat} {l1 : (List Int)} {r : Bool} (hsh : response_terms l1 = some r) (hS : ∀ b, S0 b → b < w0.heap.size) (h4 : (SlA p2 l1.length k3 l1).p S0 w0) : Calls Try.prog 60 #[.slice p2 l1.length k3] w0 (Ret ([]) w0 S0 (response_terms_rd w0 ([]) r)) := by
 refine calls_of_wp Try.func60 rfl ?_
 have hs := Sl.enter #[.slice p2 l1.length k3] 6 [(0, .slice p2 l1.length k3)] rfl ⟨rfl, trivial⟩
 have hw := Wd.enter (E := []) hS (fun _ h => (by cases h))
 have hw := hw.addE h4
 delta response_terms at hsh
 refine wp_seq ?_
 refine wp_region_lit ?_
 refine st_val hs (y_assign rfl) trivial rfl rfl fun a hs => ?_
 refine wpList_nil ?_
 refine then_normal ?_
 refine wp_seq ?_
 refine wp_region_lit ?_
 refine st_val hs (y_move rfl) trivial rfl rfl fun a hs => ?_
 obtain ⟨rv6, h5, hsh⟩ := bind_t hsh
 refine st_callR hs (slices_ContainsFunc_Lint_int_ok h5 hw.bdom (hw.bE 0 rfl) (response_terms_fn1_fn _ _)) (do_call Try.call55 rfl) trivial rfl rfl ?_
 intro v10 Sv7 w a h8 h9 hs
 subst h9
 have hw := hw.callB h8
 refine st_val hs (y_not rfl) trivial rfl rfl fun a hs => ?_
 refine st_val hs (y_assign rfl) trivial rfl rfl fun a hs => ?_
 refine wpList_nil ?_
 refine then_normal ?_
 have hsh := Option.some.inj hsh
 subst hsh
 refine wp_ret ?_
 exact ret1 hs rfl (rv_tmp rfl) (hw.ret rfl)

abbrev response_sum_rd (w0 : World) (X : List Nat) (r : Int) : (Nat → Prop) → World → Value → Prop := fun S w v => v = .int .i64 r
set_option maxHeartbeats 4000000 in
set_option maxRecDepth 100000 in
theorem response_sum_ok {w0 : World} {S0 : Nat → Prop} {p2 : Option Addr} {k3 : Nat} {l1 : (List Int)} {r : Int} (hsh : response_sum l1 = some r) (hS : ∀ b, S0 b → b < w0.heap.size) (h4 : (SlA p2 l1.length k3 l1).p S0 w0) : Calls Try.prog 61 #[.slice p2 l1.length k3] w0 (Ret ([]) w0 S0 (response_sum_rd w0 ([]) r)) := by
 refine calls_of_wp Try.func61 rfl ?_
 have hs := Sl.enter #[.slice p2 l1.length k3] 17 [(0, .slice p2 l1.length k3)] rfl ⟨rfl, trivial⟩
 have hw := Wd.enter (E := []) hS (fun _ h => (by cases h))
 have hw := hw.addE h4
 delta response_sum at hsh
 refine wp_seq ?_
 refine wp_region_lit ?_
 refine st_val hs (y_assign rfl) trivial rfl rfl fun a hs => ?_
 refine wpList_nil ?_
 refine then_normal ?_
 refine wp_seq ?_
 refine wp_region_lit ?_
 refine st_val hs (y_assign rfl) trivial rfl rfl fun a hs => ?_
 refine wpList_nil ?_
 refine then_normal ?_
 refine wp_seq ?_
 refine wp_seq ?_
 refine wp_region_lit ?_
 refine st_val hs (y_move rfl) trivial rfl rfl fun a hs => ?_
 refine st_val hs (y_len Try.runUnderlying22 rfl) trivial rfl rfl fun a hs => ?_
 refine st_val hs (y_move rfl) trivial rfl rfl fun a hs => ?_
 refine wpList_nil ?_
 refine then_normal ?_
 obtain ⟨e59, h94, hsh⟩ := bind_t hsh
 refine wp_join (fun a w => ∃ (Sv60 : Nat → Prop), Sl 17 [(3, .int .i64 e59)] a ∧ Wd ⟨w0, S0, []⟩ Sv60 [] [] w) ?_ ?_
 ·refine wp_block ?_
  refine wp_while (fun sv5 a w => ∃ (Sv39 : Nat → Prop), Sl 17 [(3, .int .i64 sv5.1), (6, .slice p2 l1.length k3), (7, .int .i64 (l1.length : Int)), (8, .int .i64 sv5.2)] a ∧ Wd ⟨w0, S0, []⟩ Sv39 [] [SlA p2 l1.length k3 l1] w) (0, 0) h94 ⟨S0, (hs.wk rfl), (hw.ft [] [0] (by decide) rfl rfl)⟩ ?_
  clear h94
  repeat clear hsh
  rintro sv5 a w tv57 ⟨Sv39, hs, hw⟩ hsh hd56
  delta response_sum_l1 at hsh
  refine wp_seq ?_
  refine wp_region_lit ?_
  refine st_val hs (y_lss rfl rfl) trivial rfl rfl fun a hs => ?_
  refine wpList_nil ?_
  refine then_normal ?_
  refine wp_seq ?_
  refine wp_cond_split (hs.ev rfl) (fun h62 => ?_) (fun h62 => ?_)
  ·have hsh := ite_t hsh h62
   refine wp_skip ?_
   refine then_normal ?_
   refine wp_seq ?_
   refine wp_block ?_
   refine wp_seq ?_
   refine wp_region_lit ?_
   obtain ⟨x80, h78, hsh⟩ := bind_t hsh
   obtain ⟨b86, o87, q84, c85, h88, h81, h82, h83, h79⟩ := hw.elemV 0 rfl h78
   have hsv89 := hs
   have hwv90 := hw
   subst h88
   have hs := hsv89
   have hw := hwv90
   obtain ⟨_, rfl, rfl⟩ := h79
   have hw := hw.addE h83
   refine st_val hs (y_indexAt Try.runUnderlying22 Try.sizeOf3 rfl rfl h81.1 h81.2 h82) trivial rfl rfl fun a hs => ?_
   refine st_val hs (y_loadE1 (j := 0) (hw.ceAt 0 rfl) rfl Try.isAgg3 rfl) trivial rfl rfl fun a hs => ?_
   refine st_val hs (y_assign rfl) trivial rfl rfl fun a hs => ?_
   refine wpList_nil ?_
   refine then_normal ?_
   refine wp_region_lit ?_
   refine st_val hs (y_move rfl) trivial rfl rfl fun a hs => ?_
   refine st_val hs (y_move rfl) trivial rfl rfl fun a hs => ?_
   refine st_val hs (y_add rfl rfl) trivial rfl rfl fun a hs => ?_
   obtain ⟨n92, h91, hsh⟩ := bind_t hsh
   refine st_val hs (y_assignI rfl h91) trivial rfl rfl fun a hs => ?_
   refine wpList_nil ?_
   refine blk_normal ?_
   refine then_normal ?_
   refine wp_region_lit ?_
   refine st_val hs (y_add rfl rfl) trivial rfl rfl fun a hs => ?_
   refine st_val hs (y_move rfl) trivial rfl rfl fun a hs => ?_
   refine wpList_nil ?_
   refine then_normal ?_
   exact ⟨_, (Option.some.inj hsh).symm, Sv39, (hs.wk rfl), (hw.ft [] [1] (by decide) rfl rfl)⟩
  ·have hsh := ite_f hsh h62
   refine wp_exit ?_
   refine then_exit ?_
   refine then_exit ?_
   refine blk_exit ?_
   have hsh := Option.some.inj hsh
   subst hsh
   have h93 := hd56 _ rfl
   subst h93
   refine then_normal ?_
   exact ⟨Sv39, (hs.wk rfl), (hw.ft [] [] (by decide) rfl rfl)⟩
 ·rintro a w ⟨Sv60, hs, hw⟩
  refine then_normal ?_
  refine wp_seq ?_
  refine wp_region_lit ?_
  refine st_val hs (y_move rfl) trivial rfl rfl fun a hs => ?_
  refine st_val hs (y_assign rfl) trivial rfl rfl fun a hs => ?_
  refine wpList_nil ?_
  refine then_normal ?_
  have hsh := Option.some.inj hsh
  subst hsh
  refine wp_ret ?_
  exact ret1 hs rfl (rv_tmp rfl) (hw.ret rfl)

abbrev response_ValidStage_rd (w0 : World) (X : List Nat) (r : Bool) : (Nat → Prop) → World → Value → Prop := fun S w v => v = .bool r
set_option maxHeartbeats 4000000 in
set_option maxRecDepth 100000 in
theorem response_ValidStage_ok {w0 : World} {S0 : Nat → Prop} {p2 : Option Addr} {k3 : Nat} {s1 : Stage} {r : Bool} (hsh : response_ValidStage s1 = some r) (hS : ∀ b, S0 b → b < w0.heap.size) (h4 : (SlA p2 s1.Taps.length k3 s1.Taps).p S0 w0) : Calls Try.prog 44 #[.agg #[.int .i64 s1.Kind, .int .i64 s1.Num.e0, .int .i64 s1.Num.e1, .int .i64 s1.Num.e2, .int .i64 s1.Den.e0, .int .i64 s1.Den.e1, .int .i64 s1.Den.e2, .slice p2 s1.Taps.length k3, .int .i64 s1.Factor, .int .i64 s1.Shift]] w0 (Ret ([]) w0 S0 (response_ValidStage_rd w0 ([]) r)) := by
 refine calls_of_wp Try.func44 rfl ?_
 have hs := Sl.enter #[.agg #[.int .i64 s1.Kind, .int .i64 s1.Num.e0, .int .i64 s1.Num.e1, .int .i64 s1.Num.e2, .int .i64 s1.Den.e0, .int .i64 s1.Den.e1, .int .i64 s1.Den.e2, .slice p2 s1.Taps.length k3, .int .i64 s1.Factor, .int .i64 s1.Shift]] 111 [(0, .agg #[.int .i64 s1.Kind, .int .i64 s1.Num.e0, .int .i64 s1.Num.e1, .int .i64 s1.Num.e2, .int .i64 s1.Den.e0, .int .i64 s1.Den.e1, .int .i64 s1.Den.e2, .slice p2 s1.Taps.length k3, .int .i64 s1.Factor, .int .i64 s1.Shift])] rfl ⟨rfl, trivial⟩
 have hw := Wd.enter (E := []) hS (fun _ h => (by cases h))
 have hw := hw.addE h4
 delta response_ValidStage at hsh
 refine wp_seq ?_
 refine wp_region_lit ?_
 refine w_box (cs := [.int .i64 s1.Kind, .int .i64 s1.Num.e0, .int .i64 s1.Num.e1, .int .i64 s1.Num.e2, .int .i64 s1.Den.e0, .int .i64 s1.Den.e1, .int .i64 s1.Den.e2, .slice p2 s1.Taps.length k3, .int .i64 s1.Factor, .int .i64 s1.Shift]) hs hw rfl rfl rfl trivial ?_
 intro b5 a w hs hw
 refine st_val hs (y_assign rfl) trivial rfl rfl fun a hs => ?_
 refine wpList_nil ?_
 refine then_normal ?_
 refine wp_seq ?_
 refine wp_region_lit ?_
 refine st_val hs (y_fieldAddr (o' := 7) Try.runUnderlying45 rfl Try.sizeOf22 rfl rfl rfl) trivial rfl rfl fun a hs => ?_
 refine st_val hs (y_loadB1 (hw.ownAt 0 rfl) rfl Try.isAgg22 rfl) trivial rfl rfl fun a hs => ?_
 refine st_val hs (y_len Try.runUnderlying22 rfl) trivial rfl rfl fun a hs => ?_
 refine st_val hs (y_eql rfl rfl) trivial rfl rfl fun a hs => ?_
 refine st_val hs (y_move rfl) trivial rfl rfl fun a hs => ?_
 refine wpl_join 4 (fun a w1 => w = w1 ∧ Sl 111 [(1, .pointer (some ⟨b5, 0, none⟩)), (12, .bool (((s1.Taps.length : Int) == 0) && (s1.Factor == 0)))] a) ?_ ?_
 ·rcases Bool.eq_false_or_eq_true ((s1.Taps.length : Int) == 0) with h6 | h6
  ·have hs := hs.fix 8 (.bool true) rfl (vb h6)
   refine st_val hs (y_fieldAddr (o' := 8) Try.runUnderlying45 rfl Try.sizeOf3 rfl rfl rfl) ⟨_, rfl, rfl⟩ rfl rfl fun a hs => ?_
   refine st_val hs (y_loadB1 (hw.ownAt 0 rfl) rfl Try.isAgg3 rfl) ⟨_, rfl, rfl⟩ rfl rfl fun a hs => ?_
   refine st_val hs (y_eql rfl rfl) ⟨_, rfl, rfl⟩ rfl rfl fun a hs => ?_
   refine st_val hs (y_pickT rfl rfl) trivial rfl rfl fun a hs => ?_
   refine wpList_nil ?_
   refine then_normal ?_
   exact ⟨rfl, (hs.fix 12 (.bool (((s1.Taps.length : Int) == 0) && (s1.Factor == 0))) rfl (and_t h6)).weaken _ ⟨rfl, rfl, trivial⟩⟩
  ·have hs := hs.fix 8 (.bool false) rfl (vb h6)
   refine st_skip hs rfl rfl rfl rfl rfl fun a hs => ?_
   refine st_skip hs rfl rfl rfl rfl rfl fun a hs => ?_
   refine st_skip hs rfl rfl rfl rfl rfl fun a hs => ?_
   refine st_val hs (y_pickF rfl rfl) trivial rfl rfl fun a hs => ?_
   refine wpList_nil ?_
   refine then_normal ?_
   exact ⟨rfl, (hs.fix 12 (.bool (((s1.Taps.length : Int) == 0) && (s1.Factor == 0))) rfl (and_f h6)).weaken _ ⟨rfl, rfl, trivial⟩⟩
 ·rintro a w1 ⟨h726, hs⟩
  subst h726
  refine st_val hs (y_move rfl) trivial rfl rfl fun a hs => ?_
  refine wpl_join 4 (fun a w1 => w = w1 ∧ Sl 111 [(1, .pointer (some ⟨b5, 0, none⟩)), (17, .bool ((((s1.Taps.length : Int) == 0) && (s1.Factor == 0)) && (s1.Shift == 0)))] a) ?_ ?_
  ·rcases Bool.eq_false_or_eq_true (((s1.Taps.length : Int) == 0) && (s1.Factor == 0)) with h7 | h7
   ·have hs := hs.fix 13 (.bool true) rfl (vb h7)
    refine st_val hs (y_fieldAddr (o' := 9) Try.runUnderlying45 rfl Try.sizeOf3 rfl rfl rfl) ⟨_, rfl, rfl⟩ rfl rfl fun a hs => ?_
    refine st_val hs (y_loadB1 (hw.ownAt 0 rfl) rfl Try.isAgg3 rfl) ⟨_, rfl, rfl⟩ rfl rfl fun a hs => ?_
    refine st_val hs (y_eql rfl rfl) ⟨_, rfl, rfl⟩ rfl rfl fun a hs => ?_
    refine st_val hs (y_pickT rfl rfl) trivial rfl rfl fun a hs => ?_
    refine wpList_nil ?_
    refine then_normal ?_
    exact ⟨rfl, (hs.fix 17 (.bool ((((s1.Taps.length : Int) == 0) && (s1.Factor == 0)) && (s1.Shift == 0))) rfl (and_t h7)).weaken _ ⟨rfl, rfl, trivial⟩⟩
   ·have hs := hs.fix 13 (.bool false) rfl (vb h7)
    refine st_skip hs rfl rfl rfl rfl rfl fun a hs => ?_
    refine st_skip hs rfl rfl rfl rfl rfl fun a hs => ?_
    refine st_skip hs rfl rfl rfl rfl rfl fun a hs => ?_
    refine st_val hs (y_pickF rfl rfl) trivial rfl rfl fun a hs => ?_
    refine wpList_nil ?_
    refine then_normal ?_
    exact ⟨rfl, (hs.fix 17 (.bool ((((s1.Taps.length : Int) == 0) && (s1.Factor == 0)) && (s1.Shift == 0))) rfl (and_f h7)).weaken _ ⟨rfl, rfl, trivial⟩⟩
  ·rintro a w1 ⟨h725, hs⟩
   subst h725
   refine st_val hs (y_assign rfl) trivial rfl rfl fun a hs => ?_
   refine wpList_nil ?_
   refine then_normal ?_
   refine wp_seq ?_
   refine wp_seq ?_
   refine wp_region_lit ?_
   refine st_val hs (y_fieldAddr (o' := 0) Try.runUnderlying45 rfl Try.sizeOf3 rfl rfl rfl) trivial rfl rfl fun a hs => ?_
   refine st_val hs (y_loadB1 (hw.ownAt 0 rfl) rfl Try.isAgg3 rfl) trivial rfl rfl fun a hs => ?_
   refine wpList_nil ?_
   refine then_normal ?_
   refine wp_block ?_
   refine wp_seq ?_
   refine wp_region_lit ?_
   refine st_val hs (y_eql rfl rfl) trivial rfl rfl fun a hs => ?_
   refine st_val hs (y_assign rfl) trivial rfl rfl fun a hs => ?_
   refine wpList_nil ?_
   refine then_normal ?_
   refine wp_cond_split (hs.ev rfl) (fun h342 => ?_) (fun h342 => ?_)
   ·have hsh := ite_t hsh h342
    refine wp_seq ?_
    refine wp_region_lit ?_
    refine st_val hs (y_move rfl) trivial rfl rfl fun a hs => ?_
    refine st_val hs (y_move rfl) trivial rfl rfl fun a hs => ?_
    refine wpl_join 8 (fun a w1 => w = w1 ∧ Sl 111 [(1, .pointer (some ⟨b5, 0, none⟩)), (31, .bool (((((s1.Taps.length : Int) == 0) && (s1.Factor == 0)) && (s1.Shift == 0)) && ((s1.Num.e0 == s1.Num.e0) && ((s1.Num.e1 == 0) && ((s1.Num.e2 == 0) && true)))))] a) ?_ ?_
    ·rcases Bool.eq_false_or_eq_true ((((s1.Taps.length : Int) == 0) && (s1.Factor == 0)) && (s1.Shift == 0)) with h343 | h343
     ·have hs := hs.fix 23 (.bool true) rfl (vb h343)
      refine st_val hs (y_fieldAddr (o' := 1) Try.runUnderlying45 rfl Try.sizeOf43 rfl rfl rfl) ⟨_, rfl, rfl⟩ rfl rfl fun a hs => ?_
      refine st_val hs (y_loadBA (hw.ownAt 0 rfl) rfl Try.isAgg43 Try.sizeOf43 rfl rfl) ⟨_, rfl, rfl⟩ rfl rfl fun a hs => ?_
      refine st_val hs (y_fieldAddr (o' := 1) Try.runUnderlying45 rfl Try.sizeOf43 rfl rfl rfl) ⟨_, rfl, rfl⟩ rfl rfl fun a hs => ?_
      refine st_val hs (y_indexAtA (q := 1) Try.runUnderlying43 Try.sizeOf3 rfl rfl (by decide) (by decide) rfl) ⟨_, rfl, rfl⟩ rfl rfl fun a hs => ?_
      refine st_val hs (y_loadB1 (hw.ownAt 0 rfl) rfl Try.isAgg3 rfl) ⟨_, rfl, rfl⟩ rfl rfl fun a hs => ?_
      refine st_val hs (y_build (vs := [(0, .int .i64 s1.Num.e0)]) Bld43 rfl rfl) ⟨_, rfl, rfl⟩ rfl rfl fun a hs => ?_
      refine st_val hs (y_eqlA (by kernel_rfl) rfl rfl (eqv_array Try.runUnderlying43 Try.sizeOf3 (EqA.cons1 Try.isAgg3 rfl rfl (eqv_int Try.runUnderlying3) (EqA.cons1 Try.isAgg3 rfl rfl (eqv_int Try.runUnderlying3) (EqA.cons1 Try.isAgg3 rfl rfl (eqv_int Try.runUnderlying3) EqA.nil))))) ⟨_, rfl, rfl⟩ rfl rfl fun a hs => ?_
      refine st_val hs (y_pickT rfl rfl) trivial rfl rfl fun a hs => ?_
      refine wpList_nil ?_
      refine then_normal ?_
      exact ⟨rfl, (hs.fix 31 (.bool (((((s1.Taps.length : Int) == 0) && (s1.Factor == 0)) && (s1.Shift == 0)) && ((s1.Num.e0 == s1.Num.e0) && ((s1.Num.e1 == 0) && ((s1.Num.e2 == 0) && true))))) rfl (and_t h343)).weaken _ ⟨rfl, rfl, trivial⟩⟩
     ·have hs := hs.fix 23 (.bool false) rfl (vb h343)
      refine st_skip hs rfl rfl rfl rfl rfl fun a hs => ?_
      refine st_skip hs rfl rfl rfl rfl rfl fun a hs => ?_
      refine st_skip hs rfl rfl rfl rfl rfl fun a hs => ?_
      refine st_skip hs rfl rfl rfl rfl rfl fun a hs => ?_
      refine st_skip hs rfl rfl rfl rfl rfl fun a hs => ?_
      refine st_skip hs rfl rfl rfl rfl rfl fun a hs => ?_
      refine st_skip hs rfl rfl rfl rfl rfl fun a hs => ?_
      refine st_val hs (y_pickF rfl rfl) trivial rfl rfl fun a hs => ?_
      refine wpList_nil ?_
      refine then_normal ?_
      exact ⟨rfl, (hs.fix 31 (.bool (((((s1.Taps.length : Int) == 0) && (s1.Factor == 0)) && (s1.Shift == 0)) && ((s1.Num.e0 == s1.Num.e0) && ((s1.Num.e1 == 0) && ((s1.Num.e2 == 0) && true))))) rfl (and_f h343)).weaken _ ⟨rfl, rfl, trivial⟩⟩
    ·rintro a w1 ⟨h380, hs⟩
     subst h380
     refine st_val hs (y_move rfl) trivial rfl rfl fun a hs => ?_
     refine wpl_join 8 (fun a w1 => w = w1 ∧ Sl 111 [(1, .pointer (some ⟨b5, 0, none⟩)), (40, .bool ((((((s1.Taps.length : Int) == 0) && (s1.Factor == 0)) && (s1.Shift == 0)) && ((s1.Num.e0 == s1.Num.e0) && ((s1.Num.e1 == 0) && ((s1.Num.e2 == 0) && true)))) && ((s1.Den.e0 == s1.Den.e0) && ((s1.Den.e1 == 0) && ((s1.Den.e2 == 0) && true)))))] a) ?_ ?_
     ·rcases Bool.eq_false_or_eq_true (((((s1.Taps.length : Int) == 0) && (s1.Factor == 0)) && (s1.Shift == 0)) && ((s1.Num.e0 == s1.Num.e0) && ((s1.Num.e1 == 0) && ((s1.Num.e2 == 0) && true)))) with h344 | h344
      ·have hs := hs.fix 32 (.bool true) rfl (vb h344)
       refine st_val hs (y_fieldAddr (o' := 4) Try.runUnderlying45 rfl Try.sizeOf43 rfl rfl rfl) ⟨_, rfl, rfl⟩ rfl rfl fun a hs => ?_
       refine st_val hs (y_loadBA (hw.ownAt 0 rfl) rfl Try.isAgg43 Try.sizeOf43 rfl rfl) ⟨_, rfl, rfl⟩ rfl rfl fun a hs => ?_
       refine st_val hs (y_fieldAddr (o' := 4) Try.runUnderlying45 rfl Try.sizeOf43 rfl rfl rfl) ⟨_, rfl, rfl⟩ rfl rfl fun a hs => ?_
       refine st_val hs (y_indexAtA (q := 4) Try.runUnderlying43 Try.sizeOf3 rfl rfl (by decide) (by decide) rfl) ⟨_, rfl, rfl⟩ rfl rfl fun a hs => ?_
       refine st_val hs (y_loadB1 (hw.ownAt 0 rfl) rfl Try.isAgg3 rfl) ⟨_, rfl, rfl⟩ rfl rfl fun a hs => ?_
       refine st_val hs (y_build (vs := [(0, .int .i64 s1.Den.e0)]) Bld43 rfl rfl) ⟨_, rfl, rfl⟩ rfl rfl fun a hs => ?_
       refine st_val hs (y_eqlA (by kernel_rfl) rfl rfl (eqv_array Try.runUnderlying43 Try.sizeOf3 (EqA.cons1 Try.isAgg3 rfl rfl (eqv_int Try.runUnderlying3) (EqA.cons1 Try.isAgg3 rfl rfl (eqv_int Try.runUnderlying3) (EqA.cons1 Try.isAgg3 rfl rfl (eqv_int Try.runUnderlying3) EqA.nil))))) ⟨_, rfl, rfl⟩ rfl rfl fun a hs => ?_
       refine st_val hs (y_pickT rfl rfl) trivial rfl rfl fun a hs => ?_
       refine wpList_nil ?_
       refine then_normal ?_
       exact ⟨rfl, (hs.fix 40 (.bool ((((((s1.Taps.length : Int) == 0) && (s1.Factor == 0)) && (s1.Shift == 0)) && ((s1.Num.e0 == s1.Num.e0) && ((s1.Num.e1 == 0) && ((s1.Num.e2 == 0) && true)))) && ((s1.Den.e0 == s1.Den.e0) && ((s1.Den.e1 == 0) && ((s1.Den.e2 == 0) && true))))) rfl (and_t h344)).weaken _ ⟨rfl, rfl, trivial⟩⟩
      ·have hs := hs.fix 32 (.bool false) rfl (vb h344)
       refine st_skip hs rfl rfl rfl rfl rfl fun a hs => ?_
       refine st_skip hs rfl rfl rfl rfl rfl fun a hs => ?_
       refine st_skip hs rfl rfl rfl rfl rfl fun a hs => ?_
       refine st_skip hs rfl rfl rfl rfl rfl fun a hs => ?_
       refine st_skip hs rfl rfl rfl rfl rfl fun a hs => ?_
       refine st_skip hs rfl rfl rfl rfl rfl fun a hs => ?_
       refine st_skip hs rfl rfl rfl rfl rfl fun a hs => ?_
       refine st_val hs (y_pickF rfl rfl) trivial rfl rfl fun a hs => ?_
       refine wpList_nil ?_
       refine then_normal ?_
       exact ⟨rfl, (hs.fix 40 (.bool ((((((s1.Taps.length : Int) == 0) && (s1.Factor == 0)) && (s1.Shift == 0)) && ((s1.Num.e0 == s1.Num.e0) && ((s1.Num.e1 == 0) && ((s1.Num.e2 == 0) && true)))) && ((s1.Den.e0 == s1.Den.e0) && ((s1.Den.e1 == 0) && ((s1.Den.e2 == 0) && true))))) rfl (and_f h344)).weaken _ ⟨rfl, rfl, trivial⟩⟩
     ·rintro a w1 ⟨h379, hs⟩
      subst h379
      refine st_val hs (y_move rfl) trivial rfl rfl fun a hs => ?_
      obtain ⟨c353, hc353, hsh⟩ := bind_t hsh
      refine wpl_join 5 (fun a w => ∃ (Sv354 : Nat → Prop), Sl 111 [(1, .pointer (some ⟨b5, 0, none⟩)), (46, .bool c353)] a ∧ Wd ⟨w0, S0, []⟩ Sv354 [.box b5 [.int .i64 s1.Kind, .int .i64 s1.Num.e0, .int .i64 s1.Num.e1, .int .i64 s1.Num.e2, .int .i64 s1.Den.e0, .int .i64 s1.Den.e1, .int .i64 s1.Den.e2, .slice p2 s1.Taps.length k3, .int .i64 s1.Factor, .int .i64 s1.Shift] 45] [SlA p2 s1.Taps.length k3 s1.Taps] w) ?_ ?_
      ·rcases Bool.eq_false_or_eq_true ((((((s1.Taps.length : Int) == 0) && (s1.Factor == 0)) && (s1.Shift == 0)) && ((s1.Num.e0 == s1.Num.e0) && ((s1.Num.e1 == 0) && ((s1.Num.e2 == 0) && true)))) && ((s1.Den.e0 == s1.Den.e0) && ((s1.Den.e1 == 0) && ((s1.Den.e2 == 0) && true)))) with h352 | h352
       ·have hs := hs.fix 41 (.bool true) rfl (vb h352)
        have hsh := ite_t hc353 h352
        refine st_val hs (y_fieldAddr (o' := 1) Try.runUnderlying45 rfl Try.sizeOf43 rfl rfl rfl) ⟨_, rfl, rfl⟩ rfl rfl fun a hs => ?_
        refine st_val hs (y_indexAtA (q := 1) Try.runUnderlying43 Try.sizeOf3 rfl rfl (by decide) (by decide) rfl) ⟨_, rfl, rfl⟩ rfl rfl fun a hs => ?_
        refine st_val hs (y_loadB1 (hw.ownAt 0 rfl) rfl Try.isAgg3 rfl) ⟨_, rfl, rfl⟩ rfl rfl fun a hs => ?_
        obtain ⟨rv356, h355, hsh⟩ := bind_t hsh
        refine st_callR hs (response_in_ok h355 hw.bdom) (do_call Try.call59 rfl) ⟨_, rfl, rfl⟩ rfl rfl ?_
        intro v360 Sv357 w a h358 h359 hs
        subst h359
        have hw := hw.callB h358
        refine st_val hs (y_pickT rfl rfl) trivial rfl rfl fun a hs => ?_
        refine wpList_nil ?_
        have hsh := Option.some.inj hsh
        subst hsh
        refine then_normal ?_
        exact ⟨S0, (hs.wk rfl), (hw.ft [0] [0] (by decide) rfl rfl)⟩
       ·have hs := hs.fix 41 (.bool false) rfl (vb h352)
        have hsh := ite_f hc353 h352
        refine st_skip hs rfl rfl rfl rfl rfl fun a hs => ?_
        refine st_skip hs rfl rfl rfl rfl rfl fun a hs => ?_
        refine st_skip hs rfl rfl rfl rfl rfl fun a hs => ?_
        refine st_skip hs rfl rfl rfl rfl rfl fun a hs => ?_
        refine st_val hs (y_pickF rfl rfl) trivial rfl rfl fun a hs => ?_
        refine wpList_nil ?_
        have hsh := Option.some.inj hsh
        subst hsh
        refine then_normal ?_
        exact ⟨S0, (hs.wk rfl), (hw.ft [0] [0] (by decide) rfl rfl)⟩
      ·rintro a w ⟨Sv354, hs, hw⟩
       refine st_val hs (y_move rfl) trivial rfl rfl fun a hs => ?_
       obtain ⟨c370, hc370, hsh⟩ := bind_t hsh
       refine wpl_join 5 (fun a w => ∃ (Sv371 : Nat → Prop), Sl 111 [(52, .bool c370)] a ∧ Wd ⟨w0, S0, []⟩ Sv371 [] [] w) ?_ ?_
       ·rcases Bool.eq_false_or_eq_true c353 with h369 | h369
        ·have hs := hs.fix 47 (.bool true) rfl (vb h369)
         have hsh := ite_t hc370 h369
         refine st_val hs (y_fieldAddr (o' := 4) Try.runUnderlying45 rfl Try.sizeOf43 rfl rfl rfl) ⟨_, rfl, rfl⟩ rfl rfl fun a hs => ?_
         refine st_val hs (y_indexAtA (q := 4) Try.runUnderlying43 Try.sizeOf3 rfl rfl (by decide) (by decide) rfl) ⟨_, rfl, rfl⟩ rfl rfl fun a hs => ?_
         refine st_val hs (y_loadB1 (hw.ownAt 0 rfl) rfl Try.isAgg3 rfl) ⟨_, rfl, rfl⟩ rfl rfl fun a hs => ?_
         obtain ⟨rv373, h372, hsh⟩ := bind_t hsh
         refine st_callR hs (response_in_ok h372 hw.bdom) (do_call Try.call59 rfl) ⟨_, rfl, rfl⟩ rfl rfl ?_
         intro v377 Sv374 w a h375 h376 hs
         subst h376
         have hw := hw.callB h375
         refine st_val hs (y_pickT rfl rfl) trivial rfl rfl fun a hs => ?_
         refine wpList_nil ?_
         have hsh := Option.some.inj hsh
         subst hsh
         refine then_normal ?_
         exact ⟨Sv354, (hs.wk rfl), (hw.ft [] [] (by decide) rfl rfl)⟩
        ·have hs := hs.fix 47 (.bool false) rfl (vb h369)
         have hsh := ite_f hc370 h369
         refine st_skip hs rfl rfl rfl rfl rfl fun a hs => ?_
         refine st_skip hs rfl rfl rfl rfl rfl fun a hs => ?_
         refine st_skip hs rfl rfl rfl rfl rfl fun a hs => ?_
         refine st_skip hs rfl rfl rfl rfl rfl fun a hs => ?_
         refine st_val hs (y_pickF rfl rfl) trivial rfl rfl fun a hs => ?_
         refine wpList_nil ?_
         have hsh := Option.some.inj hsh
         subst hsh
         refine then_normal ?_
         exact ⟨Sv354, (hs.wk rfl), (hw.ft [] [] (by decide) rfl rfl)⟩
       ·rintro a w ⟨Sv371, hs, hw⟩
        refine st_val hs (y_assign rfl) trivial rfl rfl fun a hs => ?_
        refine wpList_nil ?_
        refine then_normal ?_
        have hsh := Option.some.inj hsh
        subst hsh
        refine wp_ret ?_
        refine blk_ret ?_
        refine then_ret ?_
        exact ret1 hs rfl (rv_tmp rfl) (hw.ret rfl)
   ·have hsh := ite_f hsh h342
    refine wp_seq ?_
    refine wp_region_lit ?_
    refine st_val hs (y_eql rfl rfl) trivial rfl rfl fun a hs => ?_
    refine st_val hs (y_assign rfl) trivial rfl rfl fun a hs => ?_
    refine wpList_nil ?_
    refine then_normal ?_
    refine wp_cond_split (hs.ev rfl) (fun h509 => ?_) (fun h509 => ?_)
    ·have hsh := ite_t hsh h509
     refine wp_seq ?_
     refine wp_region_lit ?_
     refine st_val hs (y_move rfl) trivial rfl rfl fun a hs => ?_
     refine st_val hs (y_move rfl) trivial rfl rfl fun a hs => ?_
     obtain ⟨c519, hc519, hsh⟩ := bind_t hsh
     refine wpl_join 4 (fun a w => ∃ (Sv520 : Nat → Prop), Sl 111 [(1, .pointer (some ⟨b5, 0, none⟩)), (60, .bool c519)] a ∧ Wd ⟨w0, S0, []⟩ Sv520 [] [CeA b5 0 [.int .i64 s1.Kind, .int .i64 s1.Num.e0, .int .i64 s1.Num.e1, .int .i64 s1.Num.e2, .int .i64 s1.Den.e0, .int .i64 s1.Den.e1, .int .i64 s1.Den.e2, .slice p2 s1.Taps.length k3, .int .i64 s1.Factor, .int .i64 s1.Shift], SlA p2 s1.Taps.length k3 s1.Taps] w) ?_ ?_
     ·rcases Bool.eq_false_or_eq_true ((((s1.Taps.length : Int) == 0) && (s1.Factor == 0)) && (s1.Shift == 0)) with h518 | h518
      ·have hs := hs.fix 56 (.bool true) rfl (vb h518)
       have hsh := ite_t hc519 h518
       refine st_val hs (y_fieldAddr (o' := 1) Try.runUnderlying45 rfl Try.sizeOf43 rfl rfl rfl) ⟨_, rfl, rfl⟩ rfl rfl fun a hs => ?_
       obtain ⟨Sv521, hw⟩ := w_freeze hw 0 rfl
       have hw := hw.addE (e := SlA (α := Int) (some ⟨b5, 1, none⟩) ([s1.Num.e0, s1.Num.e1, s1.Num.e2] : List Int).length 3 ([s1.Num.e0, s1.Num.e1, s1.Num.e2] : List Int)) (arr_sl (o := 1) (hw.envAt 0 rfl) rfl ⟨⟨_, rfl, rfl⟩, ⟨⟨_, rfl, rfl⟩, ⟨⟨_, rfl, rfl⟩, rfl⟩⟩⟩)
       refine st_val hs (y_sliceArr Try.runUnderlying43 Try.sizeOf3 rfl rfl) ⟨_, rfl, rfl⟩ rfl rfl fun a hs => ?_
       obtain ⟨rv523, h522, hsh⟩ := bind_t hsh
       refine st_callR hs (response_terms_ok h522 hw.bdom (hw.bE 0 rfl)) (do_call Try.call60 rfl) ⟨_, rfl, rfl⟩ rfl rfl ?_
       intro v527 Sv524 w a h525 h526 hs
       subst h526
       have hw := hw.callB h525
       refine st_val hs (y_pickT rfl rfl) trivial rfl rfl fun a hs => ?_
       refine wpList_nil ?_
       have hsh := Option.some.inj hsh
       subst hsh
       refine then_normal ?_
       exact ⟨Sv521, (hs.wk rfl), (hw.ft [] [1, 2] (by decide) rfl rfl)⟩
      ·have hs := hs.fix 56 (.bool false) rfl (vb h518)
       have hsh := ite_f hc519 h518
       refine st_skip hs rfl rfl rfl rfl rfl fun a hs => ?_
       refine st_skip hs rfl rfl rfl rfl rfl fun a hs => ?_
       refine st_skip hs rfl rfl rfl rfl rfl fun a hs => ?_
       refine st_val hs (y_pickF rfl rfl) trivial rfl rfl fun a hs => ?_
       refine wpList_nil ?_
       obtain ⟨Sv529, hw⟩ := w_freeze hw 0 rfl
       have hsh := Option.some.inj hsh
       subst hsh
       refine then_normal ?_
       exact ⟨Sv529, (hs.wk rfl), (hw.ft [] [0, 1] (by decide) rfl rfl)⟩
     ·rintro a w ⟨Sv520, hs, hw⟩
      refine st_val hs (y_move rfl) trivial rfl rfl fun a hs => ?_
      obtain ⟨c538, hc538, hsh⟩ := bind_t hsh
      refine wpl_join 4 (fun a w => ∃ (Sv539 : Nat → Prop), Sl 111 [(1, .pointer (some ⟨b5, 0, none⟩)), (65, .bool c538)] a ∧ Wd ⟨w0, S0, []⟩ Sv539 [] [CeA b5 0 [.int .i64 s1.Kind, .int .i64 s1.Num.e0, .int .i64 s1.Num.e1, .int .i64 s1.Num.e2, .int .i64 s1.Den.e0, .int .i64 s1.Den.e1, .int .i64 s1.Den.e2, .slice p2 s1.Taps.length k3, .int .i64 s1.Factor, .int .i64 s1.Shift], SlA p2 s1.Taps.length k3 s1.Taps] w) ?_ ?_
      ·rcases Bool.eq_false_or_eq_true c519 with h537 | h537
       ·have hs := hs.fix 61 (.bool true) rfl (vb h537)
        have hsh := ite_t hc538 h537
        refine st_val hs (y_fieldAddr (o' := 4) Try.runUnderlying45 rfl Try.sizeOf43 rfl rfl rfl) ⟨_, rfl, rfl⟩ rfl rfl fun a hs => ?_
        have hw := hw.addE (e := SlA (α := Int) (some ⟨b5, 4, none⟩) ([s1.Den.e0, s1.Den.e1, s1.Den.e2] : List Int).length 3 ([s1.Den.e0, s1.Den.e1, s1.Den.e2] : List Int)) (arr_sl (o := 4) (hw.envAt 0 rfl) rfl ⟨⟨_, rfl, rfl⟩, ⟨⟨_, rfl, rfl⟩, ⟨⟨_, rfl, rfl⟩, rfl⟩⟩⟩)
        refine st_val hs (y_sliceArr Try.runUnderlying43 Try.sizeOf3 rfl rfl) ⟨_, rfl, rfl⟩ rfl rfl fun a hs => ?_
        obtain ⟨rv541, h540, hsh⟩ := bind_t hsh
        refine st_callR hs (response_terms_ok h540 hw.bdom (hw.bE 0 rfl)) (do_call Try.call60 rfl) ⟨_, rfl, rfl⟩ rfl rfl ?_
        intro v545 Sv542 w a h543 h544 hs
        subst h544
        have hw := hw.callB h543
        refine st_val hs (y_pickT rfl rfl) trivial rfl rfl fun a hs => ?_
        refine wpList_nil ?_
        have hsh := Option.some.inj hsh
        subst hsh
        refine then_normal ?_
        exact ⟨Sv520, (hs.wk rfl), (hw.ft [] [1, 2] (by decide) rfl rfl)⟩
       ·have hs := hs.fix 61 (.bool false) rfl (vb h537)
        have hsh := ite_f hc538 h537
        refine st_skip hs rfl rfl rfl rfl rfl fun a hs => ?_
        refine st_skip hs rfl rfl rfl rfl rfl fun a hs => ?_
        refine st_skip hs rfl rfl rfl rfl rfl fun a hs => ?_
        refine st_val hs (y_pickF rfl rfl) trivial rfl rfl fun a hs => ?_
        refine wpList_nil ?_
        have hsh := Option.some.inj hsh
        subst hsh
        refine then_normal ?_
        exact ⟨Sv520, (hs.wk rfl), (hw.ft [] [0, 1] (by decide) rfl rfl)⟩
      ·rintro a w ⟨Sv539, hs, hw⟩
       refine st_val hs (y_move rfl) trivial rfl rfl fun a hs => ?_
       refine wpl_join 5 (fun a w1 => w = w1 ∧ Sl 111 [(71, .bool (c538 && (s1.Den.e0 != 0)))] a) ?_ ?_
       ·rcases Bool.eq_false_or_eq_true c538 with h547 | h547
        ·have hs := hs.fix 66 (.bool true) rfl (vb h547)
         refine st_val hs (y_fieldAddr (o' := 4) Try.runUnderlying45 rfl Try.sizeOf43 rfl rfl rfl) ⟨_, rfl, rfl⟩ rfl rfl fun a hs => ?_
         refine st_val hs (y_indexAtA (q := 4) Try.runUnderlying43 Try.sizeOf3 rfl rfl (by decide) (by decide) rfl) ⟨_, rfl, rfl⟩ rfl rfl fun a hs => ?_
         refine st_val hs (y_loadE1 (j := 4) (hw.ceAt 0 rfl) rfl Try.isAgg3 rfl) ⟨_, rfl, rfl⟩ rfl rfl fun a hs => ?_
         refine st_val hs (y_neq rfl rfl) ⟨_, rfl, rfl⟩ rfl rfl fun a hs => ?_
         refine st_val hs (y_pickT rfl rfl) trivial rfl rfl fun a hs => ?_
         refine wpList_nil ?_
         refine then_normal ?_
         exact ⟨rfl, (hs.fix 71 (.bool (c538 && (s1.Den.e0 != 0))) rfl (and_t h547)).weaken _ ⟨rfl, trivial⟩⟩
        ·have hs := hs.fix 66 (.bool false) rfl (vb h547)
         refine st_skip hs rfl rfl rfl rfl rfl fun a hs => ?_
         refine st_skip hs rfl rfl rfl rfl rfl fun a hs => ?_
         refine st_skip hs rfl rfl rfl rfl rfl fun a hs => ?_
         refine st_skip hs rfl rfl rfl rfl rfl fun a hs => ?_
         refine st_val hs (y_pickF rfl rfl) trivial rfl rfl fun a hs => ?_
         refine wpList_nil ?_
         refine then_normal ?_
         exact ⟨rfl, (hs.fix 71 (.bool (c538 && (s1.Den.e0 != 0))) rfl (and_f h547)).weaken _ ⟨rfl, trivial⟩⟩
       ·rintro a w1 ⟨h548, hs⟩
        subst h548
        refine st_val hs (y_assign rfl) trivial rfl rfl fun a hs => ?_
        refine wpList_nil ?_
        refine then_normal ?_
        have hsh := Option.some.inj hsh
        subst hsh
        refine wp_ret ?_
        refine blk_ret ?_
        refine then_ret ?_
        exact ret1 hs rfl (rv_tmp rfl) (hw.ret rfl)
    ·have hsh := ite_f hsh h509
     refine wp_seq ?_
     refine wp_region_lit ?_
     refine st_val hs (y_eql rfl rfl) trivial rfl rfl fun a hs => ?_
     refine st_val hs (y_assign rfl) trivial rfl rfl fun a hs => ?_
     refine wpList_nil ?_
     refine then_normal ?_
     refine wp_cond_split (hs.ev rfl) (fun h637 => ?_) (fun h637 => ?_)
     ·have hsh := ite_t hsh h637
      refine wp_seq ?_
      refine wp_region_lit ?_
      refine st_val hs (y_fieldAddr (o' := 1) Try.runUnderlying45 rfl Try.sizeOf43 rfl rfl rfl) trivial rfl rfl fun a hs => ?_
      refine st_val hs (y_loadBA (hw.ownAt 0 rfl) rfl Try.isAgg43 Try.sizeOf43 rfl rfl) trivial rfl rfl fun a hs => ?_
      refine st_val hs (y_build (vs := []) Bld43 rfl rfl) trivial rfl rfl fun a hs => ?_
      refine st_val hs (y_eqlA (by kernel_rfl) rfl rfl (eqv_array Try.runUnderlying43 Try.sizeOf3 (EqA.cons1 Try.isAgg3 rfl rfl (eqv_int Try.runUnderlying3) (EqA.cons1 Try.isAgg3 rfl rfl (eqv_int Try.runUnderlying3) (EqA.cons1 Try.isAgg3 rfl rfl (eqv_int Try.runUnderlying3) EqA.nil))))) trivial rfl rfl fun a hs => ?_
      refine st_val hs (y_move rfl) trivial rfl rfl fun a hs => ?_
      refine wpl_join 5 (fun a w1 => w = w1 ∧ Sl 111 [(1, .pointer (some ⟨b5, 0, none⟩)), (83, .bool (((s1.Num.e0 == 0) && ((s1.Num.e1 == 0) && ((s1.Num.e2 == 0) && true))) && ((s1.Den.e0 == 0) && ((s1.Den.e1 == 0) && ((s1.Den.e2 == 0) && true)))))] a) ?_ ?_
      ·rcases Bool.eq_false_or_eq_true ((s1.Num.e0 == 0) && ((s1.Num.e1 == 0) && ((s1.Num.e2 == 0) && true))) with h638 | h638
       ·have hs := hs.fix 78 (.bool true) rfl (vb h638)
        refine st_val hs (y_fieldAddr (o' := 4) Try.runUnderlying45 rfl Try.sizeOf43 rfl rfl rfl) ⟨_, rfl, rfl⟩ rfl rfl fun a hs => ?_
        refine st_val hs (y_loadBA (hw.ownAt 0 rfl) rfl Try.isAgg43 Try.sizeOf43 rfl rfl) ⟨_, rfl, rfl⟩ rfl rfl fun a hs => ?_
        refine st_val hs (y_build (vs := []) Bld43 rfl rfl) ⟨_, rfl, rfl⟩ rfl rfl fun a hs => ?_
        refine st_val hs (y_eqlA (by kernel_rfl) rfl rfl (eqv_array Try.runUnderlying43 Try.sizeOf3 (EqA.cons1 Try.isAgg3 rfl rfl (eqv_int Try.runUnderlying3) (EqA.cons1 Try.isAgg3 rfl rfl (eqv_int Try.runUnderlying3) (EqA.cons1 Try.isAgg3 rfl rfl (eqv_int Try.runUnderlying3) EqA.nil))))) ⟨_, rfl, rfl⟩ rfl rfl fun a hs => ?_
        refine st_val hs (y_pickT rfl rfl) trivial rfl rfl fun a hs => ?_
        refine wpList_nil ?_
        refine then_normal ?_
        exact ⟨rfl, (hs.fix 83 (.bool (((s1.Num.e0 == 0) && ((s1.Num.e1 == 0) && ((s1.Num.e2 == 0) && true))) && ((s1.Den.e0 == 0) && ((s1.Den.e1 == 0) && ((s1.Den.e2 == 0) && true))))) rfl (and_t h638)).weaken _ ⟨rfl, rfl, trivial⟩⟩
       ·have hs := hs.fix 78 (.bool false) rfl (vb h638)
        refine st_skip hs rfl rfl rfl rfl rfl fun a hs => ?_
        refine st_skip hs rfl rfl rfl rfl rfl fun a hs => ?_
        refine st_skip hs rfl rfl rfl rfl rfl fun a hs => ?_
        refine st_skip hs rfl rfl rfl rfl rfl fun a hs => ?_
        refine st_val hs (y_pickF rfl rfl) trivial rfl rfl fun a hs => ?_
        refine wpList_nil ?_
        refine then_normal ?_
        exact ⟨rfl, (hs.fix 83 (.bool (((s1.Num.e0 == 0) && ((s1.Num.e1 == 0) && ((s1.Num.e2 == 0) && true))) && ((s1.Den.e0 == 0) && ((s1.Den.e1 == 0) && ((s1.Den.e2 == 0) && true))))) rfl (and_f h638)).weaken _ ⟨rfl, rfl, trivial⟩⟩
      ·rintro a w1 ⟨h724, hs⟩
       subst h724
       refine st_val hs (y_move rfl) trivial rfl rfl fun a hs => ?_
       obtain ⟨c647, hc647, hsh⟩ := bind_t hsh
       refine wpl_join 5 (fun a w => ∃ (Sv648 : Nat → Prop), Sl 111 [(1, .pointer (some ⟨b5, 0, none⟩)), (89, .bool c647)] a ∧ Wd ⟨w0, S0, []⟩ Sv648 [.box b5 [.int .i64 s1.Kind, .int .i64 s1.Num.e0, .int .i64 s1.Num.e1, .int .i64 s1.Num.e2, .int .i64 s1.Den.e0, .int .i64 s1.Den.e1, .int .i64 s1.Den.e2, .slice p2 s1.Taps.length k3, .int .i64 s1.Factor, .int .i64 s1.Shift] 45] [SlA p2 s1.Taps.length k3 s1.Taps] w) ?_ ?_
       ·rcases Bool.eq_false_or_eq_true (((s1.Num.e0 == 0) && ((s1.Num.e1 == 0) && ((s1.Num.e2 == 0) && true))) && ((s1.Den.e0 == 0) && ((s1.Den.e1 == 0) && ((s1.Den.e2 == 0) && true)))) with h646 | h646
        ·have hs := hs.fix 84 (.bool true) rfl (vb h646)
         have hsh := ite_t hc647 h646
         refine st_val hs (y_fieldAddr (o' := 7) Try.runUnderlying45 rfl Try.sizeOf22 rfl rfl rfl) ⟨_, rfl, rfl⟩ rfl rfl fun a hs => ?_
         refine st_val hs (y_loadB1 (hw.ownAt 0 rfl) rfl Try.isAgg22 rfl) ⟨_, rfl, rfl⟩ rfl rfl fun a hs => ?_
         refine st_val hs (y_len Try.runUnderlying22 rfl) ⟨_, rfl, rfl⟩ rfl rfl fun a hs => ?_
         obtain ⟨rv650, h649, hsh⟩ := bind_t hsh
         refine st_callR hs (response_in_ok h649 hw.bdom) (do_call Try.call59 rfl) ⟨_, rfl, rfl⟩ rfl rfl ?_
         intro v654 Sv651 w a h652 h653 hs
         subst h653
         have hw := hw.callB h652
         refine st_val hs (y_pickT rfl rfl) trivial rfl rfl fun a hs => ?_
         refine wpList_nil ?_
         have hsh := Option.some.inj hsh
         subst hsh
         refine then_normal ?_
         exact ⟨S0, (hs.wk rfl), (hw.ft [0] [0] (by decide) rfl rfl)⟩
        ·have hs := hs.fix 84 (.bool false) rfl (vb h646)
         have hsh := ite_f hc647 h646
         refine st_skip hs rfl rfl rfl rfl rfl fun a hs => ?_
         refine st_skip hs rfl rfl rfl rfl rfl fun a hs => ?_
         refine st_skip hs rfl rfl rfl rfl rfl fun a hs => ?_
         refine st_skip hs rfl rfl rfl rfl rfl fun a hs => ?_
         refine st_val hs (y_pickF rfl rfl) trivial rfl rfl fun a hs => ?_
         refine wpList_nil ?_
         have hsh := Option.some.inj hsh
         subst hsh
         refine then_normal ?_
         exact ⟨S0, (hs.wk rfl), (hw.ft [0] [0] (by decide) rfl rfl)⟩
       ·rintro a w ⟨Sv648, hs, hw⟩
        refine st_val hs (y_move rfl) trivial rfl rfl fun a hs => ?_
        obtain ⟨c664, hc664, hsh⟩ := bind_t hsh
        refine wpl_join 4 (fun a w => ∃ (Sv665 : Nat → Prop), Sl 111 [(1, .pointer (some ⟨b5, 0, none⟩)), (94, .bool c664)] a ∧ Wd ⟨w0, S0, []⟩ Sv665 [.box b5 [.int .i64 s1.Kind, .int .i64 s1.Num.e0, .int .i64 s1.Num.e1, .int .i64 s1.Num.e2, .int .i64 s1.Den.e0, .int .i64 s1.Den.e1, .int .i64 s1.Den.e2, .slice p2 s1.Taps.length k3, .int .i64 s1.Factor, .int .i64 s1.Shift] 45] [SlA p2 s1.Taps.length k3 s1.Taps] w) ?_ ?_
        ·rcases Bool.eq_false_or_eq_true c647 with h663 | h663
         ·have hs := hs.fix 90 (.bool true) rfl (vb h663)
          have hsh := ite_t hc664 h663
          refine st_val hs (y_fieldAddr (o' := 7) Try.runUnderlying45 rfl Try.sizeOf22 rfl rfl rfl) ⟨_, rfl, rfl⟩ rfl rfl fun a hs => ?_
          refine st_val hs (y_loadB1 (hw.ownAt 0 rfl) rfl Try.isAgg22 rfl) ⟨_, rfl, rfl⟩ rfl rfl fun a hs => ?_
          obtain ⟨rv667, h666, hsh⟩ := bind_t hsh
          refine st_callR hs (response_terms_ok h666 hw.bdom (hw.bE 0 rfl)) (do_call Try.call60 rfl) ⟨_, rfl, rfl⟩ rfl rfl ?_
          intro v671 Sv668 w a h669 h670 hs
          subst h670
          have hw := hw.callB h669
          refine st_val hs (y_pickT rfl rfl) trivial rfl rfl fun a hs => ?_
          refine wpList_nil ?_
          have hsh := Option.some.inj hsh
          subst hsh
          refine then_normal ?_
          exact ⟨Sv648, (hs.wk rfl), (hw.ft [0] [0] (by decide) rfl rfl)⟩
         ·have hs := hs.fix 90 (.bool false) rfl (vb h663)
          have hsh := ite_f hc664 h663
          refine st_skip hs rfl rfl rfl rfl rfl fun a hs => ?_
          refine st_skip hs rfl rfl rfl rfl rfl fun a hs => ?_
          refine st_skip hs rfl rfl rfl rfl rfl fun a hs => ?_
          refine st_val hs (y_pickF rfl rfl) trivial rfl rfl fun a hs => ?_
          refine wpList_nil ?_
          have hsh := Option.some.inj hsh
          subst hsh
          refine then_normal ?_
          exact ⟨Sv648, (hs.wk rfl), (hw.ft [0] [0] (by decide) rfl rfl)⟩
        ·rintro a w ⟨Sv665, hs, hw⟩
         refine st_val hs (y_move rfl) trivial rfl rfl fun a hs => ?_
         obtain ⟨c681, hc681, hsh⟩ := bind_t hsh
         refine wpl_join 5 (fun a w => ∃ (Sv682 : Nat → Prop), Sl 111 [(1, .pointer (some ⟨b5, 0, none⟩)), (100, .bool c681)] a ∧ Wd ⟨w0, S0, []⟩ Sv682 [.box b5 [.int .i64 s1.Kind, .int .i64 s1.Num.e0, .int .i64 s1.Num.e1, .int .i64 s1.Num.e2, .int .i64 s1.Den.e0, .int .i64 s1.Den.e1, .int .i64 s1.Den.e2, .slice p2 s1.Taps.length k3, .int .i64 s1.Factor, .int .i64 s1.Shift] 45] [SlA p2 s1.Taps.length k3 s1.Taps] w) ?_ ?_
         ·rcases Bool.eq_false_or_eq_true c664 with h680 | h680
          ·have hs := hs.fix 95 (.bool true) rfl (vb h680)
           have hsh := ite_t hc681 h680
           refine st_val hs (y_fieldAddr (o' := 7) Try.runUnderlying45 rfl Try.sizeOf22 rfl rfl rfl) ⟨_, rfl, rfl⟩ rfl rfl fun a hs => ?_
           refine st_val hs (y_loadB1 (hw.ownAt 0 rfl) rfl Try.isAgg22 rfl) ⟨_, rfl, rfl⟩ rfl rfl fun a hs => ?_
           obtain ⟨rv684, h683, hsh⟩ := bind_t hsh
           refine st_callR hs (response_sum_ok h683 hw.bdom (hw.bE 0 rfl)) (do_call Try.call61 rfl) ⟨_, rfl, rfl⟩ rfl rfl ?_
           intro v688 Sv685 w a h686 h687 hs
           subst h687
           have hw := hw.callB h686
           refine st_val hs (y_neq rfl rfl) ⟨_, rfl, rfl⟩ rfl rfl fun a hs => ?_
           refine st_val hs (y_pickT rfl rfl) trivial rfl rfl fun a hs => ?_
           refine wpList_nil ?_
           have hsh := Option.some.inj hsh
           subst hsh
           refine then_normal ?_
           exact ⟨Sv665, (hs.wk rfl), (hw.ft [0] [0] (by decide) rfl rfl)⟩
          ·have hs := hs.fix 95 (.bool false) rfl (vb h680)
           have hsh := ite_f hc681 h680
           refine st_skip hs rfl rfl rfl rfl rfl fun a hs => ?_
           refine st_skip hs rfl rfl rfl rfl rfl fun a hs => ?_
           refine st_skip hs rfl rfl rfl rfl rfl fun a hs => ?_
           refine st_skip hs rfl rfl rfl rfl rfl fun a hs => ?_
           refine st_val hs (y_pickF rfl rfl) trivial rfl rfl fun a hs => ?_
           refine wpList_nil ?_
           have hsh := Option.some.inj hsh
           subst hsh
           refine then_normal ?_
           exact ⟨Sv665, (hs.wk rfl), (hw.ft [0] [0] (by decide) rfl rfl)⟩
         ·rintro a w ⟨Sv682, hs, hw⟩
          refine st_val hs (y_move rfl) trivial rfl rfl fun a hs => ?_
          obtain ⟨c698, hc698, hsh⟩ := bind_t hsh
          refine wpl_join 4 (fun a w => ∃ (Sv699 : Nat → Prop), Sl 111 [(1, .pointer (some ⟨b5, 0, none⟩)), (105, .bool c698)] a ∧ Wd ⟨w0, S0, []⟩ Sv699 [.box b5 [.int .i64 s1.Kind, .int .i64 s1.Num.e0, .int .i64 s1.Num.e1, .int .i64 s1.Num.e2, .int .i64 s1.Den.e0, .int .i64 s1.Den.e1, .int .i64 s1.Den.e2, .slice p2 s1.Taps.length k3, .int .i64 s1.Factor, .int .i64 s1.Shift] 45] [SlA p2 s1.Taps.length k3 s1.Taps] w) ?_ ?_
          ·rcases Bool.eq_false_or_eq_true c681 with h697 | h697
           ·have hs := hs.fix 101 (.bool true) rfl (vb h697)
            have hsh := ite_t hc698 h697
            refine st_val hs (y_fieldAddr (o' := 8) Try.runUnderlying45 rfl Try.sizeOf3 rfl rfl rfl) ⟨_, rfl, rfl⟩ rfl rfl fun a hs => ?_
            refine st_val hs (y_loadB1 (hw.ownAt 0 rfl) rfl Try.isAgg3 rfl) ⟨_, rfl, rfl⟩ rfl rfl fun a hs => ?_
            obtain ⟨rv701, h700, hsh⟩ := bind_t hsh
            refine st_callR hs (response_in_ok h700 hw.bdom) (do_call Try.call59 rfl) ⟨_, rfl, rfl⟩ rfl rfl ?_
            intro v705 Sv702 w a h703 h704 hs
            subst h704
            have hw := hw.callB h703
            refine st_val hs (y_pickT rfl rfl) trivial rfl rfl fun a hs => ?_
            refine wpList_nil ?_
            have hsh := Option.some.inj hsh
            subst hsh
            refine then_normal ?_
            exact ⟨Sv682, (hs.wk rfl), (hw.ft [0] [0] (by decide) rfl rfl)⟩
           ·have hs := hs.fix 101 (.bool false) rfl (vb h697)
            have hsh := ite_f hc698 h697
            refine st_skip hs rfl rfl rfl rfl rfl fun a hs => ?_
            refine st_skip hs rfl rfl rfl rfl rfl fun a hs => ?_
            refine st_skip hs rfl rfl rfl rfl rfl fun a hs => ?_
            refine st_val hs (y_pickF rfl rfl) trivial rfl rfl fun a hs => ?_
            refine wpList_nil ?_
            have hsh := Option.some.inj hsh
            subst hsh
            refine then_normal ?_
            exact ⟨Sv682, (hs.wk rfl), (hw.ft [0] [0] (by decide) rfl rfl)⟩
          ·rintro a w ⟨Sv699, hs, hw⟩
           refine st_val hs (y_move rfl) trivial rfl rfl fun a hs => ?_
           obtain ⟨c715, hc715, hsh⟩ := bind_t hsh
           refine wpl_join 4 (fun a w => ∃ (Sv716 : Nat → Prop), Sl 111 [(110, .bool c715)] a ∧ Wd ⟨w0, S0, []⟩ Sv716 [] [] w) ?_ ?_
           ·rcases Bool.eq_false_or_eq_true c698 with h714 | h714
            ·have hs := hs.fix 106 (.bool true) rfl (vb h714)
             have hsh := ite_t hc715 h714
             refine st_val hs (y_fieldAddr (o' := 9) Try.runUnderlying45 rfl Try.sizeOf3 rfl rfl rfl) ⟨_, rfl, rfl⟩ rfl rfl fun a hs => ?_
             refine st_val hs (y_loadB1 (hw.ownAt 0 rfl) rfl Try.isAgg3 rfl) ⟨_, rfl, rfl⟩ rfl rfl fun a hs => ?_
             obtain ⟨rv718, h717, hsh⟩ := bind_t hsh
             refine st_callR hs (response_in_ok h717 hw.bdom) (do_call Try.call59 rfl) ⟨_, rfl, rfl⟩ rfl rfl ?_
             intro v722 Sv719 w a h720 h721 hs
             subst h721
             have hw := hw.callB h720
             refine st_val hs (y_pickT rfl rfl) trivial rfl rfl fun a hs => ?_
             refine wpList_nil ?_
             have hsh := Option.some.inj hsh
             subst hsh
             refine then_normal ?_
             exact ⟨Sv699, (hs.wk rfl), (hw.ft [] [] (by decide) rfl rfl)⟩
            ·have hs := hs.fix 106 (.bool false) rfl (vb h714)
             have hsh := ite_f hc715 h714
             refine st_skip hs rfl rfl rfl rfl rfl fun a hs => ?_
             refine st_skip hs rfl rfl rfl rfl rfl fun a hs => ?_
             refine st_skip hs rfl rfl rfl rfl rfl fun a hs => ?_
             refine st_val hs (y_pickF rfl rfl) trivial rfl rfl fun a hs => ?_
             refine wpList_nil ?_
             have hsh := Option.some.inj hsh
             subst hsh
             refine then_normal ?_
             exact ⟨Sv699, (hs.wk rfl), (hw.ft [] [] (by decide) rfl rfl)⟩
           ·rintro a w ⟨Sv716, hs, hw⟩
            refine st_val hs (y_assign rfl) trivial rfl rfl fun a hs => ?_
            refine wpList_nil ?_
            refine then_normal ?_
            have hsh := Option.some.inj hsh
            subst hsh
            refine wp_ret ?_
            refine blk_ret ?_
            refine then_ret ?_
            exact ret1 hs rfl (rv_tmp rfl) (hw.ret rfl)
     ·have hsh := ite_f hsh h637
      refine wp_skip ?_
      refine blk_normal ?_
      refine then_normal ?_
      refine wp_seq ?_
      refine wp_region_lit ?_
      refine st_val hs (y_assign rfl) trivial rfl rfl fun a hs => ?_
      refine wpList_nil ?_
      refine then_normal ?_
      have hsh := Option.some.inj hsh
      subst hsh
      refine wp_ret ?_
      exact ret1 hs rfl (rv_tmp rfl) (hw.ret rfl)

abbrev filter_Stage_rd (w0 : World) (X : List Nat) (r : (Filter × Int)) : (Nat → Prop) → World → Value → Prop := fun S w v => ∃ (p0_0 : Option Addr) (k0_0 : Nat) (c0_0 : List Value), v = .tuple #[.agg #[.slice p0_0 r.1.Taps.length k0_0, .int .i64 r.1.Factor, .int .i64 r.1.Shift], .int .i64 r.2] ∧ Outs X w0 S w [.row p0_0 r.1.Taps.length k0_0 c0_0 3 1] ∧ (RowA c0_0 r.1.Taps).p S w
set_option maxHeartbeats 4000000 in
set_option maxRecDepth 100000 in
theorem filter_Stage_ok {w0 : World} {S0 : Nat → Prop} {p2 : Option Addr} {k3 : Nat} {s1 : Stage} {r : (Filter × Int)} (hsh : filter_Stage s1 = some r) (hS : ∀ b, S0 b → b < w0.heap.size) (h4 : (SlA p2 s1.Taps.length k3 s1.Taps).p S0 w0) : Calls Try.prog 22 #[.agg #[.int .i64 s1.Kind, .int .i64 s1.Num.e0, .int .i64 s1.Num.e1, .int .i64 s1.Num.e2, .int .i64 s1.Den.e0, .int .i64 s1.Den.e1, .int .i64 s1.Den.e2, .slice p2 s1.Taps.length k3, .int .i64 s1.Factor, .int .i64 s1.Shift]] w0 (Ret ([]) w0 S0 (filter_Stage_rd w0 ([]) r)) := by
 refine calls_of_wp Try.func22 rfl ?_
 have hs := Sl.enter #[.agg #[.int .i64 s1.Kind, .int .i64 s1.Num.e0, .int .i64 s1.Num.e1, .int .i64 s1.Num.e2, .int .i64 s1.Den.e0, .int .i64 s1.Den.e1, .int .i64 s1.Den.e2, .slice p2 s1.Taps.length k3, .int .i64 s1.Factor, .int .i64 s1.Shift]] 27 [(0, .agg #[.int .i64 s1.Kind, .int .i64 s1.Num.e0, .int .i64 s1.Num.e1, .int .i64 s1.Num.e2, .int .i64 s1.Den.e0, .int .i64 s1.Den.e1, .int .i64 s1.Den.e2, .slice p2 s1.Taps.length k3, .int .i64 s1.Factor, .int .i64 s1.Shift])] rfl ⟨rfl, trivial⟩
 have hw := Wd.enter (E := []) hS (fun _ h => (by cases h))
 have hw := hw.addE h4
 delta filter_Stage at hsh
 refine wp_seq ?_
 refine wp_region_lit ?_
 refine w_box (cs := [.int .i64 s1.Kind, .int .i64 s1.Num.e0, .int .i64 s1.Num.e1, .int .i64 s1.Num.e2, .int .i64 s1.Den.e0, .int .i64 s1.Den.e1, .int .i64 s1.Den.e2, .slice p2 s1.Taps.length k3, .int .i64 s1.Factor, .int .i64 s1.Shift]) hs hw rfl rfl rfl trivial ?_
 intro b5 a w hs hw
 refine w_alloc (cs := [.slice none ([] : List Int).length 0, .int .i64 0, .int .i64 0]) hs hw Try.zeroValue28 rfl rfl trivial ?_
 intro b6 a w hs hw
 refine st_val hs (y_assign rfl) trivial rfl rfl fun a hs => ?_
 refine wpList_nil ?_
 refine then_normal ?_
 refine wp_seq ?_
 refine wp_seq ?_
 refine wp_region_lit ?_
 refine st_val hs (y_loadBA (hw.ownAt 1 rfl) rfl Try.isAgg45 Try.sizeOf45 rfl rfl) trivial rfl rfl fun a hs => ?_
 obtain ⟨rv8, h7, hsh⟩ := bind_t hsh
 refine st_callR hs (response_ValidStage_ok h7 hw.bdom (hw.bE 0 rfl)) (do_call Try.call44 rfl) trivial rfl rfl ?_
 intro v12 Sv9 w a h10 h11 hs
 subst h11
 have hw := hw.callB h10
 refine st_val hs (y_not rfl) trivial rfl rfl fun a hs => ?_
 refine st_val hs (y_move rfl) trivial rfl rfl fun a hs => ?_
 refine wpl_join 4 (fun a w1 => w = w1 ∧ Sl 27 [(1, .pointer (some ⟨b5, 0, none⟩)), (2, .pointer (some ⟨b6, 0, none⟩)), (12, .bool ((!rv8) || (s1.Kind != 2)))] a) ?_ ?_
 ·rcases Bool.eq_false_or_eq_true (!rv8) with h14 | h14
  ·have hs := hs.fix 8 (.bool true) rfl (vb h14)
   refine st_skip hs rfl rfl rfl rfl rfl fun a hs => ?_
   refine st_skip hs rfl rfl rfl rfl rfl fun a hs => ?_
   refine st_skip hs rfl rfl rfl rfl rfl fun a hs => ?_
   refine st_val hs (y_pickT rfl rfl) trivial rfl rfl fun a hs => ?_
   refine wpList_nil ?_
   refine then_normal ?_
   exact ⟨rfl, (hs.fix 12 (.bool ((!rv8) || (s1.Kind != 2))) rfl (or_t h14)).weaken _ ⟨rfl, rfl, rfl, trivial⟩⟩
  ·have hs := hs.fix 8 (.bool false) rfl (vb h14)
   refine st_val hs (y_fieldAddr (o' := 0) Try.runUnderlying45 rfl Try.sizeOf3 rfl rfl rfl) ⟨_, rfl, rfl⟩ rfl rfl fun a hs => ?_
   refine st_val hs (y_loadB1 (hw.ownAt 1 rfl) rfl Try.isAgg3 rfl) ⟨_, rfl, rfl⟩ rfl rfl fun a hs => ?_
   refine st_val hs (y_neq rfl rfl) ⟨_, rfl, rfl⟩ rfl rfl fun a hs => ?_
   refine st_val hs (y_pickF rfl rfl) trivial rfl rfl fun a hs => ?_
   refine wpList_nil ?_
   refine then_normal ?_
   exact ⟨rfl, (hs.fix 12 (.bool ((!rv8) || (s1.Kind != 2))) rfl (or_f h14)).weaken _ ⟨rfl, rfl, rfl, trivial⟩⟩
 ·rintro a w1 ⟨h44, hs⟩
  subst h44
  refine wpList_nil ?_
  refine then_normal ?_
  refine wp_cond_split (hs.ev rfl) (fun h16 => ?_) (fun h16 => ?_)
  ·have hsh := ite_t hsh h16
   refine wp_seq ?_
   refine wp_region_lit ?_
   refine st_val hs (y_build (vs := []) Bld28 rfl rfl) trivial rfl rfl fun a hs => ?_
   refine w_store (m := 3) (cs' := [.slice none ([] : List Int).length 0, .int .i64 0, .int .i64 0]) hs hw 0 rfl rfl rfl Try.sizeOf28 rfl rfl rfl rfl trivial ?_
   intro a w hs hw
   refine st_val hs (y_assign rfl) trivial rfl rfl fun a hs => ?_
   refine wpList_nil ?_
   refine then_normal ?_
   have hsh := Option.some.inj hsh
   subst hsh
   have hw := hw.nilRow Int 3
   refine wp_ret ?_
   refine then_ret ?_
   exact ret2 hs rfl (rv_cell hw 1 rfl rfl Try.isAgg28 Try.sizeOf28 rfl) (rv_tmp rfl) (hw.ret ⟨none, 0, [], rfl, (hw.outs [0] (by decide) rfl), (hw.envAt 0 rfl)⟩)
  ·have hsh := ite_f hsh h16
   refine wp_skip ?_
   refine then_normal ?_
   refine wp_seq ?_
   obtain ⟨rv18, h17, hsh⟩ := bind_t hsh
   refine wp_only (fun a w => ∃ (Sv24 : Nat → Prop) (b23 : Nat) (c22 : List Value) (k20 : Nat) (p19 : Option Addr), Sl 27 [(2, .pointer (some ⟨b6, 0, none⟩)), (4, .pointer (some ⟨b23, 0, none⟩))] a ∧ Wd ⟨w0, S0, []⟩ Sv24 [.box b6 [.slice none ([] : List Int).length 0, .int .i64 0, .int .i64 0] 28, .box b23 [.slice p19 rv18.length k20, .int .i64 s1.Factor, .int .i64 s1.Shift] 28, .row p19 rv18.length k20 c22 3 1] [SlA none ([] : List Int).length 0 ([] : List Int), RowA c22 rv18] w) ?_ ?_
   ·refine h_b (C := Cls [.box b6 [.slice none ([] : List Int).length 0, .int .i64 0, .int .i64 0] 28, .box b5 [.int .i64 s1.Kind, .int .i64 s1.Num.e0, .int .i64 s1.Num.e1, .int .i64 s1.Num.e2, .int .i64 s1.Den.e0, .int .i64 s1.Den.e1, .int .i64 s1.Den.e2, .slice p2 s1.Taps.length k3, .int .i64 s1.Factor, .int .i64 s1.Shift] 45] []) (by kernel_rfl) rfl (hw.drew.cs [0, 1] [] rfl rfl) fun hC => ?_
    have hw := hw.drew
    refine h_g hs 0 rfl (by kernel_rfl) rfl rfl hC rfl (fun w hC => y_fieldAddr (o' := 7) Try.runUnderlying45 rfl Try.sizeOf22 rfl rfl rfl) fun a hs => ?_
    refine h_g hs 1 rfl (by kernel_rfl) rfl rfl hC rfl (fun w hC => y_loadB1 (hC.ownAt 1 rfl) rfl Try.isAgg22 rfl) fun a hs => ?_
    refine h_g hs 3 rfl (by kernel_rfl) rfl rfl hC rfl (fun w hC => y_fieldAddr (o' := 8) Try.runUnderlying45 rfl Try.sizeOf3 rfl rfl rfl) fun a hs => ?_
    refine h_g hs 4 rfl (by kernel_rfl) rfl rfl hC rfl (fun w hC => y_loadB1 (hC.ownAt 1 rfl) rfl Try.isAgg3 rfl) fun a hs => ?_
    refine h_g hs 5 rfl (by kernel_rfl) rfl rfl hC rfl (fun w hC => y_fieldAddr (o' := 9) Try.runUnderlying45 rfl Try.sizeOf3 rfl rfl rfl) fun a hs => ?_
    refine h_g hs 6 rfl (by kernel_rfl) rfl rfl hC rfl (fun w hC => y_loadB1 (hC.ownAt 1 rfl) rfl Try.isAgg3 rfl) fun a hs => ?_
    refine h_all (rs := [2, 8]) (by kernel_rfl) rfl ?_
    refine AllH.cons rfl ?_ ?_
    ·refine st_callR hs (slices_Clone_Lint_int_ok h17 hw.dom (hw.envAt 0 rfl)) (do_call Try.call45 rfl) trivial rfl rfl ?_
     intro v28 Sv25 w a h26 h27 hs
     obtain ⟨p19, k20, c22, rfl, h29, h21⟩ := h27
     have hw := hw.callN h26 h29
     have hw := hw.addE (e := RowA c22 rv18) h21
     refine h_nx (hw.cs [1, 2] [] rfl rfl) fun hC => ?_
     refine h_st (C' := Cls [.box b6 [.slice none ([] : List Int).length 0, .int .i64 0, .int .i64 0] 28, .box b5 [.int .i64 s1.Kind, .int .i64 s1.Num.e0, .int .i64 s1.Num.e1, .int .i64 s1.Num.e2, .int .i64 s1.Den.e0, .int .i64 s1.Den.e1, .int .i64 s1.Den.e2, .slice p2 s1.Taps.length k3, .int .i64 s1.Factor, .int .i64 s1.Shift] 45, .row p19 rv18.length k20 c22 3 1] []) (fun _ h => by exact h.sub [0, 1] (Sel.of rfl) (AllIn.of [] rfl)) (hw.cs [1, 2, 0] [] rfl rfl) fun hC => ?_
     refine h_g hs 7 rfl (by kernel_rfl) rfl rfl hC rfl (fun w hC => y_build (vs := [(0, .slice p19 rv18.length k20), (1, .int .i64 s1.Factor), (2, .int .i64 s1.Shift)]) Bld28 rfl rfl) fun a hs => ?_
     refine h_one (i := 8) (by kernel_rfl) rfl ?_
     refine w_alloc (cs := [.slice none ([] : List Int).length 0, .int .i64 0, .int .i64 0]) hs hw Try.zeroValue28 rfl rfl trivial ?_
     intro b23 a w hs hw
     refine h_nx (hw.cs [2, 3, 1] [] rfl rfl) fun hC => ?_
     refine h_one (i := 9) (by kernel_rfl) rfl ?_
     refine w_store (m := 3) (cs' := [.slice p19 rv18.length k20, .int .i64 s1.Factor, .int .i64 s1.Shift]) hs hw 0 rfl rfl rfl Try.sizeOf28 rfl rfl rfl rfl trivial ?_
     intro a w hs hw
     refine h_nx (hw.cs [2, 3, 1] [] rfl rfl) fun hC => ?_
     refine h_done (by kernel_rfl) ?_
     have hw := hw.addE (e := SlA (α := Int) none 0 0 []) nil_sl
     exact ⟨Sv25, b23, c22, k20, p19, (hs.wk rfl), (hw.ft [2, 0, 1] [0, 1] (by decide) rfl rfl)⟩
    refine AllH.cons rfl ?_ ?_
    ·refine w_alloc (cs := [.slice none ([] : List Int).length 0, .int .i64 0, .int .i64 0]) hs hw Try.zeroValue28 rfl rfl trivial ?_
     intro b23 a w hs hw
     refine h_nx (hw.cs [1, 2] [] rfl rfl) fun hC => ?_
     refine h_one (i := 2) (by kernel_rfl) rfl ?_
     refine st_callR hs (slices_Clone_Lint_int_ok h17 hw.dom (hw.envAt 0 rfl)) (do_call Try.call45 rfl) trivial rfl rfl ?_
     intro v33 Sv30 w a h31 h32 hs
     obtain ⟨p19, k20, c22, rfl, h34, h21⟩ := h32
     have hw := hw.callN h31 h34
     have hw := hw.addE (e := RowA c22 rv18) h21
     refine h_nx (hw.cs [2, 3] [] rfl rfl) fun hC => ?_
     refine h_st (C' := Cls [.box b6 [.slice none ([] : List Int).length 0, .int .i64 0, .int .i64 0] 28, .box b5 [.int .i64 s1.Kind, .int .i64 s1.Num.e0, .int .i64 s1.Num.e1, .int .i64 s1.Num.e2, .int .i64 s1.Den.e0, .int .i64 s1.Den.e1, .int .i64 s1.Den.e2, .slice p2 s1.Taps.length k3, .int .i64 s1.Factor, .int .i64 s1.Shift] 45, .row p19 rv18.length k20 c22 3 1] []) (fun _ h => by exact h.sub [0, 1] (Sel.of rfl) (AllIn.of [] rfl)) (hw.cs [2, 3, 0] [] rfl rfl) fun hC => ?_
     refine h_g hs 7 rfl (by kernel_rfl) rfl rfl hC rfl (fun w hC => y_build (vs := [(0, .slice p19 rv18.length k20), (1, .int .i64 s1.Factor), (2, .int .i64 s1.Shift)]) Bld28 rfl rfl) fun a hs => ?_
     refine h_one (i := 9) (by kernel_rfl) rfl ?_
     refine w_store (m := 3) (cs' := [.slice p19 rv18.length k20, .int .i64 s1.Factor, .int .i64 s1.Shift]) hs hw 1 rfl rfl rfl Try.sizeOf28 rfl rfl rfl rfl trivial ?_
     intro a w hs hw
     refine h_nx (hw.cs [2, 3, 0] [] rfl rfl) fun hC => ?_
     refine h_done (by kernel_rfl) ?_
     have hw := hw.addE (e := SlA (α := Int) none 0 0 []) nil_sl
     exact ⟨Sv30, b23, c22, k20, p19, (hs.wk rfl), (hw.ft [2, 1, 0] [0, 1] (by decide) rfl rfl)⟩
    exact AllH.nil
   ·rintro a w ⟨Sv24, b23, c22, k20, p19, hs, hw⟩
    refine then_normal ?_
    refine wp_seq ?_
    refine wp_seq ?_
    refine wp_region_lit ?_
    refine st_val hs (y_loadBA (hw.ownAt 1 rfl) rfl Try.isAgg28 Try.sizeOf28 rfl rfl) trivial rfl rfl fun a hs => ?_
    obtain ⟨rv36, h35, hsh⟩ := bind_t hsh
    refine st_callR hs (filter_Valid_ok h35 hw.bdom (hw.bRow 2 rfl 1 rfl)) (do_call Try.call32 rfl) trivial rfl rfl ?_
    intro v40 Sv37 w a h38 h39 hs
    subst h39
    have hw := hw.callB h38
    refine st_val hs (y_not rfl) trivial rfl rfl fun a hs => ?_
    refine wpList_nil ?_
    refine then_normal ?_
    refine wp_cond_split (hs.ev rfl) (fun h43 => ?_) (fun h43 => ?_)
    ·have hsh := ite_t hsh h43
     refine wp_seq ?_
     refine wp_region_lit ?_
     refine st_val hs (y_build (vs := []) Bld28 rfl rfl) trivial rfl rfl fun a hs => ?_
     refine w_store (m := 3) (cs' := [.slice none ([] : List Int).length 0, .int .i64 0, .int .i64 0]) hs hw 0 rfl rfl rfl Try.sizeOf28 rfl rfl rfl rfl trivial ?_
     intro a w hs hw
     refine st_val hs (y_assign rfl) trivial rfl rfl fun a hs => ?_
     refine wpList_nil ?_
     refine then_normal ?_
     have hsh := Option.some.inj hsh
     subst hsh
     have hw := hw.nilRow Int 3
     refine wp_ret ?_
     refine then_ret ?_
     exact ret2 hs rfl (rv_cell hw 1 rfl rfl Try.isAgg28 Try.sizeOf28 rfl) (rv_tmp rfl) (hw.ret ⟨none, 0, [], rfl, (hw.outs [0] (by decide) rfl), (hw.envAt 0 rfl)⟩)
    ·have hsh := ite_f hsh h43
     refine wp_skip ?_
     refine then_normal ?_
     refine wp_seq ?_
     refine wp_region_lit ?_
     refine st_val hs (y_loadBA (hw.ownAt 1 rfl) rfl Try.isAgg28 Try.sizeOf28 rfl rfl) trivial rfl rfl fun a hs => ?_
     refine w_store (m := 3) (cs' := [.slice p19 rv18.length k20, .int .i64 s1.Factor, .int .i64 s1.Shift]) hs hw 0 rfl rfl rfl Try.sizeOf28 rfl rfl rfl rfl trivial ?_
     intro a w hs hw
     refine st_val hs (y_assign rfl) trivial rfl rfl fun a hs => ?_
     refine wpList_nil ?_
     refine then_normal ?_
     have hsh := Option.some.inj hsh
     subst hsh
     refine wp_ret ?_
     exact ret2 hs rfl (rv_cell hw 0 rfl rfl Try.isAgg28 Try.sizeOf28 rfl) (rv_tmp rfl) (hw.ret ⟨p19, k20, c22, rfl, (hw.outs [2] (by decide) rfl), (hw.envAt 1 rfl)⟩)

end Go.Proofs.Ytmihimhknllmcaa.Wk

/- The walks of ReceiverDivides, part 4: each Go function computes what its plain program computes. Printed by a program of ours. -/
import Derived.Test.YtiihddcppmjbaaaProg
import Derived.Test.YtiihddcppmjbaaaDat
import Derived.Test.YtiihddcppmjbaaaSh
import Derived.Test.YtiihddcppmjbaaaLibL
import Derived.KernelRfl
import Derived.Test.YtiihddcppmjbaaaWReceiverDivides3
namespace Go.Proofs.Ytiihddcppmjbaaa.Wk
open Go Go.RowKit Go.Proofs Go.Proofs.Ytiihddcppmjbaaa.Sh
set_option linter.unusedVariables false
set_option linter.unusedSimpArgs false

abbrev ref08_Normal_rd (w0 : World) (X : List Nat) (r : (List Span)) : (Nat → Prop) → World → Value → Prop := fun S w v => ∃ (p0_0 : Option Addr) (k0_0 : Nat) (c0_0 : List Value), v = .slice p0_0 r.length k0_0 ∧ Outs X w0 S w [.row p0_0 r.length k0_0 c0_0 46 2] ∧ (RowA c0_0 r).p S w
set_option maxHeartbeats 4000000 in
set_option maxRecDepth 100000 in
theorem ref08_Normal_ok {w0 : World} {S0 : Nat → Prop} {p2 : Option Addr} {k3 : Nat} {l1 : (List Span)} {r : (List Span)} (hsh : ref08_Normal l1 = some r) (hS : ∀ b, S0 b → b < w0.heap.size) (h4 : (SlA p2 l1.length k3 l1).p S0 w0) : Calls Try.prog 51 #[.slice p2 l1.length k3] w0 (Ret ([]) w0 S0 (ref08_Normal_rd w0 ([]) r)) := by
 refine calls_of_wp Try.func51 rfl ?_
 have hs := Sl.enter #[.slice p2 l1.length k3] 117 [(0, .slice p2 l1.length k3)] rfl ⟨rfl, trivial⟩
 have hw := Wd.enter (E := []) hS (fun _ h => (by cases h))
 have hw := hw.addE h4
 delta ref08_Normal at hsh
 refine wp_seq ?_
 refine wp_region_lit ?_
 refine st_val hs (y_assign rfl) trivial rfl rfl fun a hs => ?_
 refine wpList_nil ?_
 refine then_normal ?_
 refine wp_seq ?_
 refine wp_region_lit ?_
 refine st_val hs (y_assign rfl) trivial rfl rfl fun a hs => ?_
 refine wpList_nil ?_
 refine then_normal ?_
 refine wp_seq ?_
 refine wp_seq ?_
 refine wp_region_lit ?_
 refine st_val hs (y_assign rfl) trivial rfl rfl fun a hs => ?_
 refine wpList_nil ?_
 refine then_normal ?_
 obtain ⟨e539, h1541, hsh⟩ := bind_t hsh
 refine wp_join (fun a w => ∃ (c540 : List Value) (p541 : Option Addr) (k542 : Nat) (Sv543 : Nat → Prop), Sl 117 [(3, .slice p541 e539.length k542)] a ∧ Wd ⟨w0, S0, []⟩ Sv543 [.row p541 e539.length k542 c540 46 2] [RowA c540 e539] w) ?_ ?_
 ·refine wp_block ?_
  have hw := hw.nilRow Span 46
  refine wp_while (fun sv5 a w => ∃ (c358 : List Value) (p359 : Option Addr) (k360 : Nat) (Sv361 : Nat → Prop), Sl 117 [(0, .slice p2 l1.length k3), (3, .slice p359 sv5.1.length k360), (4, .int .i64 sv5.2)] a ∧ Wd ⟨w0, S0, []⟩ Sv361 [.row p359 sv5.1.length k360 c358 46 2] [SlA p2 l1.length k3 l1, RowA c358 sv5.1] w) (([] : List Span), 0) h1541 ⟨[], none, 0, S0, (hs.wk rfl), (hw.ft [0] [1, 0] (by decide) rfl rfl)⟩ ?_
  clear h1541
  repeat clear hsh
  rintro sv5 a w tv537 ⟨c358, p359, k360, Sv361, hs, hw⟩ hsh hd536
  delta ref08_Normal_l3 at hsh
  refine wp_seq ?_
  refine wp_seq ?_
  refine wp_region_lit ?_
  refine st_val hs (y_move rfl) trivial rfl rfl fun a hs => ?_
  refine st_val hs (y_move rfl) trivial rfl rfl fun a hs => ?_
  refine st_val hs (y_len Try.runUnderlying27 rfl) trivial rfl rfl fun a hs => ?_
  refine st_val hs (y_lss rfl rfl) trivial rfl rfl fun a hs => ?_
  refine wpList_nil ?_
  refine then_normal ?_
  refine wp_cond_split (hs.ev rfl) (fun h545 => ?_) (fun h545 => ?_)
  ·have hsh := ite_t hsh h545
   refine wp_skip ?_
   refine then_normal ?_
   refine wp_seq ?_
   refine wp_join (fun a w => ∃ (sorted716 : (List Span)) (c712 : List Value) (p713 : Option Addr) (k714 : Nat) (Sv715 : Nat → Prop), ref08_Normal_j1 sv5 sorted716 = some tv537 ∧ Sl 117 [(0, .slice p2 l1.length k3), (3, .slice p713 sorted716.length k714), (4, .int .i64 sv5.2)] a ∧ Wd ⟨w0, S0, []⟩ Sv715 [.row p713 sorted716.length k714 c712 46 2] [SlA p2 l1.length k3 l1, RowA c712 sorted716] w) ?_ ?_
   ·refine wp_block ?_
    refine wp_seq ?_
    refine wp_seq ?_
    obtain ⟨x721, h719, hsh⟩ := bind_t hsh
    obtain ⟨b727, o728, q725, c726, h729, h722, h723, h724, h720⟩ := hw.elemV 0 rfl h719
    have hsv730 := hs
    have hwv731 := hw
    subst h729
    have hs := hsv730
    have hw := hwv731
    obtain ⟨_, _, rfl, rfl, rfl⟩ := h720
    have hw := hw.addE h724
    obtain ⟨x734, h732, hsh⟩ := bind_t hsh
    obtain ⟨q738, c739, h735, h736, h737, h733⟩ := hw.elemK 1 rfl h732
    obtain ⟨_, _, rfl, rfl, rfl⟩ := h733
    have hw := hw.addE h737
    refine wp_only (fun a w => ∃ (Sv740 : Nat → Prop), Sl 117 [(0, .slice (some ⟨b727, o728, none⟩) l1.length k3), (3, .slice p359 sv5.1.length k360), (4, .int .i64 sv5.2), (25, .bool (decide (x734.To ≤ x721.From)))] a ∧ Wd ⟨w0, S0, []⟩ Sv740 [.row p359 sv5.1.length k360 c358 46 2] [SlA (some ⟨b727, o728, none⟩) l1.length k3 l1, RowA c358 sv5.1] w) ?_ ?_
    ·refine h_b (C := Cls [.row p359 sv5.1.length k360 c358 46 2] [CeA b727 q738 [.int .i64 x734.From, .int .i64 x734.To], CeA b727 q725 [.int .i64 x721.From, .int .i64 x721.To]]) (by kernel_rfl) rfl (hw.drew.cs [0] [0, 1] rfl rfl) fun hC => ?_
     have hw := hw.drew
     refine h_g hs 0 rfl (by kernel_rfl) rfl rfl hC rfl (fun w hC => y_move rfl) fun a hs => ?_
     refine h_g hs 1 rfl (by kernel_rfl) rfl rfl hC rfl (fun w hC => y_move rfl) fun a hs => ?_
     refine h_g hs 2 rfl (by kernel_rfl) rfl rfl hC rfl (fun w hC => y_indexAt Try.runUnderlying27 Try.sizeOf46 rfl rfl h722.1 h722.2 h723) fun a hs => ?_
     refine h_g hs 3 rfl (by kernel_rfl) rfl rfl hC rfl (fun w hC => y_fieldAddr (o' := q725 + 0) Try.runUnderlying46 rfl Try.sizeOf3 rfl rfl rfl) fun a hs => ?_
     refine h_g hs 4 rfl (by kernel_rfl) rfl rfl hC rfl (fun w hC => y_loadE1 (j := 0) (hC.ceAt 1 rfl) rfl Try.isAgg3 rfl) fun a hs => ?_
     refine h_g hs 5 rfl (by kernel_rfl) rfl rfl hC rfl (fun w hC => y_move rfl) fun a hs => ?_
     refine h_g hs 6 rfl (by kernel_rfl) rfl rfl hC rfl (fun w hC => y_move rfl) fun a hs => ?_
     refine h_g hs 7 rfl (by kernel_rfl) rfl rfl hC rfl (fun w hC => y_indexAt Try.runUnderlying27 Try.sizeOf46 rfl rfl h735.1 h735.2 h736) fun a hs => ?_
     refine h_g hs 8 rfl (by kernel_rfl) rfl rfl hC rfl (fun w hC => y_fieldAddr (o' := q738 + 1) Try.runUnderlying46 rfl Try.sizeOf3 rfl rfl rfl) fun a hs => ?_
     refine h_g hs 9 rfl (by kernel_rfl) rfl rfl hC rfl (fun w hC => y_loadE1 (j := 1) (hC.ceAt 0 rfl) rfl Try.isAgg3 rfl) fun a hs => ?_
     refine h_g hs 10 rfl (by kernel_rfl) rfl rfl hC rfl (fun w hC => y_geq rfl rfl) fun a hs => ?_
     refine h_done (by kernel_rfl) ?_
     exact ⟨Sv361, (hs.wk rfl), (hw.ft [0] [2, 3] (by decide) rfl rfl)⟩
    ·rintro a w ⟨Sv740, hs, hw⟩
     refine then_normal ?_
     refine wp_cond_split (hs.ev rfl) (fun h742 => ?_) (fun h742 => ?_)
     ·have hsh := ite_t hsh h742
      refine wp_exit ?_
      refine then_exit ?_
      refine blk_exit ?_
      refine then_normal ?_
      exact ⟨sv5.1, c358, p359, k360, Sv740, hsh, (hs.wk rfl), (hw.ft [0] [0, 1] (by decide) rfl rfl)⟩
     ·have hsh := ite_f hsh h742
      refine wp_skip ?_
      refine then_normal ?_
      refine wp_seq ?_
      refine wp_region_lit ?_
      refine st_val hs (y_move rfl) trivial rfl rfl fun a hs => ?_
      refine st_val hs (y_len Try.runUnderlying27 rfl) trivial rfl rfl fun a hs => ?_
      obtain ⟨k744, h743, hsh⟩ := bind_t hsh
      refine st_val hs (y_assignI rfl h743) trivial rfl rfl fun a hs => ?_
      refine wpList_nil ?_
      refine then_normal ?_
      refine wp_seq ?_
      obtain ⟨e829, h943, hsh⟩ := bind_t hsh
      refine wp_join (fun a w => ∃ (Sv830 : Nat → Prop), Sl 117 [(0, .slice (some ⟨b727, o728, none⟩) l1.length k3), (3, .slice p359 sv5.1.length k360), (4, .int .i64 sv5.2), (5, .int .i64 e829)] a ∧ Wd ⟨w0, S0, []⟩ Sv830 [.row p359 sv5.1.length k360 c358 46 2] [SlA (some ⟨b727, o728, none⟩) l1.length k3 l1, RowA c358 sv5.1] w) ?_ ?_
      ·refine wp_block ?_
       refine wp_while (fun sv745 a w => ∃ (Sv799 : Nat → Prop), Sl 117 [(0, .slice (some ⟨b727, o728, none⟩) l1.length k3), (3, .slice p359 sv5.1.length k360), (4, .int .i64 sv5.2), (5, .int .i64 sv745)] a ∧ Wd ⟨w0, S0, []⟩ Sv799 [.row p359 sv5.1.length k360 c358 46 2] [SlA (some ⟨b727, o728, none⟩) l1.length k3 l1, RowA c358 sv5.1] w) k744 h943 ⟨Sv740, (hs.wk rfl), (hw.ft [0] [0, 1] (by decide) rfl rfl)⟩ ?_
       clear h943
       repeat clear hsh
       rintro sv745 a w tv827 ⟨Sv799, hs, hw⟩ hsh hd826
       delta ref08_Normal_l6 at hsh
       refine wp_seq ?_
       refine wp_seq ?_
       obtain ⟨c852, hc852, hsh⟩ := bind_t hsh
       refine wp_only (fun a w => ∃ (Sv853 : Nat → Prop), Sl 117 [(0, .slice (some ⟨b727, o728, none⟩) l1.length k3), (3, .slice p359 sv5.1.length k360), (4, .int .i64 sv5.2), (5, .int .i64 sv745), (43, .bool c852)] a ∧ Wd ⟨w0, S0, []⟩ Sv853 [.row p359 sv5.1.length k360 c358 46 2] [SlA (some ⟨b727, o728, none⟩) l1.length k3 l1, RowA c358 sv5.1] w) ?_ ?_
       ·rcases Bool.eq_false_or_eq_true (decide (0 < sv745)) with h854 | h854
        ·have h855 := ite_t hc852 h854
         obtain ⟨x858, h856, h855⟩ := bind_t h855
         obtain ⟨b865, q862, c863, h866, h859, h860, h864, h857⟩ := hw.elemRV (α := Span) 0 rfl 1 rfl h856
         have hsv867 := hs
         have hwv868 := hw
         subst h866
         have hs := hsv867
         have hw := hwv868
         obtain ⟨_, _, rfl, rfl, rfl⟩ := h857
         obtain ⟨x871, h869, h855⟩ := bind_t h855
         obtain ⟨q875, c876, h872, h873, h874, h870⟩ := hw.elemK 0 rfl h869
         obtain ⟨_, _, rfl, rfl, rfl⟩ := h870
         have hw := hw.addE h874
         refine h_b (C := Cls [.row (some ⟨b865, 0, none⟩) sv5.1.length k360 c358 46 2] [CeA b727 q875 [.int .i64 x871.From, .int .i64 x871.To]]) (by kernel_rfl) rfl (hw.drew.cs [0] [0] rfl rfl) fun hC => ?_
         have hw := hw.drew
         refine h_g hs 0 rfl (by kernel_rfl) rfl rfl hC rfl (fun w hC => y_move rfl) fun a hs => ?_
         refine h_g hs 1 rfl (by kernel_rfl) rfl rfl hC rfl (fun w hC => y_gtr rfl rfl) fun a hs => ?_
         refine h_g hs 2 rfl (by kernel_rfl) rfl rfl hC rfl (fun w hC => y_move rfl) fun a hs => ?_
         have hs := hs.fix 30 (.bool true) rfl (vb h854)
         refine h_t hs 3 rfl (by kernel_rfl) ⟨_, rfl, rfl⟩ rfl rfl hC (fun w hC => y_move rfl) fun a hs => ?_
         refine h_t hs 4 rfl (by kernel_rfl) ⟨_, rfl, rfl⟩ rfl rfl hC (fun w hC => y_move rfl) fun a hs => ?_
         refine h_t hs 5 rfl (by kernel_rfl) ⟨_, rfl, rfl⟩ rfl rfl hC (fun w hC => y_sub rfl rfl) fun a hs => ?_
         refine h_t hs 6 rfl (by kernel_rfl) ⟨_, rfl, rfl⟩ rfl rfl hC (fun w hC => y_indexAt Try.runUnderlying27 Try.sizeOf46 rfl rfl h859.1 h859.2 h860) fun a hs => ?_
         refine h_t hs 7 rfl (by kernel_rfl) ⟨_, rfl, rfl⟩ rfl rfl hC (fun w hC => y_fieldAddr (o' := q862 + 0) Try.runUnderlying46 rfl Try.sizeOf3 rfl rfl rfl) fun a hs => ?_
         refine h_t hs 8 rfl (by kernel_rfl) ⟨_, rfl, rfl⟩ rfl rfl hC (fun w hC => y_loadQ1 (j := 0) (hC.ownAt 0 rfl) rfl Try.isAgg3 h864 rfl) fun a hs => ?_
         refine h_t hs 9 rfl (by kernel_rfl) ⟨_, rfl, rfl⟩ rfl rfl hC (fun w hC => y_move rfl) fun a hs => ?_
         refine h_t hs 10 rfl (by kernel_rfl) ⟨_, rfl, rfl⟩ rfl rfl hC (fun w hC => y_move rfl) fun a hs => ?_
         refine h_t hs 11 rfl (by kernel_rfl) ⟨_, rfl, rfl⟩ rfl rfl hC (fun w hC => y_indexAt Try.runUnderlying27 Try.sizeOf46 rfl rfl h872.1 h872.2 h873) fun a hs => ?_
         refine h_t hs 12 rfl (by kernel_rfl) ⟨_, rfl, rfl⟩ rfl rfl hC (fun w hC => y_fieldAddr (o' := q875 + 0) Try.runUnderlying46 rfl Try.sizeOf3 rfl rfl rfl) fun a hs => ?_
         refine h_t hs 13 rfl (by kernel_rfl) ⟨_, rfl, rfl⟩ rfl rfl hC (fun w hC => y_loadE1 (j := 0) (hC.ceAt 0 rfl) rfl Try.isAgg3 rfl) fun a hs => ?_
         refine h_t hs 14 rfl (by kernel_rfl) ⟨_, rfl, rfl⟩ rfl rfl hC (fun w hC => y_gtr rfl rfl) fun a hs => ?_
         refine h_g hs 15 rfl (by kernel_rfl) rfl rfl hC rfl (fun w hC => y_pickTE (v := .bool c852) rfl rfl (vbs h855)) fun a hs => ?_
         refine h_done (by kernel_rfl) ?_
         exact ⟨Sv799, (hs.wk rfl), (hw.ft [0] [1, 2] (by decide) rfl rfl)⟩
        ·have h877 := ite_f hc852 h854
         refine h_b (C := Cls [.row p359 sv5.1.length k360 c358 46 2] []) (by kernel_rfl) rfl (hw.drew.cs [0] [] rfl rfl) fun hC => ?_
         have hw := hw.drew
         refine h_g hs 0 rfl (by kernel_rfl) rfl rfl hC rfl (fun w hC => y_move rfl) fun a hs => ?_
         refine h_g hs 1 rfl (by kernel_rfl) rfl rfl hC rfl (fun w hC => y_gtr rfl rfl) fun a hs => ?_
         refine h_g hs 2 rfl (by kernel_rfl) rfl rfl hC rfl (fun w hC => y_move rfl) fun a hs => ?_
         have hs := hs.fix 30 (.bool false) rfl (vb h854)
         refine h_s hs 3 rfl (by kernel_rfl) rfl rfl rfl (.inl rfl) rfl rfl hC fun a hs => ?_
         refine h_s hs 4 rfl (by kernel_rfl) rfl rfl rfl (.inl rfl) rfl rfl hC fun a hs => ?_
         refine h_s hs 5 rfl (by kernel_rfl) rfl rfl rfl (.inl rfl) rfl rfl hC fun a hs => ?_
         refine h_s hs 6 rfl (by kernel_rfl) rfl rfl rfl (.inl rfl) rfl rfl hC fun a hs => ?_
         refine h_s hs 7 rfl (by kernel_rfl) rfl rfl rfl (.inl rfl) rfl rfl hC fun a hs => ?_
         refine h_s hs 8 rfl (by kernel_rfl) rfl rfl rfl (.inl rfl) rfl rfl hC fun a hs => ?_
         refine h_s hs 9 rfl (by kernel_rfl) rfl rfl rfl (.inl rfl) rfl rfl hC fun a hs => ?_
         refine h_s hs 10 rfl (by kernel_rfl) rfl rfl rfl (.inl rfl) rfl rfl hC fun a hs => ?_
         refine h_s hs 11 rfl (by kernel_rfl) rfl rfl rfl (.inl rfl) rfl rfl hC fun a hs => ?_
         refine h_s hs 12 rfl (by kernel_rfl) rfl rfl rfl (.inl rfl) rfl rfl hC fun a hs => ?_
         refine h_s hs 13 rfl (by kernel_rfl) rfl rfl rfl (.inl rfl) rfl rfl hC fun a hs => ?_
         refine h_s hs 14 rfl (by kernel_rfl) rfl rfl rfl (.inl rfl) rfl rfl hC fun a hs => ?_
         refine h_g hs 15 rfl (by kernel_rfl) rfl rfl hC rfl (fun w hC => y_pickFE (v := .bool c852) rfl rfl (vbs h877)) fun a hs => ?_
         refine h_done (by kernel_rfl) ?_
         exact ⟨Sv799, (hs.wk rfl), (hw.ft [0] [0, 1] (by decide) rfl rfl)⟩
       ·rintro a w ⟨Sv853, hs, hw⟩
        refine then_normal ?_
        refine wp_cond_split (hs.ev rfl) (fun h879 => ?_) (fun h879 => ?_)
        ·have hsh := ite_t hsh h879
         refine wp_skip ?_
         refine then_normal ?_
         refine wp_block ?_
         refine wp_region_lit ?_
         refine st_val hs (y_move rfl) trivial rfl rfl fun a hs => ?_
         refine st_val hs (y_sub rfl rfl) trivial rfl rfl fun a hs => ?_
         obtain ⟨k883, h882, hsh⟩ := bind_t hsh
         refine st_val hs (y_assignI rfl h882) trivial rfl rfl fun a hs => ?_
         refine wpList_nil ?_
         refine blk_normal ?_
         refine then_normal ?_
         exact ⟨_, (Option.some.inj hsh).symm, Sv853, (hs.wk rfl), (hw.ft [0] [0, 1] (by decide) rfl rfl)⟩
        ·have hsh := ite_f hsh h879
         refine wp_exit ?_
         refine then_exit ?_
         refine then_exit ?_
         refine blk_exit ?_
         have hsh := Option.some.inj hsh
         subst hsh
         have h884 := hd826 _ rfl
         subst h884
         refine then_normal ?_
         exact ⟨Sv853, (hs.wk rfl), (hw.ft [0] [0, 1] (by decide) rfl rfl)⟩
      ·rintro a w ⟨Sv830, hs, hw⟩
       refine then_normal ?_
       refine wp_seq ?_
       refine wp_region_lit ?_
       refine st_val hs (y_move rfl) trivial rfl rfl fun a hs => ?_
       refine st_val hs (y_move rfl) trivial rfl rfl fun a hs => ?_
       refine st_val hs (y_move rfl) trivial rfl rfl fun a hs => ?_
       obtain ⟨x887, h885, hsh⟩ := bind_t hsh
       obtain ⟨q891, c892, h888, h889, h890, h886⟩ := hw.elemK 0 rfl h885
       obtain ⟨_, _, rfl, rfl, rfl⟩ := h886
       have hw := hw.addE h890
       refine st_val hs (y_indexAt Try.runUnderlying27 Try.sizeOf46 rfl rfl h888.1 h888.2 h889) trivial rfl rfl fun a hs => ?_
       refine st_val hs (y_loadEA (j := 0) (hw.ceAt 0 rfl) rfl Try.isAgg46 Try.sizeOf46 rfl rfl) trivial rfl rfl fun a hs => ?_
       refine w_litSlice (α := Span) (vs := [.agg #[.int .i64 x887.From, .int .i64 x887.To]]) (cs := [.int .i64 x887.From, .int .i64 x887.To]) (xs := ([x887] : List Span)) hs hw El27 rfl rfl rfl rfl rfl rfl ⟨⟨_, _, rfl, rfl, rfl⟩, rfl⟩ rfl trivial rfl fun b894 a w hs hw => ?_
       obtain ⟨l896, h895, hsh⟩ := bind_t hsh
       refine w_appendR (α := Span) hs hw El27 1 rfl rfl rfl 3 rfl 0 rfl 0 rfl h895 rfl trivial ?_
       intro p897 k898 c899 a w hs hw
       refine st_val hs (y_assign rfl) trivial rfl rfl fun a hs => ?_
       refine wpList_nil ?_
       refine then_normal ?_
       refine wp_seq ?_
       obtain ⟨l904, h900, hsh⟩ := bind_t hsh
       obtain ⟨p902, k903, h901⟩ := row_sub (α := Span) hw 1 rfl h900
       obtain ⟨l909, h905, hsh⟩ := bind_t hsh
       obtain ⟨p907, k908, h906⟩ := row_sub (α := Span) hw 1 rfl h905
       obtain ⟨l910, h911, hsh⟩ := bind_t hsh
       refine wp_only (fun a w => ∃ (Sv914 : Nat → Prop) (c912 : List Value), Sl 117 [(0, .slice (some ⟨b727, o728, none⟩) l1.length k3), (3, .slice p897 l910.length k898), (4, .int .i64 sv5.2), (5, .int .i64 e829)] a ∧ Wd ⟨w0, S0, []⟩ Sv914 [.row p897 l910.length k898 c912 46 2] [SlA (some ⟨b727, o728, none⟩) l1.length k3 l1, RowA c912 l910] w) ?_ ?_
       ·refine h_b (C := Cls [.row (some ⟨b894, 0, none⟩) ([x887] : List Span).length ([x887] : List Span).length [.int .i64 x887.From, .int .i64 x887.To] 46 2] [CeA b727 q891 [.int .i64 x887.From, .int .i64 x887.To]]) (by kernel_rfl) rfl (hw.drew.cs [0] [2] rfl rfl) fun hC => ?_
        have hw := hw.drew
        refine h_g hs 0 rfl (by kernel_rfl) rfl rfl hC rfl (fun w hC => y_move rfl) fun a hs => ?_
        refine h_g hs 1 rfl (by kernel_rfl) rfl rfl hC rfl (fun w hC => y_move rfl) fun a hs => ?_
        refine h_g hs 2 rfl (by kernel_rfl) rfl rfl hC rfl (fun w hC => y_add rfl rfl) fun a hs => ?_
        refine h_g hs 3 rfl (by kernel_rfl) rfl rfl hC rfl (fun w hC => y_slc Try.runUnderlying27 Try.sizeOf46 rfl ⟨_, rfl⟩ (by exact rfl) h901) fun a hs => ?_
        refine h_g hs 4 rfl (by kernel_rfl) rfl rfl hC rfl (fun w hC => y_move rfl) fun a hs => ?_
        refine h_g hs 5 rfl (by kernel_rfl) rfl rfl hC rfl (fun w hC => y_move rfl) fun a hs => ?_
        refine h_g hs 6 rfl (by kernel_rfl) rfl rfl hC rfl (fun w hC => y_slc Try.runUnderlying27 Try.sizeOf46 rfl ⟨_, rfl⟩ (by exact rfl) h906) fun a hs => ?_
        refine h_one (i := 7) (by kernel_rfl) rfl ?_
        obtain ⟨ds_, h917⟩ := src_vw (hw.ownAt 1 rfl) (hw.envAt 0 rfl) h905 h906
        refine w_copyC (α := Span) hs hw 1 rfl 0 rfl Try.runUnderlying27 Try.runUnderlying27 Try.sizeOf46 (by decide) h900 h901 rfl rfl rfl h917.1 h917.2.1 h917.2.2 rfl trivial ?_
        intro c912 a w hs hw
        rw [Option.some.inj h911] at hw
        have h913 := (copy_lenS h900 h911)
        try have hs := hs.fix 3 (.slice p897 l910.length k898) rfl (by rw [h913])
        try have hs := hs.fix 53 (.slice p897 l910.length k898) rfl (by rw [h913])
        try have hs := hs.fix 57 (.slice p897 l910.length k898) rfl (by rw [h913])
        refine h_nx (hw.cs [0] [3] rfl rfl) fun hC => ?_
        refine h_done (by kernel_rfl) ?_
        exact ⟨Sv830, c912, (hs.wk rfl), (hw.ft [1] [4, 0] (by decide) rfl rfl)⟩
       ·rintro a w ⟨Sv914, c912, hs, hw⟩
        refine then_normal ?_
        refine wp_region_lit ?_
        refine st_val hs (y_move rfl) trivial rfl rfl fun a hs => ?_
        refine st_val hs (y_move rfl) trivial rfl rfl fun a hs => ?_
        refine st_val hs (y_move rfl) trivial rfl rfl fun a hs => ?_
        refine st_val hs (y_move rfl) trivial rfl rfl fun a hs => ?_
        obtain ⟨x920, h918, hsh⟩ := bind_t hsh
        obtain ⟨q924, c925, h921, h922, h923, h919⟩ := hw.elemK 0 rfl h918
        obtain ⟨_, _, rfl, rfl, rfl⟩ := h919
        have hw := hw.addE h923
        refine st_val hs (y_indexAt Try.runUnderlying27 Try.sizeOf46 rfl rfl h921.1 h921.2 h922) trivial rfl rfl fun a hs => ?_
        refine st_val hs (y_loadEA (j := 0) (hw.ceAt 0 rfl) rfl Try.isAgg46 Try.sizeOf46 rfl rfl) trivial rfl rfl fun a hs => ?_
        obtain ⟨x928, h926, hsh⟩ := bind_t hsh
        obtain ⟨b935, q932, c933, h936, h929, h930, h934, h927⟩ := hw.elemRV (α := Span) 0 rfl 2 rfl h926
        have hsv937 := hs
        have hwv938 := hw
        subst h936
        have hs := hsv937
        have hw := hwv938
        obtain ⟨_, _, rfl, rfl, rfl⟩ := h927
        refine st_val hs (y_indexAt Try.runUnderlying27 Try.sizeOf46 rfl rfl h929.1 h929.2 h930) trivial rfl rfl fun a hs => ?_
        obtain ⟨l940, h939, hsh⟩ := bind_t hsh
        refine w_storeF (α := Span) hs hw 0 rfl 2 rfl h930 rfl rfl Try.sizeOf46 rfl h939 ⟨_, _, rfl, rfl, rfl⟩ trivial ?_
        intro c941 a w hs hw
        have h942 := setM_len h939
        try have hs := hs.fix 3 (.slice (some ⟨b935, 0, none⟩) l940.length k898) rfl (by rw [h942])
        try have hs := hs.fix 61 (.slice (some ⟨b935, 0, none⟩) l940.length k898) rfl (by rw [h942])
        refine wpList_nil ?_
        refine blk_normal ?_
        refine then_normal ?_
        exact ⟨l940, c941, (some ⟨b935, 0, none⟩), k898, Sv914, hsh, (hs.wk rfl), (hw.ft [0] [2, 0] (by decide) rfl rfl)⟩
   ·rintro a w ⟨sorted716, c712, p713, k714, Sv715, hsh, hs, hw⟩
    delta ref08_Normal_j1 at hsh
    refine then_normal ?_
    refine wp_region_lit ?_
    refine st_val hs (y_move rfl) trivial rfl rfl fun a hs => ?_
    refine st_val hs (y_add rfl rfl) trivial rfl rfl fun a hs => ?_
    obtain ⟨i718, h717, hsh⟩ := bind_t hsh
    refine st_val hs (y_assignI rfl h717) trivial rfl rfl fun a hs => ?_
    refine wpList_nil ?_
    refine then_normal ?_
    exact ⟨_, (Option.some.inj hsh).symm, c712, p713, k714, Sv715, (hs.wk rfl), (hw.ft [0] [0, 1] (by decide) rfl rfl)⟩
  ·have hsh := ite_f hsh h545
   refine wp_exit ?_
   refine then_exit ?_
   refine then_exit ?_
   refine blk_exit ?_
   have hsh := Option.some.inj hsh
   subst hsh
   have h944 := hd536 _ rfl
   subst h944
   refine then_normal ?_
   exact ⟨c358, p359, k360, Sv361, (hs.wk rfl), (hw.ft [0] [1] (by decide) rfl rfl)⟩
 ·rintro a w ⟨c540, p541, k542, Sv543, hs, hw⟩
  refine then_normal ?_
  refine wp_seq ?_
  refine wp_region_lit ?_
  refine st_val hs (y_assign rfl) trivial rfl rfl fun a hs => ?_
  refine wpList_nil ?_
  refine then_normal ?_
  refine wp_seq ?_
  refine wp_seq ?_
  refine wp_region_lit ?_
  refine st_val hs (y_assign rfl) trivial rfl rfl fun a hs => ?_
  refine wpList_nil ?_
  refine then_normal ?_
  obtain ⟨e1248, h1540, hsh⟩ := bind_t hsh
  refine wp_join (fun a w => ∃ (c1249 : List Value) (p1250 : Option Addr) (k1251 : Nat) (Sv1252 : Nat → Prop), Sl 117 [(6, .slice p1250 e1248.length k1251)] a ∧ Wd ⟨w0, S0, []⟩ Sv1252 [.row p1250 e1248.length k1251 c1249 46 2] [RowA c1249 e1248] w) ?_ ?_
  ·refine wp_block ?_
   have hw := hw.nilRow Span 46
   refine wp_while (fun sv945 a w => ∃ (c1142 : List Value) (p1143 : Option Addr) (k1144 : Nat) (Sv1145 : Nat → Prop), Sl 117 [(3, .slice p541 e539.length k542), (6, .slice p1143 sv945.1.length k1144), (7, .int .i64 sv945.2)] a ∧ Wd ⟨w0, S0, []⟩ Sv1145 [.row p541 e539.length k542 c540 46 2, .row p1143 sv945.1.length k1144 c1142 46 2] [RowA c540 e539, RowA c1142 sv945.1] w) (([] : List Span), 0) h1540 ⟨[], none, 0, Sv543, (hs.wk rfl), (hw.ft [1, 0] [1, 0] (by decide) rfl rfl)⟩ ?_
   clear h1540
   repeat clear hsh
   rintro sv945 a w tv1246 ⟨c1142, p1143, k1144, Sv1145, hs, hw⟩ hsh hd1245
   delta ref08_Normal_l7 at hsh
   refine wp_seq ?_
   refine wp_seq ?_
   refine wp_region_lit ?_
   refine st_val hs (y_move rfl) trivial rfl rfl fun a hs => ?_
   refine st_val hs (y_move rfl) trivial rfl rfl fun a hs => ?_
   refine st_val hs (y_len Try.runUnderlying27 rfl) trivial rfl rfl fun a hs => ?_
   refine st_val hs (y_lss rfl rfl) trivial rfl rfl fun a hs => ?_
   refine wpList_nil ?_
   refine then_normal ?_
   refine wp_cond_split (hs.ev rfl) (fun h1254 => ?_) (fun h1254 => ?_)
   ·have hsh := ite_t hsh h1254
    refine wp_skip ?_
    refine then_normal ?_
    refine wp_seq ?_
    refine wp_block ?_
    refine wp_seq ?_
    refine wp_region_lit ?_
    refine st_val hs (y_move rfl) trivial rfl rfl fun a hs => ?_
    refine st_val hs (y_len Try.runUnderlying27 rfl) trivial rfl rfl fun a hs => ?_
    obtain ⟨n1352, h1351, hsh⟩ := bind_t hsh
    refine st_val hs (y_assignI rfl h1351) trivial rfl rfl fun a hs => ?_
    refine wpList_nil ?_
    refine then_normal ?_
    refine wp_seq ?_
    obtain ⟨c1379, hc1379, hsh⟩ := bind_t hsh
    refine wp_only (fun a w => ∃ (Sv1380 : Nat → Prop), Sl 117 [(3, .slice p541 e539.length k542), (6, .slice p1143 sv945.1.length k1144), (7, .int .i64 sv945.2), (8, .int .i64 n1352), (91, .bool c1379)] a ∧ Wd ⟨w0, S0, []⟩ Sv1380 [.row p541 e539.length k542 c540 46 2, .row p1143 sv945.1.length k1144 c1142 46 2] [RowA c540 e539, RowA c1142 sv945.1] w) ?_ ?_
    ·rcases Bool.eq_false_or_eq_true (decide (0 < n1352)) with h1381 | h1381
     ·have h1382 := ite_t hc1379 h1381
      obtain ⟨x1385, h1383, h1382⟩ := bind_t h1382
      obtain ⟨b1392, q1389, c1390, h1393, h1386, h1387, h1391, h1384⟩ := hw.elemRV (α := Span) 0 rfl 0 rfl h1383
      have hsv1394 := hs
      have hwv1395 := hw
      subst h1393
      have hs := hsv1394
      have hw := hwv1395
      obtain ⟨_, _, rfl, rfl, rfl⟩ := h1384
      obtain ⟨x1398, h1396, h1382⟩ := bind_t h1382
      obtain ⟨b1405, q1402, c1403, h1406, h1399, h1400, h1404, h1397⟩ := hw.elemRV (α := Span) 1 rfl 1 rfl h1396
      have hsv1407 := hs
      have hwv1408 := hw
      subst h1406
      have hs := hsv1407
      have hw := hwv1408
      obtain ⟨_, _, rfl, rfl, rfl⟩ := h1397
      refine h_b (C := Cls [.row (some ⟨b1392, 0, none⟩) e539.length k542 c540 46 2, .row (some ⟨b1405, 0, none⟩) sv945.1.length k1144 c1142 46 2] []) (by kernel_rfl) rfl (hw.drew.cs [0, 1] [] rfl rfl) fun hC => ?_
      have hw := hw.drew
      refine h_g hs 0 rfl (by kernel_rfl) rfl rfl hC rfl (fun w hC => y_move rfl) fun a hs => ?_
      refine h_g hs 1 rfl (by kernel_rfl) rfl rfl hC rfl (fun w hC => y_gtr rfl rfl) fun a hs => ?_
      refine h_g hs 2 rfl (by kernel_rfl) rfl rfl hC rfl (fun w hC => y_move rfl) fun a hs => ?_
      have hs := hs.fix 78 (.bool true) rfl (vb h1381)
      refine h_t hs 3 rfl (by kernel_rfl) ⟨_, rfl, rfl⟩ rfl rfl hC (fun w hC => y_move rfl) fun a hs => ?_
      refine h_t hs 4 rfl (by kernel_rfl) ⟨_, rfl, rfl⟩ rfl rfl hC (fun w hC => y_move rfl) fun a hs => ?_
      refine h_t hs 5 rfl (by kernel_rfl) ⟨_, rfl, rfl⟩ rfl rfl hC (fun w hC => y_indexAt Try.runUnderlying27 Try.sizeOf46 rfl rfl h1386.1 h1386.2 h1387) fun a hs => ?_
      refine h_t hs 6 rfl (by kernel_rfl) ⟨_, rfl, rfl⟩ rfl rfl hC (fun w hC => y_fieldAddr (o' := q1389 + 0) Try.runUnderlying46 rfl Try.sizeOf3 rfl rfl rfl) fun a hs => ?_
      refine h_t hs 7 rfl (by kernel_rfl) ⟨_, rfl, rfl⟩ rfl rfl hC (fun w hC => y_loadQ1 (j := 0) (hC.ownAt 0 rfl) rfl Try.isAgg3 h1391 rfl) fun a hs => ?_
      refine h_t hs 8 rfl (by kernel_rfl) ⟨_, rfl, rfl⟩ rfl rfl hC (fun w hC => y_move rfl) fun a hs => ?_
      refine h_t hs 9 rfl (by kernel_rfl) ⟨_, rfl, rfl⟩ rfl rfl hC (fun w hC => y_move rfl) fun a hs => ?_
      refine h_t hs 10 rfl (by kernel_rfl) ⟨_, rfl, rfl⟩ rfl rfl hC (fun w hC => y_sub rfl rfl) fun a hs => ?_
      refine h_t hs 11 rfl (by kernel_rfl) ⟨_, rfl, rfl⟩ rfl rfl hC (fun w hC => y_indexAt Try.runUnderlying27 Try.sizeOf46 rfl rfl h1399.1 h1399.2 h1400) fun a hs => ?_
      refine h_t hs 12 rfl (by kernel_rfl) ⟨_, rfl, rfl⟩ rfl rfl hC (fun w hC => y_fieldAddr (o' := q1402 + 1) Try.runUnderlying46 rfl Try.sizeOf3 rfl rfl rfl) fun a hs => ?_
      refine h_t hs 13 rfl (by kernel_rfl) ⟨_, rfl, rfl⟩ rfl rfl hC (fun w hC => y_loadQ1 (j := 1) (hC.ownAt 1 rfl) rfl Try.isAgg3 h1404 rfl) fun a hs => ?_
      refine h_t hs 14 rfl (by kernel_rfl) ⟨_, rfl, rfl⟩ rfl rfl hC (fun w hC => y_leq rfl rfl) fun a hs => ?_
      refine h_g hs 15 rfl (by kernel_rfl) rfl rfl hC rfl (fun w hC => y_pickTE (v := .bool c1379) rfl rfl (vbs h1382)) fun a hs => ?_
      refine h_done (by kernel_rfl) ?_
      exact ⟨Sv1145, (hs.wk rfl), (hw.ft [0, 1] [0, 1] (by decide) rfl rfl)⟩
     ·have h1409 := ite_f hc1379 h1381
      refine h_b (C := Cls [.row p541 e539.length k542 c540 46 2, .row p1143 sv945.1.length k1144 c1142 46 2] []) (by kernel_rfl) rfl (hw.drew.cs [0, 1] [] rfl rfl) fun hC => ?_
      have hw := hw.drew
      refine h_g hs 0 rfl (by kernel_rfl) rfl rfl hC rfl (fun w hC => y_move rfl) fun a hs => ?_
      refine h_g hs 1 rfl (by kernel_rfl) rfl rfl hC rfl (fun w hC => y_gtr rfl rfl) fun a hs => ?_
      refine h_g hs 2 rfl (by kernel_rfl) rfl rfl hC rfl (fun w hC => y_move rfl) fun a hs => ?_
      have hs := hs.fix 78 (.bool false) rfl (vb h1381)
      refine h_s hs 3 rfl (by kernel_rfl) rfl rfl rfl (.inl rfl) rfl rfl hC fun a hs => ?_
      refine h_s hs 4 rfl (by kernel_rfl) rfl rfl rfl (.inl rfl) rfl rfl hC fun a hs => ?_
      refine h_s hs 5 rfl (by kernel_rfl) rfl rfl rfl (.inl rfl) rfl rfl hC fun a hs => ?_
      refine h_s hs 6 rfl (by kernel_rfl) rfl rfl rfl (.inl rfl) rfl rfl hC fun a hs => ?_
      refine h_s hs 7 rfl (by kernel_rfl) rfl rfl rfl (.inl rfl) rfl rfl hC fun a hs => ?_
      refine h_s hs 8 rfl (by kernel_rfl) rfl rfl rfl (.inl rfl) rfl rfl hC fun a hs => ?_
      refine h_s hs 9 rfl (by kernel_rfl) rfl rfl rfl (.inl rfl) rfl rfl hC fun a hs => ?_
      refine h_s hs 10 rfl (by kernel_rfl) rfl rfl rfl (.inl rfl) rfl rfl hC fun a hs => ?_
      refine h_s hs 11 rfl (by kernel_rfl) rfl rfl rfl (.inl rfl) rfl rfl hC fun a hs => ?_
      refine h_s hs 12 rfl (by kernel_rfl) rfl rfl rfl (.inl rfl) rfl rfl hC fun a hs => ?_
      refine h_s hs 13 rfl (by kernel_rfl) rfl rfl rfl (.inl rfl) rfl rfl hC fun a hs => ?_
      refine h_s hs 14 rfl (by kernel_rfl) rfl rfl rfl (.inl rfl) rfl rfl hC fun a hs => ?_
      refine h_g hs 15 rfl (by kernel_rfl) rfl rfl hC rfl (fun w hC => y_pickFE (v := .bool c1379) rfl rfl (vbs h1409)) fun a hs => ?_
      refine h_done (by kernel_rfl) ?_
      exact ⟨Sv1145, (hs.wk rfl), (hw.ft [0, 1] [0, 1] (by decide) rfl rfl)⟩
    ·rintro a w ⟨Sv1380, hs, hw⟩
     refine then_normal ?_
     refine wp_join (fun a w => ∃ (out1475 : (List Span)) (c1471 : List Value) (p1472 : Option Addr) (k1473 : Nat) (Sv1474 : Nat → Prop), ref08_Normal_j4 sv945 out1475 = some tv1246 ∧ Sl 117 [(3, .slice p541 e539.length k542), (6, .slice p1472 out1475.length k1473), (7, .int .i64 sv945.2)] a ∧ Wd ⟨w0, S0, []⟩ Sv1474 [.row p541 e539.length k542 c540 46 2, .row p1472 out1475.length k1473 c1471 46 2] [RowA c540 e539, RowA c1471 out1475] w) ?_ ?_
     ·refine wp_cond_split (hs.ev rfl) (fun h1478 => ?_) (fun h1478 => ?_)
      ·have hsh := ite_t hsh h1478
       obtain ⟨x1481, h1479, hsh⟩ := bind_t hsh
       obtain ⟨b1488, q1485, c1486, h1489, h1482, h1483, h1487, h1480⟩ := hw.elemRV (α := Span) 1 rfl 1 rfl h1479
       have hsv1490 := hs
       have hwv1491 := hw
       subst h1489
       have hs := hsv1490
       have hw := hwv1491
       obtain ⟨_, _, rfl, rfl, rfl⟩ := h1480
       obtain ⟨x1494, h1492, hsh⟩ := bind_t hsh
       obtain ⟨b1501, q1498, c1499, h1502, h1495, h1496, h1500, h1493⟩ := hw.elemRV (α := Span) 0 rfl 0 rfl h1492
       have hsv1503 := hs
       have hwv1504 := hw
       subst h1502
       have hs := hsv1503
       have hw := hwv1504
       obtain ⟨_, _, rfl, rfl, rfl⟩ := h1493
       obtain ⟨x1507, h1505, hsh⟩ := bind_t hsh
       obtain ⟨q1511, c1512, h1508, h1509, h1513, h1506⟩ := hw.elemRK (α := Span) 1 rfl 1 rfl h1505
       obtain ⟨_, _, rfl, rfl, rfl⟩ := h1506
       obtain ⟨l1515, h1514, hsh⟩ := bind_t hsh
       refine wp_only (fun a w => ∃ (Sv1518 : Nat → Prop) (c1516 : List Value), Sl 117 [(3, .slice (some ⟨b1501, 0, none⟩) e539.length k542), (6, .slice (some ⟨b1488, 0, none⟩) l1515.length k1144), (7, .int .i64 sv945.2)] a ∧ Wd ⟨w0, S0, []⟩ Sv1518 [.row (some ⟨b1501, 0, none⟩) e539.length k542 c540 46 2, .row (some ⟨b1488, 0, none⟩) l1515.length k1144 c1516 46 2] [RowA c540 e539, RowA c1516 l1515] w) ?_ ?_
       ·refine h_b (C := Cls [.row (some ⟨b1501, 0, none⟩) e539.length k542 c540 46 2] []) (by kernel_rfl) rfl (hw.drew.cs [0] [] rfl rfl) fun hC => ?_
        have hw := hw.drew
        refine h_g hs 0 rfl (by kernel_rfl) rfl rfl hC rfl (fun w hC => y_move rfl) fun a hs => ?_
        refine h_g hs 1 rfl (by kernel_rfl) rfl rfl hC rfl (fun w hC => y_move rfl) fun a hs => ?_
        refine h_g hs 2 rfl (by kernel_rfl) rfl rfl hC rfl (fun w hC => y_sub rfl rfl) fun a hs => ?_
        refine h_g hs 3 rfl (by kernel_rfl) rfl rfl hC rfl (fun w hC => y_move rfl) fun a hs => ?_
        refine h_g hs 4 rfl (by kernel_rfl) rfl rfl hC rfl (fun w hC => y_move rfl) fun a hs => ?_
        refine h_g hs 5 rfl (by kernel_rfl) rfl rfl hC rfl (fun w hC => y_sub rfl rfl) fun a hs => ?_
        refine h_g hs 6 rfl (by kernel_rfl) rfl rfl hC rfl (fun w hC => y_indexAt Try.runUnderlying27 Try.sizeOf46 rfl rfl h1482.1 h1482.2 h1483) fun a hs => ?_
        refine h_g hs 7 rfl (by kernel_rfl) rfl rfl hC rfl (fun w hC => y_fieldAddr (o' := q1485 + 1) Try.runUnderlying46 rfl Try.sizeOf3 rfl rfl rfl) fun a hs => ?_
        refine h_g hs 9 rfl (by kernel_rfl) rfl rfl hC rfl (fun w hC => y_move rfl) fun a hs => ?_
        refine h_g hs 10 rfl (by kernel_rfl) rfl rfl hC rfl (fun w hC => y_move rfl) fun a hs => ?_
        refine h_g hs 11 rfl (by kernel_rfl) rfl rfl hC rfl (fun w hC => y_indexAt Try.runUnderlying27 Try.sizeOf46 rfl rfl h1495.1 h1495.2 h1496) fun a hs => ?_
        refine h_g hs 12 rfl (by kernel_rfl) rfl rfl hC rfl (fun w hC => y_fieldAddr (o' := q1498 + 1) Try.runUnderlying46 rfl Try.sizeOf3 rfl rfl rfl) fun a hs => ?_
        refine h_g hs 13 rfl (by kernel_rfl) rfl rfl hC rfl (fun w hC => y_loadQ1 (j := 1) (hC.ownAt 0 rfl) rfl Try.isAgg3 h1500 rfl) fun a hs => ?_
        refine h_one (i := 8) (by kernel_rfl) rfl ?_
        refine st_val hs (y_loadQ1 (j := 1) (hw.ownAt 1 rfl) rfl Try.isAgg3 h1487 rfl) trivial rfl rfl fun a hs => ?_
        refine h_nx (hw.cs [0] [] rfl rfl) fun hC => ?_
        refine h_g hs 14 rfl (by kernel_rfl) rfl rfl hC rfl (fun w hC => y_max rfl rfl) fun a hs => ?_
        refine h_g hs 15 rfl (by kernel_rfl) rfl rfl hC rfl (fun w hC => y_indexAt Try.runUnderlying27 Try.sizeOf46 rfl rfl h1508.1 h1508.2 h1509) fun a hs => ?_
        refine h_g hs 16 rfl (by kernel_rfl) rfl rfl hC rfl (fun w hC => y_fieldAddr (o' := q1511 + 1) Try.runUnderlying46 rfl Try.sizeOf3 rfl rfl rfl) fun a hs => ?_
        refine h_one (i := 17) (by kernel_rfl) rfl ?_
        refine w_storeR (α := Span) (f := 1) (m := 1) hs hw 1 rfl 1 rfl h1509 rfl rfl Try.sizeOf3 rfl rfl rfl h1514 (fun es he => by rw [h1513] at he; subst he; exact ⟨_, _, rfl, rfl, rfl⟩) trivial ?_
        intro c1516 a w hs hw
        have h1517 := setM_len h1514
        try have hs := hs.fix 6 (.slice (some ⟨b1488, 0, none⟩) l1515.length k1144) rfl (by rw [h1517])
        try have hs := hs.fix 92 (.slice (some ⟨b1488, 0, none⟩) l1515.length k1144) rfl (by rw [h1517])
        try have hs := hs.fix 95 (.slice (some ⟨b1488, 0, none⟩) l1515.length k1144) rfl (by rw [h1517])
        refine h_nx (hw.cs [0] [] rfl rfl) fun hC => ?_
        refine h_done (by kernel_rfl) ?_
        exact ⟨Sv1380, c1516, (hs.wk rfl), (hw.ft [0, 1] [1, 0] (by decide) rfl rfl)⟩
       ·rintro a w ⟨Sv1518, c1516, hs, hw⟩
        refine then_normal ?_
        exact ⟨l1515, c1516, (some ⟨b1488, 0, none⟩), k1144, Sv1518, hsh, (hs.wk rfl), (hw.ft [0, 1] [0, 1] (by decide) rfl rfl)⟩
      ·have hsh := ite_f hsh h1478
       refine wp_region_lit ?_
       refine st_val hs (y_move rfl) trivial rfl rfl fun a hs => ?_
       refine st_val hs (y_move rfl) trivial rfl rfl fun a hs => ?_
       refine st_val hs (y_move rfl) trivial rfl rfl fun a hs => ?_
       obtain ⟨x1521, h1519, hsh⟩ := bind_t hsh
       obtain ⟨b1528, q1525, c1526, h1529, h1522, h1523, h1527, h1520⟩ := hw.elemRV (α := Span) 0 rfl 0 rfl h1519
       have hsv1530 := hs
       have hwv1531 := hw
       subst h1529
       have hs := hsv1530
       have hw := hwv1531
       obtain ⟨_, _, rfl, rfl, rfl⟩ := h1520
       refine st_val hs (y_indexAt Try.runUnderlying27 Try.sizeOf46 rfl rfl h1522.1 h1522.2 h1523) trivial rfl rfl fun a hs => ?_
       refine st_val hs (y_loadQA (j := 0) (hw.ownAt 0 rfl) rfl Try.isAgg46 Try.sizeOf46 h1527 rfl rfl) trivial rfl rfl fun a hs => ?_
       refine w_litSlice (α := Span) (vs := [.agg #[.int .i64 x1521.From, .int .i64 x1521.To]]) (cs := [.int .i64 x1521.From, .int .i64 x1521.To]) (xs := ([x1521] : List Span)) hs hw El27 rfl rfl rfl rfl rfl rfl ⟨⟨_, _, rfl, rfl, rfl⟩, rfl⟩ rfl trivial rfl fun b1533 a w hs hw => ?_
       obtain ⟨l1535, h1534, hsh⟩ := bind_t hsh
       refine w_appendR (α := Span) hs hw El27 2 rfl rfl rfl 2 rfl 0 rfl 0 rfl h1534 rfl trivial ?_
       intro p1536 k1537 c1538 a w hs hw
       refine st_val hs (y_assign rfl) trivial rfl rfl fun a hs => ?_
       refine wpList_nil ?_
       refine then_normal ?_
       exact ⟨l1535, c1538, p1536, k1537, Sv1380, hsh, (hs.wk rfl), (hw.ft [1, 2] [2, 0] (by decide) rfl rfl)⟩
     ·rintro a w ⟨out1475, c1471, p1472, k1473, Sv1474, hsh, hs, hw⟩
      delta ref08_Normal_j4 at hsh
      refine blk_normal ?_
      refine then_normal ?_
      refine wp_region_lit ?_
      refine st_val hs (y_move rfl) trivial rfl rfl fun a hs => ?_
      refine st_val hs (y_add rfl rfl) trivial rfl rfl fun a hs => ?_
      obtain ⟨i1477, h1476, hsh⟩ := bind_t hsh
      refine st_val hs (y_assignI rfl h1476) trivial rfl rfl fun a hs => ?_
      refine wpList_nil ?_
      refine then_normal ?_
      exact ⟨_, (Option.some.inj hsh).symm, c1471, p1472, k1473, Sv1474, (hs.wk rfl), (hw.ft [0, 1] [0, 1] (by decide) rfl rfl)⟩
   ·have hsh := ite_f hsh h1254
    refine wp_exit ?_
    refine then_exit ?_
    refine then_exit ?_
    refine blk_exit ?_
    have hsh := Option.some.inj hsh
    subst hsh
    have h1539 := hd1245 _ rfl
    subst h1539
    refine then_normal ?_
    exact ⟨c1142, p1143, k1144, Sv1145, (hs.wk rfl), (hw.ft [1] [1] (by decide) rfl rfl)⟩
  ·rintro a w ⟨c1249, p1250, k1251, Sv1252, hs, hw⟩
   refine then_normal ?_
   refine wp_seq ?_
   refine wp_region_lit ?_
   refine st_val hs (y_move rfl) trivial rfl rfl fun a hs => ?_
   refine st_val hs (y_assign rfl) trivial rfl rfl fun a hs => ?_
   refine wpList_nil ?_
   refine then_normal ?_
   have hsh := Option.some.inj hsh
   subst hsh
   refine wp_ret ?_
   exact ret1 hs rfl (rv_tmp rfl) (hw.ret ⟨p1250, k1251, c1249, rfl, (hw.outs [0] (by decide) rfl), (hw.envAt 0 rfl)⟩)

abbrev ref08_Meet_rd (w0 : World) (X : List Nat) (r : (List Span)) : (Nat → Prop) → World → Value → Prop := fun S w v => ∃ (p0_0 : Option Addr) (k0_0 : Nat) (c0_0 : List Value), v = .slice p0_0 r.length k0_0 ∧ Outs X w0 S w [.row p0_0 r.length k0_0 c0_0 46 2] ∧ (RowA c0_0 r).p S w
set_option maxHeartbeats 4000000 in
set_option maxRecDepth 100000 in
theorem ref08_Meet_ok {w0 : World} {S0 : Nat → Prop} {p2 : Option Addr} {k3 : Nat} {p6 : Option Addr} {k7 : Nat} {a1 : (List Span)} {b5 : (List Span)} {r : (List Span)} (hsh : ref08_Meet a1 b5 = some r) (hS : ∀ b, S0 b → b < w0.heap.size) (h4 : (SlA p2 a1.length k3 a1).p S0 w0) (h8 : (SlA p6 b5.length k7 b5).p S0 w0) : Calls Try.prog 50 #[.slice p2 a1.length k3, .slice p6 b5.length k7] w0 (Ret ([]) w0 S0 (ref08_Meet_rd w0 ([]) r)) := by
 refine calls_of_wp Try.func50 rfl ?_
 have hs := Sl.enter #[.slice p2 a1.length k3, .slice p6 b5.length k7] 61 [(0, .slice p2 a1.length k3), (1, .slice p6 b5.length k7)] rfl ⟨rfl, rfl, trivial⟩
 have hw := Wd.enter (E := []) hS (fun _ h => (by cases h))
 have hw := hw.addE h4
 have hw := hw.addE h8
 delta ref08_Meet at hsh
 refine wp_seq ?_
 refine wp_region_lit ?_
 refine st_val hs (y_assign rfl) trivial rfl rfl fun a hs => ?_
 refine wpList_nil ?_
 refine then_normal ?_
 refine wp_seq ?_
 refine wp_region_lit ?_
 refine st_val hs (y_move rfl) trivial rfl rfl fun a hs => ?_
 obtain ⟨rv10, h9, hsh⟩ := bind_t hsh
 refine st_callR hs (ref08_Normal_ok h9 hw.dom (hw.envAt 1 rfl)) (do_call Try.call51 rfl) trivial rfl rfl ?_
 intro v18 Sv15 w a h16 h17 hs
 obtain ⟨p11, k12, c14, rfl, h19, h13⟩ := h17
 have hw := hw.callN h16 h19
 have hw := hw.addE (e := RowA c14 rv10) h13
 refine st_val hs (y_move rfl) trivial rfl rfl fun a hs => ?_
 obtain ⟨rv21, h20, hsh⟩ := bind_t hsh
 refine st_callR hs (ref08_Normal_ok h20 hw.dom (hw.envAt 1 rfl)) (do_call Try.call51 rfl) trivial rfl rfl ?_
 intro v29 Sv26 w a h27 h28 hs
 obtain ⟨p22, k23, c25, rfl, h30, h24⟩ := h28
 have hw := hw.callN h27 h30
 have hw := hw.addE (e := RowA c25 rv21) h24
 refine st_val hs (y_assign rfl) trivial rfl rfl fun a hs => ?_
 refine st_val hs (y_assign rfl) trivial rfl rfl fun a hs => ?_
 refine wpList_nil ?_
 refine then_normal ?_
 refine wp_seq ?_
 refine wp_region_lit ?_
 refine st_val hs (y_assign rfl) trivial rfl rfl fun a hs => ?_
 refine wpList_nil ?_
 refine then_normal ?_
 refine wp_seq ?_
 refine wp_seq ?_
 refine wp_region_lit ?_
 refine st_val hs (y_assign rfl) trivial rfl rfl fun a hs => ?_
 refine wpList_nil ?_
 refine then_normal ?_
 obtain ⟨e661, h1221, hsh⟩ := bind_t hsh
 refine wp_join (fun a w => ∃ (c662 : List Value) (p663 : Option Addr) (k664 : Nat) (Sv665 : Nat → Prop), Sl 61 [(7, .slice p663 e661.length k664)] a ∧ Wd ⟨w0, S0, []⟩ Sv665 [.row p663 e661.length k664 c662 46 2] [RowA c662 e661] w) ?_ ?_
 ·refine wp_block ?_
  have hw := hw.nilRow Span 46
  refine wp_while (fun sv31 a w => ∃ (c448 : List Value) (p449 : Option Addr) (k450 : Nat) (Sv451 : Nat → Prop), Sl 61 [(5, .slice p11 rv10.length k12), (6, .slice p22 rv21.length k23), (7, .slice p449 sv31.1.length k450), (8, .int .i64 sv31.2)] a ∧ Wd ⟨w0, S0, []⟩ Sv451 [.row p11 rv10.length k12 c14 46 2, .row p22 rv21.length k23 c25 46 2, .row p449 sv31.1.length k450 c448 46 2] [RowA c14 rv10, RowA c25 rv21, RowA c448 sv31.1] w) (([] : List Span), 0) h1221 ⟨[], none, 0, Sv26, (hs.wk rfl), (hw.ft [2, 1, 0] [2, 1, 0] (by decide) rfl rfl)⟩ ?_
  clear h1221
  repeat clear hsh
  rintro sv31 a w tv659 ⟨c448, p449, k450, Sv451, hs, hw⟩ hsh hd658
  delta ref08_Meet_l3 at hsh
  refine wp_seq ?_
  refine wp_seq ?_
  refine wp_region_lit ?_
  refine st_val hs (y_move rfl) trivial rfl rfl fun a hs => ?_
  refine st_val hs (y_move rfl) trivial rfl rfl fun a hs => ?_
  refine st_val hs (y_len Try.runUnderlying27 rfl) trivial rfl rfl fun a hs => ?_
  refine st_val hs (y_lss rfl rfl) trivial rfl rfl fun a hs => ?_
  refine wpList_nil ?_
  refine then_normal ?_
  refine wp_cond_split (hs.ev rfl) (fun h667 => ?_) (fun h667 => ?_)
  ·have hsh := ite_t hsh h667
   refine wp_skip ?_
   refine then_normal ?_
   refine wp_seq ?_
   refine wp_block ?_
   refine wp_seq ?_
   refine wp_region_lit ?_
   refine st_val hs (y_assign rfl) trivial rfl rfl fun a hs => ?_
   refine wpList_nil ?_
   refine then_normal ?_
   obtain ⟨e1069, h1207, hsh⟩ := bind_t hsh
   refine wp_join (fun a w => ∃ (c1070 : List Value) (p1071 : Option Addr) (k1072 : Nat) (Sv1073 : Nat → Prop), Sl 61 [(5, .slice p11 rv10.length k12), (6, .slice p22 rv21.length k23), (7, .slice p1071 e1069.length k1072), (8, .int .i64 sv31.2)] a ∧ Wd ⟨w0, S0, []⟩ Sv1073 [.row p11 rv10.length k12 c14 46 2, .row p22 rv21.length k23 c25 46 2, .row p1071 e1069.length k1072 c1070 46 2] [RowA c14 rv10, RowA c25 rv21, RowA c1070 e1069] w) ?_ ?_
   ·refine wp_block ?_
    refine wp_while (fun sv871 a w => ∃ (c1000 : List Value) (p1001 : Option Addr) (k1002 : Nat) (Sv1003 : Nat → Prop), Sl 61 [(5, .slice p11 rv10.length k12), (6, .slice p22 rv21.length k23), (7, .slice p1001 sv871.1.length k1002), (8, .int .i64 sv31.2), (9, .int .i64 sv871.2)] a ∧ Wd ⟨w0, S0, []⟩ Sv1003 [.row p11 rv10.length k12 c14 46 2, .row p22 rv21.length k23 c25 46 2, .row p1001 sv871.1.length k1002 c1000 46 2] [RowA c14 rv10, RowA c25 rv21, RowA c1000 sv871.1] w) (sv31.1, 0) h1207 ⟨c448, p449, k450, Sv451, (hs.wk rfl), (hw.ft [0, 1, 2] [0, 1, 2] (by decide) rfl rfl)⟩ ?_
    clear h1207
    repeat clear hsh
    rintro sv871 a w tv1067 ⟨c1000, p1001, k1002, Sv1003, hs, hw⟩ hsh hd1066
    delta ref08_Meet_l6 at hsh
    refine wp_seq ?_
    refine wp_seq ?_
    refine wp_region_lit ?_
    refine st_val hs (y_move rfl) trivial rfl rfl fun a hs => ?_
    refine st_val hs (y_move rfl) trivial rfl rfl fun a hs => ?_
    refine st_val hs (y_len Try.runUnderlying27 rfl) trivial rfl rfl fun a hs => ?_
    refine st_val hs (y_lss rfl rfl) trivial rfl rfl fun a hs => ?_
    refine wpList_nil ?_
    refine then_normal ?_
    refine wp_cond_split (hs.ev rfl) (fun h1075 => ?_) (fun h1075 => ?_)
    ·have hsh := ite_t hsh h1075
     refine wp_skip ?_
     refine then_normal ?_
     refine wp_seq ?_
     refine wp_block ?_
     refine wp_seq ?_
     obtain ⟨x1137, h1135, hsh⟩ := bind_t hsh
     obtain ⟨b1144, q1141, c1142, h1145, h1138, h1139, h1143, h1136⟩ := hw.elemRV (α := Span) 0 rfl 0 rfl h1135
     have hsv1146 := hs
     have hwv1147 := hw
     subst h1145
     have hs := hsv1146
     have hw := hwv1147
     obtain ⟨_, _, rfl, rfl, rfl⟩ := h1136
     obtain ⟨x1150, h1148, hsh⟩ := bind_t hsh
     obtain ⟨b1157, q1154, c1155, h1158, h1151, h1152, h1156, h1149⟩ := hw.elemRV (α := Span) 1 rfl 1 rfl h1148
     have hsv1159 := hs
     have hwv1160 := hw
     subst h1158
     have hs := hsv1159
     have hw := hwv1160
     obtain ⟨_, _, rfl, rfl, rfl⟩ := h1149
     obtain ⟨x1163, h1161, hsh⟩ := bind_t hsh
     obtain ⟨q1167, c1168, h1164, h1165, h1169, h1162⟩ := hw.elemRK (α := Span) 0 rfl 0 rfl h1161
     obtain ⟨_, _, rfl, rfl, rfl⟩ := h1162
     obtain ⟨x1172, h1170, hsh⟩ := bind_t hsh
     obtain ⟨q1176, c1177, h1173, h1174, h1178, h1171⟩ := hw.elemRK (α := Span) 1 rfl 1 rfl h1170
     obtain ⟨_, _, rfl, rfl, rfl⟩ := h1171
     refine wp_only (fun a w => ∃ (Sv1180 : Nat → Prop) (b1179 : Nat), Sl 61 [(5, .slice (some ⟨b1144, 0, none⟩) rv10.length k12), (6, .slice (some ⟨b1157, 0, none⟩) rv21.length k23), (7, .slice p1001 sv871.1.length k1002), (8, .int .i64 sv31.2), (9, .int .i64 sv871.2), (10, .pointer (some ⟨b1179, 0, none⟩))] a ∧ Wd ⟨w0, S0, []⟩ Sv1180 [.box b1179 [.int .i64 (max x1137.From x1150.From), .int .i64 (min x1163.To x1172.To)] 46, .row (some ⟨b1144, 0, none⟩) rv10.length k12 c14 46 2, .row (some ⟨b1157, 0, none⟩) rv21.length k23 c25 46 2, .row p1001 sv871.1.length k1002 c1000 46 2] [RowA c14 rv10, RowA c25 rv21, RowA c1000 sv871.1] w) ?_ ?_
     ·refine h_b (C := Cls [.row (some ⟨b1144, 0, none⟩) rv10.length k12 c14 46 2, .row (some ⟨b1157, 0, none⟩) rv21.length k23 c25 46 2, .row p1001 sv871.1.length k1002 c1000 46 2] []) (by kernel_rfl) rfl (hw.drew.cs [0, 1, 2] [] rfl rfl) fun hC => ?_
      have hw := hw.drew
      refine h_g hs 0 rfl (by kernel_rfl) rfl rfl hC rfl (fun w hC => y_move rfl) fun a hs => ?_
      refine h_g hs 1 rfl (by kernel_rfl) rfl rfl hC rfl (fun w hC => y_move rfl) fun a hs => ?_
      refine h_g hs 2 rfl (by kernel_rfl) rfl rfl hC rfl (fun w hC => y_indexAt Try.runUnderlying27 Try.sizeOf46 rfl rfl h1138.1 h1138.2 h1139) fun a hs => ?_
      refine h_g hs 3 rfl (by kernel_rfl) rfl rfl hC rfl (fun w hC => y_fieldAddr (o' := q1141 + 0) Try.runUnderlying46 rfl Try.sizeOf3 rfl rfl rfl) fun a hs => ?_
      refine h_g hs 4 rfl (by kernel_rfl) rfl rfl hC rfl (fun w hC => y_loadQ1 (j := 0) (hC.ownAt 0 rfl) rfl Try.isAgg3 h1143 rfl) fun a hs => ?_
      refine h_g hs 5 rfl (by kernel_rfl) rfl rfl hC rfl (fun w hC => y_move rfl) fun a hs => ?_
      refine h_g hs 6 rfl (by kernel_rfl) rfl rfl hC rfl (fun w hC => y_move rfl) fun a hs => ?_
      refine h_g hs 7 rfl (by kernel_rfl) rfl rfl hC rfl (fun w hC => y_indexAt Try.runUnderlying27 Try.sizeOf46 rfl rfl h1151.1 h1151.2 h1152) fun a hs => ?_
      refine h_g hs 8 rfl (by kernel_rfl) rfl rfl hC rfl (fun w hC => y_fieldAddr (o' := q1154 + 0) Try.runUnderlying46 rfl Try.sizeOf3 rfl rfl rfl) fun a hs => ?_
      refine h_g hs 9 rfl (by kernel_rfl) rfl rfl hC rfl (fun w hC => y_loadQ1 (j := 0) (hC.ownAt 1 rfl) rfl Try.isAgg3 h1156 rfl) fun a hs => ?_
      refine h_g hs 10 rfl (by kernel_rfl) rfl rfl hC rfl (fun w hC => y_max rfl rfl) fun a hs => ?_
      refine h_g hs 11 rfl (by kernel_rfl) rfl rfl hC rfl (fun w hC => y_move rfl) fun a hs => ?_
      refine h_g hs 12 rfl (by kernel_rfl) rfl rfl hC rfl (fun w hC => y_move rfl) fun a hs => ?_
      refine h_g hs 13 rfl (by kernel_rfl) rfl rfl hC rfl (fun w hC => y_indexAt Try.runUnderlying27 Try.sizeOf46 rfl rfl h1164.1 h1164.2 h1165) fun a hs => ?_
      refine h_g hs 14 rfl (by kernel_rfl) rfl rfl hC rfl (fun w hC => y_fieldAddr (o' := q1167 + 1) Try.runUnderlying46 rfl Try.sizeOf3 rfl rfl rfl) fun a hs => ?_
      refine h_g hs 15 rfl (by kernel_rfl) rfl rfl hC rfl (fun w hC => y_loadQ1 (j := 1) (hC.ownAt 0 rfl) rfl Try.isAgg3 h1169 rfl) fun a hs => ?_
      refine h_g hs 16 rfl (by kernel_rfl) rfl rfl hC rfl (fun w hC => y_move rfl) fun a hs => ?_
      refine h_g hs 17 rfl (by kernel_rfl) rfl rfl hC rfl (fun w hC => y_move rfl) fun a hs => ?_
      refine h_g hs 18 rfl (by kernel_rfl) rfl rfl hC rfl (fun w hC => y_indexAt Try.runUnderlying27 Try.sizeOf46 rfl rfl h1173.1 h1173.2 h1174) fun a hs => ?_
      refine h_g hs 19 rfl (by kernel_rfl) rfl rfl hC rfl (fun w hC => y_fieldAddr (o' := q1176 + 1) Try.runUnderlying46 rfl Try.sizeOf3 rfl rfl rfl) fun a hs => ?_
      refine h_g hs 20 rfl (by kernel_rfl) rfl rfl hC rfl (fun w hC => y_loadQ1 (j := 1) (hC.ownAt 1 rfl) rfl Try.isAgg3 h1178 rfl) fun a hs => ?_
      refine h_g hs 21 rfl (by kernel_rfl) rfl rfl hC rfl (fun w hC => y_min rfl rfl) fun a hs => ?_
      refine h_g hs 22 rfl (by kernel_rfl) rfl rfl hC rfl (fun w hC => y_build (vs := [(0, .int .i64 (max x1137.From x1150.From)), (1, .int .i64 (min x1163.To x1172.To))]) Bld46 rfl rfl) fun a hs => ?_
      refine h_one (i := 23) (by kernel_rfl) rfl ?_
      refine w_alloc (cs := [.int .i64 0, .int .i64 0]) hs hw Try.zeroValue46 rfl rfl trivial ?_
      intro b1179 a w hs hw
      refine h_nx (hw.cs [1, 2, 3] [] rfl rfl) fun hC => ?_
      refine h_one (i := 24) (by kernel_rfl) rfl ?_
      refine w_store (m := 2) (cs' := [.int .i64 (max x1137.From x1150.From), .int .i64 (min x1163.To x1172.To)]) hs hw 0 rfl rfl rfl Try.sizeOf46 rfl rfl rfl rfl trivial ?_
      intro a w hs hw
      refine h_nx (hw.cs [1, 2, 3] [] rfl rfl) fun hC => ?_
      refine h_done (by kernel_rfl) ?_
      exact ⟨Sv1003, b1179, (hs.wk rfl), (hw.ft [0, 1, 2, 3] [0, 1, 2] (by decide) rfl rfl)⟩
     ·rintro a w ⟨Sv1180, b1179, hs, hw⟩
      refine then_normal ?_
      refine wp_seq ?_
      refine wp_region_lit ?_
      refine st_val hs (y_fieldAddr (o' := 0) Try.runUnderlying46 rfl Try.sizeOf3 rfl rfl rfl) trivial rfl rfl fun a hs => ?_
      refine st_val hs (y_loadB1 (hw.ownAt 0 rfl) rfl Try.isAgg3 rfl) trivial rfl rfl fun a hs => ?_
      refine st_val hs (y_fieldAddr (o' := 1) Try.runUnderlying46 rfl Try.sizeOf3 rfl rfl rfl) trivial rfl rfl fun a hs => ?_
      refine st_val hs (y_loadB1 (hw.ownAt 0 rfl) rfl Try.isAgg3 rfl) trivial rfl rfl fun a hs => ?_
      refine st_val hs (y_lss rfl rfl) trivial rfl rfl fun a hs => ?_
      refine wpList_nil ?_
      refine then_normal ?_
      refine wp_join (fun a w => ∃ (out1193 : (List Span)) (c1189 : List Value) (p1190 : Option Addr) (k1191 : Nat) (Sv1192 : Nat → Prop), ref08_Meet_j1 sv871 out1193 = some tv1067 ∧ Sl 61 [(5, .slice (some ⟨b1144, 0, none⟩) rv10.length k12), (6, .slice (some ⟨b1157, 0, none⟩) rv21.length k23), (7, .slice p1190 out1193.length k1191), (8, .int .i64 sv31.2), (9, .int .i64 sv871.2)] a ∧ Wd ⟨w0, S0, []⟩ Sv1192 [.row (some ⟨b1144, 0, none⟩) rv10.length k12 c14 46 2, .row (some ⟨b1157, 0, none⟩) rv21.length k23 c25 46 2, .row p1190 out1193.length k1191 c1189 46 2] [RowA c14 rv10, RowA c25 rv21, RowA c1189 out1193] w) ?_ ?_
      ·refine wp_cond_split (hs.ev rfl) (fun h1196 => ?_) (fun h1196 => ?_)
       ·have hsh := ite_t hsh h1196
        refine wp_region_lit ?_
        refine st_val hs (y_move rfl) trivial rfl rfl fun a hs => ?_
        refine st_val hs (y_loadBA (hw.ownAt 0 rfl) rfl Try.isAgg46 Try.sizeOf46 rfl rfl) trivial rfl rfl fun a hs => ?_
        refine w_litSlice (α := Span) (vs := [.agg #[.int .i64 (max x1137.From x1150.From), .int .i64 (min x1163.To x1172.To)]]) (cs := [.int .i64 (max x1137.From x1150.From), .int .i64 (min x1163.To x1172.To)]) (xs := ([(⟨(max x1137.From x1150.From), (min x1163.To x1172.To)⟩ : Span)] : List Span)) hs hw El27 rfl rfl rfl rfl rfl rfl ⟨⟨_, _, rfl, rfl, rfl⟩, rfl⟩ rfl trivial rfl fun b1198 a w hs hw => ?_
        obtain ⟨l1200, h1199, hsh⟩ := bind_t hsh
        refine w_appendR (α := Span) hs hw El27 4 rfl rfl rfl 3 rfl 0 rfl 0 rfl h1199 rfl trivial ?_
        intro p1201 k1202 c1203 a w hs hw
        refine st_val hs (y_assign rfl) trivial rfl rfl fun a hs => ?_
        refine wpList_nil ?_
        refine then_normal ?_
        exact ⟨l1200, c1203, p1201, k1202, Sv1180, hsh, (hs.wk rfl), (hw.ft [2, 3, 4] [2, 3, 0] (by decide) rfl rfl)⟩
       ·have hsh := ite_f hsh h1196
        refine wp_skip ?_
        refine then_normal ?_
        exact ⟨sv871.1, c1000, p1001, k1002, Sv1180, hsh, (hs.wk rfl), (hw.ft [1, 2, 3] [0, 1, 2] (by decide) rfl rfl)⟩
      ·rintro a w ⟨out1193, c1189, p1190, k1191, Sv1192, hsh, hs, hw⟩
       delta ref08_Meet_j1 at hsh
       refine blk_normal ?_
       refine then_normal ?_
       refine wp_region_lit ?_
       refine st_val hs (y_move rfl) trivial rfl rfl fun a hs => ?_
       refine st_val hs (y_add rfl rfl) trivial rfl rfl fun a hs => ?_
       obtain ⟨k1195, h1194, hsh⟩ := bind_t hsh
       refine st_val hs (y_assignI rfl h1194) trivial rfl rfl fun a hs => ?_
       refine wpList_nil ?_
       refine then_normal ?_
       exact ⟨_, (Option.some.inj hsh).symm, c1189, p1190, k1191, Sv1192, (hs.wk rfl), (hw.ft [0, 1, 2] [0, 1, 2] (by decide) rfl rfl)⟩
    ·have hsh := ite_f hsh h1075
     refine wp_exit ?_
     refine then_exit ?_
     refine then_exit ?_
     refine blk_exit ?_
     have hsh := Option.some.inj hsh
     subst hsh
     have h1204 := hd1066 _ rfl
     subst h1204
     refine then_normal ?_
     exact ⟨c1000, p1001, k1002, Sv1003, (hs.wk rfl), (hw.ft [0, 1, 2] [0, 1, 2] (by decide) rfl rfl)⟩
   ·rintro a w ⟨c1070, p1071, k1072, Sv1073, hs, hw⟩
    refine blk_normal ?_
    refine then_normal ?_
    refine wp_region_lit ?_
    refine st_val hs (y_move rfl) trivial rfl rfl fun a hs => ?_
    refine st_val hs (y_add rfl rfl) trivial rfl rfl fun a hs => ?_
    obtain ⟨i1206, h1205, hsh⟩ := bind_t hsh
    refine st_val hs (y_assignI rfl h1205) trivial rfl rfl fun a hs => ?_
    refine wpList_nil ?_
    refine then_normal ?_
    exact ⟨_, (Option.some.inj hsh).symm, c1070, p1071, k1072, Sv1073, (hs.wk rfl), (hw.ft [0, 1, 2] [0, 1, 2] (by decide) rfl rfl)⟩
  ·have hsh := ite_f hsh h667
   refine wp_exit ?_
   refine then_exit ?_
   refine then_exit ?_
   refine blk_exit ?_
   have hsh := Option.some.inj hsh
   subst hsh
   have h1208 := hd658 _ rfl
   subst h1208
   refine then_normal ?_
   exact ⟨c448, p449, k450, Sv451, (hs.wk rfl), (hw.ft [2] [2] (by decide) rfl rfl)⟩
 ·rintro a w ⟨c662, p663, k664, Sv665, hs, hw⟩
  refine then_normal ?_
  refine wp_seq ?_
  refine wp_region_lit ?_
  refine st_val hs (y_move rfl) trivial rfl rfl fun a hs => ?_
  obtain ⟨rv1210, h1209, hsh⟩ := bind_t hsh
  obtain ⟨Sv1215, hw⟩ := w_share (α := Span) hw 0 rfl 0 rfl
  refine st_callR hs (ref08_Normal_ok h1209 hw.dom (hw.envAt 0 rfl)) (do_call Try.call51 rfl) trivial rfl rfl ?_
  intro v1219 Sv1216 w a h1217 h1218 hs
  obtain ⟨p1211, k1212, c1214, rfl, h1220, h1213⟩ := h1218
  have hw := hw.callN h1217 h1220
  have hw := hw.addE (e := RowA c1214 rv1210) h1213
  refine st_val hs (y_assign rfl) trivial rfl rfl fun a hs => ?_
  refine wpList_nil ?_
  refine then_normal ?_
  have hsh := Option.some.inj hsh
  subst hsh
  refine wp_ret ?_
  exact ret1 hs rfl (rv_tmp rfl) (hw.ret ⟨p1211, k1212, c1214, rfl, (hw.outs [0] (by decide) rfl), (hw.envAt 0 rfl)⟩)

abbrev ref11_Valid_rd (w0 : World) (X : List Nat) (r : Bool) : (Nat → Prop) → World → Value → Prop := fun S w v => v = .bool r
set_option maxHeartbeats 4000000 in
set_option maxRecDepth 100000 in
theorem ref11_Valid_ok {w0 : World} {S0 : Nat → Prop} {p2 : Option Addr} {k3 : Nat} {p4 : Option Addr} {k5 : Nat} {r1 : Receiver} {r : Bool} (hsh : ref11_Valid r1 = some r) (hS : ∀ b, S0 b → b < w0.heap.size) (h6 : (SlA p2 r1.Got.length k3 r1.Got).p S0 w0) (h7 : (SlA p4 r1.Lost.length k5 r1.Lost).p S0 w0) : Calls Try.prog 27 #[.agg #[.slice p2 r1.Got.length k3, .slice p4 r1.Lost.length k5]] w0 (Ret ([]) w0 S0 (ref11_Valid_rd w0 ([]) r)) := by
 refine calls_of_wp Try.func27 rfl ?_
 have hs := Sl.enter #[.agg #[.slice p2 r1.Got.length k3, .slice p4 r1.Lost.length k5]] 20 [(0, .agg #[.slice p2 r1.Got.length k3, .slice p4 r1.Lost.length k5])] rfl ⟨rfl, trivial⟩
 have hw := Wd.enter (E := []) hS (fun _ h => (by cases h))
 have hw := hw.addE h6
 have hw := hw.addE h7
 delta ref11_Valid at hsh
 refine wp_seq ?_
 refine wp_region_lit ?_
 refine w_box (cs := [.slice p2 r1.Got.length k3, .slice p4 r1.Lost.length k5]) hs hw rfl rfl rfl trivial ?_
 intro b8 a w hs hw
 refine st_val hs (y_assign rfl) trivial rfl rfl fun a hs => ?_
 refine wpList_nil ?_
 refine then_normal ?_
 refine wp_seq ?_
 refine wp_region_lit ?_
 refine st_val hs (y_fieldAddr (o' := 0) Try.runUnderlying29 rfl Try.sizeOf27 rfl rfl rfl) trivial rfl rfl fun a hs => ?_
 refine st_val hs (y_loadB1 (hw.ownAt 0 rfl) rfl Try.isAgg27 rfl) trivial rfl rfl fun a hs => ?_
 obtain ⟨rv10, h9, hsh⟩ := bind_t hsh
 refine st_callR hs (ref11_numbers_ok h9 hw.bdom (hw.bE 1 rfl)) (do_call Try.call49 rfl) trivial rfl rfl ?_
 intro v14 Sv11 w a h12 h13 hs
 subst h13
 have hw := hw.callB h12
 refine st_val hs (y_move rfl) trivial rfl rfl fun a hs => ?_
 obtain ⟨c24, hc24, hsh⟩ := bind_t hsh
 refine wpl_join 4 (fun a w => ∃ (Sv25 : Nat → Prop), Sl 20 [(1, .pointer (some ⟨b8, 0, none⟩)), (10, .bool c24)] a ∧ Wd ⟨w0, S0, []⟩ Sv25 [.box b8 [.slice p2 r1.Got.length k3, .slice p4 r1.Lost.length k5] 29] [SlA p2 r1.Got.length k3 r1.Got, SlA p4 r1.Lost.length k5 r1.Lost] w) ?_ ?_
 ·rcases Bool.eq_false_or_eq_true rv10 with h23 | h23
  ·have hs := hs.fix 6 (.bool true) rfl (vb h23)
   have hsh := ite_t hc24 h23
   refine st_val hs (y_fieldAddr (o' := 1) Try.runUnderlying29 rfl Try.sizeOf27 rfl rfl rfl) ⟨_, rfl, rfl⟩ rfl rfl fun a hs => ?_
   refine st_val hs (y_loadB1 (hw.ownAt 0 rfl) rfl Try.isAgg27 rfl) ⟨_, rfl, rfl⟩ rfl rfl fun a hs => ?_
   obtain ⟨rv27, h26, hsh⟩ := bind_t hsh
   refine st_callR hs (ref11_numbers_ok h26 hw.bdom (hw.bE 0 rfl)) (do_call Try.call49 rfl) ⟨_, rfl, rfl⟩ rfl rfl ?_
   intro v31 Sv28 w a h29 h30 hs
   subst h30
   have hw := hw.callB h29
   refine st_val hs (y_pickT rfl rfl) trivial rfl rfl fun a hs => ?_
   refine wpList_nil ?_
   have hsh := Option.some.inj hsh
   subst hsh
   refine then_normal ?_
   exact ⟨S0, (hs.wk rfl), (hw.ft [0] [1, 0] (by decide) rfl rfl)⟩
  ·have hs := hs.fix 6 (.bool false) rfl (vb h23)
   have hsh := ite_f hc24 h23
   refine st_skip hs rfl rfl rfl rfl rfl fun a hs => ?_
   refine st_skip hs rfl rfl rfl rfl rfl fun a hs => ?_
   refine st_skip hs rfl rfl rfl rfl rfl fun a hs => ?_
   refine st_val hs (y_pickF rfl rfl) trivial rfl rfl fun a hs => ?_
   refine wpList_nil ?_
   have hsh := Option.some.inj hsh
   subst hsh
   refine then_normal ?_
   exact ⟨S0, (hs.wk rfl), (hw.ft [0] [1, 0] (by decide) rfl rfl)⟩
 ·rintro a w ⟨Sv25, hs, hw⟩
  refine st_val hs (y_move rfl) trivial rfl rfl fun a hs => ?_
  obtain ⟨c45, hc45, hsh⟩ := bind_t hsh
  refine wpl_join 8 (fun a w => ∃ (Sv46 : Nat → Prop), Sl 20 [(19, .bool c45)] a ∧ Wd ⟨w0, S0, []⟩ Sv46 [] [] w) ?_ ?_
  ·rcases Bool.eq_false_or_eq_true c24 with h44 | h44
   ·have hs := hs.fix 11 (.bool true) rfl (vb h44)
    have hsh := ite_t hc45 h44
    refine st_val hs (y_fieldAddr (o' := 0) Try.runUnderlying29 rfl Try.sizeOf27 rfl rfl rfl) ⟨_, rfl, rfl⟩ rfl rfl fun a hs => ?_
    refine st_val hs (y_loadB1 (hw.ownAt 0 rfl) rfl Try.isAgg27 rfl) ⟨_, rfl, rfl⟩ rfl rfl fun a hs => ?_
    refine st_val hs (y_fieldAddr (o' := 1) Try.runUnderlying29 rfl Try.sizeOf27 rfl rfl rfl) ⟨_, rfl, rfl⟩ rfl rfl fun a hs => ?_
    refine st_val hs (y_loadB1 (hw.ownAt 0 rfl) rfl Try.isAgg27 rfl) ⟨_, rfl, rfl⟩ rfl rfl fun a hs => ?_
    obtain ⟨rv48, h47, hsh⟩ := bind_t hsh
    refine st_callR hs (ref08_Meet_ok h47 hw.dom (hw.envAt 0 rfl) (hw.envAt 1 rfl)) (do_call Try.call50 rfl) ⟨_, rfl, rfl⟩ rfl rfl ?_
    intro v56 Sv53 w a h54 h55 hs
    obtain ⟨p49, k50, c52, rfl, h57, h51⟩ := h55
    have hw := hw.callN h54 h57
    have hw := hw.addE (e := RowA c52 rv48) h51
    refine st_val hs (y_len Try.runUnderlying27 rfl) ⟨_, rfl, rfl⟩ rfl rfl fun a hs => ?_
    refine st_val hs (y_eql rfl rfl) ⟨_, rfl, rfl⟩ rfl rfl fun a hs => ?_
    refine st_val hs (y_pickT rfl rfl) trivial rfl rfl fun a hs => ?_
    refine wpList_nil ?_
    have hsh := Option.some.inj hsh
    subst hsh
    refine then_normal ?_
    exact ⟨Sv53, (hs.wk rfl), (hw.ft [] [] (by decide) rfl rfl)⟩
   ·have hs := hs.fix 11 (.bool false) rfl (vb h44)
    have hsh := ite_f hc45 h44
    refine st_skip hs rfl rfl rfl rfl rfl fun a hs => ?_
    refine st_skip hs rfl rfl rfl rfl rfl fun a hs => ?_
    refine st_skip hs rfl rfl rfl rfl rfl fun a hs => ?_
    refine st_skip hs rfl rfl rfl rfl rfl fun a hs => ?_
    refine st_skip hs rfl rfl rfl rfl rfl fun a hs => ?_
    refine st_skip hs rfl rfl rfl rfl rfl fun a hs => ?_
    refine st_skip hs rfl rfl rfl rfl rfl fun a hs => ?_
    refine st_val hs (y_pickF rfl rfl) trivial rfl rfl fun a hs => ?_
    refine wpList_nil ?_
    have hsh := Option.some.inj hsh
    subst hsh
    refine then_normal ?_
    exact ⟨Sv25, (hs.wk rfl), (hw.ft [] [] (by decide) rfl rfl)⟩
  ·rintro a w ⟨Sv46, hs, hw⟩
   refine st_val hs (y_assign rfl) trivial rfl rfl fun a hs => ?_
   refine wpList_nil ?_
   refine then_normal ?_
   have hsh := Option.some.inj hsh
   subst hsh
   refine wp_ret ?_
   exact ret1 hs rfl (rv_tmp rfl) (hw.ret rfl)

abbrev ref01_In_rd (w0 : World) (X : List Nat) (r : Bool) : (Nat → Prop) → World → Value → Prop := fun S w v => v = .bool r
set_option maxHeartbeats 4000000 in
set_option maxRecDepth 100000 in
theorem ref01_In_ok {w0 : World} {S0 : Nat → Prop} {n1 : Int} {lo2 : Int} {hi3 : Int} {r : Bool} (hsh : ref01_In n1 lo2 hi3 = some r) (hS : ∀ b, S0 b → b < w0.heap.size) : Calls Try.prog 43 #[.int .i64 n1, .int .i64 lo2, .int .i64 hi3] w0 (Ret ([]) w0 S0 (ref01_In_rd w0 ([]) r)) := by
 refine calls_of_wp Try.func43 rfl ?_
 have hs := Sl.enter #[.int .i64 n1, .int .i64 lo2, .int .i64 hi3] 15 [(0, .int .i64 n1), (1, .int .i64 lo2), (2, .int .i64 hi3)] rfl ⟨rfl, rfl, rfl, trivial⟩
 have hw := Wd.enter (E := []) hS (fun _ h => (by cases h))
 delta ref01_In at hsh
 refine wp_seq ?_
 refine wp_region_lit ?_
 refine st_val hs (y_assign rfl) trivial rfl rfl fun a hs => ?_
 refine wpList_nil ?_
 refine then_normal ?_
 refine wp_seq ?_
 refine wp_region_lit ?_
 refine st_val hs (y_move rfl) trivial rfl rfl fun a hs => ?_
 refine st_val hs (y_move rfl) trivial rfl rfl fun a hs => ?_
 refine st_val hs (y_geq rfl rfl) trivial rfl rfl fun a hs => ?_
 refine st_val hs (y_move rfl) trivial rfl rfl fun a hs => ?_
 refine wpl_join 4 (fun a w1 => w0 = w1 ∧ Sl 15 [(14, .bool ((decide (lo2 ≤ n1)) && (decide (n1 ≤ hi3))))] a) ?_ ?_
 ·rcases Bool.eq_false_or_eq_true (decide (lo2 ≤ n1)) with h4 | h4
  ·have hs := hs.fix 10 (.bool true) rfl (vb h4)
   refine st_val hs (y_move rfl) ⟨_, rfl, rfl⟩ rfl rfl fun a hs => ?_
   refine st_val hs (y_move rfl) ⟨_, rfl, rfl⟩ rfl rfl fun a hs => ?_
   refine st_val hs (y_leq rfl rfl) ⟨_, rfl, rfl⟩ rfl rfl fun a hs => ?_
   refine st_val hs (y_pickT rfl rfl) trivial rfl rfl fun a hs => ?_
   refine wpList_nil ?_
   refine then_normal ?_
   exact ⟨rfl, (hs.fix 14 (.bool ((decide (lo2 ≤ n1)) && (decide (n1 ≤ hi3)))) rfl (and_t h4)).weaken _ ⟨rfl, trivial⟩⟩
  ·have hs := hs.fix 10 (.bool false) rfl (vb h4)
   refine st_skip hs rfl rfl rfl rfl rfl fun a hs => ?_
   refine st_skip hs rfl rfl rfl rfl rfl fun a hs => ?_
   refine st_skip hs rfl rfl rfl rfl rfl fun a hs => ?_
   refine st_val hs (y_pickF rfl rfl) trivial rfl rfl fun a hs => ?_
   refine wpList_nil ?_
   refine then_normal ?_
   exact ⟨rfl, (hs.fix 14 (.bool ((decide (lo2 ≤ n1)) && (decide (n1 ≤ hi3)))) rfl (and_f h4)).weaken _ ⟨rfl, trivial⟩⟩
 ·rintro a w1 ⟨h5, hs⟩
  subst h5
  refine st_val hs (y_assign rfl) trivial rfl rfl fun a hs => ?_
  refine wpList_nil ?_
  refine then_normal ?_
  have hsh := Option.some.inj hsh
  subst hsh
  refine wp_ret ?_
  exact ret1 hs rfl (rv_tmp rfl) (hw.ret rfl)

abbrev ref08_Minus_rd (w0 : World) (X : List Nat) (r : (List Span)) : (Nat → Prop) → World → Value → Prop := fun S w v => ∃ (p0_0 : Option Addr) (k0_0 : Nat) (c0_0 : List Value), v = .slice p0_0 r.length k0_0 ∧ Outs X w0 S w [.row p0_0 r.length k0_0 c0_0 46 2] ∧ (RowA c0_0 r).p S w
set_option maxHeartbeats 4000000 in
set_option maxRecDepth 100000 in
theorem ref08_Minus_ok {w0 : World} {S0 : Nat → Prop} {p2 : Option Addr} {k3 : Nat} {p6 : Option Addr} {k7 : Nat} {a1 : (List Span)} {b5 : (List Span)} {r : (List Span)} (hsh : ref08_Minus a1 b5 = some r) (hS : ∀ b, S0 b → b < w0.heap.size) (h4 : (SlA p2 a1.length k3 a1).p S0 w0) (h8 : (SlA p6 b5.length k7 b5).p S0 w0) : Calls Try.prog 32 #[.slice p2 a1.length k3, .slice p6 b5.length k7] w0 (Ret ([]) w0 S0 (ref08_Minus_rd w0 ([]) r)) := by
 refine calls_of_wp Try.func32 rfl ?_
 have hs := Sl.enter #[.slice p2 a1.length k3, .slice p6 b5.length k7] 94 [(0, .slice p2 a1.length k3), (1, .slice p6 b5.length k7)] rfl ⟨rfl, rfl, trivial⟩
 have hw := Wd.enter (E := []) hS (fun _ h => (by cases h))
 have hw := hw.addE h4
 have hw := hw.addE h8
 delta ref08_Minus at hsh
 refine wp_seq ?_
 refine wp_region_lit ?_
 refine st_val hs (y_assign rfl) trivial rfl rfl fun a hs => ?_
 refine wpList_nil ?_
 refine then_normal ?_
 refine wp_seq ?_
 refine wp_region_lit ?_
 refine st_val hs (y_move rfl) trivial rfl rfl fun a hs => ?_
 obtain ⟨rv10, h9, hsh⟩ := bind_t hsh
 refine st_callR hs (ref08_Normal_ok h9 hw.dom (hw.envAt 1 rfl)) (do_call Try.call51 rfl) trivial rfl rfl ?_
 intro v18 Sv15 w a h16 h17 hs
 obtain ⟨p11, k12, c14, rfl, h19, h13⟩ := h17
 have hw := hw.callN h16 h19
 have hw := hw.addE (e := RowA c14 rv10) h13
 refine st_val hs (y_move rfl) trivial rfl rfl fun a hs => ?_
 obtain ⟨rv21, h20, hsh⟩ := bind_t hsh
 refine st_callR hs (ref08_Normal_ok h20 hw.dom (hw.envAt 1 rfl)) (do_call Try.call51 rfl) trivial rfl rfl ?_
 intro v29 Sv26 w a h27 h28 hs
 obtain ⟨p22, k23, c25, rfl, h30, h24⟩ := h28
 have hw := hw.callN h27 h30
 have hw := hw.addE (e := RowA c25 rv21) h24
 refine st_val hs (y_assign rfl) trivial rfl rfl fun a hs => ?_
 refine st_val hs (y_assign rfl) trivial rfl rfl fun a hs => ?_
 refine wpList_nil ?_
 refine then_normal ?_
 refine wp_seq ?_
 refine wp_region_lit ?_
 refine st_val hs (y_assign rfl) trivial rfl rfl fun a hs => ?_
 refine wpList_nil ?_
 refine then_normal ?_
 refine wp_seq ?_
 refine wp_seq ?_
 refine wp_region_lit ?_
 refine st_val hs (y_assign rfl) trivial rfl rfl fun a hs => ?_
 refine wpList_nil ?_
 refine then_normal ?_
 obtain ⟨e1000, h1862, hsh⟩ := bind_t hsh
 refine wp_join (fun a w => ∃ (c1001 : List Value) (p1002 : Option Addr) (k1003 : Nat) (Sv1004 : Nat → Prop), Sl 94 [(7, .slice p1002 e1000.length k1003)] a ∧ Wd ⟨w0, S0, []⟩ Sv1004 [.row p1002 e1000.length k1003 c1001 46 2] [RowA c1001 e1000] w) ?_ ?_
 ·refine wp_block ?_
  have hw := hw.nilRow Span 46
  refine wp_while (fun sv31 a w => ∃ (c674 : List Value) (p675 : Option Addr) (k676 : Nat) (Sv677 : Nat → Prop), Sl 94 [(5, .slice p11 rv10.length k12), (6, .slice p22 rv21.length k23), (7, .slice p675 sv31.1.length k676), (8, .int .i64 sv31.2)] a ∧ Wd ⟨w0, S0, []⟩ Sv677 [.row p11 rv10.length k12 c14 46 2, .row p22 rv21.length k23 c25 46 2, .row p675 sv31.1.length k676 c674 46 2] [RowA c14 rv10, RowA c25 rv21, RowA c674 sv31.1] w) (([] : List Span), 0) h1862 ⟨[], none, 0, Sv26, (hs.wk rfl), (hw.ft [2, 1, 0] [2, 1, 0] (by decide) rfl rfl)⟩ ?_
  clear h1862
  repeat clear hsh
  rintro sv31 a w tv998 ⟨c674, p675, k676, Sv677, hs, hw⟩ hsh hd997
  delta ref08_Minus_l3 at hsh
  refine wp_seq ?_
  refine wp_seq ?_
  refine wp_region_lit ?_
  refine st_val hs (y_move rfl) trivial rfl rfl fun a hs => ?_
  refine st_val hs (y_move rfl) trivial rfl rfl fun a hs => ?_
  refine st_val hs (y_len Try.runUnderlying27 rfl) trivial rfl rfl fun a hs => ?_
  refine st_val hs (y_lss rfl rfl) trivial rfl rfl fun a hs => ?_
  refine wpList_nil ?_
  refine then_normal ?_
  refine wp_cond_split (hs.ev rfl) (fun h1006 => ?_) (fun h1006 => ?_)
  ·have hsh := ite_t hsh h1006
   refine wp_skip ?_
   refine then_normal ?_
   refine wp_seq ?_
   refine wp_block ?_
   refine wp_seq ?_
   refine wp_region_lit ?_
   refine st_val hs (y_move rfl) trivial rfl rfl fun a hs => ?_
   refine st_val hs (y_move rfl) trivial rfl rfl fun a hs => ?_
   obtain ⟨x1325, h1323, hsh⟩ := bind_t hsh
   obtain ⟨b1332, q1329, c1330, h1333, h1326, h1327, h1331, h1324⟩ := hw.elemRV (α := Span) 0 rfl 0 rfl h1323
   have hsv1334 := hs
   have hwv1335 := hw
   subst h1333
   have hs := hsv1334
   have hw := hwv1335
   obtain ⟨_, _, rfl, rfl, rfl⟩ := h1324
   refine st_val hs (y_indexAt Try.runUnderlying27 Try.sizeOf46 rfl rfl h1326.1 h1326.2 h1327) trivial rfl rfl fun a hs => ?_
   refine st_val hs (y_fieldAddr (o' := q1329 + 0) Try.runUnderlying46 rfl Try.sizeOf3 rfl rfl rfl) trivial rfl rfl fun a hs => ?_
   refine st_val hs (y_loadQ1 (j := 0) (hw.ownAt 0 rfl) rfl Try.isAgg3 h1331 rfl) trivial rfl rfl fun a hs => ?_
   refine st_val hs (y_assign rfl) trivial rfl rfl fun a hs => ?_
   refine wpList_nil ?_
   refine then_normal ?_
   refine wp_seq ?_
   refine wp_seq ?_
   refine wp_region_lit ?_
   refine st_val hs (y_assign rfl) trivial rfl rfl fun a hs => ?_
   refine wpList_nil ?_
   refine then_normal ?_
   obtain ⟨e1603, h1860, hsh⟩ := bind_t hsh
   refine wp_join (fun a w => ∃ (c1604 : List Value) (p1605 : Option Addr) (k1606 : Nat) (Sv1607 : Nat → Prop), Sl 94 [(5, .slice (some ⟨b1332, 0, none⟩) rv10.length k12), (6, .slice p22 rv21.length k23), (7, .slice p1605 e1603.1.length k1606), (8, .int .i64 sv31.2), (9, .int .i64 e1603.2)] a ∧ Wd ⟨w0, S0, []⟩ Sv1607 [.row (some ⟨b1332, 0, none⟩) rv10.length k12 c14 46 2, .row p22 rv21.length k23 c25 46 2, .row p1605 e1603.1.length k1606 c1604 46 2] [RowA c14 rv10, RowA c25 rv21, RowA c1604 e1603.1] w) ?_ ?_
   ·refine wp_block ?_
    refine wp_while (fun sv1336 a w => ∃ (c1511 : List Value) (p1512 : Option Addr) (k1513 : Nat) (Sv1514 : Nat → Prop), Sl 94 [(5, .slice (some ⟨b1332, 0, none⟩) rv10.length k12), (6, .slice p22 rv21.length k23), (7, .slice p1512 sv1336.1.length k1513), (8, .int .i64 sv31.2), (9, .int .i64 sv1336.2.1), (10, .int .i64 sv1336.2.2)] a ∧ Wd ⟨w0, S0, []⟩ Sv1514 [.row (some ⟨b1332, 0, none⟩) rv10.length k12 c14 46 2, .row p22 rv21.length k23 c25 46 2, .row p1512 sv1336.1.length k1513 c1511 46 2] [RowA c14 rv10, RowA c25 rv21, RowA c1511 sv1336.1] w) (sv31.1, x1325.From, 0) h1860 ⟨c674, p675, k676, Sv677, (hs.wk rfl), (hw.ft [0, 1, 2] [0, 1, 2] (by decide) rfl rfl)⟩ ?_
    clear h1860
    repeat clear hsh
    rintro sv1336 a w tv1601 ⟨c1511, p1512, k1513, Sv1514, hs, hw⟩ hsh hd1600
    delta ref08_Minus_l6 at hsh
    refine wp_seq ?_
    refine wp_seq ?_
    refine wp_region_lit ?_
    refine st_val hs (y_move rfl) trivial rfl rfl fun a hs => ?_
    refine st_val hs (y_move rfl) trivial rfl rfl fun a hs => ?_
    refine st_val hs (y_len Try.runUnderlying27 rfl) trivial rfl rfl fun a hs => ?_
    refine st_val hs (y_lss rfl rfl) trivial rfl rfl fun a hs => ?_
    refine wpList_nil ?_
    refine then_normal ?_
    refine wp_cond_split (hs.ev rfl) (fun h1609 => ?_) (fun h1609 => ?_)
    ·have hsh := ite_t hsh h1609
     refine wp_skip ?_
     refine then_normal ?_
     refine wp_seq ?_
     refine wp_join (fun a w => ∃ (out1690 : (List Span)) (fromv1691 : Int) (c1686 : List Value) (p1687 : Option Addr) (k1688 : Nat) (Sv1689 : Nat → Prop), ref08_Minus_j1 sv1336 out1690 fromv1691 = some tv1601 ∧ Sl 94 [(5, .slice (some ⟨b1332, 0, none⟩) rv10.length k12), (6, .slice p22 rv21.length k23), (7, .slice p1687 out1690.length k1688), (8, .int .i64 sv31.2), (9, .int .i64 fromv1691), (10, .int .i64 sv1336.2.2)] a ∧ Wd ⟨w0, S0, []⟩ Sv1689 [.row (some ⟨b1332, 0, none⟩) rv10.length k12 c14 46 2, .row p22 rv21.length k23 c25 46 2, .row p1687 out1690.length k1688 c1686 46 2] [RowA c14 rv10, RowA c25 rv21, RowA c1686 out1690] w) ?_ ?_
     ·refine wp_block ?_
      refine wp_seq ?_
      refine wp_seq ?_
      obtain ⟨x1696, h1694, hsh⟩ := bind_t hsh
      obtain ⟨b1703, q1700, c1701, h1704, h1697, h1698, h1702, h1695⟩ := hw.elemRV (α := Span) 1 rfl 1 rfl h1694
      have hsv1705 := hs
      have hwv1706 := hw
      subst h1704
      have hs := hsv1705
      have hw := hwv1706
      obtain ⟨_, _, rfl, rfl, rfl⟩ := h1695
      obtain ⟨c1725, hc1725, hsh⟩ := bind_t hsh
      refine wp_only (fun a w => ∃ (Sv1726 : Nat → Prop), Sl 94 [(5, .slice (some ⟨b1332, 0, none⟩) rv10.length k12), (6, .slice (some ⟨b1703, 0, none⟩) rv21.length k23), (7, .slice p1512 sv1336.1.length k1513), (8, .int .i64 sv31.2), (9, .int .i64 sv1336.2.1), (10, .int .i64 sv1336.2.2), (51, .bool c1725)] a ∧ Wd ⟨w0, S0, []⟩ Sv1726 [.row (some ⟨b1332, 0, none⟩) rv10.length k12 c14 46 2, .row (some ⟨b1703, 0, none⟩) rv21.length k23 c25 46 2, .row p1512 sv1336.1.length k1513 c1511 46 2] [RowA c14 rv10, RowA c25 rv21, RowA c1511 sv1336.1] w) ?_ ?_
      ·rcases Bool.eq_false_or_eq_true (decide (x1696.To ≤ sv1336.2.1)) with h1727 | h1727
       ·have h1728 := ite_t hc1725 h1727
        refine h_b (C := Cls [.row (some ⟨b1332, 0, none⟩) rv10.length k12 c14 46 2, .row (some ⟨b1703, 0, none⟩) rv21.length k23 c25 46 2, .row p1512 sv1336.1.length k1513 c1511 46 2] []) (by kernel_rfl) rfl (hw.drew.cs [0, 1, 2] [] rfl rfl) fun hC => ?_
        have hw := hw.drew
        refine h_g hs 0 rfl (by kernel_rfl) rfl rfl hC rfl (fun w hC => y_move rfl) fun a hs => ?_
        refine h_g hs 1 rfl (by kernel_rfl) rfl rfl hC rfl (fun w hC => y_move rfl) fun a hs => ?_
        refine h_g hs 2 rfl (by kernel_rfl) rfl rfl hC rfl (fun w hC => y_indexAt Try.runUnderlying27 Try.sizeOf46 rfl rfl h1697.1 h1697.2 h1698) fun a hs => ?_
        refine h_g hs 3 rfl (by kernel_rfl) rfl rfl hC rfl (fun w hC => y_fieldAddr (o' := q1700 + 1) Try.runUnderlying46 rfl Try.sizeOf3 rfl rfl rfl) fun a hs => ?_
        refine h_g hs 4 rfl (by kernel_rfl) rfl rfl hC rfl (fun w hC => y_loadQ1 (j := 1) (hC.ownAt 1 rfl) rfl Try.isAgg3 h1702 rfl) fun a hs => ?_
        refine h_g hs 5 rfl (by kernel_rfl) rfl rfl hC rfl (fun w hC => y_move rfl) fun a hs => ?_
        refine h_g hs 6 rfl (by kernel_rfl) rfl rfl hC rfl (fun w hC => y_leq rfl rfl) fun a hs => ?_
        refine h_g hs 7 rfl (by kernel_rfl) rfl rfl hC rfl (fun w hC => y_move rfl) fun a hs => ?_
        have hs := hs.fix 39 (.bool true) rfl (vb h1727)
        refine h_s hs 8 rfl (by kernel_rfl) rfl rfl rfl (.inl rfl) rfl rfl hC fun a hs => ?_
        refine h_s hs 9 rfl (by kernel_rfl) rfl rfl rfl (.inl rfl) rfl rfl hC fun a hs => ?_
        refine h_s hs 10 rfl (by kernel_rfl) rfl rfl rfl (.inl rfl) rfl rfl hC fun a hs => ?_
        refine h_s hs 11 rfl (by kernel_rfl) rfl rfl rfl (.inl rfl) rfl rfl hC fun a hs => ?_
        refine h_s hs 12 rfl (by kernel_rfl) rfl rfl rfl (.inl rfl) rfl rfl hC fun a hs => ?_
        refine h_s hs 13 rfl (by kernel_rfl) rfl rfl rfl (.inl rfl) rfl rfl hC fun a hs => ?_
        refine h_s hs 14 rfl (by kernel_rfl) rfl rfl rfl (.inl rfl) rfl rfl hC fun a hs => ?_
        refine h_s hs 15 rfl (by kernel_rfl) rfl rfl rfl (.inl rfl) rfl rfl hC fun a hs => ?_
        refine h_s hs 16 rfl (by kernel_rfl) rfl rfl rfl (.inl rfl) rfl rfl hC fun a hs => ?_
        refine h_s hs 17 rfl (by kernel_rfl) rfl rfl rfl (.inl rfl) rfl rfl hC fun a hs => ?_
        refine h_s hs 18 rfl (by kernel_rfl) rfl rfl rfl (.inl rfl) rfl rfl hC fun a hs => ?_
        refine h_g hs 19 rfl (by kernel_rfl) rfl rfl hC rfl (fun w hC => y_pickTE (v := .bool c1725) rfl rfl (vbs h1728)) fun a hs => ?_
        refine h_done (by kernel_rfl) ?_
        exact ⟨Sv1514, (hs.wk rfl), (hw.ft [0, 1, 2] [0, 1, 2] (by decide) rfl rfl)⟩
       ·have h1729 := ite_f hc1725 h1727
        obtain ⟨x1732, h1730, h1729⟩ := bind_t h1729
        obtain ⟨q1736, c1737, h1733, h1734, h1738, h1731⟩ := hw.elemRK (α := Span) 1 rfl 1 rfl h1730
        obtain ⟨_, _, rfl, rfl, rfl⟩ := h1731
        obtain ⟨x1741, h1739, h1729⟩ := bind_t h1729
        obtain ⟨q1745, c1746, h1742, h1743, h1747, h1740⟩ := hw.elemRK (α := Span) 0 rfl 0 rfl h1739
        obtain ⟨_, _, rfl, rfl, rfl⟩ := h1740
        refine h_b (C := Cls [.row (some ⟨b1332, 0, none⟩) rv10.length k12 c14 46 2, .row (some ⟨b1703, 0, none⟩) rv21.length k23 c25 46 2, .row p1512 sv1336.1.length k1513 c1511 46 2] []) (by kernel_rfl) rfl (hw.drew.cs [0, 1, 2] [] rfl rfl) fun hC => ?_
        have hw := hw.drew
        refine h_g hs 0 rfl (by kernel_rfl) rfl rfl hC rfl (fun w hC => y_move rfl) fun a hs => ?_
        refine h_g hs 1 rfl (by kernel_rfl) rfl rfl hC rfl (fun w hC => y_move rfl) fun a hs => ?_
        refine h_g hs 2 rfl (by kernel_rfl) rfl rfl hC rfl (fun w hC => y_indexAt Try.runUnderlying27 Try.sizeOf46 rfl rfl h1697.1 h1697.2 h1698) fun a hs => ?_
        refine h_g hs 3 rfl (by kernel_rfl) rfl rfl hC rfl (fun w hC => y_fieldAddr (o' := q1700 + 1) Try.runUnderlying46 rfl Try.sizeOf3 rfl rfl rfl) fun a hs => ?_
        refine h_g hs 4 rfl (by kernel_rfl) rfl rfl hC rfl (fun w hC => y_loadQ1 (j := 1) (hC.ownAt 1 rfl) rfl Try.isAgg3 h1702 rfl) fun a hs => ?_
        refine h_g hs 5 rfl (by kernel_rfl) rfl rfl hC rfl (fun w hC => y_move rfl) fun a hs => ?_
        refine h_g hs 6 rfl (by kernel_rfl) rfl rfl hC rfl (fun w hC => y_leq rfl rfl) fun a hs => ?_
        refine h_g hs 7 rfl (by kernel_rfl) rfl rfl hC rfl (fun w hC => y_move rfl) fun a hs => ?_
        have hs := hs.fix 39 (.bool false) rfl (vb h1727)
        refine h_t hs 8 rfl (by kernel_rfl) ⟨_, rfl, rfl⟩ rfl rfl hC (fun w hC => y_move rfl) fun a hs => ?_
        refine h_t hs 9 rfl (by kernel_rfl) ⟨_, rfl, rfl⟩ rfl rfl hC (fun w hC => y_move rfl) fun a hs => ?_
        refine h_t hs 10 rfl (by kernel_rfl) ⟨_, rfl, rfl⟩ rfl rfl hC (fun w hC => y_indexAt Try.runUnderlying27 Try.sizeOf46 rfl rfl h1733.1 h1733.2 h1734) fun a hs => ?_
        refine h_t hs 11 rfl (by kernel_rfl) ⟨_, rfl, rfl⟩ rfl rfl hC (fun w hC => y_fieldAddr (o' := q1736 + 0) Try.runUnderlying46 rfl Try.sizeOf3 rfl rfl rfl) fun a hs => ?_
        refine h_t hs 12 rfl (by kernel_rfl) ⟨_, rfl, rfl⟩ rfl rfl hC (fun w hC => y_loadQ1 (j := 0) (hC.ownAt 1 rfl) rfl Try.isAgg3 h1738 rfl) fun a hs => ?_
        refine h_t hs 13 rfl (by kernel_rfl) ⟨_, rfl, rfl⟩ rfl rfl hC (fun w hC => y_move rfl) fun a hs => ?_
        refine h_t hs 14 rfl (by kernel_rfl) ⟨_, rfl, rfl⟩ rfl rfl hC (fun w hC => y_move rfl) fun a hs => ?_
        refine h_t hs 15 rfl (by kernel_rfl) ⟨_, rfl, rfl⟩ rfl rfl hC (fun w hC => y_indexAt Try.runUnderlying27 Try.sizeOf46 rfl rfl h1742.1 h1742.2 h1743) fun a hs => ?_
        refine h_t hs 16 rfl (by kernel_rfl) ⟨_, rfl, rfl⟩ rfl rfl hC (fun w hC => y_fieldAddr (o' := q1745 + 1) Try.runUnderlying46 rfl Try.sizeOf3 rfl rfl rfl) fun a hs => ?_
        refine h_t hs 17 rfl (by kernel_rfl) ⟨_, rfl, rfl⟩ rfl rfl hC (fun w hC => y_loadQ1 (j := 1) (hC.ownAt 0 rfl) rfl Try.isAgg3 h1747 rfl) fun a hs => ?_
        refine h_t hs 18 rfl (by kernel_rfl) ⟨_, rfl, rfl⟩ rfl rfl hC (fun w hC => y_geq rfl rfl) fun a hs => ?_
        refine h_g hs 19 rfl (by kernel_rfl) rfl rfl hC rfl (fun w hC => y_pickFE (v := .bool c1725) rfl rfl (vbs h1729)) fun a hs => ?_
        refine h_done (by kernel_rfl) ?_
        exact ⟨Sv1514, (hs.wk rfl), (hw.ft [0, 1, 2] [0, 1, 2] (by decide) rfl rfl)⟩
      ·rintro a w ⟨Sv1726, hs, hw⟩
       refine then_normal ?_
       refine wp_cond_split (hs.ev rfl) (fun h1749 => ?_) (fun h1749 => ?_)
       ·have hsh := ite_t hsh h1749
        refine wp_exit ?_
        refine then_exit ?_
        refine blk_exit ?_
        refine then_normal ?_
        exact ⟨sv1336.1, sv1336.2.1, c1511, p1512, k1513, Sv1726, hsh, (hs.wk rfl), (hw.ft [0, 1, 2] [0, 1, 2] (by decide) rfl rfl)⟩
       ·have hsh := ite_f hsh h1749
        refine wp_skip ?_
        refine then_normal ?_
        refine wp_seq ?_
        refine wp_seq ?_
        refine wp_region_lit ?_
        refine st_val hs (y_move rfl) trivial rfl rfl fun a hs => ?_
        refine st_val hs (y_move rfl) trivial rfl rfl fun a hs => ?_
        obtain ⟨x1752, h1750, hsh⟩ := bind_t hsh
        obtain ⟨q1756, c1757, h1753, h1754, h1758, h1751⟩ := hw.elemRK (α := Span) 1 rfl 1 rfl h1750
        obtain ⟨_, _, rfl, rfl, rfl⟩ := h1751
        refine st_val hs (y_indexAt Try.runUnderlying27 Try.sizeOf46 rfl rfl h1753.1 h1753.2 h1754) trivial rfl rfl fun a hs => ?_
        refine st_val hs (y_fieldAddr (o' := q1756 + 0) Try.runUnderlying46 rfl Try.sizeOf3 rfl rfl rfl) trivial rfl rfl fun a hs => ?_
        refine st_val hs (y_loadQ1 (j := 0) (hw.ownAt 1 rfl) rfl Try.isAgg3 h1758 rfl) trivial rfl rfl fun a hs => ?_
        refine st_val hs (y_move rfl) trivial rfl rfl fun a hs => ?_
        refine st_val hs (y_gtr rfl rfl) trivial rfl rfl fun a hs => ?_
        refine wpList_nil ?_
        refine then_normal ?_
        refine wp_join (fun a w => ∃ (out1780 : (List Span)) (c1776 : List Value) (p1777 : Option Addr) (k1778 : Nat) (Sv1779 : Nat → Prop), ref08_Minus_j2 rv21 sv1336 out1780 = some tv1601 ∧ Sl 94 [(5, .slice (some ⟨b1332, 0, none⟩) rv10.length k12), (6, .slice (some ⟨b1703, 0, none⟩) rv21.length k23), (7, .slice p1777 out1780.length k1778), (8, .int .i64 sv31.2), (9, .int .i64 sv1336.2.1), (10, .int .i64 sv1336.2.2)] a ∧ Wd ⟨w0, S0, []⟩ Sv1779 [.row (some ⟨b1332, 0, none⟩) rv10.length k12 c14 46 2, .row (some ⟨b1703, 0, none⟩) rv21.length k23 c25 46 2, .row p1777 out1780.length k1778 c1776 46 2] [RowA c14 rv10, RowA c25 rv21, RowA c1776 out1780] w) ?_ ?_
        ·refine wp_cond_split (hs.ev rfl) (fun h1792 => ?_) (fun h1792 => ?_)
         ·have hsh := ite_t hsh h1792
          refine wp_region_lit ?_
          refine st_val hs (y_move rfl) trivial rfl rfl fun a hs => ?_
          refine st_val hs (y_move rfl) trivial rfl rfl fun a hs => ?_
          refine st_val hs (y_move rfl) trivial rfl rfl fun a hs => ?_
          refine st_val hs (y_move rfl) trivial rfl rfl fun a hs => ?_
          obtain ⟨x1795, h1793, hsh⟩ := bind_t hsh
          obtain ⟨q1799, c1800, h1796, h1797, h1801, h1794⟩ := hw.elemRK (α := Span) 1 rfl 1 rfl h1793
          obtain ⟨_, _, rfl, rfl, rfl⟩ := h1794
          refine st_val hs (y_indexAt Try.runUnderlying27 Try.sizeOf46 rfl rfl h1796.1 h1796.2 h1797) trivial rfl rfl fun a hs => ?_
          refine st_val hs (y_fieldAddr (o' := q1799 + 0) Try.runUnderlying46 rfl Try.sizeOf3 rfl rfl rfl) trivial rfl rfl fun a hs => ?_
          refine st_val hs (y_loadQ1 (j := 0) (hw.ownAt 1 rfl) rfl Try.isAgg3 h1801 rfl) trivial rfl rfl fun a hs => ?_
          refine st_val hs (y_build (vs := [(0, .int .i64 sv1336.2.1), (1, .int .i64 x1795.From)]) Bld46 rfl rfl) trivial rfl rfl fun a hs => ?_
          refine w_litSlice (α := Span) (vs := [.agg #[.int .i64 sv1336.2.1, .int .i64 x1795.From]]) (cs := [.int .i64 sv1336.2.1, .int .i64 x1795.From]) (xs := ([(⟨sv1336.2.1, x1795.From⟩ : Span)] : List Span)) hs hw El27 rfl rfl rfl rfl rfl rfl ⟨⟨_, _, rfl, rfl, rfl⟩, rfl⟩ rfl trivial rfl fun b1803 a w hs hw => ?_
          obtain ⟨l1805, h1804, hsh⟩ := bind_t hsh
          refine w_appendR (α := Span) hs hw El27 3 rfl rfl rfl 3 rfl 0 rfl 0 rfl h1804 rfl trivial ?_
          intro p1806 k1807 c1808 a w hs hw
          refine st_val hs (y_assign rfl) trivial rfl rfl fun a hs => ?_
          refine wpList_nil ?_
          refine then_normal ?_
          exact ⟨l1805, c1808, p1806, k1807, Sv1726, hsh, (hs.wk rfl), (hw.ft [1, 2, 3] [2, 3, 0] (by decide) rfl rfl)⟩
         ·have hsh := ite_f hsh h1792
          refine wp_skip ?_
          refine then_normal ?_
          exact ⟨sv1336.1, c1511, p1512, k1513, Sv1726, hsh, (hs.wk rfl), (hw.ft [0, 1, 2] [0, 1, 2] (by decide) rfl rfl)⟩
        ·rintro a w ⟨out1780, c1776, p1777, k1778, Sv1779, hsh, hs, hw⟩
         delta ref08_Minus_j2 at hsh
         refine then_normal ?_
         refine wp_region_lit ?_
         refine st_val hs (y_move rfl) trivial rfl rfl fun a hs => ?_
         refine st_val hs (y_move rfl) trivial rfl rfl fun a hs => ?_
         refine st_val hs (y_move rfl) trivial rfl rfl fun a hs => ?_
         obtain ⟨x1783, h1781, hsh⟩ := bind_t hsh
         obtain ⟨q1787, c1788, h1784, h1785, h1789, h1782⟩ := hw.elemRK (α := Span) 1 rfl 1 rfl h1781
         obtain ⟨_, _, rfl, rfl, rfl⟩ := h1782
         refine st_val hs (y_indexAt Try.runUnderlying27 Try.sizeOf46 rfl rfl h1784.1 h1784.2 h1785) trivial rfl rfl fun a hs => ?_
         refine st_val hs (y_fieldAddr (o' := q1787 + 1) Try.runUnderlying46 rfl Try.sizeOf3 rfl rfl rfl) trivial rfl rfl fun a hs => ?_
         refine st_val hs (y_loadQ1 (j := 1) (hw.ownAt 1 rfl) rfl Try.isAgg3 h1789 rfl) trivial rfl rfl fun a hs => ?_
         refine st_val hs (y_max rfl rfl) trivial rfl rfl fun a hs => ?_
         obtain ⟨fromv1791, h1790, hsh⟩ := bind_t hsh
         refine st_val hs (y_assignI rfl h1790) trivial rfl rfl fun a hs => ?_
         refine wpList_nil ?_
         refine blk_normal ?_
         refine then_normal ?_
         exact ⟨out1780, fromv1791, c1776, p1777, k1778, Sv1779, hsh, (hs.wk rfl), (hw.ft [0, 1, 2] [0, 1, 2] (by decide) rfl rfl)⟩
     ·rintro a w ⟨out1690, fromv1691, c1686, p1687, k1688, Sv1689, hsh, hs, hw⟩
      delta ref08_Minus_j1 at hsh
      refine then_normal ?_
      refine wp_region_lit ?_
      refine st_val hs (y_move rfl) trivial rfl rfl fun a hs => ?_
      refine st_val hs (y_add rfl rfl) trivial rfl rfl fun a hs => ?_
      obtain ⟨k1693, h1692, hsh⟩ := bind_t hsh
      refine st_val hs (y_assignI rfl h1692) trivial rfl rfl fun a hs => ?_
      refine wpList_nil ?_
      refine then_normal ?_
      exact ⟨_, (Option.some.inj hsh).symm, c1686, p1687, k1688, Sv1689, (hs.wk rfl), (hw.ft [0, 1, 2] [0, 1, 2] (by decide) rfl rfl)⟩
    ·have hsh := ite_f hsh h1609
     refine wp_exit ?_
     refine then_exit ?_
     refine then_exit ?_
     refine blk_exit ?_
     have hsh := Option.some.inj hsh
     subst hsh
     have h1809 := hd1600 _ rfl
     subst h1809
     refine then_normal ?_
     exact ⟨c1511, p1512, k1513, Sv1514, (hs.wk rfl), (hw.ft [0, 1, 2] [0, 1, 2] (by decide) rfl rfl)⟩
   ·rintro a w ⟨c1604, p1605, k1606, Sv1607, hs, hw⟩
    refine then_normal ?_
    refine wp_seq ?_
    refine wp_region_lit ?_
    refine st_val hs (y_move rfl) trivial rfl rfl fun a hs => ?_
    refine st_val hs (y_move rfl) trivial rfl rfl fun a hs => ?_
    refine st_val hs (y_move rfl) trivial rfl rfl fun a hs => ?_
    obtain ⟨x1812, h1810, hsh⟩ := bind_t hsh
    obtain ⟨q1816, c1817, h1813, h1814, h1818, h1811⟩ := hw.elemRK (α := Span) 0 rfl 0 rfl h1810
    obtain ⟨_, _, rfl, rfl, rfl⟩ := h1811
    refine st_val hs (y_indexAt Try.runUnderlying27 Try.sizeOf46 rfl rfl h1813.1 h1813.2 h1814) trivial rfl rfl fun a hs => ?_
    refine st_val hs (y_fieldAddr (o' := q1816 + 1) Try.runUnderlying46 rfl Try.sizeOf3 rfl rfl rfl) trivial rfl rfl fun a hs => ?_
    refine st_val hs (y_loadQ1 (j := 1) (hw.ownAt 0 rfl) rfl Try.isAgg3 h1818 rfl) trivial rfl rfl fun a hs => ?_
    refine st_val hs (y_lss rfl rfl) trivial rfl rfl fun a hs => ?_
    refine wpList_nil ?_
    refine then_normal ?_
    refine wp_join (fun a w => ∃ (out1840 : (List Span)) (c1836 : List Value) (p1837 : Option Addr) (k1838 : Nat) (Sv1839 : Nat → Prop), ref08_Minus_j4 sv31 out1840 = some tv998 ∧ Sl 94 [(5, .slice (some ⟨b1332, 0, none⟩) rv10.length k12), (6, .slice p22 rv21.length k23), (7, .slice p1837 out1840.length k1838), (8, .int .i64 sv31.2)] a ∧ Wd ⟨w0, S0, []⟩ Sv1839 [.row (some ⟨b1332, 0, none⟩) rv10.length k12 c14 46 2, .row p22 rv21.length k23 c25 46 2, .row p1837 out1840.length k1838 c1836 46 2] [RowA c14 rv10, RowA c25 rv21, RowA c1836 out1840] w) ?_ ?_
    ·refine wp_cond_split (hs.ev rfl) (fun h1843 => ?_) (fun h1843 => ?_)
     ·have hsh := ite_t hsh h1843
      refine wp_region_lit ?_
      refine st_val hs (y_move rfl) trivial rfl rfl fun a hs => ?_
      refine st_val hs (y_move rfl) trivial rfl rfl fun a hs => ?_
      refine st_val hs (y_move rfl) trivial rfl rfl fun a hs => ?_
      refine st_val hs (y_move rfl) trivial rfl rfl fun a hs => ?_
      obtain ⟨x1846, h1844, hsh⟩ := bind_t hsh
      obtain ⟨q1850, c1851, h1847, h1848, h1852, h1845⟩ := hw.elemRK (α := Span) 0 rfl 0 rfl h1844
      obtain ⟨_, _, rfl, rfl, rfl⟩ := h1845
      refine st_val hs (y_indexAt Try.runUnderlying27 Try.sizeOf46 rfl rfl h1847.1 h1847.2 h1848) trivial rfl rfl fun a hs => ?_
      refine st_val hs (y_fieldAddr (o' := q1850 + 1) Try.runUnderlying46 rfl Try.sizeOf3 rfl rfl rfl) trivial rfl rfl fun a hs => ?_
      refine st_val hs (y_loadQ1 (j := 1) (hw.ownAt 0 rfl) rfl Try.isAgg3 h1852 rfl) trivial rfl rfl fun a hs => ?_
      refine st_val hs (y_build (vs := [(0, .int .i64 e1603.2), (1, .int .i64 x1846.To)]) Bld46 rfl rfl) trivial rfl rfl fun a hs => ?_
      refine w_litSlice (α := Span) (vs := [.agg #[.int .i64 e1603.2, .int .i64 x1846.To]]) (cs := [.int .i64 e1603.2, .int .i64 x1846.To]) (xs := ([(⟨e1603.2, x1846.To⟩ : Span)] : List Span)) hs hw El27 rfl rfl rfl rfl rfl rfl ⟨⟨_, _, rfl, rfl, rfl⟩, rfl⟩ rfl trivial rfl fun b1854 a w hs hw => ?_
      obtain ⟨l1856, h1855, hsh⟩ := bind_t hsh
      refine w_appendR (α := Span) hs hw El27 3 rfl rfl rfl 3 rfl 0 rfl 0 rfl h1855 rfl trivial ?_
      intro p1857 k1858 c1859 a w hs hw
      refine st_val hs (y_assign rfl) trivial rfl rfl fun a hs => ?_
      refine wpList_nil ?_
      refine then_normal ?_
      exact ⟨l1856, c1859, p1857, k1858, Sv1607, hsh, (hs.wk rfl), (hw.ft [1, 2, 3] [2, 3, 0] (by decide) rfl rfl)⟩
     ·have hsh := ite_f hsh h1843
      refine wp_skip ?_
      refine then_normal ?_
      exact ⟨e1603.1, c1604, p1605, k1606, Sv1607, hsh, (hs.wk rfl), (hw.ft [0, 1, 2] [0, 1, 2] (by decide) rfl rfl)⟩
    ·rintro a w ⟨out1840, c1836, p1837, k1838, Sv1839, hsh, hs, hw⟩
     delta ref08_Minus_j4 at hsh
     refine blk_normal ?_
     refine then_normal ?_
     refine wp_region_lit ?_
     refine st_val hs (y_move rfl) trivial rfl rfl fun a hs => ?_
     refine st_val hs (y_add rfl rfl) trivial rfl rfl fun a hs => ?_
     obtain ⟨i1842, h1841, hsh⟩ := bind_t hsh
     refine st_val hs (y_assignI rfl h1841) trivial rfl rfl fun a hs => ?_
     refine wpList_nil ?_
     refine then_normal ?_
     exact ⟨_, (Option.some.inj hsh).symm, c1836, p1837, k1838, Sv1839, (hs.wk rfl), (hw.ft [0, 1, 2] [0, 1, 2] (by decide) rfl rfl)⟩
  ·have hsh := ite_f hsh h1006
   refine wp_exit ?_
   refine then_exit ?_
   refine then_exit ?_
   refine blk_exit ?_
   have hsh := Option.some.inj hsh
   subst hsh
   have h1861 := hd997 _ rfl
   subst h1861
   refine then_normal ?_
   exact ⟨c674, p675, k676, Sv677, (hs.wk rfl), (hw.ft [2] [2] (by decide) rfl rfl)⟩
 ·rintro a w ⟨c1001, p1002, k1003, Sv1004, hs, hw⟩
  refine then_normal ?_
  refine wp_seq ?_
  refine wp_region_lit ?_
  refine st_val hs (y_move rfl) trivial rfl rfl fun a hs => ?_
  refine st_val hs (y_assign rfl) trivial rfl rfl fun a hs => ?_
  refine wpList_nil ?_
  refine then_normal ?_
  have hsh := Option.some.inj hsh
  subst hsh
  refine wp_ret ?_
  exact ret1 hs rfl (rv_tmp rfl) (hw.ret ⟨p1002, k1003, c1001, rfl, (hw.outs [0] (by decide) rfl), (hw.envAt 0 rfl)⟩)

abbrev ref08_Union_rd (w0 : World) (X : List Nat) (r : (List Span)) : (Nat → Prop) → World → Value → Prop := fun S w v => ∃ (p0_0 : Option Addr) (k0_0 : Nat) (c0_0 : List Value), v = .slice p0_0 r.length k0_0 ∧ Outs X w0 S w [.row p0_0 r.length k0_0 c0_0 46 2] ∧ (RowA c0_0 r).p S w
set_option maxHeartbeats 4000000 in
set_option maxRecDepth 100000 in
theorem ref08_Union_ok {w0 : World} {S0 : Nat → Prop} {p2 : Option Addr} {k3 : Nat} {p6 : Option Addr} {k7 : Nat} {a1 : (List Span)} {b5 : (List Span)} {r : (List Span)} (hsh : ref08_Union a1 b5 = some r) (hS : ∀ b, S0 b → b < w0.heap.size) (h4 : (SlA p2 a1.length k3 a1).p S0 w0) (h8 : (SlA p6 b5.length k7 b5).p S0 w0) : Calls Try.prog 45 #[.slice p2 a1.length k3, .slice p6 b5.length k7] w0 (Ret ([]) w0 S0 (ref08_Union_rd w0 ([]) r)) := by
 refine calls_of_wp Try.func45 rfl ?_
 have hs := Sl.enter #[.slice p2 a1.length k3, .slice p6 b5.length k7] 10 [(0, .slice p2 a1.length k3), (1, .slice p6 b5.length k7)] rfl ⟨rfl, rfl, trivial⟩
 have hw := Wd.enter (E := []) hS (fun _ h => (by cases h))
 have hw := hw.addE h4
 have hw := hw.addE h8
 delta ref08_Union at hsh
 refine wp_seq ?_
 refine wp_region_lit ?_
 refine st_val hs (y_assign rfl) trivial rfl rfl fun a hs => ?_
 refine wpList_nil ?_
 refine then_normal ?_
 refine wp_seq ?_
 refine wp_region_lit ?_
 refine st_val hs (y_move rfl) trivial rfl rfl fun a hs => ?_
 obtain ⟨l10, h9, hsh⟩ := bind_t hsh
 have hw := hw.nilRow Span 46
 refine w_appendE (α := Span) hs hw El27 0 rfl rfl rfl 0 rfl 2 rfl h9 rfl trivial ?_
 intro p11 k12 c13 a w hs hw
 refine st_val hs (y_move rfl) trivial rfl rfl fun a hs => ?_
 obtain ⟨l15, h14, hsh⟩ := bind_t hsh
 refine w_appendE (α := Span) hs hw El27 0 rfl rfl rfl 0 rfl 2 rfl h14 rfl trivial ?_
 intro p16 k17 c18 a w hs hw
 obtain ⟨rv20, h19, hsh⟩ := bind_t hsh
 obtain ⟨Sv25, hw⟩ := w_share (α := Span) hw 0 rfl 0 rfl
 refine st_callR hs (ref08_Normal_ok h19 hw.dom (hw.envAt 0 rfl)) (do_call Try.call51 rfl) trivial rfl rfl ?_
 intro v29 Sv26 w a h27 h28 hs
 obtain ⟨p21, k22, c24, rfl, h30, h23⟩ := h28
 have hw := hw.callN h27 h30
 have hw := hw.addE (e := RowA c24 rv20) h23
 refine st_val hs (y_assign rfl) trivial rfl rfl fun a hs => ?_
 refine wpList_nil ?_
 refine then_normal ?_
 have hsh := Option.some.inj hsh
 subst hsh
 refine wp_ret ?_
 exact ret1 hs rfl (rv_tmp rfl) (hw.ret ⟨p21, k22, c24, rfl, (hw.outs [0] (by decide) rfl), (hw.envAt 0 rfl)⟩)

abbrev ref11_limited_rd (w0 : World) (X : List Nat) (r : (Receiver × Int)) : (Nat → Prop) → World → Value → Prop := fun S w v => ∃ (p0_0 : Option Addr) (k0_0 : Nat) (p0_1 : Option Addr) (k0_1 : Nat), v = .tuple #[.agg #[.slice p0_0 r.1.Got.length k0_0, .slice p0_1 r.1.Lost.length k0_1], .int .i64 r.2] ∧ (SlA p0_0 r.1.Got.length k0_0 r.1.Got).p S w ∧ (SlA p0_1 r.1.Lost.length k0_1 r.1.Lost).p S w
set_option maxHeartbeats 4000000 in
set_option maxRecDepth 100000 in
theorem ref11_limited_ok {w0 : World} {S0 : Nat → Prop} {p2 : Option Addr} {k3 : Nat} {p4 : Option Addr} {k5 : Nat} {r1 : Receiver} {r : (Receiver × Int)} (hsh : ref11_limited r1 = some r) (hS : ∀ b, S0 b → b < w0.heap.size) (h6 : (SlA p2 r1.Got.length k3 r1.Got).p S0 w0) (h7 : (SlA p4 r1.Lost.length k5 r1.Lost).p S0 w0) : Calls Try.prog 44 #[.agg #[.slice p2 r1.Got.length k3, .slice p4 r1.Lost.length k5]] w0 (Ret ([]) w0 S0 (ref11_limited_rd w0 ([]) r)) := by
 refine calls_of_wp Try.func44 rfl ?_
 have hs := Sl.enter #[.agg #[.slice p2 r1.Got.length k3, .slice p4 r1.Lost.length k5]] 16 [(0, .agg #[.slice p2 r1.Got.length k3, .slice p4 r1.Lost.length k5])] rfl ⟨rfl, trivial⟩
 have hw := Wd.enter (E := []) hS (fun _ h => (by cases h))
 have hw := hw.addE h6
 have hw := hw.addE h7
 delta ref11_limited at hsh
 refine wp_seq ?_
 refine wp_region_lit ?_
 refine w_box (cs := [.slice p2 r1.Got.length k3, .slice p4 r1.Lost.length k5]) hs hw rfl rfl rfl trivial ?_
 intro b8 a w hs hw
 refine w_alloc (cs := [.slice none ([] : List Span).length 0, .slice none ([] : List Span).length 0]) hs hw Try.zeroValue29 rfl rfl trivial ?_
 intro b9 a w hs hw
 refine st_val hs (y_assign rfl) trivial rfl rfl fun a hs => ?_
 refine wpList_nil ?_
 refine then_normal ?_
 refine wp_seq ?_
 refine wp_seq ?_
 refine wp_region_lit ?_
 refine st_val hs (y_fieldAddr (o' := 0) Try.runUnderlying29 rfl Try.sizeOf27 rfl rfl rfl) trivial rfl rfl fun a hs => ?_
 refine st_val hs (y_loadB1 (hw.ownAt 1 rfl) rfl Try.isAgg27 rfl) trivial rfl rfl fun a hs => ?_
 refine st_val hs (y_len Try.runUnderlying27 rfl) trivial rfl rfl fun a hs => ?_
 refine st_val hs (y_gtr rfl rfl) trivial rfl rfl fun a hs => ?_
 refine st_val hs (y_move rfl) trivial rfl rfl fun a hs => ?_
 refine wpl_join 5 (fun a w1 => w = w1 ∧ Sl 16 [(1, .pointer (some ⟨b8, 0, none⟩)), (2, .pointer (some ⟨b9, 0, none⟩)), (13, .bool ((decide (4096 < (r1.Got.length : Int))) || (decide (4096 < (r1.Lost.length : Int)))))] a) ?_ ?_
 ·rcases Bool.eq_false_or_eq_true (decide (4096 < (r1.Got.length : Int))) with h10 | h10
  ·have hs := hs.fix 8 (.bool true) rfl (vb h10)
   refine st_skip hs rfl rfl rfl rfl rfl fun a hs => ?_
   refine st_skip hs rfl rfl rfl rfl rfl fun a hs => ?_
   refine st_skip hs rfl rfl rfl rfl rfl fun a hs => ?_
   refine st_skip hs rfl rfl rfl rfl rfl fun a hs => ?_
   refine st_val hs (y_pickT rfl rfl) trivial rfl rfl fun a hs => ?_
   refine wpList_nil ?_
   refine then_normal ?_
   exact ⟨rfl, (hs.fix 13 (.bool ((decide (4096 < (r1.Got.length : Int))) || (decide (4096 < (r1.Lost.length : Int))))) rfl (or_t h10)).weaken _ ⟨rfl, rfl, rfl, trivial⟩⟩
  ·have hs := hs.fix 8 (.bool false) rfl (vb h10)
   refine st_val hs (y_fieldAddr (o' := 1) Try.runUnderlying29 rfl Try.sizeOf27 rfl rfl rfl) ⟨_, rfl, rfl⟩ rfl rfl fun a hs => ?_
   refine st_val hs (y_loadB1 (hw.ownAt 1 rfl) rfl Try.isAgg27 rfl) ⟨_, rfl, rfl⟩ rfl rfl fun a hs => ?_
   refine st_val hs (y_len Try.runUnderlying27 rfl) ⟨_, rfl, rfl⟩ rfl rfl fun a hs => ?_
   refine st_val hs (y_gtr rfl rfl) ⟨_, rfl, rfl⟩ rfl rfl fun a hs => ?_
   refine st_val hs (y_pickF rfl rfl) trivial rfl rfl fun a hs => ?_
   refine wpList_nil ?_
   refine then_normal ?_
   exact ⟨rfl, (hs.fix 13 (.bool ((decide (4096 < (r1.Got.length : Int))) || (decide (4096 < (r1.Lost.length : Int))))) rfl (or_f h10)).weaken _ ⟨rfl, rfl, rfl, trivial⟩⟩
 ·rintro a w1 ⟨h13, hs⟩
  subst h13
  refine wpList_nil ?_
  refine then_normal ?_
  refine wp_cond_split (hs.ev rfl) (fun h12 => ?_) (fun h12 => ?_)
  ·have hsh := ite_t hsh h12
   refine wp_seq ?_
   refine wp_region_lit ?_
   refine st_val hs (y_build (vs := []) Bld29 rfl rfl) trivial rfl rfl fun a hs => ?_
   refine w_store (m := 2) (cs' := [.slice none ([] : List Span).length 0, .slice none ([] : List Span).length 0]) hs hw 0 rfl rfl rfl Try.sizeOf29 rfl rfl rfl rfl trivial ?_
   intro a w hs hw
   refine st_val hs (y_assign rfl) trivial rfl rfl fun a hs => ?_
   refine wpList_nil ?_
   refine then_normal ?_
   have hsh := Option.some.inj hsh
   subst hsh
   have hw := hw.addE (e := SlA (α := Span) none 0 0 []) nil_sl
   refine wp_ret ?_
   refine then_ret ?_
   exact ret2 hs rfl (rv_cell hw 0 rfl rfl Try.isAgg29 Try.sizeOf29 rfl) (rv_tmp rfl) (hw.ret ⟨none, 0, none, 0, rfl, (hw.envAt 0 rfl), (hw.envAt 0 rfl)⟩)
  ·have hsh := ite_f hsh h12
   refine wp_skip ?_
   refine then_normal ?_
   refine wp_seq ?_
   refine wp_region_lit ?_
   refine st_val hs (y_loadBA (hw.ownAt 1 rfl) rfl Try.isAgg29 Try.sizeOf29 rfl rfl) trivial rfl rfl fun a hs => ?_
   refine w_store (m := 2) (cs' := [.slice p2 r1.Got.length k3, .slice p4 r1.Lost.length k5]) hs hw 0 rfl rfl rfl Try.sizeOf29 rfl rfl rfl rfl trivial ?_
   intro a w hs hw
   refine st_val hs (y_assign rfl) trivial rfl rfl fun a hs => ?_
   refine wpList_nil ?_
   refine then_normal ?_
   have hsh := Option.some.inj hsh
   subst hsh
   refine wp_ret ?_
   exact ret2 hs rfl (rv_cell hw 0 rfl rfl Try.isAgg29 Try.sizeOf29 rfl) (rv_tmp rfl) (hw.ret ⟨p2, k3, p4, k5, rfl, (hw.envAt 1 rfl), (hw.envAt 0 rfl)⟩)

abbrev ref11_Lose_rd (w0 : World) (X : List Nat) (r : (Receiver × Int)) : (Nat → Prop) → World → Value → Prop := fun S w v => ∃ (p0_0 : Option Addr) (k0_0 : Nat) (p0_1 : Option Addr) (k0_1 : Nat), v = .tuple #[.agg #[.slice p0_0 r.1.Got.length k0_0, .slice p0_1 r.1.Lost.length k0_1], .int .i64 r.2] ∧ (SlA p0_0 r.1.Got.length k0_0 r.1.Got).p S w ∧ (SlA p0_1 r.1.Lost.length k0_1 r.1.Lost).p S w
set_option maxHeartbeats 4000000 in
set_option maxRecDepth 100000 in
theorem ref11_Lose_ok {w0 : World} {S0 : Nat → Prop} {p2 : Option Addr} {k3 : Nat} {p4 : Option Addr} {k5 : Nat} {r1 : Receiver} {below8 : Int} {r : (Receiver × Int)} (hsh : ref11_Lose r1 below8 = some r) (hS : ∀ b, S0 b → b < w0.heap.size) (h6 : (SlA p2 r1.Got.length k3 r1.Got).p S0 w0) (h7 : (SlA p4 r1.Lost.length k5 r1.Lost).p S0 w0) : Calls Try.prog 21 #[.agg #[.slice p2 r1.Got.length k3, .slice p4 r1.Lost.length k5], .int .i64 below8] w0 (Ret ([]) w0 S0 (ref11_Lose_rd w0 ([]) r)) := by
 refine calls_of_wp Try.func21 rfl ?_
 have hs := Sl.enter #[.agg #[.slice p2 r1.Got.length k3, .slice p4 r1.Lost.length k5], .int .i64 below8] 32 [(0, .agg #[.slice p2 r1.Got.length k3, .slice p4 r1.Lost.length k5]), (1, .int .i64 below8)] rfl ⟨rfl, rfl, trivial⟩
 have hw := Wd.enter (E := []) hS (fun _ h => (by cases h))
 have hw := hw.addE h6
 have hw := hw.addE h7
 delta ref11_Lose at hsh
 refine wp_seq ?_
 refine wp_region_lit ?_
 refine w_box (cs := [.slice p2 r1.Got.length k3, .slice p4 r1.Lost.length k5]) hs hw rfl rfl rfl trivial ?_
 intro b9 a w hs hw
 refine w_alloc (cs := [.slice none ([] : List Span).length 0, .slice none ([] : List Span).length 0]) hs hw Try.zeroValue29 rfl rfl trivial ?_
 intro b10 a w hs hw
 refine st_val hs (y_assign rfl) trivial rfl rfl fun a hs => ?_
 refine wpList_nil ?_
 refine then_normal ?_
 refine wp_seq ?_
 refine wp_seq ?_
 refine wp_region_lit ?_
 refine st_val hs (y_loadBA (hw.ownAt 1 rfl) rfl Try.isAgg29 Try.sizeOf29 rfl rfl) trivial rfl rfl fun a hs => ?_
 obtain ⟨rv12, h11, hsh⟩ := bind_t hsh
 refine st_callR hs (ref11_Valid_ok h11 hw.bdom (hw.bE 1 rfl) (hw.bE 0 rfl)) (do_call Try.call27 rfl) trivial rfl rfl ?_
 intro v16 Sv13 w a h14 h15 hs
 subst h15
 have hw := hw.callB h14
 refine st_val hs (y_not rfl) trivial rfl rfl fun a hs => ?_
 refine wpList_nil ?_
 refine then_normal ?_
 refine wp_cond_split (hs.ev rfl) (fun h19 => ?_) (fun h19 => ?_)
 ·have hsh := ite_t hsh h19
  refine wp_seq ?_
  refine wp_region_lit ?_
  refine st_val hs (y_build (vs := []) Bld29 rfl rfl) trivial rfl rfl fun a hs => ?_
  refine w_store (m := 2) (cs' := [.slice none ([] : List Span).length 0, .slice none ([] : List Span).length 0]) hs hw 0 rfl rfl rfl Try.sizeOf29 rfl rfl rfl rfl trivial ?_
  intro a w hs hw
  refine st_val hs (y_assign rfl) trivial rfl rfl fun a hs => ?_
  refine wpList_nil ?_
  refine then_normal ?_
  have hsh := Option.some.inj hsh
  subst hsh
  have hw := hw.addE (e := SlA (α := Span) none 0 0 []) nil_sl
  refine wp_ret ?_
  refine then_ret ?_
  exact ret2 hs rfl (rv_cell hw 0 rfl rfl Try.isAgg29 Try.sizeOf29 rfl) (rv_tmp rfl) (hw.ret ⟨none, 0, none, 0, rfl, (hw.envAt 0 rfl), (hw.envAt 0 rfl)⟩)
 ·have hsh := ite_f hsh h19
  refine wp_skip ?_
  refine then_normal ?_
  refine wp_seq ?_
  refine wp_seq ?_
  refine wp_region_lit ?_
  refine st_val hs (y_move rfl) trivial rfl rfl fun a hs => ?_
  obtain ⟨rv21, h20, hsh⟩ := bind_t hsh
  refine st_callR hs (ref01_In_ok h20 hw.bdom) (do_call Try.call43 rfl) trivial rfl rfl ?_
  intro v25 Sv22 w a h23 h24 hs
  subst h24
  have hw := hw.callB h23
  refine st_val hs (y_not rfl) trivial rfl rfl fun a hs => ?_
  refine wpList_nil ?_
  refine then_normal ?_
  refine wp_cond_split (hs.ev rfl) (fun h28 => ?_) (fun h28 => ?_)
  ·have hsh := ite_t hsh h28
   refine wp_seq ?_
   refine wp_region_lit ?_
   refine st_val hs (y_build (vs := []) Bld29 rfl rfl) trivial rfl rfl fun a hs => ?_
   refine w_store (m := 2) (cs' := [.slice none ([] : List Span).length 0, .slice none ([] : List Span).length 0]) hs hw 0 rfl rfl rfl Try.sizeOf29 rfl rfl rfl rfl trivial ?_
   intro a w hs hw
   refine st_val hs (y_assign rfl) trivial rfl rfl fun a hs => ?_
   refine wpList_nil ?_
   refine then_normal ?_
   have hsh := Option.some.inj hsh
   subst hsh
   have hw := hw.addE (e := SlA (α := Span) none 0 0 []) nil_sl
   refine wp_ret ?_
   refine then_ret ?_
   exact ret2 hs rfl (rv_cell hw 0 rfl rfl Try.isAgg29 Try.sizeOf29 rfl) (rv_tmp rfl) (hw.ret ⟨none, 0, none, 0, rfl, (hw.envAt 0 rfl), (hw.envAt 0 rfl)⟩)
  ·have hsh := ite_f hsh h28
   refine wp_skip ?_
   refine then_normal ?_
   refine wp_seq ?_
   refine wp_region_lit ?_
   refine st_val hs (y_move rfl) trivial rfl rfl fun a hs => ?_
   refine st_val hs (y_build (vs := [(0, .int .i64 0), (1, .int .i64 below8)]) Bld46 rfl rfl) trivial rfl rfl fun a hs => ?_
   refine w_litSlice (α := Span) (vs := [.agg #[.int .i64 0, .int .i64 below8]]) (cs := [.int .i64 0, .int .i64 below8]) (xs := ([(⟨0, below8⟩ : Span)] : List Span)) hs hw El27 rfl rfl rfl rfl rfl rfl ⟨⟨_, _, rfl, rfl, rfl⟩, rfl⟩ rfl trivial rfl fun b30 a w hs hw => ?_
   refine st_val hs (y_fieldAddr (o' := 0) Try.runUnderlying29 rfl Try.sizeOf27 rfl rfl rfl) trivial rfl rfl fun a hs => ?_
   refine st_val hs (y_loadB1 (hw.ownAt 2 rfl) rfl Try.isAgg27 rfl) trivial rfl rfl fun a hs => ?_
   obtain ⟨rv32, h31, hsh⟩ := bind_t hsh
   obtain ⟨Sv37, hw⟩ := w_share (α := Span) hw 0 rfl 0 rfl
   refine st_callR hs (ref08_Minus_ok h31 hw.dom (hw.envAt 0 rfl) (hw.envAt 3 rfl)) (do_call Try.call32 rfl) trivial rfl rfl ?_
   intro v41 Sv38 w a h39 h40 hs
   obtain ⟨p33, k34, c36, rfl, h42, h35⟩ := h40
   have hw := hw.callN h39 h42
   have hw := hw.addE (e := RowA c36 rv32) h35
   refine st_val hs (y_assign rfl) trivial rfl rfl fun a hs => ?_
   refine wpList_nil ?_
   refine then_normal ?_
   refine wp_seq ?_
   obtain ⟨l44, h43, hsh⟩ := bind_t hsh
   obtain ⟨rv49, h48, hsh⟩ := bind_t hsh
   obtain ⟨rv55, h54, hsh⟩ := bind_t hsh
   refine wp_only (fun a w => ∃ (Sv62 : Nat → Prop) (k57 : Nat) (k60 : Nat) (p56 : Option Addr) (p59 : Option Addr), Sl 32 [(4, .pointer (some ⟨b10, 0, none⟩)), (5, .int .i64 rv55.2)] a ∧ Wd ⟨w0, S0, []⟩ Sv62 [.box b10 [.slice p56 rv55.1.Got.length k57, .slice p59 rv55.1.Lost.length k60] 29] [SlA p56 rv55.1.Got.length k57 rv55.1.Got, SlA p59 rv55.1.Lost.length k60 rv55.1.Lost] w) ?_ ?_
   ·refine h_b (C := Cls [.box b9 [.slice p2 r1.Got.length k3, .slice p4 r1.Lost.length k5] 29] []) (by kernel_rfl) rfl (hw.drew.cs [2] [] rfl rfl) fun hC => ?_
    have hw := hw.drew
    refine h_g hs 0 rfl (by kernel_rfl) rfl rfl hC rfl (fun w hC => y_fieldAddr (o' := 0) Try.runUnderlying29 rfl Try.sizeOf27 rfl rfl rfl) fun a hs => ?_
    refine h_g hs 1 rfl (by kernel_rfl) rfl rfl hC rfl (fun w hC => y_loadB1 (hC.ownAt 0 rfl) rfl Try.isAgg27 rfl) fun a hs => ?_
    refine h_g hs 3 rfl (by kernel_rfl) rfl rfl hC rfl (fun w hC => y_fieldAddr (o' := 1) Try.runUnderlying29 rfl Try.sizeOf27 rfl rfl rfl) fun a hs => ?_
    refine h_g hs 4 rfl (by kernel_rfl) rfl rfl hC rfl (fun w hC => y_loadB1 (hC.ownAt 0 rfl) rfl Try.isAgg27 rfl) fun a hs => ?_
    refine h_g hs 5 rfl (by kernel_rfl) rfl rfl hC rfl (fun w hC => y_move rfl) fun a hs => ?_
    refine h_one (i := 2) (by kernel_rfl) rfl ?_
    have hw := hw.nilRow Span 46
    refine w_appendE (α := Span) hs hw El27 0 rfl rfl rfl 0 rfl 5 rfl h43 rfl trivial ?_
    intro p45 k46 c47 a w hs hw
    refine h_nx (hw.cs [3] [] rfl rfl) fun hC => ?_
    refine h_one (i := 6) (by kernel_rfl) rfl ?_
    obtain ⟨Sv63, hw⟩ := w_share (α := Span) hw 1 rfl 2 rfl
    refine st_callR hs (ref08_Union_ok h48 hw.dom (hw.envAt 6 rfl) (hw.envAt 0 rfl)) (do_call Try.call45 rfl) trivial rfl rfl ?_
    intro v67 Sv64 w a h65 h66 hs
    obtain ⟨p50, k51, c53, rfl, h68, h52⟩ := h66
    have hw := hw.callN h65 h68
    have hw := hw.addE (e := RowA c53 rv49) h52
    refine h_nx (hw.cs [3] [] rfl rfl) fun hC => ?_
    refine h_g hs 7 rfl (by kernel_rfl) rfl rfl hC rfl (fun w hC => y_build (vs := [(0, .slice p45 l44.length k46), (1, .slice p50 rv49.length k51)]) Bld29 rfl rfl) fun a hs => ?_
    refine h_one (i := 8) (by kernel_rfl) rfl ?_
    obtain ⟨Sv69, hw⟩ := w_share (α := Span) hw 1 rfl 2 rfl
    obtain ⟨Sv70, hw⟩ := w_share (α := Span) hw 0 rfl 1 rfl
    refine st_callR hs (ref11_limited_ok h54 hw.dom (hw.envAt 1 rfl) (hw.envAt 0 rfl)) (do_call Try.call44 rfl) trivial rfl rfl ?_
    intro v74 Sv71 w a h72 h73 hs
    obtain ⟨p56, k57, p59, k60, rfl, h58, h61⟩ := h73
    have hw := hw.call h72
    have hw := hw.addE (e := SlA p56 rv55.1.Got.length k57 rv55.1.Got) h58
    have hw := hw.addE (e := SlA p59 rv55.1.Lost.length k60 rv55.1.Lost) h61
    refine h_nx (hw.cs [1] [] rfl rfl) fun hC => ?_
    refine h_g hs 9 rfl (by kernel_rfl) rfl rfl hC rfl (fun w hC => y_extract rfl rfl) fun a hs => ?_
    refine h_g hs 10 rfl (by kernel_rfl) rfl rfl hC rfl (fun w hC => y_extract rfl rfl) fun a hs => ?_
    refine h_one (i := 11) (by kernel_rfl) rfl ?_
    refine w_store (m := 2) (cs' := [.slice p56 rv55.1.Got.length k57, .slice p59 rv55.1.Lost.length k60]) hs hw 0 rfl rfl rfl Try.sizeOf29 rfl rfl rfl rfl trivial ?_
    intro a w hs hw
    refine h_nx (hw.cs [1] [] rfl rfl) fun hC => ?_
    refine h_g hs 12 rfl (by kernel_rfl) rfl rfl hC rfl (fun w hC => y_assign rfl) fun a hs => ?_
    refine h_done (by kernel_rfl) ?_
    exact ⟨Sv71, k57, k60, p56, p59, (hs.wk rfl), (hw.ft [0] [1, 0] (by decide) rfl rfl)⟩
   ·rintro a w ⟨Sv62, k57, k60, p56, p59, hs, hw⟩
    refine then_normal ?_
    have hsh := Option.some.inj hsh
    subst hsh
    refine wp_ret ?_
    exact ret2 hs rfl (rv_cell hw 0 rfl rfl Try.isAgg29 Try.sizeOf29 rfl) (rv_tmp rfl) (hw.ret ⟨p56, k57, p59, k60, rfl, (hw.envAt 0 rfl), (hw.envAt 1 rfl)⟩)

abbrev ref08_Has_rd (w0 : World) (X : List Nat) (r : Bool) : (Nat → Prop) → World → Value → Prop := fun S w v => v = .bool r
set_option maxHeartbeats 4000000 in
set_option maxRecDepth 100000 in
theorem ref08_Has_ok {w0 : World} {S0 : Nat → Prop} {p2 : Option Addr} {k3 : Nat} {l1 : (List Span)} {x5 : Int} {r : Bool} (hsh : ref08_Has l1 x5 = some r) (hS : ∀ b, S0 b → b < w0.heap.size) (h4 : (SlA p2 l1.length k3 l1).p S0 w0) : Calls Try.prog 14 #[.slice p2 l1.length k3, .int .i64 x5] w0 (Ret ([]) w0 S0 (ref08_Has_rd w0 ([]) r)) := by
 refine calls_of_wp Try.func14 rfl ?_
 have hs := Sl.enter #[.slice p2 l1.length k3, .int .i64 x5] 28 [(0, .slice p2 l1.length k3), (1, .int .i64 x5)] rfl ⟨rfl, rfl, trivial⟩
 have hw := Wd.enter (E := []) hS (fun _ h => (by cases h))
 have hw := hw.addE h4
 delta ref08_Has at hsh
 refine wp_seq ?_
 refine wp_region_lit ?_
 refine st_val hs (y_assign rfl) trivial rfl rfl fun a hs => ?_
 refine wpList_nil ?_
 refine then_normal ?_
 refine wp_seq ?_
 refine wp_seq ?_
 refine wp_region_lit ?_
 refine st_val hs (y_assign rfl) trivial rfl rfl fun a hs => ?_
 refine wpList_nil ?_
 refine then_normal ?_
 refine wp_block ?_
 refine wp_while (fun sv119 a w => ∃ (Sv193 : Nat → Prop), Sl 28 [(0, .slice p2 l1.length k3), (1, .int .i64 x5), (5, .int .i64 sv119)] a ∧ Wd ⟨w0, S0, []⟩ Sv193 [] [SlA p2 l1.length k3 l1] w) 0 hsh ⟨S0, (hs.wk rfl), (hw.ft [] [0] (by decide) rfl rfl)⟩ ?_
 repeat clear hsh
 rintro sv119 a w tv231 ⟨Sv193, hs, hw⟩ hsh hd230
 delta ref08_Has_l2 at hsh
 refine wp_seq ?_
 refine wp_seq ?_
 refine wp_region_lit ?_
 refine st_val hs (y_move rfl) trivial rfl rfl fun a hs => ?_
 refine st_val hs (y_move rfl) trivial rfl rfl fun a hs => ?_
 refine st_val hs (y_len Try.runUnderlying27 rfl) trivial rfl rfl fun a hs => ?_
 refine st_val hs (y_lss rfl rfl) trivial rfl rfl fun a hs => ?_
 refine wpList_nil ?_
 refine then_normal ?_
 refine wp_cond_split (hs.ev rfl) (fun h235 => ?_) (fun h235 => ?_)
 ·have hsh := ite_t hsh h235
  refine wp_skip ?_
  refine then_normal ?_
  refine wp_seq ?_
  refine wp_block ?_
  refine wp_seq ?_
  refine wp_region_lit ?_
  refine st_val hs (y_move rfl) trivial rfl rfl fun a hs => ?_
  refine st_val hs (y_move rfl) trivial rfl rfl fun a hs => ?_
  obtain ⟨x271, h269, hsh⟩ := bind_t hsh
  obtain ⟨b277, o278, q275, c276, h279, h272, h273, h274, h270⟩ := hw.elemV 0 rfl h269
  have hsv280 := hs
  have hwv281 := hw
  subst h279
  have hs := hsv280
  have hw := hwv281
  obtain ⟨_, _, rfl, rfl, rfl⟩ := h270
  have hw := hw.addE h274
  refine st_val hs (y_indexAt Try.runUnderlying27 Try.sizeOf46 rfl rfl h272.1 h272.2 h273) trivial rfl rfl fun a hs => ?_
  refine st_val hs (y_fieldAddr (o' := q275 + 0) Try.runUnderlying46 rfl Try.sizeOf3 rfl rfl rfl) trivial rfl rfl fun a hs => ?_
  refine st_val hs (y_loadE1 (j := 0) (hw.ceAt 0 rfl) rfl Try.isAgg3 rfl) trivial rfl rfl fun a hs => ?_
  refine st_val hs (y_move rfl) trivial rfl rfl fun a hs => ?_
  refine st_val hs (y_leq rfl rfl) trivial rfl rfl fun a hs => ?_
  refine st_val hs (y_move rfl) trivial rfl rfl fun a hs => ?_
  obtain ⟨c291, hc291, hsh⟩ := bind_t hsh
  refine wpl_join 8 (fun a w => ∃ (Sv292 : Nat → Prop), Sl 28 [(0, .slice (some ⟨b277, o278, none⟩) l1.length k3), (1, .int .i64 x5), (5, .int .i64 sv119), (27, .bool c291)] a ∧ Wd ⟨w0, S0, []⟩ Sv292 [] [SlA (some ⟨b277, o278, none⟩) l1.length k3 l1] w) ?_ ?_
  ·rcases Bool.eq_false_or_eq_true (decide (x271.From ≤ x5)) with h290 | h290
   ·have hs := hs.fix 19 (.bool true) rfl (vb h290)
    have hsh := ite_t hc291 h290
    refine st_val hs (y_move rfl) ⟨_, rfl, rfl⟩ rfl rfl fun a hs => ?_
    refine st_val hs (y_move rfl) ⟨_, rfl, rfl⟩ rfl rfl fun a hs => ?_
    refine st_val hs (y_move rfl) ⟨_, rfl, rfl⟩ rfl rfl fun a hs => ?_
    obtain ⟨x295, h293, hsh⟩ := bind_t hsh
    obtain ⟨q299, c300, h296, h297, h298, h294⟩ := hw.elemK 1 rfl h293
    obtain ⟨_, _, rfl, rfl, rfl⟩ := h294
    have hw := hw.addE h298
    refine st_val hs (y_indexAt Try.runUnderlying27 Try.sizeOf46 rfl rfl h296.1 h296.2 h297) ⟨_, rfl, rfl⟩ rfl rfl fun a hs => ?_
    refine st_val hs (y_fieldAddr (o' := q299 + 1) Try.runUnderlying46 rfl Try.sizeOf3 rfl rfl rfl) ⟨_, rfl, rfl⟩ rfl rfl fun a hs => ?_
    refine st_val hs (y_loadE1 (j := 1) (hw.ceAt 0 rfl) rfl Try.isAgg3 rfl) ⟨_, rfl, rfl⟩ rfl rfl fun a hs => ?_
    refine st_val hs (y_lss rfl rfl) ⟨_, rfl, rfl⟩ rfl rfl fun a hs => ?_
    refine st_val hs (y_pickT rfl rfl) trivial rfl rfl fun a hs => ?_
    refine wpList_nil ?_
    have hsh := Option.some.inj hsh
    subst hsh
    refine then_normal ?_
    exact ⟨Sv193, (hs.wk rfl), (hw.ft [] [2] (by decide) rfl rfl)⟩
   ·have hs := hs.fix 19 (.bool false) rfl (vb h290)
    have hsh := ite_f hc291 h290
    refine st_skip hs rfl rfl rfl rfl rfl fun a hs => ?_
    refine st_skip hs rfl rfl rfl rfl rfl fun a hs => ?_
    refine st_skip hs rfl rfl rfl rfl rfl fun a hs => ?_
    refine st_skip hs rfl rfl rfl rfl rfl fun a hs => ?_
    refine st_skip hs rfl rfl rfl rfl rfl fun a hs => ?_
    refine st_skip hs rfl rfl rfl rfl rfl fun a hs => ?_
    refine st_skip hs rfl rfl rfl rfl rfl fun a hs => ?_
    refine st_val hs (y_pickF rfl rfl) trivial rfl rfl fun a hs => ?_
    refine wpList_nil ?_
    have hsh := Option.some.inj hsh
    subst hsh
    refine then_normal ?_
    exact ⟨Sv193, (hs.wk rfl), (hw.ft [] [1] (by decide) rfl rfl)⟩
  ·rintro a w ⟨Sv292, hs, hw⟩
   refine wpList_nil ?_
   refine then_normal ?_
   refine wp_cond_split (hs.ev rfl) (fun h302 => ?_) (fun h302 => ?_)
   ·have hsh := ite_t hsh h302
    refine wp_seq ?_
    refine wp_region_lit ?_
    refine st_val hs (y_assign rfl) trivial rfl rfl fun a hs => ?_
    refine wpList_nil ?_
    refine then_normal ?_
    have hsh := Option.some.inj hsh
    subst hsh
    have h303 := hd230 _ rfl
    subst h303
    refine wp_ret ?_
    refine blk_ret ?_
    refine then_ret ?_
    refine then_ret ?_
    refine blk_ret ?_
    refine then_ret ?_
    exact ret1 hs rfl (rv_tmp rfl) (hw.ret rfl)
   ·have hsh := ite_f hsh h302
    refine wp_skip ?_
    refine blk_normal ?_
    refine then_normal ?_
    refine wp_region_lit ?_
    refine st_val hs (y_move rfl) trivial rfl rfl fun a hs => ?_
    refine st_val hs (y_add rfl rfl) trivial rfl rfl fun a hs => ?_
    obtain ⟨i305, h304, hsh⟩ := bind_t hsh
    refine st_val hs (y_assignI rfl h304) trivial rfl rfl fun a hs => ?_
    refine wpList_nil ?_
    refine then_normal ?_
    exact ⟨_, (Option.some.inj hsh).symm, Sv292, (hs.wk rfl), (hw.ft [] [0] (by decide) rfl rfl)⟩
 ·have hsh := ite_f hsh h235
  obtain ⟨rv306, hsh, h307⟩ := map_t hsh
  have h307 := (hd230 _ h307.symm).symm
  subst h307
  refine wp_exit ?_
  refine then_exit ?_
  refine then_exit ?_
  refine blk_exit ?_
  refine then_normal ?_
  refine wp_seq ?_
  refine wp_region_lit ?_
  refine st_val hs (y_assign rfl) trivial rfl rfl fun a hs => ?_
  refine wpList_nil ?_
  refine then_normal ?_
  have hsh := Option.some.inj hsh
  subst hsh
  refine wp_ret ?_
  exact ret1 hs rfl (rv_tmp rfl) (hw.ret rfl)

abbrev ref11_Accept_rd (w0 : World) (X : List Nat) (r : (Receiver × Bool × Int)) : (Nat → Prop) → World → Value → Prop := fun S w v => ∃ (p0_0 : Option Addr) (k0_0 : Nat) (p0_1 : Option Addr) (k0_1 : Nat), v = .tuple #[.agg #[.slice p0_0 r.1.Got.length k0_0, .slice p0_1 r.1.Lost.length k0_1], .bool r.2.1, .int .i64 r.2.2] ∧ (SlA p0_0 r.1.Got.length k0_0 r.1.Got).p S w ∧ (SlA p0_1 r.1.Lost.length k0_1 r.1.Lost).p S w
set_option maxHeartbeats 4000000 in
set_option maxRecDepth 100000 in
theorem ref11_Accept_ok {w0 : World} {S0 : Nat → Prop} {p2 : Option Addr} {k3 : Nat} {p4 : Option Addr} {k5 : Nat} {r1 : Receiver} {seq8 : Int} {r : (Receiver × Bool × Int)} (hsh : ref11_Accept r1 seq8 = some r) (hS : ∀ b, S0 b → b < w0.heap.size) (h6 : (SlA p2 r1.Got.length k3 r1.Got).p S0 w0) (h7 : (SlA p4 r1.Lost.length k5 r1.Lost).p S0 w0) : Calls Try.prog 20 #[.agg #[.slice p2 r1.Got.length k3, .slice p4 r1.Lost.length k5], .int .i64 seq8] w0 (Ret ([]) w0 S0 (ref11_Accept_rd w0 ([]) r)) := by
 refine calls_of_wp Try.func20 rfl ?_
 have hs := Sl.enter #[.agg #[.slice p2 r1.Got.length k3, .slice p4 r1.Lost.length k5], .int .i64 seq8] 46 [(0, .agg #[.slice p2 r1.Got.length k3, .slice p4 r1.Lost.length k5]), (1, .int .i64 seq8)] rfl ⟨rfl, rfl, trivial⟩
 have hw := Wd.enter (E := []) hS (fun _ h => (by cases h))
 have hw := hw.addE h6
 have hw := hw.addE h7
 delta ref11_Accept at hsh
 refine wp_seq ?_
 refine wp_region_lit ?_
 refine w_box (cs := [.slice p2 r1.Got.length k3, .slice p4 r1.Lost.length k5]) hs hw rfl rfl rfl trivial ?_
 intro b9 a w hs hw
 refine w_alloc (cs := [.slice none ([] : List Span).length 0, .slice none ([] : List Span).length 0]) hs hw Try.zeroValue29 rfl rfl trivial ?_
 intro b10 a w hs hw
 refine st_val hs (y_assign rfl) trivial rfl rfl fun a hs => ?_
 refine st_val hs (y_assign rfl) trivial rfl rfl fun a hs => ?_
 refine wpList_nil ?_
 refine then_normal ?_
 refine wp_seq ?_
 refine wp_seq ?_
 refine wp_region_lit ?_
 refine st_val hs (y_loadBA (hw.ownAt 1 rfl) rfl Try.isAgg29 Try.sizeOf29 rfl rfl) trivial rfl rfl fun a hs => ?_
 obtain ⟨rv12, h11, hsh⟩ := bind_t hsh
 refine st_callR hs (ref11_Valid_ok h11 hw.bdom (hw.bE 1 rfl) (hw.bE 0 rfl)) (do_call Try.call27 rfl) trivial rfl rfl ?_
 intro v16 Sv13 w a h14 h15 hs
 subst h15
 have hw := hw.callB h14
 refine st_val hs (y_not rfl) trivial rfl rfl fun a hs => ?_
 refine wpList_nil ?_
 refine then_normal ?_
 refine wp_cond_split (hs.ev rfl) (fun h19 => ?_) (fun h19 => ?_)
 ·have hsh := ite_t hsh h19
  refine wp_seq ?_
  refine wp_region_lit ?_
  refine st_val hs (y_build (vs := []) Bld29 rfl rfl) trivial rfl rfl fun a hs => ?_
  refine w_store (m := 2) (cs' := [.slice none ([] : List Span).length 0, .slice none ([] : List Span).length 0]) hs hw 0 rfl rfl rfl Try.sizeOf29 rfl rfl rfl rfl trivial ?_
  intro a w hs hw
  refine st_val hs (y_assign rfl) trivial rfl rfl fun a hs => ?_
  refine st_val hs (y_assign rfl) trivial rfl rfl fun a hs => ?_
  refine wpList_nil ?_
  refine then_normal ?_
  have hsh := Option.some.inj hsh
  subst hsh
  have hw := hw.addE (e := SlA (α := Span) none 0 0 []) nil_sl
  refine wp_ret ?_
  refine then_ret ?_
  exact ret3 hs rfl (rv_cell hw 0 rfl rfl Try.isAgg29 Try.sizeOf29 rfl) (rv_tmp rfl) (rv_tmp rfl) (hw.ret ⟨none, 0, none, 0, rfl, (hw.envAt 0 rfl), (hw.envAt 0 rfl)⟩)
 ·have hsh := ite_f hsh h19
  refine wp_skip ?_
  refine then_normal ?_
  refine wp_seq ?_
  refine wp_seq ?_
  refine wp_region_lit ?_
  refine st_val hs (y_move rfl) trivial rfl rfl fun a hs => ?_
  obtain ⟨rv21, h20, hsh⟩ := bind_t hsh
  refine st_callR hs (ref01_In_ok h20 hw.bdom) (do_call Try.call43 rfl) trivial rfl rfl ?_
  intro v25 Sv22 w a h23 h24 hs
  subst h24
  have hw := hw.callB h23
  refine st_val hs (y_not rfl) trivial rfl rfl fun a hs => ?_
  refine wpList_nil ?_
  refine then_normal ?_
  refine wp_cond_split (hs.ev rfl) (fun h28 => ?_) (fun h28 => ?_)
  ·have hsh := ite_t hsh h28
   refine wp_seq ?_
   refine wp_region_lit ?_
   refine st_val hs (y_build (vs := []) Bld29 rfl rfl) trivial rfl rfl fun a hs => ?_
   refine w_store (m := 2) (cs' := [.slice none ([] : List Span).length 0, .slice none ([] : List Span).length 0]) hs hw 0 rfl rfl rfl Try.sizeOf29 rfl rfl rfl rfl trivial ?_
   intro a w hs hw
   refine st_val hs (y_assign rfl) trivial rfl rfl fun a hs => ?_
   refine st_val hs (y_assign rfl) trivial rfl rfl fun a hs => ?_
   refine wpList_nil ?_
   refine then_normal ?_
   have hsh := Option.some.inj hsh
   subst hsh
   have hw := hw.addE (e := SlA (α := Span) none 0 0 []) nil_sl
   refine wp_ret ?_
   refine then_ret ?_
   exact ret3 hs rfl (rv_cell hw 0 rfl rfl Try.isAgg29 Try.sizeOf29 rfl) (rv_tmp rfl) (rv_tmp rfl) (hw.ret ⟨none, 0, none, 0, rfl, (hw.envAt 0 rfl), (hw.envAt 0 rfl)⟩)
  ·have hsh := ite_f hsh h28
   refine wp_skip ?_
   refine then_normal ?_
   refine wp_seq ?_
   refine wp_region_lit ?_
   refine st_val hs (y_move rfl) trivial rfl rfl fun a hs => ?_
   refine st_val hs (y_move rfl) trivial rfl rfl fun a hs => ?_
   refine st_val hs (y_add rfl rfl) trivial rfl rfl fun a hs => ?_
   refine st_val hs (y_build (vs := [(0, .int .i64 seq8), (1, .int .i64 (w64 (seq8 + 1)))]) Bld46 rfl rfl) trivial rfl rfl fun a hs => ?_
   refine w_litSlice (α := Span) (vs := [.agg #[.int .i64 seq8, .int .i64 (w64 (seq8 + 1))]]) (cs := [.int .i64 seq8, .int .i64 (w64 (seq8 + 1))]) (xs := ([(⟨seq8, (w64 (seq8 + 1))⟩ : Span)] : List Span)) hs hw El27 rfl rfl rfl rfl rfl rfl ⟨⟨_, _, rfl, rfl, rfl⟩, rfl⟩ rfl trivial rfl fun b30 a w hs hw => ?_
   refine st_val hs (y_assign rfl) trivial rfl rfl fun a hs => ?_
   refine wpList_nil ?_
   refine then_normal ?_
   refine wp_seq ?_
   obtain ⟨rv32, h31, hsh⟩ := bind_t hsh
   obtain ⟨rv38, h37, hsh⟩ := bind_t hsh
   obtain ⟨rv44, h43, hsh⟩ := bind_t hsh
   refine wp_only (fun a w => ∃ (Sv52 : Nat → Prop) (b51 : Nat) (k46 : Nat) (k49 : Nat) (p45 : Option Addr) (p48 : Option Addr), Sl 46 [(1, .int .i64 seq8), (2, .pointer (some ⟨b9, 0, none⟩)), (4, .pointer (some ⟨b10, 0, none⟩)), (8, .pointer (some ⟨b51, 0, none⟩)), (9, .int .i64 rv44.2)] a ∧ Wd ⟨w0, S0, []⟩ Sv52 [.box b9 [.slice p2 r1.Got.length k3, .slice p4 r1.Lost.length k5] 29, .box b10 [.slice none ([] : List Span).length 0, .slice none ([] : List Span).length 0] 29, .box b51 [.slice p45 rv44.1.Got.length k46, .slice p48 rv44.1.Lost.length k49] 29] [SlA p2 r1.Got.length k3 r1.Got, SlA p4 r1.Lost.length k5 r1.Lost, SlA none ([] : List Span).length 0 ([] : List Span), SlA p45 rv44.1.Got.length k46 rv44.1.Got, SlA p48 rv44.1.Lost.length k49 rv44.1.Lost] w) ?_ ?_
   ·refine h_b (C := Cls [.box b10 [.slice none ([] : List Span).length 0, .slice none ([] : List Span).length 0] 29, .box b9 [.slice p2 r1.Got.length k3, .slice p4 r1.Lost.length k5] 29] []) (by kernel_rfl) rfl (hw.drew.cs [1, 2] [] rfl rfl) fun hC => ?_
    have hw := hw.drew
    refine h_g hs 0 rfl (by kernel_rfl) rfl rfl hC rfl (fun w hC => y_fieldAddr (o' := 0) Try.runUnderlying29 rfl Try.sizeOf27 rfl rfl rfl) fun a hs => ?_
    refine h_g hs 1 rfl (by kernel_rfl) rfl rfl hC rfl (fun w hC => y_loadB1 (hC.ownAt 1 rfl) rfl Try.isAgg27 rfl) fun a hs => ?_
    refine h_g hs 2 rfl (by kernel_rfl) rfl rfl hC rfl (fun w hC => y_move rfl) fun a hs => ?_
    refine h_g hs 4 rfl (by kernel_rfl) rfl rfl hC rfl (fun w hC => y_fieldAddr (o' := 1) Try.runUnderlying29 rfl Try.sizeOf27 rfl rfl rfl) fun a hs => ?_
    refine h_g hs 5 rfl (by kernel_rfl) rfl rfl hC rfl (fun w hC => y_loadB1 (hC.ownAt 1 rfl) rfl Try.isAgg27 rfl) fun a hs => ?_
    refine h_g hs 6 rfl (by kernel_rfl) rfl rfl hC rfl (fun w hC => y_move rfl) fun a hs => ?_
    refine h_all (rs := [3, 13]) (by kernel_rfl) rfl ?_
    refine AllH.cons rfl ?_ ?_
    ·obtain ⟨Sv53, hw⟩ := w_share (α := Span) hw 0 rfl 0 rfl
     refine st_callR hs (ref08_Union_ok h31 hw.dom (hw.envAt 3 rfl) (hw.envAt 0 rfl)) (do_call Try.call45 rfl) trivial rfl rfl ?_
     intro v57 Sv54 w a h55 h56 hs
     obtain ⟨p33, k34, c36, rfl, h58, h35⟩ := h56
     have hw := hw.callN h55 h58
     have hw := hw.addE (e := RowA c36 rv32) h35
     refine h_nx (hw.cs [1, 2] [] rfl rfl) fun hC => ?_
     refine h_all (rs := [7, 13]) (by kernel_rfl) rfl ?_
     refine AllH.cons rfl ?_ ?_
     ·refine st_callR hs (ref08_Minus_ok h37 hw.dom (hw.envAt 3 rfl) (hw.envAt 1 rfl)) (do_call Try.call32 rfl) trivial rfl rfl ?_
      intro v62 Sv59 w a h60 h61 hs
      obtain ⟨p39, k40, c42, rfl, h63, h41⟩ := h61
      have hw := hw.callN h60 h63
      have hw := hw.addE (e := RowA c42 rv38) h41
      refine h_nx (hw.cs [2, 3] [] rfl rfl) fun hC => ?_
      refine h_g hs 8 rfl (by kernel_rfl) rfl rfl hC rfl (fun w hC => y_build (vs := [(0, .slice p33 rv32.length k34), (1, .slice p39 rv38.length k40)]) Bld29 rfl rfl) fun a hs => ?_
      refine h_all (rs := [9, 13]) (by kernel_rfl) rfl ?_
      refine AllH.cons rfl ?_ ?_
      ·obtain ⟨Sv64, hw⟩ := w_share (α := Span) hw 1 rfl 1 rfl
       obtain ⟨Sv65, hw⟩ := w_share (α := Span) hw 0 rfl 1 rfl
       refine st_callR hs (ref11_limited_ok h43 hw.dom (hw.envAt 1 rfl) (hw.envAt 0 rfl)) (do_call Try.call44 rfl) trivial rfl rfl ?_
       intro v69 Sv66 w a h67 h68 hs
       obtain ⟨p45, k46, p48, k49, rfl, h47, h50⟩ := h68
       have hw := hw.call h67
       have hw := hw.addE (e := SlA p45 rv44.1.Got.length k46 rv44.1.Got) h47
       have hw := hw.addE (e := SlA p48 rv44.1.Lost.length k49 rv44.1.Lost) h50
       refine h_nx (hw.cs [0, 1] [] rfl rfl) fun hC => ?_
       refine h_g hs 10 rfl (by kernel_rfl) rfl rfl hC rfl (fun w hC => y_move rfl) fun a hs => ?_
       refine h_g hs 11 rfl (by kernel_rfl) rfl rfl hC rfl (fun w hC => y_extract rfl rfl) fun a hs => ?_
       refine h_g hs 12 rfl (by kernel_rfl) rfl rfl hC rfl (fun w hC => y_extract rfl rfl) fun a hs => ?_
       refine h_one (i := 13) (by kernel_rfl) rfl ?_
       refine w_alloc (cs := [.slice none ([] : List Span).length 0, .slice none ([] : List Span).length 0]) hs hw Try.zeroValue29 rfl rfl trivial ?_
       intro b51 a w hs hw
       refine h_nx (hw.cs [1, 2] [] rfl rfl) fun hC => ?_
       refine h_one (i := 14) (by kernel_rfl) rfl ?_
       refine w_store (m := 2) (cs' := [.slice p45 rv44.1.Got.length k46, .slice p48 rv44.1.Lost.length k49]) hs hw 0 rfl rfl rfl Try.sizeOf29 rfl rfl rfl rfl trivial ?_
       intro a w hs hw
       refine h_nx (hw.cs [1, 2] [] rfl rfl) fun hC => ?_
       refine h_g hs 15 rfl (by kernel_rfl) rfl rfl hC rfl (fun w hC => y_assign rfl) fun a hs => ?_
       refine h_done (by kernel_rfl) ?_
       have hw := hw.addE (e := SlA (α := Span) none 0 0 []) nil_sl
       exact ⟨Sv66, b51, k46, k49, p45, p48, (hs.wk rfl), (hw.ft [2, 1, 0] [10, 9, 0, 2, 1] (by decide) rfl rfl)⟩
      refine AllH.cons rfl ?_ ?_
      ·refine w_alloc (cs := [.slice none ([] : List Span).length 0, .slice none ([] : List Span).length 0]) hs hw Try.zeroValue29 rfl rfl trivial ?_
       intro b51 a w hs hw
       refine h_nx (hw.cs [3, 4] [] rfl rfl) fun hC => ?_
       refine h_one (i := 9) (by kernel_rfl) rfl ?_
       obtain ⟨Sv71, hw⟩ := w_share (α := Span) hw 2 rfl 1 rfl
       obtain ⟨Sv72, hw⟩ := w_share (α := Span) hw 1 rfl 1 rfl
       refine st_callR hs (ref11_limited_ok h43 hw.dom (hw.envAt 1 rfl) (hw.envAt 0 rfl)) (do_call Try.call44 rfl) trivial rfl rfl ?_
       intro v76 Sv73 w a h74 h75 hs
       obtain ⟨p45, k46, p48, k49, rfl, h47, h50⟩ := h75
       have hw := hw.call h74
       have hw := hw.addE (e := SlA p45 rv44.1.Got.length k46 rv44.1.Got) h47
       have hw := hw.addE (e := SlA p48 rv44.1.Lost.length k49 rv44.1.Lost) h50
       refine h_nx (hw.cs [1, 2] [] rfl rfl) fun hC => ?_
       refine h_g hs 10 rfl (by kernel_rfl) rfl rfl hC rfl (fun w hC => y_move rfl) fun a hs => ?_
       refine h_g hs 11 rfl (by kernel_rfl) rfl rfl hC rfl (fun w hC => y_extract rfl rfl) fun a hs => ?_
       refine h_g hs 12 rfl (by kernel_rfl) rfl rfl hC rfl (fun w hC => y_extract rfl rfl) fun a hs => ?_
       refine h_one (i := 14) (by kernel_rfl) rfl ?_
       refine w_store (m := 2) (cs' := [.slice p45 rv44.1.Got.length k46, .slice p48 rv44.1.Lost.length k49]) hs hw 0 rfl rfl rfl Try.sizeOf29 rfl rfl rfl rfl trivial ?_
       intro a w hs hw
       refine h_nx (hw.cs [1, 2] [] rfl rfl) fun hC => ?_
       refine h_g hs 15 rfl (by kernel_rfl) rfl rfl hC rfl (fun w hC => y_assign rfl) fun a hs => ?_
       refine h_done (by kernel_rfl) ?_
       have hw := hw.addE (e := SlA (α := Span) none 0 0 []) nil_sl
       exact ⟨Sv73, b51, k46, k49, p45, p48, (hs.wk rfl), (hw.ft [2, 1, 0] [10, 9, 0, 2, 1] (by decide) rfl rfl)⟩
      exact AllH.nil
     refine AllH.cons rfl ?_ ?_
     ·refine w_alloc (cs := [.slice none ([] : List Span).length 0, .slice none ([] : List Span).length 0]) hs hw Try.zeroValue29 rfl rfl trivial ?_
      intro b51 a w hs hw
      refine h_nx (hw.cs [2, 3] [] rfl rfl) fun hC => ?_
      refine h_one (i := 7) (by kernel_rfl) rfl ?_
      refine st_callR hs (ref08_Minus_ok h37 hw.dom (hw.envAt 3 rfl) (hw.envAt 1 rfl)) (do_call Try.call32 rfl) trivial rfl rfl ?_
      intro v81 Sv78 w a h79 h80 hs
      obtain ⟨p39, k40, c42, rfl, h82, h41⟩ := h80
      have hw := hw.callN h79 h82
      have hw := hw.addE (e := RowA c42 rv38) h41
      refine h_nx (hw.cs [3, 4] [] rfl rfl) fun hC => ?_
      refine h_g hs 8 rfl (by kernel_rfl) rfl rfl hC rfl (fun w hC => y_build (vs := [(0, .slice p33 rv32.length k34), (1, .slice p39 rv38.length k40)]) Bld29 rfl rfl) fun a hs => ?_
      refine h_one (i := 9) (by kernel_rfl) rfl ?_
      obtain ⟨Sv83, hw⟩ := w_share (α := Span) hw 2 rfl 1 rfl
      obtain ⟨Sv84, hw⟩ := w_share (α := Span) hw 0 rfl 1 rfl
      refine st_callR hs (ref11_limited_ok h43 hw.dom (hw.envAt 1 rfl) (hw.envAt 0 rfl)) (do_call Try.call44 rfl) trivial rfl rfl ?_
      intro v88 Sv85 w a h86 h87 hs
      obtain ⟨p45, k46, p48, k49, rfl, h47, h50⟩ := h87
      have hw := hw.call h86
      have hw := hw.addE (e := SlA p45 rv44.1.Got.length k46 rv44.1.Got) h47
      have hw := hw.addE (e := SlA p48 rv44.1.Lost.length k49 rv44.1.Lost) h50
      refine h_nx (hw.cs [1, 2] [] rfl rfl) fun hC => ?_
      refine h_g hs 10 rfl (by kernel_rfl) rfl rfl hC rfl (fun w hC => y_move rfl) fun a hs => ?_
      refine h_g hs 11 rfl (by kernel_rfl) rfl rfl hC rfl (fun w hC => y_extract rfl rfl) fun a hs => ?_
      refine h_g hs 12 rfl (by kernel_rfl) rfl rfl hC rfl (fun w hC => y_extract rfl rfl) fun a hs => ?_
      refine h_one (i := 14) (by kernel_rfl) rfl ?_
      refine w_store (m := 2) (cs' := [.slice p45 rv44.1.Got.length k46, .slice p48 rv44.1.Lost.length k49]) hs hw 0 rfl rfl rfl Try.sizeOf29 rfl rfl rfl rfl trivial ?_
      intro a w hs hw
      refine h_nx (hw.cs [1, 2] [] rfl rfl) fun hC => ?_
      refine h_g hs 15 rfl (by kernel_rfl) rfl rfl hC rfl (fun w hC => y_assign rfl) fun a hs => ?_
      refine h_done (by kernel_rfl) ?_
      have hw := hw.addE (e := SlA (α := Span) none 0 0 []) nil_sl
      exact ⟨Sv85, b51, k46, k49, p45, p48, (hs.wk rfl), (hw.ft [2, 1, 0] [10, 9, 0, 2, 1] (by decide) rfl rfl)⟩
     exact AllH.nil
    refine AllH.cons rfl ?_ ?_
    ·refine w_alloc (cs := [.slice none ([] : List Span).length 0, .slice none ([] : List Span).length 0]) hs hw Try.zeroValue29 rfl rfl trivial ?_
     intro b51 a w hs hw
     refine h_nx (hw.cs [2, 3] [] rfl rfl) fun hC => ?_
     refine h_one (i := 3) (by kernel_rfl) rfl ?_
     obtain ⟨Sv90, hw⟩ := w_share (α := Span) hw 1 rfl 0 rfl
     refine st_callR hs (ref08_Union_ok h31 hw.dom (hw.envAt 3 rfl) (hw.envAt 0 rfl)) (do_call Try.call45 rfl) trivial rfl rfl ?_
     intro v94 Sv91 w a h92 h93 hs
     obtain ⟨p33, k34, c36, rfl, h95, h35⟩ := h93
     have hw := hw.callN h92 h95
     have hw := hw.addE (e := RowA c36 rv32) h35
     refine h_nx (hw.cs [2, 3] [] rfl rfl) fun hC => ?_
     refine h_one (i := 7) (by kernel_rfl) rfl ?_
     refine st_callR hs (ref08_Minus_ok h37 hw.dom (hw.envAt 3 rfl) (hw.envAt 1 rfl)) (do_call Try.call32 rfl) trivial rfl rfl ?_
     intro v99 Sv96 w a h97 h98 hs
     obtain ⟨p39, k40, c42, rfl, h100, h41⟩ := h98
     have hw := hw.callN h97 h100
     have hw := hw.addE (e := RowA c42 rv38) h41
     refine h_nx (hw.cs [3, 4] [] rfl rfl) fun hC => ?_
     refine h_g hs 8 rfl (by kernel_rfl) rfl rfl hC rfl (fun w hC => y_build (vs := [(0, .slice p33 rv32.length k34), (1, .slice p39 rv38.length k40)]) Bld29 rfl rfl) fun a hs => ?_
     refine h_one (i := 9) (by kernel_rfl) rfl ?_
     obtain ⟨Sv101, hw⟩ := w_share (α := Span) hw 1 rfl 1 rfl
     obtain ⟨Sv102, hw⟩ := w_share (α := Span) hw 0 rfl 1 rfl
     refine st_callR hs (ref11_limited_ok h43 hw.dom (hw.envAt 1 rfl) (hw.envAt 0 rfl)) (do_call Try.call44 rfl) trivial rfl rfl ?_
     intro v106 Sv103 w a h104 h105 hs
     obtain ⟨p45, k46, p48, k49, rfl, h47, h50⟩ := h105
     have hw := hw.call h104
     have hw := hw.addE (e := SlA p45 rv44.1.Got.length k46 rv44.1.Got) h47
     have hw := hw.addE (e := SlA p48 rv44.1.Lost.length k49 rv44.1.Lost) h50
     refine h_nx (hw.cs [1, 2] [] rfl rfl) fun hC => ?_
     refine h_g hs 10 rfl (by kernel_rfl) rfl rfl hC rfl (fun w hC => y_move rfl) fun a hs => ?_
     refine h_g hs 11 rfl (by kernel_rfl) rfl rfl hC rfl (fun w hC => y_extract rfl rfl) fun a hs => ?_
     refine h_g hs 12 rfl (by kernel_rfl) rfl rfl hC rfl (fun w hC => y_extract rfl rfl) fun a hs => ?_
     refine h_one (i := 14) (by kernel_rfl) rfl ?_
     refine w_store (m := 2) (cs' := [.slice p45 rv44.1.Got.length k46, .slice p48 rv44.1.Lost.length k49]) hs hw 0 rfl rfl rfl Try.sizeOf29 rfl rfl rfl rfl trivial ?_
     intro a w hs hw
     refine h_nx (hw.cs [1, 2] [] rfl rfl) fun hC => ?_
     refine h_g hs 15 rfl (by kernel_rfl) rfl rfl hC rfl (fun w hC => y_assign rfl) fun a hs => ?_
     refine h_done (by kernel_rfl) ?_
     have hw := hw.addE (e := SlA (α := Span) none 0 0 []) nil_sl
     exact ⟨Sv103, b51, k46, k49, p45, p48, (hs.wk rfl), (hw.ft [2, 1, 0] [10, 9, 0, 2, 1] (by decide) rfl rfl)⟩
    exact AllH.nil
   ·rintro a w ⟨Sv52, b51, k46, k49, p45, p48, hs, hw⟩
    refine then_normal ?_
    refine wp_seq ?_
    refine wp_seq ?_
    refine wp_region_lit ?_
    refine st_val hs (y_move rfl) trivial rfl rfl fun a hs => ?_
    refine st_val hs (y_neq rfl rfl) trivial rfl rfl fun a hs => ?_
    refine wpList_nil ?_
    refine then_normal ?_
    refine wp_cond_split (hs.ev rfl) (fun h109 => ?_) (fun h109 => ?_)
    ·have hsh := ite_t hsh h109
     refine wp_seq ?_
     refine wp_region_lit ?_
     refine st_val hs (y_build (vs := []) Bld29 rfl rfl) trivial rfl rfl fun a hs => ?_
     refine st_val hs (y_move rfl) trivial rfl rfl fun a hs => ?_
     refine w_store (m := 2) (cs' := [.slice none ([] : List Span).length 0, .slice none ([] : List Span).length 0]) hs hw 1 rfl rfl rfl Try.sizeOf29 rfl rfl rfl rfl trivial ?_
     intro a w hs hw
     refine st_val hs (y_assign rfl) trivial rfl rfl fun a hs => ?_
     refine st_val hs (y_assign rfl) trivial rfl rfl fun a hs => ?_
     refine wpList_nil ?_
     refine then_normal ?_
     have hsh := Option.some.inj hsh
     subst hsh
     refine wp_ret ?_
     refine then_ret ?_
     exact ret3 hs rfl (rv_cell hw 1 rfl rfl Try.isAgg29 Try.sizeOf29 rfl) (rv_tmp rfl) (rv_tmp rfl) (hw.ret ⟨none, 0, none, 0, rfl, (hw.envAt 2 rfl), (hw.envAt 2 rfl)⟩)
    ·have hsh := ite_f hsh h109
     refine wp_skip ?_
     refine then_normal ?_
     refine wp_seq ?_
     obtain ⟨rv111, h110, hsh⟩ := bind_t hsh
     refine wp_only (fun a w => ∃ (Sv112 : Nat → Prop), Sl 46 [(4, .pointer (some ⟨b10, 0, none⟩)), (5, .bool (!rv111)), (6, .int .i64 0)] a ∧ Wd ⟨w0, S0, []⟩ Sv112 [.box b10 [.slice p45 rv44.1.Got.length k46, .slice p48 rv44.1.Lost.length k49] 29] [SlA p45 rv44.1.Got.length k46 rv44.1.Got, SlA p48 rv44.1.Lost.length k49 rv44.1.Lost] w) ?_ ?_
     ·refine h_b (C := Cls [.box b9 [.slice p2 r1.Got.length k3, .slice p4 r1.Lost.length k5] 29, .box b51 [.slice p45 rv44.1.Got.length k46, .slice p48 rv44.1.Lost.length k49] 29] []) (by kernel_rfl) rfl (hw.drew.cs [0, 2] [] rfl rfl) fun hC => ?_
      have hw := hw.drew
      refine h_g hs 0 rfl (by kernel_rfl) rfl rfl hC rfl (fun w hC => y_loadBA (hC.ownAt 1 rfl) rfl Try.isAgg29 Try.sizeOf29 rfl rfl) fun a hs => ?_
      refine h_g hs 1 rfl (by kernel_rfl) rfl rfl hC rfl (fun w hC => y_fieldAddr (o' := 0) Try.runUnderlying29 rfl Try.sizeOf27 rfl rfl rfl) fun a hs => ?_
      refine h_g hs 2 rfl (by kernel_rfl) rfl rfl hC rfl (fun w hC => y_loadB1 (hC.ownAt 0 rfl) rfl Try.isAgg27 rfl) fun a hs => ?_
      refine h_g hs 3 rfl (by kernel_rfl) rfl rfl hC rfl (fun w hC => y_move rfl) fun a hs => ?_
      refine h_one (i := 4) (by kernel_rfl) rfl ?_
      refine st_callR hs (ref08_Has_ok h110 hw.bdom (hw.bE 0 rfl)) (do_call Try.call14 rfl) trivial rfl rfl ?_
      intro v116 Sv113 w a h114 h115 hs
      subst h115
      have hw := hw.callB h114
      refine h_nx (hw.cs [0, 2] [] rfl rfl) fun hC => ?_
      refine h_g hs 5 rfl (by kernel_rfl) rfl rfl hC rfl (fun w hC => y_not rfl) fun a hs => ?_
      refine h_one (i := 6) (by kernel_rfl) rfl ?_
      refine w_store (m := 2) (cs' := [.slice p45 rv44.1.Got.length k46, .slice p48 rv44.1.Lost.length k49]) hs hw 1 rfl rfl rfl Try.sizeOf29 rfl rfl rfl rfl trivial ?_
      intro a w hs hw
      refine h_nx (hw.cs [0, 2] [] rfl rfl) fun hC => ?_
      refine h_g hs 7 rfl (by kernel_rfl) rfl rfl hC rfl (fun w hC => y_assign rfl) fun a hs => ?_
      refine h_g hs 8 rfl (by kernel_rfl) rfl rfl hC rfl (fun w hC => y_assign rfl) fun a hs => ?_
      refine h_done (by kernel_rfl) ?_
      exact ⟨Sv52, (hs.wk rfl), (hw.ft [1] [3, 4] (by decide) rfl rfl)⟩
     ·rintro a w ⟨Sv112, hs, hw⟩
      refine then_normal ?_
      have hsh := Option.some.inj hsh
      subst hsh
      refine wp_ret ?_
      exact ret3 hs rfl (rv_cell hw 0 rfl rfl Try.isAgg29 Try.sizeOf29 rfl) (rv_tmp rfl) (rv_tmp rfl) (hw.ret ⟨p45, k46, p48, k49, rfl, (hw.envAt 0 rfl), (hw.envAt 1 rfl)⟩)

abbrev made_Dice_Receiver_rd (w0 : World) (X : List Nat) (b2 : Nat) (r : (Receiver × Dice)) : (Nat → Prop) → World → Value → Prop := fun S w v => ∃ (p0_0 : Option Addr) (k0_0 : Nat) (p0_1 : Option Addr) (k0_1 : Nat) (pq0_0 : Option Addr) (kq0_0 : Nat), v = .agg #[.slice p0_0 r.1.Got.length k0_0, .slice p0_1 r.1.Lost.length k0_1] ∧ Outs X w0 S w [.box b2 [.slice pq0_0 r.2.L.length kq0_0, .int .i64 r.2.At] 57] ∧ (SlA p0_0 r.1.Got.length k0_0 r.1.Got).p S w ∧ (SlA p0_1 r.1.Lost.length k0_1 r.1.Lost).p S w ∧ (SlA pq0_0 r.2.L.length kq0_0 r.2.L).p S w
set_option maxHeartbeats 4000000 in
set_option maxRecDepth 100000 in
theorem made_Dice_Receiver_ok {w0 : World} {S0 : Nat → Prop} {b2 : Nat} {p3 : Option Addr} {k4 : Nat} {d1 : Dice} {r : (Receiver × Dice)} (hsh : made_Dice_Receiver d1 = some r) (hS : ∀ b, S0 b → b < w0.heap.size) (hin : Ins S0 w0 [.box b2 [.slice p3 d1.L.length k4, .int .i64 d1.At] 57]) (h5 : (SlA p3 d1.L.length k4 d1.L).p S0 w0) : Calls Try.prog 16 #[.pointer (some ⟨b2, 0, none⟩)] w0 (Ret (blks [.box b2 [.slice p3 d1.L.length k4, .int .i64 d1.At] 57]) w0 S0 (made_Dice_Receiver_rd w0 (blks [.box b2 [.slice p3 d1.L.length k4, .int .i64 d1.At] 57]) b2 r)) := by
 refine calls_of_wp Try.func16 rfl ?_
 have hs := Sl.enter #[.pointer (some ⟨b2, 0, none⟩)] 31 [(0, .pointer (some ⟨b2, 0, none⟩))] rfl ⟨rfl, trivial⟩
 have hw := Wd.enterI hS hin
 have hw := hw.addE h5
 delta made_Dice_Receiver at hsh
 refine wp_seq ?_
 refine wp_region_lit ?_
 refine w_alloc (cs := [.slice none ([] : List Span).length 0, .slice none ([] : List Span).length 0]) hs hw Try.zeroValue29 rfl rfl trivial ?_
 intro b6 a w hs hw
 refine wpList_nil ?_
 refine then_normal ?_
 refine wp_seq ?_
 refine wp_region_lit ?_
 obtain ⟨rv8, h7, hsh⟩ := bind_t hsh
 refine st_callR hs (ref11_New_ok h7 hw.dom) (do_call Try.call30 rfl) trivial rfl rfl ?_
 intro v18 Sv15 w a h16 h17 hs
 obtain ⟨p9, k10, p12, k13, rfl, h11, h14⟩ := h17
 have hw := hw.call h16
 have hw := hw.addE (e := SlA p9 rv8.Got.length k10 rv8.Got) h11
 have hw := hw.addE (e := SlA p12 rv8.Lost.length k13 rv8.Lost) h14
 refine w_alloc (cs := [.slice none ([] : List Span).length 0, .slice none ([] : List Span).length 0]) hs hw Try.zeroValue29 rfl rfl trivial ?_
 intro b20 a w hs hw
 refine w_store (m := 2) (cs' := [.slice p9 rv8.Got.length k10, .slice p12 rv8.Lost.length k13]) hs hw 0 rfl rfl rfl Try.sizeOf29 rfl rfl rfl rfl trivial ?_
 intro a w hs hw
 refine wpList_nil ?_
 refine then_normal ?_
 refine wp_seq ?_
 refine wp_seq ?_
 refine wp_region_lit ?_
 refine st_val hs (y_move rfl) trivial rfl rfl fun a hs => ?_
 obtain ⟨rv22, h21, hsh⟩ := bind_t hsh
 refine st_callR hs (made_Dice_Next_ok h21 hw.dom (hw.ins [2] (by decide) rfl) (hw.envAt 2 rfl)) (do_call Try.call11 rfl) trivial rfl rfl ?_
 intro v29 Sv26 w a h27 h28 hs
 obtain ⟨p23, k24, rfl, h30, h25⟩ := h28
 have hw := hw.callO [2] [0, 1] (by decide) rfl h27 h30
 have hw := hw.addE (e := SlA p23 rv22.2.L.length k24 rv22.2.L) h25
 refine st_val hs (y_assign rfl) trivial rfl rfl fun a hs => ?_
 refine wpList_nil ?_
 refine then_normal ?_
 obtain ⟨e208, h390, hsh⟩ := bind_t hsh
 refine wp_join (fun a w => ∃ (p209 : Option Addr) (k210 : Nat) (p211 : Option Addr) (k212 : Nat) (p213 : Option Addr) (k214 : Nat) (Sv215 : Nat → Prop), Sl 31 [(2, .pointer (some ⟨b6, 0, none⟩)), (3, .pointer (some ⟨b20, 0, none⟩))] a ∧ Wd ⟨w0, S0, blks [.box b2 [.slice p3 d1.L.length k4, .int .i64 d1.At] 57]⟩ Sv215 [.box b2 [.slice p209 e208.1.length k210, .int .i64 e208.2.1] 57, .box b6 [.slice none ([] : List Span).length 0, .slice none ([] : List Span).length 0] 29, .box b20 [.slice p211 e208.2.2.1.length k212, .slice p213 e208.2.2.2.length k214] 29] [SlA p209 e208.1.length k210 e208.1, SlA none ([] : List Span).length 0 ([] : List Span), SlA p211 e208.2.2.1.length k212 e208.2.2.1, SlA p213 e208.2.2.2.length k214 e208.2.2.2] w) ?_ ?_
 ·refine wp_block ?_
  have hw := hw.addE (e := SlA (α := Span) none 0 0 []) nil_sl
  refine wp_while (fun sv31 a w => ∃ (p145 : Option Addr) (k146 : Nat) (p147 : Option Addr) (k148 : Nat) (p149 : Option Addr) (k150 : Nat) (Sv151 : Nat → Prop), Sl 31 [(0, .pointer (some ⟨b2, 0, none⟩)), (2, .pointer (some ⟨b6, 0, none⟩)), (3, .pointer (some ⟨b20, 0, none⟩)), (4, .int .i64 sv31.2.2.2.2)] a ∧ Wd ⟨w0, S0, blks [.box b2 [.slice p3 d1.L.length k4, .int .i64 d1.At] 57]⟩ Sv151 [.box b2 [.slice p145 sv31.1.length k146, .int .i64 sv31.2.1] 57, .box b6 [.slice none ([] : List Span).length 0, .slice none ([] : List Span).length 0] 29, .box b20 [.slice p147 sv31.2.2.1.length k148, .slice p149 sv31.2.2.2.1.length k150] 29] [SlA p145 sv31.1.length k146 sv31.1, SlA none ([] : List Span).length 0 ([] : List Span), SlA p147 sv31.2.2.1.length k148 sv31.2.2.1, SlA p149 sv31.2.2.2.1.length k150 sv31.2.2.2.1] w) (rv22.2.L, rv22.2.At, rv8.Got, rv8.Lost, rv22.1) h390 ⟨p23, k24, p9, k10, p12, k13, Sv26, (hs.wk rfl), (hw.ft [0, 2, 1] [1, 0, 3, 2] (by decide) rfl rfl)⟩ ?_
  clear h390
  repeat clear hsh
  rintro sv31 a w tv206 ⟨p145, k146, p147, k148, p149, k150, Sv151, hs, hw⟩ hsh hd205
  delta made_Dice_Receiver_l1 at hsh
  refine wp_seq ?_
  refine wp_seq ?_
  refine wp_region_lit ?_
  refine st_val hs (y_move rfl) trivial rfl rfl fun a hs => ?_
  refine st_val hs (y_gtr rfl rfl) trivial rfl rfl fun a hs => ?_
  refine wpList_nil ?_
  refine then_normal ?_
  refine wp_cond_split (hs.ev rfl) (fun h217 => ?_) (fun h217 => ?_)
  ·have hsh := ite_t hsh h217
   refine wp_skip ?_
   refine then_normal ?_
   refine wp_seq ?_
   refine wp_block ?_
   refine wp_seq ?_
   refine wp_region_lit ?_
   refine st_val hs (y_move rfl) trivial rfl rfl fun a hs => ?_
   obtain ⟨rv269, h268, hsh⟩ := bind_t hsh
   refine st_callR hs (made_Dice_Next_ok h268 hw.dom (hw.ins [0] (by decide) rfl) (hw.envAt 0 rfl)) (do_call Try.call11 rfl) trivial rfl rfl ?_
   intro v276 Sv273 w a h274 h275 hs
   obtain ⟨p270, k271, rfl, h277, h272⟩ := h275
   have hw := hw.callO [0] [1, 2] (by decide) rfl h274 h277
   have hw := hw.addE (e := SlA p270 rv269.2.L.length k271 rv269.2.L) h272
   refine st_val hs (y_eql rfl rfl) trivial rfl rfl fun a hs => ?_
   refine wpList_nil ?_
   refine then_normal ?_
   refine wp_join (fun a w => ∃ (x314 : (List Int)) (x315 : Int) (x316 : (List Span)) (x317 : (List Span)) (p307 : Option Addr) (k308 : Nat) (p309 : Option Addr) (k310 : Nat) (p311 : Option Addr) (k312 : Nat) (Sv313 : Nat → Prop), made_Dice_Receiver_j1 sv31 x314 x315 x316 x317 = some tv206 ∧ Sl 31 [(0, .pointer (some ⟨b2, 0, none⟩)), (2, .pointer (some ⟨b6, 0, none⟩)), (3, .pointer (some ⟨b20, 0, none⟩)), (4, .int .i64 sv31.2.2.2.2)] a ∧ Wd ⟨w0, S0, blks [.box b2 [.slice p3 d1.L.length k4, .int .i64 d1.At] 57]⟩ Sv313 [.box b2 [.slice p307 x314.length k308, .int .i64 x315] 57, .box b6 [.slice none ([] : List Span).length 0, .slice none ([] : List Span).length 0] 29, .box b20 [.slice p309 x316.length k310, .slice p311 x317.length k312] 29] [SlA p307 x314.length k308 x314, SlA none ([] : List Span).length 0 ([] : List Span), SlA p309 x316.length k310 x316, SlA p311 x317.length k312 x317] w) ?_ ?_
   ·refine wp_cond_split (hs.ev rfl) (fun h320 => ?_) (fun h320 => ?_)
    ·have hsh := ite_t hsh h320
     obtain ⟨rv322, h321, hsh⟩ := bind_t hsh
     obtain ⟨rv327, h326, hsh⟩ := bind_t hsh
     refine wp_only (fun a w => ∃ (Sv334 : Nat → Prop) (k324 : Nat) (k329 : Nat) (k332 : Nat) (p323 : Option Addr) (p328 : Option Addr) (p331 : Option Addr), Sl 31 [(0, .pointer (some ⟨b2, 0, none⟩)), (2, .pointer (some ⟨b6, 0, none⟩)), (3, .pointer (some ⟨b20, 0, none⟩)), (4, .int .i64 sv31.2.2.2.2)] a ∧ Wd ⟨w0, S0, blks [.box b2 [.slice p3 d1.L.length k4, .int .i64 d1.At] 57]⟩ Sv334 [.box b2 [.slice p323 rv322.2.L.length k324, .int .i64 rv322.2.At] 57, .box b6 [.slice none ([] : List Span).length 0, .slice none ([] : List Span).length 0] 29, .box b20 [.slice p328 rv327.1.Got.length k329, .slice p331 rv327.1.Lost.length k332] 29] [SlA p323 rv322.2.L.length k324 rv322.2.L, SlA none ([] : List Span).length 0 ([] : List Span), SlA p328 rv327.1.Got.length k329 rv327.1.Got, SlA p331 rv327.1.Lost.length k332 rv327.1.Lost] w) ?_ ?_
     ·refine h_b (C := Cls [.box b6 [.slice none ([] : List Span).length 0, .slice none ([] : List Span).length 0] 29] []) (by kernel_rfl) rfl (hw.drew.cs [1] [] rfl rfl) fun hC => ?_
      have hw := hw.drew
      refine h_g hs 1 rfl (by kernel_rfl) rfl rfl hC rfl (fun w hC => y_move rfl) fun a hs => ?_
      refine h_all (rs := [0, 2]) (by kernel_rfl) rfl ?_
      refine AllH.cons rfl ?_ ?_
      ·refine st_val hs (y_loadBA (hw.ownAt 2 rfl) rfl Try.isAgg29 Try.sizeOf29 rfl rfl) trivial rfl rfl fun a hs => ?_
       refine h_nx (hw.cs [1] [] rfl rfl) fun hC => ?_
       refine h_one (i := 2) (by kernel_rfl) rfl ?_
       refine st_callR hs (made_Dice_Next_ok h321 hw.dom (hw.ins [0] (by decide) rfl) (hw.envAt 0 rfl)) (do_call Try.call11 rfl) trivial rfl rfl ?_
       intro v338 Sv335 w a h336 h337 hs
       obtain ⟨p323, k324, rfl, h339, h325⟩ := h337
       have hw := hw.callO [0] [1, 2] (by decide) rfl h336 h339
       have hw := hw.addE (e := SlA p323 rv322.2.L.length k324 rv322.2.L) h325
       refine h_nx (hw.cs [1] [] rfl rfl) fun hC => ?_
       refine h_one (i := 3) (by kernel_rfl) rfl ?_
       refine st_callR hs (ref11_Lose_ok h326 hw.dom (hw.envAt 4 rfl) (hw.envAt 5 rfl)) (do_call Try.call21 rfl) trivial rfl rfl ?_
       intro v343 Sv340 w a h341 h342 hs
       obtain ⟨p328, k329, p331, k332, rfl, h330, h333⟩ := h342
       have hw := hw.call h341
       have hw := hw.addE (e := SlA p328 rv327.1.Got.length k329 rv327.1.Got) h330
       have hw := hw.addE (e := SlA p331 rv327.1.Lost.length k332 rv327.1.Lost) h333
       refine h_nx (hw.cs [1] [] rfl rfl) fun hC => ?_
       refine h_g hs 4 rfl (by kernel_rfl) rfl rfl hC rfl (fun w hC => y_move rfl) fun a hs => ?_
       refine h_g hs 5 rfl (by kernel_rfl) rfl rfl hC rfl (fun w hC => y_extract rfl rfl) fun a hs => ?_
       refine h_g hs 6 rfl (by kernel_rfl) rfl rfl hC rfl (fun w hC => y_extract rfl rfl) fun a hs => ?_
       refine h_one (i := 7) (by kernel_rfl) rfl ?_
       refine w_store (m := 2) (cs' := [.slice p328 rv327.1.Got.length k329, .slice p331 rv327.1.Lost.length k332]) hs hw 2 rfl rfl rfl Try.sizeOf29 rfl rfl rfl rfl trivial ?_
       intro a w hs hw
       refine h_nx (hw.cs [1] [] rfl rfl) fun hC => ?_
       refine h_done (by kernel_rfl) ?_
       exact ⟨Sv340, k324, k329, k332, p323, p328, p331, (hs.wk rfl), (hw.ft [0, 1, 2] [2, 5, 1, 0] (by decide) rfl rfl)⟩
      refine AllH.cons rfl ?_ ?_
      ·refine st_callR hs (made_Dice_Next_ok h321 hw.dom (hw.ins [0] (by decide) rfl) (hw.envAt 0 rfl)) (do_call Try.call11 rfl) trivial rfl rfl ?_
       intro v348 Sv345 w a h346 h347 hs
       obtain ⟨p323, k324, rfl, h349, h325⟩ := h347
       have hw := hw.callO [0] [1, 2] (by decide) rfl h346 h349
       have hw := hw.addE (e := SlA p323 rv322.2.L.length k324 rv322.2.L) h325
       refine h_nx (hw.cs [1] [] rfl rfl) fun hC => ?_
       refine h_one (i := 0) (by kernel_rfl) rfl ?_
       refine st_val hs (y_loadBA (hw.ownAt 2 rfl) rfl Try.isAgg29 Try.sizeOf29 rfl rfl) trivial rfl rfl fun a hs => ?_
       refine h_nx (hw.cs [1] [] rfl rfl) fun hC => ?_
       refine h_one (i := 3) (by kernel_rfl) rfl ?_
       refine st_callR hs (ref11_Lose_ok h326 hw.dom (hw.envAt 4 rfl) (hw.envAt 5 rfl)) (do_call Try.call21 rfl) trivial rfl rfl ?_
       intro v353 Sv350 w a h351 h352 hs
       obtain ⟨p328, k329, p331, k332, rfl, h330, h333⟩ := h352
       have hw := hw.call h351
       have hw := hw.addE (e := SlA p328 rv327.1.Got.length k329 rv327.1.Got) h330
       have hw := hw.addE (e := SlA p331 rv327.1.Lost.length k332 rv327.1.Lost) h333
       refine h_nx (hw.cs [1] [] rfl rfl) fun hC => ?_
       refine h_g hs 4 rfl (by kernel_rfl) rfl rfl hC rfl (fun w hC => y_move rfl) fun a hs => ?_
       refine h_g hs 5 rfl (by kernel_rfl) rfl rfl hC rfl (fun w hC => y_extract rfl rfl) fun a hs => ?_
       refine h_g hs 6 rfl (by kernel_rfl) rfl rfl hC rfl (fun w hC => y_extract rfl rfl) fun a hs => ?_
       refine h_one (i := 7) (by kernel_rfl) rfl ?_
       refine w_store (m := 2) (cs' := [.slice p328 rv327.1.Got.length k329, .slice p331 rv327.1.Lost.length k332]) hs hw 2 rfl rfl rfl Try.sizeOf29 rfl rfl rfl rfl trivial ?_
       intro a w hs hw
       refine h_nx (hw.cs [1] [] rfl rfl) fun hC => ?_
       refine h_done (by kernel_rfl) ?_
       exact ⟨Sv350, k324, k329, k332, p323, p328, p331, (hs.wk rfl), (hw.ft [0, 1, 2] [2, 5, 1, 0] (by decide) rfl rfl)⟩
      exact AllH.nil
     ·rintro a w ⟨Sv334, k324, k329, k332, p323, p328, p331, hs, hw⟩
      refine then_normal ?_
      exact ⟨rv322.2.L, rv322.2.At, rv327.1.Got, rv327.1.Lost, p323, k324, p328, k329, p331, k332, Sv334, hsh, (hs.wk rfl), (hw.ft [0, 1, 2] [0, 1, 2, 3] (by decide) rfl rfl)⟩
    ·have hsh := ite_f hsh h320
     obtain ⟨rv356, h355, hsh⟩ := bind_t hsh
     obtain ⟨rv361, h360, hsh⟩ := bind_t hsh
     refine wp_only (fun a w => ∃ (Sv368 : Nat → Prop) (k358 : Nat) (k363 : Nat) (k366 : Nat) (p357 : Option Addr) (p362 : Option Addr) (p365 : Option Addr), Sl 31 [(0, .pointer (some ⟨b2, 0, none⟩)), (2, .pointer (some ⟨b6, 0, none⟩)), (3, .pointer (some ⟨b20, 0, none⟩)), (4, .int .i64 sv31.2.2.2.2)] a ∧ Wd ⟨w0, S0, blks [.box b2 [.slice p3 d1.L.length k4, .int .i64 d1.At] 57]⟩ Sv368 [.box b2 [.slice p357 rv356.2.L.length k358, .int .i64 rv356.2.At] 57, .box b6 [.slice none ([] : List Span).length 0, .slice none ([] : List Span).length 0] 29, .box b20 [.slice p362 rv361.1.Got.length k363, .slice p365 rv361.1.Lost.length k366] 29] [SlA p357 rv356.2.L.length k358 rv356.2.L, SlA none ([] : List Span).length 0 ([] : List Span), SlA p362 rv361.1.Got.length k363 rv361.1.Got, SlA p365 rv361.1.Lost.length k366 rv361.1.Lost] w) ?_ ?_
     ·refine h_b (C := Cls [.box b6 [.slice none ([] : List Span).length 0, .slice none ([] : List Span).length 0] 29] []) (by kernel_rfl) rfl (hw.drew.cs [1] [] rfl rfl) fun hC => ?_
      have hw := hw.drew
      refine h_g hs 1 rfl (by kernel_rfl) rfl rfl hC rfl (fun w hC => y_move rfl) fun a hs => ?_
      refine h_all (rs := [0, 2]) (by kernel_rfl) rfl ?_
      refine AllH.cons rfl ?_ ?_
      ·refine st_val hs (y_loadBA (hw.ownAt 2 rfl) rfl Try.isAgg29 Try.sizeOf29 rfl rfl) trivial rfl rfl fun a hs => ?_
       refine h_nx (hw.cs [1] [] rfl rfl) fun hC => ?_
       refine h_one (i := 2) (by kernel_rfl) rfl ?_
       refine st_callR hs (made_Dice_Next_ok h355 hw.dom (hw.ins [0] (by decide) rfl) (hw.envAt 0 rfl)) (do_call Try.call11 rfl) trivial rfl rfl ?_
       intro v372 Sv369 w a h370 h371 hs
       obtain ⟨p357, k358, rfl, h373, h359⟩ := h371
       have hw := hw.callO [0] [1, 2] (by decide) rfl h370 h373
       have hw := hw.addE (e := SlA p357 rv356.2.L.length k358 rv356.2.L) h359
       refine h_nx (hw.cs [1] [] rfl rfl) fun hC => ?_
       refine h_one (i := 3) (by kernel_rfl) rfl ?_
       refine st_callR hs (ref11_Accept_ok h360 hw.dom (hw.envAt 4 rfl) (hw.envAt 5 rfl)) (do_call Try.call20 rfl) trivial rfl rfl ?_
       intro v377 Sv374 w a h375 h376 hs
       obtain ⟨p362, k363, p365, k366, rfl, h364, h367⟩ := h376
       have hw := hw.call h375
       have hw := hw.addE (e := SlA p362 rv361.1.Got.length k363 rv361.1.Got) h364
       have hw := hw.addE (e := SlA p365 rv361.1.Lost.length k366 rv361.1.Lost) h367
       refine h_nx (hw.cs [1] [] rfl rfl) fun hC => ?_
       refine h_g hs 4 rfl (by kernel_rfl) rfl rfl hC rfl (fun w hC => y_move rfl) fun a hs => ?_
       refine h_g hs 5 rfl (by kernel_rfl) rfl rfl hC rfl (fun w hC => y_extract rfl rfl) fun a hs => ?_
       refine h_g hs 6 rfl (by kernel_rfl) rfl rfl hC rfl (fun w hC => y_extract rfl rfl) fun a hs => ?_
       refine h_g hs 7 rfl (by kernel_rfl) rfl rfl hC rfl (fun w hC => y_extract rfl rfl) fun a hs => ?_
       refine h_one (i := 8) (by kernel_rfl) rfl ?_
       refine w_store (m := 2) (cs' := [.slice p362 rv361.1.Got.length k363, .slice p365 rv361.1.Lost.length k366]) hs hw 2 rfl rfl rfl Try.sizeOf29 rfl rfl rfl rfl trivial ?_
       intro a w hs hw
       refine h_nx (hw.cs [1] [] rfl rfl) fun hC => ?_
       refine h_done (by kernel_rfl) ?_
       exact ⟨Sv374, k358, k363, k366, p357, p362, p365, (hs.wk rfl), (hw.ft [0, 1, 2] [2, 5, 1, 0] (by decide) rfl rfl)⟩
      refine AllH.cons rfl ?_ ?_
      ·refine st_callR hs (made_Dice_Next_ok h355 hw.dom (hw.ins [0] (by decide) rfl) (hw.envAt 0 rfl)) (do_call Try.call11 rfl) trivial rfl rfl ?_
       intro v382 Sv379 w a h380 h381 hs
       obtain ⟨p357, k358, rfl, h383, h359⟩ := h381
       have hw := hw.callO [0] [1, 2] (by decide) rfl h380 h383
       have hw := hw.addE (e := SlA p357 rv356.2.L.length k358 rv356.2.L) h359
       refine h_nx (hw.cs [1] [] rfl rfl) fun hC => ?_
       refine h_one (i := 0) (by kernel_rfl) rfl ?_
       refine st_val hs (y_loadBA (hw.ownAt 2 rfl) rfl Try.isAgg29 Try.sizeOf29 rfl rfl) trivial rfl rfl fun a hs => ?_
       refine h_nx (hw.cs [1] [] rfl rfl) fun hC => ?_
       refine h_one (i := 3) (by kernel_rfl) rfl ?_
       refine st_callR hs (ref11_Accept_ok h360 hw.dom (hw.envAt 4 rfl) (hw.envAt 5 rfl)) (do_call Try.call20 rfl) trivial rfl rfl ?_
       intro v387 Sv384 w a h385 h386 hs
       obtain ⟨p362, k363, p365, k366, rfl, h364, h367⟩ := h386
       have hw := hw.call h385
       have hw := hw.addE (e := SlA p362 rv361.1.Got.length k363 rv361.1.Got) h364
       have hw := hw.addE (e := SlA p365 rv361.1.Lost.length k366 rv361.1.Lost) h367
       refine h_nx (hw.cs [1] [] rfl rfl) fun hC => ?_
       refine h_g hs 4 rfl (by kernel_rfl) rfl rfl hC rfl (fun w hC => y_move rfl) fun a hs => ?_
       refine h_g hs 5 rfl (by kernel_rfl) rfl rfl hC rfl (fun w hC => y_extract rfl rfl) fun a hs => ?_
       refine h_g hs 6 rfl (by kernel_rfl) rfl rfl hC rfl (fun w hC => y_extract rfl rfl) fun a hs => ?_
       refine h_g hs 7 rfl (by kernel_rfl) rfl rfl hC rfl (fun w hC => y_extract rfl rfl) fun a hs => ?_
       refine h_one (i := 8) (by kernel_rfl) rfl ?_
       refine w_store (m := 2) (cs' := [.slice p362 rv361.1.Got.length k363, .slice p365 rv361.1.Lost.length k366]) hs hw 2 rfl rfl rfl Try.sizeOf29 rfl rfl rfl rfl trivial ?_
       intro a w hs hw
       refine h_nx (hw.cs [1] [] rfl rfl) fun hC => ?_
       refine h_done (by kernel_rfl) ?_
       exact ⟨Sv384, k358, k363, k366, p357, p362, p365, (hs.wk rfl), (hw.ft [0, 1, 2] [2, 5, 1, 0] (by decide) rfl rfl)⟩
      exact AllH.nil
     ·rintro a w ⟨Sv368, k358, k363, k366, p357, p362, p365, hs, hw⟩
      refine then_normal ?_
      exact ⟨rv356.2.L, rv356.2.At, rv361.1.Got, rv361.1.Lost, p357, k358, p362, k363, p365, k366, Sv368, hsh, (hs.wk rfl), (hw.ft [0, 1, 2] [0, 1, 2, 3] (by decide) rfl rfl)⟩
   ·rintro a w ⟨x314, x315, x316, x317, p307, k308, p309, k310, p311, k312, Sv313, hsh, hs, hw⟩
    delta made_Dice_Receiver_j1 at hsh
    refine blk_normal ?_
    refine then_normal ?_
    refine wp_region_lit ?_
    refine st_val hs (y_move rfl) trivial rfl rfl fun a hs => ?_
    refine st_val hs (y_sub rfl rfl) trivial rfl rfl fun a hs => ?_
    obtain ⟨i319, h318, hsh⟩ := bind_t hsh
    refine st_val hs (y_assignI rfl h318) trivial rfl rfl fun a hs => ?_
    refine wpList_nil ?_
    refine then_normal ?_
    exact ⟨_, (Option.some.inj hsh).symm, p307, k308, p309, k310, p311, k312, Sv313, (hs.wk rfl), (hw.ft [0, 1, 2] [0, 1, 2, 3] (by decide) rfl rfl)⟩
  ·have hsh := ite_f hsh h217
   refine wp_exit ?_
   refine then_exit ?_
   refine then_exit ?_
   refine blk_exit ?_
   have hsh := Option.some.inj hsh
   subst hsh
   have h389 := hd205 _ rfl
   subst h389
   refine then_normal ?_
   exact ⟨p145, k146, p147, k148, p149, k150, Sv151, (hs.wk rfl), (hw.ft [0, 1, 2] [0, 1, 2, 3] (by decide) rfl rfl)⟩
 ·rintro a w ⟨p209, k210, p211, k212, p213, k214, Sv215, hs, hw⟩
  refine then_normal ?_
  refine wp_seq ?_
  refine wp_region_lit ?_
  refine st_val hs (y_loadBA (hw.ownAt 2 rfl) rfl Try.isAgg29 Try.sizeOf29 rfl rfl) trivial rfl rfl fun a hs => ?_
  refine w_store (m := 2) (cs' := [.slice p211 e208.2.2.1.length k212, .slice p213 e208.2.2.2.length k214]) hs hw 1 rfl rfl rfl Try.sizeOf29 rfl rfl rfl rfl trivial ?_
  intro a w hs hw
  refine wpList_nil ?_
  refine then_normal ?_
  have hsh := Option.some.inj hsh
  subst hsh
  refine wp_ret ?_
  exact ret1 hs rfl (rv_cell hw 1 rfl rfl Try.isAgg29 Try.sizeOf29 rfl) (hw.ret ⟨p211, k212, p213, k214, p209, k210, rfl, (hw.outs [0] (by decide) rfl), (hw.envAt 2 rfl), (hw.envAt 3 rfl), (hw.envAt 0 rfl)⟩)

abbrev law11_ReceiverDivides_rd (w0 : World) (X : List Nat) (r : Bool) : (Nat → Prop) → World → Value → Prop := fun S w v => v = .bool r
set_option maxHeartbeats 4000000 in
set_option maxRecDepth 100000 in
theorem law11_ReceiverDivides_ok {w0 : World} {S0 : Nat → Prop} {p2 : Option Addr} {k3 : Nat} {t1 : (List Int)} {n5 : Int} {r : Bool} (hsh : law11_ReceiverDivides t1 n5 = some r) (hS : ∀ b, S0 b → b < w0.heap.size) (h4 : (SlA p2 t1.length k3 t1).p S0 w0) : Calls Try.prog 4 #[.slice p2 t1.length k3, .int .u8 n5] w0 (Ret ([]) w0 S0 (law11_ReceiverDivides_rd w0 ([]) r)) := by
 refine calls_of_wp Try.func4 rfl ?_
 have hs := Sl.enter #[.slice p2 t1.length k3, .int .u8 n5] 95 [(0, .slice p2 t1.length k3), (1, .int .u8 n5)] rfl ⟨rfl, rfl, trivial⟩
 have hw := Wd.enter (E := []) hS (fun _ h => (by cases h))
 have hw := hw.addE h4
 delta law11_ReceiverDivides at hsh
 refine wp_seq ?_
 refine wp_region_lit ?_
 refine st_val hs (y_assign rfl) trivial rfl rfl fun a hs => ?_
 refine wpList_nil ?_
 refine then_normal ?_
 refine wp_seq ?_
 refine wp_seq ?_
 refine wp_region_lit ?_
 refine st_val hs (y_move rfl) trivial rfl rfl fun a hs => ?_
 obtain ⟨rv7, h6, hsh⟩ := bind_t hsh
 refine st_callR hs (made_Light_ok h6 hw.bdom (hw.bE 0 rfl)) (do_call Try.call7 rfl) trivial rfl rfl ?_
 intro v11 Sv8 w a h9 h10 hs
 subst h10
 have hw := hw.callB h9
 refine st_val hs (y_not rfl) trivial rfl rfl fun a hs => ?_
 refine wpList_nil ?_
 refine then_normal ?_
 refine wp_cond_split (hs.ev rfl) (fun h21 => ?_) (fun h21 => ?_)
 ·have hsh := ite_t hsh h21
  refine wp_seq ?_
  refine wp_region_lit ?_
  obtain ⟨rv23, h22, hsh⟩ := bind_t hsh
  refine st_callR hs (law11_sane_ok h22 hw.bdom) (do_call Try.call8 rfl) trivial rfl rfl ?_
  intro v27 Sv24 w a h25 h26 hs
  subst h26
  have hw := hw.callB h25
  refine st_val hs (y_assign rfl) trivial rfl rfl fun a hs => ?_
  refine wpList_nil ?_
  refine then_normal ?_
  have hsh := Option.some.inj hsh
  subst hsh
  refine wp_ret ?_
  refine then_ret ?_
  exact ret1 hs rfl (rv_tmp rfl) (hw.ret rfl)
 ·have hsh := ite_f hsh h21
  refine wp_skip ?_
  refine then_normal ?_
  refine wp_seq ?_
  refine wp_region_lit ?_
  refine st_val hs (y_move rfl) trivial rfl rfl fun a hs => ?_
  obtain ⟨rv30, h29, hsh⟩ := bind_t hsh
  refine st_callR hs (made_Roll_ok h29 hw.dom (hw.envAt 0 rfl)) (do_call Try.call9 rfl) trivial rfl rfl ?_
  intro v38 Sv35 w a h36 h37 hs
  obtain ⟨b31, p32, k33, rfl, h39, h34⟩ := h37
  have hw := hw.callN h36 h39
  have hw := hw.addE (e := SlA p32 rv30.L.length k33 rv30.L) h34
  obtain ⟨rv41, h40, hsh⟩ := bind_t hsh
  refine st_callR hs (made_Dice_Receiver_ok h40 hw.dom (hw.ins [0] (by decide) rfl) (hw.envAt 0 rfl)) (do_call Try.call16 rfl) trivial rfl rfl ?_
  intro v54 Sv51 w a h52 h53 hs
  obtain ⟨p42, k43, p45, k46, p48, k49, rfl, h55, h44, h47, h50⟩ := h53
  have hw := hw.callO [0] [] (by decide) rfl h52 h55
  have hw := hw.addE (e := SlA p42 rv41.1.Got.length k43 rv41.1.Got) h44
  have hw := hw.addE (e := SlA p45 rv41.1.Lost.length k46 rv41.1.Lost) h47
  have hw := hw.addE (e := SlA p48 rv41.2.L.length k49 rv41.2.L) h50
  refine w_alloc (cs := [.slice none ([] : List Span).length 0, .slice none ([] : List Span).length 0]) hs hw Try.zeroValue29 rfl rfl trivial ?_
  intro b56 a w hs hw
  refine w_store (m := 2) (cs' := [.slice p42 rv41.1.Got.length k43, .slice p45 rv41.1.Lost.length k46]) hs hw 0 rfl rfl rfl Try.sizeOf29 rfl rfl rfl rfl trivial ?_
  intro a w hs hw
  refine wpList_nil ?_
  refine then_normal ?_
  refine wp_seq ?_
  refine wp_region_lit ?_
  refine st_val hs (y_move rfl) trivial rfl rfl fun a hs => ?_
  refine st_val hs (y_convert Try.runUnderlying5 Try.runUnderlying3 rfl) trivial rfl rfl fun a hs => ?_
  refine st_val hs (y_rem rfl rfl (by decide)) trivial rfl rfl fun a hs => ?_
  obtain ⟨next58, h57, hsh⟩ := bind_t hsh
  refine st_val hs (y_assignI rfl h57) trivial rfl rfl fun a hs => ?_
  refine wpList_nil ?_
  refine then_normal ?_
  refine wp_seq ?_
  refine wp_region_lit ?_
  refine st_val hs (y_loadBA (hw.ownAt 0 rfl) rfl Try.isAgg29 Try.sizeOf29 rfl rfl) trivial rfl rfl fun a hs => ?_
  refine st_val hs (y_move rfl) trivial rfl rfl fun a hs => ?_
  obtain ⟨rv60, h59, hsh⟩ := bind_t hsh
  refine st_callR hs (receiver_Missing_ok h59 hw.dom (hw.envAt 2 rfl) (hw.envAt 1 rfl)) (do_call Try.call17 rfl) trivial rfl rfl ?_
  intro v68 Sv65 w a h66 h67 hs
  obtain ⟨p61, k62, c64, rfl, h69, h63⟩ := h67
  have hw := hw.callN h66 h69
  have hw := hw.addE (e := RowA c64 rv60.1) h63
  refine st_val hs (y_move rfl) trivial rfl rfl fun a hs => ?_
  refine st_val hs (y_extract rfl rfl) trivial rfl rfl fun a hs => ?_
  refine st_val hs (y_extract rfl rfl) trivial rfl rfl fun a hs => ?_
  refine st_val hs (y_assign rfl) trivial rfl rfl fun a hs => ?_
  refine st_val hs (y_assign rfl) trivial rfl rfl fun a hs => ?_
  refine wpList_nil ?_
  refine then_normal ?_
  refine wp_seq ?_
  refine wp_region_lit ?_
  refine st_val hs (y_move rfl) trivial rfl rfl fun a hs => ?_
  refine st_val hs (y_loadBA (hw.ownAt 1 rfl) rfl Try.isAgg29 Try.sizeOf29 rfl rfl) trivial rfl rfl fun a hs => ?_
  obtain ⟨rv71, h70, hsh⟩ := bind_t hsh
  refine st_callR hs (receiver_High_ok h70 hw.bdom (hw.bE 3 rfl) (hw.bE 2 rfl)) (do_call Try.call18 rfl) trivial rfl rfl ?_
  intro v75 Sv72 w a h73 h74 hs
  subst h74
  have hw := hw.callB h73
  refine st_val hs (y_max rfl rfl) trivial rfl rfl fun a hs => ?_
  obtain ⟨endv78, h77, hsh⟩ := bind_t hsh
  refine st_val hs (y_assignI rfl h77) trivial rfl rfl fun a hs => ?_
  refine wpList_nil ?_
  refine then_normal ?_
  refine wp_seq ?_
  refine wp_region_lit ?_
  refine st_val hs (y_move rfl) trivial rfl rfl fun a hs => ?_
  refine st_val hs (y_assign rfl) trivial rfl rfl fun a hs => ?_
  refine wpList_nil ?_
  refine then_normal ?_
  refine wp_seq ?_
  refine wp_seq ?_
  refine wp_region_lit ?_
  refine st_val hs (y_assign rfl) trivial rfl rfl fun a hs => ?_
  refine wpList_nil ?_
  refine then_normal ?_
  refine wp_block ?_
  obtain ⟨Sv764, hw⟩ := w_share (α := Span) hw 0 rfl 0 rfl
  refine wp_while (fun sv422 a w => ∃ (Sv649 : Nat → Prop), Sl 95 [(5, .pointer (some ⟨b56, 0, none⟩)), (7, .slice p61 rv60.1.length k62), (8, .int .i64 rv60.2), (9, .int .i64 endv78), (10, .int .i64 sv422.1), (11, .int .i64 sv422.2)] a ∧ Wd ⟨w0, S0, []⟩ Sv649 [.box b56 [.slice p42 rv41.1.Got.length k43, .slice p45 rv41.1.Lost.length k46] 29] [SlA p61 rv60.1.length k62 rv60.1, SlA p42 rv41.1.Got.length k43 rv41.1.Got, SlA p45 rv41.1.Lost.length k46 rv41.1.Lost] w) (endv78, 0) hsh ⟨Sv764, (hs.wk rfl), (hw.ft [0] [0, 4, 3] (by decide) rfl rfl)⟩ ?_
  repeat clear hsh
  rintro sv422 a w tv763 ⟨Sv649, hs, hw⟩ hsh hd762
  delta law11_ReceiverDivides_l7 at hsh
  refine wp_seq ?_
  refine wp_seq ?_
  refine wp_region_lit ?_
  refine st_val hs (y_move rfl) trivial rfl rfl fun a hs => ?_
  refine st_val hs (y_move rfl) trivial rfl rfl fun a hs => ?_
  refine st_val hs (y_add rfl rfl) trivial rfl rfl fun a hs => ?_
  refine st_val hs (y_lss rfl rfl) trivial rfl rfl fun a hs => ?_
  refine wpList_nil ?_
  refine then_normal ?_
  refine wp_cond_split (hs.ev rfl) (fun h768 => ?_) (fun h768 => ?_)
  ·have hsh := ite_t hsh h768
   refine wp_skip ?_
   refine then_normal ?_
   refine wp_seq ?_
   refine wp_block ?_
   refine wp_seq ?_
   refine wp_region_lit ?_
   refine st_val hs (y_assign rfl) trivial rfl rfl fun a hs => ?_
   refine wpList_nil ?_
   refine then_normal ?_
   refine wp_seq ?_
   refine wp_seq ?_
   refine wp_region_lit ?_
   refine st_val hs (y_fieldAddr (o' := 0) Try.runUnderlying29 rfl Try.sizeOf27 rfl rfl rfl) trivial rfl rfl fun a hs => ?_
   refine st_val hs (y_loadB1 (hw.ownAt 0 rfl) rfl Try.isAgg27 rfl) trivial rfl rfl fun a hs => ?_
   refine st_val hs (y_fieldAddr (o' := 1) Try.runUnderlying29 rfl Try.sizeOf27 rfl rfl rfl) trivial rfl rfl fun a hs => ?_
   refine st_val hs (y_loadB1 (hw.ownAt 0 rfl) rfl Try.isAgg27 rfl) trivial rfl rfl fun a hs => ?_
   refine st_val hs (y_move rfl) trivial rfl rfl fun a hs => ?_
   refine w_litSlice (α := (List Span)) (vs := [.slice p42 rv41.1.Got.length k43, .slice p45 rv41.1.Lost.length k46, .slice p61 rv60.1.length k62]) (cs := [.slice p42 rv41.1.Got.length k43, .slice p45 rv41.1.Lost.length k46, .slice p61 rv60.1.length k62]) (xs := ([rv41.1.Got, rv41.1.Lost, rv60.1] : List (List Span))) hs hw El43 rfl rfl rfl rfl rfl rfl ⟨⟨_, rfl, ⟨_, _, _, rfl, hw.envAt 1 rfl⟩⟩, ⟨⟨_, rfl, ⟨_, _, _, rfl, hw.envAt 2 rfl⟩⟩, ⟨⟨_, rfl, ⟨_, _, _, rfl, hw.envAt 0 rfl⟩⟩, rfl⟩⟩⟩ rfl trivial rfl fun b879 a w hs hw => ?_
   refine st_val hs (y_len Try.runUnderlying43 rfl) trivial rfl rfl fun a hs => ?_
   refine st_val hs (y_move rfl) trivial rfl rfl fun a hs => ?_
   refine wpList_nil ?_
   refine then_normal ?_
   obtain ⟨e964, h1050, hsh⟩ := bind_t hsh
   refine wp_join (fun a w => ∃ (Sv965 : Nat → Prop), Sl 95 [(5, .pointer (some ⟨b56, 0, none⟩)), (7, .slice p61 rv60.1.length k62), (8, .int .i64 rv60.2), (9, .int .i64 endv78), (10, .int .i64 sv422.1), (11, .int .i64 sv422.2), (12, .int .i64 e964)] a ∧ Wd ⟨w0, S0, []⟩ Sv965 [.box b56 [.slice p42 rv41.1.Got.length k43, .slice p45 rv41.1.Lost.length k46] 29] [SlA p61 rv60.1.length k62 rv60.1, SlA p42 rv41.1.Got.length k43 rv41.1.Got, SlA p45 rv41.1.Lost.length k46 rv41.1.Lost] w) ?_ ?_
   ·refine wp_block ?_
    refine wp_while (fun sv880 a w => ∃ (Sv934 : Nat → Prop), Sl 95 [(5, .pointer (some ⟨b56, 0, none⟩)), (7, .slice p61 rv60.1.length k62), (8, .int .i64 rv60.2), (9, .int .i64 endv78), (10, .int .i64 sv422.1), (11, .int .i64 sv422.2), (12, .int .i64 sv880.1), (47, .slice (some ⟨b879, 0, none⟩) ([rv41.1.Got, rv41.1.Lost, rv60.1] : List (List Span)).length ([rv41.1.Got, rv41.1.Lost, rv60.1] : List (List Span)).length), (48, .int .i64 (([rv41.1.Got, rv41.1.Lost, rv60.1] : List (List Span)).length : Int)), (49, .int .i64 sv880.2)] a ∧ Wd ⟨w0, S0, []⟩ Sv934 [.box b56 [.slice p42 rv41.1.Got.length k43, .slice p45 rv41.1.Lost.length k46] 29, .row (some ⟨b879, 0, none⟩) ([rv41.1.Got, rv41.1.Lost, rv60.1] : List (List Span)).length ([rv41.1.Got, rv41.1.Lost, rv60.1] : List (List Span)).length [.slice p42 rv41.1.Got.length k43, .slice p45 rv41.1.Lost.length k46, .slice p61 rv60.1.length k62] 27 1] [SlA p61 rv60.1.length k62 rv60.1, SlA p42 rv41.1.Got.length k43 rv41.1.Got, SlA p45 rv41.1.Lost.length k46 rv41.1.Lost, RowA [.slice p42 rv41.1.Got.length k43, .slice p45 rv41.1.Lost.length k46, .slice p61 rv60.1.length k62] ([rv41.1.Got, rv41.1.Lost, rv60.1] : List (List Span))] w) (0, 0) h1050 ⟨Sv649, (hs.wk rfl), (hw.ft [1, 0] [1, 2, 3, 0] (by decide) rfl rfl)⟩ ?_
    clear h1050
    repeat clear hsh
    rintro sv880 a w tv962 ⟨Sv934, hs, hw⟩ hsh hd961
    delta law11_ReceiverDivides_l10 at hsh
    refine wp_seq ?_
    refine wp_region_lit ?_
    refine st_val hs (y_lss rfl rfl) trivial rfl rfl fun a hs => ?_
    refine wpList_nil ?_
    refine then_normal ?_
    refine wp_seq ?_
    refine wp_cond_split (hs.ev rfl) (fun h967 => ?_) (fun h967 => ?_)
    ·have hsh := ite_t hsh h967
     refine wp_skip ?_
     refine then_normal ?_
     refine wp_seq ?_
     refine wp_block ?_
     refine wp_seq ?_
     refine wp_region_lit ?_
     obtain ⟨x995, h993, hsh⟩ := bind_t hsh
     obtain ⟨q999, c1000, h996, h997, h1001, h994⟩ := hw.elemRK (α := (List Span)) 1 rfl 3 rfl h993
     obtain ⟨_, rfl, ⟨p1002, n1003, k1004, rfl, h1005⟩⟩ := h994
     obtain rfl := h1005.1
     have hw := hw.addE (e := SlA p1002 _ k1004 x995) h1005
     refine st_val hs (y_indexAt Try.runUnderlying43 Try.sizeOf27 rfl rfl h996.1 h996.2 h997) trivial rfl rfl fun a hs => ?_
     refine st_val hs (y_loadQ1 (j := 0) (hw.ownAt 1 rfl) rfl Try.isAgg27 h1001 rfl) trivial rfl rfl fun a hs => ?_
     refine st_val hs (y_assign rfl) trivial rfl rfl fun a hs => ?_
     refine wpList_nil ?_
     refine then_normal ?_
     refine wp_seq ?_
     refine wp_region_lit ?_
     refine st_val hs (y_move rfl) trivial rfl rfl fun a hs => ?_
     refine st_val hs (y_move rfl) trivial rfl rfl fun a hs => ?_
     obtain ⟨rv1007, h1006, hsh⟩ := bind_t hsh
     refine st_callR hs (ref08_Has_ok h1006 hw.bdom (hw.bE 0 rfl)) (do_call Try.call14 rfl) trivial rfl rfl ?_
     intro v1011 Sv1008 w a h1009 h1010 hs
     subst h1010
     have hw := hw.callB h1009
     refine wpList_nil ?_
     refine then_normal ?_
     refine wp_join (fun a w => ∃ (inv1017 : Int) (Sv1016 : Nat → Prop), law11_ReceiverDivides_j1 sv880 inv1017 = some tv962 ∧ Sl 95 [(5, .pointer (some ⟨b56, 0, none⟩)), (7, .slice p61 rv60.1.length k62), (8, .int .i64 rv60.2), (9, .int .i64 endv78), (10, .int .i64 sv422.1), (11, .int .i64 sv422.2), (12, .int .i64 inv1017), (47, .slice (some ⟨b879, 0, none⟩) ([rv41.1.Got, rv41.1.Lost, rv60.1] : List (List Span)).length ([rv41.1.Got, rv41.1.Lost, rv60.1] : List (List Span)).length), (48, .int .i64 (([rv41.1.Got, rv41.1.Lost, rv60.1] : List (List Span)).length : Int)), (49, .int .i64 sv880.2)] a ∧ Wd ⟨w0, S0, []⟩ Sv1016 [.box b56 [.slice p42 rv41.1.Got.length k43, .slice p45 rv41.1.Lost.length k46] 29, .row (some ⟨b879, 0, none⟩) ([rv41.1.Got, rv41.1.Lost, rv60.1] : List (List Span)).length ([rv41.1.Got, rv41.1.Lost, rv60.1] : List (List Span)).length [.slice p42 rv41.1.Got.length k43, .slice p45 rv41.1.Lost.length k46, .slice p61 rv60.1.length k62] 27 1] [SlA p61 rv60.1.length k62 rv60.1, SlA p42 rv41.1.Got.length k43 rv41.1.Got, SlA p45 rv41.1.Lost.length k46 rv41.1.Lost, RowA [.slice p42 rv41.1.Got.length k43, .slice p45 rv41.1.Lost.length k46, .slice p61 rv60.1.length k62] ([rv41.1.Got, rv41.1.Lost, rv60.1] : List (List Span))] w) ?_ ?_
     ·refine wp_cond_split (hs.ev rfl) (fun h1018 => ?_) (fun h1018 => ?_)
      ·have hsh := ite_t hsh h1018
       refine wp_region_lit ?_
       refine st_val hs (y_move rfl) trivial rfl rfl fun a hs => ?_
       refine st_val hs (y_add rfl rfl) trivial rfl rfl fun a hs => ?_
       obtain ⟨inv1020, h1019, hsh⟩ := bind_t hsh
       refine st_val hs (y_assignI rfl h1019) trivial rfl rfl fun a hs => ?_
       refine wpList_nil ?_
       refine then_normal ?_
       exact ⟨inv1020, Sv934, hsh, (hs.wk rfl), (hw.ft [0, 1] [1, 2, 3, 4] (by decide) rfl rfl)⟩
      ·have hsh := ite_f hsh h1018
       refine wp_skip ?_
       refine then_normal ?_
       exact ⟨sv880.1, Sv934, hsh, (hs.wk rfl), (hw.ft [0, 1] [1, 2, 3, 4] (by decide) rfl rfl)⟩
     ·rintro a w ⟨inv1017, Sv1016, hsh, hs, hw⟩
      delta law11_ReceiverDivides_j1 at hsh
      refine blk_normal ?_
      refine then_normal ?_
      refine wp_region_lit ?_
      refine st_val hs (y_add rfl rfl) trivial rfl rfl fun a hs => ?_
      refine st_val hs (y_move rfl) trivial rfl rfl fun a hs => ?_
      refine wpList_nil ?_
      refine then_normal ?_
      exact ⟨_, (Option.some.inj hsh).symm, Sv1016, (hs.wk rfl), (hw.ft [0, 1] [0, 1, 2, 3] (by decide) rfl rfl)⟩
    ·have hsh := ite_f hsh h967
     refine wp_exit ?_
     refine then_exit ?_
     refine then_exit ?_
     refine blk_exit ?_
     have hsh := Option.some.inj hsh
     subst hsh
     have h1021 := hd961 _ rfl
     subst h1021
     refine then_normal ?_
     exact ⟨Sv934, (hs.wk rfl), (hw.ft [0] [0, 1, 2] (by decide) rfl rfl)⟩
   ·rintro a w ⟨Sv965, hs, hw⟩
    refine then_normal ?_
    refine wp_seq ?_
    refine wp_seq ?_
    refine wp_region_lit ?_
    refine st_val hs (y_move rfl) trivial rfl rfl fun a hs => ?_
    refine st_val hs (y_move rfl) trivial rfl rfl fun a hs => ?_
    refine st_val hs (y_lss rfl rfl) trivial rfl rfl fun a hs => ?_
    refine st_val hs (y_move rfl) trivial rfl rfl fun a hs => ?_
    refine wpl_join 3 (fun a w1 => w = w1 ∧ Sl 95 [(5, .pointer (some ⟨b56, 0, none⟩)), (7, .slice p61 rv60.1.length k62), (8, .int .i64 rv60.2), (9, .int .i64 endv78), (10, .int .i64 sv422.1), (11, .int .i64 sv422.2), (12, .int .i64 e964), (65, .bool ((decide (sv422.2 < endv78)) && (e964 != 1)))] a) ?_ ?_
    ·rcases Bool.eq_false_or_eq_true (decide (sv422.2 < endv78)) with h1022 | h1022
     ·have hs := hs.fix 62 (.bool true) rfl (vb h1022)
      refine st_val hs (y_move rfl) ⟨_, rfl, rfl⟩ rfl rfl fun a hs => ?_
      refine st_val hs (y_neq rfl rfl) ⟨_, rfl, rfl⟩ rfl rfl fun a hs => ?_
      refine st_val hs (y_pickT rfl rfl) trivial rfl rfl fun a hs => ?_
      refine wpList_nil ?_
      refine then_normal ?_
      exact ⟨rfl, (hs.fix 65 (.bool ((decide (sv422.2 < endv78)) && (e964 != 1))) rfl (and_t h1022)).weaken _ ⟨rfl, rfl, rfl, rfl, rfl, rfl, rfl, rfl, trivial⟩⟩
     ·have hs := hs.fix 62 (.bool false) rfl (vb h1022)
      refine st_skip hs rfl rfl rfl rfl rfl fun a hs => ?_
      refine st_skip hs rfl rfl rfl rfl rfl fun a hs => ?_
      refine st_val hs (y_pickF rfl rfl) trivial rfl rfl fun a hs => ?_
      refine wpList_nil ?_
      refine then_normal ?_
      exact ⟨rfl, (hs.fix 65 (.bool ((decide (sv422.2 < endv78)) && (e964 != 1))) rfl (and_f h1022)).weaken _ ⟨rfl, rfl, rfl, rfl, rfl, rfl, rfl, rfl, trivial⟩⟩
    ·rintro a w1 ⟨h1049, hs⟩
     subst h1049
     refine st_val hs (y_move rfl) trivial rfl rfl fun a hs => ?_
     refine wpl_join 8 (fun a w1 => w = w1 ∧ Sl 95 [(5, .pointer (some ⟨b56, 0, none⟩)), (7, .slice p61 rv60.1.length k62), (8, .int .i64 rv60.2), (9, .int .i64 endv78), (10, .int .i64 sv422.1), (11, .int .i64 sv422.2), (74, .bool (((decide (sv422.2 < endv78)) && (e964 != 1)) || ((decide (endv78 ≤ sv422.2)) && (e964 != 0))))] a) ?_ ?_
     ·rcases Bool.eq_false_or_eq_true ((decide (sv422.2 < endv78)) && (e964 != 1)) with h1025 | h1025
      ·have hs := hs.fix 66 (.bool true) rfl (vb h1025)
       refine st_skip hs rfl rfl rfl rfl rfl fun a hs => ?_
       refine st_skip hs rfl rfl rfl rfl rfl fun a hs => ?_
       refine st_skip hs rfl rfl rfl rfl rfl fun a hs => ?_
       refine st_skip hs rfl rfl rfl rfl rfl fun a hs => ?_
       refine st_skipU hs rfl rfl rfl rfl rfl fun a hs => ?_
       refine st_skipU hs rfl rfl rfl rfl rfl fun a hs => ?_
       refine st_skip hs rfl rfl rfl rfl rfl fun a hs => ?_
       refine st_val hs (y_pickT rfl rfl) trivial rfl rfl fun a hs => ?_
       refine wpList_nil ?_
       refine then_normal ?_
       exact ⟨rfl, (hs.fix 74 (.bool (((decide (sv422.2 < endv78)) && (e964 != 1)) || ((decide (endv78 ≤ sv422.2)) && (e964 != 0)))) rfl (or_t h1025)).weaken _ ⟨rfl, rfl, rfl, rfl, rfl, rfl, rfl, trivial⟩⟩
      ·have hs := hs.fix 66 (.bool false) rfl (vb h1025)
       refine st_val hs (y_move rfl) ⟨_, rfl, rfl⟩ rfl rfl fun a hs => ?_
       refine st_val hs (y_move rfl) ⟨_, rfl, rfl⟩ rfl rfl fun a hs => ?_
       refine st_val hs (y_geq rfl rfl) ⟨_, rfl, rfl⟩ rfl rfl fun a hs => ?_
       refine st_val hs (y_move rfl) ⟨_, rfl, rfl⟩ rfl rfl fun a hs => ?_
       refine wpl_join 3 (fun a w1 => w = w1 ∧ Sl 95 [(5, .pointer (some ⟨b56, 0, none⟩)), (7, .slice p61 rv60.1.length k62), (8, .int .i64 rv60.2), (9, .int .i64 endv78), (10, .int .i64 sv422.1), (11, .int .i64 sv422.2), (66, .bool false), (67, .int .i64 sv422.2), (68, .int .i64 endv78), (69, .bool (decide (endv78 ≤ sv422.2))), (70, .bool (decide (endv78 ≤ sv422.2))), (73, .bool ((decide (endv78 ≤ sv422.2)) && (e964 != 0)))] a) ?_ ?_
       ·rcases Bool.eq_false_or_eq_true (decide (endv78 ≤ sv422.2)) with h1026 | h1026
        ·have hs := hs.fix 70 (.bool true) rfl (vb h1026)
         refine st_val hs (y_move rfl) ⟨_, rfl, rfl⟩ rfl rfl fun a hs => ?_
         refine st_val hs (y_neq rfl rfl) ⟨_, rfl, rfl⟩ rfl rfl fun a hs => ?_
         refine st_val hs (y_pickT rfl rfl) ⟨_, rfl, rfl⟩ rfl rfl fun a hs => ?_
         refine wpList_nil ?_
         refine then_normal ?_
         have hs := hs.fix 70 (.bool (decide (endv78 ≤ sv422.2))) rfl (vb h1026.symm)
         exact ⟨rfl, (hs.fix 73 (.bool ((decide (endv78 ≤ sv422.2)) && (e964 != 0))) rfl (and_t h1026)).weaken _ ⟨rfl, rfl, rfl, rfl, rfl, rfl, rfl, rfl, rfl, rfl, rfl, rfl, trivial⟩⟩
        ·have hs := hs.fix 70 (.bool false) rfl (vb h1026)
         refine st_skip hs rfl rfl rfl rfl rfl fun a hs => ?_
         refine st_skip hs rfl rfl rfl rfl rfl fun a hs => ?_
         refine st_val hs (y_pickF rfl rfl) ⟨_, rfl, rfl⟩ rfl rfl fun a hs => ?_
         refine wpList_nil ?_
         refine then_normal ?_
         have hs := hs.fix 70 (.bool (decide (endv78 ≤ sv422.2))) rfl (vb h1026.symm)
         exact ⟨rfl, (hs.fix 73 (.bool ((decide (endv78 ≤ sv422.2)) && (e964 != 0))) rfl (and_f h1026)).weaken _ ⟨rfl, rfl, rfl, rfl, rfl, rfl, rfl, rfl, rfl, rfl, rfl, rfl, trivial⟩⟩
       ·rintro a w1 ⟨h1027, hs⟩
        subst h1027
        refine st_val hs (y_pickF rfl rfl) trivial rfl rfl fun a hs => ?_
        refine wpList_nil ?_
        refine then_normal ?_
        exact ⟨rfl, (hs.fix 74 (.bool (((decide (sv422.2 < endv78)) && (e964 != 1)) || ((decide (endv78 ≤ sv422.2)) && (e964 != 0)))) rfl (or_f h1025)).weaken _ ⟨rfl, rfl, rfl, rfl, rfl, rfl, rfl, trivial⟩⟩
     ·rintro a w1 ⟨h1048, hs⟩
      subst h1048
      refine wpList_nil ?_
      refine then_normal ?_
      refine wp_cond_split (hs.ev rfl) (fun h1029 => ?_) (fun h1029 => ?_)
      ·have hsh := ite_t hsh h1029
       refine wp_seq ?_
       refine wp_region_lit ?_
       refine st_val hs (y_assign rfl) trivial rfl rfl fun a hs => ?_
       refine wpList_nil ?_
       refine then_normal ?_
       have hsh := Option.some.inj hsh
       subst hsh
       have h1030 := hd762 _ rfl
       subst h1030
       refine wp_ret ?_
       refine then_ret ?_
       refine blk_ret ?_
       refine then_ret ?_
       refine then_ret ?_
       refine blk_ret ?_
       refine then_ret ?_
       exact ret1 hs rfl (rv_tmp rfl) (hw.ret rfl)
      ·have hsh := ite_f hsh h1029
       refine wp_skip ?_
       refine then_normal ?_
       refine wp_seq ?_
       refine wp_region_lit ?_
       refine st_val hs (y_move rfl) trivial rfl rfl fun a hs => ?_
       refine st_val hs (y_move rfl) trivial rfl rfl fun a hs => ?_
       obtain ⟨rv1032, h1031, hsh⟩ := bind_t hsh
       refine st_callR hs (ref08_Has_ok h1031 hw.bdom (hw.bE 0 rfl)) (do_call Try.call14 rfl) trivial rfl rfl ?_
       intro v1036 Sv1033 w a h1034 h1035 hs
       subst h1035
       have hw := hw.callB h1034
       refine wpList_nil ?_
       refine then_normal ?_
       refine wp_join (fun a w => ∃ (first1042 : Int) (Sv1041 : Nat → Prop), law11_ReceiverDivides_j3 sv422 first1042 = some tv763 ∧ Sl 95 [(5, .pointer (some ⟨b56, 0, none⟩)), (7, .slice p61 rv60.1.length k62), (8, .int .i64 rv60.2), (9, .int .i64 endv78), (10, .int .i64 first1042), (11, .int .i64 sv422.2)] a ∧ Wd ⟨w0, S0, []⟩ Sv1041 [.box b56 [.slice p42 rv41.1.Got.length k43, .slice p45 rv41.1.Lost.length k46] 29] [SlA p61 rv60.1.length k62 rv60.1, SlA p42 rv41.1.Got.length k43 rv41.1.Got, SlA p45 rv41.1.Lost.length k46 rv41.1.Lost] w) ?_ ?_
       ·refine wp_cond_split (hs.ev rfl) (fun h1045 => ?_) (fun h1045 => ?_)
        ·have hsh := ite_t hsh h1045
         refine wp_region_lit ?_
         refine st_val hs (y_move rfl) trivial rfl rfl fun a hs => ?_
         refine st_val hs (y_move rfl) trivial rfl rfl fun a hs => ?_
         refine st_val hs (y_min rfl rfl) trivial rfl rfl fun a hs => ?_
         obtain ⟨first1047, h1046, hsh⟩ := bind_t hsh
         refine st_val hs (y_assignI rfl h1046) trivial rfl rfl fun a hs => ?_
         refine wpList_nil ?_
         refine then_normal ?_
         exact ⟨first1047, Sv965, hsh, (hs.wk rfl), (hw.ft [0] [0, 1, 2] (by decide) rfl rfl)⟩
        ·have hsh := ite_f hsh h1045
         refine wp_skip ?_
         refine then_normal ?_
         exact ⟨sv422.1, Sv965, hsh, (hs.wk rfl), (hw.ft [0] [0, 1, 2] (by decide) rfl rfl)⟩
       ·rintro a w ⟨first1042, Sv1041, hsh, hs, hw⟩
        delta law11_ReceiverDivides_j3 at hsh
        refine blk_normal ?_
        refine then_normal ?_
        refine wp_region_lit ?_
        refine st_val hs (y_move rfl) trivial rfl rfl fun a hs => ?_
        refine st_val hs (y_add rfl rfl) trivial rfl rfl fun a hs => ?_
        obtain ⟨k1044, h1043, hsh⟩ := bind_t hsh
        refine st_val hs (y_assignI rfl h1043) trivial rfl rfl fun a hs => ?_
        refine wpList_nil ?_
        refine then_normal ?_
        exact ⟨_, (Option.some.inj hsh).symm, Sv1041, (hs.wk rfl), (hw.ft [0] [0, 1, 2] (by decide) rfl rfl)⟩
  ·have hsh := ite_f hsh h768
   obtain ⟨rv1099, hsh, h1100⟩ := map_t hsh
   have h1100 := (hd762 _ h1100.symm).symm
   subst h1100
   refine wp_exit ?_
   refine then_exit ?_
   refine then_exit ?_
   refine blk_exit ?_
   refine then_normal ?_
   refine wp_seq ?_
   obtain ⟨c1055, hc1055, hsh⟩ := bind_t hsh
   obtain ⟨c1058, hc1058, hsh⟩ := bind_t hsh
   refine wp_only (fun a w => ∃ (Sv1059 : Nat → Prop), Sl 95 [(4, .bool c1058)] a ∧ Wd ⟨w0, S0, []⟩ Sv1059 [] [] w) ?_ ?_
   ·rcases Bool.eq_false_or_eq_true (rv60.2 == 0) with h1060 | h1060
    ·have h1061 := ite_t hc1055 h1060
     obtain ⟨rv1063, h1062, h1061⟩ := bind_t h1061
     obtain ⟨rv1065, h1064, h1061⟩ := bind_t h1061
     rcases Bool.eq_false_or_eq_true c1055 with h1066 | h1066
     ·have h1067 := ite_t hc1058 h1066
      obtain ⟨rv1069, h1068, h1067⟩ := bind_t h1067
      refine h_b (C := Cls [.box b56 [.slice p42 rv41.1.Got.length k43, .slice p45 rv41.1.Lost.length k46] 29] []) (by kernel_rfl) rfl (hw.drew.cs [0] [] rfl rfl) fun hC => ?_
      have hw := hw.drew
      refine h_g hs 0 rfl (by kernel_rfl) rfl rfl hC rfl (fun w hC => y_move rfl) fun a hs => ?_
      refine h_g hs 1 rfl (by kernel_rfl) rfl rfl hC rfl (fun w hC => y_eql rfl rfl) fun a hs => ?_
      refine h_g hs 2 rfl (by kernel_rfl) rfl rfl hC rfl (fun w hC => y_move rfl) fun a hs => ?_
      have hs := hs.fix 83 (.bool true) rfl (vb h1060)
      refine h_t hs 3 rfl (by kernel_rfl) ⟨_, rfl, rfl⟩ rfl rfl hC (fun w hC => y_loadBA (hC.ownAt 0 rfl) rfl Try.isAgg29 Try.sizeOf29 rfl rfl) fun a hs => ?_
      refine h_t hs 5 rfl (by kernel_rfl) ⟨_, rfl, rfl⟩ rfl rfl hC (fun w hC => y_move rfl) fun a hs => ?_
      refine h_t hs 6 rfl (by kernel_rfl) ⟨_, rfl, rfl⟩ rfl rfl hC (fun w hC => y_loadBA (hC.ownAt 0 rfl) rfl Try.isAgg29 Try.sizeOf29 rfl rfl) fun a hs => ?_
      refine h_one (i := 4) (by kernel_rfl) rfl ?_
      refine st_callR hs (receiver_Settled_ok h1062 hw.bdom (hw.bE 1 rfl) (hw.bE 2 rfl)) (do_call Try.call19 rfl) ⟨_, rfl, rfl⟩ rfl rfl ?_
      intro v1073 Sv1070 w a h1071 h1072 hs
      subst h1072
      have hw := hw.callB h1071
      refine h_nx (hw.cs [0] [] rfl rfl) fun hC => ?_
      refine h_one (i := 7) (by kernel_rfl) rfl ?_
      refine st_callR hs (receiver_High_ok h1064 hw.bdom (hw.bE 1 rfl) (hw.bE 2 rfl)) (do_call Try.call18 rfl) ⟨_, rfl, rfl⟩ rfl rfl ?_
      intro v1078 Sv1075 w a h1076 h1077 hs
      subst h1077
      have hw := hw.callB h1076
      refine h_nx (hw.cs [0] [] rfl rfl) fun hC => ?_
      refine h_t hs 8 rfl (by kernel_rfl) ⟨_, rfl, rfl⟩ rfl rfl hC (fun w hC => y_min rfl rfl) fun a hs => ?_
      refine h_t hs 9 rfl (by kernel_rfl) ⟨_, rfl, rfl⟩ rfl rfl hC (fun w hC => y_eql rfl rfl) fun a hs => ?_
      refine h_g hs 10 rfl (by kernel_rfl) rfl rfl hC rfl (fun w hC => y_pickTE (v := .bool c1055) rfl rfl (vbs h1061)) fun a hs => ?_
      refine h_g hs 11 rfl (by kernel_rfl) rfl rfl hC rfl (fun w hC => y_move rfl) fun a hs => ?_
      have hs := hs.fix 92 (.bool true) rfl (vb h1066)
      refine h_one (i := 12) (by kernel_rfl) rfl ?_
      refine st_callR hs (law11_sane_ok h1068 hw.bdom) (do_call Try.call8 rfl) ⟨_, rfl, rfl⟩ rfl rfl ?_
      intro v1083 Sv1080 w a h1081 h1082 hs
      subst h1082
      have hw := hw.callB h1081
      refine h_nx (hw.cs [0] [] rfl rfl) fun hC => ?_
      refine h_g hs 13 rfl (by kernel_rfl) rfl rfl hC rfl (fun w hC => y_pickTE (v := .bool c1058) rfl rfl (vbs h1067)) fun a hs => ?_
      refine h_g hs 14 rfl (by kernel_rfl) rfl rfl hC rfl (fun w hC => y_assign rfl) fun a hs => ?_
      refine h_done (by kernel_rfl) ?_
      exact ⟨Sv649, (hs.wk rfl), (hw.ft [] [] (by decide) rfl rfl)⟩
     ·have h1085 := ite_f hc1058 h1066
      refine h_b (C := Cls [.box b56 [.slice p42 rv41.1.Got.length k43, .slice p45 rv41.1.Lost.length k46] 29] []) (by kernel_rfl) rfl (hw.drew.cs [0] [] rfl rfl) fun hC => ?_
      have hw := hw.drew
      refine h_g hs 0 rfl (by kernel_rfl) rfl rfl hC rfl (fun w hC => y_move rfl) fun a hs => ?_
      refine h_g hs 1 rfl (by kernel_rfl) rfl rfl hC rfl (fun w hC => y_eql rfl rfl) fun a hs => ?_
      refine h_g hs 2 rfl (by kernel_rfl) rfl rfl hC rfl (fun w hC => y_move rfl) fun a hs => ?_
      have hs := hs.fix 83 (.bool true) rfl (vb h1060)
      refine h_t hs 3 rfl (by kernel_rfl) ⟨_, rfl, rfl⟩ rfl rfl hC (fun w hC => y_loadBA (hC.ownAt 0 rfl) rfl Try.isAgg29 Try.sizeOf29 rfl rfl) fun a hs => ?_
      refine h_t hs 5 rfl (by kernel_rfl) ⟨_, rfl, rfl⟩ rfl rfl hC (fun w hC => y_move rfl) fun a hs => ?_
      refine h_t hs 6 rfl (by kernel_rfl) ⟨_, rfl, rfl⟩ rfl rfl hC (fun w hC => y_loadBA (hC.ownAt 0 rfl) rfl Try.isAgg29 Try.sizeOf29 rfl rfl) fun a hs => ?_
      refine h_one (i := 4) (by kernel_rfl) rfl ?_
      refine st_callR hs (receiver_Settled_ok h1062 hw.bdom (hw.bE 1 rfl) (hw.bE 2 rfl)) (do_call Try.call19 rfl) ⟨_, rfl, rfl⟩ rfl rfl ?_
      intro v1089 Sv1086 w a h1087 h1088 hs
      subst h1088
      have hw := hw.callB h1087
      refine h_nx (hw.cs [0] [] rfl rfl) fun hC => ?_
      refine h_one (i := 7) (by kernel_rfl) rfl ?_
      refine st_callR hs (receiver_High_ok h1064 hw.bdom (hw.bE 1 rfl) (hw.bE 2 rfl)) (do_call Try.call18 rfl) ⟨_, rfl, rfl⟩ rfl rfl ?_
      intro v1094 Sv1091 w a h1092 h1093 hs
      subst h1093
      have hw := hw.callB h1092
      refine h_nx (hw.cs [0] [] rfl rfl) fun hC => ?_
      refine h_t hs 8 rfl (by kernel_rfl) ⟨_, rfl, rfl⟩ rfl rfl hC (fun w hC => y_min rfl rfl) fun a hs => ?_
      refine h_t hs 9 rfl (by kernel_rfl) ⟨_, rfl, rfl⟩ rfl rfl hC (fun w hC => y_eql rfl rfl) fun a hs => ?_
      refine h_g hs 10 rfl (by kernel_rfl) rfl rfl hC rfl (fun w hC => y_pickTE (v := .bool c1055) rfl rfl (vbs h1061)) fun a hs => ?_
      refine h_g hs 11 rfl (by kernel_rfl) rfl rfl hC rfl (fun w hC => y_move rfl) fun a hs => ?_
      have hs := hs.fix 92 (.bool false) rfl (vb h1066)
      refine h_s hs 12 rfl (by kernel_rfl) rfl rfl rfl (.inl rfl) rfl rfl hC fun a hs => ?_
      refine h_g hs 13 rfl (by kernel_rfl) rfl rfl hC rfl (fun w hC => y_pickFE (v := .bool c1058) rfl rfl (vbs h1085)) fun a hs => ?_
      refine h_g hs 14 rfl (by kernel_rfl) rfl rfl hC rfl (fun w hC => y_assign rfl) fun a hs => ?_
      refine h_done (by kernel_rfl) ?_
      exact ⟨Sv649, (hs.wk rfl), (hw.ft [] [] (by decide) rfl rfl)⟩
    ·have h1096 := ite_f hc1055 h1060
     have h1097 : c1055 = false := (Option.some.inj h1096).symm
     have h1098 := ite_f hc1058 h1097
     refine h_b (C := Cls [.box b56 [.slice p42 rv41.1.Got.length k43, .slice p45 rv41.1.Lost.length k46] 29] []) (by kernel_rfl) rfl (hw.drew.cs [0] [] rfl rfl) fun hC => ?_
     have hw := hw.drew
     refine h_g hs 0 rfl (by kernel_rfl) rfl rfl hC rfl (fun w hC => y_move rfl) fun a hs => ?_
     refine h_g hs 1 rfl (by kernel_rfl) rfl rfl hC rfl (fun w hC => y_eql rfl rfl) fun a hs => ?_
     refine h_g hs 2 rfl (by kernel_rfl) rfl rfl hC rfl (fun w hC => y_move rfl) fun a hs => ?_
     have hs := hs.fix 83 (.bool false) rfl (vb h1060)
     refine h_s hs 3 rfl (by kernel_rfl) rfl rfl rfl (.inl rfl) rfl rfl hC fun a hs => ?_
     refine h_s hs 4 rfl (by kernel_rfl) rfl rfl rfl (.inl rfl) rfl rfl hC fun a hs => ?_
     refine h_s hs 5 rfl (by kernel_rfl) rfl rfl rfl (.inl rfl) rfl rfl hC fun a hs => ?_
     refine h_s hs 6 rfl (by kernel_rfl) rfl rfl rfl (.inl rfl) rfl rfl hC fun a hs => ?_
     refine h_s hs 7 rfl (by kernel_rfl) rfl rfl rfl (.inl rfl) rfl rfl hC fun a hs => ?_
     refine h_s hs 8 rfl (by kernel_rfl) rfl rfl rfl (.inl rfl) rfl rfl hC fun a hs => ?_
     refine h_s hs 9 rfl (by kernel_rfl) rfl rfl rfl (.inl rfl) rfl rfl hC fun a hs => ?_
     refine h_g hs 10 rfl (by kernel_rfl) rfl rfl hC rfl (fun w hC => y_pickFE (v := .bool c1055) rfl rfl (vbs h1096)) fun a hs => ?_
     refine h_g hs 11 rfl (by kernel_rfl) rfl rfl hC rfl (fun w hC => y_move rfl) fun a hs => ?_
     have hs := hs.fix 92 (.bool false) rfl (vb h1097)
     refine h_s hs 12 rfl (by kernel_rfl) rfl rfl rfl (.inl rfl) rfl rfl hC fun a hs => ?_
     refine h_g hs 13 rfl (by kernel_rfl) rfl rfl hC rfl (fun w hC => y_pickFE (v := .bool c1058) rfl rfl (vbs h1098)) fun a hs => ?_
     refine h_g hs 14 rfl (by kernel_rfl) rfl rfl hC rfl (fun w hC => y_assign rfl) fun a hs => ?_
     refine h_done (by kernel_rfl) ?_
     exact ⟨Sv649, (hs.wk rfl), (hw.ft [] [] (by decide) rfl rfl)⟩
   ·rintro a w ⟨Sv1059, hs, hw⟩
    refine then_normal ?_
    have hsh := Option.some.inj hsh
    subst hsh
    refine wp_ret ?_
    exact ret1 hs rfl (rv_tmp rfl) (hw.ret rfl)

end Go.Proofs.Ytiihddcppmjbaaa.Wk

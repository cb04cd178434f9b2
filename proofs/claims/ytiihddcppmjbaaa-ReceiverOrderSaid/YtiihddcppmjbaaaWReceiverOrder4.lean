/- The walks of ReceiverOrder, part 4: each Go function computes what its plain program computes. Printed by a program of ours. -/
import Derived.Test.YtiihddcppmjbaaaProg
import Derived.Test.YtiihddcppmjbaaaDat
import Derived.Test.YtiihddcppmjbaaaSh
import Derived.Test.YtiihddcppmjbaaaLibL
import Derived.KernelRfl
import Derived.Test.YtiihddcppmjbaaaWReceiverOrder3
namespace Go.Proofs.Ytiihddcppmjbaaa.Wk
open Go Go.RowKit Go.Proofs Go.Proofs.Ytiihddcppmjbaaa.Sh
set_option linter.unusedVariables false
set_option linter.unusedSimpArgs false

abbrev ref08_Normal_rd (w0 : World) (X : List Nat) (r : (List Span)) : (Nat → Prop) → World → Value → Prop := fun S w v => ∃ (p0_0 : Option Addr) (k0_0 : Nat) (c0_0 : List Value), v = .slice p0_0 r.length k0_0 ∧ Outs X w0 S w [.row p0_0 r.length k0_0 c0_0 46 2] ∧ (RowA c0_0 r).p S w
set_option maxHeartbeats 4000000 in
set_option maxRecDepth 100000 in
theorem ref08_Normal_ok {w0 : World} {S0 : Nat → Prop} {p2 : Option Addr} {k3 : Nat} {l1 : (List Span)} {r : (List Span)} (hsh : ref08_Normal l1 = some r) (hS : ∀ b, S0 b → b < w0.heap.size) (h4 : (SlA p2 l1.length k3 l1).p S0 w0) : Calls Try.prog 51 #[.slice p2 l1.length k3] w0 (Ret ([]) w0 S0 (ref08_Normal_rd w0 ([]) r)) := by
 refine calls_of_wp Try.func51 rfl ?_
 have hs := Sl.enter #[.slice p2 l1.length k3] 117 [(0, .slice p2 l1.length k3)] rfl ⟨rfl, trivial⟩
 have hw := Wd.enter (E := []) hS (fun _ h => (by cases h))
 have hw := hw.addE h4
 delta ref08_Normal at hsh
 refine wp_seq ?_
 refine wp_region_lit ?_
 refine st_val hs (y_assign rfl) trivial rfl rfl fun a hs => ?_
 refine wpList_nil ?_
 refine then_normal ?_
 refine wp_seq ?_
 refine wp_region_lit ?_
 refine st_val hs (y_assign rfl) trivial rfl rfl fun a hs => ?_
 refine wpList_nil ?_
 refine then_normal ?_
 refine wp_seq ?_
 refine wp_seq ?_
 refine wp_region_lit ?_
 refine st_val hs (y_assign rfl) trivial rfl rfl fun a hs => ?_
 refine wpList_nil ?_
 refine then_normal ?_
 obtain ⟨e539, h1541, hsh⟩ := bind_t hsh
 refine wp_join (fun a w => ∃ (c540 : List Value) (p541 : Option Addr) (k542 : Nat) (Sv543 : Nat → Prop), Sl 117 [(3, .slice p541 e539.length k542)] a ∧ Wd ⟨w0, S0, []⟩ Sv543 [.row p541 e539.length k542 c540 46 2] [RowA c540 e539] w) ?_ ?_
 ·refine wp_block ?_
  have hw := hw.nilRow Span 46
  refine wp_while (fun sv5 a w => ∃ (c358 : List Value) (p359 : Option Addr) (k360 : Nat) (Sv361 : Nat → Prop), Sl 117 [(0, .slice p2 l1.length k3), (3, .slice p359 sv5.1.length k360), (4, .int .i64 sv5.2)] a ∧ Wd ⟨w0, S0, []⟩ Sv361 [.row p359 sv5.1.length k360 c358 46 2] [SlA p2 l1.length k3 l1, RowA c358 sv5.1] w) (([] : List Span), 0) h1541 ⟨[], none, 0, S0, (hs.wk rfl), (hw.ft [0] [1, 0] (by decide) rfl rfl)⟩ ?_
  clear h1541
  repeat clear hsh
  rintro sv5 a w tv537 ⟨c358, p359, k360, Sv361, hs, hw⟩ hsh hd536
  delta ref08_Normal_l3 at hsh
  refine wp_seq ?_
  refine wp_seq ?_
  refine wp_region_lit ?_
  refine st_val hs (y_move rfl) trivial rfl rfl fun a hs => ?_
  refine st_val hs (y_move rfl) trivial rfl rfl fun a hs => ?_
  refine st_val hs (y_len Try.runUnderlying27 rfl) trivial rfl rfl fun a hs => ?_
  refine st_val hs (y_lss rfl rfl) trivial rfl rfl fun a hs => ?_
  refine wpList_nil ?_
  refine then_normal ?_
  refine wp_cond_split (hs.ev rfl) (fun h545 => ?_) (fun h545 => ?_)
  ·have hsh := ite_t hsh h545
   refine wp_skip ?_
   refine then_normal ?_
   refine wp_seq ?_
   refine wp_join (fun a w => ∃ (sorted716 : (List Span)) (c712 : List Value) (p713 : Option Addr) (k714 : Nat) (Sv715 : Nat → Prop), ref08_Normal_j1 sv5 sorted716 = some tv537 ∧ Sl 117 [(0, .slice p2 l1.length k3), (3, .slice p713 sorted716.length k714), (4, .int .i64 sv5.2)] a ∧ Wd ⟨w0, S0, []⟩ Sv715 [.row p713 sorted716.length k714 c712 46 2] [SlA p2 l1.length k3 l1, RowA c712 sorted716] w) ?_ ?_
   ·refine wp_block ?_
    refine wp_seq ?_
    refine wp_seq ?_
    obtain ⟨x721, h719, hsh⟩ := bind_t hsh
    obtain ⟨b727, o728, q725, c726, h729, h722, h723, h724, h720⟩ := hw.elemV 0 rfl h719
    have hsv730 := hs
    have hwv731 := hw
    subst h729
    have hs := hsv730
    have hw := hwv731
    obtain ⟨_, _, rfl, rfl, rfl⟩ := h720
    have hw := hw.addE h724
    obtain ⟨x734, h732, hsh⟩ := bind_t hsh
    obtain ⟨q738, c739, h735, h736, h737, h733⟩ := hw.elemK 1 rfl h732
    obtain ⟨_, _, rfl, rfl, rfl⟩ := h733
    have hw := hw.addE h737
    refine wp_only (fun a w => ∃ (Sv740 : Nat → Prop), Sl 117 [(0, .slice (some ⟨b727, o728, none⟩) l1.length k3), (3, .slice p359 sv5.1.length k360), (4, .int .i64 sv5.2), (25, .bool (decide (x734.To ≤ x721.From)))] a ∧ Wd ⟨w0, S0, []⟩ Sv740 [.row p359 sv5.1.length k360 c358 46 2] [SlA (some ⟨b727, o728, none⟩) l1.length k3 l1, RowA c358 sv5.1] w) ?_ ?_
    ·refine h_b (C := Cls [.row p359 sv5.1.length k360 c358 46 2] [CeA b727 q738 [.int .i64 x734.From, .int .i64 x734.To], CeA b727 q725 [.int .i64 x721.From, .int .i64 x721.To]]) (by kernel_rfl) rfl (hw.drew.cs [0] [0, 1] rfl rfl) fun hC => ?_
     have hw := hw.drew
     refine h_g hs 0 rfl (by kernel_rfl) rfl rfl hC rfl (fun w hC => y_move rfl) fun a hs => ?_
     refine h_g hs 1 rfl (by kernel_rfl) rfl rfl hC rfl (fun w hC => y_move rfl) fun a hs => ?_
     refine h_g hs 2 rfl (by kernel_rfl) rfl rfl hC rfl (fun w hC => y_indexAt Try.runUnderlying27 Try.sizeOf46 rfl rfl h722.1 h722.2 h723) fun a hs => ?_
     refine h_g hs 3 rfl (by kernel_rfl) rfl rfl hC rfl (fun w hC => y_fieldAddr (o' := q725 + 0) Try.runUnderlying46 rfl Try.sizeOf3 rfl rfl rfl) fun a hs => ?_
     refine h_g hs 4 rfl (by kernel_rfl) rfl rfl hC rfl (fun w hC => y_loadE1 (j := 0) (hC.ceAt 1 rfl) rfl Try.isAgg3 rfl) fun a hs => ?_
     refine h_g hs 5 rfl (by kernel_rfl) rfl rfl hC rfl (fun w hC => y_move rfl) fun a hs => ?_
     refine h_g hs 6 rfl (by kernel_rfl) rfl rfl hC rfl (fun w hC => y_move rfl) fun a hs => ?_
     refine h_g hs 7 rfl (by kernel_rfl) rfl rfl hC rfl (fun w hC => y_indexAt Try.runUnderlying27 Try.sizeOf46 rfl rfl h735.1 h735.2 h736) fun a hs => ?_
     refine h_g hs 8 rfl (by kernel_rfl) rfl rfl hC rfl (fun w hC => y_fieldAddr (o' := q738 + 1) Try.runUnderlying46 rfl Try.sizeOf3 rfl rfl rfl) fun a hs => ?_
     refine h_g hs 9 rfl (by kernel_rfl) rfl rfl hC rfl (fun w hC => y_loadE1 (j := 1) (hC.ceAt 0 rfl) rfl Try.isAgg3 rfl) fun a hs => ?_
     refine h_g hs 10 rfl (by kernel_rfl) rfl rfl hC rfl (fun w hC => y_geq rfl rfl) fun a hs => ?_
     refine h_done (by kernel_rfl) ?_
     exact ⟨Sv361, (hs.wk rfl), (hw.ft [0] [2, 3] (by decide) rfl rfl)⟩
    ·rintro a w ⟨Sv740, hs, hw⟩
     refine then_normal ?_
     refine wp_cond_split (hs.ev rfl) (fun h742 => ?_) (fun h742 => ?_)
     ·have hsh := ite_t hsh h742
      refine wp_exit ?_
      refine then_exit ?_
      refine blk_exit ?_
      refine then_normal ?_
      exact ⟨sv5.1, c358, p359, k360, Sv740, hsh, (hs.wk rfl), (hw.ft [0] [0, 1] (by decide) rfl rfl)⟩
     ·have hsh := ite_f hsh h742
      refine wp_skip ?_
      refine then_normal ?_
      refine wp_seq ?_
      refine wp_region_lit ?_
      refine st_val hs (y_move rfl) trivial rfl rfl fun a hs => ?_
      refine st_val hs (y_len Try.runUnderlying27 rfl) trivial rfl rfl fun a hs => ?_
      obtain ⟨k744, h743, hsh⟩ := bind_t hsh
      refine st_val hs (y_assignI rfl h743) trivial rfl rfl fun a hs => ?_
      refine wpList_nil ?_
      refine then_normal ?_
      refine wp_seq ?_
      obtain ⟨e829, h943, hsh⟩ := bind_t hsh
      refine wp_join (fun a w => ∃ (Sv830 : Nat → Prop), Sl 117 [(0, .slice (some ⟨b727, o728, none⟩) l1.length k3), (3, .slice p359 sv5.1.length k360), (4, .int .i64 sv5.2), (5, .int .i64 e829)] a ∧ Wd ⟨w0, S0, []⟩ Sv830 [.row p359 sv5.1.length k360 c358 46 2] [SlA (some ⟨b727, o728, none⟩) l1.length k3 l1, RowA c358 sv5.1] w) ?_ ?_
      ·refine wp_block ?_
       refine wp_while (fun sv745 a w => ∃ (Sv799 : Nat → Prop), Sl 117 [(0, .slice (some ⟨b727, o728, none⟩) l1.length k3), (3, .slice p359 sv5.1.length k360), (4, .int .i64 sv5.2), (5, .int .i64 sv745)] a ∧ Wd ⟨w0, S0, []⟩ Sv799 [.row p359 sv5.1.length k360 c358 46 2] [SlA (some ⟨b727, o728, none⟩) l1.length k3 l1, RowA c358 sv5.1] w) k744 h943 ⟨Sv740, (hs.wk rfl), (hw.ft [0] [0, 1] (by decide) rfl rfl)⟩ ?_
       clear h943
       repeat clear hsh
       rintro sv745 a w tv827 ⟨Sv799, hs, hw⟩ hsh hd826
       delta ref08_Normal_l6 at hsh
       refine wp_seq ?_
       refine wp_seq ?_
       obtain ⟨c852, hc852, hsh⟩ := bind_t hsh
       refine wp_only (fun a w => ∃ (Sv853 : Nat → Prop), Sl 117 [(0, .slice (some ⟨b727, o728, none⟩) l1.length k3), (3, .slice p359 sv5.1.length k360), (4, .int .i64 sv5.2), (5, .int .i64 sv745), (43, .bool c852)] a ∧ Wd ⟨w0, S0, []⟩ Sv853 [.row p359 sv5.1.length k360 c358 46 2] [SlA (some ⟨b727, o728, none⟩) l1.length k3 l1, RowA c358 sv5.1] w) ?_ ?_
       ·rcases Bool.eq_false_or_eq_true (decide (0 < sv745)) with h854 | h854
        ·have h855 := ite_t hc852 h854
         obtain ⟨x858, h856, h855⟩ := bind_t h855
         obtain ⟨b865, q862, c863, h866, h859, h860, h864, h857⟩ := hw.elemRV (α := Span) 0 rfl 1 rfl h856
         have hsv867 := hs
         have hwv868 := hw
         subst h866
         have hs := hsv867
         have hw := hwv868
         obtain ⟨_, _, rfl, rfl, rfl⟩ := h857
         obtain ⟨x871, h869, h855⟩ := bind_t h855
         obtain ⟨q875, c876, h872, h873, h874, h870⟩ := hw.elemK 0 rfl h869
         obtain ⟨_, _, rfl, rfl, rfl⟩ := h870
         have hw := hw.addE h874
         refine h_b (C := Cls [.row (some ⟨b865, 0, none⟩) sv5.1.length k360 c358 46 2] [CeA b727 q875 [.int .i64 x871.From, .int .i64 x871.To]]) (by kernel_rfl) rfl (hw.drew.cs [0] [0] rfl rfl) fun hC => ?_
         have hw := hw.drew
         refine h_g hs 0 rfl (by kernel_rfl) rfl rfl hC rfl (fun w hC => y_move rfl) fun a hs => ?_
         refine h_g hs 1 rfl (by kernel_rfl) rfl rfl hC rfl (fun w hC => y_gtr rfl rfl) fun a hs => ?_
         refine h_g hs 2 rfl (by kernel_rfl) rfl rfl hC rfl (fun w hC => y_move rfl) fun a hs => ?_
         have hs := hs.fix 30 (.bool true) rfl (vb h854)
         refine h_t hs 3 rfl (by kernel_rfl) ⟨_, rfl, rfl⟩ rfl rfl hC (fun w hC => y_move rfl) fun a hs => ?_
         refine h_t hs 4 rfl (by kernel_rfl) ⟨_, rfl, rfl⟩ rfl rfl hC (fun w hC => y_move rfl) fun a hs => ?_
         refine h_t hs 5 rfl (by kernel_rfl) ⟨_, rfl, rfl⟩ rfl rfl hC (fun w hC => y_sub rfl rfl) fun a hs => ?_
         refine h_t hs 6 rfl (by kernel_rfl) ⟨_, rfl, rfl⟩ rfl rfl hC (fun w hC => y_indexAt Try.runUnderlying27 Try.sizeOf46 rfl rfl h859.1 h859.2 h860) fun a hs => ?_
         refine h_t hs 7 rfl (by kernel_rfl) ⟨_, rfl, rfl⟩ rfl rfl hC (fun w hC => y_fieldAddr (o' := q862 + 0) Try.runUnderlying46 rfl Try.sizeOf3 rfl rfl rfl) fun a hs => ?_
         refine h_t hs 8 rfl (by kernel_rfl) ⟨_, rfl, rfl⟩ rfl rfl hC (fun w hC => y_loadQ1 (j := 0) (hC.ownAt 0 rfl) rfl Try.isAgg3 h864 rfl) fun a hs => ?_
         refine h_t hs 9 rfl (by kernel_rfl) ⟨_, rfl, rfl⟩ rfl rfl hC (fun w hC => y_move rfl) fun a hs => ?_
         refine h_t hs 10 rfl (by kernel_rfl) ⟨_, rfl, rfl⟩ rfl rfl hC (fun w hC => y_move rfl) fun a hs => ?_
         refine h_t hs 11 rfl (by kernel_rfl) ⟨_, rfl, rfl⟩ rfl rfl hC (fun w hC => y_indexAt Try.runUnderlying27 Try.sizeOf46 rfl rfl h872.1 h872.2 h873) fun a hs => ?_
         refine h_t hs 12 rfl (by kernel_rfl) ⟨_, rfl, rfl⟩ rfl rfl hC (fun w hC => y_fieldAddr (o' := q875 + 0) Try.runUnderlying46 rfl Try.sizeOf3 rfl rfl rfl) fun a hs => ?_
         refine h_t hs 13 rfl (by kernel_rfl) ⟨_, rfl, rfl⟩ rfl rfl hC (fun w hC => y_loadE1 (j := 0) (hC.ceAt 0 rfl) rfl Try.isAgg3 rfl) fun a hs => ?_
         refine h_t hs 14 rfl (by kernel_rfl) ⟨_, rfl, rfl⟩ rfl rfl hC (fun w hC => y_gtr rfl rfl) fun a hs => ?_
         refine h_g hs 15 rfl (by kernel_rfl) rfl rfl hC rfl (fun w hC => y_pickTE (v := .bool c852) rfl rfl (vbs h855)) fun a hs => ?_
         refine h_done (by kernel_rfl) ?_
         exact ⟨Sv799, (hs.wk rfl), (hw.ft [0] [1, 2] (by decide) rfl rfl)⟩
        ·have h877 := ite_f hc852 h854
         refine h_b (C := Cls [.row p359 sv5.1.length k360 c358 46 2] []) (by kernel_rfl) rfl (hw.drew.cs [0] [] rfl rfl) fun hC => ?_
         have hw := hw.drew
         refine h_g hs 0 rfl (by kernel_rfl) rfl rfl hC rfl (fun w hC => y_move rfl) fun a hs => ?_
         refine h_g hs 1 rfl (by kernel_rfl) rfl rfl hC rfl (fun w hC => y_gtr rfl rfl) fun a hs => ?_
         refine h_g hs 2 rfl (by kernel_rfl) rfl rfl hC rfl (fun w hC => y_move rfl) fun a hs => ?_
         have hs := hs.fix 30 (.bool false) rfl (vb h854)
         refine h_s hs 3 rfl (by kernel_rfl) rfl rfl rfl (.inl rfl) rfl rfl hC fun a hs => ?_
         refine h_s hs 4 rfl (by kernel_rfl) rfl rfl rfl (.inl rfl) rfl rfl hC fun a hs => ?_
         refine h_s hs 5 rfl (by kernel_rfl) rfl rfl rfl (.inl rfl) rfl rfl hC fun a hs => ?_
         refine h_s hs 6 rfl (by kernel_rfl) rfl rfl rfl (.inl rfl) rfl rfl hC fun a hs => ?_
         refine h_s hs 7 rfl (by kernel_rfl) rfl rfl rfl (.inl rfl) rfl rfl hC fun a hs => ?_
         refine h_s hs 8 rfl (by kernel_rfl) rfl rfl rfl (.inl rfl) rfl rfl hC fun a hs => ?_
         refine h_s hs 9 rfl (by kernel_rfl) rfl rfl rfl (.inl rfl) rfl rfl hC fun a hs => ?_
         refine h_s hs 10 rfl (by kernel_rfl) rfl rfl rfl (.inl rfl) rfl rfl hC fun a hs => ?_
         refine h_s hs 11 rfl (by kernel_rfl) rfl rfl rfl (.inl rfl) rfl rfl hC fun a hs => ?_
         refine h_s hs 12 rfl (by kernel_rfl) rfl rfl rfl (.inl rfl) rfl rfl hC fun a hs => ?_
         refine h_s hs 13 rfl (by kernel_rfl) rfl rfl rfl (.inl rfl) rfl rfl hC fun a hs => ?_
         refine h_s hs 14 rfl (by kernel_rfl) rfl rfl rfl (.inl rfl) rfl rfl hC fun a hs => ?_
         refine h_g hs 15 rfl (by kernel_rfl) rfl rfl hC rfl (fun w hC => y_pickFE (v := .bool c852) rfl rfl (vbs h877)) fun a hs => ?_
         refine h_done (by kernel_rfl) ?_
         exact ⟨Sv799, (hs.wk rfl), (hw.ft [0] [0, 1] (by decide) rfl rfl)⟩
       ·rintro a w ⟨Sv853, hs, hw⟩
        refine then_normal ?_
        refine wp_cond_split (hs.ev rfl) (fun h879 => ?_) (fun h879 => ?_)
        ·have hsh := ite_t hsh h879
         refine wp_skip ?_
         refine then_normal ?_
         refine wp_block ?_
         refine wp_region_lit ?_
         refine st_val hs (y_move rfl) trivial rfl rfl fun a hs => ?_
         refine st_val hs (y_sub rfl rfl) trivial rfl rfl fun a hs => ?_
         obtain ⟨k883, h882, hsh⟩ := bind_t hsh
         refine st_val hs (y_assignI rfl h882) trivial rfl rfl fun a hs => ?_
         refine wpList_nil ?_
         refine blk_normal ?_
         refine then_normal ?_
         exact ⟨_, (Option.some.inj hsh).symm, Sv853, (hs.wk rfl), (hw.ft [0] [0, 1] (by decide) rfl rfl)⟩
        ·have hsh := ite_f hsh h879
         refine wp_exit ?_
         refine then_exit ?_
         refine then_exit ?_
         refine blk_exit ?_
         have hsh := Option.some.inj hsh
         subst hsh
         have h884 := hd826 _ rfl
         subst h884
         refine then_normal ?_
         exact ⟨Sv853, (hs.wk rfl), (hw.ft [0] [0, 1] (by decide) rfl rfl)⟩
      ·rintro a w ⟨Sv830, hs, hw⟩
       refine then_normal ?_
       refine wp_seq ?_
       refine wp_region_lit ?_
       refine st_val hs (y_move rfl) trivial rfl rfl fun a hs => ?_
       refine st_val hs (y_move rfl) trivial rfl rfl fun a hs => ?_
       refine st_val hs (y_move rfl) trivial rfl rfl fun a hs => ?_
       obtain ⟨x887, h885, hsh⟩ := bind_t hsh
       obtain ⟨q891, c892, h888, h889, h890, h886⟩ := hw.elemK 0 rfl h885
       obtain ⟨_, _, rfl, rfl, rfl⟩ := h886
       have hw := hw.addE h890
       refine st_val hs (y_indexAt Try.runUnderlying27 Try.sizeOf46 rfl rfl h888.1 h888.2 h889) trivial rfl rfl fun a hs => ?_
       refine st_val hs (y_loadEA (j := 0) (hw.ceAt 0 rfl) rfl Try.isAgg46 Try.sizeOf46 rfl rfl) trivial rfl rfl fun a hs => ?_
       refine w_litSlice (α := Span) (vs := [.agg #[.int .i64 x887.From, .int .i64 x887.To]]) (cs := [.int .i64 x887.From, .int .i64 x887.To]) (xs := ([x887] : List Span)) hs hw El27 rfl rfl rfl rfl rfl rfl ⟨⟨_, _, rfl, rfl, rfl⟩, rfl⟩ rfl trivial rfl fun b894 a w hs hw => ?_
       obtain ⟨l896, h895, hsh⟩ := bind_t hsh
       refine w_appendR (α := Span) hs hw El27 1 rfl rfl rfl 3 rfl 0 rfl 0 rfl h895 rfl trivial ?_
       intro p897 k898 c899 a w hs hw
       refine st_val hs (y_assign rfl) trivial rfl rfl fun a hs => ?_
       refine wpList_nil ?_
       refine then_normal ?_
       refine wp_seq ?_
       obtain ⟨l904, h900, hsh⟩ := bind_t hsh
       obtain ⟨p902, k903, h901⟩ := row_sub (α := Span) hw 1 rfl h900
       obtain ⟨l909, h905, hsh⟩ := bind_t hsh
       obtain ⟨p907, k908, h906⟩ := row_sub (α := Span) hw 1 rfl h905
       obtain ⟨l910, h911, hsh⟩ := bind_t hsh
       refine wp_only (fun a w => ∃ (Sv914 : Nat → Prop) (c912 : List Value), Sl 117 [(0, .slice (some ⟨b727, o728, none⟩) l1.length k3), (3, .slice p897 l910.length k898), (4, .int .i64 sv5.2), (5, .int .i64 e829)] a ∧ Wd ⟨w0, S0, []⟩ Sv914 [.row p897 l910.length k898 c912 46 2] [SlA (some ⟨b727, o728, none⟩) l1.length k3 l1, RowA c912 l910] w) ?_ ?_
       ·refine h_b (C := Cls [.row (some ⟨b894, 0, none⟩) ([x887] : List Span).length ([x887] : List Span).length [.int .i64 x887.From, .int .i64 x887.To] 46 2] [CeA b727 q891 [.int .i64 x887.From, .int .i64 x887.To]]) (by kernel_rfl) rfl (hw.drew.cs [0] [2] rfl rfl) fun hC => ?_
        have hw := hw.drew
        refine h_g hs 0 rfl (by kernel_rfl) rfl rfl hC rfl (fun w hC => y_move rfl) fun a hs => ?_
        refine h_g hs 1 rfl (by kernel_rfl) rfl rfl hC rfl (fun w hC => y_move rfl) fun a hs => ?_
        refine h_g hs 2 rfl (by kernel_rfl) rfl rfl hC rfl (fun w hC => y_add rfl rfl) fun a hs => ?_
        refine h_g hs 3 rfl (by kernel_rfl) rfl rfl hC rfl (fun w hC => y_slc Try.runUnderlying27 Try.sizeOf46 rfl ⟨_, rfl⟩ (by exact rfl) h901) fun a hs => ?_
        refine h_g hs 4 rfl (by kernel_rfl) rfl rfl hC rfl (fun w hC => y_move rfl) fun a hs => ?_
        refine h_g hs 5 rfl (by kernel_rfl) rfl rfl hC rfl (fun w hC => y_move rfl) fun a hs => ?_
        refine h_g hs 6 rfl (by kernel_rfl) rfl rfl hC rfl (fun w hC => y_slc Try.runUnderlying27 Try.sizeOf46 rfl ⟨_, rfl⟩ (by exact rfl) h906) fun a hs => ?_
        refine h_one (i := 7) (by kernel_rfl) rfl ?_
        obtain ⟨ds_, h917⟩ := src_vw (hw.ownAt 1 rfl) (hw.envAt 0 rfl) h905 h906
        refine w_copyC (α := Span) hs hw 1 rfl 0 rfl Try.runUnderlying27 Try.runUnderlying27 Try.sizeOf46 (by decide) h900 h901 rfl rfl rfl h917.1 h917.2.1 h917.2.2 rfl trivial ?_
        intro c912 a w hs hw
        rw [Option.some.inj h911] at hw
        have h913 := (copy_lenS h900 h911)
        try have hs := hs.fix 3 (.slice p897 l910.length k898) rfl (by rw [h913])
        try have hs := hs.fix 53 (.slice p897 l910.length k898) rfl (by rw [h913])
        try have hs := hs.fix 57 (.slice p897 l910.length k898) rfl (by rw [h913])
        refine h_nx (hw.cs [0] [3] rfl rfl) fun hC => ?_
        refine h_done (by kernel_rfl) ?_
        exact ⟨Sv830, c912, (hs.wk rfl), (hw.ft [1] [4, 0] (by decide) rfl rfl)⟩
       ·rintro a w ⟨Sv914, c912, hs, hw⟩
        refine then_normal ?_
        refine wp_region_lit ?_
        refine st_val hs (y_move rfl) trivial rfl rfl fun a hs => ?_
        refine st_val hs (y_move rfl) trivial rfl rfl fun a hs => ?_
        refine st_val hs (y_move rfl) trivial rfl rfl fun a hs => ?_
        refine st_val hs (y_move rfl) trivial rfl rfl fun a hs => ?_
        obtain ⟨x920, h918, hsh⟩ := bind_t hsh
        obtain ⟨q924, c925, h921, h922, h923, h919⟩ := hw.elemK 0 rfl h918
        obtain ⟨_, _, rfl, rfl, rfl⟩ := h919
        have hw := hw.addE h923
        refine st_val hs (y_indexAt Try.runUnderlying27 Try.sizeOf46 rfl rfl h921.1 h921.2 h922) trivial rfl rfl fun a hs => ?_
        refine st_val hs (y_loadEA (j := 0) (hw.ceAt 0 rfl) rfl Try.isAgg46 Try.sizeOf46 rfl rfl) trivial rfl rfl fun a hs => ?_
        obtain ⟨x928, h926, hsh⟩ := bind_t hsh
        obtain ⟨b935, q932, c933, h936, h929, h930, h934, h927⟩ := hw.elemRV (α := Span) 0 rfl 2 rfl h926
        have hsv937 := hs
        have hwv938 := hw
        subst h936
        have hs := hsv937
        have hw := hwv938
        obtain ⟨_, _, rfl, rfl, rfl⟩ := h927
        refine st_val hs (y_indexAt Try.runUnderlying27 Try.sizeOf46 rfl rfl h929.1 h929.2 h930) trivial rfl rfl fun a hs => ?_
        obtain ⟨l940, h939, hsh⟩ := bind_t hsh
        refine w_storeF (α := Span) hs hw 0 rfl 2 rfl h930 rfl rfl Try.sizeOf46 rfl h939 ⟨_, _, rfl, rfl, rfl⟩ trivial ?_
        intro c941 a w hs hw
        have h942 := setM_len h939
        try have hs := hs.fix 3 (.slice (some ⟨b935, 0, none⟩) l940.length k898) rfl (by rw [h942])
        try have hs := hs.fix 61 (.slice (some ⟨b935, 0, none⟩) l940.length k898) rfl (by rw [h942])
        refine wpList_nil ?_
        refine blk_normal ?_
        refine then_normal ?_
        exact ⟨l940, c941, (some ⟨b935, 0, none⟩), k898, Sv914, hsh, (hs.wk rfl), (hw.ft [0] [2, 0] (by decide) rfl rfl)⟩
   ·rintro a w ⟨sorted716, c712, p713, k714, Sv715, hsh, hs, hw⟩
    delta ref08_Normal_j1 at hsh
    refine then_normal ?_
    refine wp_region_lit ?_
    refine st_val hs (y_move rfl) trivial rfl rfl fun a hs => ?_
    refine st_val hs (y_add rfl rfl) trivial rfl rfl fun a hs => ?_
    obtain ⟨i718, h717, hsh⟩ := bind_t hsh
    refine st_val hs (y_assignI rfl h717) trivial rfl rfl fun a hs => ?_
    refine wpList_nil ?_
    refine then_normal ?_
    exact ⟨_, (Option.some.inj hsh).symm, c712, p713, k714, Sv715, (hs.wk rfl), (hw.ft [0] [0, 1] (by decide) rfl rfl)⟩
  ·have hsh := ite_f hsh h545
   refine wp_exit ?_
   refine then_exit ?_
   refine then_exit ?_
   refine blk_exit ?_
   have hsh := Option.some.inj hsh
   subst hsh
   have h944 := hd536 _ rfl
   subst h944
   refine then_normal ?_
   exact ⟨c358, p359, k360, Sv361, (hs.wk rfl), (hw.ft [0] [1] (by decide) rfl rfl)⟩
 ·rintro a w ⟨c540, p541, k542, Sv543, hs, hw⟩
  refine then_normal ?_
  refine wp_seq ?_
  refine wp_region_lit ?_
  refine st_val hs (y_assign rfl) trivial rfl rfl fun a hs => ?_
  refine wpList_nil ?_
  refine then_normal ?_
  refine wp_seq ?_
  refine wp_seq ?_
  refine wp_region_lit ?_
  refine st_val hs (y_assign rfl) trivial rfl rfl fun a hs => ?_
  refine wpList_nil ?_
  refine then_normal ?_
  obtain ⟨e1248, h1540, hsh⟩ := bind_t hsh
  refine wp_join (fun a w => ∃ (c1249 : List Value) (p1250 : Option Addr) (k1251 : Nat) (Sv1252 : Nat → Prop), Sl 117 [(6, .slice p1250 e1248.length k1251)] a ∧ Wd ⟨w0, S0, []⟩ Sv1252 [.row p1250 e1248.length k1251 c1249 46 2] [RowA c1249 e1248] w) ?_ ?_
  ·refine wp_block ?_
   have hw := hw.nilRow Span 46
   refine wp_while (fun sv945 a w => ∃ (c1142 : List Value) (p1143 : Option Addr) (k1144 : Nat) (Sv1145 : Nat → Prop), Sl 117 [(3, .slice p541 e539.length k542), (6, .slice p1143 sv945.1.length k1144), (7, .int .i64 sv945.2)] a ∧ Wd ⟨w0, S0, []⟩ Sv1145 [.row p541 e539.length k542 c540 46 2, .row p1143 sv945.1.length k1144 c1142 46 2] [RowA c540 e539, RowA c1142 sv945.1] w) (([] : List Span), 0) h1540 ⟨[], none, 0, Sv543, (hs.wk rfl), (hw.ft [1, 0] [1, 0] (by decide) rfl rfl)⟩ ?_
   clear h1540
   repeat clear hsh
   rintro sv945 a w tv1246 ⟨c1142, p1143, k1144, Sv1145, hs, hw⟩ hsh hd1245
   delta ref08_Normal_l7 at hsh
   refine wp_seq ?_
   refine wp_seq ?_
   refine wp_region_lit ?_
   refine st_val hs (y_move rfl) trivial rfl rfl fun a hs => ?_
   refine st_val hs (y_move rfl) trivial rfl rfl fun a hs => ?_
   refine st_val hs (y_len Try.runUnderlying27 rfl) trivial rfl rfl fun a hs => ?_
   refine st_val hs (y_lss rfl rfl) trivial rfl rfl fun a hs => ?_
   refine wpList_nil ?_
   refine then_normal ?_
   refine wp_cond_split (hs.ev rfl) (fun h1254 => ?_) (fun h1254 => ?_)
   ·have hsh := ite_t hsh h1254
    refine wp_skip ?_
    refine then_normal ?_
    refine wp_seq ?_
    refine wp_block ?_
    refine wp_seq ?_
    refine wp_region_lit ?_
    refine st_val hs (y_move rfl) trivial rfl rfl fun a hs => ?_
    refine st_val hs (y_len Try.runUnderlying27 rfl) trivial rfl rfl fun a hs => ?_
    obtain ⟨n1352, h1351, hsh⟩ := bind_t hsh
    refine st_val hs (y_assignI rfl h1351) trivial rfl rfl fun a hs => ?_
    refine wpList_nil ?_
    refine then_normal ?_
    refine wp_seq ?_
    obtain ⟨c1379, hc1379, hsh⟩ := bind_t hsh
    refine wp_only (fun a w => ∃ (Sv1380 : Nat → Prop), Sl 117 [(3, .slice p541 e539.length k542), (6, .slice p1143 sv945.1.length k1144), (7, .int .i64 sv945.2), (8, .int .i64 n1352), (91, .bool c1379)] a ∧ Wd ⟨w0, S0, []⟩ Sv1380 [.row p541 e539.length k542 c540 46 2, .row p1143 sv945.1.length k1144 c1142 46 2] [RowA c540 e539, RowA c1142 sv945.1] w) ?_ ?_
    ·rcases Bool.eq_false_or_eq_true (decide (0 < n1352)) with h1381 | h1381
     ·have h1382 := ite_t hc1379 h1381
      obtain ⟨x1385, h1383, h1382⟩ := bind_t h1382
      obtain ⟨b1392, q1389, c1390, h1393, h1386, h1387, h1391, h1384⟩ := hw.elemRV (α := Span) 0 rfl 0 rfl h1383
      have hsv1394 := hs
      have hwv1395 := hw
      subst h1393
      have hs := hsv1394
      have hw := hwv1395
      obtain ⟨_, _, rfl, rfl, rfl⟩ := h1384
      obtain ⟨x1398, h1396, h1382⟩ := bind_t h1382
      obtain ⟨b1405, q1402, c1403, h1406, h1399, h1400, h1404, h1397⟩ := hw.elemRV (α := Span) 1 rfl 1 rfl h1396
      have hsv1407 := hs
      have hwv1408 := hw
      subst h1406
      have hs := hsv1407
      have hw := hwv1408
      obtain ⟨_, _, rfl, rfl, rfl⟩ := h1397
      refine h_b (C := Cls [.row (some ⟨b1392, 0, none⟩) e539.length k542 c540 46 2, .row (some ⟨b1405, 0, none⟩) sv945.1.length k1144 c1142 46 2] []) (by kernel_rfl) rfl (hw.drew.cs [0, 1] [] rfl rfl) fun hC => ?_
      have hw := hw.drew
      refine h_g hs 0 rfl (by kernel_rfl) rfl rfl hC rfl (fun w hC => y_move rfl) fun a hs => ?_
      refine h_g hs 1 rfl (by kernel_rfl) rfl rfl hC rfl (fun w hC => y_gtr rfl rfl) fun a hs => ?_
      refine h_g hs 2 rfl (by kernel_rfl) rfl rfl hC rfl (fun w hC => y_move rfl) fun a hs => ?_
      have hs := hs.fix 78 (.bool true) rfl (vb h1381)
      refine h_t hs 3 rfl (by kernel_rfl) ⟨_, rfl, rfl⟩ rfl rfl hC (fun w hC => y_move rfl) fun a hs => ?_
      refine h_t hs 4 rfl (by kernel_rfl) ⟨_, rfl, rfl⟩ rfl rfl hC (fun w hC => y_move rfl) fun a hs => ?_
      refine h_t hs 5 rfl (by kernel_rfl) ⟨_, rfl, rfl⟩ rfl rfl hC (fun w hC => y_indexAt Try.runUnderlying27 Try.sizeOf46 rfl rfl h1386.1 h1386.2 h1387) fun a hs => ?_
      refine h_t hs 6 rfl (by kernel_rfl) ⟨_, rfl, rfl⟩ rfl rfl hC (fun w hC => y_fieldAddr (o' := q1389 + 0) Try.runUnderlying46 rfl Try.sizeOf3 rfl rfl rfl) fun a hs => ?_
      refine h_t hs 7 rfl (by kernel_rfl) ⟨_, rfl, rfl⟩ rfl rfl hC (fun w hC => y_loadQ1 (j := 0) (hC.ownAt 0 rfl) rfl Try.isAgg3 h1391 rfl) fun a hs => ?_
      refine h_t hs 8 rfl (by kernel_rfl) ⟨_, rfl, rfl⟩ rfl rfl hC (fun w hC => y_move rfl) fun a hs => ?_
      refine h_t hs 9 rfl (by kernel_rfl) ⟨_, rfl, rfl⟩ rfl rfl hC (fun w hC => y_move rfl) fun a hs => ?_
      refine h_t hs 10 rfl (by kernel_rfl) ⟨_, rfl, rfl⟩ rfl rfl hC (fun w hC => y_sub rfl rfl) fun a hs => ?_
      refine h_t hs 11 rfl (by kernel_rfl) ⟨_, rfl, rfl⟩ rfl rfl hC (fun w hC => y_indexAt Try.runUnderlying27 Try.sizeOf46 rfl rfl h1399.1 h1399.2 h1400) fun a hs => ?_
      refine h_t hs 12 rfl (by kernel_rfl) ⟨_, rfl, rfl⟩ rfl rfl hC (fun w hC => y_fieldAddr (o' := q1402 + 1) Try.runUnderlying46 rfl Try.sizeOf3 rfl rfl rfl) fun a hs => ?_
      refine h_t hs 13 rfl (by kernel_rfl) ⟨_, rfl, rfl⟩ rfl rfl hC (fun w hC => y_loadQ1 (j := 1) (hC.ownAt 1 rfl) rfl Try.isAgg3 h1404 rfl) fun a hs => ?_
      refine h_t hs 14 rfl (by kernel_rfl) ⟨_, rfl, rfl⟩ rfl rfl hC (fun w hC => y_leq rfl rfl) fun a hs => ?_
      refine h_g hs 15 rfl (by kernel_rfl) rfl rfl hC rfl (fun w hC => y_pickTE (v := .bool c1379) rfl rfl (vbs h1382)) fun a hs => ?_
      refine h_done (by kernel_rfl) ?_
      exact ⟨Sv1145, (hs.wk rfl), (hw.ft [0, 1] [0, 1] (by decide) rfl rfl)⟩
     ·have h1409 := ite_f hc1379 h1381
      refine h_b (C := Cls [.row p541 e539.length k542 c540 46 2, .row p1143 sv945.1.length k1144 c1142 46 2] []) (by kernel_rfl) rfl (hw.drew.cs [0, 1] [] rfl rfl) fun hC => ?_
      have hw := hw.drew
      refine h_g hs 0 rfl (by kernel_rfl) rfl rfl hC rfl (fun w hC => y_move rfl) fun a hs => ?_
      refine h_g hs 1 rfl (by kernel_rfl) rfl rfl hC rfl (fun w hC => y_gtr rfl rfl) fun a hs => ?_
      refine h_g hs 2 rfl (by kernel_rfl) rfl rfl hC rfl (fun w hC => y_move rfl) fun a hs => ?_
      have hs := hs.fix 78 (.bool false) rfl (vb h1381)
      refine h_s hs 3 rfl (by kernel_rfl) rfl rfl rfl (.inl rfl) rfl rfl hC fun a hs => ?_
      refine h_s hs 4 rfl (by kernel_rfl) rfl rfl rfl (.inl rfl) rfl rfl hC fun a hs => ?_
      refine h_s hs 5 rfl (by kernel_rfl) rfl rfl rfl (.inl rfl) rfl rfl hC fun a hs => ?_
      refine h_s hs 6 rfl (by kernel_rfl) rfl rfl rfl (.inl rfl) rfl rfl hC fun a hs => ?_
      refine h_s hs 7 rfl (by kernel_rfl) rfl rfl rfl (.inl rfl) rfl rfl hC fun a hs => ?_
      refine h_s hs 8 rfl (by kernel_rfl) rfl rfl rfl (.inl rfl) rfl rfl hC fun a hs => ?_
      refine h_s hs 9 rfl (by kernel_rfl) rfl rfl rfl (.inl rfl) rfl rfl hC fun a hs => ?_
      refine h_s hs 10 rfl (by kernel_rfl) rfl rfl rfl (.inl rfl) rfl rfl hC fun a hs => ?_
      refine h_s hs 11 rfl (by kernel_rfl) rfl rfl rfl (.inl rfl) rfl rfl hC fun a hs => ?_
      refine h_s hs 12 rfl (by kernel_rfl) rfl rfl rfl (.inl rfl) rfl rfl hC fun a hs => ?_
      refine h_s hs 13 rfl (by kernel_rfl) rfl rfl rfl (.inl rfl) rfl rfl hC fun a hs => ?_
      refine h_s hs 14 rfl (by kernel_rfl) rfl rfl rfl (.inl rfl) rfl rfl hC fun a hs => ?_
      refine h_g hs 15 rfl (by kernel_rfl) rfl rfl hC rfl (fun w hC => y_pickFE (v := .bool c1379) rfl rfl (vbs h1409)) fun a hs => ?_
      refine h_done (by kernel_rfl) ?_
      exact ⟨Sv1145, (hs.wk rfl), (hw.ft [0, 1] [0, 1] (by decide) rfl rfl)⟩
    ·rintro a w ⟨Sv1380, hs, hw⟩
     refine then_normal ?_
     refine wp_join (fun a w => ∃ (out1475 : (List Span)) (c1471 : List Value) (p1472 : Option Addr) (k1473 : Nat) (Sv1474 : Nat → Prop), ref08_Normal_j4 sv945 out1475 = some tv1246 ∧ Sl 117 [(3, .slice p541 e539.length k542), (6, .slice p1472 out1475.length k1473), (7, .int .i64 sv945.2)] a ∧ Wd ⟨w0, S0, []⟩ Sv1474 [.row p541 e539.length k542 c540 46 2, .row p1472 out1475.length k1473 c1471 46 2] [RowA c540 e539, RowA c1471 out1475] w) ?_ ?_
     ·refine wp_cond_split (hs.ev rfl) (fun h1478 => ?_) (fun h1478 => ?_)
      ·have hsh := ite_t hsh h1478
       obtain ⟨x1481, h1479, hsh⟩ := bind_t hsh
       obtain ⟨b1488, q1485, c1486, h1489, h1482, h1483, h1487, h1480⟩ := hw.elemRV (α := Span) 1 rfl 1 rfl h1479
       have hsv1490 := hs
       have hwv1491 := hw
       subst h1489
       have hs := hsv1490
       have hw := hwv1491
       obtain ⟨_, _, rfl, rfl, rfl⟩ := h1480
       obtain ⟨x1494, h1492, hsh⟩ := bind_t hsh
       obtain ⟨b1501, q1498, c1499, h1502, h1495, h1496, h1500, h1493⟩ := hw.elemRV (α := Span) 0 rfl 0 rfl h1492
       have hsv1503 := hs
       have hwv1504 := hw
       subst h1502
       have hs := hsv1503
       have hw := hwv1504
       obtain ⟨_, _, rfl, rfl, rfl⟩ := h1493
       obtain ⟨x1507, h1505, hsh⟩ := bind_t hsh
       obtain ⟨q1511, c1512, h1508, h1509, h1513, h1506⟩ := hw.elemRK (α := Span) 1 rfl 1 rfl h1505
       obtain ⟨_, _, rfl, rfl, rfl⟩ := h1506
       obtain ⟨l1515, h1514, hsh⟩ := bind_t hsh
       refine wp_only (fun a w => ∃ (Sv1518 : Nat → Prop) (c1516 : List Value), Sl 117 [(3, .slice (some ⟨b1501, 0, none⟩) e539.length k542), (6, .slice (some ⟨b1488, 0, none⟩) l1515.length k1144), (7, .int .i64 sv945.2)] a ∧ Wd ⟨w0, S0, []⟩ Sv1518 [.row (some ⟨b1501, 0, none⟩) e539.length k542 c540 46 2, .row (some ⟨b1488, 0, none⟩) l1515.length k1144 c1516 46 2] [RowA c540 e539, RowA c1516 l1515] w) ?_ ?_
       ·refine h_b (C := Cls [.row (some ⟨b1501, 0, none⟩) e539.length k542 c540 46 2] []) (by kernel_rfl) rfl (hw.drew.cs [0] [] rfl rfl) fun hC => ?_
        have hw := hw.drew
        refine h_g hs 0 rfl (by kernel_rfl) rfl rfl hC rfl (fun w hC => y_move rfl) fun a hs => ?_
        refine h_g hs 1 rfl (by kernel_rfl) rfl rfl hC rfl (fun w hC => y_move rfl) fun a hs => ?_
        refine h_g hs 2 rfl (by kernel_rfl) rfl rfl hC rfl (fun w hC => y_sub rfl rfl) fun a hs => ?_
        refine h_g hs 3 rfl (by kernel_rfl) rfl rfl hC rfl (fun w hC => y_move rfl) fun a hs => ?_
        refine h_g hs 4 rfl (by kernel_rfl) rfl rfl hC rfl (fun w hC => y_move rfl) fun a hs => ?_
        refine h_g hs 5 rfl (by kernel_rfl) rfl rfl hC rfl (fun w hC => y_sub rfl rfl) fun a hs => ?_
        refine h_g hs 6 rfl (by kernel_rfl) rfl rfl hC rfl (fun w hC => y_indexAt Try.runUnderlying27 Try.sizeOf46 rfl rfl h1482.1 h1482.2 h1483) fun a hs => ?_
        refine h_g hs 7 rfl (by kernel_rfl) rfl rfl hC rfl (fun w hC => y_fieldAddr (o' := q1485 + 1) Try.runUnderlying46 rfl Try.sizeOf3 rfl rfl rfl) fun a hs => ?_
        refine h_g hs 9 rfl (by kernel_rfl) rfl rfl hC rfl (fun w hC => y_move rfl) fun a hs => ?_
        refine h_g hs 10 rfl (by kernel_rfl) rfl rfl hC rfl (fun w hC => y_move rfl) fun a hs => ?_
        refine h_g hs 11 rfl (by kernel_rfl) rfl rfl hC rfl (fun w hC => y_indexAt Try.runUnderlying27 Try.sizeOf46 rfl rfl h1495.1 h1495.2 h1496) fun a hs => ?_
        refine h_g hs 12 rfl (by kernel_rfl) rfl rfl hC rfl (fun w hC => y_fieldAddr (o' := q1498 + 1) Try.runUnderlying46 rfl Try.sizeOf3 rfl rfl rfl) fun a hs => ?_
        refine h_g hs 13 rfl (by kernel_rfl) rfl rfl hC rfl (fun w hC => y_loadQ1 (j := 1) (hC.ownAt 0 rfl) rfl Try.isAgg3 h1500 rfl) fun a hs => ?_
        refine h_one (i := 8) (by kernel_rfl) rfl ?_
        refine st_val hs (y_loadQ1 (j := 1) (hw.ownAt 1 rfl) rfl Try.isAgg3 h1487 rfl) trivial rfl rfl fun a hs => ?_
        refine h_nx (hw.cs [0] [] rfl rfl) fun hC => ?_
        refine h_g hs 14 rfl (by kernel_rfl) rfl rfl hC rfl (fun w hC => y_max rfl rfl) fun a hs => ?_
        refine h_g hs 15 rfl (by kernel_rfl) rfl rfl hC rfl (fun w hC => y_indexAt Try.runUnderlying27 Try.sizeOf46 rfl rfl h1508.1 h1508.2 h1509) fun a hs => ?_
        refine h_g hs 16 rfl (by kernel_rfl) rfl rfl hC rfl (fun w hC => y_fieldAddr (o' := q1511 + 1) Try.runUnderlying46 rfl Try.sizeOf3 rfl rfl rfl) fun a hs => ?_
        refine h_one (i := 17) (by kernel_rfl) rfl ?_
        refine w_storeR (α := Span) (f := 1) (m := 1) hs hw 1 rfl 1 rfl h1509 rfl rfl Try.sizeOf3 rfl rfl rfl h1514 (fun es he => by rw [h1513] at he; subst he; exact ⟨_, _, rfl, rfl, rfl⟩) trivial ?_
        intro c1516 a w hs hw
        have h1517 := setM_len h1514
        try have hs := hs.fix 6 (.slice (some ⟨b1488, 0, none⟩) l1515.length k1144) rfl (by rw [h1517])
        try have hs := hs.fix 92 (.slice (some ⟨b1488, 0, none⟩) l1515.length k1144) rfl (by rw [h1517])
        try have hs := hs.fix 95 (.slice (some ⟨b1488, 0, none⟩) l1515.length k1144) rfl (by rw [h1517])
        refine h_nx (hw.cs [0] [] rfl rfl) fun hC => ?_
        refine h_done (by kernel_rfl) ?_
        exact ⟨Sv1380, c1516, (hs.wk rfl), (hw.ft [0, 1] [1, 0] (by decide) rfl rfl)⟩
       ·rintro a w ⟨Sv1518, c1516, hs, hw⟩
        refine then_normal ?_
        exact ⟨l1515, c1516, (some ⟨b1488, 0, none⟩), k1144, Sv1518, hsh, (hs.wk rfl), (hw.ft [0, 1] [0, 1] (by decide) rfl rfl)⟩
      ·have hsh := ite_f hsh h1478
       refine wp_region_lit ?_
       refine st_val hs (y_move rfl) trivial rfl rfl fun a hs => ?_
       refine st_val hs (y_move rfl) trivial rfl rfl fun a hs => ?_
       refine st_val hs (y_move rfl) trivial rfl rfl fun a hs => ?_
       obtain ⟨x1521, h1519, hsh⟩ := bind_t hsh
       obtain ⟨b1528, q1525, c1526, h1529, h1522, h1523, h1527, h1520⟩ := hw.elemRV (α := Span) 0 rfl 0 rfl h1519
       have hsv1530 := hs
       have hwv1531 := hw
       subst h1529
       have hs := hsv1530
       have hw := hwv1531
       obtain ⟨_, _, rfl, rfl, rfl⟩ := h1520
       refine st_val hs (y_indexAt Try.runUnderlying27 Try.sizeOf46 rfl rfl h1522.1 h1522.2 h1523) trivial rfl rfl fun a hs => ?_
       refine st_val hs (y_loadQA (j := 0) (hw.ownAt 0 rfl) rfl Try.isAgg46 Try.sizeOf46 h1527 rfl rfl) trivial rfl rfl fun a hs => ?_
       refine w_litSlice (α := Span) (vs := [.agg #[.int .i64 x1521.From, .int .i64 x1521.To]]) (cs := [.int .i64 x1521.From, .int .i64 x1521.To]) (xs := ([x1521] : List Span)) hs hw El27 rfl rfl rfl rfl rfl rfl ⟨⟨_, _, rfl, rfl, rfl⟩, rfl⟩ rfl trivial rfl fun b1533 a w hs hw => ?_
       obtain ⟨l1535, h1534, hsh⟩ := bind_t hsh
       refine w_appendR (α := Span) hs hw El27 2 rfl rfl rfl 2 rfl 0 rfl 0 rfl h1534 rfl trivial ?_
       intro p1536 k1537 c1538 a w hs hw
       refine st_val hs (y_assign rfl) trivial rfl rfl fun a hs => ?_
       refine wpList_nil ?_
       refine then_normal ?_
       exact ⟨l1535, c1538, p1536, k1537, Sv1380, hsh, (hs.wk rfl), (hw.ft [1, 2] [2, 0] (by decide) rfl rfl)⟩
     ·rintro a w ⟨out1475, c1471, p1472, k1473, Sv1474, hsh, hs, hw⟩
      delta ref08_Normal_j4 at hsh
      refine blk_normal ?_
      refine then_normal ?_
      refine wp_region_lit ?_
      refine st_val hs (y_move rfl) trivial rfl rfl fun a hs => ?_
      refine st_val hs (y_add rfl rfl) trivial rfl rfl fun a hs => ?_
      obtain ⟨i1477, h1476, hsh⟩ := bind_t hsh
      refine st_val hs (y_assignI rfl h1476) trivial rfl rfl fun a hs => ?_
      refine wpList_nil ?_
      refine then_normal ?_
      exact ⟨_, (Option.some.inj hsh).symm, c1471, p1472, k1473, Sv1474, (hs.wk rfl), (hw.ft [0, 1] [0, 1] (by decide) rfl rfl)⟩
   ·have hsh := ite_f hsh h1254
    refine wp_exit ?_
    refine then_exit ?_
    refine then_exit ?_
    refine blk_exit ?_
    have hsh := Option.some.inj hsh
    subst hsh
    have h1539 := hd1245 _ rfl
    subst h1539
    refine then_normal ?_
    exact ⟨c1142, p1143, k1144, Sv1145, (hs.wk rfl), (hw.ft [1] [1] (by decide) rfl rfl)⟩
  ·rintro a w ⟨c1249, p1250, k1251, Sv1252, hs, hw⟩
   refine then_normal ?_
   refine wp_seq ?_
   refine wp_region_lit ?_
   refine st_val hs (y_move rfl) trivial rfl rfl fun a hs => ?_
   refine st_val hs (y_assign rfl) trivial rfl rfl fun a hs => ?_
   refine wpList_nil ?_
   refine then_normal ?_
   have hsh := Option.some.inj hsh
   subst hsh
   refine wp_ret ?_
   exact ret1 hs rfl (rv_tmp rfl) (hw.ret ⟨p1250, k1251, c1249, rfl, (hw.outs [0] (by decide) rfl), (hw.envAt 0 rfl)⟩)

abbrev ref01_In_rd (w0 : World) (X : List Nat) (r : Bool) : (Nat → Prop) → World → Value → Prop := fun S w v => v = .bool r
set_option maxHeartbeats 4000000 in
set_option maxRecDepth 100000 in
theorem ref01_In_ok {w0 : World} {S0 : Nat → Prop} {n1 : Int} {lo2 : Int} {hi3 : Int} {r : Bool} (hsh : ref01_In n1 lo2 hi3 = some r) (hS : ∀ b, S0 b → b < w0.heap.size) : Calls Try.prog 43 #[.int .i64 n1, .int .i64 lo2, .int .i64 hi3] w0 (Ret ([]) w0 S0 (ref01_In_rd w0 ([]) r)) := by
 refine calls_of_wp Try.func43 rfl ?_
 have hs := Sl.enter #[.int .i64 n1, .int .i64 lo2, .int .i64 hi3] 15 [(0, .int .i64 n1), (1, .int .i64 lo2), (2, .int .i64 hi3)] rfl ⟨rfl, rfl, rfl, trivial⟩
 have hw := Wd.enter (E := []) hS (fun _ h => (by cases h))
 delta ref01_In at hsh
 refine wp_seq ?_
 refine wp_region_lit ?_
 refine st_val hs (y_assign rfl) trivial rfl rfl fun a hs => ?_
 refine wpList_nil ?_
 refine then_normal ?_
 refine wp_seq ?_
 refine wp_region_lit ?_
 refine st_val hs (y_move rfl) trivial rfl rfl fun a hs => ?_
 refine st_val hs (y_move rfl) trivial rfl rfl fun a hs => ?_
 refine st_val hs (y_geq rfl rfl) trivial rfl rfl fun a hs => ?_
 refine st_val hs (y_move rfl) trivial rfl rfl fun a hs => ?_
 refine wpl_join 4 (fun a w1 => w0 = w1 ∧ Sl 15 [(14, .bool ((decide (lo2 ≤ n1)) && (decide (n1 ≤ hi3))))] a) ?_ ?_
 ·rcases Bool.eq_false_or_eq_true (decide (lo2 ≤ n1)) with h4 | h4
  ·have hs := hs.fix 10 (.bool true) rfl (vb h4)
   refine st_val hs (y_move rfl) ⟨_, rfl, rfl⟩ rfl rfl fun a hs => ?_
   refine st_val hs (y_move rfl) ⟨_, rfl, rfl⟩ rfl rfl fun a hs => ?_
   refine st_val hs (y_leq rfl rfl) ⟨_, rfl, rfl⟩ rfl rfl fun a hs => ?_
   refine st_val hs (y_pickT rfl rfl) trivial rfl rfl fun a hs => ?_
   refine wpList_nil ?_
   refine then_normal ?_
   exact ⟨rfl, (hs.fix 14 (.bool ((decide (lo2 ≤ n1)) && (decide (n1 ≤ hi3)))) rfl (and_t h4)).weaken _ ⟨rfl, trivial⟩⟩
  ·have hs := hs.fix 10 (.bool false) rfl (vb h4)
   refine st_skip hs rfl rfl rfl rfl rfl fun a hs => ?_
   refine st_skip hs rfl rfl rfl rfl rfl fun a hs => ?_
   refine st_skip hs rfl rfl rfl rfl rfl fun a hs => ?_
   refine st_val hs (y_pickF rfl rfl) trivial rfl rfl fun a hs => ?_
   refine wpList_nil ?_
   refine then_normal ?_
   exact ⟨rfl, (hs.fix 14 (.bool ((decide (lo2 ≤ n1)) && (decide (n1 ≤ hi3)))) rfl (and_f h4)).weaken _ ⟨rfl, trivial⟩⟩
 ·rintro a w1 ⟨h5, hs⟩
  subst h5
  refine st_val hs (y_assign rfl) trivial rfl rfl fun a hs => ?_
  refine wpList_nil ?_
  refine then_normal ?_
  have hsh := Option.some.inj hsh
  subst hsh
  refine wp_ret ?_
  exact ret1 hs rfl (rv_tmp rfl) (hw.ret rfl)

abbrev ref08_near_rd (w0 : World) (X : List Nat) (r : Bool) : (Nat → Prop) → World → Value → Prop := fun S w v => v = .bool r
set_option maxHeartbeats 4000000 in
set_option maxRecDepth 100000 in
theorem ref08_near_ok {w0 : World} {S0 : Nat → Prop} {p2 : Option Addr} {k3 : Nat} {l1 : (List Span)} {r : Bool} (hsh : ref08_near l1 = some r) (hS : ∀ b, S0 b → b < w0.heap.size) (h4 : (SlA p2 l1.length k3 l1).p S0 w0) : Calls Try.prog 52 #[.slice p2 l1.length k3] w0 (Ret ([]) w0 S0 (ref08_near_rd w0 ([]) r)) := by
 refine calls_of_wp Try.func52 rfl ?_
 have hs := Sl.enter #[.slice p2 l1.length k3] 26 [(0, .slice p2 l1.length k3)] rfl ⟨rfl, trivial⟩
 have hw := Wd.enter (E := []) hS (fun _ h => (by cases h))
 have hw := hw.addE h4
 delta ref08_near at hsh
 refine wp_seq ?_
 refine wp_region_lit ?_
 refine st_val hs (y_assign rfl) trivial rfl rfl fun a hs => ?_
 refine wpList_nil ?_
 refine then_normal ?_
 refine wp_seq ?_
 refine wp_seq ?_
 refine wp_region_lit ?_
 refine st_val hs (y_assign rfl) trivial rfl rfl fun a hs => ?_
 refine wpList_nil ?_
 refine then_normal ?_
 refine wp_block ?_
 refine wp_while (fun sv181 a w => ∃ (Sv297 : Nat → Prop), Sl 26 [(0, .slice p2 l1.length k3), (3, .int .i64 sv181)] a ∧ Wd ⟨w0, S0, []⟩ Sv297 [] [SlA p2 l1.length k3 l1] w) 0 hsh ⟨S0, (hs.wk rfl), (hw.ft [] [0] (by decide) rfl rfl)⟩ ?_
 repeat clear hsh
 rintro sv181 a w tv356 ⟨Sv297, hs, hw⟩ hsh hd355
 delta ref08_near_l2 at hsh
 refine wp_seq ?_
 refine wp_seq ?_
 refine wp_region_lit ?_
 refine st_val hs (y_move rfl) trivial rfl rfl fun a hs => ?_
 refine st_val hs (y_move rfl) trivial rfl rfl fun a hs => ?_
 refine st_val hs (y_len Try.runUnderlying27 rfl) trivial rfl rfl fun a hs => ?_
 refine st_val hs (y_lss rfl rfl) trivial rfl rfl fun a hs => ?_
 refine wpList_nil ?_
 refine then_normal ?_
 refine wp_cond_split (hs.ev rfl) (fun h360 => ?_) (fun h360 => ?_)
 ·have hsh := ite_t hsh h360
  refine wp_skip ?_
  refine then_normal ?_
  refine wp_seq ?_
  refine wp_block ?_
  refine wp_seq ?_
  refine wp_region_lit ?_
  refine st_val hs (y_move rfl) trivial rfl rfl fun a hs => ?_
  refine st_val hs (y_move rfl) trivial rfl rfl fun a hs => ?_
  obtain ⟨x417, h415, hsh⟩ := bind_t hsh
  obtain ⟨b423, o424, q421, c422, h425, h418, h419, h420, h416⟩ := hw.elemV 0 rfl h415
  have hsv426 := hs
  have hwv427 := hw
  subst h425
  have hs := hsv426
  have hw := hwv427
  obtain ⟨_, _, rfl, rfl, rfl⟩ := h416
  have hw := hw.addE h420
  refine st_val hs (y_indexAt Try.runUnderlying27 Try.sizeOf46 rfl rfl h418.1 h418.2 h419) trivial rfl rfl fun a hs => ?_
  refine st_val hs (y_fieldAddr (o' := q421 + 0) Try.runUnderlying46 rfl Try.sizeOf3 rfl rfl rfl) trivial rfl rfl fun a hs => ?_
  refine st_val hs (y_loadE1 (j := 0) (hw.ceAt 0 rfl) rfl Try.isAgg3 rfl) trivial rfl rfl fun a hs => ?_
  obtain ⟨rv429, h428, hsh⟩ := bind_t hsh
  refine st_callR hs (ref01_In_ok h428 hw.bdom) (do_call Try.call43 rfl) trivial rfl rfl ?_
  intro v433 Sv430 w a h431 h432 hs
  subst h432
  have hw := hw.callB h431
  refine st_val hs (y_not rfl) trivial rfl rfl fun a hs => ?_
  refine st_val hs (y_move rfl) trivial rfl rfl fun a hs => ?_
  obtain ⟨c451, hc451, hsh⟩ := bind_t hsh
  refine wpl_join 8 (fun a w => ∃ (Sv452 : Nat → Prop), Sl 26 [(0, .slice (some ⟨b423, o424, none⟩) l1.length k3), (3, .int .i64 sv181), (25, .bool c451)] a ∧ Wd ⟨w0, S0, []⟩ Sv452 [] [SlA (some ⟨b423, o424, none⟩) l1.length k3 l1] w) ?_ ?_
  ·rcases Bool.eq_false_or_eq_true (!rv429) with h450 | h450
   ·have hs := hs.fix 17 (.bool true) rfl (vb h450)
    have hsh := ite_t hc451 h450
    refine st_skip hs rfl rfl rfl rfl rfl fun a hs => ?_
    refine st_skip hs rfl rfl rfl rfl rfl fun a hs => ?_
    refine st_skip hs rfl rfl rfl rfl rfl fun a hs => ?_
    refine st_skip hs rfl rfl rfl rfl rfl fun a hs => ?_
    refine st_skip hs rfl rfl rfl rfl rfl fun a hs => ?_
    refine st_skip hs rfl rfl rfl rfl rfl fun a hs => ?_
    refine st_skip hs rfl rfl rfl rfl rfl fun a hs => ?_
    refine st_val hs (y_pickT rfl rfl) trivial rfl rfl fun a hs => ?_
    refine wpList_nil ?_
    have hsh := Option.some.inj hsh
    subst hsh
    refine then_normal ?_
    exact ⟨Sv297, (hs.wk rfl), (hw.ft [] [1] (by decide) rfl rfl)⟩
   ·have hs := hs.fix 17 (.bool false) rfl (vb h450)
    have hsh := ite_f hc451 h450
    refine st_val hs (y_move rfl) ⟨_, rfl, rfl⟩ rfl rfl fun a hs => ?_
    refine st_val hs (y_move rfl) ⟨_, rfl, rfl⟩ rfl rfl fun a hs => ?_
    obtain ⟨x455, h453, hsh⟩ := bind_t hsh
    obtain ⟨q459, c460, h456, h457, h458, h454⟩ := hw.elemK 1 rfl h453
    obtain ⟨_, _, rfl, rfl, rfl⟩ := h454
    have hw := hw.addE h458
    refine st_val hs (y_indexAt Try.runUnderlying27 Try.sizeOf46 rfl rfl h456.1 h456.2 h457) ⟨_, rfl, rfl⟩ rfl rfl fun a hs => ?_
    refine st_val hs (y_fieldAddr (o' := q459 + 1) Try.runUnderlying46 rfl Try.sizeOf3 rfl rfl rfl) ⟨_, rfl, rfl⟩ rfl rfl fun a hs => ?_
    refine st_val hs (y_loadE1 (j := 1) (hw.ceAt 0 rfl) rfl Try.isAgg3 rfl) ⟨_, rfl, rfl⟩ rfl rfl fun a hs => ?_
    obtain ⟨rv462, h461, hsh⟩ := bind_t hsh
    refine st_callR hs (ref01_In_ok h461 hw.bdom) (do_call Try.call43 rfl) ⟨_, rfl, rfl⟩ rfl rfl ?_
    intro v466 Sv463 w a h464 h465 hs
    subst h465
    have hw := hw.callB h464
    refine st_val hs (y_not rfl) ⟨_, rfl, rfl⟩ rfl rfl fun a hs => ?_
    refine st_val hs (y_pickF rfl rfl) trivial rfl rfl fun a hs => ?_
    refine wpList_nil ?_
    have hsh := Option.some.inj hsh
    subst hsh
    refine then_normal ?_
    exact ⟨Sv297, (hs.wk rfl), (hw.ft [] [2] (by decide) rfl rfl)⟩
  ·rintro a w ⟨Sv452, hs, hw⟩
   refine wpList_nil ?_
   refine then_normal ?_
   refine wp_cond_split (hs.ev rfl) (fun h469 => ?_) (fun h469 => ?_)
   ·have hsh := ite_t hsh h469
    refine wp_seq ?_
    refine wp_region_lit ?_
    refine st_val hs (y_assign rfl) trivial rfl rfl fun a hs => ?_
    refine wpList_nil ?_
    refine then_normal ?_
    have hsh := Option.some.inj hsh
    subst hsh
    have h470 := hd355 _ rfl
    subst h470
    refine wp_ret ?_
    refine blk_ret ?_
    refine then_ret ?_
    refine then_ret ?_
    refine blk_ret ?_
    refine then_ret ?_
    exact ret1 hs rfl (rv_tmp rfl) (hw.ret rfl)
   ·have hsh := ite_f hsh h469
    refine wp_skip ?_
    refine blk_normal ?_
    refine then_normal ?_
    refine wp_region_lit ?_
    refine st_val hs (y_move rfl) trivial rfl rfl fun a hs => ?_
    refine st_val hs (y_add rfl rfl) trivial rfl rfl fun a hs => ?_
    obtain ⟨i472, h471, hsh⟩ := bind_t hsh
    refine st_val hs (y_assignI rfl h471) trivial rfl rfl fun a hs => ?_
    refine wpList_nil ?_
    refine then_normal ?_
    exact ⟨_, (Option.some.inj hsh).symm, Sv452, (hs.wk rfl), (hw.ft [] [0] (by decide) rfl rfl)⟩
 ·have hsh := ite_f hsh h360
  obtain ⟨rv473, hsh, h474⟩ := map_t hsh
  have h474 := (hd355 _ h474.symm).symm
  subst h474
  refine wp_exit ?_
  refine then_exit ?_
  refine then_exit ?_
  refine blk_exit ?_
  refine then_normal ?_
  refine wp_seq ?_
  refine wp_region_lit ?_
  refine st_val hs (y_assign rfl) trivial rfl rfl fun a hs => ?_
  refine wpList_nil ?_
  refine then_normal ?_
  have hsh := Option.some.inj hsh
  subst hsh
  refine wp_ret ?_
  exact ret1 hs rfl (rv_tmp rfl) (hw.ret rfl)

abbrev ref08_Length_rd (w0 : World) (X : List Nat) (r : (Int × Bool)) : (Nat → Prop) → World → Value → Prop := fun S w v => v = .tuple #[.int .i64 r.1, .bool r.2]
set_option maxHeartbeats 4000000 in
set_option maxRecDepth 100000 in
theorem ref08_Length_ok {w0 : World} {S0 : Nat → Prop} {p2 : Option Addr} {k3 : Nat} {l1 : (List Span)} {r : (Int × Bool)} (hsh : ref08_Length l1 = some r) (hS : ∀ b, S0 b → b < w0.heap.size) (h4 : (SlA p2 l1.length k3 l1).p S0 w0) : Calls Try.prog 31 #[.slice p2 l1.length k3] w0 (Ret ([]) w0 S0 (ref08_Length_rd w0 ([]) r)) := by
 refine calls_of_wp Try.func31 rfl ?_
 have hs := Sl.enter #[.slice p2 l1.length k3] 32 [(0, .slice p2 l1.length k3)] rfl ⟨rfl, trivial⟩
 have hw := Wd.enter (E := []) hS (fun _ h => (by cases h))
 have hw := hw.addE h4
 delta ref08_Length at hsh
 refine wp_seq ?_
 refine wp_region_lit ?_
 refine st_val hs (y_assign rfl) trivial rfl rfl fun a hs => ?_
 refine st_val hs (y_assign rfl) trivial rfl rfl fun a hs => ?_
 refine wpList_nil ?_
 refine then_normal ?_
 refine wp_seq ?_
 refine wp_region_lit ?_
 refine st_val hs (y_move rfl) trivial rfl rfl fun a hs => ?_
 obtain ⟨rv6, h5, hsh⟩ := bind_t hsh
 refine st_callR hs (ref08_Normal_ok h5 hw.dom (hw.envAt 0 rfl)) (do_call Try.call51 rfl) trivial rfl rfl ?_
 intro v14 Sv11 w a h12 h13 hs
 obtain ⟨p7, k8, c10, rfl, h15, h9⟩ := h13
 have hw := hw.callN h12 h15
 have hw := hw.addE (e := RowA c10 rv6) h9
 refine st_val hs (y_assign rfl) trivial rfl rfl fun a hs => ?_
 refine wpList_nil ?_
 refine then_normal ?_
 refine wp_seq ?_
 refine wp_seq ?_
 refine wp_region_lit ?_
 refine st_val hs (y_move rfl) trivial rfl rfl fun a hs => ?_
 obtain ⟨rv17, h16, hsh⟩ := bind_t hsh
 refine st_callR hs (ref08_near_ok h16 hw.bdom (hw.bRow 0 rfl 0 rfl)) (do_call Try.call52 rfl) trivial rfl rfl ?_
 intro v21 Sv18 w a h19 h20 hs
 subst h20
 have hw := hw.callB h19
 refine st_val hs (y_not rfl) trivial rfl rfl fun a hs => ?_
 refine wpList_nil ?_
 refine then_normal ?_
 refine wp_cond_split (hs.ev rfl) (fun h24 => ?_) (fun h24 => ?_)
 ·have hsh := ite_t hsh h24
  refine wp_seq ?_
  refine wp_region_lit ?_
  refine st_val hs (y_assign rfl) trivial rfl rfl fun a hs => ?_
  refine st_val hs (y_assign rfl) trivial rfl rfl fun a hs => ?_
  refine wpList_nil ?_
  refine then_normal ?_
  have hsh := Option.some.inj hsh
  subst hsh
  refine wp_ret ?_
  refine then_ret ?_
  exact ret2 hs rfl (rv_tmp rfl) (rv_tmp rfl) (hw.ret rfl)
 ·have hsh := ite_f hsh h24
  refine wp_skip ?_
  refine then_normal ?_
  refine wp_seq ?_
  refine wp_region_lit ?_
  refine st_val hs (y_assign rfl) trivial rfl rfl fun a hs => ?_
  refine wpList_nil ?_
  refine then_normal ?_
  refine wp_seq ?_
  refine wp_seq ?_
  refine wp_region_lit ?_
  refine st_val hs (y_assign rfl) trivial rfl rfl fun a hs => ?_
  refine wpList_nil ?_
  refine then_normal ?_
  obtain ⟨e115, h172, hsh⟩ := bind_t hsh
  refine wp_join (fun a w => ∃ (Sv116 : Nat → Prop), Sl 32 [(5, .int .i64 e115)] a ∧ Wd ⟨w0, S0, []⟩ Sv116 [] [] w) ?_ ?_
  ·refine wp_block ?_
   refine wp_while (fun sv25 a w => ∃ (Sv83 : Nat → Prop), Sl 32 [(4, .slice p7 rv6.length k8), (5, .int .i64 sv25.1), (6, .int .i64 sv25.2)] a ∧ Wd ⟨w0, S0, []⟩ Sv83 [.row p7 rv6.length k8 c10 46 2] [RowA c10 rv6] w) (0, 0) h172 ⟨Sv11, (hs.wk rfl), (hw.ft [0] [0] (by decide) rfl rfl)⟩ ?_
   clear h172
   repeat clear hsh
   rintro sv25 a w tv113 ⟨Sv83, hs, hw⟩ hsh hd112
   delta ref08_Length_l1 at hsh
   refine wp_seq ?_
   refine wp_seq ?_
   refine wp_region_lit ?_
   refine st_val hs (y_move rfl) trivial rfl rfl fun a hs => ?_
   refine st_val hs (y_move rfl) trivial rfl rfl fun a hs => ?_
   refine st_val hs (y_len Try.runUnderlying27 rfl) trivial rfl rfl fun a hs => ?_
   refine st_val hs (y_lss rfl rfl) trivial rfl rfl fun a hs => ?_
   refine wpList_nil ?_
   refine then_normal ?_
   refine wp_cond_split (hs.ev rfl) (fun h118 => ?_) (fun h118 => ?_)
   ·have hsh := ite_t hsh h118
    refine wp_skip ?_
    refine then_normal ?_
    refine wp_seq ?_
    refine wp_block ?_
    obtain ⟨x146, h144, hsh⟩ := bind_t hsh
    obtain ⟨b153, q150, c151, h154, h147, h148, h152, h145⟩ := hw.elemRV (α := Span) 0 rfl 0 rfl h144
    have hsv155 := hs
    have hwv156 := hw
    subst h154
    have hs := hsv155
    have hw := hwv156
    obtain ⟨_, _, rfl, rfl, rfl⟩ := h145
    obtain ⟨x159, h157, hsh⟩ := bind_t hsh
    obtain ⟨q163, c164, h160, h161, h165, h158⟩ := hw.elemRK (α := Span) 0 rfl 0 rfl h157
    obtain ⟨_, _, rfl, rfl, rfl⟩ := h158
    obtain ⟨n167, h166, hsh⟩ := bind_t hsh
    refine wp_only (fun a w => ∃ (Sv168 : Nat → Prop), Sl 32 [(4, .slice (some ⟨b153, 0, none⟩) rv6.length k8), (5, .int .i64 n167), (6, .int .i64 sv25.2)] a ∧ Wd ⟨w0, S0, []⟩ Sv168 [.row (some ⟨b153, 0, none⟩) rv6.length k8 c10 46 2] [RowA c10 rv6] w) ?_ ?_
    ·refine h_b (C := Cls [.row (some ⟨b153, 0, none⟩) rv6.length k8 c10 46 2] []) (by kernel_rfl) rfl (hw.drew.cs [0] [] rfl rfl) fun hC => ?_
     have hw := hw.drew
     refine h_g hs 0 rfl (by kernel_rfl) rfl rfl hC rfl (fun w hC => y_move rfl) fun a hs => ?_
     refine h_g hs 1 rfl (by kernel_rfl) rfl rfl hC rfl (fun w hC => y_move rfl) fun a hs => ?_
     refine h_g hs 2 rfl (by kernel_rfl) rfl rfl hC rfl (fun w hC => y_move rfl) fun a hs => ?_
     refine h_g hs 3 rfl (by kernel_rfl) rfl rfl hC rfl (fun w hC => y_indexAt Try.runUnderlying27 Try.sizeOf46 rfl rfl h147.1 h147.2 h148) fun a hs => ?_
     refine h_g hs 4 rfl (by kernel_rfl) rfl rfl hC rfl (fun w hC => y_fieldAddr (o' := q150 + 1) Try.runUnderlying46 rfl Try.sizeOf3 rfl rfl rfl) fun a hs => ?_
     refine h_g hs 5 rfl (by kernel_rfl) rfl rfl hC rfl (fun w hC => y_loadQ1 (j := 1) (hC.ownAt 0 rfl) rfl Try.isAgg3 h152 rfl) fun a hs => ?_
     refine h_g hs 6 rfl (by kernel_rfl) rfl rfl hC rfl (fun w hC => y_move rfl) fun a hs => ?_
     refine h_g hs 7 rfl (by kernel_rfl) rfl rfl hC rfl (fun w hC => y_move rfl) fun a hs => ?_
     refine h_g hs 8 rfl (by kernel_rfl) rfl rfl hC rfl (fun w hC => y_indexAt Try.runUnderlying27 Try.sizeOf46 rfl rfl h160.1 h160.2 h161) fun a hs => ?_
     refine h_g hs 9 rfl (by kernel_rfl) rfl rfl hC rfl (fun w hC => y_fieldAddr (o' := q163 + 0) Try.runUnderlying46 rfl Try.sizeOf3 rfl rfl rfl) fun a hs => ?_
     refine h_g hs 10 rfl (by kernel_rfl) rfl rfl hC rfl (fun w hC => y_loadQ1 (j := 0) (hC.ownAt 0 rfl) rfl Try.isAgg3 h165 rfl) fun a hs => ?_
     refine h_g hs 11 rfl (by kernel_rfl) rfl rfl hC rfl (fun w hC => y_sub rfl rfl) fun a hs => ?_
     refine h_g hs 12 rfl (by kernel_rfl) rfl rfl hC rfl (fun w hC => y_add rfl rfl) fun a hs => ?_
     refine h_g hs 13 rfl (by kernel_rfl) rfl rfl hC rfl (fun w hC => y_assignI rfl h166) fun a hs => ?_
     refine h_done (by kernel_rfl) ?_
     exact ⟨Sv83, (hs.wk rfl), (hw.ft [0] [0] (by decide) rfl rfl)⟩
    ·rintro a w ⟨Sv168, hs, hw⟩
     refine blk_normal ?_
     refine then_normal ?_
     refine wp_region_lit ?_
     refine st_val hs (y_move rfl) trivial rfl rfl fun a hs => ?_
     refine st_val hs (y_add rfl rfl) trivial rfl rfl fun a hs => ?_
     obtain ⟨i170, h169, hsh⟩ := bind_t hsh
     refine st_val hs (y_assignI rfl h169) trivial rfl rfl fun a hs => ?_
     refine wpList_nil ?_
     refine then_normal ?_
     exact ⟨_, (Option.some.inj hsh).symm, Sv168, (hs.wk rfl), (hw.ft [0] [0] (by decide) rfl rfl)⟩
   ·have hsh := ite_f hsh h118
    refine wp_exit ?_
    refine then_exit ?_
    refine then_exit ?_
    refine blk_exit ?_
    have hsh := Option.some.inj hsh
    subst hsh
    have h171 := hd112 _ rfl
    subst h171
    refine then_normal ?_
    exact ⟨Sv83, (hs.wk rfl), (hw.ft [] [] (by decide) rfl rfl)⟩
  ·rintro a w ⟨Sv116, hs, hw⟩
   refine then_normal ?_
   refine wp_seq ?_
   refine wp_region_lit ?_
   refine st_val hs (y_move rfl) trivial rfl rfl fun a hs => ?_
   refine st_val hs (y_assign rfl) trivial rfl rfl fun a hs => ?_
   refine st_val hs (y_assign rfl) trivial rfl rfl fun a hs => ?_
   refine wpList_nil ?_
   refine then_normal ?_
   have hsh := Option.some.inj hsh
   subst hsh
   refine wp_ret ?_
   exact ret2 hs rfl (rv_tmp rfl) (rv_tmp rfl) (hw.ret rfl)

abbrev ref11_Same_rd (w0 : World) (X : List Nat) (r : Bool) : (Nat → Prop) → World → Value → Prop := fun S w v => v = .bool r
set_option maxHeartbeats 4000000 in
set_option maxRecDepth 100000 in
theorem ref11_Same_ok {w0 : World} {S0 : Nat → Prop} {p2 : Option Addr} {k3 : Nat} {p4 : Option Addr} {k5 : Nat} {p9 : Option Addr} {k10 : Nat} {p11 : Option Addr} {k12 : Nat} {a1 : Receiver} {b8 : Receiver} {r : Bool} (hsh : ref11_Same a1 b8 = some r) (hS : ∀ b, S0 b → b < w0.heap.size) (h6 : (SlA p2 a1.Got.length k3 a1.Got).p S0 w0) (h7 : (SlA p4 a1.Lost.length k5 a1.Lost).p S0 w0) (h13 : (SlA p9 b8.Got.length k10 b8.Got).p S0 w0) (h14 : (SlA p11 b8.Lost.length k12 b8.Lost).p S0 w0) : Calls Try.prog 22 #[.agg #[.slice p2 a1.Got.length k3, .slice p4 a1.Lost.length k5], .agg #[.slice p9 b8.Got.length k10, .slice p11 b8.Lost.length k12]] w0 (Ret ([]) w0 S0 (ref11_Same_rd w0 ([]) r)) := by
 refine calls_of_wp Try.func22 rfl ?_
 have hs := Sl.enter #[.agg #[.slice p2 a1.Got.length k3, .slice p4 a1.Lost.length k5], .agg #[.slice p9 b8.Got.length k10, .slice p11 b8.Lost.length k12]] 17 [(0, .agg #[.slice p2 a1.Got.length k3, .slice p4 a1.Lost.length k5]), (1, .agg #[.slice p9 b8.Got.length k10, .slice p11 b8.Lost.length k12])] rfl ⟨rfl, rfl, trivial⟩
 have hw := Wd.enter (E := []) hS (fun _ h => (by cases h))
 have hw := hw.addE h6
 have hw := hw.addE h7
 have hw := hw.addE h13
 have hw := hw.addE h14
 delta ref11_Same at hsh
 refine wp_seq ?_
 refine wp_region_lit ?_
 refine w_box (cs := [.slice p2 a1.Got.length k3, .slice p4 a1.Lost.length k5]) hs hw rfl rfl rfl trivial ?_
 intro b15 a w hs hw
 refine w_box (cs := [.slice p9 b8.Got.length k10, .slice p11 b8.Lost.length k12]) hs hw rfl rfl rfl trivial ?_
 intro b16 a w hs hw
 refine st_val hs (y_assign rfl) trivial rfl rfl fun a hs => ?_
 refine wpList_nil ?_
 refine then_normal ?_
 refine wp_seq ?_
 refine wp_region_lit ?_
 refine st_val hs (y_fieldAddr (o' := 0) Try.runUnderlying29 rfl Try.sizeOf27 rfl rfl rfl) trivial rfl rfl fun a hs => ?_
 refine st_val hs (y_loadB1 (hw.ownAt 1 rfl) rfl Try.isAgg27 rfl) trivial rfl rfl fun a hs => ?_
 refine st_val hs (y_fieldAddr (o' := 0) Try.runUnderlying29 rfl Try.sizeOf27 rfl rfl rfl) trivial rfl rfl fun a hs => ?_
 refine st_val hs (y_loadB1 (hw.ownAt 0 rfl) rfl Try.isAgg27 rfl) trivial rfl rfl fun a hs => ?_
 obtain ⟨rv18, h17, hsh⟩ := bind_t hsh
 refine st_callR hs (ref08_Same_ok h17 hw.bdom (hw.bE 3 rfl) (hw.bE 1 rfl)) (do_call Try.call24 rfl) trivial rfl rfl ?_
 intro v22 Sv19 w a h20 h21 hs
 subst h21
 have hw := hw.callB h20
 refine st_val hs (y_move rfl) trivial rfl rfl fun a hs => ?_
 obtain ⟨c32, hc32, hsh⟩ := bind_t hsh
 refine wpl_join 6 (fun a w => ∃ (Sv33 : Nat → Prop), Sl 17 [(16, .bool c32)] a ∧ Wd ⟨w0, S0, []⟩ Sv33 [] [] w) ?_ ?_
 ·rcases Bool.eq_false_or_eq_true rv18 with h31 | h31
  ·have hs := hs.fix 10 (.bool true) rfl (vb h31)
   have hsh := ite_t hc32 h31
   refine st_val hs (y_fieldAddr (o' := 1) Try.runUnderlying29 rfl Try.sizeOf27 rfl rfl rfl) ⟨_, rfl, rfl⟩ rfl rfl fun a hs => ?_
   refine st_val hs (y_loadB1 (hw.ownAt 1 rfl) rfl Try.isAgg27 rfl) ⟨_, rfl, rfl⟩ rfl rfl fun a hs => ?_
   refine st_val hs (y_fieldAddr (o' := 1) Try.runUnderlying29 rfl Try.sizeOf27 rfl rfl rfl) ⟨_, rfl, rfl⟩ rfl rfl fun a hs => ?_
   refine st_val hs (y_loadB1 (hw.ownAt 0 rfl) rfl Try.isAgg27 rfl) ⟨_, rfl, rfl⟩ rfl rfl fun a hs => ?_
   obtain ⟨rv35, h34, hsh⟩ := bind_t hsh
   refine st_callR hs (ref08_Same_ok h34 hw.bdom (hw.bE 2 rfl) (hw.bE 0 rfl)) (do_call Try.call24 rfl) ⟨_, rfl, rfl⟩ rfl rfl ?_
   intro v39 Sv36 w a h37 h38 hs
   subst h38
   have hw := hw.callB h37
   refine st_val hs (y_pickT rfl rfl) trivial rfl rfl fun a hs => ?_
   refine wpList_nil ?_
   have hsh := Option.some.inj hsh
   subst hsh
   refine then_normal ?_
   exact ⟨S0, (hs.wk rfl), (hw.ft [] [] (by decide) rfl rfl)⟩
  ·have hs := hs.fix 10 (.bool false) rfl (vb h31)
   have hsh := ite_f hc32 h31
   refine st_skip hs rfl rfl rfl rfl rfl fun a hs => ?_
   refine st_skip hs rfl rfl rfl rfl rfl fun a hs => ?_
   refine st_skip hs rfl rfl rfl rfl rfl fun a hs => ?_
   refine st_skip hs rfl rfl rfl rfl rfl fun a hs => ?_
   refine st_skip hs rfl rfl rfl rfl rfl fun a hs => ?_
   refine st_val hs (y_pickF rfl rfl) trivial rfl rfl fun a hs => ?_
   refine wpList_nil ?_
   have hsh := Option.some.inj hsh
   subst hsh
   refine then_normal ?_
   exact ⟨S0, (hs.wk rfl), (hw.ft [] [] (by decide) rfl rfl)⟩
 ·rintro a w ⟨Sv33, hs, hw⟩
  refine st_val hs (y_assign rfl) trivial rfl rfl fun a hs => ?_
  refine wpList_nil ?_
  refine then_normal ?_
  have hsh := Option.some.inj hsh
  subst hsh
  refine wp_ret ?_
  exact ret1 hs rfl (rv_tmp rfl) (hw.ret rfl)

abbrev ref08_Minus_rd (w0 : World) (X : List Nat) (r : (List Span)) : (Nat → Prop) → World → Value → Prop := fun S w v => ∃ (p0_0 : Option Addr) (k0_0 : Nat) (c0_0 : List Value), v = .slice p0_0 r.length k0_0 ∧ Outs X w0 S w [.row p0_0 r.length k0_0 c0_0 46 2] ∧ (RowA c0_0 r).p S w
set_option maxHeartbeats 4000000 in
set_option maxRecDepth 100000 in
theorem ref08_Minus_ok {w0 : World} {S0 : Nat → Prop} {p2 : Option Addr} {k3 : Nat} {p6 : Option Addr} {k7 : Nat} {a1 : (List Span)} {b5 : (List Span)} {r : (List Span)} (hsh : ref08_Minus a1 b5 = some r) (hS : ∀ b, S0 b → b < w0.heap.size) (h4 : (SlA p2 a1.length k3 a1).p S0 w0) (h8 : (SlA p6 b5.length k7 b5).p S0 w0) : Calls Try.prog 32 #[.slice p2 a1.length k3, .slice p6 b5.length k7] w0 (Ret ([]) w0 S0 (ref08_Minus_rd w0 ([]) r)) := by
 refine calls_of_wp Try.func32 rfl ?_
 have hs := Sl.enter #[.slice p2 a1.length k3, .slice p6 b5.length k7] 94 [(0, .slice p2 a1.length k3), (1, .slice p6 b5.length k7)] rfl ⟨rfl, rfl, trivial⟩
 have hw := Wd.enter (E := []) hS (fun _ h => (by cases h))
 have hw := hw.addE h4
 have hw := hw.addE h8
 delta ref08_Minus at hsh
 refine wp_seq ?_
 refine wp_region_lit ?_
 refine st_val hs (y_assign rfl) trivial rfl rfl fun a hs => ?_
 refine wpList_nil ?_
 refine then_normal ?_
 refine wp_seq ?_
 refine wp_region_lit ?_
 refine st_val hs (y_move rfl) trivial rfl rfl fun a hs => ?_
 obtain ⟨rv10, h9, hsh⟩ := bind_t hsh
 refine st_callR hs (ref08_Normal_ok h9 hw.dom (hw.envAt 1 rfl)) (do_call Try.call51 rfl) trivial rfl rfl ?_
 intro v18 Sv15 w a h16 h17 hs
 obtain ⟨p11, k12, c14, rfl, h19, h13⟩ := h17
 have hw := hw.callN h16 h19
 have hw := hw.addE (e := RowA c14 rv10) h13
 refine st_val hs (y_move rfl) trivial rfl rfl fun a hs => ?_
 obtain ⟨rv21, h20, hsh⟩ := bind_t hsh
 refine st_callR hs (ref08_Normal_ok h20 hw.dom (hw.envAt 1 rfl)) (do_call Try.call51 rfl) trivial rfl rfl ?_
 intro v29 Sv26 w a h27 h28 hs
 obtain ⟨p22, k23, c25, rfl, h30, h24⟩ := h28
 have hw := hw.callN h27 h30
 have hw := hw.addE (e := RowA c25 rv21) h24
 refine st_val hs (y_assign rfl) trivial rfl rfl fun a hs => ?_
 refine st_val hs (y_assign rfl) trivial rfl rfl fun a hs => ?_
 refine wpList_nil ?_
 refine then_normal ?_
 refine wp_seq ?_
 refine wp_region_lit ?_
 refine st_val hs (y_assign rfl) trivial rfl rfl fun a hs => ?_
 refine wpList_nil ?_
 refine then_normal ?_
 refine wp_seq ?_
 refine wp_seq ?_
 refine wp_region_lit ?_
 refine st_val hs (y_assign rfl) trivial rfl rfl fun a hs => ?_
 refine wpList_nil ?_
 refine then_normal ?_
 obtain ⟨e1000, h1862, hsh⟩ := bind_t hsh
 refine wp_join (fun a w => ∃ (c1001 : List Value) (p1002 : Option Addr) (k1003 : Nat) (Sv1004 : Nat → Prop), Sl 94 [(7, .slice p1002 e1000.length k1003)] a ∧ Wd ⟨w0, S0, []⟩ Sv1004 [.row p1002 e1000.length k1003 c1001 46 2] [RowA c1001 e1000] w) ?_ ?_
 ·refine wp_block ?_
  have hw := hw.nilRow Span 46
  refine wp_while (fun sv31 a w => ∃ (c674 : List Value) (p675 : Option Addr) (k676 : Nat) (Sv677 : Nat → Prop), Sl 94 [(5, .slice p11 rv10.length k12), (6, .slice p22 rv21.length k23), (7, .slice p675 sv31.1.length k676), (8, .int .i64 sv31.2)] a ∧ Wd ⟨w0, S0, []⟩ Sv677 [.row p11 rv10.length k12 c14 46 2, .row p22 rv21.length k23 c25 46 2, .row p675 sv31.1.length k676 c674 46 2] [RowA c14 rv10, RowA c25 rv21, RowA c674 sv31.1] w) (([] : List Span), 0) h1862 ⟨[], none, 0, Sv26, (hs.wk rfl), (hw.ft [2, 1, 0] [2, 1, 0] (by decide) rfl rfl)⟩ ?_
  clear h1862
  repeat clear hsh
  rintro sv31 a w tv998 ⟨c674, p675, k676, Sv677, hs, hw⟩ hsh hd997
  delta ref08_Minus_l3 at hsh
  refine wp_seq ?_
  refine wp_seq ?_
  refine wp_region_lit ?_
  refine st_val hs (y_move rfl) trivial rfl rfl fun a hs => ?_
  refine st_val hs (y_move rfl) trivial rfl rfl fun a hs => ?_
  refine st_val hs (y_len Try.runUnderlying27 rfl) trivial rfl rfl fun a hs => ?_
  refine st_val hs (y_lss rfl rfl) trivial rfl rfl fun a hs => ?_
  refine wpList_nil ?_
  refine then_normal ?_
  refine wp_cond_split (hs.ev rfl) (fun h1006 => ?_) (fun h1006 => ?_)
  ·have hsh := ite_t hsh h1006
   refine wp_skip ?_
   refine then_normal ?_
   refine wp_seq ?_
   refine wp_block ?_
   refine wp_seq ?_
   refine wp_region_lit ?_
   refine st_val hs (y_move rfl) trivial rfl rfl fun a hs => ?_
   refine st_val hs (y_move rfl) trivial rfl rfl fun a hs => ?_
   obtain ⟨x1325, h1323, hsh⟩ := bind_t hsh
   obtain ⟨b1332, q1329, c1330, h1333, h1326, h1327, h1331, h1324⟩ := hw.elemRV (α := Span) 0 rfl 0 rfl h1323
   have hsv1334 := hs
   have hwv1335 := hw
   subst h1333
   have hs := hsv1334
   have hw := hwv1335
   obtain ⟨_, _, rfl, rfl, rfl⟩ := h1324
   refine st_val hs (y_indexAt Try.runUnderlying27 Try.sizeOf46 rfl rfl h1326.1 h1326.2 h1327) trivial rfl rfl fun a hs => ?_
   refine st_val hs (y_fieldAddr (o' := q1329 + 0) Try.runUnderlying46 rfl Try.sizeOf3 rfl rfl rfl) trivial rfl rfl fun a hs => ?_
   refine st_val hs (y_loadQ1 (j := 0) (hw.ownAt 0 rfl) rfl Try.isAgg3 h1331 rfl) trivial rfl rfl fun a hs => ?_
   refine st_val hs (y_assign rfl) trivial rfl rfl fun a hs => ?_
   refine wpList_nil ?_
   refine then_normal ?_
   refine wp_seq ?_
   refine wp_seq ?_
   refine wp_region_lit ?_
   refine st_val hs (y_assign rfl) trivial rfl rfl fun a hs => ?_
   refine wpList_nil ?_
   refine then_normal ?_
   obtain ⟨e1603, h1860, hsh⟩ := bind_t hsh
   refine wp_join (fun a w => ∃ (c1604 : List Value) (p1605 : Option Addr) (k1606 : Nat) (Sv1607 : Nat → Prop), Sl 94 [(5, .slice (some ⟨b1332, 0, none⟩) rv10.length k12), (6, .slice p22 rv21.length k23), (7, .slice p1605 e1603.1.length k1606), (8, .int .i64 sv31.2), (9, .int .i64 e1603.2)] a ∧ Wd ⟨w0, S0, []⟩ Sv1607 [.row (some ⟨b1332, 0, none⟩) rv10.length k12 c14 46 2, .row p22 rv21.length k23 c25 46 2, .row p1605 e1603.1.length k1606 c1604 46 2] [RowA c14 rv10, RowA c25 rv21, RowA c1604 e1603.1] w) ?_ ?_
   ·refine wp_block ?_
    refine wp_while (fun sv1336 a w => ∃ (c1511 : List Value) (p1512 : Option Addr) (k1513 : Nat) (Sv1514 : Nat → Prop), Sl 94 [(5, .slice (some ⟨b1332, 0, none⟩) rv10.length k12), (6, .slice p22 rv21.length k23), (7, .slice p1512 sv1336.1.length k1513), (8, .int .i64 sv31.2), (9, .int .i64 sv1336.2.1), (10, .int .i64 sv1336.2.2)] a ∧ Wd ⟨w0, S0, []⟩ Sv1514 [.row (some ⟨b1332, 0, none⟩) rv10.length k12 c14 46 2, .row p22 rv21.length k23 c25 46 2, .row p1512 sv1336.1.length k1513 c1511 46 2] [RowA c14 rv10, RowA c25 rv21, RowA c1511 sv1336.1] w) (sv31.1, x1325.From, 0) h1860 ⟨c674, p675, k676, Sv677, (hs.wk rfl), (hw.ft [0, 1, 2] [0, 1, 2] (by decide) rfl rfl)⟩ ?_
    clear h1860
    repeat clear hsh
    rintro sv1336 a w tv1601 ⟨c1511, p1512, k1513, Sv1514, hs, hw⟩ hsh hd1600
    delta ref08_Minus_l6 at hsh
    refine wp_seq ?_
    refine wp_seq ?_
    refine wp_region_lit ?_
    refine st_val hs (y_move rfl) trivial rfl rfl fun a hs => ?_
    refine st_val hs (y_move rfl) trivial rfl rfl fun a hs => ?_
    refine st_val hs (y_len Try.runUnderlying27 rfl) trivial rfl rfl fun a hs => ?_
    refine st_val hs (y_lss rfl rfl) trivial rfl rfl fun a hs => ?_
    refine wpList_nil ?_
    refine then_normal ?_
    refine wp_cond_split (hs.ev rfl) (fun h1609 => ?_) (fun h1609 => ?_)
    ·have hsh := ite_t hsh h1609
     refine wp_skip ?_
     refine then_normal ?_
     refine wp_seq ?_
     refine wp_join (fun a w => ∃ (out1690 : (List Span)) (fromv1691 : Int) (c1686 : List Value) (p1687 : Option Addr) (k1688 : Nat) (Sv1689 : Nat → Prop), ref08_Minus_j1 sv1336 out1690 fromv1691 = some tv1601 ∧ Sl 94 [(5, .slice (some ⟨b1332, 0, none⟩) rv10.length k12), (6, .slice p22 rv21.length k23), (7, .slice p1687 out1690.length k1688), (8, .int .i64 sv31.2), (9, .int .i64 fromv1691), (10, .int .i64 sv1336.2.2)] a ∧ Wd ⟨w0, S0, []⟩ Sv1689 [.row (some ⟨b1332, 0, none⟩) rv10.length k12 c14 46 2, .row p22 rv21.length k23 c25 46 2, .row p1687 out1690.length k1688 c1686 46 2] [RowA c14 rv10, RowA c25 rv21, RowA c1686 out1690] w) ?_ ?_
     ·refine wp_block ?_
      refine wp_seq ?_
      refine wp_seq ?_
      obtain ⟨x1696, h1694, hsh⟩ := bind_t hsh
      obtain ⟨b1703, q1700, c1701, h1704, h1697, h1698, h1702, h1695⟩ := hw.elemRV (α := Span) 1 rfl 1 rfl h1694
      have hsv1705 := hs
      have hwv1706 := hw
      subst h1704
      have hs := hsv1705
      have hw := hwv1706
      obtain ⟨_, _, rfl, rfl, rfl⟩ := h1695
      obtain ⟨c1725, hc1725, hsh⟩ := bind_t hsh
      refine wp_only (fun a w => ∃ (Sv1726 : Nat → Prop), Sl 94 [(5, .slice (some ⟨b1332, 0, none⟩) rv10.length k12), (6, .slice (some ⟨b1703, 0, none⟩) rv21.length k23), (7, .slice p1512 sv1336.1.length k1513), (8, .int .i64 sv31.2), (9, .int .i64 sv1336.2.1), (10, .int .i64 sv1336.2.2), (51, .bool c1725)] a ∧ Wd ⟨w0, S0, []⟩ Sv1726 [.row (some ⟨b1332, 0, none⟩) rv10.length k12 c14 46 2, .row (some ⟨b1703, 0, none⟩) rv21.length k23 c25 46 2, .row p1512 sv1336.1.length k1513 c1511 46 2] [RowA c14 rv10, RowA c25 rv21, RowA c1511 sv1336.1] w) ?_ ?_
      ·rcases Bool.eq_false_or_eq_true (decide (x1696.To ≤ sv1336.2.1)) with h1727 | h1727
       ·have h1728 := ite_t hc1725 h1727
        refine h_b (C := Cls [.row (some ⟨b1332, 0, none⟩) rv10.length k12 c14 46 2, .row (some ⟨b1703, 0, none⟩) rv21.length k23 c25 46 2, .row p1512 sv1336.1.length k1513 c1511 46 2] []) (by kernel_rfl) rfl (hw.drew.cs [0, 1, 2] [] rfl rfl) fun hC => ?_
        have hw := hw.drew
        refine h_g hs 0 rfl (by kernel_rfl) rfl rfl hC rfl (fun w hC => y_move rfl) fun a hs => ?_
        refine h_g hs 1 rfl (by kernel_rfl) rfl rfl hC rfl (fun w hC => y_move rfl) fun a hs => ?_
        refine h_g hs 2 rfl (by kernel_rfl) rfl rfl hC rfl (fun w hC => y_indexAt Try.runUnderlying27 Try.sizeOf46 rfl rfl h1697.1 h1697.2 h1698) fun a hs => ?_
        refine h_g hs 3 rfl (by kernel_rfl) rfl rfl hC rfl (fun w hC => y_fieldAddr (o' := q1700 + 1) Try.runUnderlying46 rfl Try.sizeOf3 rfl rfl rfl) fun a hs => ?_
        refine h_g hs 4 rfl (by kernel_rfl) rfl rfl hC rfl (fun w hC => y_loadQ1 (j := 1) (hC.ownAt 1 rfl) rfl Try.isAgg3 h1702 rfl) fun a hs => ?_
        refine h_g hs 5 rfl (by kernel_rfl) rfl rfl hC rfl (fun w hC => y_move rfl) fun a hs => ?_
        refine h_g hs 6 rfl (by kernel_rfl) rfl rfl hC rfl (fun w hC => y_leq rfl rfl) fun a hs => ?_
        refine h_g hs 7 rfl (by kernel_rfl) rfl rfl hC rfl (fun w hC => y_move rfl) fun a hs => ?_
        have hs := hs.fix 39 (.bool true) rfl (vb h1727)
        refine h_s hs 8 rfl (by kernel_rfl) rfl rfl rfl (.inl rfl) rfl rfl hC fun a hs => ?_
        refine h_s hs 9 rfl (by kernel_rfl) rfl rfl rfl (.inl rfl) rfl rfl hC fun a hs => ?_
        refine h_s hs 10 rfl (by kernel_rfl) rfl rfl rfl (.inl rfl) rfl rfl hC fun a hs => ?_
        refine h_s hs 11 rfl (by kernel_rfl) rfl rfl rfl (.inl rfl) rfl rfl hC fun a hs => ?_
        refine h_s hs 12 rfl (by kernel_rfl) rfl rfl rfl (.inl rfl) rfl rfl hC fun a hs => ?_
        refine h_s hs 13 rfl (by kernel_rfl) rfl rfl rfl (.inl rfl) rfl rfl hC fun a hs => ?_
        refine h_s hs 14 rfl (by kernel_rfl) rfl rfl rfl (.inl rfl) rfl rfl hC fun a hs => ?_
        refine h_s hs 15 rfl (by kernel_rfl) rfl rfl rfl (.inl rfl) rfl rfl hC fun a hs => ?_
        refine h_s hs 16 rfl (by kernel_rfl) rfl rfl rfl (.inl rfl) rfl rfl hC fun a hs => ?_
        refine h_s hs 17 rfl (by kernel_rfl) rfl rfl rfl (.inl rfl) rfl rfl hC fun a hs => ?_
        refine h_s hs 18 rfl (by kernel_rfl) rfl rfl rfl (.inl rfl) rfl rfl hC fun a hs => ?_
        refine h_g hs 19 rfl (by kernel_rfl) rfl rfl hC rfl (fun w hC => y_pickTE (v := .bool c1725) rfl rfl (vbs h1728)) fun a hs => ?_
        refine h_done (by kernel_rfl) ?_
        exact ⟨Sv1514, (hs.wk rfl), (hw.ft [0, 1, 2] [0, 1, 2] (by decide) rfl rfl)⟩
       ·have h1729 := ite_f hc1725 h1727
        obtain ⟨x1732, h1730, h1729⟩ := bind_t h1729
        obtain ⟨q1736, c1737, h1733, h1734, h1738, h1731⟩ := hw.elemRK (α := Span) 1 rfl 1 rfl h1730
        obtain ⟨_, _, rfl, rfl, rfl⟩ := h1731
        obtain ⟨x1741, h1739, h1729⟩ := bind_t h1729
        obtain ⟨q1745, c1746, h1742, h1743, h1747, h1740⟩ := hw.elemRK (α := Span) 0 rfl 0 rfl h1739
        obtain ⟨_, _, rfl, rfl, rfl⟩ := h1740
        refine h_b (C := Cls [.row (some ⟨b1332, 0, none⟩) rv10.length k12 c14 46 2, .row (some ⟨b1703, 0, none⟩) rv21.length k23 c25 46 2, .row p1512 sv1336.1.length k1513 c1511 46 2] []) (by kernel_rfl) rfl (hw.drew.cs [0, 1, 2] [] rfl rfl) fun hC => ?_
        have hw := hw.drew
        refine h_g hs 0 rfl (by kernel_rfl) rfl rfl hC rfl (fun w hC => y_move rfl) fun a hs => ?_
        refine h_g hs 1 rfl (by kernel_rfl) rfl rfl hC rfl (fun w hC => y_move rfl) fun a hs => ?_
        refine h_g hs 2 rfl (by kernel_rfl) rfl rfl hC rfl (fun w hC => y_indexAt Try.runUnderlying27 Try.sizeOf46 rfl rfl h1697.1 h1697.2 h1698) fun a hs => ?_
        refine h_g hs 3 rfl (by kernel_rfl) rfl rfl hC rfl (fun w hC => y_fieldAddr (o' := q1700 + 1) Try.runUnderlying46 rfl Try.sizeOf3 rfl rfl rfl) fun a hs => ?_
        refine h_g hs 4 rfl (by kernel_rfl) rfl rfl hC rfl (fun w hC => y_loadQ1 (j := 1) (hC.ownAt 1 rfl) rfl Try.isAgg3 h1702 rfl) fun a hs => ?_
        refine h_g hs 5 rfl (by kernel_rfl) rfl rfl hC rfl (fun w hC => y_move rfl) fun a hs => ?_
        refine h_g hs 6 rfl (by kernel_rfl) rfl rfl hC rfl (fun w hC => y_leq rfl rfl) fun a hs => ?_
        refine h_g hs 7 rfl (by kernel_rfl) rfl rfl hC rfl (fun w hC => y_move rfl) fun a hs => ?_
        have hs := hs.fix 39 (.bool false) rfl (vb h1727)
        refine h_t hs 8 rfl (by kernel_rfl) ⟨_, rfl, rfl⟩ rfl rfl hC (fun w hC => y_move rfl) fun a hs => ?_
        refine h_t hs 9 rfl (by kernel_rfl) ⟨_, rfl, rfl⟩ rfl rfl hC (fun w hC => y_move rfl) fun a hs => ?_
        refine h_t hs 10 rfl (by kernel_rfl) ⟨_, rfl, rfl⟩ rfl rfl hC (fun w hC => y_indexAt Try.runUnderlying27 Try.sizeOf46 rfl rfl h1733.1 h1733.2 h1734) fun a hs => ?_
        refine h_t hs 11 rfl (by kernel_rfl) ⟨_, rfl, rfl⟩ rfl rfl hC (fun w hC => y_fieldAddr (o' := q1736 + 0) Try.runUnderlying46 rfl Try.sizeOf3 rfl rfl rfl) fun a hs => ?_
        refine h_t hs 12 rfl (by kernel_rfl) ⟨_, rfl, rfl⟩ rfl rfl hC (fun w hC => y_loadQ1 (j := 0) (hC.ownAt 1 rfl) rfl Try.isAgg3 h1738 rfl) fun a hs => ?_
        refine h_t hs 13 rfl (by kernel_rfl) ⟨_, rfl, rfl⟩ rfl rfl hC (fun w hC => y_move rfl) fun a hs => ?_
        refine h_t hs 14 rfl (by kernel_rfl) ⟨_, rfl, rfl⟩ rfl rfl hC (fun w hC => y_move rfl) fun a hs => ?_
        refine h_t hs 15 rfl (by kernel_rfl) ⟨_, rfl, rfl⟩ rfl rfl hC (fun w hC => y_indexAt Try.runUnderlying27 Try.sizeOf46 rfl rfl h1742.1 h1742.2 h1743) fun a hs => ?_
        refine h_t hs 16 rfl (by kernel_rfl) ⟨_, rfl, rfl⟩ rfl rfl hC (fun w hC => y_fieldAddr (o' := q1745 + 1) Try.runUnderlying46 rfl Try.sizeOf3 rfl rfl rfl) fun a hs => ?_
        refine h_t hs 17 rfl (by kernel_rfl) ⟨_, rfl, rfl⟩ rfl rfl hC (fun w hC => y_loadQ1 (j := 1) (hC.ownAt 0 rfl) rfl Try.isAgg3 h1747 rfl) fun a hs => ?_
        refine h_t hs 18 rfl (by kernel_rfl) ⟨_, rfl, rfl⟩ rfl rfl hC (fun w hC => y_geq rfl rfl) fun a hs => ?_
        refine h_g hs 19 rfl (by kernel_rfl) rfl rfl hC rfl (fun w hC => y_pickFE (v := .bool c1725) rfl rfl (vbs h1729)) fun a hs => ?_
        refine h_done (by kernel_rfl) ?_
        exact ⟨Sv1514, (hs.wk rfl), (hw.ft [0, 1, 2] [0, 1, 2] (by decide) rfl rfl)⟩
      ·rintro a w ⟨Sv1726, hs, hw⟩
       refine then_normal ?_
       refine wp_cond_split (hs.ev rfl) (fun h1749 => ?_) (fun h1749 => ?_)
       ·have hsh := ite_t hsh h1749
        refine wp_exit ?_
        refine then_exit ?_
        refine blk_exit ?_
        refine then_normal ?_
        exact ⟨sv1336.1, sv1336.2.1, c1511, p1512, k1513, Sv1726, hsh, (hs.wk rfl), (hw.ft [0, 1, 2] [0, 1, 2] (by decide) rfl rfl)⟩
       ·have hsh := ite_f hsh h1749
        refine wp_skip ?_
        refine then_normal ?_
        refine wp_seq ?_
        refine wp_seq ?_
        refine wp_region_lit ?_
        refine st_val hs (y_move rfl) trivial rfl rfl fun a hs => ?_
        refine st_val hs (y_move rfl) trivial rfl rfl fun a hs => ?_
        obtain ⟨x1752, h1750, hsh⟩ := bind_t hsh
        obtain ⟨q1756, c1757, h1753, h1754, h1758, h1751⟩ := hw.elemRK (α := Span) 1 rfl 1 rfl h1750
        obtain ⟨_, _, rfl, rfl, rfl⟩ := h1751
        refine st_val hs (y_indexAt Try.runUnderlying27 Try.sizeOf46 rfl rfl h1753.1 h1753.2 h1754) trivial rfl rfl fun a hs => ?_
        refine st_val hs (y_fieldAddr (o' := q1756 + 0) Try.runUnderlying46 rfl Try.sizeOf3 rfl rfl rfl) trivial rfl rfl fun a hs => ?_
        refine st_val hs (y_loadQ1 (j := 0) (hw.ownAt 1 rfl) rfl Try.isAgg3 h1758 rfl) trivial rfl rfl fun a hs => ?_
        refine st_val hs (y_move rfl) trivial rfl rfl fun a hs => ?_
        refine st_val hs (y_gtr rfl rfl) trivial rfl rfl fun a hs => ?_
        refine wpList_nil ?_
        refine then_normal ?_
        refine wp_join (fun a w => ∃ (out1780 : (List Span)) (c1776 : List Value) (p1777 : Option Addr) (k1778 : Nat) (Sv1779 : Nat → Prop), ref08_Minus_j2 rv21 sv1336 out1780 = some tv1601 ∧ Sl 94 [(5, .slice (some ⟨b1332, 0, none⟩) rv10.length k12), (6, .slice (some ⟨b1703, 0, none⟩) rv21.length k23), (7, .slice p1777 out1780.length k1778), (8, .int .i64 sv31.2), (9, .int .i64 sv1336.2.1), (10, .int .i64 sv1336.2.2)] a ∧ Wd ⟨w0, S0, []⟩ Sv1779 [.row (some ⟨b1332, 0, none⟩) rv10.length k12 c14 46 2, .row (some ⟨b1703, 0, none⟩) rv21.length k23 c25 46 2, .row p1777 out1780.length k1778 c1776 46 2] [RowA c14 rv10, RowA c25 rv21, RowA c1776 out1780] w) ?_ ?_
        ·refine wp_cond_split (hs.ev rfl) (fun h1792 => ?_) (fun h1792 => ?_)
         ·have hsh := ite_t hsh h1792
          refine wp_region_lit ?_
          refine st_val hs (y_move rfl) trivial rfl rfl fun a hs => ?_
          refine st_val hs (y_move rfl) trivial rfl rfl fun a hs => ?_
          refine st_val hs (y_move rfl) trivial rfl rfl fun a hs => ?_
          refine st_val hs (y_move rfl) trivial rfl rfl fun a hs => ?_
          obtain ⟨x1795, h1793, hsh⟩ := bind_t hsh
          obtain ⟨q1799, c1800, h1796, h1797, h1801, h1794⟩ := hw.elemRK (α := Span) 1 rfl 1 rfl h1793
          obtain ⟨_, _, rfl, rfl, rfl⟩ := h1794
          refine st_val hs (y_indexAt Try.runUnderlying27 Try.sizeOf46 rfl rfl h1796.1 h1796.2 h1797) trivial rfl rfl fun a hs => ?_
          refine st_val hs (y_fieldAddr (o' := q1799 + 0) Try.runUnderlying46 rfl Try.sizeOf3 rfl rfl rfl) trivial rfl rfl fun a hs => ?_
          refine st_val hs (y_loadQ1 (j := 0) (hw.ownAt 1 rfl) rfl Try.isAgg3 h1801 rfl) trivial rfl rfl fun a hs => ?_
          refine st_val hs (y_build (vs := [(0, .int .i64 sv1336.2.1), (1, .int .i64 x1795.From)]) Bld46 rfl rfl) trivial rfl rfl fun a hs => ?_
          refine w_litSlice (α := Span) (vs := [.agg #[.int .i64 sv1336.2.1, .int .i64 x1795.From]]) (cs := [.int .i64 sv1336.2.1, .int .i64 x1795.From]) (xs := ([(⟨sv1336.2.1, x1795.From⟩ : Span)] : List Span)) hs hw El27 rfl rfl rfl rfl rfl rfl ⟨⟨_, _, rfl, rfl, rfl⟩, rfl⟩ rfl trivial rfl fun b1803 a w hs hw => ?_
          obtain ⟨l1805, h1804, hsh⟩ := bind_t hsh
          refine w_appendR (α := Span) hs hw El27 3 rfl rfl rfl 3 rfl 0 rfl 0 rfl h1804 rfl trivial ?_
          intro p1806 k1807 c1808 a w hs hw
          refine st_val hs (y_assign rfl) trivial rfl rfl fun a hs => ?_
          refine wpList_nil ?_
          refine then_normal ?_
          exact ⟨l1805, c1808, p1806, k1807, Sv1726, hsh, (hs.wk rfl), (hw.ft [1, 2, 3] [2, 3, 0] (by decide) rfl rfl)⟩
         ·have hsh := ite_f hsh h1792
          refine wp_skip ?_
          refine then_normal ?_
          exact ⟨sv1336.1, c1511, p1512, k1513, Sv1726, hsh, (hs.wk rfl), (hw.ft [0, 1, 2] [0, 1, 2] (by decide) rfl rfl)⟩
        ·rintro a w ⟨out1780, c1776, p1777, k1778, Sv1779, hsh, hs, hw⟩
         delta ref08_Minus_j2 at hsh
         refine then_normal ?_
         refine wp_region_lit ?_
         refine st_val hs (y_move rfl) trivial rfl rfl fun a hs => ?_
         refine st_val hs (y_move rfl) trivial rfl rfl fun a hs => ?_
         refine st_val hs (y_move rfl) trivial rfl rfl fun a hs => ?_
         obtain ⟨x1783, h1781, hsh⟩ := bind_t hsh
         obtain ⟨q1787, c1788, h1784, h1785, h1789, h1782⟩ := hw.elemRK (α := Span) 1 rfl 1 rfl h1781
         obtain ⟨_, _, rfl, rfl, rfl⟩ := h1782
         refine st_val hs (y_indexAt Try.runUnderlying27 Try.sizeOf46 rfl rfl h1784.1 h1784.2 h1785) trivial rfl rfl fun a hs => ?_
         refine st_val hs (y_fieldAddr (o' := q1787 + 1) Try.runUnderlying46 rfl Try.sizeOf3 rfl rfl rfl) trivial rfl rfl fun a hs => ?_
         refine st_val hs (y_loadQ1 (j := 1) (hw.ownAt 1 rfl) rfl Try.isAgg3 h1789 rfl) trivial rfl rfl fun a hs => ?_
         refine st_val hs (y_max rfl rfl) trivial rfl rfl fun a hs => ?_
         obtain ⟨fromv1791, h1790, hsh⟩ := bind_t hsh
         refine st_val hs (y_assignI rfl h1790) trivial rfl rfl fun a hs => ?_
         refine wpList_nil ?_
         refine blk_normal ?_
         refine then_normal ?_
         exact ⟨out1780, fromv1791, c1776, p1777, k1778, Sv1779, hsh, (hs.wk rfl), (hw.ft [0, 1, 2] [0, 1, 2] (by decide) rfl rfl)⟩
     ·rintro a w ⟨out1690, fromv1691, c1686, p1687, k1688, Sv1689, hsh, hs, hw⟩
      delta ref08_Minus_j1 at hsh
      refine then_normal ?_
      refine wp_region_lit ?_
      refine st_val hs (y_move rfl) trivial rfl rfl fun a hs => ?_
      refine st_val hs (y_add rfl rfl) trivial rfl rfl fun a hs => ?_
      obtain ⟨k1693, h1692, hsh⟩ := bind_t hsh
      refine st_val hs (y_assignI rfl h1692) trivial rfl rfl fun a hs => ?_
      refine wpList_nil ?_
      refine then_normal ?_
      exact ⟨_, (Option.some.inj hsh).symm, c1686, p1687, k1688, Sv1689, (hs.wk rfl), (hw.ft [0, 1, 2] [0, 1, 2] (by decide) rfl rfl)⟩
    ·have hsh := ite_f hsh h1609
     refine wp_exit ?_
     refine then_exit ?_
     refine then_exit ?_
     refine blk_exit ?_
     have hsh := Option.some.inj hsh
     subst hsh
     have h1809 := hd1600 _ rfl
     subst h1809
     refine then_normal ?_
     exact ⟨c1511, p1512, k1513, Sv1514, (hs.wk rfl), (hw.ft [0, 1, 2] [0, 1, 2] (by decide) rfl rfl)⟩
   ·rintro a w ⟨c1604, p1605, k1606, Sv1607, hs, hw⟩
    refine then_normal ?_
    refine wp_seq ?_
    refine wp_region_lit ?_
    refine st_val hs (y_move rfl) trivial rfl rfl fun a hs => ?_
    refine st_val hs (y_move rfl) trivial rfl rfl fun a hs => ?_
    refine st_val hs (y_move rfl) trivial rfl rfl fun a hs => ?_
    obtain ⟨x1812, h1810, hsh⟩ := bind_t hsh
    obtain ⟨q1816, c1817, h1813, h1814, h1818, h1811⟩ := hw.elemRK (α := Span) 0 rfl 0 rfl h1810
    obtain ⟨_, _, rfl, rfl, rfl⟩ := h1811
    refine st_val hs (y_indexAt Try.runUnderlying27 Try.sizeOf46 rfl rfl h1813.1 h1813.2 h1814) trivial rfl rfl fun a hs => ?_
    refine st_val hs (y_fieldAddr (o' := q1816 + 1) Try.runUnderlying46 rfl Try.sizeOf3 rfl rfl rfl) trivial rfl rfl fun a hs => ?_
    refine st_val hs (y_loadQ1 (j := 1) (hw.ownAt 0 rfl) rfl Try.isAgg3 h1818 rfl) trivial rfl rfl fun a hs => ?_
    refine st_val hs (y_lss rfl rfl) trivial rfl rfl fun a hs => ?_
    refine wpList_nil ?_
    refine then_normal ?_
    refine wp_join (fun a w => ∃ (out1840 : (List Span)) (c1836 : List Value) (p1837 : Option Addr) (k1838 : Nat) (Sv1839 : Nat → Prop), ref08_Minus_j4 sv31 out1840 = some tv998 ∧ Sl 94 [(5, .slice (some ⟨b1332, 0, none⟩) rv10.length k12), (6, .slice p22 rv21.length k23), (7, .slice p1837 out1840.length k1838), (8, .int .i64 sv31.2)] a ∧ Wd ⟨w0, S0, []⟩ Sv1839 [.row (some ⟨b1332, 0, none⟩) rv10.length k12 c14 46 2, .row p22 rv21.length k23 c25 46 2, .row p1837 out1840.length k1838 c1836 46 2] [RowA c14 rv10, RowA c25 rv21, RowA c1836 out1840] w) ?_ ?_
    ·refine wp_cond_split (hs.ev rfl) (fun h1843 => ?_) (fun h1843 => ?_)
     ·have hsh := ite_t hsh h1843
      refine wp_region_lit ?_
      refine st_val hs (y_move rfl) trivial rfl rfl fun a hs => ?_
      refine st_val hs (y_move rfl) trivial rfl rfl fun a hs => ?_
      refine st_val hs (y_move rfl) trivial rfl rfl fun a hs => ?_
      refine st_val hs (y_move rfl) trivial rfl rfl fun a hs => ?_
      obtain ⟨x1846, h1844, hsh⟩ := bind_t hsh
      obtain ⟨q1850, c1851, h1847, h1848, h1852, h1845⟩ := hw.elemRK (α := Span) 0 rfl 0 rfl h1844
      obtain ⟨_, _, rfl, rfl, rfl⟩ := h1845
      refine st_val hs (y_indexAt Try.runUnderlying27 Try.sizeOf46 rfl rfl h1847.1 h1847.2 h1848) trivial rfl rfl fun a hs => ?_
      refine st_val hs (y_fieldAddr (o' := q1850 + 1) Try.runUnderlying46 rfl Try.sizeOf3 rfl rfl rfl) trivial rfl rfl fun a hs => ?_
      refine st_val hs (y_loadQ1 (j := 1) (hw.ownAt 0 rfl) rfl Try.isAgg3 h1852 rfl) trivial rfl rfl fun a hs => ?_
      refine st_val hs (y_build (vs := [(0, .int .i64 e1603.2), (1, .int .i64 x1846.To)]) Bld46 rfl rfl) trivial rfl rfl fun a hs => ?_
      refine w_litSlice (α := Span) (vs := [.agg #[.int .i64 e1603.2, .int .i64 x1846.To]]) (cs := [.int .i64 e1603.2, .int .i64 x1846.To]) (xs := ([(⟨e1603.2, x1846.To⟩ : Span)] : List Span)) hs hw El27 rfl rfl rfl rfl rfl rfl ⟨⟨_, _, rfl, rfl, rfl⟩, rfl⟩ rfl trivial rfl fun b1854 a w hs hw => ?_
      obtain ⟨l1856, h1855, hsh⟩ := bind_t hsh
      refine w_appendR (α := Span) hs hw El27 3 rfl rfl rfl 3 rfl 0 rfl 0 rfl h1855 rfl trivial ?_
      intro p1857 k1858 c1859 a w hs hw
      refine st_val hs (y_assign rfl) trivial rfl rfl fun a hs => ?_
      refine wpList_nil ?_
      refine then_normal ?_
      exact ⟨l1856, c1859, p1857, k1858, Sv1607, hsh, (hs.wk rfl), (hw.ft [1, 2, 3] [2, 3, 0] (by decide) rfl rfl)⟩
     ·have hsh := ite_f hsh h1843
      refine wp_skip ?_
      refine then_normal ?_
      exact ⟨e1603.1, c1604, p1605, k1606, Sv1607, hsh, (hs.wk rfl), (hw.ft [0, 1, 2] [0, 1, 2] (by decide) rfl rfl)⟩
    ·rintro a w ⟨out1840, c1836, p1837, k1838, Sv1839, hsh, hs, hw⟩
     delta ref08_Minus_j4 at hsh
     refine blk_normal ?_
     refine then_normal ?_
     refine wp_region_lit ?_
     refine st_val hs (y_move rfl) trivial rfl rfl fun a hs => ?_
     refine st_val hs (y_add rfl rfl) trivial rfl rfl fun a hs => ?_
     obtain ⟨i1842, h1841, hsh⟩ := bind_t hsh
     refine st_val hs (y_assignI rfl h1841) trivial rfl rfl fun a hs => ?_
     refine wpList_nil ?_
     refine then_normal ?_
     exact ⟨_, (Option.some.inj hsh).symm, c1836, p1837, k1838, Sv1839, (hs.wk rfl), (hw.ft [0, 1, 2] [0, 1, 2] (by decide) rfl rfl)⟩
  ·have hsh := ite_f hsh h1006
   refine wp_exit ?_
   refine then_exit ?_
   refine then_exit ?_
   refine blk_exit ?_
   have hsh := Option.some.inj hsh
   subst hsh
   have h1861 := hd997 _ rfl
   subst h1861
   refine then_normal ?_
   exact ⟨c674, p675, k676, Sv677, (hs.wk rfl), (hw.ft [2] [2] (by decide) rfl rfl)⟩
 ·rintro a w ⟨c1001, p1002, k1003, Sv1004, hs, hw⟩
  refine then_normal ?_
  refine wp_seq ?_
  refine wp_region_lit ?_
  refine st_val hs (y_move rfl) trivial rfl rfl fun a hs => ?_
  refine st_val hs (y_assign rfl) trivial rfl rfl fun a hs => ?_
  refine wpList_nil ?_
  refine then_normal ?_
  have hsh := Option.some.inj hsh
  subst hsh
  refine wp_ret ?_
  exact ret1 hs rfl (rv_tmp rfl) (hw.ret ⟨p1002, k1003, c1001, rfl, (hw.outs [0] (by decide) rfl), (hw.envAt 0 rfl)⟩)

abbrev ref08_Meet_rd (w0 : World) (X : List Nat) (r : (List Span)) : (Nat → Prop) → World → Value → Prop := fun S w v => ∃ (p0_0 : Option Addr) (k0_0 : Nat) (c0_0 : List Value), v = .slice p0_0 r.length k0_0 ∧ Outs X w0 S w [.row p0_0 r.length k0_0 c0_0 46 2] ∧ (RowA c0_0 r).p S w
set_option maxHeartbeats 4000000 in
set_option maxRecDepth 100000 in
theorem ref08_Meet_ok {w0 : World} {S0 : Nat → Prop} {p2 : Option Addr} {k3 : Nat} {p6 : Option Addr} {k7 : Nat} {a1 : (List Span)} {b5 : (List Span)} {r : (List Span)} (hsh : ref08_Meet a1 b5 = some r) (hS : ∀ b, S0 b → b < w0.heap.size) (h4 : (SlA p2 a1.length k3 a1).p S0 w0) (h8 : (SlA p6 b5.length k7 b5).p S0 w0) : Calls Try.prog 50 #[.slice p2 a1.length k3, .slice p6 b5.length k7] w0 (Ret ([]) w0 S0 (ref08_Meet_rd w0 ([]) r)) := by
 refine calls_of_wp Try.func50 rfl ?_
 have hs := Sl.enter #[.slice p2 a1.length k3, .slice p6 b5.length k7] 61 [(0, .slice p2 a1.length k3), (1, .slice p6 b5.length k7)] rfl ⟨rfl, rfl, trivial⟩
 have hw := Wd.enter (E := []) hS (fun _ h => (by cases h))
 have hw := hw.addE h4
 have hw := hw.addE h8
 delta ref08_Meet at hsh
 refine wp_seq ?_
 refine wp_region_lit ?_
 refine st_val hs (y_assign rfl) trivial rfl rfl fun a hs => ?_
 refine wpList_nil ?_
 refine then_normal ?_
 refine wp_seq ?_
 refine wp_region_lit ?_
 refine st_val hs (y_move rfl) trivial rfl rfl fun a hs => ?_
 obtain ⟨rv10, h9, hsh⟩ := bind_t hsh
 refine st_callR hs (ref08_Normal_ok h9 hw.dom (hw.envAt 1 rfl)) (do_call Try.call51 rfl) trivial rfl rfl ?_
 intro v18 Sv15 w a h16 h17 hs
 obtain ⟨p11, k12, c14, rfl, h19, h13⟩ := h17
 have hw := hw.callN h16 h19
 have hw := hw.addE (e := RowA c14 rv10) h13
 refine st_val hs (y_move rfl) trivial rfl rfl fun a hs => ?_
 obtain ⟨rv21, h20, hsh⟩ := bind_t hsh
 refine st_callR hs (ref08_Normal_ok h20 hw.dom (hw.envAt 1 rfl)) (do_call Try.call51 rfl) trivial rfl rfl ?_
 intro v29 Sv26 w a h27 h28 hs
 obtain ⟨p22, k23, c25, rfl, h30, h24⟩ := h28
 have hw := hw.callN h27 h30
 have hw := hw.addE (e := RowA c25 rv21) h24
 refine st_val hs (y_assign rfl) trivial rfl rfl fun a hs => ?_
 refine st_val hs (y_assign rfl) trivial rfl rfl fun a hs => ?_
 refine wpList_nil ?_
 refine then_normal ?_
 refine wp_seq ?_
 refine wp_region_lit ?_
 refine st_val hs (y_assign rfl) trivial rfl rfl fun a hs => ?_
 refine wpList_nil ?_
 refine then_normal ?_
 refine wp_seq ?_
 refine wp_seq ?_
 refine wp_region_lit ?_
 refine st_val hs (y_assign rfl) trivial rfl rfl fun a hs => ?_
 refine wpList_nil ?_
 refine then_normal ?_
 obtain ⟨e661, h1221, hsh⟩ := bind_t hsh
 refine wp_join (fun a w => ∃ (c662 : List Value) (p663 : Option Addr) (k664 : Nat) (Sv665 : Nat → Prop), Sl 61 [(7, .slice p663 e661.length k664)] a ∧ Wd ⟨w0, S0, []⟩ Sv665 [.row p663 e661.length k664 c662 46 2] [RowA c662 e661] w) ?_ ?_
 ·refine wp_block ?_
  have hw := hw.nilRow Span 46
  refine wp_while (fun sv31 a w => ∃ (c448 : List Value) (p449 : Option Addr) (k450 : Nat) (Sv451 : Nat → Prop), Sl 61 [(5, .slice p11 rv10.length k12), (6, .slice p22 rv21.length k23), (7, .slice p449 sv31.1.length k450), (8, .int .i64 sv31.2)] a ∧ Wd ⟨w0, S0, []⟩ Sv451 [.row p11 rv10.length k12 c14 46 2, .row p22 rv21.length k23 c25 46 2, .row p449 sv31.1.length k450 c448 46 2] [RowA c14 rv10, RowA c25 rv21, RowA c448 sv31.1] w) (([] : List Span), 0) h1221 ⟨[], none, 0, Sv26, (hs.wk rfl), (hw.ft [2, 1, 0] [2, 1, 0] (by decide) rfl rfl)⟩ ?_
  clear h1221
  repeat clear hsh
  rintro sv31 a w tv659 ⟨c448, p449, k450, Sv451, hs, hw⟩ hsh hd658
  delta ref08_Meet_l3 at hsh
  refine wp_seq ?_
  refine wp_seq ?_
  refine wp_region_lit ?_
  refine st_val hs (y_move rfl) trivial rfl rfl fun a hs => ?_
  refine st_val hs (y_move rfl) trivial rfl rfl fun a hs => ?_
  refine st_val hs (y_len Try.runUnderlying27 rfl) trivial rfl rfl fun a hs => ?_
  refine st_val hs (y_lss rfl rfl) trivial rfl rfl fun a hs => ?_
  refine wpList_nil ?_
  refine then_normal ?_
  refine wp_cond_split (hs.ev rfl) (fun h667 => ?_) (fun h667 => ?_)
  ·have hsh := ite_t hsh h667
   refine wp_skip ?_
   refine then_normal ?_
   refine wp_seq ?_
   refine wp_block ?_
   refine wp_seq ?_
   refine wp_region_lit ?_
   refine st_val hs (y_assign rfl) trivial rfl rfl fun a hs => ?_
   refine wpList_nil ?_
   refine then_normal ?_
   obtain ⟨e1069, h1207, hsh⟩ := bind_t hsh
   refine wp_join (fun a w => ∃ (c1070 : List Value) (p1071 : Option Addr) (k1072 : Nat) (Sv1073 : Nat → Prop), Sl 61 [(5, .slice p11 rv10.length k12), (6, .slice p22 rv21.length k23), (7, .slice p1071 e1069.length k1072), (8, .int .i64 sv31.2)] a ∧ Wd ⟨w0, S0, []⟩ Sv1073 [.row p11 rv10.length k12 c14 46 2, .row p22 rv21.length k23 c25 46 2, .row p1071 e1069.length k1072 c1070 46 2] [RowA c14 rv10, RowA c25 rv21, RowA c1070 e1069] w) ?_ ?_
   ·refine wp_block ?_
    refine wp_while (fun sv871 a w => ∃ (c1000 : List Value) (p1001 : Option Addr) (k1002 : Nat) (Sv1003 : Nat → Prop), Sl 61 [(5, .slice p11 rv10.length k12), (6, .slice p22 rv21.length k23), (7, .slice p1001 sv871.1.length k1002), (8, .int .i64 sv31.2), (9, .int .i64 sv871.2)] a ∧ Wd ⟨w0, S0, []⟩ Sv1003 [.row p11 rv10.length k12 c14 46 2, .row p22 rv21.length k23 c25 46 2, .row p1001 sv871.1.length k1002 c1000 46 2] [RowA c14 rv10, RowA c25 rv21, RowA c1000 sv871.1] w) (sv31.1, 0) h1207 ⟨c448, p449, k450, Sv451, (hs.wk rfl), (hw.ft [0, 1, 2] [0, 1, 2] (by decide) rfl rfl)⟩ ?_
    clear h1207
    repeat clear hsh
    rintro sv871 a w tv1067 ⟨c1000, p1001, k1002, Sv1003, hs, hw⟩ hsh hd1066
    delta ref08_Meet_l6 at hsh
    refine wp_seq ?_
    refine wp_seq ?_
    refine wp_region_lit ?_
    refine st_val hs (y_move rfl) trivial rfl rfl fun a hs => ?_
    refine st_val hs (y_move rfl) trivial rfl rfl fun a hs => ?_
    refine st_val hs (y_len Try.runUnderlying27 rfl) trivial rfl rfl fun a hs => ?_
    refine st_val hs (y_lss rfl rfl) trivial rfl rfl fun a hs => ?_
    refine wpList_nil ?_
    refine then_normal ?_
    refine wp_cond_split (hs.ev rfl) (fun h1075 => ?_) (fun h1075 => ?_)
    ·have hsh := ite_t hsh h1075
     refine wp_skip ?_
     refine then_normal ?_
     refine wp_seq ?_
     refine wp_block ?_
     refine wp_seq ?_
     obtain ⟨x1137, h1135, hsh⟩ := bind_t hsh
     obtain ⟨b1144, q1141, c1142, h1145, h1138, h1139, h1143, h1136⟩ := hw.elemRV (α := Span) 0 rfl 0 rfl h1135
     have hsv1146 := hs
     have hwv1147 := hw
     subst h1145
     have hs := hsv1146
     have hw := hwv1147
     obtain ⟨_, _, rfl, rfl, rfl⟩ := h1136
     obtain ⟨x1150, h1148, hsh⟩ := bind_t hsh
     obtain ⟨b1157, q1154, c1155, h1158, h1151, h1152, h1156, h1149⟩ := hw.elemRV (α := Span) 1 rfl 1 rfl h1148
     have hsv1159 := hs
     have hwv1160 := hw
     subst h1158
     have hs := hsv1159
     have hw := hwv1160
     obtain ⟨_, _, rfl, rfl, rfl⟩ := h1149
     obtain ⟨x1163, h1161, hsh⟩ := bind_t hsh
     obtain ⟨q1167, c1168, h1164, h1165, h1169, h1162⟩ := hw.elemRK (α := Span) 0 rfl 0 rfl h1161
     obtain ⟨_, _, rfl, rfl, rfl⟩ := h1162
     obtain ⟨x1172, h1170, hsh⟩ := bind_t hsh
     obtain ⟨q1176, c1177, h1173, h1174, h1178, h1171⟩ := hw.elemRK (α := Span) 1 rfl 1 rfl h1170
     obtain ⟨_, _, rfl, rfl, rfl⟩ := h1171
     refine wp_only (fun a w => ∃ (Sv1180 : Nat → Prop) (b1179 : Nat), Sl 61 [(5, .slice (some ⟨b1144, 0, none⟩) rv10.length k12), (6, .slice (some ⟨b1157, 0, none⟩) rv21.length k23), (7, .slice p1001 sv871.1.length k1002), (8, .int .i64 sv31.2), (9, .int .i64 sv871.2), (10, .pointer (some ⟨b1179, 0, none⟩))] a ∧ Wd ⟨w0, S0, []⟩ Sv1180 [.box b1179 [.int .i64 (max x1137.From x1150.From), .int .i64 (min x1163.To x1172.To)] 46, .row (some ⟨b1144, 0, none⟩) rv10.length k12 c14 46 2, .row (some ⟨b1157, 0, none⟩) rv21.length k23 c25 46 2, .row p1001 sv871.1.length k1002 c1000 46 2] [RowA c14 rv10, RowA c25 rv21, RowA c1000 sv871.1] w) ?_ ?_
     ·refine h_b (C := Cls [.row (some ⟨b1144, 0, none⟩) rv10.length k12 c14 46 2, .row (some ⟨b1157, 0, none⟩) rv21.length k23 c25 46 2, .row p1001 sv871.1.length k1002 c1000 46 2] []) (by kernel_rfl) rfl (hw.drew.cs [0, 1, 2] [] rfl rfl) fun hC => ?_
      have hw := hw.drew
      refine h_g hs 0 rfl (by kernel_rfl) rfl rfl hC rfl (fun w hC => y_move rfl) fun a hs => ?_
      refine h_g hs 1 rfl (by kernel_rfl) rfl rfl hC rfl (fun w hC => y_move rfl) fun a hs => ?_
      refine h_g hs 2 rfl (by kernel_rfl) rfl rfl hC rfl (fun w hC => y_indexAt Try.runUnderlying27 Try.sizeOf46 rfl rfl h1138.1 h1138.2 h1139) fun a hs => ?_
      refine h_g hs 3 rfl (by kernel_rfl) rfl rfl hC rfl (fun w hC => y_fieldAddr (o' := q1141 + 0) Try.runUnderlying46 rfl Try.sizeOf3 rfl rfl rfl) fun a hs => ?_
      refine h_g hs 4 rfl (by kernel_rfl) rfl rfl hC rfl (fun w hC => y_loadQ1 (j := 0) (hC.ownAt 0 rfl) rfl Try.isAgg3 h1143 rfl) fun a hs => ?_
      refine h_g hs 5 rfl (by kernel_rfl) rfl rfl hC rfl (fun w hC => y_move rfl) fun a hs => ?_
      refine h_g hs 6 rfl (by kernel_rfl) rfl rfl hC rfl (fun w hC => y_move rfl) fun a hs => ?_
      refine h_g hs 7 rfl (by kernel_rfl) rfl rfl hC rfl (fun w hC => y_indexAt Try.runUnderlying27 Try.sizeOf46 rfl rfl h1151.1 h1151.2 h1152) fun a hs => ?_
      refine h_g hs 8 rfl (by kernel_rfl) rfl rfl hC rfl (fun w hC => y_fieldAddr (o' := q1154 + 0) Try.runUnderlying46 rfl Try.sizeOf3 rfl rfl rfl) fun a hs => ?_
      refine h_g hs 9 rfl (by kernel_rfl) rfl rfl hC rfl (fun w hC => y_loadQ1 (j := 0) (hC.ownAt 1 rfl) rfl Try.isAgg3 h1156 rfl) fun a hs => ?_
      refine h_g hs 10 rfl (by kernel_rfl) rfl rfl hC rfl (fun w hC => y_max rfl rfl) fun a hs => ?_
      refine h_g hs 11 rfl (by kernel_rfl) rfl rfl hC rfl (fun w hC => y_move rfl) fun a hs => ?_
      refine h_g hs 12 rfl (by kernel_rfl) rfl rfl hC rfl (fun w hC => y_move rfl) fun a hs => ?_
      refine h_g hs 13 rfl (by kernel_rfl) rfl rfl hC rfl (fun w hC => y_indexAt Try.runUnderlying27 Try.sizeOf46 rfl rfl h1164.1 h1164.2 h1165) fun a hs => ?_
      refine h_g hs 14 rfl (by kernel_rfl) rfl rfl hC rfl (fun w hC => y_fieldAddr (o' := q1167 + 1) Try.runUnderlying46 rfl Try.sizeOf3 rfl rfl rfl) fun a hs => ?_
      refine h_g hs 15 rfl (by kernel_rfl) rfl rfl hC rfl (fun w hC => y_loadQ1 (j := 1) (hC.ownAt 0 rfl) rfl Try.isAgg3 h1169 rfl) fun a hs => ?_
      refine h_g hs 16 rfl (by kernel_rfl) rfl rfl hC rfl (fun w hC => y_move rfl) fun a hs => ?_
      refine h_g hs 17 rfl (by kernel_rfl) rfl rfl hC rfl (fun w hC => y_move rfl) fun a hs => ?_
      refine h_g hs 18 rfl (by kernel_rfl) rfl rfl hC rfl (fun w hC => y_indexAt Try.runUnderlying27 Try.sizeOf46 rfl rfl h1173.1 h1173.2 h1174) fun a hs => ?_
      refine h_g hs 19 rfl (by kernel_rfl) rfl rfl hC rfl (fun w hC => y_fieldAddr (o' := q1176 + 1) Try.runUnderlying46 rfl Try.sizeOf3 rfl rfl rfl) fun a hs => ?_
      refine h_g hs 20 rfl (by kernel_rfl) rfl rfl hC rfl (fun w hC => y_loadQ1 (j := 1) (hC.ownAt 1 rfl) rfl Try.isAgg3 h1178 rfl) fun a hs => ?_
      refine h_g hs 21 rfl (by kernel_rfl) rfl rfl hC rfl (fun w hC => y_min rfl rfl) fun a hs => ?_
      refine h_g hs 22 rfl (by kernel_rfl) rfl rfl hC rfl (fun w hC => y_build (vs := [(0, .int .i64 (max x1137.From x1150.From)), (1, .int .i64 (min x1163.To x1172.To))]) Bld46 rfl rfl) fun a hs => ?_
      refine h_one (i := 23) (by kernel_rfl) rfl ?_
      refine w_alloc (cs := [.int .i64 0, .int .i64 0]) hs hw Try.zeroValue46 rfl rfl trivial ?_
      intro b1179 a w hs hw
      refine h_nx (hw.cs [1, 2, 3] [] rfl rfl) fun hC => ?_
      refine h_one (i := 24) (by kernel_rfl) rfl ?_
      refine w_store (m := 2) (cs' := [.int .i64 (max x1137.From x1150.From), .int .i64 (min x1163.To x1172.To)]) hs hw 0 rfl rfl rfl Try.sizeOf46 rfl rfl rfl rfl trivial ?_
      intro a w hs hw
      refine h_nx (hw.cs [1, 2, 3] [] rfl rfl) fun hC => ?_
      refine h_done (by kernel_rfl) ?_
      exact ⟨Sv1003, b1179, (hs.wk rfl), (hw.ft [0, 1, 2, 3] [0, 1, 2] (by decide) rfl rfl)⟩
     ·rintro a w ⟨Sv1180, b1179, hs, hw⟩
      refine then_normal ?_
      refine wp_seq ?_
      refine wp_region_lit ?_
      refine st_val hs (y_fieldAddr (o' := 0) Try.runUnderlying46 rfl Try.sizeOf3 rfl rfl rfl) trivial rfl rfl fun a hs => ?_
      refine st_val hs (y_loadB1 (hw.ownAt 0 rfl) rfl Try.isAgg3 rfl) trivial rfl rfl fun a hs => ?_
      refine st_val hs (y_fieldAddr (o' := 1) Try.runUnderlying46 rfl Try.sizeOf3 rfl rfl rfl) trivial rfl rfl fun a hs => ?_
      refine st_val hs (y_loadB1 (hw.ownAt 0 rfl) rfl Try.isAgg3 rfl) trivial rfl rfl fun a hs => ?_
      refine st_val hs (y_lss rfl rfl) trivial rfl rfl fun a hs => ?_
      refine wpList_nil ?_
      refine then_normal ?_
      refine wp_join (fun a w => ∃ (out1193 : (List Span)) (c1189 : List Value) (p1190 : Option Addr) (k1191 : Nat) (Sv1192 : Nat → Prop), ref08_Meet_j1 sv871 out1193 = some tv1067 ∧ Sl 61 [(5, .slice (some ⟨b1144, 0, none⟩) rv10.length k12), (6, .slice (some ⟨b1157, 0, none⟩) rv21.length k23), (7, .slice p1190 out1193.length k1191), (8, .int .i64 sv31.2), (9, .int .i64 sv871.2)] a ∧ Wd ⟨w0, S0, []⟩ Sv1192 [.row (some ⟨b1144, 0, none⟩) rv10.length k12 c14 46 2, .row (some ⟨b1157, 0, none⟩) rv21.length k23 c25 46 2, .row p1190 out1193.length k1191 c1189 46 2] [RowA c14 rv10, RowA c25 rv21, RowA c1189 out1193] w) ?_ ?_
      ·refine wp_cond_split (hs.ev rfl) (fun h1196 => ?_) (fun h1196 => ?_)
       ·have hsh := ite_t hsh h1196
        refine wp_region_lit ?_
        refine st_val hs (y_move rfl) trivial rfl rfl fun a hs => ?_
        refine st_val hs (y_loadBA (hw.ownAt 0 rfl) rfl Try.isAgg46 Try.sizeOf46 rfl rfl) trivial rfl rfl fun a hs => ?_
        refine w_litSlice (α := Span) (vs := [.agg #[.int .i64 (max x1137.From x1150.From), .int .i64 (min x1163.To x1172.To)]]) (cs := [.int .i64 (max x1137.From x1150.From), .int .i64 (min x1163.To x1172.To)]) (xs := ([(⟨(max x1137.From x1150.From), (min x1163.To x1172.To)⟩ : Span)] : List Span)) hs hw El27 rfl rfl rfl rfl rfl rfl ⟨⟨_, _, rfl, rfl, rfl⟩, rfl⟩ rfl trivial rfl fun b1198 a w hs hw => ?_
        obtain ⟨l1200, h1199, hsh⟩ := bind_t hsh
        refine w_appendR (α := Span) hs hw El27 4 rfl rfl rfl 3 rfl 0 rfl 0 rfl h1199 rfl trivial ?_
        intro p1201 k1202 c1203 a w hs hw
        refine st_val hs (y_assign rfl) trivial rfl rfl fun a hs => ?_
        refine wpList_nil ?_
        refine then_normal ?_
        exact ⟨l1200, c1203, p1201, k1202, Sv1180, hsh, (hs.wk rfl), (hw.ft [2, 3, 4] [2, 3, 0] (by decide) rfl rfl)⟩
       ·have hsh := ite_f hsh h1196
        refine wp_skip ?_
        refine then_normal ?_
        exact ⟨sv871.1, c1000, p1001, k1002, Sv1180, hsh, (hs.wk rfl), (hw.ft [1, 2, 3] [0, 1, 2] (by decide) rfl rfl)⟩
      ·rintro a w ⟨out1193, c1189, p1190, k1191, Sv1192, hsh, hs, hw⟩
       delta ref08_Meet_j1 at hsh
       refine blk_normal ?_
       refine then_normal ?_
       refine wp_region_lit ?_
       refine st_val hs (y_move rfl) trivial rfl rfl fun a hs => ?_
       refine st_val hs (y_add rfl rfl) trivial rfl rfl fun a hs => ?_
       obtain ⟨k1195, h1194, hsh⟩ := bind_t hsh
       refine st_val hs (y_assignI rfl h1194) trivial rfl rfl fun a hs => ?_
       refine wpList_nil ?_
       refine then_normal ?_
       exact ⟨_, (Option.some.inj hsh).symm, c1189, p1190, k1191, Sv1192, (hs.wk rfl), (hw.ft [0, 1, 2] [0, 1, 2] (by decide) rfl rfl)⟩
    ·have hsh := ite_f hsh h1075
     refine wp_exit ?_
     refine then_exit ?_
     refine then_exit ?_
     refine blk_exit ?_
     have hsh := Option.some.inj hsh
     subst hsh
     have h1204 := hd1066 _ rfl
     subst h1204
     refine then_normal ?_
     exact ⟨c1000, p1001, k1002, Sv1003, (hs.wk rfl), (hw.ft [0, 1, 2] [0, 1, 2] (by decide) rfl rfl)⟩
   ·rintro a w ⟨c1070, p1071, k1072, Sv1073, hs, hw⟩
    refine blk_normal ?_
    refine then_normal ?_
    refine wp_region_lit ?_
    refine st_val hs (y_move rfl) trivial rfl rfl fun a hs => ?_
    refine st_val hs (y_add rfl rfl) trivial rfl rfl fun a hs => ?_
    obtain ⟨i1206, h1205, hsh⟩ := bind_t hsh
    refine st_val hs (y_assignI rfl h1205) trivial rfl rfl fun a hs => ?_
    refine wpList_nil ?_
    refine then_normal ?_
    exact ⟨_, (Option.some.inj hsh).symm, c1070, p1071, k1072, Sv1073, (hs.wk rfl), (hw.ft [0, 1, 2] [0, 1, 2] (by decide) rfl rfl)⟩
  ·have hsh := ite_f hsh h667
   refine wp_exit ?_
   refine then_exit ?_
   refine then_exit ?_
   refine blk_exit ?_
   have hsh := Option.some.inj hsh
   subst hsh
   have h1208 := hd658 _ rfl
   subst h1208
   refine then_normal ?_
   exact ⟨c448, p449, k450, Sv451, (hs.wk rfl), (hw.ft [2] [2] (by decide) rfl rfl)⟩
 ·rintro a w ⟨c662, p663, k664, Sv665, hs, hw⟩
  refine then_normal ?_
  refine wp_seq ?_
  refine wp_region_lit ?_
  refine st_val hs (y_move rfl) trivial rfl rfl fun a hs => ?_
  obtain ⟨rv1210, h1209, hsh⟩ := bind_t hsh
  obtain ⟨Sv1215, hw⟩ := w_share (α := Span) hw 0 rfl 0 rfl
  refine st_callR hs (ref08_Normal_ok h1209 hw.dom (hw.envAt 0 rfl)) (do_call Try.call51 rfl) trivial rfl rfl ?_
  intro v1219 Sv1216 w a h1217 h1218 hs
  obtain ⟨p1211, k1212, c1214, rfl, h1220, h1213⟩ := h1218
  have hw := hw.callN h1217 h1220
  have hw := hw.addE (e := RowA c1214 rv1210) h1213
  refine st_val hs (y_assign rfl) trivial rfl rfl fun a hs => ?_
  refine wpList_nil ?_
  refine then_normal ?_
  have hsh := Option.some.inj hsh
  subst hsh
  refine wp_ret ?_
  exact ret1 hs rfl (rv_tmp rfl) (hw.ret ⟨p1211, k1212, c1214, rfl, (hw.outs [0] (by decide) rfl), (hw.envAt 0 rfl)⟩)

abbrev ref08_Cut_rd (w0 : World) (X : List Nat) (r : (List Span)) : (Nat → Prop) → World → Value → Prop := fun S w v => ∃ (p0_0 : Option Addr) (k0_0 : Nat) (c0_0 : List Value), v = .slice p0_0 r.length k0_0 ∧ Outs X w0 S w [.row p0_0 r.length k0_0 c0_0 46 2] ∧ (RowA c0_0 r).p S w
set_option maxHeartbeats 4000000 in
set_option maxRecDepth 100000 in
theorem ref08_Cut_ok {w0 : World} {S0 : Nat → Prop} {p2 : Option Addr} {k3 : Nat} {l1 : (List Span)} {from5 : Int} {to6 : Int} {r : (List Span)} (hsh : ref08_Cut l1 from5 to6 = some r) (hS : ∀ b, S0 b → b < w0.heap.size) (h4 : (SlA p2 l1.length k3 l1).p S0 w0) : Calls Try.prog 33 #[.slice p2 l1.length k3, .int .i64 from5, .int .i64 to6] w0 (Ret ([]) w0 S0 (ref08_Cut_rd w0 ([]) r)) := by
 refine calls_of_wp Try.func33 rfl ?_
 have hs := Sl.enter #[.slice p2 l1.length k3, .int .i64 from5, .int .i64 to6] 13 [(0, .slice p2 l1.length k3), (1, .int .i64 from5), (2, .int .i64 to6)] rfl ⟨rfl, rfl, rfl, trivial⟩
 have hw := Wd.enter (E := []) hS (fun _ h => (by cases h))
 have hw := hw.addE h4
 delta ref08_Cut at hsh
 refine wp_seq ?_
 refine wp_region_lit ?_
 refine st_val hs (y_assign rfl) trivial rfl rfl fun a hs => ?_
 refine wpList_nil ?_
 refine then_normal ?_
 refine wp_seq ?_
 refine wp_region_lit ?_
 refine st_val hs (y_move rfl) trivial rfl rfl fun a hs => ?_
 refine st_val hs (y_move rfl) trivial rfl rfl fun a hs => ?_
 refine st_val hs (y_move rfl) trivial rfl rfl fun a hs => ?_
 refine st_val hs (y_build (vs := [(0, .int .i64 from5), (1, .int .i64 to6)]) Bld46 rfl rfl) trivial rfl rfl fun a hs => ?_
 refine w_litSlice (α := Span) (vs := [.agg #[.int .i64 from5, .int .i64 to6]]) (cs := [.int .i64 from5, .int .i64 to6]) (xs := ([(⟨from5, to6⟩ : Span)] : List Span)) hs hw El27 rfl rfl rfl rfl rfl rfl ⟨⟨_, _, rfl, rfl, rfl⟩, rfl⟩ rfl trivial rfl fun b8 a w hs hw => ?_
 obtain ⟨rv10, h9, hsh⟩ := bind_t hsh
 obtain ⟨Sv15, hw⟩ := w_share (α := Span) hw 0 rfl 0 rfl
 refine st_callR hs (ref08_Meet_ok h9 hw.dom (hw.envAt 2 rfl) (hw.envAt 0 rfl)) (do_call Try.call50 rfl) trivial rfl rfl ?_
 intro v19 Sv16 w a h17 h18 hs
 obtain ⟨p11, k12, c14, rfl, h20, h13⟩ := h18
 have hw := hw.callN h17 h20
 have hw := hw.addE (e := RowA c14 rv10) h13
 refine st_val hs (y_assign rfl) trivial rfl rfl fun a hs => ?_
 refine wpList_nil ?_
 refine then_normal ?_
 have hsh := Option.some.inj hsh
 subst hsh
 refine wp_ret ?_
 exact ret1 hs rfl (rv_tmp rfl) (hw.ret ⟨p11, k12, c14, rfl, (hw.outs [0] (by decide) rfl), (hw.envAt 0 rfl)⟩)

abbrev law11_ReceiverOrder_rd (w0 : World) (X : List Nat) (r : Bool) : (Nat → Prop) → World → Value → Prop := fun S w v => v = .bool r
set_option maxHeartbeats 4000000 in
set_option maxRecDepth 100000 in
theorem law11_ReceiverOrder_ok {w0 : World} {S0 : Nat → Prop} {p2 : Option Addr} {k3 : Nat} {t1 : (List Int)} {n5 : Int} {r : Bool} (hsh : law11_ReceiverOrder t1 n5 = some r) (hS : ∀ b, S0 b → b < w0.heap.size) (h4 : (SlA p2 t1.length k3 t1).p S0 w0) : Calls Try.prog 6 #[.slice p2 t1.length k3, .int .u8 n5] w0 (Ret ([]) w0 S0 (law11_ReceiverOrder_rd w0 ([]) r)) := by
 refine calls_of_wp Try.func6 rfl ?_
 have hs := Sl.enter #[.slice p2 t1.length k3, .int .u8 n5] 159 [(0, .slice p2 t1.length k3), (1, .int .u8 n5)] rfl ⟨rfl, rfl, trivial⟩
 have hw := Wd.enter (E := []) hS (fun _ h => (by cases h))
 have hw := hw.addE h4
 delta law11_ReceiverOrder at hsh
 refine wp_seq ?_
 refine wp_region_lit ?_
 refine st_val hs (y_assign rfl) trivial rfl rfl fun a hs => ?_
 refine wpList_nil ?_
 refine then_normal ?_
 refine wp_seq ?_
 refine wp_seq ?_
 refine wp_region_lit ?_
 refine st_val hs (y_move rfl) trivial rfl rfl fun a hs => ?_
 obtain ⟨rv7, h6, hsh⟩ := bind_t hsh
 refine st_callR hs (made_Light_ok h6 hw.bdom (hw.bE 0 rfl)) (do_call Try.call7 rfl) trivial rfl rfl ?_
 intro v11 Sv8 w a h9 h10 hs
 subst h10
 have hw := hw.callB h9
 refine st_val hs (y_not rfl) trivial rfl rfl fun a hs => ?_
 refine wpList_nil ?_
 refine then_normal ?_
 refine wp_cond_split (hs.ev rfl) (fun h21 => ?_) (fun h21 => ?_)
 ·have hsh := ite_t hsh h21
  refine wp_seq ?_
  refine wp_region_lit ?_
  obtain ⟨rv23, h22, hsh⟩ := bind_t hsh
  refine st_callR hs (law11_sane_ok h22 hw.bdom) (do_call Try.call8 rfl) trivial rfl rfl ?_
  intro v27 Sv24 w a h25 h26 hs
  subst h26
  have hw := hw.callB h25
  refine st_val hs (y_assign rfl) trivial rfl rfl fun a hs => ?_
  refine wpList_nil ?_
  refine then_normal ?_
  have hsh := Option.some.inj hsh
  subst hsh
  refine wp_ret ?_
  refine then_ret ?_
  exact ret1 hs rfl (rv_tmp rfl) (hw.ret rfl)
 ·have hsh := ite_f hsh h21
  refine wp_skip ?_
  refine then_normal ?_
  refine wp_seq ?_
  refine wp_region_lit ?_
  refine st_val hs (y_move rfl) trivial rfl rfl fun a hs => ?_
  obtain ⟨rv30, h29, hsh⟩ := bind_t hsh
  refine st_callR hs (made_Roll_ok h29 hw.dom (hw.envAt 0 rfl)) (do_call Try.call9 rfl) trivial rfl rfl ?_
  intro v38 Sv35 w a h36 h37 hs
  obtain ⟨b31, p32, k33, rfl, h39, h34⟩ := h37
  have hw := hw.callN h36 h39
  have hw := hw.addE (e := SlA p32 rv30.L.length k33 rv30.L) h34
  refine st_val hs (y_assign rfl) trivial rfl rfl fun a hs => ?_
  refine wpList_nil ?_
  refine then_normal ?_
  refine wp_seq ?_
  refine wp_region_lit ?_
  refine st_val hs (y_assign rfl) trivial rfl rfl fun a hs => ?_
  refine wpList_nil ?_
  refine then_normal ?_
  refine wp_seq ?_
  refine wp_seq ?_
  refine wp_region_lit ?_
  refine st_val hs (y_move rfl) trivial rfl rfl fun a hs => ?_
  obtain ⟨rv41, h40, hsh⟩ := bind_t hsh
  refine st_callR hs (made_Dice_Next_ok h40 hw.dom (hw.ins [0] (by decide) rfl) (hw.envAt 0 rfl)) (do_call Try.call11 rfl) trivial rfl rfl ?_
  intro v48 Sv45 w a h46 h47 hs
  obtain ⟨p42, k43, rfl, h49, h44⟩ := h47
  have hw := hw.callO [0] [] (by decide) rfl h46 h49
  have hw := hw.addE (e := SlA p42 rv41.2.L.length k43 rv41.2.L) h44
  refine st_val hs (y_assign rfl) trivial rfl rfl fun a hs => ?_
  refine wpList_nil ?_
  refine then_normal ?_
  obtain ⟨e126, h717, hsh⟩ := bind_t hsh
  refine wp_join (fun a w => ∃ (c127 : List Value) (p128 : Option Addr) (k129 : Nat) (Sv130 : Nat → Prop), Sl 159 [(1, .int .u8 n5), (6, .slice p128 e126.length k129)] a ∧ Wd ⟨w0, S0, []⟩ Sv130 [.row p128 e126.length k129 c127 3 1] [RowA c127 e126] w) ?_ ?_
  ·refine wp_block ?_
   have hw := hw.nilRow Int 3
   refine wp_while (fun sv50 a w => ∃ (p97 : Option Addr) (k98 : Nat) (c99 : List Value) (p100 : Option Addr) (k101 : Nat) (Sv102 : Nat → Prop), Sl 159 [(1, .int .u8 n5), (5, .pointer (some ⟨b31, 0, none⟩)), (6, .slice p100 sv50.2.2.1.length k101), (7, .int .i64 sv50.2.2.2)] a ∧ Wd ⟨w0, S0, []⟩ Sv102 [.box b31 [.slice p97 sv50.1.length k98, .int .i64 sv50.2.1] 57, .row p100 sv50.2.2.1.length k101 c99 3 1] [SlA p97 sv50.1.length k98 sv50.1, RowA c99 sv50.2.2.1] w) (rv41.2.L, rv41.2.At, ([] : List Int), rv41.1) h717 ⟨p42, k43, [], none, 0, Sv45, (hs.wk rfl), (hw.ft [1, 0] [1, 0] (by decide) rfl rfl)⟩ ?_
   clear h717
   repeat clear hsh
   rintro sv50 a w tv124 ⟨p97, k98, c99, p100, k101, Sv102, hs, hw⟩ hsh hd123
   delta law11_ReceiverOrder_l1 at hsh
   refine wp_seq ?_
   refine wp_seq ?_
   refine wp_region_lit ?_
   refine st_val hs (y_move rfl) trivial rfl rfl fun a hs => ?_
   refine st_val hs (y_gtr rfl rfl) trivial rfl rfl fun a hs => ?_
   refine wpList_nil ?_
   refine then_normal ?_
   refine wp_cond_split (hs.ev rfl) (fun h132 => ?_) (fun h132 => ?_)
   ·have hsh := ite_t hsh h132
    refine wp_skip ?_
    refine then_normal ?_
    refine wp_seq ?_
    refine wp_block ?_
    refine wp_region_lit ?_
    refine st_val hs (y_move rfl) trivial rfl rfl fun a hs => ?_
    refine st_val hs (y_move rfl) trivial rfl rfl fun a hs => ?_
    obtain ⟨rv151, h150, hsh⟩ := bind_t hsh
    refine st_callR hs (made_Dice_Next_ok h150 hw.dom (hw.ins [0] (by decide) rfl) (hw.envAt 0 rfl)) (do_call Try.call11 rfl) trivial rfl rfl ?_
    intro v158 Sv155 w a h156 h157 hs
    obtain ⟨p152, k153, rfl, h159, h154⟩ := h157
    have hw := hw.callO [0] [1] (by decide) rfl h156 h159
    have hw := hw.addE (e := SlA p152 rv151.2.L.length k153 rv151.2.L) h154
    refine w_litSlice (α := Int) (vs := [.int .i64 rv151.1]) (cs := [.int .i64 rv151.1]) (xs := ([rv151.1] : List Int)) hs hw El22 rfl rfl rfl rfl rfl rfl ⟨⟨_, rfl, rfl⟩, rfl⟩ rfl trivial rfl fun b161 a w hs hw => ?_
    obtain ⟨l163, h162, hsh⟩ := bind_t hsh
    refine w_appendR (α := Int) hs hw El22 2 rfl rfl rfl 3 rfl 0 rfl 0 rfl h162 rfl trivial ?_
    intro p164 k165 c166 a w hs hw
    refine st_val hs (y_assign rfl) trivial rfl rfl fun a hs => ?_
    refine wpList_nil ?_
    refine blk_normal ?_
    refine then_normal ?_
    refine wp_region_lit ?_
    refine st_val hs (y_move rfl) trivial rfl rfl fun a hs => ?_
    refine st_val hs (y_sub rfl rfl) trivial rfl rfl fun a hs => ?_
    obtain ⟨i168, h167, hsh⟩ := bind_t hsh
    refine st_val hs (y_assignI rfl h167) trivial rfl rfl fun a hs => ?_
    refine wpList_nil ?_
    refine then_normal ?_
    exact ⟨_, (Option.some.inj hsh).symm, p152, k153, c166, p164, k165, Sv155, (hs.wk rfl), (hw.ft [1, 2] [2, 0] (by decide) rfl rfl)⟩
   ·have hsh := ite_f hsh h132
    refine wp_exit ?_
    refine then_exit ?_
    refine then_exit ?_
    refine blk_exit ?_
    have hsh := Option.some.inj hsh
    subst hsh
    have h169 := hd123 _ rfl
    subst h169
    refine then_normal ?_
    exact ⟨c99, p100, k101, Sv102, (hs.wk rfl), (hw.ft [1] [1] (by decide) rfl rfl)⟩
  ·rintro a w ⟨c127, p128, k129, Sv130, hs, hw⟩
   refine then_normal ?_
   refine wp_seq ?_
   refine wp_region_lit ?_
   obtain ⟨rv171, h170, hsh⟩ := bind_t hsh
   refine st_callR hs (receiver_New_ok h170 hw.dom) (do_call Try.call10 rfl) trivial rfl rfl ?_
   intro v181 Sv178 w a h179 h180 hs
   obtain ⟨p172, k173, p175, k176, rfl, h174, h177⟩ := h180
   have hw := hw.call h179
   have hw := hw.addE (e := SlA p172 rv171.Got.length k173 rv171.Got) h174
   have hw := hw.addE (e := SlA p175 rv171.Lost.length k176 rv171.Lost) h177
   obtain ⟨rv184, h183, hsh⟩ := bind_t hsh
   refine st_callR hs (receiver_New_ok h183 hw.dom) (do_call Try.call10 rfl) trivial rfl rfl ?_
   intro v194 Sv191 w a h192 h193 hs
   obtain ⟨p185, k186, p188, k189, rfl, h187, h190⟩ := h193
   have hw := hw.call h192
   have hw := hw.addE (e := SlA p185 rv184.Got.length k186 rv184.Got) h187
   have hw := hw.addE (e := SlA p188 rv184.Lost.length k189 rv184.Lost) h190
   refine w_alloc (cs := [.slice none ([] : List Span).length 0, .slice none ([] : List Span).length 0]) hs hw Try.zeroValue29 rfl rfl trivial ?_
   intro b196 a w hs hw
   refine w_alloc (cs := [.slice none ([] : List Span).length 0, .slice none ([] : List Span).length 0]) hs hw Try.zeroValue29 rfl rfl trivial ?_
   intro b197 a w hs hw
   refine w_store (m := 2) (cs' := [.slice p172 rv171.Got.length k173, .slice p175 rv171.Lost.length k176]) hs hw 1 rfl rfl rfl Try.sizeOf29 rfl rfl rfl rfl trivial ?_
   intro a w hs hw
   refine w_store (m := 2) (cs' := [.slice p185 rv184.Got.length k186, .slice p188 rv184.Lost.length k189]) hs hw 0 rfl rfl rfl Try.sizeOf29 rfl rfl rfl rfl trivial ?_
   intro a w hs hw
   refine wpList_nil ?_
   refine then_normal ?_
   refine wp_seq ?_
   refine wp_seq ?_
   refine wp_region_lit ?_
   refine st_val hs (y_move rfl) trivial rfl rfl fun a hs => ?_
   refine st_val hs (y_len Try.runUnderlying22 rfl) trivial rfl rfl fun a hs => ?_
   refine st_val hs (y_move rfl) trivial rfl rfl fun a hs => ?_
   refine wpList_nil ?_
   refine then_normal ?_
   obtain ⟨e343, h716, hsh⟩ := bind_t hsh
   refine wp_join (fun a w => ∃ (p344 : Option Addr) (k345 : Nat) (p346 : Option Addr) (k347 : Nat) (p348 : Option Addr) (k349 : Nat) (p350 : Option Addr) (k351 : Nat) (Sv352 : Nat → Prop), Sl 159 [(1, .int .u8 n5), (8, .pointer (some ⟨b196, 0, none⟩)), (9, .pointer (some ⟨b197, 0, none⟩))] a ∧ Wd ⟨w0, S0, []⟩ Sv352 [.box b196 [.slice p344 e343.1.length k345, .slice p346 e343.2.1.length k347] 29, .box b197 [.slice p348 e343.2.2.1.length k349, .slice p350 e343.2.2.2.length k351] 29] [SlA p344 e343.1.length k345 e343.1, SlA p346 e343.2.1.length k347 e343.2.1, SlA p348 e343.2.2.1.length k349 e343.2.2.1, SlA p350 e343.2.2.2.length k351 e343.2.2.2] w) ?_ ?_
   ·refine wp_block ?_
    refine wp_while (fun sv198 a w => ∃ (p290 : Option Addr) (k291 : Nat) (p292 : Option Addr) (k293 : Nat) (p294 : Option Addr) (k295 : Nat) (p296 : Option Addr) (k297 : Nat) (Sv298 : Nat → Prop), Sl 159 [(1, .int .u8 n5), (6, .slice p128 e126.length k129), (8, .pointer (some ⟨b196, 0, none⟩)), (9, .pointer (some ⟨b197, 0, none⟩)), (40, .int .i64 (e126.length : Int)), (41, .int .i64 sv198.2.2.2.2)] a ∧ Wd ⟨w0, S0, []⟩ Sv298 [.box b196 [.slice p290 sv198.1.length k291, .slice p292 sv198.2.1.length k293] 29, .box b197 [.slice p294 sv198.2.2.1.length k295, .slice p296 sv198.2.2.2.1.length k297] 29, .row p128 e126.length k129 c127 3 1] [SlA p290 sv198.1.length k291 sv198.1, SlA p292 sv198.2.1.length k293 sv198.2.1, SlA p294 sv198.2.2.1.length k295 sv198.2.2.1, SlA p296 sv198.2.2.2.1.length k297 sv198.2.2.2.1, RowA c127 e126] w) (rv171.Got, rv171.Lost, rv184.Got, rv184.Lost, 0) h716 ⟨p172, k173, p175, k176, p185, k186, p188, k189, Sv191, (hs.wk rfl), (hw.ft [1, 0, 2] [3, 2, 1, 0, 4] (by decide) rfl rfl)⟩ ?_
    clear h716
    repeat clear hsh
    rintro sv198 a w tv341 ⟨p290, k291, p292, k293, p294, k295, p296, k297, Sv298, hs, hw⟩ hsh hd340
    delta law11_ReceiverOrder_l2 at hsh
    refine wp_seq ?_
    refine wp_region_lit ?_
    refine st_val hs (y_lss rfl rfl) trivial rfl rfl fun a hs => ?_
    refine wpList_nil ?_
    refine then_normal ?_
    refine wp_seq ?_
    refine wp_cond_split (hs.ev rfl) (fun h354 => ?_) (fun h354 => ?_)
    ·have hsh := ite_t hsh h354
     refine wp_skip ?_
     refine then_normal ?_
     refine wp_seq ?_
     refine wp_block ?_
     refine wp_seq ?_
     refine wp_region_lit ?_
     refine st_val hs (y_move rfl) trivial rfl rfl fun a hs => ?_
     refine st_val hs (y_assign rfl) trivial rfl rfl fun a hs => ?_
     refine wpList_nil ?_
     refine then_normal ?_
     refine wp_seq ?_
     obtain ⟨x397, h395, hsh⟩ := bind_t hsh
     obtain ⟨b404, q401, c402, h405, h398, h399, h403, h396⟩ := hw.elemRV (α := Int) 2 rfl 4 rfl h395
     have hsv406 := hs
     have hwv407 := hw
     subst h405
     have hs := hsv406
     have hw := hwv407
     obtain ⟨_, rfl, rfl⟩ := h396
     obtain ⟨rv409, h408, hsh⟩ := bind_t hsh
     refine wp_only (fun a w => ∃ (Sv416 : Nat → Prop) (k411 : Nat) (k414 : Nat) (p410 : Option Addr) (p413 : Option Addr), Sl 159 [(1, .int .u8 n5), (6, .slice (some ⟨b404, 0, none⟩) e126.length k129), (8, .pointer (some ⟨b196, 0, none⟩)), (9, .pointer (some ⟨b197, 0, none⟩)), (10, .int .i64 sv198.2.2.2.2), (40, .int .i64 (e126.length : Int)), (41, .int .i64 sv198.2.2.2.2)] a ∧ Wd ⟨w0, S0, []⟩ Sv416 [.box b196 [.slice p410 rv409.1.Got.length k411, .slice p413 rv409.1.Lost.length k414] 29, .box b197 [.slice p294 sv198.2.2.1.length k295, .slice p296 sv198.2.2.2.1.length k297] 29, .row (some ⟨b404, 0, none⟩) e126.length k129 c127 3 1] [SlA p410 rv409.1.Got.length k411 rv409.1.Got, SlA p413 rv409.1.Lost.length k414 rv409.1.Lost, SlA p294 sv198.2.2.1.length k295 sv198.2.2.1, SlA p296 sv198.2.2.2.1.length k297 sv198.2.2.2.1, RowA c127 e126] w) ?_ ?_
     ·refine h_b (C := Cls [.box b197 [.slice p294 sv198.2.2.1.length k295, .slice p296 sv198.2.2.2.1.length k297] 29, .row (some ⟨b404, 0, none⟩) e126.length k129 c127 3 1] []) (by kernel_rfl) rfl (hw.drew.cs [1, 2] [] rfl rfl) fun hC => ?_
      have hw := hw.drew
      refine h_g hs 1 rfl (by kernel_rfl) rfl rfl hC rfl (fun w hC => y_move rfl) fun a hs => ?_
      refine h_g hs 2 rfl (by kernel_rfl) rfl rfl hC rfl (fun w hC => y_move rfl) fun a hs => ?_
      refine h_g hs 3 rfl (by kernel_rfl) rfl rfl hC rfl (fun w hC => y_indexAt Try.runUnderlying22 Try.sizeOf3 rfl rfl h398.1 h398.2 h399) fun a hs => ?_
      refine h_g hs 4 rfl (by kernel_rfl) rfl rfl hC rfl (fun w hC => y_loadQ1 (j := 0) (hC.ownAt 1 rfl) rfl Try.isAgg3 h403 rfl) fun a hs => ?_
      refine h_one (i := 0) (by kernel_rfl) rfl ?_
      refine st_val hs (y_loadBA (hw.ownAt 0 rfl) rfl Try.isAgg29 Try.sizeOf29 rfl rfl) trivial rfl rfl fun a hs => ?_
      refine h_nx (hw.cs [1, 2] [] rfl rfl) fun hC => ?_
      refine h_one (i := 5) (by kernel_rfl) rfl ?_
      refine st_callR hs (receiver_Accept_ok h408 hw.dom (hw.envAt 0 rfl) (hw.envAt 1 rfl)) (do_call Try.call13 rfl) trivial rfl rfl ?_
      intro v420 Sv417 w a h418 h419 hs
      obtain ⟨p410, k411, p413, k414, rfl, h412, h415⟩ := h419
      have hw := hw.call h418
      have hw := hw.addE (e := SlA p410 rv409.1.Got.length k411 rv409.1.Got) h412
      have hw := hw.addE (e := SlA p413 rv409.1.Lost.length k414 rv409.1.Lost) h415
      refine h_nx (hw.cs [1, 2] [] rfl rfl) fun hC => ?_
      refine h_g hs 6 rfl (by kernel_rfl) rfl rfl hC rfl (fun w hC => y_move rfl) fun a hs => ?_
      refine h_g hs 7 rfl (by kernel_rfl) rfl rfl hC rfl (fun w hC => y_extract rfl rfl) fun a hs => ?_
      refine h_g hs 8 rfl (by kernel_rfl) rfl rfl hC rfl (fun w hC => y_extract rfl rfl) fun a hs => ?_
      refine h_g hs 9 rfl (by kernel_rfl) rfl rfl hC rfl (fun w hC => y_extract rfl rfl) fun a hs => ?_
      refine h_one (i := 10) (by kernel_rfl) rfl ?_
      refine w_store (m := 2) (cs' := [.slice p410 rv409.1.Got.length k411, .slice p413 rv409.1.Lost.length k414]) hs hw 0 rfl rfl rfl Try.sizeOf29 rfl rfl rfl rfl trivial ?_
      intro a w hs hw
      refine h_nx (hw.cs [1, 2] [] rfl rfl) fun hC => ?_
      refine h_done (by kernel_rfl) ?_
      exact ⟨Sv417, k411, k414, p410, p413, (hs.wk rfl), (hw.ft [0, 1, 2] [1, 0, 4, 5, 6] (by decide) rfl rfl)⟩
     ·rintro a w ⟨Sv416, k411, k414, p410, p413, hs, hw⟩
      refine then_normal ?_
      obtain ⟨x424, h422, hsh⟩ := bind_t hsh
      obtain ⟨q428, c429, h425, h426, h430, h423⟩ := hw.elemRK (α := Int) 2 rfl 4 rfl h422
      obtain ⟨_, rfl, rfl⟩ := h423
      obtain ⟨rv432, h431, hsh⟩ := bind_t hsh
      refine wp_only (fun a w => ∃ (Sv439 : Nat → Prop) (k434 : Nat) (k437 : Nat) (p433 : Option Addr) (p436 : Option Addr), Sl 159 [(1, .int .u8 n5), (6, .slice (some ⟨b404, 0, none⟩) e126.length k129), (8, .pointer (some ⟨b196, 0, none⟩)), (9, .pointer (some ⟨b197, 0, none⟩)), (40, .int .i64 (e126.length : Int)), (41, .int .i64 sv198.2.2.2.2)] a ∧ Wd ⟨w0, S0, []⟩ Sv439 [.box b196 [.slice p410 rv409.1.Got.length k411, .slice p413 rv409.1.Lost.length k414] 29, .box b197 [.slice p433 rv432.1.Got.length k434, .slice p436 rv432.1.Lost.length k437] 29, .row (some ⟨b404, 0, none⟩) e126.length k129 c127 3 1] [SlA p410 rv409.1.Got.length k411 rv409.1.Got, SlA p413 rv409.1.Lost.length k414 rv409.1.Lost, SlA p433 rv432.1.Got.length k434 rv432.1.Got, SlA p436 rv432.1.Lost.length k437 rv432.1.Lost, RowA c127 e126] w) ?_ ?_
      ·refine h_b (C := Cls [.box b196 [.slice p410 rv409.1.Got.length k411, .slice p413 rv409.1.Lost.length k414] 29, .row (some ⟨b404, 0, none⟩) e126.length k129 c127 3 1] []) (by kernel_rfl) rfl (hw.drew.cs [0, 2] [] rfl rfl) fun hC => ?_
       have hw := hw.drew
       refine h_g hs 1 rfl (by kernel_rfl) rfl rfl hC rfl (fun w hC => y_move rfl) fun a hs => ?_
       refine h_g hs 2 rfl (by kernel_rfl) rfl rfl hC rfl (fun w hC => y_move rfl) fun a hs => ?_
       refine h_g hs 3 rfl (by kernel_rfl) rfl rfl hC rfl (fun w hC => y_len Try.runUnderlying22 rfl) fun a hs => ?_
       refine h_g hs 4 rfl (by kernel_rfl) rfl rfl hC rfl (fun w hC => y_sub rfl rfl) fun a hs => ?_
       refine h_g hs 5 rfl (by kernel_rfl) rfl rfl hC rfl (fun w hC => y_move rfl) fun a hs => ?_
       refine h_g hs 6 rfl (by kernel_rfl) rfl rfl hC rfl (fun w hC => y_sub rfl rfl) fun a hs => ?_
       refine h_g hs 7 rfl (by kernel_rfl) rfl rfl hC rfl (fun w hC => y_indexAt Try.runUnderlying22 Try.sizeOf3 rfl rfl h425.1 h425.2 h426) fun a hs => ?_
       refine h_g hs 8 rfl (by kernel_rfl) rfl rfl hC rfl (fun w hC => y_loadQ1 (j := 0) (hC.ownAt 1 rfl) rfl Try.isAgg3 h430 rfl) fun a hs => ?_
       refine h_one (i := 0) (by kernel_rfl) rfl ?_
       refine st_val hs (y_loadBA (hw.ownAt 1 rfl) rfl Try.isAgg29 Try.sizeOf29 rfl rfl) trivial rfl rfl fun a hs => ?_
       refine h_nx (hw.cs [0, 2] [] rfl rfl) fun hC => ?_
       refine h_one (i := 9) (by kernel_rfl) rfl ?_
       refine st_callR hs (receiver_Accept_ok h431 hw.dom (hw.envAt 2 rfl) (hw.envAt 3 rfl)) (do_call Try.call13 rfl) trivial rfl rfl ?_
       intro v443 Sv440 w a h441 h442 hs
       obtain ⟨p433, k434, p436, k437, rfl, h435, h438⟩ := h442
       have hw := hw.call h441
       have hw := hw.addE (e := SlA p433 rv432.1.Got.length k434 rv432.1.Got) h435
       have hw := hw.addE (e := SlA p436 rv432.1.Lost.length k437 rv432.1.Lost) h438
       refine h_nx (hw.cs [0, 2] [] rfl rfl) fun hC => ?_
       refine h_g hs 10 rfl (by kernel_rfl) rfl rfl hC rfl (fun w hC => y_move rfl) fun a hs => ?_
       refine h_g hs 11 rfl (by kernel_rfl) rfl rfl hC rfl (fun w hC => y_extract rfl rfl) fun a hs => ?_
       refine h_g hs 12 rfl (by kernel_rfl) rfl rfl hC rfl (fun w hC => y_extract rfl rfl) fun a hs => ?_
       refine h_g hs 13 rfl (by kernel_rfl) rfl rfl hC rfl (fun w hC => y_extract rfl rfl) fun a hs => ?_
       refine h_one (i := 14) (by kernel_rfl) rfl ?_
       refine w_store (m := 2) (cs' := [.slice p433 rv432.1.Got.length k434, .slice p436 rv432.1.Lost.length k437]) hs hw 1 rfl rfl rfl Try.sizeOf29 rfl rfl rfl rfl trivial ?_
       intro a w hs hw
       refine h_nx (hw.cs [0, 2] [] rfl rfl) fun hC => ?_
       refine h_done (by kernel_rfl) ?_
       exact ⟨Sv440, k434, k437, p433, p436, (hs.wk rfl), (hw.ft [0, 1, 2] [2, 3, 1, 0, 6] (by decide) rfl rfl)⟩
      ·rintro a w ⟨Sv439, k434, k437, p433, p436, hs, hw⟩
       refine blk_normal ?_
       refine then_normal ?_
       refine wp_region_lit ?_
       refine st_val hs (y_add rfl rfl) trivial rfl rfl fun a hs => ?_
       refine st_val hs (y_move rfl) trivial rfl rfl fun a hs => ?_
       refine wpList_nil ?_
       refine then_normal ?_
       exact ⟨_, (Option.some.inj hsh).symm, p410, k411, p413, k414, p433, k434, p436, k437, Sv439, (hs.wk rfl), (hw.ft [0, 1, 2] [0, 1, 2, 3, 4] (by decide) rfl rfl)⟩
    ·have hsh := ite_f hsh h354
     refine wp_exit ?_
     refine then_exit ?_
     refine then_exit ?_
     refine blk_exit ?_
     have hsh := Option.some.inj hsh
     subst hsh
     have h445 := hd340 _ rfl
     subst h445
     refine then_normal ?_
     exact ⟨p290, k291, p292, k293, p294, k295, p296, k297, Sv298, (hs.wk rfl), (hw.ft [0, 1] [0, 1, 2, 3] (by decide) rfl rfl)⟩
   ·rintro a w ⟨p344, k345, p346, k347, p348, k349, p350, k351, Sv352, hs, hw⟩
    refine then_normal ?_
    refine wp_seq ?_
    refine wp_region_lit ?_
    refine st_val hs (y_loadBA (hw.ownAt 1 rfl) rfl Try.isAgg29 Try.sizeOf29 rfl rfl) trivial rfl rfl fun a hs => ?_
    obtain ⟨rv447, h446, hsh⟩ := bind_t hsh
    refine st_callR hs (receiver_Lose_ok h446 hw.dom (hw.envAt 2 rfl) (hw.envAt 3 rfl)) (do_call Try.call12 rfl) trivial rfl rfl ?_
    intro v457 Sv454 w a h455 h456 hs
    obtain ⟨p448, k449, p451, k452, rfl, h450, h453⟩ := h456
    have hw := hw.call h455
    have hw := hw.addE (e := SlA p448 rv447.1.Got.length k449 rv447.1.Got) h450
    have hw := hw.addE (e := SlA p451 rv447.1.Lost.length k452 rv447.1.Lost) h453
    refine st_val hs (y_move rfl) trivial rfl rfl fun a hs => ?_
    refine st_val hs (y_extract rfl rfl) trivial rfl rfl fun a hs => ?_
    refine st_val hs (y_extract rfl rfl) trivial rfl rfl fun a hs => ?_
    refine w_store (m := 2) (cs' := [.slice p448 rv447.1.Got.length k449, .slice p451 rv447.1.Lost.length k452]) hs hw 1 rfl rfl rfl Try.sizeOf29 rfl rfl rfl rfl trivial ?_
    intro a w hs hw
    refine wpList_nil ?_
    refine then_normal ?_
    refine wp_seq ?_
    refine wp_region_lit ?_
    refine st_val hs (y_loadBA (hw.ownAt 0 rfl) rfl Try.isAgg29 Try.sizeOf29 rfl rfl) trivial rfl rfl fun a hs => ?_
    obtain ⟨rv460, h459, hsh⟩ := bind_t hsh
    refine st_callR hs (receiver_Lose_ok h459 hw.dom (hw.envAt 2 rfl) (hw.envAt 3 rfl)) (do_call Try.call12 rfl) trivial rfl rfl ?_
    intro v470 Sv467 w a h468 h469 hs
    obtain ⟨p461, k462, p464, k465, rfl, h463, h466⟩ := h469
    have hw := hw.call h468
    have hw := hw.addE (e := SlA p461 rv460.1.Got.length k462 rv460.1.Got) h463
    have hw := hw.addE (e := SlA p464 rv460.1.Lost.length k465 rv460.1.Lost) h466
    refine st_val hs (y_move rfl) trivial rfl rfl fun a hs => ?_
    refine st_val hs (y_extract rfl rfl) trivial rfl rfl fun a hs => ?_
    refine st_val hs (y_extract rfl rfl) trivial rfl rfl fun a hs => ?_
    refine w_store (m := 2) (cs' := [.slice p461 rv460.1.Got.length k462, .slice p464 rv460.1.Lost.length k465]) hs hw 0 rfl rfl rfl Try.sizeOf29 rfl rfl rfl rfl trivial ?_
    intro a w hs hw
    refine st_val hs (y_assign rfl) trivial rfl rfl fun a hs => ?_
    refine wpList_nil ?_
    refine then_normal ?_
    refine wp_seq ?_
    refine wp_region_lit ?_
    refine st_val hs (y_loadBA (hw.ownAt 0 rfl) rfl Try.isAgg29 Try.sizeOf29 rfl rfl) trivial rfl rfl fun a hs => ?_
    obtain ⟨rv473, h472, hsh⟩ := bind_t hsh
    refine st_callR hs (receiver_Missing_ok h472 hw.dom (hw.envAt 1 rfl) (hw.envAt 0 rfl)) (do_call Try.call17 rfl) trivial rfl rfl ?_
    intro v481 Sv478 w a h479 h480 hs
    obtain ⟨p474, k475, c477, rfl, h482, h476⟩ := h480
    have hw := hw.callN h479 h482
    have hw := hw.addE (e := RowA c477 rv473.1) h476
    refine st_val hs (y_move rfl) trivial rfl rfl fun a hs => ?_
    refine st_val hs (y_extract rfl rfl) trivial rfl rfl fun a hs => ?_
    refine st_val hs (y_extract rfl rfl) trivial rfl rfl fun a hs => ?_
    refine st_val hs (y_assign rfl) trivial rfl rfl fun a hs => ?_
    refine st_val hs (y_assign rfl) trivial rfl rfl fun a hs => ?_
    refine wpList_nil ?_
    refine then_normal ?_
    refine wp_seq ?_
    refine wp_region_lit ?_
    refine st_val hs (y_loadBA (hw.ownAt 1 rfl) rfl Try.isAgg29 Try.sizeOf29 rfl rfl) trivial rfl rfl fun a hs => ?_
    refine st_val hs (y_move rfl) trivial rfl rfl fun a hs => ?_
    refine st_val hs (y_convert Try.runUnderlying5 Try.runUnderlying3 rfl) trivial rfl rfl fun a hs => ?_
    refine st_val hs (y_rem rfl rfl (by decide)) trivial rfl rfl fun a hs => ?_
    obtain ⟨rv484, h483, hsh⟩ := bind_t hsh
    refine st_callR hs (receiver_Request_ok h483 hw.dom (hw.envAt 2 rfl) (hw.envAt 1 rfl)) (do_call Try.call25 rfl) trivial rfl rfl ?_
    intro v492 Sv489 w a h490 h491 hs
    obtain ⟨p485, k486, c488, rfl, h493, h487⟩ := h491
    have hw := hw.callN h490 h493
    have hw := hw.addE (e := RowA c488 rv484.1) h487
    refine st_val hs (y_move rfl) trivial rfl rfl fun a hs => ?_
    refine st_val hs (y_extract rfl rfl) trivial rfl rfl fun a hs => ?_
    refine st_val hs (y_extract rfl rfl) trivial rfl rfl fun a hs => ?_
    refine st_val hs (y_assign rfl) trivial rfl rfl fun a hs => ?_
    refine st_val hs (y_assign rfl) trivial rfl rfl fun a hs => ?_
    refine wpList_nil ?_
    refine then_normal ?_
    refine wp_seq ?_
    refine wp_region_lit ?_
    refine st_val hs (y_move rfl) trivial rfl rfl fun a hs => ?_
    obtain ⟨rv495, h494, hsh⟩ := bind_t hsh
    refine st_callR hs (ref08_Length_ok h494 hw.bdom (hw.bRow 0 rfl 0 rfl)) (do_call Try.call31 rfl) trivial rfl rfl ?_
    intro v499 Sv496 w a h497 h498 hs
    subst h498
    have hw := hw.callB h497
    refine st_val hs (y_move rfl) trivial rfl rfl fun a hs => ?_
    refine st_val hs (y_extract rfl rfl) trivial rfl rfl fun a hs => ?_
    refine st_val hs (y_extract rfl rfl) trivial rfl rfl fun a hs => ?_
    refine st_val hs (y_assign rfl) trivial rfl rfl fun a hs => ?_
    refine st_val hs (y_assign rfl) trivial rfl rfl fun a hs => ?_
    refine wpList_nil ?_
    refine then_normal ?_
    refine wp_seq ?_
    refine wp_region_lit ?_
    refine st_val hs (y_move rfl) trivial rfl rfl fun a hs => ?_
    obtain ⟨rv502, h501, hsh⟩ := bind_t hsh
    refine st_callR hs (ref08_Length_ok h501 hw.bdom (hw.bRow 1 rfl 1 rfl)) (do_call Try.call31 rfl) trivial rfl rfl ?_
    intro v506 Sv503 w a h504 h505 hs
    subst h505
    have hw := hw.callB h504
    refine st_val hs (y_move rfl) trivial rfl rfl fun a hs => ?_
    refine st_val hs (y_extract rfl rfl) trivial rfl rfl fun a hs => ?_
    refine st_val hs (y_extract rfl rfl) trivial rfl rfl fun a hs => ?_
    refine st_val hs (y_assign rfl) trivial rfl rfl fun a hs => ?_
    refine st_val hs (y_assign rfl) trivial rfl rfl fun a hs => ?_
    refine wpList_nil ?_
    refine then_normal ?_
    refine wp_seq ?_
    refine wp_region_lit ?_
    refine st_val hs (y_move rfl) trivial rfl rfl fun a hs => ?_
    refine st_val hs (y_eql rfl rfl) trivial rfl rfl fun a hs => ?_
    refine st_val hs (y_move rfl) trivial rfl rfl fun a hs => ?_
    refine wpl_join 3 (fun a w1 => w = w1 ∧ Sl 159 [(1, .int .u8 n5), (8, .pointer (some ⟨b196, 0, none⟩)), (9, .pointer (some ⟨b197, 0, none⟩)), (12, .slice p474 rv473.1.length k475), (14, .slice p485 rv484.1.length k486), (15, .int .i64 rv484.2), (16, .int .i64 rv495.1), (18, .int .i64 rv502.1), (107, .bool ((rv460.2 == 0) && (rv473.2 == 0)))] a) ?_ ?_
    ·rcases Bool.eq_false_or_eq_true (rv460.2 == 0) with h508 | h508
     ·have hs := hs.fix 104 (.bool true) rfl (vb h508)
      refine st_val hs (y_move rfl) ⟨_, rfl, rfl⟩ rfl rfl fun a hs => ?_
      refine st_val hs (y_eql rfl rfl) ⟨_, rfl, rfl⟩ rfl rfl fun a hs => ?_
      refine st_val hs (y_pickT rfl rfl) trivial rfl rfl fun a hs => ?_
      refine wpList_nil ?_
      refine then_normal ?_
      exact ⟨rfl, (hs.fix 107 (.bool ((rv460.2 == 0) && (rv473.2 == 0))) rfl (and_t h508)).weaken _ ⟨rfl, rfl, rfl, rfl, rfl, rfl, rfl, rfl, rfl, trivial⟩⟩
     ·have hs := hs.fix 104 (.bool false) rfl (vb h508)
      refine st_skip hs rfl rfl rfl rfl rfl fun a hs => ?_
      refine st_skip hs rfl rfl rfl rfl rfl fun a hs => ?_
      refine st_val hs (y_pickF rfl rfl) trivial rfl rfl fun a hs => ?_
      refine wpList_nil ?_
      refine then_normal ?_
      exact ⟨rfl, (hs.fix 107 (.bool ((rv460.2 == 0) && (rv473.2 == 0))) rfl (and_f h508)).weaken _ ⟨rfl, rfl, rfl, rfl, rfl, rfl, rfl, rfl, rfl, trivial⟩⟩
    ·rintro a w1 ⟨h715, hs⟩
     subst h715
     refine st_val hs (y_move rfl) trivial rfl rfl fun a hs => ?_
     refine wpl_join 3 (fun a w1 => w = w1 ∧ Sl 159 [(1, .int .u8 n5), (8, .pointer (some ⟨b196, 0, none⟩)), (9, .pointer (some ⟨b197, 0, none⟩)), (12, .slice p474 rv473.1.length k475), (14, .slice p485 rv484.1.length k486), (16, .int .i64 rv495.1), (18, .int .i64 rv502.1), (111, .bool (((rv460.2 == 0) && (rv473.2 == 0)) && (rv484.2 == 0)))] a) ?_ ?_
     ·rcases Bool.eq_false_or_eq_true ((rv460.2 == 0) && (rv473.2 == 0)) with h509 | h509
      ·have hs := hs.fix 108 (.bool true) rfl (vb h509)
       refine st_val hs (y_move rfl) ⟨_, rfl, rfl⟩ rfl rfl fun a hs => ?_
       refine st_val hs (y_eql rfl rfl) ⟨_, rfl, rfl⟩ rfl rfl fun a hs => ?_
       refine st_val hs (y_pickT rfl rfl) trivial rfl rfl fun a hs => ?_
       refine wpList_nil ?_
       refine then_normal ?_
       exact ⟨rfl, (hs.fix 111 (.bool (((rv460.2 == 0) && (rv473.2 == 0)) && (rv484.2 == 0))) rfl (and_t h509)).weaken _ ⟨rfl, rfl, rfl, rfl, rfl, rfl, rfl, rfl, trivial⟩⟩
      ·have hs := hs.fix 108 (.bool false) rfl (vb h509)
       refine st_skip hs rfl rfl rfl rfl rfl fun a hs => ?_
       refine st_skip hs rfl rfl rfl rfl rfl fun a hs => ?_
       refine st_val hs (y_pickF rfl rfl) trivial rfl rfl fun a hs => ?_
       refine wpList_nil ?_
       refine then_normal ?_
       exact ⟨rfl, (hs.fix 111 (.bool (((rv460.2 == 0) && (rv473.2 == 0)) && (rv484.2 == 0))) rfl (and_f h509)).weaken _ ⟨rfl, rfl, rfl, rfl, rfl, rfl, rfl, rfl, trivial⟩⟩
     ·rintro a w1 ⟨h714, hs⟩
      subst h714
      refine st_val hs (y_move rfl) trivial rfl rfl fun a hs => ?_
      obtain ⟨c518, hc518, hsh⟩ := bind_t hsh
      refine wpl_join 4 (fun a w => ∃ (Sv519 : Nat → Prop), Sl 159 [(1, .int .u8 n5), (12, .slice p474 rv473.1.length k475), (14, .slice p485 rv484.1.length k486), (16, .int .i64 rv495.1), (18, .int .i64 rv502.1), (116, .bool c518)] a ∧ Wd ⟨w0, S0, []⟩ Sv519 [.row p474 rv473.1.length k475 c477 46 2, .row p485 rv484.1.length k486 c488 46 2] [RowA c477 rv473.1, RowA c488 rv484.1] w) ?_ ?_
      ·rcases Bool.eq_false_or_eq_true (((rv460.2 == 0) && (rv473.2 == 0)) && (rv484.2 == 0)) with h517 | h517
       ·have hs := hs.fix 112 (.bool true) rfl (vb h517)
        have hsh := ite_t hc518 h517
        refine st_val hs (y_loadBA (hw.ownAt 2 rfl) rfl Try.isAgg29 Try.sizeOf29 rfl rfl) ⟨_, rfl, rfl⟩ rfl rfl fun a hs => ?_
        refine st_val hs (y_loadBA (hw.ownAt 3 rfl) rfl Try.isAgg29 Try.sizeOf29 rfl rfl) ⟨_, rfl, rfl⟩ rfl rfl fun a hs => ?_
        obtain ⟨rv521, h520, hsh⟩ := bind_t hsh
        refine st_callR hs (ref11_Same_ok h520 hw.bdom (hw.bE 3 rfl) (hw.bE 2 rfl) (hw.bE 5 rfl) (hw.bE 4 rfl)) (do_call Try.call22 rfl) ⟨_, rfl, rfl⟩ rfl rfl ?_
        intro v525 Sv522 w a h523 h524 hs
        subst h524
        have hw := hw.callB h523
        refine st_val hs (y_pickT rfl rfl) trivial rfl rfl fun a hs => ?_
        refine wpList_nil ?_
        have hsh := Option.some.inj hsh
        subst hsh
        refine then_normal ?_
        exact ⟨Sv489, (hs.wk rfl), (hw.ft [1, 0] [1, 0] (by decide) rfl rfl)⟩
       ·have hs := hs.fix 112 (.bool false) rfl (vb h517)
        have hsh := ite_f hc518 h517
        refine st_skip hs rfl rfl rfl rfl rfl fun a hs => ?_
        refine st_skip hs rfl rfl rfl rfl rfl fun a hs => ?_
        refine st_skip hs rfl rfl rfl rfl rfl fun a hs => ?_
        refine st_val hs (y_pickF rfl rfl) trivial rfl rfl fun a hs => ?_
        refine wpList_nil ?_
        have hsh := Option.some.inj hsh
        subst hsh
        refine then_normal ?_
        exact ⟨Sv489, (hs.wk rfl), (hw.ft [1, 0] [1, 0] (by decide) rfl rfl)⟩
      ·rintro a w ⟨Sv519, hs, hw⟩
       refine st_val hs (y_move rfl) trivial rfl rfl fun a hs => ?_
       refine wpl_join 8 (fun a w1 => w = w1 ∧ Sl 159 [(12, .slice p474 rv473.1.length k475), (14, .slice p485 rv484.1.length k486), (16, .int .i64 rv495.1), (18, .int .i64 rv502.1), (125, .bool (c518 && (rv495.1 == (min (Int.tmod (w64 n5) 8) rv502.1))))] a) ?_ ?_
       ·rcases Bool.eq_false_or_eq_true c518 with h527 | h527
        ·have hs := hs.fix 117 (.bool true) rfl (vb h527)
         refine st_val hs (y_move rfl) ⟨_, rfl, rfl⟩ rfl rfl fun a hs => ?_
         refine st_val hs (y_move rfl) ⟨_, rfl, rfl⟩ rfl rfl fun a hs => ?_
         refine st_val hs (y_convert Try.runUnderlying5 Try.runUnderlying3 rfl) ⟨_, rfl, rfl⟩ rfl rfl fun a hs => ?_
         refine st_val hs (y_rem rfl rfl (by decide)) ⟨_, rfl, rfl⟩ rfl rfl fun a hs => ?_
         refine st_val hs (y_move rfl) ⟨_, rfl, rfl⟩ rfl rfl fun a hs => ?_
         refine st_val hs (y_min rfl rfl) ⟨_, rfl, rfl⟩ rfl rfl fun a hs => ?_
         refine st_val hs (y_eql rfl rfl) ⟨_, rfl, rfl⟩ rfl rfl fun a hs => ?_
         refine st_val hs (y_pickT rfl rfl) trivial rfl rfl fun a hs => ?_
         refine wpList_nil ?_
         refine then_normal ?_
         exact ⟨rfl, (hs.fix 125 (.bool (c518 && (rv495.1 == (min (Int.tmod (w64 n5) 8) rv502.1)))) rfl (and_t h527)).weaken _ ⟨rfl, rfl, rfl, rfl, rfl, trivial⟩⟩
        ·have hs := hs.fix 117 (.bool false) rfl (vb h527)
         refine st_skip hs rfl rfl rfl rfl rfl fun a hs => ?_
         refine st_skip hs rfl rfl rfl rfl rfl fun a hs => ?_
         refine st_skip hs rfl rfl rfl rfl rfl fun a hs => ?_
         refine st_skip hs rfl rfl rfl rfl rfl fun a hs => ?_
         refine st_skip hs rfl rfl rfl rfl rfl fun a hs => ?_
         refine st_skip hs rfl rfl rfl rfl rfl fun a hs => ?_
         refine st_skip hs rfl rfl rfl rfl rfl fun a hs => ?_
         refine st_val hs (y_pickF rfl rfl) trivial rfl rfl fun a hs => ?_
         refine wpList_nil ?_
         refine then_normal ?_
         exact ⟨rfl, (hs.fix 125 (.bool (c518 && (rv495.1 == (min (Int.tmod (w64 n5) 8) rv502.1)))) rfl (and_f h527)).weaken _ ⟨rfl, rfl, rfl, rfl, rfl, trivial⟩⟩
       ·rintro a w1 ⟨h713, hs⟩
        subst h713
        refine st_val hs (y_move rfl) trivial rfl rfl fun a hs => ?_
        obtain ⟨c542, hc542, hsh⟩ := bind_t hsh
        refine wpl_join 6 (fun a w => ∃ (Sv543 : Nat → Prop), Sl 159 [(12, .slice p474 rv473.1.length k475), (14, .slice p485 rv484.1.length k486), (16, .int .i64 rv495.1), (18, .int .i64 rv502.1), (132, .bool c542)] a ∧ Wd ⟨w0, S0, []⟩ Sv543 [] [SlA p474 rv473.1.length k475 rv473.1, SlA p485 rv484.1.length k486 rv484.1] w) ?_ ?_
        ·rcases Bool.eq_false_or_eq_true (c518 && (rv495.1 == (min (Int.tmod (w64 n5) 8) rv502.1))) with h541 | h541
         ·have hs := hs.fix 126 (.bool true) rfl (vb h541)
          have hsh := ite_t hc542 h541
          refine st_val hs (y_move rfl) ⟨_, rfl, rfl⟩ rfl rfl fun a hs => ?_
          refine st_val hs (y_move rfl) ⟨_, rfl, rfl⟩ rfl rfl fun a hs => ?_
          obtain ⟨rv545, h544, hsh⟩ := bind_t hsh
          obtain ⟨Sv550, hw⟩ := w_share (α := Span) hw 1 rfl 1 rfl
          obtain ⟨Sv551, hw⟩ := w_share (α := Span) hw 0 rfl 1 rfl
          refine st_callR hs (ref08_Minus_ok h544 hw.dom (hw.envAt 1 rfl) (hw.envAt 0 rfl)) (do_call Try.call32 rfl) ⟨_, rfl, rfl⟩ rfl rfl ?_
          intro v555 Sv552 w a h553 h554 hs
          obtain ⟨p546, k547, c549, rfl, h556, h548⟩ := h554
          have hw := hw.callN h553 h556
          have hw := hw.addE (e := RowA c549 rv545) h548
          refine st_val hs (y_len Try.runUnderlying27 rfl) ⟨_, rfl, rfl⟩ rfl rfl fun a hs => ?_
          refine st_val hs (y_eql rfl rfl) ⟨_, rfl, rfl⟩ rfl rfl fun a hs => ?_
          refine st_val hs (y_pickT rfl rfl) trivial rfl rfl fun a hs => ?_
          refine wpList_nil ?_
          have hsh := Option.some.inj hsh
          subst hsh
          refine then_normal ?_
          exact ⟨Sv552, (hs.wk rfl), (hw.ft [] [1, 2] (by decide) rfl rfl)⟩
         ·have hs := hs.fix 126 (.bool false) rfl (vb h541)
          have hsh := ite_f hc542 h541
          refine st_skip hs rfl rfl rfl rfl rfl fun a hs => ?_
          refine st_skip hs rfl rfl rfl rfl rfl fun a hs => ?_
          refine st_skip hs rfl rfl rfl rfl rfl fun a hs => ?_
          refine st_skip hs rfl rfl rfl rfl rfl fun a hs => ?_
          refine st_skip hs rfl rfl rfl rfl rfl fun a hs => ?_
          refine st_val hs (y_pickF rfl rfl) trivial rfl rfl fun a hs => ?_
          refine wpList_nil ?_
          obtain ⟨Sv557, hw⟩ := w_share (α := Span) hw 0 rfl 0 rfl
          obtain ⟨Sv558, hw⟩ := w_share (α := Span) hw 0 rfl 2 rfl
          have hsh := Option.some.inj hsh
          subst hsh
          refine then_normal ?_
          exact ⟨Sv558, (hs.wk rfl), (hw.ft [] [1, 0] (by decide) rfl rfl)⟩
        ·rintro a w ⟨Sv543, hs, hw⟩
         refine st_val hs (y_move rfl) trivial rfl rfl fun a hs => ?_
         obtain ⟨c627, hc627, hsh⟩ := bind_t hsh
         refine wpl_join 22 (fun a w => ∃ (Sv628 : Nat → Prop), Sl 159 [(155, .bool c627)] a ∧ Wd ⟨w0, S0, []⟩ Sv628 [] [] w) ?_ ?_
         ·rcases Bool.eq_false_or_eq_true c542 with h626 | h626
          ·have hs := hs.fix 133 (.bool true) rfl (vb h626)
           have hsh := ite_t hc627 h626
           refine st_val hs (y_move rfl) ⟨_, rfl, rfl⟩ rfl rfl fun a hs => ?_
           refine st_val hs (y_move rfl) ⟨_, rfl, rfl⟩ rfl rfl fun a hs => ?_
           refine st_val hs (y_eql rfl rfl) ⟨_, rfl, rfl⟩ rfl rfl fun a hs => ?_
           refine st_val hs (y_move rfl) ⟨_, rfl, rfl⟩ rfl rfl fun a hs => ?_
           refine wpl_join 4 (fun a w1 => w = w1 ∧ Sl 159 [(12, .slice p474 rv473.1.length k475), (14, .slice p485 rv484.1.length k486), (133, .bool true), (141, .bool ((rv495.1 == rv502.1) || ((rv484.1.length : Int) == 0)))] a) ?_ ?_
           ·rcases Bool.eq_false_or_eq_true (rv495.1 == rv502.1) with h629 | h629
            ·have hs := hs.fix 137 (.bool true) rfl (vb h629)
             refine st_skip hs rfl rfl rfl rfl rfl fun a hs => ?_
             refine st_skip hs rfl rfl rfl rfl rfl fun a hs => ?_
             refine st_skip hs rfl rfl rfl rfl rfl fun a hs => ?_
             refine st_val hs (y_pickT rfl rfl) ⟨_, rfl, rfl⟩ rfl rfl fun a hs => ?_
             refine wpList_nil ?_
             refine then_normal ?_
             exact ⟨rfl, (hs.fix 141 (.bool ((rv495.1 == rv502.1) || ((rv484.1.length : Int) == 0))) rfl (or_t h629)).weaken _ ⟨rfl, rfl, rfl, rfl, trivial⟩⟩
            ·have hs := hs.fix 137 (.bool false) rfl (vb h629)
             refine st_val hs (y_move rfl) ⟨_, rfl, rfl⟩ rfl rfl fun a hs => ?_
             refine st_val hs (y_len Try.runUnderlying27 rfl) ⟨_, rfl, rfl⟩ rfl rfl fun a hs => ?_
             refine st_val hs (y_eql rfl rfl) ⟨_, rfl, rfl⟩ rfl rfl fun a hs => ?_
             refine st_val hs (y_pickF rfl rfl) ⟨_, rfl, rfl⟩ rfl rfl fun a hs => ?_
             refine wpList_nil ?_
             refine then_normal ?_
             exact ⟨rfl, (hs.fix 141 (.bool ((rv495.1 == rv502.1) || ((rv484.1.length : Int) == 0))) rfl (or_f h629)).weaken _ ⟨rfl, rfl, rfl, rfl, trivial⟩⟩
           ·rintro a w1 ⟨h695, hs⟩
            subst h695
            refine st_val hs (y_move rfl) ⟨_, rfl, rfl⟩ rfl rfl fun a hs => ?_
            obtain ⟨c662, hc662, hsh⟩ := bind_t hsh
            refine wpl_join 12 (fun a w => ∃ (Sv663 : Nat → Prop), Sl 159 [(133, .bool true), (154, .bool c662)] a ∧ Wd ⟨w0, S0, []⟩ Sv663 [] [] w) ?_ ?_
            ·rcases Bool.eq_false_or_eq_true ((rv495.1 == rv502.1) || ((rv484.1.length : Int) == 0)) with h661 | h661
             ·have hs := hs.fix 142 (.bool true) rfl (vb h661)
              have hsh := ite_t hc662 h661
              refine st_skip hs rfl rfl rfl rfl rfl fun a hs => ?_
              refine st_skip hs rfl rfl rfl rfl rfl fun a hs => ?_
              refine st_skip hs rfl rfl rfl rfl rfl fun a hs => ?_
              refine st_skip hs rfl rfl rfl rfl rfl fun a hs => ?_
              refine st_skip hs rfl rfl rfl rfl rfl fun a hs => ?_
              refine st_skip hs rfl rfl rfl rfl rfl fun a hs => ?_
              refine st_skip hs rfl rfl rfl rfl rfl fun a hs => ?_
              refine st_skip hs rfl rfl rfl rfl rfl fun a hs => ?_
              refine st_skip hs rfl rfl rfl rfl rfl fun a hs => ?_
              refine st_skip hs rfl rfl rfl rfl rfl fun a hs => ?_
              refine st_skip hs rfl rfl rfl rfl rfl fun a hs => ?_
              refine st_val hs (y_pickT rfl rfl) ⟨_, rfl, rfl⟩ rfl rfl fun a hs => ?_
              refine wpList_nil ?_
              have hsh := Option.some.inj hsh
              subst hsh
              refine then_normal ?_
              exact ⟨Sv543, (hs.wk rfl), (hw.ft [] [] (by decide) rfl rfl)⟩
             ·have hs := hs.fix 142 (.bool false) rfl (vb h661)
              have hsh := ite_f hc662 h661
              refine st_val hs (y_move rfl) ⟨_, rfl, rfl⟩ rfl rfl fun a hs => ?_
              refine st_val hs (y_move rfl) ⟨_, rfl, rfl⟩ rfl rfl fun a hs => ?_
              refine st_val hs (y_move rfl) ⟨_, rfl, rfl⟩ rfl rfl fun a hs => ?_
              refine st_val hs (y_move rfl) ⟨_, rfl, rfl⟩ rfl rfl fun a hs => ?_
              refine st_val hs (y_len Try.runUnderlying27 rfl) ⟨_, rfl, rfl⟩ rfl rfl fun a hs => ?_
              refine st_val hs (y_sub rfl rfl) ⟨_, rfl, rfl⟩ rfl rfl fun a hs => ?_
              obtain ⟨x666, h664, hsh⟩ := bind_t hsh
              obtain ⟨b672, o673, q670, c671, h674, h667, h668, h669, h665⟩ := hw.elemV 1 rfl h664
              have hsv675 := hs
              have hwv676 := hw
              subst h674
              have hs := hsv675
              have hw := hwv676
              obtain ⟨_, _, rfl, rfl, rfl⟩ := h665
              have hw := hw.addE h669
              refine st_val hs (y_indexAt Try.runUnderlying27 Try.sizeOf46 rfl rfl h667.1 h667.2 h668) ⟨_, rfl, rfl⟩ rfl rfl fun a hs => ?_
              refine st_val hs (y_fieldAddr (o' := q670 + 1) Try.runUnderlying46 rfl Try.sizeOf3 rfl rfl rfl) ⟨_, rfl, rfl⟩ rfl rfl fun a hs => ?_
              refine st_val hs (y_loadE1 (j := 1) (hw.ceAt 0 rfl) rfl Try.isAgg3 rfl) ⟨_, rfl, rfl⟩ rfl rfl fun a hs => ?_
              obtain ⟨rv678, h677, hsh⟩ := bind_t hsh
              refine st_callR hs (ref08_Cut_ok h677 hw.dom (hw.envAt 1 rfl)) (do_call Try.call33 rfl) ⟨_, rfl, rfl⟩ rfl rfl ?_
              intro v686 Sv683 w a h684 h685 hs
              obtain ⟨p679, k680, c682, rfl, h687, h681⟩ := h685
              have hw := hw.callN h684 h687
              have hw := hw.addE (e := RowA c682 rv678) h681
              obtain ⟨rv689, h688, hsh⟩ := bind_t hsh
              refine st_callR hs (ref08_Same_ok h688 hw.bdom (hw.bE 3 rfl) (hw.bRow 0 rfl 0 rfl)) (do_call Try.call24 rfl) ⟨_, rfl, rfl⟩ rfl rfl ?_
              intro v693 Sv690 w a h691 h692 hs
              subst h692
              have hw := hw.callB h691
              refine st_val hs (y_pickF rfl rfl) ⟨_, rfl, rfl⟩ rfl rfl fun a hs => ?_
              refine wpList_nil ?_
              have hsh := Option.some.inj hsh
              subst hsh
              refine then_normal ?_
              exact ⟨Sv683, (hs.wk rfl), (hw.ft [] [] (by decide) rfl rfl)⟩
            ·rintro a w ⟨Sv663, hs, hw⟩
             refine st_val hs (y_pickT rfl rfl) trivial rfl rfl fun a hs => ?_
             refine wpList_nil ?_
             have hsh := Option.some.inj hsh
             subst hsh
             refine then_normal ?_
             exact ⟨Sv663, (hs.wk rfl), (hw.ft [] [] (by decide) rfl rfl)⟩
          ·have hs := hs.fix 133 (.bool false) rfl (vb h626)
           have hsh := ite_f hc627 h626
           refine st_skip hs rfl rfl rfl rfl rfl fun a hs => ?_
           refine st_skip hs rfl rfl rfl rfl rfl fun a hs => ?_
           refine st_skip hs rfl rfl rfl rfl rfl fun a hs => ?_
           refine st_skip hs rfl rfl rfl rfl rfl fun a hs => ?_
           refine st_skipU hs rfl rfl rfl rfl rfl fun a hs => ?_
           refine st_skipU hs rfl rfl rfl rfl rfl fun a hs => ?_
           refine st_skipU hs rfl rfl rfl rfl rfl fun a hs => ?_
           refine st_skip hs rfl rfl rfl rfl rfl fun a hs => ?_
           refine st_skip hs rfl rfl rfl rfl rfl fun a hs => ?_
           refine st_skipU hs rfl rfl rfl rfl rfl fun a hs => ?_
           refine st_skipU hs rfl rfl rfl rfl rfl fun a hs => ?_
           refine st_skipU hs rfl rfl rfl rfl rfl fun a hs => ?_
           refine st_skipU hs rfl rfl rfl rfl rfl fun a hs => ?_
           refine st_skipU hs rfl rfl rfl rfl rfl fun a hs => ?_
           refine st_skipU hs rfl rfl rfl rfl rfl fun a hs => ?_
           refine st_skipU hs rfl rfl rfl rfl rfl fun a hs => ?_
           refine st_skipU hs rfl rfl rfl rfl rfl fun a hs => ?_
           refine st_skipU hs rfl rfl rfl rfl rfl fun a hs => ?_
           refine st_skipU hs rfl rfl rfl rfl rfl fun a hs => ?_
           refine st_skipU hs rfl rfl rfl rfl rfl fun a hs => ?_
           refine st_skip hs rfl rfl rfl rfl rfl fun a hs => ?_
           refine st_val hs (y_pickF rfl rfl) trivial rfl rfl fun a hs => ?_
           refine wpList_nil ?_
           have hsh := Option.some.inj hsh
           subst hsh
           refine then_normal ?_
           exact ⟨Sv543, (hs.wk rfl), (hw.ft [] [] (by decide) rfl rfl)⟩
         ·rintro a w ⟨Sv628, hs, hw⟩
          refine st_val hs (y_move rfl) trivial rfl rfl fun a hs => ?_
          obtain ⟨c704, hc704, hsh⟩ := bind_t hsh
          refine wpl_join 2 (fun a w => ∃ (Sv705 : Nat → Prop), Sl 159 [(158, .bool c704)] a ∧ Wd ⟨w0, S0, []⟩ Sv705 [] [] w) ?_ ?_
          ·rcases Bool.eq_false_or_eq_true c627 with h703 | h703
           ·have hs := hs.fix 156 (.bool true) rfl (vb h703)
            have hsh := ite_t hc704 h703
            obtain ⟨rv707, h706, hsh⟩ := bind_t hsh
            refine st_callR hs (law11_sane_ok h706 hw.bdom) (do_call Try.call8 rfl) ⟨_, rfl, rfl⟩ rfl rfl ?_
            intro v711 Sv708 w a h709 h710 hs
            subst h710
            have hw := hw.callB h709
            refine st_val hs (y_pickT rfl rfl) trivial rfl rfl fun a hs => ?_
            refine wpList_nil ?_
            have hsh := Option.some.inj hsh
            subst hsh
            refine then_normal ?_
            exact ⟨Sv628, (hs.wk rfl), (hw.ft [] [] (by decide) rfl rfl)⟩
           ·have hs := hs.fix 156 (.bool false) rfl (vb h703)
            have hsh := ite_f hc704 h703
            refine st_skip hs rfl rfl rfl rfl rfl fun a hs => ?_
            refine st_val hs (y_pickF rfl rfl) trivial rfl rfl fun a hs => ?_
            refine wpList_nil ?_
            have hsh := Option.some.inj hsh
            subst hsh
            refine then_normal ?_
            exact ⟨Sv628, (hs.wk rfl), (hw.ft [] [] (by decide) rfl rfl)⟩
          ·rintro a w ⟨Sv705, hs, hw⟩
           refine st_val hs (y_assign rfl) trivial rfl rfl fun a hs => ?_
           refine wpList_nil ?_
           refine then_normal ?_
           have hsh := Option.some.inj hsh
           subst hsh
           refine wp_ret ?_
           exact ret1 hs rfl (rv_tmp rfl) (hw.ret rfl)

end Go.Proofs.Ytiihddcppmjbaaa.Wk

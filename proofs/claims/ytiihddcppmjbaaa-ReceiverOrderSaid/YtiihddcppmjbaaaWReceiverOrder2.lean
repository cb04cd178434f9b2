/- The walks of ReceiverOrder, part 2: each Go function computes what its plain program computes. Printed by a program of ours. -/
import Derived.Test.YtiihddcppmjbaaaProg
import Derived.Test.YtiihddcppmjbaaaDat
import Derived.Test.YtiihddcppmjbaaaSh
import Derived.Test.YtiihddcppmjbaaaLibL
import Derived.KernelRfl
import Derived.Test.YtiihddcppmjbaaaWReceiverOrder1
namespace Go.Proofs.Ytiihddcppmjbaaa.Wk
open Go Go.RowKit Go.Proofs Go.Proofs.Ytiihddcppmjbaaa.Sh
set_option linter.unusedVariables false
set_option linter.unusedSimpArgs false

abbrev slices_partitionEqualCmpFunc_api_Span_rd (w0 : World) (X : List Nat) (p2 : Option Addr) (k3 : Nat) (data1 : (List Span)) (r : (Int × (List Span))) : (Nat → Prop) → World → Value → Prop := fun S w v => ∃ (ck_0 : List Value), v = .int .i64 r.1 ∧ Outs X w0 S w [.row p2 r.2.length k3 ck_0 46 2] ∧ (RowA ck_0 r.2).p S w ∧ (LenA data1.length r.2).p S w
set_option maxHeartbeats 4000000 in
set_option maxRecDepth 100000 in
theorem slices_partitionEqualCmpFunc_api_Span_ok {w0 : World} {S0 : Nat → Prop} {p2 : Option Addr} {k3 : Nat} {c4 : List Value} {g10 : Nat} {f11 : List Value} {cp12 : List Value} {data1 : (List Span)} {a6 : Int} {b7 : Int} {pivot8 : Int} {cmp9 : Span → Span → Option Int} {r : (Int × (List Span))} (hsh : slices_partitionEqualCmpFunc_api_Span data1 a6 b7 pivot8 cmp9 = some r) (hS : ∀ b, S0 b → b < w0.heap.size) (hin : Ins S0 w0 [.row p2 data1.length k3 c4 46 2]) (h5 : (RowA c4 data1).p S0 w0) (h13 : (FnA2 Try.prog g10 f11 cp12 cmp9).p S0 w0) : Calls Try.prog 76 #[.slice p2 data1.length k3, .int .i64 a6, .int .i64 b7, .int .i64 pivot8, .func (.func g10) f11.toArray cp12.toArray] w0 (Ret (blks [.row p2 data1.length k3 c4 46 2]) w0 S0 (slices_partitionEqualCmpFunc_api_Span_rd w0 (blks [.row p2 data1.length k3 c4 46 2]) p2 k3 data1 r)) := by
 refine calls_of_wp Try.func76 rfl ?_
 have hs := Sl.enter #[.slice p2 data1.length k3, .int .i64 a6, .int .i64 b7, .int .i64 pivot8, .func (.func g10) f11.toArray cp12.toArray] 90 [(0, .slice p2 data1.length k3), (1, .int .i64 a6), (2, .int .i64 b7), (3, .int .i64 pivot8), (4, .func (.func g10) f11.toArray cp12.toArray)] rfl ⟨rfl, rfl, rfl, rfl, rfl, trivial⟩
 have hw := Wd.enterI hS hin
 have hw := hw.addE h5
 have hw := hw.addE (e := LenA data1.length data1) len_rfl
 have hw := hw.addE h13
 delta slices_partitionEqualCmpFunc_api_Span at hsh
 refine wp_seq ?_
 refine wp_region_lit ?_
 refine st_val hs (y_assign rfl) trivial rfl rfl fun a hs => ?_
 refine wpList_nil ?_
 refine then_normal ?_
 refine wp_seq ?_
 obtain ⟨x16, h14, hsh⟩ := bind_t hsh
 obtain ⟨b23, q20, c21, h24, h17, h18, h22, h15⟩ := hw.elemRV (α := Span) 0 rfl 2 rfl h14
 have hsv25 := hs
 have hwv26 := hw
 subst h24
 have hs := hsv25
 have hw := hwv26
 obtain ⟨_, _, rfl, rfl, rfl⟩ := h15
 obtain ⟨x29, h27, hsh⟩ := bind_t hsh
 obtain ⟨q33, c34, h30, h31, h35, h28⟩ := hw.elemRK (α := Span) 0 rfl 2 rfl h27
 obtain ⟨_, _, rfl, rfl, rfl⟩ := h28
 obtain ⟨x38, h36, hsh⟩ := bind_t hsh
 obtain ⟨q42, c43, h39, h40, h44, h37⟩ := hw.elemRK (α := Span) 0 rfl 2 rfl h36
 obtain ⟨_, _, rfl, rfl, rfl⟩ := h37
 obtain ⟨l46, h45, hsh⟩ := bind_t hsh
 obtain ⟨x51, h49, hsh⟩ := bind_t hsh
 obtain ⟨l59, h58, hsh⟩ := bind_t hsh
 refine wp_only (fun a w => ∃ (Sv62 : Nat → Prop) (c60 : List Value), Sl 90 [(0, .slice (some ⟨b23, 0, none⟩) l59.length k3), (1, .int .i64 a6), (2, .int .i64 b7), (4, .func (.func g10) f11.toArray cp12.toArray)] a ∧ Wd ⟨w0, S0, blks [.row (some ⟨b23, 0, none⟩) data1.length k3 c4 46 2]⟩ Sv62 [.row (some ⟨b23, 0, none⟩) l59.length k3 c60 46 2] [FnA2 Try.prog g10 f11 cp12 cmp9, RowA c60 l59, LenA data1.length l59] w) ?_ ?_
 ·refine h_b (C := Cls [] []) (by kernel_rfl) rfl (hw.drew.cs [] [] rfl rfl) fun hC => ?_
  have hw := hw.drew
  refine h_g hs 0 rfl (by kernel_rfl) rfl rfl hC rfl (fun w hC => y_move rfl) fun a hs => ?_
  refine h_g hs 1 rfl (by kernel_rfl) rfl rfl hC rfl (fun w hC => y_move rfl) fun a hs => ?_
  refine h_g hs 2 rfl (by kernel_rfl) rfl rfl hC rfl (fun w hC => y_move rfl) fun a hs => ?_
  refine h_g hs 3 rfl (by kernel_rfl) rfl rfl hC rfl (fun w hC => y_move rfl) fun a hs => ?_
  refine h_g hs 4 rfl (by kernel_rfl) rfl rfl hC rfl (fun w hC => y_move rfl) fun a hs => ?_
  refine h_g hs 5 rfl (by kernel_rfl) rfl rfl hC rfl (fun w hC => y_move rfl) fun a hs => ?_
  refine h_g hs 6 rfl (by kernel_rfl) rfl rfl hC rfl (fun w hC => y_indexAt Try.runUnderlying27 Try.sizeOf46 rfl rfl h17.1 h17.2 h18) fun a hs => ?_
  refine h_g hs 8 rfl (by kernel_rfl) rfl rfl hC rfl (fun w hC => y_move rfl) fun a hs => ?_
  refine h_g hs 9 rfl (by kernel_rfl) rfl rfl hC rfl (fun w hC => y_move rfl) fun a hs => ?_
  refine h_g hs 10 rfl (by kernel_rfl) rfl rfl hC rfl (fun w hC => y_indexAt Try.runUnderlying27 Try.sizeOf46 rfl rfl h30.1 h30.2 h31) fun a hs => ?_
  refine h_all (rs := [7, 11]) (by kernel_rfl) rfl ?_
  refine AllH.cons rfl ?_ ?_
  ·refine st_val hs (y_loadQA (j := 0) (hw.ownAt 0 rfl) rfl Try.isAgg46 Try.sizeOf46 h22 rfl rfl) trivial rfl rfl fun a hs => ?_
   refine h_nx (hw.cs [] [] rfl rfl) fun hC => ?_
   refine h_one (i := 11) (by kernel_rfl) rfl ?_
   refine st_val hs (y_loadQA (j := 0) (hw.ownAt 0 rfl) rfl Try.isAgg46 Try.sizeOf46 h35 rfl rfl) trivial rfl rfl fun a hs => ?_
   refine h_nx (hw.cs [] [] rfl rfl) fun hC => ?_
   refine h_g hs 12 rfl (by kernel_rfl) rfl rfl hC rfl (fun w hC => y_indexAt Try.runUnderlying27 Try.sizeOf46 rfl rfl h39.1 h39.2 h40) fun a hs => ?_
   refine h_one (i := 13) (by kernel_rfl) rfl ?_
   have h63 := hw.envAt 1 rfl
   refine w_storeF (α := Span) hs hw 0 rfl 2 rfl h40 rfl rfl Try.sizeOf46 rfl h45 ⟨_, _, rfl, rfl, rfl⟩ trivial ?_
   intro c47 a w hs hw
   have hw := hw.addE (e := LenA data1.length l46) (len_set (w := w) (S := S0) h63 h45)
   have h48 := setM_len h45
   try have hs := hs.fix 0 (.slice (some ⟨b23, 0, none⟩) l46.length k3) rfl (by rw [h48])
   try have hs := hs.fix 13 (.slice (some ⟨b23, 0, none⟩) l46.length k3) rfl (by rw [h48])
   try have hs := hs.fix 15 (.slice (some ⟨b23, 0, none⟩) l46.length k3) rfl (by rw [h48])
   try have hs := hs.fix 17 (.slice (some ⟨b23, 0, none⟩) l46.length k3) rfl (by rw [h48])
   try have hs := hs.fix 21 (.slice (some ⟨b23, 0, none⟩) l46.length k3) rfl (by rw [h48])
   refine h_nx (hw.cs [] [] rfl rfl) fun hC => ?_
   refine h_one (i := 14) (by kernel_rfl) rfl ?_
   obtain ⟨c56, h52, h57, h50⟩ := hw.elemRX (α := Span) 0 rfl 1 rfl h49
   obtain ⟨_, _, rfl, rfl, rfl⟩ := h50
   refine st_val hs (y_indexAt Try.runUnderlying27 Try.sizeOf46 rfl rfl h52.1 h52.2 rfl) trivial rfl rfl fun a hs => ?_
   refine h_nx (hw.cs [] [] rfl rfl) fun hC => ?_
   refine h_one (i := 15) (by kernel_rfl) rfl ?_
   have h64 := hw.envAt 0 rfl
   refine w_storeF (α := Span) hs hw 0 rfl 1 rfl rfl rfl rfl Try.sizeOf46 rfl h58 ⟨_, _, rfl, rfl, rfl⟩ trivial ?_
   intro c60 a w hs hw
   have hw := hw.addE (e := LenA data1.length l59) (len_set (w := w) (S := S0) h64 h58)
   have h61 := setM_len h58
   try have hs := hs.fix 0 (.slice (some ⟨b23, 0, none⟩) l59.length k3) rfl (by rw [h61])
   try have hs := hs.fix 13 (.slice (some ⟨b23, 0, none⟩) l59.length k3) rfl (by rw [h61])
   try have hs := hs.fix 15 (.slice (some ⟨b23, 0, none⟩) l59.length k3) rfl (by rw [h61])
   try have hs := hs.fix 17 (.slice (some ⟨b23, 0, none⟩) l59.length k3) rfl (by rw [h61])
   try have hs := hs.fix 21 (.slice (some ⟨b23, 0, none⟩) l59.length k3) rfl (by rw [h61])
   refine h_nx (hw.cs [] [] rfl rfl) fun hC => ?_
   refine h_done (by kernel_rfl) ?_
   exact ⟨S0, c60, (hs.wk rfl), (hw.ft [0] [4, 1, 0] (by decide) rfl rfl)⟩
  refine AllH.cons rfl ?_ ?_
  ·refine st_val hs (y_loadQA (j := 0) (hw.ownAt 0 rfl) rfl Try.isAgg46 Try.sizeOf46 h35 rfl rfl) trivial rfl rfl fun a hs => ?_
   refine h_nx (hw.cs [] [] rfl rfl) fun hC => ?_
   refine h_one (i := 7) (by kernel_rfl) rfl ?_
   refine st_val hs (y_loadQA (j := 0) (hw.ownAt 0 rfl) rfl Try.isAgg46 Try.sizeOf46 h22 rfl rfl) trivial rfl rfl fun a hs => ?_
   refine h_nx (hw.cs [] [] rfl rfl) fun hC => ?_
   refine h_g hs 12 rfl (by kernel_rfl) rfl rfl hC rfl (fun w hC => y_indexAt Try.runUnderlying27 Try.sizeOf46 rfl rfl h39.1 h39.2 h40) fun a hs => ?_
   refine h_one (i := 13) (by kernel_rfl) rfl ?_
   have h65 := hw.envAt 1 rfl
   refine w_storeF (α := Span) hs hw 0 rfl 2 rfl h40 rfl rfl Try.sizeOf46 rfl h45 ⟨_, _, rfl, rfl, rfl⟩ trivial ?_
   intro c47 a w hs hw
   have hw := hw.addE (e := LenA data1.length l46) (len_set (w := w) (S := S0) h65 h45)
   have h48 := setM_len h45
   try have hs := hs.fix 0 (.slice (some ⟨b23, 0, none⟩) l46.length k3) rfl (by rw [h48])
   try have hs := hs.fix 13 (.slice (some ⟨b23, 0, none⟩) l46.length k3) rfl (by rw [h48])
   try have hs := hs.fix 15 (.slice (some ⟨b23, 0, none⟩) l46.length k3) rfl (by rw [h48])
   try have hs := hs.fix 17 (.slice (some ⟨b23, 0, none⟩) l46.length k3) rfl (by rw [h48])
   try have hs := hs.fix 21 (.slice (some ⟨b23, 0, none⟩) l46.length k3) rfl (by rw [h48])
   refine h_nx (hw.cs [] [] rfl rfl) fun hC => ?_
   refine h_one (i := 14) (by kernel_rfl) rfl ?_
   obtain ⟨c56, h52, h57, h50⟩ := hw.elemRX (α := Span) 0 rfl 1 rfl h49
   obtain ⟨_, _, rfl, rfl, rfl⟩ := h50
   refine st_val hs (y_indexAt Try.runUnderlying27 Try.sizeOf46 rfl rfl h52.1 h52.2 rfl) trivial rfl rfl fun a hs => ?_
   refine h_nx (hw.cs [] [] rfl rfl) fun hC => ?_
   refine h_one (i := 15) (by kernel_rfl) rfl ?_
   have h66 := hw.envAt 0 rfl
   refine w_storeF (α := Span) hs hw 0 rfl 1 rfl rfl rfl rfl Try.sizeOf46 rfl h58 ⟨_, _, rfl, rfl, rfl⟩ trivial ?_
   intro c60 a w hs hw
   have hw := hw.addE (e := LenA data1.length l59) (len_set (w := w) (S := S0) h66 h58)
   have h61 := setM_len h58
   try have hs := hs.fix 0 (.slice (some ⟨b23, 0, none⟩) l59.length k3) rfl (by rw [h61])
   try have hs := hs.fix 13 (.slice (some ⟨b23, 0, none⟩) l59.length k3) rfl (by rw [h61])
   try have hs := hs.fix 15 (.slice (some ⟨b23, 0, none⟩) l59.length k3) rfl (by rw [h61])
   try have hs := hs.fix 17 (.slice (some ⟨b23, 0, none⟩) l59.length k3) rfl (by rw [h61])
   try have hs := hs.fix 21 (.slice (some ⟨b23, 0, none⟩) l59.length k3) rfl (by rw [h61])
   refine h_nx (hw.cs [] [] rfl rfl) fun hC => ?_
   refine h_done (by kernel_rfl) ?_
   exact ⟨S0, c60, (hs.wk rfl), (hw.ft [0] [4, 1, 0] (by decide) rfl rfl)⟩
  exact AllH.nil
 ·rintro a w ⟨Sv62, c60, hs, hw⟩
  refine then_normal ?_
  refine wp_seq ?_
  refine wp_region_lit ?_
  refine st_val hs (y_move rfl) trivial rfl rfl fun a hs => ?_
  refine st_val hs (y_add rfl rfl) trivial rfl rfl fun a hs => ?_
  refine st_val hs (y_move rfl) trivial rfl rfl fun a hs => ?_
  refine st_val hs (y_sub rfl rfl) trivial rfl rfl fun a hs => ?_
  obtain ⟨i68, h67, hsh⟩ := bind_t hsh
  refine st_val hs (y_assignI rfl h67) trivial rfl rfl fun a hs => ?_
  obtain ⟨j70, h69, hsh⟩ := bind_t hsh
  refine st_val hs (y_assignI rfl h69) trivial rfl rfl fun a hs => ?_
  refine wpList_nil ?_
  refine then_normal ?_
  refine wp_seq ?_
  obtain ⟨e727, h1282, hsh⟩ := bind_t hsh
  refine wp_join (fun a w => ∃ (c728 : List Value) (Sv729 : Nat → Prop), Sl 90 [(11, .int .i64 e727.1)] a ∧ Wd ⟨w0, S0, blks [.row (some ⟨b23, 0, none⟩) data1.length k3 c4 46 2]⟩ Sv729 [.row (some ⟨b23, 0, none⟩) e727.2.length k3 c728 46 2] [RowA c728 e727.2, LenA data1.length e727.2] w) ?_ ?_
  ·refine wp_block ?_
   refine wp_while (fun sv71 a w => ∃ (c506 : List Value) (Sv507 : Nat → Prop), Sl 90 [(0, .slice (some ⟨b23, 0, none⟩) sv71.1.length k3), (1, .int .i64 a6), (4, .func (.func g10) f11.toArray cp12.toArray), (11, .int .i64 sv71.2.1), (12, .int .i64 sv71.2.2)] a ∧ Wd ⟨w0, S0, blks [.row (some ⟨b23, 0, none⟩) data1.length k3 c4 46 2]⟩ Sv507 [.row (some ⟨b23, 0, none⟩) sv71.1.length k3 c506 46 2] [FnA2 Try.prog g10 f11 cp12 cmp9, RowA c506 sv71.1, LenA data1.length sv71.1] w) (l59, i68, j70) h1282 ⟨c60, Sv62, (hs.wk rfl), (hw.ft [0] [0, 1, 2] (by decide) rfl rfl)⟩ ?_
   clear h1282
   repeat clear hsh
   rintro sv71 a w tv725 ⟨c506, Sv507, hs, hw⟩ hsh hd724
   delta slices_partitionEqualCmpFunc_api_Span_l5 at hsh
   refine wp_block ?_
   refine wp_seq ?_
   obtain ⟨e1027, h1281, hsh⟩ := bind_t hsh
   refine wp_join (fun a w => ∃ (Sv1028 : Nat → Prop), Sl 90 [(0, .slice (some ⟨b23, 0, none⟩) sv71.1.length k3), (1, .int .i64 a6), (4, .func (.func g10) f11.toArray cp12.toArray), (11, .int .i64 e1027), (12, .int .i64 sv71.2.2)] a ∧ Wd ⟨w0, S0, blks [.row (some ⟨b23, 0, none⟩) data1.length k3 c4 46 2]⟩ Sv1028 [.row (some ⟨b23, 0, none⟩) sv71.1.length k3 c506 46 2] [FnA2 Try.prog g10 f11 cp12 cmp9, RowA c506 sv71.1, LenA data1.length sv71.1] w) ?_ ?_
   ·refine wp_block ?_
    refine wp_while (fun sv946 a w => ∃ (Sv998 : Nat → Prop), Sl 90 [(0, .slice (some ⟨b23, 0, none⟩) sv71.1.length k3), (1, .int .i64 a6), (4, .func (.func g10) f11.toArray cp12.toArray), (11, .int .i64 sv946), (12, .int .i64 sv71.2.2)] a ∧ Wd ⟨w0, S0, blks [.row (some ⟨b23, 0, none⟩) data1.length k3 c4 46 2]⟩ Sv998 [.row (some ⟨b23, 0, none⟩) sv71.1.length k3 c506 46 2] [FnA2 Try.prog g10 f11 cp12 cmp9, RowA c506 sv71.1, LenA data1.length sv71.1] w) sv71.2.1 h1281 ⟨Sv507, (hs.wk rfl), (hw.ft [0] [0, 1, 2] (by decide) rfl rfl)⟩ ?_
    clear h1281
    repeat clear hsh
    rintro sv946 a w tv1025 ⟨Sv998, hs, hw⟩ hsh hd1024
    delta slices_partitionEqualCmpFunc_api_Span_l10 at hsh
    refine wp_seq ?_
    refine wp_seq ?_
    obtain ⟨c1049, hc1049, hsh⟩ := bind_t hsh
    refine wp_only (fun a w => ∃ (Sv1050 : Nat → Prop), Sl 90 [(0, .slice (some ⟨b23, 0, none⟩) sv71.1.length k3), (1, .int .i64 a6), (4, .func (.func g10) f11.toArray cp12.toArray), (11, .int .i64 sv946), (12, .int .i64 sv71.2.2), (47, .bool c1049)] a ∧ Wd ⟨w0, S0, blks [.row (some ⟨b23, 0, none⟩) data1.length k3 c4 46 2]⟩ Sv1050 [.row (some ⟨b23, 0, none⟩) sv71.1.length k3 c506 46 2] [FnA2 Try.prog g10 f11 cp12 cmp9, RowA c506 sv71.1, LenA data1.length sv71.1] w) ?_ ?_
    ·rcases Bool.eq_false_or_eq_true (decide (sv946 ≤ sv71.2.2)) with h1051 | h1051
     ·have h1052 := ite_t hc1049 h1051
      obtain ⟨x1055, h1053, h1052⟩ := bind_t h1052
      obtain ⟨q1059, c1060, h1056, h1057, h1061, h1054⟩ := hw.elemRK (α := Span) 0 rfl 1 rfl h1053
      obtain ⟨_, _, rfl, rfl, rfl⟩ := h1054
      obtain ⟨x1064, h1062, h1052⟩ := bind_t h1052
      obtain ⟨q1068, c1069, h1065, h1066, h1070, h1063⟩ := hw.elemRK (α := Span) 0 rfl 1 rfl h1062
      obtain ⟨_, _, rfl, rfl, rfl⟩ := h1063
      obtain ⟨rv1072, h1071, h1052⟩ := bind_t h1052
      refine h_b (C := Cls [.row (some ⟨b23, 0, none⟩) sv71.1.length k3 c506 46 2] []) (by kernel_rfl) rfl (hw.drew.cs [0] [] rfl rfl) fun hC => ?_
      have hw := hw.drew
      refine h_g hs 0 rfl (by kernel_rfl) rfl rfl hC rfl (fun w hC => y_move rfl) fun a hs => ?_
      refine h_g hs 1 rfl (by kernel_rfl) rfl rfl hC rfl (fun w hC => y_move rfl) fun a hs => ?_
      refine h_g hs 2 rfl (by kernel_rfl) rfl rfl hC rfl (fun w hC => y_leq rfl rfl) fun a hs => ?_
      refine h_g hs 3 rfl (by kernel_rfl) rfl rfl hC rfl (fun w hC => y_move rfl) fun a hs => ?_
      have hs := hs.fix 34 (.bool true) rfl (vb h1051)
      refine h_t hs 4 rfl (by kernel_rfl) ⟨_, rfl, rfl⟩ rfl rfl hC (fun w hC => y_move rfl) fun a hs => ?_
      refine h_t hs 5 rfl (by kernel_rfl) ⟨_, rfl, rfl⟩ rfl rfl hC (fun w hC => y_move rfl) fun a hs => ?_
      refine h_t hs 6 rfl (by kernel_rfl) ⟨_, rfl, rfl⟩ rfl rfl hC (fun w hC => y_move rfl) fun a hs => ?_
      refine h_t hs 7 rfl (by kernel_rfl) ⟨_, rfl, rfl⟩ rfl rfl hC (fun w hC => y_indexAt Try.runUnderlying27 Try.sizeOf46 rfl rfl h1056.1 h1056.2 h1057) fun a hs => ?_
      refine h_t hs 8 rfl (by kernel_rfl) ⟨_, rfl, rfl⟩ rfl rfl hC (fun w hC => y_loadQA (j := 0) (hC.ownAt 0 rfl) rfl Try.isAgg46 Try.sizeOf46 h1061 rfl rfl) fun a hs => ?_
      refine h_t hs 9 rfl (by kernel_rfl) ⟨_, rfl, rfl⟩ rfl rfl hC (fun w hC => y_move rfl) fun a hs => ?_
      refine h_t hs 10 rfl (by kernel_rfl) ⟨_, rfl, rfl⟩ rfl rfl hC (fun w hC => y_move rfl) fun a hs => ?_
      refine h_t hs 11 rfl (by kernel_rfl) ⟨_, rfl, rfl⟩ rfl rfl hC (fun w hC => y_indexAt Try.runUnderlying27 Try.sizeOf46 rfl rfl h1065.1 h1065.2 h1066) fun a hs => ?_
      refine h_t hs 12 rfl (by kernel_rfl) ⟨_, rfl, rfl⟩ rfl rfl hC (fun w hC => y_loadQA (j := 0) (hC.ownAt 0 rfl) rfl Try.isAgg46 Try.sizeOf46 h1070 rfl rfl) fun a hs => ?_
      refine h_one (i := 13) (by kernel_rfl) rfl ?_
      refine st_callR hs ((hw.bE 0 rfl).2 Keep.rfl' hw.bdom ⟨_, _, rfl, rfl, rfl⟩ ⟨_, _, rfl, rfl, rfl⟩ h1071) (do_callF (hw.bE 0 rfl).1 rfl rfl) ⟨_, rfl, rfl⟩ rfl rfl ?_
      intro v1076 Sv1073 w a h1074 h1075 hs
      subst h1075
      have hw := hw.callB h1074
      refine h_nx (hw.cs [0] [] rfl rfl) fun hC => ?_
      refine h_t hs 14 rfl (by kernel_rfl) ⟨_, rfl, rfl⟩ rfl rfl hC (fun w hC => y_lss rfl rfl) fun a hs => ?_
      refine h_t hs 15 rfl (by kernel_rfl) ⟨_, rfl, rfl⟩ rfl rfl hC (fun w hC => y_not rfl) fun a hs => ?_
      refine h_g hs 16 rfl (by kernel_rfl) rfl rfl hC rfl (fun w hC => y_pickTE (v := .bool c1049) rfl rfl (vbs h1052)) fun a hs => ?_
      refine h_done (by kernel_rfl) ?_
      exact ⟨Sv998, (hs.wk rfl), (hw.ft [0] [0, 1, 2] (by decide) rfl rfl)⟩
     ·have h1077 := ite_f hc1049 h1051
      refine h_b (C := Cls [.row (some ⟨b23, 0, none⟩) sv71.1.length k3 c506 46 2] []) (by kernel_rfl) rfl (hw.drew.cs [0] [] rfl rfl) fun hC => ?_
      have hw := hw.drew
      refine h_g hs 0 rfl (by kernel_rfl) rfl rfl hC rfl (fun w hC => y_move rfl) fun a hs => ?_
      refine h_g hs 1 rfl (by kernel_rfl) rfl rfl hC rfl (fun w hC => y_move rfl) fun a hs => ?_
      refine h_g hs 2 rfl (by kernel_rfl) rfl rfl hC rfl (fun w hC => y_leq rfl rfl) fun a hs => ?_
      refine h_g hs 3 rfl (by kernel_rfl) rfl rfl hC rfl (fun w hC => y_move rfl) fun a hs => ?_
      have hs := hs.fix 34 (.bool false) rfl (vb h1051)
      refine h_s hs 4 rfl (by kernel_rfl) rfl rfl rfl (.inl rfl) rfl rfl hC fun a hs => ?_
      refine h_s hs 5 rfl (by kernel_rfl) rfl rfl rfl (.inl rfl) rfl rfl hC fun a hs => ?_
      refine h_s hs 6 rfl (by kernel_rfl) rfl rfl rfl (.inl rfl) rfl rfl hC fun a hs => ?_
      refine h_s hs 7 rfl (by kernel_rfl) rfl rfl rfl (.inl rfl) rfl rfl hC fun a hs => ?_
      refine h_s hs 8 rfl (by kernel_rfl) rfl rfl rfl (.inl rfl) rfl rfl hC fun a hs => ?_
      refine h_s hs 9 rfl (by kernel_rfl) rfl rfl rfl (.inl rfl) rfl rfl hC fun a hs => ?_
      refine h_s hs 10 rfl (by kernel_rfl) rfl rfl rfl (.inl rfl) rfl rfl hC fun a hs => ?_
      refine h_s hs 11 rfl (by kernel_rfl) rfl rfl rfl (.inl rfl) rfl rfl hC fun a hs => ?_
      refine h_s hs 12 rfl (by kernel_rfl) rfl rfl rfl (.inl rfl) rfl rfl hC fun a hs => ?_
      refine h_s hs 13 rfl (by kernel_rfl) rfl rfl rfl (.inl rfl) rfl rfl hC fun a hs => ?_
      refine h_s hs 14 rfl (by kernel_rfl) rfl rfl rfl (.inl rfl) rfl rfl hC fun a hs => ?_
      refine h_s hs 15 rfl (by kernel_rfl) rfl rfl rfl (.inl rfl) rfl rfl hC fun a hs => ?_
      refine h_g hs 16 rfl (by kernel_rfl) rfl rfl hC rfl (fun w hC => y_pickFE (v := .bool c1049) rfl rfl (vbs h1077)) fun a hs => ?_
      refine h_done (by kernel_rfl) ?_
      exact ⟨Sv998, (hs.wk rfl), (hw.ft [0] [0, 1, 2] (by decide) rfl rfl)⟩
    ·rintro a w ⟨Sv1050, hs, hw⟩
     refine then_normal ?_
     refine wp_cond_split (hs.ev rfl) (fun h1079 => ?_) (fun h1079 => ?_)
     ·have hsh := ite_t hsh h1079
      refine wp_skip ?_
      refine then_normal ?_
      refine wp_block ?_
      refine wp_region_lit ?_
      refine st_val hs (y_move rfl) trivial rfl rfl fun a hs => ?_
      refine st_val hs (y_add rfl rfl) trivial rfl rfl fun a hs => ?_
      obtain ⟨i1083, h1082, hsh⟩ := bind_t hsh
      refine st_val hs (y_assignI rfl h1082) trivial rfl rfl fun a hs => ?_
      refine wpList_nil ?_
      refine blk_normal ?_
      refine then_normal ?_
      exact ⟨_, (Option.some.inj hsh).symm, Sv1050, (hs.wk rfl), (hw.ft [0] [0, 1, 2] (by decide) rfl rfl)⟩
     ·have hsh := ite_f hsh h1079
      refine wp_exit ?_
      refine then_exit ?_
      refine then_exit ?_
      refine blk_exit ?_
      have hsh := Option.some.inj hsh
      subst hsh
      have h1084 := hd1024 _ rfl
      subst h1084
      refine then_normal ?_
      exact ⟨Sv1050, (hs.wk rfl), (hw.ft [0] [0, 1, 2] (by decide) rfl rfl)⟩
   ·rintro a w ⟨Sv1028, hs, hw⟩
    refine then_normal ?_
    refine wp_seq ?_
    obtain ⟨e1166, h1280, hsh⟩ := bind_t hsh
    refine wp_join (fun a w => ∃ (Sv1167 : Nat → Prop), Sl 90 [(0, .slice (some ⟨b23, 0, none⟩) sv71.1.length k3), (1, .int .i64 a6), (4, .func (.func g10) f11.toArray cp12.toArray), (11, .int .i64 e1027), (12, .int .i64 e1166)] a ∧ Wd ⟨w0, S0, blks [.row (some ⟨b23, 0, none⟩) data1.length k3 c4 46 2]⟩ Sv1167 [.row (some ⟨b23, 0, none⟩) sv71.1.length k3 c506 46 2] [FnA2 Try.prog g10 f11 cp12 cmp9, RowA c506 sv71.1, LenA data1.length sv71.1] w) ?_ ?_
    ·refine wp_block ?_
     refine wp_while (fun sv1085 a w => ∃ (Sv1137 : Nat → Prop), Sl 90 [(0, .slice (some ⟨b23, 0, none⟩) sv71.1.length k3), (1, .int .i64 a6), (4, .func (.func g10) f11.toArray cp12.toArray), (11, .int .i64 e1027), (12, .int .i64 sv1085)] a ∧ Wd ⟨w0, S0, blks [.row (some ⟨b23, 0, none⟩) data1.length k3 c4 46 2]⟩ Sv1137 [.row (some ⟨b23, 0, none⟩) sv71.1.length k3 c506 46 2] [FnA2 Try.prog g10 f11 cp12 cmp9, RowA c506 sv71.1, LenA data1.length sv71.1] w) sv71.2.2 h1280 ⟨Sv1028, (hs.wk rfl), (hw.ft [0] [0, 1, 2] (by decide) rfl rfl)⟩ ?_
     clear h1280
     repeat clear hsh
     rintro sv1085 a w tv1164 ⟨Sv1137, hs, hw⟩ hsh hd1163
     delta slices_partitionEqualCmpFunc_api_Span_l11 at hsh
     refine wp_seq ?_
     refine wp_seq ?_
     obtain ⟨c1188, hc1188, hsh⟩ := bind_t hsh
     refine wp_only (fun a w => ∃ (Sv1189 : Nat → Prop), Sl 90 [(0, .slice (some ⟨b23, 0, none⟩) sv71.1.length k3), (1, .int .i64 a6), (4, .func (.func g10) f11.toArray cp12.toArray), (11, .int .i64 e1027), (12, .int .i64 sv1085), (65, .bool c1188)] a ∧ Wd ⟨w0, S0, blks [.row (some ⟨b23, 0, none⟩) data1.length k3 c4 46 2]⟩ Sv1189 [.row (some ⟨b23, 0, none⟩) sv71.1.length k3 c506 46 2] [FnA2 Try.prog g10 f11 cp12 cmp9, RowA c506 sv71.1, LenA data1.length sv71.1] w) ?_ ?_
     ·rcases Bool.eq_false_or_eq_true (decide (e1027 ≤ sv1085)) with h1190 | h1190
      ·have h1191 := ite_t hc1188 h1190
       obtain ⟨x1194, h1192, h1191⟩ := bind_t h1191
       obtain ⟨q1198, c1199, h1195, h1196, h1200, h1193⟩ := hw.elemRK (α := Span) 0 rfl 1 rfl h1192
       obtain ⟨_, _, rfl, rfl, rfl⟩ := h1193
       obtain ⟨x1203, h1201, h1191⟩ := bind_t h1191
       obtain ⟨q1207, c1208, h1204, h1205, h1209, h1202⟩ := hw.elemRK (α := Span) 0 rfl 1 rfl h1201
       obtain ⟨_, _, rfl, rfl, rfl⟩ := h1202
       obtain ⟨rv1211, h1210, h1191⟩ := bind_t h1191
       refine h_b (C := Cls [.row (some ⟨b23, 0, none⟩) sv71.1.length k3 c506 46 2] []) (by kernel_rfl) rfl (hw.drew.cs [0] [] rfl rfl) fun hC => ?_
       have hw := hw.drew
       refine h_g hs 0 rfl (by kernel_rfl) rfl rfl hC rfl (fun w hC => y_move rfl) fun a hs => ?_
       refine h_g hs 1 rfl (by kernel_rfl) rfl rfl hC rfl (fun w hC => y_move rfl) fun a hs => ?_
       refine h_g hs 2 rfl (by kernel_rfl) rfl rfl hC rfl (fun w hC => y_leq rfl rfl) fun a hs => ?_
       refine h_g hs 3 rfl (by kernel_rfl) rfl rfl hC rfl (fun w hC => y_move rfl) fun a hs => ?_
       have hs := hs.fix 53 (.bool true) rfl (vb h1190)
       refine h_t hs 4 rfl (by kernel_rfl) ⟨_, rfl, rfl⟩ rfl rfl hC (fun w hC => y_move rfl) fun a hs => ?_
       refine h_t hs 5 rfl (by kernel_rfl) ⟨_, rfl, rfl⟩ rfl rfl hC (fun w hC => y_move rfl) fun a hs => ?_
       refine h_t hs 6 rfl (by kernel_rfl) ⟨_, rfl, rfl⟩ rfl rfl hC (fun w hC => y_move rfl) fun a hs => ?_
       refine h_t hs 7 rfl (by kernel_rfl) ⟨_, rfl, rfl⟩ rfl rfl hC (fun w hC => y_indexAt Try.runUnderlying27 Try.sizeOf46 rfl rfl h1195.1 h1195.2 h1196) fun a hs => ?_
       refine h_t hs 8 rfl (by kernel_rfl) ⟨_, rfl, rfl⟩ rfl rfl hC (fun w hC => y_loadQA (j := 0) (hC.ownAt 0 rfl) rfl Try.isAgg46 Try.sizeOf46 h1200 rfl rfl) fun a hs => ?_
       refine h_t hs 9 rfl (by kernel_rfl) ⟨_, rfl, rfl⟩ rfl rfl hC (fun w hC => y_move rfl) fun a hs => ?_
       refine h_t hs 10 rfl (by kernel_rfl) ⟨_, rfl, rfl⟩ rfl rfl hC (fun w hC => y_move rfl) fun a hs => ?_
       refine h_t hs 11 rfl (by kernel_rfl) ⟨_, rfl, rfl⟩ rfl rfl hC (fun w hC => y_indexAt Try.runUnderlying27 Try.sizeOf46 rfl rfl h1204.1 h1204.2 h1205) fun a hs => ?_
       refine h_t hs 12 rfl (by kernel_rfl) ⟨_, rfl, rfl⟩ rfl rfl hC (fun w hC => y_loadQA (j := 0) (hC.ownAt 0 rfl) rfl Try.isAgg46 Try.sizeOf46 h1209 rfl rfl) fun a hs => ?_
       refine h_one (i := 13) (by kernel_rfl) rfl ?_
       refine st_callR hs ((hw.bE 0 rfl).2 Keep.rfl' hw.bdom ⟨_, _, rfl, rfl, rfl⟩ ⟨_, _, rfl, rfl, rfl⟩ h1210) (do_callF (hw.bE 0 rfl).1 rfl rfl) ⟨_, rfl, rfl⟩ rfl rfl ?_
       intro v1215 Sv1212 w a h1213 h1214 hs
       subst h1214
       have hw := hw.callB h1213
       refine h_nx (hw.cs [0] [] rfl rfl) fun hC => ?_
       refine h_t hs 14 rfl (by kernel_rfl) ⟨_, rfl, rfl⟩ rfl rfl hC (fun w hC => y_lss rfl rfl) fun a hs => ?_
       refine h_g hs 15 rfl (by kernel_rfl) rfl rfl hC rfl (fun w hC => y_pickTE (v := .bool c1188) rfl rfl (vbs h1191)) fun a hs => ?_
       refine h_done (by kernel_rfl) ?_
       exact ⟨Sv1137, (hs.wk rfl), (hw.ft [0] [0, 1, 2] (by decide) rfl rfl)⟩
      ·have h1216 := ite_f hc1188 h1190
       refine h_b (C := Cls [.row (some ⟨b23, 0, none⟩) sv71.1.length k3 c506 46 2] []) (by kernel_rfl) rfl (hw.drew.cs [0] [] rfl rfl) fun hC => ?_
       have hw := hw.drew
       refine h_g hs 0 rfl (by kernel_rfl) rfl rfl hC rfl (fun w hC => y_move rfl) fun a hs => ?_
       refine h_g hs 1 rfl (by kernel_rfl) rfl rfl hC rfl (fun w hC => y_move rfl) fun a hs => ?_
       refine h_g hs 2 rfl (by kernel_rfl) rfl rfl hC rfl (fun w hC => y_leq rfl rfl) fun a hs => ?_
       refine h_g hs 3 rfl (by kernel_rfl) rfl rfl hC rfl (fun w hC => y_move rfl) fun a hs => ?_
       have hs := hs.fix 53 (.bool false) rfl (vb h1190)
       refine h_s hs 4 rfl (by kernel_rfl) rfl rfl rfl (.inl rfl) rfl rfl hC fun a hs => ?_
       refine h_s hs 5 rfl (by kernel_rfl) rfl rfl rfl (.inl rfl) rfl rfl hC fun a hs => ?_
       refine h_s hs 6 rfl (by kernel_rfl) rfl rfl rfl (.inl rfl) rfl rfl hC fun a hs => ?_
       refine h_s hs 7 rfl (by kernel_rfl) rfl rfl rfl (.inl rfl) rfl rfl hC fun a hs => ?_
       refine h_s hs 8 rfl (by kernel_rfl) rfl rfl rfl (.inl rfl) rfl rfl hC fun a hs => ?_
       refine h_s hs 9 rfl (by kernel_rfl) rfl rfl rfl (.inl rfl) rfl rfl hC fun a hs => ?_
       refine h_s hs 10 rfl (by kernel_rfl) rfl rfl rfl (.inl rfl) rfl rfl hC fun a hs => ?_
       refine h_s hs 11 rfl (by kernel_rfl) rfl rfl rfl (.inl rfl) rfl rfl hC fun a hs => ?_
       refine h_s hs 12 rfl (by kernel_rfl) rfl rfl rfl (.inl rfl) rfl rfl hC fun a hs => ?_
       refine h_s hs 13 rfl (by kernel_rfl) rfl rfl rfl (.inl rfl) rfl rfl hC fun a hs => ?_
       refine h_s hs 14 rfl (by kernel_rfl) rfl rfl rfl (.inl rfl) rfl rfl hC fun a hs => ?_
       refine h_g hs 15 rfl (by kernel_rfl) rfl rfl hC rfl (fun w hC => y_pickFE (v := .bool c1188) rfl rfl (vbs h1216)) fun a hs => ?_
       refine h_done (by kernel_rfl) ?_
       exact ⟨Sv1137, (hs.wk rfl), (hw.ft [0] [0, 1, 2] (by decide) rfl rfl)⟩
     ·rintro a w ⟨Sv1189, hs, hw⟩
      refine then_normal ?_
      refine wp_cond_split (hs.ev rfl) (fun h1218 => ?_) (fun h1218 => ?_)
      ·have hsh := ite_t hsh h1218
       refine wp_skip ?_
       refine then_normal ?_
       refine wp_block ?_
       refine wp_region_lit ?_
       refine st_val hs (y_move rfl) trivial rfl rfl fun a hs => ?_
       refine st_val hs (y_sub rfl rfl) trivial rfl rfl fun a hs => ?_
       obtain ⟨j1222, h1221, hsh⟩ := bind_t hsh
       refine st_val hs (y_assignI rfl h1221) trivial rfl rfl fun a hs => ?_
       refine wpList_nil ?_
       refine blk_normal ?_
       refine then_normal ?_
       exact ⟨_, (Option.some.inj hsh).symm, Sv1189, (hs.wk rfl), (hw.ft [0] [0, 1, 2] (by decide) rfl rfl)⟩
      ·have hsh := ite_f hsh h1218
       refine wp_exit ?_
       refine then_exit ?_
       refine then_exit ?_
       refine blk_exit ?_
       have hsh := Option.some.inj hsh
       subst hsh
       have h1223 := hd1163 _ rfl
       subst h1223
       refine then_normal ?_
       exact ⟨Sv1189, (hs.wk rfl), (hw.ft [0] [0, 1, 2] (by decide) rfl rfl)⟩
    ·rintro a w ⟨Sv1167, hs, hw⟩
     refine then_normal ?_
     refine wp_seq ?_
     refine wp_seq ?_
     refine wp_region_lit ?_
     refine st_val hs (y_move rfl) trivial rfl rfl fun a hs => ?_
     refine st_val hs (y_move rfl) trivial rfl rfl fun a hs => ?_
     refine st_val hs (y_gtr rfl rfl) trivial rfl rfl fun a hs => ?_
     refine wpList_nil ?_
     refine then_normal ?_
     refine wp_cond_split (hs.ev rfl) (fun h1225 => ?_) (fun h1225 => ?_)
     ·have hsh := ite_t hsh h1225
      refine wp_exit ?_
      refine then_exit ?_
      refine blk_other rfl ?_
      refine then_exit ?_
      refine blk_exit ?_
      have hsh := Option.some.inj hsh
      subst hsh
      have h1226 := hd724 _ rfl
      subst h1226
      refine then_normal ?_
      exact ⟨c506, Sv1167, (hs.wk rfl), (hw.ft [0] [1, 2] (by decide) rfl rfl)⟩
     ·have hsh := ite_f hsh h1225
      refine wp_skip ?_
      refine then_normal ?_
      refine wp_seq ?_
      obtain ⟨x1229, h1227, hsh⟩ := bind_t hsh
      obtain ⟨q1233, c1234, h1230, h1231, h1235, h1228⟩ := hw.elemRK (α := Span) 0 rfl 1 rfl h1227
      obtain ⟨_, _, rfl, rfl, rfl⟩ := h1228
      obtain ⟨x1238, h1236, hsh⟩ := bind_t hsh
      obtain ⟨q1242, c1243, h1239, h1240, h1244, h1237⟩ := hw.elemRK (α := Span) 0 rfl 1 rfl h1236
      obtain ⟨_, _, rfl, rfl, rfl⟩ := h1237
      obtain ⟨x1247, h1245, hsh⟩ := bind_t hsh
      obtain ⟨q1251, c1252, h1248, h1249, h1253, h1246⟩ := hw.elemRK (α := Span) 0 rfl 1 rfl h1245
      obtain ⟨_, _, rfl, rfl, rfl⟩ := h1246
      obtain ⟨l1255, h1254, hsh⟩ := bind_t hsh
      obtain ⟨x1260, h1258, hsh⟩ := bind_t hsh
      obtain ⟨l1268, h1267, hsh⟩ := bind_t hsh
      refine wp_only (fun a w => ∃ (Sv1271 : Nat → Prop) (c1269 : List Value), Sl 90 [(0, .slice (some ⟨b23, 0, none⟩) l1268.length k3), (1, .int .i64 a6), (4, .func (.func g10) f11.toArray cp12.toArray), (11, .int .i64 e1027), (12, .int .i64 e1166)] a ∧ Wd ⟨w0, S0, blks [.row (some ⟨b23, 0, none⟩) data1.length k3 c4 46 2]⟩ Sv1271 [.row (some ⟨b23, 0, none⟩) l1268.length k3 c1269 46 2] [FnA2 Try.prog g10 f11 cp12 cmp9, RowA c1269 l1268, LenA data1.length l1268] w) ?_ ?_
      ·refine h_b (C := Cls [] []) (by kernel_rfl) rfl (hw.drew.cs [] [] rfl rfl) fun hC => ?_
       have hw := hw.drew
       refine h_g hs 0 rfl (by kernel_rfl) rfl rfl hC rfl (fun w hC => y_move rfl) fun a hs => ?_
       refine h_g hs 1 rfl (by kernel_rfl) rfl rfl hC rfl (fun w hC => y_move rfl) fun a hs => ?_
       refine h_g hs 2 rfl (by kernel_rfl) rfl rfl hC rfl (fun w hC => y_move rfl) fun a hs => ?_
       refine h_g hs 3 rfl (by kernel_rfl) rfl rfl hC rfl (fun w hC => y_move rfl) fun a hs => ?_
       refine h_g hs 4 rfl (by kernel_rfl) rfl rfl hC rfl (fun w hC => y_move rfl) fun a hs => ?_
       refine h_g hs 5 rfl (by kernel_rfl) rfl rfl hC rfl (fun w hC => y_move rfl) fun a hs => ?_
       refine h_g hs 6 rfl (by kernel_rfl) rfl rfl hC rfl (fun w hC => y_indexAt Try.runUnderlying27 Try.sizeOf46 rfl rfl h1230.1 h1230.2 h1231) fun a hs => ?_
       refine h_g hs 8 rfl (by kernel_rfl) rfl rfl hC rfl (fun w hC => y_move rfl) fun a hs => ?_
       refine h_g hs 9 rfl (by kernel_rfl) rfl rfl hC rfl (fun w hC => y_move rfl) fun a hs => ?_
       refine h_g hs 10 rfl (by kernel_rfl) rfl rfl hC rfl (fun w hC => y_indexAt Try.runUnderlying27 Try.sizeOf46 rfl rfl h1239.1 h1239.2 h1240) fun a hs => ?_
       refine h_all (rs := [7, 11]) (by kernel_rfl) rfl ?_
       refine AllH.cons rfl ?_ ?_
       ·refine st_val hs (y_loadQA (j := 0) (hw.ownAt 0 rfl) rfl Try.isAgg46 Try.sizeOf46 h1235 rfl rfl) trivial rfl rfl fun a hs => ?_
        refine h_nx (hw.cs [] [] rfl rfl) fun hC => ?_
        refine h_one (i := 11) (by kernel_rfl) rfl ?_
        refine st_val hs (y_loadQA (j := 0) (hw.ownAt 0 rfl) rfl Try.isAgg46 Try.sizeOf46 h1244 rfl rfl) trivial rfl rfl fun a hs => ?_
        refine h_nx (hw.cs [] [] rfl rfl) fun hC => ?_
        refine h_g hs 12 rfl (by kernel_rfl) rfl rfl hC rfl (fun w hC => y_indexAt Try.runUnderlying27 Try.sizeOf46 rfl rfl h1248.1 h1248.2 h1249) fun a hs => ?_
        refine h_one (i := 13) (by kernel_rfl) rfl ?_
        have h1272 := hw.envAt 2 rfl
        refine w_storeF (α := Span) hs hw 0 rfl 1 rfl h1249 rfl rfl Try.sizeOf46 rfl h1254 ⟨_, _, rfl, rfl, rfl⟩ trivial ?_
        intro c1256 a w hs hw
        have hw := hw.addE (e := LenA data1.length l1255) (len_set (w := w) (S := S0) h1272 h1254)
        have h1257 := setM_len h1254
        try have hs := hs.fix 0 (.slice (some ⟨b23, 0, none⟩) l1255.length k3) rfl (by rw [h1257])
        try have hs := hs.fix 71 (.slice (some ⟨b23, 0, none⟩) l1255.length k3) rfl (by rw [h1257])
        try have hs := hs.fix 73 (.slice (some ⟨b23, 0, none⟩) l1255.length k3) rfl (by rw [h1257])
        try have hs := hs.fix 75 (.slice (some ⟨b23, 0, none⟩) l1255.length k3) rfl (by rw [h1257])
        try have hs := hs.fix 79 (.slice (some ⟨b23, 0, none⟩) l1255.length k3) rfl (by rw [h1257])
        refine h_nx (hw.cs [] [] rfl rfl) fun hC => ?_
        refine h_one (i := 14) (by kernel_rfl) rfl ?_
        obtain ⟨c1265, h1261, h1266, h1259⟩ := hw.elemRX (α := Span) 0 rfl 1 rfl h1258
        obtain ⟨_, _, rfl, rfl, rfl⟩ := h1259
        refine st_val hs (y_indexAt Try.runUnderlying27 Try.sizeOf46 rfl rfl h1261.1 h1261.2 rfl) trivial rfl rfl fun a hs => ?_
        refine h_nx (hw.cs [] [] rfl rfl) fun hC => ?_
        refine h_one (i := 15) (by kernel_rfl) rfl ?_
        have h1273 := hw.envAt 0 rfl
        refine w_storeF (α := Span) hs hw 0 rfl 1 rfl rfl rfl rfl Try.sizeOf46 rfl h1267 ⟨_, _, rfl, rfl, rfl⟩ trivial ?_
        intro c1269 a w hs hw
        have hw := hw.addE (e := LenA data1.length l1268) (len_set (w := w) (S := S0) h1273 h1267)
        have h1270 := setM_len h1267
        try have hs := hs.fix 0 (.slice (some ⟨b23, 0, none⟩) l1268.length k3) rfl (by rw [h1270])
        try have hs := hs.fix 71 (.slice (some ⟨b23, 0, none⟩) l1268.length k3) rfl (by rw [h1270])
        try have hs := hs.fix 73 (.slice (some ⟨b23, 0, none⟩) l1268.length k3) rfl (by rw [h1270])
        try have hs := hs.fix 75 (.slice (some ⟨b23, 0, none⟩) l1268.length k3) rfl (by rw [h1270])
        try have hs := hs.fix 79 (.slice (some ⟨b23, 0, none⟩) l1268.length k3) rfl (by rw [h1270])
        refine h_nx (hw.cs [] [] rfl rfl) fun hC => ?_
        refine h_done (by kernel_rfl) ?_
        exact ⟨Sv1167, c1269, (hs.wk rfl), (hw.ft [0] [4, 1, 0] (by decide) rfl rfl)⟩
       refine AllH.cons rfl ?_ ?_
       ·refine st_val hs (y_loadQA (j := 0) (hw.ownAt 0 rfl) rfl Try.isAgg46 Try.sizeOf46 h1244 rfl rfl) trivial rfl rfl fun a hs => ?_
        refine h_nx (hw.cs [] [] rfl rfl) fun hC => ?_
        refine h_one (i := 7) (by kernel_rfl) rfl ?_
        refine st_val hs (y_loadQA (j := 0) (hw.ownAt 0 rfl) rfl Try.isAgg46 Try.sizeOf46 h1235 rfl rfl) trivial rfl rfl fun a hs => ?_
        refine h_nx (hw.cs [] [] rfl rfl) fun hC => ?_
        refine h_g hs 12 rfl (by kernel_rfl) rfl rfl hC rfl (fun w hC => y_indexAt Try.runUnderlying27 Try.sizeOf46 rfl rfl h1248.1 h1248.2 h1249) fun a hs => ?_
        refine h_one (i := 13) (by kernel_rfl) rfl ?_
        have h1274 := hw.envAt 2 rfl
        refine w_storeF (α := Span) hs hw 0 rfl 1 rfl h1249 rfl rfl Try.sizeOf46 rfl h1254 ⟨_, _, rfl, rfl, rfl⟩ trivial ?_
        intro c1256 a w hs hw
        have hw := hw.addE (e := LenA data1.length l1255) (len_set (w := w) (S := S0) h1274 h1254)
        have h1257 := setM_len h1254
        try have hs := hs.fix 0 (.slice (some ⟨b23, 0, none⟩) l1255.length k3) rfl (by rw [h1257])
        try have hs := hs.fix 71 (.slice (some ⟨b23, 0, none⟩) l1255.length k3) rfl (by rw [h1257])
        try have hs := hs.fix 73 (.slice (some ⟨b23, 0, none⟩) l1255.length k3) rfl (by rw [h1257])
        try have hs := hs.fix 75 (.slice (some ⟨b23, 0, none⟩) l1255.length k3) rfl (by rw [h1257])
        try have hs := hs.fix 79 (.slice (some ⟨b23, 0, none⟩) l1255.length k3) rfl (by rw [h1257])
        refine h_nx (hw.cs [] [] rfl rfl) fun hC => ?_
        refine h_one (i := 14) (by kernel_rfl) rfl ?_
        obtain ⟨c1265, h1261, h1266, h1259⟩ := hw.elemRX (α := Span) 0 rfl 1 rfl h1258
        obtain ⟨_, _, rfl, rfl, rfl⟩ := h1259
        refine st_val hs (y_indexAt Try.runUnderlying27 Try.sizeOf46 rfl rfl h1261.1 h1261.2 rfl) trivial rfl rfl fun a hs => ?_
        refine h_nx (hw.cs [] [] rfl rfl) fun hC => ?_
        refine h_one (i := 15) (by kernel_rfl) rfl ?_
        have h1275 := hw.envAt 0 rfl
        refine w_storeF (α := Span) hs hw 0 rfl 1 rfl rfl rfl rfl Try.sizeOf46 rfl h1267 ⟨_, _, rfl, rfl, rfl⟩ trivial ?_
        intro c1269 a w hs hw
        have hw := hw.addE (e := LenA data1.length l1268) (len_set (w := w) (S := S0) h1275 h1267)
        have h1270 := setM_len h1267
        try have hs := hs.fix 0 (.slice (some ⟨b23, 0, none⟩) l1268.length k3) rfl (by rw [h1270])
        try have hs := hs.fix 71 (.slice (some ⟨b23, 0, none⟩) l1268.length k3) rfl (by rw [h1270])
        try have hs := hs.fix 73 (.slice (some ⟨b23, 0, none⟩) l1268.length k3) rfl (by rw [h1270])
        try have hs := hs.fix 75 (.slice (some ⟨b23, 0, none⟩) l1268.length k3) rfl (by rw [h1270])
        try have hs := hs.fix 79 (.slice (some ⟨b23, 0, none⟩) l1268.length k3) rfl (by rw [h1270])
        refine h_nx (hw.cs [] [] rfl rfl) fun hC => ?_
        refine h_done (by kernel_rfl) ?_
        exact ⟨Sv1167, c1269, (hs.wk rfl), (hw.ft [0] [4, 1, 0] (by decide) rfl rfl)⟩
       exact AllH.nil
      ·rintro a w ⟨Sv1271, c1269, hs, hw⟩
       refine then_normal ?_
       refine wp_seq ?_
       refine wp_region_lit ?_
       refine st_val hs (y_move rfl) trivial rfl rfl fun a hs => ?_
       refine st_val hs (y_add rfl rfl) trivial rfl rfl fun a hs => ?_
       obtain ⟨i1277, h1276, hsh⟩ := bind_t hsh
       refine st_val hs (y_assignI rfl h1276) trivial rfl rfl fun a hs => ?_
       refine wpList_nil ?_
       refine then_normal ?_
       refine wp_region_lit ?_
       refine st_val hs (y_move rfl) trivial rfl rfl fun a hs => ?_
       refine st_val hs (y_sub rfl rfl) trivial rfl rfl fun a hs => ?_
       obtain ⟨j1279, h1278, hsh⟩ := bind_t hsh
       refine st_val hs (y_assignI rfl h1278) trivial rfl rfl fun a hs => ?_
       refine wpList_nil ?_
       refine blk_normal ?_
       refine then_normal ?_
       exact ⟨_, (Option.some.inj hsh).symm, c1269, Sv1271, (hs.wk rfl), (hw.ft [0] [0, 1, 2] (by decide) rfl rfl)⟩
  ·rintro a w ⟨c728, Sv729, hs, hw⟩
   refine then_normal ?_
   refine wp_seq ?_
   refine wp_region_lit ?_
   refine st_val hs (y_move rfl) trivial rfl rfl fun a hs => ?_
   refine st_val hs (y_assign rfl) trivial rfl rfl fun a hs => ?_
   refine wpList_nil ?_
   refine then_normal ?_
   have hsh := Option.some.inj hsh
   subst hsh
   refine wp_ret ?_
   exact ret1 hs rfl (rv_tmp rfl) (hw.ret ⟨c728, rfl, (hw.outs [0] (by decide) rfl), (hw.envAt 0 rfl), (hw.envAt 1 rfl)⟩)

abbrev slices_partitionCmpFunc_api_Span_rd (w0 : World) (X : List Nat) (p2 : Option Addr) (k3 : Nat) (data1 : (List Span)) (r : (Int × Bool × (List Span))) : (Nat → Prop) → World → Value → Prop := fun S w v => ∃ (ck_0 : List Value), v = .tuple #[.int .i64 r.1, .bool r.2.1] ∧ Outs X w0 S w [.row p2 r.2.2.length k3 ck_0 46 2] ∧ (RowA ck_0 r.2.2).p S w ∧ (LenA data1.length r.2.2).p S w
set_option maxHeartbeats 4000000 in
set_option maxRecDepth 100000 in
theorem slices_partitionCmpFunc_api_Span_ok {w0 : World} {S0 : Nat → Prop} {p2 : Option Addr} {k3 : Nat} {c4 : List Value} {g10 : Nat} {f11 : List Value} {cp12 : List Value} {data1 : (List Span)} {a6 : Int} {b7 : Int} {pivot8 : Int} {cmp9 : Span → Span → Option Int} {r : (Int × Bool × (List Span))} (hsh : slices_partitionCmpFunc_api_Span data1 a6 b7 pivot8 cmp9 = some r) (hS : ∀ b, S0 b → b < w0.heap.size) (hin : Ins S0 w0 [.row p2 data1.length k3 c4 46 2]) (h5 : (RowA c4 data1).p S0 w0) (h13 : (FnA2 Try.prog g10 f11 cp12 cmp9).p S0 w0) : Calls Try.prog 77 #[.slice p2 data1.length k3, .int .i64 a6, .int .i64 b7, .int .i64 pivot8, .func (.func g10) f11.toArray cp12.toArray] w0 (Ret (blks [.row p2 data1.length k3 c4 46 2]) w0 S0 (slices_partitionCmpFunc_api_Span_rd w0 (blks [.row p2 data1.length k3 c4 46 2]) p2 k3 data1 r)) := by
 refine calls_of_wp Try.func77 rfl ?_
 have hs := Sl.enter #[.slice p2 data1.length k3, .int .i64 a6, .int .i64 b7, .int .i64 pivot8, .func (.func g10) f11.toArray cp12.toArray] 178 [(0, .slice p2 data1.length k3), (1, .int .i64 a6), (2, .int .i64 b7), (3, .int .i64 pivot8), (4, .func (.func g10) f11.toArray cp12.toArray)] rfl ⟨rfl, rfl, rfl, rfl, rfl, trivial⟩
 have hw := Wd.enterI hS hin
 have hw := hw.addE h5
 have hw := hw.addE (e := LenA data1.length data1) len_rfl
 have hw := hw.addE h13
 delta slices_partitionCmpFunc_api_Span at hsh
 refine wp_seq ?_
 refine wp_region_lit ?_
 refine st_val hs (y_assign rfl) trivial rfl rfl fun a hs => ?_
 refine st_val hs (y_assign rfl) trivial rfl rfl fun a hs => ?_
 refine wpList_nil ?_
 refine then_normal ?_
 refine wp_seq ?_
 obtain ⟨x16, h14, hsh⟩ := bind_t hsh
 obtain ⟨b23, q20, c21, h24, h17, h18, h22, h15⟩ := hw.elemRV (α := Span) 0 rfl 2 rfl h14
 have hsv25 := hs
 have hwv26 := hw
 subst h24
 have hs := hsv25
 have hw := hwv26
 obtain ⟨_, _, rfl, rfl, rfl⟩ := h15
 obtain ⟨x29, h27, hsh⟩ := bind_t hsh
 obtain ⟨q33, c34, h30, h31, h35, h28⟩ := hw.elemRK (α := Span) 0 rfl 2 rfl h27
 obtain ⟨_, _, rfl, rfl, rfl⟩ := h28
 obtain ⟨x38, h36, hsh⟩ := bind_t hsh
 obtain ⟨q42, c43, h39, h40, h44, h37⟩ := hw.elemRK (α := Span) 0 rfl 2 rfl h36
 obtain ⟨_, _, rfl, rfl, rfl⟩ := h37
 obtain ⟨l46, h45, hsh⟩ := bind_t hsh
 obtain ⟨x51, h49, hsh⟩ := bind_t hsh
 obtain ⟨l59, h58, hsh⟩ := bind_t hsh
 refine wp_only (fun a w => ∃ (Sv62 : Nat → Prop) (c60 : List Value), Sl 178 [(0, .slice (some ⟨b23, 0, none⟩) l59.length k3), (1, .int .i64 a6), (2, .int .i64 b7), (4, .func (.func g10) f11.toArray cp12.toArray)] a ∧ Wd ⟨w0, S0, blks [.row (some ⟨b23, 0, none⟩) data1.length k3 c4 46 2]⟩ Sv62 [.row (some ⟨b23, 0, none⟩) l59.length k3 c60 46 2] [FnA2 Try.prog g10 f11 cp12 cmp9, RowA c60 l59, LenA data1.length l59] w) ?_ ?_
 ·refine h_b (C := Cls [] []) (by kernel_rfl) rfl (hw.drew.cs [] [] rfl rfl) fun hC => ?_
  have hw := hw.drew
  refine h_g hs 0 rfl (by kernel_rfl) rfl rfl hC rfl (fun w hC => y_move rfl) fun a hs => ?_
  refine h_g hs 1 rfl (by kernel_rfl) rfl rfl hC rfl (fun w hC => y_move rfl) fun a hs => ?_
  refine h_g hs 2 rfl (by kernel_rfl) rfl rfl hC rfl (fun w hC => y_move rfl) fun a hs => ?_
  refine h_g hs 3 rfl (by kernel_rfl) rfl rfl hC rfl (fun w hC => y_move rfl) fun a hs => ?_
  refine h_g hs 4 rfl (by kernel_rfl) rfl rfl hC rfl (fun w hC => y_move rfl) fun a hs => ?_
  refine h_g hs 5 rfl (by kernel_rfl) rfl rfl hC rfl (fun w hC => y_move rfl) fun a hs => ?_
  refine h_g hs 6 rfl (by kernel_rfl) rfl rfl hC rfl (fun w hC => y_indexAt Try.runUnderlying27 Try.sizeOf46 rfl rfl h17.1 h17.2 h18) fun a hs => ?_
  refine h_g hs 8 rfl (by kernel_rfl) rfl rfl hC rfl (fun w hC => y_move rfl) fun a hs => ?_
  refine h_g hs 9 rfl (by kernel_rfl) rfl rfl hC rfl (fun w hC => y_move rfl) fun a hs => ?_
  refine h_g hs 10 rfl (by kernel_rfl) rfl rfl hC rfl (fun w hC => y_indexAt Try.runUnderlying27 Try.sizeOf46 rfl rfl h30.1 h30.2 h31) fun a hs => ?_
  refine h_all (rs := [7, 11]) (by kernel_rfl) rfl ?_
  refine AllH.cons rfl ?_ ?_
  ·refine st_val hs (y_loadQA (j := 0) (hw.ownAt 0 rfl) rfl Try.isAgg46 Try.sizeOf46 h22 rfl rfl) trivial rfl rfl fun a hs => ?_
   refine h_nx (hw.cs [] [] rfl rfl) fun hC => ?_
   refine h_one (i := 11) (by kernel_rfl) rfl ?_
   refine st_val hs (y_loadQA (j := 0) (hw.ownAt 0 rfl) rfl Try.isAgg46 Try.sizeOf46 h35 rfl rfl) trivial rfl rfl fun a hs => ?_
   refine h_nx (hw.cs [] [] rfl rfl) fun hC => ?_
   refine h_g hs 12 rfl (by kernel_rfl) rfl rfl hC rfl (fun w hC => y_indexAt Try.runUnderlying27 Try.sizeOf46 rfl rfl h39.1 h39.2 h40) fun a hs => ?_
   refine h_one (i := 13) (by kernel_rfl) rfl ?_
   have h63 := hw.envAt 1 rfl
   refine w_storeF (α := Span) hs hw 0 rfl 2 rfl h40 rfl rfl Try.sizeOf46 rfl h45 ⟨_, _, rfl, rfl, rfl⟩ trivial ?_
   intro c47 a w hs hw
   have hw := hw.addE (e := LenA data1.length l46) (len_set (w := w) (S := S0) h63 h45)
   have h48 := setM_len h45
   try have hs := hs.fix 0 (.slice (some ⟨b23, 0, none⟩) l46.length k3) rfl (by rw [h48])
   try have hs := hs.fix 14 (.slice (some ⟨b23, 0, none⟩) l46.length k3) rfl (by rw [h48])
   try have hs := hs.fix 16 (.slice (some ⟨b23, 0, none⟩) l46.length k3) rfl (by rw [h48])
   try have hs := hs.fix 18 (.slice (some ⟨b23, 0, none⟩) l46.length k3) rfl (by rw [h48])
   try have hs := hs.fix 22 (.slice (some ⟨b23, 0, none⟩) l46.length k3) rfl (by rw [h48])
   refine h_nx (hw.cs [] [] rfl rfl) fun hC => ?_
   refine h_one (i := 14) (by kernel_rfl) rfl ?_
   obtain ⟨c56, h52, h57, h50⟩ := hw.elemRX (α := Span) 0 rfl 1 rfl h49
   obtain ⟨_, _, rfl, rfl, rfl⟩ := h50
   refine st_val hs (y_indexAt Try.runUnderlying27 Try.sizeOf46 rfl rfl h52.1 h52.2 rfl) trivial rfl rfl fun a hs => ?_
   refine h_nx (hw.cs [] [] rfl rfl) fun hC => ?_
   refine h_one (i := 15) (by kernel_rfl) rfl ?_
   have h64 := hw.envAt 0 rfl
   refine w_storeF (α := Span) hs hw 0 rfl 1 rfl rfl rfl rfl Try.sizeOf46 rfl h58 ⟨_, _, rfl, rfl, rfl⟩ trivial ?_
   intro c60 a w hs hw
   have hw := hw.addE (e := LenA data1.length l59) (len_set (w := w) (S := S0) h64 h58)
   have h61 := setM_len h58
   try have hs := hs.fix 0 (.slice (some ⟨b23, 0, none⟩) l59.length k3) rfl (by rw [h61])
   try have hs := hs.fix 14 (.slice (some ⟨b23, 0, none⟩) l59.length k3) rfl (by rw [h61])
   try have hs := hs.fix 16 (.slice (some ⟨b23, 0, none⟩) l59.length k3) rfl (by rw [h61])
   try have hs := hs.fix 18 (.slice (some ⟨b23, 0, none⟩) l59.length k3) rfl (by rw [h61])
   try have hs := hs.fix 22 (.slice (some ⟨b23, 0, none⟩) l59.length k3) rfl (by rw [h61])
   refine h_nx (hw.cs [] [] rfl rfl) fun hC => ?_
   refine h_done (by kernel_rfl) ?_
   exact ⟨S0, c60, (hs.wk rfl), (hw.ft [0] [4, 1, 0] (by decide) rfl rfl)⟩
  refine AllH.cons rfl ?_ ?_
  ·refine st_val hs (y_loadQA (j := 0) (hw.ownAt 0 rfl) rfl Try.isAgg46 Try.sizeOf46 h35 rfl rfl) trivial rfl rfl fun a hs => ?_
   refine h_nx (hw.cs [] [] rfl rfl) fun hC => ?_
   refine h_one (i := 7) (by kernel_rfl) rfl ?_
   refine st_val hs (y_loadQA (j := 0) (hw.ownAt 0 rfl) rfl Try.isAgg46 Try.sizeOf46 h22 rfl rfl) trivial rfl rfl fun a hs => ?_
   refine h_nx (hw.cs [] [] rfl rfl) fun hC => ?_
   refine h_g hs 12 rfl (by kernel_rfl) rfl rfl hC rfl (fun w hC => y_indexAt Try.runUnderlying27 Try.sizeOf46 rfl rfl h39.1 h39.2 h40) fun a hs => ?_
   refine h_one (i := 13) (by kernel_rfl) rfl ?_
   have h65 := hw.envAt 1 rfl
   refine w_storeF (α := Span) hs hw 0 rfl 2 rfl h40 rfl rfl Try.sizeOf46 rfl h45 ⟨_, _, rfl, rfl, rfl⟩ trivial ?_
   intro c47 a w hs hw
   have hw := hw.addE (e := LenA data1.length l46) (len_set (w := w) (S := S0) h65 h45)
   have h48 := setM_len h45
   try have hs := hs.fix 0 (.slice (some ⟨b23, 0, none⟩) l46.length k3) rfl (by rw [h48])
   try have hs := hs.fix 14 (.slice (some ⟨b23, 0, none⟩) l46.length k3) rfl (by rw [h48])
   try have hs := hs.fix 16 (.slice (some ⟨b23, 0, none⟩) l46.length k3) rfl (by rw [h48])
   try have hs := hs.fix 18 (.slice (some ⟨b23, 0, none⟩) l46.length k3) rfl (by rw [h48])
   try have hs := hs.fix 22 (.slice (some ⟨b23, 0, none⟩) l46.length k3) rfl (by rw [h48])
   refine h_nx (hw.cs [] [] rfl rfl) fun hC => ?_
   refine h_one (i := 14) (by kernel_rfl) rfl ?_
   obtain ⟨c56, h52, h57, h50⟩ := hw.elemRX (α := Span) 0 rfl 1 rfl h49
   obtain ⟨_, _, rfl, rfl, rfl⟩ := h50
   refine st_val hs (y_indexAt Try.runUnderlying27 Try.sizeOf46 rfl rfl h52.1 h52.2 rfl) trivial rfl rfl fun a hs => ?_
   refine h_nx (hw.cs [] [] rfl rfl) fun hC => ?_
   refine h_one (i := 15) (by kernel_rfl) rfl ?_
   have h66 := hw.envAt 0 rfl
   refine w_storeF (α := Span) hs hw 0 rfl 1 rfl rfl rfl rfl Try.sizeOf46 rfl h58 ⟨_, _, rfl, rfl, rfl⟩ trivial ?_
   intro c60 a w hs hw
   have hw := hw.addE (e := LenA data1.length l59) (len_set (w := w) (S := S0) h66 h58)
   have h61 := setM_len h58
   try have hs := hs.fix 0 (.slice (some ⟨b23, 0, none⟩) l59.length k3) rfl (by rw [h61])
   try have hs := hs.fix 14 (.slice (some ⟨b23, 0, none⟩) l59.length k3) rfl (by rw [h61])
   try have hs := hs.fix 16 (.slice (some ⟨b23, 0, none⟩) l59.length k3) rfl (by rw [h61])
   try have hs := hs.fix 18 (.slice (some ⟨b23, 0, none⟩) l59.length k3) rfl (by rw [h61])
   try have hs := hs.fix 22 (.slice (some ⟨b23, 0, none⟩) l59.length k3) rfl (by rw [h61])
   refine h_nx (hw.cs [] [] rfl rfl) fun hC => ?_
   refine h_done (by kernel_rfl) ?_
   exact ⟨S0, c60, (hs.wk rfl), (hw.ft [0] [4, 1, 0] (by decide) rfl rfl)⟩
  exact AllH.nil
 ·rintro a w ⟨Sv62, c60, hs, hw⟩
  refine then_normal ?_
  refine wp_seq ?_
  refine wp_region_lit ?_
  refine st_val hs (y_move rfl) trivial rfl rfl fun a hs => ?_
  refine st_val hs (y_add rfl rfl) trivial rfl rfl fun a hs => ?_
  refine st_val hs (y_move rfl) trivial rfl rfl fun a hs => ?_
  refine st_val hs (y_sub rfl rfl) trivial rfl rfl fun a hs => ?_
  obtain ⟨i68, h67, hsh⟩ := bind_t hsh
  refine st_val hs (y_assignI rfl h67) trivial rfl rfl fun a hs => ?_
  obtain ⟨j70, h69, hsh⟩ := bind_t hsh
  refine st_val hs (y_assignI rfl h69) trivial rfl rfl fun a hs => ?_
  refine wpList_nil ?_
  refine then_normal ?_
  refine wp_seq ?_
  obtain ⟨e152, h1760, hsh⟩ := bind_t hsh
  refine wp_join (fun a w => ∃ (Sv153 : Nat → Prop), Sl 178 [(0, .slice (some ⟨b23, 0, none⟩) l59.length k3), (1, .int .i64 a6), (4, .func (.func g10) f11.toArray cp12.toArray), (12, .int .i64 e152), (13, .int .i64 j70)] a ∧ Wd ⟨w0, S0, blks [.row (some ⟨b23, 0, none⟩) data1.length k3 c4 46 2]⟩ Sv153 [.row (some ⟨b23, 0, none⟩) l59.length k3 c60 46 2] [FnA2 Try.prog g10 f11 cp12 cmp9, RowA c60 l59, LenA data1.length l59] w) ?_ ?_
  ·refine wp_block ?_
   refine wp_while (fun sv71 a w => ∃ (Sv123 : Nat → Prop), Sl 178 [(0, .slice (some ⟨b23, 0, none⟩) l59.length k3), (1, .int .i64 a6), (4, .func (.func g10) f11.toArray cp12.toArray), (12, .int .i64 sv71), (13, .int .i64 j70)] a ∧ Wd ⟨w0, S0, blks [.row (some ⟨b23, 0, none⟩) data1.length k3 c4 46 2]⟩ Sv123 [.row (some ⟨b23, 0, none⟩) l59.length k3 c60 46 2] [FnA2 Try.prog g10 f11 cp12 cmp9, RowA c60 l59, LenA data1.length l59] w) i68 h1760 ⟨Sv62, (hs.wk rfl), (hw.ft [0] [0, 1, 2] (by decide) rfl rfl)⟩ ?_
   clear h1760
   repeat clear hsh
   rintro sv71 a w tv150 ⟨Sv123, hs, hw⟩ hsh hd149
   delta slices_partitionCmpFunc_api_Span_l1 at hsh
   refine wp_seq ?_
   refine wp_seq ?_
   obtain ⟨c174, hc174, hsh⟩ := bind_t hsh
   refine wp_only (fun a w => ∃ (Sv175 : Nat → Prop), Sl 178 [(0, .slice (some ⟨b23, 0, none⟩) l59.length k3), (1, .int .i64 a6), (4, .func (.func g10) f11.toArray cp12.toArray), (12, .int .i64 sv71), (13, .int .i64 j70), (47, .bool c174)] a ∧ Wd ⟨w0, S0, blks [.row (some ⟨b23, 0, none⟩) data1.length k3 c4 46 2]⟩ Sv175 [.row (some ⟨b23, 0, none⟩) l59.length k3 c60 46 2] [FnA2 Try.prog g10 f11 cp12 cmp9, RowA c60 l59, LenA data1.length l59] w) ?_ ?_
   ·rcases Bool.eq_false_or_eq_true (decide (sv71 ≤ j70)) with h176 | h176
    ·have h177 := ite_t hc174 h176
     obtain ⟨x180, h178, h177⟩ := bind_t h177
     obtain ⟨q184, c185, h181, h182, h186, h179⟩ := hw.elemRK (α := Span) 0 rfl 1 rfl h178
     obtain ⟨_, _, rfl, rfl, rfl⟩ := h179
     obtain ⟨x189, h187, h177⟩ := bind_t h177
     obtain ⟨q193, c194, h190, h191, h195, h188⟩ := hw.elemRK (α := Span) 0 rfl 1 rfl h187
     obtain ⟨_, _, rfl, rfl, rfl⟩ := h188
     obtain ⟨rv197, h196, h177⟩ := bind_t h177
     refine h_b (C := Cls [.row (some ⟨b23, 0, none⟩) l59.length k3 c60 46 2] []) (by kernel_rfl) rfl (hw.drew.cs [0] [] rfl rfl) fun hC => ?_
     have hw := hw.drew
     refine h_g hs 0 rfl (by kernel_rfl) rfl rfl hC rfl (fun w hC => y_move rfl) fun a hs => ?_
     refine h_g hs 1 rfl (by kernel_rfl) rfl rfl hC rfl (fun w hC => y_move rfl) fun a hs => ?_
     refine h_g hs 2 rfl (by kernel_rfl) rfl rfl hC rfl (fun w hC => y_leq rfl rfl) fun a hs => ?_
     refine h_g hs 3 rfl (by kernel_rfl) rfl rfl hC rfl (fun w hC => y_move rfl) fun a hs => ?_
     have hs := hs.fix 35 (.bool true) rfl (vb h176)
     refine h_t hs 4 rfl (by kernel_rfl) ⟨_, rfl, rfl⟩ rfl rfl hC (fun w hC => y_move rfl) fun a hs => ?_
     refine h_t hs 5 rfl (by kernel_rfl) ⟨_, rfl, rfl⟩ rfl rfl hC (fun w hC => y_move rfl) fun a hs => ?_
     refine h_t hs 6 rfl (by kernel_rfl) ⟨_, rfl, rfl⟩ rfl rfl hC (fun w hC => y_move rfl) fun a hs => ?_
     refine h_t hs 7 rfl (by kernel_rfl) ⟨_, rfl, rfl⟩ rfl rfl hC (fun w hC => y_indexAt Try.runUnderlying27 Try.sizeOf46 rfl rfl h181.1 h181.2 h182) fun a hs => ?_
     refine h_t hs 8 rfl (by kernel_rfl) ⟨_, rfl, rfl⟩ rfl rfl hC (fun w hC => y_loadQA (j := 0) (hC.ownAt 0 rfl) rfl Try.isAgg46 Try.sizeOf46 h186 rfl rfl) fun a hs => ?_
     refine h_t hs 9 rfl (by kernel_rfl) ⟨_, rfl, rfl⟩ rfl rfl hC (fun w hC => y_move rfl) fun a hs => ?_
     refine h_t hs 10 rfl (by kernel_rfl) ⟨_, rfl, rfl⟩ rfl rfl hC (fun w hC => y_move rfl) fun a hs => ?_
     refine h_t hs 11 rfl (by kernel_rfl) ⟨_, rfl, rfl⟩ rfl rfl hC (fun w hC => y_indexAt Try.runUnderlying27 Try.sizeOf46 rfl rfl h190.1 h190.2 h191) fun a hs => ?_
     refine h_t hs 12 rfl (by kernel_rfl) ⟨_, rfl, rfl⟩ rfl rfl hC (fun w hC => y_loadQA (j := 0) (hC.ownAt 0 rfl) rfl Try.isAgg46 Try.sizeOf46 h195 rfl rfl) fun a hs => ?_
     refine h_one (i := 13) (by kernel_rfl) rfl ?_
     refine st_callR hs ((hw.bE 0 rfl).2 Keep.rfl' hw.bdom ⟨_, _, rfl, rfl, rfl⟩ ⟨_, _, rfl, rfl, rfl⟩ h196) (do_callF (hw.bE 0 rfl).1 rfl rfl) ⟨_, rfl, rfl⟩ rfl rfl ?_
     intro v201 Sv198 w a h199 h200 hs
     subst h200
     have hw := hw.callB h199
     refine h_nx (hw.cs [0] [] rfl rfl) fun hC => ?_
     refine h_t hs 14 rfl (by kernel_rfl) ⟨_, rfl, rfl⟩ rfl rfl hC (fun w hC => y_lss rfl rfl) fun a hs => ?_
     refine h_g hs 15 rfl (by kernel_rfl) rfl rfl hC rfl (fun w hC => y_pickTE (v := .bool c174) rfl rfl (vbs h177)) fun a hs => ?_
     refine h_done (by kernel_rfl) ?_
     exact ⟨Sv123, (hs.wk rfl), (hw.ft [0] [0, 1, 2] (by decide) rfl rfl)⟩
    ·have h202 := ite_f hc174 h176
     refine h_b (C := Cls [.row (some ⟨b23, 0, none⟩) l59.length k3 c60 46 2] []) (by kernel_rfl) rfl (hw.drew.cs [0] [] rfl rfl) fun hC => ?_
     have hw := hw.drew
     refine h_g hs 0 rfl (by kernel_rfl) rfl rfl hC rfl (fun w hC => y_move rfl) fun a hs => ?_
     refine h_g hs 1 rfl (by kernel_rfl) rfl rfl hC rfl (fun w hC => y_move rfl) fun a hs => ?_
     refine h_g hs 2 rfl (by kernel_rfl) rfl rfl hC rfl (fun w hC => y_leq rfl rfl) fun a hs => ?_
     refine h_g hs 3 rfl (by kernel_rfl) rfl rfl hC rfl (fun w hC => y_move rfl) fun a hs => ?_
     have hs := hs.fix 35 (.bool false) rfl (vb h176)
     refine h_s hs 4 rfl (by kernel_rfl) rfl rfl rfl (.inl rfl) rfl rfl hC fun a hs => ?_
     refine h_s hs 5 rfl (by kernel_rfl) rfl rfl rfl (.inl rfl) rfl rfl hC fun a hs => ?_
     refine h_s hs 6 rfl (by kernel_rfl) rfl rfl rfl (.inl rfl) rfl rfl hC fun a hs => ?_
     refine h_s hs 7 rfl (by kernel_rfl) rfl rfl rfl (.inl rfl) rfl rfl hC fun a hs => ?_
     refine h_s hs 8 rfl (by kernel_rfl) rfl rfl rfl (.inl rfl) rfl rfl hC fun a hs => ?_
     refine h_s hs 9 rfl (by kernel_rfl) rfl rfl rfl (.inl rfl) rfl rfl hC fun a hs => ?_
     refine h_s hs 10 rfl (by kernel_rfl) rfl rfl rfl (.inl rfl) rfl rfl hC fun a hs => ?_
     refine h_s hs 11 rfl (by kernel_rfl) rfl rfl rfl (.inl rfl) rfl rfl hC fun a hs => ?_
     refine h_s hs 12 rfl (by kernel_rfl) rfl rfl rfl (.inl rfl) rfl rfl hC fun a hs => ?_
     refine h_s hs 13 rfl (by kernel_rfl) rfl rfl rfl (.inl rfl) rfl rfl hC fun a hs => ?_
     refine h_s hs 14 rfl (by kernel_rfl) rfl rfl rfl (.inl rfl) rfl rfl hC fun a hs => ?_
     refine h_g hs 15 rfl (by kernel_rfl) rfl rfl hC rfl (fun w hC => y_pickFE (v := .bool c174) rfl rfl (vbs h202)) fun a hs => ?_
     refine h_done (by kernel_rfl) ?_
     exact ⟨Sv123, (hs.wk rfl), (hw.ft [0] [0, 1, 2] (by decide) rfl rfl)⟩
   ·rintro a w ⟨Sv175, hs, hw⟩
    refine then_normal ?_
    refine wp_cond_split (hs.ev rfl) (fun h204 => ?_) (fun h204 => ?_)
    ·have hsh := ite_t hsh h204
     refine wp_skip ?_
     refine then_normal ?_
     refine wp_block ?_
     refine wp_region_lit ?_
     refine st_val hs (y_move rfl) trivial rfl rfl fun a hs => ?_
     refine st_val hs (y_add rfl rfl) trivial rfl rfl fun a hs => ?_
     obtain ⟨i208, h207, hsh⟩ := bind_t hsh
     refine st_val hs (y_assignI rfl h207) trivial rfl rfl fun a hs => ?_
     refine wpList_nil ?_
     refine blk_normal ?_
     refine then_normal ?_
     exact ⟨_, (Option.some.inj hsh).symm, Sv175, (hs.wk rfl), (hw.ft [0] [0, 1, 2] (by decide) rfl rfl)⟩
    ·have hsh := ite_f hsh h204
     refine wp_exit ?_
     refine then_exit ?_
     refine then_exit ?_
     refine blk_exit ?_
     have hsh := Option.some.inj hsh
     subst hsh
     have h209 := hd149 _ rfl
     subst h209
     refine then_normal ?_
     exact ⟨Sv175, (hs.wk rfl), (hw.ft [0] [0, 1, 2] (by decide) rfl rfl)⟩
  ·rintro a w ⟨Sv153, hs, hw⟩
   refine then_normal ?_
   refine wp_seq ?_
   obtain ⟨e291, h1759, hsh⟩ := bind_t hsh
   refine wp_join (fun a w => ∃ (Sv292 : Nat → Prop), Sl 178 [(0, .slice (some ⟨b23, 0, none⟩) l59.length k3), (1, .int .i64 a6), (4, .func (.func g10) f11.toArray cp12.toArray), (12, .int .i64 e152), (13, .int .i64 e291)] a ∧ Wd ⟨w0, S0, blks [.row (some ⟨b23, 0, none⟩) data1.length k3 c4 46 2]⟩ Sv292 [.row (some ⟨b23, 0, none⟩) l59.length k3 c60 46 2] [FnA2 Try.prog g10 f11 cp12 cmp9, RowA c60 l59, LenA data1.length l59] w) ?_ ?_
   ·refine wp_block ?_
    refine wp_while (fun sv210 a w => ∃ (Sv262 : Nat → Prop), Sl 178 [(0, .slice (some ⟨b23, 0, none⟩) l59.length k3), (1, .int .i64 a6), (4, .func (.func g10) f11.toArray cp12.toArray), (12, .int .i64 e152), (13, .int .i64 sv210)] a ∧ Wd ⟨w0, S0, blks [.row (some ⟨b23, 0, none⟩) data1.length k3 c4 46 2]⟩ Sv262 [.row (some ⟨b23, 0, none⟩) l59.length k3 c60 46 2] [FnA2 Try.prog g10 f11 cp12 cmp9, RowA c60 l59, LenA data1.length l59] w) j70 h1759 ⟨Sv153, (hs.wk rfl), (hw.ft [0] [0, 1, 2] (by decide) rfl rfl)⟩ ?_
    clear h1759
    repeat clear hsh
    rintro sv210 a w tv289 ⟨Sv262, hs, hw⟩ hsh hd288
    delta slices_partitionCmpFunc_api_Span_l2 at hsh
    refine wp_seq ?_
    refine wp_seq ?_
    obtain ⟨c313, hc313, hsh⟩ := bind_t hsh
    refine wp_only (fun a w => ∃ (Sv314 : Nat → Prop), Sl 178 [(0, .slice (some ⟨b23, 0, none⟩) l59.length k3), (1, .int .i64 a6), (4, .func (.func g10) f11.toArray cp12.toArray), (12, .int .i64 e152), (13, .int .i64 sv210), (66, .bool c313)] a ∧ Wd ⟨w0, S0, blks [.row (some ⟨b23, 0, none⟩) data1.length k3 c4 46 2]⟩ Sv314 [.row (some ⟨b23, 0, none⟩) l59.length k3 c60 46 2] [FnA2 Try.prog g10 f11 cp12 cmp9, RowA c60 l59, LenA data1.length l59] w) ?_ ?_
    ·rcases Bool.eq_false_or_eq_true (decide (e152 ≤ sv210)) with h315 | h315
     ·have h316 := ite_t hc313 h315
      obtain ⟨x319, h317, h316⟩ := bind_t h316
      obtain ⟨q323, c324, h320, h321, h325, h318⟩ := hw.elemRK (α := Span) 0 rfl 1 rfl h317
      obtain ⟨_, _, rfl, rfl, rfl⟩ := h318
      obtain ⟨x328, h326, h316⟩ := bind_t h316
      obtain ⟨q332, c333, h329, h330, h334, h327⟩ := hw.elemRK (α := Span) 0 rfl 1 rfl h326
      obtain ⟨_, _, rfl, rfl, rfl⟩ := h327
      obtain ⟨rv336, h335, h316⟩ := bind_t h316
      refine h_b (C := Cls [.row (some ⟨b23, 0, none⟩) l59.length k3 c60 46 2] []) (by kernel_rfl) rfl (hw.drew.cs [0] [] rfl rfl) fun hC => ?_
      have hw := hw.drew
      refine h_g hs 0 rfl (by kernel_rfl) rfl rfl hC rfl (fun w hC => y_move rfl) fun a hs => ?_
      refine h_g hs 1 rfl (by kernel_rfl) rfl rfl hC rfl (fun w hC => y_move rfl) fun a hs => ?_
      refine h_g hs 2 rfl (by kernel_rfl) rfl rfl hC rfl (fun w hC => y_leq rfl rfl) fun a hs => ?_
      refine h_g hs 3 rfl (by kernel_rfl) rfl rfl hC rfl (fun w hC => y_move rfl) fun a hs => ?_
      have hs := hs.fix 53 (.bool true) rfl (vb h315)
      refine h_t hs 4 rfl (by kernel_rfl) ⟨_, rfl, rfl⟩ rfl rfl hC (fun w hC => y_move rfl) fun a hs => ?_
      refine h_t hs 5 rfl (by kernel_rfl) ⟨_, rfl, rfl⟩ rfl rfl hC (fun w hC => y_move rfl) fun a hs => ?_
      refine h_t hs 6 rfl (by kernel_rfl) ⟨_, rfl, rfl⟩ rfl rfl hC (fun w hC => y_move rfl) fun a hs => ?_
      refine h_t hs 7 rfl (by kernel_rfl) ⟨_, rfl, rfl⟩ rfl rfl hC (fun w hC => y_indexAt Try.runUnderlying27 Try.sizeOf46 rfl rfl h320.1 h320.2 h321) fun a hs => ?_
      refine h_t hs 8 rfl (by kernel_rfl) ⟨_, rfl, rfl⟩ rfl rfl hC (fun w hC => y_loadQA (j := 0) (hC.ownAt 0 rfl) rfl Try.isAgg46 Try.sizeOf46 h325 rfl rfl) fun a hs => ?_
      refine h_t hs 9 rfl (by kernel_rfl) ⟨_, rfl, rfl⟩ rfl rfl hC (fun w hC => y_move rfl) fun a hs => ?_
      refine h_t hs 10 rfl (by kernel_rfl) ⟨_, rfl, rfl⟩ rfl rfl hC (fun w hC => y_move rfl) fun a hs => ?_
      refine h_t hs 11 rfl (by kernel_rfl) ⟨_, rfl, rfl⟩ rfl rfl hC (fun w hC => y_indexAt Try.runUnderlying27 Try.sizeOf46 rfl rfl h329.1 h329.2 h330) fun a hs => ?_
      refine h_t hs 12 rfl (by kernel_rfl) ⟨_, rfl, rfl⟩ rfl rfl hC (fun w hC => y_loadQA (j := 0) (hC.ownAt 0 rfl) rfl Try.isAgg46 Try.sizeOf46 h334 rfl rfl) fun a hs => ?_
      refine h_one (i := 13) (by kernel_rfl) rfl ?_
      refine st_callR hs ((hw.bE 0 rfl).2 Keep.rfl' hw.bdom ⟨_, _, rfl, rfl, rfl⟩ ⟨_, _, rfl, rfl, rfl⟩ h335) (do_callF (hw.bE 0 rfl).1 rfl rfl) ⟨_, rfl, rfl⟩ rfl rfl ?_
      intro v340 Sv337 w a h338 h339 hs
      subst h339
      have hw := hw.callB h338
      refine h_nx (hw.cs [0] [] rfl rfl) fun hC => ?_
      refine h_t hs 14 rfl (by kernel_rfl) ⟨_, rfl, rfl⟩ rfl rfl hC (fun w hC => y_lss rfl rfl) fun a hs => ?_
      refine h_t hs 15 rfl (by kernel_rfl) ⟨_, rfl, rfl⟩ rfl rfl hC (fun w hC => y_not rfl) fun a hs => ?_
      refine h_g hs 16 rfl (by kernel_rfl) rfl rfl hC rfl (fun w hC => y_pickTE (v := .bool c313) rfl rfl (vbs h316)) fun a hs => ?_
      refine h_done (by kernel_rfl) ?_
      exact ⟨Sv262, (hs.wk rfl), (hw.ft [0] [0, 1, 2] (by decide) rfl rfl)⟩
     ·have h341 := ite_f hc313 h315
      refine h_b (C := Cls [.row (some ⟨b23, 0, none⟩) l59.length k3 c60 46 2] []) (by kernel_rfl) rfl (hw.drew.cs [0] [] rfl rfl) fun hC => ?_
      have hw := hw.drew
      refine h_g hs 0 rfl (by kernel_rfl) rfl rfl hC rfl (fun w hC => y_move rfl) fun a hs => ?_
      refine h_g hs 1 rfl (by kernel_rfl) rfl rfl hC rfl (fun w hC => y_move rfl) fun a hs => ?_
      refine h_g hs 2 rfl (by kernel_rfl) rfl rfl hC rfl (fun w hC => y_leq rfl rfl) fun a hs => ?_
      refine h_g hs 3 rfl (by kernel_rfl) rfl rfl hC rfl (fun w hC => y_move rfl) fun a hs => ?_
      have hs := hs.fix 53 (.bool false) rfl (vb h315)
      refine h_s hs 4 rfl (by kernel_rfl) rfl rfl rfl (.inl rfl) rfl rfl hC fun a hs => ?_
      refine h_s hs 5 rfl (by kernel_rfl) rfl rfl rfl (.inl rfl) rfl rfl hC fun a hs => ?_
      refine h_s hs 6 rfl (by kernel_rfl) rfl rfl rfl (.inl rfl) rfl rfl hC fun a hs => ?_
      refine h_s hs 7 rfl (by kernel_rfl) rfl rfl rfl (.inl rfl) rfl rfl hC fun a hs => ?_
      refine h_s hs 8 rfl (by kernel_rfl) rfl rfl rfl (.inl rfl) rfl rfl hC fun a hs => ?_
      refine h_s hs 9 rfl (by kernel_rfl) rfl rfl rfl (.inl rfl) rfl rfl hC fun a hs => ?_
      refine h_s hs 10 rfl (by kernel_rfl) rfl rfl rfl (.inl rfl) rfl rfl hC fun a hs => ?_
      refine h_s hs 11 rfl (by kernel_rfl) rfl rfl rfl (.inl rfl) rfl rfl hC fun a hs => ?_
      refine h_s hs 12 rfl (by kernel_rfl) rfl rfl rfl (.inl rfl) rfl rfl hC fun a hs => ?_
      refine h_s hs 13 rfl (by kernel_rfl) rfl rfl rfl (.inl rfl) rfl rfl hC fun a hs => ?_
      refine h_s hs 14 rfl (by kernel_rfl) rfl rfl rfl (.inl rfl) rfl rfl hC fun a hs => ?_
      refine h_s hs 15 rfl (by kernel_rfl) rfl rfl rfl (.inl rfl) rfl rfl hC fun a hs => ?_
      refine h_g hs 16 rfl (by kernel_rfl) rfl rfl hC rfl (fun w hC => y_pickFE (v := .bool c313) rfl rfl (vbs h341)) fun a hs => ?_
      refine h_done (by kernel_rfl) ?_
      exact ⟨Sv262, (hs.wk rfl), (hw.ft [0] [0, 1, 2] (by decide) rfl rfl)⟩
    ·rintro a w ⟨Sv314, hs, hw⟩
     refine then_normal ?_
     refine wp_cond_split (hs.ev rfl) (fun h343 => ?_) (fun h343 => ?_)
     ·have hsh := ite_t hsh h343
      refine wp_skip ?_
      refine then_normal ?_
      refine wp_block ?_
      refine wp_region_lit ?_
      refine st_val hs (y_move rfl) trivial rfl rfl fun a hs => ?_
      refine st_val hs (y_sub rfl rfl) trivial rfl rfl fun a hs => ?_
      obtain ⟨j347, h346, hsh⟩ := bind_t hsh
      refine st_val hs (y_assignI rfl h346) trivial rfl rfl fun a hs => ?_
      refine wpList_nil ?_
      refine blk_normal ?_
      refine then_normal ?_
      exact ⟨_, (Option.some.inj hsh).symm, Sv314, (hs.wk rfl), (hw.ft [0] [0, 1, 2] (by decide) rfl rfl)⟩
     ·have hsh := ite_f hsh h343
      refine wp_exit ?_
      refine then_exit ?_
      refine then_exit ?_
      refine blk_exit ?_
      have hsh := Option.some.inj hsh
      subst hsh
      have h348 := hd288 _ rfl
      subst h348
      refine then_normal ?_
      exact ⟨Sv314, (hs.wk rfl), (hw.ft [0] [0, 1, 2] (by decide) rfl rfl)⟩
   ·rintro a w ⟨Sv292, hs, hw⟩
    refine then_normal ?_
    refine wp_seq ?_
    refine wp_seq ?_
    refine wp_region_lit ?_
    refine st_val hs (y_move rfl) trivial rfl rfl fun a hs => ?_
    refine st_val hs (y_move rfl) trivial rfl rfl fun a hs => ?_
    refine st_val hs (y_gtr rfl rfl) trivial rfl rfl fun a hs => ?_
    refine wpList_nil ?_
    refine then_normal ?_
    refine wp_cond_split (hs.ev rfl) (fun h395 => ?_) (fun h395 => ?_)
    ·have hsh := ite_t hsh h395
     refine wp_seq ?_
     obtain ⟨x398, h396, hsh⟩ := bind_t hsh
     obtain ⟨q402, c403, h399, h400, h404, h397⟩ := hw.elemRK (α := Span) 0 rfl 1 rfl h396
     obtain ⟨_, _, rfl, rfl, rfl⟩ := h397
     obtain ⟨x407, h405, hsh⟩ := bind_t hsh
     obtain ⟨q411, c412, h408, h409, h413, h406⟩ := hw.elemRK (α := Span) 0 rfl 1 rfl h405
     obtain ⟨_, _, rfl, rfl, rfl⟩ := h406
     obtain ⟨x416, h414, hsh⟩ := bind_t hsh
     obtain ⟨q420, c421, h417, h418, h422, h415⟩ := hw.elemRK (α := Span) 0 rfl 1 rfl h414
     obtain ⟨_, _, rfl, rfl, rfl⟩ := h415
     obtain ⟨l424, h423, hsh⟩ := bind_t hsh
     obtain ⟨x429, h427, hsh⟩ := bind_t hsh
     obtain ⟨l437, h436, hsh⟩ := bind_t hsh
     refine wp_only (fun a w => ∃ (Sv440 : Nat → Prop) (c438 : List Value), Sl 178 [(13, .int .i64 e291)] a ∧ Wd ⟨w0, S0, blks [.row (some ⟨b23, 0, none⟩) data1.length k3 c4 46 2]⟩ Sv440 [.row (some ⟨b23, 0, none⟩) l437.length k3 c438 46 2] [RowA c438 l437, LenA data1.length l437] w) ?_ ?_
     ·refine h_b (C := Cls [] []) (by kernel_rfl) rfl (hw.drew.cs [] [] rfl rfl) fun hC => ?_
      have hw := hw.drew
      refine h_g hs 0 rfl (by kernel_rfl) rfl rfl hC rfl (fun w hC => y_move rfl) fun a hs => ?_
      refine h_g hs 1 rfl (by kernel_rfl) rfl rfl hC rfl (fun w hC => y_move rfl) fun a hs => ?_
      refine h_g hs 2 rfl (by kernel_rfl) rfl rfl hC rfl (fun w hC => y_move rfl) fun a hs => ?_
      refine h_g hs 3 rfl (by kernel_rfl) rfl rfl hC rfl (fun w hC => y_move rfl) fun a hs => ?_
      refine h_g hs 4 rfl (by kernel_rfl) rfl rfl hC rfl (fun w hC => y_move rfl) fun a hs => ?_
      refine h_g hs 5 rfl (by kernel_rfl) rfl rfl hC rfl (fun w hC => y_move rfl) fun a hs => ?_
      refine h_g hs 6 rfl (by kernel_rfl) rfl rfl hC rfl (fun w hC => y_indexAt Try.runUnderlying27 Try.sizeOf46 rfl rfl h399.1 h399.2 h400) fun a hs => ?_
      refine h_g hs 8 rfl (by kernel_rfl) rfl rfl hC rfl (fun w hC => y_move rfl) fun a hs => ?_
      refine h_g hs 9 rfl (by kernel_rfl) rfl rfl hC rfl (fun w hC => y_move rfl) fun a hs => ?_
      refine h_g hs 10 rfl (by kernel_rfl) rfl rfl hC rfl (fun w hC => y_indexAt Try.runUnderlying27 Try.sizeOf46 rfl rfl h408.1 h408.2 h409) fun a hs => ?_
      refine h_all (rs := [7, 11]) (by kernel_rfl) rfl ?_
      refine AllH.cons rfl ?_ ?_
      ·refine st_val hs (y_loadQA (j := 0) (hw.ownAt 0 rfl) rfl Try.isAgg46 Try.sizeOf46 h404 rfl rfl) trivial rfl rfl fun a hs => ?_
       refine h_nx (hw.cs [] [] rfl rfl) fun hC => ?_
       refine h_one (i := 11) (by kernel_rfl) rfl ?_
       refine st_val hs (y_loadQA (j := 0) (hw.ownAt 0 rfl) rfl Try.isAgg46 Try.sizeOf46 h413 rfl rfl) trivial rfl rfl fun a hs => ?_
       refine h_nx (hw.cs [] [] rfl rfl) fun hC => ?_
       refine h_g hs 12 rfl (by kernel_rfl) rfl rfl hC rfl (fun w hC => y_indexAt Try.runUnderlying27 Try.sizeOf46 rfl rfl h417.1 h417.2 h418) fun a hs => ?_
       refine h_one (i := 13) (by kernel_rfl) rfl ?_
       have h441 := hw.envAt 2 rfl
       refine w_storeF (α := Span) hs hw 0 rfl 1 rfl h418 rfl rfl Try.sizeOf46 rfl h423 ⟨_, _, rfl, rfl, rfl⟩ trivial ?_
       intro c425 a w hs hw
       have hw := hw.addE (e := LenA data1.length l424) (len_set (w := w) (S := S0) h441 h423)
       have h426 := setM_len h423
       try have hs := hs.fix 0 (.slice (some ⟨b23, 0, none⟩) l424.length k3) rfl (by rw [h426])
       try have hs := hs.fix 72 (.slice (some ⟨b23, 0, none⟩) l424.length k3) rfl (by rw [h426])
       try have hs := hs.fix 74 (.slice (some ⟨b23, 0, none⟩) l424.length k3) rfl (by rw [h426])
       try have hs := hs.fix 76 (.slice (some ⟨b23, 0, none⟩) l424.length k3) rfl (by rw [h426])
       try have hs := hs.fix 80 (.slice (some ⟨b23, 0, none⟩) l424.length k3) rfl (by rw [h426])
       refine h_nx (hw.cs [] [] rfl rfl) fun hC => ?_
       refine h_one (i := 14) (by kernel_rfl) rfl ?_
       obtain ⟨c434, h430, h435, h428⟩ := hw.elemRX (α := Span) 0 rfl 1 rfl h427
       obtain ⟨_, _, rfl, rfl, rfl⟩ := h428
       refine st_val hs (y_indexAt Try.runUnderlying27 Try.sizeOf46 rfl rfl h430.1 h430.2 rfl) trivial rfl rfl fun a hs => ?_
       refine h_nx (hw.cs [] [] rfl rfl) fun hC => ?_
       refine h_one (i := 15) (by kernel_rfl) rfl ?_
       have h442 := hw.envAt 0 rfl
       refine w_storeF (α := Span) hs hw 0 rfl 1 rfl rfl rfl rfl Try.sizeOf46 rfl h436 ⟨_, _, rfl, rfl, rfl⟩ trivial ?_
       intro c438 a w hs hw
       have hw := hw.addE (e := LenA data1.length l437) (len_set (w := w) (S := S0) h442 h436)
       have h439 := setM_len h436
       try have hs := hs.fix 0 (.slice (some ⟨b23, 0, none⟩) l437.length k3) rfl (by rw [h439])
       try have hs := hs.fix 72 (.slice (some ⟨b23, 0, none⟩) l437.length k3) rfl (by rw [h439])
       try have hs := hs.fix 74 (.slice (some ⟨b23, 0, none⟩) l437.length k3) rfl (by rw [h439])
       try have hs := hs.fix 76 (.slice (some ⟨b23, 0, none⟩) l437.length k3) rfl (by rw [h439])
       try have hs := hs.fix 80 (.slice (some ⟨b23, 0, none⟩) l437.length k3) rfl (by rw [h439])
       refine h_nx (hw.cs [] [] rfl rfl) fun hC => ?_
       refine h_done (by kernel_rfl) ?_
       exact ⟨Sv292, c438, (hs.wk rfl), (hw.ft [0] [1, 0] (by decide) rfl rfl)⟩
      refine AllH.cons rfl ?_ ?_
      ·refine st_val hs (y_loadQA (j := 0) (hw.ownAt 0 rfl) rfl Try.isAgg46 Try.sizeOf46 h413 rfl rfl) trivial rfl rfl fun a hs => ?_
       refine h_nx (hw.cs [] [] rfl rfl) fun hC => ?_
       refine h_one (i := 7) (by kernel_rfl) rfl ?_
       refine st_val hs (y_loadQA (j := 0) (hw.ownAt 0 rfl) rfl Try.isAgg46 Try.sizeOf46 h404 rfl rfl) trivial rfl rfl fun a hs => ?_
       refine h_nx (hw.cs [] [] rfl rfl) fun hC => ?_
       refine h_g hs 12 rfl (by kernel_rfl) rfl rfl hC rfl (fun w hC => y_indexAt Try.runUnderlying27 Try.sizeOf46 rfl rfl h417.1 h417.2 h418) fun a hs => ?_
       refine h_one (i := 13) (by kernel_rfl) rfl ?_
       have h443 := hw.envAt 2 rfl
       refine w_storeF (α := Span) hs hw 0 rfl 1 rfl h418 rfl rfl Try.sizeOf46 rfl h423 ⟨_, _, rfl, rfl, rfl⟩ trivial ?_
       intro c425 a w hs hw
       have hw := hw.addE (e := LenA data1.length l424) (len_set (w := w) (S := S0) h443 h423)
       have h426 := setM_len h423
       try have hs := hs.fix 0 (.slice (some ⟨b23, 0, none⟩) l424.length k3) rfl (by rw [h426])
       try have hs := hs.fix 72 (.slice (some ⟨b23, 0, none⟩) l424.length k3) rfl (by rw [h426])
       try have hs := hs.fix 74 (.slice (some ⟨b23, 0, none⟩) l424.length k3) rfl (by rw [h426])
       try have hs := hs.fix 76 (.slice (some ⟨b23, 0, none⟩) l424.length k3) rfl (by rw [h426])
       try have hs := hs.fix 80 (.slice (some ⟨b23, 0, none⟩) l424.length k3) rfl (by rw [h426])
       refine h_nx (hw.cs [] [] rfl rfl) fun hC => ?_
       refine h_one (i := 14) (by kernel_rfl) rfl ?_
       obtain ⟨c434, h430, h435, h428⟩ := hw.elemRX (α := Span) 0 rfl 1 rfl h427
       obtain ⟨_, _, rfl, rfl, rfl⟩ := h428
       refine st_val hs (y_indexAt Try.runUnderlying27 Try.sizeOf46 rfl rfl h430.1 h430.2 rfl) trivial rfl rfl fun a hs => ?_
       refine h_nx (hw.cs [] [] rfl rfl) fun hC => ?_
       refine h_one (i := 15) (by kernel_rfl) rfl ?_
       have h444 := hw.envAt 0 rfl
       refine w_storeF (α := Span) hs hw 0 rfl 1 rfl rfl rfl rfl Try.sizeOf46 rfl h436 ⟨_, _, rfl, rfl, rfl⟩ trivial ?_
       intro c438 a w hs hw
       have hw := hw.addE (e := LenA data1.length l437) (len_set (w := w) (S := S0) h444 h436)
       have h439 := setM_len h436
       try have hs := hs.fix 0 (.slice (some ⟨b23, 0, none⟩) l437.length k3) rfl (by rw [h439])
       try have hs := hs.fix 72 (.slice (some ⟨b23, 0, none⟩) l437.length k3) rfl (by rw [h439])
       try have hs := hs.fix 74 (.slice (some ⟨b23, 0, none⟩) l437.length k3) rfl (by rw [h439])
       try have hs := hs.fix 76 (.slice (some ⟨b23, 0, none⟩) l437.length k3) rfl (by rw [h439])
       try have hs := hs.fix 80 (.slice (some ⟨b23, 0, none⟩) l437.length k3) rfl (by rw [h439])
       refine h_nx (hw.cs [] [] rfl rfl) fun hC => ?_
       refine h_done (by kernel_rfl) ?_
       exact ⟨Sv292, c438, (hs.wk rfl), (hw.ft [0] [1, 0] (by decide) rfl rfl)⟩
      exact AllH.nil
     ·rintro a w ⟨Sv440, c438, hs, hw⟩
      refine then_normal ?_
      refine wp_seq ?_
      refine wp_region_lit ?_
      refine st_val hs (y_move rfl) trivial rfl rfl fun a hs => ?_
      refine st_val hs (y_assign rfl) trivial rfl rfl fun a hs => ?_
      refine st_val hs (y_assign rfl) trivial rfl rfl fun a hs => ?_
      refine wpList_nil ?_
      refine then_normal ?_
      have hsh := Option.some.inj hsh
      subst hsh
      refine wp_ret ?_
      refine then_ret ?_
      exact ret2 hs rfl (rv_tmp rfl) (rv_tmp rfl) (hw.ret ⟨c438, rfl, (hw.outs [0] (by decide) rfl), (hw.envAt 0 rfl), (hw.envAt 1 rfl)⟩)
    ·have hsh := ite_f hsh h395
     refine wp_skip ?_
     refine then_normal ?_
     refine wp_seq ?_
     obtain ⟨x447, h445, hsh⟩ := bind_t hsh
     obtain ⟨q451, c452, h448, h449, h453, h446⟩ := hw.elemRK (α := Span) 0 rfl 1 rfl h445
     obtain ⟨_, _, rfl, rfl, rfl⟩ := h446
     obtain ⟨x456, h454, hsh⟩ := bind_t hsh
     obtain ⟨q460, c461, h457, h458, h462, h455⟩ := hw.elemRK (α := Span) 0 rfl 1 rfl h454
     obtain ⟨_, _, rfl, rfl, rfl⟩ := h455
     obtain ⟨x465, h463, hsh⟩ := bind_t hsh
     obtain ⟨q469, c470, h466, h467, h471, h464⟩ := hw.elemRK (α := Span) 0 rfl 1 rfl h463
     obtain ⟨_, _, rfl, rfl, rfl⟩ := h464
     obtain ⟨l473, h472, hsh⟩ := bind_t hsh
     obtain ⟨x478, h476, hsh⟩ := bind_t hsh
     obtain ⟨l486, h485, hsh⟩ := bind_t hsh
     refine wp_only (fun a w => ∃ (Sv489 : Nat → Prop) (c487 : List Value), Sl 178 [(0, .slice (some ⟨b23, 0, none⟩) l486.length k3), (1, .int .i64 a6), (4, .func (.func g10) f11.toArray cp12.toArray), (12, .int .i64 e152), (13, .int .i64 e291)] a ∧ Wd ⟨w0, S0, blks [.row (some ⟨b23, 0, none⟩) data1.length k3 c4 46 2]⟩ Sv489 [.row (some ⟨b23, 0, none⟩) l486.length k3 c487 46 2] [FnA2 Try.prog g10 f11 cp12 cmp9, RowA c487 l486, LenA data1.length l486] w) ?_ ?_
     ·refine h_b (C := Cls [] []) (by kernel_rfl) rfl (hw.drew.cs [] [] rfl rfl) fun hC => ?_
      have hw := hw.drew
      refine h_g hs 0 rfl (by kernel_rfl) rfl rfl hC rfl (fun w hC => y_move rfl) fun a hs => ?_
      refine h_g hs 1 rfl (by kernel_rfl) rfl rfl hC rfl (fun w hC => y_move rfl) fun a hs => ?_
      refine h_g hs 2 rfl (by kernel_rfl) rfl rfl hC rfl (fun w hC => y_move rfl) fun a hs => ?_
      refine h_g hs 3 rfl (by kernel_rfl) rfl rfl hC rfl (fun w hC => y_move rfl) fun a hs => ?_
      refine h_g hs 4 rfl (by kernel_rfl) rfl rfl hC rfl (fun w hC => y_move rfl) fun a hs => ?_
      refine h_g hs 5 rfl (by kernel_rfl) rfl rfl hC rfl (fun w hC => y_move rfl) fun a hs => ?_
      refine h_g hs 6 rfl (by kernel_rfl) rfl rfl hC rfl (fun w hC => y_indexAt Try.runUnderlying27 Try.sizeOf46 rfl rfl h448.1 h448.2 h449) fun a hs => ?_
      refine h_g hs 8 rfl (by kernel_rfl) rfl rfl hC rfl (fun w hC => y_move rfl) fun a hs => ?_
      refine h_g hs 9 rfl (by kernel_rfl) rfl rfl hC rfl (fun w hC => y_move rfl) fun a hs => ?_
      refine h_g hs 10 rfl (by kernel_rfl) rfl rfl hC rfl (fun w hC => y_indexAt Try.runUnderlying27 Try.sizeOf46 rfl rfl h457.1 h457.2 h458) fun a hs => ?_
      refine h_all (rs := [7, 11]) (by kernel_rfl) rfl ?_
      refine AllH.cons rfl ?_ ?_
      ·refine st_val hs (y_loadQA (j := 0) (hw.ownAt 0 rfl) rfl Try.isAgg46 Try.sizeOf46 h453 rfl rfl) trivial rfl rfl fun a hs => ?_
       refine h_nx (hw.cs [] [] rfl rfl) fun hC => ?_
       refine h_one (i := 11) (by kernel_rfl) rfl ?_
       refine st_val hs (y_loadQA (j := 0) (hw.ownAt 0 rfl) rfl Try.isAgg46 Try.sizeOf46 h462 rfl rfl) trivial rfl rfl fun a hs => ?_
       refine h_nx (hw.cs [] [] rfl rfl) fun hC => ?_
       refine h_g hs 12 rfl (by kernel_rfl) rfl rfl hC rfl (fun w hC => y_indexAt Try.runUnderlying27 Try.sizeOf46 rfl rfl h466.1 h466.2 h467) fun a hs => ?_
       refine h_one (i := 13) (by kernel_rfl) rfl ?_
       have h490 := hw.envAt 2 rfl
       refine w_storeF (α := Span) hs hw 0 rfl 1 rfl h467 rfl rfl Try.sizeOf46 rfl h472 ⟨_, _, rfl, rfl, rfl⟩ trivial ?_
       intro c474 a w hs hw
       have hw := hw.addE (e := LenA data1.length l473) (len_set (w := w) (S := S0) h490 h472)
       have h475 := setM_len h472
       try have hs := hs.fix 0 (.slice (some ⟨b23, 0, none⟩) l473.length k3) rfl (by rw [h475])
       try have hs := hs.fix 87 (.slice (some ⟨b23, 0, none⟩) l473.length k3) rfl (by rw [h475])
       try have hs := hs.fix 89 (.slice (some ⟨b23, 0, none⟩) l473.length k3) rfl (by rw [h475])
       try have hs := hs.fix 91 (.slice (some ⟨b23, 0, none⟩) l473.length k3) rfl (by rw [h475])
       try have hs := hs.fix 95 (.slice (some ⟨b23, 0, none⟩) l473.length k3) rfl (by rw [h475])
       refine h_nx (hw.cs [] [] rfl rfl) fun hC => ?_
       refine h_one (i := 14) (by kernel_rfl) rfl ?_
       obtain ⟨c483, h479, h484, h477⟩ := hw.elemRX (α := Span) 0 rfl 1 rfl h476
       obtain ⟨_, _, rfl, rfl, rfl⟩ := h477
       refine st_val hs (y_indexAt Try.runUnderlying27 Try.sizeOf46 rfl rfl h479.1 h479.2 rfl) trivial rfl rfl fun a hs => ?_
       refine h_nx (hw.cs [] [] rfl rfl) fun hC => ?_
       refine h_one (i := 15) (by kernel_rfl) rfl ?_
       have h491 := hw.envAt 0 rfl
       refine w_storeF (α := Span) hs hw 0 rfl 1 rfl rfl rfl rfl Try.sizeOf46 rfl h485 ⟨_, _, rfl, rfl, rfl⟩ trivial ?_
       intro c487 a w hs hw
       have hw := hw.addE (e := LenA data1.length l486) (len_set (w := w) (S := S0) h491 h485)
       have h488 := setM_len h485
       try have hs := hs.fix 0 (.slice (some ⟨b23, 0, none⟩) l486.length k3) rfl (by rw [h488])
       try have hs := hs.fix 87 (.slice (some ⟨b23, 0, none⟩) l486.length k3) rfl (by rw [h488])
       try have hs := hs.fix 89 (.slice (some ⟨b23, 0, none⟩) l486.length k3) rfl (by rw [h488])
       try have hs := hs.fix 91 (.slice (some ⟨b23, 0, none⟩) l486.length k3) rfl (by rw [h488])
       try have hs := hs.fix 95 (.slice (some ⟨b23, 0, none⟩) l486.length k3) rfl (by rw [h488])
       refine h_nx (hw.cs [] [] rfl rfl) fun hC => ?_
       refine h_done (by kernel_rfl) ?_
       exact ⟨Sv292, c487, (hs.wk rfl), (hw.ft [0] [4, 1, 0] (by decide) rfl rfl)⟩
      refine AllH.cons rfl ?_ ?_
      ·refine st_val hs (y_loadQA (j := 0) (hw.ownAt 0 rfl) rfl Try.isAgg46 Try.sizeOf46 h462 rfl rfl) trivial rfl rfl fun a hs => ?_
       refine h_nx (hw.cs [] [] rfl rfl) fun hC => ?_
       refine h_one (i := 7) (by kernel_rfl) rfl ?_
       refine st_val hs (y_loadQA (j := 0) (hw.ownAt 0 rfl) rfl Try.isAgg46 Try.sizeOf46 h453 rfl rfl) trivial rfl rfl fun a hs => ?_
       refine h_nx (hw.cs [] [] rfl rfl) fun hC => ?_
       refine h_g hs 12 rfl (by kernel_rfl) rfl rfl hC rfl (fun w hC => y_indexAt Try.runUnderlying27 Try.sizeOf46 rfl rfl h466.1 h466.2 h467) fun a hs => ?_
       refine h_one (i := 13) (by kernel_rfl) rfl ?_
       have h492 := hw.envAt 2 rfl
       refine w_storeF (α := Span) hs hw 0 rfl 1 rfl h467 rfl rfl Try.sizeOf46 rfl h472 ⟨_, _, rfl, rfl, rfl⟩ trivial ?_
       intro c474 a w hs hw
       have hw := hw.addE (e := LenA data1.length l473) (len_set (w := w) (S := S0) h492 h472)
       have h475 := setM_len h472
       try have hs := hs.fix 0 (.slice (some ⟨b23, 0, none⟩) l473.length k3) rfl (by rw [h475])
       try have hs := hs.fix 87 (.slice (some ⟨b23, 0, none⟩) l473.length k3) rfl (by rw [h475])
       try have hs := hs.fix 89 (.slice (some ⟨b23, 0, none⟩) l473.length k3) rfl (by rw [h475])
       try have hs := hs.fix 91 (.slice (some ⟨b23, 0, none⟩) l473.length k3) rfl (by rw [h475])
       try have hs := hs.fix 95 (.slice (some ⟨b23, 0, none⟩) l473.length k3) rfl (by rw [h475])
       refine h_nx (hw.cs [] [] rfl rfl) fun hC => ?_
       refine h_one (i := 14) (by kernel_rfl) rfl ?_
       obtain ⟨c483, h479, h484, h477⟩ := hw.elemRX (α := Span) 0 rfl 1 rfl h476
       obtain ⟨_, _, rfl, rfl, rfl⟩ := h477
       refine st_val hs (y_indexAt Try.runUnderlying27 Try.sizeOf46 rfl rfl h479.1 h479.2 rfl) trivial rfl rfl fun a hs => ?_
       refine h_nx (hw.cs [] [] rfl rfl) fun hC => ?_
       refine h_one (i := 15) (by kernel_rfl) rfl ?_
       have h493 := hw.envAt 0 rfl
       refine w_storeF (α := Span) hs hw 0 rfl 1 rfl rfl rfl rfl Try.sizeOf46 rfl h485 ⟨_, _, rfl, rfl, rfl⟩ trivial ?_
       intro c487 a w hs hw
       have hw := hw.addE (e := LenA data1.length l486) (len_set (w := w) (S := S0) h493 h485)
       have h488 := setM_len h485
       try have hs := hs.fix 0 (.slice (some ⟨b23, 0, none⟩) l486.length k3) rfl (by rw [h488])
       try have hs := hs.fix 87 (.slice (some ⟨b23, 0, none⟩) l486.length k3) rfl (by rw [h488])
       try have hs := hs.fix 89 (.slice (some ⟨b23, 0, none⟩) l486.length k3) rfl (by rw [h488])
       try have hs := hs.fix 91 (.slice (some ⟨b23, 0, none⟩) l486.length k3) rfl (by rw [h488])
       try have hs := hs.fix 95 (.slice (some ⟨b23, 0, none⟩) l486.length k3) rfl (by rw [h488])
       refine h_nx (hw.cs [] [] rfl rfl) fun hC => ?_
       refine h_done (by kernel_rfl) ?_
       exact ⟨Sv292, c487, (hs.wk rfl), (hw.ft [0] [4, 1, 0] (by decide) rfl rfl)⟩
      exact AllH.nil
     ·rintro a w ⟨Sv489, c487, hs, hw⟩
      refine then_normal ?_
      refine wp_seq ?_
      refine wp_region_lit ?_
      refine st_val hs (y_move rfl) trivial rfl rfl fun a hs => ?_
      refine st_val hs (y_add rfl rfl) trivial rfl rfl fun a hs => ?_
      obtain ⟨i495, h494, hsh⟩ := bind_t hsh
      refine st_val hs (y_assignI rfl h494) trivial rfl rfl fun a hs => ?_
      refine wpList_nil ?_
      refine then_normal ?_
      refine wp_seq ?_
      refine wp_region_lit ?_
      refine st_val hs (y_move rfl) trivial rfl rfl fun a hs => ?_
      refine st_val hs (y_sub rfl rfl) trivial rfl rfl fun a hs => ?_
      obtain ⟨j497, h496, hsh⟩ := bind_t hsh
      refine st_val hs (y_assignI rfl h496) trivial rfl rfl fun a hs => ?_
      refine wpList_nil ?_
      refine then_normal ?_
      refine wp_seq ?_
      obtain ⟨e1154, h1758, hsh⟩ := bind_t hsh
      refine wp_join (fun a w => ∃ (c1155 : List Value) (Sv1156 : Nat → Prop), Sl 178 [(0, .slice (some ⟨b23, 0, none⟩) e1154.1.length k3), (1, .int .i64 a6), (13, .int .i64 e1154.2)] a ∧ Wd ⟨w0, S0, blks [.row (some ⟨b23, 0, none⟩) data1.length k3 c4 46 2]⟩ Sv1156 [.row (some ⟨b23, 0, none⟩) e1154.1.length k3 c1155 46 2] [RowA c1155 e1154.1, LenA data1.length e1154.1] w) ?_ ?_
      ·refine wp_block ?_
       refine wp_while (fun sv498 a w => ∃ (c933 : List Value) (Sv934 : Nat → Prop), Sl 178 [(0, .slice (some ⟨b23, 0, none⟩) sv498.1.length k3), (1, .int .i64 a6), (4, .func (.func g10) f11.toArray cp12.toArray), (12, .int .i64 sv498.2.1), (13, .int .i64 sv498.2.2)] a ∧ Wd ⟨w0, S0, blks [.row (some ⟨b23, 0, none⟩) data1.length k3 c4 46 2]⟩ Sv934 [.row (some ⟨b23, 0, none⟩) sv498.1.length k3 c933 46 2] [FnA2 Try.prog g10 f11 cp12 cmp9, RowA c933 sv498.1, LenA data1.length sv498.1] w) (l486, i495, j497) h1758 ⟨c487, Sv489, (hs.wk rfl), (hw.ft [0] [0, 1, 2] (by decide) rfl rfl)⟩ ?_
       clear h1758
       repeat clear hsh
       rintro sv498 a w tv1152 ⟨c933, Sv934, hs, hw⟩ hsh hd1151
       delta slices_partitionCmpFunc_api_Span_l7 at hsh
       refine wp_block ?_
       refine wp_seq ?_
       obtain ⟨e1454, h1708, hsh⟩ := bind_t hsh
       refine wp_join (fun a w => ∃ (Sv1455 : Nat → Prop), Sl 178 [(0, .slice (some ⟨b23, 0, none⟩) sv498.1.length k3), (1, .int .i64 a6), (4, .func (.func g10) f11.toArray cp12.toArray), (12, .int .i64 e1454), (13, .int .i64 sv498.2.2)] a ∧ Wd ⟨w0, S0, blks [.row (some ⟨b23, 0, none⟩) data1.length k3 c4 46 2]⟩ Sv1455 [.row (some ⟨b23, 0, none⟩) sv498.1.length k3 c933 46 2] [FnA2 Try.prog g10 f11 cp12 cmp9, RowA c933 sv498.1, LenA data1.length sv498.1] w) ?_ ?_
       ·refine wp_block ?_
        refine wp_while (fun sv1373 a w => ∃ (Sv1425 : Nat → Prop), Sl 178 [(0, .slice (some ⟨b23, 0, none⟩) sv498.1.length k3), (1, .int .i64 a6), (4, .func (.func g10) f11.toArray cp12.toArray), (12, .int .i64 sv1373), (13, .int .i64 sv498.2.2)] a ∧ Wd ⟨w0, S0, blks [.row (some ⟨b23, 0, none⟩) data1.length k3 c4 46 2]⟩ Sv1425 [.row (some ⟨b23, 0, none⟩) sv498.1.length k3 c933 46 2] [FnA2 Try.prog g10 f11 cp12 cmp9, RowA c933 sv498.1, LenA data1.length sv498.1] w) sv498.2.1 h1708 ⟨Sv934, (hs.wk rfl), (hw.ft [0] [0, 1, 2] (by decide) rfl rfl)⟩ ?_
        clear h1708
        repeat clear hsh
        rintro sv1373 a w tv1452 ⟨Sv1425, hs, hw⟩ hsh hd1451
        delta slices_partitionCmpFunc_api_Span_l12 at hsh
        refine wp_seq ?_
        refine wp_seq ?_
        obtain ⟨c1476, hc1476, hsh⟩ := bind_t hsh
        refine wp_only (fun a w => ∃ (Sv1477 : Nat → Prop), Sl 178 [(0, .slice (some ⟨b23, 0, none⟩) sv498.1.length k3), (1, .int .i64 a6), (4, .func (.func g10) f11.toArray cp12.toArray), (12, .int .i64 sv1373), (13, .int .i64 sv498.2.2), (120, .bool c1476)] a ∧ Wd ⟨w0, S0, blks [.row (some ⟨b23, 0, none⟩) data1.length k3 c4 46 2]⟩ Sv1477 [.row (some ⟨b23, 0, none⟩) sv498.1.length k3 c933 46 2] [FnA2 Try.prog g10 f11 cp12 cmp9, RowA c933 sv498.1, LenA data1.length sv498.1] w) ?_ ?_
        ·rcases Bool.eq_false_or_eq_true (decide (sv1373 ≤ sv498.2.2)) with h1478 | h1478
         ·have h1479 := ite_t hc1476 h1478
          obtain ⟨x1482, h1480, h1479⟩ := bind_t h1479
          obtain ⟨q1486, c1487, h1483, h1484, h1488, h1481⟩ := hw.elemRK (α := Span) 0 rfl 1 rfl h1480
          obtain ⟨_, _, rfl, rfl, rfl⟩ := h1481
          obtain ⟨x1491, h1489, h1479⟩ := bind_t h1479
          obtain ⟨q1495, c1496, h1492, h1493, h1497, h1490⟩ := hw.elemRK (α := Span) 0 rfl 1 rfl h1489
          obtain ⟨_, _, rfl, rfl, rfl⟩ := h1490
          obtain ⟨rv1499, h1498, h1479⟩ := bind_t h1479
          refine h_b (C := Cls [.row (some ⟨b23, 0, none⟩) sv498.1.length k3 c933 46 2] []) (by kernel_rfl) rfl (hw.drew.cs [0] [] rfl rfl) fun hC => ?_
          have hw := hw.drew
          refine h_g hs 0 rfl (by kernel_rfl) rfl rfl hC rfl (fun w hC => y_move rfl) fun a hs => ?_
          refine h_g hs 1 rfl (by kernel_rfl) rfl rfl hC rfl (fun w hC => y_move rfl) fun a hs => ?_
          refine h_g hs 2 rfl (by kernel_rfl) rfl rfl hC rfl (fun w hC => y_leq rfl rfl) fun a hs => ?_
          refine h_g hs 3 rfl (by kernel_rfl) rfl rfl hC rfl (fun w hC => y_move rfl) fun a hs => ?_
          have hs := hs.fix 108 (.bool true) rfl (vb h1478)
          refine h_t hs 4 rfl (by kernel_rfl) ⟨_, rfl, rfl⟩ rfl rfl hC (fun w hC => y_move rfl) fun a hs => ?_
          refine h_t hs 5 rfl (by kernel_rfl) ⟨_, rfl, rfl⟩ rfl rfl hC (fun w hC => y_move rfl) fun a hs => ?_
          refine h_t hs 6 rfl (by kernel_rfl) ⟨_, rfl, rfl⟩ rfl rfl hC (fun w hC => y_move rfl) fun a hs => ?_
          refine h_t hs 7 rfl (by kernel_rfl) ⟨_, rfl, rfl⟩ rfl rfl hC (fun w hC => y_indexAt Try.runUnderlying27 Try.sizeOf46 rfl rfl h1483.1 h1483.2 h1484) fun a hs => ?_
          refine h_t hs 8 rfl (by kernel_rfl) ⟨_, rfl, rfl⟩ rfl rfl hC (fun w hC => y_loadQA (j := 0) (hC.ownAt 0 rfl) rfl Try.isAgg46 Try.sizeOf46 h1488 rfl rfl) fun a hs => ?_
          refine h_t hs 9 rfl (by kernel_rfl) ⟨_, rfl, rfl⟩ rfl rfl hC (fun w hC => y_move rfl) fun a hs => ?_
          refine h_t hs 10 rfl (by kernel_rfl) ⟨_, rfl, rfl⟩ rfl rfl hC (fun w hC => y_move rfl) fun a hs => ?_
          refine h_t hs 11 rfl (by kernel_rfl) ⟨_, rfl, rfl⟩ rfl rfl hC (fun w hC => y_indexAt Try.runUnderlying27 Try.sizeOf46 rfl rfl h1492.1 h1492.2 h1493) fun a hs => ?_
          refine h_t hs 12 rfl (by kernel_rfl) ⟨_, rfl, rfl⟩ rfl rfl hC (fun w hC => y_loadQA (j := 0) (hC.ownAt 0 rfl) rfl Try.isAgg46 Try.sizeOf46 h1497 rfl rfl) fun a hs => ?_
          refine h_one (i := 13) (by kernel_rfl) rfl ?_
          refine st_callR hs ((hw.bE 0 rfl).2 Keep.rfl' hw.bdom ⟨_, _, rfl, rfl, rfl⟩ ⟨_, _, rfl, rfl, rfl⟩ h1498) (do_callF (hw.bE 0 rfl).1 rfl rfl) ⟨_, rfl, rfl⟩ rfl rfl ?_
          intro v1503 Sv1500 w a h1501 h1502 hs
          subst h1502
          have hw := hw.callB h1501
          refine h_nx (hw.cs [0] [] rfl rfl) fun hC => ?_
          refine h_t hs 14 rfl (by kernel_rfl) ⟨_, rfl, rfl⟩ rfl rfl hC (fun w hC => y_lss rfl rfl) fun a hs => ?_
          refine h_g hs 15 rfl (by kernel_rfl) rfl rfl hC rfl (fun w hC => y_pickTE (v := .bool c1476) rfl rfl (vbs h1479)) fun a hs => ?_
          refine h_done (by kernel_rfl) ?_
          exact ⟨Sv1425, (hs.wk rfl), (hw.ft [0] [0, 1, 2] (by decide) rfl rfl)⟩
         ·have h1504 := ite_f hc1476 h1478
          refine h_b (C := Cls [.row (some ⟨b23, 0, none⟩) sv498.1.length k3 c933 46 2] []) (by kernel_rfl) rfl (hw.drew.cs [0] [] rfl rfl) fun hC => ?_
          have hw := hw.drew
          refine h_g hs 0 rfl (by kernel_rfl) rfl rfl hC rfl (fun w hC => y_move rfl) fun a hs => ?_
          refine h_g hs 1 rfl (by kernel_rfl) rfl rfl hC rfl (fun w hC => y_move rfl) fun a hs => ?_
          refine h_g hs 2 rfl (by kernel_rfl) rfl rfl hC rfl (fun w hC => y_leq rfl rfl) fun a hs => ?_
          refine h_g hs 3 rfl (by kernel_rfl) rfl rfl hC rfl (fun w hC => y_move rfl) fun a hs => ?_
          have hs := hs.fix 108 (.bool false) rfl (vb h1478)
          refine h_s hs 4 rfl (by kernel_rfl) rfl rfl rfl (.inl rfl) rfl rfl hC fun a hs => ?_
          refine h_s hs 5 rfl (by kernel_rfl) rfl rfl rfl (.inl rfl) rfl rfl hC fun a hs => ?_
          refine h_s hs 6 rfl (by kernel_rfl) rfl rfl rfl (.inl rfl) rfl rfl hC fun a hs => ?_
          refine h_s hs 7 rfl (by kernel_rfl) rfl rfl rfl (.inl rfl) rfl rfl hC fun a hs => ?_
          refine h_s hs 8 rfl (by kernel_rfl) rfl rfl rfl (.inl rfl) rfl rfl hC fun a hs => ?_
          refine h_s hs 9 rfl (by kernel_rfl) rfl rfl rfl (.inl rfl) rfl rfl hC fun a hs => ?_
          refine h_s hs 10 rfl (by kernel_rfl) rfl rfl rfl (.inl rfl) rfl rfl hC fun a hs => ?_
          refine h_s hs 11 rfl (by kernel_rfl) rfl rfl rfl (.inl rfl) rfl rfl hC fun a hs => ?_
          refine h_s hs 12 rfl (by kernel_rfl) rfl rfl rfl (.inl rfl) rfl rfl hC fun a hs => ?_
          refine h_s hs 13 rfl (by kernel_rfl) rfl rfl rfl (.inl rfl) rfl rfl hC fun a hs => ?_
          refine h_s hs 14 rfl (by kernel_rfl) rfl rfl rfl (.inl rfl) rfl rfl hC fun a hs => ?_
          refine h_g hs 15 rfl (by kernel_rfl) rfl rfl hC rfl (fun w hC => y_pickFE (v := .bool c1476) rfl rfl (vbs h1504)) fun a hs => ?_
          refine h_done (by kernel_rfl) ?_
          exact ⟨Sv1425, (hs.wk rfl), (hw.ft [0] [0, 1, 2] (by decide) rfl rfl)⟩
        ·rintro a w ⟨Sv1477, hs, hw⟩
         refine then_normal ?_
         refine wp_cond_split (hs.ev rfl) (fun h1506 => ?_) (fun h1506 => ?_)
         ·have hsh := ite_t hsh h1506
          refine wp_skip ?_
          refine then_normal ?_
          refine wp_block ?_
          refine wp_region_lit ?_
          refine st_val hs (y_move rfl) trivial rfl rfl fun a hs => ?_
          refine st_val hs (y_add rfl rfl) trivial rfl rfl fun a hs => ?_
          obtain ⟨i1510, h1509, hsh⟩ := bind_t hsh
          refine st_val hs (y_assignI rfl h1509) trivial rfl rfl fun a hs => ?_
          refine wpList_nil ?_
          refine blk_normal ?_
          refine then_normal ?_
          exact ⟨_, (Option.some.inj hsh).symm, Sv1477, (hs.wk rfl), (hw.ft [0] [0, 1, 2] (by decide) rfl rfl)⟩
         ·have hsh := ite_f hsh h1506
          refine wp_exit ?_
          refine then_exit ?_
          refine then_exit ?_
          refine blk_exit ?_
          have hsh := Option.some.inj hsh
          subst hsh
          have h1511 := hd1451 _ rfl
          subst h1511
          refine then_normal ?_
          exact ⟨Sv1477, (hs.wk rfl), (hw.ft [0] [0, 1, 2] (by decide) rfl rfl)⟩
       ·rintro a w ⟨Sv1455, hs, hw⟩
        refine then_normal ?_
        refine wp_seq ?_
        obtain ⟨e1593, h1707, hsh⟩ := bind_t hsh
        refine wp_join (fun a w => ∃ (Sv1594 : Nat → Prop), Sl 178 [(0, .slice (some ⟨b23, 0, none⟩) sv498.1.length k3), (1, .int .i64 a6), (4, .func (.func g10) f11.toArray cp12.toArray), (12, .int .i64 e1454), (13, .int .i64 e1593)] a ∧ Wd ⟨w0, S0, blks [.row (some ⟨b23, 0, none⟩) data1.length k3 c4 46 2]⟩ Sv1594 [.row (some ⟨b23, 0, none⟩) sv498.1.length k3 c933 46 2] [FnA2 Try.prog g10 f11 cp12 cmp9, RowA c933 sv498.1, LenA data1.length sv498.1] w) ?_ ?_
        ·refine wp_block ?_
         refine wp_while (fun sv1512 a w => ∃ (Sv1564 : Nat → Prop), Sl 178 [(0, .slice (some ⟨b23, 0, none⟩) sv498.1.length k3), (1, .int .i64 a6), (4, .func (.func g10) f11.toArray cp12.toArray), (12, .int .i64 e1454), (13, .int .i64 sv1512)] a ∧ Wd ⟨w0, S0, blks [.row (some ⟨b23, 0, none⟩) data1.length k3 c4 46 2]⟩ Sv1564 [.row (some ⟨b23, 0, none⟩) sv498.1.length k3 c933 46 2] [FnA2 Try.prog g10 f11 cp12 cmp9, RowA c933 sv498.1, LenA data1.length sv498.1] w) sv498.2.2 h1707 ⟨Sv1455, (hs.wk rfl), (hw.ft [0] [0, 1, 2] (by decide) rfl rfl)⟩ ?_
         clear h1707
         repeat clear hsh
         rintro sv1512 a w tv1591 ⟨Sv1564, hs, hw⟩ hsh hd1590
         delta slices_partitionCmpFunc_api_Span_l13 at hsh
         refine wp_seq ?_
         refine wp_seq ?_
         obtain ⟨c1615, hc1615, hsh⟩ := bind_t hsh
         refine wp_only (fun a w => ∃ (Sv1616 : Nat → Prop), Sl 178 [(0, .slice (some ⟨b23, 0, none⟩) sv498.1.length k3), (1, .int .i64 a6), (4, .func (.func g10) f11.toArray cp12.toArray), (12, .int .i64 e1454), (13, .int .i64 sv1512), (139, .bool c1615)] a ∧ Wd ⟨w0, S0, blks [.row (some ⟨b23, 0, none⟩) data1.length k3 c4 46 2]⟩ Sv1616 [.row (some ⟨b23, 0, none⟩) sv498.1.length k3 c933 46 2] [FnA2 Try.prog g10 f11 cp12 cmp9, RowA c933 sv498.1, LenA data1.length sv498.1] w) ?_ ?_
         ·rcases Bool.eq_false_or_eq_true (decide (e1454 ≤ sv1512)) with h1617 | h1617
          ·have h1618 := ite_t hc1615 h1617
           obtain ⟨x1621, h1619, h1618⟩ := bind_t h1618
           obtain ⟨q1625, c1626, h1622, h1623, h1627, h1620⟩ := hw.elemRK (α := Span) 0 rfl 1 rfl h1619
           obtain ⟨_, _, rfl, rfl, rfl⟩ := h1620
           obtain ⟨x1630, h1628, h1618⟩ := bind_t h1618
           obtain ⟨q1634, c1635, h1631, h1632, h1636, h1629⟩ := hw.elemRK (α := Span) 0 rfl 1 rfl h1628
           obtain ⟨_, _, rfl, rfl, rfl⟩ := h1629
           obtain ⟨rv1638, h1637, h1618⟩ := bind_t h1618
           refine h_b (C := Cls [.row (some ⟨b23, 0, none⟩) sv498.1.length k3 c933 46 2] []) (by kernel_rfl) rfl (hw.drew.cs [0] [] rfl rfl) fun hC => ?_
           have hw := hw.drew
           refine h_g hs 0 rfl (by kernel_rfl) rfl rfl hC rfl (fun w hC => y_move rfl) fun a hs => ?_
           refine h_g hs 1 rfl (by kernel_rfl) rfl rfl hC rfl (fun w hC => y_move rfl) fun a hs => ?_
           refine h_g hs 2 rfl (by kernel_rfl) rfl rfl hC rfl (fun w hC => y_leq rfl rfl) fun a hs => ?_
           refine h_g hs 3 rfl (by kernel_rfl) rfl rfl hC rfl (fun w hC => y_move rfl) fun a hs => ?_
           have hs := hs.fix 126 (.bool true) rfl (vb h1617)
           refine h_t hs 4 rfl (by kernel_rfl) ⟨_, rfl, rfl⟩ rfl rfl hC (fun w hC => y_move rfl) fun a hs => ?_
           refine h_t hs 5 rfl (by kernel_rfl) ⟨_, rfl, rfl⟩ rfl rfl hC (fun w hC => y_move rfl) fun a hs => ?_
           refine h_t hs 6 rfl (by kernel_rfl) ⟨_, rfl, rfl⟩ rfl rfl hC (fun w hC => y_move rfl) fun a hs => ?_
           refine h_t hs 7 rfl (by kernel_rfl) ⟨_, rfl, rfl⟩ rfl rfl hC (fun w hC => y_indexAt Try.runUnderlying27 Try.sizeOf46 rfl rfl h1622.1 h1622.2 h1623) fun a hs => ?_
           refine h_t hs 8 rfl (by kernel_rfl) ⟨_, rfl, rfl⟩ rfl rfl hC (fun w hC => y_loadQA (j := 0) (hC.ownAt 0 rfl) rfl Try.isAgg46 Try.sizeOf46 h1627 rfl rfl) fun a hs => ?_
           refine h_t hs 9 rfl (by kernel_rfl) ⟨_, rfl, rfl⟩ rfl rfl hC (fun w hC => y_move rfl) fun a hs => ?_
           refine h_t hs 10 rfl (by kernel_rfl) ⟨_, rfl, rfl⟩ rfl rfl hC (fun w hC => y_move rfl) fun a hs => ?_
           refine h_t hs 11 rfl (by kernel_rfl) ⟨_, rfl, rfl⟩ rfl rfl hC (fun w hC => y_indexAt Try.runUnderlying27 Try.sizeOf46 rfl rfl h1631.1 h1631.2 h1632) fun a hs => ?_
           refine h_t hs 12 rfl (by kernel_rfl) ⟨_, rfl, rfl⟩ rfl rfl hC (fun w hC => y_loadQA (j := 0) (hC.ownAt 0 rfl) rfl Try.isAgg46 Try.sizeOf46 h1636 rfl rfl) fun a hs => ?_
           refine h_one (i := 13) (by kernel_rfl) rfl ?_
           refine st_callR hs ((hw.bE 0 rfl).2 Keep.rfl' hw.bdom ⟨_, _, rfl, rfl, rfl⟩ ⟨_, _, rfl, rfl, rfl⟩ h1637) (do_callF (hw.bE 0 rfl).1 rfl rfl) ⟨_, rfl, rfl⟩ rfl rfl ?_
           intro v1642 Sv1639 w a h1640 h1641 hs
           subst h1641
           have hw := hw.callB h1640
           refine h_nx (hw.cs [0] [] rfl rfl) fun hC => ?_
           refine h_t hs 14 rfl (by kernel_rfl) ⟨_, rfl, rfl⟩ rfl rfl hC (fun w hC => y_lss rfl rfl) fun a hs => ?_
           refine h_t hs 15 rfl (by kernel_rfl) ⟨_, rfl, rfl⟩ rfl rfl hC (fun w hC => y_not rfl) fun a hs => ?_
           refine h_g hs 16 rfl (by kernel_rfl) rfl rfl hC rfl (fun w hC => y_pickTE (v := .bool c1615) rfl rfl (vbs h1618)) fun a hs => ?_
           refine h_done (by kernel_rfl) ?_
           exact ⟨Sv1564, (hs.wk rfl), (hw.ft [0] [0, 1, 2] (by decide) rfl rfl)⟩
          ·have h1643 := ite_f hc1615 h1617
           refine h_b (C := Cls [.row (some ⟨b23, 0, none⟩) sv498.1.length k3 c933 46 2] []) (by kernel_rfl) rfl (hw.drew.cs [0] [] rfl rfl) fun hC => ?_
           have hw := hw.drew
           refine h_g hs 0 rfl (by kernel_rfl) rfl rfl hC rfl (fun w hC => y_move rfl) fun a hs => ?_
           refine h_g hs 1 rfl (by kernel_rfl) rfl rfl hC rfl (fun w hC => y_move rfl) fun a hs => ?_
           refine h_g hs 2 rfl (by kernel_rfl) rfl rfl hC rfl (fun w hC => y_leq rfl rfl) fun a hs => ?_
           refine h_g hs 3 rfl (by kernel_rfl) rfl rfl hC rfl (fun w hC => y_move rfl) fun a hs => ?_
           have hs := hs.fix 126 (.bool false) rfl (vb h1617)
           refine h_s hs 4 rfl (by kernel_rfl) rfl rfl rfl (.inl rfl) rfl rfl hC fun a hs => ?_
           refine h_s hs 5 rfl (by kernel_rfl) rfl rfl rfl (.inl rfl) rfl rfl hC fun a hs => ?_
           refine h_s hs 6 rfl (by kernel_rfl) rfl rfl rfl (.inl rfl) rfl rfl hC fun a hs => ?_
           refine h_s hs 7 rfl (by kernel_rfl) rfl rfl rfl (.inl rfl) rfl rfl hC fun a hs => ?_
           refine h_s hs 8 rfl (by kernel_rfl) rfl rfl rfl (.inl rfl) rfl rfl hC fun a hs => ?_
           refine h_s hs 9 rfl (by kernel_rfl) rfl rfl rfl (.inl rfl) rfl rfl hC fun a hs => ?_
           refine h_s hs 10 rfl (by kernel_rfl) rfl rfl rfl (.inl rfl) rfl rfl hC fun a hs => ?_
           refine h_s hs 11 rfl (by kernel_rfl) rfl rfl rfl (.inl rfl) rfl rfl hC fun a hs => ?_
           refine h_s hs 12 rfl (by kernel_rfl) rfl rfl rfl (.inl rfl) rfl rfl hC fun a hs => ?_
           refine h_s hs 13 rfl (by kernel_rfl) rfl rfl rfl (.inl rfl) rfl rfl hC fun a hs => ?_
           refine h_s hs 14 rfl (by kernel_rfl) rfl rfl rfl (.inl rfl) rfl rfl hC fun a hs => ?_
           refine h_s hs 15 rfl (by kernel_rfl) rfl rfl rfl (.inl rfl) rfl rfl hC fun a hs => ?_
           refine h_g hs 16 rfl (by kernel_rfl) rfl rfl hC rfl (fun w hC => y_pickFE (v := .bool c1615) rfl rfl (vbs h1643)) fun a hs => ?_
           refine h_done (by kernel_rfl) ?_
           exact ⟨Sv1564, (hs.wk rfl), (hw.ft [0] [0, 1, 2] (by decide) rfl rfl)⟩
         ·rintro a w ⟨Sv1616, hs, hw⟩
          refine then_normal ?_
          refine wp_cond_split (hs.ev rfl) (fun h1645 => ?_) (fun h1645 => ?_)
          ·have hsh := ite_t hsh h1645
           refine wp_skip ?_
           refine then_normal ?_
           refine wp_block ?_
           refine wp_region_lit ?_
           refine st_val hs (y_move rfl) trivial rfl rfl fun a hs => ?_
           refine st_val hs (y_sub rfl rfl) trivial rfl rfl fun a hs => ?_
           obtain ⟨j1649, h1648, hsh⟩ := bind_t hsh
           refine st_val hs (y_assignI rfl h1648) trivial rfl rfl fun a hs => ?_
           refine wpList_nil ?_
           refine blk_normal ?_
           refine then_normal ?_
           exact ⟨_, (Option.some.inj hsh).symm, Sv1616, (hs.wk rfl), (hw.ft [0] [0, 1, 2] (by decide) rfl rfl)⟩
          ·have hsh := ite_f hsh h1645
           refine wp_exit ?_
           refine then_exit ?_
           refine then_exit ?_
           refine blk_exit ?_
           have hsh := Option.some.inj hsh
           subst hsh
           have h1650 := hd1590 _ rfl
           subst h1650
           refine then_normal ?_
           exact ⟨Sv1616, (hs.wk rfl), (hw.ft [0] [0, 1, 2] (by decide) rfl rfl)⟩
        ·rintro a w ⟨Sv1594, hs, hw⟩
         refine then_normal ?_
         refine wp_seq ?_
         refine wp_seq ?_
         refine wp_region_lit ?_
         refine st_val hs (y_move rfl) trivial rfl rfl fun a hs => ?_
         refine st_val hs (y_move rfl) trivial rfl rfl fun a hs => ?_
         refine st_val hs (y_gtr rfl rfl) trivial rfl rfl fun a hs => ?_
         refine wpList_nil ?_
         refine then_normal ?_
         refine wp_cond_split (hs.ev rfl) (fun h1652 => ?_) (fun h1652 => ?_)
         ·have hsh := ite_t hsh h1652
          refine wp_exit ?_
          refine then_exit ?_
          refine blk_other rfl ?_
          refine then_exit ?_
          refine blk_exit ?_
          have hsh := Option.some.inj hsh
          subst hsh
          have h1653 := hd1151 _ rfl
          subst h1653
          refine then_normal ?_
          exact ⟨c933, Sv1594, (hs.wk rfl), (hw.ft [0] [1, 2] (by decide) rfl rfl)⟩
         ·have hsh := ite_f hsh h1652
          refine wp_skip ?_
          refine then_normal ?_
          refine wp_seq ?_
          obtain ⟨x1656, h1654, hsh⟩ := bind_t hsh
          obtain ⟨q1660, c1661, h1657, h1658, h1662, h1655⟩ := hw.elemRK (α := Span) 0 rfl 1 rfl h1654
          obtain ⟨_, _, rfl, rfl, rfl⟩ := h1655
          obtain ⟨x1665, h1663, hsh⟩ := bind_t hsh
          obtain ⟨q1669, c1670, h1666, h1667, h1671, h1664⟩ := hw.elemRK (α := Span) 0 rfl 1 rfl h1663
          obtain ⟨_, _, rfl, rfl, rfl⟩ := h1664
          obtain ⟨x1674, h1672, hsh⟩ := bind_t hsh
          obtain ⟨q1678, c1679, h1675, h1676, h1680, h1673⟩ := hw.elemRK (α := Span) 0 rfl 1 rfl h1672
          obtain ⟨_, _, rfl, rfl, rfl⟩ := h1673
          obtain ⟨l1682, h1681, hsh⟩ := bind_t hsh
          obtain ⟨x1687, h1685, hsh⟩ := bind_t hsh
          obtain ⟨l1695, h1694, hsh⟩ := bind_t hsh
          refine wp_only (fun a w => ∃ (Sv1698 : Nat → Prop) (c1696 : List Value), Sl 178 [(0, .slice (some ⟨b23, 0, none⟩) l1695.length k3), (1, .int .i64 a6), (4, .func (.func g10) f11.toArray cp12.toArray), (12, .int .i64 e1454), (13, .int .i64 e1593)] a ∧ Wd ⟨w0, S0, blks [.row (some ⟨b23, 0, none⟩) data1.length k3 c4 46 2]⟩ Sv1698 [.row (some ⟨b23, 0, none⟩) l1695.length k3 c1696 46 2] [FnA2 Try.prog g10 f11 cp12 cmp9, RowA c1696 l1695, LenA data1.length l1695] w) ?_ ?_
          ·refine h_b (C := Cls [] []) (by kernel_rfl) rfl (hw.drew.cs [] [] rfl rfl) fun hC => ?_
           have hw := hw.drew
           refine h_g hs 0 rfl (by kernel_rfl) rfl rfl hC rfl (fun w hC => y_move rfl) fun a hs => ?_
           refine h_g hs 1 rfl (by kernel_rfl) rfl rfl hC rfl (fun w hC => y_move rfl) fun a hs => ?_
           refine h_g hs 2 rfl (by kernel_rfl) rfl rfl hC rfl (fun w hC => y_move rfl) fun a hs => ?_
           refine h_g hs 3 rfl (by kernel_rfl) rfl rfl hC rfl (fun w hC => y_move rfl) fun a hs => ?_
           refine h_g hs 4 rfl (by kernel_rfl) rfl rfl hC rfl (fun w hC => y_move rfl) fun a hs => ?_
           refine h_g hs 5 rfl (by kernel_rfl) rfl rfl hC rfl (fun w hC => y_move rfl) fun a hs => ?_
           refine h_g hs 6 rfl (by kernel_rfl) rfl rfl hC rfl (fun w hC => y_indexAt Try.runUnderlying27 Try.sizeOf46 rfl rfl h1657.1 h1657.2 h1658) fun a hs => ?_
           refine h_g hs 8 rfl (by kernel_rfl) rfl rfl hC rfl (fun w hC => y_move rfl) fun a hs => ?_
           refine h_g hs 9 rfl (by kernel_rfl) rfl rfl hC rfl (fun w hC => y_move rfl) fun a hs => ?_
           refine h_g hs 10 rfl (by kernel_rfl) rfl rfl hC rfl (fun w hC => y_indexAt Try.runUnderlying27 Try.sizeOf46 rfl rfl h1666.1 h1666.2 h1667) fun a hs => ?_
           refine h_all (rs := [7, 11]) (by kernel_rfl) rfl ?_
           refine AllH.cons rfl ?_ ?_
           ·refine st_val hs (y_loadQA (j := 0) (hw.ownAt 0 rfl) rfl Try.isAgg46 Try.sizeOf46 h1662 rfl rfl) trivial rfl rfl fun a hs => ?_
            refine h_nx (hw.cs [] [] rfl rfl) fun hC => ?_
            refine h_one (i := 11) (by kernel_rfl) rfl ?_
            refine st_val hs (y_loadQA (j := 0) (hw.ownAt 0 rfl) rfl Try.isAgg46 Try.sizeOf46 h1671 rfl rfl) trivial rfl rfl fun a hs => ?_
            refine h_nx (hw.cs [] [] rfl rfl) fun hC => ?_
            refine h_g hs 12 rfl (by kernel_rfl) rfl rfl hC rfl (fun w hC => y_indexAt Try.runUnderlying27 Try.sizeOf46 rfl rfl h1675.1 h1675.2 h1676) fun a hs => ?_
            refine h_one (i := 13) (by kernel_rfl) rfl ?_
            have h1699 := hw.envAt 2 rfl
            refine w_storeF (α := Span) hs hw 0 rfl 1 rfl h1676 rfl rfl Try.sizeOf46 rfl h1681 ⟨_, _, rfl, rfl, rfl⟩ trivial ?_
            intro c1683 a w hs hw
            have hw := hw.addE (e := LenA data1.length l1682) (len_set (w := w) (S := S0) h1699 h1681)
            have h1684 := setM_len h1681
            try have hs := hs.fix 0 (.slice (some ⟨b23, 0, none⟩) l1682.length k3) rfl (by rw [h1684])
            try have hs := hs.fix 145 (.slice (some ⟨b23, 0, none⟩) l1682.length k3) rfl (by rw [h1684])
            try have hs := hs.fix 147 (.slice (some ⟨b23, 0, none⟩) l1682.length k3) rfl (by rw [h1684])
            try have hs := hs.fix 149 (.slice (some ⟨b23, 0, none⟩) l1682.length k3) rfl (by rw [h1684])
            try have hs := hs.fix 153 (.slice (some ⟨b23, 0, none⟩) l1682.length k3) rfl (by rw [h1684])
            refine h_nx (hw.cs [] [] rfl rfl) fun hC => ?_
            refine h_one (i := 14) (by kernel_rfl) rfl ?_
            obtain ⟨c1692, h1688, h1693, h1686⟩ := hw.elemRX (α := Span) 0 rfl 1 rfl h1685
            obtain ⟨_, _, rfl, rfl, rfl⟩ := h1686
            refine st_val hs (y_indexAt Try.runUnderlying27 Try.sizeOf46 rfl rfl h1688.1 h1688.2 rfl) trivial rfl rfl fun a hs => ?_
            refine h_nx (hw.cs [] [] rfl rfl) fun hC => ?_
            refine h_one (i := 15) (by kernel_rfl) rfl ?_
            have h1700 := hw.envAt 0 rfl
            refine w_storeF (α := Span) hs hw 0 rfl 1 rfl rfl rfl rfl Try.sizeOf46 rfl h1694 ⟨_, _, rfl, rfl, rfl⟩ trivial ?_
            intro c1696 a w hs hw
            have hw := hw.addE (e := LenA data1.length l1695) (len_set (w := w) (S := S0) h1700 h1694)
            have h1697 := setM_len h1694
            try have hs := hs.fix 0 (.slice (some ⟨b23, 0, none⟩) l1695.length k3) rfl (by rw [h1697])
            try have hs := hs.fix 145 (.slice (some ⟨b23, 0, none⟩) l1695.length k3) rfl (by rw [h1697])
            try have hs := hs.fix 147 (.slice (some ⟨b23, 0, none⟩) l1695.length k3) rfl (by rw [h1697])
            try have hs := hs.fix 149 (.slice (some ⟨b23, 0, none⟩) l1695.length k3) rfl (by rw [h1697])
            try have hs := hs.fix 153 (.slice (some ⟨b23, 0, none⟩) l1695.length k3) rfl (by rw [h1697])
            refine h_nx (hw.cs [] [] rfl rfl) fun hC => ?_
            refine h_done (by kernel_rfl) ?_
            exact ⟨Sv1594, c1696, (hs.wk rfl), (hw.ft [0] [4, 1, 0] (by decide) rfl rfl)⟩
           refine AllH.cons rfl ?_ ?_
           ·refine st_val hs (y_loadQA (j := 0) (hw.ownAt 0 rfl) rfl Try.isAgg46 Try.sizeOf46 h1671 rfl rfl) trivial rfl rfl fun a hs => ?_
            refine h_nx (hw.cs [] [] rfl rfl) fun hC => ?_
            refine h_one (i := 7) (by kernel_rfl) rfl ?_
            refine st_val hs (y_loadQA (j := 0) (hw.ownAt 0 rfl) rfl Try.isAgg46 Try.sizeOf46 h1662 rfl rfl) trivial rfl rfl fun a hs => ?_
            refine h_nx (hw.cs [] [] rfl rfl) fun hC => ?_
            refine h_g hs 12 rfl (by kernel_rfl) rfl rfl hC rfl (fun w hC => y_indexAt Try.runUnderlying27 Try.sizeOf46 rfl rfl h1675.1 h1675.2 h1676) fun a hs => ?_
            refine h_one (i := 13) (by kernel_rfl) rfl ?_
            have h1701 := hw.envAt 2 rfl
            refine w_storeF (α := Span) hs hw 0 rfl 1 rfl h1676 rfl rfl Try.sizeOf46 rfl h1681 ⟨_, _, rfl, rfl, rfl⟩ trivial ?_
            intro c1683 a w hs hw
            have hw := hw.addE (e := LenA data1.length l1682) (len_set (w := w) (S := S0) h1701 h1681)
            have h1684 := setM_len h1681
            try have hs := hs.fix 0 (.slice (some ⟨b23, 0, none⟩) l1682.length k3) rfl (by rw [h1684])
            try have hs := hs.fix 145 (.slice (some ⟨b23, 0, none⟩) l1682.length k3) rfl (by rw [h1684])
            try have hs := hs.fix 147 (.slice (some ⟨b23, 0, none⟩) l1682.length k3) rfl (by rw [h1684])
            try have hs := hs.fix 149 (.slice (some ⟨b23, 0, none⟩) l1682.length k3) rfl (by rw [h1684])
            try have hs := hs.fix 153 (.slice (some ⟨b23, 0, none⟩) l1682.length k3) rfl (by rw [h1684])
            refine h_nx (hw.cs [] [] rfl rfl) fun hC => ?_
            refine h_one (i := 14) (by kernel_rfl) rfl ?_
            obtain ⟨c1692, h1688, h1693, h1686⟩ := hw.elemRX (α := Span) 0 rfl 1 rfl h1685
            obtain ⟨_, _, rfl, rfl, rfl⟩ := h1686
            refine st_val hs (y_indexAt Try.runUnderlying27 Try.sizeOf46 rfl rfl h1688.1 h1688.2 rfl) trivial rfl rfl fun a hs => ?_
            refine h_nx (hw.cs [] [] rfl rfl) fun hC => ?_
            refine h_one (i := 15) (by kernel_rfl) rfl ?_
            have h1702 := hw.envAt 0 rfl
            refine w_storeF (α := Span) hs hw 0 rfl 1 rfl rfl rfl rfl Try.sizeOf46 rfl h1694 ⟨_, _, rfl, rfl, rfl⟩ trivial ?_
            intro c1696 a w hs hw
            have hw := hw.addE (e := LenA data1.length l1695) (len_set (w := w) (S := S0) h1702 h1694)
            have h1697 := setM_len h1694
            try have hs := hs.fix 0 (.slice (some ⟨b23, 0, none⟩) l1695.length k3) rfl (by rw [h1697])
            try have hs := hs.fix 145 (.slice (some ⟨b23, 0, none⟩) l1695.length k3) rfl (by rw [h1697])
            try have hs := hs.fix 147 (.slice (some ⟨b23, 0, none⟩) l1695.length k3) rfl (by rw [h1697])
            try have hs := hs.fix 149 (.slice (some ⟨b23, 0, none⟩) l1695.length k3) rfl (by rw [h1697])
            try have hs := hs.fix 153 (.slice (some ⟨b23, 0, none⟩) l1695.length k3) rfl (by rw [h1697])
            refine h_nx (hw.cs [] [] rfl rfl) fun hC => ?_
            refine h_done (by kernel_rfl) ?_
            exact ⟨Sv1594, c1696, (hs.wk rfl), (hw.ft [0] [4, 1, 0] (by decide) rfl rfl)⟩
           exact AllH.nil
          ·rintro a w ⟨Sv1698, c1696, hs, hw⟩
           refine then_normal ?_
           refine wp_seq ?_
           refine wp_region_lit ?_
           refine st_val hs (y_move rfl) trivial rfl rfl fun a hs => ?_
           refine st_val hs (y_add rfl rfl) trivial rfl rfl fun a hs => ?_
           obtain ⟨i1704, h1703, hsh⟩ := bind_t hsh
           refine st_val hs (y_assignI rfl h1703) trivial rfl rfl fun a hs => ?_
           refine wpList_nil ?_
           refine then_normal ?_
           refine wp_region_lit ?_
           refine st_val hs (y_move rfl) trivial rfl rfl fun a hs => ?_
           refine st_val hs (y_sub rfl rfl) trivial rfl rfl fun a hs => ?_
           obtain ⟨j1706, h1705, hsh⟩ := bind_t hsh
           refine st_val hs (y_assignI rfl h1705) trivial rfl rfl fun a hs => ?_
           refine wpList_nil ?_
           refine blk_normal ?_
           refine then_normal ?_
           exact ⟨_, (Option.some.inj hsh).symm, c1696, Sv1698, (hs.wk rfl), (hw.ft [0] [0, 1, 2] (by decide) rfl rfl)⟩
      ·rintro a w ⟨c1155, Sv1156, hs, hw⟩
       refine then_normal ?_
       refine wp_seq ?_
       obtain ⟨x1711, h1709, hsh⟩ := bind_t hsh
       obtain ⟨q1715, c1716, h1712, h1713, h1717, h1710⟩ := hw.elemRK (α := Span) 0 rfl 0 rfl h1709
       obtain ⟨_, _, rfl, rfl, rfl⟩ := h1710
       obtain ⟨x1720, h1718, hsh⟩ := bind_t hsh
       obtain ⟨q1724, c1725, h1721, h1722, h1726, h1719⟩ := hw.elemRK (α := Span) 0 rfl 0 rfl h1718
       obtain ⟨_, _, rfl, rfl, rfl⟩ := h1719
       obtain ⟨x1729, h1727, hsh⟩ := bind_t hsh
       obtain ⟨q1733, c1734, h1730, h1731, h1735, h1728⟩ := hw.elemRK (α := Span) 0 rfl 0 rfl h1727
       obtain ⟨_, _, rfl, rfl, rfl⟩ := h1728
       obtain ⟨l1737, h1736, hsh⟩ := bind_t hsh
       obtain ⟨x1742, h1740, hsh⟩ := bind_t hsh
       obtain ⟨l1750, h1749, hsh⟩ := bind_t hsh
       refine wp_only (fun a w => ∃ (Sv1753 : Nat → Prop) (c1751 : List Value), Sl 178 [(13, .int .i64 e1154.2)] a ∧ Wd ⟨w0, S0, blks [.row (some ⟨b23, 0, none⟩) data1.length k3 c4 46 2]⟩ Sv1753 [.row (some ⟨b23, 0, none⟩) l1750.length k3 c1751 46 2] [RowA c1751 l1750, LenA data1.length l1750] w) ?_ ?_
       ·refine h_b (C := Cls [] []) (by kernel_rfl) rfl (hw.drew.cs [] [] rfl rfl) fun hC => ?_
        have hw := hw.drew
        refine h_g hs 0 rfl (by kernel_rfl) rfl rfl hC rfl (fun w hC => y_move rfl) fun a hs => ?_
        refine h_g hs 1 rfl (by kernel_rfl) rfl rfl hC rfl (fun w hC => y_move rfl) fun a hs => ?_
        refine h_g hs 2 rfl (by kernel_rfl) rfl rfl hC rfl (fun w hC => y_move rfl) fun a hs => ?_
        refine h_g hs 3 rfl (by kernel_rfl) rfl rfl hC rfl (fun w hC => y_move rfl) fun a hs => ?_
        refine h_g hs 4 rfl (by kernel_rfl) rfl rfl hC rfl (fun w hC => y_move rfl) fun a hs => ?_
        refine h_g hs 5 rfl (by kernel_rfl) rfl rfl hC rfl (fun w hC => y_move rfl) fun a hs => ?_
        refine h_g hs 6 rfl (by kernel_rfl) rfl rfl hC rfl (fun w hC => y_indexAt Try.runUnderlying27 Try.sizeOf46 rfl rfl h1712.1 h1712.2 h1713) fun a hs => ?_
        refine h_g hs 8 rfl (by kernel_rfl) rfl rfl hC rfl (fun w hC => y_move rfl) fun a hs => ?_
        refine h_g hs 9 rfl (by kernel_rfl) rfl rfl hC rfl (fun w hC => y_move rfl) fun a hs => ?_
        refine h_g hs 10 rfl (by kernel_rfl) rfl rfl hC rfl (fun w hC => y_indexAt Try.runUnderlying27 Try.sizeOf46 rfl rfl h1721.1 h1721.2 h1722) fun a hs => ?_
        refine h_all (rs := [7, 11]) (by kernel_rfl) rfl ?_
        refine AllH.cons rfl ?_ ?_
        ·refine st_val hs (y_loadQA (j := 0) (hw.ownAt 0 rfl) rfl Try.isAgg46 Try.sizeOf46 h1717 rfl rfl) trivial rfl rfl fun a hs => ?_
         refine h_nx (hw.cs [] [] rfl rfl) fun hC => ?_
         refine h_one (i := 11) (by kernel_rfl) rfl ?_
         refine st_val hs (y_loadQA (j := 0) (hw.ownAt 0 rfl) rfl Try.isAgg46 Try.sizeOf46 h1726 rfl rfl) trivial rfl rfl fun a hs => ?_
         refine h_nx (hw.cs [] [] rfl rfl) fun hC => ?_
         refine h_g hs 12 rfl (by kernel_rfl) rfl rfl hC rfl (fun w hC => y_indexAt Try.runUnderlying27 Try.sizeOf46 rfl rfl h1730.1 h1730.2 h1731) fun a hs => ?_
         refine h_one (i := 13) (by kernel_rfl) rfl ?_
         have h1754 := hw.envAt 1 rfl
         refine w_storeF (α := Span) hs hw 0 rfl 0 rfl h1731 rfl rfl Try.sizeOf46 rfl h1736 ⟨_, _, rfl, rfl, rfl⟩ trivial ?_
         intro c1738 a w hs hw
         have hw := hw.addE (e := LenA data1.length l1737) (len_set (w := w) (S := S0) h1754 h1736)
         have h1739 := setM_len h1736
         try have hs := hs.fix 0 (.slice (some ⟨b23, 0, none⟩) l1737.length k3) rfl (by rw [h1739])
         try have hs := hs.fix 163 (.slice (some ⟨b23, 0, none⟩) l1737.length k3) rfl (by rw [h1739])
         try have hs := hs.fix 165 (.slice (some ⟨b23, 0, none⟩) l1737.length k3) rfl (by rw [h1739])
         try have hs := hs.fix 167 (.slice (some ⟨b23, 0, none⟩) l1737.length k3) rfl (by rw [h1739])
         try have hs := hs.fix 171 (.slice (some ⟨b23, 0, none⟩) l1737.length k3) rfl (by rw [h1739])
         refine h_nx (hw.cs [] [] rfl rfl) fun hC => ?_
         refine h_one (i := 14) (by kernel_rfl) rfl ?_
         obtain ⟨c1747, h1743, h1748, h1741⟩ := hw.elemRX (α := Span) 0 rfl 1 rfl h1740
         obtain ⟨_, _, rfl, rfl, rfl⟩ := h1741
         refine st_val hs (y_indexAt Try.runUnderlying27 Try.sizeOf46 rfl rfl h1743.1 h1743.2 rfl) trivial rfl rfl fun a hs => ?_
         refine h_nx (hw.cs [] [] rfl rfl) fun hC => ?_
         refine h_one (i := 15) (by kernel_rfl) rfl ?_
         have h1755 := hw.envAt 0 rfl
         refine w_storeF (α := Span) hs hw 0 rfl 1 rfl rfl rfl rfl Try.sizeOf46 rfl h1749 ⟨_, _, rfl, rfl, rfl⟩ trivial ?_
         intro c1751 a w hs hw
         have hw := hw.addE (e := LenA data1.length l1750) (len_set (w := w) (S := S0) h1755 h1749)
         have h1752 := setM_len h1749
         try have hs := hs.fix 0 (.slice (some ⟨b23, 0, none⟩) l1750.length k3) rfl (by rw [h1752])
         try have hs := hs.fix 163 (.slice (some ⟨b23, 0, none⟩) l1750.length k3) rfl (by rw [h1752])
         try have hs := hs.fix 165 (.slice (some ⟨b23, 0, none⟩) l1750.length k3) rfl (by rw [h1752])
         try have hs := hs.fix 167 (.slice (some ⟨b23, 0, none⟩) l1750.length k3) rfl (by rw [h1752])
         try have hs := hs.fix 171 (.slice (some ⟨b23, 0, none⟩) l1750.length k3) rfl (by rw [h1752])
         refine h_nx (hw.cs [] [] rfl rfl) fun hC => ?_
         refine h_done (by kernel_rfl) ?_
         exact ⟨Sv1156, c1751, (hs.wk rfl), (hw.ft [0] [1, 0] (by decide) rfl rfl)⟩
        refine AllH.cons rfl ?_ ?_
        ·refine st_val hs (y_loadQA (j := 0) (hw.ownAt 0 rfl) rfl Try.isAgg46 Try.sizeOf46 h1726 rfl rfl) trivial rfl rfl fun a hs => ?_
         refine h_nx (hw.cs [] [] rfl rfl) fun hC => ?_
         refine h_one (i := 7) (by kernel_rfl) rfl ?_
         refine st_val hs (y_loadQA (j := 0) (hw.ownAt 0 rfl) rfl Try.isAgg46 Try.sizeOf46 h1717 rfl rfl) trivial rfl rfl fun a hs => ?_
         refine h_nx (hw.cs [] [] rfl rfl) fun hC => ?_
         refine h_g hs 12 rfl (by kernel_rfl) rfl rfl hC rfl (fun w hC => y_indexAt Try.runUnderlying27 Try.sizeOf46 rfl rfl h1730.1 h1730.2 h1731) fun a hs => ?_
         refine h_one (i := 13) (by kernel_rfl) rfl ?_
         have h1756 := hw.envAt 1 rfl
         refine w_storeF (α := Span) hs hw 0 rfl 0 rfl h1731 rfl rfl Try.sizeOf46 rfl h1736 ⟨_, _, rfl, rfl, rfl⟩ trivial ?_
         intro c1738 a w hs hw
         have hw := hw.addE (e := LenA data1.length l1737) (len_set (w := w) (S := S0) h1756 h1736)
         have h1739 := setM_len h1736
         try have hs := hs.fix 0 (.slice (some ⟨b23, 0, none⟩) l1737.length k3) rfl (by rw [h1739])
         try have hs := hs.fix 163 (.slice (some ⟨b23, 0, none⟩) l1737.length k3) rfl (by rw [h1739])
         try have hs := hs.fix 165 (.slice (some ⟨b23, 0, none⟩) l1737.length k3) rfl (by rw [h1739])
         try have hs := hs.fix 167 (.slice (some ⟨b23, 0, none⟩) l1737.length k3) rfl (by rw [h1739])
         try have hs := hs.fix 171 (.slice (some ⟨b23, 0, none⟩) l1737.length k3) rfl (by rw [h1739])
         refine h_nx (hw.cs [] [] rfl rfl) fun hC => ?_
         refine h_one (i := 14) (by kernel_rfl) rfl ?_
         obtain ⟨c1747, h1743, h1748, h1741⟩ := hw.elemRX (α := Span) 0 rfl 1 rfl h1740
         obtain ⟨_, _, rfl, rfl, rfl⟩ := h1741
         refine st_val hs (y_indexAt Try.runUnderlying27 Try.sizeOf46 rfl rfl h1743.1 h1743.2 rfl) trivial rfl rfl fun a hs => ?_
         refine h_nx (hw.cs [] [] rfl rfl) fun hC => ?_
         refine h_one (i := 15) (by kernel_rfl) rfl ?_
         have h1757 := hw.envAt 0 rfl
         refine w_storeF (α := Span) hs hw 0 rfl 1 rfl rfl rfl rfl Try.sizeOf46 rfl h1749 ⟨_, _, rfl, rfl, rfl⟩ trivial ?_
         intro c1751 a w hs hw
         have hw := hw.addE (e := LenA data1.length l1750) (len_set (w := w) (S := S0) h1757 h1749)
         have h1752 := setM_len h1749
         try have hs := hs.fix 0 (.slice (some ⟨b23, 0, none⟩) l1750.length k3) rfl (by rw [h1752])
         try have hs := hs.fix 163 (.slice (some ⟨b23, 0, none⟩) l1750.length k3) rfl (by rw [h1752])
         try have hs := hs.fix 165 (.slice (some ⟨b23, 0, none⟩) l1750.length k3) rfl (by rw [h1752])
         try have hs := hs.fix 167 (.slice (some ⟨b23, 0, none⟩) l1750.length k3) rfl (by rw [h1752])
         try have hs := hs.fix 171 (.slice (some ⟨b23, 0, none⟩) l1750.length k3) rfl (by rw [h1752])
         refine h_nx (hw.cs [] [] rfl rfl) fun hC => ?_
         refine h_done (by kernel_rfl) ?_
         exact ⟨Sv1156, c1751, (hs.wk rfl), (hw.ft [0] [1, 0] (by decide) rfl rfl)⟩
        exact AllH.nil
       ·rintro a w ⟨Sv1753, c1751, hs, hw⟩
        refine then_normal ?_
        refine wp_seq ?_
        refine wp_region_lit ?_
        refine st_val hs (y_move rfl) trivial rfl rfl fun a hs => ?_
        refine st_val hs (y_assign rfl) trivial rfl rfl fun a hs => ?_
        refine st_val hs (y_assign rfl) trivial rfl rfl fun a hs => ?_
        refine wpList_nil ?_
        refine then_normal ?_
        have hsh := Option.some.inj hsh
        subst hsh
        refine wp_ret ?_
        exact ret2 hs rfl (rv_tmp rfl) (rv_tmp rfl) (hw.ret ⟨c1751, rfl, (hw.outs [0] (by decide) rfl), (hw.envAt 0 rfl), (hw.envAt 1 rfl)⟩)

abbrev slices_nextPowerOfTwo_rd (w0 : World) (X : List Nat) (r : Int) : (Nat → Prop) → World → Value → Prop := fun S w v => v = .int .u64 r
set_option maxHeartbeats 4000000 in
set_option maxRecDepth 100000 in
theorem slices_nextPowerOfTwo_ok {w0 : World} {S0 : Nat → Prop} {length1 : Int} {r : Int} (hsh : slices_nextPowerOfTwo length1 = some r) (hS : ∀ b, S0 b → b < w0.heap.size) : Calls Try.prog 81 #[.int .i64 length1] w0 (Ret ([]) w0 S0 (slices_nextPowerOfTwo_rd w0 ([]) r)) := by
 refine calls_of_wp Try.func81 rfl ?_
 have hs := Sl.enter #[.int .i64 length1] 7 [(0, .int .i64 length1)] rfl ⟨rfl, trivial⟩
 have hw := Wd.enter (E := []) hS (fun _ h => (by cases h))
 delta slices_nextPowerOfTwo at hsh
 refine wp_seq ?_
 refine wp_region_lit ?_
 refine st_val hs (y_assign rfl) trivial rfl rfl fun a hs => ?_
 refine wpList_nil ?_
 refine then_normal ?_
 refine wp_seq ?_
 refine wp_region_lit ?_
 refine st_val hs (y_move rfl) trivial rfl rfl fun a hs => ?_
 refine st_val hs (y_convert Try.runUnderlying3 Try.runUnderlying68 rfl) trivial rfl rfl fun a hs => ?_
 obtain ⟨rv3, h2, hsh⟩ := bind_t hsh
 refine st_callR hs (math_bits_Len_ok h2 hw.bdom) (do_call Try.call68 rfl) trivial rfl rfl ?_
 intro v7 Sv4 w a h5 h6 hs
 subst h6
 have hw := hw.callB h5
 obtain ⟨shl10, h9, hsh⟩ := bind_t hsh
 refine st_val hs (y_shlM rfl rfl h9) trivial rfl rfl fun a hs => ?_
 refine st_val hs (y_assign rfl) trivial rfl rfl fun a hs => ?_
 refine wpList_nil ?_
 refine then_normal ?_
 have hsh := Option.some.inj hsh
 subst hsh
 refine wp_ret ?_
 exact ret1 hs rfl (rv_tmp rfl) (hw.ret rfl)

abbrev slices_xorshift_Next_rd (w0 : World) (X : List Nat) (b2 : Nat) (r : (Int × Int)) : (Nat → Prop) → World → Value → Prop := fun S w v => v = .int .u64 r.1 ∧ Outs X w0 S w [.box b2 [.int .u64 r.2] 88]
set_option maxHeartbeats 4000000 in
set_option maxRecDepth 100000 in
theorem slices_xorshift_Next_ok {w0 : World} {S0 : Nat → Prop} {b2 : Nat} {r1 : Int} {r : (Int × Int)} (hsh : slices_xorshift_Next r1 = some r) (hS : ∀ b, S0 b → b < w0.heap.size) (hin : Ins S0 w0 [.box b2 [.int .u64 r1] 88]) : Calls Try.prog 82 #[.pointer (some ⟨b2, 0, none⟩)] w0 (Ret (blks [.box b2 [.int .u64 r1] 88]) w0 S0 (slices_xorshift_Next_rd w0 (blks [.box b2 [.int .u64 r1] 88]) b2 r)) := by
 refine calls_of_wp Try.func82 rfl ?_
 have hs := Sl.enter #[.pointer (some ⟨b2, 0, none⟩)] 33 [(0, .pointer (some ⟨b2, 0, none⟩))] rfl ⟨rfl, trivial⟩
 have hw := Wd.enterI hS hin
 delta slices_xorshift_Next at hsh
 refine wp_seq ?_
 refine wp_region_lit ?_
 refine st_val hs (y_assign rfl) trivial rfl rfl fun a hs => ?_
 refine wpList_nil ?_
 refine then_normal ?_
 refine wp_seq ?_
 obtain ⟨shl4, h3, hsh⟩ := bind_t hsh
 refine wp_only (fun a w => ∃ (Sv5 : Nat → Prop), Sl 33 [(0, .pointer (some ⟨b2, 0, none⟩))] a ∧ Wd ⟨w0, S0, blks [.box b2 [.int .u64 r1] 88]⟩ Sv5 [.box b2 [.int .u64 (Go.bits .xor .u64 r1 shl4)] 88] [] w) ?_ ?_
 ·refine h_b (C := Cls [] []) (by kernel_rfl) rfl (hw.drew.cs [] [] rfl rfl) fun hC => ?_
  have hw := hw.drew
  refine h_g hs 0 rfl (by kernel_rfl) rfl rfl hC rfl (fun w hC => y_move rfl) fun a hs => ?_
  refine h_g hs 1 rfl (by kernel_rfl) rfl rfl hC rfl (fun w hC => y_nilCheck rfl) fun a hs => ?_
  refine h_g hs 3 rfl (by kernel_rfl) rfl rfl hC rfl (fun w hC => y_move rfl) fun a hs => ?_
  refine h_g hs 4 rfl (by kernel_rfl) rfl rfl hC rfl (fun w hC => y_nilCheck rfl) fun a hs => ?_
  refine h_all (rs := [2, 5]) (by kernel_rfl) rfl ?_
  refine AllH.cons rfl ?_ ?_
  ·refine st_val hs (y_loadB1 (hw.ownAt 0 rfl) rfl Try.isAgg88 rfl) trivial rfl rfl fun a hs => ?_
   refine h_nx (hw.cs [] [] rfl rfl) fun hC => ?_
   refine h_one (i := 5) (by kernel_rfl) rfl ?_
   refine st_val hs (y_loadB1 (hw.ownAt 0 rfl) rfl Try.isAgg88 rfl) trivial rfl rfl fun a hs => ?_
   refine h_nx (hw.cs [] [] rfl rfl) fun hC => ?_
   refine h_g hs 6 rfl (by kernel_rfl) rfl rfl hC rfl (fun w hC => y_shlM rfl rfl h3) fun a hs => ?_
   refine h_g hs 7 rfl (by kernel_rfl) rfl rfl hC rfl (fun w hC => y_xor rfl rfl) fun a hs => ?_
   refine h_g hs 8 rfl (by kernel_rfl) rfl rfl hC rfl (fun w hC => y_nilCheck rfl) fun a hs => ?_
   refine h_one (i := 9) (by kernel_rfl) rfl ?_
   refine w_store (m := 1) (cs' := [.int .u64 (Go.bits .xor .u64 r1 shl4)]) hs hw 0 rfl rfl rfl Try.sizeOf88 rfl rfl rfl rfl trivial ?_
   intro a w hs hw
   refine h_nx (hw.cs [] [] rfl rfl) fun hC => ?_
   refine h_done (by kernel_rfl) ?_
   exact ⟨S0, (hs.wk rfl), (hw.ft [0] [] (by decide) rfl rfl)⟩
  refine AllH.cons rfl ?_ ?_
  ·refine st_val hs (y_loadB1 (hw.ownAt 0 rfl) rfl Try.isAgg88 rfl) trivial rfl rfl fun a hs => ?_
   refine h_nx (hw.cs [] [] rfl rfl) fun hC => ?_
   refine h_g hs 6 rfl (by kernel_rfl) rfl rfl hC rfl (fun w hC => y_shlM rfl rfl h3) fun a hs => ?_
   refine h_one (i := 2) (by kernel_rfl) rfl ?_
   refine st_val hs (y_loadB1 (hw.ownAt 0 rfl) rfl Try.isAgg88 rfl) trivial rfl rfl fun a hs => ?_
   refine h_nx (hw.cs [] [] rfl rfl) fun hC => ?_
   refine h_g hs 7 rfl (by kernel_rfl) rfl rfl hC rfl (fun w hC => y_xor rfl rfl) fun a hs => ?_
   refine h_g hs 8 rfl (by kernel_rfl) rfl rfl hC rfl (fun w hC => y_nilCheck rfl) fun a hs => ?_
   refine h_one (i := 9) (by kernel_rfl) rfl ?_
   refine w_store (m := 1) (cs' := [.int .u64 (Go.bits .xor .u64 r1 shl4)]) hs hw 0 rfl rfl rfl Try.sizeOf88 rfl rfl rfl rfl trivial ?_
   intro a w hs hw
   refine h_nx (hw.cs [] [] rfl rfl) fun hC => ?_
   refine h_done (by kernel_rfl) ?_
   exact ⟨S0, (hs.wk rfl), (hw.ft [0] [] (by decide) rfl rfl)⟩
  exact AllH.nil
 ·rintro a w ⟨Sv5, hs, hw⟩
  refine then_normal ?_
  refine wp_seq ?_
  obtain ⟨shr7, h6, hsh⟩ := bind_t hsh
  refine wp_only (fun a w => ∃ (Sv8 : Nat → Prop), Sl 33 [(0, .pointer (some ⟨b2, 0, none⟩))] a ∧ Wd ⟨w0, S0, blks [.box b2 [.int .u64 r1] 88]⟩ Sv8 [.box b2 [.int .u64 (Go.bits .xor .u64 (Go.bits .xor .u64 r1 shl4) shr7)] 88] [] w) ?_ ?_
  ·refine h_b (C := Cls [] []) (by kernel_rfl) rfl (hw.drew.cs [] [] rfl rfl) fun hC => ?_
   have hw := hw.drew
   refine h_g hs 0 rfl (by kernel_rfl) rfl rfl hC rfl (fun w hC => y_move rfl) fun a hs => ?_
   refine h_g hs 1 rfl (by kernel_rfl) rfl rfl hC rfl (fun w hC => y_nilCheck rfl) fun a hs => ?_
   refine h_g hs 3 rfl (by kernel_rfl) rfl rfl hC rfl (fun w hC => y_move rfl) fun a hs => ?_
   refine h_g hs 4 rfl (by kernel_rfl) rfl rfl hC rfl (fun w hC => y_nilCheck rfl) fun a hs => ?_
   refine h_all (rs := [2, 5]) (by kernel_rfl) rfl ?_
   refine AllH.cons rfl ?_ ?_
   ·refine st_val hs (y_loadB1 (hw.ownAt 0 rfl) rfl Try.isAgg88 rfl) trivial rfl rfl fun a hs => ?_
    refine h_nx (hw.cs [] [] rfl rfl) fun hC => ?_
    refine h_one (i := 5) (by kernel_rfl) rfl ?_
    refine st_val hs (y_loadB1 (hw.ownAt 0 rfl) rfl Try.isAgg88 rfl) trivial rfl rfl fun a hs => ?_
    refine h_nx (hw.cs [] [] rfl rfl) fun hC => ?_
    refine h_g hs 6 rfl (by kernel_rfl) rfl rfl hC rfl (fun w hC => y_shrM rfl rfl h6) fun a hs => ?_
    refine h_g hs 7 rfl (by kernel_rfl) rfl rfl hC rfl (fun w hC => y_xor rfl rfl) fun a hs => ?_
    refine h_g hs 8 rfl (by kernel_rfl) rfl rfl hC rfl (fun w hC => y_nilCheck rfl) fun a hs => ?_
    refine h_one (i := 9) (by kernel_rfl) rfl ?_
    refine w_store (m := 1) (cs' := [.int .u64 (Go.bits .xor .u64 (Go.bits .xor .u64 r1 shl4) shr7)]) hs hw 0 rfl rfl rfl Try.sizeOf88 rfl rfl rfl rfl trivial ?_
    intro a w hs hw
    refine h_nx (hw.cs [] [] rfl rfl) fun hC => ?_
    refine h_done (by kernel_rfl) ?_
    exact ⟨Sv5, (hs.wk rfl), (hw.ft [0] [] (by decide) rfl rfl)⟩
   refine AllH.cons rfl ?_ ?_
   ·refine st_val hs (y_loadB1 (hw.ownAt 0 rfl) rfl Try.isAgg88 rfl) trivial rfl rfl fun a hs => ?_
    refine h_nx (hw.cs [] [] rfl rfl) fun hC => ?_
    refine h_g hs 6 rfl (by kernel_rfl) rfl rfl hC rfl (fun w hC => y_shrM rfl rfl h6) fun a hs => ?_
    refine h_one (i := 2) (by kernel_rfl) rfl ?_
    refine st_val hs (y_loadB1 (hw.ownAt 0 rfl) rfl Try.isAgg88 rfl) trivial rfl rfl fun a hs => ?_
    refine h_nx (hw.cs [] [] rfl rfl) fun hC => ?_
    refine h_g hs 7 rfl (by kernel_rfl) rfl rfl hC rfl (fun w hC => y_xor rfl rfl) fun a hs => ?_
    refine h_g hs 8 rfl (by kernel_rfl) rfl rfl hC rfl (fun w hC => y_nilCheck rfl) fun a hs => ?_
    refine h_one (i := 9) (by kernel_rfl) rfl ?_
    refine w_store (m := 1) (cs' := [.int .u64 (Go.bits .xor .u64 (Go.bits .xor .u64 r1 shl4) shr7)]) hs hw 0 rfl rfl rfl Try.sizeOf88 rfl rfl rfl rfl trivial ?_
    intro a w hs hw
    refine h_nx (hw.cs [] [] rfl rfl) fun hC => ?_
    refine h_done (by kernel_rfl) ?_
    exact ⟨Sv5, (hs.wk rfl), (hw.ft [0] [] (by decide) rfl rfl)⟩
   exact AllH.nil
  ·rintro a w ⟨Sv8, hs, hw⟩
   refine then_normal ?_
   refine wp_seq ?_
   obtain ⟨shl10, h9, hsh⟩ := bind_t hsh
   refine wp_only (fun a w => ∃ (Sv11 : Nat → Prop), Sl 33 [(0, .pointer (some ⟨b2, 0, none⟩))] a ∧ Wd ⟨w0, S0, blks [.box b2 [.int .u64 r1] 88]⟩ Sv11 [.box b2 [.int .u64 (Go.bits .xor .u64 (Go.bits .xor .u64 (Go.bits .xor .u64 r1 shl4) shr7) shl10)] 88] [] w) ?_ ?_
   ·refine h_b (C := Cls [] []) (by kernel_rfl) rfl (hw.drew.cs [] [] rfl rfl) fun hC => ?_
    have hw := hw.drew
    refine h_g hs 0 rfl (by kernel_rfl) rfl rfl hC rfl (fun w hC => y_move rfl) fun a hs => ?_
    refine h_g hs 1 rfl (by kernel_rfl) rfl rfl hC rfl (fun w hC => y_nilCheck rfl) fun a hs => ?_
    refine h_g hs 3 rfl (by kernel_rfl) rfl rfl hC rfl (fun w hC => y_move rfl) fun a hs => ?_
    refine h_g hs 4 rfl (by kernel_rfl) rfl rfl hC rfl (fun w hC => y_nilCheck rfl) fun a hs => ?_
    refine h_all (rs := [2, 5]) (by kernel_rfl) rfl ?_
    refine AllH.cons rfl ?_ ?_
    ·refine st_val hs (y_loadB1 (hw.ownAt 0 rfl) rfl Try.isAgg88 rfl) trivial rfl rfl fun a hs => ?_
     refine h_nx (hw.cs [] [] rfl rfl) fun hC => ?_
     refine h_one (i := 5) (by kernel_rfl) rfl ?_
     refine st_val hs (y_loadB1 (hw.ownAt 0 rfl) rfl Try.isAgg88 rfl) trivial rfl rfl fun a hs => ?_
     refine h_nx (hw.cs [] [] rfl rfl) fun hC => ?_
     refine h_g hs 6 rfl (by kernel_rfl) rfl rfl hC rfl (fun w hC => y_shlM rfl rfl h9) fun a hs => ?_
     refine h_g hs 7 rfl (by kernel_rfl) rfl rfl hC rfl (fun w hC => y_xor rfl rfl) fun a hs => ?_
     refine h_g hs 8 rfl (by kernel_rfl) rfl rfl hC rfl (fun w hC => y_nilCheck rfl) fun a hs => ?_
     refine h_one (i := 9) (by kernel_rfl) rfl ?_
     refine w_store (m := 1) (cs' := [.int .u64 (Go.bits .xor .u64 (Go.bits .xor .u64 (Go.bits .xor .u64 r1 shl4) shr7) shl10)]) hs hw 0 rfl rfl rfl Try.sizeOf88 rfl rfl rfl rfl trivial ?_
     intro a w hs hw
     refine h_nx (hw.cs [] [] rfl rfl) fun hC => ?_
     refine h_done (by kernel_rfl) ?_
     exact ⟨Sv8, (hs.wk rfl), (hw.ft [0] [] (by decide) rfl rfl)⟩
    refine AllH.cons rfl ?_ ?_
    ·refine st_val hs (y_loadB1 (hw.ownAt 0 rfl) rfl Try.isAgg88 rfl) trivial rfl rfl fun a hs => ?_
     refine h_nx (hw.cs [] [] rfl rfl) fun hC => ?_
     refine h_g hs 6 rfl (by kernel_rfl) rfl rfl hC rfl (fun w hC => y_shlM rfl rfl h9) fun a hs => ?_
     refine h_one (i := 2) (by kernel_rfl) rfl ?_
     refine st_val hs (y_loadB1 (hw.ownAt 0 rfl) rfl Try.isAgg88 rfl) trivial rfl rfl fun a hs => ?_
     refine h_nx (hw.cs [] [] rfl rfl) fun hC => ?_
     refine h_g hs 7 rfl (by kernel_rfl) rfl rfl hC rfl (fun w hC => y_xor rfl rfl) fun a hs => ?_
     refine h_g hs 8 rfl (by kernel_rfl) rfl rfl hC rfl (fun w hC => y_nilCheck rfl) fun a hs => ?_
     refine h_one (i := 9) (by kernel_rfl) rfl ?_
     refine w_store (m := 1) (cs' := [.int .u64 (Go.bits .xor .u64 (Go.bits .xor .u64 (Go.bits .xor .u64 r1 shl4) shr7) shl10)]) hs hw 0 rfl rfl rfl Try.sizeOf88 rfl rfl rfl rfl trivial ?_
     intro a w hs hw
     refine h_nx (hw.cs [] [] rfl rfl) fun hC => ?_
     refine h_done (by kernel_rfl) ?_
     exact ⟨Sv8, (hs.wk rfl), (hw.ft [0] [] (by decide) rfl rfl)⟩
    exact AllH.nil
   ·rintro a w ⟨Sv11, hs, hw⟩
    refine then_normal ?_
    refine wp_seq ?_
    refine wp_region_lit ?_
    refine st_val hs (y_move rfl) trivial rfl rfl fun a hs => ?_
    refine st_val hs (y_nilCheck rfl) trivial rfl rfl fun a hs => ?_
    refine st_val hs (y_loadB1 (hw.ownAt 0 rfl) rfl Try.isAgg88 rfl) trivial rfl rfl fun a hs => ?_
    obtain ⟨x13, h12, hsh⟩ := bind_t hsh
    refine st_val hs (y_assignI rfl h12) trivial rfl rfl fun a hs => ?_
    refine wpList_nil ?_
    refine then_normal ?_
    have hsh := Option.some.inj hsh
    subst hsh
    refine wp_ret ?_
    exact ret1 hs rfl (rv_tmp rfl) (hw.ret ⟨rfl, (hw.outs [0] (by decide) rfl)⟩)

abbrev slices_breakPatternsCmpFunc_api_Span_rd (w0 : World) (X : List Nat) (p2 : Option Addr) (k3 : Nat) (data1 : (List Span)) (r : (List Span)) : (Nat → Prop) → World → Value → Prop := fun S w v => ∃ (ck_0 : List Value), v = .tuple #[] ∧ Outs X w0 S w [.row p2 r.length k3 ck_0 46 2] ∧ (RowA ck_0 r).p S w ∧ (LenA data1.length r).p S w
set_option maxHeartbeats 4000000 in
set_option maxRecDepth 100000 in
theorem slices_breakPatternsCmpFunc_api_Span_ok {w0 : World} {S0 : Nat → Prop} {p2 : Option Addr} {k3 : Nat} {c4 : List Value} {g9 : Nat} {f10 : List Value} {cp11 : List Value} {data1 : (List Span)} {a6 : Int} {b7 : Int} {cmp8 : Span → Span → Option Int} {r : (List Span)} (hsh : slices_breakPatternsCmpFunc_api_Span data1 a6 b7 cmp8 = some r) (hS : ∀ b, S0 b → b < w0.heap.size) (hin : Ins S0 w0 [.row p2 data1.length k3 c4 46 2]) (h5 : (RowA c4 data1).p S0 w0) (h12 : (FnA2 Try.prog g9 f10 cp11 cmp8).p S0 w0) : Calls Try.prog 72 #[.slice p2 data1.length k3, .int .i64 a6, .int .i64 b7, .func (.func g9) f10.toArray cp11.toArray] w0 (Ret (blks [.row p2 data1.length k3 c4 46 2]) w0 S0 (slices_breakPatternsCmpFunc_api_Span_rd w0 (blks [.row p2 data1.length k3 c4 46 2]) p2 k3 data1 r)) := by
 refine calls_of_wp Try.func72 rfl ?_
 have hs := Sl.enter #[.slice p2 data1.length k3, .int .i64 a6, .int .i64 b7, .func (.func g9) f10.toArray cp11.toArray] 67 [(0, .slice p2 data1.length k3), (1, .int .i64 a6), (2, .int .i64 b7), (3, .func (.func g9) f10.toArray cp11.toArray)] rfl ⟨rfl, rfl, rfl, rfl, trivial⟩
 have hw := Wd.enterI hS hin
 have hw := hw.addE h5
 have hw := hw.addE (e := LenA data1.length data1) len_rfl
 have hw := hw.addE h12
 delta slices_breakPatternsCmpFunc_api_Span at hsh
 refine wp_seq ?_
 refine wp_region_lit ?_
 refine st_val hs (y_move rfl) trivial rfl rfl fun a hs => ?_
 refine st_val hs (y_move rfl) trivial rfl rfl fun a hs => ?_
 refine st_val hs (y_sub rfl rfl) trivial rfl rfl fun a hs => ?_
 obtain ⟨length14, h13, hsh⟩ := bind_t hsh
 refine st_val hs (y_assignI rfl h13) trivial rfl rfl fun a hs => ?_
 refine wpList_nil ?_
 refine then_normal ?_
 refine wp_seq ?_
 refine wp_region_lit ?_
 refine st_val hs (y_move rfl) trivial rfl rfl fun a hs => ?_
 refine st_val hs (y_geq rfl rfl) trivial rfl rfl fun a hs => ?_
 refine wpList_nil ?_
 refine then_normal ?_
 refine wp_join (fun a w => ∃ (x237 : (List Span)) (c235 : List Value) (Sv236 : Nat → Prop), slices_breakPatternsCmpFunc_api_Span_j1 x237 = some r ∧ Sl 67 [] a ∧ Wd ⟨w0, S0, blks [.row p2 data1.length k3 c4 46 2]⟩ Sv236 [.row p2 x237.length k3 c235 46 2] [RowA c235 x237, LenA data1.length x237] w) ?_ ?_
 ·refine wp_cond_split (hs.ev rfl) (fun h238 => ?_) (fun h238 => ?_)
  ·have hsh := ite_t hsh h238
   refine wp_seq ?_
   refine wp_region_lit ?_
   refine st_val hs (y_move rfl) trivial rfl rfl fun a hs => ?_
   refine st_val hs (y_convert Try.runUnderlying3 Try.runUnderlying88 rfl) trivial rfl rfl fun a hs => ?_
   refine w_alloc (cs := [.int .u64 0]) hs hw Try.zeroValue88 rfl rfl trivial ?_
   intro b239 a w hs hw
   refine w_store (m := 1) (cs' := [.int .u64 (IntKind.u64.wrap length14)]) hs hw 0 rfl rfl rfl Try.sizeOf88 rfl rfl rfl rfl trivial ?_
   intro a w hs hw
   refine wpList_nil ?_
   refine then_normal ?_
   refine wp_seq ?_
   refine wp_region_lit ?_
   refine st_val hs (y_move rfl) trivial rfl rfl fun a hs => ?_
   obtain ⟨rv241, h240, hsh⟩ := bind_t hsh
   refine st_callR hs (slices_nextPowerOfTwo_ok h240 hw.bdom) (do_call Try.call81 rfl) trivial rfl rfl ?_
   intro v245 Sv242 w a h243 h244 hs
   subst h244
   have hw := hw.callB h243
   refine st_val hs (y_assign rfl) trivial rfl rfl fun a hs => ?_
   refine wpList_nil ?_
   refine then_normal ?_
   refine wp_seq ?_
   refine wp_region_lit ?_
   refine st_val hs (y_move rfl) trivial rfl rfl fun a hs => ?_
   refine st_val hs (y_move rfl) trivial rfl rfl fun a hs => ?_
   refine st_val hs (y_quo rfl rfl (by decide)) trivial rfl rfl fun a hs => ?_
   refine st_val hs (y_mul rfl rfl) trivial rfl rfl fun a hs => ?_
   refine st_val hs (y_add rfl rfl) trivial rfl rfl fun a hs => ?_
   refine st_val hs (y_sub rfl rfl) trivial rfl rfl fun a hs => ?_
   obtain ⟨idx248, h247, hsh⟩ := bind_t hsh
   refine st_val hs (y_assignI rfl h247) trivial rfl rfl fun a hs => ?_
   refine wpList_nil ?_
   refine then_normal ?_
   obtain ⟨e455, h596, hsh⟩ := bind_t hsh
   refine wp_join (fun a w => ∃ (c456 : List Value) (Sv457 : Nat → Prop), Sl 67 [] a ∧ Wd ⟨w0, S0, blks [.row p2 data1.length k3 c4 46 2]⟩ Sv457 [.row p2 e455.length k3 c456 46 2] [RowA c456 e455, LenA data1.length e455] w) ?_ ?_
   ·refine wp_block ?_
    refine wp_while (fun sv249 a w => ∃ (c384 : List Value) (Sv385 : Nat → Prop), Sl 67 [(0, .slice p2 sv249.2.1.length k3), (1, .int .i64 a6), (8, .int .i64 length14), (9, .pointer (some ⟨b239, 0, none⟩)), (10, .int .u64 rv241), (11, .int .i64 sv249.2.2)] a ∧ Wd ⟨w0, S0, blks [.row p2 data1.length k3 c4 46 2]⟩ Sv385 [.box b239 [.int .u64 sv249.1] 88, .row p2 sv249.2.1.length k3 c384 46 2] [RowA c384 sv249.2.1, LenA data1.length sv249.2.1] w) ((IntKind.u64.wrap length14), data1, idx248) h596 ⟨c4, S0, (hs.wk rfl), (hw.ft [0, 1] [2, 1] (by decide) rfl rfl)⟩ ?_
    clear h596
    repeat clear hsh
    rintro sv249 a w tv453 ⟨c384, Sv385, hs, hw⟩ hsh hd452
    delta slices_breakPatternsCmpFunc_api_Span_l2 at hsh
    refine wp_seq ?_
    refine wp_seq ?_
    refine wp_region_lit ?_
    refine st_val hs (y_move rfl) trivial rfl rfl fun a hs => ?_
    refine st_val hs (y_move rfl) trivial rfl rfl fun a hs => ?_
    refine st_val hs (y_move rfl) trivial rfl rfl fun a hs => ?_
    refine st_val hs (y_quo rfl rfl (by decide)) trivial rfl rfl fun a hs => ?_
    refine st_val hs (y_mul rfl rfl) trivial rfl rfl fun a hs => ?_
    refine st_val hs (y_add rfl rfl) trivial rfl rfl fun a hs => ?_
    refine st_val hs (y_add rfl rfl) trivial rfl rfl fun a hs => ?_
    refine st_val hs (y_leq rfl rfl) trivial rfl rfl fun a hs => ?_
    refine wpList_nil ?_
    refine then_normal ?_
    refine wp_cond_split (hs.ev rfl) (fun h459 => ?_) (fun h459 => ?_)
    ·have hsh := ite_t hsh h459
     refine wp_skip ?_
     refine then_normal ?_
     refine wp_seq ?_
     refine wp_block ?_
     refine wp_seq ?_
     refine wp_region_lit ?_
     obtain ⟨rv524, h523, hsh⟩ := bind_t hsh
     refine st_callR hs (slices_xorshift_Next_ok h523 hw.dom (hw.ins [0] (by decide) rfl)) (do_call Try.call82 rfl) trivial rfl rfl ?_
     intro v528 Sv525 w a h526 h527 hs
     obtain ⟨rfl, h529⟩ := h527
     have hw := hw.callO [0] [1] (by decide) rfl h526 h529
     refine st_val hs (y_move rfl) trivial rfl rfl fun a hs => ?_
     refine st_val hs (y_sub rfl rfl) trivial rfl rfl fun a hs => ?_
     refine st_val hs (y_and rfl rfl) trivial rfl rfl fun a hs => ?_
     refine st_val hs (y_convert Try.runUnderlying68 Try.runUnderlying3 rfl) trivial rfl rfl fun a hs => ?_
     obtain ⟨other531, h530, hsh⟩ := bind_t hsh
     refine st_val hs (y_assignI rfl h530) trivial rfl rfl fun a hs => ?_
     refine wpList_nil ?_
     refine then_normal ?_
     refine wp_seq ?_
     refine wp_seq ?_
     refine wp_region_lit ?_
     refine st_val hs (y_move rfl) trivial rfl rfl fun a hs => ?_
     refine st_val hs (y_move rfl) trivial rfl rfl fun a hs => ?_
     refine st_val hs (y_geq rfl rfl) trivial rfl rfl fun a hs => ?_
     refine wpList_nil ?_
     refine then_normal ?_
     refine wp_join (fun a w => ∃ (other536 : Int) (Sv535 : Nat → Prop), slices_breakPatternsCmpFunc_api_Span_j2 a6 sv249 rv524 other536 = some tv453 ∧ Sl 67 [(0, .slice p2 sv249.2.1.length k3), (1, .int .i64 a6), (8, .int .i64 length14), (9, .pointer (some ⟨b239, 0, none⟩)), (10, .int .u64 rv241), (11, .int .i64 sv249.2.2), (12, .int .i64 other536)] a ∧ Wd ⟨w0, S0, blks [.row p2 data1.length k3 c4 46 2]⟩ Sv535 [.box b239 [.int .u64 rv524.2] 88, .row p2 sv249.2.1.length k3 c384 46 2] [RowA c384 sv249.2.1, LenA data1.length sv249.2.1] w) ?_ ?_
     ·refine wp_cond_split (hs.ev rfl) (fun h592 => ?_) (fun h592 => ?_)
      ·have hsh := ite_t hsh h592
       refine wp_region_lit ?_
       refine st_val hs (y_move rfl) trivial rfl rfl fun a hs => ?_
       refine st_val hs (y_move rfl) trivial rfl rfl fun a hs => ?_
       refine st_val hs (y_sub rfl rfl) trivial rfl rfl fun a hs => ?_
       obtain ⟨other594, h593, hsh⟩ := bind_t hsh
       refine st_val hs (y_assignI rfl h593) trivial rfl rfl fun a hs => ?_
       refine wpList_nil ?_
       refine then_normal ?_
       exact ⟨other594, Sv525, hsh, (hs.wk rfl), (hw.ft [0, 1] [0, 1] (by decide) rfl rfl)⟩
      ·have hsh := ite_f hsh h592
       refine wp_skip ?_
       refine then_normal ?_
       exact ⟨other531, Sv525, hsh, (hs.wk rfl), (hw.ft [0, 1] [0, 1] (by decide) rfl rfl)⟩
     ·rintro a w ⟨other536, Sv535, hsh, hs, hw⟩
      delta slices_breakPatternsCmpFunc_api_Span_j2 at hsh
      refine then_normal ?_
      obtain ⟨x539, h537, hsh⟩ := bind_t hsh
      obtain ⟨b546, q543, c544, h547, h540, h541, h545, h538⟩ := hw.elemRV (α := Span) 1 rfl 0 rfl h537
      have hsv548 := hs
      have hwv549 := hw
      subst h547
      have hs := hsv548
      have hw := hwv549
      obtain ⟨_, _, rfl, rfl, rfl⟩ := h538
      obtain ⟨x552, h550, hsh⟩ := bind_t hsh
      obtain ⟨q556, c557, h553, h554, h558, h551⟩ := hw.elemRK (α := Span) 1 rfl 0 rfl h550
      obtain ⟨_, _, rfl, rfl, rfl⟩ := h551
      obtain ⟨x561, h559, hsh⟩ := bind_t hsh
      obtain ⟨q565, c566, h562, h563, h567, h560⟩ := hw.elemRK (α := Span) 1 rfl 0 rfl h559
      obtain ⟨_, _, rfl, rfl, rfl⟩ := h560
      obtain ⟨l569, h568, hsh⟩ := bind_t hsh
      obtain ⟨x574, h572, hsh⟩ := bind_t hsh
      obtain ⟨l582, h581, hsh⟩ := bind_t hsh
      refine wp_only (fun a w => ∃ (Sv585 : Nat → Prop) (c583 : List Value), Sl 67 [(0, .slice (some ⟨b546, 0, none⟩) l582.length k3), (1, .int .i64 a6), (8, .int .i64 length14), (9, .pointer (some ⟨b239, 0, none⟩)), (10, .int .u64 rv241), (11, .int .i64 sv249.2.2)] a ∧ Wd ⟨w0, S0, blks [.row (some ⟨b546, 0, none⟩) data1.length k3 c4 46 2]⟩ Sv585 [.box b239 [.int .u64 rv524.2] 88, .row (some ⟨b546, 0, none⟩) l582.length k3 c583 46 2] [RowA c583 l582, LenA data1.length l582] w) ?_ ?_
      ·refine h_b (C := Cls [.box b239 [.int .u64 rv524.2] 88] []) (by kernel_rfl) rfl (hw.drew.cs [0] [] rfl rfl) fun hC => ?_
       have hw := hw.drew
       refine h_g hs 0 rfl (by kernel_rfl) rfl rfl hC rfl (fun w hC => y_move rfl) fun a hs => ?_
       refine h_g hs 1 rfl (by kernel_rfl) rfl rfl hC rfl (fun w hC => y_move rfl) fun a hs => ?_
       refine h_g hs 2 rfl (by kernel_rfl) rfl rfl hC rfl (fun w hC => y_move rfl) fun a hs => ?_
       refine h_g hs 3 rfl (by kernel_rfl) rfl rfl hC rfl (fun w hC => y_move rfl) fun a hs => ?_
       refine h_g hs 4 rfl (by kernel_rfl) rfl rfl hC rfl (fun w hC => y_move rfl) fun a hs => ?_
       refine h_g hs 5 rfl (by kernel_rfl) rfl rfl hC rfl (fun w hC => y_add rfl rfl) fun a hs => ?_
       refine h_g hs 6 rfl (by kernel_rfl) rfl rfl hC rfl (fun w hC => y_move rfl) fun a hs => ?_
       refine h_g hs 7 rfl (by kernel_rfl) rfl rfl hC rfl (fun w hC => y_move rfl) fun a hs => ?_
       refine h_g hs 8 rfl (by kernel_rfl) rfl rfl hC rfl (fun w hC => y_move rfl) fun a hs => ?_
       refine h_g hs 9 rfl (by kernel_rfl) rfl rfl hC rfl (fun w hC => y_add rfl rfl) fun a hs => ?_
       refine h_g hs 10 rfl (by kernel_rfl) rfl rfl hC rfl (fun w hC => y_indexAt Try.runUnderlying27 Try.sizeOf46 rfl rfl h540.1 h540.2 h541) fun a hs => ?_
       refine h_g hs 12 rfl (by kernel_rfl) rfl rfl hC rfl (fun w hC => y_move rfl) fun a hs => ?_
       refine h_g hs 13 rfl (by kernel_rfl) rfl rfl hC rfl (fun w hC => y_move rfl) fun a hs => ?_
       refine h_g hs 14 rfl (by kernel_rfl) rfl rfl hC rfl (fun w hC => y_indexAt Try.runUnderlying27 Try.sizeOf46 rfl rfl h553.1 h553.2 h554) fun a hs => ?_
       refine h_all (rs := [11, 15]) (by kernel_rfl) rfl ?_
       refine AllH.cons rfl ?_ ?_
       ·refine st_val hs (y_loadQA (j := 0) (hw.ownAt 1 rfl) rfl Try.isAgg46 Try.sizeOf46 h545 rfl rfl) trivial rfl rfl fun a hs => ?_
        refine h_nx (hw.cs [0] [] rfl rfl) fun hC => ?_
        refine h_one (i := 15) (by kernel_rfl) rfl ?_
        refine st_val hs (y_loadQA (j := 0) (hw.ownAt 1 rfl) rfl Try.isAgg46 Try.sizeOf46 h558 rfl rfl) trivial rfl rfl fun a hs => ?_
        refine h_nx (hw.cs [0] [] rfl rfl) fun hC => ?_
        refine h_g hs 16 rfl (by kernel_rfl) rfl rfl hC rfl (fun w hC => y_indexAt Try.runUnderlying27 Try.sizeOf46 rfl rfl h562.1 h562.2 h563) fun a hs => ?_
        refine h_one (i := 17) (by kernel_rfl) rfl ?_
        have h586 := hw.envAt 1 rfl
        refine w_storeF (α := Span) hs hw 1 rfl 0 rfl h563 rfl rfl Try.sizeOf46 rfl h568 ⟨_, _, rfl, rfl, rfl⟩ trivial ?_
        intro c570 a w hs hw
        have hw := hw.addE (e := LenA data1.length l569) (len_set (w := w) (S := S0) h586 h568)
        have h571 := setM_len h568
        try have hs := hs.fix 0 (.slice (some ⟨b546, 0, none⟩) l569.length k3) rfl (by rw [h571])
        try have hs := hs.fix 49 (.slice (some ⟨b546, 0, none⟩) l569.length k3) rfl (by rw [h571])
        try have hs := hs.fix 51 (.slice (some ⟨b546, 0, none⟩) l569.length k3) rfl (by rw [h571])
        try have hs := hs.fix 55 (.slice (some ⟨b546, 0, none⟩) l569.length k3) rfl (by rw [h571])
        try have hs := hs.fix 61 (.slice (some ⟨b546, 0, none⟩) l569.length k3) rfl (by rw [h571])
        refine h_nx (hw.cs [0] [] rfl rfl) fun hC => ?_
        refine h_one (i := 18) (by kernel_rfl) rfl ?_
        obtain ⟨c579, h575, h580, h573⟩ := hw.elemRX (α := Span) 1 rfl 1 rfl h572
        obtain ⟨_, _, rfl, rfl, rfl⟩ := h573
        refine st_val hs (y_indexAt Try.runUnderlying27 Try.sizeOf46 rfl rfl h575.1 h575.2 rfl) trivial rfl rfl fun a hs => ?_
        refine h_nx (hw.cs [0] [] rfl rfl) fun hC => ?_
        refine h_one (i := 19) (by kernel_rfl) rfl ?_
        have h587 := hw.envAt 0 rfl
        refine w_storeF (α := Span) hs hw 1 rfl 1 rfl rfl rfl rfl Try.sizeOf46 rfl h581 ⟨_, _, rfl, rfl, rfl⟩ trivial ?_
        intro c583 a w hs hw
        have hw := hw.addE (e := LenA data1.length l582) (len_set (w := w) (S := S0) h587 h581)
        have h584 := setM_len h581
        try have hs := hs.fix 0 (.slice (some ⟨b546, 0, none⟩) l582.length k3) rfl (by rw [h584])
        try have hs := hs.fix 49 (.slice (some ⟨b546, 0, none⟩) l582.length k3) rfl (by rw [h584])
        try have hs := hs.fix 51 (.slice (some ⟨b546, 0, none⟩) l582.length k3) rfl (by rw [h584])
        try have hs := hs.fix 55 (.slice (some ⟨b546, 0, none⟩) l582.length k3) rfl (by rw [h584])
        try have hs := hs.fix 61 (.slice (some ⟨b546, 0, none⟩) l582.length k3) rfl (by rw [h584])
        refine h_nx (hw.cs [0] [] rfl rfl) fun hC => ?_
        refine h_done (by kernel_rfl) ?_
        exact ⟨Sv535, c583, (hs.wk rfl), (hw.ft [0, 1] [1, 0] (by decide) rfl rfl)⟩
       refine AllH.cons rfl ?_ ?_
       ·refine st_val hs (y_loadQA (j := 0) (hw.ownAt 1 rfl) rfl Try.isAgg46 Try.sizeOf46 h558 rfl rfl) trivial rfl rfl fun a hs => ?_
        refine h_nx (hw.cs [0] [] rfl rfl) fun hC => ?_
        refine h_one (i := 11) (by kernel_rfl) rfl ?_
        refine st_val hs (y_loadQA (j := 0) (hw.ownAt 1 rfl) rfl Try.isAgg46 Try.sizeOf46 h545 rfl rfl) trivial rfl rfl fun a hs => ?_
        refine h_nx (hw.cs [0] [] rfl rfl) fun hC => ?_
        refine h_g hs 16 rfl (by kernel_rfl) rfl rfl hC rfl (fun w hC => y_indexAt Try.runUnderlying27 Try.sizeOf46 rfl rfl h562.1 h562.2 h563) fun a hs => ?_
        refine h_one (i := 17) (by kernel_rfl) rfl ?_
        have h588 := hw.envAt 1 rfl
        refine w_storeF (α := Span) hs hw 1 rfl 0 rfl h563 rfl rfl Try.sizeOf46 rfl h568 ⟨_, _, rfl, rfl, rfl⟩ trivial ?_
        intro c570 a w hs hw
        have hw := hw.addE (e := LenA data1.length l569) (len_set (w := w) (S := S0) h588 h568)
        have h571 := setM_len h568
        try have hs := hs.fix 0 (.slice (some ⟨b546, 0, none⟩) l569.length k3) rfl (by rw [h571])
        try have hs := hs.fix 49 (.slice (some ⟨b546, 0, none⟩) l569.length k3) rfl (by rw [h571])
        try have hs := hs.fix 51 (.slice (some ⟨b546, 0, none⟩) l569.length k3) rfl (by rw [h571])
        try have hs := hs.fix 55 (.slice (some ⟨b546, 0, none⟩) l569.length k3) rfl (by rw [h571])
        try have hs := hs.fix 61 (.slice (some ⟨b546, 0, none⟩) l569.length k3) rfl (by rw [h571])
        refine h_nx (hw.cs [0] [] rfl rfl) fun hC => ?_
        refine h_one (i := 18) (by kernel_rfl) rfl ?_
        obtain ⟨c579, h575, h580, h573⟩ := hw.elemRX (α := Span) 1 rfl 1 rfl h572
        obtain ⟨_, _, rfl, rfl, rfl⟩ := h573
        refine st_val hs (y_indexAt Try.runUnderlying27 Try.sizeOf46 rfl rfl h575.1 h575.2 rfl) trivial rfl rfl fun a hs => ?_
        refine h_nx (hw.cs [0] [] rfl rfl) fun hC => ?_
        refine h_one (i := 19) (by kernel_rfl) rfl ?_
        have h589 := hw.envAt 0 rfl
        refine w_storeF (α := Span) hs hw 1 rfl 1 rfl rfl rfl rfl Try.sizeOf46 rfl h581 ⟨_, _, rfl, rfl, rfl⟩ trivial ?_
        intro c583 a w hs hw
        have hw := hw.addE (e := LenA data1.length l582) (len_set (w := w) (S := S0) h589 h581)
        have h584 := setM_len h581
        try have hs := hs.fix 0 (.slice (some ⟨b546, 0, none⟩) l582.length k3) rfl (by rw [h584])
        try have hs := hs.fix 49 (.slice (some ⟨b546, 0, none⟩) l582.length k3) rfl (by rw [h584])
        try have hs := hs.fix 51 (.slice (some ⟨b546, 0, none⟩) l582.length k3) rfl (by rw [h584])
        try have hs := hs.fix 55 (.slice (some ⟨b546, 0, none⟩) l582.length k3) rfl (by rw [h584])
        try have hs := hs.fix 61 (.slice (some ⟨b546, 0, none⟩) l582.length k3) rfl (by rw [h584])
        refine h_nx (hw.cs [0] [] rfl rfl) fun hC => ?_
        refine h_done (by kernel_rfl) ?_
        exact ⟨Sv535, c583, (hs.wk rfl), (hw.ft [0, 1] [1, 0] (by decide) rfl rfl)⟩
       exact AllH.nil
      ·rintro a w ⟨Sv585, c583, hs, hw⟩
       refine blk_normal ?_
       refine then_normal ?_
       refine wp_region_lit ?_
       refine st_val hs (y_move rfl) trivial rfl rfl fun a hs => ?_
       refine st_val hs (y_add rfl rfl) trivial rfl rfl fun a hs => ?_
       obtain ⟨idx591, h590, hsh⟩ := bind_t hsh
       refine st_val hs (y_assignI rfl h590) trivial rfl rfl fun a hs => ?_
       refine wpList_nil ?_
       refine then_normal ?_
       exact ⟨_, (Option.some.inj hsh).symm, c583, Sv585, (hs.wk rfl), (hw.ft [0, 1] [0, 1] (by decide) rfl rfl)⟩
    ·have hsh := ite_f hsh h459
     refine wp_exit ?_
     refine then_exit ?_
     refine then_exit ?_
     refine blk_exit ?_
     have hsh := Option.some.inj hsh
     subst hsh
     have h595 := hd452 _ rfl
     subst h595
     refine then_normal ?_
     exact ⟨c384, Sv385, (hs.wk rfl), (hw.ft [1] [0, 1] (by decide) rfl rfl)⟩
   ·rintro a w ⟨c456, Sv457, hs, hw⟩
    refine then_normal ?_
    exact ⟨e455, c456, Sv457, hsh, (hs.wk rfl), (hw.ft [0] [0, 1] (by decide) rfl rfl)⟩
  ·have hsh := ite_f hsh h238
   refine wp_skip ?_
   refine then_normal ?_
   exact ⟨data1, c4, S0, hsh, (hs.wk rfl), (hw.ft [0] [2, 1] (by decide) rfl rfl)⟩
 ·rintro a w ⟨x237, c235, Sv236, hsh, hs, hw⟩
  delta slices_breakPatternsCmpFunc_api_Span_j1 at hsh
  have hsh := Option.some.inj hsh
  subst hsh
  exact ret0 hs rfl (hw.ret ⟨c235, rfl, (hw.outs [0] (by decide) rfl), (hw.envAt 0 rfl), (hw.envAt 1 rfl)⟩)

abbrev slices_pdqsortCmpFunc_api_Span_rd (w0 : World) (X : List Nat) (p2 : Option Addr) (k3 : Nat) (data1 : (List Span)) (r : (List Span)) : (Nat → Prop) → World → Value → Prop := fun S w v => ∃ (ck_0 : List Value), v = .tuple #[] ∧ Outs X w0 S w [.row p2 r.length k3 ck_0 46 2] ∧ (RowA ck_0 r).p S w ∧ (LenA data1.length r).p S w
set_option maxHeartbeats 4000000 in
set_option maxRecDepth 100000 in
theorem slices_pdqsortCmpFunc_api_Span_bok {frec : (List Span) → Int → Int → Int → (Span → Span → Option Int) → Option (List Span)} (hrec : ∀ {w0 : World} {S0 : Nat → Prop} {p2 : Option Addr} {k3 : Nat} {c4 : List Value} {g10 : Nat} {f11 : List Value} {cp12 : List Value} {data1 : (List Span)} {a6 : Int} {b7 : Int} {limit8 : Int} {cmp9 : Span → Span → Option Int} {r : (List Span)} (hsh : frec data1 a6 b7 limit8 cmp9 = some r) (hS : ∀ b, S0 b → b < w0.heap.size) (hin : Ins S0 w0 [.row p2 data1.length k3 c4 46 2]) (h5 : (RowA c4 data1).p S0 w0) (h13 : (FnA2 Try.prog g10 f11 cp12 cmp9).p S0 w0), Calls Try.prog 67 #[.slice p2 data1.length k3, .int .i64 a6, .int .i64 b7, .int .i64 limit8, .func (.func g10) f11.toArray cp12.toArray] w0 (Ret (blks [.row p2 data1.length k3 c4 46 2]) w0 S0 (slices_pdqsortCmpFunc_api_Span_rd w0 (blks [.row p2 data1.length k3 c4 46 2]) p2 k3 data1 r))) {w0 : World} {S0 : Nat → Prop} {p2 : Option Addr} {k3 : Nat} {c4 : List Value} {g10 : Nat} {f11 : List Value} {cp12 : List Value} {data1 : (List Span)} {a6 : Int} {b7 : Int} {limit8 : Int} {cmp9 : Span → Span → Option Int} {r : (List Span)} (hsh : slices_pdqsortCmpFunc_api_Span_body frec data1 a6 b7 limit8 cmp9 = some r) (hS : ∀ b, S0 b → b < w0.heap.size) (hin : Ins S0 w0 [.row p2 data1.length k3 c4 46 2]) (h5 : (RowA c4 data1).p S0 w0) (h13 : (FnA2 Try.prog g10 f11 cp12 cmp9).p S0 w0) : Calls Try.prog 67 #[.slice p2 data1.length k3, .int .i64 a6, .int .i64 b7, .int .i64 limit8, .func (.func g10) f11.toArray cp12.toArray] w0 (Ret (blks [.row p2 data1.length k3 c4 46 2]) w0 S0 (slices_pdqsortCmpFunc_api_Span_rd w0 (blks [.row p2 data1.length k3 c4 46 2]) p2 k3 data1 r)) := by
 refine calls_of_wp Try.func67 rfl ?_
 have hs := Sl.enter #[.slice p2 data1.length k3, .int .i64 a6, .int .i64 b7, .int .i64 limit8, .func (.func g10) f11.toArray cp12.toArray] 148 [(0, .slice p2 data1.length k3), (1, .int .i64 a6), (2, .int .i64 b7), (3, .int .i64 limit8), (4, .func (.func g10) f11.toArray cp12.toArray)] rfl ⟨rfl, rfl, rfl, rfl, rfl, trivial⟩
 have hw := Wd.enterI hS hin
 have hw := hw.addE h5
 have hw := hw.addE (e := LenA data1.length data1) len_rfl
 have hw := hw.addE h13
 delta slices_pdqsortCmpFunc_api_Span_body at hsh
 refine wp_seq ?_
 refine wp_region_lit ?_
 refine st_val hs (y_assign rfl) trivial rfl rfl fun a hs => ?_
 refine wpList_nil ?_
 refine then_normal ?_
 refine wp_seq ?_
 refine wp_region_lit ?_
 refine st_val hs (y_assign rfl) trivial rfl rfl fun a hs => ?_
 refine wpList_nil ?_
 refine then_normal ?_
 refine wp_block ?_
 refine wp_while (fun sv773 a w => ∃ (c1335 : List Value) (Sv1336 : Nat → Prop), Sl 148 [(0, .slice p2 sv773.1.length k3), (1, .int .i64 sv773.2.1), (2, .int .i64 sv773.2.2.1), (3, .int .i64 sv773.2.2.2.1), (4, .func (.func g10) f11.toArray cp12.toArray), (10, .bool sv773.2.2.2.2.1), (11, .bool sv773.2.2.2.2.2)] a ∧ Wd ⟨w0, S0, blks [.row p2 data1.length k3 c4 46 2]⟩ Sv1336 [.row p2 sv773.1.length k3 c1335 46 2] [FnA2 Try.prog g10 f11 cp12 cmp9, RowA c1335 sv773.1, LenA data1.length sv773.1] w) (data1, a6, b7, limit8, true, true) hsh ⟨c4, S0, (hs.wk rfl), (hw.ft [0] [0, 2, 1] (by decide) rfl rfl)⟩ ?_
 repeat clear hsh
 rintro sv773 a w tv1531 ⟨c1335, Sv1336, hs, hw⟩ hsh hd1530
 delta slices_pdqsortCmpFunc_api_Span_l2 at hsh
 refine wp_join (fun a w => ∃ (data1719 : (List Span)) (av1720 : Int) (b1721 : Int) (limit1722 : Int) (wasBalanced1723 : Bool) (wasPartitioned1724 : Bool) (c1717 : List Value) (Sv1718 : Nat → Prop), slices_pdqsortCmpFunc_api_Span_j1 data1719 av1720 b1721 limit1722 wasBalanced1723 wasPartitioned1724 = some tv1531 ∧ Sl 148 [(0, .slice p2 data1719.length k3), (1, .int .i64 av1720), (2, .int .i64 b1721), (3, .int .i64 limit1722), (4, .func (.func g10) f11.toArray cp12.toArray), (10, .bool wasBalanced1723), (11, .bool wasPartitioned1724)] a ∧ Wd ⟨w0, S0, blks [.row p2 data1.length k3 c4 46 2]⟩ Sv1718 [.row p2 data1719.length k3 c1717 46 2] [FnA2 Try.prog g10 f11 cp12 cmp9, RowA c1717 data1719, LenA data1.length data1719] w) ?_ ?_
 ·refine wp_block ?_
  refine wp_seq ?_
  refine wp_region_lit ?_
  refine st_val hs (y_move rfl) trivial rfl rfl fun a hs => ?_
  refine st_val hs (y_move rfl) trivial rfl rfl fun a hs => ?_
  refine st_val hs (y_sub rfl rfl) trivial rfl rfl fun a hs => ?_
  obtain ⟨length1726, h1725, hsh⟩ := bind_t hsh
  refine st_val hs (y_assignI rfl h1725) trivial rfl rfl fun a hs => ?_
  refine wpList_nil ?_
  refine then_normal ?_
  refine wp_seq ?_
  refine wp_seq ?_
  refine wp_region_lit ?_
  refine st_val hs (y_move rfl) trivial rfl rfl fun a hs => ?_
  refine st_val hs (y_leq rfl rfl) trivial rfl rfl fun a hs => ?_
  refine wpList_nil ?_
  refine then_normal ?_
  refine wp_cond_split (hs.ev rfl) (fun h1740 => ?_) (fun h1740 => ?_)
  ·have hsh := ite_t hsh h1740
   refine wp_seq ?_
   refine wp_region_lit ?_
   refine st_val hs (y_move rfl) trivial rfl rfl fun a hs => ?_
   refine st_val hs (y_move rfl) trivial rfl rfl fun a hs => ?_
   refine st_val hs (y_move rfl) trivial rfl rfl fun a hs => ?_
   refine st_val hs (y_move rfl) trivial rfl rfl fun a hs => ?_
   obtain ⟨rv1742, h1741, hsh⟩ := bind_t hsh
   refine st_callR hs (slices_insertionSortCmpFunc_api_Span_ok h1741 hw.dom (hw.ins [0] (by decide) rfl) (hw.envAt 1 rfl) (hw.envAt 0 rfl)) (do_call Try.call70 rfl) trivial rfl rfl ?_
   intro v1749 Sv1746 w a h1747 h1748 hs
   obtain ⟨c1743, rfl, h1750, h1744, h1745⟩ := h1748
   have hw := hw.callO [0] [] (by decide) rfl h1747 h1750
   have hw := hw.addE (e := RowA c1743 rv1742) h1744
   have hw := hw.addE (e := LenA data1.length rv1742) ((hw.envAt 3 rfl).trans h1745)
   have h1751 := h1745
   have h1752 := Eq.symm h1751
   try have hs := hs.fix 0 (.slice p2 rv1742.length k3) rfl (by rw [h1752])
   try have hs := hs.fix 26 (.slice p2 rv1742.length k3) rfl (by rw [h1752])
   refine wpList_nil ?_
   refine then_normal ?_
   have hsh := Option.some.inj hsh
   subst hsh
   have h1753 := hd1530 _ rfl
   subst h1753
   refine wp_ret ?_
   refine then_ret ?_
   refine blk_ret ?_
   refine then_ret ?_
   refine then_ret ?_
   refine blk_ret ?_
   exact ret0 hs rfl (hw.ret ⟨c1743, rfl, (hw.outs [0] (by decide) rfl), (hw.envAt 1 rfl), (hw.envAt 0 rfl)⟩)
  ·have hsh := ite_f hsh h1740
   refine wp_skip ?_
   refine then_normal ?_
   refine wp_seq ?_
   refine wp_seq ?_
   refine wp_region_lit ?_
   refine st_val hs (y_move rfl) trivial rfl rfl fun a hs => ?_
   refine st_val hs (y_eql rfl rfl) trivial rfl rfl fun a hs => ?_
   refine wpList_nil ?_
   refine then_normal ?_
   refine wp_cond_split (hs.ev rfl) (fun h1767 => ?_) (fun h1767 => ?_)
   ·have hsh := ite_t hsh h1767
    refine wp_seq ?_
    refine wp_region_lit ?_
    refine st_val hs (y_move rfl) trivial rfl rfl fun a hs => ?_
    refine st_val hs (y_move rfl) trivial rfl rfl fun a hs => ?_
    refine st_val hs (y_move rfl) trivial rfl rfl fun a hs => ?_
    refine st_val hs (y_move rfl) trivial rfl rfl fun a hs => ?_
    obtain ⟨rv1769, h1768, hsh⟩ := bind_t hsh
    refine st_callR hs (slices_heapSortCmpFunc_api_Span_ok h1768 hw.dom (hw.ins [0] (by decide) rfl) (hw.envAt 1 rfl) (hw.envAt 0 rfl)) (do_call Try.call71 rfl) trivial rfl rfl ?_
    intro v1776 Sv1773 w a h1774 h1775 hs
    obtain ⟨c1770, rfl, h1777, h1771, h1772⟩ := h1775
    have hw := hw.callO [0] [] (by decide) rfl h1774 h1777
    have hw := hw.addE (e := RowA c1770 rv1769) h1771
    have hw := hw.addE (e := LenA data1.length rv1769) ((hw.envAt 3 rfl).trans h1772)
    have h1778 := h1772
    have h1779 := Eq.symm h1778
    try have hs := hs.fix 0 (.slice p2 rv1769.length k3) rfl (by rw [h1779])
    try have hs := hs.fix 33 (.slice p2 rv1769.length k3) rfl (by rw [h1779])
    refine wpList_nil ?_
    refine then_normal ?_
    have hsh := Option.some.inj hsh
    subst hsh
    have h1780 := hd1530 _ rfl
    subst h1780
    refine wp_ret ?_
    refine then_ret ?_
    refine blk_ret ?_
    refine then_ret ?_
    refine then_ret ?_
    refine blk_ret ?_
    exact ret0 hs rfl (hw.ret ⟨c1770, rfl, (hw.outs [0] (by decide) rfl), (hw.envAt 1 rfl), (hw.envAt 0 rfl)⟩)
   ·have hsh := ite_f hsh h1767
    refine wp_skip ?_
    refine then_normal ?_
    refine wp_seq ?_
    refine wp_seq ?_
    refine wp_region_lit ?_
    refine st_val hs (y_move rfl) trivial rfl rfl fun a hs => ?_
    refine st_val hs (y_not rfl) trivial rfl rfl fun a hs => ?_
    refine wpList_nil ?_
    refine then_normal ?_
    refine wp_join (fun a w => ∃ (data1798 : (List Span)) (limit1799 : Int) (c1796 : List Value) (Sv1797 : Nat → Prop), slices_pdqsortCmpFunc_api_Span_j2 cmp9 frec sv773 length1726 data1798 limit1799 = some tv1531 ∧ Sl 148 [(0, .slice p2 data1798.length k3), (1, .int .i64 sv773.2.1), (2, .int .i64 sv773.2.2.1), (3, .int .i64 limit1799), (4, .func (.func g10) f11.toArray cp12.toArray), (10, .bool sv773.2.2.2.2.1), (11, .bool sv773.2.2.2.2.2), (12, .int .i64 length1726)] a ∧ Wd ⟨w0, S0, blks [.row p2 data1.length k3 c4 46 2]⟩ Sv1797 [.row p2 data1798.length k3 c1796 46 2] [FnA2 Try.prog g10 f11 cp12 cmp9, RowA c1796 data1798, LenA data1.length data1798] w) ?_ ?_
    ·refine wp_cond_split (hs.ev rfl) (fun h2040 => ?_) (fun h2040 => ?_)
     ·have hsh := ite_t hsh h2040
      refine wp_seq ?_
      refine wp_region_lit ?_
      refine st_val hs (y_move rfl) trivial rfl rfl fun a hs => ?_
      refine st_val hs (y_move rfl) trivial rfl rfl fun a hs => ?_
      refine st_val hs (y_move rfl) trivial rfl rfl fun a hs => ?_
      refine st_val hs (y_move rfl) trivial rfl rfl fun a hs => ?_
      obtain ⟨rv2042, h2041, hsh⟩ := bind_t hsh
      refine st_callR hs (slices_breakPatternsCmpFunc_api_Span_ok h2041 hw.dom (hw.ins [0] (by decide) rfl) (hw.envAt 1 rfl) (hw.envAt 0 rfl)) (do_call Try.call72 rfl) trivial rfl rfl ?_
      intro v2049 Sv2046 w a h2047 h2048 hs
      obtain ⟨c2043, rfl, h2050, h2044, h2045⟩ := h2048
      have hw := hw.callO [0] [] (by decide) rfl h2047 h2050
      have hw := hw.addE (e := RowA c2043 rv2042) h2044
      have hw := hw.addE (e := LenA data1.length rv2042) ((hw.envAt 3 rfl).trans h2045)
      have h2051 := h2045
      have h2052 := Eq.symm h2051
      try have hs := hs.fix 0 (.slice p2 rv2042.length k3) rfl (by rw [h2052])
      try have hs := hs.fix 40 (.slice p2 rv2042.length k3) rfl (by rw [h2052])
      refine wpList_nil ?_
      refine then_normal ?_
      refine wp_region_lit ?_
      refine st_val hs (y_move rfl) trivial rfl rfl fun a hs => ?_
      refine st_val hs (y_sub rfl rfl) trivial rfl rfl fun a hs => ?_
      obtain ⟨limit2054, h2053, hsh⟩ := bind_t hsh
      refine st_val hs (y_assignI rfl h2053) trivial rfl rfl fun a hs => ?_
      refine wpList_nil ?_
      refine then_normal ?_
      exact ⟨rv2042, limit2054, c2043, Sv2046, hsh, (hs.wk rfl), (hw.ft [0] [2, 1, 0] (by decide) rfl rfl)⟩
     ·have hsh := ite_f hsh h2040
      refine wp_skip ?_
      refine then_normal ?_
      exact ⟨sv773.1, sv773.2.2.2.1, c1335, Sv1336, hsh, (hs.wk rfl), (hw.ft [0] [0, 1, 2] (by decide) rfl rfl)⟩
    ·rintro a w ⟨data1798, limit1799, c1796, Sv1797, hsh, hs, hw⟩
     delta slices_pdqsortCmpFunc_api_Span_j2 at hsh
     refine then_normal ?_
     refine wp_seq ?_
     refine wp_region_lit ?_
     refine st_val hs (y_move rfl) trivial rfl rfl fun a hs => ?_
     refine st_val hs (y_move rfl) trivial rfl rfl fun a hs => ?_
     refine st_val hs (y_move rfl) trivial rfl rfl fun a hs => ?_
     refine st_val hs (y_move rfl) trivial rfl rfl fun a hs => ?_
     obtain ⟨rv1801, h1800, hsh⟩ := bind_t hsh
     refine st_callR hs (slices_choosePivotCmpFunc_api_Span_ok h1800 hw.bdom (hw.bRow 0 rfl 1 rfl) (hw.bE 0 rfl)) (do_call Try.call73 rfl) trivial rfl rfl ?_
     intro v1805 Sv1802 w a h1803 h1804 hs
     subst h1804
     have hw := hw.callB h1803
     refine st_val hs (y_move rfl) trivial rfl rfl fun a hs => ?_
     refine st_val hs (y_extract rfl rfl) trivial rfl rfl fun a hs => ?_
     refine st_val hs (y_extract rfl rfl) trivial rfl rfl fun a hs => ?_
     refine st_val hs (y_assign rfl) trivial rfl rfl fun a hs => ?_
     refine st_val hs (y_assign rfl) trivial rfl rfl fun a hs => ?_
     refine wpList_nil ?_
     refine then_normal ?_
     refine wp_seq ?_
     refine wp_seq ?_
     refine wp_region_lit ?_
     refine st_val hs (y_move rfl) trivial rfl rfl fun a hs => ?_
     refine st_val hs (y_eql rfl rfl) trivial rfl rfl fun a hs => ?_
     refine wpList_nil ?_
     refine then_normal ?_
     refine wp_join (fun a w => ∃ (data1824 : (List Span)) (pivot1825 : Int) (hint1826 : Int) (c1822 : List Value) (Sv1823 : Nat → Prop), slices_pdqsortCmpFunc_api_Span_j3 cmp9 frec sv773 length1726 limit1799 data1824 pivot1825 hint1826 = some tv1531 ∧ Sl 148 [(0, .slice p2 data1824.length k3), (1, .int .i64 sv773.2.1), (2, .int .i64 sv773.2.2.1), (3, .int .i64 limit1799), (4, .func (.func g10) f11.toArray cp12.toArray), (10, .bool sv773.2.2.2.2.1), (11, .bool sv773.2.2.2.2.2), (12, .int .i64 length1726), (13, .int .i64 pivot1825), (14, .int .i64 hint1826)] a ∧ Wd ⟨w0, S0, blks [.row p2 data1.length k3 c4 46 2]⟩ Sv1823 [.row p2 data1824.length k3 c1822 46 2] [FnA2 Try.prog g10 f11 cp12 cmp9, RowA c1822 data1824, LenA data1.length data1824] w) ?_ ?_
     ·refine wp_cond_split (hs.ev rfl) (fun h2025 => ?_) (fun h2025 => ?_)
      ·have hsh := ite_t hsh h2025
       refine wp_seq ?_
       refine wp_region_lit ?_
       refine st_val hs (y_move rfl) trivial rfl rfl fun a hs => ?_
       refine st_val hs (y_move rfl) trivial rfl rfl fun a hs => ?_
       refine st_val hs (y_move rfl) trivial rfl rfl fun a hs => ?_
       refine st_val hs (y_move rfl) trivial rfl rfl fun a hs => ?_
       obtain ⟨rv2027, h2026, hsh⟩ := bind_t hsh
       refine st_callR hs (slices_reverseRangeCmpFunc_api_Span_ok h2026 hw.dom (hw.ins [0] (by decide) rfl) (hw.envAt 1 rfl) (hw.envAt 0 rfl)) (do_call Try.call74 rfl) trivial rfl rfl ?_
       intro v2034 Sv2031 w a h2032 h2033 hs
       obtain ⟨c2028, rfl, h2035, h2029, h2030⟩ := h2033
       have hw := hw.callO [0] [] (by decide) rfl h2032 h2035
       have hw := hw.addE (e := RowA c2028 rv2027) h2029
       have hw := hw.addE (e := LenA data1.length rv2027) ((hw.envAt 3 rfl).trans h2030)
       have h2036 := h2030
       have h2037 := Eq.symm h2036
       try have hs := hs.fix 0 (.slice p2 rv2027.length k3) rfl (by rw [h2037])
       try have hs := hs.fix 57 (.slice p2 rv2027.length k3) rfl (by rw [h2037])
       refine wpList_nil ?_
       refine then_normal ?_
       refine wp_seq ?_
       refine wp_region_lit ?_
       refine st_val hs (y_move rfl) trivial rfl rfl fun a hs => ?_
       refine st_val hs (y_sub rfl rfl) trivial rfl rfl fun a hs => ?_
       refine st_val hs (y_move rfl) trivial rfl rfl fun a hs => ?_
       refine st_val hs (y_move rfl) trivial rfl rfl fun a hs => ?_
       refine st_val hs (y_sub rfl rfl) trivial rfl rfl fun a hs => ?_
       refine st_val hs (y_sub rfl rfl) trivial rfl rfl fun a hs => ?_
       obtain ⟨pivot2039, h2038, hsh⟩ := bind_t hsh
       refine st_val hs (y_assignI rfl h2038) trivial rfl rfl fun a hs => ?_
       refine wpList_nil ?_
       refine then_normal ?_
       refine wp_region_lit ?_
       refine st_val hs (y_assign rfl) trivial rfl rfl fun a hs => ?_
       refine wpList_nil ?_
       refine then_normal ?_
       exact ⟨rv2027, pivot2039, 1, c2028, Sv2031, hsh, (hs.wk rfl), (hw.ft [0] [2, 1, 0] (by decide) rfl rfl)⟩
      ·have hsh := ite_f hsh h2025
       refine wp_skip ?_
       refine then_normal ?_
       exact ⟨data1798, rv1801.1, rv1801.2, c1796, Sv1797, hsh, (hs.wk rfl), (hw.ft [0] [0, 1, 2] (by decide) rfl rfl)⟩
     ·rintro a w ⟨data1824, pivot1825, hint1826, c1822, Sv1823, hsh, hs, hw⟩
      delta slices_pdqsortCmpFunc_api_Span_j3 at hsh
      refine then_normal ?_
      refine wp_seq ?_
      refine wp_seq ?_
      refine wp_region_lit ?_
      refine st_val hs (y_move rfl) trivial rfl rfl fun a hs => ?_
      refine st_val hs (y_move rfl) trivial rfl rfl fun a hs => ?_
      refine wpl_join 2 (fun a w1 => w = w1 ∧ Sl 148 [(0, .slice p2 data1824.length k3), (1, .int .i64 sv773.2.1), (2, .int .i64 sv773.2.2.1), (3, .int .i64 limit1799), (4, .func (.func g10) f11.toArray cp12.toArray), (10, .bool sv773.2.2.2.2.1), (11, .bool sv773.2.2.2.2.2), (12, .int .i64 length1726), (13, .int .i64 pivot1825), (14, .int .i64 hint1826), (71, .bool (sv773.2.2.2.2.1 && sv773.2.2.2.2.2))] a) ?_ ?_
      ·rcases Bool.eq_false_or_eq_true sv773.2.2.2.2.1 with h1827 | h1827
       ·have hs := hs.fix 69 (.bool true) rfl (vb h1827)
        refine st_val hs (y_move rfl) ⟨_, rfl, rfl⟩ rfl rfl fun a hs => ?_
        refine st_val hs (y_pickT rfl rfl) trivial rfl rfl fun a hs => ?_
        refine wpList_nil ?_
        refine then_normal ?_
        exact ⟨rfl, (hs.fix 71 (.bool (sv773.2.2.2.2.1 && sv773.2.2.2.2.2)) rfl (and_t h1827)).weaken _ ⟨rfl, rfl, rfl, rfl, rfl, rfl, rfl, rfl, rfl, rfl, rfl, trivial⟩⟩
       ·have hs := hs.fix 69 (.bool false) rfl (vb h1827)
        refine st_skip hs rfl rfl rfl rfl rfl fun a hs => ?_
        refine st_val hs (y_pickF rfl rfl) trivial rfl rfl fun a hs => ?_
        refine wpList_nil ?_
        refine then_normal ?_
        exact ⟨rfl, (hs.fix 71 (.bool (sv773.2.2.2.2.1 && sv773.2.2.2.2.2)) rfl (and_f h1827)).weaken _ ⟨rfl, rfl, rfl, rfl, rfl, rfl, rfl, rfl, rfl, rfl, rfl, trivial⟩⟩
      ·rintro a w1 ⟨h2024, hs⟩
       subst h2024
       refine st_val hs (y_move rfl) trivial rfl rfl fun a hs => ?_
       refine wpl_join 3 (fun a w1 => w = w1 ∧ Sl 148 [(0, .slice p2 data1824.length k3), (1, .int .i64 sv773.2.1), (2, .int .i64 sv773.2.2.1), (3, .int .i64 limit1799), (4, .func (.func g10) f11.toArray cp12.toArray), (10, .bool sv773.2.2.2.2.1), (11, .bool sv773.2.2.2.2.2), (12, .int .i64 length1726), (13, .int .i64 pivot1825), (75, .bool ((sv773.2.2.2.2.1 && sv773.2.2.2.2.2) && (hint1826 == 1)))] a) ?_ ?_
       ·rcases Bool.eq_false_or_eq_true (sv773.2.2.2.2.1 && sv773.2.2.2.2.2) with h1828 | h1828
        ·have hs := hs.fix 72 (.bool true) rfl (vb h1828)
         refine st_val hs (y_move rfl) ⟨_, rfl, rfl⟩ rfl rfl fun a hs => ?_
         refine st_val hs (y_eql rfl rfl) ⟨_, rfl, rfl⟩ rfl rfl fun a hs => ?_
         refine st_val hs (y_pickT rfl rfl) trivial rfl rfl fun a hs => ?_
         refine wpList_nil ?_
         refine then_normal ?_
         exact ⟨rfl, (hs.fix 75 (.bool ((sv773.2.2.2.2.1 && sv773.2.2.2.2.2) && (hint1826 == 1))) rfl (and_t h1828)).weaken _ ⟨rfl, rfl, rfl, rfl, rfl, rfl, rfl, rfl, rfl, rfl, trivial⟩⟩
        ·have hs := hs.fix 72 (.bool false) rfl (vb h1828)
         refine st_skip hs rfl rfl rfl rfl rfl fun a hs => ?_
         refine st_skip hs rfl rfl rfl rfl rfl fun a hs => ?_
         refine st_val hs (y_pickF rfl rfl) trivial rfl rfl fun a hs => ?_
         refine wpList_nil ?_
         refine then_normal ?_
         exact ⟨rfl, (hs.fix 75 (.bool ((sv773.2.2.2.2.1 && sv773.2.2.2.2.2) && (hint1826 == 1))) rfl (and_f h1828)).weaken _ ⟨rfl, rfl, rfl, rfl, rfl, rfl, rfl, rfl, rfl, rfl, trivial⟩⟩
       ·rintro a w1 ⟨h2023, hs⟩
        subst h2023
        refine wpList_nil ?_
        refine then_normal ?_
        refine wp_join (fun a w => ∃ (data1845 : (List Span)) (c1843 : List Value) (Sv1844 : Nat → Prop), slices_pdqsortCmpFunc_api_Span_j4 cmp9 frec sv773 length1726 limit1799 pivot1825 data1845 = some tv1531 ∧ Sl 148 [(0, .slice p2 data1845.length k3), (1, .int .i64 sv773.2.1), (2, .int .i64 sv773.2.2.1), (3, .int .i64 limit1799), (4, .func (.func g10) f11.toArray cp12.toArray), (10, .bool sv773.2.2.2.2.1), (11, .bool sv773.2.2.2.2.2), (12, .int .i64 length1726), (13, .int .i64 pivot1825)] a ∧ Wd ⟨w0, S0, blks [.row p2 data1.length k3 c4 46 2]⟩ Sv1844 [.row p2 data1845.length k3 c1843 46 2] [FnA2 Try.prog g10 f11 cp12 cmp9, RowA c1843 data1845, LenA data1.length data1845] w) ?_ ?_
        ·refine wp_cond_split (hs.ev rfl) (fun h2007 => ?_) (fun h2007 => ?_)
         ·have hsh := ite_t hsh h2007
          refine wp_seq ?_
          refine wp_region_lit ?_
          refine st_val hs (y_move rfl) trivial rfl rfl fun a hs => ?_
          refine st_val hs (y_move rfl) trivial rfl rfl fun a hs => ?_
          refine st_val hs (y_move rfl) trivial rfl rfl fun a hs => ?_
          refine st_val hs (y_move rfl) trivial rfl rfl fun a hs => ?_
          obtain ⟨rv2009, h2008, hsh⟩ := bind_t hsh
          refine st_callR hs (slices_partialInsertionSortCmpFunc_api_Span_ok h2008 hw.dom (hw.ins [0] (by decide) rfl) (hw.envAt 1 rfl) (hw.envAt 0 rfl)) (do_call Try.call75 rfl) trivial rfl rfl ?_
          intro v2016 Sv2013 w a h2014 h2015 hs
          obtain ⟨c2010, rfl, h2017, h2011, h2012⟩ := h2015
          have hw := hw.callO [0] [] (by decide) rfl h2014 h2017
          have hw := hw.addE (e := RowA c2010 rv2009.2) h2011
          have hw := hw.addE (e := LenA data1.length rv2009.2) ((hw.envAt 3 rfl).trans h2012)
          have h2018 := h2012
          have h2019 := Eq.symm h2018
          try have hs := hs.fix 0 (.slice p2 rv2009.2.length k3) rfl (by rw [h2019])
          try have hs := hs.fix 76 (.slice p2 rv2009.2.length k3) rfl (by rw [h2019])
          refine wpList_nil ?_
          refine then_normal ?_
          refine wp_cond_split (hs.ev rfl) (fun h2021 => ?_) (fun h2021 => ?_)
          ·have hsh := ite_t hsh h2021
           have hsh := Option.some.inj hsh
           subst hsh
           have h2022 := hd1530 _ rfl
           subst h2022
           refine wp_ret ?_
           refine then_ret ?_
           refine then_ret ?_
           refine blk_ret ?_
           refine then_ret ?_
           refine then_ret ?_
           refine blk_ret ?_
           exact ret0 hs rfl (hw.ret ⟨c2010, rfl, (hw.outs [0] (by decide) rfl), (hw.envAt 1 rfl), (hw.envAt 0 rfl)⟩)
          ·have hsh := ite_f hsh h2021
           refine wp_skip ?_
           refine then_normal ?_
           exact ⟨rv2009.2, c2010, Sv2013, hsh, (hs.wk rfl), (hw.ft [0] [2, 1, 0] (by decide) rfl rfl)⟩
         ·have hsh := ite_f hsh h2007
          refine wp_skip ?_
          refine then_normal ?_
          exact ⟨data1824, c1822, Sv1823, hsh, (hs.wk rfl), (hw.ft [0] [0, 1, 2] (by decide) rfl rfl)⟩
        ·rintro a w ⟨data1845, c1843, Sv1844, hsh, hs, hw⟩
         delta slices_pdqsortCmpFunc_api_Span_j4 at hsh
         refine then_normal ?_
         refine wp_seq ?_
         refine wp_seq ?_
         obtain ⟨c1870, hc1870, hsh⟩ := bind_t hsh
         refine wp_only (fun a w => ∃ (Sv1871 : Nat → Prop), Sl 148 [(0, .slice p2 data1845.length k3), (1, .int .i64 sv773.2.1), (2, .int .i64 sv773.2.2.1), (3, .int .i64 limit1799), (4, .func (.func g10) f11.toArray cp12.toArray), (10, .bool sv773.2.2.2.2.1), (11, .bool sv773.2.2.2.2.2), (12, .int .i64 length1726), (13, .int .i64 pivot1825), (97, .bool c1870)] a ∧ Wd ⟨w0, S0, blks [.row p2 data1.length k3 c4 46 2]⟩ Sv1871 [.row p2 data1845.length k3 c1843 46 2] [FnA2 Try.prog g10 f11 cp12 cmp9, RowA c1843 data1845, LenA data1.length data1845] w) ?_ ?_
         ·rcases Bool.eq_false_or_eq_true (decide (0 < sv773.2.1)) with h1872 | h1872
          ·have h1873 := ite_t hc1870 h1872
           obtain ⟨x1876, h1874, h1873⟩ := bind_t h1873
           obtain ⟨b1883, q1880, c1881, h1884, h1877, h1878, h1882, h1875⟩ := hw.elemRV (α := Span) 0 rfl 1 rfl h1874
           have hsv1885 := hs
           have hwv1886 := hw
           subst h1884
           have hs := hsv1885
           have hw := hwv1886
           obtain ⟨_, _, rfl, rfl, rfl⟩ := h1875
           obtain ⟨x1889, h1887, h1873⟩ := bind_t h1873
           obtain ⟨q1893, c1894, h1890, h1891, h1895, h1888⟩ := hw.elemRK (α := Span) 0 rfl 1 rfl h1887
           obtain ⟨_, _, rfl, rfl, rfl⟩ := h1888
           obtain ⟨rv1897, h1896, h1873⟩ := bind_t h1873
           refine h_b (C := Cls [.row (some ⟨b1883, 0, none⟩) data1845.length k3 c1843 46 2] []) (by kernel_rfl) rfl (hw.drew.cs [0] [] rfl rfl) fun hC => ?_
           have hw := hw.drew
           refine h_g hs 0 rfl (by kernel_rfl) rfl rfl hC rfl (fun w hC => y_move rfl) fun a hs => ?_
           refine h_g hs 1 rfl (by kernel_rfl) rfl rfl hC rfl (fun w hC => y_gtr rfl rfl) fun a hs => ?_
           refine h_g hs 2 rfl (by kernel_rfl) rfl rfl hC rfl (fun w hC => y_move rfl) fun a hs => ?_
           have hs := hs.fix 83 (.bool true) rfl (vb h1872)
           refine h_t hs 3 rfl (by kernel_rfl) ⟨_, rfl, rfl⟩ rfl rfl hC (fun w hC => y_move rfl) fun a hs => ?_
           refine h_t hs 4 rfl (by kernel_rfl) ⟨_, rfl, rfl⟩ rfl rfl hC (fun w hC => y_move rfl) fun a hs => ?_
           refine h_t hs 5 rfl (by kernel_rfl) ⟨_, rfl, rfl⟩ rfl rfl hC (fun w hC => y_move rfl) fun a hs => ?_
           refine h_t hs 6 rfl (by kernel_rfl) ⟨_, rfl, rfl⟩ rfl rfl hC (fun w hC => y_sub rfl rfl) fun a hs => ?_
           refine h_t hs 7 rfl (by kernel_rfl) ⟨_, rfl, rfl⟩ rfl rfl hC (fun w hC => y_indexAt Try.runUnderlying27 Try.sizeOf46 rfl rfl h1877.1 h1877.2 h1878) fun a hs => ?_
           refine h_t hs 8 rfl (by kernel_rfl) ⟨_, rfl, rfl⟩ rfl rfl hC (fun w hC => y_loadQA (j := 0) (hC.ownAt 0 rfl) rfl Try.isAgg46 Try.sizeOf46 h1882 rfl rfl) fun a hs => ?_
           refine h_t hs 9 rfl (by kernel_rfl) ⟨_, rfl, rfl⟩ rfl rfl hC (fun w hC => y_move rfl) fun a hs => ?_
           refine h_t hs 10 rfl (by kernel_rfl) ⟨_, rfl, rfl⟩ rfl rfl hC (fun w hC => y_move rfl) fun a hs => ?_
           refine h_t hs 11 rfl (by kernel_rfl) ⟨_, rfl, rfl⟩ rfl rfl hC (fun w hC => y_indexAt Try.runUnderlying27 Try.sizeOf46 rfl rfl h1890.1 h1890.2 h1891) fun a hs => ?_
           refine h_t hs 12 rfl (by kernel_rfl) ⟨_, rfl, rfl⟩ rfl rfl hC (fun w hC => y_loadQA (j := 0) (hC.ownAt 0 rfl) rfl Try.isAgg46 Try.sizeOf46 h1895 rfl rfl) fun a hs => ?_
           refine h_one (i := 13) (by kernel_rfl) rfl ?_
           refine st_callR hs ((hw.bE 0 rfl).2 Keep.rfl' hw.bdom ⟨_, _, rfl, rfl, rfl⟩ ⟨_, _, rfl, rfl, rfl⟩ h1896) (do_callF (hw.bE 0 rfl).1 rfl rfl) ⟨_, rfl, rfl⟩ rfl rfl ?_
           intro v1901 Sv1898 w a h1899 h1900 hs
           subst h1900
           have hw := hw.callB h1899
           refine h_nx (hw.cs [0] [] rfl rfl) fun hC => ?_
           refine h_t hs 14 rfl (by kernel_rfl) ⟨_, rfl, rfl⟩ rfl rfl hC (fun w hC => y_lss rfl rfl) fun a hs => ?_
           refine h_t hs 15 rfl (by kernel_rfl) ⟨_, rfl, rfl⟩ rfl rfl hC (fun w hC => y_not rfl) fun a hs => ?_
           refine h_g hs 16 rfl (by kernel_rfl) rfl rfl hC rfl (fun w hC => y_pickTE (v := .bool c1870) rfl rfl (vbs h1873)) fun a hs => ?_
           refine h_done (by kernel_rfl) ?_
           exact ⟨Sv1844, (hs.wk rfl), (hw.ft [0] [0, 1, 2] (by decide) rfl rfl)⟩
          ·have h1902 := ite_f hc1870 h1872
           refine h_b (C := Cls [.row p2 data1845.length k3 c1843 46 2] []) (by kernel_rfl) rfl (hw.drew.cs [0] [] rfl rfl) fun hC => ?_
           have hw := hw.drew
           refine h_g hs 0 rfl (by kernel_rfl) rfl rfl hC rfl (fun w hC => y_move rfl) fun a hs => ?_
           refine h_g hs 1 rfl (by kernel_rfl) rfl rfl hC rfl (fun w hC => y_gtr rfl rfl) fun a hs => ?_
           refine h_g hs 2 rfl (by kernel_rfl) rfl rfl hC rfl (fun w hC => y_move rfl) fun a hs => ?_
           have hs := hs.fix 83 (.bool false) rfl (vb h1872)
           refine h_s hs 3 rfl (by kernel_rfl) rfl rfl rfl (.inl rfl) rfl rfl hC fun a hs => ?_
           refine h_s hs 4 rfl (by kernel_rfl) rfl rfl rfl (.inl rfl) rfl rfl hC fun a hs => ?_
           refine h_s hs 5 rfl (by kernel_rfl) rfl rfl rfl (.inl rfl) rfl rfl hC fun a hs => ?_
           refine h_s hs 6 rfl (by kernel_rfl) rfl rfl rfl (.inl rfl) rfl rfl hC fun a hs => ?_
           refine h_s hs 7 rfl (by kernel_rfl) rfl rfl rfl (.inl rfl) rfl rfl hC fun a hs => ?_
           refine h_s hs 8 rfl (by kernel_rfl) rfl rfl rfl (.inl rfl) rfl rfl hC fun a hs => ?_
           refine h_s hs 9 rfl (by kernel_rfl) rfl rfl rfl (.inl rfl) rfl rfl hC fun a hs => ?_
           refine h_s hs 10 rfl (by kernel_rfl) rfl rfl rfl (.inl rfl) rfl rfl hC fun a hs => ?_
           refine h_s hs 11 rfl (by kernel_rfl) rfl rfl rfl (.inl rfl) rfl rfl hC fun a hs => ?_
           refine h_s hs 12 rfl (by kernel_rfl) rfl rfl rfl (.inl rfl) rfl rfl hC fun a hs => ?_
           refine h_s hs 13 rfl (by kernel_rfl) rfl rfl rfl (.inl rfl) rfl rfl hC fun a hs => ?_
           refine h_s hs 14 rfl (by kernel_rfl) rfl rfl rfl (.inl rfl) rfl rfl hC fun a hs => ?_
           refine h_s hs 15 rfl (by kernel_rfl) rfl rfl rfl (.inl rfl) rfl rfl hC fun a hs => ?_
           refine h_g hs 16 rfl (by kernel_rfl) rfl rfl hC rfl (fun w hC => y_pickFE (v := .bool c1870) rfl rfl (vbs h1902)) fun a hs => ?_
           refine h_done (by kernel_rfl) ?_
           exact ⟨Sv1844, (hs.wk rfl), (hw.ft [0] [0, 1, 2] (by decide) rfl rfl)⟩
         ·rintro a w ⟨Sv1871, hs, hw⟩
          refine then_normal ?_
          refine wp_cond_split (hs.ev rfl) (fun h1916 => ?_) (fun h1916 => ?_)
          ·have hsh := ite_t hsh h1916
           refine wp_seq ?_
           refine wp_region_lit ?_
           refine st_val hs (y_move rfl) trivial rfl rfl fun a hs => ?_
           refine st_val hs (y_move rfl) trivial rfl rfl fun a hs => ?_
           refine st_val hs (y_move rfl) trivial rfl rfl fun a hs => ?_
           refine st_val hs (y_move rfl) trivial rfl rfl fun a hs => ?_
           refine st_val hs (y_move rfl) trivial rfl rfl fun a hs => ?_
           obtain ⟨rv1918, h1917, hsh⟩ := bind_t hsh
           refine st_callR hs (slices_partitionEqualCmpFunc_api_Span_ok h1917 hw.dom (hw.ins [0] (by decide) rfl) (hw.envAt 1 rfl) (hw.envAt 0 rfl)) (do_call Try.call76 rfl) trivial rfl rfl ?_
           intro v1925 Sv1922 w a h1923 h1924 hs
           obtain ⟨c1919, rfl, h1926, h1920, h1921⟩ := h1924
           have hw := hw.callO [0] [] (by decide) rfl h1923 h1926
           have hw := hw.addE (e := RowA c1919 rv1918.2) h1920
           have hw := hw.addE (e := LenA data1.length rv1918.2) ((hw.envAt 3 rfl).trans h1921)
           have h1927 := h1921
           have h1928 := Eq.symm h1927
           try have hs := hs.fix 0 (.slice p2 rv1918.2.length k3) rfl (by rw [h1928])
           try have hs := hs.fix 98 (.slice p2 rv1918.2.length k3) rfl (by rw [h1928])
           refine st_val hs (y_assign rfl) trivial rfl rfl fun a hs => ?_
           refine wpList_nil ?_
           refine then_normal ?_
           refine wp_seq ?_
           refine wp_region_lit ?_
           refine st_val hs (y_move rfl) trivial rfl rfl fun a hs => ?_
           refine st_val hs (y_assign rfl) trivial rfl rfl fun a hs => ?_
           refine wpList_nil ?_
           refine then_normal ?_
           refine wp_exit ?_
           refine then_exit ?_
           refine blk_exit ?_
           refine then_normal ?_
           exact ⟨rv1918.2, rv1918.1, sv773.2.2.1, limit1799, sv773.2.2.2.2.1, sv773.2.2.2.2.2, c1919, Sv1922, hsh, (hs.wk rfl), (hw.ft [0] [2, 1, 0] (by decide) rfl rfl)⟩
          ·have hsh := ite_f hsh h1916
           refine wp_skip ?_
           refine then_normal ?_
           refine wp_seq ?_
           refine wp_region_lit ?_
           refine st_val hs (y_move rfl) trivial rfl rfl fun a hs => ?_
           refine st_val hs (y_move rfl) trivial rfl rfl fun a hs => ?_
           refine st_val hs (y_move rfl) trivial rfl rfl fun a hs => ?_
           refine st_val hs (y_move rfl) trivial rfl rfl fun a hs => ?_
           refine st_val hs (y_move rfl) trivial rfl rfl fun a hs => ?_
           obtain ⟨rv1930, h1929, hsh⟩ := bind_t hsh
           refine st_callR hs (slices_partitionCmpFunc_api_Span_ok h1929 hw.dom (hw.ins [0] (by decide) rfl) (hw.envAt 1 rfl) (hw.envAt 0 rfl)) (do_call Try.call77 rfl) trivial rfl rfl ?_
           intro v1937 Sv1934 w a h1935 h1936 hs
           obtain ⟨c1931, rfl, h1938, h1932, h1933⟩ := h1936
           have hw := hw.callO [0] [] (by decide) rfl h1935 h1938
           have hw := hw.addE (e := RowA c1931 rv1930.2.2) h1932
           have hw := hw.addE (e := LenA data1.length rv1930.2.2) ((hw.envAt 3 rfl).trans h1933)
           have h1939 := h1933
           have h1940 := Eq.symm h1939
           try have hs := hs.fix 0 (.slice p2 rv1930.2.2.length k3) rfl (by rw [h1940])
           try have hs := hs.fix 106 (.slice p2 rv1930.2.2.length k3) rfl (by rw [h1940])
           refine st_val hs (y_move rfl) trivial rfl rfl fun a hs => ?_
           refine st_val hs (y_extract rfl rfl) trivial rfl rfl fun a hs => ?_
           refine st_val hs (y_extract rfl rfl) trivial rfl rfl fun a hs => ?_
           refine st_val hs (y_assign rfl) trivial rfl rfl fun a hs => ?_
           refine st_val hs (y_assign rfl) trivial rfl rfl fun a hs => ?_
           refine wpList_nil ?_
           refine then_normal ?_
           refine wp_seq ?_
           refine wp_region_lit ?_
           refine st_val hs (y_move rfl) trivial rfl rfl fun a hs => ?_
           refine st_val hs (y_assign rfl) trivial rfl rfl fun a hs => ?_
           refine wpList_nil ?_
           refine then_normal ?_
           refine wp_seq ?_
           refine wp_region_lit ?_
           refine st_val hs (y_move rfl) trivial rfl rfl fun a hs => ?_
           refine st_val hs (y_move rfl) trivial rfl rfl fun a hs => ?_
           refine st_val hs (y_sub rfl rfl) trivial rfl rfl fun a hs => ?_
           refine st_val hs (y_move rfl) trivial rfl rfl fun a hs => ?_
           refine st_val hs (y_move rfl) trivial rfl rfl fun a hs => ?_
           refine st_val hs (y_sub rfl rfl) trivial rfl rfl fun a hs => ?_
           obtain ⟨leftLen1942, h1941, hsh⟩ := bind_t hsh
           refine st_val hs (y_assignI rfl h1941) trivial rfl rfl fun a hs => ?_
           obtain ⟨rightLen1944, h1943, hsh⟩ := bind_t hsh
           refine st_val hs (y_assignI rfl h1943) trivial rfl rfl fun a hs => ?_
           refine wpList_nil ?_
           refine then_normal ?_
           refine wp_seq ?_
           refine wp_region_lit ?_
           refine st_val hs (y_move rfl) trivial rfl rfl fun a hs => ?_
           refine st_val hs (y_quo rfl rfl (by decide)) trivial rfl rfl fun a hs => ?_
           obtain ⟨balanceThreshold1946, h1945, hsh⟩ := bind_t hsh
           refine st_val hs (y_assignI rfl h1945) trivial rfl rfl fun a hs => ?_
           refine wpList_nil ?_
           refine then_normal ?_
           refine wp_seq ?_
           refine wp_region_lit ?_
           refine st_val hs (y_move rfl) trivial rfl rfl fun a hs => ?_
           refine st_val hs (y_move rfl) trivial rfl rfl fun a hs => ?_
           refine st_val hs (y_lss rfl rfl) trivial rfl rfl fun a hs => ?_
           refine wpList_nil ?_
           refine then_normal ?_
           refine wp_join (fun a w => ∃ (data1976 : (List Span)) (av1977 : Int) (b1978 : Int) (wasBalanced1979 : Bool) (c1974 : List Value) (Sv1975 : Nat → Prop), slices_pdqsortCmpFunc_api_Span_j5 limit1799 rv1930 data1976 av1977 b1978 wasBalanced1979 = some tv1531 ∧ Sl 148 [(0, .slice p2 data1976.length k3), (1, .int .i64 av1977), (2, .int .i64 b1978), (3, .int .i64 limit1799), (4, .func (.func g10) f11.toArray cp12.toArray), (10, .bool wasBalanced1979), (11, .bool rv1930.2.1)] a ∧ Wd ⟨w0, S0, blks [.row p2 data1.length k3 c4 46 2]⟩ Sv1975 [.row p2 data1976.length k3 c1974 46 2] [FnA2 Try.prog g10 f11 cp12 cmp9, RowA c1974 data1976, LenA data1.length data1976] w) ?_ ?_
           ·refine wp_cond_split (hs.ev rfl) (fun h1980 => ?_) (fun h1980 => ?_)
            ·have hsh := ite_t hsh h1980
             refine wp_seq ?_
             refine wp_region_lit ?_
             refine st_val hs (y_move rfl) trivial rfl rfl fun a hs => ?_
             refine st_val hs (y_move rfl) trivial rfl rfl fun a hs => ?_
             refine st_val hs (y_geq rfl rfl) trivial rfl rfl fun a hs => ?_
             refine st_val hs (y_assign rfl) trivial rfl rfl fun a hs => ?_
             refine wpList_nil ?_
             refine then_normal ?_
             refine wp_seq ?_
             refine wp_region_lit ?_
             refine st_val hs (y_move rfl) trivial rfl rfl fun a hs => ?_
             refine st_val hs (y_move rfl) trivial rfl rfl fun a hs => ?_
             refine st_val hs (y_move rfl) trivial rfl rfl fun a hs => ?_
             refine st_val hs (y_move rfl) trivial rfl rfl fun a hs => ?_
             refine st_val hs (y_move rfl) trivial rfl rfl fun a hs => ?_
             obtain ⟨rv1982, h1981, hsh⟩ := bind_t hsh
             refine st_callR hs (hrec h1981 hw.dom (hw.ins [0] (by decide) rfl) (hw.envAt 1 rfl) (hw.envAt 2 rfl)) (do_call Try.call67 rfl) trivial rfl rfl ?_
             intro v1989 Sv1986 w a h1987 h1988 hs
             obtain ⟨c1983, rfl, h1990, h1984, h1985⟩ := h1988
             have hw := hw.callO [0] [] (by decide) rfl h1987 h1990
             have hw := hw.addE (e := RowA c1983 rv1982) h1984
             have hw := hw.addE (e := LenA data1.length rv1982) ((hw.envAt 1 rfl).trans h1985)
             have h1991 := h1985
             have h1992 := Eq.symm h1991
             try have hs := hs.fix 0 (.slice p2 rv1982.length k3) rfl (by rw [h1992])
             try have hs := hs.fix 129 (.slice p2 rv1982.length k3) rfl (by rw [h1992])
             refine wpList_nil ?_
             refine then_normal ?_
             refine wp_region_lit ?_
             refine st_val hs (y_move rfl) trivial rfl rfl fun a hs => ?_
             refine st_val hs (y_add rfl rfl) trivial rfl rfl fun a hs => ?_
             obtain ⟨av1994, h1993, hsh⟩ := bind_t hsh
             refine st_val hs (y_assignI rfl h1993) trivial rfl rfl fun a hs => ?_
             refine wpList_nil ?_
             refine then_normal ?_
             exact ⟨rv1982, av1994, sv773.2.2.1, (decide (balanceThreshold1946 ≤ leftLen1942)), c1983, Sv1986, hsh, (hs.wk rfl), (hw.ft [0] [4, 1, 0] (by decide) rfl rfl)⟩
            ·have hsh := ite_f hsh h1980
             refine wp_seq ?_
             refine wp_region_lit ?_
             refine st_val hs (y_move rfl) trivial rfl rfl fun a hs => ?_
             refine st_val hs (y_move rfl) trivial rfl rfl fun a hs => ?_
             refine st_val hs (y_geq rfl rfl) trivial rfl rfl fun a hs => ?_
             refine st_val hs (y_assign rfl) trivial rfl rfl fun a hs => ?_
             refine wpList_nil ?_
             refine then_normal ?_
             refine wp_seq ?_
             refine wp_region_lit ?_
             refine st_val hs (y_move rfl) trivial rfl rfl fun a hs => ?_
             refine st_val hs (y_move rfl) trivial rfl rfl fun a hs => ?_
             refine st_val hs (y_add rfl rfl) trivial rfl rfl fun a hs => ?_
             refine st_val hs (y_move rfl) trivial rfl rfl fun a hs => ?_
             refine st_val hs (y_move rfl) trivial rfl rfl fun a hs => ?_
             refine st_val hs (y_move rfl) trivial rfl rfl fun a hs => ?_
             obtain ⟨rv1996, h1995, hsh⟩ := bind_t hsh
             refine st_callR hs (hrec h1995 hw.dom (hw.ins [0] (by decide) rfl) (hw.envAt 1 rfl) (hw.envAt 2 rfl)) (do_call Try.call67 rfl) trivial rfl rfl ?_
             intro v2003 Sv2000 w a h2001 h2002 hs
             obtain ⟨c1997, rfl, h2004, h1998, h1999⟩ := h2002
             have hw := hw.callO [0] [] (by decide) rfl h2001 h2004
             have hw := hw.addE (e := RowA c1997 rv1996) h1998
             have hw := hw.addE (e := LenA data1.length rv1996) ((hw.envAt 1 rfl).trans h1999)
             have h2005 := h1999
             have h2006 := Eq.symm h2005
             try have hs := hs.fix 0 (.slice p2 rv1996.length k3) rfl (by rw [h2006])
             try have hs := hs.fix 140 (.slice p2 rv1996.length k3) rfl (by rw [h2006])
             refine wpList_nil ?_
             refine then_normal ?_
             refine wp_region_lit ?_
             refine st_val hs (y_move rfl) trivial rfl rfl fun a hs => ?_
             refine st_val hs (y_assign rfl) trivial rfl rfl fun a hs => ?_
             refine wpList_nil ?_
             refine then_normal ?_
             exact ⟨rv1996, sv773.2.1, rv1930.1, (decide (balanceThreshold1946 ≤ rightLen1944)), c1997, Sv2000, hsh, (hs.wk rfl), (hw.ft [0] [4, 1, 0] (by decide) rfl rfl)⟩
           ·rintro a w ⟨data1976, av1977, b1978, wasBalanced1979, c1974, Sv1975, hsh, hs, hw⟩
            delta slices_pdqsortCmpFunc_api_Span_j5 at hsh
            refine blk_normal ?_
            refine then_normal ?_
            exact ⟨data1976, av1977, b1978, limit1799, wasBalanced1979, rv1930.2.1, c1974, Sv1975, hsh, (hs.wk rfl), (hw.ft [0] [0, 1, 2] (by decide) rfl rfl)⟩
 ·rintro a w ⟨data1719, av1720, b1721, limit1722, wasBalanced1723, wasPartitioned1724, c1717, Sv1718, hsh, hs, hw⟩
  delta slices_pdqsortCmpFunc_api_Span_j1 at hsh
  refine then_normal ?_
  exact ⟨_, (Option.some.inj hsh).symm, c1717, Sv1718, (hs.wk rfl), (hw.ft [0] [0, 1, 2] (by decide) rfl rfl)⟩
theorem slices_pdqsortCmpFunc_api_Span_nok (n : Nat) : ∀ {w0 : World} {S0 : Nat → Prop} {p2 : Option Addr} {k3 : Nat} {c4 : List Value} {g10 : Nat} {f11 : List Value} {cp12 : List Value} {data1 : (List Span)} {a6 : Int} {b7 : Int} {limit8 : Int} {cmp9 : Span → Span → Option Int} {r : (List Span)} (hsh : slices_pdqsortCmpFunc_api_Span_n n data1 a6 b7 limit8 cmp9 = some r) (hS : ∀ b, S0 b → b < w0.heap.size) (hin : Ins S0 w0 [.row p2 data1.length k3 c4 46 2]) (h5 : (RowA c4 data1).p S0 w0) (h13 : (FnA2 Try.prog g10 f11 cp12 cmp9).p S0 w0), Calls Try.prog 67 #[.slice p2 data1.length k3, .int .i64 a6, .int .i64 b7, .int .i64 limit8, .func (.func g10) f11.toArray cp12.toArray] w0 (Ret (blks [.row p2 data1.length k3 c4 46 2]) w0 S0 (slices_pdqsortCmpFunc_api_Span_rd w0 (blks [.row p2 data1.length k3 c4 46 2]) p2 k3 data1 r)) := by
  induction n with
  | zero =>
    intro w0 S0 p2 k3 c4 g10 f11 cp12 data1 a6 b7 limit8 cmp9 r hsh
    have h : (none : Option _) = some r := hsh
    cases h
  | succ n ih =>
    intro w0 S0 p2 k3 c4 g10 f11 cp12 data1 a6 b7 limit8 cmp9 r hsh hS hin h5 h13
    exact slices_pdqsortCmpFunc_api_Span_bok (frec := slices_pdqsortCmpFunc_api_Span_n n) ih hsh hS hin h5 h13
theorem slices_pdqsortCmpFunc_api_Span_ok {w0 : World} {S0 : Nat → Prop} {p2 : Option Addr} {k3 : Nat} {c4 : List Value} {g10 : Nat} {f11 : List Value} {cp12 : List Value} {data1 : (List Span)} {a6 : Int} {b7 : Int} {limit8 : Int} {cmp9 : Span → Span → Option Int} {r : (List Span)} (hsh : slices_pdqsortCmpFunc_api_Span data1 a6 b7 limit8 cmp9 = some r) (hS : ∀ b, S0 b → b < w0.heap.size) (hin : Ins S0 w0 [.row p2 data1.length k3 c4 46 2]) (h5 : (RowA c4 data1).p S0 w0) (h13 : (FnA2 Try.prog g10 f11 cp12 cmp9).p S0 w0) : Calls Try.prog 67 #[.slice p2 data1.length k3, .int .i64 a6, .int .i64 b7, .int .i64 limit8, .func (.func g10) f11.toArray cp12.toArray] w0 (Ret (blks [.row p2 data1.length k3 c4 46 2]) w0 S0 (slices_pdqsortCmpFunc_api_Span_rd w0 (blks [.row p2 data1.length k3 c4 46 2]) p2 k3 data1 r)) := slices_pdqsortCmpFunc_api_Span_nok 200 hsh hS hin h5 h13

abbrev slices_SortFunc_Lapi_Span_api_Span_rd (w0 : World) (X : List Nat) (p2 : Option Addr) (k3 : Nat) (x1 : (List Span)) (r : (List Span)) : (Nat → Prop) → World → Value → Prop := fun S w v => ∃ (ck_0 : List Value), v = .tuple #[] ∧ Outs X w0 S w [.row p2 r.length k3 ck_0 46 2] ∧ (RowA ck_0 r).p S w ∧ (LenA x1.length r).p S w
set_option maxHeartbeats 4000000 in
set_option maxRecDepth 100000 in
theorem slices_SortFunc_Lapi_Span_api_Span_ok {w0 : World} {S0 : Nat → Prop} {p2 : Option Addr} {k3 : Nat} {c4 : List Value} {g7 : Nat} {f8 : List Value} {cp9 : List Value} {x1 : (List Span)} {cmp6 : Span → Span → Option Int} {r : (List Span)} (hsh : slices_SortFunc_Lapi_Span_api_Span x1 cmp6 = some r) (hS : ∀ b, S0 b → b < w0.heap.size) (hin : Ins S0 w0 [.row p2 x1.length k3 c4 46 2]) (h5 : (RowA c4 x1).p S0 w0) (h10 : (FnA2 Try.prog g7 f8 cp9 cmp6).p S0 w0) : Calls Try.prog 62 #[.slice p2 x1.length k3, .func (.func g7) f8.toArray cp9.toArray] w0 (Ret (blks [.row p2 x1.length k3 c4 46 2]) w0 S0 (slices_SortFunc_Lapi_Span_api_Span_rd w0 (blks [.row p2 x1.length k3 c4 46 2]) p2 k3 x1 r)) := by
 refine calls_of_wp Try.func62 rfl ?_
 have hs := Sl.enter #[.slice p2 x1.length k3, .func (.func g7) f8.toArray cp9.toArray] 14 [(0, .slice p2 x1.length k3), (1, .func (.func g7) f8.toArray cp9.toArray)] rfl ⟨rfl, rfl, trivial⟩
 have hw := Wd.enterI hS hin
 have hw := hw.addE h5
 have hw := hw.addE (e := LenA x1.length x1) len_rfl
 have hw := hw.addE h10
 delta slices_SortFunc_Lapi_Span_api_Span at hsh
 refine wp_seq ?_
 refine wp_region_lit ?_
 refine st_val hs (y_move rfl) trivial rfl rfl fun a hs => ?_
 refine st_val hs (y_len Try.runUnderlying27 rfl) trivial rfl rfl fun a hs => ?_
 obtain ⟨n12, h11, hsh⟩ := bind_t hsh
 refine st_val hs (y_assignI rfl h11) trivial rfl rfl fun a hs => ?_
 refine wpList_nil ?_
 refine then_normal ?_
 refine wp_region_lit ?_
 refine st_val hs (y_move rfl) trivial rfl rfl fun a hs => ?_
 refine st_val hs (y_move rfl) trivial rfl rfl fun a hs => ?_
 refine st_val hs (y_move rfl) trivial rfl rfl fun a hs => ?_
 refine st_val hs (y_convert Try.runUnderlying3 Try.runUnderlying68 rfl) trivial rfl rfl fun a hs => ?_
 obtain ⟨rv14, h13, hsh⟩ := bind_t hsh
 refine st_callR hs (math_bits_Len_ok h13 hw.bdom) (do_call Try.call68 rfl) trivial rfl rfl ?_
 intro v18 Sv15 w a h16 h17 hs
 subst h17
 have hw := hw.callB h16
 refine st_val hs (y_move rfl) trivial rfl rfl fun a hs => ?_
 obtain ⟨rv21, h20, hsh⟩ := bind_t hsh
 refine st_callR hs (slices_pdqsortCmpFunc_api_Span_ok h20 hw.dom (hw.ins [0] (by decide) rfl) (hw.envAt 2 rfl) (hw.envAt 0 rfl)) (do_call Try.call67 rfl) trivial rfl rfl ?_
 intro v28 Sv25 w a h26 h27 hs
 obtain ⟨c22, rfl, h29, h23, h24⟩ := h27
 have hw := hw.callO [0] [] (by decide) rfl h26 h29
 have hw := hw.addE (e := RowA c22 rv21) h23
 have hw := hw.addE (e := LenA x1.length rv21) ((hw.envAt 2 rfl).trans h24)
 have h30 := h24
 have h31 := Eq.symm h30
 try have hs := hs.fix 0 (.slice p2 rv21.length k3) rfl (by rw [h31])
 try have hs := hs.fix 7 (.slice p2 rv21.length k3) rfl (by rw [h31])
 refine wpList_nil ?_
 have hsh := Option.some.inj hsh
 subst hsh
 exact ret0 hs rfl (hw.ret ⟨c22, rfl, (hw.outs [0] (by decide) rfl), (hw.envAt 1 rfl), (hw.envAt 0 rfl)⟩)

abbrev cmp_isNaN_int_rd (w0 : World) (X : List Nat) (r : Bool) : (Nat → Prop) → World → Value → Prop := fun S w v => v = .bool r
set_option maxHeartbeats 4000000 in
set_option maxRecDepth 100000 in
theorem cmp_isNaN_int_ok {w0 : World} {S0 : Nat → Prop} {x1 : Int} {r : Bool} (hsh : cmp_isNaN_int x1 = some r) (hS : ∀ b, S0 b → b < w0.heap.size) : Calls Try.prog 69 #[.int .i64 x1] w0 (Ret ([]) w0 S0 (cmp_isNaN_int_rd w0 ([]) r)) := by
 refine calls_of_wp Try.func69 rfl ?_
 have hs := Sl.enter #[.int .i64 x1] 6 [(0, .int .i64 x1)] rfl ⟨rfl, trivial⟩
 have hw := Wd.enter (E := []) hS (fun _ h => (by cases h))
 delta cmp_isNaN_int at hsh
 refine wp_seq ?_
 refine wp_region_lit ?_
 refine st_val hs (y_assign rfl) trivial rfl rfl fun a hs => ?_
 refine wpList_nil ?_
 refine then_normal ?_
 refine wp_seq ?_
 refine wp_region_lit ?_
 refine st_val hs (y_move rfl) trivial rfl rfl fun a hs => ?_
 refine st_val hs (y_move rfl) trivial rfl rfl fun a hs => ?_
 refine st_val hs (y_neq rfl rfl) trivial rfl rfl fun a hs => ?_
 refine st_val hs (y_assign rfl) trivial rfl rfl fun a hs => ?_
 refine wpList_nil ?_
 refine then_normal ?_
 have hsh := Option.some.inj hsh
 subst hsh
 refine wp_ret ?_
 exact ret1 hs rfl (rv_tmp rfl) (hw.ret rfl)

abbrev cmp_Compare_int_rd (w0 : World) (X : List Nat) (r : Int) : (Nat → Prop) → World → Value → Prop := fun S w v => v = .int .i64 r
set_option maxHeartbeats 4000000 in
set_option maxRecDepth 100000 in
theorem cmp_Compare_int_ok {w0 : World} {S0 : Nat → Prop} {x1 : Int} {y2 : Int} {r : Int} (hsh : cmp_Compare_int x1 y2 = some r) (hS : ∀ b, S0 b → b < w0.heap.size) : Calls Try.prog 64 #[.int .i64 x1, .int .i64 y2] w0 (Ret ([]) w0 S0 (cmp_Compare_int_rd w0 ([]) r)) := by
 refine calls_of_wp Try.func64 rfl ?_
 have hs := Sl.enter #[.int .i64 x1, .int .i64 y2] 20 [(0, .int .i64 x1), (1, .int .i64 y2)] rfl ⟨rfl, rfl, trivial⟩
 have hw := Wd.enter (E := []) hS (fun _ h => (by cases h))
 delta cmp_Compare_int at hsh
 refine wp_seq ?_
 refine wp_region_lit ?_
 refine st_val hs (y_assign rfl) trivial rfl rfl fun a hs => ?_
 refine wpList_nil ?_
 refine then_normal ?_
 refine wp_seq ?_
 refine wp_region_lit ?_
 refine st_val hs (y_move rfl) trivial rfl rfl fun a hs => ?_
 obtain ⟨rv4, h3, hsh⟩ := bind_t hsh
 refine st_callR hs (cmp_isNaN_int_ok h3 hw.bdom) (do_call Try.call69 rfl) trivial rfl rfl ?_
 intro v8 Sv5 w a h6 h7 hs
 subst h7
 have hw := hw.callB h6
 refine st_val hs (y_assign rfl) trivial rfl rfl fun a hs => ?_
 refine wpList_nil ?_
 refine then_normal ?_
 refine wp_seq ?_
 refine wp_region_lit ?_
 refine st_val hs (y_move rfl) trivial rfl rfl fun a hs => ?_
 obtain ⟨rv11, h10, hsh⟩ := bind_t hsh
 refine st_callR hs (cmp_isNaN_int_ok h10 hw.bdom) (do_call Try.call69 rfl) trivial rfl rfl ?_
 intro v15 Sv12 w a h13 h14 hs
 subst h14
 have hw := hw.callB h13
 refine st_val hs (y_assign rfl) trivial rfl rfl fun a hs => ?_
 refine wpList_nil ?_
 refine then_normal ?_
 refine wp_seq ?_
 refine wp_seq ?_
 refine wp_region_lit ?_
 refine st_val hs (y_move rfl) trivial rfl rfl fun a hs => ?_
 refine wpList_nil ?_
 refine then_normal ?_
 refine wp_cond_split (hs.ev rfl) (fun h19 => ?_) (fun h19 => ?_)
 ·have hsh := ite_t hsh h19
  refine wp_seq ?_
  refine wp_seq ?_
  refine wp_region_lit ?_
  refine st_val hs (y_move rfl) trivial rfl rfl fun a hs => ?_
  refine wpList_nil ?_
  refine then_normal ?_
  refine wp_cond_split (hs.ev rfl) (fun h21 => ?_) (fun h21 => ?_)
  ·have hsh := ite_t hsh h21
   refine wp_seq ?_
   refine wp_region_lit ?_
   refine st_val hs (y_assign rfl) trivial rfl rfl fun a hs => ?_
   refine wpList_nil ?_
   refine then_normal ?_
   have hsh := Option.some.inj hsh
   subst hsh
   refine wp_ret ?_
   refine then_ret ?_
   refine then_ret ?_
   exact ret1 hs rfl (rv_tmp rfl) (hw.ret rfl)
  ·have hsh := ite_f hsh h21
   refine wp_skip ?_
   refine then_normal ?_
   refine wp_seq ?_
   refine wp_region_lit ?_
   refine st_val hs (y_assign rfl) trivial rfl rfl fun a hs => ?_
   refine wpList_nil ?_
   refine then_normal ?_
   have hsh := Option.some.inj hsh
   subst hsh
   refine wp_ret ?_
   refine then_ret ?_
   exact ret1 hs rfl (rv_tmp rfl) (hw.ret rfl)
 ·have hsh := ite_f hsh h19
  refine wp_skip ?_
  refine then_normal ?_
  refine wp_seq ?_
  refine wp_seq ?_
  refine wp_region_lit ?_
  refine st_val hs (y_move rfl) trivial rfl rfl fun a hs => ?_
  refine wpList_nil ?_
  refine then_normal ?_
  refine wp_cond_split (hs.ev rfl) (fun h23 => ?_) (fun h23 => ?_)
  ·have hsh := ite_t hsh h23
   refine wp_seq ?_
   refine wp_region_lit ?_
   refine st_val hs (y_assign rfl) trivial rfl rfl fun a hs => ?_
   refine wpList_nil ?_
   refine then_normal ?_
   have hsh := Option.some.inj hsh
   subst hsh
   refine wp_ret ?_
   refine then_ret ?_
   exact ret1 hs rfl (rv_tmp rfl) (hw.ret rfl)
  ·have hsh := ite_f hsh h23
   refine wp_skip ?_
   refine then_normal ?_
   refine wp_seq ?_
   refine wp_seq ?_
   refine wp_region_lit ?_
   refine st_val hs (y_move rfl) trivial rfl rfl fun a hs => ?_
   refine st_val hs (y_move rfl) trivial rfl rfl fun a hs => ?_
   refine st_val hs (y_lss rfl rfl) trivial rfl rfl fun a hs => ?_
   refine wpList_nil ?_
   refine then_normal ?_
   refine wp_cond_split (hs.ev rfl) (fun h25 => ?_) (fun h25 => ?_)
   ·have hsh := ite_t hsh h25
    refine wp_seq ?_
    refine wp_region_lit ?_
    refine st_val hs (y_assign rfl) trivial rfl rfl fun a hs => ?_
    refine wpList_nil ?_
    refine then_normal ?_
    have hsh := Option.some.inj hsh
    subst hsh
    refine wp_ret ?_
    refine then_ret ?_
    exact ret1 hs rfl (rv_tmp rfl) (hw.ret rfl)
   ·have hsh := ite_f hsh h25
    refine wp_skip ?_
    refine then_normal ?_
    refine wp_seq ?_
    refine wp_seq ?_
    refine wp_region_lit ?_
    refine st_val hs (y_move rfl) trivial rfl rfl fun a hs => ?_
    refine st_val hs (y_move rfl) trivial rfl rfl fun a hs => ?_
    refine st_val hs (y_gtr rfl rfl) trivial rfl rfl fun a hs => ?_
    refine wpList_nil ?_
    refine then_normal ?_
    refine wp_cond_split (hs.ev rfl) (fun h27 => ?_) (fun h27 => ?_)
    ·have hsh := ite_t hsh h27
     refine wp_seq ?_
     refine wp_region_lit ?_
     refine st_val hs (y_assign rfl) trivial rfl rfl fun a hs => ?_
     refine wpList_nil ?_
     refine then_normal ?_
     have hsh := Option.some.inj hsh
     subst hsh
     refine wp_ret ?_
     refine then_ret ?_
     exact ret1 hs rfl (rv_tmp rfl) (hw.ret rfl)
    ·have hsh := ite_f hsh h27
     refine wp_skip ?_
     refine then_normal ?_
     refine wp_seq ?_
     refine wp_region_lit ?_
     refine st_val hs (y_assign rfl) trivial rfl rfl fun a hs => ?_
     refine wpList_nil ?_
     refine then_normal ?_
     have hsh := Option.some.inj hsh
     subst hsh
     refine wp_ret ?_
     exact ret1 hs rfl (rv_tmp rfl) (hw.ret rfl)

abbrev span_Normal_fn2_rd (w0 : World) (X : List Nat) (r : Int) : (Nat → Prop) → World → Value → Prop := fun S w v => v = .int .i64 r
set_option maxHeartbeats 4000000 in
set_option maxRecDepth 100000 in
theorem span_Normal_fn2_ok {w0 : World} {S0 : Nat → Prop} {a1 : Span} {b2 : Span} {r : Int} (hsh : span_Normal_fn2 a1 b2 = some r) (hS : ∀ b, S0 b → b < w0.heap.size) : Calls Try.prog 63 #[.agg #[.int .i64 a1.From, .int .i64 a1.To], .agg #[.int .i64 b2.From, .int .i64 b2.To]] w0 (Ret ([]) w0 S0 (span_Normal_fn2_rd w0 ([]) r)) := by
 refine calls_of_wp Try.func63 rfl ?_
 have hs := Sl.enter #[.agg #[.int .i64 a1.From, .int .i64 a1.To], .agg #[.int .i64 b2.From, .int .i64 b2.To]] 10 [(0, .agg #[.int .i64 a1.From, .int .i64 a1.To]), (1, .agg #[.int .i64 b2.From, .int .i64 b2.To])] rfl ⟨rfl, rfl, trivial⟩
 have hw := Wd.enter (E := []) hS (fun _ h => (by cases h))
 delta span_Normal_fn2 at hsh
 refine wp_seq ?_
 refine wp_region_lit ?_
 refine w_box (cs := [.int .i64 a1.From, .int .i64 a1.To]) hs hw rfl rfl rfl trivial ?_
 intro b3 a w hs hw
 refine w_box (cs := [.int .i64 b2.From, .int .i64 b2.To]) hs hw rfl rfl rfl trivial ?_
 intro b4 a w hs hw
 refine st_val hs (y_assign rfl) trivial rfl rfl fun a hs => ?_
 refine wpList_nil ?_
 refine then_normal ?_
 refine wp_seq ?_
 refine wp_region_lit ?_
 refine st_val hs (y_fieldAddr (o' := 0) Try.runUnderlying46 rfl Try.sizeOf3 rfl rfl rfl) trivial rfl rfl fun a hs => ?_
 refine st_val hs (y_loadB1 (hw.ownAt 1 rfl) rfl Try.isAgg3 rfl) trivial rfl rfl fun a hs => ?_
 refine st_val hs (y_fieldAddr (o' := 0) Try.runUnderlying46 rfl Try.sizeOf3 rfl rfl rfl) trivial rfl rfl fun a hs => ?_
 refine st_val hs (y_loadB1 (hw.ownAt 0 rfl) rfl Try.isAgg3 rfl) trivial rfl rfl fun a hs => ?_
 obtain ⟨rv6, h5, hsh⟩ := bind_t hsh
 refine st_callR hs (cmp_Compare_int_ok h5 hw.bdom) (do_call Try.call64 rfl) trivial rfl rfl ?_
 intro v10 Sv7 w a h8 h9 hs
 subst h9
 have hw := hw.callB h8
 refine st_val hs (y_assign rfl) trivial rfl rfl fun a hs => ?_
 refine wpList_nil ?_
 refine then_normal ?_
 have hsh := Option.some.inj hsh
 subst hsh
 refine wp_ret ?_
 exact ret1 hs rfl (rv_tmp rfl) (hw.ret rfl)

theorem span_Normal_fn2_fn (S0 : Nat → Prop) (w0 : World) : (FnA2 Try.prog 63 [] [] span_Normal_fn2).p S0 w0 := by
  refine ⟨Try.call63, ?_⟩
  intro S1 w1 hk hS c0 c1 x0 x1 r1 h0 h1 hf
  obtain ⟨_, _, rfl, rfl, rfl⟩ := h0
  obtain ⟨_, _, rfl, rfl, rfl⟩ := h1
  exact span_Normal_fn2_ok hf hS  

end Go.Proofs.Ytiihddcppmjbaaa.Wk

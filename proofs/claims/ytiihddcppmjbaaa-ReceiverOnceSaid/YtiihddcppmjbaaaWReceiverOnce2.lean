/- The walks of ReceiverOnce, part 2: each Go function computes what its plain program computes. Printed by a program of ours. -/
import Derived.Test.YtiihddcppmjbaaaProg
import Derived.Test.YtiihddcppmjbaaaDat
import Derived.Test.YtiihddcppmjbaaaSh
import Derived.Test.YtiihddcppmjbaaaLibL
import Derived.Test.YtiihddcppmjbaaaLibZ
import Derived.KernelRfl
import Derived.Test.YtiihddcppmjbaaaWReceiverOnce1
namespace Go.Proofs.Ytiihddcppmjbaaa.Wk
open Go Go.RowKit Go.Proofs Go.Proofs.Ytiihddcppmjbaaa.Sh
set_option linter.unusedVariables false
set_option linter.unusedSimpArgs false

abbrev slices_partitionCmpFunc_api_Span_rd (w0 : World) (X : List Nat) (p2 : Option Addr) (k3 : Nat) (data1 : (List Span)) (r : (Int × Bool × (List Span))) : (Nat → Prop) → World → Value → Prop := fun S w v => ∃ (ck_0 : List Value), v = .tuple #[.int .i64 r.1, .bool r.2.1] ∧ Outs X w0 S w [.row p2 r.2.2.length k3 ck_0 46 2] ∧ (RowA ck_0 r.2.2).p S w ∧ (LenA data1.length r.2.2).p S w
set_option maxHeartbeats 4000000 in
set_option maxRecDepth 100000 in
theorem slices_partitionCmpFunc_api_Span_ok {w0 : World} {S0 : Nat → Prop} {p2 : Option Addr} {k3 : Nat} {c4 : List Value} {g10 : Nat} {f11 : List Value} {cp12 : List Value} {data1 : (List Span)} {a6 : Int} {b7 : Int} {pivot8 : Int} {cmp9 : Span → Span → Option Int} {r : (Int × Bool × (List Span))} (hsh : slices_partitionCmpFunc_api_Span data1 a6 b7 pivot8 cmp9 = some r) (hS : ∀ b, S0 b → b < w0.heap.size) (hin : Ins S0 w0 [.row p2 data1.length k3 c4 46 2]) (h5 : (RowA c4 data1).p S0 w0) (h13 : (FnA2 Try.prog g10 f11 cp12 cmp9).p S0 w0) : Calls Try.prog 77 #[.slice p2 data1.length k3, .int .i64 a6, .int .i64 b7, .int .i64 pivot8, .func (.func g10) f11.toArray cp12.toArray] w0 (Ret (blks [.row p2 data1.length k3 c4 46 2]) w0 S0 (slices_partitionCmpFunc_api_Span_rd w0 (blks [.row p2 data1.length k3 c4 46 2]) p2 k3 data1 r)) := by
 refine calls_of_wp Try.func77 rfl ?_
 have hs := Sl.enter #[.slice p2 data1.length k3, .int .i64 a6, .int .i64 b7, .int .i64 pivot8, .func (.func g10) f11.toArray cp12.toArray] 178 [(0, .slice p2 data1.length k3), (1, .int .i64 a6), (2, .int .i64 b7), (3, .int .i64 pivot8), (4, .func (.func g10) f11.toArray cp12.toArray)] rfl ⟨rfl, rfl, rfl, rfl, rfl, trivial⟩
 have hw := Wd.enterI hS hin
 have hw := hw.addE h5
 have hw := hw.addE (e := LenA data1.length data1) len_rfl
 have hw := hw.addE h13
 delta slices_partitionCmpFunc_api_Span at hsh
 refine sr ?_
 refine av hs rfl rfl fun a hs => ?_
 refine av hs rfl rfl fun a hs => ?_
 refine nl ?_
 refine wp_seq ?_
 obtain ⟨x16, h14, hsh⟩ := bind_t hsh
 obtain ⟨b23, q20, c21, h24, h17, h18, h22, h15⟩ := hw.elemRV (α := Span) 0 rfl 2 rfl h14
 have hsv25 := hs
 have hwv26 := hw
 subst h24
 have hs := hsv25
 have hw := hwv26
 obtain ⟨_, _, rfl, rfl, rfl⟩ := h15
 obtain ⟨x29, h27, hsh⟩ := bind_t hsh
 obtain ⟨q33, c34, h30, h31, h35, h28⟩ := hw.elemRK (α := Span) 0 rfl 2 rfl h27
 obtain ⟨_, _, rfl, rfl, rfl⟩ := h28
 obtain ⟨x38, h36, hsh⟩ := bind_t hsh
 obtain ⟨q42, c43, h39, h40, h44, h37⟩ := hw.elemRK (α := Span) 0 rfl 2 rfl h36
 obtain ⟨_, _, rfl, rfl, rfl⟩ := h37
 obtain ⟨l46, h45, hsh⟩ := bind_t hsh
 obtain ⟨x51, h49, hsh⟩ := bind_t hsh
 obtain ⟨l59, h58, hsh⟩ := bind_t hsh
 refine wp_only (fun a w => ∃ (Sv62 : Nat → Prop) (c60 : List Value), Sl 178 [(0, .slice (some ⟨b23, 0, none⟩) l59.length k3), (1, .int .i64 a6), (2, .int .i64 b7), (4, .func (.func g10) f11.toArray cp12.toArray)] a ∧ Wd ⟨w0, S0, blks [.row (some ⟨b23, 0, none⟩) data1.length k3 c4 46 2]⟩ Sv62 [.row (some ⟨b23, 0, none⟩) l59.length k3 c60 46 2] [FnA2 Try.prog g10 f11 cp12 cmp9, RowA c60 l59, LenA data1.length l59] w) ?_ ?_
 ·refine h_b (C := Cls [] []) (by kernel_rfl) rfl (hw.drew.cs [] [] rfl rfl) fun hC => ?_
  have hw := hw.drew
  refine gm hs 0 rfl rfl rfl hC fun a hs => ?_
  refine gm hs 1 rfl rfl rfl hC fun a hs => ?_
  refine gm hs 2 rfl rfl rfl hC fun a hs => ?_
  refine gm hs 3 rfl rfl rfl hC fun a hs => ?_
  refine gm hs 4 rfl rfl rfl hC fun a hs => ?_
  refine gm hs 5 rfl rfl rfl hC fun a hs => ?_
  refine gv hs 6 rfl rfl hC (fun w hC => y_indexAt Try.runUnderlying27 Try.sizeOf46 rfl rfl h17.1 h17.2 h18) fun a hs => ?_
  refine gm hs 8 rfl rfl rfl hC fun a hs => ?_
  refine gm hs 9 rfl rfl rfl hC fun a hs => ?_
  refine gv hs 10 rfl rfl hC (fun w hC => y_indexAt Try.runUnderlying27 Try.sizeOf46 rfl rfl h30.1 h30.2 h31) fun a hs => ?_
  refine h_all (rs := [7, 11]) (by kernel_rfl) rfl ?_
  refine AllH.cons rfl ?_ ?_
  ·refine sv hs (y_loadQA (j := 0) (hw.ownAt 0 rfl) rfl Try.isAgg46 Try.sizeOf46 h22 rfl rfl) rfl fun a hs => ?_
   refine h_nx (hw.cs [] [] rfl rfl) fun hC => ?_
   refine ho 11 rfl ?_
   refine sv hs (y_loadQA (j := 0) (hw.ownAt 0 rfl) rfl Try.isAgg46 Try.sizeOf46 h35 rfl rfl) rfl fun a hs => ?_
   refine h_nx (hw.cs [] [] rfl rfl) fun hC => ?_
   refine gv hs 12 rfl rfl hC (fun w hC => y_indexAt Try.runUnderlying27 Try.sizeOf46 rfl rfl h39.1 h39.2 h40) fun a hs => ?_
   refine ho 13 rfl ?_
   have h63 := hw.envAt 1 rfl
   refine w_storeF (α := Span) hs hw 0 rfl 2 rfl h40 rfl rfl Try.sizeOf46 rfl h45 ⟨_, _, rfl, rfl, rfl⟩ trivial ?_
   intro c47 a w hs hw
   have hw := hw.addE (e := LenA data1.length l46) (len_set (w := w) (S := S0) h63 h45)
   have h48 := setM_len h45
   try have hs := hs.fl 0 rfl h48
   try have hs := hs.fl 14 rfl h48
   try have hs := hs.fl 16 rfl h48
   try have hs := hs.fl 18 rfl h48
   try have hs := hs.fl 22 rfl h48
   refine h_nx (hw.cs [] [] rfl rfl) fun hC => ?_
   refine ho 14 rfl ?_
   obtain ⟨c56, h52, h57, h50⟩ := hw.elemRX (α := Span) 0 rfl 1 rfl h49
   obtain ⟨_, _, rfl, rfl, rfl⟩ := h50
   refine sv hs (y_indexAt Try.runUnderlying27 Try.sizeOf46 rfl rfl h52.1 h52.2 rfl) rfl fun a hs => ?_
   refine h_nx (hw.cs [] [] rfl rfl) fun hC => ?_
   refine ho 15 rfl ?_
   have h64 := hw.envAt 0 rfl
   refine w_storeF (α := Span) hs hw 0 rfl 1 rfl rfl rfl rfl Try.sizeOf46 rfl h58 ⟨_, _, rfl, rfl, rfl⟩ trivial ?_
   intro c60 a w hs hw
   have hw := hw.addE (e := LenA data1.length l59) (len_set (w := w) (S := S0) h64 h58)
   have h61 := setM_len h58
   try have hs := hs.fl 0 rfl h61
   try have hs := hs.fl 14 rfl h61
   try have hs := hs.fl 16 rfl h61
   try have hs := hs.fl 18 rfl h61
   try have hs := hs.fl 22 rfl h61
   refine h_nx (hw.cs [] [] rfl rfl) fun hC => ?_
   refine h_done (by kernel_rfl) ?_
   exact ⟨S0, c60, (hs.wk rfl), (hw.ft [0] [4, 1, 0] (by decide) rfl rfl)⟩
  refine AllH.cons rfl ?_ ?_
  ·refine sv hs (y_loadQA (j := 0) (hw.ownAt 0 rfl) rfl Try.isAgg46 Try.sizeOf46 h35 rfl rfl) rfl fun a hs => ?_
   refine h_nx (hw.cs [] [] rfl rfl) fun hC => ?_
   refine ho 7 rfl ?_
   refine sv hs (y_loadQA (j := 0) (hw.ownAt 0 rfl) rfl Try.isAgg46 Try.sizeOf46 h22 rfl rfl) rfl fun a hs => ?_
   refine h_nx (hw.cs [] [] rfl rfl) fun hC => ?_
   refine gv hs 12 rfl rfl hC (fun w hC => y_indexAt Try.runUnderlying27 Try.sizeOf46 rfl rfl h39.1 h39.2 h40) fun a hs => ?_
   refine ho 13 rfl ?_
   have h65 := hw.envAt 1 rfl
   refine w_storeF (α := Span) hs hw 0 rfl 2 rfl h40 rfl rfl Try.sizeOf46 rfl h45 ⟨_, _, rfl, rfl, rfl⟩ trivial ?_
   intro c47 a w hs hw
   have hw := hw.addE (e := LenA data1.length l46) (len_set (w := w) (S := S0) h65 h45)
   have h48 := setM_len h45
   try have hs := hs.fl 0 rfl h48
   try have hs := hs.fl 14 rfl h48
   try have hs := hs.fl 16 rfl h48
   try have hs := hs.fl 18 rfl h48
   try have hs := hs.fl 22 rfl h48
   refine h_nx (hw.cs [] [] rfl rfl) fun hC => ?_
   refine ho 14 rfl ?_
   obtain ⟨c56, h52, h57, h50⟩ := hw.elemRX (α := Span) 0 rfl 1 rfl h49
   obtain ⟨_, _, rfl, rfl, rfl⟩ := h50
   refine sv hs (y_indexAt Try.runUnderlying27 Try.sizeOf46 rfl rfl h52.1 h52.2 rfl) rfl fun a hs => ?_
   refine h_nx (hw.cs [] [] rfl rfl) fun hC => ?_
   refine ho 15 rfl ?_
   have h66 := hw.envAt 0 rfl
   refine w_storeF (α := Span) hs hw 0 rfl 1 rfl rfl rfl rfl Try.sizeOf46 rfl h58 ⟨_, _, rfl, rfl, rfl⟩ trivial ?_
   intro c60 a w hs hw
   have hw := hw.addE (e := LenA data1.length l59) (len_set (w := w) (S := S0) h66 h58)
   have h61 := setM_len h58
   try have hs := hs.fl 0 rfl h61
   try have hs := hs.fl 14 rfl h61
   try have hs := hs.fl 16 rfl h61
   try have hs := hs.fl 18 rfl h61
   try have hs := hs.fl 22 rfl h61
   refine h_nx (hw.cs [] [] rfl rfl) fun hC => ?_
   refine h_done (by kernel_rfl) ?_
   exact ⟨S0, c60, (hs.wk rfl), (hw.ft [0] [4, 1, 0] (by decide) rfl rfl)⟩
  exact AllH.nil
 rintro a w ⟨Sv62, c60, hs, hw⟩
 refine then_normal ?_
 refine sr ?_
 refine mv hs rfl rfl fun a hs => ?_
 refine sv hs (y_add rfl rfl) rfl fun a hs => ?_
 refine mv hs rfl rfl fun a hs => ?_
 refine sv hs (y_sub rfl rfl) rfl fun a hs => ?_
 obtain ⟨i68, h67, hsh⟩ := bind_t hsh
 refine sv hs (y_assignI rfl h67) rfl fun a hs => ?_
 obtain ⟨j70, h69, hsh⟩ := bind_t hsh
 refine sv hs (y_assignI rfl h69) rfl fun a hs => ?_
 refine nl ?_
 refine wp_seq ?_
 obtain ⟨e152, h1760, hsh⟩ := bind_t hsh
 refine wp_join (fun a w => ∃ (Sv153 : Nat → Prop), Sl 178 [(0, .slice (some ⟨b23, 0, none⟩) l59.length k3), (1, .int .i64 a6), (4, .func (.func g10) f11.toArray cp12.toArray), (12, .int .i64 e152), (13, .int .i64 j70)] a ∧ Wd ⟨w0, S0, blks [.row (some ⟨b23, 0, none⟩) data1.length k3 c4 46 2]⟩ Sv153 [.row (some ⟨b23, 0, none⟩) l59.length k3 c60 46 2] [FnA2 Try.prog g10 f11 cp12 cmp9, RowA c60 l59, LenA data1.length l59] w) ?_ ?_
 ·refine wp_block ?_
  refine wp_while (fun sv71 a w => ∃ (Sv123 : Nat → Prop), Sl 178 [(0, .slice (some ⟨b23, 0, none⟩) l59.length k3), (1, .int .i64 a6), (4, .func (.func g10) f11.toArray cp12.toArray), (12, .int .i64 sv71), (13, .int .i64 j70)] a ∧ Wd ⟨w0, S0, blks [.row (some ⟨b23, 0, none⟩) data1.length k3 c4 46 2]⟩ Sv123 [.row (some ⟨b23, 0, none⟩) l59.length k3 c60 46 2] [FnA2 Try.prog g10 f11 cp12 cmp9, RowA c60 l59, LenA data1.length l59] w) i68 h1760 ⟨Sv62, (hs.wk rfl), (hw.ft [0] [0, 1, 2] (by decide) rfl rfl)⟩ ?_
  clear h1760
  repeat clear hsh
  rintro sv71 a w tv150 ⟨Sv123, hs, hw⟩ hsh hd149
  delta slices_partitionCmpFunc_api_Span_l1 at hsh
  refine wp_seq ?_
  refine wp_seq ?_
  obtain ⟨c174, hc174, hsh⟩ := bind_t hsh
  refine wp_only (fun a w => ∃ (Sv175 : Nat → Prop), Sl 178 [(0, .slice (some ⟨b23, 0, none⟩) l59.length k3), (1, .int .i64 a6), (4, .func (.func g10) f11.toArray cp12.toArray), (12, .int .i64 sv71), (13, .int .i64 j70), (47, .bool c174)] a ∧ Wd ⟨w0, S0, blks [.row (some ⟨b23, 0, none⟩) data1.length k3 c4 46 2]⟩ Sv175 [.row (some ⟨b23, 0, none⟩) l59.length k3 c60 46 2] [FnA2 Try.prog g10 f11 cp12 cmp9, RowA c60 l59, LenA data1.length l59] w) ?_ ?_
  ·rcases Bool.eq_false_or_eq_true (decide (sv71 ≤ j70)) with h176 | h176
   ·have h177 := ite_t hc174 h176
    obtain ⟨x180, h178, h177⟩ := bind_t h177
    obtain ⟨q184, c185, h181, h182, h186, h179⟩ := hw.elemRK (α := Span) 0 rfl 1 rfl h178
    obtain ⟨_, _, rfl, rfl, rfl⟩ := h179
    obtain ⟨x189, h187, h177⟩ := bind_t h177
    obtain ⟨q193, c194, h190, h191, h195, h188⟩ := hw.elemRK (α := Span) 0 rfl 1 rfl h187
    obtain ⟨_, _, rfl, rfl, rfl⟩ := h188
    obtain ⟨rv197, h196, h177⟩ := bind_t h177
    refine h_b (C := Cls [.row (some ⟨b23, 0, none⟩) l59.length k3 c60 46 2] []) (by kernel_rfl) rfl (hw.drew.cs [0] [] rfl rfl) fun hC => ?_
    have hw := hw.drew
    refine gm hs 0 rfl rfl rfl hC fun a hs => ?_
    refine gm hs 1 rfl rfl rfl hC fun a hs => ?_
    refine gv hs 2 rfl rfl hC (fun w hC => y_leq rfl rfl) fun a hs => ?_
    refine gm hs 3 rfl rfl rfl hC fun a hs => ?_
    have hs := hs.fix 35 (.bool true) rfl (vb h176)
    refine gt hs 4 rfl ⟨_, rfl, rfl⟩ rfl hC (fun w hC => y_move rfl) fun a hs => ?_
    refine gt hs 5 rfl ⟨_, rfl, rfl⟩ rfl hC (fun w hC => y_move rfl) fun a hs => ?_
    refine gt hs 6 rfl ⟨_, rfl, rfl⟩ rfl hC (fun w hC => y_move rfl) fun a hs => ?_
    refine gt hs 7 rfl ⟨_, rfl, rfl⟩ rfl hC (fun w hC => y_indexAt Try.runUnderlying27 Try.sizeOf46 rfl rfl h181.1 h181.2 h182) fun a hs => ?_
    refine gt hs 8 rfl ⟨_, rfl, rfl⟩ rfl hC (fun w hC => y_loadQA (j := 0) (hC.ownAt 0 rfl) rfl Try.isAgg46 Try.sizeOf46 h186 rfl rfl) fun a hs => ?_
    refine gt hs 9 rfl ⟨_, rfl, rfl⟩ rfl hC (fun w hC => y_move rfl) fun a hs => ?_
    refine gt hs 10 rfl ⟨_, rfl, rfl⟩ rfl hC (fun w hC => y_move rfl) fun a hs => ?_
    refine gt hs 11 rfl ⟨_, rfl, rfl⟩ rfl hC (fun w hC => y_indexAt Try.runUnderlying27 Try.sizeOf46 rfl rfl h190.1 h190.2 h191) fun a hs => ?_
    refine gt hs 12 rfl ⟨_, rfl, rfl⟩ rfl hC (fun w hC => y_loadQA (j := 0) (hC.ownAt 0 rfl) rfl Try.isAgg46 Try.sizeOf46 h195 rfl rfl) fun a hs => ?_
    refine ho 13 rfl ?_
    refine st_callR hs ((hw.bE 0 rfl).2 Keep.rfl' hw.bdom ⟨_, _, rfl, rfl, rfl⟩ ⟨_, _, rfl, rfl, rfl⟩ h196) (do_callF (hw.bE 0 rfl).1 rfl rfl) ⟨_, rfl, rfl⟩ rfl rfl ?_
    intro v201 Sv198 w a h199 h200 hs
    subst h200
    have hw := hw.callB h199
    refine h_nx (hw.cs [0] [] rfl rfl) fun hC => ?_
    refine gt hs 14 rfl ⟨_, rfl, rfl⟩ rfl hC (fun w hC => y_lss rfl rfl) fun a hs => ?_
    refine gv hs 15 rfl rfl hC (fun w hC => y_pickTE (v := .bool c174) rfl rfl (vbs h177)) fun a hs => ?_
    refine h_done (by kernel_rfl) ?_
    exact ⟨Sv123, (hs.wk rfl), (hw.ft [0] [0, 1, 2] (by decide) rfl rfl)⟩
   have h202 := ite_f hc174 h176
   refine h_b (C := Cls [.row (some ⟨b23, 0, none⟩) l59.length k3 c60 46 2] []) (by kernel_rfl) rfl (hw.drew.cs [0] [] rfl rfl) fun hC => ?_
   have hw := hw.drew
   refine gm hs 0 rfl rfl rfl hC fun a hs => ?_
   refine gm hs 1 rfl rfl rfl hC fun a hs => ?_
   refine gv hs 2 rfl rfl hC (fun w hC => y_leq rfl rfl) fun a hs => ?_
   refine gm hs 3 rfl rfl rfl hC fun a hs => ?_
   have hs := hs.fix 35 (.bool false) rfl (vb h176)
   refine gs hs 4 rfl rfl rfl rfl hC fun a hs => ?_
   refine gs hs 5 rfl rfl rfl rfl hC fun a hs => ?_
   refine gs hs 6 rfl rfl rfl rfl hC fun a hs => ?_
   refine gs hs 7 rfl rfl rfl rfl hC fun a hs => ?_
   refine gs hs 8 rfl rfl rfl rfl hC fun a hs => ?_
   refine gs hs 9 rfl rfl rfl rfl hC fun a hs => ?_
   refine gs hs 10 rfl rfl rfl rfl hC fun a hs => ?_
   refine gs hs 11 rfl rfl rfl rfl hC fun a hs => ?_
   refine gs hs 12 rfl rfl rfl rfl hC fun a hs => ?_
   refine gs hs 13 rfl rfl rfl rfl hC fun a hs => ?_
   refine gs hs 14 rfl rfl rfl rfl hC fun a hs => ?_
   refine gv hs 15 rfl rfl hC (fun w hC => y_pickFE (v := .bool c174) rfl rfl (vbs h202)) fun a hs => ?_
   refine h_done (by kernel_rfl) ?_
   exact ⟨Sv123, (hs.wk rfl), (hw.ft [0] [0, 1, 2] (by decide) rfl rfl)⟩
  rintro a w ⟨Sv175, hs, hw⟩
  refine then_normal ?_
  refine wp_cond_split (hs.ev rfl) (fun h204 => ?_) (fun h204 => ?_)
  ·have hsh := ite_t hsh h204
   refine wp_skip ?_
   refine then_normal ?_
   refine wp_block ?_
   refine wp_region_lit ?_
   refine mv hs rfl rfl fun a hs => ?_
   refine sv hs (y_add rfl rfl) rfl fun a hs => ?_
   obtain ⟨i208, h207, hsh⟩ := bind_t hsh
   refine sv hs (y_assignI rfl h207) rfl fun a hs => ?_
   refine wpList_nil ?_
   refine blk_normal ?_
   refine then_normal ?_
   exact ⟨_, (Option.some.inj hsh).symm, Sv175, (hs.wk rfl), (hw.ft [0] [0, 1, 2] (by decide) rfl rfl)⟩
  have hsh := ite_f hsh h204
  refine wp_exit ?_
  refine then_exit ?_
  refine then_exit ?_
  refine blk_exit ?_
  have hsh := oi hsh
  subst hsh
  have h209 := hd149 _ rfl
  subst h209
  refine then_normal ?_
  exact ⟨Sv175, (hs.wk rfl), (hw.ft [0] [0, 1, 2] (by decide) rfl rfl)⟩
 rintro a w ⟨Sv153, hs, hw⟩
 refine then_normal ?_
 refine wp_seq ?_
 obtain ⟨e291, h1759, hsh⟩ := bind_t hsh
 refine wp_join (fun a w => ∃ (Sv292 : Nat → Prop), Sl 178 [(0, .slice (some ⟨b23, 0, none⟩) l59.length k3), (1, .int .i64 a6), (4, .func (.func g10) f11.toArray cp12.toArray), (12, .int .i64 e152), (13, .int .i64 e291)] a ∧ Wd ⟨w0, S0, blks [.row (some ⟨b23, 0, none⟩) data1.length k3 c4 46 2]⟩ Sv292 [.row (some ⟨b23, 0, none⟩) l59.length k3 c60 46 2] [FnA2 Try.prog g10 f11 cp12 cmp9, RowA c60 l59, LenA data1.length l59] w) ?_ ?_
 ·refine wp_block ?_
  refine wp_while (fun sv210 a w => ∃ (Sv262 : Nat → Prop), Sl 178 [(0, .slice (some ⟨b23, 0, none⟩) l59.length k3), (1, .int .i64 a6), (4, .func (.func g10) f11.toArray cp12.toArray), (12, .int .i64 e152), (13, .int .i64 sv210)] a ∧ Wd ⟨w0, S0, blks [.row (some ⟨b23, 0, none⟩) data1.length k3 c4 46 2]⟩ Sv262 [.row (some ⟨b23, 0, none⟩) l59.length k3 c60 46 2] [FnA2 Try.prog g10 f11 cp12 cmp9, RowA c60 l59, LenA data1.length l59] w) j70 h1759 ⟨Sv153, (hs.wk rfl), (hw.ft [0] [0, 1, 2] (by decide) rfl rfl)⟩ ?_
  clear h1759
  repeat clear hsh
  rintro sv210 a w tv289 ⟨Sv262, hs, hw⟩ hsh hd288
  delta slices_partitionCmpFunc_api_Span_l2 at hsh
  refine wp_seq ?_
  refine wp_seq ?_
  obtain ⟨c313, hc313, hsh⟩ := bind_t hsh
  refine wp_only (fun a w => ∃ (Sv314 : Nat → Prop), Sl 178 [(0, .slice (some ⟨b23, 0, none⟩) l59.length k3), (1, .int .i64 a6), (4, .func (.func g10) f11.toArray cp12.toArray), (12, .int .i64 e152), (13, .int .i64 sv210), (66, .bool c313)] a ∧ Wd ⟨w0, S0, blks [.row (some ⟨b23, 0, none⟩) data1.length k3 c4 46 2]⟩ Sv314 [.row (some ⟨b23, 0, none⟩) l59.length k3 c60 46 2] [FnA2 Try.prog g10 f11 cp12 cmp9, RowA c60 l59, LenA data1.length l59] w) ?_ ?_
  ·rcases Bool.eq_false_or_eq_true (decide (e152 ≤ sv210)) with h315 | h315
   ·have h316 := ite_t hc313 h315
    obtain ⟨x319, h317, h316⟩ := bind_t h316
    obtain ⟨q323, c324, h320, h321, h325, h318⟩ := hw.elemRK (α := Span) 0 rfl 1 rfl h317
    obtain ⟨_, _, rfl, rfl, rfl⟩ := h318
    obtain ⟨x328, h326, h316⟩ := bind_t h316
    obtain ⟨q332, c333, h329, h330, h334, h327⟩ := hw.elemRK (α := Span) 0 rfl 1 rfl h326
    obtain ⟨_, _, rfl, rfl, rfl⟩ := h327
    obtain ⟨rv336, h335, h316⟩ := bind_t h316
    refine h_b (C := Cls [.row (some ⟨b23, 0, none⟩) l59.length k3 c60 46 2] []) (by kernel_rfl) rfl (hw.drew.cs [0] [] rfl rfl) fun hC => ?_
    have hw := hw.drew
    refine gm hs 0 rfl rfl rfl hC fun a hs => ?_
    refine gm hs 1 rfl rfl rfl hC fun a hs => ?_
    refine gv hs 2 rfl rfl hC (fun w hC => y_leq rfl rfl) fun a hs => ?_
    refine gm hs 3 rfl rfl rfl hC fun a hs => ?_
    have hs := hs.fix 53 (.bool true) rfl (vb h315)
    refine gt hs 4 rfl ⟨_, rfl, rfl⟩ rfl hC (fun w hC => y_move rfl) fun a hs => ?_
    refine gt hs 5 rfl ⟨_, rfl, rfl⟩ rfl hC (fun w hC => y_move rfl) fun a hs => ?_
    refine gt hs 6 rfl ⟨_, rfl, rfl⟩ rfl hC (fun w hC => y_move rfl) fun a hs => ?_
    refine gt hs 7 rfl ⟨_, rfl, rfl⟩ rfl hC (fun w hC => y_indexAt Try.runUnderlying27 Try.sizeOf46 rfl rfl h320.1 h320.2 h321) fun a hs => ?_
    refine gt hs 8 rfl ⟨_, rfl, rfl⟩ rfl hC (fun w hC => y_loadQA (j := 0) (hC.ownAt 0 rfl) rfl Try.isAgg46 Try.sizeOf46 h325 rfl rfl) fun a hs => ?_
    refine gt hs 9 rfl ⟨_, rfl, rfl⟩ rfl hC (fun w hC => y_move rfl) fun a hs => ?_
    refine gt hs 10 rfl ⟨_, rfl, rfl⟩ rfl hC (fun w hC => y_move rfl) fun a hs => ?_
    refine gt hs 11 rfl ⟨_, rfl, rfl⟩ rfl hC (fun w hC => y_indexAt Try.runUnderlying27 Try.sizeOf46 rfl rfl h329.1 h329.2 h330) fun a hs => ?_
    refine gt hs 12 rfl ⟨_, rfl, rfl⟩ rfl hC (fun w hC => y_loadQA (j := 0) (hC.ownAt 0 rfl) rfl Try.isAgg46 Try.sizeOf46 h334 rfl rfl) fun a hs => ?_
    refine ho 13 rfl ?_
    refine st_callR hs ((hw.bE 0 rfl).2 Keep.rfl' hw.bdom ⟨_, _, rfl, rfl, rfl⟩ ⟨_, _, rfl, rfl, rfl⟩ h335) (do_callF (hw.bE 0 rfl).1 rfl rfl) ⟨_, rfl, rfl⟩ rfl rfl ?_
    intro v340 Sv337 w a h338 h339 hs
    subst h339
    have hw := hw.callB h338
    refine h_nx (hw.cs [0] [] rfl rfl) fun hC => ?_
    refine gt hs 14 rfl ⟨_, rfl, rfl⟩ rfl hC (fun w hC => y_lss rfl rfl) fun a hs => ?_
    refine gt hs 15 rfl ⟨_, rfl, rfl⟩ rfl hC (fun w hC => y_not rfl) fun a hs => ?_
    refine gv hs 16 rfl rfl hC (fun w hC => y_pickTE (v := .bool c313) rfl rfl (vbs h316)) fun a hs => ?_
    refine h_done (by kernel_rfl) ?_
    exact ⟨Sv262, (hs.wk rfl), (hw.ft [0] [0, 1, 2] (by decide) rfl rfl)⟩
   have h341 := ite_f hc313 h315
   refine h_b (C := Cls [.row (some ⟨b23, 0, none⟩) l59.length k3 c60 46 2] []) (by kernel_rfl) rfl (hw.drew.cs [0] [] rfl rfl) fun hC => ?_
   have hw := hw.drew
   refine gm hs 0 rfl rfl rfl hC fun a hs => ?_
   refine gm hs 1 rfl rfl rfl hC fun a hs => ?_
   refine gv hs 2 rfl rfl hC (fun w hC => y_leq rfl rfl) fun a hs => ?_
   refine gm hs 3 rfl rfl rfl hC fun a hs => ?_
   have hs := hs.fix 53 (.bool false) rfl (vb h315)
   refine gs hs 4 rfl rfl rfl rfl hC fun a hs => ?_
   refine gs hs 5 rfl rfl rfl rfl hC fun a hs => ?_
   refine gs hs 6 rfl rfl rfl rfl hC fun a hs => ?_
   refine gs hs 7 rfl rfl rfl rfl hC fun a hs => ?_
   refine gs hs 8 rfl rfl rfl rfl hC fun a hs => ?_
   refine gs hs 9 rfl rfl rfl rfl hC fun a hs => ?_
   refine gs hs 10 rfl rfl rfl rfl hC fun a hs => ?_
   refine gs hs 11 rfl rfl rfl rfl hC fun a hs => ?_
   refine gs hs 12 rfl rfl rfl rfl hC fun a hs => ?_
   refine gs hs 13 rfl rfl rfl rfl hC fun a hs => ?_
   refine gs hs 14 rfl rfl rfl rfl hC fun a hs => ?_
   refine gs hs 15 rfl rfl rfl rfl hC fun a hs => ?_
   refine gv hs 16 rfl rfl hC (fun w hC => y_pickFE (v := .bool c313) rfl rfl (vbs h341)) fun a hs => ?_
   refine h_done (by kernel_rfl) ?_
   exact ⟨Sv262, (hs.wk rfl), (hw.ft [0] [0, 1, 2] (by decide) rfl rfl)⟩
  rintro a w ⟨Sv314, hs, hw⟩
  refine then_normal ?_
  refine wp_cond_split (hs.ev rfl) (fun h343 => ?_) (fun h343 => ?_)
  ·have hsh := ite_t hsh h343
   refine wp_skip ?_
   refine then_normal ?_
   refine wp_block ?_
   refine wp_region_lit ?_
   refine mv hs rfl rfl fun a hs => ?_
   refine sv hs (y_sub rfl rfl) rfl fun a hs => ?_
   obtain ⟨j347, h346, hsh⟩ := bind_t hsh
   refine sv hs (y_assignI rfl h346) rfl fun a hs => ?_
   refine wpList_nil ?_
   refine blk_normal ?_
   refine then_normal ?_
   exact ⟨_, (Option.some.inj hsh).symm, Sv314, (hs.wk rfl), (hw.ft [0] [0, 1, 2] (by decide) rfl rfl)⟩
  have hsh := ite_f hsh h343
  refine wp_exit ?_
  refine then_exit ?_
  refine then_exit ?_
  refine blk_exit ?_
  have hsh := oi hsh
  subst hsh
  have h348 := hd288 _ rfl
  subst h348
  refine then_normal ?_
  exact ⟨Sv314, (hs.wk rfl), (hw.ft [0] [0, 1, 2] (by decide) rfl rfl)⟩
 rintro a w ⟨Sv292, hs, hw⟩
 refine then_normal ?_
 refine wp_seq ?_
 refine sr ?_
 refine mv hs rfl rfl fun a hs => ?_
 refine mv hs rfl rfl fun a hs => ?_
 refine sv hs (y_gtr rfl rfl) rfl fun a hs => ?_
 refine nl ?_
 refine wp_cond_split (hs.ev rfl) (fun h395 => ?_) (fun h395 => ?_)
 ·have hsh := ite_t hsh h395
  refine wp_seq ?_
  obtain ⟨x398, h396, hsh⟩ := bind_t hsh
  obtain ⟨q402, c403, h399, h400, h404, h397⟩ := hw.elemRK (α := Span) 0 rfl 1 rfl h396
  obtain ⟨_, _, rfl, rfl, rfl⟩ := h397
  obtain ⟨x407, h405, hsh⟩ := bind_t hsh
  obtain ⟨q411, c412, h408, h409, h413, h406⟩ := hw.elemRK (α := Span) 0 rfl 1 rfl h405
  obtain ⟨_, _, rfl, rfl, rfl⟩ := h406
  obtain ⟨x416, h414, hsh⟩ := bind_t hsh
  obtain ⟨q420, c421, h417, h418, h422, h415⟩ := hw.elemRK (α := Span) 0 rfl 1 rfl h414
  obtain ⟨_, _, rfl, rfl, rfl⟩ := h415
  obtain ⟨l424, h423, hsh⟩ := bind_t hsh
  obtain ⟨x429, h427, hsh⟩ := bind_t hsh
  obtain ⟨l437, h436, hsh⟩ := bind_t hsh
  refine wp_only (fun a w => ∃ (Sv440 : Nat → Prop) (c438 : List Value), Sl 178 [(13, .int .i64 e291)] a ∧ Wd ⟨w0, S0, blks [.row (some ⟨b23, 0, none⟩) data1.length k3 c4 46 2]⟩ Sv440 [.row (some ⟨b23, 0, none⟩) l437.length k3 c438 46 2] [RowA c438 l437, LenA data1.length l437] w) ?_ ?_
  ·refine h_b (C := Cls [] []) (by kernel_rfl) rfl (hw.drew.cs [] [] rfl rfl) fun hC => ?_
   have hw := hw.drew
   refine gm hs 0 rfl rfl rfl hC fun a hs => ?_
   refine gm hs 1 rfl rfl rfl hC fun a hs => ?_
   refine gm hs 2 rfl rfl rfl hC fun a hs => ?_
   refine gm hs 3 rfl rfl rfl hC fun a hs => ?_
   refine gm hs 4 rfl rfl rfl hC fun a hs => ?_
   refine gm hs 5 rfl rfl rfl hC fun a hs => ?_
   refine gv hs 6 rfl rfl hC (fun w hC => y_indexAt Try.runUnderlying27 Try.sizeOf46 rfl rfl h399.1 h399.2 h400) fun a hs => ?_
   refine gm hs 8 rfl rfl rfl hC fun a hs => ?_
   refine gm hs 9 rfl rfl rfl hC fun a hs => ?_
   refine gv hs 10 rfl rfl hC (fun w hC => y_indexAt Try.runUnderlying27 Try.sizeOf46 rfl rfl h408.1 h408.2 h409) fun a hs => ?_
   refine h_all (rs := [7, 11]) (by kernel_rfl) rfl ?_
   refine AllH.cons rfl ?_ ?_
   ·refine sv hs (y_loadQA (j := 0) (hw.ownAt 0 rfl) rfl Try.isAgg46 Try.sizeOf46 h404 rfl rfl) rfl fun a hs => ?_
    refine h_nx (hw.cs [] [] rfl rfl) fun hC => ?_
    refine ho 11 rfl ?_
    refine sv hs (y_loadQA (j := 0) (hw.ownAt 0 rfl) rfl Try.isAgg46 Try.sizeOf46 h413 rfl rfl) rfl fun a hs => ?_
    refine h_nx (hw.cs [] [] rfl rfl) fun hC => ?_
    refine gv hs 12 rfl rfl hC (fun w hC => y_indexAt Try.runUnderlying27 Try.sizeOf46 rfl rfl h417.1 h417.2 h418) fun a hs => ?_
    refine ho 13 rfl ?_
    have h441 := hw.envAt 2 rfl
    refine w_storeF (α := Span) hs hw 0 rfl 1 rfl h418 rfl rfl Try.sizeOf46 rfl h423 ⟨_, _, rfl, rfl, rfl⟩ trivial ?_
    intro c425 a w hs hw
    have hw := hw.addE (e := LenA data1.length l424) (len_set (w := w) (S := S0) h441 h423)
    have h426 := setM_len h423
    try have hs := hs.fl 0 rfl h426
    try have hs := hs.fl 72 rfl h426
    try have hs := hs.fl 74 rfl h426
    try have hs := hs.fl 76 rfl h426
    try have hs := hs.fl 80 rfl h426
    refine h_nx (hw.cs [] [] rfl rfl) fun hC => ?_
    refine ho 14 rfl ?_
    obtain ⟨c434, h430, h435, h428⟩ := hw.elemRX (α := Span) 0 rfl 1 rfl h427
    obtain ⟨_, _, rfl, rfl, rfl⟩ := h428
    refine sv hs (y_indexAt Try.runUnderlying27 Try.sizeOf46 rfl rfl h430.1 h430.2 rfl) rfl fun a hs => ?_
    refine h_nx (hw.cs [] [] rfl rfl) fun hC => ?_
    refine ho 15 rfl ?_
    have h442 := hw.envAt 0 rfl
    refine w_storeF (α := Span) hs hw 0 rfl 1 rfl rfl rfl rfl Try.sizeOf46 rfl h436 ⟨_, _, rfl, rfl, rfl⟩ trivial ?_
    intro c438 a w hs hw
    have hw := hw.addE (e := LenA data1.length l437) (len_set (w := w) (S := S0) h442 h436)
    have h439 := setM_len h436
    try have hs := hs.fl 0 rfl h439
    try have hs := hs.fl 72 rfl h439
    try have hs := hs.fl 74 rfl h439
    try have hs := hs.fl 76 rfl h439
    try have hs := hs.fl 80 rfl h439
    refine h_nx (hw.cs [] [] rfl rfl) fun hC => ?_
    refine h_done (by kernel_rfl) ?_
    exact ⟨Sv292, c438, (hs.wk rfl), (hw.ft [0] [1, 0] (by decide) rfl rfl)⟩
   refine AllH.cons rfl ?_ ?_
   ·refine sv hs (y_loadQA (j := 0) (hw.ownAt 0 rfl) rfl Try.isAgg46 Try.sizeOf46 h413 rfl rfl) rfl fun a hs => ?_
    refine h_nx (hw.cs [] [] rfl rfl) fun hC => ?_
    refine ho 7 rfl ?_
    refine sv hs (y_loadQA (j := 0) (hw.ownAt 0 rfl) rfl Try.isAgg46 Try.sizeOf46 h404 rfl rfl) rfl fun a hs => ?_
    refine h_nx (hw.cs [] [] rfl rfl) fun hC => ?_
    refine gv hs 12 rfl rfl hC (fun w hC => y_indexAt Try.runUnderlying27 Try.sizeOf46 rfl rfl h417.1 h417.2 h418) fun a hs => ?_
    refine ho 13 rfl ?_
    have h443 := hw.envAt 2 rfl
    refine w_storeF (α := Span) hs hw 0 rfl 1 rfl h418 rfl rfl Try.sizeOf46 rfl h423 ⟨_, _, rfl, rfl, rfl⟩ trivial ?_
    intro c425 a w hs hw
    have hw := hw.addE (e := LenA data1.length l424) (len_set (w := w) (S := S0) h443 h423)
    have h426 := setM_len h423
    try have hs := hs.fl 0 rfl h426
    try have hs := hs.fl 72 rfl h426
    try have hs := hs.fl 74 rfl h426
    try have hs := hs.fl 76 rfl h426
    try have hs := hs.fl 80 rfl h426
    refine h_nx (hw.cs [] [] rfl rfl) fun hC => ?_
    refine ho 14 rfl ?_
    obtain ⟨c434, h430, h435, h428⟩ := hw.elemRX (α := Span) 0 rfl 1 rfl h427
    obtain ⟨_, _, rfl, rfl, rfl⟩ := h428
    refine sv hs (y_indexAt Try.runUnderlying27 Try.sizeOf46 rfl rfl h430.1 h430.2 rfl) rfl fun a hs => ?_
    refine h_nx (hw.cs [] [] rfl rfl) fun hC => ?_
    refine ho 15 rfl ?_
    have h444 := hw.envAt 0 rfl
    refine w_storeF (α := Span) hs hw 0 rfl 1 rfl rfl rfl rfl Try.sizeOf46 rfl h436 ⟨_, _, rfl, rfl, rfl⟩ trivial ?_
    intro c438 a w hs hw
    have hw := hw.addE (e := LenA data1.length l437) (len_set (w := w) (S := S0) h444 h436)
    have h439 := setM_len h436
    try have hs := hs.fl 0 rfl h439
    try have hs := hs.fl 72 rfl h439
    try have hs := hs.fl 74 rfl h439
    try have hs := hs.fl 76 rfl h439
    try have hs := hs.fl 80 rfl h439
    refine h_nx (hw.cs [] [] rfl rfl) fun hC => ?_
    refine h_done (by kernel_rfl) ?_
    exact ⟨Sv292, c438, (hs.wk rfl), (hw.ft [0] [1, 0] (by decide) rfl rfl)⟩
   exact AllH.nil
  rintro a w ⟨Sv440, c438, hs, hw⟩
  refine then_normal ?_
  refine sr ?_
  refine mv hs rfl rfl fun a hs => ?_
  refine av hs rfl rfl fun a hs => ?_
  refine av hs rfl rfl fun a hs => ?_
  refine nl ?_
  have hsh := oi hsh
  subst hsh
  refine wp_ret ?_
  refine then_ret ?_
  exact ret2 hs rfl (rv_tmp rfl) (rv_tmp rfl) (hw.ret ⟨c438, rfl, (hw.outs [0] (by decide) rfl), (hw.envAt 0 rfl), (hw.envAt 1 rfl)⟩)
 have hsh := ite_f hsh h395
 refine wp_skip ?_
 refine then_normal ?_
 refine wp_seq ?_
 obtain ⟨x447, h445, hsh⟩ := bind_t hsh
 obtain ⟨q451, c452, h448, h449, h453, h446⟩ := hw.elemRK (α := Span) 0 rfl 1 rfl h445
 obtain ⟨_, _, rfl, rfl, rfl⟩ := h446
 obtain ⟨x456, h454, hsh⟩ := bind_t hsh
 obtain ⟨q460, c461, h457, h458, h462, h455⟩ := hw.elemRK (α := Span) 0 rfl 1 rfl h454
 obtain ⟨_, _, rfl, rfl, rfl⟩ := h455
 obtain ⟨x465, h463, hsh⟩ := bind_t hsh
 obtain ⟨q469, c470, h466, h467, h471, h464⟩ := hw.elemRK (α := Span) 0 rfl 1 rfl h463
 obtain ⟨_, _, rfl, rfl, rfl⟩ := h464
 obtain ⟨l473, h472, hsh⟩ := bind_t hsh
 obtain ⟨x478, h476, hsh⟩ := bind_t hsh
 obtain ⟨l486, h485, hsh⟩ := bind_t hsh
 refine wp_only (fun a w => ∃ (Sv489 : Nat → Prop) (c487 : List Value), Sl 178 [(0, .slice (some ⟨b23, 0, none⟩) l486.length k3), (1, .int .i64 a6), (4, .func (.func g10) f11.toArray cp12.toArray), (12, .int .i64 e152), (13, .int .i64 e291)] a ∧ Wd ⟨w0, S0, blks [.row (some ⟨b23, 0, none⟩) data1.length k3 c4 46 2]⟩ Sv489 [.row (some ⟨b23, 0, none⟩) l486.length k3 c487 46 2] [FnA2 Try.prog g10 f11 cp12 cmp9, RowA c487 l486, LenA data1.length l486] w) ?_ ?_
 ·refine h_b (C := Cls [] []) (by kernel_rfl) rfl (hw.drew.cs [] [] rfl rfl) fun hC => ?_
  have hw := hw.drew
  refine gm hs 0 rfl rfl rfl hC fun a hs => ?_
  refine gm hs 1 rfl rfl rfl hC fun a hs => ?_
  refine gm hs 2 rfl rfl rfl hC fun a hs => ?_
  refine gm hs 3 rfl rfl rfl hC fun a hs => ?_
  refine gm hs 4 rfl rfl rfl hC fun a hs => ?_
  refine gm hs 5 rfl rfl rfl hC fun a hs => ?_
  refine gv hs 6 rfl rfl hC (fun w hC => y_indexAt Try.runUnderlying27 Try.sizeOf46 rfl rfl h448.1 h448.2 h449) fun a hs => ?_
  refine gm hs 8 rfl rfl rfl hC fun a hs => ?_
  refine gm hs 9 rfl rfl rfl hC fun a hs => ?_
  refine gv hs 10 rfl rfl hC (fun w hC => y_indexAt Try.runUnderlying27 Try.sizeOf46 rfl rfl h457.1 h457.2 h458) fun a hs => ?_
  refine h_all (rs := [7, 11]) (by kernel_rfl) rfl ?_
  refine AllH.cons rfl ?_ ?_
  ·refine sv hs (y_loadQA (j := 0) (hw.ownAt 0 rfl) rfl Try.isAgg46 Try.sizeOf46 h453 rfl rfl) rfl fun a hs => ?_
   refine h_nx (hw.cs [] [] rfl rfl) fun hC => ?_
   refine ho 11 rfl ?_
   refine sv hs (y_loadQA (j := 0) (hw.ownAt 0 rfl) rfl Try.isAgg46 Try.sizeOf46 h462 rfl rfl) rfl fun a hs => ?_
   refine h_nx (hw.cs [] [] rfl rfl) fun hC => ?_
   refine gv hs 12 rfl rfl hC (fun w hC => y_indexAt Try.runUnderlying27 Try.sizeOf46 rfl rfl h466.1 h466.2 h467) fun a hs => ?_
   refine ho 13 rfl ?_
   have h490 := hw.envAt 2 rfl
   refine w_storeF (α := Span) hs hw 0 rfl 1 rfl h467 rfl rfl Try.sizeOf46 rfl h472 ⟨_, _, rfl, rfl, rfl⟩ trivial ?_
   intro c474 a w hs hw
   have hw := hw.addE (e := LenA data1.length l473) (len_set (w := w) (S := S0) h490 h472)
   have h475 := setM_len h472
   try have hs := hs.fl 0 rfl h475
   try have hs := hs.fl 87 rfl h475
   try have hs := hs.fl 89 rfl h475
   try have hs := hs.fl 91 rfl h475
   try have hs := hs.fl 95 rfl h475
   refine h_nx (hw.cs [] [] rfl rfl) fun hC => ?_
   refine ho 14 rfl ?_
   obtain ⟨c483, h479, h484, h477⟩ := hw.elemRX (α := Span) 0 rfl 1 rfl h476
   obtain ⟨_, _, rfl, rfl, rfl⟩ := h477
   refine sv hs (y_indexAt Try.runUnderlying27 Try.sizeOf46 rfl rfl h479.1 h479.2 rfl) rfl fun a hs => ?_
   refine h_nx (hw.cs [] [] rfl rfl) fun hC => ?_
   refine ho 15 rfl ?_
   have h491 := hw.envAt 0 rfl
   refine w_storeF (α := Span) hs hw 0 rfl 1 rfl rfl rfl rfl Try.sizeOf46 rfl h485 ⟨_, _, rfl, rfl, rfl⟩ trivial ?_
   intro c487 a w hs hw
   have hw := hw.addE (e := LenA data1.length l486) (len_set (w := w) (S := S0) h491 h485)
   have h488 := setM_len h485
   try have hs := hs.fl 0 rfl h488
   try have hs := hs.fl 87 rfl h488
   try have hs := hs.fl 89 rfl h488
   try have hs := hs.fl 91 rfl h488
   try have hs := hs.fl 95 rfl h488
   refine h_nx (hw.cs [] [] rfl rfl) fun hC => ?_
   refine h_done (by kernel_rfl) ?_
   exact ⟨Sv292, c487, (hs.wk rfl), (hw.ft [0] [4, 1, 0] (by decide) rfl rfl)⟩
  refine AllH.cons rfl ?_ ?_
  ·refine sv hs (y_loadQA (j := 0) (hw.ownAt 0 rfl) rfl Try.isAgg46 Try.sizeOf46 h462 rfl rfl) rfl fun a hs => ?_
   refine h_nx (hw.cs [] [] rfl rfl) fun hC => ?_
   refine ho 7 rfl ?_
   refine sv hs (y_loadQA (j := 0) (hw.ownAt 0 rfl) rfl Try.isAgg46 Try.sizeOf46 h453 rfl rfl) rfl fun a hs => ?_
   refine h_nx (hw.cs [] [] rfl rfl) fun hC => ?_
   refine gv hs 12 rfl rfl hC (fun w hC => y_indexAt Try.runUnderlying27 Try.sizeOf46 rfl rfl h466.1 h466.2 h467) fun a hs => ?_
   refine ho 13 rfl ?_
   have h492 := hw.envAt 2 rfl
   refine w_storeF (α := Span) hs hw 0 rfl 1 rfl h467 rfl rfl Try.sizeOf46 rfl h472 ⟨_, _, rfl, rfl, rfl⟩ trivial ?_
   intro c474 a w hs hw
   have hw := hw.addE (e := LenA data1.length l473) (len_set (w := w) (S := S0) h492 h472)
   have h475 := setM_len h472
   try have hs := hs.fl 0 rfl h475
   try have hs := hs.fl 87 rfl h475
   try have hs := hs.fl 89 rfl h475
   try have hs := hs.fl 91 rfl h475
   try have hs := hs.fl 95 rfl h475
   refine h_nx (hw.cs [] [] rfl rfl) fun hC => ?_
   refine ho 14 rfl ?_
   obtain ⟨c483, h479, h484, h477⟩ := hw.elemRX (α := Span) 0 rfl 1 rfl h476
   obtain ⟨_, _, rfl, rfl, rfl⟩ := h477
   refine sv hs (y_indexAt Try.runUnderlying27 Try.sizeOf46 rfl rfl h479.1 h479.2 rfl) rfl fun a hs => ?_
   refine h_nx (hw.cs [] [] rfl rfl) fun hC => ?_
   refine ho 15 rfl ?_
   have h493 := hw.envAt 0 rfl
   refine w_storeF (α := Span) hs hw 0 rfl 1 rfl rfl rfl rfl Try.sizeOf46 rfl h485 ⟨_, _, rfl, rfl, rfl⟩ trivial ?_
   intro c487 a w hs hw
   have hw := hw.addE (e := LenA data1.length l486) (len_set (w := w) (S := S0) h493 h485)
   have h488 := setM_len h485
   try have hs := hs.fl 0 rfl h488
   try have hs := hs.fl 87 rfl h488
   try have hs := hs.fl 89 rfl h488
   try have hs := hs.fl 91 rfl h488
   try have hs := hs.fl 95 rfl h488
   refine h_nx (hw.cs [] [] rfl rfl) fun hC => ?_
   refine h_done (by kernel_rfl) ?_
   exact ⟨Sv292, c487, (hs.wk rfl), (hw.ft [0] [4, 1, 0] (by decide) rfl rfl)⟩
  exact AllH.nil
 rintro a w ⟨Sv489, c487, hs, hw⟩
 refine then_normal ?_
 refine sr ?_
 refine mv hs rfl rfl fun a hs => ?_
 refine sv hs (y_add rfl rfl) rfl fun a hs => ?_
 obtain ⟨i495, h494, hsh⟩ := bind_t hsh
 refine sv hs (y_assignI rfl h494) rfl fun a hs => ?_
 refine nl ?_
 refine sr ?_
 refine mv hs rfl rfl fun a hs => ?_
 refine sv hs (y_sub rfl rfl) rfl fun a hs => ?_
 obtain ⟨j497, h496, hsh⟩ := bind_t hsh
 refine sv hs (y_assignI rfl h496) rfl fun a hs => ?_
 refine nl ?_
 refine wp_seq ?_
 obtain ⟨e1154, h1758, hsh⟩ := bind_t hsh
 refine wp_join (fun a w => ∃ (c1155 : List Value) (Sv1156 : Nat → Prop), Sl 178 [(0, .slice (some ⟨b23, 0, none⟩) e1154.1.length k3), (1, .int .i64 a6), (13, .int .i64 e1154.2)] a ∧ Wd ⟨w0, S0, blks [.row (some ⟨b23, 0, none⟩) data1.length k3 c4 46 2]⟩ Sv1156 [.row (some ⟨b23, 0, none⟩) e1154.1.length k3 c1155 46 2] [RowA c1155 e1154.1, LenA data1.length e1154.1] w) ?_ ?_
 ·refine wp_block ?_
  refine wp_while (fun sv498 a w => ∃ (c933 : List Value) (Sv934 : Nat → Prop), Sl 178 [(0, .slice (some ⟨b23, 0, none⟩) sv498.1.length k3), (1, .int .i64 a6), (4, .func (.func g10) f11.toArray cp12.toArray), (12, .int .i64 sv498.2.1), (13, .int .i64 sv498.2.2)] a ∧ Wd ⟨w0, S0, blks [.row (some ⟨b23, 0, none⟩) data1.length k3 c4 46 2]⟩ Sv934 [.row (some ⟨b23, 0, none⟩) sv498.1.length k3 c933 46 2] [FnA2 Try.prog g10 f11 cp12 cmp9, RowA c933 sv498.1, LenA data1.length sv498.1] w) (l486, i495, j497) h1758 ⟨c487, Sv489, (hs.wk rfl), (hw.ft [0] [0, 1, 2] (by decide) rfl rfl)⟩ ?_
  clear h1758
  repeat clear hsh
  rintro sv498 a w tv1152 ⟨c933, Sv934, hs, hw⟩ hsh hd1151
  delta slices_partitionCmpFunc_api_Span_l7 at hsh
  refine wp_block ?_
  refine wp_seq ?_
  obtain ⟨e1454, h1708, hsh⟩ := bind_t hsh
  refine wp_join (fun a w => ∃ (Sv1455 : Nat → Prop), Sl 178 [(0, .slice (some ⟨b23, 0, none⟩) sv498.1.length k3), (1, .int .i64 a6), (4, .func (.func g10) f11.toArray cp12.toArray), (12, .int .i64 e1454), (13, .int .i64 sv498.2.2)] a ∧ Wd ⟨w0, S0, blks [.row (some ⟨b23, 0, none⟩) data1.length k3 c4 46 2]⟩ Sv1455 [.row (some ⟨b23, 0, none⟩) sv498.1.length k3 c933 46 2] [FnA2 Try.prog g10 f11 cp12 cmp9, RowA c933 sv498.1, LenA data1.length sv498.1] w) ?_ ?_
  ·refine wp_block ?_
   refine wp_while (fun sv1373 a w => ∃ (Sv1425 : Nat → Prop), Sl 178 [(0, .slice (some ⟨b23, 0, none⟩) sv498.1.length k3), (1, .int .i64 a6), (4, .func (.func g10) f11.toArray cp12.toArray), (12, .int .i64 sv1373), (13, .int .i64 sv498.2.2)] a ∧ Wd ⟨w0, S0, blks [.row (some ⟨b23, 0, none⟩) data1.length k3 c4 46 2]⟩ Sv1425 [.row (some ⟨b23, 0, none⟩) sv498.1.length k3 c933 46 2] [FnA2 Try.prog g10 f11 cp12 cmp9, RowA c933 sv498.1, LenA data1.length sv498.1] w) sv498.2.1 h1708 ⟨Sv934, (hs.wk rfl), (hw.ft [0] [0, 1, 2] (by decide) rfl rfl)⟩ ?_
   clear h1708
   repeat clear hsh
   rintro sv1373 a w tv1452 ⟨Sv1425, hs, hw⟩ hsh hd1451
   delta slices_partitionCmpFunc_api_Span_l12 at hsh
   refine wp_seq ?_
   refine wp_seq ?_
   obtain ⟨c1476, hc1476, hsh⟩ := bind_t hsh
   refine wp_only (fun a w => ∃ (Sv1477 : Nat → Prop), Sl 178 [(0, .slice (some ⟨b23, 0, none⟩) sv498.1.length k3), (1, .int .i64 a6), (4, .func (.func g10) f11.toArray cp12.toArray), (12, .int .i64 sv1373), (13, .int .i64 sv498.2.2), (120, .bool c1476)] a ∧ Wd ⟨w0, S0, blks [.row (some ⟨b23, 0, none⟩) data1.length k3 c4 46 2]⟩ Sv1477 [.row (some ⟨b23, 0, none⟩) sv498.1.length k3 c933 46 2] [FnA2 Try.prog g10 f11 cp12 cmp9, RowA c933 sv498.1, LenA data1.length sv498.1] w) ?_ ?_
   ·rcases Bool.eq_false_or_eq_true (decide (sv1373 ≤ sv498.2.2)) with h1478 | h1478
    ·have h1479 := ite_t hc1476 h1478
     obtain ⟨x1482, h1480, h1479⟩ := bind_t h1479
     obtain ⟨q1486, c1487, h1483, h1484, h1488, h1481⟩ := hw.elemRK (α := Span) 0 rfl 1 rfl h1480
     obtain ⟨_, _, rfl, rfl, rfl⟩ := h1481
     obtain ⟨x1491, h1489, h1479⟩ := bind_t h1479
     obtain ⟨q1495, c1496, h1492, h1493, h1497, h1490⟩ := hw.elemRK (α := Span) 0 rfl 1 rfl h1489
     obtain ⟨_, _, rfl, rfl, rfl⟩ := h1490
     obtain ⟨rv1499, h1498, h1479⟩ := bind_t h1479
     refine h_b (C := Cls [.row (some ⟨b23, 0, none⟩) sv498.1.length k3 c933 46 2] []) (by kernel_rfl) rfl (hw.drew.cs [0] [] rfl rfl) fun hC => ?_
     have hw := hw.drew
     refine gm hs 0 rfl rfl rfl hC fun a hs => ?_
     refine gm hs 1 rfl rfl rfl hC fun a hs => ?_
     refine gv hs 2 rfl rfl hC (fun w hC => y_leq rfl rfl) fun a hs => ?_
     refine gm hs 3 rfl rfl rfl hC fun a hs => ?_
     have hs := hs.fix 108 (.bool true) rfl (vb h1478)
     refine gt hs 4 rfl ⟨_, rfl, rfl⟩ rfl hC (fun w hC => y_move rfl) fun a hs => ?_
     refine gt hs 5 rfl ⟨_, rfl, rfl⟩ rfl hC (fun w hC => y_move rfl) fun a hs => ?_
     refine gt hs 6 rfl ⟨_, rfl, rfl⟩ rfl hC (fun w hC => y_move rfl) fun a hs => ?_
     refine gt hs 7 rfl ⟨_, rfl, rfl⟩ rfl hC (fun w hC => y_indexAt Try.runUnderlying27 Try.sizeOf46 rfl rfl h1483.1 h1483.2 h1484) fun a hs => ?_
     refine gt hs 8 rfl ⟨_, rfl, rfl⟩ rfl hC (fun w hC => y_loadQA (j := 0) (hC.ownAt 0 rfl) rfl Try.isAgg46 Try.sizeOf46 h1488 rfl rfl) fun a hs => ?_
     refine gt hs 9 rfl ⟨_, rfl, rfl⟩ rfl hC (fun w hC => y_move rfl) fun a hs => ?_
     refine gt hs 10 rfl ⟨_, rfl, rfl⟩ rfl hC (fun w hC => y_move rfl) fun a hs => ?_
     refine gt hs 11 rfl ⟨_, rfl, rfl⟩ rfl hC (fun w hC => y_indexAt Try.runUnderlying27 Try.sizeOf46 rfl rfl h1492.1 h1492.2 h1493) fun a hs => ?_
     refine gt hs 12 rfl ⟨_, rfl, rfl⟩ rfl hC (fun w hC => y_loadQA (j := 0) (hC.ownAt 0 rfl) rfl Try.isAgg46 Try.sizeOf46 h1497 rfl rfl) fun a hs => ?_
     refine ho 13 rfl ?_
     refine st_callR hs ((hw.bE 0 rfl).2 Keep.rfl' hw.bdom ⟨_, _, rfl, rfl, rfl⟩ ⟨_, _, rfl, rfl, rfl⟩ h1498) (do_callF (hw.bE 0 rfl).1 rfl rfl) ⟨_, rfl, rfl⟩ rfl rfl ?_
     intro v1503 Sv1500 w a h1501 h1502 hs
     subst h1502
     have hw := hw.callB h1501
     refine h_nx (hw.cs [0] [] rfl rfl) fun hC => ?_
     refine gt hs 14 rfl ⟨_, rfl, rfl⟩ rfl hC (fun w hC => y_lss rfl rfl) fun a hs => ?_
     refine gv hs 15 rfl rfl hC (fun w hC => y_pickTE (v := .bool c1476) rfl rfl (vbs h1479)) fun a hs => ?_
     refine h_done (by kernel_rfl) ?_
     exact ⟨Sv1425, (hs.wk rfl), (hw.ft [0] [0, 1, 2] (by decide) rfl rfl)⟩
    have h1504 := ite_f hc1476 h1478
    refine h_b (C := Cls [.row (some ⟨b23, 0, none⟩) sv498.1.length k3 c933 46 2] []) (by kernel_rfl) rfl (hw.drew.cs [0] [] rfl rfl) fun hC => ?_
    have hw := hw.drew
    refine gm hs 0 rfl rfl rfl hC fun a hs => ?_
    refine gm hs 1 rfl rfl rfl hC fun a hs => ?_
    refine gv hs 2 rfl rfl hC (fun w hC => y_leq rfl rfl) fun a hs => ?_
    refine gm hs 3 rfl rfl rfl hC fun a hs => ?_
    have hs := hs.fix 108 (.bool false) rfl (vb h1478)
    refine gs hs 4 rfl rfl rfl rfl hC fun a hs => ?_
    refine gs hs 5 rfl rfl rfl rfl hC fun a hs => ?_
    refine gs hs 6 rfl rfl rfl rfl hC fun a hs => ?_
    refine gs hs 7 rfl rfl rfl rfl hC fun a hs => ?_
    refine gs hs 8 rfl rfl rfl rfl hC fun a hs => ?_
    refine gs hs 9 rfl rfl rfl rfl hC fun a hs => ?_
    refine gs hs 10 rfl rfl rfl rfl hC fun a hs => ?_
    refine gs hs 11 rfl rfl rfl rfl hC fun a hs => ?_
    refine gs hs 12 rfl rfl rfl rfl hC fun a hs => ?_
    refine gs hs 13 rfl rfl rfl rfl hC fun a hs => ?_
    refine gs hs 14 rfl rfl rfl rfl hC fun a hs => ?_
    refine gv hs 15 rfl rfl hC (fun w hC => y_pickFE (v := .bool c1476) rfl rfl (vbs h1504)) fun a hs => ?_
    refine h_done (by kernel_rfl) ?_
    exact ⟨Sv1425, (hs.wk rfl), (hw.ft [0] [0, 1, 2] (by decide) rfl rfl)⟩
   rintro a w ⟨Sv1477, hs, hw⟩
   refine then_normal ?_
   refine wp_cond_split (hs.ev rfl) (fun h1506 => ?_) (fun h1506 => ?_)
   ·have hsh := ite_t hsh h1506
    refine wp_skip ?_
    refine then_normal ?_
    refine wp_block ?_
    refine wp_region_lit ?_
    refine mv hs rfl rfl fun a hs => ?_
    refine sv hs (y_add rfl rfl) rfl fun a hs => ?_
    obtain ⟨i1510, h1509, hsh⟩ := bind_t hsh
    refine sv hs (y_assignI rfl h1509) rfl fun a hs => ?_
    refine wpList_nil ?_
    refine blk_normal ?_
    refine then_normal ?_
    exact ⟨_, (Option.some.inj hsh).symm, Sv1477, (hs.wk rfl), (hw.ft [0] [0, 1, 2] (by decide) rfl rfl)⟩
   have hsh := ite_f hsh h1506
   refine wp_exit ?_
   refine then_exit ?_
   refine then_exit ?_
   refine blk_exit ?_
   have hsh := oi hsh
   subst hsh
   have h1511 := hd1451 _ rfl
   subst h1511
   refine then_normal ?_
   exact ⟨Sv1477, (hs.wk rfl), (hw.ft [0] [0, 1, 2] (by decide) rfl rfl)⟩
  rintro a w ⟨Sv1455, hs, hw⟩
  refine then_normal ?_
  refine wp_seq ?_
  obtain ⟨e1593, h1707, hsh⟩ := bind_t hsh
  refine wp_join (fun a w => ∃ (Sv1594 : Nat → Prop), Sl 178 [(0, .slice (some ⟨b23, 0, none⟩) sv498.1.length k3), (1, .int .i64 a6), (4, .func (.func g10) f11.toArray cp12.toArray), (12, .int .i64 e1454), (13, .int .i64 e1593)] a ∧ Wd ⟨w0, S0, blks [.row (some ⟨b23, 0, none⟩) data1.length k3 c4 46 2]⟩ Sv1594 [.row (some ⟨b23, 0, none⟩) sv498.1.length k3 c933 46 2] [FnA2 Try.prog g10 f11 cp12 cmp9, RowA c933 sv498.1, LenA data1.length sv498.1] w) ?_ ?_
  ·refine wp_block ?_
   refine wp_while (fun sv1512 a w => ∃ (Sv1564 : Nat → Prop), Sl 178 [(0, .slice (some ⟨b23, 0, none⟩) sv498.1.length k3), (1, .int .i64 a6), (4, .func (.func g10) f11.toArray cp12.toArray), (12, .int .i64 e1454), (13, .int .i64 sv1512)] a ∧ Wd ⟨w0, S0, blks [.row (some ⟨b23, 0, none⟩) data1.length k3 c4 46 2]⟩ Sv1564 [.row (some ⟨b23, 0, none⟩) sv498.1.length k3 c933 46 2] [FnA2 Try.prog g10 f11 cp12 cmp9, RowA c933 sv498.1, LenA data1.length sv498.1] w) sv498.2.2 h1707 ⟨Sv1455, (hs.wk rfl), (hw.ft [0] [0, 1, 2] (by decide) rfl rfl)⟩ ?_
   clear h1707
   repeat clear hsh
   rintro sv1512 a w tv1591 ⟨Sv1564, hs, hw⟩ hsh hd1590
   delta slices_partitionCmpFunc_api_Span_l13 at hsh
   refine wp_seq ?_
   refine wp_seq ?_
   obtain ⟨c1615, hc1615, hsh⟩ := bind_t hsh
   refine wp_only (fun a w => ∃ (Sv1616 : Nat → Prop), Sl 178 [(0, .slice (some ⟨b23, 0, none⟩) sv498.1.length k3), (1, .int .i64 a6), (4, .func (.func g10) f11.toArray cp12.toArray), (12, .int .i64 e1454), (13, .int .i64 sv1512), (139, .bool c1615)] a ∧ Wd ⟨w0, S0, blks [.row (some ⟨b23, 0, none⟩) data1.length k3 c4 46 2]⟩ Sv1616 [.row (some ⟨b23, 0, none⟩) sv498.1.length k3 c933 46 2] [FnA2 Try.prog g10 f11 cp12 cmp9, RowA c933 sv498.1, LenA data1.length sv498.1] w) ?_ ?_
   ·rcases Bool.eq_false_or_eq_true (decide (e1454 ≤ sv1512)) with h1617 | h1617
    ·have h1618 := ite_t hc1615 h1617
     obtain ⟨x1621, h1619, h1618⟩ := bind_t h1618
     obtain ⟨q1625, c1626, h1622, h1623, h1627, h1620⟩ := hw.elemRK (α := Span) 0 rfl 1 rfl h1619
     obtain ⟨_, _, rfl, rfl, rfl⟩ := h1620
     obtain ⟨x1630, h1628, h1618⟩ := bind_t h1618
     obtain ⟨q1634, c1635, h1631, h1632, h1636, h1629⟩ := hw.elemRK (α := Span) 0 rfl 1 rfl h1628
     obtain ⟨_, _, rfl, rfl, rfl⟩ := h1629
     obtain ⟨rv1638, h1637, h1618⟩ := bind_t h1618
     refine h_b (C := Cls [.row (some ⟨b23, 0, none⟩) sv498.1.length k3 c933 46 2] []) (by kernel_rfl) rfl (hw.drew.cs [0] [] rfl rfl) fun hC => ?_
     have hw := hw.drew
     refine gm hs 0 rfl rfl rfl hC fun a hs => ?_
     refine gm hs 1 rfl rfl rfl hC fun a hs => ?_
     refine gv hs 2 rfl rfl hC (fun w hC => y_leq rfl rfl) fun a hs => ?_
     refine gm hs 3 rfl rfl rfl hC fun a hs => ?_
     have hs := hs.fix 126 (.bool true) rfl (vb h1617)
     refine gt hs 4 rfl ⟨_, rfl, rfl⟩ rfl hC (fun w hC => y_move rfl) fun a hs => ?_
     refine gt hs 5 rfl ⟨_, rfl, rfl⟩ rfl hC (fun w hC => y_move rfl) fun a hs => ?_
     refine gt hs 6 rfl ⟨_, rfl, rfl⟩ rfl hC (fun w hC => y_move rfl) fun a hs => ?_
     refine gt hs 7 rfl ⟨_, rfl, rfl⟩ rfl hC (fun w hC => y_indexAt Try.runUnderlying27 Try.sizeOf46 rfl rfl h1622.1 h1622.2 h1623) fun a hs => ?_
     refine gt hs 8 rfl ⟨_, rfl, rfl⟩ rfl hC (fun w hC => y_loadQA (j := 0) (hC.ownAt 0 rfl) rfl Try.isAgg46 Try.sizeOf46 h1627 rfl rfl) fun a hs => ?_
     refine gt hs 9 rfl ⟨_, rfl, rfl⟩ rfl hC (fun w hC => y_move rfl) fun a hs => ?_
     refine gt hs 10 rfl ⟨_, rfl, rfl⟩ rfl hC (fun w hC => y_move rfl) fun a hs => ?_
     refine gt hs 11 rfl ⟨_, rfl, rfl⟩ rfl hC (fun w hC => y_indexAt Try.runUnderlying27 Try.sizeOf46 rfl rfl h1631.1 h1631.2 h1632) fun a hs => ?_
     refine gt hs 12 rfl ⟨_, rfl, rfl⟩ rfl hC (fun w hC => y_loadQA (j := 0) (hC.ownAt 0 rfl) rfl Try.isAgg46 Try.sizeOf46 h1636 rfl rfl) fun a hs => ?_
     refine ho 13 rfl ?_
     refine st_callR hs ((hw.bE 0 rfl).2 Keep.rfl' hw.bdom ⟨_, _, rfl, rfl, rfl⟩ ⟨_, _, rfl, rfl, rfl⟩ h1637) (do_callF (hw.bE 0 rfl).1 rfl rfl) ⟨_, rfl, rfl⟩ rfl rfl ?_
     intro v1642 Sv1639 w a h1640 h1641 hs
     subst h1641
     have hw := hw.callB h1640
     refine h_nx (hw.cs [0] [] rfl rfl) fun hC => ?_
     refine gt hs 14 rfl ⟨_, rfl, rfl⟩ rfl hC (fun w hC => y_lss rfl rfl) fun a hs => ?_
     refine gt hs 15 rfl ⟨_, rfl, rfl⟩ rfl hC (fun w hC => y_not rfl) fun a hs => ?_
     refine gv hs 16 rfl rfl hC (fun w hC => y_pickTE (v := .bool c1615) rfl rfl (vbs h1618)) fun a hs => ?_
     refine h_done (by kernel_rfl) ?_
     exact ⟨Sv1564, (hs.wk rfl), (hw.ft [0] [0, 1, 2] (by decide) rfl rfl)⟩
    have h1643 := ite_f hc1615 h1617
    refine h_b (C := Cls [.row (some ⟨b23, 0, none⟩) sv498.1.length k3 c933 46 2] []) (by kernel_rfl) rfl (hw.drew.cs [0] [] rfl rfl) fun hC => ?_
    have hw := hw.drew
    refine gm hs 0 rfl rfl rfl hC fun a hs => ?_
    refine gm hs 1 rfl rfl rfl hC fun a hs => ?_
    refine gv hs 2 rfl rfl hC (fun w hC => y_leq rfl rfl) fun a hs => ?_
    refine gm hs 3 rfl rfl rfl hC fun a hs => ?_
    have hs := hs.fix 126 (.bool false) rfl (vb h1617)
    refine gs hs 4 rfl rfl rfl rfl hC fun a hs => ?_
    refine gs hs 5 rfl rfl rfl rfl hC fun a hs => ?_
    refine gs hs 6 rfl rfl rfl rfl hC fun a hs => ?_
    refine gs hs 7 rfl rfl rfl rfl hC fun a hs => ?_
    refine gs hs 8 rfl rfl rfl rfl hC fun a hs => ?_
    refine gs hs 9 rfl rfl rfl rfl hC fun a hs => ?_
    refine gs hs 10 rfl rfl rfl rfl hC fun a hs => ?_
    refine gs hs 11 rfl rfl rfl rfl hC fun a hs => ?_
    refine gs hs 12 rfl rfl rfl rfl hC fun a hs => ?_
    refine gs hs 13 rfl rfl rfl rfl hC fun a hs => ?_
    refine gs hs 14 rfl rfl rfl rfl hC fun a hs => ?_
    refine gs hs 15 rfl rfl rfl rfl hC fun a hs => ?_
    refine gv hs 16 rfl rfl hC (fun w hC => y_pickFE (v := .bool c1615) rfl rfl (vbs h1643)) fun a hs => ?_
    refine h_done (by kernel_rfl) ?_
    exact ⟨Sv1564, (hs.wk rfl), (hw.ft [0] [0, 1, 2] (by decide) rfl rfl)⟩
   rintro a w ⟨Sv1616, hs, hw⟩
   refine then_normal ?_
   refine wp_cond_split (hs.ev rfl) (fun h1645 => ?_) (fun h1645 => ?_)
   ·have hsh := ite_t hsh h1645
    refine wp_skip ?_
    refine then_normal ?_
    refine wp_block ?_
    refine wp_region_lit ?_
    refine mv hs rfl rfl fun a hs => ?_
    refine sv hs (y_sub rfl rfl) rfl fun a hs => ?_
    obtain ⟨j1649, h1648, hsh⟩ := bind_t hsh
    refine sv hs (y_assignI rfl h1648) rfl fun a hs => ?_
    refine wpList_nil ?_
    refine blk_normal ?_
    refine then_normal ?_
    exact ⟨_, (Option.some.inj hsh).symm, Sv1616, (hs.wk rfl), (hw.ft [0] [0, 1, 2] (by decide) rfl rfl)⟩
   have hsh := ite_f hsh h1645
   refine wp_exit ?_
   refine then_exit ?_
   refine then_exit ?_
   refine blk_exit ?_
   have hsh := oi hsh
   subst hsh
   have h1650 := hd1590 _ rfl
   subst h1650
   refine then_normal ?_
   exact ⟨Sv1616, (hs.wk rfl), (hw.ft [0] [0, 1, 2] (by decide) rfl rfl)⟩
  rintro a w ⟨Sv1594, hs, hw⟩
  refine then_normal ?_
  refine wp_seq ?_
  refine sr ?_
  refine mv hs rfl rfl fun a hs => ?_
  refine mv hs rfl rfl fun a hs => ?_
  refine sv hs (y_gtr rfl rfl) rfl fun a hs => ?_
  refine nl ?_
  refine wp_cond_split (hs.ev rfl) (fun h1652 => ?_) (fun h1652 => ?_)
  ·have hsh := ite_t hsh h1652
   refine wp_exit ?_
   refine then_exit ?_
   refine blk_other rfl ?_
   refine then_exit ?_
   refine blk_exit ?_
   have hsh := oi hsh
   subst hsh
   have h1653 := hd1151 _ rfl
   subst h1653
   refine then_normal ?_
   exact ⟨c933, Sv1594, (hs.wk rfl), (hw.ft [0] [1, 2] (by decide) rfl rfl)⟩
  have hsh := ite_f hsh h1652
  refine wp_skip ?_
  refine then_normal ?_
  refine wp_seq ?_
  obtain ⟨x1656, h1654, hsh⟩ := bind_t hsh
  obtain ⟨q1660, c1661, h1657, h1658, h1662, h1655⟩ := hw.elemRK (α := Span) 0 rfl 1 rfl h1654
  obtain ⟨_, _, rfl, rfl, rfl⟩ := h1655
  obtain ⟨x1665, h1663, hsh⟩ := bind_t hsh
  obtain ⟨q1669, c1670, h1666, h1667, h1671, h1664⟩ := hw.elemRK (α := Span) 0 rfl 1 rfl h1663
  obtain ⟨_, _, rfl, rfl, rfl⟩ := h1664
  obtain ⟨x1674, h1672, hsh⟩ := bind_t hsh
  obtain ⟨q1678, c1679, h1675, h1676, h1680, h1673⟩ := hw.elemRK (α := Span) 0 rfl 1 rfl h1672
  obtain ⟨_, _, rfl, rfl, rfl⟩ := h1673
  obtain ⟨l1682, h1681, hsh⟩ := bind_t hsh
  obtain ⟨x1687, h1685, hsh⟩ := bind_t hsh
  obtain ⟨l1695, h1694, hsh⟩ := bind_t hsh
  refine wp_only (fun a w => ∃ (Sv1698 : Nat → Prop) (c1696 : List Value), Sl 178 [(0, .slice (some ⟨b23, 0, none⟩) l1695.length k3), (1, .int .i64 a6), (4, .func (.func g10) f11.toArray cp12.toArray), (12, .int .i64 e1454), (13, .int .i64 e1593)] a ∧ Wd ⟨w0, S0, blks [.row (some ⟨b23, 0, none⟩) data1.length k3 c4 46 2]⟩ Sv1698 [.row (some ⟨b23, 0, none⟩) l1695.length k3 c1696 46 2] [FnA2 Try.prog g10 f11 cp12 cmp9, RowA c1696 l1695, LenA data1.length l1695] w) ?_ ?_
  ·refine h_b (C := Cls [] []) (by kernel_rfl) rfl (hw.drew.cs [] [] rfl rfl) fun hC => ?_
   have hw := hw.drew
   refine gm hs 0 rfl rfl rfl hC fun a hs => ?_
   refine gm hs 1 rfl rfl rfl hC fun a hs => ?_
   refine gm hs 2 rfl rfl rfl hC fun a hs => ?_
   refine gm hs 3 rfl rfl rfl hC fun a hs => ?_
   refine gm hs 4 rfl rfl rfl hC fun a hs => ?_
   refine gm hs 5 rfl rfl rfl hC fun a hs => ?_
   refine gv hs 6 rfl rfl hC (fun w hC => y_indexAt Try.runUnderlying27 Try.sizeOf46 rfl rfl h1657.1 h1657.2 h1658) fun a hs => ?_
   refine gm hs 8 rfl rfl rfl hC fun a hs => ?_
   refine gm hs 9 rfl rfl rfl hC fun a hs => ?_
   refine gv hs 10 rfl rfl hC (fun w hC => y_indexAt Try.runUnderlying27 Try.sizeOf46 rfl rfl h1666.1 h1666.2 h1667) fun a hs => ?_
   refine h_all (rs := [7, 11]) (by kernel_rfl) rfl ?_
   refine AllH.cons rfl ?_ ?_
   ·refine sv hs (y_loadQA (j := 0) (hw.ownAt 0 rfl) rfl Try.isAgg46 Try.sizeOf46 h1662 rfl rfl) rfl fun a hs => ?_
    refine h_nx (hw.cs [] [] rfl rfl) fun hC => ?_
    refine ho 11 rfl ?_
    refine sv hs (y_loadQA (j := 0) (hw.ownAt 0 rfl) rfl Try.isAgg46 Try.sizeOf46 h1671 rfl rfl) rfl fun a hs => ?_
    refine h_nx (hw.cs [] [] rfl rfl) fun hC => ?_
    refine gv hs 12 rfl rfl hC (fun w hC => y_indexAt Try.runUnderlying27 Try.sizeOf46 rfl rfl h1675.1 h1675.2 h1676) fun a hs => ?_
    refine ho 13 rfl ?_
    have h1699 := hw.envAt 2 rfl
    refine w_storeF (α := Span) hs hw 0 rfl 1 rfl h1676 rfl rfl Try.sizeOf46 rfl h1681 ⟨_, _, rfl, rfl, rfl⟩ trivial ?_
    intro c1683 a w hs hw
    have hw := hw.addE (e := LenA data1.length l1682) (len_set (w := w) (S := S0) h1699 h1681)
    have h1684 := setM_len h1681
    try have hs := hs.fl 0 rfl h1684
    try have hs := hs.fl 145 rfl h1684
    try have hs := hs.fl 147 rfl h1684
    try have hs := hs.fl 149 rfl h1684
    try have hs := hs.fl 153 rfl h1684
    refine h_nx (hw.cs [] [] rfl rfl) fun hC => ?_
    refine ho 14 rfl ?_
    obtain ⟨c1692, h1688, h1693, h1686⟩ := hw.elemRX (α := Span) 0 rfl 1 rfl h1685
    obtain ⟨_, _, rfl, rfl, rfl⟩ := h1686
    refine sv hs (y_indexAt Try.runUnderlying27 Try.sizeOf46 rfl rfl h1688.1 h1688.2 rfl) rfl fun a hs => ?_
    refine h_nx (hw.cs [] [] rfl rfl) fun hC => ?_
    refine ho 15 rfl ?_
    have h1700 := hw.envAt 0 rfl
    refine w_storeF (α := Span) hs hw 0 rfl 1 rfl rfl rfl rfl Try.sizeOf46 rfl h1694 ⟨_, _, rfl, rfl, rfl⟩ trivial ?_
    intro c1696 a w hs hw
    have hw := hw.addE (e := LenA data1.length l1695) (len_set (w := w) (S := S0) h1700 h1694)
    have h1697 := setM_len h1694
    try have hs := hs.fl 0 rfl h1697
    try have hs := hs.fl 145 rfl h1697
    try have hs := hs.fl 147 rfl h1697
    try have hs := hs.fl 149 rfl h1697
    try have hs := hs.fl 153 rfl h1697
    refine h_nx (hw.cs [] [] rfl rfl) fun hC => ?_
    refine h_done (by kernel_rfl) ?_
    exact ⟨Sv1594, c1696, (hs.wk rfl), (hw.ft [0] [4, 1, 0] (by decide) rfl rfl)⟩
   refine AllH.cons rfl ?_ ?_
   ·refine sv hs (y_loadQA (j := 0) (hw.ownAt 0 rfl) rfl Try.isAgg46 Try.sizeOf46 h1671 rfl rfl) rfl fun a hs => ?_
    refine h_nx (hw.cs [] [] rfl rfl) fun hC => ?_
    refine ho 7 rfl ?_
    refine sv hs (y_loadQA (j := 0) (hw.ownAt 0 rfl) rfl Try.isAgg46 Try.sizeOf46 h1662 rfl rfl) rfl fun a hs => ?_
    refine h_nx (hw.cs [] [] rfl rfl) fun hC => ?_
    refine gv hs 12 rfl rfl hC (fun w hC => y_indexAt Try.runUnderlying27 Try.sizeOf46 rfl rfl h1675.1 h1675.2 h1676) fun a hs => ?_
    refine ho 13 rfl ?_
    have h1701 := hw.envAt 2 rfl
    refine w_storeF (α := Span) hs hw 0 rfl 1 rfl h1676 rfl rfl Try.sizeOf46 rfl h1681 ⟨_, _, rfl, rfl, rfl⟩ trivial ?_
    intro c1683 a w hs hw
    have hw := hw.addE (e := LenA data1.length l1682) (len_set (w := w) (S := S0) h1701 h1681)
    have h1684 := setM_len h1681
    try have hs := hs.fl 0 rfl h1684
    try have hs := hs.fl 145 rfl h1684
    try have hs := hs.fl 147 rfl h1684
    try have hs := hs.fl 149 rfl h1684
    try have hs := hs.fl 153 rfl h1684
    refine h_nx (hw.cs [] [] rfl rfl) fun hC => ?_
    refine ho 14 rfl ?_
    obtain ⟨c1692, h1688, h1693, h1686⟩ := hw.elemRX (α := Span) 0 rfl 1 rfl h1685
    obtain ⟨_, _, rfl, rfl, rfl⟩ := h1686
    refine sv hs (y_indexAt Try.runUnderlying27 Try.sizeOf46 rfl rfl h1688.1 h1688.2 rfl) rfl fun a hs => ?_
    refine h_nx (hw.cs [] [] rfl rfl) fun hC => ?_
    refine ho 15 rfl ?_
    have h1702 := hw.envAt 0 rfl
    refine w_storeF (α := Span) hs hw 0 rfl 1 rfl rfl rfl rfl Try.sizeOf46 rfl h1694 ⟨_, _, rfl, rfl, rfl⟩ trivial ?_
    intro c1696 a w hs hw
    have hw := hw.addE (e := LenA data1.length l1695) (len_set (w := w) (S := S0) h1702 h1694)
    have h1697 := setM_len h1694
    try have hs := hs.fl 0 rfl h1697
    try have hs := hs.fl 145 rfl h1697
    try have hs := hs.fl 147 rfl h1697
    try have hs := hs.fl 149 rfl h1697
    try have hs := hs.fl 153 rfl h1697
    refine h_nx (hw.cs [] [] rfl rfl) fun hC => ?_
    refine h_done (by kernel_rfl) ?_
    exact ⟨Sv1594, c1696, (hs.wk rfl), (hw.ft [0] [4, 1, 0] (by decide) rfl rfl)⟩
   exact AllH.nil
  rintro a w ⟨Sv1698, c1696, hs, hw⟩
  refine then_normal ?_
  refine sr ?_
  refine mv hs rfl rfl fun a hs => ?_
  refine sv hs (y_add rfl rfl) rfl fun a hs => ?_
  obtain ⟨i1704, h1703, hsh⟩ := bind_t hsh
  refine sv hs (y_assignI rfl h1703) rfl fun a hs => ?_
  refine nl ?_
  refine wp_region_lit ?_
  refine mv hs rfl rfl fun a hs => ?_
  refine sv hs (y_sub rfl rfl) rfl fun a hs => ?_
  obtain ⟨j1706, h1705, hsh⟩ := bind_t hsh
  refine sv hs (y_assignI rfl h1705) rfl fun a hs => ?_
  refine wpList_nil ?_
  refine blk_normal ?_
  refine then_normal ?_
  exact ⟨_, (Option.some.inj hsh).symm, c1696, Sv1698, (hs.wk rfl), (hw.ft [0] [0, 1, 2] (by decide) rfl rfl)⟩
 rintro a w ⟨c1155, Sv1156, hs, hw⟩
 refine then_normal ?_
 refine wp_seq ?_
 obtain ⟨x1711, h1709, hsh⟩ := bind_t hsh
 obtain ⟨q1715, c1716, h1712, h1713, h1717, h1710⟩ := hw.elemRK (α := Span) 0 rfl 0 rfl h1709
 obtain ⟨_, _, rfl, rfl, rfl⟩ := h1710
 obtain ⟨x1720, h1718, hsh⟩ := bind_t hsh
 obtain ⟨q1724, c1725, h1721, h1722, h1726, h1719⟩ := hw.elemRK (α := Span) 0 rfl 0 rfl h1718
 obtain ⟨_, _, rfl, rfl, rfl⟩ := h1719
 obtain ⟨x1729, h1727, hsh⟩ := bind_t hsh
 obtain ⟨q1733, c1734, h1730, h1731, h1735, h1728⟩ := hw.elemRK (α := Span) 0 rfl 0 rfl h1727
 obtain ⟨_, _, rfl, rfl, rfl⟩ := h1728
 obtain ⟨l1737, h1736, hsh⟩ := bind_t hsh
 obtain ⟨x1742, h1740, hsh⟩ := bind_t hsh
 obtain ⟨l1750, h1749, hsh⟩ := bind_t hsh
 refine wp_only (fun a w => ∃ (Sv1753 : Nat → Prop) (c1751 : List Value), Sl 178 [(13, .int .i64 e1154.2)] a ∧ Wd ⟨w0, S0, blks [.row (some ⟨b23, 0, none⟩) data1.length k3 c4 46 2]⟩ Sv1753 [.row (some ⟨b23, 0, none⟩) l1750.length k3 c1751 46 2] [RowA c1751 l1750, LenA data1.length l1750] w) ?_ ?_
 ·refine h_b (C := Cls [] []) (by kernel_rfl) rfl (hw.drew.cs [] [] rfl rfl) fun hC => ?_
  have hw := hw.drew
  refine gm hs 0 rfl rfl rfl hC fun a hs => ?_
  refine gm hs 1 rfl rfl rfl hC fun a hs => ?_
  refine gm hs 2 rfl rfl rfl hC fun a hs => ?_
  refine gm hs 3 rfl rfl rfl hC fun a hs => ?_
  refine gm hs 4 rfl rfl rfl hC fun a hs => ?_
  refine gm hs 5 rfl rfl rfl hC fun a hs => ?_
  refine gv hs 6 rfl rfl hC (fun w hC => y_indexAt Try.runUnderlying27 Try.sizeOf46 rfl rfl h1712.1 h1712.2 h1713) fun a hs => ?_
  refine gm hs 8 rfl rfl rfl hC fun a hs => ?_
  refine gm hs 9 rfl rfl rfl hC fun a hs => ?_
  refine gv hs 10 rfl rfl hC (fun w hC => y_indexAt Try.runUnderlying27 Try.sizeOf46 rfl rfl h1721.1 h1721.2 h1722) fun a hs => ?_
  refine h_all (rs := [7, 11]) (by kernel_rfl) rfl ?_
  refine AllH.cons rfl ?_ ?_
  ·refine sv hs (y_loadQA (j := 0) (hw.ownAt 0 rfl) rfl Try.isAgg46 Try.sizeOf46 h1717 rfl rfl) rfl fun a hs => ?_
   refine h_nx (hw.cs [] [] rfl rfl) fun hC => ?_
   refine ho 11 rfl ?_
   refine sv hs (y_loadQA (j := 0) (hw.ownAt 0 rfl) rfl Try.isAgg46 Try.sizeOf46 h1726 rfl rfl) rfl fun a hs => ?_
   refine h_nx (hw.cs [] [] rfl rfl) fun hC => ?_
   refine gv hs 12 rfl rfl hC (fun w hC => y_indexAt Try.runUnderlying27 Try.sizeOf46 rfl rfl h1730.1 h1730.2 h1731) fun a hs => ?_
   refine ho 13 rfl ?_
   have h1754 := hw.envAt 1 rfl
   refine w_storeF (α := Span) hs hw 0 rfl 0 rfl h1731 rfl rfl Try.sizeOf46 rfl h1736 ⟨_, _, rfl, rfl, rfl⟩ trivial ?_
   intro c1738 a w hs hw
   have hw := hw.addE (e := LenA data1.length l1737) (len_set (w := w) (S := S0) h1754 h1736)
   have h1739 := setM_len h1736
   try have hs := hs.fl 0 rfl h1739
   try have hs := hs.fl 163 rfl h1739
   try have hs := hs.fl 165 rfl h1739
   try have hs := hs.fl 167 rfl h1739
   try have hs := hs.fl 171 rfl h1739
   refine h_nx (hw.cs [] [] rfl rfl) fun hC => ?_
   refine ho 14 rfl ?_
   obtain ⟨c1747, h1743, h1748, h1741⟩ := hw.elemRX (α := Span) 0 rfl 1 rfl h1740
   obtain ⟨_, _, rfl, rfl, rfl⟩ := h1741
   refine sv hs (y_indexAt Try.runUnderlying27 Try.sizeOf46 rfl rfl h1743.1 h1743.2 rfl) rfl fun a hs => ?_
   refine h_nx (hw.cs [] [] rfl rfl) fun hC => ?_
   refine ho 15 rfl ?_
   have h1755 := hw.envAt 0 rfl
   refine w_storeF (α := Span) hs hw 0 rfl 1 rfl rfl rfl rfl Try.sizeOf46 rfl h1749 ⟨_, _, rfl, rfl, rfl⟩ trivial ?_
   intro c1751 a w hs hw
   have hw := hw.addE (e := LenA data1.length l1750) (len_set (w := w) (S := S0) h1755 h1749)
   have h1752 := setM_len h1749
   try have hs := hs.fl 0 rfl h1752
   try have hs := hs.fl 163 rfl h1752
   try have hs := hs.fl 165 rfl h1752
   try have hs := hs.fl 167 rfl h1752
   try have hs := hs.fl 171 rfl h1752
   refine h_nx (hw.cs [] [] rfl rfl) fun hC => ?_
   refine h_done (by kernel_rfl) ?_
   exact ⟨Sv1156, c1751, (hs.wk rfl), (hw.ft [0] [1, 0] (by decide) rfl rfl)⟩
  refine AllH.cons rfl ?_ ?_
  ·refine sv hs (y_loadQA (j := 0) (hw.ownAt 0 rfl) rfl Try.isAgg46 Try.sizeOf46 h1726 rfl rfl) rfl fun a hs => ?_
   refine h_nx (hw.cs [] [] rfl rfl) fun hC => ?_
   refine ho 7 rfl ?_
   refine sv hs (y_loadQA (j := 0) (hw.ownAt 0 rfl) rfl Try.isAgg46 Try.sizeOf46 h1717 rfl rfl) rfl fun a hs => ?_
   refine h_nx (hw.cs [] [] rfl rfl) fun hC => ?_
   refine gv hs 12 rfl rfl hC (fun w hC => y_indexAt Try.runUnderlying27 Try.sizeOf46 rfl rfl h1730.1 h1730.2 h1731) fun a hs => ?_
   refine ho 13 rfl ?_
   have h1756 := hw.envAt 1 rfl
   refine w_storeF (α := Span) hs hw 0 rfl 0 rfl h1731 rfl rfl Try.sizeOf46 rfl h1736 ⟨_, _, rfl, rfl, rfl⟩ trivial ?_
   intro c1738 a w hs hw
   have hw := hw.addE (e := LenA data1.length l1737) (len_set (w := w) (S := S0) h1756 h1736)
   have h1739 := setM_len h1736
   try have hs := hs.fl 0 rfl h1739
   try have hs := hs.fl 163 rfl h1739
   try have hs := hs.fl 165 rfl h1739
   try have hs := hs.fl 167 rfl h1739
   try have hs := hs.fl 171 rfl h1739
   refine h_nx (hw.cs [] [] rfl rfl) fun hC => ?_
   refine ho 14 rfl ?_
   obtain ⟨c1747, h1743, h1748, h1741⟩ := hw.elemRX (α := Span) 0 rfl 1 rfl h1740
   obtain ⟨_, _, rfl, rfl, rfl⟩ := h1741
   refine sv hs (y_indexAt Try.runUnderlying27 Try.sizeOf46 rfl rfl h1743.1 h1743.2 rfl) rfl fun a hs => ?_
   refine h_nx (hw.cs [] [] rfl rfl) fun hC => ?_
   refine ho 15 rfl ?_
   have h1757 := hw.envAt 0 rfl
   refine w_storeF (α := Span) hs hw 0 rfl 1 rfl rfl rfl rfl Try.sizeOf46 rfl h1749 ⟨_, _, rfl, rfl, rfl⟩ trivial ?_
   intro c1751 a w hs hw
   have hw := hw.addE (e := LenA data1.length l1750) (len_set (w := w) (S := S0) h1757 h1749)
   have h1752 := setM_len h1749
   try have hs := hs.fl 0 rfl h1752
   try have hs := hs.fl 163 rfl h1752
   try have hs := hs.fl 165 rfl h1752
   try have hs := hs.fl 167 rfl h1752
   try have hs := hs.fl 171 rfl h1752
   refine h_nx (hw.cs [] [] rfl rfl) fun hC => ?_
   refine h_done (by kernel_rfl) ?_
   exact ⟨Sv1156, c1751, (hs.wk rfl), (hw.ft [0] [1, 0] (by decide) rfl rfl)⟩
  exact AllH.nil
 rintro a w ⟨Sv1753, c1751, hs, hw⟩
 refine then_normal ?_
 refine sr ?_
 refine mv hs rfl rfl fun a hs => ?_
 refine av hs rfl rfl fun a hs => ?_
 refine av hs rfl rfl fun a hs => ?_
 refine nl ?_
 have hsh := oi hsh
 subst hsh
 refine wp_ret ?_
 exact ret2 hs rfl (rv_tmp rfl) (rv_tmp rfl) (hw.ret ⟨c1751, rfl, (hw.outs [0] (by decide) rfl), (hw.envAt 0 rfl), (hw.envAt 1 rfl)⟩)

abbrev slices_nextPowerOfTwo_rd (w0 : World) (X : List Nat) (r : Int) : (Nat → Prop) → World → Value → Prop := fun S w v => v = .int .u64 r
set_option maxHeartbeats 4000000 in
set_option maxRecDepth 100000 in
theorem slices_nextPowerOfTwo_ok {w0 : World} {S0 : Nat → Prop} {length1 : Int} {r : Int} (hsh : slices_nextPowerOfTwo length1 = some r) (hS : ∀ b, S0 b → b < w0.heap.size) : Calls Try.prog 81 #[.int .i64 length1] w0 (Ret ([]) w0 S0 (slices_nextPowerOfTwo_rd w0 ([]) r)) := by
 refine calls_of_wp Try.func81 rfl ?_
 have hs := Sl.enter #[.int .i64 length1] 7 [(0, .int .i64 length1)] rfl ⟨rfl, trivial⟩
 have hw := Wd.enter (E := []) hS (fun _ h => (by cases h))
 delta slices_nextPowerOfTwo at hsh
 refine sr ?_
 refine av hs rfl rfl fun a hs => ?_
 refine nl ?_
 refine sr ?_
 refine mv hs rfl rfl fun a hs => ?_
 refine sv hs (y_convert Try.runUnderlying3 Try.runUnderlying68 rfl) rfl fun a hs => ?_
 obtain ⟨rv3, h2, hsh⟩ := bind_t hsh
 refine st_callR hs (math_bits_Len_ok h2 hw.bdom) (do_call Try.call68 rfl) trivial rfl rfl ?_
 intro v7 Sv4 w a h5 h6 hs
 subst h6
 have hw := hw.callB h5
 obtain ⟨shl10, h9, hsh⟩ := bind_t hsh
 refine sv hs (y_shlM rfl rfl h9) rfl fun a hs => ?_
 refine av hs rfl rfl fun a hs => ?_
 refine nl ?_
 have hsh := oi hsh
 subst hsh
 refine wp_ret ?_
 exact ret1 hs rfl (rv_tmp rfl) (hw.ret rfl)

abbrev slices_xorshift_Next_rd (w0 : World) (X : List Nat) (b2 : Nat) (r : (Int × Int)) : (Nat → Prop) → World → Value → Prop := fun S w v => v = .int .u64 r.1 ∧ Outs X w0 S w [.box b2 [.int .u64 r.2] 88]
set_option maxHeartbeats 4000000 in
set_option maxRecDepth 100000 in
theorem slices_xorshift_Next_ok {w0 : World} {S0 : Nat → Prop} {b2 : Nat} {r1 : Int} {r : (Int × Int)} (hsh : slices_xorshift_Next r1 = some r) (hS : ∀ b, S0 b → b < w0.heap.size) (hin : Ins S0 w0 [.box b2 [.int .u64 r1] 88]) : Calls Try.prog 82 #[.pointer (some ⟨b2, 0, none⟩)] w0 (Ret (blks [.box b2 [.int .u64 r1] 88]) w0 S0 (slices_xorshift_Next_rd w0 (blks [.box b2 [.int .u64 r1] 88]) b2 r)) := by
 refine calls_of_wp Try.func82 rfl ?_
 have hs := Sl.enter #[.pointer (some ⟨b2, 0, none⟩)] 33 [(0, .pointer (some ⟨b2, 0, none⟩))] rfl ⟨rfl, trivial⟩
 have hw := Wd.enterI hS hin
 delta slices_xorshift_Next at hsh
 refine sr ?_
 refine av hs rfl rfl fun a hs => ?_
 refine nl ?_
 refine wp_seq ?_
 obtain ⟨shl4, h3, hsh⟩ := bind_t hsh
 refine wp_only (fun a w => ∃ (Sv5 : Nat → Prop), Sl 33 [(0, .pointer (some ⟨b2, 0, none⟩))] a ∧ Wd ⟨w0, S0, blks [.box b2 [.int .u64 r1] 88]⟩ Sv5 [.box b2 [.int .u64 (Go.bits .xor .u64 r1 shl4)] 88] [] w) ?_ ?_
 ·refine h_b (C := Cls [] []) (by kernel_rfl) rfl (hw.drew.cs [] [] rfl rfl) fun hC => ?_
  have hw := hw.drew
  refine gm hs 0 rfl rfl rfl hC fun a hs => ?_
  refine gv hs 1 rfl rfl hC (fun w hC => y_nilCheck rfl) fun a hs => ?_
  refine gm hs 3 rfl rfl rfl hC fun a hs => ?_
  refine gv hs 4 rfl rfl hC (fun w hC => y_nilCheck rfl) fun a hs => ?_
  refine h_all (rs := [2, 5]) (by kernel_rfl) rfl ?_
  refine AllH.cons rfl ?_ ?_
  ·refine sv hs (y_loadB1 (hw.ownAt 0 rfl) rfl Try.isAgg88 rfl) rfl fun a hs => ?_
   refine h_nx (hw.cs [] [] rfl rfl) fun hC => ?_
   refine ho 5 rfl ?_
   refine sv hs (y_loadB1 (hw.ownAt 0 rfl) rfl Try.isAgg88 rfl) rfl fun a hs => ?_
   refine h_nx (hw.cs [] [] rfl rfl) fun hC => ?_
   refine gv hs 6 rfl rfl hC (fun w hC => y_shlM rfl rfl h3) fun a hs => ?_
   refine gv hs 7 rfl rfl hC (fun w hC => y_xor rfl rfl) fun a hs => ?_
   refine gv hs 8 rfl rfl hC (fun w hC => y_nilCheck rfl) fun a hs => ?_
   refine ho 9 rfl ?_
   refine w_store (m := 1) (cs' := [.int .u64 (Go.bits .xor .u64 r1 shl4)]) hs hw 0 rfl rfl rfl Try.sizeOf88 rfl rfl rfl rfl trivial ?_
   intro a w hs hw
   refine h_nx (hw.cs [] [] rfl rfl) fun hC => ?_
   refine h_done (by kernel_rfl) ?_
   exact ⟨S0, (hs.wk rfl), (hw.ft [0] [] (by decide) rfl rfl)⟩
  refine AllH.cons rfl ?_ ?_
  ·refine sv hs (y_loadB1 (hw.ownAt 0 rfl) rfl Try.isAgg88 rfl) rfl fun a hs => ?_
   refine h_nx (hw.cs [] [] rfl rfl) fun hC => ?_
   refine gv hs 6 rfl rfl hC (fun w hC => y_shlM rfl rfl h3) fun a hs => ?_
   refine ho 2 rfl ?_
   refine sv hs (y_loadB1 (hw.ownAt 0 rfl) rfl Try.isAgg88 rfl) rfl fun a hs => ?_
   refine h_nx (hw.cs [] [] rfl rfl) fun hC => ?_
   refine gv hs 7 rfl rfl hC (fun w hC => y_xor rfl rfl) fun a hs => ?_
   refine gv hs 8 rfl rfl hC (fun w hC => y_nilCheck rfl) fun a hs => ?_
   refine ho 9 rfl ?_
   refine w_store (m := 1) (cs' := [.int .u64 (Go.bits .xor .u64 r1 shl4)]) hs hw 0 rfl rfl rfl Try.sizeOf88 rfl rfl rfl rfl trivial ?_
   intro a w hs hw
   refine h_nx (hw.cs [] [] rfl rfl) fun hC => ?_
   refine h_done (by kernel_rfl) ?_
   exact ⟨S0, (hs.wk rfl), (hw.ft [0] [] (by decide) rfl rfl)⟩
  exact AllH.nil
 rintro a w ⟨Sv5, hs, hw⟩
 refine then_normal ?_
 refine wp_seq ?_
 obtain ⟨shr7, h6, hsh⟩ := bind_t hsh
 refine wp_only (fun a w => ∃ (Sv8 : Nat → Prop), Sl 33 [(0, .pointer (some ⟨b2, 0, none⟩))] a ∧ Wd ⟨w0, S0, blks [.box b2 [.int .u64 r1] 88]⟩ Sv8 [.box b2 [.int .u64 (Go.bits .xor .u64 (Go.bits .xor .u64 r1 shl4) shr7)] 88] [] w) ?_ ?_
 ·refine h_b (C := Cls [] []) (by kernel_rfl) rfl (hw.drew.cs [] [] rfl rfl) fun hC => ?_
  have hw := hw.drew
  refine gm hs 0 rfl rfl rfl hC fun a hs => ?_
  refine gv hs 1 rfl rfl hC (fun w hC => y_nilCheck rfl) fun a hs => ?_
  refine gm hs 3 rfl rfl rfl hC fun a hs => ?_
  refine gv hs 4 rfl rfl hC (fun w hC => y_nilCheck rfl) fun a hs => ?_
  refine h_all (rs := [2, 5]) (by kernel_rfl) rfl ?_
  refine AllH.cons rfl ?_ ?_
  ·refine sv hs (y_loadB1 (hw.ownAt 0 rfl) rfl Try.isAgg88 rfl) rfl fun a hs => ?_
   refine h_nx (hw.cs [] [] rfl rfl) fun hC => ?_
   refine ho 5 rfl ?_
   refine sv hs (y_loadB1 (hw.ownAt 0 rfl) rfl Try.isAgg88 rfl) rfl fun a hs => ?_
   refine h_nx (hw.cs [] [] rfl rfl) fun hC => ?_
   refine gv hs 6 rfl rfl hC (fun w hC => y_shrM rfl rfl h6) fun a hs => ?_
   refine gv hs 7 rfl rfl hC (fun w hC => y_xor rfl rfl) fun a hs => ?_
   refine gv hs 8 rfl rfl hC (fun w hC => y_nilCheck rfl) fun a hs => ?_
   refine ho 9 rfl ?_
   refine w_store (m := 1) (cs' := [.int .u64 (Go.bits .xor .u64 (Go.bits .xor .u64 r1 shl4) shr7)]) hs hw 0 rfl rfl rfl Try.sizeOf88 rfl rfl rfl rfl trivial ?_
   intro a w hs hw
   refine h_nx (hw.cs [] [] rfl rfl) fun hC => ?_
   refine h_done (by kernel_rfl) ?_
   exact ⟨Sv5, (hs.wk rfl), (hw.ft [0] [] (by decide) rfl rfl)⟩
  refine AllH.cons rfl ?_ ?_
  ·refine sv hs (y_loadB1 (hw.ownAt 0 rfl) rfl Try.isAgg88 rfl) rfl fun a hs => ?_
   refine h_nx (hw.cs [] [] rfl rfl) fun hC => ?_
   refine gv hs 6 rfl rfl hC (fun w hC => y_shrM rfl rfl h6) fun a hs => ?_
   refine ho 2 rfl ?_
   refine sv hs (y_loadB1 (hw.ownAt 0 rfl) rfl Try.isAgg88 rfl) rfl fun a hs => ?_
   refine h_nx (hw.cs [] [] rfl rfl) fun hC => ?_
   refine gv hs 7 rfl rfl hC (fun w hC => y_xor rfl rfl) fun a hs => ?_
   refine gv hs 8 rfl rfl hC (fun w hC => y_nilCheck rfl) fun a hs => ?_
   refine ho 9 rfl ?_
   refine w_store (m := 1) (cs' := [.int .u64 (Go.bits .xor .u64 (Go.bits .xor .u64 r1 shl4) shr7)]) hs hw 0 rfl rfl rfl Try.sizeOf88 rfl rfl rfl rfl trivial ?_
   intro a w hs hw
   refine h_nx (hw.cs [] [] rfl rfl) fun hC => ?_
   refine h_done (by kernel_rfl) ?_
   exact ⟨Sv5, (hs.wk rfl), (hw.ft [0] [] (by decide) rfl rfl)⟩
  exact AllH.nil
 rintro a w ⟨Sv8, hs, hw⟩
 refine then_normal ?_
 refine wp_seq ?_
 obtain ⟨shl10, h9, hsh⟩ := bind_t hsh
 refine wp_only (fun a w => ∃ (Sv11 : Nat → Prop), Sl 33 [(0, .pointer (some ⟨b2, 0, none⟩))] a ∧ Wd ⟨w0, S0, blks [.box b2 [.int .u64 r1] 88]⟩ Sv11 [.box b2 [.int .u64 (Go.bits .xor .u64 (Go.bits .xor .u64 (Go.bits .xor .u64 r1 shl4) shr7) shl10)] 88] [] w) ?_ ?_
 ·refine h_b (C := Cls [] []) (by kernel_rfl) rfl (hw.drew.cs [] [] rfl rfl) fun hC => ?_
  have hw := hw.drew
  refine gm hs 0 rfl rfl rfl hC fun a hs => ?_
  refine gv hs 1 rfl rfl hC (fun w hC => y_nilCheck rfl) fun a hs => ?_
  refine gm hs 3 rfl rfl rfl hC fun a hs => ?_
  refine gv hs 4 rfl rfl hC (fun w hC => y_nilCheck rfl) fun a hs => ?_
  refine h_all (rs := [2, 5]) (by kernel_rfl) rfl ?_
  refine AllH.cons rfl ?_ ?_
  ·refine sv hs (y_loadB1 (hw.ownAt 0 rfl) rfl Try.isAgg88 rfl) rfl fun a hs => ?_
   refine h_nx (hw.cs [] [] rfl rfl) fun hC => ?_
   refine ho 5 rfl ?_
   refine sv hs (y_loadB1 (hw.ownAt 0 rfl) rfl Try.isAgg88 rfl) rfl fun a hs => ?_
   refine h_nx (hw.cs [] [] rfl rfl) fun hC => ?_
   refine gv hs 6 rfl rfl hC (fun w hC => y_shlM rfl rfl h9) fun a hs => ?_
   refine gv hs 7 rfl rfl hC (fun w hC => y_xor rfl rfl) fun a hs => ?_
   refine gv hs 8 rfl rfl hC (fun w hC => y_nilCheck rfl) fun a hs => ?_
   refine ho 9 rfl ?_
   refine w_store (m := 1) (cs' := [.int .u64 (Go.bits .xor .u64 (Go.bits .xor .u64 (Go.bits .xor .u64 r1 shl4) shr7) shl10)]) hs hw 0 rfl rfl rfl Try.sizeOf88 rfl rfl rfl rfl trivial ?_
   intro a w hs hw
   refine h_nx (hw.cs [] [] rfl rfl) fun hC => ?_
   refine h_done (by kernel_rfl) ?_
   exact ⟨Sv8, (hs.wk rfl), (hw.ft [0] [] (by decide) rfl rfl)⟩
  refine AllH.cons rfl ?_ ?_
  ·refine sv hs (y_loadB1 (hw.ownAt 0 rfl) rfl Try.isAgg88 rfl) rfl fun a hs => ?_
   refine h_nx (hw.cs [] [] rfl rfl) fun hC => ?_
   refine gv hs 6 rfl rfl hC (fun w hC => y_shlM rfl rfl h9) fun a hs => ?_
   refine ho 2 rfl ?_
   refine sv hs (y_loadB1 (hw.ownAt 0 rfl) rfl Try.isAgg88 rfl) rfl fun a hs => ?_
   refine h_nx (hw.cs [] [] rfl rfl) fun hC => ?_
   refine gv hs 7 rfl rfl hC (fun w hC => y_xor rfl rfl) fun a hs => ?_
   refine gv hs 8 rfl rfl hC (fun w hC => y_nilCheck rfl) fun a hs => ?_
   refine ho 9 rfl ?_
   refine w_store (m := 1) (cs' := [.int .u64 (Go.bits .xor .u64 (Go.bits .xor .u64 (Go.bits .xor .u64 r1 shl4) shr7) shl10)]) hs hw 0 rfl rfl rfl Try.sizeOf88 rfl rfl rfl rfl trivial ?_
   intro a w hs hw
   refine h_nx (hw.cs [] [] rfl rfl) fun hC => ?_
   refine h_done (by kernel_rfl) ?_
   exact ⟨Sv8, (hs.wk rfl), (hw.ft [0] [] (by decide) rfl rfl)⟩
  exact AllH.nil
 rintro a w ⟨Sv11, hs, hw⟩
 refine then_normal ?_
 refine sr ?_
 refine mv hs rfl rfl fun a hs => ?_
 refine sv hs (y_nilCheck rfl) rfl fun a hs => ?_
 refine sv hs (y_loadB1 (hw.ownAt 0 rfl) rfl Try.isAgg88 rfl) rfl fun a hs => ?_
 obtain ⟨x13, h12, hsh⟩ := bind_t hsh
 refine sv hs (y_assignI rfl h12) rfl fun a hs => ?_
 refine nl ?_
 have hsh := oi hsh
 subst hsh
 refine wp_ret ?_
 exact ret1 hs rfl (rv_tmp rfl) (hw.ret ⟨rfl, (hw.outs [0] (by decide) rfl)⟩)

abbrev slices_breakPatternsCmpFunc_api_Span_rd (w0 : World) (X : List Nat) (p2 : Option Addr) (k3 : Nat) (data1 : (List Span)) (r : (List Span)) : (Nat → Prop) → World → Value → Prop := fun S w v => ∃ (ck_0 : List Value), v = .tuple #[] ∧ Outs X w0 S w [.row p2 r.length k3 ck_0 46 2] ∧ (RowA ck_0 r).p S w ∧ (LenA data1.length r).p S w
set_option maxHeartbeats 4000000 in
set_option maxRecDepth 100000 in
theorem slices_breakPatternsCmpFunc_api_Span_ok {w0 : World} {S0 : Nat → Prop} {p2 : Option Addr} {k3 : Nat} {c4 : List Value} {g9 : Nat} {f10 : List Value} {cp11 : List Value} {data1 : (List Span)} {a6 : Int} {b7 : Int} {cmp8 : Span → Span → Option Int} {r : (List Span)} (hsh : slices_breakPatternsCmpFunc_api_Span data1 a6 b7 cmp8 = some r) (hS : ∀ b, S0 b → b < w0.heap.size) (hin : Ins S0 w0 [.row p2 data1.length k3 c4 46 2]) (h5 : (RowA c4 data1).p S0 w0) (h12 : (FnA2 Try.prog g9 f10 cp11 cmp8).p S0 w0) : Calls Try.prog 72 #[.slice p2 data1.length k3, .int .i64 a6, .int .i64 b7, .func (.func g9) f10.toArray cp11.toArray] w0 (Ret (blks [.row p2 data1.length k3 c4 46 2]) w0 S0 (slices_breakPatternsCmpFunc_api_Span_rd w0 (blks [.row p2 data1.length k3 c4 46 2]) p2 k3 data1 r)) := by
 refine calls_of_wp Try.func72 rfl ?_
 have hs := Sl.enter #[.slice p2 data1.length k3, .int .i64 a6, .int .i64 b7, .func (.func g9) f10.toArray cp11.toArray] 67 [(0, .slice p2 data1.length k3), (1, .int .i64 a6), (2, .int .i64 b7), (3, .func (.func g9) f10.toArray cp11.toArray)] rfl ⟨rfl, rfl, rfl, rfl, trivial⟩
 have hw := Wd.enterI hS hin
 have hw := hw.addE h5
 have hw := hw.addE (e := LenA data1.length data1) len_rfl
 have hw := hw.addE h12
 delta slices_breakPatternsCmpFunc_api_Span at hsh
 refine sr ?_
 refine mv hs rfl rfl fun a hs => ?_
 refine mv hs rfl rfl fun a hs => ?_
 refine sv hs (y_sub rfl rfl) rfl fun a hs => ?_
 obtain ⟨length14, h13, hsh⟩ := bind_t hsh
 refine sv hs (y_assignI rfl h13) rfl fun a hs => ?_
 refine nl ?_
 refine sr ?_
 refine mv hs rfl rfl fun a hs => ?_
 refine sv hs (y_geq rfl rfl) rfl fun a hs => ?_
 refine nl ?_
 refine wp_join (fun a w => ∃ (x237 : (List Span)) (c235 : List Value) (Sv236 : Nat → Prop), slices_breakPatternsCmpFunc_api_Span_j1 x237 = some r ∧ Sl 67 [] a ∧ Wd ⟨w0, S0, blks [.row p2 data1.length k3 c4 46 2]⟩ Sv236 [.row p2 x237.length k3 c235 46 2] [RowA c235 x237, LenA data1.length x237] w) ?_ ?_
 ·refine wp_cond_split (hs.ev rfl) (fun h238 => ?_) (fun h238 => ?_)
  ·have hsh := ite_t hsh h238
   refine sr ?_
   refine mv hs rfl rfl fun a hs => ?_
   refine sv hs (y_convert Try.runUnderlying3 Try.runUnderlying88 rfl) rfl fun a hs => ?_
   refine w_alloc (cs := [.int .u64 0]) hs hw Try.zeroValue88 rfl rfl trivial ?_
   intro b239 a w hs hw
   refine w_store (m := 1) (cs' := [.int .u64 (IntKind.u64.wrap length14)]) hs hw 0 rfl rfl rfl Try.sizeOf88 rfl rfl rfl rfl trivial ?_
   intro a w hs hw
   refine nl ?_
   refine sr ?_
   refine mv hs rfl rfl fun a hs => ?_
   obtain ⟨rv241, h240, hsh⟩ := bind_t hsh
   refine st_callR hs (slices_nextPowerOfTwo_ok h240 hw.bdom) (do_call Try.call81 rfl) trivial rfl rfl ?_
   intro v245 Sv242 w a h243 h244 hs
   subst h244
   have hw := hw.callB h243
   refine av hs rfl rfl fun a hs => ?_
   refine nl ?_
   refine sr ?_
   refine mv hs rfl rfl fun a hs => ?_
   refine mv hs rfl rfl fun a hs => ?_
   refine sv hs (y_quo rfl rfl (by decide)) rfl fun a hs => ?_
   refine sv hs (y_mul rfl rfl) rfl fun a hs => ?_
   refine sv hs (y_add rfl rfl) rfl fun a hs => ?_
   refine sv hs (y_sub rfl rfl) rfl fun a hs => ?_
   obtain ⟨idx248, h247, hsh⟩ := bind_t hsh
   refine sv hs (y_assignI rfl h247) rfl fun a hs => ?_
   refine nl ?_
   obtain ⟨e455, h596, hsh⟩ := bind_t hsh
   refine wp_join (fun a w => ∃ (c456 : List Value) (Sv457 : Nat → Prop), Sl 67 [] a ∧ Wd ⟨w0, S0, blks [.row p2 data1.length k3 c4 46 2]⟩ Sv457 [.row p2 e455.length k3 c456 46 2] [RowA c456 e455, LenA data1.length e455] w) ?_ ?_
   ·refine wp_block ?_
    refine wp_while (fun sv249 a w => ∃ (c384 : List Value) (Sv385 : Nat → Prop), Sl 67 [(0, .slice p2 sv249.2.1.length k3), (1, .int .i64 a6), (8, .int .i64 length14), (9, .pointer (some ⟨b239, 0, none⟩)), (10, .int .u64 rv241), (11, .int .i64 sv249.2.2)] a ∧ Wd ⟨w0, S0, blks [.row p2 data1.length k3 c4 46 2]⟩ Sv385 [.box b239 [.int .u64 sv249.1] 88, .row p2 sv249.2.1.length k3 c384 46 2] [RowA c384 sv249.2.1, LenA data1.length sv249.2.1] w) ((IntKind.u64.wrap length14), data1, idx248) h596 ⟨c4, S0, (hs.wk rfl), (hw.ft [0, 1] [2, 1] (by decide) rfl rfl)⟩ ?_
    clear h596
    repeat clear hsh
    rintro sv249 a w tv453 ⟨c384, Sv385, hs, hw⟩ hsh hd452
    delta slices_breakPatternsCmpFunc_api_Span_l2 at hsh
    refine wp_seq ?_
    refine sr ?_
    refine mv hs rfl rfl fun a hs => ?_
    refine mv hs rfl rfl fun a hs => ?_
    refine mv hs rfl rfl fun a hs => ?_
    refine sv hs (y_quo rfl rfl (by decide)) rfl fun a hs => ?_
    refine sv hs (y_mul rfl rfl) rfl fun a hs => ?_
    refine sv hs (y_add rfl rfl) rfl fun a hs => ?_
    refine sv hs (y_add rfl rfl) rfl fun a hs => ?_
    refine sv hs (y_leq rfl rfl) rfl fun a hs => ?_
    refine nl ?_
    refine wp_cond_split (hs.ev rfl) (fun h459 => ?_) (fun h459 => ?_)
    ·have hsh := ite_t hsh h459
     refine wp_skip ?_
     refine then_normal ?_
     refine wp_seq ?_
     refine wp_block ?_
     refine sr ?_
     obtain ⟨rv524, h523, hsh⟩ := bind_t hsh
     refine st_callR hs (slices_xorshift_Next_ok h523 hw.dom (hw.ins [0] (by decide) rfl)) (do_call Try.call82 rfl) trivial rfl rfl ?_
     intro v528 Sv525 w a h526 h527 hs
     obtain ⟨rfl, h529⟩ := h527
     have hw := hw.callO [0] [1] (by decide) rfl h526 h529
     refine mv hs rfl rfl fun a hs => ?_
     refine sv hs (y_sub rfl rfl) rfl fun a hs => ?_
     refine sv hs (y_and rfl rfl) rfl fun a hs => ?_
     refine sv hs (y_convert Try.runUnderlying68 Try.runUnderlying3 rfl) rfl fun a hs => ?_
     obtain ⟨other531, h530, hsh⟩ := bind_t hsh
     refine sv hs (y_assignI rfl h530) rfl fun a hs => ?_
     refine nl ?_
     refine wp_seq ?_
     refine sr ?_
     refine mv hs rfl rfl fun a hs => ?_
     refine mv hs rfl rfl fun a hs => ?_
     refine sv hs (y_geq rfl rfl) rfl fun a hs => ?_
     refine nl ?_
     refine wp_join (fun a w => ∃ (other536 : Int) (Sv535 : Nat → Prop), slices_breakPatternsCmpFunc_api_Span_j2 a6 sv249 rv524 other536 = some tv453 ∧ Sl 67 [(0, .slice p2 sv249.2.1.length k3), (1, .int .i64 a6), (8, .int .i64 length14), (9, .pointer (some ⟨b239, 0, none⟩)), (10, .int .u64 rv241), (11, .int .i64 sv249.2.2), (12, .int .i64 other536)] a ∧ Wd ⟨w0, S0, blks [.row p2 data1.length k3 c4 46 2]⟩ Sv535 [.box b239 [.int .u64 rv524.2] 88, .row p2 sv249.2.1.length k3 c384 46 2] [RowA c384 sv249.2.1, LenA data1.length sv249.2.1] w) ?_ ?_
     ·refine wp_cond_split (hs.ev rfl) (fun h592 => ?_) (fun h592 => ?_)
      ·have hsh := ite_t hsh h592
       refine wp_region_lit ?_
       refine mv hs rfl rfl fun a hs => ?_
       refine mv hs rfl rfl fun a hs => ?_
       refine sv hs (y_sub rfl rfl) rfl fun a hs => ?_
       obtain ⟨other594, h593, hsh⟩ := bind_t hsh
       refine sv hs (y_assignI rfl h593) rfl fun a hs => ?_
       refine nl ?_
       exact ⟨other594, Sv525, hsh, (hs.wk rfl), (hw.ft [0, 1] [0, 1] (by decide) rfl rfl)⟩
      have hsh := ite_f hsh h592
      refine wp_skip ?_
      refine then_normal ?_
      exact ⟨other531, Sv525, hsh, (hs.wk rfl), (hw.ft [0, 1] [0, 1] (by decide) rfl rfl)⟩
     rintro a w ⟨other536, Sv535, hsh, hs, hw⟩
     delta slices_breakPatternsCmpFunc_api_Span_j2 at hsh
     refine then_normal ?_
     obtain ⟨x539, h537, hsh⟩ := bind_t hsh
     obtain ⟨b546, q543, c544, h547, h540, h541, h545, h538⟩ := hw.elemRV (α := Span) 1 rfl 0 rfl h537
     have hsv548 := hs
     have hwv549 := hw
     subst h547
     have hs := hsv548
     have hw := hwv549
     obtain ⟨_, _, rfl, rfl, rfl⟩ := h538
     obtain ⟨x552, h550, hsh⟩ := bind_t hsh
     obtain ⟨q556, c557, h553, h554, h558, h551⟩ := hw.elemRK (α := Span) 1 rfl 0 rfl h550
     obtain ⟨_, _, rfl, rfl, rfl⟩ := h551
     obtain ⟨x561, h559, hsh⟩ := bind_t hsh
     obtain ⟨q565, c566, h562, h563, h567, h560⟩ := hw.elemRK (α := Span) 1 rfl 0 rfl h559
     obtain ⟨_, _, rfl, rfl, rfl⟩ := h560
     obtain ⟨l569, h568, hsh⟩ := bind_t hsh
     obtain ⟨x574, h572, hsh⟩ := bind_t hsh
     obtain ⟨l582, h581, hsh⟩ := bind_t hsh
     refine wp_only (fun a w => ∃ (Sv585 : Nat → Prop) (c583 : List Value), Sl 67 [(0, .slice (some ⟨b546, 0, none⟩) l582.length k3), (1, .int .i64 a6), (8, .int .i64 length14), (9, .pointer (some ⟨b239, 0, none⟩)), (10, .int .u64 rv241), (11, .int .i64 sv249.2.2)] a ∧ Wd ⟨w0, S0, blks [.row (some ⟨b546, 0, none⟩) data1.length k3 c4 46 2]⟩ Sv585 [.box b239 [.int .u64 rv524.2] 88, .row (some ⟨b546, 0, none⟩) l582.length k3 c583 46 2] [RowA c583 l582, LenA data1.length l582] w) ?_ ?_
     ·refine h_b (C := Cls [.box b239 [.int .u64 rv524.2] 88] []) (by kernel_rfl) rfl (hw.drew.cs [0] [] rfl rfl) fun hC => ?_
      have hw := hw.drew
      refine gm hs 0 rfl rfl rfl hC fun a hs => ?_
      refine gm hs 1 rfl rfl rfl hC fun a hs => ?_
      refine gm hs 2 rfl rfl rfl hC fun a hs => ?_
      refine gm hs 3 rfl rfl rfl hC fun a hs => ?_
      refine gm hs 4 rfl rfl rfl hC fun a hs => ?_
      refine gv hs 5 rfl rfl hC (fun w hC => y_add rfl rfl) fun a hs => ?_
      refine gm hs 6 rfl rfl rfl hC fun a hs => ?_
      refine gm hs 7 rfl rfl rfl hC fun a hs => ?_
      refine gm hs 8 rfl rfl rfl hC fun a hs => ?_
      refine gv hs 9 rfl rfl hC (fun w hC => y_add rfl rfl) fun a hs => ?_
      refine gv hs 10 rfl rfl hC (fun w hC => y_indexAt Try.runUnderlying27 Try.sizeOf46 rfl rfl h540.1 h540.2 h541) fun a hs => ?_
      refine gm hs 12 rfl rfl rfl hC fun a hs => ?_
      refine gm hs 13 rfl rfl rfl hC fun a hs => ?_
      refine gv hs 14 rfl rfl hC (fun w hC => y_indexAt Try.runUnderlying27 Try.sizeOf46 rfl rfl h553.1 h553.2 h554) fun a hs => ?_
      refine h_all (rs := [11, 15]) (by kernel_rfl) rfl ?_
      refine AllH.cons rfl ?_ ?_
      ·refine sv hs (y_loadQA (j := 0) (hw.ownAt 1 rfl) rfl Try.isAgg46 Try.sizeOf46 h545 rfl rfl) rfl fun a hs => ?_
       refine h_nx (hw.cs [0] [] rfl rfl) fun hC => ?_
       refine ho 15 rfl ?_
       refine sv hs (y_loadQA (j := 0) (hw.ownAt 1 rfl) rfl Try.isAgg46 Try.sizeOf46 h558 rfl rfl) rfl fun a hs => ?_
       refine h_nx (hw.cs [0] [] rfl rfl) fun hC => ?_
       refine gv hs 16 rfl rfl hC (fun w hC => y_indexAt Try.runUnderlying27 Try.sizeOf46 rfl rfl h562.1 h562.2 h563) fun a hs => ?_
       refine ho 17 rfl ?_
       have h586 := hw.envAt 1 rfl
       refine w_storeF (α := Span) hs hw 1 rfl 0 rfl h563 rfl rfl Try.sizeOf46 rfl h568 ⟨_, _, rfl, rfl, rfl⟩ trivial ?_
       intro c570 a w hs hw
       have hw := hw.addE (e := LenA data1.length l569) (len_set (w := w) (S := S0) h586 h568)
       have h571 := setM_len h568
       try have hs := hs.fl 0 rfl h571
       try have hs := hs.fl 49 rfl h571
       try have hs := hs.fl 51 rfl h571
       try have hs := hs.fl 55 rfl h571
       try have hs := hs.fl 61 rfl h571
       refine h_nx (hw.cs [0] [] rfl rfl) fun hC => ?_
       refine ho 18 rfl ?_
       obtain ⟨c579, h575, h580, h573⟩ := hw.elemRX (α := Span) 1 rfl 1 rfl h572
       obtain ⟨_, _, rfl, rfl, rfl⟩ := h573
       refine sv hs (y_indexAt Try.runUnderlying27 Try.sizeOf46 rfl rfl h575.1 h575.2 rfl) rfl fun a hs => ?_
       refine h_nx (hw.cs [0] [] rfl rfl) fun hC => ?_
       refine ho 19 rfl ?_
       have h587 := hw.envAt 0 rfl
       refine w_storeF (α := Span) hs hw 1 rfl 1 rfl rfl rfl rfl Try.sizeOf46 rfl h581 ⟨_, _, rfl, rfl, rfl⟩ trivial ?_
       intro c583 a w hs hw
       have hw := hw.addE (e := LenA data1.length l582) (len_set (w := w) (S := S0) h587 h581)
       have h584 := setM_len h581
       try have hs := hs.fl 0 rfl h584
       try have hs := hs.fl 49 rfl h584
       try have hs := hs.fl 51 rfl h584
       try have hs := hs.fl 55 rfl h584
       try have hs := hs.fl 61 rfl h584
       refine h_nx (hw.cs [0] [] rfl rfl) fun hC => ?_
       refine h_done (by kernel_rfl) ?_
       exact ⟨Sv535, c583, (hs.wk rfl), (hw.ft [0, 1] [1, 0] (by decide) rfl rfl)⟩
      refine AllH.cons rfl ?_ ?_
      ·refine sv hs (y_loadQA (j := 0) (hw.ownAt 1 rfl) rfl Try.isAgg46 Try.sizeOf46 h558 rfl rfl) rfl fun a hs => ?_
       refine h_nx (hw.cs [0] [] rfl rfl) fun hC => ?_
       refine ho 11 rfl ?_
       refine sv hs (y_loadQA (j := 0) (hw.ownAt 1 rfl) rfl Try.isAgg46 Try.sizeOf46 h545 rfl rfl) rfl fun a hs => ?_
       refine h_nx (hw.cs [0] [] rfl rfl) fun hC => ?_
       refine gv hs 16 rfl rfl hC (fun w hC => y_indexAt Try.runUnderlying27 Try.sizeOf46 rfl rfl h562.1 h562.2 h563) fun a hs => ?_
       refine ho 17 rfl ?_
       have h588 := hw.envAt 1 rfl
       refine w_storeF (α := Span) hs hw 1 rfl 0 rfl h563 rfl rfl Try.sizeOf46 rfl h568 ⟨_, _, rfl, rfl, rfl⟩ trivial ?_
       intro c570 a w hs hw
       have hw := hw.addE (e := LenA data1.length l569) (len_set (w := w) (S := S0) h588 h568)
       have h571 := setM_len h568
       try have hs := hs.fl 0 rfl h571
       try have hs := hs.fl 49 rfl h571
       try have hs := hs.fl 51 rfl h571
       try have hs := hs.fl 55 rfl h571
       try have hs := hs.fl 61 rfl h571
       refine h_nx (hw.cs [0] [] rfl rfl) fun hC => ?_
       refine ho 18 rfl ?_
       obtain ⟨c579, h575, h580, h573⟩ := hw.elemRX (α := Span) 1 rfl 1 rfl h572
       obtain ⟨_, _, rfl, rfl, rfl⟩ := h573
       refine sv hs (y_indexAt Try.runUnderlying27 Try.sizeOf46 rfl rfl h575.1 h575.2 rfl) rfl fun a hs => ?_
       refine h_nx (hw.cs [0] [] rfl rfl) fun hC => ?_
       refine ho 19 rfl ?_
       have h589 := hw.envAt 0 rfl
       refine w_storeF (α := Span) hs hw 1 rfl 1 rfl rfl rfl rfl Try.sizeOf46 rfl h581 ⟨_, _, rfl, rfl, rfl⟩ trivial ?_
       intro c583 a w hs hw
       have hw := hw.addE (e := LenA data1.length l582) (len_set (w := w) (S := S0) h589 h581)
       have h584 := setM_len h581
       try have hs := hs.fl 0 rfl h584
       try have hs := hs.fl 49 rfl h584
       try have hs := hs.fl 51 rfl h584
       try have hs := hs.fl 55 rfl h584
       try have hs := hs.fl 61 rfl h584
       refine h_nx (hw.cs [0] [] rfl rfl) fun hC => ?_
       refine h_done (by kernel_rfl) ?_
       exact ⟨Sv535, c583, (hs.wk rfl), (hw.ft [0, 1] [1, 0] (by decide) rfl rfl)⟩
      exact AllH.nil
     rintro a w ⟨Sv585, c583, hs, hw⟩
     refine blk_normal ?_
     refine then_normal ?_
     refine wp_region_lit ?_
     refine mv hs rfl rfl fun a hs => ?_
     refine sv hs (y_add rfl rfl) rfl fun a hs => ?_
     obtain ⟨idx591, h590, hsh⟩ := bind_t hsh
     refine sv hs (y_assignI rfl h590) rfl fun a hs => ?_
     refine nl ?_
     exact ⟨_, (Option.some.inj hsh).symm, c583, Sv585, (hs.wk rfl), (hw.ft [0, 1] [0, 1] (by decide) rfl rfl)⟩
    have hsh := ite_f hsh h459
    refine wp_exit ?_
    refine then_exit ?_
    refine then_exit ?_
    refine blk_exit ?_
    have hsh := oi hsh
    subst hsh
    have h595 := hd452 _ rfl
    subst h595
    refine then_normal ?_
    exact ⟨c384, Sv385, (hs.wk rfl), (hw.ft [1] [0, 1] (by decide) rfl rfl)⟩
   rintro a w ⟨c456, Sv457, hs, hw⟩
   refine then_normal ?_
   exact ⟨e455, c456, Sv457, hsh, (hs.wk rfl), (hw.ft [0] [0, 1] (by decide) rfl rfl)⟩
  have hsh := ite_f hsh h238
  refine wp_skip ?_
  refine then_normal ?_
  exact ⟨data1, c4, S0, hsh, (hs.wk rfl), (hw.ft [0] [2, 1] (by decide) rfl rfl)⟩
 rintro a w ⟨x237, c235, Sv236, hsh, hs, hw⟩
 delta slices_breakPatternsCmpFunc_api_Span_j1 at hsh
 have hsh := oi hsh
 subst hsh
 exact ret0 hs rfl (hw.ret ⟨c235, rfl, (hw.outs [0] (by decide) rfl), (hw.envAt 0 rfl), (hw.envAt 1 rfl)⟩)

abbrev slices_pdqsortCmpFunc_api_Span_rd (w0 : World) (X : List Nat) (p2 : Option Addr) (k3 : Nat) (data1 : (List Span)) (r : (List Span)) : (Nat → Prop) → World → Value → Prop := fun S w v => ∃ (ck_0 : List Value), v = .tuple #[] ∧ Outs X w0 S w [.row p2 r.length k3 ck_0 46 2] ∧ (RowA ck_0 r).p S w ∧ (LenA data1.length r).p S w
set_option maxHeartbeats 4000000 in
set_option maxRecDepth 100000 in
theorem slices_pdqsortCmpFunc_api_Span_bok {frec : (List Span) → Int → Int → Int → (Span → Span → Option Int) → Option (List Span)} (hrec : ∀ {w0 : World} {S0 : Nat → Prop} {p2 : Option Addr} {k3 : Nat} {c4 : List Value} {g10 : Nat} {f11 : List Value} {cp12 : List Value} {data1 : (List Span)} {a6 : Int} {b7 : Int} {limit8 : Int} {cmp9 : Span → Span → Option Int} {r : (List Span)} (hsh : frec data1 a6 b7 limit8 cmp9 = some r) (hS : ∀ b, S0 b → b < w0.heap.size) (hin : Ins S0 w0 [.row p2 data1.length k3 c4 46 2]) (h5 : (RowA c4 data1).p S0 w0) (h13 : (FnA2 Try.prog g10 f11 cp12 cmp9).p S0 w0), Calls Try.prog 67 #[.slice p2 data1.length k3, .int .i64 a6, .int .i64 b7, .int .i64 limit8, .func (.func g10) f11.toArray cp12.toArray] w0 (Ret (blks [.row p2 data1.length k3 c4 46 2]) w0 S0 (slices_pdqsortCmpFunc_api_Span_rd w0 (blks [.row p2 data1.length k3 c4 46 2]) p2 k3 data1 r))) {w0 : World} {S0 : Nat → Prop} {p2 : Option Addr} {k3 : Nat} {c4 : List Value} {g10 : Nat} {f11 : List Value} {cp12 : List Value} {data1 : (List Span)} {a6 : Int} {b7 : Int} {limit8 : Int} {cmp9 : Span → Span → Option Int} {r : (List Span)} (hsh : slices_pdqsortCmpFunc_api_Span_body frec data1 a6 b7 limit8 cmp9 = some r) (hS : ∀ b, S0 b → b < w0.heap.size) (hin : Ins S0 w0 [.row p2 data1.length k3 c4 46 2]) (h5 : (RowA c4 data1).p S0 w0) (h13 : (FnA2 Try.prog g10 f11 cp12 cmp9).p S0 w0) : Calls Try.prog 67 #[.slice p2 data1.length k3, .int .i64 a6, .int .i64 b7, .int .i64 limit8, .func (.func g10) f11.toArray cp12.toArray] w0 (Ret (blks [.row p2 data1.length k3 c4 46 2]) w0 S0 (slices_pdqsortCmpFunc_api_Span_rd w0 (blks [.row p2 data1.length k3 c4 46 2]) p2 k3 data1 r)) := by
 refine calls_of_wp Try.func67 rfl ?_
 have hs := Sl.enter #[.slice p2 data1.length k3, .int .i64 a6, .int .i64 b7, .int .i64 limit8, .func (.func g10) f11.toArray cp12.toArray] 148 [(0, .slice p2 data1.length k3), (1, .int .i64 a6), (2, .int .i64 b7), (3, .int .i64 limit8), (4, .func (.func g10) f11.toArray cp12.toArray)] rfl ⟨rfl, rfl, rfl, rfl, rfl, trivial⟩
 have hw := Wd.enterI hS hin
 have hw := hw.addE h5
 have hw := hw.addE (e := LenA data1.length data1) len_rfl
 have hw := hw.addE h13
 delta slices_pdqsortCmpFunc_api_Span_body at hsh
 refine sr ?_
 refine av hs rfl rfl fun a hs => ?_
 refine nl ?_
 refine sr ?_
 refine av hs rfl rfl fun a hs => ?_
 refine nl ?_
 refine wp_block ?_
 refine wp_while (fun sv773 a w => ∃ (c1335 : List Value) (Sv1336 : Nat → Prop), Sl 148 [(0, .slice p2 sv773.1.length k3), (1, .int .i64 sv773.2.1), (2, .int .i64 sv773.2.2.1), (3, .int .i64 sv773.2.2.2.1), (4, .func (.func g10) f11.toArray cp12.toArray), (10, .bool sv773.2.2.2.2.1), (11, .bool sv773.2.2.2.2.2)] a ∧ Wd ⟨w0, S0, blks [.row p2 data1.length k3 c4 46 2]⟩ Sv1336 [.row p2 sv773.1.length k3 c1335 46 2] [FnA2 Try.prog g10 f11 cp12 cmp9, RowA c1335 sv773.1, LenA data1.length sv773.1] w) (data1, a6, b7, limit8, true, true) hsh ⟨c4, S0, (hs.wk rfl), (hw.ft [0] [0, 2, 1] (by decide) rfl rfl)⟩ ?_
 repeat clear hsh
 rintro sv773 a w tv1531 ⟨c1335, Sv1336, hs, hw⟩ hsh hd1530
 delta slices_pdqsortCmpFunc_api_Span_l2 at hsh
 refine wp_join (fun a w => ∃ (data1719 : (List Span)) (av1720 : Int) (b1721 : Int) (limit1722 : Int) (wasBalanced1723 : Bool) (wasPartitioned1724 : Bool) (c1717 : List Value) (Sv1718 : Nat → Prop), slices_pdqsortCmpFunc_api_Span_j1 data1719 av1720 b1721 limit1722 wasBalanced1723 wasPartitioned1724 = some tv1531 ∧ Sl 148 [(0, .slice p2 data1719.length k3), (1, .int .i64 av1720), (2, .int .i64 b1721), (3, .int .i64 limit1722), (4, .func (.func g10) f11.toArray cp12.toArray), (10, .bool wasBalanced1723), (11, .bool wasPartitioned1724)] a ∧ Wd ⟨w0, S0, blks [.row p2 data1.length k3 c4 46 2]⟩ Sv1718 [.row p2 data1719.length k3 c1717 46 2] [FnA2 Try.prog g10 f11 cp12 cmp9, RowA c1717 data1719, LenA data1.length data1719] w) ?_ ?_
 ·refine wp_block ?_
  refine sr ?_
  refine mv hs rfl rfl fun a hs => ?_
  refine mv hs rfl rfl fun a hs => ?_
  refine sv hs (y_sub rfl rfl) rfl fun a hs => ?_
  obtain ⟨length1726, h1725, hsh⟩ := bind_t hsh
  refine sv hs (y_assignI rfl h1725) rfl fun a hs => ?_
  refine nl ?_
  refine wp_seq ?_
  refine sr ?_
  refine mv hs rfl rfl fun a hs => ?_
  refine sv hs (y_leq rfl rfl) rfl fun a hs => ?_
  refine nl ?_
  refine wp_cond_split (hs.ev rfl) (fun h1740 => ?_) (fun h1740 => ?_)
  ·have hsh := ite_t hsh h1740
   refine sr ?_
   refine mv hs rfl rfl fun a hs => ?_
   refine mv hs rfl rfl fun a hs => ?_
   refine mv hs rfl rfl fun a hs => ?_
   refine mv hs rfl rfl fun a hs => ?_
   obtain ⟨rv1742, h1741, hsh⟩ := bind_t hsh
   refine st_callR hs (slices_insertionSortCmpFunc_api_Span_ok h1741 hw.dom (hw.ins [0] (by decide) rfl) (hw.envAt 1 rfl) (hw.envAt 0 rfl)) (do_call Try.call70 rfl) trivial rfl rfl ?_
   intro v1749 Sv1746 w a h1747 h1748 hs
   obtain ⟨c1743, rfl, h1750, h1744, h1745⟩ := h1748
   have hw := hw.callO [0] [] (by decide) rfl h1747 h1750
   have hw := hw.addE (e := RowA c1743 rv1742) h1744
   have hw := hw.addE (e := LenA data1.length rv1742) ((hw.envAt 3 rfl).trans h1745)
   have h1751 := h1745
   have h1752 := Eq.symm h1751
   try have hs := hs.fl 0 rfl h1752
   try have hs := hs.fl 26 rfl h1752
   refine nl ?_
   have hsh := oi hsh
   subst hsh
   have h1753 := hd1530 _ rfl
   subst h1753
   refine wp_ret ?_
   refine then_ret ?_
   refine blk_ret ?_
   refine then_ret ?_
   refine then_ret ?_
   refine blk_ret ?_
   exact ret0 hs rfl (hw.ret ⟨c1743, rfl, (hw.outs [0] (by decide) rfl), (hw.envAt 1 rfl), (hw.envAt 0 rfl)⟩)
  have hsh := ite_f hsh h1740
  refine wp_skip ?_
  refine then_normal ?_
  refine wp_seq ?_
  refine sr ?_
  refine mv hs rfl rfl fun a hs => ?_
  refine sv hs (y_eql rfl rfl) rfl fun a hs => ?_
  refine nl ?_
  refine wp_cond_split (hs.ev rfl) (fun h1767 => ?_) (fun h1767 => ?_)
  ·have hsh := ite_t hsh h1767
   refine sr ?_
   refine mv hs rfl rfl fun a hs => ?_
   refine mv hs rfl rfl fun a hs => ?_
   refine mv hs rfl rfl fun a hs => ?_
   refine mv hs rfl rfl fun a hs => ?_
   obtain ⟨rv1769, h1768, hsh⟩ := bind_t hsh
   refine st_callR hs (slices_heapSortCmpFunc_api_Span_ok h1768 hw.dom (hw.ins [0] (by decide) rfl) (hw.envAt 1 rfl) (hw.envAt 0 rfl)) (do_call Try.call71 rfl) trivial rfl rfl ?_
   intro v1776 Sv1773 w a h1774 h1775 hs
   obtain ⟨c1770, rfl, h1777, h1771, h1772⟩ := h1775
   have hw := hw.callO [0] [] (by decide) rfl h1774 h1777
   have hw := hw.addE (e := RowA c1770 rv1769) h1771
   have hw := hw.addE (e := LenA data1.length rv1769) ((hw.envAt 3 rfl).trans h1772)
   have h1778 := h1772
   have h1779 := Eq.symm h1778
   try have hs := hs.fl 0 rfl h1779
   try have hs := hs.fl 33 rfl h1779
   refine nl ?_
   have hsh := oi hsh
   subst hsh
   have h1780 := hd1530 _ rfl
   subst h1780
   refine wp_ret ?_
   refine then_ret ?_
   refine blk_ret ?_
   refine then_ret ?_
   refine then_ret ?_
   refine blk_ret ?_
   exact ret0 hs rfl (hw.ret ⟨c1770, rfl, (hw.outs [0] (by decide) rfl), (hw.envAt 1 rfl), (hw.envAt 0 rfl)⟩)
  have hsh := ite_f hsh h1767
  refine wp_skip ?_
  refine then_normal ?_
  refine wp_seq ?_
  refine sr ?_
  refine mv hs rfl rfl fun a hs => ?_
  refine sv hs (y_not rfl) rfl fun a hs => ?_
  refine nl ?_
  refine wp_join (fun a w => ∃ (data1798 : (List Span)) (limit1799 : Int) (c1796 : List Value) (Sv1797 : Nat → Prop), slices_pdqsortCmpFunc_api_Span_j2 cmp9 frec sv773 length1726 data1798 limit1799 = some tv1531 ∧ Sl 148 [(0, .slice p2 data1798.length k3), (1, .int .i64 sv773.2.1), (2, .int .i64 sv773.2.2.1), (3, .int .i64 limit1799), (4, .func (.func g10) f11.toArray cp12.toArray), (10, .bool sv773.2.2.2.2.1), (11, .bool sv773.2.2.2.2.2), (12, .int .i64 length1726)] a ∧ Wd ⟨w0, S0, blks [.row p2 data1.length k3 c4 46 2]⟩ Sv1797 [.row p2 data1798.length k3 c1796 46 2] [FnA2 Try.prog g10 f11 cp12 cmp9, RowA c1796 data1798, LenA data1.length data1798] w) ?_ ?_
  ·refine wp_cond_split (hs.ev rfl) (fun h2040 => ?_) (fun h2040 => ?_)
   ·have hsh := ite_t hsh h2040
    refine sr ?_
    refine mv hs rfl rfl fun a hs => ?_
    refine mv hs rfl rfl fun a hs => ?_
    refine mv hs rfl rfl fun a hs => ?_
    refine mv hs rfl rfl fun a hs => ?_
    obtain ⟨rv2042, h2041, hsh⟩ := bind_t hsh
    refine st_callR hs (slices_breakPatternsCmpFunc_api_Span_ok h2041 hw.dom (hw.ins [0] (by decide) rfl) (hw.envAt 1 rfl) (hw.envAt 0 rfl)) (do_call Try.call72 rfl) trivial rfl rfl ?_
    intro v2049 Sv2046 w a h2047 h2048 hs
    obtain ⟨c2043, rfl, h2050, h2044, h2045⟩ := h2048
    have hw := hw.callO [0] [] (by decide) rfl h2047 h2050
    have hw := hw.addE (e := RowA c2043 rv2042) h2044
    have hw := hw.addE (e := LenA data1.length rv2042) ((hw.envAt 3 rfl).trans h2045)
    have h2051 := h2045
    have h2052 := Eq.symm h2051
    try have hs := hs.fl 0 rfl h2052
    try have hs := hs.fl 40 rfl h2052
    refine nl ?_
    refine wp_region_lit ?_
    refine mv hs rfl rfl fun a hs => ?_
    refine sv hs (y_sub rfl rfl) rfl fun a hs => ?_
    obtain ⟨limit2054, h2053, hsh⟩ := bind_t hsh
    refine sv hs (y_assignI rfl h2053) rfl fun a hs => ?_
    refine nl ?_
    exact ⟨rv2042, limit2054, c2043, Sv2046, hsh, (hs.wk rfl), (hw.ft [0] [2, 1, 0] (by decide) rfl rfl)⟩
   have hsh := ite_f hsh h2040
   refine wp_skip ?_
   refine then_normal ?_
   exact ⟨sv773.1, sv773.2.2.2.1, c1335, Sv1336, hsh, (hs.wk rfl), (hw.ft [0] [0, 1, 2] (by decide) rfl rfl)⟩
  rintro a w ⟨data1798, limit1799, c1796, Sv1797, hsh, hs, hw⟩
  delta slices_pdqsortCmpFunc_api_Span_j2 at hsh
  refine then_normal ?_
  refine sr ?_
  refine mv hs rfl rfl fun a hs => ?_
  refine mv hs rfl rfl fun a hs => ?_
  refine mv hs rfl rfl fun a hs => ?_
  refine mv hs rfl rfl fun a hs => ?_
  obtain ⟨rv1801, h1800, hsh⟩ := bind_t hsh
  refine st_callR hs (slices_choosePivotCmpFunc_api_Span_ok h1800 hw.bdom (hw.bRow 0 rfl 1 rfl) (hw.bE 0 rfl)) (do_call Try.call73 rfl) trivial rfl rfl ?_
  intro v1805 Sv1802 w a h1803 h1804 hs
  subst h1804
  have hw := hw.callB h1803
  refine mv hs rfl rfl fun a hs => ?_
  refine sv hs (y_extract rfl rfl) rfl fun a hs => ?_
  refine sv hs (y_extract rfl rfl) rfl fun a hs => ?_
  refine av hs rfl rfl fun a hs => ?_
  refine av hs rfl rfl fun a hs => ?_
  refine nl ?_
  refine wp_seq ?_
  refine sr ?_
  refine mv hs rfl rfl fun a hs => ?_
  refine sv hs (y_eql rfl rfl) rfl fun a hs => ?_
  refine nl ?_
  refine wp_join (fun a w => ∃ (data1824 : (List Span)) (pivot1825 : Int) (hint1826 : Int) (c1822 : List Value) (Sv1823 : Nat → Prop), slices_pdqsortCmpFunc_api_Span_j3 cmp9 frec sv773 length1726 limit1799 data1824 pivot1825 hint1826 = some tv1531 ∧ Sl 148 [(0, .slice p2 data1824.length k3), (1, .int .i64 sv773.2.1), (2, .int .i64 sv773.2.2.1), (3, .int .i64 limit1799), (4, .func (.func g10) f11.toArray cp12.toArray), (10, .bool sv773.2.2.2.2.1), (11, .bool sv773.2.2.2.2.2), (12, .int .i64 length1726), (13, .int .i64 pivot1825), (14, .int .i64 hint1826)] a ∧ Wd ⟨w0, S0, blks [.row p2 data1.length k3 c4 46 2]⟩ Sv1823 [.row p2 data1824.length k3 c1822 46 2] [FnA2 Try.prog g10 f11 cp12 cmp9, RowA c1822 data1824, LenA data1.length data1824] w) ?_ ?_
  ·refine wp_cond_split (hs.ev rfl) (fun h2025 => ?_) (fun h2025 => ?_)
   ·have hsh := ite_t hsh h2025
    refine sr ?_
    refine mv hs rfl rfl fun a hs => ?_
    refine mv hs rfl rfl fun a hs => ?_
    refine mv hs rfl rfl fun a hs => ?_
    refine mv hs rfl rfl fun a hs => ?_
    obtain ⟨rv2027, h2026, hsh⟩ := bind_t hsh
    refine st_callR hs (slices_reverseRangeCmpFunc_api_Span_ok h2026 hw.dom (hw.ins [0] (by decide) rfl) (hw.envAt 1 rfl) (hw.envAt 0 rfl)) (do_call Try.call74 rfl) trivial rfl rfl ?_
    intro v2034 Sv2031 w a h2032 h2033 hs
    obtain ⟨c2028, rfl, h2035, h2029, h2030⟩ := h2033
    have hw := hw.callO [0] [] (by decide) rfl h2032 h2035
    have hw := hw.addE (e := RowA c2028 rv2027) h2029
    have hw := hw.addE (e := LenA data1.length rv2027) ((hw.envAt 3 rfl).trans h2030)
    have h2036 := h2030
    have h2037 := Eq.symm h2036
    try have hs := hs.fl 0 rfl h2037
    try have hs := hs.fl 57 rfl h2037
    refine nl ?_
    refine sr ?_
    refine mv hs rfl rfl fun a hs => ?_
    refine sv hs (y_sub rfl rfl) rfl fun a hs => ?_
    refine mv hs rfl rfl fun a hs => ?_
    refine mv hs rfl rfl fun a hs => ?_
    refine sv hs (y_sub rfl rfl) rfl fun a hs => ?_
    refine sv hs (y_sub rfl rfl) rfl fun a hs => ?_
    obtain ⟨pivot2039, h2038, hsh⟩ := bind_t hsh
    refine sv hs (y_assignI rfl h2038) rfl fun a hs => ?_
    refine nl ?_
    refine wp_region_lit ?_
    refine av hs rfl rfl fun a hs => ?_
    refine nl ?_
    exact ⟨rv2027, pivot2039, 1, c2028, Sv2031, hsh, (hs.wk rfl), (hw.ft [0] [2, 1, 0] (by decide) rfl rfl)⟩
   have hsh := ite_f hsh h2025
   refine wp_skip ?_
   refine then_normal ?_
   exact ⟨data1798, rv1801.1, rv1801.2, c1796, Sv1797, hsh, (hs.wk rfl), (hw.ft [0] [0, 1, 2] (by decide) rfl rfl)⟩
  rintro a w ⟨data1824, pivot1825, hint1826, c1822, Sv1823, hsh, hs, hw⟩
  delta slices_pdqsortCmpFunc_api_Span_j3 at hsh
  refine then_normal ?_
  refine wp_seq ?_
  refine sr ?_
  refine mv hs rfl rfl fun a hs => ?_
  refine mv hs rfl rfl fun a hs => ?_
  refine wpl_join 2 (fun a w1 => w = w1 ∧ Sl 148 [(0, .slice p2 data1824.length k3), (1, .int .i64 sv773.2.1), (2, .int .i64 sv773.2.2.1), (3, .int .i64 limit1799), (4, .func (.func g10) f11.toArray cp12.toArray), (10, .bool sv773.2.2.2.2.1), (11, .bool sv773.2.2.2.2.2), (12, .int .i64 length1726), (13, .int .i64 pivot1825), (14, .int .i64 hint1826), (71, .bool (sv773.2.2.2.2.1 && sv773.2.2.2.2.2))] a) ?_ ?_
  ·rcases Bool.eq_false_or_eq_true sv773.2.2.2.2.1 with h1827 | h1827
   ·have hs := hs.fix 69 (.bool true) rfl (vb h1827)
    refine st_val hs (y_move rfl) ⟨_, rfl, rfl⟩ rfl rfl fun a hs => ?_
    refine sv hs (y_pickT rfl rfl) rfl fun a hs => ?_
    refine nl ?_
    exact ⟨rfl, (hs.fix 71 (.bool (sv773.2.2.2.2.1 && sv773.2.2.2.2.2)) rfl (and_t h1827)).weaken _ ⟨rfl, rfl, rfl, rfl, rfl, rfl, rfl, rfl, rfl, rfl, rfl, trivial⟩⟩
   have hs := hs.fix 69 (.bool false) rfl (vb h1827)
   refine st_skip hs rfl rfl rfl rfl rfl fun a hs => ?_
   refine sv hs (y_pickF rfl rfl) rfl fun a hs => ?_
   refine nl ?_
   exact ⟨rfl, (hs.fix 71 (.bool (sv773.2.2.2.2.1 && sv773.2.2.2.2.2)) rfl (and_f h1827)).weaken _ ⟨rfl, rfl, rfl, rfl, rfl, rfl, rfl, rfl, rfl, rfl, rfl, trivial⟩⟩
  rintro a w1 ⟨h2024, hs⟩
  subst h2024
  refine mv hs rfl rfl fun a hs => ?_
  refine wpl_join 3 (fun a w1 => w = w1 ∧ Sl 148 [(0, .slice p2 data1824.length k3), (1, .int .i64 sv773.2.1), (2, .int .i64 sv773.2.2.1), (3, .int .i64 limit1799), (4, .func (.func g10) f11.toArray cp12.toArray), (10, .bool sv773.2.2.2.2.1), (11, .bool sv773.2.2.2.2.2), (12, .int .i64 length1726), (13, .int .i64 pivot1825), (75, .bool ((sv773.2.2.2.2.1 && sv773.2.2.2.2.2) && (hint1826 == 1)))] a) ?_ ?_
  ·rcases Bool.eq_false_or_eq_true (sv773.2.2.2.2.1 && sv773.2.2.2.2.2) with h1828 | h1828
   ·have hs := hs.fix 72 (.bool true) rfl (vb h1828)
    refine st_val hs (y_move rfl) ⟨_, rfl, rfl⟩ rfl rfl fun a hs => ?_
    refine st_val hs (y_eql rfl rfl) ⟨_, rfl, rfl⟩ rfl rfl fun a hs => ?_
    refine sv hs (y_pickT rfl rfl) rfl fun a hs => ?_
    refine nl ?_
    exact ⟨rfl, (hs.fix 75 (.bool ((sv773.2.2.2.2.1 && sv773.2.2.2.2.2) && (hint1826 == 1))) rfl (and_t h1828)).weaken _ ⟨rfl, rfl, rfl, rfl, rfl, rfl, rfl, rfl, rfl, rfl, trivial⟩⟩
   have hs := hs.fix 72 (.bool false) rfl (vb h1828)
   refine st_skip hs rfl rfl rfl rfl rfl fun a hs => ?_
   refine st_skip hs rfl rfl rfl rfl rfl fun a hs => ?_
   refine sv hs (y_pickF rfl rfl) rfl fun a hs => ?_
   refine nl ?_
   exact ⟨rfl, (hs.fix 75 (.bool ((sv773.2.2.2.2.1 && sv773.2.2.2.2.2) && (hint1826 == 1))) rfl (and_f h1828)).weaken _ ⟨rfl, rfl, rfl, rfl, rfl, rfl, rfl, rfl, rfl, rfl, trivial⟩⟩
  rintro a w1 ⟨h2023, hs⟩
  subst h2023
  refine nl ?_
  refine wp_join (fun a w => ∃ (data1845 : (List Span)) (c1843 : List Value) (Sv1844 : Nat → Prop), slices_pdqsortCmpFunc_api_Span_j4 cmp9 frec sv773 length1726 limit1799 pivot1825 data1845 = some tv1531 ∧ Sl 148 [(0, .slice p2 data1845.length k3), (1, .int .i64 sv773.2.1), (2, .int .i64 sv773.2.2.1), (3, .int .i64 limit1799), (4, .func (.func g10) f11.toArray cp12.toArray), (10, .bool sv773.2.2.2.2.1), (11, .bool sv773.2.2.2.2.2), (12, .int .i64 length1726), (13, .int .i64 pivot1825)] a ∧ Wd ⟨w0, S0, blks [.row p2 data1.length k3 c4 46 2]⟩ Sv1844 [.row p2 data1845.length k3 c1843 46 2] [FnA2 Try.prog g10 f11 cp12 cmp9, RowA c1843 data1845, LenA data1.length data1845] w) ?_ ?_
  ·refine wp_cond_split (hs.ev rfl) (fun h2007 => ?_) (fun h2007 => ?_)
   ·have hsh := ite_t hsh h2007
    refine sr ?_
    refine mv hs rfl rfl fun a hs => ?_
    refine mv hs rfl rfl fun a hs => ?_
    refine mv hs rfl rfl fun a hs => ?_
    refine mv hs rfl rfl fun a hs => ?_
    obtain ⟨rv2009, h2008, hsh⟩ := bind_t hsh
    refine st_callR hs (slices_partialInsertionSortCmpFunc_api_Span_ok h2008 hw.dom (hw.ins [0] (by decide) rfl) (hw.envAt 1 rfl) (hw.envAt 0 rfl)) (do_call Try.call75 rfl) trivial rfl rfl ?_
    intro v2016 Sv2013 w a h2014 h2015 hs
    obtain ⟨c2010, rfl, h2017, h2011, h2012⟩ := h2015
    have hw := hw.callO [0] [] (by decide) rfl h2014 h2017
    have hw := hw.addE (e := RowA c2010 rv2009.2) h2011
    have hw := hw.addE (e := LenA data1.length rv2009.2) ((hw.envAt 3 rfl).trans h2012)
    have h2018 := h2012
    have h2019 := Eq.symm h2018
    try have hs := hs.fl 0 rfl h2019
    try have hs := hs.fl 76 rfl h2019
    refine nl ?_
    refine wp_cond_split (hs.ev rfl) (fun h2021 => ?_) (fun h2021 => ?_)
    ·have hsh := ite_t hsh h2021
     have hsh := oi hsh
     subst hsh
     have h2022 := hd1530 _ rfl
     subst h2022
     refine wp_ret ?_
     refine then_ret ?_
     refine then_ret ?_
     refine blk_ret ?_
     refine then_ret ?_
     refine then_ret ?_
     refine blk_ret ?_
     exact ret0 hs rfl (hw.ret ⟨c2010, rfl, (hw.outs [0] (by decide) rfl), (hw.envAt 1 rfl), (hw.envAt 0 rfl)⟩)
    have hsh := ite_f hsh h2021
    refine wp_skip ?_
    refine then_normal ?_
    exact ⟨rv2009.2, c2010, Sv2013, hsh, (hs.wk rfl), (hw.ft [0] [2, 1, 0] (by decide) rfl rfl)⟩
   have hsh := ite_f hsh h2007
   refine wp_skip ?_
   refine then_normal ?_
   exact ⟨data1824, c1822, Sv1823, hsh, (hs.wk rfl), (hw.ft [0] [0, 1, 2] (by decide) rfl rfl)⟩
  rintro a w ⟨data1845, c1843, Sv1844, hsh, hs, hw⟩
  delta slices_pdqsortCmpFunc_api_Span_j4 at hsh
  refine then_normal ?_
  refine wp_seq ?_
  refine wp_seq ?_
  obtain ⟨c1870, hc1870, hsh⟩ := bind_t hsh
  refine wp_only (fun a w => ∃ (Sv1871 : Nat → Prop), Sl 148 [(0, .slice p2 data1845.length k3), (1, .int .i64 sv773.2.1), (2, .int .i64 sv773.2.2.1), (3, .int .i64 limit1799), (4, .func (.func g10) f11.toArray cp12.toArray), (10, .bool sv773.2.2.2.2.1), (11, .bool sv773.2.2.2.2.2), (12, .int .i64 length1726), (13, .int .i64 pivot1825), (97, .bool c1870)] a ∧ Wd ⟨w0, S0, blks [.row p2 data1.length k3 c4 46 2]⟩ Sv1871 [.row p2 data1845.length k3 c1843 46 2] [FnA2 Try.prog g10 f11 cp12 cmp9, RowA c1843 data1845, LenA data1.length data1845] w) ?_ ?_
  ·rcases Bool.eq_false_or_eq_true (decide (0 < sv773.2.1)) with h1872 | h1872
   ·have h1873 := ite_t hc1870 h1872
    obtain ⟨x1876, h1874, h1873⟩ := bind_t h1873
    obtain ⟨b1883, q1880, c1881, h1884, h1877, h1878, h1882, h1875⟩ := hw.elemRV (α := Span) 0 rfl 1 rfl h1874
    have hsv1885 := hs
    have hwv1886 := hw
    subst h1884
    have hs := hsv1885
    have hw := hwv1886
    obtain ⟨_, _, rfl, rfl, rfl⟩ := h1875
    obtain ⟨x1889, h1887, h1873⟩ := bind_t h1873
    obtain ⟨q1893, c1894, h1890, h1891, h1895, h1888⟩ := hw.elemRK (α := Span) 0 rfl 1 rfl h1887
    obtain ⟨_, _, rfl, rfl, rfl⟩ := h1888
    obtain ⟨rv1897, h1896, h1873⟩ := bind_t h1873
    refine h_b (C := Cls [.row (some ⟨b1883, 0, none⟩) data1845.length k3 c1843 46 2] []) (by kernel_rfl) rfl (hw.drew.cs [0] [] rfl rfl) fun hC => ?_
    have hw := hw.drew
    refine gm hs 0 rfl rfl rfl hC fun a hs => ?_
    refine gv hs 1 rfl rfl hC (fun w hC => y_gtr rfl rfl) fun a hs => ?_
    refine gm hs 2 rfl rfl rfl hC fun a hs => ?_
    have hs := hs.fix 83 (.bool true) rfl (vb h1872)
    refine gt hs 3 rfl ⟨_, rfl, rfl⟩ rfl hC (fun w hC => y_move rfl) fun a hs => ?_
    refine gt hs 4 rfl ⟨_, rfl, rfl⟩ rfl hC (fun w hC => y_move rfl) fun a hs => ?_
    refine gt hs 5 rfl ⟨_, rfl, rfl⟩ rfl hC (fun w hC => y_move rfl) fun a hs => ?_
    refine gt hs 6 rfl ⟨_, rfl, rfl⟩ rfl hC (fun w hC => y_sub rfl rfl) fun a hs => ?_
    refine gt hs 7 rfl ⟨_, rfl, rfl⟩ rfl hC (fun w hC => y_indexAt Try.runUnderlying27 Try.sizeOf46 rfl rfl h1877.1 h1877.2 h1878) fun a hs => ?_
    refine gt hs 8 rfl ⟨_, rfl, rfl⟩ rfl hC (fun w hC => y_loadQA (j := 0) (hC.ownAt 0 rfl) rfl Try.isAgg46 Try.sizeOf46 h1882 rfl rfl) fun a hs => ?_
    refine gt hs 9 rfl ⟨_, rfl, rfl⟩ rfl hC (fun w hC => y_move rfl) fun a hs => ?_
    refine gt hs 10 rfl ⟨_, rfl, rfl⟩ rfl hC (fun w hC => y_move rfl) fun a hs => ?_
    refine gt hs 11 rfl ⟨_, rfl, rfl⟩ rfl hC (fun w hC => y_indexAt Try.runUnderlying27 Try.sizeOf46 rfl rfl h1890.1 h1890.2 h1891) fun a hs => ?_
    refine gt hs 12 rfl ⟨_, rfl, rfl⟩ rfl hC (fun w hC => y_loadQA (j := 0) (hC.ownAt 0 rfl) rfl Try.isAgg46 Try.sizeOf46 h1895 rfl rfl) fun a hs => ?_
    refine ho 13 rfl ?_
    refine st_callR hs ((hw.bE 0 rfl).2 Keep.rfl' hw.bdom ⟨_, _, rfl, rfl, rfl⟩ ⟨_, _, rfl, rfl, rfl⟩ h1896) (do_callF (hw.bE 0 rfl).1 rfl rfl) ⟨_, rfl, rfl⟩ rfl rfl ?_
    intro v1901 Sv1898 w a h1899 h1900 hs
    subst h1900
    have hw := hw.callB h1899
    refine h_nx (hw.cs [0] [] rfl rfl) fun hC => ?_
    refine gt hs 14 rfl ⟨_, rfl, rfl⟩ rfl hC (fun w hC => y_lss rfl rfl) fun a hs => ?_
    refine gt hs 15 rfl ⟨_, rfl, rfl⟩ rfl hC (fun w hC => y_not rfl) fun a hs => ?_
    refine gv hs 16 rfl rfl hC (fun w hC => y_pickTE (v := .bool c1870) rfl rfl (vbs h1873)) fun a hs => ?_
    refine h_done (by kernel_rfl) ?_
    exact ⟨Sv1844, (hs.wk rfl), (hw.ft [0] [0, 1, 2] (by decide) rfl rfl)⟩
   have h1902 := ite_f hc1870 h1872
   refine h_b (C := Cls [.row p2 data1845.length k3 c1843 46 2] []) (by kernel_rfl) rfl (hw.drew.cs [0] [] rfl rfl) fun hC => ?_
   have hw := hw.drew
   refine gm hs 0 rfl rfl rfl hC fun a hs => ?_
   refine gv hs 1 rfl rfl hC (fun w hC => y_gtr rfl rfl) fun a hs => ?_
   refine gm hs 2 rfl rfl rfl hC fun a hs => ?_
   have hs := hs.fix 83 (.bool false) rfl (vb h1872)
   refine gs hs 3 rfl rfl rfl rfl hC fun a hs => ?_
   refine gs hs 4 rfl rfl rfl rfl hC fun a hs => ?_
   refine gs hs 5 rfl rfl rfl rfl hC fun a hs => ?_
   refine gs hs 6 rfl rfl rfl rfl hC fun a hs => ?_
   refine gs hs 7 rfl rfl rfl rfl hC fun a hs => ?_
   refine gs hs 8 rfl rfl rfl rfl hC fun a hs => ?_
   refine gs hs 9 rfl rfl rfl rfl hC fun a hs => ?_
   refine gs hs 10 rfl rfl rfl rfl hC fun a hs => ?_
   refine gs hs 11 rfl rfl rfl rfl hC fun a hs => ?_
   refine gs hs 12 rfl rfl rfl rfl hC fun a hs => ?_
   refine gs hs 13 rfl rfl rfl rfl hC fun a hs => ?_
   refine gs hs 14 rfl rfl rfl rfl hC fun a hs => ?_
   refine gs hs 15 rfl rfl rfl rfl hC fun a hs => ?_
   refine gv hs 16 rfl rfl hC (fun w hC => y_pickFE (v := .bool c1870) rfl rfl (vbs h1902)) fun a hs => ?_
   refine h_done (by kernel_rfl) ?_
   exact ⟨Sv1844, (hs.wk rfl), (hw.ft [0] [0, 1, 2] (by decide) rfl rfl)⟩
  rintro a w ⟨Sv1871, hs, hw⟩
  refine then_normal ?_
  refine wp_cond_split (hs.ev rfl) (fun h1916 => ?_) (fun h1916 => ?_)
  ·have hsh := ite_t hsh h1916
   refine sr ?_
   refine mv hs rfl rfl fun a hs => ?_
   refine mv hs rfl rfl fun a hs => ?_
   refine mv hs rfl rfl fun a hs => ?_
   refine mv hs rfl rfl fun a hs => ?_
   refine mv hs rfl rfl fun a hs => ?_
   obtain ⟨rv1918, h1917, hsh⟩ := bind_t hsh
   refine st_callR hs (slices_partitionEqualCmpFunc_api_Span_ok h1917 hw.dom (hw.ins [0] (by decide) rfl) (hw.envAt 1 rfl) (hw.envAt 0 rfl)) (do_call Try.call76 rfl) trivial rfl rfl ?_
   intro v1925 Sv1922 w a h1923 h1924 hs
   obtain ⟨c1919, rfl, h1926, h1920, h1921⟩ := h1924
   have hw := hw.callO [0] [] (by decide) rfl h1923 h1926
   have hw := hw.addE (e := RowA c1919 rv1918.2) h1920
   have hw := hw.addE (e := LenA data1.length rv1918.2) ((hw.envAt 3 rfl).trans h1921)
   have h1927 := h1921
   have h1928 := Eq.symm h1927
   try have hs := hs.fl 0 rfl h1928
   try have hs := hs.fl 98 rfl h1928
   refine av hs rfl rfl fun a hs => ?_
   refine nl ?_
   refine sr ?_
   refine mv hs rfl rfl fun a hs => ?_
   refine av hs rfl rfl fun a hs => ?_
   refine nl ?_
   refine wp_exit ?_
   refine then_exit ?_
   refine blk_exit ?_
   refine then_normal ?_
   exact ⟨rv1918.2, rv1918.1, sv773.2.2.1, limit1799, sv773.2.2.2.2.1, sv773.2.2.2.2.2, c1919, Sv1922, hsh, (hs.wk rfl), (hw.ft [0] [2, 1, 0] (by decide) rfl rfl)⟩
  have hsh := ite_f hsh h1916
  refine wp_skip ?_
  refine then_normal ?_
  refine sr ?_
  refine mv hs rfl rfl fun a hs => ?_
  refine mv hs rfl rfl fun a hs => ?_
  refine mv hs rfl rfl fun a hs => ?_
  refine mv hs rfl rfl fun a hs => ?_
  refine mv hs rfl rfl fun a hs => ?_
  obtain ⟨rv1930, h1929, hsh⟩ := bind_t hsh
  refine st_callR hs (slices_partitionCmpFunc_api_Span_ok h1929 hw.dom (hw.ins [0] (by decide) rfl) (hw.envAt 1 rfl) (hw.envAt 0 rfl)) (do_call Try.call77 rfl) trivial rfl rfl ?_
  intro v1937 Sv1934 w a h1935 h1936 hs
  obtain ⟨c1931, rfl, h1938, h1932, h1933⟩ := h1936
  have hw := hw.callO [0] [] (by decide) rfl h1935 h1938
  have hw := hw.addE (e := RowA c1931 rv1930.2.2) h1932
  have hw := hw.addE (e := LenA data1.length rv1930.2.2) ((hw.envAt 3 rfl).trans h1933)
  have h1939 := h1933
  have h1940 := Eq.symm h1939
  try have hs := hs.fl 0 rfl h1940
  try have hs := hs.fl 106 rfl h1940
  refine mv hs rfl rfl fun a hs => ?_
  refine sv hs (y_extract rfl rfl) rfl fun a hs => ?_
  refine sv hs (y_extract rfl rfl) rfl fun a hs => ?_
  refine av hs rfl rfl fun a hs => ?_
  refine av hs rfl rfl fun a hs => ?_
  refine nl ?_
  refine sr ?_
  refine mv hs rfl rfl fun a hs => ?_
  refine av hs rfl rfl fun a hs => ?_
  refine nl ?_
  refine sr ?_
  refine mv hs rfl rfl fun a hs => ?_
  refine mv hs rfl rfl fun a hs => ?_
  refine sv hs (y_sub rfl rfl) rfl fun a hs => ?_
  refine mv hs rfl rfl fun a hs => ?_
  refine mv hs rfl rfl fun a hs => ?_
  refine sv hs (y_sub rfl rfl) rfl fun a hs => ?_
  obtain ⟨leftLen1942, h1941, hsh⟩ := bind_t hsh
  refine sv hs (y_assignI rfl h1941) rfl fun a hs => ?_
  obtain ⟨rightLen1944, h1943, hsh⟩ := bind_t hsh
  refine sv hs (y_assignI rfl h1943) rfl fun a hs => ?_
  refine nl ?_
  refine sr ?_
  refine mv hs rfl rfl fun a hs => ?_
  refine sv hs (y_quo rfl rfl (by decide)) rfl fun a hs => ?_
  obtain ⟨balanceThreshold1946, h1945, hsh⟩ := bind_t hsh
  refine sv hs (y_assignI rfl h1945) rfl fun a hs => ?_
  refine nl ?_
  refine sr ?_
  refine mv hs rfl rfl fun a hs => ?_
  refine mv hs rfl rfl fun a hs => ?_
  refine sv hs (y_lss rfl rfl) rfl fun a hs => ?_
  refine nl ?_
  refine wp_join (fun a w => ∃ (data1976 : (List Span)) (av1977 : Int) (b1978 : Int) (wasBalanced1979 : Bool) (c1974 : List Value) (Sv1975 : Nat → Prop), slices_pdqsortCmpFunc_api_Span_j5 limit1799 rv1930 data1976 av1977 b1978 wasBalanced1979 = some tv1531 ∧ Sl 148 [(0, .slice p2 data1976.length k3), (1, .int .i64 av1977), (2, .int .i64 b1978), (3, .int .i64 limit1799), (4, .func (.func g10) f11.toArray cp12.toArray), (10, .bool wasBalanced1979), (11, .bool rv1930.2.1)] a ∧ Wd ⟨w0, S0, blks [.row p2 data1.length k3 c4 46 2]⟩ Sv1975 [.row p2 data1976.length k3 c1974 46 2] [FnA2 Try.prog g10 f11 cp12 cmp9, RowA c1974 data1976, LenA data1.length data1976] w) ?_ ?_
  ·refine wp_cond_split (hs.ev rfl) (fun h1980 => ?_) (fun h1980 => ?_)
   ·have hsh := ite_t hsh h1980
    refine sr ?_
    refine mv hs rfl rfl fun a hs => ?_
    refine mv hs rfl rfl fun a hs => ?_
    refine sv hs (y_geq rfl rfl) rfl fun a hs => ?_
    refine av hs rfl rfl fun a hs => ?_
    refine nl ?_
    refine sr ?_
    refine mv hs rfl rfl fun a hs => ?_
    refine mv hs rfl rfl fun a hs => ?_
    refine mv hs rfl rfl fun a hs => ?_
    refine mv hs rfl rfl fun a hs => ?_
    refine mv hs rfl rfl fun a hs => ?_
    obtain ⟨rv1982, h1981, hsh⟩ := bind_t hsh
    refine st_callR hs (hrec h1981 hw.dom (hw.ins [0] (by decide) rfl) (hw.envAt 1 rfl) (hw.envAt 2 rfl)) (do_call Try.call67 rfl) trivial rfl rfl ?_
    intro v1989 Sv1986 w a h1987 h1988 hs
    obtain ⟨c1983, rfl, h1990, h1984, h1985⟩ := h1988
    have hw := hw.callO [0] [] (by decide) rfl h1987 h1990
    have hw := hw.addE (e := RowA c1983 rv1982) h1984
    have hw := hw.addE (e := LenA data1.length rv1982) ((hw.envAt 1 rfl).trans h1985)
    have h1991 := h1985
    have h1992 := Eq.symm h1991
    try have hs := hs.fl 0 rfl h1992
    try have hs := hs.fl 129 rfl h1992
    refine nl ?_
    refine wp_region_lit ?_
    refine mv hs rfl rfl fun a hs => ?_
    refine sv hs (y_add rfl rfl) rfl fun a hs => ?_
    obtain ⟨av1994, h1993, hsh⟩ := bind_t hsh
    refine sv hs (y_assignI rfl h1993) rfl fun a hs => ?_
    refine nl ?_
    exact ⟨rv1982, av1994, sv773.2.2.1, (decide (balanceThreshold1946 ≤ leftLen1942)), c1983, Sv1986, hsh, (hs.wk rfl), (hw.ft [0] [4, 1, 0] (by decide) rfl rfl)⟩
   have hsh := ite_f hsh h1980
   refine sr ?_
   refine mv hs rfl rfl fun a hs => ?_
   refine mv hs rfl rfl fun a hs => ?_
   refine sv hs (y_geq rfl rfl) rfl fun a hs => ?_
   refine av hs rfl rfl fun a hs => ?_
   refine nl ?_
   refine sr ?_
   refine mv hs rfl rfl fun a hs => ?_
   refine mv hs rfl rfl fun a hs => ?_
   refine sv hs (y_add rfl rfl) rfl fun a hs => ?_
   refine mv hs rfl rfl fun a hs => ?_
   refine mv hs rfl rfl fun a hs => ?_
   refine mv hs rfl rfl fun a hs => ?_
   obtain ⟨rv1996, h1995, hsh⟩ := bind_t hsh
   refine st_callR hs (hrec h1995 hw.dom (hw.ins [0] (by decide) rfl) (hw.envAt 1 rfl) (hw.envAt 2 rfl)) (do_call Try.call67 rfl) trivial rfl rfl ?_
   intro v2003 Sv2000 w a h2001 h2002 hs
   obtain ⟨c1997, rfl, h2004, h1998, h1999⟩ := h2002
   have hw := hw.callO [0] [] (by decide) rfl h2001 h2004
   have hw := hw.addE (e := RowA c1997 rv1996) h1998
   have hw := hw.addE (e := LenA data1.length rv1996) ((hw.envAt 1 rfl).trans h1999)
   have h2005 := h1999
   have h2006 := Eq.symm h2005
   try have hs := hs.fl 0 rfl h2006
   try have hs := hs.fl 140 rfl h2006
   refine nl ?_
   refine wp_region_lit ?_
   refine mv hs rfl rfl fun a hs => ?_
   refine av hs rfl rfl fun a hs => ?_
   refine nl ?_
   exact ⟨rv1996, sv773.2.1, rv1930.1, (decide (balanceThreshold1946 ≤ rightLen1944)), c1997, Sv2000, hsh, (hs.wk rfl), (hw.ft [0] [4, 1, 0] (by decide) rfl rfl)⟩
  rintro a w ⟨data1976, av1977, b1978, wasBalanced1979, c1974, Sv1975, hsh, hs, hw⟩
  delta slices_pdqsortCmpFunc_api_Span_j5 at hsh
  refine blk_normal ?_
  refine then_normal ?_
  exact ⟨data1976, av1977, b1978, limit1799, wasBalanced1979, rv1930.2.1, c1974, Sv1975, hsh, (hs.wk rfl), (hw.ft [0] [0, 1, 2] (by decide) rfl rfl)⟩
 rintro a w ⟨data1719, av1720, b1721, limit1722, wasBalanced1723, wasPartitioned1724, c1717, Sv1718, hsh, hs, hw⟩
 delta slices_pdqsortCmpFunc_api_Span_j1 at hsh
 refine then_normal ?_
 exact ⟨_, (Option.some.inj hsh).symm, c1717, Sv1718, (hs.wk rfl), (hw.ft [0] [0, 1, 2] (by decide) rfl rfl)⟩
theorem slices_pdqsortCmpFunc_api_Span_nok (n : Nat) : ∀ {w0 : World} {S0 : Nat → Prop} {p2 : Option Addr} {k3 : Nat} {c4 : List Value} {g10 : Nat} {f11 : List Value} {cp12 : List Value} {data1 : (List Span)} {a6 : Int} {b7 : Int} {limit8 : Int} {cmp9 : Span → Span → Option Int} {r : (List Span)} (hsh : slices_pdqsortCmpFunc_api_Span_n n data1 a6 b7 limit8 cmp9 = some r) (hS : ∀ b, S0 b → b < w0.heap.size) (hin : Ins S0 w0 [.row p2 data1.length k3 c4 46 2]) (h5 : (RowA c4 data1).p S0 w0) (h13 : (FnA2 Try.prog g10 f11 cp12 cmp9).p S0 w0), Calls Try.prog 67 #[.slice p2 data1.length k3, .int .i64 a6, .int .i64 b7, .int .i64 limit8, .func (.func g10) f11.toArray cp12.toArray] w0 (Ret (blks [.row p2 data1.length k3 c4 46 2]) w0 S0 (slices_pdqsortCmpFunc_api_Span_rd w0 (blks [.row p2 data1.length k3 c4 46 2]) p2 k3 data1 r)) := by
 induction n with
 | zero =>
   intro w0 S0 p2 k3 c4 g10 f11 cp12 data1 a6 b7 limit8 cmp9 r hsh
   have h : (none : Option _) = some r := hsh
   cases h
 | succ n ih =>
   intro w0 S0 p2 k3 c4 g10 f11 cp12 data1 a6 b7 limit8 cmp9 r hsh hS hin h5 h13
   exact slices_pdqsortCmpFunc_api_Span_bok (frec := slices_pdqsortCmpFunc_api_Span_n n) ih hsh hS hin h5 h13
theorem slices_pdqsortCmpFunc_api_Span_ok {w0 : World} {S0 : Nat → Prop} {p2 : Option Addr} {k3 : Nat} {c4 : List Value} {g10 : Nat} {f11 : List Value} {cp12 : List Value} {data1 : (List Span)} {a6 : Int} {b7 : Int} {limit8 : Int} {cmp9 : Span → Span → Option Int} {r : (List Span)} (hsh : slices_pdqsortCmpFunc_api_Span data1 a6 b7 limit8 cmp9 = some r) (hS : ∀ b, S0 b → b < w0.heap.size) (hin : Ins S0 w0 [.row p2 data1.length k3 c4 46 2]) (h5 : (RowA c4 data1).p S0 w0) (h13 : (FnA2 Try.prog g10 f11 cp12 cmp9).p S0 w0) : Calls Try.prog 67 #[.slice p2 data1.length k3, .int .i64 a6, .int .i64 b7, .int .i64 limit8, .func (.func g10) f11.toArray cp12.toArray] w0 (Ret (blks [.row p2 data1.length k3 c4 46 2]) w0 S0 (slices_pdqsortCmpFunc_api_Span_rd w0 (blks [.row p2 data1.length k3 c4 46 2]) p2 k3 data1 r)) := slices_pdqsortCmpFunc_api_Span_nok 200 hsh hS hin h5 h13

abbrev slices_SortFunc_Lapi_Span_api_Span_rd (w0 : World) (X : List Nat) (p2 : Option Addr) (k3 : Nat) (x1 : (List Span)) (r : (List Span)) : (Nat → Prop) → World → Value → Prop := fun S w v => ∃ (ck_0 : List Value), v = .tuple #[] ∧ Outs X w0 S w [.row p2 r.length k3 ck_0 46 2] ∧ (RowA ck_0 r).p S w ∧ (LenA x1.length r).p S w
set_option maxHeartbeats 4000000 in
set_option maxRecDepth 100000 in
theorem slices_SortFunc_Lapi_Span_api_Span_ok {w0 : World} {S0 : Nat → Prop} {p2 : Option Addr} {k3 : Nat} {c4 : List Value} {g7 : Nat} {f8 : List Value} {cp9 : List Value} {x1 : (List Span)} {cmp6 : Span → Span → Option Int} {r : (List Span)} (hsh : slices_SortFunc_Lapi_Span_api_Span x1 cmp6 = some r) (hS : ∀ b, S0 b → b < w0.heap.size) (hin : Ins S0 w0 [.row p2 x1.length k3 c4 46 2]) (h5 : (RowA c4 x1).p S0 w0) (h10 : (FnA2 Try.prog g7 f8 cp9 cmp6).p S0 w0) : Calls Try.prog 62 #[.slice p2 x1.length k3, .func (.func g7) f8.toArray cp9.toArray] w0 (Ret (blks [.row p2 x1.length k3 c4 46 2]) w0 S0 (slices_SortFunc_Lapi_Span_api_Span_rd w0 (blks [.row p2 x1.length k3 c4 46 2]) p2 k3 x1 r)) := by
 refine calls_of_wp Try.func62 rfl ?_
 have hs := Sl.enter #[.slice p2 x1.length k3, .func (.func g7) f8.toArray cp9.toArray] 14 [(0, .slice p2 x1.length k3), (1, .func (.func g7) f8.toArray cp9.toArray)] rfl ⟨rfl, rfl, trivial⟩
 have hw := Wd.enterI hS hin
 have hw := hw.addE h5
 have hw := hw.addE (e := LenA x1.length x1) len_rfl
 have hw := hw.addE h10
 delta slices_SortFunc_Lapi_Span_api_Span at hsh
 refine sr ?_
 refine mv hs rfl rfl fun a hs => ?_
 refine sv hs (y_len Try.runUnderlying27 rfl) rfl fun a hs => ?_
 obtain ⟨n12, h11, hsh⟩ := bind_t hsh
 refine sv hs (y_assignI rfl h11) rfl fun a hs => ?_
 refine nl ?_
 refine wp_region_lit ?_
 refine mv hs rfl rfl fun a hs => ?_
 refine mv hs rfl rfl fun a hs => ?_
 refine mv hs rfl rfl fun a hs => ?_
 refine sv hs (y_convert Try.runUnderlying3 Try.runUnderlying68 rfl) rfl fun a hs => ?_
 obtain ⟨rv14, h13, hsh⟩ := bind_t hsh
 refine st_callR hs (math_bits_Len_ok h13 hw.bdom) (do_call Try.call68 rfl) trivial rfl rfl ?_
 intro v18 Sv15 w a h16 h17 hs
 subst h17
 have hw := hw.callB h16
 refine mv hs rfl rfl fun a hs => ?_
 obtain ⟨rv21, h20, hsh⟩ := bind_t hsh
 refine st_callR hs (slices_pdqsortCmpFunc_api_Span_ok h20 hw.dom (hw.ins [0] (by decide) rfl) (hw.envAt 2 rfl) (hw.envAt 0 rfl)) (do_call Try.call67 rfl) trivial rfl rfl ?_
 intro v28 Sv25 w a h26 h27 hs
 obtain ⟨c22, rfl, h29, h23, h24⟩ := h27
 have hw := hw.callO [0] [] (by decide) rfl h26 h29
 have hw := hw.addE (e := RowA c22 rv21) h23
 have hw := hw.addE (e := LenA x1.length rv21) ((hw.envAt 2 rfl).trans h24)
 have h30 := h24
 have h31 := Eq.symm h30
 try have hs := hs.fl 0 rfl h31
 try have hs := hs.fl 7 rfl h31
 refine wpList_nil ?_
 have hsh := oi hsh
 subst hsh
 exact ret0 hs rfl (hw.ret ⟨c22, rfl, (hw.outs [0] (by decide) rfl), (hw.envAt 1 rfl), (hw.envAt 0 rfl)⟩)

abbrev cmp_isNaN_int_rd (w0 : World) (X : List Nat) (r : Bool) : (Nat → Prop) → World → Value → Prop := fun S w v => v = .bool r
set_option maxHeartbeats 4000000 in
set_option maxRecDepth 100000 in
theorem cmp_isNaN_int_ok {w0 : World} {S0 : Nat → Prop} {x1 : Int} {r : Bool} (hsh : cmp_isNaN_int x1 = some r) (hS : ∀ b, S0 b → b < w0.heap.size) : Calls Try.prog 69 #[.int .i64 x1] w0 (Ret ([]) w0 S0 (cmp_isNaN_int_rd w0 ([]) r)) := by
 refine calls_of_wp Try.func69 rfl ?_
 have hs := Sl.enter #[.int .i64 x1] 6 [(0, .int .i64 x1)] rfl ⟨rfl, trivial⟩
 have hw := Wd.enter (E := []) hS (fun _ h => (by cases h))
 delta cmp_isNaN_int at hsh
 refine sr ?_
 refine av hs rfl rfl fun a hs => ?_
 refine nl ?_
 refine sr ?_
 refine mv hs rfl rfl fun a hs => ?_
 refine mv hs rfl rfl fun a hs => ?_
 refine sv hs (y_neq rfl rfl) rfl fun a hs => ?_
 refine av hs rfl rfl fun a hs => ?_
 refine nl ?_
 have hsh := oi hsh
 subst hsh
 refine wp_ret ?_
 exact ret1 hs rfl (rv_tmp rfl) (hw.ret rfl)

abbrev cmp_Compare_int_rd (w0 : World) (X : List Nat) (r : Int) : (Nat → Prop) → World → Value → Prop := fun S w v => v = .int .i64 r
set_option maxHeartbeats 4000000 in
set_option maxRecDepth 100000 in
theorem cmp_Compare_int_ok {w0 : World} {S0 : Nat → Prop} {x1 : Int} {y2 : Int} {r : Int} (hsh : cmp_Compare_int x1 y2 = some r) (hS : ∀ b, S0 b → b < w0.heap.size) : Calls Try.prog 64 #[.int .i64 x1, .int .i64 y2] w0 (Ret ([]) w0 S0 (cmp_Compare_int_rd w0 ([]) r)) := by
 refine calls_of_wp Try.func64 rfl ?_
 have hs := Sl.enter #[.int .i64 x1, .int .i64 y2] 20 [(0, .int .i64 x1), (1, .int .i64 y2)] rfl ⟨rfl, rfl, trivial⟩
 have hw := Wd.enter (E := []) hS (fun _ h => (by cases h))
 delta cmp_Compare_int at hsh
 refine sr ?_
 refine av hs rfl rfl fun a hs => ?_
 refine nl ?_
 refine sr ?_
 refine mv hs rfl rfl fun a hs => ?_
 obtain ⟨rv4, h3, hsh⟩ := bind_t hsh
 refine st_callR hs (cmp_isNaN_int_ok h3 hw.bdom) (do_call Try.call69 rfl) trivial rfl rfl ?_
 intro v8 Sv5 w a h6 h7 hs
 subst h7
 have hw := hw.callB h6
 refine av hs rfl rfl fun a hs => ?_
 refine nl ?_
 refine sr ?_
 refine mv hs rfl rfl fun a hs => ?_
 obtain ⟨rv11, h10, hsh⟩ := bind_t hsh
 refine st_callR hs (cmp_isNaN_int_ok h10 hw.bdom) (do_call Try.call69 rfl) trivial rfl rfl ?_
 intro v15 Sv12 w a h13 h14 hs
 subst h14
 have hw := hw.callB h13
 refine av hs rfl rfl fun a hs => ?_
 refine nl ?_
 refine wp_seq ?_
 refine sr ?_
 refine mv hs rfl rfl fun a hs => ?_
 refine nl ?_
 refine wp_cond_split (hs.ev rfl) (fun h19 => ?_) (fun h19 => ?_)
 ·have hsh := ite_t hsh h19
  refine wp_seq ?_
  refine sr ?_
  refine mv hs rfl rfl fun a hs => ?_
  refine nl ?_
  refine wp_cond_split (hs.ev rfl) (fun h21 => ?_) (fun h21 => ?_)
  ·have hsh := ite_t hsh h21
   refine sr ?_
   refine av hs rfl rfl fun a hs => ?_
   refine nl ?_
   have hsh := oi hsh
   subst hsh
   refine wp_ret ?_
   refine then_ret ?_
   refine then_ret ?_
   exact ret1 hs rfl (rv_tmp rfl) (hw.ret rfl)
  have hsh := ite_f hsh h21
  refine wp_skip ?_
  refine then_normal ?_
  refine sr ?_
  refine av hs rfl rfl fun a hs => ?_
  refine nl ?_
  have hsh := oi hsh
  subst hsh
  refine wp_ret ?_
  refine then_ret ?_
  exact ret1 hs rfl (rv_tmp rfl) (hw.ret rfl)
 have hsh := ite_f hsh h19
 refine wp_skip ?_
 refine then_normal ?_
 refine wp_seq ?_
 refine sr ?_
 refine mv hs rfl rfl fun a hs => ?_
 refine nl ?_
 refine wp_cond_split (hs.ev rfl) (fun h23 => ?_) (fun h23 => ?_)
 ·have hsh := ite_t hsh h23
  refine sr ?_
  refine av hs rfl rfl fun a hs => ?_
  refine nl ?_
  have hsh := oi hsh
  subst hsh
  refine wp_ret ?_
  refine then_ret ?_
  exact ret1 hs rfl (rv_tmp rfl) (hw.ret rfl)
 have hsh := ite_f hsh h23
 refine wp_skip ?_
 refine then_normal ?_
 refine wp_seq ?_
 refine sr ?_
 refine mv hs rfl rfl fun a hs => ?_
 refine mv hs rfl rfl fun a hs => ?_
 refine sv hs (y_lss rfl rfl) rfl fun a hs => ?_
 refine nl ?_
 refine wp_cond_split (hs.ev rfl) (fun h25 => ?_) (fun h25 => ?_)
 ·have hsh := ite_t hsh h25
  refine sr ?_
  refine av hs rfl rfl fun a hs => ?_
  refine nl ?_
  have hsh := oi hsh
  subst hsh
  refine wp_ret ?_
  refine then_ret ?_
  exact ret1 hs rfl (rv_tmp rfl) (hw.ret rfl)
 have hsh := ite_f hsh h25
 refine wp_skip ?_
 refine then_normal ?_
 refine wp_seq ?_
 refine sr ?_
 refine mv hs rfl rfl fun a hs => ?_
 refine mv hs rfl rfl fun a hs => ?_
 refine sv hs (y_gtr rfl rfl) rfl fun a hs => ?_
 refine nl ?_
 refine wp_cond_split (hs.ev rfl) (fun h27 => ?_) (fun h27 => ?_)
 ·have hsh := ite_t hsh h27
  refine sr ?_
  refine av hs rfl rfl fun a hs => ?_
  refine nl ?_
  have hsh := oi hsh
  subst hsh
  refine wp_ret ?_
  refine then_ret ?_
  exact ret1 hs rfl (rv_tmp rfl) (hw.ret rfl)
 have hsh := ite_f hsh h27
 refine wp_skip ?_
 refine then_normal ?_
 refine sr ?_
 refine av hs rfl rfl fun a hs => ?_
 refine nl ?_
 have hsh := oi hsh
 subst hsh
 refine wp_ret ?_
 exact ret1 hs rfl (rv_tmp rfl) (hw.ret rfl)

abbrev span_Normal_fn2_rd (w0 : World) (X : List Nat) (r : Int) : (Nat → Prop) → World → Value → Prop := fun S w v => v = .int .i64 r
set_option maxHeartbeats 4000000 in
set_option maxRecDepth 100000 in
theorem span_Normal_fn2_ok {w0 : World} {S0 : Nat → Prop} {a1 : Span} {b2 : Span} {r : Int} (hsh : span_Normal_fn2 a1 b2 = some r) (hS : ∀ b, S0 b → b < w0.heap.size) : Calls Try.prog 63 #[.agg #[.int .i64 a1.From, .int .i64 a1.To], .agg #[.int .i64 b2.From, .int .i64 b2.To]] w0 (Ret ([]) w0 S0 (span_Normal_fn2_rd w0 ([]) r)) := by
 refine calls_of_wp Try.func63 rfl ?_
 have hs := Sl.enter #[.agg #[.int .i64 a1.From, .int .i64 a1.To], .agg #[.int .i64 b2.From, .int .i64 b2.To]] 10 [(0, .agg #[.int .i64 a1.From, .int .i64 a1.To]), (1, .agg #[.int .i64 b2.From, .int .i64 b2.To])] rfl ⟨rfl, rfl, trivial⟩
 have hw := Wd.enter (E := []) hS (fun _ h => (by cases h))
 delta span_Normal_fn2 at hsh
 refine sr ?_
 refine w_box (cs := [.int .i64 a1.From, .int .i64 a1.To]) hs hw rfl rfl rfl trivial ?_
 intro b3 a w hs hw
 refine w_box (cs := [.int .i64 b2.From, .int .i64 b2.To]) hs hw rfl rfl rfl trivial ?_
 intro b4 a w hs hw
 refine av hs rfl rfl fun a hs => ?_
 refine nl ?_
 refine sr ?_
 refine sv hs (y_fieldAddr (o' := 0) Try.runUnderlying46 rfl Try.sizeOf3 rfl rfl rfl) rfl fun a hs => ?_
 refine sv hs (y_loadB1 (hw.ownAt 1 rfl) rfl Try.isAgg3 rfl) rfl fun a hs => ?_
 refine sv hs (y_fieldAddr (o' := 0) Try.runUnderlying46 rfl Try.sizeOf3 rfl rfl rfl) rfl fun a hs => ?_
 refine sv hs (y_loadB1 (hw.ownAt 0 rfl) rfl Try.isAgg3 rfl) rfl fun a hs => ?_
 obtain ⟨rv6, h5, hsh⟩ := bind_t hsh
 refine st_callR hs (cmp_Compare_int_ok h5 hw.bdom) (do_call Try.call64 rfl) trivial rfl rfl ?_
 intro v10 Sv7 w a h8 h9 hs
 subst h9
 have hw := hw.callB h8
 refine av hs rfl rfl fun a hs => ?_
 refine nl ?_
 have hsh := oi hsh
 subst hsh
 refine wp_ret ?_
 exact ret1 hs rfl (rv_tmp rfl) (hw.ret rfl)

theorem span_Normal_fn2_fn (S0 : Nat → Prop) (w0 : World) : (FnA2 Try.prog 63 [] [] span_Normal_fn2).p S0 w0 := by
  refine ⟨Try.call63, ?_⟩
  intro S1 w1 hk hS c0 c1 x0 x1 r1 h0 h1 hf
  obtain ⟨_, _, rfl, rfl, rfl⟩ := h0
  obtain ⟨_, _, rfl, rfl, rfl⟩ := h1
  exact span_Normal_fn2_ok hf hS  

abbrev span_Normal_rd (w0 : World) (X : List Nat) (r : (List Span)) : (Nat → Prop) → World → Value → Prop := fun S w v => ∃ (p0_0 : Option Addr) (k0_0 : Nat) (c0_0 : List Value), v = .slice p0_0 r.length k0_0 ∧ Outs X w0 S w [.row p0_0 r.length k0_0 c0_0 46 2] ∧ (RowA c0_0 r).p S w
set_option maxHeartbeats 4000000 in
set_option maxRecDepth 100000 in
theorem span_Normal_ok {w0 : World} {S0 : Nat → Prop} {p2 : Option Addr} {k3 : Nat} {l1 : (List Span)} {r : (List Span)} (hsh : span_Normal l1 = some r) (hS : ∀ b, S0 b → b < w0.heap.size) (h4 : (SlA p2 l1.length k3 l1).p S0 w0) : Calls Try.prog 53 #[.slice p2 l1.length k3] w0 (Ret ([]) w0 S0 (span_Normal_rd w0 ([]) r)) := by
 refine calls_of_wp Try.func53 rfl ?_
 have hs := Sl.enter #[.slice p2 l1.length k3] 54 [(0, .slice p2 l1.length k3)] rfl ⟨rfl, trivial⟩
 have hw := Wd.enter (E := []) hS (fun _ h => (by cases h))
 have hw := hw.addE h4
 delta span_Normal at hsh
 refine sr ?_
 refine av hs rfl rfl fun a hs => ?_
 refine nl ?_
 refine sr ?_
 refine mv hs rfl rfl fun a hs => ?_
 obtain ⟨rv6, h5, hsh⟩ := bind_t hsh
 refine st_callR hs (slices_Clone_Lapi_Span_api_Span_ok h5 hw.dom (hw.envAt 0 rfl)) (do_call Try.call37 rfl) trivial rfl rfl ?_
 intro v14 Sv11 w a h12 h13 hs
 obtain ⟨p7, k8, c10, rfl, h15, h9⟩ := h13
 have hw := hw.callN h12 h15
 have hw := hw.addE (e := RowA c10 rv6) h9
 obtain ⟨rv17, h16, hsh⟩ := bind_t hsh
 refine st_callR hs (slices_DeleteFunc_Lapi_Span_api_Span_ok h16 hw.dom (hw.ins [0] (by decide) rfl) (hw.envAt 0 rfl) (span_Normal_fn1_fn _ _)) (do_call Try.call60 rfl) trivial rfl rfl ?_
 intro v25 Sv22 w a h23 h24 hs
 obtain ⟨p18, k19, c21, rfl, h26, h20⟩ := h24
 have hw := hw.callO [0] [] (by decide) rfl h23 h26
 have hw := hw.addE (e := RowA c21 rv17) h20
 refine av hs rfl rfl fun a hs => ?_
 refine nl ?_
 refine sr ?_
 refine mv hs rfl rfl fun a hs => ?_
 obtain ⟨rv28, h27, hsh⟩ := bind_t hsh
 refine st_callR hs (slices_SortFunc_Lapi_Span_api_Span_ok h27 hw.dom (hw.ins [0] (by decide) rfl) (hw.envAt 0 rfl) (span_Normal_fn2_fn _ _)) (do_call Try.call62 rfl) trivial rfl rfl ?_
 intro v35 Sv32 w a h33 h34 hs
 obtain ⟨c29, rfl, h36, h30, h31⟩ := h34
 have hw := hw.callO [0] [] (by decide) rfl h33 h36
 have hw := hw.addE (e := RowA c29 rv28) h30
 have h37 := h31
 have h38 := Eq.symm h37
 try have hs := hs.fl 3 rfl h38
 try have hs := hs.fl 11 rfl h38
 refine nl ?_
 refine sr ?_
 refine av hs rfl rfl fun a hs => ?_
 refine nl ?_
 refine wp_seq ?_
 refine sr ?_
 refine mv hs rfl rfl fun a hs => ?_
 refine sv hs (y_len Try.runUnderlying27 rfl) rfl fun a hs => ?_
 refine mv hs rfl rfl fun a hs => ?_
 refine nl ?_
 obtain ⟨e261, h462, hsh⟩ := bind_t hsh
 refine wp_join (fun a w => ∃ (c262 : List Value) (p263 : Option Addr) (k264 : Nat) (Sv265 : Nat → Prop), Sl 54 [(4, .slice p263 e261.length k264)] a ∧ Wd ⟨w0, S0, []⟩ Sv265 [.row p263 e261.length k264 c262 46 2] [RowA c262 e261] w) ?_ ?_
 ·refine wp_block ?_
  have hw := hw.nilRow Span 46
  refine wp_while (fun sv39 a w => ∃ (c182 : List Value) (p183 : Option Addr) (k184 : Nat) (Sv185 : Nat → Prop), Sl 54 [(4, .slice p183 sv39.1.length k184), (13, .slice p18 rv28.length k19), (14, .int .i64 (rv28.length : Int)), (15, .int .i64 sv39.2)] a ∧ Wd ⟨w0, S0, []⟩ Sv185 [.row p183 sv39.1.length k184 c182 46 2, .row p18 rv28.length k19 c29 46 2] [RowA c182 sv39.1, RowA c29 rv28] w) (([] : List Span), 0) h462 ⟨[], none, 0, Sv32, (hs.wk rfl), (hw.ft [0, 1] [0, 1] (by decide) rfl rfl)⟩ ?_
  clear h462
  repeat clear hsh
  rintro sv39 a w tv259 ⟨c182, p183, k184, Sv185, hs, hw⟩ hsh hd258
  delta span_Normal_l1 at hsh
  refine sr ?_
  refine sv hs (y_lss rfl rfl) rfl fun a hs => ?_
  refine nl ?_
  refine wp_seq ?_
  refine wp_cond_split (hs.ev rfl) (fun h267 => ?_) (fun h267 => ?_)
  ·have hsh := ite_t hsh h267
   refine wp_skip ?_
   refine then_normal ?_
   refine wp_seq ?_
   refine wp_block ?_
   refine sr ?_
   obtain ⟨x341, h339, hsh⟩ := bind_t hsh
   obtain ⟨b348, q345, c346, h349, h342, h343, h347, h340⟩ := hw.elemRV (α := Span) 1 rfl 1 rfl h339
   have hsv350 := hs
   have hwv351 := hw
   subst h349
   have hs := hsv350
   have hw := hwv351
   obtain ⟨_, _, rfl, rfl, rfl⟩ := h340
   refine sv hs (y_indexAt Try.runUnderlying27 Try.sizeOf46 rfl rfl h342.1 h342.2 h343) rfl fun a hs => ?_
   refine sv hs (y_loadQA (j := 0) (hw.ownAt 1 rfl) rfl Try.isAgg46 Try.sizeOf46 h347 rfl rfl) rfl fun a hs => ?_
   refine w_alloc (cs := [.int .i64 0, .int .i64 0]) hs hw Try.zeroValue46 rfl rfl trivial ?_
   intro b352 a w hs hw
   refine w_store (m := 2) (cs' := [.int .i64 x341.From, .int .i64 x341.To]) hs hw 0 rfl rfl rfl Try.sizeOf46 rfl rfl rfl rfl trivial ?_
   intro a w hs hw
   refine nl ?_
   refine sr ?_
   refine mv hs rfl rfl fun a hs => ?_
   refine sv hs (y_len Try.runUnderlying27 rfl) rfl fun a hs => ?_
   obtain ⟨n354, h353, hsh⟩ := bind_t hsh
   refine sv hs (y_assignI rfl h353) rfl fun a hs => ?_
   refine nl ?_
   refine wp_seq ?_
   obtain ⟨c368, hc368, hsh⟩ := bind_t hsh
   refine wp_only (fun a w => ∃ (Sv369 : Nat → Prop), Sl 54 [(4, .slice p183 sv39.1.length k184), (6, .pointer (some ⟨b352, 0, none⟩)), (7, .int .i64 n354), (13, .slice (some ⟨b348, 0, none⟩) rv28.length k19), (14, .int .i64 (rv28.length : Int)), (15, .int .i64 sv39.2), (33, .bool c368)] a ∧ Wd ⟨w0, S0, []⟩ Sv369 [.box b352 [.int .i64 x341.From, .int .i64 x341.To] 46, .row p183 sv39.1.length k184 c182 46 2, .row (some ⟨b348, 0, none⟩) rv28.length k19 c29 46 2] [RowA c182 sv39.1, RowA c29 rv28] w) ?_ ?_
   ·rcases Bool.eq_false_or_eq_true (decide (0 < n354)) with h370 | h370
    ·have h371 := ite_t hc368 h370
     obtain ⟨x374, h372, h371⟩ := bind_t h371
     obtain ⟨b381, q378, c379, h382, h375, h376, h380, h373⟩ := hw.elemRV (α := Span) 1 rfl 0 rfl h372
     have hsv383 := hs
     have hwv384 := hw
     subst h382
     have hs := hsv383
     have hw := hwv384
     obtain ⟨_, _, rfl, rfl, rfl⟩ := h373
     refine h_b (C := Cls [.box b352 [.int .i64 x341.From, .int .i64 x341.To] 46, .row (some ⟨b381, 0, none⟩) sv39.1.length k184 c182 46 2, .row (some ⟨b348, 0, none⟩) rv28.length k19 c29 46 2] []) (by kernel_rfl) rfl (hw.drew.cs [0, 1, 2] [] rfl rfl) fun hC => ?_
     have hw := hw.drew
     refine gm hs 0 rfl rfl rfl hC fun a hs => ?_
     refine gv hs 1 rfl rfl hC (fun w hC => y_gtr rfl rfl) fun a hs => ?_
     refine gm hs 2 rfl rfl rfl hC fun a hs => ?_
     have hs := hs.fix 23 (.bool true) rfl (vb h370)
     refine gt hs 3 rfl ⟨_, rfl, rfl⟩ rfl hC (fun w hC => y_fieldAddr (o' := 0) Try.runUnderlying46 rfl Try.sizeOf3 rfl rfl rfl) fun a hs => ?_
     refine gt hs 4 rfl ⟨_, rfl, rfl⟩ rfl hC (fun w hC => y_loadB1 (hC.ownAt 0 rfl) rfl Try.isAgg3 rfl) fun a hs => ?_
     refine gt hs 5 rfl ⟨_, rfl, rfl⟩ rfl hC (fun w hC => y_move rfl) fun a hs => ?_
     refine gt hs 6 rfl ⟨_, rfl, rfl⟩ rfl hC (fun w hC => y_move rfl) fun a hs => ?_
     refine gt hs 7 rfl ⟨_, rfl, rfl⟩ rfl hC (fun w hC => y_sub rfl rfl) fun a hs => ?_
     refine gt hs 8 rfl ⟨_, rfl, rfl⟩ rfl hC (fun w hC => y_indexAt Try.runUnderlying27 Try.sizeOf46 rfl rfl h375.1 h375.2 h376) fun a hs => ?_
     refine gt hs 9 rfl ⟨_, rfl, rfl⟩ rfl hC (fun w hC => y_fieldAddr (o' := q378 + 1) Try.runUnderlying46 rfl Try.sizeOf3 rfl rfl rfl) fun a hs => ?_
     refine gt hs 10 rfl ⟨_, rfl, rfl⟩ rfl hC (fun w hC => y_loadQ1 (j := 1) (hC.ownAt 1 rfl) rfl Try.isAgg3 h380 rfl) fun a hs => ?_
     refine gt hs 11 rfl ⟨_, rfl, rfl⟩ rfl hC (fun w hC => y_leq rfl rfl) fun a hs => ?_
     refine gv hs 12 rfl rfl hC (fun w hC => y_pickTE (v := .bool c368) rfl rfl (vbs h371)) fun a hs => ?_
     refine h_done (by kernel_rfl) ?_
     exact ⟨Sv185, (hs.wk rfl), (hw.ft [0, 1, 2] [0, 1] (by decide) rfl rfl)⟩
    have h385 := ite_f hc368 h370
    refine h_b (C := Cls [.box b352 [.int .i64 x341.From, .int .i64 x341.To] 46, .row p183 sv39.1.length k184 c182 46 2, .row (some ⟨b348, 0, none⟩) rv28.length k19 c29 46 2] []) (by kernel_rfl) rfl (hw.drew.cs [0, 1, 2] [] rfl rfl) fun hC => ?_
    have hw := hw.drew
    refine gm hs 0 rfl rfl rfl hC fun a hs => ?_
    refine gv hs 1 rfl rfl hC (fun w hC => y_gtr rfl rfl) fun a hs => ?_
    refine gm hs 2 rfl rfl rfl hC fun a hs => ?_
    have hs := hs.fix 23 (.bool false) rfl (vb h370)
    refine gs hs 3 rfl rfl rfl rfl hC fun a hs => ?_
    refine gs hs 4 rfl rfl rfl rfl hC fun a hs => ?_
    refine gs hs 5 rfl rfl rfl rfl hC fun a hs => ?_
    refine gs hs 6 rfl rfl rfl rfl hC fun a hs => ?_
    refine gs hs 7 rfl rfl rfl rfl hC fun a hs => ?_
    refine gs hs 8 rfl rfl rfl rfl hC fun a hs => ?_
    refine gs hs 9 rfl rfl rfl rfl hC fun a hs => ?_
    refine gs hs 10 rfl rfl rfl rfl hC fun a hs => ?_
    refine gs hs 11 rfl rfl rfl rfl hC fun a hs => ?_
    refine gv hs 12 rfl rfl hC (fun w hC => y_pickFE (v := .bool c368) rfl rfl (vbs h385)) fun a hs => ?_
    refine h_done (by kernel_rfl) ?_
    exact ⟨Sv185, (hs.wk rfl), (hw.ft [0, 1, 2] [0, 1] (by decide) rfl rfl)⟩
   rintro a w ⟨Sv369, hs, hw⟩
   refine then_normal ?_
   refine wp_join (fun a w => ∃ (out425 : (List Span)) (c421 : List Value) (p422 : Option Addr) (k423 : Nat) (Sv424 : Nat → Prop), span_Normal_j1 sv39 out425 = some tv259 ∧ Sl 54 [(4, .slice p422 out425.length k423), (13, .slice (some ⟨b348, 0, none⟩) rv28.length k19), (14, .int .i64 (rv28.length : Int)), (15, .int .i64 sv39.2)] a ∧ Wd ⟨w0, S0, []⟩ Sv424 [.row p422 out425.length k423 c421 46 2, .row (some ⟨b348, 0, none⟩) rv28.length k19 c29 46 2] [RowA c421 out425, RowA c29 rv28] w) ?_ ?_
   ·refine wp_cond_split (hs.ev rfl) (fun h426 => ?_) (fun h426 => ?_)
    ·have hsh := ite_t hsh h426
     obtain ⟨x429, h427, hsh⟩ := bind_t hsh
     obtain ⟨b436, q433, c434, h437, h430, h431, h435, h428⟩ := hw.elemRV (α := Span) 1 rfl 0 rfl h427
     have hsv438 := hs
     have hwv439 := hw
     subst h437
     have hs := hsv438
     have hw := hwv439
     obtain ⟨_, _, rfl, rfl, rfl⟩ := h428
     obtain ⟨x442, h440, hsh⟩ := bind_t hsh
     obtain ⟨q446, c447, h443, h444, h448, h441⟩ := hw.elemRK (α := Span) 1 rfl 0 rfl h440
     obtain ⟨_, _, rfl, rfl, rfl⟩ := h441
     obtain ⟨l450, h449, hsh⟩ := bind_t hsh
     refine wp_only (fun a w => ∃ (Sv453 : Nat → Prop) (c451 : List Value), Sl 54 [(4, .slice (some ⟨b436, 0, none⟩) l450.length k184), (13, .slice (some ⟨b348, 0, none⟩) rv28.length k19), (14, .int .i64 (rv28.length : Int)), (15, .int .i64 sv39.2)] a ∧ Wd ⟨w0, S0, []⟩ Sv453 [.row (some ⟨b436, 0, none⟩) l450.length k184 c451 46 2, .row (some ⟨b348, 0, none⟩) rv28.length k19 c29 46 2] [RowA c451 l450, RowA c29 rv28] w) ?_ ?_
     ·refine h_b (C := Cls [.box b352 [.int .i64 x341.From, .int .i64 x341.To] 46, .row (some ⟨b348, 0, none⟩) rv28.length k19 c29 46 2] []) (by kernel_rfl) rfl (hw.drew.cs [0, 2] [] rfl rfl) fun hC => ?_
      have hw := hw.drew
      refine gm hs 0 rfl rfl rfl hC fun a hs => ?_
      refine gm hs 1 rfl rfl rfl hC fun a hs => ?_
      refine gv hs 2 rfl rfl hC (fun w hC => y_sub rfl rfl) fun a hs => ?_
      refine gm hs 3 rfl rfl rfl hC fun a hs => ?_
      refine gm hs 4 rfl rfl rfl hC fun a hs => ?_
      refine gv hs 5 rfl rfl hC (fun w hC => y_sub rfl rfl) fun a hs => ?_
      refine gv hs 6 rfl rfl hC (fun w hC => y_indexAt Try.runUnderlying27 Try.sizeOf46 rfl rfl h430.1 h430.2 h431) fun a hs => ?_
      refine gv hs 7 rfl rfl hC (fun w hC => y_fieldAddr (o' := q433 + 1) Try.runUnderlying46 rfl Try.sizeOf3 rfl rfl rfl) fun a hs => ?_
      refine gv hs 9 rfl rfl hC (fun w hC => y_fieldAddr (o' := 1) Try.runUnderlying46 rfl Try.sizeOf3 rfl rfl rfl) fun a hs => ?_
      refine gv hs 10 rfl rfl hC (fun w hC => y_loadB1 (hC.ownAt 0 rfl) rfl Try.isAgg3 rfl) fun a hs => ?_
      refine ho 8 rfl ?_
      refine sv hs (y_loadQ1 (j := 1) (hw.ownAt 1 rfl) rfl Try.isAgg3 h435 rfl) rfl fun a hs => ?_
      refine h_nx (hw.cs [0, 2] [] rfl rfl) fun hC => ?_
      refine gv hs 11 rfl rfl hC (fun w hC => y_max rfl rfl) fun a hs => ?_
      refine gv hs 12 rfl rfl hC (fun w hC => y_indexAt Try.runUnderlying27 Try.sizeOf46 rfl rfl h443.1 h443.2 h444) fun a hs => ?_
      refine gv hs 13 rfl rfl hC (fun w hC => y_fieldAddr (o' := q446 + 1) Try.runUnderlying46 rfl Try.sizeOf3 rfl rfl rfl) fun a hs => ?_
      refine ho 14 rfl ?_
      refine w_storeR (α := Span) (f := 1) (m := 1) hs hw 1 rfl 0 rfl h444 rfl rfl Try.sizeOf3 rfl rfl rfl h449 (fun es he => by rw [h448] at he; subst he; exact ⟨_, _, rfl, rfl, rfl⟩) trivial ?_
      intro c451 a w hs hw
      have h452 := setM_len h449
      try have hs := hs.fl 4 rfl h452
      try have hs := hs.fl 34 rfl h452
      try have hs := hs.fl 37 rfl h452
      refine h_nx (hw.cs [0, 2] [] rfl rfl) fun hC => ?_
      refine h_done (by kernel_rfl) ?_
      exact ⟨Sv369, c451, (hs.wk rfl), (hw.ft [1, 2] [0, 2] (by decide) rfl rfl)⟩
     rintro a w ⟨Sv453, c451, hs, hw⟩
     refine then_normal ?_
     exact ⟨l450, c451, (some ⟨b436, 0, none⟩), k184, Sv453, hsh, (hs.wk rfl), (hw.ft [0, 1] [0, 1] (by decide) rfl rfl)⟩
    have hsh := ite_f hsh h426
    refine wp_region_lit ?_
    refine mv hs rfl rfl fun a hs => ?_
    refine sv hs (y_loadBA (hw.ownAt 0 rfl) rfl Try.isAgg46 Try.sizeOf46 rfl rfl) rfl fun a hs => ?_
    refine w_litSlice (α := Span) (vs := [.agg #[.int .i64 x341.From, .int .i64 x341.To]]) (cs := [.int .i64 x341.From, .int .i64 x341.To]) (xs := ([x341] : List Span)) hs hw El27 rfl rfl rfl rfl rfl rfl ⟨⟨_, _, rfl, rfl, rfl⟩, rfl⟩ rfl trivial rfl fun b455 a w hs hw => ?_
    obtain ⟨l457, h456, hsh⟩ := bind_t hsh
    refine w_appendR (α := Span) hs hw El27 2 rfl rfl rfl 1 rfl 0 rfl 0 rfl h456 rfl trivial ?_
    intro p458 k459 c460 a w hs hw
    refine av hs rfl rfl fun a hs => ?_
    refine nl ?_
    exact ⟨l457, c460, p458, k459, Sv369, hsh, (hs.wk rfl), (hw.ft [2, 3] [0, 3] (by decide) rfl rfl)⟩
   rintro a w ⟨out425, c421, p422, k423, Sv424, hsh, hs, hw⟩
   delta span_Normal_j1 at hsh
   refine blk_normal ?_
   refine then_normal ?_
   refine wp_region_lit ?_
   refine sv hs (y_add rfl rfl) rfl fun a hs => ?_
   refine mv hs rfl rfl fun a hs => ?_
   refine nl ?_
   exact ⟨_, (Option.some.inj hsh).symm, c421, p422, k423, Sv424, (hs.wk rfl), (hw.ft [0, 1] [0, 1] (by decide) rfl rfl)⟩
  have hsh := ite_f hsh h267
  refine wp_exit ?_
  refine then_exit ?_
  refine then_exit ?_
  refine blk_exit ?_
  have hsh := oi hsh
  subst hsh
  have h461 := hd258 _ rfl
  subst h461
  refine then_normal ?_
  exact ⟨c182, p183, k184, Sv185, (hs.wk rfl), (hw.ft [0] [0] (by decide) rfl rfl)⟩
 rintro a w ⟨c262, p263, k264, Sv265, hs, hw⟩
 refine then_normal ?_
 refine sr ?_
 refine mv hs rfl rfl fun a hs => ?_
 refine av hs rfl rfl fun a hs => ?_
 refine nl ?_
 have hsh := oi hsh
 subst hsh
 refine wp_ret ?_
 exact ret1 hs rfl (rv_tmp rfl) (hw.ret ⟨p263, k264, c262, rfl, (hw.outs [0] (by decide) rfl), (hw.envAt 0 rfl)⟩)

abbrev span_Meet_rd (w0 : World) (X : List Nat) (r : (List Span)) : (Nat → Prop) → World → Value → Prop := fun S w v => ∃ (p0_0 : Option Addr) (k0_0 : Nat) (c0_0 : List Value), v = .slice p0_0 r.length k0_0 ∧ Outs X w0 S w [.row p0_0 r.length k0_0 c0_0 46 2] ∧ (RowA c0_0 r).p S w
set_option maxHeartbeats 4000000 in
set_option maxRecDepth 100000 in
theorem span_Meet_ok {w0 : World} {S0 : Nat → Prop} {p2 : Option Addr} {k3 : Nat} {p6 : Option Addr} {k7 : Nat} {a1 : (List Span)} {b5 : (List Span)} {r : (List Span)} (hsh : span_Meet a1 b5 = some r) (hS : ∀ b, S0 b → b < w0.heap.size) (h4 : (SlA p2 a1.length k3 a1).p S0 w0) (h8 : (SlA p6 b5.length k7 b5).p S0 w0) : Calls Try.prog 41 #[.slice p2 a1.length k3, .slice p6 b5.length k7] w0 (Ret ([]) w0 S0 (span_Meet_rd w0 ([]) r)) := by
 refine calls_of_wp Try.func41 rfl ?_
 have hs := Sl.enter #[.slice p2 a1.length k3, .slice p6 b5.length k7] 68 [(0, .slice p2 a1.length k3), (1, .slice p6 b5.length k7)] rfl ⟨rfl, rfl, trivial⟩
 have hw := Wd.enter (E := []) hS (fun _ h => (by cases h))
 have hw := hw.addE h4
 have hw := hw.addE h8
 delta span_Meet at hsh
 refine sr ?_
 refine av hs rfl rfl fun a hs => ?_
 refine nl ?_
 refine sr ?_
 refine mv hs rfl rfl fun a hs => ?_
 obtain ⟨rv10, h9, hsh⟩ := bind_t hsh
 refine st_callR hs (span_Normal_ok h9 hw.dom (hw.envAt 1 rfl)) (do_call Try.call53 rfl) trivial rfl rfl ?_
 intro v18 Sv15 w a h16 h17 hs
 obtain ⟨p11, k12, c14, rfl, h19, h13⟩ := h17
 have hw := hw.callN h16 h19
 have hw := hw.addE (e := RowA c14 rv10) h13
 refine mv hs rfl rfl fun a hs => ?_
 obtain ⟨rv21, h20, hsh⟩ := bind_t hsh
 refine st_callR hs (span_Normal_ok h20 hw.dom (hw.envAt 1 rfl)) (do_call Try.call53 rfl) trivial rfl rfl ?_
 intro v29 Sv26 w a h27 h28 hs
 obtain ⟨p22, k23, c25, rfl, h30, h24⟩ := h28
 have hw := hw.callN h27 h30
 have hw := hw.addE (e := RowA c25 rv21) h24
 refine av hs rfl rfl fun a hs => ?_
 refine av hs rfl rfl fun a hs => ?_
 refine nl ?_
 refine sr ?_
 refine av hs rfl rfl fun a hs => ?_
 refine nl ?_
 refine wp_seq ?_
 refine sr ?_
 refine av hs rfl rfl fun a hs => ?_
 refine av hs rfl rfl fun a hs => ?_
 refine nl ?_
 obtain ⟨e331, h540, hsh⟩ := bind_t hsh
 refine wp_join (fun a w => ∃ (c332 : List Value) (p333 : Option Addr) (k334 : Nat) (Sv335 : Nat → Prop), Sl 68 [(5, .slice p333 e331.length k334)] a ∧ Wd ⟨w0, S0, []⟩ Sv335 [.row p333 e331.length k334 c332 46 2] [RowA c332 e331] w) ?_ ?_
 ·refine wp_block ?_
  have hw := hw.nilRow Span 46
  refine wp_while (fun sv31 a w => ∃ (c228 : List Value) (p229 : Option Addr) (k230 : Nat) (Sv231 : Nat → Prop), Sl 68 [(0, .slice p11 rv10.length k12), (1, .slice p22 rv21.length k23), (5, .slice p229 sv31.1.length k230), (6, .int .i64 sv31.2.1), (7, .int .i64 sv31.2.2)] a ∧ Wd ⟨w0, S0, []⟩ Sv231 [.row p11 rv10.length k12 c14 46 2, .row p22 rv21.length k23 c25 46 2, .row p229 sv31.1.length k230 c228 46 2] [RowA c14 rv10, RowA c25 rv21, RowA c228 sv31.1] w) (([] : List Span), 0, 0) h540 ⟨[], none, 0, Sv26, (hs.wk rfl), (hw.ft [2, 1, 0] [2, 1, 0] (by decide) rfl rfl)⟩ ?_
  clear h540
  repeat clear hsh
  rintro sv31 a w tv329 ⟨c228, p229, k230, Sv231, hs, hw⟩ hsh hd328
  delta span_Meet_l1 at hsh
  refine wp_seq ?_
  refine sr ?_
  refine mv hs rfl rfl fun a hs => ?_
  refine mv hs rfl rfl fun a hs => ?_
  refine sv hs (y_len Try.runUnderlying27 rfl) rfl fun a hs => ?_
  refine sv hs (y_lss rfl rfl) rfl fun a hs => ?_
  refine mv hs rfl rfl fun a hs => ?_
  refine wpl_join 5 (fun a w1 => w = w1 ∧ Sl 68 [(0, .slice p11 rv10.length k12), (1, .slice p22 rv21.length k23), (5, .slice p229 sv31.1.length k230), (6, .int .i64 sv31.2.1), (7, .int .i64 sv31.2.2), (22, .bool ((decide (sv31.2.1 < (rv10.length : Int))) && (decide (sv31.2.2 < (rv21.length : Int)))))] a) ?_ ?_
  ·rcases Bool.eq_false_or_eq_true (decide (sv31.2.1 < (rv10.length : Int))) with h336 | h336
   ·have hs := hs.fix 17 (.bool true) rfl (vb h336)
    refine st_val hs (y_move rfl) ⟨_, rfl, rfl⟩ rfl rfl fun a hs => ?_
    refine st_val hs (y_move rfl) ⟨_, rfl, rfl⟩ rfl rfl fun a hs => ?_
    refine st_val hs (y_len Try.runUnderlying27 rfl) ⟨_, rfl, rfl⟩ rfl rfl fun a hs => ?_
    refine st_val hs (y_lss rfl rfl) ⟨_, rfl, rfl⟩ rfl rfl fun a hs => ?_
    refine sv hs (y_pickT rfl rfl) rfl fun a hs => ?_
    refine nl ?_
    exact ⟨rfl, (hs.fix 22 (.bool ((decide (sv31.2.1 < (rv10.length : Int))) && (decide (sv31.2.2 < (rv21.length : Int))))) rfl (and_t h336)).weaken _ ⟨rfl, rfl, rfl, rfl, rfl, rfl, trivial⟩⟩
   have hs := hs.fix 17 (.bool false) rfl (vb h336)
   refine st_skip hs rfl rfl rfl rfl rfl fun a hs => ?_
   refine st_skip hs rfl rfl rfl rfl rfl fun a hs => ?_
   refine st_skip hs rfl rfl rfl rfl rfl fun a hs => ?_
   refine st_skip hs rfl rfl rfl rfl rfl fun a hs => ?_
   refine sv hs (y_pickF rfl rfl) rfl fun a hs => ?_
   refine nl ?_
   exact ⟨rfl, (hs.fix 22 (.bool ((decide (sv31.2.1 < (rv10.length : Int))) && (decide (sv31.2.2 < (rv21.length : Int))))) rfl (and_f h336)).weaken _ ⟨rfl, rfl, rfl, rfl, rfl, rfl, trivial⟩⟩
  rintro a w1 ⟨h539, hs⟩
  subst h539
  refine nl ?_
  refine wp_cond_split (hs.ev rfl) (fun h338 => ?_) (fun h338 => ?_)
  ·have hsh := ite_t hsh h338
   refine wp_skip ?_
   refine then_normal ?_
   refine wp_block ?_
   refine wp_seq ?_
   refine wp_seq ?_
   obtain ⟨x434, h432, hsh⟩ := bind_t hsh
   obtain ⟨b441, q438, c439, h442, h435, h436, h440, h433⟩ := hw.elemRV (α := Span) 0 rfl 0 rfl h432
   have hsv443 := hs
   have hwv444 := hw
   subst h442
   have hs := hsv443
   have hw := hwv444
   obtain ⟨_, _, rfl, rfl, rfl⟩ := h433
   obtain ⟨x447, h445, hsh⟩ := bind_t hsh
   obtain ⟨b454, q451, c452, h455, h448, h449, h453, h446⟩ := hw.elemRV (α := Span) 1 rfl 1 rfl h445
   have hsv456 := hs
   have hwv457 := hw
   subst h455
   have hs := hsv456
   have hw := hwv457
   obtain ⟨_, _, rfl, rfl, rfl⟩ := h446
   obtain ⟨x460, h458, hsh⟩ := bind_t hsh
   obtain ⟨q464, c465, h461, h462, h466, h459⟩ := hw.elemRK (α := Span) 0 rfl 0 rfl h458
   obtain ⟨_, _, rfl, rfl, rfl⟩ := h459
   obtain ⟨x469, h467, hsh⟩ := bind_t hsh
   obtain ⟨q473, c474, h470, h471, h475, h468⟩ := hw.elemRK (α := Span) 1 rfl 1 rfl h467
   obtain ⟨_, _, rfl, rfl, rfl⟩ := h468
   refine wp_only (fun a w => ∃ (Sv477 : Nat → Prop) (b476 : Nat), Sl 68 [(0, .slice (some ⟨b441, 0, none⟩) rv10.length k12), (1, .slice (some ⟨b454, 0, none⟩) rv21.length k23), (5, .slice p229 sv31.1.length k230), (6, .int .i64 sv31.2.1), (7, .int .i64 sv31.2.2), (8, .pointer (some ⟨b476, 0, none⟩))] a ∧ Wd ⟨w0, S0, []⟩ Sv477 [.box b476 [.int .i64 (max x434.From x447.From), .int .i64 (min x460.To x469.To)] 46, .row (some ⟨b441, 0, none⟩) rv10.length k12 c14 46 2, .row (some ⟨b454, 0, none⟩) rv21.length k23 c25 46 2, .row p229 sv31.1.length k230 c228 46 2] [RowA c14 rv10, RowA c25 rv21, RowA c228 sv31.1] w) ?_ ?_
   ·refine h_b (C := Cls [.row (some ⟨b441, 0, none⟩) rv10.length k12 c14 46 2, .row (some ⟨b454, 0, none⟩) rv21.length k23 c25 46 2, .row p229 sv31.1.length k230 c228 46 2] []) (by kernel_rfl) rfl (hw.drew.cs [0, 1, 2] [] rfl rfl) fun hC => ?_
    have hw := hw.drew
    refine gm hs 0 rfl rfl rfl hC fun a hs => ?_
    refine gm hs 1 rfl rfl rfl hC fun a hs => ?_
    refine gv hs 2 rfl rfl hC (fun w hC => y_indexAt Try.runUnderlying27 Try.sizeOf46 rfl rfl h435.1 h435.2 h436) fun a hs => ?_
    refine gv hs 3 rfl rfl hC (fun w hC => y_fieldAddr (o' := q438 + 0) Try.runUnderlying46 rfl Try.sizeOf3 rfl rfl rfl) fun a hs => ?_
    refine gv hs 4 rfl rfl hC (fun w hC => y_loadQ1 (j := 0) (hC.ownAt 0 rfl) rfl Try.isAgg3 h440 rfl) fun a hs => ?_
    refine gm hs 5 rfl rfl rfl hC fun a hs => ?_
    refine gm hs 6 rfl rfl rfl hC fun a hs => ?_
    refine gv hs 7 rfl rfl hC (fun w hC => y_indexAt Try.runUnderlying27 Try.sizeOf46 rfl rfl h448.1 h448.2 h449) fun a hs => ?_
    refine gv hs 8 rfl rfl hC (fun w hC => y_fieldAddr (o' := q451 + 0) Try.runUnderlying46 rfl Try.sizeOf3 rfl rfl rfl) fun a hs => ?_
    refine gv hs 9 rfl rfl hC (fun w hC => y_loadQ1 (j := 0) (hC.ownAt 1 rfl) rfl Try.isAgg3 h453 rfl) fun a hs => ?_
    refine gv hs 10 rfl rfl hC (fun w hC => y_max rfl rfl) fun a hs => ?_
    refine gm hs 11 rfl rfl rfl hC fun a hs => ?_
    refine gm hs 12 rfl rfl rfl hC fun a hs => ?_
    refine gv hs 13 rfl rfl hC (fun w hC => y_indexAt Try.runUnderlying27 Try.sizeOf46 rfl rfl h461.1 h461.2 h462) fun a hs => ?_
    refine gv hs 14 rfl rfl hC (fun w hC => y_fieldAddr (o' := q464 + 1) Try.runUnderlying46 rfl Try.sizeOf3 rfl rfl rfl) fun a hs => ?_
    refine gv hs 15 rfl rfl hC (fun w hC => y_loadQ1 (j := 1) (hC.ownAt 0 rfl) rfl Try.isAgg3 h466 rfl) fun a hs => ?_
    refine gm hs 16 rfl rfl rfl hC fun a hs => ?_
    refine gm hs 17 rfl rfl rfl hC fun a hs => ?_
    refine gv hs 18 rfl rfl hC (fun w hC => y_indexAt Try.runUnderlying27 Try.sizeOf46 rfl rfl h470.1 h470.2 h471) fun a hs => ?_
    refine gv hs 19 rfl rfl hC (fun w hC => y_fieldAddr (o' := q473 + 1) Try.runUnderlying46 rfl Try.sizeOf3 rfl rfl rfl) fun a hs => ?_
    refine gv hs 20 rfl rfl hC (fun w hC => y_loadQ1 (j := 1) (hC.ownAt 1 rfl) rfl Try.isAgg3 h475 rfl) fun a hs => ?_
    refine gv hs 21 rfl rfl hC (fun w hC => y_min rfl rfl) fun a hs => ?_
    refine gv hs 22 rfl rfl hC (fun w hC => y_build (vs := [(0, .int .i64 (max x434.From x447.From)), (1, .int .i64 (min x460.To x469.To))]) Bld46 rfl rfl) fun a hs => ?_
    refine ho 23 rfl ?_
    refine w_alloc (cs := [.int .i64 0, .int .i64 0]) hs hw Try.zeroValue46 rfl rfl trivial ?_
    intro b476 a w hs hw
    refine h_nx (hw.cs [1, 2, 3] [] rfl rfl) fun hC => ?_
    refine ho 24 rfl ?_
    refine w_store (m := 2) (cs' := [.int .i64 (max x434.From x447.From), .int .i64 (min x460.To x469.To)]) hs hw 0 rfl rfl rfl Try.sizeOf46 rfl rfl rfl rfl trivial ?_
    intro a w hs hw
    refine h_nx (hw.cs [1, 2, 3] [] rfl rfl) fun hC => ?_
    refine h_done (by kernel_rfl) ?_
    exact ⟨Sv231, b476, (hs.wk rfl), (hw.ft [0, 1, 2, 3] [0, 1, 2] (by decide) rfl rfl)⟩
   rintro a w ⟨Sv477, b476, hs, hw⟩
   refine then_normal ?_
   refine sr ?_
   refine sv hs (y_loadBA (hw.ownAt 0 rfl) rfl Try.isAgg46 Try.sizeOf46 rfl rfl) rfl fun a hs => ?_
   obtain ⟨rv479, h478, hsh⟩ := bind_t hsh
   refine st_callR hs (span_some_ok h478 hw.bdom) (do_call Try.call58 rfl) trivial rfl rfl ?_
   intro v483 Sv480 w a h481 h482 hs
   subst h482
   have hw := hw.callB h481
   refine nl ?_
   refine wp_join (fun a w => ∃ (out497 : (List Span)) (c493 : List Value) (p494 : Option Addr) (k495 : Nat) (Sv496 : Nat → Prop), span_Meet_j1 rv10 rv21 sv31 out497 = some tv329 ∧ Sl 68 [(0, .slice (some ⟨b441, 0, none⟩) rv10.length k12), (1, .slice (some ⟨b454, 0, none⟩) rv21.length k23), (5, .slice p494 out497.length k495), (6, .int .i64 sv31.2.1), (7, .int .i64 sv31.2.2)] a ∧ Wd ⟨w0, S0, []⟩ Sv496 [.row (some ⟨b441, 0, none⟩) rv10.length k12 c14 46 2, .row (some ⟨b454, 0, none⟩) rv21.length k23 c25 46 2, .row p494 out497.length k495 c493 46 2] [RowA c14 rv10, RowA c25 rv21, RowA c493 out497] w) ?_ ?_
   ·refine wp_cond_split (hs.ev rfl) (fun h530 => ?_) (fun h530 => ?_)
    ·have hsh := ite_t hsh h530
     refine wp_region_lit ?_
     refine mv hs rfl rfl fun a hs => ?_
     refine sv hs (y_loadBA (hw.ownAt 0 rfl) rfl Try.isAgg46 Try.sizeOf46 rfl rfl) rfl fun a hs => ?_
     refine w_litSlice (α := Span) (vs := [.agg #[.int .i64 (max x434.From x447.From), .int .i64 (min x460.To x469.To)]]) (cs := [.int .i64 (max x434.From x447.From), .int .i64 (min x460.To x469.To)]) (xs := ([(⟨(max x434.From x447.From), (min x460.To x469.To)⟩ : Span)] : List Span)) hs hw El27 rfl rfl rfl rfl rfl rfl ⟨⟨_, _, rfl, rfl, rfl⟩, rfl⟩ rfl trivial rfl fun b532 a w hs hw => ?_
     obtain ⟨l534, h533, hsh⟩ := bind_t hsh
     refine w_appendR (α := Span) hs hw El27 4 rfl rfl rfl 3 rfl 0 rfl 0 rfl h533 rfl trivial ?_
     intro p535 k536 c537 a w hs hw
     refine av hs rfl rfl fun a hs => ?_
     refine nl ?_
     exact ⟨l534, c537, p535, k536, Sv477, hsh, (hs.wk rfl), (hw.ft [2, 3, 4] [2, 3, 0] (by decide) rfl rfl)⟩
    have hsh := ite_f hsh h530
    refine wp_skip ?_
    refine then_normal ?_
    exact ⟨sv31.1, c228, p229, k230, Sv477, hsh, (hs.wk rfl), (hw.ft [1, 2, 3] [0, 1, 2] (by decide) rfl rfl)⟩
   rintro a w ⟨out497, c493, p494, k495, Sv496, hsh, hs, hw⟩
   delta span_Meet_j1 at hsh
   refine then_normal ?_
   refine wp_seq ?_
   obtain ⟨x500, h498, hsh⟩ := bind_t hsh
   obtain ⟨q504, c505, h501, h502, h506, h499⟩ := hw.elemRK (α := Span) 0 rfl 0 rfl h498
   obtain ⟨_, _, rfl, rfl, rfl⟩ := h499
   obtain ⟨x509, h507, hsh⟩ := bind_t hsh
   obtain ⟨q513, c514, h510, h511, h515, h508⟩ := hw.elemRK (α := Span) 1 rfl 1 rfl h507
   obtain ⟨_, _, rfl, rfl, rfl⟩ := h508
   refine wp_only (fun a w => ∃ (Sv516 : Nat → Prop), Sl 68 [(0, .slice (some ⟨b441, 0, none⟩) rv10.length k12), (1, .slice (some ⟨b454, 0, none⟩) rv21.length k23), (5, .slice p494 out497.length k495), (6, .int .i64 sv31.2.1), (7, .int .i64 sv31.2.2), (62, .bool (decide (x500.To < x509.To)))] a ∧ Wd ⟨w0, S0, []⟩ Sv516 [.row (some ⟨b441, 0, none⟩) rv10.length k12 c14 46 2, .row (some ⟨b454, 0, none⟩) rv21.length k23 c25 46 2, .row p494 out497.length k495 c493 46 2] [RowA c14 rv10, RowA c25 rv21, RowA c493 out497] w) ?_ ?_
   ·refine h_b (C := Cls [.row (some ⟨b441, 0, none⟩) rv10.length k12 c14 46 2, .row (some ⟨b454, 0, none⟩) rv21.length k23 c25 46 2, .row p494 out497.length k495 c493 46 2] []) (by kernel_rfl) rfl (hw.drew.cs [0, 1, 2] [] rfl rfl) fun hC => ?_
    have hw := hw.drew
    refine gm hs 0 rfl rfl rfl hC fun a hs => ?_
    refine gm hs 1 rfl rfl rfl hC fun a hs => ?_
    refine gv hs 2 rfl rfl hC (fun w hC => y_indexAt Try.runUnderlying27 Try.sizeOf46 rfl rfl h501.1 h501.2 h502) fun a hs => ?_
    refine gv hs 3 rfl rfl hC (fun w hC => y_fieldAddr (o' := q504 + 1) Try.runUnderlying46 rfl Try.sizeOf3 rfl rfl rfl) fun a hs => ?_
    refine gv hs 4 rfl rfl hC (fun w hC => y_loadQ1 (j := 1) (hC.ownAt 0 rfl) rfl Try.isAgg3 h506 rfl) fun a hs => ?_
    refine gm hs 5 rfl rfl rfl hC fun a hs => ?_
    refine gm hs 6 rfl rfl rfl hC fun a hs => ?_
    refine gv hs 7 rfl rfl hC (fun w hC => y_indexAt Try.runUnderlying27 Try.sizeOf46 rfl rfl h510.1 h510.2 h511) fun a hs => ?_
    refine gv hs 8 rfl rfl hC (fun w hC => y_fieldAddr (o' := q513 + 1) Try.runUnderlying46 rfl Try.sizeOf3 rfl rfl rfl) fun a hs => ?_
    refine gv hs 9 rfl rfl hC (fun w hC => y_loadQ1 (j := 1) (hC.ownAt 1 rfl) rfl Try.isAgg3 h515 rfl) fun a hs => ?_
    refine gv hs 10 rfl rfl hC (fun w hC => y_lss rfl rfl) fun a hs => ?_
    refine h_done (by kernel_rfl) ?_
    exact ⟨Sv496, (hs.wk rfl), (hw.ft [0, 1, 2] [0, 1, 2] (by decide) rfl rfl)⟩
   rintro a w ⟨Sv516, hs, hw⟩
   refine then_normal ?_
   refine wp_join (fun a w => ∃ (i523 : Int) (k524 : Int) (Sv522 : Nat → Prop), span_Meet_j2 out497 i523 k524 = some tv329 ∧ Sl 68 [(0, .slice (some ⟨b441, 0, none⟩) rv10.length k12), (1, .slice (some ⟨b454, 0, none⟩) rv21.length k23), (5, .slice p494 out497.length k495), (6, .int .i64 i523), (7, .int .i64 k524)] a ∧ Wd ⟨w0, S0, []⟩ Sv522 [.row (some ⟨b441, 0, none⟩) rv10.length k12 c14 46 2, .row (some ⟨b454, 0, none⟩) rv21.length k23 c25 46 2, .row p494 out497.length k495 c493 46 2] [RowA c14 rv10, RowA c25 rv21, RowA c493 out497] w) ?_ ?_
   ·refine wp_cond_split (hs.ev rfl) (fun h525 => ?_) (fun h525 => ?_)
    ·have hsh := ite_t hsh h525
     refine wp_region_lit ?_
     refine mv hs rfl rfl fun a hs => ?_
     refine sv hs (y_add rfl rfl) rfl fun a hs => ?_
     obtain ⟨i527, h526, hsh⟩ := bind_t hsh
     refine sv hs (y_assignI rfl h526) rfl fun a hs => ?_
     refine nl ?_
     exact ⟨i527, sv31.2.2, Sv516, hsh, (hs.wk rfl), (hw.ft [0, 1, 2] [0, 1, 2] (by decide) rfl rfl)⟩
    have hsh := ite_f hsh h525
    refine wp_region_lit ?_
    refine mv hs rfl rfl fun a hs => ?_
    refine sv hs (y_add rfl rfl) rfl fun a hs => ?_
    obtain ⟨k529, h528, hsh⟩ := bind_t hsh
    refine sv hs (y_assignI rfl h528) rfl fun a hs => ?_
    refine nl ?_
    exact ⟨sv31.2.1, k529, Sv516, hsh, (hs.wk rfl), (hw.ft [0, 1, 2] [0, 1, 2] (by decide) rfl rfl)⟩
   rintro a w ⟨i523, k524, Sv522, hsh, hs, hw⟩
   delta span_Meet_j2 at hsh
   refine blk_normal ?_
   refine then_normal ?_
   exact ⟨_, (Option.some.inj hsh).symm, c493, p494, k495, Sv522, (hs.wk rfl), (hw.ft [0, 1, 2] [0, 1, 2] (by decide) rfl rfl)⟩
  have hsh := ite_f hsh h338
  refine wp_exit ?_
  refine then_exit ?_
  refine then_exit ?_
  refine blk_exit ?_
  have hsh := oi hsh
  subst hsh
  have h538 := hd328 _ rfl
  subst h538
  refine then_normal ?_
  exact ⟨c228, p229, k230, Sv231, (hs.wk rfl), (hw.ft [2] [2] (by decide) rfl rfl)⟩
 rintro a w ⟨c332, p333, k334, Sv335, hs, hw⟩
 refine then_normal ?_
 refine sr ?_
 refine mv hs rfl rfl fun a hs => ?_
 refine av hs rfl rfl fun a hs => ?_
 refine nl ?_
 have hsh := oi hsh
 subst hsh
 refine wp_ret ?_
 exact ret1 hs rfl (rv_tmp rfl) (hw.ret ⟨p333, k334, c332, rfl, (hw.outs [0] (by decide) rfl), (hw.envAt 0 rfl)⟩)

abbrev receiver_Valid_rd (w0 : World) (X : List Nat) (r : Bool) : (Nat → Prop) → World → Value → Prop := fun S w v => v = .bool r
set_option maxHeartbeats 4000000 in
set_option maxRecDepth 100000 in
theorem receiver_Valid_ok {w0 : World} {S0 : Nat → Prop} {p2 : Option Addr} {k3 : Nat} {p4 : Option Addr} {k5 : Nat} {r1 : Receiver} {r : Bool} (hsh : receiver_Valid r1 = some r) (hS : ∀ b, S0 b → b < w0.heap.size) (h6 : (SlA p2 r1.Got.length k3 r1.Got).p S0 w0) (h7 : (SlA p4 r1.Lost.length k5 r1.Lost).p S0 w0) : Calls Try.prog 15 #[.agg #[.slice p2 r1.Got.length k3, .slice p4 r1.Lost.length k5]] w0 (Ret ([]) w0 S0 (receiver_Valid_rd w0 ([]) r)) := by
 refine calls_of_wp Try.func15 rfl ?_
 have hs := Sl.enter #[.agg #[.slice p2 r1.Got.length k3, .slice p4 r1.Lost.length k5]] 20 [(0, .agg #[.slice p2 r1.Got.length k3, .slice p4 r1.Lost.length k5])] rfl ⟨rfl, trivial⟩
 have hw := Wd.enter (E := []) hS (fun _ h => (by cases h))
 have hw := hw.addE h6
 have hw := hw.addE h7
 delta receiver_Valid at hsh
 refine sr ?_
 refine w_box (cs := [.slice p2 r1.Got.length k3, .slice p4 r1.Lost.length k5]) hs hw rfl rfl rfl trivial ?_
 intro b8 a w hs hw
 refine av hs rfl rfl fun a hs => ?_
 refine nl ?_
 refine sr ?_
 refine sv hs (y_fieldAddr (o' := 0) Try.runUnderlying29 rfl Try.sizeOf27 rfl rfl rfl) rfl fun a hs => ?_
 refine sv hs (y_loadB1 (hw.ownAt 0 rfl) rfl Try.isAgg27 rfl) rfl fun a hs => ?_
 obtain ⟨rv10, h9, hsh⟩ := bind_t hsh
 refine st_callR hs (receiver_set_ok h9 hw.bdom (hw.bE 1 rfl)) (do_call Try.call40 rfl) trivial rfl rfl ?_
 intro v14 Sv11 w a h12 h13 hs
 subst h13
 have hw := hw.callB h12
 refine mv hs rfl rfl fun a hs => ?_
 obtain ⟨c24, hc24, hsh⟩ := bind_t hsh
 refine wpl_join 4 (fun a w => ∃ (Sv25 : Nat → Prop), Sl 20 [(1, .pointer (some ⟨b8, 0, none⟩)), (10, .bool c24)] a ∧ Wd ⟨w0, S0, []⟩ Sv25 [.box b8 [.slice p2 r1.Got.length k3, .slice p4 r1.Lost.length k5] 29] [SlA p2 r1.Got.length k3 r1.Got, SlA p4 r1.Lost.length k5 r1.Lost] w) ?_ ?_
 ·rcases Bool.eq_false_or_eq_true rv10 with h23 | h23
  ·have hs := hs.fix 6 (.bool true) rfl (vb h23)
   have hsh := ite_t hc24 h23
   refine st_val hs (y_fieldAddr (o' := 1) Try.runUnderlying29 rfl Try.sizeOf27 rfl rfl rfl) ⟨_, rfl, rfl⟩ rfl rfl fun a hs => ?_
   refine st_val hs (y_loadB1 (hw.ownAt 0 rfl) rfl Try.isAgg27 rfl) ⟨_, rfl, rfl⟩ rfl rfl fun a hs => ?_
   obtain ⟨rv27, h26, hsh⟩ := bind_t hsh
   refine st_callR hs (receiver_set_ok h26 hw.bdom (hw.bE 0 rfl)) (do_call Try.call40 rfl) ⟨_, rfl, rfl⟩ rfl rfl ?_
   intro v31 Sv28 w a h29 h30 hs
   subst h30
   have hw := hw.callB h29
   refine sv hs (y_pickT rfl rfl) rfl fun a hs => ?_
   refine wpList_nil ?_
   have hsh := oi hsh
   subst hsh
   refine then_normal ?_
   exact ⟨S0, (hs.wk rfl), (hw.ft [0] [1, 0] (by decide) rfl rfl)⟩
  have hs := hs.fix 6 (.bool false) rfl (vb h23)
  have hsh := ite_f hc24 h23
  refine st_skip hs rfl rfl rfl rfl rfl fun a hs => ?_
  refine st_skip hs rfl rfl rfl rfl rfl fun a hs => ?_
  refine st_skip hs rfl rfl rfl rfl rfl fun a hs => ?_
  refine sv hs (y_pickF rfl rfl) rfl fun a hs => ?_
  refine wpList_nil ?_
  have hsh := oi hsh
  subst hsh
  refine then_normal ?_
  exact ⟨S0, (hs.wk rfl), (hw.ft [0] [1, 0] (by decide) rfl rfl)⟩
 rintro a w ⟨Sv25, hs, hw⟩
 refine mv hs rfl rfl fun a hs => ?_
 obtain ⟨c45, hc45, hsh⟩ := bind_t hsh
 refine wpl_join 8 (fun a w => ∃ (Sv46 : Nat → Prop), Sl 20 [(19, .bool c45)] a ∧ Wd ⟨w0, S0, []⟩ Sv46 [] [] w) ?_ ?_
 ·rcases Bool.eq_false_or_eq_true c24 with h44 | h44
  ·have hs := hs.fix 11 (.bool true) rfl (vb h44)
   have hsh := ite_t hc45 h44
   refine st_val hs (y_fieldAddr (o' := 0) Try.runUnderlying29 rfl Try.sizeOf27 rfl rfl rfl) ⟨_, rfl, rfl⟩ rfl rfl fun a hs => ?_
   refine st_val hs (y_loadB1 (hw.ownAt 0 rfl) rfl Try.isAgg27 rfl) ⟨_, rfl, rfl⟩ rfl rfl fun a hs => ?_
   refine st_val hs (y_fieldAddr (o' := 1) Try.runUnderlying29 rfl Try.sizeOf27 rfl rfl rfl) ⟨_, rfl, rfl⟩ rfl rfl fun a hs => ?_
   refine st_val hs (y_loadB1 (hw.ownAt 0 rfl) rfl Try.isAgg27 rfl) ⟨_, rfl, rfl⟩ rfl rfl fun a hs => ?_
   obtain ⟨rv48, h47, hsh⟩ := bind_t hsh
   refine st_callR hs (span_Meet_ok h47 hw.dom (hw.envAt 0 rfl) (hw.envAt 1 rfl)) (do_call Try.call41 rfl) ⟨_, rfl, rfl⟩ rfl rfl ?_
   intro v56 Sv53 w a h54 h55 hs
   obtain ⟨p49, k50, c52, rfl, h57, h51⟩ := h55
   have hw := hw.callN h54 h57
   have hw := hw.addE (e := RowA c52 rv48) h51
   refine st_val hs (y_len Try.runUnderlying27 rfl) ⟨_, rfl, rfl⟩ rfl rfl fun a hs => ?_
   refine st_val hs (y_eql rfl rfl) ⟨_, rfl, rfl⟩ rfl rfl fun a hs => ?_
   refine sv hs (y_pickT rfl rfl) rfl fun a hs => ?_
   refine wpList_nil ?_
   have hsh := oi hsh
   subst hsh
   refine then_normal ?_
   exact ⟨Sv53, (hs.wk rfl), (hw.ft [] [] (by decide) rfl rfl)⟩
  have hs := hs.fix 11 (.bool false) rfl (vb h44)
  have hsh := ite_f hc45 h44
  refine st_skip hs rfl rfl rfl rfl rfl fun a hs => ?_
  refine st_skip hs rfl rfl rfl rfl rfl fun a hs => ?_
  refine st_skip hs rfl rfl rfl rfl rfl fun a hs => ?_
  refine st_skip hs rfl rfl rfl rfl rfl fun a hs => ?_
  refine st_skip hs rfl rfl rfl rfl rfl fun a hs => ?_
  refine st_skip hs rfl rfl rfl rfl rfl fun a hs => ?_
  refine st_skip hs rfl rfl rfl rfl rfl fun a hs => ?_
  refine sv hs (y_pickF rfl rfl) rfl fun a hs => ?_
  refine wpList_nil ?_
  have hsh := oi hsh
  subst hsh
  refine then_normal ?_
  exact ⟨Sv25, (hs.wk rfl), (hw.ft [] [] (by decide) rfl rfl)⟩
 rintro a w ⟨Sv46, hs, hw⟩
 refine av hs rfl rfl fun a hs => ?_
 refine nl ?_
 have hsh := oi hsh
 subst hsh
 refine wp_ret ?_
 exact ret1 hs rfl (rv_tmp rfl) (hw.ret rfl)

abbrev receiver_in_rd (w0 : World) (X : List Nat) (r : Bool) : (Nat → Prop) → World → Value → Prop := fun S w v => v = .bool r
set_option maxHeartbeats 4000000 in
set_option maxRecDepth 100000 in
theorem receiver_in_ok {w0 : World} {S0 : Nat → Prop} {n1 : Int} {low2 : Int} {high3 : Int} {r : Bool} (hsh : receiver_in n1 low2 high3 = some r) (hS : ∀ b, S0 b → b < w0.heap.size) : Calls Try.prog 34 #[.int .i64 n1, .int .i64 low2, .int .i64 high3] w0 (Ret ([]) w0 S0 (receiver_in_rd w0 ([]) r)) := by
 refine calls_of_wp Try.func34 rfl ?_
 have hs := Sl.enter #[.int .i64 n1, .int .i64 low2, .int .i64 high3] 15 [(0, .int .i64 n1), (1, .int .i64 low2), (2, .int .i64 high3)] rfl ⟨rfl, rfl, rfl, trivial⟩
 have hw := Wd.enter (E := []) hS (fun _ h => (by cases h))
 delta receiver_in at hsh
 refine sr ?_
 refine av hs rfl rfl fun a hs => ?_
 refine nl ?_
 refine sr ?_
 refine mv hs rfl rfl fun a hs => ?_
 refine mv hs rfl rfl fun a hs => ?_
 refine sv hs (y_geq rfl rfl) rfl fun a hs => ?_
 refine mv hs rfl rfl fun a hs => ?_
 refine wpl_join 4 (fun a w1 => w0 = w1 ∧ Sl 15 [(14, .bool ((decide (low2 ≤ n1)) && (decide (n1 ≤ high3))))] a) ?_ ?_
 ·rcases Bool.eq_false_or_eq_true (decide (low2 ≤ n1)) with h4 | h4
  ·have hs := hs.fix 10 (.bool true) rfl (vb h4)
   refine st_val hs (y_move rfl) ⟨_, rfl, rfl⟩ rfl rfl fun a hs => ?_
   refine st_val hs (y_move rfl) ⟨_, rfl, rfl⟩ rfl rfl fun a hs => ?_
   refine st_val hs (y_leq rfl rfl) ⟨_, rfl, rfl⟩ rfl rfl fun a hs => ?_
   refine sv hs (y_pickT rfl rfl) rfl fun a hs => ?_
   refine nl ?_
   exact ⟨rfl, (hs.fix 14 (.bool ((decide (low2 ≤ n1)) && (decide (n1 ≤ high3)))) rfl (and_t h4)).weaken _ ⟨rfl, trivial⟩⟩
  have hs := hs.fix 10 (.bool false) rfl (vb h4)
  refine st_skip hs rfl rfl rfl rfl rfl fun a hs => ?_
  refine st_skip hs rfl rfl rfl rfl rfl fun a hs => ?_
  refine st_skip hs rfl rfl rfl rfl rfl fun a hs => ?_
  refine sv hs (y_pickF rfl rfl) rfl fun a hs => ?_
  refine nl ?_
  exact ⟨rfl, (hs.fix 14 (.bool ((decide (low2 ≤ n1)) && (decide (n1 ≤ high3)))) rfl (and_f h4)).weaken _ ⟨rfl, trivial⟩⟩
 rintro a w1 ⟨h5, hs⟩
 subst h5
 refine av hs rfl rfl fun a hs => ?_
 refine nl ?_
 have hsh := oi hsh
 subst hsh
 refine wp_ret ?_
 exact ret1 hs rfl (rv_tmp rfl) (hw.ret rfl)

abbrev slices_ContainsFunc_Lapi_Span_api_Span_rd (w0 : World) (X : List Nat) (r : Bool) : (Nat → Prop) → World → Value → Prop := fun S w v => v = .bool r
set_option maxHeartbeats 4000000 in
set_option maxRecDepth 100000 in
theorem slices_ContainsFunc_Lapi_Span_api_Span_ok {w0 : World} {S0 : Nat → Prop} {p2 : Option Addr} {k3 : Nat} {g6 : Nat} {f7 : List Value} {cp8 : List Value} {s1 : (List Span)} {f5 : Span → Option Bool} {r : Bool} (hsh : slices_ContainsFunc_Lapi_Span_api_Span s1 f5 = some r) (hS : ∀ b, S0 b → b < w0.heap.size) (h4 : (SlA p2 s1.length k3 s1).p S0 w0) (h9 : (FnA1 Try.prog g6 f7 cp8 f5).p S0 w0) : Calls Try.prog 55 #[.slice p2 s1.length k3, .func (.func g6) f7.toArray cp8.toArray] w0 (Ret ([]) w0 S0 (slices_ContainsFunc_Lapi_Span_api_Span_rd w0 ([]) r)) := by
 refine calls_of_wp Try.func55 rfl ?_
 have hs := Sl.enter #[.slice p2 s1.length k3, .func (.func g6) f7.toArray cp8.toArray] 9 [(0, .slice p2 s1.length k3), (1, .func (.func g6) f7.toArray cp8.toArray)] rfl ⟨rfl, rfl, trivial⟩
 have hw := Wd.enter (E := []) hS (fun _ h => (by cases h))
 have hw := hw.addE h4
 have hw := hw.addE h9
 delta slices_ContainsFunc_Lapi_Span_api_Span at hsh
 refine sr ?_
 refine av hs rfl rfl fun a hs => ?_
 refine nl ?_
 refine sr ?_
 refine mv hs rfl rfl fun a hs => ?_
 refine mv hs rfl rfl fun a hs => ?_
 obtain ⟨rv11, h10, hsh⟩ := bind_t hsh
 refine st_callR hs (slices_IndexFunc_Lapi_Span_api_Span_ok h10 hw.bdom (hw.bE 1 rfl) (hw.bE 0 rfl)) (do_call Try.call66 rfl) trivial rfl rfl ?_
 intro v15 Sv12 w a h13 h14 hs
 subst h14
 have hw := hw.callB h13
 refine sv hs (y_geq rfl rfl) rfl fun a hs => ?_
 refine av hs rfl rfl fun a hs => ?_
 refine nl ?_
 have hsh := oi hsh
 subst hsh
 refine wp_ret ?_
 exact ret1 hs rfl (rv_tmp rfl) (hw.ret rfl)

abbrev span_Has_fn1_rd (w0 : World) (X : List Nat) (r : Bool) : (Nat → Prop) → World → Value → Prop := fun S w v => v = .bool r
set_option maxHeartbeats 4000000 in
set_option maxRecDepth 100000 in
theorem span_Has_fn1_ok {w0 : World} {S0 : Nat → Prop} {b3 : Nat} {s1 : Span} {x2 : Int} {r : Bool} (hsh : span_Has_fn1 s1 x2 = some r) (hS : ∀ b, S0 b → b < w0.heap.size) (h4 : (CeA b3 0 [.int .i64 x2]).p S0 w0) : Calls Try.prog 56 #[.agg #[.int .i64 s1.From, .int .i64 s1.To], .pointer (some ⟨b3, 0, none⟩)] w0 (Ret ([]) w0 S0 (span_Has_fn1_rd w0 ([]) r)) := by
 refine calls_of_wp Try.func56 rfl ?_
 have hs := Sl.enter #[.agg #[.int .i64 s1.From, .int .i64 s1.To], .pointer (some ⟨b3, 0, none⟩)] 14 [(0, .agg #[.int .i64 s1.From, .int .i64 s1.To]), (1, .pointer (some ⟨b3, 0, none⟩))] rfl ⟨rfl, rfl, trivial⟩
 have hw := Wd.enter (E := []) hS (fun _ h => (by cases h))
 have hw := hw.addE h4
 delta span_Has_fn1 at hsh
 refine sr ?_
 refine w_box (cs := [.int .i64 s1.From, .int .i64 s1.To]) hs hw rfl rfl rfl trivial ?_
 intro b5 a w hs hw
 refine av hs rfl rfl fun a hs => ?_
 refine nl ?_
 refine sr ?_
 refine sv hs (y_fieldAddr (o' := 0) Try.runUnderlying46 rfl Try.sizeOf3 rfl rfl rfl) rfl fun a hs => ?_
 refine sv hs (y_loadB1 (hw.ownAt 0 rfl) rfl Try.isAgg3 rfl) rfl fun a hs => ?_
 refine sv hs (y_loadE1 (j := 0) (hw.ceAt 0 rfl) rfl Try.isAgg3 rfl) rfl fun a hs => ?_
 refine sv hs (y_leq rfl rfl) rfl fun a hs => ?_
 refine mv hs rfl rfl fun a hs => ?_
 refine wpl_join 5 (fun a w1 => w = w1 ∧ Sl 14 [(13, .bool ((decide (s1.From ≤ x2)) && (decide (x2 < s1.To))))] a) ?_ ?_
 ·rcases Bool.eq_false_or_eq_true (decide (s1.From ≤ x2)) with h6 | h6
  ·have hs := hs.fix 8 (.bool true) rfl (vb h6)
   refine st_val hs (y_loadE1 (j := 0) (hw.ceAt 0 rfl) rfl Try.isAgg3 rfl) ⟨_, rfl, rfl⟩ rfl rfl fun a hs => ?_
   refine st_val hs (y_fieldAddr (o' := 1) Try.runUnderlying46 rfl Try.sizeOf3 rfl rfl rfl) ⟨_, rfl, rfl⟩ rfl rfl fun a hs => ?_
   refine st_val hs (y_loadB1 (hw.ownAt 0 rfl) rfl Try.isAgg3 rfl) ⟨_, rfl, rfl⟩ rfl rfl fun a hs => ?_
   refine st_val hs (y_lss rfl rfl) ⟨_, rfl, rfl⟩ rfl rfl fun a hs => ?_
   refine sv hs (y_pickT rfl rfl) rfl fun a hs => ?_
   refine nl ?_
   exact ⟨rfl, (hs.fix 13 (.bool ((decide (s1.From ≤ x2)) && (decide (x2 < s1.To)))) rfl (and_t h6)).weaken _ ⟨rfl, trivial⟩⟩
  have hs := hs.fix 8 (.bool false) rfl (vb h6)
  refine st_skip hs rfl rfl rfl rfl rfl fun a hs => ?_
  refine st_skip hs rfl rfl rfl rfl rfl fun a hs => ?_
  refine st_skip hs rfl rfl rfl rfl rfl fun a hs => ?_
  refine st_skip hs rfl rfl rfl rfl rfl fun a hs => ?_
  refine sv hs (y_pickF rfl rfl) rfl fun a hs => ?_
  refine nl ?_
  exact ⟨rfl, (hs.fix 13 (.bool ((decide (s1.From ≤ x2)) && (decide (x2 < s1.To)))) rfl (and_f h6)).weaken _ ⟨rfl, trivial⟩⟩
 rintro a w1 ⟨h7, hs⟩
 subst h7
 refine av hs rfl rfl fun a hs => ?_
 refine nl ?_
 have hsh := oi hsh
 subst hsh
 refine wp_ret ?_
 exact ret1 hs rfl (rv_tmp rfl) (hw.ret rfl)

theorem span_Has_fn1_fn {S0 : Nat → Prop} {w0 : World} {b3 : Nat} {x2 : Int} (h4 : (CeA b3 0 [.int .i64 x2]).p S0 w0) : (FnA1 Try.prog 56 [] [.pointer (some ⟨b3, 0, none⟩)] (fun y0 => span_Has_fn1 y0 x2)).p S0 w0 := by
  refine ⟨Try.call56, ?_⟩
  intro S1 w1 hk hS c0 x0 r1 h0 hf
  obtain ⟨_, _, rfl, rfl, rfl⟩ := h0
  exact span_Has_fn1_ok hf hS  (Asrt.mono _ hk h4)

abbrev span_Has_rd (w0 : World) (X : List Nat) (r : Bool) : (Nat → Prop) → World → Value → Prop := fun S w v => v = .bool r
set_option maxHeartbeats 4000000 in
set_option maxRecDepth 100000 in
theorem span_Has_ok {w0 : World} {S0 : Nat → Prop} {p2 : Option Addr} {k3 : Nat} {l1 : (List Span)} {x5 : Int} {r : Bool} (hsh : span_Has l1 x5 = some r) (hS : ∀ b, S0 b → b < w0.heap.size) (h4 : (SlA p2 l1.length k3 l1).p S0 w0) : Calls Try.prog 39 #[.slice p2 l1.length k3, .int .i64 x5] w0 (Ret ([]) w0 S0 (span_Has_rd w0 ([]) r)) := by
 refine calls_of_wp Try.func39 rfl ?_
 have hs := Sl.enter #[.slice p2 l1.length k3, .int .i64 x5] 8 [(0, .slice p2 l1.length k3), (1, .int .i64 x5)] rfl ⟨rfl, rfl, trivial⟩
 have hw := Wd.enter (E := []) hS (fun _ h => (by cases h))
 have hw := hw.addE h4
 delta span_Has at hsh
 refine sr ?_
 refine w_box (cs := [.int .i64 x5]) hs hw rfl rfl rfl trivial ?_
 intro b6 a w hs hw
 refine av hs rfl rfl fun a hs => ?_
 refine nl ?_
 refine sr ?_
 refine mv hs rfl rfl fun a hs => ?_
 refine sv hs (y_makeFunc (vs := #[]) (us := #[.pointer (some ⟨b6, 0, none⟩)]) rfl rfl) rfl fun a hs => ?_
 obtain ⟨rv8, h7, hsh⟩ := bind_t hsh
 refine st_callR hs (slices_ContainsFunc_Lapi_Span_api_Span_ok h7 hw.bdom (hw.bE 0 rfl) (span_Has_fn1_fn (hw.bBox 0 rfl))) (do_call Try.call55 rfl) trivial rfl rfl ?_
 intro v12 Sv9 w a h10 h11 hs
 subst h11
 have hw := hw.callB h10
 refine av hs rfl rfl fun a hs => ?_
 refine nl ?_
 have hsh := oi hsh
 subst hsh
 refine wp_ret ?_
 exact ret1 hs rfl (rv_tmp rfl) (hw.ret rfl)

abbrev slices_Grow_Lapi_Span_api_Span_n_rd (w0 : World) (X : List Nat) (r : (List Span)) : (Nat → Prop) → World → Value → Prop := fun S w v => ∃ (p0_0 : Option Addr) (k0_0 : Nat) (c0_0 : List Value), v = .slice p0_0 r.length k0_0 ∧ Outs X w0 S w [.row p0_0 r.length k0_0 c0_0 46 2] ∧ (RowA c0_0 r).p S w
set_option maxHeartbeats 4000000 in
set_option maxRecDepth 100000 in
theorem slices_Grow_Lapi_Span_api_Span_n_ok {w0 : World} {S0 : Nat → Prop} {n1 : Int} {r : (List Span)} (hsh : slices_Grow_Lapi_Span_api_Span_n n1 = some r) (hS : ∀ b, S0 b → b < w0.heap.size) : Calls Try.prog 65 #[.slice none 0 0, .int .i64 n1] w0 (Ret ([]) w0 S0 (slices_Grow_Lapi_Span_api_Span_n_rd w0 ([]) r)) := by
 refine calls_of_wp Try.func65 rfl ?_
 have hs := Sl.enter #[.slice none 0 0, .int .i64 n1] 27 [(0, .slice none 0 0), (1, .int .i64 n1)] rfl ⟨rfl, rfl, trivial⟩
 have hw := Wd.enter (E := []) hS (fun _ h => (by cases h))
 delta slices_Grow_Lapi_Span_api_Span_n at hsh
 refine sr ?_
 refine av hs rfl rfl fun a hs => ?_
 refine nl ?_
 refine wp_seq ?_
 refine sr ?_
 refine mv hs rfl rfl fun a hs => ?_
 refine sv hs (y_lss rfl rfl) rfl fun a hs => ?_
 refine nl ?_
 refine wp_cond_split (hs.ev rfl) (fun h3 => ?_) (fun h3 => ?_)
 ·have hsh := ite_t hsh h3
  cases hsh
 have hsh := ite_f hsh h3
 refine wp_skip ?_
 refine then_normal ?_
 refine wp_seq ?_
 refine sr ?_
 refine mv hs rfl rfl fun a hs => ?_
 refine mv hs rfl rfl fun a hs => ?_
 refine sv hs (y_cap Try.runUnderlying27 rfl) rfl fun a hs => ?_
 refine mv hs rfl rfl fun a hs => ?_
 refine sv hs (y_len Try.runUnderlying27 rfl) rfl fun a hs => ?_
 refine sv hs (y_sub rfl rfl) rfl fun a hs => ?_
 refine sv hs (y_sub rfl rfl) rfl fun a hs => ?_
 obtain ⟨n5, h4, hsh⟩ := bind_t hsh
 refine sv hs (y_assignI rfl h4) rfl fun a hs => ?_
 refine nl ?_
 refine sr ?_
 refine mv hs rfl rfl fun a hs => ?_
 refine sv hs (y_gtr rfl rfl) rfl fun a hs => ?_
 refine nl ?_
 refine wp_join (fun a w => ∃ (sv23 : (List Span)) (c19 : List Value) (p20 : Option Addr) (k21 : Nat) (Sv22 : Nat → Prop), slices_Grow_Lapi_Span_api_Span_n_j1 sv23 = some r ∧ Sl 27 [(0, .slice p20 sv23.length k21)] a ∧ Wd ⟨w0, S0, []⟩ Sv22 [.row p20 sv23.length k21 c19 46 2] [RowA c19 sv23] w) ?_ ?_
 ·refine wp_cond_split (hs.ev rfl) (fun h24 => ?_) (fun h24 => ?_)
  ·have hsh := ite_t hsh h24
   refine wp_region_lit ?_
   refine mv hs rfl rfl fun a hs => ?_
   refine mv hs rfl rfl fun a hs => ?_
   refine sv hs (y_cap Try.runUnderlying27 rfl) rfl fun a hs => ?_
   obtain ⟨l28, h25, hsh⟩ := bind_t hsh
   obtain ⟨h26, h27⟩ := sub_nil 2 h25
   subst h26
   refine sv hs (y_slc Try.runUnderlying27 Try.sizeOf46 rfl (by exact rfl) ⟨_, rfl⟩ h27) rfl fun a hs => ?_
   refine mv hs rfl rfl fun a hs => ?_
   obtain ⟨l30, h29, hsh⟩ := bind_t hsh
   refine w_appendMk (α := Span) hs hw El27 ⟨_, _, rfl, rfl, rfl⟩ Try.underlying3 rfl rfl h29 rfl rfl trivial ?_
   intro p31 k32 c33 a w hs hw
   refine mv hs rfl rfl fun a hs => ?_
   refine sv hs (y_len Try.runUnderlying27 rfl) rfl fun a hs => ?_
   obtain ⟨l36, h34, hsh⟩ := bind_t hsh
   obtain ⟨hw, h35⟩ := w_cut hw 0 rfl 0 rfl h34
   refine sv hs (y_slc Try.runUnderlying27 Try.sizeOf46 rfl (by exact rfl) ⟨_, rfl⟩ h35) rfl fun a hs => ?_
   refine av hs rfl rfl fun a hs => ?_
   refine nl ?_
   exact ⟨l36, (c33.take (l36.length * 2)), p31, k32, S0, hsh, (hs.wk rfl), (hw.ft [0] [0] (by decide) rfl rfl)⟩
  have hsh := ite_f hsh h24
  refine wp_skip ?_
  refine then_normal ?_
  have hw := hw.nilRow Span 46
  exact ⟨([] : List Span), [], none, 0, S0, hsh, (hs.wk rfl), (hw.ft [0] [0] (by decide) rfl rfl)⟩
 rintro a w ⟨sv23, c19, p20, k21, Sv22, hsh, hs, hw⟩
 delta slices_Grow_Lapi_Span_api_Span_n_j1 at hsh
 refine then_normal ?_
 refine sr ?_
 refine mv hs rfl rfl fun a hs => ?_
 refine av hs rfl rfl fun a hs => ?_
 refine nl ?_
 have hsh := oi hsh
 subst hsh
 refine wp_ret ?_
 exact ret1 hs rfl (rv_tmp rfl) (hw.ret ⟨p20, k21, c19, rfl, (hw.outs [0] (by decide) rfl), (hw.envAt 0 rfl)⟩)

abbrev slices_Concat_Lapi_Span_api_Span_rd (w0 : World) (X : List Nat) (r : (List Span)) : (Nat → Prop) → World → Value → Prop := fun S w v => ∃ (p0_0 : Option Addr) (k0_0 : Nat) (c0_0 : List Value), v = .slice p0_0 r.length k0_0 ∧ Outs X w0 S w [.row p0_0 r.length k0_0 c0_0 46 2] ∧ (RowA c0_0 r).p S w
set_option maxHeartbeats 4000000 in
set_option maxRecDepth 100000 in
theorem slices_Concat_Lapi_Span_api_Span_ok {w0 : World} {S0 : Nat → Prop} {p2 : Option Addr} {k3 : Nat} {slices1 : (List (List Span))} {r : (List Span)} (hsh : slices_Concat_Lapi_Span_api_Span slices1 = some r) (hS : ∀ b, S0 b → b < w0.heap.size) (h4 : (SlA p2 slices1.length k3 slices1).p S0 w0) : Calls Try.prog 54 #[.slice p2 slices1.length k3] w0 (Ret ([]) w0 S0 (slices_Concat_Lapi_Span_api_Span_rd w0 ([]) r)) := by
 refine calls_of_wp Try.func54 rfl ?_
 have hs := Sl.enter #[.slice p2 slices1.length k3] 36 [(0, .slice p2 slices1.length k3)] rfl ⟨rfl, trivial⟩
 have hw := Wd.enter (E := []) hS (fun _ h => (by cases h))
 have hw := hw.addE h4
 delta slices_Concat_Lapi_Span_api_Span at hsh
 refine sr ?_
 refine av hs rfl rfl fun a hs => ?_
 refine nl ?_
 refine sr ?_
 refine av hs rfl rfl fun a hs => ?_
 refine nl ?_
 refine wp_seq ?_
 refine sr ?_
 refine mv hs rfl rfl fun a hs => ?_
 refine sv hs (y_len Try.runUnderlying43 rfl) rfl fun a hs => ?_
 refine mv hs rfl rfl fun a hs => ?_
 refine nl ?_
 obtain ⟨e74, h265, hsh⟩ := bind_t hsh
 refine wp_join (fun a w => ∃ (Sv75 : Nat → Prop), Sl 36 [(0, .slice p2 slices1.length k3), (3, .int .i64 e74)] a ∧ Wd ⟨w0, S0, []⟩ Sv75 [] [SlA p2 slices1.length k3 slices1] w) ?_ ?_
 ·refine wp_block ?_
  refine wp_while (fun sv5 a w => ∃ (Sv49 : Nat → Prop), Sl 36 [(0, .slice p2 slices1.length k3), (3, .int .i64 sv5.1), (9, .slice p2 slices1.length k3), (10, .int .i64 (slices1.length : Int)), (11, .int .i64 sv5.2)] a ∧ Wd ⟨w0, S0, []⟩ Sv49 [] [SlA p2 slices1.length k3 slices1] w) (0, 0) h265 ⟨S0, (hs.wk rfl), (hw.ft [] [0] (by decide) rfl rfl)⟩ ?_
  clear h265
  repeat clear hsh
  rintro sv5 a w tv72 ⟨Sv49, hs, hw⟩ hsh hd71
  delta slices_Concat_Lapi_Span_api_Span_l1 at hsh
  refine sr ?_
  refine sv hs (y_lss rfl rfl) rfl fun a hs => ?_
  refine nl ?_
  refine wp_seq ?_
  refine wp_cond_split (hs.ev rfl) (fun h77 => ?_) (fun h77 => ?_)
  ·have hsh := ite_t hsh h77
   refine wp_skip ?_
   refine then_normal ?_
   refine wp_seq ?_
   refine wp_block ?_
   refine sr ?_
   obtain ⟨x100, h98, hsh⟩ := bind_t hsh
   obtain ⟨b106, o107, q104, c105, h108, h101, h102, h103, h99⟩ := hw.elemV 0 rfl h98
   have hsv109 := hs
   have hwv110 := hw
   subst h108
   have hs := hsv109
   have hw := hwv110
   obtain ⟨_, rfl, ⟨p111, n112, k113, rfl, h114⟩⟩ := h99
   obtain rfl := h114.1
   have hw := hw.addE (e := SlA p111 _ k113 x100) h114
   have hw := hw.addE h103
   refine sv hs (y_indexAt Try.runUnderlying43 Try.sizeOf27 rfl rfl h101.1 h101.2 h102) rfl fun a hs => ?_
   refine sv hs (y_loadE1 (j := 0) (hw.ceAt 0 rfl) rfl Try.isAgg27 rfl) rfl fun a hs => ?_
   refine av hs rfl rfl fun a hs => ?_
   refine nl ?_
   refine sr ?_
   refine mv hs rfl rfl fun a hs => ?_
   refine mv hs rfl rfl fun a hs => ?_
   refine sv hs (y_len Try.runUnderlying27 rfl) rfl fun a hs => ?_
   refine sv hs (y_add rfl rfl) rfl fun a hs => ?_
   obtain ⟨size116, h115, hsh⟩ := bind_t hsh
   refine sv hs (y_assignI rfl h115) rfl fun a hs => ?_
   refine nl ?_
   refine sr ?_
   refine mv hs rfl rfl fun a hs => ?_
   refine sv hs (y_lss rfl rfl) rfl fun a hs => ?_
   refine nl ?_
   refine wp_cond_split (hs.ev rfl) (fun h118 => ?_) (fun h118 => ?_)
   ·have hsh := ite_t hsh h118
    cases hsh
   have hsh := ite_f hsh h118
   refine wp_skip ?_
   refine blk_normal ?_
   refine then_normal ?_
   refine wp_region_lit ?_
   refine sv hs (y_add rfl rfl) rfl fun a hs => ?_
   refine mv hs rfl rfl fun a hs => ?_
   refine nl ?_
   exact ⟨_, (Option.some.inj hsh).symm, Sv49, (hs.wk rfl), (hw.ft [] [2] (by decide) rfl rfl)⟩
  have hsh := ite_f hsh h77
  refine wp_exit ?_
  refine then_exit ?_
  refine then_exit ?_
  refine blk_exit ?_
  have hsh := oi hsh
  subst hsh
  have h119 := hd71 _ rfl
  subst h119
  refine then_normal ?_
  exact ⟨Sv49, (hs.wk rfl), (hw.ft [] [0] (by decide) rfl rfl)⟩
 rintro a w ⟨Sv75, hs, hw⟩
 refine then_normal ?_
 refine sr ?_
 refine mv hs rfl rfl fun a hs => ?_
 obtain ⟨rv121, h120, hsh⟩ := bind_t hsh
 refine st_callR hs (slices_Grow_Lapi_Span_api_Span_n_ok h120 hw.dom) (do_call Try.call65 rfl) trivial rfl rfl ?_
 intro v129 Sv126 w a h127 h128 hs
 obtain ⟨p122, k123, c125, rfl, h130, h124⟩ := h128
 have hw := hw.callN h127 h130
 have hw := hw.addE (e := RowA c125 rv121) h124
 refine av hs rfl rfl fun a hs => ?_
 refine nl ?_
 refine wp_seq ?_
 refine sr ?_
 refine mv hs rfl rfl fun a hs => ?_
 refine sv hs (y_len Try.runUnderlying43 rfl) rfl fun a hs => ?_
 refine mv hs rfl rfl fun a hs => ?_
 refine nl ?_
 obtain ⟨e212, h264, hsh⟩ := bind_t hsh
 refine wp_join (fun a w => ∃ (c213 : List Value) (p214 : Option Addr) (k215 : Nat) (Sv216 : Nat → Prop), Sl 36 [(6, .slice p214 e212.length k215)] a ∧ Wd ⟨w0, S0, []⟩ Sv216 [.row p214 e212.length k215 c213 46 2] [RowA c213 e212] w) ?_ ?_
 ·refine wp_block ?_
  refine wp_while (fun sv131 a w => ∃ (c182 : List Value) (p183 : Option Addr) (k184 : Nat) (Sv185 : Nat → Prop), Sl 36 [(6, .slice p183 sv131.1.length k184), (25, .slice p2 slices1.length k3), (26, .int .i64 (slices1.length : Int)), (27, .int .i64 sv131.2)] a ∧ Wd ⟨w0, S0, []⟩ Sv185 [.row p183 sv131.1.length k184 c182 46 2] [SlA p2 slices1.length k3 slices1, RowA c182 sv131.1] w) (rv121, 0) h264 ⟨c125, p122, k123, Sv126, (hs.wk rfl), (hw.ft [0] [1, 0] (by decide) rfl rfl)⟩ ?_
  clear h264
  repeat clear hsh
  rintro sv131 a w tv210 ⟨c182, p183, k184, Sv185, hs, hw⟩ hsh hd209
  delta slices_Concat_Lapi_Span_api_Span_l2 at hsh
  refine sr ?_
  refine sv hs (y_lss rfl rfl) rfl fun a hs => ?_
  refine nl ?_
  refine wp_seq ?_
  refine wp_cond_split (hs.ev rfl) (fun h218 => ?_) (fun h218 => ?_)
  ·have hsh := ite_t hsh h218
   refine wp_skip ?_
   refine then_normal ?_
   refine wp_seq ?_
   refine wp_block ?_
   refine sr ?_
   obtain ⟨x243, h241, hsh⟩ := bind_t hsh
   obtain ⟨b249, o250, q247, c248, h251, h244, h245, h246, h242⟩ := hw.elemV 0 rfl h241
   have hsv252 := hs
   have hwv253 := hw
   subst h251
   have hs := hsv252
   have hw := hwv253
   obtain ⟨_, rfl, ⟨p254, n255, k256, rfl, h257⟩⟩ := h242
   obtain rfl := h257.1
   have hw := hw.addE (e := SlA p254 _ k256 x243) h257
   have hw := hw.addE h246
   refine sv hs (y_indexAt Try.runUnderlying43 Try.sizeOf27 rfl rfl h244.1 h244.2 h245) rfl fun a hs => ?_
   refine sv hs (y_loadE1 (j := 0) (hw.ceAt 0 rfl) rfl Try.isAgg27 rfl) rfl fun a hs => ?_
   refine av hs rfl rfl fun a hs => ?_
   refine nl ?_
   refine wp_region_lit ?_
   refine mv hs rfl rfl fun a hs => ?_
   refine mv hs rfl rfl fun a hs => ?_
   obtain ⟨l259, h258, hsh⟩ := bind_t hsh
   refine w_appendE (α := Span) hs hw El27 0 rfl rfl rfl 3 rfl 1 rfl h258 rfl trivial ?_
   intro p260 k261 c262 a w hs hw
   refine av hs rfl rfl fun a hs => ?_
   refine wpList_nil ?_
   refine blk_normal ?_
   refine then_normal ?_
   refine wp_region_lit ?_
   refine sv hs (y_add rfl rfl) rfl fun a hs => ?_
   refine mv hs rfl rfl fun a hs => ?_
   refine nl ?_
   exact ⟨_, (Option.some.inj hsh).symm, c262, p260, k261, Sv185, (hs.wk rfl), (hw.ft [0] [3, 0] (by decide) rfl rfl)⟩
  have hsh := ite_f hsh h218
  refine wp_exit ?_
  refine then_exit ?_
  refine then_exit ?_
  refine blk_exit ?_
  have hsh := oi hsh
  subst hsh
  have h263 := hd209 _ rfl
  subst h263
  refine then_normal ?_
  exact ⟨c182, p183, k184, Sv185, (hs.wk rfl), (hw.ft [0] [1] (by decide) rfl rfl)⟩
 rintro a w ⟨c213, p214, k215, Sv216, hs, hw⟩
 refine then_normal ?_
 refine sr ?_
 refine mv hs rfl rfl fun a hs => ?_
 refine av hs rfl rfl fun a hs => ?_
 refine nl ?_
 have hsh := oi hsh
 subst hsh
 refine wp_ret ?_
 exact ret1 hs rfl (rv_tmp rfl) (hw.ret ⟨p214, k215, c213, rfl, (hw.outs [0] (by decide) rfl), (hw.envAt 0 rfl)⟩)

abbrev span_Union_rd (w0 : World) (X : List Nat) (r : (List Span)) : (Nat → Prop) → World → Value → Prop := fun S w v => ∃ (p0_0 : Option Addr) (k0_0 : Nat) (c0_0 : List Value), v = .slice p0_0 r.length k0_0 ∧ Outs X w0 S w [.row p0_0 r.length k0_0 c0_0 46 2] ∧ (RowA c0_0 r).p S w
set_option maxHeartbeats 4000000 in
set_option maxRecDepth 100000 in
theorem span_Union_ok {w0 : World} {S0 : Nat → Prop} {p2 : Option Addr} {k3 : Nat} {p6 : Option Addr} {k7 : Nat} {a1 : (List Span)} {b5 : (List Span)} {r : (List Span)} (hsh : span_Union a1 b5 = some r) (hS : ∀ b, S0 b → b < w0.heap.size) (h4 : (SlA p2 a1.length k3 a1).p S0 w0) (h8 : (SlA p6 b5.length k7 b5).p S0 w0) : Calls Try.prog 38 #[.slice p2 a1.length k3, .slice p6 b5.length k7] w0 (Ret ([]) w0 S0 (span_Union_rd w0 ([]) r)) := by
 refine calls_of_wp Try.func38 rfl ?_
 have hs := Sl.enter #[.slice p2 a1.length k3, .slice p6 b5.length k7] 10 [(0, .slice p2 a1.length k3), (1, .slice p6 b5.length k7)] rfl ⟨rfl, rfl, trivial⟩
 have hw := Wd.enter (E := []) hS (fun _ h => (by cases h))
 have hw := hw.addE h4
 have hw := hw.addE h8
 delta span_Union at hsh
 refine sr ?_
 refine av hs rfl rfl fun a hs => ?_
 refine nl ?_
 refine sr ?_
 refine mv hs rfl rfl fun a hs => ?_
 refine mv hs rfl rfl fun a hs => ?_
 refine w_litSlice (α := (List Span)) (vs := [.slice p2 a1.length k3, .slice p6 b5.length k7]) (cs := [.slice p2 a1.length k3, .slice p6 b5.length k7]) (xs := ([a1, b5] : List (List Span))) hs hw El43 rfl rfl rfl rfl rfl rfl ⟨⟨_, rfl, ⟨_, _, _, rfl, hw.envAt 1 rfl⟩⟩, ⟨⟨_, rfl, ⟨_, _, _, rfl, hw.envAt 0 rfl⟩⟩, rfl⟩⟩ rfl trivial rfl fun b10 a w hs hw => ?_
 obtain ⟨rv12, h11, hsh⟩ := bind_t hsh
 obtain ⟨Sv17, hw⟩ := w_share (α := (List Span)) hw 0 rfl 0 rfl
 refine st_callR hs (slices_Concat_Lapi_Span_api_Span_ok h11 hw.dom (hw.envAt 0 rfl)) (do_call Try.call54 rfl) trivial rfl rfl ?_
 intro v21 Sv18 w a h19 h20 hs
 obtain ⟨p13, k14, c16, rfl, h22, h15⟩ := h20
 have hw := hw.callN h19 h22
 have hw := hw.addE (e := RowA c16 rv12) h15
 obtain ⟨rv24, h23, hsh⟩ := bind_t hsh
 obtain ⟨Sv29, hw⟩ := w_share (α := Span) hw 0 rfl 0 rfl
 refine st_callR hs (span_Normal_ok h23 hw.dom (hw.envAt 0 rfl)) (do_call Try.call53 rfl) trivial rfl rfl ?_
 intro v33 Sv30 w a h31 h32 hs
 obtain ⟨p25, k26, c28, rfl, h34, h27⟩ := h32
 have hw := hw.callN h31 h34
 have hw := hw.addE (e := RowA c28 rv24) h27
 refine av hs rfl rfl fun a hs => ?_
 refine nl ?_
 have hsh := oi hsh
 subst hsh
 refine wp_ret ?_
 exact ret1 hs rfl (rv_tmp rfl) (hw.ret ⟨p25, k26, c28, rfl, (hw.outs [0] (by decide) rfl), (hw.envAt 0 rfl)⟩)

abbrev span_Minus_rd (w0 : World) (X : List Nat) (r : (List Span)) : (Nat → Prop) → World → Value → Prop := fun S w v => ∃ (p0_0 : Option Addr) (k0_0 : Nat) (c0_0 : List Value), v = .slice p0_0 r.length k0_0 ∧ Outs X w0 S w [.row p0_0 r.length k0_0 c0_0 46 2] ∧ (RowA c0_0 r).p S w
set_option maxHeartbeats 4000000 in
set_option maxRecDepth 100000 in
theorem span_Minus_ok {w0 : World} {S0 : Nat → Prop} {p2 : Option Addr} {k3 : Nat} {p6 : Option Addr} {k7 : Nat} {a1 : (List Span)} {b5 : (List Span)} {r : (List Span)} (hsh : span_Minus a1 b5 = some r) (hS : ∀ b, S0 b → b < w0.heap.size) (h4 : (SlA p2 a1.length k3 a1).p S0 w0) (h8 : (SlA p6 b5.length k7 b5).p S0 w0) : Calls Try.prog 35 #[.slice p2 a1.length k3, .slice p6 b5.length k7] w0 (Ret ([]) w0 S0 (span_Minus_rd w0 ([]) r)) := by
 refine calls_of_wp Try.func35 rfl ?_
 have hs := Sl.enter #[.slice p2 a1.length k3, .slice p6 b5.length k7] 68 [(0, .slice p2 a1.length k3), (1, .slice p6 b5.length k7)] rfl ⟨rfl, rfl, trivial⟩
 have hw := Wd.enter (E := []) hS (fun _ h => (by cases h))
 have hw := hw.addE h4
 have hw := hw.addE h8
 delta span_Minus at hsh
 refine sr ?_
 refine av hs rfl rfl fun a hs => ?_
 refine nl ?_
 refine sr ?_
 refine mv hs rfl rfl fun a hs => ?_
 obtain ⟨rv10, h9, hsh⟩ := bind_t hsh
 refine st_callR hs (span_Normal_ok h9 hw.dom (hw.envAt 0 rfl)) (do_call Try.call53 rfl) trivial rfl rfl ?_
 intro v18 Sv15 w a h16 h17 hs
 obtain ⟨p11, k12, c14, rfl, h19, h13⟩ := h17
 have hw := hw.callN h16 h19
 have hw := hw.addE (e := RowA c14 rv10) h13
 refine av hs rfl rfl fun a hs => ?_
 refine nl ?_
 refine sr ?_
 refine av hs rfl rfl fun a hs => ?_
 refine nl ?_
 refine wp_seq ?_
 refine sr ?_
 refine mv hs rfl rfl fun a hs => ?_
 obtain ⟨rv21, h20, hsh⟩ := bind_t hsh
 refine st_callR hs (span_Normal_ok h20 hw.dom (hw.envAt 2 rfl)) (do_call Try.call53 rfl) trivial rfl rfl ?_
 intro v29 Sv26 w a h27 h28 hs
 obtain ⟨p22, k23, c25, rfl, h30, h24⟩ := h28
 have hw := hw.callN h27 h30
 have hw := hw.addE (e := RowA c25 rv21) h24
 refine sv hs (y_len Try.runUnderlying27 rfl) rfl fun a hs => ?_
 refine mv hs rfl rfl fun a hs => ?_
 refine nl ?_
 obtain ⟨e529, h950, hsh⟩ := bind_t hsh
 refine wp_join (fun a w => ∃ (c530 : List Value) (p531 : Option Addr) (k532 : Nat) (Sv533 : Nat → Prop), Sl 68 [(5, .slice p531 e529.length k532)] a ∧ Wd ⟨w0, S0, []⟩ Sv533 [.row p531 e529.length k532 c530 46 2] [RowA c530 e529] w) ?_ ?_
 ·refine wp_block ?_
  have hw := hw.nilRow Span 46
  refine wp_while (fun sv31 a w => ∃ (c360 : List Value) (p361 : Option Addr) (k362 : Nat) (Sv363 : Nat → Prop), Sl 68 [(1, .slice p11 rv10.length k12), (5, .slice p361 sv31.1.length k362), (14, .slice p22 rv21.length k23), (15, .int .i64 (rv21.length : Int)), (16, .int .i64 sv31.2)] a ∧ Wd ⟨w0, S0, []⟩ Sv363 [.row p11 rv10.length k12 c14 46 2, .row p361 sv31.1.length k362 c360 46 2, .row p22 rv21.length k23 c25 46 2] [RowA c14 rv10, RowA c360 sv31.1, RowA c25 rv21] w) (([] : List Span), 0) h950 ⟨[], none, 0, Sv26, (hs.wk rfl), (hw.ft [2, 0, 1] [2, 0, 1] (by decide) rfl rfl)⟩ ?_
  clear h950
  repeat clear hsh
  rintro sv31 a w tv527 ⟨c360, p361, k362, Sv363, hs, hw⟩ hsh hd526
  delta span_Minus_l3 at hsh
  refine sr ?_
  refine sv hs (y_lss rfl rfl) rfl fun a hs => ?_
  refine nl ?_
  refine wp_seq ?_
  refine wp_cond_split (hs.ev rfl) (fun h535 => ?_) (fun h535 => ?_)
  ·have hsh := ite_t hsh h535
   refine wp_skip ?_
   refine then_normal ?_
   refine wp_seq ?_
   refine wp_block ?_
   refine sr ?_
   obtain ⟨x699, h697, hsh⟩ := bind_t hsh
   obtain ⟨b706, q703, c704, h707, h700, h701, h705, h698⟩ := hw.elemRV (α := Span) 2 rfl 2 rfl h697
   have hsv708 := hs
   have hwv709 := hw
   subst h707
   have hs := hsv708
   have hw := hwv709
   obtain ⟨_, _, rfl, rfl, rfl⟩ := h698
   refine sv hs (y_indexAt Try.runUnderlying27 Try.sizeOf46 rfl rfl h700.1 h700.2 h701) rfl fun a hs => ?_
   refine sv hs (y_loadQA (j := 0) (hw.ownAt 2 rfl) rfl Try.isAgg46 Try.sizeOf46 h705 rfl rfl) rfl fun a hs => ?_
   refine w_alloc (cs := [.int .i64 0, .int .i64 0]) hs hw Try.zeroValue46 rfl rfl trivial ?_
   intro b710 a w hs hw
   refine w_store (m := 2) (cs' := [.int .i64 x699.From, .int .i64 x699.To]) hs hw 0 rfl rfl rfl Try.sizeOf46 rfl rfl rfl rfl trivial ?_
   intro a w hs hw
   refine nl ?_
   refine sr ?_
   refine sv hs (y_fieldAddr (o' := 0) Try.runUnderlying46 rfl Try.sizeOf3 rfl rfl rfl) rfl fun a hs => ?_
   refine sv hs (y_loadB1 (hw.ownAt 0 rfl) rfl Try.isAgg3 rfl) rfl fun a hs => ?_
   refine av hs rfl rfl fun a hs => ?_
   refine nl ?_
   refine wp_seq ?_
   refine sr ?_
   refine mv hs rfl rfl fun a hs => ?_
   refine sv hs (y_len Try.runUnderlying27 rfl) rfl fun a hs => ?_
   refine mv hs rfl rfl fun a hs => ?_
   refine nl ?_
   obtain ⟨e840, h948, hsh⟩ := bind_t hsh
   refine wp_join (fun a w => ∃ (c841 : List Value) (p842 : Option Addr) (k843 : Nat) (Sv844 : Nat → Prop), Sl 68 [(1, .slice p11 rv10.length k12), (5, .slice p842 e840.1.length k843), (7, .pointer (some ⟨b710, 0, none⟩)), (8, .int .i64 e840.2), (14, .slice (some ⟨b706, 0, none⟩) rv21.length k23), (15, .int .i64 (rv21.length : Int)), (16, .int .i64 sv31.2)] a ∧ Wd ⟨w0, S0, []⟩ Sv844 [.box b710 [.int .i64 x699.From, .int .i64 x699.To] 46, .row p11 rv10.length k12 c14 46 2, .row p842 e840.1.length k843 c841 46 2, .row (some ⟨b706, 0, none⟩) rv21.length k23 c25 46 2] [RowA c14 rv10, RowA c841 e840.1, RowA c25 rv21] w) ?_ ?_
   ·refine wp_block ?_
    refine wp_while (fun sv711 a w => ∃ (c794 : List Value) (p795 : Option Addr) (k796 : Nat) (Sv797 : Nat → Prop), Sl 68 [(1, .slice p11 rv10.length k12), (5, .slice p795 sv711.1.length k796), (7, .pointer (some ⟨b710, 0, none⟩)), (8, .int .i64 sv711.2.1), (14, .slice (some ⟨b706, 0, none⟩) rv21.length k23), (15, .int .i64 (rv21.length : Int)), (16, .int .i64 sv31.2), (22, .slice p11 rv10.length k12), (23, .int .i64 (rv10.length : Int)), (24, .int .i64 sv711.2.2)] a ∧ Wd ⟨w0, S0, []⟩ Sv797 [.box b710 [.int .i64 x699.From, .int .i64 x699.To] 46, .row p11 rv10.length k12 c14 46 2, .row p795 sv711.1.length k796 c794 46 2, .row (some ⟨b706, 0, none⟩) rv21.length k23 c25 46 2] [RowA c14 rv10, RowA c794 sv711.1, RowA c25 rv21] w) (sv31.1, x699.From, 0) h948 ⟨c360, p361, k362, Sv363, (hs.wk rfl), (hw.ft [0, 1, 2, 3] [0, 1, 2] (by decide) rfl rfl)⟩ ?_
    clear h948
    repeat clear hsh
    rintro sv711 a w tv838 ⟨c794, p795, k796, Sv797, hs, hw⟩ hsh hd837
    delta span_Minus_l6 at hsh
    refine sr ?_
    refine sv hs (y_lss rfl rfl) rfl fun a hs => ?_
    refine nl ?_
    refine wp_seq ?_
    refine wp_cond_split (hs.ev rfl) (fun h846 => ?_) (fun h846 => ?_)
    ·have hsh := ite_t hsh h846
     refine wp_skip ?_
     refine then_normal ?_
     refine wp_seq ?_
     refine wp_join (fun a w => ∃ (out883 : (List Span)) (atv884 : Int) (c879 : List Value) (p880 : Option Addr) (k881 : Nat) (Sv882 : Nat → Prop), span_Minus_j1 sv711 out883 atv884 = some tv838 ∧ Sl 68 [(1, .slice p11 rv10.length k12), (5, .slice p880 out883.length k881), (7, .pointer (some ⟨b710, 0, none⟩)), (8, .int .i64 atv884), (14, .slice (some ⟨b706, 0, none⟩) rv21.length k23), (15, .int .i64 (rv21.length : Int)), (16, .int .i64 sv31.2), (22, .slice p11 rv10.length k12), (23, .int .i64 (rv10.length : Int)), (24, .int .i64 sv711.2.2)] a ∧ Wd ⟨w0, S0, []⟩ Sv882 [.box b710 [.int .i64 x699.From, .int .i64 x699.To] 46, .row p11 rv10.length k12 c14 46 2, .row p880 out883.length k881 c879 46 2, .row (some ⟨b706, 0, none⟩) rv21.length k23 c25 46 2] [RowA c14 rv10, RowA c879 out883, RowA c25 rv21] w) ?_ ?_
     ·refine wp_block ?_
      refine sr ?_
      obtain ⟨x887, h885, hsh⟩ := bind_t hsh
      obtain ⟨b894, q891, c892, h895, h888, h889, h893, h886⟩ := hw.elemRV (α := Span) 1 rfl 0 rfl h885
      have hsv896 := hs
      have hwv897 := hw
      subst h895
      have hs := hsv896
      have hw := hwv897
      obtain ⟨_, _, rfl, rfl, rfl⟩ := h886
      refine sv hs (y_indexAt Try.runUnderlying27 Try.sizeOf46 rfl rfl h888.1 h888.2 h889) rfl fun a hs => ?_
      refine sv hs (y_loadQA (j := 0) (hw.ownAt 1 rfl) rfl Try.isAgg46 Try.sizeOf46 h893 rfl rfl) rfl fun a hs => ?_
      refine w_alloc (cs := [.int .i64 0, .int .i64 0]) hs hw Try.zeroValue46 rfl rfl trivial ?_
      intro b898 a w hs hw
      refine w_store (m := 2) (cs' := [.int .i64 x887.From, .int .i64 x887.To]) hs hw 0 rfl rfl rfl Try.sizeOf46 rfl rfl rfl rfl trivial ?_
      intro a w hs hw
      refine nl ?_
      refine wp_seq ?_
      refine sr ?_
      refine sv hs (y_fieldAddr (o' := 1) Try.runUnderlying46 rfl Try.sizeOf3 rfl rfl rfl) rfl fun a hs => ?_
      refine sv hs (y_loadB1 (hw.ownAt 0 rfl) rfl Try.isAgg3 rfl) rfl fun a hs => ?_
      refine mv hs rfl rfl fun a hs => ?_
      refine sv hs (y_leq rfl rfl) rfl fun a hs => ?_
      refine mv hs rfl rfl fun a hs => ?_
      refine wpl_join 6 (fun a w1 => w = w1 ∧ Sl 68 [(1, .slice (some ⟨b894, 0, none⟩) rv10.length k12), (5, .slice p795 sv711.1.length k796), (7, .pointer (some ⟨b710, 0, none⟩)), (8, .int .i64 sv711.2.1), (10, .pointer (some ⟨b898, 0, none⟩)), (14, .slice (some ⟨b706, 0, none⟩) rv21.length k23), (15, .int .i64 (rv21.length : Int)), (16, .int .i64 sv31.2), (22, .slice (some ⟨b894, 0, none⟩) rv10.length k12), (23, .int .i64 (rv10.length : Int)), (24, .int .i64 sv711.2.2), (38, .bool ((decide (x887.To ≤ sv711.2.1)) || (decide (x699.To ≤ x887.From))))] a) ?_ ?_
      ·rcases Bool.eq_false_or_eq_true (decide (x887.To ≤ sv711.2.1)) with h899 | h899
       ·have hs := hs.fix 32 (.bool true) rfl (vb h899)
        refine st_skip hs rfl rfl rfl rfl rfl fun a hs => ?_
        refine st_skip hs rfl rfl rfl rfl rfl fun a hs => ?_
        refine st_skip hs rfl rfl rfl rfl rfl fun a hs => ?_
        refine st_skip hs rfl rfl rfl rfl rfl fun a hs => ?_
        refine st_skip hs rfl rfl rfl rfl rfl fun a hs => ?_
        refine sv hs (y_pickT rfl rfl) rfl fun a hs => ?_
        refine nl ?_
        exact ⟨rfl, (hs.fix 38 (.bool ((decide (x887.To ≤ sv711.2.1)) || (decide (x699.To ≤ x887.From)))) rfl (or_t h899)).weaken _ ⟨rfl, rfl, rfl, rfl, rfl, rfl, rfl, rfl, rfl, rfl, rfl, rfl, trivial⟩⟩
       have hs := hs.fix 32 (.bool false) rfl (vb h899)
       refine st_val hs (y_fieldAddr (o' := 0) Try.runUnderlying46 rfl Try.sizeOf3 rfl rfl rfl) ⟨_, rfl, rfl⟩ rfl rfl fun a hs => ?_
       refine st_val hs (y_loadB1 (hw.ownAt 0 rfl) rfl Try.isAgg3 rfl) ⟨_, rfl, rfl⟩ rfl rfl fun a hs => ?_
       refine st_val hs (y_fieldAddr (o' := 1) Try.runUnderlying46 rfl Try.sizeOf3 rfl rfl rfl) ⟨_, rfl, rfl⟩ rfl rfl fun a hs => ?_
       refine st_val hs (y_loadB1 (hw.ownAt 1 rfl) rfl Try.isAgg3 rfl) ⟨_, rfl, rfl⟩ rfl rfl fun a hs => ?_
       refine st_val hs (y_geq rfl rfl) ⟨_, rfl, rfl⟩ rfl rfl fun a hs => ?_
       refine sv hs (y_pickF rfl rfl) rfl fun a hs => ?_
       refine nl ?_
       exact ⟨rfl, (hs.fix 38 (.bool ((decide (x887.To ≤ sv711.2.1)) || (decide (x699.To ≤ x887.From)))) rfl (or_f h899)).weaken _ ⟨rfl, rfl, rfl, rfl, rfl, rfl, rfl, rfl, rfl, rfl, rfl, rfl, trivial⟩⟩
      rintro a w1 ⟨h925, hs⟩
      subst h925
      refine nl ?_
      refine wp_cond_split (hs.ev rfl) (fun h901 => ?_) (fun h901 => ?_)
      ·have hsh := ite_t hsh h901
       refine wp_exit ?_
       refine then_exit ?_
       refine blk_exit ?_
       refine then_normal ?_
       exact ⟨sv711.1, sv711.2.1, c794, p795, k796, Sv797, hsh, (hs.wk rfl), (hw.ft [1, 2, 3, 4] [0, 1, 2] (by decide) rfl rfl)⟩
      have hsh := ite_f hsh h901
      refine wp_skip ?_
      refine then_normal ?_
      refine wp_seq ?_
      refine sr ?_
      refine mv hs rfl rfl fun a hs => ?_
      refine sv hs (y_fieldAddr (o' := 0) Try.runUnderlying46 rfl Try.sizeOf3 rfl rfl rfl) rfl fun a hs => ?_
      refine sv hs (y_loadB1 (hw.ownAt 0 rfl) rfl Try.isAgg3 rfl) rfl fun a hs => ?_
      refine sv hs (y_lss rfl rfl) rfl fun a hs => ?_
      refine nl ?_
      refine wp_join (fun a w => ∃ (out914 : (List Span)) (c910 : List Value) (p911 : Option Addr) (k912 : Nat) (Sv913 : Nat → Prop), span_Minus_j2 sv711 x887 out914 = some tv838 ∧ Sl 68 [(1, .slice (some ⟨b894, 0, none⟩) rv10.length k12), (5, .slice p911 out914.length k912), (7, .pointer (some ⟨b710, 0, none⟩)), (8, .int .i64 sv711.2.1), (10, .pointer (some ⟨b898, 0, none⟩)), (14, .slice (some ⟨b706, 0, none⟩) rv21.length k23), (15, .int .i64 (rv21.length : Int)), (16, .int .i64 sv31.2), (22, .slice (some ⟨b894, 0, none⟩) rv10.length k12), (23, .int .i64 (rv10.length : Int)), (24, .int .i64 sv711.2.2)] a ∧ Wd ⟨w0, S0, []⟩ Sv913 [.box b710 [.int .i64 x699.From, .int .i64 x699.To] 46, .box b898 [.int .i64 x887.From, .int .i64 x887.To] 46, .row (some ⟨b894, 0, none⟩) rv10.length k12 c14 46 2, .row p911 out914.length k912 c910 46 2, .row (some ⟨b706, 0, none⟩) rv21.length k23 c25 46 2] [RowA c14 rv10, RowA c910 out914, RowA c25 rv21] w) ?_ ?_
      ·refine wp_cond_split (hs.ev rfl) (fun h917 => ?_) (fun h917 => ?_)
       ·have hsh := ite_t hsh h917
        refine wp_region_lit ?_
        refine mv hs rfl rfl fun a hs => ?_
        refine mv hs rfl rfl fun a hs => ?_
        refine sv hs (y_fieldAddr (o' := 0) Try.runUnderlying46 rfl Try.sizeOf3 rfl rfl rfl) rfl fun a hs => ?_
        refine sv hs (y_loadB1 (hw.ownAt 0 rfl) rfl Try.isAgg3 rfl) rfl fun a hs => ?_
        refine sv hs (y_build (vs := [(0, .int .i64 sv711.2.1), (1, .int .i64 x887.From)]) Bld46 rfl rfl) rfl fun a hs => ?_
        refine w_litSlice (α := Span) (vs := [.agg #[.int .i64 sv711.2.1, .int .i64 x887.From]]) (cs := [.int .i64 sv711.2.1, .int .i64 x887.From]) (xs := ([(⟨sv711.2.1, x887.From⟩ : Span)] : List Span)) hs hw El27 rfl rfl rfl rfl rfl rfl ⟨⟨_, _, rfl, rfl, rfl⟩, rfl⟩ rfl trivial rfl fun b919 a w hs hw => ?_
        obtain ⟨l921, h920, hsh⟩ := bind_t hsh
        refine w_appendR (α := Span) hs hw El27 4 rfl rfl rfl 2 rfl 0 rfl 0 rfl h920 rfl trivial ?_
        intro p922 k923 c924 a w hs hw
        refine av hs rfl rfl fun a hs => ?_
        refine nl ?_
        exact ⟨l921, c924, p922, k923, Sv797, hsh, (hs.wk rfl), (hw.ft [2, 1, 3, 4, 5] [2, 0, 4] (by decide) rfl rfl)⟩
       have hsh := ite_f hsh h917
       refine wp_skip ?_
       refine then_normal ?_
       exact ⟨sv711.1, c794, p795, k796, Sv797, hsh, (hs.wk rfl), (hw.ft [1, 0, 2, 3, 4] [0, 1, 2] (by decide) rfl rfl)⟩
      rintro a w ⟨out914, c910, p911, k912, Sv913, hsh, hs, hw⟩
      delta span_Minus_j2 at hsh
      refine then_normal ?_
      refine wp_region_lit ?_
      refine mv hs rfl rfl fun a hs => ?_
      refine sv hs (y_fieldAddr (o' := 1) Try.runUnderlying46 rfl Try.sizeOf3 rfl rfl rfl) rfl fun a hs => ?_
      refine sv hs (y_loadB1 (hw.ownAt 1 rfl) rfl Try.isAgg3 rfl) rfl fun a hs => ?_
      refine sv hs (y_max rfl rfl) rfl fun a hs => ?_
      obtain ⟨atv916, h915, hsh⟩ := bind_t hsh
      refine sv hs (y_assignI rfl h915) rfl fun a hs => ?_
      refine wpList_nil ?_
      refine blk_normal ?_
      refine then_normal ?_
      exact ⟨out914, atv916, c910, p911, k912, Sv913, hsh, (hs.wk rfl), (hw.ft [0, 2, 3, 4] [0, 1, 2] (by decide) rfl rfl)⟩
     rintro a w ⟨out883, atv884, c879, p880, k881, Sv882, hsh, hs, hw⟩
     delta span_Minus_j1 at hsh
     refine then_normal ?_
     refine wp_region_lit ?_
     refine sv hs (y_add rfl rfl) rfl fun a hs => ?_
     refine mv hs rfl rfl fun a hs => ?_
     refine nl ?_
     exact ⟨_, (Option.some.inj hsh).symm, c879, p880, k881, Sv882, (hs.wk rfl), (hw.ft [0, 1, 2, 3] [0, 1, 2] (by decide) rfl rfl)⟩
    have hsh := ite_f hsh h846
    refine wp_exit ?_
    refine then_exit ?_
    refine then_exit ?_
    refine blk_exit ?_
    have hsh := oi hsh
    subst hsh
    have h926 := hd837 _ rfl
    subst h926
    refine then_normal ?_
    exact ⟨c794, p795, k796, Sv797, (hs.wk rfl), (hw.ft [0, 1, 2, 3] [0, 1, 2] (by decide) rfl rfl)⟩
   rintro a w ⟨c841, p842, k843, Sv844, hs, hw⟩
   refine then_normal ?_
   refine sr ?_
   refine mv hs rfl rfl fun a hs => ?_
   refine sv hs (y_fieldAddr (o' := 1) Try.runUnderlying46 rfl Try.sizeOf3 rfl rfl rfl) rfl fun a hs => ?_
   refine sv hs (y_loadB1 (hw.ownAt 0 rfl) rfl Try.isAgg3 rfl) rfl fun a hs => ?_
   refine sv hs (y_lss rfl rfl) rfl fun a hs => ?_
   refine nl ?_
   refine wp_join (fun a w => ∃ (out939 : (List Span)) (c935 : List Value) (p936 : Option Addr) (k937 : Nat) (Sv938 : Nat → Prop), span_Minus_j4 sv31 out939 = some tv527 ∧ Sl 68 [(1, .slice p11 rv10.length k12), (5, .slice p936 out939.length k937), (14, .slice (some ⟨b706, 0, none⟩) rv21.length k23), (15, .int .i64 (rv21.length : Int)), (16, .int .i64 sv31.2)] a ∧ Wd ⟨w0, S0, []⟩ Sv938 [.row p11 rv10.length k12 c14 46 2, .row p936 out939.length k937 c935 46 2, .row (some ⟨b706, 0, none⟩) rv21.length k23 c25 46 2] [RowA c14 rv10, RowA c935 out939, RowA c25 rv21] w) ?_ ?_
   ·refine wp_cond_split (hs.ev rfl) (fun h940 => ?_) (fun h940 => ?_)
    ·have hsh := ite_t hsh h940
     refine wp_region_lit ?_
     refine mv hs rfl rfl fun a hs => ?_
     refine mv hs rfl rfl fun a hs => ?_
     refine sv hs (y_fieldAddr (o' := 1) Try.runUnderlying46 rfl Try.sizeOf3 rfl rfl rfl) rfl fun a hs => ?_
     refine sv hs (y_loadB1 (hw.ownAt 0 rfl) rfl Try.isAgg3 rfl) rfl fun a hs => ?_
     refine sv hs (y_build (vs := [(0, .int .i64 e840.2), (1, .int .i64 x699.To)]) Bld46 rfl rfl) rfl fun a hs => ?_
     refine w_litSlice (α := Span) (vs := [.agg #[.int .i64 e840.2, .int .i64 x699.To]]) (cs := [.int .i64 e840.2, .int .i64 x699.To]) (xs := ([(⟨e840.2, x699.To⟩ : Span)] : List Span)) hs hw El27 rfl rfl rfl rfl rfl rfl ⟨⟨_, _, rfl, rfl, rfl⟩, rfl⟩ rfl trivial rfl fun b942 a w hs hw => ?_
     obtain ⟨l944, h943, hsh⟩ := bind_t hsh
     refine w_appendR (α := Span) hs hw El27 3 rfl rfl rfl 2 rfl 0 rfl 0 rfl h943 rfl trivial ?_
     intro p945 k946 c947 a w hs hw
     refine av hs rfl rfl fun a hs => ?_
     refine nl ?_
     exact ⟨l944, c947, p945, k946, Sv844, hsh, (hs.wk rfl), (hw.ft [2, 3, 4] [2, 0, 4] (by decide) rfl rfl)⟩
    have hsh := ite_f hsh h940
    refine wp_skip ?_
    refine then_normal ?_
    exact ⟨e840.1, c841, p842, k843, Sv844, hsh, (hs.wk rfl), (hw.ft [1, 2, 3] [0, 1, 2] (by decide) rfl rfl)⟩
   rintro a w ⟨out939, c935, p936, k937, Sv938, hsh, hs, hw⟩
   delta span_Minus_j4 at hsh
   refine blk_normal ?_
   refine then_normal ?_
   refine wp_region_lit ?_
   refine sv hs (y_add rfl rfl) rfl fun a hs => ?_
   refine mv hs rfl rfl fun a hs => ?_
   refine nl ?_
   exact ⟨_, (Option.some.inj hsh).symm, c935, p936, k937, Sv938, (hs.wk rfl), (hw.ft [0, 1, 2] [0, 1, 2] (by decide) rfl rfl)⟩
  have hsh := ite_f hsh h535
  refine wp_exit ?_
  refine then_exit ?_
  refine then_exit ?_
  refine blk_exit ?_
  have hsh := oi hsh
  subst hsh
  have h949 := hd526 _ rfl
  subst h949
  refine then_normal ?_
  exact ⟨c360, p361, k362, Sv363, (hs.wk rfl), (hw.ft [1] [1] (by decide) rfl rfl)⟩
 rintro a w ⟨c530, p531, k532, Sv533, hs, hw⟩
 refine then_normal ?_
 refine sr ?_
 refine mv hs rfl rfl fun a hs => ?_
 refine av hs rfl rfl fun a hs => ?_
 refine nl ?_
 have hsh := oi hsh
 subst hsh
 refine wp_ret ?_
 exact ret1 hs rfl (rv_tmp rfl) (hw.ret ⟨p531, k532, c530, rfl, (hw.outs [0] (by decide) rfl), (hw.envAt 0 rfl)⟩)

abbrev receiver_limited_rd (w0 : World) (X : List Nat) (r : (Receiver × Int)) : (Nat → Prop) → World → Value → Prop := fun S w v => ∃ (p0_0 : Option Addr) (k0_0 : Nat) (p0_1 : Option Addr) (k0_1 : Nat), v = .tuple #[.agg #[.slice p0_0 r.1.Got.length k0_0, .slice p0_1 r.1.Lost.length k0_1], .int .i64 r.2] ∧ (SlA p0_0 r.1.Got.length k0_0 r.1.Got).p S w ∧ (SlA p0_1 r.1.Lost.length k0_1 r.1.Lost).p S w
set_option maxHeartbeats 4000000 in
set_option maxRecDepth 100000 in
theorem receiver_limited_ok {w0 : World} {S0 : Nat → Prop} {p2 : Option Addr} {k3 : Nat} {p6 : Option Addr} {k7 : Nat} {got1 : (List Span)} {lost5 : (List Span)} {r : (Receiver × Int)} (hsh : receiver_limited got1 lost5 = some r) (hS : ∀ b, S0 b → b < w0.heap.size) (h4 : (SlA p2 got1.length k3 got1).p S0 w0) (h8 : (SlA p6 lost5.length k7 lost5).p S0 w0) : Calls Try.prog 36 #[.slice p2 got1.length k3, .slice p6 lost5.length k7] w0 (Ret ([]) w0 S0 (receiver_limited_rd w0 ([]) r)) := by
 refine calls_of_wp Try.func36 rfl ?_
 have hs := Sl.enter #[.slice p2 got1.length k3, .slice p6 lost5.length k7] 18 [(0, .slice p2 got1.length k3), (1, .slice p6 lost5.length k7)] rfl ⟨rfl, rfl, trivial⟩
 have hw := Wd.enter (E := []) hS (fun _ h => (by cases h))
 have hw := hw.addE h4
 have hw := hw.addE h8
 delta receiver_limited at hsh
 refine sr ?_
 refine w_alloc (cs := [.slice none ([] : List Span).length 0, .slice none ([] : List Span).length 0]) hs hw Try.zeroValue29 rfl rfl trivial ?_
 intro b9 a w hs hw
 refine av hs rfl rfl fun a hs => ?_
 refine nl ?_
 refine wp_seq ?_
 refine sr ?_
 refine mv hs rfl rfl fun a hs => ?_
 refine sv hs (y_len Try.runUnderlying27 rfl) rfl fun a hs => ?_
 refine sv hs (y_gtr rfl rfl) rfl fun a hs => ?_
 refine mv hs rfl rfl fun a hs => ?_
 refine wpl_join 4 (fun a w1 => w = w1 ∧ Sl 18 [(0, .slice p2 got1.length k3), (1, .slice p6 lost5.length k7), (4, .pointer (some ⟨b9, 0, none⟩)), (13, .bool ((decide (4096 < (got1.length : Int))) || (decide (4096 < (lost5.length : Int)))))] a) ?_ ?_
 ·rcases Bool.eq_false_or_eq_true (decide (4096 < (got1.length : Int))) with h10 | h10
  ·have hs := hs.fix 9 (.bool true) rfl (vb h10)
   refine st_skip hs rfl rfl rfl rfl rfl fun a hs => ?_
   refine st_skip hs rfl rfl rfl rfl rfl fun a hs => ?_
   refine st_skip hs rfl rfl rfl rfl rfl fun a hs => ?_
   refine sv hs (y_pickT rfl rfl) rfl fun a hs => ?_
   refine nl ?_
   exact ⟨rfl, (hs.fix 13 (.bool ((decide (4096 < (got1.length : Int))) || (decide (4096 < (lost5.length : Int))))) rfl (or_t h10)).weaken _ ⟨rfl, rfl, rfl, rfl, trivial⟩⟩
  have hs := hs.fix 9 (.bool false) rfl (vb h10)
  refine st_val hs (y_move rfl) ⟨_, rfl, rfl⟩ rfl rfl fun a hs => ?_
  refine st_val hs (y_len Try.runUnderlying27 rfl) ⟨_, rfl, rfl⟩ rfl rfl fun a hs => ?_
  refine st_val hs (y_gtr rfl rfl) ⟨_, rfl, rfl⟩ rfl rfl fun a hs => ?_
  refine sv hs (y_pickF rfl rfl) rfl fun a hs => ?_
  refine nl ?_
  exact ⟨rfl, (hs.fix 13 (.bool ((decide (4096 < (got1.length : Int))) || (decide (4096 < (lost5.length : Int))))) rfl (or_f h10)).weaken _ ⟨rfl, rfl, rfl, rfl, trivial⟩⟩
 rintro a w1 ⟨h13, hs⟩
 subst h13
 refine nl ?_
 refine wp_cond_split (hs.ev rfl) (fun h12 => ?_) (fun h12 => ?_)
 ·have hsh := ite_t hsh h12
  refine sr ?_
  refine sv hs (y_build (vs := []) Bld29 rfl rfl) rfl fun a hs => ?_
  refine w_store (m := 2) (cs' := [.slice none ([] : List Span).length 0, .slice none ([] : List Span).length 0]) hs hw 0 rfl rfl rfl Try.sizeOf29 rfl rfl rfl rfl trivial ?_
  intro a w hs hw
  refine av hs rfl rfl fun a hs => ?_
  refine nl ?_
  have hsh := oi hsh
  subst hsh
  have hw := hw.addE (e := SlA (α := Span) none 0 0 []) nil_sl
  refine wp_ret ?_
  refine then_ret ?_
  exact ret2 hs rfl (rv_cell hw 0 rfl rfl Try.isAgg29 Try.sizeOf29 rfl) (rv_tmp rfl) (hw.ret ⟨none, 0, none, 0, rfl, (hw.envAt 0 rfl), (hw.envAt 0 rfl)⟩)
 have hsh := ite_f hsh h12
 refine wp_skip ?_
 refine then_normal ?_
 refine sr ?_
 refine mv hs rfl rfl fun a hs => ?_
 refine mv hs rfl rfl fun a hs => ?_
 refine sv hs (y_build (vs := [(0, .slice p2 got1.length k3), (1, .slice p6 lost5.length k7)]) Bld29 rfl rfl) rfl fun a hs => ?_
 refine w_store (m := 2) (cs' := [.slice p2 got1.length k3, .slice p6 lost5.length k7]) hs hw 0 rfl rfl rfl Try.sizeOf29 rfl rfl rfl rfl trivial ?_
 intro a w hs hw
 refine av hs rfl rfl fun a hs => ?_
 refine nl ?_
 have hsh := oi hsh
 subst hsh
 refine wp_ret ?_
 exact ret2 hs rfl (rv_cell hw 0 rfl rfl Try.isAgg29 Try.sizeOf29 rfl) (rv_tmp rfl) (hw.ret ⟨p2, k3, p6, k7, rfl, (hw.envAt 1 rfl), (hw.envAt 0 rfl)⟩)

end Go.Proofs.Ytiihddcppmjbaaa.Wk

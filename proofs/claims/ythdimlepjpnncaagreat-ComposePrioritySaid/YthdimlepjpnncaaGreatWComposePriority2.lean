/- The walks of ComposePriority, part 2: each Go function computes what its plain program computes. Printed by a program of ours. -/
import Derived.Test.YthdimlepjpnncaaGreatProg
import Derived.Test.YthdimlepjpnncaaGreatDat
import Derived.Test.YthdimlepjpnncaaGreatSh
import Derived.Test.YthdimlepjpnncaaGreatLibL
import Derived.Test.YthdimlepjpnncaaGreatLibZ
import Derived.Test.YthdimlepjpnncaaGreatLibQ
import Derived.KernelRfl
import Derived.Test.YthdimlepjpnncaaGreatLibU
import Derived.Shelf.SlLaysF0
import Derived.Test.YthdimlepjpnncaaGreatWComposePriority1
namespace Go.Proofs.YthdimlepjpnncaaGreat.Wk
open Go Go.RowKit Go.Proofs Go.Proofs.YthdimlepjpnncaaGreat.Sh
set_option linter.unusedVariables false
set_option linter.unusedSimpArgs false

abbrev slices_DeleteFunc_Lapi_Span_api_Span_rd (w0 : World) (X : List Nat) (r : (List Span)) : (Nat → Prop) → World → Value → Prop := fun S w v => ∃ (p0_0 : Option Addr) (k0_0 : Nat) (c0_0 : List Value), v = .slice p0_0 r.length k0_0 ∧ Outs X w0 S w [.row p0_0 r.length k0_0 c0_0 45 2] ∧ (RowA c0_0 r).p S w
set_option maxHeartbeats 4000000 in
set_option maxRecDepth 100000 in
theorem slices_DeleteFunc_Lapi_Span_api_Span_ok {w0 : World} {S0 : Nat → Prop} {p2 : Option Addr} {k3 : Nat} {c4 : List Value} {g7 : Nat} {f8 : List Value} {cp9 : List Value} {s1 : (List Span)} {del6 : Span → Option Bool} {r : (List Span)} (hsh : slices_DeleteFunc_Lapi_Span_api_Span s1 del6 = some r) (hS : ∀ b, S0 b → b < w0.heap.size) (hin : Ins S0 w0 [.row p2 s1.length k3 c4 45 2]) (h5 : (RowA c4 s1).p S0 w0) (h10 : (FnA1 Tryz.prog g7 f8 cp9 del6).p S0 w0) : Calls Tryz.prog 82 #[.slice p2 s1.length k3, .func (.func g7) f8.toArray cp9.toArray] w0 (Ret (blks [.row p2 s1.length k3 c4 45 2]) w0 S0 (slices_DeleteFunc_Lapi_Span_api_Span_rd w0 (blks [.row p2 s1.length k3 c4 45 2]) r)) := by
 refine calls_of_wp Tryz.func82 rfl ?_
 have hs := Sl.enter #[.slice p2 s1.length k3, .func (.func g7) f8.toArray cp9.toArray] 42 [(0, .slice p2 s1.length k3), (1, .func (.func g7) f8.toArray cp9.toArray)] rfl ⟨rfl, rfl, trivial⟩
 have hw := Wd.enterI hS hin
 have hw := hw.addE h5
 have hw := hw.addE (e := LenA s1.length s1) len_rfl
 have hw := hw.addE h10
 delta slices_DeleteFunc_Lapi_Span_api_Span at hsh
 refine sr ?_
 refine av hs rfl rfl fun a hs => ?_
 refine nl ?_
 refine sr ?_
 refine mv hs rfl rfl fun a hs => ?_
 refine mv hs rfl rfl fun a hs => ?_
 obtain ⟨rv12, h11, hsh⟩ := bind_t hsh
 refine st_callR hs (slices_IndexFunc_Lapi_Span_api_Span_ok h11 hw.bdom (hw.bRow 0 rfl 2 rfl) (hw.bE 0 rfl)) (do_call Tryz.call111 rfl) trivial rfl rfl ?_
 intro v16 Sv13 w a h14 h15 hs
 subst h15
 have hw := hw.callB h14
 refine av hs rfl rfl fun a hs => ?_
 refine nl ?_
 refine wp_seq ?_
 refine sr ?_
 refine mv hs rfl rfl fun a hs => ?_
 refine sv hs (y_eql rfl rfl) rfl fun a hs => ?_
 refine nl ?_
 refine wp_cond_split (hs.ev rfl) (fun h19 => ?_) (fun h19 => ?_)
 ·have hsh := ite_t hsh h19
  refine sr ?_
  refine mv hs rfl rfl fun a hs => ?_
  refine av hs rfl rfl fun a hs => ?_
  refine nl ?_
  have hsh := oi hsh
  subst hsh
  refine wp_ret ?_
  refine then_ret ?_
  exact ret1 hs rfl (rv_tmp rfl) (hw.ret ⟨p2, k3, c4, rfl, (hw.outs [0] (by decide) rfl), (hw.envAt 2 rfl)⟩)
 have hsh := ite_f hsh h19
 refine wp_skip ?_
 refine then_normal ?_
 refine wp_seq ?_
 refine sr ?_
 refine mv hs rfl rfl fun a hs => ?_
 refine sv hs (y_add rfl rfl) rfl fun a hs => ?_
 obtain ⟨j21, h20, hsh⟩ := bind_t hsh
 refine sv hs (y_assignI rfl h20) rfl fun a hs => ?_
 refine nl ?_
 obtain ⟨e162, h284, hsh⟩ := bind_t hsh
 refine wp_join (fun a w => ∃ (c163 : List Value) (Sv164 : Nat → Prop), Sl 42 [(0, .slice p2 e162.1.length k3), (5, .int .i64 e162.2)] a ∧ Wd ⟨w0, S0, blks [.row p2 s1.length k3 c4 45 2]⟩ Sv164 [.row p2 e162.1.length k3 c163 45 2] [RowA c163 e162.1, LenA s1.length e162.1] w) ?_ ?_
 ·refine wp_block ?_
  refine wp_while (fun sv22 a w => ∃ (c113 : List Value) (Sv114 : Nat → Prop), Sl 42 [(0, .slice p2 sv22.1.length k3), (1, .func (.func g7) f8.toArray cp9.toArray), (5, .int .i64 sv22.2.1), (6, .int .i64 sv22.2.2)] a ∧ Wd ⟨w0, S0, blks [.row p2 s1.length k3 c4 45 2]⟩ Sv114 [.row p2 sv22.1.length k3 c113 45 2] [FnA1 Tryz.prog g7 f8 cp9 del6, RowA c113 sv22.1, LenA s1.length sv22.1] w) (s1, rv12, j21) h284 ⟨c4, S0, (hs.wk rfl), (hw.ft [0] [0, 2, 1] (by decide) rfl rfl)⟩ ?_
  clear h284
  repeat clear hsh
  rintro sv22 a w tv160 ⟨c113, Sv114, hs, hw⟩ hsh hd159
  delta slices_DeleteFunc_Lapi_Span_api_Span_l1 at hsh
  refine wp_seq ?_
  refine sr ?_
  refine mv hs rfl rfl fun a hs => ?_
  refine mv hs rfl rfl fun a hs => ?_
  refine sv hs (y_len Tryz.runUnderlying52 rfl) rfl fun a hs => ?_
  refine sv hs (y_lss rfl rfl) rfl fun a hs => ?_
  refine nl ?_
  refine wp_cond_split (hs.ev rfl) (fun h166 => ?_) (fun h166 => ?_)
  ·have hsh := ite_t hsh h166
   refine wp_skip ?_
   refine then_normal ?_
   refine wp_seq ?_
   refine wp_block ?_
   refine sr ?_
   refine mv hs rfl rfl fun a hs => ?_
   refine mv hs rfl rfl fun a hs => ?_
   obtain ⟨x210, h208, hsh⟩ := bind_t hsh
   obtain ⟨b217, q214, c215, h218, h211, h212, h216, h209⟩ := hw.elemRV (α := Span) 0 rfl 1 rfl h208
   have hsv219 := hs
   have hwv220 := hw
   subst h218
   have hs := hsv219
   have hw := hwv220
   obtain ⟨_, _, rfl, rfl, rfl⟩ := h209
   refine sv hs (y_indexAt Tryz.runUnderlying52 Tryz.sizeOf45 rfl rfl h211.1 h211.2 h212) rfl fun a hs => ?_
   refine sv hs (y_loadQA (j := 0) (hw.ownAt 0 rfl) rfl Tryz.isAgg45 Tryz.sizeOf45 h216 rfl rfl) rfl fun a hs => ?_
   refine w_alloc (cs := [.int .i64 0, .int .i64 0]) hs hw Tryz.zeroValue45 rfl rfl trivial ?_
   intro b221 a w hs hw
   refine w_store (m := 2) (cs' := [.int .i64 x210.From, .int .i64 x210.To]) hs hw 0 rfl rfl rfl Tryz.sizeOf45 rfl rfl rfl rfl trivial ?_
   intro a w hs hw
   refine nl ?_
   refine sr ?_
   refine mv hs rfl rfl fun a hs => ?_
   refine sv hs (y_loadBA (hw.ownAt 0 rfl) rfl Tryz.isAgg45 Tryz.sizeOf45 rfl rfl) rfl fun a hs => ?_
   obtain ⟨rv223, h222, hsh⟩ := bind_t hsh
   refine st_callR hs ((hw.bE 0 rfl).2 Keep.rfl' hw.bdom ⟨_, _, rfl, rfl, rfl⟩ h222) (do_callF (hw.bE 0 rfl).1 rfl rfl) trivial rfl rfl ?_
   intro v227 Sv224 w a h225 h226 hs
   subst h226
   have hw := hw.callB h225
   refine sv hs (y_not rfl) rfl fun a hs => ?_
   refine nl ?_
   refine wp_join (fun a w => ∃ (sv247 : (List Span)) (i248 : Int) (c245 : List Value) (Sv246 : Nat → Prop), slices_DeleteFunc_Lapi_Span_api_Span_j1 sv22 sv247 i248 = some tv160 ∧ Sl 42 [(0, .slice (some ⟨b217, 0, none⟩) sv247.length k3), (1, .func (.func g7) f8.toArray cp9.toArray), (5, .int .i64 i248), (6, .int .i64 sv22.2.2)] a ∧ Wd ⟨w0, S0, blks [.row (some ⟨b217, 0, none⟩) s1.length k3 c4 45 2]⟩ Sv246 [.row (some ⟨b217, 0, none⟩) sv247.length k3 c245 45 2] [FnA1 Tryz.prog g7 f8 cp9 del6, RowA c245 sv247, LenA s1.length sv247] w) ?_ ?_
   ·refine wp_cond_split (hs.ev rfl) (fun h251 => ?_) (fun h251 => ?_)
    ·have hsh := ite_t hsh h251
     refine sr ?_
     refine mv hs rfl rfl fun a hs => ?_
     refine mv hs rfl rfl fun a hs => ?_
     refine sv hs (y_loadBA (hw.ownAt 0 rfl) rfl Tryz.isAgg45 Tryz.sizeOf45 rfl rfl) rfl fun a hs => ?_
     obtain ⟨x254, h252, hsh⟩ := bind_t hsh
     obtain ⟨q258, c259, h255, h256, h260, h253⟩ := hw.elemRK (α := Span) 1 rfl 1 rfl h252
     obtain ⟨_, _, rfl, rfl, rfl⟩ := h253
     refine sv hs (y_indexAt Tryz.runUnderlying52 Tryz.sizeOf45 rfl rfl h255.1 h255.2 h256) rfl fun a hs => ?_
     obtain ⟨l262, h261, hsh⟩ := bind_t hsh
     have h265 := hw.envAt 2 rfl
     refine w_storeF (α := Span) hs hw 1 rfl 1 rfl h256 rfl rfl Tryz.sizeOf45 rfl h261 ⟨_, _, rfl, rfl, rfl⟩ trivial ?_
     intro c263 a w hs hw
     have hw := hw.addE (e := LenA s1.length l262) (len_set (w := w) (S := S0) h265 h261)
     have h264 := setM_len h261
     try have hs := hs.fl 0 rfl h264
     try have hs := hs.fl 30 rfl h264
     refine nl ?_
     refine wp_region_lit ?_
     refine mv hs rfl rfl fun a hs => ?_
     refine sv hs (y_add rfl rfl) rfl fun a hs => ?_
     obtain ⟨i267, h266, hsh⟩ := bind_t hsh
     refine sv hs (y_assignI rfl h266) rfl fun a hs => ?_
     refine nl ?_
     exact ⟨l262, i267, c263, Sv114, hsh, (hs.wk rfl), (hw.ft [1] [2, 1, 0] (by decide) rfl rfl)⟩
    have hsh := ite_f hsh h251
    refine wp_skip ?_
    refine then_normal ?_
    exact ⟨sv22.1, sv22.2.1, c113, Sv114, hsh, (hs.wk rfl), (hw.ft [1] [0, 1, 2] (by decide) rfl rfl)⟩
   rintro a w ⟨sv247, i248, c245, Sv246, hsh, hs, hw⟩
   delta slices_DeleteFunc_Lapi_Span_api_Span_j1 at hsh
   refine blk_normal ?_
   refine then_normal ?_
   refine wp_region_lit ?_
   refine mv hs rfl rfl fun a hs => ?_
   refine sv hs (y_add rfl rfl) rfl fun a hs => ?_
   obtain ⟨j250, h249, hsh⟩ := bind_t hsh
   refine sv hs (y_assignI rfl h249) rfl fun a hs => ?_
   refine nl ?_
   exact ⟨_, (Option.some.inj hsh).symm, c245, Sv246, (hs.wk rfl), (hw.ft [0] [0, 1, 2] (by decide) rfl rfl)⟩
  have hsh := ite_f hsh h166
  refine wp_exit ?_
  refine then_exit ?_
  refine then_exit ?_
  refine blk_exit ?_
  have hsh := oi hsh
  subst hsh
  have h268 := hd159 _ rfl
  subst h268
  refine then_normal ?_
  exact ⟨c113, Sv114, (hs.wk rfl), (hw.ft [0] [1, 2] (by decide) rfl rfl)⟩
 rintro a w ⟨c163, Sv164, hs, hw⟩
 refine then_normal ?_
 refine sr ?_
 refine mv hs rfl rfl fun a hs => ?_
 refine mv hs rfl rfl fun a hs => ?_
 obtain ⟨l273, h269, hsh⟩ := bind_t hsh
 obtain ⟨p271, k272, h270⟩ := row_sub (α := Span) hw 0 rfl h269
 refine sv hs (y_slc Tryz.runUnderlying52 Tryz.sizeOf45 rfl ⟨_, rfl⟩ (by exact rfl) h270) rfl fun a hs => ?_
 obtain ⟨l274, h275, hsh⟩ := bind_t hsh
 have h280 := hw.envAt 1 rfl
 refine w_clear (α := Span) (z0 := ((⟨0, 0⟩ : Span) : Span)) hs hw 0 rfl 0 rfl El52 ⟨_, _, rfl, rfl, rfl⟩ h269 h270 rfl trivial ?_
 intro c276 a w hs hw
 rw [Option.some.inj h275] at hw
 have hw := hw.addE (e := LenA s1.length l274) (by have q := len_copy (w := w) (S := S0) (S' := S0) (w' := w) (ys := List.replicate l273.length ((⟨0, 0⟩ : Span) : Span)) h280 h269; rw [Option.some.inj h275] at q; exact q)
 have h277 := (copy_lenS h269 h275)
 try have hs := hs.fl 0 rfl h277
 try have hs := hs.fl 36 rfl h277
 refine nl ?_
 refine sr ?_
 refine mv hs rfl rfl fun a hs => ?_
 refine mv hs rfl rfl fun a hs => ?_
 obtain ⟨l283, h281, hsh⟩ := bind_t hsh
 obtain ⟨hw, h282⟩ := w_cut hw 0 rfl 1 rfl h281
 refine sv hs (y_slc Tryz.runUnderlying52 Tryz.sizeOf45 rfl (by exact rfl) ⟨_, rfl⟩ h282) rfl fun a hs => ?_
 refine av hs rfl rfl fun a hs => ?_
 refine nl ?_
 have hsh := oi hsh
 subst hsh
 refine wp_ret ?_
 exact ret1 hs rfl (rv_tmp rfl) (hw.ret ⟨p2, k3, (c276.take (l283.length * 2)), rfl, (hw.outs [0] (by decide) rfl), (hw.envAt 0 rfl)⟩)

abbrev span_some_rd (w0 : World) (X : List Nat) (r : Bool) : (Nat → Prop) → World → Value → Prop := fun S w v => v = .bool r
set_option maxHeartbeats 4000000 in
set_option maxRecDepth 100000 in
theorem span_some_ok {w0 : World} {S0 : Nat → Prop} {s1 : Span} {r : Bool} (hsh : span_some s1 = some r) (hS : ∀ b, S0 b → b < w0.heap.size) : Calls Tryz.prog 85 #[.agg #[.int .i64 s1.From, .int .i64 s1.To]] w0 (Ret ([]) w0 S0 (span_some_rd w0 ([]) r)) := by
 refine calls_of_wp Tryz.func85 rfl ?_
 have hs := Sl.enter #[.agg #[.int .i64 s1.From, .int .i64 s1.To]] 8 [(0, .agg #[.int .i64 s1.From, .int .i64 s1.To])] rfl ⟨rfl, trivial⟩
 have hw := Wd.enter (E := []) hS (fun _ h => (by cases h))
 delta span_some at hsh
 refine sr ?_
 refine w_box (cs := [.int .i64 s1.From, .int .i64 s1.To]) hs hw rfl rfl rfl trivial ?_
 intro b2 a w hs hw
 refine av hs rfl rfl fun a hs => ?_
 refine nl ?_
 refine sr ?_
 refine sv hs (y_fieldAddr (o' := 0) Tryz.runUnderlying45 rfl Tryz.sizeOf3 rfl rfl rfl) rfl fun a hs => ?_
 refine sv hs (y_loadB1 (hw.ownAt 0 rfl) rfl Tryz.isAgg3 rfl) rfl fun a hs => ?_
 refine sv hs (y_fieldAddr (o' := 1) Tryz.runUnderlying45 rfl Tryz.sizeOf3 rfl rfl rfl) rfl fun a hs => ?_
 refine sv hs (y_loadB1 (hw.ownAt 0 rfl) rfl Tryz.isAgg3 rfl) rfl fun a hs => ?_
 refine sv hs (y_lss rfl rfl) rfl fun a hs => ?_
 refine av hs rfl rfl fun a hs => ?_
 refine nl ?_
 have hsh := oi hsh
 subst hsh
 refine wp_ret ?_
 exact ret1 hs rfl (rv_tmp rfl) (hw.ret rfl)

abbrev span_Normal_fn1_rd (w0 : World) (X : List Nat) (r : Bool) : (Nat → Prop) → World → Value → Prop := fun S w v => v = .bool r
set_option maxHeartbeats 4000000 in
set_option maxRecDepth 100000 in
theorem span_Normal_fn1_ok {w0 : World} {S0 : Nat → Prop} {s1 : Span} {r : Bool} (hsh : span_Normal_fn1 s1 = some r) (hS : ∀ b, S0 b → b < w0.heap.size) : Calls Tryz.prog 84 #[.agg #[.int .i64 s1.From, .int .i64 s1.To]] w0 (Ret ([]) w0 S0 (span_Normal_fn1_rd w0 ([]) r)) := by
 refine calls_of_wp Tryz.func84 rfl ?_
 have hs := Sl.enter #[.agg #[.int .i64 s1.From, .int .i64 s1.To]] 6 [(0, .agg #[.int .i64 s1.From, .int .i64 s1.To])] rfl ⟨rfl, trivial⟩
 have hw := Wd.enter (E := []) hS (fun _ h => (by cases h))
 delta span_Normal_fn1 at hsh
 refine sr ?_
 refine w_box (cs := [.int .i64 s1.From, .int .i64 s1.To]) hs hw rfl rfl rfl trivial ?_
 intro b2 a w hs hw
 refine av hs rfl rfl fun a hs => ?_
 refine nl ?_
 refine sr ?_
 refine sv hs (y_loadBA (hw.ownAt 0 rfl) rfl Tryz.isAgg45 Tryz.sizeOf45 rfl rfl) rfl fun a hs => ?_
 obtain ⟨rv4, h3, hsh⟩ := bind_t hsh
 refine st_callR hs (span_some_ok h3 hw.bdom) (do_call Tryz.call85 rfl) trivial rfl rfl ?_
 intro v8 Sv5 w a h6 h7 hs
 subst h7
 have hw := hw.callB h6
 refine sv hs (y_not rfl) rfl fun a hs => ?_
 refine av hs rfl rfl fun a hs => ?_
 refine nl ?_
 have hsh := oi hsh
 subst hsh
 refine wp_ret ?_
 exact ret1 hs rfl (rv_tmp rfl) (hw.ret rfl)

theorem span_Normal_fn1_fn (S0 : Nat → Prop) (w0 : World) : (FnA1 Tryz.prog 84 [] [] span_Normal_fn1).p S0 w0 := by
  refine ⟨Tryz.call84, ?_⟩
  intro S1 w1 hk hS c0 x0 r1 h0 hf
  obtain ⟨_, _, rfl, rfl, rfl⟩ := h0
  exact span_Normal_fn1_ok hf hS  

end Go.Proofs.YthdimlepjpnncaaGreat.Wk
namespace Go.Proofs
open Go Go.Shelf Go.RowKit Go.Lib Go.Sort
def Tryz.sort86_ren : Go.Shelf.Ren := ⟨fun | 6 => 86 | 15 => 102 | 14 => 112 | 28 => 129 | 29 => 130 | 20 => 135 | 21 => 136 | 22 => 137 | 23 => 138 | 24 => 139 | 25 => 140 | 26 => 141 | 27 => 142 | 46 => 151 | 47 => 146 | 48 => 147 | 49 => 152 | 50 => 153 | 57 => 156 | n => n, fun | 22 => 52 | 24 => 45 | 25 => 112 | 3 => 3 | 39 => 121 | 0 => 0 | 53 => 140 | 55 => 142 | 4 => 4 | 46 => 134 | 45 => 133 | 50 => 50 | 5 => 5 | 9 => 9 | 66 => 150 | 70 => 154 | 76 => 160 | 77 => 161 | n => n, fun | n => n⟩
theorem Tryz.sort86 : Go.Proofs.SlLaysF0.n6 Tryz.prog Tryz.sort86_ren where
  mixed := by kernel_rfl
  f6 := ⟨Tryz.f86.name, by decide, Tryz.func86.trans (congrArg some (by kernel_rfl))⟩
  f14 := ⟨Tryz.f112.name, by decide, Tryz.func112.trans (congrArg some (by kernel_rfl))⟩
  f15 := Tryz.func102.trans (congrArg some (by kernel_rfl))
  f20 := ⟨Tryz.f135.name, by decide, Tryz.func135.trans (congrArg some (by kernel_rfl))⟩
  f21 := ⟨Tryz.f136.name, by decide, Tryz.func136.trans (congrArg some (by kernel_rfl))⟩
  f22 := ⟨Tryz.f137.name, by decide, Tryz.func137.trans (congrArg some (by kernel_rfl))⟩
  f23 := ⟨Tryz.f138.name, by decide, Tryz.func138.trans (congrArg some (by kernel_rfl))⟩
  f24 := ⟨Tryz.f139.name, by decide, Tryz.func139.trans (congrArg some (by kernel_rfl))⟩
  f25 := ⟨Tryz.f140.name, by decide, Tryz.func140.trans (congrArg some (by kernel_rfl))⟩
  f26 := ⟨Tryz.f141.name, by decide, Tryz.func141.trans (congrArg some (by kernel_rfl))⟩
  f27 := ⟨Tryz.f142.name, by decide, Tryz.func142.trans (congrArg some (by kernel_rfl))⟩
  f28 := Tryz.func129.trans (congrArg some (by kernel_rfl))
  f29 := Tryz.func130.trans (congrArg some (by kernel_rfl))
  f46 := ⟨Tryz.f151.name, by decide, Tryz.func151.trans (congrArg some (by kernel_rfl))⟩
  f47 := Tryz.func146.trans (congrArg some (by kernel_rfl))
  f48 := Tryz.func147.trans (congrArg some (by kernel_rfl))
  f49 := ⟨Tryz.f152.name, by decide, Tryz.func152.trans (congrArg some (by kernel_rfl))⟩
  f50 := ⟨Tryz.f153.name, by decide, Tryz.func153.trans (congrArg some (by kernel_rfl))⟩
  f57 := ⟨Tryz.f156.name, by decide, Tryz.func156.trans (congrArg some (by kernel_rfl))⟩
  t0 := Tryz.underlying0
  a0 := Tryz.isAgg0
  z0 := Tryz.sizeOf0
  v0 := Tryz.zeroValue0
  t3 := Tryz.underlying3
  a3 := Tryz.isAgg3
  z3 := Tryz.sizeOf3
  v3 := Tryz.zeroValue3
  t4 := Tryz.underlying4
  a4 := Tryz.isAgg4
  z4 := Tryz.sizeOf4
  v4 := Tryz.zeroValue4
  t5 := Tryz.underlying5
  a5 := Tryz.isAgg5
  z5 := Tryz.sizeOf5
  v5 := Tryz.zeroValue5
  t9 := Tryz.underlying9
  a9 := Tryz.isAgg9
  z9 := Tryz.sizeOf9
  v9 := Tryz.zeroValue9
  t22 := Tryz.underlying52
  a22 := Tryz.isAgg52
  z22 := Tryz.sizeOf52
  v22 := Tryz.zeroValue52
  t25 := Tryz.underlying112
  a25 := Tryz.isAgg112
  z25 := Tryz.sizeOf112
  v25 := Tryz.zeroValue112
  t39 := Tryz.underlying121
  a39 := Tryz.isAgg121
  z39 := Tryz.sizeOf121
  v39 := Tryz.zeroValue121
  t45 := Tryz.underlying133
  a45 := Tryz.isAgg133
  z45 := Tryz.sizeOf133
  v45 := Tryz.zeroValue133
  t46 := Tryz.underlying134
  a46 := Tryz.isAgg134
  z46 := Tryz.sizeOf134
  v46 := Tryz.zeroValue134
  t50 := Tryz.underlying50
  a50 := Tryz.isAgg50
  z50 := Tryz.sizeOf50
  v50 := Tryz.zeroValue50
  t53 := Tryz.underlying140
  a53 := Tryz.isAgg140
  z53 := Tryz.sizeOf140
  v53 := Tryz.zeroValue140
  t55 := Tryz.underlying142
  a55 := Tryz.isAgg142
  z55 := Tryz.sizeOf142
  v55 := Tryz.zeroValue142
  t66 := Tryz.underlying150
  a66 := Tryz.isAgg150
  z66 := Tryz.sizeOf150
  v66 := Tryz.zeroValue150
  t70 := Tryz.underlying154
  a70 := Tryz.isAgg154
  z70 := Tryz.sizeOf154
  v70 := Tryz.zeroValue154
  t76 := Tryz.underlying160
  a76 := Tryz.isAgg160
  z76 := Tryz.sizeOf160
  v76 := Tryz.zeroValue160
  t77 := Tryz.underlying161
  a77 := Tryz.isAgg161
  z77 := Tryz.sizeOf161
  v77 := Tryz.zeroValue161
end Go.Proofs
namespace Go.Proofs.YthdimlepjpnncaaGreat.Wk
open Go Go.RowKit Go.Proofs Go.Proofs.YthdimlepjpnncaaGreat.Sh
set_option linter.unusedVariables false
set_option linter.unusedSimpArgs false
abbrev slices_SortFunc_Lapi_Span_api_Span_rd (w0 : World) (X : List Nat) (p2 : Option Addr) (k3 : Nat) (x1 : (List Span)) (r : (List Span)) : (Nat → Prop) → World → Value → Prop := fun S w v => ∃ (ck_0 : List Value), v = .tuple #[] ∧ Outs X w0 S w [.row p2 r.length k3 ck_0 45 2] ∧ (RowA ck_0 r).p S w ∧ (LenA x1.length r).p S w
set_option maxHeartbeats 4000000 in
set_option maxRecDepth 100000 in
theorem slices_SortFunc_Lapi_Span_api_Span_ok {w0 : World} {S0 : Nat → Prop} {p2 : Option Addr} {k3 : Nat} {c4 : List Value} {g7 : Nat} {cp9 : List Value} {x1 : (List Span)} {cmp6 : Span → Span → Option Int} {r : (List Span)} (hsh : slices_SortFunc_Lapi_Span_api_Span x1 cmp6 = some r) (hS : ∀ b, S0 b → b < w0.heap.size) (hin : Ins S0 w0 [.row p2 x1.length k3 c4 45 2]) (h5 : (RowA c4 x1).p S0 w0) (h10 : (FnA2 Tryz.prog g7 [] cp9 cmp6).p S0 w0) : Calls Tryz.prog 86 #[.slice p2 x1.length k3, .func (.func g7) #[] cp9.toArray] w0 (Ret (blks [.row p2 x1.length k3 c4 45 2]) w0 S0 (slices_SortFunc_Lapi_Span_api_Span_rd w0 (blks [.row p2 x1.length k3 c4 45 2]) p2 k3 x1 r)) := by
 exact sort_leaf (α := Span) (T := 45) Tryz.sort86 Tryz.isAgg45 Tryz.sizeOf45 (fun _ => rfl) (by decide) (fun d => [.int .i64 d.From, .int .i64 d.To]) (by rintro S w cs d ⟨_, _, rfl, rfl, rfl⟩; rfl) hsh hS hin h5 h10

abbrev span_Normal_fn2_rd (w0 : World) (X : List Nat) (r : Int) : (Nat → Prop) → World → Value → Prop := fun S w v => v = .int .i64 r
set_option maxHeartbeats 4000000 in
set_option maxRecDepth 100000 in
theorem span_Normal_fn2_ok {w0 : World} {S0 : Nat → Prop} {a1 : Span} {b2 : Span} {r : Int} (hsh : span_Normal_fn2 a1 b2 = some r) (hS : ∀ b, S0 b → b < w0.heap.size) : Calls Tryz.prog 87 #[.agg #[.int .i64 a1.From, .int .i64 a1.To], .agg #[.int .i64 b2.From, .int .i64 b2.To]] w0 (Ret ([]) w0 S0 (span_Normal_fn2_rd w0 ([]) r)) := by
 refine calls_of_wp Tryz.func87 rfl ?_
 have hs := Sl.enter #[.agg #[.int .i64 a1.From, .int .i64 a1.To], .agg #[.int .i64 b2.From, .int .i64 b2.To]] 10 [(0, .agg #[.int .i64 a1.From, .int .i64 a1.To]), (1, .agg #[.int .i64 b2.From, .int .i64 b2.To])] rfl ⟨rfl, rfl, trivial⟩
 have hw := Wd.enter (E := []) hS (fun _ h => (by cases h))
 delta span_Normal_fn2 at hsh
 refine sr ?_
 refine w_box (cs := [.int .i64 a1.From, .int .i64 a1.To]) hs hw rfl rfl rfl trivial ?_
 intro b3 a w hs hw
 refine w_box (cs := [.int .i64 b2.From, .int .i64 b2.To]) hs hw rfl rfl rfl trivial ?_
 intro b4 a w hs hw
 refine av hs rfl rfl fun a hs => ?_
 refine nl ?_
 refine sr ?_
 refine sv hs (y_fieldAddr (o' := 0) Tryz.runUnderlying45 rfl Tryz.sizeOf3 rfl rfl rfl) rfl fun a hs => ?_
 refine sv hs (y_loadB1 (hw.ownAt 1 rfl) rfl Tryz.isAgg3 rfl) rfl fun a hs => ?_
 refine sv hs (y_fieldAddr (o' := 0) Tryz.runUnderlying45 rfl Tryz.sizeOf3 rfl rfl rfl) rfl fun a hs => ?_
 refine sv hs (y_loadB1 (hw.ownAt 0 rfl) rfl Tryz.isAgg3 rfl) rfl fun a hs => ?_
 obtain ⟨rv6, h5, hsh⟩ := bind_t hsh
 refine st_callR hs (cmp_Compare_int_ok h5 hw.bdom) (do_call Tryz.call88 rfl) trivial rfl rfl ?_
 intro v10 Sv7 w a h8 h9 hs
 subst h9
 have hw := hw.callB h8
 refine av hs rfl rfl fun a hs => ?_
 refine nl ?_
 have hsh := oi hsh
 subst hsh
 refine wp_ret ?_
 exact ret1 hs rfl (rv_tmp rfl) (hw.ret rfl)

theorem span_Normal_fn2_fn (S0 : Nat → Prop) (w0 : World) : (FnA2 Tryz.prog 87 [] [] span_Normal_fn2).p S0 w0 := by
  refine ⟨Tryz.call87, ?_⟩
  intro S1 w1 hk hS c0 c1 x0 x1 r1 h0 h1 hf
  obtain ⟨_, _, rfl, rfl, rfl⟩ := h0
  obtain ⟨_, _, rfl, rfl, rfl⟩ := h1
  exact span_Normal_fn2_ok hf hS  

abbrev span_Normal_rd (w0 : World) (X : List Nat) (r : (List Span)) : (Nat → Prop) → World → Value → Prop := fun S w v => ∃ (p0_0 : Option Addr) (k0_0 : Nat) (c0_0 : List Value), v = .slice p0_0 r.length k0_0 ∧ Outs X w0 S w [.row p0_0 r.length k0_0 c0_0 45 2] ∧ (RowA c0_0 r).p S w
set_option maxHeartbeats 4000000 in
set_option maxRecDepth 100000 in
theorem span_Normal_ok {w0 : World} {S0 : Nat → Prop} {p2 : Option Addr} {k3 : Nat} {l1 : (List Span)} {r : (List Span)} (hsh : span_Normal l1 = some r) (hS : ∀ b, S0 b → b < w0.heap.size) (h4 : (SlA p2 l1.length k3 l1).p S0 w0) : Calls Tryz.prog 60 #[.slice p2 l1.length k3] w0 (Ret ([]) w0 S0 (span_Normal_rd w0 ([]) r)) := by
 refine calls_of_wp Tryz.func60 rfl ?_
 have hs := Sl.enter #[.slice p2 l1.length k3] 54 [(0, .slice p2 l1.length k3)] rfl ⟨rfl, trivial⟩
 have hw := Wd.enter (E := []) hS (fun _ h => (by cases h))
 have hw := hw.addE h4
 delta span_Normal at hsh
 refine sr ?_
 refine av hs rfl rfl fun a hs => ?_
 refine nl ?_
 refine sr ?_
 refine mv hs rfl rfl fun a hs => ?_
 obtain ⟨rv6, h5, hsh⟩ := bind_t hsh
 refine st_callR hs (slices_Clone_Lapi_Span_api_Span_ok h5 hw.dom (hw.envAt 0 rfl)) (do_call Tryz.call83 rfl) trivial rfl rfl ?_
 intro v14 Sv11 w a h12 h13 hs
 obtain ⟨p7, k8, c10, rfl, h15, h9⟩ := h13
 have hw := hw.callN h12 h15
 have hw := hw.addE (e := RowA c10 rv6) h9
 obtain ⟨rv17, h16, hsh⟩ := bind_t hsh
 refine st_callR hs (slices_DeleteFunc_Lapi_Span_api_Span_ok h16 hw.dom (hw.ins [0] (by decide) rfl) (hw.envAt 0 rfl) (span_Normal_fn1_fn _ _)) (do_call Tryz.call82 rfl) trivial rfl rfl ?_
 intro v25 Sv22 w a h23 h24 hs
 obtain ⟨p18, k19, c21, rfl, h26, h20⟩ := h24
 have hw := hw.callO [0] [] (by decide) rfl h23 h26
 have hw := hw.addE (e := RowA c21 rv17) h20
 refine av hs rfl rfl fun a hs => ?_
 refine nl ?_
 refine sr ?_
 refine mv hs rfl rfl fun a hs => ?_
 obtain ⟨rv28, h27, hsh⟩ := bind_t hsh
 refine st_callR hs (slices_SortFunc_Lapi_Span_api_Span_ok h27 hw.dom (hw.ins [0] (by decide) rfl) (hw.envAt 0 rfl) (span_Normal_fn2_fn _ _)) (do_call Tryz.call86 rfl) trivial rfl rfl ?_
 intro v35 Sv32 w a h33 h34 hs
 obtain ⟨c29, rfl, h36, h30, h31⟩ := h34
 have hw := hw.callO [0] [] (by decide) rfl h33 h36
 have hw := hw.addE (e := RowA c29 rv28) h30
 have h37 := h31
 have h38 := Eq.symm h37
 try have hs := hs.fl 3 rfl h38
 try have hs := hs.fl 11 rfl h38
 refine nl ?_
 refine sr ?_
 refine av hs rfl rfl fun a hs => ?_
 refine nl ?_
 refine wp_seq ?_
 refine sr ?_
 refine mv hs rfl rfl fun a hs => ?_
 refine sv hs (y_len Tryz.runUnderlying52 rfl) rfl fun a hs => ?_
 refine mv hs rfl rfl fun a hs => ?_
 refine nl ?_
 obtain ⟨e261, h462, hsh⟩ := bind_t hsh
 refine wp_join (fun a w => ∃ (c262 : List Value) (p263 : Option Addr) (k264 : Nat) (Sv265 : Nat → Prop), Sl 54 [(4, .slice p263 e261.length k264)] a ∧ Wd ⟨w0, S0, []⟩ Sv265 [.row p263 e261.length k264 c262 45 2] [RowA c262 e261] w) ?_ ?_
 ·refine wp_block ?_
  have hw := hw.nilRow Span 45
  refine wp_while (fun sv39 a w => ∃ (c182 : List Value) (p183 : Option Addr) (k184 : Nat) (Sv185 : Nat → Prop), Sl 54 [(4, .slice p183 sv39.1.length k184), (13, .slice p18 rv28.length k19), (14, .int .i64 (rv28.length : Int)), (15, .int .i64 sv39.2)] a ∧ Wd ⟨w0, S0, []⟩ Sv185 [.row p183 sv39.1.length k184 c182 45 2, .row p18 rv28.length k19 c29 45 2] [RowA c182 sv39.1, RowA c29 rv28] w) (([] : List Span), 0) h462 ⟨[], none, 0, Sv32, (hs.wk rfl), (hw.ft [0, 1] [0, 1] (by decide) rfl rfl)⟩ ?_
  clear h462
  repeat clear hsh
  rintro sv39 a w tv259 ⟨c182, p183, k184, Sv185, hs, hw⟩ hsh hd258
  delta span_Normal_l1 at hsh
  refine sr ?_
  refine sv hs (y_lss rfl rfl) rfl fun a hs => ?_
  refine nl ?_
  refine wp_seq ?_
  refine wp_cond_split (hs.ev rfl) (fun h267 => ?_) (fun h267 => ?_)
  ·have hsh := ite_t hsh h267
   refine wp_skip ?_
   refine then_normal ?_
   refine wp_seq ?_
   refine wp_block ?_
   refine sr ?_
   obtain ⟨x341, h339, hsh⟩ := bind_t hsh
   obtain ⟨b348, q345, c346, h349, h342, h343, h347, h340⟩ := hw.elemRV (α := Span) 1 rfl 1 rfl h339
   have hsv350 := hs
   have hwv351 := hw
   subst h349
   have hs := hsv350
   have hw := hwv351
   obtain ⟨_, _, rfl, rfl, rfl⟩ := h340
   refine sv hs (y_indexAt Tryz.runUnderlying52 Tryz.sizeOf45 rfl rfl h342.1 h342.2 h343) rfl fun a hs => ?_
   refine sv hs (y_loadQA (j := 0) (hw.ownAt 1 rfl) rfl Tryz.isAgg45 Tryz.sizeOf45 h347 rfl rfl) rfl fun a hs => ?_
   refine w_alloc (cs := [.int .i64 0, .int .i64 0]) hs hw Tryz.zeroValue45 rfl rfl trivial ?_
   intro b352 a w hs hw
   refine w_store (m := 2) (cs' := [.int .i64 x341.From, .int .i64 x341.To]) hs hw 0 rfl rfl rfl Tryz.sizeOf45 rfl rfl rfl rfl trivial ?_
   intro a w hs hw
   refine nl ?_
   refine sr ?_
   refine mv hs rfl rfl fun a hs => ?_
   refine sv hs (y_len Tryz.runUnderlying52 rfl) rfl fun a hs => ?_
   obtain ⟨n354, h353, hsh⟩ := bind_t hsh
   refine sv hs (y_assignI rfl h353) rfl fun a hs => ?_
   refine nl ?_
   refine wp_seq ?_
   obtain ⟨c368, hc368, hsh⟩ := bind_t hsh
   refine wp_only (fun a w => ∃ (Sv369 : Nat → Prop), Sl 54 [(4, .slice p183 sv39.1.length k184), (6, .pointer (some ⟨b352, 0, none⟩)), (7, .int .i64 n354), (13, .slice (some ⟨b348, 0, none⟩) rv28.length k19), (14, .int .i64 (rv28.length : Int)), (15, .int .i64 sv39.2), (33, .bool c368)] a ∧ Wd ⟨w0, S0, []⟩ Sv369 [.box b352 [.int .i64 x341.From, .int .i64 x341.To] 45, .row p183 sv39.1.length k184 c182 45 2, .row (some ⟨b348, 0, none⟩) rv28.length k19 c29 45 2] [RowA c182 sv39.1, RowA c29 rv28] w) ?_ ?_
   ·rcases Bool.eq_false_or_eq_true (decide (0 < n354)) with h370 | h370
    ·have h371 := ite_t hc368 h370
     obtain ⟨x374, h372, h371⟩ := bind_t h371
     obtain ⟨b381, q378, c379, h382, h375, h376, h380, h373⟩ := hw.elemRV (α := Span) 1 rfl 0 rfl h372
     have hsv383 := hs
     have hwv384 := hw
     subst h382
     have hs := hsv383
     have hw := hwv384
     obtain ⟨_, _, rfl, rfl, rfl⟩ := h373
     refine h_b (C := Cls [.box b352 [.int .i64 x341.From, .int .i64 x341.To] 45, .row (some ⟨b381, 0, none⟩) sv39.1.length k184 c182 45 2, .row (some ⟨b348, 0, none⟩) rv28.length k19 c29 45 2] []) (by kernel_rfl) rfl (hw.drew.cs [0, 1, 2] [] rfl rfl) fun hC => ?_
     have hw := hw.drew
     refine gm hs 0 rfl rfl rfl hC fun a hs => ?_
     refine gv hs 1 rfl rfl hC (fun w hC => y_gtr rfl rfl) fun a hs => ?_
     refine gm hs 2 rfl rfl rfl hC fun a hs => ?_
     have hs := hs.fix 23 (.bool true) rfl (vb h370)
     refine gt hs 3 rfl ⟨_, rfl, rfl⟩ rfl hC (fun w hC => y_fieldAddr (o' := 0) Tryz.runUnderlying45 rfl Tryz.sizeOf3 rfl rfl rfl) fun a hs => ?_
     refine gt hs 4 rfl ⟨_, rfl, rfl⟩ rfl hC (fun w hC => y_loadB1 (hC.ownAt 0 rfl) rfl Tryz.isAgg3 rfl) fun a hs => ?_
     refine gt hs 5 rfl ⟨_, rfl, rfl⟩ rfl hC (fun w hC => y_move rfl) fun a hs => ?_
     refine gt hs 6 rfl ⟨_, rfl, rfl⟩ rfl hC (fun w hC => y_move rfl) fun a hs => ?_
     refine gt hs 7 rfl ⟨_, rfl, rfl⟩ rfl hC (fun w hC => y_sub rfl rfl) fun a hs => ?_
     refine gt hs 8 rfl ⟨_, rfl, rfl⟩ rfl hC (fun w hC => y_indexAt Tryz.runUnderlying52 Tryz.sizeOf45 rfl rfl h375.1 h375.2 h376) fun a hs => ?_
     refine gt hs 9 rfl ⟨_, rfl, rfl⟩ rfl hC (fun w hC => y_fieldAddr (o' := q378 + 1) Tryz.runUnderlying45 rfl Tryz.sizeOf3 rfl rfl rfl) fun a hs => ?_
     refine gt hs 10 rfl ⟨_, rfl, rfl⟩ rfl hC (fun w hC => y_loadQ1 (j := 1) (hC.ownAt 1 rfl) rfl Tryz.isAgg3 h380 rfl) fun a hs => ?_
     refine gt hs 11 rfl ⟨_, rfl, rfl⟩ rfl hC (fun w hC => y_leq rfl rfl) fun a hs => ?_
     refine gv hs 12 rfl rfl hC (fun w hC => y_pickTE (v := .bool c368) rfl rfl (vbs h371)) fun a hs => ?_
     refine h_done (by kernel_rfl) ?_
     exact ⟨Sv185, (hs.wk rfl), (hw.ft [0, 1, 2] [0, 1] (by decide) rfl rfl)⟩
    have h385 := ite_f hc368 h370
    refine h_b (C := Cls [.box b352 [.int .i64 x341.From, .int .i64 x341.To] 45, .row p183 sv39.1.length k184 c182 45 2, .row (some ⟨b348, 0, none⟩) rv28.length k19 c29 45 2] []) (by kernel_rfl) rfl (hw.drew.cs [0, 1, 2] [] rfl rfl) fun hC => ?_
    have hw := hw.drew
    refine gm hs 0 rfl rfl rfl hC fun a hs => ?_
    refine gv hs 1 rfl rfl hC (fun w hC => y_gtr rfl rfl) fun a hs => ?_
    refine gm hs 2 rfl rfl rfl hC fun a hs => ?_
    have hs := hs.fix 23 (.bool false) rfl (vb h370)
    refine gs hs 3 rfl rfl rfl rfl hC fun a hs => ?_
    refine gs hs 4 rfl rfl rfl rfl hC fun a hs => ?_
    refine gs hs 5 rfl rfl rfl rfl hC fun a hs => ?_
    refine gs hs 6 rfl rfl rfl rfl hC fun a hs => ?_
    refine gs hs 7 rfl rfl rfl rfl hC fun a hs => ?_
    refine gs hs 8 rfl rfl rfl rfl hC fun a hs => ?_
    refine gs hs 9 rfl rfl rfl rfl hC fun a hs => ?_
    refine gs hs 10 rfl rfl rfl rfl hC fun a hs => ?_
    refine gs hs 11 rfl rfl rfl rfl hC fun a hs => ?_
    refine gv hs 12 rfl rfl hC (fun w hC => y_pickFE (v := .bool c368) rfl rfl (vbs h385)) fun a hs => ?_
    refine h_done (by kernel_rfl) ?_
    exact ⟨Sv185, (hs.wk rfl), (hw.ft [0, 1, 2] [0, 1] (by decide) rfl rfl)⟩
   rintro a w ⟨Sv369, hs, hw⟩
   refine then_normal ?_
   refine wp_join (fun a w => ∃ (out425 : (List Span)) (c421 : List Value) (p422 : Option Addr) (k423 : Nat) (Sv424 : Nat → Prop), span_Normal_j1 sv39 out425 = some tv259 ∧ Sl 54 [(4, .slice p422 out425.length k423), (13, .slice (some ⟨b348, 0, none⟩) rv28.length k19), (14, .int .i64 (rv28.length : Int)), (15, .int .i64 sv39.2)] a ∧ Wd ⟨w0, S0, []⟩ Sv424 [.row p422 out425.length k423 c421 45 2, .row (some ⟨b348, 0, none⟩) rv28.length k19 c29 45 2] [RowA c421 out425, RowA c29 rv28] w) ?_ ?_
   ·refine wp_cond_split (hs.ev rfl) (fun h426 => ?_) (fun h426 => ?_)
    ·have hsh := ite_t hsh h426
     obtain ⟨x429, h427, hsh⟩ := bind_t hsh
     obtain ⟨b436, q433, c434, h437, h430, h431, h435, h428⟩ := hw.elemRV (α := Span) 1 rfl 0 rfl h427
     have hsv438 := hs
     have hwv439 := hw
     subst h437
     have hs := hsv438
     have hw := hwv439
     obtain ⟨_, _, rfl, rfl, rfl⟩ := h428
     obtain ⟨x442, h440, hsh⟩ := bind_t hsh
     obtain ⟨q446, c447, h443, h444, h448, h441⟩ := hw.elemRK (α := Span) 1 rfl 0 rfl h440
     obtain ⟨_, _, rfl, rfl, rfl⟩ := h441
     obtain ⟨l450, h449, hsh⟩ := bind_t hsh
     refine wp_only (fun a w => ∃ (Sv453 : Nat → Prop) (c451 : List Value), Sl 54 [(4, .slice (some ⟨b436, 0, none⟩) l450.length k184), (13, .slice (some ⟨b348, 0, none⟩) rv28.length k19), (14, .int .i64 (rv28.length : Int)), (15, .int .i64 sv39.2)] a ∧ Wd ⟨w0, S0, []⟩ Sv453 [.row (some ⟨b436, 0, none⟩) l450.length k184 c451 45 2, .row (some ⟨b348, 0, none⟩) rv28.length k19 c29 45 2] [RowA c451 l450, RowA c29 rv28] w) ?_ ?_
     ·refine h_b (C := Cls [.box b352 [.int .i64 x341.From, .int .i64 x341.To] 45, .row (some ⟨b348, 0, none⟩) rv28.length k19 c29 45 2] []) (by kernel_rfl) rfl (hw.drew.cs [0, 2] [] rfl rfl) fun hC => ?_
      have hw := hw.drew
      refine gm hs 0 rfl rfl rfl hC fun a hs => ?_
      refine gm hs 1 rfl rfl rfl hC fun a hs => ?_
      refine gv hs 2 rfl rfl hC (fun w hC => y_sub rfl rfl) fun a hs => ?_
      refine gm hs 3 rfl rfl rfl hC fun a hs => ?_
      refine gm hs 4 rfl rfl rfl hC fun a hs => ?_
      refine gv hs 5 rfl rfl hC (fun w hC => y_sub rfl rfl) fun a hs => ?_
      refine gv hs 6 rfl rfl hC (fun w hC => y_indexAt Tryz.runUnderlying52 Tryz.sizeOf45 rfl rfl h430.1 h430.2 h431) fun a hs => ?_
      refine gv hs 7 rfl rfl hC (fun w hC => y_fieldAddr (o' := q433 + 1) Tryz.runUnderlying45 rfl Tryz.sizeOf3 rfl rfl rfl) fun a hs => ?_
      refine gv hs 9 rfl rfl hC (fun w hC => y_fieldAddr (o' := 1) Tryz.runUnderlying45 rfl Tryz.sizeOf3 rfl rfl rfl) fun a hs => ?_
      refine gv hs 10 rfl rfl hC (fun w hC => y_loadB1 (hC.ownAt 0 rfl) rfl Tryz.isAgg3 rfl) fun a hs => ?_
      refine ho 8 rfl ?_
      refine sv hs (y_loadQ1 (j := 1) (hw.ownAt 1 rfl) rfl Tryz.isAgg3 h435 rfl) rfl fun a hs => ?_
      refine h_nx (hw.cs [0, 2] [] rfl rfl) fun hC => ?_
      refine gv hs 11 rfl rfl hC (fun w hC => y_max rfl rfl) fun a hs => ?_
      refine gv hs 12 rfl rfl hC (fun w hC => y_indexAt Tryz.runUnderlying52 Tryz.sizeOf45 rfl rfl h443.1 h443.2 h444) fun a hs => ?_
      refine gv hs 13 rfl rfl hC (fun w hC => y_fieldAddr (o' := q446 + 1) Tryz.runUnderlying45 rfl Tryz.sizeOf3 rfl rfl rfl) fun a hs => ?_
      refine ho 14 rfl ?_
      refine w_storeR (α := Span) (f := 1) (m := 1) hs hw 1 rfl 0 rfl h444 rfl rfl Tryz.sizeOf3 rfl rfl rfl h449 (fun es he => by rw [h448] at he; subst he; exact ⟨_, _, rfl, rfl, rfl⟩) trivial ?_
      intro c451 a w hs hw
      have h452 := setM_len h449
      try have hs := hs.fl 4 rfl h452
      try have hs := hs.fl 34 rfl h452
      try have hs := hs.fl 37 rfl h452
      refine h_nx (hw.cs [0, 2] [] rfl rfl) fun hC => ?_
      refine h_done (by kernel_rfl) ?_
      exact ⟨Sv369, c451, (hs.wk rfl), (hw.ft [1, 2] [0, 2] (by decide) rfl rfl)⟩
     rintro a w ⟨Sv453, c451, hs, hw⟩
     refine then_normal ?_
     exact ⟨l450, c451, (some ⟨b436, 0, none⟩), k184, Sv453, hsh, (hs.wk rfl), (hw.ft [0, 1] [0, 1] (by decide) rfl rfl)⟩
    have hsh := ite_f hsh h426
    refine wp_region_lit ?_
    refine mv hs rfl rfl fun a hs => ?_
    refine sv hs (y_loadBA (hw.ownAt 0 rfl) rfl Tryz.isAgg45 Tryz.sizeOf45 rfl rfl) rfl fun a hs => ?_
    refine w_litSlice (α := Span) (vs := [.agg #[.int .i64 x341.From, .int .i64 x341.To]]) (cs := [.int .i64 x341.From, .int .i64 x341.To]) (xs := ([x341] : List Span)) hs hw El52 rfl rfl rfl rfl rfl rfl ⟨⟨_, _, rfl, rfl, rfl⟩, rfl⟩ rfl trivial rfl fun b455 a w hs hw => ?_
    obtain ⟨l457, h456, hsh⟩ := bind_t hsh
    refine w_appendR (α := Span) hs hw El52 2 rfl rfl rfl 1 rfl 0 rfl 0 rfl h456 rfl trivial ?_
    intro p458 k459 c460 a w hs hw
    refine av hs rfl rfl fun a hs => ?_
    refine nl ?_
    exact ⟨l457, c460, p458, k459, Sv369, hsh, (hs.wk rfl), (hw.ft [2, 3] [0, 3] (by decide) rfl rfl)⟩
   rintro a w ⟨out425, c421, p422, k423, Sv424, hsh, hs, hw⟩
   delta span_Normal_j1 at hsh
   refine blk_normal ?_
   refine then_normal ?_
   refine wp_region_lit ?_
   refine sv hs (y_add rfl rfl) rfl fun a hs => ?_
   refine mv hs rfl rfl fun a hs => ?_
   refine nl ?_
   exact ⟨_, (Option.some.inj hsh).symm, c421, p422, k423, Sv424, (hs.wk rfl), (hw.ft [0, 1] [0, 1] (by decide) rfl rfl)⟩
  have hsh := ite_f hsh h267
  refine wp_exit ?_
  refine then_exit ?_
  refine then_exit ?_
  refine blk_exit ?_
  have hsh := oi hsh
  subst hsh
  have h461 := hd258 _ rfl
  subst h461
  refine then_normal ?_
  exact ⟨c182, p183, k184, Sv185, (hs.wk rfl), (hw.ft [0] [0] (by decide) rfl rfl)⟩
 rintro a w ⟨c262, p263, k264, Sv265, hs, hw⟩
 refine then_normal ?_
 refine sr ?_
 refine mv hs rfl rfl fun a hs => ?_
 refine av hs rfl rfl fun a hs => ?_
 refine nl ?_
 have hsh := oi hsh
 subst hsh
 refine wp_ret ?_
 exact ret1 hs rfl (rv_tmp rfl) (hw.ret ⟨p263, k264, c262, rfl, (hw.outs [0] (by decide) rfl), (hw.envAt 0 rfl)⟩)

abbrev compose_times_rd (w0 : World) (X : List Nat) (r : (List Int)) : (Nat → Prop) → World → Value → Prop := fun S w v => ∃ (p0_0 : Option Addr) (k0_0 : Nat) (c0_0 : List Value), v = .slice p0_0 r.length k0_0 ∧ Outs X w0 S w [.row p0_0 r.length k0_0 c0_0 3 1] ∧ (RowA c0_0 r).p S w
set_option maxHeartbeats 4000000 in
set_option maxRecDepth 100000 in
theorem compose_times_ok {w0 : World} {S0 : Nat → Prop} {p2 : Option Addr} {k3 : Nat} {r1 : Record} {r : (List Int)} (hsh : compose_times r1 = some r) (hS : ∀ b, S0 b → b < w0.heap.size) (h4 : (SlA p2 r1.Samples.length k3 r1.Samples).p S0 w0) : Calls Tryz.prog 97 #[.agg #[.string r1.Source.Network, .string r1.Source.Station, .string r1.Source.Location, .string r1.Source.Channel, .int .i64 r1.Start, .int .i64 r1.First, .int .i64 r1.Rate.Num, .int .i64 r1.Rate.Den, .int .i64 r1.Error, .int .i64 r1.Run, .int .i64 r1.Seq, .slice p2 r1.Samples.length k3]] w0 (Ret ([]) w0 S0 (compose_times_rd w0 ([]) r)) := by
 refine calls_of_wp Tryz.func97 rfl ?_
 have hs := Sl.enter #[.agg #[.string r1.Source.Network, .string r1.Source.Station, .string r1.Source.Location, .string r1.Source.Channel, .int .i64 r1.Start, .int .i64 r1.First, .int .i64 r1.Rate.Num, .int .i64 r1.Rate.Den, .int .i64 r1.Error, .int .i64 r1.Run, .int .i64 r1.Seq, .slice p2 r1.Samples.length k3]] 20 [(0, .agg #[.string r1.Source.Network, .string r1.Source.Station, .string r1.Source.Location, .string r1.Source.Channel, .int .i64 r1.Start, .int .i64 r1.First, .int .i64 r1.Rate.Num, .int .i64 r1.Rate.Den, .int .i64 r1.Error, .int .i64 r1.Run, .int .i64 r1.Seq, .slice p2 r1.Samples.length k3])] rfl ⟨rfl, trivial⟩
 have hw := Wd.enter (E := []) hS (fun _ h => (by cases h))
 have hw := hw.addE h4
 delta compose_times at hsh
 refine sr ?_
 refine w_box (cs := [.string r1.Source.Network, .string r1.Source.Station, .string r1.Source.Location, .string r1.Source.Channel, .int .i64 r1.Start, .int .i64 r1.First, .int .i64 r1.Rate.Num, .int .i64 r1.Rate.Den, .int .i64 r1.Error, .int .i64 r1.Run, .int .i64 r1.Seq, .slice p2 r1.Samples.length k3]) hs hw rfl rfl rfl trivial ?_
 intro b5 a w hs hw
 refine av hs rfl rfl fun a hs => ?_
 refine nl ?_
 refine sr ?_
 refine av hs rfl rfl fun a hs => ?_
 refine nl ?_
 refine wp_seq ?_
 refine sr ?_
 refine sv hs (y_fieldAddr (o' := 11) Tryz.runUnderlying35 rfl Tryz.sizeOf22 rfl rfl rfl) rfl fun a hs => ?_
 refine sv hs (y_loadB1 (hw.ownAt 0 rfl) rfl Tryz.isAgg22 rfl) rfl fun a hs => ?_
 refine sv hs (y_len Tryz.runUnderlying22 rfl) rfl fun a hs => ?_
 refine sv hs (y_add rfl rfl) rfl fun a hs => ?_
 refine mv hs rfl rfl fun a hs => ?_
 refine nl ?_
 obtain ⟨e63, h99, hsh⟩ := bind_t hsh
 refine wp_join (fun a w => ∃ (c64 : List Value) (p65 : Option Addr) (k66 : Nat) (Sv67 : Nat → Prop), Sl 20 [(3, .slice p65 e63.length k66)] a ∧ Wd ⟨w0, S0, []⟩ Sv67 [.row p65 e63.length k66 c64 3 1] [RowA c64 e63] w) ?_ ?_
 ·refine wp_block ?_
  have hw := hw.nilRow Int 3
  refine wp_while (fun sv6 a w => ∃ (c41 : List Value) (p42 : Option Addr) (k43 : Nat) (Sv44 : Nat → Prop), Sl 20 [(1, .pointer (some ⟨b5, 0, none⟩)), (3, .slice p42 sv6.1.length k43), (8, .int .i64 (w64 ((r1.Samples.length : Int) + 1))), (9, .int .i64 sv6.2)] a ∧ Wd ⟨w0, S0, []⟩ Sv44 [.box b5 [.string r1.Source.Network, .string r1.Source.Station, .string r1.Source.Location, .string r1.Source.Channel, .int .i64 r1.Start, .int .i64 r1.First, .int .i64 r1.Rate.Num, .int .i64 r1.Rate.Den, .int .i64 r1.Error, .int .i64 r1.Run, .int .i64 r1.Seq, .slice p2 r1.Samples.length k3] 35, .row p42 sv6.1.length k43 c41 3 1] [SlA p2 r1.Samples.length k3 r1.Samples, RowA c41 sv6.1] w) (([] : List Int), 0) h99 ⟨[], none, 0, S0, (hs.wk rfl), (hw.ft [1, 0] [1, 0] (by decide) rfl rfl)⟩ ?_
  clear h99
  repeat clear hsh
  rintro sv6 a w tv61 ⟨c41, p42, k43, Sv44, hs, hw⟩ hsh hd60
  delta compose_times_l1 at hsh
  refine sr ?_
  refine sv hs (y_lss rfl rfl) rfl fun a hs => ?_
  refine nl ?_
  refine wp_seq ?_
  refine wp_cond_split (hs.ev rfl) (fun h69 => ?_) (fun h69 => ?_)
  ·have hsh := ite_t hsh h69
   refine wp_skip ?_
   refine then_normal ?_
   refine wp_seq ?_
   refine wp_block ?_
   refine sr ?_
   refine mv hs rfl rfl fun a hs => ?_
   refine av hs rfl rfl fun a hs => ?_
   refine nl ?_
   refine wp_region_lit ?_
   refine mv hs rfl rfl fun a hs => ?_
   refine sv hs (y_loadBA (hw.ownAt 0 rfl) rfl Tryz.isAgg35 Tryz.sizeOf35 rfl rfl) rfl fun a hs => ?_
   refine mv hs rfl rfl fun a hs => ?_
   obtain ⟨rv85, h84, hsh⟩ := bind_t hsh
   refine st_callR hs (compose_at_ok h84 hw.bdom (hw.bE 0 rfl)) (do_call Tryz.call56 rfl) trivial rfl rfl ?_
   intro v89 Sv86 w a h87 h88 hs
   subst h88
   have hw := hw.callB h87
   refine w_litSlice (α := Int) (vs := [.int .i64 rv85]) (cs := [.int .i64 rv85]) (xs := ([rv85] : List Int)) hs hw El22 rfl rfl rfl rfl rfl rfl ⟨⟨_, rfl, rfl⟩, rfl⟩ rfl trivial rfl fun b92 a w hs hw => ?_
   obtain ⟨l94, h93, hsh⟩ := bind_t hsh
   refine w_appendR (α := Int) hs hw El22 2 rfl rfl rfl 2 rfl 0 rfl 0 rfl h93 rfl trivial ?_
   intro p95 k96 c97 a w hs hw
   refine av hs rfl rfl fun a hs => ?_
   refine wpList_nil ?_
   refine blk_normal ?_
   refine then_normal ?_
   refine wp_region_lit ?_
   refine sv hs (y_add rfl rfl) rfl fun a hs => ?_
   refine mv hs rfl rfl fun a hs => ?_
   refine nl ?_
   exact ⟨_, (Option.some.inj hsh).symm, c97, p95, k96, Sv44, (hs.wk rfl), (hw.ft [1, 2] [2, 0] (by decide) rfl rfl)⟩
  have hsh := ite_f hsh h69
  refine wp_exit ?_
  refine then_exit ?_
  refine then_exit ?_
  refine blk_exit ?_
  have hsh := oi hsh
  subst hsh
  have h98 := hd60 _ rfl
  subst h98
  refine then_normal ?_
  exact ⟨c41, p42, k43, Sv44, (hs.wk rfl), (hw.ft [1] [1] (by decide) rfl rfl)⟩
 rintro a w ⟨c64, p65, k66, Sv67, hs, hw⟩
 refine then_normal ?_
 refine sr ?_
 refine mv hs rfl rfl fun a hs => ?_
 refine av hs rfl rfl fun a hs => ?_
 refine nl ?_
 have hsh := oi hsh
 subst hsh
 refine wp_ret ?_
 exact ret1 hs rfl (rv_tmp rfl) (hw.ret ⟨p65, k66, c64, rfl, (hw.outs [0] (by decide) rfl), (hw.envAt 0 rfl)⟩)

abbrev compose_kept_rd (w0 : World) (X : List Nat) (r : (List Bool)) : (Nat → Prop) → World → Value → Prop := fun S w v => ∃ (p0_0 : Option Addr) (k0_0 : Nat) (c0_0 : List Value), v = .slice p0_0 r.length k0_0 ∧ Outs X w0 S w [.row p0_0 r.length k0_0 c0_0 4 1] ∧ (RowA c0_0 r).p S w
set_option maxHeartbeats 4000000 in
set_option maxRecDepth 100000 in
theorem compose_kept_ok {w0 : World} {S0 : Nat → Prop} {p2 : Option Addr} {k3 : Nat} {p6 : Option Addr} {k7 : Nat} {r1 : Record} {better5 : (List Span)} {r : (List Bool)} (hsh : compose_kept r1 better5 = some r) (hS : ∀ b, S0 b → b < w0.heap.size) (h4 : (SlA p2 r1.Samples.length k3 r1.Samples).p S0 w0) (h8 : (SlA p6 better5.length k7 better5).p S0 w0) : Calls Tryz.prog 73 #[.agg #[.string r1.Source.Network, .string r1.Source.Station, .string r1.Source.Location, .string r1.Source.Channel, .int .i64 r1.Start, .int .i64 r1.First, .int .i64 r1.Rate.Num, .int .i64 r1.Rate.Den, .int .i64 r1.Error, .int .i64 r1.Run, .int .i64 r1.Seq, .slice p2 r1.Samples.length k3], .slice p6 better5.length k7] w0 (Ret ([]) w0 S0 (compose_kept_rd w0 ([]) r)) := by
 refine calls_of_wp Tryz.func73 rfl ?_
 have hs := Sl.enter #[.agg #[.string r1.Source.Network, .string r1.Source.Station, .string r1.Source.Location, .string r1.Source.Channel, .int .i64 r1.Start, .int .i64 r1.First, .int .i64 r1.Rate.Num, .int .i64 r1.Rate.Den, .int .i64 r1.Error, .int .i64 r1.Run, .int .i64 r1.Seq, .slice p2 r1.Samples.length k3], .slice p6 better5.length k7] 60 [(0, .agg #[.string r1.Source.Network, .string r1.Source.Station, .string r1.Source.Location, .string r1.Source.Channel, .int .i64 r1.Start, .int .i64 r1.First, .int .i64 r1.Rate.Num, .int .i64 r1.Rate.Den, .int .i64 r1.Error, .int .i64 r1.Run, .int .i64 r1.Seq, .slice p2 r1.Samples.length k3]), (1, .slice p6 better5.length k7)] rfl ⟨rfl, rfl, trivial⟩
 have hw := Wd.enter (E := []) hS (fun _ h => (by cases h))
 have hw := hw.addE h4
 have hw := hw.addE h8
 delta compose_kept at hsh
 refine sr ?_
 refine w_box (cs := [.string r1.Source.Network, .string r1.Source.Station, .string r1.Source.Location, .string r1.Source.Channel, .int .i64 r1.Start, .int .i64 r1.First, .int .i64 r1.Rate.Num, .int .i64 r1.Rate.Den, .int .i64 r1.Error, .int .i64 r1.Run, .int .i64 r1.Seq, .slice p2 r1.Samples.length k3]) hs hw rfl rfl rfl trivial ?_
 intro b9 a w hs hw
 refine av hs rfl rfl fun a hs => ?_
 refine nl ?_
 refine sr ?_
 refine sv hs (y_loadBA (hw.ownAt 0 rfl) rfl Tryz.isAgg35 Tryz.sizeOf35 rfl rfl) rfl fun a hs => ?_
 obtain ⟨rv11, h10, hsh⟩ := bind_t hsh
 refine st_callR hs (compose_times_ok h10 hw.dom (hw.envAt 1 rfl)) (do_call Tryz.call97 rfl) trivial rfl rfl ?_
 intro v19 Sv16 w a h17 h18 hs
 obtain ⟨p12, k13, c15, rfl, h20, h14⟩ := h18
 have hw := hw.callN h17 h20
 have hw := hw.addE (e := RowA c15 rv11) h14
 refine av hs rfl rfl fun a hs => ?_
 refine nl ?_
 refine sr ?_
 refine sv hs (y_fieldAddr (o' := 11) Tryz.runUnderlying35 rfl Tryz.sizeOf22 rfl rfl rfl) rfl fun a hs => ?_
 refine sv hs (y_loadB1 (hw.ownAt 1 rfl) rfl Tryz.isAgg22 rfl) rfl fun a hs => ?_
 refine sv hs (y_len Tryz.runUnderlying22 rfl) rfl fun a hs => ?_
 obtain ⟨l22, h21, hsh⟩ := bind_t hsh
 refine w_make (α := Bool) hs hw El101 ⟨_, rfl, rfl⟩ rfl rfl h21 rfl trivial ?_
 intro p23 c24 a w hs hw
 refine av hs rfl rfl fun a hs => ?_
 refine nl ?_
 refine sr ?_
 refine av hs rfl rfl fun a hs => ?_
 refine nl ?_
 refine wp_seq ?_
 refine sr ?_
 refine mv hs rfl rfl fun a hs => ?_
 refine sv hs (y_len Tryz.runUnderlying101 rfl) rfl fun a hs => ?_
 refine mv hs rfl rfl fun a hs => ?_
 refine nl ?_
 obtain ⟨e478, h872, hsh⟩ := bind_t hsh
 refine wp_join (fun a w => ∃ (c479 : List Value) (p480 : Option Addr) (k481 : Nat) (Sv482 : Nat → Prop), Sl 60 [(6, .slice p480 e478.length k481)] a ∧ Wd ⟨w0, S0, []⟩ Sv482 [.row p480 e478.length k481 c479 4 1] [RowA c479 e478] w) ?_ ?_
 ·refine wp_block ?_
  refine wp_while (fun sv25 a w => ∃ (c324 : List Value) (p325 : Option Addr) (k326 : Nat) (Sv327 : Nat → Prop), Sl 60 [(1, .slice p6 better5.length k7), (5, .slice p12 rv11.length k13), (6, .slice p325 sv25.1.length k326), (7, .int .i64 sv25.2.1), (16, .int .i64 (l22.length : Int)), (17, .int .i64 sv25.2.2)] a ∧ Wd ⟨w0, S0, []⟩ Sv327 [.row p12 rv11.length k13 c15 3 1, .row p325 sv25.1.length k326 c324 4 1] [SlA p6 better5.length k7 better5, RowA c15 rv11, RowA c324 sv25.1] w) (l22, 0, 0) h872 ⟨c24, p23, l22.length, Sv16, (hs.wk rfl), (hw.ft [1, 0] [2, 1, 0] (by decide) rfl rfl)⟩ ?_
  clear h872
  repeat clear hsh
  rintro sv25 a w tv476 ⟨c324, p325, k326, Sv327, hs, hw⟩ hsh hd475
  delta compose_kept_l3 at hsh
  refine sr ?_
  refine sv hs (y_lss rfl rfl) rfl fun a hs => ?_
  refine nl ?_
  refine wp_seq ?_
  refine wp_cond_split (hs.ev rfl) (fun h484 => ?_) (fun h484 => ?_)
  ·have hsh := ite_t hsh h484
   refine wp_skip ?_
   refine then_normal ?_
   refine wp_seq ?_
   refine wp_block ?_
   refine sr ?_
   refine mv hs rfl rfl fun a hs => ?_
   refine av hs rfl rfl fun a hs => ?_
   refine nl ?_
   refine wp_seq ?_
   obtain ⟨e730, h870, hsh⟩ := bind_t hsh
   refine wp_join (fun a w => ∃ (Sv731 : Nat → Prop), Sl 60 [(1, .slice p6 better5.length k7), (5, .slice p12 rv11.length k13), (6, .slice p325 sv25.1.length k326), (7, .int .i64 e730), (8, .int .i64 sv25.2.2), (16, .int .i64 (l22.length : Int)), (17, .int .i64 sv25.2.2)] a ∧ Wd ⟨w0, S0, []⟩ Sv731 [.row p12 rv11.length k13 c15 3 1, .row p325 sv25.1.length k326 c324 4 1] [SlA p6 better5.length k7 better5, RowA c15 rv11, RowA c324 sv25.1] w) ?_ ?_
   ·refine wp_block ?_
    refine wp_while (fun sv631 a w => ∃ (Sv695 : Nat → Prop), Sl 60 [(1, .slice p6 better5.length k7), (5, .slice p12 rv11.length k13), (6, .slice p325 sv25.1.length k326), (7, .int .i64 sv631), (8, .int .i64 sv25.2.2), (16, .int .i64 (l22.length : Int)), (17, .int .i64 sv25.2.2)] a ∧ Wd ⟨w0, S0, []⟩ Sv695 [.row p12 rv11.length k13 c15 3 1, .row p325 sv25.1.length k326 c324 4 1] [SlA p6 better5.length k7 better5, RowA c15 rv11, RowA c324 sv25.1] w) sv25.2.1 h870 ⟨Sv327, (hs.wk rfl), (hw.ft [0, 1] [0, 1, 2] (by decide) rfl rfl)⟩ ?_
    clear h870
    repeat clear hsh
    rintro sv631 a w tv728 ⟨Sv695, hs, hw⟩ hsh hd727
    delta compose_kept_l6 at hsh
    refine wp_seq ?_
    refine wp_seq ?_
    obtain ⟨c758, hc758, hsh⟩ := bind_t hsh
    refine wp_only (fun a w => ∃ (Sv759 : Nat → Prop), Sl 60 [(1, .slice p6 better5.length k7), (5, .slice p12 rv11.length k13), (6, .slice p325 sv25.1.length k326), (7, .int .i64 sv631), (8, .int .i64 sv25.2.2), (16, .int .i64 (l22.length : Int)), (17, .int .i64 sv25.2.2), (35, .bool c758)] a ∧ Wd ⟨w0, S0, []⟩ Sv759 [.row p12 rv11.length k13 c15 3 1, .row p325 sv25.1.length k326 c324 4 1] [SlA p6 better5.length k7 better5, RowA c15 rv11, RowA c324 sv25.1] w) ?_ ?_
    ·rcases Bool.eq_false_or_eq_true (decide (sv631 < (better5.length : Int))) with h760 | h760
     ·have h761 := ite_t hc758 h760
      obtain ⟨x764, h762, h761⟩ := bind_t h761
      obtain ⟨b770, o771, q768, c769, h772, h765, h766, h767, h763⟩ := hw.elemV 0 rfl h762
      have hsv773 := hs
      have hwv774 := hw
      subst h772
      have hs := hsv773
      have hw := hwv774
      obtain ⟨_, _, rfl, rfl, rfl⟩ := h763
      have hw := hw.addE h767
      obtain ⟨x777, h775, h761⟩ := bind_t h761
      obtain ⟨b784, q781, c782, h785, h778, h779, h783, h776⟩ := hw.elemRV (α := Int) 0 rfl 2 rfl h775
      have hsv786 := hs
      have hwv787 := hw
      subst h785
      have hs := hsv786
      have hw := hwv787
      obtain ⟨_, rfl, rfl⟩ := h776
      refine h_b (C := Cls [.row (some ⟨b784, 0, none⟩) rv11.length k13 c15 3 1, .row p325 sv25.1.length k326 c324 4 1] [CeA b770 q768 [.int .i64 x764.From, .int .i64 x764.To]]) (by kernel_rfl) rfl (hw.drew.cs [0, 1] [0] rfl rfl) fun hC => ?_
      have hw := hw.drew
      refine gm hs 0 rfl rfl rfl hC fun a hs => ?_
      refine gm hs 1 rfl rfl rfl hC fun a hs => ?_
      refine gv hs 2 rfl rfl hC (fun w hC => y_len Tryz.runUnderlying52 rfl) fun a hs => ?_
      refine gv hs 3 rfl rfl hC (fun w hC => y_lss rfl rfl) fun a hs => ?_
      refine gm hs 4 rfl rfl rfl hC fun a hs => ?_
      have hs := hs.fix 24 (.bool true) rfl (vb h760)
      refine gt hs 5 rfl ⟨_, rfl, rfl⟩ rfl hC (fun w hC => y_move rfl) fun a hs => ?_
      refine gt hs 6 rfl ⟨_, rfl, rfl⟩ rfl hC (fun w hC => y_move rfl) fun a hs => ?_
      refine gt hs 7 rfl ⟨_, rfl, rfl⟩ rfl hC (fun w hC => y_indexAt Tryz.runUnderlying52 Tryz.sizeOf45 rfl rfl h765.1 h765.2 h766) fun a hs => ?_
      refine gt hs 8 rfl ⟨_, rfl, rfl⟩ rfl hC (fun w hC => y_fieldAddr (o' := q768 + 1) Tryz.runUnderlying45 rfl Tryz.sizeOf3 rfl rfl rfl) fun a hs => ?_
      refine gt hs 9 rfl ⟨_, rfl, rfl⟩ rfl hC (fun w hC => y_loadE1 (j := 1) (hC.ceAt 0 rfl) rfl Tryz.isAgg3 rfl) fun a hs => ?_
      refine gt hs 10 rfl ⟨_, rfl, rfl⟩ rfl hC (fun w hC => y_move rfl) fun a hs => ?_
      refine gt hs 11 rfl ⟨_, rfl, rfl⟩ rfl hC (fun w hC => y_move rfl) fun a hs => ?_
      refine gt hs 12 rfl ⟨_, rfl, rfl⟩ rfl hC (fun w hC => y_indexAt Tryz.runUnderlying22 Tryz.sizeOf3 rfl rfl h778.1 h778.2 h779) fun a hs => ?_
      refine gt hs 13 rfl ⟨_, rfl, rfl⟩ rfl hC (fun w hC => y_loadQ1 (j := 0) (hC.ownAt 0 rfl) rfl Tryz.isAgg3 h783 rfl) fun a hs => ?_
      refine gt hs 14 rfl ⟨_, rfl, rfl⟩ rfl hC (fun w hC => y_leq rfl rfl) fun a hs => ?_
      refine gv hs 15 rfl rfl hC (fun w hC => y_pickTE (v := .bool c758) rfl rfl (vbs h761)) fun a hs => ?_
      refine h_done (by kernel_rfl) ?_
      exact ⟨Sv695, (hs.wk rfl), (hw.ft [0, 1] [1, 2, 3] (by decide) rfl rfl)⟩
     have h788 := ite_f hc758 h760
     refine h_b (C := Cls [.row p12 rv11.length k13 c15 3 1, .row p325 sv25.1.length k326 c324 4 1] []) (by kernel_rfl) rfl (hw.drew.cs [0, 1] [] rfl rfl) fun hC => ?_
     have hw := hw.drew
     refine gm hs 0 rfl rfl rfl hC fun a hs => ?_
     refine gm hs 1 rfl rfl rfl hC fun a hs => ?_
     refine gv hs 2 rfl rfl hC (fun w hC => y_len Tryz.runUnderlying52 rfl) fun a hs => ?_
     refine gv hs 3 rfl rfl hC (fun w hC => y_lss rfl rfl) fun a hs => ?_
     refine gm hs 4 rfl rfl rfl hC fun a hs => ?_
     have hs := hs.fix 24 (.bool false) rfl (vb h760)
     refine gs hs 5 rfl rfl rfl rfl hC fun a hs => ?_
     refine gs hs 6 rfl rfl rfl rfl hC fun a hs => ?_
     refine gs hs 7 rfl rfl rfl rfl hC fun a hs => ?_
     refine gs hs 8 rfl rfl rfl rfl hC fun a hs => ?_
     refine gs hs 9 rfl rfl rfl rfl hC fun a hs => ?_
     refine gs hs 10 rfl rfl rfl rfl hC fun a hs => ?_
     refine gs hs 11 rfl rfl rfl rfl hC fun a hs => ?_
     refine gs hs 12 rfl rfl rfl rfl hC fun a hs => ?_
     refine gs hs 13 rfl rfl rfl rfl hC fun a hs => ?_
     refine gs hs 14 rfl rfl rfl rfl hC fun a hs => ?_
     refine gv hs 15 rfl rfl hC (fun w hC => y_pickFE (v := .bool c758) rfl rfl (vbs h788)) fun a hs => ?_
     refine h_done (by kernel_rfl) ?_
     exact ⟨Sv695, (hs.wk rfl), (hw.ft [0, 1] [0, 1, 2] (by decide) rfl rfl)⟩
    rintro a w ⟨Sv759, hs, hw⟩
    refine then_normal ?_
    refine wp_cond_split (hs.ev rfl) (fun h790 => ?_) (fun h790 => ?_)
    ·have hsh := ite_t hsh h790
     refine wp_skip ?_
     refine then_normal ?_
     refine wp_block ?_
     refine wp_region_lit ?_
     refine mv hs rfl rfl fun a hs => ?_
     refine sv hs (y_add rfl rfl) rfl fun a hs => ?_
     obtain ⟨k794, h793, hsh⟩ := bind_t hsh
     refine sv hs (y_assignI rfl h793) rfl fun a hs => ?_
     refine wpList_nil ?_
     refine blk_normal ?_
     refine then_normal ?_
     exact ⟨_, (Option.some.inj hsh).symm, Sv759, (hs.wk rfl), (hw.ft [0, 1] [0, 1, 2] (by decide) rfl rfl)⟩
    have hsh := ite_f hsh h790
    refine wp_exit ?_
    refine then_exit ?_
    refine then_exit ?_
    refine blk_exit ?_
    have hsh := oi hsh
    subst hsh
    have h795 := hd727 _ rfl
    subst h795
    refine then_normal ?_
    exact ⟨Sv759, (hs.wk rfl), (hw.ft [0, 1] [0, 1, 2] (by decide) rfl rfl)⟩
   rintro a w ⟨Sv731, hs, hw⟩
   refine then_normal ?_
   obtain ⟨c822, hc822, hsh⟩ := bind_t hsh
   obtain ⟨x825, h823, hsh⟩ := bind_t hsh
   obtain ⟨b832, q829, c830, h833, h826, h827, h831, h824⟩ := hw.elemRV (α := Bool) 1 rfl 2 rfl h823
   have hsv834 := hs
   have hwv835 := hw
   subst h833
   have hs := hsv834
   have hw := hwv835
   obtain ⟨_, rfl, rfl⟩ := h824
   obtain ⟨l837, h836, hsh⟩ := bind_t hsh
   refine wp_only (fun a w => ∃ (Sv840 : Nat → Prop) (c838 : List Value), Sl 60 [(1, .slice p6 better5.length k7), (5, .slice p12 rv11.length k13), (6, .slice (some ⟨b832, 0, none⟩) l837.length k326), (7, .int .i64 e730), (16, .int .i64 (l22.length : Int)), (17, .int .i64 sv25.2.2)] a ∧ Wd ⟨w0, S0, []⟩ Sv840 [.row p12 rv11.length k13 c15 3 1, .row (some ⟨b832, 0, none⟩) l837.length k326 c838 4 1] [SlA p6 better5.length k7 better5, RowA c15 rv11, RowA c838 l837] w) ?_ ?_
   ·rcases Bool.eq_false_or_eq_true (e730 == (better5.length : Int)) with h841 | h841
    ·have h842 := ite_t hc822 h841
     refine h_b (C := Cls [.row p12 rv11.length k13 c15 3 1] []) (by kernel_rfl) rfl (hw.drew.cs [0] [] rfl rfl) fun hC => ?_
     have hw := hw.drew
     refine gm hs 0 rfl rfl rfl hC fun a hs => ?_
     refine gm hs 1 rfl rfl rfl hC fun a hs => ?_
     refine gm hs 2 rfl rfl rfl hC fun a hs => ?_
     refine gm hs 3 rfl rfl rfl hC fun a hs => ?_
     refine gv hs 4 rfl rfl hC (fun w hC => y_len Tryz.runUnderlying52 rfl) fun a hs => ?_
     refine gv hs 5 rfl rfl hC (fun w hC => y_eql rfl rfl) fun a hs => ?_
     refine gm hs 6 rfl rfl rfl hC fun a hs => ?_
     have hs := hs.fix 44 (.bool true) rfl (vb h841)
     refine gs hs 7 rfl rfl rfl rfl hC fun a hs => ?_
     refine gs hs 8 rfl rfl rfl rfl hC fun a hs => ?_
     refine gs hs 9 rfl rfl rfl rfl hC fun a hs => ?_
     refine gs hs 10 rfl rfl rfl rfl hC fun a hs => ?_
     refine gs hs 11 rfl rfl rfl rfl hC fun a hs => ?_
     refine gs hs 12 rfl rfl rfl rfl hC fun a hs => ?_
     refine gs hs 13 rfl rfl rfl rfl hC fun a hs => ?_
     refine gs hs 14 rfl rfl rfl rfl hC fun a hs => ?_
     refine gs hs 15 rfl rfl rfl rfl hC fun a hs => ?_
     refine gs hs 16 rfl rfl rfl rfl hC fun a hs => ?_
     refine gs hs 17 rfl rfl rfl rfl hC fun a hs => ?_
     refine gv hs 18 rfl rfl hC (fun w hC => y_pickTE (v := .bool c822) rfl rfl (vbs h842)) fun a hs => ?_
     refine gv hs 19 rfl rfl hC (fun w hC => y_indexAt Tryz.runUnderlying101 Tryz.sizeOf4 rfl rfl h826.1 h826.2 h827) fun a hs => ?_
     refine ho 20 rfl ?_
     refine w_storeF (α := Bool) hs hw 1 rfl 2 rfl h827 rfl rfl Tryz.sizeOf4 rfl h836 ⟨_, rfl, rfl⟩ trivial ?_
     intro c838 a w hs hw
     have h839 := setM_len h836
     try have hs := hs.fl 6 rfl h839
     try have hs := hs.fl 38 rfl h839
     refine h_nx (hw.cs [0] [] rfl rfl) fun hC => ?_
     refine h_done (by kernel_rfl) ?_
     exact ⟨Sv731, c838, (hs.wk rfl), (hw.ft [0, 1] [1, 2, 0] (by decide) rfl rfl)⟩
    have h843 := ite_f hc822 h841
    obtain ⟨x846, h844, h843⟩ := bind_t h843
    obtain ⟨b852, o853, q850, c851, h854, h847, h848, h849, h845⟩ := hw.elemV 0 rfl h844
    have hsv855 := hs
    have hwv856 := hw
    subst h854
    have hs := hsv855
    have hw := hwv856
    obtain ⟨_, _, rfl, rfl, rfl⟩ := h845
    have hw := hw.addE h849
    obtain ⟨x859, h857, h843⟩ := bind_t h843
    obtain ⟨b866, q863, c864, h867, h860, h861, h865, h858⟩ := hw.elemRV (α := Int) 0 rfl 2 rfl h857
    have hsv868 := hs
    have hwv869 := hw
    subst h867
    have hs := hsv868
    have hw := hwv869
    obtain ⟨_, rfl, rfl⟩ := h858
    refine h_b (C := Cls [.row (some ⟨b866, 0, none⟩) rv11.length k13 c15 3 1] [CeA b852 q850 [.int .i64 x846.From, .int .i64 x846.To]]) (by kernel_rfl) rfl (hw.drew.cs [0] [0] rfl rfl) fun hC => ?_
    have hw := hw.drew
    refine gm hs 0 rfl rfl rfl hC fun a hs => ?_
    refine gm hs 1 rfl rfl rfl hC fun a hs => ?_
    refine gm hs 2 rfl rfl rfl hC fun a hs => ?_
    refine gm hs 3 rfl rfl rfl hC fun a hs => ?_
    refine gv hs 4 rfl rfl hC (fun w hC => y_len Tryz.runUnderlying52 rfl) fun a hs => ?_
    refine gv hs 5 rfl rfl hC (fun w hC => y_eql rfl rfl) fun a hs => ?_
    refine gm hs 6 rfl rfl rfl hC fun a hs => ?_
    have hs := hs.fix 44 (.bool false) rfl (vb h841)
    refine gt hs 7 rfl ⟨_, rfl, rfl⟩ rfl hC (fun w hC => y_move rfl) fun a hs => ?_
    refine gt hs 8 rfl ⟨_, rfl, rfl⟩ rfl hC (fun w hC => y_move rfl) fun a hs => ?_
    refine gt hs 9 rfl ⟨_, rfl, rfl⟩ rfl hC (fun w hC => y_indexAt Tryz.runUnderlying52 Tryz.sizeOf45 rfl rfl h847.1 h847.2 h848) fun a hs => ?_
    refine gt hs 10 rfl ⟨_, rfl, rfl⟩ rfl hC (fun w hC => y_fieldAddr (o' := q850 + 0) Tryz.runUnderlying45 rfl Tryz.sizeOf3 rfl rfl rfl) fun a hs => ?_
    refine gt hs 11 rfl ⟨_, rfl, rfl⟩ rfl hC (fun w hC => y_loadE1 (j := 0) (hC.ceAt 0 rfl) rfl Tryz.isAgg3 rfl) fun a hs => ?_
    refine gt hs 12 rfl ⟨_, rfl, rfl⟩ rfl hC (fun w hC => y_move rfl) fun a hs => ?_
    refine gt hs 13 rfl ⟨_, rfl, rfl⟩ rfl hC (fun w hC => y_move rfl) fun a hs => ?_
    refine gt hs 14 rfl ⟨_, rfl, rfl⟩ rfl hC (fun w hC => y_add rfl rfl) fun a hs => ?_
    refine gt hs 15 rfl ⟨_, rfl, rfl⟩ rfl hC (fun w hC => y_indexAt Tryz.runUnderlying22 Tryz.sizeOf3 rfl rfl h860.1 h860.2 h861) fun a hs => ?_
    refine gt hs 16 rfl ⟨_, rfl, rfl⟩ rfl hC (fun w hC => y_loadQ1 (j := 0) (hC.ownAt 0 rfl) rfl Tryz.isAgg3 h865 rfl) fun a hs => ?_
    refine gt hs 17 rfl ⟨_, rfl, rfl⟩ rfl hC (fun w hC => y_geq rfl rfl) fun a hs => ?_
    refine gv hs 18 rfl rfl hC (fun w hC => y_pickFE (v := .bool c822) rfl rfl (vbs h843)) fun a hs => ?_
    refine gv hs 19 rfl rfl hC (fun w hC => y_indexAt Tryz.runUnderlying101 Tryz.sizeOf4 rfl rfl h826.1 h826.2 h827) fun a hs => ?_
    refine ho 20 rfl ?_
    refine w_storeF (α := Bool) hs hw 1 rfl 3 rfl h827 rfl rfl Tryz.sizeOf4 rfl h836 ⟨_, rfl, rfl⟩ trivial ?_
    intro c838 a w hs hw
    have h839 := setM_len h836
    try have hs := hs.fl 6 rfl h839
    try have hs := hs.fl 38 rfl h839
    refine h_nx (hw.cs [0] [1] rfl rfl) fun hC => ?_
    refine h_done (by kernel_rfl) ?_
    exact ⟨Sv731, c838, (hs.wk rfl), (hw.ft [0, 1] [2, 3, 0] (by decide) rfl rfl)⟩
   rintro a w ⟨Sv840, c838, hs, hw⟩
   refine blk_normal ?_
   refine then_normal ?_
   refine wp_region_lit ?_
   refine sv hs (y_add rfl rfl) rfl fun a hs => ?_
   refine mv hs rfl rfl fun a hs => ?_
   refine nl ?_
   exact ⟨_, (Option.some.inj hsh).symm, c838, (some ⟨b832, 0, none⟩), k326, Sv840, (hs.wk rfl), (hw.ft [0, 1] [0, 1, 2] (by decide) rfl rfl)⟩
  have hsh := ite_f hsh h484
  refine wp_exit ?_
  refine then_exit ?_
  refine then_exit ?_
  refine blk_exit ?_
  have hsh := oi hsh
  subst hsh
  have h871 := hd475 _ rfl
  subst h871
  refine then_normal ?_
  exact ⟨c324, p325, k326, Sv327, (hs.wk rfl), (hw.ft [1] [2] (by decide) rfl rfl)⟩
 rintro a w ⟨c479, p480, k481, Sv482, hs, hw⟩
 refine then_normal ?_
 refine sr ?_
 refine mv hs rfl rfl fun a hs => ?_
 refine av hs rfl rfl fun a hs => ?_
 refine nl ?_
 have hsh := oi hsh
 subst hsh
 refine wp_ret ?_
 exact ret1 hs rfl (rv_tmp rfl) (hw.ret ⟨p480, k481, c479, rfl, (hw.outs [0] (by decide) rfl), (hw.envAt 0 rfl)⟩)

abbrev record_sub_rd (w0 : World) (X : List Nat) (r : Record) : (Nat → Prop) → World → Value → Prop := fun S w v => ∃ (p0_11 : Option Addr) (k0_11 : Nat) (c0_11 : List Value), v = .agg #[.string r.Source.Network, .string r.Source.Station, .string r.Source.Location, .string r.Source.Channel, .int .i64 r.Start, .int .i64 r.First, .int .i64 r.Rate.Num, .int .i64 r.Rate.Den, .int .i64 r.Error, .int .i64 r.Run, .int .i64 r.Seq, .slice p0_11 r.Samples.length k0_11] ∧ Outs X w0 S w [.row p0_11 r.Samples.length k0_11 c0_11 3 1] ∧ (RowA c0_11 r.Samples).p S w
set_option maxHeartbeats 4000000 in
set_option maxRecDepth 100000 in
theorem record_sub_ok {w0 : World} {S0 : Nat → Prop} {p2 : Option Addr} {k3 : Nat} {r1 : Record} {from5 : Int} {to6 : Int} {r : Record} (hsh : record_sub r1 from5 to6 = some r) (hS : ∀ b, S0 b → b < w0.heap.size) (h4 : (SlA p2 r1.Samples.length k3 r1.Samples).p S0 w0) : Calls Tryz.prog 120 #[.agg #[.string r1.Source.Network, .string r1.Source.Station, .string r1.Source.Location, .string r1.Source.Channel, .int .i64 r1.Start, .int .i64 r1.First, .int .i64 r1.Rate.Num, .int .i64 r1.Rate.Den, .int .i64 r1.Error, .int .i64 r1.Run, .int .i64 r1.Seq, .slice p2 r1.Samples.length k3], .int .i64 from5, .int .i64 to6] w0 (Ret ([]) w0 S0 (record_sub_rd w0 ([]) r)) := by
 refine calls_of_wp Tryz.func120 rfl ?_
 have hs := Sl.enter #[.agg #[.string r1.Source.Network, .string r1.Source.Station, .string r1.Source.Location, .string r1.Source.Channel, .int .i64 r1.Start, .int .i64 r1.First, .int .i64 r1.Rate.Num, .int .i64 r1.Rate.Den, .int .i64 r1.Error, .int .i64 r1.Run, .int .i64 r1.Seq, .slice p2 r1.Samples.length k3], .int .i64 from5, .int .i64 to6] 20 [(0, .agg #[.string r1.Source.Network, .string r1.Source.Station, .string r1.Source.Location, .string r1.Source.Channel, .int .i64 r1.Start, .int .i64 r1.First, .int .i64 r1.Rate.Num, .int .i64 r1.Rate.Den, .int .i64 r1.Error, .int .i64 r1.Run, .int .i64 r1.Seq, .slice p2 r1.Samples.length k3]), (1, .int .i64 from5), (2, .int .i64 to6)] rfl ⟨rfl, rfl, rfl, trivial⟩
 have hw := Wd.enter (E := []) hS (fun _ h => (by cases h))
 have hw := hw.addE h4
 delta record_sub at hsh
 refine sr ?_
 refine w_box (cs := [.string r1.Source.Network, .string r1.Source.Station, .string r1.Source.Location, .string r1.Source.Channel, .int .i64 r1.Start, .int .i64 r1.First, .int .i64 r1.Rate.Num, .int .i64 r1.Rate.Den, .int .i64 r1.Error, .int .i64 r1.Run, .int .i64 r1.Seq, .slice p2 r1.Samples.length k3]) hs hw rfl rfl rfl trivial ?_
 intro b7 a w hs hw
 refine w_alloc (cs := [.string ByteArray.empty, .string ByteArray.empty, .string ByteArray.empty, .string ByteArray.empty, .int .i64 0, .int .i64 0, .int .i64 0, .int .i64 0, .int .i64 0, .int .i64 0, .int .i64 0, .slice none ([] : List Int).length 0]) hs hw Tryz.zeroValue35 rfl rfl trivial ?_
 intro b8 a w hs hw
 refine nl ?_
 refine sr ?_
 refine sv hs (y_fieldAddr (o' := 5) Tryz.runUnderlying35 rfl Tryz.sizeOf3 rfl rfl rfl) rfl fun a hs => ?_
 refine sv hs (y_loadB1 (hw.ownAt 1 rfl) rfl Tryz.isAgg3 rfl) rfl fun a hs => ?_
 refine mv hs rfl rfl fun a hs => ?_
 refine sv hs (y_add rfl rfl) rfl fun a hs => ?_
 refine sv hs (y_fieldAddr (o' := 5) Tryz.runUnderlying35 rfl Tryz.sizeOf3 rfl rfl rfl) rfl fun a hs => ?_
 refine w_store (m := 1) (cs' := [.string r1.Source.Network, .string r1.Source.Station, .string r1.Source.Location, .string r1.Source.Channel, .int .i64 r1.Start, .int .i64 (w64 (r1.First + from5)), .int .i64 r1.Rate.Num, .int .i64 r1.Rate.Den, .int .i64 r1.Error, .int .i64 r1.Run, .int .i64 r1.Seq, .slice p2 r1.Samples.length k3]) hs hw 1 rfl rfl rfl Tryz.sizeOf3 rfl rfl rfl rfl trivial ?_
 intro a w hs hw
 refine nl ?_
 refine sr ?_
 refine sv hs (y_fieldAddr (o' := 11) Tryz.runUnderlying35 rfl Tryz.sizeOf22 rfl rfl rfl) rfl fun a hs => ?_
 refine sv hs (y_loadB1 (hw.ownAt 1 rfl) rfl Tryz.isAgg22 rfl) rfl fun a hs => ?_
 refine mv hs rfl rfl fun a hs => ?_
 refine mv hs rfl rfl fun a hs => ?_
 obtain ⟨l14, h9, hsh⟩ := bind_t hsh
 obtain ⟨p12, k13, h10, h11⟩ := sub_env (hw.envAt 0 rfl) h9
 have hw := hw.addE h10
 refine sv hs (y_slc Tryz.runUnderlying22 Tryz.sizeOf3 rfl ⟨_, rfl⟩ ⟨_, rfl⟩ h11) rfl fun a hs => ?_
 obtain ⟨rv16, h15, hsh⟩ := bind_t hsh
 refine st_callR hs (slices_Clone_Lint_int_ok h15 hw.dom (hw.envAt 0 rfl)) (do_call Tryz.call93 rfl) trivial rfl rfl ?_
 intro v24 Sv21 w a h22 h23 hs
 obtain ⟨p17, k18, c20, rfl, h25, h19⟩ := h23
 have hw := hw.callN h22 h25
 have hw := hw.addE (e := RowA c20 rv16) h19
 refine sv hs (y_fieldAddr (o' := 11) Tryz.runUnderlying35 rfl Tryz.sizeOf22 rfl rfl rfl) rfl fun a hs => ?_
 refine w_store (m := 1) (cs' := [.string r1.Source.Network, .string r1.Source.Station, .string r1.Source.Location, .string r1.Source.Channel, .int .i64 r1.Start, .int .i64 (w64 (r1.First + from5)), .int .i64 r1.Rate.Num, .int .i64 r1.Rate.Den, .int .i64 r1.Error, .int .i64 r1.Run, .int .i64 r1.Seq, .slice p17 rv16.length k18]) hs hw 2 rfl rfl rfl Tryz.sizeOf22 rfl rfl rfl rfl trivial ?_
 intro a w hs hw
 refine nl ?_
 refine sr ?_
 refine sv hs (y_loadBA (hw.ownAt 2 rfl) rfl Tryz.isAgg35 Tryz.sizeOf35 rfl rfl) rfl fun a hs => ?_
 refine w_store (m := 12) (cs' := [.string r1.Source.Network, .string r1.Source.Station, .string r1.Source.Location, .string r1.Source.Channel, .int .i64 r1.Start, .int .i64 (w64 (r1.First + from5)), .int .i64 r1.Rate.Num, .int .i64 r1.Rate.Den, .int .i64 r1.Error, .int .i64 r1.Run, .int .i64 r1.Seq, .slice p17 rv16.length k18]) hs hw 1 rfl rfl rfl Tryz.sizeOf35 rfl rfl rfl rfl trivial ?_
 intro a w hs hw
 refine nl ?_
 have hsh := oi hsh
 subst hsh
 refine wp_ret ?_
 exact ret1 hs rfl (rv_cell hw 1 rfl rfl Tryz.isAgg35 Tryz.sizeOf35 rfl) (hw.ret ⟨p17, k18, c20, rfl, (hw.outs [0] (by decide) rfl), (hw.envAt 0 rfl)⟩)

abbrev record_Sub_rd (w0 : World) (X : List Nat) (r : (Record × Int)) : (Nat → Prop) → World → Value → Prop := fun S w v => ∃ (p0_11 : Option Addr) (k0_11 : Nat) (c0_11 : List Value), v = .tuple #[.agg #[.string r.1.Source.Network, .string r.1.Source.Station, .string r.1.Source.Location, .string r.1.Source.Channel, .int .i64 r.1.Start, .int .i64 r.1.First, .int .i64 r.1.Rate.Num, .int .i64 r.1.Rate.Den, .int .i64 r.1.Error, .int .i64 r.1.Run, .int .i64 r.1.Seq, .slice p0_11 r.1.Samples.length k0_11], .int .i64 r.2] ∧ Outs X w0 S w [.row p0_11 r.1.Samples.length k0_11 c0_11 3 1] ∧ (RowA c0_11 r.1.Samples).p S w
set_option maxHeartbeats 4000000 in
set_option maxRecDepth 100000 in
theorem record_Sub_ok {w0 : World} {S0 : Nat → Prop} {p2 : Option Addr} {k3 : Nat} {r1 : Record} {from5 : Int} {to6 : Int} {r : (Record × Int)} (hsh : record_Sub r1 from5 to6 = some r) (hS : ∀ b, S0 b → b < w0.heap.size) (h4 : (SlA p2 r1.Samples.length k3 r1.Samples).p S0 w0) : Calls Tryz.prog 100 #[.agg #[.string r1.Source.Network, .string r1.Source.Station, .string r1.Source.Location, .string r1.Source.Channel, .int .i64 r1.Start, .int .i64 r1.First, .int .i64 r1.Rate.Num, .int .i64 r1.Rate.Den, .int .i64 r1.Error, .int .i64 r1.Run, .int .i64 r1.Seq, .slice p2 r1.Samples.length k3], .int .i64 from5, .int .i64 to6] w0 (Ret ([]) w0 S0 (record_Sub_rd w0 ([]) r)) := by
 refine calls_of_wp Tryz.func100 rfl ?_
 have hs := Sl.enter #[.agg #[.string r1.Source.Network, .string r1.Source.Station, .string r1.Source.Location, .string r1.Source.Channel, .int .i64 r1.Start, .int .i64 r1.First, .int .i64 r1.Rate.Num, .int .i64 r1.Rate.Den, .int .i64 r1.Error, .int .i64 r1.Run, .int .i64 r1.Seq, .slice p2 r1.Samples.length k3], .int .i64 from5, .int .i64 to6] 31 [(0, .agg #[.string r1.Source.Network, .string r1.Source.Station, .string r1.Source.Location, .string r1.Source.Channel, .int .i64 r1.Start, .int .i64 r1.First, .int .i64 r1.Rate.Num, .int .i64 r1.Rate.Den, .int .i64 r1.Error, .int .i64 r1.Run, .int .i64 r1.Seq, .slice p2 r1.Samples.length k3]), (1, .int .i64 from5), (2, .int .i64 to6)] rfl ⟨rfl, rfl, rfl, trivial⟩
 have hw := Wd.enter (E := []) hS (fun _ h => (by cases h))
 have hw := hw.addE h4
 delta record_Sub at hsh
 refine sr ?_
 refine w_box (cs := [.string r1.Source.Network, .string r1.Source.Station, .string r1.Source.Location, .string r1.Source.Channel, .int .i64 r1.Start, .int .i64 r1.First, .int .i64 r1.Rate.Num, .int .i64 r1.Rate.Den, .int .i64 r1.Error, .int .i64 r1.Run, .int .i64 r1.Seq, .slice p2 r1.Samples.length k3]) hs hw rfl rfl rfl trivial ?_
 intro b7 a w hs hw
 refine w_alloc (cs := [.string ByteArray.empty, .string ByteArray.empty, .string ByteArray.empty, .string ByteArray.empty, .int .i64 0, .int .i64 0, .int .i64 0, .int .i64 0, .int .i64 0, .int .i64 0, .int .i64 0, .slice none ([] : List Int).length 0]) hs hw Tryz.zeroValue35 rfl rfl trivial ?_
 intro b8 a w hs hw
 refine av hs rfl rfl fun a hs => ?_
 refine nl ?_
 refine wp_seq ?_
 refine sr ?_
 refine sv hs (y_loadBA (hw.ownAt 1 rfl) rfl Tryz.isAgg35 Tryz.sizeOf35 rfl rfl) rfl fun a hs => ?_
 obtain ⟨rv10, h9, hsh⟩ := bind_t hsh
 refine st_callR hs (record_Valid_ok h9 hw.bdom (hw.bE 0 rfl)) (do_call Tryz.call91 rfl) trivial rfl rfl ?_
 intro v14 Sv11 w a h12 h13 hs
 subst h13
 have hw := hw.callB h12
 refine sv hs (y_not rfl) rfl fun a hs => ?_
 refine nl ?_
 refine wp_cond_split (hs.ev rfl) (fun h17 => ?_) (fun h17 => ?_)
 ·have hsh := ite_t hsh h17
  refine sr ?_
  refine sv hs (y_build (vs := []) Bld35 rfl rfl) rfl fun a hs => ?_
  refine w_store (m := 12) (cs' := [.string ByteArray.empty, .string ByteArray.empty, .string ByteArray.empty, .string ByteArray.empty, .int .i64 0, .int .i64 0, .int .i64 0, .int .i64 0, .int .i64 0, .int .i64 0, .int .i64 0, .slice none ([] : List Int).length 0]) hs hw 0 rfl rfl rfl Tryz.sizeOf35 rfl rfl rfl rfl trivial ?_
  intro a w hs hw
  refine av hs rfl rfl fun a hs => ?_
  refine nl ?_
  have hsh := oi hsh
  subst hsh
  have hw := hw.nilRow Int 3
  refine wp_ret ?_
  refine then_ret ?_
  exact ret2 hs rfl (rv_cell hw 1 rfl rfl Tryz.isAgg35 Tryz.sizeOf35 rfl) (rv_tmp rfl) (hw.ret ⟨none, 0, [], rfl, (hw.outs [0] (by decide) rfl), (hw.envAt 0 rfl)⟩)
 have hsh := ite_f hsh h17
 refine wp_skip ?_
 refine then_normal ?_
 refine wp_seq ?_
 refine sr ?_
 refine mv hs rfl rfl fun a hs => ?_
 refine sv hs (y_lss rfl rfl) rfl fun a hs => ?_
 refine mv hs rfl rfl fun a hs => ?_
 refine wpl_join 4 (fun a w1 => w = w1 ∧ Sl 31 [(1, .int .i64 from5), (2, .int .i64 to6), (3, .pointer (some ⟨b7, 0, none⟩)), (6, .pointer (some ⟨b8, 0, none⟩)), (18, .bool ((decide (from5 < 0)) || (decide (to6 ≤ from5))))] a) ?_ ?_
 ·rcases Bool.eq_false_or_eq_true (decide (from5 < 0)) with h18 | h18
  ·have hs := hs.fix 14 (.bool true) rfl (vb h18)
   refine st_skip hs rfl rfl rfl rfl rfl fun a hs => ?_
   refine st_skip hs rfl rfl rfl rfl rfl fun a hs => ?_
   refine st_skip hs rfl rfl rfl rfl rfl fun a hs => ?_
   refine sv hs (y_pickT rfl rfl) rfl fun a hs => ?_
   refine nl ?_
   exact ⟨rfl, (hs.fix 18 (.bool ((decide (from5 < 0)) || (decide (to6 ≤ from5)))) rfl (or_t h18)).weaken _ ⟨rfl, rfl, rfl, rfl, rfl, trivial⟩⟩
  have hs := hs.fix 14 (.bool false) rfl (vb h18)
  refine st_val hs (y_move rfl) ⟨_, rfl, rfl⟩ rfl rfl fun a hs => ?_
  refine st_val hs (y_move rfl) ⟨_, rfl, rfl⟩ rfl rfl fun a hs => ?_
  refine st_val hs (y_geq rfl rfl) ⟨_, rfl, rfl⟩ rfl rfl fun a hs => ?_
  refine sv hs (y_pickF rfl rfl) rfl fun a hs => ?_
  refine nl ?_
  exact ⟨rfl, (hs.fix 18 (.bool ((decide (from5 < 0)) || (decide (to6 ≤ from5)))) rfl (or_f h18)).weaken _ ⟨rfl, rfl, rfl, rfl, rfl, trivial⟩⟩
 rintro a w1 ⟨h34, hs⟩
 subst h34
 refine mv hs rfl rfl fun a hs => ?_
 refine wpl_join 6 (fun a w1 => w = w1 ∧ Sl 31 [(1, .int .i64 from5), (2, .int .i64 to6), (3, .pointer (some ⟨b7, 0, none⟩)), (6, .pointer (some ⟨b8, 0, none⟩)), (25, .bool (((decide (from5 < 0)) || (decide (to6 ≤ from5))) || (decide ((r1.Samples.length : Int) < to6))))] a) ?_ ?_
 ·rcases Bool.eq_false_or_eq_true ((decide (from5 < 0)) || (decide (to6 ≤ from5))) with h19 | h19
  ·have hs := hs.fix 19 (.bool true) rfl (vb h19)
   refine st_skip hs rfl rfl rfl rfl rfl fun a hs => ?_
   refine st_skip hs rfl rfl rfl rfl rfl fun a hs => ?_
   refine st_skip hs rfl rfl rfl rfl rfl fun a hs => ?_
   refine st_skip hs rfl rfl rfl rfl rfl fun a hs => ?_
   refine st_skip hs rfl rfl rfl rfl rfl fun a hs => ?_
   refine sv hs (y_pickT rfl rfl) rfl fun a hs => ?_
   refine nl ?_
   exact ⟨rfl, (hs.fix 25 (.bool (((decide (from5 < 0)) || (decide (to6 ≤ from5))) || (decide ((r1.Samples.length : Int) < to6)))) rfl (or_t h19)).weaken _ ⟨rfl, rfl, rfl, rfl, rfl, trivial⟩⟩
  have hs := hs.fix 19 (.bool false) rfl (vb h19)
  refine st_val hs (y_move rfl) ⟨_, rfl, rfl⟩ rfl rfl fun a hs => ?_
  refine st_val hs (y_fieldAddr (o' := 11) Tryz.runUnderlying35 rfl Tryz.sizeOf22 rfl rfl rfl) ⟨_, rfl, rfl⟩ rfl rfl fun a hs => ?_
  refine st_val hs (y_loadB1 (hw.ownAt 1 rfl) rfl Tryz.isAgg22 rfl) ⟨_, rfl, rfl⟩ rfl rfl fun a hs => ?_
  refine st_val hs (y_len Tryz.runUnderlying22 rfl) ⟨_, rfl, rfl⟩ rfl rfl fun a hs => ?_
  refine st_val hs (y_gtr rfl rfl) ⟨_, rfl, rfl⟩ rfl rfl fun a hs => ?_
  refine sv hs (y_pickF rfl rfl) rfl fun a hs => ?_
  refine nl ?_
  exact ⟨rfl, (hs.fix 25 (.bool (((decide (from5 < 0)) || (decide (to6 ≤ from5))) || (decide ((r1.Samples.length : Int) < to6)))) rfl (or_f h19)).weaken _ ⟨rfl, rfl, rfl, rfl, rfl, trivial⟩⟩
 rintro a w1 ⟨h33, hs⟩
 subst h33
 refine nl ?_
 refine wp_cond_split (hs.ev rfl) (fun h21 => ?_) (fun h21 => ?_)
 ·have hsh := ite_t hsh h21
  refine sr ?_
  refine sv hs (y_build (vs := []) Bld35 rfl rfl) rfl fun a hs => ?_
  refine w_store (m := 12) (cs' := [.string ByteArray.empty, .string ByteArray.empty, .string ByteArray.empty, .string ByteArray.empty, .int .i64 0, .int .i64 0, .int .i64 0, .int .i64 0, .int .i64 0, .int .i64 0, .int .i64 0, .slice none ([] : List Int).length 0]) hs hw 0 rfl rfl rfl Tryz.sizeOf35 rfl rfl rfl rfl trivial ?_
  intro a w hs hw
  refine av hs rfl rfl fun a hs => ?_
  refine nl ?_
  have hsh := oi hsh
  subst hsh
  have hw := hw.nilRow Int 3
  refine wp_ret ?_
  refine then_ret ?_
  exact ret2 hs rfl (rv_cell hw 1 rfl rfl Tryz.isAgg35 Tryz.sizeOf35 rfl) (rv_tmp rfl) (hw.ret ⟨none, 0, [], rfl, (hw.outs [0] (by decide) rfl), (hw.envAt 0 rfl)⟩)
 have hsh := ite_f hsh h21
 refine wp_skip ?_
 refine then_normal ?_
 refine sr ?_
 refine sv hs (y_loadBA (hw.ownAt 1 rfl) rfl Tryz.isAgg35 Tryz.sizeOf35 rfl rfl) rfl fun a hs => ?_
 refine mv hs rfl rfl fun a hs => ?_
 refine mv hs rfl rfl fun a hs => ?_
 obtain ⟨rv23, h22, hsh⟩ := bind_t hsh
 refine st_callR hs (record_sub_ok h22 hw.dom (hw.envAt 0 rfl)) (do_call Tryz.call120 rfl) trivial rfl rfl ?_
 intro v31 Sv28 w a h29 h30 hs
 obtain ⟨p24, k25, c27, rfl, h32, h26⟩ := h30
 have hw := hw.callN h29 h32
 have hw := hw.addE (e := RowA c27 rv23.Samples) h26
 refine w_store (m := 12) (cs' := [.string rv23.Source.Network, .string rv23.Source.Station, .string rv23.Source.Location, .string rv23.Source.Channel, .int .i64 rv23.Start, .int .i64 rv23.First, .int .i64 rv23.Rate.Num, .int .i64 rv23.Rate.Den, .int .i64 rv23.Error, .int .i64 rv23.Run, .int .i64 rv23.Seq, .slice p24 rv23.Samples.length k25]) hs hw 1 rfl rfl rfl Tryz.sizeOf35 rfl rfl rfl rfl trivial ?_
 intro a w hs hw
 refine av hs rfl rfl fun a hs => ?_
 refine nl ?_
 have hsh := oi hsh
 subst hsh
 refine wp_ret ?_
 exact ret2 hs rfl (rv_cell hw 1 rfl rfl Tryz.isAgg35 Tryz.sizeOf35 rfl) (rv_tmp rfl) (hw.ret ⟨p24, k25, c27, rfl, (hw.outs [0] (by decide) rfl), (hw.envAt 0 rfl)⟩)

abbrev compose_runs_rd (w0 : World) (X : List Nat) (r : (List Record)) : (Nat → Prop) → World → Value → Prop := fun S w v => ∃ (p0_0 : Option Addr) (k0_0 : Nat) (c0_0 : List Value), v = .slice p0_0 r.length k0_0 ∧ Outs X w0 S w [.row p0_0 r.length k0_0 c0_0 35 12] ∧ (RowA c0_0 r).p S w
set_option maxHeartbeats 4000000 in
set_option maxRecDepth 100000 in
theorem compose_runs_ok {w0 : World} {S0 : Nat → Prop} {p2 : Option Addr} {k3 : Nat} {p6 : Option Addr} {k7 : Nat} {r1 : Record} {keep5 : (List Bool)} {r : (List Record)} (hsh : compose_runs r1 keep5 = some r) (hS : ∀ b, S0 b → b < w0.heap.size) (h4 : (SlA p2 r1.Samples.length k3 r1.Samples).p S0 w0) (h8 : (SlA p6 keep5.length k7 keep5).p S0 w0) : Calls Tryz.prog 72 #[.agg #[.string r1.Source.Network, .string r1.Source.Station, .string r1.Source.Location, .string r1.Source.Channel, .int .i64 r1.Start, .int .i64 r1.First, .int .i64 r1.Rate.Num, .int .i64 r1.Rate.Den, .int .i64 r1.Error, .int .i64 r1.Run, .int .i64 r1.Seq, .slice p2 r1.Samples.length k3], .slice p6 keep5.length k7] w0 (Ret ([]) w0 S0 (compose_runs_rd w0 ([]) r)) := by
 refine calls_of_wp Tryz.func72 rfl ?_
 have hs := Sl.enter #[.agg #[.string r1.Source.Network, .string r1.Source.Station, .string r1.Source.Location, .string r1.Source.Channel, .int .i64 r1.Start, .int .i64 r1.First, .int .i64 r1.Rate.Num, .int .i64 r1.Rate.Den, .int .i64 r1.Error, .int .i64 r1.Run, .int .i64 r1.Seq, .slice p2 r1.Samples.length k3], .slice p6 keep5.length k7] 45 [(0, .agg #[.string r1.Source.Network, .string r1.Source.Station, .string r1.Source.Location, .string r1.Source.Channel, .int .i64 r1.Start, .int .i64 r1.First, .int .i64 r1.Rate.Num, .int .i64 r1.Rate.Den, .int .i64 r1.Error, .int .i64 r1.Run, .int .i64 r1.Seq, .slice p2 r1.Samples.length k3]), (1, .slice p6 keep5.length k7)] rfl ⟨rfl, rfl, trivial⟩
 have hw := Wd.enter (E := []) hS (fun _ h => (by cases h))
 have hw := hw.addE h4
 have hw := hw.addE h8
 delta compose_runs at hsh
 refine sr ?_
 refine w_box (cs := [.string r1.Source.Network, .string r1.Source.Station, .string r1.Source.Location, .string r1.Source.Channel, .int .i64 r1.Start, .int .i64 r1.First, .int .i64 r1.Rate.Num, .int .i64 r1.Rate.Den, .int .i64 r1.Error, .int .i64 r1.Run, .int .i64 r1.Seq, .slice p2 r1.Samples.length k3]) hs hw rfl rfl rfl trivial ?_
 intro b9 a w hs hw
 refine av hs rfl rfl fun a hs => ?_
 refine nl ?_
 refine sr ?_
 refine av hs rfl rfl fun a hs => ?_
 refine nl ?_
 refine wp_seq ?_
 refine sr ?_
 refine av hs rfl rfl fun a hs => ?_
 refine nl ?_
 obtain ⟨e424, h754, hsh⟩ := bind_t hsh
 refine wp_join (fun a w => ∃ (c425 : List Value) (p426 : Option Addr) (k427 : Nat) (Sv428 : Nat → Prop), Sl 45 [(5, .slice p426 e424.length k427)] a ∧ Wd ⟨w0, S0, []⟩ Sv428 [.row p426 e424.length k427 c425 35 12] [RowA c425 e424] w) ?_ ?_
 ·refine wp_block ?_
  have hw := hw.nilRow Record 35
  refine wp_while (fun sv10 a w => ∃ (c283 : List Value) (p284 : Option Addr) (k285 : Nat) (Sv286 : Nat → Prop), Sl 45 [(1, .slice p6 keep5.length k7), (2, .pointer (some ⟨b9, 0, none⟩)), (5, .slice p284 sv10.1.length k285), (6, .int .i64 sv10.2)] a ∧ Wd ⟨w0, S0, []⟩ Sv286 [.box b9 [.string r1.Source.Network, .string r1.Source.Station, .string r1.Source.Location, .string r1.Source.Channel, .int .i64 r1.Start, .int .i64 r1.First, .int .i64 r1.Rate.Num, .int .i64 r1.Rate.Den, .int .i64 r1.Error, .int .i64 r1.Run, .int .i64 r1.Seq, .slice p2 r1.Samples.length k3] 35, .row p284 sv10.1.length k285 c283 35 12] [SlA p6 keep5.length k7 keep5, SlA p2 r1.Samples.length k3 r1.Samples, RowA c283 sv10.1] w) (([] : List Record), 0) h754 ⟨[], none, 0, S0, (hs.wk rfl), (hw.ft [1, 0] [1, 2, 0] (by decide) rfl rfl)⟩ ?_
  clear h754
  repeat clear hsh
  rintro sv10 a w tv422 ⟨c283, p284, k285, Sv286, hs, hw⟩ hsh hd421
  delta compose_runs_l3 at hsh
  refine wp_seq ?_
  refine sr ?_
  refine mv hs rfl rfl fun a hs => ?_
  refine mv hs rfl rfl fun a hs => ?_
  refine sv hs (y_len Tryz.runUnderlying101 rfl) rfl fun a hs => ?_
  refine sv hs (y_lss rfl rfl) rfl fun a hs => ?_
  refine nl ?_
  refine wp_cond_split (hs.ev rfl) (fun h430 => ?_) (fun h430 => ?_)
  ·have hsh := ite_t hsh h430
   refine wp_skip ?_
   refine then_normal ?_
   refine wp_seq ?_
   refine wp_block ?_
   refine sr ?_
   refine mv hs rfl rfl fun a hs => ?_
   refine av hs rfl rfl fun a hs => ?_
   refine nl ?_
   refine wp_seq ?_
   obtain ⟨e664, h752, hsh⟩ := bind_t hsh
   refine wp_join (fun a w => ∃ (Sv665 : Nat → Prop), Sl 45 [(1, .slice p6 keep5.length k7), (2, .pointer (some ⟨b9, 0, none⟩)), (5, .slice p284 sv10.1.length k285), (6, .int .i64 sv10.2), (7, .int .i64 e664)] a ∧ Wd ⟨w0, S0, []⟩ Sv665 [.box b9 [.string r1.Source.Network, .string r1.Source.Station, .string r1.Source.Location, .string r1.Source.Channel, .int .i64 r1.Start, .int .i64 r1.First, .int .i64 r1.Rate.Num, .int .i64 r1.Rate.Den, .int .i64 r1.Error, .int .i64 r1.Run, .int .i64 r1.Seq, .slice p2 r1.Samples.length k3] 35, .row p284 sv10.1.length k285 c283 35 12] [SlA p6 keep5.length k7 keep5, SlA p2 r1.Samples.length k3 r1.Samples, RowA c283 sv10.1] w) ?_ ?_
   ·refine wp_block ?_
    refine wp_while (fun sv562 a w => ∃ (Sv628 : Nat → Prop), Sl 45 [(1, .slice p6 keep5.length k7), (2, .pointer (some ⟨b9, 0, none⟩)), (5, .slice p284 sv10.1.length k285), (6, .int .i64 sv10.2), (7, .int .i64 sv562)] a ∧ Wd ⟨w0, S0, []⟩ Sv628 [.box b9 [.string r1.Source.Network, .string r1.Source.Station, .string r1.Source.Location, .string r1.Source.Channel, .int .i64 r1.Start, .int .i64 r1.First, .int .i64 r1.Rate.Num, .int .i64 r1.Rate.Den, .int .i64 r1.Error, .int .i64 r1.Run, .int .i64 r1.Seq, .slice p2 r1.Samples.length k3] 35, .row p284 sv10.1.length k285 c283 35 12] [SlA p6 keep5.length k7 keep5, SlA p2 r1.Samples.length k3 r1.Samples, RowA c283 sv10.1] w) sv10.2 h752 ⟨Sv286, (hs.wk rfl), (hw.ft [0, 1] [0, 1, 2] (by decide) rfl rfl)⟩ ?_
    clear h752
    repeat clear hsh
    rintro sv562 a w tv662 ⟨Sv628, hs, hw⟩ hsh hd661
    delta compose_runs_l6 at hsh
    refine wp_seq ?_
    refine sr ?_
    refine mv hs rfl rfl fun a hs => ?_
    refine mv hs rfl rfl fun a hs => ?_
    refine sv hs (y_len Tryz.runUnderlying101 rfl) rfl fun a hs => ?_
    refine sv hs (y_lss rfl rfl) rfl fun a hs => ?_
    refine mv hs rfl rfl fun a hs => ?_
    obtain ⟨c680, hc680, hsh⟩ := bind_t hsh
    refine wpl_join 5 (fun a w => ∃ (Sv681 : Nat → Prop), Sl 45 [(1, .slice p6 keep5.length k7), (2, .pointer (some ⟨b9, 0, none⟩)), (5, .slice p284 sv10.1.length k285), (6, .int .i64 sv10.2), (7, .int .i64 sv562), (26, .bool c680)] a ∧ Wd ⟨w0, S0, []⟩ Sv681 [.box b9 [.string r1.Source.Network, .string r1.Source.Station, .string r1.Source.Location, .string r1.Source.Channel, .int .i64 r1.Start, .int .i64 r1.First, .int .i64 r1.Rate.Num, .int .i64 r1.Rate.Den, .int .i64 r1.Error, .int .i64 r1.Run, .int .i64 r1.Seq, .slice p2 r1.Samples.length k3] 35, .row p284 sv10.1.length k285 c283 35 12] [SlA p6 keep5.length k7 keep5, SlA p2 r1.Samples.length k3 r1.Samples, RowA c283 sv10.1] w) ?_ ?_
    ·rcases Bool.eq_false_or_eq_true (decide (sv562 < (keep5.length : Int))) with h679 | h679
     ·have hs := hs.fix 21 (.bool true) rfl (vb h679)
      have hsh := ite_t hc680 h679
      refine st_val hs (y_move rfl) ⟨_, rfl, rfl⟩ rfl rfl fun a hs => ?_
      refine st_val hs (y_move rfl) ⟨_, rfl, rfl⟩ rfl rfl fun a hs => ?_
      obtain ⟨x684, h682, hsh⟩ := bind_t hsh
      obtain ⟨b690, o691, q688, c689, h692, h685, h686, h687, h683⟩ := hw.elemV 0 rfl h682
      have hsv693 := hs
      have hwv694 := hw
      subst h692
      have hs := hsv693
      have hw := hwv694
      obtain ⟨_, rfl, rfl⟩ := h683
      have hw := hw.addE h687
      refine st_val hs (y_indexAt Tryz.runUnderlying101 Tryz.sizeOf4 rfl rfl h685.1 h685.2 h686) ⟨_, rfl, rfl⟩ rfl rfl fun a hs => ?_
      refine st_val hs (y_loadE1 (j := 0) (hw.ceAt 0 rfl) rfl Tryz.isAgg4 rfl) ⟨_, rfl, rfl⟩ rfl rfl fun a hs => ?_
      refine sv hs (y_pickT rfl rfl) rfl fun a hs => ?_
      refine wpList_nil ?_
      have hsh := oi hsh
      subst hsh
      refine then_normal ?_
      exact ⟨Sv628, (hs.wk rfl), (hw.ft [0, 1] [1, 2, 3] (by decide) rfl rfl)⟩
     have hs := hs.fix 21 (.bool false) rfl (vb h679)
     have hsh := ite_f hc680 h679
     refine st_skip hs rfl rfl rfl rfl rfl fun a hs => ?_
     refine st_skip hs rfl rfl rfl rfl rfl fun a hs => ?_
     refine st_skip hs rfl rfl rfl rfl rfl fun a hs => ?_
     refine st_skip hs rfl rfl rfl rfl rfl fun a hs => ?_
     refine sv hs (y_pickF rfl rfl) rfl fun a hs => ?_
     refine wpList_nil ?_
     have hsh := oi hsh
     subst hsh
     refine then_normal ?_
     exact ⟨Sv628, (hs.wk rfl), (hw.ft [0, 1] [0, 1, 2] (by decide) rfl rfl)⟩
    rintro a w ⟨Sv681, hs, hw⟩
    refine nl ?_
    refine wp_cond_split (hs.ev rfl) (fun h696 => ?_) (fun h696 => ?_)
    ·have hsh := ite_t hsh h696
     refine wp_skip ?_
     refine then_normal ?_
     refine wp_block ?_
     refine wp_region_lit ?_
     refine mv hs rfl rfl fun a hs => ?_
     refine sv hs (y_add rfl rfl) rfl fun a hs => ?_
     obtain ⟨to700, h699, hsh⟩ := bind_t hsh
     refine sv hs (y_assignI rfl h699) rfl fun a hs => ?_
     refine wpList_nil ?_
     refine blk_normal ?_
     refine then_normal ?_
     exact ⟨_, (Option.some.inj hsh).symm, Sv681, (hs.wk rfl), (hw.ft [0, 1] [0, 1, 2] (by decide) rfl rfl)⟩
    have hsh := ite_f hsh h696
    refine wp_exit ?_
    refine then_exit ?_
    refine then_exit ?_
    refine blk_exit ?_
    have hsh := oi hsh
    subst hsh
    have h701 := hd661 _ rfl
    subst h701
    refine then_normal ?_
    exact ⟨Sv681, (hs.wk rfl), (hw.ft [0, 1] [0, 1, 2] (by decide) rfl rfl)⟩
   rintro a w ⟨Sv665, hs, hw⟩
   refine then_normal ?_
   refine sr ?_
   refine mv hs rfl rfl fun a hs => ?_
   refine mv hs rfl rfl fun a hs => ?_
   refine sv hs (y_lss rfl rfl) rfl fun a hs => ?_
   refine nl ?_
   refine wp_join (fun a w => ∃ (out727 : (List Record)) (fromv728 : Int) (c723 : List Value) (p724 : Option Addr) (k725 : Nat) (Sv726 : Nat → Prop), compose_runs_j2 out727 fromv728 = some tv422 ∧ Sl 45 [(1, .slice p6 keep5.length k7), (2, .pointer (some ⟨b9, 0, none⟩)), (5, .slice p724 out727.length k725), (6, .int .i64 fromv728)] a ∧ Wd ⟨w0, S0, []⟩ Sv726 [.box b9 [.string r1.Source.Network, .string r1.Source.Station, .string r1.Source.Location, .string r1.Source.Channel, .int .i64 r1.Start, .int .i64 r1.First, .int .i64 r1.Rate.Num, .int .i64 r1.Rate.Den, .int .i64 r1.Error, .int .i64 r1.Run, .int .i64 r1.Seq, .slice p2 r1.Samples.length k3] 35, .row p724 out727.length k725 c723 35 12] [SlA p6 keep5.length k7 keep5, SlA p2 r1.Samples.length k3 r1.Samples, RowA c723 out727] w) ?_ ?_
   ·refine wp_cond_split (hs.ev rfl) (fun h731 => ?_) (fun h731 => ?_)
    ·have hsh := ite_t hsh h731
     refine sr ?_
     refine sv hs (y_loadBA (hw.ownAt 0 rfl) rfl Tryz.isAgg35 Tryz.sizeOf35 rfl rfl) rfl fun a hs => ?_
     refine mv hs rfl rfl fun a hs => ?_
     refine mv hs rfl rfl fun a hs => ?_
     obtain ⟨rv733, h732, hsh⟩ := bind_t hsh
     refine st_callR hs (record_Sub_ok h732 hw.dom (hw.envAt 1 rfl)) (do_call Tryz.call100 rfl) trivial rfl rfl ?_
     intro v741 Sv738 w a h739 h740 hs
     obtain ⟨p734, k735, c737, rfl, h742, h736⟩ := h740
     have hw := hw.callN h739 h742
     have hw := hw.addE (e := RowA c737 rv733.1.Samples) h736
     refine mv hs rfl rfl fun a hs => ?_
     refine sv hs (y_extract rfl rfl) rfl fun a hs => ?_
     refine sv hs (y_extract rfl rfl) rfl fun a hs => ?_
     refine w_alloc (cs := [.string ByteArray.empty, .string ByteArray.empty, .string ByteArray.empty, .string ByteArray.empty, .int .i64 0, .int .i64 0, .int .i64 0, .int .i64 0, .int .i64 0, .int .i64 0, .int .i64 0, .slice none ([] : List Int).length 0]) hs hw Tryz.zeroValue35 rfl rfl trivial ?_
     intro b743 a w hs hw
     refine w_store (m := 12) (cs' := [.string rv733.1.Source.Network, .string rv733.1.Source.Station, .string rv733.1.Source.Location, .string rv733.1.Source.Channel, .int .i64 rv733.1.Start, .int .i64 rv733.1.First, .int .i64 rv733.1.Rate.Num, .int .i64 rv733.1.Rate.Den, .int .i64 rv733.1.Error, .int .i64 rv733.1.Run, .int .i64 rv733.1.Seq, .slice p734 rv733.1.Samples.length k735]) hs hw 0 rfl rfl rfl Tryz.sizeOf35 rfl rfl rfl rfl trivial ?_
     intro a w hs hw
     refine av hs rfl rfl fun a hs => ?_
     refine nl ?_
     refine wp_region_lit ?_
     refine mv hs rfl rfl fun a hs => ?_
     refine sv hs (y_loadBA (hw.ownAt 0 rfl) rfl Tryz.isAgg35 Tryz.sizeOf35 rfl rfl) rfl fun a hs => ?_
     obtain ⟨Sv746, hw⟩ := w_share (α := Int) hw 1 rfl 0 rfl
     refine w_litSlice (α := Record) (vs := [.agg #[.string rv733.1.Source.Network, .string rv733.1.Source.Station, .string rv733.1.Source.Location, .string rv733.1.Source.Channel, .int .i64 rv733.1.Start, .int .i64 rv733.1.First, .int .i64 rv733.1.Rate.Num, .int .i64 rv733.1.Rate.Den, .int .i64 rv733.1.Error, .int .i64 rv733.1.Run, .int .i64 rv733.1.Seq, .slice p734 rv733.1.Samples.length k735]]) (cs := [.string rv733.1.Source.Network, .string rv733.1.Source.Station, .string rv733.1.Source.Location, .string rv733.1.Source.Channel, .int .i64 rv733.1.Start, .int .i64 rv733.1.First, .int .i64 rv733.1.Rate.Num, .int .i64 rv733.1.Rate.Den, .int .i64 rv733.1.Error, .int .i64 rv733.1.Run, .int .i64 rv733.1.Seq, .slice p734 rv733.1.Samples.length k735]) (xs := ([rv733.1] : List Record)) hs hw El27 rfl rfl rfl rfl rfl rfl ⟨⟨_, _, _, _, _, _, _, _, _, _, _, _, rfl, rfl, rfl, rfl, rfl, rfl, rfl, rfl, rfl, rfl, rfl, rfl, ⟨_, _, _, rfl, hw.envAt 0 rfl⟩⟩, rfl⟩ rfl trivial rfl fun b745 a w hs hw => ?_
     obtain ⟨l748, h747, hsh⟩ := bind_t hsh
     refine w_appendR (α := Record) hs hw El27 3 rfl rfl rfl 5 rfl 0 rfl 0 rfl h747 rfl trivial ?_
     intro p749 k750 c751 a w hs hw
     refine mv hs rfl rfl fun a hs => ?_
     refine av hs rfl rfl fun a hs => ?_
     refine av hs rfl rfl fun a hs => ?_
     refine nl ?_
     exact ⟨l748, e664, c751, p749, k750, Sv746, hsh, (hs.wk rfl), (hw.ft [2, 3] [4, 5, 0] (by decide) rfl rfl)⟩
    have hsh := ite_f hsh h731
    refine wp_skip ?_
    refine then_normal ?_
    exact ⟨sv10.1, sv10.2, c283, p284, k285, Sv665, hsh, (hs.wk rfl), (hw.ft [0, 1] [0, 1, 2] (by decide) rfl rfl)⟩
   rintro a w ⟨out727, fromv728, c723, p724, k725, Sv726, hsh, hs, hw⟩
   delta compose_runs_j2 at hsh
   refine blk_normal ?_
   refine then_normal ?_
   refine wp_region_lit ?_
   refine mv hs rfl rfl fun a hs => ?_
   refine sv hs (y_add rfl rfl) rfl fun a hs => ?_
   obtain ⟨fromv730, h729, hsh⟩ := bind_t hsh
   refine sv hs (y_assignI rfl h729) rfl fun a hs => ?_
   refine nl ?_
   exact ⟨_, (Option.some.inj hsh).symm, c723, p724, k725, Sv726, (hs.wk rfl), (hw.ft [0, 1] [0, 1, 2] (by decide) rfl rfl)⟩
  have hsh := ite_f hsh h430
  refine wp_exit ?_
  refine then_exit ?_
  refine then_exit ?_
  refine blk_exit ?_
  have hsh := oi hsh
  subst hsh
  have h753 := hd421 _ rfl
  subst h753
  refine then_normal ?_
  exact ⟨c283, p284, k285, Sv286, (hs.wk rfl), (hw.ft [1] [2] (by decide) rfl rfl)⟩
 rintro a w ⟨c425, p426, k427, Sv428, hs, hw⟩
 refine then_normal ?_
 refine sr ?_
 refine mv hs rfl rfl fun a hs => ?_
 refine av hs rfl rfl fun a hs => ?_
 refine nl ?_
 have hsh := oi hsh
 subst hsh
 refine wp_ret ?_
 exact ret1 hs rfl (rv_tmp rfl) (hw.ret ⟨p426, k427, c425, rfl, (hw.outs [0] (by decide) rfl), (hw.envAt 0 rfl)⟩)

abbrev compose_compose_rd (w0 : World) (X : List Nat) (r : (List Record)) : (Nat → Prop) → World → Value → Prop := fun S w v => ∃ (p0_0 : Option Addr) (k0_0 : Nat) (c0_0 : List Value), v = .slice p0_0 r.length k0_0 ∧ Outs X w0 S w [.row p0_0 r.length k0_0 c0_0 35 12] ∧ (RowA c0_0 r).p S w
set_option maxHeartbeats 4000000 in
set_option maxRecDepth 100000 in
theorem compose_compose_ok {w0 : World} {S0 : Nat → Prop} {p2 : Option Addr} {k3 : Nat} {l1 : (List Record)} {r : (List Record)} (hsh : compose_compose l1 = some r) (hS : ∀ b, S0 b → b < w0.heap.size) (h4 : (SlA p2 l1.length k3 l1).p S0 w0) : Calls Tryz.prog 49 #[.slice p2 l1.length k3] w0 (Ret ([]) w0 S0 (compose_compose_rd w0 ([]) r)) := by
 refine calls_of_wp Tryz.func49 rfl ?_
 have hs := Sl.enter #[.slice p2 l1.length k3] 45 [(0, .slice p2 l1.length k3)] rfl ⟨rfl, trivial⟩
 have hw := Wd.enter (E := []) hS (fun _ h => (by cases h))
 have hw := hw.addE h4
 delta compose_compose at hsh
 refine sr ?_
 refine av hs rfl rfl fun a hs => ?_
 refine nl ?_
 refine sr ?_
 refine mv hs rfl rfl fun a hs => ?_
 obtain ⟨rv6, h5, hsh⟩ := bind_t hsh
 refine st_callR hs (compose_order_ok h5 hw.dom (hw.envAt 0 rfl)) (do_call Tryz.call62 rfl) trivial rfl rfl ?_
 intro v14 Sv11 w a h12 h13 hs
 obtain ⟨p7, k8, c10, rfl, h15, h9⟩ := h13
 have hw := hw.callN h12 h15
 have hw := hw.addE (e := RowA c10 rv6) h9
 refine av hs rfl rfl fun a hs => ?_
 refine nl ?_
 refine sr ?_
 refine av hs rfl rfl fun a hs => ?_
 refine nl ?_
 refine wp_seq ?_
 refine sr ?_
 refine mv hs rfl rfl fun a hs => ?_
 refine sv hs (y_len Tryz.runUnderlying27 rfl) rfl fun a hs => ?_
 refine mv hs rfl rfl fun a hs => ?_
 refine nl ?_
 obtain ⟨e586, h1095, hsh⟩ := bind_t hsh
 refine wp_join (fun a w => ∃ (c587 : List Value) (p588 : Option Addr) (k589 : Nat) (Sv590 : Nat → Prop), Sl 45 [(4, .slice p588 e586.length k589)] a ∧ Wd ⟨w0, S0, []⟩ Sv590 [.row p588 e586.length k589 c587 35 12] [RowA c587 e586] w) ?_ ?_
 ·refine wp_block ?_
  have hw := hw.nilRow Record 35
  refine wp_while (fun sv16 a w => ∃ (c393 : List Value) (p394 : Option Addr) (k395 : Nat) (Sv396 : Nat → Prop), Sl 45 [(3, .slice p7 rv6.length k8), (4, .slice p394 sv16.1.length k395), (12, .slice p7 rv6.length k8), (13, .int .i64 (rv6.length : Int)), (14, .int .i64 sv16.2)] a ∧ Wd ⟨w0, S0, []⟩ Sv396 [.row p7 rv6.length k8 c10 35 12, .row p394 sv16.1.length k395 c393 35 12] [RowA c10 rv6, RowA c393 sv16.1] w) (([] : List Record), 0) h1095 ⟨[], none, 0, Sv11, (hs.wk rfl), (hw.ft [1, 0] [1, 0] (by decide) rfl rfl)⟩ ?_
  clear h1095
  repeat clear hsh
  rintro sv16 a w tv584 ⟨c393, p394, k395, Sv396, hs, hw⟩ hsh hd583
  delta compose_compose_l3 at hsh
  refine sr ?_
  refine sv hs (y_lss rfl rfl) rfl fun a hs => ?_
  refine nl ?_
  refine wp_seq ?_
  refine wp_cond_split (hs.ev rfl) (fun h592 => ?_) (fun h592 => ?_)
  ·have hsh := ite_t hsh h592
   refine wp_skip ?_
   refine then_normal ?_
   refine wp_seq ?_
   refine wp_block ?_
   refine sr ?_
   obtain ⟨x780, h778, hsh⟩ := bind_t hsh
   obtain ⟨b787, q784, c785, h788, h781, h782, h786, h779⟩ := hw.elemRV (α := Record) 0 rfl 0 rfl h778
   have hsv789 := hs
   have hwv790 := hw
   subst h788
   have hs := hsv789
   have hw := hwv790
   obtain ⟨_, _, _, _, _, _, _, _, _, _, _, _, rfl, rfl, rfl, rfl, rfl, rfl, rfl, rfl, rfl, rfl, rfl, rfl, ⟨p791, n792, k793, rfl, h794⟩⟩ := h779
   obtain rfl := h794.1
   have hw := hw.addE (e := SlA p791 _ k793 x780.Samples) h794
   refine sv hs (y_indexAt Tryz.runUnderlying27 Tryz.sizeOf35 rfl rfl h781.1 h781.2 h782) rfl fun a hs => ?_
   refine sv hs (y_loadQA (j := 0) (hw.ownAt 0 rfl) rfl Tryz.isAgg35 Tryz.sizeOf35 h786 rfl rfl) rfl fun a hs => ?_
   refine w_alloc (cs := [.string ByteArray.empty, .string ByteArray.empty, .string ByteArray.empty, .string ByteArray.empty, .int .i64 0, .int .i64 0, .int .i64 0, .int .i64 0, .int .i64 0, .int .i64 0, .int .i64 0, .slice none ([] : List Int).length 0]) hs hw Tryz.zeroValue35 rfl rfl trivial ?_
   intro b795 a w hs hw
   refine w_store (m := 12) (cs' := [.string x780.Source.Network, .string x780.Source.Station, .string x780.Source.Location, .string x780.Source.Channel, .int .i64 x780.Start, .int .i64 x780.First, .int .i64 x780.Rate.Num, .int .i64 x780.Rate.Den, .int .i64 x780.Error, .int .i64 x780.Run, .int .i64 x780.Seq, .slice p791 x780.Samples.length k793]) hs hw 0 rfl rfl rfl Tryz.sizeOf35 rfl rfl rfl rfl trivial ?_
   intro a w hs hw
   refine nl ?_
   refine sr ?_
   refine av hs rfl rfl fun a hs => ?_
   refine nl ?_
   refine wp_seq ?_
   refine sr ?_
   refine mv hs rfl rfl fun a hs => ?_
   refine sv hs (y_len Tryz.runUnderlying27 rfl) rfl fun a hs => ?_
   refine mv hs rfl rfl fun a hs => ?_
   refine nl ?_
   obtain ⟨e934, h1081, hsh⟩ := bind_t hsh
   refine wp_join (fun a w => ∃ (c935 : List Value) (p936 : Option Addr) (k937 : Nat) (Sv938 : Nat → Prop), Sl 45 [(3, .slice (some ⟨b787, 0, none⟩) rv6.length k8), (4, .slice p394 sv16.1.length k395), (6, .pointer (some ⟨b795, 0, none⟩)), (7, .slice p936 e934.length k937), (12, .slice (some ⟨b787, 0, none⟩) rv6.length k8), (13, .int .i64 (rv6.length : Int)), (14, .int .i64 sv16.2)] a ∧ Wd ⟨w0, S0, []⟩ Sv938 [.box b795 [.string x780.Source.Network, .string x780.Source.Station, .string x780.Source.Location, .string x780.Source.Channel, .int .i64 x780.Start, .int .i64 x780.First, .int .i64 x780.Rate.Num, .int .i64 x780.Rate.Den, .int .i64 x780.Error, .int .i64 x780.Run, .int .i64 x780.Seq, .slice p791 x780.Samples.length k793] 35, .row (some ⟨b787, 0, none⟩) rv6.length k8 c10 35 12, .row p394 sv16.1.length k395 c393 35 12, .row p936 e934.length k937 c935 45 2] [SlA p791 x780.Samples.length k793 x780.Samples, RowA c10 rv6, RowA c393 sv16.1, RowA c935 e934] w) ?_ ?_
   ·refine wp_block ?_
    have hw := hw.nilRow Span 45
    refine wp_while (fun sv796 a w => ∃ (c885 : List Value) (p886 : Option Addr) (k887 : Nat) (Sv888 : Nat → Prop), Sl 45 [(3, .slice (some ⟨b787, 0, none⟩) rv6.length k8), (4, .slice p394 sv16.1.length k395), (6, .pointer (some ⟨b795, 0, none⟩)), (7, .slice p886 sv796.1.length k887), (12, .slice (some ⟨b787, 0, none⟩) rv6.length k8), (13, .int .i64 (rv6.length : Int)), (14, .int .i64 sv16.2), (18, .slice (some ⟨b787, 0, none⟩) rv6.length k8), (19, .int .i64 (rv6.length : Int)), (20, .int .i64 sv796.2)] a ∧ Wd ⟨w0, S0, []⟩ Sv888 [.box b795 [.string x780.Source.Network, .string x780.Source.Station, .string x780.Source.Location, .string x780.Source.Channel, .int .i64 x780.Start, .int .i64 x780.First, .int .i64 x780.Rate.Num, .int .i64 x780.Rate.Den, .int .i64 x780.Error, .int .i64 x780.Run, .int .i64 x780.Seq, .slice p791 x780.Samples.length k793] 35, .row (some ⟨b787, 0, none⟩) rv6.length k8 c10 35 12, .row p394 sv16.1.length k395 c393 35 12, .row p886 sv796.1.length k887 c885 45 2] [SlA p791 x780.Samples.length k793 x780.Samples, RowA c10 rv6, RowA c393 sv16.1, RowA c885 sv796.1] w) (([] : List Span), 0) h1081 ⟨[], none, 0, Sv396, (hs.wk rfl), (hw.ft [1, 2, 3, 0] [1, 2, 3, 0] (by decide) rfl rfl)⟩ ?_
    clear h1081
    repeat clear hsh
    rintro sv796 a w tv932 ⟨c885, p886, k887, Sv888, hs, hw⟩ hsh hd931
    delta compose_compose_l6 at hsh
    refine sr ?_
    refine sv hs (y_lss rfl rfl) rfl fun a hs => ?_
    refine nl ?_
    refine wp_seq ?_
    refine wp_cond_split (hs.ev rfl) (fun h940 => ?_) (fun h940 => ?_)
    ·have hsh := ite_t hsh h940
     refine wp_skip ?_
     refine then_normal ?_
     refine wp_seq ?_
     refine wp_block ?_
     refine sr ?_
     obtain ⟨x984, h982, hsh⟩ := bind_t hsh
     obtain ⟨q988, c989, h985, h986, h990, h983⟩ := hw.elemRK (α := Record) 1 rfl 1 rfl h982
     obtain ⟨_, _, _, _, _, _, _, _, _, _, _, _, rfl, rfl, rfl, rfl, rfl, rfl, rfl, rfl, rfl, rfl, rfl, rfl, ⟨p991, n992, k993, rfl, h994⟩⟩ := h983
     obtain rfl := h994.1
     have hw := hw.addE (e := SlA p991 _ k993 x984.Samples) h994
     refine sv hs (y_indexAt Tryz.runUnderlying27 Tryz.sizeOf35 rfl rfl h985.1 h985.2 h986) rfl fun a hs => ?_
     refine sv hs (y_loadQA (j := 0) (hw.ownAt 1 rfl) rfl Tryz.isAgg35 Tryz.sizeOf35 h990 rfl rfl) rfl fun a hs => ?_
     refine w_alloc (cs := [.string ByteArray.empty, .string ByteArray.empty, .string ByteArray.empty, .string ByteArray.empty, .int .i64 0, .int .i64 0, .int .i64 0, .int .i64 0, .int .i64 0, .int .i64 0, .int .i64 0, .slice none ([] : List Int).length 0]) hs hw Tryz.zeroValue35 rfl rfl trivial ?_
     intro b995 a w hs hw
     refine w_store (m := 12) (cs' := [.string x984.Source.Network, .string x984.Source.Station, .string x984.Source.Location, .string x984.Source.Channel, .int .i64 x984.Start, .int .i64 x984.First, .int .i64 x984.Rate.Num, .int .i64 x984.Rate.Den, .int .i64 x984.Error, .int .i64 x984.Run, .int .i64 x984.Seq, .slice p991 x984.Samples.length k993]) hs hw 0 rfl rfl rfl Tryz.sizeOf35 rfl rfl rfl rfl trivial ?_
     intro a w hs hw
     refine nl ?_
     refine sr ?_
     refine sv hs (y_loadBA (hw.ownAt 0 rfl) rfl Tryz.isAgg35 Tryz.sizeOf35 rfl rfl) rfl fun a hs => ?_
     refine sv hs (y_loadBA (hw.ownAt 1 rfl) rfl Tryz.isAgg35 Tryz.sizeOf35 rfl rfl) rfl fun a hs => ?_
     obtain ⟨rv997, h996, hsh⟩ := bind_t hsh
     refine st_callR hs (record_Better_ok h996 hw.bdom (hw.bE 0 rfl) (hw.bE 1 rfl)) (do_call Tryz.call71 rfl) trivial rfl rfl ?_
     intro v1001 Sv998 w a h999 h1000 hs
     subst h1000
     have hw := hw.callB h999
     refine nl ?_
     refine wp_join (fun a w => ∃ (better1022 : (List Span)) (c1018 : List Value) (p1019 : Option Addr) (k1020 : Nat) (Sv1021 : Nat → Prop), compose_compose_j1 sv796 better1022 = some tv932 ∧ Sl 45 [(3, .slice (some ⟨b787, 0, none⟩) rv6.length k8), (4, .slice p394 sv16.1.length k395), (6, .pointer (some ⟨b795, 0, none⟩)), (7, .slice p1019 better1022.length k1020), (12, .slice (some ⟨b787, 0, none⟩) rv6.length k8), (13, .int .i64 (rv6.length : Int)), (14, .int .i64 sv16.2), (18, .slice (some ⟨b787, 0, none⟩) rv6.length k8), (19, .int .i64 (rv6.length : Int)), (20, .int .i64 sv796.2)] a ∧ Wd ⟨w0, S0, []⟩ Sv1021 [.box b795 [.string x780.Source.Network, .string x780.Source.Station, .string x780.Source.Location, .string x780.Source.Channel, .int .i64 x780.Start, .int .i64 x780.First, .int .i64 x780.Rate.Num, .int .i64 x780.Rate.Den, .int .i64 x780.Error, .int .i64 x780.Run, .int .i64 x780.Seq, .slice p791 x780.Samples.length k793] 35, .row (some ⟨b787, 0, none⟩) rv6.length k8 c10 35 12, .row p394 sv16.1.length k395 c393 35 12, .row p1019 better1022.length k1020 c1018 45 2] [SlA p791 x780.Samples.length k793 x780.Samples, RowA c10 rv6, RowA c393 sv16.1, RowA c1018 better1022] w) ?_ ?_
     ·refine wp_cond_split (hs.ev rfl) (fun h1023 => ?_) (fun h1023 => ?_)
      ·have hsh := ite_t hsh h1023
       refine wp_region_lit ?_
       refine mv hs rfl rfl fun a hs => ?_
       refine sv hs (y_loadBA (hw.ownAt 0 rfl) rfl Tryz.isAgg35 Tryz.sizeOf35 rfl rfl) rfl fun a hs => ?_
       obtain ⟨rv1025, h1024, hsh⟩ := bind_t hsh
       refine st_callR hs (compose_extent_ok h1024 hw.bdom (hw.bE 0 rfl)) (do_call Tryz.call59 rfl) trivial rfl rfl ?_
       intro v1029 Sv1026 w a h1027 h1028 hs
       subst h1028
       have hw := hw.callB h1027
       refine w_litSlice (α := Span) (vs := [.agg #[.int .i64 rv1025.From, .int .i64 rv1025.To]]) (cs := [.int .i64 rv1025.From, .int .i64 rv1025.To]) (xs := ([rv1025] : List Span)) hs hw El52 rfl rfl rfl rfl rfl rfl ⟨⟨_, _, rfl, rfl, rfl⟩, rfl⟩ rfl trivial rfl fun b1032 a w hs hw => ?_
       obtain ⟨l1034, h1033, hsh⟩ := bind_t hsh
       refine w_appendR (α := Span) hs hw El52 5 rfl rfl rfl 5 rfl 0 rfl 0 rfl h1033 rfl trivial ?_
       intro p1035 k1036 c1037 a w hs hw
       refine av hs rfl rfl fun a hs => ?_
       refine nl ?_
       exact ⟨l1034, c1037, p1035, k1036, Sv888, hsh, (hs.wk rfl), (hw.ft [2, 3, 4, 5] [3, 4, 5, 0] (by decide) rfl rfl)⟩
      have hsh := ite_f hsh h1023
      refine wp_skip ?_
      refine then_normal ?_
      exact ⟨sv796.1, c885, p886, k887, Sv888, hsh, (hs.wk rfl), (hw.ft [1, 2, 3, 4] [1, 2, 3, 4] (by decide) rfl rfl)⟩
     rintro a w ⟨better1022, c1018, p1019, k1020, Sv1021, hsh, hs, hw⟩
     delta compose_compose_j1 at hsh
     refine blk_normal ?_
     refine then_normal ?_
     refine wp_region_lit ?_
     refine sv hs (y_add rfl rfl) rfl fun a hs => ?_
     refine mv hs rfl rfl fun a hs => ?_
     refine nl ?_
     exact ⟨_, (Option.some.inj hsh).symm, c1018, p1019, k1020, Sv1021, (hs.wk rfl), (hw.ft [0, 1, 2, 3] [0, 1, 2, 3] (by decide) rfl rfl)⟩
    have hsh := ite_f hsh h940
    refine wp_exit ?_
    refine then_exit ?_
    refine then_exit ?_
    refine blk_exit ?_
    have hsh := oi hsh
    subst hsh
    have h1038 := hd931 _ rfl
    subst h1038
    refine then_normal ?_
    exact ⟨c885, p886, k887, Sv888, (hs.wk rfl), (hw.ft [0, 1, 2, 3] [0, 1, 2, 3] (by decide) rfl rfl)⟩
   rintro a w ⟨c935, p936, k937, Sv938, hs, hw⟩
   refine then_normal ?_
   obtain ⟨rv1040, h1039, hsh⟩ := bind_t hsh
   obtain ⟨rv1046, h1045, hsh⟩ := bind_t hsh
   obtain ⟨rv1052, h1051, hsh⟩ := bind_t hsh
   obtain ⟨l1058, h1057, hsh⟩ := bind_t hsh
   refine wp_only (fun a w => ∃ (Sv1062 : Nat → Prop) (c1061 : List Value) (k1060 : Nat) (p1059 : Option Addr), Sl 45 [(3, .slice (some ⟨b787, 0, none⟩) rv6.length k8), (4, .slice p1059 l1058.length k1060), (12, .slice (some ⟨b787, 0, none⟩) rv6.length k8), (13, .int .i64 (rv6.length : Int)), (14, .int .i64 sv16.2)] a ∧ Wd ⟨w0, S0, []⟩ Sv1062 [.row (some ⟨b787, 0, none⟩) rv6.length k8 c10 35 12, .row p1059 l1058.length k1060 c1061 35 12] [RowA c10 rv6, RowA c1061 l1058] w) ?_ ?_
   ·refine h_b (C := Cls [.box b795 [.string x780.Source.Network, .string x780.Source.Station, .string x780.Source.Location, .string x780.Source.Channel, .int .i64 x780.Start, .int .i64 x780.First, .int .i64 x780.Rate.Num, .int .i64 x780.Rate.Den, .int .i64 x780.Error, .int .i64 x780.Run, .int .i64 x780.Seq, .slice p791 x780.Samples.length k793] 35, .row (some ⟨b787, 0, none⟩) rv6.length k8 c10 35 12] []) (by kernel_rfl) rfl (hw.drew.cs [0, 1] [] rfl rfl) fun hC => ?_
    have hw := hw.drew
    refine gm hs 0 rfl rfl rfl hC fun a hs => ?_
    refine gv hs 1 rfl rfl hC (fun w hC => y_loadBA (hC.ownAt 0 rfl) rfl Tryz.isAgg35 Tryz.sizeOf35 rfl rfl) fun a hs => ?_
    refine gv hs 2 rfl rfl hC (fun w hC => y_loadBA (hC.ownAt 0 rfl) rfl Tryz.isAgg35 Tryz.sizeOf35 rfl rfl) fun a hs => ?_
    refine gm hs 3 rfl rfl rfl hC fun a hs => ?_
    refine ho 4 rfl ?_
    obtain ⟨Sv1063, hw⟩ := w_share (α := Span) hw 3 rfl 3 rfl
    refine st_callR hs (span_Normal_ok h1039 hw.dom (hw.envAt 0 rfl)) (do_call Tryz.call60 rfl) trivial rfl rfl ?_
    intro v1067 Sv1064 w a h1065 h1066 hs
    obtain ⟨p1041, k1042, c1044, rfl, h1068, h1043⟩ := h1066
    have hw := hw.callN h1065 h1068
    have hw := hw.addE (e := RowA c1044 rv1040) h1043
    refine h_nx (hw.cs [1, 2] [] rfl rfl) fun hC => ?_
    refine ho 5 rfl ?_
    obtain ⟨Sv1069, hw⟩ := w_share (α := Span) hw 0 rfl 0 rfl
    refine st_callR hs (compose_kept_ok h1045 hw.dom (hw.envAt 3 rfl) (hw.envAt 0 rfl)) (do_call Tryz.call73 rfl) trivial rfl rfl ?_
    intro v1073 Sv1070 w a h1071 h1072 hs
    obtain ⟨p1047, k1048, c1050, rfl, h1074, h1049⟩ := h1072
    have hw := hw.callN h1071 h1074
    have hw := hw.addE (e := RowA c1050 rv1046) h1049
    refine h_nx (hw.cs [1, 2] [] rfl rfl) fun hC => ?_
    refine ho 6 rfl ?_
    obtain ⟨Sv1075, hw⟩ := w_share (α := Bool) hw 0 rfl 0 rfl
    refine st_callR hs (compose_runs_ok h1051 hw.dom (hw.envAt 5 rfl) (hw.envAt 0 rfl)) (do_call Tryz.call72 rfl) trivial rfl rfl ?_
    intro v1079 Sv1076 w a h1077 h1078 hs
    obtain ⟨p1053, k1054, c1056, rfl, h1080, h1055⟩ := h1078
    have hw := hw.callN h1077 h1080
    have hw := hw.addE (e := RowA c1056 rv1052) h1055
    refine h_nx (hw.cs [1, 2] [] rfl rfl) fun hC => ?_
    refine h_st (C' := Cls [.box b795 [.string x780.Source.Network, .string x780.Source.Station, .string x780.Source.Location, .string x780.Source.Channel, .int .i64 x780.Start, .int .i64 x780.First, .int .i64 x780.Rate.Num, .int .i64 x780.Rate.Den, .int .i64 x780.Error, .int .i64 x780.Run, .int .i64 x780.Seq, .slice p791 x780.Samples.length k793] 35, .row (some ⟨b787, 0, none⟩) rv6.length k8 c10 35 12, .row p1053 rv1052.length k1054 c1056 35 12] []) (fun _ h => by exact h.sub [0, 1] (Sel.of rfl) (AllIn.of [] rfl)) (hw.cs [1, 2, 0] [] rfl rfl) fun hC => ?_
    refine ho 7 rfl ?_
    refine w_appendR (α := Record) hs hw El27 3 rfl rfl rfl 8 rfl 0 rfl 0 rfl h1057 rfl trivial ?_
    intro p1059 k1060 c1061 a w hs hw
    refine h_nx (hw.cs [1, 2, 0] [] rfl rfl) fun hC => ?_
    refine gv hs 8 rfl rfl hC (fun w hC => y_assign rfl) fun a hs => ?_
    refine h_done (by kernel_rfl) ?_
    exact ⟨Sv1076, c1061, k1060, p1059, (hs.wk rfl), (hw.ft [2, 3] [8, 0] (by decide) rfl rfl)⟩
   rintro a w ⟨Sv1062, c1061, k1060, p1059, hs, hw⟩
   refine blk_normal ?_
   refine then_normal ?_
   refine wp_region_lit ?_
   refine sv hs (y_add rfl rfl) rfl fun a hs => ?_
   refine mv hs rfl rfl fun a hs => ?_
   refine nl ?_
   exact ⟨_, (Option.some.inj hsh).symm, c1061, p1059, k1060, Sv1062, (hs.wk rfl), (hw.ft [0, 1] [0, 1] (by decide) rfl rfl)⟩
  have hsh := ite_f hsh h592
  refine wp_exit ?_
  refine then_exit ?_
  refine then_exit ?_
  refine blk_exit ?_
  have hsh := oi hsh
  subst hsh
  have h1082 := hd583 _ rfl
  subst h1082
  refine then_normal ?_
  exact ⟨c393, p394, k395, Sv396, (hs.wk rfl), (hw.ft [1] [1] (by decide) rfl rfl)⟩
 rintro a w ⟨c587, p588, k589, Sv590, hs, hw⟩
 refine then_normal ?_
 refine sr ?_
 refine mv hs rfl rfl fun a hs => ?_
 obtain ⟨rv1084, h1083, hsh⟩ := bind_t hsh
 refine st_callR hs (slices_SortFunc_Lapi_Record_api_Record_ok h1083 hw.dom (hw.ins [0] (by decide) rfl) (hw.envAt 0 rfl) (record_Compare_fn _ _)) (do_call Tryz.call74 rfl) trivial rfl rfl ?_
 intro v1091 Sv1088 w a h1089 h1090 hs
 obtain ⟨c1085, rfl, h1092, h1086, h1087⟩ := h1090
 have hw := hw.callO [0] [] (by decide) rfl h1089 h1092
 have hw := hw.addE (e := RowA c1085 rv1084) h1086
 have h1093 := h1087
 have h1094 := Eq.symm h1093
 try have hs := hs.fl 4 rfl h1094
 try have hs := hs.fl 42 rfl h1094
 refine nl ?_
 refine sr ?_
 refine mv hs rfl rfl fun a hs => ?_
 refine av hs rfl rfl fun a hs => ?_
 refine nl ?_
 have hsh := oi hsh
 subst hsh
 refine wp_ret ?_
 exact ret1 hs rfl (rv_tmp rfl) (hw.ret ⟨p588, k589, c1085, rfl, (hw.outs [0] (by decide) rfl), (hw.envAt 0 rfl)⟩)

abbrev compose_Compose_rd (w0 : World) (X : List Nat) (r : ((List Record) × Int)) : (Nat → Prop) → World → Value → Prop := fun S w v => ∃ (p0_0 : Option Addr) (k0_0 : Nat) (c0_0 : List Value), v = .tuple #[.slice p0_0 r.1.length k0_0, .int .i64 r.2] ∧ Outs X w0 S w [.row p0_0 r.1.length k0_0 c0_0 35 12] ∧ (RowA c0_0 r.1).p S w
set_option maxHeartbeats 4000000 in
set_option maxRecDepth 100000 in
theorem compose_Compose_ok {w0 : World} {S0 : Nat → Prop} {p2 : Option Addr} {k3 : Nat} {l1 : (List Record)} {r : ((List Record) × Int)} (hsh : compose_Compose l1 = some r) (hS : ∀ b, S0 b → b < w0.heap.size) (h4 : (SlA p2 l1.length k3 l1).p S0 w0) : Calls Tryz.prog 17 #[.slice p2 l1.length k3] w0 (Ret ([]) w0 S0 (compose_Compose_rd w0 ([]) r)) := by
 refine calls_of_wp Tryz.func17 rfl ?_
 have hs := Sl.enter #[.slice p2 l1.length k3] 9 [(0, .slice p2 l1.length k3)] rfl ⟨rfl, trivial⟩
 have hw := Wd.enter (E := []) hS (fun _ h => (by cases h))
 have hw := hw.addE h4
 delta compose_Compose at hsh
 refine sr ?_
 refine av hs rfl rfl fun a hs => ?_
 refine av hs rfl rfl fun a hs => ?_
 refine nl ?_
 refine wp_seq ?_
 refine sr ?_
 refine mv hs rfl rfl fun a hs => ?_
 obtain ⟨rv6, h5, hsh⟩ := bind_t hsh
 refine st_callR hs (compose_Valid_ok h5 hw.bdom (hw.bE 0 rfl)) (do_call Tryz.call41 rfl) trivial rfl rfl ?_
 intro v10 Sv7 w a h8 h9 hs
 subst h9
 have hw := hw.callB h8
 refine sv hs (y_not rfl) rfl fun a hs => ?_
 refine nl ?_
 refine wp_cond_split (hs.ev rfl) (fun h13 => ?_) (fun h13 => ?_)
 ·have hsh := ite_t hsh h13
  refine sr ?_
  refine av hs rfl rfl fun a hs => ?_
  refine av hs rfl rfl fun a hs => ?_
  refine nl ?_
  have hsh := oi hsh
  subst hsh
  have hw := hw.nilRow Record 35
  refine wp_ret ?_
  refine then_ret ?_
  exact ret2 hs rfl (rv_tmp rfl) (rv_tmp rfl) (hw.ret ⟨none, 0, [], rfl, (hw.outs [0] (by decide) rfl), (hw.envAt 0 rfl)⟩)
 have hsh := ite_f hsh h13
 refine wp_skip ?_
 refine then_normal ?_
 refine sr ?_
 refine mv hs rfl rfl fun a hs => ?_
 obtain ⟨rv15, h14, hsh⟩ := bind_t hsh
 refine st_callR hs (compose_compose_ok h14 hw.dom (hw.envAt 0 rfl)) (do_call Tryz.call49 rfl) trivial rfl rfl ?_
 intro v23 Sv20 w a h21 h22 hs
 obtain ⟨p16, k17, c19, rfl, h24, h18⟩ := h22
 have hw := hw.callN h21 h24
 have hw := hw.addE (e := RowA c19 rv15) h18
 refine av hs rfl rfl fun a hs => ?_
 refine av hs rfl rfl fun a hs => ?_
 refine nl ?_
 have hsh := oi hsh
 subst hsh
 refine wp_ret ?_
 exact ret2 hs rfl (rv_tmp rfl) (rv_tmp rfl) (hw.ret ⟨p16, k17, c19, rfl, (hw.outs [0] (by decide) rfl), (hw.envAt 0 rfl)⟩)

abbrev compose_Value_rd (w0 : World) (X : List Nat) (r : (Int × Bool)) : (Nat → Prop) → World → Value → Prop := fun S w v => v = .tuple #[.int .i64 r.1, .bool r.2]
set_option maxHeartbeats 4000000 in
set_option maxRecDepth 100000 in
theorem compose_Value_ok {w0 : World} {S0 : Nat → Prop} {p2 : Option Addr} {k3 : Nat} {l1 : (List Record)} {t5 : Int} {r : (Int × Bool)} (hsh : compose_Value l1 t5 = some r) (hS : ∀ b, S0 b → b < w0.heap.size) (h4 : (SlA p2 l1.length k3 l1).p S0 w0) : Calls Tryz.prog 24 #[.slice p2 l1.length k3, .int .i64 t5] w0 (Ret ([]) w0 S0 (compose_Value_rd w0 ([]) r)) := by
 refine calls_of_wp Tryz.func24 rfl ?_
 have hs := Sl.enter #[.slice p2 l1.length k3, .int .i64 t5] 44 [(0, .slice p2 l1.length k3), (1, .int .i64 t5)] rfl ⟨rfl, rfl, trivial⟩
 have hw := Wd.enter (E := []) hS (fun _ h => (by cases h))
 have hw := hw.addE h4
 delta compose_Value at hsh
 refine sr ?_
 refine av hs rfl rfl fun a hs => ?_
 refine av hs rfl rfl fun a hs => ?_
 refine nl ?_
 refine wp_seq ?_
 refine sr ?_
 refine mv hs rfl rfl fun a hs => ?_
 obtain ⟨rv7, h6, hsh⟩ := bind_t hsh
 refine st_callR hs (compose_Valid_ok h6 hw.bdom (hw.bE 0 rfl)) (do_call Tryz.call41 rfl) trivial rfl rfl ?_
 intro v11 Sv8 w a h9 h10 hs
 subst h10
 have hw := hw.callB h9
 refine sv hs (y_not rfl) rfl fun a hs => ?_
 refine nl ?_
 refine wp_cond_split (hs.ev rfl) (fun h14 => ?_) (fun h14 => ?_)
 ·have hsh := ite_t hsh h14
  refine sr ?_
  refine av hs rfl rfl fun a hs => ?_
  refine av hs rfl rfl fun a hs => ?_
  refine nl ?_
  have hsh := oi hsh
  subst hsh
  refine wp_ret ?_
  refine then_ret ?_
  exact ret2 hs rfl (rv_tmp rfl) (rv_tmp rfl) (hw.ret rfl)
 have hsh := ite_f hsh h14
 refine wp_skip ?_
 refine then_normal ?_
 refine wp_seq ?_
 refine sr ?_
 refine mv hs rfl rfl fun a hs => ?_
 obtain ⟨rv16, h15, hsh⟩ := bind_t hsh
 refine st_callR hs (compose_compose_ok h15 hw.dom (hw.envAt 0 rfl)) (do_call Tryz.call49 rfl) trivial rfl rfl ?_
 intro v24 Sv21 w a h22 h23 hs
 obtain ⟨p17, k18, c20, rfl, h25, h19⟩ := h23
 have hw := hw.callN h22 h25
 have hw := hw.addE (e := RowA c20 rv16) h19
 refine sv hs (y_len Tryz.runUnderlying27 rfl) rfl fun a hs => ?_
 refine mv hs rfl rfl fun a hs => ?_
 refine nl ?_
 refine wp_block ?_
 refine wp_while (fun sv454 a w => ∃ (Sv738 : Nat → Prop), Sl 44 [(1, .int .i64 t5), (14, .slice p17 rv16.length k18), (15, .int .i64 (rv16.length : Int)), (16, .int .i64 sv454)] a ∧ Wd ⟨w0, S0, []⟩ Sv738 [.row p17 rv16.length k18 c20 35 12] [RowA c20 rv16] w) 0 hsh ⟨Sv21, (hs.wk rfl), (hw.ft [0] [0] (by decide) rfl rfl)⟩ ?_
 repeat clear hsh
 rintro sv454 a w tv881 ⟨Sv738, hs, hw⟩ hsh hd880
 delta compose_Value_l7 at hsh
 refine sr ?_
 refine sv hs (y_lss rfl rfl) rfl fun a hs => ?_
 refine nl ?_
 refine wp_seq ?_
 refine wp_cond_split (hs.ev rfl) (fun h885 => ?_) (fun h885 => ?_)
 ·have hsh := ite_t hsh h885
  refine wp_skip ?_
  refine then_normal ?_
  refine wp_seq ?_
  refine wp_block ?_
  refine sr ?_
  obtain ⟨x1028, h1026, hsh⟩ := bind_t hsh
  obtain ⟨b1035, q1032, c1033, h1036, h1029, h1030, h1034, h1027⟩ := hw.elemRV (α := Record) 0 rfl 0 rfl h1026
  have hsv1037 := hs
  have hwv1038 := hw
  subst h1036
  have hs := hsv1037
  have hw := hwv1038
  obtain ⟨_, _, _, _, _, _, _, _, _, _, _, _, rfl, rfl, rfl, rfl, rfl, rfl, rfl, rfl, rfl, rfl, rfl, rfl, ⟨p1039, n1040, k1041, rfl, h1042⟩⟩ := h1027
  obtain rfl := h1042.1
  have hw := hw.addE (e := SlA p1039 _ k1041 x1028.Samples) h1042
  refine sv hs (y_indexAt Tryz.runUnderlying27 Tryz.sizeOf35 rfl rfl h1029.1 h1029.2 h1030) rfl fun a hs => ?_
  refine sv hs (y_loadQA (j := 0) (hw.ownAt 0 rfl) rfl Tryz.isAgg35 Tryz.sizeOf35 h1034 rfl rfl) rfl fun a hs => ?_
  refine w_alloc (cs := [.string ByteArray.empty, .string ByteArray.empty, .string ByteArray.empty, .string ByteArray.empty, .int .i64 0, .int .i64 0, .int .i64 0, .int .i64 0, .int .i64 0, .int .i64 0, .int .i64 0, .slice none ([] : List Int).length 0]) hs hw Tryz.zeroValue35 rfl rfl trivial ?_
  intro b1043 a w hs hw
  refine w_store (m := 12) (cs' := [.string x1028.Source.Network, .string x1028.Source.Station, .string x1028.Source.Location, .string x1028.Source.Channel, .int .i64 x1028.Start, .int .i64 x1028.First, .int .i64 x1028.Rate.Num, .int .i64 x1028.Rate.Den, .int .i64 x1028.Error, .int .i64 x1028.Run, .int .i64 x1028.Seq, .slice p1039 x1028.Samples.length k1041]) hs hw 0 rfl rfl rfl Tryz.sizeOf35 rfl rfl rfl rfl trivial ?_
  intro a w hs hw
  refine nl ?_
  refine sr ?_
  refine sv hs (y_fieldAddr (o' := 11) Tryz.runUnderlying35 rfl Tryz.sizeOf22 rfl rfl rfl) rfl fun a hs => ?_
  refine sv hs (y_loadB1 (hw.ownAt 0 rfl) rfl Tryz.isAgg22 rfl) rfl fun a hs => ?_
  refine sv hs (y_len Tryz.runUnderlying22 rfl) rfl fun a hs => ?_
  refine mv hs rfl rfl fun a hs => ?_
  refine nl ?_
  refine wp_block ?_
  refine wp_while (fun sv1166 a w => ∃ (Sv1246 : Nat → Prop), Sl 44 [(1, .int .i64 t5), (7, .pointer (some ⟨b1043, 0, none⟩)), (14, .slice (some ⟨b1035, 0, none⟩) rv16.length k18), (15, .int .i64 (rv16.length : Int)), (16, .int .i64 sv454), (21, .slice p1039 x1028.Samples.length k1041), (22, .int .i64 (x1028.Samples.length : Int)), (23, .int .i64 sv1166)] a ∧ Wd ⟨w0, S0, []⟩ Sv1246 [.box b1043 [.string x1028.Source.Network, .string x1028.Source.Station, .string x1028.Source.Location, .string x1028.Source.Channel, .int .i64 x1028.Start, .int .i64 x1028.First, .int .i64 x1028.Rate.Num, .int .i64 x1028.Rate.Den, .int .i64 x1028.Error, .int .i64 x1028.Run, .int .i64 x1028.Seq, .slice p1039 x1028.Samples.length k1041] 35, .row (some ⟨b1035, 0, none⟩) rv16.length k18 c20 35 12] [SlA p1039 x1028.Samples.length k1041 x1028.Samples, RowA c20 rv16] w) 0 hsh ⟨Sv738, (hs.wk rfl), (hw.ft [0, 1] [0, 1] (by decide) rfl rfl)⟩ ?_
  repeat clear hsh
  rintro sv1166 a w tv1287 ⟨Sv1246, hs, hw⟩ hsh hd1286
  delta compose_Value_l11 at hsh
  refine sr ?_
  refine sv hs (y_lss rfl rfl) rfl fun a hs => ?_
  refine nl ?_
  refine wp_seq ?_
  refine wp_cond_split (hs.ev rfl) (fun h1291 => ?_) (fun h1291 => ?_)
  ·have hsh := ite_t hsh h1291
   refine wp_skip ?_
   refine then_normal ?_
   refine wp_seq ?_
   refine wp_block ?_
   refine sr ?_
   refine mv hs rfl rfl fun a hs => ?_
   obtain ⟨x1332, h1330, hsh⟩ := bind_t hsh
   obtain ⟨b1338, o1339, q1336, c1337, h1340, h1333, h1334, h1335, h1331⟩ := hw.elemV 0 rfl h1330
   have hsv1341 := hs
   have hwv1342 := hw
   subst h1340
   have hs := hsv1341
   have hw := hwv1342
   obtain ⟨_, rfl, rfl⟩ := h1331
   have hw := hw.addE h1335
   refine sv hs (y_indexAt Tryz.runUnderlying22 Tryz.sizeOf3 rfl rfl h1333.1 h1333.2 h1334) rfl fun a hs => ?_
   refine sv hs (y_loadE1 (j := 0) (hw.ceAt 0 rfl) rfl Tryz.isAgg3 rfl) rfl fun a hs => ?_
   refine av hs rfl rfl fun a hs => ?_
   refine av hs rfl rfl fun a hs => ?_
   refine nl ?_
   refine sr ?_
   refine sv hs (y_loadBA (hw.ownAt 0 rfl) rfl Tryz.isAgg35 Tryz.sizeOf35 rfl rfl) rfl fun a hs => ?_
   refine mv hs rfl rfl fun a hs => ?_
   obtain ⟨rv1344, h1343, hsh⟩ := bind_t hsh
   refine st_callR hs (compose_at_ok h1343 hw.bdom (hw.bE 1 rfl)) (do_call Tryz.call56 rfl) trivial rfl rfl ?_
   intro v1348 Sv1345 w a h1346 h1347 hs
   subst h1347
   have hw := hw.callB h1346
   refine mv hs rfl rfl fun a hs => ?_
   refine sv hs (y_leq rfl rfl) rfl fun a hs => ?_
   refine mv hs rfl rfl fun a hs => ?_
   obtain ⟨c1358, hc1358, hsh⟩ := bind_t hsh
   refine wpl_join 7 (fun a w => ∃ (Sv1359 : Nat → Prop), Sl 44 [(1, .int .i64 t5), (7, .pointer (some ⟨b1043, 0, none⟩)), (9, .int .i64 x1332), (14, .slice (some ⟨b1035, 0, none⟩) rv16.length k18), (15, .int .i64 (rv16.length : Int)), (16, .int .i64 sv454), (21, .slice (some ⟨b1338, o1339, none⟩) x1028.Samples.length k1041), (22, .int .i64 (x1028.Samples.length : Int)), (23, .int .i64 sv1166), (40, .bool c1358)] a ∧ Wd ⟨w0, S0, []⟩ Sv1359 [.box b1043 [.string x1028.Source.Network, .string x1028.Source.Station, .string x1028.Source.Location, .string x1028.Source.Channel, .int .i64 x1028.Start, .int .i64 x1028.First, .int .i64 x1028.Rate.Num, .int .i64 x1028.Rate.Den, .int .i64 x1028.Error, .int .i64 x1028.Run, .int .i64 x1028.Seq, .slice (some ⟨b1338, o1339, none⟩) x1028.Samples.length k1041] 35, .row (some ⟨b1035, 0, none⟩) rv16.length k18 c20 35 12] [SlA (some ⟨b1338, o1339, none⟩) x1028.Samples.length k1041 x1028.Samples, RowA c20 rv16] w) ?_ ?_
   ·rcases Bool.eq_false_or_eq_true (decide (rv1344 ≤ t5)) with h1357 | h1357
    ·have hs := hs.fix 33 (.bool true) rfl (vb h1357)
     have hsh := ite_t hc1358 h1357
     refine st_val hs (y_move rfl) ⟨_, rfl, rfl⟩ rfl rfl fun a hs => ?_
     refine st_val hs (y_loadBA (hw.ownAt 0 rfl) rfl Tryz.isAgg35 Tryz.sizeOf35 rfl rfl) ⟨_, rfl, rfl⟩ rfl rfl fun a hs => ?_
     refine st_val hs (y_move rfl) ⟨_, rfl, rfl⟩ rfl rfl fun a hs => ?_
     refine st_val hs (y_add rfl rfl) ⟨_, rfl, rfl⟩ rfl rfl fun a hs => ?_
     obtain ⟨rv1361, h1360, hsh⟩ := bind_t hsh
     refine st_callR hs (compose_at_ok h1360 hw.bdom (hw.bE 1 rfl)) (do_call Tryz.call56 rfl) ⟨_, rfl, rfl⟩ rfl rfl ?_
     intro v1365 Sv1362 w a h1363 h1364 hs
     subst h1364
     have hw := hw.callB h1363
     refine st_val hs (y_lss rfl rfl) ⟨_, rfl, rfl⟩ rfl rfl fun a hs => ?_
     refine sv hs (y_pickT rfl rfl) rfl fun a hs => ?_
     refine wpList_nil ?_
     have hsh := oi hsh
     subst hsh
     refine then_normal ?_
     exact ⟨Sv1246, (hs.wk rfl), (hw.ft [0, 1] [1, 2] (by decide) rfl rfl)⟩
    have hs := hs.fix 33 (.bool false) rfl (vb h1357)
    have hsh := ite_f hc1358 h1357
    refine st_skip hs rfl rfl rfl rfl rfl fun a hs => ?_
    refine st_skip hs rfl rfl rfl rfl rfl fun a hs => ?_
    refine st_skip hs rfl rfl rfl rfl rfl fun a hs => ?_
    refine st_skip hs rfl rfl rfl rfl rfl fun a hs => ?_
    refine st_skip hs rfl rfl rfl rfl rfl fun a hs => ?_
    refine st_skip hs rfl rfl rfl rfl rfl fun a hs => ?_
    refine sv hs (y_pickF rfl rfl) rfl fun a hs => ?_
    refine wpList_nil ?_
    have hsh := oi hsh
    subst hsh
    refine then_normal ?_
    exact ⟨Sv1246, (hs.wk rfl), (hw.ft [0, 1] [1, 2] (by decide) rfl rfl)⟩
   rintro a w ⟨Sv1359, hs, hw⟩
   refine nl ?_
   refine wp_cond_split (hs.ev rfl) (fun h1368 => ?_) (fun h1368 => ?_)
   ·have hsh := ite_t hsh h1368
    refine sr ?_
    refine mv hs rfl rfl fun a hs => ?_
    refine av hs rfl rfl fun a hs => ?_
    refine av hs rfl rfl fun a hs => ?_
    refine nl ?_
    have hsh := oi hsh
    subst hsh
    have h1369 := hd1286 _ rfl
    subst h1369
    have h1370 := hd880 _ rfl
    subst h1370
    refine wp_ret ?_
    refine blk_ret ?_
    refine then_ret ?_
    refine then_ret ?_
    refine blk_ret ?_
    refine blk_ret ?_
    refine then_ret ?_
    refine then_ret ?_
    refine blk_ret ?_
    refine then_ret ?_
    exact ret2 hs rfl (rv_tmp rfl) (rv_tmp rfl) (hw.ret rfl)
   have hsh := ite_f hsh h1368
   refine wp_skip ?_
   refine blk_normal ?_
   refine then_normal ?_
   refine wp_region_lit ?_
   refine sv hs (y_add rfl rfl) rfl fun a hs => ?_
   refine mv hs rfl rfl fun a hs => ?_
   refine nl ?_
   exact ⟨_, (Option.some.inj hsh).symm, Sv1359, (hs.wk rfl), (hw.ft [0, 1] [0, 1] (by decide) rfl rfl)⟩
  have hsh := ite_f hsh h1291
  obtain ⟨rv1371, hsh, h1372⟩ := map_t hsh
  have h1372 := (hd1286 _ h1372.symm).symm
  subst h1372
  refine wp_exit ?_
  refine then_exit ?_
  refine then_exit ?_
  refine blk_exit ?_
  refine blk_normal ?_
  refine then_normal ?_
  refine wp_region_lit ?_
  refine sv hs (y_add rfl rfl) rfl fun a hs => ?_
  refine mv hs rfl rfl fun a hs => ?_
  refine nl ?_
  exact ⟨_, (Option.some.inj hsh).symm, Sv1246, (hs.wk rfl), (hw.ft [1] [1] (by decide) rfl rfl)⟩
 have hsh := ite_f hsh h885
 obtain ⟨rv1373, hsh, h1374⟩ := map_t hsh
 have h1374 := (hd880 _ h1374.symm).symm
 subst h1374
 refine wp_exit ?_
 refine then_exit ?_
 refine then_exit ?_
 refine blk_exit ?_
 refine then_normal ?_
 refine sr ?_
 refine av hs rfl rfl fun a hs => ?_
 refine av hs rfl rfl fun a hs => ?_
 refine nl ?_
 have hsh := oi hsh
 subst hsh
 refine wp_ret ?_
 exact ret2 hs rfl (rv_tmp rfl) (rv_tmp rfl) (hw.ret rfl)

abbrev law15_sane_rd (w0 : World) (X : List Nat) (r : Bool) : (Nat → Prop) → World → Value → Prop := fun S w v => v = .bool r
set_option maxHeartbeats 4000000 in
set_option maxRecDepth 100000 in
theorem law15_sane_ok {w0 : World} {S0 : Nat → Prop} {r : Bool} (hsh : law15_sane = some r) (hS : ∀ b, S0 b → b < w0.heap.size) : Calls Tryz.prog 12 #[] w0 (Ret ([]) w0 S0 (law15_sane_rd w0 ([]) r)) := by
 refine calls_of_wp Tryz.func12 rfl ?_
 have hs := Sl.enter #[] 45 [] rfl trivial
 have hw := Wd.enter (E := []) hS (fun _ h => (by cases h))
 delta law15_sane at hsh
 refine sr ?_
 refine av hs rfl rfl fun a hs => ?_
 refine nl ?_
 refine sr ?_
 obtain ⟨rv2, h1, hsh⟩ := bind_t hsh
 refine st_callR hs (law15_two_ok h1 hw.dom) (do_call Tryz.call46 rfl) trivial rfl rfl ?_
 intro v10 Sv7 w a h8 h9 hs
 obtain ⟨p3, k4, c6, rfl, h11, h5⟩ := h9
 have hw := hw.callN h8 h11
 have hw := hw.addE (e := RowA c6 rv2) h5
 obtain ⟨rv13, h12, hsh⟩ := bind_t hsh
 obtain ⟨Sv18, hw⟩ := w_share (α := Record) hw 0 rfl 0 rfl
 refine st_callR hs (compose_Compose_ok h12 hw.dom (hw.envAt 0 rfl)) (do_call Tryz.call17 rfl) trivial rfl rfl ?_
 intro v22 Sv19 w a h20 h21 hs
 obtain ⟨p14, k15, c17, rfl, h23, h16⟩ := h21
 have hw := hw.callN h20 h23
 have hw := hw.addE (e := RowA c17 rv13.1) h16
 refine mv hs rfl rfl fun a hs => ?_
 refine sv hs (y_extract rfl rfl) rfl fun a hs => ?_
 refine sv hs (y_extract rfl rfl) rfl fun a hs => ?_
 refine av hs rfl rfl fun a hs => ?_
 refine av hs rfl rfl fun a hs => ?_
 refine nl ?_
 refine sr ?_
 obtain ⟨rv25, h24, hsh⟩ := bind_t hsh
 refine st_callR hs (law15_two_ok h24 hw.dom) (do_call Tryz.call46 rfl) trivial rfl rfl ?_
 intro v33 Sv30 w a h31 h32 hs
 obtain ⟨p26, k27, c29, rfl, h34, h28⟩ := h32
 have hw := hw.callN h31 h34
 have hw := hw.addE (e := RowA c29 rv25) h28
 obtain ⟨rv36, h35, hsh⟩ := bind_t hsh
 refine st_callR hs (compose_Value_ok h35 hw.bdom (hw.bRow 0 rfl 0 rfl)) (do_call Tryz.call24 rfl) trivial rfl rfl ?_
 intro v40 Sv37 w a h38 h39 hs
 subst h39
 have hw := hw.callB h38
 refine mv hs rfl rfl fun a hs => ?_
 refine sv hs (y_extract rfl rfl) rfl fun a hs => ?_
 refine sv hs (y_extract rfl rfl) rfl fun a hs => ?_
 refine av hs rfl rfl fun a hs => ?_
 refine av hs rfl rfl fun a hs => ?_
 refine nl ?_
 refine sr ?_
 refine mv hs rfl rfl fun a hs => ?_
 refine sv hs (y_eql rfl rfl) rfl fun a hs => ?_
 refine mv hs rfl rfl fun a hs => ?_
 refine wpl_join 4 (fun a w1 => w = w1 ∧ Sl 45 [(1, .slice p14 rv13.1.length k15), (3, .int .i64 rv36.1), (4, .bool rv36.2), (21, .bool ((rv13.2 == 0) && ((rv13.1.length : Int) == 2)))] a) ?_ ?_
 ·rcases Bool.eq_false_or_eq_true (rv13.2 == 0) with h42 | h42
  ·have hs := hs.fix 17 (.bool true) rfl (vb h42)
   refine st_val hs (y_move rfl) ⟨_, rfl, rfl⟩ rfl rfl fun a hs => ?_
   refine st_val hs (y_len Tryz.runUnderlying27 rfl) ⟨_, rfl, rfl⟩ rfl rfl fun a hs => ?_
   refine st_val hs (y_eql rfl rfl) ⟨_, rfl, rfl⟩ rfl rfl fun a hs => ?_
   refine sv hs (y_pickT rfl rfl) rfl fun a hs => ?_
   refine nl ?_
   exact ⟨rfl, (hs.fix 21 (.bool ((rv13.2 == 0) && ((rv13.1.length : Int) == 2))) rfl (and_t h42)).weaken _ ⟨rfl, rfl, rfl, rfl, trivial⟩⟩
  have hs := hs.fix 17 (.bool false) rfl (vb h42)
  refine st_skip hs rfl rfl rfl rfl rfl fun a hs => ?_
  refine st_skip hs rfl rfl rfl rfl rfl fun a hs => ?_
  refine st_skip hs rfl rfl rfl rfl rfl fun a hs => ?_
  refine sv hs (y_pickF rfl rfl) rfl fun a hs => ?_
  refine nl ?_
  exact ⟨rfl, (hs.fix 21 (.bool ((rv13.2 == 0) && ((rv13.1.length : Int) == 2))) rfl (and_f h42)).weaken _ ⟨rfl, rfl, rfl, rfl, trivial⟩⟩
 rintro a w1 ⟨h121, hs⟩
 subst h121
 refine mv hs rfl rfl fun a hs => ?_
 obtain ⟨c61, hc61, hsh⟩ := bind_t hsh
 refine wpl_join 7 (fun a w => ∃ (Sv62 : Nat → Prop), Sl 45 [(1, .slice p14 rv13.1.length k15), (3, .int .i64 rv36.1), (4, .bool rv36.2), (29, .bool c61)] a ∧ Wd ⟨w0, S0, []⟩ Sv62 [.row p14 rv13.1.length k15 c17 35 12] [RowA c17 rv13.1] w) ?_ ?_
 ·rcases Bool.eq_false_or_eq_true ((rv13.2 == 0) && ((rv13.1.length : Int) == 2)) with h60 | h60
  ·have hs := hs.fix 22 (.bool true) rfl (vb h60)
   have hsh := ite_t hc61 h60
   refine st_val hs (y_move rfl) ⟨_, rfl, rfl⟩ rfl rfl fun a hs => ?_
   obtain ⟨x65, h63, hsh⟩ := bind_t hsh
   obtain ⟨b72, q69, c70, h73, h66, h67, h71, h64⟩ := hw.elemRV (α := Record) 1 rfl 1 rfl h63
   have hsv74 := hs
   have hwv75 := hw
   subst h73
   have hs := hsv74
   have hw := hwv75
   obtain ⟨_, _, _, _, _, _, _, _, _, _, _, _, rfl, rfl, rfl, rfl, rfl, rfl, rfl, rfl, rfl, rfl, rfl, rfl, ⟨p76, n77, k78, rfl, h79⟩⟩ := h64
   obtain rfl := h79.1
   have hw := hw.addE (e := SlA p76 _ k78 x65.Samples) h79
   refine st_val hs (y_indexAt Tryz.runUnderlying27 Tryz.sizeOf35 rfl rfl h66.1 h66.2 h67) ⟨_, rfl, rfl⟩ rfl rfl fun a hs => ?_
   refine st_val hs (y_fieldAddr (o' := q69 + 11) Tryz.runUnderlying35 rfl Tryz.sizeOf22 rfl rfl rfl) ⟨_, rfl, rfl⟩ rfl rfl fun a hs => ?_
   refine st_val hs (y_loadQ1 (j := 11) (hw.ownAt 1 rfl) rfl Tryz.isAgg22 h71 rfl) ⟨_, rfl, rfl⟩ rfl rfl fun a hs => ?_
   refine st_val hs (y_len Tryz.runUnderlying22 rfl) ⟨_, rfl, rfl⟩ rfl rfl fun a hs => ?_
   refine st_val hs (y_eql rfl rfl) ⟨_, rfl, rfl⟩ rfl rfl fun a hs => ?_
   refine sv hs (y_pickT rfl rfl) rfl fun a hs => ?_
   refine wpList_nil ?_
   have hsh := oi hsh
   subst hsh
   refine then_normal ?_
   exact ⟨Sv30, (hs.wk rfl), (hw.ft [1] [2] (by decide) rfl rfl)⟩
  have hs := hs.fix 22 (.bool false) rfl (vb h60)
  have hsh := ite_f hc61 h60
  refine st_skip hs rfl rfl rfl rfl rfl fun a hs => ?_
  refine st_skip hs rfl rfl rfl rfl rfl fun a hs => ?_
  refine st_skip hs rfl rfl rfl rfl rfl fun a hs => ?_
  refine st_skip hs rfl rfl rfl rfl rfl fun a hs => ?_
  refine st_skip hs rfl rfl rfl rfl rfl fun a hs => ?_
  refine st_skip hs rfl rfl rfl rfl rfl fun a hs => ?_
  refine sv hs (y_pickF rfl rfl) rfl fun a hs => ?_
  refine wpList_nil ?_
  have hsh := oi hsh
  subst hsh
  refine then_normal ?_
  exact ⟨Sv30, (hs.wk rfl), (hw.ft [1] [1] (by decide) rfl rfl)⟩
 rintro a w ⟨Sv62, hs, hw⟩
 refine mv hs rfl rfl fun a hs => ?_
 obtain ⟨c98, hc98, hsh⟩ := bind_t hsh
 refine wpl_join 7 (fun a w => ∃ (Sv99 : Nat → Prop), Sl 45 [(3, .int .i64 rv36.1), (4, .bool rv36.2), (37, .bool c98)] a ∧ Wd ⟨w0, S0, []⟩ Sv99 [] [] w) ?_ ?_
 ·rcases Bool.eq_false_or_eq_true c61 with h97 | h97
  ·have hs := hs.fix 30 (.bool true) rfl (vb h97)
   have hsh := ite_t hc98 h97
   refine st_val hs (y_move rfl) ⟨_, rfl, rfl⟩ rfl rfl fun a hs => ?_
   obtain ⟨x102, h100, hsh⟩ := bind_t hsh
   obtain ⟨b109, q106, c107, h110, h103, h104, h108, h101⟩ := hw.elemRV (α := Record) 0 rfl 0 rfl h100
   have hsv111 := hs
   have hwv112 := hw
   subst h110
   have hs := hsv111
   have hw := hwv112
   obtain ⟨_, _, _, _, _, _, _, _, _, _, _, _, rfl, rfl, rfl, rfl, rfl, rfl, rfl, rfl, rfl, rfl, rfl, rfl, ⟨p113, n114, k115, rfl, h116⟩⟩ := h101
   obtain rfl := h116.1
   have hw := hw.addE (e := SlA p113 _ k115 x102.Samples) h116
   refine st_val hs (y_indexAt Tryz.runUnderlying27 Tryz.sizeOf35 rfl rfl h103.1 h103.2 h104) ⟨_, rfl, rfl⟩ rfl rfl fun a hs => ?_
   refine st_val hs (y_fieldAddr (o' := q106 + 11) Tryz.runUnderlying35 rfl Tryz.sizeOf22 rfl rfl rfl) ⟨_, rfl, rfl⟩ rfl rfl fun a hs => ?_
   refine st_val hs (y_loadQ1 (j := 11) (hw.ownAt 0 rfl) rfl Tryz.isAgg22 h108 rfl) ⟨_, rfl, rfl⟩ rfl rfl fun a hs => ?_
   refine st_val hs (y_len Tryz.runUnderlying22 rfl) ⟨_, rfl, rfl⟩ rfl rfl fun a hs => ?_
   refine st_val hs (y_eql rfl rfl) ⟨_, rfl, rfl⟩ rfl rfl fun a hs => ?_
   refine sv hs (y_pickT rfl rfl) rfl fun a hs => ?_
   refine wpList_nil ?_
   have hsh := oi hsh
   subst hsh
   refine then_normal ?_
   exact ⟨Sv62, (hs.wk rfl), (hw.ft [] [] (by decide) rfl rfl)⟩
  have hs := hs.fix 30 (.bool false) rfl (vb h97)
  have hsh := ite_f hc98 h97
  refine st_skip hs rfl rfl rfl rfl rfl fun a hs => ?_
  refine st_skip hs rfl rfl rfl rfl rfl fun a hs => ?_
  refine st_skip hs rfl rfl rfl rfl rfl fun a hs => ?_
  refine st_skip hs rfl rfl rfl rfl rfl fun a hs => ?_
  refine st_skip hs rfl rfl rfl rfl rfl fun a hs => ?_
  refine st_skip hs rfl rfl rfl rfl rfl fun a hs => ?_
  refine sv hs (y_pickF rfl rfl) rfl fun a hs => ?_
  refine wpList_nil ?_
  have hsh := oi hsh
  subst hsh
  refine then_normal ?_
  exact ⟨Sv62, (hs.wk rfl), (hw.ft [] [] (by decide) rfl rfl)⟩
 rintro a w ⟨Sv99, hs, hw⟩
 refine mv hs rfl rfl fun a hs => ?_
 refine wpl_join 2 (fun a w1 => w = w1 ∧ Sl 45 [(3, .int .i64 rv36.1), (40, .bool (c98 && rv36.2))] a) ?_ ?_
 ·rcases Bool.eq_false_or_eq_true c98 with h117 | h117
  ·have hs := hs.fix 38 (.bool true) rfl (vb h117)
   refine st_val hs (y_move rfl) ⟨_, rfl, rfl⟩ rfl rfl fun a hs => ?_
   refine sv hs (y_pickT rfl rfl) rfl fun a hs => ?_
   refine nl ?_
   exact ⟨rfl, (hs.fix 40 (.bool (c98 && rv36.2)) rfl (and_t h117)).weaken _ ⟨rfl, rfl, trivial⟩⟩
  have hs := hs.fix 38 (.bool false) rfl (vb h117)
  refine st_skip hs rfl rfl rfl rfl rfl fun a hs => ?_
  refine sv hs (y_pickF rfl rfl) rfl fun a hs => ?_
  refine nl ?_
  exact ⟨rfl, (hs.fix 40 (.bool (c98 && rv36.2)) rfl (and_f h117)).weaken _ ⟨rfl, rfl, trivial⟩⟩
 rintro a w1 ⟨h120, hs⟩
 subst h120
 refine mv hs rfl rfl fun a hs => ?_
 refine wpl_join 3 (fun a w1 => w = w1 ∧ Sl 45 [(44, .bool ((c98 && rv36.2) && (rv36.1 == 5)))] a) ?_ ?_
 ·rcases Bool.eq_false_or_eq_true (c98 && rv36.2) with h118 | h118
  ·have hs := hs.fix 41 (.bool true) rfl (vb h118)
   refine st_val hs (y_move rfl) ⟨_, rfl, rfl⟩ rfl rfl fun a hs => ?_
   refine st_val hs (y_eql rfl rfl) ⟨_, rfl, rfl⟩ rfl rfl fun a hs => ?_
   refine sv hs (y_pickT rfl rfl) rfl fun a hs => ?_
   refine nl ?_
   exact ⟨rfl, (hs.fix 44 (.bool ((c98 && rv36.2) && (rv36.1 == 5))) rfl (and_t h118)).weaken _ ⟨rfl, trivial⟩⟩
  have hs := hs.fix 41 (.bool false) rfl (vb h118)
  refine st_skip hs rfl rfl rfl rfl rfl fun a hs => ?_
  refine st_skip hs rfl rfl rfl rfl rfl fun a hs => ?_
  refine sv hs (y_pickF rfl rfl) rfl fun a hs => ?_
  refine nl ?_
  exact ⟨rfl, (hs.fix 44 (.bool ((c98 && rv36.2) && (rv36.1 == 5))) rfl (and_f h118)).weaken _ ⟨rfl, trivial⟩⟩
 rintro a w1 ⟨h119, hs⟩
 subst h119
 refine av hs rfl rfl fun a hs => ?_
 refine nl ?_
 have hsh := oi hsh
 subst hsh
 refine wp_ret ?_
 exact ret1 hs rfl (rv_tmp rfl) (hw.ret rfl)

abbrev made_Roll_rd (w0 : World) (X : List Nat) (r : Dice) : (Nat → Prop) → World → Value → Prop := fun S w v => ∃ (b_0 : Nat) (p0_0 : Option Addr) (k0_0 : Nat), v = .pointer (some ⟨b_0, 0, none⟩) ∧ Outs X w0 S w [.box b_0 [.slice p0_0 r.L.length k0_0, .int .i64 r.At] 75] ∧ (SlA p0_0 r.L.length k0_0 r.L).p S w
set_option maxHeartbeats 4000000 in
set_option maxRecDepth 100000 in
theorem made_Roll_ok {w0 : World} {S0 : Nat → Prop} {p2 : Option Addr} {k3 : Nat} {l1 : (List Int)} {r : Dice} (hsh : made_Roll l1 = some r) (hS : ∀ b, S0 b → b < w0.heap.size) (h4 : (SlA p2 l1.length k3 l1).p S0 w0) : Calls Tryz.prog 13 #[.slice p2 l1.length k3] w0 (Ret ([]) w0 S0 (made_Roll_rd w0 ([]) r)) := by
 refine calls_of_wp Tryz.func13 rfl ?_
 have hs := Sl.enter #[.slice p2 l1.length k3] 6 [(0, .slice p2 l1.length k3)] rfl ⟨rfl, trivial⟩
 have hw := Wd.enter (E := []) hS (fun _ h => (by cases h))
 have hw := hw.addE h4
 delta made_Roll at hsh
 refine sr ?_
 refine av hs rfl rfl fun a hs => ?_
 refine nl ?_
 refine sr ?_
 refine mv hs rfl rfl fun a hs => ?_
 refine sv hs (y_build (vs := [(0, .slice p2 l1.length k3)]) Bld75 rfl rfl) rfl fun a hs => ?_
 refine w_box (cs := [.slice p2 l1.length k3, .int .i64 0]) hs hw rfl rfl rfl trivial ?_
 intro b5 a w hs hw
 refine av hs rfl rfl fun a hs => ?_
 refine nl ?_
 have hsh := oi hsh
 subst hsh
 refine wp_ret ?_
 exact ret1 hs rfl (rv_tmp rfl) (hw.ret ⟨b5, p2, k3, rfl, (hw.outs [0] (by decide) rfl), (hw.envAt 0 rfl)⟩)

abbrev made_Dice_Next_rd (w0 : World) (X : List Nat) (b2 : Nat) (r : (Int × Dice)) : (Nat → Prop) → World → Value → Prop := fun S w v => ∃ (pq0_0 : Option Addr) (kq0_0 : Nat), v = .int .i64 r.1 ∧ Outs X w0 S w [.box b2 [.slice pq0_0 r.2.L.length kq0_0, .int .i64 r.2.At] 75] ∧ (SlA pq0_0 r.2.L.length kq0_0 r.2.L).p S w
set_option maxHeartbeats 4000000 in
set_option maxRecDepth 100000 in
theorem made_Dice_Next_ok {w0 : World} {S0 : Nat → Prop} {b2 : Nat} {p3 : Option Addr} {k4 : Nat} {d1 : Dice} {n6 : Int} {r : (Int × Dice)} (hsh : made_Dice_Next d1 n6 = some r) (hS : ∀ b, S0 b → b < w0.heap.size) (hin : Ins S0 w0 [.box b2 [.slice p3 d1.L.length k4, .int .i64 d1.At] 75]) (h5 : (SlA p3 d1.L.length k4 d1.L).p S0 w0) : Calls Tryz.prog 15 #[.pointer (some ⟨b2, 0, none⟩), .int .i64 n6] w0 (Ret (blks [.box b2 [.slice p3 d1.L.length k4, .int .i64 d1.At] 75]) w0 S0 (made_Dice_Next_rd w0 (blks [.box b2 [.slice p3 d1.L.length k4, .int .i64 d1.At] 75]) b2 r)) := by
 refine calls_of_wp Tryz.func15 rfl ?_
 have hs := Sl.enter #[.pointer (some ⟨b2, 0, none⟩), .int .i64 n6] 45 [(0, .pointer (some ⟨b2, 0, none⟩)), (1, .int .i64 n6)] rfl ⟨rfl, rfl, trivial⟩
 have hw := Wd.enterI hS hin
 have hw := hw.addE h5
 delta made_Dice_Next at hsh
 refine sr ?_
 refine av hs rfl rfl fun a hs => ?_
 refine nl ?_
 refine wp_seq ?_
 refine wp_seq ?_
 refine wp_only (fun a w => ∃ (Sv7 : Nat → Prop), Sl 45 [(0, .pointer (some ⟨b2, 0, none⟩)), (1, .int .i64 n6), (19, .bool ((decide ((d1.L.length : Int) ≤ d1.At)) || (decide (n6 < 1))))] a ∧ Wd ⟨w0, S0, blks [.box b2 [.slice p3 d1.L.length k4, .int .i64 d1.At] 75]⟩ Sv7 [.box b2 [.slice p3 d1.L.length k4, .int .i64 d1.At] 75] [SlA p3 d1.L.length k4 d1.L] w) ?_ ?_
 ·rcases Bool.eq_false_or_eq_true (decide ((d1.L.length : Int) ≤ d1.At)) with h8 | h8
  ·refine h_b (C := Cls [.box b2 [.slice p3 d1.L.length k4, .int .i64 d1.At] 75] []) (by kernel_rfl) rfl (hw.drew.cs [0] [] rfl rfl) fun hC => ?_
   have hw := hw.drew
   refine gm hs 0 rfl rfl rfl hC fun a hs => ?_
   refine gv hs 1 rfl rfl hC (fun w hC => y_nilCheck rfl) fun a hs => ?_
   refine gv hs 2 rfl rfl hC (fun w hC => y_fieldAddr (o' := 1) Tryz.runUnderlying75 rfl Tryz.sizeOf3 rfl rfl rfl) fun a hs => ?_
   refine gv hs 3 rfl rfl hC (fun w hC => y_loadB1 (hC.ownAt 0 rfl) rfl Tryz.isAgg3 rfl) fun a hs => ?_
   refine gm hs 4 rfl rfl rfl hC fun a hs => ?_
   refine gv hs 5 rfl rfl hC (fun w hC => y_nilCheck rfl) fun a hs => ?_
   refine gv hs 6 rfl rfl hC (fun w hC => y_fieldAddr (o' := 0) Tryz.runUnderlying75 rfl Tryz.sizeOf22 rfl rfl rfl) fun a hs => ?_
   refine gv hs 7 rfl rfl hC (fun w hC => y_loadB1 (hC.ownAt 0 rfl) rfl Tryz.isAgg22 rfl) fun a hs => ?_
   refine gv hs 8 rfl rfl hC (fun w hC => y_len Tryz.runUnderlying22 rfl) fun a hs => ?_
   refine gv hs 9 rfl rfl hC (fun w hC => y_geq rfl rfl) fun a hs => ?_
   refine gm hs 10 rfl rfl rfl hC fun a hs => ?_
   have hs := hs.fix 16 (.bool true) rfl (vb h8)
   refine gs hs 11 rfl rfl rfl rfl hC fun a hs => ?_
   refine gs hs 12 rfl rfl rfl rfl hC fun a hs => ?_
   refine gv hs 13 rfl rfl hC (fun w hC => y_pickTE (v := .bool ((decide ((d1.L.length : Int) ≤ d1.At)) || (decide (n6 < 1)))) rfl rfl (or_t h8)) fun a hs => ?_
   refine h_done (by kernel_rfl) ?_
   exact ⟨S0, (hs.wk rfl), (hw.ft [0] [0] (by decide) rfl rfl)⟩
  refine h_b (C := Cls [.box b2 [.slice p3 d1.L.length k4, .int .i64 d1.At] 75] []) (by kernel_rfl) rfl (hw.drew.cs [0] [] rfl rfl) fun hC => ?_
  have hw := hw.drew
  refine gm hs 0 rfl rfl rfl hC fun a hs => ?_
  refine gv hs 1 rfl rfl hC (fun w hC => y_nilCheck rfl) fun a hs => ?_
  refine gv hs 2 rfl rfl hC (fun w hC => y_fieldAddr (o' := 1) Tryz.runUnderlying75 rfl Tryz.sizeOf3 rfl rfl rfl) fun a hs => ?_
  refine gv hs 3 rfl rfl hC (fun w hC => y_loadB1 (hC.ownAt 0 rfl) rfl Tryz.isAgg3 rfl) fun a hs => ?_
  refine gm hs 4 rfl rfl rfl hC fun a hs => ?_
  refine gv hs 5 rfl rfl hC (fun w hC => y_nilCheck rfl) fun a hs => ?_
  refine gv hs 6 rfl rfl hC (fun w hC => y_fieldAddr (o' := 0) Tryz.runUnderlying75 rfl Tryz.sizeOf22 rfl rfl rfl) fun a hs => ?_
  refine gv hs 7 rfl rfl hC (fun w hC => y_loadB1 (hC.ownAt 0 rfl) rfl Tryz.isAgg22 rfl) fun a hs => ?_
  refine gv hs 8 rfl rfl hC (fun w hC => y_len Tryz.runUnderlying22 rfl) fun a hs => ?_
  refine gv hs 9 rfl rfl hC (fun w hC => y_geq rfl rfl) fun a hs => ?_
  refine gm hs 10 rfl rfl rfl hC fun a hs => ?_
  have hs := hs.fix 16 (.bool false) rfl (vb h8)
  refine gt hs 11 rfl ⟨_, rfl, rfl⟩ rfl hC (fun w hC => y_move rfl) fun a hs => ?_
  refine gt hs 12 rfl ⟨_, rfl, rfl⟩ rfl hC (fun w hC => y_lss rfl rfl) fun a hs => ?_
  refine gv hs 13 rfl rfl hC (fun w hC => y_pickFE (v := .bool ((decide ((d1.L.length : Int) ≤ d1.At)) || (decide (n6 < 1)))) rfl rfl (or_f h8)) fun a hs => ?_
  refine h_done (by kernel_rfl) ?_
  exact ⟨S0, (hs.wk rfl), (hw.ft [0] [0] (by decide) rfl rfl)⟩
 rintro a w ⟨Sv7, hs, hw⟩
 refine then_normal ?_
 refine wp_cond_split (hs.ev rfl) (fun h12 => ?_) (fun h12 => ?_)
 ·have hsh := ite_t hsh h12
  refine sr ?_
  refine av hs rfl rfl fun a hs => ?_
  refine nl ?_
  have hsh := oi hsh
  subst hsh
  refine wp_ret ?_
  refine then_ret ?_
  exact ret1 hs rfl (rv_tmp rfl) (hw.ret ⟨p3, k4, rfl, (hw.outs [0] (by decide) rfl), (hw.envAt 0 rfl)⟩)
 have hsh := ite_f hsh h12
 refine wp_skip ?_
 refine then_normal ?_
 refine wp_seq ?_
 obtain ⟨x15, h13, hsh⟩ := bind_t hsh
 obtain ⟨b21, o22, q19, c20, h23, h16, h17, h18, h14⟩ := hw.elemV 0 rfl h13
 have hsv24 := hs
 have hwv25 := hw
 subst h23
 have hs := hsv24
 have hw := hwv25
 obtain ⟨_, rfl, rfl⟩ := h14
 have hw := hw.addE h18
 obtain ⟨rem27, h26, hsh⟩ := bind_t hsh
 refine wp_only (fun a w => ∃ (Sv28 : Nat → Prop), Sl 45 [(0, .pointer (some ⟨b2, 0, none⟩)), (1, .int .i64 n6), (5, .int .i64 rem27)] a ∧ Wd ⟨w0, S0, blks [.box b2 [.slice (some ⟨b21, o22, none⟩) d1.L.length k4, .int .i64 d1.At] 75]⟩ Sv28 [.box b2 [.slice (some ⟨b21, o22, none⟩) d1.L.length k4, .int .i64 d1.At] 75] [SlA (some ⟨b21, o22, none⟩) d1.L.length k4 d1.L] w) ?_ ?_
 ·refine h_b (C := Cls [.box b2 [.slice (some ⟨b21, o22, none⟩) d1.L.length k4, .int .i64 d1.At] 75] [CeA b21 q19 [.int .i64 x15]]) (by kernel_rfl) rfl (hw.drew.cs [0] [0] rfl rfl) fun hC => ?_
  have hw := hw.drew
  refine gm hs 0 rfl rfl rfl hC fun a hs => ?_
  refine gv hs 1 rfl rfl hC (fun w hC => y_nilCheck rfl) fun a hs => ?_
  refine gv hs 2 rfl rfl hC (fun w hC => y_fieldAddr (o' := 0) Tryz.runUnderlying75 rfl Tryz.sizeOf22 rfl rfl rfl) fun a hs => ?_
  refine gv hs 3 rfl rfl hC (fun w hC => y_loadB1 (hC.ownAt 0 rfl) rfl Tryz.isAgg22 rfl) fun a hs => ?_
  refine gm hs 4 rfl rfl rfl hC fun a hs => ?_
  refine gv hs 5 rfl rfl hC (fun w hC => y_nilCheck rfl) fun a hs => ?_
  refine gv hs 6 rfl rfl hC (fun w hC => y_fieldAddr (o' := 1) Tryz.runUnderlying75 rfl Tryz.sizeOf3 rfl rfl rfl) fun a hs => ?_
  refine gv hs 7 rfl rfl hC (fun w hC => y_loadB1 (hC.ownAt 0 rfl) rfl Tryz.isAgg3 rfl) fun a hs => ?_
  refine gv hs 8 rfl rfl hC (fun w hC => y_indexAt Tryz.runUnderlying22 Tryz.sizeOf3 rfl rfl h16.1 h16.2 h17) fun a hs => ?_
  refine gv hs 9 rfl rfl hC (fun w hC => y_loadE1 (j := 0) (hC.ceAt 0 rfl) rfl Tryz.isAgg3 rfl) fun a hs => ?_
  refine gm hs 10 rfl rfl rfl hC fun a hs => ?_
  refine gv hs 11 rfl rfl hC (fun w hC => y_remM rfl rfl h26) fun a hs => ?_
  refine gv hs 12 rfl rfl hC (fun w hC => y_assign rfl) fun a hs => ?_
  refine h_done (by kernel_rfl) ?_
  exact ⟨Sv7, (hs.wk rfl), (hw.ft [0] [1] (by decide) rfl rfl)⟩
 rintro a w ⟨Sv28, hs, hw⟩
 refine then_normal ?_
 refine sr ?_
 refine mv hs rfl rfl fun a hs => ?_
 refine sv hs (y_nilCheck rfl) rfl fun a hs => ?_
 refine sv hs (y_fieldAddr (o' := 1) Tryz.runUnderlying75 rfl Tryz.sizeOf3 rfl rfl rfl) rfl fun a hs => ?_
 refine sv hs (y_loadB1 (hw.ownAt 0 rfl) rfl Tryz.isAgg3 rfl) rfl fun a hs => ?_
 refine sv hs (y_add rfl rfl) rfl fun a hs => ?_
 refine sv hs (y_nilCheck rfl) rfl fun a hs => ?_
 refine sv hs (y_fieldAddr (o' := 1) Tryz.runUnderlying75 rfl Tryz.sizeOf3 rfl rfl rfl) rfl fun a hs => ?_
 refine w_store (m := 1) (cs' := [.slice (some ⟨b21, o22, none⟩) d1.L.length k4, .int .i64 (w64 (d1.At + 1))]) hs hw 0 rfl rfl rfl Tryz.sizeOf3 rfl rfl rfl rfl trivial ?_
 intro a w hs hw
 refine nl ?_
 refine wp_seq ?_
 refine sr ?_
 refine mv hs rfl rfl fun a hs => ?_
 refine sv hs (y_lss rfl rfl) rfl fun a hs => ?_
 refine nl ?_
 refine wp_join (fun a w => ∃ (x33 : Int) (Sv32 : Nat → Prop), made_Dice_Next_j1 d1 x33 = some r ∧ Sl 45 [(5, .int .i64 x33)] a ∧ Wd ⟨w0, S0, blks [.box b2 [.slice (some ⟨b21, o22, none⟩) d1.L.length k4, .int .i64 d1.At] 75]⟩ Sv32 [.box b2 [.slice (some ⟨b21, o22, none⟩) d1.L.length k4, .int .i64 (w64 (d1.At + 1))] 75] [SlA (some ⟨b21, o22, none⟩) d1.L.length k4 d1.L] w) ?_ ?_
 ·refine wp_cond_split (hs.ev rfl) (fun h34 => ?_) (fun h34 => ?_)
  ·have hsh := ite_t hsh h34
   refine wp_region_lit ?_
   refine mv hs rfl rfl fun a hs => ?_
   refine mv hs rfl rfl fun a hs => ?_
   refine sv hs (y_add rfl rfl) rfl fun a hs => ?_
   obtain ⟨x36, h35, hsh⟩ := bind_t hsh
   refine sv hs (y_assignI rfl h35) rfl fun a hs => ?_
   refine nl ?_
   exact ⟨x36, Sv28, hsh, (hs.wk rfl), (hw.ft [0] [0] (by decide) rfl rfl)⟩
  have hsh := ite_f hsh h34
  refine wp_skip ?_
  refine then_normal ?_
  exact ⟨rem27, Sv28, hsh, (hs.wk rfl), (hw.ft [0] [0] (by decide) rfl rfl)⟩
 rintro a w ⟨x33, Sv32, hsh, hs, hw⟩
 delta made_Dice_Next_j1 at hsh
 refine then_normal ?_
 refine sr ?_
 refine mv hs rfl rfl fun a hs => ?_
 refine av hs rfl rfl fun a hs => ?_
 refine nl ?_
 have hsh := oi hsh
 subst hsh
 refine wp_ret ?_
 exact ret1 hs rfl (rv_tmp rfl) (hw.ret ⟨(some ⟨b21, o22, none⟩), k4, rfl, (hw.outs [0] (by decide) rfl), (hw.envAt 0 rfl)⟩)

abbrev made_Dice_Source_rd (w0 : World) (X : List Nat) (b2 : Nat) (r : (SourceID × Dice)) : (Nat → Prop) → World → Value → Prop := fun S w v => ∃ (pq0_0 : Option Addr) (kq0_0 : Nat), v = .agg #[.string r.1.Network, .string r.1.Station, .string r.1.Location, .string r.1.Channel] ∧ Outs X w0 S w [.box b2 [.slice pq0_0 r.2.L.length kq0_0, .int .i64 r.2.At] 75] ∧ (SlA pq0_0 r.2.L.length kq0_0 r.2.L).p S w
abbrev D19t1 (b2 : Nat) (b6 : Nat) : Slots := [(0, .pointer (some ⟨b2, 0, none⟩)), (2, .pointer (some ⟨b6, 0, none⟩))]
abbrev D19t2 (b2 : Nat) (b24 : Nat) (b40 : Nat) (b56 : Nat) (b8 : Nat) (rv10 : (Int × Dice)) (rv26 : (Int × Dice)) (rv42 : (Int × Dice)) (rv58 : (Int × Dice)) (x16 : ByteArray) (x32 : ByteArray) (x48 : ByteArray) (x64 : ByteArray) : Vs := [(0, 3, .slice (some ⟨b8, 0, none⟩) ([(⟨#[71, 82]⟩ : ByteArray), (⟨#[88]⟩ : ByteArray), (⟨#[55, 65]⟩ : ByteArray)] : List ByteArray).length ([(⟨#[71, 82]⟩ : ByteArray), (⟨#[88]⟩ : ByteArray), (⟨#[55, 65]⟩ : ByteArray)] : List ByteArray).length), (1, 4, .pointer (some ⟨b2, 0, none⟩)), (2, 5, .int .i64 rv10.1), (3, 6, .pointer (some ⟨b8, (0 + (rv10.1).toNat * 1), none⟩)), (4, 7, .string x16), (5, 8, .slice (some ⟨b24, 0, none⟩) ([(⟨#[70, 85, 82]⟩ : ByteArray), (⟨#[65]⟩ : ByteArray), (⟨#[65, 66, 67, 68, 69]⟩ : ByteArray), (⟨#[70, 85]⟩ : ByteArray)] : List ByteArray).length ([(⟨#[70, 85, 82]⟩ : ByteArray), (⟨#[65]⟩ : ByteArray), (⟨#[65, 66, 67, 68, 69]⟩ : ByteArray), (⟨#[70, 85]⟩ : ByteArray)] : List ByteArray).length), (6, 9, .pointer (some ⟨b2, 0, none⟩)), (7, 10, .int .i64 rv26.1), (8, 11, .pointer (some ⟨b24, (0 + (rv26.1).toNat * 1), none⟩)), (9, 12, .string x32), (10, 13, .slice (some ⟨b40, 0, none⟩) ([(⟨#[]⟩ : ByteArray), (⟨#[48, 48]⟩ : ByteArray), (⟨#[49, 48]⟩ : ByteArray)] : List ByteArray).length ([(⟨#[]⟩ : ByteArray), (⟨#[48, 48]⟩ : ByteArray), (⟨#[49, 48]⟩ : ByteArray)] : List ByteArray).length), (11, 14, .pointer (some ⟨b2, 0, none⟩)), (12, 15, .int .i64 rv42.1), (13, 16, .pointer (some ⟨b40, (0 + (rv42.1).toNat * 1), none⟩)), (14, 17, .string x48), (15, 18, .slice (some ⟨b56, 0, none⟩) ([(⟨#[72, 72, 90]⟩ : ByteArray), (⟨#[72, 72, 78]⟩ : ByteArray), (⟨#[66, 72, 90]⟩ : ByteArray)] : List ByteArray).length ([(⟨#[72, 72, 90]⟩ : ByteArray), (⟨#[72, 72, 78]⟩ : ByteArray), (⟨#[66, 72, 90]⟩ : ByteArray)] : List ByteArray).length), (16, 19, .pointer (some ⟨b2, 0, none⟩)), (17, 20, .int .i64 rv58.1), (18, 21, .pointer (some ⟨b56, (0 + (rv58.1).toNat * 1), none⟩)), (19, 22, .string x64), (20, 23, .agg #[.string x16, .string x32, .string x48, .string x64])]
abbrev D19t3 : List Value := [.string (⟨#[71, 82]⟩ : ByteArray), .string (⟨#[88]⟩ : ByteArray), .string (⟨#[55, 65]⟩ : ByteArray)]
abbrev D19t4 : List ByteArray := ([(⟨#[71, 82]⟩ : ByteArray), (⟨#[88]⟩ : ByteArray), (⟨#[55, 65]⟩ : ByteArray)] : List ByteArray)
abbrev D19t5 : List Value := [.string (⟨#[70, 85, 82]⟩ : ByteArray), .string (⟨#[65]⟩ : ByteArray), .string (⟨#[65, 66, 67, 68, 69]⟩ : ByteArray), .string (⟨#[70, 85]⟩ : ByteArray)]
abbrev D19t6 : List ByteArray := ([(⟨#[70, 85, 82]⟩ : ByteArray), (⟨#[65]⟩ : ByteArray), (⟨#[65, 66, 67, 68, 69]⟩ : ByteArray), (⟨#[70, 85]⟩ : ByteArray)] : List ByteArray)
abbrev D19t7 : List Value := [.string (⟨#[]⟩ : ByteArray), .string (⟨#[48, 48]⟩ : ByteArray), .string (⟨#[49, 48]⟩ : ByteArray)]
abbrev D19t8 : List ByteArray := ([(⟨#[]⟩ : ByteArray), (⟨#[48, 48]⟩ : ByteArray), (⟨#[49, 48]⟩ : ByteArray)] : List ByteArray)
abbrev D19t9 : List Value := [.string (⟨#[72, 72, 90]⟩ : ByteArray), .string (⟨#[72, 72, 78]⟩ : ByteArray), .string (⟨#[66, 72, 90]⟩ : ByteArray)]
abbrev D19t10 : List ByteArray := ([(⟨#[72, 72, 90]⟩ : ByteArray), (⟨#[72, 72, 78]⟩ : ByteArray), (⟨#[66, 72, 90]⟩ : ByteArray)] : List ByteArray)
set_option maxHeartbeats 4000000 in
set_option maxRecDepth 100000 in
theorem made_Dice_Source_ok {w0 : World} {S0 : Nat → Prop} {b2 : Nat} {p3 : Option Addr} {k4 : Nat} {d1 : Dice} {r : (SourceID × Dice)} (hsh : made_Dice_Source d1 = some r) (hS : ∀ b, S0 b → b < w0.heap.size) (hin : Ins S0 w0 [.box b2 [.slice p3 d1.L.length k4, .int .i64 d1.At] 75]) (h5 : (SlA p3 d1.L.length k4 d1.L).p S0 w0) : Calls Tryz.prog 19 #[.pointer (some ⟨b2, 0, none⟩)] w0 (Ret (blks [.box b2 [.slice p3 d1.L.length k4, .int .i64 d1.At] 75]) w0 S0 (made_Dice_Source_rd w0 (blks [.box b2 [.slice p3 d1.L.length k4, .int .i64 d1.At] 75]) b2 r)) := by
 refine calls_of_wp Tryz.func19 rfl ?_
 have hs := Sl.enter #[.pointer (some ⟨b2, 0, none⟩)] 24 [(0, .pointer (some ⟨b2, 0, none⟩))] rfl ⟨rfl, trivial⟩
 have hw := Wd.enterI hS hin
 have hw := hw.addE h5
 delta made_Dice_Source at hsh
 refine sr ?_
 refine w_alloc (cs := [.string ByteArray.empty, .string ByteArray.empty, .string ByteArray.empty, .string ByteArray.empty]) hs hw Tryz.zeroValue31 rfl rfl trivial ?_
 intro b6 a w hs hw
 refine nl ?_
 refine wp_seq ?_
 obtain ⟨rv10, h9, hsh⟩ := bind_t hsh
 obtain ⟨x16, h14, hsh⟩ := bind_t hsh
 obtain ⟨rv26, h25, hsh⟩ := bind_t hsh
 obtain ⟨x32, h30, hsh⟩ := bind_t hsh
 obtain ⟨rv42, h41, hsh⟩ := bind_t hsh
 obtain ⟨x48, h46, hsh⟩ := bind_t hsh
 obtain ⟨rv58, h57, hsh⟩ := bind_t hsh
 obtain ⟨x64, h62, hsh⟩ := bind_t hsh
 refine wp_only (fun a w => ∃ (Sv71 : Nat → Prop) (k60 : Nat) (p59 : Option Addr), Sl 24 [(2, .pointer (some ⟨b6, 0, none⟩))] a ∧ Wd ⟨w0, S0, blks [.box b2 [.slice p3 d1.L.length k4, .int .i64 d1.At] 75]⟩ Sv71 [.box b2 [.slice p59 rv58.2.L.length k60, .int .i64 rv58.2.At] 75, .box b6 [.string x16, .string x32, .string x48, .string x64] 31] [SlA p59 rv58.2.L.length k60 rv58.2.L] w) ?_ ?_
 ·refine wp_region_phi (n := 22) (Φ := fun l a w => ∃ (b24 : Nat) (b40 : Nat) (b56 : Nat) (b8 : Nat) (k12 : Nat) (k28 : Nat) (k44 : Nat) (k60 : Nat) (p11 : Option Addr) (p27 : Option Addr) (p43 : Option Addr) (p59 : Option Addr) (S : Nat → Prop), SlF 24 (D19t1 b2 b6) (D19t2 b2 b24 b40 b56 b8 rv10 rv26 rv42 rv58 x16 x32 x48 x64) l a ∧ Wd ⟨w0, S0, blks [.box b2 [.slice p3 d1.L.length k4, .int .i64 d1.At] 75]⟩ S [((bif l 21 then .box b6 [.string x16, .string x32, .string x48, .string x64] 31 else .box b6 [.string ByteArray.empty, .string ByteArray.empty, .string ByteArray.empty, .string ByteArray.empty] 31) : Res), ((bif l 17 then .box b2 [.slice p59 rv58.2.L.length k60, .int .i64 rv58.2.At] 75 else (bif l 12 then .box b2 [.slice p43 rv42.2.L.length k44, .int .i64 rv42.2.At] 75 else (bif l 7 then .box b2 [.slice p27 rv26.2.L.length k28, .int .i64 rv26.2.At] 75 else (bif l 2 then .box b2 [.slice p11 rv10.2.L.length k12, .int .i64 rv10.2.At] 75 else .box b2 [.slice p3 d1.L.length k4, .int .i64 d1.At] 75)))) : Res), ((bif l 0 then .row (some ⟨b8, 0, none⟩) ([(⟨#[71, 82]⟩ : ByteArray), (⟨#[88]⟩ : ByteArray), (⟨#[55, 65]⟩ : ByteArray)] : List ByteArray).length ([(⟨#[71, 82]⟩ : ByteArray), (⟨#[88]⟩ : ByteArray), (⟨#[55, 65]⟩ : ByteArray)] : List ByteArray).length [.string (⟨#[71, 82]⟩ : ByteArray), .string (⟨#[88]⟩ : ByteArray), .string (⟨#[55, 65]⟩ : ByteArray)] 9 1 else emp) : Res), ((bif l 5 then .row (some ⟨b24, 0, none⟩) ([(⟨#[70, 85, 82]⟩ : ByteArray), (⟨#[65]⟩ : ByteArray), (⟨#[65, 66, 67, 68, 69]⟩ : ByteArray), (⟨#[70, 85]⟩ : ByteArray)] : List ByteArray).length ([(⟨#[70, 85, 82]⟩ : ByteArray), (⟨#[65]⟩ : ByteArray), (⟨#[65, 66, 67, 68, 69]⟩ : ByteArray), (⟨#[70, 85]⟩ : ByteArray)] : List ByteArray).length [.string (⟨#[70, 85, 82]⟩ : ByteArray), .string (⟨#[65]⟩ : ByteArray), .string (⟨#[65, 66, 67, 68, 69]⟩ : ByteArray), .string (⟨#[70, 85]⟩ : ByteArray)] 9 1 else emp) : Res), ((bif l 10 then .row (some ⟨b40, 0, none⟩) ([(⟨#[]⟩ : ByteArray), (⟨#[48, 48]⟩ : ByteArray), (⟨#[49, 48]⟩ : ByteArray)] : List ByteArray).length ([(⟨#[]⟩ : ByteArray), (⟨#[48, 48]⟩ : ByteArray), (⟨#[49, 48]⟩ : ByteArray)] : List ByteArray).length [.string (⟨#[]⟩ : ByteArray), .string (⟨#[48, 48]⟩ : ByteArray), .string (⟨#[49, 48]⟩ : ByteArray)] 9 1 else emp) : Res), ((bif l 15 then .row (some ⟨b56, 0, none⟩) ([(⟨#[72, 72, 90]⟩ : ByteArray), (⟨#[72, 72, 78]⟩ : ByteArray), (⟨#[66, 72, 90]⟩ : ByteArray)] : List ByteArray).length ([(⟨#[72, 72, 90]⟩ : ByteArray), (⟨#[72, 72, 78]⟩ : ByteArray), (⟨#[66, 72, 90]⟩ : ByteArray)] : List ByteArray).length [.string (⟨#[72, 72, 90]⟩ : ByteArray), .string (⟨#[72, 72, 78]⟩ : ByteArray), .string (⟨#[66, 72, 90]⟩ : ByteArray)] 9 1 else emp) : Res)] [SlA p3 d1.L.length k4 d1.L, optA (l 0) (RowA [.string (⟨#[71, 82]⟩ : ByteArray), .string (⟨#[88]⟩ : ByteArray), .string (⟨#[55, 65]⟩ : ByteArray)] ([(⟨#[71, 82]⟩ : ByteArray), (⟨#[88]⟩ : ByteArray), (⟨#[55, 65]⟩ : ByteArray)] : List ByteArray)), optA (l 2) (SlA p11 rv10.2.L.length k12 rv10.2.L), optA (l 5) (RowA [.string (⟨#[70, 85, 82]⟩ : ByteArray), .string (⟨#[65]⟩ : ByteArray), .string (⟨#[65, 66, 67, 68, 69]⟩ : ByteArray), .string (⟨#[70, 85]⟩ : ByteArray)] ([(⟨#[70, 85, 82]⟩ : ByteArray), (⟨#[65]⟩ : ByteArray), (⟨#[65, 66, 67, 68, 69]⟩ : ByteArray), (⟨#[70, 85]⟩ : ByteArray)] : List ByteArray)), optA (l 7) (SlA p27 rv26.2.L.length k28 rv26.2.L), optA (l 10) (RowA [.string (⟨#[]⟩ : ByteArray), .string (⟨#[48, 48]⟩ : ByteArray), .string (⟨#[49, 48]⟩ : ByteArray)] ([(⟨#[]⟩ : ByteArray), (⟨#[48, 48]⟩ : ByteArray), (⟨#[49, 48]⟩ : ByteArray)] : List ByteArray)), optA (l 12) (SlA p43 rv42.2.L.length k44 rv42.2.L), optA (l 15) (RowA [.string (⟨#[72, 72, 90]⟩ : ByteArray), .string (⟨#[72, 72, 78]⟩ : ByteArray), .string (⟨#[66, 72, 90]⟩ : ByteArray)] ([(⟨#[72, 72, 90]⟩ : ByteArray), (⟨#[72, 72, 78]⟩ : ByteArray), (⟨#[66, 72, 90]⟩ : ByteArray)] : List ByteArray)), optA (l 17) (SlA p59 rv58.2.L.length k60 rv58.2.L)] w) [1, 1, 2, 3, 4, 1, 1, 3, 4, 5, 1, 1, 4, 5, 6, 1, 1, 5, 6, 7, 8, 9] (by kernel_rfl) rfl (by kernel_rfl) ?_ (AllS.succ (AllS.succ (AllS.succ (AllS.succ (AllS.succ (AllS.succ (AllS.succ (AllS.succ (AllS.succ (AllS.succ (AllS.succ (AllS.succ (AllS.succ (AllS.succ (AllS.succ (AllS.succ (AllS.succ (AllS.succ (AllS.succ (AllS.succ (AllS.succ (AllS.succ AllS.zero ?_) ?_) ?_) ?_) ?_) ?_) ?_) ?_) ?_) ?_) ?_) ?_) ?_) ?_) ?_) ?_) ?_) ?_) ?_) ?_) ?_) ?_) ?_
  ·obtain ⟨b24, b40, b56, b8, k12, k28, k44, k60, p11, p27, p43, p59, _⟩ : ∃ (b24 : Nat) (b40 : Nat) (b56 : Nat) (b8 : Nat) (k12 : Nat) (k28 : Nat) (k44 : Nat) (k60 : Nat) (p11 : Option Addr) (p27 : Option Addr) (p43 : Option Addr) (p59 : Option Addr), True := ⟨0, 0, 0, 0, 0, 0, 0, 0, none, none, none, none, trivial⟩
   have hw := hw.drew
   have hw := hw.emp
   have hw := hw.emp
   have hw := hw.emp
   have hw := hw.emp
   have hw := hw.noE (SlA p59 rv58.2.L.length k60 rv58.2.L)
   have hw := hw.noE (RowA [.string (⟨#[72, 72, 90]⟩ : ByteArray), .string (⟨#[72, 72, 78]⟩ : ByteArray), .string (⟨#[66, 72, 90]⟩ : ByteArray)] ([(⟨#[72, 72, 90]⟩ : ByteArray), (⟨#[72, 72, 78]⟩ : ByteArray), (⟨#[66, 72, 90]⟩ : ByteArray)] : List ByteArray))
   have hw := hw.noE (SlA p43 rv42.2.L.length k44 rv42.2.L)
   have hw := hw.noE (RowA [.string (⟨#[]⟩ : ByteArray), .string (⟨#[48, 48]⟩ : ByteArray), .string (⟨#[49, 48]⟩ : ByteArray)] ([(⟨#[]⟩ : ByteArray), (⟨#[48, 48]⟩ : ByteArray), (⟨#[49, 48]⟩ : ByteArray)] : List ByteArray))
   have hw := hw.noE (SlA p27 rv26.2.L.length k28 rv26.2.L)
   have hw := hw.noE (RowA [.string (⟨#[70, 85, 82]⟩ : ByteArray), .string (⟨#[65]⟩ : ByteArray), .string (⟨#[65, 66, 67, 68, 69]⟩ : ByteArray), .string (⟨#[70, 85]⟩ : ByteArray)] ([(⟨#[70, 85, 82]⟩ : ByteArray), (⟨#[65]⟩ : ByteArray), (⟨#[65, 66, 67, 68, 69]⟩ : ByteArray), (⟨#[70, 85]⟩ : ByteArray)] : List ByteArray))
   have hw := hw.noE (SlA p11 rv10.2.L.length k12 rv10.2.L)
   have hw := hw.noE (RowA [.string (⟨#[71, 82]⟩ : ByteArray), .string (⟨#[88]⟩ : ByteArray), .string (⟨#[55, 65]⟩ : ByteArray)] ([(⟨#[71, 82]⟩ : ByteArray), (⟨#[88]⟩ : ByteArray), (⟨#[55, 65]⟩ : ByteArray)] : List ByteArray))
   exact ⟨b24, b40, b56, b8, k12, k28, k44, k60, p11, p27, p43, p59, S0, SlF.init (hs.wk rfl) (by kernel_rfl), hw.ft [4, 5, 0, 1, 2, 3] [8, 0, 1, 2, 3, 4, 5, 6, 7] (by decide) rfl rfl⟩
  ·intro l hi hp hc a w ⟨b24, b40, b56, b8, k12, k28, k44, k60, p11, p27, p43, p59, S, hS, hw⟩
   refine S_eff rfl ?_
   have hs := hS.open_ .nil
   refine w_litSlice (α := ByteArray) (vs := D19t3) (cs := D19t3) (xs := D19t4) hs hw El80 rfl rfl rfl rfl rfl rfl ⟨⟨_, rfl, rfl⟩, ⟨⟨_, rfl, rfl⟩, ⟨⟨_, rfl, rfl⟩, rfl⟩⟩⟩ rfl trivial rfl fun b8 a w hs hw => ?_
   have h_3 := l_neg hc 3 hi rfl
   have hw := hw.opt 0 rfl true
   refine nl ?_
   exact ⟨b24, b40, b56, b8, k12, k28, k44, k60, p11, p27, p43, p59, S, hS.close .nil hs rfl (.here (.same (.same (.neg h_3 rfl (.same (.same (.same (.same (.same (.same (.same (.same (.same (.same (.same (.same (.same (.same (.same (.same (.same .nil))))))))))))))))))))) 0 rfl, hw.ft [1, 2, 0, 4, 5, 6] [2, 0, 4, 5, 6, 7, 8, 9, 10] (by decide) rfl rfl⟩
  ·intro l hi hp hc a w ⟨b24, b40, b56, b8, k12, k28, k44, k60, p11, p27, p43, p59, S, hS, hw⟩
   refine S_val hS (.b (t := 0) rfl .nil) rfl rfl trivial (y_move rfl) (rfl) 1 rfl fun a hS => ⟨b24, b40, b56, b8, k12, k28, k44, k60, p11, p27, p43, p59, S, hS, hw⟩
  ·intro l hi hp hc a w ⟨b24, b40, b56, b8, k12, k28, k44, k60, p11, p27, p43, p59, S, hS, hw⟩
   have h_7 := l_neg hc 7 hi rfl
   have h_12 := l_neg hc 12 h_7 rfl
   have h_17 := l_neg hc 17 h_12 rfl
   have hw := hw.fixR 1 (r' := .box b2 [.slice p3 d1.L.length k4, .int .i64 d1.At] 75) rfl ((bF h_17).trans ((bF h_12).trans ((bF h_7).trans ((bF hi)))))
   have h_1 := hp 1 rfl
   refine S_eff rfl ?_
   have hs := hS.open_ (.v (t := 4) 1 rfl h_1 .nil)
   refine st_callR hs (made_Dice_Next_ok h9 hw.dom (hw.ins [1] (by decide) rfl) (hw.envAt 0 rfl)) (do_call Tryz.call15 rfl) trivial rfl rfl ?_
   intro v100 Sv97 w a h98 h99 hs
   obtain ⟨p11, k12, rfl, h101, h13⟩ := h99
   have hw := hw.callO [1] [0, 2, 3, 4, 5] (by decide) rfl h98 h101
   have hw := hw.addE (e := SlA p11 rv10.2.L.length k12 rv10.2.L) h13
   have hw := hw.fixR 0 (r' := (bif l 17 then .box b2 [.slice p59 rv58.2.L.length k60, .int .i64 rv58.2.At] 75 else (bif l 12 then .box b2 [.slice p43 rv42.2.L.length k44, .int .i64 rv42.2.At] 75 else (bif l 7 then .box b2 [.slice p27 rv26.2.L.length k28, .int .i64 rv26.2.At] 75 else .box b2 [.slice p11 rv10.2.L.length k12, .int .i64 rv10.2.At] 75)))) rfl ((bF h_17).trans ((bF h_12).trans ((bF h_7)))).symm
   have hw := hw.opt 0 rfl true
   refine nl ?_
   exact ⟨b24, b40, b56, b8, k12, k28, k44, k60, p11, p27, p43, p59, Sv97, hS.close (.v (t := 4) 1 rfl h_1 .nil) hs rfl (.same (.same (.here (.same (.same (.same (.same (.same (.same (.same (.same (.same (.same (.same (.same (.same (.same (.same (.same (.same (.same .nil))))))))))))))))))))) 2 rfl, hw.ft [1, 0, 2, 3, 4, 5] [2, 3, 0, 5, 6, 7, 8, 9, 10] (by decide) rfl rfl⟩
  ·intro l hi hp hc a w ⟨b24, b40, b56, b8, k12, k28, k44, k60, p11, p27, p43, p59, S, hS, hw⟩
   have hw0 := hw
   have h_0 := hp 0 rfl
   have hw := hw.fixR 2 (r' := .row (some ⟨b8, 0, none⟩) ([(⟨#[71, 82]⟩ : ByteArray), (⟨#[88]⟩ : ByteArray), (⟨#[55, 65]⟩ : ByteArray)] : List ByteArray).length ([(⟨#[71, 82]⟩ : ByteArray), (⟨#[88]⟩ : ByteArray), (⟨#[55, 65]⟩ : ByteArray)] : List ByteArray).length [.string (⟨#[71, 82]⟩ : ByteArray), .string (⟨#[88]⟩ : ByteArray), .string (⟨#[55, 65]⟩ : ByteArray)] 9 1) rfl ((bT h_0))
   have hw := hw.yes 1 rfl h_0
   have h_2 := hp 2 rfl
   obtain ⟨c21, h17, h22, h15⟩ := hw.elemRX (α := ByteArray) 2 rfl 0 rfl h14
   obtain ⟨_, rfl, rfl⟩ := h15
   refine S_val hS (.v (t := 3) 0 rfl h_0 (.v (t := 5) 2 rfl h_2 .nil)) rfl rfl trivial (y_indexAt Tryz.runUnderlying80 Tryz.sizeOf9 rfl rfl h17.1 h17.2 rfl) (rfl) 3 rfl fun a hS => ⟨b24, b40, b56, b8, k12, k28, k44, k60, p11, p27, p43, p59, S, hS, hw0⟩
  ·intro l hi hp hc a w ⟨b24, b40, b56, b8, k12, k28, k44, k60, p11, p27, p43, p59, S, hS, hw⟩
   have hw0 := hw
   have h_3 := hp 3 rfl
   have h_0 := hc 3 0 rfl h_3
   have hw := hw.fixR 2 (r' := .row (some ⟨b8, 0, none⟩) ([(⟨#[71, 82]⟩ : ByteArray), (⟨#[88]⟩ : ByteArray), (⟨#[55, 65]⟩ : ByteArray)] : List ByteArray).length ([(⟨#[71, 82]⟩ : ByteArray), (⟨#[88]⟩ : ByteArray), (⟨#[55, 65]⟩ : ByteArray)] : List ByteArray).length [.string (⟨#[71, 82]⟩ : ByteArray), .string (⟨#[88]⟩ : ByteArray), .string (⟨#[55, 65]⟩ : ByteArray)] 9 1) rfl ((bT h_0))
   have hw := hw.yes 1 rfl h_0
   obtain ⟨c21, h17, h22, h15⟩ := hw.elemRX (α := ByteArray) 2 rfl 0 rfl h14
   obtain ⟨_, rfl, rfl⟩ := h15
   refine S_val hS (.v (t := 6) 3 rfl h_3 .nil) rfl rfl trivial (y_loadQ1 (j := 0) (hw.ownAt 2 rfl) rfl Tryz.isAgg9 h22 rfl) (rfl) 4 rfl fun a hS => ⟨b24, b40, b56, b8, k12, k28, k44, k60, p11, p27, p43, p59, S, hS, hw0⟩
  ·intro l hi hp hc a w ⟨b24, b40, b56, b8, k12, k28, k44, k60, p11, p27, p43, p59, S, hS, hw⟩
   refine S_eff rfl ?_
   have hs := hS.open_ .nil
   refine w_litSlice (α := ByteArray) (vs := D19t5) (cs := D19t5) (xs := D19t6) hs hw El80 rfl rfl rfl rfl rfl rfl ⟨⟨_, rfl, rfl⟩, ⟨⟨_, rfl, rfl⟩, ⟨⟨_, rfl, rfl⟩, ⟨⟨_, rfl, rfl⟩, rfl⟩⟩⟩⟩ rfl trivial rfl fun b24 a w hs hw => ?_
   have h_8 := l_neg hc 8 hi rfl
   have hw := hw.opt 0 rfl true
   refine nl ?_
   exact ⟨b24, b40, b56, b8, k12, k28, k44, k60, p11, p27, p43, p59, S, hS.close .nil hs rfl (.same (.same (.same (.same (.same (.here (.same (.same (.neg h_8 rfl (.same (.same (.same (.same (.same (.same (.same (.same (.same (.same (.same (.same .nil))))))))))))))))))))) 5 rfl, hw.ft [1, 2, 3, 0, 5, 6] [2, 3, 4, 0, 6, 7, 8, 9, 10] (by decide) rfl rfl⟩
  ·intro l hi hp hc a w ⟨b24, b40, b56, b8, k12, k28, k44, k60, p11, p27, p43, p59, S, hS, hw⟩
   refine S_val hS (.b (t := 0) rfl .nil) rfl rfl trivial (y_move rfl) (rfl) 6 rfl fun a hS => ⟨b24, b40, b56, b8, k12, k28, k44, k60, p11, p27, p43, p59, S, hS, hw⟩
  ·intro l hi hp hc a w ⟨b24, b40, b56, b8, k12, k28, k44, k60, p11, p27, p43, p59, S, hS, hw⟩
   have h_12 := l_neg hc 12 hi rfl
   have h_17 := l_neg hc 17 h_12 rfl
   have h_2 := hp 2 rfl
   have hw := hw.fixR 1 (r' := .box b2 [.slice p11 rv10.2.L.length k12, .int .i64 rv10.2.At] 75) rfl ((bF h_17).trans ((bF h_12).trans ((bF hi).trans ((bT h_2)))))
   have hw := hw.yes 2 rfl h_2
   have h_6 := hp 6 rfl
   refine S_eff rfl ?_
   have hs := hS.open_ (.v (t := 9) 6 rfl h_6 .nil)
   refine st_callR hs (made_Dice_Next_ok h25 hw.dom (hw.ins [1] (by decide) rfl) (hw.envAt 0 rfl)) (do_call Tryz.call15 rfl) trivial rfl rfl ?_
   intro v110 Sv107 w a h108 h109 hs
   obtain ⟨p27, k28, rfl, h111, h29⟩ := h109
   have hw := hw.callO [1] [0, 2, 3, 4, 5] (by decide) rfl h108 h111
   have hw := hw.addE (e := SlA p27 rv26.2.L.length k28 rv26.2.L) h29
   have hw := hw.fixR 0 (r' := (bif l 17 then .box b2 [.slice p59 rv58.2.L.length k60, .int .i64 rv58.2.At] 75 else (bif l 12 then .box b2 [.slice p43 rv42.2.L.length k44, .int .i64 rv42.2.At] 75 else .box b2 [.slice p27 rv26.2.L.length k28, .int .i64 rv26.2.At] 75))) rfl ((bF h_17).trans ((bF h_12))).symm
   have hw := hw.opt 0 rfl true
   refine nl ?_
   exact ⟨b24, b40, b56, b8, k12, k28, k44, k60, p11, p27, p43, p59, Sv107, hS.close (.v (t := 9) 6 rfl h_6 .nil) hs rfl (.same (.same (.same (.same (.same (.same (.same (.here (.same (.same (.same (.same (.same (.same (.same (.same (.same (.same (.same (.same (.same .nil))))))))))))))))))))) 7 rfl, hw.ft [1, 0, 2, 3, 4, 5] [3, 4, 5, 6, 0, 8, 9, 10, 11] (by decide) rfl rfl⟩
  ·intro l hi hp hc a w ⟨b24, b40, b56, b8, k12, k28, k44, k60, p11, p27, p43, p59, S, hS, hw⟩
   have hw0 := hw
   have h_5 := hp 5 rfl
   have hw := hw.fixR 3 (r' := .row (some ⟨b24, 0, none⟩) ([(⟨#[70, 85, 82]⟩ : ByteArray), (⟨#[65]⟩ : ByteArray), (⟨#[65, 66, 67, 68, 69]⟩ : ByteArray), (⟨#[70, 85]⟩ : ByteArray)] : List ByteArray).length ([(⟨#[70, 85, 82]⟩ : ByteArray), (⟨#[65]⟩ : ByteArray), (⟨#[65, 66, 67, 68, 69]⟩ : ByteArray), (⟨#[70, 85]⟩ : ByteArray)] : List ByteArray).length [.string (⟨#[70, 85, 82]⟩ : ByteArray), .string (⟨#[65]⟩ : ByteArray), .string (⟨#[65, 66, 67, 68, 69]⟩ : ByteArray), .string (⟨#[70, 85]⟩ : ByteArray)] 9 1) rfl ((bT h_5))
   have hw := hw.yes 3 rfl h_5
   have h_7 := hp 7 rfl
   obtain ⟨c37, h33, h38, h31⟩ := hw.elemRX (α := ByteArray) 3 rfl 0 rfl h30
   obtain ⟨_, rfl, rfl⟩ := h31
   refine S_val hS (.v (t := 8) 5 rfl h_5 (.v (t := 10) 7 rfl h_7 .nil)) rfl rfl trivial (y_indexAt Tryz.runUnderlying80 Tryz.sizeOf9 rfl rfl h33.1 h33.2 rfl) (rfl) 8 rfl fun a hS => ⟨b24, b40, b56, b8, k12, k28, k44, k60, p11, p27, p43, p59, S, hS, hw0⟩
  ·intro l hi hp hc a w ⟨b24, b40, b56, b8, k12, k28, k44, k60, p11, p27, p43, p59, S, hS, hw⟩
   have hw0 := hw
   have h_8 := hp 8 rfl
   have h_5 := hc 8 5 rfl h_8
   have hw := hw.fixR 3 (r' := .row (some ⟨b24, 0, none⟩) ([(⟨#[70, 85, 82]⟩ : ByteArray), (⟨#[65]⟩ : ByteArray), (⟨#[65, 66, 67, 68, 69]⟩ : ByteArray), (⟨#[70, 85]⟩ : ByteArray)] : List ByteArray).length ([(⟨#[70, 85, 82]⟩ : ByteArray), (⟨#[65]⟩ : ByteArray), (⟨#[65, 66, 67, 68, 69]⟩ : ByteArray), (⟨#[70, 85]⟩ : ByteArray)] : List ByteArray).length [.string (⟨#[70, 85, 82]⟩ : ByteArray), .string (⟨#[65]⟩ : ByteArray), .string (⟨#[65, 66, 67, 68, 69]⟩ : ByteArray), .string (⟨#[70, 85]⟩ : ByteArray)] 9 1) rfl ((bT h_5))
   have hw := hw.yes 3 rfl h_5
   obtain ⟨c37, h33, h38, h31⟩ := hw.elemRX (α := ByteArray) 3 rfl 0 rfl h30
   obtain ⟨_, rfl, rfl⟩ := h31
   refine S_val hS (.v (t := 11) 8 rfl h_8 .nil) rfl rfl trivial (y_loadQ1 (j := 0) (hw.ownAt 3 rfl) rfl Tryz.isAgg9 h38 rfl) (rfl) 9 rfl fun a hS => ⟨b24, b40, b56, b8, k12, k28, k44, k60, p11, p27, p43, p59, S, hS, hw0⟩
  ·intro l hi hp hc a w ⟨b24, b40, b56, b8, k12, k28, k44, k60, p11, p27, p43, p59, S, hS, hw⟩
   refine S_eff rfl ?_
   have hs := hS.open_ .nil
   refine w_litSlice (α := ByteArray) (vs := D19t7) (cs := D19t7) (xs := D19t8) hs hw El80 rfl rfl rfl rfl rfl rfl ⟨⟨_, rfl, rfl⟩, ⟨⟨_, rfl, rfl⟩, ⟨⟨_, rfl, rfl⟩, rfl⟩⟩⟩ rfl trivial rfl fun b40 a w hs hw => ?_
   have h_13 := l_neg hc 13 hi rfl
   have hw := hw.opt 0 rfl true
   refine nl ?_
   exact ⟨b24, b40, b56, b8, k12, k28, k44, k60, p11, p27, p43, p59, S, hS.close .nil hs rfl (.same (.same (.same (.same (.same (.same (.same (.same (.same (.same (.here (.same (.same (.neg h_13 rfl (.same (.same (.same (.same (.same (.same (.same .nil))))))))))))))))))))) 10 rfl, hw.ft [1, 2, 3, 4, 0, 6] [2, 3, 4, 5, 6, 0, 8, 9, 10] (by decide) rfl rfl⟩
  ·intro l hi hp hc a w ⟨b24, b40, b56, b8, k12, k28, k44, k60, p11, p27, p43, p59, S, hS, hw⟩
   refine S_val hS (.b (t := 0) rfl .nil) rfl rfl trivial (y_move rfl) (rfl) 11 rfl fun a hS => ⟨b24, b40, b56, b8, k12, k28, k44, k60, p11, p27, p43, p59, S, hS, hw⟩
  ·intro l hi hp hc a w ⟨b24, b40, b56, b8, k12, k28, k44, k60, p11, p27, p43, p59, S, hS, hw⟩
   have h_17 := l_neg hc 17 hi rfl
   have h_7 := hp 7 rfl
   have hw := hw.fixR 1 (r' := .box b2 [.slice p27 rv26.2.L.length k28, .int .i64 rv26.2.At] 75) rfl ((bF h_17).trans ((bF hi).trans ((bT h_7))))
   have hw := hw.yes 4 rfl h_7
   have h_11 := hp 11 rfl
   refine S_eff rfl ?_
   have hs := hS.open_ (.v (t := 14) 11 rfl h_11 .nil)
   refine st_callR hs (made_Dice_Next_ok h41 hw.dom (hw.ins [1] (by decide) rfl) (hw.envAt 0 rfl)) (do_call Tryz.call15 rfl) trivial rfl rfl ?_
   intro v120 Sv117 w a h118 h119 hs
   obtain ⟨p43, k44, rfl, h121, h45⟩ := h119
   have hw := hw.callO [1] [0, 2, 3, 4, 5] (by decide) rfl h118 h121
   have hw := hw.addE (e := SlA p43 rv42.2.L.length k44 rv42.2.L) h45
   have hw := hw.fixR 0 (r' := (bif l 17 then .box b2 [.slice p59 rv58.2.L.length k60, .int .i64 rv58.2.At] 75 else .box b2 [.slice p43 rv42.2.L.length k44, .int .i64 rv42.2.At] 75)) rfl ((bF h_17)).symm
   have hw := hw.opt 0 rfl true
   refine nl ?_
   exact ⟨b24, b40, b56, b8, k12, k28, k44, k60, p11, p27, p43, p59, Sv117, hS.close (.v (t := 14) 11 rfl h_11 .nil) hs rfl (.same (.same (.same (.same (.same (.same (.same (.same (.same (.same (.same (.same (.here (.same (.same (.same (.same (.same (.same (.same (.same .nil))))))))))))))))))))) 12 rfl, hw.ft [1, 0, 2, 3, 4, 5] [3, 4, 5, 6, 7, 8, 0, 10, 11] (by decide) rfl rfl⟩
  ·intro l hi hp hc a w ⟨b24, b40, b56, b8, k12, k28, k44, k60, p11, p27, p43, p59, S, hS, hw⟩
   have hw0 := hw
   have h_10 := hp 10 rfl
   have hw := hw.fixR 4 (r' := .row (some ⟨b40, 0, none⟩) ([(⟨#[]⟩ : ByteArray), (⟨#[48, 48]⟩ : ByteArray), (⟨#[49, 48]⟩ : ByteArray)] : List ByteArray).length ([(⟨#[]⟩ : ByteArray), (⟨#[48, 48]⟩ : ByteArray), (⟨#[49, 48]⟩ : ByteArray)] : List ByteArray).length [.string (⟨#[]⟩ : ByteArray), .string (⟨#[48, 48]⟩ : ByteArray), .string (⟨#[49, 48]⟩ : ByteArray)] 9 1) rfl ((bT h_10))
   have hw := hw.yes 5 rfl h_10
   have h_12 := hp 12 rfl
   obtain ⟨c53, h49, h54, h47⟩ := hw.elemRX (α := ByteArray) 4 rfl 0 rfl h46
   obtain ⟨_, rfl, rfl⟩ := h47
   refine S_val hS (.v (t := 13) 10 rfl h_10 (.v (t := 15) 12 rfl h_12 .nil)) rfl rfl trivial (y_indexAt Tryz.runUnderlying80 Tryz.sizeOf9 rfl rfl h49.1 h49.2 rfl) (rfl) 13 rfl fun a hS => ⟨b24, b40, b56, b8, k12, k28, k44, k60, p11, p27, p43, p59, S, hS, hw0⟩
  ·intro l hi hp hc a w ⟨b24, b40, b56, b8, k12, k28, k44, k60, p11, p27, p43, p59, S, hS, hw⟩
   have hw0 := hw
   have h_13 := hp 13 rfl
   have h_10 := hc 13 10 rfl h_13
   have hw := hw.fixR 4 (r' := .row (some ⟨b40, 0, none⟩) ([(⟨#[]⟩ : ByteArray), (⟨#[48, 48]⟩ : ByteArray), (⟨#[49, 48]⟩ : ByteArray)] : List ByteArray).length ([(⟨#[]⟩ : ByteArray), (⟨#[48, 48]⟩ : ByteArray), (⟨#[49, 48]⟩ : ByteArray)] : List ByteArray).length [.string (⟨#[]⟩ : ByteArray), .string (⟨#[48, 48]⟩ : ByteArray), .string (⟨#[49, 48]⟩ : ByteArray)] 9 1) rfl ((bT h_10))
   have hw := hw.yes 5 rfl h_10
   obtain ⟨c53, h49, h54, h47⟩ := hw.elemRX (α := ByteArray) 4 rfl 0 rfl h46
   obtain ⟨_, rfl, rfl⟩ := h47
   refine S_val hS (.v (t := 16) 13 rfl h_13 .nil) rfl rfl trivial (y_loadQ1 (j := 0) (hw.ownAt 4 rfl) rfl Tryz.isAgg9 h54 rfl) (rfl) 14 rfl fun a hS => ⟨b24, b40, b56, b8, k12, k28, k44, k60, p11, p27, p43, p59, S, hS, hw0⟩
  ·intro l hi hp hc a w ⟨b24, b40, b56, b8, k12, k28, k44, k60, p11, p27, p43, p59, S, hS, hw⟩
   refine S_eff rfl ?_
   have hs := hS.open_ .nil
   refine w_litSlice (α := ByteArray) (vs := D19t9) (cs := D19t9) (xs := D19t10) hs hw El80 rfl rfl rfl rfl rfl rfl ⟨⟨_, rfl, rfl⟩, ⟨⟨_, rfl, rfl⟩, ⟨⟨_, rfl, rfl⟩, rfl⟩⟩⟩ rfl trivial rfl fun b56 a w hs hw => ?_
   have h_18 := l_neg hc 18 hi rfl
   have hw := hw.opt 0 rfl true
   refine nl ?_
   exact ⟨b24, b40, b56, b8, k12, k28, k44, k60, p11, p27, p43, p59, S, hS.close .nil hs rfl (.same (.same (.same (.same (.same (.same (.same (.same (.same (.same (.same (.same (.same (.same (.same (.here (.same (.same (.neg h_18 rfl (.same (.same .nil))))))))))))))))))))) 15 rfl, hw.ft [1, 2, 3, 4, 5, 0] [2, 3, 4, 5, 6, 7, 8, 0, 10] (by decide) rfl rfl⟩
  ·intro l hi hp hc a w ⟨b24, b40, b56, b8, k12, k28, k44, k60, p11, p27, p43, p59, S, hS, hw⟩
   refine S_val hS (.b (t := 0) rfl .nil) rfl rfl trivial (y_move rfl) (rfl) 16 rfl fun a hS => ⟨b24, b40, b56, b8, k12, k28, k44, k60, p11, p27, p43, p59, S, hS, hw⟩
  ·intro l hi hp hc a w ⟨b24, b40, b56, b8, k12, k28, k44, k60, p11, p27, p43, p59, S, hS, hw⟩
   have h_12 := hp 12 rfl
   have hw := hw.fixR 1 (r' := .box b2 [.slice p43 rv42.2.L.length k44, .int .i64 rv42.2.At] 75) rfl ((bF hi).trans ((bT h_12)))
   have hw := hw.yes 6 rfl h_12
   have h_16 := hp 16 rfl
   refine S_eff rfl ?_
   have hs := hS.open_ (.v (t := 19) 16 rfl h_16 .nil)
   refine st_callR hs (made_Dice_Next_ok h57 hw.dom (hw.ins [1] (by decide) rfl) (hw.envAt 0 rfl)) (do_call Tryz.call15 rfl) trivial rfl rfl ?_
   intro v130 Sv127 w a h128 h129 hs
   obtain ⟨p59, k60, rfl, h131, h61⟩ := h129
   have hw := hw.callO [1] [0, 2, 3, 4, 5] (by decide) rfl h128 h131
   have hw := hw.addE (e := SlA p59 rv58.2.L.length k60 rv58.2.L) h61
   have hw := hw.opt 0 rfl true
   refine nl ?_
   exact ⟨b24, b40, b56, b8, k12, k28, k44, k60, p11, p27, p43, p59, Sv127, hS.close (.v (t := 19) 16 rfl h_16 .nil) hs rfl (.same (.same (.same (.same (.same (.same (.same (.same (.same (.same (.same (.same (.same (.same (.same (.same (.same (.here (.same (.same (.same .nil))))))))))))))))))))) 17 rfl, hw.ft [1, 0, 2, 3, 4, 5] [3, 4, 5, 6, 7, 8, 9, 10, 0] (by decide) rfl rfl⟩
  ·intro l hi hp hc a w ⟨b24, b40, b56, b8, k12, k28, k44, k60, p11, p27, p43, p59, S, hS, hw⟩
   have hw0 := hw
   have h_15 := hp 15 rfl
   have hw := hw.fixR 5 (r' := .row (some ⟨b56, 0, none⟩) ([(⟨#[72, 72, 90]⟩ : ByteArray), (⟨#[72, 72, 78]⟩ : ByteArray), (⟨#[66, 72, 90]⟩ : ByteArray)] : List ByteArray).length ([(⟨#[72, 72, 90]⟩ : ByteArray), (⟨#[72, 72, 78]⟩ : ByteArray), (⟨#[66, 72, 90]⟩ : ByteArray)] : List ByteArray).length [.string (⟨#[72, 72, 90]⟩ : ByteArray), .string (⟨#[72, 72, 78]⟩ : ByteArray), .string (⟨#[66, 72, 90]⟩ : ByteArray)] 9 1) rfl ((bT h_15))
   have hw := hw.yes 7 rfl h_15
   have h_17 := hp 17 rfl
   obtain ⟨c69, h65, h70, h63⟩ := hw.elemRX (α := ByteArray) 5 rfl 0 rfl h62
   obtain ⟨_, rfl, rfl⟩ := h63
   refine S_val hS (.v (t := 18) 15 rfl h_15 (.v (t := 20) 17 rfl h_17 .nil)) rfl rfl trivial (y_indexAt Tryz.runUnderlying80 Tryz.sizeOf9 rfl rfl h65.1 h65.2 rfl) (rfl) 18 rfl fun a hS => ⟨b24, b40, b56, b8, k12, k28, k44, k60, p11, p27, p43, p59, S, hS, hw0⟩
  ·intro l hi hp hc a w ⟨b24, b40, b56, b8, k12, k28, k44, k60, p11, p27, p43, p59, S, hS, hw⟩
   have hw0 := hw
   have h_18 := hp 18 rfl
   have h_15 := hc 18 15 rfl h_18
   have hw := hw.fixR 5 (r' := .row (some ⟨b56, 0, none⟩) ([(⟨#[72, 72, 90]⟩ : ByteArray), (⟨#[72, 72, 78]⟩ : ByteArray), (⟨#[66, 72, 90]⟩ : ByteArray)] : List ByteArray).length ([(⟨#[72, 72, 90]⟩ : ByteArray), (⟨#[72, 72, 78]⟩ : ByteArray), (⟨#[66, 72, 90]⟩ : ByteArray)] : List ByteArray).length [.string (⟨#[72, 72, 90]⟩ : ByteArray), .string (⟨#[72, 72, 78]⟩ : ByteArray), .string (⟨#[66, 72, 90]⟩ : ByteArray)] 9 1) rfl ((bT h_15))
   have hw := hw.yes 7 rfl h_15
   obtain ⟨c69, h65, h70, h63⟩ := hw.elemRX (α := ByteArray) 5 rfl 0 rfl h62
   obtain ⟨_, rfl, rfl⟩ := h63
   refine S_val hS (.v (t := 21) 18 rfl h_18 .nil) rfl rfl trivial (y_loadQ1 (j := 0) (hw.ownAt 5 rfl) rfl Tryz.isAgg9 h70 rfl) (rfl) 19 rfl fun a hS => ⟨b24, b40, b56, b8, k12, k28, k44, k60, p11, p27, p43, p59, S, hS, hw0⟩
  ·intro l hi hp hc a w ⟨b24, b40, b56, b8, k12, k28, k44, k60, p11, p27, p43, p59, S, hS, hw⟩
   have h_19 := hp 19 rfl
   have h_14 := hp 14 rfl
   have h_9 := hp 9 rfl
   have h_4 := hp 4 rfl
   refine S_val hS (.v (t := 7) 4 rfl h_4 (.v (t := 12) 9 rfl h_9 (.v (t := 17) 14 rfl h_14 (.v (t := 22) 19 rfl h_19 .nil)))) rfl rfl trivial (y_build (vs := [(0, .string x16), (1, .string x32), (2, .string x48), (3, .string x64)]) Bld31 rfl rfl) (rfl) 20 rfl fun a hS => ⟨b24, b40, b56, b8, k12, k28, k44, k60, p11, p27, p43, p59, S, hS, hw⟩
  ·intro l hi hp hc a w ⟨b24, b40, b56, b8, k12, k28, k44, k60, p11, p27, p43, p59, S, hS, hw⟩
   have hw := hw.fixR 0 (r' := .box b6 [.string ByteArray.empty, .string ByteArray.empty, .string ByteArray.empty, .string ByteArray.empty] 31) rfl ((bF hi))
   have h_20 := hp 20 rfl
   refine S_eff rfl ?_
   have hs := hS.open_ (.b (t := 2) rfl (.v (t := 23) 20 rfl h_20 .nil))
   refine w_store (m := 4) (cs' := [.string x16, .string x32, .string x48, .string x64]) hs hw 0 rfl rfl rfl Tryz.sizeOf31 rfl rfl rfl rfl trivial ?_
   intro a w hs hw
   refine nl ?_
   exact ⟨b24, b40, b56, b8, k12, k28, k44, k60, p11, p27, p43, p59, S, hS.close0 (.b (t := 2) rfl (.v (t := 23) 20 rfl h_20 .nil)) hs rfl, hw.ft [0, 1, 2, 3, 4, 5] [0, 1, 2, 3, 4, 5, 6, 7, 8] (by decide) rfl rfl⟩
  intro l a w hl ⟨b24, b40, b56, b8, k12, k28, k44, k60, p11, p27, p43, p59, S, hS, hw⟩
  have hw := hw.yes 8 rfl (hl 17 (by decide))
  have hw := hw.fixR 1 (r' := .box b2 [.slice p59 rv58.2.L.length k60, .int .i64 rv58.2.At] 75) rfl (bT (hl 17 (by decide)))
  have hw := hw.fixR 0 (r' := .box b6 [.string x16, .string x32, .string x48, .string x64] 31) rfl (bT (hl 21 (by decide)))
  have hs := hS.on (.b (t := 2) rfl .nil)
  exact ⟨S, k60, p59, (hs.wk rfl), (hw.ft [1, 0] [0] (by decide) rfl rfl)⟩
 rintro a w ⟨Sv71, k60, p59, hs, hw⟩
 refine then_normal ?_
 have hsh := oi hsh
 subst hsh
 refine wp_ret ?_
 exact ret1 hs rfl (rv_cell hw 1 rfl rfl Tryz.isAgg31 Tryz.sizeOf31 rfl) (hw.ret ⟨p59, k60, rfl, (hw.outs [0] (by decide) rfl), (hw.envAt 0 rfl)⟩)

abbrev made_Dice_Pick_rd (w0 : World) (X : List Nat) (b2 : Nat) (r : (Int × Dice)) : (Nat → Prop) → World → Value → Prop := fun S w v => ∃ (pq0_0 : Option Addr) (kq0_0 : Nat), v = .int .i64 r.1 ∧ Outs X w0 S w [.box b2 [.slice pq0_0 r.2.L.length kq0_0, .int .i64 r.2.At] 75] ∧ (SlA pq0_0 r.2.L.length kq0_0 r.2.L).p S w
set_option maxHeartbeats 4000000 in
set_option maxRecDepth 100000 in
theorem made_Dice_Pick_ok {w0 : World} {S0 : Nat → Prop} {b2 : Nat} {p3 : Option Addr} {k4 : Nat} {p7 : Option Addr} {k8 : Nat} {d1 : Dice} {l6 : (List Int)} {r : (Int × Dice)} (hsh : made_Dice_Pick d1 l6 = some r) (hS : ∀ b, S0 b → b < w0.heap.size) (hin : Ins S0 w0 [.box b2 [.slice p3 d1.L.length k4, .int .i64 d1.At] 75]) (h5 : (SlA p3 d1.L.length k4 d1.L).p S0 w0) (h9 : (SlA p7 l6.length k8 l6).p S0 w0) : Calls Tryz.prog 47 #[.pointer (some ⟨b2, 0, none⟩), .slice p7 l6.length k8] w0 (Ret (blks [.box b2 [.slice p3 d1.L.length k4, .int .i64 d1.At] 75]) w0 S0 (made_Dice_Pick_rd w0 (blks [.box b2 [.slice p3 d1.L.length k4, .int .i64 d1.At] 75]) b2 r)) := by
 refine calls_of_wp Tryz.func47 rfl ?_
 have hs := Sl.enter #[.pointer (some ⟨b2, 0, none⟩), .slice p7 l6.length k8] 12 [(0, .pointer (some ⟨b2, 0, none⟩)), (1, .slice p7 l6.length k8)] rfl ⟨rfl, rfl, trivial⟩
 have hw := Wd.enterI hS hin
 have hw := hw.addE h5
 have hw := hw.addE h9
 delta made_Dice_Pick at hsh
 refine sr ?_
 refine av hs rfl rfl fun a hs => ?_
 refine nl ?_
 refine sr ?_
 refine mv hs rfl rfl fun a hs => ?_
 refine mv hs rfl rfl fun a hs => ?_
 refine mv hs rfl rfl fun a hs => ?_
 refine sv hs (y_len Tryz.runUnderlying22 rfl) rfl fun a hs => ?_
 obtain ⟨rv11, h10, hsh⟩ := bind_t hsh
 refine st_callR hs (made_Dice_Next_ok h10 hw.dom (hw.ins [0] (by decide) rfl) (hw.envAt 1 rfl)) (do_call Tryz.call15 rfl) trivial rfl rfl ?_
 intro v18 Sv15 w a h16 h17 hs
 obtain ⟨p12, k13, rfl, h19, h14⟩ := h17
 have hw := hw.callO [0] [] (by decide) rfl h16 h19
 have hw := hw.addE (e := SlA p12 rv11.2.L.length k13 rv11.2.L) h14
 obtain ⟨x22, h20, hsh⟩ := bind_t hsh
 obtain ⟨b28, o29, q26, c27, h30, h23, h24, h25, h21⟩ := hw.elemV 1 rfl h20
 have hsv31 := hs
 have hwv32 := hw
 subst h30
 have hs := hsv31
 have hw := hwv32
 obtain ⟨_, rfl, rfl⟩ := h21
 have hw := hw.addE h25
 refine sv hs (y_indexAt Tryz.runUnderlying22 Tryz.sizeOf3 rfl rfl h23.1 h23.2 h24) rfl fun a hs => ?_
 refine sv hs (y_loadE1 (j := 0) (hw.ceAt 0 rfl) rfl Tryz.isAgg3 rfl) rfl fun a hs => ?_
 refine av hs rfl rfl fun a hs => ?_
 refine nl ?_
 have hsh := oi hsh
 subst hsh
 refine wp_ret ?_
 exact ret1 hs rfl (rv_tmp rfl) (hw.ret ⟨p12, k13, rfl, (hw.outs [0] (by decide) rfl), (hw.envAt 1 rfl)⟩)

abbrev ref01_In_rd (w0 : World) (X : List Nat) (r : Bool) : (Nat → Prop) → World → Value → Prop := fun S w v => v = .bool r
set_option maxHeartbeats 4000000 in
set_option maxRecDepth 100000 in
theorem ref01_In_ok {w0 : World} {S0 : Nat → Prop} {n1 : Int} {lo2 : Int} {hi3 : Int} {r : Bool} (hsh : ref01_In n1 lo2 hi3 = some r) (hS : ∀ b, S0 b → b < w0.heap.size) : Calls Tryz.prog 55 #[.int .i64 n1, .int .i64 lo2, .int .i64 hi3] w0 (Ret ([]) w0 S0 (ref01_In_rd w0 ([]) r)) := by
 refine calls_of_wp Tryz.func55 rfl ?_
 have hs := Sl.enter #[.int .i64 n1, .int .i64 lo2, .int .i64 hi3] 15 [(0, .int .i64 n1), (1, .int .i64 lo2), (2, .int .i64 hi3)] rfl ⟨rfl, rfl, rfl, trivial⟩
 have hw := Wd.enter (E := []) hS (fun _ h => (by cases h))
 delta ref01_In at hsh
 refine sr ?_
 refine av hs rfl rfl fun a hs => ?_
 refine nl ?_
 refine sr ?_
 refine mv hs rfl rfl fun a hs => ?_
 refine mv hs rfl rfl fun a hs => ?_
 refine sv hs (y_geq rfl rfl) rfl fun a hs => ?_
 refine mv hs rfl rfl fun a hs => ?_
 refine wpl_join 4 (fun a w1 => w0 = w1 ∧ Sl 15 [(14, .bool ((decide (lo2 ≤ n1)) && (decide (n1 ≤ hi3))))] a) ?_ ?_
 ·rcases Bool.eq_false_or_eq_true (decide (lo2 ≤ n1)) with h4 | h4
  ·have hs := hs.fix 10 (.bool true) rfl (vb h4)
   refine st_val hs (y_move rfl) ⟨_, rfl, rfl⟩ rfl rfl fun a hs => ?_
   refine st_val hs (y_move rfl) ⟨_, rfl, rfl⟩ rfl rfl fun a hs => ?_
   refine st_val hs (y_leq rfl rfl) ⟨_, rfl, rfl⟩ rfl rfl fun a hs => ?_
   refine sv hs (y_pickT rfl rfl) rfl fun a hs => ?_
   refine nl ?_
   exact ⟨rfl, (hs.fix 14 (.bool ((decide (lo2 ≤ n1)) && (decide (n1 ≤ hi3)))) rfl (and_t h4)).weaken _ ⟨rfl, trivial⟩⟩
  have hs := hs.fix 10 (.bool false) rfl (vb h4)
  refine st_skip hs rfl rfl rfl rfl rfl fun a hs => ?_
  refine st_skip hs rfl rfl rfl rfl rfl fun a hs => ?_
  refine st_skip hs rfl rfl rfl rfl rfl fun a hs => ?_
  refine sv hs (y_pickF rfl rfl) rfl fun a hs => ?_
  refine nl ?_
  exact ⟨rfl, (hs.fix 14 (.bool ((decide (lo2 ≤ n1)) && (decide (n1 ≤ hi3)))) rfl (and_f h4)).weaken _ ⟨rfl, trivial⟩⟩
 rintro a w1 ⟨h5, hs⟩
 subst h5
 refine av hs rfl rfl fun a hs => ?_
 refine nl ?_
 have hsh := oi hsh
 subst hsh
 refine wp_ret ?_
 exact ret1 hs rfl (rv_tmp rfl) (hw.ret rfl)

abbrev ref02_gcd_rd (w0 : World) (X : List Nat) (r : Int) : (Nat → Prop) → World → Value → Prop := fun S w v => v = .int .i64 r
set_option maxHeartbeats 4000000 in
set_option maxRecDepth 100000 in
theorem ref02_gcd_ok {w0 : World} {S0 : Nat → Prop} {a1 : Int} {b2 : Int} {r : Int} (hsh : ref02_gcd a1 b2 = some r) (hS : ∀ b, S0 b → b < w0.heap.size) : Calls Tryz.prog 70 #[.int .i64 a1, .int .i64 b2] w0 (Ret ([]) w0 S0 (ref02_gcd_rd w0 ([]) r)) := by
 refine calls_of_wp Tryz.func70 rfl ?_
 have hs := Sl.enter #[.int .i64 a1, .int .i64 b2] 12 [(0, .int .i64 a1), (1, .int .i64 b2)] rfl ⟨rfl, rfl, trivial⟩
 have hw := Wd.enter (E := []) hS (fun _ h => (by cases h))
 delta ref02_gcd at hsh
 refine sr ?_
 refine av hs rfl rfl fun a hs => ?_
 refine nl ?_
 refine wp_seq ?_
 obtain ⟨e21, h32, hsh⟩ := bind_t hsh
 refine wp_join (fun a w => ∃ (Sv22 : Nat → Prop), Sl 12 [(0, .int .i64 e21)] a ∧ Wd ⟨w0, S0, []⟩ Sv22 [] [] w) ?_ ?_
 ·refine wp_block ?_
  refine wp_while (fun sv3 a w => ∃ (Sv13 : Nat → Prop), Sl 12 [(0, .int .i64 sv3.1), (1, .int .i64 sv3.2)] a ∧ Wd ⟨w0, S0, []⟩ Sv13 [] [] w) (a1, b2) h32 ⟨S0, (hs.wk rfl), (hw.ft [] [] (by decide) rfl rfl)⟩ ?_
  clear h32
  repeat clear hsh
  rintro sv3 a w tv19 ⟨Sv13, hs, hw⟩ hsh hd18
  delta ref02_gcd_l1 at hsh
  refine wp_seq ?_
  refine sr ?_
  refine mv hs rfl rfl fun a hs => ?_
  refine sv hs (y_neq rfl rfl) rfl fun a hs => ?_
  refine nl ?_
  refine wp_cond_split (hs.ev rfl) (fun h24 => ?_) (fun h24 => ?_)
  ·have hsh := ite_t hsh h24
   refine wp_skip ?_
   refine then_normal ?_
   refine wp_block ?_
   obtain ⟨rem29, h28, hsh⟩ := bind_t hsh
   refine wp_only (fun a w => ∃ (Sv30 : Nat → Prop), Sl 12 [(0, .int .i64 sv3.2), (1, .int .i64 rem29)] a ∧ Wd ⟨w0, S0, []⟩ Sv30 [] [] w) ?_ ?_
   ·refine h_b (C := Cls [] []) (by kernel_rfl) rfl (hw.drew.cs [] [] rfl rfl) fun hC => ?_
    have hw := hw.drew
    refine gm hs 0 rfl rfl rfl hC fun a hs => ?_
    refine gm hs 1 rfl rfl rfl hC fun a hs => ?_
    refine gm hs 2 rfl rfl rfl hC fun a hs => ?_
    refine gv hs 3 rfl rfl hC (fun w hC => y_remM rfl rfl h28) fun a hs => ?_
    refine gv hs 4 rfl rfl hC (fun w hC => y_assign rfl) fun a hs => ?_
    refine gv hs 5 rfl rfl hC (fun w hC => y_assign rfl) fun a hs => ?_
    refine h_done (by kernel_rfl) ?_
    exact ⟨Sv13, (hs.wk rfl), (hw.ft [] [] (by decide) rfl rfl)⟩
   rintro a w ⟨Sv30, hs, hw⟩
   refine blk_normal ?_
   refine then_normal ?_
   exact ⟨_, (Option.some.inj hsh).symm, Sv30, (hs.wk rfl), (hw.ft [] [] (by decide) rfl rfl)⟩
  have hsh := ite_f hsh h24
  refine wp_exit ?_
  refine then_exit ?_
  refine then_exit ?_
  refine blk_exit ?_
  have hsh := oi hsh
  subst hsh
  have h31 := hd18 _ rfl
  subst h31
  refine then_normal ?_
  exact ⟨Sv13, (hs.wk rfl), (hw.ft [] [] (by decide) rfl rfl)⟩
 rintro a w ⟨Sv22, hs, hw⟩
 refine then_normal ?_
 refine sr ?_
 refine mv hs rfl rfl fun a hs => ?_
 refine av hs rfl rfl fun a hs => ?_
 refine nl ?_
 have hsh := oi hsh
 subst hsh
 refine wp_ret ?_
 exact ret1 hs rfl (rv_tmp rfl) (hw.ret rfl)

abbrev ref02_New_rd (w0 : World) (X : List Nat) (r : (Rate × Int)) : (Nat → Prop) → World → Value → Prop := fun S w v => v = .tuple #[.agg #[.int .i64 r.1.Num, .int .i64 r.1.Den], .int .i64 r.2]
set_option maxHeartbeats 4000000 in
set_option maxRecDepth 100000 in
theorem ref02_New_ok {w0 : World} {S0 : Nat → Prop} {num1 : Int} {den2 : Int} {r : (Rate × Int)} (hsh : ref02_New num1 den2 = some r) (hS : ∀ b, S0 b → b < w0.heap.size) : Calls Tryz.prog 48 #[.int .i64 num1, .int .i64 den2] w0 (Ret ([]) w0 S0 (ref02_New_rd w0 ([]) r)) := by
 refine calls_of_wp Tryz.func48 rfl ?_
 have hs := Sl.enter #[.int .i64 num1, .int .i64 den2] 26 [(0, .int .i64 num1), (1, .int .i64 den2)] rfl ⟨rfl, rfl, trivial⟩
 have hw := Wd.enter (E := []) hS (fun _ h => (by cases h))
 delta ref02_New at hsh
 refine sr ?_
 refine w_alloc (cs := [.int .i64 0, .int .i64 0]) hs hw Tryz.zeroValue33 rfl rfl trivial ?_
 intro b3 a w hs hw
 refine av hs rfl rfl fun a hs => ?_
 refine nl ?_
 refine wp_seq ?_
 refine sr ?_
 refine mv hs rfl rfl fun a hs => ?_
 obtain ⟨rv5, h4, hsh⟩ := bind_t hsh
 refine st_callR hs (ref01_In_ok h4 hw.bdom) (do_call Tryz.call55 rfl) trivial rfl rfl ?_
 intro v9 Sv6 w a h7 h8 hs
 subst h8
 have hw := hw.callB h7
 refine sv hs (y_not rfl) rfl fun a hs => ?_
 refine mv hs rfl rfl fun a hs => ?_
 obtain ⟨c19, hc19, hsh⟩ := bind_t hsh
 refine wpl_join 4 (fun a w => ∃ (Sv20 : Nat → Prop), Sl 26 [(0, .int .i64 num1), (1, .int .i64 den2), (4, .pointer (some ⟨b3, 0, none⟩)), (14, .bool c19)] a ∧ Wd ⟨w0, S0, []⟩ Sv20 [.box b3 [.int .i64 0, .int .i64 0] 33] [] w) ?_ ?_
 ·rcases Bool.eq_false_or_eq_true (!rv5) with h18 | h18
  ·have hs := hs.fix 10 (.bool true) rfl (vb h18)
   have hsh := ite_t hc19 h18
   refine st_skip hs rfl rfl rfl rfl rfl fun a hs => ?_
   refine st_skip hs rfl rfl rfl rfl rfl fun a hs => ?_
   refine st_skip hs rfl rfl rfl rfl rfl fun a hs => ?_
   refine sv hs (y_pickT rfl rfl) rfl fun a hs => ?_
   refine wpList_nil ?_
   have hsh := oi hsh
   subst hsh
   refine then_normal ?_
   exact ⟨S0, (hs.wk rfl), (hw.ft [0] [] (by decide) rfl rfl)⟩
  have hs := hs.fix 10 (.bool false) rfl (vb h18)
  have hsh := ite_f hc19 h18
  refine st_val hs (y_move rfl) ⟨_, rfl, rfl⟩ rfl rfl fun a hs => ?_
  obtain ⟨rv22, h21, hsh⟩ := bind_t hsh
  refine st_callR hs (ref01_In_ok h21 hw.bdom) (do_call Tryz.call55 rfl) ⟨_, rfl, rfl⟩ rfl rfl ?_
  intro v26 Sv23 w a h24 h25 hs
  subst h25
  have hw := hw.callB h24
  refine st_val hs (y_not rfl) ⟨_, rfl, rfl⟩ rfl rfl fun a hs => ?_
  refine sv hs (y_pickF rfl rfl) rfl fun a hs => ?_
  refine wpList_nil ?_
  have hsh := oi hsh
  subst hsh
  refine then_normal ?_
  exact ⟨S0, (hs.wk rfl), (hw.ft [0] [] (by decide) rfl rfl)⟩
 rintro a w ⟨Sv20, hs, hw⟩
 refine nl ?_
 refine wp_cond_split (hs.ev rfl) (fun h29 => ?_) (fun h29 => ?_)
 ·have hsh := ite_t hsh h29
  refine sr ?_
  refine sv hs (y_build (vs := []) Bld33 rfl rfl) rfl fun a hs => ?_
  refine w_store (m := 2) (cs' := [.int .i64 0, .int .i64 0]) hs hw 0 rfl rfl rfl Tryz.sizeOf33 rfl rfl rfl rfl trivial ?_
  intro a w hs hw
  refine av hs rfl rfl fun a hs => ?_
  refine nl ?_
  have hsh := oi hsh
  subst hsh
  refine wp_ret ?_
  refine then_ret ?_
  exact ret2 hs rfl (rv_cell hw 0 rfl rfl Tryz.isAgg33 Tryz.sizeOf33 rfl) (rv_tmp rfl) (hw.ret rfl)
 have hsh := ite_f hsh h29
 refine wp_skip ?_
 refine then_normal ?_
 refine sr ?_
 refine mv hs rfl rfl fun a hs => ?_
 refine mv hs rfl rfl fun a hs => ?_
 obtain ⟨rv31, h30, hsh⟩ := bind_t hsh
 refine st_callR hs (ref02_gcd_ok h30 hw.bdom) (do_call Tryz.call70 rfl) trivial rfl rfl ?_
 intro v35 Sv32 w a h33 h34 hs
 subst h34
 have hw := hw.callB h33
 refine av hs rfl rfl fun a hs => ?_
 refine nl ?_
 refine wp_seq ?_
 obtain ⟨quo38, h37, hsh⟩ := bind_t hsh
 obtain ⟨quo40, h39, hsh⟩ := bind_t hsh
 refine wp_only (fun a w => ∃ (Sv41 : Nat → Prop), Sl 26 [(4, .pointer (some ⟨b3, 0, none⟩)), (5, .int .i64 0)] a ∧ Wd ⟨w0, S0, []⟩ Sv41 [.box b3 [.int .i64 quo38, .int .i64 quo40] 33] [] w) ?_ ?_
 ·refine h_b (C := Cls [] []) (by kernel_rfl) rfl (hw.drew.cs [] [] rfl rfl) fun hC => ?_
  have hw := hw.drew
  refine gm hs 0 rfl rfl rfl hC fun a hs => ?_
  refine gm hs 1 rfl rfl rfl hC fun a hs => ?_
  refine gv hs 2 rfl rfl hC (fun w hC => y_quoM rfl rfl h37) fun a hs => ?_
  refine gm hs 3 rfl rfl rfl hC fun a hs => ?_
  refine gm hs 4 rfl rfl rfl hC fun a hs => ?_
  refine gv hs 5 rfl rfl hC (fun w hC => y_quoM rfl rfl h39) fun a hs => ?_
  refine gv hs 6 rfl rfl hC (fun w hC => y_build (vs := [(0, .int .i64 quo38), (1, .int .i64 quo40)]) Bld33 rfl rfl) fun a hs => ?_
  refine ho 7 rfl ?_
  refine w_store (m := 2) (cs' := [.int .i64 quo38, .int .i64 quo40]) hs hw 0 rfl rfl rfl Tryz.sizeOf33 rfl rfl rfl rfl trivial ?_
  intro a w hs hw
  refine h_nx (hw.cs [] [] rfl rfl) fun hC => ?_
  refine gv hs 8 rfl rfl hC (fun w hC => y_assign rfl) fun a hs => ?_
  refine h_done (by kernel_rfl) ?_
  exact ⟨Sv20, (hs.wk rfl), (hw.ft [0] [] (by decide) rfl rfl)⟩
 rintro a w ⟨Sv41, hs, hw⟩
 refine then_normal ?_
 have hsh := oi hsh
 subst hsh
 refine wp_ret ?_
 exact ret2 hs rfl (rv_cell hw 0 rfl rfl Tryz.isAgg33 Tryz.sizeOf33 rfl) (rv_tmp rfl) (hw.ret rfl)

end Go.Proofs.YthdimlepjpnncaaGreat.Wk
